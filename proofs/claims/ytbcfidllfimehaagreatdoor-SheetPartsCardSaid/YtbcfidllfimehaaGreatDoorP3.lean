/- Texts of ours in one: Gc5, GcdS, Fr1, Fr2, Fr3, Ha1, Ha2, Ev16, Ls1, LsP, Ls2, Ls3, Fr4, NearP, NearQ, SimpP, SimpS, Lw1, Lw2, Lw3, Lw4, Simp, Simp2, Simp3, Simp4, Ls4, Str3, DgP, PaP, ShP, ShQ, Ev17, Ev18, Ev19, Ev20, Ev21, Ls5, Ls6, Gn1, GnP, Gn2, Gn3, Gn7, Ev22, Gn8, Gn4, Gn5, Gn9, Gn6, Ev23, Gn10, Gn11, Seq, Sorted, DicePlain, Lists, SortPlain, Asc, GnC, Gn12, Gn13, Gn14, GnQ, GnR, GnS, GnT, GnV, Wd1, Ls7, LsR, Ls8, Wd2, Ha3, Lw8, Lw9, Wd3, Wd4, Ev24, RqL, Wd5, GnX, Tr1, Ev25, Wd6, Tr2, Dice, Draw, RefDice, Dg1, Wd7, Ev26, Tr3, Ev27, Stable, Swaps, RestPlain, Rest, Same, Rising, Tr4, Tr5, TrT, Tr6, ShR, ShS, Tx1, PaA, Bd1, Bd2, Tx2, PaB, PaC, PaD, Ev28, ShA, Ev29, Ev30, Ev32, ShB, PaE, PaF, PaG, PaH, PaI, PaJ, Tx3, Tx4, Tx5, PaK, ShT, ShY, ShV, ShD. -/
import Derived.Test.YtbcfidllfimehaaGreatDoorP0
import Derived.Test.YtbcfidllfimehaaGreatDoorP1
import Derived.Test.YtbcfidllfimehaaGreatDoorP2
import Derived.Laws.Concat
import Derived.Test.YtbcfidllfimehaaGreatDoorProg
import Derived.RangeFuncBox
import Derived.RangeFuncLeaves
import Derived.Shelf.Abstract
import Derived.OwnWalkIn
import Derived.TacticsInMore
import Derived.LoopNIn
import Derived.LoopIn
import Derived.Maps.AppendAt
import Derived.Test.YtbcfidllfimehaaGreatDoorRows
import Derived.WalkKit
import Derived.Sort.OwnSortedInts
import Derived.Lib.SlicesCompact
import Derived.WalkLawsBesides
import Derived.Deep.LoopGhost
import Derived.Lib.ConvBytes
import Derived.Deep.QuietTactic
import Derived.BigQuiet
import Derived.Lib.AppendStr
import Derived.Lib.UnsafeStr
import Derived.Laws.IdiomStrings
import Derived.Lib.Split
import Derived.Lib.CountLaws
import Derived.Shelf.Strings.SplitCore
import Derived.Lib.IndexBytes
set_option linter.unusedVariables false
set_option linter.unusedSimpArgs false

namespace Go.Proofs.YtbcfidllfimehaaGreatDoor
open Go.RowKit _root_.Go.Proofs.Tryz
structure OW (b off cap:Nat) (cs:List Value) (l:List Nat):Prop where
 at_:Wn cs off l
 norm:Norm W64 l
 cap:l.length≤cap
 len:l.length≤20000000
 odd:val W64 l % 2=1
structure BSt where
 (bv ov cv:Nat) (lv:List Nat) (sv:List Value)
 (bw ow cw:Nat) (lw:List Nat) (sw:List Value)
def BSt.env (q:BSt) (t:Int):Env:=[(4,.p 4 0),(5,.v (.slice (some ⟨q.bv,q.ov,none⟩) q.lv.length q.cv)),(6,.v (.slice (some ⟨q.bw,q.ow,none⟩) q.lw.length q.cw)),(7,.v (.int .i64 t))]
def BSt.own (q:BSt):Ows:=[(q.bv,73,q.sv),(q.bw,73,q.sw)]
structure BSt.ok (q:BSt) (g:Nat):Prop where
 v:OW q.bv q.ov q.cv q.sv q.lv
 w:OW q.bw q.ow q.cw q.sw q.lw
 gcd:Nat.gcd (val W64 q.lv) (val W64 q.lw)=g
theorem odd_pos {n:Nat} (h:n % 2=1):n≠0:=by omega
theorem two_swap {α:Type} (a b:α):List.Perm [a,b] [b,a]:=List.Perm.swap b a []
theorem ordN_zero {a b:Nat} (h:ordN a b=0):a=b:=by
 unfold ordN at h;split at h
 ·cases h
 ·split at h
  ·cases h
  ·omega
theorem natV_cells (n:Nat):natV n=.agg #[.int .u64 (lo n:Int),.string (moreB n)]:=rfl
theorem wbinary_pv (x y:Nat) (hx:x≠0) (hy:y≠0) (hbx':big x) (hby':big y):PV prog 231 #[natV x,natV y] (natV (Nat.gcd x y)):=by
 have lx:(dig W64 x).length≤20000000:=Nat.le_trans (dig_len_big hbx') (by decide)
 have ly:(dig W64 y).length≤20000000:=Nat.le_trans (dig_len_big hby') (by decide)
 have hpx:=fun G=>PO.of_pw ((wwords_pw x hbx' G).mono (Ψ:=fun v ow _=>ow.length≤1∧∃ g,v=.slice (some ⟨g,0,none⟩) (dig W64 x).length (dig W64 x).length∧ow=[(g,73,(dig W64 x).map n64)]) fun v ow H' _ ⟨g,h1,h2⟩=>⟨by rw [h2];simp,g,h1,h2⟩)
 have hpy:=fun G=>PO.of_pw ((wwords_pw y hby' G).mono (Ψ:=fun v ow _=>ow.length≤1∧∃ g,v=.slice (some ⟨g,0,none⟩) (dig W64 y).length (dig W64 y).length∧ow=[(g,73,(dig W64 y).map n64)]) fun v ow H' _ ⟨g,h1,h2⟩=>⟨by rw [h2];simp,g,h1,h2⟩)
 have dx:=dig_norm W64_two x
 have dy:=dig_norm W64_two y
 have vx:=dig_val W64_two x
 have vy:=dig_val W64_two y
 generalize dig W64 x=dgx at *
 generalize dig W64 y=dgy at *
 have hvx0:val W64 dgx≠0:=by rw [vx];exact hx
 have hvy0:val W64 dgy≠0:=by rw [vy];exact hy
 refine PV.of_pc ?_
 refine BD func231 ntmps231 ?_
 try refine RUN ?_
 apply EV.drawn 6 kR kR;intro x1 y1
 (repeat refine' DD ?_)
 refine' DJ.callO rfl rfl rfl rfl rfl (hpx gH).can (fun G _ _=>hpx G) ?_;rotate_left
 (repeat refine' DD ?_)
 refine' DJ.callO rfl rfl rfl rfl rfl (hpy gH).can (fun G _ _=>hpy G) ?_;rotate_left
 refine' DJ.copy (0+1) (.inr rfl) rfl rfl rfl id rfl kR ?_;rotate_left
 refine' DJ.copy (0+1+1+1) (.inr rfl) rfl rfl rfl id rfl kR ?_;rotate_left
 (refine DJ.nil (fun G hG hF=>?_);(case hS|hS2=>rfl))
 obtain ⟨⟨gy,ey,oy⟩,⟨gx,ex,ox⟩,_⟩:=hF
 simp only [ex,ey,ox,oy,id]
 clear hpx hpy ex ey ox oy
 try refine RUN ?_
 refine EVL.permOw [(gx,73,dgx.map n64),(gy,73,dgy.map n64)] (two_swap _ _) ?_
 refine EVL.callW rfl rfl rfl rfl rfl ([(gx,73,dgx.map n64)]) ([(gy,73,dgy.map n64)]) rfl (wzeros_pw (Wn.of dgx) dx.1 oM hvx0) ?_
 rintro v ow H1 ⟨rfl,zx,mx,rfl,hzx,hmx,hzx2⟩ hle1
 try refine RUN ?_
 refine EVL.permOw [(gy,73,dgy.map n64),(gx,73,dgx.map n64)] (two_swap _ _) ?_
 refine EVL.callW rfl rfl rfl rfl rfl ([(gy,73,dgy.map n64)]) ([(gx,73,dgx.map n64)]) rfl (wzeros_pw (Wn.of dgy) dy.1 oM hvy0) ?_
 rintro v ow H2 ⟨rfl,zy,my,rfl,hzy,hmy,hzy2⟩ hle2
 try refine RUN ?_
 rw [show (if (zy:Int)<(zx:Int) then (zy:Int) else (zx:Int))=((min zx zy:Nat):Int) by split <;> omega]
 try refine RUN ?_
 refine EVL.permOw [(gx,73,dgx.map n64),(gy,73,dgy.map n64)] (two_swap _ _) ?_
 refine EVL.callW rfl rfl rfl rfl rfl ([(gx,73,dgx.map n64)]) ([(gy,73,dgy.map n64)]) rfl (wdown_pw (Wn.of dgx) dx.1 oM (Nat.le_refl _) hvx0) ?_
 rintro v ow H3 ⟨sx,ox,cx,rx,zx',rfl,hwx,hnx,hlx,hcx,rfl,hdx,hox⟩ hle3
 try refine RUN ?_
 refine EVL.permOw [(gy,73,dgy.map n64),(gx,73,sx)] (two_swap _ _) ?_
 refine EVL.callW rfl rfl rfl rfl rfl ([(gy,73,dgy.map n64)]) ([(gx,73,sx)]) rfl (wdown_pw (Wn.of dgy) dy.1 oM (Nat.le_refl _) hvy0) ?_
 rintro v ow H4 ⟨sy,oy,cy,ry,zy',rfl,hwy,hny,hly,hcy,rfl,hdy,hoy⟩ hle4
 refine EVL.permOw [(gx,73,sx),(gy,73,sy)] (two_swap _ _) ?_
 have hgcd:Nat.gcd x y=2 ^ min zx zy*Nat.gcd (val W64 rx) (val W64 ry):=by
  have e1:zx=zx':=odd_part (by rw [← hzx,hdx]) hmx hox
  have e2:zy=zy':=odd_part (by rw [← hzy,hdy]) hmy hoy
  subst e1 e2
  rw [← vx,← vy]
  exact gcd_binary _ _ zx zy _ _ hdx hdy hox hoy
 have htw:min zx zy≤1300000000:=by omega
 generalize min zx zy=tw at *
 generalize hg:Nat.gcd (val W64 rx) (val W64 ry)=g at *
 have hbg:big (Nat.gcd x y):=Nat.le_trans (bl_gcd_left x y hx) hbx'
 generalize Nat.gcd x y=gg at *
 try refine RUN ?_
 refine EV.loop (ι:=BSt) (fun q=>q.env (tw:Int)) (fun _=>[(4,75,Tryz.te75.zero)]) (fun q=>q.own) (fun q _=>q.ok g) (fun q=>val W64 q.lv+val W64 q.lw) ⟨gx,ox,cx,rx,sx,gy,oy,cy,ry,sy⟩
  ⟨rfl,rfl,rfl,rfl,trivial⟩ ⟨rfl,trivial⟩ rfl (fun _=>rfl) ⟨⟨hwx,hnx,hcx,Nat.le_trans hlx lx,hox⟩,⟨hwy,hny,hcy,Nat.le_trans hly ly,hoy⟩,hg⟩ ?_
 clear hdx hdy hzx hzy hwx hnx hlx hcx hwy hny hly hcy hox hoy hle1 hle2 hle3 hle4 hg
 rintro ⟨bv,ov,cv,lv,sv,bw,ow,cw,lw,sw⟩ G hG ⟨⟨v1,v2,v3,v4,v5⟩,⟨w1,w2,w3,w4,w5⟩,hgq⟩
 dsimp only at v1 v2 v3 v4 v5 w1 w2 w3 w4 w5 hgq
 unfold BSt.env BSt.own
 dsimp only
 try refine RUN ?_
 refine EVL.callW rfl rfl rfl rfl rfl ([(bv,73,sv),(bw,73,sw)]) ([]) rfl (wcompare_pw v1 w1 v2 w2 oM) ?_
 rintro v ow1 H5 ⟨rfl,rfl⟩ hle5
 try refine RUN ?_
 by_cases hc0:ordN (val W64 lv) (val W64 lw)=0
 ·rw [show (ordN (val W64 lv) (val W64 lw) == 0)=true by rw [hc0];rfl]
  have hvw:=ordN_zero hc0
  rw [← hvw,Nat.gcd_self] at hgq
  try refine RUN ?_
  refine EVL.callW rfl rfl rfl rfl rfl ([(bv,73,sv)]) ([(bw,73,sw)]) rfl (wnumber_pw v1 v2.1 v4) ?_
  rintro v ow2 H6 ⟨rfl,rfl⟩ hle6
  rw [hgq,natV_cells]
  try refine RUN ?_
  refine EV.loop (ι:=Int × Nat) (fun q=>[(4,.p 4 0),(9,.p 9 0),(7,.v (.int .i64 q.1))]) (fun q=>[(9,75,[.int .u64 (lo q.2:Int),.string (moreB q.2)]),(4,75,Tryz.te75.zero)]) (fun _=>[(bv,73,sv),(bw,73,sw)])
   (fun q _=>q.2*2 ^ q.1.toNat=gg∧q.1≤1300000000 ∧ -100000≤q.1) (fun q=>q.1.toNat) ((tw:Int),g) ⟨rfl,rfl,rfl,trivial⟩ ⟨rfl,rfl,trivial⟩ rfl (fun _=>rfl) ⟨by dsimp only;rw [Int.toNat_natCast,hgcd,Nat.mul_comm],by dsimp only;omega,by dsimp only;omega⟩ ?_
  rintro ⟨t,o⟩ G2 hG2 ⟨ht,ht1,ht2⟩
  dsimp only at ht ht1 ht2
  try refine RUN ?_
  by_cases htp:t>0
  ·rw [show decide (t>0)=true by simpa using htp]
   obtain ⟨k,hk,hkt⟩:∃ k:Nat,(if (65536:Int)<t then (65536:Int) else t)=(k:Int)∧k=min t.toNat 65536:=⟨min t.toNat 65536,by split <;> omega,rfl⟩
   have hbo:big o:=by
    refine Nat.le_trans (bl_mono ?_) hbg
    rw [← ht];exact Nat.le_mul_of_pos_right _ (Nat.pow_pos (by decide))
   have hsh:=natShift_up o k oM hbo
   try refine RUN ?_
   rw [hk]
   repeat (first | refine RUN ?_ | refine CV (hsh) ?_ | refine CE (hsh) ?_)
   refine ⟨(t-65536,o*2 ^ k),⟨rfl,rfl,?_,trivial⟩,⟨rfl,rfl,trivial⟩,rfl,⟨?_,by dsimp only;omega,by dsimp only;omega⟩,Hp.Le.refl _,by dsimp only;omega⟩
   ·rw [show IntKind.i64.wrap (t-65536)=t-65536 by rw [IntKind.wrap_i64];omega];rfl
   ·dsimp only
    rw [← ht,Nat.mul_assoc,← Nat.pow_add]
    congr 2
    omega
  ·rw [show decide (t>0)=false by simpa using htp]
   rw [show t.toNat=0 by omega,Nat.pow_zero,Nat.mul_one] at ht
   subst ht
   try refine RUN ?_
   rfl
 ·rw [show (ordN (val W64 lv) (val W64 lw) == 0)=false by simpa using hc0]
  try refine RUN ?_
  refine EV.meet (fun env' bx' H'=>∃ q:BSt,SubL env' (q.env (tw:Int))∧SubX bx' [(4,75,Tryz.te75.zero)]∧H'.ow=q.own∧G.Le H'.ro∧q.ok g∧val W64 q.lw<val W64 q.lv∧val W64 q.lv+val W64 q.lw=val W64 lv+val W64 lw) ?_ ?_
  ·rintro env' bx' ⟨G6,ow6,base6⟩ _ ⟨⟨bv,ov,cv,lv,sv,bw,ow,cw,lw,sw⟩,he,hbx6,how,hleG,⟨⟨v1,v2,v3,v4,v5⟩,⟨w1,w2,w3,w4,w5⟩,hgq⟩,hlt,hsum⟩
   dsimp only at v1 v2 v3 v4 v5 w1 w2 w3 w4 w5 hgq hlt hsum
   refine EV.less _ _ he hbx6 rfl ?_
   unfold BSt.own at how
   dsimp only at how
   subst how
   unfold BSt.env
   dsimp only
   have hlen:lw.length≤lv.length:=by
    refine Nat.le_of_not_lt fun h=>?_
    have:=len_less W64_two v2.1 w2 h
    omega
   try refine RUN ?_
   refine EVL.callW rfl rfl rfl rfl rfl ([(bv,73,sv),(bw,73,sw)]) ([]) rfl (wsubtract_pw v1 w1 v2.1 w2.1 oM hlen v3 oM) ?_
   rintro v ow7 H7 ⟨s7,r7,rfl,hw7,hn7,hl7,rfl,hv7⟩ hle7
   try refine RUN ?_
   refine EVL.callW rfl rfl rfl rfl rfl ([(bv,73,s7)]) ([(bw,73,sw)]) rfl (wdown_pw hw7 hn7.1 oM oM oM) ?_
   rintro v ow8 H8 ⟨s8,o8,c8,r8,z8,rfl,hw8,hn8,hl8,hc8,rfl,hd8,ho8⟩ hle8
   try refine RUN ?_
   have hr:=gcd_round (val W64 lv) (val W64 lw) z8 (val W64 r8) w5 oM (by rw [← hv7];exact hd8)
   have hle9:val W64 r8≤val W64 r7:=by rw [hd8];exact Nat.le_mul_of_pos_left _ (Nat.pow_pos (by decide))
   refine ⟨⟨bv,o8,c8,r8,s8,bw,ow,cw,lw,sw⟩,⟨rfl,rfl,rfl,rfl,trivial⟩,⟨rfl,trivial⟩,rfl,⟨⟨hw8,hn8,hc8,by dsimp only;omega,ho8⟩,⟨w1,w2,w3,w4,w5⟩,by dsimp only;rw [hr];exact hgq⟩,(hleG.trans hle7).trans hle8,?_⟩
   dsimp only
   have:=odd_pos w5
   omega
  ·by_cases hlt:ordN (val W64 lv) (val W64 lw)<0
   ·rw [show decide (ordN (val W64 lv) (val W64 lw)<0)=true by simpa using hlt]
    have hvl:val W64 lv<val W64 lw:=by
     unfold ordN at hlt
     split at hlt
     ·assumption
     ·split at hlt <;> simp at hlt
    refine EV.permOw [(bw,73,sw),(bv,73,sv)] (two_swap _ _) ?_
    try refine RUN ?_
    exact ⟨⟨bw,ow,cw,lw,sw,bv,ov,cv,lv,sv⟩,⟨rfl,rfl,rfl,rfl,trivial⟩,⟨rfl,trivial⟩,rfl,hle5,⟨⟨w1,w2,w3,w4,w5⟩,⟨v1,v2,v3,v4,v5⟩,by dsimp only;rw [Nat.gcd_comm];exact hgq⟩,hvl,Nat.add_comm _ _⟩
   ·rw [show decide (ordN (val W64 lv) (val W64 lw)<0)=false by simpa using hlt]
    have hvl:val W64 lw<val W64 lv:=by
     unfold ordN at hlt hc0
     split at hlt
     ·simp at hlt
     ·rename_i h1
      rw [if_neg h1] at hc0
      split at hc0
      ·assumption
      ·simp at hc0
    try refine RUN ?_
    exact ⟨⟨bv,ov,cv,lv,sv,bw,ow,cw,lw,sw⟩,⟨rfl,rfl,rfl,rfl,trivial⟩,⟨rfl,trivial⟩,rfl,hle5,⟨⟨v1,v2,v3,v4,v5⟩,⟨w1,w2,w3,w4,w5⟩,hgq⟩,hvl,rfl⟩
theorem gcdN_pv (c1 c2:Nat) (h1:big c1) (h2:big c2) (sx sy:Bool) (hsx:c1=0→sx=false) (hsy:c2=0→sy=false) :
  PV prog 212 #[.agg #[.bool sx,.int .u64 (lo c1:Int),.string (moreB c1)],.agg #[.bool sy,.int .u64 (lo c2:Int),.string (moreB c2)]] (natV (Nat.gcd c1 c2)):=by
 refine PV.of_pc ?_
 refine BD func212 ntmps212 ?_
 try refine RUN ?_
 (apply EV.drawn 7 kR kR;intro xv yw;(repeat (first | refine' DD ?_));refine DJ.nil (fun G hG hF=>?_);(case hS|hS2=>rfl))
 repeat (first | refine RUN ?_ | refine CV (natCmp_pv c1 c2 h1 h2) ?_ | refine CE (natCmp_pv c1 c2 h1 h2) ?_)
 refine EV.meet (fun env' bx' H'=>∃ u w:Nat,SubL env' [(4,.p 4 0),(5,.p 5 0),(6,.p 6 0)]∧SubX bx' [(4,75,Tryz.te75.zero),(5,75,[.int .u64 (lo u:Int),.string (moreB u)]),(6,75,[.int .u64 (lo w:Int),.string (moreB w)])]∧H'.ow=[]∧w≤u∧big u∧big w∧Nat.gcd u w=Nat.gcd c1 c2) ?_ ?_
 ·rintro env' bx' ⟨G1,ow1,base1⟩ hb ⟨u,w,he,hbx,how,hwu,hu,hw,hg⟩
  obtain rfl:base1=⟨fun _=>none,[]⟩:=hb
  obtain rfl:ow1=[]:=how
  refine EV.less _ _ he hbx rfl ?_
  clear h1 h2 hsx hsy hbx he
  generalize Nat.gcd c1 c2=gg at *
  subst hg
  repeat (first | refine RUN ?_ | refine CV (bits_pv w hw) ?_ | refine CE (bits_pv w hw) ?_)
  rw [bl_zero_iff]
  by_cases hw0:w=0
  ·subst hw0
   rw [decide_eq_true rfl,Nat.gcd_zero_right]
   try refine RUN ?_
   rfl
  ·rw [decide_eq_false hw0]
   repeat (first | refine RUN ?_ | refine CV (natDiv_pv u w hw0 hu hw) ?_ | refine CE (natDiv_pv u w hw0 hu hw) ?_)
   have hm:u % w<w:=Nat.mod_lt _ oM
   have hgr:Nat.gcd u w=Nat.gcd w (u % w):=by rw [Nat.gcd_comm,Nat.gcd_rec,Nat.gcd_comm]
   have hbm:big (u % w):=Nat.le_trans (bl_mod u w) hu
   rw [hgr]
   generalize u % w=r at *
   generalize u / w=qq at *
   clear hgr hwu hu
   rw [natV_cells,natV_cells]
   try refine RUN ?_
   refine EV.less [(4,.p 4 0),(5,.p 5 0),(6,.p 6 0),(8,.p 8 0)] ([(5,75,[.int .u64 (lo u:Int),.string (moreB u)]),(4,75,Tryz.te75.zero),(6,75,[.int .u64 (lo w:Int),.string (moreB w)]),(8,75,[.int .u64 (lo r:Int),.string (moreB r)])]) ⟨rfl,rfl,rfl,rfl,trivial⟩ ⟨rfl,rfl,rfl,rfl,trivial⟩ rfl ?_
   apply EV.drawnS ([(5,75,[.int .u64 (lo u:Int),.string (moreB u)])]) 3 kR kR;intro xv yw
   (repeat refine' DD ?_)
   (refine DJ.nil (fun G hG hF=>?_);(case hS|hS2=>rfl);(case hD=>rfl))
   repeat (first | refine RUN ?_ | refine CV (bits_pv r hbm) ?_ | refine CE (bits_pv r hbm) ?_)
   rw [bl_zero_iff]
   by_cases hr0:r=0
   ·subst hr0
    rw [decide_eq_true rfl,Nat.gcd_zero_right]
    try refine RUN ?_
    rfl
   ·rw [decide_eq_false hr0]
    repeat (first | refine RUN ?_ | refine CV (natSmall_pv w) ?_ | refine CE (natSmall_pv w) ?_)
    by_cases hws:w<W64
    ·have hrs:r<W64:=by omega
     rw [decide_eq_true hws,if_pos hws]
     repeat (first | refine RUN ?_ | refine CV (natSmall_pv r) ?_ | refine CE (natSmall_pv r) ?_)
     rw [decide_eq_true hrs,if_pos hrs]
     try refine RUN ?_
     refine EV.loop (ι:=Nat × Nat) (fun q=>[(4,.p 4 0),(10,.v (n64 q.1)),(12,.v (n64 q.2))]) (fun _=>[(4,75,Tryz.te75.zero)]) (fun _=>[]) (fun q _=>q.1<W64∧q.2<W64∧Nat.gcd q.1 q.2=Nat.gcd w r) (fun q=>q.2) (w,r) ⟨rfl,rfl,rfl,trivial⟩ ⟨rfl,trivial⟩ rfl (fun _=>rfl) ⟨hws,hrs,rfl⟩ ?_
     rintro ⟨m,k⟩ G2 hG2 ⟨hms,hks,hgk⟩
     dsimp only at hms hks hgk
     try refine RUN ?_
     by_cases hk0:k=0
     ·subst hk0
      rw [show decide ((((m,0):Nat × Nat).2:Int)>0)=false from rfl]
      rw [Nat.gcd_zero_right] at hgk
      repeat (first | refine RUN ?_ | refine CV (natOf_pv m hms) ?_ | refine CE (natOf_pv m hms) ?_)
      rw [hgk]
     ·rw [show decide ((((m,k):Nat × Nat).2:Int)>0)=true by simp;omega]
      try refine RUN ?_
      apply EV.drawn 6 kR kR;intro xv yw
      (repeat refine' DD ?_)
      refine' DJ.ofVal (ValOk.rem rfl rfl rfl rfl (show ((k:Nat):Int)≠0 by omega)) rfl rfl rfl ?_;rotate_left
      (repeat refine' DD ?_)
      (refine DJ.nil (fun G hG hF=>?_);(case hS|hS2=>rfl))
      rw [show (((m,k):Nat × Nat).1:Int).tmod (((m,k):Nat × Nat).2:Int)=((m % k:Nat):Int) from wi_rem m k]
      try refine RUN ?_
      refine ⟨(k,m % k),⟨rfl,rfl,rfl,trivial⟩,⟨rfl,trivial⟩,rfl,⟨hks,Nat.lt_of_le_of_lt (Nat.mod_le m k) hms,?_⟩,hG,Nat.mod_lt _ oM⟩
      ·dsimp only
       rw [← hgk,Nat.gcd_comm m k,Nat.gcd_rec k m,Nat.gcd_comm]
    ·rw [decide_eq_false hws]
     repeat (first | refine RUN ?_ | refine CV (wbinary_pv w r hw0 hr0 hw hbm) ?_ | refine CE (wbinary_pv w r hw0 hr0 hw hbm) ?_)
     rfl
 ·by_cases hlt:c1<c2
  ·rw [ordN_lt hlt,show decide ((-1:Int)<0)=true from rfl]
   try refine RUN ?_
   exact ⟨c2,c1,⟨rfl,rfl,rfl,trivial⟩,⟨rfl,rfl,rfl,trivial⟩,rfl,by omega,h2,h1,Nat.gcd_comm _ _⟩
  ·rw [show decide (ordN c1 c2<0)=false by unfold ordN;rw [if_neg hlt];split <;> rfl]
   try refine RUN ?_
   exact ⟨c1,c2,⟨rfl,rfl,rfl,trivial⟩,⟨rfl,rfl,rfl,trivial⟩,rfl,by omega,h1,h2,rfl⟩
theorem gcd_pv (a b:Int) (ha:bigI a) (hb:bigI b):PV prog 212 #[intV a,intV b] (natV (Nat.gcd a.natAbs b.natAbs)) :=
 gcdN_pv a.natAbs b.natAbs ha hb _ _ (fun h=>by simp;omega) (fun h=>by simp;omega)
abbrev frV (n:Int) (d:Nat):Value:=.agg #[.bool (decide (n<0)),.int .u64 (lo n.natAbs:Int),.string (moreB n.natAbs),.int .u64 (lo d:Int),.string (moreB d)]
def dk (d:Nat):Nat:=if d=1 then 0 else d
abbrev fracV (q:Rat):Value:=frV q.num (dk q.den)
theorem dk_one:dk 1=0:=rfl
theorem dk_ne {d:Nat} (h:d≠1):dk d=d:=if_neg h
theorem dk_bl (d:Nat):bl (dk d)≤bl d:=by
 unfold dk;split
 ·rw [bl_zero];omega
 ·exact Nat.le_refl _
theorem dk_zero (q:Rat):dk q.den=0↔q.den=1:=by
 have:=q.den_nz
 unfold dk;split <;> omega
theorem bl_one:bl 1=1:=by have:=bl_pow2 0;simpa using this
theorem bl_eq_one {n:Nat}:bl n=1↔n=1:=by
 constructor
 ·intro h
  have h1:=lt_bl n
  rw [h] at h1
  have:n≠0:=fun e=>by rw [e,bl_zero] at h;omega
  omega
 ·rintro rfl;exact bl_one
theorem beq_bl_one (n:Nat):(((bl n:Nat):Int) == 1)=decide (n=1):=by
 by_cases h:n=1
 ·rw [decide_eq_true h,bl_eq_one.2 h];rfl
 ·rw [decide_eq_false h]
  have:bl n≠1:=fun e=>h (bl_eq_one.1 e)
  simp;omega
theorem frV_zero (n:Int):frV n 0=.agg #[.bool (decide (n<0)),.int .u64 (lo n.natAbs:Int),.string (moreB n.natAbs),.int .u64 0,.string ⟨#[]⟩]:=by
 unfold frV
 rw [moreB_empty (n:=0) (by decide)];rfl
theorem pack_pv (n:Int) (d:Nat) (hd:big d):PV prog 213 #[intV n,natV d] (frV n (dk d)):=by
 refine PV.of_pc ?_
 refine BD func213 ntmps213 ?_
 repeat (first | refine RUN ?_ | refine CV (bits_pv d hd) ?_ | refine CE (bits_pv d hd) ?_)
 rw [beq_bl_one]
 by_cases h:d=1
 ·rw [decide_eq_true h]
  try refine RUN ?_
  rw [h,dk_one,frV_zero]
 ·rw [decide_eq_false h]
  try refine RUN ?_
  rw [dk_ne h]
theorem over_pv (a b:Nat) (ha:big a) (hb:big b) (h0:b≠0):PV prog 215 #[natV a,natV b] (natV (a / b)):=by
 refine PV.of_pc ?_
 refine BD func215 ntmps215 ?_
 repeat (first | refine RUN ?_ | refine CV (bits_pv b hb) ?_ | refine CE (bits_pv b hb) ?_)
 rw [beq_bl_one]
 by_cases h:b=1
 ·rw [decide_eq_true h]
  try refine RUN ?_
  rw [h,Nat.div_one]
 ·rw [decide_eq_false h]
  repeat (first | refine RUN ?_ | refine CV (natDiv_pv a b h0 ha hb) ?_ | refine CE (natDiv_pv a b h0 ha hb) ?_)
  rfl
theorem part_pv (n:Int) (b:Nat) (hn:bigI n) (hb:big b) (h0:b≠0) (hdv:b ∣ n.natAbs):PV prog 214 #[intV n,natV b] (intV (n / (b:Int))):=by
 have hs:decide (n.sign<0)=decide (n<0):=by rw [decide_eq_decide];exact Int.sign_neg_iff
 have hf:=from_pv (decide (n<0)) (n.natAbs / b) (Nat.le_trans (bl_div _ _) hn)
 have e:sg (decide (n<0)) (n.natAbs / b)=n / (b:Int):=by
  rw [part_eq n b hdv];unfold sg
  by_cases h:n<0 <;> simp [h]
 rw [e] at hf
 refine PV.of_pc ?_
 refine BD func214 ntmps214 ?_
 try refine RUN ?_
 apply EV.drawn 7 kR kR;intro xv yw
 (repeat (first | refine' DD ?_ | (refine' DC (wholeSign_pv n hn) (h:=?_);rotate_left)))
 rw [hs]
 (repeat (first | refine' DD ?_ | (refine' DC (wholeAbs_pv n) (h:=?_);rotate_left) | (refine' DC (over_pv _ _ hn hb h0) (h:=?_);rotate_left)))
 (refine DJ.nil (fun G hG hF=>?_);(case hS|hS2=>rfl))
 repeat (first | refine RUN ?_ | refine CV (hf) ?_ | refine CE (hf) ?_)
 rfl
theorem isWhole_pv (q:Rat) (h:big q.den):PV prog 76 #[fracV q] (.bool (decide (q.den=1))):=by
 refine PV.of_pc ?_
 refine BD func76 ntmps76 ?_
 repeat (first | refine RUN ?_ | refine CV (bits_pv (dk q.den) (Nat.le_trans (dk_bl _) h)) ?_ | refine CE (bits_pv (dk q.den) (Nat.le_trans (dk_bl _) h)) ?_)
 have e:(((bl (dk q.den):Nat):Int) == 0)=decide (q.den=1):=by
  by_cases h1:q.den=1
  ·rw [decide_eq_true h1,(dk_zero q).2 h1,bl_zero];rfl
  ·rw [decide_eq_false h1]
   have h2:bl (dk q.den)≠0:=fun e=>h1 ((dk_zero q).1 (bl_eq_zero.1 e))
   simp;omega
 rw [e]
theorem den_pv (q:Rat) (h:big q.den):PV prog 33 #[fracV q] (natV q.den):=by
 refine PV.of_pc ?_
 refine BD func33 ntmps33 ?_
 repeat (first | refine RUN ?_ | refine CV (isWhole_pv q h) ?_ | refine CE (isWhole_pv q h) ?_)
 by_cases h1:q.den=1
 ·rw [decide_eq_true h1]
  repeat (first | refine RUN ?_ | refine CV (natOf_pv 1 (by decide)) ?_ | refine CE (natOf_pv 1 (by decide)) ?_)
  rw [h1]
 ·rw [decide_eq_false h1]
  try refine RUN ?_
  rw [dk_ne h1]
theorem sign_pv (q:Rat) (h:bigI q.num):PV prog 116 #[fracV q] (.int .i64 q.num.sign):=by
 refine PV.of_pc ?_
 refine BD func116 ntmps116 ?_
 repeat (first | refine RUN ?_ | refine CV (wholeSign_pv q.num h) ?_ | refine CE (wholeSign_pv q.num h) ?_)
 rfl
theorem num_pv (q:Rat):PV prog 29 #[fracV q] (intV q.num):=by
 refine PV.of_pc ?_
 refine BD func29 ntmps29 ?_
 try refine RUN ?_
 rfl
theorem lowest_pv (n:Int) (d:Nat) (hn:bigI n) (hd:big d) (h0:d≠0):PV prog 187 #[intV n,natV d] (fracV (mkRat n d)):=by
 have hl:=rat_lowest n d h0
 have hg0:Nat.gcd n.natAbs d≠0:=Nat.gcd_ne_zero_right h0
 have hgb:big (Nat.gcd n.natAbs d):=Nat.le_trans (bl_gcd_right _ _ h0) hd
 have hg:=gcd_pv n (d:Int) hn hd
 have f1:=part_pv n (Nat.gcd n.natAbs d) hn hgb hg0 (Nat.gcd_dvd_left ..)
 have f2:=over_pv d (Nat.gcd n.natAbs d) hd hgb hg0
 have f3:=pack_pv (n / (Nat.gcd n.natAbs d:Nat)) (d / Nat.gcd n.natAbs d) (Nat.le_trans (bl_div _ _) hd)
 rw [← hl.1] at f1
 rw [← hl.2] at f2
 rw [← hl.1,← hl.2] at f3
 refine PV.of_pc ?_
 refine BD func187 ntmps187 ?_
 try refine RUN ?_
 (apply EV.drawn 5 kR kR;intro xv yw;(repeat (first | refine' DD ?_ | (refine' DC (from_pv false d hd) (h:=?_);rotate_left) | (refine' DC (hg) (h:=?_);rotate_left)));refine DJ.nil (fun G hG hF=>?_);(case hS|hS2=>rfl))
 try refine RUN ?_
 (apply EV.drawn 7 kR kR;intro xv yw;(repeat (first | refine' DD ?_ | (refine' DC (f1) (h:=?_);rotate_left) | (refine' DC (f2) (h:=?_);rotate_left) | (refine' DC (f3) (h:=?_);rotate_left)));refine DJ.nil (fun G hG hF=>?_);(case hS|hS2=>rfl))
 try refine RUN ?_
 rfl
theorem make_pv (n d:Int) (hn:bigI n) (hd:bigI d) (h0:d≠0):PV prog 149 #[intV n,intV d] (.tuple #[fracV (mkRat (if d<0 then -n else n) d.natAbs),.bool true]):=by
 have l1:=lowest_pv (-n) d.natAbs (by show big (-n).natAbs;rw [Int.natAbs_neg];exact hn) hd oM
 have l2:=lowest_pv n d.natAbs hn hd oM
 refine PV.of_pc ?_
 refine BD func149 ntmps149 ?_
 repeat (first | refine RUN ?_ | refine CV (wholeSign_pv d hd) ?_ | refine CE (wholeSign_pv d hd) ?_)
 rw [show (d.sign == 0)=false by simp [Int.sign_eq_zero_iff_zero,h0]]
 repeat (first | refine RUN ?_ | refine CV (wholeSign_pv d hd) ?_ | refine CE (wholeSign_pv d hd) ?_)
 by_cases h:d<0
 ·rw [decide_eq_true (Int.sign_neg_iff.2 h),if_pos h]
  repeat (first | refine RUN ?_ | refine CV (wholeNeg_pv n hn) ?_ | refine CE (wholeNeg_pv n hn) ?_)
  apply EV.drawn 3 kR kR;intro xv yw
  (repeat (first | refine' DD ?_ | (refine' DC (wholeAbs_pv d) (h:=?_);rotate_left)))
  (refine DJ.nil (fun G hG hF=>?_);(case hS|hS2=>rfl))
  repeat (first | refine RUN ?_ | refine CV (l1) ?_ | refine CE (l1) ?_)
  rfl
 ·rw [decide_eq_false (fun e=>h (Int.sign_neg_iff.1 e)),if_neg h]
  try refine RUN ?_
  apply EV.drawn 3 kR kR;intro xv yw
  (repeat (first | refine' DD ?_ | (refine' DC (wholeAbs_pv d) (h:=?_);rotate_left)))
  (refine DJ.nil (fun G hG hF=>?_);(case hS|hS2=>rfl))
  repeat (first | refine RUN ?_ | refine CV (l2) ?_ | refine CE (l2) ?_)
  rfl
abbrev sm (q:Rat):Prop:=ht q≤100000000
theorem pick_pv (z m:Int) (hz:-9223372036854775808≤z∧z<9223372036854775808) (h0:0<m) (hm:m<4611686018427387904):PV prog 18 #[.int .i64 z,.int .i64 m] (.int .i64 (z % m)):=by
 have h1:=Int.tmod_lt_of_pos z h0
 have h2:=Int.lt_tmod_of_pos z h0
 have e:z % m=if z.tmod m<0 then z.tmod m+m else z.tmod m:=by
  have hq:=Int.mul_tdiv_add_tmod z m
  have e1:z % m=z.tmod m % m:=by
   conv=>lhs;rw [← hq]
   rw [Int.mul_add_emod_self_left]
  rw [e1]
  by_cases ht:z.tmod m<0
  ·rw [if_pos ht,← Int.add_emod_right,Int.emod_eq_of_lt oM (by omega)]
  ·rw [if_neg ht,Int.emod_eq_of_lt oM h1]
 refine PV.of_pc ?_
 refine BD func18 ntmps18 ?_
 try refine RUN ?_
 refine EVL.remI rfl rfl rfl rfl rfl rfl oM ?_
 generalize z.tmod m=t at *
 try refine RUN ?_
 by_cases ht:t<0
 ·rw [if_pos ht] at e
  rw [decide_eq_true ht]
  try refine RUN ?_
  rw [e,IntKind.wrap_i64];congr 1;omega
 ·rw [if_neg ht] at e
  rw [decide_eq_false ht]
  try refine RUN ?_
  rw [e]
theorem refNatH_pc {H:Hp} {v:Value} {n:Nat} (h:RN H v n) (hn:rsm n):PC prog 151 #[v] H fun r _=>r=natV n:=by
 have hol:(octs n).length≤200000000:=by
  rw [octs_length]
  have:=dig_len_bits 8 n oM;rw [show (2:Nat) ^ 8=256 by decide] at this;rw [this]
  have:bl n≤800000000:=hn
  omega
 refine BD func151 ntmps151 ?_
 try refine RUN ?_
 refine EVL.call rfl rfl rfl rfl rfl (refBytes_pc h hn) ?_
 rintro r G hr hG
 have hf:=natFromBytes_pc hr (octs_dig n) hol
 rw [octs_val] at hf
 repeat (first | refine RUN ?_ | refine CV (hf) ?_ | refine CE (hf) ?_)
 rfl
theorem outNat_pc {H:Hp} (n:Nat) (hn:rsm n):PC prog 148 #[natV n] H fun r H'=>RN H' r n:=by
 have hol:(octs n).length≤200000000:=by
  rw [octs_length]
  have:=dig_len_bits 8 n oM;rw [show (2:Nat) ^ 8=256 by decide] at this;rw [this]
  have:bl n≤800000000:=hn
  omega
 refine BD func148 ntmps148 ?_
 try refine RUN ?_
 refine EVL.call rfl rfl rfl rfl rfl (natBytes_pc n (Nat.le_trans hn oM) H) ?_
 rintro r G hr hG
 have hf:=refFrom_pc hr (octs_dig n) hol
 rw [octs_val] at hf
 try refine RUN ?_
 refine EVL.call rfl rfl rfl rfl rfl (hf) ?_
 rintro s G2 hs hG2
 try refine RUN ?_
 exact hs
theorem intH_pc {H:Hp} {v:Value} {z:Int} (h:RI H v z) (hz:rsm z.natAbs):PC prog 150 #[v] H fun r _=>r=intV z:=by
 obtain ⟨sa,sl,sc,rfl,hs⟩:=id h
 have hf:=from_pv (decide (z<0)) z.natAbs (Nat.le_trans hz oM)
 rw [sg_dec] at hf
 refine BD func150 ntmps150 ?_
 try refine RUN ?_
 apply EV.drawn 6 kR kR;intro xv yw
 (repeat refine' DD ?_)
 refine' DJ.callS rfl rfl rfl rfl rfl (cO func151) (fun G hG hd=>refNatH_pc (RN.mono hs hG) hz) ?_;rotate_left
 (repeat (first | refine' DD ?_ | (refine' DC (hf) (h:=?_);rotate_left)))
 (refine DJ.nil (fun G hG hF=>?_);(case hS|hS2=>rfl))
 try refine RUN ?_
 rfl
theorem outInt_pc {H:Hp} (z:Int) (hz:rsm z.natAbs):PC prog 147 #[intV z] H fun r H'=>RI H' r z:=by
 have hb:bigI z:=Nat.le_trans hz oM
 have e1:decide (z.sign<0)=decide (z<0):=by rw [decide_eq_decide,Int.sign_neg_iff]
 refine BD func147 ntmps147 ?_
 try refine RUN ?_
 apply EV.drawn 7 kR kR;intro xv yw
 (repeat (first | refine' DD ?_ | (refine' DC (wholeSign_pv z hb) (h:=?_);rotate_left) | (refine' DC (wholeAbs_pv z) (h:=?_);rotate_left)))
 refine' DJ.call rfl rfl rfl rfl rfl (cO func148) (fun G hG hd=>outNat_pc z.natAbs hz) (fun _ _ _ h k=>RN.mono h k) ?_;rotate_left
 rw [e1]
 refine' DJ.call rfl rfl rfl rfl rfl (cO func142) (fun G hG hd=>refI_pc (decide (z<0)) (hd.head kR)) (fun _ _ _ h k=>RI.mono h k) ?_;rotate_left
 (refine DJ.nil (fun G hG hF=>?_);(case hS|hS2=>rfl))
 obtain ⟨⟨ra,rl,rc,hr,h1⟩,_⟩:=hF
 rw [sg_dec] at hr h1
 rw [hr]
 try refine RUN ?_
 exact ⟨ra,rl,rc,rfl,h1⟩
theorem in_pc {H:Hp} {v:Value} {q:Rat} (h:RQ H v q) (hq:rq q):PC prog 100 #[v] H fun r _=>r=fracV q:=by
 obtain ⟨sa,sl,sc,ta,tl,tc,rfl,hs,ht⟩:=id h
 have hn:=hq.num
 have hd':=hq.den
 have hf:=from_pv false q.den (Nat.le_trans hd' oM)
 rw [show sg false q.den=(q.den:Int) from rfl] at hf
 have hm:=make_pv q.num (q.den:Int) (Nat.le_trans hn oM) (Nat.le_trans hd' oM) (by have:=q.den_nz;omega)
 rw [if_neg oM,Int.natAbs_natCast,Rat.mkRat_self] at hm
 refine BD func100 ntmps100 ?_
 try refine RUN ?_
 apply EV.drawn 14 kR kR;intro xv yw
 (repeat refine' DD ?_)
 refine' DJ.callS rfl rfl rfl rfl rfl (cO func150) (fun G hG hd=>intH_pc (RQ.rnum (RN.mono hs hG)) hn) ?_;rotate_left
 (repeat refine' DD ?_)
 refine' DJ.callS rfl rfl rfl rfl rfl (cO func151) (fun G hG hd=>refNatH_pc (RN.mono ht hG) hd') ?_;rotate_left
 (repeat (first | refine' DD ?_ | (refine' DC (hf) (h:=?_);rotate_left) | (refine' DC (hm) (h:=?_);rotate_left)))
 (refine DJ.nil (fun G hG hF=>?_);(case hS|hS2=>rfl))
 try refine RUN ?_
 rfl
theorem out_pc {H:Hp} (q:Rat) (hq:rq q):PC prog 99 #[fracV q] H fun r H'=>RQ H' r q:=by
 have hn:=hq.num
 have hd':=hq.den
 refine BD func99 ntmps99 ?_
 try refine RUN ?_
 apply EV.drawn 6 kR kR;intro xv yw
 (repeat (first | refine' DD ?_ | (refine' DC (num_pv q) (h:=?_);rotate_left) | (refine' DC (den_pv q (Nat.le_trans hd' oM)) (h:=?_);rotate_left)))
 refine' DJ.call rfl rfl rfl rfl rfl (cO func147) (fun G hG hd=>outInt_pc q.num hn) (fun _ _ _ h k=>RI.mono h k) ?_;rotate_left
 (repeat (first | refine' DD ?_ | (refine' DC (num_pv q) (h:=?_);rotate_left) | (refine' DC (den_pv q (Nat.le_trans hd' oM)) (h:=?_);rotate_left)))
 refine' DJ.call rfl rfl rfl rfl rfl (cO func148) (fun G hG hd=>outNat_pc q.den hd') (fun _ _ _ h k=>RN.mono h k) ?_;rotate_left
 (refine DJ.nil (fun G hG hF=>?_);(case hS|hS2=>rfl))
 obtain ⟨hN,⟨ra,rl,rc,hr,h1⟩,_⟩:=hF
 obtain ⟨xa,xc,hx⟩:=SlC.val hN
 rw [hx] at hN
 rw [hx,hr]
 try refine RUN ?_
 exact ⟨ra,rl,rc,xa,_,xc,rfl,h1,hN⟩
theorem refCmpN_pc {H:Hp} {u v:Value} {a b:Nat} (hu:RN H u a) (hv:RN H v b) (ha:rsm a):PC prog 155 #[u,v] H fun r _=>r=.int .i64 (ordN a b):=by
 have la:=ha.len
 have:=refCmpL_pc hu hv (dig_norm B32_two _) (dig_norm B32_two _) oM
 rwa [dig_val B32_two,dig_val B32_two] at this
theorem ordN_eqb (a b:Nat):(ordN a b == 0)=decide (a=b):=by
 unfold ordN
 rcases Nat.lt_trichotomy a b with h | h | h
 ·rw [if_pos h,decide_eq_false (by omega)];rfl
 ·rw [if_neg oM,if_neg oM,decide_eq_true h];rfl
 ·rw [if_neg oM,if_pos h,decide_eq_false (by omega)];rfl
theorem same_pc {H:Hp} {w:Value} {p q:Rat} (hw:RQ H w q) (hp:rq p) (hq:rq q):PC prog 112 #[fracV p,w] H fun r _=>r=.bool (decide (p=q)):=by
 obtain ⟨sa,sl,sc,ta,tl,tc,rfl,hs,ht⟩:=id hw
 have hl:(tl:Int)≠0:=by
  have h1:=SlN.cap ht
  have h2:=dig_ne_nil B32_two q.den_nz
  have h3:=List.length_pos_iff.2 h2
  omega
 refine BD func112 ntmps112 ?_
 try refine RUN ?_
 refine EVL.call rfl rfl rfl rfl rfl (out_pc p hp) ?_
 rintro r G ⟨sa',sl',sc',ta',tl',tc',rfl,hs',ht'⟩ hG
 have c1:=refCmpN_pc hs' (RN.mono hs hG) hp.num
 have c2:=refCmpN_pc ht' (RN.mono ht hG) hp.den
 try refine RUN ?_
 rw [show ((tl:Int) == 0)=false by simpa using hl]
 repeat (first | refine RUN ?_ | refine CV (c1) ?_ | refine CE (c1) ?_)
 rw [ordN_eqb]
 by_cases h1:p.num.natAbs=q.num.natAbs
 ·rw [decide_eq_true h1]
  try refine RUN ?_
  refine EVL.eqb rfl rfl rfl rfl rfl rfl kR ?_
  by_cases h2:decide (p.num<0)=decide (q.num<0)
  ·rw [show (decide (p.num<0) == decide (q.num<0))=true by simp [h2]]
   repeat (first | refine RUN ?_ | refine CV (c2) ?_ | refine CE (c2) ?_)
   rw [ordN_eqb]
   congr 1
   have hn:p.num=q.num:=by
    rw [decide_eq_decide] at h2;omega
   by_cases h3:p.den=q.den
   ·rw [decide_eq_true h3,decide_eq_true (Rat.ext hn h3)]
   ·rw [decide_eq_false h3,decide_eq_false (fun e=>h3 (by rw [e]))]
  ·rw [show (decide (p.num<0) == decide (q.num<0))=false by simpa using h2]
   try refine RUN ?_
   rw [decide_eq_false (fun e=>h2 (by rw [e]))]
 ·rw [decide_eq_false h1]
  try refine RUN ?_
  rw [decide_eq_false (fun e=>h1 (by rw [e]))]
def rDen (j:Nat):Int:=[1,1,1,2,3,4].getD j 1
def rNum (z:Int):Rat:=Rat.divInt (z % 41-20) (rDen (z.tdiv 41 % 6).toNat)
theorem rDen_range (j:Nat):1≤rDen j∧rDen j≤4:=by
 unfold rDen
 rcases j with _ | _ | _ | _ | _ | _ | j <;> simp [List.getD_eq_getElem?_getD]
theorem r_pc {H:Hp} (z:Int) (hz:-9223372036854775808≤z∧z<9223372036854775808):PC prog 87 #[.int .i64 z] H fun r H'=>RQ H' r (rNum z):=by
 have hq:-9223372036854775808≤z.tdiv 41∧z.tdiv 41<9223372036854775808:=by
  by_cases h:0≤z
  ·rw [Int.tdiv_eq_ediv_of_nonneg h];omega
  ·have e:z.tdiv 41 = -((-z) / 41):=by rw [← Int.tdiv_eq_ediv_of_nonneg oM,Int.neg_tdiv,Int.neg_neg]
   rw [e];omega
 have hqw:IntKind.i64.wrap (z.tdiv 41)=z.tdiv 41:=by rw [IntKind.wrap_i64];omega
 have h1:=pick_pv z 41 hz oM oM
 have h2:=pick_pv (z.tdiv 41) 6 hq oM oM
 have m1:=Int.emod_nonneg z (show (41:Int)≠0 by omega)
 have m2:=Int.emod_lt_of_pos z (show (0:Int)<41 by omega)
 obtain ⟨j,hj⟩:=Int.eq_ofNat_of_zero_le (Int.emod_nonneg (z.tdiv 41) (show (6:Int)≠0 by omega))
 have m3:=Int.emod_lt_of_pos (z.tdiv 41) (show (0:Int)<6 by omega)
 have hsub:IntKind.i64.wrap (z % 41-20)=z % 41-20:=by rw [IntKind.wrap_i64];omega
 have hrd:=rDen_range j
 have hrn:rNum z=Rat.divInt (z % 41-20) (rDen j):=by unfold rNum;rw [hj];rfl
 rw [hrn]
 have hidx:([.int .i64 1,.int .i64 1,.int .i64 1,.int .i64 2,.int .i64 3,.int .i64 4]:List Value)[j]?=some (.int .i64 (rDen j)):=by
  have hj6:j<6:=by omega
  rcases j with _ | _ | _ | _ | _ | _ | j <;> first | rfl | omega
 have ho:=fun G:Hp=>refOver_pc (H:=G) (z % 41-20) (rDen j) oM oM oM oM oM
 rw [hj] at h2
 refine BD func87 ntmps87 ?_
 repeat (first | refine RUN ?_ | refine CV (h1) ?_ | refine CE (h1) ?_)
 rw [hsub]
 refine EVL.buildArr rfl rfl rfl rfl rfl (cs:=[.int .i64 1,.int .i64 1,.int .i64 1,.int .i64 2,.int .i64 3,.int .i64 4]) kR ?_
 try refine RUN ?_
 rw [hqw]
 repeat (first | refine RUN ?_ | refine CV (h2) ?_ | refine CE (h2) ?_)
 refine EVL.indexArr (e:=2) (len:=6) tO rfl rfl rfl rfl kR rfl rfl rfl rfl rfl j rfl (show j<6 by omega) hidx ?_
 refine EVL.call rfl rfl rfl rfl rfl (ho H) ?_
 rintro r G ⟨ra,rl,rc,xa,xl,xc,rfl,hn,hd⟩ hG
 try refine RUN ?_
 exact ⟨ra,rl,rc,xa,xl,xc,rfl,hn,hd⟩
theorem flat_len {α:Type} (f:α→List Value) (s:Nat):∀ (l:List α),(∀ x,x∈l→(f x).length=s)→(l.flatMap f).length=l.length*s
 | [],_=>by simp
 | y::l,h=>by
  have h1:=h y (List.mem_cons_self ..)
  have:=flat_len f s l (fun z hz=>h z (List.mem_cons_of_mem _ hz))
  rw [List.flatMap_cons,List.length_append,this,h1,List.length_cons,Nat.succ_mul];omega
theorem flat_cut {α:Type} (f:α→List Value) (s:Nat):∀ (l:List α),(∀ x,x∈l→(f x).length=s)→∀ (j:Nat) (x:α),l[j]?=some x→((l.flatMap f).drop (j*s)).take s=f x
 | [],_,j,x,h=>by simp at h
 | y::l,hl,0,x,h=>by
  have hy:=hl y (List.mem_cons_self ..)
  simp at h;subst h
  rw [List.flatMap_cons,Nat.zero_mul,List.drop_zero,← hy,List.take_left']
  rfl
 | y::l,hl,j+1,x,h=>by
  have hy:=hl y (List.mem_cons_self ..)
  have:=flat_cut f s l (fun z hz=>hl z (List.mem_cons_of_mem _ hz)) j x (by simpa using h)
  rw [List.flatMap_cons,Nat.succ_mul,Nat.add_comm,← List.drop_drop,List.drop_left' hy];exact this
section
variable {P:Program} {n:Nat} {ops:Array Oper} {o:Oper} {rest:List Oper} {env:Env} {bx:Bxs} {sb:Bxs} {ow:Ows} {H:Hs} {Q:EQ} {τ:Tab} {d:Nat} {s:SV}
theorem EVL.idxM (hτ:TabOk P τ) {T:TypeId} {x y:Operand} (ho:o.op=.indexAddr T x y) (hw:wantB ops env o=some true) (hd:o.dst=some d) (hn:Nat.blt d n=true) {te te':TE} {e:TypeId} (ht:τ.get T=some te) (hk:te.kind=.slice e) (ht':τ.get e=some te')
  {v:Value} (hx:env.op x=some (.v v)) {k:IntKind} {z:Int} (hy:env.op y=some (.v (.int k z))) {m:Nat} {xs:List Value} (hs:SlC H.ro v m te'.size xs) (j:Nat) (hz:z=j) (hj:j<m) {cs:List Value} (hc:(xs.drop (j*te'.size)).take te'.size=cs)
  (h:EVL P n ops rest ((d,.ro cs)::env) bx H Q):EVL P n ops (o::rest) env bx H Q:=fun W0 β a W r=>by
 subst hc
 have ex:a.eval x=v:=r.op hx
 have ey:a.eval y=.int k z:=r.op hy
 have hkd:=(hτ.get ht).kind
 rw [hk] at hkd
 have hkd':P.underlying T=some (.slice e):=hkd
 rcases hs.2 with ⟨h0,_⟩ | ⟨b,off,cap,c',rfl,hc',hH,hcs⟩
 ·omega
 ·have hrun:(execOp a.eval o).run P W=.ok (.value (.pointer (some ⟨b,off+j*te'.size,none⟩))) W:=by
   unfold execOp
   simp [ho,ex,ey,Instr.indexAt,asIntOf,run_underlying hkd',hz,(hτ.get ht').size,Addr.add_mid,hj]
  unfold wpList
  rw [if_pos (r.want hw)]
  refine .inl ?_
  unfold Oper.wp
  rw [hrun,Oper.upon_value,hd]
  refine h W0 β _ W (r.put hn ⟨b,off+j*te'.size,c',rfl,hH,fun q u hq=>?_⟩ rfl)
  rw [List.getElem?_take] at hq
  split at hq
  ·rw [List.getElem?_drop] at hq
   rw [Nat.add_assoc]
   exact hcs _ _ hq
  ·cases hq
theorem DJ.idxM {tail l:List Oper} {x:Nat→Value} {y:Nat→Ows} {ow':Ows} {kl ks:List DK} {i:Nat} {bx':Bxs} {Γ:Fcts} (hτ:TabOk P τ) {T:TypeId} {u w:Operand} (ho:o.op=.indexAddr T u w) (hw:wantB ops env o=some true) (hd:o.dst=some d) (hn:Nat.blt d n=true) {te te':TE} {e:TypeId} (ht:τ.get T=some te) (hk:te.kind=.slice e) (ht':τ.get e=some te')
  {v:Value} (hx:env.op u=some (.v v)) {k:IntKind} {z:Int} (hy:env.op w=some (.v (.int k z))) {m:Nat} {xs:List Value} (hs:SlC H.ro v m te'.size xs) (j:Nat) (hz:z=j) (hj:j<m) {cs:List Value} (hc:(xs.drop (j*te'.size)).take te'.size=cs)
  (h:DJ P n ops tail sb bx H Q x y kl (i+1) l ks ((d,.ro cs)::env) bx' Γ ow'):DJ P n ops tail sb bx H Q x y kl i (o::l) (.sv (.ro cs)::ks) env bx' Γ ow':=by
 subst hc
 exact DJ.ofVal (ValOk.idx hτ ho hw ht hk ht' hx hy hs j hz hj) hd hn rfl h
end
def QL (H:Hp) (v:Value) (l:List Rat):Prop:=SlC H v l.length 5 (l.flatMap fun q=>vlist (fracV q))
def RL (H:Hp) (v:Value) (l:List Rat):Prop:=∃ vs:List Value,vs.length=l.length∧(∀ (j:Nat) (x:Value) (q:Rat),vs[j]?=some x→l[j]?=some q→RQ H x q)∧SlC H v l.length 3 (vs.flatMap vlist)
theorem RL.mono {H G:Hp} {v:Value} {l:List Rat} (h:RL H v l) (k:H.Le G):RL G v l:=by
 obtain ⟨vs,h1,h2,h3⟩:=h
 exact ⟨vs,h1,fun j x q e1 e2=>(h2 j x q e1 e2).mono k,h3.mono k⟩
theorem QL.at {H:Hp} {v:Value} {l:List Rat} {j:Nat} {q:Rat} (hj:l[j]?=some q):((l.flatMap fun q=>vlist (fracV q)).drop (j*5)).take 5=vlist (fracV q):=flat_cut _ 5 l (fun _ _=>rfl) j q hj
theorem RQ.cells {H:Hp} {x:Value} {q:Rat} (h:RQ H x q):(vlist x).length=3∧oneB (vlist x)=true:=by
 obtain ⟨_,_,_,_,_,_,rfl,_,_⟩:=h
 exact ⟨rfl,rfl⟩
theorem RL.at {H:Hp} {v:Value} {l:List Rat} (h:RL H v l) {j:Nat} {q:Rat} (hj:l[j]?=some q):∃ (vs:List Value) (x:Value),SlC H v l.length 3 (vs.flatMap vlist)∧((vs.flatMap vlist).drop (j*3)).take 3=vlist x∧RQ H x q:=by
 obtain ⟨vs,h1,h2,h3⟩:=h
 obtain ⟨hl,rfl⟩:=List.getElem?_eq_some_iff.1 hj
 have hv:vs[j]?=some (vs[j]'(by omega)):=List.getElem?_eq_getElem oM
 have hall:∀ x,x∈vs→(vlist x).length=3:=fun x hx=>by
  obtain ⟨i,hi,rfl⟩:=List.getElem_of_mem hx
  exact (h2 i _ _ (List.getElem?_eq_getElem hi) (List.getElem?_eq_getElem oM)).cells.1
 exact ⟨vs,_,h3,flat_cut _ 3 vs hall j _ hv,h2 j _ _ hv hj⟩
theorem take_snoc {α:Type} {l:List α} {i:Nat} {x:α} (h:l[i]?=some x):l.take (i+1)=l.take i++[x]:=by
 obtain ⟨hl,rfl⟩:=List.getElem?_eq_some_iff.1 h
 exact List.take_succ_eq_append_getElem hl
theorem same_yes {H:Hp} {w:Value} {p:Rat} (hw:RQ H w p) (hp:rq p):PC prog 112 #[fracV p,w] H fun r _=>r=.bool true:=by
 have:=same_pc hw hp hp
 rwa [decide_eq_true rfl] at this
theorem RL.val {H:Hp} {v:Value} {l:List Rat} (h:RL H v l):∃ a cap,v=.slice a l.length cap:=by
 obtain ⟨vs,_,_,h3⟩:=h
 exact SlC.val h3
theorem sameRow_pc {H:Hp} {u v:Value} {l:List Rat} (hu:QL H u l) (hv:RL H v l) (hl:l.length≤100000000) (hq:∀ q,q∈l→rq q):PC prog 63 #[u,v] H fun r _=>r=.bool true:=by
 obtain ⟨a,cap,rfl⟩:=RL.val hv
 obtain ⟨b,cap',rfl⟩:=SlC.val hu
 refine BD func63 ntmps63 ?_
 try refine RUN ?_
 rw [show ((l.length:Int) != (l.length:Int))=false by simp]
 try refine RUN ?_
 refine EV.loopK (ι:=Nat) [0,1] [] (fun i=>[(5,.v (.int .i64 (i:Int)))]) (fun _=>[]) (fun _=>[]) (fun i G=>i≤l.length) (fun i=>l.length-i) (0) rfl rfl ⟨rfl,trivial⟩ trivial rfl (fun _=>rfl) (Nat.zero_le _) ?_
 intro i G1 hG1 hi
 try refine RUN ?_
 refine EV.cond rfl (fun hlt=>?_) (fun hlt=>?_)
 ·simp only [nN] at hlt
  obtain ⟨q,hqi⟩:∃ q,l[i]?=some q:=⟨_,List.getElem?_eq_getElem hlt⟩
  obtain ⟨vs,x,hs,hc,hx⟩:=(hv.mono hG1).at hqi
  obtain ⟨xa,xl,xc,ya,yl,yc,rfl,hx1,hx2⟩:=id hx
  have hqq:=hq q (List.mem_of_getElem? hqi)
  try refine RUN ?_
  apply EV.drawn 9 kR kR;intro xv yw
  (repeat refine' DD ?_)
  refine' DJ.idxM tO rfl rfl rfl rfl rfl rfl rfl rfl rfl ((SlC.mono (show SlC H (.slice b l.length cap') l.length 5 (l.flatMap fun q=>vlist (fracV q)) from hu) hG1)) (i) (rfl) (hlt) ((QL.at (H:=G1) (v:=.slice b l.length cap') hqi)) ?_;rotate_left
  (repeat refine' DD ?_)
  refine' DJ.idxM tO rfl rfl rfl rfl rfl rfl rfl rfl rfl (hs) (i) (rfl) (hlt) (hc) ?_;rotate_left
  (repeat refine' DD ?_)
  refine' DJ.callS rfl rfl rfl rfl rfl (cO func112) (fun G hG hd=>same_yes (hx.mono hG) hqq) ?_;rotate_left
  (refine DJ.nil (fun G2 hG2 hF2=>?_);(case hS|hS2=>rfl))
  try refine RUN ?_
  refine ⟨i+1,⟨?_,trivial⟩,sB,trivial,trivial,rfl,hlt,hG2,by omega⟩
  rw [wi_inc i (by omega)];rfl
 ·(try refine RUN ?_)
  rfl
end Go.Proofs.YtbcfidllfimehaaGreatDoor
namespace Go.Proofs.YtbcfidllfimehaaGreatDoor
def Rising (l:List Rat):Prop:=l.Pairwise (·≤·)
end Go.Proofs.YtbcfidllfimehaaGreatDoor
namespace Go.Proofs.YtbcfidllfimehaaGreatDoor
open Go.RowKit _root_.Go.Proofs.Tryz
abbrev IL (H:Hp) (v:Value) (l:List Int):Prop:=SlN (fun z:Int=>Value.int .i64 z) H v l
def kb (z:Int):Nat:=(max 0 (min z 256)).toNat
theorem ht_divInt (n d:Int) (h:d≠0):ht (Rat.divInt n d)≤max (bl n.natAbs) (bl d.natAbs):=by
 rw [divInt_mk n d h]
 refine Nat.le_trans (ht_mk _ _ oM) ?_
 have:(if d<0 then -n else n).natAbs=n.natAbs:=by split <;> simp
 rw [this];exact Nat.le_refl _
theorem ht_rNum (z:Int):ht (rNum z)≤5:=by
 unfold rNum
 have hrd:=rDen_range (z.tdiv 41 % 6).toNat
 have m1:=Int.emod_nonneg z (show (41:Int)≠0 by omega)
 have m2:=Int.emod_lt_of_pos z (show (0:Int)<41 by omega)
 refine Nat.le_trans (ht_divInt _ _ oM) (Nat.max_le.2 ⟨bl_le oM,bl_le oM⟩)
abbrev sb (l:List UInt8):ByteArray:=⟨l.toArray⟩
section
variable {P:Program} {n:Nat} {ops:Array Oper} {o:Oper} {rest:List Oper} {env:Env} {bx:Bxs} {sb':Bxs} {ow:Ows} {H:Hs} {Q:EQ} {τ:Tab} {d:Nat} {s:SV}
theorem run_cat {T T':TypeId} {x y:Operand} (ho:o.op=.binOp .add T x y T') (a b:List UInt8) (hx:env.op x=some (.v (.string (sb a)))) (hy:env.op y=some (.v (.string (sb b)))) (ha:a.length≤8388608) (hb:b.length≤8388608) (ev:Operand→Value) (W:World) (he:∀ y x,y∈o.op.operands→env.op y=some (.v x)→ev y=x) :
  (execOp ev o).run P W=.ok (.value (.string (sb (a++b)))) W:=by
 have ex:=he x _ (by simp [ho,Op.operands]) hx
 have ey:=he y _ (by simp [ho,Op.operands]) hy
 unfold execOp
 simp [ho,ex,ey,eqGuard,binOp,run_string_add_lists W a b oM (by omega)]
theorem DJ.cat {tail l:List Oper} {x:Nat→Value} {y:Nat→Ows} {ow':Ows} {kl ks:List DK} {i:Nat} {bx':Bxs} {Γ:Fcts} {T T':TypeId} {u w:Operand} (a b:List UInt8) (ho:o.op=.binOp .add T u w T') (hw:wantB ops env o=some true) (hd:o.dst=some d) (hn:Nat.blt d n=true) (hx:env.op u=some (.v (.string (sb a)))) (hy:env.op w=some (.v (.string (sb b)))) (ha:a.length≤8388608) (hb:b.length≤8388608)
  (h:DJ P n ops tail sb' bx H Q x y kl (i+1) l ks ((d,.v (.string (sb (a++b))))::env) bx' Γ ow'):DJ P n ops tail sb' bx H Q x y kl i (o::l) (.sv (.v (.string (sb (a++b))))::ks) env bx' Γ ow' :=
 DJ.ofVal (ValOk.gen hw (run_cat ho a b hx hy ha hb)) hd hn rfl h
end
def wtL (z:Int):List UInt8:=(if z<0 then [45] else [])++Lib.decDigits z.natAbs
end Go.Proofs.YtbcfidllfimehaaGreatDoor
namespace Go.Proofs.YtbcfidllfimehaaGreatDoor
theorem decD_step {n:Nat} (h:10≤n):Lib.decDigits n=Lib.decDigits (n / 10)++[UInt8.ofNat (48+n % 10)]:=by
 rw [Lib.decDigits,dif_neg (by omega)]
theorem decD_low {n:Nat} (h:n<10):Lib.decDigits n=[UInt8.ofNat (48+n)]:=by
 rw [Lib.decDigits,dif_pos h]
end Go.Proofs.YtbcfidllfimehaaGreatDoor
namespace Go.Proofs.YtbcfidllfimehaaGreatDoor
def dV (c:UInt8):Nat:=c.toNat-48
def isDg (c:UInt8):Bool:=decide (48≤c.toNat) && decide (c.toNat≤57)
def valD (l:List UInt8):Nat:=l.foldl (fun a c=>a*10+dV c) 0
theorem valD_snoc (l:List UInt8) (c:UInt8):valD (l++[c])=valD l*10+dV c:=by unfold valD;rw [List.foldl_append];rfl
theorem dV_lt {c:UInt8} (h:isDg c=true):dV c<10:=by
 unfold isDg at h
 rw [Bool.and_eq_true] at h
 have h1:=of_decide_eq_true h.1
 have h2:=of_decide_eq_true h.2
 unfold dV
 omega
theorem valD_lt:∀ l:List UInt8,l.all isDg=true→valD l.reverse<10 ^ l.length
 | [],_=>by decide
 | c::l,h=>by
  rw [List.all_cons,Bool.and_eq_true] at h
  have h1:=valD_lt l h.2
  have h2:=dV_lt h.1
  rw [List.reverse_cons,valD_snoc,List.length_cons,Nat.pow_succ]
  omega
theorem valD_lt' {l:List UInt8} (h:l.all isDg=true):valD l<10 ^ l.length:=by
 have:=valD_lt l.reverse (by rw [List.all_reverse];exact h)
 rwa [List.reverse_reverse,List.length_reverse] at this
def okN (l:List UInt8):Prop:=1≤l.length∧l.length≤200∧¬ (1<l.length∧l.head?=some 48)∧l.all isDg=true
instance (l:List UInt8):Decidable (okN l):=by unfold okN;exact inferInstance
def pN (l:List UInt8):Option Nat:=if okN l then some (valD l) else none
def pI (l:List UInt8):Option Int:=if l.head?=some 45 then (match pN l.tail with | some n=>if n=0 then none else some (-(n:Int)) | none=>none) else Option.map (fun n:Nat=>(n:Int)) (pN l)
def okD (t:List UInt8):Prop:=1≤t.length∧t.length≤200∧t.all isDg=true
instance (l:List UInt8):Decidable (okD l):=by unfold okD;exact inferInstance
def signZ (neg:Prop) [Decidable neg] (n:Nat):Int:=if neg then -(n:Int) else (n:Int)
def pDec (s t:List UInt8):Option Rat:=match pN (if s.head?=some 45 then s.tail else s) with
 | none=>none
 | some n=>if okD t then some (mkRat (signZ (s.head?=some 45) (n*10 ^ t.length+valD t)) (10 ^ t.length)) else none
def pOver (s t:List UInt8):Option Rat:=match pI s,pN t with
 | some z,some d=>if d=0 then none else some (mkRat z d)
 | _,_=>none
def bef (c:UInt8) (l:List UInt8):List UInt8:=l.takeWhile (· != c)
def aft (c:UInt8) (l:List UInt8):List UInt8:=(l.dropWhile (· != c)).drop 1
def pQ (l:List UInt8):Option Rat:=if l.contains 47 then pOver (bef 47 l) (aft 47 l) else if l.contains 46 then pDec (bef 46 l) (aft 46 l) else Option.map (fun z:Int=>(z:Rat)) (pI l)
theorem pN_bad {l:List UInt8} {c:UInt8} (h:c∈l) (hc:isDg c=false):pN l=none:=by
 unfold pN
 rw [if_neg fun k=>by
  have:=List.all_eq_true.1 k.2.2.2 c h
  rw [hc] at this;cases this]
theorem okD_bad {l:List UInt8} {c:UInt8} (h:c∈l) (hc:isDg c=false):¬ okD l:=fun k=>by
 have:=List.all_eq_true.1 k.2.2 c h
 rw [hc] at this;cases this
theorem cut_at {c:UInt8}:∀ {l:List UInt8} {i:Nat},l[i]?=some c→(∀ j,j<i→l[j]?≠some c)→bef c l=l.take i∧aft c l=l.drop (i+1)
 | [],i,h,_=>by cases h
 | x::l,0,h,_=>by
  cases h
  unfold bef aft
  rw [List.takeWhile_cons,List.dropWhile_cons,if_neg (by simp),if_neg (by simp)]
  exact ⟨rfl,rfl⟩
 | x::l,i+1,h,hb=>by
  have hx:x≠c:=fun e=>hb 0 oM (by rw [e];rfl)
  obtain ⟨e1,e2⟩:=cut_at (l:=l) (i:=i) (by simpa using h) fun j hj=>by
   have:=hb (j+1) oM
   simpa using this
  unfold bef aft at *
  rw [List.takeWhile_cons,List.dropWhile_cons,if_pos (by simpa using hx),if_pos (by simpa using hx),e1,e2]
  exact ⟨rfl,rfl⟩
theorem first_at {c:UInt8}:∀ {l:List UInt8},c∈l→∃ i:Nat,l[i]?=some c∧∀ j,j<i→l[j]?≠some c
 | [],h=>by cases h
 | x::l,h=>by
  by_cases e:x=c
  ·exact ⟨0,by rw [e];rfl,fun j hj=>by omega⟩
  ·obtain ⟨i,h1,h2⟩:=first_at (l:=l) ((List.mem_cons.1 h).resolve_left fun k=>e k.symm)
   refine ⟨i+1,by simpa using h1,fun j hj=>?_⟩
   cases j with
   | zero=>intro k;exact e (Option.some.inj (by simpa using k))
   | succ j =>
    have:=h2 j oM
    simpa using this
end Go.Proofs.YtbcfidllfimehaaGreatDoor
namespace Go.Proofs.YtbcfidllfimehaaGreatDoor
structure ColT where
 name:List UInt8
 kind:Nat
 words:List (List UInt8)
deriving DecidableEq
structure CellT where
 lacks:Bool
 q:Rat
 word:Nat
def isLet (c:UInt8):Bool:=decide (97≤c.toNat∧c.toNat≤122) || decide (65≤c.toNat∧c.toNat≤90)
def isNm:List UInt8→Bool
 | []=>false
 | c::l=>decide (l.length≤19) && isLet c && l.all fun x=>isLet x || isDg x || decide (x=95)
def cutL (c:UInt8):List UInt8→List (List UInt8)
 | []=>[[]]
 | x::l=>if x=c then []::cutL c l else match cutL c l with
  | []=>[[x]]
  | a::r=>(x::a)::r
theorem cutL_ne (c:UInt8) (l:List UInt8):cutL c l≠[]:=by
 cases l with
 | nil=>intro h;cases h
 | cons x l =>
  unfold cutL
  split
  ·intro h;cases h
  ·split <;> (intro h;cases h)
theorem cutL_snoc (c x:UInt8):∀ l:List UInt8,cutL c (l++[x])=if x=c then cutL c l++[[]] else (cutL c l).dropLast++[(cutL c l).getLast (cutL_ne c l)++[x]]
 | []=>by
  by_cases h:x=c
  ·rw [if_pos h];simp [cutL,h]
  ·rw [if_neg h];simp [cutL,h]
 | y::l=>by
  have ih:=cutL_snoc c x l
  have hne:=cutL_ne c l
  rw [List.cons_append]
  by_cases hy:y=c
  ·have e1:cutL c (y::l)=[]::cutL c l:=by rw [cutL,if_pos hy]
   have e2:cutL c (y::(l++[x]))=[]::cutL c (l++[x]):=by rw [cutL,if_pos hy]
   rw [e2,ih]
   by_cases h:x=c
   ·rw [if_pos h,if_pos h,e1];rfl
   ·rw [if_neg h,if_neg h]
    simp only [e1]
    rw [List.dropLast_cons_of_ne_nil hne,List.getLast_cons hne]
    rfl
  ·obtain ⟨a,r,har⟩:=List.exists_cons_of_ne_nil hne
   have e1:cutL c (y::l)=(y::a)::r:=by rw [cutL,if_neg hy,har]
   by_cases h:x=c
   ·have e2:cutL c (y::(l++[x]))=(y::a)::(r++[[]]):=by rw [cutL,if_neg hy,ih,if_pos h,har];rfl
    rw [e2,if_pos h,e1];rfl
   ·rw [if_neg h]
    rw [if_neg h] at ih
    simp only [har] at ih
    simp only [e1]
    cases r with
    | nil =>
     have e2:cutL c (l++[x])=[a++[x]]:=ih
     have e3:cutL c (y::(l++[x]))=[y::(a++[x])]:=by rw [cutL,if_neg hy,e2]
     rw [e3];rfl
    | cons b r =>
     have hbr:b::r≠[]:=fun k=>by cases k
     have ih2:cutL c (l++[x])=(a::(b::r).dropLast)++[(b::r).getLast hbr++[x]]:=ih
     have e3:cutL c (y::(l++[x]))=(y::a)::((b::r).dropLast++[(b::r).getLast hbr++[x]]):=by
      rw [cutL,if_neg hy,ih2];rfl
     rw [e3]
     rfl
def scanC (s:List UInt8):Option ColT :=
 if 58∈s then
  if 40∈aft 58 s then
   if bef 40 (aft 58 s)=[99,104,111,105,99,101]∧41∈aft 40 (aft 58 s)∧aft 41 (aft 40 (aft 58 s))=[] then some ⟨bef 58 s,2,cutL 124 (bef 41 (aft 40 (aft 58 s)))⟩ else none
  else if aft 58 s=[110,117,109,98,101,114] then some ⟨bef 58 s,1,[]⟩ else none
 else none
def hasTwice (l:List (List UInt8)):Bool:=!decide l.Nodup
def pCol (earlier:List ColT) (s:List UInt8):Except Nat ColT:=match scanC s with
 | none=>.error 2
 | some c=>if !(isNm c.name && c.words.all isNm) then .error 2
  else if 20≤earlier.length∨12<c.words.length then .error 4
  else if (earlier.any fun d=>decide (d.name=c.name)) || hasTwice c.words then .error 8
  else .ok c
def pCols:List ColT→List (List UInt8)→Except (Nat × Nat × Nat) (List ColT)
 | cs,[]=>.ok cs
 | cs,s::r=>match pCol cs s with
  | .error e=>.error (e,1,cs.length)
  | .ok c=>pCols (cs++[c]) r
def posL (w:List UInt8):List (List UInt8)→Option Nat
 | []=>none
 | x::r=>if x=w then some 0 else (posL w r).map fun k=>k+1
theorem posL_none {w:List UInt8}:∀ {l:List (List UInt8)},w ∉ l→posL w l=none
 | [],_=>rfl
 | x::r,h=>by
  rw [posL,if_neg fun e=>h (by rw [e];exact List.mem_cons_self ..),posL_none fun k=>h (List.mem_cons_of_mem _ k)];rfl
theorem posL_at {w:List UInt8}:∀ {l:List (List UInt8)} {k:Nat},l[k]?=some w→(∀ j,j<k→l[j]?≠some w)→posL w l=some k
 | [],k,h,_=>by cases h
 | x::r,0,h,_=>by cases h;rw [posL,if_pos rfl]
 | x::r,k+1,h,hb=>by
  have h0:x≠w:=fun e=>hb 0 oM (by rw [e];rfl)
  rw [posL,if_neg h0,posL_at (l:=r) (k:=k) (by simpa using h) fun j hj=>by have:=hb (j+1) oM;simpa using this];rfl
def pCell (c:ColT) (s:List UInt8):Except Nat CellT :=
 if s=[63] then .ok ⟨true,0,0⟩
 else if c.kind=1 then match pQ s with
  | none=>.error 2
  | some q=>.ok ⟨false,q,0⟩
 else match posL s c.words with
  | none=>.error 11
  | some k=>.ok ⟨false,0,k⟩
def pCells:List CellT→List (ColT × List UInt8)→Except (Nat × Nat) (List CellT)
 | acc,[]=>.ok acc
 | acc,(c,s)::r=>match pCell c s with
  | .error e=>.error (e,acc.length)
  | .ok x=>pCells (acc++[x]) r
def pRow (cs:List ColT) (s:List UInt8):Except (Nat × Nat) (List CellT) :=
 if (cutL 44 s).length≠cs.length then .error (5,0) else pCells [] (cs.zip (cutL 44 s))
def pRows (cs:List ColT):List (List CellT)→List (List UInt8)→Except (Nat × Nat × Nat) (List (List CellT))
 | acc,[]=>.ok acc
 | acc,s::r=>if 300≤acc.length then .error (4,acc.length+2,0) else match pRow cs s with
  | .error (e,at')=>.error (e,acc.length+2,at')
  | .ok row=>pRows cs (acc++[row]) r
def noEnd (s:List UInt8):List UInt8:=if s.getLast?=some 10 then s.dropLast else s
def pSheet (s:List UInt8):Except (Nat × Nat × Nat) (List ColT × List (List CellT)) :=
 if 65536<s.length then .error (4,0,0)
 else match cutL 10 (noEnd s) with
  | []=>.error (2,1,0)
  | h::r=>match pCols [] (cutL 44 h) with
   | .error e=>.error e
   | .ok cs=>match pRows cs [] r with
    | .error e=>.error e
    | .ok rows=>.ok (cs,rows)
end Go.Proofs.YtbcfidllfimehaaGreatDoor
namespace Go.Proofs.YtbcfidllfimehaaGreatDoor
theorem scan_choice {k:List UInt8} (h1:k.take 7=[99,104,111,105,99,101,40]):40∈k∧bef 40 k=[99,104,111,105,99,101]∧aft 40 k=k.drop 7:=by
 have e:k=[99,104,111,105,99,101,40]++k.drop 7:=by rw [← h1,List.take_append_drop]
 generalize k.drop 7=m at *
 subst e
 exact ⟨by simp,by simp [bef],by simp [aft]⟩
theorem scan_choice' {k:List UInt8} (h1:40∈k) (h2:bef 40 k=[99,104,111,105,99,101]):k.take 7=[99,104,111,105,99,101,40]:=by
 obtain ⟨i,hi,hb⟩:=first_at h1
 obtain ⟨e1,_⟩:=cut_at hi hb
 rw [h2] at e1
 have hil:i<k.length:=(List.getElem?_eq_some_iff.1 hi).1
 have h6:i=6:=by
  have:=congrArg List.length e1
  rw [List.length_take,Nat.min_eq_left (by omega)] at this
  exact this.symm
 subst h6
 rw [List.take_add_one,← e1,hi]
 rfl
theorem last_cut {w:List UInt8} (h:(41:UInt8)∈w) (h2:aft 41 w=[]):w=bef 41 w++[41]∧(41:UInt8) ∉ bef 41 w:=by
 obtain ⟨i,hi,hb⟩:=first_at h
 obtain ⟨e1,e2⟩:=cut_at hi hb
 have hil:i<w.length:=(List.getElem?_eq_some_iff.1 hi).1
 rw [h2] at e2
 have h3:=List.drop_eq_nil_iff.1 e2.symm
 have hl:i+1=w.length:=by omega
 refine ⟨?_,?_⟩
 ·rw [e1]
  have h4:w.take (i+1)=w.take i++[41]:=by rw [List.take_add_one,hi];rfl
  rw [← h4,hl,List.take_length]
 ·rw [e1]
  intro k
  obtain ⟨j,hj,e⟩:=List.getElem_of_mem k
  rw [List.length_take] at hj
  exact hb j oM (by rw [List.getElem_take] at e;rw [List.getElem?_eq_getElem oM,e])
theorem scanC_form {s:List UInt8} {c:ColT} (h:scanC s=some c):c.name=bef 58 s∧(c.words=[]∧aft 58 s=[110,117,109,98,101,114]∨∃ u:List UInt8,(41:UInt8) ∉ u∧c.words=cutL 124 u∧aft 58 s=[99,104,111,105,99,101,40]++(u++[41])):=by
 unfold scanC at h
 by_cases h1:58∈s
 ·rw [if_pos h1] at h
  by_cases h2:40∈aft 58 s
  ·rw [if_pos h2] at h
   by_cases h3:bef 40 (aft 58 s)=[99,104,111,105,99,101]∧41∈aft 40 (aft 58 s)∧aft 41 (aft 40 (aft 58 s))=[]
   ·rw [if_pos h3] at h
    cases h
    obtain ⟨q1,q2,q3⟩:=h3
    have q4:=scan_choice' h2 q1
    obtain ⟨_,_,q5⟩:=scan_choice q4
    obtain ⟨q6,q7⟩:=last_cut q2 q3
    refine ⟨rfl,.inr ⟨_,q7,rfl,?_⟩⟩
    rw [← q6,q5,← q4,List.take_append_drop]
   ·rw [if_neg h3] at h;cases h
  ·rw [if_neg h2] at h
   by_cases h3:aft 58 s=[110,117,109,98,101,114]
   ·rw [if_pos h3] at h
    cases h
    exact ⟨rfl,.inl ⟨rfl,h3⟩⟩
   ·rw [if_neg h3] at h;cases h
 ·rw [if_neg h1] at h;cases h
theorem pCols_step {cs:List ColT} {s:List UInt8} {r:List (List UInt8)} {c:ColT} (h:pCol cs s=.ok c):pCols cs (s::r)=pCols (cs++[c]) r:=by rw [pCols,h]
theorem pCols_stop {cs:List ColT} {s:List UInt8} {r:List (List UInt8)} {e:Nat} (h:pCol cs s=.error e):pCols cs (s::r)=.error (e,1,cs.length):=by rw [pCols,h]
theorem pCells_step {acc:List CellT} {c:ColT} {s:List UInt8} {r:List (ColT × List UInt8)} {x:CellT} (h:pCell c s=.ok x):pCells acc ((c,s)::r)=pCells (acc++[x]) r:=by rw [pCells,h]
theorem pCells_stop {acc:List CellT} {c:ColT} {s:List UInt8} {r:List (ColT × List UInt8)} {e:Nat} (h:pCell c s=.error e):pCells acc ((c,s)::r)=.error (e,acc.length):=by rw [pCells,h]
end Go.Proofs.YtbcfidllfimehaaGreatDoor
namespace Go.Proofs.YtbcfidllfimehaaGreatDoor
open Go.RowKit _root_.Go.Proofs.Tryz
section
variable {P:Program} {ops:Array Oper} {md:Region.Mode} {Q Q':Exit→Act→World→Prop}
theorem Oper.wp_monoQ {o:Oper} {a:Act} {W:World} {K K':Act→World→Prop} (hk:∀ a W,K a W→K' a W) (hq:∀ e a W,Q e a W→Q' e a W) (h:Oper.wp P o a W K Q):Oper.wp P o a W K' Q':=by
 have h2:=Oper.wp_mono hk h
 unfold Oper.wp at *
 generalize (execOp a.eval o).run P W=r at *
 cases r with
 | ok m w' =>
  cases m <;> simp only [Oper.upon] at h2 ⊢ <;> try exact h2
  case enter f args =>
   refine h2.mono fun e w'' he=>?_
   cases e with
   | returned v=>exact he
   | panicked c=>exact hq _ _ _ he
   | outgrown=>obtain ⟨a0,w0,h⟩:=he;exact ⟨a0,w0,hq _ _ _ h⟩
 | halt y w' =>
  cases y <;> simp only [Oper.upon] at h2 ⊢
  case panic v=>exact hq _ _ _ h2
theorem wpOp_monoQ {i:Nat} {a:Act} {W:World} {K K':Act→World→Prop} (hk:∀ a W,K a W→K' a W) (hq:∀ e a W,Q e a W→Q' e a W) (h:wpOp P ops Q i K a W):wpOp P ops Q' i K' a W:=by
 unfold wpOp at *
 split at h
 ·exact hk _ _ h
 ·split at h
  ·rename_i hw
   rw [if_pos hw]
   rcases h with h | ⟨h1,a0,w0,h2⟩
   ·exact .inl (Oper.wp_monoQ hk hq h)
   ·exact .inr ⟨h1,a0,w0,hq _ _ _ h2⟩
  ·rename_i hw
   rw [if_neg hw]
   exact hk _ _ h
theorem wpAny_mono (hq:∀ e a W,Q e a W→Q' e a W):∀ (fuel:Nat) (L:Array Bool) (a:Act) (W:World),wpAny P md ops Q fuel L a W→wpAny P md ops Q' fuel L a W
 | 0,_,_,_,h=>⟨h.1,hq _ _ _ h.2⟩
 | fuel+1,_,_,_,h=>⟨fun e=>hq _ _ _ (h.1 e),fun i hi=>wpOp_monoQ (fun a W k=>wpAny_mono hq fuel _ a W k) hq (h.2 i hi)⟩
end
def EVA (P:Program) (n:Nat) (ops:Array Oper) (fuel:Nat) (L:Array Bool) (env:Env) (bx:Bxs) (H:Hs) (K:Env→Bxs→Hs→Prop):Prop :=
 ∀ W0 β a W,Rel n W0 H.base β env bx H a W→wpAny P .any ops (fun e a W=>e=.normal∧lift n W0 H.base (fun _ env bx H=>K env bx H) .normal a W) fuel L a W
section
variable {P:Program} {n:Nat} {ops:Array Oper} {fuel:Nat} {L:Array Bool} {env:Env} {bx:Bxs} {H:Hs} {K:Env→Bxs→Hs→Prop} {τ:Tab} {d:Nat} {o:Oper} {v:Value}
theorem EVA.start {id:Nat} {l:List Oper} {Q:EQ} (hm:P.follows .mixedOrders=true) (h:EVA P n l.toArray l.length (Array.replicate l.length false) env bx H (fun env bx H=>Q .normal env bx H)):EV P n (.region id l.toArray true) env bx H Q:=fun W0 β a W r=>by
 refine wp_region_any hm ?_
 have h1:=h W0 β a W.drew r.drew
 refine wpAny_mono ?_ _ _ _ _ h1
 rintro e a W ⟨rfl,β,env',bx',H',hb,hq,hr⟩
 exact ⟨β,env',bx',H',hb,hq,hr⟩
def plainB (env:Env) (y:Operand):Bool:=match env.op y with
 | some (.v _)=>true
 | some _=>false
 | none=>true
def plainL (env:Env):List Operand→Bool
 | []=>true
 | y::l=>match plainB env y with
  | true=>plainL env l
  | false=>false
theorem plainL_mem {env:Env}:∀ {l:List Operand},plainL env l=true→∀ y,y∈l→plainB env y=true
 | [],_,y,h=>by cases h
 | z::l,h,y,hm=>by
  unfold plainL at h
  split at h
  ·rename_i hz
   rcases List.mem_cons.1 hm with rfl | hm
   ·exact hz
   ·exact plainL_mem h y hm
  ·cases h
theorem plain_rep {env:Env} {y:Operand} {s:SV} {β:Nat→Nat} {G G':Hp} {x:Value} (hp:plainB env y=true) (hy:env.op y=some s) (h:s.rep β G x):s.rep β G' x:=by
 unfold plainB at hp
 rw [hy] at hp
 cases s with
 | v u=>exact h
 | p i off=>cases hp
 | ro cs=>cases hp
end
section
variable {P:Program} {n:Nat} {ops:Array Oper} {o:Oper} {rest:List Oper} {env:Env} {bx:Bxs} {sb:Bxs} {ow:Ows} {H:Hs} {Q:EQ} {τ:Tab} {d:Nat} {s:SV}
theorem run_idxP (hτ:TabOk P τ) {T:TypeId} {x y:Operand} (ho:o.op=.indexAddr T x y) {te te':TE} {e:TypeId} (ht:τ.get T=some te) (hk:te.kind=.slice e) (ht':τ.get e=some te')
  {b m cap:Nat} (hx:env.op x=some (.v (.slice (some ⟨b,0,none⟩) m cap))) {k:IntKind} {z:Int} (hy:env.op y=some (.v (.int k z))) (j q:Nat) (hz:z=j) (hj:j<m) (hq:j*te'.size=q) (ev:Operand→Value) (W:World) (he:∀ y x,y∈o.op.operands→env.op y=some (.v x)→ev y=x) :
  (execOp ev o).run P W=.ok (.value (.pointer (some ⟨b,q,none⟩))) W:=by
 have ex:=he x _ (by simp [ho,Op.operands]) hx
 have ey:=he y _ (by simp [ho,Op.operands]) hy
 have hkd:=(hτ.get ht).kind
 rw [hk] at hkd
 have hkd':P.underlying T=some (.slice e):=hkd
 unfold execOp
 simp [ho,ex,ey,Instr.indexAt,asIntOf,run_underlying hkd',hz,(hτ.get ht').size,Addr.add_mid,hj,hq]
theorem EVL.idxB (hτ:TabOk P τ) {T:TypeId} {x y:Operand} (ho:o.op=.indexAddr T x y) (hw:wantB ops env o=some true) (hd:o.dst=some d) (hn:Nat.blt d n=true) {te te':TE} {e:TypeId} (ht:τ.get T=some te) (hk:te.kind=.slice e) (ht':τ.get e=some te')
  {b m cap:Nat} (hx:env.op x=some (.v (.slice (some ⟨b,0,none⟩) m cap))) {k:IntKind} {z:Int} (hy:env.op y=some (.v (.int k z))) (j q:Nat) (hz:z=j) (hj:j<m) (hq:j*te'.size=q)
  (h:EVL P n ops rest ((d,.v (.pointer (some ⟨b,q,none⟩)))::env) bx H Q):EVL P n ops (o::rest) env bx H Q:=EVL.gen hw hd hn (run_idxP hτ ho ht hk ht' hx hy j q hz hj hq) h
theorem run_equalIn_nil {d:Nat} {T e:TypeId} {a:Option Addr} {m c:Nat} {W:World} (hT:P.underlying T=some (.slice e)):(Op.equalIn (d+1) T (.slice a m c) (.slice none 0 0)).run P W=.ok a.isNone W:=by
 unfold Op.equalIn
 cases a <;> simp [run_underlying hT]
theorem EVL.eqnil (hτ:TabOk P τ) {T T':TypeId} {x:Operand} {a:Option Addr} {m c:Nat} (ho:o.op=.binOp .eql T x (.const (.slice none 0 0)) T') (hw:wantB ops env o=some true) (hd:o.dst=some d) (hn:Nat.blt d n=true) {te:TE} {e:TypeId} (ht:τ.get T=some te) (hk:te.kind=.slice e)
  (hx:env.op x=some (.v (.slice a m c))) (h:EVL P n ops rest ((d,.v (.bool a.isNone))::env) bx H Q):EVL P n ops (o::rest) env bx H Q :=
 EVL.gen hw hd hn (fun ev W he=>by
  have ex:=he x _ (by simp [ho,Op.operands]) hx
  have ey:=he (.const (.slice none 0 0)) _ (by simp [ho,Op.operands]) rfl
  have hkd:=(hτ.get ht).kind
  rw [hk] at hkd
  have hkd':P.underlying T=some (.slice e):=hkd
  have hq:=run_equalIn_nil (P:=P) (d:=9999) (a:=a) (m:=m) (c:=c) (W:=W) hkd'
  have hm:Op.maxDepth=9999+1:=rfl
  unfold execOp
  cases a <;> simp [ho,ex,ey,eqGuard,binOp,Op.equal,hm,hq]) h
end
def unS (d b:Nat):SV→SV
 | .p i off=>match Nat.beq i d with
  | true=>.v (.pointer (some ⟨b,off,none⟩))
  | false=>.p i off
 | s=>s
theorem unS_hit (d b off:Nat):unS d b (.p d off)=.v (.pointer (some ⟨b,off,none⟩)):=by
 unfold unS;simp only [Nat.beq_refl]
theorem unS_miss {d b i off:Nat} (h:i≠d):unS d b (.p i off)=.p i off:=by
 have:Nat.beq i d=false:=by cases hb:Nat.beq i d with | false=>rfl | true=>exact absurd (Nat.eq_of_beq_eq_true hb) h
 unfold unS;simp only [this]
def unP (d b:Nat):Env→Env
 | []=>[]
 | (t,s)::e=>(t,unS d b s)::unP d b e
def unB (d:Nat):Bxs→Bxs
 | []=>[]
 | (i,x)::e=>match Nat.beq i d with
  | true=>unB d e
  | false=>(i,x)::unB d e
theorem unB_get (d:Nat):∀ (e:Bxs) (i:Nat),(unB d e).get i=if i=d then none else e.get i
 | [],i=>by simp [unB,Bxs.get]
 | (j,x)::e,i=>by
  have ih:=unB_get d e i
  unfold unB
  cases hb:Nat.beq j d with
  | true =>
   obtain rfl:=Nat.eq_of_beq_eq_true hb
   simp only
   rw [ih,Bxs.get_cons]
   by_cases h:i=j
   ·rw [if_pos h,if_pos h]
   ·rw [if_neg h,if_neg h,if_neg (fun k=>h k.symm)]
  | false =>
   have hne:j≠d:=fun h=>by subst h;rw [Nat.beq_refl] at hb;cases hb
   simp only
   rw [Bxs.get_cons,Bxs.get_cons,ih]
   by_cases h:j=i
   ·subst h;rw [if_pos rfl,if_pos rfl,if_neg hne]
   ·rw [if_neg h,if_neg h]
theorem unP_get (d b:Nat):∀ (e:Env) (t:Nat),(unP d b e).get t=(e.get t).map (unS d b)
 | [],t=>rfl
 | (u,s)::e,t=>by
  have ih:=unP_get d b e t
  have key:unP d b ((u,s)::e)=(u,unS d b s)::unP d b e:=rfl
  rw [key,Env.get_cons,Env.get_cons,ih]
  by_cases h:u=t
  ·rw [if_pos h,if_pos h];rfl
  ·rw [if_neg h,if_neg h]
theorem Rel.unbox {n:Nat} {W0:World} {H0:Bs} {β:Nat→Nat} {env:Env} {bx:Bxs} {H:Hs} {a:Act} {W:World} (r:Rel n W0 H0 β env bx H a W) (d:Nat) {T:TypeId} {cs:List Value} (hg:bx.get d=some (T,cs)) :
  Rel n W0 H0 β (unP d (β d) env) (unB d bx) ⟨H.ro,(β d,T,cs)::H.ow,H.base⟩ a W:=by
 have hdS:(bx.get d).isSome=true:=by rw [hg];rfl
 have gt:∀ i x,(unB d bx).get i=some x→i≠d∧bx.get i=some x:=fun i x hi=>by
  rw [unB_get] at hi
  by_cases h:i=d
  ·rw [if_pos h] at hi;cases hi
  ·rw [if_neg h] at hi;exact ⟨h,hi⟩
 have gs:∀ i,((unB d bx).get i).isSome=true→i≠d∧(bx.get i).isSome=true:=fun i hi=>by
  obtain ⟨x,hx⟩:=Option.isSome_iff_exists.1 hi
  obtain ⟨h1,h2⟩:=gt i x hx
  exact ⟨h1,by rw [h2];rfl⟩
 refine ⟨r.size,r.defers,fun t u hu=>?_,fun i T' cs' hi=>r.box i T' cs' (gt i _ hi).2,fun i hi=>r.low i (gs i hi).2,fun i j hi hj hij=>r.inj i j (gs i hi).2 (gs j hj).2 hij,fun t i off hu=>?_,r.fits,r.le,r.new,r.bel,r.glob,fun j b T' cs' hj=>?_,fun j j' b T1 T2 c1 c2 hj hj'=>?_⟩
 ·rw [unP_get] at hu
  obtain ⟨s,hs,rfl⟩:=Option.map_eq_some_iff.1 hu
  obtain ⟨y,hy,hr⟩:=r.slot t s hs
  refine ⟨y,hy,?_⟩
  cases s with
  | v x=>exact hr
  | ro cs=>exact hr
  | p i off =>
   by_cases h:i=d
   ·subst h;rw [unS_hit];exact hr
   ·rw [unS_miss h];exact hr
 ·rw [unP_get] at hu
  obtain ⟨s,hs,he⟩:=Option.map_eq_some_iff.1 hu
  cases s with
  | v x=>cases he
  | ro cs=>cases he
  | p i' off' =>
   by_cases h:i'=d
   ·subst h;rw [unS_hit] at he;cases he
   ·rw [unS_miss h] at he
    cases he
    have:=r.pin t i off hs
    rw [unB_get,if_neg h]
    exact this
 ·cases j with
  | zero =>
   simp at hj
   obtain ⟨rfl,rfl,rfl⟩:=hj
   exact ⟨r.box d T cs hg,.inl (r.low d hdS).1,(r.low d hdS).2,fun i hi e=>(gs i hi).1 (r.inj i d (gs i hi).2 hdS e)⟩
  | succ j =>
   obtain ⟨h1,h2,h3,h4⟩:=r.own j b T' cs' (by simpa using hj)
   exact ⟨h1,h2,h3,fun i hi=>h4 i (gs i hi).2⟩
 ·have lt:∀ j T c,H.ow[j]?=some (β d,T,c)→False:=fun j T c hj=>(r.own j _ T c hj).2.2.2 d hdS rfl
  cases j with
  | zero =>
   simp at hj
   cases j' with
   | zero=>rfl
   | succ j'=>exact (lt j' T2 c2 (by rw [hj.1];simpa using hj')).elim
  | succ j =>
   cases j' with
   | zero=>simp at hj';exact (lt j T1 c1 (by rw [hj'.1];simpa using hj)).elim
   | succ j'=>rw [r.one j j' b T1 T2 c1 c2 (by simpa using hj) (by simpa using hj')]
section
variable {P:Program} {n:Nat} {ops:Array Oper} {o:Oper} {rest:List Oper} {env:Env} {bx:Bxs} {sb:Bxs} {ow:Ows} {H:Hs} {Q:EQ} {τ:Tab} {d:Nat} {s:SV}
theorem EVL.unbox (i:Nat) {T:TypeId} {cs:List Value} (hg:bx.get i=some (T,cs)) (h:∀ b,EVL P n ops rest (unP i b env) (unB i bx) ⟨H.ro,(b,T,cs)::H.ow,H.base⟩ Q):EVL P n ops rest env bx H Q :=
 fun W0 β a W r=>h (β i) W0 β a W (r.unbox i hg)
theorem EV.unbox {c:Code} (i:Nat) {T:TypeId} {cs:List Value} (hg:bx.get i=some (T,cs)) (h:∀ b,EV P n c (unP i b env) (unB i bx) ⟨H.ro,(b,T,cs)::H.ow,H.base⟩ Q):EV P n c env bx H Q :=
 fun W0 β a W r=>h (β i) W0 β a W (r.unbox i hg)
theorem run_fldP (hτ:TabOk P τ) {T:TypeId} {x:Operand} {f:Nat} (ho:o.op=.fieldAddr T x f) {te:TE} (ht:τ.get T=some te) {fo sz:Nat} {ag:Bool} (hf:te.fields[f]?=some (fo,ag,sz)) {b q:Nat} (hx:env.op x=some (.v (.pointer (some ⟨b,q,none⟩)))) (ev:Operand→Value) (W:World) (he:∀ y x,y∈o.op.operands→env.op y=some (.v x)→ev y=x) :
  (execOp ev o).run P W=.ok (.value (.pointer (some ⟨b,q+fo,none⟩))) W:=by
 have ex:=he x _ (by simp [ho,Op.operands]) hx
 have:=((hτ.get ht).fields.get hf).1 W ⟨b,q,none⟩
 rw [Nat.zero_add] at this
 unfold execOp
 simp only [ho,ex,Sem.run_bind,this,Result.andThen_ok,Sem.run_pure,Addr.add_mid]
theorem EVL.fldB (hτ:TabOk P τ) {T:TypeId} {x:Operand} {f:Nat} (ho:o.op=.fieldAddr T x f) (hw:wantB ops env o=some true) (hd:o.dst=some d) (hn:Nat.blt d n=true) {te:TE} (ht:τ.get T=some te) {fo sz:Nat} {ag:Bool} (hf:te.fields[f]?=some (fo,ag,sz)) {b q:Nat} (hx:env.op x=some (.v (.pointer (some ⟨b,q,none⟩))))
  (h:EVL P n ops rest ((d,.v (.pointer (some ⟨b,q+fo,none⟩)))::env) bx H Q):EVL P n ops (o::rest) env bx H Q:=EVL.gen hw hd hn (run_fldP hτ ho ht hf hx) h
end
theorem newBlk {H:Hp} {W W':World} (hf:Fits H W) (hb:Below W.heap.size W W') {c:Array Value} {T:TypeId} (hT:W'.heap[W.heap.size]?=some (.cells c T (0,0))) :
  H.Le (H.put W.heap.size c)∧Fits (H.put W.heap.size c) W'∧Nw H W.heap.size (H.put W.heap.size c) W':=by
 have hn:H W.heap.size=none:=by
  cases hc:H W.heap.size with
  | none=>rfl
  | some c=>have:=hf.lt (b:=W.heap.size) (by rw [hc];simp);omega
 refine ⟨fun b c h=>?_,fun b c h=>?_,fun b c h=>?_⟩
 ·have:b≠W.heap.size:=fun e=>by subst e;rw [hn] at h;cases h
  simp only [Hp.put,if_neg this];exact h
 ·by_cases e:b=W.heap.size
  ·subst e;simp only [Hp.put,if_true] at h;cases h;exact ⟨T,(0,0),hT⟩
  ·simp only [Hp.put,if_neg e] at h;exact hf.below hb b c h
 ·by_cases e:b=W.heap.size
  ·subst e;simp only [Hp.put,if_true] at h;cases h;exact .inr ⟨Nat.le_refl _,T,hT⟩
  ·simp only [Hp.put,if_neg e] at h;exact .inl h
section
variable {P:Program} {n:Nat} {ops:Array Oper} {o:Oper} {rest:List Oper} {env:Env} {bx:Bxs} {sb:Bxs} {ow:Ows} {H:Hs} {Q:EQ} {τ:Tab} {d:Nat} {s:SV}
theorem ValOk.newSl {R:Hp} {F:Hp→Prop} {m size:Nat} {ys:List Value} (hw:wantB ops env o=some true) (hl:ys.length=m*size)
  (h:∀ (β:Nat→Nat) (a:Act) (W:World) (G:Hp),R.Le G→Fits G W→(∀ y s,y∈o.op.operands→env.op y=some s→s.rep β G (a.eval y))→F G→∃ (cap:Nat) (c:Array Value) (e:TypeId) (W1:World),
   (execOp a.eval o).run P W=.ok (.value (.slice (some ⟨W.heap.size,0,none⟩) m cap)) W1∧Below W.heap.size W W1∧W1.heap[W.heap.size]?=some (.cells c e (0,0))∧m≤cap∧∀ (q:Nat) (x:Value),ys[q]?=some x→c[q]?=some x) :
  ValOk P ops o env bx ow R F (fun _ v G'=>SlC G' v m size ys):=fun β a W G hle hf _ hb _ hs hF=>by
 rw [if_pos (hs.want hw)]
 obtain ⟨cap,c,e,W1,hr,hB,hT,hc,hx⟩:=h β a W G hle hf (fun y s hm hy=>hs.op hm hy) hF
 obtain ⟨h1,h2,h3⟩:=newBlk hf hB hT
 unfold Oper.wp
 rw [hr,Oper.upon_value]
 exact ⟨_,_,rfl,⟨hl,.inr ⟨W.heap.size,0,cap,c,rfl,hc,by simp [Hp.put],fun j x hj=>by rw [Nat.zero_add];exact hx j x hj⟩⟩,h1,h2,hB,h3⟩
variable {tail l:List Oper} {x:Nat→Value} {y:Nat→Ows} {ow':Ows} {kl ks:List DK} {i:Nat} {bx':Bxs} {Γ:Fcts}
theorem DJ.lit (hτ:TabOk P τ) {T:TypeId} {len:Nat} {parts:Array (Nat × Operand)} (ho:o.op=.buildSlice T len parts) (hw:wantB ops env o=some true) (hd:o.dst=some d) (hn:Nat.blt d n=true) {te te':TE} {e:TypeId} (ht:τ.get T=some te) (hk:te.kind=.slice e) (ht':τ.get e=some te')
  (hsz:Nat.beq te'.zero.length te'.size=true) (hpos:Nat.ble 1 (len*te'.size)=true) (hsm:Nat.ble (len*te'.size) 10000=true) {cs:List Value} (hc:zerosK te'.zero len (fun zs=>litK env te'.size parts.toList zs some)=some cs) (hcl:Nat.beq cs.length (len*te'.size)=true)
  (h:DJ P n ops tail sb bx H Q x y kl (i+1) l ks ((d,.v (x i))::env) bx' ((i,fun G=>SlC G (x i) len te'.size cs)::Γ) ow'):DJ P n ops tail sb bx H Q x y kl i (o::l) (.call (fun v G=>SlC G v len te'.size cs)::ks) env bx' Γ ow':=by
 have hkd:=(hτ.get ht).kind
 rw [hk] at hkd
 have hkd':P.underlying T=some (.slice e):=hkd
 obtain ⟨zv,hinfo,hzc⟩:=(hτ.get ht').info
 obtain ⟨i0,hi,hz0,hz1,hz2⟩:=info_parts hinfo
 have hl:=Nat.eq_of_beq_eq_true hsz
 have hp:=Nat.le_of_ble_eq_true hpos
 have hm:=Nat.le_of_ble_eq_true hsm
 rw [zerosK_eq] at hc
 obtain ⟨cs',hcs,hfill⟩:=litK_spec _ _ _ _ hc
 cases hcs
 refine DJ.ofCall (ValOk.newSl hw (Nat.eq_of_beq_eq_true hcl) fun β a W G hle hf hs hF=>?_) hd hn (fun _ _ _ h k=>SlC.mono h k) h
 have hff:=hfill β G a.eval (fun y s' hm hy=>hs y s' (by simpa [ho,Op.operands] using hm) hy)
 have hrun:=run_buildSlice (P:=P) W T e len (parts.map fun (i,x)=>(i,a.eval x)) cs.toArray i0 zv hkd' hi hz0 (by rw [hz1];omega) (by rw [hz1];omega) (by
  rw [hz1,hzc,made_flat te'.zero te'.size len hl,← hff]
  congr 1
  simp)
 refine ⟨len,cs.toArray,e,W.alloc (.cells cs.toArray e),?_,(Below.refl _ _).alloc (Nat.le_refl _) _,(Box.new W cs.toArray e),Nat.le_refl _,fun q x hq=>by simpa using hq⟩
 unfold execOp
 simp only [ho,Sem.run_bind,hrun,Result.andThen_ok,Sem.run_pure]
theorem DJ.lit0 (hτ:TabOk P τ) {T:TypeId} (ho:o.op=.buildSlice T 0 #[]) (hw:wantB ops env o=some true) (hd:o.dst=some d) (hn:Nat.blt d n=true) {te te':TE} {e:TypeId} (ht:τ.get T=some te) (hk:te.kind=.slice e) (ht':τ.get e=some te')
  (h:DJ P n ops tail sb bx H Q x y kl (i+1) l ks ((d,.v (x i))::env) bx' ((i,fun _=>∃ g,x i=.slice (some ⟨g,0,none⟩) 0 0)::Γ) ow'):DJ P n ops tail sb bx H Q x y kl i (o::l) (.call (fun v _=>∃ g,v=.slice (some ⟨g,0,none⟩) 0 0)::ks) env bx' Γ ow':=by
 have hkd:=(hτ.get ht).kind
 rw [hk] at hkd
 have hkd':P.underlying T=some (.slice e):=hkd
 refine DJ.ofCall (fun β a W G hle hf _ hb _ hs hF=>?_) hd hn (fun _ _ _ h _=>h) h
 rw [if_pos (hs.want hw)]
 have hx':(execOp a.eval o).run P W=.ok (.value (.slice (some ⟨W.heap.size,0,none⟩) 0 0)) (W.alloc (.cells ([]:List Value).toArray e)):=by
  unfold execOp
  have hsz:(sizeOf e).run P W=.ok te'.size W:=(hτ.get ht').size W
  simp [ho,Instr.buildSlice,run_underlying hkd',hsz,Instr.fill,newRow,Array.range_zero']
 have hB:Below W.heap.size W (W.alloc (.cells ([]:List Value).toArray e)):=(Below.refl _ _).alloc (Nat.le_refl _) _
 unfold Oper.wp
 rw [hx',Oper.upon_value]
 exact ⟨_,G,rfl,⟨_,rfl⟩,Hp.Le.refl _,hf.below hB,hB,(Nw.refl _ _ _).below hf hB⟩
theorem DJ.appendE (hτ:TabOk P τ) {T:TypeId} {u w:Operand} (ho:o.op=.call { callee:=.builtin .append,args:=#[u,w],argTypes:=#[T,T] }) (hw:wantB ops env o=some true) (hd:o.dst=some d) (hn:Nat.blt d n=true) {te te':TE} {e:TypeId} (ht:τ.get T=some te) (hk:te.kind=.slice e) (ht':τ.get e=some te')
  (hby:Nat.ble te'.bytes 10000=true) {u0:Value} (hx:env.op u=some (.v u0)) {w0:Value} (hy:env.op w=some (.v w0)) {m:Nat} {ys:List Value} (hu:∀ G,DepF ops i Γ G→∃ g,u0=.slice (some ⟨g,0,none⟩) 0 0) (hsrc:SlC H.ro w0 m te'.size ys) (hm0:0<m) (hm:m≤1000000000)
  (h:DJ P n ops tail sb bx H Q x y kl (i+1) l ks ((d,.v (x i))::env) bx' ((i,fun G=>SlC G (x i) m te'.size ys)::Γ) ow'):DJ P n ops tail sb bx H Q x y kl i (o::l) (.call (fun v G=>SlC G v m te'.size ys)::ks) env bx' Γ ow':=by
 have hkd:=(hτ.get ht).kind
 rw [hk] at hkd
 have hkd':P.underlying T=some (.slice e):=hkd
 obtain ⟨zv,hinfo,hzc⟩:=(hτ.get ht').info
 obtain ⟨i0,hi,hz0,hz1,hz2⟩:=info_parts hinfo
 have hb:=Nat.le_of_ble_eq_true hby
 have hby':m*te'.bytes≤140737488355328:=by
  have:m*te'.bytes≤1000000000*10000:=Nat.mul_le_mul hm hb
  omega
 refine DJ.ofCall (ValOk.newSl hw hsrc.1 fun β a W G hle hf hs hF=>?_) hd hn (fun _ _ _ h k=>SlC.mono h k) h
 obtain ⟨g,rfl⟩:=hu G hF
 have ex:a.eval u=_:=hs u _ (by simp [ho,Op.operands,Call.operands]) hx
 have ey:a.eval w=_:=hs w _ (by simp [ho,Op.operands,Call.operands]) hy
 rcases hsrc.2 with ⟨h0,_⟩ | ⟨b,off,cap,c,rfl,hc,hH,hcs⟩
 ·omega
 obtain ⟨T',fz,hW⟩:=hf b c (hle b c hH)
 have hr:=run_append_grow (P:=P) (w:=W) T o.type e i0 zv hkd' hi hz0 ⟨g,0,none⟩ 0 0 [] (by simp) (fun j v hj=>by simp at hj) ⟨b,off,none⟩ m cap ys (by rw [hz1];exact hsrc.1) (fun j v hj=>by rw [Addr.add_mid,cell_of_row W b (off+j) c T' fz hW];exact hcs j v hj) oM oM (growslice_fits oM (by rw [hz2,Nat.zero_add];exact hby'))
 have hcap:0+m≤grownCap W (0+m) 0 e:=by unfold grownCap Question.cut;exact Nat.le_add_right _ _
 rw [Nat.zero_add] at hr hcap
 have hget:∀ (q:Nat) (x:Value),ys[q]?=some x→(#[]++ys.toArray++Builtin.zeroCells zv.cells (grownCap W m 0 e-m))[q]?=some x:=fun q x hq=>by
  have hl:=(List.getElem?_eq_some_iff.1 hq).1
  rw [Array.empty_append,Array.getElem?_append_left (by simpa using hl)]
  simpa using hq
 generalize #[]++ys.toArray++Builtin.zeroCells zv.cells (grownCap W m 0 e-m)=C at hr hget
 refine ⟨_,C,e,W.drew.alloc (.cells C e),?_,((Below.refl _ _).drew).alloc (Nat.le_refl _) _,Box.new W.drew C e,hcap,hget⟩
 unfold execOp
 simp only [ho,resolve,invoke,builtin,Sem.run_bind,Sem.run_pure,Result.andThen_ok,List.map_toArray,List.map_cons,List.map_nil,ex,ey,hr]
theorem DJ.append0E (hτ:TabOk P τ) {T:TypeId} {u w:Operand} (ho:o.op=.call { callee:=.builtin .append,args:=#[u,w],argTypes:=#[T,T] }) (hw:wantB ops env o=some true) (hd:o.dst=some d) (hn:Nat.blt d n=true) {te te':TE} {e:TypeId} (ht:τ.get T=some te) (hk:te.kind=.slice e) (ht':τ.get e=some te')
  {u0:Value} (hx:env.op u=some (.v u0)) {w0:Value} (hy:env.op w=some (.v w0)) (a':Option Addr) (c':Nat) (hw0:w0=.slice a' 0 c') (hu:∀ G,DepF ops i Γ G→∃ g,u0=.slice (some ⟨g,0,none⟩) 0 0)
  (h:DJ P n ops tail sb bx H Q x y kl (i+1) l ks ((d,.v (x i))::env) bx' ((i,fun _=>∃ g,x i=.slice (some ⟨g,0,none⟩) 0 0)::Γ) ow'):DJ P n ops tail sb bx H Q x y kl i (o::l) (.call (fun v _=>∃ g,v=.slice (some ⟨g,0,none⟩) 0 0)::ks) env bx' Γ ow':=by
 have hkd:=(hτ.get ht).kind
 rw [hk] at hkd
 have hkd':P.underlying T=some (.slice e):=hkd
 obtain ⟨zv,hinfo,hzc⟩:=(hτ.get ht').info
 obtain ⟨i0,hi,hz0,hz1,hz2⟩:=info_parts hinfo
 subst hw0
 refine DJ.ofCall (fun β a W G _ hf _ hb _ hs hF=>?_) hd hn (fun _ _ _ h _=>h) h
 rw [if_pos (hs.want hw)]
 obtain ⟨g,rfl⟩:=hu G hF
 have ex:a.eval u=_:=hs.op (by simp [ho,Op.operands,Call.operands]) hx
 have ey:a.eval w=_:=hs.op (by simp [ho,Op.operands,Call.operands]) hy
 have hrn:=run_append_nothing (P:=P) W T T o.type e i0 hkd' hi (some ⟨g,0,none⟩) 0 0 (Nat.le_refl _) (.slice a' 0 c') (src_none hkd' _ _ _ _)
 have hr:(execOp a.eval o).run P W=.ok (.value (.slice (some ⟨g,0,none⟩) 0 0)) W:=by
  unfold execOp
  simp only [ho,resolve,invoke,builtin,Sem.run_bind,Sem.run_pure,Result.andThen_ok,List.map_toArray,List.map_cons,List.map_nil,ex,ey,hrn]
 unfold Oper.wp
 rw [hr,Oper.upon_value]
 exact ⟨_,G,rfl,⟨_,rfl⟩,Hp.Le.refl G,hf,Below.refl _ _,Nw.refl _ _ _⟩
end
section
variable {P:Program} {n:Nat} {ops:Array Oper} {o:Oper} {rest:List Oper} {env:Env} {bx:Bxs} {sb:Bxs} {ow:Ows} {H:Hs} {Q:EQ} {τ:Tab} {d:Nat} {s:SV}
theorem run_call_clo {f:FuncId} (hc:Callable P f) {t:Nat} {args:Array Operand} {tys:Array TypeId} {o:Oper} (ho:o.op=.call ⟨.value (.tmp t),args,tys⟩) {a:Act} {cs:List Value} (ht:a.eval (.tmp t)=.func (.func f) #[] cs.toArray) {vs:List Value} (hv:args.toList.map a.eval=vs) (W:World) :
  (execOp a.eval o).run P W=.ok (.enter f (vs++cs).toArray) W:=by
 have hm:args.map a.eval=vs.toArray:=by rw [← hv,← Array.toList_map]
 unfold execOp
 simp only [ho,resolve,hm,ht,Deferred.ofValue,Sem.run_bind,Sem.run_pure,Result.andThen_ok,invoke]
 simp [hc (vs++cs).toArray W]
end
abbrev cellsQ (l:List Rat):List Value:=l.flatMap fun q=>vlist (fracV q)
theorem oneB_app:∀ {a b:List Value},oneB a=true→oneB b=true→oneB (a++b)=true
 | [],_,_,h=>h
 | v::a,b,h,k=>by
  unfold oneB at h
  rw [List.cons_append]
  unfold oneB
  rw [Bool.and_eq_true] at h ⊢
  exact ⟨h.1,oneB_app h.2 k⟩
end Go.Proofs.YtbcfidllfimehaaGreatDoor
namespace Go.Proofs.YtbcfidllfimehaaGreatDoor
end Go.Proofs.YtbcfidllfimehaaGreatDoor
namespace Go.Proofs.YtbcfidllfimehaaGreatDoor
open Go.RowKit _root_.Go.Proofs.Tryz
abbrev iv:Int→Value:=fun z=>.int .i64 z
def inR (n:Nat) (r:Int):Bool:=decide (0≤r) && decide (r<(n:Int))
theorem dropA_at {α:Type} {l:List α} {i:Nat} {x:α} (h:l[i]?=some x):l.drop i=x::l.drop (i+1):=by
 obtain ⟨hl,rfl⟩:=List.getElem?_eq_some_iff.1 h
 exact List.drop_eq_getElem_cons hl
abbrev RisK (key:Int→Rat) (l:List Int):Prop:=Rising (l.map key)
section
variable {P:Program} {n:Nat} {ops:Array Oper} {rest:List Oper} {env:Env} {bx:Bxs} {H:Hs} {Q:EQ}
theorem Rel.asRo {W0:World} {H0:Bs} {β:Nat→Nat} {a:Act} {W:World} (r:Rel n W0 H0 β env bx H a W) {t b off:Nat} (ht:env.get t=some (.v (.pointer (some ⟨b,off,none⟩)))) {c:Array Value} (hc:H.ro b=some c) {cs:List Value} (hcs:∀ j x,cs[j]?=some x→c[off+j]?=some x) :
  Rel n W0 H0 β ((t,.ro cs)::env) bx H a W:=by
 refine ⟨r.size,r.defers,fun t' s hs=>?_,r.box,r.low,r.inj,fun t' i off' hu=>?_,r.fits,r.le,r.new,r.bel,r.glob,r.own,r.one⟩
 ·rw [Env.get_cons] at hs
  by_cases e:t=t'
  ·subst e
   rw [if_pos rfl] at hs
   cases hs
   obtain ⟨x,hx,hr⟩:=r.slot t _ ht
   exact ⟨x,hx,b,off,c,hr,hc,hcs⟩
  ·rw [if_neg e] at hs
   exact r.slot t' s hs
 ·rw [Env.get_cons] at hu
  by_cases e:t=t'
  ·rw [if_pos e] at hu;cases hu
  ·rw [if_neg e] at hu;exact r.pin t' i off' hu
theorem EV.asRo {c:Code} (t:Nat) {b:Nat} (ht:env.get t=some (.v (.pointer (some ⟨b,0,none⟩)))) {cs:List Value} (hc:H.ro b=some cs.toArray) (h:EV P n c ((t,.ro cs)::env) bx H Q):EV P n c env bx H Q :=
 fun W0 β a W r=>h W0 β a W (r.asRo ht hc (fun j x hx=>by rw [Nat.zero_add];simpa using hx))
theorem EVL.asRo (t:Nat) {b:Nat} (ht:env.get t=some (.v (.pointer (some ⟨b,0,none⟩)))) {cs:List Value} (hc:H.ro b=some cs.toArray) (h:EVL P n ops rest ((t,.ro cs)::env) bx H Q):EVL P n ops rest env bx H Q :=
 fun W0 β a W r=>h W0 β a W (r.asRo ht hc (fun j x hx=>by rw [Nat.zero_add];simpa using hx))
theorem EVL.swapOw (a b:Ows) (e:H.ow=a++b) (h:EVL P n ops rest env bx ⟨H.ro,b++a,H.base⟩ Q):EVL P n ops rest env bx H Q :=
 fun W0 β x W r=>h W0 β x W (r.permOw (by rw [e];exact List.perm_append_comm))
theorem EV.swapOw {c:Code} (a b:Ows) (e:H.ow=a++b) (h:EV P n c env bx ⟨H.ro,b++a,H.base⟩ Q):EV P n c env bx H Q :=
 fun W0 β x W r=>h W0 β x W (r.permOw (by rw [e];exact List.perm_append_comm))
end
def hasC (X:List (List Rat)) (col r:Int):Bool:=decide (0≤col) && decide (col<((X.getD r.toNat []).length:Int))
def colK (X:List (List Rat)) (col r:Int):Rat:=(X.getD r.toNat []).getD col.toNat 0
def SortC (X:List (List Rat)) (col:Int) (rs m:List Int):Prop:=(rs.all (hasC X col)=true∧m.Perm rs∧RisK (colK X col) m)∨(rs.all (hasC X col)=false∧m=[])
theorem ordQ_le {a b:Rat} (h:a≤b):ordR a b≤0:=by
 unfold ordR
 split
 ·omega
 ·split
  ·rename_i k;exact absurd k (Rat.not_lt.2 h)
  ·omega
section
variable {pre S S' post vs:List Value} {k:Nat}
end
section
variable {H:Hp} {b k:Nat} {T:TypeId} {pre post:List Value} (hk:pre.length=k)
include hk
end
section
variable {P:Program} {n:Nat} {ops:Array Oper} {o:Oper} {rest:List Oper} {env:Env} {bx:Bxs} {sb:Bxs} {ow:Ows} {H:Hs} {Q:EQ} {τ:Tab} {d:Nat} {s:SV}
theorem run_fn1 {f:Fn} {x:Operand} (ho:o.op=.makeFunc f #[] #[x]) {u:Value} (hx:env.op x=some (.v u)) (ev:Operand→Value) (W:World) (he:∀ y x,y∈o.op.operands→env.op y=some (.v x)→ev y=x) :
  (execOp ev o).run P W=.ok (.value (.func f #[] #[u])) W:=by
 have ex:=he x _ (by simp [ho,Op.operands]) hx
 unfold execOp
 simp [ho,ex,Instr.makeFunc]
theorem EVL.fn1 {f:Fn} {x:Operand} (ho:o.op=.makeFunc f #[] #[x]) (hw:wantB ops env o=some true) (hd:o.dst=some d) (hn:Nat.blt d n=true) {u:Value} (hx:env.op x=some (.v u))
  (h:EVL P n ops rest ((d,.v (.func f #[] #[u]))::env) bx H Q):EVL P n ops (o::rest) env bx H Q:=EVL.gen hw hd hn (run_fn1 ho hx) h
end
def candC (key:Int→Rat) (least:Int) (m:List Int) (j:Nat):Bool:=decide (least≤((j+1:Nat):Int)) && decide (least≤((m.length-(j+1):Nat):Int)) && decide (key (m.getD j 0)<key (m.getD (j+1) 0))
def sumW (wo:List Int→Rat) (m:List Int) (j:Nat):Rat:=wo (m.take (j+1))+wo (m.drop (j+1))
def midC (key:Int→Rat) (m:List Int) (j:Nat):Rat:=(key (m.getD j 0)+key (m.getD (j+1) 0)) / 2
def colN (key:Int→Rat) (wo:List Int→Rat) (least:Int) (m:List Int):Nat→Option (Rat × Rat)
 | 0=>none
 | j+1=>if candC key least m j=true then (match colN key wo least m j with
  | none=>some (midC key m j,sumW wo m j)
  | some (a,w)=>if w<sumW wo m j then some (midC key m j,sumW wo m j) else some (a,w)) else colN key wo least m j
def stW:Option (Rat × Rat)→Rat
 | none=>0
 | some (_,w)=>w
def ColR (X:List (List Rat)) (wo:List Int→Rat) (rs:List Int) (least col:Int) (o:Option (Rat × Rat)):Prop:=∃ m,SortC X col rs m∧o=colN (colK X col) wo least m (m.length-1)∧ht (stW o)≤200001
theorem ordQ_neg {a b:Rat}:ordR a b≥0↔¬ a<b:=by
 unfold ordR
 split
 ·rename_i h;constructor
  ·intro k;omega
  ·intro k;exact absurd h k
 ·rename_i h;constructor
  ·intro _;exact h
  ·intro _;split <;> omega
end Go.Proofs.YtbcfidllfimehaaGreatDoor
namespace Go.Proofs.YtbcfidllfimehaaGreatDoor
open Go.RowKit Go.Shelf
attribute [local go_sem] Oper.semAt_some
end Go.Proofs.YtbcfidllfimehaaGreatDoor
namespace Go.Proofs.YtbcfidllfimehaaGreatDoor
open Go.RowKit Go.Shelf
attribute [local go_sem] Oper.semAt_some
end Go.Proofs.YtbcfidllfimehaaGreatDoor
namespace Go.Proofs.YtbcfidllfimehaaGreatDoor
open Go.RowKit _root_.Go.Proofs.Tryz
def nxt (s:Int):Int:=IntKind.u64.wrap (s+11400714819323198485)
def mixA (z:Int):Int:=IntKind.u64.wrap (bits .xor .u64 z (z / 1073741824)*13787848793156543929)
def mixB (z:Int):Int:=IntKind.u64.wrap (bits .xor .u64 z (z / 134217728)*10723151780598845931)
def mixC (z:Int):Int:=bits .xor .u64 z (z / 2147483648)
def mix (z:Int):Int:=mixC (mixB (mixA z))
def last (n:Int):Int:=18446744073709551615-18446744073709551616 % n
def dist (s:Int):Int:=(-s*17428512612931826493) % 18446744073709551616
def left (s:Int):Nat:=(dist (nxt s)).toNat
def belowGo (n:Int):Nat→Int→Int × Int
 | 0,s=>(0,s)
 | k+1,s=>if mix (nxt s)≤last n then (mix (nxt s) % n,nxt s) else belowGo n k (nxt s)
def below (n s:Int):Int × Int:=belowGo n (left s+1) s
end Go.Proofs.YtbcfidllfimehaaGreatDoor
namespace Go.Proofs.YtbcfidllfimehaaGreatDoor
end Go.Proofs.YtbcfidllfimehaaGreatDoor
namespace Go.Proofs.YtbcfidllfimehaaGreatDoor
end Go.Proofs.YtbcfidllfimehaaGreatDoor
namespace Go.Proofs.YtbcfidllfimehaaGreatDoor
open Go.RowKit Go.Shelf
end Go.Proofs.YtbcfidllfimehaaGreatDoor
namespace Go.Proofs.YtbcfidllfimehaaGreatDoor
def Cols (cols cs:List Int):Prop:=cs.Pairwise (·<·)∧∀ c,c∈cs↔c∈cols
end Go.Proofs.YtbcfidllfimehaaGreatDoor
namespace Go.Proofs.YtbcfidllfimehaaGreatDoor
open Go.RowKit _root_.Go.Proofs.Tryz
end Go.Proofs.YtbcfidllfimehaaGreatDoor
namespace Go.Proofs.YtbcfidllfimehaaGreatDoor
end Go.Proofs.YtbcfidllfimehaaGreatDoor
namespace Go.Proofs.YtbcfidllfimehaaGreatDoor
structure POk (wo cost:List Int→Rat):Prop where
 wperm:∀ l m:List Int,l.Perm m→wo l=wo m
 cperm:∀ l m:List Int,l.Perm m→cost l=cost m
 split:∀ l m:List Int,cost (l++m)+wo (l++m)=cost l+wo l+(cost m+wo m)
 conv:∀ l m:List Int,wo (l++m)≤wo l+wo m
section
variable {X:List (List Rat)} {wo cost:List Int→Rat} {rs cols:List Int} {L:Int} {ps:List (Int × Option (Rat × Rat))} (hp:POk wo cost) (hcol:Cols cols (ps.map (·.1))) (hps:∀ p,p∈ps→ColR X wo rs L p.1 p.2)
include hp hcol hps
end
end Go.Proofs.YtbcfidllfimehaaGreatDoor
namespace Go.Proofs.YtbcfidllfimehaaGreatDoor
end Go.Proofs.YtbcfidllfimehaaGreatDoor
namespace Go.Proofs.YtbcfidllfimehaaGreatDoor
def preC (a b:Int × Rat × Rat):Prop:=b.2.2<a.2.2∨(a.2.2=b.2.2∧(a.1<b.1∨(a.1=b.1∧a.2.1<b.2.1)))
instance (a b:Int × Rat × Rat):Decidable (preC a b):=by unfold preC;exact inferInstance
end Go.Proofs.YtbcfidllfimehaaGreatDoor
namespace Go.Proofs.YtbcfidllfimehaaGreatDoor
end Go.Proofs.YtbcfidllfimehaaGreatDoor
namespace Go.Proofs.YtbcfidllfimehaaGreatDoor
open Go.RowKit _root_.Go.Proofs.Tryz
end Go.Proofs.YtbcfidllfimehaaGreatDoor
namespace Go.Proofs.YtbcfidllfimehaaGreatDoor
end Go.Proofs.YtbcfidllfimehaaGreatDoor
namespace Go.Proofs.YtbcfidllfimehaaGreatDoor
open Go.RowKit _root_.Go.Proofs.Tryz
theorem fill_all (size:Nat):∀ (vs:List Value) (k:Nat) (pre zs:List Value),(∀ v,v∈vs→(vlist v).length=size)→pre.length=k*size→zs.length=vs.length*size →
  Instr.fill (fun i=>some (i*size,size)) (pre++zs).toArray ((List.range' k vs.length).zip vs)=some (pre++vs.flatMap vlist).toArray
 | [],k,pre,zs,_,_,hz=>by
  obtain rfl:zs=[]:=List.eq_nil_of_length_eq_zero (by simpa using hz)
  rfl
 | v::vs,k,pre,zs,hv,hp,hz=>by
  have hlen:=hv v (List.mem_cons_self ..)
  rw [List.length_cons,Nat.succ_mul] at hz
  rw [List.length_cons,List.range'_succ,List.zip_cons_cons]
  unfold Instr.fill
  simp only [vlist_cells]
  rw [if_neg (by simp [hlen];omega)]
  have:=fold_set (vlist v) (pre++zs) (k*size) 0 (by rw [List.length_append,hlen];omega)
  rw [Nat.add_zero] at this
  have e:((vlist v).toArray.zipIdx.foldl (fun (cs:Array Value) (x:Value × Nat)=>match x with | (c,j)=>cs.setIfInBounds (k*size+j) c) (pre++zs).toArray)=((vlist v).zipIdx.foldl (fun (c:Array Value) (p:Value × Nat)=>c.setIfInBounds (k*size+p.2) p.1) (pre++zs).toArray):=by
   simp
  rw [e,this,List.take_left' hp,hlen,← hp,← List.drop_drop,List.drop_left,List.flatMap_cons,← List.append_assoc]
  have ih:=fill_all size vs (k+1) (pre++vlist v) (zs.drop size) (fun u hu=>hv u (List.mem_cons_of_mem _ hu)) (by rw [List.length_append,hp,hlen,Nat.succ_mul]) (by rw [List.length_drop];omega)
  exact ih
def ixB:List (Nat × Operand)→Nat→Nat→Bool
 | [],_,0=>true
 | p::ps,k,n+1=>match Nat.beq p.1 k with
  | true=>ixB ps (k+1) n
  | false=>false
 | _,_,_=>false
theorem ixB_spec:∀ (ps:List (Nat × Operand)) (k n:Nat),ixB ps k n=true→ps.map (·.1)=List.range' k n
 | [],k,0,_=>rfl
 | p::ps,k,n+1,h=>by
  unfold ixB at h
  split at h
  ·rename_i e
   rw [List.map_cons,List.range'_succ,ixB_spec ps (k+1) n h,Nat.eq_of_beq_eq_true e]
  ·cases h
 | [],k,n+1,h=>by cases h
 | p::ps,k,0,h=>by cases h
section
variable {P:Program} {n:Nat} {ops:Array Oper} {o:Oper} {rest:List Oper} {env:Env} {bx:Bxs} {sb:Bxs} {ow:Ows} {H:Hs} {Q:EQ} {τ:Tab} {d:Nat} {s:SV}
theorem DJ.litD {tail l:List Oper} {x:Nat→Value} {y:Nat→Ows} {ow':Ows} {kl ks:List DK} {i:Nat} {bx':Bxs} {Γ:Fcts} (hτ:TabOk P τ) {T:TypeId} {len:Nat} {parts:Array (Nat × Operand)} (ho:o.op=.buildSlice T len parts) (hw:wantB ops env o=some true) (hd:o.dst=some d) (hn:Nat.blt d n=true) {te te':TE} {e:TypeId} (ht:τ.get T=some te) (hk:te.kind=.slice e) (ht':τ.get e=some te')
  (hsz:Nat.beq te'.zero.length te'.size=true) (hpos:Nat.ble 1 (len*te'.size)=true) (hsm:Nat.ble (len*te'.size) 10000=true) {vs:List Value} (ha:argsK env (parts.toList.map (·.2)) some=some vs) (hix':ixB parts.toList 0 len=true) (hv:∀ G,DepF ops i Γ G→∀ v,v∈vs→(vlist v).length=te'.size)
  {Φ:Value→Hp→Prop} (hm:∀ v G G',Φ v G→G.Le G'→Φ v G') (hΦ:∀ G G' v,DepF ops i Γ G→G.Le G'→SlC G' v len te'.size (vs.flatMap vlist)→Φ v G')
  (h:DJ P n ops tail sb bx H Q x y kl (i+1) l ks ((d,.v (x i))::env) bx' ((i,Φ (x i))::Γ) ow'):DJ P n ops tail sb bx H Q x y kl i (o::l) (.call Φ::ks) env bx' Γ ow':=by
 have hix:parts.toList.map (·.1)=List.range' 0 len:=ixB_spec _ _ _ hix'
 have hkd:=(hτ.get ht).kind
 rw [hk] at hkd
 have hkd':P.underlying T=some (.slice e):=hkd
 obtain ⟨zv,hinfo,hzc⟩:=(hτ.get ht').info
 obtain ⟨i0,hi,hz0,hz1,hz2⟩:=info_parts hinfo
 have hl:=Nat.eq_of_beq_eq_true hsz
 have hp:=Nat.le_of_ble_eq_true hpos
 have hm':=Nat.le_of_ble_eq_true hsm
 refine DJ.ofCall (fun β a W G hle hf _ hb _ hs hF=>?_) hd hn hm h
 rw [if_pos (hs.want hw)]
 have hvv:=hv G hF
 obtain ⟨vs',e1,h2⟩:=argsK_vals ha
 cases e1
 have h3:=h2 a.eval fun y u hy he=>hs.op (s:=.v u) (by rw [ho];simpa [Op.operands] using hy) he
 have hvl:vs.length=len:=by
  have e1:=congrArg List.length h3
  have e2:=congrArg List.length hix
  simp at e1 e2
  omega
 have hfl:(vs.flatMap vlist).length=len*te'.size:=by rw [flat_len vlist te'.size vs hvv,hvl]
 have h4:((parts.map fun (i,x)=>(i,a.eval x)):Array (Nat × Value)).toList=(List.range' 0 vs.length).zip vs:=by
  rw [hvl,← hix,← h3,Array.toList_map]
  generalize parts.toList=l
  induction l with
  | nil=>rfl
  | cons p l ih=>simp only [List.map_cons,List.zip_cons_cons,ih]
 have hfill:=fill_all te'.size vs 0 [] ((List.replicate len te'.zero).flatten) hvv (by simp) (by rw [List.length_flatten];simp [hl,hvl])
 rw [List.nil_append,List.nil_append,← h4] at hfill
 have hrun:=run_buildSlice (P:=P) W T e len (parts.map fun (i,x)=>(i,a.eval x)) (vs.flatMap vlist).toArray i0 zv hkd' hi hz0 (by rw [hz1];omega) (by rw [hz1];omega) (by
  rw [hz1,hzc,made_flat te'.zero te'.size len hl,← hfill])
 have hB:Below W.heap.size W (W.alloc (.cells (vs.flatMap vlist).toArray e)):=(Below.refl _ _).alloc (Nat.le_refl _) _
 obtain ⟨k1,k2,k3⟩:=newBlk hf hB (Box.new W (vs.flatMap vlist).toArray e)
 have hr:(execOp a.eval o).run P W=.ok (.value (.slice (some ⟨W.heap.size,0,none⟩) len len)) (W.alloc (.cells (vs.flatMap vlist).toArray e)):=by
  unfold execOp
  simp only [ho,Sem.run_bind,hrun,Result.andThen_ok,Sem.run_pure]
 unfold Oper.wp
 rw [hr,Oper.upon_value]
 exact ⟨_,_,rfl,hΦ G _ _ hF k1 ⟨hfl,.inr ⟨W.heap.size,0,len,(vs.flatMap vlist).toArray,rfl,Nat.le_refl _,by simp [Hp.put],fun j x hj=>by rw [Nat.zero_add];simpa using hj⟩⟩,k1,k2,hB,k3⟩
theorem DJ.litD1 {tail l:List Oper} {x:Nat→Value} {y:Nat→Ows} {ow':Ows} {kl ks:List DK} {i:Nat} {bx':Bxs} {Γ:Fcts} {Φ:Value→Hp→Prop} (hm:∀ v G G',Φ v G→G.Le G'→Φ v G') (hτ:TabOk P τ) {T:TypeId} {u:Operand} (ho:o.op=.buildSlice T 1 #[(0,u)]) (hw:wantB ops env o=some true) (hd:o.dst=some d) (hn:Nat.blt d n=true) {te te':TE} {e:TypeId} (ht:τ.get T=some te) (hk:te.kind=.slice e) (ht':τ.get e=some te')
  (hsz:Nat.beq te'.zero.length te'.size=true) (hpos:Nat.ble 1 (1*te'.size)=true) (hsm:Nat.ble (1*te'.size) 10000=true) {v:Value} (hx:env.op u=some (.v v)) (hv:∀ G,DepF ops i Γ G→(vlist v).length=te'.size)
  (hΦ:∀ G G' w,DepF ops i Γ G→G.Le G'→SlC G' w 1 te'.size ([v].flatMap vlist)→Φ w G')
  (h:DJ P n ops tail sb bx H Q x y kl (i+1) l ks ((d,.v (x i))::env) bx' ((i,Φ (x i))::Γ) ow'):DJ P n ops tail sb bx H Q x y kl i (o::l) (.call Φ::ks) env bx' Γ ow' :=
 DJ.litD hτ ho hw hd hn ht hk ht' hsz hpos hsm (vs:=[v]) (by show argsK env [u] some=_;simp [argsK,hx]) rfl (fun G hd w hm=>by rw [List.mem_singleton.1 hm];exact hv G hd) hm hΦ h
end
end Go.Proofs.YtbcfidllfimehaaGreatDoor
namespace Go.Proofs.YtbcfidllfimehaaGreatDoor
end Go.Proofs.YtbcfidllfimehaaGreatDoor
namespace Go.Proofs.YtbcfidllfimehaaGreatDoor
end Go.Proofs.YtbcfidllfimehaaGreatDoor
namespace Go.Proofs.YtbcfidllfimehaaGreatDoor
open Go.RowKit _root_.Go.Proofs.Tryz
section
variable {P:Program} {n:Nat} {ops:Array Oper} {tail:List Oper} {sb bx:Bxs} {H:Hs} {Q:EQ} {x:Nat→Value} {y:Nat→Ows} {ow':Ows} {kl:List DK} {i:Nat} {o:Oper} {l:List Oper} {ks:List DK} {env:Env} {bx':Bxs} {Γ:Fcts} {τ:Tab} {d:Nat}
theorem DJ.plainE (hτ:TabOk P τ) (Φ:Value→Hp→Prop) (hm:∀ v G G',Φ v G→G.Le G'→Φ v G') (hw:wantB ops env o=some true) (hd:o.dst=some d) (hn:Nat.blt d n=true) (hv:∀ G,DepF ops i Γ G→∃ v,pval τ env bx o.op=some (.v v)∧Φ v G)
  (h:DJ P n ops tail sb bx H Q x y kl (i+1) l ks ((d,.v (x i))::env) bx' ((i,Φ (x i))::Γ) ow'):DJ P n ops tail sb bx H Q x y kl i (o::l) (.call Φ::ks) env bx' Γ ow' :=
 DJ.ofCall (fun β a W G _ hf _ hb _ hs hF=>by
  obtain ⟨v,hv,hΦ⟩:=hv G hF
  obtain ⟨u,hu,hr⟩:=pval_sound hτ hv (fun y s hm hy=>hs.op hm hy) hb hf
  rw [if_pos (hs.want hw)]
  unfold Oper.wp
  rw [hu,Oper.upon_value]
  have e:u=v:=hr
  subst e
  exact ⟨u,G,rfl,hΦ,Hp.Le.refl G,hf,Below.refl _ _,Nw.refl _ _ _⟩) hd hn hm h
end
section
variable {n:Nat} {ops:Array Oper} {fuel:Nat} {L:Array Bool} {env:Env} {bx:Bxs} {H:Hs} {K:Env→Bxs→Hs→Prop} {d:Nat} {o:Oper} {v:Value}
end
section
variable {P:Program} {n:Nat} {ops:Array Oper} {o:Oper} {rest:List Oper} {env:Env} {bx:Bxs} {H:Hs} {Q:EQ} {d:Nat}
end
theorem row_take {A c B:List Value} {k s f:Nat} (hA:A.length=k*s) (hf:f≤c.length):(A++(c++B)).take (k*s+f)=A++c.take f:=by
 rw [List.take_append,List.take_of_length_le oM,hA,Nat.add_sub_cancel_left,List.take_append_of_le_length hf]
theorem row_drop {A c B:List Value} {k s f:Nat} (hA:A.length=k*s) (hf:f≤c.length):(A++(c++B)).drop (k*s+f)=c.drop f++B:=by
 rw [List.drop_append,List.drop_eq_nil_of_le oM,hA,Nat.add_sub_cancel_left,List.drop_append_of_le_length hf,List.nil_append]
theorem row_set {A c B vs c':List Value} {k s f m q:Nat} (hA:A.length=k*s) (hq:q=k*s+f) (hm:vs.length=m) (hf:f+m≤c.length) (hc:c.take f++vs++c.drop (f+m)=c'):(A++(c++B)).take q++vs++(A++(c++B)).drop (q+m)=A++(c'++B):=by
 subst hq
 rw [row_take hA oM,Nat.add_assoc,row_drop hA hf,← hc]
 simp only [List.append_assoc]
section
variable {P:Program} {ops:Array Oper} {md:Region.Mode} {Q:Exit→Act→World→Prop} {I:World→Prop} {z:Option Nat}
def yetB (md:Region.Mode) (ops:Array Oper) (L:Array Bool) (i:Nat):Bool:=(List.range ops.size).all fun k => !L.getD k false || match ops[k]? with
 | some o => !o.after.any fun e=>Region.binds md e && e.on == i
 | none=>true
theorem yetB_iff {L:Array Bool} {i:Nat}:yetB md ops L i=true↔∀ k o,ops[k]?=some o→L.getD k false=true→∀ e∈o.after,Region.binds md e=true→e.on≠i:=by
 unfold yetB
 rw [List.all_eq_true]
 constructor
 ·intro h k o ho hk e he hb heq
  have h1:=h k (List.mem_range.2 (Array.getElem?_eq_some_iff.1 ho).1)
  rw [hk,ho] at h1
  simp only [Bool.not_true,Bool.false_or,Bool.not_eq_true',Array.any_eq_false'] at h1
  have:=h1 e he
  simp [hb,heq] at this
 ·intro h k hk
  cases hL:L.getD k false with
  | false=>rfl
  | true =>
   obtain ⟨o,ho⟩:∃ o,ops[k]?=some o:=⟨_,Array.getElem?_eq_getElem (List.mem_range.1 hk)⟩
   rw [ho]
   simp only [Bool.not_true,Bool.false_or,Bool.not_eq_true',Array.any_eq_false']
   intro e he
   cases hb:Region.binds md e with
   | false=>simp
   | true=>have:=h k o ho hL e he hb;simpa using this
def needB (z:Option Nat) (L:Array Bool):Bool:=match z with
 | none=>true
 | some k => !L.getD k false
def zokB (md:Region.Mode) (ops:Array Oper) (z:Option Nat) (i:Nat):Bool:=match z with
 | none=>true
 | some k => !(k == i) && match ops[k]? with
  | some o=>o.after.any fun e=>Region.binds md e && e.on == i
  | none=>false
def wpAnyI (P:Program) (md:Region.Mode) (ops:Array Oper) (Q:Exit→Act→World→Prop) (I:World→Prop) (z:Option Nat):Nat→Array Bool→Act→World→Prop
 | 0,L,a,w=>(needB z L=true→I w)∧Region.ready md ops L=[]∧Q .normal a w
 | f+1,L,a,w=>(needB z L=true→I w)∧(Region.ready md ops L=[]→Q .normal a w)∧∀ i,i∈Region.ready md ops L→wpOp P ops Q i (wpAnyI P md ops Q I z f (L.setIfInBounds i true)) a w
theorem wpAnyI.now:∀ {f:Nat} {L:Array Bool} {a:Act} {w:World},wpAnyI P md ops Q I z f L a w→needB z L=true→I w
 | 0,_,_,_,h=>h.1
 | _+1,_,_,_,h=>h.1
theorem wpAnyI.any:∀ (f:Nat) (L:Array Bool) (a:Act) (w:World),wpAnyI P md ops Q I z f L a w→wpAny P md ops Q f L a w
 | 0,_,_,_,h=>h.2
 | f+1,_,_,_,h=>⟨h.2.1,fun i hi=>wpOp_mono (fun a w k=>wpAnyI.any f _ a w k) (h.2.2 i hi)⟩
def YieldsI (P:Program) (ops:Array Oper) (I:World→Prop) (o:Oper) (v:Value) (a:Act):Prop :=
 Region.wanted o (yielded ops a.tmps)=true∧∀ w,I w→(execOp a.eval o).run P w=.ok (.value v) w
theorem YieldsI.op {i:Nat} {o:Oper} {v:Value} {a:Act} (hi:ops[i]?=some o) (hy:YieldsI P ops I o v a) {K:Act→World→Prop} {w:World} (hw:I w) (h:K (a.put o.dst v) w):wpOp P ops Q i K a w:=by
 unfold wpOp
 simp only [hi,hy.1,if_true,Oper.wp,hy.2 w hw,Oper.upon]
 exact .inl h
theorem wpOp_keep {j:Nat} {oj:Oper} (hj:ops[j]?=some oj) {Y:Act→Prop} (k1:∀ a u,Y a→Y (a.put oj.dst u)) (k2:∀ (a:Act) d,Y a→Y { a with defers:=d::a.defers }) {K:Act→World→Prop} {a:Act} {w:World} (hy:Y a) (h:wpOp P ops Q j K a w):wpOp P ops Q j (fun a' w'=>Y a'∧K a' w') a w:=by
 unfold wpOp at *
 simp only [hj] at *
 split
 ·rename_i hw
  rw [if_pos hw] at h
  refine h.imp (fun h=>?_) id
  unfold Oper.wp at *
  generalize (execOp a.eval oj).run P w=r at *
  cases r with
  | ok n w' =>
   cases n <;> simp only [Oper.upon] at h ⊢
   case value u=>exact ⟨k1 _ _ hy,h⟩
   case skip=>exact ⟨k1 _ _ hy,h⟩
   case defer d=>exact ⟨k1 _ _ (k2 _ _ hy),h⟩
   case enter f args =>
    refine Calls.mono h fun e w'' he=>?_
    cases e with
    | returned u=>exact ⟨k1 _ _ hy,he⟩
    | _=>exact he
   case row row args=>exact Rows.mono h fun u w'' he=>⟨k1 _ _ hy,he⟩
  | halt x w'=>cases x <;> simp only [Oper.upon] at h ⊢ <;> exact h
 ·rename_i hw
  rw [if_neg hw] at h
  exact ⟨k1 _ _ hy,h⟩
theorem fake_apart {oi oj:Oper} {v:Value} (h:oi.apart ops oj=true):Oper.apart ops { oi with op:=.move (.const v),guard:=none } oj=true:=by
 unfold Oper.apart at *
 rw [Bool.and_eq_true] at *
 refine ⟨h.1,?_⟩
 cases oj.dst with
 | none=>rfl
 | some d=>rfl
theorem wpAnyI_take {J:World→Prop} {i:Nat} {oi:Oper} {v:Value} (hi:ops[i]?=some oi) (hsel:Region.noSelect ops=true) (hQ:∀ c a w,Q (.panic c) (a.put oi.dst v) w→Q (.panic c) a w) (hts:(zokB md ops z i=true∧∀ w,I w→J w)∨((∀ w,J w)∧z≠some i)) :
  ∀ (f:Nat) (L:Array Bool) (a:Act) (w:World),(∀ j oj,ops[j]?=some oj→j≠i→L.getD j true=false→(∀ e∈oj.after,Region.binds md e=true→e.on≠i)→oi.apart ops oj=true)→yetB md ops L i=true →
   i∈Region.ready md ops L→YieldsI P ops J oi v a→wpAnyI P md ops Q I z f (L.setIfInBounds i true) (a.put oi.dst v) w→wpAnyI P md ops Q I z (f+1) L a w:=by
 have now:∀ {f:Nat} {L:Array Bool} {a:Act} {w:World},yetB md ops L i=true→wpAnyI P md ops Q I z f (L.setIfInBounds i true) (a.put oi.dst v) w→(needB z L=true→I w)∧J w:=fun {f L a w} hy H=>by
  rcases hts with ⟨hz,hJ⟩ | ⟨hJ,hz⟩
  ·have hI:I w:=H.now (by
    cases z with
    | none=>rfl
    | some k =>
     simp only [zokB,Bool.and_eq_true,Bool.not_eq_true',beq_eq_false_iff_ne] at hz
     obtain ⟨hki,hk⟩:=hz
     show (!(L.setIfInBounds i true).getD k false)=true
     rw [Go.getD_set_ne false (Ne.symm hki)]
     cases hL:L.getD k false with
     | false=>rfl
     | true =>
      cases ho:ops[k]? with
      | none=>rw [ho] at hk;cases hk
      | some o =>
       rw [ho] at hk
       obtain ⟨e,he,hb⟩:=Array.any_eq_true'.1 hk
       simp only [Bool.and_eq_true,beq_iff_eq] at hb
       exact absurd hb.2 (yetB_iff.1 hy k o ho hL e he hb.1))
   exact ⟨fun _=>hI,hJ _ hI⟩
  ·refine ⟨fun h=>H.now ?_,hJ w⟩
   cases z with
   | none=>rfl
   | some k =>
    have hki:i≠k:=fun e=>hz (by rw [e])
    show (!(L.setIfInBounds i true).getD k false)=true
    rw [Go.getD_set_ne false hki]
    exact h
 intro f
 induction f with
 | zero =>
  intro L a w _ hy hr hY H
  refine ⟨(now hy H).1,fun h=>(by rw [h] at hr;cases hr),fun j hj=>?_⟩
  by_cases hji:j=i
  ·subst hji;exact hY.op hi (now hy H).2 H
  ·have:=ready_mono hj hji
   rw [H.2.1] at this
   cases this
 | succ f ih =>
  intro L a w hfree hyt hr hy H
  refine ⟨(now hyt H).1,fun h=>(by rw [h] at hr;cases hr),fun j hj=>?_⟩
  by_cases hji:j=i
  ·subst hji;exact hy.op hi (now hyt H).2 H
  ·have h1:=H.2.2 j (ready_mono hj hji)
   obtain ⟨hjun,oj,hoj,hall⟩:=mem_ready.1 hj
   have hnot:∀ e∈oj.after,Region.binds md e=true→e.on≠i:=fun e he hb heq=>by
    have h1:=hall e he hb
    have h0:=(mem_ready.1 hr).1
    rw [heq] at h1
    rcases Nat.lt_or_ge i L.size with h' | h'
    ·simp [h'] at h0 h1;rw [h0] at h1;cases h1
    ·simp [Array.getElem?_eq_none h'] at h1
   have hap:=hfree j oj hoj hji hjun hnot
   obtain ⟨_,_,hap3⟩:=Oper.apart_spec hap
   have hsi:=fun cs b=>Region.noSelect_spec hsel i oi cs b hi
   have h2:=wpOp_put (oi:={ oi with op:=.move (.const v),guard:=none }) hoj (fake_apart hap) (fun cs b e=>by cases e) (fun cs b=>Region.noSelect_spec hsel j oj cs b hoj) hQ
    (.inl ⟨rfl,fun w=>rfl⟩) h1
   have h3:=wpOp_keep (Y:=YieldsI P ops J oi v) hoj (fun a u hy=>⟨by rw [wanted_put oi a oj.dst u hap3];exact hy.1,fun w hw=>by rw [execOp_put oi hsi a oj.dst u hap3];exact hy.2 w hw⟩) (fun a d hy=>hy) hy h2
   have hfree':∀ k ok,ops[k]?=some ok→k≠i→(L.setIfInBounds j true).getD k true=false→(∀ e∈ok.after,Region.binds md e=true→e.on≠i)→oi.apart ops ok=true:=fun k ok hk hki hun hno=>by
    refine hfree k ok hk hki ?_ hno
    by_cases hjk:j=k
    ·subst hjk;exact hjun
    ·rw [Go.getD_set_ne true hjk] at hun;exact hun
   have hyt':yetB md ops (L.setIfInBounds j true) i=true:=yetB_iff.2 fun k o ho hk=>by
    by_cases hjk:j=k
    ·subst hjk
     cases hoj.symm.trans ho
     exact hnot
    ·rw [Go.getD_set_ne false hjk] at hk
     exact yetB_iff.1 hyt k o ho hk
   refine wpOp_mono (fun a' w' h4=>ih (L.setIfInBounds j true) a' w' hfree' hyt' (ready_mono hr (Ne.symm hji)) h4.1 ?_) h3
   rw [Array.setIfInBounds_comm _ _ hji]
   exact h4.2.2
end
def EVG (I:World→Prop) (z:Option Nat) (P:Program) (n:Nat) (ops:Array Oper) (fuel:Nat) (L:Array Bool) (env:Env) (bx:Bxs) (H:Hs) (K:Env→Bxs→Hs→Prop):Prop :=
 ∀ W0 β a W,Rel n W0 H.base β env bx H a W→wpAnyI P .any ops (fun e a W=>e=.normal∧lift n W0 H.base (fun _ env bx H=>K env bx H) .normal a W) I z fuel L a W
section
variable {I:World→Prop} {z:Option Nat} {p:Nat × TypeId × List Value} {n:Nat} {ops:Array Oper} {fuel:Nat} {L:Array Bool} {env:Env} {bx:Bxs} {H:Hs} {K:Env→Bxs→Hs→Prop} {d:Nat} {o:Oper} {v:Value}
theorem EVG.start (I:World→Prop) (z:Option Nat) {id:Nat} {l:List Oper} {Q:EQ} (h:EVG I z prog n l.toArray l.length (Array.replicate l.length false) env bx H (fun env bx H=>Q .normal env bx H)) (hm:Tryz.prog.follows .mixedOrders=true:=by kernel_rfl):EV prog n (.region id l.toArray true) env bx H Q :=
 EVA.start hm fun W0 β a W r=>(h W0 β a W r).any _ _ _ _
theorem EVG.take {J:World→Prop} (i:Nat) (hts:(zokB .any ops z i=true∧∀ w,I w→J w)∨((∀ w,J w)∧z≠some i)) (hi:ops[i]?=some o) (hs:Region.noSelect ops=true) (hf:Region.free .any ops L i=true) (hr:(Region.ready .any ops L).contains i=true) (hy:yetB .any ops L i=true) (hw:wantB ops env o=some true) (hd:o.dst=some d) (hn:Nat.blt d n=true)
  (hx:∀ (β:Nat→Nat) (a:Act) (W:World),(∀ y s,env.op y=some s→s.rep β H.ro (a.eval y))→J W→(execOp a.eval o).run prog W=.ok (.value v) W)
  (h:EVG I z prog n ops fuel (L.setIfInBounds i true) ((d,.v v)::env) bx H K):EVG I z prog n ops (fuel+1) L env bx H K:=fun W0 β a W r=>by
 refine wpAnyI_take (v:=v) hi hs (fun c a w e=>by cases e.1) hts fuel L a W (Region.free_spec hi hf) hy (by simpa using hr) ⟨r.want hw,fun w hI=>hx β a w (fun y s hy=>r.op hy) hI⟩ ?_
 rw [hd]
 exact h W0 β _ W (r.put hn rfl rfl)
theorem IV (i:Nat) (h:EVG I z prog n ops fuel (L.setIfInBounds i true) ((d,.v v)::env) bx H K) (hi:ops[i]?=some o:=by exact rfl) (hs:Region.noSelect ops=true:=by kernel_rfl) (hf:Region.free .any ops L i=true:=by kernel_rfl) (hr:(Region.ready .any ops L).contains i=true:=by kernel_rfl) (hy:yetB .any ops L i=true:=by kernel_rfl) (hts:(z == some i)=false:=by kernel_rfl) (hw:wantB ops env o=some true:=by exact rfl) (hd:o.dst=some d:=by exact rfl) (hn:Nat.blt d n=true:=by exact rfl)
  (hv:pval Tryz.tab env [] o.op=some (.v v):=by exact rfl) (hpl:plainL env o.op.operands.toList=true:=by exact rfl):EVG I z prog n ops (fuel+1) L env bx H K :=
 EVG.take (J:=fun _=>True) i (.inr ⟨fun _=>trivial,fun e=>by rw [e] at hts;simp at hts⟩) hi hs hf hr hy hw hd hn (fun β a W he _=>by
  obtain ⟨x,hx,hr⟩:=pval_sound (β:=β) (H:=fun _=>none) (W:=W) (a:=a) tO hv (fun y s hm hy=>plain_rep (plainL_mem hpl y (by simpa using hm)) hy (he y s hy)) (fun i T cs e=>by cases e) (fun b c e=>by cases e)
  have e:x=v:=hr
  rw [← e];exact hx) h
theorem IF (i:Nat) {x:Operand} {T:TypeId} {te:TE} {f b q fo sz:Nat} {ag:Bool} (h:EVG I z prog n ops fuel (L.setIfInBounds i true) ((d,.v (.pointer (some ⟨b,q+fo,none⟩)))::env) bx H K) (hi:ops[i]?=some o:=by exact rfl) (hs:Region.noSelect ops=true:=by kernel_rfl) (hf:Region.free .any ops L i=true:=by kernel_rfl) (hr:(Region.ready .any ops L).contains i=true:=by kernel_rfl) (hy:yetB .any ops L i=true:=by kernel_rfl) (hts:(z == some i)=false:=by kernel_rfl) (hw:wantB ops env o=some true:=by exact rfl) (hd:o.dst=some d:=by exact rfl) (hn:Nat.blt d n=true:=by exact rfl)
  (ho:o.op=.fieldAddr T x f:=by exact rfl) (hx:env.op x=some (.v (.pointer (some ⟨b,q,none⟩))):=by exact rfl) (ht:Tryz.tab.get T=some te:=by exact rfl) (hfd:te.fields[f]?=some (fo,ag,sz):=by exact rfl):EVG I z prog n ops (fuel+1) L env bx H K :=
 EVG.take (J:=fun _=>True) i (.inr ⟨fun _=>trivial,fun e=>by rw [e] at hts;simp at hts⟩) hi hs hf hr hy hw hd hn (fun β a W he _=>run_fldP tO ho ht hfd hx _ W fun y x _ hy=>he y _ hy) h
theorem EVG.step (hI:needB z L=true→∀ W0 β a W,Rel n W0 H.base β env bx H a W→I W) (hne:(Region.ready .any ops L).isEmpty=false) (hk:∀ q,q∈Region.ready .any ops L→∃ o,ops[q]?=some o∧EVL prog n ops [o] env bx H (fun e env bx H'=>e=.normal∧EVG I z prog n ops fuel (L.setIfInBounds q true) env bx H' K)):EVG I z prog n ops (fuel+1) L env bx H K:=fun W0 β a W r=>by
 refine ⟨fun hn=>hI hn W0 β a W r,fun e=>(by rw [e] at hne;cases hne),fun q hq=>?_⟩
 obtain ⟨o,ho,h⟩:=hk q hq
 have h1:=h W0 β a W r
 have hkk:∀ a W,lift n W0 H.base (fun e env bx H'=>e=.normal∧EVG I z prog n ops fuel (L.setIfInBounds q true) env bx H' K) .normal a W→wpAnyI prog .any ops (fun e a W=>e=.normal∧lift n W0 H.base (fun _ env bx H=>K env bx H) .normal a W) I z fuel (L.setIfInBounds q true) a W:=by
  rintro a W ⟨β',env',bx',H',hbase,⟨_,hE⟩,rel⟩
  have:=hE W0 β' a W (by rw [hbase];exact rel)
  rwa [hbase] at this
 unfold wpOp
 simp only [ho]
 unfold wpList at h1
 split
 ·rename_i hw
  rw [if_pos hw] at h1
  rcases h1 with h1 | ⟨h1,h2⟩
  ·refine .inl (Oper.wp_exits (fun c a W hq=>?_) (fun hq=>?_) (Oper.wp_mono (fun a W h=>hkk a W h) h1))
   ·obtain ⟨_,_,_,_,_,⟨e,_⟩,_⟩:=hq
    cases e
   ·obtain ⟨a0,w0,_,_,_,_,_,⟨e,_⟩,_⟩:=hq
    cases e
  ·obtain ⟨a0,w0,_,_,_,_,_,⟨e,_⟩,_⟩:=h2
   cases e
 ·rename_i hw
  rw [if_neg hw] at h1
  exact hkk _ _ h1
theorem EVG.nil (hI:needB z L=true→∀ W0 β a W,Rel n W0 H.base β env bx H a W→I W) (hr:(Region.ready .any ops L).isEmpty=true) (h:K env bx H):EVG I z prog n ops fuel L env bx H K:=fun W0 β a W r=>by
 have hr':=List.isEmpty_iff.1 hr
 have hI:=fun hn=>hI hn W0 β a W r
 cases fuel with
 | zero=>exact ⟨hI,hr',rfl,β,env,bx,H,rfl,h,r⟩
 | succ f=>exact ⟨hI,fun _=>⟨rfl,β,env,bx,H,rfl,h,r⟩,fun i hi=>by rw [hr'] at hi;cases hi⟩
theorem EVG.one (k:Nat) (hI:needB z L=true→∀ W0 β a W,Rel n W0 H.base β env bx H a W→I W) (hr:(Region.ready .any ops L == [k])=true) (ho:ops[k]?=some o) (h:EVL prog n ops [o] env bx H (fun e env bx H'=>e=.normal∧EVG I z prog n ops fuel (L.setIfInBounds k true) env bx H' K)):EVG I z prog n ops (fuel+1) L env bx H K:=by
 have hr':=eq_of_beq hr
 refine EVG.step hI (by rw [hr'];rfl) fun q hq=>?_
 rw [hr',List.mem_singleton] at hq
 subst hq
 exact ⟨o,ho,h⟩
theorem EVG.two {o':Oper} (k k':Nat) (hI:needB z L=true→∀ W0 β a W,Rel n W0 H.base β env bx H a W→I W) (hr:(Region.ready .any ops L == [k,k'])=true) (ho:ops[k]?=some o) (ho':ops[k']?=some o') (h:EVL prog n ops [o] env bx H (fun e env bx H'=>e=.normal∧EVG I z prog n ops fuel (L.setIfInBounds k true) env bx H' K))
  (h':EVL prog n ops [o'] env bx H (fun e env bx H'=>e=.normal∧EVG I z prog n ops fuel (L.setIfInBounds k' true) env bx H' K)):EVG I z prog n ops (fuel+1) L env bx H K:=by
 have hr':=eq_of_beq hr
 refine EVG.step hI (by rw [hr'];rfl) fun q hq=>?_
 rw [hr'] at hq
 rcases List.mem_cons.1 hq with rfl | hq
 ·exact ⟨o,ho,h⟩
 ·obtain rfl:q=k':=by simpa using hq
  exact ⟨o',ho',h'⟩
theorem fitsI {H0:Hp} (h:H0.Le H.ro):needB z L=true→∀ W0 β a W,Rel n W0 H.base β env bx H a W→Fits H0 W:=fun _ _ _ _ _ r=>r.fits.mono h
end
section
variable {P:Program} {n:Nat} {ops:Array Oper} {o1 o2:Oper} {rest:List Oper} {env:Env} {bx:Bxs} {H:Hs} {Q:EQ} {d d1:Nat}
end
end Go.Proofs.YtbcfidllfimehaaGreatDoor
namespace Go.Proofs.YtbcfidllfimehaaGreatDoor
section
variable {α:Type}
variable {lt:α→α→Bool}
end
end Go.Proofs.YtbcfidllfimehaaGreatDoor
namespace Go.Proofs.YtbcfidllfimehaaGreatDoor
open Go.RowKit _root_.Go.Proofs.Tryz
section
variable {α:Type} {enc:α→Value} {w w':World} {B:Nat} {T:TypeId} {cap:Nat} {l:List α}
end
end Go.Proofs.YtbcfidllfimehaaGreatDoor
namespace Go.Proofs.YtbcfidllfimehaaGreatDoor
end Go.Proofs.YtbcfidllfimehaaGreatDoor
namespace Go.Proofs.YtbcfidllfimehaaGreatDoor
open Go.RowKit _root_.Go.Proofs.Tryz
theorem rel_snoc {α β:Type} {R:α→β→Prop} {xs:List α} {ys:List β} (h:xs.length=ys.length∧∀ (j:Nat) (x:α) (y:β),xs[j]?=some x→ys[j]?=some y→R x y) {x:α} {y:β} (k:R x y):(xs++[x]).length=(ys++[y]).length∧∀ (j:Nat) (x':α) (y':β),(xs++[x])[j]?=some x'→(ys++[y])[j]?=some y'→R x' y':=by
 refine ⟨by simp [h.1],fun j x' y' e1 e2=>?_⟩
 by_cases hj:j<xs.length
 ·rw [List.getElem?_append_left hj] at e1
  rw [List.getElem?_append_left (by rw [← h.1];exact hj)] at e2
  exact h.2 j x' y' e1 e2
 ·rw [List.getElem?_append_right (by omega)] at e1
  rw [List.getElem?_append_right (by rw [← h.1];omega),← h.1] at e2
  have h0:j-xs.length=0:=by
   have:=(List.getElem?_eq_some_iff.1 e1).1
   simp at this;omega
  rw [h0] at e1 e2
  cases e1;cases e2
  exact k
abbrev strV (s:List UInt8):Value:=.string (sb s)
abbrev SL (H:Hp) (v:Value) (l:List (List UInt8)):Prop:=SlN strV H v l
def LsR {α:Type} (R:Hp→List Value→α→Prop) (H:Hp) (css:List (List Value)) (l:List α):Prop:=css.length=l.length∧∀ (j:Nat) (c:List Value) (x:α),css[j]?=some c→l[j]?=some x→R H c x
def LR {α:Type} (R:Hp→List Value→α→Prop) (k:Nat) (H:Hp) (v:Value) (l:List α):Prop:=∃ css,LsR R H css l∧SlC H v l.length k css.flatten
structure RelOk {α:Type} (R:Hp→List Value→α→Prop) (k:Nat):Prop where
 mono:∀ {H G:Hp} {c:List Value} {x:α},R H c x→H.Le G→R G c x
 len:∀ {H:Hp} {c:List Value} {x:α},R H c x→c.length=k
theorem LsR.mono {α:Type} {R:Hp→List Value→α→Prop} {k:Nat} (ok:RelOk R k) {H G:Hp} {css:List (List Value)} {l:List α} (h:LsR R H css l) (hG:H.Le G):LsR R G css l:=⟨h.1,fun j c x e1 e2=>ok.mono (h.2 j c x e1 e2) hG⟩
theorem LR.mono {α:Type} {R:Hp→List Value→α→Prop} {k:Nat} (ok:RelOk R k) {H G:Hp} {v:Value} {l:List α} (h:LR R k H v l) (hG:H.Le G):LR R k G v l:=by
 obtain ⟨css,h1,h2⟩:=h
 exact ⟨css,h1.mono ok hG,h2.mono hG⟩
theorem LsR.get {α:Type} {R:Hp→List Value→α→Prop} {k:Nat} (ok:RelOk R k) {H:Hp} {css:List (List Value)} {l:List α} (h:LsR R H css l) {j:Nat} {x:α} (hj:l[j]?=some x):∃ c,(css.flatten.drop (j*k)).take k=c∧R H c x:=by
 have hlt:=(List.getElem?_eq_some_iff.1 hj).1
 obtain ⟨c,hc⟩:∃ c,css[j]?=some c:=⟨_,List.getElem?_eq_getElem (by rw [h.1];exact hlt)⟩
 refine ⟨c,?_,h.2 j c x hc hj⟩
 have hk:∀ y,y∈css→(id y).length=k:=fun y hy=>by
  obtain ⟨i,hi⟩:=List.mem_iff_getElem?.1 hy
  have hi':=(List.getElem?_eq_some_iff.1 hi).1
  exact ok.len (h.2 i y _ hi (List.getElem?_eq_getElem (by rw [← h.1];exact hi')))
 have:=flat_cut id k css hk j c hc
 rwa [List.flatMap_id] at this
theorem LsR.nil {α:Type} {R:Hp→List Value→α→Prop} {H:Hp}:LsR R H [] []:=⟨rfl,fun j c x e _=>by cases e⟩
theorem LsR.snoc {α:Type} {R:Hp→List Value→α→Prop} {H:Hp} {css:List (List Value)} {l:List α} {c:List Value} {x:α} (h:LsR R H css l) (k:R H c x):LsR R H (css++[c]) (l++[x]):=rel_snoc h k
theorem LR.val {α:Type} {R:Hp→List Value→α→Prop} {k:Nat} {H:Hp} {v:Value} {l:List α} (h:LR R k H v l):∃ a c,v=.slice a l.length c:=by
 obtain ⟨_,_,h2⟩:=h
 exact SlC.val h2
theorem flatSn (css:List (List Value)) (c:List Value):(css++[c]).flatten=css.flatten++c:=by rw [List.flatten_append,List.flatten_singleton]
def SCol (H:Hp) (cs:List Value) (c:ColT):Prop:=∃ a n,SL H (.slice a c.words.length n) c.words∧cs=[strV c.name,.int .i64 (c.kind:Int),.slice a c.words.length n]
theorem SCol.ok:RelOk SCol 3 where
 mono:=fun ⟨a,n,h,e⟩ k=>⟨a,n,h.mono k,e⟩
 len:=fun ⟨a,n,h,e⟩=>by subst e;rfl
abbrev ColL (H:Hp) (v:Value) (l:List ColT):Prop:=LR SCol 3 H v l
def cellC (x:CellT):List Value:=.bool x.lacks::(vlist (fracV x.q)++[.int .i64 (x.word:Int)])
def PCell (_:Hp) (cs:List Value) (x:CellT):Prop:=cs=cellC x
theorem PCell.ok:RelOk PCell 7 where
 mono:=fun h _=>h
 len:=fun h=>by cases h;rfl
abbrev PRow (H:Hp) (v:Value) (r:List CellT):Prop:=LR PCell 7 H v r
def Cel {α:Type} (R:Hp→Value→α→Prop) (H:Hp) (cs:List Value) (x:α):Prop:=∃ v,cs=[v]∧R H v x
theorem Cel.ok {α:Type} {R:Hp→Value→α→Prop} (hm:∀ {H G:Hp} {v:Value} {x:α},R H v x→H.Le G→R G v x):RelOk (Cel R) 1 where
 mono:=fun ⟨v,e,h⟩ k=>⟨v,e,hm h k⟩
 len:=fun ⟨v,e,h⟩=>by subst e;rfl
theorem PRow.mono {H G:Hp} {v:Value} {x:List CellT} (h:PRow H v x) (k:H.Le G):PRow G v x:=LR.mono PCell.ok h k
abbrev PRows (H:Hp) (v:Value) (l:List (List CellT)):Prop:=LR (Cel PRow) 1 H v l
theorem PRows.ok:RelOk (Cel PRow) 1:=Cel.ok PRow.mono
def RCell (H:Hp) (cs:List Value) (x:CellT):Prop:=∃ w,RQ H w x.q∧cs=.bool x.lacks::(vlist w++[.int .i64 (x.word:Int)])
theorem RCell.ok:RelOk RCell 5 where
 mono:=fun ⟨w,h,e⟩ k=>⟨w,h.mono k,e⟩
 len:=fun ⟨w,h,e⟩=>by
  obtain ⟨a,l,c,a',l',c',rfl,_,_⟩:=h
  subst e;rfl
abbrev RRow (H:Hp) (v:Value) (r:List CellT):Prop:=LR RCell 5 H v r
theorem RRow.mono {H G:Hp} {v:Value} {x:List CellT} (h:RRow H v x) (k:H.Le G):RRow G v x:=LR.mono RCell.ok h k
abbrev RRows (H:Hp) (v:Value) (l:List (List CellT)):Prop:=LR (Cel RRow) 1 H v l
theorem RRows.ok:RelOk (Cel RRow) 1:=Cel.ok RRow.mono
end Go.Proofs.YtbcfidllfimehaaGreatDoor
namespace Go.Proofs.YtbcfidllfimehaaGreatDoor
def nmAt (i:Nat) (c:UInt8):Bool:=isLet c || (decide (0<i) && (isDg c || decide (c=95)))
theorem isNm_iff (s:List UInt8):isNm s=true↔1≤s.length∧s.length≤20∧∀ (j:Nat) (c:UInt8),s[j]?=some c→nmAt j c=true:=by
 cases s with
 | nil=>exact ⟨fun h=>(by cases h),fun h=>(by have:=h.1;simp at this)⟩
 | cons x l =>
  unfold isNm
  rw [Bool.and_eq_true,Bool.and_eq_true,decide_eq_true_iff,List.all_eq_true,List.length_cons]
  constructor
  ·rintro ⟨⟨h1,h2⟩,h3⟩
   refine ⟨by omega,by omega,fun j c hc=>?_⟩
   cases j with
   | zero=>cases hc;unfold nmAt;rw [h2];rfl
   | succ j =>
    have:=h3 c (List.mem_of_getElem? (i:=j) (by simpa using hc))
    unfold nmAt
    rw [decide_eq_true (Nat.succ_pos j),Bool.true_and,← Bool.or_assoc]
    exact this
  ·rintro ⟨_,h2,h3⟩
   refine ⟨⟨by omega,?_⟩,fun c hc=>?_⟩
   ·have:=h3 0 x rfl
    unfold nmAt at this
    rw [decide_eq_false (Nat.lt_irrefl 0),Bool.false_and,Bool.or_false] at this
    exact this
   ·obtain ⟨j,hj⟩:=List.mem_iff_getElem?.1 hc
    have:=h3 (j+1) c (by simpa using hj)
    unfold nmAt at this
    rw [decide_eq_true (Nat.succ_pos j),Bool.true_and,← Bool.or_assoc] at this
    exact this
theorem isNm_no' {s:List UInt8} (h:¬ (1≤s.length∧s.length≤20∧∀ (j:Nat) (c:UInt8),s[j]?=some c→nmAt j c=true)):isNm s=false:=by
 rw [← Bool.not_eq_true,isNm_iff];exact h
theorem nodup_snoc {l:List (List UInt8)} {x:List UInt8}:(l++[x]).Nodup↔l.Nodup∧x ∉ l:=by
 rw [List.nodup_append]
 constructor
 ·rintro ⟨h1,_,h3⟩
  exact ⟨h1,fun k=>h3 x k x (List.mem_singleton.2 rfl) rfl⟩
 ·rintro ⟨h1,h2⟩
  refine ⟨h1,by simp,fun a ha b hb=>?_⟩
  rw [List.mem_singleton.1 hb]
  exact fun e=>h2 (e ▸ ha)
theorem twice_take {l:List (List UInt8)} (i:Nat) (h:¬ (l.take i).Nodup):hasTwice l=true:=by
 unfold hasTwice
 rw [decide_eq_false fun k=>h (k.sublist (List.take_sublist i l))];rfl
def choiceB:List UInt8:=[99,104,111,105,99,101]
def numberB:List UInt8:=[110,117,109,98,101,114]
def Fst (s:List UInt8) (c:UInt8) (lo a:Nat):Prop:=lo≤a∧s[a]?=some c∧∀ j,lo≤j→j<a→s[j]?≠some c
theorem Fst.cut {s:List UInt8} {c:UInt8} {lo a:Nat} (h:Fst s c lo a):c∈s.drop lo∧bef c (s.drop lo)=(s.take a).drop lo∧aft c (s.drop lo)=s.drop (a+1):=by
 obtain ⟨h1,h2,h3⟩:=h
 have e:(s.drop lo)[a-lo]?=some c:=by rw [List.getElem?_drop,show lo+(a-lo)=a by omega];exact h2
 obtain ⟨e1,e2⟩:=cut_at e fun j hj=>by rw [List.getElem?_drop];exact h3 (lo+j) oM oM
 refine ⟨List.mem_of_getElem? e,?_,?_⟩
 ·rw [e1,List.drop_take]
 ·rw [e2,List.drop_drop,show lo+(a-lo+1)=a+1 by omega]
theorem no_from {s:List UInt8} {c:UInt8} {lo:Nat} (h:∀ j,lo≤j→j<s.length→s[j]?≠some c):c ∉ s.drop lo:=fun k=>by
 obtain ⟨j,hj⟩:=List.mem_iff_getElem?.1 k
 rw [List.getElem?_drop] at hj
 exact h (lo+j) oM (List.getElem?_eq_some_iff.1 hj).1 hj
def Sc0 (s:List UInt8) (i:Nat):Prop:=∀ j,0≤j→j<i→s[j]?≠some 58
def Sc1 (s:List UInt8) (i:Nat) (name:List UInt8) (st:Nat):Prop:=∃ a,Fst s 58 0 a∧name=s.take a∧st=a+1∧st≤i∧∀ j,st≤j→j<i→s[j]?≠some 40
def Sc2 (s:List UInt8) (i:Nat) (name:List UInt8) (st:Nat) (ws:List (List UInt8)):Prop:=∃ a b,Fst s 58 0 a∧name=s.take a∧Fst s 40 (a+1) b∧(s.take b).drop (a+1)=choiceB∧b+1≤st∧st≤i∧(∀ j,b+1≤j→j<i→s[j]?≠some 41)∧cutL 124 ((s.take i).drop (b+1))=ws++[(s.take i).drop st]
def Sc3 (s:List UInt8) (i:Nat) (name:List UInt8) (ws:List (List UInt8)):Prop:=∃ a b d,Fst s 58 0 a∧name=s.take a∧Fst s 40 (a+1) b∧(s.take b).drop (a+1)=choiceB∧Fst s 41 (b+1) d∧i=d+1∧ws=cutL 124 ((s.take d).drop (b+1))
theorem next_no {s:List UInt8} {c x:UInt8} {lo i:Nat} (h:∀ j,lo≤j→j<i→s[j]?≠some c) (hx:s[i]?=some x) (hn:x≠c):∀ j,lo≤j→j<i+1→s[j]?≠some c:=fun j h1 h2=>by
 by_cases e:j=i
 ·subst e;rw [hx];exact fun k=>hn (Option.some.inj k)
 ·exact h j h1 oM
theorem sc0_nil (s:List UInt8):Sc0 s 0:=fun j _ h=>absurd h (Nat.not_lt_zero j)
theorem sc0_next {s:List UInt8} {i:Nat} {x:UInt8} (h:Sc0 s i) (hx:s[i]?=some x) (hn:x≠58):Sc0 s (i+1):=next_no h hx hn
theorem sc0_colon {s:List UInt8} {i:Nat} (h:Sc0 s i) (hx:s[i]?=some 58):Sc1 s (i+1) (s.take i) (i+1) :=
 ⟨i,⟨Nat.zero_le _,hx,h⟩,rfl,rfl,Nat.le_refl _,fun j h1 h2=>by omega⟩
theorem sc1_next {s:List UInt8} {i st:Nat} {nm:List UInt8} {x:UInt8} (h:Sc1 s i nm st) (hx:s[i]?=some x) (hn:x≠40):Sc1 s (i+1) nm st:=by
 obtain ⟨a,h1,h2,h3,h4,h5⟩:=h
 exact ⟨a,h1,h2,h3,by omega,next_no h5 hx hn⟩
theorem take_drop_self {s:List UInt8} (i:Nat):(s.take i).drop i=[]:=List.drop_eq_nil_of_le (List.length_take_le i s)
theorem sc1_open {s:List UInt8} {i st:Nat} {nm:List UInt8} (h:Sc1 s i nm st) (hx:s[i]?=some 40) (hc:(s.take i).drop st=choiceB):Sc2 s (i+1) nm (i+1) []:=by
 obtain ⟨a,h1,h2,rfl,h4,h5⟩:=h
 exact ⟨a,i,h1,h2,⟨h4,hx,h5⟩,hc,Nat.le_refl _,Nat.le_refl _,fun j h1 h2=>by omega,by rw [take_drop_self];rfl⟩
theorem scan_at {s:List UInt8} {a:Nat} (h:Fst s 58 0 a):scanC s=if 40∈s.drop (a+1) then
   if bef 40 (s.drop (a+1))=choiceB∧41∈aft 40 (s.drop (a+1))∧aft 41 (aft 40 (s.drop (a+1)))=[] then some ⟨s.take a,2,cutL 124 (bef 41 (aft 40 (s.drop (a+1))))⟩ else none
  else if s.drop (a+1)=numberB then some ⟨s.take a,1,[]⟩ else none:=by
 obtain ⟨h1,h2,h3⟩:=h.cut
 rw [List.drop_zero] at h1 h2 h3
 rw [List.drop_zero] at h2
 unfold scanC
 rw [if_pos h1,h2,h3]
 rfl
theorem sc1_bad {s:List UInt8} {i st:Nat} {nm:List UInt8} (h:Sc1 s i nm st) (hx:s[i]?=some 40) (hc:(s.take i).drop st≠choiceB):scanC s=none:=by
 obtain ⟨a,h1,h2,rfl,h4,h5⟩:=h
 obtain ⟨k1,k2,k3⟩:=(show Fst s 40 (a+1) i from ⟨h4,hx,h5⟩).cut
 rw [scan_at h1,if_pos k1,k2,if_neg fun k=>hc k.1]
theorem take_drop_snoc {s:List UInt8} {i lo:Nat} {x:UInt8} (hx:s[i]?=some x) (h:lo≤i):(s.take (i+1)).drop lo=(s.take i).drop lo++[x]:=by
 have hi:=(List.getElem?_eq_some_iff.1 hx).1
 rw [List.take_add_one,hx]
 exact List.drop_append_of_le_length (by rw [List.length_take];omega)
theorem sc2_next {s:List UInt8} {i st:Nat} {nm:List UInt8} {ws:List (List UInt8)} {x:UInt8} (h:Sc2 s i nm st ws) (hx:s[i]?=some x) (hn:x≠124) (hn2:x≠41):Sc2 s (i+1) nm st ws:=by
 obtain ⟨a,b,h1,h2,h3,h4,h5,h6,h7,h8⟩:=h
 refine ⟨a,b,h1,h2,h3,h4,h5,by omega,next_no h7 hx hn2,?_⟩
 rw [take_drop_snoc hx oM,cutL_snoc,if_neg hn,take_drop_snoc hx h6]
 simp only [h8,List.dropLast_concat,List.getLast_concat]
theorem sc2_bar {s:List UInt8} {i st:Nat} {nm:List UInt8} {ws:List (List UInt8)} (h:Sc2 s i nm st ws) (hx:s[i]?=some 124):Sc2 s (i+1) nm (i+1) (ws++[(s.take i).drop st]):=by
 obtain ⟨a,b,h1,h2,h3,h4,h5,h6,h7,h8⟩:=h
 refine ⟨a,b,h1,h2,h3,h4,by omega,Nat.le_refl _,next_no h7 hx (by decide),?_⟩
 rw [take_drop_snoc hx oM,cutL_snoc,if_pos rfl,h8,take_drop_self]
theorem sc2_close {s:List UInt8} {i st:Nat} {nm:List UInt8} {ws:List (List UInt8)} (h:Sc2 s i nm st ws) (hx:s[i]?=some 41):Sc3 s (i+1) nm (ws++[(s.take i).drop st]):=by
 obtain ⟨a,b,h1,h2,h3,h4,h5,h6,h7,h8⟩:=h
 exact ⟨a,b,i,h1,h2,h3,h4,⟨by omega,hx,h7⟩,rfl,h8.symm⟩
theorem sc3_at {s:List UInt8} {i:Nat} {nm:List UInt8} {ws:List (List UInt8)} (h:Sc3 s i nm ws):scanC s=if s.drop i=[] then some ⟨nm,2,ws⟩ else none:=by
 obtain ⟨a,b,d,h1,h2,h3,h4,h5,h6,h7⟩:=h
 obtain ⟨k1,k2,k3⟩:=h3.cut
 obtain ⟨l1,l2,l3⟩:=h5.cut
 rw [scan_at h1,if_pos k1,k2,k3,l2,l3,h6,h2,h7]
 by_cases e:s.drop (d+1)=[]
 ·rw [if_pos ⟨h4,l1,e⟩,if_pos e]
 ·rw [if_neg fun k=>e k.2.2,if_neg e]
theorem sc3_more {s:List UInt8} {i:Nat} {nm:List UInt8} {ws:List (List UInt8)} {x:UInt8} (h:Sc3 s i nm ws) (hx:s[i]?=some x):scanC s=none:=by
 have hi:=(List.getElem?_eq_some_iff.1 hx).1
 rw [sc3_at h,if_neg fun k=>by have:=List.drop_eq_nil_iff.1 k;omega]
theorem sc3_end {s:List UInt8} {nm:List UInt8} {ws:List (List UInt8)} (h:Sc3 s s.length nm ws):scanC s=some ⟨nm,2,ws⟩:=by
 rw [sc3_at h,if_pos (List.drop_length ..)]
theorem sc0_end {s:List UInt8} (h:Sc0 s s.length):scanC s=none:=by
 have:=no_from h
 rw [List.drop_zero] at this
 unfold scanC
 rw [if_neg this]
theorem sc1_end {s:List UInt8} {nm:List UInt8} {st:Nat} (h:Sc1 s s.length nm st):scanC s=if s.drop st=numberB then some ⟨nm,1,[]⟩ else none:=by
 obtain ⟨a,h1,rfl,rfl,h4,h5⟩:=h
 rw [scan_at h1,if_neg (no_from h5)]
theorem sc2_end {s:List UInt8} {nm:List UInt8} {st:Nat} {ws:List (List UInt8)} (h:Sc2 s s.length nm st ws):scanC s=none:=by
 obtain ⟨a,b,h1,h2,h3,h4,h5,h6,h7,h8⟩:=h
 obtain ⟨k1,k2,k3⟩:=h3.cut
 rw [scan_at h1,if_pos k1,k3,if_neg fun k=>no_from h7 k.2.1]
theorem Sc1.le {s:List UInt8} {i st:Nat} {nm:List UInt8} (h:Sc1 s i nm st):st≤i:=by obtain ⟨_,_,_,_,h,_⟩:=h;exact h
theorem Sc2.le {s:List UInt8} {i st:Nat} {nm:List UInt8} {ws:List (List UInt8)} (h:Sc2 s i nm st ws):st≤i:=by obtain ⟨_,_,_,_,_,_,_,h,_⟩:=h;exact h
theorem cutL_len (c:UInt8):∀ l:List UInt8,(cutL c l).length≤l.length+1
 | []=>Nat.le_refl 1
 | x::l=>by
  have:=cutL_len c l
  unfold cutL
  split
  ·simp only [List.length_cons];omega
  ·split
   ·simp
   ·rename_i e;rw [e] at this;simp only [List.length_cons] at this ⊢;omega
theorem cutL_part {c:UInt8} {w:List UInt8}:∀ {l:List UInt8},w∈cutL c l→w.length≤l.length
 | [],h=>by
  rw [show cutL c []=[[]] from rfl,List.mem_singleton] at h
  subst h;simp
 | x::l,h=>by
  unfold cutL at h
  split at h
  ·rcases List.mem_cons.1 h with e | e
   ·subst e;simp
   ·have:=cutL_part e;simp only [List.length_cons];omega
  ·split at h
   ·rename_i e;exact absurd e (cutL_ne c l)
   ·rename_i a r e
    rcases List.mem_cons.1 h with q | q
    ·subst q
     have:=cutL_part (l:=l) (w:=a) (by rw [e];exact List.mem_cons_self ..)
     simp only [List.length_cons];omega
    ·have:=cutL_part (l:=l) (w:=w) (by rw [e];exact List.mem_cons_of_mem _ q)
     simp only [List.length_cons];omega
theorem scanC_len {s:List UInt8} {c:ColT} (h:scanC s=some c):c.name.length≤s.length∧c.words.length≤s.length+1∧∀ w,w∈c.words→w.length≤s.length:=by
 obtain ⟨h1,h2⟩:=scanC_form h
 have hb:(bef 58 s).length≤s.length:=(List.takeWhile_sublist _).length_le
 have ha:(aft 58 s).length≤s.length:=by
  unfold aft
  rw [List.length_drop]
  have:=(List.dropWhile_sublist (l:=s) (fun x=>x != 58)).length_le
  omega
 refine ⟨by rw [h1];exact hb,?_⟩
 rcases h2 with ⟨q,_⟩ | ⟨u,_,q,e⟩
 ·rw [q];exact ⟨Nat.zero_le _,fun w hw=>by cases hw⟩
 ·have hu:u.length≤s.length:=by rw [e] at ha;simp only [List.length_append] at ha;omega
  rw [q]
  exact ⟨Nat.le_trans (cutL_len 124 u) oM,fun w hw=>Nat.le_trans (cutL_part hw) hu⟩
end Go.Proofs.YtbcfidllfimehaaGreatDoor
namespace Go.Proofs.YtbcfidllfimehaaGreatDoor
open Go.RowKit _root_.Go.Proofs.Tryz
section
variable {P:Program} {n:Nat} {ops:Array Oper} {o:Oper} {rest:List Oper} {env:Env} {bx:Bxs} {H:Hs} {Q:EQ} {d:Nat}
theorem sb_at {l:List UInt8} {j:Nat} {c:UInt8} (h:l[j]?=some c):(sb l)[j]?=some c:=by
 obtain ⟨h1,h2⟩:=List.getElem?_eq_some_iff.1 h
 have hs:j<(sb l).size:=by show j<l.toArray.size;simpa using h1
 rw [getElem?_pos (sb l) j hs]
 congr 1
theorem run_strAt {T:TypeId} {x y:Operand} (ho:o.op=.index T x y) (hT:P.underlying T=some .string) {l:List UInt8} (hx:env.op x=some (.v (.string (sb l)))) {k:IntKind} {z:Int} (hy:env.op y=some (.v (.int k z))) (j:Nat) (hz:z=j) {c:UInt8} (hc:l[j]?=some c) (ev:Operand→Value) (W:World) (he:∀ y x,y∈o.op.operands→env.op y=some (.v x)→ev y=x) :
  (execOp ev o).run P W=.ok (.value (.int .u8 (c.toNat:Int))) W:=by
 have ex:=he x _ (by simp [ho,Op.operands]) hx
 have ey:=he y _ (by simp [ho,Op.operands]) hy
 subst hz
 have hs:=sb_at hc
 unfold execOp
 simp [ho,ex,ey,Instr.index,asIntOf,run_underlying hT,hs]
theorem EVL.strAt {T:TypeId} {x y:Operand} (ho:o.op=.index T x y) (hw:wantB ops env o=some true) (hd:o.dst=some d) (hn:Nat.blt d n=true) (hT:P.underlying T=some .string) {l:List UInt8} (hx:env.op x=some (.v (.string (sb l)))) {k:IntKind} {z:Int} (hy:env.op y=some (.v (.int k z))) (j:Nat) (hz:z=j) {c:UInt8} (hc:l[j]?=some c)
  (h:EVL P n ops rest ((d,.v (.int .u8 (c.toNat:Int)))::env) bx H Q):EVL P n ops (o::rest) env bx H Q:=EVL.gen hw hd hn (run_strAt ho hT hx hy j hz hc) h
end
theorem mul64_pv (x y:Nat) (hx:x<W64) (hy:y<W64):PV prog 77 #[n64 x,n64 y] (.tuple #[n64 (x*y / W64),n64 (x*y % W64)]) :=
 ⟨(cO func77),fun W _=>(Tryz.bits_Mul64 x y hx hy W).mono fun e W' ⟨h1,h2⟩=>⟨h1,by rw [h2];exact Below.refl _ _⟩⟩
structure MulInv (l q:List Nat) (m a i c:Nat):Prop where
 len:q.length=l.length
 dig:Dig W64 q
 keep:∀ k,i≤k→q.getD k 0=l.getD k 0
 sum:val W64 (q.take i)+c*W64 ^ i=val W64 (l.take i)*m+a
 carry:c<W64
theorem mul_parts {x m c:Nat} (hx:x<W64) (hm:m<W64) (hc:c<W64):x*m / W64+addHi (x*m % W64) c 0<W64∧addLo (x*m % W64) c 0<W64∧addLo (x*m % W64) c 0+(x*m / W64+addHi (x*m % W64) c 0)*W64=x*m+c:=by
 have h0:x*m % W64<W64:=Nat.mod_lt _ (by decide)
 obtain ⟨p1,p2,p3⟩:=add_parts h0 hc (Nat.zero_le 1)
 have h1:=Nat.div_add_mod (x*m) W64
 have e:addLo (x*m % W64) c 0+(x*m / W64+addHi (x*m % W64) c 0)*W64=x*m+c:=by
  rw [Nat.add_mul,Nat.mul_comm (x*m / W64)]
  omega
 refine ⟨?_,p2,e⟩
 have h2:x*m≤(W64-1)*(W64-1):=Nat.mul_le_mul oM oM
 have hW:(W64-1)*(W64-1)+(W64-1)<W64*W64:=by decide
 refine Nat.lt_of_mul_lt_mul_right (a:=W64) ?_
 omega
theorem mul_lin {A s c' Pw B x m a c:Nat} (hs:A+c*Pw=B*m+a) (h3:s+c'*W64=x*m+c):A+s*Pw+c'*(Pw*W64)=(B+x*Pw)*m+a:=by
 have e:s*Pw+c'*(Pw*W64)=(x*m+c)*Pw:=by
  rw [← h3,Nat.add_mul,Nat.mul_assoc,Nat.mul_comm W64]
 rw [Nat.add_assoc,e,Nat.add_mul,Nat.add_mul]
 have e2:x*Pw*m=x*m*Pw:=by rw [Nat.mul_assoc,Nat.mul_assoc,Nat.mul_comm Pw]
 omega
theorem MulInv.step {l q:List Nat} {m a i c:Nat} (h:MulInv l q m a i c) (hi:i<l.length) (hm:m<W64):MulInv l (q.set i (addLo (q.getD i 0*m % W64) c 0)) m a (i+1) (q.getD i 0*m / W64+addHi (q.getD i 0*m % W64) c 0):=by
 have hil:i<q.length:=by rw [h.len];exact hi
 have hx:q.getD i 0<W64:=h.dig.getD (by decide) i
 obtain ⟨h1,h2,h3⟩:=mul_parts hx hm h.carry
 have hk:=h.keep i (Nat.le_refl _)
 have hs:=h.sum
 have hv:val W64 ((q.set i (addLo (q.getD i 0*m % W64) c 0)).take (i+1))=val W64 (q.take i)+addLo (q.getD i 0*m % W64) c 0*W64 ^ i:=by
  rw [val_take_getD,List.take_set_of_le (Nat.le_refl i)]
  congr 2
  rw [List.getD_eq_getElem?_getD,List.getElem?_set_self hil];rfl
 have hl:=val_take_getD l i
 refine ⟨by rw [List.length_set];exact h.len,h.dig.set _ _ h2,fun k hk'=>?_,?_,h1⟩
 ·rw [← h.keep k (by omega)]
  simp [List.getD_eq_getElem?_getD,List.getElem?_set_ne (show i≠k by omega)]
 ·rw [hv,hl,← hk,Nat.pow_succ]
  exact mul_lin hs h3
theorem n64_cell {q:List Nat} {sp:List Value} {i x:Nat} (h:q[i]?=some x):(q.map n64++sp)[i]?=some (n64 x):=by
 rw [List.getElem?_append_left (by rw [List.length_map];exact (List.getElem?_eq_some_iff.1 h).1),List.getElem?_map,h];rfl
theorem n64_set {q:List Nat} {sp:List Value} {i z:Nat} (h:i<q.length):(q.map n64++sp).set i (n64 z)=(q.set i z).map n64++sp:=by
 rw [List.map_set,List.set_append_left _ _ (by rw [List.length_map];exact h)]
set_option maxHeartbeats 16000000 in
theorem mulAdd_pw {H:Hp} {v:Value} {l:List Nat} {ow:Ows} {m a:Nat} (hown:OwnL 73 1 v l.length (l.map n64) ow) (hD:Dig W64 l) (hl:l.length≤1000) (hm:m<W64) (ha:a<W64) :
  PW prog 221 #[v,n64 m,n64 a] H ow fun v' ow' _=>∃ l',OwnL 73 1 v' l'.length (l'.map n64) ow'∧Dig W64 l'∧val W64 l'=val W64 l*m+a∧l'.length≤l.length+1:=by
 rcases hown.2 with ⟨rfl,h0,rfl⟩ | ⟨b,cap,sp,rfl,rfl,k1,k2,k3⟩
 ·obtain rfl:=List.length_eq_zero_iff.1 h0
  refine PW.body tO func221 rfl kR ntmps221 rfl rfl ?_
  try refine RUN ?_
  refine EV.loopK (ι:=Unit) [0,1,15] [] (fun _=>[(7,.v (n64 a)),(16,.v (.int .i64 0))]) (fun _=>[]) (fun _=>[]) (fun _ _=>True) (fun _=>0) (()) rfl rfl ⟨rfl,rfl,trivial⟩ trivial rfl (fun _=>rfl) (trivial) ?_
  rintro _ G1 hG1 _
  try refine RUN ?_
  by_cases e:a=0
  ·subst e
   try refine RUN ?_
   exact ⟨[],OwnL.nil _ _,Dig.nil _,by rw [val_nil,Nat.zero_mul],Nat.zero_le _⟩
  ·rw [show ((a:Int) != 0)=true from bne_iff_ne.2 (by omega)]
   try refine RUN ?_
   refine EVL.app1 tO rfl rfl rfl rfl rfl rfl rfl rfl rfl rfl rfl rfl rfl rfl rfl rfl rfl rfl rfl (fun _=>rfl) ([]) ([]) (rfl) (OwnL.nil _ _) oM fun _=>?_
   intro v' ow' hown'
   try refine RUN ?_
   refine ⟨[a],(by simpa [show Tryz.te73.size=1 from rfl] using hown'),Dig.cons ha (Dig.nil _),by rw [val_cons,val_nil];simp [val_nil],Nat.le_refl _⟩
 ·refine PW.body tO func221 rfl kR ntmps221 rfl rfl ?_
  try refine RUN ?_
  refine EV.loopK (ι:=Nat × Nat × List Nat) [0,1,15] [] (fun s=>[(7,.v (n64 s.2.1)),(16,.v (.int .i64 (s.1:Int)))]) (fun _=>[]) (fun s=>[(b,73,s.2.2.map n64++sp)]) (fun s _=>s.1≤l.length∧MulInv l s.2.2 m a s.1 s.2.1) (fun s=>l.length-s.1) ((0,a,l)) rfl rfl ⟨rfl,rfl,trivial⟩ trivial rfl (fun _=>rfl) (⟨Nat.zero_le _,⟨rfl,hD,fun _ _=>rfl,by simp [val_nil],ha⟩⟩) ?_
  rintro ⟨i,c,q⟩ G1 hG1 ⟨hi,hinv⟩
  dsimp only at hi hinv
  have hql:=hinv.len
  try refine RUN ?_
  refine EV.cond rfl (fun hlt=>?_) (fun hlt=>?_)
  ·simp only [nN] at hlt
   obtain ⟨x,hx⟩:∃ x,q[i]?=some x:=⟨_,List.getElem?_eq_getElem oM⟩
   have hxD:x<W64:=hinv.dig x (List.mem_of_getElem? hx)
   have hgx:q.getD i 0=x:=by rw [List.getD_eq_getElem?_getD,hx];rfl
   have hcell:=n64_cell (sp:=sp) hx
   have hmu:=mul64_pv x m hxD hm
   have hst:=hinv.step hlt hm
   obtain ⟨h1,h2,h3⟩:=mul_parts hxD hm hinv.carry
   rw [hgx] at hst
   have hw:IntKind.u64.wrap (((x*m / W64:Nat):Int)+((addHi (x*m % W64) c 0:Nat):Int))=((x*m / W64+addHi (x*m % W64) c 0:Nat):Int):=by
    rw [← Int.natCast_add]
    generalize x*m / W64+addHi (x*m % W64) c 0=z at *
    rw [W64_val] at h1
    rw [IntKind.wrap_u64]
    omega
   have hset:=fun z=>n64_set (sp:=sp) (z:=z) (show i<q.length by omega)
   have hlen:i<(q.map n64++sp).length:=by rw [List.length_append,List.length_map];omega
   try refine RUN ?_
   refine EVL.idxB tO rfl rfl rfl rfl rfl rfl rfl rfl rfl (i) (i*1) (rfl) (hlt) (rfl) ?_
   rw [Nat.mul_one]
   refine EVL.load1 tO rfl rfl rfl rfl rfl rfl rfl rfl (0) rfl (hcell) ?_
   repeat (first | refine RUN ?_ | refine CV (hmu) ?_ | refine CE (hmu) ?_)
   refine EVL.ext rfl rfl rfl rfl rfl (add64_run0 (x*m % W64) c) ?_
   generalize hlo:addLo (x*m % W64) c 0=s at *
   generalize hhi:addHi (x*m % W64) c 0=c2 at *
   generalize x*m / W64=hh at *
   try refine RUN ?_
   rw [hw]
   try refine RUN ?_
   refine EVL.idxB tO rfl rfl rfl rfl rfl rfl rfl rfl rfl (i) (i*1) (rfl) (hlt) (rfl) ?_
   rw [Nat.mul_one]
   try refine RUN ?_
   refine EVL.set1 tO rfl rfl rfl rfl rfl rfl rfl rfl rfl rfl (hlen) ?_
   rw [hset]
   try refine RUN ?_
   exact ⟨(i+1,hh+c2,q.set i s),⟨rfl,by rw [wi_inc i (by omega)];rfl,trivial⟩,sB,trivial,sB,rfl,⟨hlt,hst⟩,Hp.Le.refl _,by dsimp only;omega⟩
  ·simp only [nN] at hlt
   obtain rfl:i=l.length:=by omega
   have hs:=hinv.sum
   rw [List.take_of_length_le oM,List.take_length] at hs
   have hownq:OwnL 73 1 (.slice (some ⟨b,0,none⟩) l.length cap) q.length (q.map n64) [(b,73,q.map n64++sp)]:=⟨by rw [List.length_map,Nat.mul_one],.inr ⟨b,cap,sp,by rw [hql],rfl,by rw [← k1,List.length_append,List.length_append,List.length_map,List.length_map,hql],by omega,k3⟩⟩
   try refine RUN ?_
   by_cases e:c=0
   ·subst e
    try refine RUN ?_
    exact ⟨q,hownq,hinv.dig,by rw [← hs,Nat.zero_mul,Nat.add_zero],by omega⟩
   ·rw [show ((c:Int) != 0)=true from bne_iff_ne.2 (by omega)]
    rw [hql] at hownq
    try refine RUN ?_
    refine EVL.app1 tO rfl rfl rfl rfl rfl rfl rfl rfl rfl rfl rfl rfl rfl rfl rfl rfl rfl rfl rfl (fun _=>rfl) ([(b,73,q.map n64++sp)]) ([]) (rfl) (hownq) oM fun _=>?_
    intro v' ow' hown'
    try refine RUN ?_
    refine ⟨q++[c],?_,hinv.dig.snoc hinv.carry,by rw [val_snoc,hql,hs],by rw [List.length_append,List.length_singleton];omega⟩
    rw [List.length_append,List.length_singleton,List.map_append,hql]
    simpa [show Tryz.te73.size=1 from rfl] using hown'
theorem sb_size (l:List UInt8):(sb l).size=l.length:=by simp [sb,ByteArray.size]
theorem isDg_iff {c:UInt8}:isDg c=true↔48≤c.toNat∧c.toNat≤57:=by
 unfold isDg
 rw [Bool.and_eq_true,decide_eq_true_eq,decide_eq_true_eq]
theorem dgv {c:UInt8} (h:isDg c=true):IntKind.u64.wrap (IntKind.u8.wrap ((c.toNat:Int)-48))=(dV c:Int):=by
 obtain ⟨h1,h2⟩:=isDg_iff.1 h
 rw [IntKind.wrap_u8,IntKind.wrap_u64]
 unfold dV
 omega
structure ParInv (s:List UInt8) (i:Nat) (l:List Nat) (part unit:Nat):Prop where
 le:i≤s.length
 dig:Dig W64 l
 len:l.length≤i
 pow:∃ c,c≤18∧unit=10 ^ c∧part<10 ^ c
 sum:val W64 l*unit+part=valD (s.take i)
 all:(s.take i).all isDg=true
 last:i=s.length→1≤i→part=0∧unit=1
def startOk (s:List UInt8):Prop:=1≤s.length∧s.length≤200∧¬ (1<s.length∧s.head?=some 48)
instance (s:List UInt8):Decidable (startOk s):=by unfold startOk;exact inferInstance
theorem pow_le19 {c:Nat} (h:c≤18):10 ^ c≤1000000000000000000:=Nat.le_trans (Nat.pow_le_pow_right oM h) (by decide)
theorem pow_19 {c:Nat} (h:c≤18):10 ^ c*10=10000000000000000000↔c=18:=by
 constructor
 ·intro e
  by_cases h2:c≤17
  ·have:10 ^ c≤10 ^ 17:=Nat.pow_le_pow_right oM h2
   have h3:(10:Nat) ^ 17=100000000000000000:=by decide
   omega
  ·omega
 ·rintro rfl;decide
set_option maxRecDepth 100000 in
set_option maxHeartbeats 16000000 in
theorem natParse_pc {H:Hp} (s:List UInt8):PC prog 202 #[.string (sb s)] H fun r _=>r=.tuple #[natV ((pN s).getD 0),.bool (pN s).isSome]:=by
 have hz:natV 0=.agg #[.int .u64 0,.string ⟨#[]⟩]:=natV_small (by decide)
 have bad:pN s=none→Value.tuple #[.agg #[.int .u64 0,.string ⟨#[]⟩],.bool false]=Value.tuple #[natV ((pN s).getD 0),.bool (pN s).isSome]:=fun e=>by rw [e,← hz];rfl
 have hsz:=sb_size s
 generalize hB:(!decide (startOk s))=B
 refine BD func202 ntmps202 ?_
 try refine RUN ?_
 refine EVL.meetK (ι:=Unit) [0,2] [2] (fun _=>[(25,.v (.bool B))]) (fun _=>[]) (fun _=>[]) (fun _ G=>H.Le G) rfl rfl (fun _=>rfl) ?_ ?_
 ·rw [hsz]
  by_cases c1:s.length=0
  ·rw [show ((s.length:Int) == 0)=true from beq_iff_eq.2 (by omega)]
   rw [decide_eq_false (fun k=>by have:=k.1;omega)] at hB
   subst hB
   try refine RUN ?_
   exact ⟨(),⟨rfl,trivial⟩,sB,trivial,sB,rfl,Hp.Le.refl _⟩
  rw [show ((s.length:Int) == 0)=false from beq_eq_false_iff_ne.2 (by omega)]
  try refine RUN ?_
  rw [hsz]
  by_cases c2:s.length>200
  ·rw [decide_eq_true (show (s.length:Int)>200 by omega)]
   rw [decide_eq_false (fun k=>by have:=k.2.1;omega)] at hB
   subst hB
   try refine RUN ?_
   exact ⟨(),⟨rfl,trivial⟩,sB,trivial,sB,rfl,Hp.Le.refl _⟩
  rw [decide_eq_false (show ¬ (s.length:Int)>200 by omega)]
  try refine RUN ?_
  rw [hsz]
  by_cases c3:1<s.length
  ·rw [decide_eq_true (show (s.length:Int)>1 by omega)]
   obtain ⟨c,hc⟩:∃ c,s[0]?=some c:=⟨_,List.getElem?_eq_getElem oM⟩
   have hh:s.head?=some c:=by rw [List.head?_eq_getElem?];exact hc
   try refine RUN ?_
   refine EVL.strAt rfl rfl rfl rfl kR rfl rfl 0 rfl hc ?_
   try refine RUN ?_
   by_cases c4:c=48
   ·rw [show ((c.toNat:Int) == 48)=true by rw [c4];rfl]
    rw [decide_eq_false (fun k=>k.2.2 ⟨c3,by rw [hh,c4]⟩)] at hB
    subst hB
    try refine RUN ?_
    exact ⟨(),⟨rfl,trivial⟩,sB,trivial,sB,rfl,Hp.Le.refl _⟩
   ·rw [show ((c.toNat:Int) == 48)=false from beq_eq_false_iff_ne.2 fun k=>c4 (by
     have h48:c.toNat=(48:UInt8).toNat:=by show c.toNat=48;omega
     exact UInt8.toNat_inj.1 h48)]
    rw [decide_eq_true (show startOk s from ⟨by omega,by omega,fun k=>c4 (Option.some.inj (hh.symm.trans k.2))⟩)] at hB
    subst hB
    try refine RUN ?_
    exact ⟨(),⟨rfl,trivial⟩,sB,trivial,sB,rfl,Hp.Le.refl _⟩
  ·rw [decide_eq_false (show ¬ (s.length:Int)>1 by omega)]
   rw [decide_eq_true (show startOk s from ⟨by omega,by omega,fun k=>c3 k.1⟩)] at hB
   subst hB
   try refine RUN ?_
   exact ⟨(),⟨rfl,trivial⟩,sB,trivial,sB,rfl,Hp.Le.refl _⟩
 rintro _ G0 hG0
 cases B with
 | true =>
  try refine RUN ?_
  refine bad ?_
  unfold pN
  rw [if_neg fun k=>by
   have:startOk s:=⟨k.1,k.2.1,k.2.2.1⟩
   rw [decide_eq_true this] at hB
   cases hB]
 | false =>
 have hst:startOk s:=by
  by_cases k:startOk s
  ·exact k
  ·rw [decide_eq_false k] at hB;cases hB
 obtain ⟨s1,s2,s3⟩:=hst
 try refine RUN ?_
 rw [hsz]
 refine EV.loopK (ι:=Nat × List Nat × Value × Ows × Nat × Nat) [0,2,28] [2] (fun q=>[(4,.v q.2.2.1),(5,.v (n64 q.2.2.2.2.1)),(6,.v (n64 q.2.2.2.2.2)),(29,.v (.int .i64 (q.1:Int)))]) (fun _=>[]) (fun q=>q.2.2.2.1) (fun q G=>G0.Le G∧OwnL 73 1 q.2.2.1 q.2.1.length (q.2.1.map n64) q.2.2.2.1∧ParInv s q.1 q.2.1 q.2.2.2.2.1 q.2.2.2.2.2) (fun q=>s.length-q.1) ((0,[],.slice none 0 0,[],0,1)) rfl rfl ⟨rfl,rfl,rfl,rfl,trivial⟩ trivial rfl (fun _=>rfl) (⟨Hp.Le.refl _,OwnL.nil _ _,⟨Nat.zero_le _,Dig.nil _,Nat.le_refl _,⟨0,by omega,rfl,by decide⟩,by rw [val_nil];rfl,rfl,fun _ k=>by omega⟩⟩) ?_
 rintro ⟨i,l,v,ow,part,unit⟩ G1 hG1 ⟨hG01,hown,hinv⟩
 dsimp only at hown hinv hG01
 try refine RUN ?_
 refine EV.cond rfl (fun hlt=>?_) (fun hlt=>?_)
 case refine_2 =>
  simp only [nN] at hlt
  have hi:i=s.length:=by have:=hinv.le;omega
  obtain ⟨e1,e2⟩:=hinv.last hi oM
  have hv:=hinv.sum
  have hall:=hinv.all
  rw [e1,e2,hi,List.take_length,Nat.mul_one,Nat.add_zero] at hv
  rw [hi,List.take_length] at hall
  have hlen:=hinv.len
  have hle:=hinv.le
  (first | refine EVL.publishL [] ow [] ((List.append_nil _).symm) hown fun G2 hG2 hs2=>?_ | refine EV.publishL [] ow [] ((List.append_nil _).symm) hown fun G2 hG2 hs2=>?_)
  have hsN:SlN n64 G2 v l:=hs2
  try refine RUN ?_
  refine EVL.call rfl rfl rfl rfl rfl (fromWords_pc hsN hinv.dig oM) ?_
  rintro _ G3 rfl hG3
  try refine RUN ?_
  have hp:pN s=some (valD s):=if_pos ⟨s1,s2,s3,hall⟩
  rw [hp,hv]
  rfl
 simp only [nN] at hlt
 have hlt2:i<s.length:=by omega
 obtain ⟨c,hc⟩:∃ c,s[i]?=some c:=⟨_,List.getElem?_eq_getElem hlt2⟩
 obtain ⟨p1,p2,p3,⟨k,p4,p5,p6⟩,p7,p8,_⟩:=hinv
 have hnone:isDg c=false→pN s=none:=fun k=>pN_bad (List.mem_of_getElem? hc) k
 have htk:=take_snoc hc
 try refine RUN ?_
 refine EVL.strAt rfl rfl rfl rfl kR rfl rfl i rfl hc ?_
 try refine RUN ?_
 by_cases d1:c.toNat<48
 ·rw [decide_eq_true (show (c.toNat:Int)<48 by omega)]
  try refine RUN ?_
  refine bad (hnone ?_)
  rw [← Bool.not_eq_true,isDg_iff]
  omega
 rw [decide_eq_false (show ¬ (c.toNat:Int)<48 by omega)]
 try refine RUN ?_
 refine EVL.strAt rfl rfl rfl rfl kR rfl rfl i rfl hc ?_
 try refine RUN ?_
 by_cases d2:c.toNat>57
 ·rw [decide_eq_true (show (c.toNat:Int)>57 by omega)]
  try refine RUN ?_
  refine bad (hnone ?_)
  rw [← Bool.not_eq_true,isDg_iff]
  omega
 rw [decide_eq_false (show ¬ (c.toNat:Int)>57 by omega)]
 have hdg:isDg c=true:=isDg_iff.2 ⟨by omega,by omega⟩
 have hdv:=dgv hdg
 have hdl:=dV_lt hdg
 have hpow:=pow_le19 p4
 have h19:=pow_19 p4
 have hsum:val W64 l*(unit*10)+(part*10+dV c)=valD (s.take (i+1)):=by
  rw [htk,valD_snoc,← p7,Nat.add_mul,Nat.mul_assoc];omega
 have hall:(s.take (i+1)).all isDg=true:=by rw [htk,List.all_append,p8,List.all_cons,hdg];rfl
 have w1:IntKind.u64.wrap ((part:Int)*10)=((part*10:Nat):Int):=by rw [IntKind.wrap_u64];omega
 have w2:IntKind.u64.wrap (((part*10:Nat):Int)+(dV c:Int))=((part*10+dV c:Nat):Int):=by rw [IntKind.wrap_u64];omega
 have w3:IntKind.u64.wrap ((unit:Int)*10)=((unit*10:Nat):Int):=by rw [IntKind.wrap_u64];omega
 have hu:unit*10<W64:=by rw [W64_val];omega
 have hp:part*10+dV c<W64:=by rw [W64_val];omega
 try refine RUN ?_
 refine EVL.strAt rfl rfl rfl rfl kR rfl rfl i rfl hc ?_
 try refine RUN ?_
 rw [hdv,w1,w2,w3]
 have hunit:unit*10=10 ^ (k+1):=by rw [p5,Nat.pow_succ]
 have hpart:part*10+dV c<10 ^ (k+1):=by rw [Nat.pow_succ];omega
 generalize hU:unit*10=U at *
 generalize hP:part*10+dV c=Pt at *
 have hflush:(U=10000000000000000000∨i+1=s.length)→True:=fun _=>trivial
 generalize hF:decide (U=10000000000000000000∨i+1=s.length)=F
 try refine RUN ?_
 refine EVL.meetK (ι:=Unit) [0,2,4,5,6,7,28,29] [2] (fun _=>[(61,.v (.bool F))]) (fun _=>[]) (fun _=>ow) (fun _ G=>G1.Le G) rfl rfl (fun _=>rfl) ?_ ?_
 ·by_cases f1:U=10000000000000000000
  ·rw [show ((U:Int) == 10000000000000000000)=true from beq_iff_eq.2 (by omega)]
   rw [decide_eq_true (Or.inl f1)] at hF
   subst hF
   try refine RUN ?_
   exact ⟨(),⟨rfl,trivial⟩,sB,trivial,sB,rfl,Hp.Le.refl _⟩
  ·rw [show ((U:Int) == 10000000000000000000)=false from beq_eq_false_iff_ne.2 (by omega)]
   try refine RUN ?_
   rw [hsz,show IntKind.i64.wrap ((s.length:Int)-1)=(s.length:Int)-1 by rw [IntKind.wrap_i64];omega]
   by_cases f2:i+1=s.length
   ·rw [show ((i:Int) == (s.length:Int)-1)=true from beq_iff_eq.2 (by omega)]
    rw [decide_eq_true (Or.inr f2)] at hF
    subst hF
    try refine RUN ?_
    exact ⟨(),⟨rfl,trivial⟩,sB,trivial,sB,rfl,Hp.Le.refl _⟩
   ·rw [show ((i:Int) == (s.length:Int)-1)=false from beq_eq_false_iff_ne.2 (by omega)]
    rw [decide_eq_false (fun k=>k.elim f1 f2)] at hF
    subst hF
    try refine RUN ?_
    exact ⟨(),⟨rfl,trivial⟩,sB,trivial,sB,rfl,Hp.Le.refl _⟩
 rintro _ G2 hG2
 cases F with
 | true =>
  try refine RUN ?_
  refine EVL.callW rfl rfl rfl rfl rfl ow [] (List.append_nil _).symm (mulAdd_pw hown p2 oM hu hp) ?_
  rintro v' ow' G3 ⟨l',hown',hD',hv',hl'⟩ hG3
  try refine RUN ?_
  exact ⟨(i+1,l',v',ow',0,1),⟨rfl,rfl,rfl,by rw [wi_inc i (by omega)];rfl,trivial⟩,sB,trivial,sB,List.append_nil _,⟨hG01.trans (hG2.trans hG3),hown',⟨hlt2,hD',by dsimp only;omega,⟨0,by omega,rfl,(show 0<10 ^ 0 by decide)⟩,by dsimp only;rw [Nat.mul_one,Nat.add_zero,hv'];exact hsum,hall,fun _ _=>⟨rfl,rfl⟩⟩⟩,hG2.trans hG3,by dsimp only;omega⟩
 | false =>
  have hF2:=of_decide_eq_false hF
  have hk:k+1≤18:=by
   by_cases e:k=18
   ·exact absurd (Or.inl (by rw [← hU,p5];exact h19.2 e)) hF2
   ·omega
  try refine RUN ?_
  exact ⟨(i+1,l,v,ow,Pt,U),⟨rfl,rfl,rfl,by rw [wi_inc i (by omega)];rfl,trivial⟩,sB,trivial,sB,rfl,⟨hG01.trans hG2,hown,⟨hlt2,p2,by dsimp only;omega,⟨k+1,hk,hunit,hpart⟩,hsum,hall,fun k=>absurd (Or.inr k) hF2⟩⟩,hG2,by dsimp only;omega⟩
theorem sb_list (l:List UInt8):(sb l).toList=l:=by rw [Lib.toList_data]
theorem sb_eqb (l m:List UInt8):((sb l).toList == (sb m).toList)=decide (l=m):=by
 rw [sb_list,sb_list]
 by_cases h:l=m
 ·subst h;simp
 ·rw [decide_eq_false h];simpa using h
theorem sb_cut (l:List UInt8) (a b:Nat):(sb l).extract a b=sb ((l.drop a).take (b-a)):=Lib.extract_eq (sb l) a b
def hasMinus (l:List UInt8):Prop:=l.head?=some 45
instance (l:List UInt8):Decidable (hasMinus l):=by unfold hasMinus;exact inferInstance
def unMinus (l:List UInt8):List UInt8:=if l.head?=some 45 then l.tail else l
theorem unMinus_lib (l:List UInt8):Lib.trimPrefix l [45]=unMinus l∧Lib.hasPrefix l [45]=decide (l.head?=some 45):=by
 cases l with
 | nil=>exact ⟨rfl,rfl⟩
 | cons c l =>
  by_cases h:c=45
  ·subst h;exact ⟨rfl,rfl⟩
  ·have hh:Lib.hasPrefix (c::l) [45]=false:=by
    show ((45:UInt8) == c && _)=false
    rw [show ((45:UInt8) == c)=false from beq_eq_false_iff_ne.2 fun k=>h k.symm];rfl
   have hn:¬ (c::l).head?=some 45:=fun k=>h (Option.some.inj k)
   refine ⟨?_,by rw [hh,decide_eq_false hn]⟩
   unfold Lib.trimPrefix unMinus
   rw [hh,if_neg hn]
   rfl
theorem cutPrefix_pv (l:List UInt8):PV prog 203 #[.string (sb l),.string (sb [45])] (.tuple #[.string (sb (unMinus l)),.bool (decide (l.head?=some 45))]) :=
 ⟨(cO func203),fun W _=>(Tryz.strings_CutPrefix (sb l) (sb [45]) W).mono fun e W' ⟨h1,h2⟩=>⟨by
  rw [h1,← (unMinus_lib l).1,← (unMinus_lib l).2],by rw [h2];exact Below.refl _ _⟩⟩
theorem ten_16 (n:Nat):10 ^ n≤2 ^ (4*n):=by
 rw [Nat.pow_mul]
 exact Nat.pow_le_pow_left (by decide) n
theorem valD_bl {l:List UInt8} (h:l.all isDg=true) (hl:l.length≤200):bl (valD l)≤800 :=
 Nat.le_trans (bl_le (Nat.lt_of_lt_of_le (valD_lt' h) (ten_16 _))) oM
theorem pN_bl {l:List UInt8} {n:Nat} (h:pN l=some n):bl n≤800:=by
 unfold pN at h
 split at h
 ·rename_i k
  cases h
  exact valD_bl k.2.2.2 k.2.1
 ·cases h
theorem bl_eq0 {n:Nat}:bl n=0↔n=0:=by
 constructor
 ·intro h
  have:=lt_bl n
  rw [h] at this
  simpa using this
 ·rintro rfl;exact bl_zero
set_option maxHeartbeats 4000000 in
theorem wholeParse_pc {H:Hp} (l:List UInt8):PC prog 176 #[.string (sb l)] H fun r _=>r=.tuple #[intV ((pI l).getD 0),.bool (pI l).isSome]:=by
 have hcp:=cutPrefix_pv l
 have hnp:=fun G:Hp=>natParse_pc (H:=G) (unMinus l)
 have hz:natV 0=.agg #[.int .u64 0,.string ⟨#[]⟩]:=natV_small (by decide)
 have hz2:intV 0=.agg #[.bool false,.int .u64 0,.string ⟨#[]⟩]:=by
  show Value.agg #[.bool (decide ((0:Int)<0)),_,_]=_
  have e:natV 0=.agg #[.int .u64 (lo 0:Int),.string (moreB 0)]:=rfl
  rw [hz] at e
  injection e with e
  have e1:Value.int .u64 (0:Int)=.int .u64 (lo 0:Int):=by injection e with e;injection e with e1 e2
  have e2:Value.string ⟨#[]⟩=.string (moreB 0):=by injection e with e;injection e with e1 e2;injection e2 with e2 e3
  rw [show ((0:Int)).natAbs=0 from rfl,← e1,← e2]
  rfl
 have bad:pI l=none→Value.tuple #[.agg #[.bool false,.int .u64 0,.string ⟨#[]⟩],.bool false]=Value.tuple #[intV ((pI l).getD 0),.bool (pI l).isSome]:=fun e=>by rw [e,← hz2];rfl
 refine BD func176 ntmps176 ?_
 repeat (first | refine RUN ?_ | refine CV (hcp) ?_ | refine CE (hcp) ?_)
 refine EVL.call rfl rfl rfl rfl rfl (hnp _) ?_
 rintro _ G1 rfl hG1
 try refine RUN ?_
 cases hpn:pN (unMinus l) with
 | none =>
  try refine RUN ?_
  refine bad ?_
  unfold pI unMinus at *
  split
  ·rename_i k;rw [if_pos k] at hpn;rw [hpn]
  ·rename_i k;rw [if_neg k] at hpn;rw [hpn];rfl
 | some n =>
  have hbn:=pN_bl hpn
  have hbits:=bits_pv n oM
  have hfr:=from_pv (decide (l.head?=some 45)) n oM
  by_cases h:l.head?=some 45
  ·rw [decide_eq_true h] at hfr ⊢
   have hpn':pN l.tail=some n:=by unfold unMinus at hpn;rwa [if_pos h] at hpn
   have hpI:pI l=if n=0 then none else some (-(n:Int)):=by
    unfold pI
    rw [if_pos h,hpn']
   repeat (first | refine RUN ?_ | refine CV (hbits) ?_ | refine CE (hbits) ?_)
   by_cases h0:n=0
   ·rw [show (((bl n:Nat):Int) == 0)=true from beq_iff_eq.2 (by rw [bl_eq0.2 h0];rfl)]
    try refine RUN ?_
    exact bad (by rw [hpI,if_pos h0])
   ·rw [show (((bl n:Nat):Int) == 0)=false from beq_eq_false_iff_ne.2 (fun k=>h0 (bl_eq0.1 oM))]
    repeat (first | refine RUN ?_ | refine CV (hfr) ?_ | refine CE (hfr) ?_)
    rw [hpI,if_neg h0]
    rfl
  ·rw [decide_eq_false h] at hfr ⊢
   have hpn':pN l=some n:=by unfold unMinus at hpn;rwa [if_neg h] at hpn
   have hpI:pI l=some (n:Int):=by
    unfold pI
    rw [if_neg h,hpn'];rfl
   repeat (first | refine RUN ?_ | refine CV (hfr) ?_ | refine CE (hfr) ?_)
   rw [hpI]
   rfl
theorem fracV_z:fracV 0=.agg #[.bool false,.int .u64 0,.string ⟨#[]⟩,.int .u64 0,.string ⟨#[]⟩]:=by
 show frV 0 0=_
 rw [frV_zero,show (0:Int).natAbs=0 from rfl,moreB_empty (n:=0) (by decide)];rfl
theorem make0_pv (n:Int):PV prog 149 #[intV n,intV 0] (.tuple #[fracV 0,.bool false]):=by
 have hs:=wholeSign_pv 0 (by show bl 0≤_;rw [bl_zero];omega)
 refine PV.of_pc ?_
 refine BD func149 ntmps149 ?_
 repeat (first | refine RUN ?_ | refine CV (hs) ?_ | refine CE (hs) ?_)
 rw [fracV_z]
section
variable {P:Program} {n:Nat} {ops:Array Oper} {o:Oper} {rest:List Oper} {env:Env} {bx:Bxs} {sb':Bxs} {H:Hs} {Q:EQ} {d:Nat}
theorem run_strSlc {T:TypeId} {x:Operand} {lo hi:Option Operand} (ho:o.op=.slice T x lo hi none) (hT:P.underlying T=some .string)
  {s:ByteArray} (hx:env.op x=some (.v (.string s))) (l h:Nat) (hlo:lo=none∧l=0∨∃ y k,lo=some y∧env.op y=some (.v (.int k (l:Int)))) (hhi:hi=none∧h=s.size∨∃ y k,hi=some y∧env.op y=some (.v (.int k (h:Int)))) (hlh:l≤h) (hhs:h≤s.size)
  (ev:Operand→Value) (W:World) (he:∀ y x,y∈o.op.operands→env.op y=some (.v x)→ev y=x):(execOp ev o).run P W=.ok (.value (.string (s.extract l h))) W:=by
 have h1:ev x=.string s:=he x _ (by simp [ho,Op.operands]) hx
 unfold execOp
 simp only [ho,Instr.sliceAt,h1,Option.map_none]
 rcases hlo with ⟨rfl,rfl⟩ | ⟨y,k,rfl,hy⟩
 ·rcases hhi with ⟨rfl,rfl⟩ | ⟨y',k',rfl,hy'⟩
  ·simp [run_underlying hT,Instr.slice,Instr.sliceBounds]
  ·have h2:ev y'=.int k' h:=he y' _ (by simp [ho,Op.operands]) hy'
   simp [run_underlying hT,Instr.slice,Instr.sliceBounds,Instr.sliceBound,h2,asIntOf,hhs]
 ·have h3:ev y=.int k l:=he y _ (by simp [ho,Op.operands]) hy
  rcases hhi with ⟨rfl,rfl⟩ | ⟨y',k',rfl,hy'⟩
  ·simp [run_underlying hT,Instr.slice,Instr.sliceBounds,Instr.sliceBound,h3,asIntOf,hlh]
  ·have h2:ev y'=.int k' h:=he y' _ (by simp [ho,Op.operands]) hy'
   simp [run_underlying hT,Instr.slice,Instr.sliceBounds,Instr.sliceBound,h2,h3,asIntOf,hhs,hlh]
theorem DJ.strSlc {tail l:List Oper} {x:Nat→Value} {y:Nat→Ows} {ow':Ows} {kl ks:List DK} {i:Nat} {bx':Bxs} {Γ:Fcts} {T:TypeId} {u:Operand} {lo hi:Option Operand} (ho:o.op=.slice T u lo hi none) (hw:wantB ops env o=some true) (hd:o.dst=some d) (hn:Nat.blt d n=true) (hT:P.underlying T=some .string)
  {s:ByteArray} (hx:env.op u=some (.v (.string s))) (a b:Nat) (hlo:lo=none∧a=0∨∃ y k,lo=some y∧env.op y=some (.v (.int k (a:Int)))) (hhi:hi=none∧b=s.size∨∃ y k,hi=some y∧env.op y=some (.v (.int k (b:Int)))) (hlh:a≤b) (hhs:b≤s.size)
  (h:DJ P n ops tail sb' bx H Q x y kl (i+1) l ks ((d,.v (.string (s.extract a b)))::env) bx' Γ ow'):DJ P n ops tail sb' bx H Q x y kl i (o::l) (.sv (.v (.string (s.extract a b)))::ks) env bx' Γ ow' :=
 DJ.ofVal (ValOk.gen hw (run_strSlc ho hT hx a b hlo hhi hlh hhs)) hd hn rfl h
end
theorem idxB:∀ (l:List UInt8) (c:UInt8),(c ∉ l∧Lib.indexByte l c = -1)∨∃ i:Nat,i<l.length∧Lib.indexByte l c=(i:Int)∧l[i]?=some c∧∀ j,j<i→l[j]?≠some c
 | [],c=>.inl ⟨List.not_mem_nil,rfl⟩
 | b::l,c=>by
  unfold Lib.indexByte
  by_cases h:b=c
  ·refine .inr ⟨0,by simp,?_,by rw [h];rfl,fun j hj=>by omega⟩
   rw [if_pos (by simpa using h)];rfl
  ·rw [if_neg (by simpa using h)]
   rcases idxB l c with ⟨h1,h2⟩ | ⟨i,h1,h2,h3,h4⟩
   ·refine .inl ⟨fun k=>(List.mem_cons.1 k).elim (fun e=>h e.symm) h1,?_⟩
    rw [h2];rfl
   ·refine .inr ⟨i+1,by simp <;> omega,?_,by simpa using h3,fun j hj=>?_⟩
    ·rw [h2,if_neg (by simp <;> omega)];omega
    ·cases j with
     | zero=>intro k;exact h (Option.some.inj (by simpa using k))
     | succ j =>
      have:=h4 j oM
      simpa using this
theorem not_cut {c:UInt8} {l:List UInt8} (h:c ∉ l):bef c l=l∧aft c l=[]:=by
 have h1:∀ m:List UInt8,c ∉ m→m.takeWhile (· != c)=m∧m.dropWhile (· != c)=[]:=by
  intro m
  induction m with
  | nil=>intro _;exact ⟨rfl,rfl⟩
  | cons x m ih =>
   intro hm
   have hx:x≠c:=fun e=>hm (by rw [e];exact List.mem_cons_self ..)
   obtain ⟨e1,e2⟩:=ih fun k=>hm (List.mem_cons_of_mem _ k)
   rw [List.takeWhile_cons,List.dropWhile_cons,if_pos (by simpa using hx),if_pos (by simpa using hx),e1,e2]
   exact ⟨rfl,rfl⟩
 obtain ⟨e1,e2⟩:=h1 l h
 exact ⟨e1,by unfold aft;rw [e2];rfl⟩
theorem index_pv (l:List UInt8) (c:UInt8):PV prog 171 #[.string (sb l),.string (sb [c])] (.int .i64 (Lib.indexByte l c)) :=
 ⟨(cO func171),fun W _=>(Tryz.stringslite_Index_one (sb l) c W).mono fun e W' ⟨h1,h2⟩=>⟨by rw [h1],by rw [h2];exact Below.refl _ _⟩⟩
set_option maxHeartbeats 1000000 in
theorem cutS_pv (l:List UInt8) (c:UInt8) (hl:l.length≤9223372036854775807):PV prog 201 #[.string (sb l),.string (sb [c])] (.tuple #[.string (sb (bef c l)),.string (sb (aft c l)),.bool (l.contains c)]):=by
 have hi:=index_pv l c
 have hs1:(sb [c]).size=1:=rfl
 have hsz:=sb_size l
 refine PV.of_pc ?_
 refine BD func201 ntmps201 ?_
 rcases idxB l c with ⟨h1,h2⟩ | ⟨i,h1,h2,h3,h4⟩
 ·rw [h2] at hi
  obtain ⟨e1,e2⟩:=not_cut h1
  rw [e1,e2,show l.contains c=false from by rw [← Bool.not_eq_true,List.contains_iff_mem];exact h1]
  repeat (first | refine RUN ?_ | refine CV (hi) ?_ | refine CE (hi) ?_)
  rfl
 ·rw [h2] at hi
  obtain ⟨e1,e2⟩:=cut_at h3 h4
  rw [e1,e2,show l.contains c=true from List.contains_iff_mem.2 (List.mem_of_getElem? h3)]
  repeat (first | refine RUN ?_ | refine CV (hi) ?_ | refine CE (hi) ?_)
  rw [decide_eq_true (show (i:Int)≥0 by omega)]
  try refine RUN ?_
  apply EV.drawn 11 kR kR;intro xv yw
  (repeat refine' DD ?_)
  refine' DJ.strSlc rfl rfl rfl rfl kR rfl 0 i (.inl ⟨rfl,rfl⟩) (.inr ⟨_,IntKind.i64,rfl,rfl⟩) oM (by rw [hsz];omega) ?_;rotate_left
  (repeat refine' DD ?_)
  rw [show IntKind.i64.wrap ((i:Int)+(((sb [c]).size:Nat):Int))=((i+1:Nat):Int) by rw [hs1,IntKind.wrap_i64];omega]
  refine' DJ.strSlc rfl rfl rfl rfl kR rfl (i+1) l.length (.inr ⟨_,IntKind.i64,rfl,rfl⟩) (.inl ⟨rfl,hsz.symm⟩) oM (by rw [hsz];omega) ?_;rotate_left
  rw [sb_cut,sb_cut]
  (repeat refine' DD ?_)
  (refine DJ.nil (fun G hG hF=>?_);(case hS|hS2=>rfl))
  try refine RUN ?_
  rw [Nat.sub_zero,List.drop_zero,List.take_of_length_le (l:=l.drop (i+1)) (by rw [List.length_drop];omega)]
theorem cut_pv (l:List UInt8) (c:UInt8) (hl:l.length≤9223372036854775807):PV prog 173 #[.string (sb l),.string (sb [c])] (.tuple #[.string (sb (bef c l)),.string (sb (aft c l)),.bool (l.contains c)]):=by
 have hc:=cutS_pv l c hl
 refine PV.of_pc ?_
 refine BD func173 ntmps173 ?_
 repeat (first | refine RUN ?_ | refine CV (hc) ?_ | refine CE (hc) ?_)
 rfl
theorem trimL_pv (l:List UInt8) (c:UInt8) (hc:c.toNat<128):PV prog 205 #[.string (sb l),.string (sb [c])] (.string (sb (Lib.trimLeftB l c))) :=
 ⟨(cO func205),fun W _=>(Tryz.strings_TrimLeft_one (sb l) c hc W).mono fun e W' ⟨h1,h2⟩=>⟨by rw [h1],by rw [h2];exact Below.refl _ _⟩⟩
section
variable {P:Program} {n:Nat} {ops:Array Oper} {o:Oper} {rest:List Oper} {env:Env} {bx:Bxs} {sb:Bxs} {ow:Ows} {H:Hs} {Q:EQ} {τ:Tab} {d:Nat} {s:SV}
theorem EVL.callWC {f:FuncId} {t:Nat} {args:Array Operand} {tys:Array TypeId} (ho:o.op=.call ⟨.value (.tmp t),args,tys⟩) (hw:wantB ops env o=some true) (hd:o.dst=some d) (hn:Nat.blt d n=true)
  {cs:List Value} (ht:env.op (.tmp t)=some (.v (.func (.func f) #[] cs.toArray))) {vs:List Value} (ha:argsK env args.toList some=some vs) (L R:Ows) (e:H.ow=L++R) {Φ:Value→Ows→Hp→Prop} (hpc:PW P f (vs++cs).toArray H.ro L Φ)
  (h:∀ v ow H',Φ v ow H'→H.ro.Le H'→EVL P n ops rest ((d,.v v)::env) bx ⟨H',ow++R,H.base⟩ Q):EVL P n ops (o::rest) env bx H Q:=fun W0 β a W r=>by
 obtain ⟨vs',hk,hm⟩:=argsK_spec env _ _ _ ha
 cases hk
 have hvs:=hm β H.ro a.eval (fun y s _ hy=>r.op hy)
 have htv:a.eval (.tmp t)=.func (.func f) #[] cs.toArray:=r.op ht
 unfold wpList
 rw [if_pos (r.want hw)]
 refine .inl ?_
 unfold Oper.wp
 rw [run_call_clo hpc.can ho htv hvs,Oper.upon_enter]
 have up:∀ (j b:Nat) (T:TypeId) (cs:List Value),L[j]?=some (b,T,cs)→H.ow[j]?=some (b,T,cs):=fun j b T cs hj=>by
  rw [e,List.getElem?_append_left (List.getElem?_eq_some_iff.1 hj).1];exact hj
 refine (hpc.run W r.fits r.globW (fun j b T cs hj=>?_) (fun j j' b T T' cs cs' hj hj'=>r.one j j' b T T' cs cs' (up _ _ _ _ hj) (up _ _ _ _ hj'))).mono ?_
 ·obtain ⟨h1,h2,h3,_⟩:=r.own j b T cs (up _ _ _ _ hj)
  refine ⟨h1,h3,?_⟩
  rcases h2 with h2 | h2
  ·cases hg:gH b with
   | none=>rfl
   | some c=>have:=r.glob.1.lt (b:=b) (by rw [hg];simp);omega
  ·exact (r.glob.2 b h2).1
 ·rintro e' W' ⟨v,ow,H',rfl,hΦ,hle,hf,hnw,hkp,hown,hdist⟩
  rw [hd]
  exact h v ow H' hΦ hle W0 β _ W' ((r.callW e hle hf hnw hkp hown hdist).put hn rfl rfl)
end
theorem PC.pw {P:Program} {f:FuncId} {args:Array Value} {H:Hp} {Φ:Value→Hp→Prop} (h:PC P f args H Φ):PW P f args H [] fun v ow H'=>ow=[]∧Φ v H' :=
 ⟨h.can,fun W hf hg _ _=>(h.run W hf hg).mono fun e W' ⟨v,H',he,hΦ,hle,hft,hb,hn⟩=>⟨v,[],H',he,⟨rfl,hΦ⟩,hle,hft,hn,Kept.of_below hb _,fun j b T cs hj=>by simp at hj,fun j j' b T T' cs cs' h1=>by simp at h1⟩⟩
section
variable {P:Program} {n:Nat} {ops:Array Oper} {o:Oper} {rest:List Oper} {env:Env} {bx:Bxs} {H:Hs} {Q:EQ} {d:Nat}
theorem EVL.callC {f:FuncId} {t:Nat} {args:Array Operand} {tys:Array TypeId} (ho:o.op=.call ⟨.value (.tmp t),args,tys⟩) (hw:wantB ops env o=some true) (hd:o.dst=some d) (hn:Nat.blt d n=true)
  {cs:List Value} (ht:env.op (.tmp t)=some (.v (.func (.func f) #[] cs.toArray))) {vs:List Value} (ha:argsK env args.toList some=some vs) {Φ:Value→Hp→Prop} (hpc:PC P f (vs++cs).toArray H.ro Φ)
  (h:∀ v H',Φ v H'→H.ro.Le H'→EVL P n ops rest ((d,.v v)::env) bx ⟨H',H.ow,H.base⟩ Q):EVL P n ops (o::rest) env bx H Q :=
 EVL.callWC ho hw hd hn ht ha [] H.ow rfl hpc.pw fun v ow H' ⟨e,hΦ⟩ hle=>by subst e;exact h v H' hΦ hle
end
theorem ceq (c d:UInt8) (z:Int) (hz:z=(d.toNat:Int)):((c.toNat:Int) == z)=decide (c=d):=by
 subst hz
 by_cases h:c=d
 ·rw [decide_eq_true h,h];exact beq_self_eq_true _
 ·rw [decide_eq_false h]
  refine beq_eq_false_iff_ne.2 fun e=>h (UInt8.toNat_inj.1 oM)
theorem isLet_iff {c:UInt8}:isLet c=true↔(97≤c.toNat∧c.toNat≤122)∨(65≤c.toNat∧c.toNat≤90):=by
 unfold isLet
 rw [Bool.or_eq_true,decide_eq_true_iff,decide_eq_true_iff]
theorem isLet_t {c:UInt8} (h:(97≤c.toNat∧c.toNat≤122)∨(65≤c.toNat∧c.toNat≤90)):isLet c=true:=isLet_iff.2 h
theorem isLet_f {c:UInt8} (h:¬ ((97≤c.toNat∧c.toNat≤122)∨(65≤c.toNat∧c.toNat≤90))):isLet c=false:=by rw [← Bool.not_eq_true,isLet_iff];exact h
set_option maxHeartbeats 8000000 in
theorem isName_pv (s:List UInt8) (hl:s.length≤100000000):PV prog 91 #[strV s] (.bool (isNm s)):=by
 have hsz:=sb_size s
 have no:¬ (1≤s.length∧s.length≤20∧∀ (j:Nat) (c:UInt8),s[j]?=some c→nmAt j c=true)→Value.bool false=.bool (isNm s):=fun h=>by rw [isNm_no' h]
 refine PV.of_pc ?_
 unfold strV
 refine BD func91 ntmps91 ?_
 try refine RUN ?_
 rw [hsz]
 by_cases c1:s.length<1
 ·rw [decide_eq_true (show (s.length:Int)<1 by omega)]
  try refine RUN ?_
  exact no fun k=>by have:=k.1;omega
 rw [decide_eq_false (show ¬ (s.length:Int)<1 by omega)]
 try refine RUN ?_
 rw [hsz]
 by_cases c2:s.length>20
 ·rw [decide_eq_true (show (s.length:Int)>20 by omega)]
  try refine RUN ?_
  exact no fun k=>by have:=k.2.1;omega
 rw [decide_eq_false (show ¬ (s.length:Int)>20 by omega)]
 try refine RUN ?_
 rw [hsz]
 refine EV.loopK (ι:=Nat) [0,14] [] (fun i=>[(15,.v (.int .i64 (i:Int)))]) (fun _=>[]) (fun _=>[]) (fun i _=>i≤s.length∧∀ (j:Nat) (c:UInt8),j<i→s[j]?=some c→nmAt j c=true) (fun i=>s.length-i) (0) rfl rfl ⟨rfl,trivial⟩ trivial rfl (fun _=>rfl) (⟨Nat.zero_le _,fun j c hj _=>absurd hj (Nat.not_lt_zero j)⟩) ?_
 rintro i G1 hG1 ⟨hi,hall⟩
 try refine RUN ?_
 refine EV.cond rfl (fun hlt=>?_) (fun hlt=>?_)
 case refine_2 =>
  simp only [nN] at hlt
  try refine RUN ?_
  have:isNm s=true:=(isNm_iff s).2 ⟨by omega,by omega,fun j c hc=>hall j c (by have:=(List.getElem?_eq_some_iff.1 hc).1;omega) hc⟩
  rw [this]
 simp only [nN] at hlt
 obtain ⟨c,hc⟩:∃ c,s[i]?=some c:=⟨_,List.getElem?_eq_getElem oM⟩
 have next:nmAt i c=true→∀ (j:Nat) (d:UInt8),j<i+1→s[j]?=some d→nmAt j d=true:=fun h j d hj hd=>by
  by_cases e:j=i
  ·subst e;rw [hc] at hd;cases hd;exact h
  ·exact hall j d oM hd
 have wn:IntKind.i64.wrap ((i:Int)+1)=((i+1:Nat):Int):=wi_inc i oM
 try refine RUN ?_
 refine EVL.strAt rfl rfl rfl rfl kR rfl rfl i rfl hc ?_
 try refine RUN ?_
 generalize hL:isLet c=L
 refine EVL.meetK (ι:=Unit) [0,3,4,14,15] [] (fun _=>[(21,.v (.bool L))]) (fun _=>[]) (fun _=>[]) (fun _ G=>G1.Le G) rfl rfl (fun _=>rfl) ?_ ?_
 ·by_cases d1:97≤c.toNat
  ·rw [decide_eq_true (show (c.toNat:Int)≥97 by omega)]
   try refine RUN ?_
   by_cases d2:c.toNat≤122
   ·rw [decide_eq_true (show (c.toNat:Int)≤122 by omega)]
    rw [isLet_t (by omega)] at hL
    subst hL
    try refine RUN ?_
    exact ⟨(),⟨rfl,trivial⟩,sB,trivial,sB,rfl,Hp.Le.refl _⟩
   ·rw [decide_eq_false (show ¬ (c.toNat:Int)≤122 by omega)]
    rw [isLet_f (by omega)] at hL
    subst hL
    try refine RUN ?_
    rw [decide_eq_true (show (c.toNat:Int)≥65 by omega)]
    try refine RUN ?_
    rw [decide_eq_false (show ¬ (c.toNat:Int)≤90 by omega)]
    try refine RUN ?_
    exact ⟨(),⟨rfl,trivial⟩,sB,trivial,sB,rfl,Hp.Le.refl _⟩
  ·rw [decide_eq_false (show ¬ (c.toNat:Int)≥97 by omega)]
   try refine RUN ?_
   by_cases d2:65≤c.toNat
   ·rw [decide_eq_true (show (c.toNat:Int)≥65 by omega)]
    try refine RUN ?_
    by_cases d3:c.toNat≤90
    ·rw [decide_eq_true (show (c.toNat:Int)≤90 by omega)]
     rw [isLet_t (by omega)] at hL
     subst hL
     try refine RUN ?_
     exact ⟨(),⟨rfl,trivial⟩,sB,trivial,sB,rfl,Hp.Le.refl _⟩
    ·rw [decide_eq_false (show ¬ (c.toNat:Int)≤90 by omega)]
     rw [isLet_f (by omega)] at hL
     subst hL
     try refine RUN ?_
     exact ⟨(),⟨rfl,trivial⟩,sB,trivial,sB,rfl,Hp.Le.refl _⟩
   ·rw [decide_eq_false (show ¬ (c.toNat:Int)≥65 by omega)]
    rw [isLet_f (by omega)] at hL
    subst hL
    try refine RUN ?_
    exact ⟨(),⟨rfl,trivial⟩,sB,trivial,sB,rfl,Hp.Le.refl _⟩
 rintro _ G2 hG2
 cases L with
 | true =>
  try refine RUN ?_
  exact ⟨i+1,⟨by rw [wn];rfl,trivial⟩,sB,trivial,sB,rfl,⟨by omega,next (by unfold nmAt;rw [hL];rfl)⟩,hG2,by omega⟩
 | false =>
 have bad:nmAt i c=false→Value.bool false=.bool (isNm s):=fun h=>no fun k=>by rw [k.2.2 i c hc] at h;cases h
 try refine RUN ?_
 by_cases e0:i=0
 ·rw [decide_eq_false (show ¬ (i:Int)>0 by omega)]
  try refine RUN ?_
  exact bad (by unfold nmAt;rw [hL,decide_eq_false (by omega)];rfl)
 rw [decide_eq_true (show (i:Int)>0 by omega)]
 have hD:nmAt i c=(isDg c || decide (c=95)):=by unfold nmAt;rw [hL,decide_eq_true (by omega)];rfl
 try refine RUN ?_
 by_cases d1:48≤c.toNat
 ·rw [decide_eq_true (show (c.toNat:Int)≥48 by omega)]
  try refine RUN ?_
  by_cases d2:c.toNat≤57
  ·rw [decide_eq_true (show (c.toNat:Int)≤57 by omega)]
   try refine RUN ?_
   exact ⟨i+1,⟨by rw [wn];rfl,trivial⟩,sB,trivial,sB,rfl,⟨by omega,next (by rw [hD,isDg_iff.2 ⟨d1,d2⟩];rfl)⟩,hG2,by omega⟩
  ·rw [decide_eq_false (show ¬ (c.toNat:Int)≤57 by omega)]
   have hd:isDg c=false:=by rw [← Bool.not_eq_true,isDg_iff];omega
   try refine RUN ?_
   rw [ceq c 95 95 rfl]
   by_cases d3:c=95
   ·rw [decide_eq_true d3]
    try refine RUN ?_
    exact ⟨i+1,⟨by rw [wn];rfl,trivial⟩,sB,trivial,sB,rfl,⟨by omega,next (by rw [hD,hd,decide_eq_true d3];rfl)⟩,hG2,by omega⟩
   ·rw [decide_eq_false d3]
    try refine RUN ?_
    exact bad (by rw [hD,hd,decide_eq_false d3];rfl)
 ·rw [decide_eq_false (show ¬ (c.toNat:Int)≥48 by omega)]
  have hd:isDg c=false:=by rw [← Bool.not_eq_true,isDg_iff];omega
  try refine RUN ?_
  rw [ceq c 95 95 rfl]
  by_cases d3:c=95
  ·exact absurd d3 (fun e=>by subst e;exact d1 (by decide))
  ·rw [decide_eq_false d3]
   try refine RUN ?_
   exact bad (by rw [hD,hd,decide_eq_false d3];rfl)
def posZ (w:List UInt8) (l:List (List UInt8)):Int:=match posL w l with
 | some k=>(k:Int)
 | none => -1
theorem posL_none_of {w:List UInt8} {l:List (List UInt8)} (h:∀ j,j<l.length→l[j]?≠some w):posL w l=none:=posL_none fun k=>by
 obtain ⟨j,hj⟩:=List.mem_iff_getElem?.1 k
 exact h j (List.getElem?_eq_some_iff.1 hj).1 hj
theorem posL_mem {w:List UInt8} {l:List (List UInt8)}:(posL w l).isSome=decide (w∈l):=by
 by_cases h:w∈l
 ·rw [decide_eq_true h]
  induction l with
  | nil=>cases h
  | cons x r ih =>
   unfold posL
   by_cases e:x=w
   ·rw [if_pos e];rfl
   ·rw [if_neg e,Option.isSome_map]
    exact ih ((List.mem_cons.1 h).resolve_left fun k=>e k.symm)
 ·rw [posL_none h,decide_eq_false h];rfl
theorem posZ_ge {w:List UInt8} {l:List (List UInt8)}:decide (posZ w l≥0)=decide (w∈l):=by
 have:=posL_mem (w:=w) (l:=l)
 unfold posZ
 cases h:posL w l with
 | none=>rw [h] at this;rw [← this];rfl
 | some k=>rw [h] at this;rw [← this];exact decide_eq_true (show (k:Int)≥0 by omega)
set_option maxHeartbeats 4000000 in
theorem index_pc {H:Hp} {v:Value} {l:List (List UInt8)} (hv:SL H v l) (w:List UInt8) (hl:l.length≤100000000):PC prog 138 #[v,strV w] H fun r _=>r=.int .i64 (posZ w l):=by
 obtain ⟨a,c,rfl⟩:=SlC.val hv
 unfold strV
 refine BD func138 ntmps138 ?_
 try refine RUN ?_
 refine EV.loopK (ι:=Nat) [0,1,7] [] (fun i=>[(8,.v (.int .i64 (i:Int)))]) (fun _=>[]) (fun _=>[]) (fun i _=>i≤l.length∧∀ j,j<i→l[j]?≠some w) (fun i=>l.length-i) (0) rfl rfl ⟨rfl,trivial⟩ trivial rfl (fun _=>rfl) (⟨Nat.zero_le _,fun j hj=>absurd hj (Nat.not_lt_zero j)⟩) ?_
 rintro i G1 hG1 ⟨hi,hb⟩
 try refine RUN ?_
 refine EV.cond rfl (fun hlt=>?_) (fun hlt=>?_)
 ·simp only [nN] at hlt
  obtain ⟨z,hz⟩:∃ z,l[i]?=some z:=⟨_,List.getElem?_eq_getElem hlt⟩
  try refine RUN ?_
  refine EVL.idxR tO rfl rfl rfl rfl rfl rfl rfl rfl rfl rfl ((hv.mono hG1)) (i) (rfl) (hlt) ((by rw [List.getElem?_map,hz];rfl)) ?_
  unfold strV
  try refine RUN ?_
  rw [sb_eqb]
  by_cases e:w=z
  ·rw [decide_eq_true e]
   try refine RUN ?_
   unfold posZ
   rw [posL_at (by rw [hz,e]) hb]
  ·rw [decide_eq_false e]
   try refine RUN ?_
   refine ⟨i+1,⟨by rw [wi_inc i (by omega)];rfl,trivial⟩,sB,trivial,sB,rfl,⟨hlt,fun j hj=>?_⟩,Hp.Le.refl _,by omega⟩
   by_cases q:j=i
   ·subst q;rw [hz];exact fun k=>e (Option.some.inj k).symm
   ·exact hb j oM
 ·simp only [nN] at hlt
  try refine RUN ?_
  unfold posZ
  rw [posL_none_of fun j hj=>hb j (by omega)]
theorem contains_pc {H:Hp} {v:Value} {l:List (List UInt8)} (hv:SL H v l) (w:List UInt8) (hl:l.length≤100000000):PC prog 136 #[v,strV w] H fun r _=>r=.bool (decide (w∈l)):=by
 have hi:=index_pc hv w hl
 obtain ⟨a,c,rfl⟩:=SlC.val hv
 refine BD func136 ntmps136 ?_
 try refine RUN ?_
 refine EVL.call rfl rfl rfl rfl rfl (hi) ?_
 rintro _ G1 rfl hG1
 try refine RUN ?_
 rw [posZ_ge]
set_option maxHeartbeats 4000000 in
theorem twice_pc {H:Hp} {v:Value} {l:List (List UInt8)} (hv:SL H v l) (hl:l.length≤100000000):PC prog 93 #[v] H fun r _=>r=.bool (hasTwice l):=by
 obtain ⟨a,c,rfl⟩:=SlC.val hv
 have hle:=hv.le
 refine BD func93 ntmps93 ?_
 try refine RUN ?_
 refine EV.loopK (ι:=Nat) [0,5,6] [] (fun i=>[(7,.v (.int .i64 (i:Int)))]) (fun _=>[]) (fun _=>[]) (fun i _=>i≤l.length∧(l.take i).Nodup) (fun i=>l.length-i) (0) rfl rfl ⟨rfl,trivial⟩ trivial rfl (fun _=>rfl) (⟨Nat.zero_le _,List.nodup_nil⟩) ?_
 rintro i G1 hG1 ⟨hi,hb⟩
 try refine RUN ?_
 refine EV.cond rfl (fun hlt=>?_) (fun hlt=>?_)
 ·simp only [nN] at hlt
  obtain ⟨z,hz⟩:∃ z,l[i]?=some z:=⟨_,List.getElem?_eq_getElem hlt⟩
  have htk:=take_snoc hz
  try refine RUN ?_
  refine EVL.idxR tO rfl rfl rfl rfl rfl rfl rfl rfl rfl rfl ((hv.mono hG1)) (i) (rfl) (hlt) ((by rw [List.getElem?_map,hz];rfl)) ?_
  try refine RUN ?_
  refine EVL.slc (te':=Tryz.te9) tO rfl rfl rfl rfl rfl rfl rfl rfl 0 i (.inl ⟨rfl,rfl⟩) (.inr ⟨_,IntKind.i64,rfl,rfl⟩) (Nat.zero_le _) oM hle ?_
  try refine RUN ?_
  refine EVL.call rfl rfl rfl rfl rfl (contains_pc (l:=l.take i) ((hv.mono hG1).pre i hi 1) z (by rw [List.length_take];omega)) ?_
  rintro _ G2 rfl hG2
  by_cases e:z∈l.take i
  ·rw [decide_eq_true e]
   try refine RUN ?_
   rw [twice_take (i+1) (by rw [htk,nodup_snoc];exact fun k=>k.2 e)]
  ·rw [decide_eq_false e]
   try refine RUN ?_
   exact ⟨i+1,⟨by rw [wi_inc i (by omega)];rfl,trivial⟩,sB,trivial,sB,rfl,⟨hlt,by rw [htk,nodup_snoc];exact ⟨hb,e⟩⟩,hG2,by omega⟩
 ·simp only [nN] at hlt
  obtain rfl:i=l.length:=by omega
  rw [List.take_length] at hb
  try refine RUN ?_
  unfold hasTwice
  rw [decide_eq_true hb];rfl
theorem named1_pc {H:Hp} {b:Nat} {w:List UInt8} {cs:List Value} {c:ColT} (hb:H b=some [strV w].toArray) (hc:SCol H cs c):PC prog 135 #[.agg cs.toArray,.pointer (some ⟨b,0,none⟩)] H fun r _=>r=.bool (decide (c.name=w)):=by
 obtain ⟨a,n,hs,rfl⟩:=hc
 refine BD func135 ntmps135 ?_
 refine EV.asRo 1 rfl hb ?_
 try refine RUN ?_
 rw [sb_eqb]
set_option maxHeartbeats 4000000 in
theorem colIndex_pc {H:Hp} {v:Value} {l:List ColT} {b:Nat} {w:List UInt8} (hv:ColL H v l) (hb:H b=some [strV w].toArray) (hl:l.length≤100000000):PC prog 172 #[v,.func (.func 135) #[] #[.pointer (some ⟨b,0,none⟩)]] H fun r _=>∃ z:Int,r=.int .i64 z∧decide (z≥0)=l.any fun d=>decide (d.name=w):=by
 obtain ⟨css,hcs,hsl⟩:=hv
 obtain ⟨a,c,rfl⟩:=SlC.val hsl
 refine BD func172 ntmps172 ?_
 try refine RUN ?_
 refine EV.loopK (ι:=Nat) [0,1,7] [] (fun i=>[(8,.v (.int .i64 (i:Int)))]) (fun _=>[]) (fun _=>[]) (fun i _=>i≤l.length∧((l.take i).any fun d=>decide (d.name=w))=false) (fun i=>l.length-i) (0) rfl rfl ⟨rfl,trivial⟩ trivial rfl (fun _=>rfl) (⟨Nat.zero_le _,rfl⟩) ?_
 rintro i G1 hG1 ⟨hi,hany⟩
 try refine RUN ?_
 refine EV.cond rfl (fun hlt=>?_) (fun hlt=>?_)
 ·simp only [nN] at hlt
  obtain ⟨x,hx⟩:∃ x,l[i]?=some x:=⟨_,List.getElem?_eq_getElem hlt⟩
  obtain ⟨cc,hcut,hcol⟩:=(hcs.mono SCol.ok hG1).get SCol.ok hx
  have hff:=named1_pc (hG1 _ _ hb) hcol
  obtain ⟨a1,n1,hs1,rfl⟩:=hcol
  try refine RUN ?_
  refine EVL.idxM tO rfl rfl rfl rfl rfl rfl rfl rfl rfl ((hsl.mono hG1)) (i) (rfl) (hlt) (hcut) ?_
  try refine RUN ?_
  refine EVL.callC (cs:=[.pointer (some ⟨b,0,none⟩)]) rfl rfl rfl rfl rfl rfl hff ?_
  rintro _ G2 rfl hG2
  by_cases e:x.name=w
  ·rw [decide_eq_true e]
   try refine RUN ?_
   refine ⟨_,rfl,?_⟩
   rw [decide_eq_true (by omega)]
   exact (List.any_eq_true.2 ⟨x,List.mem_of_getElem? hx,decide_eq_true e⟩).symm
  ·rw [decide_eq_false e]
   try refine RUN ?_
   exact ⟨i+1,⟨by rw [wi_inc i (by omega)];rfl,trivial⟩,sB,trivial,sB,rfl,⟨hlt,by rw [take_snoc hx,List.any_append,hany,List.any_cons,decide_eq_false e];rfl⟩,hG2,by omega⟩
 ·simp only [nN] at hlt
  obtain rfl:i=l.length:=by omega
  rw [List.take_length] at hany
  try refine RUN ?_
  exact ⟨_,rfl,by rw [hany];rfl⟩
theorem colHas_pc {H:Hp} {v:Value} {l:List ColT} {b:Nat} {w:List UInt8} (hv:ColL H v l) (hb:H b=some [strV w].toArray) (hl:l.length≤100000000):PC prog 134 #[v,.func (.func 135) #[] #[.pointer (some ⟨b,0,none⟩)]] H fun r _=>r=.bool (l.any fun d=>decide (d.name=w)):=by
 have hi:=colIndex_pc hv hb hl
 obtain ⟨a,c,rfl⟩:=hv.val
 refine BD func134 ntmps134 ?_
 try refine RUN ?_
 refine EVL.call rfl rfl rfl rfl rfl (hi) ?_
 rintro _ G1 ⟨z,rfl,hz⟩ hG1
 try refine RUN ?_
 rw [← hz]
theorem named_pc {H:Hp} {v:Value} {l:List ColT} (hv:ColL H v l) (w:List UInt8) (hl:l.length≤100000000):PC prog 92 #[v,strV w] H fun r _=>r=.bool (l.any fun d=>decide (d.name=w)):=by
 obtain ⟨a,c,rfl⟩:=hv.val
 refine BD func92 ntmps92 ?_
 try refine RUN ?_
 (first | refine EVL.unbox (3) rfl fun b=>?_ | refine EV.unbox (3) rfl fun b=>?_)
 (first | refine EVL.publish [] [] rfl fun G1 hG1 hb=>?_ | refine EV.publish [] [] rfl fun G1 hG1 hb=>?_)
 refine EVL.fn1 rfl rfl rfl rfl rfl ?_
 try refine RUN ?_
 refine EVL.call rfl rfl rfl rfl rfl (colHas_pc (hv.mono SCol.ok hG1) hb hl) ?_
 rintro _ G2 rfl hG2
 try refine RUN ?_
 rfl
section
variable {n:Nat} {ops:Array Oper} {o:Oper} {env:Env} {bx:Bxs} {H:Hs} {K:Env→Bxs→Hs→Prop} {L:Array Bool} {fuel d:Nat} {v:Value} {I:World→Prop} {z:Option Nat}
theorem IX (i:Nat) {x y:Operand} {T:TypeId} {te te':TE} {e:TypeId} {b off m cap q:Nat} {k:IntKind} {w:Int} (h:EVG I z prog n ops fuel (L.setIfInBounds i true) ((d,.v (.pointer (some ⟨b,off+q*te'.size,none⟩)))::env) bx H K) (hw':w=(q:Int)) (hq:q<m) (hi:ops[i]?=some o:=by exact rfl) (hs:Region.noSelect ops=true:=by kernel_rfl) (hf:Region.free .any ops L i=true:=by kernel_rfl) (hr:(Region.ready .any ops L).contains i=true:=by kernel_rfl) (hy:yetB .any ops L i=true:=by kernel_rfl) (hts:(z == some i)=false:=by kernel_rfl) (hw:wantB ops env o=some true:=by exact rfl) (hd:o.dst=some d:=by exact rfl) (hn:Nat.blt d n=true:=by exact rfl)
  (ho:o.op=.indexAddr T x y:=by exact rfl) (hx:env.op x=some (.v (.slice (some ⟨b,off,none⟩) m cap)):=by exact rfl) (hyy:env.op y=some (.v (.int k w)):=by exact rfl) (ht:Tryz.tab.get T=some te:=by exact rfl) (hk:te.kind=.slice e:=by exact rfl) (ht':Tryz.tab.get e=some te':=by exact rfl):EVG I z prog n ops (fuel+1) L env bx H K :=
 EVG.take (J:=fun _=>True) i (.inr ⟨fun _=>trivial,fun e=>by rw [e] at hts;simp at hts⟩) hi hs hf hr hy hw hd hn (fun β a W he _=>by
  have ex:a.eval x=_:=he x _ hx
  have ey:a.eval y=_:=he y _ hyy
  have hkd:=(tO.get ht).kind
  rw [hk] at hkd
  have hkd':Tryz.prog.underlying T=some (.slice e):=hkd
  unfold execOp
  simp [ho,ex,ey,Instr.indexAt,asIntOf,run_underlying hkd',hw',(tO.get ht').size,Addr.add_mid,hq]) h
theorem IRP (i:Nat) {H0:Hp} {x:Operand} {T:TypeId} {te:TE} {b off:Nat} {c:Array Value} {l:List Value} (h:EVG (Fits H0) z prog n ops fuel (L.setIfInBounds i true) ((d,.v v)::env) bx H K) (hc:H0 b=some c) (hl:∀ (j:Nat) (u:Value),l[j]?=some u→c[off+j]?=some u) (hlen:l.length=te.size) (hv:asVar te.agg l=some v) (hi:ops[i]?=some o:=by exact rfl) (hs:Region.noSelect ops=true:=by kernel_rfl) (hf:Region.free .any ops L i=true:=by kernel_rfl) (hr:(Region.ready .any ops L).contains i=true:=by kernel_rfl) (hy:yetB .any ops L i=true:=by kernel_rfl) (hts:zokB .any ops z i=true:=by kernel_rfl) (hw:wantB ops env o=some true:=by exact rfl) (hd:o.dst=some d:=by exact rfl) (hn:Nat.blt d n=true:=by exact rfl)
  (ho:o.op=.load T x:=by exact rfl) (hx:env.op x=some (.v (.pointer (some ⟨b,off,none⟩))):=by exact rfl) (ht:Tryz.tab.get T=some te:=by exact rfl):EVG (Fits H0) z prog n ops (fuel+1) L env bx H K :=
 EVG.take (J:=Fits H0) i (.inl ⟨hts,fun _ h=>h⟩) hi hs hf hr hy hw hd hn (fun β a W he hB=>by
  have ex:a.eval x=_:=he x _ hx
  obtain ⟨T',fz,hW⟩:=hB b c hc
  have hrg:W.rangeAt b off l:=fun j u hj=>by
   rw [cell_of_row W b (off+j) c T' fz hW]
   exact hl j u hj
  have hrun:=run_load_cells (tO.get ht) hrg hlen hv
  unfold execOp
  simp only [ho,ex,Sem.run_bind,hrun,Result.andThen_ok,Sem.run_pure]) h
end
theorem SlC.expl {H:Hp} {v:Value} {n s:Nat} {xs:List Value} (h:SlC H v n s xs) (h0:0<n):∃ b off cap c,v=.slice (some ⟨b,off,none⟩) n cap∧H b=some c∧∀ (j:Nat) (x:Value),xs[j]?=some x→c[off+j]?=some x:=by
 rcases h.2 with ⟨e,_⟩ | ⟨b,off,cap,c,e,_,h2,h3⟩
 ·omega
 ·exact ⟨b,off,cap,c,e,h2,h3⟩
theorem one_cell {c:Array Value} {q:Nat} {v:Value} (h:c[q]?=some v):∀ (j:Nat) (u:Value),[v][j]?=some u→c[q+j]?=some u:=fun j u hj=>by
 cases j with
 | zero=>cases hj;exact h
 | succ j=>cases hj
theorem PW.reads {P:Program} {f:FuncId} {args:Array Value} {H:Hp} {L:Ows} {b:Nat} {T:TypeId} {cs:List Value} {Φ:Value→Ows→Prop} (hcan:Callable P f) (h:∀ G,H.Le G→G b=some cs.toArray→PW P f args G L fun v ow _=>Φ v ow) :
  PW P f args H ((b,T,cs)::L) fun v ow _=>∃ ow',ow=(b,T,cs)::ow'∧Φ v ow':=by
 refine ⟨hcan,fun W hf hg hL hd=>?_⟩
 obtain ⟨hbox,hH,hgb⟩:=hL 0 b T cs rfl
 have hne:∀ (j b':Nat) (T':TypeId) (cs':List Value),L[j]?=some (b',T',cs')→b'≠b:=fun j b' T' cs' hj e=>by
  subst e
  have:=hd (j+1) 0 b' T' T cs' cs (by rw [List.getElem?_cons_succ];exact hj) rfl
  omega
 have hnb:b ∉ L.bs:=fun hm=>by
  obtain ⟨j,T',cs',hj⟩:=Ows.mem_bs hm
  exact hne j b T' cs' hj rfl
 have hle:H.Le (fun k=>if k=b then some cs.toArray else H k):=fun k c e=>by
  have:k≠b:=fun e'=>by subst e';rw [hH] at e;cases e
  show (if k=b then some cs.toArray else H k)=some c
  rw [if_neg this];exact e
 refine ((h (fun k=>if k=b then some cs.toArray else H k) hle (if_pos rfl)).run W (fun k c e=>?_) hg (fun j b' T' cs' hj=>?_) (fun j j' b' T1 T2 c1 c2 h1 h2=>?_)).mono ?_
 ·change (if k=b then some cs.toArray else H k)=some c at e
  by_cases hk:k=b
  ·subst hk
   rw [if_pos rfl] at e
   cases e
   exact ⟨T,(0,0),hbox⟩
  ·rw [if_neg hk] at e
   exact hf k c e
 ·obtain ⟨q1,q2,q3⟩:=hL (j+1) b' T' cs' (by rw [List.getElem?_cons_succ];exact hj)
  refine ⟨q1,?_,q3⟩
  show (if b'=b then some cs.toArray else H b')=none
  rw [if_neg (hne j b' T' cs' hj)];exact q2
 ·have:=hd (j+1) (j'+1) b' T1 T2 c1 c2 (by rw [List.getElem?_cons_succ];exact h1) (by rw [List.getElem?_cons_succ];exact h2)
  omega
 ·rintro e W' ⟨v,ow,H',rfl,hΦ,hle',hf',hnew,hk,hb',hdi⟩
  have hHb:H' b=some cs.toArray:=hle' b _ (if_pos rfl)
  have hB2:Box W' b cs.toArray T:=by
   have h2:W'.heap[b]?=W.heap[b]?:=hk.block b hbox.lt hnb
   have h1:W.heap[b]?=some (.cells cs.toArray T (0,0)):=hbox
   show W'.heap[b]?=some (.cells cs.toArray T (0,0))
   rw [h2];exact h1
  refine ⟨v,(b,T,cs)::ow,fun k=>if k=b then none else H' k,rfl,⟨ow,rfl,hΦ⟩,fun k c ek=>?_,fun k c ek=>?_,fun k c ek=>?_,⟨hk.os,hk.tape,hk.output,hk.size,fun k hlt hx=>hk.block k hlt fun hm=>hx (List.mem_cons_of_mem _ hm)⟩,fun j b' T' cs' hj=>?_,fun j j' b' T1 T2 c1 c2 h1 h2=>?_⟩
  ·have hkb:k≠b:=fun e'=>by subst e';rw [hH] at ek;cases ek
   show (if k=b then none else H' k)=some c
   rw [if_neg hkb]
   exact hle' k c (by show (if k=b then some cs.toArray else H k)=some c;rw [if_neg hkb];exact ek)
  ·change (if k=b then none else H' k)=some c at ek
   by_cases hkb:k=b
   ·rw [if_pos hkb] at ek;cases ek
   ·rw [if_neg hkb] at ek;exact hf' k c ek
  ·change (if k=b then none else H' k)=some c at ek
   by_cases hkb:k=b
   ·rw [if_pos hkb] at ek;cases ek
   ·rw [if_neg hkb] at ek
    rcases hnew k c ek with q | q
    ·change (if k=b then some cs.toArray else H k)=some c at q
     rw [if_neg hkb] at q;exact .inl q
    ·exact .inr q
  ·cases j with
   | zero =>
    cases hj
    exact ⟨hB2,.inr (List.mem_cons_self ..),if_pos rfl⟩
   | succ j =>
    rw [List.getElem?_cons_succ] at hj
    obtain ⟨q1,q2,q3⟩:=hb' j b' T' cs' hj
    refine ⟨q1,q2.imp id (fun k=>List.mem_cons_of_mem _ k),?_⟩
    show (if b'=b then none else H' b')=none
    by_cases hkb:b'=b
    ·exact if_pos hkb
    ·rw [if_neg hkb];exact q3
  ·have hno:∀ (j:Nat) (T':TypeId) (cs':List Value),ow[j]?≠some (b,T',cs'):=fun j T' cs' hj=>by
    have:=(hb' j b T' cs' hj).2.2
    rw [hHb] at this;cases this
   cases j with
   | zero =>
    cases j' with
    | zero=>rfl
    | succ j'=>cases h1;exact absurd h2 (hno j' T2 c2)
   | succ j =>
    cases j' with
    | zero=>cases h2;exact absurd h1 (hno j T1 c1)
    | succ j' =>
     have:=hdi j j' b' T1 T2 c1 c2 h1 h2
     omega
section
variable {P:Program} {n:Nat} {ops:Array Oper} {o:Oper} {rest:List Oper} {env:Env} {bx:Bxs} {sb:Bxs} {ow:Ows} {H:Hs} {Q:EQ} {τ:Tab} {d:Nat} {s:SV}
end
def ScI (s:List UInt8) (i:Nat) (st:Int) (start:Nat) (nm:List UInt8) (ws:List (List UInt8)):Prop :=
 (st=0∧start=0∧nm=[]∧ws=[]∧Sc0 s i)∨(st=1∧ws=[]∧Sc1 s i nm start)∨(st=2∧Sc2 s i nm start ws)∨(st=3∧Sc3 s i nm ws)
theorem PW.readsL {P:Program} {f:FuncId} {args:Array Value} {H:Hp} {T:TypeId} {k:Nat} {v:Value} {m:Nat} {xs:List Value} {ow:Ows} (hown:OwnL T k v m xs ow) {Φ:Value→Prop} (hcan:Callable P f) (h:∀ G,H.Le G→SlC G v m k xs→PC P f args G fun r _=>Φ r):PW P f args H ow fun r ow' _=>ow'=ow∧Φ r:=by
 rcases hown.2 with ⟨rfl,rfl,rfl⟩ | ⟨g,cap,sp,rfl,rfl,h1,h2,h3⟩
 ·exact (h H (Hp.Le.refl _) ⟨hown.1,.inl ⟨rfl,none,0,rfl⟩⟩).pw
 ·refine (PW.reads (L:=[]) (Φ:=fun r ow'=>ow'=[]∧Φ r) hcan fun G hG hb=>(h G hG ⟨hown.1,.inr ⟨g,0,cap,_,rfl,h2,hb,fun j x hj=>?_⟩⟩).pw).mono fun r ow' H' _ ⟨o,e,e2,hr⟩=>⟨by rw [e,e2],hr⟩
  simp only [Nat.zero_add,List.getElem?_toArray]
  have hl:j<xs.length:=(List.getElem?_eq_some_iff.1 hj).1
  rw [List.getElem?_append_left hl];exact hj
def ScanAns (r:Value) (ow:Ows):Option ColT→Prop
 | none=>r=.tuple #[.agg #[strV [],.int .i64 0,.slice none 0 0],.bool false]
 | some c=>∃ wv,r=.tuple #[.agg #[strV c.name,.int .i64 (c.kind:Int),wv],.bool true]∧OwnL 9 1 wv c.words.length (c.words.map strV) ow
set_option maxRecDepth 100000 in
set_option maxHeartbeats 32000000 in
theorem scanCol_pw {H:Hp} (s:List UInt8) (hl:s.length≤100000000):PW prog 90 #[strV s] H [] fun r ow _=>ScanAns r ow (scanC s):=by
 have hsz:=sb_size s
 have bad:∀ ow,scanC s=none→ScanAns (.tuple #[.agg #[strV [],.int .i64 0,.slice none 0 0],.bool false]) ow (scanC s):=fun ow e=>by rw [e];rfl
 refine PW.body tO func90 rfl kR ntmps90 rfl rfl ?_
 try refine RUN ?_
 rw [hsz]
 refine EV.loopK (ι:=Nat × Int × Nat × List UInt8 × Value × List (List UInt8) × Ows) [0,2,4,9] [2] (fun q=>[(5,.v (.int .i64 q.2.1)),(6,.v (.int .i64 (q.2.2.1:Int))),(10,.v (.int .i64 (q.1:Int)))]) (fun q=>[(4,83,[strV q.2.2.2.1,.int .i64 0,q.2.2.2.2.1])]) (fun q=>q.2.2.2.2.2.2) (fun q _=>q.1≤s.length∧ScI s q.1 q.2.1 q.2.2.1 q.2.2.2.1 q.2.2.2.2.2.1∧q.2.2.2.2.2.1.length≤q.1∧OwnL 9 1 q.2.2.2.2.1 q.2.2.2.2.2.1.length (q.2.2.2.2.2.1.map strV) q.2.2.2.2.2.2) (fun q=>s.length-q.1) ((0,0,0,[],.slice none 0 0,[],[])) rfl rfl ⟨rfl,rfl,rfl,trivial⟩ ⟨rfl,trivial⟩ rfl (fun _=>rfl) (⟨Nat.zero_le _,.inl ⟨rfl,rfl,rfl,rfl,sc0_nil s⟩,Nat.le_refl _,OwnL.nil _ _⟩) ?_
 rintro ⟨i,st,start,nm,wv,ws,ow⟩ G1 hG1 ⟨hi,hsc,hwl,hown⟩
 dsimp only at hi hsc hwl hown
 obtain ⟨wa,wc,rfl⟩:=hown.val
 try refine RUN ?_
 refine EV.cond rfl (fun hlt=>?_) (fun hlt=>?_)
 ·simp only [nN] at hlt
  obtain ⟨c,hc⟩:∃ c,s[i]?=some c:=⟨_,List.getElem?_eq_getElem oM⟩
  have wn:IntKind.i64.wrap ((i:Int)+1)=((i+1:Nat):Int):=wi_inc i oM
  rcases hsc with ⟨rfl,rfl,rfl,rfl,h0⟩ | ⟨rfl,rfl,h1⟩ | ⟨rfl,h2⟩ | ⟨rfl,h3⟩
  ·(try refine RUN ?_)
   refine EVL.strAt rfl rfl rfl rfl kR rfl rfl i rfl hc ?_
   try refine RUN ?_
   rw [ceq c 58 58 rfl]
   by_cases e:c=58
   ·subst e
    rw [decide_eq_true rfl]
    try refine RUN ?_
    refine EVL.strSlc rfl rfl rfl rfl kR rfl 0 i (.inl ⟨rfl,rfl⟩) (.inr ⟨_,IntKind.i64,rfl,rfl⟩) (Nat.zero_le _) oM ?_
    rw [sb_cut,Nat.sub_zero,List.drop_zero]
    try refine RUN ?_
    rw [wn]
    exact ⟨(i+1,1,i+1,s.take i,.slice wa 0 wc,[],ow),⟨rfl,rfl,rfl,trivial⟩,sB,⟨rfl,trivial⟩,sB,rfl,⟨by omega,.inr (.inl ⟨rfl,rfl,sc0_colon h0 hc⟩),Nat.zero_le _,hown⟩,Hp.Le.refl _,by dsimp only;omega⟩
   ·rw [decide_eq_false e]
    try refine RUN ?_
    rw [wn]
    exact ⟨(i+1,0,0,[],.slice wa 0 wc,[],ow),⟨rfl,rfl,rfl,trivial⟩,sB,⟨rfl,trivial⟩,sB,rfl,⟨by omega,.inl ⟨rfl,rfl,rfl,rfl,sc0_next h0 hc e⟩,Nat.zero_le _,hown⟩,Hp.Le.refl _,by dsimp only;omega⟩
  ·have hle:=h1.le
   try refine RUN ?_
   refine EVL.strAt rfl rfl rfl rfl kR rfl rfl i rfl hc ?_
   try refine RUN ?_
   rw [ceq c 40 40 rfl]
   by_cases e:c=40
   ·subst e
    rw [decide_eq_true rfl]
    try refine RUN ?_
    refine EVL.strSlc rfl rfl rfl rfl kR rfl start i (.inr ⟨_,IntKind.i64,rfl,rfl⟩) (.inr ⟨_,IntKind.i64,rfl,rfl⟩) hle oM ?_
    rw [sb_cut,← List.drop_take]
    try refine RUN ?_
    rw [show (⟨#[99,104,111,105,99,101]⟩:ByteArray)=sb choiceB from rfl,sb_eqb]
    by_cases e2:(s.take i).drop start=choiceB
    ·rw [decide_eq_true e2]
     try refine RUN ?_
     rw [wn]
     exact ⟨(i+1,2,i+1,nm,.slice wa 0 wc,[],ow),⟨rfl,rfl,rfl,trivial⟩,sB,⟨rfl,trivial⟩,sB,rfl,⟨by omega,.inr (.inr (.inl ⟨rfl,sc1_open h1 hc e2⟩)),Nat.zero_le _,hown⟩,Hp.Le.refl _,by dsimp only;omega⟩
    ·rw [decide_eq_false e2]
     try refine RUN ?_
     exact bad _ (sc1_bad h1 hc e2)
   ·rw [decide_eq_false e]
    try refine RUN ?_
    rw [wn]
    exact ⟨(i+1,1,start,nm,.slice wa 0 wc,[],ow),⟨rfl,rfl,rfl,trivial⟩,sB,⟨rfl,trivial⟩,sB,rfl,⟨by omega,.inr (.inl ⟨rfl,rfl,sc1_next h1 hc e⟩),Nat.zero_le _,hown⟩,Hp.Le.refl _,by dsimp only;omega⟩
  ·have hle:=h2.le
   try refine RUN ?_
   refine EVL.strAt rfl rfl rfl rfl kR rfl rfl i rfl hc ?_
   try refine RUN ?_
   rw [ceq c 124 124 rfl]
   by_cases e:c=124
   ·subst e
    rw [decide_eq_true rfl]
    try refine RUN ?_
    apply EV.drawn 7 kR kR;intro xv yw
    (repeat refine' DD ?_)
    refine' DJ.strSlc rfl rfl rfl rfl kR rfl start i (.inr ⟨_,IntKind.i64,rfl,rfl⟩) (.inr ⟨_,IntKind.i64,rfl,rfl⟩) hle oM ?_;rotate_left
    rw [sb_cut,← List.drop_take]
    (repeat refine' DD ?_)
    (refine' DJ.lit tO rfl rfl rfl rfl rfl rfl rfl rfl rfl rfl rfl rfl ?_;rotate_left)
    (refine DJ.nil (fun G2 hG2 hF2=>?_);(case hS|hS2=>rfl))
    obtain ⟨hs2,_⟩:=hF2
    refine EVL.append tO rfl rfl rfl rfl rfl rfl rfl rfl rfl rfl rfl rfl [] ow [] (List.append_nil _).symm hown (SrcAt.ro hs2 (Nat.succ_pos 0)) rfl oM ?_
    intro v1 ow1 hown1
    obtain ⟨va,vc,rfl⟩:=hown1.val
    try refine RUN ?_
    refine EVL.strAt rfl rfl rfl rfl kR rfl rfl i rfl hc ?_
    try refine RUN ?_
    rw [wn]
    exact ⟨(i+1,2,i+1,nm,.slice va (ws.length+1) vc,ws++[(s.take i).drop start],ow1),⟨rfl,rfl,rfl,trivial⟩,sB,⟨rfl,trivial⟩,sB,List.append_nil _,⟨by omega,.inr (.inr (.inl ⟨rfl,sc2_bar h2 hc⟩)),by dsimp only;rw [List.length_append,List.length_singleton];omega,by dsimp only;rw [List.map_append,List.length_append];exact hown1⟩,hG2,by dsimp only;omega⟩
   rw [decide_eq_false e]
   try refine RUN ?_
   refine EVL.strAt rfl rfl rfl rfl kR rfl rfl i rfl hc ?_
   try refine RUN ?_
   rw [ceq c 41 41 rfl]
   by_cases e2:c=41
   ·subst e2
    rw [decide_eq_true rfl]
    try refine RUN ?_
    apply EV.drawn 7 kR kR;intro xv yw
    (repeat refine' DD ?_)
    refine' DJ.strSlc rfl rfl rfl rfl kR rfl start i (.inr ⟨_,IntKind.i64,rfl,rfl⟩) (.inr ⟨_,IntKind.i64,rfl,rfl⟩) hle oM ?_;rotate_left
    rw [sb_cut,← List.drop_take]
    (repeat refine' DD ?_)
    (refine' DJ.lit tO rfl rfl rfl rfl rfl rfl rfl rfl rfl rfl rfl rfl ?_;rotate_left)
    (refine DJ.nil (fun G2 hG2 hF2=>?_);(case hS|hS2=>rfl))
    obtain ⟨hs2,_⟩:=hF2
    refine EVL.append tO rfl rfl rfl rfl rfl rfl rfl rfl rfl rfl rfl rfl [] ow [] (List.append_nil _).symm hown (SrcAt.ro hs2 (Nat.succ_pos 0)) rfl oM ?_
    intro v1 ow1 hown1
    obtain ⟨va,vc,rfl⟩:=hown1.val
    try refine RUN ?_
    refine EVL.strAt rfl rfl rfl rfl kR rfl rfl i rfl hc ?_
    try refine RUN ?_
    rw [wn]
    exact ⟨(i+1,3,i+1,nm,.slice va (ws.length+1) vc,ws++[(s.take i).drop start],ow1),⟨rfl,rfl,rfl,trivial⟩,sB,⟨rfl,trivial⟩,sB,List.append_nil _,⟨by omega,.inr (.inr (.inr ⟨rfl,sc2_close h2 hc⟩)),by dsimp only;rw [List.length_append,List.length_singleton];omega,by dsimp only;rw [List.map_append,List.length_append];exact hown1⟩,hG2,by dsimp only;omega⟩
   ·rw [decide_eq_false e2]
    try refine RUN ?_
    refine EVL.strAt rfl rfl rfl rfl kR rfl rfl i rfl hc ?_
    try refine RUN ?_
    rw [ceq c 41 41 rfl,decide_eq_false e2]
    try refine RUN ?_
    rw [wn]
    exact ⟨(i+1,2,start,nm,.slice wa ws.length wc,ws,ow),⟨rfl,rfl,rfl,trivial⟩,sB,⟨rfl,trivial⟩,sB,rfl,⟨by omega,.inr (.inr (.inl ⟨rfl,sc2_next h2 hc e e2⟩)),by dsimp only;omega,hown⟩,Hp.Le.refl _,by dsimp only;omega⟩
  ·(try refine RUN ?_)
   exact bad _ (sc3_more h3 hc)
 ·simp only [nN] at hlt
  obtain rfl:i=s.length:=by omega
  rcases hsc with ⟨rfl,rfl,rfl,rfl,h0⟩ | ⟨rfl,rfl,h1⟩ | ⟨rfl,h2⟩ | ⟨rfl,h3⟩
  ·(try refine RUN ?_)
   exact bad _ (sc0_end h0)
  ·have hle:=h1.le
   have he:=sc1_end h1
   try refine RUN ?_
   refine EVL.strSlc rfl rfl rfl rfl kR rfl start s.length (.inr ⟨_,IntKind.i64,rfl,rfl⟩) (.inl ⟨rfl,hsz.symm⟩) hle oM ?_
   rw [sb_cut,← List.drop_take,List.take_length]
   try refine RUN ?_
   rw [show (⟨#[110,117,109,98,101,114]⟩:ByteArray)=sb numberB from rfl,sb_eqb]
   by_cases e:s.drop start=numberB
   ·rw [decide_eq_true e]
    rw [if_pos e] at he
    try refine RUN ?_
    rw [he]
    exact ⟨_,rfl,hown⟩
   ·rw [decide_eq_false e]
    rw [if_neg e] at he
    try refine RUN ?_
    exact bad _ he
  ·(try refine RUN ?_)
   exact bad _ (sc2_end h2)
  ·have he:=sc3_end h3
   try refine RUN ?_
   rw [he]
   exact ⟨_,rfl,hown⟩
def ColAns (r:Value) (ow:Ows):Except Nat ColT→Prop
 | .error e=>r=.tuple #[.agg #[strV [],.int .i64 0,.slice none 0 0],.int .i64 (e:Int)]∧e≠0
 | .ok c=>∃ wv,r=.tuple #[.agg #[strV c.name,.int .i64 (c.kind:Int),wv],.int .i64 0]∧OwnL 9 1 wv c.words.length (c.words.map strV) ow
set_option maxRecDepth 100000 in
set_option maxHeartbeats 16000000 in
theorem parseCol_pw {H:Hp} {v:Value} {l:List ColT} (hv:ColL H v l) (s:List UInt8) (hll:l.length≤100000000) (hl:s.length≤1000000):PW prog 42 #[v,strV s] H [] fun r ow _=>ColAns r ow (pCol l s):=by
 have hS:=fun G:Hp=>scanCol_pw (H:=G) s oM
 have bad:∀ (ow:Ows) (e:Nat),e≠0→pCol l s=.error e→ColAns (.tuple #[.agg #[strV [],.int .i64 0,.slice none 0 0],.int .i64 (e:Int)]) ow (pCol l s):=fun ow e h0 h=>by rw [h];exact ⟨rfl,h0⟩
 have hsc:pCol l s=match scanC s with
  | none=>.error 2
  | some c=>if !(isNm c.name && c.words.all isNm) then .error 2
   else if 20≤l.length∨12<c.words.length then .error 4
   else if (l.any fun d=>decide (d.name=c.name)) || hasTwice c.words then .error 8
   else .ok c:=rfl
 obtain ⟨va,vc,rfl⟩:=hv.val
 refine PW.body tO func42 rfl kR ntmps42 rfl rfl ?_
 try refine RUN ?_
 refine EVL.callW rfl rfl rfl rfl rfl ([]) ([]) rfl (hS _) ?_
 rintro r ow G1 hc hG1
 cases hs:scanC s with
 | none =>
  rw [hs] at hsc
  rw [hs] at hc
  obtain rfl:=hc
  try refine RUN ?_
  exact bad _ 2 (by decide) hsc
 | some c =>
 rw [hs] at hsc
 rw [hs] at hc
 replace hsc:pCol l s=if !(isNm c.name && c.words.all isNm) then .error 2
   else if 20≤l.length∨12<c.words.length then .error 4
   else if (l.any fun d=>decide (d.name=c.name)) || hasTwice c.words then .error 8
   else .ok c:=hsc
 obtain ⟨k1,k2,k3⟩:=scanC_len hs
 obtain ⟨wv,rfl,hown⟩:=hc
 obtain ⟨a,n,rfl⟩:=hown.val
 have hn:=isName_pv c.name oM
 try refine RUN ?_
 cases hnm:isNm c.name with
 | false =>
  rw [hnm] at hn
  rw [hnm] at hsc
  repeat (first | refine RUN ?_ | refine CV (hn) ?_ | refine CE (hn) ?_)
  exact bad _ 2 (by decide) hsc
 | true =>
 rw [hnm] at hn
 rw [hnm,Bool.true_and] at hsc
 repeat (first | refine RUN ?_ | refine CV (hn) ?_ | refine CE (hn) ?_)
 refine EV.loopK (ι:=Nat) [0,4,6,25,26] [4,6] (fun i=>[(27,.v (.int .i64 (i:Int)))]) (fun _=>[]) (fun _=>ow++[]) (fun i _=>i≤c.words.length∧(c.words.take i).all isNm=true) (fun i=>c.words.length-i) (0) rfl rfl ⟨rfl,trivial⟩ trivial rfl (fun _=>rfl) (⟨Nat.zero_le _,rfl⟩) ?_
 rintro i G2 hG2 ⟨hi,hall⟩
 try refine RUN ?_
 refine EV.cond rfl (fun hlt=>?_) (fun hlt=>?_)
 ·simp only [nN] at hlt
  obtain ⟨z,hz⟩:∃ z,c.words[i]?=some z:=⟨_,List.getElem?_eq_getElem hlt⟩
  have hzn:=isName_pv z (by have:=k3 z (List.mem_of_getElem? hz);omega)
  obtain ⟨g,cap,sp,e1,rfl,q1,q2,q3⟩:=hown.block oM
  cases e1
  try refine RUN ?_
  refine EVL.idxB tO rfl rfl rfl rfl rfl rfl rfl rfl rfl (i) (i*1) (rfl) (hlt) (rfl) ?_
  rw [Nat.mul_one]
  try refine RUN ?_
  refine EVL.load1 tO rfl rfl rfl rfl rfl rfl rfl rfl (0) rfl ((by rw [List.getElem?_append_left (by rw [List.length_map];exact hlt),List.getElem?_map,hz];rfl)) ?_
  cases hzt:isNm z with
  | false =>
   rw [hzt] at hzn
   repeat (first | refine RUN ?_ | refine CV (hzn) ?_ | refine CE (hzn) ?_)
   have:c.words.all isNm=false:=by
    rw [← Bool.not_eq_true]
    intro k
    rw [List.all_eq_true.1 k z (List.mem_of_getElem? hz)] at hzt
    cases hzt
   rw [this] at hsc
   exact bad _ 2 (by decide) hsc
  | true =>
   rw [hzt] at hzn
   repeat (first | refine RUN ?_ | refine CV (hzn) ?_ | refine CE (hzn) ?_)
   exact ⟨i+1,⟨by rw [wi_inc i (by omega)];rfl,trivial⟩,sB,trivial,sB,rfl,⟨hlt,by rw [take_snoc hz,List.all_append,hall,List.all_cons,hzt];rfl⟩,Hp.Le.refl _,by omega⟩
 ·simp only [nN] at hlt
  obtain rfl:i=c.words.length:=by omega
  rw [List.take_length] at hall
  rw [hall,if_neg (by decide)] at hsc
  try refine RUN ?_
  by_cases c20:20≤l.length
  ·rw [decide_eq_true (show (l.length:Int)≥20 by omega)]
   rw [if_pos (show (20≤l.length∨12<c.words.length) from .inl c20)] at hsc
   try refine RUN ?_
   exact bad _ 4 (by decide) hsc
  rw [decide_eq_false (show ¬ (l.length:Int)≥20 by omega)]
  try refine RUN ?_
  by_cases c12:12<c.words.length
  ·rw [decide_eq_true (show (c.words.length:Int)>12 by omega)]
   rw [if_pos (show (20≤l.length∨12<c.words.length) from .inr c12)] at hsc
   try refine RUN ?_
   exact bad _ 4 (by decide) hsc
  rw [decide_eq_false (show ¬ (c.words.length:Int)>12 by omega)]
  rw [if_neg (show ¬ (20≤l.length∨12<c.words.length) from fun k=>k.elim c20 c12)] at hsc
  try refine RUN ?_
  refine EVL.call rfl rfl rfl rfl rfl (named_pc (hv.mono SCol.ok (hG1.trans hG2)) c.name hll) ?_
  rintro _ G3 rfl hG3
  cases hany:(l.any fun d=>decide (d.name=c.name)) with
  | true =>
   rw [hany] at hsc
   try refine RUN ?_
   exact bad _ 8 (by decide) hsc
  | false =>
   rw [hany,Bool.false_or] at hsc
   have htw:=PW.readsL (H:=G3) hown (cO func93) fun G hG hw=>twice_pc (l:=c.words) hw oM
   try refine RUN ?_
   refine EVL.callW rfl rfl rfl rfl rfl (ow) ([]) rfl (htw) ?_
   rintro _ ow4 G4 ⟨rfl,rfl⟩ hG4
   cases ht:hasTwice c.words with
   | true =>
    rw [ht] at hsc
    try refine RUN ?_
    exact bad _ 8 (by decide) hsc
   | false =>
    rw [ht] at hsc
    try refine RUN ?_
    rw [hsc]
    refine ⟨_,rfl,?_⟩
    rw [List.append_nil]
    exact hown
theorem ten_bl {e:Nat} (h:e≤200):bl (10 ^ e)≤801 :=
 Nat.le_trans (bl_le (k:=4*e+1) (Nat.lt_of_le_of_lt (ten_16 e) (Nat.pow_lt_pow_right oM oM))) oM
theorem bitsLenN_pv (n:Nat) (h:n<W64):PV prog 223 #[.int .u64 (n:Int)] (.int .i64 (bl n:Int)) :=
 ⟨(cO func223),fun W _=>(Tryz.bits_Len (n:Int) W oM (by rw [W64_val] at h;omega)).mono fun e W' ⟨h1,h2⟩=>⟨by rw [h1,← bl_bitLen n h];rfl,by rw [h2];exact Below.refl _ _⟩⟩
theorem and_one (x:Nat) (h:x<256):IntKind.i64.wrap (((BitVec.ofInt IntKind.i64.bits (x:Int) &&& BitVec.ofInt IntKind.i64.bits 1).toNat:Nat):Int)=((x % 2:Nat):Int):=by
 have:∀ y:Fin 256,IntKind.i64.wrap (((BitVec.ofInt IntKind.i64.bits ((y.val:Nat):Int) &&& BitVec.ofInt IntKind.i64.bits 1).toNat:Nat):Int)=((y.val % 2:Nat):Int):=by decide +kernel
 exact this ⟨x,h⟩
theorem fdiv_two (k r:Nat):((k:Int)).fdiv (2 ^ r)=((k / 2 ^ r:Nat):Int):=by
 rw [Int.fdiv_eq_ediv_of_nonneg _ (by exact_mod_cast Nat.zero_le _)]
 norm_cast
theorem half_step (k r:Nat):k / 2 ^ r=2*(k / 2 ^ (r+1))+(k / 2 ^ r) % 2:=by
 have h:k / 2 ^ (r+1)=k / 2 ^ r / 2:=by rw [Nat.pow_succ,Nat.div_div_eq_div_mul]
 rw [h]
 generalize k / 2 ^ r=a
 omega
set_option maxHeartbeats 4000000 in
theorem pow10_pv (k:Nat) (hk:k≤200):PV prog 204 #[natV 10,.int .i64 (k:Int)] (.tuple #[natV (10 ^ k),.bool true]):=by
 have hlen:=bitsLenN_pv k (by rw [W64_val];omega)
 have hb8:bl k≤8:=bl_le oM
 have hlt:=lt_bl k
 have hmul:∀ a b:Nat,a≤200→b≤200→PV prog 34 #[natV (10 ^ a),natV (10 ^ b)] (natV (10 ^ (a+b))):=fun a b ha hb=>by
  rw [Nat.pow_add]
  exact natMul_pv _ _ (Nat.le_trans (ten_bl ha) oM) (Nat.le_trans (ten_bl hb) oM)
 refine PV.of_pc ?_
 refine BD func204 ntmps204 ?_
 try refine RUN ?_
 rw [decide_eq_false (show ¬ (k:Int)<0 by omega)]
 try refine RUN ?_
 rw [decide_eq_false (show ¬ (k:Int)>65536 by omega)]
 repeat (first | refine RUN ?_ | refine CV (natOf_pv 1 (by decide)) ?_ | refine CE (natOf_pv 1 (by decide)) ?_)
 rw [show IntKind.u64.wrap (k:Int)=(k:Int) by rw [IntKind.wrap_u64];omega]
 repeat (first | refine RUN ?_ | refine CV (hlen) ?_ | refine CE (hlen) ?_)
 rw [show IntKind.i64.wrap ((bl k:Int)-1)=(bl k:Int)-1 by rw [IntKind.wrap_i64];omega]
 refine EV.loopK (ι:=Nat) [0,1,2,4,6] [2,4] (fun r=>[(7,.v (.int .i64 ((r:Int)-1)))]) (fun r=>[(6,75,[.int .u64 (lo (10 ^ (k / 2 ^ r)):Int),.string (moreB (10 ^ (k / 2 ^ r)))])]) (fun _=>[]) (fun r _=>r≤8) (fun r=>r) (bl k) rfl rfl ⟨rfl,trivial⟩ ⟨by rw [Nat.div_eq_of_lt hlt];rfl,trivial⟩ rfl (fun _=>rfl) (hb8) ?_
 rintro r G1 hG1 hr
 try refine RUN ?_
 cases r with
 | zero =>
  rw [show decide ((((0:Nat):Int))-1≥0)=false from rfl]
  try refine RUN ?_
  rw [Nat.pow_zero,Nat.div_one]
 | succ r =>
  have e1:(((r+1:Nat):Int))-1=(r:Int):=by omega
  have hq:k / 2 ^ (r+1)≤100:=by
   have h2:2≤2 ^ (r+1):=by rw [Nat.pow_succ];have:=Nat.one_le_two_pow (n:=r);omega
   have:=Nat.div_le_div_left (a:=k) h2 oM
   omega
  have hx:k / 2 ^ r≤200:=Nat.le_trans (Nat.div_le_self _ _) hk
  have hs:=half_step k r
  have hm1:=hmul (k / 2 ^ (r+1)) (k / 2 ^ (r+1)) oM oM
  have hm2:=hmul (k / 2 ^ (r+1)+k / 2 ^ (r+1)) 1 oM oM
  have hand:=and_one (k / 2 ^ r) oM
  have hf:=fdiv_two k r
  have hw:IntKind.i64.wrap ((r:Int)-1)=(r:Int)-1:=by rw [IntKind.wrap_i64];omega
  rw [e1]
  rw [decide_eq_true (show (r:Int)≥0 by omega)]
  repeat (first | refine RUN ?_ | refine CV (hm1) ?_ | refine CE (hm1) ?_)
  rw [Nat.min_eq_left (show r≤IntKind.i64.bits by show r≤64;omega),hf,hand]
  have hdone:∀ t,k / 2 ^ r=t→10 ^ (k / 2 ^ r)=10 ^ t:=fun t h=>by rw [h]
  generalize hX:k / 2 ^ r=X at *
  generalize hY:k / 2 ^ (r+1)=Y at *
  by_cases hodd:X % 2=1
  ·rw [show (((X % 2:Nat):Int) == 1)=true from beq_iff_eq.2 (by omega)]
   repeat (first | refine RUN ?_ | refine CV (hm2) ?_ | refine CE (hm2) ?_)
   refine ⟨r,⟨by rw [hw];rfl,trivial⟩,sB,⟨by rw [hX,show X=Y+Y+1 by omega];rfl,trivial⟩,sB,rfl,by omega,Hp.Le.refl _,by omega⟩
  ·rw [show (((X % 2:Nat):Int) == 1)=false from beq_eq_false_iff_ne.2 (by omega)]
   try refine RUN ?_
   refine ⟨r,⟨by rw [hw];rfl,trivial⟩,sB,⟨by rw [hX,show X=Y+Y by omega];rfl,trivial⟩,sB,rfl,by omega,Hp.Le.refl _,by omega⟩
theorem trim_facts:∀ t:List UInt8,t.all isDg=true→valD (Lib.trimLeftB t 48)=valD t∧(Lib.trimLeftB t 48).all isDg=true∧(Lib.trimLeftB t 48).length≤t.length∧(Lib.trimLeftB t 48).head?≠some 48
 | [],_=>⟨rfl,rfl,Nat.le_refl _,by simp [Lib.trimLeftB]⟩
 | c::t,h=>by
  rw [List.all_cons,Bool.and_eq_true] at h
  by_cases e:c=48
  ·subst e
   obtain ⟨a,b,c,d⟩:=trim_facts t h.2
   have e1:Lib.trimLeftB (48::t) 48=Lib.trimLeftB t 48:=by unfold Lib.trimLeftB;rw [List.dropWhile_cons,if_pos (by simp)]
   have e2:valD (48::t)=valD t:=by
    unfold valD
    rw [List.foldl_cons,show 0*10+dV 48=0 by decide]
   rw [e1,e2]
   exact ⟨a,b,by rw [List.length_cons];omega,d⟩
  ·have e1:Lib.trimLeftB (c::t) 48=c::t:=by unfold Lib.trimLeftB;rw [List.dropWhile_cons,if_neg (by simpa using e)]
   rw [e1]
   exact ⟨rfl,by rw [List.all_cons,h.1,h.2];rfl,Nat.le_refl _,fun k=>e (Option.some.inj k)⟩
theorem trim_pN {t:List UInt8} (h:okD t) (hne:Lib.trimLeftB t 48≠[]):pN (Lib.trimLeftB t 48)=some (valD t):=by
 obtain ⟨a,b,c,d⟩:=trim_facts t h.2.2
 have h0:1≤(Lib.trimLeftB t 48).length:=by
  rcases e:Lib.trimLeftB t 48 with _ | ⟨x,m⟩
  ·exact absurd e hne
  ·simp
 have h2:=h.2.1
 unfold pN
 rw [if_pos ⟨h0,by omega,fun k=>d k.2,b⟩,a]
theorem pI_bl {l:List UInt8} {z:Int} (h:pI l=some z):bl z.natAbs≤800:=by
 unfold pI at h
 split at h
 ·cases hp:pN l.tail with
  | none=>rw [hp] at h;cases h
  | some n =>
   have hb:=pN_bl hp
   rw [hp] at h
   have h':(if n=0 then none else some (-(n:Int)))=some z:=h
   by_cases h0:n=0
   ·rw [if_pos h0] at h'
    cases h'
   ·rw [if_neg h0] at h'
    cases h'
    rw [show (-(n:Int)).natAbs=n by omega]
    exact hb
 ·cases hp:pN l with
  | none=>rw [hp] at h;cases h
  | some n =>
   have hb:=pN_bl hp
   rw [hp] at h
   cases h
   exact hb
set_option maxHeartbeats 4000000 in
theorem parseOver_pc {H:Hp} (s t:List UInt8):PC prog 174 #[.string (sb s),.string (sb t)] H fun r _=>r=.tuple #[fracV ((pOver s t).getD 0),.bool (pOver s t).isSome]:=by
 have hI:=fun G:Hp=>wholeParse_pc (H:=G) s
 have hN:=fun G:Hp=>natParse_pc (H:=G) t
 have bad:pOver s t=none→Value.tuple #[Value.agg #[.bool false,.int .u64 0,.string ⟨#[]⟩,.int .u64 0,.string ⟨#[]⟩],.bool false]=.tuple #[fracV ((pOver s t).getD 0),.bool (pOver s t).isSome]:=fun e=>by rw [e,← fracV_z];rfl
 refine BD func174 ntmps174 ?_
 try refine RUN ?_
 refine EVL.call rfl rfl rfl rfl rfl (hI _) ?_
 rintro _ G1 rfl hG1
 cases hz:pI s with
 | none =>
  try refine RUN ?_
  exact bad (by unfold pOver;rw [hz])
 | some z =>
  have bz:=pI_bl hz
  try refine RUN ?_
  refine EVL.call rfl rfl rfl rfl rfl (hN _) ?_
  rintro _ G2 rfl hG2
  cases hd:pN t with
  | none =>
   try refine RUN ?_
   exact bad (by unfold pOver;rw [hz,hd])
  | some n =>
   have bn:=pN_bl hd
   have hfr:=from_pv false n oM
   have ho:pOver s t=if n=0 then none else some (mkRat z n):=by unfold pOver;rw [hz,hd]
   try refine RUN ?_
   by_cases h0:n=0
   ·subst h0
    (apply EV.drawn 6 kR kR;intro xv yw;(repeat (first | refine' DD ?_ | (refine' DC (hfr) (h:=?_);rotate_left) | (refine' DC (make0_pv z) (h:=?_);rotate_left)));refine DJ.nil (fun G hG hF=>?_);(case hS|hS2=>rfl))
    try refine RUN ?_
    rw [ho,if_pos rfl]
    rfl
   ·have hm:=make_pv z (n:Int) (by show bl _≤_;omega) (by show bl n≤_;omega) oM
    rw [if_neg (show ¬ (n:Int)<0 by omega),show ((n:Int)).natAbs=n from rfl] at hm
    (apply EV.drawn 6 kR kR;intro xv yw;(repeat (first | refine' DD ?_ | (refine' DC (hfr) (h:=?_);rotate_left) | (refine' DC (hm) (h:=?_);rotate_left)));refine DJ.nil (fun G hG hF=>?_);(case hS|hS2=>rfl))
    try refine RUN ?_
    rw [ho,if_neg h0]
    rfl
theorem okD_any {t:List UInt8} (h1:t≠[]) (h2:t.length≤200) (h3:t.all isDg=true):okD t:=⟨by
 rcases t with _ | ⟨x,m⟩
 ·exact absurd rfl h1
 ·simp,h2,h3⟩
set_option maxHeartbeats 16000000 in
theorem parseDec_pc {H:Hp} (s t:List UInt8):PC prog 175 #[.string (sb s),.string (sb t)] H fun r _=>r=.tuple #[fracV ((pDec s t).getD 0),.bool (pDec s t).isSome]:=by
 have hcp:=cutPrefix_pv s
 have hN:=fun G:Hp=>natParse_pc (H:=G) (unMinus s)
 have bad:pDec s t=none→Value.tuple #[Value.agg #[.bool false,.int .u64 0,.string ⟨#[]⟩,.int .u64 0,.string ⟨#[]⟩],.bool false]=.tuple #[fracV ((pDec s t).getD 0),.bool (pDec s t).isSome]:=fun e=>by rw [e,← fracV_z];rfl
 have hsz:=sb_size t
 have hbad:¬ okD t→pDec s t=none:=fun k=>by
  unfold pDec
  generalize pN _=o
  cases o with
  | none=>rfl
  | some n=>show (if okD t then _ else _)=none;rw [if_neg k]
 refine BD func175 ntmps175 ?_
 repeat (first | refine RUN ?_ | refine CV (hcp) ?_ | refine CE (hcp) ?_)
 refine EVL.call rfl rfl rfl rfl rfl (hN _) ?_
 rintro _ G1 rfl hG1
 cases hp:pN (unMinus s) with
 | none =>
  try refine RUN ?_
  exact bad (by
   unfold pDec
   rw [show pN (if s.head?=some 45 then s.tail else s)=none from hp])
 | some n =>
 have bn:=pN_bl hp
 have hdec:okD t→pDec s t=some (mkRat (signZ (s.head?=some 45) (n*10 ^ t.length+valD t)) (10 ^ t.length)):=fun k=>by
  unfold pDec
  rw [show pN (if s.head?=some 45 then s.tail else s)=some n from hp]
  show (if okD t then _ else _)=_
  rw [if_pos k]
 try refine RUN ?_
 have hnil:(⟨#[]⟩:ByteArray).toList=([]:List UInt8):=sb_list []
 rw [sb_list,hnil]
 by_cases ht:t=[]
 ·subst ht
  try refine RUN ?_
  exact bad (hbad fun k=>by have:=k.1;simp at this)
 rw [show (t == ([]:List UInt8))=false from beq_eq_false_iff_ne.2 ht]
 try refine RUN ?_
 rw [hsz]
 by_cases hlen:t.length>200
 ·rw [decide_eq_true (show (t.length:Int)>200 by omega)]
  try refine RUN ?_
  exact bad (hbad fun k=>by have:=k.2.1;omega)
 rw [decide_eq_false (show ¬ (t.length:Int)>200 by omega)]
 try refine RUN ?_
 rw [hsz]
 refine EV.loopK (ι:=Nat) [0,1,4,7,8,38] [4,8] (fun i=>[(39,.v (.int .i64 (i:Int)))]) (fun _=>[]) (fun _=>[]) (fun i _=>i≤t.length∧(t.take i).all isDg=true) (fun i=>t.length-i) (0) rfl rfl ⟨rfl,trivial⟩ trivial rfl (fun _=>rfl) (⟨Nat.zero_le _,rfl⟩) ?_
 rintro i G2 hG2 ⟨hi,hall⟩
 try refine RUN ?_
 refine EV.cond rfl (fun hlt=>?_) (fun hlt=>?_)
 ·simp only [nN] at hlt
  obtain ⟨c,hc⟩:∃ c,t[i]?=some c:=⟨_,List.getElem?_eq_getElem oM⟩
  have hnone:isDg c=false→pDec s t=none:=fun k=>hbad (okD_bad (List.mem_of_getElem? hc) k)
  have htk:=take_snoc hc
  try refine RUN ?_
  refine EVL.strAt rfl rfl rfl rfl kR rfl rfl i rfl hc ?_
  try refine RUN ?_
  by_cases d1:c.toNat<48
  ·rw [decide_eq_true (show (c.toNat:Int)<48 by omega)]
   try refine RUN ?_
   refine bad (hnone ?_)
   rw [← Bool.not_eq_true,isDg_iff]
   omega
  rw [decide_eq_false (show ¬ (c.toNat:Int)<48 by omega)]
  try refine RUN ?_
  refine EVL.strAt rfl rfl rfl rfl kR rfl rfl i rfl hc ?_
  try refine RUN ?_
  by_cases d2:c.toNat>57
  ·rw [decide_eq_true (show (c.toNat:Int)>57 by omega)]
   try refine RUN ?_
   refine bad (hnone ?_)
   rw [← Bool.not_eq_true,isDg_iff]
   omega
  rw [decide_eq_false (show ¬ (c.toNat:Int)>57 by omega)]
  have hdg:isDg c=true:=isDg_iff.2 ⟨by omega,by omega⟩
  try refine RUN ?_
  exact ⟨i+1,⟨by rw [wi_inc i (by omega)];rfl,trivial⟩,sB,trivial,sB,rfl,⟨by omega,by rw [htk,List.all_append,hall,List.all_cons,hdg];rfl⟩,Hp.Le.refl _,by omega⟩
 ·simp only [nN] at hlt
  obtain rfl:i=t.length:=by omega
  rw [List.take_length] at hall
  have hok:okD t:=okD_any ht oM hall
  have hpow:=pow10_pv t.length oM
  have htr:=trimL_pv t 48 (by decide)
  have b10:=ten_bl (e:=t.length) oM
  have h10:10 ^ t.length≠0:=Nat.ne_of_gt (Nat.pow_pos oM)
  have hm:=natMul_pv n (10 ^ t.length) (by show bl n≤_;omega) (by show bl _≤_;omega)
  have bm:bl (n*10 ^ t.length)≤1700:=Nat.le_trans (bl_mul _ _) oM
  have bv:bl (valD t)≤800:=valD_bl hall oM
  have ha:=natAdd_pv (n*10 ^ t.length) (valD t) (by show bl _≤_;omega) (by show bl _≤_;omega)
  have bs:bl (n*10 ^ t.length+valD t)≤1701:=Nat.le_trans (bl_add _ _) oM
  have hf:=from_pv (decide (s.head?=some 45)) (n*10 ^ t.length+valD t) oM
  have hl:=lowest_pv (sg (decide (s.head?=some 45)) (n*10 ^ t.length+valD t)) (10 ^ t.length) (by show bl _≤_;rw [sg_natAbs];omega) (by show bl _≤_;omega) h10
  have hsgn:sg (decide (s.head?=some 45)) (n*10 ^ t.length+valD t)=signZ (s.head?=some 45) (n*10 ^ t.length+valD t):=by
   unfold sg signZ
   by_cases k:s.head?=some 45
   ·rw [if_pos k,if_pos (decide_eq_true k)]
   ·rw [if_neg k,if_neg (by rw [decide_eq_false k];decide)]
  have hr:=hdec hok
  rw [← hsgn] at hr
  generalize sg (decide (s.head?=some 45)) (n*10 ^ t.length+valD t)=Z at *
  generalize hS:n*10 ^ t.length+valD t=S at *
  generalize hM:n*10 ^ t.length=M at *
  generalize hT:10 ^ t.length=T at *
  rw [hr]
  repeat (first | refine RUN ?_ | refine CV (natOf_pv 10 (by decide)) ?_ | refine CE (natOf_pv 10 (by decide)) ?_)
  rw [hsz]
  repeat (first | refine RUN ?_ | refine CV (hpow) ?_ | refine CV (htr) ?_ | refine CE (hpow) ?_ | refine CE (htr) ?_)
  refine EV.meetK (ι:=Unit) [4,7,8,11,13] [4,8,11] (fun _=>[]) (fun _=>[(13,75,[.int .u64 (lo (valD t):Int),.string (moreB (valD t))])]) (fun _=>[]) (fun _ G=>G2.Le G) rfl rfl (fun _=>rfl) ?_ ?_
  ·rw [sb_list,hnil]
   by_cases hne:Lib.trimLeftB t 48=[]
   ·have h0:valD t=0:=by rw [← (trim_facts t hall).1,hne];rfl
    have hz:natV 0=.agg #[.int .u64 0,.string ⟨#[]⟩]:=natV_small (by decide)
    rw [hne]
    try refine RUN ?_
    refine ⟨(),trivial,sB,⟨?_,trivial⟩,sB,rfl,Hp.Le.refl _⟩
    rw [h0]
    injection hz with hz
    injection hz with hz
    exact congrArg some (Prod.ext rfl hz.symm)
   ·have hpn:=trim_pN hok hne
    have hN2:=fun G:Hp=>natParse_pc (H:=G) (Lib.trimLeftB t 48)
    rw [hpn] at hN2
    rw [show (Lib.trimLeftB t 48 == ([]:List UInt8))=false from beq_eq_false_iff_ne.2 hne]
    try refine RUN ?_
    refine EVL.call rfl rfl rfl rfl rfl (hN2 _) ?_
    rintro _ G3 rfl hG3
    try refine RUN ?_
    exact ⟨(),trivial,sB,⟨rfl,trivial⟩,sB,rfl,hG3⟩
  rintro _ G3 hG3
  try refine RUN ?_
  (apply EV.drawn 9 kR kR;intro xv yw;(repeat (first | refine' DD ?_ | (refine' DC (hm) (h:=?_);rotate_left) | (refine' DC (ha) (h:=?_);rotate_left) | (refine' DC (hf) (h:=?_);rotate_left) | (refine' DC (hl) (h:=?_);rotate_left)));refine DJ.nil (fun G hG hF=>?_);(case hS|hS2=>rfl))
  try refine RUN ?_
  rfl
set_option maxHeartbeats 4000000 in
theorem fracParse_pc {H:Hp} (l:List UInt8) (hl:l.length≤9223372036854775807):PC prog 137 #[.string (sb l)] H fun r _=>r=.tuple #[fracV ((pQ l).getD 0),.bool (pQ l).isSome]:=by
 have c1:=cut_pv l 47 hl
 have c2:=cut_pv l 46 hl
 have hO:=fun G:Hp=>parseOver_pc (H:=G) (bef 47 l) (aft 47 l)
 have hD:=fun G:Hp=>parseDec_pc (H:=G) (bef 46 l) (aft 46 l)
 have hI:=fun G:Hp=>wholeParse_pc (H:=G) l
 have hq:pQ l=if l.contains 47 then pOver (bef 47 l) (aft 47 l) else if l.contains 46 then pDec (bef 46 l) (aft 46 l) else Option.map (fun z:Int=>(z:Rat)) (pI l):=rfl
 refine BD func137 ntmps137 ?_
 cases h1:l.contains 47 with
 | true =>
  rw [h1] at c1 hq
  rw [if_pos rfl] at hq
  rw [hq]
  repeat (first | refine RUN ?_ | refine CV (c1) ?_ | refine CE (c1) ?_)
  refine EVL.call rfl rfl rfl rfl rfl (hO _) ?_
  rintro _ G1 rfl hG1
  try refine RUN ?_
  rfl
 | false =>
 rw [h1] at c1 hq
 rw [if_neg (by decide)] at hq
 repeat (first | refine RUN ?_ | refine CV (c1) ?_ | refine CE (c1) ?_)
 cases h2:l.contains 46 with
 | true =>
  rw [h2] at c2 hq
  rw [if_pos rfl] at hq
  rw [hq]
  repeat (first | refine RUN ?_ | refine CV (c2) ?_ | refine CE (c2) ?_)
  refine EVL.call rfl rfl rfl rfl rfl (hD _) ?_
  rintro _ G1 rfl hG1
  try refine RUN ?_
  rfl
 | false =>
 rw [h2] at c2 hq
 rw [if_neg (by decide)] at hq
 rw [hq]
 repeat (first | refine RUN ?_ | refine CV (c2) ?_ | refine CE (c2) ?_)
 refine EVL.call rfl rfl rfl rfl rfl (hI _) ?_
 rintro _ G1 rfl hG1
 try refine RUN ?_
 cases hz:pI l with
 | none =>
  show Value.tuple #[.agg #[.bool (decide ((0:Int)<0)),.int .u64 (lo (0:Int).natAbs:Int),.string (moreB (0:Int).natAbs),.int .u64 0,.string ⟨#[]⟩],.bool false]=.tuple #[frV 0 0,.bool false]
  rw [frV_zero]
 | some z =>
  show Value.tuple #[.agg #[.bool (decide (z<0)),.int .u64 (lo z.natAbs:Int),.string (moreB z.natAbs),.int .u64 0,.string ⟨#[]⟩],.bool true]=.tuple #[frV z 0,.bool true]
  rw [frV_zero]
section
variable {P:Program} {n:Nat} {ops:Array Oper} {o:Oper} {rest:List Oper} {env:Env} {bx:Bxs} {sb':Bxs} {H:Hs} {Q:EQ} {d:Nat}
end
theorem rq_form {G:Hp} {w:Value} {q:Rat} (h:RQ G w q):∃ ra rl rc xa xl xc,w=.agg #[.bool (decide (q.num<0)),.slice ra rl rc,.slice xa xl xc]:=by
 obtain ⟨ra,rl,rc,xa,xl,xc,e,_,_⟩:=h
 exact ⟨ra,rl,rc,xa,xl,xc,e⟩
def fracT (q:Rat):List UInt8:=if q.den=1 then wtL q.num else wtL q.num++[47]++Lib.decDigits q.den
section
variable {P:Program} {n:Nat} {ops:Array Oper} {o:Oper} {rest:List Oper} {env:Env} {bx:Bxs} {H:Hs} {Q:EQ} {d:Nat}
end
theorem decD_len10:∀ (k n:Nat),n<10 ^ k→(Lib.decDigits n).length≤k+1
 | 0,n,h=>by rw [decD_low (by omega)];exact Nat.le_refl _
 | k+1,n,h=>by
  by_cases h1:n<10
  ·rw [decD_low h1,List.length_singleton];omega
  ·have:=decD_len10 k (n / 10) (by rw [Nat.pow_succ] at h;omega)
   rw [decD_step oM,List.length_append,List.length_singleton]
   omega
end Go.Proofs.YtbcfidllfimehaaGreatDoor
namespace Go.Proofs.YtbcfidllfimehaaGreatDoor
def joinL (c:UInt8):List (List UInt8)→List UInt8
 | []=>[]
 | [w]=>w
 | w::v::r=>w++c::joinL c (v::r)
structure ColT.Ok (c:ColT):Prop where
 name:isNm c.name=true
 kind:c.kind=1∧c.words=[]∨c.kind=2∧1≤c.words.length∧c.words.length≤12
 words:∀ w,w∈c.words→isNm w=true
 nodup:c.words.Nodup
def tCol (c:ColT):List UInt8:=c.name++58::(if c.kind=1 then [110,117,109,98,101,114] else [99,104,111,105,99,101,40]++(joinL 124 c.words++[41]))
structure CellT.Ok (c:ColT) (x:CellT):Prop where
 lacks:x.lacks=true→x.q=0∧x.word=0
 num:x.lacks=false→c.kind=1→x.word=0∧ht x.q≤500
 word:x.lacks=false→c.kind≠1→x.q=0∧x.word<c.words.length
def tCell (c:ColT) (x:CellT):List UInt8:=if x.lacks then [63] else if c.kind=1 then fracT x.q else c.words.getD x.word []
def tRow (cs:List ColT) (row:List CellT):List UInt8:=joinL 44 (List.zipWith tCell cs row)
structure ShOk (cs:List ColT) (rows:List (List CellT)):Prop where
 some1:1≤cs.length
 few:cs.length≤20
 cols:∀ c,c∈cs→c.Ok
 names:(cs.map ColT.name).Nodup
 nrows:rows.length≤300
 wide:∀ row,row∈rows→cs.length=row.length
 cells:∀ row,row∈rows→∀ c x,(c,x)∈cs.zip row→c.Ok∧x.Ok c
def tSheet (cs:List ColT) (rows:List (List CellT)):List UInt8:=joinL 10 (joinL 44 (cs.map tCol)::rows.map (tRow cs))++[10]
end Go.Proofs.YtbcfidllfimehaaGreatDoor
namespace Go.Proofs.YtbcfidllfimehaaGreatDoor
open Go.RowKit _root_.Go.Proofs.Tryz
def colE (earlier:List ColT) (c:ColT):Nat :=
 if !(isNm c.name && c.words.all isNm) then 11
 else if c.kind=1∧c.words=[]∨c.kind=2∧1≤c.words.length∧c.words.length≤12 then
  if (earlier.any fun d=>decide (d.name=c.name)) || hasTwice c.words then 8 else 0
 else 10
def colsE:List ColT→List ColT→Nat
 | _,[]=>0
 | acc,c::r=>if colE acc c=0 then colsE (acc++[c]) r else colE acc c
def rightC (c:ColT) (x:CellT):Bool:=if x.lacks then decide (x.q=0) && decide (x.word=0) else if c.kind=1 then decide (x.word=0) else if c.kind=2 then decide (x.q=0) && decide (x.word<c.words.length) else false
def rightR (cs:List ColT) (r:List CellT):Bool:=(cs.zip r).all fun p=>rightC p.1 p.2
def rowsE (cs:List ColT):List (List CellT)→Nat
 | []=>0
 | r::l=>if r.length=cs.length then (if rightR cs r then rowsE cs l else 1) else 5
def checkS (cs:List ColT) (rows:List (List CellT)):Nat :=
 if cs.length<1∨20<cs.length then 5
 else if colsE [] cs=0 then (if 300<rows.length then 4 else rowsE cs rows) else colsE [] cs
theorem q0_sign {q:Rat}:(q.num.sign == 0)=decide (q=0):=by
 by_cases h:q=0
 ·rw [decide_eq_true h,h];rfl
 ·rw [decide_eq_false h]
  refine beq_eq_false_iff_ne.2 fun e=>h ?_
  have:=Int.sign_eq_zero_iff_zero.1 e
  exact Rat.num_eq_zero.1 this
set_option maxHeartbeats 8000000 in
theorem cellRight_pc {H:Hp} {cs:List Value} {c:ColT} {x:CellT} (hc:SCol H cs c) (hq:ht x.q≤100000000):PC prog 73 #[.agg cs.toArray,.agg (cellC x).toArray] H fun r _=>r=.bool (rightC c x):=by
 have hs:=sign_pv x.q (Nat.le_trans (Nat.le_max_left _ _) (Nat.le_trans hq (by decide)))
 have hr:rightC c x=if x.lacks then decide (x.q=0) && decide (x.word=0) else if c.kind=1 then decide (x.word=0) else if c.kind=2 then decide (x.q=0) && decide (x.word<c.words.length) else false:=rfl
 have w0:((x.word:Int) == 0)=decide (x.word=0):=by
  by_cases h:x.word=0
  ·rw [h];rfl
  ·rw [decide_eq_false h];exact beq_eq_false_iff_ne.2 oM
 obtain ⟨a,n,hw,rfl⟩:=hc
 refine BD func73 ntmps73 ?_
 try refine RUN ?_
 cases hl:x.lacks with
 | true =>
  rw [hl,if_pos rfl] at hr
  repeat (first | refine RUN ?_ | refine CV (hs) ?_ | refine CE (hs) ?_)
  rw [q0_sign]
  by_cases hq0:x.q=0
  ·rw [decide_eq_true hq0] at hr ⊢
   try refine RUN ?_
   rw [w0,hr];rfl
  ·rw [decide_eq_false hq0] at hr ⊢
   try refine RUN ?_
   rw [hr];rfl
 | false =>
 rw [hl,if_neg (by decide)] at hr
 try refine RUN ?_
 by_cases k1:c.kind=1
 ·rw [show ((c.kind:Int) == 1)=true by rw [k1];rfl]
  rw [if_pos k1] at hr
  try refine RUN ?_
  rw [w0,hr]
 rw [show ((c.kind:Int) == 1)=false from beq_eq_false_iff_ne.2 (by omega)]
 rw [if_neg k1] at hr
 try refine RUN ?_
 by_cases k2:c.kind=2
 ·rw [show ((c.kind:Int) == 2)=true by rw [k2];rfl]
  rw [if_pos k2] at hr
  repeat (first | refine RUN ?_ | refine CV (hs) ?_ | refine CE (hs) ?_)
  rw [q0_sign]
  by_cases hq0:x.q=0
  ·rw [decide_eq_true hq0] at hr ⊢
   try refine RUN ?_
   rw [hr,Bool.true_and]
   congr 1
   by_cases h:x.word<c.words.length
   ·rw [decide_eq_true h,decide_eq_true (by omega)]
   ·rw [decide_eq_false h,decide_eq_false (by omega)]
  ·rw [decide_eq_false hq0] at hr ⊢
   try refine RUN ?_
   rw [hr];rfl
 ·rw [show ((c.kind:Int) == 2)=false from beq_eq_false_iff_ne.2 (by omega)]
  rw [if_neg k2] at hr
  try refine RUN ?_
  rw [hr]
set_option maxRecDepth 100000 in
set_option maxHeartbeats 16000000 in
theorem checkCol_pc {H:Hp} {v:Value} {l:List ColT} {cs:List Value} {c:ColT} (hv:ColL H v l) (hc:SCol H cs c) (hll:l.length≤100000000) (hn:c.name.length≤1000000) (hwl:c.words.length≤1000000) (hww:∀ w,w∈c.words→w.length≤1000000):PC prog 72 #[v,.agg cs.toArray] H fun r _=>r=.int .i64 (colE l c:Int):=by
 have hr:colE l c=if !(isNm c.name && c.words.all isNm) then 11
  else if c.kind=1∧c.words=[]∨c.kind=2∧1≤c.words.length∧c.words.length≤12 then
   if (l.any fun d=>decide (d.name=c.name)) || hasTwice c.words then 8 else 0
  else 10:=rfl
 have hin:=isName_pv c.name oM
 obtain ⟨va,vc,rfl⟩:=hv.val
 obtain ⟨a,n,hw,rfl⟩:=hc
 refine BD func72 ntmps72 ?_
 try refine RUN ?_
 cases hnm:isNm c.name with
 | false =>
  rw [hnm] at hin hr
  repeat (first | refine RUN ?_ | refine CV (hin) ?_ | refine CE (hin) ?_)
  rw [hr];rfl
 | true =>
 rw [hnm] at hin hr
 rw [Bool.true_and] at hr
 repeat (first | refine RUN ?_ | refine CV (hin) ?_ | refine CE (hin) ?_)
 refine EV.loopK (ι:=Nat) [0,3,12,13] [3] (fun i=>[(14,.v (.int .i64 (i:Int)))]) (fun _=>[]) (fun _=>[]) (fun i _=>i≤c.words.length∧(c.words.take i).all isNm=true) (fun i=>c.words.length-i) (0) rfl rfl ⟨rfl,trivial⟩ trivial rfl (fun _=>rfl) (⟨Nat.zero_le _,rfl⟩) ?_
 rintro i G1 hG1 ⟨hi,hall⟩
 try refine RUN ?_
 refine EV.cond rfl (fun hlt=>?_) (fun hlt=>?_)
 ·simp only [nN] at hlt
  obtain ⟨z,hz⟩:∃ z,c.words[i]?=some z:=⟨_,List.getElem?_eq_getElem hlt⟩
  have hzn:=isName_pv z (by have:=hww z (List.mem_of_getElem? hz);omega)
  try refine RUN ?_
  refine EVL.idxR tO rfl rfl rfl rfl rfl rfl rfl rfl rfl rfl ((hw.mono hG1)) (i) (rfl) (hlt) ((by rw [List.getElem?_map,hz];rfl)) ?_
  cases hzt:isNm z with
  | false =>
   rw [hzt] at hzn
   repeat (first | refine RUN ?_ | refine CV (hzn) ?_ | refine CE (hzn) ?_)
   have:c.words.all isNm=false:=by
    rw [← Bool.not_eq_true]
    intro k
    rw [List.all_eq_true.1 k z (List.mem_of_getElem? hz)] at hzt
    cases hzt
   rw [hr,this];rfl
  | true =>
   rw [hzt] at hzn
   repeat (first | refine RUN ?_ | refine CV (hzn) ?_ | refine CE (hzn) ?_)
   exact ⟨i+1,⟨by rw [wi_inc i (by omega)];rfl,trivial⟩,sB,trivial,sB,rfl,⟨hlt,by rw [take_snoc hz,List.all_append,hall,List.all_cons,hzt];rfl⟩,Hp.Le.refl _,by omega⟩
 simp only [nN] at hlt
 obtain rfl:i=c.words.length:=by omega
 rw [List.take_length] at hall
 rw [hall,if_neg (by decide)] at hr
 have bad:¬ (c.kind=1∧c.words=[]∨c.kind=2∧1≤c.words.length∧c.words.length≤12)→Value.int .i64 10=.int .i64 (colE l c:Int):=fun k=>by rw [hr,if_neg k];rfl
 have hwz:c.words=[]↔c.words.length=0:=List.length_eq_zero_iff.symm
 (try refine RUNB ?_)
 refine EV.meetK (ι:=Unit) [0,3] [3] (fun _=>[]) (fun _=>[]) (fun _=>[]) (fun _ G=>G1.Le G∧(c.kind=1∧c.words=[]∨c.kind=2∧1≤c.words.length∧c.words.length≤12)) rfl rfl (fun _=>rfl) ?_ ?_
 ·(try refine RUN ?_)
  by_cases k1:c.kind=1
  ·rw [show ((c.kind:Int) == 1)=true by rw [k1];rfl]
   try refine RUN ?_
   by_cases h0:c.words.length=0
   ·rw [show ((c.words.length:Int) != 0)=false from bne_eq_false_iff_eq.2 (by omega)]
    try refine RUN ?_
    exact ⟨(),trivial,sB,trivial,sB,rfl,Hp.Le.refl _,.inl ⟨k1,hwz.2 h0⟩⟩
   ·rw [show ((c.words.length:Int) != 0)=true from bne_iff_ne.2 (by omega)]
    try refine RUN ?_
    exact bad fun k=>k.elim (fun q=>h0 (hwz.1 q.2)) fun q=>by have:=q.1;omega
  ·rw [show ((c.kind:Int) == 1)=false from beq_eq_false_iff_ne.2 (by omega)]
   try refine RUN ?_
   by_cases k2:c.kind=2
   ·rw [show ((c.kind:Int) == 2)=true by rw [k2];rfl]
    try refine RUN ?_
    by_cases h0:c.words.length<1
    ·rw [decide_eq_true (show (c.words.length:Int)<1 by omega)]
     try refine RUN ?_
     exact bad fun k=>k.elim (fun q=>k1 q.1) fun q=>by omega
    ·rw [decide_eq_false (show ¬ (c.words.length:Int)<1 by omega)]
     try refine RUN ?_
     by_cases h12:c.words.length>12
     ·rw [decide_eq_true (show (c.words.length:Int)>12 by omega)]
      try refine RUN ?_
      exact bad fun k=>k.elim (fun q=>k1 q.1) fun q=>by omega
     ·rw [decide_eq_false (show ¬ (c.words.length:Int)>12 by omega)]
      try refine RUN ?_
      exact ⟨(),trivial,sB,trivial,sB,rfl,Hp.Le.refl _,.inr ⟨k2,by omega,by omega⟩⟩
   ·rw [show ((c.kind:Int) == 2)=false from beq_eq_false_iff_ne.2 (by omega)]
    try refine RUN ?_
    exact bad fun k=>k.elim (fun q=>k1 q.1) fun q=>k2 q.1
 rintro _ G2 ⟨hG2,hkd⟩
 rw [if_pos hkd] at hr
 try refine RUN ?_
 refine EVL.call rfl rfl rfl rfl rfl (named_pc (hv.mono SCol.ok (hG1.trans hG2)) c.name hll) ?_
 rintro _ G3 rfl hG3
 cases hany:(l.any fun d=>decide (d.name=c.name)) with
 | true =>
  rw [hany] at hr
  try refine RUN ?_
  rw [hr];rfl
 | false =>
  rw [hany,Bool.false_or] at hr
  try refine RUN ?_
  refine EVL.call rfl rfl rfl rfl rfl (twice_pc (hw.mono (hG1.trans (hG2.trans hG3))) oM) ?_
  rintro _ G4 rfl hG4
  cases ht:hasTwice c.words with
  | true =>
   rw [ht] at hr
   try refine RUN ?_
   rw [hr];rfl
  | false =>
   rw [ht] at hr
   try refine RUN ?_
   rw [hr];rfl
theorem LsR.allK {α:Type} {R:Hp→List Value→α→Prop} {k:Nat} (ok:RelOk R k) {H:Hp} {css:List (List Value)} {l:List α} (h:LsR R H css l):∀ x,x∈css→x.length=k:=fun x hx=>by
 obtain ⟨i,hi⟩:=List.mem_iff_getElem?.1 hx
 have hi':=(List.getElem?_eq_some_iff.1 hi).1
 exact ok.len (h.2 i x _ hi (List.getElem?_eq_getElem (by rw [← h.1];exact hi')))
theorem SlC.capLe {H:Hp} {a:Option Addr} {m cap size:Nat} {xs:List Value} (h:SlC H (.slice a m cap) m size xs):m≤cap:=by
 rcases h.2 with ⟨h0,_⟩ | ⟨b,off,cap',c,e,hc,_⟩
 ·omega
 ·cases e;exact hc
theorem flat_take {k:Nat}:∀ {css:List (List Value)},(∀ x,x∈css→x.length=k)→∀ i,css.flatten.take (i*k)=(css.take i).flatten
 | [],_,i=>by simp
 | x::css,h,i=>by
  cases i with
  | zero=>rw [Nat.zero_mul];simp
  | succ i =>
   have hx:=h x (List.mem_cons_self ..)
   rw [List.flatten_cons,List.take_succ_cons,List.flatten_cons,Nat.succ_mul,← flat_take (fun y hy=>h y (List.mem_cons_of_mem _ hy)) i,List.take_append,hx,List.take_of_length_le (by rw [hx];omega),Nat.add_sub_cancel]
theorem LR.pre {α:Type} {R:Hp→List Value→α→Prop} {k:Nat} (ok:RelOk R k) {H:Hp} {a:Option Addr} {cap:Nat} {l:List α} (h:LR R k H (.slice a l.length cap) l) (i:Nat) (hi:i≤l.length) (s:Nat):LR R k H (.slice (if cap=0 then a else a.map (·.add (0*s))) (i-0) (cap-0)) (l.take i):=by
 obtain ⟨css,hcs,hsl⟩:=h
 have h1:=SlC.sub hsl 0 i (Nat.zero_le _) hi hsl.capLe
 rw [Nat.zero_mul] at h1
 rw [Nat.zero_mul]
 rw [List.drop_zero,Nat.sub_zero,flat_take (hcs.allK ok)] at h1
 refine ⟨css.take i,⟨?_,fun j c x e1 e2=>?_⟩,?_⟩
 ·rw [List.length_take,List.length_take,hcs.1]
 ·have hj:j<i:=by
   have:=(List.getElem?_eq_some_iff.1 e1).1
   rw [List.length_take] at this;omega
  rw [List.getElem?_take_of_lt hj] at e1 e2
  exact hcs.2 j c x e1 e2
 ·rw [List.length_take,Nat.min_eq_left hi,Nat.sub_zero];exact h1
structure SmCk (cs:List ColT) (rows:List (List CellT)):Prop where
 ncols:cs.length≤1000000
 name:∀ c,c∈cs→c.name.length≤1000000
 nwords:∀ c,c∈cs→c.words.length≤1000000
 words:∀ c,c∈cs→∀ w,w∈c.words→w.length≤1000000
 nrows:rows.length≤1000000
 cells:∀ r,r∈rows→r.length≤1000000∧∀ x,x∈r→ht x.q≤100000000
theorem colsE_step {acc:List ColT} {c:ColT} {r:List ColT} (h:colE acc c=0):colsE acc (c::r)=colsE (acc++[c]) r:=by rw [colsE,if_pos h]
theorem colsE_stop {acc:List ColT} {c:ColT} {r:List ColT} (h:colE acc c≠0):colsE acc (c::r)=colE acc c:=by rw [colsE,if_neg h]
set_option maxRecDepth 100000 in
set_option maxHeartbeats 32000000 in
theorem check_pc {H:Hp} {u v:Value} {cs:List ColT} {rows:List (List CellT)} (hu:ColL H u cs) (hv:PRows H v rows) (sm:SmCk cs rows):PC prog 28 #[.agg #[u,v]] H fun r _=>r=.int .i64 (checkS cs rows:Int):=by
 have hr:checkS cs rows=if cs.length<1∨20<cs.length then 5
  else if colsE [] cs=0 then (if 300<rows.length then 4 else rowsE cs rows) else colsE [] cs:=rfl
 obtain ⟨ua,uc,rfl⟩:=hu.val
 have hu0:=hu
 obtain ⟨css,hcs,hsl⟩:=hu
 obtain ⟨rss,hrs,hrl⟩:=hv
 obtain ⟨va,vc,rfl⟩:=SlC.val hrl
 have hcap:=hsl.capLe
 have hncols:=sm.ncols
 have hnrows:=sm.nrows
 refine BD func28 ntmps28 ?_
 try refine RUN ?_
 by_cases c1:cs.length<1
 ·rw [decide_eq_true (show (cs.length:Int)<1 by omega)]
  try refine RUN ?_
  rw [hr,if_pos (.inl c1)];rfl
 rw [decide_eq_false (show ¬ (cs.length:Int)<1 by omega)]
 try refine RUN ?_
 by_cases c2:cs.length>20
 ·rw [decide_eq_true (show (cs.length:Int)>20 by omega)]
  try refine RUN ?_
  rw [hr,if_pos (.inr c2)];rfl
 rw [decide_eq_false (show ¬ (cs.length:Int)>20 by omega)]
 rw [if_neg (show ¬ (cs.length<1∨20<cs.length) from fun k=>k.elim c1 c2)] at hr
 try refine RUN ?_
 refine EV.loopK (ι:=Nat) [1,21,22] [1] (fun i=>[(23,.v (.int .i64 (i:Int)))]) (fun _=>[]) (fun _=>[]) (fun i _=>i≤cs.length∧colsE [] cs=colsE (cs.take i) (cs.drop i)) (fun i=>cs.length-i) (0) rfl rfl ⟨rfl,trivial⟩ trivial rfl (fun _=>rfl) (⟨Nat.zero_le _,rfl⟩) ?_
 rintro i G1 hG1 ⟨hi,hce⟩
 try refine RUN ?_
 refine EV.cond rfl (fun hlt=>?_) (fun hlt=>?_)
 ·simp only [nN] at hlt
  obtain ⟨c,hc⟩:∃ c,cs[i]?=some c:=⟨_,List.getElem?_eq_getElem hlt⟩
  have hm:=List.mem_of_getElem? hc
  obtain ⟨cc,hcut,hcol⟩:=(hcs.mono SCol.ok hG1).get SCol.ok hc
  have hpre:=fun G (hG:G1.Le G)=>(hu0.mono SCol.ok (hG1.trans hG)).pre SCol.ok i hi 3
  have hcc:=fun G (hG:G1.Le G)=>checkCol_pc (hpre G hG) (SCol.ok.mono hcol hG) (by rw [List.length_take];omega) (sm.name c hm) (sm.nwords c hm) (sm.words c hm)
  obtain ⟨a9,n9,_,rfl⟩:=hcol
  rw [dropA_at hc] at hce
  try refine RUN ?_
  refine EVL.idxM tO rfl rfl rfl rfl rfl rfl rfl rfl rfl ((hsl.mono hG1)) (i) (rfl) (hlt) (hcut) ?_
  try refine RUN ?_
  apply EV.drawn 7 kR kR;intro xv yw
  (repeat refine' DD ?_)
  refine' DJ.ofVal (ValOk.sliceV (te':=Tryz.te83) (a:=ua) (m:=cs.length) (cap:=uc) tO rfl rfl rfl rfl rfl rfl 0 i (.inl ⟨rfl,rfl⟩) (.inr ⟨_,IntKind.i64,rfl,rfl⟩) (Nat.zero_le _) oM hcap) rfl rfl rfl ?_;rotate_left
  (repeat refine' DD ?_)
  refine' DJ.callS rfl rfl rfl rfl rfl (cO func72) (fun G hG hd=>hcc G hG) ?_;rotate_left
  (repeat refine' DD ?_)
  (refine DJ.nil (fun G2 hG2 hF2=>?_);(case hS|hS2=>rfl))
  by_cases he:colE (cs.take i) c=0
  ·rw [colsE_step he,← take_snoc hc] at hce
   rw [he]
   try refine RUN ?_
   rw [wi_inc i (by omega)]
   exact ⟨i+1,⟨rfl,trivial⟩,sB,trivial,sB,rfl,⟨hlt,hce⟩,hG2,by omega⟩
  ·rw [colsE_stop he] at hce
   try refine RUN ?_
   rw [show ((colE (cs.take i) c:Int) != 0)=true from bne_iff_ne.2 (by omega)]
   try refine RUN ?_
   rw [hr,hce,if_neg he]
 simp only [nN] at hlt
 obtain rfl:i=cs.length:=by omega
 rw [List.drop_length] at hce
 have hce0:colsE [] cs=0:=hce
 rw [if_pos hce0] at hr
 try refine RUN ?_
 by_cases c3:rows.length>300
 ·rw [decide_eq_true (show (rows.length:Int)>300 by omega)]
  rw [if_pos c3] at hr
  try refine RUN ?_
  rw [hr];rfl
 rw [decide_eq_false (show ¬ (rows.length:Int)>300 by omega)]
 rw [if_neg c3] at hr
 try refine RUN ?_
 refine EV.loopK (ι:=Nat) [1,43,44] [1] (fun i=>[(45,.v (.int .i64 (i:Int)))]) (fun _=>[]) (fun _=>[]) (fun i _=>i≤rows.length∧rowsE cs rows=rowsE cs (rows.drop i)) (fun i=>rows.length-i) (0) rfl rfl ⟨rfl,trivial⟩ trivial rfl (fun _=>rfl) (⟨Nat.zero_le _,rfl⟩) ?_
 rintro i G2 hG2 ⟨hi2,hre⟩
 have hG02:=hG1.trans hG2
 try refine RUN ?_
 refine EV.cond rfl (fun hlt2=>?_) (fun hlt2=>?_)
 ·simp only [nN] at hlt2
  obtain ⟨row,hrow⟩:∃ x,rows[i]?=some x:=⟨_,List.getElem?_eq_getElem hlt2⟩
  have hrm:=List.mem_of_getElem? hrow
  obtain ⟨rc,hrcut,rv,rfl,hrr⟩:=(hrs.mono PRows.ok hG02).get PRows.ok hrow
  obtain ⟨hrl1,hrq⟩:=sm.cells row hrm
  obtain ⟨ra,rn,rfl⟩:=LR.val hrr
  obtain ⟨cels,hcels,hcsl⟩:=hrr
  have hst:rowsE cs (row::rows.drop (i+1))=if row.length=cs.length then (if rightR cs row then rowsE cs (rows.drop (i+1)) else 1) else 5:=rfl
  rw [dropA_at hrow,hst] at hre
  try refine RUN ?_
  refine EVL.idxM tO rfl rfl rfl rfl rfl rfl rfl rfl rfl ((hrl.mono hG02)) (i) (rfl) (hlt2) (hrcut) ?_
  try refine RUN ?_
  by_cases e:row.length=cs.length
  case neg =>
   rw [show ((row.length:Int) != (cs.length:Int))=true from bne_iff_ne.2 (by omega)]
   rw [if_neg e] at hre
   try refine RUN ?_
   rw [hr,hre];rfl
  rw [show ((row.length:Int) != (cs.length:Int))=false from bne_eq_false_iff_eq.2 (by omega)]
  rw [if_pos e] at hre
  have hzl:(cs.zip row).length=row.length:=by rw [List.length_zip,e,Nat.min_self]
  try refine RUN ?_
  refine EV.loopK (ι:=Nat) [1,43,44,45,55,56] [1] (fun k=>[(57,.v (.int .i64 (k:Int)))]) (fun _=>[]) (fun _=>[]) (fun k _=>k≤row.length∧((cs.zip row).take k).all (fun p=>rightC p.1 p.2)=true) (fun k=>row.length-k) (0) rfl rfl ⟨rfl,trivial⟩ trivial rfl (fun _=>rfl) (⟨Nat.zero_le _,rfl⟩) ?_
  rintro k G3 hG3 ⟨hk,hall⟩
  try refine RUN ?_
  refine EV.cond rfl (fun hlt3=>?_) (fun hlt3=>?_)
  ·simp only [nN] at hlt3
   obtain ⟨x,hx⟩:∃ x,row[k]?=some x:=⟨_,List.getElem?_eq_getElem hlt3⟩
   obtain ⟨c,hc⟩:∃ c,cs[k]?=some c:=⟨_,List.getElem?_eq_getElem oM⟩
   have hz:(cs.zip row)[k]?=some (c,x):=by rw [List.zip,List.getElem?_zipWith,hc,hx]
   obtain ⟨xc,hxcut,rfl⟩:=(hcels.mono PCell.ok hG3).get PCell.ok hx
   obtain ⟨cc,hcut,hcol⟩:=(hcs.mono SCol.ok (hG02.trans hG3)).get SCol.ok hc
   have hri:=fun G (hG:G3.Le G)=>cellRight_pc (x:=x) (SCol.ok.mono hcol hG) (hrq x (List.mem_of_getElem? hx))
   obtain ⟨a9,n9,_,rfl⟩:=hcol
   try refine RUN ?_
   refine EVL.idxM tO rfl rfl rfl rfl rfl rfl rfl rfl rfl ((hcsl.mono hG3)) (k) (rfl) (hlt3) (hxcut) ?_
   try refine RUN ?_
   apply EV.drawn 8 kR kR;intro xv yw
   (repeat refine' DD ?_)
   refine' DJ.idxM tO rfl rfl rfl rfl rfl rfl rfl rfl rfl ((hsl.mono (hG02.trans hG3))) (k) (rfl) (oM) (hcut) ?_;rotate_left
   (repeat refine' DD ?_)
   refine' DJ.callS rfl rfl rfl rfl rfl (cO func73) (fun G hG hd=>hri G hG) ?_;rotate_left
   (repeat refine' DD ?_)
   (refine DJ.nil (fun G4 hG4 hF4=>?_);(case hS|hS2=>rfl))
   cases hrt:rightC c x with
   | true =>
    try refine RUN ?_
    rw [wi_inc k (by omega)]
    exact ⟨k+1,⟨rfl,trivial⟩,sB,trivial,sB,rfl,⟨hlt3,by rw [take_snoc hz,List.all_append,hall,List.all_cons,hrt];rfl⟩,hG4,by omega⟩
   | false =>
    have hno:rightR cs row=false:=by
     rw [← Bool.not_eq_true]
     intro q
     have:=List.all_eq_true.1 q (c,x) (List.mem_of_getElem? hz)
     dsimp only at this
     rw [hrt] at this;cases this
    rw [hno] at hre
    try refine RUN ?_
    rw [hr,hre];rfl
  ·simp only [nN] at hlt3
   obtain rfl:k=row.length:=by omega
   rw [← hzl,List.take_length] at hall
   have hyes:rightR cs row=true:=hall
   rw [hyes,if_pos rfl] at hre
   try refine RUN ?_
   rw [wi_inc i (by omega)]
   exact ⟨i+1,⟨rfl,trivial⟩,sB,trivial,sB,rfl,⟨hlt2,hre⟩,hG3,by omega⟩
 ·simp only [nN] at hlt2
  obtain rfl:i=rows.length:=by omega
  rw [List.drop_length] at hre
  try refine RUN ?_
  rw [hr,hre];rfl
theorem cutL_at {c:UInt8} {l:List UInt8} {i:Nat} (h:l[i]?=some c) (hb:∀ j,j<i→l[j]?≠some c):cutL c l=l.take i::cutL c (l.drop (i+1)):=by
 have hi:=(List.getElem?_eq_some_iff.1 h).1
 have e:l=l.take i++c::l.drop (i+1):=by
  have h1:l.take (i+1)=l.take i++[c]:=by rw [List.take_add_one,h];rfl
  have h2:l=l.take (i+1)++l.drop (i+1):=(List.take_append_drop ..).symm
  rw [h1,List.append_assoc] at h2
  exact h2
 have hn:c ∉ l.take i:=fun k=>by
  obtain ⟨j,hj,q⟩:=List.getElem_of_mem k
  rw [List.length_take] at hj
  exact hb j oM (by rw [List.getElem_take] at q;rw [List.getElem?_eq_getElem oM,q])
 have happ:∀ {a b:List UInt8},c ∉ a→cutL c (a++c::b)=a::cutL c b:=by
  intro a b
  induction a with
  | nil=>intro _;rw [List.nil_append,cutL,if_pos rfl]
  | cons x a ih =>
   intro h
   have hx:x≠c:=fun e=>h (by rw [e];exact List.mem_cons_self ..)
   rw [List.cons_append,cutL,if_neg hx,ih fun k=>h (List.mem_cons_of_mem _ k)]
 have:=happ (b:=l.drop (i+1)) hn
 rwa [← e] at this
theorem cutL_none {c:UInt8}:∀ {l:List UInt8},c ∉ l→cutL c l=[l]
 | [],_=>rfl
 | x::l,h=>by
  have hx:x≠c:=fun e=>h (by rw [e];exact List.mem_cons_self ..)
  have:=cutL_none (l:=l) fun k=>h (List.mem_cons_of_mem _ k)
  rw [cutL,if_neg hx,this]
theorem indexB_one (l:List UInt8) (c:UInt8):Lib.indexB (sb l) (sb [c])=Lib.indexByte l c:=Lib.index_one l c
theorem cutL_count (c:UInt8):∀ l:List UInt8,(cutL c l).length=l.count c+1
 | []=>rfl
 | x::l=>by
  have ih:=cutL_count c l
  unfold cutL
  by_cases h:x=c
  ·rw [if_pos h,List.length_cons,ih,h,List.count_cons_self]
  ·rw [if_neg h,List.count_cons_of_ne h]
   split
   ·rename_i e;exact absurd e (cutL_ne c l)
   ·rename_i a r e
    rw [e,List.length_cons] at ih
    rw [List.length_cons];exact ih
theorem count_one (c:UInt8):∀ (n:Nat) (l:List UInt8),l.length≤n→Lib.count l [c]=l.count c:=by
 intro n
 induction n with
 | zero=>intro l hl;have:l=[]:=List.length_eq_zero_iff.1 oM;subst this;rfl
 | succ n ih =>
  intro l hl
  rcases idxB l c with ⟨h1,h2⟩ | ⟨i,h1,h2,h3,h4⟩
  ·rw [Lib.count_miss (by rw [Lib.index_one,h2]),List.count_eq_zero_of_not_mem h1]
  ·have e:=cutL_at h3 h4
   have e2:=congrArg List.length e
   rw [List.length_cons,cutL_count,cutL_count] at e2
   rw [Lib.count_hit (i:=i) (by simp) (by rw [Lib.index_one,h2])]
   show 1+Lib.count (l.drop (i+1)) [c]=_
   rw [ih _ (by rw [List.length_drop];omega)]
   omega
theorem splitB_cut2 {c:UInt8}:∀ (k:Nat) (l:List UInt8),(cutL c l).length≤k+1→Lib.splitB (sb [c]) 0 k (sb l)=(cutL c l).map sb:=by
 intro k
 induction k with
 | zero =>
  intro l hl
  rcases idxB l c with ⟨h1,_⟩ | ⟨i,h1,h2,h3,h4⟩
  ·rw [cutL_none h1];rfl
  ·rw [cutL_at h3 h4,List.length_cons] at hl
   have:=List.length_pos_iff.2 (cutL_ne c (l.drop (i+1)))
   omega
 | succ k ih =>
  intro l hl
  rcases idxB l c with ⟨h1,h2⟩ | ⟨i,h1,h2,h3,h4⟩
  ·rw [Lib.splitB_miss _ _ _ _ (by rw [indexB_one,h2]),cutL_none h1];rfl
  ·rw [cutL_at h3 h4,List.length_cons] at hl
   rw [Lib.splitB_hit (sb [c]) 0 k (sb l) i (by rw [indexB_one,h2]),cutL_at h3 h4,List.map_cons]
   have e1:(sb l).extract 0 (i+0)=sb (l.take i):=by rw [sb_cut,List.drop_zero,Nat.add_zero,Nat.sub_zero]
   have e2:(sb l).extract (i+(sb [c]).size) (sb l).size=sb (l.drop (i+1)):=by
    rw [sb_cut,sb_size]
    show sb ((l.drop (i+1)).take (l.length-(i+1)))=_
    rw [List.take_of_length_le (by rw [List.length_drop];exact Nat.le_refl _)]
   rw [e1,e2,ih _ (by omega)]
theorem alloc_top (W:World) (o:Obj):(W.alloc o).heap[W.heap.size]?=some o:=heap_alloc_new W _
theorem genSplit_pc {H:Hp} (l:List UInt8) (c:UInt8) (hl:l.length≤1000000):PC prog 88 #[strV l,strV [c],.int .i64 0,.int .i64 (-1)] H fun r H'=>SL H' r (cutL c l):=by
 have hcnt:Lib.countB (sb l) (sb [c])=l.count c:=count_one c l.length l (Nat.le_refl _)
 have hlen:=cutL_count c l
 have hle:l.count c≤l.length:=List.count_le_length
 have hsz:=sb_size l
 refine ⟨(cO func88),fun W hW hg=>?_⟩
 have key:Calls prog 88 #[strV l,strV [c],.int .i64 ((0:Nat):Int),.int .i64 (-1)] W fun e w' =>
   e=.returned (.slice (some ⟨W.heap.size,0,none⟩) (Lib.splitB (sb [c]) 0 ((cutL c l).length-1) (sb l)).length (cutL c l).length)∧w'=W.alloc (.cells (Lib.cellsOf (Lib.splitB (sb [c]) 0 ((cutL c l).length-1) (sb l)) (cutL c l).length) 9) :=
  Any.strings_genSplit_core Tryz.lays221 kR (sb l) (sb [c]) 0 (-1) (cutL c l).length W (by rw [hsz];omega) (Nat.le_refl 1) (Nat.zero_le _)
   (fun x cs _=>(Tryz.strings_Index_one x c _).mono fun e w' ⟨h1,h2⟩=>⟨by rw [h1,show Lib.indexB x (sb [c])=Lib.indexByte x.data.toList c from Lib.index_one x.data.toList c],h2⟩)
   ((Tryz.strings_Count_one (sb l) c W).mono fun e w' ⟨h1,h2⟩=>⟨by rw [h1,hcnt];rfl,h2⟩)
   (by decide) (by decide) (by rw [if_pos (by decide),hcnt,hlen,hsz,Int.min_eq_left (by omega)];omega)
 rw [splitB_cut2 _ _ oM,List.length_map] at key
 refine key.mono fun e W' ⟨he,hw⟩=>?_
 have hb:Below W.heap.size W W':=by rw [hw];exact (Below.refl _ _).alloc (Nat.le_refl _) _
 have hB:Blk strV W' W.heap.size (cutL c l):=⟨9,by
  rw [hw]
  have:Lib.cellsOf ((cutL c l).map sb) (cutL c l).length=cellsOf strV (cutL c l):=by
   unfold Lib.cellsOf cellsOf
   rw [List.length_map,Nat.sub_self,List.map_map]
   simp [strV,Function.comp_def]
  rw [this]
  exact alloc_top _ _⟩
 obtain ⟨h1,h2,h3,h4⟩:=pc_new hW hb (Nat.le_refl _) hB
 exact ⟨_,_,he,h4 _ (Nat.le_refl _),h1,h2,hb,h3⟩
theorem split_pc {H:Hp} (l:List UInt8) (c:UInt8) (hl:l.length≤1000000):PC prog 40 #[strV l,strV [c]] H fun r H'=>SL H' r (cutL c l):=by
 have hg:=fun G:Hp=>genSplit_pc (H:=G) l c hl
 refine BD func40 ntmps40 ?_
 try refine RUN ?_
 refine EVL.call rfl rfl rfl rfl rfl (hg _) ?_
 rintro v G1 hv hG1
 obtain ⟨a,n,rfl⟩:=SlC.val hv
 try refine RUN ?_
 exact hv
theorem trim_end (l:List UInt8):Lib.trimSuffix l [10]=noEnd l:=by
 unfold Lib.trimSuffix noEnd Lib.hasSuffix
 rcases List.eq_nil_or_concat l with rfl | ⟨m,x,rfl⟩
 ·rfl
 ·rw [List.concat_eq_append,List.getLast?_concat,List.dropLast_concat]
  have e:([10]:List UInt8).isSuffixOf (m++[x])=decide (x=10):=by
   rw [Bool.eq_iff_iff,List.isSuffixOf_iff_suffix,decide_eq_true_iff]
   constructor
   ·rintro ⟨t,ht⟩
    have:=congrArg List.getLast? ht
    rw [List.getLast?_concat,List.getLast?_concat] at this
    exact (Option.some.inj this).symm
   ·rintro rfl
    exact ⟨m,rfl⟩
  rw [e]
  by_cases h:x=10
  ·rw [decide_eq_true h,if_pos rfl,if_pos (by rw [h]),List.length_append]
   exact List.take_left' rfl
  ·rw [decide_eq_false h,if_neg (by decide),if_neg fun k=>h (Option.some.inj k)]
theorem trimEnd_pv (l:List UInt8) (hl:l.length≤9223372036854775807):PV prog 41 #[strV l,strV [10]] (strV (noEnd l)) :=
 ⟨(cO func41),fun W _=>(Tryz.strings_TrimSuffix (sb l) (sb [10]) W (by rw [sb_size];exact hl)).mono fun e W' ⟨h1,h2⟩=>⟨by
  rw [h1]
  show _=_
  rw [show Lib.trimSuffix (sb l).data.toList (sb [10]).data.toList=noEnd l from trim_end l],by rw [h2];exact Below.refl _ _⟩⟩
end Go.Proofs.YtbcfidllfimehaaGreatDoor
