/- Texts of ours in one: Gc5, GcdS, Fr1, Fr2, Fr3, Ha1, Ha2, Ls1, LsP, Ls2, Ls3, Fr4, NearP, NearQ, SimpP, SimpS, Lw1, Lw2, Str1, Lw3, Lw4, Simp, Simp2, Simp3, Simp4, Ls4, Ls5, Ls6, Gn1, GnP, Gn2, Gn3, Gn7, Ev22, Gn8, Gn4, Gn5, Gn9, Gn6, Ev23, Gn10, Gn11, Seq, Sorted, DicePlain, Lists, SortPlain, Asc, GnC, Gn12, Gn13, Gn14, GnQ, GnR, GnS, GnT. -/
import Derived.Test.YtifcjfodgicngaaGreatDoorD0
import Derived.Test.YtifcjfodgicngaaGreatDoorD1
import Derived.Test.YtifcjfodgicngaaGreatDoorD2
import Derived.Test.YtifcjfodgicngaaGreatDoorProg
import Derived.RangeFuncBox
import Derived.RangeFuncLeaves
import Derived.Shelf.Abstract
import Derived.OwnWalkIn
import Derived.TacticsInMore
import Derived.LoopNIn
import Derived.LoopIn
import Derived.Maps.AppendAt
import Derived.Test.YtifcjfodgicngaaGreatDoorRows
import Derived.WalkKit
import Derived.Sort.OwnSortedInts
import Derived.Lib.SlicesCompact
set_option linter.unusedVariables false
set_option linter.unusedSimpArgs false
set_option maxHeartbeats 64000000
namespace Go.Proofs.YtifcjfodgicngaaGreatDoor
section
open Go.RowKit _root_.Go.Proofs.Tryz
structure OW (b off cap:Nat) (cs:List Value) (l:List Nat):Prop where
 at_:Wn cs off l
 norm:zdy W64 l
 cap:l.length≤cap
 len:l.length≤20000000
 odd:val W64 l % 2=1
structure BSt where
 (bv ov cv:Nat) (lv:List Nat) (sv:List Value)
 (bw ow cw:Nat) (lw:List Nat) (sw:List Value)
def BSt.env (q:BSt) (t:Int):Env:=[(4,.p 4 0),(5,.v (.slice (some ⟨q.bv,q.ov,none⟩) q.lv.length q.cv)),(6,.v (.slice (some ⟨q.bw,q.ow,none⟩) q.lw.length q.cw)),(7,.v (.int .i64 t))]
def BSt.own (q:BSt):Ows:=[(q.bv,44,q.sv),(q.bw,44,q.sw)]
structure BSt.ok (q:BSt) (g:Nat):Prop where
 v:OW q.bv q.ov q.cv q.sv q.lv
 w:OW q.bw q.ow q.cw q.sw q.lw
 gcd:Nat.gcd (val W64 q.lv) (val W64 q.lw)=g
theorem zrb {n:Nat} (h:n % 2=1):n≠0:=by omega
theorem zdx {α:Type} (a b:α):List.Perm [a,b] [b,a]:=List.Perm.swap b a []
theorem znR {a b:Nat} (h:zbk a b=0):a=b:=by
 unfold zbk at h;split at h
 ·cases h
 ·split at h
  ·cases h
  ·omega
theorem zeC (n:Nat):zaA n=.agg #[.int .u64 (lo n:Int),.string (zaj n)]:=rfl
theorem zg7 (x y:Nat) (hx:x≠0) (hy:y≠0) (hbx':big x) (hby':big y):PV prog 159 #[zaA x,zaA y] (zaA (Nat.gcd x y)):=by
 have lx:(dig W64 x).length≤20000000:=qI (zaF hbx') (by decide);have ly:(dig W64 y).length≤20000000:=qI (zaF hby') (by decide);have hpx:=fun G=>PO.of_pw ((zjv x hbx' G).mono (Ψ:=fun v ow _=>ow.length≤1∧∃g,v=.slice (some ⟨g,0,none⟩) (dig W64 x).length (dig W64 x).length∧ow=[(g,44,(dig W64 x).map n64)]) fun v ow H' _ ⟨g,h1,h2⟩=>⟨by rw[h2];simp,g,h1,h2⟩);have hpy:=fun G=>PO.of_pw ((zjv y hby' G).mono (Ψ:=fun v ow _=>ow.length≤1∧∃g,v=.slice (some ⟨g,0,none⟩) (dig W64 y).length (dig W64 y).length∧ow=[(g,44,(dig W64 y).map n64)]) fun v ow H' _ ⟨g,h1,h2⟩=>⟨by rw[h2];simp,g,h1,h2⟩);have dx:=zam zac x;have dy:=zam zac y;have vx:=zaw zac x;have vy:=zaw zac y;generalize dig W64 x=dgx at *
 generalize dig W64 y=dgy at *
 have hvx0:val W64 dgx≠0:=by rw[vx];exact hx
 have hvy0:val W64 dgy≠0:=by rw[vy];exact hy
 refine PV.of_pc ?_;refine BD func159 ntmps159 ?_;refine uR ?_;apply EV.drawn 6 kR kR;intro x1 y1;(repeat refine' DD ?_);refine' DJ.callO rfl rfl rfl rfl rfl (hpx gH).can (fun G _ _=>hpx G) ?_;rotate_left;(repeat refine' DD ?_);refine' DJ.callO rfl rfl rfl rfl rfl (hpy gH).can (fun G _ _=>hpy G) ?_;rotate_left;refine' DJ.copy (0+1) (.inr rfl) rfl rfl rfl id rfl kR ?_;rotate_left;refine' DJ.copy (0+1+1+1) (.inr rfl) rfl rfl rfl id rfl kR ?_;rotate_left;(refine DJ.nil (fun G hG hF=>?_);(case hS|hS2=>rfl));obtain⟨⟨gy,ey,oy⟩,⟨gx,ex,ox⟩,_⟩:=hF;simp only[ex,ey,ox,oy,id];clear hpx hpy ex ey ox oy;refine uR ?_;refine EVL.permOw [(gx,44,dgx.map n64),(gy,44,dgy.map n64)] (zdx _ _) ?_;refine EVL.callW rfl rfl rfl rfl rfl ([(gx,44,dgx.map n64)]) ([(gy,44,dgy.map n64)]) rfl (zgr (Wn.of dgx) dx.1 oM hvx0) ?_;rintro v ow H1 ⟨rfl,zx,mx,rfl,hzx,hmx,hzx2⟩ hle1;refine uR ?_;refine EVL.permOw [(gy,44,dgy.map n64),(gx,44,dgx.map n64)] (zdx _ _) ?_;refine EVL.callW rfl rfl rfl rfl rfl ([(gy,44,dgy.map n64)]) ([(gx,44,dgx.map n64)]) rfl (zgr (Wn.of dgy) dy.1 oM hvy0) ?_;rintro v ow H2 ⟨rfl,zy,my,rfl,hzy,hmy,hzy2⟩ hle2;refine uR ?_;rw[show (if (zy:Int)<(zx:Int) then (zy:Int) else (zx:Int))=((min zx zy:Nat):Int) by split <;> omega];refine uR ?_;refine EVL.permOw [(gx,44,dgx.map n64),(gy,44,dgy.map n64)] (zdx _ _) ?_;refine EVL.callW rfl rfl rfl rfl rfl ([(gx,44,dgx.map n64)]) ([(gy,44,dgy.map n64)]) rfl (zh1 (Wn.of dgx) dx.1 oM (qH _) hvx0) ?_;rintro v ow H3 ⟨sx,ox,cx,rx,zx',rfl,hwx,hnx,hlx,hcx,rfl,hdx,hox⟩ hle3;refine uR ?_;refine EVL.permOw [(gy,44,dgy.map n64),(gx,44,sx)] (zdx _ _) ?_;refine EVL.callW rfl rfl rfl rfl rfl ([(gy,44,dgy.map n64)]) ([(gx,44,sx)]) rfl (zh1 (Wn.of dgy) dy.1 oM (qH _) hvy0) ?_;rintro v ow H4 ⟨sy,oy,cy,ry,zy',rfl,hwy,hny,hly,hcy,rfl,hdy,hoy⟩ hle4;refine EVL.permOw [(gx,44,sx),(gy,44,sy)] (zdx _ _) ?_
 have hgcd:Nat.gcd x y=2 ^ min zx zy*Nat.gcd (val W64 rx) (val W64 ry):=by
  have e1:zx=zx':=zk8 (by rw[←hzx,hdx]) hmx hox;have e2:zy=zy':=zk8 (by rw[←hzy,hdy]) hmy hoy;subst e1 e2;rw[←vx,←vy];exact zl6 _ _ zx zy _ _ hdx hdy hox hoy
 have htw:min zx zy≤1300000000:=by omega
 generalize min zx zy=tw at *
 generalize hg:Nat.gcd (val W64 rx) (val W64 ry)=g at *
 have hbg:big (Nat.gcd x y):=qI (zjH x y hx) hbx';generalize Nat.gcd x y=gg at *
 refine uR ?_
 refine EV.loop (ι:=BSt) (fun q=>q.env (tw:Int)) (fun _=>[(4,46,Tryz.te46.zero)]) (fun q=>q.own) (fun q _=>q.ok g) (fun q=>val W64 q.lv+val W64 q.lw) ⟨gx,ox,cx,rx,sx,gy,oy,cy,ry,sy⟩
  ⟨rfl,rfl,rfl,rfl,trivial⟩ ⟨rfl,trivial⟩ rfl (fun _=>rfl) ⟨⟨hwx,hnx,hcx,qI hlx lx,hox⟩,⟨hwy,hny,hcy,qI hly ly,hoy⟩,hg⟩ ?_
 clear hdx hdy hzx hzy hwx hnx hlx hcx hwy hny hly hcy hox hoy hle1 hle2 hle3 hle4 hg;rintro⟨bv,ov,cv,lv,sv,bw,ow,cw,lw,sw⟩ G hG ⟨⟨v1,v2,v3,v4,v5⟩,⟨w1,w2,w3,w4,w5⟩,hgq⟩;dsimp only at v1 v2 v3 v4 v5 w1 w2 w3 w4 w5 hgq;unfold BSt.env BSt.own;dsimp only;refine uR ?_;refine EVL.callW rfl rfl rfl rfl rfl ([(bv,44,sv),(bw,44,sw)]) ([]) rfl (zkq v1 w1 v2 w2 oM) ?_;rintro v ow1 H5 ⟨rfl,rfl⟩ hle5;refine uR ?_;by_cases hc0:zbk (val W64 lv) (val W64 lw)=0
 ·rw[show (zbk (val W64 lv) (val W64 lw) == 0)=true by rw[hc0];rfl];have hvw:=znR hc0;rw[←hvw,Nat.gcd_self]at hgq;refine uR ?_;refine vW ([(bv,44,sv)]) ([(bw,44,sw)]) (zmF v1 v2.1 v4) ?_;rintro v ow2 H6 ⟨rfl,rfl⟩ hle6;rw[hgq,zeC];refine uR ?_
  refine EV.loop (ι:=Int × Nat) (fun q=>[(4,.p 4 0),(9,.p 9 0),(7,.v (.int .i64 q.1))]) (fun q=>[(9,46,[.int .u64 (lo q.2:Int),.string (zaj q.2)]),(4,46,Tryz.te46.zero)]) (fun _=>[(bv,44,sv),(bw,44,sw)])
   (fun q _=>q.2*2 ^ q.1.toNat=gg∧q.1≤1300000000 ∧ -100000≤q.1) (fun q=>q.1.toNat) ((tw:Int),g) ⟨rfl,rfl,rfl,trivial⟩ ⟨rfl,rfl,trivial⟩ rfl (fun _=>rfl) ⟨by dsimp only;rw[Int.toNat_natCast,hgcd,Nat.mul_comm],by dsimp only;omega,by dsimp only;omega⟩ ?_
  rintro⟨t,o⟩ G2 hG2 ⟨ht,ht1,ht2⟩;dsimp only at ht ht1 ht2;refine uR ?_;by_cases htp:t>0
  ·rw[show decide (t>0)=true by simpa using htp];obtain⟨k,hk,hkt⟩:∃k:Nat,(if (65536:Int)<t then (65536:Int) else t)=(k:Int)∧k=min t.toNat 65536:=⟨min t.toNat 65536,by split <;> omega,rfl⟩
   have hbo:big o:=by
    refine qI (zbG ?_) hbg;rw[←ht];exact Nat.le_mul_of_pos_right _ (Nat.pow_pos (by decide))
   have hsh:=zj5 o k oM hbo;refine uR ?_;rw[hk]
   repeat (first|refine RUN ?_|refine CV (hsh) ?_|refine CE (hsh) ?_)
   refine⟨(t-65536,o*2 ^ k),⟨rfl,rfl,?_,trivial⟩,⟨rfl,rfl,trivial⟩,rfl,⟨?_,by dsimp only;omega,by dsimp only;omega⟩,Hp.Le.refl _,by dsimp only;omega⟩
   ·rw[show IntKind.i64.wrap (t-65536)=t-65536 by rw[IntKind.wrap_i64];omega];rfl
   ·dsimp only;rw[←ht,Nat.mul_assoc,←Nat.pow_add];congr 2;omega
  ·rw[show decide (t>0)=false by simpa using htp];rw[show t.toNat=0 by omega,Nat.pow_zero,Nat.mul_one]at ht;subst ht;refine uR ?_;rfl
 ·rw[show (zbk (val W64 lv) (val W64 lw) == 0)=false by simpa using hc0];refine uR ?_;refine EV.meet (fun env' bx' H'=>∃q:BSt,zdW env' (q.env (tw:Int))∧zdZ bx' [(4,46,Tryz.te46.zero)]∧H'.ow=q.own∧G.Le H'.ro∧q.ok g∧val W64 q.lw<val W64 q.lv∧val W64 q.lv+val W64 q.lw=val W64 lv+val W64 lw) ?_ ?_
  ·rintro env' bx' ⟨G6,ow6,base6⟩ _ ⟨⟨bv,ov,cv,lv,sv,bw,ow,cw,lw,sw⟩,he,hbx6,how,hleG,⟨⟨v1,v2,v3,v4,v5⟩,⟨w1,w2,w3,w4,w5⟩,hgq⟩,hlt,hsum⟩;dsimp only at v1 v2 v3 v4 v5 w1 w2 w3 w4 w5 hgq hlt hsum;refine EV.less _ _ he hbx6 rfl ?_;unfold BSt.own at how;dsimp only at how;subst how;unfold BSt.env;dsimp only
   have hlen:lw.length≤lv.length:=by
    refine Nat.le_of_not_lt fun h=>?_;have:=zed zac v2.1 w2 h;omega
   refine uR ?_;refine EVL.callW rfl rfl rfl rfl rfl ([(bv,44,sv),(bw,44,sw)]) ([]) rfl (zjt v1 w1 v2.1 w2.1 oM hlen v3 oM) ?_;rintro v ow7 H7 ⟨s7,r7,rfl,hw7,hn7,hl7,rfl,hv7⟩ hle7;refine uR ?_;refine EVL.callW rfl rfl rfl rfl rfl ([(bv,44,s7)]) ([(bw,44,sw)]) rfl (zh1 hw7 hn7.1 oM oM oM) ?_;rintro v ow8 H8 ⟨s8,o8,c8,r8,z8,rfl,hw8,hn8,hl8,hc8,rfl,hd8,ho8⟩ hle8;refine uR ?_;have hr:=znl (val W64 lv) (val W64 lw) z8 (val W64 r8) w5 oM (by rw[←hv7];exact hd8);have hle9:val W64 r8≤val W64 r7:=by rw[hd8];exact Nat.le_mul_of_pos_left _ (Nat.pow_pos (by decide))
   refine⟨⟨bv,o8,c8,r8,s8,bw,ow,cw,lw,sw⟩,⟨rfl,rfl,rfl,rfl,trivial⟩,⟨rfl,trivial⟩,rfl,⟨⟨hw8,hn8,hc8,by dsimp only;omega,ho8⟩,⟨w1,w2,w3,w4,w5⟩,by dsimp only;rw[hr];exact hgq⟩,(hleG.trans hle7).trans hle8,?_⟩;dsimp only;have:=zrb w5;omega
  ·by_cases hlt:zbk (val W64 lv) (val W64 lw)<0
   ·rw[show decide (zbk (val W64 lv) (val W64 lw)<0)=true by simpa using hlt]
    have hvl:val W64 lv<val W64 lw:=by
     unfold zbk at hlt;split at hlt
     ·assumption
     ·split at hlt <;> simp at hlt
    refine EV.permOw [(bw,44,sw),(bv,44,sv)] (zdx _ _) ?_;refine uR ?_;exact⟨⟨bw,ow,cw,lw,sw,bv,ov,cv,lv,sv⟩,⟨rfl,rfl,rfl,rfl,trivial⟩,⟨rfl,trivial⟩,rfl,hle5,⟨⟨w1,w2,w3,w4,w5⟩,⟨v1,v2,v3,v4,v5⟩,by dsimp only;rw[Nat.gcd_comm];exact hgq⟩,hvl,Nat.add_comm _ _⟩
   ·rw[show decide (zbk (val W64 lv) (val W64 lw)<0)=false by simpa using hlt]
    have hvl:val W64 lw<val W64 lv:=by
     unfold zbk at hlt hc0;split at hlt
     ·simp at hlt
     ·rename_i h1;rw[if_neg h1]at hc0;split at hc0
      ·assumption
      ·simp at hc0
    refine uR ?_;exact⟨⟨bv,ov,cv,lv,sv,bw,ow,cw,lw,sw⟩,⟨rfl,rfl,rfl,rfl,trivial⟩,⟨rfl,trivial⟩,rfl,hle5,⟨⟨v1,v2,v3,v4,v5⟩,⟨w1,w2,w3,w4,w5⟩,hgq⟩,hvl,rfl⟩
theorem zqR (c1 c2:Nat) (h1:big c1) (h2:big c2) (sx sy:Bool) (hsx:c1=0→sx=false) (hsy:c2=0→sy=false) :
  PV prog 106 #[.agg #[.bool sx,.int .u64 (lo c1:Int),.string (zaj c1)],.agg #[.bool sy,.int .u64 (lo c2:Int),.string (zaj c2)]] (zaA (Nat.gcd c1 c2)):=by
 refine PV.of_pc ?_;refine BD func106 ntmps106 ?_;refine uR ?_
 (apply EV.drawn 7 kR kR;intro xv yw;(repeat (first|refine' DD ?_));refine DJ.nil (fun G hG hF=>?_);(case hS|hS2=>rfl))
 repeat (first|refine RUN ?_|refine CV (zaH c1 c2 h1 h2) ?_|refine CE (zaH c1 c2 h1 h2) ?_)
 refine EV.meet (fun env' bx' H'=>∃u w:Nat,zdW env' [(4,.p 4 0),(5,.p 5 0),(6,.p 6 0)]∧zdZ bx' [(4,46,Tryz.te46.zero),(5,46,[.int .u64 (lo u:Int),.string (zaj u)]),(6,46,[.int .u64 (lo w:Int),.string (zaj w)])]∧H'.ow=[]∧w≤u∧big u∧big w∧Nat.gcd u w=Nat.gcd c1 c2) ?_ ?_
 ·rintro env' bx' ⟨G1,ow1,base1⟩ hb ⟨u,w,he,hbx,how,hwu,hu,hw,hg⟩;obtain rfl:base1=⟨fun _=>none,[]⟩:=hb;obtain rfl:ow1=[]:=how;refine EV.less _ _ he hbx rfl ?_;clear h1 h2 hsx hsy hbx he;generalize Nat.gcd c1 c2=gg at *
  subst hg
  repeat (first|refine RUN ?_|refine CV (za0 w hw) ?_|refine CE (za0 w hw) ?_)
  rw[zbr];by_cases hw0:w=0
  ·subst hw0;rw[qD rfl,Nat.gcd_zero_right];refine uR ?_;rfl
  ·rw[qC hw0]
   repeat (first|refine RUN ?_|refine CV (zeg u w hw0 hu hw) ?_|refine CE (zeg u w hw0 hu hw) ?_)
   have hm:u % w<w:=Nat.mod_lt _ oM;have hgr:Nat.gcd u w=Nat.gcd w (u % w):=by rw[Nat.gcd_comm,Nat.gcd_rec,Nat.gcd_comm]
   have hbm:big (u % w):=qI (zrZ u w) hu;rw[hgr];generalize u % w=r at *
   generalize u / w=qq at *
   clear hgr hwu hu;rw[zeC,zeC];refine uR ?_;refine EV.less [(4,.p 4 0),(5,.p 5 0),(6,.p 6 0),(8,.p 8 0)] ([(5,46,[.int .u64 (lo u:Int),.string (zaj u)]),(4,46,Tryz.te46.zero),(6,46,[.int .u64 (lo w:Int),.string (zaj w)]),(8,46,[.int .u64 (lo r:Int),.string (zaj r)])]) ⟨rfl,rfl,rfl,rfl,trivial⟩ ⟨rfl,rfl,rfl,rfl,trivial⟩ rfl ?_;apply EV.drawnS ([(5,46,[.int .u64 (lo u:Int),.string (zaj u)])]) 3 kR kR;intro xv yw;(repeat refine' DD ?_);(refine DJ.nil (fun G hG hF=>?_);(case hS|hS2=>rfl);(case hD=>rfl))
   repeat (first|refine RUN ?_|refine CV (za0 r hbm) ?_|refine CE (za0 r hbm) ?_)
   rw[zbr];by_cases hr0:r=0
   ·subst hr0;rw[qD rfl,Nat.gcd_zero_right];refine uR ?_;rfl
   ·rw[qC hr0]
    repeat (first|refine RUN ?_|refine CV (zcG w) ?_|refine CE (zcG w) ?_)
    by_cases hws:w<W64
    ·have hrs:r<W64:=by omega
     rw[qD hws,if_pos hws]
     repeat (first|refine RUN ?_|refine CV (zcG r) ?_|refine CE (zcG r) ?_)
     rw[qD hrs,if_pos hrs];refine uR ?_;refine EV.loop (ι:=Nat × Nat) (fun q=>[(4,.p 4 0),(10,.v (n64 q.1)),(12,.v (n64 q.2))]) (fun _=>[(4,46,Tryz.te46.zero)]) (fun _=>[]) (fun q _=>q.1<W64∧q.2<W64∧Nat.gcd q.1 q.2=Nat.gcd w r) (fun q=>q.2) (w,r) ⟨rfl,rfl,rfl,trivial⟩ ⟨rfl,trivial⟩ rfl (fun _=>rfl) ⟨hws,hrs,rfl⟩ ?_;rintro⟨m,k⟩ G2 hG2 ⟨hms,hks,hgk⟩;dsimp only at hms hks hgk;refine uR ?_;by_cases hk0:k=0
     ·subst hk0;rw[show decide ((((m,0):Nat × Nat).2:Int)>0)=false from rfl];rw[Nat.gcd_zero_right]at hgk
      repeat (first|refine RUN ?_|refine CV (zb4 m hms) ?_|refine CE (zb4 m hms) ?_)
      rw[hgk]
     ·rw[show decide ((((m,k):Nat × Nat).2:Int)>0)=true by simp;omega];refine uR ?_;apply EV.drawn 6 kR kR;intro xv yw;(repeat refine' DD ?_);refine' DJ.ofVal (zaa.rem rfl rfl rfl rfl (show ((k:Nat):Int)≠0 by omega)) rfl rfl rfl ?_;rotate_left;(repeat refine' DD ?_);(refine DJ.nil (fun G hG hF=>?_);(case hS|hS2=>rfl));rw[show (((m,k):Nat × Nat).1:Int).tmod (((m,k):Nat × Nat).2:Int)=((m % k:Nat):Int) from zjr m k];refine uR ?_;refine⟨(k,m % k),⟨rfl,rfl,rfl,trivial⟩,⟨rfl,trivial⟩,rfl,⟨hks,Nat.lt_of_le_of_lt (Nat.mod_le m k) hms,?_⟩,hG,Nat.mod_lt _ oM⟩
      ·dsimp only;rw[←hgk,Nat.gcd_comm m k,Nat.gcd_rec k m,Nat.gcd_comm]
    ·rw[qC hws]
     repeat (first|refine RUN ?_|refine CV (zg7 w r hw0 hr0 hw hbm) ?_|refine CE (zg7 w r hw0 hr0 hw hbm) ?_)
     rfl
 ·by_cases hlt:c1<c2
  ·rw[zbW hlt,show decide ((-1:Int)<0)=true from rfl];refine uR ?_;exact⟨c2,c1,⟨rfl,rfl,rfl,trivial⟩,⟨rfl,rfl,rfl,trivial⟩,rfl,by omega,h2,h1,Nat.gcd_comm _ _⟩
  ·rw[show decide (zbk c1 c2<0)=false by unfold zbk;rw[if_neg hlt];split <;> rfl];refine uR ?_;exact⟨c1,c2,⟨rfl,rfl,rfl,trivial⟩,⟨rfl,rfl,rfl,trivial⟩,rfl,by omega,h1,h2,rfl⟩
theorem ziG (a b:Int) (ha:zeZ a) (hb:zeZ b):PV prog 106 #[zdJ a,zdJ b] (zaA (Nat.gcd a.natAbs b.natAbs)) :=
 zqR a.natAbs b.natAbs ha hb _ _ (fun h=>by simp;omega) (fun h=>by simp;omega)
abbrev frV (n:Int) (d:Nat):Value:=.agg #[.bool (decide (n<0)),.int .u64 (lo n.natAbs:Int),.string (zaj n.natAbs),.int .u64 (lo d:Int),.string (zaj d)]
def dk (d:Nat):Nat:=if d=1 then 0 else d
abbrev zad (q:Rat):Value:=frV q.num (dk q.den)
theorem znd:dk 1=0:=rfl
theorem zr3 {d:Nat} (h:d≠1):dk d=d:=if_neg h
theorem zr2 (d:Nat):bl (dk d)≤bl d:=by
 unfold dk;split
 ·rw[zbi];omega
 ·exact qH _
theorem zne (q:Rat):dk q.den=0↔q.den=1:=by
 have:=q.den_nz;unfold dk;split <;> omega
theorem zr0:bl 1=1:=by have:=zjI 0;simpa using this
theorem zih {n:Nat}:bl n=1↔n=1:=by
 constructor
 ·intro h;have h1:=zeA n;rw[h]at h1;have:n≠0:=fun e=>by rw[e,zbi]at h;omega
  omega
 ·rintro rfl;exact zr0
theorem zgE (n:Nat):(((bl n:Nat):Int) == 1)=decide (n=1):=by
 by_cases h:n=1
 ·rw[qD h,zih.2 h];rfl
 ·rw[qC h];have:bl n≠1:=fun e=>h (zih.1 e);simp;omega
theorem zdn (n:Int):frV n 0=.agg #[.bool (decide (n<0)),.int .u64 (lo n.natAbs:Int),.string (zaj n.natAbs),.int .u64 0,.string ⟨#[]⟩]:=by
 unfold frV;rw[zbv (n:=0) (by decide)];rfl
theorem zhG (n:Int) (d:Nat) (hd:big d):PV prog 108 #[zdJ n,zaA d] (frV n (dk d)):=by
 refine PV.of_pc ?_;refine BD func108 ntmps108 ?_
 repeat (first|refine RUN ?_|refine CV (za0 d hd) ?_|refine CE (za0 d hd) ?_)
 rw[zgE];by_cases h:d=1
 ·rw[qD h];refine uR ?_;rw[h,znd,zdn]
 ·rw[qC h];refine uR ?_;rw[zr3 h]
theorem zdL (a b:Nat) (ha:big a) (hb:big b) (h0:b≠0):PV prog 107 #[zaA a,zaA b] (zaA (a / b)):=by
 refine PV.of_pc ?_;refine BD func107 ntmps107 ?_
 repeat (first|refine RUN ?_|refine CV (za0 b hb) ?_|refine CE (za0 b hb) ?_)
 rw[zgE];by_cases h:b=1
 ·rw[qD h];refine uR ?_;rw[h,Nat.div_one]
 ·rw[qC h]
  repeat (first|refine RUN ?_|refine CV (zeg a b h0 ha hb) ?_|refine CE (zeg a b h0 ha hb) ?_)
  rfl
theorem zhH (n:Int) (b:Nat) (hn:zeZ n) (hb:big b) (h0:b≠0) (hdv:b ∣ n.natAbs):PV prog 109 #[zdJ n,zaA b] (zdJ (n / (b:Int))):=by
 have hs:decide (n.sign<0)=decide (n<0):=by rw[decide_eq_decide];exact Int.sign_neg_iff
 have hf:=zbd (decide (n<0)) (n.natAbs / b) (qI (zeQ _ _) hn)
 have e:sg (decide (n<0)) (n.natAbs / b)=n / (b:Int):=by
  rw[znU n b hdv];unfold sg;by_cases h:n<0 <;> simp[h]
 rw[e]at hf;refine PV.of_pc ?_;refine BD func109 ntmps109 ?_;refine uR ?_;apply EV.drawn 7 kR kR;intro xv yw;(repeat (first|refine' DD ?_|(refine' DC (za8 n hn) (h:=?_);rotate_left)));rw[hs];(repeat (first|refine' DD ?_|(refine' DC (zcS n) (h:=?_);rotate_left)|(refine' DC (zdL _ _ hn hb h0) (h:=?_);rotate_left)));(refine DJ.nil (fun G hG hF=>?_);(case hS|hS2=>rfl))
 repeat (first|refine RUN ?_|refine CV (hf) ?_|refine CE (hf) ?_)
 rfl
theorem zff (n:Int) (d:Nat) (hn:zeZ n) (hd:big d) (hnd:big (n.natAbs*d)):PV prog 73 #[zdJ n,zaA d] (zdJ (n*d)):=by
 have hm:=zgp n (d:Int) hn hd (by show big (n*(d:Int)).natAbs;rw[Int.natAbs_mul];exact hnd);refine PV.of_pc ?_;refine BD func73 ntmps73 ?_;refine uR ?_;apply EV.drawn 3 kR kR;intro xv yw;(repeat (first|refine' DD ?_|(refine' DC (zbd false d hd) (h:=?_);rotate_left)));(refine DJ.nil (fun G hG hF=>?_);(case hS|hS2=>rfl))
 repeat (first|refine RUN ?_|refine CV (hm) ?_|refine CE (hm) ?_)
 rfl
theorem za9 (q:Rat) (h:big q.den):PV prog 71 #[zad q] (.bool (decide (q.den=1))):=by
 refine PV.of_pc ?_;refine BD func71 ntmps71 ?_
 repeat (first|refine RUN ?_|refine CV (za0 (dk q.den) (qI (zr2 _) h)) ?_|refine CE (za0 (dk q.den) (qI (zr2 _) h)) ?_)
 have e:(((bl (dk q.den):Nat):Int) == 0)=decide (q.den=1):=by
  by_cases h1:q.den=1
  ·rw[qD h1,(zne q).2 h1,zbi];rfl
  ·rw[qC h1];have h2:bl (dk q.den)≠0:=fun e=>h1 ((zne q).1 (zgF.1 e));simp;omega
 rw[e]
theorem zfB (q:Rat) (h:big q.den):PV prog 74 #[zad q] (zaA q.den):=by
 refine PV.of_pc ?_;refine BD func74 ntmps74 ?_
 repeat (first|refine RUN ?_|refine CV (za9 q h) ?_|refine CE (za9 q h) ?_)
 by_cases h1:q.den=1
 ·rw[qD h1]
  repeat (first|refine RUN ?_|refine CV (zb4 1 (by decide)) ?_|refine CE (zb4 1 (by decide)) ?_)
  rw[h1]
 ·rw[qC h1];refine uR ?_;rw[zr3 h1]
theorem zdi (q:Rat) (h:zeZ q.num):PV prog 45 #[zad q] (.int .i64 q.num.sign):=by
 refine PV.of_pc ?_;refine BD func45 ntmps45 ?_
 repeat (first|refine RUN ?_|refine CV (za8 q.num h) ?_|refine CE (za8 q.num h) ?_)
 rfl
theorem zse (q:Rat) (h:zeZ q.num):PV prog 83 #[zad q] (zad (-q)):=by
 refine PV.of_pc ?_;refine BD func83 ntmps83 ?_;refine uR ?_
 (apply EV.drawn 5 kR kR;intro xv yw;(repeat (first|refine' DD ?_|(refine' DC (zdU q.num h) (h:=?_);rotate_left)));refine DJ.nil (fun G hG hF=>?_);(case hS|hS2=>rfl));refine uR ?_;rfl
theorem zgx (z:Int) (h1:-9223372036854775808≤z) (h2:z<9223372036854775808):PV prog 57 #[.int .i64 z] (zad (z:Rat)):=by
 refine PV.of_pc ?_;refine BD func57 ntmps57 ?_
 repeat (first|refine RUN ?_|refine CV (zg9 z h1 h2) ?_|refine CE (zg9 z h1 h2) ?_)
 show _=frV z 0;rw[zdn]
theorem ziN (n:Int) (d:Nat) (hn:zeZ n) (hd:big d) (h0:d≠0):PV prog 165 #[zdJ n,zaA d] (zad (mkRat n d)):=by
 have hl:=zdt n d h0;have hg0:Nat.gcd n.natAbs d≠0:=Nat.gcd_ne_zero_right h0;have hgb:big (Nat.gcd n.natAbs d):=qI (zbC _ _ h0) hd;have hg:=ziG n (d:Int) hn hd;have f1:=zhH n (Nat.gcd n.natAbs d) hn hgb hg0 (Nat.gcd_dvd_left ..);have f2:=zdL d (Nat.gcd n.natAbs d) hd hgb hg0;have f3:=zhG (n / (Nat.gcd n.natAbs d:Nat)) (d / Nat.gcd n.natAbs d) (qI (zeQ _ _) hd);rw[←hl.1]at f1;rw[←hl.2]at f2;rw[←hl.1,←hl.2]at f3;refine PV.of_pc ?_;refine BD func165 ntmps165 ?_;refine uR ?_
 (apply EV.drawn 5 kR kR;intro xv yw;(repeat (first|refine' DD ?_|(refine' DC (zbd false d hd) (h:=?_);rotate_left)|(refine' DC (hg) (h:=?_);rotate_left)));refine DJ.nil (fun G hG hF=>?_);(case hS|hS2=>rfl));refine uR ?_
 (apply EV.drawn 7 kR kR;intro xv yw;(repeat (first|refine' DD ?_|(refine' DC (f1) (h:=?_);rotate_left)|(refine' DC (f2) (h:=?_);rotate_left)|(refine' DC (f3) (h:=?_);rotate_left)));refine DJ.nil (fun G hG hF=>?_);(case hS|hS2=>rfl));refine uR ?_;rfl
theorem zq6 (n d:Int) (hn:zeZ n) (hd:zeZ d) (h0:d≠0):PV prog 114 #[zdJ n,zdJ d] (.tuple #[zad (mkRat (if d<0 then -n else n) d.natAbs),.bool true]):=by
 have l1:=ziN (-n) d.natAbs (by show big (-n).natAbs;rw[Int.natAbs_neg];exact hn) hd oM;have l2:=ziN n d.natAbs hn hd oM;refine PV.of_pc ?_;refine BD func114 ntmps114 ?_
 repeat (first|refine RUN ?_|refine CV (za8 d hd) ?_|refine CE (za8 d hd) ?_)
 rw[show (d.sign == 0)=false by simp[Int.sign_eq_zero_iff_zero,h0]]
 repeat (first|refine RUN ?_|refine CV (za8 d hd) ?_|refine CE (za8 d hd) ?_)
 by_cases h:d<0
 ·rw[qD (Int.sign_neg_iff.2 h),if_pos h]
  repeat (first|refine RUN ?_|refine CV (zdU n hn) ?_|refine CE (zdU n hn) ?_)
  apply EV.drawn 3 kR kR;intro xv yw;(repeat (first|refine' DD ?_|(refine' DC (zcS d) (h:=?_);rotate_left)));(refine DJ.nil (fun G hG hF=>?_);(case hS|hS2=>rfl))
  repeat (first|refine RUN ?_|refine CV (l1) ?_|refine CE (l1) ?_)
  rfl
 ·rw[qC (fun e=>h (Int.sign_neg_iff.1 e)),if_neg h];refine uR ?_;apply EV.drawn 3 kR kR;intro xv yw;(repeat (first|refine' DD ?_|(refine' DC (zcS d) (h:=?_);rotate_left)));(refine DJ.nil (fun G hG hF=>?_);(case hS|hS2=>rfl))
  repeat (first|refine RUN ?_|refine CV (l2) ?_|refine CE (l2) ?_)
  rfl
abbrev frL (n:Int) (d:Nat):List Value:=[.bool (decide (n<0)),.int .u64 (lo n.natAbs:Int),.string (zaj n.natAbs),.int .u64 (lo d:Int),.string (zaj d)]
abbrev sm (q:Rat):Prop:=ht q≤100000000
theorem sm.num {q:Rat} (h:sm q):bl q.num.natAbs≤100000000:=qI (zch q) h
theorem sm.den {q:Rat} (h:sm q):bl q.den≤100000000:=qI (zcg q) h
theorem znI (a b:Rat) (ha:sm a) (hb:sm b):PV prog 81 #[zad a,zad b] (zad (a*b)):=by
 have na:=ha.num;have da:=ha.den;have nb:=hb.num;have db:=hb.den;have bna:zeZ a.num:=qI na oM;have bnb:zeZ b.num:=qI nb oM;have bda:big a.den:=qI da oM;have bdb:big b.den:=qI db oM;have hm:=zri a b _ _ rfl rfl;generalize hg:Nat.gcd a.num.natAbs b.den=g at hm;generalize hh:Nat.gcd b.num.natAbs a.den=h at hm;have hg0:g≠0:=by rw[←hg];exact Nat.gcd_ne_zero_right b.den_nz
 have hh0:h≠0:=by rw[←hh];exact Nat.gcd_ne_zero_right a.den_nz
 have bg:big g:=by rw[←hg];exact qI (zbC _ _ b.den_nz) bdb
 have bh:big h:=by rw[←hh];exact qI (zbC _ _ a.den_nz) bda
 have g1:=ziG a.num (b.den:Int) bna bdb;have g2:=ziG b.num (a.den:Int) bnb bda;rw[Int.natAbs_natCast,hg]at g1;rw[Int.natAbs_natCast,hh]at g2;have p1:=zhH a.num g bna bg hg0 (by rw[←hg];exact Nat.gcd_dvd_left ..);have p2:=zhH b.num h bnb bh hh0 (by rw[←hh];exact Nat.gcd_dvd_left ..);have b1:bl (a.num / (g:Int)).natAbs≤100000000:=qI (zbG (zcd _ _)) na;have b2:bl (b.num / (h:Int)).natAbs≤100000000:=qI (zbG (zcd _ _)) nb;have b3:bl (a.den / h)≤100000000:=qI (zeQ _ _) da;have b4:bl (b.den / g)≤100000000:=qI (zeQ _ _) db
 have m1:=zgp (a.num / (g:Int)) (b.num / (h:Int)) (qI b1 oM) (qI b2 oM) (by
  show big (_*_:Int).natAbs;rw[Int.natAbs_mul];have:=zcX (a.num / (g:Int)).natAbs (b.num / (h:Int)).natAbs;show bl _≤_;omega)
 have m2:=zfW (a.den / h) (b.den / g) (qI b3 oM) (qI b4 oM);have pk:=zhG (a*b).num (a*b).den (by rw[hm.2];have:=zcX (a.den / h) (b.den / g);show bl _≤_;omega);have o1:=zdL a.den h bda bh hh0;have o2:=zdL b.den g bdb bg hg0;rw[←hm.1]at m1;rw[←hm.2]at m2;have w1:=za9 a bda;have w2:=za9 b bdb;refine PV.of_pc ?_;refine BD func81 ntmps81 ?_
 repeat (first|refine RUN ?_|refine CV (w1) ?_|refine CE (w1) ?_)
 refine EVL.meet (fun env' bx' H'=>zdW env' [(12,.v (.bool (decide (a.den=1∧b.den=1)))),(4,.p 4 0),(3,.p 3 0),(2,.p 2 0)]∧zdZ bx' [(4,50,Tryz.te50.zero),(3,50,frL b.num (dk b.den)),(2,50,frL a.num (dk a.den))]∧H'=⟨fun _=>none,[],⟨fun _=>none,[]⟩⟩) ?_ ?_
 ·rintro env' bx' H' _ ⟨he,hbx,rfl⟩;refine EV.less _ _ he hbx rfl ?_;by_cases hab:a.den=1∧b.den=1
  ·rw[qD hab];have e1:g=1:=by rw[←hg,hab.2,Nat.gcd_one_right]
   have e2:h=1:=by rw[←hh,hab.1,Nat.gcd_one_right]
   have e3:(a*b).den=1:=by rw[hm.2,hab.1,hab.2,e1,e2]
   rw[e1,e2]at m1;simp only[Int.natCast_one,Int.ediv_one]at m1
   repeat (first|refine RUN ?_|refine CV (m1) ?_|refine CE (m1) ?_)
   show _=frV (a*b).num (dk (a*b).den);rw[e3,znd,zdn]
  ·rw[qC hab];refine uR ?_;have d1:=zfB a bda;have d2:=zfB b bdb;have s1:=zbd false a.den bda;have s2:=zbd false b.den bdb
   (apply EV.drawn 7 kR kR;intro xv yw;(repeat (first|refine' DD ?_|(refine' DC (d2) (h:=?_);rotate_left)|(refine' DC (s2) (h:=?_);rotate_left)|(refine' DC (g1) (h:=?_);rotate_left)));refine DJ.nil (fun G hG hF=>?_);(case hS|hS2=>rfl));refine uR ?_
   (apply EV.drawn 7 kR kR;intro xv yw;(repeat (first|refine' DD ?_|(refine' DC (d1) (h:=?_);rotate_left)|(refine' DC (s1) (h:=?_);rotate_left)|(refine' DC (g2) (h:=?_);rotate_left)));refine DJ.nil (fun G hG hF=>?_);(case hS|hS2=>rfl));refine uR ?_;apply EV.drawn 16 kR kR;intro xv yw;(repeat (first|refine' DD ?_|(refine' DC (p1) (h:=?_);rotate_left)|(refine' DC (p2) (h:=?_);rotate_left)|(refine' DC (m1) (h:=?_);rotate_left)|(refine' DC (d1) (h:=?_);rotate_left)|(refine' DC (d2) (h:=?_);rotate_left)|(refine' DC (o1) (h:=?_);rotate_left)|(refine' DC (o2) (h:=?_);rotate_left)));(refine DJ.nil (fun G hG hF=>?_);(case hS|hS2=>rfl))
   repeat (first|refine RUN ?_|refine CV (o2) ?_|refine CV (m2) ?_|refine CV (pk) ?_|refine CE (o2) ?_|refine CE (m2) ?_|refine CE (pk) ?_)
   rfl
 ·by_cases ha1:a.den=1
  ·rw[qD ha1]
   repeat (first|refine RUN ?_|refine CV (w2) ?_|refine CE (w2) ?_)
   refine⟨⟨?_,rfl,rfl,rfl,trivial⟩,⟨rfl,rfl,rfl,trivial⟩,rfl⟩;simp[ha1];rfl
  ·rw[qC ha1];refine uR ?_;refine⟨⟨?_,rfl,rfl,rfl,trivial⟩,⟨rfl,rfl,rfl,trivial⟩,rfl⟩;simp[ha1];rfl
theorem zd0 (a b:Rat) (ha:sm a) (hb:sm b):PV prog 56 #[zad a,zad b] (zad (a+b)):=by
 have na:=ha.num;have da:=ha.den;have nb:=hb.num;have db:=hb.den;have bna:zeZ a.num:=qI na oM;have bnb:zeZ b.num:=qI nb oM;have bda:big a.den:=qI da oM;have bdb:big b.den:=qI db oM;have hm:=zrh a b _ _ _ _ _ rfl rfl rfl rfl rfl;generalize hg:Nat.gcd a.den b.den=g at hm;have hg0:g≠0:=by rw[←hg];exact Nat.gcd_ne_zero_right b.den_nz
 have bgl:bl g≤100000000:=by rw[←hg];exact qI (zbC _ _ b.den_nz) db
 have bg:big g:=qI bgl oM;have g1:=ziG (a.den:Int) (b.den:Int) bda bdb;rw[Int.natAbs_natCast,Int.natAbs_natCast,hg]at g1;have o1:=zdL a.den g bda bg hg0;have o2:=zdL b.den g bdb bg hg0;have b1:bl (a.den / g)≤100000000:=qI (zeQ _ _) da;have b2:bl (b.den / g)≤100000000:=qI (zeQ _ _) db
 have hone:a.den=1∧b.den=1→g=1∧a.den / g=1∧b.den / g=1:=fun h=>by
  have:g=1:=by rw[←hg,h.1,h.2];rfl
  rw[this,h.1,h.2];exact⟨rfl,rfl,rfl⟩
 generalize hdown:a.den / g=down at *
 generalize hother:b.den / g=other at *
 have c1:=zcX a.num.natAbs other;have c2:=zcX b.num.natAbs down;have t1:=zff a.num other bna (qI b2 oM) (by show bl _≤_;omega);have t2:=zff b.num down bnb (qI b1 oM) (by show bl _≤_;omega);have c1':bl (a.num*(other:Int)).natAbs≤200000000:=by rw[Int.natAbs_mul];simp;omega
 have c2':bl (b.num*(down:Int)).natAbs≤200000000:=by rw[Int.natAbs_mul];simp;omega
 have c3:=zmW (a.num*(other:Int)).natAbs (b.num*(down:Int)).natAbs;have ad:=zgn (a.num*(other:Int)) (b.num*(down:Int)) (qI c1' oM) (qI c2' oM) (by show bl _≤_;omega)
 have bup:bl (a.num*(other:Int)+b.num*(down:Int)).natAbs≤200000001:=by
  have:=zd2 (a.num*(other:Int)) (b.num*(down:Int));omega
 generalize hup:a.num*(other:Int)+b.num*(down:Int)=up at *
 generalize hh:Nat.gcd up.natAbs g=h at hm;have hh0:h≠0:=by rw[←hh];exact Nat.gcd_ne_zero_right hg0
 have bh:big h:=by rw[←hh];exact qI (zbC _ _ hg0) bg
 have g2:=ziG up (g:Int) (qI bup oM) bg;rw[Int.natAbs_natCast,hh]at g2;have p1:=zhH up h (qI bup oM) bh hh0 (by rw[←hh];exact Nat.gcd_dvd_left ..);have o3:=zdL b.den h bdb bh hh0;have b4:bl (b.den / h)≤100000000:=qI (zeQ _ _) db;have m2:=zfW down (b.den / h) (qI b1 oM) (qI b4 oM);have pk:=zhG (a+b).num (a+b).den (by rw[hm.2];have:=zcX down (b.den / h);show bl _≤_;omega);rw[←hm.1]at p1;rw[←hm.2]at m2;have w1:=za9 a bda;have w2:=za9 b bdb;refine PV.of_pc ?_;refine BD func56 ntmps56 ?_
 repeat (first|refine RUN ?_|refine CV (w1) ?_|refine CE (w1) ?_)
 refine EVL.meet (fun env' bx' H'=>zdW env' [(15,.v (.bool (decide (a.den=1∧b.den=1)))),(4,.p 4 0),(3,.p 3 0),(2,.p 2 0)]∧zdZ bx' [(4,50,Tryz.te50.zero),(3,50,frL b.num (dk b.den)),(2,50,frL a.num (dk a.den))]∧H'=⟨fun _=>none,[],⟨fun _=>none,[]⟩⟩) ?_ ?_
 ·rintro env' bx' H' _ ⟨he,hbx,rfl⟩;refine EV.less _ _ he hbx rfl ?_;by_cases hab:a.den=1∧b.den=1
  ·rw[qD hab];obtain⟨e1,e2,e3⟩:=hone hab;have e4:h=1:=by rw[←hh,e1,Nat.gcd_one_right]
   have e5:(a+b).den=1:=by rw[hm.2,e2,hab.2,e4]
   have e6:(a+b).num=a.num+b.num:=by rw[hm.1,e4,←hup,e2,e3];simp
   have c4:=zmW a.num.natAbs b.num.natAbs;have ad':=zgn a.num b.num bna bnb (by show bl _≤_;omega)
   repeat (first|refine RUN ?_|refine CV (ad') ?_|refine CE (ad') ?_)
   show _=frV (a+b).num (dk (a+b).den);rw[e5,znd,zdn,e6]
  ·rw[qC hab];refine uR ?_;have d1:=zfB a bda;have d2:=zfB b bdb;have s1:=zbd false a.den bda;have s2:=zbd false b.den bdb;have s3:=zbd false g bg
   (apply EV.drawn 8 kR kR;intro xv yw;(repeat (first|refine' DD ?_|(refine' DC (d1) (h:=?_);rotate_left)|(refine' DC (s1) (h:=?_);rotate_left)|(refine' DC (d2) (h:=?_);rotate_left)|(refine' DC (s2) (h:=?_);rotate_left)|(refine' DC (g1) (h:=?_);rotate_left)));refine DJ.nil (fun G hG hF=>?_);(case hS|hS2=>rfl));refine uR ?_
   (apply EV.drawn 10 kR kR;intro xv yw;(repeat (first|refine' DD ?_|(refine' DC (d1) (h:=?_);rotate_left)|(refine' DC (d2) (h:=?_);rotate_left)|(refine' DC (o1) (h:=?_);rotate_left)|(refine' DC (o2) (h:=?_);rotate_left)));refine DJ.nil (fun G hG hF=>?_);(case hS|hS2=>rfl));refine uR ?_
   (apply EV.drawn 10 kR kR;intro xv yw;(repeat (first|refine' DD ?_|(refine' DC (t1) (h:=?_);rotate_left)|(refine' DC (t2) (h:=?_);rotate_left)|(refine' DC (ad) (h:=?_);rotate_left)));refine DJ.nil (fun G hG hF=>?_);(case hS|hS2=>rfl));refine uR ?_
   (apply EV.drawn 5 kR kR;intro xv yw;(repeat (first|refine' DD ?_|(refine' DC (s3) (h:=?_);rotate_left)|(refine' DC (g2) (h:=?_);rotate_left)));refine DJ.nil (fun G hG hF=>?_);(case hS|hS2=>rfl));refine uR ?_
   (apply EV.drawn 10 kR kR;intro xv yw;(repeat (first|refine' DD ?_|(refine' DC (p1) (h:=?_);rotate_left)|(refine' DC (d2) (h:=?_);rotate_left)|(refine' DC (o3) (h:=?_);rotate_left)|(refine' DC (m2) (h:=?_);rotate_left)|(refine' DC (pk) (h:=?_);rotate_left)));refine DJ.nil (fun G hG hF=>?_);(case hS|hS2=>rfl));refine uR ?_;rfl
 ·by_cases ha1:a.den=1
  ·rw[qD ha1]
   repeat (first|refine RUN ?_|refine CV (w2) ?_|refine CE (w2) ?_)
   refine⟨⟨?_,rfl,rfl,rfl,trivial⟩,⟨rfl,rfl,rfl,trivial⟩,rfl⟩;simp[ha1];rfl
  ·rw[qC ha1];refine uR ?_;refine⟨⟨?_,rfl,rfl,rfl,trivial⟩,⟨rfl,rfl,rfl,trivial⟩,rfl⟩;simp[ha1];rfl
theorem zlp (a b:Rat) (ha:sm a) (hb:sm b):PV prog 24 #[zad a,zad b] (zad (a-b)):=by
 have h1:=zse b (qI hb.num oM);have h2:=zd0 a (-b) ha (by show ht (-b)≤_;rw[znr];exact hb);rw[←Rat.sub_eq_add_neg]at h2;refine PV.of_pc ?_;refine BD func24 ntmps24 ?_;refine uR ?_
 (apply EV.drawn 4 kR kR;intro xv yw;(repeat (first|refine' DD ?_|(refine' DC (h1) (h:=?_);rotate_left)|(refine' DC (h2) (h:=?_);rotate_left)));refine DJ.nil (fun G hG hF=>?_);(case hS|hS2=>rfl));refine uR ?_;rfl
theorem zqY (b:Rat) (h:b.num≠0):frV (sg (decide (b.num<0)) b.den) (dk b.num.natAbs)=zad b⁻¹:=by
 have e1:b⁻¹.num=sg (decide (b.num<0)) b.den:=by
  rw[Rat.num_inv];unfold sg;rcases Int.lt_or_lt_of_ne h with h1 | h1
  ·simp[h1,Int.sign_eq_neg_one_of_neg h1]
  ·rw[Int.sign_eq_one_of_pos h1,qC (by omega)];simp
 have e2:b⁻¹.den=b.num.natAbs:=by
  rw[Rat.den_inv,if_neg];exact h
 rw[←e1,←e2]
theorem ziB (a b:Rat) (ha:sm a) (hb:sm b) (h0:b≠0):PV prog 126 #[zad a,zad b] (.tuple #[zad (a / b),.bool true]):=by
 have hn0:b.num≠0:=fun e=>h0 (Rat.num_eq_zero.1 e);have bnb:zeZ b.num:=qI hb.num oM;have bdb:big b.den:=qI hb.den oM;have hm:=znI a b⁻¹ ha (qI (zp8 b) hb);rw[←Rat.div_def]at hm;have hp:=zhG (sg (decide (b.num<0)) b.den) b.num.natAbs bnb;rw[zqY b hn0]at hp;have s1:=zbd (decide (b.num<0)) b.den bdb;have sg1:=zdi b bnb;have ab:=zcS b.num;have d2:=zfB b bdb;refine PV.of_pc ?_;refine BD func126 ntmps126 ?_
 repeat (first|refine RUN ?_|refine CV (sg1) ?_|refine CE (sg1) ?_)
 rw[show (b.num.sign == 0)=false by simp[Int.sign_eq_zero_iff_zero,hn0]];refine uR ?_;apply EV.drawn 11 kR kR;intro xv yw;(repeat (first|refine' DD ?_|(refine' DC (sg1) (h:=?_);rotate_left)));rw[show decide (b.num.sign<0)=decide (b.num<0) by rw[decide_eq_decide];exact Int.sign_neg_iff];(repeat (first|refine' DD ?_|(refine' DC (d2) (h:=?_);rotate_left)|(refine' DC (s1) (h:=?_);rotate_left)|(refine' DC (ab) (h:=?_);rotate_left)|(refine' DC (hp) (h:=?_);rotate_left)));(refine DJ.nil (fun G hG hF=>?_);(case hS|hS2=>rfl))
 repeat (first|refine RUN ?_|refine CV (hm) ?_|refine CE (hm) ?_)
 rfl
theorem zjT (a:Rat):PV prog 126 #[zad a,zad 0] (.tuple #[zad 0,.bool false]):=by
 have sg1:=zdi 0 (by show bl 0≤_;rw[zbi];omega);refine PV.of_pc ?_;refine BD func126 ntmps126 ?_
 repeat (first|refine RUN ?_|refine CV (sg1) ?_|refine CE (sg1) ?_)
 show _=Value.tuple #[frV 0 0,.bool false];rw[zdn,show (0:Int).natAbs=0 from rfl,zbv (n:=0) (by decide)];rfl
theorem zmh (x y p q:Int) (hp:0<p) (hq:0<q) (h:x.sign≠y.sign):zf1 x y=zf1 (x*p) (y*q):=by
 have f1:x<0→x*p<0:=fun h=>Int.mul_neg_of_neg_of_pos h hp;have f2:0<x→0<x*p:=fun h=>Int.mul_pos h hp;have f3:y<0→y*q<0:=fun h=>Int.mul_neg_of_neg_of_pos h hq;have f4:0<y→0<y*q:=fun h=>Int.mul_pos h hq;have f5:x=0→x*p=0:=fun h=>by rw[h,Int.zero_mul]
 have f6:y=0→y*q=0:=fun h=>by rw[h,Int.zero_mul]
 generalize x*p=u at *
 generalize y*q=v at *
 rcases Int.lt_trichotomy x 0 with hx | hx | hx <;> rcases Int.lt_trichotomy y 0 with hy | hy | hy
 ·exact absurd (by rw[Int.sign_eq_neg_one_of_neg hx,Int.sign_eq_neg_one_of_neg hy]) h
 ·unfold zf1;rw[if_pos oM,if_pos (by have:=f1 hx;have:=f6 hy;omega)]
 ·unfold zf1;rw[if_pos oM,if_pos (by have:=f1 hx;have:=f4 hy;omega)]
 ·unfold zf1;rw[if_neg oM,if_pos oM,if_neg (by have:=f5 hx;have:=f3 hy;omega),if_pos (by have:=f5 hx;have:=f3 hy;omega)]
 ·exact absurd (by rw[hx,hy]) h
 ·unfold zf1;rw[if_pos oM,if_pos (by have:=f5 hx;have:=f4 hy;omega)]
 ·unfold zf1;rw[if_neg oM,if_pos oM,if_neg (by have:=f2 hx;have:=f3 hy;omega),if_pos (by have:=f2 hx;have:=f3 hy;omega)]
 ·unfold zf1;rw[if_neg oM,if_pos oM,if_neg (by have:=f2 hx;have:=f6 hy;omega),if_pos (by have:=f2 hx;have:=f6 hy;omega)]
 ·exact absurd (by rw[Int.sign_eq_one_of_pos hx,Int.sign_eq_one_of_pos hy]) h
theorem zoh (a b:Rat) (h:a.num.sign≠b.num.sign):zf1 a.num b.num=zc0 a b:=by
 have:=Nat.pos_of_ne_zero a.den_nz;have:=Nat.pos_of_ne_zero b.den_nz;rw[zka];exact zmh _ _ _ _ oM oM h
theorem zci (a b:Rat) (ha:sm a) (hb:sm b):PV prog 18 #[zad a,zad b] (.int .i64 (zc0 a b)):=by
 have na:=ha.num;have da:=ha.den;have nb:=hb.num;have db:=hb.den;have bna:zeZ a.num:=qI na oM;have bnb:zeZ b.num:=qI nb oM;have bda:big a.den:=qI da oM;have bdb:big b.den:=qI db oM;have w1:=za9 a bda;have w2:=za9 b bdb;have s1:=zdi a bna;have s2:=zdi b bnb;have d1:=zfB a bda;have d2:=zfB b bdb;have c1:=zcX a.num.natAbs b.den;have c2:=zcX b.num.natAbs a.den;have t1:=zff a.num b.den bna bdb (by show bl _≤_;omega);have t2:=zff b.num a.den bnb bda (by show bl _≤_;omega);have k1:=zgo a.num b.num bna bnb;have k2:=zgo (a.num*(b.den:Int)) (b.num*(a.den:Int)) (by show bl _≤_;rw[Int.natAbs_mul];simp;omega) (by show bl _≤_;rw[Int.natAbs_mul];simp;omega);rw[←zka]at k2;refine PV.of_pc ?_;refine BD func18 ntmps18 ?_;refine uR ?_;by_cases ha1:a.den=1
 ·rw[qD ha1]at w1;by_cases hb1:b.den=1
  ·rw[qD hb1]at w2;have e:zf1 a.num b.num=zc0 a b:=by rw[zka,ha1,hb1];simp
   rw[e]at k1;apply EV.drawn 10 kR kR;intro xv yw;(repeat (first|refine' DD ?_|(refine' DC (w1) (h:=?_);rotate_left)|(refine' DC (w2) (h:=?_);rotate_left)|(refine' DC (s1) (h:=?_);rotate_left)|(refine' DC (s2) (h:=?_);rotate_left)));(refine DJ.nil (fun G hG hF=>?_);(case hS|hS2=>rfl))
   repeat (first|refine RUN ?_|refine CV (k1) ?_|refine CE (k1) ?_)
   rfl
  ·rw[qC hb1]at w2;apply EV.drawn 10 kR kR;intro xv yw;(repeat (first|refine' DD ?_|(refine' DC (w1) (h:=?_);rotate_left)|(refine' DC (w2) (h:=?_);rotate_left)|(refine' DC (s1) (h:=?_);rotate_left)|(refine' DC (s2) (h:=?_);rotate_left)));(refine DJ.nil (fun G hG hF=>?_);(case hS|hS2=>rfl))
   repeat (first|refine RUN ?_|refine CV (s1) ?_|refine CV (s2) ?_|refine CE (s1) ?_|refine CE (s2) ?_)
   by_cases hs:a.num.sign=b.num.sign
   ·rw[show (a.num.sign != b.num.sign)=false by simp[hs]];refine uR ?_;apply EV.drawn 9 kR kR;intro xv yw;(repeat (first|refine' DD ?_|(refine' DC (d2) (h:=?_);rotate_left)|(refine' DC (t1) (h:=?_);rotate_left)|(refine' DC (d1) (h:=?_);rotate_left)));(refine DJ.nil (fun G hG hF=>?_);(case hS|hS2=>rfl))
    repeat (first|refine RUN ?_|refine CV (t2) ?_|refine CV (k2) ?_|refine CE (t2) ?_|refine CE (k2) ?_)
    rfl
   ·rw[show (a.num.sign != b.num.sign)=true by simp[hs]]
    repeat (first|refine RUN ?_|refine CV (k1) ?_|refine CE (k1) ?_)
    rw[zoh a b hs]
 ·rw[qC ha1]at w1;apply EV.drawn 10 kR kR;intro xv yw;(repeat (first|refine' DD ?_|(refine' DC (w1) (h:=?_);rotate_left)|(refine' DC (w2) (h:=?_);rotate_left)|(refine' DC (s1) (h:=?_);rotate_left)|(refine' DC (s2) (h:=?_);rotate_left)));(refine DJ.nil (fun G hG hF=>?_);(case hS|hS2=>rfl))
  repeat (first|refine RUN ?_|refine CV (s1) ?_|refine CV (s2) ?_|refine CE (s1) ?_|refine CE (s2) ?_)
  by_cases hs:a.num.sign=b.num.sign
  ·rw[show (a.num.sign != b.num.sign)=false by simp[hs]];refine uR ?_;apply EV.drawn 9 kR kR;intro xv yw;(repeat (first|refine' DD ?_|(refine' DC (d2) (h:=?_);rotate_left)|(refine' DC (t1) (h:=?_);rotate_left)|(refine' DC (d1) (h:=?_);rotate_left)));(refine DJ.nil (fun G hG hF=>?_);(case hS|hS2=>rfl))
   repeat (first|refine RUN ?_|refine CV (t2) ?_|refine CV (k2) ?_|refine CE (t2) ?_|refine CE (k2) ?_)
   rfl
  ·rw[show (a.num.sign != b.num.sign)=true by simp[hs]]
   repeat (first|refine RUN ?_|refine CV (k1) ?_|refine CE (k1) ?_)
   rw[zoh a b hs]
theorem zdg (z m:Int) (hz:-9223372036854775808≤z∧z<9223372036854775808) (h0:0<m) (hm:m<4611686018427387904):PV prog 26 #[.int .i64 z,.int .i64 m] (.int .i64 (z % m)):=by
 have h1:=Int.tmod_lt_of_pos z h0;have h2:=Int.lt_tmod_of_pos z h0
 have e:z % m=if z.tmod m<0 then z.tmod m+m else z.tmod m:=by
  have hq:=Int.mul_tdiv_add_tmod z m
  have e1:z % m=z.tmod m % m:=by
   conv=>lhs;rw[←hq]
   rw[Int.mul_add_emod_self_left]
  rw[e1];by_cases ht:z.tmod m<0
  ·rw[if_pos ht,←Int.add_emod_right,Int.emod_eq_of_lt oM (by omega)]
  ·rw[if_neg ht,Int.emod_eq_of_lt oM h1]
 refine PV.of_pc ?_;refine BD func26 ntmps26 ?_;refine uR ?_;refine EVL.remI rfl rfl rfl rfl rfl rfl oM ?_;generalize z.tmod m=t at *
 refine uR ?_;by_cases ht:t<0
 ·rw[if_pos ht]at e;rw[qD ht];refine uR ?_;rw[e,IntKind.wrap_i64];congr 1;omega
 ·rw[if_neg ht]at e;rw[qC ht];refine uR ?_;rw[e]
theorem zg0 {H:Hp} {v:Value} {n:Nat} (h:RN H v n) (hn:rsm n):PC prog 116 #[v] H fun r _=>r=zaA n:=by
 have hol:(ziW n).length≤200000000:=by
  rw[zcH];have:=zaO 8 n oM;rw[show (2:Nat) ^ 8=256 by decide]at this;rw[this];have:bl n≤800000000:=hn;omega
 refine BD func116 ntmps116 ?_;refine uR ?_;refine vA (zkf h hn) ?_;rintro r G hr hG;have hf:=zdd hr (zk7 n) hol;rw[zpp]at hf
 repeat (first|refine RUN ?_|refine CV (hf) ?_|refine CE (hf) ?_)
 rfl
theorem zqW {H:Hp} {v:Value} {z:Int} (h:RI H v z) (hz:rsm z.natAbs):PC prog 115 #[v] H fun r _=>r=zdJ z:=by
 obtain⟨sa,sl,sc,rfl,hs⟩:=id h;have hf:=zbd (decide (z<0)) z.natAbs (qI hz oM);rw[zsk]at hf;refine BD func115 ntmps115 ?_;refine uR ?_;apply EV.drawn 6 kR kR;intro xv yw;(repeat refine' DD ?_);refine' vC (cO func116) (fun G hG hd=>zg0 (RN.mono hs hG) hz) ?_;rotate_left;(repeat (first|refine' DD ?_|(refine' DC (hf) (h:=?_);rotate_left)));(refine DJ.nil (fun G hG hF=>?_);(case hS|hS2=>rfl));refine uR ?_;rfl
theorem zqV {H:Hp} {v:Value} {q:Rat} (h:RQ H v q) (hq:rq q):PC prog 63 #[v] H fun r _=>r=zad q:=by
 obtain⟨sa,sl,sc,ta,tl,tc,rfl,hs,ht⟩:=id h;have hn:=hq.num;have hd':=hq.den;have hf:=zbd false q.den (qI hd' oM);rw[show sg false q.den=(q.den:Int) from rfl]at hf;have hm:=zq6 q.num (q.den:Int) (qI hn oM) (qI hd' oM) (by have:=q.den_nz;omega);rw[if_neg oM,Int.natAbs_natCast,Rat.mkRat_self]at hm;refine BD func63 ntmps63 ?_;refine uR ?_;apply EV.drawn 14 kR kR;intro xv yw;(repeat refine' DD ?_);refine' vC (cO func115) (fun G hG hd=>zqW (RQ.rnum (RN.mono hs hG)) hn) ?_;rotate_left;(repeat refine' DD ?_);refine' vC (cO func116) (fun G hG hd=>zg0 (RN.mono ht hG) hd') ?_;rotate_left;(repeat (first|refine' DD ?_|(refine' DC (hf) (h:=?_);rotate_left)|(refine' DC (hm) (h:=?_);rotate_left)));(refine DJ.nil (fun G hG hF=>?_);(case hS|hS2=>rfl));refine uR ?_;rfl
def zrg (j:Nat):Int:=[1,1,1,2,3,4].getD j 1
def zn1 (z:Int):Rat:=Rat.divInt (z % 41-20) (zrg (z.tdiv 41 % 6).toNat)
theorem zgY (j:Nat):1≤zrg j∧zrg j≤4:=by
 unfold zrg;rcases j with _ | _ | _ | _ | _ | _ | j <;> simp[qB]
theorem zsT {H:Hp} (z:Int) (hz:-9223372036854775808≤z∧z<9223372036854775808):PC prog 27 #[.int .i64 z] H fun r H'=>RQ H' r (zn1 z):=by
 have hq:-9223372036854775808≤z.tdiv 41∧z.tdiv 41<9223372036854775808:=by
  by_cases h:0≤z
  ·rw[Int.tdiv_eq_ediv_of_nonneg h];omega
  ·have e:z.tdiv 41 = -((-z) / 41):=by rw[←Int.tdiv_eq_ediv_of_nonneg oM,Int.neg_tdiv,Int.neg_neg]
   rw[e];omega
 have hqw:IntKind.i64.wrap (z.tdiv 41)=z.tdiv 41:=by rw[IntKind.wrap_i64];omega
 have h1:=zdg z 41 hz oM oM;have h2:=zdg (z.tdiv 41) 6 hq oM oM;have m1:=Int.emod_nonneg z (show (41:Int)≠0 by omega);have m2:=Int.emod_lt_of_pos z (show (0:Int)<41 by omega);obtain⟨j,hj⟩:=Int.eq_ofNat_of_zero_le (Int.emod_nonneg (z.tdiv 41) (show (6:Int)≠0 by omega));have m3:=Int.emod_lt_of_pos (z.tdiv 41) (show (0:Int)<6 by omega);have hsub:IntKind.i64.wrap (z % 41-20)=z % 41-20:=by rw[IntKind.wrap_i64];omega
 have hrd:=zgY j;have hrn:zn1 z=Rat.divInt (z % 41-20) (zrg j):=by unfold zn1;rw[hj];rfl
 rw[hrn]
 have hidx:([.int .i64 1,.int .i64 1,.int .i64 1,.int .i64 2,.int .i64 3,.int .i64 4]:List Value)[j]?=some (.int .i64 (zrg j)):=by
  have hj6:j<6:=by omega
  rcases j with _|_|_|_|_|_|j <;> first|rfl|omega
 have ho:=fun G:Hp=>zmq (H:=G) (z % 41-20) (zrg j) oM oM oM oM oM;rw[hj]at h2;refine BD func27 ntmps27 ?_
 repeat (first|refine RUN ?_|refine CV (h1) ?_|refine CE (h1) ?_)
 rw[hsub];refine EVL.buildArr rfl rfl rfl rfl rfl (cs:=[.int .i64 1,.int .i64 1,.int .i64 1,.int .i64 2,.int .i64 3,.int .i64 4]) kR ?_;refine uR ?_;rw[hqw]
 repeat (first|refine RUN ?_|refine CV (h2) ?_|refine CE (h2) ?_)
 refine EVL.indexArr (e:=2) (len:=6) tO rfl rfl rfl rfl kR rfl rfl rfl rfl rfl j rfl (show j<6 by omega) hidx ?_;refine vA (ho H) ?_;rintro r G ⟨ra,rl,rc,xa,xl,xc,rfl,hn,hd⟩ hG;refine uR ?_;exact⟨ra,rl,rc,xa,xl,xc,rfl,hn,hd⟩
def QL (H:Hp) (v:Value) (l:List Rat):Prop:=SlC H v l.length 5 (l.flatMap fun q=>zah (zad q))
def RL (H:Hp) (v:Value) (l:List Rat):Prop:=∃vs:List Value,vs.length=l.length∧(∀(j:Nat) (x:Value) (q:Rat),vs[j]?=some x→l[j]?=some q→RQ H x q)∧SlC H v l.length 3 (vs.flatMap zah)
theorem QL.mono {H G:Hp} {v:Value} {l:List Rat} (h:QL H v l) (k:H.Le G):QL G v l:=SlC.mono h k
theorem RL.mono {H G:Hp} {v:Value} {l:List Rat} (h:RL H v l) (k:H.Le G):RL G v l:=by
 obtain⟨vs,h1,h2,h3⟩:=h;exact⟨vs,h1,fun j x q e1 e2=>(h2 j x q e1 e2).mono k,h3.mono k⟩
theorem QL.at {H:Hp} {v:Value} {l:List Rat} {j:Nat} {q:Rat} (hj:l[j]?=some q):((l.flatMap fun q=>zah (zad q)).drop (j*5)).take 5=zah (zad q):=ze8 _ 5 l (fun _ _=>rfl) j q hj
theorem RQ.cells {H:Hp} {x:Value} {q:Rat} (h:RQ H x q):(zah x).length=3∧zgt (zah x)=true:=by
 obtain⟨_,_,_,_,_,_,rfl,_,_⟩:=h;exact⟨rfl,rfl⟩
theorem RL.at {H:Hp} {v:Value} {l:List Rat} (h:RL H v l) {j:Nat} {q:Rat} (hj:l[j]?=some q):∃(vs:List Value) (x:Value),SlC H v l.length 3 (vs.flatMap zah)∧((vs.flatMap zah).drop (j*3)).take 3=zah x∧RQ H x q:=by
 obtain⟨vs,h1,h2,h3⟩:=h;obtain⟨hl,rfl⟩:=qE.1 hj;have hv:vs[j]?=some (vs[j]'(by omega)):=qA oM
 have hall:∀x,x∈vs→(zah x).length=3:=fun x hx=>by
  obtain⟨i,hi,rfl⟩:=List.getElem_of_mem hx;exact(h2 i _ _ (qA hi) (qA oM)).cells.1
 exact⟨vs,_,h3,ze8 _ 3 vs hall j _ hv,h2 j _ _ hv hj⟩
theorem zaz {α:Type} {l:List α} {i:Nat} {x:α} (h:l[i]?=some x):l.take (i+1)=l.take i++[x]:=by
 obtain⟨hl,rfl⟩:=qE.1 h;exact List.take_succ_eq_append_getElem hl
theorem RL.val {H:Hp} {v:Value} {l:List Rat} (h:RL H v l):∃a cap,v=.slice a l.length cap:=by
 obtain⟨vs,_,_,h3⟩:=h;exact SlC.val h3
theorem zhy {H:Hp} {v:Value} {l:List Rat} (h:RL H v l) (hl:l.length≤100000000) (hq:∀q,q∈l→rq q):PC prog 41 #[v] H fun r H'=>QL H' r l:=by
 obtain⟨a,cap,rfl⟩:=RL.val h;refine BD func41 ntmps41 ?_;refine uR ?_;refine EV.loopK (ι:=Nat × Value × Ows) [0] [] (fun q=>[(3,.v q.2.1),(4,.v (.int .i64 (q.1:Int)))]) (fun _=>[]) (fun q=>q.2.2) (fun q G=>q.1≤l.length∧zaZ 50 5 q.2.1 q.1 ((l.take q.1).flatMap fun q=>zah (zad q)) q.2.2) (fun q=>l.length-q.1) ((0,.slice none 0 0,[])) rfl rfl ⟨rfl,rfl,trivial⟩ trivial rfl (fun _=>rfl) (⟨Nat.zero_le _,zaZ.nil _ _⟩) ?_;rintro⟨i,w,ow⟩ G1 hG1 ⟨hi,hown⟩;dsimp only at hi hown;refine uR ?_;refine EV.cond rfl (fun hlt=>?_) (fun hlt=>?_)
 ·simp only[nN]at hlt;obtain⟨q,hqi⟩:=gE hlt;obtain⟨vs,x,hs,hc,hx⟩:=(h.mono hG1).at hqi;obtain⟨xa,xl,xc,ya,yl,yc,rfl,hx1,hx2⟩:=id hx;refine uR ?_;refine EVL.idxM tO rfl rfl rfl rfl rfl rfl rfl rfl rfl (hs) (i) (rfl) (hlt) (hc) ?_
  repeat (first|refine RUN ?_|refine CV (zqV hx (hq q (qF hqi))) ?_|refine CE (zqV hx (hq q (qF hqi))) ?_)
  refine EVL.app1 tO rfl rfl rfl rfl rfl rfl rfl rfl rfl rfl rfl rfl rfl rfl rfl rfl rfl rfl rfl (fun _=>rfl) (ow) ([]) ((qG _).symm) (hown) oM fun _=>?_;intro v' ow' hown';refine uR ?_;refine⟨(i+1,v',ow'),⟨rfl,?_,trivial⟩,sB,trivial,trivial,qG _,⟨by dsimp only;omega,?_⟩,Hp.Le.refl _,by dsimp only;omega⟩
  ·rw[zai i (by omega)];rfl
  ·dsimp only;rw[zaz hqi,List.flatMap_append];exact hown'
 ·simp only[nN]at hlt;obtain rfl:i=l.length:=by omega
  (first|refine EVL.publishL [] ow [] ((qG _).symm) hown fun G2 hG2 hs=>?_|refine EV.publishL [] ow [] ((qG _).symm) hown fun G2 hG2 hs=>?_);refine uR ?_;rw[List.take_length]at hs;exact hs
end
section
def zaX (l:List Rat):Rat:=l.foldl (·+·) 0
theorem zbA:zaX []=0:=rfl
theorem zcm (l:List Rat) (x:Rat):zaX (l++[x])=zaX l+x:=by unfold zaX;rw[List.foldl_append];rfl
theorem znt (B:Nat):∀(l:List Rat),(∀q,q∈l→ht q≤B)→ht (zaX l.reverse)≤1+(B+1)*l.length
 | [],_=>by rw[List.reverse_nil,zbA,zcb];exact Nat.le_add_right ..
 | x::l,h=>by
  have h1:=znt B l (fun q hq=>h q (List.mem_cons_of_mem _ hq));have h2:=h x (List.mem_cons_self ..);have h3:=zeb (zaX l.reverse) x;rw[List.reverse_cons,zcm,List.length_cons,Nat.mul_succ];omega
theorem zgQ (B:Nat) (l:List Rat) (h:∀q,q∈l→ht q≤B):ht (zaX l)≤1+(B+1)*l.length:=by
 have:=znt B l.reverse (fun q hq=>h q (List.mem_reverse.1 hq))
 rwa [List.reverse_reverse,List.length_reverse]at this
def zc2 (l:List Rat):Prop:=l.Pairwise (·≤·)
theorem zg3 {l m:List Rat} (h:zc2 l) (k:zc2 m) (p:l.Perm m):l=m:=List.Perm.eq_of_pairwise (fun a b _ _ h1 h2=>Rat.le_antisymm h1 h2) h k p
def zbp {α:Type} (l:List α) (k:Nat) (x:α):List α:=l.take k++x::l.drop k
theorem zeF {α:Type} (l:List α) (k:Nat) (x:α):(zbp l k x).Perm (l++[x]):=by
 unfold zbp;refine List.perm_middle.trans ?_;rw[List.take_append_drop];exact(List.perm_append_comm (l₁:=[x]) (l₂:=l))
theorem zi2 {l:List Rat} {k:Nat} {x:Rat} (h:zc2 l) (h1:∀y,y∈l.take k→y≤x) (h2:∀y,y∈l.drop k→x≤y):zc2 (zbp l k x):=by
 unfold zbp zc2;rw[List.pairwise_append];refine⟨h.sublist (List.take_sublist ..),List.pairwise_cons.2 ⟨fun y hy=>h2 y hy,h.sublist (List.drop_sublist ..)⟩,fun a ha b hb=>?_⟩;rcases List.mem_cons.1 hb with rfl | hb
 ·exact h1 a ha
 ·exact Rat.le_trans (h1 a ha) (h2 b hb)
theorem zkh {l:List Rat} {k:Nat} {x y:Rat} (h:zc2 l) (hk:l[k]?=some y) (hy:y≤x):∀z,z∈l.take (k+1)→z≤x:=fun z hz=>by
 obtain⟨hl,rfl⟩:=qE.1 hk;rw[List.take_succ_eq_append_getElem hl]at hz;rcases List.mem_append.1 hz with hz | hz
 ·have hp:zc2 (l.take (k+1)):=h.sublist (List.take_sublist ..);unfold zc2 at hp;rw[List.take_succ_eq_append_getElem hl,List.pairwise_append]at hp;exact Rat.le_trans (hp.2.2 z hz _ (List.mem_singleton.2 rfl)) hy
 ·rw[List.mem_singleton.1 hz];exact hy
def zje (l:List Rat):List Rat:=l.mergeSort fun a b=>decide (a≤b)
theorem zeN (l:List Rat):(zje l).Perm l:=List.mergeSort_perm l _
theorem zeX (l:List Rat):zc2 (zje l):=by
 have:=List.pairwise_mergeSort (le:=fun a b:Rat=>decide (a≤b)) (fun a b c h1 h2=>by simp at h1 h2 ⊢;exact Rat.le_trans h1 h2) (fun a b=>by simp;exact Rat.le_total) l;exact this.imp fun h=>by simpa using h
theorem zjf {l m:List Rat} (h:m.Perm l) (k:zc2 m):m=zje l:=zg3 k (zeX l) (h.trans (zeN l).symm)
end
section
open Go.RowKit _root_.Go.Proofs.Tryz
def RVs (H:Hp) (vs:List Value) (l:List Rat):Prop:=vs.length=l.length∧∀(j:Nat) (x:Value) (q:Rat),vs[j]?=some x→l[j]?=some q→RQ H x q
theorem RVs.mono {H G:Hp} {vs:List Value} {l:List Rat} (h:RVs H vs l) (k:H.Le G):RVs G vs l:=⟨h.1,fun j x q e1 e2=>(h.2 j x q e1 e2).mono k⟩
theorem RVs.nil (H:Hp):RVs H [] []:=⟨rfl,fun j x q h=>by simp at h⟩
theorem RVs.snoc {H:Hp} {vs:List Value} {l:List Rat} {x:Value} {q:Rat} (h:RVs H vs l) (k:RQ H x q):RVs H (vs++[x]) (l++[q]):=by
 refine⟨by simp[h.1],fun j y r e1 e2=>?_⟩;rw[List.getElem?_append]at e1 e2;by_cases hj:j<vs.length
 ·rw[if_pos hj]at e1;rw[if_pos (by rw[←h.1];exact hj)]at e2;exact h.2 j y r e1 e2
 ·rw[if_neg hj]at e1;rw[if_neg (by rw[←h.1];exact hj)]at e2;have:=h.1
  cases hk:j-vs.length with
  | zero =>
   rw[hk]at e1;rw[←h.1,hk]at e2;simp at e1 e2;subst e1;subst e2;exact k
  | succ m=>rw[hk]at e1;simp at e1
theorem RVs.rl {H:Hp} {vs:List Value} {l:List Rat} {v:Value} (h:RVs H vs l) (hs:SlC H v l.length 3 (vs.flatMap zah)):RL H v l:=⟨vs,h.1,h.2,hs⟩
abbrev IL (H:Hp) (v:Value) (l:List Int):Prop:=SlN (fun z:Int=>Value.int .i64 z) H v l
def zjy (l:List Int) (n:Nat):List Rat:=(List.range n).map fun i=>match l[i]? with
 | some z=>zn1 z
 | none=>0
theorem zfb (l:List Int) (n:Nat):(zjy l n).length=n:=by simp[zjy]
theorem zn8 {l:List Int} {n i:Nat} {z:Int} (hi:i<n) (h:l[i]?=some z):(zjy l n)[i]?=some (zn1 z):=by
 unfold zjy;rw[List.getElem?_map,List.getElem?_range hi];simp[h]
theorem zn7 {l:List Int} {n i:Nat} (hi:i<n) (h:l[i]?=none):(zjy l n)[i]?=some 0:=by
 unfold zjy;rw[List.getElem?_map,List.getElem?_range hi];simp[h]
theorem zqn {H:Hp} {v:Value} {l:List Int} (h:IL H v l) (hb:∀z,z∈l → -9223372036854775808≤z∧z<9223372036854775808) (n:Nat) (hn:n≤1000000):PC prog 39 #[v,.int .i64 (n:Int)] H fun r H'=>RL H' r (zjy l n):=by
 obtain⟨a,cap,rfl⟩:=SlC.val h;have hz0:=fun G:Hp=>zhM (H:=G) 0 oM oM;rw[show ((0:Int):Rat)=0 from rfl]at hz0;refine BD func39 ntmps39 ?_;refine uR ?_;refine EV.loopK (ι:=Nat × List Value × Value × Ows) [0,1] [] (fun q=>[(5,.v q.2.2.1),(6,.v (.int .i64 (q.1:Int)))]) (fun _=>[]) (fun q=>q.2.2.2) (fun q G=>q.1≤n∧RVs G q.2.1 ((zjy l n).take q.1)∧zaZ 35 3 q.2.2.1 q.1 (q.2.1.flatMap zah) q.2.2.2) (fun q=>n-q.1) ((0,[],.slice none 0 0,[])) rfl rfl ⟨rfl,rfl,trivial⟩ trivial rfl (fun _=>rfl) (⟨Nat.zero_le _,RVs.nil _,zaZ.nil _ _⟩) ?_;rintro⟨i,vs,w,ow⟩ G1 hG1 ⟨hi,hvs,hown⟩;dsimp only at hi hvs hown;refine uR ?_;refine EV.cond rfl (fun hlt=>?_) (fun hlt=>?_)
 ·simp only[nN]at hlt;refine uR ?_;refine EV.cond rfl (fun hll=>?_) (fun hll=>?_)
  ·simp only[nN]at hll;obtain⟨z,hzi⟩:=gE hll;have hzb:=hb z (qF hzi);have hq:=zn8 hlt hzi;refine uR ?_;refine vI ((h.mono hG1)) (i) (rfl) (hll) ((by rw[List.getElem?_map,hzi];rfl)) ?_;refine uR ?_;refine vA (zsT z hzb) ?_;rintro r G2 hr hG2;obtain⟨xa,xl,xc,ya,yl,yc,rfl,hx1,hx2⟩:=id hr;refine uR ?_;refine EVL.app1 tO rfl rfl rfl rfl rfl rfl rfl rfl rfl rfl rfl rfl rfl rfl rfl rfl rfl rfl rfl (fun _=>rfl) (ow) ([]) ((qG _).symm) (hown) oM fun _=>?_;intro v' ow' hown';refine uR ?_;refine⟨(i+1,vs++[_],v',ow'),⟨rfl,?_,trivial⟩,sB,trivial,trivial,qG _,⟨hlt,by rw[zaz hq];exact(hvs.mono hG2).snoc hr,?_⟩,hG2,by dsimp only;omega⟩
   ·rw[zai i (by omega)];rfl
   ·dsimp only;rw[List.flatMap_append];exact hown'
  ·simp only[nN]at hll;have hzi:l[i]?=none:=List.getElem?_eq_none oM;have hq:=zn7 hlt hzi;refine uR ?_;refine vA (hz0 _) ?_;rintro r G2 hr hG2;obtain⟨xa,xl,xc,ya,yl,yc,rfl,hx1,hx2⟩:=id hr;refine uR ?_;refine EVL.app1 tO rfl rfl rfl rfl rfl rfl rfl rfl rfl rfl rfl rfl rfl rfl rfl rfl rfl rfl rfl (fun _=>rfl) (ow) ([]) ((qG _).symm) (hown) oM fun _=>?_;intro v' ow' hown';refine uR ?_;refine⟨(i+1,vs++[_],v',ow'),⟨rfl,?_,trivial⟩,sB,trivial,trivial,qG _,⟨hlt,by rw[zaz hq];exact(hvs.mono hG2).snoc hr,?_⟩,hG2,by dsimp only;omega⟩
   ·rw[zai i (by omega)];rfl
   ·dsimp only;rw[List.flatMap_append];exact hown'
 ·simp only[nN]at hlt;obtain rfl:i=n:=by omega
  (first|refine EVL.publishL [] ow [] ((qG _).symm) hown fun G2 hG2 hs=>?_|refine EV.publishL [] ow [] ((qG _).symm) hown fun G2 hG2 hs=>?_);refine uR ?_;have e:(zjy l i).take i=zjy l i:=List.take_of_length_le (by rw[zfb];exact qH _);rw[e]at hvs;exact(hvs.mono hG2).rl (by rw[zfb];exact hs)
theorem zp9 {n:Nat} (h:n≤100000):ht ((n:Int):Rat)≤20:=by
 have:=zbI (n:Int);have h2:bl (n:Int).natAbs≤17:=za6 oM;omega
def zsF (n:Int) (d:Nat):Int :=
 let q:=n / (d:Int)
 let r:=n % (d:Int)
 if zf1 (r+r) d=0 then (if q % 2=0 then q else q+1) else if 0<zf1 (r+r) d then q+1 else q
def kb (z:Int):Nat:=(max 0 (min z 256)).toNat
def nr (k:Nat) (a:Rat):Rat:=mkRat (zsF (a.num*(2 ^ k:Nat)) a.den) (2 ^ k)
theorem znq (n d:Int) (h:d≠0):ht (Rat.divInt n d)≤max (bl n.natAbs) (bl d.natAbs):=by
 rw[ziz n d h];refine qI (zqU _ _ oM) ?_;have:(if d<0 then -n else n).natAbs=n.natAbs:=by split <;> simp
 rw[this];exact qH _
theorem zns (z:Int):ht (zn1 z)≤5:=by
 unfold zn1;have hrd:=zgY (z.tdiv 41 % 6).toNat
 have m1:=Int.emod_nonneg z (show (41:Int)≠0 by omega);have m2:=Int.emod_lt_of_pos z (show (0:Int)<41 by omega);refine qI (znq _ _ oM) (Nat.max_le.2 ⟨za6 oM,za6 oM⟩)
theorem zlf {q:Rat} {k:Nat} (h:ht q≤k) (hk:k≤100000000):rq q:=qI h hk
section
variable {P:Program} {n:Nat} {ops:Array Oper} {o:Oper} {rest:List Oper} {env:Env} {bx:Bxs} {H:Hs} {Q:EQ} {τ:Tab} {d:Nat}
end
theorem zpt (a b:Rat):zc0 a b>0↔b<a:=by
 unfold zc0;constructor
 ·intro h;split at h
  ·exact absurd h (by decide)
  ·split at h
   ·assumption
   ·exact absurd h (by decide)
 ·intro h;rw[if_neg (Rat.not_lt.2 (Rat.le_of_lt h)),if_pos h];decide
theorem zbO:zad 0=.agg #[.bool false,.int .u64 0,.string ⟨#[]⟩,.int .u64 0,.string ⟨#[]⟩]:=by
 show frV 0 0=_;rw[zdn,show (0:Int).natAbs=0 from rfl,zbv (n:=0) (by decide)];rfl
theorem zay:zah (zad 0)=[.bool false,.int .u64 0,.string ⟨#[]⟩,.int .u64 0,.string ⟨#[]⟩]:=by rw[zbO];rfl
theorem zaE {q:Rat} {n:Nat} (h:ht q≤n) (hn:n≤100000000):sm q:=qI h hn
theorem zqq {H:Hp} {v:Value} {l:List Rat} (h:QL H v l) (hl:l.length≤100000) (hb:∀q,q∈l→ht q≤100):PC prog 127 #[v] H fun r _=>r=zad (zaX l):=by
 obtain⟨a,cap,rfl⟩:=SlC.val h;have hz:zah (zad (zaX (l.take 0)))=[.bool false,.int .u64 0,.string ⟨#[]⟩,.int .u64 0,.string ⟨#[]⟩]:=zay;refine BD func127 ntmps127 ?_;refine uR ?_;refine EV.loopK (ι:=Nat) [2,3,6,7] [2] (fun i=>[(8,.v (.int .i64 (i:Int)))]) (fun i=>[(3,50,zah (zad (zaX (l.take i))))]) (fun _=>[]) (fun i G=>i≤l.length) (fun i=>l.length-i) (0) rfl rfl ⟨rfl,trivial⟩ ⟨by rw[hz];rfl,trivial⟩ rfl (fun _=>rfl) (Nat.zero_le _) ?_;intro i G1 hG1 hi;refine uR ?_;refine EV.cond rfl (fun hlt=>?_) (fun hlt=>?_)
 ·simp only[nN]at hlt;obtain⟨q,hqi⟩:=gE hlt;have hqb:=hb q (qF hqi);have hsb:=zgQ 100 (l.take i) (fun q hq=>hb q (List.mem_of_mem_take hq));rw[List.length_take,Nat.min_eq_left hi]at hsb;have hadd:=zd0 (zaX (l.take i)) q (zaE hsb oM) (zaE hqb oM);rw[←zcm,←zaz hqi]at hadd;refine uR ?_;refine EVL.idxM tO rfl rfl rfl rfl rfl rfl rfl rfl rfl ((SlC.mono (show SlC H (.slice a l.length cap) l.length 5 (l.flatMap fun q=>zah (zad q)) from h) hG1)) (i) (rfl) (hlt) ((QL.at (H:=H) (v:=.slice a l.length cap) hqi)) ?_
  repeat (first|refine RUN ?_|refine CV (hadd) ?_|refine CE (hadd) ?_)
  refine⟨i+1,⟨?_,trivial⟩,sB,⟨rfl,trivial⟩,sB,rfl,hlt,Hp.Le.refl _,by omega⟩;rw[zai i (by omega)];rfl
 ·simp only[nN]at hlt;obtain rfl:i=l.length:=by omega
  rw[List.take_length];refine uR ?_;rfl
theorem zq8 {H:Hp} {v:Value} {l:List Rat} (h:QL H v l) (hl:l.length≤100000) (h0:l.length≠0) (hb:∀q,q∈l→ht q≤100):PC prog 82 #[v] H fun r _=>r=.tuple #[zad (zaX l / ((l.length:Int):Rat)),.bool true]:=by
 obtain⟨a,cap,rfl⟩:=SlC.val h;have hs:=zgQ 100 l hb;have hln:=zp9 hl;have hsum:=zqq h hl hb;have hof:=zgx (l.length:Int) oM oM;have hd:=ziB (zaX l) ((l.length:Int):Rat) (zaE hs oM) (zaE hln oM) (by intro e;have:((l.length:Int):Rat)=((0:Int):Rat):=e;exact h0 (by have:=Rat.intCast_inj.1 this;omega));refine BD func82 ntmps82 ?_
 repeat (first|refine RUN ?_|refine CV (hsum) ?_|refine CV (hof) ?_|refine CV (hd) ?_|refine CE (hsum) ?_|refine CE (hof) ?_|refine CE (hd) ?_)
 rfl
theorem zq7 {H:Hp} {v:Value} (h:QL H v []):PC prog 82 #[v] H fun r _=>r=.tuple #[zad 0,.bool false]:=by
 obtain⟨a,cap,rfl⟩:=SlC.val h;have hsum:=zqq h (Nat.zero_le _) (by intro q hq;cases hq);have hof:=zgx 0 oM oM;rw[show ((0:Int):Rat)=0 from rfl]at hof;have hd:=zjT 0;refine BD func82 ntmps82 ?_
 repeat (first|refine RUN ?_|refine CV (hsum) ?_|refine CV (hof) ?_|refine CV (hd) ?_|refine CE (hsum) ?_|refine CE (hof) ?_|refine CE (hd) ?_)
 rfl
def zat (n:Int) (cs:List Int) (sq:Int) (q:Rat):List Value:=.int .i64 n::(cs.map (fun z=>Value.int .i64 z)++(.int .i64 sq::zah (zad q)))
theorem zao {n:Int} {cs:List Int} {sq:Int} {q:Rat} (h:cs.length=12):(zat n cs sq q).length=19:=by
 unfold zat;rw[List.length_cons,List.length_append,List.length_map,h];rfl
theorem zhq {α:Type} {a b:List α} {k:Nat} (h:a.length=k):(a++b).drop k=b:=List.drop_left' h
theorem zb5 {n:Int} {cs:List Int} {sq:Int} {q:Rat}:((zat n cs sq q).drop 0).take 1=[.int .i64 n]:=rfl
theorem zbP {n n':Int} {cs:List Int} {sq:Int} {q:Rat}:(zat n cs sq q).take 0++[.int .i64 n']++(zat n cs sq q).drop (0+1)=zat n' cs sq q:=rfl
theorem zbx (n:Int) (cs:List Int) (sq:Int) (q:Rat):zat n cs sq q=(.int .i64 n::cs.map (fun z=>Value.int .i64 z))++(.int .i64 sq::zah (zad q)):=rfl
theorem zeM {n:Int} {cs:List Int} {sq:Int} {q:Rat} (h:cs.length=12):((zat n cs sq q).drop 13).take 1=[.int .i64 sq]:=by
 rw[zbx,zhq (by rw[List.length_cons,List.length_map,h])];rfl
theorem zdR {n:Int} {cs:List Int} {sq sq':Int} {q:Rat} (h:cs.length=12):(zat n cs sq q).take 13++[.int .i64 sq']++(zat n cs sq q).drop (13+1)=zat n cs sq' q:=by
 have e:(zat n cs sq q).drop (13+1)=zah (zad q):=by
  rw[←List.drop_drop,zbx,zhq (by rw[List.length_cons,List.length_map,h])];rfl
 rw[e,zbx,List.take_left' (by rw[List.length_cons,List.length_map,h]),zbx];simp
theorem zep {n:Int} {cs:List Int} {sq:Int} {q:Rat} (h:cs.length=12):((zat n cs sq q).drop 14).take 5=zah (zad q):=by
 have e:(zat n cs sq q).drop (13+1)=zah (zad q):=by
  rw[←List.drop_drop,zbx,zhq (by rw[List.length_cons,List.length_map,h])];rfl
 rw[e];rfl
theorem zdh {n:Int} {cs:List Int} {sq:Int} {q q':Rat} (h:cs.length=12):(zat n cs sq q).take 14++zah (zad q')++(zat n cs sq q).drop (14+5)=zat n cs sq q':=by
 have hl:=zao (n:=n) (sq:=sq) (q:=q) h;have e:zat n cs sq q=(.int .i64 n::cs.map (fun z=>Value.int .i64 z)++[.int .i64 sq])++zah (zad q):=by rw[zbx];simp
 rw[List.drop_of_length_le oM,qG,e,List.take_left' (by simp[h]),zbx];simp
theorem zgg {n:Int} {cs:List Int} {sq:Int} {q:Rat} {j:Nat} {z:Int} (hj:cs[j]?=some z):((zat n cs sq q).drop (1+j)).take 1=[.int .i64 z]:=by
 obtain⟨hl,hz⟩:=qE.1 hj;unfold zat
 rw[Nat.add_comm,List.drop_succ_cons,List.drop_append_of_le_length (by rw[List.length_map];omega),List.take_append_of_le_length (by rw[List.length_drop,List.length_map];omega),List.drop_eq_getElem_cons (by rw[List.length_map];exact hl)];simp[hz]
theorem zdQ {n:Int} {cs:List Int} {sq:Int} {q:Rat} {j:Nat} (z:Int) (hj:j<cs.length):(zat n cs sq q).take (1+j)++[.int .i64 z]++(zat n cs sq q).drop (1+j+1)=zat n (cs.set j z) sq q:=by
 unfold zat
 rw[show 1+j=j+1 by omega,List.take_succ_cons,List.drop_succ_cons,List.take_append_of_le_length (by rw[List.length_map];omega),List.drop_append_of_le_length (by rw[List.length_map];omega),List.map_set];rw[List.set_eq_take_append_cons_drop,if_pos (by rw[List.length_map];exact hj)];simp
theorem zlj {n:Int} {cs:List Int} {sq:Int} {q:Rat} {j:Nat} {z:Int} (hj:cs[j]?=some z):((zat n cs sq q).drop (0+1+j)).take 1=[.int .i64 z]:=zgg hj
theorem zjc {n:Int} {cs:List Int} {sq:Int} {q:Rat} {j:Nat} (z:Int) (hj:j<cs.length):(zat n cs sq q).take (0+1+j)++[.int .i64 z]++(zat n cs sq q).drop (0+1+j+1)=zat n (cs.set j z) sq q:=zdQ z hj
theorem zcO:Tryz.prog.underlying 145=some (.array 12 3):=by kernel_rfl
theorem zeq:Tryz.te147.zero=zat 0 (List.replicate 12 0) 0 0:=by
 unfold zat;rw[zay];rfl
theorem zli {n:Int} {cs:List Int} {sq:Int} {q:Rat} (h:cs.length=12):((zat n cs sq q).drop 0).take 19=zat n cs sq q:=by
 rw[List.drop_zero,List.take_of_length_le (by rw[zao h];omega)]
abbrev zaC (kind classes:Int) (sl sv:Value):Value:=.agg #[.int .i64 kind,.int .i64 classes,sl,sv]
theorem zqE {H:Hp} {b:Nat} {cl:Int} {la:Option Addr} {ln lc:Nat} {va:Option Addr} {vc:Nat} {vals:List Rat} (hv:QL H (.slice va vals.length vc) vals) {r n:Nat} (hn:n≤1000000) {x q:Rat} (hr:vals[r]?=some x) (hx:sm x) (hq:sm q) {cs:List Int} (hc:cs.length=12) {sq:Int} :
  PW prog 125 #[.pointer (some ⟨b,0,none⟩),zaC 2 cl (.slice la ln lc) (.slice va vals.length vc),.int .i64 (r:Int)] H [(b,147,zat n cs sq q)] fun v ow _=>v=.tuple #[]∧ow=[(b,147,zat ((n+1:Nat):Int) cs sq (q+x))]:=by
 have hadd:=zd0 q x hq hx;have hlen:=zao (n:=(n:Int)) (cs:=cs) (sq:=sq) (q:=q) hc;obtain⟨hrl,_⟩:=qE.1 hr;have hs:SlC H (.slice va vals.length vc) vals.length 5 (vals.flatMap fun q=>zah (zad q)):=hv;refine PW.body tO func125 rfl kR ntmps125 rfl rfl ?_;refine uR ?_;refine RP ?_;refine EVL.loadOwn tO rfl rfl rfl rfl rfl rfl (0) rfl (zb5) rfl rfl ?_;refine RP ?_;rw[show IntKind.i64.wrap ((n:Int)+1)=((n+1:Nat):Int) by rw[IntKind.wrap_i64];omega];refine EVL.storeOwn tO rfl rfl rfl rfl rfl rfl ([]) ([]) rfl rfl rfl rfl ((by rw[hlen];show 0+1≤19;omega)) (zbP) ?_;refine uR ?_;apply EV.drawn 11 kR kR;intro xv yw;(repeat (first|refine' DD ?_|refine' vN ?_|refine' vF ?_));refine' DJ.ofVal (zaa.loadOwn tO rfl rfl rfl rfl (0) rfl (zep hc) rfl rfl) rfl rfl rfl ?_;rotate_left;(repeat (first|refine' DD ?_|refine' vN ?_|refine' vF ?_));refine' DJ.idxM tO rfl rfl rfl rfl rfl rfl rfl rfl rfl (hs) (r) (rfl) (hrl) (QL.at (H:=H) (v:=.bool true) hr) ?_;rotate_left;(repeat (first|refine' DD ?_|(refine' DC (hadd) (h:=?_);rotate_left)));(refine DJ.nil (fun G1 hG1 hF1=>?_);(case hS|hS2=>rfl));refine RP ?_;refine EVL.storeOwn tO rfl rfl rfl rfl rfl rfl ([]) ([]) rfl rfl rfl rfl ((by rw[zao hc];show 14+5≤19;omega)) (zdh hc) ?_;refine uR ?_;exact⟨rfl,rfl⟩
theorem zqC {H:Hp} {b:Nat} {cl:Int} {va:Option Addr} {vn vc:Nat} {la:Option Addr} {lc:Nat} {ls:List Int} (hv:IL H (.slice la ls.length lc) ls) {r n:Nat} (hn:n≤1000000) {k m sq:Nat} (hr:ls[r]?=some (k:Int)) (hk:k<12) {cs:List Int} (hc:cs.length=12) (hm:cs[k]?=some (m:Int)) (hmb:m≤1000000) (hsb:sq≤10000000000000) {q:Rat} :
  PW prog 125 #[.pointer (some ⟨b,0,none⟩),zaC 1 cl (.slice la ls.length lc) (.slice va vn vc),.int .i64 (r:Int)] H [(b,147,zat n cs sq q)] fun v ow _=>v=.tuple #[]∧ow=[(b,147,zat ((n+1:Nat):Int) (cs.set k ((m+1:Nat):Int)) ((sq+2*m+1:Nat):Int) q)]:=by
 have hlen:=zao (n:=(n:Int)) (cs:=cs) (sq:=(sq:Int)) (q:=q) hc;obtain⟨hrl,_⟩:=qE.1 hr
 have w1:IntKind.i64.wrap ((sq:Int)+IntKind.i64.wrap (IntKind.i64.wrap (2*(m:Int))+1))=((sq+2*m+1:Nat):Int):=by
  rw[show IntKind.i64.wrap (2*(m:Int))=2*(m:Int) by rw[IntKind.wrap_i64];omega,show IntKind.i64.wrap (2*(m:Int)+1)=2*(m:Int)+1 by rw[IntKind.wrap_i64];omega,IntKind.wrap_i64];omega
 have w2:IntKind.i64.wrap ((m:Int)+1)=((m+1:Nat):Int):=by rw[IntKind.wrap_i64];omega
 refine PW.body tO func125 rfl kR ntmps125 rfl rfl ?_;refine uR ?_;refine RP ?_;refine EVL.loadOwn tO rfl rfl rfl rfl rfl rfl (0) rfl (zb5) rfl rfl ?_;refine RP ?_;rw[show IntKind.i64.wrap ((n:Int)+1)=((n+1:Nat):Int) by rw[IntKind.wrap_i64];omega];refine EVL.storeOwn tO rfl rfl rfl rfl rfl rfl ([]) ([]) rfl rfl rfl rfl ((by rw[hlen];show 0+1≤19;omega)) (zbP) ?_;refine uR ?_;refine vI (hv) (r) (rfl) (hrl) ((by rw[List.getElem?_map,hr];rfl)) ?_;refine uR ?_;apply EV.drawn 13 kR kR;intro xv yw;(repeat (first|refine' DD ?_|refine' vN ?_|refine' vF ?_));refine' DJ.ofVal (zaa.loadOwn tO rfl rfl rfl rfl (0) rfl (zeM hc) rfl rfl) rfl rfl rfl ?_;rotate_left;(repeat (first|refine' DD ?_|refine' vN ?_|refine' vF ?_));refine' DJ.idxA tO rfl rfl rfl rfl (zcO) rfl rfl rfl rfl (k) (rfl) (hk) ?_;rotate_left;refine' DJ.ofVal (zaa.loadOwn tO rfl rfl rfl rfl (0) rfl (zlj hm) rfl rfl) rfl rfl rfl ?_;rotate_left;(repeat (first|refine' DD ?_|refine' vN ?_|refine' vF ?_));(refine DJ.nil (fun G1 hG1 hF1=>?_);(case hS|hS2=>rfl));rw[w1];refine RP ?_;refine EVL.storeOwn tO rfl rfl rfl rfl rfl rfl ([]) ([]) rfl rfl rfl rfl ((by rw[zao hc];show 13+1≤19;omega)) (zdR hc) ?_;refine uR ?_;apply EV.drawn 10 kR kR;intro xv yw;(repeat (first|refine' DD ?_|refine' vN ?_|refine' vF ?_));refine' DJ.idxA tO rfl rfl rfl rfl (zcO) rfl rfl rfl rfl (k) (rfl) (hk) ?_;rotate_left;refine' DJ.ofVal (zaa.loadOwn tO rfl rfl rfl rfl (0) rfl (zlj hm) rfl rfl) rfl rfl rfl ?_;rotate_left;(repeat (first|refine' DD ?_|refine' vN ?_|refine' vF ?_));refine' DJ.idxA tO rfl rfl rfl rfl (zcO) rfl rfl rfl rfl (k) (rfl) (hk) ?_;rotate_left;(refine DJ.nil (fun G2 hG2 hF2=>?_);(case hS|hS2=>rfl));rw[w2];refine RP ?_;refine EVL.storeOwn tO rfl rfl rfl rfl rfl rfl ([]) ([]) rfl rfl rfl rfl ((by rw[zao hc];show 0+1+k+1≤19;omega)) (zjc _ (show k<cs.length by omega)) ?_;refine uR ?_;exact⟨rfl,rfl⟩
theorem zdp {n:Nat} (h0:¬n=0):((n:Int):Rat)≠0:=fun h=>by
 have:=congrArg Rat.num h;rw[Rat.num_intCast]at this;have h3:(0:Rat).num=0:=rfl;omega
theorem za7 (x:Rat):x / 0=0:=by rw[Rat.div_def,Rat.inv_zero,Rat.mul_zero]
theorem zoE {H:Hp} {b n:Nat} {cs:List Int} (hc:cs.length=12) {sq:Nat} (hsq:sq≤10000000000000) (hn:n≤1000000) {q:Rat} :
  PW prog 79 #[.pointer (some ⟨b,0,none⟩),.int .i64 1] H [(b,147,zat n cs sq q)] fun v ow _=>v=zad (((sq:Int):Rat) / ((n:Int):Rat))∧ow=[(b,147,zat n cs sq q)]:=by
 have hof:=zgx (sq:Int) oM oM;have hof2:=zgx (n:Int) oM oM
 have hnh:ht ((n:Int):Rat)≤100:=by
  have:=zbI (n:Int);have h2:bl (n:Int).natAbs≤20:=za6 oM;omega
 have hsh:ht ((sq:Int):Rat)≤100:=by
  have:=zbI (sq:Int);have h2:bl (sq:Int).natAbs≤50:=za6 oM;omega
 refine PW.body tO func79 rfl kR ntmps79 rfl rfl ?_;refine uR ?_;refine RP ?_;refine EVL.loadOwn tO rfl rfl rfl rfl rfl rfl (0) rfl (zb5) rfl rfl ?_;refine uR ?_;by_cases h0:n=0
 ·subst h0;rw[show (((0:Nat):Int) == 0)=true from rfl];refine uR ?_;rw[show (((0:Nat):Int):Rat)=0 from rfl,za7];exact⟨zbO.symm,rfl⟩
 ·have hdiv:=ziB ((sq:Int):Rat) ((n:Int):Rat) (zaE hsh oM) (zaE hnh oM) (zdp h0);rw[show ((n:Int) == 0)=false from beq_eq_false_iff_ne.2 (by omega)];refine uR ?_;refine RP ?_;refine EVL.loadOwn tO rfl rfl rfl rfl rfl rfl (0) rfl (zeM hc) rfl rfl ?_
  repeat (first|refine RUN ?_|refine CV (hof) ?_|refine CE (hof) ?_)
  apply EV.drawn 12 kR kR;intro xv yw;(repeat (first|refine' DD ?_|refine' vN ?_|refine' vF ?_));refine' DJ.ofVal (zaa.loadOwn tO rfl rfl rfl rfl (0) rfl (zb5) rfl rfl) rfl rfl rfl ?_;rotate_left;(repeat (first|refine' DD ?_|(refine' DC (hof2) (h:=?_);rotate_left)|(refine' DC (hdiv) (h:=?_);rotate_left)));(refine DJ.nil (fun G2 hG2 hF2=>?_);(case hS|hS2=>rfl));refine uR ?_;exact⟨rfl,rfl⟩
end
section
def csL (l:List Int):List Int:=(List.range 12).map fun (k:Nat)=>(l.count (k:Int):Int)
def sqL (l:List Int):Nat:=(l.map fun x=>l.count x).sum
theorem zbu (l:List Int):(csL l).length=12:=by simp[csL]
theorem zgI (l:List Int) {k:Nat} (hk:k<12):(csL l)[k]?=some (l.count (k:Int):Int):=by
 unfold csL;rw[List.getElem?_map,List.getElem?_range hk];rfl
theorem zev (l:List Int) (x y:Int):(l++[x]).count y=l.count y+if x=y then 1 else 0:=by
 rw[List.count_append,List.count_singleton];congr 1;by_cases h:x=y
 ·rw[if_pos h,h];simp
 ·rw[if_neg h];simp[h]
theorem zhn (l:List Int) {k:Nat} (hk:k<12):csL (l++[(k:Int)])=(csL l).set k ((l.count (k:Int)+1:Nat):Int):=by
 apply List.ext_getElem?;intro j;rw[List.getElem?_set];by_cases hj:j<12
 ·rw[zgI _ hj,zgI _ hj,zev,zbu];by_cases e:k=j
  ·subst e;rw[if_pos rfl,if_pos rfl,if_pos hk]
  ·rw[if_neg e,if_neg oM,Nat.add_zero]
 ·rw[List.getElem?_eq_none (by rw[zbu];omega),List.getElem?_eq_none (by rw[zbu];omega),if_neg (by omega)]
theorem zon (l m:List Int) (x:Int):(m.map fun y=>l.count y+if x=y then 1 else 0).sum=(m.map fun y=>l.count y).sum+m.count x:=by
 induction m with
 | nil=>rfl
 | cons a m ih =>
  rw[List.map_cons,List.sum_cons,List.map_cons,List.sum_cons,ih,List.count_cons];by_cases h:x=a
  ·rw[if_pos h,h];simp;omega
  ·have h2:¬(a == x)=true:=by simp;omega
   rw[if_neg h,if_neg h2];omega
theorem zhV (l:List Int) (x:Int):sqL (l++[x])=sqL l+2*l.count x+1:=by
 unfold sqL;rw[List.map_append,List.sum_append];have e:(l.map fun y=>(l++[x]).count y)=l.map fun y=>l.count y+if x=y then 1 else 0:=List.map_congr_left fun y _=>zev l x y
 rw[e,zon]
 have:([x].map fun y=>(l++[x]).count y).sum=l.count x+1:=by
  simp
 rw[this];omega
theorem zqp (l:List Int) (B:Nat):∀m:List Int,(∀y,y∈m→l.count y≤B)→(m.map fun y=>l.count y).sum≤m.length*B
 | [],_=>by simp
 | a::m,h=>by
  have ih:=zqp l B m (fun y hy=>h y (List.mem_cons_of_mem _ hy));have:=h a (List.mem_cons_self ..);rw[List.map_cons,List.sum_cons,List.length_cons,Nat.succ_mul];omega
theorem zjh (l:List Int):sqL l≤l.length*l.length:=zqp l l.length l (fun y _=>List.count_le_length)
def atR (vals:List Rat) (rs:List Int):List Rat:=rs.map fun r=>vals.getD r.toNat 0
def atI (ls:List Int) (rs:List Int):List Int:=rs.map fun r=>ls.getD r.toNat 0
theorem zkD (vals:List Rat) {rs:List Int} {i:Nat} {r:Int} {x:Rat} (h:rs[i]?=some r) (hx:vals[r.toNat]?=some x):(atR vals rs).take (i+1)=(atR vals rs).take i++[x]:=by
 have:(atR vals rs)[i]?=some x:=by unfold atR;rw[List.getElem?_map,h];simp[hx]
 obtain⟨hl,hh⟩:=qE.1 this;rw[List.take_succ_eq_append_getElem hl,hh]
theorem zoQ (ls:List Int) {rs:List Int} {i:Nat} {r x:Int} (h:rs[i]?=some r) (hx:ls[r.toNat]?=some x):(atI ls rs).take (i+1)=(atI ls rs).take i++[x]:=by
 have:(atI ls rs)[i]?=some x:=by unfold atI;rw[List.getElem?_map,h];simp[hx]
 obtain⟨hl,hh⟩:=qE.1 this;rw[List.take_succ_eq_append_getElem hl,hh]
theorem zca (vals:List Rat) (rs:List Int):(atR vals rs).length=rs.length:=by simp[atR]
theorem zb9 (ls rs:List Int):(atI ls rs).length=rs.length:=by simp[atI]
theorem zfo {vals:List Rat} {rs:List Int} (h:∀r,r∈rs→0≤r∧r<(vals.length:Int)):∀q,q∈atR vals rs→q∈vals:=fun q hq=>by
 obtain⟨r,hr,rfl⟩:=List.mem_map.1 hq;have:=h r hr;have hl:r.toNat<vals.length:=by omega
 rw[qB,qA hl];exact List.getElem_mem hl
def zdb (l:List Rat):Rat:=zaX l / ((l.length:Int):Rat)
def ze0 (m:Rat) (l:List Rat):List Rat:=l.map fun v=>(v-m)*(v-m)
theorem zfC (m:Rat) (l:List Rat) (x:Rat):zaX (ze0 m (l++[x]))=zaX (ze0 m l)+(x-m)*(x-m):=by
 unfold ze0;rw[List.map_append,List.map_singleton,zcm]
end
section
open Go.RowKit _root_.Go.Proofs.Tryz
theorem zoA {H:Hp} {cl:Int} {va:Option Addr} {vn vc:Nat} {la:Option Addr} {lc:Nat} {ls:List Int} (hv:IL H (.slice la ls.length lc) ls) {ra:Option Addr} {rc:Nat} {rs:List Int} (hr:IL H (.slice ra rs.length rc) rs) (hn:rs.length≤100000)
  (hrs:∀r,r∈rs→0≤r∧r<(ls.length:Int)) (hls:∀z,z∈ls→0≤z∧z<12) :
  PC prog 76 #[zaC 1 cl (.slice la ls.length lc) (.slice va vn vc),.slice ra rs.length rc] H fun r _=>r=.agg (zat (rs.length:Nat) (csL (atI ls rs)) (sqL (atI ls rs)) 0).toArray:=by
 refine BD func76 ntmps76 ?_;refine uR ?_;(first|refine EVL.unbox (5) rfl fun b=>?_|refine EV.unbox (5) rfl fun b=>?_);rw[zeq];refine EV.loopK (ι:=Nat) [2,4,5,8,9] [2,4] (fun i=>[(10,.v (.int .i64 (i:Int)))]) (fun _=>[]) (fun i=>[(b,147,zat (i:Nat) (csL ((atI ls rs).take i)) (sqL ((atI ls rs).take i)) 0)]) (fun i _=>i≤rs.length) (fun i=>rs.length-i) (0) rfl rfl ⟨rfl,trivial⟩ trivial rfl (fun _=>rfl) (Nat.zero_le _) ?_;rintro i G1 hG1 hi;refine uR ?_;refine EV.cond rfl (fun hlt=>?_) (fun hlt=>?_)
 ·simp only[nN]at hlt;obtain⟨r,hri⟩:=gE hlt;have hb:=hrs r (qF hri);obtain⟨R,rfl⟩:=Int.eq_ofNat_of_zero_le hb.1;obtain⟨x,hx⟩:∃x,ls[R]?=some x:=⟨_,qA oM⟩;have hxb:=hls x (qF hx);obtain⟨k,rfl⟩:=Int.eq_ofNat_of_zero_le hxb.1;have hk:k<12:=by omega
  have ht:=zoQ ls hri (by rw[Int.toNat_natCast];exact hx);have hlen:((atI ls rs).take i).length=i:=by rw[List.length_take,zb9];omega
  have hcnt:((atI ls rs).take i).count (k:Int)≤i:=qI List.count_le_length (Nat.le_of_eq hlen);have hsq:=zjh ((atI ls rs).take i);rw[hlen]at hsq;have hsq2:i*i≤100000*100000:=Nat.mul_le_mul oM oM;have hcs:=zhn ((atI ls rs).take i) hk;have hsn:=zhV ((atI ls rs).take i) (k:Int);rw[←ht]at hcs hsn;refine uR ?_;refine vI ((hr.mono hG1)) (i) (rfl) (hlt) ((by rw[List.getElem?_map,hri];rfl)) ?_;refine uR ?_;refine EVL.callW rfl rfl rfl rfl rfl ([(b,147,zat (i:Nat) (csL ((atI ls rs).take i)) (sqL ((atI ls rs).take i)) 0)]) ([]) rfl (zqC (n:=i) (m:=((atI ls rs).take i).count (k:Int)) (sq:=sqL ((atI ls rs).take i)) (hv.mono hG1) oM hx hk (zbu _) (zgI _ hk) oM oM) ?_;rintro v ow G2 ⟨rfl,rfl⟩ hG2;rw[←hcs,←hsn];refine uR ?_;refine⟨i+1,⟨?_,trivial⟩,sB,trivial,sB,rfl,hlt,hG2,by omega⟩;rw[zai i (by omega)];rfl
 ·simp only[nN]at hlt;obtain rfl:i=rs.length:=by omega
  rw[show (atI ls rs).take rs.length=atI ls rs by rw[←zb9 ls rs,List.take_length]];have hall:=zli (n:=(rs.length:Nat)) (cs:=csL (atI ls rs)) (sq:=sqL (atI ls rs)) (q:=0) (zbu _);refine uR ?_;refine EVL.loadOwn tO rfl rfl rfl rfl rfl rfl (0) rfl (hall) rfl rfl ?_;refine uR ?_;rfl
theorem zoB {H:Hp} {cl:Int} {va:Option Addr} {vc:Nat} {vals:List Rat} {la:Option Addr} {ln lc:Nat} (hv:QL H (.slice va vals.length vc) vals) {ra:Option Addr} {rc:Nat} {rs:List Int} (hr:IL H (.slice ra rs.length rc) rs) (hn:rs.length≤10000)
  (hrs:∀r,r∈rs→0≤r∧r<(vals.length:Int)) (hls:∀q,q∈vals→ht q≤100) :
  PC prog 76 #[zaC 2 cl (.slice la ln lc) (.slice va vals.length vc),.slice ra rs.length rc] H fun r _=>r=.agg (zat (rs.length:Nat) (List.replicate 12 0) 0 (zaX (atR vals rs))).toArray:=by
 have hmem:=fun q hq=>hls q (zfo hrs q hq);refine BD func76 ntmps76 ?_;refine uR ?_;(first|refine EVL.unbox (5) rfl fun b=>?_|refine EV.unbox (5) rfl fun b=>?_);rw[zeq];refine EV.loopK (ι:=Nat) [2,4,5,8,9] [2,4] (fun i=>[(10,.v (.int .i64 (i:Int)))]) (fun _=>[]) (fun i=>[(b,147,zat (i:Nat) (List.replicate 12 0) 0 (zaX ((atR vals rs).take i)))]) (fun i _=>i≤rs.length) (fun i=>rs.length-i) (0) rfl rfl ⟨rfl,trivial⟩ trivial rfl (fun _=>rfl) (Nat.zero_le _) ?_;rintro i G1 hG1 hi;refine uR ?_;refine EV.cond rfl (fun hlt=>?_) (fun hlt=>?_)
 ·simp only[nN]at hlt;obtain⟨r,hri⟩:=gE hlt;have hb:=hrs r (qF hri);obtain⟨R,rfl⟩:=Int.eq_ofNat_of_zero_le hb.1;obtain⟨x,hx⟩:∃x,vals[R]?=some x:=⟨_,qA oM⟩;have hxb:=hls x (qF hx);have ht:=zkD vals hri (by rw[Int.toNat_natCast];exact hx);have hlen:((atR vals rs).take i).length=i:=by rw[List.length_take,zca];omega
  have hsb:=zgQ 100 ((atR vals rs).take i) (fun q hq=>hmem q (List.mem_of_mem_take hq));rw[hlen]at hsb;have hsn:=zcm ((atR vals rs).take i) x;rw[←ht]at hsn;refine uR ?_;refine vI ((hr.mono hG1)) (i) (rfl) (hlt) ((by rw[List.getElem?_map,hri];rfl)) ?_;refine uR ?_;refine EVL.callW rfl rfl rfl rfl rfl ([(b,147,zat (i:Nat) (List.replicate 12 0) 0 (zaX ((atR vals rs).take i)))]) ([]) rfl (zqE (n:=i) (hv.mono hG1) oM hx (zaE hxb oM) (zaE hsb oM) (by rfl)) ?_;rintro v ow G2 ⟨rfl,rfl⟩ hG2;rw[←hsn];refine uR ?_;refine⟨i+1,⟨?_,trivial⟩,sB,trivial,sB,rfl,hlt,hG2,by omega⟩;rw[zai i (by omega)];rfl
 ·simp only[nN]at hlt;obtain rfl:i=rs.length:=by omega
  rw[show (atR vals rs).take rs.length=atR vals rs by rw[←zca vals rs,List.take_length]];have hall:=zli (n:=(rs.length:Nat)) (cs:=List.replicate 12 0) (sq:=0) (q:=zaX (atR vals rs)) (by rfl);refine uR ?_;refine EVL.loadOwn tO rfl rfl rfl rfl rfl rfl (0) rfl (hall) rfl rfl ?_;refine uR ?_;rfl
theorem zjZ {cl:Int} {va:Option Addr} {vn vc:Nat} {la:Option Addr} {ln lc:Nat}:PV prog 78 #[zaC 1 cl (.slice la ln lc) (.slice va vn vc)] (.int .i64 (ln:Int)):=by
 refine PV.of_pc ?_;refine BD func78 ntmps78 ?_;refine uR ?_;rfl
theorem znz {cl:Int} {va:Option Addr} {vn vc:Nat} {la:Option Addr} {ln lc:Nat}:PV prog 78 #[zaC 2 cl (.slice la ln lc) (.slice va vn vc)] (.int .i64 (vn:Int)):=by
 refine PV.of_pc ?_;refine BD func78 ntmps78 ?_;refine uR ?_;rfl
theorem zd5 {va:Option Addr} {vn vc:Nat} {la:Option Addr} {lc:Nat} (h0:1≤vn) (h1:vn≤300):PV prog 75 #[zaC 2 0 (.slice la 0 lc) (.slice va vn vc)] (.int .i64 0):=by
 refine PV.of_pc ?_;have hlen:=znz (cl:=0) (va:=va) (vn:=vn) (vc:=vc) (la:=la) (ln:=0) (lc:=lc);refine BD func75 ntmps75 ?_
 repeat (first|refine RUN ?_|refine CV (hlen) ?_|refine CE (hlen) ?_)
 rw[qC (show ¬(vn:Int)<1 by omega)];refine uR ?_;rw[qC (show ¬(vn:Int)>300 by omega)];refine uR ?_;rfl
theorem zfs {H:Hp} {va:Option Addr} {vc:Nat} {la:Option Addr} {lc:Nat} {ls:List Int} (hv:IL H (.slice la ls.length lc) ls) {cl:Int} (hc:1≤cl∧cl≤12) (h0:1≤ls.length) (h1:ls.length≤300) (hls:∀z,z∈ls→0≤z∧z<cl):PC prog 75 #[zaC 1 cl (.slice la ls.length lc) (.slice va 0 vc)] H fun r _=>r=.int .i64 0:=by
 have hlen:=zjZ (cl:=cl) (va:=va) (vn:=0) (vc:=vc) (la:=la) (ln:=ls.length) (lc:=lc);refine BD func75 ntmps75 ?_
 repeat (first|refine RUN ?_|refine CV (hlen) ?_|refine CE (hlen) ?_)
 rw[qC (show ¬(ls.length:Int)<1 by omega)];refine uR ?_;rw[qC (show ¬(ls.length:Int)>300 by omega)];refine uR ?_;rw[qC (show ¬cl<1 by omega)];refine uR ?_;rw[qC (show ¬cl>12 by omega)];refine uR ?_;refine EV.loopK (ι:=Nat) [1,49,50] [1] (fun i=>[(51,.v (.int .i64 (i:Int)))]) (fun _=>[]) (fun _=>[]) (fun i _=>i≤ls.length) (fun i=>ls.length-i) (0) rfl rfl ⟨rfl,trivial⟩ trivial rfl (fun _=>rfl) (Nat.zero_le _) ?_;rintro i G1 hG1 hi;refine uR ?_;refine EV.cond rfl (fun hlt=>?_) (fun hlt=>?_)
 ·simp only[nN]at hlt;obtain⟨z,hz⟩:=gE hlt;have hb:=hls z (qF hz);refine uR ?_;refine vI ((hv.mono hG1)) (i) (rfl) (hlt) ((by rw[List.getElem?_map,hz];rfl)) ?_;refine uR ?_;rw[qC (show ¬z<0 by omega)];refine uR ?_;rw[qC (show ¬z≥cl by omega)];refine uR ?_;refine⟨i+1,⟨?_,trivial⟩,sB,trivial,sB,rfl,hlt,Hp.Le.refl _,by omega⟩;rw[zai i (by omega)];rfl
 ·try refine uR ?_
  rfl
abbrev iv:Int→Value:=fun z=>.int .i64 z
def inR (n:Nat) (r:Int):Bool:=decide (0≤r) && decide (r<(n:Int))
def exL (rs:List Int) (n:Nat):List Int:=rs.filter (inR n)
theorem zdG {rs:List Int} {n:Nat}:∀r,r∈exL rs n→0≤r∧r<(n:Int):=fun r hr=>by
 have:=(List.mem_filter.1 hr).2;unfold inR at this;simpa using this
theorem zc7 (rs:List Int) (n:Nat):(exL rs n).length≤rs.length:=List.length_filter_le _ _
theorem zjU {rs:List Int} {n:Nat} (h:∀r,r∈rs→0≤r∧r<(n:Int)):exL rs n=rs:=List.filter_eq_self.2 fun r hr=>by
 have:=h r hr;unfold inR;simp[this.1,this.2]
theorem zqP {rs:List Int} {n i:Nat} {r:Int} (h:rs[i]?=some r):exL (rs.take (i+1)) n=exL (rs.take i) n++if inR n r then [r] else []:=by
 rw[zaz h];unfold exL;rw[List.filter_append];cases hp:inR n r <;> simp[hp]
theorem zaZ.il {w:Value} {l:List Int} {ow:Ows} {T:TypeId} {x:Int} (h:zaZ T 1 w (l.length+1) (l.map iv++[iv x]) ow):zaZ T 1 w (l++[x]).length ((l++[x]).map iv) ow:=by
 rw[List.length_append,List.map_append];exact h
theorem zbS {H:Hp} {v:Value} {rs:List Int} (hr:IL H v rs) (hn:rs.length≤1000000) (n:Nat):PC prog 77 #[v,.int .i64 (n:Int)] H fun r H'=>IL H' r (exL rs n):=by
 obtain⟨a,cap,rfl⟩:=SlC.val hr;refine BD func77 ntmps77 ?_;refine uR ?_;refine EV.loopK (ι:=Nat × Value × Ows) [1,8,9] [] (fun q=>[(5,.v q.2.1),(10,.v (.int .i64 (q.1:Int)))]) (fun _=>[]) (fun q=>q.2.2) (fun q _=>q.1≤rs.length∧zaZ 3 1 q.2.1 (exL (rs.take q.1) n).length ((exL (rs.take q.1) n).map iv) q.2.2) (fun q=>rs.length-q.1) ((0,.slice none 0 0,[])) rfl rfl ⟨rfl,rfl,trivial⟩ trivial rfl (fun _=>rfl) (⟨Nat.zero_le _,zaZ.nil _ _⟩) ?_;rintro⟨i,w,ow⟩ G1 hG1 ⟨hi,hown⟩;dsimp only at hi hown;obtain⟨wa,wc,rfl⟩:=hown.val;refine uR ?_;refine EV.cond rfl (fun hlt=>?_) (fun hlt=>?_)
 ·simp only[nN]at hlt;obtain⟨r,hri⟩:=gE hlt;have hex:=zqP (n:=n) hri;have hle:=zc7 (rs.take i) n;rw[List.length_take]at hle;refine uR ?_;refine vI ((hr.mono hG1)) (i) (rfl) (hlt) ((by rw[List.getElem?_map,hri];rfl)) ?_;refine uR ?_;have wn:IntKind.i64.wrap ((i:Int)+1)=((i+1:Nat):Int):=zai i oM;by_cases h1:r≥0
  ·rw[qD h1];refine uR ?_;by_cases h2:r<(n:Int)
   ·have hp:inR n r=true:=by unfold inR;simp[h2];omega
    rw[hp,if_pos rfl]at hex;rw[qD h2];refine uR ?_;refine EVL.app1 tO rfl rfl rfl rfl rfl rfl rfl rfl rfl rfl rfl rfl rfl rfl rfl rfl rfl rfl rfl (fun _=>rfl) (ow) ([]) ((qG _).symm) (hown) oM fun _=>?_;intro v' ow' hown';refine uR ?_;refine⟨(i+1,v',ow'),⟨rfl,?_,trivial⟩,sB,trivial,trivial,qG _,⟨hlt,by rw[hex];exact hown'.il⟩,Hp.Le.refl _,by dsimp only;omega⟩;rw[wn];rfl
   ·have hp:inR n r=false:=by unfold inR;simp[h2]
    rw[hp,if_neg (by decide),qG]at hex;rw[qC h2];refine uR ?_;refine⟨(i+1,_,ow),⟨rfl,?_,trivial⟩,sB,trivial,trivial,rfl,⟨hlt,by rw[hex];exact hown⟩,Hp.Le.refl _,by dsimp only;omega⟩;rw[wn];rfl
  ·have hp:inR n r=false:=by unfold inR;simp;omega
   rw[hp,if_neg (by decide),qG]at hex;rw[qC h1];refine uR ?_;refine⟨(i+1,_,ow),⟨rfl,?_,trivial⟩,sB,trivial,trivial,rfl,⟨hlt,by rw[hex];exact hown⟩,Hp.Le.refl _,by dsimp only;omega⟩;rw[wn];rfl
 ·simp only[nN]at hlt;obtain rfl:i=rs.length:=by omega
  rw[List.take_length]at hown ⊢;(first|refine EVL.publishL [] ow [] ((qG _).symm) hown fun G2 hG2 hs=>?_|refine EV.publishL [] ow [] ((qG _).symm) hown fun G2 hG2 hs=>?_);refine uR ?_;exact hs
theorem zjn {H:Hp} {v:Value} {rs:List Int} (hr:IL H v rs) (hn:rs.length≤10000) {kd cl:Int} {va:Option Addr} {vc:Nat} {vals:List Rat} {la:Option Addr} {ln lc:Nat} (hv:QL H (.slice va vals.length vc) vals) :
  PC prog 80 #[zaC kd cl (.slice la ln lc) (.slice va vals.length vc),v] H fun r H'=>QL H' r (atR vals (exL rs vals.length)):=by
 obtain⟨a,cap,rfl⟩:=SlC.val hr;refine BD func80 ntmps80 ?_;refine uR ?_;refine EVL.call rfl rfl rfl rfl rfl (zbS hr oM vals.length) ?_;intro r1 G0 he hG0;have hel:=zc7 rs vals.length;have heb:=zdG (rs:=rs) (n:=vals.length);generalize exL rs vals.length=es at *
 obtain⟨a1,c1,rfl⟩:=SlC.val he;refine uR ?_;refine EV.loopK (ι:=Nat × Value × Ows) [2,12,13] [2] (fun q=>[(5,.v q.2.1),(14,.v (.int .i64 (q.1:Int)))]) (fun _=>[]) (fun q=>q.2.2) (fun q _=>q.1≤es.length∧zaZ 50 5 q.2.1 q.1 (((atR vals es).take q.1).flatMap fun q=>zah (zad q)) q.2.2) (fun q=>es.length-q.1) ((0,.slice none 0 0,[])) rfl rfl ⟨rfl,rfl,trivial⟩ trivial rfl (fun _=>rfl) (⟨Nat.zero_le _,zaZ.nil _ _⟩) ?_;rintro⟨i,w,ow⟩ G1 hG1 ⟨hi,hown⟩;dsimp only at hi hown;obtain⟨wa,wc,rfl⟩:=hown.val;refine uR ?_;refine EV.cond rfl (fun hlt=>?_) (fun hlt=>?_)
 ·simp only[nN]at hlt;obtain⟨r,hri⟩:=gE hlt;have hb:=heb r (qF hri);obtain⟨R,rfl⟩:=Int.eq_ofNat_of_zero_le hb.1;obtain⟨x,hx⟩:∃x,vals[R]?=some x:=⟨_,qA oM⟩;have hRl:R<vals.length:=by omega
  have ht:=zkD vals hri (by rw[Int.toNat_natCast];exact hx);have hs:SlC G1 (.slice va vals.length vc) vals.length 5 (vals.flatMap fun q=>zah (zad q)):=hv.mono (hG0.trans hG1);refine uR ?_;refine vI ((he.mono hG1)) (i) (rfl) (hlt) ((by rw[List.getElem?_map,hri];rfl)) ?_;refine uR ?_;refine EVL.idxM tO rfl rfl rfl rfl rfl rfl rfl rfl rfl (hs) (R) (rfl) (hRl) (QL.at (H:=H) (v:=.bool true) hx) ?_;refine uR ?_;refine EVL.app1 tO rfl rfl rfl rfl rfl rfl rfl rfl rfl rfl rfl rfl rfl rfl rfl rfl rfl rfl rfl (fun _=>rfl) (ow) ([]) ((qG _).symm) (hown) oM fun _=>?_;intro v' ow' hown';refine uR ?_;refine⟨(i+1,v',ow'),⟨rfl,?_,trivial⟩,sB,trivial,sB,qG _,⟨hlt,by dsimp only;rw[ht,List.flatMap_append];exact hown'⟩,Hp.Le.refl _,by dsimp only;omega⟩;rw[zai i (by omega)];rfl
 ·simp only[nN]at hlt;obtain rfl:i=es.length:=by omega
  rw[show (atR vals es).take es.length=atR vals es by rw[←zca vals es,List.take_length]]at hown;rw[←zca vals es]at hown;(first|refine EVL.publishL [] ow [] ((qG _).symm) hown fun G2 hG2 hs=>?_|refine EV.publishL [] ow [] ((qG _).symm) hown fun G2 hG2 hs=>?_);rw[←zca vals es];refine uR ?_;exact hs
theorem zft {l:List Int} (sp:List Value) {j:Nat} {q:Int} (h:l[j]?=some q):((l.map iv++sp).drop (j*1)).take 1=[iv q]:=by
 obtain⟨hl,hq⟩:=qE.1 h;rw[Nat.mul_one,List.drop_append_of_le_length (by rw[List.length_map];omega),List.drop_eq_getElem_cons (by rw[List.length_map];omega)];simp[hq]
theorem zir {l:List Int} (sp:List Value) {j:Nat} (q:Int) (h:j<l.length):(l.map iv++sp).take (j*1)++[iv q]++(l.map iv++sp).drop (j*1+1)=(l.set j q).map iv++sp:=by
 rw[Nat.mul_one,List.take_append_of_le_length (by rw[List.length_map];omega),List.drop_append_of_le_length (by rw[List.length_map];omega),List.map_set,List.set_eq_take_append_cons_drop,if_pos (by rw[List.length_map];exact h)];simp
theorem zn0 {α β:Type} (f:α→β) (l:List α) (k:Nat) (x:α):(zbp l k x).map f=zbp (l.map f) k (f x):=by
 unfold zbp;rw[List.map_append,List.map_cons,List.map_take,List.map_drop]
theorem ze6 {α:Type} {l:List α} {i:Nat} {x:α} (h:l[i]?=some x):l.drop i=x::l.drop (i+1):=by
 obtain⟨hl,rfl⟩:=qE.1 h;exact List.drop_eq_getElem_cons hl
abbrev zgv (key:Int→Rat) (l:List Int):Prop:=zc2 (l.map key)
theorem zld {key:Int→Rat} {l:List Int} {k:Nat} {x:Int} (h:zgv key l) (h1:∀y,y∈l.take k→key y≤key x) (h2:∀y,y∈l.drop k→key x≤key y):zgv key (zbp l k x):=by
 unfold zgv;rw[zn0];refine zi2 h (fun y hy=>?_) (fun y hy=>?_)
 ·rw[←List.map_take]at hy;obtain⟨z,hz,rfl⟩:=List.mem_map.1 hy;exact h1 z hz
 ·rw[←List.map_drop]at hy;obtain⟨z,hz,rfl⟩:=List.mem_map.1 hy;exact h2 z hz
theorem zn5 {key:Int→Rat} {l:List Int} {k:Nat} {x y:Int} (h:zgv key l) (hk:l[k]?=some y) (hy:key y≤key x):∀z,z∈l.take (k+1)→key z≤key x:=fun z hz =>
 zkh (k:=k) (y:=key y) h (by rw[List.getElem?_map,hk];rfl) hy (key z) (by rw[←List.map_take];exact List.mem_map_of_mem hz)
theorem zsg {acc rest:List Int} {j:Nat} {x:Int} (h:j≤acc.length):(zbp acc j x++rest)[j]?=some x:=by
 unfold zbp;rw[List.append_assoc,List.getElem?_append_right (by rw[List.length_take];omega),List.length_take,Nat.min_eq_left h,Nat.sub_self];rfl
theorem zsh {acc rest:List Int} {j:Nat} {x y:Int} (h:acc[j]?=some y):(zbp acc (j+1) x++rest)[j]?=some y:=by
 obtain⟨hl,_⟩:=qE.1 h;unfold zbp;rw[List.append_assoc,List.getElem?_append_left (by rw[List.length_take];omega),List.getElem?_take_of_lt oM,h]
theorem zpA {acc rest:List Int} {j:Nat} {x:Int}:(zbp acc j x++rest).length=acc.length+1+rest.length:=by
 have:=(zeF acc j x).length_eq;rw[List.length_append,this,List.length_append];rfl
theorem zi3 {acc rest:List Int} {j:Nat} {x y:Int} (h:acc[j]?=some y):((zbp acc (j+1) x++rest).set (j+1) y).set j x=zbp acc j x++rest:=by
 obtain⟨hl,hy⟩:=qE.1 h;have hlen:(acc.take j).length=j:=by rw[List.length_take];omega
 unfold zbp;rw[List.take_succ_eq_append_getElem hl,hy,List.drop_eq_getElem_cons hl,hy]
 rw[show (acc.take j++[y]++x::acc.drop (j+1)++rest)=acc.take j++(y::x::(acc.drop (j+1)++rest)) by simp,
  List.set_append_right (j+1) y oM,hlen,show j+1-j=1 by omega,List.set_cons_succ,List.set_cons_zero,
  List.set_append_right j x oM,hlen,Nat.sub_self,List.set_cons_zero]
 simp
theorem zml (acc rest:List Int) (x:Int):zbp acc acc.length x++rest=acc++x::rest:=by
 unfold zbp;rw[List.take_length,List.drop_length];simp
theorem zec {H:Hp} {b cap:Nat} {l:List Int} {sp:List Value} (hl:l.length≤1000) {f:FuncId} {cs:List Value} {key:Int→Rat} (hcan:zav prog f) (hcmp:∀G,H.Le G→∀x y,x∈l→y∈l→PC prog f ([iv x,iv y]++cs).toArray G fun u _=>u=.int .i64 (zc0 (key x) (key y))) :
  PW prog 285 #[.slice (some ⟨b,0,none⟩) l.length cap,.int .i64 0,.int .i64 (l.length:Int),.func (.func f) #[] cs.toArray] H [(b,3,l.map iv++sp)] fun v ow _=>v=.tuple #[]∧∃m,ow=[(b,3,m.map iv++sp)]∧m.Perm l∧zgv key m:=by
 refine PW.body tO func285 rfl kR ntmps285 rfl rfl ?_;refine uR ?_;refine EV.loopK (ι:=Nat × List Int) [0,1,2,3] [] (fun q=>[(8,.v (.int .i64 (q.1:Int)))]) (fun _=>[]) (fun q=>[(b,3,q.2.map iv++sp)]) (fun q _=>1≤q.1∧q.2.Perm l∧zgv key (q.2.take q.1)) (fun q=>l.length-q.1) ((1,l)) rfl rfl ⟨rfl,trivial⟩ trivial rfl (fun _=>rfl) (⟨qH _,List.Perm.refl _,by cases l with | nil=>exact List.Pairwise.nil | cons a l=>exact List.pairwise_singleton _ _⟩) ?_;rintro⟨i,cur⟩ G1 hG1 ⟨h1,hperm,hris⟩;dsimp only at h1 hperm hris;have hcl:=hperm.length_eq;refine uR ?_;refine EV.cond rfl (fun hlt=>?_) (fun hlt=>?_)
 ·simp only[nN]at hlt;obtain⟨x,hxi⟩:∃x,cur[i]?=some x:=⟨_,qA oM⟩;have hcut:cur=cur.take i++x::cur.drop (i+1):=by rw[←ze6 hxi,List.take_append_drop]
  have hal:(cur.take i).length=i:=by rw[List.length_take];omega
  have hxm:x∈l:=hperm.mem_iff.1 (qF hxi);have hma:∀y,y∈cur.take i→y∈l:=fun y hy=>hperm.mem_iff.1 (List.mem_of_mem_take hy);have hrl:(cur.drop (i+1)).length=l.length-(i+1):=by rw[List.length_drop];omega
  have hst:=zml (cur.take i) (cur.drop (i+1)) x;rw[hal,←hcut]at hst;generalize hacc:cur.take i=acc at *
  generalize cur.drop (i+1)=rest at *
  subst hal;subst hst;refine uR ?_;refine EV.loopK (ι:=Nat) [0,1,2,3,8] [] (fun j=>[(9,.v (.int .i64 (j:Int)))]) (fun _=>[]) (fun j=>[(b,3,(zbp acc j x++rest).map iv++sp)]) (fun j _=>j≤acc.length∧∀y,y∈acc.drop j→key x≤key y) (fun j=>j) (acc.length) rfl rfl ⟨rfl,trivial⟩ trivial rfl (fun _=>rfl) (⟨qH _,by rw[List.drop_length];intro y hy;cases hy⟩) ?_;rintro j G2 hG2 ⟨hj,hgr⟩;have hlen:=zpA (acc:=acc) (rest:=rest) (j:=j) (x:=x);have hx':=zsg (rest:=rest) (x:=x) hj;have hp':=zeF acc j x;have hsum:(zbp acc j x++rest).length=l.length:=by rw[hlen];omega
  rw[←hsum]
  have next:(zbp acc j x++rest).Perm l:=by
   refine List.Perm.trans ?_ hperm;exact(hp'.trans (zeF acc acc.length x).symm).append_right rest
  have fin:zgv key (zbp acc j x)→zgv key ((zbp acc j x++rest).take (acc.length+1)):=fun h=>by
   rw[List.take_append_of_le_length (by rw[hp'.length_eq];simp)]
   rwa [List.take_of_length_le (by rw[hp'.length_eq];simp)]
  cases j with
  | zero =>
   have hr:=fin (zld hris (by intro y hy;rw[List.take_zero]at hy;cases hy) hgr);refine uR ?_;apply EV.drawn 17 kR kR;intro xv yw;(repeat refine' DD ?_);(refine DJ.nil (fun G3 hG3 hF3=>?_);(case hS|hS2=>rfl));refine uR ?_;refine⟨(acc.length+1,zbp acc 0 x++rest),⟨?_,trivial⟩,sB,trivial,trivial,rfl,⟨by omega,next,hr⟩,hG2.trans hG3,by dsimp only;omega⟩;rw[zai _ (by omega)];rfl
  | succ j =>
   obtain⟨y,hyj⟩:∃y,acc[j]?=some y:=⟨_,qA oM⟩;have hy':=zsh (rest:=rest) (x:=x) hyj;have hc:=fun G (hG:H.Le G)=>hcmp G hG x y hxm (hma y (qF hyj))
   have hlo:zc0 (key x) (key y)<0→key x≤key y:=fun h=>by
    unfold zc0 at h;split at h
    ·exact Rat.le_of_lt (by assumption)
    ·split at h <;> omega
   have hge:¬zc0 (key x) (key y)<0→key y≤key x:=fun h=>by
    unfold zc0 at h;split at h
    ·omega
    ·rename_i k;exact Rat.not_lt.1 k
   generalize zc0 (key x) (key y)=o at *
   refine uR ?_;apply EV.drawn 17 kR kR;intro xv yw;(repeat refine' DD ?_);rw[qD (show ((j+1:Nat):Int)>0 by omega)];(repeat refine' DD ?_);refine' DJ.idxB tO rfl rfl rfl rfl rfl rfl rfl rfl rfl (j+1) ((j+1)*1) (rfl) (oM) (rfl) ?_;rotate_left;refine' DJ.ofVal (zaa.loadOwn tO rfl rfl rfl rfl (0) rfl (zft sp hx') rfl rfl) rfl rfl rfl ?_;rotate_left;(repeat refine' DD ?_);refine' DJ.idxB tO rfl rfl rfl rfl rfl rfl rfl rfl rfl (j) (j*1) ((by rw[IntKind.wrap_i64];omega)) (oM) (rfl) ?_;rotate_left;refine' DJ.ofVal (zaa.loadOwn tO rfl rfl rfl rfl (0) rfl (zft sp hy') rfl rfl) rfl rfl rfl ?_;rotate_left;(refine' DJ.callC (f:=f) (cs:=cs) rfl rfl rfl rfl rfl rfl hcan (fun G hG=>hc G (hG1.trans (hG2.trans hG))) ?_;rotate_left);(repeat refine' DD ?_);(refine DJ.nil (fun G3 hG3 hF3=>?_);(case hS|hS2=>rfl));refine uR ?_;by_cases ho:o<0
   ·rw[qD ho];have hxy:=hlo ho;refine uR ?_;refine EVA.start kR ?_;refine EVA.val tO (0) rfl kR kR kR rfl rfl rfl rfl rfl ?_;refine EVA.val tO (1) rfl kR kR kR rfl rfl rfl rfl rfl ?_;refine EVA.val tO (5) rfl kR kR kR rfl rfl rfl rfl rfl ?_;refine EVA.val tO (6) rfl kR kR kR rfl rfl rfl rfl rfl ?_;refine EVA.val tO (7) rfl kR kR kR rfl rfl rfl rfl rfl ?_;refine EVA.idxB tO (8) rfl kR kR kR rfl rfl rfl rfl rfl rfl rfl rfl rfl (j) (j*1) ((by rw[IntKind.wrap_i64];omega)) (oM) (rfl) ?_;refine EVA.val tO (10) rfl kR kR kR rfl rfl rfl rfl rfl ?_;refine EVA.val tO (11) rfl kR kR kR rfl rfl rfl rfl rfl ?_;refine EVA.idxB tO (12) rfl kR kR kR rfl rfl rfl rfl rfl rfl rfl rfl rfl (j+1) ((j+1)*1) (rfl) (oM) (rfl) ?_;refine EVA.val tO (2) rfl kR kR kR rfl rfl rfl rfl rfl ?_;refine EVA.val tO (3) rfl kR kR kR rfl rfl rfl rfl rfl ?_;refine EVA.val tO (4) rfl kR kR kR rfl rfl rfl rfl rfl ?_;refine EVA.two 9 13 kR rfl rfl ?_ ?_
    ·refine EVL.loadOwn tO rfl rfl rfl rfl rfl rfl (0) rfl (zft sp hy') rfl rfl ?_;refine EVL.nil ⟨rfl,?_⟩;refine EVA.one 13 kR rfl ?_;refine EVL.loadOwn tO rfl rfl rfl rfl rfl rfl (0) rfl (zft sp hx') rfl rfl ?_;refine EVL.nil ⟨rfl,?_⟩;refine EVA.idxB tO (14) rfl kR kR kR rfl rfl rfl rfl rfl rfl rfl rfl rfl (j+1) ((j+1)*1) (rfl) (oM) (rfl) ?_;refine EVA.one 15 kR rfl ?_;refine EVL.storeOwn tO rfl rfl rfl rfl rfl rfl ([]) ([]) rfl rfl rfl rfl ((by rw[List.length_append,List.length_map];show (j+1)*1+1≤_;omega)) ((zir sp y (show j+1<(zbp acc (j+1) x++rest).length by omega))) ?_;refine EVL.nil ⟨rfl,?_⟩;refine EVA.idxB tO (16) rfl kR kR kR rfl rfl rfl rfl rfl rfl rfl rfl rfl (j) (j*1) ((by rw[IntKind.wrap_i64];omega)) (oM) (rfl) ?_;refine EVA.one 17 kR rfl ?_;refine EVL.storeOwn tO rfl rfl rfl rfl rfl rfl ([]) ([]) rfl rfl rfl rfl ((by rw[List.length_append,List.length_map,List.length_set];show j*1+1≤_;omega)) ((zir sp x (show j<((zbp acc (j+1) x++rest).set (j+1) y).length by rw[List.length_set];omega))) ?_;refine EVL.nil ⟨rfl,?_⟩;refine EVA.nil kR ?_;rw[zi3 hyj];refine uR ?_;refine⟨j,⟨?_,trivial⟩,sB,trivial,trivial,rfl,⟨by omega,?_⟩,hG3,by omega⟩
     ·rw[show IntKind.i64.wrap (((j+1:Nat):Int)-1)=(j:Int) by rw[IntKind.wrap_i64];omega];rfl
     ·intro z hz;rw[ze6 hyj]at hz;rcases List.mem_cons.1 hz with rfl | hz
      ·exact hxy
      ·exact hgr z hz
    ·refine EVL.loadOwn tO rfl rfl rfl rfl rfl rfl (0) rfl (zft sp hx') rfl rfl ?_;refine EVL.nil ⟨rfl,?_⟩;refine EVA.one 9 kR rfl ?_;refine EVL.loadOwn tO rfl rfl rfl rfl rfl rfl (0) rfl (zft sp hy') rfl rfl ?_;refine EVL.nil ⟨rfl,?_⟩;refine EVA.idxB tO (14) rfl kR kR kR rfl rfl rfl rfl rfl rfl rfl rfl rfl (j+1) ((j+1)*1) (rfl) (oM) (rfl) ?_;refine EVA.one 15 kR rfl ?_;refine EVL.storeOwn tO rfl rfl rfl rfl rfl rfl ([]) ([]) rfl rfl rfl rfl ((by rw[List.length_append,List.length_map];show (j+1)*1+1≤_;omega)) ((zir sp y (show j+1<(zbp acc (j+1) x++rest).length by omega))) ?_;refine EVL.nil ⟨rfl,?_⟩;refine EVA.idxB tO (16) rfl kR kR kR rfl rfl rfl rfl rfl rfl rfl rfl rfl (j) (j*1) ((by rw[IntKind.wrap_i64];omega)) (oM) (rfl) ?_;refine EVA.one 17 kR rfl ?_;refine EVL.storeOwn tO rfl rfl rfl rfl rfl rfl ([]) ([]) rfl rfl rfl rfl ((by rw[List.length_append,List.length_map,List.length_set];show j*1+1≤_;omega)) ((zir sp x (show j<((zbp acc (j+1) x++rest).set (j+1) y).length by rw[List.length_set];omega))) ?_;refine EVL.nil ⟨rfl,?_⟩;refine EVA.nil kR ?_;rw[zi3 hyj];refine uR ?_;refine⟨j,⟨?_,trivial⟩,sB,trivial,trivial,rfl,⟨by omega,?_⟩,hG3,by omega⟩
     ·rw[show IntKind.i64.wrap (((j+1:Nat):Int)-1)=(j:Int) by rw[IntKind.wrap_i64];omega];rfl
     ·intro z hz;rw[ze6 hyj]at hz;rcases List.mem_cons.1 hz with rfl | hz
      ·exact hxy
      ·exact hgr z hz
   ·rw[qC ho];have hr:=fin (zld hris (zn5 hris hyj (hge ho)) hgr);refine uR ?_;refine⟨(acc.length+1,zbp acc (j+1) x++rest),⟨?_,trivial⟩,sB,trivial,trivial,rfl,⟨by omega,next,hr⟩,hG2.trans hG3,by dsimp only;omega⟩;rw[zai _ (by omega)];rfl
 ·simp only[nN]at hlt;rw[List.take_of_length_le (by omega)]at hris;refine uR ?_;exact⟨rfl,cur,rfl,hperm,hris⟩
section
variable {P:Program} {n:Nat} {ops:Array Oper} {rest:List Oper} {env:Env} {bx:Bxs} {H:Hs} {Q:EQ}
theorem Rel.asRo {W0:World} {H0:Bs} {β:Nat→Nat} {a:Act} {W:World} (r:Rel n W0 H0 β env bx H a W) {t b off:Nat} (ht:env.get t=some (.v (.pointer (some ⟨b,off,none⟩)))) {c:Array Value} (hc:H.ro b=some c) {cs:List Value} (hcs:∀j x,cs[j]?=some x→c[off+j]?=some x) :
  Rel n W0 H0 β ((t,.ro cs)::env) bx H a W:=by
 refine⟨r.size,r.defers,fun t' s hs=>?_,r.box,r.low,r.inj,fun t' i off' hu=>?_,r.fits,r.le,r.new,r.bel,r.glob,r.own,r.one⟩
 ·rw[Env.get_cons]at hs;by_cases e:t=t'
  ·subst e;rw[if_pos rfl]at hs;cases hs;obtain⟨x,hx,hr⟩:=r.slot t _ ht;exact⟨x,hx,b,off,c,hr,hc,hcs⟩
  ·rw[if_neg e]at hs;exact r.slot t' s hs
 ·rw[Env.get_cons]at hu;by_cases e:t=t'
  ·rw[if_pos e]at hu;cases hu
  ·rw[if_neg e]at hu;exact r.pin t' i off' hu
theorem EV.asRo {c:Code} (t:Nat) {b:Nat} (ht:env.get t=some (.v (.pointer (some ⟨b,0,none⟩)))) {cs:List Value} (hc:H.ro b=some cs.toArray) (h:EV P n c ((t,.ro cs)::env) bx H Q):EV P n c env bx H Q :=
 fun W0 β a W r=>h W0 β a W (r.asRo ht hc (fun j x hx=>by rw[Nat.zero_add];simpa using hx))
theorem EVL.asRo (t:Nat) {b:Nat} (ht:env.get t=some (.v (.pointer (some ⟨b,0,none⟩)))) {cs:List Value} (hc:H.ro b=some cs.toArray) (h:EVL P n ops rest ((t,.ro cs)::env) bx H Q):EVL P n ops rest env bx H Q :=
 fun W0 β a W r=>h W0 β a W (r.asRo ht hc (fun j x hx=>by rw[Nat.zero_add];simpa using hx))
theorem EVL.swapOw (a b:Ows) (e:H.ow=a++b) (h:EVL P n ops rest env bx ⟨H.ro,b++a,H.base⟩ Q):EVL P n ops rest env bx H Q :=
 fun W0 β x W r=>h W0 β x W (r.permOw (by rw[e];exact List.perm_append_comm))
theorem EV.swapOw {c:Code} (a b:Ows) (e:H.ow=a++b) (h:EV P n c env bx ⟨H.ro,b++a,H.base⟩ Q):EV P n c env bx H Q :=
 fun W0 β x W r=>h W0 β x W (r.permOw (by rw[e];exact List.perm_append_comm))
end
def QVs (H:Hp) (vs:List Value) (X:List (List Rat)):Prop:=vs.length=X.length∧∀(j:Nat) (u:Value) (x:List Rat),vs[j]?=some u→X[j]?=some x→QL H u x
theorem QVs.mono {H G:Hp} {vs:List Value} {X:List (List Rat)} (h:QVs H vs X) (k:H.Le G):QVs G vs X:=⟨h.1,fun j u x e1 e2=>(h.2 j u x e1 e2).mono k⟩
theorem QVs.nil (H:Hp):QVs H [] []:=⟨rfl,fun j u x h=>by simp at h⟩
theorem zoz {α:Type} {p:Value→α→Prop} {vs:List Value} {X:List α} {u:Value} {x:α} (h:vs.length=X.length∧∀(j:Nat) (u:Value) (x:α),vs[j]?=some u→X[j]?=some x→p u x) (k:p u x) :
  (vs++[u]).length=(X++[x]).length∧∀(j:Nat) (v:Value) (y:α),(vs++[u])[j]?=some v→(X++[x])[j]?=some y→p v y:=by
 refine⟨by simp[h.1],fun j y r e1 e2=>?_⟩;rw[List.getElem?_append]at e1 e2;by_cases hj:j<vs.length
 ·rw[if_pos hj]at e1;rw[if_pos (by rw[←h.1];exact hj)]at e2;exact h.2 j y r e1 e2
 ·rw[if_neg hj]at e1;rw[if_neg (by rw[←h.1];exact hj)]at e2;have:=h.1
  cases hk:j-vs.length with
  | zero =>
   rw[hk]at e1;rw[←h.1,hk]at e2;simp at e1 e2;subst e1;subst e2;exact k
  | succ m=>rw[hk]at e1;simp at e1
theorem QVs.snoc {H:Hp} {vs:List Value} {X:List (List Rat)} {u:Value} {x:List Rat} (h:QVs H vs X) (k:QL H u x):QVs H (vs++[u]) (X++[x]):=zoz h k
def QLL (H:Hp) (v:Value) (X:List (List Rat)):Prop:=∃vs:List Value,QVs H vs X∧SlC H v X.length 1 vs
theorem QLL.mono {H G:Hp} {v:Value} {X:List (List Rat)} (h:QLL H v X) (k:H.Le G):QLL G v X:=by
 obtain⟨vs,h1,h2⟩:=h;exact⟨vs,h1.mono k,h2.mono k⟩
theorem QLL.val {H:Hp} {v:Value} {X:List (List Rat)} (h:QLL H v X):∃a c,v=.slice a X.length c:=by
 obtain⟨vs,_,h2⟩:=h;exact SlC.val h2
theorem QVs.at {H:Hp} {vs:List Value} {X:List (List Rat)} (h:QVs H vs X) {j:Nat} {x:List Rat} (hj:X[j]?=some x):∃a c,vs[j]?=some (.slice a x.length c)∧QL H (.slice a x.length c) x:=by
 obtain⟨hl,_⟩:=qE.1 hj;obtain⟨u,hu⟩:∃u,vs[j]?=some u:=⟨_,qA (by rw[h.1];exact hl)⟩;have hq:=h.2 j u x hu hj;obtain⟨a,c,rfl⟩:=SlC.val hq;exact⟨a,c,hu,hq⟩
def zbz (X:List (List Rat)) (col r:Int):Bool:=decide (0≤col) && decide (col<((X.getD r.toNat []).length:Int))
def za3 (X:List (List Rat)) (col r:Int):Rat:=(X.getD r.toNat []).getD col.toNat 0
theorem zfw {X:List (List Rat)} {col r:Int} {R C:Nat} {x:List Rat} {q:Rat} (hr:r=R) (hc:col=C) (hx:X[R]?=some x) (hq:x[C]?=some q):za3 X col r=q:=by
 subst hr;subst hc;unfold za3;simp[qB,hx,hq]
theorem zfI {X:List (List Rat)} {col r:Int} (hr0:0≤r) (hr:r<(X.length:Int)) (h:zbz X col r=true):∃(R C:Nat) (x:List Rat) (q:Rat),r=R∧col=C∧X[R]?=some x∧x[C]?=some q:=by
 unfold zbz at h;simp only[Bool.and_eq_true,decide_eq_true_eq]at h;obtain⟨R,rfl⟩:=Int.eq_ofNat_of_zero_le hr0;obtain⟨C,rfl⟩:=Int.eq_ofNat_of_zero_le h.1;have h2:=h.2;rw[Int.toNat_natCast,qB,qA (show R<X.length by omega),Option.getD_some]at h2;exact⟨R,C,X[R],X[R][C],rfl,rfl,qA oM,qA oM⟩
theorem zm1 {H:Hp} {bx bc:Nat} {v:Value} {X:List (List Rat)} {col:Int} (hX:QLL H v X) (hb:H bx=some [v].toArray) (hc:H bc=some [Value.int .i64 col].toArray) (hsm:∀x,x∈X→∀q,q∈x→sm q)
  {i j:Int} (hi0:0≤i) (hi:i<(X.length:Int)) (hj0:0≤j) (hj:j<(X.length:Int)) (hci:zbz X col i=true) (hcj:zbz X col j=true) :
  PC prog 261 #[.int .i64 i,.int .i64 j,.pointer (some ⟨bx,0,none⟩),.pointer (some ⟨bc,0,none⟩)] H fun r _=>r=.int .i64 (zc0 (za3 X col i) (za3 X col j)):=by
 obtain⟨I,C,x,p,rfl,rfl,hxi,hp⟩:=zfI hi0 hi hci;obtain⟨J,C',y,q,rfl,hCC,hyj,hq⟩:=zfI hj0 hj hcj;obtain rfl:C=C':=by omega
 obtain⟨va,vc,rfl⟩:=hX.val;obtain⟨vs,hvs,hs⟩:=hX;obtain⟨a1,c1,hu1,hQ1⟩:=hvs.at hxi;obtain⟨a2,c2,hu2,hQ2⟩:=hvs.at hyj;have hs1:SlC H (.slice a1 x.length c1) x.length 5 (x.flatMap fun q=>zah (zad q)):=hQ1;have hs2:SlC H (.slice a2 y.length c2) y.length 5 (y.flatMap fun q=>zah (zad q)):=hQ2;have hcmp:=zci p q (hsm x (qF hxi) p (qF hp)) (hsm y (qF hyj) q (qF hq));rw[zfw rfl rfl hxi hp,zfw rfl rfl hyj hq];have hCx:=(qE.1 hp).1;have hCy:=(qE.1 hq).1;have hIl:I<X.length:=by omega
 have hJl:J<X.length:=by omega
 refine BD func261 ntmps261 ?_;refine EV.asRo 2 rfl hb ?_;refine EV.asRo 3 rfl hc ?_;refine uR ?_;apply EV.drawn 14 kR kR;intro xv yw;(repeat refine' DD ?_);refine' vJ (hs) (I) (rfl) (hIl) (hu1) ?_;rotate_left;(repeat refine' DD ?_);refine' DJ.idxM tO rfl rfl rfl rfl rfl rfl rfl rfl rfl (hs1) (C) (rfl) (hCx) (QL.at (H:=H) (v:=.bool true) hp) ?_;rotate_left;(repeat refine' DD ?_);refine' vJ (hs) (J) (rfl) (hJl) (hu2) ?_;rotate_left;(repeat refine' DD ?_);refine' DJ.idxM tO rfl rfl rfl rfl rfl rfl rfl rfl rfl (hs2) (C) (rfl) (hCy) (QL.at (H:=H) (v:=.bool true) hq) ?_;rotate_left;(repeat refine' DD ?_);(refine DJ.nil (fun G1 hG1 hF1=>?_);(case hS|hS2=>rfl))
 repeat (first|refine RUN ?_|refine CV (hcmp) ?_|refine CE (hcmp) ?_)
 rfl
theorem zhz {H:Hp} {s:Value} {A:Int} (hA:0≤A∧A≤1000) (L:Ows) {clo:Value}:PW prog 285 #[s,.int .i64 A,.int .i64 A,clo] H L fun v ow _=>v=.tuple #[]∧ow=L:=by
 refine PW.body tO func285 rfl kR ntmps285 rfl rfl ?_;refine uR ?_;rw[show IntKind.i64.wrap (A+1)=A+1 by rw[IntKind.wrap_i64];omega];refine EV.loopK (ι:=Unit) [] [] (fun q=>[(2,.v (.int .i64 A)),(8,.v (.int .i64 (A+1)))]) (fun _=>[]) (fun _=>L) (fun _ _=>True) (fun _=>0) (()) rfl rfl ⟨rfl,rfl,trivial⟩ trivial rfl (fun _=>rfl) (trivial) ?_;rintro⟨⟩ G1 hG1 _;refine uR ?_;rw[qC (show ¬A+1<A by omega)];refine uR ?_;exact⟨rfl,rfl⟩
theorem zmy {H:Hp} {b cap:Nat} {l:List Int} {sp:List Value} (hl:l.length≤20) {f:FuncId} {cs:List Value} {key:Int→Rat} (hcan:zav prog f) (hcmp:∀G,H.Le G→∀x y,x∈l→y∈l→PC prog f ([iv x,iv y]++cs).toArray G fun u _=>u=.int .i64 (zc0 (key x) (key y))) :
  PW prog 260 #[.slice (some ⟨b,0,none⟩) l.length cap,.func (.func f) #[] cs.toArray] H [(b,3,l.map iv++sp)] fun v ow _=>v=.tuple #[]∧∃m,ow=[(b,3,m.map iv++sp)]∧m.Perm l∧zgv key m:=by
 have hst:PW prog 277 #[.slice (some ⟨b,0,none⟩) l.length cap,.int .i64 (l.length:Int),.func (.func f) #[] cs.toArray] H [(b,3,l.map iv++sp)] fun v ow _=>v=.tuple #[]∧∃m,ow=[(b,3,m.map iv++sp)]∧m.Perm l∧zgv key m:=by
  refine PW.body tO func277 rfl kR ntmps277 rfl rfl ?_;refine uR ?_;refine EV.loopK (ι:=Bool × List Int) [0,1,2,6] [] (fun q=>[(7,.v (.int .i64 (if q.1 then 20 else 0))),(8,.v (.int .i64 (if q.1 then 40 else 20)))]) (fun _=>[]) (fun q=>[(b,3,q.2.map iv++sp)]) (fun q _=>q.2.Perm l∧(q.1=true→l.length=20∧zgv key q.2)∧(q.1=false→q.2=l)) (fun q=>if q.1 then 0 else 1) ((false,l)) rfl rfl ⟨rfl,rfl,trivial⟩ trivial rfl (fun _=>rfl) (⟨List.Perm.refl _,by simp,by simp⟩) ?_;rintro⟨q,m⟩ G1 hG1 ⟨hp,h1,h2⟩;dsimp only at hp h1 h2
  cases q with
  | true =>
   obtain⟨hn,hr⟩:=h1 rfl;refine uR ?_;rw[show decide ((if true=true then (40:Int) else 20)≤(l.length:Int))=false by rw[hn];rfl];refine uR ?_;rw[show (if true=true then (20:Int) else 0)=(l.length:Int) by rw[hn];rfl];refine EVL.callW rfl rfl rfl rfl rfl ([(b,3,m.map iv++sp)]) ([]) rfl (zhz (A:=(l.length:Int)) oM _) ?_;rintro v ow G2 ⟨rfl,rfl⟩ hG2;refine uR ?_;refine EV.loopK (ι:=Unit) [1] [] (fun q=>[(6,.v (.int .i64 20))]) (fun _=>[]) (fun _=>[(b,3,m.map iv++sp)]) (fun _ _=>True) (fun _=>0) (()) rfl rfl ⟨rfl,trivial⟩ trivial rfl (fun _=>rfl) (trivial) ?_;rintro⟨⟩ G3 hG3 _;refine uR ?_;rw[qC (show ¬(20:Int)<(l.length:Int) by omega)];refine uR ?_;exact⟨rfl,m,rfl,hp,hr⟩
  | false =>
   obtain rfl:=h2 rfl;refine uR ?_;by_cases hn:m.length=20
   ·rw[show decide ((if false=true then (40:Int) else 20)≤(m.length:Int))=true by rw[hn];rfl];have hi:=zec (H:=G1) (b:=b) (cap:=cap) (sp:=sp) (l:=m) (cs:=cs) (key:=key) oM hcan (fun G hG=>hcmp G (hG1.trans hG));rw[hn]at hi;refine uR ?_;rw[hn];refine vW ([(b,3,m.map iv++sp)]) ([]) (hi) ?_;rintro v ow G2 ⟨rfl,m2,rfl,hp2,hr2⟩ hG2;refine uR ?_;exact⟨(true,m2),⟨rfl,rfl,trivial⟩,sB,trivial,trivial,rfl,⟨hp2,fun _=>⟨by first|exact hn|rfl,hr2⟩,by simp⟩,hG2,by simp⟩
   ·rw[show decide ((if false=true then (40:Int) else 20)≤(m.length:Int))=false by simp;omega];refine uR ?_;refine EVL.callW rfl rfl rfl rfl rfl ([(b,3,m.map iv++sp)]) ([]) rfl (zec (key:=key) oM hcan (fun G hG=>hcmp G (hG1.trans hG))) ?_;rintro v ow G2 ⟨rfl,m2,rfl,hp2,hr2⟩ hG2;refine uR ?_;refine EV.loopK (ι:=Unit) [1] [] (fun q=>[(6,.v (.int .i64 20))]) (fun _=>[]) (fun _=>[(b,3,m2.map iv++sp)]) (fun _ _=>True) (fun _=>0) (()) rfl rfl ⟨rfl,trivial⟩ trivial rfl (fun _=>rfl) (trivial) ?_;rintro⟨⟩ G3 hG3 _;refine uR ?_;rw[qC (show ¬(20:Int)<(m.length:Int) by omega)];refine uR ?_;exact⟨rfl,m2,rfl,hp2,hr2⟩
 refine PW.body tO func260 rfl kR ntmps260 rfl rfl ?_;refine uR ?_;refine vW ([(b,3,l.map iv++sp)]) ([]) (hst) ?_;rintro v ow G2 ⟨rfl,m,rfl,hp,hr⟩ hG2;refine uR ?_;exact⟨rfl,m,rfl,hp,hr⟩
theorem ziO:zdb []=0:=za7 _
theorem znC {H:Hp} {v:Value} {l:List Rat} (h:QL H v l) (hl:l.length≤10000) (hb:∀q,q∈l→ht q≤100):PC prog 82 #[v] H fun r _=>r=.tuple #[zad (zdb l),.bool (decide (0<l.length))]:=by
 by_cases h0:l.length=0
 ·obtain rfl:=List.length_eq_zero_iff.1 h0;rw[ziO];exact zq7 h
 ·rw[qD (show 0<l.length by omega)];exact zq8 h oM h0 hb
theorem zk2 {l:List Rat} {B:Nat} (hl:l.length≤300) (hb:∀q,q∈l→ht q≤B):ht (zdb l)≤1+(B+1)*300+20:=by
 have b1:=zgQ B l hb;have b2:(B+1)*l.length≤(B+1)*300:=Nat.mul_le_mul_left _ hl;have b3:=zp9 (n:=l.length) oM;have b4:=zfJ (zaX l) ((l.length:Int):Rat);unfold zdb;omega
theorem zqO {m:Rat} {l:List Rat} {B C:Nat} (hb:∀q,q∈l→ht q≤B) (hm:ht m≤C):∀q,q∈ze0 m l→ht q≤2*(B+C+1):=fun q hq=>by
 obtain⟨v,hv,rfl⟩:=List.mem_map.1 hq;have h1:=hb v hv;have h2:=zkV v m;have h3:=ziH (v-m) (v-m);omega
theorem zm8 {m:Rat} {l:List Rat} {B C:Nat} (hl:l.length≤300) (hb:∀q,q∈l→ht q≤B) (hm:ht m≤C):ht (zaX (ze0 m l))≤1+(2*(B+C+1)+1)*300:=by
 have h1:=zgQ _ (ze0 m l) (zqO hb hm);have h2:(2*(B+C+1)+1)*(ze0 m l).length≤(2*(B+C+1)+1)*300:=Nat.mul_le_mul_left _ (by simpa[ze0] using hl);omega
theorem zk1 {H:Hp} {v:Value} {rs:List Int} (hr:IL H v rs) (hn:rs.length≤300) {va:Option Addr} {vc:Nat} {vals:List Rat} {la:Option Addr} {lc:Nat} (hv:QL H (.slice va vals.length vc) vals) (h0:1≤vals.length) (h1:vals.length≤300) (hb:∀q,q∈vals→ht q≤100) :
  PC prog 20 #[zaC 2 0 (.slice la 0 lc) (.slice va vals.length vc),v] H fun r _=>r=zad (zdb (atR vals (exL rs vals.length))):=by
 obtain⟨a,cap,rfl⟩:=SlC.val hr;have hchk:=zd5 (va:=va) (vc:=vc) (la:=la) (lc:=lc) h0 h1;have hel:=zc7 rs vals.length;refine BD func20 ntmps20 ?_
 repeat (first|refine RUN ?_|refine CV (hchk) ?_|refine CE (hchk) ?_)
 refine EVL.call rfl rfl rfl rfl rfl (zjn hr oM hv) ?_;intro r1 G1 hL hG1;have hlb:=fun q hq=>hb q (zfo (zdG (rs:=rs) (n:=vals.length)) q hq);have hll:(atR vals (exL rs vals.length)).length≤300:=by rw[zca];omega
 generalize atR vals (exL rs vals.length)=L at *
 have hm:=znC hL oM hlb
 repeat (first|refine RUN ?_|refine CV (hm) ?_|refine CE (hm) ?_)
 by_cases hz:0<L.length
 ·rw[qD hz];refine uR ?_;rfl
 ·rw[qC hz];refine uR ?_;obtain rfl:L=[]:=List.length_eq_zero_iff.1 oM;rw[ziO];exact zbO.symm
theorem zo0 {H:Hp} {v:Value} {rs:List Int} (hr:IL H v rs) (hn:rs.length≤300) {va:Option Addr} {vc:Nat} {vals:List Rat} {la:Option Addr} {lc:Nat} (hv:QL H (.slice va vals.length vc) vals) (h0:1≤vals.length) (h1:vals.length≤300) (hb:∀q,q∈vals→ht q≤100) :
  PC prog 19 #[zaC 2 0 (.slice la 0 lc) (.slice va vals.length vc),v] H fun r _=>r=zad (zaX (ze0 (zdb (atR vals (exL rs vals.length))) (atR vals (exL rs vals.length)))):=by
 obtain⟨a,cap,rfl⟩:=SlC.val hr;have hchk:=zd5 (va:=va) (vc:=vc) (la:=la) (lc:=lc) h0 h1;have hel:=zc7 rs vals.length;have hmean:=zk1 (la:=la) (lc:=lc) hr hn hv h0 h1 hb;have hvals:=zjn (kd:=2) (cl:=0) (la:=la) (ln:=0) (lc:=lc) hr oM hv;have hlb:=fun q hq=>hb q (zfo (zdG (rs:=rs) (n:=vals.length)) q hq);have hll:(atR vals (exL rs vals.length)).length≤300:=by rw[zca];omega
 generalize atR vals (exL rs vals.length)=L at *
 have hmh:=zk2 hll hlb;generalize zdb L=m at *
 have hms:sm m:=zaE hmh oM;refine BD func19 ntmps19 ?_
 repeat (first|refine RUN ?_|refine CV (hchk) ?_|refine CV (hmean) ?_|refine CE (hchk) ?_|refine CE (hmean) ?_)
 refine vA (hvals) ?_;intro r1 G1 hL hG1;obtain⟨a1,c1,rfl⟩:=SlC.val hL;have hs:SlC G1 (.slice a1 L.length c1) L.length 5 (L.flatMap fun q=>zah (zad q)):=hL;refine uR ?_;refine EV.loopK (ι:=Nat) [4,6,7,34,35] [4,7] (fun i=>[(36,.v (.int .i64 (i:Int)))]) (fun i=>[(6,50,zah (zad (zaX (ze0 m (L.take i)))))]) (fun _=>[]) (fun i _=>i≤L.length) (fun i=>L.length-i) (0) rfl rfl ⟨rfl,trivial⟩ ⟨by rw[show zaX (ze0 m (L.take 0))=0 from rfl,zay];rfl,trivial⟩ rfl (fun _=>rfl) (Nat.zero_le _) ?_;rintro i G2 hG2 hi;refine uR ?_;refine EV.cond rfl (fun hlt=>?_) (fun hlt=>?_)
 ·simp only[nN]at hlt;obtain⟨x,hx⟩:=gE hlt;have hxb:=hlb x (qF hx);have hsum:=zm8 (l:=L.take i) (by rw[List.length_take];omega) (fun q hq=>hlb q (List.mem_of_mem_take hq)) hmh;have hd:=zkV x m;have hdd:=ziH (x-m) (x-m);have hsub:=zlp x m (zaE hxb oM) hms;have hmul:=znI (x-m) (x-m) (zaE hd oM) (zaE hd oM);have hadd:=zd0 (zaX (ze0 m (L.take i))) ((x-m)*(x-m)) (zaE hsum oM) (zaE hdd oM);rw[←zfC,←zaz hx]at hadd;refine uR ?_;refine EVL.idxM tO rfl rfl rfl rfl rfl rfl rfl rfl rfl ((hs.mono hG2)) (i) (rfl) (hlt) (QL.at (H:=H) (v:=.bool true) hx) ?_
  repeat (first|refine RUN ?_|refine CV (hsub) ?_|refine CE (hsub) ?_)
  apply EV.drawn 4 kR kR;intro xv yw;(repeat (first|refine' DD ?_|(refine' DC (hmul) (h:=?_);rotate_left)));(refine DJ.nil (fun G3 hG3 hF3=>?_);(case hS|hS2=>rfl))
  repeat (first|refine RUN ?_|refine CV (hadd) ?_|refine CE (hadd) ?_)
  refine⟨i+1,⟨?_,trivial⟩,sB,⟨rfl,trivial⟩,sB,rfl,hlt,hG3,by omega⟩;rw[zai i (by omega)];rfl
 ·simp only[nN]at hlt;obtain rfl:i=L.length:=by omega
  rw[List.take_length];refine uR ?_;rfl
theorem zg8 {H:Hp} {cl:Int} {va:Option Addr} {vn vc:Nat} {la:Option Addr} {lc:Nat} {ls:List Int} (hv:IL H (.slice la ls.length lc) ls) {v:Value} {rs:List Int} (hr:IL H v rs) (hn:rs.length≤100000)
  (hrs:∀r,r∈rs→0≤r∧r<(ls.length:Int)) (hls:∀z,z∈ls→0≤z∧z<12) :
  PC prog 76 #[zaC 1 cl (.slice la ls.length lc) (.slice va vn vc),v] H fun r _=>r=.agg (zat (rs.length:Nat) (csL (atI ls rs)) (sqL (atI ls rs)) 0).toArray:=by
 obtain⟨a,cap,rfl⟩:=SlC.val hr;exact zoA hv hr hn hrs hls
def zis (L:List Int):Rat:=((L.length:Int):Rat)-((sqL L:Int):Rat) / ((L.length:Int):Rat)
theorem zoZ {H:Hp} {v:Value} {rs:List Int} (hr:IL H v rs) (hn:rs.length≤300) {va:Option Addr} {vc:Nat} {la:Option Addr} {lc:Nat} {ls:List Int} (hv:IL H (.slice la ls.length lc) ls) {cl:Int} (hc:1≤cl∧cl≤12) (h0:1≤ls.length) (h1:ls.length≤300) (hls:∀z,z∈ls→0≤z∧z<cl) :
  PC prog 19 #[zaC 1 cl (.slice la ls.length lc) (.slice va 0 vc),v] H fun r _=>r=zad (zis (atI ls (exL rs ls.length))):=by
 obtain⟨a,cap,rfl⟩:=SlC.val hr;have hchk:=zfs (va:=va) (vc:=vc) hv hc h0 h1 hls;have hlen:=zjZ (cl:=cl) (va:=va) (vn:=0) (vc:=vc) (la:=la) (ln:=ls.length) (lc:=lc);have hel:=zc7 rs ls.length;have hem:=zdG (rs:=rs) (n:=ls.length);have hex:=fun (G:Hp) (hG:H.Le G)=>zbS (hr.mono hG) oM ls.length;generalize exL rs ls.length=E at *
 have hLl:(atI ls E).length=E.length:=zb9 ls E;have hsq:=zjh (atI ls E);rw[hLl]at hsq;have hsq2:E.length*E.length≤300*300:=Nat.mul_le_mul oM oM;have hE:zis (atI ls E)=((E.length:Int):Rat)-((sqL (atI ls E):Int):Rat) / ((E.length:Int):Rat):=by unfold zis;rw[hLl]
 have hn2:=zbI (E.length:Int);have hn3:bl (E.length:Int).natAbs≤20:=za6 oM;have hs2:=zbI (sqL (atI ls E):Int);have hs3:bl (sqL (atI ls E):Int).natAbs≤20:=za6 oM;have hdv:=zfJ ((sqL (atI ls E):Int):Rat) ((E.length:Int):Rat);have hof:=zgx (E.length:Int) oM oM;have hsub:=zlp ((E.length:Int):Rat) (((sqL (atI ls E):Int):Rat) / ((E.length:Int):Rat)) (by unfold sm;omega) (by unfold sm;omega);rw[hE];refine BD func19 ntmps19 ?_
 repeat (first|refine RUN ?_|refine CV (hchk) ?_|refine CE (hchk) ?_)
 apply EV.drawn 7 kR kR;intro xv yw;(repeat (first|refine' DD ?_|(refine' DC (hlen) (h:=?_);rotate_left)));refine' vB (cO func77) (fun G hG hd=>hex G hG) (fun _ _ _ h k=>SlN.mono h k) ?_;rotate_left;refine' vC (cO func76) (fun G hG hd=>zg8 (hv.mono hG) (hd.head kR) oM hem (fun z hz=>⟨(hls z hz).1,by have:=(hls z hz).2;omega⟩)) ?_;rotate_left;(repeat refine' DD ?_);(refine DJ.nil (fun G1 hG1 hF1=>?_);(case hS|hS2=>rfl))
 repeat (first|refine RUN ?_|refine CV (hof) ?_|refine CE (hof) ?_)
 (first|refine EVL.unbox (5) rfl fun b=>?_|refine EV.unbox (5) rfl fun b=>?_);refine EVL.callW rfl rfl rfl rfl rfl ([(b,147,zat (E.length:Nat) (csL (atI ls E)) (sqL (atI ls E)) 0)]) ([]) rfl (zoE (zbu _) oM oM) ?_;rintro v ow G2 ⟨rfl,rfl⟩ hG2
 repeat (first|refine RUN ?_|refine CV (hsub) ?_|refine CE (hsub) ?_)
 rfl
theorem znO:∀l:List Int,zgt (l.map iv)=true
 | []=>rfl
 | _::l=>by rw[List.map_cons];unfold zgt;rw[znO l];rfl
theorem RL.nil (H:Hp) (a:Option Addr) (c:Nat):RL H (.slice a 0 c) []:=(RVs.nil H).rl ⟨rfl,.inl ⟨rfl,_,_,rfl⟩⟩
theorem IL.nil (H:Hp) (a:Option Addr) (c:Nat):IL H (.slice a 0 c) []:=⟨rfl,.inl ⟨rfl,_,_,rfl⟩⟩
theorem ziI {H:Hp} {kd cl:Int} {sl sv:Value} {ls:List Int} {qs:List Rat} (hl:IL H sl ls) (hq:RL H sv qs) (hn:ls.length≤1000000) (hm:qs.length≤1000000) (hb:∀q,q∈qs→rq q) :
  PC prog 10 #[zaC kd cl sl sv] H fun r H'=>∃la lc va vc,r=zaC kd cl (.slice la ls.length lc) (.slice va qs.length vc)∧IL H' (.slice la ls.length lc) ls∧QL H' (.slice va qs.length vc) qs:=by
 obtain⟨a,cap,rfl⟩:=SlC.val hl;obtain⟨a2,cap2,rfl⟩:=hq.val;have hls:SlC H (.slice a ls.length cap) ls.length 1 (ls.map iv):=hl;by_cases e:ls.length=0
 ·obtain rfl:=List.length_eq_zero_iff.1 e;show PC prog 10 #[zaC kd cl (.slice a 0 cap) (.slice a2 qs.length cap2)] H _;refine BD func10 ntmps10 ?_;refine uR ?_;apply EV.drawn 11 kR kR;intro xv yw;(repeat refine' DD ?_);(refine' DJ.lit0 tO rfl rfl rfl rfl rfl rfl rfl ?_;rotate_left);(repeat refine' DD ?_);refine' DJ.append0E (u0:=xv 4) tO rfl rfl rfl rfl rfl rfl rfl rfl rfl (a) (cap) rfl (fun G hd=>hd.head kR) ?_;rotate_left;(repeat refine' DD ?_);refine' vB (cO func41) (fun G hG hd=>zhy (hq.mono hG) oM hb) (fun _ _ _ h k=>QL.mono h k) ?_;rotate_left;(refine DJ.nil (fun G1 hG1 hF1=>?_);(case hS|hS2=>rfl));obtain⟨hR,⟨g,hg⟩,_⟩:=hF1;obtain⟨a3,c3,e3⟩:=SlC.val hR;rw[e3]at hR;rw[hg,e3];refine uR ?_;exact⟨_,_,_,_,rfl,IL.nil _ _ _,hR⟩
 ·refine BD func10 ntmps10 ?_;refine uR ?_;apply EV.drawn 11 kR kR;intro xv yw;(repeat refine' DD ?_);(refine' DJ.lit0 tO rfl rfl rfl rfl rfl rfl rfl ?_;rotate_left);(repeat refine' DD ?_);refine' DJ.appendE (u0:=xv 4) tO rfl rfl rfl rfl rfl rfl rfl rfl rfl rfl (fun G hd=>hd.head kR) (hls) (Nat.pos_of_ne_zero e) oM ?_;rotate_left;(repeat refine' DD ?_);refine' vB (cO func41) (fun G hG hd=>zhy (hq.mono hG) oM hb) (fun _ _ _ h k=>QL.mono h k) ?_;rotate_left;(refine DJ.nil (fun G1 hG1 hF1=>?_);(case hS|hS2=>rfl));obtain⟨hR,hA,_⟩:=hF1;obtain⟨a3,c3,e3⟩:=SlC.val hR;obtain⟨a4,c4,e4⟩:=SlC.val hA;rw[e3]at hR;rw[e4]at hA;rw[e3,e4];refine uR ?_;exact⟨_,_,_,_,rfl,hA,hR⟩
def zh8 (H:Hp) (v:Value) (n:Nat) (qs:List Rat):Prop :=
 (∃s,v=zaC 2 0 (.slice none 0 0) s∧RL H s qs)∨∃(cl:Int) (s:Value) (ls:List Int),v=zaC 1 cl s (.slice none 0 0)∧1≤cl∧cl≤4∧ls.length=n∧(∀z,z∈ls→0≤z∧z<cl)∧IL H s ls
theorem zh8.mono {H G:Hp} {v:Value} {n:Nat} {qs:List Rat} (h:zh8 H v n qs) (k:H.Le G):zh8 G v n qs:=by
 rcases h with ⟨s,e,h⟩ | ⟨cl,s,ls,e,h1,h2,h3,h4,h⟩
 ·exact .inl ⟨s,e,h.mono k⟩
 ·exact .inr ⟨cl,s,ls,e,h1,h2,h3,h4,h.mono k⟩
theorem zrH (z:Int):-9223372036854775808≤IntKind.i64.wrap z∧IntKind.i64.wrap z<9223372036854775808:=by
 rw[IntKind.wrap_i64];omega
theorem zqS {H:Hp} {v:Value} {l:List Int} (h:IL H v l) (hb:∀z,z∈l → -9223372036854775808≤z∧z<9223372036854775808) (kd:Int) (n:Nat) (hn:n≤1000) :
  PC prog 60 #[.int .i64 kd,v,.int .i64 (n:Int)] H fun r H'=>zh8 H' r n (zjy l n):=by
 obtain⟨a,cap,rfl⟩:=SlC.val h;have hpk:∀z c:Int,-9223372036854775808≤z∧z<9223372036854775808→1≤c∧c≤4→PV prog 26 #[.int .i64 z,.int .i64 c] (.int .i64 (z % c)):=fun z c hz hc=>zdg z c hz oM oM;have hrow:=zqn h hb n oM;have hwb:=zrH (kd.tdiv 2);have hp4:=hpk _ 4 hwb oM;refine BD func60 ntmps60 ?_;refine uR ?_;by_cases hk:kd.tmod 2=0
 ·rw[show (kd.tmod 2 == 0)=true from beq_iff_eq.2 hk];refine uR ?_;refine vA (hrow) ?_;intro r G1 hr hG1;obtain⟨a3,c3,rfl⟩:=hr.val;refine uR ?_;exact .inl ⟨_,rfl,hr⟩
 ·rw[show (kd.tmod 2 == 0)=false from beq_eq_false_iff_ne.2 hk];refine uR ?_;generalize IntKind.i64.wrap (kd.tdiv 2)=k2 at *
  have hcl:1≤1+k2 % 4∧1+k2 % 4≤4:=by omega
  repeat (first|refine RUN ?_|refine CV (hp4) ?_|refine CE (hp4) ?_)
  rw[show IntKind.i64.wrap (1+k2 % 4)=1+k2 % 4 by rw[IntKind.wrap_i64];omega];generalize 1+k2 % 4=cl at *
  refine uR ?_;refine EV.loopK (ι:=Nat × List Int × Value × Ows) [1,2,6,7] [6] (fun q=>[(8,.v (.int .i64 (q.1:Int)))]) (fun q=>[(7,27,[.int .i64 1,.int .i64 cl,q.2.2.1,.slice none 0 0])]) (fun q=>q.2.2.2) (fun q _=>q.1≤n∧q.2.1.length=q.1∧(∀z,z∈q.2.1→0≤z∧z<cl)∧zaZ 3 1 q.2.2.1 q.2.1.length (q.2.1.map iv) q.2.2.2) (fun q=>n-q.1) ((0,[],.slice none 0 0,[])) rfl rfl ⟨rfl,trivial⟩ ⟨rfl,trivial⟩ rfl (fun _=>rfl) (⟨Nat.zero_le _,rfl,by simp,zaZ.nil _ _⟩) ?_;rintro⟨i,ls,w,ow⟩ G1 hG1 ⟨hi,hll,hlb,hown⟩;dsimp only at hi hll hlb hown;obtain⟨wa,wc,rfl⟩:=hown.val;refine uR ?_;refine EV.cond rfl (fun hlt=>?_) (fun hlt=>?_)
  ·simp only[nN]at hlt;refine uR ?_;refine EV.meetK (ι:=Int) [1,2,6,7,8] [6,7] (fun c=>[(9,.v (.int .i64 c))]) (fun _=>[]) (fun _=>ow) (fun c G=>G1.Le G ∧ -9223372036854775808≤c∧c<9223372036854775808) rfl rfl (fun _=>rfl) ?_ ?_
   ·refine EV.cond rfl (fun hc=>?_) (fun hc=>?_)
    ·simp only[nN]at hc;obtain⟨z,hz⟩:=gE hc;have hzb:=hb z (qF hz);refine uR ?_;refine vI ((h.mono hG1)) (i) (rfl) (hc) ((by rw[List.getElem?_map,hz];rfl)) ?_;refine uR ?_;exact⟨z,⟨rfl,trivial⟩,sB,trivial,sB,rfl,Hp.Le.refl _,hzb.1,hzb.2⟩
    ·try refine uR ?_
     exact⟨(i:Int),⟨rfl,trivial⟩,sB,trivial,sB,rfl,Hp.Le.refl _,by omega,by omega⟩
   ·rintro c G2 ⟨hG2,hc1,hc2⟩;have hpc:=hpk c cl ⟨hc1,hc2⟩ hcl;have hcb:0≤c % cl∧c % cl<cl:=⟨Int.emod_nonneg _ oM,Int.emod_lt_of_pos _ oM⟩;generalize c % cl=cc at *
    refine uR ?_;apply EV.drawn 7 kR kR;intro xv yw;(repeat (first|refine' DD ?_|(refine' DC (hpc) (h:=?_);rotate_left)));(refine' DJ.lit tO rfl rfl rfl rfl rfl rfl rfl rfl rfl rfl rfl rfl ?_;rotate_left);(refine DJ.nil (fun G3 hG3 hF3=>?_);(case hS|hS2=>rfl));refine EVL.append tO rfl rfl rfl rfl rfl rfl rfl rfl rfl rfl rfl rfl [] ow [] (qG _).symm hown (zeY.ro hF3.1 oM) rfl oM ?_;intro v1 ow1 hown1;have hown2:=zaZ.il hown1;clear hown1;obtain⟨va1,vc1,rfl⟩:=hown2.val;refine uR ?_;refine⟨(i+1,ls++[cc],_,ow1),⟨?_,trivial⟩,sB,⟨rfl,trivial⟩,sB,qG _,⟨hlt,by rw[List.length_append,hll];rfl,?_,hown2⟩,hG2.trans hG3,by dsimp only;omega⟩
    ·rw[zai i (by omega)];rfl
    ·intro z hz;rcases List.mem_append.1 hz with hz | hz
     ·exact hlb z hz
     ·obtain rfl:=List.mem_singleton.1 hz;exact hcb
  ·simp only[nN]at hlt;obtain rfl:i=n:=by omega
   (first|refine EVL.publishL [] ow [] ((qG _).symm) hown fun G2 hG2 hs=>?_|refine EV.publishL [] ow [] ((qG _).symm) hown fun G2 hG2 hs=>?_);refine uR ?_;exact .inr ⟨cl,_,ls,rfl,hcl.1,hcl.2,hll,hlb,hs⟩
theorem zm0 {H:Hp} {v:Value} {l:List Int} (h:IL H v l) (h0:0<l.length) (hl:l.length≤1000):PW prog 259 #[v] H [] fun r ow _=>zaZ 3 1 r l.length (l.map iv) ow:=by
 have hs:=h.2;rcases hs with ⟨e,_⟩ | ⟨b,off,cap,c,rfl,_⟩
 ·omega
 ·refine PW.body tO func259 rfl kR ntmps259 rfl rfl ?_;refine uR ?_;refine EVL.eqnil tO rfl rfl rfl rfl rfl rfl rfl ?_;refine uR ?_;refine EVL.lit0 tO rfl rfl rfl rfl rfl rfl rfl fun g0=>?_;refine uR ?_;refine EVL.append tO rfl rfl rfl rfl rfl rfl rfl rfl rfl rfl rfl rfl [] [(g0,3,[])] [] rfl (zaZ.full (m:=0) rfl oM) (zeY.ro h h0) (znO l) oM ?_;intro v1 ow1 hown1;refine uR ?_;rw[Nat.zero_add]at hown1;rw[qG];exact hown1
theorem zlM {H:Hp} {v:Value} (h:IL H v []):PC prog 259 #[v] H fun r _=>∃a cap,r=.slice a 0 cap:=by
 obtain⟨a,cap,rfl⟩:=SlC.val h;refine BD func259 ntmps259 ?_;refine uR ?_;refine EVL.eqnil tO rfl rfl rfl rfl rfl rfl rfl ?_
 cases a with
 | none =>
  refine uR ?_;exact⟨_,_,rfl⟩
 | some x =>
  refine uR ?_;refine EVL.lit0 tO rfl rfl rfl rfl rfl rfl rfl fun g0=>?_;refine uR ?_;refine EVL.append0 tO rfl rfl rfl rfl rfl rfl rfl rfl rfl (qH _) ?_;refine uR ?_;exact⟨_,_,rfl⟩
theorem zkl {H:Hp} (a:Option Addr) (cap:Nat) (clo:Value):PC prog 260 #[.slice a 0 cap,clo] H fun v _=>v=.tuple #[]:=by
 have hst:PC prog 277 #[.slice a 0 cap,.int .i64 0,clo] H fun v _=>v=.tuple #[]:=by
  have hno:∀G:Hp,PC prog 285 #[.slice a 0 cap,.int .i64 0,.int .i64 0,clo] G fun v _=>v=.tuple #[]:=fun G=>by
   refine BD func285 ntmps285 ?_;refine uR ?_;refine EV.loopK (ι:=Unit) [] [] (fun q=>[(2,.v (.int .i64 0)),(8,.v (.int .i64 1))]) (fun _=>[]) (fun _=>[]) (fun _ _=>True) (fun _=>0) (()) rfl rfl ⟨rfl,rfl,trivial⟩ trivial rfl (fun _=>rfl) (trivial) ?_;rintro⟨⟩ G1 hG1 _;refine uR ?_;rfl
  refine BD func277 ntmps277 ?_;refine uR ?_;refine EV.loopK (ι:=Unit) [0,1,2,6] [] (fun q=>[(7,.v (.int .i64 0)),(8,.v (.int .i64 20))]) (fun _=>[]) (fun _=>[]) (fun _ _=>True) (fun _=>0) (()) rfl rfl ⟨rfl,rfl,trivial⟩ trivial rfl (fun _=>rfl) (trivial) ?_;rintro⟨⟩ G1 hG1 _;refine uR ?_;refine vA (hno _) ?_;rintro r G2 rfl hG2;refine uR ?_;refine EV.loopK (ι:=Unit) [1] [] (fun q=>[(6,.v (.int .i64 20))]) (fun _=>[]) (fun _=>[]) (fun _ _=>True) (fun _=>0) (()) rfl rfl ⟨rfl,trivial⟩ trivial rfl (fun _=>rfl) (trivial) ?_;rintro⟨⟩ G3 hG3 _;refine uR ?_;rfl
 refine BD func260 ntmps260 ?_;refine uR ?_;refine vA (hst) ?_;rintro r G2 rfl hG2;refine uR ?_;rfl
def zlE (X:List (List Rat)) (col:Int) (rs m:List Int):Prop:=(rs.all (zbz X col)=true∧m.Perm rs∧zgv (za3 X col) m)∨(rs.all (zbz X col)=false∧m=[])
theorem zoi {H:Hp} {vx vr:Value} {X:List (List Rat)} {rs:List Int} {col:Int} (hX:QLL H vx X) (hr:IL H vr rs) (hn:rs.length≤20) (hrs:∀r,r∈rs→0≤r∧r<(X.length:Int)) (hsm:∀x,x∈X→∀q,q∈x→sm q) :
  PC prog 247 #[vx,vr,.int .i64 col] H fun r H'=>∃m,IL H' r m∧zlE X col rs m:=by
 obtain⟨a,cap,rfl⟩:=SlC.val hr;obtain⟨xa,xc,rfl⟩:=hX.val;refine BD func247 ntmps247 ?_;refine uR ?_;refine EV.loopK (ι:=Nat) [1,3,5,10,11] [3,5] (fun i=>[(12,.v (.int .i64 (i:Int)))]) (fun _=>[]) (fun _=>[]) (fun i _=>i≤rs.length∧∀r,r∈rs.take i→zbz X col r=true) (fun i=>rs.length-i) (0) rfl rfl ⟨rfl,trivial⟩ trivial rfl (fun _=>rfl) (⟨Nat.zero_le _,by simp⟩) ?_;rintro i G1 hG1 ⟨hi,hall⟩;refine uR ?_;refine EV.cond rfl (fun hlt=>?_) (fun hlt=>?_)
 ·simp only[nN]at hlt;obtain⟨r,hri⟩:=gE hlt;have hb:=hrs r (qF hri);obtain⟨R,rfl⟩:=Int.eq_ofNat_of_zero_le hb.1;obtain⟨x,hx⟩:∃x,X[R]?=some x:=⟨_,qA oM⟩;have hRl:R<X.length:=by omega
  obtain⟨vs,hvs,hs⟩:=hX.mono hG1;obtain⟨a1,c1,hu,hQ⟩:=hvs.at hx
  have hhas:zbz X col (R:Int)=(decide (0≤col) && decide (col<(x.length:Int))):=by
   unfold zbz;rw[Int.toNat_natCast,qB,hx];rfl
  have hno:zbz X col (R:Int)=false→rs.all (zbz X col)=false:=fun h=>by
   rw[List.all_eq_false];exact⟨_,qF hri,by rw[h];decide⟩
  refine uR ?_;refine vI ((hr.mono hG1)) (i) (rfl) (hlt) ((by rw[List.getElem?_map,hri];rfl)) ?_;refine uR ?_;by_cases hc:col<0
  ·apply EV.drawn 11 kR kR;intro xv yw;(repeat refine' DD ?_);rw[qD hc];(repeat refine' DD ?_);(refine DJ.nil (fun G1 hG1 hF1=>?_);(case hS|hS2=>rfl));refine uR ?_;exact⟨[],IL.nil _ _ _,.inr ⟨hno (by rw[hhas];simp;omega),rfl⟩⟩
  ·apply EV.drawn 11 kR kR;intro xv yw;(repeat refine' DD ?_);rw[qC hc];(repeat refine' DD ?_);refine' vJ (hs) (R) (rfl) (hRl) (hu) ?_;rotate_left;(repeat refine' DD ?_);(refine DJ.nil (fun G1 hG1 hF1=>?_);(case hS|hS2=>rfl));refine uR ?_;by_cases hc2:col≥(x.length:Int)
   ·rw[qD hc2];refine uR ?_;exact⟨[],IL.nil _ _ _,.inr ⟨hno (by rw[hhas];simp;omega),rfl⟩⟩
   ·rw[qC hc2];refine uR ?_;refine⟨i+1,⟨?_,trivial⟩,sB,trivial,sB,rfl,⟨hlt,fun z hz=>?_⟩,by assumption,by omega⟩
    ·rw[zai i (by omega)];rfl
    ·rw[zaz hri]at hz;rcases List.mem_append.1 hz with hz | hz
     ·exact hall z hz
     ·rw[List.mem_singleton.1 hz,hhas];simp;omega
 ·simp only[nN]at hlt;obtain rfl:i=rs.length:=by omega
  rw[List.take_length]at hall;have hall2:rs.all (zbz X col)=true:=List.all_eq_true.2 hall;refine uR ?_;(first|refine EVL.unbox (3) rfl fun bx=>?_|refine EV.unbox (3) rfl fun bx=>?_);(first|refine EVL.unbox (5) rfl fun bc=>?_|refine EV.unbox (5) rfl fun bc=>?_);(first|refine EVL.publish [] [(bx,_,_)] rfl fun G2 hG2 hbc=>?_|refine EV.publish [] [(bx,_,_)] rfl fun G2 hG2 hbc=>?_);(first|refine EVL.publish [] [] rfl fun G3 hG3 hbx=>?_|refine EV.publish [] [] rfl fun G3 hG3 hbx=>?_);have hXG:=hX.mono (hG1.trans (hG2.trans hG3));have hbcG:=hG3 _ _ hbc;have hrG:=hr.mono (hG1.trans (hG2.trans hG3));by_cases h0:rs.length=0
  ·obtain rfl:=List.length_eq_zero_iff.1 h0;refine vA (zlM hrG) ?_;rintro r G4 ⟨a4,c4,rfl⟩ hG4;refine uR ?_;refine EVL.fn2 rfl rfl rfl rfl rfl rfl ?_;refine vA (zkl a4 c4 _) ?_;rintro r G5 rfl hG5;refine uR ?_;exact⟨[],IL.nil _ _ _,.inl ⟨hall2,List.Perm.refl _,List.Pairwise.nil⟩⟩
  ·refine EVL.callW rfl rfl rfl rfl rfl ([]) ([]) rfl (zm0 hrG oM oM) ?_;rintro r ow G4 hown hG4;obtain⟨g,c4,sp,rfl,rfl,hl4,hm4,hx4⟩:=hown.block oM;refine uR ?_;refine EVL.fn2 rfl rfl rfl rfl rfl rfl ?_;refine vW ([(g,3,rs.map iv++sp)]) ([]) (zmy (f:=261) (cs:=[.pointer (some ⟨bx,0,none⟩),.pointer (some ⟨bc,0,none⟩)]) (key:=za3 X col) hn (cO func261) (fun G hG x y hx hy=>zm1 (hXG.mono (hG4.trans hG)) ((hG4.trans hG) _ _ hbx) ((hG4.trans hG) _ _ hbcG) hsm (hrs x hx).1 (hrs x hx).2 (hrs y hy).1 (hrs y hy).2 (hall x hx) (hall y hy))) ?_;rintro v ow G5 ⟨rfl,m,rfl,hp,hris⟩ hG5;have hml:=hp.length_eq;have hown2:zaZ 3 1 (.slice (some ⟨g,0,none⟩) m.length c4) m.length (m.map iv) [(g,3,m.map iv++sp)]:=⟨by simp,.inr ⟨g,c4,sp,rfl,rfl,by rw[←hl4];simp[hml],by omega,hx4⟩⟩;rw[←hml];(first|refine EVL.publishL [] [(g,3,m.map iv++sp)] [] (rfl) hown2 fun G6 hG6 hs6=>?_|refine EV.publishL [] [(g,3,m.map iv++sp)] [] (rfl) hown2 fun G6 hG6 hs6=>?_);refine uR ?_;exact⟨m,hs6,.inl ⟨hall2,hp,hris⟩⟩
theorem znE (a b:Rat) (ha:ht a≤100000) (hb:ht b≤100000):PV prog 249 #[zad a,zad b] (zad ((a+b) / 2)):=by
 refine PV.of_pc ?_;have h1:=zeb a b
 have h2:ht ((2:Int):Rat)≤10:=by
  have:=zbI 2;have h2:bl (2:Int).natAbs≤5:=za6 (by decide);omega
 have hadd:=zd0 a b (zaE ha oM) (zaE hb oM);have hof:=zgx 2 oM oM;have hdiv:=ziB (a+b) ((2:Int):Rat) (zaE h1 oM) (zaE h2 oM) (by decide);rw[show ((2:Int):Rat)=2 from rfl]at hdiv hof;refine BD func249 ntmps249 ?_
 repeat (first|refine RUN ?_|refine CV (hadd) ?_|refine CV (hof) ?_|refine CV (hdiv) ?_|refine CE (hadd) ?_|refine CE (hof) ?_|refine CE (hdiv) ?_)
 rfl
theorem zj9 {a b:Rat} (h:a≤b):zc0 a b≤0:=by
 unfold zc0;split
 ·omega
 ·split
  ·rename_i k;exact absurd k (Rat.not_lt.2 h)
  ·omega
def zbe (X:List (List Rat)) (col:Int) (t:Rat) (es:List Int):List Int:=es.filter fun r=>zbz X col r && decide (za3 X col r≤t)
def zaM (X:List (List Rat)) (col:Int) (t:Rat) (es:List Int):List Int:=es.filter fun r=>zbz X col r && !decide (za3 X col r≤t)
theorem zfF {p:Int→Bool} {es:List Int} {i:Nat} {r:Int} (h:es[i]?=some r):(es.take (i+1)).filter p=(es.take i).filter p++if p r then [r] else []:=by
 rw[zaz h,List.filter_append];cases hp:p r <;> simp[hp]
theorem zpN {H:Hp} {vx vr:Value} {X:List (List Rat)} {rs:List Int} {col:Int} {t:Rat} (hX:QLL H vx X) (hr:IL H vr rs) (hn:rs.length≤100000) (hsm:∀x,x∈X→∀q,q∈x→sm q) (ht:sm t) :
  PC prog 169 #[vx,vr,.int .i64 col,zad t] H fun r H'=>∃u w,r=.tuple #[u,w]∧IL H' u (zbe X col t (exL rs X.length))∧IL H' w (zaM X col t (exL rs X.length)):=by
 obtain⟨a,cap,rfl⟩:=SlC.val hr;obtain⟨xa,xc,rfl⟩:=hX.val;refine BD func169 ntmps169 ?_;refine uR ?_;refine EVL.call rfl rfl rfl rfl rfl (zbS hr oM X.length) ?_;intro r1 G0 he hG0;have hel:=zc7 rs X.length;have heb:=zdG (rs:=rs) (n:=X.length);generalize exL rs X.length=es at *
 obtain⟨a1,c1,rfl⟩:=SlC.val he;refine uR ?_;refine EV.loopK (ι:=Nat × Value × Value × Ows × Ows) [0,2,7,15,16] [7] (fun q=>[(8,.v q.2.1),(9,.v q.2.2.1),(17,.v (.int .i64 (q.1:Int)))]) (fun _=>[]) (fun q=>q.2.2.2.1++q.2.2.2.2) (fun q _=>q.1≤es.length∧zaZ 3 1 q.2.1 (zbe X col t (es.take q.1)).length ((zbe X col t (es.take q.1)).map iv) q.2.2.2.1∧zaZ 3 1 q.2.2.1 (zaM X col t (es.take q.1)).length ((zaM X col t (es.take q.1)).map iv) q.2.2.2.2) (fun q=>es.length-q.1) ((0,.slice none 0 0,.slice none 0 0,[],[])) rfl rfl ⟨rfl,rfl,rfl,trivial⟩ trivial rfl (fun _=>rfl) (⟨Nat.zero_le _,zaZ.nil _ _,zaZ.nil _ _⟩) ?_;rintro⟨i,w1,w2,ow1,ow2⟩ G1 hG1 ⟨hi,hown1,hown2⟩;dsimp only at hi hown1 hown2;obtain⟨wa1,wc1,rfl⟩:=hown1.val;obtain⟨wa2,wc2,rfl⟩:=hown2.val;refine uR ?_;refine EV.cond rfl (fun hlt=>?_) (fun hlt=>?_)
 ·simp only[nN]at hlt;obtain⟨r,hri⟩:=gE hlt;have hb:=heb r (qF hri);obtain⟨R,rfl⟩:=Int.eq_ofNat_of_zero_le hb.1;obtain⟨x,hx⟩:∃x,X[R]?=some x:=⟨_,qA oM⟩;have hRl:R<X.length:=by omega
  obtain⟨vs,hvs,hs⟩:=hX.mono (hG0.trans hG1);obtain⟨a2,c2,hu,hQ⟩:=hvs.at hx;have hlo:=zfF (p:=fun r=>zbz X col r && decide (za3 X col r≤t)) hri;have hhi:=zfF (p:=fun r=>zbz X col r && !decide (za3 X col r≤t)) hri
  have hhas:zbz X col (R:Int)=(decide (0≤col) && decide (col<(x.length:Int))):=by
   unfold zbz;rw[Int.toNat_natCast,qB,hx];rfl
  have hl1:(zbe X col t (es.take i)).length≤i:=qI (List.length_filter_le _ _) (by rw[List.length_take];omega);have hl2:(zaM X col t (es.take i)).length≤i:=qI (List.length_filter_le _ _) (by rw[List.length_take];omega);have wn:IntKind.i64.wrap ((i:Int)+1)=((i+1:Nat):Int):=zai i oM;refine uR ?_;refine vI ((he.mono hG1)) (i) (rfl) (hlt) ((by rw[List.getElem?_map,hri];rfl)) ?_;refine uR ?_;by_cases hc:col<0
  ·have hno:zbz X col (R:Int)=false:=by rw[hhas];simp;omega
   rw[hno,Bool.false_and,if_neg (by decide),qG]at hlo hhi;rw[qD hc];refine uR ?_;refine⟨(i+1,_,_,ow1,ow2),⟨rfl,rfl,?_,trivial⟩,sB,trivial,sB,rfl,⟨hlt,by unfold zbe;rw[hlo];exact hown1,by unfold zaM;rw[hhi];exact hown2⟩,Hp.Le.refl _,by dsimp only;omega⟩;rw[wn];rfl
  ·rw[qC hc];refine uR ?_;refine vI (hs) (R) (rfl) (hRl) (hu) ?_;refine uR ?_;by_cases hc2:col≥(x.length:Int)
   ·have hno:zbz X col (R:Int)=false:=by rw[hhas];simp;omega
    rw[hno,Bool.false_and,if_neg (by decide),qG]at hlo hhi;rw[qD hc2];refine uR ?_;refine⟨(i+1,_,_,ow1,ow2),⟨rfl,rfl,?_,trivial⟩,sB,trivial,sB,rfl,⟨hlt,by unfold zbe;rw[hlo];exact hown1,by unfold zaM;rw[hhi];exact hown2⟩,Hp.Le.refl _,by dsimp only;omega⟩;rw[wn];rfl
   ·have hyes:zbz X col (R:Int)=true:=by rw[hhas];simp;omega
    obtain⟨R',C,x',q,hRR,rfl,hx',hq⟩:=zfI hb.1 hb.2 hyes;obtain rfl:R=R':=by omega
    rw[hx]at hx';cases hx';have hk:=zfw (X:=X) rfl rfl hx hq;have hs2:SlC G1 (.slice a2 x.length c2) x.length 5 (x.flatMap fun q=>zah (zad q)):=hQ;have hCl:=(qE.1 hq).1;have hcmp:=zci q t (hsm x (qF hx) q (qF hq)) ht;rw[hyes,Bool.true_and,hk]at hlo hhi;rw[qC hc2];refine uR ?_;apply EV.drawn 8 kR kR;intro xv yw;(repeat refine' DD ?_);refine' vJ (hs) (R) (rfl) (hRl) (hu) ?_;rotate_left;(repeat refine' DD ?_);refine' DJ.idxM tO rfl rfl rfl rfl rfl rfl rfl rfl rfl (hs2) (C) (rfl) (hCl) (QL.at (H:=H) (v:=.bool true) hq) ?_;rotate_left;(repeat refine' DD ?_);(refine DJ.nil (fun G2 hG2 hF2=>?_);(case hS|hS2=>rfl))
    repeat (first|refine RUN ?_|refine CV (hcmp) ?_|refine CE (hcmp) ?_)
    by_cases hle:q≤t
    ·have ho:zc0 q t≤0:=zj9 hle;rw[qD hle,if_pos rfl]at hlo;rw[qD hle,if_neg (by decide),qG]at hhi;rw[qD ho];refine uR ?_;refine EVL.app1 tO rfl rfl rfl rfl rfl rfl rfl rfl rfl rfl rfl rfl rfl rfl rfl rfl rfl rfl rfl (fun _=>rfl) (ow1) (ow2) (rfl) (hown1) oM fun _=>?_;intro v' ow' hown';refine uR ?_;refine⟨(i+1,v',_,ow',ow2),⟨rfl,rfl,?_,trivial⟩,sB,trivial,sB,rfl,⟨hlt,by unfold zbe;rw[hlo];exact hown'.il,by unfold zaM;rw[hhi];exact hown2⟩,by assumption,by dsimp only;omega⟩;rw[wn];rfl
    ·have ho:¬zc0 q t≤0:=by
      have:=Rat.not_le.1 hle;unfold zc0;rw[if_neg (fun k=>absurd (Rat.le_of_lt k) (Rat.not_le.2 this)),if_pos this];omega
     rw[qC hle,if_neg (by decide),qG]at hlo;rw[qC hle,Bool.not_false,if_pos rfl]at hhi;rw[qC ho];refine uR ?_;refine EVL.swapOw ow1 ow2 rfl ?_;refine EVL.app1 tO rfl rfl rfl rfl rfl rfl rfl rfl rfl rfl rfl rfl rfl rfl rfl rfl rfl rfl rfl (fun _=>rfl) (ow2) (ow1) (rfl) (hown2) oM fun _=>?_;intro v' ow' hown';refine EVL.swapOw ow' ow1 rfl ?_;refine uR ?_;refine⟨(i+1,_,v',ow1,ow'),⟨rfl,rfl,?_,trivial⟩,sB,trivial,sB,rfl,⟨hlt,by unfold zbe;rw[hlo];exact hown1,by unfold zaM;rw[hhi];exact hown'.il⟩,by assumption,by dsimp only;omega⟩;rw[wn];rfl
 ·simp only[nN]at hlt;obtain rfl:i=es.length:=by omega
  rw[List.take_length]at hown1 hown2 ⊢;(first|refine EVL.publishL [] ow1 ow2 (rfl) hown1 fun G2 hG2 hs2=>?_|refine EV.publishL [] ow1 ow2 (rfl) hown1 fun G2 hG2 hs2=>?_);(first|refine EVL.publishL [] ow2 [] ((qG _).symm) hown2 fun G3 hG3 hs3=>?_|refine EV.publishL [] ow2 [] ((qG _).symm) hown2 fun G3 hG3 hs3=>?_);refine uR ?_;exact⟨_,_,rfl,hs2.mono hG3,hs3⟩
section
variable {pre S S' post vs:List Value} {k:Nat}
theorem za5 (h:pre.length=k) (j s:Nat) (hj:j+s≤S.length) (hv:(S.drop j).take s=vs):((pre++(S++post)).drop (k+j)).take s=vs:=by
 rw[←List.drop_drop,List.drop_left' h,List.drop_append_of_le_length oM,List.take_append_of_le_length (by rw[List.length_drop];omega),hv]
theorem ze4 (h:pre.length=k) (i j s:Nat) (hj:i+j+s≤S.length) (hv:(S.drop (i+j)).take s=vs):((pre++(S++post)).drop (k+i+j)).take s=vs:=by
 rw[Nat.add_assoc];exact za5 h (i+j) s hj hv
theorem zbJ (h:pre.length=k) (j s:Nat) (hj:j+s≤S.length) (hv:S.take j++vs++S.drop (j+s)=S'):(pre++(S++post)).take (k+j)++vs++(pre++(S++post)).drop (k+j+s)=pre++(S'++post):=by
 subst h;rw[←hv,List.take_append,List.take_of_length_le oM,show pre.length+j-pre.length=j by omega,List.take_append_of_le_length oM,Nat.add_assoc,←List.drop_drop,List.drop_left,List.drop_append_of_le_length (by omega)];simp only[List.append_assoc]
theorem zif (h:pre.length=k) (i j s:Nat) (hj:i+j+s≤S.length) (hv:S.take (i+j)++vs++S.drop (i+j+s)=S'):(pre++(S++post)).take (k+i+j)++vs++(pre++(S++post)).drop (k+i+j+s)=pre++(S'++post):=by
 rw[Nat.add_assoc k i j];exact zbJ h (i+j) s hj hv
theorem zc3 (h:pre.length=k) {j s:Nat} (hj:j+s≤S.length):k+j+s≤(pre++(S++post)).length:=by
 rw[List.length_append,List.length_append];omega
theorem zkE (h:pre.length=k) {i j s:Nat} (hj:i+j+s≤S.length):k+i+j+s≤(pre++(S++post)).length:=by
 rw[List.length_append,List.length_append];omega
end
section
variable {H:Hp} {b k:Nat} {T:TypeId} {pre post:List Value} (hk:pre.length=k)
include hk
theorem zqD {cl:Int} {la:Option Addr} {ln lc:Nat} {va:Option Addr} {vc:Nat} {vals:List Rat} (hv:QL H (.slice va vals.length vc) vals) {r n:Nat} (hn:n≤1000000) {x q:Rat} (hr:vals[r]?=some x) (hx:sm x) (hq:sm q) {cs:List Int} (hc:cs.length=12) {sq:Int} :
  PW prog 125 #[.pointer (some ⟨b,k,none⟩),zaC 2 cl (.slice la ln lc) (.slice va vals.length vc),.int .i64 (r:Int)] H [(b,T,pre++(zat n cs sq q++post))] fun v ow _=>v=.tuple #[]∧ow=[(b,T,pre++(zat ((n+1:Nat):Int) cs sq (q+x)++post))]:=by
 have hadd:=zd0 q x hq hx;have hlen:=zao (n:=(n:Int)) (cs:=cs) (sq:=sq) (q:=q) hc;have hlen2:=zao (n:=((n+1:Nat):Int)) (cs:=cs) (sq:=sq) (q:=q) hc;obtain⟨hrl,_⟩:=qE.1 hr;have hs:SlC H (.slice va vals.length vc) vals.length 5 (vals.flatMap fun q=>zah (zad q)):=hv;refine PW.body tO func125 rfl kR ntmps125 rfl rfl ?_;refine uR ?_;refine RP ?_;refine EVL.loadOwn tO rfl rfl rfl rfl rfl rfl (0) rfl (za5 hk 0 1 oM zb5) rfl rfl ?_;refine RP ?_;rw[show IntKind.i64.wrap ((n:Int)+1)=((n+1:Nat):Int) by rw[IntKind.wrap_i64];omega];refine EVL.storeOwn tO rfl rfl rfl rfl rfl rfl ([]) ([]) rfl rfl rfl rfl ((zc3 hk (j:=0) (s:=1) oM)) (zbJ hk 0 1 oM zbP) ?_;refine uR ?_;apply EV.drawn 11 kR kR;intro xv yw;(repeat (first|refine' DD ?_|refine' vN ?_|refine' vF ?_));refine' DJ.ofVal (zaa.loadOwn tO rfl rfl rfl rfl (0) rfl (za5 hk 14 5 oM (zep hc)) rfl rfl) rfl rfl rfl ?_;rotate_left;(repeat (first|refine' DD ?_|refine' vN ?_|refine' vF ?_));refine' DJ.idxM tO rfl rfl rfl rfl rfl rfl rfl rfl rfl (hs) (r) (rfl) (hrl) (QL.at (H:=H) (v:=.bool true) hr) ?_;rotate_left;(repeat (first|refine' DD ?_|(refine' DC (hadd) (h:=?_);rotate_left)));(refine DJ.nil (fun G1 hG1 hF1=>?_);(case hS|hS2=>rfl));refine RP ?_;refine EVL.storeOwn tO rfl rfl rfl rfl rfl rfl ([]) ([]) rfl rfl rfl rfl ((zc3 hk (j:=14) (s:=5) oM)) (zbJ hk 14 5 oM (zdh hc)) ?_;refine uR ?_;exact⟨rfl,rfl⟩
theorem zpa {cl:Int} {la:Option Addr} {ln lc:Nat} {va:Option Addr} {vc:Nat} {vals:List Rat} (hv:QL H (.slice va vals.length vc) vals) {r n:Nat} (hn:n≤1000000) {x q:Rat} (hr:vals[r]?=some x) (hx:sm x) (hq:sm q) {cs:List Int} (hc:cs.length=12) {sq:Int} :
  PW prog 262 #[.pointer (some ⟨b,k,none⟩),zaC 2 cl (.slice la ln lc) (.slice va vals.length vc),.int .i64 (r:Int)] H [(b,T,pre++(zat ((n+1:Nat):Int) cs sq q++post))] fun v ow _=>v=.tuple #[]∧ow=[(b,T,pre++(zat (n:Int) cs sq (q-x)++post))]:=by
 have hsub:=zlp q x hq hx;have hlen:=zao (n:=(n:Int)) (cs:=cs) (sq:=sq) (q:=q) hc;have hlen2:=zao (n:=((n+1:Nat):Int)) (cs:=cs) (sq:=sq) (q:=q) hc;obtain⟨hrl,_⟩:=qE.1 hr;have hs:SlC H (.slice va vals.length vc) vals.length 5 (vals.flatMap fun q=>zah (zad q)):=hv;refine PW.body tO func262 rfl kR ntmps262 rfl rfl ?_;refine uR ?_;refine RP ?_;refine EVL.loadOwn tO rfl rfl rfl rfl rfl rfl (0) rfl (za5 hk 0 1 oM zb5) rfl rfl ?_;refine RP ?_;rw[show IntKind.i64.wrap (((n+1:Nat):Int)-1)=(n:Int) by rw[IntKind.wrap_i64];omega];refine EVL.storeOwn tO rfl rfl rfl rfl rfl rfl ([]) ([]) rfl rfl rfl rfl ((zc3 hk (j:=0) (s:=1) oM)) (zbJ hk 0 1 oM zbP) ?_;refine uR ?_;apply EV.drawn 11 kR kR;intro xv yw;(repeat (first|refine' DD ?_|refine' vN ?_|refine' vF ?_));refine' DJ.ofVal (zaa.loadOwn tO rfl rfl rfl rfl (0) rfl (za5 hk 14 5 oM (zep hc)) rfl rfl) rfl rfl rfl ?_;rotate_left;(repeat (first|refine' DD ?_|refine' vN ?_|refine' vF ?_));refine' DJ.idxM tO rfl rfl rfl rfl rfl rfl rfl rfl rfl (hs) (r) (rfl) (hrl) (QL.at (H:=H) (v:=.bool true) hr) ?_;rotate_left;(repeat (first|refine' DD ?_|(refine' DC (hsub) (h:=?_);rotate_left)));(refine DJ.nil (fun G1 hG1 hF1=>?_);(case hS|hS2=>rfl));refine RP ?_;refine EVL.storeOwn tO rfl rfl rfl rfl rfl rfl ([]) ([]) rfl rfl rfl rfl ((zc3 hk (j:=14) (s:=5) oM)) (zbJ hk 14 5 oM (zdh hc)) ?_;refine uR ?_;exact⟨rfl,rfl⟩
theorem zqB {cl:Int} {va:Option Addr} {vn vc:Nat} {la:Option Addr} {lc:Nat} {ls:List Int} (hv:IL H (.slice la ls.length lc) ls) {r n:Nat} (hn:n≤1000000) {j m sq:Nat} (hr:ls[r]?=some (j:Int)) (hj:j<12) {cs:List Int} (hc:cs.length=12) (hm:cs[j]?=some (m:Int)) (hmb:m≤1000000) (hsb:sq≤10000000000000) {q:Rat} :
  PW prog 125 #[.pointer (some ⟨b,k,none⟩),zaC 1 cl (.slice la ls.length lc) (.slice va vn vc),.int .i64 (r:Int)] H [(b,T,pre++(zat n cs sq q++post))] fun v ow _=>v=.tuple #[]∧ow=[(b,T,pre++(zat ((n+1:Nat):Int) (cs.set j ((m+1:Nat):Int)) ((sq+2*m+1:Nat):Int) q++post))]:=by
 have hlen:=zao (n:=(n:Int)) (cs:=cs) (sq:=(sq:Int)) (q:=q) hc;have hlen2:=zao (n:=((n+1:Nat):Int)) (cs:=cs) (sq:=(sq:Int)) (q:=q) hc;have hlen3:=zao (n:=((n+1:Nat):Int)) (cs:=cs) (sq:=((sq+2*m+1:Nat):Int)) (q:=q) hc;obtain⟨hrl,_⟩:=qE.1 hr
 have w1:IntKind.i64.wrap ((sq:Int)+IntKind.i64.wrap (IntKind.i64.wrap (2*(m:Int))+1))=((sq+2*m+1:Nat):Int):=by
  rw[show IntKind.i64.wrap (2*(m:Int))=2*(m:Int) by rw[IntKind.wrap_i64];omega,show IntKind.i64.wrap (2*(m:Int)+1)=2*(m:Int)+1 by rw[IntKind.wrap_i64];omega,IntKind.wrap_i64];omega
 have w2:IntKind.i64.wrap ((m:Int)+1)=((m+1:Nat):Int):=by rw[IntKind.wrap_i64];omega
 refine PW.body tO func125 rfl kR ntmps125 rfl rfl ?_;refine uR ?_;refine RP ?_;refine EVL.loadOwn tO rfl rfl rfl rfl rfl rfl (0) rfl (za5 hk 0 1 oM zb5) rfl rfl ?_;refine RP ?_;rw[show IntKind.i64.wrap ((n:Int)+1)=((n+1:Nat):Int) by rw[IntKind.wrap_i64];omega];refine EVL.storeOwn tO rfl rfl rfl rfl rfl rfl ([]) ([]) rfl rfl rfl rfl ((zc3 hk (j:=0) (s:=1) oM)) (zbJ hk 0 1 oM zbP) ?_;refine uR ?_;refine vI (hv) (r) (rfl) (hrl) ((by rw[List.getElem?_map,hr];rfl)) ?_;refine uR ?_;apply EV.drawn 13 kR kR;intro xv yw;(repeat (first|refine' DD ?_|refine' vN ?_|refine' vF ?_));refine' DJ.ofVal (zaa.loadOwn tO rfl rfl rfl rfl (0) rfl (za5 hk 13 1 oM (zeM hc)) rfl rfl) rfl rfl rfl ?_;rotate_left;(repeat (first|refine' DD ?_|refine' vN ?_|refine' vF ?_));refine' DJ.idxA tO rfl rfl rfl rfl (zcO) rfl rfl rfl rfl (j) (rfl) (hj) ?_;rotate_left;refine' DJ.ofVal (zaa.loadOwn tO rfl rfl rfl rfl (0) rfl (ze4 hk 1 j 1 oM (zgg hm)) rfl rfl) rfl rfl rfl ?_;rotate_left;(repeat (first|refine' DD ?_|refine' vN ?_|refine' vF ?_));(refine DJ.nil (fun G1 hG1 hF1=>?_);(case hS|hS2=>rfl));rw[w1];refine RP ?_;refine EVL.storeOwn tO rfl rfl rfl rfl rfl rfl ([]) ([]) rfl rfl rfl rfl ((zc3 hk (j:=13) (s:=1) oM)) (zbJ hk 13 1 oM (zdR hc)) ?_;refine uR ?_;apply EV.drawn 10 kR kR;intro xv yw;(repeat (first|refine' DD ?_|refine' vN ?_|refine' vF ?_));refine' DJ.idxA tO rfl rfl rfl rfl (zcO) rfl rfl rfl rfl (j) (rfl) (hj) ?_;rotate_left;refine' DJ.ofVal (zaa.loadOwn tO rfl rfl rfl rfl (0) rfl (ze4 hk 1 j 1 oM (zgg hm)) rfl rfl) rfl rfl rfl ?_;rotate_left;(repeat (first|refine' DD ?_|refine' vN ?_|refine' vF ?_));refine' DJ.idxA tO rfl rfl rfl rfl (zcO) rfl rfl rfl rfl (j) (rfl) (hj) ?_;rotate_left;(refine DJ.nil (fun G2 hG2 hF2=>?_);(case hS|hS2=>rfl));rw[w2];refine RP ?_;refine EVL.storeOwn tO rfl rfl rfl rfl rfl rfl ([]) ([]) rfl rfl rfl rfl ((zkE hk (i:=1) (j:=j) (s:=1) oM)) (zif hk 1 j 1 oM (zdQ _ (show j<cs.length by omega))) ?_;refine uR ?_;exact⟨rfl,rfl⟩
theorem zo9 {cl:Int} {va:Option Addr} {vn vc:Nat} {la:Option Addr} {lc:Nat} {ls:List Int} (hv:IL H (.slice la ls.length lc) ls) {r n:Nat} (hn:n≤1000000) {j m sq:Nat} (hr:ls[r]?=some (j:Int)) (hj:j<12) {cs:List Int} (hc:cs.length=12) (hm:cs[j]?=some ((m+1:Nat):Int)) (hmb:m≤1000000) (hsb:sq≤10000000000000) {q:Rat} :
  PW prog 262 #[.pointer (some ⟨b,k,none⟩),zaC 1 cl (.slice la ls.length lc) (.slice va vn vc),.int .i64 (r:Int)] H [(b,T,pre++(zat ((n+1:Nat):Int) cs ((sq+2*m+1:Nat):Int) q++post))] fun v ow _=>v=.tuple #[]∧ow=[(b,T,pre++(zat (n:Int) (cs.set j (m:Int)) (sq:Int) q++post))]:=by
 have hcs:(cs.set j (m:Int)).length=12:=by rw[List.length_set,hc]
 have hlen:=zao (n:=(n:Int)) (cs:=cs) (sq:=((sq+2*m+1:Nat):Int)) (q:=q) hc;have hlen2:=zao (n:=((n+1:Nat):Int)) (cs:=cs) (sq:=((sq+2*m+1:Nat):Int)) (q:=q) hc;have hlen3:=zao (n:=(n:Int)) (cs:=cs.set j (m:Int)) (sq:=((sq+2*m+1:Nat):Int)) (q:=q) hcs;obtain⟨hrl,_⟩:=qE.1 hr;have w2:IntKind.i64.wrap (((m+1:Nat):Int)-1)=(m:Int):=by rw[IntKind.wrap_i64];omega
 have hm':(cs.set j (m:Int))[j]?=some (m:Int):=by rw[List.getElem?_set_self (by omega)]
 have w1:IntKind.i64.wrap (((sq+2*m+1:Nat):Int)-IntKind.i64.wrap (IntKind.i64.wrap (2*(m:Int))+1))=(sq:Int):=by
  rw[show IntKind.i64.wrap (2*(m:Int))=2*(m:Int) by rw[IntKind.wrap_i64];omega,show IntKind.i64.wrap (2*(m:Int)+1)=2*(m:Int)+1 by rw[IntKind.wrap_i64];omega,IntKind.wrap_i64];omega
 refine PW.body tO func262 rfl kR ntmps262 rfl rfl ?_;refine uR ?_;refine RP ?_;refine EVL.loadOwn tO rfl rfl rfl rfl rfl rfl (0) rfl (za5 hk 0 1 oM zb5) rfl rfl ?_;refine RP ?_;rw[show IntKind.i64.wrap (((n+1:Nat):Int)-1)=(n:Int) by rw[IntKind.wrap_i64];omega];refine EVL.storeOwn tO rfl rfl rfl rfl rfl rfl ([]) ([]) rfl rfl rfl rfl ((zc3 hk (j:=0) (s:=1) oM)) (zbJ hk 0 1 oM zbP) ?_;refine uR ?_;refine vI (hv) (r) (rfl) (hrl) ((by rw[List.getElem?_map,hr];rfl)) ?_;refine uR ?_;apply EV.drawn 10 kR kR;intro xv yw;(repeat (first|refine' DD ?_|refine' vN ?_|refine' vF ?_));refine' DJ.idxA tO rfl rfl rfl rfl (zcO) rfl rfl rfl rfl (j) (rfl) (hj) ?_;rotate_left;refine' DJ.ofVal (zaa.loadOwn tO rfl rfl rfl rfl (0) rfl (ze4 hk 1 j 1 oM (zgg hm)) rfl rfl) rfl rfl rfl ?_;rotate_left;(repeat (first|refine' DD ?_|refine' vN ?_|refine' vF ?_));refine' DJ.idxA tO rfl rfl rfl rfl (zcO) rfl rfl rfl rfl (j) (rfl) (hj) ?_;rotate_left;(refine DJ.nil (fun G2 hG2 hF2=>?_);(case hS|hS2=>rfl));rw[w2];refine RP ?_;refine EVL.storeOwn tO rfl rfl rfl rfl rfl rfl ([]) ([]) rfl rfl rfl rfl ((zkE hk (i:=1) (j:=j) (s:=1) oM)) (zif hk 1 j 1 oM (zdQ _ (show j<cs.length by omega))) ?_;refine uR ?_;apply EV.drawn 13 kR kR;intro xv yw;(repeat (first|refine' DD ?_|refine' vN ?_|refine' vF ?_));refine' DJ.ofVal (zaa.loadOwn tO rfl rfl rfl rfl (0) rfl (za5 hk 13 1 oM (zeM hcs)) rfl rfl) rfl rfl rfl ?_;rotate_left;(repeat (first|refine' DD ?_|refine' vN ?_|refine' vF ?_));refine' DJ.idxA tO rfl rfl rfl rfl (zcO) rfl rfl rfl rfl (j) (rfl) (hj) ?_;rotate_left;refine' DJ.ofVal (zaa.loadOwn tO rfl rfl rfl rfl (0) rfl (ze4 hk 1 j 1 oM (zgg hm')) rfl rfl) rfl rfl rfl ?_;rotate_left;(repeat (first|refine' DD ?_|refine' vN ?_|refine' vF ?_));(refine DJ.nil (fun G1 hG1 hF1=>?_);(case hS|hS2=>rfl));rw[w1];refine RP ?_;refine EVL.storeOwn tO rfl rfl rfl rfl rfl rfl ([]) ([]) rfl rfl rfl rfl ((zc3 hk (j:=13) (s:=1) oM)) (zbJ hk 13 1 oM (zdR hcs)) ?_;refine uR ?_;exact⟨rfl,rfl⟩
theorem zoF {n:Nat} {cs:List Int} (hc:cs.length=12) {sq:Nat} (hsq:sq≤10000000000000) (hn:n≤1000000) {q:Rat} (hq:ht q≤1000000) :
  PW prog 79 #[.pointer (some ⟨b,k,none⟩),.int .i64 2] H [(b,T,pre++(zat n cs sq q++post))] fun v ow _=>v=zad (q*q / ((n:Int):Rat))∧ow=[(b,T,pre++(zat n cs sq q++post))]:=by
 have hlen:=zao (n:=(n:Int)) (cs:=cs) (sq:=(sq:Int)) (q:=q) hc;have hqs:sm q:=zaE hq oM;have hmul:=znI q q hqs hqs;have hof:=zgx (sq:Int) oM oM;have hof2:=zgx (n:Int) oM oM;have hm:=ziH q q
 have hnh:ht ((n:Int):Rat)≤100:=by
  have:=zbI (n:Int);have h2:bl (n:Int).natAbs≤20:=za6 oM;omega
 refine PW.body tO func79 rfl kR ntmps79 rfl rfl ?_;refine uR ?_;refine RP ?_;refine EVL.loadOwn tO rfl rfl rfl rfl rfl rfl (0) rfl (za5 hk 0 1 oM zb5) rfl rfl ?_;refine uR ?_;by_cases h0:n=0
 ·subst h0;rw[show (((0:Nat):Int) == 0)=true from rfl];refine uR ?_;rw[show (((0:Nat):Int):Rat)=0 from rfl,za7];exact⟨zbO.symm,rfl⟩
 ·have hdiv:=ziB (q*q) ((n:Int):Rat) (zaE hm oM) (zaE hnh oM) (zdp h0);rw[show ((n:Int) == 0)=false from beq_eq_false_iff_ne.2 (by omega)];refine uR ?_;refine RP ?_;refine EVL.loadOwn tO rfl rfl rfl rfl rfl rfl (0) rfl (za5 hk 13 1 oM (zeM hc)) rfl rfl ?_
  repeat (first|refine RUN ?_|refine CV (hof) ?_|refine CE (hof) ?_)
  apply EV.drawn 8 kR kR;intro xv yw;(repeat (first|refine' DD ?_|refine' vN ?_|refine' vF ?_));refine' DJ.ofVal (zaa.loadOwn tO rfl rfl rfl rfl (0) rfl (za5 hk 14 5 oM (zep hc)) rfl rfl) rfl rfl rfl ?_;rotate_left;(repeat (first|refine' DD ?_|refine' vN ?_|refine' vF ?_));refine' DJ.ofVal (zaa.loadOwn tO rfl rfl rfl rfl (0) rfl (za5 hk 14 5 oM (zep hc)) rfl rfl) rfl rfl rfl ?_;rotate_left;(repeat (first|refine' DD ?_|refine' vN ?_|refine' vF ?_));(refine DJ.nil (fun G1 hG1 hF1=>?_);(case hS|hS2=>rfl))
  repeat (first|refine RUN ?_|refine CV (hmul) ?_|refine CE (hmul) ?_)
  refine uR ?_;apply EV.drawn 12 kR kR;intro xv yw;(repeat (first|refine' DD ?_|refine' vN ?_|refine' vF ?_));refine' DJ.ofVal (zaa.loadOwn tO rfl rfl rfl rfl (0) rfl (za5 hk 0 1 oM zb5) rfl rfl) rfl rfl rfl ?_;rotate_left;(repeat (first|refine' DD ?_|(refine' DC (hof2) (h:=?_);rotate_left)|(refine' DC (hdiv) (h:=?_);rotate_left)));(refine DJ.nil (fun G2 hG2 hF2=>?_);(case hS|hS2=>rfl));refine uR ?_;exact⟨rfl,rfl⟩
theorem zoD {n:Nat} {cs:List Int} (hc:cs.length=12) {sq:Nat} (hsq:sq≤10000000000000) (hn:n≤1000000) {q:Rat} :
  PW prog 79 #[.pointer (some ⟨b,k,none⟩),.int .i64 1] H [(b,T,pre++(zat n cs sq q++post))] fun v ow _=>v=zad (((sq:Int):Rat) / ((n:Int):Rat))∧ow=[(b,T,pre++(zat n cs sq q++post))]:=by
 have hlen:=zao (n:=(n:Int)) (cs:=cs) (sq:=(sq:Int)) (q:=q) hc;have hof:=zgx (sq:Int) oM oM;have hof2:=zgx (n:Int) oM oM
 have hnh:ht ((n:Int):Rat)≤100:=by
  have:=zbI (n:Int);have h2:bl (n:Int).natAbs≤20:=za6 oM;omega
 have hsh:ht ((sq:Int):Rat)≤100:=by
  have:=zbI (sq:Int);have h2:bl (sq:Int).natAbs≤50:=za6 oM;omega
 refine PW.body tO func79 rfl kR ntmps79 rfl rfl ?_;refine uR ?_;refine RP ?_;refine EVL.loadOwn tO rfl rfl rfl rfl rfl rfl (0) rfl (za5 hk 0 1 oM zb5) rfl rfl ?_;refine uR ?_;by_cases h0:n=0
 ·subst h0;rw[show (((0:Nat):Int) == 0)=true from rfl];refine uR ?_;rw[show (((0:Nat):Int):Rat)=0 from rfl,za7];exact⟨zbO.symm,rfl⟩
 ·have hdiv:=ziB ((sq:Int):Rat) ((n:Int):Rat) (zaE hsh oM) (zaE hnh oM) (zdp h0);rw[show ((n:Int) == 0)=false from beq_eq_false_iff_ne.2 (by omega)];refine uR ?_;refine RP ?_;refine EVL.loadOwn tO rfl rfl rfl rfl rfl rfl (0) rfl (za5 hk 13 1 oM (zeM hc)) rfl rfl ?_
  repeat (first|refine RUN ?_|refine CV (hof) ?_|refine CE (hof) ?_)
  apply EV.drawn 12 kR kR;intro xv yw;(repeat (first|refine' DD ?_|refine' vN ?_|refine' vF ?_));refine' DJ.ofVal (zaa.loadOwn tO rfl rfl rfl rfl (0) rfl (za5 hk 0 1 oM zb5) rfl rfl) rfl rfl rfl ?_;rotate_left;(repeat (first|refine' DD ?_|(refine' DC (hof2) (h:=?_);rotate_left)|(refine' DC (hdiv) (h:=?_);rotate_left)));(refine DJ.nil (fun G2 hG2 hF2=>?_);(case hS|hS2=>rfl));refine uR ?_;exact⟨rfl,rfl⟩
end
theorem zr5 {b:Nat} {c:Array Value} (h:gH b=some c):c.toList.length=64:=by
 unfold gH at h;split at h
 ·cases h;rfl
 ·cases h
section
variable {P:Program} {n:Nat} {ops:Array Oper} {o:Oper} {rest:List Oper} {env:Env} {bx:Bxs} {sb:Bxs} {ow:Ows} {H:Hs} {Q:EQ} {τ:Tab} {d:Nat} {s:SV}
theorem zaa.callR {f:FuncId} {args:Array Operand} {tys:Array TypeId} (ho:o.op=.call ⟨.value (.func f),args,tys⟩) (hw:zae ops env o=some true) {vs:List Value} (ha:za4 env args.toList some=some vs) (jj:Nat) {b:Nat} {T:TypeId} {cs:List Value} (hj:ow[jj]?=some (b,T,cs)) (h64:cs.length≠64)
  {v:Value} (hc:zav P f) {F:Hp→Prop} {R:Hp} (hpc:∀G,PW P f vs.toArray G [(b,T,cs)] fun u ow' _=>u=v∧ow'=[(b,T,cs)]):zaa P ops o env bx ow R F (fun β u G=>(SV.v v).rep β G u):=fun β a W G hle hf hgl hb hown hs hF=>by
 obtain⟨vs',hk,hm⟩:=zaV env _ _ _ ha;cases hk;have hvs:=hm β G a.eval (fun y s hy=>hs.op (by simp[ho,Op.operands,Call.operands];exact .inr (by simpa using hy)));have hB:=hown jj b T cs hj
 have hg:gH b=none:=by
  cases hgb:gH b with
  | none=>rfl
  | some c =>
   obtain⟨T',fz,hW⟩:=hgl b c hgb;have hB':W.heap[b]?=some (.cells cs.toArray T (0,0)):=hB;rw[hB']at hW;cases hW;have:=zr5 hgb;exact absurd (by simpa using this) h64
 rw[if_pos (hs.want hw)];unfold Oper.wp;rw[zaR hc ho hvs,Oper.upon_enter];refine((hpc (fun k=>if k=b then none else G k)).run W (fun k c h=>hf k c (by first|(split at h <;> first|(cases h;done)|exact h))) hgl (fun j b' T' cs' h=>?_) ?_).mono ?_
 ·cases j with
  | zero=>simp at h;obtain⟨rfl,rfl,rfl⟩:=h;exact⟨hB,if_pos rfl,hg⟩
  | succ j=>simp at h
 ·intro j j' b' T1 T2 c1 c2 h1 h2
  cases j with
  | zero=>cases j' with
   | zero=>rfl
   | succ j'=>simp at h2
  | succ j=>simp at h1
 ·rintro e W' ⟨u,ow',H',rfl,⟨rfl,rfl⟩,hle',hf',hnew,hk,hb',_⟩;have hB2:=(hb' 0 b T cs rfl).1
  have hbel:Below W.heap.size W W':=⟨hk.os,hk.tape,hk.output,hk.size,fun k hlt=>by
   by_cases e:k=b
   ·subst e;have h1:W.heap[k]?=some (.cells cs.toArray T (0,0)):=hB;have h2:W'.heap[k]?=some (.cells cs.toArray T (0,0)):=hB2;rw[h1,h2]
   ·exact hk.block k hlt (by simp[Ows.bs];exact e)⟩
  exact⟨u,G,rfl,rfl,Hp.Le.refl G,hf.below hbel,hbel,Nw.refl _ _ _⟩
theorem zro {f:Fn} {x:Operand} (ho:o.op=.makeFunc f #[] #[x]) {u:Value} (hx:env.op x=some (.v u)) (ev:Operand→Value) (W:World) (he:∀y x,y∈o.op.operands→env.op y=some (.v x)→ev y=x) :
  (execOp ev o).run P W=.ok (.value (.func f #[] #[u])) W:=by
 have ex:=he x _ (by simp[ho,Op.operands]) hx;unfold execOp;simp[ho,ex,Instr.makeFunc]
theorem EVL.fn1 {f:Fn} {x:Operand} (ho:o.op=.makeFunc f #[] #[x]) (hw:zae ops env o=some true) (hd:o.dst=some d) (hn:Nat.blt d n=true) {u:Value} (hx:env.op x=some (.v u))
  (h:EVL P n ops rest ((d,.v (.func f #[] #[u]))::env) bx H Q):EVL P n ops (o::rest) env bx H Q:=EVL.gen hw hd hn (zro ho hx) h
theorem DJ.callR {tail l:List Oper} {x:Nat→Value} {y:Nat→Ows} {ow':Ows} {kl ks:List DK} {i:Nat} {bx':Bxs} {Γ:zes} {f:FuncId} {args:Array Operand} {tys:Array TypeId} (ho:o.op=.call ⟨.value (.func f),args,tys⟩) (hw:zae ops env o=some true) (hd:o.dst=some d) (hn:Nat.blt d n=true)
  {vs:List Value} (ha:za4 env args.toList some=some vs) (jj:Nat) {b:Nat} {T:TypeId} {cs:List Value} (hj:H.ow[jj]?=some (b,T,cs)) (h64:cs.length≠64) {v:Value} (hc:zav P f) (hpc:∀G,PW P f vs.toArray G [(b,T,cs)] fun u ow' _=>u=v∧ow'=[(b,T,cs)])
  (h:DJ P n ops tail sb bx H Q x y kl (i+1) l ks ((d,.v v)::env) bx' Γ ow'):DJ P n ops tail sb bx H Q x y kl i (o::l) (.sv (.v v)::ks) env bx' Γ ow' :=
 ⟨d,hd,hn,rfl,zaa.callR ho hw ha jj hj h64 hc hpc,h⟩
end
structure GOk (H:Hp) (kd cl:Int) (sl sv:Value) (N:Nat) (S:List Int→List Value) (wo:List Int→Rat):Prop where
 len:∀l,(S l).length=19
 form:∀l,∃(n:Int) (cs:List Int) (sq:Int) (q:Rat),cs.length=12∧S l=zat n cs sq q
 check:∀G,H.Le G→PC prog 75 #[zaC kd cl sl sv] G fun r _=>r=.int .i64 0
 leng:PV prog 78 #[zaC kd cl sl sv] (.int .i64 (N:Int))
 zero:S []=Tryz.te147.zero
 first:∀l,((S l).drop 0).take 1=[.int .i64 (l.length:Int)]
 whole:∀G,H.Le G→∀v l,IL G v l→l.length≤300→(∀r,r∈l→0≤r∧r<(N:Int))→PC prog 76 #[zaC kd cl sl sv,v] G fun r _=>r=.agg (S l).toArray
 move:∀G,H.Le G→∀(b:Nat) (l l':List Int) (r:Int),l.length+l'.length≤299→(∀z,z∈l++r::l'→0≤z∧z<(N:Int)) →
  PW prog 248 #[.pointer (some ⟨b,0,none⟩),zaC kd cl sl sv,.int .i64 r] G [(b,314,S l++S (r::l'))] fun v ow _=>v=.tuple #[]∧ow=[(b,314,S (l++[r])++S l')]
 worth:∀(G:Hp) (b k:Nat) (T:TypeId) (pre post:List Value) (l:List Int),pre.length=k→l.length≤300→(∀r,r∈l→0≤r∧r<(N:Int)) →
  PW prog 79 #[.pointer (some ⟨b,k,none⟩),.int .i64 kd] G [(b,T,pre++(S l++post))] fun v ow _=>v=zad (wo l)∧ow=[(b,T,pre++(S l++post))]
 small:∀l:List Int,l.length≤300→(∀r,r∈l→0≤r∧r<(N:Int))→ht (wo l)≤100000
theorem GOk.mono {H G:Hp} {kd cl:Int} {sl sv:Value} {N:Nat} {S:List Int→List Value} {wo:List Int→Rat} (h:GOk H kd cl sl sv N S wo) (k:H.Le G):GOk G kd cl sl sv N S wo :=
 ⟨h.len,h.form,fun G' hG=>h.check G' (k.trans hG),h.leng,h.zero,h.first,fun G' hG=>h.whole G' (k.trans hG),fun G' hG=>h.move G' (k.trans hG),h.worth,h.small⟩
theorem PV.pc' {P:Program} {f:FuncId} {args:Array Value} {v:Value} (h:PV P f args v) (G:Hp):PC P f args G fun r _=>r=v:=(h.pc G).mono fun _ _ h _=>h.1
theorem zmz (l:List Rat):∀x:Rat,l.foldl (·+·) x=x+zaX l:=by
 unfold zaX
 induction l with
 | nil=>intro x;rw[List.foldl_nil,List.foldl_nil,Rat.add_zero]
 | cons y l ih=>intro x;rw[List.foldl_cons,List.foldl_cons,ih,ih (0+y),Rat.zero_add,Rat.add_assoc]
theorem zas (x:Rat) (l:List Rat):zaX (x::l)=x+zaX l:=by
 have:=zmz l (0+x);rw[Rat.zero_add]at this;unfold zaX at *
 rw[List.foldl_cons,Rat.zero_add];exact this
def zjb (vals:List Rat) (l:List Int):List Value:=zat (l.length:Nat) (List.replicate 12 0) 0 (zaX (atR vals l))
def zja (ls:List Int) (l:List Int):List Value:=zat (l.length:Nat) (csL (atI ls l)) (sqL (atI ls l):Nat) 0
def woV (vals:List Rat) (l:List Int):Rat:=zaX (atR vals l)*zaX (atR vals l) / ((l.length:Int):Rat)
def woL (ls:List Int) (l:List Int):Rat:=((sqL (atI ls l):Int):Rat) / ((l.length:Int):Rat)
theorem zkC {vals:List Rat} {R:Nat} {x:Rat} (h:vals[R]?=some x) (l:List Int):atR vals ((R:Int)::l)=x::atR vals l:=by
 unfold atR;rw[List.map_cons,Int.toNat_natCast,qB,h];rfl
theorem zd1 {ls:List Int} {R:Nat} {x:Int} (h:ls[R]?=some x) (l:List Int):atI ls ((R:Int)::l)=x::atI ls l:=by
 unfold atI;rw[List.map_cons,Int.toNat_natCast,qB,h];rfl
theorem zjD {vals:List Rat} (l m:List Int):atR vals (l++m)=atR vals l++atR vals m:=List.map_append
theorem zjC {ls:List Int} (l m:List Int):atI ls (l++m)=atI ls l++atI ls m:=List.map_append
theorem zs0 {H:Hp} {la:Option Addr} {lc:Nat} {va:Option Addr} {vc:Nat} {vals:List Rat} (hv:QL H (.slice va vals.length vc) vals) (h0:1≤vals.length) (h1:vals.length≤300) (hb:∀q,q∈vals→ht q≤100) :
  GOk H 2 0 (.slice la 0 lc) (.slice va vals.length vc) vals.length (zjb vals) (woV vals):=by
 have hs:∀l:List Int,l.length≤300→(∀r,r∈l→0≤r∧r<(vals.length:Int))→ht (zaX (atR vals l))≤1+101*300:=fun l hl hr=>by
  have h1:=zgQ 100 (atR vals l) (fun q hq=>hb q (zfo hr q hq));rw[zca]at h1;omega
 refine⟨fun l=>zao rfl,fun l=>⟨_,_,_,_,rfl,rfl⟩,fun G hG=>(zd5 h0 h1).pc' G,znz,by unfold zjb;exact zeq.symm,fun l=>zb5,fun G hG v l hl hn hr=>?_,fun G hG b l l' r hn hr=>?_,fun G b k T pre post l hk hn hr=>?_,fun l hl hr=>?_⟩
 ·obtain⟨a,c,rfl⟩:=SlC.val hl;exact zoB (hv.mono hG) hl oM hr hb
 ·have hrb:=hr r (by simp);obtain⟨R,rfl⟩:=Int.eq_ofNat_of_zero_le hrb.1;obtain⟨x,hx⟩:∃x,vals[R]?=some x:=⟨_,qA oM⟩;have hxs:sm x:=zaE (hb x (qF hx)) oM;have h1:=hs l oM (fun z hz=>hr z (by simp[hz]));have h2:=hs ((R:Int)::l') (by simp;omega) (fun z hz=>hr z (List.mem_append_right _ hz));have e1:zaX (atR vals (l++[(R:Int)]))=zaX (atR vals l)+x:=by rw[zjD,zkC hx];exact zcm _ _
  have e2:zaX (atR vals ((R:Int)::l'))-x=zaX (atR vals l'):=by rw[zkC hx,zas];grind
  have hadd:=fun (G':Hp) (hG':G.Le G')=>zqD (pre:=[]) (k:=0) (b:=b) (T:=314) (post:=zjb vals ((R:Int)::l')) rfl (cl:=0) (la:=la) (ln:=0) (lc:=lc) (hv.mono (hG.trans hG')) (n:=l.length) oM hx hxs (zaE h1 oM) (cs:=List.replicate 12 0) rfl (sq:=0);have hdrop:=fun (G':Hp) (hG':G.Le G')=>zpa (pre:=zjb vals (l++[(R:Int)])) (k:=19) (b:=b) (T:=314) (post:=[]) (zao rfl) (cl:=0) (la:=la) (ln:=0) (lc:=lc) (hv.mono (hG.trans hG')) (n:=l'.length) oM hx hxs (zaE h2 oM) (cs:=List.replicate 12 0) rfl (sq:=0);simp only[←e1]at hadd;simp only[e2]at hdrop;have hl1:(l++[(R:Int)]).length=l.length+1:=by simp
  refine PW.body tO func248 rfl kR ntmps248 rfl rfl ?_;refine uR ?_;apply EV.drawn 5 kR kR;intro xv yw;(repeat (first|refine' DD ?_|refine' vN ?_|refine' vF ?_));(refine DJ.nil (fun G1 hG1 hF1=>?_);(case hS|hS2=>rfl));refine vW ([(b,314,zjb vals l++zjb vals ((R:Int)::l'))]) ([]) (hadd _ hG1) ?_;rintro v ow G2 ⟨rfl,rfl⟩ hG2;rw[←hl1];refine uR ?_;apply EV.drawn 5 kR kR;intro xv yw;(repeat (first|refine' DD ?_|refine' vN ?_|refine' vF ?_));(refine DJ.nil (fun G3 hG3 hF3=>?_);(case hS|hS2=>rfl));refine EVL.callW rfl rfl rfl rfl rfl ([(b,314,zjb vals (l++[(R:Int)])++(zat ((l'.length+1:Nat):Int) (List.replicate 12 0) 0 (zaX (atR vals ((R:Int)::l')))++[]))]) ([]) rfl (hdrop _ (hG1.trans (hG2.trans hG3))) ?_;rintro v ow G4 ⟨rfl,rfl⟩ hG4;refine uR ?_;refine⟨rfl,?_⟩;rw[qG];rfl
 ·exact zoF hk (cs:=List.replicate 12 0) rfl (sq:=0) oM oM (qI (hs l hn hr) oM)
 ·have h1:=hs l hl hr;have h2:=ziH (zaX (atR vals l)) (zaX (atR vals l));have h3:=zbI (l.length:Int);have h4:bl (l.length:Int).natAbs≤20:=za6 oM;have h5:=zfJ (zaX (atR vals l)*zaX (atR vals l)) ((l.length:Int):Rat);unfold woV;omega
theorem zll {l m:List Int} (h:l.Perm m):sqL l=sqL m:=by
 unfold sqL;have e:(l.map fun x=>l.count x)=l.map fun x=>m.count x:=List.map_congr_left fun x _=>h.count_eq x;rw[e];exact(h.map _).sum_nat
theorem zo2 {l m:List Int} (h:l.Perm m):csL l=csL m:=by
 unfold csL;exact List.map_congr_left fun k _=>by rw[h.count_eq]
theorem zo1 {k:Nat} (hk:k<12) (l:List Int):(csL ((k:Int)::l)).set k (l.count (k:Int):Int)=csL l:=by
 have h:=zhn l hk;have hp:((k:Int)::l).Perm (l++[(k:Int)]):=List.perm_append_comm (l₁:=[(k:Int)]) (l₂:=l);rw[zo2 hp,h,List.set_set];apply List.ext_getElem?;intro j;rw[List.getElem?_set];by_cases e:k=j
 ·subst e;rw[if_pos rfl,if_pos (by rw[zbu];exact hk),zgI _ hk]
 ·rw[if_neg e]
theorem zhU (x:Int) (l:List Int):sqL (x::l)=sqL l+2*l.count x+1:=by
 have hp:(x::l).Perm (l++[x]):=List.perm_append_comm (l₁:=[x]) (l₂:=l);rw[zll hp,zhV]
theorem zsZ {H:Hp} {cl:Int} (hc:1≤cl∧cl≤12) {va:Option Addr} {vc:Nat} {la:Option Addr} {lc:Nat} {ls:List Int} (hv:IL H (.slice la ls.length lc) ls) (h0:1≤ls.length) (h1:ls.length≤300) (hls0:∀z,z∈ls→0≤z∧z<cl) :
  GOk H 1 cl (.slice la ls.length lc) (.slice va 0 vc) ls.length (zja ls) (woL ls):=by
 have hls:∀z,z∈ls→0≤z∧z<12:=fun z hz=>⟨(hls0 z hz).1,by have:=(hls0 z hz).2;omega⟩
 have hs:∀l:List Int,l.length≤300→sqL (atI ls l)≤90000:=fun l hl=>by
  have h1:=zjh (atI ls l);rw[zb9]at h1;exact qI h1 (Nat.mul_le_mul hl hl)
 refine⟨fun l=>zao (zbu _),fun l=>⟨_,_,_,_,zbu _,rfl⟩,fun G hG=>zfs (hv.mono hG) hc h0 h1 hls0,zjZ,by unfold zja;exact zeq.symm,fun l=>zb5,fun G hG v l hl hn hr=>?_,fun G hG b l l' r hn hr=>?_,fun G b k T pre post l hk hn hr=>?_,fun l hl hr=>?_⟩
 ·exact zg8 (hv.mono hG) hl oM hr hls
 ·have hrb:=hr r (by simp);obtain⟨R,rfl⟩:=Int.eq_ofNat_of_zero_le hrb.1;obtain⟨x,hx⟩:∃x,ls[R]?=some x:=⟨_,qA oM⟩;have hxb:=hls x (qF hx);obtain⟨k,rfl⟩:=Int.eq_ofNat_of_zero_le hxb.1;have hk:k<12:=by omega
  have h1:=hs l oM;have h2:=hs l' oM;have c1:(atI ls l).count (k:Int)≤300:=qI List.count_le_length (by rw[zb9];omega);have c2:(atI ls l').count (k:Int)≤300:=qI List.count_le_length (by rw[zb9];omega);have e1:(csL (atI ls l)).set k (((atI ls l).count (k:Int)+1:Nat):Int)=csL (atI ls (l++[(R:Int)])):=by rw[zjC,zd1 hx];exact(zhn _ hk).symm
  have e2:sqL (atI ls l)+2*(atI ls l).count (k:Int)+1=sqL (atI ls (l++[(R:Int)])):=by rw[zjC,zd1 hx];exact(zhV _ _).symm
  have e3:(csL (atI ls ((R:Int)::l'))).set k ((atI ls l').count (k:Int):Int)=csL (atI ls l'):=by rw[zd1 hx];exact zo1 hk _
  have e4:sqL (atI ls l')+2*(atI ls l').count (k:Int)+1=sqL (atI ls ((R:Int)::l')):=by rw[zd1 hx];exact(zhU _ _).symm
  have e5:(csL (atI ls ((R:Int)::l')))[k]?=some (((atI ls l').count (k:Int)+1:Nat):Int):=by rw[zgI _ hk,zd1 hx,List.count_cons_self]
  have hadd:=fun (G':Hp) (hG':G.Le G')=>zqB (pre:=[]) (k:=0) (b:=b) (T:=314) (post:=zja ls ((R:Int)::l')) rfl (cl:=cl) (va:=va) (vn:=0) (vc:=vc) (hv.mono (hG.trans hG')) (n:=l.length) oM hx hk (cs:=csL (atI ls l)) (zbu _) (zgI _ hk) oM (sq:=sqL (atI ls l)) oM (q:=0);have hdrop:=fun (G':Hp) (hG':G.Le G')=>zo9 (pre:=zja ls (l++[(R:Int)])) (k:=19) (b:=b) (T:=314) (post:=[]) (zao (zbu _)) (cl:=cl) (va:=va) (vn:=0) (vc:=vc) (hv.mono (hG.trans hG')) (n:=l'.length) oM hx hk (cs:=csL (atI ls ((R:Int)::l'))) (zbu _) e5 oM (sq:=sqL (atI ls l')) oM (q:=0);simp only[e1,e2]at hadd;simp only[e3,e4]at hdrop;have hl1:(l++[(R:Int)]).length=l.length+1:=by simp
  refine PW.body tO func248 rfl kR ntmps248 rfl rfl ?_;refine uR ?_;apply EV.drawn 5 kR kR;intro xv yw;(repeat (first|refine' DD ?_|refine' vN ?_|refine' vF ?_));(refine DJ.nil (fun G1 hG1 hF1=>?_);(case hS|hS2=>rfl));refine vW ([(b,314,zja ls l++zja ls ((R:Int)::l'))]) ([]) (hadd _ hG1) ?_;rintro v ow G2 ⟨rfl,rfl⟩ hG2;rw[←hl1];refine uR ?_;apply EV.drawn 5 kR kR;intro xv yw;(repeat (first|refine' DD ?_|refine' vN ?_|refine' vF ?_));(refine DJ.nil (fun G3 hG3 hF3=>?_);(case hS|hS2=>rfl));refine EVL.callW rfl rfl rfl rfl rfl ([(b,314,zja ls (l++[(R:Int)])++(zat ((l'.length+1:Nat):Int) (csL (atI ls ((R:Int)::l'))) (sqL (atI ls ((R:Int)::l')):Nat) 0++[]))]) ([]) rfl (hdrop _ (hG1.trans (hG2.trans hG3))) ?_;rintro v ow G4 ⟨rfl,rfl⟩ hG4;refine uR ?_;refine⟨rfl,?_⟩;rw[qG];rfl
 ·exact zoD hk (zbu _) (by have:=hs l hn;omega) oM
 ·have h1:=hs l hl;have h3:=zbI (l.length:Int);have h4:bl (l.length:Int).natAbs≤20:=za6 oM;have h6:=zbI (sqL (atI ls l):Int);have h7:bl (sqL (atI ls l):Int).natAbs≤30:=za6 oM;have h5:=zfJ ((sqL (atI ls l):Int):Rat) ((l.length:Int):Rat);unfold woL;omega
def zc5 (key:Int→Rat) (least:Int) (m:List Int) (j:Nat):Bool:=decide (least≤((j+1:Nat):Int)) && decide (least≤((m.length-(j+1):Nat):Int)) && decide (key (m.getD j 0)<key (m.getD (j+1) 0))
def zeO (wo:List Int→Rat) (m:List Int) (j:Nat):Rat:=wo (m.take (j+1))+wo (m.drop (j+1))
def zdX (key:Int→Rat) (m:List Int) (j:Nat):Rat:=(key (m.getD j 0)+key (m.getD (j+1) 0)) / 2
def zcY (key:Int→Rat) (wo:List Int→Rat) (least:Int) (m:List Int):Nat→Option (Rat × Rat)
 | 0=>none
 | j+1=>if zc5 key least m j=true then (match zcY key wo least m j with
  | none=>some (zdX key m j,zeO wo m j)
  | some (a,w)=>if w<zeO wo m j then some (zdX key m j,zeO wo m j) else some (a,w)) else zcY key wo least m j
def stA:Option (Rat × Rat)→Rat
 | none=>0
 | some (a,_)=>a
def stW:Option (Rat × Rat)→Rat
 | none=>0
 | some (_,w)=>w
theorem zjN {key:Int→Rat} {wo:List Int→Rat} {least:Int} {m:List Int} {j:Nat} (h:zc5 key least m j=false):zcY key wo least m (j+1)=zcY key wo least m j:=by
 rw[zcY,h,if_neg (by decide)]
theorem zlN {key:Int→Rat} {wo:List Int→Rat} {least:Int} {m:List Int} {j:Nat} (h:zc5 key least m j=true) (h0:zcY key wo least m j=none):zcY key wo least m (j+1)=some (zdX key m j,zeO wo m j):=by
 rw[zcY,h,if_pos rfl,h0]
theorem zm6 {key:Int→Rat} {wo:List Int→Rat} {least:Int} {m:List Int} {j:Nat} {a w:Rat} (h:zc5 key least m j=true) (h0:zcY key wo least m j=some (a,w)) (hw:w<zeO wo m j):zcY key wo least m (j+1)=some (zdX key m j,zeO wo m j):=by
 rw[zcY,h,if_pos rfl,h0];exact if_pos hw
theorem zm5 {key:Int→Rat} {wo:List Int→Rat} {least:Int} {m:List Int} {j:Nat} {a w:Rat} (h:zc5 key least m j=true) (h0:zcY key wo least m j=some (a,w)) (hw:¬w<zeO wo m j):zcY key wo least m (j+1)=zcY key wo least m j:=by
 rw[zcY,h,if_pos rfl,h0];exact if_neg hw
theorem zsn {S S':List Value} {n:Int} (hl:S.length=19) (h:(S.drop 0).take 1=[.int .i64 n]):((S++S').drop (0+0+0)).take 1=[.int .i64 n]:=by
 rw[List.drop_append_of_le_length oM,List.take_append_of_le_length (by rw[List.length_drop];omega)];exact h
theorem zry {S S':List Value} {n:Int} (hl:S.length=19) (h:(S'.drop 0).take 1=[.int .i64 n]):((S++S').drop (0+19+0)).take 1=[.int .i64 n]:=by
 rw[show 0+19+0=19 from rfl,List.drop_left' hl];exact h
def zp3 (X:List (List Rat)) (wo:List Int→Rat) (rs:List Int) (least col:Int) (o:Option (Rat × Rat)):Prop:=∃m,zlE X col rs m∧o=zcY (za3 X col) wo least m (m.length-1)∧ht (stW o)≤200001
theorem zqo {key:Int→Rat} {wo:List Int→Rat} {least:Int} {m:List Int} {B:Nat} (h:∀j,j<m.length→ht (zeO wo m j)≤B) (hB:1≤B):∀j,j≤m.length→ht (stW (zcY key wo least m j))≤B
 | 0,_=>by show ht 0≤B;rw[zcb];exact hB
 | j+1,hj=>by
  have ih:=zqo (key:=key) (least:=least) h hB j oM;have h1:=h j oM;unfold zcY;split
  ·split
   ·exact h1
   ·split
    ·exact h1
    ·rename_i h2 _;rw[h2]at ih;exact ih
  ·exact ih
theorem zhF {a b:Rat}:zc0 a b≥0↔¬a<b:=by
 unfold zc0;split
 ·rename_i h;constructor
  ·intro k;omega
  ·intro k;exact absurd h k
 ·rename_i h;constructor
  ·intro _;exact h
  ·intro _;split <;> omega
theorem zek {a b:Rat}:zc0 a b>0↔b<a:=by
 unfold zc0;split
 ·rename_i h;constructor
  ·intro k;omega
  ·intro k;exact absurd (Rat.le_of_lt h) (Rat.not_le.2 k)
 ·split
  ·rename_i h;exact⟨fun _=>h,fun _=>by omega⟩
  ·rename_i h;exact⟨fun k=>by omega,fun k=>absurd k h⟩
theorem zsb:∀{l:List Int},l.length=12→∃c0 c1 c2 c3 c4 c5 c6 c7 c8 c9 c10 c11,l=[c0,c1,c2,c3,c4,c5,c6,c7,c8,c9,c10,c11]
 | [c0,c1,c2,c3,c4,c5,c6,c7,c8,c9,c10,c11],_=>⟨_,_,_,_,_,_,_,_,_,_,_,_,rfl⟩
theorem zm7 {H:Hp} {kd cl:Int} {sl sv vx vr:Value} {X:List (List Rat)} {S:List Int→List Value} {wo:List Int→Rat} {rs:List Int} {col least:Int} (hg:GOk H kd cl sl sv X.length S wo) (hX:QLL H vx X) (hr:IL H vr rs) (hn:rs.length≤20) (hrs:∀r,r∈rs→0≤r∧r<(X.length:Int)) (hb:∀x,x∈X→∀q,q∈x→ht q≤100) :
  PC prog 217 #[zaC kd cl sl sv,vx,vr,.int .i64 col,.int .i64 least] H fun r _=>∃o,zp3 X wo rs least col o∧r=.tuple #[zad (stA o),zad (stW o),.bool o.isSome]:=by
 have hsorted:=zoi (col:=col) hX hr hn hrs (fun x hx q hq=>zaE (hb x hx q hq) oM);obtain⟨xa,xc,rfl⟩:=hX.val;obtain⟨ra,rc,rfl⟩:=SlC.val hr;refine BD func217 ntmps217 ?_;refine uR ?_;refine vA (hsorted) ?_;rintro r1 G1 ⟨m,hm,hsc⟩ hG1
 have hmr:∀r,r∈m→0≤r∧r<(X.length:Int):=by
  rcases hsc with ⟨_,hp,_⟩ | ⟨_,rfl⟩
  ·exact fun r hr=>hrs r (hp.mem_iff.1 hr)
  ·intro r hr;cases hr
 have hmn:m.length≤20:=by
  rcases hsc with ⟨_,hp,_⟩ | ⟨_,rfl⟩
  ·rw[hp.length_eq];exact hn
  ·decide
 have hmh:∀r,r∈m→zbz X col r=true:=by
  rcases hsc with ⟨ha,hp,_⟩ | ⟨_,rfl⟩
  ·exact fun r hr=>List.all_eq_true.1 ha r (hp.mem_iff.1 hr)
  ·intro r hr;cases hr
 obtain⟨ma,mc,rfl⟩:=SlC.val hm;have hwh:=hg.whole G1 hG1 _ m hm oM hmr;have hlS:=hg.len m;refine uR ?_;refine vA (hwh) ?_;rintro r2 G2 rfl hG2;obtain⟨sn,scs,ssq,sq,hs12,hS⟩:=hg.form m;obtain⟨c0,c1,c2,c3,c4,c5,c6,c7,c8,c9,c10,c11,rfl⟩:=zsb hs12;rw[hS];refine uR ?_;(first|refine EVL.unbox (14) rfl fun b=>?_|refine EV.unbox (14) rfl fun b=>?_);(first|refine EVL.swapOw ([(b,314,S (m.take 0)++S (m.drop 0))]) ([]) ((by rw[List.take_zero,List.drop_zero,hg.zero,hS];rfl)) ?_|refine EV.swapOw ([(b,314,S (m.take 0)++S (m.drop 0))]) ([]) ((by rw[List.take_zero,List.drop_zero,hg.zero,hS];rfl)) ?_);have hX2:=hX.mono (hG1.trans hG2);have hm2:=hm.mono hG2;have hg2:=hg.mono (hG1.trans hG2);clear hS hwh hsorted
 have hsw:∀j,j<m.length→ht (zeO wo m j)≤200001:=fun j hj=>by
  have h1:=hg.small (m.take (j+1)) (by rw[List.length_take];omega) (fun r hr=>hmr r (List.mem_of_mem_take hr));have h2:=hg.small (m.drop (j+1)) (by rw[List.length_drop];omega) (fun r hr=>hmr r (List.mem_of_mem_drop hr));have h3:=zeb (wo (m.take (j+1))) (wo (m.drop (j+1)));unfold zeO;omega
 have hst:=fun j (hj:j≤m.length)=>zqo (key:=za3 X col) (least:=least) hsw oM j hj;generalize hkey:za3 X col=key at *
 refine EV.loopK (ι:=Nat) [1,3,4,5,10,11,13,14] [5] (fun j=>[(12,.v (.bool (zcY key wo least m j).isSome)),(15,.v (.int .i64 ((j+1:Nat):Int)))]) (fun j=>[(10,50,zah (zad (stA (zcY key wo least m j)))),(11,50,zah (zad (stW (zcY key wo least m j))))]) (fun j=>[(b,314,S (m.take j)++S (m.drop j))]) (fun j _=>j≤m.length-1) (fun j=>m.length-j) (0) rfl rfl ⟨rfl,rfl,trivial⟩ ⟨by rw[show stA (zcY key wo least m 0)=0 from rfl,zay];rfl,by rw[show stW (zcY key wo least m 0)=0 from rfl,zay];rfl,trivial⟩ rfl (fun _=>rfl) (Nat.zero_le _) ?_;rintro j G3 hG3 hj;refine uR ?_;refine EV.cond rfl (fun hlt=>?_) (fun hlt=>?_)
 ·simp only[nN]at hlt;obtain⟨r1,hr1⟩:∃r,m[j]?=some r:=⟨_,qA oM⟩;obtain⟨r2,hr2⟩:∃r,m[j+1]?=some r:=⟨_,qA hlt⟩;have hb1:=hmr r1 (qF hr1);have hb2:=hmr r2 (qF hr2);obtain⟨R1,C,x1,q1,rfl,hCC,hx1,hq1⟩:=zfI hb1.1 hb1.2 (hmh r1 (qF hr1));subst hCC;obtain⟨R2,C',x2,q2,rfl,hCC,hx2,hq2⟩:=zfI hb2.1 hb2.2 (hmh r2 (qF hr2));obtain rfl:C=C':=by omega
  obtain⟨vs,hvs,hs⟩:=hX2.mono hG3;obtain⟨a1,e1,hu1,hQ1⟩:=hvs.at hx1;obtain⟨a2,e2,hu2,hQ2⟩:=hvs.at hx2;have hs1:SlC G3 (.slice a1 x1.length e1) x1.length 5 (x1.flatMap fun q=>zah (zad q)):=hQ1;have hs2:SlC G3 (.slice a2 x2.length e2) x2.length 5 (x2.flatMap fun q=>zah (zad q)):=hQ2;have hm3:=hm2.mono hG3;have hl1:=(qE.1 hq1).1;have hl2:=(qE.1 hq2).1;have hXl1:R1<X.length:=by omega
  have hXl2:R2<X.length:=by omega
  have hjl:j<m.length:=by omega
  have hk1:key (m.getD j 0)=q1:=by rw[qB,hr1,←hkey];exact zfw rfl rfl hx1 hq1
  have hk2:key (m.getD (j+1) 0)=q2:=by rw[qB,hr2,←hkey];exact zfw rfl rfl hx2 hq2
  have hqb1:=hb x1 (qF hx1) q1 (qF hq1);have hqb2:=hb x2 (qF hx2) q2 (qF hq2);have wj:IntKind.i64.wrap (((j+1:Nat):Int)-1)=(j:Int):=by rw[IntKind.wrap_i64];omega
  have wn:IntKind.i64.wrap (((j+1:Nat):Int)+1)=((j+1+1:Nat):Int):=zai (j+1) oM;have hdrop:m.drop j=(R1:Int)::m.drop (j+1):=ze6 hr1;have htake:m.take (j+1)=m.take j++[(R1:Int)]:=zaz hr1;have hmove:=fun (G':Hp) (hG':G3.Le G')=>hg2.move G' (hG3.trans hG') b (m.take j) (m.drop (j+1)) (R1:Int) (by rw[List.length_take,List.length_drop];omega) (by rw[←hdrop,List.take_append_drop];exact hmr);rw[←hdrop,←htake]at hmove;have htl:(m.take (j+1)).length=j+1:=by rw[List.length_take];omega
  have hdl:(m.drop (j+1)).length=m.length-(j+1):=List.length_drop;have hf1:=hg.first (m.take (j+1));have hf2:=hg.first (m.drop (j+1));rw[htl]at hf1;rw[hdl]at hf2;have hS1:=hg.len (m.take (j+1));have hS2:=hg.len (m.drop (j+1));have hcmp:=zci q1 q2 (zaE hqb1 oM) (zaE hqb2 oM);refine uR ?_;apply EV.drawn 6 kR kR;intro xv yw;(repeat refine' DD ?_);refine' DJ.ofVal (zaa.idx1 tO rfl rfl rfl rfl rfl rfl rfl rfl (hm3) (j) (wj) (hjl) ((by rw[List.getElem?_map,hr1];rfl))) rfl rfl rfl ?_;rotate_left;(repeat refine' DD ?_);(refine DJ.nil (fun G4 hG4 hF4=>?_);(case hS|hS2=>rfl));refine vW ([(b,314,S (m.take j)++S (m.drop j))]) ([]) (hmove G4 hG4) ?_;rintro v ow G5 ⟨rfl,rfl⟩ hG5;have hm5:=hm3.mono (hG4.trans hG5);have hs5:=hs.mono (hG4.trans hG5);have hs15:=hs1.mono (hG4.trans hG5);have hs25:=hs2.mono (hG4.trans hG5);refine uR ?_;apply EV.drawn 24 kR kR;intro xv yw;(repeat refine' DD ?_);refine' DJ.ofVal (zaa.idx1 tO rfl rfl rfl rfl rfl rfl rfl rfl (hm5) (j) (wj) (hjl) ((by rw[List.getElem?_map,hr1];rfl))) rfl rfl rfl ?_;rotate_left;(repeat refine' DD ?_);refine' vJ (hs5) (R1) (rfl) (hXl1) (hu1) ?_;rotate_left;(repeat refine' DD ?_);refine' DJ.idxM tO rfl rfl rfl rfl rfl rfl rfl rfl rfl (hs15) (C) (rfl) (hl1) (QL.at (H:=H) (v:=.bool true) hq1) ?_;rotate_left;(repeat refine' DD ?_);refine' vJ (hm5) (j+1) (rfl) (hlt) ((by rw[List.getElem?_map,hr2];rfl)) ?_;rotate_left;(repeat refine' DD ?_);refine' vJ (hs5) (R2) (rfl) (hXl2) (hu2) ?_;rotate_left;(repeat refine' DD ?_);refine' DJ.idxM tO rfl rfl rfl rfl rfl rfl rfl rfl rfl (hs25) (C) (rfl) (hl2) (QL.at (H:=H) (v:=.bool true) hq2) ?_;rotate_left;(repeat refine' DD ?_);(refine DJ.nil (fun G6 hG6 hF6=>?_);(case hS|hS2=>rfl));refine uR ?_;refine RP ?_;refine EVL.loadOwn tO rfl rfl rfl rfl rfl rfl (0) rfl (zsn hS1 hf1) rfl rfl ?_;refine uR ?_;have hcand:zc5 key least m j=(decide (least≤((j+1:Nat):Int)) && decide (least≤((m.length-(j+1):Nat):Int)) && decide (q1<q2)):=by unfold zc5;rw[hk1,hk2]
  by_cases h1:((j+1:Nat):Int)<least
  ·have hno:zcY key wo least m (j+1)=zcY key wo least m j:=zjN (by rw[hcand,qC (show ¬least≤((j+1:Nat):Int) by omega)];rfl);rw[qD h1];refine uR ?_;refine⟨j+1,⟨by rw[hno];rfl,by rw[wn];rfl,trivial⟩,sB,⟨by rw[hno];rfl,by rw[hno];rfl,trivial⟩,sB,rfl,by omega,hG4.trans (hG5.trans hG6),by omega⟩
  ·rw[qC h1];refine uR ?_;refine RP ?_;refine EVL.loadOwn tO rfl rfl rfl rfl rfl rfl (0) rfl (zry hS1 hf2) rfl rfl ?_;refine uR ?_;by_cases h2:((m.length-(j+1):Nat):Int)<least
   ·have hno:zcY key wo least m (j+1)=zcY key wo least m j:=zjN (by rw[hcand,qC (show ¬least≤((m.length-(j+1):Nat):Int) by omega),Bool.and_false];rfl);rw[qD h2];refine uR ?_;refine⟨j+1,⟨by rw[hno];rfl,by rw[wn];rfl,trivial⟩,sB,⟨by rw[hno];rfl,by rw[hno];rfl,trivial⟩,sB,rfl,by omega,hG4.trans (hG5.trans hG6),by omega⟩
   ·rw[qC h2]
    repeat (first|refine RUN ?_|refine CV (hcmp) ?_|refine CE (hcmp) ?_)
    by_cases h3:q1<q2
    ·have hc:zc5 key least m j=true:=by rw[hcand,qD (show least≤((j+1:Nat):Int) by omega),qD (show least≤((m.length-(j+1):Nat):Int) by omega),qD h3];rfl
     have hmid:zdX key m j=(q1+q2) / 2:=by unfold zdX;rw[hk1,hk2]
     have hr1':=fun r hr=>hmr r (List.mem_of_mem_take (i:=j+1) hr);have hr2':=fun r hr=>hmr r (List.mem_of_mem_drop (i:=j+1) hr);have hw1:=fun G':Hp=>hg2.worth G' b 0 314 [] (S (m.drop (j+1))) (m.take (j+1)) rfl oM hr1';have hw2:=fun G':Hp=>hg2.worth G' b 19 314 (S (m.take (j+1))) [] (m.drop (j+1)) hS1 oM hr2';simp only[qG]at hw2;have hsm1:=hg.small (m.take (j+1)) oM hr1';have hsm2:=hg.small (m.drop (j+1)) oM hr2';have hadd:=zd0 (wo (m.take (j+1))) (wo (m.drop (j+1))) (zaE hsm1 oM) (zaE hsm2 oM);have hmv:=znE q1 q2 oM oM;have hws:=hsw j oM;have hwst:=hst j oM;rw[show wo (m.take (j+1))+wo (m.drop (j+1))=zeO wo m j from rfl]at hadd;rw[←hmid]at hmv;rw[qC (fun h=>absurd h3 (zhF.1 h))];refine uR ?_;apply EV.drawn 10 kR kR;intro xv yw;(repeat (first|refine' DD ?_|refine' vN ?_|refine' vF ?_));(refine' DJ.callR rfl rfl rfl rfl rfl 0 rfl (by simp[hS1,hS2]) (cO func79) (fun G'=>hw1 G') ?_;rotate_left);(repeat (first|refine' DD ?_|refine' vN ?_|refine' vF ?_));(refine' DJ.callR rfl rfl rfl rfl rfl 0 rfl (by simp[hS1,hS2]) (cO func79) (fun G'=>hw2 G') ?_;rotate_left);(repeat (first|refine' DD ?_|(refine' DC (hadd) (h:=?_);rotate_left)));(refine DJ.nil (fun G7 hG7 hF7=>?_);(case hS|hS2=>rfl));refine uR ?_;have hcmp2:=zci (zeO wo m j) (stW (zcY key wo least m j)) (zaE hws oM) (zaE hwst oM)
     cases hst0:zcY key wo least m j with
     | none =>
      have hyes:=zlN (wo:=wo) hc hst0;rw[hst0]at hcmp2;refine uR ?_;apply EV.drawnK [1,3,4,5,10,11,13,14,15,16,17,18] [10,11] [5,16,17,18] 5 rfl rfl rfl rfl kR kR;intro xv yw;(repeat (first|refine' DD ?_|(refine' DC (hmv) (h:=?_);rotate_left)));(refine DJ.nil (fun G8 hG8 hF8=>?_);(case hS|hS2=>rfl);(case hD=>rfl));refine uR ?_;refine⟨j+1,⟨by rw[hyes];rfl,by rw[wn];rfl,trivial⟩,sB,⟨by rw[hyes];rfl,by rw[hyes];rfl,trivial⟩,sB,rfl,by omega,hG4.trans (hG5.trans (hG6.trans (hG7.trans hG8))),by omega⟩
     | some p =>
      obtain⟨pa,pw⟩:=p;rw[hst0]at hcmp2
      repeat (first|refine RUN ?_|refine CV (hcmp2) ?_|refine CE (hcmp2) ?_)
      by_cases h4:pw<zeO wo m j
      ·have hyes:=zm6 (wo:=wo) hc hst0 h4;rw[qD (show zc0 (zeO wo m j) (stW (some (pa,pw)))>0 from zek.2 h4)];refine uR ?_;apply EV.drawnK [1,3,4,5,10,11,13,14,15,16,17,18] [10,11] [5,16,17,18] 5 rfl rfl rfl rfl kR kR;intro xv yw;(repeat (first|refine' DD ?_|(refine' DC (hmv) (h:=?_);rotate_left)));(refine DJ.nil (fun G8 hG8 hF8=>?_);(case hS|hS2=>rfl);(case hD=>rfl));refine uR ?_;refine⟨j+1,⟨by rw[hyes];rfl,by rw[wn];rfl,trivial⟩,sB,⟨by rw[hyes];rfl,by rw[hyes];rfl,trivial⟩,sB,rfl,by omega,hG4.trans (hG5.trans (hG6.trans (hG7.trans hG8))),by omega⟩
      ·have hno:=(zm5 (wo:=wo) hc hst0 h4).trans hst0;rw[qC (show ¬zc0 (zeO wo m j) (stW (some (pa,pw)))>0 from fun h=>h4 (zek.1 h))];refine uR ?_;refine⟨j+1,⟨by rw[hno];rfl,by rw[wn];rfl,trivial⟩,sB,⟨by rw[hno];rfl,by rw[hno];rfl,trivial⟩,sB,rfl,by omega,hG4.trans (hG5.trans (hG6.trans hG7)),by omega⟩
    ·have hno:zcY key wo least m (j+1)=zcY key wo least m j:=zjN (by rw[hcand,qC h3,Bool.and_false]);rw[qD (zhF.2 h3)];refine uR ?_;refine⟨j+1,⟨by rw[hno];rfl,by rw[wn];rfl,trivial⟩,sB,⟨by rw[hno];rfl,by rw[hno];rfl,trivial⟩,sB,rfl,by omega,hG4.trans (hG5.trans hG6),by omega⟩
 ·simp only[nN]at hlt;obtain rfl:j=m.length-1:=by omega
  have hfh:=hst (m.length-1) oM;generalize hfin:zcY key wo least m (m.length-1)=fin at *
  refine uR ?_;refine EVA.start kR ?_;refine EVA.val tO (2) rfl kR kR kR rfl rfl rfl rfl rfl ?_;refine EVA.two 0 1 kR rfl rfl ?_ ?_
  ·(try refine zcr ?_);refine EVL.nil ⟨rfl,?_⟩;refine EVA.two 1 3 kR rfl rfl ?_ ?_
   ·(try refine zcr ?_);refine EVL.nil ⟨rfl,?_⟩;refine EVA.one 3 kR rfl ?_
    (try refine zcr ?_);refine EVL.nil ⟨rfl,?_⟩;refine EVA.one 4 kR rfl ?_
    (try refine zcr ?_);refine EVL.nil ⟨rfl,?_⟩;refine EVA.one 5 kR rfl ?_
    (try refine zcr ?_);refine EVL.nil ⟨rfl,?_⟩;refine EVA.nil kR ?_;refine uR ?_;exact⟨fin,⟨m,hsc,by rw[hkey];exact hfin.symm,hfh⟩,rfl⟩
   ·(try refine zcr ?_);refine EVL.nil ⟨rfl,?_⟩;refine EVA.one 1 kR rfl ?_
    (try refine zcr ?_);refine EVL.nil ⟨rfl,?_⟩;refine EVA.one 4 kR rfl ?_
    (try refine zcr ?_);refine EVL.nil ⟨rfl,?_⟩;refine EVA.one 5 kR rfl ?_
    (try refine zcr ?_);refine EVL.nil ⟨rfl,?_⟩;refine EVA.nil kR ?_;refine uR ?_;exact⟨fin,⟨m,hsc,by rw[hkey];exact hfin.symm,hfh⟩,rfl⟩
  ·(try refine zcr ?_);refine EVL.nil ⟨rfl,?_⟩;refine EVA.one 0 kR rfl ?_
   (try refine zcr ?_);refine EVL.nil ⟨rfl,?_⟩;refine EVA.one 3 kR rfl ?_
   (try refine zcr ?_);refine EVL.nil ⟨rfl,?_⟩;refine EVA.one 4 kR rfl ?_
   (try refine zcr ?_);refine EVL.nil ⟨rfl,?_⟩;refine EVA.one 5 kR rfl ?_
   (try refine zcr ?_);refine EVL.nil ⟨rfl,?_⟩;refine EVA.nil kR ?_;refine uR ?_;exact⟨fin,⟨m,hsc,by rw[hkey];exact hfin.symm,hfh⟩,rfl⟩
end
section
open Go.RowKit Go.Shelf
attribute [local go_sem] Oper.semAt_some
def zdT {α:Type} (f:Nat→α) (k:Nat):List α:=(List.range k).map f
theorem zg6 {α:Type} (f:Nat→α) (k:Nat):zdT f (k+1)=zdT f k++[f k]:=by simp[zdT,List.range_succ]
theorem zjl {α:Type} (f:Nat→α) (k:Nat):(zdT f k).length=k:=by simp[zdT]
theorem zow (zs:List Int):zdT (fun j=>zs[j]?.getD 0) zs.length=zs:=by
 apply List.ext_getElem
 ·simp[zdT]
 ·intro i h1 h2;simp[zdT,h2]
theorem zmD (zs:List Int) {k:Nat} (hk:k≤zs.length):zdT (fun j=>zs[j]?.getD 0) k=zs.take k:=by
 apply List.ext_getElem
 ·simp[zdT,hk]
 ·intro i h1 h2;have:i<zs.length:=by simp[zdT]at h1;omega
  simp[zdT,this]
set_option maxRecDepth 100000 in
theorem zmE (F:Fence) (n:Nat) (h7:F.fn 246) (hro:F.round=none) (hn:1≤n) (l Bs n₀ b off len cap:Nat) (zs:List Int) (hreach:len*8≤140737488351232) (hb:b<n₀) (J Jx:List Int→World→Prop)
  (hY:∀pre x W,J pre W→pre.length<len→YieldAt F (n-1) Tryz.prog l #[.int .i64 x] W fun e W' =>
   (e=.returned (.bool true)∧J (pre++[x]) W'∧Below n₀ W W')∨(e=.returned (.bool false)∧Jx (pre++[x]) W'))
  (W:World) (hBs:W.cell? ⟨Bs,0,none⟩=some (.slice (some ⟨b,off,none⟩) len cap)) (hc:∀j,j<len→W.cell? ⟨b,off+j,none⟩=some (.int .i64 (zs[j]?.getD 0))) (h0:J [] W) :
  CallsIn F n Tryz.prog 246 #[.func (.yield l) #[] #[],.pointer (some ⟨Bs,0,none⟩)] W fun e W'=>(∃v,e=.returned v) ∧
   ((∃ys,ys=zdT (fun j=>zs[j]?.getD 0) len∧J ys W')∨(∃pre,(∃k,k≤len∧pre=zdT (fun j=>zs[j]?.getD 0) k)∧Jx pre W')):=by
 refine callsIn_of_wp Tryz.func246 rfl h7 ?_ hro;simp only[Tryz.ntmps246,List.size_toArray,List.length_cons,List.length_nil,Nat.reduceAdd,Nat.reduceSub,Array.replicate_succ,Array.replicate_zero,List.push_toArray,List.append_toArray,List.nil_append,List.cons_append]
 gi_wp2
 gi_loopw [7] (fun i wr=>∃k:Nat,k≤len∧i=.int .i64 k∧J (zdT (fun j=>zs[j]?.getD 0) k) wr∧Below n₀ W wr)
  (fun i _=>len-(intOf i).toNat)
 case atStart=>exact⟨0,Nat.zero_le _,rfl,h0,Below.refl _ _⟩
 case round =>
  obtain⟨k,hk,rfl,hJs,hnx⟩:=hrel;have hcx:k<len→wr.cell? ⟨b,off+k,none⟩=some (.int .i64 (zs[k]?.getD 0)):=fun h=>(hnx.cell (p:=⟨b,off+k,none⟩) hb).trans (hc k h);by_cases hlt:k<len
  ·obtain⟨fn,tmps,assign,body,hy,hR⟩:=hY _ (zs[k]?.getD 0) wr hJs (by rw[zjl];exact hlt);have hcx':=hcx hlt
   gi_wp2;refine hR.mono ?_;rintro e W3 (⟨rfl,hJ3,hk3⟩ | ⟨rfl,hJx3⟩)
   ·gi_wp2
    go_roundw
    case rel=>exact⟨k+1,by omega,by simp,by rw[zg6];exact hJ3,hnx.trans hk3⟩
    case measure=>simp[intOf];omega
   ·gi_wp2;refine bodyPost_ret (results_none rfl _ _ _) rfl ?_;exact⟨⟨_,rfl⟩,.inr ⟨_,⟨k+1,by omega,(zg6 _ _).symm⟩,hJx3⟩⟩
  ·obtain rfl:k=len:=by omega
   gi_wp2
   go_end0;exact⟨⟨_,rfl⟩,.inl ⟨_,rfl,hJs⟩⟩
set_option maxRecDepth 100000 in
theorem zdC (F:Fence) (n:Nat) (h7:F.fn 246) (hro:F.round=none) (l Bs:Nat) (a:Option Addr) (cap:Nat) (J:List Int→World→Prop) (W:World) (hBs:W.cell? ⟨Bs,0,none⟩=some (.slice a 0 cap)) (h0:J [] W) :
  CallsIn F n Tryz.prog 246 #[.func (.yield l) #[] #[],.pointer (some ⟨Bs,0,none⟩)] W fun e W'=>(∃v,e=.returned v)∧J [] W':=by
 refine callsIn_of_wp Tryz.func246 rfl h7 ?_ hro;simp only[Tryz.ntmps246,List.size_toArray,List.length_cons,List.length_nil,Nat.reduceAdd,Nat.reduceSub,Array.replicate_succ,Array.replicate_zero,List.push_toArray,List.append_toArray,List.nil_append,List.cons_append]
 gi_wp2
 gi_loopw [7] (fun i wr=>i=.int .i64 0∧J [] wr) (fun _ _=>0)
 case atStart=>exact⟨rfl,h0⟩
 case round =>
  obtain⟨rfl,hJs⟩:=hrel
  gi_wp2
  go_end0;exact⟨⟨_,rfl⟩,hJs⟩
theorem zjo (F:Fence) (n:Nat) (h7:F.fn 246) (hro:F.round=none) (hn:1≤n) (Bs n₀:Nat) (sv:Value) (zs:List Int) (hreach:zs.length*8≤140737488351232) (w:World) (hBs:Bs<w.heap.size) (hn₀:n₀≤w.heap.size)
  (hc:w.cell? ⟨Bs,0,none⟩=some sv) (hI:Sl i64 w sv zs) (hlow:∀b off len cap,sv=.slice (some ⟨b,off,none⟩) len cap→zs≠[]→b<n₀) :
  SeqStopsK F n Tryz.prog 246 #[.pointer (some ⟨Bs,0,none⟩)] (fun x:Int=>#[Value.int .i64 x]) (Below n₀) (fun ys=>ys=zs) (fun pre=>pre <+: zs) zs.length w:=fun l J Jx W hW _ _ hY h0=>by
 have hc':=(hW.cell (p:=⟨Bs,0,none⟩) hBs).trans hc;rcases hI.below hW with ⟨rfl,a,cap,rfl⟩ | ⟨b,off,cap,rfl,hb,hcs⟩
 ·exact(zdC F n h7 hro l Bs a cap J W hc' h0).mono fun e W' ⟨he,hj⟩=>⟨he,.inl ⟨_,rfl,hj⟩⟩
 ·by_cases hz:zs=[]
  ·subst hz;exact(zdC F n h7 hro l Bs _ cap J W hc' h0).mono fun e W' ⟨he,hj⟩=>⟨he,.inl ⟨_,rfl,hj⟩⟩
  ·refine(zmE F n h7 hro hn l Bs n₀ b off zs.length cap zs hreach (hlow _ _ _ _ rfl hz) J Jx hY W hc' (fun j hj=>by rw[hcs j hj];simp[hj]) h0).mono ?_;rintro e W' ⟨he,⟨ys,rfl,hj⟩ | ⟨pre,⟨k,hk,rfl⟩,hj⟩⟩
   ·exact⟨he,.inl ⟨_,zow zs,hj⟩⟩
   ·exact⟨he,.inr ⟨_,by rw[zmD zs hk];exact List.take_prefix _ _,hj⟩⟩
theorem Tryz.infoInt':(Tryz.prog.info? 3).map (fun i=>(i.zero,i.size,i.bytes))=some (some (.int .i64 0),1,8):=by kernel_rfl
set_option maxRecDepth 100000 in
theorem zid (F:Fence) (n:Nat) (h3:F.fn 256) (h5:F.fn 246) (hro:F.round=none) (hn:3≤n) (Bs:Nat) (sv:Value) (xs:List Int) (hbytes:xs.length*8≤140737488351232) (w:World)
  (hBs:Bs<w.heap.size) (hc0:w.cell? ⟨Bs,0,none⟩=some sv) (hI:Sl i64 w sv xs) :
  CallsIn F n Tryz.prog 256 #[.slice none 0 0,.func (.func 246) #[] #[.pointer (some ⟨Bs,0,none⟩)]] w fun e W'=>∃v,e=.returned v∧W'.ownsRow w.heap.size 3 1 v xs.length (xs.map (Value.int .i64))∧(v=.slice none 0 0↔xs=[])∧Below w.heap.size w W':=by
 have h1:1≤n:=by omega
 obtain⟨i0,hi,hz0,hz1,hz2⟩:=info_parts Tryz.infoInt';refine callsIn_of_wp_marks Tryz.func256 rfl h3 ?_ hro;simp only[Tryz.ntmps256,List.size_toArray,List.length_cons,List.length_nil,Nat.reduceAdd,Nat.reduceSub,Array.replicate_succ,Array.replicate_zero,List.push_toArray,List.append_toArray,List.nil_append,List.cons_append]
 gi_wp2;have bO:=Boxed.new w 22 (.slice none 0 0);have hB0:Below w.heap.size w (w.alloc (.cells #[.slice none 0 0] 22)):=(Below.refl _ w).alloc (qH _) _;have hmax:xs.length≤maxLen:=by unfold maxLen;omega
 refine wpIn_rangeFunc_ownG hro h1 (gf:=246) (lb:=#[.pointer (some ⟨Bs,0,none⟩)]) rfl h5 (enters_of Tryz.func246 kR rfl)
  (zjo F (n-1) h5 hro oM Bs w.heap.size sv xs hbytes _ (by simp;omega) (by simp) ((hB0.cell (p:=⟨Bs,0,none⟩) hBs).trans hc0) (hI.below hB0) (fun b off len cap e hne=>by
   rcases hI with ⟨hx,_⟩ | ⟨b',off',cap',e',hb',_⟩
   ·exact absurd hx hne
   ·rw[e']at e;cases e;exact hb')) belowK_t (belowK_b (by simp)) (Below.refl _ _) (fun _=>rfl)
  (fun pre W=>(∃v,Boxed W w.heap.size 22 v∧W.ownsRow w.heap.size 3 1 v pre.length (pre.map (Value.int .i64))∧(v=.slice none 0 0↔pre=[]))∧Below w.heap.size w W)
  (fun _ _ _=>False)
  (OwnFrom.and (Own.from (holdsRow_own w.heap.size w.heap.size 22 3 1 (fun pre=>pre.length) (fun pre=>pre.map (Value.int .i64)) (fun pre v=>v=.slice none 0 0↔pre=[])) _) (ownFrom_below (qH _) (by simp)))
  (fun _ _ _ _ _ hs _ _=>hs)
  ⟨⟨_,bO,World.ownsRow_nil _ _ _ _,by simp⟩,hB0⟩
  (fun x=>{ tmps:=#[.slice none 0 0,.func (.func 246) #[] #[.pointer (some ⟨Bs,0,none⟩)],.pointer (some ⟨w.heap.size,0,none⟩),undef,.slice none 0 0,.int .i64 x,.func (.func 246) #[] #[.pointer (some ⟨Bs,0,none⟩)],.int .i64 x,undef,undef,undef,undef,undef],defers:=[] }) ?assign ?body ?done ?stop
 case assign =>
  intro l x W K hK
  gi_wp2;exact hK
 case body =>
  rintro l pre x W ⟨⟨v,hv,hrow,hnil⟩,hB⟩ hlt;have hc:=hv.cell
  gi_wp2_with (gi_at_builtin;refine wpListIn_append_own _ rfl _ _ 22 rfl w.heap.size 3 i0 (.int .i64 0) 1 8 Tryz.underlying22 hi hz0 hz1 hz2 rfl (by decide) _ _ _ rfl (hrow.alloc _) ⟨W.heap.size,0,none⟩ 1 1 [.int .i64 x] rfl rfl (cell_one_new _ _ _) (by simp[Value.oneCell']) oM oM (by have:=hB.size;simp;omega) ?_;intro v' w1 hown' hgrow _;obtain⟨g',cap',rfl⟩:=ownsRow_succ hown';obtain⟨hv1,hv2,hr2,hk2,hb2⟩:=hv.appended (by decide) hrow hB.size (qH _) hown' hgrow;have hc1:=hv1.cell;have hf1:=hv1.frozen);exact⟨hk2.from _,hb2,⟨_,hv2,by simpa using hr2,by simp⟩,hB.trans hb2⟩
 case done =>
  rintro D ys W hD rfl ⟨⟨v,hv,hrow,hnil⟩,hB⟩ hK;have hc:=hv.cell
  gi_wp2;refine⟨by simp,.inl ⟨_,_,rfl,run_takeDeferred hK,?_⟩⟩;exact⟨_,results_tmp rfl _ _ _,v,rfl,ownsRow_putObj hrow _ hK rfl,hnil,hB.trans (belowK_b (w:=w) (qH _) W D _ _ (by simp at hD;omega) hK rfl rfl)⟩
 case stop =>
  rintro D c pre W _ _ h _;exact h.elim
end
section
open Go.RowKit Go.Shelf
attribute [local go_sem] Oper.semAt_some
end
section
open Go.RowKit _root_.Go.Proofs.Tryz
def nxt (s:Int):Int:=IntKind.u64.wrap (s+11400714819323198485)
def zs1 (z:Int):Int:=IntKind.u64.wrap (bits .xor .u64 z (z / 1073741824)*13787848793156543929)
def zs2 (z:Int):Int:=IntKind.u64.wrap (bits .xor .u64 z (z / 134217728)*10723151780598845931)
def zsQ (z:Int):Int:=bits .xor .u64 z (z / 2147483648)
def mix (z:Int):Int:=zsQ (zs2 (zs1 z))
def znv (n:Int):Int:=18446744073709551615-18446744073709551616 % n
def zhY:Int:=18446744073709551616
def zoL (s:Int):Int:=(-s*17428512612931826493) % 18446744073709551616
def left (s:Int):Nat:=(zoL (nxt s)).toNat
def zcv (n:Int):Nat→Int→Int × Int
 | 0,s=>(0,s)
 | k+1,s=>if mix (nxt s)≤znv n then (mix (nxt s) % n,nxt s) else zcv n k (nxt s)
def below (n s:Int):Int × Int:=zcv n (left s+1) s
theorem zer (n:Int):IntKind.u64.wrap n=n % 18446744073709551616:=by simp[IntKind.wrap,IntKind.bits,IntKind.signed]
theorem zfZ (s:Int):0≤nxt s∧nxt s<zhY:=by unfold nxt zhY;rw[zer];omega
theorem zk4:mix 0=0:=by decide +kernel
theorem zfM (n:Int) (h:1≤n) (h2:n≤9223372036854775807):0≤znv n:=by
 unfold znv;have:=Int.emod_lt_of_pos 18446744073709551616 (show 0<n by omega);omega
theorem zgA (x:Int):0≤IntKind.u64.wrap x∧IntKind.u64.wrap x<zhY:=by rw[zer];unfold zhY;omega
theorem zlG (op:BinOp) (x y:Int):0≤bits op .u64 x y∧bits op .u64 x y<zhY:=by
 unfold bits;split <;> exact zgA _
theorem znF (z:Int):0≤mix z∧mix z<zhY:=by unfold mix zsQ;exact zlG _ _ _
theorem zo5 (M g i q s:Int) (e:g*i=1+M*q):(-((s+g) % M)*i) % M=((-s*i) % M-1) % M:=by
 have h1:(s+g) % M=s+g-M*((s+g)/M):=Int.emod_def _ _;rw[h1];generalize (s+g)/M=r;have:-(s+g-M*r)*i=(-s*i-1)+M*(r*i-q):=by grind
 rw[this,Int.add_mul_emod_self_left,Int.emod_sub_emod]
theorem zo6 (s:Int):zoL (nxt s)=(zoL s-1) % 18446744073709551616:=by
 unfold zoL nxt;rw[zer];exact zo5 18446744073709551616 11400714819323198485 17428512612931826493 10771413168148108919 s (by decide +kernel)
theorem zp0 (M g i q s:Int) (e:g*i=1+M*q) (h0:0≤s) (h1:s<M) (h:(-s*i) % M=0):s=0:=by
 obtain⟨k,hk⟩:=Int.dvd_of_emod_eq_zero h
 have h2:s=M*(-(k*g)-s*q):=by
  have h3:s*(g*i) = -(M*k)*g:=by rw[←hk];grind
  rw[e]at h3;grind
 generalize -(k*g)-s*q=t at h2;by_cases ht:t=0
 ·rw[h2,ht,Int.mul_zero]
 ·exfalso;by_cases hp:1≤t
  ·have:M*1≤M*t:=Int.mul_le_mul_of_nonneg_left hp oM;omega
  ·have:M*t≤M*(-1):=Int.mul_le_mul_of_nonneg_left oM oM;omega
theorem zna (s:Int) (h0:0≤s) (h1:s<zhY) (h:zoL s=0):s=0:=by
 unfold zoL at h;exact zp0 18446744073709551616 11400714819323198485 17428512612931826493 10771413168148108919 s (by decide +kernel) h0 h1 h
theorem zlX (s:Int):0≤zoL s∧zoL s<18446744073709551616:=by unfold zoL;omega
theorem zny (s:Int) (h:nxt s≠0):left (nxt s)<left s:=by
 unfold left;have r:=zfZ s;have d:=zo6 (nxt s);have z:=zlX (nxt s);have:zoL (nxt s)≠0:=fun e=>h (zna _ r.1 r.2 e);omega
theorem zgw (n:Int) (h:1≤n) (h2:n≤9223372036854775807):∀(k k':Nat) (s:Int),left s<k→left s<k'→zcv n k s=zcv n k' s:=by
 intro k
 induction k with
 | zero=>intro k' s hs;omega
 | succ k ih =>
  intro k' s hs hs'
  cases k' with
  | zero=>omega
  | succ k' =>
   simp only[zcv];by_cases hc:mix (nxt s)≤znv n
   ·rw[if_pos hc,if_pos hc]
   ·rw[if_neg hc,if_neg hc];have hz:nxt s≠0:=fun e=>hc (by rw[e,zk4];exact zfM n h h2);have hl:=zny s hz;exact ih _ _ oM oM
theorem zdK (n s:Int) (h:1≤n) (h2:n≤9223372036854775807) (hc:¬mix (nxt s)≤znv n):left (nxt s)<left s :=
 zny s fun e=>hc (by rw[e,zk4];exact zfM n h h2)
theorem zgC (n s:Int) (h:1≤n) (h2:n≤9223372036854775807) (hc:¬mix (nxt s)≤znv n):below n s=below n (nxt s):=by
 have hl:=zdK n s h h2 hc;unfold below;rw[show zcv n (left s+1) s=zcv n (left s) (nxt s) by simp only[zcv];rw[if_neg hc]];exact zgw n h h2 _ _ _ hl oM
theorem zgD (n s:Int) (h:mix (nxt s)≤znv n):below n s=(mix (nxt s) % n,nxt s):=by
 unfold below;simp only[zcv];rw[if_pos h]
theorem zfp (n s:Int) (h:1≤n) (h2:n≤9223372036854775807):0≤(below n s).1∧(below n s).1<n∧0≤(below n s).2∧(below n s).2<zhY:=by
 suffices H:∀k s,left s<k→0≤(below n s).1∧(below n s).1<n∧0≤(below n s).2∧(below n s).2<zhY from H _ s (Nat.lt_succ_self _);intro k
 induction k with
 | zero=>intro s hs;omega
 | succ k ih =>
  intro s hs;by_cases hc:mix (nxt s)≤znv n
  ·rw[zgD n s hc];have:=zfZ s;exact⟨Int.emod_nonneg _ oM,Int.emod_lt_of_pos _ oM,this.1,this.2⟩
  ·rw[zgC n s h h2 hc];exact ih _ (by have:=zdK n s h h2 hc;omega)
def zmA (l:List Int) (i j:Nat):List Int:=(l.set i (l.getD j 0)).set j (l.getD i 0)
theorem zb6 (l:List Int) (i j:Nat):(zmA l i j).length=l.length:=by simp[zmA]
def zmM (n:Nat):List Int:=(List.range n).map Int.ofNat
theorem zcP (n:Nat):(zmM n).length=n:=by simp[zmM]
theorem zov (n:Nat):zmM (n+1)=zmM n++[(n:Int)]:=by simp[zmM,List.range_succ]
def zcI:Nat→List Int→Int→List Int × Int
 | 0,l,s=>(l,s)
 | i+1,l,s=>zcI i (zmA l (i+1) (below (i+2) s).1.toNat) (below (i+2) s).2
def zaK (n:Nat) (s:Int):List Int × Int:=zcI (n-1) (zmM n) s
theorem zmB (l:List Int) (i j:Nat) (hi:i<l.length) (hj:j<l.length):(zmA l i j).Perm l:=by
 unfold zmA;rw[qB,qB];simp only[hi,hj,qA,Option.getD_some];have:=Array.swap_perm (xs:=l.toArray) (i:=i) (j:=j) (by simpa) (by simpa);rw[Array.perm_iff_toList_perm]at this;simpa[Array.swap] using this
theorem zgy (i:Nat) (l:List Int) (s:Int):(zcI i l s).1.length=l.length:=by
 induction i generalizing l s with
 | zero=>rfl
 | succ i ih=>simp[zcI,ih,zb6]
theorem ziX (i:Nat) (l:List Int) (s:Int) (h:i<l.length) (hl:l.length≤1000000):(zcI i l s).1.Perm l:=by
 induction i generalizing l s with
 | zero=>exact List.Perm.refl _
 | succ i ih =>
  simp only[zcI];have r:=zfp (i+2) s oM oM;exact(ih _ _ (by rw[zb6];omega) (by rw[zb6];omega)).trans (zmB _ _ _ h oM)
end
section
end
section
def zdS (l:List Int):List Int:=l.mergeSort fun x y=>decide (x≤y)
theorem zeW (l:List Int):(zdS l).length=l.length:=by simp[zdS]
theorem zmw (l:List Int):(zdS l).Perm l:=List.mergeSort_perm _ _
theorem zjd (l:List Int):(zdS l).Pairwise (·≤·):=by
 have:=List.pairwise_mergeSort (le:=fun x y:Int=>decide (x≤y)) (by intro a b c;simp;omega) (by intro a b;simp;omega) l;unfold zdS;exact this.imp (by intro a b h;simpa using h)
theorem zkb (n:Nat) (s:Int) (hn:n≤65536):(zaK n s).1.Perm (zmM n):=by
 unfold zaK
 cases n with
 | zero=>exact List.Perm.refl _
 | succ n=>exact ziX _ _ _ (by rw[zcP];omega) (by rw[zcP];omega)
end
section
open Go.RowKit Go.Shelf
theorem zjO (Bs:Nat) (sv:Value) (xs:List Int) (hbytes:xs.length*8≤140737488351232) (w:World)
  (hBs:Bs<w.heap.size) (hc0:w.cell? ⟨Bs,0,none⟩=some sv) (hI:Sl i64 w sv xs) :
  Calls Tryz.prog 244 #[.func (.func 246) #[] #[.pointer (some ⟨Bs,0,none⟩)]] w fun e W'=>∃v,e=.returned v∧W'.ownsRow w.heap.size 3 1 v xs.length (xs.map (Value.int .i64))∧(v=.slice none 0 0↔xs=[])∧Below w.heap.size w W':=by
 go_enter Tryz.func244,Tryz.ntmps244
 go_wp2_with fail;refine((callsIn_wide (n:=3)).1 (zid Fence.wide 3 trivial trivial rfl oM Bs sv xs hbytes w hBs hc0 hI)).mono ?_;rintro e w1 ⟨v,rfl,hown,hnil,hb⟩;go_wp2
 go_ret;exact⟨v,rfl,hown,hnil,hb⟩
theorem zmx (Bs:Nat) (sv:Value) (xs:List Int) (hbytes:xs.length*8≤140737488351232) (w:World)
  (hBs:Bs<w.heap.size) (hc0:w.cell? ⟨Bs,0,none⟩=some sv) (hI:Sl i64 w sv xs) :
  Calls Tryz.prog 215 #[.func (.func 246) #[] #[.pointer (some ⟨Bs,0,none⟩)]] w fun e W'=>∃v,e=.returned v∧W'.ownsRow w.heap.size 3 1 v xs.length ((zdS xs).map (Value.int .i64))∧Below w.heap.size w W':=by
 go_enter Tryz.func215,Tryz.ntmps215
 go_wp2_with fail;refine(zjO Bs sv xs hbytes w hBs hc0 hI).mono ?_;rintro e w1 ⟨v,rfl,hown,hnil,hb⟩;have HN:=hid hnil;clear hnil;rcases hown.2 with ⟨rfl,h0⟩ | ⟨g,cap,cur,rfl,hbase,hh,h1,h2,h3,h4⟩
 ·have hx:xs=[]:=HN.out.1 rfl;subst hx
  go_wp2_with fail;refine(Tryz.slices_Sort_int_none _ _ _).mono ?_;rintro e w2 ⟨rfl,rfl⟩;go_wp2
  go_ret;exact⟨.slice none 0 0,rfl,by simpa[zdS] using hown,hb⟩
 ·have hH:=hid (holds_of_blockI hh (by simpa using h4));have H3:=hid h3;have H4:=hid h4;have HH:=hid hh;clear h3 h4 hh
  go_wp2_with fail;refine(Tryz.slices_Sort_int g 0 cap xs w1 hH.out (lt_of_block HH.out) oM).mono ?_;rintro e w2 ⟨rfl,nn,os,rfl⟩;have ho:=ownsRow_sortedI (n:=nn) (os:=os) (ss:=xs) (ts:=zdS xs) (zeW xs) hbase HH.out h1 h2 H3.out;have hg:=grownBy_sortedI (w:=w1) (g:=g) (n:=nn) (os:=os) (zdS xs).toArray;have hbb:=hb.grown hg hb.size (fun k e=>by cases e;exact hbase);have HO:=hid ho;clear ho;go_wp2
  go_ret;exact⟨_,rfl,HO.out,hbb⟩
end
section
def zrS (cols cs:List Int):Prop:=cs.Pairwise (·<·)∧∀c,c∈cs↔c∈cols
theorem zfx (zs:List Int) (h:zs.Pairwise (·≤·)):∀m,m≤zs.length→(Lib.compactUpTo zs.toArray m).Pairwise (·<·)∧∀c,c∈Lib.compactUpTo zs.toArray m↔c∈zs.take m
 | 0,_=>⟨List.Pairwise.nil,fun c=>by simp[Lib.compactUpTo]⟩
 | m+1,hm=>by
  obtain⟨h1,h2⟩:=zfx zs h m oM;have hlt:m<zs.length:=by omega
  have hg:zs.toArray[m]! = zs[m]:=by simp[hlt]
  have ht:zs.take (m+1)=zs.take m++[zs[m]]:=List.take_succ_eq_append_getElem hlt;have hpw:=h;rw[←List.take_append_drop (m+1) zs,ht]at hpw;have hle:∀x,x∈zs.take m→x≤zs[m]:=fun x hx=>(List.pairwise_append.1 (List.pairwise_append.1 hpw).1).2.2 x hx _ (List.mem_singleton.2 rfl);rw[Lib.compactUpTo_succ];by_cases hk:Lib.keeps zs.toArray m=true
  ·rw[if_pos hk,hg,ht];refine⟨List.pairwise_append.2 ⟨h1,List.pairwise_singleton _ _,fun x hx y hy=>?_⟩,fun c=>?_⟩
   ·rw[List.mem_singleton.1 hy];have hx':=(h2 x).1 hx;have hle':=hle x hx';unfold Lib.keeps at hk;rw[decide_eq_true_eq]at hk;rcases hk with rfl | hne
    ·rw[List.take_zero]at hx';cases hx'
    ·have hm0:0<m:=by
      rcases Nat.eq_zero_or_pos m with rfl | h0
      ·rw[List.take_zero]at hx';cases hx'
      ·exact h0
     have hp:zs.toArray[m-1]! = zs[m-1]:=by simp[show m-1<zs.length by omega]
     rw[hg,hp]at hne
     have htm:zs.take m=zs.take (m-1)++[zs[m-1]]:=by
      have:=List.take_succ_eq_append_getElem (show m-1<zs.length by omega)
      rwa [Nat.sub_add_cancel hm0]at this
     have hpw2:=(List.pairwise_append.1 (List.pairwise_append.1 hpw).1).1;rw[htm]at hpw2 hx'
     have hxp:x≤zs[m-1]:=by
      rcases List.mem_append.1 hx' with hx' | hx'
      ·exact(List.pairwise_append.1 hpw2).2.2 x hx' _ (List.mem_singleton.2 rfl)
      ·rw[List.mem_singleton.1 hx'];exact Int.le_refl _
     have hpm:zs[m-1]≤zs[m]:=hle _ (by rw[htm];exact List.mem_append_right _ (List.mem_singleton.2 rfl));omega
   ·rw[List.mem_append,List.mem_append,h2 c]
  ·rw[if_neg hk,qG,ht];refine⟨h1,fun c=>?_⟩;unfold Lib.keeps at hk;rw[decide_eq_true_eq,not_or]at hk;have hm0:0<m:=by omega
   have hp:zs.toArray[m-1]! = zs[m-1]:=by simp[show m-1<zs.length by omega]
   rw[hg,hp]at hk;have he:zs[m]=zs[m-1]:=by have:=hk.2;omega
   have htm:zs.take m=zs.take (m-1)++[zs[m-1]]:=by
    have:=List.take_succ_eq_append_getElem (show m-1<zs.length by omega)
    rwa [Nat.sub_add_cancel hm0]at this
   rw[h2 c,List.mem_append,List.mem_singleton,he];constructor
   ·exact .inl
   ·rintro (h | rfl)
    ·exact h
    ·rw[htm];exact List.mem_append_right _ (List.mem_singleton.2 rfl)
theorem zqN (cols:List Int):zrS cols (Lib.compact (zdS cols)):=by
 have h:=zfx (zdS cols) (zjd cols) (zdS cols).length (qH _);refine⟨h.1,fun c=>?_⟩;have:=h.2 c;rw[List.take_length]at this;exact this.trans (zmw cols).mem_iff
end
section
open Go.RowKit _root_.Go.Proofs.Tryz
theorem zi7 {H:Hp} (a:Option Addr) (len cap:Nat):PC prog 216 #[.slice a len cap] H fun r H'=>∃b,r=.func (.func 246) #[] #[.pointer (some ⟨b,0,none⟩)]∧H' b=some [Value.slice a len cap].toArray:=by
 refine BD func216 ntmps216 ?_;refine uR ?_;(first|refine EVL.unbox (1) rfl fun b=>?_|refine EV.unbox (1) rfl fun b=>?_);(first|refine EVL.publish [] [] rfl fun G1 hG1 hb=>?_|refine EV.publish [] [] rfl fun G1 hG1 hb=>?_);refine EVL.fn1 rfl rfl rfl rfl rfl ?_;refine uR ?_;exact⟨b,rfl,hb⟩
theorem zf3 {W:World} {base:Nat} {e:TypeId} {size:Nat} {v:Value} {n:Nat} {xs:List Value} (h:W.ownsRow base e size v n xs):∃ow,zaZ e size v n xs ow∧zmR base W ow:=by
 obtain⟨h1,⟨rfl,rfl⟩ | ⟨g,cap,cur,rfl,hb,hh,hc,hm,hs,ht⟩⟩:=h
 ·exact⟨[],⟨h1,.inl ⟨rfl,rfl,rfl⟩⟩,by simp,fun b T cs h=>by cases h⟩
 ·have hcur:cur.toList=xs++cur.toList.drop (n*size):=by rw[←ht,List.take_append_drop]
  refine⟨[(g,e,xs++cur.toList.drop (n*size))],⟨h1,.inr ⟨g,cap,_,rfl,rfl,by rw[←hcur];simpa using hs,hc,hm⟩⟩,by simp,fun b T cs h=>?_⟩;rw[List.mem_singleton]at h;cases h;refine⟨hb,?_⟩;rw[←hcur];exact hh
theorem zoj {H:Hp} {b:Nat} {sv:Value} {xs:List Int} (hB:H b=some [sv].toArray) (hs:IL H sv xs) (hl:xs.length≤1000000) :
  PO prog 215 #[.func (.func 246) #[] #[.pointer (some ⟨b,0,none⟩)]] H fun v ow=>zaZ 3 1 v xs.length ((zdS xs).map iv) ow:=by
 refine⟨(cO func215),fun W hf hg=>?_⟩;obtain⟨T,fz,hW⟩:=hf b _ hB;obtain⟨a,cap,rfl,hsl,_⟩:=hs.sl hf;have hlt:b<W.heap.size:=(Array.getElem?_eq_some_iff.1 hW).1;refine(zmx b _ xs oM W hlt (by rw[cell_of_row W b 0 _ T fz hW];rfl) hsl).mono ?_;rintro e W' ⟨v,rfl,hown,hb⟩;obtain⟨ow,h1,h2⟩:=zf3 hown;exact⟨v,ow,rfl,h1,h2,hb⟩
theorem zfy (zs:List Int):(Lib.compact zs).length≤zs.length:=by
 unfold Lib.compact Lib.compactUpTo;rw[List.length_map];exact qI (List.length_filter_le _ _) (by simp)
theorem zlO {H:Hp} {v:Value} {zs:List Int} {ow:Ows} (h:zaZ 3 1 v zs.length (zs.map iv) ow) (hl:zs.length≤1000000) :
  PW prog 214 #[v] H ow fun r ow' _=>zaZ 3 1 r (Lib.compact zs).length ((Lib.compact zs).map iv) ow':=by
 refine⟨(cO func214),fun W hf hg hL hd=>?_⟩;by_cases h0:zs.length=0
 ·obtain rfl:=List.length_eq_zero_iff.1 h0;obtain⟨a,cap,rfl⟩:=h.val;refine(Tryz.slices_Compact_int_empty a cap W).mono ?_;rintro e W' ⟨rfl,rfl⟩;exact⟨_,ow,H,rfl,h,Hp.Le.refl _,hf,Nw.refl _ _ _,zaN.refl _ _,fun j b T cs hj=>⟨(hL j b T cs hj).1,.inr (Ows.bs_mem hj),(hL j b T cs hj).2.1⟩,hd⟩
 ·obtain⟨g,cap,sp,rfl,rfl,hlen,hle,hmax⟩:=h.block oM;obtain⟨hB,hHg,hgg⟩:=hL 0 g _ _ rfl;refine(Tryz.slices_Compact_int_cells g 0 zs.length cap zs W (qH _) oM hle (fun j hj=>?_) (fun j hj=>hB.free _)).mono ?_
  ·rw[hB.at (0+j)];rw[Nat.zero_add];simp[hj,List.getElem?_append]
  rintro e W' ⟨rfl,q,rfl⟩;rw[List.take_length];have hcl:=zfy zs;generalize Lib.compact zs=cs at *
  have hB2:Box (W.drewN q) g (zs.map iv++sp).toArray 3:=hB;have hvl:((cs++List.replicate (zs.length-cs.length) 0).map (Value.int .i64)).length=zs.length:=by simp;omega
  have hB3:=Box.setCells ((cs++List.replicate (zs.length-cs.length) 0).map (Value.int .i64)) 0 (W.drewN q) _ hB2 (by rw[hvl];simp);have hk:=zbo g ((cs++List.replicate (zs.length-cs.length) 0).map (Value.int .i64)) 0 (W.drewN q);have hk2:zaN (fun k=>k=g) W ((W.drewN q).setCells g 0 ((cs++List.replicate (zs.length-cs.length) 0).map (Value.int .i64))):=⟨hk.os,hk.tape,hk.output,hk.size,hk.block⟩
  have hcells:(zs.map iv++sp).take 0++(cs++List.replicate (zs.length-cs.length) 0).map (Value.int .i64)++(zs.map iv++sp).drop (0+((cs++List.replicate (zs.length-cs.length) 0).map (Value.int .i64)).length)=cs.map iv++((List.replicate (zs.length-cs.length) 0).map iv++sp):=by
   rw[hvl,List.take_zero,List.nil_append,Nat.zero_add,List.drop_left' (by simp),List.map_append];simp
  rw[hcells]at hB3;refine⟨_,[(g,3,cs.map iv++((List.replicate (zs.length-cs.length) 0).map iv++sp))],H,rfl,⟨by simp,.inr ⟨g,cap,_,rfl,rfl,?_,by omega,hmax⟩⟩,Hp.Le.refl _,fun b c hb=>?_,Nw.refl _ _ _,hk2.mono (fun k _ e=>by subst e;exact Ows.bs_mem (j:=0) rfl),fun j b T cs' hj=>?_,?_⟩
  ·rw[←hlen];simp;omega
  ·obtain⟨T,fz,hW⟩:=hf b c hb;refine⟨T,fz,?_⟩;rw[hk2.block b (hf.lt (by rw[hb];simp)) (fun e=>by subst e;rw[hHg]at hb;cases hb)];exact hW
  ·cases j with
   | zero=>cases (show some (g,3,cs.map iv++((List.replicate (zs.length-cs.length) 0).map iv++sp))=some (b,T,cs') from hj);exact⟨hB3,.inr (Ows.bs_mem (j:=0) rfl),hHg⟩
   | succ j=>simp at hj
  ·intro j j' b' T1 T2 c1 c2 h1 h2
   cases j with
   | zero=>cases j' with
    | zero=>rfl
    | succ j'=>simp at h2
   | succ j=>simp at h1
def zc4 (st:Option (Int × Rat × Rat)) (p:Int × Option (Rat × Rat)):Option (Int × Rat × Rat):=match p.2 with
 | none=>st
 | some (a,w)=>match st with
  | none=>some (p.1,a,w)
  | some (c0,a0,w0)=>if w0<w then some (p.1,a,w) else some (c0,a0,w0)
def zbF (ps:List (Int × Option (Rat × Rat))):Option (Int × Rat × Rat):=ps.foldl zc4 none
theorem zlF (ps:List (Int × Option (Rat × Rat))) (p:Int × Option (Rat × Rat)):zbF (ps++[p])=zc4 (zbF ps) p:=by unfold zbF;rw[List.foldl_append];rfl
theorem zkF {ps:List (Int × Option (Rat × Rat))} {B:Nat} (h:∀p,p∈ps→ht (stW p.2)≤B):∀c a w,zbF ps=some (c,a,w)→ht w≤B:=by
 have key:∀(qs:List (Int × Option (Rat × Rat))) (st:Option (Int × Rat × Rat)),(∀p,p∈qs→ht (stW p.2)≤B)→(∀c a w,st=some (c,a,w)→ht w≤B)→∀c a w,qs.foldl zc4 st=some (c,a,w)→ht w≤B:=by
  intro qs
  induction qs with
  | nil=>intro st _ h2 c a w h3;exact h2 c a w h3
  | cons p qs ih =>
   intro st h1 h2 c a w h3;refine ih (zc4 st p) (fun q hq=>h1 q (List.mem_cons_of_mem _ hq)) ?_ c a w h3;intro c a w h4;have hp:=h1 p (List.mem_cons_self ..);unfold zc4 at h4
   cases ho:p.2 with
   | none=>rw[ho]at h4;exact h2 c a w h4
   | some q =>
    obtain⟨a1,w1⟩:=q;rw[ho]at h4 hp
    cases st with
    | none=>cases h4;exact hp
    | some t =>
     obtain⟨c0,a0,w0⟩:=t;dsimp only at h4;split at h4
     ·cases h4;exact hp
     ·cases h4;exact h2 _ _ _ rfl
 exact key ps none h (fun c a w h=>by cases h)
def zp5:Option (Int × Rat × Rat)→List Value
 | none=>.int .i64 0::(zah (zad 0)++zah (zad 0))
 | some (c,a,w)=>.int .i64 c::(zah (zad a)++zah (zad w))
theorem zkK:Tryz.te250.zero=zp5 none:=by
 unfold zp5;rw[zay];rfl
abbrev zsX (c:Int) (a w:Rat):Value:=.agg (zp5 (some (c,a,w))).toArray
def zsA (X:List (List Rat)) (wo:List Int→Rat) (rs cols:List Int) (least:Int) (r:Value):Prop :=
 ∃ps:List (Int × Option (Rat × Rat)),zrS cols (ps.map (·.1))∧(∀p,p∈ps→zp3 X wo rs (max least 1) p.1 p.2) ∧
  ((zbF ps=none∧r=.tuple #[.agg (zp5 none).toArray,.bool false])∨∃c a w,zbF ps=some (c,a,w)∧r=.tuple #[zsX c a (w-wo rs),.bool true])
theorem zqI {H:Hp} {kd cl:Int} {sl sv vx vr vc:Value} {X:List (List Rat)} {S:List Int→List Value} {wo:List Int→Rat} {rs cols:List Int} {least:Int} (hg:GOk H kd cl sl sv X.length S wo) (hX:QLL H vx X) (hr:IL H vr rs) (hn:rs.length≤20) (hc:IL H vc cols) (hcn:cols.length≤1000000) (hb:∀x,x∈X→∀q,q∈x→ht q≤100) :
  PC prog 168 #[zaC kd cl sl sv,vx,vr,vc,.int .i64 least] H fun r _=>zsA X wo (exL rs X.length) cols least r:=by
 have hlen:=hg.leng;have hex:=fun (G:Hp) (hG:H.Le G)=>zbS (hr.mono hG) oM X.length;have hel:=zc7 rs X.length;have heb:=zdG (rs:=rs) (n:=X.length);generalize exL rs X.length=es at *
 obtain⟨xa,xc,rfl⟩:=hX.val;obtain⟨ra,rc,rfl⟩:=SlC.val hr;obtain⟨ca,cc,rfl⟩:=SlC.val hc;refine BD func168 ntmps168 ?_;refine uR ?_;refine vA (hg.check _ (Hp.Le.refl _)) ?_;rintro r0 G1 rfl hG1
 repeat (first|refine RUN ?_|refine CV (hlen) ?_|refine CE (hlen) ?_)
 rw[show ((X.length:Int) != (X.length:Int))=false from bne_self_eq_false _];refine uR ?_;refine vA (hex _ hG1) ?_;intro r1 G2 he hG2;obtain⟨ea,ec,rfl⟩:=SlC.val he;refine uR ?_;refine vA (zi7 ca cols.length cc) ?_;rintro r2 G3 ⟨b,rfl,hb3⟩ hG3;have hc3:=hc.mono (hG1.trans (hG2.trans hG3));refine EVL.callO rfl rfl rfl rfl rfl (zoj hb3 hc3 hcn) ?_;rintro r4 ow4 how4;have hcl:=zeW cols;rw[←hcl]at how4;refine EVL.callW rfl rfl rfl rfl rfl (ow4) ([]) rfl (zlO how4 oM) ?_;rintro r5 ow5 G5 how5 hG5;have hcols:=zqN cols;have hcl2:=zfy (zdS cols);generalize Lib.compact (zdS cols)=cs at *
 obtain⟨ka,kc,rfl⟩:=how5.val;(first|refine EVL.publishL [] ow5 [] (rfl) how5 fun G6 hG6 hk6=>?_|refine EV.publishL [] ow5 [] (rfl) how5 fun G6 hG6 hk6=>?_);have hk6':IL G6 (.slice ka cs.length kc) cs:=hk6;clear hb3 hc3 how4 how5 hk6;have hall:=hG1.trans (hG2.trans (hG3.trans (hG5.trans hG6)));have hg6:=hg.mono hall;have hX6:=hX.mono hall;have he6:=he.mono (hG3.trans (hG5.trans hG6));refine uR ?_;refine EV.loopK (ι:=List (Int × Option (Rat × Rat))) [1,2,4,5,10,12,38,39] [5,10] (fun ps=>[(13,.v (.bool (zbF ps).isSome)),(40,.v (.int .i64 (ps.length:Int)))]) (fun ps=>[(12,250,zp5 (zbF ps))]) (fun _=>[]) (fun ps _=>ps.map (·.1)=cs.take ps.length∧ps.length≤cs.length∧∀p,p∈ps→zp3 X wo es (max least 1) p.1 p.2) (fun ps=>cs.length-ps.length) ([]) rfl rfl ⟨rfl,rfl,trivial⟩ ⟨by rw[show zbF []=none from rfl,←zkK];rfl,trivial⟩ rfl (fun _=>rfl) (⟨rfl,Nat.zero_le _,by simp⟩) ?_;rintro ps G7 hG7 ⟨hps,hpl,hpr⟩;refine uR ?_;refine EV.cond rfl (fun hlt=>?_) (fun hlt=>?_)
 ·simp only[nN]at hlt;obtain⟨c,hci⟩:∃c,cs[ps.length]?=some c:=⟨_,qA hlt⟩;have hcol:=zm7 (col:=c) (least:=max least 1) (hg6.mono hG7) (hX6.mono hG7) (he6.mono hG7) oM heb hb;refine uR ?_;refine vI ((hk6'.mono hG7)) (ps.length) (rfl) (hlt) ((by rw[List.getElem?_map,hci];rfl)) ?_;refine uR ?_;refine EVL.asI (max least 1) ((by split <;> omega)) ?_;refine vA (hcol) ?_;rintro r6 G8 ⟨o,hR,rfl⟩ hG8;have hln:∀o,(ps++[(c,o)]).length=ps.length+1:=fun o=>by simp
  have wn:IntKind.i64.wrap ((ps.length:Int)+1)=((ps.length+1:Nat):Int):=zai _ oM
  have hmap:∀o,(ps++[(c,o)]).map (·.1)=cs.take (ps++[(c,o)]).length:=fun o=>by
   rw[hln,zaz hci,←hps,List.map_append];rfl
  have hmem:∀o,zp3 X wo es (max least 1) c o→∀p,p∈ps++[(c,o)]→zp3 X wo es (max least 1) p.1 p.2:=fun o h p hp=>by
   rcases List.mem_append.1 hp with hp | hp
   ·exact hpr p hp
   ·rw[List.mem_singleton.1 hp];exact h
  have hsn:=zlF ps (c,o);have hwb:ht (stW o)≤200001:=by obtain⟨_,_,_,h⟩:=hR;exact h
  have hwo:∀c a w,zbF ps=some (c,a,w)→ht w≤200001:=zkF fun p hp=>by obtain⟨_,_,_,h⟩:=hpr p hp;exact h
  cases o with
  | none =>
   have hsame:zbF (ps++[(c,none)])=zbF ps:=hsn;refine uR ?_;refine⟨ps++[(c,none)],⟨by rw[hsame];rfl,by rw[hln,wn];rfl,trivial⟩,sB,⟨by rw[hsame];rfl,trivial⟩,sB,rfl,⟨hmap _,by rw[hln];omega,hmem _ hR⟩,by assumption,by rw[hln];omega⟩
  | some q =>
   obtain⟨a,w⟩:=q
   cases hst:zbF ps with
   | none =>
    have hnew:zbF (ps++[(c,some (a,w))])=some (c,a,w):=by rw[hsn,hst];rfl
    refine uR ?_;refine⟨ps++[(c,some (a,w))],⟨by rw[hnew];rfl,by rw[hln,wn];rfl,trivial⟩,sB,⟨by rw[hnew];rfl,trivial⟩,sB,rfl,⟨hmap _,by rw[hln];omega,hmem _ hR⟩,by assumption,by rw[hln];omega⟩
   | some t =>
    obtain⟨c0,a0,w0⟩:=t;have hcmp:=zci w w0 (zaE (show ht w≤200001 from hwb) oM) (zaE (hwo _ _ _ hst) oM)
    repeat (first|refine RUN ?_|refine CV (hcmp) ?_|refine CE (hcmp) ?_)
    by_cases hlt2:w0<w
    ·have hnew:zbF (ps++[(c,some (a,w))])=some (c,a,w):=by rw[hsn,hst];exact if_pos hlt2
     rw[qD (zek.2 hlt2)];refine uR ?_;refine⟨ps++[(c,some (a,w))],⟨by rw[hnew];rfl,by rw[hln,wn];rfl,trivial⟩,sB,⟨by rw[hnew];rfl,trivial⟩,sB,rfl,⟨hmap _,by rw[hln];omega,hmem _ hR⟩,by assumption,by rw[hln];omega⟩
    ·have hnew:zbF (ps++[(c,some (a,w))])=some (c0,a0,w0):=by rw[hsn,hst];exact if_neg hlt2
     rw[qC (fun h=>hlt2 (zek.1 h))];refine uR ?_;refine⟨ps++[(c,some (a,w))],⟨by rw[hnew];rfl,by rw[hln,wn];rfl,trivial⟩,sB,⟨by rw[hnew];rfl,trivial⟩,sB,rfl,⟨hmap _,by rw[hln];omega,hmem _ hR⟩,by assumption,by rw[hln];omega⟩
 ·simp only[nN]at hlt;have hpe:ps.length=cs.length:=by omega
  have hcs:ps.map (·.1)=cs:=by rw[hps,hpe,List.take_length]
  rw[←hcs]at hcols;have hwo:∀c a w,zbF ps=some (c,a,w)→ht w≤200001:=zkF fun p hp=>by obtain⟨_,_,_,h⟩:=hpr p hp;exact h
  cases hst:zbF ps with
  | none =>
   refine uR ?_;exact⟨ps,hcols,hpr,.inl ⟨hst,by rw[←zkK];rfl⟩⟩
  | some t =>
   obtain⟨c,a,w⟩:=t;have hsub:=zlp w (wo es) (zaE (hwo _ _ _ hst) oM) (zaE (hg.small es oM heb) oM);have hlS:=hg.len es;refine uR ?_;refine EVL.call rfl rfl rfl rfl rfl (hg6.whole _ hG7 _ es (he6.mono hG7) oM heb) ?_;rintro r6 G8 rfl hG8;obtain⟨sn,scs,ssq,sq,hs12,hS⟩:=hg.form es;obtain⟨c0,c1,c2,c3,c4,c5,c6,c7,c8,c9,c10,c11,rfl⟩:=zsb hs12;rw[hS];refine uR ?_;(first|refine EVL.unbox (19) rfl fun b=>?_|refine EV.unbox (19) rfl fun b=>?_);(first|refine EVL.swapOw ([(b,147,S es)]) ([]) ((by rw[hS];rfl)) ?_|refine EV.swapOw ([(b,147,S es)]) ([]) ((by rw[hS];rfl)) ?_);have hw1:=fun G':Hp=>hg.worth G' b 0 147 [] [] es rfl oM heb;simp only[qG]at hw1;clear hS;refine uR ?_;apply EV.drawn 7 kR kR;intro xv yw;(repeat (first|refine' DD ?_|refine' vN ?_|refine' vF ?_));(refine' DJ.callR rfl rfl rfl rfl rfl 0 rfl (by simp[hlS]) (cO func79) (fun G'=>hw1 G') ?_;rotate_left);(repeat (first|refine' DD ?_|(refine' DC (hsub) (h:=?_);rotate_left)));(refine DJ.nil (fun G9 hG9 hF9=>?_);(case hS|hS2=>rfl));refine uR ?_;exact⟨ps,hcols,hpr,.inr ⟨c,a,w,hst,rfl⟩⟩
def RRs (H:Hp) (vs:List Value) (X:List (List Rat)):Prop:=vs.length=X.length∧∀(j:Nat) (u:Value) (x:List Rat),vs[j]?=some u→X[j]?=some x→RL H u x
theorem RRs.mono {H G:Hp} {vs:List Value} {X:List (List Rat)} (h:RRs H vs X) (k:H.Le G):RRs G vs X:=⟨h.1,fun j u x e1 e2=>(h.2 j u x e1 e2).mono k⟩
theorem RRs.nil (H:Hp):RRs H [] []:=⟨rfl,fun j u x h=>by simp at h⟩
theorem RRs.snoc {H:Hp} {vs:List Value} {X:List (List Rat)} {u:Value} {x:List Rat} (h:RRs H vs X) (k:RL H u x):RRs H (vs++[u]) (X++[x]):=zoz h k
def RLL (H:Hp) (v:Value) (X:List (List Rat)):Prop:=∃vs:List Value,RRs H vs X∧SlC H v X.length 1 vs
theorem RLL.mono {H G:Hp} {v:Value} {X:List (List Rat)} (h:RLL H v X) (k:H.Le G):RLL G v X:=by
 obtain⟨vs,h1,h2⟩:=h;exact⟨vs,h1.mono k,h2.mono k⟩
theorem RLL.val {H:Hp} {v:Value} {X:List (List Rat)} (h:RLL H v X):∃a c,v=.slice a X.length c:=by
 obtain⟨vs,_,h2⟩:=h;exact SlC.val h2
theorem RRs.at {H:Hp} {vs:List Value} {X:List (List Rat)} (h:RRs H vs X) {j:Nat} {x:List Rat} (hj:X[j]?=some x):∃a c,vs[j]?=some (.slice a x.length c)∧RL H (.slice a x.length c) x:=by
 obtain⟨hl,_⟩:=qE.1 hj;obtain⟨u,hu⟩:∃u,vs[j]?=some u:=⟨_,qA (by rw[h.1];exact hl)⟩;have hq:=h.2 j u x hu hj;obtain⟨a,c,rfl⟩:=hq.val;exact⟨a,c,hu,hq⟩
def ze2 (l:List Int) (n w:Nat):List (List Rat):=(List.range n).map fun i=>zjy (l.drop (min l.length (i*w))) w
theorem zgc (l:List Int) (n w:Nat):(ze2 l n w).length=n:=by simp[ze2]
theorem zpF (l:List Int) {n w i:Nat} (h:i<n):(ze2 l n w)[i]?=some (zjy (l.drop (min l.length (i*w))) w):=by
 unfold ze2;rw[List.getElem?_map,List.getElem?_range h];rfl
theorem IL.drop {H:Hp} {a:Option Addr} {cap:Nat} {l:List Int} (h:IL H (.slice a l.length cap) l) (k:Nat) (hk:k≤l.length):IL H (.slice (if cap=k then a else a.map (·.add (k*1))) (l.length-k) (cap-k)) (l.drop k):=by
 have hs:SlC H (.slice a l.length cap) l.length 1 (l.map iv):=h;have:=hs.sub k l.length hk (qH _) (SlN.le h);unfold IL SlN;rw[List.length_drop,List.map_drop];rw[Nat.mul_one,Nat.mul_one,List.take_of_length_le (by simp)]at this;rw[Nat.mul_one];exact this
theorem zrl {H:Hp} {v:Value} {l:List Int} (h:IL H v l) (hb:∀z,z∈l → -9223372036854775808≤z∧z<9223372036854775808) (n w:Nat) (hn:n≤1000) (hw:w≤1000):PC prog 61 #[v,.int .i64 (n:Int),.int .i64 (w:Int)] H fun r H'=>RLL H' r (ze2 l n w):=by
 obtain⟨a,cap,rfl⟩:=SlC.val h;have hcap:l.length≤cap:=SlN.le h;refine BD func61 ntmps61 ?_;refine uR ?_;refine EV.loopK (ι:=Nat × List Value × Value × Ows) [0,1,2] [] (fun q=>[(7,.v q.2.2.1),(8,.v (.int .i64 (q.1:Int)))]) (fun _=>[]) (fun q=>q.2.2.2) (fun q G=>q.1≤n∧RRs G q.2.1 ((ze2 l n w).take q.1)∧zaZ 25 1 q.2.2.1 q.1 q.2.1 q.2.2.2) (fun q=>n-q.1) ((0,[],.slice none 0 0,[])) rfl rfl ⟨rfl,rfl,trivial⟩ trivial rfl (fun _=>rfl) (⟨Nat.zero_le _,RRs.nil _,zaZ.nil _ _⟩) ?_;rintro⟨i,vs,u,ow⟩ G1 hG1 ⟨hi,hvs,hown⟩;dsimp only at hi hvs hown;obtain⟨wa,wc,rfl⟩:=hown.val;refine uR ?_;refine EV.cond rfl (fun hlt=>?_) (fun hlt=>?_)
 ·simp only[nN]at hlt;have hk:i*w≤1000*1000:=Nat.mul_le_mul oM hw
  have hwr:IntKind.i64.wrap ((i:Int)*(w:Int))=((i*w:Nat):Int):=by
   rw[←Int.natCast_mul];generalize i*w=k at *;rw[IntKind.wrap_i64];omega
  have hrow:=zpF l (w:=w) hlt;generalize i*w=k at *
  have hd:=IL.drop (h.mono hG1) (min l.length k) (Nat.min_le_left _ _);have hrp:=zqn hd (fun z hz=>hb z (List.mem_of_mem_drop hz)) w oM;refine uR ?_;rw[hwr];refine EVL.asI ((min l.length k:Nat)) ((by split <;> omega)) ?_;refine EVL.slc tO rfl rfl rfl rfl rfl rfl rfl rfl (min l.length k) l.length (.inr ⟨_,IntKind.i64,rfl,rfl⟩) (.inl ⟨rfl,rfl⟩) (Nat.min_le_left _ _) hcap hcap ?_;refine uR ?_;refine vA (hrp) ?_;rintro r G2 hr hG2;obtain⟨ra,rc,rfl⟩:=hr.val;refine uR ?_;refine EVL.app1 tO rfl rfl rfl rfl rfl rfl rfl rfl rfl rfl rfl rfl rfl rfl rfl rfl rfl rfl rfl (fun _=>rfl) (ow) ([]) ((qG _).symm) (hown) oM fun _=>?_;intro v' ow' hown';refine uR ?_;refine⟨(i+1,vs++[_],v',ow'),⟨rfl,?_,trivial⟩,sB,trivial,trivial,qG _,⟨hlt,by rw[zaz hrow];exact(hvs.mono hG2).snoc hr,hown'⟩,hG2,by dsimp only;omega⟩;rw[zai i (by omega)];rfl
 ·simp only[nN]at hlt;obtain rfl:i=n:=by omega
  rw[List.take_of_length_le (by rw[zgc];omega)]at hvs;(first|refine EVL.publishL [] ow [] ((qG _).symm) hown fun G2 hG2 hs=>?_|refine EV.publishL [] ow [] ((qG _).symm) hown fun G2 hG2 hs=>?_);refine uR ?_;exact⟨vs,hvs.mono hG2,by rw[zgc];exact hs⟩
theorem ziJ {H:Hp} {v:Value} {X:List (List Rat)} (h:RLL H v X) (hn:X.length≤1000000) (hx:∀x,x∈X→x.length≤1000000∧∀q,q∈x→rq q):PC prog 12 #[v] H fun r H'=>QLL H' r X:=by
 obtain⟨a,cap,rfl⟩:=h.val;refine BD func12 ntmps12 ?_;refine uR ?_;refine EV.loopK (ι:=Nat × List Value × Value × Ows) [0] [] (fun q=>[(3,.v q.2.2.1),(4,.v (.int .i64 (q.1:Int)))]) (fun _=>[]) (fun q=>q.2.2.2) (fun q G=>q.1≤X.length∧QVs G q.2.1 (X.take q.1)∧zaZ 40 1 q.2.2.1 q.1 q.2.1 q.2.2.2) (fun q=>X.length-q.1) ((0,[],.slice none 0 0,[])) rfl rfl ⟨rfl,rfl,trivial⟩ trivial rfl (fun _=>rfl) (⟨Nat.zero_le _,QVs.nil _,zaZ.nil _ _⟩) ?_;rintro⟨i,vs,u,ow⟩ G1 hG1 ⟨hi,hvs,hown⟩;dsimp only at hi hvs hown;obtain⟨wa,wc,rfl⟩:=hown.val;refine uR ?_;refine EV.cond rfl (fun hlt=>?_) (fun hlt=>?_)
 ·simp only[nN]at hlt;obtain⟨x,hxi⟩:=gE hlt;have hxb:=hx x (qF hxi);obtain⟨us,hus,hs⟩:=h.mono hG1;obtain⟨a1,c1,hu1,hR⟩:=hus.at hxi;have hin:=zhy hR oM hxb.2;refine uR ?_;refine vI (hs) (i) (rfl) (hlt) (hu1) ?_;refine uR ?_;refine vA (hin) ?_;rintro r G2 hr hG2;obtain⟨ra,rc,rfl⟩:=SlC.val hr;refine uR ?_;refine EVL.app1 tO rfl rfl rfl rfl rfl rfl rfl rfl rfl rfl rfl rfl rfl rfl rfl rfl rfl rfl rfl (fun _=>rfl) (ow) ([]) ((qG _).symm) (hown) oM fun _=>?_;intro v' ow' hown';refine uR ?_;refine⟨(i+1,vs++[_],v',ow'),⟨rfl,?_,trivial⟩,sB,trivial,trivial,qG _,⟨hlt,by rw[zaz hxi];exact(hvs.mono hG2).snoc hr,hown'⟩,hG2,by dsimp only;omega⟩;rw[zai i (by omega)];rfl
 ·simp only[nN]at hlt;obtain rfl:i=X.length:=by omega
  rw[List.take_length]at hvs;(first|refine EVL.publishL [] ow [] ((qG _).symm) hown fun G2 hG2 hs=>?_|refine EV.publishL [] ow [] ((qG _).symm) hown fun G2 hG2 hs=>?_);refine uR ?_;exact⟨vs,hvs.mono hG2,hs⟩
def ziE (key:Int→Rat) (m:List Int):Nat→List Rat
 | 0=>[]
 | j+1=>ziE key m j++if key (m.getD j 0)<key (m.getD (j+1) 0) then [zdX key m j] else []
end
section
theorem ziw (m o:Rat):∀l:List Rat,zaX (ze0 o l.reverse)=zaX (ze0 m l.reverse)+2*(m-o)*(zaX l.reverse-((l.length:Int):Rat)*m)+((l.length:Int):Rat)*((m-o)*(m-o))
 | []=>by
  rw[show zaX (ze0 o ([]:List Rat).reverse)=0 from rfl,show zaX (ze0 m ([]:List Rat).reverse)=0 from rfl,show zaX ([]:List Rat).reverse=0 from rfl,show (((([]:List Rat).length:Int)):Rat)=0 from rfl];grind
 | x::l=>by
  have ih:=ziw m o l
  have e:(((x::l).length:Int):Rat)=((l.length:Int):Rat)+1:=by
   rw[List.length_cons,Int.natCast_add,Rat.intCast_add];rfl
  rw[List.reverse_cons,zfC,zfC,zcm,ih,e];generalize zaX (ze0 m l.reverse)=A;generalize zaX l.reverse=B;generalize ((l.length:Int):Rat)=N;grind
theorem zji (a:Rat):0≤a*a:=by
 rcases (Rat.le_total:0≤a∨a≤0) with h | h
 ·exact Rat.mul_nonneg h h
 ·have:0 ≤ -a:=by grind
  have:=Rat.mul_nonneg this this;grind
end
section
structure POk (wo cost:List Int→Rat):Prop where
 wperm:∀l m:List Int,l.Perm m→wo l=wo m
 cperm:∀l m:List Int,l.Perm m→cost l=cost m
 split:∀l m:List Int,cost (l++m)+wo (l++m)=cost l+wo l+(cost m+wo m)
 conv:∀l m:List Int,wo (l++m)≤wo l+wo m
theorem POk.gain {wo cost:List Int→Rat} (h:POk wo cost) {rs l m:List Int} (hp:(l++m).Perm rs):cost rs-cost l-cost m=wo l+wo m-wo rs:=by
 have h1:=h.split l m;have h2:=h.wperm _ _ hp;have h3:=h.cperm _ _ hp;rw[h2,h3]at h1;grind
theorem zjX {p:Int→Bool} {m:List Int} {k:Nat} (h1:∀x,x∈m.take k→p x=true) (h2:∀x,x∈m.drop k→p x=false):m.filter p=m.take k:=by
 rw[←List.take_append_drop k m,List.filter_append,List.filter_eq_self.2 h1,List.filter_eq_nil_iff.2 (fun x hx=>by rw[h2 x hx];decide),qG,List.take_append_drop]
theorem zjV {p:Int→Bool} {m:List Int} {k:Nat} (h1:∀x,x∈m.take k→p x=false) (h2:∀x,x∈m.drop k→p x=true):m.filter p=m.drop k:=by
 conv=>lhs;rw[←List.take_append_drop k m]
 rw[List.filter_append,List.filter_eq_nil_iff.2 (fun x hx=>by rw[h1 x hx];decide),List.filter_eq_self.2 h2,List.nil_append]
theorem zsc {a b:Rat} (h:a<b):a<(a+b) / 2∧(a+b) / 2<b:=by
 constructor <;> grind
theorem zhu {m:List Int} {j:Nat} {x:Int} (h:x∈m.take (j+1)):∃i,i≤j∧i<m.length∧m.getD i 0=x:=by
 obtain⟨i,hi,rfl⟩:=List.mem_iff_getElem.1 h;rw[List.length_take]at hi;exact⟨i,by omega,by omega,by simp[show i<m.length by omega]⟩
theorem zht {m:List Int} {j:Nat} {x:Int} (h:x∈m.drop (j+1)):∃i,j+1≤i∧i<m.length∧m.getD i 0=x:=by
 obtain⟨i,hi,rfl⟩:=List.mem_iff_getElem.1 h;rw[List.length_drop]at hi;exact⟨j+1+i,by omega,by omega,by simp[show j+1+i<m.length by omega]⟩
theorem zfa {key:Int→Rat} {m:List Int} (h:zgv key m) {i j:Nat} (hij:i≤j) (hj:j<m.length):key (m.getD i 0)≤key (m.getD j 0):=by
 rcases Nat.lt_or_eq_of_le hij with hlt | rfl
 ·have:=(List.pairwise_iff_getElem.1 h) i j (by simp;omega) (by simp;omega) hlt;simpa[show i<m.length by omega,hj] using this
 ·exact Rat.le_refl
theorem zfd {X:List (List Rat)} {col:Int} {rs m:List Int} (hp:m.Perm rs) (hr:zgv (za3 X col) m) (ha:∀r,r∈rs→zbz X col r=true) {j:Nat} (hj:j+1<m.length) (hlt:za3 X col (m.getD j 0)<za3 X col (m.getD (j+1) 0)) :
  (zbe X col (zdX (za3 X col) m j) rs).Perm (m.take (j+1))∧(zaM X col (zdX (za3 X col) m j) rs).Perm (m.drop (j+1)):=by
 obtain⟨h1,h2⟩:=zsc hlt;have hm:∀r,r∈m→zbz X col r=true:=fun r hr=>ha r (hp.mem_iff.1 hr)
 have hlo:∀x,x∈m.take (j+1)→za3 X col x≤zdX (za3 X col) m j:=fun x hx=>by
  obtain⟨i,hi,_,rfl⟩:=zhu hx;exact Rat.le_trans (zfa hr hi oM) (Rat.le_of_lt h1)
 have hhi:∀x,x∈m.drop (j+1)→¬za3 X col x≤zdX (za3 X col) m j:=fun x hx=>by
  obtain⟨i,hi,hil,rfl⟩:=zht hx;have:=zfa hr hi hil;intro k;generalize za3 X col (m.getD i 0)=x at *
  unfold zdX at k;grind
 constructor
 ·refine(hp.symm.filter _).trans ?_;rw[zjX (k:=j+1)]
  ·intro x hx;rw[hm x (List.mem_of_mem_take hx),qD (hlo x hx)];rfl
  ·intro x hx;rw[hm x (List.mem_of_mem_drop hx),qC (hhi x hx)];rfl
 ·refine(hp.symm.filter _).trans ?_;rw[zjV (k:=j+1)]
  ·intro x hx;rw[hm x (List.mem_of_mem_take hx),qD (hlo x hx)];rfl
  ·intro x hx;rw[hm x (List.mem_of_mem_drop hx),qC (hhi x hx)];rfl
theorem zd4 {key:Int→Rat} {least:Int} {m:List Int} {j:Nat}:zc5 key least m j=true↔least≤((j+1:Nat):Int)∧least≤((m.length-(j+1):Nat):Int)∧key (m.getD j 0)<key (m.getD (j+1) 0):=by
 unfold zc5;simp only[Bool.and_eq_true,decide_eq_true_eq];exact and_assoc
theorem zhm {key:Int→Rat} {wo:List Int→Rat} {least:Int} {m:List Int}:∀{n:Nat} {a w:Rat},zcY key wo least m n=some (a,w)→∃j,j<n∧zc5 key least m j=true∧a=zdX key m j∧w=zeO wo m j
 | 0,a,w,h=>by cases h
 | n+1,a,w,h=>by
  unfold zcY at h;split at h
  ·rename_i hc;split at h
   ·cases h;exact⟨n,Nat.lt_succ_self _,hc,rfl,rfl⟩
   ·rename_i a0 w0 h0;split at h
    ·cases h;exact⟨n,Nat.lt_succ_self _,hc,rfl,rfl⟩
    ·cases h;obtain⟨j,h1,h2⟩:=zhm h0;exact⟨j,by omega,h2⟩
  ·obtain⟨j,h1,h2⟩:=zhm h;exact⟨j,by omega,h2⟩
theorem zhl {key:Int→Rat} {wo:List Int→Rat} {least:Int} {m:List Int}:∀{n j:Nat},j<n→zc5 key least m j=true→∃a w,zcY key wo least m n=some (a,w)∧zeO wo m j≤w
 | 0,j,h,_=>by omega
 | n+1,j,h,hc=>by
  unfold zcY;by_cases hjn:j=n
  ·subst hjn;rw[if_pos hc];split
   ·exact⟨_,_,rfl,Rat.le_refl⟩
   ·rename_i a0 w0 _;by_cases hw:w0<zeO wo m j
    ·rw[if_pos hw];exact⟨_,_,rfl,Rat.le_refl⟩
    ·rw[if_neg hw];exact⟨_,_,rfl,Rat.not_lt.1 hw⟩
  ·obtain⟨a,w,h1,h2⟩:=zhl (wo:=wo) (show j<n by omega) hc;split
   ·rw[h1];dsimp only;split
    ·rename_i hw;exact⟨_,_,rfl,Rat.le_trans h2 (Rat.le_of_lt hw)⟩
    ·exact⟨_,_,rfl,h2⟩
   ·exact⟨a,w,h1,h2⟩
theorem zmV {ps:List (Int × Option (Rat × Rat))} {c:Int} {a w:Rat} (h:zbF ps=some (c,a,w)):(c,some (a,w))∈ps:=by
 have key:∀(qs pre:List (Int × Option (Rat × Rat))) (st:Option (Int × Rat × Rat)),(∀c a w,st=some (c,a,w)→(c,some (a,w))∈pre)→∀c a w,qs.foldl zc4 st=some (c,a,w)→(c,some (a,w))∈pre++qs:=by
  intro qs
  induction qs with
  | nil=>intro pre st h2 c a w h3;rw[qG];exact h2 c a w h3
  | cons p qs ih =>
   intro pre st h2 c a w h3
   have:=ih (pre++[p]) (zc4 st p) (fun c a w h4=>by
    obtain⟨pc,po⟩:=p;unfold zc4 at h4
    cases po with
    | none=>exact List.mem_append_left _ (h2 c a w h4)
    | some q =>
     obtain⟨a1,w1⟩:=q
     cases st with
     | none=>cases h4;simp
     | some t =>
      obtain⟨c0,a0,w0⟩:=t;dsimp only at h4;split at h4
      ·cases h4;simp
      ·cases h4;exact List.mem_append_left _ (h2 _ _ _ rfl)) c a w h3
   simpa using this
 have:=key ps [] none (fun c a w h=>by cases h) c a w h;simpa using this
theorem zmU {ps:List (Int × Option (Rat × Rat))} {c:Int} {a w:Rat} (h:(c,some (a,w))∈ps):∃c' a' w',zbF ps=some (c',a',w')∧w≤w':=by
 have key:∀(qs:List (Int × Option (Rat × Rat))) (st:Option (Int × Rat × Rat)),((c,some (a,w))∈qs∨∃c' a' w',st=some (c',a',w')∧w≤w')→∃c' a' w',qs.foldl zc4 st=some (c',a',w')∧w≤w':=by
  intro qs
  induction qs with
  | nil =>
   rintro st (h | h)
   ·cases h
   ·exact h
  | cons p qs ih =>
   intro st h;refine ih (zc4 st p) ?_
   have step:(p=(c,some (a,w))∨∃c' a' w',st=some (c',a',w')∧w≤w')→∃c' a' w',zc4 st p=some (c',a',w')∧w≤w':=by
    rintro (rfl | ⟨c',a',w',rfl,hw⟩)
    ·unfold zc4
     cases st with
     | none=>exact⟨_,_,_,rfl,Rat.le_refl⟩
     | some t =>
      obtain⟨c0,a0,w0⟩:=t;dsimp only;split
      ·exact⟨_,_,_,rfl,Rat.le_refl⟩
      ·rename_i hn;exact⟨_,_,_,rfl,Rat.not_lt.1 hn⟩
    ·obtain⟨pc,po⟩:=p;unfold zc4
     cases po with
     | none=>exact⟨_,_,_,rfl,hw⟩
     | some q =>
      obtain⟨a1,w1⟩:=q;dsimp only;split
      ·rename_i hn;exact⟨_,_,_,rfl,Rat.le_trans hw (Rat.le_of_lt hn)⟩
      ·exact⟨_,_,_,rfl,hw⟩
   rcases h with h | h
   ·rcases List.mem_cons.1 h with h | h
    ·exact .inr (step (.inl h.symm))
    ·exact .inl h
   ·exact .inr (step (.inr h))
 exact key ps none (.inl h)
theorem zfH {key:Int→Rat} {m:List Int}:∀{n:Nat} {t:Rat},t∈ziE key m n→∃j,j<n∧key (m.getD j 0)<key (m.getD (j+1) 0)∧t=zdX key m j
 | 0,t,h=>by cases h
 | n+1,t,h=>by
  unfold ziE at h;rcases List.mem_append.1 h with h | h
  ·obtain⟨j,h1,h2⟩:=zfH h;exact⟨j,by omega,h2⟩
  ·split at h
   ·rename_i hlt;exact⟨n,Nat.lt_succ_self _,hlt,List.mem_singleton.1 h⟩
   ·cases h
section
variable {X:List (List Rat)} {wo cost:List Int→Rat} {rs cols:List Int} {L:Int} {ps:List (Int × Option (Rat × Rat))} (hp:POk wo cost) (hcol:zrS cols (ps.map (·.1))) (hps:∀p,p∈ps→zp3 X wo rs L p.1 p.2)
include hp hcol hps
end
end
section
theorem zgj {l m:List Rat} (h:l.Perm m):zaX l=zaX m:=by
 induction h with
 | nil=>rfl
 | cons x _ ih=>rw[zas,zas,ih]
 | swap x y l=>rw[zas,zas,zas,zas];grind
 | trans _ _ h1 h2=>rw[h1,h2]
theorem zcK (l m:List Rat):zaX (l++m)=zaX l+zaX m:=by
 induction l with
 | nil=>rw[List.nil_append,zbA];grind
 | cons x l ih=>rw[List.cons_append,zas,zas,ih];grind
theorem zf7 {n:Nat} (h0:n≠0):((n:Int):Rat)≠0:=zdp h0
theorem zhK {n:Nat} (h0:n≠0):0<((n:Int):Rat):=by
 have h1:((0:Int):Rat)≤((n:Int):Rat):=Rat.intCast_le_intCast.2 oM;have h2:=zf7 h0;have h3:((0:Int):Rat)=0:=rfl;rw[h3]at h1;rcases Rat.le_iff_lt_or_eq.1 h1 with h | h
 ·exact h
 ·exact absurd h.symm h2
theorem zsV (a b:Rat) (x y:Nat) (hx:x=0→a=0) (hy:y=0→b=0):(a+b)*(a+b) / (((x+y:Nat):Int):Rat)≤a*a / ((x:Int):Rat)+b*b / ((y:Int):Rat):=by
 by_cases hx0:x=0
 ·subst hx0;rw[hx rfl,Nat.zero_add,show ((((0:Nat):Int)):Rat)=0 from rfl,za7,Rat.zero_add,Rat.zero_add];exact Rat.le_refl
 by_cases hy0:y=0
 ·subst hy0;rw[hy rfl,Nat.add_zero,show ((((0:Nat):Int)):Rat)=0 from rfl,za7,Rat.add_zero,Rat.add_zero];exact Rat.le_refl
 have h1:=zf7 hx0;have h2:=zf7 hy0;have h3:=zf7 (n:=x+y) oM;have p1:=zhK hx0;have p2:=zhK hy0;have p3:=zhK (n:=x+y) oM;have e:(((x+y:Nat):Int):Rat)=((x:Int):Rat)+((y:Int):Rat):=by rw[Int.natCast_add,Rat.intCast_add]
 rw[e]at h3 p3 ⊢;generalize ((x:Int):Rat)=u at *
 generalize ((y:Int):Rat)=v at *
 have key:a*a / u+b*b / v-(a+b)*(a+b) / (u+v)=(a*v-b*u)*(a*v-b*u) / (u*v*(u+v)):=by grind
 have hn:0≤(a*v-b*u)*(a*v-b*u) / (u*v*(u+v)):=by
  have h5:=zji (a*v-b*u);have h6:0<u*v*(u+v):=Rat.mul_pos (Rat.mul_pos p1 p2) p3;rw[Rat.div_def];exact Rat.mul_nonneg h5 (Rat.le_of_lt (Rat.inv_pos.2 h6))
 grind
def ziu (vals:List Rat) (l:List Int):Rat:=zaX (ze0 (zdb (atR vals l)) (atR vals l))
def zgH (ls:List Int) (l:List Int):Rat:=zis (atI ls l)
theorem zsY (L:List Rat):zaX (ze0 (zdb L) L)+zaX L*zaX L / ((L.length:Int):Rat)=zaX (ze0 0 L):=by
 by_cases h0:L.length=0
 ·obtain rfl:=List.length_eq_zero_iff.1 h0;show zaX []+zaX []*zaX [] / ((((([]:List Rat).length:Nat):Int)):Rat)=zaX [];rw[zbA,show ((((([]:List Rat).length:Nat):Int)):Rat)=0 from rfl,za7,Rat.add_zero]
 ·have h:=ziw (zdb L) 0 L.reverse;rw[List.reverse_reverse,List.length_reverse]at h;have hn:=zf7 h0;have hm:zdb L=zaX L / ((L.length:Int):Rat):=rfl;rw[h];generalize zaX (ze0 (zdb L) L)=A;rw[hm];generalize ((L.length:Int):Rat)=N at *
  generalize zaX L=S at *
  grind
theorem zsS (vals:List Rat):POk (woV vals) (ziu vals):=by
 have hpm:∀l m:List Int,l.Perm m→(atR vals l).Perm (atR vals m):=fun l m h=>h.map _
 have hw:∀l m:List Int,l.Perm m→woV vals l=woV vals m:=fun l m h=>by
  unfold woV;rw[zgj (hpm l m h),h.length_eq]
 have hf:∀l:List Int,ziu vals l+woV vals l=zaX (ze0 0 (atR vals l)):=fun l=>by
  have:=zsY (atR vals l);rw[zca]at this;exact this
 refine⟨hw,fun l m h=>?_,fun l m=>?_,fun l m=>?_⟩
 ·have h1:=hf l;have h2:=hf m;have h3:zaX (ze0 0 (atR vals l))=zaX (ze0 0 (atR vals m)):=zgj ((hpm l m h).map _);have h4:=hw l m h;grind
 ·rw[hf,hf,hf,zjD];show zaX ((atR vals l++atR vals m).map _)=_;rw[List.map_append,zcK];rfl
 ·unfold woV;rw[zjD,zcK,List.length_append];exact zsV _ _ _ _ (fun h=>by rw[List.length_eq_zero_iff.1 h];rfl) (fun h=>by rw[List.length_eq_zero_iff.1 h];rfl)
theorem zhW (f g:Nat→Nat) (j:Nat):∀n,((List.range n).map fun k=>f k+if k=j then g k else 0).sum=((List.range n).map f).sum+if j<n then g j else 0
 | 0=>by simp
 | n+1=>by
  rw[List.range_succ,List.map_append,List.sum_append,List.map_append,List.sum_append,zhW f g j n];simp only[List.map_cons,List.map_nil,List.sum_cons,List.sum_nil];by_cases h:n=j
  ·subst h;rw[if_pos rfl,if_neg oM,if_pos (by omega)];omega
  ·rw[if_neg h];by_cases h2:j<n
   ·rw[if_pos h2,if_pos (by omega)];omega
   ·rw[if_neg h2,if_neg (by omega)];omega
theorem zok:∀l:List Int,(∀z,z∈l→0≤z∧z<12)→sqL l=((List.range 12).map fun (k:Nat)=>l.count (k:Int)*l.count (k:Int)).sum
 | [],_=>by decide
 | x::l,h=>by
  have hx:=h x (List.mem_cons_self ..);obtain⟨j,rfl⟩:=Int.eq_ofNat_of_zero_le hx.1;have ih:=zok l (fun z hz=>h z (List.mem_cons_of_mem _ hz));have hs:=zhW (fun k=>l.count (k:Int)*l.count (k:Int)) (fun k=>2*l.count (k:Int)+1) j 12;rw[if_pos (by omega)]at hs;rw[zhU,ih,Nat.add_assoc,←hs];congr 1;refine List.map_congr_left fun k _=>?_;rw[List.count_cons];by_cases e:k=j
  ·subst e;rw[if_pos rfl];simp;grind
  ·have e2:¬((j:Int) == (k:Int))=true:=by simp;omega
   rw[if_neg e,if_neg e2];simp
def zjz (ks:List Nat) (f:Nat→Rat):Rat:=zaX (ks.map f)
theorem zls (f:Nat→Nat):∀ks:List Nat,((((ks.map f).sum:Nat):Int):Rat)=zjz ks fun k=>(((f k:Nat):Int):Rat)
 | []=>rfl
 | k::ks=>by
  unfold zjz;rw[List.map_cons,List.sum_cons,List.map_cons,zas,Int.natCast_add,Rat.intCast_add,zls f ks];rfl
theorem zol {f g:Nat→Rat} (h:∀k,f k≤g k):∀ks:List Nat,zjz ks f≤zjz ks g
 | []=>Rat.le_refl
 | k::ks=>by
  have ih:=zol h ks;unfold zjz at *
  rw[List.map_cons,zas,List.map_cons,zas];have:=h k;grind
theorem zlr (f g:Nat→Rat):∀ks:List Nat,zjz ks (fun k=>f k+g k)=zjz ks f+zjz ks g
 | []=>by unfold zjz;rw[List.map_nil,List.map_nil,List.map_nil,zbA,Rat.add_zero]
 | k::ks=>by
  have ih:=zlr f g ks;unfold zjz at *
  rw[List.map_cons,zas,List.map_cons,zas,List.map_cons,zas,ih];grind
theorem zfe (f:Nat→Rat) (c:Rat):∀ks:List Nat,zjz ks (fun k=>f k / c)=zjz ks f / c
 | []=>by unfold zjz;rw[List.map_nil,List.map_nil,zbA,Rat.div_def,Rat.zero_mul]
 | k::ks=>by
  have ih:=zfe f c ks;unfold zjz at *
  rw[List.map_cons,zas,List.map_cons,zas,ih,Rat.div_def,Rat.div_def,Rat.div_def,Rat.add_mul]
theorem zkk {l:List Int} (h:∀z,z∈l→0≤z∧z<12):((sqL l:Int):Rat)=zjz (List.range 12) fun k=>((l.count (k:Int):Int):Rat)*((l.count (k:Int):Int):Rat):=by
 rw[zok l h,zls];unfold zjz;congr 1;refine List.map_congr_left fun k _=>?_;rw[Int.natCast_mul,Rat.intCast_mul]
theorem zsR {ls:List Int} (hls:∀z,z∈ls→0≤z∧z<12):POk (woL ls) (zgH ls):=by
 have hpm:∀l m:List Int,l.Perm m→(atI ls l).Perm (atI ls m):=fun l m h=>h.map _
 have hb:∀l:List Int,∀z,z∈atI ls l→0≤z∧z<12:=fun l z hz=>by
  unfold atI at hz;obtain⟨r,_,rfl⟩:=List.mem_map.1 hz;rw[qB]
  cases e:ls[r.toNat]? with
  | none=>exact⟨by decide,by decide⟩
  | some x=>exact hls x (qF e)
 have hw:∀l m:List Int,l.Perm m→woL ls l=woL ls m:=fun l m h=>by
  unfold woL;rw[zll (hpm l m h),h.length_eq]
 have hf:∀l:List Int,zgH ls l+woL ls l=((l.length:Int):Rat):=fun l=>by
  unfold zgH zis woL;rw[zb9];grind
 refine⟨hw,fun l m h=>?_,fun l m=>?_,fun l m=>?_⟩
 ·have h1:=hf l;have h2:=hf m;have h4:=hw l m h;rw[h.length_eq]at h1;grind
 ·rw[hf,hf,hf,List.length_append,Int.natCast_add,Rat.intCast_add]
 ·unfold woL;rw[zkk (hb (l++m)),zkk (hb l),zkk (hb m),←zfe,←zfe,←zfe,←zlr];refine zol (fun k=>?_) _;rw[zjC,List.count_append,Int.natCast_add,Rat.intCast_add,List.length_append];exact zsV _ _ _ _ (fun h=>by rw[List.length_eq_zero_iff.1 h];rfl) (fun h=>by rw[List.length_eq_zero_iff.1 h];rfl)
end
section
def zh7 (a b:Int × Rat × Rat):Prop:=b.2.2<a.2.2∨(a.2.2=b.2.2∧(a.1<b.1∨(a.1=b.1∧a.2.1<b.2.1)))
instance (a b:Int × Rat × Rat):Decidable (zh7 a b):=by unfold zh7;exact inferInstance
theorem zgX {a b c:Int × Rat × Rat} (h:zh7 a b) (k:zh7 b c):zh7 a c:=by
 unfold zh7 at *
 rcases h with h | ⟨h1,h2⟩ <;> rcases k with k | ⟨k1,k2⟩
 ·left;grind
 ·left;grind
 ·left;grind
 ·right;refine⟨h1.trans k1,?_⟩;rcases h2 with h2 | ⟨h2,h3⟩ <;> rcases k2 with k2 | ⟨k2,k3⟩
  ·left;omega
  ·left;omega
  ·left;omega
  ·right;exact⟨by omega,by grind⟩
theorem zmk {a b:Int × Rat × Rat} (h:¬zh7 a b) (k:¬zh7 b a):a=b:=by
 unfold zh7 at *
 obtain⟨a1,a2,a3⟩:=a;obtain⟨b1,b2,b3⟩:=b;dsimp only at *
 have e3:a3=b3:=by
  have h1:¬b3<a3:=fun x=>h (.inl x);have h2:¬a3<b3:=fun x=>k (.inl x);grind
 subst e3
 have e1:a1=b1:=by
  have h1:¬a1<b1:=fun x=>h (.inr ⟨rfl,.inl x⟩);have h2:¬b1<a1:=fun x=>k (.inr ⟨rfl,.inl x⟩);omega
 subst e1
 have e2:a2=b2:=by
  have h1:¬a2<b2:=fun x=>h (.inr ⟨rfl,.inr ⟨rfl,x⟩⟩);have h2:¬b2<a2:=fun x=>k (.inr ⟨rfl,.inr ⟨rfl,x⟩⟩);grind
 subst e2;rfl
theorem zgW {a b:Int × Rat × Rat} (h:zh7 a b) (k:zh7 b a):False:=by
 have:=zgX h k;unfold zh7 at this;rcases this with h | ⟨_,h | ⟨_,h⟩⟩
 ·exact absurd h Rat.lt_irrefl
 ·omega
 ·exact absurd h Rat.lt_irrefl
def zpB (st:Option (Int × Rat × Rat)) (p:Int × Rat × Rat):Option (Int × Rat × Rat):=match st with
 | none=>some p
 | some q=>if zh7 p q then some p else some q
def zfl (l:List (Int × Rat × Rat)) (r:Option (Int × Rat × Rat)):Prop:=match r with
 | none=>l=[]
 | some p=>p∈l∧∀q,q∈l→¬zh7 q p
theorem zl5 {l:List (Int × Rat × Rat)} {r:Option (Int × Rat × Rat)} (h:zfl l r) (p:Int × Rat × Rat):zfl (l++[p]) (zpB r p):=by
 unfold zpB
 cases r with
 | none =>
  obtain rfl:l=[]:=h
  exact⟨by simp,fun q hq=>by
   rw[List.nil_append,List.mem_singleton]at hq;subst hq;exact fun k=>zgW k k⟩
 | some q =>
  obtain⟨h1,h2⟩:=h;dsimp only;split
  ·rename_i hp;refine⟨by simp,fun z hz=>?_⟩;rcases List.mem_append.1 hz with hz | hz
   ·exact fun k=>h2 z hz (zgX k hp)
   ·rw[List.mem_singleton.1 hz];exact fun k=>zgW k k
  ·rename_i hp;refine⟨List.mem_append_left _ h1,fun z hz=>?_⟩;rcases List.mem_append.1 hz with hz | hz
   ·exact h2 z hz
   ·rw[List.mem_singleton.1 hz];exact hp
def zkv (P:Int × Rat × Rat→Prop) (r:Option (Int × Rat × Rat)):Prop:=match r with
 | none=>∀p,¬P p
 | some p=>P p∧∀q,P q→¬zh7 q p
theorem zfl.p {l:List (Int × Rat × Rat)} {r:Option (Int × Rat × Rat)} (h:zfl l r):zkv (·∈l) r:=by
 cases r with
 | none =>
  obtain rfl:l=[]:=h;intro p hp;cases hp
 | some p=>exact h
theorem zgP {P Q:Int × Rat × Rat→Prop} {r s:Option (Int × Rat × Rat)} (h:zkv P r) (k:zkv Q s) (e:∀p,P p↔Q p):r=s:=by
 cases r with
 | none=>cases s with
  | none=>rfl
  | some q=>exact absurd ((e q).2 k.1) (h q)
 | some p=>cases s with
  | none=>exact absurd ((e p).1 h.1) (k p)
  | some q=>rw[zmk (a:=p) (b:=q) (k.2 p ((e p).1 h.1)) (h.2 q ((e q).2 k.1))]
theorem zdF {key:Int→Rat} {wo:List Int→Rat} {L:Int} {m:List Int}:∀{n:Nat} {a w:Rat},zcY key wo L m n=some (a,w) →
  ∃j,j<n∧zc5 key L m j=true∧a=zdX key m j∧w=zeO wo m j∧∀j',j'<n→zc5 key L m j'=true→zeO wo m j'<w∨(zeO wo m j'=w∧j≤j')
 | 0,a,w,h=>by cases h
 | n+1,a,w,h=>by
  unfold zcY at h;split at h
  ·rename_i hc;split at h
   ·rename_i h0;cases h;refine⟨n,Nat.lt_succ_self _,hc,rfl,rfl,fun j' hj' hc'=>?_⟩;by_cases e:j'=n
    ·subst e;exact .inr ⟨rfl,qH _⟩
    ·obtain⟨a1,w1,h1,_⟩:=zhl (wo:=wo) (show j'<n by omega) hc';rw[h0]at h1;cases h1
   ·rename_i a0 w0 h0;obtain⟨j,hj,h1,h2,h3,h4⟩:=zdF h0;split at h
    ·rename_i hw;cases h;refine⟨n,Nat.lt_succ_self _,hc,rfl,rfl,fun j' hj' hc'=>?_⟩;by_cases e:j'=n
     ·subst e;exact .inr ⟨rfl,qH _⟩
     ·rcases h4 j' oM hc' with h5 | ⟨h5,_⟩
      ·left;grind
      ·left;rw[h5];exact hw
    ·rename_i hw;cases h;refine⟨j,by omega,h1,h2,h3,fun j' hj' hc'=>?_⟩;by_cases e:j'=n
     ·subst e;rcases Rat.le_iff_lt_or_eq.1 (Rat.not_lt.1 hw) with h5 | h5
      ·exact .inl h5
      ·exact .inr ⟨h5,by omega⟩
     ·exact h4 j' oM hc'
  ·rename_i hc;obtain⟨j,hj,h1,h2,h3,h4⟩:=zdF h;refine⟨j,by omega,h1,h2,h3,fun j' hj' hc'=>?_⟩;by_cases e:j'=n
   ·subst e;exact absurd hc' hc
   ·exact h4 j' oM hc'
theorem zjE {ps:List (Int × Option (Rat × Rat))} (hs:(ps.map (·.1)).Pairwise (·<·)) {c:Int} {a w:Rat} (h:zbF ps=some (c,a,w)):∀c' a' w',(c',some (a',w'))∈ps→w'<w∨(w'=w∧c≤c'):=by
 have key:∀(qs pre:List (Int × Option (Rat × Rat))) (st:Option (Int × Rat × Rat)),((pre++qs).map (·.1)).Pairwise (·<·) →
   (∀c a w,st=some (c,a,w)→(c,some (a,w))∈pre∧∀c' a' w',(c',some (a',w'))∈pre→w'<w∨(w'=w∧c≤c'))→(st=none→∀c' a' w',(c',some (a',w')) ∉ pre) →
   ∀c a w,qs.foldl zc4 st=some (c,a,w)→∀c' a' w',(c',some (a',w'))∈pre++qs→w'<w∨(w'=w∧c≤c'):=by
  intro qs
  induction qs with
  | nil=>intro pre st _ h2 _ c a w h3 c' a' w' hm;rw[qG]at hm;exact(h2 c a w h3).2 c' a' w' hm
  | cons p qs ih =>
   intro pre st hpw h2 h0 c a w h3 c' a' w' hm;have e:pre++p::qs=(pre++[p])++qs:=by simp
   rw[e]at hpw hm
   have hlt:∀z,z∈pre→z.1<p.1:=fun z hz=>by
    rw[List.map_append,List.map_append]at hpw;exact(List.pairwise_append.1 (List.pairwise_append.1 hpw).1).2.2 z.1 (List.mem_map.2 ⟨z,hz,rfl⟩) p.1 (by simp)
   refine ih (pre++[p]) (zc4 st p) hpw (fun c a w h4=>?_) (fun h4=>?_) c a w h3 c' a' w' hm
   ·obtain⟨pc,po⟩:=p;unfold zc4 at h4
    cases po with
    | none =>
     obtain⟨h5,h6⟩:=h2 c a w h4;refine⟨List.mem_append_left _ h5,fun c' a' w' hz=>?_⟩;rcases List.mem_append.1 hz with hz | hz
     ·exact h6 c' a' w' hz
     ·cases List.mem_singleton.1 hz
    | some q =>
     obtain⟨a1,w1⟩:=q
     cases st with
     | none =>
      cases h4;refine⟨by simp,fun c' a' w' hz=>?_⟩;rcases List.mem_append.1 hz with hz | hz
      ·exact absurd hz (h0 rfl c' a' w')
      ·cases List.mem_singleton.1 hz;exact .inr ⟨rfl,by omega⟩
     | some t =>
      obtain⟨c0,a0,w0⟩:=t;obtain⟨h5,h6⟩:=h2 c0 a0 w0 rfl;dsimp only at h4;split at h4
      ·rename_i hw;cases h4;refine⟨by simp,fun c' a' w' hz=>?_⟩;rcases List.mem_append.1 hz with hz | hz
       ·rcases h6 c' a' w' hz with h7 | ⟨h7,_⟩
        ·left;grind
        ·left;rw[h7];exact hw
       ·cases List.mem_singleton.1 hz;exact .inr ⟨rfl,by omega⟩
      ·rename_i hw;cases h4;refine⟨List.mem_append_left _ h5,fun c' a' w' hz=>?_⟩;rcases List.mem_append.1 hz with hz | hz
       ·exact h6 c' a' w' hz
       ·cases List.mem_singleton.1 hz;have hl:=hlt _ h5;dsimp only at hl;rcases Rat.le_iff_lt_or_eq.1 (Rat.not_lt.1 hw) with h8 | h8
        ·exact .inl h8
        ·exact .inr ⟨h8,by omega⟩
   ·obtain⟨pc,po⟩:=p;unfold zc4 at h4
    cases po with
    | none =>
     intro c' a' w' hz;rcases List.mem_append.1 hz with hz | hz
     ·exact h0 h4 c' a' w' hz
     ·cases List.mem_singleton.1 hz
    | some q =>
     obtain⟨a1,w1⟩:=q
     cases st with
     | none=>cases h4
     | some t =>
      obtain⟨c0,a0,w0⟩:=t;dsimp only at h4;split at h4 <;> cases h4
 exact key ps [] none hs (fun c a w h=>by cases h) (fun _ c' a' w' h=>by cases h) c a w h
end
end Go.Proofs.YtifcjfodgicngaaGreatDoor
