/- Texts of ours in one: Gc5, GcdS, Fr1, Fr2, Fr3, Ha1, Ha2, Ls1, LsP, Ls2, Ls3, Fr4, NearP, NearQ, SimpP, SimpS, Lw1, Lw2, Str1, Lw3, Lw4, Simp, Simp2, Simp3, Simp4, Ls4, Ls5, Ls6, Gn1, GnP, Gn2, Gn3, Gn7, Ev22, Gn8, Gn4, Gn5, Gn9, Gn6, Ev23, Gn10, Gn11, Seq, Sorted, DicePlain, Lists, SortPlain, Asc, GnC, Gn12, Gn13, Gn14, GnQ, GnR, GnS, GnT, GnV. -/
import Derived.Test.YtifcjfodgicngaaGreatDoorF0
import Derived.Test.YtifcjfodgicngaaGreatDoorF1
import Derived.Test.YtifcjfodgicngaaGreatDoorF2
import Derived.Test.YtifcjfodgicngaaGreatDoorProg
import Derived.RangeFuncBox
import Derived.RangeFuncLeaves
import Derived.Shelf.Abstract
import Derived.OwnWalkIn
import Derived.TacticsInMore
import Derived.LoopNIn
import Derived.LoopIn
import Derived.Maps.AppendAt
import Derived.Test.YtifcjfodgicngaaGreatDoorRows
import Derived.WalkKit
import Derived.Sort.OwnSortedInts
import Derived.Lib.SlicesCompact
set_option linter.unusedVariables false
set_option linter.unusedSimpArgs false
set_option maxHeartbeats 64000000
namespace Go.Proofs.YtifcjfodgicngaaGreatDoor
section
open Go.RowKit _root_.Go.Proofs.Tryz
structure OW (b off cap:Nat) (cs:List Value) (l:List Nat):Prop where
 at_:Wn cs off l
 norm:zdl W64 l
 cap:l.length≤cap
 len:l.length≤20000000
 odd:val W64 l % 2=1
structure BSt where
 (bv ov cv:Nat) (lv:List Nat) (sv:List Value)
 (bw ow cw:Nat) (lw:List Nat) (sw:List Value)
def BSt.env (q:BSt) (t:Int):Env:=[(4,.p 4 0),(5,.v (.slice (some ⟨q.bv,q.ov,none⟩) q.lv.length q.cv)),(6,.v (.slice (some ⟨q.bw,q.ow,none⟩) q.lw.length q.cw)),(7,.v (.int .i64 t))]
def BSt.own (q:BSt):Ows:=[(q.bv,44,q.sv),(q.bw,44,q.sw)]
structure BSt.ok (q:BSt) (g:Nat):Prop where
 v:OW q.bv q.ov q.cv q.sv q.lv
 w:OW q.bw q.ow q.cw q.sw q.lw
 gcd:Nat.gcd (val W64 q.lv) (val W64 q.lw)=g
theorem zqx {n:Nat} (h:n % 2=1):n≠0:=by omega
theorem zdi {α:Type} (a b:α):List.Perm [a,b] [b,a]:=List.Perm.swap b a []
theorem znf {a b:Nat} (h:zbi a b=0):a=b:=by
 unfold zbi at h;split at h
 ·cases h
 ·split at h
  ·cases h
  ·omega
theorem zeu (n:Nat):zaA n=.agg #[.int .u64 (lo n:Int),.string (zaj n)]:=rfl
theorem zgR (x y:Nat) (hx:x≠0) (hy:y≠0) (hbx':big x) (hby':big y):PV prog 159 #[zaA x,zaA y] (zaA (Nat.gcd x y)):=by
 have lx:(dig W64 x).length≤20000000:=qI (zaF hbx') (by decide);have ly:(dig W64 y).length≤20000000:=qI (zaF hby') (by decide);have hpx:=fun G=>PO.of_pw ((zjb x hbx' G).mono (Ψ:=fun v ow _=>ow.length≤1∧∃g,v=.slice (some ⟨g,0,none⟩) (dig W64 x).length (dig W64 x).length∧ow=[(g,44,(dig W64 x).map n64)]) fun v ow H' _ ⟨g,h1,h2⟩=>⟨by rw[h2];simp,g,h1,h2⟩);have hpy:=fun G=>PO.of_pw ((zjb y hby' G).mono (Ψ:=fun v ow _=>ow.length≤1∧∃g,v=.slice (some ⟨g,0,none⟩) (dig W64 y).length (dig W64 y).length∧ow=[(g,44,(dig W64 y).map n64)]) fun v ow H' _ ⟨g,h1,h2⟩=>⟨by rw[h2];simp,g,h1,h2⟩);have dx:=zam zad x;have dy:=zam zad y;have vx:=zaw zad x;have vy:=zaw zad y;generalize dig W64 x=dgx at *
 generalize dig W64 y=dgy at *
 have hvx0:val W64 dgx≠0:=by rw[vx];exact hx
 have hvy0:val W64 dgy≠0:=by rw[vy];exact hy
 refine PV.of_pc ?_;refine BD func159 ntmps159 ?_;refine uR ?_;apply EV.drawn 6 kR kR;intro x1 y1;(repeat refine' DD ?_);refine' DJ.callO rfl rfl rfl rfl rfl (hpx gH).can (fun G _ _=>hpx G) ?_;rotate_left;(repeat refine' DD ?_);refine' DJ.callO rfl rfl rfl rfl rfl (hpy gH).can (fun G _ _=>hpy G) ?_;rotate_left;refine' DJ.copy (0+1) (.inr rfl) rfl rfl rfl id rfl kR ?_;rotate_left;refine' DJ.copy (0+1+1+1) (.inr rfl) rfl rfl rfl id rfl kR ?_;rotate_left;(refine DJ.nil (fun G hG hF=>?_);(case hS|hS2=>rfl));obtain⟨⟨gy,ey,oy⟩,⟨gx,ex,ox⟩,_⟩:=hF;simp only[ex,ey,ox,oy,id];clear hpx hpy ex ey ox oy;refine uR ?_;refine EVL.permOw [(gx,44,dgx.map n64),(gy,44,dgy.map n64)] (zdi _ _) ?_;refine EVL.callW rfl rfl rfl rfl rfl ([(gx,44,dgx.map n64)]) ([(gy,44,dgy.map n64)]) rfl (zge (Wn.of dgx) dx.1 oM hvx0) ?_;rintro v ow H1 ⟨rfl,zx,mx,rfl,hzx,hmx,hzx2⟩ hle1;refine uR ?_;refine EVL.permOw [(gy,44,dgy.map n64),(gx,44,dgx.map n64)] (zdi _ _) ?_;refine EVL.callW rfl rfl rfl rfl rfl ([(gy,44,dgy.map n64)]) ([(gx,44,dgx.map n64)]) rfl (zge (Wn.of dgy) dy.1 oM hvy0) ?_;rintro v ow H2 ⟨rfl,zy,my,rfl,hzy,hmy,hzy2⟩ hle2;refine uR ?_;rw[show (if (zy:Int)<(zx:Int) then (zy:Int) else (zx:Int))=((min zx zy:Nat):Int) by split <;> omega];refine uR ?_;refine EVL.permOw [(gx,44,dgx.map n64),(gy,44,dgy.map n64)] (zdi _ _) ?_;refine EVL.callW rfl rfl rfl rfl rfl ([(gx,44,dgx.map n64)]) ([(gy,44,dgy.map n64)]) rfl (zhK (Wn.of dgx) dx.1 oM (qH _) hvx0) ?_;rintro v ow H3 ⟨sx,ox,cx,rx,zx',rfl,hwx,hnx,hlx,hcx,rfl,hdx,hox⟩ hle3;refine uR ?_;refine EVL.permOw [(gy,44,dgy.map n64),(gx,44,sx)] (zdi _ _) ?_;refine EVL.callW rfl rfl rfl rfl rfl ([(gy,44,dgy.map n64)]) ([(gx,44,sx)]) rfl (zhK (Wn.of dgy) dy.1 oM (qH _) hvy0) ?_;rintro v ow H4 ⟨sy,oy,cy,ry,zy',rfl,hwy,hny,hly,hcy,rfl,hdy,hoy⟩ hle4;refine EVL.permOw [(gx,44,sx),(gy,44,sy)] (zdi _ _) ?_
 have hgcd:Nat.gcd x y=2 ^ min zx zy*Nat.gcd (val W64 rx) (val W64 ry):=by
  have e1:zx=zx':=zkK (by rw[←hzx,hdx]) hmx hox;have e2:zy=zy':=zkK (by rw[←hzy,hdy]) hmy hoy;subst e1 e2;rw[←vx,←vy];exact zlz _ _ zx zy _ _ hdx hdy hox hoy
 have htw:min zx zy≤1300000000:=by omega
 generalize min zx zy=tw at *
 generalize hg:Nat.gcd (val W64 rx) (val W64 ry)=g at *
 have hbg:big (Nat.gcd x y):=qI (zjp x y hx) hbx';generalize Nat.gcd x y=gg at *
 refine uR ?_
 refine EV.loop (ι:=BSt) (fun q=>q.env (tw:Int)) (fun _=>[(4,46,Tryz.te46.zero)]) (fun q=>q.own) (fun q _=>q.ok g) (fun q=>val W64 q.lv+val W64 q.lw) ⟨gx,ox,cx,rx,sx,gy,oy,cy,ry,sy⟩
  ⟨rfl,rfl,rfl,rfl,trivial⟩ ⟨rfl,trivial⟩ rfl (fun _=>rfl) ⟨⟨hwx,hnx,hcx,qI hlx lx,hox⟩,⟨hwy,hny,hcy,qI hly ly,hoy⟩,hg⟩ ?_
 clear hdx hdy hzx hzy hwx hnx hlx hcx hwy hny hly hcy hox hoy hle1 hle2 hle3 hle4 hg;rintro⟨bv,ov,cv,lv,sv,bw,ow,cw,lw,sw⟩ G hG ⟨⟨v1,v2,v3,v4,v5⟩,⟨w1,w2,w3,w4,w5⟩,hgq⟩;dsimp only at v1 v2 v3 v4 v5 w1 w2 w3 w4 w5 hgq;unfold BSt.env BSt.own;dsimp only;refine uR ?_;refine EVL.callW rfl rfl rfl rfl rfl ([(bv,44,sv),(bw,44,sw)]) ([]) rfl (zj5 v1 w1 v2 w2 oM) ?_;rintro v ow1 H5 ⟨rfl,rfl⟩ hle5;refine uR ?_;by_cases hc0:zbi (val W64 lv) (val W64 lw)=0
 ·rw[show (zbi (val W64 lv) (val W64 lw) == 0)=true by rw[hc0];rfl];have hvw:=znf hc0;rw[←hvw,Nat.gcd_self]at hgq;refine uR ?_;refine vW ([(bv,44,sv)]) ([(bw,44,sw)]) (zmc v1 v2.1 v4) ?_;rintro v ow2 H6 ⟨rfl,rfl⟩ hle6;rw[hgq,zeu];refine uR ?_
  refine EV.loop (ι:=Int × Nat) (fun q=>[(4,.p 4 0),(9,.p 9 0),(7,.v (.int .i64 q.1))]) (fun q=>[(9,46,[.int .u64 (lo q.2:Int),.string (zaj q.2)]),(4,46,Tryz.te46.zero)]) (fun _=>[(bv,44,sv),(bw,44,sw)])
   (fun q _=>q.2*2 ^ q.1.toNat=gg∧q.1≤1300000000 ∧ -100000≤q.1) (fun q=>q.1.toNat) ((tw:Int),g) ⟨rfl,rfl,rfl,trivial⟩ ⟨rfl,rfl,trivial⟩ rfl (fun _=>rfl) ⟨by dsimp only;rw[Int.toNat_natCast,hgcd,Nat.mul_comm],by dsimp only;omega,by dsimp only;omega⟩ ?_
  rintro⟨t,o⟩ G2 hG2 ⟨ht,ht1,ht2⟩;dsimp only at ht ht1 ht2;refine uR ?_;by_cases htp:t>0
  ·rw[show decide (t>0)=true by simpa using htp];obtain⟨k,hk,hkt⟩:∃k:Nat,(if (65536:Int)<t then (65536:Int) else t)=(k:Int)∧k=min t.toNat 65536:=⟨min t.toNat 65536,by split <;> omega,rfl⟩
   have hbo:big o:=by
    refine qI (zbE ?_) hbg;rw[←ht];exact Nat.le_mul_of_pos_right _ (Nat.pow_pos (by decide))
   have hsh:=zjK o k oM hbo;refine uR ?_;rw[hk]
   repeat (first|refine RUN ?_|refine CV (hsh) ?_|refine CE (hsh) ?_)
   refine⟨(t-65536,o*2 ^ k),⟨rfl,rfl,?_,trivial⟩,⟨rfl,rfl,trivial⟩,rfl,⟨?_,by dsimp only;omega,by dsimp only;omega⟩,Hp.Le.refl _,by dsimp only;omega⟩
   ·rw[show IntKind.i64.wrap (t-65536)=t-65536 by rw[IntKind.wrap_i64];omega];rfl
   ·dsimp only;rw[←ht,Nat.mul_assoc,←Nat.pow_add];congr 2;omega
  ·rw[show decide (t>0)=false by simpa using htp];rw[show t.toNat=0 by omega,Nat.pow_zero,Nat.mul_one]at ht;subst ht;refine uR ?_;rfl
 ·rw[show (zbi (val W64 lv) (val W64 lw) == 0)=false by simpa using hc0];refine uR ?_;refine EV.meet (fun env' bx' H'=>∃q:BSt,zdM env' (q.env (tw:Int))∧zdQ bx' [(4,46,Tryz.te46.zero)]∧H'.ow=q.own∧G.Le H'.ro∧q.ok g∧val W64 q.lw<val W64 q.lv∧val W64 q.lv+val W64 q.lw=val W64 lv+val W64 lw) ?_ ?_
  ·rintro env' bx' ⟨G6,ow6,base6⟩ _ ⟨⟨bv,ov,cv,lv,sv,bw,ow,cw,lw,sw⟩,he,hbx6,how,hleG,⟨⟨v1,v2,v3,v4,v5⟩,⟨w1,w2,w3,w4,w5⟩,hgq⟩,hlt,hsum⟩;dsimp only at v1 v2 v3 v4 v5 w1 w2 w3 w4 w5 hgq hlt hsum;refine EV.less _ _ he hbx6 rfl ?_;unfold BSt.own at how;dsimp only at how;subst how;unfold BSt.env;dsimp only
   have hlen:lw.length≤lv.length:=by
    refine Nat.le_of_not_lt fun h=>?_;have:=zd7 zad v2.1 w2 h;omega
   refine uR ?_;refine EVL.callW rfl rfl rfl rfl rfl ([(bv,44,sv),(bw,44,sw)]) ([]) rfl (zi9 v1 w1 v2.1 w2.1 oM hlen v3 oM) ?_;rintro v ow7 H7 ⟨s7,r7,rfl,hw7,hn7,hl7,rfl,hv7⟩ hle7;refine uR ?_;refine EVL.callW rfl rfl rfl rfl rfl ([(bv,44,s7)]) ([(bw,44,sw)]) rfl (zhK hw7 hn7.1 oM oM oM) ?_;rintro v ow8 H8 ⟨s8,o8,c8,r8,z8,rfl,hw8,hn8,hl8,hc8,rfl,hd8,ho8⟩ hle8;refine uR ?_;have hr:=zmP (val W64 lv) (val W64 lw) z8 (val W64 r8) w5 oM (by rw[←hv7];exact hd8);have hle9:val W64 r8≤val W64 r7:=by rw[hd8];exact Nat.le_mul_of_pos_left _ (Nat.pow_pos (by decide))
   refine⟨⟨bv,o8,c8,r8,s8,bw,ow,cw,lw,sw⟩,⟨rfl,rfl,rfl,rfl,trivial⟩,⟨rfl,trivial⟩,rfl,⟨⟨hw8,hn8,hc8,by dsimp only;omega,ho8⟩,⟨w1,w2,w3,w4,w5⟩,by dsimp only;rw[hr];exact hgq⟩,(hleG.trans hle7).trans hle8,?_⟩;dsimp only;have:=zqx w5;omega
  ·by_cases hlt:zbi (val W64 lv) (val W64 lw)<0
   ·rw[show decide (zbi (val W64 lv) (val W64 lw)<0)=true by simpa using hlt]
    have hvl:val W64 lv<val W64 lw:=by
     unfold zbi at hlt;split at hlt
     ·assumption
     ·split at hlt <;> simp at hlt
    refine EV.permOw [(bw,44,sw),(bv,44,sv)] (zdi _ _) ?_;refine uR ?_;exact⟨⟨bw,ow,cw,lw,sw,bv,ov,cv,lv,sv⟩,⟨rfl,rfl,rfl,rfl,trivial⟩,⟨rfl,trivial⟩,rfl,hle5,⟨⟨w1,w2,w3,w4,w5⟩,⟨v1,v2,v3,v4,v5⟩,by dsimp only;rw[Nat.gcd_comm];exact hgq⟩,hvl,Nat.add_comm _ _⟩
   ·rw[show decide (zbi (val W64 lv) (val W64 lw)<0)=false by simpa using hlt]
    have hvl:val W64 lw<val W64 lv:=by
     unfold zbi at hlt hc0;split at hlt
     ·simp at hlt
     ·rename_i h1;rw[if_neg h1]at hc0;split at hc0
      ·assumption
      ·simp at hc0
    refine uR ?_;exact⟨⟨bv,ov,cv,lv,sv,bw,ow,cw,lw,sw⟩,⟨rfl,rfl,rfl,rfl,trivial⟩,⟨rfl,trivial⟩,rfl,hle5,⟨⟨v1,v2,v3,v4,v5⟩,⟨w1,w2,w3,w4,w5⟩,hgq⟩,hvl,rfl⟩
theorem zqe (c1 c2:Nat) (h1:big c1) (h2:big c2) (sx sy:Bool) (hsx:c1=0→sx=false) (hsy:c2=0→sy=false) :
  PV prog 106 #[.agg #[.bool sx,.int .u64 (lo c1:Int),.string (zaj c1)],.agg #[.bool sy,.int .u64 (lo c2:Int),.string (zaj c2)]] (zaA (Nat.gcd c1 c2)):=by
 refine PV.of_pc ?_;refine BD func106 ntmps106 ?_;refine uR ?_
 (apply EV.drawn 7 kR kR;intro xv yw;(repeat (first|refine' DD ?_));refine DJ.nil (fun G hG hF=>?_);(case hS|hS2=>rfl))
 repeat (first|refine RUN ?_|refine CV (zaI c1 c2 h1 h2) ?_|refine CE (zaI c1 c2 h1 h2) ?_)
 refine EV.meet (fun env' bx' H'=>∃u w:Nat,zdM env' [(4,.p 4 0),(5,.p 5 0),(6,.p 6 0)]∧zdQ bx' [(4,46,Tryz.te46.zero),(5,46,[.int .u64 (lo u:Int),.string (zaj u)]),(6,46,[.int .u64 (lo w:Int),.string (zaj w)])]∧H'.ow=[]∧w≤u∧big u∧big w∧Nat.gcd u w=Nat.gcd c1 c2) ?_ ?_
 ·rintro env' bx' ⟨G1,ow1,base1⟩ hb ⟨u,w,he,hbx,how,hwu,hu,hw,hg⟩;obtain rfl:base1=⟨fun _=>none,[]⟩:=hb;obtain rfl:ow1=[]:=how;refine EV.less _ _ he hbx rfl ?_;clear h1 h2 hsx hsy hbx he;generalize Nat.gcd c1 c2=gg at *
  subst hg
  repeat (first|refine RUN ?_|refine CV (zaX w hw) ?_|refine CE (zaX w hw) ?_)
  rw[zbq];by_cases hw0:w=0
  ·subst hw0;rw[qD rfl,Nat.gcd_zero_right];refine uR ?_;rfl
  ·rw[qC hw0]
   repeat (first|refine RUN ?_|refine CV (zeb u w hw0 hu hw) ?_|refine CE (zeb u w hw0 hu hw) ?_)
   have hm:u % w<w:=Nat.mod_lt _ oM;have hgr:Nat.gcd u w=Nat.gcd w (u % w):=by rw[Nat.gcd_comm,Nat.gcd_rec,Nat.gcd_comm]
   have hbm:big (u % w):=qI (zrd u w) hu;rw[hgr];generalize u % w=r at *
   generalize u / w=qq at *
   clear hgr hwu hu;rw[zeu,zeu];refine uR ?_;refine EV.less [(4,.p 4 0),(5,.p 5 0),(6,.p 6 0),(8,.p 8 0)] ([(5,46,[.int .u64 (lo u:Int),.string (zaj u)]),(4,46,Tryz.te46.zero),(6,46,[.int .u64 (lo w:Int),.string (zaj w)]),(8,46,[.int .u64 (lo r:Int),.string (zaj r)])]) ⟨rfl,rfl,rfl,rfl,trivial⟩ ⟨rfl,rfl,rfl,rfl,trivial⟩ rfl ?_;apply EV.drawnS ([(5,46,[.int .u64 (lo u:Int),.string (zaj u)])]) 3 kR kR;intro xv yw;(repeat refine' DD ?_);(refine DJ.nil (fun G hG hF=>?_);(case hS|hS2=>rfl);(case hD=>rfl))
   repeat (first|refine RUN ?_|refine CV (zaX r hbm) ?_|refine CE (zaX r hbm) ?_)
   rw[zbq];by_cases hr0:r=0
   ·subst hr0;rw[qD rfl,Nat.gcd_zero_right];refine uR ?_;rfl
   ·rw[qC hr0]
    repeat (first|refine RUN ?_|refine CV (zcy w) ?_|refine CE (zcy w) ?_)
    by_cases hws:w<W64
    ·have hrs:r<W64:=by omega
     rw[qD hws,if_pos hws]
     repeat (first|refine RUN ?_|refine CV (zcy r) ?_|refine CE (zcy r) ?_)
     rw[qD hrs,if_pos hrs];refine uR ?_;refine EV.loop (ι:=Nat × Nat) (fun q=>[(4,.p 4 0),(10,.v (n64 q.1)),(12,.v (n64 q.2))]) (fun _=>[(4,46,Tryz.te46.zero)]) (fun _=>[]) (fun q _=>q.1<W64∧q.2<W64∧Nat.gcd q.1 q.2=Nat.gcd w r) (fun q=>q.2) (w,r) ⟨rfl,rfl,rfl,trivial⟩ ⟨rfl,trivial⟩ rfl (fun _=>rfl) ⟨hws,hrs,rfl⟩ ?_;rintro⟨m,k⟩ G2 hG2 ⟨hms,hks,hgk⟩;dsimp only at hms hks hgk;refine uR ?_;by_cases hk0:k=0
     ·subst hk0;rw[show decide ((((m,0):Nat × Nat).2:Int)>0)=false from rfl];rw[Nat.gcd_zero_right]at hgk
      repeat (first|refine RUN ?_|refine CV (zb3 m hms) ?_|refine CE (zb3 m hms) ?_)
      rw[hgk]
     ·rw[show decide ((((m,k):Nat × Nat).2:Int)>0)=true by simp;omega];refine uR ?_;apply EV.drawn 6 kR kR;intro xv yw;(repeat refine' DD ?_);refine' DJ.ofVal (zaa.rem rfl rfl rfl rfl (show ((k:Nat):Int)≠0 by omega)) rfl rfl rfl ?_;rotate_left;(repeat refine' DD ?_);(refine DJ.nil (fun G hG hF=>?_);(case hS|hS2=>rfl));rw[show (((m,k):Nat × Nat).1:Int).tmod (((m,k):Nat × Nat).2:Int)=((m % k:Nat):Int) from zi7 m k];refine uR ?_;refine⟨(k,m % k),⟨rfl,rfl,rfl,trivial⟩,⟨rfl,trivial⟩,rfl,⟨hks,Nat.lt_of_le_of_lt (Nat.mod_le m k) hms,?_⟩,hG,Nat.mod_lt _ oM⟩
      ·dsimp only;rw[←hgk,Nat.gcd_comm m k,Nat.gcd_rec k m,Nat.gcd_comm]
    ·rw[qC hws]
     repeat (first|refine RUN ?_|refine CV (zgR w r hw0 hr0 hw hbm) ?_|refine CE (zgR w r hw0 hr0 hw hbm) ?_)
     rfl
 ·by_cases hlt:c1<c2
  ·rw[zbW hlt,show decide ((-1:Int)<0)=true from rfl];refine uR ?_;exact⟨c2,c1,⟨rfl,rfl,rfl,trivial⟩,⟨rfl,rfl,rfl,trivial⟩,rfl,by omega,h2,h1,Nat.gcd_comm _ _⟩
  ·rw[show decide (zbi c1 c2<0)=false by unfold zbi;rw[if_neg hlt];split <;> rfl];refine uR ?_;exact⟨c1,c2,⟨rfl,rfl,rfl,trivial⟩,⟨rfl,rfl,rfl,trivial⟩,rfl,by omega,h1,h2,rfl⟩
theorem zil (a b:Int) (ha:zeR a) (hb:zeR b):PV prog 106 #[zdy a,zdy b] (zaA (Nat.gcd a.natAbs b.natAbs)) :=
 zqe a.natAbs b.natAbs ha hb _ _ (fun h=>by simp;omega) (fun h=>by simp;omega)
abbrev frV (n:Int) (d:Nat):Value:=.agg #[.bool (decide (n<0)),.int .u64 (lo n.natAbs:Int),.string (zaj n.natAbs),.int .u64 (lo d:Int),.string (zaj d)]
def dk (d:Nat):Nat:=if d=1 then 0 else d
abbrev zab (q:Rat):Value:=frV q.num (dk q.den)
theorem zmI:dk 1=0:=rfl
theorem zrh {d:Nat} (h:d≠1):dk d=d:=if_neg h
theorem zrg (d:Nat):bl (dk d)≤bl d:=by
 unfold dk;split
 ·rw[zbg];omega
 ·exact qH _
theorem zmJ (q:Rat):dk q.den=0↔q.den=1:=by
 have:=q.den_nz;unfold dk;split <;> omega
theorem zre:bl 1=1:=by have:=zjq 0;simpa using this
theorem zhY {n:Nat}:bl n=1↔n=1:=by
 constructor
 ·intro h;have h1:=zes n;rw[h]at h1;have:n≠0:=fun e=>by rw[e,zbg]at h;omega
  omega
 ·rintro rfl;exact zre
theorem zgo (n:Nat):(((bl n:Nat):Int) == 1)=decide (n=1):=by
 by_cases h:n=1
 ·rw[qD h,zhY.2 h];rfl
 ·rw[qC h];have:bl n≠1:=fun e=>h (zhY.1 e);simp;omega
theorem zdc (n:Int):frV n 0=.agg #[.bool (decide (n<0)),.int .u64 (lo n.natAbs:Int),.string (zaj n.natAbs),.int .u64 0,.string ⟨#[]⟩]:=by
 unfold frV;rw[zbu (n:=0) (by decide)];rfl
theorem zhq (n:Int) (d:Nat) (hd:big d):PV prog 108 #[zdy n,zaA d] (frV n (dk d)):=by
 refine PV.of_pc ?_;refine BD func108 ntmps108 ?_
 repeat (first|refine RUN ?_|refine CV (zaX d hd) ?_|refine CE (zaX d hd) ?_)
 rw[zgo];by_cases h:d=1
 ·rw[qD h];refine uR ?_;rw[h,zmI,zdc]
 ·rw[qC h];refine uR ?_;rw[zrh h]
theorem zdA (a b:Nat) (ha:big a) (hb:big b) (h0:b≠0):PV prog 107 #[zaA a,zaA b] (zaA (a / b)):=by
 refine PV.of_pc ?_;refine BD func107 ntmps107 ?_
 repeat (first|refine RUN ?_|refine CV (zaX b hb) ?_|refine CE (zaX b hb) ?_)
 rw[zgo];by_cases h:b=1
 ·rw[qD h];refine uR ?_;rw[h,Nat.div_one]
 ·rw[qC h]
  repeat (first|refine RUN ?_|refine CV (zeb a b h0 ha hb) ?_|refine CE (zeb a b h0 ha hb) ?_)
  rfl
theorem zhr (n:Int) (b:Nat) (hn:zeR n) (hb:big b) (h0:b≠0) (hdv:b ∣ n.natAbs):PV prog 109 #[zdy n,zaA b] (zdy (n / (b:Int))):=by
 have hs:decide (n.sign<0)=decide (n<0):=by rw[decide_eq_decide];exact Int.sign_neg_iff
 have hf:=zbc (decide (n<0)) (n.natAbs / b) (qI (zeH _ _) hn)
 have e:sg (decide (n<0)) (n.natAbs / b)=n / (b:Int):=by
  rw[zni n b hdv];unfold sg;by_cases h:n<0 <;> simp[h]
 rw[e]at hf;refine PV.of_pc ?_;refine BD func109 ntmps109 ?_;refine uR ?_;apply EV.drawn 7 kR kR;intro xv yw;(repeat (first|refine' DD ?_|(refine' DC (za6 n hn) (h:=?_);rotate_left)));rw[hs];(repeat (first|refine' DD ?_|(refine' DC (zcI n) (h:=?_);rotate_left)|(refine' DC (zdA _ _ hn hb h0) (h:=?_);rotate_left)));(refine DJ.nil (fun G hG hF=>?_);(case hS|hS2=>rfl))
 repeat (first|refine RUN ?_|refine CV (hf) ?_|refine CE (hf) ?_)
 rfl
theorem ze8 (n:Int) (d:Nat) (hn:zeR n) (hd:big d) (hnd:big (n.natAbs*d)):PV prog 73 #[zdy n,zaA d] (zdy (n*d)):=by
 have hm:=zgc n (d:Int) hn hd (by show big (n*(d:Int)).natAbs;rw[Int.natAbs_mul];exact hnd);refine PV.of_pc ?_;refine BD func73 ntmps73 ?_;refine uR ?_;apply EV.drawn 3 kR kR;intro xv yw;(repeat (first|refine' DD ?_|(refine' DC (zbc false d hd) (h:=?_);rotate_left)));(refine DJ.nil (fun G hG hF=>?_);(case hS|hS2=>rfl))
 repeat (first|refine RUN ?_|refine CV (hm) ?_|refine CE (hm) ?_)
 rfl
theorem za7 (q:Rat) (h:big q.den):PV prog 71 #[zab q] (.bool (decide (q.den=1))):=by
 refine PV.of_pc ?_;refine BD func71 ntmps71 ?_
 repeat (first|refine RUN ?_|refine CV (zaX (dk q.den) (qI (zrg _) h)) ?_|refine CE (zaX (dk q.den) (qI (zrg _) h)) ?_)
 have e:(((bl (dk q.den):Nat):Int) == 0)=decide (q.den=1):=by
  by_cases h1:q.den=1
  ·rw[qD h1,(zmJ q).2 h1,zbg];rfl
  ·rw[qC h1];have h2:bl (dk q.den)≠0:=fun e=>h1 ((zmJ q).1 (zgp.1 e));simp;omega
 rw[e]
theorem zfs (q:Rat) (h:big q.den):PV prog 74 #[zab q] (zaA q.den):=by
 refine PV.of_pc ?_;refine BD func74 ntmps74 ?_
 repeat (first|refine RUN ?_|refine CV (za7 q h) ?_|refine CE (za7 q h) ?_)
 by_cases h1:q.den=1
 ·rw[qD h1]
  repeat (first|refine RUN ?_|refine CV (zb3 1 (by decide)) ?_|refine CE (zb3 1 (by decide)) ?_)
  rw[h1]
 ·rw[qC h1];refine uR ?_;rw[zrh h1]
theorem zc6 (q:Rat) (h:zeR q.num):PV prog 45 #[zab q] (.int .i64 q.num.sign):=by
 refine PV.of_pc ?_;refine BD func45 ntmps45 ?_
 repeat (first|refine RUN ?_|refine CV (za6 q.num h) ?_|refine CE (za6 q.num h) ?_)
 rfl
theorem zrs (q:Rat) (h:zeR q.num):PV prog 83 #[zab q] (zab (-q)):=by
 refine PV.of_pc ?_;refine BD func83 ntmps83 ?_;refine uR ?_
 (apply EV.drawn 5 kR kR;intro xv yw;(repeat (first|refine' DD ?_|(refine' DC (zdK q.num h) (h:=?_);rotate_left)));refine DJ.nil (fun G hG hF=>?_);(case hS|hS2=>rfl));refine uR ?_;rfl
theorem zgj (z:Int) (h1:-9223372036854775808≤z) (h2:z<9223372036854775808):PV prog 57 #[.int .i64 z] (zab (z:Rat)):=by
 refine PV.of_pc ?_;refine BD func57 ntmps57 ?_
 repeat (first|refine RUN ?_|refine CV (zgT z h1 h2) ?_|refine CE (zgT z h1 h2) ?_)
 show _=frV z 0;rw[zdc]
theorem zit (n:Int) (d:Nat) (hn:zeR n) (hd:big d) (h0:d≠0):PV prog 165 #[zdy n,zaA d] (zab (mkRat n d)):=by
 have hl:=zde n d h0;have hg0:Nat.gcd n.natAbs d≠0:=Nat.gcd_ne_zero_right h0;have hgb:big (Nat.gcd n.natAbs d):=qI (zbA _ _ h0) hd;have hg:=zil n (d:Int) hn hd;have f1:=zhr n (Nat.gcd n.natAbs d) hn hgb hg0 (Nat.gcd_dvd_left ..);have f2:=zdA d (Nat.gcd n.natAbs d) hd hgb hg0;have f3:=zhq (n / (Nat.gcd n.natAbs d:Nat)) (d / Nat.gcd n.natAbs d) (qI (zeH _ _) hd);rw[←hl.1]at f1;rw[←hl.2]at f2;rw[←hl.1,←hl.2]at f3;refine PV.of_pc ?_;refine BD func165 ntmps165 ?_;refine uR ?_
 (apply EV.drawn 5 kR kR;intro xv yw;(repeat (first|refine' DD ?_|(refine' DC (zbc false d hd) (h:=?_);rotate_left)|(refine' DC (hg) (h:=?_);rotate_left)));refine DJ.nil (fun G hG hF=>?_);(case hS|hS2=>rfl));refine uR ?_
 (apply EV.drawn 7 kR kR;intro xv yw;(repeat (first|refine' DD ?_|(refine' DC (f1) (h:=?_);rotate_left)|(refine' DC (f2) (h:=?_);rotate_left)|(refine' DC (f3) (h:=?_);rotate_left)));refine DJ.nil (fun G hG hF=>?_);(case hS|hS2=>rfl));refine uR ?_;rfl
theorem zqs (n d:Int) (hn:zeR n) (hd:zeR d) (h0:d≠0):PV prog 114 #[zdy n,zdy d] (.tuple #[zab (mkRat (if d<0 then -n else n) d.natAbs),.bool true]):=by
 have l1:=zit (-n) d.natAbs (by show big (-n).natAbs;rw[Int.natAbs_neg];exact hn) hd oM;have l2:=zit n d.natAbs hn hd oM;refine PV.of_pc ?_;refine BD func114 ntmps114 ?_
 repeat (first|refine RUN ?_|refine CV (za6 d hd) ?_|refine CE (za6 d hd) ?_)
 rw[show (d.sign == 0)=false by simp[Int.sign_eq_zero_iff_zero,h0]]
 repeat (first|refine RUN ?_|refine CV (za6 d hd) ?_|refine CE (za6 d hd) ?_)
 by_cases h:d<0
 ·rw[qD (Int.sign_neg_iff.2 h),if_pos h]
  repeat (first|refine RUN ?_|refine CV (zdK n hn) ?_|refine CE (zdK n hn) ?_)
  apply EV.drawn 3 kR kR;intro xv yw;(repeat (first|refine' DD ?_|(refine' DC (zcI d) (h:=?_);rotate_left)));(refine DJ.nil (fun G hG hF=>?_);(case hS|hS2=>rfl))
  repeat (first|refine RUN ?_|refine CV (l1) ?_|refine CE (l1) ?_)
  rfl
 ·rw[qC (fun e=>h (Int.sign_neg_iff.1 e)),if_neg h];refine uR ?_;apply EV.drawn 3 kR kR;intro xv yw;(repeat (first|refine' DD ?_|(refine' DC (zcI d) (h:=?_);rotate_left)));(refine DJ.nil (fun G hG hF=>?_);(case hS|hS2=>rfl))
  repeat (first|refine RUN ?_|refine CV (l2) ?_|refine CE (l2) ?_)
  rfl
abbrev frL (n:Int) (d:Nat):List Value:=[.bool (decide (n<0)),.int .u64 (lo n.natAbs:Int),.string (zaj n.natAbs),.int .u64 (lo d:Int),.string (zaj d)]
abbrev sm (q:Rat):Prop:=ht q≤100000000
theorem sm.num {q:Rat} (h:sm q):bl q.num.natAbs≤100000000:=qI (zcd q) h
theorem sm.den {q:Rat} (h:sm q):bl q.den≤100000000:=qI (zcc q) h
theorem zm6 (a b:Rat) (ha:sm a) (hb:sm b):PV prog 81 #[zab a,zab b] (zab (a*b)):=by
 have na:=ha.num;have da:=ha.den;have nb:=hb.num;have db:=hb.den;have bna:zeR a.num:=qI na oM;have bnb:zeR b.num:=qI nb oM;have bda:big a.den:=qI da oM;have bdb:big b.den:=qI db oM;have hm:=zqC a b _ _ rfl rfl;generalize hg:Nat.gcd a.num.natAbs b.den=g at hm;generalize hh:Nat.gcd b.num.natAbs a.den=h at hm;have hg0:g≠0:=by rw[←hg];exact Nat.gcd_ne_zero_right b.den_nz
 have hh0:h≠0:=by rw[←hh];exact Nat.gcd_ne_zero_right a.den_nz
 have bg:big g:=by rw[←hg];exact qI (zbA _ _ b.den_nz) bdb
 have bh:big h:=by rw[←hh];exact qI (zbA _ _ a.den_nz) bda
 have g1:=zil a.num (b.den:Int) bna bdb;have g2:=zil b.num (a.den:Int) bnb bda;rw[Int.natAbs_natCast,hg]at g1;rw[Int.natAbs_natCast,hh]at g2;have p1:=zhr a.num g bna bg hg0 (by rw[←hg];exact Nat.gcd_dvd_left ..);have p2:=zhr b.num h bnb bh hh0 (by rw[←hh];exact Nat.gcd_dvd_left ..);have b1:bl (a.num / (g:Int)).natAbs≤100000000:=qI (zbE (zca _ _)) na;have b2:bl (b.num / (h:Int)).natAbs≤100000000:=qI (zbE (zca _ _)) nb;have b3:bl (a.den / h)≤100000000:=qI (zeH _ _) da;have b4:bl (b.den / g)≤100000000:=qI (zeH _ _) db
 have m1:=zgc (a.num / (g:Int)) (b.num / (h:Int)) (qI b1 oM) (qI b2 oM) (by
  show big (_*_:Int).natAbs;rw[Int.natAbs_mul];have:=zcM (a.num / (g:Int)).natAbs (b.num / (h:Int)).natAbs;show bl _≤_;omega)
 have m2:=zfK (a.den / h) (b.den / g) (qI b3 oM) (qI b4 oM);have pk:=zhq (a*b).num (a*b).den (by rw[hm.2];have:=zcM (a.den / h) (b.den / g);show bl _≤_;omega);have o1:=zdA a.den h bda bh hh0;have o2:=zdA b.den g bdb bg hg0;rw[←hm.1]at m1;rw[←hm.2]at m2;have w1:=za7 a bda;have w2:=za7 b bdb;refine PV.of_pc ?_;refine BD func81 ntmps81 ?_
 repeat (first|refine RUN ?_|refine CV (w1) ?_|refine CE (w1) ?_)
 refine EVL.meet (fun env' bx' H'=>zdM env' [(12,.v (.bool (decide (a.den=1∧b.den=1)))),(4,.p 4 0),(3,.p 3 0),(2,.p 2 0)]∧zdQ bx' [(4,50,Tryz.te50.zero),(3,50,frL b.num (dk b.den)),(2,50,frL a.num (dk a.den))]∧H'=⟨fun _=>none,[],⟨fun _=>none,[]⟩⟩) ?_ ?_
 ·rintro env' bx' H' _ ⟨he,hbx,rfl⟩;refine EV.less _ _ he hbx rfl ?_;by_cases hab:a.den=1∧b.den=1
  ·rw[qD hab];have e1:g=1:=by rw[←hg,hab.2,Nat.gcd_one_right]
   have e2:h=1:=by rw[←hh,hab.1,Nat.gcd_one_right]
   have e3:(a*b).den=1:=by rw[hm.2,hab.1,hab.2,e1,e2]
   rw[e1,e2]at m1;simp only[Int.natCast_one,Int.ediv_one]at m1
   repeat (first|refine RUN ?_|refine CV (m1) ?_|refine CE (m1) ?_)
   show _=frV (a*b).num (dk (a*b).den);rw[e3,zmI,zdc]
  ·rw[qC hab];refine uR ?_;have d1:=zfs a bda;have d2:=zfs b bdb;have s1:=zbc false a.den bda;have s2:=zbc false b.den bdb
   (apply EV.drawn 7 kR kR;intro xv yw;(repeat (first|refine' DD ?_|(refine' DC (d2) (h:=?_);rotate_left)|(refine' DC (s2) (h:=?_);rotate_left)|(refine' DC (g1) (h:=?_);rotate_left)));refine DJ.nil (fun G hG hF=>?_);(case hS|hS2=>rfl));refine uR ?_
   (apply EV.drawn 7 kR kR;intro xv yw;(repeat (first|refine' DD ?_|(refine' DC (d1) (h:=?_);rotate_left)|(refine' DC (s1) (h:=?_);rotate_left)|(refine' DC (g2) (h:=?_);rotate_left)));refine DJ.nil (fun G hG hF=>?_);(case hS|hS2=>rfl));refine uR ?_;apply EV.drawn 16 kR kR;intro xv yw;(repeat (first|refine' DD ?_|(refine' DC (p1) (h:=?_);rotate_left)|(refine' DC (p2) (h:=?_);rotate_left)|(refine' DC (m1) (h:=?_);rotate_left)|(refine' DC (d1) (h:=?_);rotate_left)|(refine' DC (d2) (h:=?_);rotate_left)|(refine' DC (o1) (h:=?_);rotate_left)|(refine' DC (o2) (h:=?_);rotate_left)));(refine DJ.nil (fun G hG hF=>?_);(case hS|hS2=>rfl))
   repeat (first|refine RUN ?_|refine CV (o2) ?_|refine CV (m2) ?_|refine CV (pk) ?_|refine CE (o2) ?_|refine CE (m2) ?_|refine CE (pk) ?_)
   rfl
 ·by_cases ha1:a.den=1
  ·rw[qD ha1]
   repeat (first|refine RUN ?_|refine CV (w2) ?_|refine CE (w2) ?_)
   refine⟨⟨?_,rfl,rfl,rfl,trivial⟩,⟨rfl,rfl,rfl,trivial⟩,rfl⟩;simp[ha1];rfl
  ·rw[qC ha1];refine uR ?_;refine⟨⟨?_,rfl,rfl,rfl,trivial⟩,⟨rfl,rfl,rfl,trivial⟩,rfl⟩;simp[ha1];rfl
theorem zdR (a b:Rat) (ha:sm a) (hb:sm b):PV prog 56 #[zab a,zab b] (zab (a+b)):=by
 have na:=ha.num;have da:=ha.den;have nb:=hb.num;have db:=hb.den;have bna:zeR a.num:=qI na oM;have bnb:zeR b.num:=qI nb oM;have bda:big a.den:=qI da oM;have bdb:big b.den:=qI db oM;have hm:=zqB a b _ _ _ _ _ rfl rfl rfl rfl rfl;generalize hg:Nat.gcd a.den b.den=g at hm;have hg0:g≠0:=by rw[←hg];exact Nat.gcd_ne_zero_right b.den_nz
 have bgl:bl g≤100000000:=by rw[←hg];exact qI (zbA _ _ b.den_nz) db
 have bg:big g:=qI bgl oM;have g1:=zil (a.den:Int) (b.den:Int) bda bdb;rw[Int.natAbs_natCast,Int.natAbs_natCast,hg]at g1;have o1:=zdA a.den g bda bg hg0;have o2:=zdA b.den g bdb bg hg0;have b1:bl (a.den / g)≤100000000:=qI (zeH _ _) da;have b2:bl (b.den / g)≤100000000:=qI (zeH _ _) db
 have hone:a.den=1∧b.den=1→g=1∧a.den / g=1∧b.den / g=1:=fun h=>by
  have:g=1:=by rw[←hg,h.1,h.2];rfl
  rw[this,h.1,h.2];exact⟨rfl,rfl,rfl⟩
 generalize hdown:a.den / g=down at *
 generalize hother:b.den / g=other at *
 have c1:=zcM a.num.natAbs other;have c2:=zcM b.num.natAbs down;have t1:=ze8 a.num other bna (qI b2 oM) (by show bl _≤_;omega);have t2:=ze8 b.num down bnb (qI b1 oM) (by show bl _≤_;omega);have c1':bl (a.num*(other:Int)).natAbs≤200000000:=by rw[Int.natAbs_mul];simp;omega
 have c2':bl (b.num*(down:Int)).natAbs≤200000000:=by rw[Int.natAbs_mul];simp;omega
 have c3:=zms (a.num*(other:Int)).natAbs (b.num*(down:Int)).natAbs;have ad:=zga (a.num*(other:Int)) (b.num*(down:Int)) (qI c1' oM) (qI c2' oM) (by show bl _≤_;omega)
 have bup:bl (a.num*(other:Int)+b.num*(down:Int)).natAbs≤200000001:=by
  have:=zdT (a.num*(other:Int)) (b.num*(down:Int));omega
 generalize hup:a.num*(other:Int)+b.num*(down:Int)=up at *
 generalize hh:Nat.gcd up.natAbs g=h at hm;have hh0:h≠0:=by rw[←hh];exact Nat.gcd_ne_zero_right hg0
 have bh:big h:=by rw[←hh];exact qI (zbA _ _ hg0) bg
 have g2:=zil up (g:Int) (qI bup oM) bg;rw[Int.natAbs_natCast,hh]at g2;have p1:=zhr up h (qI bup oM) bh hh0 (by rw[←hh];exact Nat.gcd_dvd_left ..);have o3:=zdA b.den h bdb bh hh0;have b4:bl (b.den / h)≤100000000:=qI (zeH _ _) db;have m2:=zfK down (b.den / h) (qI b1 oM) (qI b4 oM);have pk:=zhq (a+b).num (a+b).den (by rw[hm.2];have:=zcM down (b.den / h);show bl _≤_;omega);rw[←hm.1]at p1;rw[←hm.2]at m2;have w1:=za7 a bda;have w2:=za7 b bdb;refine PV.of_pc ?_;refine BD func56 ntmps56 ?_
 repeat (first|refine RUN ?_|refine CV (w1) ?_|refine CE (w1) ?_)
 refine EVL.meet (fun env' bx' H'=>zdM env' [(15,.v (.bool (decide (a.den=1∧b.den=1)))),(4,.p 4 0),(3,.p 3 0),(2,.p 2 0)]∧zdQ bx' [(4,50,Tryz.te50.zero),(3,50,frL b.num (dk b.den)),(2,50,frL a.num (dk a.den))]∧H'=⟨fun _=>none,[],⟨fun _=>none,[]⟩⟩) ?_ ?_
 ·rintro env' bx' H' _ ⟨he,hbx,rfl⟩;refine EV.less _ _ he hbx rfl ?_;by_cases hab:a.den=1∧b.den=1
  ·rw[qD hab];obtain⟨e1,e2,e3⟩:=hone hab;have e4:h=1:=by rw[←hh,e1,Nat.gcd_one_right]
   have e5:(a+b).den=1:=by rw[hm.2,e2,hab.2,e4]
   have e6:(a+b).num=a.num+b.num:=by rw[hm.1,e4,←hup,e2,e3];simp
   have c4:=zms a.num.natAbs b.num.natAbs;have ad':=zga a.num b.num bna bnb (by show bl _≤_;omega)
   repeat (first|refine RUN ?_|refine CV (ad') ?_|refine CE (ad') ?_)
   show _=frV (a+b).num (dk (a+b).den);rw[e5,zmI,zdc,e6]
  ·rw[qC hab];refine uR ?_;have d1:=zfs a bda;have d2:=zfs b bdb;have s1:=zbc false a.den bda;have s2:=zbc false b.den bdb;have s3:=zbc false g bg
   (apply EV.drawn 8 kR kR;intro xv yw;(repeat (first|refine' DD ?_|(refine' DC (d1) (h:=?_);rotate_left)|(refine' DC (s1) (h:=?_);rotate_left)|(refine' DC (d2) (h:=?_);rotate_left)|(refine' DC (s2) (h:=?_);rotate_left)|(refine' DC (g1) (h:=?_);rotate_left)));refine DJ.nil (fun G hG hF=>?_);(case hS|hS2=>rfl));refine uR ?_
   (apply EV.drawn 10 kR kR;intro xv yw;(repeat (first|refine' DD ?_|(refine' DC (d1) (h:=?_);rotate_left)|(refine' DC (d2) (h:=?_);rotate_left)|(refine' DC (o1) (h:=?_);rotate_left)|(refine' DC (o2) (h:=?_);rotate_left)));refine DJ.nil (fun G hG hF=>?_);(case hS|hS2=>rfl));refine uR ?_
   (apply EV.drawn 10 kR kR;intro xv yw;(repeat (first|refine' DD ?_|(refine' DC (t1) (h:=?_);rotate_left)|(refine' DC (t2) (h:=?_);rotate_left)|(refine' DC (ad) (h:=?_);rotate_left)));refine DJ.nil (fun G hG hF=>?_);(case hS|hS2=>rfl));refine uR ?_
   (apply EV.drawn 5 kR kR;intro xv yw;(repeat (first|refine' DD ?_|(refine' DC (s3) (h:=?_);rotate_left)|(refine' DC (g2) (h:=?_);rotate_left)));refine DJ.nil (fun G hG hF=>?_);(case hS|hS2=>rfl));refine uR ?_
   (apply EV.drawn 10 kR kR;intro xv yw;(repeat (first|refine' DD ?_|(refine' DC (p1) (h:=?_);rotate_left)|(refine' DC (d2) (h:=?_);rotate_left)|(refine' DC (o3) (h:=?_);rotate_left)|(refine' DC (m2) (h:=?_);rotate_left)|(refine' DC (pk) (h:=?_);rotate_left)));refine DJ.nil (fun G hG hF=>?_);(case hS|hS2=>rfl));refine uR ?_;rfl
 ·by_cases ha1:a.den=1
  ·rw[qD ha1]
   repeat (first|refine RUN ?_|refine CV (w2) ?_|refine CE (w2) ?_)
   refine⟨⟨?_,rfl,rfl,rfl,trivial⟩,⟨rfl,rfl,rfl,trivial⟩,rfl⟩;simp[ha1];rfl
  ·rw[qC ha1];refine uR ?_;refine⟨⟨?_,rfl,rfl,rfl,trivial⟩,⟨rfl,rfl,rfl,trivial⟩,rfl⟩;simp[ha1];rfl
theorem zgO (a b:Rat) (ha:sm a) (hb:sm b):PV prog 24 #[zab a,zab b] (zab (a-b)):=by
 have h1:=zrs b (qI hb.num oM);have h2:=zdR a (-b) ha (by show ht (-b)≤_;rw[zmT];exact hb);rw[←Rat.sub_eq_add_neg]at h2;refine PV.of_pc ?_;refine BD func24 ntmps24 ?_;refine uR ?_
 (apply EV.drawn 4 kR kR;intro xv yw;(repeat (first|refine' DD ?_|(refine' DC (h1) (h:=?_);rotate_left)|(refine' DC (h2) (h:=?_);rotate_left)));refine DJ.nil (fun G hG hF=>?_);(case hS|hS2=>rfl));refine uR ?_;rfl
theorem zqk (b:Rat) (h:b.num≠0):frV (sg (decide (b.num<0)) b.den) (dk b.num.natAbs)=zab b⁻¹:=by
 have e1:b⁻¹.num=sg (decide (b.num<0)) b.den:=by
  rw[Rat.num_inv];unfold sg;rcases Int.lt_or_lt_of_ne h with h1 | h1
  ·simp[h1,Int.sign_eq_neg_one_of_neg h1]
  ·rw[Int.sign_eq_one_of_pos h1,qC (by omega)];simp
 have e2:b⁻¹.den=b.num.natAbs:=by
  rw[Rat.den_inv,if_neg];exact h
 rw[←e1,←e2]
theorem zih (a b:Rat) (ha:sm a) (hb:sm b) (h0:b≠0):PV prog 126 #[zab a,zab b] (.tuple #[zab (a / b),.bool true]):=by
 have hn0:b.num≠0:=fun e=>h0 (Rat.num_eq_zero.1 e);have bnb:zeR b.num:=qI hb.num oM;have bdb:big b.den:=qI hb.den oM;have hm:=zm6 a b⁻¹ ha (qI (zpx b) hb);rw[←Rat.div_def]at hm;have hp:=zhq (sg (decide (b.num<0)) b.den) b.num.natAbs bnb;rw[zqk b hn0]at hp;have s1:=zbc (decide (b.num<0)) b.den bdb;have sg1:=zc6 b bnb;have ab:=zcI b.num;have d2:=zfs b bdb;refine PV.of_pc ?_;refine BD func126 ntmps126 ?_
 repeat (first|refine RUN ?_|refine CV (sg1) ?_|refine CE (sg1) ?_)
 rw[show (b.num.sign == 0)=false by simp[Int.sign_eq_zero_iff_zero,hn0]];refine uR ?_;apply EV.drawn 11 kR kR;intro xv yw;(repeat (first|refine' DD ?_|(refine' DC (sg1) (h:=?_);rotate_left)));rw[show decide (b.num.sign<0)=decide (b.num<0) by rw[decide_eq_decide];exact Int.sign_neg_iff];(repeat (first|refine' DD ?_|(refine' DC (d2) (h:=?_);rotate_left)|(refine' DC (s1) (h:=?_);rotate_left)|(refine' DC (ab) (h:=?_);rotate_left)|(refine' DC (hp) (h:=?_);rotate_left)));(refine DJ.nil (fun G hG hF=>?_);(case hS|hS2=>rfl))
 repeat (first|refine RUN ?_|refine CV (hm) ?_|refine CE (hm) ?_)
 rfl
theorem zjA (a:Rat):PV prog 126 #[zab a,zab 0] (.tuple #[zab 0,.bool false]):=by
 have sg1:=zc6 0 (by show bl 0≤_;rw[zbg];omega);refine PV.of_pc ?_;refine BD func126 ntmps126 ?_
 repeat (first|refine RUN ?_|refine CV (sg1) ?_|refine CE (sg1) ?_)
 show _=Value.tuple #[frV 0 0,.bool false];rw[zdc,show (0:Int).natAbs=0 from rfl,zbu (n:=0) (by decide)];rfl
theorem zlL (x y p q:Int) (hp:0<p) (hq:0<q) (h:x.sign≠y.sign):zgk x y=zgk (x*p) (y*q):=by
 have f1:x<0→x*p<0:=fun h=>Int.mul_neg_of_neg_of_pos h hp;have f2:0<x→0<x*p:=fun h=>Int.mul_pos h hp;have f3:y<0→y*q<0:=fun h=>Int.mul_neg_of_neg_of_pos h hq;have f4:0<y→0<y*q:=fun h=>Int.mul_pos h hq;have f5:x=0→x*p=0:=fun h=>by rw[h,Int.zero_mul]
 have f6:y=0→y*q=0:=fun h=>by rw[h,Int.zero_mul]
 generalize x*p=u at *
 generalize y*q=v at *
 rcases Int.lt_trichotomy x 0 with hx | hx | hx <;> rcases Int.lt_trichotomy y 0 with hy | hy | hy
 ·exact absurd (by rw[Int.sign_eq_neg_one_of_neg hx,Int.sign_eq_neg_one_of_neg hy]) h
 ·unfold zgk;rw[if_pos oM,if_pos (by have:=f1 hx;have:=f6 hy;omega)]
 ·unfold zgk;rw[if_pos oM,if_pos (by have:=f1 hx;have:=f4 hy;omega)]
 ·unfold zgk;rw[if_neg oM,if_pos oM,if_neg (by have:=f5 hx;have:=f3 hy;omega),if_pos (by have:=f5 hx;have:=f3 hy;omega)]
 ·exact absurd (by rw[hx,hy]) h
 ·unfold zgk;rw[if_pos oM,if_pos (by have:=f5 hx;have:=f4 hy;omega)]
 ·unfold zgk;rw[if_neg oM,if_pos oM,if_neg (by have:=f2 hx;have:=f3 hy;omega),if_pos (by have:=f2 hx;have:=f3 hy;omega)]
 ·unfold zgk;rw[if_neg oM,if_pos oM,if_neg (by have:=f2 hx;have:=f6 hy;omega),if_pos (by have:=f2 hx;have:=f6 hy;omega)]
 ·exact absurd (by rw[Int.sign_eq_one_of_pos hx,Int.sign_eq_one_of_pos hy]) h
theorem znG (a b:Rat) (h:a.num.sign≠b.num.sign):zgk a.num b.num=zcA a b:=by
 have:=Nat.pos_of_ne_zero a.den_nz;have:=Nat.pos_of_ne_zero b.den_nz;rw[zjP];exact zlL _ _ _ _ oM oM h
theorem zcN (a b:Rat) (ha:sm a) (hb:sm b):PV prog 18 #[zab a,zab b] (.int .i64 (zcA a b)):=by
 have na:=ha.num;have da:=ha.den;have nb:=hb.num;have db:=hb.den;have bna:zeR a.num:=qI na oM;have bnb:zeR b.num:=qI nb oM;have bda:big a.den:=qI da oM;have bdb:big b.den:=qI db oM;have w1:=za7 a bda;have w2:=za7 b bdb;have s1:=zc6 a bna;have s2:=zc6 b bnb;have d1:=zfs a bda;have d2:=zfs b bdb;have c1:=zcM a.num.natAbs b.den;have c2:=zcM b.num.natAbs a.den;have t1:=ze8 a.num b.den bna bdb (by show bl _≤_;omega);have t2:=ze8 b.num a.den bnb bda (by show bl _≤_;omega);have k1:=zgb a.num b.num bna bnb;have k2:=zgb (a.num*(b.den:Int)) (b.num*(a.den:Int)) (by show bl _≤_;rw[Int.natAbs_mul];simp;omega) (by show bl _≤_;rw[Int.natAbs_mul];simp;omega);rw[←zjP]at k2;refine PV.of_pc ?_;refine BD func18 ntmps18 ?_;refine uR ?_;by_cases ha1:a.den=1
 ·rw[qD ha1]at w1;by_cases hb1:b.den=1
  ·rw[qD hb1]at w2;have e:zgk a.num b.num=zcA a b:=by rw[zjP,ha1,hb1];simp
   rw[e]at k1;apply EV.drawn 10 kR kR;intro xv yw;(repeat (first|refine' DD ?_|(refine' DC (w1) (h:=?_);rotate_left)|(refine' DC (w2) (h:=?_);rotate_left)|(refine' DC (s1) (h:=?_);rotate_left)|(refine' DC (s2) (h:=?_);rotate_left)));(refine DJ.nil (fun G hG hF=>?_);(case hS|hS2=>rfl))
   repeat (first|refine RUN ?_|refine CV (k1) ?_|refine CE (k1) ?_)
   rfl
  ·rw[qC hb1]at w2;apply EV.drawn 10 kR kR;intro xv yw;(repeat (first|refine' DD ?_|(refine' DC (w1) (h:=?_);rotate_left)|(refine' DC (w2) (h:=?_);rotate_left)|(refine' DC (s1) (h:=?_);rotate_left)|(refine' DC (s2) (h:=?_);rotate_left)));(refine DJ.nil (fun G hG hF=>?_);(case hS|hS2=>rfl))
   repeat (first|refine RUN ?_|refine CV (s1) ?_|refine CV (s2) ?_|refine CE (s1) ?_|refine CE (s2) ?_)
   by_cases hs:a.num.sign=b.num.sign
   ·rw[show (a.num.sign != b.num.sign)=false by simp[hs]];refine uR ?_;apply EV.drawn 9 kR kR;intro xv yw;(repeat (first|refine' DD ?_|(refine' DC (d2) (h:=?_);rotate_left)|(refine' DC (t1) (h:=?_);rotate_left)|(refine' DC (d1) (h:=?_);rotate_left)));(refine DJ.nil (fun G hG hF=>?_);(case hS|hS2=>rfl))
    repeat (first|refine RUN ?_|refine CV (t2) ?_|refine CV (k2) ?_|refine CE (t2) ?_|refine CE (k2) ?_)
    rfl
   ·rw[show (a.num.sign != b.num.sign)=true by simp[hs]]
    repeat (first|refine RUN ?_|refine CV (k1) ?_|refine CE (k1) ?_)
    rw[znG a b hs]
 ·rw[qC ha1]at w1;apply EV.drawn 10 kR kR;intro xv yw;(repeat (first|refine' DD ?_|(refine' DC (w1) (h:=?_);rotate_left)|(refine' DC (w2) (h:=?_);rotate_left)|(refine' DC (s1) (h:=?_);rotate_left)|(refine' DC (s2) (h:=?_);rotate_left)));(refine DJ.nil (fun G hG hF=>?_);(case hS|hS2=>rfl))
  repeat (first|refine RUN ?_|refine CV (s1) ?_|refine CV (s2) ?_|refine CE (s1) ?_|refine CE (s2) ?_)
  by_cases hs:a.num.sign=b.num.sign
  ·rw[show (a.num.sign != b.num.sign)=false by simp[hs]];refine uR ?_;apply EV.drawn 9 kR kR;intro xv yw;(repeat (first|refine' DD ?_|(refine' DC (d2) (h:=?_);rotate_left)|(refine' DC (t1) (h:=?_);rotate_left)|(refine' DC (d1) (h:=?_);rotate_left)));(refine DJ.nil (fun G hG hF=>?_);(case hS|hS2=>rfl))
   repeat (first|refine RUN ?_|refine CV (t2) ?_|refine CV (k2) ?_|refine CE (t2) ?_|refine CE (k2) ?_)
   rfl
  ·rw[show (a.num.sign != b.num.sign)=true by simp[hs]]
   repeat (first|refine RUN ?_|refine CV (k1) ?_|refine CE (k1) ?_)
   rw[znG a b hs]
theorem zc4 (z m:Int) (hz:-9223372036854775808≤z∧z<9223372036854775808) (h0:0<m) (hm:m<4611686018427387904):PV prog 26 #[.int .i64 z,.int .i64 m] (.int .i64 (z % m)):=by
 have h1:=Int.tmod_lt_of_pos z h0;have h2:=Int.lt_tmod_of_pos z h0
 have e:z % m=if z.tmod m<0 then z.tmod m+m else z.tmod m:=by
  have hq:=Int.mul_tdiv_add_tmod z m
  have e1:z % m=z.tmod m % m:=by
   conv=>lhs;rw[←hq]
   rw[Int.mul_add_emod_self_left]
  rw[e1];by_cases ht:z.tmod m<0
  ·rw[if_pos ht,←Int.add_emod_right,Int.emod_eq_of_lt oM (by omega)]
  ·rw[if_neg ht,Int.emod_eq_of_lt oM h1]
 refine PV.of_pc ?_;refine BD func26 ntmps26 ?_;refine uR ?_;refine EVL.remI rfl rfl rfl rfl rfl rfl oM ?_;generalize z.tmod m=t at *
 refine uR ?_;by_cases ht:t<0
 ·rw[if_pos ht]at e;rw[qD ht];refine uR ?_;rw[e,IntKind.wrap_i64];congr 1;omega
 ·rw[if_neg ht]at e;rw[qC ht];refine uR ?_;rw[e]
theorem zgK {H:Hp} {v:Value} {n:Nat} (h:RN H v n) (hn:rsm n):PC prog 116 #[v] H fun r _=>r=zaA n:=by
 have hol:(ziD n).length≤200000000:=by
  rw[zcz];have:=zaM 8 n oM;rw[show (2:Nat) ^ 8=256 by decide]at this;rw[this];have:bl n≤800000000:=hn;omega
 refine BD func116 ntmps116 ?_;refine uR ?_;refine vA (zjU h hn) ?_;rintro r G hr hG;have hf:=zc1 hr (zkJ n) hol;rw[zoM]at hf
 repeat (first|refine RUN ?_|refine CV (hf) ?_|refine CE (hf) ?_)
 rfl
theorem zqi {H:Hp} {v:Value} {z:Int} (h:RI H v z) (hz:rsm z.natAbs):PC prog 115 #[v] H fun r _=>r=zdy z:=by
 obtain⟨sa,sl,sc,rfl,hs⟩:=id h;have hf:=zbc (decide (z<0)) z.natAbs (qI hz oM);rw[zry]at hf;refine BD func115 ntmps115 ?_;refine uR ?_;apply EV.drawn 6 kR kR;intro xv yw;(repeat refine' DD ?_);refine' vC (cO func116) (fun G hG hd=>zgK (RN.mono hs hG) hz) ?_;rotate_left;(repeat (first|refine' DD ?_|(refine' DC (hf) (h:=?_);rotate_left)));(refine DJ.nil (fun G hG hF=>?_);(case hS|hS2=>rfl));refine uR ?_;rfl
theorem zqh {H:Hp} {v:Value} {q:Rat} (h:RQ H v q) (hq:rq q):PC prog 63 #[v] H fun r _=>r=zab q:=by
 obtain⟨sa,sl,sc,ta,tl,tc,rfl,hs,ht⟩:=id h;have hn:=hq.num;have hd':=hq.den;have hf:=zbc false q.den (qI hd' oM);rw[show sg false q.den=(q.den:Int) from rfl]at hf;have hm:=zqs q.num (q.den:Int) (qI hn oM) (qI hd' oM) (by have:=q.den_nz;omega);rw[if_neg oM,Int.natAbs_natCast,Rat.mkRat_self]at hm;refine BD func63 ntmps63 ?_;refine uR ?_;apply EV.drawn 14 kR kR;intro xv yw;(repeat refine' DD ?_);refine' vC (cO func115) (fun G hG hd=>zqi (RQ.rnum (RN.mono hs hG)) hn) ?_;rotate_left;(repeat refine' DD ?_);refine' vC (cO func116) (fun G hG hd=>zgK (RN.mono ht hG) hd') ?_;rotate_left;(repeat (first|refine' DD ?_|(refine' DC (hf) (h:=?_);rotate_left)|(refine' DC (hm) (h:=?_);rotate_left)));(refine DJ.nil (fun G hG hF=>?_);(case hS|hS2=>rfl));refine uR ?_;rfl
def zqA (j:Nat):Int:=[1,1,1,2,3,4].getD j 1
def zno (z:Int):Rat:=Rat.divInt (z % 41-20) (zqA (z.tdiv 41 % 6).toNat)
theorem zgI (j:Nat):1≤zqA j∧zqA j≤4:=by
 unfold zqA;rcases j with _ | _ | _ | _ | _ | _ | j <;> simp[qB]
theorem zr4 {H:Hp} (z:Int) (hz:-9223372036854775808≤z∧z<9223372036854775808):PC prog 27 #[.int .i64 z] H fun r H'=>RQ H' r (zno z):=by
 have hq:-9223372036854775808≤z.tdiv 41∧z.tdiv 41<9223372036854775808:=by
  by_cases h:0≤z
  ·rw[Int.tdiv_eq_ediv_of_nonneg h];omega
  ·have e:z.tdiv 41 = -((-z) / 41):=by rw[←Int.tdiv_eq_ediv_of_nonneg oM,Int.neg_tdiv,Int.neg_neg]
   rw[e];omega
 have hqw:IntKind.i64.wrap (z.tdiv 41)=z.tdiv 41:=by rw[IntKind.wrap_i64];omega
 have h1:=zc4 z 41 hz oM oM;have h2:=zc4 (z.tdiv 41) 6 hq oM oM;have m1:=Int.emod_nonneg z (show (41:Int)≠0 by omega);have m2:=Int.emod_lt_of_pos z (show (0:Int)<41 by omega);obtain⟨j,hj⟩:=Int.eq_ofNat_of_zero_le (Int.emod_nonneg (z.tdiv 41) (show (6:Int)≠0 by omega));have m3:=Int.emod_lt_of_pos (z.tdiv 41) (show (0:Int)<6 by omega);have hsub:IntKind.i64.wrap (z % 41-20)=z % 41-20:=by rw[IntKind.wrap_i64];omega
 have hrd:=zgI j;have hrn:zno z=Rat.divInt (z % 41-20) (zqA j):=by unfold zno;rw[hj];rfl
 rw[hrn]
 have hidx:([.int .i64 1,.int .i64 1,.int .i64 1,.int .i64 2,.int .i64 3,.int .i64 4]:List Value)[j]?=some (.int .i64 (zqA j)):=by
  have hj6:j<6:=by omega
  rcases j with _|_|_|_|_|_|j <;> first|rfl|omega
 have ho:=fun G:Hp=>zlV (H:=G) (z % 41-20) (zqA j) oM oM oM oM oM;rw[hj]at h2;refine BD func27 ntmps27 ?_
 repeat (first|refine RUN ?_|refine CV (h1) ?_|refine CE (h1) ?_)
 rw[hsub];refine EVL.buildArr rfl rfl rfl rfl rfl (cs:=[.int .i64 1,.int .i64 1,.int .i64 1,.int .i64 2,.int .i64 3,.int .i64 4]) kR ?_;refine uR ?_;rw[hqw]
 repeat (first|refine RUN ?_|refine CV (h2) ?_|refine CE (h2) ?_)
 refine EVL.indexArr (e:=2) (len:=6) tO rfl rfl rfl rfl kR rfl rfl rfl rfl rfl j rfl (show j<6 by omega) hidx ?_;refine vA (ho H) ?_;rintro r G ⟨ra,rl,rc,xa,xl,xc,rfl,hn,hd⟩ hG;refine uR ?_;exact⟨ra,rl,rc,xa,xl,xc,rfl,hn,hd⟩
def QL (H:Hp) (v:Value) (l:List Rat):Prop:=SlC H v l.length 5 (l.flatMap fun q=>zah (zab q))
def RL (H:Hp) (v:Value) (l:List Rat):Prop:=∃vs:List Value,vs.length=l.length∧(∀(j:Nat) (x:Value) (q:Rat),vs[j]?=some x→l[j]?=some q→RQ H x q)∧SlC H v l.length 3 (vs.flatMap zah)
theorem QL.mono {H G:Hp} {v:Value} {l:List Rat} (h:QL H v l) (k:H.Le G):QL G v l:=SlC.mono h k
theorem RL.mono {H G:Hp} {v:Value} {l:List Rat} (h:RL H v l) (k:H.Le G):RL G v l:=by
 obtain⟨vs,h1,h2,h3⟩:=h;exact⟨vs,h1,fun j x q e1 e2=>(h2 j x q e1 e2).mono k,h3.mono k⟩
theorem QL.at {H:Hp} {v:Value} {l:List Rat} {j:Nat} {q:Rat} (hj:l[j]?=some q):((l.flatMap fun q=>zah (zab q)).drop (j*5)).take 5=zah (zab q):=ze0 _ 5 l (fun _ _=>rfl) j q hj
theorem RQ.cells {H:Hp} {x:Value} {q:Rat} (h:RQ H x q):(zah x).length=3∧zgg (zah x)=true:=by
 obtain⟨_,_,_,_,_,_,rfl,_,_⟩:=h;exact⟨rfl,rfl⟩
theorem RL.at {H:Hp} {v:Value} {l:List Rat} (h:RL H v l) {j:Nat} {q:Rat} (hj:l[j]?=some q):∃(vs:List Value) (x:Value),SlC H v l.length 3 (vs.flatMap zah)∧((vs.flatMap zah).drop (j*3)).take 3=zah x∧RQ H x q:=by
 obtain⟨vs,h1,h2,h3⟩:=h;obtain⟨hl,rfl⟩:=qE.1 hj;have hv:vs[j]?=some (vs[j]'(by omega)):=qA oM
 have hall:∀x,x∈vs→(zah x).length=3:=fun x hx=>by
  obtain⟨i,hi,rfl⟩:=List.getElem_of_mem hx;exact(h2 i _ _ (qA hi) (qA oM)).cells.1
 exact⟨vs,_,h3,ze0 _ 3 vs hall j _ hv,h2 j _ _ hv hj⟩
theorem zat {α:Type} {l:List α} {i:Nat} {x:α} (h:l[i]?=some x):l.take (i+1)=l.take i++[x]:=by
 obtain⟨hl,rfl⟩:=qE.1 h;exact List.take_succ_eq_append_getElem hl
theorem RL.val {H:Hp} {v:Value} {l:List Rat} (h:RL H v l):∃a cap,v=.slice a l.length cap:=by
 obtain⟨vs,_,_,h3⟩:=h;exact SlC.val h3
theorem zhi {H:Hp} {v:Value} {l:List Rat} (h:RL H v l) (hl:l.length≤100000000) (hq:∀q,q∈l→rq q):PC prog 41 #[v] H fun r H'=>QL H' r l:=by
 obtain⟨a,cap,rfl⟩:=RL.val h;refine BD func41 ntmps41 ?_;refine uR ?_;refine EV.loopK (ι:=Nat × Value × Ows) [0] [] (fun q=>[(3,.v q.2.1),(4,.v (.int .i64 (q.1:Int)))]) (fun _=>[]) (fun q=>q.2.2) (fun q G=>q.1≤l.length∧zaW 50 5 q.2.1 q.1 ((l.take q.1).flatMap fun q=>zah (zab q)) q.2.2) (fun q=>l.length-q.1) ((0,.slice none 0 0,[])) rfl rfl ⟨rfl,rfl,trivial⟩ trivial rfl (fun _=>rfl) (⟨Nat.zero_le _,zaW.nil _ _⟩) ?_;rintro⟨i,w,ow⟩ G1 hG1 ⟨hi,hown⟩;dsimp only at hi hown;refine uR ?_;refine EV.cond rfl (fun hlt=>?_) (fun hlt=>?_)
 ·simp only[nN]at hlt;obtain⟨q,hqi⟩:=gE hlt;obtain⟨vs,x,hs,hc,hx⟩:=(h.mono hG1).at hqi;obtain⟨xa,xl,xc,ya,yl,yc,rfl,hx1,hx2⟩:=id hx;refine uR ?_;refine EVL.idxM tO rfl rfl rfl rfl rfl rfl rfl rfl rfl (hs) (i) (rfl) (hlt) (hc) ?_
  repeat (first|refine RUN ?_|refine CV (zqh hx (hq q (qF hqi))) ?_|refine CE (zqh hx (hq q (qF hqi))) ?_)
  refine EVL.app1 tO rfl rfl rfl rfl rfl rfl rfl rfl rfl rfl rfl rfl rfl rfl rfl rfl rfl rfl rfl (fun _=>rfl) (ow) ([]) ((qG _).symm) (hown) oM fun _=>?_;intro v' ow' hown';refine uR ?_;refine⟨(i+1,v',ow'),⟨rfl,?_,trivial⟩,sB,trivial,trivial,qG _,⟨by dsimp only;omega,?_⟩,Hp.Le.refl _,by dsimp only;omega⟩
  ·rw[zai i (by omega)];rfl
  ·dsimp only;rw[zat hqi,List.flatMap_append];exact hown'
 ·simp only[nN]at hlt;obtain rfl:i=l.length:=by omega
  (first|refine EVL.publishL [] ow [] ((qG _).symm) hown fun G2 hG2 hs=>?_|refine EV.publishL [] ow [] ((qG _).symm) hown fun G2 hG2 hs=>?_);refine uR ?_;rw[List.take_length]at hs;exact hs
end
section
def zaU (l:List Rat):Rat:=l.foldl (·+·) 0
theorem zby:zaU []=0:=rfl
theorem zch (l:List Rat) (x:Rat):zaU (l++[x])=zaU l+x:=by unfold zaU;rw[List.foldl_append];rfl
theorem zmV (B:Nat):∀(l:List Rat),(∀q,q∈l→ht q≤B)→ht (zaU l.reverse)≤1+(B+1)*l.length
 | [],_=>by rw[List.reverse_nil,zby,zb8];exact Nat.le_add_right ..
 | x::l,h=>by
  have h1:=zmV B l (fun q hq=>h q (List.mem_cons_of_mem _ hq));have h2:=h x (List.mem_cons_self ..);have h3:=zd3 (zaU l.reverse) x;rw[List.reverse_cons,zch,List.length_cons,Nat.mul_succ];omega
theorem zgz (B:Nat) (l:List Rat) (h:∀q,q∈l→ht q≤B):ht (zaU l)≤1+(B+1)*l.length:=by
 have:=zmV B l.reverse (fun q hq=>h q (List.mem_reverse.1 hq))
 rwa [List.reverse_reverse,List.length_reverse]at this
def zcS (l:List Rat):Prop:=l.Pairwise (·≤·)
theorem zgN {l m:List Rat} (h:zcS l) (k:zcS m) (p:l.Perm m):l=m:=List.Perm.eq_of_pairwise (fun a b _ _ h1 h2=>Rat.le_antisymm h1 h2) h k p
def zbn {α:Type} (l:List α) (k:Nat) (x:α):List α:=l.take k++x::l.drop k
theorem zex {α:Type} (l:List α) (k:Nat) (x:α):(zbn l k x).Perm (l++[x]):=by
 unfold zbn;refine List.perm_middle.trans ?_;rw[List.take_append_drop];exact(List.perm_append_comm (l₁:=[x]) (l₂:=l))
theorem ziI {l:List Rat} {k:Nat} {x:Rat} (h:zcS l) (h1:∀y,y∈l.take k→y≤x) (h2:∀y,y∈l.drop k→x≤y):zcS (zbn l k x):=by
 unfold zbn zcS;rw[List.pairwise_append];refine⟨h.sublist (List.take_sublist ..),List.pairwise_cons.2 ⟨fun y hy=>h2 y hy,h.sublist (List.drop_sublist ..)⟩,fun a ha b hb=>?_⟩;rcases List.mem_cons.1 hb with rfl | hb
 ·exact h1 a ha
 ·exact Rat.le_trans (h1 a ha) (h2 b hb)
theorem zjW {l:List Rat} {k:Nat} {x y:Rat} (h:zcS l) (hk:l[k]?=some y) (hy:y≤x):∀z,z∈l.take (k+1)→z≤x:=fun z hz=>by
 obtain⟨hl,rfl⟩:=qE.1 hk;rw[List.take_succ_eq_append_getElem hl]at hz;rcases List.mem_append.1 hz with hz | hz
 ·have hp:zcS (l.take (k+1)):=h.sublist (List.take_sublist ..);unfold zcS at hp;rw[List.take_succ_eq_append_getElem hl,List.pairwise_append]at hp;exact Rat.le_trans (hp.2.2 z hz _ (List.mem_singleton.2 rfl)) hy
 ·rw[List.mem_singleton.1 hz];exact hy
def zl3 (l:List Rat):List Rat:=l.mergeSort fun a b=>decide (a≤b)
theorem zl4 (l:List Rat):(zl3 l).Perm l:=List.mergeSort_perm l _
theorem ziU (l:List Rat):zcS (zl3 l):=by
 have:=List.pairwise_mergeSort (le:=fun a b:Rat=>decide (a≤b)) (fun a b c h1 h2=>by simp at h1 h2 ⊢;exact Rat.le_trans h1 h2) (fun a b=>by simp;exact Rat.le_total) l;exact this.imp fun h=>by simpa using h
theorem znH {l m:List Rat} (h:m.Perm l) (k:zcS m):m=zl3 l:=zgN k (ziU l) (h.trans (zl4 l).symm)
end
section
open Go.RowKit _root_.Go.Proofs.Tryz
def RVs (H:Hp) (vs:List Value) (l:List Rat):Prop:=vs.length=l.length∧∀(j:Nat) (x:Value) (q:Rat),vs[j]?=some x→l[j]?=some q→RQ H x q
theorem RVs.mono {H G:Hp} {vs:List Value} {l:List Rat} (h:RVs H vs l) (k:H.Le G):RVs G vs l:=⟨h.1,fun j x q e1 e2=>(h.2 j x q e1 e2).mono k⟩
theorem RVs.nil (H:Hp):RVs H [] []:=⟨rfl,fun j x q h=>by simp at h⟩
theorem RVs.snoc {H:Hp} {vs:List Value} {l:List Rat} {x:Value} {q:Rat} (h:RVs H vs l) (k:RQ H x q):RVs H (vs++[x]) (l++[q]):=by
 refine⟨by simp[h.1],fun j y r e1 e2=>?_⟩;rw[List.getElem?_append]at e1 e2;by_cases hj:j<vs.length
 ·rw[if_pos hj]at e1;rw[if_pos (by rw[←h.1];exact hj)]at e2;exact h.2 j y r e1 e2
 ·rw[if_neg hj]at e1;rw[if_neg (by rw[←h.1];exact hj)]at e2;have:=h.1
  cases hk:j-vs.length with
  | zero =>
   rw[hk]at e1;rw[←h.1,hk]at e2;simp at e1 e2;subst e1;subst e2;exact k
  | succ m=>rw[hk]at e1;simp at e1
theorem RVs.rl {H:Hp} {vs:List Value} {l:List Rat} {v:Value} (h:RVs H vs l) (hs:SlC H v l.length 3 (vs.flatMap zah)):RL H v l:=⟨vs,h.1,h.2,hs⟩
abbrev IL (H:Hp) (v:Value) (l:List Int):Prop:=SlN (fun z:Int=>Value.int .i64 z) H v l
def zjf (l:List Int) (n:Nat):List Rat:=(List.range n).map fun i=>match l[i]? with
 | some z=>zno z
 | none=>0
theorem ze4 (l:List Int) (n:Nat):(zjf l n).length=n:=by simp[zjf]
theorem znw {l:List Int} {n i:Nat} {z:Int} (hi:i<n) (h:l[i]?=some z):(zjf l n)[i]?=some (zno z):=by
 unfold zjf;rw[List.getElem?_map,List.getElem?_range hi];simp[h]
theorem znv {l:List Int} {n i:Nat} (hi:i<n) (h:l[i]?=none):(zjf l n)[i]?=some 0:=by
 unfold zjf;rw[List.getElem?_map,List.getElem?_range hi];simp[h]
theorem zpL {H:Hp} {v:Value} {l:List Int} (h:IL H v l) (hb:∀z,z∈l → -9223372036854775808≤z∧z<9223372036854775808) (n:Nat) (hn:n≤1000000):PC prog 39 #[v,.int .i64 (n:Int)] H fun r H'=>RL H' r (zjf l n):=by
 obtain⟨a,cap,rfl⟩:=SlC.val h;have hz0:=fun G:Hp=>zhw (H:=G) 0 oM oM;rw[show ((0:Int):Rat)=0 from rfl]at hz0;refine BD func39 ntmps39 ?_;refine uR ?_;refine EV.loopK (ι:=Nat × List Value × Value × Ows) [0,1] [] (fun q=>[(5,.v q.2.2.1),(6,.v (.int .i64 (q.1:Int)))]) (fun _=>[]) (fun q=>q.2.2.2) (fun q G=>q.1≤n∧RVs G q.2.1 ((zjf l n).take q.1)∧zaW 35 3 q.2.2.1 q.1 (q.2.1.flatMap zah) q.2.2.2) (fun q=>n-q.1) ((0,[],.slice none 0 0,[])) rfl rfl ⟨rfl,rfl,trivial⟩ trivial rfl (fun _=>rfl) (⟨Nat.zero_le _,RVs.nil _,zaW.nil _ _⟩) ?_;rintro⟨i,vs,w,ow⟩ G1 hG1 ⟨hi,hvs,hown⟩;dsimp only at hi hvs hown;refine uR ?_;refine EV.cond rfl (fun hlt=>?_) (fun hlt=>?_)
 ·simp only[nN]at hlt;refine uR ?_;refine EV.cond rfl (fun hll=>?_) (fun hll=>?_)
  ·simp only[nN]at hll;obtain⟨z,hzi⟩:=gE hll;have hzb:=hb z (qF hzi);have hq:=znw hlt hzi;refine uR ?_;refine vI ((h.mono hG1)) (i) (rfl) (hll) ((by rw[List.getElem?_map,hzi];rfl)) ?_;refine uR ?_;refine vA (zr4 z hzb) ?_;rintro r G2 hr hG2;obtain⟨xa,xl,xc,ya,yl,yc,rfl,hx1,hx2⟩:=id hr;refine uR ?_;refine EVL.app1 tO rfl rfl rfl rfl rfl rfl rfl rfl rfl rfl rfl rfl rfl rfl rfl rfl rfl rfl rfl (fun _=>rfl) (ow) ([]) ((qG _).symm) (hown) oM fun _=>?_;intro v' ow' hown';refine uR ?_;refine⟨(i+1,vs++[_],v',ow'),⟨rfl,?_,trivial⟩,sB,trivial,trivial,qG _,⟨hlt,by rw[zat hq];exact(hvs.mono hG2).snoc hr,?_⟩,hG2,by dsimp only;omega⟩
   ·rw[zai i (by omega)];rfl
   ·dsimp only;rw[List.flatMap_append];exact hown'
  ·simp only[nN]at hll;have hzi:l[i]?=none:=List.getElem?_eq_none oM;have hq:=znv hlt hzi;refine uR ?_;refine vA (hz0 _) ?_;rintro r G2 hr hG2;obtain⟨xa,xl,xc,ya,yl,yc,rfl,hx1,hx2⟩:=id hr;refine uR ?_;refine EVL.app1 tO rfl rfl rfl rfl rfl rfl rfl rfl rfl rfl rfl rfl rfl rfl rfl rfl rfl rfl rfl (fun _=>rfl) (ow) ([]) ((qG _).symm) (hown) oM fun _=>?_;intro v' ow' hown';refine uR ?_;refine⟨(i+1,vs++[_],v',ow'),⟨rfl,?_,trivial⟩,sB,trivial,trivial,qG _,⟨hlt,by rw[zat hq];exact(hvs.mono hG2).snoc hr,?_⟩,hG2,by dsimp only;omega⟩
   ·rw[zai i (by omega)];rfl
   ·dsimp only;rw[List.flatMap_append];exact hown'
 ·simp only[nN]at hlt;obtain rfl:i=n:=by omega
  (first|refine EVL.publishL [] ow [] ((qG _).symm) hown fun G2 hG2 hs=>?_|refine EV.publishL [] ow [] ((qG _).symm) hown fun G2 hG2 hs=>?_);refine uR ?_;have e:(zjf l i).take i=zjf l i:=List.take_of_length_le (by rw[ze4];exact qH _);rw[e]at hvs;exact(hvs.mono hG2).rl (by rw[ze4];exact hs)
theorem zpy {n:Nat} (h:n≤100000):ht ((n:Int):Rat)≤20:=by
 have:=zbG (n:Int);have h2:bl (n:Int).natAbs≤17:=za4 oM;omega
def kb (z:Int):Nat:=(max 0 (min z 256)).toNat
theorem zmS (n d:Int) (h:d≠0):ht (Rat.divInt n d)≤max (bl n.natAbs) (bl d.natAbs):=by
 rw[zif n d h];refine qI (zqg _ _ oM) ?_;have:(if d<0 then -n else n).natAbs=n.natAbs:=by split <;> simp
 rw[this];exact qH _
theorem zmU (z:Int):ht (zno z)≤5:=by
 unfold zno;have hrd:=zgI (z.tdiv 41 % 6).toNat
 have m1:=Int.emod_nonneg z (show (41:Int)≠0 by omega);have m2:=Int.emod_lt_of_pos z (show (0:Int)<41 by omega);refine qI (zmS _ _ oM) (Nat.max_le.2 ⟨za4 oM,za4 oM⟩)
theorem zkQ {q:Rat} {k:Nat} (h:ht q≤k) (hk:k≤100000000):rq q:=qI h hk
section
variable {P:Program} {n:Nat} {ops:Array Oper} {o:Oper} {rest:List Oper} {env:Env} {bx:Bxs} {H:Hs} {Q:EQ} {τ:Tab} {d:Nat}
end
theorem zoQ (a b:Rat):zcA a b>0↔b<a:=by
 unfold zcA;constructor
 ·intro h;split at h
  ·exact absurd h (by decide)
  ·split at h
   ·assumption
   ·exact absurd h (by decide)
 ·intro h;rw[if_neg (Rat.not_lt.2 (Rat.le_of_lt h)),if_pos h];decide
theorem zbM:zab 0=.agg #[.bool false,.int .u64 0,.string ⟨#[]⟩,.int .u64 0,.string ⟨#[]⟩]:=by
 show frV 0 0=_;rw[zdc,show (0:Int).natAbs=0 from rfl,zbu (n:=0) (by decide)];rfl
theorem zaz:zah (zab 0)=[.bool false,.int .u64 0,.string ⟨#[]⟩,.int .u64 0,.string ⟨#[]⟩]:=by rw[zbM];rfl
theorem zaG {q:Rat} {n:Nat} (h:ht q≤n) (hn:n≤100000000):sm q:=qI h hn
theorem zpP {H:Hp} {v:Value} {l:List Rat} (h:QL H v l) (hl:l.length≤100000) (hb:∀q,q∈l→ht q≤100):PC prog 127 #[v] H fun r _=>r=zab (zaU l):=by
 obtain⟨a,cap,rfl⟩:=SlC.val h;have hz:zah (zab (zaU (l.take 0)))=[.bool false,.int .u64 0,.string ⟨#[]⟩,.int .u64 0,.string ⟨#[]⟩]:=zaz;refine BD func127 ntmps127 ?_;refine uR ?_;refine EV.loopK (ι:=Nat) [2,3,6,7] [2] (fun i=>[(8,.v (.int .i64 (i:Int)))]) (fun i=>[(3,50,zah (zab (zaU (l.take i))))]) (fun _=>[]) (fun i G=>i≤l.length) (fun i=>l.length-i) (0) rfl rfl ⟨rfl,trivial⟩ ⟨by rw[hz];rfl,trivial⟩ rfl (fun _=>rfl) (Nat.zero_le _) ?_;intro i G1 hG1 hi;refine uR ?_;refine EV.cond rfl (fun hlt=>?_) (fun hlt=>?_)
 ·simp only[nN]at hlt;obtain⟨q,hqi⟩:=gE hlt;have hqb:=hb q (qF hqi);have hsb:=zgz 100 (l.take i) (fun q hq=>hb q (List.mem_of_mem_take hq));rw[List.length_take,Nat.min_eq_left hi]at hsb;have hadd:=zdR (zaU (l.take i)) q (zaG hsb oM) (zaG hqb oM);rw[←zch,←zat hqi]at hadd;refine uR ?_;refine EVL.idxM tO rfl rfl rfl rfl rfl rfl rfl rfl rfl ((SlC.mono (show SlC H (.slice a l.length cap) l.length 5 (l.flatMap fun q=>zah (zab q)) from h) hG1)) (i) (rfl) (hlt) ((QL.at (H:=H) (v:=.slice a l.length cap) hqi)) ?_
  repeat (first|refine RUN ?_|refine CV (hadd) ?_|refine CE (hadd) ?_)
  refine⟨i+1,⟨?_,trivial⟩,sB,⟨rfl,trivial⟩,sB,rfl,hlt,Hp.Le.refl _,by omega⟩;rw[zai i (by omega)];rfl
 ·simp only[nN]at hlt;obtain rfl:i=l.length:=by omega
  rw[List.take_length];refine uR ?_;rfl
theorem zqu {H:Hp} {v:Value} {l:List Rat} (h:QL H v l) (hl:l.length≤100000) (h0:l.length≠0) (hb:∀q,q∈l→ht q≤100):PC prog 82 #[v] H fun r _=>r=.tuple #[zab (zaU l / ((l.length:Int):Rat)),.bool true]:=by
 obtain⟨a,cap,rfl⟩:=SlC.val h;have hs:=zgz 100 l hb;have hln:=zpy hl;have hsum:=zpP h hl hb;have hof:=zgj (l.length:Int) oM oM;have hd:=zih (zaU l) ((l.length:Int):Rat) (zaG hs oM) (zaG hln oM) (by intro e;have:((l.length:Int):Rat)=((0:Int):Rat):=e;exact h0 (by have:=Rat.intCast_inj.1 this;omega));refine BD func82 ntmps82 ?_
 repeat (first|refine RUN ?_|refine CV (hsum) ?_|refine CV (hof) ?_|refine CV (hd) ?_|refine CE (hsum) ?_|refine CE (hof) ?_|refine CE (hd) ?_)
 rfl
theorem zqt {H:Hp} {v:Value} (h:QL H v []):PC prog 82 #[v] H fun r _=>r=.tuple #[zab 0,.bool false]:=by
 obtain⟨a,cap,rfl⟩:=SlC.val h;have hsum:=zpP h (Nat.zero_le _) (by intro q hq;cases hq);have hof:=zgj 0 oM oM;rw[show ((0:Int):Rat)=0 from rfl]at hof;have hd:=zjA 0;refine BD func82 ntmps82 ?_
 repeat (first|refine RUN ?_|refine CV (hsum) ?_|refine CV (hof) ?_|refine CV (hd) ?_|refine CE (hsum) ?_|refine CE (hof) ?_|refine CE (hd) ?_)
 rfl
def zau (n:Int) (cs:List Int) (sq:Int) (q:Rat):List Value:=.int .i64 n::(cs.map (fun z=>Value.int .i64 z)++(.int .i64 sq::zah (zab q)))
theorem zao {n:Int} {cs:List Int} {sq:Int} {q:Rat} (h:cs.length=12):(zau n cs sq q).length=19:=by
 unfold zau;rw[List.length_cons,List.length_append,List.length_map,h];rfl
theorem zha {α:Type} {a b:List α} {k:Nat} (h:a.length=k):(a++b).drop k=b:=List.drop_left' h
theorem zb4 {n:Int} {cs:List Int} {sq:Int} {q:Rat}:((zau n cs sq q).drop 0).take 1=[.int .i64 n]:=rfl
theorem zbO {n n':Int} {cs:List Int} {sq:Int} {q:Rat}:(zau n cs sq q).take 0++[.int .i64 n']++(zau n cs sq q).drop (0+1)=zau n' cs sq q:=rfl
theorem zbw (n:Int) (cs:List Int) (sq:Int) (q:Rat):zau n cs sq q=(.int .i64 n::cs.map (fun z=>Value.int .i64 z))++(.int .i64 sq::zah (zab q)):=rfl
theorem zeE {n:Int} {cs:List Int} {sq:Int} {q:Rat} (h:cs.length=12):((zau n cs sq q).drop 13).take 1=[.int .i64 sq]:=by
 rw[zbw,zha (by rw[List.length_cons,List.length_map,h])];rfl
theorem zdG {n:Int} {cs:List Int} {sq sq':Int} {q:Rat} (h:cs.length=12):(zau n cs sq q).take 13++[.int .i64 sq']++(zau n cs sq q).drop (13+1)=zau n cs sq' q:=by
 have e:(zau n cs sq q).drop (13+1)=zah (zab q):=by
  rw[←List.drop_drop,zbw,zha (by rw[List.length_cons,List.length_map,h])];rfl
 rw[e,zbw,List.take_left' (by rw[List.length_cons,List.length_map,h]),zbw];simp
theorem zei {n:Int} {cs:List Int} {sq:Int} {q:Rat} (h:cs.length=12):((zau n cs sq q).drop 14).take 5=zah (zab q):=by
 have e:(zau n cs sq q).drop (13+1)=zah (zab q):=by
  rw[←List.drop_drop,zbw,zha (by rw[List.length_cons,List.length_map,h])];rfl
 rw[e];rfl
theorem zc5 {n:Int} {cs:List Int} {sq:Int} {q q':Rat} (h:cs.length=12):(zau n cs sq q).take 14++zah (zab q')++(zau n cs sq q).drop (14+5)=zau n cs sq q':=by
 have hl:=zao (n:=n) (sq:=sq) (q:=q) h;have e:zau n cs sq q=(.int .i64 n::cs.map (fun z=>Value.int .i64 z)++[.int .i64 sq])++zah (zab q):=by rw[zbw];simp
 rw[List.drop_of_length_le oM,qG,e,List.take_left' (by simp[h]),zbw];simp
theorem zf4 {n:Int} {cs:List Int} {sq:Int} {q:Rat} {j:Nat} {z:Int} (hj:cs[j]?=some z):((zau n cs sq q).drop (1+j)).take 1=[.int .i64 z]:=by
 obtain⟨hl,hz⟩:=qE.1 hj;unfold zau;rw[Nat.add_comm,List.drop_succ_cons,List.drop_append_of_le_length (by rw[List.length_map];omega),List.take_append_of_le_length (by rw[List.length_drop,List.length_map];omega),List.drop_eq_getElem_cons (by rw[List.length_map];exact hl)];simp[hz]
theorem zdF {n:Int} {cs:List Int} {sq:Int} {q:Rat} {j:Nat} (z:Int) (hj:j<cs.length):(zau n cs sq q).take (1+j)++[.int .i64 z]++(zau n cs sq q).drop (1+j+1)=zau n (cs.set j z) sq q:=by
 unfold zau;rw[show 1+j=j+1 by omega,List.take_succ_cons,List.drop_succ_cons,List.take_append_of_le_length (by rw[List.length_map];omega),List.drop_append_of_le_length (by rw[List.length_map];omega),List.map_set];rw[List.set_eq_take_append_cons_drop,if_pos (by rw[List.length_map];exact hj)];simp
theorem zkU {n:Int} {cs:List Int} {sq:Int} {q:Rat} {j:Nat} {z:Int} (hj:cs[j]?=some z):((zau n cs sq q).drop (0+1+j)).take 1=[.int .i64 z]:=zf4 hj
theorem ziS {n:Int} {cs:List Int} {sq:Int} {q:Rat} {j:Nat} (z:Int) (hj:j<cs.length):(zau n cs sq q).take (0+1+j)++[.int .i64 z]++(zau n cs sq q).drop (0+1+j+1)=zau n (cs.set j z) sq q:=zdF z hj
theorem zcF:Tryz.prog.underlying 145=some (.array 12 3):=by kernel_rfl
theorem zej:Tryz.te147.zero=zau 0 (List.replicate 12 0) 0 0:=by
 unfold zau;rw[zaz];rfl
theorem zkT {n:Int} {cs:List Int} {sq:Int} {q:Rat} (h:cs.length=12):((zau n cs sq q).drop 0).take 19=zau n cs sq q:=by
 rw[List.drop_zero,List.take_of_length_le (by rw[zao h];omega)]
abbrev zaE (kind classes:Int) (sl sv:Value):Value:=.agg #[.int .i64 kind,.int .i64 classes,sl,sv]
theorem zp1 {H:Hp} {b:Nat} {cl:Int} {la:Option Addr} {ln lc:Nat} {va:Option Addr} {vc:Nat} {vals:List Rat} (hv:QL H (.slice va vals.length vc) vals) {r n:Nat} (hn:n≤1000000) {x q:Rat} (hr:vals[r]?=some x) (hx:sm x) (hq:sm q) {cs:List Int} (hc:cs.length=12) {sq:Int} :
  PW prog 125 #[.pointer (some ⟨b,0,none⟩),zaE 2 cl (.slice la ln lc) (.slice va vals.length vc),.int .i64 (r:Int)] H [(b,147,zau n cs sq q)] fun v ow _=>v=.tuple #[]∧ow=[(b,147,zau ((n+1:Nat):Int) cs sq (q+x))]:=by
 have hadd:=zdR q x hq hx;have hlen:=zao (n:=(n:Int)) (cs:=cs) (sq:=sq) (q:=q) hc;obtain⟨hrl,_⟩:=qE.1 hr;have hs:SlC H (.slice va vals.length vc) vals.length 5 (vals.flatMap fun q=>zah (zab q)):=hv;refine PW.body tO func125 rfl kR ntmps125 rfl rfl ?_;refine uR ?_;refine RP ?_;refine EVL.loadOwn tO rfl rfl rfl rfl rfl rfl (0) rfl (zb4) rfl rfl ?_;refine RP ?_;rw[show IntKind.i64.wrap ((n:Int)+1)=((n+1:Nat):Int) by rw[IntKind.wrap_i64];omega];refine EVL.storeOwn tO rfl rfl rfl rfl rfl rfl ([]) ([]) rfl rfl rfl rfl ((by rw[hlen];show 0+1≤19;omega)) (zbO) ?_;refine uR ?_;apply EV.drawn 11 kR kR;intro xv yw;(repeat (first|refine' DD ?_|refine' vN ?_|refine' vF ?_));refine' DJ.ofVal (zaa.loadOwn tO rfl rfl rfl rfl (0) rfl (zei hc) rfl rfl) rfl rfl rfl ?_;rotate_left;(repeat (first|refine' DD ?_|refine' vN ?_|refine' vF ?_));refine' DJ.idxM tO rfl rfl rfl rfl rfl rfl rfl rfl rfl (hs) (r) (rfl) (hrl) (QL.at (H:=H) (v:=.bool true) hr) ?_;rotate_left;(repeat (first|refine' DD ?_|(refine' DC (hadd) (h:=?_);rotate_left)));(refine DJ.nil (fun G1 hG1 hF1=>?_);(case hS|hS2=>rfl));refine RP ?_;refine EVL.storeOwn tO rfl rfl rfl rfl rfl rfl ([]) ([]) rfl rfl rfl rfl ((by rw[zao hc];show 14+5≤19;omega)) (zc5 hc) ?_;refine uR ?_;exact⟨rfl,rfl⟩
theorem zpZ {H:Hp} {b:Nat} {cl:Int} {va:Option Addr} {vn vc:Nat} {la:Option Addr} {lc:Nat} {ls:List Int} (hv:IL H (.slice la ls.length lc) ls) {r n:Nat} (hn:n≤1000000) {k m sq:Nat} (hr:ls[r]?=some (k:Int)) (hk:k<12) {cs:List Int} (hc:cs.length=12) (hm:cs[k]?=some (m:Int)) (hmb:m≤1000000) (hsb:sq≤10000000000000) {q:Rat} :
  PW prog 125 #[.pointer (some ⟨b,0,none⟩),zaE 1 cl (.slice la ls.length lc) (.slice va vn vc),.int .i64 (r:Int)] H [(b,147,zau n cs sq q)] fun v ow _=>v=.tuple #[]∧ow=[(b,147,zau ((n+1:Nat):Int) (cs.set k ((m+1:Nat):Int)) ((sq+2*m+1:Nat):Int) q)]:=by
 have hlen:=zao (n:=(n:Int)) (cs:=cs) (sq:=(sq:Int)) (q:=q) hc;obtain⟨hrl,_⟩:=qE.1 hr
 have w1:IntKind.i64.wrap ((sq:Int)+IntKind.i64.wrap (IntKind.i64.wrap (2*(m:Int))+1))=((sq+2*m+1:Nat):Int):=by
  rw[show IntKind.i64.wrap (2*(m:Int))=2*(m:Int) by rw[IntKind.wrap_i64];omega,show IntKind.i64.wrap (2*(m:Int)+1)=2*(m:Int)+1 by rw[IntKind.wrap_i64];omega,IntKind.wrap_i64];omega
 have w2:IntKind.i64.wrap ((m:Int)+1)=((m+1:Nat):Int):=by rw[IntKind.wrap_i64];omega
 refine PW.body tO func125 rfl kR ntmps125 rfl rfl ?_;refine uR ?_;refine RP ?_;refine EVL.loadOwn tO rfl rfl rfl rfl rfl rfl (0) rfl (zb4) rfl rfl ?_;refine RP ?_;rw[show IntKind.i64.wrap ((n:Int)+1)=((n+1:Nat):Int) by rw[IntKind.wrap_i64];omega];refine EVL.storeOwn tO rfl rfl rfl rfl rfl rfl ([]) ([]) rfl rfl rfl rfl ((by rw[hlen];show 0+1≤19;omega)) (zbO) ?_;refine uR ?_;refine vI (hv) (r) (rfl) (hrl) ((by rw[List.getElem?_map,hr];rfl)) ?_;refine uR ?_;apply EV.drawn 13 kR kR;intro xv yw;(repeat (first|refine' DD ?_|refine' vN ?_|refine' vF ?_));refine' DJ.ofVal (zaa.loadOwn tO rfl rfl rfl rfl (0) rfl (zeE hc) rfl rfl) rfl rfl rfl ?_;rotate_left;(repeat (first|refine' DD ?_|refine' vN ?_|refine' vF ?_));refine' DJ.idxA tO rfl rfl rfl rfl (zcF) rfl rfl rfl rfl (k) (rfl) (hk) ?_;rotate_left;refine' DJ.ofVal (zaa.loadOwn tO rfl rfl rfl rfl (0) rfl (zkU hm) rfl rfl) rfl rfl rfl ?_;rotate_left;(repeat (first|refine' DD ?_|refine' vN ?_|refine' vF ?_));(refine DJ.nil (fun G1 hG1 hF1=>?_);(case hS|hS2=>rfl));rw[w1];refine RP ?_;refine EVL.storeOwn tO rfl rfl rfl rfl rfl rfl ([]) ([]) rfl rfl rfl rfl ((by rw[zao hc];show 13+1≤19;omega)) (zdG hc) ?_;refine uR ?_;apply EV.drawn 10 kR kR;intro xv yw;(repeat (first|refine' DD ?_|refine' vN ?_|refine' vF ?_));refine' DJ.idxA tO rfl rfl rfl rfl (zcF) rfl rfl rfl rfl (k) (rfl) (hk) ?_;rotate_left;refine' DJ.ofVal (zaa.loadOwn tO rfl rfl rfl rfl (0) rfl (zkU hm) rfl rfl) rfl rfl rfl ?_;rotate_left;(repeat (first|refine' DD ?_|refine' vN ?_|refine' vF ?_));refine' DJ.idxA tO rfl rfl rfl rfl (zcF) rfl rfl rfl rfl (k) (rfl) (hk) ?_;rotate_left;(refine DJ.nil (fun G2 hG2 hF2=>?_);(case hS|hS2=>rfl));rw[w2];refine RP ?_;refine EVL.storeOwn tO rfl rfl rfl rfl rfl rfl ([]) ([]) rfl rfl rfl rfl ((by rw[zao hc];show 0+1+k+1≤19;omega)) (ziS _ (show k<cs.length by omega)) ?_;refine uR ?_;exact⟨rfl,rfl⟩
theorem zdd {n:Nat} (h0:¬n=0):((n:Int):Rat)≠0:=fun h=>by
 have:=congrArg Rat.num h;rw[Rat.num_intCast]at this;have h3:(0:Rat).num=0:=rfl;omega
theorem za5 (x:Rat):x / 0=0:=by rw[Rat.div_def,Rat.inv_zero,Rat.mul_zero]
theorem zn3 {H:Hp} {b n:Nat} {cs:List Int} (hc:cs.length=12) {sq:Nat} (hsq:sq≤10000000000000) (hn:n≤1000000) {q:Rat} :
  PW prog 79 #[.pointer (some ⟨b,0,none⟩),.int .i64 1] H [(b,147,zau n cs sq q)] fun v ow _=>v=zab (((sq:Int):Rat) / ((n:Int):Rat))∧ow=[(b,147,zau n cs sq q)]:=by
 have hof:=zgj (sq:Int) oM oM;have hof2:=zgj (n:Int) oM oM
 have hnh:ht ((n:Int):Rat)≤100:=by
  have:=zbG (n:Int);have h2:bl (n:Int).natAbs≤20:=za4 oM;omega
 have hsh:ht ((sq:Int):Rat)≤100:=by
  have:=zbG (sq:Int);have h2:bl (sq:Int).natAbs≤50:=za4 oM;omega
 refine PW.body tO func79 rfl kR ntmps79 rfl rfl ?_;refine uR ?_;refine RP ?_;refine EVL.loadOwn tO rfl rfl rfl rfl rfl rfl (0) rfl (zb4) rfl rfl ?_;refine uR ?_;by_cases h0:n=0
 ·subst h0;rw[show (((0:Nat):Int) == 0)=true from rfl];refine uR ?_;rw[show (((0:Nat):Int):Rat)=0 from rfl,za5];exact⟨zbM.symm,rfl⟩
 ·have hdiv:=zih ((sq:Int):Rat) ((n:Int):Rat) (zaG hsh oM) (zaG hnh oM) (zdd h0);rw[show ((n:Int) == 0)=false from beq_eq_false_iff_ne.2 (by omega)];refine uR ?_;refine RP ?_;refine EVL.loadOwn tO rfl rfl rfl rfl rfl rfl (0) rfl (zeE hc) rfl rfl ?_
  repeat (first|refine RUN ?_|refine CV (hof) ?_|refine CE (hof) ?_)
  apply EV.drawn 12 kR kR;intro xv yw;(repeat (first|refine' DD ?_|refine' vN ?_|refine' vF ?_));refine' DJ.ofVal (zaa.loadOwn tO rfl rfl rfl rfl (0) rfl (zb4) rfl rfl) rfl rfl rfl ?_;rotate_left;(repeat (first|refine' DD ?_|(refine' DC (hof2) (h:=?_);rotate_left)|(refine' DC (hdiv) (h:=?_);rotate_left)));(refine DJ.nil (fun G2 hG2 hF2=>?_);(case hS|hS2=>rfl));refine uR ?_;exact⟨rfl,rfl⟩
end
section
def csL (l:List Int):List Int:=(List.range 12).map fun (k:Nat)=>(l.count (k:Int):Int)
def sqL (l:List Int):Nat:=(l.map fun x=>l.count x).sum
theorem zbt (l:List Int):(csL l).length=12:=by simp[csL]
theorem zgs (l:List Int) {k:Nat} (hk:k<12):(csL l)[k]?=some (l.count (k:Int):Int):=by
 unfold csL;rw[List.getElem?_map,List.getElem?_range hk];rfl
theorem zeo (l:List Int) (x y:Int):(l++[x]).count y=l.count y+if x=y then 1 else 0:=by
 rw[List.count_append,List.count_singleton];congr 1;by_cases h:x=y
 ·rw[if_pos h,h];simp
 ·rw[if_neg h];simp[h]
theorem zg7 (l:List Int) {k:Nat} (hk:k<12):csL (l++[(k:Int)])=(csL l).set k ((l.count (k:Int)+1:Nat):Int):=by
 apply List.ext_getElem?;intro j;rw[List.getElem?_set];by_cases hj:j<12
 ·rw[zgs _ hj,zgs _ hj,zeo,zbt];by_cases e:k=j
  ·subst e;rw[if_pos rfl,if_pos rfl,if_pos hk]
  ·rw[if_neg e,if_neg oM,Nat.add_zero]
 ·rw[List.getElem?_eq_none (by rw[zbt];omega),List.getElem?_eq_none (by rw[zbt];omega),if_neg (by omega)]
theorem znN (l m:List Int) (x:Int):(m.map fun y=>l.count y+if x=y then 1 else 0).sum=(m.map fun y=>l.count y).sum+m.count x:=by
 induction m with
 | nil=>rfl
 | cons a m ih =>
  rw[List.map_cons,List.sum_cons,List.map_cons,List.sum_cons,ih,List.count_cons];by_cases h:x=a
  ·rw[if_pos h,h];simp;omega
  ·have h2:¬(a == x)=true:=by simp;omega
   rw[if_neg h,if_neg h2];omega
theorem zhF (l:List Int) (x:Int):sqL (l++[x])=sqL l+2*l.count x+1:=by
 unfold sqL;rw[List.map_append,List.sum_append];have e:(l.map fun y=>(l++[x]).count y)=l.map fun y=>l.count y+if x=y then 1 else 0:=List.map_congr_left fun y _=>zeo l x y
 rw[e,znN]
 have:([x].map fun y=>(l++[x]).count y).sum=l.count x+1:=by
  simp
 rw[this];omega
theorem zpO (l:List Int) (B:Nat):∀m:List Int,(∀y,y∈m→l.count y≤B)→(m.map fun y=>l.count y).sum≤m.length*B
 | [],_=>by simp
 | a::m,h=>by
  have ih:=zpO l B m (fun y hy=>h y (List.mem_cons_of_mem _ hy));have:=h a (List.mem_cons_self ..);rw[List.map_cons,List.sum_cons,List.length_cons,Nat.succ_mul];omega
theorem ziW (l:List Int):sqL l≤l.length*l.length:=zpO l l.length l (fun y _=>List.count_le_length)
def atR (vals:List Rat) (rs:List Int):List Rat:=rs.map fun r=>vals.getD r.toNat 0
def atI (ls:List Int) (rs:List Int):List Int:=rs.map fun r=>ls.getD r.toNat 0
theorem zkg (vals:List Rat) {rs:List Int} {i:Nat} {r:Int} {x:Rat} (h:rs[i]?=some r) (hx:vals[r.toNat]?=some x):(atR vals rs).take (i+1)=(atR vals rs).take i++[x]:=by
 have:(atR vals rs)[i]?=some x:=by unfold atR;rw[List.getElem?_map,h];simp[hx]
 obtain⟨hl,hh⟩:=qE.1 this;rw[List.take_succ_eq_append_getElem hl,hh]
theorem zof (ls:List Int) {rs:List Int} {i:Nat} {r x:Int} (h:rs[i]?=some r) (hx:ls[r.toNat]?=some x):(atI ls rs).take (i+1)=(atI ls rs).take i++[x]:=by
 have:(atI ls rs)[i]?=some x:=by unfold atI;rw[List.getElem?_map,h];simp[hx]
 obtain⟨hl,hh⟩:=qE.1 this;rw[List.take_succ_eq_append_getElem hl,hh]
theorem zb7 (vals:List Rat) (rs:List Int):(atR vals rs).length=rs.length:=by simp[atR]
theorem zb6 (ls rs:List Int):(atI ls rs).length=rs.length:=by simp[atI]
theorem zfg {vals:List Rat} {rs:List Int} (h:∀r,r∈rs→0≤r∧r<(vals.length:Int)):∀q,q∈atR vals rs→q∈vals:=fun q hq=>by
 obtain⟨r,hr,rfl⟩:=List.mem_map.1 hq;have:=h r hr;have hl:r.toNat<vals.length:=by omega
 rw[qB,qA hl];exact List.getElem_mem hl
def zd8 (l:List Rat):Rat:=zaU l / ((l.length:Int):Rat)
def zeS (m:Rat) (l:List Rat):List Rat:=l.map fun v=>(v-m)*(v-m)
theorem zft (m:Rat) (l:List Rat) (x:Rat):zaU (zeS m (l++[x]))=zaU (zeS m l)+(x-m)*(x-m):=by
 unfold zeS;rw[List.map_append,List.map_singleton,zch]
end
section
open Go.RowKit _root_.Go.Proofs.Tryz
theorem znZ {H:Hp} {cl:Int} {va:Option Addr} {vn vc:Nat} {la:Option Addr} {lc:Nat} {ls:List Int} (hv:IL H (.slice la ls.length lc) ls) {ra:Option Addr} {rc:Nat} {rs:List Int} (hr:IL H (.slice ra rs.length rc) rs) (hn:rs.length≤100000)
  (hrs:∀r,r∈rs→0≤r∧r<(ls.length:Int)) (hls:∀z,z∈ls→0≤z∧z<12) :
  PC prog 76 #[zaE 1 cl (.slice la ls.length lc) (.slice va vn vc),.slice ra rs.length rc] H fun r _=>r=.agg (zau (rs.length:Nat) (csL (atI ls rs)) (sqL (atI ls rs)) 0).toArray:=by
 refine BD func76 ntmps76 ?_;refine uR ?_;(first|refine EVL.unbox (5) rfl fun b=>?_|refine EV.unbox (5) rfl fun b=>?_);rw[zej];refine EV.loopK (ι:=Nat) [2,4,5,8,9] [2,4] (fun i=>[(10,.v (.int .i64 (i:Int)))]) (fun _=>[]) (fun i=>[(b,147,zau (i:Nat) (csL ((atI ls rs).take i)) (sqL ((atI ls rs).take i)) 0)]) (fun i _=>i≤rs.length) (fun i=>rs.length-i) (0) rfl rfl ⟨rfl,trivial⟩ trivial rfl (fun _=>rfl) (Nat.zero_le _) ?_;rintro i G1 hG1 hi;refine uR ?_;refine EV.cond rfl (fun hlt=>?_) (fun hlt=>?_)
 ·simp only[nN]at hlt;obtain⟨r,hri⟩:=gE hlt;have hb:=hrs r (qF hri);obtain⟨R,rfl⟩:=Int.eq_ofNat_of_zero_le hb.1;obtain⟨x,hx⟩:∃x,ls[R]?=some x:=⟨_,qA oM⟩;have hxb:=hls x (qF hx);obtain⟨k,rfl⟩:=Int.eq_ofNat_of_zero_le hxb.1;have hk:k<12:=by omega
  have ht:=zof ls hri (by rw[Int.toNat_natCast];exact hx);have hlen:((atI ls rs).take i).length=i:=by rw[List.length_take,zb6];omega
  have hcnt:((atI ls rs).take i).count (k:Int)≤i:=qI List.count_le_length (Nat.le_of_eq hlen);have hsq:=ziW ((atI ls rs).take i);rw[hlen]at hsq;have hsq2:i*i≤100000*100000:=Nat.mul_le_mul oM oM;have hcs:=zg7 ((atI ls rs).take i) hk;have hsn:=zhF ((atI ls rs).take i) (k:Int);rw[←ht]at hcs hsn;refine uR ?_;refine vI ((hr.mono hG1)) (i) (rfl) (hlt) ((by rw[List.getElem?_map,hri];rfl)) ?_;refine uR ?_;refine EVL.callW rfl rfl rfl rfl rfl ([(b,147,zau (i:Nat) (csL ((atI ls rs).take i)) (sqL ((atI ls rs).take i)) 0)]) ([]) rfl (zpZ (n:=i) (m:=((atI ls rs).take i).count (k:Int)) (sq:=sqL ((atI ls rs).take i)) (hv.mono hG1) oM hx hk (zbt _) (zgs _ hk) oM oM) ?_;rintro v ow G2 ⟨rfl,rfl⟩ hG2;rw[←hcs,←hsn];refine uR ?_;refine⟨i+1,⟨?_,trivial⟩,sB,trivial,sB,rfl,hlt,hG2,by omega⟩;rw[zai i (by omega)];rfl
 ·simp only[nN]at hlt;obtain rfl:i=rs.length:=by omega
  rw[show (atI ls rs).take rs.length=atI ls rs by rw[←zb6 ls rs,List.take_length]];have hall:=zkT (n:=(rs.length:Nat)) (cs:=csL (atI ls rs)) (sq:=sqL (atI ls rs)) (q:=0) (zbt _);refine uR ?_;refine EVL.loadOwn tO rfl rfl rfl rfl rfl rfl (0) rfl (hall) rfl rfl ?_;refine uR ?_;rfl
theorem zn0 {H:Hp} {cl:Int} {va:Option Addr} {vc:Nat} {vals:List Rat} {la:Option Addr} {ln lc:Nat} (hv:QL H (.slice va vals.length vc) vals) {ra:Option Addr} {rc:Nat} {rs:List Int} (hr:IL H (.slice ra rs.length rc) rs) (hn:rs.length≤10000)
  (hrs:∀r,r∈rs→0≤r∧r<(vals.length:Int)) (hls:∀q,q∈vals→ht q≤100) :
  PC prog 76 #[zaE 2 cl (.slice la ln lc) (.slice va vals.length vc),.slice ra rs.length rc] H fun r _=>r=.agg (zau (rs.length:Nat) (List.replicate 12 0) 0 (zaU (atR vals rs))).toArray:=by
 have hmem:=fun q hq=>hls q (zfg hrs q hq);refine BD func76 ntmps76 ?_;refine uR ?_;(first|refine EVL.unbox (5) rfl fun b=>?_|refine EV.unbox (5) rfl fun b=>?_);rw[zej];refine EV.loopK (ι:=Nat) [2,4,5,8,9] [2,4] (fun i=>[(10,.v (.int .i64 (i:Int)))]) (fun _=>[]) (fun i=>[(b,147,zau (i:Nat) (List.replicate 12 0) 0 (zaU ((atR vals rs).take i)))]) (fun i _=>i≤rs.length) (fun i=>rs.length-i) (0) rfl rfl ⟨rfl,trivial⟩ trivial rfl (fun _=>rfl) (Nat.zero_le _) ?_;rintro i G1 hG1 hi;refine uR ?_;refine EV.cond rfl (fun hlt=>?_) (fun hlt=>?_)
 ·simp only[nN]at hlt;obtain⟨r,hri⟩:=gE hlt;have hb:=hrs r (qF hri);obtain⟨R,rfl⟩:=Int.eq_ofNat_of_zero_le hb.1;obtain⟨x,hx⟩:∃x,vals[R]?=some x:=⟨_,qA oM⟩;have hxb:=hls x (qF hx);have ht:=zkg vals hri (by rw[Int.toNat_natCast];exact hx);have hlen:((atR vals rs).take i).length=i:=by rw[List.length_take,zb7];omega
  have hsb:=zgz 100 ((atR vals rs).take i) (fun q hq=>hmem q (List.mem_of_mem_take hq));rw[hlen]at hsb;have hsn:=zch ((atR vals rs).take i) x;rw[←ht]at hsn;refine uR ?_;refine vI ((hr.mono hG1)) (i) (rfl) (hlt) ((by rw[List.getElem?_map,hri];rfl)) ?_;refine uR ?_;refine EVL.callW rfl rfl rfl rfl rfl ([(b,147,zau (i:Nat) (List.replicate 12 0) 0 (zaU ((atR vals rs).take i)))]) ([]) rfl (zp1 (n:=i) (hv.mono hG1) oM hx (zaG hxb oM) (zaG hsb oM) (by rfl)) ?_;rintro v ow G2 ⟨rfl,rfl⟩ hG2;rw[←hsn];refine uR ?_;refine⟨i+1,⟨?_,trivial⟩,sB,trivial,sB,rfl,hlt,hG2,by omega⟩;rw[zai i (by omega)];rfl
 ·simp only[nN]at hlt;obtain rfl:i=rs.length:=by omega
  rw[show (atR vals rs).take rs.length=atR vals rs by rw[←zb7 vals rs,List.take_length]];have hall:=zkT (n:=(rs.length:Nat)) (cs:=List.replicate 12 0) (sq:=0) (q:=zaU (atR vals rs)) (by rfl);refine uR ?_;refine EVL.loadOwn tO rfl rfl rfl rfl rfl rfl (0) rfl (hall) rfl rfl ?_;refine uR ?_;rfl
theorem zjF {cl:Int} {va:Option Addr} {vn vc:Nat} {la:Option Addr} {ln lc:Nat}:PV prog 78 #[zaE 1 cl (.slice la ln lc) (.slice va vn vc)] (.int .i64 (ln:Int)):=by
 refine PV.of_pc ?_;refine BD func78 ntmps78 ?_;refine uR ?_;rfl
theorem zmZ {cl:Int} {va:Option Addr} {vn vc:Nat} {la:Option Addr} {ln lc:Nat}:PV prog 78 #[zaE 2 cl (.slice la ln lc) (.slice va vn vc)] (.int .i64 (vn:Int)):=by
 refine PV.of_pc ?_;refine BD func78 ntmps78 ?_;refine uR ?_;rfl
theorem zdW {va:Option Addr} {vn vc:Nat} {la:Option Addr} {lc:Nat} (h0:1≤vn) (h1:vn≤300):PV prog 75 #[zaE 2 0 (.slice la 0 lc) (.slice va vn vc)] (.int .i64 0):=by
 refine PV.of_pc ?_;have hlen:=zmZ (cl:=0) (va:=va) (vn:=vn) (vc:=vc) (la:=la) (ln:=0) (lc:=lc);refine BD func75 ntmps75 ?_
 repeat (first|refine RUN ?_|refine CV (hlen) ?_|refine CE (hlen) ?_)
 rw[qC (show ¬(vn:Int)<1 by omega)];refine uR ?_;rw[qC (show ¬(vn:Int)>300 by omega)];refine uR ?_;rfl
theorem zfj {H:Hp} {va:Option Addr} {vc:Nat} {la:Option Addr} {lc:Nat} {ls:List Int} (hv:IL H (.slice la ls.length lc) ls) {cl:Int} (hc:1≤cl∧cl≤12) (h0:1≤ls.length) (h1:ls.length≤300) (hls:∀z,z∈ls→0≤z∧z<cl):PC prog 75 #[zaE 1 cl (.slice la ls.length lc) (.slice va 0 vc)] H fun r _=>r=.int .i64 0:=by
 have hlen:=zjF (cl:=cl) (va:=va) (vn:=0) (vc:=vc) (la:=la) (ln:=ls.length) (lc:=lc);refine BD func75 ntmps75 ?_
 repeat (first|refine RUN ?_|refine CV (hlen) ?_|refine CE (hlen) ?_)
 rw[qC (show ¬(ls.length:Int)<1 by omega)];refine uR ?_;rw[qC (show ¬(ls.length:Int)>300 by omega)];refine uR ?_;rw[qC (show ¬cl<1 by omega)];refine uR ?_;rw[qC (show ¬cl>12 by omega)];refine uR ?_;refine EV.loopK (ι:=Nat) [1,49,50] [1] (fun i=>[(51,.v (.int .i64 (i:Int)))]) (fun _=>[]) (fun _=>[]) (fun i _=>i≤ls.length) (fun i=>ls.length-i) (0) rfl rfl ⟨rfl,trivial⟩ trivial rfl (fun _=>rfl) (Nat.zero_le _) ?_;rintro i G1 hG1 hi;refine uR ?_;refine EV.cond rfl (fun hlt=>?_) (fun hlt=>?_)
 ·simp only[nN]at hlt;obtain⟨z,hz⟩:=gE hlt;have hb:=hls z (qF hz);refine uR ?_;refine vI ((hv.mono hG1)) (i) (rfl) (hlt) ((by rw[List.getElem?_map,hz];rfl)) ?_;refine uR ?_;rw[qC (show ¬z<0 by omega)];refine uR ?_;rw[qC (show ¬z≥cl by omega)];refine uR ?_;refine⟨i+1,⟨?_,trivial⟩,sB,trivial,sB,rfl,hlt,Hp.Le.refl _,by omega⟩;rw[zai i (by omega)];rfl
 ·try refine uR ?_
  rfl
abbrev iv:Int→Value:=fun z=>.int .i64 z
def inR (n:Nat) (r:Int):Bool:=decide (0≤r) && decide (r<(n:Int))
def exL (rs:List Int) (n:Nat):List Int:=rs.filter (inR n)
theorem zdv {rs:List Int} {n:Nat}:∀r,r∈exL rs n→0≤r∧r<(n:Int):=fun r hr=>by
 have:=(List.mem_filter.1 hr).2;unfold inR at this;simpa using this
theorem zcY (rs:List Int) (n:Nat):(exL rs n).length≤rs.length:=List.length_filter_le _ _
theorem zhb {rs:List Int} {n:Nat} (h:∀r,r∈rs→0≤r∧r<(n:Int)):exL rs n=rs:=List.filter_eq_self.2 fun r hr=>by
 have:=h r hr;unfold inR;simp[this.1,this.2]
theorem zqc {rs:List Int} {n i:Nat} {r:Int} (h:rs[i]?=some r):exL (rs.take (i+1)) n=exL (rs.take i) n++if inR n r then [r] else []:=by
 rw[zat h];unfold exL;rw[List.filter_append];cases hp:inR n r <;> simp[hp]
theorem zaW.il {w:Value} {l:List Int} {ow:Ows} {T:TypeId} {x:Int} (h:zaW T 1 w (l.length+1) (l.map iv++[iv x]) ow):zaW T 1 w (l++[x]).length ((l++[x]).map iv) ow:=by
 rw[List.length_append,List.map_append];exact h
theorem zbS {H:Hp} {v:Value} {rs:List Int} (hr:IL H v rs) (hn:rs.length≤1000000) (n:Nat):PC prog 77 #[v,.int .i64 (n:Int)] H fun r H'=>IL H' r (exL rs n):=by
 obtain⟨a,cap,rfl⟩:=SlC.val hr;refine BD func77 ntmps77 ?_;refine uR ?_;refine EV.loopK (ι:=Nat × Value × Ows) [1,8,9] [] (fun q=>[(5,.v q.2.1),(10,.v (.int .i64 (q.1:Int)))]) (fun _=>[]) (fun q=>q.2.2) (fun q _=>q.1≤rs.length∧zaW 3 1 q.2.1 (exL (rs.take q.1) n).length ((exL (rs.take q.1) n).map iv) q.2.2) (fun q=>rs.length-q.1) ((0,.slice none 0 0,[])) rfl rfl ⟨rfl,rfl,trivial⟩ trivial rfl (fun _=>rfl) (⟨Nat.zero_le _,zaW.nil _ _⟩) ?_;rintro⟨i,w,ow⟩ G1 hG1 ⟨hi,hown⟩;dsimp only at hi hown;obtain⟨wa,wc,rfl⟩:=hown.val;refine uR ?_;refine EV.cond rfl (fun hlt=>?_) (fun hlt=>?_)
 ·simp only[nN]at hlt;obtain⟨r,hri⟩:=gE hlt;have hex:=zqc (n:=n) hri;have hle:=zcY (rs.take i) n;rw[List.length_take]at hle;refine uR ?_;refine vI ((hr.mono hG1)) (i) (rfl) (hlt) ((by rw[List.getElem?_map,hri];rfl)) ?_;refine uR ?_;have wn:IntKind.i64.wrap ((i:Int)+1)=((i+1:Nat):Int):=zai i oM;by_cases h1:r≥0
  ·rw[qD h1];refine uR ?_;by_cases h2:r<(n:Int)
   ·have hp:inR n r=true:=by unfold inR;simp[h2];omega
    rw[hp,if_pos rfl]at hex;rw[qD h2];refine uR ?_;refine EVL.app1 tO rfl rfl rfl rfl rfl rfl rfl rfl rfl rfl rfl rfl rfl rfl rfl rfl rfl rfl rfl (fun _=>rfl) (ow) ([]) ((qG _).symm) (hown) oM fun _=>?_;intro v' ow' hown';refine uR ?_;refine⟨(i+1,v',ow'),⟨rfl,?_,trivial⟩,sB,trivial,trivial,qG _,⟨hlt,by rw[hex];exact hown'.il⟩,Hp.Le.refl _,by dsimp only;omega⟩;rw[wn];rfl
   ·have hp:inR n r=false:=by unfold inR;simp[h2]
    rw[hp,if_neg (by decide),qG]at hex;rw[qC h2];refine uR ?_;refine⟨(i+1,_,ow),⟨rfl,?_,trivial⟩,sB,trivial,trivial,rfl,⟨hlt,by rw[hex];exact hown⟩,Hp.Le.refl _,by dsimp only;omega⟩;rw[wn];rfl
  ·have hp:inR n r=false:=by unfold inR;simp;omega
   rw[hp,if_neg (by decide),qG]at hex;rw[qC h1];refine uR ?_;refine⟨(i+1,_,ow),⟨rfl,?_,trivial⟩,sB,trivial,trivial,rfl,⟨hlt,by rw[hex];exact hown⟩,Hp.Le.refl _,by dsimp only;omega⟩;rw[wn];rfl
 ·simp only[nN]at hlt;obtain rfl:i=rs.length:=by omega
  rw[List.take_length]at hown ⊢;(first|refine EVL.publishL [] ow [] ((qG _).symm) hown fun G2 hG2 hs=>?_|refine EV.publishL [] ow [] ((qG _).symm) hown fun G2 hG2 hs=>?_);refine uR ?_;exact hs
theorem zi2 {H:Hp} {v:Value} {rs:List Int} (hr:IL H v rs) (hn:rs.length≤10000) {kd cl:Int} {va:Option Addr} {vc:Nat} {vals:List Rat} {la:Option Addr} {ln lc:Nat} (hv:QL H (.slice va vals.length vc) vals) :
  PC prog 80 #[zaE kd cl (.slice la ln lc) (.slice va vals.length vc),v] H fun r H'=>QL H' r (atR vals (exL rs vals.length)):=by
 obtain⟨a,cap,rfl⟩:=SlC.val hr;refine BD func80 ntmps80 ?_;refine uR ?_;refine EVL.call rfl rfl rfl rfl rfl (zbS hr oM vals.length) ?_;intro r1 G0 he hG0;have hel:=zcY rs vals.length;have heb:=zdv (rs:=rs) (n:=vals.length);generalize exL rs vals.length=es at *
 obtain⟨a1,c1,rfl⟩:=SlC.val he;refine uR ?_;refine EV.loopK (ι:=Nat × Value × Ows) [2,12,13] [2] (fun q=>[(5,.v q.2.1),(14,.v (.int .i64 (q.1:Int)))]) (fun _=>[]) (fun q=>q.2.2) (fun q _=>q.1≤es.length∧zaW 50 5 q.2.1 q.1 (((atR vals es).take q.1).flatMap fun q=>zah (zab q)) q.2.2) (fun q=>es.length-q.1) ((0,.slice none 0 0,[])) rfl rfl ⟨rfl,rfl,trivial⟩ trivial rfl (fun _=>rfl) (⟨Nat.zero_le _,zaW.nil _ _⟩) ?_;rintro⟨i,w,ow⟩ G1 hG1 ⟨hi,hown⟩;dsimp only at hi hown;obtain⟨wa,wc,rfl⟩:=hown.val;refine uR ?_;refine EV.cond rfl (fun hlt=>?_) (fun hlt=>?_)
 ·simp only[nN]at hlt;obtain⟨r,hri⟩:=gE hlt;have hb:=heb r (qF hri);obtain⟨R,rfl⟩:=Int.eq_ofNat_of_zero_le hb.1;obtain⟨x,hx⟩:∃x,vals[R]?=some x:=⟨_,qA oM⟩;have hRl:R<vals.length:=by omega
  have ht:=zkg vals hri (by rw[Int.toNat_natCast];exact hx);have hs:SlC G1 (.slice va vals.length vc) vals.length 5 (vals.flatMap fun q=>zah (zab q)):=hv.mono (hG0.trans hG1);refine uR ?_;refine vI ((he.mono hG1)) (i) (rfl) (hlt) ((by rw[List.getElem?_map,hri];rfl)) ?_;refine uR ?_;refine EVL.idxM tO rfl rfl rfl rfl rfl rfl rfl rfl rfl (hs) (R) (rfl) (hRl) (QL.at (H:=H) (v:=.bool true) hx) ?_;refine uR ?_;refine EVL.app1 tO rfl rfl rfl rfl rfl rfl rfl rfl rfl rfl rfl rfl rfl rfl rfl rfl rfl rfl rfl (fun _=>rfl) (ow) ([]) ((qG _).symm) (hown) oM fun _=>?_;intro v' ow' hown';refine uR ?_;refine⟨(i+1,v',ow'),⟨rfl,?_,trivial⟩,sB,trivial,sB,qG _,⟨hlt,by dsimp only;rw[ht,List.flatMap_append];exact hown'⟩,Hp.Le.refl _,by dsimp only;omega⟩;rw[zai i (by omega)];rfl
 ·simp only[nN]at hlt;obtain rfl:i=es.length:=by omega
  rw[show (atR vals es).take es.length=atR vals es by rw[←zb7 vals es,List.take_length]]at hown;rw[←zb7 vals es]at hown;(first|refine EVL.publishL [] ow [] ((qG _).symm) hown fun G2 hG2 hs=>?_|refine EV.publishL [] ow [] ((qG _).symm) hown fun G2 hG2 hs=>?_);rw[←zb7 vals es];refine uR ?_;exact hs
theorem zfk {l:List Int} (sp:List Value) {j:Nat} {q:Int} (h:l[j]?=some q):((l.map iv++sp).drop (j*1)).take 1=[iv q]:=by
 obtain⟨hl,hq⟩:=qE.1 h;rw[Nat.mul_one,List.drop_append_of_le_length (by rw[List.length_map];omega),List.drop_eq_getElem_cons (by rw[List.length_map];omega)];simp[hq]
theorem zh7 {l:List Int} (sp:List Value) {j:Nat} (q:Int) (h:j<l.length):(l.map iv++sp).take (j*1)++[iv q]++(l.map iv++sp).drop (j*1+1)=(l.set j q).map iv++sp:=by
 rw[Nat.mul_one,List.take_append_of_le_length (by rw[List.length_map];omega),List.drop_append_of_le_length (by rw[List.length_map];omega),List.map_set,List.set_eq_take_append_cons_drop,if_pos (by rw[List.length_map];exact h)];simp
theorem znn {α β:Type} (f:α→β) (l:List α) (k:Nat) (x:α):(zbn l k x).map f=zbn (l.map f) k (f x):=by
 unfold zbn;rw[List.map_append,List.map_cons,List.map_take,List.map_drop]
theorem zeY {α:Type} {l:List α} {i:Nat} {x:α} (h:l[i]?=some x):l.drop i=x::l.drop (i+1):=by
 obtain⟨hl,rfl⟩:=qE.1 h;exact List.drop_eq_getElem_cons hl
abbrev zgi (key:Int→Rat) (l:List Int):Prop:=zcS (l.map key)
theorem zkO {key:Int→Rat} {l:List Int} {k:Nat} {x:Int} (h:zgi key l) (h1:∀y,y∈l.take k→key y≤key x) (h2:∀y,y∈l.drop k→key x≤key y):zgi key (zbn l k x):=by
 unfold zgi;rw[znn];refine ziI h (fun y hy=>?_) (fun y hy=>?_)
 ·rw[←List.map_take]at hy;obtain⟨z,hz,rfl⟩:=List.mem_map.1 hy;exact h1 z hz
 ·rw[←List.map_drop]at hy;obtain⟨z,hz,rfl⟩:=List.mem_map.1 hy;exact h2 z hz
theorem znt {key:Int→Rat} {l:List Int} {k:Nat} {x y:Int} (h:zgi key l) (hk:l[k]?=some y) (hy:key y≤key x):∀z,z∈l.take (k+1)→key z≤key x:=fun z hz =>
 zjW (k:=k) (y:=key y) h (by rw[List.getElem?_map,hk];rfl) hy (key z) (by rw[←List.map_take];exact List.mem_map_of_mem hz)
theorem zru {acc rest:List Int} {j:Nat} {x:Int} (h:j≤acc.length):(zbn acc j x++rest)[j]?=some x:=by
 unfold zbn;rw[List.append_assoc,List.getElem?_append_right (by rw[List.length_take];omega),List.length_take,Nat.min_eq_left h,Nat.sub_self];rfl
theorem zrv {acc rest:List Int} {j:Nat} {x y:Int} (h:acc[j]?=some y):(zbn acc (j+1) x++rest)[j]?=some y:=by
 obtain⟨hl,_⟩:=qE.1 h;unfold zbn;rw[List.append_assoc,List.getElem?_append_left (by rw[List.length_take];omega),List.getElem?_take_of_lt oM,h]
theorem zoW {acc rest:List Int} {j:Nat} {x:Int}:(zbn acc j x++rest).length=acc.length+1+rest.length:=by
 have:=(zex acc j x).length_eq;rw[List.length_append,this,List.length_append];rfl
theorem ziJ {acc rest:List Int} {j:Nat} {x y:Int} (h:acc[j]?=some y):((zbn acc (j+1) x++rest).set (j+1) y).set j x=zbn acc j x++rest:=by
 obtain⟨hl,hy⟩:=qE.1 h;have hlen:(acc.take j).length=j:=by rw[List.length_take];omega
 unfold zbn;rw[List.take_succ_eq_append_getElem hl,hy,List.drop_eq_getElem_cons hl,hy]
 rw[show (acc.take j++[y]++x::acc.drop (j+1)++rest)=acc.take j++(y::x::(acc.drop (j+1)++rest)) by simp,
  List.set_append_right (j+1) y oM,hlen,show j+1-j=1 by omega,List.set_cons_succ,List.set_cons_zero,
  List.set_append_right j x oM,hlen,Nat.sub_self,List.set_cons_zero]
 simp
theorem zlQ (acc rest:List Int) (x:Int):zbn acc acc.length x++rest=acc++x::rest:=by
 unfold zbn;rw[List.take_length,List.drop_length];simp
theorem zd4 {H:Hp} {b cap:Nat} {l:List Int} {sp:List Value} (hl:l.length≤1000) {f:FuncId} {cs:List Value} {key:Int→Rat} (hcan:zax prog f) (hcmp:∀G,H.Le G→∀x y,x∈l→y∈l→PC prog f ([iv x,iv y]++cs).toArray G fun u _=>u=.int .i64 (zcA (key x) (key y))) :
  PW prog 285 #[.slice (some ⟨b,0,none⟩) l.length cap,.int .i64 0,.int .i64 (l.length:Int),.func (.func f) #[] cs.toArray] H [(b,3,l.map iv++sp)] fun v ow _=>v=.tuple #[]∧∃m,ow=[(b,3,m.map iv++sp)]∧m.Perm l∧zgi key m:=by
 refine PW.body tO func285 rfl kR ntmps285 rfl rfl ?_;refine uR ?_;refine EV.loopK (ι:=Nat × List Int) [0,1,2,3] [] (fun q=>[(8,.v (.int .i64 (q.1:Int)))]) (fun _=>[]) (fun q=>[(b,3,q.2.map iv++sp)]) (fun q _=>1≤q.1∧q.2.Perm l∧zgi key (q.2.take q.1)) (fun q=>l.length-q.1) ((1,l)) rfl rfl ⟨rfl,trivial⟩ trivial rfl (fun _=>rfl) (⟨qH _,List.Perm.refl _,by cases l with | nil=>exact List.Pairwise.nil | cons a l=>exact List.pairwise_singleton _ _⟩) ?_;rintro⟨i,cur⟩ G1 hG1 ⟨h1,hperm,hris⟩;dsimp only at h1 hperm hris;have hcl:=hperm.length_eq;refine uR ?_;refine EV.cond rfl (fun hlt=>?_) (fun hlt=>?_)
 ·simp only[nN]at hlt;obtain⟨x,hxi⟩:∃x,cur[i]?=some x:=⟨_,qA oM⟩;have hcut:cur=cur.take i++x::cur.drop (i+1):=by rw[←zeY hxi,List.take_append_drop]
  have hal:(cur.take i).length=i:=by rw[List.length_take];omega
  have hxm:x∈l:=hperm.mem_iff.1 (qF hxi);have hma:∀y,y∈cur.take i→y∈l:=fun y hy=>hperm.mem_iff.1 (List.mem_of_mem_take hy);have hrl:(cur.drop (i+1)).length=l.length-(i+1):=by rw[List.length_drop];omega
  have hst:=zlQ (cur.take i) (cur.drop (i+1)) x;rw[hal,←hcut]at hst;generalize hacc:cur.take i=acc at *
  generalize cur.drop (i+1)=rest at *
  subst hal;subst hst;refine uR ?_;refine EV.loopK (ι:=Nat) [0,1,2,3,8] [] (fun j=>[(9,.v (.int .i64 (j:Int)))]) (fun _=>[]) (fun j=>[(b,3,(zbn acc j x++rest).map iv++sp)]) (fun j _=>j≤acc.length∧∀y,y∈acc.drop j→key x≤key y) (fun j=>j) (acc.length) rfl rfl ⟨rfl,trivial⟩ trivial rfl (fun _=>rfl) (⟨qH _,by rw[List.drop_length];intro y hy;cases hy⟩) ?_;rintro j G2 hG2 ⟨hj,hgr⟩;have hlen:=zoW (acc:=acc) (rest:=rest) (j:=j) (x:=x);have hx':=zru (rest:=rest) (x:=x) hj;have hp':=zex acc j x;have hsum:(zbn acc j x++rest).length=l.length:=by rw[hlen];omega
  rw[←hsum]
  have next:(zbn acc j x++rest).Perm l:=by
   refine List.Perm.trans ?_ hperm;exact(hp'.trans (zex acc acc.length x).symm).append_right rest
  have fin:zgi key (zbn acc j x)→zgi key ((zbn acc j x++rest).take (acc.length+1)):=fun h=>by
   rw[List.take_append_of_le_length (by rw[hp'.length_eq];simp)]
   rwa [List.take_of_length_le (by rw[hp'.length_eq];simp)]
  cases j with
  | zero =>
   have hr:=fin (zkO hris (by intro y hy;rw[List.take_zero]at hy;cases hy) hgr);refine uR ?_;apply EV.drawn 17 kR kR;intro xv yw;(repeat refine' DD ?_);(refine DJ.nil (fun G3 hG3 hF3=>?_);(case hS|hS2=>rfl));refine uR ?_;refine⟨(acc.length+1,zbn acc 0 x++rest),⟨?_,trivial⟩,sB,trivial,trivial,rfl,⟨by omega,next,hr⟩,hG2.trans hG3,by dsimp only;omega⟩;rw[zai _ (by omega)];rfl
  | succ j =>
   obtain⟨y,hyj⟩:∃y,acc[j]?=some y:=⟨_,qA oM⟩;have hy':=zrv (rest:=rest) (x:=x) hyj;have hc:=fun G (hG:H.Le G)=>hcmp G hG x y hxm (hma y (qF hyj))
   have hlo:zcA (key x) (key y)<0→key x≤key y:=fun h=>by
    unfold zcA at h;split at h
    ·exact Rat.le_of_lt (by assumption)
    ·split at h <;> omega
   have hge:¬zcA (key x) (key y)<0→key y≤key x:=fun h=>by
    unfold zcA at h;split at h
    ·omega
    ·rename_i k;exact Rat.not_lt.1 k
   generalize zcA (key x) (key y)=o at *
   refine uR ?_;apply EV.drawn 17 kR kR;intro xv yw;(repeat refine' DD ?_);rw[qD (show ((j+1:Nat):Int)>0 by omega)];(repeat refine' DD ?_);refine' DJ.idxB tO rfl rfl rfl rfl rfl rfl rfl rfl rfl (j+1) ((j+1)*1) (rfl) (oM) (rfl) ?_;rotate_left;refine' DJ.ofVal (zaa.loadOwn tO rfl rfl rfl rfl (0) rfl (zfk sp hx') rfl rfl) rfl rfl rfl ?_;rotate_left;(repeat refine' DD ?_);refine' DJ.idxB tO rfl rfl rfl rfl rfl rfl rfl rfl rfl (j) (j*1) ((by rw[IntKind.wrap_i64];omega)) (oM) (rfl) ?_;rotate_left;refine' DJ.ofVal (zaa.loadOwn tO rfl rfl rfl rfl (0) rfl (zfk sp hy') rfl rfl) rfl rfl rfl ?_;rotate_left;(refine' DJ.callC (f:=f) (cs:=cs) rfl rfl rfl rfl rfl rfl hcan (fun G hG=>hc G (hG1.trans (hG2.trans hG))) ?_;rotate_left);(repeat refine' DD ?_);(refine DJ.nil (fun G3 hG3 hF3=>?_);(case hS|hS2=>rfl));refine uR ?_;by_cases ho:o<0
   ·rw[qD ho];have hxy:=hlo ho;refine uR ?_;refine EVA.start kR ?_;refine EVA.val tO (0) rfl kR kR kR rfl rfl rfl rfl rfl ?_;refine EVA.val tO (1) rfl kR kR kR rfl rfl rfl rfl rfl ?_;refine EVA.val tO (5) rfl kR kR kR rfl rfl rfl rfl rfl ?_;refine EVA.val tO (6) rfl kR kR kR rfl rfl rfl rfl rfl ?_;refine EVA.val tO (7) rfl kR kR kR rfl rfl rfl rfl rfl ?_;refine EVA.idxB tO (8) rfl kR kR kR rfl rfl rfl rfl rfl rfl rfl rfl rfl (j) (j*1) ((by rw[IntKind.wrap_i64];omega)) (oM) (rfl) ?_;refine EVA.val tO (10) rfl kR kR kR rfl rfl rfl rfl rfl ?_;refine EVA.val tO (11) rfl kR kR kR rfl rfl rfl rfl rfl ?_;refine EVA.idxB tO (12) rfl kR kR kR rfl rfl rfl rfl rfl rfl rfl rfl rfl (j+1) ((j+1)*1) (rfl) (oM) (rfl) ?_;refine EVA.val tO (2) rfl kR kR kR rfl rfl rfl rfl rfl ?_;refine EVA.val tO (3) rfl kR kR kR rfl rfl rfl rfl rfl ?_;refine EVA.val tO (4) rfl kR kR kR rfl rfl rfl rfl rfl ?_;refine EVA.two 9 13 kR rfl rfl ?_ ?_
    ·refine EVL.loadOwn tO rfl rfl rfl rfl rfl rfl (0) rfl (zfk sp hy') rfl rfl ?_;refine EVL.nil ⟨rfl,?_⟩;refine EVA.one 13 kR rfl ?_;refine EVL.loadOwn tO rfl rfl rfl rfl rfl rfl (0) rfl (zfk sp hx') rfl rfl ?_;refine EVL.nil ⟨rfl,?_⟩;refine EVA.idxB tO (14) rfl kR kR kR rfl rfl rfl rfl rfl rfl rfl rfl rfl (j+1) ((j+1)*1) (rfl) (oM) (rfl) ?_;refine EVA.one 15 kR rfl ?_;refine EVL.storeOwn tO rfl rfl rfl rfl rfl rfl ([]) ([]) rfl rfl rfl rfl ((by rw[List.length_append,List.length_map];show (j+1)*1+1≤_;omega)) ((zh7 sp y (show j+1<(zbn acc (j+1) x++rest).length by omega))) ?_;refine EVL.nil ⟨rfl,?_⟩;refine EVA.idxB tO (16) rfl kR kR kR rfl rfl rfl rfl rfl rfl rfl rfl rfl (j) (j*1) ((by rw[IntKind.wrap_i64];omega)) (oM) (rfl) ?_;refine EVA.one 17 kR rfl ?_;refine EVL.storeOwn tO rfl rfl rfl rfl rfl rfl ([]) ([]) rfl rfl rfl rfl ((by rw[List.length_append,List.length_map,List.length_set];show j*1+1≤_;omega)) ((zh7 sp x (show j<((zbn acc (j+1) x++rest).set (j+1) y).length by rw[List.length_set];omega))) ?_;refine EVL.nil ⟨rfl,?_⟩;refine EVA.nil kR ?_;rw[ziJ hyj];refine uR ?_;refine⟨j,⟨?_,trivial⟩,sB,trivial,trivial,rfl,⟨by omega,?_⟩,hG3,by omega⟩
     ·rw[show IntKind.i64.wrap (((j+1:Nat):Int)-1)=(j:Int) by rw[IntKind.wrap_i64];omega];rfl
     ·intro z hz;rw[zeY hyj]at hz;rcases List.mem_cons.1 hz with rfl | hz
      ·exact hxy
      ·exact hgr z hz
    ·refine EVL.loadOwn tO rfl rfl rfl rfl rfl rfl (0) rfl (zfk sp hx') rfl rfl ?_;refine EVL.nil ⟨rfl,?_⟩;refine EVA.one 9 kR rfl ?_;refine EVL.loadOwn tO rfl rfl rfl rfl rfl rfl (0) rfl (zfk sp hy') rfl rfl ?_;refine EVL.nil ⟨rfl,?_⟩;refine EVA.idxB tO (14) rfl kR kR kR rfl rfl rfl rfl rfl rfl rfl rfl rfl (j+1) ((j+1)*1) (rfl) (oM) (rfl) ?_;refine EVA.one 15 kR rfl ?_;refine EVL.storeOwn tO rfl rfl rfl rfl rfl rfl ([]) ([]) rfl rfl rfl rfl ((by rw[List.length_append,List.length_map];show (j+1)*1+1≤_;omega)) ((zh7 sp y (show j+1<(zbn acc (j+1) x++rest).length by omega))) ?_;refine EVL.nil ⟨rfl,?_⟩;refine EVA.idxB tO (16) rfl kR kR kR rfl rfl rfl rfl rfl rfl rfl rfl rfl (j) (j*1) ((by rw[IntKind.wrap_i64];omega)) (oM) (rfl) ?_;refine EVA.one 17 kR rfl ?_;refine EVL.storeOwn tO rfl rfl rfl rfl rfl rfl ([]) ([]) rfl rfl rfl rfl ((by rw[List.length_append,List.length_map,List.length_set];show j*1+1≤_;omega)) ((zh7 sp x (show j<((zbn acc (j+1) x++rest).set (j+1) y).length by rw[List.length_set];omega))) ?_;refine EVL.nil ⟨rfl,?_⟩;refine EVA.nil kR ?_;rw[ziJ hyj];refine uR ?_;refine⟨j,⟨?_,trivial⟩,sB,trivial,trivial,rfl,⟨by omega,?_⟩,hG3,by omega⟩
     ·rw[show IntKind.i64.wrap (((j+1:Nat):Int)-1)=(j:Int) by rw[IntKind.wrap_i64];omega];rfl
     ·intro z hz;rw[zeY hyj]at hz;rcases List.mem_cons.1 hz with rfl | hz
      ·exact hxy
      ·exact hgr z hz
   ·rw[qC ho];have hr:=fin (zkO hris (znt hris hyj (hge ho)) hgr);refine uR ?_;refine⟨(acc.length+1,zbn acc (j+1) x++rest),⟨?_,trivial⟩,sB,trivial,trivial,rfl,⟨by omega,next,hr⟩,hG2.trans hG3,by dsimp only;omega⟩;rw[zai _ (by omega)];rfl
 ·simp only[nN]at hlt;rw[List.take_of_length_le (by omega)]at hris;refine uR ?_;exact⟨rfl,cur,rfl,hperm,hris⟩
section
variable {P:Program} {n:Nat} {ops:Array Oper} {rest:List Oper} {env:Env} {bx:Bxs} {H:Hs} {Q:EQ}
theorem Rel.asRo {W0:World} {H0:Bs} {β:Nat→Nat} {a:Act} {W:World} (r:Rel n W0 H0 β env bx H a W) {t b off:Nat} (ht:env.get t=some (.v (.pointer (some ⟨b,off,none⟩)))) {c:Array Value} (hc:H.ro b=some c) {cs:List Value} (hcs:∀j x,cs[j]?=some x→c[off+j]?=some x) :
  Rel n W0 H0 β ((t,.ro cs)::env) bx H a W:=by
 refine⟨r.size,r.defers,fun t' s hs=>?_,r.box,r.low,r.inj,fun t' i off' hu=>?_,r.fits,r.le,r.new,r.bel,r.glob,r.own,r.one⟩
 ·rw[Env.get_cons]at hs;by_cases e:t=t'
  ·subst e;rw[if_pos rfl]at hs;cases hs;obtain⟨x,hx,hr⟩:=r.slot t _ ht;exact⟨x,hx,b,off,c,hr,hc,hcs⟩
  ·rw[if_neg e]at hs;exact r.slot t' s hs
 ·rw[Env.get_cons]at hu;by_cases e:t=t'
  ·rw[if_pos e]at hu;cases hu
  ·rw[if_neg e]at hu;exact r.pin t' i off' hu
theorem EV.asRo {c:Code} (t:Nat) {b:Nat} (ht:env.get t=some (.v (.pointer (some ⟨b,0,none⟩)))) {cs:List Value} (hc:H.ro b=some cs.toArray) (h:EV P n c ((t,.ro cs)::env) bx H Q):EV P n c env bx H Q :=
 fun W0 β a W r=>h W0 β a W (r.asRo ht hc (fun j x hx=>by rw[Nat.zero_add];simpa using hx))
theorem EVL.swapOw (a b:Ows) (e:H.ow=a++b) (h:EVL P n ops rest env bx ⟨H.ro,b++a,H.base⟩ Q):EVL P n ops rest env bx H Q :=
 fun W0 β x W r=>h W0 β x W (r.permOw (by rw[e];exact List.perm_append_comm))
theorem EV.swapOw {c:Code} (a b:Ows) (e:H.ow=a++b) (h:EV P n c env bx ⟨H.ro,b++a,H.base⟩ Q):EV P n c env bx H Q :=
 fun W0 β x W r=>h W0 β x W (r.permOw (by rw[e];exact List.perm_append_comm))
end
def QVs (H:Hp) (vs:List Value) (X:List (List Rat)):Prop:=vs.length=X.length∧∀(j:Nat) (u:Value) (x:List Rat),vs[j]?=some u→X[j]?=some x→QL H u x
theorem QVs.mono {H G:Hp} {vs:List Value} {X:List (List Rat)} (h:QVs H vs X) (k:H.Le G):QVs G vs X:=⟨h.1,fun j u x e1 e2=>(h.2 j u x e1 e2).mono k⟩
theorem QVs.nil (H:Hp):QVs H [] []:=⟨rfl,fun j u x h=>by simp at h⟩
theorem znY {α:Type} {p:Value→α→Prop} {vs:List Value} {X:List α} {u:Value} {x:α} (h:vs.length=X.length∧∀(j:Nat) (u:Value) (x:α),vs[j]?=some u→X[j]?=some x→p u x) (k:p u x) :
  (vs++[u]).length=(X++[x]).length∧∀(j:Nat) (v:Value) (y:α),(vs++[u])[j]?=some v→(X++[x])[j]?=some y→p v y:=by
 refine⟨by simp[h.1],fun j y r e1 e2=>?_⟩;rw[List.getElem?_append]at e1 e2;by_cases hj:j<vs.length
 ·rw[if_pos hj]at e1;rw[if_pos (by rw[←h.1];exact hj)]at e2;exact h.2 j y r e1 e2
 ·rw[if_neg hj]at e1;rw[if_neg (by rw[←h.1];exact hj)]at e2;have:=h.1
  cases hk:j-vs.length with
  | zero =>
   rw[hk]at e1;rw[←h.1,hk]at e2;simp at e1 e2;subst e1;subst e2;exact k
  | succ m=>rw[hk]at e1;simp at e1
theorem QVs.snoc {H:Hp} {vs:List Value} {X:List (List Rat)} {u:Value} {x:List Rat} (h:QVs H vs X) (k:QL H u x):QVs H (vs++[u]) (X++[x]):=znY h k
def QLL (H:Hp) (v:Value) (X:List (List Rat)):Prop:=∃vs:List Value,QVs H vs X∧SlC H v X.length 1 vs
theorem QLL.mono {H G:Hp} {v:Value} {X:List (List Rat)} (h:QLL H v X) (k:H.Le G):QLL G v X:=by
 obtain⟨vs,h1,h2⟩:=h;exact⟨vs,h1.mono k,h2.mono k⟩
theorem QLL.val {H:Hp} {v:Value} {X:List (List Rat)} (h:QLL H v X):∃a c,v=.slice a X.length c:=by
 obtain⟨vs,_,h2⟩:=h;exact SlC.val h2
theorem QVs.at {H:Hp} {vs:List Value} {X:List (List Rat)} (h:QVs H vs X) {j:Nat} {x:List Rat} (hj:X[j]?=some x):∃a c,vs[j]?=some (.slice a x.length c)∧QL H (.slice a x.length c) x:=by
 obtain⟨hl,_⟩:=qE.1 hj;obtain⟨u,hu⟩:∃u,vs[j]?=some u:=⟨_,qA (by rw[h.1];exact hl)⟩;have hq:=h.2 j u x hu hj;obtain⟨a,c,rfl⟩:=SlC.val hq;exact⟨a,c,hu,hq⟩
def zdk (X:List (List Rat)) (col r:Int):Bool:=decide (0≤col) && decide (col<((X.getD r.toNat []).length:Int))
def zbp (X:List (List Rat)) (col r:Int):Rat:=(X.getD r.toNat []).getD col.toNat 0
theorem zfn {X:List (List Rat)} {col r:Int} {R C:Nat} {x:List Rat} {q:Rat} (hr:r=R) (hc:col=C) (hx:X[R]?=some x) (hq:x[C]?=some q):zbp X col r=q:=by
 subst hr;subst hc;unfold zbp;simp[qB,hx,hq]
theorem zfz {X:List (List Rat)} {col r:Int} (hr0:0≤r) (hr:r<(X.length:Int)) (h:zdk X col r=true):∃(R C:Nat) (x:List Rat) (q:Rat),r=R∧col=C∧X[R]?=some x∧x[C]?=some q:=by
 unfold zdk at h;simp only[Bool.and_eq_true,decide_eq_true_eq]at h;obtain⟨R,rfl⟩:=Int.eq_ofNat_of_zero_le hr0;obtain⟨C,rfl⟩:=Int.eq_ofNat_of_zero_le h.1;have h2:=h.2;rw[Int.toNat_natCast,qB,qA (show R<X.length by omega),Option.getD_some]at h2;exact⟨R,C,X[R],X[R][C],rfl,rfl,qA oM,qA oM⟩
theorem zmx {H:Hp} {bx bc:Nat} {v:Value} {X:List (List Rat)} {col:Int} (hX:QLL H v X) (hb:H bx=some [v].toArray) (hc:H bc=some [Value.int .i64 col].toArray) (hsm:∀x,x∈X→∀q,q∈x→sm q)
  {i j:Int} (hi0:0≤i) (hi:i<(X.length:Int)) (hj0:0≤j) (hj:j<(X.length:Int)) (hci:zdk X col i=true) (hcj:zdk X col j=true) :
  PC prog 261 #[.int .i64 i,.int .i64 j,.pointer (some ⟨bx,0,none⟩),.pointer (some ⟨bc,0,none⟩)] H fun r _=>r=.int .i64 (zcA (zbp X col i) (zbp X col j)):=by
 obtain⟨I,C,x,p,rfl,rfl,hxi,hp⟩:=zfz hi0 hi hci;obtain⟨J,C',y,q,rfl,hCC,hyj,hq⟩:=zfz hj0 hj hcj;obtain rfl:C=C':=by omega
 obtain⟨va,vc,rfl⟩:=hX.val;obtain⟨vs,hvs,hs⟩:=hX;obtain⟨a1,c1,hu1,hQ1⟩:=hvs.at hxi;obtain⟨a2,c2,hu2,hQ2⟩:=hvs.at hyj;have hs1:SlC H (.slice a1 x.length c1) x.length 5 (x.flatMap fun q=>zah (zab q)):=hQ1;have hs2:SlC H (.slice a2 y.length c2) y.length 5 (y.flatMap fun q=>zah (zab q)):=hQ2;have hcmp:=zcN p q (hsm x (qF hxi) p (qF hp)) (hsm y (qF hyj) q (qF hq));rw[zfn rfl rfl hxi hp,zfn rfl rfl hyj hq];have hCx:=(qE.1 hp).1;have hCy:=(qE.1 hq).1;have hIl:I<X.length:=by omega
 have hJl:J<X.length:=by omega
 refine BD func261 ntmps261 ?_;refine EV.asRo 2 rfl hb ?_;refine EV.asRo 3 rfl hc ?_;refine uR ?_;apply EV.drawn 14 kR kR;intro xv yw;(repeat refine' DD ?_);refine' vJ (hs) (I) (rfl) (hIl) (hu1) ?_;rotate_left;(repeat refine' DD ?_);refine' DJ.idxM tO rfl rfl rfl rfl rfl rfl rfl rfl rfl (hs1) (C) (rfl) (hCx) (QL.at (H:=H) (v:=.bool true) hp) ?_;rotate_left;(repeat refine' DD ?_);refine' vJ (hs) (J) (rfl) (hJl) (hu2) ?_;rotate_left;(repeat refine' DD ?_);refine' DJ.idxM tO rfl rfl rfl rfl rfl rfl rfl rfl rfl (hs2) (C) (rfl) (hCy) (QL.at (H:=H) (v:=.bool true) hq) ?_;rotate_left;(repeat refine' DD ?_);(refine DJ.nil (fun G1 hG1 hF1=>?_);(case hS|hS2=>rfl))
 repeat (first|refine RUN ?_|refine CV (hcmp) ?_|refine CE (hcmp) ?_)
 rfl
theorem zhj {H:Hp} {s:Value} {A:Int} (hA:0≤A∧A≤1000) (L:Ows) {clo:Value}:PW prog 285 #[s,.int .i64 A,.int .i64 A,clo] H L fun v ow _=>v=.tuple #[]∧ow=L:=by
 refine PW.body tO func285 rfl kR ntmps285 rfl rfl ?_;refine uR ?_;rw[show IntKind.i64.wrap (A+1)=A+1 by rw[IntKind.wrap_i64];omega];refine EV.loopK (ι:=Unit) [] [] (fun q=>[(2,.v (.int .i64 A)),(8,.v (.int .i64 (A+1)))]) (fun _=>[]) (fun _=>L) (fun _ _=>True) (fun _=>0) (()) rfl rfl ⟨rfl,rfl,trivial⟩ trivial rfl (fun _=>rfl) (trivial) ?_;rintro⟨⟩ G1 hG1 _;refine uR ?_;rw[qC (show ¬A+1<A by omega)];refine uR ?_;exact⟨rfl,rfl⟩
theorem zl6 {H:Hp} {b cap:Nat} {l:List Int} {sp:List Value} (hl:l.length≤20) {f:FuncId} {cs:List Value} {key:Int→Rat} (hcan:zax prog f) (hcmp:∀G,H.Le G→∀x y,x∈l→y∈l→PC prog f ([iv x,iv y]++cs).toArray G fun u _=>u=.int .i64 (zcA (key x) (key y))) :
  PW prog 260 #[.slice (some ⟨b,0,none⟩) l.length cap,.func (.func f) #[] cs.toArray] H [(b,3,l.map iv++sp)] fun v ow _=>v=.tuple #[]∧∃m,ow=[(b,3,m.map iv++sp)]∧m.Perm l∧zgi key m:=by
 have hst:PW prog 277 #[.slice (some ⟨b,0,none⟩) l.length cap,.int .i64 (l.length:Int),.func (.func f) #[] cs.toArray] H [(b,3,l.map iv++sp)] fun v ow _=>v=.tuple #[]∧∃m,ow=[(b,3,m.map iv++sp)]∧m.Perm l∧zgi key m:=by
  refine PW.body tO func277 rfl kR ntmps277 rfl rfl ?_;refine uR ?_;refine EV.loopK (ι:=Bool × List Int) [0,1,2,6] [] (fun q=>[(7,.v (.int .i64 (if q.1 then 20 else 0))),(8,.v (.int .i64 (if q.1 then 40 else 20)))]) (fun _=>[]) (fun q=>[(b,3,q.2.map iv++sp)]) (fun q _=>q.2.Perm l∧(q.1=true→l.length=20∧zgi key q.2)∧(q.1=false→q.2=l)) (fun q=>if q.1 then 0 else 1) ((false,l)) rfl rfl ⟨rfl,rfl,trivial⟩ trivial rfl (fun _=>rfl) (⟨List.Perm.refl _,by simp,by simp⟩) ?_;rintro⟨q,m⟩ G1 hG1 ⟨hp,h1,h2⟩;dsimp only at hp h1 h2
  cases q with
  | true =>
   obtain⟨hn,hr⟩:=h1 rfl;refine uR ?_;rw[show decide ((if true=true then (40:Int) else 20)≤(l.length:Int))=false by rw[hn];rfl];refine uR ?_;rw[show (if true=true then (20:Int) else 0)=(l.length:Int) by rw[hn];rfl];refine EVL.callW rfl rfl rfl rfl rfl ([(b,3,m.map iv++sp)]) ([]) rfl (zhj (A:=(l.length:Int)) oM _) ?_;rintro v ow G2 ⟨rfl,rfl⟩ hG2;refine uR ?_;refine EV.loopK (ι:=Unit) [1] [] (fun q=>[(6,.v (.int .i64 20))]) (fun _=>[]) (fun _=>[(b,3,m.map iv++sp)]) (fun _ _=>True) (fun _=>0) (()) rfl rfl ⟨rfl,trivial⟩ trivial rfl (fun _=>rfl) (trivial) ?_;rintro⟨⟩ G3 hG3 _;refine uR ?_;rw[qC (show ¬(20:Int)<(l.length:Int) by omega)];refine uR ?_;exact⟨rfl,m,rfl,hp,hr⟩
  | false =>
   obtain rfl:=h2 rfl;refine uR ?_;by_cases hn:m.length=20
   ·rw[show decide ((if false=true then (40:Int) else 20)≤(m.length:Int))=true by rw[hn];rfl];have hi:=zd4 (H:=G1) (b:=b) (cap:=cap) (sp:=sp) (l:=m) (cs:=cs) (key:=key) oM hcan (fun G hG=>hcmp G (hG1.trans hG));rw[hn]at hi;refine uR ?_;rw[hn];refine vW ([(b,3,m.map iv++sp)]) ([]) (hi) ?_;rintro v ow G2 ⟨rfl,m2,rfl,hp2,hr2⟩ hG2;refine uR ?_;exact⟨(true,m2),⟨rfl,rfl,trivial⟩,sB,trivial,trivial,rfl,⟨hp2,fun _=>⟨by first|exact hn|rfl,hr2⟩,by simp⟩,hG2,by simp⟩
   ·rw[show decide ((if false=true then (40:Int) else 20)≤(m.length:Int))=false by simp;omega];refine uR ?_;refine EVL.callW rfl rfl rfl rfl rfl ([(b,3,m.map iv++sp)]) ([]) rfl (zd4 (key:=key) oM hcan (fun G hG=>hcmp G (hG1.trans hG))) ?_;rintro v ow G2 ⟨rfl,m2,rfl,hp2,hr2⟩ hG2;refine uR ?_;refine EV.loopK (ι:=Unit) [1] [] (fun q=>[(6,.v (.int .i64 20))]) (fun _=>[]) (fun _=>[(b,3,m2.map iv++sp)]) (fun _ _=>True) (fun _=>0) (()) rfl rfl ⟨rfl,trivial⟩ trivial rfl (fun _=>rfl) (trivial) ?_;rintro⟨⟩ G3 hG3 _;refine uR ?_;rw[qC (show ¬(20:Int)<(m.length:Int) by omega)];refine uR ?_;exact⟨rfl,m2,rfl,hp2,hr2⟩
 refine PW.body tO func260 rfl kR ntmps260 rfl rfl ?_;refine uR ?_;refine vW ([(b,3,l.map iv++sp)]) ([]) (hst) ?_;rintro v ow G2 ⟨rfl,m,rfl,hp,hr⟩ hG2;refine uR ?_;exact⟨rfl,m,rfl,hp,hr⟩
theorem ziv:zd8 []=0:=za5 _
theorem zm1 {H:Hp} {v:Value} {l:List Rat} (h:QL H v l) (hl:l.length≤10000) (hb:∀q,q∈l→ht q≤100):PC prog 82 #[v] H fun r _=>r=.tuple #[zab (zd8 l),.bool (decide (0<l.length))]:=by
 by_cases h0:l.length=0
 ·obtain rfl:=List.length_eq_zero_iff.1 h0;rw[ziv];exact zqt h
 ·rw[qD (show 0<l.length by omega)];exact zqu h oM h0 hb
theorem zkF {l:List Rat} {B:Nat} (hl:l.length≤300) (hb:∀q,q∈l→ht q≤B):ht (zd8 l)≤1+(B+1)*300+20:=by
 have b1:=zgz B l hb;have b2:(B+1)*l.length≤(B+1)*300:=Nat.mul_le_mul_left _ hl;have b3:=zpy (n:=l.length) oM;have b4:=zfA (zaU l) ((l.length:Int):Rat);unfold zd8;omega
theorem zqb {m:Rat} {l:List Rat} {B C:Nat} (hb:∀q,q∈l→ht q≤B) (hm:ht m≤C):∀q,q∈zeS m l→ht q≤2*(B+C+1):=fun q hq=>by
 obtain⟨v,hv,rfl⟩:=List.mem_map.1 hq;have h1:=hb v hv;have h2:=zgy v m;have h3:=zim (v-m) (v-m);omega
theorem zmE {m:Rat} {l:List Rat} {B C:Nat} (hl:l.length≤300) (hb:∀q,q∈l→ht q≤B) (hm:ht m≤C):ht (zaU (zeS m l))≤1+(2*(B+C+1)+1)*300:=by
 have h1:=zgz _ (zeS m l) (zqb hb hm);have h2:(2*(B+C+1)+1)*(zeS m l).length≤(2*(B+C+1)+1)*300:=Nat.mul_le_mul_left _ (by simpa[zeS] using hl);omega
theorem zkE {H:Hp} {v:Value} {rs:List Int} (hr:IL H v rs) (hn:rs.length≤300) {va:Option Addr} {vc:Nat} {vals:List Rat} {la:Option Addr} {lc:Nat} (hv:QL H (.slice va vals.length vc) vals) (h0:1≤vals.length) (h1:vals.length≤300) (hb:∀q,q∈vals→ht q≤100) :
  PC prog 20 #[zaE 2 0 (.slice la 0 lc) (.slice va vals.length vc),v] H fun r _=>r=zab (zd8 (atR vals (exL rs vals.length))):=by
 obtain⟨a,cap,rfl⟩:=SlC.val hr;have hchk:=zdW (va:=va) (vc:=vc) (la:=la) (lc:=lc) h0 h1;have hel:=zcY rs vals.length;refine BD func20 ntmps20 ?_
 repeat (first|refine RUN ?_|refine CV (hchk) ?_|refine CE (hchk) ?_)
 refine EVL.call rfl rfl rfl rfl rfl (zi2 hr oM hv) ?_;intro r1 G1 hL hG1;have hlb:=fun q hq=>hb q (zfg (zdv (rs:=rs) (n:=vals.length)) q hq);have hll:(atR vals (exL rs vals.length)).length≤300:=by rw[zb7];omega
 generalize atR vals (exL rs vals.length)=L at *
 have hm:=zm1 hL oM hlb
 repeat (first|refine RUN ?_|refine CV (hm) ?_|refine CE (hm) ?_)
 by_cases hz:0<L.length
 ·rw[qD hz];refine uR ?_;rfl
 ·rw[qC hz];refine uR ?_;obtain rfl:L=[]:=List.length_eq_zero_iff.1 oM;rw[ziv];exact zbM.symm
theorem zoo {H:Hp} {v:Value} {rs:List Int} (hr:IL H v rs) (hn:rs.length≤300) {va:Option Addr} {vc:Nat} {vals:List Rat} {la:Option Addr} {lc:Nat} (hv:QL H (.slice va vals.length vc) vals) (h0:1≤vals.length) (h1:vals.length≤300) (hb:∀q,q∈vals→ht q≤100) :
  PC prog 19 #[zaE 2 0 (.slice la 0 lc) (.slice va vals.length vc),v] H fun r _=>r=zab (zaU (zeS (zd8 (atR vals (exL rs vals.length))) (atR vals (exL rs vals.length)))):=by
 obtain⟨a,cap,rfl⟩:=SlC.val hr;have hchk:=zdW (va:=va) (vc:=vc) (la:=la) (lc:=lc) h0 h1;have hel:=zcY rs vals.length;have hmean:=zkE (la:=la) (lc:=lc) hr hn hv h0 h1 hb;have hvals:=zi2 (kd:=2) (cl:=0) (la:=la) (ln:=0) (lc:=lc) hr oM hv;have hlb:=fun q hq=>hb q (zfg (zdv (rs:=rs) (n:=vals.length)) q hq);have hll:(atR vals (exL rs vals.length)).length≤300:=by rw[zb7];omega
 generalize atR vals (exL rs vals.length)=L at *
 have hmh:=zkF hll hlb;generalize zd8 L=m at *
 have hms:sm m:=zaG hmh oM;refine BD func19 ntmps19 ?_
 repeat (first|refine RUN ?_|refine CV (hchk) ?_|refine CV (hmean) ?_|refine CE (hchk) ?_|refine CE (hmean) ?_)
 refine vA (hvals) ?_;intro r1 G1 hL hG1;obtain⟨a1,c1,rfl⟩:=SlC.val hL;have hs:SlC G1 (.slice a1 L.length c1) L.length 5 (L.flatMap fun q=>zah (zab q)):=hL;refine uR ?_;refine EV.loopK (ι:=Nat) [4,6,7,34,35] [4,7] (fun i=>[(36,.v (.int .i64 (i:Int)))]) (fun i=>[(6,50,zah (zab (zaU (zeS m (L.take i)))))]) (fun _=>[]) (fun i _=>i≤L.length) (fun i=>L.length-i) (0) rfl rfl ⟨rfl,trivial⟩ ⟨by rw[show zaU (zeS m (L.take 0))=0 from rfl,zaz];rfl,trivial⟩ rfl (fun _=>rfl) (Nat.zero_le _) ?_;rintro i G2 hG2 hi;refine uR ?_;refine EV.cond rfl (fun hlt=>?_) (fun hlt=>?_)
 ·simp only[nN]at hlt;obtain⟨x,hx⟩:=gE hlt;have hxb:=hlb x (qF hx);have hsum:=zmE (l:=L.take i) (by rw[List.length_take];omega) (fun q hq=>hlb q (List.mem_of_mem_take hq)) hmh;have hd:=zgy x m;have hdd:=zim (x-m) (x-m);have hsub:=zgO x m (zaG hxb oM) hms;have hmul:=zm6 (x-m) (x-m) (zaG hd oM) (zaG hd oM);have hadd:=zdR (zaU (zeS m (L.take i))) ((x-m)*(x-m)) (zaG hsum oM) (zaG hdd oM);rw[←zft,←zat hx]at hadd;refine uR ?_;refine EVL.idxM tO rfl rfl rfl rfl rfl rfl rfl rfl rfl ((hs.mono hG2)) (i) (rfl) (hlt) (QL.at (H:=H) (v:=.bool true) hx) ?_
  repeat (first|refine RUN ?_|refine CV (hsub) ?_|refine CE (hsub) ?_)
  apply EV.drawn 4 kR kR;intro xv yw;(repeat (first|refine' DD ?_|(refine' DC (hmul) (h:=?_);rotate_left)));(refine DJ.nil (fun G3 hG3 hF3=>?_);(case hS|hS2=>rfl))
  repeat (first|refine RUN ?_|refine CV (hadd) ?_|refine CE (hadd) ?_)
  refine⟨i+1,⟨?_,trivial⟩,sB,⟨rfl,trivial⟩,sB,rfl,hlt,hG3,by omega⟩;rw[zai i (by omega)];rfl
 ·simp only[nN]at hlt;obtain rfl:i=L.length:=by omega
  rw[List.take_length];refine uR ?_;rfl
theorem zgS {H:Hp} {cl:Int} {va:Option Addr} {vn vc:Nat} {la:Option Addr} {lc:Nat} {ls:List Int} (hv:IL H (.slice la ls.length lc) ls) {v:Value} {rs:List Int} (hr:IL H v rs) (hn:rs.length≤100000)
  (hrs:∀r,r∈rs→0≤r∧r<(ls.length:Int)) (hls:∀z,z∈ls→0≤z∧z<12) :
  PC prog 76 #[zaE 1 cl (.slice la ls.length lc) (.slice va vn vc),v] H fun r _=>r=.agg (zau (rs.length:Nat) (csL (atI ls rs)) (sqL (atI ls rs)) 0).toArray:=by
 obtain⟨a,cap,rfl⟩:=SlC.val hr;exact znZ hv hr hn hrs hls
def zh8 (L:List Int):Rat:=((L.length:Int):Rat)-((sqL L:Int):Rat) / ((L.length:Int):Rat)
theorem zon {H:Hp} {v:Value} {rs:List Int} (hr:IL H v rs) (hn:rs.length≤300) {va:Option Addr} {vc:Nat} {la:Option Addr} {lc:Nat} {ls:List Int} (hv:IL H (.slice la ls.length lc) ls) {cl:Int} (hc:1≤cl∧cl≤12) (h0:1≤ls.length) (h1:ls.length≤300) (hls:∀z,z∈ls→0≤z∧z<cl) :
  PC prog 19 #[zaE 1 cl (.slice la ls.length lc) (.slice va 0 vc),v] H fun r _=>r=zab (zh8 (atI ls (exL rs ls.length))):=by
 obtain⟨a,cap,rfl⟩:=SlC.val hr;have hchk:=zfj (va:=va) (vc:=vc) hv hc h0 h1 hls;have hlen:=zjF (cl:=cl) (va:=va) (vn:=0) (vc:=vc) (la:=la) (ln:=ls.length) (lc:=lc);have hel:=zcY rs ls.length;have hem:=zdv (rs:=rs) (n:=ls.length);have hex:=fun (G:Hp) (hG:H.Le G)=>zbS (hr.mono hG) oM ls.length;generalize exL rs ls.length=E at *
 have hLl:(atI ls E).length=E.length:=zb6 ls E;have hsq:=ziW (atI ls E);rw[hLl]at hsq;have hsq2:E.length*E.length≤300*300:=Nat.mul_le_mul oM oM;have hE:zh8 (atI ls E)=((E.length:Int):Rat)-((sqL (atI ls E):Int):Rat) / ((E.length:Int):Rat):=by unfold zh8;rw[hLl]
 have hn2:=zbG (E.length:Int);have hn3:bl (E.length:Int).natAbs≤20:=za4 oM;have hs2:=zbG (sqL (atI ls E):Int);have hs3:bl (sqL (atI ls E):Int).natAbs≤20:=za4 oM;have hdv:=zfA ((sqL (atI ls E):Int):Rat) ((E.length:Int):Rat);have hof:=zgj (E.length:Int) oM oM;have hsub:=zgO ((E.length:Int):Rat) (((sqL (atI ls E):Int):Rat) / ((E.length:Int):Rat)) (by unfold sm;omega) (by unfold sm;omega);rw[hE];refine BD func19 ntmps19 ?_
 repeat (first|refine RUN ?_|refine CV (hchk) ?_|refine CE (hchk) ?_)
 apply EV.drawn 7 kR kR;intro xv yw;(repeat (first|refine' DD ?_|(refine' DC (hlen) (h:=?_);rotate_left)));refine' vB (cO func77) (fun G hG hd=>hex G hG) (fun _ _ _ h k=>SlN.mono h k) ?_;rotate_left;refine' vC (cO func76) (fun G hG hd=>zgS (hv.mono hG) (hd.head kR) oM hem (fun z hz=>⟨(hls z hz).1,by have:=(hls z hz).2;omega⟩)) ?_;rotate_left;(repeat refine' DD ?_);(refine DJ.nil (fun G1 hG1 hF1=>?_);(case hS|hS2=>rfl))
 repeat (first|refine RUN ?_|refine CV (hof) ?_|refine CE (hof) ?_)
 (first|refine EVL.unbox (5) rfl fun b=>?_|refine EV.unbox (5) rfl fun b=>?_);refine EVL.callW rfl rfl rfl rfl rfl ([(b,147,zau (E.length:Nat) (csL (atI ls E)) (sqL (atI ls E)) 0)]) ([]) rfl (zn3 (zbt _) oM oM) ?_;rintro v ow G2 ⟨rfl,rfl⟩ hG2
 repeat (first|refine RUN ?_|refine CV (hsub) ?_|refine CE (hsub) ?_)
 rfl
theorem znc:∀l:List Int,zgg (l.map iv)=true
 | []=>rfl
 | _::l=>by rw[List.map_cons];unfold zgg;rw[znc l];rfl
theorem RL.nil (H:Hp) (a:Option Addr) (c:Nat):RL H (.slice a 0 c) []:=(RVs.nil H).rl ⟨rfl,.inl ⟨rfl,_,_,rfl⟩⟩
theorem IL.nil (H:Hp) (a:Option Addr) (c:Nat):IL H (.slice a 0 c) []:=⟨rfl,.inl ⟨rfl,_,_,rfl⟩⟩
theorem zin {H:Hp} {kd cl:Int} {sl sv:Value} {ls:List Int} {qs:List Rat} (hl:IL H sl ls) (hq:RL H sv qs) (hn:ls.length≤1000000) (hm:qs.length≤1000000) (hb:∀q,q∈qs→rq q) :
  PC prog 10 #[zaE kd cl sl sv] H fun r H'=>∃la lc va vc,r=zaE kd cl (.slice la ls.length lc) (.slice va qs.length vc)∧IL H' (.slice la ls.length lc) ls∧QL H' (.slice va qs.length vc) qs:=by
 obtain⟨a,cap,rfl⟩:=SlC.val hl;obtain⟨a2,cap2,rfl⟩:=hq.val;have hls:SlC H (.slice a ls.length cap) ls.length 1 (ls.map iv):=hl;by_cases e:ls.length=0
 ·obtain rfl:=List.length_eq_zero_iff.1 e;show PC prog 10 #[zaE kd cl (.slice a 0 cap) (.slice a2 qs.length cap2)] H _;refine BD func10 ntmps10 ?_;refine uR ?_;apply EV.drawn 11 kR kR;intro xv yw;(repeat refine' DD ?_);(refine' DJ.lit0 tO rfl rfl rfl rfl rfl rfl rfl ?_;rotate_left);(repeat refine' DD ?_);refine' DJ.append0E (u0:=xv 4) tO rfl rfl rfl rfl rfl rfl rfl rfl rfl (a) (cap) rfl (fun G hd=>hd.head kR) ?_;rotate_left;(repeat refine' DD ?_);refine' vB (cO func41) (fun G hG hd=>zhi (hq.mono hG) oM hb) (fun _ _ _ h k=>QL.mono h k) ?_;rotate_left;(refine DJ.nil (fun G1 hG1 hF1=>?_);(case hS|hS2=>rfl));obtain⟨hR,⟨g,hg⟩,_⟩:=hF1;obtain⟨a3,c3,e3⟩:=SlC.val hR;rw[e3]at hR;rw[hg,e3];refine uR ?_;exact⟨_,_,_,_,rfl,IL.nil _ _ _,hR⟩
 ·refine BD func10 ntmps10 ?_;refine uR ?_;apply EV.drawn 11 kR kR;intro xv yw;(repeat refine' DD ?_);(refine' DJ.lit0 tO rfl rfl rfl rfl rfl rfl rfl ?_;rotate_left);(repeat refine' DD ?_);refine' DJ.appendE (u0:=xv 4) tO rfl rfl rfl rfl rfl rfl rfl rfl rfl rfl (fun G hd=>hd.head kR) (hls) (Nat.pos_of_ne_zero e) oM ?_;rotate_left;(repeat refine' DD ?_);refine' vB (cO func41) (fun G hG hd=>zhi (hq.mono hG) oM hb) (fun _ _ _ h k=>QL.mono h k) ?_;rotate_left;(refine DJ.nil (fun G1 hG1 hF1=>?_);(case hS|hS2=>rfl));obtain⟨hR,hA,_⟩:=hF1;obtain⟨a3,c3,e3⟩:=SlC.val hR;obtain⟨a4,c4,e4⟩:=SlC.val hA;rw[e3]at hR;rw[e4]at hA;rw[e3,e4];refine uR ?_;exact⟨_,_,_,_,rfl,hA,hR⟩
def zhQ (H:Hp) (v:Value) (n:Nat) (qs:List Rat):Prop :=
 (∃s,v=zaE 2 0 (.slice none 0 0) s∧RL H s qs)∨∃(cl:Int) (s:Value) (ls:List Int),v=zaE 1 cl s (.slice none 0 0)∧1≤cl∧cl≤4∧ls.length=n∧(∀z,z∈ls→0≤z∧z<cl)∧IL H s ls
theorem zhQ.mono {H G:Hp} {v:Value} {n:Nat} {qs:List Rat} (h:zhQ H v n qs) (k:H.Le G):zhQ G v n qs:=by
 rcases h with ⟨s,e,h⟩ | ⟨cl,s,ls,e,h1,h2,h3,h4,h⟩
 ·exact .inl ⟨s,e,h.mono k⟩
 ·exact .inr ⟨cl,s,ls,e,h1,h2,h3,h4,h.mono k⟩
theorem zqX (z:Int):-9223372036854775808≤IntKind.i64.wrap z∧IntKind.i64.wrap z<9223372036854775808:=by
 rw[IntKind.wrap_i64];omega
theorem zqf {H:Hp} {v:Value} {l:List Int} (h:IL H v l) (hb:∀z,z∈l → -9223372036854775808≤z∧z<9223372036854775808) (kd:Int) (n:Nat) (hn:n≤1000) :
  PC prog 60 #[.int .i64 kd,v,.int .i64 (n:Int)] H fun r H'=>zhQ H' r n (zjf l n):=by
 obtain⟨a,cap,rfl⟩:=SlC.val h;have hpk:∀z c:Int,-9223372036854775808≤z∧z<9223372036854775808→1≤c∧c≤4→PV prog 26 #[.int .i64 z,.int .i64 c] (.int .i64 (z % c)):=fun z c hz hc=>zc4 z c hz oM oM;have hrow:=zpL h hb n oM;have hwb:=zqX (kd.tdiv 2);have hp4:=hpk _ 4 hwb oM;refine BD func60 ntmps60 ?_;refine uR ?_;by_cases hk:kd.tmod 2=0
 ·rw[show (kd.tmod 2 == 0)=true from beq_iff_eq.2 hk];refine uR ?_;refine vA (hrow) ?_;intro r G1 hr hG1;obtain⟨a3,c3,rfl⟩:=hr.val;refine uR ?_;exact .inl ⟨_,rfl,hr⟩
 ·rw[show (kd.tmod 2 == 0)=false from beq_eq_false_iff_ne.2 hk];refine uR ?_;generalize IntKind.i64.wrap (kd.tdiv 2)=k2 at *
  have hcl:1≤1+k2 % 4∧1+k2 % 4≤4:=by omega
  repeat (first|refine RUN ?_|refine CV (hp4) ?_|refine CE (hp4) ?_)
  rw[show IntKind.i64.wrap (1+k2 % 4)=1+k2 % 4 by rw[IntKind.wrap_i64];omega];generalize 1+k2 % 4=cl at *
  refine uR ?_;refine EV.loopK (ι:=Nat × List Int × Value × Ows) [1,2,6,7] [6] (fun q=>[(8,.v (.int .i64 (q.1:Int)))]) (fun q=>[(7,27,[.int .i64 1,.int .i64 cl,q.2.2.1,.slice none 0 0])]) (fun q=>q.2.2.2) (fun q _=>q.1≤n∧q.2.1.length=q.1∧(∀z,z∈q.2.1→0≤z∧z<cl)∧zaW 3 1 q.2.2.1 q.2.1.length (q.2.1.map iv) q.2.2.2) (fun q=>n-q.1) ((0,[],.slice none 0 0,[])) rfl rfl ⟨rfl,trivial⟩ ⟨rfl,trivial⟩ rfl (fun _=>rfl) (⟨Nat.zero_le _,rfl,by simp,zaW.nil _ _⟩) ?_;rintro⟨i,ls,w,ow⟩ G1 hG1 ⟨hi,hll,hlb,hown⟩;dsimp only at hi hll hlb hown;obtain⟨wa,wc,rfl⟩:=hown.val;refine uR ?_;refine EV.cond rfl (fun hlt=>?_) (fun hlt=>?_)
  ·simp only[nN]at hlt;refine uR ?_;refine EV.meetK (ι:=Int) [1,2,6,7,8] [6,7] (fun c=>[(9,.v (.int .i64 c))]) (fun _=>[]) (fun _=>ow) (fun c G=>G1.Le G ∧ -9223372036854775808≤c∧c<9223372036854775808) rfl rfl (fun _=>rfl) ?_ ?_
   ·refine EV.cond rfl (fun hc=>?_) (fun hc=>?_)
    ·simp only[nN]at hc;obtain⟨z,hz⟩:=gE hc;have hzb:=hb z (qF hz);refine uR ?_;refine vI ((h.mono hG1)) (i) (rfl) (hc) ((by rw[List.getElem?_map,hz];rfl)) ?_;refine uR ?_;exact⟨z,⟨rfl,trivial⟩,sB,trivial,sB,rfl,Hp.Le.refl _,hzb.1,hzb.2⟩
    ·try refine uR ?_
     exact⟨(i:Int),⟨rfl,trivial⟩,sB,trivial,sB,rfl,Hp.Le.refl _,by omega,by omega⟩
   ·rintro c G2 ⟨hG2,hc1,hc2⟩;have hpc:=hpk c cl ⟨hc1,hc2⟩ hcl;have hcb:0≤c % cl∧c % cl<cl:=⟨Int.emod_nonneg _ oM,Int.emod_lt_of_pos _ oM⟩;generalize c % cl=cc at *
    refine uR ?_;apply EV.drawn 7 kR kR;intro xv yw;(repeat (first|refine' DD ?_|(refine' DC (hpc) (h:=?_);rotate_left)));(refine' DJ.lit tO rfl rfl rfl rfl rfl rfl rfl rfl rfl rfl rfl rfl ?_;rotate_left);(refine DJ.nil (fun G3 hG3 hF3=>?_);(case hS|hS2=>rfl));refine EVL.append tO rfl rfl rfl rfl rfl rfl rfl rfl rfl rfl rfl rfl [] ow [] (qG _).symm hown (zel.ro hF3.1 oM) rfl oM ?_;intro v1 ow1 hown1;have hown2:=zaW.il hown1;clear hown1;obtain⟨va1,vc1,rfl⟩:=hown2.val;refine uR ?_;refine⟨(i+1,ls++[cc],_,ow1),⟨?_,trivial⟩,sB,⟨rfl,trivial⟩,sB,qG _,⟨hlt,by rw[List.length_append,hll];rfl,?_,hown2⟩,hG2.trans hG3,by dsimp only;omega⟩
    ·rw[zai i (by omega)];rfl
    ·intro z hz;rcases List.mem_append.1 hz with hz | hz
     ·exact hlb z hz
     ·obtain rfl:=List.mem_singleton.1 hz;exact hcb
  ·simp only[nN]at hlt;obtain rfl:i=n:=by omega
   (first|refine EVL.publishL [] ow [] ((qG _).symm) hown fun G2 hG2 hs=>?_|refine EV.publishL [] ow [] ((qG _).symm) hown fun G2 hG2 hs=>?_);refine uR ?_;exact .inr ⟨cl,_,ls,rfl,hcl.1,hcl.2,hll,hlb,hs⟩
theorem zmw {H:Hp} {v:Value} {l:List Int} (h:IL H v l) (h0:0<l.length) (hl:l.length≤1000):PW prog 259 #[v] H [] fun r ow _=>zaW 3 1 r l.length (l.map iv) ow:=by
 have hs:=h.2;rcases hs with ⟨e,_⟩ | ⟨b,off,cap,c,rfl,_⟩
 ·omega
 ·refine PW.body tO func259 rfl kR ntmps259 rfl rfl ?_;refine uR ?_;refine EVL.eqnil tO rfl rfl rfl rfl rfl rfl rfl ?_;refine uR ?_;refine EVL.lit0 tO rfl rfl rfl rfl rfl rfl rfl fun g0=>?_;refine uR ?_;refine EVL.append tO rfl rfl rfl rfl rfl rfl rfl rfl rfl rfl rfl rfl [] [(g0,3,[])] [] rfl (zaW.full (m:=0) rfl oM) (zel.ro h h0) (znc l) oM ?_;intro v1 ow1 hown1;refine uR ?_;rw[Nat.zero_add]at hown1;rw[qG];exact hown1
theorem zli {H:Hp} {v:Value} (h:IL H v []):PC prog 259 #[v] H fun r _=>∃a cap,r=.slice a 0 cap:=by
 obtain⟨a,cap,rfl⟩:=SlC.val h;refine BD func259 ntmps259 ?_;refine uR ?_;refine EVL.eqnil tO rfl rfl rfl rfl rfl rfl rfl ?_
 cases a with
 | none =>
  refine uR ?_;exact⟨_,_,rfl⟩
 | some x =>
  refine uR ?_;refine EVL.lit0 tO rfl rfl rfl rfl rfl rfl rfl fun g0=>?_;refine uR ?_;refine EVL.append0 tO rfl rfl rfl rfl rfl rfl rfl rfl rfl (qH _) ?_;refine uR ?_;exact⟨_,_,rfl⟩
theorem zj1 {H:Hp} (a:Option Addr) (cap:Nat) (clo:Value):PC prog 260 #[.slice a 0 cap,clo] H fun v _=>v=.tuple #[]:=by
 have hst:PC prog 277 #[.slice a 0 cap,.int .i64 0,clo] H fun v _=>v=.tuple #[]:=by
  have hno:∀G:Hp,PC prog 285 #[.slice a 0 cap,.int .i64 0,.int .i64 0,clo] G fun v _=>v=.tuple #[]:=fun G=>by
   refine BD func285 ntmps285 ?_;refine uR ?_;refine EV.loopK (ι:=Unit) [] [] (fun q=>[(2,.v (.int .i64 0)),(8,.v (.int .i64 1))]) (fun _=>[]) (fun _=>[]) (fun _ _=>True) (fun _=>0) (()) rfl rfl ⟨rfl,rfl,trivial⟩ trivial rfl (fun _=>rfl) (trivial) ?_;rintro⟨⟩ G1 hG1 _;refine uR ?_;rfl
  refine BD func277 ntmps277 ?_;refine uR ?_;refine EV.loopK (ι:=Unit) [0,1,2,6] [] (fun q=>[(7,.v (.int .i64 0)),(8,.v (.int .i64 20))]) (fun _=>[]) (fun _=>[]) (fun _ _=>True) (fun _=>0) (()) rfl rfl ⟨rfl,rfl,trivial⟩ trivial rfl (fun _=>rfl) (trivial) ?_;rintro⟨⟩ G1 hG1 _;refine uR ?_;refine vA (hno _) ?_;rintro r G2 rfl hG2;refine uR ?_;refine EV.loopK (ι:=Unit) [1] [] (fun q=>[(6,.v (.int .i64 20))]) (fun _=>[]) (fun _=>[]) (fun _ _=>True) (fun _=>0) (()) rfl rfl ⟨rfl,trivial⟩ trivial rfl (fun _=>rfl) (trivial) ?_;rintro⟨⟩ G3 hG3 _;refine uR ?_;rfl
 refine BD func260 ntmps260 ?_;refine uR ?_;refine vA (hst) ?_;rintro r G2 rfl hG2;refine uR ?_;rfl
def zlb (X:List (List Rat)) (col:Int) (rs m:List Int):Prop:=(rs.all (zdk X col)=true∧m.Perm rs∧zgi (zbp X col) m)∨(rs.all (zdk X col)=false∧m=[])
theorem znI {H:Hp} {vx vr:Value} {X:List (List Rat)} {rs:List Int} {col:Int} (hX:QLL H vx X) (hr:IL H vr rs) (hn:rs.length≤20) (hrs:∀r,r∈rs→0≤r∧r<(X.length:Int)) (hsm:∀x,x∈X→∀q,q∈x→sm q) :
  PC prog 247 #[vx,vr,.int .i64 col] H fun r H'=>∃m,IL H' r m∧zlb X col rs m:=by
 obtain⟨a,cap,rfl⟩:=SlC.val hr;obtain⟨xa,xc,rfl⟩:=hX.val;refine BD func247 ntmps247 ?_;refine uR ?_;refine EV.loopK (ι:=Nat) [1,3,5,10,11] [3,5] (fun i=>[(12,.v (.int .i64 (i:Int)))]) (fun _=>[]) (fun _=>[]) (fun i _=>i≤rs.length∧∀r,r∈rs.take i→zdk X col r=true) (fun i=>rs.length-i) (0) rfl rfl ⟨rfl,trivial⟩ trivial rfl (fun _=>rfl) (⟨Nat.zero_le _,by simp⟩) ?_;rintro i G1 hG1 ⟨hi,hall⟩;refine uR ?_;refine EV.cond rfl (fun hlt=>?_) (fun hlt=>?_)
 ·simp only[nN]at hlt;obtain⟨r,hri⟩:=gE hlt;have hb:=hrs r (qF hri);obtain⟨R,rfl⟩:=Int.eq_ofNat_of_zero_le hb.1;obtain⟨x,hx⟩:∃x,X[R]?=some x:=⟨_,qA oM⟩;have hRl:R<X.length:=by omega
  obtain⟨vs,hvs,hs⟩:=hX.mono hG1;obtain⟨a1,c1,hu,hQ⟩:=hvs.at hx
  have hhas:zdk X col (R:Int)=(decide (0≤col) && decide (col<(x.length:Int))):=by
   unfold zdk;rw[Int.toNat_natCast,qB,hx];rfl
  have hno:zdk X col (R:Int)=false→rs.all (zdk X col)=false:=fun h=>by
   rw[List.all_eq_false];exact⟨_,qF hri,by rw[h];decide⟩
  refine uR ?_;refine vI ((hr.mono hG1)) (i) (rfl) (hlt) ((by rw[List.getElem?_map,hri];rfl)) ?_;refine uR ?_;by_cases hc:col<0
  ·apply EV.drawn 11 kR kR;intro xv yw;(repeat refine' DD ?_);rw[qD hc];(repeat refine' DD ?_);(refine DJ.nil (fun G1 hG1 hF1=>?_);(case hS|hS2=>rfl));refine uR ?_;exact⟨[],IL.nil _ _ _,.inr ⟨hno (by rw[hhas];simp;omega),rfl⟩⟩
  ·apply EV.drawn 11 kR kR;intro xv yw;(repeat refine' DD ?_);rw[qC hc];(repeat refine' DD ?_);refine' vJ (hs) (R) (rfl) (hRl) (hu) ?_;rotate_left;(repeat refine' DD ?_);(refine DJ.nil (fun G1 hG1 hF1=>?_);(case hS|hS2=>rfl));refine uR ?_;by_cases hc2:col≥(x.length:Int)
   ·rw[qD hc2];refine uR ?_;exact⟨[],IL.nil _ _ _,.inr ⟨hno (by rw[hhas];simp;omega),rfl⟩⟩
   ·rw[qC hc2];refine uR ?_;refine⟨i+1,⟨?_,trivial⟩,sB,trivial,sB,rfl,⟨hlt,fun z hz=>?_⟩,by assumption,by omega⟩
    ·rw[zai i (by omega)];rfl
    ·rw[zat hri]at hz;rcases List.mem_append.1 hz with hz | hz
     ·exact hall z hz
     ·rw[List.mem_singleton.1 hz,hhas];simp;omega
 ·simp only[nN]at hlt;obtain rfl:i=rs.length:=by omega
  rw[List.take_length]at hall;have hall2:rs.all (zdk X col)=true:=List.all_eq_true.2 hall;refine uR ?_;(first|refine EVL.unbox (3) rfl fun bx=>?_|refine EV.unbox (3) rfl fun bx=>?_);(first|refine EVL.unbox (5) rfl fun bc=>?_|refine EV.unbox (5) rfl fun bc=>?_);(first|refine EVL.publish [] [(bx,_,_)] rfl fun G2 hG2 hbc=>?_|refine EV.publish [] [(bx,_,_)] rfl fun G2 hG2 hbc=>?_);(first|refine EVL.publish [] [] rfl fun G3 hG3 hbx=>?_|refine EV.publish [] [] rfl fun G3 hG3 hbx=>?_);have hXG:=hX.mono (hG1.trans (hG2.trans hG3));have hbcG:=hG3 _ _ hbc;have hrG:=hr.mono (hG1.trans (hG2.trans hG3));by_cases h0:rs.length=0
  ·obtain rfl:=List.length_eq_zero_iff.1 h0;refine vA (zli hrG) ?_;rintro r G4 ⟨a4,c4,rfl⟩ hG4;refine uR ?_;refine EVL.fn2 rfl rfl rfl rfl rfl rfl ?_;refine vA (zj1 a4 c4 _) ?_;rintro r G5 rfl hG5;refine uR ?_;exact⟨[],IL.nil _ _ _,.inl ⟨hall2,List.Perm.refl _,List.Pairwise.nil⟩⟩
  ·refine EVL.callW rfl rfl rfl rfl rfl ([]) ([]) rfl (zmw hrG oM oM) ?_;rintro r ow G4 hown hG4;obtain⟨g,c4,sp,rfl,rfl,hl4,hm4,hx4⟩:=hown.block oM;refine uR ?_;refine EVL.fn2 rfl rfl rfl rfl rfl rfl ?_;refine vW ([(g,3,rs.map iv++sp)]) ([]) (zl6 (f:=261) (cs:=[.pointer (some ⟨bx,0,none⟩),.pointer (some ⟨bc,0,none⟩)]) (key:=zbp X col) hn (cO func261) (fun G hG x y hx hy=>zmx (hXG.mono (hG4.trans hG)) ((hG4.trans hG) _ _ hbx) ((hG4.trans hG) _ _ hbcG) hsm (hrs x hx).1 (hrs x hx).2 (hrs y hy).1 (hrs y hy).2 (hall x hx) (hall y hy))) ?_;rintro v ow G5 ⟨rfl,m,rfl,hp,hris⟩ hG5;have hml:=hp.length_eq;have hown2:zaW 3 1 (.slice (some ⟨g,0,none⟩) m.length c4) m.length (m.map iv) [(g,3,m.map iv++sp)]:=⟨by simp,.inr ⟨g,c4,sp,rfl,rfl,by rw[←hl4];simp[hml],by omega,hx4⟩⟩;rw[←hml];(first|refine EVL.publishL [] [(g,3,m.map iv++sp)] [] (rfl) hown2 fun G6 hG6 hs6=>?_|refine EV.publishL [] [(g,3,m.map iv++sp)] [] (rfl) hown2 fun G6 hG6 hs6=>?_);refine uR ?_;exact⟨m,hs6,.inl ⟨hall2,hp,hris⟩⟩
theorem zm3 (a b:Rat) (ha:ht a≤100000) (hb:ht b≤100000):PV prog 249 #[zab a,zab b] (zab ((a+b) / 2)):=by
 refine PV.of_pc ?_;have h1:=zd3 a b
 have h2:ht ((2:Int):Rat)≤10:=by
  have:=zbG 2;have h2:bl (2:Int).natAbs≤5:=za4 (by decide);omega
 have hadd:=zdR a b (zaG ha oM) (zaG hb oM);have hof:=zgj 2 oM oM;have hdiv:=zih (a+b) ((2:Int):Rat) (zaG h1 oM) (zaG h2 oM) (by decide);rw[show ((2:Int):Rat)=2 from rfl]at hdiv hof;refine BD func249 ntmps249 ?_
 repeat (first|refine RUN ?_|refine CV (hadd) ?_|refine CV (hof) ?_|refine CV (hdiv) ?_|refine CE (hadd) ?_|refine CE (hof) ?_|refine CE (hdiv) ?_)
 rfl
theorem zjO {a b:Rat} (h:a≤b):zcA a b≤0:=by
 unfold zcA;split
 ·omega
 ·split
  ·rename_i k;exact absurd k (Rat.not_lt.2 h)
  ·omega
def zaZ (X:List (List Rat)) (col:Int) (t:Rat) (es:List Int):List Int:=es.filter fun r=>zdk X col r && decide (zbp X col r≤t)
def zaC (X:List (List Rat)) (col:Int) (t:Rat) (es:List Int):List Int:=es.filter fun r=>zdk X col r && !decide (zbp X col r≤t)
theorem zfw {p:Int→Bool} {es:List Int} {i:Nat} {r:Int} (h:es[i]?=some r):(es.take (i+1)).filter p=(es.take i).filter p++if p r then [r] else []:=by
 rw[zat h,List.filter_append];cases hp:p r <;> simp[hp]
theorem zo8 {H:Hp} {vx vr:Value} {X:List (List Rat)} {rs:List Int} {col:Int} {t:Rat} (hX:QLL H vx X) (hr:IL H vr rs) (hn:rs.length≤100000) (hsm:∀x,x∈X→∀q,q∈x→sm q) (ht:sm t) :
  PC prog 169 #[vx,vr,.int .i64 col,zab t] H fun r H'=>∃u w,r=.tuple #[u,w]∧IL H' u (zaZ X col t (exL rs X.length))∧IL H' w (zaC X col t (exL rs X.length)):=by
 obtain⟨a,cap,rfl⟩:=SlC.val hr;obtain⟨xa,xc,rfl⟩:=hX.val;refine BD func169 ntmps169 ?_;refine uR ?_;refine EVL.call rfl rfl rfl rfl rfl (zbS hr oM X.length) ?_;intro r1 G0 he hG0;have hel:=zcY rs X.length;have heb:=zdv (rs:=rs) (n:=X.length);generalize exL rs X.length=es at *
 obtain⟨a1,c1,rfl⟩:=SlC.val he;refine uR ?_;refine EV.loopK (ι:=Nat × Value × Value × Ows × Ows) [0,2,7,15,16] [7] (fun q=>[(8,.v q.2.1),(9,.v q.2.2.1),(17,.v (.int .i64 (q.1:Int)))]) (fun _=>[]) (fun q=>q.2.2.2.1++q.2.2.2.2) (fun q _=>q.1≤es.length∧zaW 3 1 q.2.1 (zaZ X col t (es.take q.1)).length ((zaZ X col t (es.take q.1)).map iv) q.2.2.2.1∧zaW 3 1 q.2.2.1 (zaC X col t (es.take q.1)).length ((zaC X col t (es.take q.1)).map iv) q.2.2.2.2) (fun q=>es.length-q.1) ((0,.slice none 0 0,.slice none 0 0,[],[])) rfl rfl ⟨rfl,rfl,rfl,trivial⟩ trivial rfl (fun _=>rfl) (⟨Nat.zero_le _,zaW.nil _ _,zaW.nil _ _⟩) ?_;rintro⟨i,w1,w2,ow1,ow2⟩ G1 hG1 ⟨hi,hown1,hown2⟩;dsimp only at hi hown1 hown2;obtain⟨wa1,wc1,rfl⟩:=hown1.val;obtain⟨wa2,wc2,rfl⟩:=hown2.val;refine uR ?_;refine EV.cond rfl (fun hlt=>?_) (fun hlt=>?_)
 ·simp only[nN]at hlt;obtain⟨r,hri⟩:=gE hlt;have hb:=heb r (qF hri);obtain⟨R,rfl⟩:=Int.eq_ofNat_of_zero_le hb.1;obtain⟨x,hx⟩:∃x,X[R]?=some x:=⟨_,qA oM⟩;have hRl:R<X.length:=by omega
  obtain⟨vs,hvs,hs⟩:=hX.mono (hG0.trans hG1);obtain⟨a2,c2,hu,hQ⟩:=hvs.at hx;have hlo:=zfw (p:=fun r=>zdk X col r && decide (zbp X col r≤t)) hri;have hhi:=zfw (p:=fun r=>zdk X col r && !decide (zbp X col r≤t)) hri
  have hhas:zdk X col (R:Int)=(decide (0≤col) && decide (col<(x.length:Int))):=by
   unfold zdk;rw[Int.toNat_natCast,qB,hx];rfl
  have hl1:(zaZ X col t (es.take i)).length≤i:=qI (List.length_filter_le _ _) (by rw[List.length_take];omega);have hl2:(zaC X col t (es.take i)).length≤i:=qI (List.length_filter_le _ _) (by rw[List.length_take];omega);have wn:IntKind.i64.wrap ((i:Int)+1)=((i+1:Nat):Int):=zai i oM;refine uR ?_;refine vI ((he.mono hG1)) (i) (rfl) (hlt) ((by rw[List.getElem?_map,hri];rfl)) ?_;refine uR ?_;by_cases hc:col<0
  ·have hno:zdk X col (R:Int)=false:=by rw[hhas];simp;omega
   rw[hno,Bool.false_and,if_neg (by decide),qG]at hlo hhi;rw[qD hc];refine uR ?_;refine⟨(i+1,_,_,ow1,ow2),⟨rfl,rfl,?_,trivial⟩,sB,trivial,sB,rfl,⟨hlt,by unfold zaZ;rw[hlo];exact hown1,by unfold zaC;rw[hhi];exact hown2⟩,Hp.Le.refl _,by dsimp only;omega⟩;rw[wn];rfl
  ·rw[qC hc];refine uR ?_;refine vI (hs) (R) (rfl) (hRl) (hu) ?_;refine uR ?_;by_cases hc2:col≥(x.length:Int)
   ·have hno:zdk X col (R:Int)=false:=by rw[hhas];simp;omega
    rw[hno,Bool.false_and,if_neg (by decide),qG]at hlo hhi;rw[qD hc2];refine uR ?_;refine⟨(i+1,_,_,ow1,ow2),⟨rfl,rfl,?_,trivial⟩,sB,trivial,sB,rfl,⟨hlt,by unfold zaZ;rw[hlo];exact hown1,by unfold zaC;rw[hhi];exact hown2⟩,Hp.Le.refl _,by dsimp only;omega⟩;rw[wn];rfl
   ·have hyes:zdk X col (R:Int)=true:=by rw[hhas];simp;omega
    obtain⟨R',C,x',q,hRR,rfl,hx',hq⟩:=zfz hb.1 hb.2 hyes;obtain rfl:R=R':=by omega
    rw[hx]at hx';cases hx';have hk:=zfn (X:=X) rfl rfl hx hq;have hs2:SlC G1 (.slice a2 x.length c2) x.length 5 (x.flatMap fun q=>zah (zab q)):=hQ;have hCl:=(qE.1 hq).1;have hcmp:=zcN q t (hsm x (qF hx) q (qF hq)) ht;rw[hyes,Bool.true_and,hk]at hlo hhi;rw[qC hc2];refine uR ?_;apply EV.drawn 8 kR kR;intro xv yw;(repeat refine' DD ?_);refine' vJ (hs) (R) (rfl) (hRl) (hu) ?_;rotate_left;(repeat refine' DD ?_);refine' DJ.idxM tO rfl rfl rfl rfl rfl rfl rfl rfl rfl (hs2) (C) (rfl) (hCl) (QL.at (H:=H) (v:=.bool true) hq) ?_;rotate_left;(repeat refine' DD ?_);(refine DJ.nil (fun G2 hG2 hF2=>?_);(case hS|hS2=>rfl))
    repeat (first|refine RUN ?_|refine CV (hcmp) ?_|refine CE (hcmp) ?_)
    by_cases hle:q≤t
    ·have ho:zcA q t≤0:=zjO hle;rw[qD hle,if_pos rfl]at hlo;rw[qD hle,if_neg (by decide),qG]at hhi;rw[qD ho];refine uR ?_;refine EVL.app1 tO rfl rfl rfl rfl rfl rfl rfl rfl rfl rfl rfl rfl rfl rfl rfl rfl rfl rfl rfl (fun _=>rfl) (ow1) (ow2) (rfl) (hown1) oM fun _=>?_;intro v' ow' hown';refine uR ?_;refine⟨(i+1,v',_,ow',ow2),⟨rfl,rfl,?_,trivial⟩,sB,trivial,sB,rfl,⟨hlt,by unfold zaZ;rw[hlo];exact hown'.il,by unfold zaC;rw[hhi];exact hown2⟩,by assumption,by dsimp only;omega⟩;rw[wn];rfl
    ·have ho:¬zcA q t≤0:=by
      have:=Rat.not_le.1 hle;unfold zcA;rw[if_neg (fun k=>absurd (Rat.le_of_lt k) (Rat.not_le.2 this)),if_pos this];omega
     rw[qC hle,if_neg (by decide),qG]at hlo;rw[qC hle,Bool.not_false,if_pos rfl]at hhi;rw[qC ho];refine uR ?_;refine EVL.swapOw ow1 ow2 rfl ?_;refine EVL.app1 tO rfl rfl rfl rfl rfl rfl rfl rfl rfl rfl rfl rfl rfl rfl rfl rfl rfl rfl rfl (fun _=>rfl) (ow2) (ow1) (rfl) (hown2) oM fun _=>?_;intro v' ow' hown';refine EVL.swapOw ow' ow1 rfl ?_;refine uR ?_;refine⟨(i+1,_,v',ow1,ow'),⟨rfl,rfl,?_,trivial⟩,sB,trivial,sB,rfl,⟨hlt,by unfold zaZ;rw[hlo];exact hown1,by unfold zaC;rw[hhi];exact hown'.il⟩,by assumption,by dsimp only;omega⟩;rw[wn];rfl
 ·simp only[nN]at hlt;obtain rfl:i=es.length:=by omega
  rw[List.take_length]at hown1 hown2 ⊢;(first|refine EVL.publishL [] ow1 ow2 (rfl) hown1 fun G2 hG2 hs2=>?_|refine EV.publishL [] ow1 ow2 (rfl) hown1 fun G2 hG2 hs2=>?_);(first|refine EVL.publishL [] ow2 [] ((qG _).symm) hown2 fun G3 hG3 hs3=>?_|refine EV.publishL [] ow2 [] ((qG _).symm) hown2 fun G3 hG3 hs3=>?_);refine uR ?_;exact⟨_,_,rfl,hs2.mono hG3,hs3⟩
section
variable {pre S S' post vs:List Value} {k:Nat}
theorem za3 (h:pre.length=k) (j s:Nat) (hj:j+s≤S.length) (hv:(S.drop j).take s=vs):((pre++(S++post)).drop (k+j)).take s=vs:=by
 rw[←List.drop_drop,List.drop_left' h,List.drop_append_of_le_length oM,List.take_append_of_le_length (by rw[List.length_drop];omega),hv]
theorem zeW (h:pre.length=k) (i j s:Nat) (hj:i+j+s≤S.length) (hv:(S.drop (i+j)).take s=vs):((pre++(S++post)).drop (k+i+j)).take s=vs:=by
 rw[Nat.add_assoc];exact za3 h (i+j) s hj hv
theorem zbH (h:pre.length=k) (j s:Nat) (hj:j+s≤S.length) (hv:S.take j++vs++S.drop (j+s)=S'):(pre++(S++post)).take (k+j)++vs++(pre++(S++post)).drop (k+j+s)=pre++(S'++post):=by
 subst h;rw[←hv,List.take_append,List.take_of_length_le oM,show pre.length+j-pre.length=j by omega,List.take_append_of_le_length oM,Nat.add_assoc,←List.drop_drop,List.drop_left,List.drop_append_of_le_length (by omega)];simp only[List.append_assoc]
theorem zhW (h:pre.length=k) (i j s:Nat) (hj:i+j+s≤S.length) (hv:S.take (i+j)++vs++S.drop (i+j+s)=S'):(pre++(S++post)).take (k+i+j)++vs++(pre++(S++post)).drop (k+i+j+s)=pre++(S'++post):=by
 rw[Nat.add_assoc k i j];exact zbH h (i+j) s hj hv
theorem zcT (h:pre.length=k) {j s:Nat} (hj:j+s≤S.length):k+j+s≤(pre++(S++post)).length:=by
 rw[List.length_append,List.length_append];omega
theorem zkh (h:pre.length=k) {i j s:Nat} (hj:i+j+s≤S.length):k+i+j+s≤(pre++(S++post)).length:=by
 rw[List.length_append,List.length_append];omega
end
section
variable {H:Hp} {b k:Nat} {T:TypeId} {pre post:List Value} (hk:pre.length=k)
include hk
theorem zp0 {cl:Int} {la:Option Addr} {ln lc:Nat} {va:Option Addr} {vc:Nat} {vals:List Rat} (hv:QL H (.slice va vals.length vc) vals) {r n:Nat} (hn:n≤1000000) {x q:Rat} (hr:vals[r]?=some x) (hx:sm x) (hq:sm q) {cs:List Int} (hc:cs.length=12) {sq:Int} :
  PW prog 125 #[.pointer (some ⟨b,k,none⟩),zaE 2 cl (.slice la ln lc) (.slice va vals.length vc),.int .i64 (r:Int)] H [(b,T,pre++(zau n cs sq q++post))] fun v ow _=>v=.tuple #[]∧ow=[(b,T,pre++(zau ((n+1:Nat):Int) cs sq (q+x)++post))]:=by
 have hadd:=zdR q x hq hx;have hlen:=zao (n:=(n:Int)) (cs:=cs) (sq:=sq) (q:=q) hc;have hlen2:=zao (n:=((n+1:Nat):Int)) (cs:=cs) (sq:=sq) (q:=q) hc;obtain⟨hrl,_⟩:=qE.1 hr;have hs:SlC H (.slice va vals.length vc) vals.length 5 (vals.flatMap fun q=>zah (zab q)):=hv;refine PW.body tO func125 rfl kR ntmps125 rfl rfl ?_;refine uR ?_;refine RP ?_;refine EVL.loadOwn tO rfl rfl rfl rfl rfl rfl (0) rfl (za3 hk 0 1 oM zb4) rfl rfl ?_;refine RP ?_;rw[show IntKind.i64.wrap ((n:Int)+1)=((n+1:Nat):Int) by rw[IntKind.wrap_i64];omega];refine EVL.storeOwn tO rfl rfl rfl rfl rfl rfl ([]) ([]) rfl rfl rfl rfl ((zcT hk (j:=0) (s:=1) oM)) (zbH hk 0 1 oM zbO) ?_;refine uR ?_;apply EV.drawn 11 kR kR;intro xv yw;(repeat (first|refine' DD ?_|refine' vN ?_|refine' vF ?_));refine' DJ.ofVal (zaa.loadOwn tO rfl rfl rfl rfl (0) rfl (za3 hk 14 5 oM (zei hc)) rfl rfl) rfl rfl rfl ?_;rotate_left;(repeat (first|refine' DD ?_|refine' vN ?_|refine' vF ?_));refine' DJ.idxM tO rfl rfl rfl rfl rfl rfl rfl rfl rfl (hs) (r) (rfl) (hrl) (QL.at (H:=H) (v:=.bool true) hr) ?_;rotate_left;(repeat (first|refine' DD ?_|(refine' DC (hadd) (h:=?_);rotate_left)));(refine DJ.nil (fun G1 hG1 hF1=>?_);(case hS|hS2=>rfl));refine RP ?_;refine EVL.storeOwn tO rfl rfl rfl rfl rfl rfl ([]) ([]) rfl rfl rfl rfl ((zcT hk (j:=14) (s:=5) oM)) (zbH hk 14 5 oM (zc5 hc)) ?_;refine uR ?_;exact⟨rfl,rfl⟩
theorem zov {cl:Int} {la:Option Addr} {ln lc:Nat} {va:Option Addr} {vc:Nat} {vals:List Rat} (hv:QL H (.slice va vals.length vc) vals) {r n:Nat} (hn:n≤1000000) {x q:Rat} (hr:vals[r]?=some x) (hx:sm x) (hq:sm q) {cs:List Int} (hc:cs.length=12) {sq:Int} :
  PW prog 262 #[.pointer (some ⟨b,k,none⟩),zaE 2 cl (.slice la ln lc) (.slice va vals.length vc),.int .i64 (r:Int)] H [(b,T,pre++(zau ((n+1:Nat):Int) cs sq q++post))] fun v ow _=>v=.tuple #[]∧ow=[(b,T,pre++(zau (n:Int) cs sq (q-x)++post))]:=by
 have hsub:=zgO q x hq hx;have hlen:=zao (n:=(n:Int)) (cs:=cs) (sq:=sq) (q:=q) hc;have hlen2:=zao (n:=((n+1:Nat):Int)) (cs:=cs) (sq:=sq) (q:=q) hc;obtain⟨hrl,_⟩:=qE.1 hr;have hs:SlC H (.slice va vals.length vc) vals.length 5 (vals.flatMap fun q=>zah (zab q)):=hv;refine PW.body tO func262 rfl kR ntmps262 rfl rfl ?_;refine uR ?_;refine RP ?_;refine EVL.loadOwn tO rfl rfl rfl rfl rfl rfl (0) rfl (za3 hk 0 1 oM zb4) rfl rfl ?_;refine RP ?_;rw[show IntKind.i64.wrap (((n+1:Nat):Int)-1)=(n:Int) by rw[IntKind.wrap_i64];omega];refine EVL.storeOwn tO rfl rfl rfl rfl rfl rfl ([]) ([]) rfl rfl rfl rfl ((zcT hk (j:=0) (s:=1) oM)) (zbH hk 0 1 oM zbO) ?_;refine uR ?_;apply EV.drawn 11 kR kR;intro xv yw;(repeat (first|refine' DD ?_|refine' vN ?_|refine' vF ?_));refine' DJ.ofVal (zaa.loadOwn tO rfl rfl rfl rfl (0) rfl (za3 hk 14 5 oM (zei hc)) rfl rfl) rfl rfl rfl ?_;rotate_left;(repeat (first|refine' DD ?_|refine' vN ?_|refine' vF ?_));refine' DJ.idxM tO rfl rfl rfl rfl rfl rfl rfl rfl rfl (hs) (r) (rfl) (hrl) (QL.at (H:=H) (v:=.bool true) hr) ?_;rotate_left;(repeat (first|refine' DD ?_|(refine' DC (hsub) (h:=?_);rotate_left)));(refine DJ.nil (fun G1 hG1 hF1=>?_);(case hS|hS2=>rfl));refine RP ?_;refine EVL.storeOwn tO rfl rfl rfl rfl rfl rfl ([]) ([]) rfl rfl rfl rfl ((zcT hk (j:=14) (s:=5) oM)) (zbH hk 14 5 oM (zc5 hc)) ?_;refine uR ?_;exact⟨rfl,rfl⟩
theorem zpY {cl:Int} {va:Option Addr} {vn vc:Nat} {la:Option Addr} {lc:Nat} {ls:List Int} (hv:IL H (.slice la ls.length lc) ls) {r n:Nat} (hn:n≤1000000) {j m sq:Nat} (hr:ls[r]?=some (j:Int)) (hj:j<12) {cs:List Int} (hc:cs.length=12) (hm:cs[j]?=some (m:Int)) (hmb:m≤1000000) (hsb:sq≤10000000000000) {q:Rat} :
  PW prog 125 #[.pointer (some ⟨b,k,none⟩),zaE 1 cl (.slice la ls.length lc) (.slice va vn vc),.int .i64 (r:Int)] H [(b,T,pre++(zau n cs sq q++post))] fun v ow _=>v=.tuple #[]∧ow=[(b,T,pre++(zau ((n+1:Nat):Int) (cs.set j ((m+1:Nat):Int)) ((sq+2*m+1:Nat):Int) q++post))]:=by
 have hlen:=zao (n:=(n:Int)) (cs:=cs) (sq:=(sq:Int)) (q:=q) hc;have hlen2:=zao (n:=((n+1:Nat):Int)) (cs:=cs) (sq:=(sq:Int)) (q:=q) hc;have hlen3:=zao (n:=((n+1:Nat):Int)) (cs:=cs) (sq:=((sq+2*m+1:Nat):Int)) (q:=q) hc;obtain⟨hrl,_⟩:=qE.1 hr
 have w1:IntKind.i64.wrap ((sq:Int)+IntKind.i64.wrap (IntKind.i64.wrap (2*(m:Int))+1))=((sq+2*m+1:Nat):Int):=by
  rw[show IntKind.i64.wrap (2*(m:Int))=2*(m:Int) by rw[IntKind.wrap_i64];omega,show IntKind.i64.wrap (2*(m:Int)+1)=2*(m:Int)+1 by rw[IntKind.wrap_i64];omega,IntKind.wrap_i64];omega
 have w2:IntKind.i64.wrap ((m:Int)+1)=((m+1:Nat):Int):=by rw[IntKind.wrap_i64];omega
 refine PW.body tO func125 rfl kR ntmps125 rfl rfl ?_;refine uR ?_;refine RP ?_;refine EVL.loadOwn tO rfl rfl rfl rfl rfl rfl (0) rfl (za3 hk 0 1 oM zb4) rfl rfl ?_;refine RP ?_;rw[show IntKind.i64.wrap ((n:Int)+1)=((n+1:Nat):Int) by rw[IntKind.wrap_i64];omega];refine EVL.storeOwn tO rfl rfl rfl rfl rfl rfl ([]) ([]) rfl rfl rfl rfl ((zcT hk (j:=0) (s:=1) oM)) (zbH hk 0 1 oM zbO) ?_;refine uR ?_;refine vI (hv) (r) (rfl) (hrl) ((by rw[List.getElem?_map,hr];rfl)) ?_;refine uR ?_;apply EV.drawn 13 kR kR;intro xv yw;(repeat (first|refine' DD ?_|refine' vN ?_|refine' vF ?_));refine' DJ.ofVal (zaa.loadOwn tO rfl rfl rfl rfl (0) rfl (za3 hk 13 1 oM (zeE hc)) rfl rfl) rfl rfl rfl ?_;rotate_left;(repeat (first|refine' DD ?_|refine' vN ?_|refine' vF ?_));refine' DJ.idxA tO rfl rfl rfl rfl (zcF) rfl rfl rfl rfl (j) (rfl) (hj) ?_;rotate_left;refine' DJ.ofVal (zaa.loadOwn tO rfl rfl rfl rfl (0) rfl (zeW hk 1 j 1 oM (zf4 hm)) rfl rfl) rfl rfl rfl ?_;rotate_left;(repeat (first|refine' DD ?_|refine' vN ?_|refine' vF ?_));(refine DJ.nil (fun G1 hG1 hF1=>?_);(case hS|hS2=>rfl));rw[w1];refine RP ?_;refine EVL.storeOwn tO rfl rfl rfl rfl rfl rfl ([]) ([]) rfl rfl rfl rfl ((zcT hk (j:=13) (s:=1) oM)) (zbH hk 13 1 oM (zdG hc)) ?_;refine uR ?_;apply EV.drawn 10 kR kR;intro xv yw;(repeat (first|refine' DD ?_|refine' vN ?_|refine' vF ?_));refine' DJ.idxA tO rfl rfl rfl rfl (zcF) rfl rfl rfl rfl (j) (rfl) (hj) ?_;rotate_left;refine' DJ.ofVal (zaa.loadOwn tO rfl rfl rfl rfl (0) rfl (zeW hk 1 j 1 oM (zf4 hm)) rfl rfl) rfl rfl rfl ?_;rotate_left;(repeat (first|refine' DD ?_|refine' vN ?_|refine' vF ?_));refine' DJ.idxA tO rfl rfl rfl rfl (zcF) rfl rfl rfl rfl (j) (rfl) (hj) ?_;rotate_left;(refine DJ.nil (fun G2 hG2 hF2=>?_);(case hS|hS2=>rfl));rw[w2];refine RP ?_;refine EVL.storeOwn tO rfl rfl rfl rfl rfl rfl ([]) ([]) rfl rfl rfl rfl ((zkh hk (i:=1) (j:=j) (s:=1) oM)) (zhW hk 1 j 1 oM (zdF _ (show j<cs.length by omega))) ?_;refine uR ?_;exact⟨rfl,rfl⟩
theorem zou {cl:Int} {va:Option Addr} {vn vc:Nat} {la:Option Addr} {lc:Nat} {ls:List Int} (hv:IL H (.slice la ls.length lc) ls) {r n:Nat} (hn:n≤1000000) {j m sq:Nat} (hr:ls[r]?=some (j:Int)) (hj:j<12) {cs:List Int} (hc:cs.length=12) (hm:cs[j]?=some ((m+1:Nat):Int)) (hmb:m≤1000000) (hsb:sq≤10000000000000) {q:Rat} :
  PW prog 262 #[.pointer (some ⟨b,k,none⟩),zaE 1 cl (.slice la ls.length lc) (.slice va vn vc),.int .i64 (r:Int)] H [(b,T,pre++(zau ((n+1:Nat):Int) cs ((sq+2*m+1:Nat):Int) q++post))] fun v ow _=>v=.tuple #[]∧ow=[(b,T,pre++(zau (n:Int) (cs.set j (m:Int)) (sq:Int) q++post))]:=by
 have hcs:(cs.set j (m:Int)).length=12:=by rw[List.length_set,hc]
 have hlen:=zao (n:=(n:Int)) (cs:=cs) (sq:=((sq+2*m+1:Nat):Int)) (q:=q) hc;have hlen2:=zao (n:=((n+1:Nat):Int)) (cs:=cs) (sq:=((sq+2*m+1:Nat):Int)) (q:=q) hc;have hlen3:=zao (n:=(n:Int)) (cs:=cs.set j (m:Int)) (sq:=((sq+2*m+1:Nat):Int)) (q:=q) hcs;obtain⟨hrl,_⟩:=qE.1 hr;have w2:IntKind.i64.wrap (((m+1:Nat):Int)-1)=(m:Int):=by rw[IntKind.wrap_i64];omega
 have hm':(cs.set j (m:Int))[j]?=some (m:Int):=by rw[List.getElem?_set_self (by omega)]
 have w1:IntKind.i64.wrap (((sq+2*m+1:Nat):Int)-IntKind.i64.wrap (IntKind.i64.wrap (2*(m:Int))+1))=(sq:Int):=by
  rw[show IntKind.i64.wrap (2*(m:Int))=2*(m:Int) by rw[IntKind.wrap_i64];omega,show IntKind.i64.wrap (2*(m:Int)+1)=2*(m:Int)+1 by rw[IntKind.wrap_i64];omega,IntKind.wrap_i64];omega
 refine PW.body tO func262 rfl kR ntmps262 rfl rfl ?_;refine uR ?_;refine RP ?_;refine EVL.loadOwn tO rfl rfl rfl rfl rfl rfl (0) rfl (za3 hk 0 1 oM zb4) rfl rfl ?_;refine RP ?_;rw[show IntKind.i64.wrap (((n+1:Nat):Int)-1)=(n:Int) by rw[IntKind.wrap_i64];omega];refine EVL.storeOwn tO rfl rfl rfl rfl rfl rfl ([]) ([]) rfl rfl rfl rfl ((zcT hk (j:=0) (s:=1) oM)) (zbH hk 0 1 oM zbO) ?_;refine uR ?_;refine vI (hv) (r) (rfl) (hrl) ((by rw[List.getElem?_map,hr];rfl)) ?_;refine uR ?_;apply EV.drawn 10 kR kR;intro xv yw;(repeat (first|refine' DD ?_|refine' vN ?_|refine' vF ?_));refine' DJ.idxA tO rfl rfl rfl rfl (zcF) rfl rfl rfl rfl (j) (rfl) (hj) ?_;rotate_left;refine' DJ.ofVal (zaa.loadOwn tO rfl rfl rfl rfl (0) rfl (zeW hk 1 j 1 oM (zf4 hm)) rfl rfl) rfl rfl rfl ?_;rotate_left;(repeat (first|refine' DD ?_|refine' vN ?_|refine' vF ?_));refine' DJ.idxA tO rfl rfl rfl rfl (zcF) rfl rfl rfl rfl (j) (rfl) (hj) ?_;rotate_left;(refine DJ.nil (fun G2 hG2 hF2=>?_);(case hS|hS2=>rfl));rw[w2];refine RP ?_;refine EVL.storeOwn tO rfl rfl rfl rfl rfl rfl ([]) ([]) rfl rfl rfl rfl ((zkh hk (i:=1) (j:=j) (s:=1) oM)) (zhW hk 1 j 1 oM (zdF _ (show j<cs.length by omega))) ?_;refine uR ?_;apply EV.drawn 13 kR kR;intro xv yw;(repeat (first|refine' DD ?_|refine' vN ?_|refine' vF ?_));refine' DJ.ofVal (zaa.loadOwn tO rfl rfl rfl rfl (0) rfl (za3 hk 13 1 oM (zeE hcs)) rfl rfl) rfl rfl rfl ?_;rotate_left;(repeat (first|refine' DD ?_|refine' vN ?_|refine' vF ?_));refine' DJ.idxA tO rfl rfl rfl rfl (zcF) rfl rfl rfl rfl (j) (rfl) (hj) ?_;rotate_left;refine' DJ.ofVal (zaa.loadOwn tO rfl rfl rfl rfl (0) rfl (zeW hk 1 j 1 oM (zf4 hm')) rfl rfl) rfl rfl rfl ?_;rotate_left;(repeat (first|refine' DD ?_|refine' vN ?_|refine' vF ?_));(refine DJ.nil (fun G1 hG1 hF1=>?_);(case hS|hS2=>rfl));rw[w1];refine RP ?_;refine EVL.storeOwn tO rfl rfl rfl rfl rfl rfl ([]) ([]) rfl rfl rfl rfl ((zcT hk (j:=13) (s:=1) oM)) (zbH hk 13 1 oM (zdG hcs)) ?_;refine uR ?_;exact⟨rfl,rfl⟩
theorem zn4 {n:Nat} {cs:List Int} (hc:cs.length=12) {sq:Nat} (hsq:sq≤10000000000000) (hn:n≤1000000) {q:Rat} (hq:ht q≤1000000) :
  PW prog 79 #[.pointer (some ⟨b,k,none⟩),.int .i64 2] H [(b,T,pre++(zau n cs sq q++post))] fun v ow _=>v=zab (q*q / ((n:Int):Rat))∧ow=[(b,T,pre++(zau n cs sq q++post))]:=by
 have hlen:=zao (n:=(n:Int)) (cs:=cs) (sq:=(sq:Int)) (q:=q) hc;have hqs:sm q:=zaG hq oM;have hmul:=zm6 q q hqs hqs;have hof:=zgj (sq:Int) oM oM;have hof2:=zgj (n:Int) oM oM;have hm:=zim q q
 have hnh:ht ((n:Int):Rat)≤100:=by
  have:=zbG (n:Int);have h2:bl (n:Int).natAbs≤20:=za4 oM;omega
 refine PW.body tO func79 rfl kR ntmps79 rfl rfl ?_;refine uR ?_;refine RP ?_;refine EVL.loadOwn tO rfl rfl rfl rfl rfl rfl (0) rfl (za3 hk 0 1 oM zb4) rfl rfl ?_;refine uR ?_;by_cases h0:n=0
 ·subst h0;rw[show (((0:Nat):Int) == 0)=true from rfl];refine uR ?_;rw[show (((0:Nat):Int):Rat)=0 from rfl,za5];exact⟨zbM.symm,rfl⟩
 ·have hdiv:=zih (q*q) ((n:Int):Rat) (zaG hm oM) (zaG hnh oM) (zdd h0);rw[show ((n:Int) == 0)=false from beq_eq_false_iff_ne.2 (by omega)];refine uR ?_;refine RP ?_;refine EVL.loadOwn tO rfl rfl rfl rfl rfl rfl (0) rfl (za3 hk 13 1 oM (zeE hc)) rfl rfl ?_
  repeat (first|refine RUN ?_|refine CV (hof) ?_|refine CE (hof) ?_)
  apply EV.drawn 8 kR kR;intro xv yw;(repeat (first|refine' DD ?_|refine' vN ?_|refine' vF ?_));refine' DJ.ofVal (zaa.loadOwn tO rfl rfl rfl rfl (0) rfl (za3 hk 14 5 oM (zei hc)) rfl rfl) rfl rfl rfl ?_;rotate_left;(repeat (first|refine' DD ?_|refine' vN ?_|refine' vF ?_));refine' DJ.ofVal (zaa.loadOwn tO rfl rfl rfl rfl (0) rfl (za3 hk 14 5 oM (zei hc)) rfl rfl) rfl rfl rfl ?_;rotate_left;(repeat (first|refine' DD ?_|refine' vN ?_|refine' vF ?_));(refine DJ.nil (fun G1 hG1 hF1=>?_);(case hS|hS2=>rfl))
  repeat (first|refine RUN ?_|refine CV (hmul) ?_|refine CE (hmul) ?_)
  refine uR ?_;apply EV.drawn 12 kR kR;intro xv yw;(repeat (first|refine' DD ?_|refine' vN ?_|refine' vF ?_));refine' DJ.ofVal (zaa.loadOwn tO rfl rfl rfl rfl (0) rfl (za3 hk 0 1 oM zb4) rfl rfl) rfl rfl rfl ?_;rotate_left;(repeat (first|refine' DD ?_|(refine' DC (hof2) (h:=?_);rotate_left)|(refine' DC (hdiv) (h:=?_);rotate_left)));(refine DJ.nil (fun G2 hG2 hF2=>?_);(case hS|hS2=>rfl));refine uR ?_;exact⟨rfl,rfl⟩
theorem zn2 {n:Nat} {cs:List Int} (hc:cs.length=12) {sq:Nat} (hsq:sq≤10000000000000) (hn:n≤1000000) {q:Rat} :
  PW prog 79 #[.pointer (some ⟨b,k,none⟩),.int .i64 1] H [(b,T,pre++(zau n cs sq q++post))] fun v ow _=>v=zab (((sq:Int):Rat) / ((n:Int):Rat))∧ow=[(b,T,pre++(zau n cs sq q++post))]:=by
 have hlen:=zao (n:=(n:Int)) (cs:=cs) (sq:=(sq:Int)) (q:=q) hc;have hof:=zgj (sq:Int) oM oM;have hof2:=zgj (n:Int) oM oM
 have hnh:ht ((n:Int):Rat)≤100:=by
  have:=zbG (n:Int);have h2:bl (n:Int).natAbs≤20:=za4 oM;omega
 have hsh:ht ((sq:Int):Rat)≤100:=by
  have:=zbG (sq:Int);have h2:bl (sq:Int).natAbs≤50:=za4 oM;omega
 refine PW.body tO func79 rfl kR ntmps79 rfl rfl ?_;refine uR ?_;refine RP ?_;refine EVL.loadOwn tO rfl rfl rfl rfl rfl rfl (0) rfl (za3 hk 0 1 oM zb4) rfl rfl ?_;refine uR ?_;by_cases h0:n=0
 ·subst h0;rw[show (((0:Nat):Int) == 0)=true from rfl];refine uR ?_;rw[show (((0:Nat):Int):Rat)=0 from rfl,za5];exact⟨zbM.symm,rfl⟩
 ·have hdiv:=zih ((sq:Int):Rat) ((n:Int):Rat) (zaG hsh oM) (zaG hnh oM) (zdd h0);rw[show ((n:Int) == 0)=false from beq_eq_false_iff_ne.2 (by omega)];refine uR ?_;refine RP ?_;refine EVL.loadOwn tO rfl rfl rfl rfl rfl rfl (0) rfl (za3 hk 13 1 oM (zeE hc)) rfl rfl ?_
  repeat (first|refine RUN ?_|refine CV (hof) ?_|refine CE (hof) ?_)
  apply EV.drawn 12 kR kR;intro xv yw;(repeat (first|refine' DD ?_|refine' vN ?_|refine' vF ?_));refine' DJ.ofVal (zaa.loadOwn tO rfl rfl rfl rfl (0) rfl (za3 hk 0 1 oM zb4) rfl rfl) rfl rfl rfl ?_;rotate_left;(repeat (first|refine' DD ?_|(refine' DC (hof2) (h:=?_);rotate_left)|(refine' DC (hdiv) (h:=?_);rotate_left)));(refine DJ.nil (fun G2 hG2 hF2=>?_);(case hS|hS2=>rfl));refine uR ?_;exact⟨rfl,rfl⟩
end
theorem zrj {b:Nat} {c:Array Value} (h:gH b=some c):c.toList.length=64:=by
 unfold gH at h;split at h
 ·cases h;rfl
 ·cases h
section
variable {P:Program} {n:Nat} {ops:Array Oper} {o:Oper} {rest:List Oper} {env:Env} {bx:Bxs} {sb:Bxs} {ow:Ows} {H:Hs} {Q:EQ} {τ:Tab} {d:Nat} {s:SV}
theorem zaa.callR {f:FuncId} {args:Array Operand} {tys:Array TypeId} (ho:o.op=.call ⟨.value (.func f),args,tys⟩) (hw:zae ops env o=some true) {vs:List Value} (ha:za2 env args.toList some=some vs) (jj:Nat) {b:Nat} {T:TypeId} {cs:List Value} (hj:ow[jj]?=some (b,T,cs)) (h64:cs.length≠64)
  {v:Value} (hc:zax P f) {F:Hp→Prop} {R:Hp} (hpc:∀G,PW P f vs.toArray G [(b,T,cs)] fun u ow' _=>u=v∧ow'=[(b,T,cs)]):zaa P ops o env bx ow R F (fun β u G=>(SV.v v).rep β G u):=fun β a W G hle hf hgl hb hown hs hF=>by
 obtain⟨vs',hk,hm⟩:=zaS env _ _ _ ha;cases hk;have hvs:=hm β G a.eval (fun y s hy=>hs.op (by simp[ho,Op.operands,Call.operands];exact .inr (by simpa using hy)));have hB:=hown jj b T cs hj
 have hg:gH b=none:=by
  cases hgb:gH b with
  | none=>rfl
  | some c =>
   obtain⟨T',fz,hW⟩:=hgl b c hgb;have hB':W.heap[b]?=some (.cells cs.toArray T (0,0)):=hB;rw[hB']at hW;cases hW;have:=zrj hgb;exact absurd (by simpa using this) h64
 rw[if_pos (hs.want hw)];unfold Oper.wp;rw[zaP hc ho hvs,Oper.upon_enter];refine((hpc (fun k=>if k=b then none else G k)).run W (fun k c h=>hf k c (by first|(split at h <;> first|(cases h;done)|exact h))) hgl (fun j b' T' cs' h=>?_) ?_).mono ?_
 ·cases j with
  | zero=>simp at h;obtain⟨rfl,rfl,rfl⟩:=h;exact⟨hB,if_pos rfl,hg⟩
  | succ j=>simp at h
 ·intro j j' b' T1 T2 c1 c2 h1 h2
  cases j with
  | zero=>cases j' with
   | zero=>rfl
   | succ j'=>simp at h2
  | succ j=>simp at h1
 ·rintro e W' ⟨u,ow',H',rfl,⟨rfl,rfl⟩,hle',hf',hnew,hk,hb',_⟩;have hB2:=(hb' 0 b T cs rfl).1
  have hbel:Below W.heap.size W W':=⟨hk.os,hk.tape,hk.output,hk.size,fun k hlt=>by
   by_cases e:k=b
   ·subst e;have h1:W.heap[k]?=some (.cells cs.toArray T (0,0)):=hB;have h2:W'.heap[k]?=some (.cells cs.toArray T (0,0)):=hB2;rw[h1,h2]
   ·exact hk.block k hlt (by simp[Ows.bs];exact e)⟩
  exact⟨u,G,rfl,rfl,Hp.Le.refl G,hf.below hbel,hbel,Nw.refl _ _ _⟩
theorem zqH {f:Fn} {x:Operand} (ho:o.op=.makeFunc f #[] #[x]) {u:Value} (hx:env.op x=some (.v u)) (ev:Operand→Value) (W:World) (he:∀y x,y∈o.op.operands→env.op y=some (.v x)→ev y=x) :
  (execOp ev o).run P W=.ok (.value (.func f #[] #[u])) W:=by
 have ex:=he x _ (by simp[ho,Op.operands]) hx;unfold execOp;simp[ho,ex,Instr.makeFunc]
theorem EVL.fn1 {f:Fn} {x:Operand} (ho:o.op=.makeFunc f #[] #[x]) (hw:zae ops env o=some true) (hd:o.dst=some d) (hn:Nat.blt d n=true) {u:Value} (hx:env.op x=some (.v u))
  (h:EVL P n ops rest ((d,.v (.func f #[] #[u]))::env) bx H Q):EVL P n ops (o::rest) env bx H Q:=EVL.gen hw hd hn (zqH ho hx) h
theorem DJ.callR {tail l:List Oper} {x:Nat→Value} {y:Nat→Ows} {ow':Ows} {kl ks:List DK} {i:Nat} {bx':Bxs} {Γ:zek} {f:FuncId} {args:Array Operand} {tys:Array TypeId} (ho:o.op=.call ⟨.value (.func f),args,tys⟩) (hw:zae ops env o=some true) (hd:o.dst=some d) (hn:Nat.blt d n=true)
  {vs:List Value} (ha:za2 env args.toList some=some vs) (jj:Nat) {b:Nat} {T:TypeId} {cs:List Value} (hj:H.ow[jj]?=some (b,T,cs)) (h64:cs.length≠64) {v:Value} (hc:zax P f) (hpc:∀G,PW P f vs.toArray G [(b,T,cs)] fun u ow' _=>u=v∧ow'=[(b,T,cs)])
  (h:DJ P n ops tail sb bx H Q x y kl (i+1) l ks ((d,.v v)::env) bx' Γ ow'):DJ P n ops tail sb bx H Q x y kl i (o::l) (.sv (.v v)::ks) env bx' Γ ow' :=
 ⟨d,hd,hn,rfl,zaa.callR ho hw ha jj hj h64 hc hpc,h⟩
end
structure GOk (H:Hp) (kd cl:Int) (sl sv:Value) (N:Nat) (S:List Int→List Value) (wo:List Int→Rat):Prop where
 len:∀l,(S l).length=19
 form:∀l,∃(n:Int) (cs:List Int) (sq:Int) (q:Rat),cs.length=12∧S l=zau n cs sq q
 check:∀G,H.Le G→PC prog 75 #[zaE kd cl sl sv] G fun r _=>r=.int .i64 0
 leng:PV prog 78 #[zaE kd cl sl sv] (.int .i64 (N:Int))
 zero:S []=Tryz.te147.zero
 first:∀l,((S l).drop 0).take 1=[.int .i64 (l.length:Int)]
 whole:∀G,H.Le G→∀v l,IL G v l→l.length≤300→(∀r,r∈l→0≤r∧r<(N:Int))→PC prog 76 #[zaE kd cl sl sv,v] G fun r _=>r=.agg (S l).toArray
 move:∀G,H.Le G→∀(b:Nat) (l l':List Int) (r:Int),l.length+l'.length≤299→(∀z,z∈l++r::l'→0≤z∧z<(N:Int)) →
  PW prog 248 #[.pointer (some ⟨b,0,none⟩),zaE kd cl sl sv,.int .i64 r] G [(b,314,S l++S (r::l'))] fun v ow _=>v=.tuple #[]∧ow=[(b,314,S (l++[r])++S l')]
 worth:∀(G:Hp) (b k:Nat) (T:TypeId) (pre post:List Value) (l:List Int),pre.length=k→l.length≤300→(∀r,r∈l→0≤r∧r<(N:Int)) →
  PW prog 79 #[.pointer (some ⟨b,k,none⟩),.int .i64 kd] G [(b,T,pre++(S l++post))] fun v ow _=>v=zab (wo l)∧ow=[(b,T,pre++(S l++post))]
 small:∀l:List Int,l.length≤300→(∀r,r∈l→0≤r∧r<(N:Int))→ht (wo l)≤100000
theorem GOk.mono {H G:Hp} {kd cl:Int} {sl sv:Value} {N:Nat} {S:List Int→List Value} {wo:List Int→Rat} (h:GOk H kd cl sl sv N S wo) (k:H.Le G):GOk G kd cl sl sv N S wo :=
 ⟨h.len,h.form,fun G' hG=>h.check G' (k.trans hG),h.leng,h.zero,h.first,fun G' hG=>h.whole G' (k.trans hG),fun G' hG=>h.move G' (k.trans hG),h.worth,h.small⟩
theorem PV.pc' {P:Program} {f:FuncId} {args:Array Value} {v:Value} (h:PV P f args v) (G:Hp):PC P f args G fun r _=>r=v:=(h.pc G).mono fun _ _ h _=>h.1
theorem zl7 (l:List Rat):∀x:Rat,l.foldl (·+·) x=x+zaU l:=by
 unfold zaU
 induction l with
 | nil=>intro x;rw[List.foldl_nil,List.foldl_nil,Rat.add_zero]
 | cons y l ih=>intro x;rw[List.foldl_cons,List.foldl_cons,ih,ih (0+y),Rat.zero_add,Rat.add_assoc]
theorem zas (x:Rat) (l:List Rat):zaU (x::l)=x+zaU l:=by
 have:=zl7 l (0+x);rw[Rat.zero_add]at this;unfold zaU at *
 rw[List.foldl_cons,Rat.zero_add];exact this
def ziR (vals:List Rat) (l:List Int):List Value:=zau (l.length:Nat) (List.replicate 12 0) 0 (zaU (atR vals l))
def ziQ (ls:List Int) (l:List Int):List Value:=zau (l.length:Nat) (csL (atI ls l)) (sqL (atI ls l):Nat) 0
def woV (vals:List Rat) (l:List Int):Rat:=zaU (atR vals l)*zaU (atR vals l) / ((l.length:Int):Rat)
def woL (ls:List Int) (l:List Int):Rat:=((sqL (atI ls l):Int):Rat) / ((l.length:Int):Rat)
theorem zkf {vals:List Rat} {R:Nat} {x:Rat} (h:vals[R]?=some x) (l:List Int):atR vals ((R:Int)::l)=x::atR vals l:=by
 unfold atR;rw[List.map_cons,Int.toNat_natCast,qB,h];rfl
theorem zdS {ls:List Int} {R:Nat} {x:Int} (h:ls[R]?=some x) (l:List Int):atI ls ((R:Int)::l)=x::atI ls l:=by
 unfold atI;rw[List.map_cons,Int.toNat_natCast,qB,h];rfl
theorem zjl {vals:List Rat} (l m:List Int):atR vals (l++m)=atR vals l++atR vals m:=List.map_append
theorem zjk {ls:List Int} (l m:List Int):atI ls (l++m)=atI ls l++atI ls m:=List.map_append
theorem zsc {H:Hp} {la:Option Addr} {lc:Nat} {va:Option Addr} {vc:Nat} {vals:List Rat} (hv:QL H (.slice va vals.length vc) vals) (h0:1≤vals.length) (h1:vals.length≤300) (hb:∀q,q∈vals→ht q≤100) :
  GOk H 2 0 (.slice la 0 lc) (.slice va vals.length vc) vals.length (ziR vals) (woV vals):=by
 have hs:∀l:List Int,l.length≤300→(∀r,r∈l→0≤r∧r<(vals.length:Int))→ht (zaU (atR vals l))≤1+101*300:=fun l hl hr=>by
  have h1:=zgz 100 (atR vals l) (fun q hq=>hb q (zfg hr q hq));rw[zb7]at h1;omega
 refine⟨fun l=>zao rfl,fun l=>⟨_,_,_,_,rfl,rfl⟩,fun G hG=>(zdW h0 h1).pc' G,zmZ,by unfold ziR;exact zej.symm,fun l=>zb4,fun G hG v l hl hn hr=>?_,fun G hG b l l' r hn hr=>?_,fun G b k T pre post l hk hn hr=>?_,fun l hl hr=>?_⟩
 ·obtain⟨a,c,rfl⟩:=SlC.val hl;exact zn0 (hv.mono hG) hl oM hr hb
 ·have hrb:=hr r (by simp);obtain⟨R,rfl⟩:=Int.eq_ofNat_of_zero_le hrb.1;obtain⟨x,hx⟩:∃x,vals[R]?=some x:=⟨_,qA oM⟩;have hxs:sm x:=zaG (hb x (qF hx)) oM;have h1:=hs l oM (fun z hz=>hr z (by simp[hz]));have h2:=hs ((R:Int)::l') (by simp;omega) (fun z hz=>hr z (List.mem_append_right _ hz));have e1:zaU (atR vals (l++[(R:Int)]))=zaU (atR vals l)+x:=by rw[zjl,zkf hx];exact zch _ _
  have e2:zaU (atR vals ((R:Int)::l'))-x=zaU (atR vals l'):=by rw[zkf hx,zas];grind
  have hadd:=fun (G':Hp) (hG':G.Le G')=>zp0 (pre:=[]) (k:=0) (b:=b) (T:=314) (post:=ziR vals ((R:Int)::l')) rfl (cl:=0) (la:=la) (ln:=0) (lc:=lc) (hv.mono (hG.trans hG')) (n:=l.length) oM hx hxs (zaG h1 oM) (cs:=List.replicate 12 0) rfl (sq:=0);have hdrop:=fun (G':Hp) (hG':G.Le G')=>zov (pre:=ziR vals (l++[(R:Int)])) (k:=19) (b:=b) (T:=314) (post:=[]) (zao rfl) (cl:=0) (la:=la) (ln:=0) (lc:=lc) (hv.mono (hG.trans hG')) (n:=l'.length) oM hx hxs (zaG h2 oM) (cs:=List.replicate 12 0) rfl (sq:=0);simp only[←e1]at hadd;simp only[e2]at hdrop;have hl1:(l++[(R:Int)]).length=l.length+1:=by simp
  refine PW.body tO func248 rfl kR ntmps248 rfl rfl ?_;refine uR ?_;apply EV.drawn 5 kR kR;intro xv yw;(repeat (first|refine' DD ?_|refine' vN ?_|refine' vF ?_));(refine DJ.nil (fun G1 hG1 hF1=>?_);(case hS|hS2=>rfl));refine vW ([(b,314,ziR vals l++ziR vals ((R:Int)::l'))]) ([]) (hadd _ hG1) ?_;rintro v ow G2 ⟨rfl,rfl⟩ hG2;rw[←hl1];refine uR ?_;apply EV.drawn 5 kR kR;intro xv yw;(repeat (first|refine' DD ?_|refine' vN ?_|refine' vF ?_));(refine DJ.nil (fun G3 hG3 hF3=>?_);(case hS|hS2=>rfl));refine EVL.callW rfl rfl rfl rfl rfl ([(b,314,ziR vals (l++[(R:Int)])++(zau ((l'.length+1:Nat):Int) (List.replicate 12 0) 0 (zaU (atR vals ((R:Int)::l')))++[]))]) ([]) rfl (hdrop _ (hG1.trans (hG2.trans hG3))) ?_;rintro v ow G4 ⟨rfl,rfl⟩ hG4;refine uR ?_;refine⟨rfl,?_⟩;rw[qG];rfl
 ·exact zn4 hk (cs:=List.replicate 12 0) rfl (sq:=0) oM oM (qI (hs l hn hr) oM)
 ·have h1:=hs l hl hr;have h2:=zim (zaU (atR vals l)) (zaU (atR vals l));have h3:=zbG (l.length:Int);have h4:bl (l.length:Int).natAbs≤20:=za4 oM;have h5:=zfA (zaU (atR vals l)*zaU (atR vals l)) ((l.length:Int):Rat);unfold woV;omega
theorem zkW {l m:List Int} (h:l.Perm m):sqL l=sqL m:=by
 unfold sqL;have e:(l.map fun x=>l.count x)=l.map fun x=>m.count x:=List.map_congr_left fun x _=>h.count_eq x;rw[e];exact(h.map _).sum_nat
theorem zoq {l m:List Int} (h:l.Perm m):csL l=csL m:=by
 unfold csL;exact List.map_congr_left fun k _=>by rw[h.count_eq]
theorem zop {k:Nat} (hk:k<12) (l:List Int):(csL ((k:Int)::l)).set k (l.count (k:Int):Int)=csL l:=by
 have h:=zg7 l hk;have hp:((k:Int)::l).Perm (l++[(k:Int)]):=List.perm_append_comm (l₁:=[(k:Int)]) (l₂:=l);rw[zoq hp,h,List.set_set];apply List.ext_getElem?;intro j;rw[List.getElem?_set];by_cases e:k=j
 ·subst e;rw[if_pos rfl,if_pos (by rw[zbt];exact hk),zgs _ hk]
 ·rw[if_neg e]
theorem zhE (x:Int) (l:List Int):sqL (x::l)=sqL l+2*l.count x+1:=by
 have hp:(x::l).Perm (l++[x]):=List.perm_append_comm (l₁:=[x]) (l₂:=l);rw[zkW hp,zhF]
theorem zsb {H:Hp} {cl:Int} (hc:1≤cl∧cl≤12) {va:Option Addr} {vc:Nat} {la:Option Addr} {lc:Nat} {ls:List Int} (hv:IL H (.slice la ls.length lc) ls) (h0:1≤ls.length) (h1:ls.length≤300) (hls0:∀z,z∈ls→0≤z∧z<cl) :
  GOk H 1 cl (.slice la ls.length lc) (.slice va 0 vc) ls.length (ziQ ls) (woL ls):=by
 have hls:∀z,z∈ls→0≤z∧z<12:=fun z hz=>⟨(hls0 z hz).1,by have:=(hls0 z hz).2;omega⟩
 have hs:∀l:List Int,l.length≤300→sqL (atI ls l)≤90000:=fun l hl=>by
  have h1:=ziW (atI ls l);rw[zb6]at h1;exact qI h1 (Nat.mul_le_mul hl hl)
 refine⟨fun l=>zao (zbt _),fun l=>⟨_,_,_,_,zbt _,rfl⟩,fun G hG=>zfj (hv.mono hG) hc h0 h1 hls0,zjF,by unfold ziQ;exact zej.symm,fun l=>zb4,fun G hG v l hl hn hr=>?_,fun G hG b l l' r hn hr=>?_,fun G b k T pre post l hk hn hr=>?_,fun l hl hr=>?_⟩
 ·exact zgS (hv.mono hG) hl oM hr hls
 ·have hrb:=hr r (by simp);obtain⟨R,rfl⟩:=Int.eq_ofNat_of_zero_le hrb.1;obtain⟨x,hx⟩:∃x,ls[R]?=some x:=⟨_,qA oM⟩;have hxb:=hls x (qF hx);obtain⟨k,rfl⟩:=Int.eq_ofNat_of_zero_le hxb.1;have hk:k<12:=by omega
  have h1:=hs l oM;have h2:=hs l' oM;have c1:(atI ls l).count (k:Int)≤300:=qI List.count_le_length (by rw[zb6];omega);have c2:(atI ls l').count (k:Int)≤300:=qI List.count_le_length (by rw[zb6];omega);have e1:(csL (atI ls l)).set k (((atI ls l).count (k:Int)+1:Nat):Int)=csL (atI ls (l++[(R:Int)])):=by rw[zjk,zdS hx];exact(zg7 _ hk).symm
  have e2:sqL (atI ls l)+2*(atI ls l).count (k:Int)+1=sqL (atI ls (l++[(R:Int)])):=by rw[zjk,zdS hx];exact(zhF _ _).symm
  have e3:(csL (atI ls ((R:Int)::l'))).set k ((atI ls l').count (k:Int):Int)=csL (atI ls l'):=by rw[zdS hx];exact zop hk _
  have e4:sqL (atI ls l')+2*(atI ls l').count (k:Int)+1=sqL (atI ls ((R:Int)::l')):=by rw[zdS hx];exact(zhE _ _).symm
  have e5:(csL (atI ls ((R:Int)::l')))[k]?=some (((atI ls l').count (k:Int)+1:Nat):Int):=by rw[zgs _ hk,zdS hx,List.count_cons_self]
  have hadd:=fun (G':Hp) (hG':G.Le G')=>zpY (pre:=[]) (k:=0) (b:=b) (T:=314) (post:=ziQ ls ((R:Int)::l')) rfl (cl:=cl) (va:=va) (vn:=0) (vc:=vc) (hv.mono (hG.trans hG')) (n:=l.length) oM hx hk (cs:=csL (atI ls l)) (zbt _) (zgs _ hk) oM (sq:=sqL (atI ls l)) oM (q:=0);have hdrop:=fun (G':Hp) (hG':G.Le G')=>zou (pre:=ziQ ls (l++[(R:Int)])) (k:=19) (b:=b) (T:=314) (post:=[]) (zao (zbt _)) (cl:=cl) (va:=va) (vn:=0) (vc:=vc) (hv.mono (hG.trans hG')) (n:=l'.length) oM hx hk (cs:=csL (atI ls ((R:Int)::l'))) (zbt _) e5 oM (sq:=sqL (atI ls l')) oM (q:=0);simp only[e1,e2]at hadd;simp only[e3,e4]at hdrop;have hl1:(l++[(R:Int)]).length=l.length+1:=by simp
  refine PW.body tO func248 rfl kR ntmps248 rfl rfl ?_;refine uR ?_;apply EV.drawn 5 kR kR;intro xv yw;(repeat (first|refine' DD ?_|refine' vN ?_|refine' vF ?_));(refine DJ.nil (fun G1 hG1 hF1=>?_);(case hS|hS2=>rfl));refine vW ([(b,314,ziQ ls l++ziQ ls ((R:Int)::l'))]) ([]) (hadd _ hG1) ?_;rintro v ow G2 ⟨rfl,rfl⟩ hG2;rw[←hl1];refine uR ?_;apply EV.drawn 5 kR kR;intro xv yw;(repeat (first|refine' DD ?_|refine' vN ?_|refine' vF ?_));(refine DJ.nil (fun G3 hG3 hF3=>?_);(case hS|hS2=>rfl));refine EVL.callW rfl rfl rfl rfl rfl ([(b,314,ziQ ls (l++[(R:Int)])++(zau ((l'.length+1:Nat):Int) (csL (atI ls ((R:Int)::l'))) (sqL (atI ls ((R:Int)::l')):Nat) 0++[]))]) ([]) rfl (hdrop _ (hG1.trans (hG2.trans hG3))) ?_;rintro v ow G4 ⟨rfl,rfl⟩ hG4;refine uR ?_;refine⟨rfl,?_⟩;rw[qG];rfl
 ·exact zn2 hk (zbt _) (by have:=hs l hn;omega) oM
 ·have h1:=hs l hl;have h3:=zbG (l.length:Int);have h4:bl (l.length:Int).natAbs≤20:=za4 oM;have h6:=zbG (sqL (atI ls l):Int);have h7:bl (sqL (atI ls l):Int).natAbs≤30:=za4 oM;have h5:=zfA ((sqL (atI ls l):Int):Rat) ((l.length:Int):Rat);unfold woL;omega
def zcV (key:Int→Rat) (least:Int) (m:List Int) (j:Nat):Bool:=decide (least≤((j+1:Nat):Int)) && decide (least≤((m.length-(j+1):Nat):Int)) && decide (key (m.getD j 0)<key (m.getD (j+1) 0))
def zeF (wo:List Int→Rat) (m:List Int) (j:Nat):Rat:=wo (m.take (j+1))+wo (m.drop (j+1))
def zdN (key:Int→Rat) (m:List Int) (j:Nat):Rat:=(key (m.getD j 0)+key (m.getD (j+1) 0)) / 2
def zcO (key:Int→Rat) (wo:List Int→Rat) (least:Int) (m:List Int):Nat→Option (Rat × Rat)
 | 0=>none
 | j+1=>if zcV key least m j=true then (match zcO key wo least m j with
  | none=>some (zdN key m j,zeF wo m j)
  | some (a,w)=>if w<zeF wo m j then some (zdN key m j,zeF wo m j) else some (a,w)) else zcO key wo least m j
def stA:Option (Rat × Rat)→Rat
 | none=>0
 | some (a,_)=>a
def stW:Option (Rat × Rat)→Rat
 | none=>0
 | some (_,w)=>w
theorem zjv {key:Int→Rat} {wo:List Int→Rat} {least:Int} {m:List Int} {j:Nat} (h:zcV key least m j=false):zcO key wo least m (j+1)=zcO key wo least m j:=by
 rw[zcO,h,if_neg (by decide)]
theorem zlj {key:Int→Rat} {wo:List Int→Rat} {least:Int} {m:List Int} {j:Nat} (h:zcV key least m j=true) (h0:zcO key wo least m j=none):zcO key wo least m (j+1)=some (zdN key m j,zeF wo m j):=by
 rw[zcO,h,if_pos rfl,h0]
theorem zmC {key:Int→Rat} {wo:List Int→Rat} {least:Int} {m:List Int} {j:Nat} {a w:Rat} (h:zcV key least m j=true) (h0:zcO key wo least m j=some (a,w)) (hw:w<zeF wo m j):zcO key wo least m (j+1)=some (zdN key m j,zeF wo m j):=by
 rw[zcO,h,if_pos rfl,h0];exact if_pos hw
theorem zmB {key:Int→Rat} {wo:List Int→Rat} {least:Int} {m:List Int} {j:Nat} {a w:Rat} (h:zcV key least m j=true) (h0:zcO key wo least m j=some (a,w)) (hw:¬w<zeF wo m j):zcO key wo least m (j+1)=zcO key wo least m j:=by
 rw[zcO,h,if_pos rfl,h0];exact if_neg hw
theorem zrB {S S':List Value} {n:Int} (hl:S.length=19) (h:(S.drop 0).take 1=[.int .i64 n]):((S++S').drop (0+0+0)).take 1=[.int .i64 n]:=by
 rw[List.drop_append_of_le_length oM,List.take_append_of_le_length (by rw[List.length_drop];omega)];exact h
theorem zqQ {S S':List Value} {n:Int} (hl:S.length=19) (h:(S'.drop 0).take 1=[.int .i64 n]):((S++S').drop (0+19+0)).take 1=[.int .i64 n]:=by
 rw[show 0+19+0=19 from rfl,List.drop_left' hl];exact h
def zps (X:List (List Rat)) (wo:List Int→Rat) (rs:List Int) (least col:Int) (o:Option (Rat × Rat)):Prop:=∃m,zlb X col rs m∧o=zcO (zbp X col) wo least m (m.length-1)∧ht (stW o)≤200001
theorem zpN {key:Int→Rat} {wo:List Int→Rat} {least:Int} {m:List Int} {B:Nat} (h:∀j,j<m.length→ht (zeF wo m j)≤B) (hB:1≤B):∀j,j≤m.length→ht (stW (zcO key wo least m j))≤B
 | 0,_=>by show ht 0≤B;rw[zb8];exact hB
 | j+1,hj=>by
  have ih:=zpN (key:=key) (least:=least) h hB j oM;have h1:=h j oM;unfold zcO;split
  ·split
   ·exact h1
   ·split
    ·exact h1
    ·rename_i h2 _;rw[h2]at ih;exact ih
  ·exact ih
theorem zhp {a b:Rat}:zcA a b≥0↔¬a<b:=by
 unfold zcA;split
 ·rename_i h;constructor
  ·intro k;omega
  ·intro k;exact absurd h k
 ·rename_i h;constructor
  ·intro _;exact h
  ·intro _;split <;> omega
theorem zee {a b:Rat}:zcA a b>0↔b<a:=by
 unfold zcA;split
 ·rename_i h;constructor
  ·intro k;omega
  ·intro k;exact absurd (Rat.le_of_lt h) (Rat.not_le.2 k)
 ·split
  ·rename_i h;exact⟨fun _=>h,fun _=>by omega⟩
  ·rename_i h;exact⟨fun k=>by omega,fun k=>absurd k h⟩
theorem zrp:∀{l:List Int},l.length=12→∃c0 c1 c2 c3 c4 c5 c6 c7 c8 c9 c10 c11,l=[c0,c1,c2,c3,c4,c5,c6,c7,c8,c9,c10,c11]
 | [c0,c1,c2,c3,c4,c5,c6,c7,c8,c9,c10,c11],_=>⟨_,_,_,_,_,_,_,_,_,_,_,_,rfl⟩
theorem zmD {H:Hp} {kd cl:Int} {sl sv vx vr:Value} {X:List (List Rat)} {S:List Int→List Value} {wo:List Int→Rat} {rs:List Int} {col least:Int} (hg:GOk H kd cl sl sv X.length S wo) (hX:QLL H vx X) (hr:IL H vr rs) (hn:rs.length≤20) (hrs:∀r,r∈rs→0≤r∧r<(X.length:Int)) (hb:∀x,x∈X→∀q,q∈x→ht q≤100) :
  PC prog 217 #[zaE kd cl sl sv,vx,vr,.int .i64 col,.int .i64 least] H fun r _=>∃o,zps X wo rs least col o∧r=.tuple #[zab (stA o),zab (stW o),.bool o.isSome]:=by
 have hsorted:=znI (col:=col) hX hr hn hrs (fun x hx q hq=>zaG (hb x hx q hq) oM);obtain⟨xa,xc,rfl⟩:=hX.val;obtain⟨ra,rc,rfl⟩:=SlC.val hr;refine BD func217 ntmps217 ?_;refine uR ?_;refine vA (hsorted) ?_;rintro r1 G1 ⟨m,hm,hsc⟩ hG1
 have hmr:∀r,r∈m→0≤r∧r<(X.length:Int):=by
  rcases hsc with ⟨_,hp,_⟩ | ⟨_,rfl⟩
  ·exact fun r hr=>hrs r (hp.mem_iff.1 hr)
  ·intro r hr;cases hr
 have hmn:m.length≤20:=by
  rcases hsc with ⟨_,hp,_⟩ | ⟨_,rfl⟩
  ·rw[hp.length_eq];exact hn
  ·decide
 have hmh:∀r,r∈m→zdk X col r=true:=by
  rcases hsc with ⟨ha,hp,_⟩ | ⟨_,rfl⟩
  ·exact fun r hr=>List.all_eq_true.1 ha r (hp.mem_iff.1 hr)
  ·intro r hr;cases hr
 obtain⟨ma,mc,rfl⟩:=SlC.val hm;have hwh:=hg.whole G1 hG1 _ m hm oM hmr;have hlS:=hg.len m;refine uR ?_;refine vA (hwh) ?_;rintro r2 G2 rfl hG2;obtain⟨sn,scs,ssq,sq,hs12,hS⟩:=hg.form m;obtain⟨c0,c1,c2,c3,c4,c5,c6,c7,c8,c9,c10,c11,rfl⟩:=zrp hs12;rw[hS];refine uR ?_;(first|refine EVL.unbox (14) rfl fun b=>?_|refine EV.unbox (14) rfl fun b=>?_);(first|refine EVL.swapOw ([(b,314,S (m.take 0)++S (m.drop 0))]) ([]) ((by rw[List.take_zero,List.drop_zero,hg.zero,hS];rfl)) ?_|refine EV.swapOw ([(b,314,S (m.take 0)++S (m.drop 0))]) ([]) ((by rw[List.take_zero,List.drop_zero,hg.zero,hS];rfl)) ?_);have hX2:=hX.mono (hG1.trans hG2);have hm2:=hm.mono hG2;have hg2:=hg.mono (hG1.trans hG2);clear hS hwh hsorted
 have hsw:∀j,j<m.length→ht (zeF wo m j)≤200001:=fun j hj=>by
  have h1:=hg.small (m.take (j+1)) (by rw[List.length_take];omega) (fun r hr=>hmr r (List.mem_of_mem_take hr));have h2:=hg.small (m.drop (j+1)) (by rw[List.length_drop];omega) (fun r hr=>hmr r (List.mem_of_mem_drop hr));have h3:=zd3 (wo (m.take (j+1))) (wo (m.drop (j+1)));unfold zeF;omega
 have hst:=fun j (hj:j≤m.length)=>zpN (key:=zbp X col) (least:=least) hsw oM j hj;generalize hkey:zbp X col=key at *
 refine EV.loopK (ι:=Nat) [1,3,4,5,10,11,13,14] [5] (fun j=>[(12,.v (.bool (zcO key wo least m j).isSome)),(15,.v (.int .i64 ((j+1:Nat):Int)))]) (fun j=>[(10,50,zah (zab (stA (zcO key wo least m j)))),(11,50,zah (zab (stW (zcO key wo least m j))))]) (fun j=>[(b,314,S (m.take j)++S (m.drop j))]) (fun j _=>j≤m.length-1) (fun j=>m.length-j) (0) rfl rfl ⟨rfl,rfl,trivial⟩ ⟨by rw[show stA (zcO key wo least m 0)=0 from rfl,zaz];rfl,by rw[show stW (zcO key wo least m 0)=0 from rfl,zaz];rfl,trivial⟩ rfl (fun _=>rfl) (Nat.zero_le _) ?_;rintro j G3 hG3 hj;refine uR ?_;refine EV.cond rfl (fun hlt=>?_) (fun hlt=>?_)
 ·simp only[nN]at hlt;obtain⟨r1,hr1⟩:∃r,m[j]?=some r:=⟨_,qA oM⟩;obtain⟨r2,hr2⟩:∃r,m[j+1]?=some r:=⟨_,qA hlt⟩;have hb1:=hmr r1 (qF hr1);have hb2:=hmr r2 (qF hr2);obtain⟨R1,C,x1,q1,rfl,hCC,hx1,hq1⟩:=zfz hb1.1 hb1.2 (hmh r1 (qF hr1));subst hCC;obtain⟨R2,C',x2,q2,rfl,hCC,hx2,hq2⟩:=zfz hb2.1 hb2.2 (hmh r2 (qF hr2));obtain rfl:C=C':=by omega
  obtain⟨vs,hvs,hs⟩:=hX2.mono hG3;obtain⟨a1,e1,hu1,hQ1⟩:=hvs.at hx1;obtain⟨a2,e2,hu2,hQ2⟩:=hvs.at hx2;have hs1:SlC G3 (.slice a1 x1.length e1) x1.length 5 (x1.flatMap fun q=>zah (zab q)):=hQ1;have hs2:SlC G3 (.slice a2 x2.length e2) x2.length 5 (x2.flatMap fun q=>zah (zab q)):=hQ2;have hm3:=hm2.mono hG3;have hl1:=(qE.1 hq1).1;have hl2:=(qE.1 hq2).1;have hXl1:R1<X.length:=by omega
  have hXl2:R2<X.length:=by omega
  have hjl:j<m.length:=by omega
  have hk1:key (m.getD j 0)=q1:=by rw[qB,hr1,←hkey];exact zfn rfl rfl hx1 hq1
  have hk2:key (m.getD (j+1) 0)=q2:=by rw[qB,hr2,←hkey];exact zfn rfl rfl hx2 hq2
  have hqb1:=hb x1 (qF hx1) q1 (qF hq1);have hqb2:=hb x2 (qF hx2) q2 (qF hq2);have wj:IntKind.i64.wrap (((j+1:Nat):Int)-1)=(j:Int):=by rw[IntKind.wrap_i64];omega
  have wn:IntKind.i64.wrap (((j+1:Nat):Int)+1)=((j+1+1:Nat):Int):=zai (j+1) oM;have hdrop:m.drop j=(R1:Int)::m.drop (j+1):=zeY hr1;have htake:m.take (j+1)=m.take j++[(R1:Int)]:=zat hr1;have hmove:=fun (G':Hp) (hG':G3.Le G')=>hg2.move G' (hG3.trans hG') b (m.take j) (m.drop (j+1)) (R1:Int) (by rw[List.length_take,List.length_drop];omega) (by rw[←hdrop,List.take_append_drop];exact hmr);rw[←hdrop,←htake]at hmove;have htl:(m.take (j+1)).length=j+1:=by rw[List.length_take];omega
  have hdl:(m.drop (j+1)).length=m.length-(j+1):=List.length_drop;have hf1:=hg.first (m.take (j+1));have hf2:=hg.first (m.drop (j+1));rw[htl]at hf1;rw[hdl]at hf2;have hS1:=hg.len (m.take (j+1));have hS2:=hg.len (m.drop (j+1));have hcmp:=zcN q1 q2 (zaG hqb1 oM) (zaG hqb2 oM);refine uR ?_;apply EV.drawn 6 kR kR;intro xv yw;(repeat refine' DD ?_);refine' DJ.ofVal (zaa.idx1 tO rfl rfl rfl rfl rfl rfl rfl rfl (hm3) (j) (wj) (hjl) ((by rw[List.getElem?_map,hr1];rfl))) rfl rfl rfl ?_;rotate_left;(repeat refine' DD ?_);(refine DJ.nil (fun G4 hG4 hF4=>?_);(case hS|hS2=>rfl));refine vW ([(b,314,S (m.take j)++S (m.drop j))]) ([]) (hmove G4 hG4) ?_;rintro v ow G5 ⟨rfl,rfl⟩ hG5;have hm5:=hm3.mono (hG4.trans hG5);have hs5:=hs.mono (hG4.trans hG5);have hs15:=hs1.mono (hG4.trans hG5);have hs25:=hs2.mono (hG4.trans hG5);refine uR ?_;apply EV.drawn 24 kR kR;intro xv yw;(repeat refine' DD ?_);refine' DJ.ofVal (zaa.idx1 tO rfl rfl rfl rfl rfl rfl rfl rfl (hm5) (j) (wj) (hjl) ((by rw[List.getElem?_map,hr1];rfl))) rfl rfl rfl ?_;rotate_left;(repeat refine' DD ?_);refine' vJ (hs5) (R1) (rfl) (hXl1) (hu1) ?_;rotate_left;(repeat refine' DD ?_);refine' DJ.idxM tO rfl rfl rfl rfl rfl rfl rfl rfl rfl (hs15) (C) (rfl) (hl1) (QL.at (H:=H) (v:=.bool true) hq1) ?_;rotate_left;(repeat refine' DD ?_);refine' vJ (hm5) (j+1) (rfl) (hlt) ((by rw[List.getElem?_map,hr2];rfl)) ?_;rotate_left;(repeat refine' DD ?_);refine' vJ (hs5) (R2) (rfl) (hXl2) (hu2) ?_;rotate_left;(repeat refine' DD ?_);refine' DJ.idxM tO rfl rfl rfl rfl rfl rfl rfl rfl rfl (hs25) (C) (rfl) (hl2) (QL.at (H:=H) (v:=.bool true) hq2) ?_;rotate_left;(repeat refine' DD ?_);(refine DJ.nil (fun G6 hG6 hF6=>?_);(case hS|hS2=>rfl));refine uR ?_;refine RP ?_;refine EVL.loadOwn tO rfl rfl rfl rfl rfl rfl (0) rfl (zrB hS1 hf1) rfl rfl ?_;refine uR ?_;have hcand:zcV key least m j=(decide (least≤((j+1:Nat):Int)) && decide (least≤((m.length-(j+1):Nat):Int)) && decide (q1<q2)):=by unfold zcV;rw[hk1,hk2]
  by_cases h1:((j+1:Nat):Int)<least
  ·have hno:zcO key wo least m (j+1)=zcO key wo least m j:=zjv (by rw[hcand,qC (show ¬least≤((j+1:Nat):Int) by omega)];rfl);rw[qD h1];refine uR ?_;refine⟨j+1,⟨by rw[hno];rfl,by rw[wn];rfl,trivial⟩,sB,⟨by rw[hno];rfl,by rw[hno];rfl,trivial⟩,sB,rfl,by omega,hG4.trans (hG5.trans hG6),by omega⟩
  ·rw[qC h1];refine uR ?_;refine RP ?_;refine EVL.loadOwn tO rfl rfl rfl rfl rfl rfl (0) rfl (zqQ hS1 hf2) rfl rfl ?_;refine uR ?_;by_cases h2:((m.length-(j+1):Nat):Int)<least
   ·have hno:zcO key wo least m (j+1)=zcO key wo least m j:=zjv (by rw[hcand,qC (show ¬least≤((m.length-(j+1):Nat):Int) by omega),Bool.and_false];rfl);rw[qD h2];refine uR ?_;refine⟨j+1,⟨by rw[hno];rfl,by rw[wn];rfl,trivial⟩,sB,⟨by rw[hno];rfl,by rw[hno];rfl,trivial⟩,sB,rfl,by omega,hG4.trans (hG5.trans hG6),by omega⟩
   ·rw[qC h2]
    repeat (first|refine RUN ?_|refine CV (hcmp) ?_|refine CE (hcmp) ?_)
    by_cases h3:q1<q2
    ·have hc:zcV key least m j=true:=by rw[hcand,qD (show least≤((j+1:Nat):Int) by omega),qD (show least≤((m.length-(j+1):Nat):Int) by omega),qD h3];rfl
     have hmid:zdN key m j=(q1+q2) / 2:=by unfold zdN;rw[hk1,hk2]
     have hr1':=fun r hr=>hmr r (List.mem_of_mem_take (i:=j+1) hr);have hr2':=fun r hr=>hmr r (List.mem_of_mem_drop (i:=j+1) hr);have hw1:=fun G':Hp=>hg2.worth G' b 0 314 [] (S (m.drop (j+1))) (m.take (j+1)) rfl oM hr1';have hw2:=fun G':Hp=>hg2.worth G' b 19 314 (S (m.take (j+1))) [] (m.drop (j+1)) hS1 oM hr2';simp only[qG]at hw2;have hsm1:=hg.small (m.take (j+1)) oM hr1';have hsm2:=hg.small (m.drop (j+1)) oM hr2';have hadd:=zdR (wo (m.take (j+1))) (wo (m.drop (j+1))) (zaG hsm1 oM) (zaG hsm2 oM);have hmv:=zm3 q1 q2 oM oM;have hws:=hsw j oM;have hwst:=hst j oM;rw[show wo (m.take (j+1))+wo (m.drop (j+1))=zeF wo m j from rfl]at hadd;rw[←hmid]at hmv;rw[qC (fun h=>absurd h3 (zhp.1 h))];refine uR ?_;apply EV.drawn 10 kR kR;intro xv yw;(repeat (first|refine' DD ?_|refine' vN ?_|refine' vF ?_));(refine' DJ.callR rfl rfl rfl rfl rfl 0 rfl (by simp[hS1,hS2]) (cO func79) (fun G'=>hw1 G') ?_;rotate_left);(repeat (first|refine' DD ?_|refine' vN ?_|refine' vF ?_));(refine' DJ.callR rfl rfl rfl rfl rfl 0 rfl (by simp[hS1,hS2]) (cO func79) (fun G'=>hw2 G') ?_;rotate_left);(repeat (first|refine' DD ?_|(refine' DC (hadd) (h:=?_);rotate_left)));(refine DJ.nil (fun G7 hG7 hF7=>?_);(case hS|hS2=>rfl));refine uR ?_;have hcmp2:=zcN (zeF wo m j) (stW (zcO key wo least m j)) (zaG hws oM) (zaG hwst oM)
     cases hst0:zcO key wo least m j with
     | none =>
      have hyes:=zlj (wo:=wo) hc hst0;rw[hst0]at hcmp2;refine uR ?_;apply EV.drawnK [1,3,4,5,10,11,13,14,15,16,17,18] [10,11] [5,16,17,18] 5 rfl rfl rfl rfl kR kR;intro xv yw;(repeat (first|refine' DD ?_|(refine' DC (hmv) (h:=?_);rotate_left)));(refine DJ.nil (fun G8 hG8 hF8=>?_);(case hS|hS2=>rfl);(case hD=>rfl));refine uR ?_;refine⟨j+1,⟨by rw[hyes];rfl,by rw[wn];rfl,trivial⟩,sB,⟨by rw[hyes];rfl,by rw[hyes];rfl,trivial⟩,sB,rfl,by omega,hG4.trans (hG5.trans (hG6.trans (hG7.trans hG8))),by omega⟩
     | some p =>
      obtain⟨pa,pw⟩:=p;rw[hst0]at hcmp2
      repeat (first|refine RUN ?_|refine CV (hcmp2) ?_|refine CE (hcmp2) ?_)
      by_cases h4:pw<zeF wo m j
      ·have hyes:=zmC (wo:=wo) hc hst0 h4;rw[qD (show zcA (zeF wo m j) (stW (some (pa,pw)))>0 from zee.2 h4)];refine uR ?_;apply EV.drawnK [1,3,4,5,10,11,13,14,15,16,17,18] [10,11] [5,16,17,18] 5 rfl rfl rfl rfl kR kR;intro xv yw;(repeat (first|refine' DD ?_|(refine' DC (hmv) (h:=?_);rotate_left)));(refine DJ.nil (fun G8 hG8 hF8=>?_);(case hS|hS2=>rfl);(case hD=>rfl));refine uR ?_;refine⟨j+1,⟨by rw[hyes];rfl,by rw[wn];rfl,trivial⟩,sB,⟨by rw[hyes];rfl,by rw[hyes];rfl,trivial⟩,sB,rfl,by omega,hG4.trans (hG5.trans (hG6.trans (hG7.trans hG8))),by omega⟩
      ·have hno:=(zmB (wo:=wo) hc hst0 h4).trans hst0;rw[qC (show ¬zcA (zeF wo m j) (stW (some (pa,pw)))>0 from fun h=>h4 (zee.1 h))];refine uR ?_;refine⟨j+1,⟨by rw[hno];rfl,by rw[wn];rfl,trivial⟩,sB,⟨by rw[hno];rfl,by rw[hno];rfl,trivial⟩,sB,rfl,by omega,hG4.trans (hG5.trans (hG6.trans hG7)),by omega⟩
    ·have hno:zcO key wo least m (j+1)=zcO key wo least m j:=zjv (by rw[hcand,qC h3,Bool.and_false]);rw[qD (zhp.2 h3)];refine uR ?_;refine⟨j+1,⟨by rw[hno];rfl,by rw[wn];rfl,trivial⟩,sB,⟨by rw[hno];rfl,by rw[hno];rfl,trivial⟩,sB,rfl,by omega,hG4.trans (hG5.trans hG6),by omega⟩
 ·simp only[nN]at hlt;obtain rfl:j=m.length-1:=by omega
  have hfh:=hst (m.length-1) oM;generalize hfin:zcO key wo least m (m.length-1)=fin at *
  refine uR ?_;refine EVA.start kR ?_;refine EVA.val tO (2) rfl kR kR kR rfl rfl rfl rfl rfl ?_;refine EVA.two 0 1 kR rfl rfl ?_ ?_
  ·(try refine zdP ?_);refine EVL.nil ⟨rfl,?_⟩;refine EVA.two 1 3 kR rfl rfl ?_ ?_
   ·(try refine zdP ?_);refine EVL.nil ⟨rfl,?_⟩;refine EVA.one 3 kR rfl ?_
    (try refine zdP ?_);refine EVL.nil ⟨rfl,?_⟩;refine EVA.one 4 kR rfl ?_
    (try refine zdP ?_);refine EVL.nil ⟨rfl,?_⟩;refine EVA.one 5 kR rfl ?_
    (try refine zdP ?_);refine EVL.nil ⟨rfl,?_⟩;refine EVA.nil kR ?_;refine uR ?_;exact⟨fin,⟨m,hsc,by rw[hkey];exact hfin.symm,hfh⟩,rfl⟩
   ·(try refine zdP ?_);refine EVL.nil ⟨rfl,?_⟩;refine EVA.one 1 kR rfl ?_
    (try refine zdP ?_);refine EVL.nil ⟨rfl,?_⟩;refine EVA.one 4 kR rfl ?_
    (try refine zdP ?_);refine EVL.nil ⟨rfl,?_⟩;refine EVA.one 5 kR rfl ?_
    (try refine zdP ?_);refine EVL.nil ⟨rfl,?_⟩;refine EVA.nil kR ?_;refine uR ?_;exact⟨fin,⟨m,hsc,by rw[hkey];exact hfin.symm,hfh⟩,rfl⟩
  ·(try refine zdP ?_);refine EVL.nil ⟨rfl,?_⟩;refine EVA.one 0 kR rfl ?_
   (try refine zdP ?_);refine EVL.nil ⟨rfl,?_⟩;refine EVA.one 3 kR rfl ?_
   (try refine zdP ?_);refine EVL.nil ⟨rfl,?_⟩;refine EVA.one 4 kR rfl ?_
   (try refine zdP ?_);refine EVL.nil ⟨rfl,?_⟩;refine EVA.one 5 kR rfl ?_
   (try refine zdP ?_);refine EVL.nil ⟨rfl,?_⟩;refine EVA.nil kR ?_;refine uR ?_;exact⟨fin,⟨m,hsc,by rw[hkey];exact hfin.symm,hfh⟩,rfl⟩
end
section
open Go.RowKit Go.Shelf
attribute [local go_sem] Oper.semAt_some
def zdJ {α:Type} (f:Nat→α) (k:Nat):List α:=(List.range k).map f
theorem zgQ {α:Type} (f:Nat→α) (k:Nat):zdJ f (k+1)=zdJ f k++[f k]:=by simp[zdJ,List.range_succ]
theorem zi0 {α:Type} (f:Nat→α) (k:Nat):(zdJ f k).length=k:=by simp[zdJ]
theorem znV (zs:List Int):zdJ (fun j=>zs[j]?.getD 0) zs.length=zs:=by
 apply List.ext_getElem
 ·simp[zdJ]
 ·intro i h1 h2;simp[zdJ,h2]
theorem zma (zs:List Int) {k:Nat} (hk:k≤zs.length):zdJ (fun j=>zs[j]?.getD 0) k=zs.take k:=by
 apply List.ext_getElem
 ·simp[zdJ,hk]
 ·intro i h1 h2;have:i<zs.length:=by simp[zdJ]at h1;omega
  simp[zdJ,this]
set_option maxRecDepth 100000 in
theorem zmb (F:Fence) (n:Nat) (h7:F.fn 246) (hro:F.round=none) (hn:1≤n) (l Bs n₀ b off len cap:Nat) (zs:List Int) (hreach:len*8≤140737488351232) (hb:b<n₀) (J Jx:List Int→World→Prop)
  (hY:∀pre x W,J pre W→pre.length<len→YieldAt F (n-1) Tryz.prog l #[.int .i64 x] W fun e W' =>
   (e=.returned (.bool true)∧J (pre++[x]) W'∧Below n₀ W W')∨(e=.returned (.bool false)∧Jx (pre++[x]) W'))
  (W:World) (hBs:W.cell? ⟨Bs,0,none⟩=some (.slice (some ⟨b,off,none⟩) len cap)) (hc:∀j,j<len→W.cell? ⟨b,off+j,none⟩=some (.int .i64 (zs[j]?.getD 0))) (h0:J [] W) :
  CallsIn F n Tryz.prog 246 #[.func (.yield l) #[] #[],.pointer (some ⟨Bs,0,none⟩)] W fun e W'=>(∃v,e=.returned v) ∧
   ((∃ys,ys=zdJ (fun j=>zs[j]?.getD 0) len∧J ys W')∨(∃pre,(∃k,k≤len∧pre=zdJ (fun j=>zs[j]?.getD 0) k)∧Jx pre W')):=by
 refine callsIn_of_wp Tryz.func246 rfl h7 ?_ hro;simp only[Tryz.ntmps246,List.size_toArray,List.length_cons,List.length_nil,Nat.reduceAdd,Nat.reduceSub,Array.replicate_succ,Array.replicate_zero,List.push_toArray,List.append_toArray,List.nil_append,List.cons_append]
 gi_wp2
 gi_loopw [7] (fun i wr=>∃k:Nat,k≤len∧i=.int .i64 k∧J (zdJ (fun j=>zs[j]?.getD 0) k) wr∧Below n₀ W wr)
  (fun i _=>len-(intOf i).toNat)
 case atStart=>exact⟨0,Nat.zero_le _,rfl,h0,Below.refl _ _⟩
 case round =>
  obtain⟨k,hk,rfl,hJs,hnx⟩:=hrel;have hcx:k<len→wr.cell? ⟨b,off+k,none⟩=some (.int .i64 (zs[k]?.getD 0)):=fun h=>(hnx.cell (p:=⟨b,off+k,none⟩) hb).trans (hc k h);by_cases hlt:k<len
  ·obtain⟨fn,tmps,assign,body,hy,hR⟩:=hY _ (zs[k]?.getD 0) wr hJs (by rw[zi0];exact hlt);have hcx':=hcx hlt
   gi_wp2;refine hR.mono ?_;rintro e W3 (⟨rfl,hJ3,hk3⟩ | ⟨rfl,hJx3⟩)
   ·gi_wp2
    go_roundw
    case rel=>exact⟨k+1,by omega,by simp,by rw[zgQ];exact hJ3,hnx.trans hk3⟩
    case measure=>simp[intOf];omega
   ·gi_wp2;refine bodyPost_ret (results_none rfl _ _ _) rfl ?_;exact⟨⟨_,rfl⟩,.inr ⟨_,⟨k+1,by omega,(zgQ _ _).symm⟩,hJx3⟩⟩
  ·obtain rfl:k=len:=by omega
   gi_wp2
   go_end0;exact⟨⟨_,rfl⟩,.inl ⟨_,rfl,hJs⟩⟩
set_option maxRecDepth 100000 in
theorem zdq (F:Fence) (n:Nat) (h7:F.fn 246) (hro:F.round=none) (l Bs:Nat) (a:Option Addr) (cap:Nat) (J:List Int→World→Prop) (W:World) (hBs:W.cell? ⟨Bs,0,none⟩=some (.slice a 0 cap)) (h0:J [] W) :
  CallsIn F n Tryz.prog 246 #[.func (.yield l) #[] #[],.pointer (some ⟨Bs,0,none⟩)] W fun e W'=>(∃v,e=.returned v)∧J [] W':=by
 refine callsIn_of_wp Tryz.func246 rfl h7 ?_ hro;simp only[Tryz.ntmps246,List.size_toArray,List.length_cons,List.length_nil,Nat.reduceAdd,Nat.reduceSub,Array.replicate_succ,Array.replicate_zero,List.push_toArray,List.append_toArray,List.nil_append,List.cons_append]
 gi_wp2
 gi_loopw [7] (fun i wr=>i=.int .i64 0∧J [] wr) (fun _ _=>0)
 case atStart=>exact⟨rfl,h0⟩
 case round =>
  obtain⟨rfl,hJs⟩:=hrel
  gi_wp2
  go_end0;exact⟨⟨_,rfl⟩,hJs⟩
theorem zi3 (F:Fence) (n:Nat) (h7:F.fn 246) (hro:F.round=none) (hn:1≤n) (Bs n₀:Nat) (sv:Value) (zs:List Int) (hreach:zs.length*8≤140737488351232) (w:World) (hBs:Bs<w.heap.size) (hn₀:n₀≤w.heap.size)
  (hc:w.cell? ⟨Bs,0,none⟩=some sv) (hI:Sl i64 w sv zs) (hlow:∀b off len cap,sv=.slice (some ⟨b,off,none⟩) len cap→zs≠[]→b<n₀) :
  SeqStopsK F n Tryz.prog 246 #[.pointer (some ⟨Bs,0,none⟩)] (fun x:Int=>#[Value.int .i64 x]) (Below n₀) (fun ys=>ys=zs) (fun pre=>pre <+: zs) zs.length w:=fun l J Jx W hW _ _ hY h0=>by
 have hc':=(hW.cell (p:=⟨Bs,0,none⟩) hBs).trans hc;rcases hI.below hW with ⟨rfl,a,cap,rfl⟩ | ⟨b,off,cap,rfl,hb,hcs⟩
 ·exact(zdq F n h7 hro l Bs a cap J W hc' h0).mono fun e W' ⟨he,hj⟩=>⟨he,.inl ⟨_,rfl,hj⟩⟩
 ·by_cases hz:zs=[]
  ·subst hz;exact(zdq F n h7 hro l Bs _ cap J W hc' h0).mono fun e W' ⟨he,hj⟩=>⟨he,.inl ⟨_,rfl,hj⟩⟩
  ·refine(zmb F n h7 hro hn l Bs n₀ b off zs.length cap zs hreach (hlow _ _ _ _ rfl hz) J Jx hY W hc' (fun j hj=>by rw[hcs j hj];simp[hj]) h0).mono ?_;rintro e W' ⟨he,⟨ys,rfl,hj⟩ | ⟨pre,⟨k,hk,rfl⟩,hj⟩⟩
   ·exact⟨he,.inl ⟨_,znV zs,hj⟩⟩
   ·exact⟨he,.inr ⟨_,by rw[zma zs hk];exact List.take_prefix _ _,hj⟩⟩
theorem Tryz.infoInt':(Tryz.prog.info? 3).map (fun i=>(i.zero,i.size,i.bytes))=some (some (.int .i64 0),1,8):=by kernel_rfl
set_option maxRecDepth 100000 in
theorem zhU (F:Fence) (n:Nat) (h3:F.fn 256) (h5:F.fn 246) (hro:F.round=none) (hn:3≤n) (Bs:Nat) (sv:Value) (xs:List Int) (hbytes:xs.length*8≤140737488351232) (w:World)
  (hBs:Bs<w.heap.size) (hc0:w.cell? ⟨Bs,0,none⟩=some sv) (hI:Sl i64 w sv xs) :
  CallsIn F n Tryz.prog 256 #[.slice none 0 0,.func (.func 246) #[] #[.pointer (some ⟨Bs,0,none⟩)]] w fun e W'=>∃v,e=.returned v∧W'.ownsRow w.heap.size 3 1 v xs.length (xs.map (Value.int .i64))∧(v=.slice none 0 0↔xs=[])∧Below w.heap.size w W':=by
 have h1:1≤n:=by omega
 obtain⟨i0,hi,hz0,hz1,hz2⟩:=info_parts Tryz.infoInt';refine callsIn_of_wp_marks Tryz.func256 rfl h3 ?_ hro;simp only[Tryz.ntmps256,List.size_toArray,List.length_cons,List.length_nil,Nat.reduceAdd,Nat.reduceSub,Array.replicate_succ,Array.replicate_zero,List.push_toArray,List.append_toArray,List.nil_append,List.cons_append]
 gi_wp2;have bO:=Boxed.new w 22 (.slice none 0 0);have hB0:Below w.heap.size w (w.alloc (.cells #[.slice none 0 0] 22)):=(Below.refl _ w).alloc (qH _) _;have hmax:xs.length≤maxLen:=by unfold maxLen;omega
 refine wpIn_rangeFunc_ownG hro h1 (gf:=246) (lb:=#[.pointer (some ⟨Bs,0,none⟩)]) rfl h5 (enters_of Tryz.func246 kR rfl)
  (zi3 F (n-1) h5 hro oM Bs w.heap.size sv xs hbytes _ (by simp;omega) (by simp) ((hB0.cell (p:=⟨Bs,0,none⟩) hBs).trans hc0) (hI.below hB0) (fun b off len cap e hne=>by
   rcases hI with ⟨hx,_⟩ | ⟨b',off',cap',e',hb',_⟩
   ·exact absurd hx hne
   ·rw[e']at e;cases e;exact hb')) belowK_t (belowK_b (by simp)) (Below.refl _ _) (fun _=>rfl)
  (fun pre W=>(∃v,Boxed W w.heap.size 22 v∧W.ownsRow w.heap.size 3 1 v pre.length (pre.map (Value.int .i64))∧(v=.slice none 0 0↔pre=[]))∧Below w.heap.size w W)
  (fun _ _ _=>False)
  (OwnFrom.and (Own.from (holdsRow_own w.heap.size w.heap.size 22 3 1 (fun pre=>pre.length) (fun pre=>pre.map (Value.int .i64)) (fun pre v=>v=.slice none 0 0↔pre=[])) _) (ownFrom_below (qH _) (by simp)))
  (fun _ _ _ _ _ hs _ _=>hs)
  ⟨⟨_,bO,World.ownsRow_nil _ _ _ _,by simp⟩,hB0⟩
  (fun x=>{ tmps:=#[.slice none 0 0,.func (.func 246) #[] #[.pointer (some ⟨Bs,0,none⟩)],.pointer (some ⟨w.heap.size,0,none⟩),undef,.slice none 0 0,.int .i64 x,.func (.func 246) #[] #[.pointer (some ⟨Bs,0,none⟩)],.int .i64 x,undef,undef,undef,undef,undef],defers:=[] }) ?assign ?body ?done ?stop
 case assign =>
  intro l x W K hK
  gi_wp2;exact hK
 case body =>
  rintro l pre x W ⟨⟨v,hv,hrow,hnil⟩,hB⟩ hlt;have hc:=hv.cell
  gi_wp2_with (gi_at_builtin;refine wpListIn_append_own _ rfl _ _ 22 rfl w.heap.size 3 i0 (.int .i64 0) 1 8 Tryz.underlying22 hi hz0 hz1 hz2 rfl (by decide) _ _ _ rfl (hrow.alloc _) ⟨W.heap.size,0,none⟩ 1 1 [.int .i64 x] rfl rfl (cell_one_new _ _ _) (by simp[Value.oneCell']) oM oM (by have:=hB.size;simp;omega) ?_;intro v' w1 hown' hgrow _;obtain⟨g',cap',rfl⟩:=ownsRow_succ hown';obtain⟨hv1,hv2,hr2,hk2,hb2⟩:=hv.appended (by decide) hrow hB.size (qH _) hown' hgrow;have hc1:=hv1.cell;have hf1:=hv1.frozen);exact⟨hk2.from _,hb2,⟨_,hv2,by simpa using hr2,by simp⟩,hB.trans hb2⟩
 case done =>
  rintro D ys W hD rfl ⟨⟨v,hv,hrow,hnil⟩,hB⟩ hK;have hc:=hv.cell
  gi_wp2;refine⟨by simp,.inl ⟨_,_,rfl,run_takeDeferred hK,?_⟩⟩;exact⟨_,results_tmp rfl _ _ _,v,rfl,ownsRow_putObj hrow _ hK rfl,hnil,hB.trans (belowK_b (w:=w) (qH _) W D _ _ (by simp at hD;omega) hK rfl rfl)⟩
 case stop =>
  rintro D c pre W _ _ h _;exact h.elim
end
section
open Go.RowKit Go.Shelf
attribute [local go_sem] Oper.semAt_some
end
section
open Go.RowKit _root_.Go.Proofs.Tryz
def nxt (s:Int):Int:=IntKind.u64.wrap (s+11400714819323198485)
def zse (z:Int):Int:=IntKind.u64.wrap (bits .xor .u64 z (z / 1073741824)*13787848793156543929)
def zsf (z:Int):Int:=IntKind.u64.wrap (bits .xor .u64 z (z / 134217728)*10723151780598845931)
def zsg (z:Int):Int:=bits .xor .u64 z (z / 2147483648)
def mix (z:Int):Int:=zsg (zsf (zse z))
def zsd (n:Int):Int:=18446744073709551615-18446744073709551616 % n
def zsa (s:Int):Int:=(-s*17428512612931826493) % 18446744073709551616
def left (s:Int):Nat:=(zsa (nxt s)).toNat
def zmp (n:Int):Nat→Int→Int × Int
 | 0,s=>(0,s)
 | k+1,s=>if mix (nxt s)≤zsd n then (mix (nxt s) % n,nxt s) else zmp n k (nxt s)
def below (n s:Int):Int × Int:=zmp n (left s+1) s
end
section
end
section
def zdH (l:List Int):List Int:=l.mergeSort fun x y=>decide (x≤y)
theorem zeP (l:List Int):(zdH l).length=l.length:=by simp[zdH]
theorem zl2 (l:List Int):(zdH l).Perm l:=List.mergeSort_perm _ _
theorem ziT (l:List Int):(zdH l).Pairwise (·≤·):=by
 have:=List.pairwise_mergeSort (le:=fun x y:Int=>decide (x≤y)) (by intro a b c;simp;omega) (by intro a b;simp;omega) l;unfold zdH;exact this.imp (by intro a b h;simpa using h)
end
section
open Go.RowKit Go.Shelf
theorem zjw (Bs:Nat) (sv:Value) (xs:List Int) (hbytes:xs.length*8≤140737488351232) (w:World)
  (hBs:Bs<w.heap.size) (hc0:w.cell? ⟨Bs,0,none⟩=some sv) (hI:Sl i64 w sv xs) :
  Calls Tryz.prog 244 #[.func (.func 246) #[] #[.pointer (some ⟨Bs,0,none⟩)]] w fun e W'=>∃v,e=.returned v∧W'.ownsRow w.heap.size 3 1 v xs.length (xs.map (Value.int .i64))∧(v=.slice none 0 0↔xs=[])∧Below w.heap.size w W':=by
 go_enter Tryz.func244,Tryz.ntmps244
 go_wp2_with fail;refine((callsIn_wide (n:=3)).1 (zhU Fence.wide 3 trivial trivial rfl oM Bs sv xs hbytes w hBs hc0 hI)).mono ?_;rintro e w1 ⟨v,rfl,hown,hnil,hb⟩;go_wp2
 go_ret;exact⟨v,rfl,hown,hnil,hb⟩
theorem zl5 (Bs:Nat) (sv:Value) (xs:List Int) (hbytes:xs.length*8≤140737488351232) (w:World)
  (hBs:Bs<w.heap.size) (hc0:w.cell? ⟨Bs,0,none⟩=some sv) (hI:Sl i64 w sv xs) :
  Calls Tryz.prog 215 #[.func (.func 246) #[] #[.pointer (some ⟨Bs,0,none⟩)]] w fun e W'=>∃v,e=.returned v∧W'.ownsRow w.heap.size 3 1 v xs.length ((zdH xs).map (Value.int .i64))∧Below w.heap.size w W':=by
 go_enter Tryz.func215,Tryz.ntmps215
 go_wp2_with fail;refine(zjw Bs sv xs hbytes w hBs hc0 hI).mono ?_;rintro e w1 ⟨v,rfl,hown,hnil,hb⟩;have HN:=hid hnil;clear hnil;rcases hown.2 with ⟨rfl,h0⟩ | ⟨g,cap,cur,rfl,hbase,hh,h1,h2,h3,h4⟩
 ·have hx:xs=[]:=HN.out.1 rfl;subst hx
  go_wp2_with fail;refine(Tryz.slices_Sort_int_none _ _ _).mono ?_;rintro e w2 ⟨rfl,rfl⟩;go_wp2
  go_ret;exact⟨.slice none 0 0,rfl,by simpa[zdH] using hown,hb⟩
 ·have hH:=hid (holds_of_blockI hh (by simpa using h4));have H3:=hid h3;have H4:=hid h4;have HH:=hid hh;clear h3 h4 hh
  go_wp2_with fail;refine(Tryz.slices_Sort_int g 0 cap xs w1 hH.out (lt_of_block HH.out) oM).mono ?_;rintro e w2 ⟨rfl,nn,os,rfl⟩;have ho:=ownsRow_sortedI (n:=nn) (os:=os) (ss:=xs) (ts:=zdH xs) (zeP xs) hbase HH.out h1 h2 H3.out;have hg:=grownBy_sortedI (w:=w1) (g:=g) (n:=nn) (os:=os) (zdH xs).toArray;have hbb:=hb.grown hg hb.size (fun k e=>by cases e;exact hbase);have HO:=hid ho;clear ho;go_wp2
  go_ret;exact⟨_,rfl,HO.out,hbb⟩
end
section
def zq7 (cols cs:List Int):Prop:=cs.Pairwise (·<·)∧∀c,c∈cs↔c∈cols
theorem zfo (zs:List Int) (h:zs.Pairwise (·≤·)):∀m,m≤zs.length→(Lib.compactUpTo zs.toArray m).Pairwise (·<·)∧∀c,c∈Lib.compactUpTo zs.toArray m↔c∈zs.take m
 | 0,_=>⟨List.Pairwise.nil,fun c=>by simp[Lib.compactUpTo]⟩
 | m+1,hm=>by
  obtain⟨h1,h2⟩:=zfo zs h m oM;have hlt:m<zs.length:=by omega
  have hg:zs.toArray[m]! = zs[m]:=by simp[hlt]
  have ht:zs.take (m+1)=zs.take m++[zs[m]]:=List.take_succ_eq_append_getElem hlt;have hpw:=h;rw[←List.take_append_drop (m+1) zs,ht]at hpw;have hle:∀x,x∈zs.take m→x≤zs[m]:=fun x hx=>(List.pairwise_append.1 (List.pairwise_append.1 hpw).1).2.2 x hx _ (List.mem_singleton.2 rfl);rw[Lib.compactUpTo_succ];by_cases hk:Lib.keeps zs.toArray m=true
  ·rw[if_pos hk,hg,ht];refine⟨List.pairwise_append.2 ⟨h1,List.pairwise_singleton _ _,fun x hx y hy=>?_⟩,fun c=>?_⟩
   ·rw[List.mem_singleton.1 hy];have hx':=(h2 x).1 hx;have hle':=hle x hx';unfold Lib.keeps at hk;rw[decide_eq_true_eq]at hk;rcases hk with rfl | hne
    ·rw[List.take_zero]at hx';cases hx'
    ·have hm0:0<m:=by
      rcases Nat.eq_zero_or_pos m with rfl | h0
      ·rw[List.take_zero]at hx';cases hx'
      ·exact h0
     have hp:zs.toArray[m-1]! = zs[m-1]:=by simp[show m-1<zs.length by omega]
     rw[hg,hp]at hne
     have htm:zs.take m=zs.take (m-1)++[zs[m-1]]:=by
      have:=List.take_succ_eq_append_getElem (show m-1<zs.length by omega)
      rwa [Nat.sub_add_cancel hm0]at this
     have hpw2:=(List.pairwise_append.1 (List.pairwise_append.1 hpw).1).1;rw[htm]at hpw2 hx'
     have hxp:x≤zs[m-1]:=by
      rcases List.mem_append.1 hx' with hx' | hx'
      ·exact(List.pairwise_append.1 hpw2).2.2 x hx' _ (List.mem_singleton.2 rfl)
      ·rw[List.mem_singleton.1 hx'];exact Int.le_refl _
     have hpm:zs[m-1]≤zs[m]:=hle _ (by rw[htm];exact List.mem_append_right _ (List.mem_singleton.2 rfl));omega
   ·rw[List.mem_append,List.mem_append,h2 c]
  ·rw[if_neg hk,qG,ht];refine⟨h1,fun c=>?_⟩;unfold Lib.keeps at hk;rw[decide_eq_true_eq,not_or]at hk;have hm0:0<m:=by omega
   have hp:zs.toArray[m-1]! = zs[m-1]:=by simp[show m-1<zs.length by omega]
   rw[hg,hp]at hk;have he:zs[m]=zs[m-1]:=by have:=hk.2;omega
   have htm:zs.take m=zs.take (m-1)++[zs[m-1]]:=by
    have:=List.take_succ_eq_append_getElem (show m-1<zs.length by omega)
    rwa [Nat.sub_add_cancel hm0]at this
   rw[h2 c,List.mem_append,List.mem_singleton,he];constructor
   ·exact .inl
   ·rintro (h | rfl)
    ·exact h
    ·rw[htm];exact List.mem_append_right _ (List.mem_singleton.2 rfl)
theorem zqa (cols:List Int):zq7 cols (Lib.compact (zdH cols)):=by
 have h:=zfo (zdH cols) (ziT cols) (zdH cols).length (qH _);refine⟨h.1,fun c=>?_⟩;have:=h.2 c;rw[List.take_length]at this;exact this.trans (zl2 cols).mem_iff
end
section
open Go.RowKit _root_.Go.Proofs.Tryz
theorem ziN {H:Hp} (a:Option Addr) (len cap:Nat):PC prog 216 #[.slice a len cap] H fun r H'=>∃b,r=.func (.func 246) #[] #[.pointer (some ⟨b,0,none⟩)]∧H' b=some [Value.slice a len cap].toArray:=by
 refine BD func216 ntmps216 ?_;refine uR ?_;(first|refine EVL.unbox (1) rfl fun b=>?_|refine EV.unbox (1) rfl fun b=>?_);(first|refine EVL.publish [] [] rfl fun G1 hG1 hb=>?_|refine EV.publish [] [] rfl fun G1 hG1 hb=>?_);refine EVL.fn1 rfl rfl rfl rfl rfl ?_;refine uR ?_;exact⟨b,rfl,hb⟩
theorem zfQ {W:World} {base:Nat} {e:TypeId} {size:Nat} {v:Value} {n:Nat} {xs:List Value} (h:W.ownsRow base e size v n xs):∃ow,zaW e size v n xs ow∧zmm base W ow:=by
 obtain⟨h1,⟨rfl,rfl⟩ | ⟨g,cap,cur,rfl,hb,hh,hc,hm,hs,ht⟩⟩:=h
 ·exact⟨[],⟨h1,.inl ⟨rfl,rfl,rfl⟩⟩,by simp,fun b T cs h=>by cases h⟩
 ·have hcur:cur.toList=xs++cur.toList.drop (n*size):=by rw[←ht,List.take_append_drop]
  refine⟨[(g,e,xs++cur.toList.drop (n*size))],⟨h1,.inr ⟨g,cap,_,rfl,rfl,by rw[←hcur];simpa using hs,hc,hm⟩⟩,by simp,fun b T cs h=>?_⟩;rw[List.mem_singleton]at h;cases h;refine⟨hb,?_⟩;rw[←hcur];exact hh
theorem znJ {H:Hp} {b:Nat} {sv:Value} {xs:List Int} (hB:H b=some [sv].toArray) (hs:IL H sv xs) (hl:xs.length≤1000000) :
  PO prog 215 #[.func (.func 246) #[] #[.pointer (some ⟨b,0,none⟩)]] H fun v ow=>zaW 3 1 v xs.length ((zdH xs).map iv) ow:=by
 refine⟨(cO func215),fun W hf hg=>?_⟩;obtain⟨T,fz,hW⟩:=hf b _ hB;obtain⟨a,cap,rfl,hsl,_⟩:=hs.sl hf;have hlt:b<W.heap.size:=(Array.getElem?_eq_some_iff.1 hW).1;refine(zl5 b _ xs oM W hlt (by rw[cell_of_row W b 0 _ T fz hW];rfl) hsl).mono ?_;rintro e W' ⟨v,rfl,hown,hb⟩;obtain⟨ow,h1,h2⟩:=zfQ hown;exact⟨v,ow,rfl,h1,h2,hb⟩
theorem zfp (zs:List Int):(Lib.compact zs).length≤zs.length:=by
 unfold Lib.compact Lib.compactUpTo;rw[List.length_map];exact qI (List.length_filter_le _ _) (by simp)
theorem zlk {H:Hp} {v:Value} {zs:List Int} {ow:Ows} (h:zaW 3 1 v zs.length (zs.map iv) ow) (hl:zs.length≤1000000) :
  PW prog 214 #[v] H ow fun r ow' _=>zaW 3 1 r (Lib.compact zs).length ((Lib.compact zs).map iv) ow':=by
 refine⟨(cO func214),fun W hf hg hL hd=>?_⟩;by_cases h0:zs.length=0
 ·obtain rfl:=List.length_eq_zero_iff.1 h0;obtain⟨a,cap,rfl⟩:=h.val;refine(Tryz.slices_Compact_int_empty a cap W).mono ?_;rintro e W' ⟨rfl,rfl⟩;exact⟨_,ow,H,rfl,h,Hp.Le.refl _,hf,Nw.refl _ _ _,za1.refl _ _,fun j b T cs hj=>⟨(hL j b T cs hj).1,.inr (Ows.bs_mem hj),(hL j b T cs hj).2.1⟩,hd⟩
 ·obtain⟨g,cap,sp,rfl,rfl,hlen,hle,hmax⟩:=h.block oM;obtain⟨hB,hHg,hgg⟩:=hL 0 g _ _ rfl;refine(Tryz.slices_Compact_int_cells g 0 zs.length cap zs W (qH _) oM hle (fun j hj=>?_) (fun j hj=>hB.free _)).mono ?_
  ·rw[hB.at (0+j)];rw[Nat.zero_add];simp[hj,List.getElem?_append]
  rintro e W' ⟨rfl,q,rfl⟩;rw[List.take_length];have hcl:=zfp zs;generalize Lib.compact zs=cs at *
  have hB2:Box (W.drewN q) g (zs.map iv++sp).toArray 3:=hB;have hvl:((cs++List.replicate (zs.length-cs.length) 0).map (Value.int .i64)).length=zs.length:=by simp;omega
  have hB3:=Box.setCells ((cs++List.replicate (zs.length-cs.length) 0).map (Value.int .i64)) 0 (W.drewN q) _ hB2 (by rw[hvl];simp);have hk:=zbm g ((cs++List.replicate (zs.length-cs.length) 0).map (Value.int .i64)) 0 (W.drewN q);have hk2:za1 (fun k=>k=g) W ((W.drewN q).setCells g 0 ((cs++List.replicate (zs.length-cs.length) 0).map (Value.int .i64))):=⟨hk.os,hk.tape,hk.output,hk.size,hk.block⟩
  have hcells:(zs.map iv++sp).take 0++(cs++List.replicate (zs.length-cs.length) 0).map (Value.int .i64)++(zs.map iv++sp).drop (0+((cs++List.replicate (zs.length-cs.length) 0).map (Value.int .i64)).length)=cs.map iv++((List.replicate (zs.length-cs.length) 0).map iv++sp):=by
   rw[hvl,List.take_zero,List.nil_append,Nat.zero_add,List.drop_left' (by simp),List.map_append];simp
  rw[hcells]at hB3;refine⟨_,[(g,3,cs.map iv++((List.replicate (zs.length-cs.length) 0).map iv++sp))],H,rfl,⟨by simp,.inr ⟨g,cap,_,rfl,rfl,?_,by omega,hmax⟩⟩,Hp.Le.refl _,fun b c hb=>?_,Nw.refl _ _ _,hk2.mono (fun k _ e=>by subst e;exact Ows.bs_mem (j:=0) rfl),fun j b T cs' hj=>?_,?_⟩
  ·rw[←hlen];simp;omega
  ·obtain⟨T,fz,hW⟩:=hf b c hb;refine⟨T,fz,?_⟩;rw[hk2.block b (hf.lt (by rw[hb];simp)) (fun e=>by subst e;rw[hHg]at hb;cases hb)];exact hW
  ·cases j with
   | zero=>cases (show some (g,3,cs.map iv++((List.replicate (zs.length-cs.length) 0).map iv++sp))=some (b,T,cs') from hj);exact⟨hB3,.inr (Ows.bs_mem (j:=0) rfl),hHg⟩
   | succ j=>simp at hj
  ·intro j j' b' T1 T2 c1 c2 h1 h2
   cases j with
   | zero=>cases j' with
    | zero=>rfl
    | succ j'=>simp at h2
   | succ j=>simp at h1
def zcU (st:Option (Int × Rat × Rat)) (p:Int × Option (Rat × Rat)):Option (Int × Rat × Rat):=match p.2 with
 | none=>st
 | some (a,w)=>match st with
  | none=>some (p.1,a,w)
  | some (c0,a0,w0)=>if w0<w then some (p.1,a,w) else some (c0,a0,w0)
def zbD (ps:List (Int × Option (Rat × Rat))):Option (Int × Rat × Rat):=ps.foldl zcU none
theorem zlc (ps:List (Int × Option (Rat × Rat))) (p:Int × Option (Rat × Rat)):zbD (ps++[p])=zcU (zbD ps) p:=by unfold zbD;rw[List.foldl_append];rfl
theorem zki {ps:List (Int × Option (Rat × Rat))} {B:Nat} (h:∀p,p∈ps→ht (stW p.2)≤B):∀c a w,zbD ps=some (c,a,w)→ht w≤B:=by
 have key:∀(qs:List (Int × Option (Rat × Rat))) (st:Option (Int × Rat × Rat)),(∀p,p∈qs→ht (stW p.2)≤B)→(∀c a w,st=some (c,a,w)→ht w≤B)→∀c a w,qs.foldl zcU st=some (c,a,w)→ht w≤B:=by
  intro qs
  induction qs with
  | nil=>intro st _ h2 c a w h3;exact h2 c a w h3
  | cons p qs ih =>
   intro st h1 h2 c a w h3;refine ih (zcU st p) (fun q hq=>h1 q (List.mem_cons_of_mem _ hq)) ?_ c a w h3;intro c a w h4;have hp:=h1 p (List.mem_cons_self ..);unfold zcU at h4
   cases ho:p.2 with
   | none=>rw[ho]at h4;exact h2 c a w h4
   | some q =>
    obtain⟨a1,w1⟩:=q;rw[ho]at h4 hp
    cases st with
    | none=>cases h4;exact hp
    | some t =>
     obtain⟨c0,a0,w0⟩:=t;dsimp only at h4;split at h4
     ·cases h4;exact hp
     ·cases h4;exact h2 _ _ _ rfl
 exact key ps none h (fun c a w h=>by cases h)
def zpu:Option (Int × Rat × Rat)→List Value
 | none=>.int .i64 0::(zah (zab 0)++zah (zab 0))
 | some (c,a,w)=>.int .i64 c::(zah (zab a)++zah (zab w))
theorem zko:Tryz.te250.zero=zpu none:=by
 unfold zpu;rw[zaz];rfl
abbrev zr8 (c:Int) (a w:Rat):Value:=.agg (zpu (some (c,a,w))).toArray
def zrP (X:List (List Rat)) (wo:List Int→Rat) (rs cols:List Int) (least:Int) (r:Value):Prop :=
 ∃ps:List (Int × Option (Rat × Rat)),zq7 cols (ps.map (·.1))∧(∀p,p∈ps→zps X wo rs (max least 1) p.1 p.2) ∧
  ((zbD ps=none∧r=.tuple #[.agg (zpu none).toArray,.bool false])∨∃c a w,zbD ps=some (c,a,w)∧r=.tuple #[zr8 c a (w-wo rs),.bool true])
theorem zp5 {H:Hp} {kd cl:Int} {sl sv vx vr vc:Value} {X:List (List Rat)} {S:List Int→List Value} {wo:List Int→Rat} {rs cols:List Int} {least:Int} (hg:GOk H kd cl sl sv X.length S wo) (hX:QLL H vx X) (hr:IL H vr rs) (hn:rs.length≤20) (hc:IL H vc cols) (hcn:cols.length≤1000000) (hb:∀x,x∈X→∀q,q∈x→ht q≤100) :
  PC prog 168 #[zaE kd cl sl sv,vx,vr,vc,.int .i64 least] H fun r _=>zrP X wo (exL rs X.length) cols least r:=by
 have hlen:=hg.leng;have hex:=fun (G:Hp) (hG:H.Le G)=>zbS (hr.mono hG) oM X.length;have hel:=zcY rs X.length;have heb:=zdv (rs:=rs) (n:=X.length);generalize exL rs X.length=es at *
 obtain⟨xa,xc,rfl⟩:=hX.val;obtain⟨ra,rc,rfl⟩:=SlC.val hr;obtain⟨ca,cc,rfl⟩:=SlC.val hc;refine BD func168 ntmps168 ?_;refine uR ?_;refine vA (hg.check _ (Hp.Le.refl _)) ?_;rintro r0 G1 rfl hG1
 repeat (first|refine RUN ?_|refine CV (hlen) ?_|refine CE (hlen) ?_)
 rw[show ((X.length:Int) != (X.length:Int))=false from bne_self_eq_false _];refine uR ?_;refine vA (hex _ hG1) ?_;intro r1 G2 he hG2;obtain⟨ea,ec,rfl⟩:=SlC.val he;refine uR ?_;refine vA (ziN ca cols.length cc) ?_;rintro r2 G3 ⟨b,rfl,hb3⟩ hG3;have hc3:=hc.mono (hG1.trans (hG2.trans hG3));refine EVL.callO rfl rfl rfl rfl rfl (znJ hb3 hc3 hcn) ?_;rintro r4 ow4 how4;have hcl:=zeP cols;rw[←hcl]at how4;refine EVL.callW rfl rfl rfl rfl rfl (ow4) ([]) rfl (zlk how4 oM) ?_;rintro r5 ow5 G5 how5 hG5;have hcols:=zqa cols;have hcl2:=zfp (zdH cols);generalize Lib.compact (zdH cols)=cs at *
 obtain⟨ka,kc,rfl⟩:=how5.val;(first|refine EVL.publishL [] ow5 [] (rfl) how5 fun G6 hG6 hk6=>?_|refine EV.publishL [] ow5 [] (rfl) how5 fun G6 hG6 hk6=>?_);have hk6':IL G6 (.slice ka cs.length kc) cs:=hk6;clear hb3 hc3 how4 how5 hk6;have hall:=hG1.trans (hG2.trans (hG3.trans (hG5.trans hG6)));have hg6:=hg.mono hall;have hX6:=hX.mono hall;have he6:=he.mono (hG3.trans (hG5.trans hG6));refine uR ?_;refine EV.loopK (ι:=List (Int × Option (Rat × Rat))) [1,2,4,5,10,12,38,39] [5,10] (fun ps=>[(13,.v (.bool (zbD ps).isSome)),(40,.v (.int .i64 (ps.length:Int)))]) (fun ps=>[(12,250,zpu (zbD ps))]) (fun _=>[]) (fun ps _=>ps.map (·.1)=cs.take ps.length∧ps.length≤cs.length∧∀p,p∈ps→zps X wo es (max least 1) p.1 p.2) (fun ps=>cs.length-ps.length) ([]) rfl rfl ⟨rfl,rfl,trivial⟩ ⟨by rw[show zbD []=none from rfl,←zko];rfl,trivial⟩ rfl (fun _=>rfl) (⟨rfl,Nat.zero_le _,by simp⟩) ?_;rintro ps G7 hG7 ⟨hps,hpl,hpr⟩;refine uR ?_;refine EV.cond rfl (fun hlt=>?_) (fun hlt=>?_)
 ·simp only[nN]at hlt;obtain⟨c,hci⟩:∃c,cs[ps.length]?=some c:=⟨_,qA hlt⟩;have hcol:=zmD (col:=c) (least:=max least 1) (hg6.mono hG7) (hX6.mono hG7) (he6.mono hG7) oM heb hb;refine uR ?_;refine vI ((hk6'.mono hG7)) (ps.length) (rfl) (hlt) ((by rw[List.getElem?_map,hci];rfl)) ?_;refine uR ?_;refine EVL.asI (max least 1) ((by split <;> omega)) ?_;refine vA (hcol) ?_;rintro r6 G8 ⟨o,hR,rfl⟩ hG8;have hln:∀o,(ps++[(c,o)]).length=ps.length+1:=fun o=>by simp
  have wn:IntKind.i64.wrap ((ps.length:Int)+1)=((ps.length+1:Nat):Int):=zai _ oM
  have hmap:∀o,(ps++[(c,o)]).map (·.1)=cs.take (ps++[(c,o)]).length:=fun o=>by
   rw[hln,zat hci,←hps,List.map_append];rfl
  have hmem:∀o,zps X wo es (max least 1) c o→∀p,p∈ps++[(c,o)]→zps X wo es (max least 1) p.1 p.2:=fun o h p hp=>by
   rcases List.mem_append.1 hp with hp | hp
   ·exact hpr p hp
   ·rw[List.mem_singleton.1 hp];exact h
  have hsn:=zlc ps (c,o);have hwb:ht (stW o)≤200001:=by obtain⟨_,_,_,h⟩:=hR;exact h
  have hwo:∀c a w,zbD ps=some (c,a,w)→ht w≤200001:=zki fun p hp=>by obtain⟨_,_,_,h⟩:=hpr p hp;exact h
  cases o with
  | none =>
   have hsame:zbD (ps++[(c,none)])=zbD ps:=hsn;refine uR ?_;refine⟨ps++[(c,none)],⟨by rw[hsame];rfl,by rw[hln,wn];rfl,trivial⟩,sB,⟨by rw[hsame];rfl,trivial⟩,sB,rfl,⟨hmap _,by rw[hln];omega,hmem _ hR⟩,by assumption,by rw[hln];omega⟩
  | some q =>
   obtain⟨a,w⟩:=q
   cases hst:zbD ps with
   | none =>
    have hnew:zbD (ps++[(c,some (a,w))])=some (c,a,w):=by rw[hsn,hst];rfl
    refine uR ?_;refine⟨ps++[(c,some (a,w))],⟨by rw[hnew];rfl,by rw[hln,wn];rfl,trivial⟩,sB,⟨by rw[hnew];rfl,trivial⟩,sB,rfl,⟨hmap _,by rw[hln];omega,hmem _ hR⟩,by assumption,by rw[hln];omega⟩
   | some t =>
    obtain⟨c0,a0,w0⟩:=t;have hcmp:=zcN w w0 (zaG (show ht w≤200001 from hwb) oM) (zaG (hwo _ _ _ hst) oM)
    repeat (first|refine RUN ?_|refine CV (hcmp) ?_|refine CE (hcmp) ?_)
    by_cases hlt2:w0<w
    ·have hnew:zbD (ps++[(c,some (a,w))])=some (c,a,w):=by rw[hsn,hst];exact if_pos hlt2
     rw[qD (zee.2 hlt2)];refine uR ?_;refine⟨ps++[(c,some (a,w))],⟨by rw[hnew];rfl,by rw[hln,wn];rfl,trivial⟩,sB,⟨by rw[hnew];rfl,trivial⟩,sB,rfl,⟨hmap _,by rw[hln];omega,hmem _ hR⟩,by assumption,by rw[hln];omega⟩
    ·have hnew:zbD (ps++[(c,some (a,w))])=some (c0,a0,w0):=by rw[hsn,hst];exact if_neg hlt2
     rw[qC (fun h=>hlt2 (zee.1 h))];refine uR ?_;refine⟨ps++[(c,some (a,w))],⟨by rw[hnew];rfl,by rw[hln,wn];rfl,trivial⟩,sB,⟨by rw[hnew];rfl,trivial⟩,sB,rfl,⟨hmap _,by rw[hln];omega,hmem _ hR⟩,by assumption,by rw[hln];omega⟩
 ·simp only[nN]at hlt;have hpe:ps.length=cs.length:=by omega
  have hcs:ps.map (·.1)=cs:=by rw[hps,hpe,List.take_length]
  rw[←hcs]at hcols;have hwo:∀c a w,zbD ps=some (c,a,w)→ht w≤200001:=zki fun p hp=>by obtain⟨_,_,_,h⟩:=hpr p hp;exact h
  cases hst:zbD ps with
  | none =>
   refine uR ?_;exact⟨ps,hcols,hpr,.inl ⟨hst,by rw[←zko];rfl⟩⟩
  | some t =>
   obtain⟨c,a,w⟩:=t;have hsub:=zgO w (wo es) (zaG (hwo _ _ _ hst) oM) (zaG (hg.small es oM heb) oM);have hlS:=hg.len es;refine uR ?_;refine EVL.call rfl rfl rfl rfl rfl (hg6.whole _ hG7 _ es (he6.mono hG7) oM heb) ?_;rintro r6 G8 rfl hG8;obtain⟨sn,scs,ssq,sq,hs12,hS⟩:=hg.form es;obtain⟨c0,c1,c2,c3,c4,c5,c6,c7,c8,c9,c10,c11,rfl⟩:=zrp hs12;rw[hS];refine uR ?_;(first|refine EVL.unbox (19) rfl fun b=>?_|refine EV.unbox (19) rfl fun b=>?_);(first|refine EVL.swapOw ([(b,147,S es)]) ([]) ((by rw[hS];rfl)) ?_|refine EV.swapOw ([(b,147,S es)]) ([]) ((by rw[hS];rfl)) ?_);have hw1:=fun G':Hp=>hg.worth G' b 0 147 [] [] es rfl oM heb;simp only[qG]at hw1;clear hS;refine uR ?_;apply EV.drawn 7 kR kR;intro xv yw;(repeat (first|refine' DD ?_|refine' vN ?_|refine' vF ?_));(refine' DJ.callR rfl rfl rfl rfl rfl 0 rfl (by simp[hlS]) (cO func79) (fun G'=>hw1 G') ?_;rotate_left);(repeat (first|refine' DD ?_|(refine' DC (hsub) (h:=?_);rotate_left)));(refine DJ.nil (fun G9 hG9 hF9=>?_);(case hS|hS2=>rfl));refine uR ?_;exact⟨ps,hcols,hpr,.inr ⟨c,a,w,hst,rfl⟩⟩
def RRs (H:Hp) (vs:List Value) (X:List (List Rat)):Prop:=vs.length=X.length∧∀(j:Nat) (u:Value) (x:List Rat),vs[j]?=some u→X[j]?=some x→RL H u x
theorem RRs.mono {H G:Hp} {vs:List Value} {X:List (List Rat)} (h:RRs H vs X) (k:H.Le G):RRs G vs X:=⟨h.1,fun j u x e1 e2=>(h.2 j u x e1 e2).mono k⟩
theorem RRs.nil (H:Hp):RRs H [] []:=⟨rfl,fun j u x h=>by simp at h⟩
theorem RRs.snoc {H:Hp} {vs:List Value} {X:List (List Rat)} {u:Value} {x:List Rat} (h:RRs H vs X) (k:RL H u x):RRs H (vs++[u]) (X++[x]):=znY h k
def RLL (H:Hp) (v:Value) (X:List (List Rat)):Prop:=∃vs:List Value,RRs H vs X∧SlC H v X.length 1 vs
theorem RLL.mono {H G:Hp} {v:Value} {X:List (List Rat)} (h:RLL H v X) (k:H.Le G):RLL G v X:=by
 obtain⟨vs,h1,h2⟩:=h;exact⟨vs,h1.mono k,h2.mono k⟩
theorem RLL.val {H:Hp} {v:Value} {X:List (List Rat)} (h:RLL H v X):∃a c,v=.slice a X.length c:=by
 obtain⟨vs,_,h2⟩:=h;exact SlC.val h2
theorem RRs.at {H:Hp} {vs:List Value} {X:List (List Rat)} (h:RRs H vs X) {j:Nat} {x:List Rat} (hj:X[j]?=some x):∃a c,vs[j]?=some (.slice a x.length c)∧RL H (.slice a x.length c) x:=by
 obtain⟨hl,_⟩:=qE.1 hj;obtain⟨u,hu⟩:∃u,vs[j]?=some u:=⟨_,qA (by rw[h.1];exact hl)⟩;have hq:=h.2 j u x hu hj;obtain⟨a,c,rfl⟩:=hq.val;exact⟨a,c,hu,hq⟩
def zeU (l:List Int) (n w:Nat):List (List Rat):=(List.range n).map fun i=>zjf (l.drop (min l.length (i*w))) w
theorem zf0 (l:List Int) (n w:Nat):(zeU l n w).length=n:=by simp[zeU]
theorem zo2 (l:List Int) {n w i:Nat} (h:i<n):(zeU l n w)[i]?=some (zjf (l.drop (min l.length (i*w))) w):=by
 unfold zeU;rw[List.getElem?_map,List.getElem?_range h];rfl
theorem IL.drop {H:Hp} {a:Option Addr} {cap:Nat} {l:List Int} (h:IL H (.slice a l.length cap) l) (k:Nat) (hk:k≤l.length):IL H (.slice (if cap=k then a else a.map (·.add (k*1))) (l.length-k) (cap-k)) (l.drop k):=by
 have hs:SlC H (.slice a l.length cap) l.length 1 (l.map iv):=h;have:=hs.sub k l.length hk (qH _) (SlN.le h);unfold IL SlN;rw[List.length_drop,List.map_drop];rw[Nat.mul_one,Nat.mul_one,List.take_of_length_le (by simp)]at this;rw[Nat.mul_one];exact this
theorem zqF {H:Hp} {v:Value} {l:List Int} (h:IL H v l) (hb:∀z,z∈l → -9223372036854775808≤z∧z<9223372036854775808) (n w:Nat) (hn:n≤1000) (hw:w≤1000):PC prog 61 #[v,.int .i64 (n:Int),.int .i64 (w:Int)] H fun r H'=>RLL H' r (zeU l n w):=by
 obtain⟨a,cap,rfl⟩:=SlC.val h;have hcap:l.length≤cap:=SlN.le h;refine BD func61 ntmps61 ?_;refine uR ?_;refine EV.loopK (ι:=Nat × List Value × Value × Ows) [0,1,2] [] (fun q=>[(7,.v q.2.2.1),(8,.v (.int .i64 (q.1:Int)))]) (fun _=>[]) (fun q=>q.2.2.2) (fun q G=>q.1≤n∧RRs G q.2.1 ((zeU l n w).take q.1)∧zaW 25 1 q.2.2.1 q.1 q.2.1 q.2.2.2) (fun q=>n-q.1) ((0,[],.slice none 0 0,[])) rfl rfl ⟨rfl,rfl,trivial⟩ trivial rfl (fun _=>rfl) (⟨Nat.zero_le _,RRs.nil _,zaW.nil _ _⟩) ?_;rintro⟨i,vs,u,ow⟩ G1 hG1 ⟨hi,hvs,hown⟩;dsimp only at hi hvs hown;obtain⟨wa,wc,rfl⟩:=hown.val;refine uR ?_;refine EV.cond rfl (fun hlt=>?_) (fun hlt=>?_)
 ·simp only[nN]at hlt;have hk:i*w≤1000*1000:=Nat.mul_le_mul oM hw
  have hwr:IntKind.i64.wrap ((i:Int)*(w:Int))=((i*w:Nat):Int):=by
   rw[←Int.natCast_mul];generalize i*w=k at *;rw[IntKind.wrap_i64];omega
  have hrow:=zo2 l (w:=w) hlt;generalize i*w=k at *
  have hd:=IL.drop (h.mono hG1) (min l.length k) (Nat.min_le_left _ _);have hrp:=zpL hd (fun z hz=>hb z (List.mem_of_mem_drop hz)) w oM;refine uR ?_;rw[hwr];refine EVL.asI ((min l.length k:Nat)) ((by split <;> omega)) ?_;refine EVL.slc tO rfl rfl rfl rfl rfl rfl rfl rfl (min l.length k) l.length (.inr ⟨_,IntKind.i64,rfl,rfl⟩) (.inl ⟨rfl,rfl⟩) (Nat.min_le_left _ _) hcap hcap ?_;refine uR ?_;refine vA (hrp) ?_;rintro r G2 hr hG2;obtain⟨ra,rc,rfl⟩:=hr.val;refine uR ?_;refine EVL.app1 tO rfl rfl rfl rfl rfl rfl rfl rfl rfl rfl rfl rfl rfl rfl rfl rfl rfl rfl rfl (fun _=>rfl) (ow) ([]) ((qG _).symm) (hown) oM fun _=>?_;intro v' ow' hown';refine uR ?_;refine⟨(i+1,vs++[_],v',ow'),⟨rfl,?_,trivial⟩,sB,trivial,trivial,qG _,⟨hlt,by rw[zat hrow];exact(hvs.mono hG2).snoc hr,hown'⟩,hG2,by dsimp only;omega⟩;rw[zai i (by omega)];rfl
 ·simp only[nN]at hlt;obtain rfl:i=n:=by omega
  rw[List.take_of_length_le (by rw[zf0];omega)]at hvs;(first|refine EVL.publishL [] ow [] ((qG _).symm) hown fun G2 hG2 hs=>?_|refine EV.publishL [] ow [] ((qG _).symm) hown fun G2 hG2 hs=>?_);refine uR ?_;exact⟨vs,hvs.mono hG2,by rw[zf0];exact hs⟩
theorem zio {H:Hp} {v:Value} {X:List (List Rat)} (h:RLL H v X) (hn:X.length≤1000000) (hx:∀x,x∈X→x.length≤1000000∧∀q,q∈x→rq q):PC prog 12 #[v] H fun r H'=>QLL H' r X:=by
 obtain⟨a,cap,rfl⟩:=h.val;refine BD func12 ntmps12 ?_;refine uR ?_;refine EV.loopK (ι:=Nat × List Value × Value × Ows) [0] [] (fun q=>[(3,.v q.2.2.1),(4,.v (.int .i64 (q.1:Int)))]) (fun _=>[]) (fun q=>q.2.2.2) (fun q G=>q.1≤X.length∧QVs G q.2.1 (X.take q.1)∧zaW 40 1 q.2.2.1 q.1 q.2.1 q.2.2.2) (fun q=>X.length-q.1) ((0,[],.slice none 0 0,[])) rfl rfl ⟨rfl,rfl,trivial⟩ trivial rfl (fun _=>rfl) (⟨Nat.zero_le _,QVs.nil _,zaW.nil _ _⟩) ?_;rintro⟨i,vs,u,ow⟩ G1 hG1 ⟨hi,hvs,hown⟩;dsimp only at hi hvs hown;obtain⟨wa,wc,rfl⟩:=hown.val;refine uR ?_;refine EV.cond rfl (fun hlt=>?_) (fun hlt=>?_)
 ·simp only[nN]at hlt;obtain⟨x,hxi⟩:=gE hlt;have hxb:=hx x (qF hxi);obtain⟨us,hus,hs⟩:=h.mono hG1;obtain⟨a1,c1,hu1,hR⟩:=hus.at hxi;have hin:=zhi hR oM hxb.2;refine uR ?_;refine vI (hs) (i) (rfl) (hlt) (hu1) ?_;refine uR ?_;refine vA (hin) ?_;rintro r G2 hr hG2;obtain⟨ra,rc,rfl⟩:=SlC.val hr;refine uR ?_;refine EVL.app1 tO rfl rfl rfl rfl rfl rfl rfl rfl rfl rfl rfl rfl rfl rfl rfl rfl rfl rfl rfl (fun _=>rfl) (ow) ([]) ((qG _).symm) (hown) oM fun _=>?_;intro v' ow' hown';refine uR ?_;refine⟨(i+1,vs++[_],v',ow'),⟨rfl,?_,trivial⟩,sB,trivial,trivial,qG _,⟨hlt,by rw[zat hxi];exact(hvs.mono hG2).snoc hr,hown'⟩,hG2,by dsimp only;omega⟩;rw[zai i (by omega)];rfl
 ·simp only[nN]at hlt;obtain rfl:i=X.length:=by omega
  rw[List.take_length]at hvs;(first|refine EVL.publishL [] ow [] ((qG _).symm) hown fun G2 hG2 hs=>?_|refine EV.publishL [] ow [] ((qG _).symm) hown fun G2 hG2 hs=>?_);refine uR ?_;exact⟨vs,hvs.mono hG2,hs⟩
def zik (key:Int→Rat) (m:List Int):Nat→List Rat
 | 0=>[]
 | j+1=>zik key m j++if key (m.getD j 0)<key (m.getD (j+1) 0) then [zdN key m j] else []
end
section
theorem zic (m o:Rat):∀l:List Rat,zaU (zeS o l.reverse)=zaU (zeS m l.reverse)+2*(m-o)*(zaU l.reverse-((l.length:Int):Rat)*m)+((l.length:Int):Rat)*((m-o)*(m-o))
 | []=>by
  rw[show zaU (zeS o ([]:List Rat).reverse)=0 from rfl,show zaU (zeS m ([]:List Rat).reverse)=0 from rfl,show zaU ([]:List Rat).reverse=0 from rfl,show (((([]:List Rat).length:Int)):Rat)=0 from rfl];grind
 | x::l=>by
  have ih:=zic m o l
  have e:(((x::l).length:Int):Rat)=((l.length:Int):Rat)+1:=by
   rw[List.length_cons,Int.natCast_add,Rat.intCast_add];rfl
  rw[List.reverse_cons,zft,zft,zch,ih,e];generalize zaU (zeS m l.reverse)=A;generalize zaU l.reverse=B;generalize ((l.length:Int):Rat)=N;grind
theorem ziX (a:Rat):0≤a*a:=by
 rcases (Rat.le_total:0≤a∨a≤0) with h | h
 ·exact Rat.mul_nonneg h h
 ·have:0 ≤ -a:=by grind
  have:=Rat.mul_nonneg this this;grind
end
section
structure POk (wo cost:List Int→Rat):Prop where
 wperm:∀l m:List Int,l.Perm m→wo l=wo m
 cperm:∀l m:List Int,l.Perm m→cost l=cost m
 split:∀l m:List Int,cost (l++m)+wo (l++m)=cost l+wo l+(cost m+wo m)
 conv:∀l m:List Int,wo (l++m)≤wo l+wo m
theorem POk.gain {wo cost:List Int→Rat} (h:POk wo cost) {rs l m:List Int} (hp:(l++m).Perm rs):cost rs-cost l-cost m=wo l+wo m-wo rs:=by
 have h1:=h.split l m;have h2:=h.wperm _ _ hp;have h3:=h.cperm _ _ hp;rw[h2,h3]at h1;grind
theorem zjD {p:Int→Bool} {m:List Int} {k:Nat} (h1:∀x,x∈m.take k→p x=true) (h2:∀x,x∈m.drop k→p x=false):m.filter p=m.take k:=by
 rw[←List.take_append_drop k m,List.filter_append,List.filter_eq_self.2 h1,List.filter_eq_nil_iff.2 (fun x hx=>by rw[h2 x hx];decide),qG,List.take_append_drop]
theorem zjB {p:Int→Bool} {m:List Int} {k:Nat} (h1:∀x,x∈m.take k→p x=false) (h2:∀x,x∈m.drop k→p x=true):m.filter p=m.drop k:=by
 conv=>lhs;rw[←List.take_append_drop k m]
 rw[List.filter_append,List.filter_eq_nil_iff.2 (fun x hx=>by rw[h1 x hx];decide),List.filter_eq_self.2 h2,List.nil_append]
theorem zrq {a b:Rat} (h:a<b):a<(a+b) / 2∧(a+b) / 2<b:=by
 constructor <;> grind
theorem zhe {m:List Int} {j:Nat} {x:Int} (h:x∈m.take (j+1)):∃i,i≤j∧i<m.length∧m.getD i 0=x:=by
 obtain⟨i,hi,rfl⟩:=List.mem_iff_getElem.1 h;rw[List.length_take]at hi;exact⟨i,by omega,by omega,by simp[show i<m.length by omega]⟩
theorem zhd {m:List Int} {j:Nat} {x:Int} (h:x∈m.drop (j+1)):∃i,j+1≤i∧i<m.length∧m.getD i 0=x:=by
 obtain⟨i,hi,rfl⟩:=List.mem_iff_getElem.1 h;rw[List.length_drop]at hi;exact⟨j+1+i,by omega,by omega,by simp[show j+1+i<m.length by omega]⟩
theorem ze3 {key:Int→Rat} {m:List Int} (h:zgi key m) {i j:Nat} (hij:i≤j) (hj:j<m.length):key (m.getD i 0)≤key (m.getD j 0):=by
 rcases Nat.lt_or_eq_of_le hij with hlt | rfl
 ·have:=(List.pairwise_iff_getElem.1 h) i j (by simp;omega) (by simp;omega) hlt;simpa[show i<m.length by omega,hj] using this
 ·exact Rat.le_refl
theorem ze6 {X:List (List Rat)} {col:Int} {rs m:List Int} (hp:m.Perm rs) (hr:zgi (zbp X col) m) (ha:∀r,r∈rs→zdk X col r=true) {j:Nat} (hj:j+1<m.length) (hlt:zbp X col (m.getD j 0)<zbp X col (m.getD (j+1) 0)) :
  (zaZ X col (zdN (zbp X col) m j) rs).Perm (m.take (j+1))∧(zaC X col (zdN (zbp X col) m j) rs).Perm (m.drop (j+1)):=by
 obtain⟨h1,h2⟩:=zrq hlt;have hm:∀r,r∈m→zdk X col r=true:=fun r hr=>ha r (hp.mem_iff.1 hr)
 have hlo:∀x,x∈m.take (j+1)→zbp X col x≤zdN (zbp X col) m j:=fun x hx=>by
  obtain⟨i,hi,_,rfl⟩:=zhe hx;exact Rat.le_trans (ze3 hr hi oM) (Rat.le_of_lt h1)
 have hhi:∀x,x∈m.drop (j+1)→¬zbp X col x≤zdN (zbp X col) m j:=fun x hx=>by
  obtain⟨i,hi,hil,rfl⟩:=zhd hx;have:=ze3 hr hi hil;intro k;generalize zbp X col (m.getD i 0)=x at *
  unfold zdN at k;grind
 constructor
 ·refine(hp.symm.filter _).trans ?_;rw[zjD (k:=j+1)]
  ·intro x hx;rw[hm x (List.mem_of_mem_take hx),qD (hlo x hx)];rfl
  ·intro x hx;rw[hm x (List.mem_of_mem_drop hx),qC (hhi x hx)];rfl
 ·refine(hp.symm.filter _).trans ?_;rw[zjB (k:=j+1)]
  ·intro x hx;rw[hm x (List.mem_of_mem_take hx),qD (hlo x hx)];rfl
  ·intro x hx;rw[hm x (List.mem_of_mem_drop hx),qC (hhi x hx)];rfl
theorem zdV {key:Int→Rat} {least:Int} {m:List Int} {j:Nat}:zcV key least m j=true↔least≤((j+1:Nat):Int)∧least≤((m.length-(j+1):Nat):Int)∧key (m.getD j 0)<key (m.getD (j+1) 0):=by
 unfold zcV;simp only[Bool.and_eq_true,decide_eq_true_eq];exact and_assoc
theorem zg6 {key:Int→Rat} {wo:List Int→Rat} {least:Int} {m:List Int}:∀{n:Nat} {a w:Rat},zcO key wo least m n=some (a,w)→∃j,j<n∧zcV key least m j=true∧a=zdN key m j∧w=zeF wo m j
 | 0,a,w,h=>by cases h
 | n+1,a,w,h=>by
  unfold zcO at h;split at h
  ·rename_i hc;split at h
   ·cases h;exact⟨n,Nat.lt_succ_self _,hc,rfl,rfl⟩
   ·rename_i a0 w0 h0;split at h
    ·cases h;exact⟨n,Nat.lt_succ_self _,hc,rfl,rfl⟩
    ·cases h;obtain⟨j,h1,h2⟩:=zg6 h0;exact⟨j,by omega,h2⟩
  ·obtain⟨j,h1,h2⟩:=zg6 h;exact⟨j,by omega,h2⟩
theorem zg5 {key:Int→Rat} {wo:List Int→Rat} {least:Int} {m:List Int}:∀{n j:Nat},j<n→zcV key least m j=true→∃a w,zcO key wo least m n=some (a,w)∧zeF wo m j≤w
 | 0,j,h,_=>by omega
 | n+1,j,h,hc=>by
  unfold zcO;by_cases hjn:j=n
  ·subst hjn;rw[if_pos hc];split
   ·exact⟨_,_,rfl,Rat.le_refl⟩
   ·rename_i a0 w0 _;by_cases hw:w0<zeF wo m j
    ·rw[if_pos hw];exact⟨_,_,rfl,Rat.le_refl⟩
    ·rw[if_neg hw];exact⟨_,_,rfl,Rat.not_lt.1 hw⟩
  ·obtain⟨a,w,h1,h2⟩:=zg5 (wo:=wo) (show j<n by omega) hc;split
   ·rw[h1];dsimp only;split
    ·rename_i hw;exact⟨_,_,rfl,Rat.le_trans h2 (Rat.le_of_lt hw)⟩
    ·exact⟨_,_,rfl,h2⟩
   ·exact⟨a,w,h1,h2⟩
theorem zmr {ps:List (Int × Option (Rat × Rat))} {c:Int} {a w:Rat} (h:zbD ps=some (c,a,w)):(c,some (a,w))∈ps:=by
 have key:∀(qs pre:List (Int × Option (Rat × Rat))) (st:Option (Int × Rat × Rat)),(∀c a w,st=some (c,a,w)→(c,some (a,w))∈pre)→∀c a w,qs.foldl zcU st=some (c,a,w)→(c,some (a,w))∈pre++qs:=by
  intro qs
  induction qs with
  | nil=>intro pre st h2 c a w h3;rw[qG];exact h2 c a w h3
  | cons p qs ih =>
   intro pre st h2 c a w h3
   have:=ih (pre++[p]) (zcU st p) (fun c a w h4=>by
    obtain⟨pc,po⟩:=p;unfold zcU at h4
    cases po with
    | none=>exact List.mem_append_left _ (h2 c a w h4)
    | some q =>
     obtain⟨a1,w1⟩:=q
     cases st with
     | none=>cases h4;simp
     | some t =>
      obtain⟨c0,a0,w0⟩:=t;dsimp only at h4;split at h4
      ·cases h4;simp
      ·cases h4;exact List.mem_append_left _ (h2 _ _ _ rfl)) c a w h3
   simpa using this
 have:=key ps [] none (fun c a w h=>by cases h) c a w h;simpa using this
theorem zmq {ps:List (Int × Option (Rat × Rat))} {c:Int} {a w:Rat} (h:(c,some (a,w))∈ps):∃c' a' w',zbD ps=some (c',a',w')∧w≤w':=by
 have key:∀(qs:List (Int × Option (Rat × Rat))) (st:Option (Int × Rat × Rat)),((c,some (a,w))∈qs∨∃c' a' w',st=some (c',a',w')∧w≤w')→∃c' a' w',qs.foldl zcU st=some (c',a',w')∧w≤w':=by
  intro qs
  induction qs with
  | nil =>
   rintro st (h | h)
   ·cases h
   ·exact h
  | cons p qs ih =>
   intro st h;refine ih (zcU st p) ?_
   have step:(p=(c,some (a,w))∨∃c' a' w',st=some (c',a',w')∧w≤w')→∃c' a' w',zcU st p=some (c',a',w')∧w≤w':=by
    rintro (rfl | ⟨c',a',w',rfl,hw⟩)
    ·unfold zcU
     cases st with
     | none=>exact⟨_,_,_,rfl,Rat.le_refl⟩
     | some t =>
      obtain⟨c0,a0,w0⟩:=t;dsimp only;split
      ·exact⟨_,_,_,rfl,Rat.le_refl⟩
      ·rename_i hn;exact⟨_,_,_,rfl,Rat.not_lt.1 hn⟩
    ·obtain⟨pc,po⟩:=p;unfold zcU
     cases po with
     | none=>exact⟨_,_,_,rfl,hw⟩
     | some q =>
      obtain⟨a1,w1⟩:=q;dsimp only;split
      ·rename_i hn;exact⟨_,_,_,rfl,Rat.le_trans hw (Rat.le_of_lt hn)⟩
      ·exact⟨_,_,_,rfl,hw⟩
   rcases h with h | h
   ·rcases List.mem_cons.1 h with h | h
    ·exact .inr (step (.inl h.symm))
    ·exact .inl h
   ·exact .inr (step (.inr h))
 exact key ps none (.inl h)
theorem zfy {key:Int→Rat} {m:List Int}:∀{n:Nat} {t:Rat},t∈zik key m n→∃j,j<n∧key (m.getD j 0)<key (m.getD (j+1) 0)∧t=zdN key m j
 | 0,t,h=>by cases h
 | n+1,t,h=>by
  unfold zik at h;rcases List.mem_append.1 h with h | h
  ·obtain⟨j,h1,h2⟩:=zfy h;exact⟨j,by omega,h2⟩
  ·split at h
   ·rename_i hlt;exact⟨n,Nat.lt_succ_self _,hlt,List.mem_singleton.1 h⟩
   ·cases h
section
variable {X:List (List Rat)} {wo cost:List Int→Rat} {rs cols:List Int} {L:Int} {ps:List (Int × Option (Rat × Rat))} (hp:POk wo cost) (hcol:zq7 cols (ps.map (·.1))) (hps:∀p,p∈ps→zps X wo rs L p.1 p.2)
include hp hcol hps
end
end
section
theorem ziZ {l m:List Rat} (h:l.Perm m):zaU l=zaU m:=by
 induction h with
 | nil=>rfl
 | cons x _ ih=>rw[zas,zas,ih]
 | swap x y l=>rw[zas,zas,zas,zas];grind
 | trans _ _ h1 h2=>rw[h1,h2]
theorem zcC (l m:List Rat):zaU (l++m)=zaU l+zaU m:=by
 induction l with
 | nil=>rw[List.nil_append,zby];grind
 | cons x l ih=>rw[List.cons_append,zas,zas,ih];grind
theorem zfV {n:Nat} (h0:n≠0):((n:Int):Rat)≠0:=zdd h0
theorem zhu {n:Nat} (h0:n≠0):0<((n:Int):Rat):=by
 have h1:((0:Int):Rat)≤((n:Int):Rat):=Rat.intCast_le_intCast.2 oM;have h2:=zfV h0;have h3:((0:Int):Rat)=0:=rfl;rw[h3]at h1;rcases Rat.le_iff_lt_or_eq.1 h1 with h | h
 ·exact h
 ·exact absurd h.symm h2
theorem zr6 (a b:Rat) (x y:Nat) (hx:x=0→a=0) (hy:y=0→b=0):(a+b)*(a+b) / (((x+y:Nat):Int):Rat)≤a*a / ((x:Int):Rat)+b*b / ((y:Int):Rat):=by
 by_cases hx0:x=0
 ·subst hx0;rw[hx rfl,Nat.zero_add,show ((((0:Nat):Int)):Rat)=0 from rfl,za5,Rat.zero_add,Rat.zero_add];exact Rat.le_refl
 by_cases hy0:y=0
 ·subst hy0;rw[hy rfl,Nat.add_zero,show ((((0:Nat):Int)):Rat)=0 from rfl,za5,Rat.add_zero,Rat.add_zero];exact Rat.le_refl
 have h1:=zfV hx0;have h2:=zfV hy0;have h3:=zfV (n:=x+y) oM;have p1:=zhu hx0;have p2:=zhu hy0;have p3:=zhu (n:=x+y) oM;have e:(((x+y:Nat):Int):Rat)=((x:Int):Rat)+((y:Int):Rat):=by rw[Int.natCast_add,Rat.intCast_add]
 rw[e]at h3 p3 ⊢;generalize ((x:Int):Rat)=u at *
 generalize ((y:Int):Rat)=v at *
 have key:a*a / u+b*b / v-(a+b)*(a+b) / (u+v)=(a*v-b*u)*(a*v-b*u) / (u*v*(u+v)):=by grind
 have hn:0≤(a*v-b*u)*(a*v-b*u) / (u*v*(u+v)):=by
  have h5:=ziX (a*v-b*u);have h6:0<u*v*(u+v):=Rat.mul_pos (Rat.mul_pos p1 p2) p3;rw[Rat.div_def];exact Rat.mul_nonneg h5 (Rat.le_of_lt (Rat.inv_pos.2 h6))
 grind
def zia (vals:List Rat) (l:List Int):Rat:=zaU (zeS (zd8 (atR vals l)) (atR vals l))
def zgr (ls:List Int) (l:List Int):Rat:=zh8 (atI ls l)
theorem zr9 (L:List Rat):zaU (zeS (zd8 L) L)+zaU L*zaU L / ((L.length:Int):Rat)=zaU (zeS 0 L):=by
 by_cases h0:L.length=0
 ·obtain rfl:=List.length_eq_zero_iff.1 h0;show zaU []+zaU []*zaU [] / ((((([]:List Rat).length:Nat):Int)):Rat)=zaU [];rw[zby,show ((((([]:List Rat).length:Nat):Int)):Rat)=0 from rfl,za5,Rat.add_zero]
 ·have h:=zic (zd8 L) 0 L.reverse;rw[List.reverse_reverse,List.length_reverse]at h;have hn:=zfV h0;have hm:zd8 L=zaU L / ((L.length:Int):Rat):=rfl;rw[h];generalize zaU (zeS (zd8 L) L)=A;rw[hm];generalize ((L.length:Int):Rat)=N at *
  generalize zaU L=S at *
  grind
theorem zsi (vals:List Rat):POk (woV vals) (zia vals):=by
 have hpm:∀l m:List Int,l.Perm m→(atR vals l).Perm (atR vals m):=fun l m h=>h.map _
 have hw:∀l m:List Int,l.Perm m→woV vals l=woV vals m:=fun l m h=>by
  unfold woV;rw[ziZ (hpm l m h),h.length_eq]
 have hf:∀l:List Int,zia vals l+woV vals l=zaU (zeS 0 (atR vals l)):=fun l=>by
  have:=zr9 (atR vals l);rw[zb7]at this;exact this
 refine⟨hw,fun l m h=>?_,fun l m=>?_,fun l m=>?_⟩
 ·have h1:=hf l;have h2:=hf m;have h3:zaU (zeS 0 (atR vals l))=zaU (zeS 0 (atR vals m)):=ziZ ((hpm l m h).map _);have h4:=hw l m h;grind
 ·rw[hf,hf,hf,zjl];show zaU ((atR vals l++atR vals m).map _)=_;rw[List.map_append,zcC];rfl
 ·unfold woV;rw[zjl,zcC,List.length_append];exact zr6 _ _ _ _ (fun h=>by rw[List.length_eq_zero_iff.1 h];rfl) (fun h=>by rw[List.length_eq_zero_iff.1 h];rfl)
theorem zhG (f g:Nat→Nat) (j:Nat):∀n,((List.range n).map fun k=>f k+if k=j then g k else 0).sum=((List.range n).map f).sum+if j<n then g j else 0
 | 0=>by simp
 | n+1=>by
  rw[List.range_succ,List.map_append,List.sum_append,List.map_append,List.sum_append,zhG f g j n];simp only[List.map_cons,List.map_nil,List.sum_cons,List.sum_nil];by_cases h:n=j
  ·subst h;rw[if_pos rfl,if_neg oM,if_pos (by omega)];omega
  ·rw[if_neg h];by_cases h2:j<n
   ·rw[if_pos h2,if_pos (by omega)];omega
   ·rw[if_neg h2,if_neg (by omega)];omega
theorem znK:∀l:List Int,(∀z,z∈l→0≤z∧z<12)→sqL l=((List.range 12).map fun (k:Nat)=>l.count (k:Int)*l.count (k:Int)).sum
 | [],_=>by decide
 | x::l,h=>by
  have hx:=h x (List.mem_cons_self ..);obtain⟨j,rfl⟩:=Int.eq_ofNat_of_zero_le hx.1;have ih:=znK l (fun z hz=>h z (List.mem_cons_of_mem _ hz));have hs:=zhG (fun k=>l.count (k:Int)*l.count (k:Int)) (fun k=>2*l.count (k:Int)+1) j 12;rw[if_pos (by omega)]at hs;rw[zhE,ih,Nat.add_assoc,←hs];congr 1;refine List.map_congr_left fun k _=>?_;rw[List.count_cons];by_cases e:k=j
  ·subst e;rw[if_pos rfl];simp;grind
  ·have e2:¬((j:Int) == (k:Int))=true:=by simp;omega
   rw[if_neg e,if_neg e2];simp
def zjg (ks:List Nat) (f:Nat→Rat):Rat:=zaU (ks.map f)
theorem zk2 (f:Nat→Nat):∀ks:List Nat,((((ks.map f).sum:Nat):Int):Rat)=zjg ks fun k=>(((f k:Nat):Int):Rat)
 | []=>rfl
 | k::ks=>by
  unfold zjg;rw[List.map_cons,List.sum_cons,List.map_cons,zas,Int.natCast_add,Rat.intCast_add,zk2 f ks];rfl
theorem znL {f g:Nat→Rat} (h:∀k,f k≤g k):∀ks:List Nat,zjg ks f≤zjg ks g
 | []=>Rat.le_refl
 | k::ks=>by
  have ih:=znL h ks;unfold zjg at *
  rw[List.map_cons,zas,List.map_cons,zas];have:=h k;grind
theorem zk1 (f g:Nat→Rat):∀ks:List Nat,zjg ks (fun k=>f k+g k)=zjg ks f+zjg ks g
 | []=>by unfold zjg;rw[List.map_nil,List.map_nil,List.map_nil,zby,Rat.add_zero]
 | k::ks=>by
  have ih:=zk1 f g ks;unfold zjg at *
  rw[List.map_cons,zas,List.map_cons,zas,List.map_cons,zas,ih];grind
theorem ze7 (f:Nat→Rat) (c:Rat):∀ks:List Nat,zjg ks (fun k=>f k / c)=zjg ks f / c
 | []=>by unfold zjg;rw[List.map_nil,List.map_nil,zby,Rat.div_def,Rat.zero_mul]
 | k::ks=>by
  have ih:=ze7 f c ks;unfold zjg at *
  rw[List.map_cons,zas,List.map_cons,zas,ih,Rat.div_def,Rat.div_def,Rat.div_def,Rat.add_mul]
theorem zj0 {l:List Int} (h:∀z,z∈l→0≤z∧z<12):((sqL l:Int):Rat)=zjg (List.range 12) fun k=>((l.count (k:Int):Int):Rat)*((l.count (k:Int):Int):Rat):=by
 rw[znK l h,zk2];unfold zjg;congr 1;refine List.map_congr_left fun k _=>?_;rw[Int.natCast_mul,Rat.intCast_mul]
theorem zsh {ls:List Int} (hls:∀z,z∈ls→0≤z∧z<12):POk (woL ls) (zgr ls):=by
 have hpm:∀l m:List Int,l.Perm m→(atI ls l).Perm (atI ls m):=fun l m h=>h.map _
 have hb:∀l:List Int,∀z,z∈atI ls l→0≤z∧z<12:=fun l z hz=>by
  unfold atI at hz;obtain⟨r,_,rfl⟩:=List.mem_map.1 hz;rw[qB]
  cases e:ls[r.toNat]? with
  | none=>exact⟨by decide,by decide⟩
  | some x=>exact hls x (qF e)
 have hw:∀l m:List Int,l.Perm m→woL ls l=woL ls m:=fun l m h=>by
  unfold woL;rw[zkW (hpm l m h),h.length_eq]
 have hf:∀l:List Int,zgr ls l+woL ls l=((l.length:Int):Rat):=fun l=>by
  unfold zgr zh8 woL;rw[zb6];grind
 refine⟨hw,fun l m h=>?_,fun l m=>?_,fun l m=>?_⟩
 ·have h1:=hf l;have h2:=hf m;have h4:=hw l m h;rw[h.length_eq]at h1;grind
 ·rw[hf,hf,hf,List.length_append,Int.natCast_add,Rat.intCast_add]
 ·unfold woL;rw[zj0 (hb (l++m)),zj0 (hb l),zj0 (hb m),←ze7,←ze7,←ze7,←zk1];refine znL (fun k=>?_) _;rw[zjk,List.count_append,Int.natCast_add,Rat.intCast_add,List.length_append];exact zr6 _ _ _ _ (fun h=>by rw[List.length_eq_zero_iff.1 h];rfl) (fun h=>by rw[List.length_eq_zero_iff.1 h];rfl)
end
section
def zjT (a b:Int × Rat × Rat):Prop:=b.2.2<a.2.2∨(a.2.2=b.2.2∧(a.1<b.1∨(a.1=b.1∧a.2.1<b.2.1)))
instance (a b:Int × Rat × Rat):Decidable (zjT a b):=by unfold zjT;exact inferInstance
theorem zgH {a b c:Int × Rat × Rat} (h:zjT a b) (k:zjT b c):zjT a c:=by
 unfold zjT at *
 rcases h with h | ⟨h1,h2⟩ <;> rcases k with k | ⟨k1,k2⟩
 ·left;grind
 ·left;grind
 ·left;grind
 ·right;refine⟨h1.trans k1,?_⟩;rcases h2 with h2 | ⟨h2,h3⟩ <;> rcases k2 with k2 | ⟨k2,k3⟩
  ·left;omega
  ·left;omega
  ·left;omega
  ·right;exact⟨by omega,by grind⟩
theorem zlP {a b:Int × Rat × Rat} (h:¬zjT a b) (k:¬zjT b a):a=b:=by
 unfold zjT at *
 obtain⟨a1,a2,a3⟩:=a;obtain⟨b1,b2,b3⟩:=b;dsimp only at *
 have e3:a3=b3:=by
  have h1:¬b3<a3:=fun x=>h (.inl x);have h2:¬a3<b3:=fun x=>k (.inl x);grind
 subst e3
 have e1:a1=b1:=by
  have h1:¬a1<b1:=fun x=>h (.inr ⟨rfl,.inl x⟩);have h2:¬b1<a1:=fun x=>k (.inr ⟨rfl,.inl x⟩);omega
 subst e1
 have e2:a2=b2:=by
  have h1:¬a2<b2:=fun x=>h (.inr ⟨rfl,.inr ⟨rfl,x⟩⟩);have h2:¬b2<a2:=fun x=>k (.inr ⟨rfl,.inr ⟨rfl,x⟩⟩);grind
 subst e2;rfl
theorem zgG {a b:Int × Rat × Rat} (h:zjT a b) (k:zjT b a):False:=by
 have:=zgH h k;unfold zjT at this;rcases this with h | ⟨_,h | ⟨_,h⟩⟩
 ·exact absurd h Rat.lt_irrefl
 ·omega
 ·exact absurd h Rat.lt_irrefl
def zoY (st:Option (Int × Rat × Rat)) (p:Int × Rat × Rat):Option (Int × Rat × Rat):=match st with
 | none=>some p
 | some q=>if zjT p q then some p else some q
def zfd (l:List (Int × Rat × Rat)) (r:Option (Int × Rat × Rat)):Prop:=match r with
 | none=>l=[]
 | some p=>p∈l∧∀q,q∈l→¬zjT q p
theorem zly {l:List (Int × Rat × Rat)} {r:Option (Int × Rat × Rat)} (h:zfd l r) (p:Int × Rat × Rat):zfd (l++[p]) (zoY r p):=by
 unfold zoY
 cases r with
 | none =>
  obtain rfl:l=[]:=h
  exact⟨by simp,fun q hq=>by
   rw[List.nil_append,List.mem_singleton]at hq;subst hq;exact fun k=>zgG k k⟩
 | some q =>
  obtain⟨h1,h2⟩:=h;dsimp only;split
  ·rename_i hp;refine⟨by simp,fun z hz=>?_⟩;rcases List.mem_append.1 hz with hz | hz
   ·exact fun k=>h2 z hz (zgH k hp)
   ·rw[List.mem_singleton.1 hz];exact fun k=>zgG k k
  ·rename_i hp;refine⟨List.mem_append_left _ h1,fun z hz=>?_⟩;rcases List.mem_append.1 hz with hz | hz
   ·exact h2 z hz
   ·rw[List.mem_singleton.1 hz];exact hp
def zka (P:Int × Rat × Rat→Prop) (r:Option (Int × Rat × Rat)):Prop:=match r with
 | none=>∀p,¬P p
 | some p=>P p∧∀q,P q→¬zjT q p
theorem zfd.p {l:List (Int × Rat × Rat)} {r:Option (Int × Rat × Rat)} (h:zfd l r):zka (·∈l) r:=by
 cases r with
 | none =>
  obtain rfl:l=[]:=h;intro p hp;cases hp
 | some p=>exact h
theorem zlx {P Q:Int × Rat × Rat→Prop} {r s:Option (Int × Rat × Rat)} (h:zka P r) (k:zka Q s) (e:∀p,P p↔Q p):r=s:=by
 cases r with
 | none=>cases s with
  | none=>rfl
  | some q=>exact absurd ((e q).2 k.1) (h q)
 | some p=>cases s with
  | none=>exact absurd ((e p).1 h.1) (k p)
  | some q=>rw[zlP (a:=p) (b:=q) (k.2 p ((e p).1 h.1)) (h.2 q ((e q).2 k.1))]
theorem zdu {key:Int→Rat} {wo:List Int→Rat} {L:Int} {m:List Int}:∀{n:Nat} {a w:Rat},zcO key wo L m n=some (a,w) →
  ∃j,j<n∧zcV key L m j=true∧a=zdN key m j∧w=zeF wo m j∧∀j',j'<n→zcV key L m j'=true→zeF wo m j'<w∨(zeF wo m j'=w∧j≤j')
 | 0,a,w,h=>by cases h
 | n+1,a,w,h=>by
  unfold zcO at h;split at h
  ·rename_i hc;split at h
   ·rename_i h0;cases h;refine⟨n,Nat.lt_succ_self _,hc,rfl,rfl,fun j' hj' hc'=>?_⟩;by_cases e:j'=n
    ·subst e;exact .inr ⟨rfl,qH _⟩
    ·obtain⟨a1,w1,h1,_⟩:=zg5 (wo:=wo) (show j'<n by omega) hc';rw[h0]at h1;cases h1
   ·rename_i a0 w0 h0;obtain⟨j,hj,h1,h2,h3,h4⟩:=zdu h0;split at h
    ·rename_i hw;cases h;refine⟨n,Nat.lt_succ_self _,hc,rfl,rfl,fun j' hj' hc'=>?_⟩;by_cases e:j'=n
     ·subst e;exact .inr ⟨rfl,qH _⟩
     ·rcases h4 j' oM hc' with h5 | ⟨h5,_⟩
      ·left;grind
      ·left;rw[h5];exact hw
    ·rename_i hw;cases h;refine⟨j,by omega,h1,h2,h3,fun j' hj' hc'=>?_⟩;by_cases e:j'=n
     ·subst e;rcases Rat.le_iff_lt_or_eq.1 (Rat.not_lt.1 hw) with h5 | h5
      ·exact .inl h5
      ·exact .inr ⟨h5,by omega⟩
     ·exact h4 j' oM hc'
  ·rename_i hc;obtain⟨j,hj,h1,h2,h3,h4⟩:=zdu h;refine⟨j,by omega,h1,h2,h3,fun j' hj' hc'=>?_⟩;by_cases e:j'=n
   ·subst e;exact absurd hc' hc
   ·exact h4 j' oM hc'
theorem zjm {ps:List (Int × Option (Rat × Rat))} (hs:(ps.map (·.1)).Pairwise (·<·)) {c:Int} {a w:Rat} (h:zbD ps=some (c,a,w)):∀c' a' w',(c',some (a',w'))∈ps→w'<w∨(w'=w∧c≤c'):=by
 have key:∀(qs pre:List (Int × Option (Rat × Rat))) (st:Option (Int × Rat × Rat)),((pre++qs).map (·.1)).Pairwise (·<·) →
   (∀c a w,st=some (c,a,w)→(c,some (a,w))∈pre∧∀c' a' w',(c',some (a',w'))∈pre→w'<w∨(w'=w∧c≤c'))→(st=none→∀c' a' w',(c',some (a',w')) ∉ pre) →
   ∀c a w,qs.foldl zcU st=some (c,a,w)→∀c' a' w',(c',some (a',w'))∈pre++qs→w'<w∨(w'=w∧c≤c'):=by
  intro qs
  induction qs with
  | nil=>intro pre st _ h2 _ c a w h3 c' a' w' hm;rw[qG]at hm;exact(h2 c a w h3).2 c' a' w' hm
  | cons p qs ih =>
   intro pre st hpw h2 h0 c a w h3 c' a' w' hm;have e:pre++p::qs=(pre++[p])++qs:=by simp
   rw[e]at hpw hm
   have hlt:∀z,z∈pre→z.1<p.1:=fun z hz=>by
    rw[List.map_append,List.map_append]at hpw;exact(List.pairwise_append.1 (List.pairwise_append.1 hpw).1).2.2 z.1 (List.mem_map.2 ⟨z,hz,rfl⟩) p.1 (by simp)
   refine ih (pre++[p]) (zcU st p) hpw (fun c a w h4=>?_) (fun h4=>?_) c a w h3 c' a' w' hm
   ·obtain⟨pc,po⟩:=p;unfold zcU at h4
    cases po with
    | none =>
     obtain⟨h5,h6⟩:=h2 c a w h4;refine⟨List.mem_append_left _ h5,fun c' a' w' hz=>?_⟩;rcases List.mem_append.1 hz with hz | hz
     ·exact h6 c' a' w' hz
     ·cases List.mem_singleton.1 hz
    | some q =>
     obtain⟨a1,w1⟩:=q
     cases st with
     | none =>
      cases h4;refine⟨by simp,fun c' a' w' hz=>?_⟩;rcases List.mem_append.1 hz with hz | hz
      ·exact absurd hz (h0 rfl c' a' w')
      ·cases List.mem_singleton.1 hz;exact .inr ⟨rfl,by omega⟩
     | some t =>
      obtain⟨c0,a0,w0⟩:=t;obtain⟨h5,h6⟩:=h2 c0 a0 w0 rfl;dsimp only at h4;split at h4
      ·rename_i hw;cases h4;refine⟨by simp,fun c' a' w' hz=>?_⟩;rcases List.mem_append.1 hz with hz | hz
       ·rcases h6 c' a' w' hz with h7 | ⟨h7,_⟩
        ·left;grind
        ·left;rw[h7];exact hw
       ·cases List.mem_singleton.1 hz;exact .inr ⟨rfl,by omega⟩
      ·rename_i hw;cases h4;refine⟨List.mem_append_left _ h5,fun c' a' w' hz=>?_⟩;rcases List.mem_append.1 hz with hz | hz
       ·exact h6 c' a' w' hz
       ·cases List.mem_singleton.1 hz;have hl:=hlt _ h5;dsimp only at hl;rcases Rat.le_iff_lt_or_eq.1 (Rat.not_lt.1 hw) with h8 | h8
        ·exact .inl h8
        ·exact .inr ⟨h8,by omega⟩
   ·obtain⟨pc,po⟩:=p;unfold zcU at h4
    cases po with
    | none =>
     intro c' a' w' hz;rcases List.mem_append.1 hz with hz | hz
     ·exact h0 h4 c' a' w' hz
     ·cases List.mem_singleton.1 hz
    | some q =>
     obtain⟨a1,w1⟩:=q
     cases st with
     | none=>cases h4
     | some t =>
      obtain⟨c0,a0,w0⟩:=t;dsimp only at h4;split at h4 <;> cases h4
 exact key ps [] none hs (fun c a w h=>by cases h) (fun _ c' a' w' h=>by cases h) c a w h
end
section
theorem ziM {key:Int→Rat} {es m m2:List Int} (h1:m.Perm es) (r1:zgi key m) (h2:m2.Perm es) (r2:zgi key m2):m2.length=m.length∧∀i,i<m.length→key (m2.getD i 0)=key (m.getD i 0):=by
 have hml:m2.length=m.length:=by rw[h1.length_eq,h2.length_eq]
 have hkk:m2.map key=m.map key:=zgN r2 r1 ((h2.trans h1.symm).map _);refine⟨hml,fun i hi=>?_⟩;have:=congrArg (fun l:List Rat=>l[i]?) hkk;simp only[List.getElem?_map]at this;rw[qA (show i<m2.length by omega),qA hi]at this;simpa[hi,hml] using this
theorem zmv {X:List (List Rat)} {wo cost:List Int→Rat} {c L:Int} {es m m2:List Int} (hp:POk wo cost) (ha:∀r,r∈es→zdk X c r=true) (h1:m.Perm es) (r1:zgi (zbp X c) m) (h2:m2.Perm es) (r2:zgi (zbp X c) m2) {j:Nat} (hj:j+1<m.length) (hc:zcV (zbp X c) L m j=true) :
  zcV (zbp X c) L m2 j=true∧zdN (zbp X c) m2 j=zdN (zbp X c) m j∧zeF wo m2 j=zeF wo m j:=by
 obtain⟨hml,hget⟩:=ziM h1 r1 h2 r2;obtain⟨c1,c2,hlt⟩:=zdV.1 hc;have hlt2:zbp X c (m2.getD j 0)<zbp X c (m2.getD (j+1) 0):=by rw[hget j oM,hget (j+1) hj];exact hlt
 have hmid:zdN (zbp X c) m2 j=zdN (zbp X c) m j:=by unfold zdN;rw[hget j oM,hget (j+1) hj]
 obtain⟨hl,hh⟩:=ze6 h1 r1 ha hj hlt;obtain⟨hl2,hh2⟩:=ze6 h2 r2 ha (show j+1<m2.length by omega) hlt2;rw[hmid]at hl2 hh2;refine⟨zdV.2 ⟨c1,by rw[hml];exact c2,hlt2⟩,hmid,?_⟩;unfold zeF;rw[hp.wperm _ _ (hl2.symm.trans hl),hp.wperm _ _ (hh2.symm.trans hh)]
def zrQ (X:List (List Rat)) (wo:List Int→Rat) (es cols:List Int) (L:Int) (p:Int × Rat × Rat):Prop :=
 p.1∈cols∧es.all (zdk X p.1)=true∧∃m j,m.Perm es∧zgi (zbp X p.1) m∧j+1<m.length∧zcV (zbp X p.1) L m j=true∧p.2.1=zdN (zbp X p.1) m j∧p.2.2=zeF wo m j-wo es
theorem zoJ {key:Int→Rat} {m:List Int} (h:zgi key m) {i j:Nat} (hij:i≤j) (hj:j+1<m.length):zdN key m i≤zdN key m j:=by
 have h1:=ze3 h hij oM;have h2:=ze3 h (show i+1≤j+1 by omega) hj;unfold zdN;grind
theorem zoS {ps:List (Int × Option (Rat × Rat))} (hs:(ps.map (·.1)).Pairwise (·<·)):∀{c:Int} {o o':Option (Rat × Rat)},(c,o)∈ps→(c,o')∈ps→o=o':=by
 induction ps with
 | nil=>intro c o o' h;cases h
 | cons p ps ih =>
  intro c o o' h h';rw[List.map_cons]at hs;obtain⟨h1,h2⟩:=List.pairwise_cons.1 hs;rcases List.mem_cons.1 h with h | h <;> rcases List.mem_cons.1 h' with h' | h'
  ·rw[←h]at h';cases h';rfl
  ·have:=h1 c (List.mem_map.2 ⟨_,h',rfl⟩);rw[←h]at this;exact absurd this (by dsimp only;omega)
  ·have:=h1 c (List.mem_map.2 ⟨_,h,rfl⟩);rw[←h']at this;exact absurd this (by dsimp only;omega)
  ·exact ih h2 h h'
theorem zjn {X:List (List Rat)} {wo cost:List Int→Rat} {es cols:List Int} {L:Int} {ps:List (Int × Option (Rat × Rat))} (hp:POk wo cost) (hcol:zq7 cols (ps.map (·.1))) (hps:∀p,p∈ps→zps X wo es L p.1 p.2) :
  zka (zrQ X wo es cols L) ((zbD ps).map fun t=>(t.1,t.2.1,t.2.2-wo es)):=by
 have own:∀c a g,zrQ X wo es cols L (c,a,g)→∃a2 w2,(c,some (a2,w2))∈ps∧g+wo es≤w2∧(g+wo es=w2→a2≤a):=by
  rintro c a g ⟨hc,ha,m,j,hm,hr,hj,hcand,he,hg⟩;dsimp only at hc ha hr hcand he hg;obtain⟨⟨pk,po⟩,hpm,hpk⟩:=List.mem_map.1 ((hcol.2 c).2 hc);dsimp only at hpk;subst hpk;obtain⟨m2,hs2,ho2,_⟩:=hps _ hpm;dsimp only at hs2 ho2;rcases hs2 with ⟨_,hm2,hr2⟩ | ⟨hno,_⟩
  ·obtain⟨h1,h2,h3⟩:=zmv hp (List.all_eq_true.1 ha) hm hr hm2 hr2 hj hcand;have hml:=(ziM hm hr hm2 hr2).1;obtain⟨a2,w2,hcn,hw⟩:=zg5 (wo:=wo) (show j<m2.length-1 by omega) h1;rw[←ho2]at hcn;subst hcn;obtain⟨j2,hj2,_,e1,e2,e3⟩:=zdu ho2.symm;refine⟨a2,w2,hpm,by grind,fun heq=>?_⟩;rcases e3 j oM h1 with h4 | ⟨_,h4⟩
   ·grind
   ·rw[e1,he,←h2];exact zoJ hr2 h4 oM
  ·rw[ha]at hno;cases hno
 cases hb:zbD ps with
 | none =>
  rintro⟨c,a,g⟩ hq;obtain⟨a2,w2,h1,_⟩:=own c a g hq;obtain⟨_,_,_,h2,_⟩:=zmq h1;rw[hb]at h2;cases h2
 | some t =>
  obtain⟨c,a,w⟩:=t;have hm:=zmr hb;refine⟨?_,?_⟩
  ·obtain⟨m,hs,ho,_⟩:=hps _ hm;dsimp only at hs ho;obtain⟨j,hj,hcand,e1,e2⟩:=zg6 ho.symm;rcases hs with ⟨ha,hpm,hr⟩ | ⟨_,rfl⟩
   ·exact⟨(hcol.2 c).1 (List.mem_map.2 ⟨_,hm,rfl⟩),ha,m,j,hpm,hr,by omega,hcand,e1,by show w-wo es=_;rw[e2]⟩
   ·simp at hj
  ·rintro⟨c',a',g'⟩ hq hpre;obtain⟨a2,w2,h1,h2,h3⟩:=own c' a' g' hq;have h4:=zjm hcol.1 hb c' a2 w2 h1;rcases hpre with h5 | ⟨h5,h6⟩
   ·have h5':w-wo es<g':=h5;rcases h4 with h4 | ⟨h4,_⟩ <;> grind
   ·have h5':g'=w-wo es:=h5;have hw:w2=w:=by rcases h4 with h4 | ⟨h4,_⟩ <;> grind
    have hle:c≤c':=by
     rcases h4 with h4 | ⟨_,h4⟩
     ·grind
     ·exact h4
    rcases h6 with h6 | ⟨h6,h7⟩
    ·have:c'<c:=h6;omega
    ·have h6':c'=c:=h6;subst h6';have:=zoS hcol.1 h1 hm;cases this;have h8:=h3 (by grind);have h9:a'<a:=h7;grind
end
end Go.Proofs.YtifcjfodgicngaaGreatDoor
