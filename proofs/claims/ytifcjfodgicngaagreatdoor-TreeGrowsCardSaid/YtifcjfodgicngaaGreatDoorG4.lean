/- Texts of ours in one: Asc, GnC, Gn12, Gn13, Gn14, GnQ, GnR, GnS, GnT, GnV, Wd1, Ls7, LsR, Ls8, Wd2, Ha3, Lw8, Lw9, Wd3, Wd4, Ev24, RqL, Wd5, GnX, Tr1, Ev25, Wd6, Tr2, Dice, Draw, RefDice, Dg1, Wd7, Ev26, Tr3, Ev27, Stable, Swaps, RestPlain, Rest, Same, Rising, Tr4, Tr5, TrT, Tr6. -/
import Derived.Test.YtifcjfodgicngaaGreatDoorG0
import Derived.Test.YtifcjfodgicngaaGreatDoorG1
import Derived.Test.YtifcjfodgicngaaGreatDoorG2
import Derived.Test.YtifcjfodgicngaaGreatDoorG3
import Derived.Sort.OwnSortedInts
import Derived.Lib.SlicesCompact
import Derived.Test.YtifcjfodgicngaaGreatDoorRows
import Derived.WalkLawsBesides
import Derived.Deep.LoopGhost
import Derived.Lib.ConvBytes
import Derived.Deep.QuietTactic
import Derived.BigQuiet
set_option linter.unusedVariables false
set_option linter.unusedSimpArgs false
set_option maxHeartbeats 64000000
namespace Go.Proofs.YtifcjfodgicngaaGreatDoor
section
open Go.RowKit Go.Shelf
theorem zk5 (Bs:Nat) (sv:Value) (xs:List Int) (hbytes:xs.length*8≤140737488351232) (w:World)
  (hBs:Bs<w.heap.size) (hc0:w.cell? ⟨Bs,0,none⟩=some sv) (hI:Sl i64 w sv xs) :
  Calls Tryz.prog 244 #[.func (.func 246) #[] #[.pointer (some ⟨Bs,0,none⟩)]] w fun e W'=>∃v,e=.returned v∧W'.ownsRow w.heap.size 3 1 v xs.length (xs.map (Value.int .i64))∧(v=.slice none 0 0↔xs=[])∧Below w.heap.size w W':=by
 go_enter Tryz.func244,Tryz.ntmps244
 go_wp2_with fail;refine((callsIn_wide (n:=3)).1 (zjr Fence.wide 3 trivial trivial rfl oM Bs sv xs hbytes w hBs hc0 hI)).mono ?_;rintro e w1 ⟨v,rfl,hown,hnil,hb⟩;go_wp2
 go_ret;exact⟨v,rfl,hown,hnil,hb⟩
theorem znR (Bs:Nat) (sv:Value) (xs:List Int) (hbytes:xs.length*8≤140737488351232) (w:World)
  (hBs:Bs<w.heap.size) (hc0:w.cell? ⟨Bs,0,none⟩=some sv) (hI:Sl i64 w sv xs) :
  Calls Tryz.prog 215 #[.func (.func 246) #[] #[.pointer (some ⟨Bs,0,none⟩)]] w fun e W'=>∃v,e=.returned v∧W'.ownsRow w.heap.size 3 1 v xs.length ((zek xs).map (Value.int .i64))∧Below w.heap.size w W':=by
 go_enter Tryz.func215,Tryz.ntmps215
 go_wp2_with fail;refine(zk5 Bs sv xs hbytes w hBs hc0 hI).mono ?_;rintro e w1 ⟨v,rfl,hown,hnil,hb⟩;have HN:=hid hnil;clear hnil;rcases hown.2 with ⟨rfl,h0⟩ | ⟨g,cap,cur,rfl,hbase,hh,h1,h2,h3,h4⟩
 ·have hx:xs=[]:=HN.out.1 rfl;subst hx
  go_wp2_with fail;refine(Tryz.slices_Sort_int_none _ _ _).mono ?_;rintro e w2 ⟨rfl,rfl⟩;go_wp2
  go_ret;exact⟨.slice none 0 0,rfl,by simpa[zek] using hown,hb⟩
 ·have hH:=hid (holds_of_blockI hh (by simpa using h4));have H3:=hid h3;have H4:=hid h4;have HH:=hid hh;clear h3 h4 hh
  go_wp2_with fail;refine(Tryz.slices_Sort_int g 0 cap xs w1 hH.out (lt_of_block HH.out) oM).mono ?_;rintro e w2 ⟨rfl,nn,os,rfl⟩;have ho:=ownsRow_sortedI (n:=nn) (os:=os) (ss:=xs) (ts:=zek xs) (zfM xs) hbase HH.out h1 h2 H3.out;have hg:=grownBy_sortedI (w:=w1) (g:=g) (n:=nn) (os:=os) (zek xs).toArray;have hbb:=hb.grown hg hb.size (fun k e=>by cases e;exact hbase);have HO:=hid ho;clear ho;go_wp2
  go_ret;exact⟨_,rfl,HO.out,hbb⟩
end
section
def ztg (cols cs:List Int):Prop:=cs.Pairwise (·<·)∧∀c,c∈cs↔c∈cols
theorem zgs (zs:List Int) (h:zs.Pairwise (·≤·)):∀m,m≤zs.length→(Lib.compactUpTo zs.toArray m).Pairwise (·<·)∧∀c,c∈Lib.compactUpTo zs.toArray m↔c∈zs.take m
 | 0,_=>⟨List.Pairwise.nil,fun c=>by simp[Lib.compactUpTo]⟩
 | m+1,hm=>by
  obtain⟨h1,h2⟩:=zgs zs h m oM;have hlt:m<zs.length:=by omega
  have hg:zs.toArray[m]! = zs[m]:=by simp[hlt]
  have ht:zs.take (m+1)=zs.take m++[zs[m]]:=List.take_succ_eq_append_getElem hlt;have hpw:=h;rw[←List.take_append_drop (m+1) zs,ht]at hpw;have hle:∀x,x∈zs.take m→x≤zs[m]:=fun x hx=>(List.pairwise_append.1 (List.pairwise_append.1 hpw).1).2.2 x hx _ (List.mem_singleton.2 rfl);rw[Lib.compactUpTo_succ];by_cases hk:Lib.keeps zs.toArray m=true
  ·rw[if_pos hk,hg,ht];refine⟨List.pairwise_append.2 ⟨h1,List.pairwise_singleton _ _,fun x hx y hy=>?_⟩,fun c=>?_⟩
   ·rw[List.mem_singleton.1 hy];have hx':=(h2 x).1 hx;have hle':=hle x hx';unfold Lib.keeps at hk;rw[decide_eq_true_eq]at hk;rcases hk with rfl | hne
    ·rw[List.take_zero]at hx';cases hx'
    ·have hm0:0<m:=by
      rcases Nat.eq_zero_or_pos m with rfl | h0
      ·rw[List.take_zero]at hx';cases hx'
      ·exact h0
     have hp:zs.toArray[m-1]! = zs[m-1]:=by simp[show m-1<zs.length by omega]
     rw[hg,hp]at hne
     have htm:zs.take m=zs.take (m-1)++[zs[m-1]]:=by
      have:=List.take_succ_eq_append_getElem (show m-1<zs.length by omega)
      rwa [Nat.sub_add_cancel hm0]at this
     have hpw2:=(List.pairwise_append.1 (List.pairwise_append.1 hpw).1).1;rw[htm]at hpw2 hx'
     have hxp:x≤zs[m-1]:=by
      rcases List.mem_append.1 hx' with hx' | hx'
      ·exact(List.pairwise_append.1 hpw2).2.2 x hx' _ (List.mem_singleton.2 rfl)
      ·rw[List.mem_singleton.1 hx'];exact Int.le_refl _
     have hpm:zs[m-1]≤zs[m]:=hle _ (by rw[htm];exact List.mem_append_right _ (List.mem_singleton.2 rfl));omega
   ·rw[List.mem_append,List.mem_append,h2 c]
  ·rw[if_neg hk,qG,ht];refine⟨h1,fun c=>?_⟩;unfold Lib.keeps at hk;rw[decide_eq_true_eq,not_or]at hk;have hm0:0<m:=by omega
   have hp:zs.toArray[m-1]! = zs[m-1]:=by simp[show m-1<zs.length by omega]
   rw[hg,hp]at hk;have he:zs[m]=zs[m-1]:=by have:=hk.2;omega
   have htm:zs.take m=zs.take (m-1)++[zs[m-1]]:=by
    have:=List.take_succ_eq_append_getElem (show m-1<zs.length by omega)
    rwa [Nat.sub_add_cancel hm0]at this
   rw[h2 c,List.mem_append,List.mem_singleton,he];constructor
   ·exact .inl
   ·rintro (h | rfl)
    ·exact h
    ·rw[htm];exact List.mem_append_right _ (List.mem_singleton.2 rfl)
theorem zr7 (cols:List Int):ztg cols (Lib.compact (zek cols)):=by
 have h:=zgs (zek cols) (zkt cols) (zek cols).length (qH _);refine⟨h.1,fun c=>?_⟩;have:=h.2 c;rw[List.take_length]at this;exact this.trans (znQ cols).mem_iff
end
section
open Go.RowKit _root_.Go.Proofs.Tryz
theorem zkn {H:Hp} (a:Option Addr) (len cap:Nat):PC prog 216 #[.slice a len cap] H fun r H'=>∃b,r=.func (.func 246) #[] #[.pointer (some ⟨b,0,none⟩)]∧H' b=some [Value.slice a len cap].toArray:=by
 refine BD func216 ntmps216 ?_;refine uR ?_;(first|refine EVL.unbox (1) rfl fun b=>?_|refine EV.unbox (1) rfl fun b=>?_);(first|refine EVL.publish [] [] rfl fun G1 hG1 hb=>?_|refine EV.publish [] [] rfl fun G1 hG1 hb=>?_);refine EVL.fn1 rfl rfl rfl rfl rfl ?_;refine uR ?_;exact⟨b,rfl,hb⟩
theorem zgU {W:World} {base:Nat} {e:TypeId} {size:Nat} {v:Value} {n:Nat} {xs:List Value} (h:W.ownsRow base e size v n xs):∃ow,zaJ e size v n xs ow∧zn8 base W ow:=by
 obtain⟨h1,⟨rfl,rfl⟩ | ⟨g,cap,cur,rfl,hb,hh,hc,hm,hs,ht⟩⟩:=h
 ·exact⟨[],⟨h1,.inl ⟨rfl,rfl,rfl⟩⟩,by simp,fun b T cs h=>by cases h⟩
 ·have hcur:cur.toList=xs++cur.toList.drop (n*size):=by rw[←ht,List.take_append_drop]
  refine⟨[(g,e,xs++cur.toList.drop (n*size))],⟨h1,.inr ⟨g,cap,_,rfl,rfl,by rw[←hcur];simpa using hs,hc,hm⟩⟩,by simp,fun b T cs h=>?_⟩;rw[List.mem_singleton]at h;cases h;refine⟨hb,?_⟩;rw[←hcur];exact hh
theorem zpH {H:Hp} {b:Nat} {sv:Value} {xs:List Int} (hB:H b=some [sv].toArray) (hs:IL H sv xs) (hl:xs.length≤1000000) :
  PO prog 215 #[.func (.func 246) #[] #[.pointer (some ⟨b,0,none⟩)]] H fun v ow=>zaJ 3 1 v xs.length ((zek xs).map iv) ow:=by
 refine⟨(cO func215),fun W hf hg=>?_⟩;obtain⟨T,fz,hW⟩:=hf b _ hB;obtain⟨a,cap,rfl,hsl,_⟩:=hs.sl hf;have hlt:b<W.heap.size:=(Array.getElem?_eq_some_iff.1 hW).1;refine(znR b _ xs oM W hlt (by rw[cell_of_row W b 0 _ T fz hW];rfl) hsl).mono ?_;rintro e W' ⟨v,rfl,hown,hb⟩;obtain⟨ow,h1,h2⟩:=zgU hown;exact⟨v,ow,rfl,h1,h2,hb⟩
theorem zgt (zs:List Int):(Lib.compact zs).length≤zs.length:=by
 unfold Lib.compact Lib.compactUpTo;rw[List.length_map];exact qI (List.length_filter_le _ _) (by simp)
theorem zmV {H:Hp} {v:Value} {zs:List Int} {ow:Ows} (h:zaJ 3 1 v zs.length (zs.map iv) ow) (hl:zs.length≤1000000) :
  PW prog 214 #[v] H ow fun r ow' _=>zaJ 3 1 r (Lib.compact zs).length ((Lib.compact zs).map iv) ow':=by
 refine⟨(cO func214),fun W hf hg hL hd=>?_⟩;by_cases h0:zs.length=0
 ·obtain rfl:=List.length_eq_zero_iff.1 h0;obtain⟨a,cap,rfl⟩:=h.val;refine(Tryz.slices_Compact_int_empty a cap W).mono ?_;rintro e W' ⟨rfl,rfl⟩;exact⟨_,ow,H,rfl,h,Hp.Le.refl _,hf,Nw.refl _ _ _,zaQ.refl _ _,fun j b T cs hj=>⟨(hL j b T cs hj).1,.inr (Ows.bs_mem hj),(hL j b T cs hj).2.1⟩,hd⟩
 ·obtain⟨g,cap,sp,rfl,rfl,hlen,hle,hmax⟩:=h.block oM;obtain⟨hB,hHg,hgg⟩:=hL 0 g _ _ rfl;refine(Tryz.slices_Compact_int_cells g 0 zs.length cap zs W (qH _) oM hle (fun j hj=>?_) (fun j hj=>hB.free _)).mono ?_
  ·rw[hB.at (0+j)];rw[Nat.zero_add];simp[hj,List.getElem?_append]
  rintro e W' ⟨rfl,q,rfl⟩;rw[List.take_length];have hcl:=zgt zs;generalize Lib.compact zs=cs at *
  have hB2:Box (W.drewN q) g (zs.map iv++sp).toArray 3:=hB;have hvl:((cs++List.replicate (zs.length-cs.length) 0).map (Value.int .i64)).length=zs.length:=by simp;omega
  have hB3:=Box.setCells ((cs++List.replicate (zs.length-cs.length) 0).map (Value.int .i64)) 0 (W.drewN q) _ hB2 (by rw[hvl];simp);have hk:=zbD g ((cs++List.replicate (zs.length-cs.length) 0).map (Value.int .i64)) 0 (W.drewN q);have hk2:zaQ (fun k=>k=g) W ((W.drewN q).setCells g 0 ((cs++List.replicate (zs.length-cs.length) 0).map (Value.int .i64))):=⟨hk.os,hk.tape,hk.output,hk.size,hk.block⟩
  have hcells:(zs.map iv++sp).take 0++(cs++List.replicate (zs.length-cs.length) 0).map (Value.int .i64)++(zs.map iv++sp).drop (0+((cs++List.replicate (zs.length-cs.length) 0).map (Value.int .i64)).length)=cs.map iv++((List.replicate (zs.length-cs.length) 0).map iv++sp):=by
   rw[hvl,List.take_zero,List.nil_append,Nat.zero_add,List.drop_left' (by simp),List.map_append];simp
  rw[hcells]at hB3;refine⟨_,[(g,3,cs.map iv++((List.replicate (zs.length-cs.length) 0).map iv++sp))],H,rfl,⟨by simp,.inr ⟨g,cap,_,rfl,rfl,?_,by omega,hmax⟩⟩,Hp.Le.refl _,fun b c hb=>?_,Nw.refl _ _ _,hk2.mono (fun k _ e=>by subst e;exact Ows.bs_mem (j:=0) rfl),fun j b T cs' hj=>?_,?_⟩
  ·rw[←hlen];simp;omega
  ·obtain⟨T,fz,hW⟩:=hf b c hb;refine⟨T,fz,?_⟩;rw[hk2.block b (hf.lt (by rw[hb];simp)) (fun e=>by subst e;rw[hHg]at hb;cases hb)];exact hW
  ·cases j with
   | zero=>cases (show some (g,3,cs.map iv++((List.replicate (zs.length-cs.length) 0).map iv++sp))=some (b,T,cs') from hj);exact⟨hB3,.inr (Ows.bs_mem (j:=0) rfl),hHg⟩
   | succ j=>simp at hj
  ·intro j j' b' T1 T2 c1 c2 h1 h2
   cases j with
   | zero=>cases j' with
    | zero=>rfl
    | succ j'=>simp at h2
   | succ j=>simp at h1
def zdj (st:Option (Int × Rat × Rat)) (p:Int × Option (Rat × Rat)):Option (Int × Rat × Rat):=match p.2 with
 | none=>st
 | some (a,w)=>match st with
  | none=>some (p.1,a,w)
  | some (c0,a0,w0)=>if w0<w then some (p.1,a,w) else some (c0,a0,w0)
def zb1 (ps:List (Int × Option (Rat × Rat))):Option (Int × Rat × Rat):=ps.foldl zdj none
theorem zmM (ps:List (Int × Option (Rat × Rat))) (p:Int × Option (Rat × Rat)):zb1 (ps++[p])=zdj (zb1 ps) p:=by unfold zb1;rw[List.foldl_append];rfl
theorem zlR {ps:List (Int × Option (Rat × Rat))} {B:Nat} (h:∀p,p∈ps→ht (stW p.2)≤B):∀c a w,zb1 ps=some (c,a,w)→ht w≤B:=by
 have key:∀(qs:List (Int × Option (Rat × Rat))) (st:Option (Int × Rat × Rat)),(∀p,p∈qs→ht (stW p.2)≤B)→(∀c a w,st=some (c,a,w)→ht w≤B)→∀c a w,qs.foldl zdj st=some (c,a,w)→ht w≤B:=by
  intro qs
  induction qs with
  | nil=>intro st _ h2 c a w h3;exact h2 c a w h3
  | cons p qs ih =>
   intro st h1 h2 c a w h3;refine ih (zdj st p) (fun q hq=>h1 q (List.mem_cons_of_mem _ hq)) ?_ c a w h3;intro c a w h4;have hp:=h1 p (List.mem_cons_self ..);unfold zdj at h4
   cases ho:p.2 with
   | none=>rw[ho]at h4;exact h2 c a w h4
   | some q =>
    obtain⟨a1,w1⟩:=q;rw[ho]at h4 hp
    cases st with
    | none=>cases h4;exact hp
    | some t =>
     obtain⟨c0,a0,w0⟩:=t;dsimp only at h4;split at h4
     ·cases h4;exact hp
     ·cases h4;exact h2 _ _ _ rfl
 exact key ps none h (fun c a w h=>by cases h)
def zrv:Option (Int × Rat × Rat)→List Value
 | none=>.int .i64 0::(zac (zag 0)++zac (zag 0))
 | some (c,a,w)=>.int .i64 c::(zac (zag a)++zac (zag w))
theorem zlV:Tryz.te250.zero=zrv none:=by
 unfold zrv;rw[zaL];rfl
abbrev zuq (c:Int) (a w:Rat):Value:=.agg (zrv (some (c,a,w))).toArray
def ztZ (X:List (List Rat)) (wo:List Int→Rat) (rs cols:List Int) (least:Int) (r:Value):Prop :=
 ∃ps:List (Int × Option (Rat × Rat)),ztg cols (ps.map (·.1))∧(∀p,p∈ps→zrt X wo rs (max least 1) p.1 p.2) ∧
  ((zb1 ps=none∧r=.tuple #[.agg (zrv none).toArray,.bool false])∨∃c a w,zb1 ps=some (c,a,w)∧r=.tuple #[zuq c a (w-wo rs),.bool true])
theorem zr2 {H:Hp} {kd cl:Int} {sl sv vx vr vc:Value} {X:List (List Rat)} {S:List Int→List Value} {wo:List Int→Rat} {rs cols:List Int} {least:Int} (hg:GOk H kd cl sl sv X.length S wo) (hX:QLL H vx X) (hr:IL H vr rs) (hn:rs.length≤20) (hc:IL H vc cols) (hcn:cols.length≤1000000) (hb:∀x,x∈X→∀q,q∈x→ht q≤100) :
  PC prog 168 #[zai kd cl sl sv,vx,vr,vc,.int .i64 least] H fun r _=>ztZ X wo (exL rs X.length) cols least r:=by
 have hlen:=hg.leng;have hex:=fun (G:Hp) (hG:H.Le G)=>zcl (hr.mono hG) oM X.length;have hel:=zbg rs X.length;have heb:=zcC (rs:=rs) (n:=X.length);generalize exL rs X.length=es at *
 obtain⟨xa,xc,rfl⟩:=hX.val;obtain⟨ra,rc,rfl⟩:=SlC.val hr;obtain⟨ca,cc,rfl⟩:=SlC.val hc;refine BD func168 ntmps168 ?_;refine uR ?_;refine vA (hg.check _ (Hp.Le.refl _)) ?_;rintro r0 G1 rfl hG1
 repeat (first|refine RUN ?_|refine CV (hlen) ?_|refine CE (hlen) ?_)
 rw[show ((X.length:Int) != (X.length:Int))=false from bne_self_eq_false _];refine uR ?_;refine vA (hex _ hG1) ?_;intro r1 G2 he hG2;obtain⟨ea,ec,rfl⟩:=SlC.val he;refine uR ?_;refine vA (zkn ca cols.length cc) ?_;rintro r2 G3 ⟨b,rfl,hb3⟩ hG3;have hc3:=hc.mono (hG1.trans (hG2.trans hG3));refine EVL.callO rfl rfl rfl rfl rfl (zpH hb3 hc3 hcn) ?_;rintro r4 ow4 how4;have hcl:=zfM cols;rw[←hcl]at how4;refine EVL.callW rfl rfl rfl rfl rfl (ow4) ([]) rfl (zmV how4 oM) ?_;rintro r5 ow5 G5 how5 hG5;have hcols:=zr7 cols;have hcl2:=zgt (zek cols);generalize Lib.compact (zek cols)=cs at *
 obtain⟨ka,kc,rfl⟩:=how5.val;(first|refine EVL.publishL [] ow5 [] (rfl) how5 fun G6 hG6 hk6=>?_|refine EV.publishL [] ow5 [] (rfl) how5 fun G6 hG6 hk6=>?_);have hk6':IL G6 (.slice ka cs.length kc) cs:=hk6;clear hb3 hc3 how4 how5 hk6;have hall:=hG1.trans (hG2.trans (hG3.trans (hG5.trans hG6)));have hg6:=hg.mono hall;have hX6:=hX.mono hall;have he6:=he.mono (hG3.trans (hG5.trans hG6));refine uR ?_;refine EV.loopK (ι:=List (Int × Option (Rat × Rat))) [1,2,4,5,10,12,38,39] [5,10] (fun ps=>[(13,.v (.bool (zb1 ps).isSome)),(40,.v (.int .i64 (ps.length:Int)))]) (fun ps=>[(12,250,zrv (zb1 ps))]) (fun _=>[]) (fun ps _=>ps.map (·.1)=cs.take ps.length∧ps.length≤cs.length∧∀p,p∈ps→zrt X wo es (max least 1) p.1 p.2) (fun ps=>cs.length-ps.length) ([]) rfl rfl ⟨rfl,rfl,trivial⟩ ⟨by rw[show zb1 []=none from rfl,←zlV];rfl,trivial⟩ rfl (fun _=>rfl) (⟨rfl,Nat.zero_le _,by simp⟩) ?_;rintro ps G7 hG7 ⟨hps,hpl,hpr⟩;refine uR ?_;refine EV.cond rfl (fun hlt=>?_) (fun hlt=>?_)
 ·simp only[nN]at hlt;obtain⟨c,hci⟩:∃c,cs[ps.length]?=some c:=⟨_,qA hlt⟩;have hcol:=zop (col:=c) (least:=max least 1) (hg6.mono hG7) (hX6.mono hG7) (he6.mono hG7) oM heb hb;refine uR ?_;refine vI ((hk6'.mono hG7)) (ps.length) (rfl) (hlt) ((by rw[List.getElem?_map,hci];rfl)) ?_;refine uR ?_;refine EVL.asI (max least 1) ((by split <;> omega)) ?_;refine vA (hcol) ?_;rintro r6 G8 ⟨o,hR,rfl⟩ hG8;have hln:∀o,(ps++[(c,o)]).length=ps.length+1:=fun o=>by simp
  have wn:IntKind.i64.wrap ((ps.length:Int)+1)=((ps.length+1:Nat):Int):=zab _ oM
  have hmap:∀o,(ps++[(c,o)]).map (·.1)=cs.take (ps++[(c,o)]).length:=fun o=>by
   rw[hln,zap hci,←hps,List.map_append];rfl
  have hmem:∀o,zrt X wo es (max least 1) c o→∀p,p∈ps++[(c,o)]→zrt X wo es (max least 1) p.1 p.2:=fun o h p hp=>by
   rcases List.mem_append.1 hp with hp | hp
   ·exact hpr p hp
   ·rw[List.mem_singleton.1 hp];exact h
  have hsn:=zmM ps (c,o);have hwb:ht (stW o)≤200001:=by obtain⟨_,_,_,h⟩:=hR;exact h
  have hwo:∀c a w,zb1 ps=some (c,a,w)→ht w≤200001:=zlR fun p hp=>by obtain⟨_,_,_,h⟩:=hpr p hp;exact h
  cases o with
  | none =>
   have hsame:zb1 (ps++[(c,none)])=zb1 ps:=hsn;refine uR ?_;refine⟨ps++[(c,none)],⟨by rw[hsame];rfl,by rw[hln,wn];rfl,trivial⟩,sB,⟨by rw[hsame];rfl,trivial⟩,sB,rfl,⟨hmap _,by rw[hln];omega,hmem _ hR⟩,by assumption,by rw[hln];omega⟩
  | some q =>
   obtain⟨a,w⟩:=q
   cases hst:zb1 ps with
   | none =>
    have hnew:zb1 (ps++[(c,some (a,w))])=some (c,a,w):=by rw[hsn,hst];rfl
    refine uR ?_;refine⟨ps++[(c,some (a,w))],⟨by rw[hnew];rfl,by rw[hln,wn];rfl,trivial⟩,sB,⟨by rw[hnew];rfl,trivial⟩,sB,rfl,⟨hmap _,by rw[hln];omega,hmem _ hR⟩,by assumption,by rw[hln];omega⟩
   | some t =>
    obtain⟨c0,a0,w0⟩:=t;have hcmp:=zgq w w0 (zaW (show ht w≤200001 from hwb) oM) (zaW (hwo _ _ _ hst) oM)
    repeat (first|refine RUN ?_|refine CV (hcmp) ?_|refine CE (hcmp) ?_)
    by_cases hlt2:w0<w
    ·have hnew:zb1 (ps++[(c,some (a,w))])=some (c,a,w):=by rw[hsn,hst];exact if_pos hlt2
     rw[qD (zeO.2 hlt2)];refine uR ?_;refine⟨ps++[(c,some (a,w))],⟨by rw[hnew];rfl,by rw[hln,wn];rfl,trivial⟩,sB,⟨by rw[hnew];rfl,trivial⟩,sB,rfl,⟨hmap _,by rw[hln];omega,hmem _ hR⟩,by assumption,by rw[hln];omega⟩
    ·have hnew:zb1 (ps++[(c,some (a,w))])=some (c0,a0,w0):=by rw[hsn,hst];exact if_neg hlt2
     rw[qC (fun h=>hlt2 (zeO.1 h))];refine uR ?_;refine⟨ps++[(c,some (a,w))],⟨by rw[hnew];rfl,by rw[hln,wn];rfl,trivial⟩,sB,⟨by rw[hnew];rfl,trivial⟩,sB,rfl,⟨hmap _,by rw[hln];omega,hmem _ hR⟩,by assumption,by rw[hln];omega⟩
 ·simp only[nN]at hlt;have hpe:ps.length=cs.length:=by omega
  have hcs:ps.map (·.1)=cs:=by rw[hps,hpe,List.take_length]
  rw[←hcs]at hcols;have hwo:∀c a w,zb1 ps=some (c,a,w)→ht w≤200001:=zlR fun p hp=>by obtain⟨_,_,_,h⟩:=hpr p hp;exact h
  cases hst:zb1 ps with
  | none =>
   refine uR ?_;exact⟨ps,hcols,hpr,.inl ⟨hst,by rw[←zlV];rfl⟩⟩
  | some t =>
   obtain⟨c,a,w⟩:=t;have hsub:=zmw w (wo es) (zaW (hwo _ _ _ hst) oM) (zaW (hg.small es oM heb) oM);have hlS:=hg.len es;refine uR ?_;refine EVL.call rfl rfl rfl rfl rfl (hg6.whole _ hG7 _ es (he6.mono hG7) oM heb) ?_;rintro r6 G8 rfl hG8;obtain⟨sn,scs,ssq,sq,hs12,hS⟩:=hg.form es;obtain⟨c0,c1,c2,c3,c4,c5,c6,c7,c8,c9,c10,c11,rfl⟩:=zty hs12;rw[hS];refine uR ?_;(first|refine EVL.unbox (19) rfl fun b=>?_|refine EV.unbox (19) rfl fun b=>?_);(first|refine EVL.swapOw ([(b,147,S es)]) ([]) ((by rw[hS];rfl)) ?_|refine EV.swapOw ([(b,147,S es)]) ([]) ((by rw[hS];rfl)) ?_);have hw1:=fun G':Hp=>hg.worth G' b 0 147 [] [] es rfl oM heb;simp only[qG]at hw1;clear hS;refine uR ?_;apply EV.drawn 7 kR kR;intro xv yw;(repeat (first|refine' DD ?_|refine' vN ?_|refine' vF ?_));(refine' DJ.callR rfl rfl rfl rfl rfl 0 rfl (by simp[hlS]) (cO func79) (fun G'=>hw1 G') ?_;rotate_left);(repeat (first|refine' DD ?_|(refine' DC (hsub) (h:=?_);rotate_left)));(refine DJ.nil (fun G9 hG9 hF9=>?_);(case hS|hS2=>rfl));refine uR ?_;exact⟨ps,hcols,hpr,.inr ⟨c,a,w,hst,rfl⟩⟩
def RRs (H:Hp) (vs:List Value) (X:List (List Rat)):Prop:=vs.length=X.length∧∀(j:Nat) (u:Value) (x:List Rat),vs[j]?=some u→X[j]?=some x→RL H u x
theorem RRs.mono {H G:Hp} {vs:List Value} {X:List (List Rat)} (h:RRs H vs X) (k:H.Le G):RRs G vs X:=⟨h.1,fun j u x e1 e2=>(h.2 j u x e1 e2).mono k⟩
theorem RRs.nil (H:Hp):RRs H [] []:=⟨rfl,fun j u x h=>by simp at h⟩
theorem RRs.snoc {H:Hp} {vs:List Value} {X:List (List Rat)} {u:Value} {x:List Rat} (h:RRs H vs X) (k:RL H u x):RRs H (vs++[u]) (X++[x]):=zpU h k
def RLL (H:Hp) (v:Value) (X:List (List Rat)):Prop:=∃vs:List Value,RRs H vs X∧SlC H v X.length 1 vs
theorem RLL.mono {H G:Hp} {v:Value} {X:List (List Rat)} (h:RLL H v X) (k:H.Le G):RLL G v X:=by
 obtain⟨vs,h1,h2⟩:=h;exact⟨vs,h1.mono k,h2.mono k⟩
theorem RLL.val {H:Hp} {v:Value} {X:List (List Rat)} (h:RLL H v X):∃a c,v=.slice a X.length c:=by
 obtain⟨vs,_,h2⟩:=h;exact SlC.val h2
theorem RRs.at {H:Hp} {vs:List Value} {X:List (List Rat)} (h:RRs H vs X) {j:Nat} {x:List Rat} (hj:X[j]?=some x):∃a c,vs[j]?=some (.slice a x.length c)∧RL H (.slice a x.length c) x:=by
 obtain⟨hl,_⟩:=qE.1 hj;obtain⟨u,hu⟩:∃u,vs[j]?=some u:=⟨_,qA (by rw[h.1];exact hl)⟩;have hq:=h.2 j u x hu hj;obtain⟨a,c,rfl⟩:=hq.val;exact⟨a,c,hu,hq⟩
def zha (l:List Int) (n w:Nat):List (List Rat):=(List.range n).map fun i=>zkP (l.drop (min l.length (i*w))) w
theorem zhb (l:List Int) (n w:Nat):(zha l n w).length=n:=by simp[zha]
theorem zq5 (l:List Int) {n w i:Nat} (h:i<n):(zha l n w)[i]?=some (zkP (l.drop (min l.length (i*w))) w):=by
 unfold zha;rw[List.getElem?_map,List.getElem?_range h];rfl
theorem IL.drop {H:Hp} {a:Option Addr} {cap:Nat} {l:List Int} (h:IL H (.slice a l.length cap) l) (k:Nat) (hk:k≤l.length):IL H (.slice (if cap=k then a else a.map (·.add (k*1))) (l.length-k) (cap-k)) (l.drop k):=by
 have hs:SlC H (.slice a l.length cap) l.length 1 (l.map iv):=h;have:=hs.sub k l.length hk (qH _) (SlN.le h);unfold IL SlN;rw[List.length_drop,List.map_drop];rw[Nat.mul_one,Nat.mul_one,List.take_of_length_le (by simp)]at this;rw[Nat.mul_one];exact this
theorem zsM {H:Hp} {v:Value} {l:List Int} (h:IL H v l) (hb:∀z,z∈l → -9223372036854775808≤z∧z<9223372036854775808) (n w:Nat) (hn:n≤1000) (hw:w≤1000):PC prog 61 #[v,.int .i64 (n:Int),.int .i64 (w:Int)] H fun r H'=>RLL H' r (zha l n w):=by
 obtain⟨a,cap,rfl⟩:=SlC.val h;have hcap:l.length≤cap:=SlN.le h;refine BD func61 ntmps61 ?_;refine uR ?_;refine EV.loopK (ι:=Nat × List Value × Value × Ows) [0,1,2] [] (fun q=>[(7,.v q.2.2.1),(8,.v (.int .i64 (q.1:Int)))]) (fun _=>[]) (fun q=>q.2.2.2) (fun q G=>q.1≤n∧RRs G q.2.1 ((zha l n w).take q.1)∧zaJ 25 1 q.2.2.1 q.1 q.2.1 q.2.2.2) (fun q=>n-q.1) ((0,[],.slice none 0 0,[])) rfl rfl ⟨rfl,rfl,trivial⟩ trivial rfl (fun _=>rfl) (⟨Nat.zero_le _,RRs.nil _,zaJ.nil _ _⟩) ?_;rintro⟨i,vs,u,ow⟩ G1 hG1 ⟨hi,hvs,hown⟩;dsimp only at hi hvs hown;obtain⟨wa,wc,rfl⟩:=hown.val;refine uR ?_;refine EV.cond rfl (fun hlt=>?_) (fun hlt=>?_)
 ·simp only[nN]at hlt;have hk:i*w≤1000*1000:=Nat.mul_le_mul oM hw
  have hwr:IntKind.i64.wrap ((i:Int)*(w:Int))=((i*w:Nat):Int):=by
   rw[←Int.natCast_mul];generalize i*w=k at *;rw[IntKind.wrap_i64];omega
  have hrow:=zq5 l (w:=w) hlt;generalize i*w=k at *
  have hd:=IL.drop (h.mono hG1) (min l.length k) (Nat.min_le_left _ _);have hrp:=zrI hd (fun z hz=>hb z (List.mem_of_mem_drop hz)) w oM;refine uR ?_;rw[hwr];refine EVL.asI ((min l.length k:Nat)) ((by split <;> omega)) ?_;refine EVL.slc tO rfl rfl rfl rfl rfl rfl rfl rfl (min l.length k) l.length (.inr ⟨_,IntKind.i64,rfl,rfl⟩) (.inl ⟨rfl,rfl⟩) (Nat.min_le_left _ _) hcap hcap ?_;refine uR ?_;refine vA (hrp) ?_;rintro r G2 hr hG2;obtain⟨ra,rc,rfl⟩:=hr.val;refine uR ?_;refine EVL.app1 tO rfl rfl rfl rfl rfl rfl rfl rfl rfl rfl rfl rfl rfl rfl rfl rfl rfl rfl rfl (fun _=>rfl) (ow) ([]) ((qG _).symm) (hown) oM fun _=>?_;intro v' ow' hown';refine uR ?_;refine⟨(i+1,vs++[_],v',ow'),⟨rfl,?_,trivial⟩,sB,trivial,trivial,qG _,⟨hlt,by rw[zap hrow];exact(hvs.mono hG2).snoc hr,hown'⟩,hG2,by dsimp only;omega⟩;rw[zab i (by omega)];rfl
 ·simp only[nN]at hlt;obtain rfl:i=n:=by omega
  rw[List.take_of_length_le (by rw[zhb];omega)]at hvs;(first|refine EVL.publishL [] ow [] ((qG _).symm) hown fun G2 hG2 hs=>?_|refine EV.publishL [] ow [] ((qG _).symm) hown fun G2 hG2 hs=>?_);refine uR ?_;exact⟨vs,hvs.mono hG2,by rw[zhb];exact hs⟩
theorem zjT {H:Hp} {v:Value} {X:List (List Rat)} (h:RLL H v X) (hn:X.length≤1000000) (hx:∀x,x∈X→x.length≤1000000∧∀q,q∈x→rq q):PC prog 12 #[v] H fun r H'=>QLL H' r X:=by
 obtain⟨a,cap,rfl⟩:=h.val;refine BD func12 ntmps12 ?_;refine uR ?_;refine EV.loopK (ι:=Nat × List Value × Value × Ows) [0] [] (fun q=>[(3,.v q.2.2.1),(4,.v (.int .i64 (q.1:Int)))]) (fun _=>[]) (fun q=>q.2.2.2) (fun q G=>q.1≤X.length∧QVs G q.2.1 (X.take q.1)∧zaJ 40 1 q.2.2.1 q.1 q.2.1 q.2.2.2) (fun q=>X.length-q.1) ((0,[],.slice none 0 0,[])) rfl rfl ⟨rfl,rfl,trivial⟩ trivial rfl (fun _=>rfl) (⟨Nat.zero_le _,QVs.nil _,zaJ.nil _ _⟩) ?_;rintro⟨i,vs,u,ow⟩ G1 hG1 ⟨hi,hvs,hown⟩;dsimp only at hi hvs hown;obtain⟨wa,wc,rfl⟩:=hown.val;refine uR ?_;refine EV.cond rfl (fun hlt=>?_) (fun hlt=>?_)
 ·simp only[nN]at hlt;obtain⟨x,hxi⟩:=gE hlt;have hxb:=hx x (qF hxi);obtain⟨us,hus,hs⟩:=h.mono hG1;obtain⟨a1,c1,hu1,hR⟩:=hus.at hxi;have hin:=ziJ hR oM hxb.2;refine uR ?_;refine vI (hs) (i) (rfl) (hlt) (hu1) ?_;refine uR ?_;refine vA (hin) ?_;rintro r G2 hr hG2;obtain⟨ra,rc,rfl⟩:=SlC.val hr;refine uR ?_;refine EVL.app1 tO rfl rfl rfl rfl rfl rfl rfl rfl rfl rfl rfl rfl rfl rfl rfl rfl rfl rfl rfl (fun _=>rfl) (ow) ([]) ((qG _).symm) (hown) oM fun _=>?_;intro v' ow' hown';refine uR ?_;refine⟨(i+1,vs++[_],v',ow'),⟨rfl,?_,trivial⟩,sB,trivial,trivial,qG _,⟨hlt,by rw[zap hxi];exact(hvs.mono hG2).snoc hr,hown'⟩,hG2,by dsimp only;omega⟩;rw[zab i (by omega)];rfl
 ·simp only[nN]at hlt;obtain rfl:i=X.length:=by omega
  rw[List.take_length]at hvs;(first|refine EVL.publishL [] ow [] ((qG _).symm) hown fun G2 hG2 hs=>?_|refine EV.publishL [] ow [] ((qG _).symm) hown fun G2 hG2 hs=>?_);refine uR ?_;exact⟨vs,hvs.mono hG2,hs⟩
def zjP (key:Int→Rat) (m:List Int):Nat→List Rat
 | 0=>[]
 | j+1=>zjP key m j++if key (m.getD j 0)<key (m.getD (j+1) 0) then [zeX key m j] else []
end
section
theorem zjG (m o:Rat):∀l:List Rat,zaN (zez o l.reverse)=zaN (zez m l.reverse)+2*(m-o)*(zaN l.reverse-((l.length:Int):Rat)*m)+((l.length:Int):Rat)*((m-o)*(m-o))
 | []=>by
  rw[show zaN (zez o ([]:List Rat).reverse)=0 from rfl,show zaN (zez m ([]:List Rat).reverse)=0 from rfl,show zaN ([]:List Rat).reverse=0 from rfl,show (((([]:List Rat).length:Int)):Rat)=0 from rfl];grind
 | x::l=>by
  have ih:=zjG m o l
  have e:(((x::l).length:Int):Rat)=((l.length:Int):Rat)+1:=by
   rw[List.length_cons,Int.natCast_add,Rat.intCast_add];rfl
  rw[List.reverse_cons,zgx,zgx,zbY,ih,e];generalize zaN (zez m l.reverse)=A;generalize zaN l.reverse=B;generalize ((l.length:Int):Rat)=N;grind
theorem zkw (a:Rat):0≤a*a:=by
 rcases (Rat.le_total:0≤a∨a≤0) with h | h
 ·exact Rat.mul_nonneg h h
 ·have:0 ≤ -a:=by grind
  have:=Rat.mul_nonneg this this;grind
end
section
structure POk (wo cost:List Int→Rat):Prop where
 wperm:∀l m:List Int,l.Perm m→wo l=wo m
 cperm:∀l m:List Int,l.Perm m→cost l=cost m
 split:∀l m:List Int,cost (l++m)+wo (l++m)=cost l+wo l+(cost m+wo m)
 conv:∀l m:List Int,wo (l++m)≤wo l+wo m
theorem POk.gain {wo cost:List Int→Rat} (h:POk wo cost) {rs l m:List Int} (hp:(l++m).Perm rs):cost rs-cost l-cost m=wo l+wo m-wo rs:=by
 have h1:=h.split l m;have h2:=h.wperm _ _ hp;have h3:=h.cperm _ _ hp;rw[h2,h3]at h1;grind
theorem zld {p:Int→Bool} {m:List Int} {k:Nat} (h1:∀x,x∈m.take k→p x=true) (h2:∀x,x∈m.drop k→p x=false):m.filter p=m.take k:=by
 rw[←List.take_append_drop k m,List.filter_append,List.filter_eq_self.2 h1,List.filter_eq_nil_iff.2 (fun x hx=>by rw[h2 x hx];decide),qG,List.take_append_drop]
theorem zlb {p:Int→Bool} {m:List Int} {k:Nat} (h1:∀x,x∈m.take k→p x=false) (h2:∀x,x∈m.drop k→p x=true):m.filter p=m.drop k:=by
 conv=>lhs;rw[←List.take_append_drop k m]
 rw[List.filter_append,List.filter_eq_nil_iff.2 (fun x hx=>by rw[h1 x hx];decide),List.filter_eq_self.2 h2,List.nil_append]
theorem ztz {a b:Rat} (h:a<b):a<(a+b) / 2∧(a+b) / 2<b:=by
 constructor <;> grind
theorem ziG {m:List Int} {j:Nat} {x:Int} (h:x∈m.take (j+1)):∃i,i≤j∧i<m.length∧m.getD i 0=x:=by
 obtain⟨i,hi,rfl⟩:=List.mem_iff_getElem.1 h;rw[List.length_take]at hi;exact⟨i,by omega,by omega,by simp[show i<m.length by omega]⟩
theorem ziF {m:List Int} {j:Nat} {x:Int} (h:x∈m.drop (j+1)):∃i,j+1≤i∧i<m.length∧m.getD i 0=x:=by
 obtain⟨i,hi,rfl⟩:=List.mem_iff_getElem.1 h;rw[List.length_drop]at hi;exact⟨j+1+i,by omega,by omega,by simp[show j+1+i<m.length by omega]⟩
theorem zf4 {key:Int→Rat} {m:List Int} (h:zhy key m) {i j:Nat} (hij:i≤j) (hj:j<m.length):key (m.getD i 0)≤key (m.getD j 0):=by
 rcases Nat.lt_or_eq_of_le hij with hlt | rfl
 ·have:=(List.pairwise_iff_getElem.1 h) i j (by simp;omega) (by simp;omega) hlt;simpa[show i<m.length by omega,hj] using this
 ·exact Rat.le_refl
theorem zf7 {X:List (List Rat)} {col:Int} {rs m:List Int} (hp:m.Perm rs) (hr:zhy (zbB X col) m) (ha:∀r,r∈rs→zcD X col r=true) {j:Nat} (hj:j+1<m.length) (hlt:zbB X col (m.getD j 0)<zbB X col (m.getD (j+1) 0)) :
  (zbd X col (zeX (zbB X col) m j) rs).Perm (m.take (j+1))∧(zaz X col (zeX (zbB X col) m j) rs).Perm (m.drop (j+1)):=by
 obtain⟨h1,h2⟩:=ztz hlt;have hm:∀r,r∈m→zcD X col r=true:=fun r hr=>ha r (hp.mem_iff.1 hr)
 have hlo:∀x,x∈m.take (j+1)→zbB X col x≤zeX (zbB X col) m j:=fun x hx=>by
  obtain⟨i,hi,_,rfl⟩:=ziG hx;exact Rat.le_trans (zf4 hr hi oM) (Rat.le_of_lt h1)
 have hhi:∀x,x∈m.drop (j+1)→¬zbB X col x≤zeX (zbB X col) m j:=fun x hx=>by
  obtain⟨i,hi,hil,rfl⟩:=ziF hx;have:=zf4 hr hi hil;intro k;generalize zbB X col (m.getD i 0)=x at *
  unfold zeX at k;grind
 constructor
 ·refine(hp.symm.filter _).trans ?_;rw[zld (k:=j+1)]
  ·intro x hx;rw[hm x (List.mem_of_mem_take hx),qD (hlo x hx)];rfl
  ·intro x hx;rw[hm x (List.mem_of_mem_drop hx),qC (hhi x hx)];rfl
 ·refine(hp.symm.filter _).trans ?_;rw[zlb (k:=j+1)]
  ·intro x hx;rw[hm x (List.mem_of_mem_take hx),qD (hlo x hx)];rfl
  ·intro x hx;rw[hm x (List.mem_of_mem_drop hx),qC (hhi x hx)];rfl
theorem zew {key:Int→Rat} {least:Int} {m:List Int} {j:Nat}:zdk key least m j=true↔least≤((j+1:Nat):Int)∧least≤((m.length-(j+1):Nat):Int)∧key (m.getD j 0)<key (m.getD (j+1) 0):=by
 unfold zdk;simp only[Bool.and_eq_true,decide_eq_true_eq];exact and_assoc
theorem ziy {key:Int→Rat} {wo:List Int→Rat} {least:Int} {m:List Int}:∀{n:Nat} {a w:Rat},zdd key wo least m n=some (a,w)→∃j,j<n∧zdk key least m j=true∧a=zeX key m j∧w=zfq wo m j
 | 0,a,w,h=>by cases h
 | n+1,a,w,h=>by
  unfold zdd at h;split at h
  ·rename_i hc;split at h
   ·cases h;exact⟨n,Nat.lt_succ_self _,hc,rfl,rfl⟩
   ·rename_i a0 w0 h0;split at h
    ·cases h;exact⟨n,Nat.lt_succ_self _,hc,rfl,rfl⟩
    ·cases h;obtain⟨j,h1,h2⟩:=ziy h0;exact⟨j,by omega,h2⟩
  ·obtain⟨j,h1,h2⟩:=ziy h;exact⟨j,by omega,h2⟩
theorem zix {key:Int→Rat} {wo:List Int→Rat} {least:Int} {m:List Int}:∀{n j:Nat},j<n→zdk key least m j=true→∃a w,zdd key wo least m n=some (a,w)∧zfq wo m j≤w
 | 0,j,h,_=>by omega
 | n+1,j,h,hc=>by
  unfold zdd;by_cases hjn:j=n
  ·subst hjn;rw[if_pos hc];split
   ·exact⟨_,_,rfl,Rat.le_refl⟩
   ·rename_i a0 w0 _;by_cases hw:w0<zfq wo m j
    ·rw[if_pos hw];exact⟨_,_,rfl,Rat.le_refl⟩
    ·rw[if_neg hw];exact⟨_,_,rfl,Rat.not_lt.1 hw⟩
  ·obtain⟨a,w,h1,h2⟩:=zix (wo:=wo) (show j<n by omega) hc;split
   ·rw[h1];dsimp only;split
    ·rename_i hw;exact⟨_,_,rfl,Rat.le_trans h2 (Rat.le_of_lt hw)⟩
    ·exact⟨_,_,rfl,h2⟩
   ·exact⟨a,w,h1,h2⟩
theorem zob {ps:List (Int × Option (Rat × Rat))} {c:Int} {a w:Rat} (h:zb1 ps=some (c,a,w)):(c,some (a,w))∈ps:=by
 have key:∀(qs pre:List (Int × Option (Rat × Rat))) (st:Option (Int × Rat × Rat)),(∀c a w,st=some (c,a,w)→(c,some (a,w))∈pre)→∀c a w,qs.foldl zdj st=some (c,a,w)→(c,some (a,w))∈pre++qs:=by
  intro qs
  induction qs with
  | nil=>intro pre st h2 c a w h3;rw[qG];exact h2 c a w h3
  | cons p qs ih =>
   intro pre st h2 c a w h3
   have:=ih (pre++[p]) (zdj st p) (fun c a w h4=>by
    obtain⟨pc,po⟩:=p;unfold zdj at h4
    cases po with
    | none=>exact List.mem_append_left _ (h2 c a w h4)
    | some q =>
     obtain⟨a1,w1⟩:=q
     cases st with
     | none=>cases h4;simp
     | some t =>
      obtain⟨c0,a0,w0⟩:=t;dsimp only at h4;split at h4
      ·cases h4;simp
      ·cases h4;exact List.mem_append_left _ (h2 _ _ _ rfl)) c a w h3
   simpa using this
 have:=key ps [] none (fun c a w h=>by cases h) c a w h;simpa using this
theorem zoa {ps:List (Int × Option (Rat × Rat))} {c:Int} {a w:Rat} (h:(c,some (a,w))∈ps):∃c' a' w',zb1 ps=some (c',a',w')∧w≤w':=by
 have key:∀(qs:List (Int × Option (Rat × Rat))) (st:Option (Int × Rat × Rat)),((c,some (a,w))∈qs∨∃c' a' w',st=some (c',a',w')∧w≤w')→∃c' a' w',qs.foldl zdj st=some (c',a',w')∧w≤w':=by
  intro qs
  induction qs with
  | nil =>
   rintro st (h | h)
   ·cases h
   ·exact h
  | cons p qs ih =>
   intro st h;refine ih (zdj st p) ?_
   have step:(p=(c,some (a,w))∨∃c' a' w',st=some (c',a',w')∧w≤w')→∃c' a' w',zdj st p=some (c',a',w')∧w≤w':=by
    rintro (rfl | ⟨c',a',w',rfl,hw⟩)
    ·unfold zdj
     cases st with
     | none=>exact⟨_,_,_,rfl,Rat.le_refl⟩
     | some t =>
      obtain⟨c0,a0,w0⟩:=t;dsimp only;split
      ·exact⟨_,_,_,rfl,Rat.le_refl⟩
      ·rename_i hn;exact⟨_,_,_,rfl,Rat.not_lt.1 hn⟩
    ·obtain⟨pc,po⟩:=p;unfold zdj
     cases po with
     | none=>exact⟨_,_,_,rfl,hw⟩
     | some q =>
      obtain⟨a1,w1⟩:=q;dsimp only;split
      ·rename_i hn;exact⟨_,_,_,rfl,Rat.le_trans hw (Rat.le_of_lt hn)⟩
      ·exact⟨_,_,_,rfl,hw⟩
   rcases h with h | h
   ·rcases List.mem_cons.1 h with h | h
    ·exact .inr (step (.inl h.symm))
    ·exact .inl h
   ·exact .inr (step (.inr h))
 exact key ps none (.inl h)
theorem zgC {key:Int→Rat} {m:List Int}:∀{n:Nat} {t:Rat},t∈zjP key m n→∃j,j<n∧key (m.getD j 0)<key (m.getD (j+1) 0)∧t=zeX key m j
 | 0,t,h=>by cases h
 | n+1,t,h=>by
  unfold zjP at h;rcases List.mem_append.1 h with h | h
  ·obtain⟨j,h1,h2⟩:=zgC h;exact⟨j,by omega,h2⟩
  ·split at h
   ·rename_i hlt;exact⟨n,Nat.lt_succ_self _,hlt,List.mem_singleton.1 h⟩
   ·cases h
section
variable {X:List (List Rat)} {wo cost:List Int→Rat} {rs cols:List Int} {L:Int} {ps:List (Int × Option (Rat × Rat))} (hp:POk wo cost) (hcol:ztg cols (ps.map (·.1))) (hps:∀p,p∈ps→zrt X wo rs L p.1 p.2)
include hp hcol hps
end
end
section
theorem zky {l m:List Rat} (h:l.Perm m):zaN l=zaN m:=by
 induction h with
 | nil=>rfl
 | cons x _ ih=>rw[zaH,zaH,ih]
 | swap x y l=>rw[zaH,zaH,zaH,zaH];grind
 | trans _ _ h1 h2=>rw[h1,h2]
theorem zhi (l m:List Rat):zaN (l++m)=zaN l+zaN m:=by
 induction l with
 | nil=>rw[List.nil_append,zdP];grind
 | cons x l ih=>rw[List.cons_append,zaH,zaH,ih];grind
theorem zgZ {n:Nat} (h0:n≠0):((n:Int):Rat)≠0:=zdJ h0
theorem ziZ {n:Nat} (h0:n≠0):0<((n:Int):Rat):=by
 have h1:((0:Int):Rat)≤((n:Int):Rat):=Rat.intCast_le_intCast.2 oM;have h2:=zgZ h0;have h3:((0:Int):Rat)=0:=rfl;rw[h3]at h1;rcases Rat.le_iff_lt_or_eq.1 h1 with h | h
 ·exact h
 ·exact absurd h.symm h2
theorem zuo (a b:Rat) (x y:Nat) (hx:x=0→a=0) (hy:y=0→b=0):(a+b)*(a+b) / (((x+y:Nat):Int):Rat)≤a*a / ((x:Int):Rat)+b*b / ((y:Int):Rat):=by
 by_cases hx0:x=0
 ·subst hx0;rw[hx rfl,Nat.zero_add,show ((((0:Nat):Int)):Rat)=0 from rfl,zbi,Rat.zero_add,Rat.zero_add];exact Rat.le_refl
 by_cases hy0:y=0
 ·subst hy0;rw[hy rfl,Nat.add_zero,show ((((0:Nat):Int)):Rat)=0 from rfl,zbi,Rat.add_zero,Rat.add_zero];exact Rat.le_refl
 have h1:=zgZ hx0;have h2:=zgZ hy0;have h3:=zgZ (n:=x+y) oM;have p1:=ziZ hx0;have p2:=ziZ hy0;have p3:=ziZ (n:=x+y) oM;have e:(((x+y:Nat):Int):Rat)=((x:Int):Rat)+((y:Int):Rat):=by rw[Int.natCast_add,Rat.intCast_add]
 rw[e]at h3 p3 ⊢;generalize ((x:Int):Rat)=u at *
 generalize ((y:Int):Rat)=v at *
 have key:a*a / u+b*b / v-(a+b)*(a+b) / (u+v)=(a*v-b*u)*(a*v-b*u) / (u*v*(u+v)):=by grind
 have hn:0≤(a*v-b*u)*(a*v-b*u) / (u*v*(u+v)):=by
  have h5:=zkw (a*v-b*u);have h6:0<u*v*(u+v):=Rat.mul_pos (Rat.mul_pos p1 p2) p3;rw[Rat.div_def];exact Rat.mul_nonneg h5 (Rat.le_of_lt (Rat.inv_pos.2 h6))
 grind
def zhM (vals:List Rat) (l:List Int):Rat:=zaN (zez (zdq (atR vals l)) (atR vals l))
def zgw (ls:List Int) (l:List Int):Rat:=zfQ (atI ls l)
theorem zul (L:List Rat):zaN (zez (zdq L) L)+zaN L*zaN L / ((L.length:Int):Rat)=zaN (zez 0 L):=by
 by_cases h0:L.length=0
 ·obtain rfl:=List.length_eq_zero_iff.1 h0;show zaN []+zaN []*zaN [] / ((((([]:List Rat).length:Nat):Int)):Rat)=zaN [];rw[zdP,show ((((([]:List Rat).length:Nat):Int)):Rat)=0 from rfl,zbi,Rat.add_zero]
 ·have h:=zjG (zdq L) 0 L.reverse;rw[List.reverse_reverse,List.length_reverse]at h;have hn:=zgZ h0;have hm:zdq L=zaN L / ((L.length:Int):Rat):=rfl;rw[h];generalize zaN (zez (zdq L) L)=A;rw[hm];generalize ((L.length:Int):Rat)=N at *
  generalize zaN L=S at *
  grind
theorem zuw (vals:List Rat):POk (woV vals) (zhM vals):=by
 have hpm:∀l m:List Int,l.Perm m→(atR vals l).Perm (atR vals m):=fun l m h=>h.map _
 have hw:∀l m:List Int,l.Perm m→woV vals l=woV vals m:=fun l m h=>by
  unfold woV;rw[zky (hpm l m h),h.length_eq]
 have hf:∀l:List Int,zhM vals l+woV vals l=zaN (zez 0 (atR vals l)):=fun l=>by
  have:=zul (atR vals l);rw[zbI]at this;exact this
 refine⟨hw,fun l m h=>?_,fun l m=>?_,fun l m=>?_⟩
 ·have h1:=hf l;have h2:=hf m;have h3:zaN (zez 0 (atR vals l))=zaN (zez 0 (atR vals m)):=zky ((hpm l m h).map _);have h4:=hw l m h;grind
 ·rw[hf,hf,hf,zkT];show zaN ((atR vals l++atR vals m).map _)=_;rw[List.map_append,zhi];rfl
 ·unfold woV;rw[zkT,zhi,List.length_append];exact zuo _ _ _ _ (fun h=>by rw[List.length_eq_zero_iff.1 h];rfl) (fun h=>by rw[List.length_eq_zero_iff.1 h];rfl)
theorem zja (f g:Nat→Nat) (j:Nat):∀n,((List.range n).map fun k=>f k+if k=j then g k else 0).sum=((List.range n).map f).sum+if j<n then g j else 0
 | 0=>by simp
 | n+1=>by
  rw[List.range_succ,List.map_append,List.sum_append,List.map_append,List.sum_append,zja f g j n];simp only[List.map_cons,List.map_nil,List.sum_cons,List.sum_nil];by_cases h:n=j
  ·subst h;rw[if_pos rfl,if_neg oM,if_pos (by omega)];omega
  ·rw[if_neg h];by_cases h2:j<n
   ·rw[if_pos h2,if_pos (by omega)];omega
   ·rw[if_neg h2,if_neg (by omega)];omega
theorem zpI:∀l:List Int,(∀z,z∈l→0≤z∧z<12)→sqL l=((List.range 12).map fun (k:Nat)=>l.count (k:Int)*l.count (k:Int)).sum
 | [],_=>by decide
 | x::l,h=>by
  have hx:=h x (List.mem_cons_self ..);obtain⟨j,rfl⟩:=Int.eq_ofNat_of_zero_le hx.1;have ih:=zpI l (fun z hz=>h z (List.mem_cons_of_mem _ hz));have hs:=zja (fun k=>l.count (k:Int)*l.count (k:Int)) (fun k=>2*l.count (k:Int)+1) j 12;rw[if_pos (by omega)]at hs;rw[zi7,ih,Nat.add_assoc,←hs];congr 1;refine List.map_congr_left fun k _=>?_;rw[List.count_cons];by_cases e:k=j
  ·subst e;rw[if_pos rfl];simp;grind
  ·have e2:¬((j:Int) == (k:Int))=true:=by simp;omega
   rw[if_neg e,if_neg e2];simp
def zkQ (ks:List Nat) (f:Nat→Rat):Rat:=zaN (ks.map f)
theorem zmz (f:Nat→Nat):∀ks:List Nat,((((ks.map f).sum:Nat):Int):Rat)=zkQ ks fun k=>(((f k:Nat):Int):Rat)
 | []=>rfl
 | k::ks=>by
  unfold zkQ;rw[List.map_cons,List.sum_cons,List.map_cons,zaH,Int.natCast_add,Rat.intCast_add,zmz f ks];rfl
theorem zpJ {f g:Nat→Rat} (h:∀k,f k≤g k):∀ks:List Nat,zkQ ks f≤zkQ ks g
 | []=>Rat.le_refl
 | k::ks=>by
  have ih:=zpJ h ks;unfold zkQ at *
  rw[List.map_cons,zaH,List.map_cons,zaH];have:=h k;grind
theorem zmy (f g:Nat→Rat):∀ks:List Nat,zkQ ks (fun k=>f k+g k)=zkQ ks f+zkQ ks g
 | []=>by unfold zkQ;rw[List.map_nil,List.map_nil,List.map_nil,zdP,Rat.add_zero]
 | k::ks=>by
  have ih:=zmy f g ks;unfold zkQ at *
  rw[List.map_cons,zaH,List.map_cons,zaH,List.map_cons,zaH,ih];grind
theorem zf8 (f:Nat→Rat) (c:Rat):∀ks:List Nat,zkQ ks (fun k=>f k / c)=zkQ ks f / c
 | []=>by unfold zkQ;rw[List.map_nil,List.map_nil,zdP,Rat.div_def,Rat.zero_mul]
 | k::ks=>by
  have ih:=zf8 f c ks;unfold zkQ at *
  rw[List.map_cons,zaH,List.map_cons,zaH,ih,Rat.div_def,Rat.div_def,Rat.div_def,Rat.add_mul]
theorem zlz {l:List Int} (h:∀z,z∈l→0≤z∧z<12):((sqL l:Int):Rat)=zkQ (List.range 12) fun k=>((l.count (k:Int):Int):Rat)*((l.count (k:Int):Int):Rat):=by
 rw[zpI l h,zmz];unfold zkQ;congr 1;refine List.map_congr_left fun k _=>?_;rw[Int.natCast_mul,Rat.intCast_mul]
theorem zuv {ls:List Int} (hls:∀z,z∈ls→0≤z∧z<12):POk (woL ls) (zgw ls):=by
 have hpm:∀l m:List Int,l.Perm m→(atI ls l).Perm (atI ls m):=fun l m h=>h.map _
 have hb:∀l:List Int,∀z,z∈atI ls l→0≤z∧z<12:=fun l z hz=>by
  unfold atI at hz;obtain⟨r,_,rfl⟩:=List.mem_map.1 hz;rw[qB]
  cases e:ls[r.toNat]? with
  | none=>exact⟨by decide,by decide⟩
  | some x=>exact hls x (qF e)
 have hw:∀l m:List Int,l.Perm m→woL ls l=woL ls m:=fun l m h=>by
  unfold woL;rw[zmt (hpm l m h),h.length_eq]
 have hf:∀l:List Int,zgw ls l+woL ls l=((l.length:Int):Rat):=fun l=>by
  unfold zgw zfQ woL;rw[zb0];grind
 refine⟨hw,fun l m h=>?_,fun l m=>?_,fun l m=>?_⟩
 ·have h1:=hf l;have h2:=hf m;have h4:=hw l m h;rw[h.length_eq]at h1;grind
 ·rw[hf,hf,hf,List.length_append,Int.natCast_add,Rat.intCast_add]
 ·unfold woL;rw[zlz (hb (l++m)),zlz (hb l),zlz (hb m),←zf8,←zf8,←zf8,←zmy];refine zpJ (fun k=>?_) _;rw[zkS,List.count_append,Int.natCast_add,Rat.intCast_add,List.length_append];exact zuo _ _ _ _ (fun h=>by rw[List.length_eq_zero_iff.1 h];rfl) (fun h=>by rw[List.length_eq_zero_iff.1 h];rfl)
end
section
def zkd (a b:Int × Rat × Rat):Prop:=b.2.2<a.2.2∨(a.2.2=b.2.2∧(a.1<b.1∨(a.1=b.1∧a.2.1<b.2.1)))
instance (a b:Int × Rat × Rat):Decidable (zkd a b):=by unfold zkd;exact inferInstance
theorem zh5 {a b c:Int × Rat × Rat} (h:zkd a b) (k:zkd b c):zkd a c:=by
 unfold zkd at *
 rcases h with h | ⟨h1,h2⟩ <;> rcases k with k | ⟨k1,k2⟩
 ·left;grind
 ·left;grind
 ·left;grind
 ·right;refine⟨h1.trans k1,?_⟩;rcases h2 with h2 | ⟨h2,h3⟩ <;> rcases k2 with k2 | ⟨k2,k3⟩
  ·left;omega
  ·left;omega
  ·left;omega
  ·right;exact⟨by omega,by grind⟩
theorem zns {a b:Int × Rat × Rat} (h:¬zkd a b) (k:¬zkd b a):a=b:=by
 unfold zkd at *
 obtain⟨a1,a2,a3⟩:=a;obtain⟨b1,b2,b3⟩:=b;dsimp only at *
 have e3:a3=b3:=by
  have h1:¬b3<a3:=fun x=>h (.inl x);have h2:¬a3<b3:=fun x=>k (.inl x);grind
 subst e3
 have e1:a1=b1:=by
  have h1:¬a1<b1:=fun x=>h (.inr ⟨rfl,.inl x⟩);have h2:¬b1<a1:=fun x=>k (.inr ⟨rfl,.inl x⟩);omega
 subst e1
 have e2:a2=b2:=by
  have h1:¬a2<b2:=fun x=>h (.inr ⟨rfl,.inr ⟨rfl,x⟩⟩);have h2:¬b2<a2:=fun x=>k (.inr ⟨rfl,.inr ⟨rfl,x⟩⟩);grind
 subst e2;rfl
theorem zh4 {a b:Int × Rat × Rat} (h:zkd a b) (k:zkd b a):False:=by
 have:=zh5 h k;unfold zkd at this;rcases this with h | ⟨_,h | ⟨_,h⟩⟩
 ·exact absurd h Rat.lt_irrefl
 ·omega
 ·exact absurd h Rat.lt_irrefl
def zf3 (st:Option (Int × Rat × Rat)) (p:Int × Rat × Rat):Option (Int × Rat × Rat):=match st with
 | none=>some p
 | some q=>if zkd p q then some p else some q
def zgh (l:List (Int × Rat × Rat)) (r:Option (Int × Rat × Rat)):Prop:=match r with
 | none=>l=[]
 | some p=>p∈l∧∀q,q∈l→¬zkd q p
theorem znb {l:List (Int × Rat × Rat)} {r:Option (Int × Rat × Rat)} (h:zgh l r) (p:Int × Rat × Rat):zgh (l++[p]) (zf3 r p):=by
 unfold zf3
 cases r with
 | none =>
  obtain rfl:l=[]:=h
  exact⟨by simp,fun q hq=>by
   rw[List.nil_append,List.mem_singleton]at hq;subst hq;exact fun k=>zh4 k k⟩
 | some q =>
  obtain⟨h1,h2⟩:=h;dsimp only;split
  ·rename_i hp;refine⟨by simp,fun z hz=>?_⟩;rcases List.mem_append.1 hz with hz | hz
   ·exact fun k=>h2 z hz (zh5 k hp)
   ·rw[List.mem_singleton.1 hz];exact fun k=>zh4 k k
  ·rename_i hp;refine⟨List.mem_append_left _ h1,fun z hz=>?_⟩;rcases List.mem_append.1 hz with hz | hz
   ·exact h2 z hz
   ·rw[List.mem_singleton.1 hz];exact hp
def zlJ (P:Int × Rat × Rat→Prop) (r:Option (Int × Rat × Rat)):Prop:=match r with
 | none=>∀p,¬P p
 | some p=>P p∧∀q,P q→¬zkd q p
theorem zgh.p {l:List (Int × Rat × Rat)} {r:Option (Int × Rat × Rat)} (h:zgh l r):zlJ (·∈l) r:=by
 cases r with
 | none =>
  obtain rfl:l=[]:=h;intro p hp;cases hp
 | some p=>exact h
theorem zna {P Q:Int × Rat × Rat→Prop} {r s:Option (Int × Rat × Rat)} (h:zlJ P r) (k:zlJ Q s) (e:∀p,P p↔Q p):r=s:=by
 cases r with
 | none=>cases s with
  | none=>rfl
  | some q=>exact absurd ((e q).2 k.1) (h q)
 | some p=>cases s with
  | none=>exact absurd ((e p).1 h.1) (k p)
  | some q=>rw[zns (a:=p) (b:=q) (k.2 p ((e p).1 h.1)) (h.2 q ((e q).2 k.1))]
theorem zea {key:Int→Rat} {wo:List Int→Rat} {L:Int} {m:List Int}:∀{n:Nat} {a w:Rat},zdd key wo L m n=some (a,w) →
  ∃j,j<n∧zdk key L m j=true∧a=zeX key m j∧w=zfq wo m j∧∀j',j'<n→zdk key L m j'=true→zfq wo m j'<w∨(zfq wo m j'=w∧j≤j')
 | 0,a,w,h=>by cases h
 | n+1,a,w,h=>by
  unfold zdd at h;split at h
  ·rename_i hc;split at h
   ·rename_i h0;cases h;refine⟨n,Nat.lt_succ_self _,hc,rfl,rfl,fun j' hj' hc'=>?_⟩;by_cases e:j'=n
    ·subst e;exact .inr ⟨rfl,qH _⟩
    ·obtain⟨a1,w1,h1,_⟩:=zix (wo:=wo) (show j'<n by omega) hc';rw[h0]at h1;cases h1
   ·rename_i a0 w0 h0;obtain⟨j,hj,h1,h2,h3,h4⟩:=zea h0;split at h
    ·rename_i hw;cases h;refine⟨n,Nat.lt_succ_self _,hc,rfl,rfl,fun j' hj' hc'=>?_⟩;by_cases e:j'=n
     ·subst e;exact .inr ⟨rfl,qH _⟩
     ·rcases h4 j' oM hc' with h5 | ⟨h5,_⟩
      ·left;grind
      ·left;rw[h5];exact hw
    ·rename_i hw;cases h;refine⟨j,by omega,h1,h2,h3,fun j' hj' hc'=>?_⟩;by_cases e:j'=n
     ·subst e;rcases Rat.le_iff_lt_or_eq.1 (Rat.not_lt.1 hw) with h5 | h5
      ·exact .inl h5
      ·exact .inr ⟨h5,by omega⟩
     ·exact h4 j' oM hc'
  ·rename_i hc;obtain⟨j,hj,h1,h2,h3,h4⟩:=zea h;refine⟨j,by omega,h1,h2,h3,fun j' hj' hc'=>?_⟩;by_cases e:j'=n
   ·subst e;exact absurd hc' hc
   ·exact h4 j' oM hc'
theorem zkU {ps:List (Int × Option (Rat × Rat))} (hs:(ps.map (·.1)).Pairwise (·<·)) {c:Int} {a w:Rat} (h:zb1 ps=some (c,a,w)):∀c' a' w',(c',some (a',w'))∈ps→w'<w∨(w'=w∧c≤c'):=by
 have key:∀(qs pre:List (Int × Option (Rat × Rat))) (st:Option (Int × Rat × Rat)),((pre++qs).map (·.1)).Pairwise (·<·) →
   (∀c a w,st=some (c,a,w)→(c,some (a,w))∈pre∧∀c' a' w',(c',some (a',w'))∈pre→w'<w∨(w'=w∧c≤c'))→(st=none→∀c' a' w',(c',some (a',w')) ∉ pre) →
   ∀c a w,qs.foldl zdj st=some (c,a,w)→∀c' a' w',(c',some (a',w'))∈pre++qs→w'<w∨(w'=w∧c≤c'):=by
  intro qs
  induction qs with
  | nil=>intro pre st _ h2 _ c a w h3 c' a' w' hm;rw[qG]at hm;exact(h2 c a w h3).2 c' a' w' hm
  | cons p qs ih =>
   intro pre st hpw h2 h0 c a w h3 c' a' w' hm;have e:pre++p::qs=(pre++[p])++qs:=by simp
   rw[e]at hpw hm
   have hlt:∀z,z∈pre→z.1<p.1:=fun z hz=>by
    rw[List.map_append,List.map_append]at hpw;exact(List.pairwise_append.1 (List.pairwise_append.1 hpw).1).2.2 z.1 (List.mem_map.2 ⟨z,hz,rfl⟩) p.1 (by simp)
   refine ih (pre++[p]) (zdj st p) hpw (fun c a w h4=>?_) (fun h4=>?_) c a w h3 c' a' w' hm
   ·obtain⟨pc,po⟩:=p;unfold zdj at h4
    cases po with
    | none =>
     obtain⟨h5,h6⟩:=h2 c a w h4;refine⟨List.mem_append_left _ h5,fun c' a' w' hz=>?_⟩;rcases List.mem_append.1 hz with hz | hz
     ·exact h6 c' a' w' hz
     ·cases List.mem_singleton.1 hz
    | some q =>
     obtain⟨a1,w1⟩:=q
     cases st with
     | none =>
      cases h4;refine⟨by simp,fun c' a' w' hz=>?_⟩;rcases List.mem_append.1 hz with hz | hz
      ·exact absurd hz (h0 rfl c' a' w')
      ·cases List.mem_singleton.1 hz;exact .inr ⟨rfl,by omega⟩
     | some t =>
      obtain⟨c0,a0,w0⟩:=t;obtain⟨h5,h6⟩:=h2 c0 a0 w0 rfl;dsimp only at h4;split at h4
      ·rename_i hw;cases h4;refine⟨by simp,fun c' a' w' hz=>?_⟩;rcases List.mem_append.1 hz with hz | hz
       ·rcases h6 c' a' w' hz with h7 | ⟨h7,_⟩
        ·left;grind
        ·left;rw[h7];exact hw
       ·cases List.mem_singleton.1 hz;exact .inr ⟨rfl,by omega⟩
      ·rename_i hw;cases h4;refine⟨List.mem_append_left _ h5,fun c' a' w' hz=>?_⟩;rcases List.mem_append.1 hz with hz | hz
       ·exact h6 c' a' w' hz
       ·cases List.mem_singleton.1 hz;have hl:=hlt _ h5;dsimp only at hl;rcases Rat.le_iff_lt_or_eq.1 (Rat.not_lt.1 hw) with h8 | h8
        ·exact .inl h8
        ·exact .inr ⟨h8,by omega⟩
   ·obtain⟨pc,po⟩:=p;unfold zdj at h4
    cases po with
    | none =>
     intro c' a' w' hz;rcases List.mem_append.1 hz with hz | hz
     ·exact h0 h4 c' a' w' hz
     ·cases List.mem_singleton.1 hz
    | some q =>
     obtain⟨a1,w1⟩:=q
     cases st with
     | none=>cases h4
     | some t =>
      obtain⟨c0,a0,w0⟩:=t;dsimp only at h4;split at h4 <;> cases h4
 exact key ps [] none hs (fun c a w h=>by cases h) (fun _ c' a' w' h=>by cases h) c a w h
end
section
theorem zkm {key:Int→Rat} {es m m2:List Int} (h1:m.Perm es) (r1:zhy key m) (h2:m2.Perm es) (r2:zhy key m2):m2.length=m.length∧∀i,i<m.length→key (m2.getD i 0)=key (m.getD i 0):=by
 have hml:m2.length=m.length:=by rw[h1.length_eq,h2.length_eq]
 have hkk:m2.map key=m.map key:=zig r2 r1 ((h2.trans h1.symm).map _);refine⟨hml,fun i hi=>?_⟩;have:=congrArg (fun l:List Rat=>l[i]?) hkk;simp only[List.getElem?_map]at this;rw[qA (show i<m2.length by omega),qA hi]at this;simpa[hi,hml] using this
theorem zog {X:List (List Rat)} {wo cost:List Int→Rat} {c L:Int} {es m m2:List Int} (hp:POk wo cost) (ha:∀r,r∈es→zcD X c r=true) (h1:m.Perm es) (r1:zhy (zbB X c) m) (h2:m2.Perm es) (r2:zhy (zbB X c) m2) {j:Nat} (hj:j+1<m.length) (hc:zdk (zbB X c) L m j=true) :
  zdk (zbB X c) L m2 j=true∧zeX (zbB X c) m2 j=zeX (zbB X c) m j∧zfq wo m2 j=zfq wo m j:=by
 obtain⟨hml,hget⟩:=zkm h1 r1 h2 r2;obtain⟨c1,c2,hlt⟩:=zew.1 hc;have hlt2:zbB X c (m2.getD j 0)<zbB X c (m2.getD (j+1) 0):=by rw[hget j oM,hget (j+1) hj];exact hlt
 have hmid:zeX (zbB X c) m2 j=zeX (zbB X c) m j:=by unfold zeX;rw[hget j oM,hget (j+1) hj]
 obtain⟨hl,hh⟩:=zf7 h1 r1 ha hj hlt;obtain⟨hl2,hh2⟩:=zf7 h2 r2 ha (show j+1<m2.length by omega) hlt2;rw[hmid]at hl2 hh2;refine⟨zew.2 ⟨c1,by rw[hml];exact c2,hlt2⟩,hmid,?_⟩;unfold zfq;rw[hp.wperm _ _ (hl2.symm.trans hl),hp.wperm _ _ (hh2.symm.trans hh)]
def zt0 (X:List (List Rat)) (wo:List Int→Rat) (es cols:List Int) (L:Int) (p:Int × Rat × Rat):Prop :=
 p.1∈cols∧es.all (zcD X p.1)=true∧∃m j,m.Perm es∧zhy (zbB X p.1) m∧j+1<m.length∧zdk (zbB X p.1) L m j=true∧p.2.1=zeX (zbB X p.1) m j∧p.2.2=zfq wo m j-wo es
theorem zqO {key:Int→Rat} {m:List Int} (h:zhy key m) {i j:Nat} (hij:i≤j) (hj:j+1<m.length):zeX key m i≤zeX key m j:=by
 have h1:=zf4 h hij oM;have h2:=zf4 h (show i+1≤j+1 by omega) hj;unfold zeX;grind
theorem zqU {ps:List (Int × Option (Rat × Rat))} (hs:(ps.map (·.1)).Pairwise (·<·)):∀{c:Int} {o o':Option (Rat × Rat)},(c,o)∈ps→(c,o')∈ps→o=o':=by
 induction ps with
 | nil=>intro c o o' h;cases h
 | cons p ps ih =>
  intro c o o' h h';rw[List.map_cons]at hs;obtain⟨h1,h2⟩:=List.pairwise_cons.1 hs;rcases List.mem_cons.1 h with h | h <;> rcases List.mem_cons.1 h' with h' | h'
  ·rw[←h]at h';cases h';rfl
  ·have:=h1 c (List.mem_map.2 ⟨_,h',rfl⟩);rw[←h]at this;exact absurd this (by dsimp only;omega)
  ·have:=h1 c (List.mem_map.2 ⟨_,h,rfl⟩);rw[←h']at this;exact absurd this (by dsimp only;omega)
  ·exact ih h2 h h'
theorem zkV {X:List (List Rat)} {wo cost:List Int→Rat} {es cols:List Int} {L:Int} {ps:List (Int × Option (Rat × Rat))} (hp:POk wo cost) (hcol:ztg cols (ps.map (·.1))) (hps:∀p,p∈ps→zrt X wo es L p.1 p.2) :
  zlJ (zt0 X wo es cols L) ((zb1 ps).map fun t=>(t.1,t.2.1,t.2.2-wo es)):=by
 have own:∀c a g,zt0 X wo es cols L (c,a,g)→∃a2 w2,(c,some (a2,w2))∈ps∧g+wo es≤w2∧(g+wo es=w2→a2≤a):=by
  rintro c a g ⟨hc,ha,m,j,hm,hr,hj,hcand,he,hg⟩;dsimp only at hc ha hr hcand he hg;obtain⟨⟨pk,po⟩,hpm,hpk⟩:=List.mem_map.1 ((hcol.2 c).2 hc);dsimp only at hpk;subst hpk;obtain⟨m2,hs2,ho2,_⟩:=hps _ hpm;dsimp only at hs2 ho2;rcases hs2 with ⟨_,hm2,hr2⟩ | ⟨hno,_⟩
  ·obtain⟨h1,h2,h3⟩:=zog hp (List.all_eq_true.1 ha) hm hr hm2 hr2 hj hcand;have hml:=(zkm hm hr hm2 hr2).1;obtain⟨a2,w2,hcn,hw⟩:=zix (wo:=wo) (show j<m2.length-1 by omega) h1;rw[←ho2]at hcn;subst hcn;obtain⟨j2,hj2,_,e1,e2,e3⟩:=zea ho2.symm;refine⟨a2,w2,hpm,by grind,fun heq=>?_⟩;rcases e3 j oM h1 with h4 | ⟨_,h4⟩
   ·grind
   ·rw[e1,he,←h2];exact zqO hr2 h4 oM
  ·rw[ha]at hno;cases hno
 cases hb:zb1 ps with
 | none =>
  rintro⟨c,a,g⟩ hq;obtain⟨a2,w2,h1,_⟩:=own c a g hq;obtain⟨_,_,_,h2,_⟩:=zoa h1;rw[hb]at h2;cases h2
 | some t =>
  obtain⟨c,a,w⟩:=t;have hm:=zob hb;refine⟨?_,?_⟩
  ·obtain⟨m,hs,ho,_⟩:=hps _ hm;dsimp only at hs ho;obtain⟨j,hj,hcand,e1,e2⟩:=ziy ho.symm;rcases hs with ⟨ha,hpm,hr⟩ | ⟨_,rfl⟩
   ·exact⟨(hcol.2 c).1 (List.mem_map.2 ⟨_,hm,rfl⟩),ha,m,j,hpm,hr,by omega,hcand,e1,by show w-wo es=_;rw[e2]⟩
   ·simp at hj
  ·rintro⟨c',a',g'⟩ hq hpre;obtain⟨a2,w2,h1,h2,h3⟩:=own c' a' g' hq;have h4:=zkU hcol.1 hb c' a2 w2 h1;rcases hpre with h5 | ⟨h5,h6⟩
   ·have h5':w-wo es<g':=h5;rcases h4 with h4 | ⟨h4,_⟩ <;> grind
   ·have h5':g'=w-wo es:=h5;have hw:w2=w:=by rcases h4 with h4 | ⟨h4,_⟩ <;> grind
    have hle:c≤c':=by
     rcases h4 with h4 | ⟨_,h4⟩
     ·grind
     ·exact h4
    rcases h6 with h6 | ⟨h6,h7⟩
    ·have:c'<c:=h6;omega
    ·have h6':c'=c:=h6;subst h6';have:=zqU hcol.1 h1 hm;cases this;have h8:=h3 (by grind);have h9:a'<a:=h7;grind
end
section
open Go.RowKit _root_.Go.Proofs.Tryz
def zdg (C:Nat) (l:List Int):List Int:=(List.range C).map fun (k:Nat)=>(l.count (k:Int):Int)
theorem zbk (C:Nat) (l:List Int):(zdg C l).length=C:=by simp[zdg]
theorem ze3 {C:Nat} (l:List Int) {k:Nat} (hk:k<C):(zdg C l)[k]?=some (l.count (k:Int):Int):=by
 unfold zdg;rw[List.getElem?_map,List.getElem?_range hk];rfl
theorem zjD {C:Nat} (l:List Int) {k:Nat} (hk:k<C):zdg C (l++[(k:Int)])=(zdg C l).set k ((l.count (k:Int)+1:Nat):Int):=by
 apply List.ext_getElem?;intro j;rw[List.getElem?_set];by_cases hj:j<C
 ·rw[ze3 _ hj,ze3 _ hj,ze4,zbk];by_cases e:k=j
  ·subst e;rw[if_pos rfl,if_pos rfl,if_pos hk]
  ·rw[if_neg e,if_neg oM,Nat.add_zero]
 ·rw[List.getElem?_eq_none (by rw[zbk];omega),List.getElem?_eq_none (by rw[zbk];omega),if_neg (by omega)]
theorem zfV (C:Nat):(List.replicate C [iv 0]).flatten=(zdg C []).map iv++[]:=by
 have:zdg C []=List.replicate C 0:=by
  unfold zdg;apply List.ext_getElem?;intro j;by_cases hj:j<C
  ·rw[List.getElem?_map,List.getElem?_range hj,List.getElem?_replicate,if_pos hj];simp
  ·rw[List.getElem?_eq_none (by simp;omega),List.getElem?_eq_none (by simp;omega)]
 rw[this,qG]
 induction C with
 | zero=>rfl
 | succ n ih =>
  rw[List.replicate_succ,List.flatten_cons,List.replicate_succ,List.map_cons,List.singleton_append];congr 1;apply ih;unfold zdg;apply List.ext_getElem?;intro j;by_cases hj:j<n
  ·rw[List.getElem?_map,List.getElem?_range hj,List.getElem?_replicate,if_pos hj];simp
  ·rw[List.getElem?_eq_none (by simp;omega),List.getElem?_eq_none (by simp;omega)]
theorem zoI {H:Hp} {b m:Nat} {l:List Int} {sp:List Value} (h:H b=some (l.map iv++sp).toArray) (hm:l.length=m):IL H (.slice (some ⟨b,0,none⟩) m m) l:=by
 subst hm;refine⟨by simp,.inr ⟨b,0,l.length,_,rfl,qH _,h,fun j x hj=>?_⟩⟩;rw[Nat.zero_add];have hl:=(qE.1 hj).1;rw[List.getElem?_toArray,List.getElem?_append_left hl];exact hj
theorem zmY {H:Hp} {v:Value} {rs:List Int} (hr:IL H v rs) (hn:rs.length≤300) {va:Option Addr} {vc:Nat} {la:Option Addr} {lc:Nat} {ls:List Int} (hv:IL H (.slice la ls.length lc) ls) {C:Nat} (hc:1≤C∧C≤12) (h0:1≤ls.length) (h1:ls.length≤300) (hls:∀z,z∈ls→0≤z∧z<(C:Int)) :
  PC prog 23 #[zai 1 C (.slice la ls.length lc) (.slice va 0 vc),v] H fun r H'=>IL H' r (zdg C (atI ls (exL rs ls.length))):=by
 have hchk:=zex (va:=va) (vc:=vc) hv (cl:=(C:Int)) oM h0 h1 hls;have hel:=zbg rs ls.length;have heb:=zcC (rs:=rs) (n:=ls.length);have hex:=zcl hr oM ls.length;generalize exL rs ls.length=es at *
 obtain⟨a,cap,rfl⟩:=SlC.val hr;refine BD func23 ntmps23 ?_
 repeat (first|refine RUN ?_|refine CV (hchk) ?_|refine CE (hchk) ?_)
 refine EVL.make tO rfl rfl rfl rfl rfl rfl rfl rfl rfl (C) (rfl) oM (by rfl) (by rfl) fun b=>?_;refine uR ?_;refine vA (hex) ?_;intro r1 G1 he hG1;obtain⟨ea,ec,rfl⟩:=SlC.val he;(first|refine EVL.swapOw ([(b,3,(zdg C (atI ls (es.take 0))).map iv++[])]) ([]) ((by rw[show atI ls (es.take 0)=[] from rfl,←zfV];rfl)) ?_|refine EV.swapOw ([(b,3,(zdg C (atI ls (es.take 0))).map iv++[])]) ([]) ((by rw[show atI ls (es.take 0)=[] from rfl,←zfV];rfl)) ?_);refine uR ?_;refine EV.loopK (ι:=Nat) [2,5,23,24] [2] (fun i=>[(25,.v (.int .i64 (i:Int)))]) (fun _=>[]) (fun i=>[(b,3,(zdg C (atI ls (es.take i))).map iv++[])]) (fun i _=>i≤es.length) (fun i=>es.length-i) (0) rfl rfl ⟨rfl,trivial⟩ trivial rfl (fun _=>rfl) (Nat.zero_le _) ?_;rintro i G2 hG2 hi;refine uR ?_;refine EV.cond rfl (fun hlt=>?_) (fun hlt=>?_)
 ·simp only[nN]at hlt;obtain⟨r,hri⟩:=gE hlt;have hb:=heb r (qF hri);obtain⟨R,rfl⟩:=Int.eq_ofNat_of_zero_le hb.1;obtain⟨x,hx⟩:∃x,ls[R]?=some x:=⟨_,qA oM⟩;have hRl:R<ls.length:=by omega
  have hxb:=hls x (qF hx);obtain⟨k,rfl⟩:=Int.eq_ofNat_of_zero_le hxb.1;have hk:k<C:=by omega
  have hsn:atI ls (es.take (i+1))=atI ls (es.take i)++[(k:Int)]:=by
   rw[zap hri];unfold atI;rw[List.map_append,List.map_cons,Int.toNat_natCast,qB,hx];rfl
  have hcl:(atI ls (es.take i)).count (k:Int)≤300:=qI List.count_le_length (by rw[zb0,List.length_take];omega);have hget:=ze3 (C:=C) (atI ls (es.take i)) hk;have hcn:=zjD (C:=C) (atI ls (es.take i)) hk;rw[←hsn]at hcn;have hlen:=zbk C (atI ls (es.take i));generalize zdg C (atI ls (es.take i))=cs at *
  generalize (atI ls (es.take i)).count (k:Int)=m at *
  have wm:IntKind.i64.wrap ((m:Int)+1)=((m+1:Nat):Int):=zab m oM;refine uR ?_;refine vI ((he.mono hG2)) (i) (rfl) (hlt) ((by rw[List.getElem?_map,hri];rfl)) ?_;refine uR ?_;refine vI ((hv.mono (hG1.trans hG2))) (R) (rfl) (hRl) ((by rw[List.getElem?_map,hx];rfl)) ?_;refine uR ?_;refine EVL.idxB tO rfl rfl rfl rfl rfl rfl rfl rfl rfl (k) (k*1) (rfl) (hk) (rfl) ?_;refine EVL.loadOwn tO rfl rfl rfl rfl rfl rfl (0) rfl (zfx [] hget) rfl rfl ?_;refine uR ?_;rw[wm];refine EVL.idxB tO rfl rfl rfl rfl rfl rfl rfl rfl rfl (k) (k*1) (rfl) (hk) (rfl) ?_;refine EVL.storeOwn tO rfl rfl rfl rfl rfl rfl ([]) ([]) rfl rfl rfl rfl ((by rw[List.length_append,List.length_map,hlen];show k*1+1≤_;omega)) (zhL [] _ (show k<cs.length by omega)) ?_;refine uR ?_;refine⟨i+1,⟨by rw[zab i (by omega)];rfl,trivial⟩,sB,trivial,sB,by rw[hcn];rfl,hlt,Hp.Le.refl _,by omega⟩
 ·simp only[nN]at hlt;obtain rfl:i=es.length:=by omega
  rw[List.take_length];(first|refine EVL.publish [] [] rfl fun G3 hG3 hb3=>?_|refine EV.publish [] [] rfl fun G3 hG3 hb3=>?_);refine uR ?_;exact zoI hb3 (zbk _ _)
theorem zfF {H:Hp} {v:Value} {rs:List Int} (hr:IL H v rs) (hn:rs.length≤300) {kd:Int} {sv:Value} {la:Option Addr} {lc:Nat} {ls:List Int} (hv:IL H (.slice la ls.length lc) ls) {C:Nat} (hc:C≤12) (hls:∀z,z∈ls→0≤z∧z<(C:Int)) :
  PC prog 178 #[zai kd C (.slice la ls.length lc) sv,v] H fun r H'=>IL H' r (zdg C (atI ls (exL rs ls.length))):=by
 obtain⟨a,cap,rfl⟩:=SlC.val hr;refine BD func178 ntmps178 ?_;refine uR ?_;refine EVL.make tO rfl rfl rfl rfl rfl rfl rfl rfl rfl (C) (rfl) oM (by rfl) (by rfl) fun b=>?_;(first|refine EVL.swapOw ([(b,3,(zdg C (atI ls (exL (rs.take 0) ls.length))).map iv++[])]) ([]) ((by rw[show atI ls (exL (rs.take 0) ls.length)=[] from rfl,←zfV];rfl)) ?_|refine EV.swapOw ([(b,3,(zdg C (atI ls (exL (rs.take 0) ls.length))).map iv++[])]) ([]) ((by rw[show atI ls (exL (rs.take 0) ls.length)=[] from rfl,←zfV];rfl)) ?_);refine uR ?_;refine EV.loopK (ι:=Nat) [1,2,5] [2] (fun i=>[(6,.v (.int .i64 (i:Int)))]) (fun _=>[]) (fun i=>[(b,3,(zdg C (atI ls (exL (rs.take i) ls.length))).map iv++[])]) (fun i _=>i≤rs.length) (fun i=>rs.length-i) (0) rfl rfl ⟨rfl,trivial⟩ trivial rfl (fun _=>rfl) (Nat.zero_le _) ?_;rintro i G2 hG2 hi;refine uR ?_;refine EV.cond rfl (fun hlt=>?_) (fun hlt=>?_)
 ·simp only[nN]at hlt;obtain⟨r,hri⟩:=gE hlt;have hex:=ze6 (n:=ls.length) hri;have hel:=zbg (rs.take i) ls.length;rw[List.length_take]at hel;have wn:IntKind.i64.wrap ((i:Int)+1)=((i+1:Nat):Int):=zab i oM;have hr2:=hr.mono hG2;refine uR ?_;by_cases h1:r≥0
  ·obtain⟨R,rfl⟩:=Int.eq_ofNat_of_zero_le h1;apply EV.drawn 14 kR kR;intro xv yw;(repeat refine' DD ?_);refine' vJ (hr2) (i) (rfl) (hlt) ((by rw[List.getElem?_map,hri];rfl)) ?_;rotate_left;(repeat refine' DD ?_);rw[qD h1];(repeat refine' DD ?_);refine' vJ (hr2) (i) (rfl) (hlt) ((by rw[List.getElem?_map,hri];rfl)) ?_;rotate_left;(repeat refine' DD ?_);(refine DJ.nil (fun G3 hG3 hF3=>?_);(case hS|hS2=>rfl));refine uR ?_;by_cases h2:(R:Int)<(ls.length:Int)
   ·have hp:inR ls.length (R:Int)=true:=by unfold inR;simp;omega
    rw[hp,if_pos rfl]at hex;have hRl:R<ls.length:=by omega
    obtain⟨x,hx⟩:=gE hRl;have hxb:=hls x (qF hx);obtain⟨k,rfl⟩:=Int.eq_ofNat_of_zero_le hxb.1;have hk:k<C:=by omega
    have hsn:atI ls (exL (rs.take (i+1)) ls.length)=atI ls (exL (rs.take i) ls.length)++[(k:Int)]:=by
     rw[hex];unfold atI;rw[List.map_append,List.map_cons,Int.toNat_natCast,qB,hx];rfl
    have hcl:(atI ls (exL (rs.take i) ls.length)).count (k:Int)≤300:=qI List.count_le_length (by rw[zb0];omega);have hget:=ze3 (C:=C) (atI ls (exL (rs.take i) ls.length)) hk;have hcn:=zjD (C:=C) (atI ls (exL (rs.take i) ls.length)) hk;rw[←hsn]at hcn;have hlen:=zbk C (atI ls (exL (rs.take i) ls.length));generalize zdg C (atI ls (exL (rs.take i) ls.length))=cs at *
    generalize (atI ls (exL (rs.take i) ls.length)).count (k:Int)=m at *
    have wm:IntKind.i64.wrap ((m:Int)+1)=((m+1:Nat):Int):=zab m oM;have hr3:=hr2.mono hG3;have hv3:=hv.mono (hG2.trans hG3);rw[qD h2];refine uR ?_;apply EV.drawn 13 kR kR;intro xv yw;(repeat refine' DD ?_);refine' vJ (hr3) (i) (rfl) (hlt) ((by rw[List.getElem?_map,hri];rfl)) ?_;rotate_left;(repeat refine' DD ?_);refine' vJ (hv3) (R) (rfl) (hRl) ((by rw[List.getElem?_map,hx];rfl)) ?_;rotate_left;(repeat refine' DD ?_);refine' DJ.idxB tO rfl rfl rfl rfl rfl rfl rfl rfl rfl (k) (k*1) (rfl) (hk) (rfl) ?_;rotate_left;refine' DJ.ofVal (zaa.loadOwn tO rfl rfl rfl rfl (0) rfl (zfx [] hget) rfl rfl) rfl rfl rfl ?_;rotate_left;(repeat refine' DD ?_);refine' DJ.idxB tO rfl rfl rfl rfl rfl rfl rfl rfl rfl (k) (k*1) (rfl) (hk) (rfl) ?_;rotate_left;(refine DJ.nil (fun G4 hG4 hF4=>?_);(case hS|hS2=>rfl));rw[wm];refine EVL.storeOwn tO rfl rfl rfl rfl rfl rfl ([]) ([]) rfl rfl rfl rfl ((by rw[List.length_append,List.length_map,hlen];show k*1+1≤_;omega)) (zhL [] _ (show k<cs.length by omega)) ?_;refine uR ?_;refine⟨i+1,⟨by rw[wn];rfl,trivial⟩,sB,trivial,sB,by rw[hcn];rfl,hlt,hG3.trans hG4,by omega⟩
   ·have hp:inR ls.length (R:Int)=false:=by unfold inR;simp;omega
    rw[hp,if_neg (by decide),qG]at hex;rw[qC h2];refine uR ?_;refine⟨i+1,⟨by rw[wn];rfl,trivial⟩,sB,trivial,sB,by rw[hex],hlt,hG3,by omega⟩
  ·have hp:inR ls.length r=false:=by unfold inR;simp;omega
   rw[hp,if_neg (by decide),qG]at hex;apply EV.drawn 14 kR kR;intro xv yw;(repeat refine' DD ?_);refine' vJ (hr2) (i) (rfl) (hlt) ((by rw[List.getElem?_map,hri];rfl)) ?_;rotate_left;(repeat refine' DD ?_);rw[qC h1];(repeat refine' DD ?_);(refine DJ.nil (fun G3 hG3 hF3=>?_);(case hS|hS2=>rfl));refine uR ?_;refine⟨i+1,⟨by rw[wn];rfl,trivial⟩,sB,trivial,sB,by rw[hex],hlt,hG3,by omega⟩
 ·simp only[nN]at hlt;obtain rfl:i=rs.length:=by omega
  rw[List.take_length];(first|refine EVL.publish [] [] rfl fun G3 hG3 hb3=>?_|refine EV.publish [] [] rfl fun G3 hG3 hb3=>?_);refine uR ?_;exact zoI hb3 (zbk _ _)
def topN (l:List Int):Nat→Nat
 | 0=>0
 | i+1=>if l.getD (topN l i) 0<l.getD i 0 then i else topN l i
theorem zjc (l:List Int):∀i,topN l i<i∨topN l i=0
 | 0=>.inr rfl
 | i+1=>by
  unfold topN;split
  ·exact .inl (Nat.lt_succ_self _)
  ·rcases zjc l i with h | h
   ·exact .inl oM
   ·exact .inr h
theorem zmC (l:List Int):topN l 1=0:=by
 unfold topN topN;rw[if_neg (by omega)]
theorem ze7 {l:List Int} {i:Nat} (h:i<l.length):l[i]?=some (l.getD i 0):=by
 rw[qB,qA h];rfl
theorem zpj {H:Hp} {v:Value} {l:List Int} (hr:IL H v l) (hn:l.length≤300):PC prog 142 #[v] H fun r _=>r=.int .i64 (topN l l.length:Nat):=by
 obtain⟨a,cap,rfl⟩:=SlC.val hr;refine BD func142 ntmps142 ?_;refine uR ?_;refine EV.loopK (ι:=Nat) [0] [] (fun i=>[(3,.v (.int .i64 (topN l (i+1):Nat))),(4,.v (.int .i64 ((i+1:Nat):Int)))]) (fun _=>[]) (fun _=>[]) (fun i _=>i≤l.length-1) (fun i=>l.length-i) (0) rfl rfl ⟨by rw[zmC];rfl,rfl,trivial⟩ trivial rfl (fun _=>rfl) (Nat.zero_le _) ?_;rintro i G2 hG2 hi;refine uR ?_;refine EV.cond rfl (fun hlt=>?_) (fun hlt=>?_)
 ·simp only[nN]at hlt;have hr2:=hr.mono hG2;have ht:=zjc l (i+1);have htl:topN l (i+1)<l.length:=by omega
  have g1:=ze7 hlt;have g2:=ze7 htl;have hst:topN l (i+1+1)=if l.getD (topN l (i+1)) 0<l.getD (i+1) 0 then i+1 else topN l (i+1):=rfl
  have wn:IntKind.i64.wrap (((i+1:Nat):Int)+1)=((i+1+1:Nat):Int):=zab (i+1) oM;generalize topN l (i+1)=tp at *
  generalize l.getD tp 0=x at *
  generalize l.getD (i+1) 0=y at *
  refine uR ?_;apply EV.drawn 8 kR kR;intro xv yw;(repeat refine' DD ?_);refine' vJ (hr2) (i+1) (rfl) (hlt) ((by rw[List.getElem?_map,g1];rfl)) ?_;rotate_left;(repeat refine' DD ?_);refine' vJ (hr2) (tp) (rfl) (htl) ((by rw[List.getElem?_map,g2];rfl)) ?_;rotate_left;(repeat refine' DD ?_);(refine DJ.nil (fun G3 hG3 hF3=>?_);(case hS|hS2=>rfl));refine uR ?_;by_cases h:y>x
  ·rw[qD h];rw[if_pos h]at hst;refine uR ?_;refine⟨i+1,⟨by rw[hst];rfl,by rw[wn];rfl,trivial⟩,sB,trivial,sB,rfl,by omega,hG3,by omega⟩
  ·rw[qC h];rw[if_neg h]at hst;refine uR ?_;refine⟨i+1,⟨by rw[hst];rfl,by rw[wn];rfl,trivial⟩,sB,trivial,sB,rfl,by omega,hG3,by omega⟩
 ·simp only[nN]at hlt
  have hfin:topN l (i+1)=topN l l.length:=by
   by_cases h0:l.length=0
   ·obtain rfl:i=0:=by omega
    rw[zmC,h0];rfl
   ·rw[show i+1=l.length by omega]
  rw[hfin];refine uR ?_;rfl
theorem zmD {H:Hp} {g v w:Value} {l:List Int} (hg:∃kd cl sl sv,g=zai kd cl sl sv) (hc:PC prog 23 #[g,v] H fun r H'=>IL H' r l) (hn:l.length≤300):PC prog 21 #[g,v] H fun r _=>r=.int .i64 (topN l l.length:Nat):=by
 obtain⟨kd,cl,sl,sv,rfl⟩:=hg;refine BD func21 ntmps21 ?_;refine uR ?_;refine vA (hc) ?_;intro r1 G1 hr hG1;obtain⟨a,cap,rfl⟩:=SlC.val hr;refine uR ?_;refine EV.loopK (ι:=Nat) [6,12,13] [] (fun i=>[(5,.v (.int .i64 (topN l i:Nat))),(14,.v (.int .i64 (i:Int)))]) (fun _=>[]) (fun _=>[]) (fun i _=>i≤l.length) (fun i=>l.length-i) (0) rfl rfl ⟨rfl,rfl,trivial⟩ trivial rfl (fun _=>rfl) (Nat.zero_le _) ?_;rintro i G2 hG2 hi;refine uR ?_;refine EV.cond rfl (fun hlt=>?_) (fun hlt=>?_)
 ·simp only[nN]at hlt;have hr2:=hr.mono hG2;have ht:=zjc l i;have htl:topN l i<l.length:=by omega
  have g1:=ze7 hlt;have g2:=ze7 htl;have hst:topN l (i+1)=if l.getD (topN l i) 0<l.getD i 0 then i else topN l i:=rfl
  have wn:IntKind.i64.wrap ((i:Int)+1)=((i+1:Nat):Int):=zab i oM;generalize topN l i=tp at *
  generalize l.getD tp 0=x at *
  generalize l.getD i 0=y at *
  refine uR ?_;refine vI (hr2) (i) (rfl) (hlt) ((by rw[List.getElem?_map,g1];rfl)) ?_;refine uR ?_;refine vI (hr2) (tp) (rfl) (htl) ((by rw[List.getElem?_map,g2];rfl)) ?_;refine uR ?_;by_cases h:y>x
  ·rw[qD h];rw[if_pos h]at hst;refine uR ?_;refine⟨i+1,⟨by rw[hst];rfl,by rw[wn];rfl,trivial⟩,sB,trivial,sB,rfl,by omega,Hp.Le.refl _,by omega⟩
  ·rw[qC h];rw[if_neg h]at hst;refine uR ?_;refine⟨i+1,⟨by rw[hst];rfl,by rw[wn];rfl,trivial⟩,sB,trivial,sB,rfl,by omega,Hp.Le.refl _,by omega⟩
 ·simp only[nN]at hlt;obtain rfl:i=l.length:=by omega
  refine uR ?_;rfl
theorem zmZ {H:Hp} {v:Value} {va:Option Addr} {vn vc:Nat} {la:Option Addr} {lc:Nat} (h0:1≤vn) (h1:vn≤300):PC prog 23 #[zai 2 0 (.slice la 0 lc) (.slice va vn vc),v] H fun r H'=>IL H' r []:=by
 have hchk:=zdl (va:=va) (vc:=vc) (la:=la) (lc:=lc) h0 h1;refine BD func23 ntmps23 ?_;refine uR ?_;exact⟨rfl,.inl ⟨rfl,_,_,rfl⟩⟩
end
section
theorem zbE {α:Type} (l:List α) (j:Nat) (y:α):(zaB l j y).length=l.length+1:=by rw[(zcg l j y).length_eq,List.length_append];rfl
theorem ztY {α:Type} {l:List α} {j:Nat} {y:α} (h:j≤l.length):(zaB l j y)[j]?=some y:=by
 have:(l.take j).length=j:=by rw[List.length_take];omega
 unfold zaB;rw[List.getElem?_append_right oM,this,Nat.sub_self];rfl
theorem zfE {α:Type} {l:List α} {j:Nat} {y z:α} (h:l[j]?=some z):(zaB l (j+1) y)[j]?=some z:=by
 obtain⟨hl,_⟩:=qE.1 h;unfold zaB;rw[List.getElem?_append_left (by rw[List.length_take];omega),List.getElem?_take_of_lt oM,h]
theorem znt {α:Type} {l:List α} {j:Nat} {y z:α} (h:l[j]?=some z):(zaB l (j+1) y).set (j+1) z=zaB l j z:=by
 obtain⟨hl,hz⟩:=qE.1 h;have:(l.take (j+1)).length=j+1:=by rw[List.length_take];omega
 unfold zaB;rw[List.set_append_right _ _ oM,this,Nat.sub_self,List.set_cons_zero,List.take_succ_eq_append_getElem hl,hz,List.drop_eq_getElem_cons hl,hz];simp
theorem zgX {α:Type} {l:List α} {j:Nat} {y z:α} (h:j≤l.length):(zaB l j y).set j z=zaB l j z:=by
 have:(l.take j).length=j:=by rw[List.length_take];omega
 unfold zaB;rw[List.set_append_right _ _ oM,this,Nat.sub_self,List.set_cons_zero]
theorem zpb {α:Type} (l:List α) (y:α):zaB l l.length y=l++[y]:=by unfold zaB;rw[List.take_length,List.drop_length]
theorem zpd {α:Type} {l:List α} {j:Nat} {y z:α} (h:z∈zaB l j y):z=y∨z∈l:=by
 have:=(zcg l j y).mem_iff.1 h;rcases List.mem_append.1 this with h | h
 ·exact .inr h
 ·exact .inl (List.mem_singleton.1 h)
end
section
open Go.RowKit _root_.Go.Proofs.Tryz
theorem RVs.put {H:Hp} {vs:List Value} {l:List Rat} {x:Value} {q:Rat} {j:Nat} (h:RVs H vs l) (k:RQ H x q) (hj:j≤l.length):RVs H (zaB vs j x) (zaB l j q):=by
 have h1:=h.1;refine⟨by rw[zbE,zbE,h1],fun i y r e1 e2=>?_⟩;have t1:(vs.take j).length=j:=by rw[List.length_take];omega
 have t2:(l.take j).length=j:=by rw[List.length_take];omega
 unfold zaB at e1 e2;rw[List.getElem?_append,t1]at e1;rw[List.getElem?_append,t2]at e2;by_cases hi:i<j
 ·rw[if_pos hi,List.getElem?_take_of_lt hi]at e1 e2;exact h.2 i y r e1 e2
 ·rw[if_neg hi]at e1 e2
  cases hk:i-j with
  | zero=>rw[hk]at e1 e2;simp at e1 e2;subst e1;subst e2;exact k
  | succ m =>
   rw[hk,List.getElem?_cons_succ,List.getElem?_drop]at e1 e2;exact h.2 _ y r e1 e2
theorem RVs.three {H:Hp} {vs:List Value} {l:List Rat} (h:RVs H vs l):∀x,x∈vs→(zac x).length=3:=fun x hx=>by
 obtain⟨i,hi,rfl⟩:=List.getElem_of_mem hx;have:=h.1;exact(h.2 i _ _ (qA hi) (qA oM)).cells.1
theorem RVs.at {H:Hp} {vs:List Value} {l:List Rat} (h:RVs H vs l) {j:Nat} {q:Rat} (hj:l[j]?=some q):∃x,vs[j]?=some x∧RQ H x q:=by
 obtain⟨hl,rfl⟩:=qE.1 hj;have h1:=h.1;exact⟨_,qA oM,h.2 j _ _ (qA oM) (qA hl)⟩
theorem zbG {vs:List Value} {j:Nat} {y:Value} (h:∀x,x∈vs→(zac x).length=3) (hy:(zac y).length=3):∀x,x∈zaB vs j y→(zac x).length=3:=fun x hx=>by
 rcases zpd hx with rfl | hx
 ·exact hy
 ·exact h x hx
theorem zeU {vs:List Value} (h:∀x,x∈vs→(zac x).length=3):(vs.flatMap zac).length=vs.length*3:=zfZ _ 3 vs h
theorem zo6 {T:TypeId} {b cap i j:Nat} {vs:List Value} {x:Value} {sp:List Value} {k:Nat} (hv:∀x,x∈vs→(zac x).length=3) (hvl:vs.length=i) (hx:(zac x).length=3) (hk:k+sp.length=cap*3) (hk':k=(i+1)*3) (h1:i+1≤cap) (h2:cap≤maxLen) :
  zaJ T 3 (.slice (some ⟨b,0,none⟩) (i+1) cap) (i+1) ((zaB vs j x).flatMap zac) [(b,T,(zaB vs j x).flatMap zac++sp)]:=by
 have hl:((zaB vs j x).flatMap zac).length=(i+1)*3:=by rw[zeU (zbG hv hx),zbE,hvl]
 exact⟨hl,.inr ⟨b,cap,sp,rfl,rfl,by rw[List.length_append,hl];omega,h1,h2⟩⟩
theorem znK {H:Hp} {v:Value} {l:List Rat} (h:RL H v l) (hl:l.length≤1000) (hb:∀q,q∈l→rq q):PC prog 227 #[v] H fun r H'=>RL H' r (zdW l):=by
 obtain⟨a,cap,rfl⟩:=RL.val h;refine BD func227 ntmps227 ?_;refine uR ?_;refine EV.loopK (ι:=Nat × List Value × List Rat × Value × Ows) [0] [] (fun q=>[(3,.v q.2.2.2.1),(4,.v (.int .i64 (q.1:Int)))]) (fun _=>[]) (fun q=>q.2.2.2.2) (fun q G=>q.1≤l.length∧RVs G q.2.1 q.2.2.1∧q.2.2.1.Perm (l.take q.1)∧zdc q.2.2.1∧zaJ 35 3 q.2.2.2.1 q.1 (q.2.1.flatMap zac) q.2.2.2.2) (fun q=>l.length-q.1) ((0,[],[],.slice none 0 0,[])) rfl rfl ⟨rfl,rfl,trivial⟩ trivial rfl (fun _=>rfl) (⟨Nat.zero_le _,RVs.nil _,List.Perm.refl _,List.Pairwise.nil,zaJ.nil _ _⟩) ?_;rintro⟨i,vs,acc,w,ow⟩ G1 hG1 ⟨hi,hvs,hperm,hris,hown⟩;dsimp only at hi hvs hperm hris hown;have hal:acc.length=i:=by rw[hperm.length_eq,List.length_take];omega
 have hvl:vs.length=i:=by rw[hvs.1,hal]
 have hthr:=hvs.three;obtain⟨wa,wc,rfl⟩:=hown.val;refine uR ?_;refine EV.cond rfl (fun hlt=>?_) (fun hlt=>?_)
 ·simp only[nN]at hlt;obtain⟨q,hqi⟩:=gE hlt;obtain⟨us,x,hsl,hc,hx⟩:=(h.mono hG1).at hqi;obtain⟨xa,xl,xc,ya,yl,yc,rfl,hx1,hx2⟩:=id hx;have qq:=hb q (qF hqi);have qacc:∀y,y∈acc→rq y:=fun y hy=>hb y (List.mem_of_mem_take (hperm.mem_iff.1 hy));refine uR ?_;refine EVL.idxM tO rfl rfl rfl rfl rfl rfl rfl rfl rfl (hsl) (i) (rfl) (hlt) (hc) ?_;refine uR ?_;refine EVL.app1 tO rfl rfl rfl rfl rfl rfl rfl rfl rfl rfl rfl rfl rfl rfl rfl rfl rfl rfl rfl (fun _=>rfl) (ow) ([]) ((qG _).symm) (hown) oM fun _=>?_;intro v' ow' hown';have e:=zpb vs (.agg #[.bool (decide (q.num<0)),.slice xa xl xc,.slice ya yl yc]);rw[hvl]at e
  have hown2:zaJ 35 3 v' (i+1) ((zaB vs i (.agg #[.bool (decide (q.num<0)),.slice xa xl xc,.slice ya yl yc])).flatMap zac) ow':=by
   rw[e,List.flatMap_append];exact hown'
  clear hown' hown e;generalize hX:Value.agg #[.bool (decide (q.num<0)),.slice xa xl xc,.slice ya yl yc]=x at *
  have hx3:(zac x).length=3:=hX ▸ rfl;rcases hown2 with ⟨hk',⟨_,h0,_⟩ | ⟨b,cap',sp,rfl,rfl,hk,hc1,hc2⟩⟩
  ·omega
  rw[List.length_append]at hk;generalize ((zaB vs i x).flatMap zac).length=k at hk hk'
  have hperm':∀j,(zaB acc j q).Perm (l.take (i+1)):=fun j=>by
   rw[zap hqi];exact(zcg acc j q).trans (hperm.append_right [q])
  subst hX;refine uR ?_;refine EV.loopK (ι:=Nat × Value) [0,3,4] [] (fun p=>[(5,.v (.int .i64 (p.1:Int)))]) (fun _=>[]) (fun p=>[(b,35,(zaB vs p.1 p.2).flatMap zac++sp)]) (fun p _=>p.1≤i∧(zac p.2).length=3∧∀y,y∈acc.drop p.1→q≤y) (fun p=>p.1) ((i,_)) rfl rfl ⟨rfl,trivial⟩ trivial rfl (fun _=>rfl) (⟨qH _,rfl,by rw[←hal,List.drop_length];intro y hy;cases hy⟩) ?_;rintro⟨j,y⟩ G2 hG2 ⟨hj,hy,hgr⟩;dsimp only at hj hy hgr;have hsl2:=hsl.mono hG2
  cases j with
  | zero =>
   refine uR ?_;apply EV.drawn 15 kR kR;intro xv yw;(repeat refine' DD ?_);(refine DJ.nil (fun G3 hG3 hF3=>?_);(case hS|hS2=>rfl));refine uR ?_;have hj':0<(zaB vs (0) y).length:=by rw[zbE];omega
   refine EVL.idxM tO rfl rfl rfl rfl rfl rfl rfl rfl rfl ((hsl2.mono hG3)) (i) (rfl) (hlt) (hc) ?_;refine uR ?_;refine EVL.idxB tO rfl rfl rfl rfl rfl rfl rfl rfl rfl (0) ((0)*3) (rfl) (oM) (rfl) ?_;refine EVL.storeOwn tO rfl rfl rfl rfl rfl rfl ([]) ([]) rfl rfl rfl rfl ((by rw[List.length_append,zeU (zbG hthr hy),zbE,hvl];show (0)*3+3≤_;omega)) ((zcw (zbG hthr hy) sp (.agg #[.bool (decide (q.num<0)),.slice xa xl xc,.slice ya yl yc]) hj')) ?_;rw[zgX (by omega)];refine uR ?_;refine⟨(i+1,zaB vs (0) (.agg #[.bool (decide (q.num<0)),.slice xa xl xc,.slice ya yl yc]),zaB acc (0) q,.slice (some ⟨b,0,none⟩) (i+1) cap',[(b,35,(zaB vs (0) (.agg #[.bool (decide (q.num<0)),.slice xa xl xc,.slice ya yl yc])).flatMap zac++sp)]),⟨rfl,?_,trivial⟩,sB,trivial,trivial,rfl,⟨by dsimp only;omega,(hvs.mono (hG2.trans hG3)).put ((hx.mono hG2).mono hG3) oM,hperm' _,zdv hris (by intro y hy;rw[List.take_zero]at hy;cases hy) hgr,zo6 hthr hvl rfl hk hk' hc1 hc2⟩,hG2.trans hG3,by dsimp only;omega⟩;rw[zab i (by omega)];rfl
  | succ j =>
   obtain⟨r,hrj⟩:∃r,acc[j]?=some r:=⟨_,qA oM⟩;obtain⟨z,hzj,hz⟩:=(hvs.mono hG2).at hrj;obtain⟨za,zl,zc,wa',wl',wc',rfl,hz1,hz2⟩:=id hz;have qr:=qacc r (qF hrj);have hcmp:=fun G (hG:G2.Le G)=>zbw (hz.mono hG) ((hx.mono hG2).mono hG) qr qq
   have hgt:zct r q>0→q≤r:=fun h=>by
    unfold zct at h;split at h
    ·omega
    ·split at h
     ·exact Rat.le_of_lt (by assumption)
     ·omega
   have hle:¬zct r q>0→r≤q:=fun h=>by
    unfold zct at h;split at h
    ·exact Rat.le_of_lt (by assumption)
    ·split at h
     ·omega
     ·rename_i k1 k2;exact Rat.not_lt.1 k2
   generalize zct r q=o at *
   refine uR ?_;apply EV.drawn 15 kR kR;intro xv yw;(repeat refine' DD ?_);rw[qD (show ((j+1:Nat):Int)>0 by omega)];(repeat refine' DD ?_);refine' DJ.idxB tO rfl rfl rfl rfl rfl rfl rfl rfl rfl (j) (j*3) ((by rw[IntKind.wrap_i64];omega)) (oM) (rfl) ?_;rotate_left;refine' DJ.ofVal (zaa.loadOwn tO rfl rfl rfl rfl (0) rfl (zfz (zbG hthr hy) sp (zfE hzj)) rfl rfl) rfl rfl rfl ?_;rotate_left;(repeat refine' DD ?_);refine' DJ.idxM tO rfl rfl rfl rfl rfl rfl rfl rfl rfl (hsl2) (i) (rfl) (hlt) (hc) ?_;rotate_left;(repeat refine' DD ?_);refine' vC (cO func102) (fun G hG hd=>hcmp G hG) ?_;rotate_left;(repeat refine' DD ?_);(refine DJ.nil (fun G3 hG3 hF3=>?_);(case hS|hS2=>rfl));refine uR ?_;by_cases ho:o>0
   ·rw[qD ho];refine uR ?_;refine EVL.idxB tO rfl rfl rfl rfl rfl rfl rfl rfl rfl (j) (j*3) ((by rw[IntKind.wrap_i64];omega)) (oM) (rfl) ?_;refine EVL.loadOwn tO rfl rfl rfl rfl rfl rfl (0) rfl (zfz (zbG hthr hy) sp (zfE hzj)) rfl rfl ?_;refine uR ?_;refine EVL.idxB tO rfl rfl rfl rfl rfl rfl rfl rfl rfl (j+1) ((j+1)*3) (rfl) (oM) (rfl) ?_;refine EVL.storeOwn tO rfl rfl rfl rfl rfl rfl ([]) ([]) rfl rfl rfl rfl ((by rw[List.length_append,zeU (zbG hthr hy),zbE,hvl];show (j+1)*3+3≤_;omega)) ((zcw (zbG hthr hy) sp (.agg #[.bool (decide (r.num<0)),.slice za zl zc,.slice wa' wl' wc']) (by rw[zbE];omega))) ?_;rw[znt hzj];refine uR ?_;refine⟨(j,.agg #[.bool (decide (r.num<0)),.slice za zl zc,.slice wa' wl' wc']),⟨?_,trivial⟩,sB,trivial,trivial,rfl,⟨by dsimp only;omega,rfl,?_⟩,hG3,by dsimp only;omega⟩
    ·rw[show IntKind.i64.wrap (((j+1:Nat):Int)-1)=(j:Int) by rw[IntKind.wrap_i64];omega];rfl
    ·intro z' hz';dsimp only at hz';rw[zsb hrj]at hz';rcases List.mem_cons.1 hz' with rfl | hz'
     ·exact hgt ho
     ·exact hgr z' hz'
   ·rw[qC ho];refine uR ?_;have hj':j+1<(zaB vs (j+1) y).length:=by rw[zbE];omega
    refine EVL.idxM tO rfl rfl rfl rfl rfl rfl rfl rfl rfl ((hsl2.mono hG3)) (i) (rfl) (hlt) (hc) ?_;refine uR ?_;refine EVL.idxB tO rfl rfl rfl rfl rfl rfl rfl rfl rfl (j+1) ((j+1)*3) (rfl) (oM) (rfl) ?_;refine EVL.storeOwn tO rfl rfl rfl rfl rfl rfl ([]) ([]) rfl rfl rfl rfl ((by rw[List.length_append,zeU (zbG hthr hy),zbE,hvl];show (j+1)*3+3≤_;omega)) ((zcw (zbG hthr hy) sp (.agg #[.bool (decide (q.num<0)),.slice xa xl xc,.slice ya yl yc]) hj')) ?_;rw[zgX (by omega)];refine uR ?_;refine⟨(i+1,zaB vs (j+1) (.agg #[.bool (decide (q.num<0)),.slice xa xl xc,.slice ya yl yc]),zaB acc (j+1) q,.slice (some ⟨b,0,none⟩) (i+1) cap',[(b,35,(zaB vs (j+1) (.agg #[.bool (decide (q.num<0)),.slice xa xl xc,.slice ya yl yc])).flatMap zac++sp)]),⟨rfl,?_,trivial⟩,sB,trivial,trivial,rfl,⟨by dsimp only;omega,(hvs.mono (hG2.trans hG3)).put ((hx.mono hG2).mono hG3) oM,hperm' _,zdv hris (zg9 hris hrj (hle ho)) hgr,zo6 hthr hvl rfl hk hk' hc1 hc2⟩,hG2.trans hG3,by dsimp only;omega⟩;rw[zab i (by omega)];rfl
 ·simp only[nN]at hlt;obtain rfl:i=l.length:=by omega
  rw[List.take_length]at hperm;(first|refine EVL.publishL [] ow [] ((qG _).symm) hown fun G2 hG2 hs=>?_|refine EV.publishL [] ow [] ((qG _).symm) hown fun G2 hG2 hs=>?_);refine uR ?_;rw[←zku hperm hris];exact(hvs.mono hG2).rl (by rw[hal];exact hs)
theorem zr1 {vals:List Rat} {rs:List Int} {i:Nat} {R:Nat} {x:Rat} (hri:rs[i]?=some (R:Int)) (hx:vals[R]?=some x):atR vals (exL (rs.take (i+1)) vals.length)=atR vals (exL (rs.take i) vals.length)++[x]:=by
 obtain⟨hl,_⟩:=qE.1 hx;have hex:=ze6 (n:=vals.length) hri;have hp:inR vals.length (R:Int)=true:=by unfold inR;simp;omega
 rw[hp,if_pos rfl]at hex;rw[hex];unfold atR;rw[List.map_append,List.map_cons,Int.toNat_natCast,qB,hx];rfl
theorem zfI {H:Hp} {v:Value} {rs:List Int} (hr:IL H v rs) (hn:rs.length≤300) {kd cl:Int} {sl sv:Value} {qs:List Rat} (hv:RL H sv qs) :
  PC prog 220 #[zai kd cl sl sv,v] H fun r H'=>RL H' r (atR qs (exL rs qs.length)):=by
 obtain⟨a,cap,rfl⟩:=SlC.val hr;obtain⟨va,vc,rfl⟩:=hv.val;refine BD func220 ntmps220 ?_;refine uR ?_;refine EV.loopK (ι:=Nat × List Value × Value × Ows) [1,2] [2] (fun q=>[(5,.v q.2.2.1),(6,.v (.int .i64 (q.1:Int)))]) (fun _=>[]) (fun q=>q.2.2.2) (fun q G=>q.1≤rs.length∧RVs G q.2.1 (atR qs (exL (rs.take q.1) qs.length))∧zaJ 35 3 q.2.2.1 q.2.1.length (q.2.1.flatMap zac) q.2.2.2) (fun q=>rs.length-q.1) ((0,[],.slice none 0 0,[])) rfl rfl ⟨rfl,rfl,trivial⟩ trivial rfl (fun _=>rfl) (⟨Nat.zero_le _,RVs.nil _,zaJ.nil _ _⟩) ?_;rintro⟨i,us,w,ow⟩ G2 hG2 ⟨hi,hus,hown⟩;dsimp only at hi hus hown;obtain⟨wa,wc,rfl⟩:=hown.val;refine uR ?_;refine EV.cond rfl (fun hlt=>?_) (fun hlt=>?_)
 ·simp only[nN]at hlt;obtain⟨r,hri⟩:=gE hlt;have hex:=ze6 (n:=qs.length) hri;have hel:=zbg (rs.take i) qs.length;rw[List.length_take]at hel;have hul:us.length≤i:=by rw[hus.1,zbI];omega
  have wn:IntKind.i64.wrap ((i:Int)+1)=((i+1:Nat):Int):=zab i oM;have hr2:=hr.mono hG2;refine uR ?_;by_cases h1:r≥0
  ·obtain⟨R,rfl⟩:=Int.eq_ofNat_of_zero_le h1;apply EV.drawn 14 kR kR;intro xv yw;(repeat refine' DD ?_);refine' vJ (hr2) (i) (rfl) (hlt) ((by rw[List.getElem?_map,hri];rfl)) ?_;rotate_left;(repeat refine' DD ?_);rw[qD h1];(repeat refine' DD ?_);refine' vJ (hr2) (i) (rfl) (hlt) ((by rw[List.getElem?_map,hri];rfl)) ?_;rotate_left;(repeat refine' DD ?_);(refine DJ.nil (fun G3 hG3 hF3=>?_);(case hS|hS2=>rfl));refine uR ?_;by_cases h2:(R:Int)<(qs.length:Int)
   ·have hRl:R<qs.length:=by omega
    obtain⟨x,hx⟩:=gE hRl;have hsn:=zr1 hri hx;have hr3:=hr2.mono hG3;obtain⟨vs,y,hs,hc,hy⟩:=(hv.mono (hG2.trans hG3)).at hx;obtain⟨xa,xl,xc,ya,yl,yc,rfl,hx1,hx2⟩:=id hy;rw[qD h2];refine uR ?_;apply EV.drawn 10 kR kR;intro xv yw;(repeat refine' DD ?_);refine' vJ (hr3) (i) (rfl) (hlt) ((by rw[List.getElem?_map,hri];rfl)) ?_;rotate_left;(repeat refine' DD ?_);refine' DJ.idxM tO rfl rfl rfl rfl rfl rfl rfl rfl rfl (hs) (R) (rfl) (hRl) (hc) ?_;rotate_left;(repeat refine' DD ?_);(refine' DJ.lit tO rfl rfl rfl rfl rfl rfl rfl rfl rfl rfl rfl rfl ?_;rotate_left);(refine DJ.nil (fun G4 hG4 hF4=>?_);(case hS|hS2=>rfl));refine EVL.append tO rfl rfl rfl rfl rfl rfl rfl rfl rfl rfl rfl rfl [] ow [] (qG _).symm hown (zcQ.ro hF4.1 oM) rfl oM ?_;intro v' ow' hown';refine uR ?_;refine⟨(i+1,us++[_],v',ow'),⟨rfl,by rw[wn];rfl,trivial⟩,sB,trivial,sB,qG _,⟨hlt,by dsimp only;rw[hsn];exact(hus.mono (hG3.trans hG4)).snoc (hy.mono hG4),by dsimp only;rw[List.length_append,List.flatMap_append];exact hown'⟩,hG3.trans hG4,by dsimp only;omega⟩
   ·have hp:inR qs.length (R:Int)=false:=by unfold inR;simp;omega
    rw[hp,if_neg (by decide),qG]at hex;rw[qC h2];refine uR ?_;refine⟨(i+1,us,_,ow),⟨rfl,by rw[wn];rfl,trivial⟩,sB,trivial,sB,rfl,⟨hlt,by dsimp only;rw[hex];exact hus.mono hG3,hown⟩,hG3,by dsimp only;omega⟩
  ·have hp:inR qs.length r=false:=by unfold inR;simp;omega
   rw[hp,if_neg (by decide),qG]at hex;apply EV.drawn 14 kR kR;intro xv yw;(repeat refine' DD ?_);refine' vJ (hr2) (i) (rfl) (hlt) ((by rw[List.getElem?_map,hri];rfl)) ?_;rotate_left;(repeat refine' DD ?_);rw[qC h1];(repeat refine' DD ?_);(refine DJ.nil (fun G3 hG3 hF3=>?_);(case hS|hS2=>rfl));refine uR ?_;refine⟨(i+1,us,_,ow),⟨rfl,by rw[wn];rfl,trivial⟩,sB,trivial,sB,rfl,⟨hlt,by dsimp only;rw[hex];exact hus.mono hG3,hown⟩,hG3,by dsimp only;omega⟩
 ·simp only[nN]at hlt;obtain rfl:i=rs.length:=by omega
  rw[List.take_length]at hus;(first|refine EVL.publishL [] ow [] ((qG _).symm) hown fun G3 hG3 hs3=>?_|refine EV.publishL [] ow [] ((qG _).symm) hown fun G3 hG3 hs3=>?_);have hus3:=hus.mono hG3;refine uR ?_;show RL G3 (.slice wa us.length wc) _;rw[hus3.1]at hs3 ⊢;exact hus3.rl hs3
theorem zg2 {H:Hp} {v:Value} {rs:List Int} (hr:IL H v rs) (hn:rs.length≤300) {kd cl:Int} {sl sv:Value} {qs:List Rat} (hv:RL H sv qs) (hb:∀q,q∈qs→ht q≤50) :
  PC prog 179 #[zai kd cl sl sv,v] H fun r H'=>RQ H' r (zdq (atR qs (exL rs qs.length))):=by
 have hvals:=zfI (kd:=kd) (cl:=cl) (sl:=sl) hr hn hv;have hel:=zbg rs qs.length;have hlb:=fun q hq=>hb q (zd6 (zcC (rs:=rs) (n:=qs.length)) q hq);have hll:(atR qs (exL rs qs.length)).length≤300:=by rw[zbI];omega
 generalize atR qs (exL rs qs.length)=L at *
 obtain⟨a,cap,rfl⟩:=SlC.val hr;obtain⟨va,vc,rfl⟩:=hv.val;refine BD func179 ntmps179 ?_;refine uR ?_;refine vA (hvals) ?_;intro r1 G1 hL hG1;obtain⟨la,lc,rfl⟩:=hL.val;refine uR ?_;by_cases h0:L.length=0
 ·obtain rfl:=List.length_eq_zero_iff.1 h0;refine uR ?_;refine vA (za5 0 (by decide) (by decide)) ?_;intro r2 G2 hq hG2;obtain⟨xa,xl,xc,ya,yl,yc,rfl,hx1,hx2⟩:=id hq;refine uR ?_;rw[zeG];exact hq
 ·rw[show (((L.length:Nat):Int) == 0)=false from beq_eq_false_iff_ne.2 (by omega)];refine uR ?_;refine EVL.call rfl rfl rfl rfl rfl (znF hL oM h0 (fun q hq=>qI (hlb q hq) oM)) ?_;intro r2 G2 hq hG2;obtain⟨xa,xl,xc,ya,yl,yc,rfl,hx1,hx2⟩:=id hq;refine uR ?_;exact hq
theorem zpo {l:List Int} (n:Nat):∀q,q∈zkP l n→ht q≤5:=fun q hq=>by
 obtain⟨i,hi,rfl⟩:=List.mem_map.1 hq;split
 ·exact zle _
 ·rw[zcE];omega
theorem zq6 {l:List Int} {n w:Nat}:∀x,x∈zha l n w→x.length=w∧∀q,q∈x→ht q≤5:=fun x hx=>by
 obtain⟨i,_,rfl⟩:=List.mem_map.1 hx;exact⟨zf5 _ _,zpo w⟩
theorem zk3 {X:List (List Rat)} (h:∀x,x∈X→∀q,q∈x→ht q≤5) (c r:Int):ht (zbB X c r)≤5:=by
 unfold zbB;rw[qB,qB]
 cases e:X[r.toNat]? with
 | none=>simp;rw[zcE];omega
 | some x =>
  rw[Option.getD_some]
  cases e2:x[c.toNat]? with
  | none=>rw[Option.getD_none,zcE];omega
  | some q=>exact h x (qF e) q (qF e2)
theorem zsx {X:List (List Rat)} (h:∀x,x∈X→∀q,q∈x→ht q≤5) (c:Int) (m:List Int) (j:Nat):ht (zeX (zbB X c) m j)≤100:=by
 have h1:=zk3 h c (m.getD j 0);have h2:=zk3 h c (m.getD (j+1) 0);have h3:=zd0 (zbB X c (m.getD j 0)) (zbB X c (m.getD (j+1) 0))
 have h4:ht ((2:Int):Rat)≤10:=by
  have:=zbz 2;have h2:bl (2:Int).natAbs≤5:=za3 (by decide);omega
 have h5:=zfA (zbB X c (m.getD j 0)+zbB X c (m.getD (j+1) 0)) ((2:Int):Rat);rw[show ((2:Int):Rat)=2 from rfl]at h4 h5;unfold zeX;omega
theorem zsa (L:List Rat):zaN (zhw L L)=zaN (zez 0 L):=by
 congr 1;unfold zhw zez
 induction L with
 | nil=>rfl
 | cons x L ih =>
  rw[List.zipWith_cons_cons,List.map_cons,ih];congr 1;grind
theorem zmX (L:List Rat):zaN (zhw L L)-zaN L*zaN L / ((L.length:Int):Rat)=zaN (zez (zdq L) L):=by
 have:=zul L;rw[zsa];grind
theorem zls {H:Hp} {v:Value} {rs:List Int} (hr:IL H v rs) (hn:rs.length≤300) {cl:Int} {sl sv:Value} {qs:List Rat} (hv:RL H sv qs) (hb:∀q,q∈qs→ht q≤5) :
  PC prog 177 #[zai 2 cl sl sv,v] H fun r H'=>RQ H' r (zhM qs (exL rs qs.length)):=by
 have hvals:=zfI (kd:=2) (cl:=cl) (sl:=sl) hr hn hv;have hel:=zbg rs qs.length;have hlb:=fun q hq=>hb q (zd6 (zcC (rs:=rs) (n:=qs.length)) q hq);have hll:(atR qs (exL rs qs.length)).length≤300:=by rw[zbI];omega
 show PC prog 177 #[zai 2 cl sl sv,v] H fun r H'=>RQ H' r (zaN (zez (zdq (atR qs (exL rs qs.length))) (atR qs (exL rs qs.length))));generalize atR qs (exL rs qs.length)=L at *
 have hform:=zmX L;have hS:=zdp 5 L hlb;have hD:=zdp 10 (zhw L L) (zla hlb hlb);have hDl:(zhw L L).length≤300:=by unfold zhw;rw[List.length_zipWith];omega
 have hM:=zfB (zaN L) (zaN L);have hN:=zbz (L.length:Int);have hN2:bl (L.length:Int).natAbs≤20:=za3 oM;have hV:=zfA (zaN L*zaN L) ((L.length:Int):Rat);have r1:rq (zaN L):=by unfold rq;omega
 have r2:rq (zaN L*zaN L):=by unfold rq;omega
 have r3:rq ((L.length:Int):Rat):=by unfold rq;omega
 have r4:rq (zaN L*zaN L / ((L.length:Int):Rat)):=by unfold rq;omega
 have r5:rq (zaN (zhw L L)):=by unfold rq;omega
 rw[←hform];obtain⟨a,cap,rfl⟩:=SlC.val hr;obtain⟨va,vc,rfl⟩:=hv.val;refine BD func177 ntmps177 ?_;refine uR ?_;refine vA (hvals) ?_;intro r1' G1 hL hG1;obtain⟨la,lc,rfl⟩:=hL.val;refine uR ?_;by_cases h0:L.length=0
 ·obtain rfl:=List.length_eq_zero_iff.1 h0;refine uR ?_;refine vA (za5 0 (by decide) (by decide)) ?_;intro r2 G2 hq hG2;obtain⟨xa,xl,xc,ya,yl,yc,rfl,hx1,hx2⟩:=id hq;refine uR ?_;have e:zaN (zhw [] [])-zaN []*zaN [] / ((([]:List Rat).length:Int):Rat)=((0:Int):Rat):=by decide +kernel
  rw[e];exact hq
 ·have hnum:(((L.length:Nat):Int):Rat).num≠0:=by rw[Rat.num_intCast];omega
  rw[show (((L.length:Nat):Int) == 0)=false from beq_eq_false_iff_ne.2 (by omega)];refine uR ?_;refine EVL.call rfl rfl rfl rfl rfl (zg6 hL oM (fun q hq=>qI (hlb q hq) oM)) ?_;intro rt G2 hT hG2;obtain⟨xa,xl,xc,ya,yl,yc,rfl,hx1,hx2⟩:=id hT;have hL2:=hL.mono hG2;refine uR ?_;apply EV.drawn 11 kR kR;intro xv yw;(repeat refine' DD ?_);refine' vB (cO func222) (fun G hG hd=>zpf (hL2.mono hG) (hL2.mono hG) rfl oM (fun q hq=>qI (hlb q hq) oM) (fun q hq=>qI (hlb q hq) oM)) (fun _ _ _ h k=>RQ.mono h k) ?_;rotate_left;(repeat refine' DD ?_);refine' vB (cO func224) (fun G hG hd=>zia (hT.mono hG) (hT.mono hG) r1 r1) (fun _ _ _ h k=>RQ.mono h k) ?_;rotate_left;(repeat refine' DD ?_);refine' vB (cO func67) (fun G hG hd=>za5 (L.length:Int) oM oM) (fun _ _ _ h k=>RQ.mono h k) ?_;rotate_left;refine' vB (cO func223) (fun G hG hd=>zfg (hd.tail.head kR) (hd.head kR) r2 r3 hnum) (fun _ _ _ h k=>RQ.mono h k) ?_;rotate_left;refine' vB (cO func182) (fun G hG hd=>zg5 (hd.tail.tail.tail.head kR) (hd.head kR) r5 r4) (fun _ _ _ h k=>RQ.mono h k) ?_;rotate_left;(refine DJ.nil (fun G3 hG3 hF3=>?_);(case hS|hS2=>rfl));have hfin:=hF3.1;obtain⟨xa,xl,xc,ya,yl,yc,e,hx1,hx2⟩:=id hfin;rw[e]at hfin ⊢;refine uR ?_;exact hfin
theorem zi9 (C:Nat):∀l:List Int,(∀z,z∈l→0≤z∧z<(C:Int))→sqL l=((List.range C).map fun (k:Nat)=>l.count (k:Int)*l.count (k:Int)).sum∧l.length=((List.range C).map fun (k:Nat)=>l.count (k:Int)).sum
 | [],_=>by
  constructor
  ·show 0=_
   induction C with
   | zero=>rfl
   | succ n ih=>rw[List.range_succ,List.map_append,List.sum_append,←ih (by simp)];simp
  ·show 0=_
   induction C with
   | zero=>rfl
   | succ n ih=>rw[List.range_succ,List.map_append,List.sum_append,←ih (by simp)];simp
 | x::l,h=>by
  have hx:=h x (List.mem_cons_self ..);obtain⟨j,rfl⟩:=Int.eq_ofNat_of_zero_le hx.1;obtain⟨ih1,ih2⟩:=zi9 C l (fun z hz=>h z (List.mem_cons_of_mem _ hz));constructor
  ·have hs:=zja (fun k=>l.count (k:Int)*l.count (k:Int)) (fun k=>2*l.count (k:Int)+1) j C;rw[if_pos (by omega)]at hs;rw[zi7,ih1,Nat.add_assoc,←hs];congr 1;refine List.map_congr_left fun k _=>?_;rw[List.count_cons];by_cases e:k=j
   ·subst e;rw[if_pos rfl];simp;grind
   ·have e2:¬((j:Int) == (k:Int))=true:=by simp;omega
    rw[if_neg e,if_neg e2];simp
  ·have hs:=zja (fun k=>l.count (k:Int)) (fun k=>1) j C;rw[if_pos (by omega)]at hs;rw[List.length_cons,ih2,←hs];congr 1;refine List.map_congr_left fun k _=>?_;rw[List.count_cons];by_cases e:k=j
   ·subst e;rw[if_pos rfl];simp
   ·have e2:¬((j:Int) == (k:Int))=true:=by simp;omega
    rw[if_neg e,if_neg e2]
def nS (l:List Int) (i:Nat):Nat:=((List.range i).map fun (k:Nat)=>l.count (k:Int)).sum
def sS (l:List Int) (i:Nat):Nat:=((List.range i).map fun (k:Nat)=>l.count (k:Int)*l.count (k:Int)).sum
theorem zoU (l:List Int) (i:Nat):nS l (i+1)=nS l i+l.count (i:Int):=by unfold nS;rw[List.range_succ,List.map_append,List.sum_append];simp
theorem zpy (l:List Int) (i:Nat):sS l (i+1)=sS l i+l.count (i:Int)*l.count (i:Int):=by unfold sS;rw[List.range_succ,List.map_append,List.sum_append];simp
theorem ztA (l:List Int) (B:Nat) (h:∀z:Int,l.count z≤B):∀i,nS l i≤i*B∧sS l i≤i*(B*B)
 | 0=>⟨Nat.le_of_eq (by simp[nS]),Nat.le_of_eq (by simp[sS])⟩
 | i+1=>by
  obtain⟨h1,h2⟩:=ztA l B h i;rw[zoU,zpy,Nat.succ_mul,Nat.succ_mul];exact⟨Nat.add_le_add h1 (h _),Nat.add_le_add h2 (Nat.mul_le_mul (h _) (h _))⟩
theorem zlr {H:Hp} {v:Value} {rs:List Int} (hr:IL H v rs) (hn:rs.length≤300) {sv:Value} {la:Option Addr} {lc:Nat} {ls:List Int} (hv:IL H (.slice la ls.length lc) ls) {C:Nat} (hc:C≤12) (hc1:1≤C) (hls:∀z,z∈ls→0≤z∧z<(C:Int)) :
  PC prog 177 #[zai 1 C (.slice la ls.length lc) sv,v] H fun r H'=>RQ H' r (zgw ls (exL rs ls.length)):=by
 have hcnt:=zfF (kd:=1) (sv:=sv) hr hn hv hc hls;have hel:=zbg rs ls.length;have hll:(atI ls (exL rs ls.length)).length≤300:=by rw[zb0];omega
 have hlb:∀z,z∈atI ls (exL rs ls.length)→0≤z∧z<(C:Int):=fun z hz=>by
  unfold atI at hz;obtain⟨r,_,rfl⟩:=List.mem_map.1 hz;rw[qB]
  cases e:ls[r.toNat]? with
  | none=>exact⟨by decide,by simp;omega⟩
  | some x=>exact hls x (qF e)
 show PC prog 177 #[zai 1 C (.slice la ls.length lc) sv,v] H fun r H'=>RQ H' r (zfQ (atI ls (exL rs ls.length)));generalize atI ls (exL rs ls.length)=L at *
 obtain⟨e1,e2⟩:=zi9 C L hlb;have hcl:=zbk C L;have hb:=ztA L 300 (fun z=>qI List.count_le_length hll);have hcount:∀z:Int,L.count z≤300:=fun z=>qI List.count_le_length hll;have e1':sqL L=sS L C:=e1;have e2':L.length=nS L C:=e2;obtain⟨a,cap,rfl⟩:=SlC.val hr;refine BD func177 ntmps177 ?_;refine uR ?_;refine vA (hcnt) ?_;intro r1 G1 hL hG1;obtain⟨ca,cc,rfl⟩:=SlC.val hL
 have hLC:SlC G1 (.slice ca C cc) C 1 ((zdg C L).map iv):=by
  have hL0:SlC G1 (.slice ca (zdg C L).length cc) (zdg C L).length 1 ((zdg C L).map iv):=hL;rw[hcl]at hL0;exact hL0
 rw[hcl];refine uR ?_;refine EV.loopK (ι:=Nat) [4,7] [4] (fun i=>[(8,.v (.int .i64 (nS L i:Nat))),(9,.v (.int .i64 (sS L i:Nat))),(10,.v (.int .i64 (i:Int)))]) (fun _=>[]) (fun _=>[]) (fun i _=>i≤C) (fun i=>C-i) (0) rfl rfl ⟨rfl,rfl,rfl,trivial⟩ trivial rfl (fun _=>rfl) (Nat.zero_le _) ?_;rintro i G2 hG2 hi;refine uR ?_;refine EV.cond rfl (fun hlt=>?_) (fun hlt=>?_)
 ·simp only[nN]at hlt;have hL2:=hLC.mono hG2;have hget:=ze3 L hlt;have hil:i<C:=hlt;have b1:=hb i;have b2:=hcount (i:Int);have b3:i*300≤12*300:=Nat.mul_le_mul oM (qH _);have b4:i*(300*300)≤12*(300*300):=Nat.mul_le_mul oM (qH _);have b5:L.count (i:Int)*L.count (i:Int)≤300*300:=Nat.mul_le_mul b2 b2;have s1:=zoU L i;have s2:=zpy L i;have w1:IntKind.i64.wrap ((nS L i:Int)+(L.count (i:Int):Int))=(nS L (i+1):Int):=by rw[s1,IntKind.wrap_i64];omega
  have w2:IntKind.i64.wrap ((L.count (i:Int):Int)*(L.count (i:Int):Int))=((L.count (i:Int)*L.count (i:Int):Nat):Int):=by
   rw[←Int.natCast_mul];generalize L.count (i:Int)*L.count (i:Int)=z at *;rw[IntKind.wrap_i64];omega
  have w3:IntKind.i64.wrap ((sS L i:Int)+((L.count (i:Int)*L.count (i:Int):Nat):Int))=(sS L (i+1):Int):=by rw[s2];generalize L.count (i:Int)*L.count (i:Int)=z at *;rw[IntKind.wrap_i64];omega
  have wn:IntKind.i64.wrap ((i:Int)+1)=((i+1:Nat):Int):=zab i oM;refine uR ?_;refine vI (hL2) (i) (rfl) (hil) ((by rw[List.getElem?_map,hget];rfl)) ?_;refine uR ?_;apply EV.drawn 11 kR kR;intro xv yw;(repeat refine' DD ?_);refine' vJ (hL2) (i) (rfl) (hil) ((by rw[List.getElem?_map,hget];rfl)) ?_;rotate_left;(repeat refine' DD ?_);refine' vJ (hL2) (i) (rfl) (hil) ((by rw[List.getElem?_map,hget];rfl)) ?_;rotate_left;(repeat refine' DD ?_);(refine DJ.nil (fun G3 hG3 hF3=>?_);(case hS|hS2=>rfl));refine uR ?_;refine⟨i+1,⟨by rw[←w1];rfl,by rw[←w3,←w2];rfl,by rw[wn];rfl,trivial⟩,sB,trivial,sB,rfl,hlt,hG3,by omega⟩
 ·simp only[nN]at hlt;obtain rfl:i=C:=by omega
  rw[←e1',←e2'];have hsq:=zii L;have hsq2:L.length*L.length≤300*300:=Nat.mul_le_mul hll hll;refine uR ?_;by_cases h0:L.length=0
  ·obtain rfl:=List.length_eq_zero_iff.1 h0;refine uR ?_;refine vA (za5 0 (by decide) (by decide)) ?_;intro r2 G3 hq hG3;obtain⟨xa,xl,xc,ya,yl,yc,rfl,hx1,hx2⟩:=id hq;refine uR ?_;rw[show zfQ []=((0:Int):Rat) by decide +kernel];exact hq
  ·rw[show (((L.length:Nat):Int) == 0)=false from beq_eq_false_iff_ne.2 (by omega)];have hov:=fun G:Hp=>zic (H:=G) (sqL L:Int) (L.length:Int) oM oM oM oM oM;have hform:((L.length:Int):Rat)-Rat.divInt (sqL L:Int) (L.length:Int)=zfQ L:=by unfold zfQ;rw[Rat.divInt_eq_div]
   have r1:rq ((L.length:Int):Rat):=by
    have:=zbz (L.length:Int);have h2:bl (L.length:Int).natAbs≤20:=za3 oM;unfold rq;omega
   have r2:rq (Rat.divInt (sqL L:Int) (L.length:Int)):=by
    rw[Rat.divInt_eq_div];have h1:=zbz (L.length:Int);have h2:bl (L.length:Int).natAbs≤20:=za3 oM;have h3:=zbz (sqL L:Int);have h4:bl (sqL L:Int).natAbs≤20:=za3 oM;have h5:=zfA ((sqL L:Int):Rat) ((L.length:Int):Rat);unfold rq;omega
   refine uR ?_;refine EVL.call rfl rfl rfl rfl rfl (za5 (L.length:Int) oM oM) ?_;intro q1 G3 hq1 hG3;refine uR ?_;refine vA (hov _) ?_;intro q2 G4 hq2 hG4;refine uR ?_;refine vA (zg5 (hq1.mono hG4) hq2 r1 r2) ?_;intro q3 G5 hq3 hG5;obtain⟨xa,xl,xc,ya,yl,yc,rfl,hx1,hx2⟩:=id hq3;refine uR ?_;rw[←hform];exact hq3
theorem zmB {H:Hp} {vx:Value} {X:List (List Rat)} (hX:RLL H vx X) (r col:Int):PC prog 184 #[vx,.int .i64 r,.int .i64 col] H fun u _=>u=.bool (inR X.length r && zcD X col r):=by
 obtain⟨xa,xc,rfl⟩:=hX.val;obtain⟨vs,hvs,hs⟩:=hX;refine BD func184 ntmps184 ?_;refine uR ?_;by_cases h1:r≥0
 ·obtain⟨R,rfl⟩:=Int.eq_ofNat_of_zero_le h1;rw[qD h1];refine uR ?_;by_cases h2:(R:Int)<(X.length:Int)
  ·rw[qD h2];have hi:inR X.length (R:Int)=true:=by unfold inR;simp;omega
   obtain⟨x,hx⟩:∃x,X[R]?=some x:=⟨_,qA oM⟩;obtain⟨a1,e1,hu1,_⟩:=hvs.at hx;have hRl:R<X.length:=by omega
   have hhas:zcD X col (R:Int)=(decide (0≤col) && decide (col<(x.length:Int))):=by
    unfold zcD;rw[Int.toNat_natCast,qB,hx];rfl
   rw[hi,hhas];refine uR ?_;by_cases h3:col≥0
   ·rw[qD h3];refine uR ?_;refine vI (hs) (R) (rfl) (hRl) (hu1) ?_;refine uR ?_;rfl
   ·rw[qC h3];refine uR ?_;rfl
  ·rw[qC h2];have hi:inR X.length (R:Int)=false:=by unfold inR;simp;omega
   rw[hi];refine uR ?_;rfl
 ·rw[qC h1];have hi:inR X.length r=false:=by unfold inR;simp;omega
  rw[hi];refine uR ?_;rfl
theorem zl6 {X:List (List Rat)} {col:Int} {t:Rat} {rs:List Int} {i:Nat} {r:Int} (hri:rs[i]?=some r) (p:Int→Bool) :
  (exL (rs.take (i+1)) X.length).filter p=(exL (rs.take i) X.length).filter p++if inR X.length r && p r then [r] else []:=by
 rw[ze6 hri,List.filter_append];cases inR X.length r <;> cases hp:p r <;> simp[hp]
theorem zg4 {H:Hp} {vx vr vt:Value} {X:List (List Rat)} {rs:List Int} {col:Int} {t:Rat} (hX:RLL H vx X) (hr:IL H vr rs) (hn:rs.length≤100000) (hq:∀x,x∈X→∀q,q∈x→rq q) (hvt:RQ H vt t) (ht:rq t) :
  PC prog 136 #[vx,vr,.int .i64 col,vt] H fun r H'=>∃u w,r=.tuple #[u,w]∧IL H' u (zbd X col t (exL rs X.length))∧IL H' w (zaz X col t (exL rs X.length)):=by
 obtain⟨a,cap,rfl⟩:=SlC.val hr;obtain⟨xa,xc,rfl⟩:=hX.val;obtain⟨ta,tl,tc,tb,tm,td,rfl,ht1,ht2⟩:=id hvt;refine BD func136 ntmps136 ?_;refine uR ?_;refine EV.loopK (ι:=Nat × Value × Value × Ows × Ows) [0,1,2,7] [7] (fun q=>[(10,.v q.2.1),(11,.v q.2.2.1),(12,.v (.int .i64 (q.1:Int)))]) (fun _=>[]) (fun q=>q.2.2.2.1++q.2.2.2.2) (fun q _=>q.1≤rs.length∧zaJ 3 1 q.2.1 (zbd X col t (exL (rs.take q.1) X.length)).length ((zbd X col t (exL (rs.take q.1) X.length)).map iv) q.2.2.2.1∧zaJ 3 1 q.2.2.1 (zaz X col t (exL (rs.take q.1) X.length)).length ((zaz X col t (exL (rs.take q.1) X.length)).map iv) q.2.2.2.2) (fun q=>rs.length-q.1) ((0,.slice none 0 0,.slice none 0 0,[],[])) rfl rfl ⟨rfl,rfl,rfl,trivial⟩ trivial rfl (fun _=>rfl) (⟨Nat.zero_le _,zaJ.nil _ _,zaJ.nil _ _⟩) ?_;rintro⟨i,w1,w2,ow1,ow2⟩ G1 hG1 ⟨hi,hown1,hown2⟩;dsimp only at hi hown1 hown2;obtain⟨wa1,wc1,rfl⟩:=hown1.val;obtain⟨wa2,wc2,rfl⟩:=hown2.val;refine uR ?_;refine EV.cond rfl (fun hlt=>?_) (fun hlt=>?_)
 ·simp only[nN]at hlt;obtain⟨r,hri⟩:=gE hlt;have hlo:=zl6 (X:=X) (col:=col) (t:=t) hri fun r=>zcD X col r && decide (zbB X col r≤t);have hhi:=zl6 (X:=X) (col:=col) (t:=t) hri fun r=>zcD X col r && !decide (zbB X col r≤t);have hel:=zbg (rs.take i) X.length;rw[List.length_take]at hel;have hl1:(zbd X col t (exL (rs.take i) X.length)).length≤i:=qI (List.length_filter_le _ _) oM;have hl2:(zaz X col t (exL (rs.take i) X.length)).length≤i:=qI (List.length_filter_le _ _) oM;have wn:IntKind.i64.wrap ((i:Int)+1)=((i+1:Nat):Int):=zab i oM;have hr1:=hr.mono hG1;have hX1:=hX.mono hG1;have hth:=zmB hX1 r col;refine uR ?_;refine vI (hr1) (i) (rfl) (hlt) ((by rw[List.getElem?_map,hri];rfl)) ?_
  repeat (first|refine RUN ?_|refine CV (hth) ?_|refine CE (hth) ?_)
  cases hb:inR X.length r && zcD X col r with
  | false =>
   have e1:(inR X.length r && (zcD X col r && decide (zbB X col r≤t)))=false:=by rw[←Bool.and_assoc,hb];rfl
   have e2:(inR X.length r && (zcD X col r && !decide (zbB X col r≤t)))=false:=by rw[←Bool.and_assoc,hb];rfl
   rw[e1,if_neg (by decide),qG]at hlo;rw[e2,if_neg (by decide),qG]at hhi;refine uR ?_;refine⟨(i+1,_,_,ow1,ow2),⟨rfl,rfl,by rw[wn];rfl,trivial⟩,sB,trivial,sB,rfl,⟨hlt,by unfold zbd;rw[hlo];exact hown1,by unfold zaz;rw[hhi];exact hown2⟩,Hp.Le.refl _,by dsimp only;omega⟩
  | true =>
   have hb2:inR X.length r=true∧zcD X col r=true:=by simpa using hb
   have hr0:0≤r∧r<(X.length:Int):=by have:=hb2.1;unfold inR at this;simpa using this
   obtain⟨R,C,x,q,rfl,rfl,hx,hqx⟩:=zed hr0.1 hr0.2 hb2.2;have hk:=zd9 (X:=X) rfl rfl hx hqx;rw[hb2.1,hb2.2,Bool.true_and,Bool.true_and,hk]at hlo hhi;have hRl:R<X.length:=by omega
   have hCl:=(qE.1 hqx).1;obtain⟨vs,hvs,hs⟩:=hX1;obtain⟨a2,c2,hu,hRL⟩:=hvs.at hx;obtain⟨us,y,hs2,hc2,hy⟩:=hRL.at hqx;obtain⟨xa',xl',xc',ya',yl',yc',rfl,hx1,hx2⟩:=id hy;have hqq:=hq x (qF hx) q (qF hqx);have hvt1:=hvt.mono hG1;refine uR ?_;apply EV.drawn 11 kR kR;intro xv yw;(repeat refine' DD ?_);refine' vJ (hr1) (i) (rfl) (hlt) ((by rw[List.getElem?_map,hri];rfl)) ?_;rotate_left;(repeat refine' DD ?_);refine' vJ (hs) (R) (rfl) (hRl) (hu) ?_;rotate_left;(repeat refine' DD ?_);refine' DJ.idxM tO rfl rfl rfl rfl rfl rfl rfl rfl rfl (hs2) (C) (rfl) (hCl) (hc2) ?_;rotate_left;(repeat refine' DD ?_);(refine DJ.nil (fun G2 hG2 hF2=>?_);(case hS|hS2=>rfl));refine vA (zbw (hy.mono hG2) (hvt1.mono hG2) hqq ht) ?_;rintro rc G3 rfl hG3;have hr3:=hr1.mono (hG2.trans hG3);refine uR ?_;by_cases hle:q≤t
   ·have ho:zct q t≤0:=ziQ hle;rw[qD hle,if_pos rfl]at hlo;rw[qD hle,if_neg (by decide),qG]at hhi;rw[qD ho];refine uR ?_;refine vI (hr3) (i) (rfl) (hlt) ((by rw[List.getElem?_map,hri];rfl)) ?_;refine uR ?_;refine EVL.app1 tO rfl rfl rfl rfl rfl rfl rfl rfl rfl rfl rfl rfl rfl rfl rfl rfl rfl rfl rfl (fun _=>rfl) (ow1) (ow2) (rfl) (hown1) oM fun _=>?_;intro v' ow' hown';refine uR ?_;refine⟨(i+1,v',_,ow',ow2),⟨rfl,rfl,by rw[wn];rfl,trivial⟩,sB,trivial,sB,rfl,⟨hlt,by unfold zbd;rw[hlo];exact hown'.il,by unfold zaz;rw[hhi];exact hown2⟩,hG2.trans hG3,by dsimp only;omega⟩
   ·have ho:¬zct q t≤0:=by
     have:=Rat.not_le.1 hle;unfold zct;rw[if_neg (fun k=>absurd (Rat.le_of_lt k) (Rat.not_le.2 this)),if_pos this];omega
    rw[qC hle,if_neg (by decide),qG]at hlo;rw[qC hle,Bool.not_false,if_pos rfl]at hhi;rw[qC ho];refine uR ?_;refine vI (hr3) (i) (rfl) (hlt) ((by rw[List.getElem?_map,hri];rfl)) ?_;refine uR ?_;refine EVL.swapOw ow1 ow2 rfl ?_;refine EVL.app1 tO rfl rfl rfl rfl rfl rfl rfl rfl rfl rfl rfl rfl rfl rfl rfl rfl rfl rfl rfl (fun _=>rfl) (ow2) (ow1) (rfl) (hown2) oM fun _=>?_;intro v' ow' hown';refine EVL.swapOw ow' ow1 rfl ?_;refine uR ?_;refine⟨(i+1,_,v',ow1,ow'),⟨rfl,rfl,by rw[wn];rfl,trivial⟩,sB,trivial,sB,rfl,⟨hlt,by unfold zbd;rw[hlo];exact hown1,by unfold zaz;rw[hhi];exact hown'.il⟩,hG2.trans hG3,by dsimp only;omega⟩
 ·simp only[nN]at hlt;obtain rfl:i=rs.length:=by omega
  rw[List.take_length]at hown1 hown2 ⊢;(first|refine EVL.publishL [] ow1 ow2 (rfl) hown1 fun G2 hG2 hs2=>?_|refine EV.publishL [] ow1 ow2 (rfl) hown1 fun G2 hG2 hs2=>?_);(first|refine EVL.publishL [] ow2 [] ((qG _).symm) hown2 fun G3 hG3 hs3=>?_|refine EV.publishL [] ow2 [] ((qG _).symm) hown2 fun G3 hG3 hs3=>?_);refine uR ?_;exact⟨_,_,rfl,hs2.mono hG3,hs3⟩
theorem zl0 (size:Nat):∀(vs:List Value) (k:Nat) (pre zs:List Value),(∀v,v∈vs→(zac v).length=size)→pre.length=k*size→zs.length=vs.length*size →
  Instr.fill (fun i=>some (i*size,size)) (pre++zs).toArray ((List.range' k vs.length).zip vs)=some (pre++vs.flatMap zac).toArray
 | [],k,pre,zs,_,_,hz=>by
  obtain rfl:zs=[]:=List.eq_nil_of_length_eq_zero (by simpa using hz);rfl
 | v::vs,k,pre,zs,hv,hp,hz=>by
  have hlen:=hv v (List.mem_cons_self ..);rw[List.length_cons,Nat.succ_mul]at hz;rw[List.length_cons,List.range'_succ,List.zip_cons_cons];unfold Instr.fill;simp only[zhm];rw[if_neg (by simp[hlen];omega)];have:=zf0 (zac v) (pre++zs) (k*size) 0 (by rw[List.length_append,hlen];omega);rw[Nat.add_zero]at this
  have e:((zac v).toArray.zipIdx.foldl (fun (cs:Array Value) (x:Value × Nat)=>match x with | (c,j)=>cs.setIfInBounds (k*size+j) c) (pre++zs).toArray)=((zac v).zipIdx.foldl (fun (c:Array Value) (p:Value × Nat)=>c.setIfInBounds (k*size+p.2) p.1) (pre++zs).toArray):=by
   simp
  rw[e,this,List.take_left' hp,hlen,←hp,←List.drop_drop,List.drop_left,List.flatMap_cons,←List.append_assoc];have ih:=zl0 size vs (k+1) (pre++zac v) (zs.drop size) (fun u hu=>hv u (List.mem_cons_of_mem _ hu)) (by rw[List.length_append,hp,hlen,Nat.succ_mul]) (by rw[List.length_drop];omega);exact ih
def ixB:List (Nat × Operand)→Nat→Nat→Bool
 | [],_,0=>true
 | p::ps,k,n+1=>match Nat.beq p.1 k with
  | true=>ixB ps (k+1) n
  | false=>false
 | _,_,_=>false
theorem zl5:∀(ps:List (Nat × Operand)) (k n:Nat),ixB ps k n=true→ps.map (·.1)=List.range' k n
 | [],k,0,_=>rfl
 | p::ps,k,n+1,h=>by
  unfold ixB at h;split at h
  ·rename_i e;rw[List.map_cons,List.range'_succ,zl5 ps (k+1) n h,Nat.eq_of_beq_eq_true e]
  ·cases h
 | [],k,n+1,h=>by cases h
 | p::ps,k,0,h=>by cases h
section
variable {P:Program} {n:Nat} {ops:Array Oper} {o:Oper} {rest:List Oper} {env:Env} {bx:Bxs} {sb:Bxs} {ow:Ows} {H:Hs} {Q:EQ} {τ:Tab} {d:Nat} {s:SV}
theorem DJ.litD {tail l:List Oper} {x:Nat→Value} {y:Nat→Ows} {ow':Ows} {kl ks:List DK} {i:Nat} {bx':Bxs} {Γ:zeW} (hτ:zau P τ) {T:TypeId} {len:Nat} {parts:Array (Nat × Operand)} (ho:o.op=.buildSlice T len parts) (hw:zah ops env o=some true) (hd:o.dst=some d) (hn:Nat.blt d n=true) {te te':TE} {e:TypeId} (ht:τ.get T=some te) (hk:te.kind=.slice e) (ht':τ.get e=some te')
  (hsz:Nat.beq te'.zero.length te'.size=true) (hpos:Nat.ble 1 (len*te'.size)=true) (hsm:Nat.ble (len*te'.size) 10000=true) {vs:List Value} (ha:zbe env (parts.toList.map (·.2)) some=some vs) (hix':ixB parts.toList 0 len=true) (hv:∀G,zcP ops i Γ G→∀v,v∈vs→(zac v).length=te'.size)
  {Φ:Value→Hp→Prop} (hm:∀v G G',Φ v G→G.Le G'→Φ v G') (hΦ:∀G G' v,zcP ops i Γ G→G.Le G'→SlC G' v len te'.size (vs.flatMap zac)→Φ v G')
  (h:DJ P n ops tail sb bx H Q x y kl (i+1) l ks ((d,.v (x i))::env) bx' ((i,Φ (x i))::Γ) ow'):DJ P n ops tail sb bx H Q x y kl i (o::l) (.call Φ::ks) env bx' Γ ow':=by
 have hix:parts.toList.map (·.1)=List.range' 0 len:=zl5 _ _ _ hix';have hkd:=(hτ.get ht).kind;rw[hk]at hkd;have hkd':P.underlying T=some (.slice e):=hkd;obtain⟨zv,hinfo,hzc⟩:=(hτ.get ht').info;obtain⟨i0,hi,hz0,hz1,hz2⟩:=info_parts hinfo;have hl:=Nat.eq_of_beq_eq_true hsz;have hp:=Nat.le_of_ble_eq_true hpos;have hm':=Nat.le_of_ble_eq_true hsm;refine DJ.ofCall (fun β a W G hle hf _ hb _ hs hF=>?_) hd hn hm h;rw[if_pos (hs.want hw)];have hvv:=hv G hF;obtain⟨vs',e1,h2⟩:=ze0 ha;cases e1;have h3:=h2 a.eval fun y u hy he=>hs.op (s:=.v u) (by rw[ho];simpa[Op.operands] using hy) he
 have hvl:vs.length=len:=by
  have e1:=congrArg List.length h3;have e2:=congrArg List.length hix;simp at e1 e2;omega
 have hfl:(vs.flatMap zac).length=len*te'.size:=by rw[zfZ zac te'.size vs hvv,hvl]
 have h4:((parts.map fun (i,x)=>(i,a.eval x)):Array (Nat × Value)).toList=(List.range' 0 vs.length).zip vs:=by
  rw[hvl,←hix,←h3,Array.toList_map];generalize parts.toList=l
  induction l with
  | nil=>rfl
  | cons p l ih=>simp only[List.map_cons,List.zip_cons_cons,ih]
 have hfill:=zl0 te'.size vs 0 [] ((List.replicate len te'.zero).flatten) hvv (by simp) (by rw[List.length_flatten];simp[hl,hvl]);rw[List.nil_append,List.nil_append,←h4]at hfill
 have hrun:=run_buildSlice (P:=P) W T e len (parts.map fun (i,x)=>(i,a.eval x)) (vs.flatMap zac).toArray i0 zv hkd' hi hz0 (by rw[hz1];omega) (by rw[hz1];omega) (by
  rw[hz1,hzc,zgK te'.zero te'.size len hl,←hfill])
 have hB:Below W.heap.size W (W.alloc (.cells (vs.flatMap zac).toArray e)):=(Below.refl _ _).alloc (qH _) _;obtain⟨k1,k2,k3⟩:=zrB hf hB (Box.new W (vs.flatMap zac).toArray e)
 have hr:(execOp a.eval o).run P W=.ok (.value (.slice (some ⟨W.heap.size,0,none⟩) len len)) (W.alloc (.cells (vs.flatMap zac).toArray e)):=by
  unfold execOp;simp only[ho,Sem.run_bind,hrun,Result.andThen_ok,Sem.run_pure]
 unfold Oper.wp;rw[hr,Oper.upon_value];exact⟨_,_,rfl,hΦ G _ _ hF k1 ⟨hfl,.inr ⟨W.heap.size,0,len,(vs.flatMap zac).toArray,rfl,qH _,by simp[Hp.put],fun j x hj=>by rw[Nat.zero_add];simpa using hj⟩⟩,k1,k2,hB,k3⟩
theorem DJ.litD1 {tail l:List Oper} {x:Nat→Value} {y:Nat→Ows} {ow':Ows} {kl ks:List DK} {i:Nat} {bx':Bxs} {Γ:zeW} {Φ:Value→Hp→Prop} (hm:∀v G G',Φ v G→G.Le G'→Φ v G') (hτ:zau P τ) {T:TypeId} {u:Operand} (ho:o.op=.buildSlice T 1 #[(0,u)]) (hw:zah ops env o=some true) (hd:o.dst=some d) (hn:Nat.blt d n=true) {te te':TE} {e:TypeId} (ht:τ.get T=some te) (hk:te.kind=.slice e) (ht':τ.get e=some te')
  (hsz:Nat.beq te'.zero.length te'.size=true) (hpos:Nat.ble 1 (1*te'.size)=true) (hsm:Nat.ble (1*te'.size) 10000=true) {v:Value} (hx:env.op u=some (.v v)) (hv:∀G,zcP ops i Γ G→(zac v).length=te'.size)
  (hΦ:∀G G' w,zcP ops i Γ G→G.Le G'→SlC G' w 1 te'.size ([v].flatMap zac)→Φ w G')
  (h:DJ P n ops tail sb bx H Q x y kl (i+1) l ks ((d,.v (x i))::env) bx' ((i,Φ (x i))::Γ) ow'):DJ P n ops tail sb bx H Q x y kl i (o::l) (.call Φ::ks) env bx' Γ ow' :=
 DJ.litD hτ ho hw hd hn ht hk ht' hsz hpos hsm (vs:=[v]) (by show zbe env [u] some=_;simp[zbe,hx]) rfl (fun G hd w hm=>by rw[List.mem_singleton.1 hm];exact hv G hd) hm hΦ h
theorem DJ.litD3 {tail l:List Oper} {x:Nat→Value} {y:Nat→Ows} {ow':Ows} {kl ks:List DK} {i:Nat} {bx':Bxs} {Γ:zeW} {Φ:Value→Hp→Prop} (hm:∀v G G',Φ v G→G.Le G'→Φ v G') (hτ:zau P τ) {T:TypeId} {u1 u2 u3:Operand} (ho:o.op=.buildSlice T 3 #[(0,u1),(1,u2),(2,u3)]) (hw:zah ops env o=some true) (hd:o.dst=some d) (hn:Nat.blt d n=true) {te te':TE} {e:TypeId} (ht:τ.get T=some te) (hk:te.kind=.slice e) (ht':τ.get e=some te')
  (hsz:Nat.beq te'.zero.length te'.size=true) (hpos:Nat.ble 1 (3*te'.size)=true) (hsm:Nat.ble (3*te'.size) 10000=true) {v1 v2 v3:Value} (hx1:env.op u1=some (.v v1)) (hx2:env.op u2=some (.v v2)) (hx3:env.op u3=some (.v v3))
  (hv:∀G,zcP ops i Γ G→∀w,w∈[v1,v2,v3]→(zac w).length=te'.size) (hΦ:∀G G' w,zcP ops i Γ G→G.Le G'→SlC G' w 3 te'.size ([v1,v2,v3].flatMap zac)→Φ w G')
  (h:DJ P n ops tail sb bx H Q x y kl (i+1) l ks ((d,.v (x i))::env) bx' ((i,Φ (x i))::Γ) ow'):DJ P n ops tail sb bx H Q x y kl i (o::l) (.call Φ::ks) env bx' Γ ow' :=
 DJ.litD hτ ho hw hd hn ht hk ht' hsz hpos hsm (vs:=[v1,v2,v3]) (by show zbe env [u1,u2,u3] some=_;simp[zbe,hx1,hx2,hx3]) rfl hv hm hΦ h
end
theorem RQ.len3 {H:Hp} {x:Value} {q:Rat} (h:RQ H x q):(zac x).length=3:=by
 obtain⟨xa,xl,xc,ya,yl,yc,rfl,hx1,hx2⟩:=h;rfl
theorem RL.one {H:Hp} {v x:Value} {q:Rat} (h:SlC H v 1 3 ([x].flatMap zac)) (hx:RQ H x q):RL H v [q] :=
 ⟨[x],rfl,fun j y r e1 e2=>by
  cases j with
  | zero=>cases e1;cases e2;exact hx
  | succ j=>simp at e1,h⟩
def zhA (V:List Rat):Nat→List Rat
 | 0=>[]
 | j+1=>zhA V j++if V.getD j 0<V.getD (j+1) 0 then [(V.getD j 0+V.getD (j+1) 0) / 2] else []
theorem zgD (V:List Rat):∀j,(zhA V j).length≤j
 | 0=>qH _
 | j+1=>by
  have:=zgD V j;unfold zhA;rw[List.length_append];split
  ·rw[List.length_singleton];omega
  ·rw[List.length_nil];omega
theorem zoA (key:Int→Rat) (m:List Int):∀j,j≤m.length-1→zjP key m j=zhA (m.map key) j
 | 0,_=>rfl
 | j+1,h=>by
  have g:∀i,i<m.length→(m.map key).getD i 0=key (m.getD i 0):=fun i hi=>by simp[qB,hi]
  unfold zjP zhA zeX;rw[zoA key m j oM,g j oM,g (j+1) (by omega)]
def plQ (X:List (List Rat)) (col:Int) (es:List Int):List Rat:=if es.all (zcD X col)=true then zhA (zdW (es.map (zbB X col))) (es.length-1) else []
theorem ziY {X:List (List Rat)} {col:Int} {es m:List Int} (h:zmL X col es m):zjP (zbB X col) m (m.length-1)=plQ X col es:=by
 unfold plQ;rcases h with ⟨ha,hp,hr⟩ | ⟨ha,rfl⟩
 ·rw[if_pos ha,zoA _ _ _ (qH _),hp.length_eq,zku (hp.map _) hr]
 ·rw[if_neg (by rw[ha];decide)];rfl
theorem zpF {V:List Rat} {j:Nat} (h:j+1<(zdW V).length):(zdW V).getD j 0≤(zdW V).getD (j+1) 0:=by
 have:=(List.pairwise_iff_getElem.1 (zfN V)) j (j+1) oM h oM;rw[qB,qB,qA oM,qA h];exact this
theorem zki {H:Hp} {vx vr:Value} {X:List (List Rat)} {rs:List Int} {col:Int} (hX:RLL H vx X) (hr:IL H vr rs) (hn:rs.length≤300) (hq:∀x,x∈X→∀q,q∈x→ht q≤5) :
  PC prog 181 #[vx,vr,.int .i64 col] H fun r H'=>RL H' r (plQ X col (exL rs X.length)):=by
 obtain⟨a,cap,rfl⟩:=SlC.val hr;obtain⟨xa,xc,rfl⟩:=hX.val;refine BD func181 ntmps181 ?_;refine uR ?_;refine EV.loopK (ι:=Nat × List Value × Value × Ows) [0,1,2] [] (fun q=>[(7,.v q.2.2.1),(8,.v (.int .i64 (q.1:Int)))]) (fun _=>[]) (fun q=>q.2.2.2) (fun q G=>q.1≤rs.length∧(exL (rs.take q.1) X.length).all (zcD X col)=true∧RVs G q.2.1 ((exL (rs.take q.1) X.length).map (zbB X col))∧zaJ 35 3 q.2.2.1 q.2.1.length (q.2.1.flatMap zac) q.2.2.2) (fun q=>rs.length-q.1) ((0,[],.slice none 0 0,[])) rfl rfl ⟨rfl,rfl,trivial⟩ trivial rfl (fun _=>rfl) (⟨Nat.zero_le _,rfl,RVs.nil _,zaJ.nil _ _⟩) ?_;rintro⟨i,us,w,ow⟩ G2 hG2 ⟨hi,hall,hus,hown⟩;dsimp only at hi hall hus hown;obtain⟨wa,wc,rfl⟩:=hown.val;refine uR ?_;refine EV.cond rfl (fun hlt=>?_) (fun hlt=>?_)
 ·simp only[nN]at hlt;obtain⟨r,hri⟩:=gE hlt;have hex:=ze6 (n:=X.length) hri;have hel:=zbg (rs.take i) X.length;rw[List.length_take]at hel;have hul:us.length≤i:=by rw[hus.1,List.length_map];omega
  have wn:IntKind.i64.wrap ((i:Int)+1)=((i+1:Nat):Int):=zab i oM;have hr2:=hr.mono hG2;have hX2:=hX.mono hG2;have hth:=zmB hX2 r col;refine uR ?_;refine vI (hr2) (i) (rfl) (hlt) ((by rw[List.getElem?_map,hri];rfl)) ?_;refine uR ?_;by_cases h1:r<0
  ·have hp:inR X.length r=false:=by unfold inR;simp;omega
   rw[hp,if_neg (by decide),qG]at hex;rw[qD h1];refine uR ?_;refine⟨(i+1,us,_,ow),⟨rfl,by rw[wn];rfl,trivial⟩,sB,trivial,trivial,rfl,⟨hlt,by dsimp only;rw[hex];exact hall,by dsimp only;rw[hex];exact hus,hown⟩,Hp.Le.refl _,by dsimp only;omega⟩
  ·obtain⟨R,rfl⟩:=Int.eq_ofNat_of_zero_le (show 0≤r by omega);rw[qC h1];refine uR ?_;refine vI (hr2) (i) (rfl) (hlt) ((by rw[List.getElem?_map,hri];rfl)) ?_;refine uR ?_;by_cases h2:(R:Int)≥(X.length:Int)
   ·have hp:inR X.length (R:Int)=false:=by unfold inR;simp;omega
    rw[hp,if_neg (by decide),qG]at hex;rw[qD h2];refine uR ?_;refine⟨(i+1,us,_,ow),⟨rfl,by rw[wn];rfl,trivial⟩,sB,trivial,trivial,rfl,⟨hlt,by dsimp only;rw[hex];exact hall,by dsimp only;rw[hex];exact hus,hown⟩,Hp.Le.refl _,by dsimp only;omega⟩
   ·have hp:inR X.length (R:Int)=true:=by unfold inR;simp;omega
    rw[hp,Bool.true_and]at hth;rw[hp,if_pos rfl]at hex;rw[qC h2];refine uR ?_;refine vI (hr2) (i) (rfl) (hlt) ((by rw[List.getElem?_map,hri];rfl)) ?_
    repeat (first|refine RUN ?_|refine CV (hth) ?_|refine CE (hth) ?_)
    cases hb:zcD X col (R:Int) with
    | false =>
     have hno:(exL rs X.length).all (zcD X col)=false:=by
      rw[List.all_eq_false];refine⟨(R:Int),?_,by rw[hb];decide⟩;unfold exL;exact List.mem_filter.2 ⟨qF hri,hp⟩
     refine uR ?_;unfold plQ;rw[if_neg (by rw[hno];decide)];exact RL.nil _ _ _
    | true =>
     obtain⟨R',C,x,q,hRR,rfl,hx,hqx⟩:=zed (show 0≤(R:Int) by omega) (show (R:Int)<(X.length:Int) by omega) hb;obtain rfl:R=R':=by omega
     have hk:=zd9 (X:=X) rfl rfl hx hqx;have hRl:R<X.length:=by omega
     have hCl:=(qE.1 hqx).1;obtain⟨vs,hvs,hs⟩:=hX2;obtain⟨a2,c2,hu,hRL⟩:=hvs.at hx;obtain⟨us2,y,hs2,hc2,hy⟩:=hRL.at hqx;obtain⟨xa',xl',xc',ya',yl',yc',rfl,hx1,hx2⟩:=id hy;refine uR ?_;refine vI (hr2) (i) (rfl) (hlt) ((by rw[List.getElem?_map,hri];rfl)) ?_;refine uR ?_;refine vI (hs) (R) (rfl) (hRl) (hu) ?_;refine uR ?_;refine EVL.idxM tO rfl rfl rfl rfl rfl rfl rfl rfl rfl (hs2) (C) (rfl) (hCl) (hc2) ?_;refine uR ?_;refine EVL.app1 tO rfl rfl rfl rfl rfl rfl rfl rfl rfl rfl rfl rfl rfl rfl rfl rfl rfl rfl rfl (fun _=>rfl) (ow) ([]) ((qG _).symm) (hown) oM fun _=>?_;intro v' ow' hown';refine uR ?_;refine⟨(i+1,us++[_],v',ow'),⟨rfl,by rw[wn];rfl,trivial⟩,sB,trivial,trivial,qG _,⟨hlt,by dsimp only;rw[hex,List.all_append,hall];simp[hb],by dsimp only;rw[hex,List.map_append,List.map_cons,hk];exact hus.snoc hy,by dsimp only;rw[List.length_append,List.flatMap_append];exact hown'⟩,Hp.Le.refl _,by dsimp only;omega⟩
 ·simp only[nN]at hlt;obtain rfl:i=rs.length:=by omega
  rw[List.take_length]at hus hall;have hel:=zbg rs X.length;(first|refine EVL.publishL [] ow [] ((qG _).symm) hown fun G3 hG3 hs3=>?_|refine EV.publishL [] ow [] ((qG _).symm) hown fun G3 hG3 hs3=>?_);have hus3:=hus.mono hG3
  have hRL:RL G3 (.slice wa us.length wc) ((exL rs X.length).map (zbB X col)):=by
   rw[hus3.1]at hs3 ⊢;exact hus3.rl hs3
  have hpl:plQ X col (exL rs X.length)=zhA (zdW ((exL rs X.length).map (zbB X col))) ((exL rs X.length).length-1):=by unfold plQ;rw[if_pos hall]
  rw[hpl]
  have hkb:∀q,q∈(exL rs X.length).map (zbB X col)→ht q≤5:=fun q hm=>by
   obtain⟨r,_,rfl⟩:=List.mem_map.1 hm;exact zk3 hq col r
  have hvl:((exL rs X.length).map (zbB X col)).length=(exL rs X.length).length:=List.length_map ..;rw[←hvl];generalize (exL rs X.length).map (zbB X col)=vals at *
  have hsl:(zdW vals).length=vals.length:=(zfp vals).length_eq;have hsb:∀q,q∈zdW vals→ht q≤5:=fun q hm=>hkb q ((zfp vals).mem_iff.1 hm);have hris:=fun (j:Nat) (h:j+1<(zdW vals).length)=>zpF h;refine uR ?_;refine EVL.call rfl rfl rfl rfl rfl (znK hRL oM (fun q hm=>qI (hkb q hm) oM)) ?_;intro r5 G4 hV hG4;rw[←hsl];generalize zdW vals=V at *
  obtain⟨va,vc,rfl⟩:=hV.val
  have h2h:ht ((2:Int):Rat)≤10:=by
   have:=zbz 2;have h2:bl (2:Int).natAbs≤5:=za3 (by decide);omega
  have hrq:∀q,ht q≤30→rq q:=fun q h=>qI h oM;refine uR ?_;refine EV.loopK (ι:=Nat × List Value × Value × Ows) [7] [] (fun q=>[(9,.v q.2.2.1),(10,.v (.int .i64 ((q.1+1:Nat):Int)))]) (fun _=>[]) (fun q=>q.2.2.2) (fun q G=>q.1≤V.length-1∧RVs G q.2.1 (zhA V q.1)∧zaJ 35 3 q.2.2.1 q.2.1.length (q.2.1.flatMap zac) q.2.2.2) (fun q=>V.length-q.1) ((0,[],.slice none 0 0,[])) rfl rfl ⟨rfl,rfl,trivial⟩ trivial rfl (fun _=>rfl) (⟨Nat.zero_le _,RVs.nil _,zaJ.nil _ _⟩) ?_;rintro⟨j,ps,u,ow2⟩ G5 hG5 ⟨hj,hps,hown2⟩;dsimp only at hj hps hown2;obtain⟨ua,uc,rfl⟩:=hown2.val;refine uR ?_;refine EV.cond rfl (fun hlj=>?_) (fun hlj=>?_)
  ·simp only[nN]at hlj;have hjl:j<V.length:=by omega
   have ha:V[j]?=some (V.getD j 0):=by rw[qB,qA hjl];rfl
   have hb:V[j+1]?=some (V.getD (j+1) 0):=by rw[qB,qA hlj];rfl
   have hle:=hris j hlj;have hah:=hsb _ (qF ha);have hbh:=hsb _ (qF hb);have hgs:zhA V (j+1)=zhA V j++if V.getD j 0<V.getD (j+1) 0 then [(V.getD j 0+V.getD (j+1) 0) / 2] else []:=rfl
   have hpl:=hps.1;have hgl:=zgD V j;generalize V.getD j 0=p at *
   generalize V.getD (j+1) 0=q at *
   have hab:=zd0 p q;have wj:IntKind.i64.wrap (((j+1:Nat):Int)-1)=(j:Int):=by rw[IntKind.wrap_i64];omega
   have wn:IntKind.i64.wrap (((j+1:Nat):Int)+1)=((j+1+1:Nat):Int):=zab (j+1) oM;obtain⟨vs1,y1,hs1,hc1,hy1⟩:=(hV.mono hG5).at ha;obtain⟨vs2,y2,hs2,hc2,hy2⟩:=(hV.mono hG5).at hb;obtain⟨xa1,xl1,xc1,ya1,yl1,yc1,rfl,hx11,hx12⟩:=id hy1;obtain⟨xa2,xl2,xc2,ya2,yl2,yc2,rfl,hx21,hx22⟩:=id hy2;refine uR ?_;apply EV.drawn 9 kR kR;intro xv yw;(repeat refine' DD ?_);refine' DJ.idxM tO rfl rfl rfl rfl rfl rfl rfl rfl rfl (hs1) (j) (wj) (hjl) (hc1) ?_;rotate_left;(repeat refine' DD ?_);refine' DJ.idxM tO rfl rfl rfl rfl rfl rfl rfl rfl rfl (hs2) (j+1) (rfl) (hlj) (hc2) ?_;rotate_left;(repeat refine' DD ?_);(refine DJ.nil (fun G6 hG6 hF6=>?_);(case hS|hS2=>rfl));refine EVL.call rfl rfl rfl rfl rfl (zbw (hy1.mono hG6) (hy2.mono hG6) (hrq _ oM) (hrq _ oM)) ?_;rintro rc G7 rfl hG7;by_cases hlt3:p<q
   ·rw[if_pos hlt3]at hgs
    have ho:(zct p q != 0)=true:=by
     unfold zct;rw[if_pos hlt3];rfl
    refine uR ?_;rw[ho];refine uR ?_;apply EV.drawn 14 kR kR;intro xv yw;(repeat refine' DD ?_);refine' DJ.idxM tO rfl rfl rfl rfl rfl rfl rfl rfl rfl ((hs1.mono (hG6.trans hG7))) (j) (wj) (hjl) (hc1) ?_;rotate_left;(repeat refine' DD ?_);refine' DJ.idxM tO rfl rfl rfl rfl rfl rfl rfl rfl rfl ((hs2.mono (hG6.trans hG7))) (j+1) (rfl) (hlj) (hc2) ?_;rotate_left;(repeat refine' DD ?_);refine' vB (cO func97) (fun G hG hd=>zdw (hy1.mono ((hG6.trans hG7).trans hG)) (hy2.mono ((hG6.trans hG7).trans hG)) (hrq _ oM) (hrq _ oM)) (fun _ _ _ h k=>RQ.mono h k) ?_;rotate_left;refine' vB (cO func67) (fun G hG hd=>za5 2 (by decide) (by decide)) (fun _ _ _ h k=>RQ.mono h k) ?_;rotate_left;refine' vB (cO func223) (fun G hG hd=>zfg (hd.tail.head kR) (hd.head kR) (hrq _ oM) (hrq _ oM) (by decide)) (fun _ _ _ h k=>RQ.mono h k) ?_;rotate_left;(refine' DJ.litD1 (Φ:=fun w G=>RL G w [(p+q) / ((2:Int):Rat)]) (fun _ _ _ h k=>h.mono k) tO rfl rfl rfl rfl rfl rfl rfl rfl rfl rfl rfl (fun G hd=>RQ.len3 (hd.head kR)) (fun G G' w hd hG h=>RL.one h ((hd.head kR).mono hG)) ?_;rotate_left);(refine DJ.nil (fun G8 hG8 hF8=>?_);(case hS|hS2=>rfl));obtain⟨vs3,hl3,hv3,hs3'⟩:=hF8.1
    obtain⟨y3,rfl⟩:∃y,vs3=[y]:=by
     match vs3,hl3 with
     | [y],_=>exact⟨y,rfl⟩
    have hy3:=hv3 0 y3 _ rfl rfl;obtain⟨xa3,xl3,xc3,ya3,yl3,yc3,rfl,hx31,hx32⟩:=id hy3;refine EVL.append tO rfl rfl rfl rfl rfl rfl rfl rfl rfl rfl rfl rfl [] ow2 [] (qG _).symm hown2 (zcQ.ro hs3' (Nat.succ_pos 0)) rfl (by simp;omega) ?_;intro v1 ow1 hown1;refine uR ?_;refine⟨(j+1,ps++[_],v1,ow1),⟨rfl,by rw[wn];rfl,trivial⟩,sB,trivial,trivial,qG _,⟨by dsimp only;omega,by dsimp only;rw[hgs];exact(hps.mono (hG6.trans (hG7.trans hG8))).snoc hy3,by dsimp only;rw[List.length_append,List.flatMap_append];exact hown1⟩,hG6.trans (hG7.trans hG8),by dsimp only;omega⟩
   ·rw[if_neg hlt3,qG]at hgs;have hpq:p=q:=Rat.le_antisymm hle (Rat.not_lt.1 hlt3)
    have ho:(zct p q != 0)=false:=by
     rw[hpq,zo3];rfl
    refine uR ?_;rw[ho];refine uR ?_;refine⟨(j+1,ps,_,ow2),⟨rfl,by rw[wn];rfl,trivial⟩,sB,trivial,trivial,rfl,⟨by dsimp only;omega,by dsimp only;rw[hgs];exact hps.mono (hG6.trans hG7),hown2⟩,hG6.trans hG7,by dsimp only;omega⟩
  ·simp only[nN]at hlj;obtain rfl:j=V.length-1:=by omega
   (first|refine EVL.publishL [] ow2 [] ((qG _).symm) hown2 fun G6 hG6 hs6=>?_|refine EV.publishL [] ow2 [] ((qG _).symm) hown2 fun G6 hG6 hs6=>?_);have hps6:=hps.mono hG6;refine uR ?_;show RL G6 (.slice ua ps.length uc) _;rw[hps6.1]at hs6 ⊢;exact hps6.rl hs6
end
section
def zbC (X:List (List Rat)) (cost:List Int→Rat) (es:List Int) (L c:Int) (ts:List Rat):List (Int × Rat × Rat) :=
 ts.flatMap fun t=>if L≤((zbd X c t es).length:Int)∧L≤((zaz X c t es).length:Int) then [(c,t,cost es-(cost (zbd X c t es)+cost (zaz X c t es)))] else []
def zaD (X:List (List Rat)) (cost:List Int→Rat) (es:List Int) (L:Int) (cols:List Int):List (Int × Rat × Rat):=cols.flatMap fun c=>zbC X cost es L c (plQ X c es)
theorem zl2 {key:Int→Rat} {m:List Int}:∀{n j:Nat},j<n→key (m.getD j 0)<key (m.getD (j+1) 0)→zeX key m j∈zjP key m n
 | 0,j,h,_=>by omega
 | n+1,j,h,hlt=>by
  unfold zjP;by_cases e:j=n
  ·subst e;rw[if_pos hlt];exact List.mem_append_right _ (List.mem_singleton.2 rfl)
  ·exact List.mem_append_left _ (zl2 (show j<n by omega) hlt)
theorem zkv (key:Int→Rat) (es:List Int):∃m,m.Perm es∧zhy key m:=by
 refine⟨es.mergeSort fun a b=>decide (key a≤key b),List.mergeSort_perm _ _,?_⟩;have:=List.pairwise_mergeSort (le:=fun a b:Int=>decide (key a≤key b)) (fun a b c h1 h2=>by simp at h1 h2 ⊢;exact Rat.le_trans h1 h2) (fun a b=>by simp;exact Rat.le_total) es;exact List.pairwise_map.2 (this.imp fun h=>by simpa using h)
theorem zjF {wo cost:List Int→Rat} (hp:POk wo cost) {es a b m:List Int} {j:Nat} (hm:m.Perm es) (hl:a.Perm (m.take (j+1))) (hh:b.Perm (m.drop (j+1))):cost es-(cost a+cost b)=zfq wo m j-wo es:=by
 have hab:(a++b).Perm es:=by
  refine(hl.append hh).trans ?_;rw[List.take_append_drop];exact hm
 have h1:=hp.gain hab;have h2:=hp.wperm _ _ hl;have h3:=hp.wperm _ _ hh;have h4:zfq wo m j=wo (m.take (j+1))+wo (m.drop (j+1)):=rfl;rw[h4,←h2,←h3];grind
theorem zqN {X:List (List Rat)} {wo cost:List Int→Rat} {es cols:List Int} {L:Int} (hp:POk wo cost) (p:Int × Rat × Rat):p∈zaD X cost es L cols↔zt0 X wo es cols L p:=by
 obtain⟨c,t,g⟩:=p;unfold zaD zbC;rw[List.mem_flatMap];constructor
 ·rintro⟨c',hc,h⟩;obtain⟨t',ht,h⟩:=List.mem_flatMap.1 h;split at h
  ·rename_i hcond;rw[List.mem_singleton]at h;cases h;by_cases ha:es.all (zcD X c)=true
   ·obtain⟨m,hm,hr⟩:=zkv (zbB X c) es;rw[←ziY (.inl ⟨ha,hm,hr⟩:zmL X c es m)]at ht;obtain⟨j,hj,hlt,rfl⟩:=zgC ht;have hj1:j+1<m.length:=by omega
    obtain⟨hl,hh⟩:=zf7 hm hr (List.all_eq_true.1 ha) hj1 hlt;have e1:=hl.length_eq;have e2:=hh.length_eq;rw[List.length_take]at e1;rw[List.length_drop]at e2;exact⟨hc,ha,m,j,hm,hr,hj1,zew.2 ⟨by omega,by omega,hlt⟩,rfl,zjF hp hm hl hh⟩
   ·unfold plQ at ht;rw[if_neg ha]at ht;cases ht
  ·cases h
 ·rintro⟨hc,ha,m,j,hm,hr,hj,hcand,he,hg⟩;dsimp only at hc ha hr hcand he hg;obtain⟨h1,h2,hlt⟩:=zew.1 hcand;obtain⟨hl,hh⟩:=zf7 hm hr (List.all_eq_true.1 ha) hj hlt;have e1:=hl.length_eq;have e2:=hh.length_eq;rw[List.length_take]at e1;rw[List.length_drop]at e2;refine⟨c,hc,List.mem_flatMap.2 ⟨t,?_,?_⟩⟩
  ·rw[←ziY (.inl ⟨ha,hm,hr⟩:zmL X c es m),he];exact zl2 oM hlt
  ·rw[he,if_pos ⟨by omega,by omega⟩,zjF hp hm hl hh,hg];exact List.mem_singleton.2 rfl
theorem zcJ (l:List (Int × Rat × Rat)):zgh l (l.foldl zf3 none):=by
 have key:∀(qs pre:List (Int × Rat × Rat)) (st:Option (Int × Rat × Rat)),zgh pre st→zgh (pre++qs) (qs.foldl zf3 st):=by
  intro qs
  induction qs with
  | nil=>intro pre st h;rw[qG];exact h
  | cons p qs ih =>
   intro pre st h;rw[show pre++p::qs=(pre++[p])++qs by simp];exact ih _ _ (znb h p)
 have:=key l [] none rfl;simpa using this
theorem zkW {X:List (List Rat)} {wo cost:List Int→Rat} {es cols:List Int} {L:Int} {ps:List (Int × Option (Rat × Rat))} (hp:POk wo cost) (hcol:ztg cols (ps.map (·.1))) (hps:∀p,p∈ps→zrt X wo es L p.1 p.2) :
  ((zb1 ps).map fun t=>(t.1,t.2.1,t.2.2-wo es))=(zaD X cost es L cols).foldl zf3 none :=
 zna (zkV hp hcol hps) (zcJ _).p fun p=>(zqN hp p).symm
end
section
structure Nd where
 col:Int
 left:Int
 right:Int
 rows:Int
 cls:Int
 at':Rat
 cost:Rat
 value:Rat
 counts:List Int
structure GP where
 X:List (List Rat)
 cost:List Int→Rat
 mean:List Int→Rat
 cnt:List Int→List Int
 least:Int
 gain:Rat
 cols:Int→List Int × Int
def GP.nd (p:GP) (rows:List Int):Nd:=⟨-1,0,0,(rows.length:Int),(topN (p.cnt rows) (p.cnt rows).length:Int),0,p.cost rows,p.mean rows,p.cnt rows⟩
def GP.best (p:GP) (rows cols:List Int):Option (Int × Rat × Rat):=(zaD p.X p.cost rows (max 1 p.least) cols).foldl zf3 none
def GP.cut (p:GP) (rows cols:List Int):Option (Int × Rat):=match p.best rows cols with
 | some (c,t,g)=>if g≤p.gain then none else some (c,t)
 | none=>none
def GP.grow (p:GP):Nat→Nat→List Int→Int→List Nd × Int
 | 0,_,rows,s=>([p.nd rows],s)
 | d+1,k,rows,s=>match p.cut rows (p.cols s).1 with
  | none=>([p.nd rows],(p.cols s).2)
  | some (c,t) =>
   let L:=p.grow d (k+1) (zbd p.X c t rows) (p.cols s).2
   let R:=p.grow d (k+1+L.1.length) (zaz p.X c t rows) L.2
   ({p.nd rows with col:=c,left:=((k+1:Nat):Int),right:=((k+1+L.1.length:Nat):Int),at':=t}::(L.1++R.1),R.2)
theorem GP.grow_zero (p:GP) (k:Nat) (rows:List Int) (s:Int):p.grow 0 k rows s=([p.nd rows],s):=rfl
theorem GP.grow_none {p:GP} {d k:Nat} {rows:List Int} {s:Int} (h:p.cut rows (p.cols s).1=none):p.grow (d+1) k rows s=([p.nd rows],(p.cols s).2):=by
 rw[GP.grow,h]
theorem GP.grow_some {p:GP} {d k:Nat} {rows:List Int} {s:Int} {c:Int} {t:Rat} (h:p.cut rows (p.cols s).1=some (c,t)):p.grow (d+1) k rows s =
  ({p.nd rows with col:=c,left:=((k+1:Nat):Int),right:=((k+1+(p.grow d (k+1) (zbd p.X c t rows) (p.cols s).2).1.length:Nat):Int),at':=t}::((p.grow d (k+1) (zbd p.X c t rows) (p.cols s).2).1++(p.grow d (k+1+(p.grow d (k+1) (zbd p.X c t rows) (p.cols s).2).1.length) (zaz p.X c t rows) (p.grow d (k+1) (zbd p.X c t rows) (p.cols s).2).2).1),(p.grow d (k+1+(p.grow d (k+1) (zbd p.X c t rows) (p.cols s).2).1.length) (zaz p.X c t rows) (p.grow d (k+1) (zbd p.X c t rows) (p.cols s).2).2).2):=by
 rw[GP.grow,h]
theorem GP.grow_len (p:GP):∀(d k:Nat) (rows:List Int) (s:Int),1≤(p.grow d k rows s).1.length∧(p.grow d k rows s).1.length<2 ^ (d+1)
 | 0,k,rows,s=>by rw[GP.grow_zero];simp
 | d+1,k,rows,s=>by
  have hp:1<2 ^ (d+2):=Nat.one_lt_two_pow oM
  cases h:p.cut rows (p.cols s).1 with
  | none=>rw[GP.grow_none h];exact⟨qH _,hp⟩
  | some ct =>
   obtain⟨c,t⟩:=ct;rw[GP.grow_some h];have h1:=p.grow_len d (k+1) (zbd p.X c t rows) (p.cols s).2;have h2:=p.grow_len d (k+1+(p.grow d (k+1) (zbd p.X c t rows) (p.cols s).2).1.length) (zaz p.X c t rows) (p.grow d (k+1) (zbd p.X c t rows) (p.cols s).2).2;simp only[List.length_cons,List.length_append];have h3:2 ^ (d+1+1)=2 ^ (d+1)+2 ^ (d+1):=by rw[Nat.pow_succ];omega
   omega
end
section
open Go.RowKit _root_.Go.Proofs.Tryz
section
variable {P:Program} {n:Nat} {ops:Array Oper} {tail:List Oper} {sb bx:Bxs} {H:Hs} {Q:EQ} {x:Nat→Value} {y:Nat→Ows} {ow':Ows} {kl:List DK} {i:Nat} {o:Oper} {l:List Oper} {ks:List DK} {env:Env} {bx':Bxs} {Γ:zeW} {τ:Tab} {d:Nat}
theorem DJ.plainE (hτ:zau P τ) (Φ:Value→Hp→Prop) (hm:∀v G G',Φ v G→G.Le G'→Φ v G') (hw:zah ops env o=some true) (hd:o.dst=some d) (hn:Nat.blt d n=true) (hv:∀G,zcP ops i Γ G→∃v,zqb τ env bx o.op=some (.v v)∧Φ v G)
  (h:DJ P n ops tail sb bx H Q x y kl (i+1) l ks ((d,.v (x i))::env) bx' ((i,Φ (x i))::Γ) ow'):DJ P n ops tail sb bx H Q x y kl i (o::l) (.call Φ::ks) env bx' Γ ow' :=
 DJ.ofCall (fun β a W G _ hf _ hb _ hs hF=>by
  obtain⟨v,hv,hΦ⟩:=hv G hF;obtain⟨u,hu,hr⟩:=zch hτ hv (fun y s hm hy=>hs.op hm hy) hb hf;rw[if_pos (hs.want hw)];unfold Oper.wp;rw[hu,Oper.upon_value];have e:u=v:=hr;subst e;exact⟨u,G,rfl,hΦ,Hp.Le.refl G,hf,Below.refl _ _,Nw.refl _ _ _⟩) hd hn hm h
end
section
variable {n:Nat} {ops:Array Oper} {fuel:Nat} {L:Array Bool} {env:Env} {bx:Bxs} {H:Hs} {K:Env→Bxs→Hs→Prop} {d:Nat} {o:Oper} {v:Value}
end
section
variable {P:Program} {n:Nat} {ops:Array Oper} {o:Oper} {rest:List Oper} {env:Env} {bx:Bxs} {H:Hs} {Q:EQ} {d:Nat}
theorem EVL.neqnil {T T' e:TypeId} {x:Operand} {q:Option Addr} (hT:P.underlying T=some (.pointer e)) (ho:o.op=.binOp .neq T x (.const (.pointer none)) T') (hw:zah ops env o=some true) (hd:o.dst=some d) (hn:Nat.blt d n=true)
  (hx:env.op x=some (.v (.pointer q))) (h:EVL P n ops rest ((d,.v (.bool q.isSome))::env) bx H Q):EVL P n ops (o::rest) env bx H Q :=
 EVL.gen hw hd hn (fun ev W he=>by
  have ex:=he x _ (by simp[ho,Op.operands]) hx;have ey:=he (.const (.pointer none)) _ (by simp[ho,Op.operands]) rfl
  have hq:(Op.equalIn (9999+1) T (.pointer q) (.pointer none)).run P W=.ok (!q.isSome) W:=by
   unfold Op.equalIn;cases q <;> simp[run_underlying hT]
  have hm:Op.maxDepth=9999+1:=rfl;unfold execOp;simp[ho,ex,ey,eqGuard,binOp,Op.equal,hm,hq]) h
end
theorem zq4 {A c B:List Value} {k s f:Nat} (hA:A.length=k*s) (hf:f≤c.length):(A++(c++B)).take (k*s+f)=A++c.take f:=by
 rw[List.take_append,List.take_of_length_le oM,hA,Nat.add_sub_cancel_left,List.take_append_of_le_length hf]
theorem zq3 {A c B:List Value} {k s f:Nat} (hA:A.length=k*s) (hf:f≤c.length):(A++(c++B)).drop (k*s+f)=c.drop f++B:=by
 rw[List.drop_append,List.drop_eq_nil_of_le oM,hA,Nat.add_sub_cancel_left,List.drop_append_of_le_length hf,List.nil_append]
theorem zdx {A c B vs c':List Value} {k s f m q:Nat} (hA:A.length=k*s) (hq:q=k*s+f) (hm:vs.length=m) (hf:f+m≤c.length) (hc:c.take f++vs++c.drop (f+m)=c'):(A++(c++B)).take q++vs++(A++(c++B)).drop (q+m)=A++(c'++B):=by
 subst hq;rw[zq4 hA oM,Nat.add_assoc,zq3 hA hf,←hc];simp only[List.append_assoc]
theorem zmm {cl:Int} {sv:Value} {la:Option Addr} {ln lc:Nat} {va:Option Addr} {vn vc:Nat}:PV prog 131 #[zai 1 cl (.slice la ln lc) (.slice va vn vc)] (.int .i64 (ln:Int)):=by
 refine PV.of_pc ?_;refine BD func131 ntmps131 ?_;refine uR ?_;rfl
theorem zmn {cl:Int} {la:Option Addr} {ln lc:Nat} {va:Option Addr} {vn vc:Nat}:PV prog 131 #[zai 2 cl (.slice la ln lc) (.slice va vn vc)] (.int .i64 (vn:Int)):=by
 refine PV.of_pc ?_;refine BD func131 ntmps131 ?_;refine uR ?_;rfl
theorem zh8 {H:Hp} {la:Option Addr} {lc:Nat} {va:Option Addr} {vn vc:Nat} (h0:1≤vn) (h1:vn≤300):PC prog 132 #[zai 2 0 (.slice la 0 lc) (.slice va vn vc)] H fun r _=>r=.int .i64 0:=by
 refine BD func132 ntmps132 ?_;refine uR ?_;rw[qC (show ¬(vn:Int)<1 by omega)];refine uR ?_;rw[qC (show ¬(vn:Int)>300 by omega)];refine uR ?_;rfl
theorem zh7 {H:Hp} {la:Option Addr} {lc:Nat} {ls:List Int} (hv:IL H (.slice la ls.length lc) ls) {va:Option Addr} {vc:Nat} {cl:Int} (hc:1≤cl∧cl≤12) (h0:1≤ls.length) (h1:ls.length≤300) (hls:∀z,z∈ls→0≤z∧z<cl):PC prog 132 #[zai 1 cl (.slice la ls.length lc) (.slice va 0 vc)] H fun r _=>r=.int .i64 0:=by
 refine BD func132 ntmps132 ?_;refine uR ?_;rw[qC (show ¬(ls.length:Int)<1 by omega)];refine uR ?_;rw[qC (show ¬(ls.length:Int)>300 by omega)];refine uR ?_;rw[qC (show ¬cl<1 by omega)];refine uR ?_;rw[qC (show ¬cl>12 by omega)];refine uR ?_;refine EV.loopK (ι:=Nat) [1,3] [1] (fun i=>[(4,.v (.int .i64 (i:Int)))]) (fun _=>[]) (fun _=>[]) (fun i _=>i≤ls.length) (fun i=>ls.length-i) (0) rfl rfl ⟨rfl,trivial⟩ trivial rfl (fun _=>rfl) (Nat.zero_le _) ?_;rintro i G1 hG1 hi;refine uR ?_;refine EV.cond rfl (fun hlt=>?_) (fun hlt=>?_)
 ·simp only[nN]at hlt;obtain⟨z,hz⟩:=gE hlt;have hb:=hls z (qF hz);have hv1:=hv.mono hG1;refine uR ?_;apply EV.drawn 15 kR kR;intro xv yw;(repeat refine' DD ?_);refine' vJ (hv1) (i) (rfl) (hlt) ((by rw[List.getElem?_map,hz];rfl)) ?_;rotate_left;(repeat refine' DD ?_);rw[qC (show ¬z<0 by omega)];(repeat refine' DD ?_);refine' vJ (hv1) (i) (rfl) (hlt) ((by rw[List.getElem?_map,hz];rfl)) ?_;rotate_left;(repeat refine' DD ?_);(refine DJ.nil (fun G2 hG2 hF2=>?_);(case hS|hS2=>rfl));refine uR ?_;rw[qC (show ¬z≥cl by omega)];refine uR ?_;refine⟨i+1,⟨by rw[zab i (by omega)];rfl,trivial⟩,sB,trivial,sB,rfl,hlt,hG2,by omega⟩
 ·try refine uR ?_
  rfl
abbrev zny:List Value:=[.int .i64 0,.bool false,.slice none 0 0,.slice none 0 0,.bool false,.slice none 0 0,.slice none 0 0]
theorem znc {H:Hp}:PC prog 183 #[.agg zny.toArray] H fun r H'=>RQ H' r 0:=by
 refine BD func183 ntmps183 ?_;refine uR ?_;refine vA (za5 0 (by decide) (by decide)) ?_;intro r2 G2 hq hG2;obtain⟨xa,xl,xc,ya,yl,yc,rfl,hx1,hx2⟩:=id hq;refine uR ?_;exact hq
theorem znd {H:Hp} {c:Int} {b1:Bool} {s1 s2:Option Addr} {n1 c1 n2 c2:Nat} {y:Value} {g:Rat} (hy:RQ H y g):PC prog 183 #[.agg (.int .i64 c::([.bool b1,.slice s1 n1 c1,.slice s2 n2 c2]++zac y)).toArray] H fun r H'=>RQ H' r g:=by
 obtain⟨xa,xl,xc,ya,yl,yc,rfl,hx1,hx2⟩:=id hy;have hl:yl=(dig B32 g.den).length:=SlN.cap hx2;have hne:yl≠0:=fun e=>g.den_nz (zaK zad oM);refine BD func183 ntmps183 ?_;refine uR ?_;rw[show ((yl:Int) == 0)=false from beq_eq_false_iff_ne.2 (by omega)];refine uR ?_;exact hy
def zbS (H:Hp) (cs:List Value) (n:Nd):Prop:=∃xa xc xv xs,RQ H xa n.at'∧RQ H xc n.cost∧RQ H xv n.value∧IL H xs n.counts ∧
 cs=[.int .i64 n.col,.int .i64 n.left,.int .i64 n.right,.int .i64 n.rows,.int .i64 n.cls]++(zac xa++(zac xc++(zac xv++[xs])))
theorem zbS.mono {H G:Hp} {cs:List Value} {n:Nd} (h:zbS H cs n) (k:H.Le G):zbS G cs n:=by
 obtain⟨xa,xc,xv,xs,h1,h2,h3,h4,e⟩:=h;exact⟨xa,xc,xv,xs,h1.mono k,h2.mono k,h3.mono k,h4.mono k,e⟩
theorem zbS.cells {H:Hp} {cs:List Value} {n:Nd} (h:zbS H cs n):∃b1 a1 l1 c1 a2 l2 c2 b3 a3 l3 c3 a4 l4 c4 b5 a5 l5 c5 a6 l6 c6 a7 c7,
  cs=[.int .i64 n.col,.int .i64 n.left,.int .i64 n.right,.int .i64 n.rows,.int .i64 n.cls,.bool b1,.slice a1 l1 c1,.slice a2 l2 c2,.bool b3,.slice a3 l3 c3,.slice a4 l4 c4,.bool b5,.slice a5 l5 c5,.slice a6 l6 c6,.slice a7 n.counts.length c7] ∧
  RQ H (.agg #[.bool b1,.slice a1 l1 c1,.slice a2 l2 c2]) n.at'∧RQ H (.agg #[.bool b3,.slice a3 l3 c3,.slice a4 l4 c4]) n.cost∧RQ H (.agg #[.bool b5,.slice a5 l5 c5,.slice a6 l6 c6]) n.value∧IL H (.slice a7 n.counts.length c7) n.counts:=by
 obtain⟨xa,xc,xv,xs,h1,h2,h3,h4,e⟩:=h;obtain⟨a1,l1,c1,a2,l2,c2,rfl,_⟩:=id h1;obtain⟨a3,l3,c3,a4,l4,c4,rfl,_⟩:=id h2;obtain⟨a5,l5,c5,a6,l6,c6,rfl,_⟩:=id h3;obtain⟨a7,c7,rfl⟩:=SlC.val h4;exact⟨_,_,_,_,_,_,_,_,_,_,_,_,_,_,_,_,_,_,_,_,_,_,_,e,h1,h2,h3,h4⟩
structure zjo (H:Hp) (g:Value) (kd:Int) (N:Nat) (cs mn:List Int→Rat) (cnt:List Int→List Int):Prop where
 counts:kd=1→∀G,H.Le G→∀u l,IL G u l→l.length≤300→PC prog 178 #[g,u] G fun r H'=>IL H' r (cnt (exL l N))
 no:kd≠1→∀l,cnt l=[]
 zero:kd=1→∀l,mn l=0
 cntlen:∀l,(cnt l).length≤12
 mean:∀G,H.Le G→∀u l,IL G u l→l.length≤300→PC prog 179 #[g,u] G fun r H'=>RQ H' r (mn (exL l N))
 msmall:∀l:List Int,l.length≤300→(∀r,r∈l→0≤r∧r<(N:Int))→ht (mn l)≤2000000
 cost:∀G,H.Le G→∀u l,IL G u l→l.length≤300→PC prog 177 #[g,u] G fun r H'=>RQ H' r (cs (exL l N))
 small:∀l:List Int,l.length≤300→(∀r,r∈l→0≤r∧r<(N:Int))→ht (cs l)≤2000000
 check:∀G,H.Le G→PC prog 132 #[g] G fun r _=>r=.int .i64 0
 len:PV prog 131 #[g] (.int .i64 (N:Int))
theorem zjo.mono {H H':Hp} {g:Value} {kd:Int} {N:Nat} {cs mn:List Int→Rat} {cnt:List Int→List Int} (h:zjo H g kd N cs mn cnt) (k:H.Le H'):zjo H' g kd N cs mn cnt :=
 ⟨fun e G hG=>h.counts e G (k.trans hG),h.no,h.zero,h.cntlen,fun G hG=>h.mean G (k.trans hG),h.msmall,fun G hG=>h.cost G (k.trans hG),h.small,fun G hG=>h.check G (k.trans hG),h.len⟩
abbrev zdo (kd cl:Int) (sl sv vx:Value) (deep least:Int) (g1 g2 g3 dv:Value) (sm:Int) (out:Value):List Value:=[.int .i64 kd,.int .i64 cl,sl,sv,vx,.int .i64 deep,.int .i64 least,g1,g2,g3,dv,.int .i64 sm,out]
abbrev zt5 (n:Nat) (x1 x2 x3:Value):Value:=.agg (([.int .i64 (-1),.int .i64 0,.int .i64 0,.int .i64 (n:Int),.int .i64 0]:List Value)++(zac x1++(zac x2++(zac x3++([.slice none 0 0]:List Value))))).toArray
theorem zq2 {H:Hp} {b:Nat} {T:TypeId} {kd cl deep least sm:Int} {la va xa:Option Addr} {ln lc vn vc xn xc:Nat} {g1 g2 g3 dv out vr:Value} {N:Nat} {p:GP} (hg:zjo H (zai kd cl (.slice la ln lc) (.slice va vn vc)) kd N p.cost p.mean p.cnt) {rows:List Int} (hr:IL H vr rows) (hn:rows.length≤300) (hb:∀r,r∈rows→0≤r∧r<(N:Int)) :
  PW prog 133 #[.pointer (some ⟨b,0,none⟩),vr] H [(b,T,zdo kd cl (.slice la ln lc) (.slice va vn vc) (.slice xa xn xc) deep least g1 g2 g3 dv sm out)] fun v ow H'=>ow=[(b,T,zdo kd cl (.slice la ln lc) (.slice va vn vc) (.slice xa xn xc) deep least g1 g2 g3 dv sm out)]∧∃cs,v=.agg cs.toArray∧zbS H' cs (p.nd rows):=by
 obtain⟨ra,rc,rfl⟩:=SlC.val hr;have hex:=zdn hb;have hcost:=fun (G:Hp) (hG:H.Le G)=>hg.cost G hG _ _ (hr.mono hG) hn;have hmean:=fun (G:Hp) (hG:H.Le G)=>hg.mean G hG _ _ (hr.mono hG) hn;have hcnt:=fun e (G:Hp) (hG:H.Le G)=>hg.counts e G hG _ _ (hr.mono hG) hn;rw[hex]at hcost hmean hcnt;have hcl:=hg.cntlen rows;refine PW.body tO func133 rfl kR ntmps133 rfl rfl ?_;refine uR ?_;apply EV.drawn 12 kR kR;intro xv yw;(repeat refine' DD ?_);refine' vB (cO func67) (fun G hG hd=>za5 0 oM oM) (fun _ _ _ h k=>RQ.mono h k) ?_;rotate_left;(repeat (first|refine' DD ?_|refine' vN ?_|refine' vF ?_));refine' DJ.ofVal (zaa.loadOwn tO rfl rfl rfl rfl (0) rfl (rfl) rfl rfl) rfl rfl rfl ?_;rotate_left;(repeat refine' DD ?_);refine' vB (cO func177) (fun G hG hd=>hcost G hG) (fun _ _ _ h k=>RQ.mono h k) ?_;rotate_left;refine' vB (cO func67) (fun G hG hd=>za5 0 oM oM) (fun _ _ _ h k=>RQ.mono h k) ?_;rotate_left
 (refine' DJ.plainE tO (fun v G=>∃x1 x2 x3,RQ G x1 ((0:Int):Rat)∧RQ G x2 (p.cost rows)∧RQ G x3 ((0:Int):Rat)∧v=zt5 rows.length x1 x2 x3) (fun v G G' ⟨x1,x2,x3,h1,h2,h3,e⟩ k=>⟨x1,x2,x3,h1.mono k,h2.mono k,h3.mono k,e⟩) rfl rfl rfl (fun G hd=>(by
  obtain⟨a1,l1,c1,a2,l2,c2,e1,h1⟩:=hd.tail.tail.head kR;obtain⟨a3,l3,c3,a4,l4,c4,e2,h2⟩:=hd.tail.head kR;obtain⟨a5,l5,c5,a6,l6,c6,e3,h3⟩:=hd.head kR;refine⟨_,?_,_,_,_,⟨a1,l1,c1,a2,l2,c2,rfl,h1⟩,⟨a3,l3,c3,a4,l4,c4,rfl,h2⟩,⟨a5,l5,c5,a6,l6,c6,rfl,h3⟩,rfl⟩;rw[e1,e2,e3];rfl)) ?_;rotate_left)
 (repeat refine' DD ?_);(refine DJ.nil (fun G hG hF=>?_);(case hS|hS2=>rfl));obtain⟨⟨x1,x2,x3,h1,h2,h3,e⟩,_⟩:=hF;obtain⟨a1,l1,c1,a2,l2,c2,rfl,_⟩:=id h1;obtain⟨a3,l3,c3,a4,l4,c4,rfl,_⟩:=id h2;obtain⟨a5,l5,c5,a6,l6,c6,rfl,_⟩:=id h3;replace e:_=Value.agg #[.int .i64 (-1),.int .i64 0,.int .i64 0,.int .i64 (rows.length:Int),.int .i64 0,.bool (decide (((0:Int):Rat).num<0)),.slice a1 l1 c1,.slice a2 l2 c2,.bool (decide ((p.cost rows).num<0)),.slice a3 l3 c3,.slice a4 l4 c4,.bool (decide (((0:Int):Rat).num<0)),.slice a5 l5 c5,.slice a6 l6 c6,.slice none 0 0]:=e;rw[e];refine uR ?_;refine RP ?_;refine EVL.loadOwn tO rfl rfl rfl rfl rfl rfl (0) rfl (rfl) rfl rfl ?_;refine uR ?_;by_cases hk:kd=1
 ·subst hk;refine uR ?_;refine RP ?_;refine EVL.loadOwn tO rfl rfl rfl rfl rfl rfl (0) rfl (rfl) rfl rfl ?_;refine uR ?_;refine vA (hcnt rfl _ hG) ?_;intro r5 G5 hr5 hG5;obtain⟨a7,c7,rfl⟩:=SlC.val hr5;refine uR ?_;refine EVL.call rfl rfl rfl rfl rfl (zpj hr5 oM) ?_;rintro _ G6 rfl hG6;refine uR ?_;refine⟨rfl,_,rfl,_,_,.agg #[_,.slice a5 l5 c5,.slice a6 l6 c6],_,h1.mono (hG5.trans hG6),h2.mono (hG5.trans hG6),?_,hr5.mono hG6,rfl⟩;rw[show (p.nd rows).value=p.mean rows from rfl,hg.zero rfl];exact h3.mono (hG5.trans hG6)
 ·rw[show (kd == 1)=false from beq_eq_false_iff_ne.2 hk];have hno:=hg.no hk rows;refine uR ?_;refine RP ?_;refine EVL.loadOwn tO rfl rfl rfl rfl rfl rfl (0) rfl (rfl) rfl rfl ?_;refine uR ?_;refine vA (hmean _ hG) ?_;intro r5 G5 hr5 hG5;obtain⟨a8,l8,c8,a9,l9,c9,rfl,_⟩:=id hr5;refine uR ?_;refine⟨rfl,_,rfl,.agg #[_,.slice a1 l1 c1,.slice a2 l2 c2],_,_,.slice none 0 0,h1.mono hG5,h2.mono hG5,hr5,?_,?_⟩
  ·rw[show (p.nd rows).counts=p.cnt rows from rfl,hno];exact IL.nil _ _ _
  ·rw[show (p.nd rows).cls=(topN (p.cnt rows) (p.cnt rows).length:Int) from rfl,hno];rfl
theorem zpL (n m:Int) (hm:1≤m):(if n.tmod m<0 then n.tmod m+m else n.tmod m)=n % m:=by
 by_cases h:0≤n
 ·have e:n.tmod m=n % m:=Int.tmod_eq_emod_of_nonneg h;have:=Int.emod_nonneg n (show m≠0 by omega);rw[e,if_neg (by omega)]
 ·have e:n.tmod m = -((-n) % m):=by
   rw[show n = -(-n) by omega,Int.neg_tmod,Int.tmod_eq_emod_of_nonneg (by omega)];simp
  have h1:=Int.emod_nonneg (-n) (show m≠0 by omega);have h2:=Int.emod_lt_of_pos (-n) (show 0<m by omega);have h4:=Int.emod_nonneg n (show m≠0 by omega);have h5:=Int.emod_lt_of_pos n (show 0<m by omega);have h6:=Int.mul_ediv_add_emod n m;have h7:=Int.mul_ediv_add_emod (-n) m;have h8:m*(n / m + -n / m) = -(n % m + -n % m):=by rw[Int.mul_add];omega
  generalize n / m + -n / m=t at h8
  have h9:t=0∨t = -1:=by
   by_cases a:t ≤ -2
   ·have:m*t≤m*(-2):=Int.mul_le_mul_of_nonneg_left a oM;omega
   ·by_cases b:1≤t
    ·have:m*1≤m*t:=Int.mul_le_mul_of_nonneg_left b oM;omega
    ·omega
  rcases h9 with rfl | rfl
  ·rw[e,if_neg (by omega)];omega
  ·rw[e,if_pos (by omega)];omega
theorem ztW (n m:Int) (w:World) (hm:1≤m) (hm2:m≤1000000) :
  Calls prog 26 #[.int .i64 n,.int .i64 m] w fun e w'=>e=.returned (.int .i64 (n % m))∧w=w':=by
 have hp:=hid (zpL n m hm);have hr:n.tmod m<m:=Int.tmod_lt_of_pos _ oM;have hr2:-m<n.tmod m:=by have:=Int.lt_tmod_of_pos n (show 0<m by omega);omega
 by_cases hn:n.tmod m<0
 ·go_enter func26,ntmps26;go_wp2
  go_ret;have:=hp.out;rw[if_pos hn]at this;exact⟨zfj this,rfl⟩
 ·go_enter func26,ntmps26;go_wp2
  go_ret;have:=hp.out;rw[if_neg (by omega)]at this;exact⟨zfj this,rfl⟩
theorem zqy (s:Int) (w:World) :
  Calls prog 31 #[.int .u64 s] w fun e w'=>e=.returned (.pointer (some ⟨w.heap.size,0,none⟩))∧w'=w.alloc (.cells #[.int .u64 s] 164):=by
 go_enter func31,ntmps31;go_wp2
 go_ret;exact⟨rfl,rfl⟩
theorem zoy (b:Nat) (s:Int) (w:World) (hc:w.cell? ⟨b,0,none⟩=some (.int .u64 s)) (hf:w.frozen? ⟨b,0,none⟩=false) :
  Calls prog 164 #[.pointer (some ⟨b,0,none⟩)] w fun e w'=>e=.returned (.int .u64 (mix (nxt s)))∧w'=w.setCell ⟨b,0,none⟩ (.int .u64 (nxt s)):=by
 go_enter func164,ntmps164;go_wp2
 go_ret;exact⟨rfl,rfl⟩
theorem zjM (b:Nat) (s:Int) (w:World) (h:Die w b s) :
  Calls prog 164 #[.pointer (some ⟨b,0,none⟩)] w fun e w'=>e=.returned (.int .u64 (mix (nxt s)))∧Die w' b (nxt s)∧zaQ (·=b) w w'∧w'.heap.size=w.heap.size:=by
 refine(zoy b s w h.cell h.free).mono ?_;rintro e w' ⟨rfl,rfl⟩;exact⟨rfl,h.set (zeM s).1,(zaQ.refl (fun x=>x=b) w).setCell (p:=⟨b,0,none⟩) (fun _=>rfl) _,by simp⟩
theorem zoK (n:Int) (h:1≤n) (h2:n≤1000000):IntKind.u64.wrap (18446744073709551615-(IntKind.u64.wrap (18446744073709551615 % n+1)).tmod n)=znj n:=by
 have h1:=Int.emod_nonneg 18446744073709551615 (show n≠0 by omega);have h3:=Int.emod_lt_of_pos 18446744073709551615 (show 0<n by omega);rw[zdS (18446744073709551615 % n+1),Int.emod_eq_of_lt oM oM,Int.tmod_eq_emod_of_nonneg oM,Int.emod_add_emod];have h4:=Int.emod_nonneg (18446744073709551615+1) (show n≠0 by omega);have h5:=Int.emod_lt_of_pos (18446744073709551615+1) (show 0<n by omega);rw[zdS,Int.emod_eq_of_lt oM (by omega)];rfl
theorem zm1 (b:Nat) (n s:Int) (w:World) (h:Die w b s) (hn:1≤n) (hn2:n≤1000000) :
  Calls prog 112 #[.pointer (some ⟨b,0,none⟩),.int .i64 n] w fun e w'=>e=.returned (.int .i64 (below n s).1)∧Die w' b (below n s).2∧zaQ (·=b) w w'∧w'.heap.size=w.heap.size:=by
 go_enter func112,ntmps112;go_wp2;rw[zoK n hn hn2]
 go_loopg [7] (left s) (fun k _ wr=>∃t,left t=k∧Die wr b t∧below n s=below n t∧zaQ (·=b) w wr∧wr.heap.size=w.heap.size)
 case atStart=>exact⟨s,rfl,h,rfl,zaQ.refl _ _,rfl⟩
 case round =>
  obtain⟨t,hl,hd,hb,hk,hz⟩:=hrel;have HB:=hid hb;have HZ:=hid hz;have HL:=hid hl;clear hb hz hl;by_cases hc:mix (nxt t)≤znj n
  ·have HT:=hid (ze2 n t hc);have hm:=(zjY (nxt t)).1
   go_wp2_with fail;refine(zjM b t wr hd).mono ?_;rintro e w1 ⟨rfl,hd1,hk1,hz1⟩;have HZ1:=hid hz1;clear hz1;go_wp2
   go_ret;rw[HB.out,HT.out];have:=Int.emod_lt_of_pos (mix (nxt t)) (show 0<n by omega);have:=Int.emod_nonneg (mix (nxt t)) (show n≠0 by omega);exact⟨zfj (IntWalk.wrap64_in _ ⟨by omega,by omega⟩),hd1,hk.trans hk1,by rw[HZ1.out,HZ.out]⟩
  ·have HT:=hid (ze1 n t hn oM hc);have HW:=hid (zc1 n t hn oM hc);have hc':decide (mix (nxt t)≤znj n)=false:=by simpa using hc
   go_wp2_with fail;refine(zjM b t wr hd).mono ?_;rintro e w1 ⟨rfl,hd1,hk1,hz1⟩;have HZ1:=hid hz1;clear hz1;go_wp2
   go_roundg (left (nxt t))
   case measure=>rw[←HL.out];exact HW.out
   case rel=>exact⟨_,rfl,hd1,by rw[HB.out,HT.out],hk.trans hk1,by rw[HZ1.out,HZ.out]⟩
theorem Tryz.infoInt:(Tryz.prog.info? 3).map (fun i=>(i.zero,i.size,i.bytes))=some (some (.int .i64 0),1,8):=by kernel_rfl
theorem zjX (n:Nat) (w:World) (h:n≤1000000):(Instr.makeSlice 22 (.int .i64 n) (.int .i64 n)).run prog w=.ok (.slice (some ⟨w.heap.size,0,none⟩) n n) (w.alloc (.cells (cellsOf i64 (List.replicate n 0)) 3)):=by
 obtain⟨i0,hi,hz0,hz1,hz2⟩:=info_parts Tryz.infoInt;have:=run_make (P:=prog) w 22 3 i0 (.int .i64 0) Tryz.underlying22 hi hz0 .i64 .i64 n n oM oM (by rw[hz2];omega) oM;rw[this,hz1];simp only[Int.toNat_natCast,Nat.mul_one,Value.cells];rw[show (#[Value.int .i64 0])=#[i64 0] from rfl,zfC]
theorem zm7 (b:Nat) (n:Nat) (s:Int) (w:World) (h:Die w b s) (hn:1≤n) (hn2:n≤65536) :
  Calls prog 58 #[.pointer (some ⟨b,0,none⟩),.int .i64 n] w fun e w' =>
   ∃B,w.heap.size≤B∧e=.returned (.slice (some ⟨B,0,none⟩) n n)∧Blk i64 w' B (zat n s).1∧Die w' b (zat n s).2∧zaQ (·=b) w w':=by
 have hmk:=fun w=>zjX n w oM
 go_enter func58,ntmps58;go_wp2
 go_loopg [20] n (fun g i wr=>∃j:Nat,j+g=n∧i=.int .i64 j∧Blk i64 wr w.heap.size (zgb j++List.replicate g 0)∧Die wr b s∧zaQ (·=b) w wr)
 case atStart=>exact⟨0,by omega,rfl,Blk.new _ _ _ _,h.below ((Below.refl _ _).alloc (qH _) _),(zaQ.refl _ _).alloc _⟩
 case round =>
  obtain⟨j,hj,rfl,hB,hd,hK⟩:=hrel;have hlen:=zby j;by_cases hlt:j<n
  ·have hjk:=hid hj;clear hj;have hl:=hid hlen;clear hlen;have hll:(zgb j++List.replicate gk 0).length=n:=by have:=hl.out;have:=hjk.out;simp;omega
   obtain⟨v0,hc⟩:=hB.has j oM;have hf:=hB.free j;have HL:=hid hll;clear hll;go_wp2
   go_roundg (gk-1)
   case measure=>have:=hjk.out;omega
   case rel =>
    refine⟨j+1,by have:=hjk.out;omega,by go_num,?_,?_,?_⟩
    ·have:=hB.set j (j:Int)
     have e:(zgb j++List.replicate gk 0).set j (j:Int)=zgb (j+1)++List.replicate (gk-1) 0:=by
      have:=hjk.out;obtain⟨g,rfl⟩:∃g,gk=g+1:=⟨gk-1,by omega⟩;rw[List.set_append_right _ _ (by rw[hl.out];omega),hl.out,zhl];simp[List.replicate_succ]
     rw[e]at this;exact this
    ·exact hd.other ⟨w.heap.size,j,none⟩ _ (by have:=h.lt;simp;omega)
    ·exact hK.setCell (p:=⟨w.heap.size,j,none⟩) (fun x=>absurd x (Nat.lt_irrefl _)) _
  ·obtain rfl:j=n:=by omega
   obtain rfl:gk=0:=by omega
   rw[List.replicate_zero,qG]at hB;obtain⟨wo,hwo⟩:∃wo:World,wo=wr:=⟨_,rfl⟩;rw[←hwo]at hB hd hK;subst hwo;go_wp2
   go_loopg [8] (j-1) (fun g i wr=>∃(l:List Int) (t:Int),g<j∧i=.int .i64 g∧Blk i64 wr w.heap.size l∧l.length=j∧Die wr b t∧zb5 g l t=zat j s∧zaQ (·=b) w wr)
   case atStart=>exact⟨zgb j,s,by omega,by congr 1;omega,hB,hlen,hd,rfl,hK⟩
   case round =>
    obtain⟨l,t,hg,rfl,hB,hlen,hd,ho,hK⟩:=hrel;have HO:=hid ho;have HN:=hid hlen;clear ho hlen;by_cases hlt:1≤gk
    ·go_wp2_with fail;refine(zm1 b _ _ wr hd oM oM).mono ?_;have hr:=zd7 (gk+1) t oM oM;generalize hbe:below (gk+1) t=be at *
     obtain⟨x,t'⟩:=be;obtain⟨r1,r2,r3,r4⟩:=hr;simp only at r1 r2;clear r3 r4;obtain⟨x,rfl⟩:=Int.eq_ofNat_of_zero_le r1;rintro e w1 ⟨rfl,hd1,hk1,hz1⟩;have HZ:=hid hz1;have HBE:=hid hbe;clear hz1 hbe;have hB1:=hB.kept hk1 (by have:=h.lt;omega);have hx:x<l.length:=by have:=HN.out;omega
     have hgl:gk<l.length:=by have:=HN.out;omega
     obtain⟨v,hv⟩:∃v,v=l.getD x 0:=⟨_,rfl⟩;obtain⟨u,hu⟩:∃v,v=l.getD gk 0:=⟨_,rfl⟩;have c1:w1.cell? ⟨w.heap.size,x,none⟩=some (.int .i64 v):=by rw[hv,hB1.cell x hx];simp[hx]
     have c2:w1.cell? ⟨w.heap.size,gk,none⟩=some (.int .i64 u):=by rw[hu,hB1.cell gk hgl];simp[hgl]
     have f1:=hB1.free x;have f2:=hB1.free gk;have hx':x<j:=by omega
     have HV:=hid hv;have HU:=hid hu;clear hv hu hx hgl;obtain⟨v',hy'⟩:=cell?_setCell_some (w:=w1) (p:=⟨w.heap.size,gk,none⟩) (x:=.int .i64 v) (q:=⟨w.heap.size,x,none⟩) (v:=.int .i64 v) c1;go_wp2
     go_region
     all_goals go_wp2
     all_goals go_roundg (gk-1)
     case measure=>omega
     case rel =>
      refine⟨zlB l gk x,t',by omega,by congr 1;omega,?_,by rw[zbZ];exact HN.out,?_,?_,?_⟩
      ·have:=((hB1.set gk v).set x u).drew;rw[HV.out,HU.out]at this;rw[HV.out,HU.out];exact this
      ·exact((hd1.other ⟨w.heap.size,gk,none⟩ _ (by have:=h.lt;simp;omega)).other ⟨w.heap.size,x,none⟩ _ (by have:=h.lt;simp;omega)).drew
      ·rw[←HO.out];obtain⟨g,rfl⟩:∃g,gk=g+1:=⟨gk-1,by omega⟩;have hh:=HBE.out;rw[show ((g+1:Nat):Int)+1=(g:Int)+2 by omega]at hh;simp[zb5,hh]
      ·exact(((hK.trans hk1).setCell (p:=⟨w.heap.size,gk,none⟩) (fun x=>absurd x (Nat.lt_irrefl _)) _).setCell (p:=⟨w.heap.size,x,none⟩) (fun x=>absurd x (Nat.lt_irrefl _)) _).drew
    ·obtain rfl:gk=0:=by omega
     go_wp2
     go_ret;have:=HO.out;simp only[zb5]at this;rw[←this];exact⟨w.heap.size,qH _,rfl,hB,hd,hK⟩
theorem zpm (b:Nat) (s:Int) (w:World) (hc:w.cell? ⟨b,0,none⟩=some (.int .u64 s)) (hf:w.frozen? ⟨b,0,none⟩=false) :
  Calls prog 226 #[.pointer (some ⟨b,0,none⟩)] w fun e w'=>e=.returned (.int .u64 (mix (nxt s)))∧w'=w.setCell ⟨b,0,none⟩ (.int .u64 (nxt s)):=by
 go_enter func226,ntmps226;go_wp2
 go_ret;exact⟨rfl,rfl⟩
theorem zkl (b:Nat) (s:Int) (w:World) (h:Die w b s) :
  Calls prog 226 #[.pointer (some ⟨b,0,none⟩)] w fun e w'=>e=.returned (.int .u64 (mix (nxt s)))∧Die w' b (nxt s)∧zaQ (·=b) w w'∧w'.heap.size=w.heap.size:=by
 refine(zpm b s w h.cell h.free).mono ?_;rintro e w' ⟨rfl,rfl⟩;exact⟨rfl,h.set (zeM s).1,(zaQ.refl (fun x=>x=b) w).setCell (p:=⟨b,0,none⟩) (fun _=>rfl) _,by simp⟩
theorem zpk (n:Int) (h:1≤n) (h2:n≤1000000):(IntKind.u64.wrap (-n)).tmod n=18446744073709551616 % n:=by
 rw[zdS,show -n % 18446744073709551616=18446744073709551616-n by omega,Int.tmod_eq_emod_of_nonneg oM,Int.sub_emod_right]
theorem znv (b:Nat) (n s:Int) (w:World) (h:Die w b s) (hn:1≤n) (hn2:n≤1000000) :
  Calls prog 180 #[.pointer (some ⟨b,0,none⟩),.int .i64 n] w fun e w'=>e=.returned (.int .i64 (below n s).1)∧Die w' b (below n s).2∧zaQ (·=b) w w'∧w'.heap.size=w.heap.size:=by
 go_enter func180,ntmps180;go_wp2;rw[zpk n hn hn2];have hR1:=Int.emod_nonneg 18446744073709551616 (show n≠0 by omega);have hR2:=Int.emod_lt_of_pos 18446744073709551616 (show 0<n by omega);have hRl:znj n=18446744073709551615-18446744073709551616 % n:=rfl;generalize (18446744073709551616:Int) % n=R at *
 have HR:=hid hRl;clear hRl;have hR3:R≤1000000:=by omega
 go_loopg [7] (left s) (fun k _ wr=>∃t,left t=k∧Die wr b t∧below n s=below n t∧zaQ (·=b) w wr∧wr.heap.size=w.heap.size)
 case atStart=>exact⟨s,rfl,h,rfl,zaQ.refl _ _,rfl⟩
 case round =>
  obtain⟨t,hl,hd,hb,hk,hz⟩:=hrel;have HB:=hid hb;have HZ:=hid hz;have HL:=hid hl;clear hb hz hl;by_cases hc:mix (nxt t)≤znj n
  ·have HT:=hid (ze2 n t hc);have hm:=(zjY (nxt t)).1;rw[HR.out]at hc
   go_wp2_with fail;refine(zkl b t wr hd).mono ?_;rintro e w1 ⟨rfl,hd1,hk1,hz1⟩;have HZ1:=hid hz1;clear hz1;go_wp2
   go_ret;rw[HB.out,HT.out];have:=Int.emod_lt_of_pos (mix (nxt t)) (show 0<n by omega);have:=Int.emod_nonneg (mix (nxt t)) (show n≠0 by omega);exact⟨zfj (IntWalk.wrap64_in _ ⟨by omega,by omega⟩),hd1,hk.trans hk1,by rw[HZ1.out,HZ.out]⟩
  ·have HT:=hid (ze1 n t hn oM hc);have HW:=hid (zc1 n t hn oM hc);rw[HR.out]at hc;have hc':decide (mix (nxt t)≤18446744073709551615-R)=false:=by simpa using hc
   go_wp2_with fail;refine(zkl b t wr hd).mono ?_;rintro e w1 ⟨rfl,hd1,hk1,hz1⟩;have HZ1:=hid hz1;clear hz1;go_wp2
   go_roundg (left (nxt t))
   case measure=>rw[←HL.out];exact HW.out
   case rel=>exact⟨_,rfl,hd1,by rw[HB.out,HT.out],hk.trans hk1,by rw[HZ1.out,HZ.out]⟩
theorem znM (b:Nat) (n:Nat) (s:Int) (w:World) (h:Die w b s) (hn:1≤n) (hn2:n≤65536) :
  Calls prog 134 #[.pointer (some ⟨b,0,none⟩),.int .i64 n] w fun e w' =>
   ∃B,w.heap.size≤B∧e=.returned (.slice (some ⟨B,0,none⟩) n n)∧Blk i64 w' B (zat n s).1∧Die w' b (zat n s).2∧zaQ (·=b) w w':=by
 have hmk:=fun w=>zjX n w oM
 go_enter func134,ntmps134;go_wp2
 go_loopg [6] n (fun g i wr=>∃j:Nat,j+g=n∧i=.int .i64 j∧Blk i64 wr w.heap.size (zgb j++List.replicate g 0)∧Die wr b s∧zaQ (·=b) w wr)
 case atStart=>exact⟨0,by omega,rfl,Blk.new _ _ _ _,h.below ((Below.refl _ _).alloc (qH _) _),(zaQ.refl _ _).alloc _⟩
 case round =>
  obtain⟨j,hj,rfl,hB,hd,hK⟩:=hrel;have hlen:=zby j;by_cases hlt:j<n
  ·have hjk:=hid hj;clear hj;have hl:=hid hlen;clear hlen;have hll:(zgb j++List.replicate gk 0).length=n:=by have:=hl.out;have:=hjk.out;simp;omega
   obtain⟨v0,hc⟩:=hB.has j oM;have hf:=hB.free j;have HL:=hid hll;clear hll;go_wp2
   go_roundg (gk-1)
   case measure=>have:=hjk.out;omega
   case rel =>
    refine⟨j+1,by have:=hjk.out;omega,by go_num,?_,?_,?_⟩
    ·have:=hB.set j (j:Int)
     have e:(zgb j++List.replicate gk 0).set j (j:Int)=zgb (j+1)++List.replicate (gk-1) 0:=by
      have:=hjk.out;obtain⟨g,rfl⟩:∃g,gk=g+1:=⟨gk-1,by omega⟩;rw[List.set_append_right _ _ (by rw[hl.out];omega),hl.out,zhl];simp[List.replicate_succ]
     rw[e]at this;exact this
    ·exact hd.other ⟨w.heap.size,j,none⟩ _ (by have:=h.lt;simp;omega)
    ·exact hK.setCell (p:=⟨w.heap.size,j,none⟩) (fun x=>absurd x (Nat.lt_irrefl _)) _
  ·obtain rfl:j=n:=by omega
   obtain rfl:gk=0:=by omega
   rw[List.replicate_zero,qG]at hB;obtain⟨wo,hwo⟩:∃wo:World,wo=wr:=⟨_,rfl⟩;rw[←hwo]at hB hd hK;subst hwo;go_wp2
   go_loopg [7] (j-1) (fun g i wr=>∃(l:List Int) (t:Int),g<j∧i=.int .i64 g∧Blk i64 wr w.heap.size l∧l.length=j∧Die wr b t∧zb5 g l t=zat j s∧zaQ (·=b) w wr)
   case atStart=>exact⟨zgb j,s,by omega,by congr 1;omega,hB,hlen,hd,rfl,hK⟩
   case round =>
    obtain⟨l,t,hg,rfl,hB,hlen,hd,ho,hK⟩:=hrel;have HO:=hid ho;have HN:=hid hlen;clear ho hlen;by_cases hlt:1≤gk
    ·go_wp2_with fail;refine(znv b _ _ wr hd oM oM).mono ?_;have hr:=zd7 (gk+1) t oM oM;generalize hbe:below (gk+1) t=be at *
     obtain⟨x,t'⟩:=be;obtain⟨r1,r2,r3,r4⟩:=hr;simp only at r1 r2;clear r3 r4;obtain⟨x,rfl⟩:=Int.eq_ofNat_of_zero_le r1;rintro e w1 ⟨rfl,hd1,hk1,hz1⟩;have HZ:=hid hz1;have HBE:=hid hbe;clear hz1 hbe;have hB1:=hB.kept hk1 (by have:=h.lt;omega);have hx:x<l.length:=by have:=HN.out;omega
     have hgl:gk<l.length:=by have:=HN.out;omega
     obtain⟨v,hv⟩:∃v,v=l.getD x 0:=⟨_,rfl⟩;obtain⟨u,hu⟩:∃v,v=l.getD gk 0:=⟨_,rfl⟩;have c1:w1.cell? ⟨w.heap.size,x,none⟩=some (.int .i64 v):=by rw[hv,hB1.cell x hx];simp[hx]
     have c2:w1.cell? ⟨w.heap.size,gk,none⟩=some (.int .i64 u):=by rw[hu,hB1.cell gk hgl];simp[hgl]
     have f1:=hB1.free x;have f2:=hB1.free gk;have hx':x<j:=by omega
     have HV:=hid hv;have HU:=hid hu;clear hv hu hx hgl;obtain⟨v',hy'⟩:=cell?_setCell_some (w:=w1) (p:=⟨w.heap.size,gk,none⟩) (x:=.int .i64 v) (q:=⟨w.heap.size,x,none⟩) (v:=.int .i64 v) c1;go_wp2
     go_region
     all_goals go_wp2
     all_goals go_roundg (gk-1)
     case measure=>omega
     case rel =>
      refine⟨zlB l gk x,t',by omega,by congr 1;omega,?_,by rw[zbZ];exact HN.out,?_,?_,?_⟩
      ·have:=((hB1.set gk v).set x u).drew;rw[HV.out,HU.out]at this;rw[HV.out,HU.out];exact this
      ·exact((hd1.other ⟨w.heap.size,gk,none⟩ _ (by have:=h.lt;simp;omega)).other ⟨w.heap.size,x,none⟩ _ (by have:=h.lt;simp;omega)).drew
      ·rw[←HO.out];obtain⟨g,rfl⟩:∃g,gk=g+1:=⟨gk-1,by omega⟩;have hh:=HBE.out;rw[show ((g+1:Nat):Int)+1=(g:Int)+2 by omega]at hh;simp[zb5,hh]
      ·exact(((hK.trans hk1).setCell (p:=⟨w.heap.size,gk,none⟩) (fun x=>absurd x (Nat.lt_irrefl _)) _).setCell (p:=⟨w.heap.size,x,none⟩) (fun x=>absurd x (Nat.lt_irrefl _)) _).drew
    ·obtain rfl:gk=0:=by omega
     go_wp2
     go_ret;have:=HO.out;simp only[zb5]at this;rw[←this];exact⟨w.heap.size,qH _,rfl,hB,hd,hK⟩
theorem PW.of_order {P:Program} {f:FuncId} {args:Array Value} {H:Hp} {b:Nat} {T:TypeId} {s s':Int} {l:List Int} (can:zaC P f) (hs:0≤s)
  (h:∀W,Die W b s→Calls P f args W fun e w'=>∃B,W.heap.size≤B∧e=.returned (.slice (some ⟨B,0,none⟩) l.length l.length)∧Blk i64 w' B l∧Die w' b s'∧zaQ (·=b) W w') :
  PW P f args H [(b,T,[.int .u64 s])] fun v ow H'=>(∃T',ow=[(b,T',[.int .u64 s'])])∧0≤s'∧IL H' v l∧∃a,v=.slice a l.length l.length:=by
 refine⟨can,fun W hf hg hL hd=>?_⟩;obtain⟨hB,hHb,_⟩:=hL 0 b T _ rfl;refine(h W ⟨hs,T,hB⟩).mono ?_;rintro e W' ⟨B,hBs,rfl,⟨T2,hblk⟩,⟨hs',T',hdie⟩,hk⟩
 have hBn:H B=none:=by
  cases hc:H B with
  | none=>rfl
  | some c=>have:=hf.lt (b:=B) (by rw[hc];simp);omega
 have hbB:b≠B:=by
  have:=hB.lt;omega
 refine⟨_,[(b,T',[.int .u64 s'])],H.put B (cellsOf i64 l),rfl,⟨⟨T',rfl⟩,hs',?_,_,rfl⟩,fun k c hc=>?_,fun k c hc=>?_,fun k c hc=>?_,hk.mono (fun k _ e=>by subst e;exact Ows.bs_mem (j:=0) rfl),fun j b' T1 cs hj=>?_,?_⟩
 ·exact⟨by simp,.inr ⟨B,0,l.length,cellsOf i64 l,rfl,qH _,by simp[Hp.put],fun q x hq=>by rw[Nat.zero_add];simpa[cellsOf] using hq⟩⟩
 ·have:k≠B:=fun e=>by subst e;rw[hBn]at hc;cases hc
  simp only[Hp.put,if_neg this];exact hc
 ·by_cases e:k=B
  ·subst e;simp only[Hp.put,if_true]at hc;cases hc;exact⟨T2,(0,0),hblk⟩
  ·simp only[Hp.put,if_neg e]at hc;obtain⟨T3,fz,hW⟩:=hf k c hc;refine⟨T3,fz,?_⟩;rw[hk.block k (hf.lt (by rw[hc];simp)) (fun e=>by subst e;rw[hHb]at hc;cases hc)];exact hW
 ·by_cases e:k=B
  ·subst e;simp only[Hp.put,if_true]at hc;cases hc;exact .inr ⟨hBs,T2,hblk⟩
  ·simp only[Hp.put,if_neg e]at hc;exact .inl hc
 ·cases j with
  | zero =>
   cases (show some (b,T',[Value.int .u64 s'])=some (b',T1,cs) from hj);exact⟨hdie,.inr (Ows.bs_mem (j:=0) rfl),by simp only[Hp.put,if_neg hbB];exact hHb⟩
  | succ j=>simp at hj
 ·intro j j' b' T1 T2 c1 c2 h1 h2
  cases j with
  | zero=>cases j' with
   | zero=>rfl
   | succ j'=>simp at h2
  | succ j=>simp at h1
theorem zcf (n:Nat) (s:Int):(zat n s).1.length=n:=by
 unfold zat
 rw[zhC,zby]
theorem zpn {H:Hp} {b n:Nat} {T:TypeId} {s:Int} (hs:0≤s) (hn:1≤n) (hn2:n≤65536) :
  PW prog 134 #[.pointer (some ⟨b,0,none⟩),.int .i64 (n:Int)] H [(b,T,[.int .u64 s])] fun v ow H'=>(∃T',ow=[(b,T',[.int .u64 (zat n s).2])])∧0≤(zat n s).2∧IL H' v (zat n s).1∧∃a,v=.slice a (zat n s).1.length (zat n s).1.length :=
 PW.of_order (cO func134) hs fun W hd=>by
  have:=znM b n s W hd hn hn2;rw[zcf];exact this
def zqc (G:Hp) (st:Option (Int × Rat × Rat)) (cs:List Value):Prop:=match st with
 | none=>cs=zny
 | some (c,t,g)=>∃x y,RQ G x t∧RQ G y g∧cs=.int .i64 c::(zac x++zac y)
theorem zqc.mono {G G':Hp} {st:Option (Int × Rat × Rat)} {cs:List Value} (h:zqc G st cs) (k:G.Le G'):zqc G' st cs:=by
 cases st with
 | none=>exact h
 | some p =>
  obtain⟨x,y,h1,h2,h3⟩:=h;exact⟨x,y,h1.mono k,h2.mono k,h3⟩
theorem zo9 {X:List (List Rat)} (h:∀x,x∈X→∀q,q∈x→ht q≤5) {c:Int} {es:List Int} {t:Rat} (ht':t∈plQ X c es):ht t≤100:=by
 by_cases ha:es.all (zcD X c)=true
 ·obtain⟨m,hm,hr⟩:=zkv (zbB X c) es;rw[←ziY (.inl ⟨ha,hm,hr⟩:zmL X c es m)]at ht';obtain⟨j,_,_,rfl⟩:=zgC ht';exact zsx h c m j
 ·unfold plQ at ht';rw[if_neg ha]at ht';cases ht'
theorem zsG (X:List (List Rat)) (c:Int) (es:List Int):(plQ X c es).length≤es.length:=by
 unfold plQ;split
 ·have:=zgD (zdW (es.map (zbB X c))) (es.length-1);omega
 ·exact Nat.zero_le _
theorem zqf {X:List (List Rat)} {cost:List Int→Rat} {es cols:List Int} {L c:Int} {i:Nat} (h:cols[i]?=some c):zaD X cost es L (cols.take (i+1))=zaD X cost es L (cols.take i)++zbC X cost es L c (plQ X c es):=by
 unfold zaD;rw[zap h,List.flatMap_append];simp
theorem zoq {X:List (List Rat)} {cost:List Int→Rat} {es:List Int} {L c:Int} {ts:List Rat} {j:Nat} {t:Rat} (h:ts[j]?=some t):zbC X cost es L c (ts.take (j+1))=zbC X cost es L c (ts.take j)++if L≤((zbd X c t es).length:Int)∧L≤((zaz X c t es).length:Int) then [(c,t,cost es-(cost (zbd X c t es)+cost (zaz X c t es)))] else []:=by
 unfold zbC;rw[zap h,List.flatMap_append];simp
theorem zf2 (a b:Rat):zct a b>0↔b<a:=by
 unfold zct;split
 ·rename_i h;exact⟨fun k=>absurd k (by decide),fun k=>by exfalso;grind⟩
 ·split
  ·rename_i h;exact⟨fun _=>h,fun _=>by decide⟩
  ·rename_i h;exact⟨fun k=>absurd k (by decide),fun k=>absurd k h⟩
theorem ziT (a b:Rat):zct a b<0↔a<b:=by
 unfold zct;split
 ·rename_i h;exact⟨fun _=>h,fun _=>by decide⟩
 ·rename_i h;split
  ·exact⟨fun k=>absurd k (by decide),fun k=>absurd k h⟩
  ·exact⟨fun k=>absurd k (by decide),fun k=>absurd k h⟩
theorem zqS (a b:Rat):(zct a b == 0)=decide (a=b):=by
 unfold zct;split
 ·rename_i h;rw[qC (fun e=>by subst e;exact Rat.lt_irrefl h)];rfl
 ·split
  ·rename_i h;rw[qC (fun e=>by subst e;exact Rat.lt_irrefl h)];rfl
  ·rename_i h1 h2;rw[qD (Rat.le_antisymm (Rat.not_lt.1 h2) (Rat.not_lt.1 h1))];rfl
theorem zhO {X:List (List Rat)} {cost:List Int→Rat} {es:List Int} {n:Nat} {L c:Int} {ts:List Rat} (hs:∀l:List Int,l.length≤300→(∀r,r∈l→0≤r∧r<(n:Int))→ht (cost l)≤2000000) (he:es.length≤300) (hb:∀r,r∈es→0≤r∧r<(n:Int)) (hts:∀t,t∈ts→ht t≤100) {p:Int × Rat × Rat} (h:p∈zbC X cost es L c ts):ht p.2.1≤100∧ht p.2.2≤8000000:=by
 unfold zbC at h;obtain⟨t,ht',hp⟩:=List.mem_flatMap.1 h;split at hp
 ·obtain rfl:=List.mem_singleton.1 hp;have h1:=hs _ (qI (List.length_filter_le _ _) he:(zbd X c t es).length≤300) (fun r hr=>hb r (List.mem_filter.mp hr).1);have h2:=hs _ (qI (List.length_filter_le _ _) he:(zaz X c t es).length≤300) (fun r hr=>hb r (List.mem_filter.mp hr).1);have h3:=hs es he hb;have h4:=zd0 (cost (zbd X c t es)) (cost (zaz X c t es));have h5:=zjR (cost es) (cost (zbd X c t es)+cost (zaz X c t es));exact⟨hts t ht',by dsimp only;omega⟩
 ·cases hp
theorem zgk {X:List (List Rat)} {cost:List Int→Rat} {es:List Int} {n:Nat} {L:Int} {cols:List Int} (hs:∀l:List Int,l.length≤300→(∀r,r∈l→0≤r∧r<(n:Int))→ht (cost l)≤2000000) (he:es.length≤300) (hb:∀r,r∈es→0≤r∧r<(n:Int)) (hq:∀x,x∈X→∀q,q∈x→ht q≤5) {p:Int × Rat × Rat} (h:p∈zaD X cost es L cols):ht p.2.1≤100∧ht p.2.2≤8000000:=by
 unfold zaD at h;obtain⟨c,_,hp⟩:=List.mem_flatMap.1 h;exact zhO hs he hb (fun t ht'=>zo9 hq ht') hp
theorem znB {H:Hp} {kd cl:Int} {la va:Option Addr} {ln lc vn vc:Nat} {vx vr vcol:Value} {X:List (List Rat)} {rs cols:List Int} {least:Int} {cost:List Int→Rat}
  (hchk:PC prog 132 #[zai kd cl (.slice la ln lc) (.slice va vn vc)] H fun r _=>r=.int .i64 0) (hlen:PV prog 131 #[zai kd cl (.slice la ln lc) (.slice va vn vc)] (.int .i64 (X.length:Int)))
  (hcost:∀G,H.Le G→∀u l,IL G u l→l.length≤300→PC prog 177 #[zai kd cl (.slice la ln lc) (.slice va vn vc),u] G fun r H'=>RQ H' r (cost (exL l X.length)))
  (hsmall:∀l:List Int,l.length≤300→(∀r,r∈l→0≤r∧r<(X.length:Int))→ht (cost l)≤2000000)
  (hX:RLL H vx X) (hq:∀x,x∈X→∀q,q∈x→ht q≤5) (hr:IL H vr rs) (hn:rs.length≤300) (hc:IL H vcol cols) (hcn:cols.length≤1000) :
  PC prog 135 #[zai kd cl (.slice la ln lc) (.slice va vn vc),vx,vr,vcol,.int .i64 least] H fun r H'=>∃cs,zqc H' ((zaD X cost (exL rs X.length) (max 1 least) cols).foldl zf3 none) cs∧r=.tuple #[.agg cs.toArray,.bool ((zaD X cost (exL rs X.length) (max 1 least) cols).foldl zf3 none).isSome]:=by
 have hel:=zbg rs X.length;have heb:=zcC (rs:=rs) (n:=X.length);have hrq:∀x,x∈X→∀q,q∈x→rq q:=fun x hx q hm=>qI (hq x hx q hm) oM;obtain⟨ra,rc,rfl⟩:=SlC.val hr;obtain⟨xa,xc,rfl⟩:=hX.val;obtain⟨ca,cc,rfl⟩:=SlC.val hc;refine BD func135 ntmps135 ?_
 repeat (first|refine RUN ?_|refine CV (hchk) ?_|refine CV (hlen) ?_|refine CE (hchk) ?_|refine CE (hlen) ?_)
 rw[show ((X.length:Int) != (X.length:Int))=false from bne_self_eq_false _];refine uR ?_;refine vA (hcost _ (Hp.Le.refl _) _ _ hr hn) ?_;intro rall G1 hall hG1;obtain⟨wa,wl,wc,za,zl,zc,rfl,hw1,hw2⟩:=id hall;have hsa:=hsmall (exL rs X.length) oM heb;refine uR ?_;refine EV.loopK (ι:=Nat × List Value) [1,2,3,4,5,10,12,14] [5,10,14] (fun q=>[(13,.v (.bool ((zaD X cost (exL rs X.length) (max 1 least) (cols.take q.1)).foldl zf3 none).isSome)),(15,.v (.int .i64 (q.1:Int)))]) (fun q=>[(12,211,q.2)]) (fun _=>[]) (fun q G=>q.1≤cols.length∧zqc G ((zaD X cost (exL rs X.length) (max 1 least) (cols.take q.1)).foldl zf3 none) q.2) (fun q=>cols.length-q.1) ((0,zny)) rfl rfl ⟨rfl,rfl,trivial⟩ ⟨rfl,trivial⟩ rfl (fun _=>rfl) (⟨Nat.zero_le _,rfl⟩) ?_;rintro⟨i,cs⟩ G2 hG2 ⟨hi,hcs⟩;dsimp only at hi hcs;refine uR ?_;refine EV.cond rfl (fun hlt=>?_) (fun hlt=>?_)
 ·simp only[nN]at hlt;obtain⟨c,hci⟩:=gE hlt;have hH2:=hG1.trans hG2;have hsn:=zqf (X:=X) (cost:=cost) (es:=exL rs X.length) (L:=max 1 least) hci;have hplh:∀t,t∈plQ X c (exL rs X.length)→ht t≤100:=fun t hm=>zo9 hq hm;refine uR ?_;refine vI ((hc.mono hH2)) (i) (rfl) (hlt) ((by rw[List.getElem?_map,hci];rfl)) ?_;refine uR ?_;refine vA (zki (col:=c) (hX.mono hH2) (hr.mono hH2) hn hq) ?_;intro rp G3 hP hG3;have hpll:(plQ X c (exL rs X.length)).length≤300:=by have:=zsG X c (exL rs X.length);omega
  generalize plQ X c (exL rs X.length)=P at *
  obtain⟨pa,pc,rfl⟩:=hP.val;refine uR ?_;refine EV.loopK (ι:=Nat × List Value) [1,2,3,4,5,10,12,14,15,16] [5,10,14] (fun q=>[(13,.v (.bool ((zaD X cost (exL rs X.length) (max 1 least) (cols.take i)++zbC X cost (exL rs X.length) (max 1 least) c (P.take q.1)).foldl zf3 none).isSome)),(17,.v (.int .i64 (q.1:Int)))]) (fun q=>[(12,211,q.2)]) (fun _=>[]) (fun q G=>q.1≤P.length∧zqc G ((zaD X cost (exL rs X.length) (max 1 least) (cols.take i)++zbC X cost (exL rs X.length) (max 1 least) c (P.take q.1)).foldl zf3 none) q.2) (fun q=>P.length-q.1) ((0,cs)) rfl rfl ⟨by rw[show zbC X cost (exL rs X.length) (max 1 least) c (P.take 0)=[] from rfl,qG];rfl,rfl,trivial⟩ ⟨rfl,trivial⟩ rfl (fun _=>rfl) (⟨Nat.zero_le _,by rw[show zbC X cost (exL rs X.length) (max 1 least) c (P.take 0)=[] from rfl,qG];exact hcs.mono hG3⟩) ?_;rintro⟨j,cs2⟩ G4 hG4 ⟨hj,hcs2⟩;dsimp only at hj hcs2;refine uR ?_;refine EV.cond rfl (fun hlj=>?_) (fun hlj=>?_)
  ·simp only[nN]at hlj;obtain⟨t,htj⟩:=gE hlj;have hth:=hplh t (qF htj);have hsn2:=zoq (X:=X) (cost:=cost) (es:=exL rs X.length) (L:=max 1 least) (c:=c) htj;have hP4:=hP.mono hG4;have hH4:=hH2.trans (hG3.trans hG4);have hc4:=hc.mono hH4;obtain⟨vs,y,hs,hcy,hy⟩:=hP4.at htj;obtain⟨ya,yl,yc,yb,ym,yd,rfl,hy1,hy2⟩:=id hy;have wn:IntKind.i64.wrap ((j:Int)+1)=((j+1:Nat):Int):=zab j oM;refine uR ?_;apply EV.drawn 15 kR kR;intro xv yw;(repeat refine' DD ?_);refine' vJ (hc4) (i) (rfl) (hlt) ((by rw[List.getElem?_map,hci];rfl)) ?_;rotate_left;(repeat refine' DD ?_);refine' DJ.idxM tO rfl rfl rfl rfl rfl rfl rfl rfl rfl (hs) (j) (rfl) (hlj) (hcy) ?_;rotate_left;(repeat refine' DD ?_);refine' vB (cO func136) (fun G hG hd=>zg4 (col:=c) (t:=t) ((hX.mono hH4).mono hG) ((hr.mono hH4).mono hG) oM hrq (RQ.mono hy hG) (qI hth oM)) (fun _ _ _ h k=>(by obtain⟨u,w,e,hu,hw⟩:=h;exact⟨u,w,e,hu.mono k,hw.mono k⟩)) ?_;rotate_left;refine' DJ.copy (10) (by first|exact .inl rfl|exact .inr rfl) rfl rfl rfl id rfl kR ?_;rotate_left;refine' DJ.extract (10) rfl rfl rfl rfl rfl kR (fun G hd=>(by obtain⟨u,w,e,_⟩:=hd.head kR;exact⟨_,e,Nat.zero_lt_succ _⟩)) ?_;rotate_left;refine' DJ.extract (10) rfl rfl rfl rfl rfl kR (fun G hd=>(by obtain⟨u,w,e,_⟩:=hd.head kR;exact⟨_,e,Nat.lt_succ_self _⟩)) ?_;rotate_left;refine' DJ.copy (10) (.inr rfl) rfl rfl rfl (zcr 0) rfl kR ?_;rotate_left;(refine DJ.nil (fun G hG hF=>?_);(case hS|hS2=>rfl));obtain⟨⟨u,w,e,hu,hw⟩,_⟩:=hF;rw[e];obtain⟨ua,uc,rfl⟩:=SlC.val hu;obtain⟨wa',wc',rfl⟩:=SlC.val hw;rw[show zcr 0 (Value.tuple #[.slice ua (zbd X c t (exL rs X.length)).length uc,.slice wa' (zaz X c t (exL rs X.length)).length wc'])=.slice ua (zbd X c t (exL rs X.length)).length uc from rfl,show zcr 1 (Value.tuple #[.slice ua (zbd X c t (exL rs X.length)).length uc,.slice wa' (zaz X c t (exL rs X.length)).length wc'])=.slice wa' (zaz X c t (exL rs X.length)).length wc' from rfl];refine uR ?_;rw[show (if least>1 then least else 1)=max 1 least by omega];have hlo3:(zbd X c t (exL rs X.length)).length≤300:=qI (List.length_filter_le _ _) oM;have hhi3:(zaz X c t (exL rs X.length)).length≤300:=qI (List.length_filter_le _ _) oM;have hlom:∀r,r∈zbd X c t (exL rs X.length)→0≤r∧r<(X.length:Int):=fun r hr=>heb r (List.mem_filter.mp hr).1;have hhim:∀r,r∈zaz X c t (exL rs X.length)→0≤r∧r<(X.length:Int):=fun r hr=>heb r (List.mem_filter.mp hr).1;have hxl:exL (zbd X c t (exL rs X.length)) X.length=zbd X c t (exL rs X.length):=zdn hlom;have hxh:exL (zaz X c t (exL rs X.length)) X.length=zaz X c t (exL rs X.length):=zdn hhim;generalize hlodef:zbd X c t (exL rs X.length)=lo at *
   generalize hhidef:zaz X c t (exL rs X.length)=hi' at *
   generalize hLdef:max 1 least=L at *
   by_cases hclo:(lo.length:Int)<L
   ·rw[qD hclo];rw[if_neg oM,qG]at hsn2;refine uR ?_;refine⟨(j+1,cs2),⟨by dsimp only;rw[hsn2];rfl,by dsimp only;rw[wn];rfl,trivial⟩,sB,⟨rfl,trivial⟩,sB,rfl,⟨hlj,by rw[hsn2];exact hcs2.mono hG⟩,hG,by dsimp only;omega⟩
   rw[qC hclo];refine uR ?_;rw[show (if least>1 then least else 1)=L by omega];by_cases hchi:(hi'.length:Int)<L
   ·rw[qD hchi];rw[if_neg oM,qG]at hsn2;refine uR ?_;refine⟨(j+1,cs2),⟨by dsimp only;rw[hsn2];rfl,by dsimp only;rw[wn];rfl,trivial⟩,sB,⟨rfl,trivial⟩,sB,rfl,⟨hlj,by rw[hsn2];exact hcs2.mono hG⟩,hG,by dsimp only;omega⟩
   rw[qC hchi];rw[if_pos ⟨by omega,by omega⟩]at hsn2;have hH5:=hH4.trans hG;have hc5:=hc.mono hH5;have hs5:=hs.mono hG;have hy5:=RQ.mono hy hG;have hal5:=RQ.mono hall (hG2.trans (hG3.trans (hG4.trans hG)));have hslo:=hsmall lo hlo3 hlom;have hshi:=hsmall hi' hhi3 hhim;have hclo5:∀G',G.Le G'→PC prog 177 #[zai kd cl (.slice la ln lc) (.slice va vn vc),.slice ua lo.length uc] G' fun r H'=>RQ H' r (cost lo):=fun G' k=>by have:=hcost G' (hH5.trans k) _ _ (hu.mono k) hlo3;rwa [hxl]at this
   have hchi5:∀G',G.Le G'→PC prog 177 #[zai kd cl (.slice la ln lc) (.slice va vn vc),.slice wa' hi'.length wc'] G' fun r H'=>RQ H' r (cost hi'):=fun G' k=>by have:=hcost G' (hH5.trans k) _ _ (hw.mono k) hhi3;rwa [hxh]at this
   have hsum:rq (cost lo+cost hi'):=by have:=zd0 (cost lo) (cost hi');unfold rq;omega
   have hgr:rq (cost (exL rs X.length)-(cost lo+cost hi')):=by have h1:=zd0 (cost lo) (cost hi');have h2:=zjR (cost (exL rs X.length)) (cost lo+cost hi');unfold rq;omega
   refine uR ?_;apply EV.drawn 19 kR kR;intro xv yw;(repeat refine' DD ?_);refine' vJ (hc5) (i) (rfl) (hlt) ((by rw[List.getElem?_map,hci];rfl)) ?_;rotate_left;(repeat refine' DD ?_);refine' DJ.idxM tO rfl rfl rfl rfl rfl rfl rfl rfl rfl (hs5) (j) (rfl) (hlj) (hcy) ?_;rotate_left;(repeat refine' DD ?_);refine' vB (cO func177) (fun G hG hd=>hclo5 G hG) (fun _ _ _ h k=>RQ.mono h k) ?_;rotate_left;(repeat refine' DD ?_);refine' vB (cO func177) (fun G hG hd=>hchi5 G hG) (fun _ _ _ h k=>RQ.mono h k) ?_;rotate_left;(repeat refine' DD ?_);refine' vB (cO func97) (fun G hG hd=>zdw (hd.tail.head kR) (hd.head kR) (by unfold rq;omega) (by unfold rq;omega)) (fun _ _ _ h k=>RQ.mono h k) ?_;rotate_left;(repeat refine' DD ?_);refine' vB (cO func182) (fun G hG hd=>zg5 (hal5.mono hG) (hd.head kR) (by unfold rq;omega) hsum) (fun _ _ _ h k=>RQ.mono h k) ?_;rotate_left;refine' DJ.fnP tO (16) (fun v=>Value.agg (Value.int IntKind.i64 c::(([Value.bool (decide (t.num<0)),Value.slice ya yl yc,Value.slice yb ym yd]:List Value)++zac v)).toArray) rfl rfl rfl kR (fun G hd=>(by obtain⟨sa,sl,sc,ta,tl,tc,e,_⟩:=(show RQ G (xv 16) (cost (exL rs X.length)-(cost lo+cost hi')) from hd.head kR);rw[show xv (0+1+1+1+1+1+1+1+1+1+1+1+1+1+1+1+1)=xv 16 from rfl,e];rfl)) ?_;rotate_left;(repeat refine' DD ?_);(refine DJ.nil (fun G7 hG7 hF7=>?_);(case hS|hS2=>rfl));obtain⟨h16,_⟩:=hF7;have hg16:RQ G7 (xv 16) (cost (exL rs X.length)-(cost lo+cost hi')):=h16;obtain⟨sa,sl,sc,ta,tl,tc,e16,_⟩:=id hg16;have e16':xv (0+1+1+1+1+1+1+1+1+1+1+1+1+1+1+1+1)=_:=e16;rw[e16'];rw[e16]at hg16;rw[show (Value.agg (Value.int .i64 c::(([Value.bool (decide (t.num<0)),Value.slice ya yl yc,Value.slice yb ym yd]:List Value)++zac (.agg #[.bool (decide ((cost (exL rs X.length)-(cost lo+cost hi')).num<0)),.slice sa sl sc,.slice ta tl tc]))).toArray)=.agg #[.int .i64 c,.bool (decide (t.num<0)),.slice ya yl yc,.slice yb ym yd,.bool (decide ((cost (exL rs X.length)-(cost lo+cost hi')).num<0)),.slice sa sl sc,.slice ta tl tc] from rfl];refine uR ?_;have hst:zqc G7 (List.foldl zf3 none (zaD X cost (exL rs X.length) L (cols.take i)++zbC X cost (exL rs X.length) L c (P.take j))) cs2:=hcs2.mono (hG.trans hG7);have hnew:List.foldl zf3 none (zaD X cost (exL rs X.length) L (cols.take i)++zbC X cost (exL rs X.length) L c (P.take (j+1)))=zf3 (List.foldl zf3 none (zaD X cost (exL rs X.length) L (cols.take i)++zbC X cost (exL rs X.length) L c (P.take j))) (c,t,cost (exL rs X.length)-(cost lo+cost hi')):=by rw[hsn2,←List.append_assoc,List.foldl_append];rfl
   have hstp:∀p,List.foldl zf3 none (zaD X cost (exL rs X.length) L (cols.take i)++zbC X cost (exL rs X.length) L c (P.take j))=some p→ht p.2.1≤100∧ht p.2.2≤8000000:=fun p e=>by
    have hf:=zcJ (zaD X cost (exL rs X.length) L (cols.take i)++zbC X cost (exL rs X.length) L c (P.take j));rw[e]at hf;rcases List.mem_append.1 hf.1 with hm | hm
    ·exact zgk hsmall oM heb hq hm
    ·exact zhO hsmall oM heb (fun t hm=>hplh t (List.mem_of_mem_take hm)) hm
   generalize List.foldl zf3 none (zaD X cost (exL rs X.length) L (cols.take i)++zbC X cost (exL rs X.length) L c (P.take j))=st at *
   cases st with
   | none =>
    have hcs':cs2=zny:=hst;subst hcs';apply EV.drawn 4 kR kR;intro xv yw;(repeat refine' DD ?_);refine' vB (cO func183) (fun G hG hd=>znc) (fun _ _ _ h k=>RQ.mono h k) ?_;rotate_left;(repeat refine' DD ?_);(refine DJ.nil (fun G8 hG8 hF8=>?_);(case hS|hS2=>rfl));obtain⟨h3,_⟩:=hF8;refine uR ?_;refine vA (zbw (RQ.mono hg16 hG8) h3 hgr (by unfold rq;rw[zcE];decide)) ?_;rintro _ G9 rfl hG9;refine uR ?_;refine⟨(j+1,[.int .i64 c,.bool (decide (t.num<0)),.slice ya yl yc,.slice yb ym yd,.bool (decide ((cost (exL rs X.length)-(cost lo+cost hi')).num<0)),.slice sa sl sc,.slice ta tl tc]),⟨by dsimp only;rw[hnew];rfl,by dsimp only;rw[wn];rfl,trivial⟩,sB,⟨rfl,trivial⟩,sB,rfl,⟨hlj,by rw[hnew];exact⟨_,_,RQ.mono hy5 (hG7.trans (hG8.trans hG9)),RQ.mono hg16 (hG8.trans hG9),rfl⟩⟩,hG.trans (hG7.trans (hG8.trans hG9)),by dsimp only;omega⟩
   | some p =>
    obtain⟨c1,t1,g1⟩:=p;obtain⟨hts,hgs⟩:=hstp _ rfl;dsimp only at hts hgs;obtain⟨x1,y1,hx1',hy1',rfl⟩:=hst;obtain⟨pa1,pl1,pc1,pb1,pm1,pd1,rfl,hp1,hp2⟩:=id hx1';obtain⟨qa1,ql1,qc1,qb1,qm1,qd1,rfl,hp3,hp4⟩:=id hy1';apply EV.drawn 4 kR kR;intro xv yw;(repeat refine' DD ?_);refine' vB (cO func183) (fun G hG hd=>znd (hy1'.mono hG)) (fun _ _ _ h k=>RQ.mono h k) ?_;rotate_left;(repeat refine' DD ?_);(refine DJ.nil (fun G8 hG8 hF8=>?_);(case hS|hS2=>rfl));obtain⟨h3,_⟩:=hF8;refine uR ?_;refine vA (zbw (RQ.mono hg16 hG8) h3 hgr (by unfold rq;omega)) ?_;rintro _ G9 rfl hG9;have hpx:=RQ.mono hx1' (hG8.trans hG9);have hpt:=RQ.mono hy5 (hG7.trans (hG8.trans hG9));generalize hgdef:cost (exL rs X.length)-(cost lo+cost hi')=g at *
    have hT:zkd (c,t,g) (c1,t1,g1)→zf3 (some (c1,t1,g1)) (c,t,g)=some (c,t,g):=fun k=>if_pos k;have hK:¬zkd (c,t,g) (c1,t1,g1)→zf3 (some (c1,t1,g1)) (c,t,g)=some (c1,t1,g1):=fun k=>if_neg k;refine uR ?_;by_cases hgt:g1<g
    ·rw[qD ((zf2 g g1).2 hgt)];rw[hT (.inl hgt)]at hnew;refine uR ?_;refine⟨(j+1,[.int .i64 c,.bool (decide (t.num<0)),.slice ya yl yc,.slice yb ym yd,.bool (decide (g.num<0)),.slice sa sl sc,.slice ta tl tc]),⟨by dsimp only;rw[hnew];rfl,by dsimp only;rw[wn];rfl,trivial⟩,sB,⟨rfl,trivial⟩,sB,rfl,⟨hlj,by rw[hnew];exact⟨_,_,hpt.mono (Hp.Le.refl _),(RQ.mono hg16 (hG8.trans hG9)).mono (Hp.Le.refl _),rfl⟩⟩,(hG.trans (hG7.trans (hG8.trans hG9))).trans (Hp.Le.refl _),by dsimp only;omega⟩
    rw[qC (fun k=>hgt ((zf2 g g1).1 k))];refine uR ?_;rw[zqS];by_cases heq:g=g1
    ·rw[qD heq];refine uR ?_;by_cases hc1:c<c1
     ·rw[qD hc1];rw[hT (.inr ⟨heq,.inl hc1⟩)]at hnew;refine uR ?_;refine⟨(j+1,[.int .i64 c,.bool (decide (t.num<0)),.slice ya yl yc,.slice yb ym yd,.bool (decide (g.num<0)),.slice sa sl sc,.slice ta tl tc]),⟨by dsimp only;rw[hnew];rfl,by dsimp only;rw[wn];rfl,trivial⟩,sB,⟨rfl,trivial⟩,sB,rfl,⟨hlj,by rw[hnew];exact⟨_,_,hpt.mono (Hp.Le.refl _),(RQ.mono hg16 (hG8.trans hG9)).mono (Hp.Le.refl _),rfl⟩⟩,(hG.trans (hG7.trans (hG8.trans hG9))).trans (Hp.Le.refl _),by dsimp only;omega⟩
     rw[qC hc1];refine uR ?_;by_cases hc2:c=c1
     ·rw[show (c == c1)=true from beq_iff_eq.2 hc2];refine uR ?_;refine vA (zbw hpt hpx (by unfold rq;omega) (by unfold rq;omega)) ?_;rintro _ G10 rfl hG10;refine uR ?_;by_cases htt:t<t1
      ·rw[qD ((ziT t t1).2 htt)];rw[hT (.inr ⟨heq,.inr ⟨hc2,htt⟩⟩)]at hnew;refine uR ?_;refine⟨(j+1,[.int .i64 c,.bool (decide (t.num<0)),.slice ya yl yc,.slice yb ym yd,.bool (decide (g.num<0)),.slice sa sl sc,.slice ta tl tc]),⟨by dsimp only;rw[hnew];rfl,by dsimp only;rw[wn];rfl,trivial⟩,sB,⟨rfl,trivial⟩,sB,rfl,⟨hlj,by rw[hnew];exact⟨_,_,hpt.mono hG10,(RQ.mono hg16 (hG8.trans hG9)).mono hG10,rfl⟩⟩,(hG.trans (hG7.trans (hG8.trans hG9))).trans hG10,by dsimp only;omega⟩
      rw[qC (fun k=>htt ((ziT t t1).1 k))];rw[hK (fun k=>by rcases k with k | ⟨_,k | ⟨_,k⟩⟩ <;> contradiction)]at hnew;refine uR ?_;refine⟨(j+1,[.int .i64 c1,.bool (decide (t1.num<0)),.slice pa1 pl1 pc1,.slice pb1 pm1 pd1,.bool (decide (g1.num<0)),.slice qa1 ql1 qc1,.slice qb1 qm1 qd1]),⟨by dsimp only;rw[hnew];rfl,by dsimp only;rw[wn];rfl,trivial⟩,sB,⟨rfl,trivial⟩,sB,rfl,⟨hlj,by rw[hnew];exact⟨_,_,hpx.mono hG10,(RQ.mono hy1' (hG8.trans hG9)).mono hG10,rfl⟩⟩,(hG.trans (hG7.trans (hG8.trans hG9))).trans hG10,by dsimp only;omega⟩
     rw[show (c == c1)=false from beq_eq_false_iff_ne.2 hc2];rw[hK (fun k=>by rcases k with k | ⟨_,k | ⟨k,_⟩⟩ <;> contradiction)]at hnew;refine uR ?_;refine⟨(j+1,[.int .i64 c1,.bool (decide (t1.num<0)),.slice pa1 pl1 pc1,.slice pb1 pm1 pd1,.bool (decide (g1.num<0)),.slice qa1 ql1 qc1,.slice qb1 qm1 qd1]),⟨by dsimp only;rw[hnew];rfl,by dsimp only;rw[wn];rfl,trivial⟩,sB,⟨rfl,trivial⟩,sB,rfl,⟨hlj,by rw[hnew];exact⟨_,_,hpx.mono (Hp.Le.refl _),(RQ.mono hy1' (hG8.trans hG9)).mono (Hp.Le.refl _),rfl⟩⟩,(hG.trans (hG7.trans (hG8.trans hG9))).trans (Hp.Le.refl _),by dsimp only;omega⟩
    rw[qC heq];rw[hK (fun k=>by rcases k with k | ⟨k,_⟩ <;> contradiction)]at hnew;refine uR ?_;refine⟨(j+1,[.int .i64 c1,.bool (decide (t1.num<0)),.slice pa1 pl1 pc1,.slice pb1 pm1 pd1,.bool (decide (g1.num<0)),.slice qa1 ql1 qc1,.slice qb1 qm1 qd1]),⟨by dsimp only;rw[hnew];rfl,by dsimp only;rw[wn];rfl,trivial⟩,sB,⟨rfl,trivial⟩,sB,rfl,⟨hlj,by rw[hnew];exact⟨_,_,hpx.mono (Hp.Le.refl _),(RQ.mono hy1' (hG8.trans hG9)).mono (Hp.Le.refl _),rfl⟩⟩,(hG.trans (hG7.trans (hG8.trans hG9))).trans (Hp.Le.refl _),by dsimp only;omega⟩
  ·simp only[nN]at hlj;obtain rfl:j=P.length:=by omega
   rw[List.take_length,←hsn]at hcs2 ⊢;refine uR ?_;refine⟨(i+1,cs2),⟨rfl,by rw[zab i (by omega)];rfl,trivial⟩,sB,⟨rfl,trivial⟩,sB,rfl,⟨hlt,hcs2⟩,hG3.trans hG4,by dsimp only;omega⟩
 ·simp only[nN]at hlt;obtain rfl:i=cols.length:=by omega
  rw[List.take_length]at hcs ⊢;generalize (zaD X cost (exL rs X.length) (max 1 least) cols).foldl zf3 none=st at *
  cases st with
  | none =>
   have hcs':cs=zny:=hcs;subst hcs';refine uR ?_;exact⟨zny,rfl,rfl⟩
  | some p =>
   obtain⟨c,t,g⟩:=p;obtain⟨x,y,h1,h2,rfl⟩:=hcs;obtain⟨xa,xl,xc,ya,yl,yc,rfl,hx1,hx2⟩:=id h1;obtain⟨xa',xl',xc',ya',yl',yc',rfl,hx3,hx4⟩:=id h2;refine uR ?_;exact⟨_,⟨_,_,h1,h2,rfl⟩,rfl⟩
section
variable {P:Program} {ops:Array Oper} {md:Region.Mode} {Q:Exit→Act→World→Prop} {I:World→Prop} {z:Option Nat}
def zp6 (md:Region.Mode) (ops:Array Oper) (L:Array Bool) (i:Nat):Bool:=(List.range ops.size).all fun k => !L.getD k false || match ops[k]? with
 | some o => !o.after.any fun e=>Region.binds md e && e.on == i
 | none=>true
theorem zjj {L:Array Bool} {i:Nat}:zp6 md ops L i=true↔∀k o,ops[k]?=some o→L.getD k false=true→∀e∈o.after,Region.binds md e=true→e.on≠i:=by
 unfold zp6;rw[List.all_eq_true];constructor
 ·intro h k o ho hk e he hb heq;have h1:=h k (List.mem_range.2 (Array.getElem?_eq_some_iff.1 ho).1);rw[hk,ho]at h1;simp only[Bool.not_true,Bool.false_or,Bool.not_eq_true',Array.any_eq_false']at h1;have:=h1 e he;simp[hb,heq]at this
 ·intro h k hk
  cases hL:L.getD k false with
  | false=>rfl
  | true =>
   obtain⟨o,ho⟩:∃o,ops[k]?=some o:=⟨_,Array.getElem?_eq_getElem (List.mem_range.1 hk)⟩;rw[ho];simp only[Bool.not_true,Bool.false_or,Bool.not_eq_true',Array.any_eq_false'];intro e he
   cases hb:Region.binds md e with
   | false=>simp
   | true=>have:=h k o ho hL e he hb;simpa using this
def zeL (z:Option Nat) (L:Array Bool):Bool:=match z with
 | none=>true
 | some k => !L.getD k false
def ztU (md:Region.Mode) (ops:Array Oper) (z:Option Nat) (i:Nat):Bool:=match z with
 | none=>true
 | some k => !(k == i) && match ops[k]? with
  | some o=>o.after.any fun e=>Region.binds md e && e.on == i
  | none=>false
def zdC (P:Program) (md:Region.Mode) (ops:Array Oper) (Q:Exit→Act→World→Prop) (I:World→Prop) (z:Option Nat):Nat→Array Bool→Act→World→Prop
 | 0,L,a,w=>(zeL z L=true→I w)∧Region.ready md ops L=[]∧Q .normal a w
 | f+1,L,a,w=>(zeL z L=true→I w)∧(Region.ready md ops L=[]→Q .normal a w)∧∀i,i∈Region.ready md ops L→wpOp P ops Q i (zdC P md ops Q I z f (L.setIfInBounds i true)) a w
theorem zdC.now:∀{f:Nat} {L:Array Bool} {a:Act} {w:World},zdC P md ops Q I z f L a w→zeL z L=true→I w
 | 0,_,_,_,h=>h.1
 | _+1,_,_,_,h=>h.1
theorem zdC.any:∀(f:Nat) (L:Array Bool) (a:Act) (w:World),zdC P md ops Q I z f L a w→wpAny P md ops Q f L a w
 | 0,_,_,_,h=>h.2
 | f+1,_,_,_,h=>⟨h.2.1,fun i hi=>wpOp_mono (fun a w k=>zdC.any f _ a w k) (h.2.2 i hi)⟩
def zit (P:Program) (ops:Array Oper) (I:World→Prop) (o:Oper) (v:Value) (a:Act):Prop :=
 Region.wanted o (yielded ops a.tmps)=true∧∀w,I w→(execOp a.eval o).run P w=.ok (.value v) w
theorem zit.op {i:Nat} {o:Oper} {v:Value} {a:Act} (hi:ops[i]?=some o) (hy:zit P ops I o v a) {K:Act→World→Prop} {w:World} (hw:I w) (h:K (a.put o.dst v) w):wpOp P ops Q i K a w:=by
 unfold wpOp;simp only[hi,hy.1,if_true,Oper.wp,hy.2 w hw,Oper.upon];exact .inl h
theorem zp1 {j:Nat} {oj:Oper} (hj:ops[j]?=some oj) {Y:Act→Prop} (k1:∀a u,Y a→Y (a.put oj.dst u)) (k2:∀(a:Act) d,Y a→Y { a with defers:=d::a.defers }) {K:Act→World→Prop} {a:Act} {w:World} (hy:Y a) (h:wpOp P ops Q j K a w):wpOp P ops Q j (fun a' w'=>Y a'∧K a' w') a w:=by
 unfold wpOp at *
 simp only[hj]at *
 split
 ·rename_i hw;rw[if_pos hw]at h;refine h.imp (fun h=>?_) id;unfold Oper.wp at *
  generalize (execOp a.eval oj).run P w=r at *
  cases r with
  | ok n w' =>
   cases n <;> simp only[Oper.upon]at h ⊢
   case value u=>exact⟨k1 _ _ hy,h⟩
   case skip=>exact⟨k1 _ _ hy,h⟩
   case defer d=>exact⟨k1 _ _ (k2 _ _ hy),h⟩
   case enter f args =>
    refine Calls.mono h fun e w'' he=>?_
    cases e with
    | returned u=>exact⟨k1 _ _ hy,he⟩
    | _=>exact he
   case row row args=>exact Rows.mono h fun u w'' he=>⟨k1 _ _ hy,he⟩
  | halt x w'=>cases x <;> simp only[Oper.upon]at h ⊢ <;> exact h
 ·rename_i hw;rw[if_neg hw]at h;exact⟨k1 _ _ hy,h⟩
theorem zm9 {oi oj:Oper} {v:Value} (h:oi.apart ops oj=true):Oper.apart ops { oi with op:=.move (.const v),guard:=none } oj=true:=by
 unfold Oper.apart at *
 rw[Bool.and_eq_true]at *
 refine⟨h.1,?_⟩
 cases oj.dst with
 | none=>rfl
 | some d=>rfl
theorem zlG {J:World→Prop} {i:Nat} {oi:Oper} {v:Value} (hi:ops[i]?=some oi) (hsel:Region.noSelect ops=true) (hQ:∀c a w,Q (.panic c) (a.put oi.dst v) w→Q (.panic c) a w) (hts:(ztU md ops z i=true∧∀w,I w→J w)∨((∀w,J w)∧z≠some i)) :
  ∀(f:Nat) (L:Array Bool) (a:Act) (w:World),(∀j oj,ops[j]?=some oj→j≠i→L.getD j true=false→(∀e∈oj.after,Region.binds md e=true→e.on≠i)→oi.apart ops oj=true)→zp6 md ops L i=true →
   i∈Region.ready md ops L→zit P ops J oi v a→zdC P md ops Q I z f (L.setIfInBounds i true) (a.put oi.dst v) w→zdC P md ops Q I z (f+1) L a w:=by
 have now:∀{f:Nat} {L:Array Bool} {a:Act} {w:World},zp6 md ops L i=true→zdC P md ops Q I z f (L.setIfInBounds i true) (a.put oi.dst v) w→(zeL z L=true→I w)∧J w:=fun {f L a w} hy H=>by
  rcases hts with ⟨hz,hJ⟩ | ⟨hJ,hz⟩
  ·have hI:I w:=H.now (by
    cases z with
    | none=>rfl
    | some k =>
     simp only[ztU,Bool.and_eq_true,Bool.not_eq_true',beq_eq_false_iff_ne]at hz;obtain⟨hki,hk⟩:=hz;show (!(L.setIfInBounds i true).getD k false)=true;rw[Go.getD_set_ne false (Ne.symm hki)]
     cases hL:L.getD k false with
     | false=>rfl
     | true =>
      cases ho:ops[k]? with
      | none=>rw[ho]at hk;cases hk
      | some o =>
       rw[ho]at hk;obtain⟨e,he,hb⟩:=Array.any_eq_true'.1 hk;simp only[Bool.and_eq_true,beq_iff_eq]at hb;exact absurd hb.2 (zjj.1 hy k o ho hL e he hb.1))
   exact⟨fun _=>hI,hJ _ hI⟩
  ·refine⟨fun h=>H.now ?_,hJ w⟩
   cases z with
   | none=>rfl
   | some k =>
    have hki:i≠k:=fun e=>hz (by rw[e]);show (!(L.setIfInBounds i true).getD k false)=true;rw[Go.getD_set_ne false hki];exact h
 intro f
 induction f with
 | zero =>
  intro L a w _ hy hr hY H;refine⟨(now hy H).1,fun h=>(by rw[h]at hr;cases hr),fun j hj=>?_⟩;by_cases hji:j=i
  ·subst hji;exact hY.op hi (now hy H).2 H
  ·have:=ready_mono hj hji;rw[H.2.1]at this;cases this
 | succ f ih =>
  intro L a w hfree hyt hr hy H;refine⟨(now hyt H).1,fun h=>(by rw[h]at hr;cases hr),fun j hj=>?_⟩;by_cases hji:j=i
  ·subst hji;exact hy.op hi (now hyt H).2 H
  ·have h1:=H.2.2 j (ready_mono hj hji);obtain⟨hjun,oj,hoj,hall⟩:=mem_ready.1 hj
   have hnot:∀e∈oj.after,Region.binds md e=true→e.on≠i:=fun e he hb heq=>by
    have h1:=hall e he hb;have h0:=(mem_ready.1 hr).1;rw[heq]at h1;rcases Nat.lt_or_ge i L.size with h' | h'
    ·simp[h']at h0 h1;rw[h0]at h1;cases h1
    ·simp[Array.getElem?_eq_none h']at h1
   have hap:=hfree j oj hoj hji hjun hnot;obtain⟨_,_,hap3⟩:=Oper.apart_spec hap;have hsi:=fun cs b=>Region.noSelect_spec hsel i oi cs b hi
   have h2:=wpOp_put (oi:={ oi with op:=.move (.const v),guard:=none }) hoj (zm9 hap) (fun cs b e=>by cases e) (fun cs b=>Region.noSelect_spec hsel j oj cs b hoj) hQ
    (.inl ⟨rfl,fun w=>rfl⟩) h1
   have h3:=zp1 (Y:=zit P ops J oi v) hoj (fun a u hy=>⟨by rw[wanted_put oi a oj.dst u hap3];exact hy.1,fun w hw=>by rw[execOp_put oi hsi a oj.dst u hap3];exact hy.2 w hw⟩) (fun a d hy=>hy) hy h2
   have hfree':∀k ok,ops[k]?=some ok→k≠i→(L.setIfInBounds j true).getD k true=false→(∀e∈ok.after,Region.binds md e=true→e.on≠i)→oi.apart ops ok=true:=fun k ok hk hki hun hno=>by
    refine hfree k ok hk hki ?_ hno;by_cases hjk:j=k
    ·subst hjk;exact hjun
    ·rw[Go.getD_set_ne true hjk]at hun;exact hun
   have hyt':zp6 md ops (L.setIfInBounds j true) i=true:=zjj.2 fun k o ho hk=>by
    by_cases hjk:j=k
    ·subst hjk;cases hoj.symm.trans ho;exact hnot
    ·rw[Go.getD_set_ne false hjk]at hk;exact zjj.1 hyt k o ho hk
   refine wpOp_mono (fun a' w' h4=>ih (L.setIfInBounds j true) a' w' hfree' hyt' (ready_mono hr (Ne.symm hji)) h4.1 ?_) h3;rw[Array.setIfInBounds_comm _ _ hji];exact h4.2.2
end
def EVG (I:World→Prop) (z:Option Nat) (P:Program) (n:Nat) (ops:Array Oper) (fuel:Nat) (L:Array Bool) (env:Env) (bx:Bxs) (H:Hs) (K:Env→Bxs→Hs→Prop):Prop :=
 ∀W0 β a W,Rel n W0 H.base β env bx H a W→zdC P .any ops (fun e a W=>e=.normal∧zjV n W0 H.base (fun _ env bx H=>K env bx H) .normal a W) I z fuel L a W
abbrev EVI (z:Option Nat) (p:Nat × TypeId × List Value) (P:Program) (n:Nat) (ops:Array Oper) (fuel:Nat) (L:Array Bool) (env:Env) (bx:Bxs) (H:Hs) (K:Env→Bxs→Hs→Prop):Prop :=
 EVG (fun W=>Box W p.1 p.2.2.toArray p.2.1) z P n ops fuel L env bx H K
section
variable {I:World→Prop} {z:Option Nat} {p:Nat × TypeId × List Value} {n:Nat} {ops:Array Oper} {fuel:Nat} {L:Array Bool} {env:Env} {bx:Bxs} {H:Hs} {K:Env→Bxs→Hs→Prop} {d:Nat} {o:Oper} {v:Value}
theorem EVG.start (I:World→Prop) (z:Option Nat) {id:Nat} {l:List Oper} {Q:EQ} (h:EVG I z prog n l.toArray l.length (Array.replicate l.length false) env bx H (fun env bx H=>Q .normal env bx H)) (hm:Tryz.prog.follows .mixedOrders=true:=by kernel_rfl):EV prog n (.region id l.toArray true) env bx H Q :=
 EVA.start hm fun W0 β a W r=>(h W0 β a W r).any _ _ _ _
theorem EVI.start (z:Option Nat) (p:Nat × TypeId × List Value) {id:Nat} {l:List Oper} {Q:EQ} (h:EVI z p prog n l.toArray l.length (Array.replicate l.length false) env bx H (fun env bx H=>Q .normal env bx H)) (hm:Tryz.prog.follows .mixedOrders=true:=by kernel_rfl):EV prog n (.region id l.toArray true) env bx H Q:=EVG.start _ z h hm
theorem EVG.take {J:World→Prop} (i:Nat) (hts:(ztU .any ops z i=true∧∀w,I w→J w)∨((∀w,J w)∧z≠some i)) (hi:ops[i]?=some o) (hs:Region.noSelect ops=true) (hf:Region.free .any ops L i=true) (hr:(Region.ready .any ops L).contains i=true) (hy:zp6 .any ops L i=true) (hw:zah ops env o=some true) (hd:o.dst=some d) (hn:Nat.blt d n=true)
  (hx:∀(β:Nat→Nat) (a:Act) (W:World),(∀y s,env.op y=some s→s.rep β H.ro (a.eval y))→J W→(execOp a.eval o).run prog W=.ok (.value v) W)
  (h:EVG I z prog n ops fuel (L.setIfInBounds i true) ((d,.v v)::env) bx H K):EVG I z prog n ops (fuel+1) L env bx H K:=fun W0 β a W r=>by
 refine zlG (v:=v) hi hs (fun c a w e=>by cases e.1) hts fuel L a W (Region.free_spec hi hf) hy (by simpa using hr) ⟨r.want hw,fun w hI=>hx β a w (fun y s hy=>r.op hy) hI⟩ ?_;rw[hd];exact h W0 β _ W (r.put hn rfl rfl)
theorem IV (i:Nat) (h:EVG I z prog n ops fuel (L.setIfInBounds i true) ((d,.v v)::env) bx H K) (hi:ops[i]?=some o:=by exact rfl) (hs:Region.noSelect ops=true:=by kernel_rfl) (hf:Region.free .any ops L i=true:=by kernel_rfl) (hr:(Region.ready .any ops L).contains i=true:=by kernel_rfl) (hy:zp6 .any ops L i=true:=by kernel_rfl) (hts:(z == some i)=false:=by kernel_rfl) (hw:zah ops env o=some true:=by exact rfl) (hd:o.dst=some d:=by exact rfl) (hn:Nat.blt d n=true:=by exact rfl)
  (hv:zqb Tryz.tab env [] o.op=some (.v v):=by exact rfl) (hpl:zkb env o.op.operands.toList=true:=by exact rfl):EVG I z prog n ops (fuel+1) L env bx H K :=
 EVG.take (J:=fun _=>True) i (.inr ⟨fun _=>trivial,fun e=>by rw[e]at hts;simp at hts⟩) hi hs hf hr hy hw hd hn (fun β a W he _=>by
  obtain⟨x,hx,hr⟩:=zch (β:=β) (H:=fun _=>none) (W:=W) (a:=a) tO hv (fun y s hm hy=>zkc (zff hpl y (by simpa using hm)) hy (he y s hy)) (fun i T cs e=>by cases e) (fun b c e=>by cases e);have e:x=v:=hr;rw[←e];exact hx) h
theorem IN (i:Nat) {x:Operand} {c:Addr} (h:EVG I z prog n ops fuel (L.setIfInBounds i true) ((d,.v (.pointer (some c)))::env) bx H K) (hi:ops[i]?=some o:=by exact rfl) (hs:Region.noSelect ops=true:=by kernel_rfl) (hf:Region.free .any ops L i=true:=by kernel_rfl) (hr:(Region.ready .any ops L).contains i=true:=by kernel_rfl) (hy:zp6 .any ops L i=true:=by kernel_rfl) (hts:(z == some i)=false:=by kernel_rfl) (hw:zah ops env o=some true:=by exact rfl) (hd:o.dst=some d:=by exact rfl) (hn:Nat.blt d n=true:=by exact rfl)
  (ho:o.op=.nilCheck x:=by exact rfl) (hx:env.op x=some (.v (.pointer (some c))):=by exact rfl):EVG I z prog n ops (fuel+1) L env bx H K :=
 EVG.take (J:=fun _=>True) i (.inr ⟨fun _=>trivial,fun e=>by rw[e]at hts;simp at hts⟩) hi hs hf hr hy hw hd hn (fun β a W he _=>zi3 ho hx _ W fun y x _ hy=>he y _ hy) h
theorem IF (i:Nat) {x:Operand} {T:TypeId} {te:TE} {f b q fo sz:Nat} {ag:Bool} (h:EVG I z prog n ops fuel (L.setIfInBounds i true) ((d,.v (.pointer (some ⟨b,q+fo,none⟩)))::env) bx H K) (hi:ops[i]?=some o:=by exact rfl) (hs:Region.noSelect ops=true:=by kernel_rfl) (hf:Region.free .any ops L i=true:=by kernel_rfl) (hr:(Region.ready .any ops L).contains i=true:=by kernel_rfl) (hy:zp6 .any ops L i=true:=by kernel_rfl) (hts:(z == some i)=false:=by kernel_rfl) (hw:zah ops env o=some true:=by exact rfl) (hd:o.dst=some d:=by exact rfl) (hn:Nat.blt d n=true:=by exact rfl)
  (ho:o.op=.fieldAddr T x f:=by exact rfl) (hx:env.op x=some (.v (.pointer (some ⟨b,q,none⟩))):=by exact rfl) (ht:Tryz.tab.get T=some te:=by exact rfl) (hfd:te.fields[f]?=some (fo,ag,sz):=by exact rfl):EVG I z prog n ops (fuel+1) L env bx H K :=
 EVG.take (J:=fun _=>True) i (.inr ⟨fun _=>trivial,fun e=>by rw[e]at hts;simp at hts⟩) hi hs hf hr hy hw hd hn (fun β a W he _=>zi1 tO ho ht hfd hx _ W fun y x _ hy=>he y _ hy) h
theorem IL0 (i:Nat) {x:Operand} {T:TypeId} {te:TE} {q:Nat} {l:List Value} (h:EVI z p prog n ops fuel (L.setIfInBounds i true) ((d,.v v)::env) bx H K) (hi:ops[i]?=some o:=by exact rfl) (hs:Region.noSelect ops=true:=by kernel_rfl) (hf:Region.free .any ops L i=true:=by kernel_rfl) (hr:(Region.ready .any ops L).contains i=true:=by kernel_rfl) (hy:zp6 .any ops L i=true:=by kernel_rfl) (hts:ztU .any ops z i=true:=by kernel_rfl) (hw:zah ops env o=some true:=by exact rfl) (hd:o.dst=some d:=by exact rfl) (hn:Nat.blt d n=true:=by exact rfl)
  (ho:o.op=.load T x:=by exact rfl) (hx:env.op x=some (.v (.pointer (some ⟨p.1,q,none⟩))):=by exact rfl) (ht:Tryz.tab.get T=some te:=by exact rfl) (hl:(p.2.2.drop q).take te.size=l:=by exact rfl) (hlen:l.length=te.size:=by exact rfl) (hv:zfP te.agg l=some v:=by exact rfl):EVI z p prog n ops (fuel+1) L env bx H K :=
 EVG.take (J:=fun w=>Box w p.1 p.2.2.toArray p.2.1) i (.inl ⟨hts,fun _ h=>h⟩) hi hs hf hr hy hw hd hn (fun β a W he hB=>by
  have ex:a.eval x=.pointer (some ⟨p.1,q,none⟩):=he x _ hx;have hrg:=hB.range q te.size;rw[hl]at hrg;have hrun:=zba (tO.get ht) hrg hlen hv;unfold execOp;simp only[ho,ex,Sem.run_bind,hrun,Result.andThen_ok,Sem.run_pure]) h
theorem IR (i:Nat) {H0:Hp} {x:Operand} {T:TypeId} {te:TE} {cs l:List Value} (h:EVG (Fits H0) z prog n ops fuel (L.setIfInBounds i true) ((d,.v v)::env) bx H K) (e0:H.ro=H0) (hi:ops[i]?=some o:=by exact rfl) (hs:Region.noSelect ops=true:=by kernel_rfl) (hf:Region.free .any ops L i=true:=by kernel_rfl) (hr:(Region.ready .any ops L).contains i=true:=by kernel_rfl) (hy:zp6 .any ops L i=true:=by kernel_rfl) (hts:ztU .any ops z i=true:=by kernel_rfl) (hw:zah ops env o=some true:=by exact rfl) (hd:o.dst=some d:=by exact rfl) (hn:Nat.blt d n=true:=by exact rfl)
  (ho:o.op=.load T x:=by exact rfl) (hx:env.op x=some (.ro cs):=by exact rfl) (ht:Tryz.tab.get T=some te:=by exact rfl) (hl:cs.take te.size=l:=by exact rfl) (hlen:l.length=te.size:=by exact rfl) (hv:zfP te.agg l=some v:=by exact rfl):EVG (Fits H0) z prog n ops (fuel+1) L env bx H K :=
 EVG.take (J:=Fits H0) i (.inl ⟨hts,fun _ h=>h⟩) hi hs hf hr hy hw hd hn (fun β a W he hB=>by
  obtain⟨b,off,c,ex,hc,hcs⟩:=he x _ hx;rw[e0]at hc;obtain⟨T',fz,hW⟩:=hB b c hc
  have hrg:W.rangeAt b off l:=fun j v hj=>by
   rw[cell_of_row W b (off+j) c T' fz hW];refine hcs j v ?_;have hj':l[j]?=some v:=hj;rw[←hl,List.getElem?_take]at hj';split at hj'
   ·exact hj'
   ·cases hj'
  have hrun:=zba (tO.get ht) hrg hlen hv;unfold execOp;simp only[ho,ex,Sem.run_bind,hrun,Result.andThen_ok,Sem.run_pure]) h
theorem EVG.step (hI:zeL z L=true→∀W0 β a W,Rel n W0 H.base β env bx H a W→I W) (hne:(Region.ready .any ops L).isEmpty=false) (hk:∀q,q∈Region.ready .any ops L→∃o,ops[q]?=some o∧EVL prog n ops [o] env bx H (fun e env bx H'=>e=.normal∧EVG I z prog n ops fuel (L.setIfInBounds q true) env bx H' K)):EVG I z prog n ops (fuel+1) L env bx H K:=fun W0 β a W r=>by
 refine⟨fun hn=>hI hn W0 β a W r,fun e=>(by rw[e]at hne;cases hne),fun q hq=>?_⟩;obtain⟨o,ho,h⟩:=hk q hq;have h1:=h W0 β a W r
 have hkk:∀a W,zjV n W0 H.base (fun e env bx H'=>e=.normal∧EVG I z prog n ops fuel (L.setIfInBounds q true) env bx H' K) .normal a W→zdC prog .any ops (fun e a W=>e=.normal∧zjV n W0 H.base (fun _ env bx H=>K env bx H) .normal a W) I z fuel (L.setIfInBounds q true) a W:=by
  rintro a W ⟨β',env',bx',H',hbase,⟨_,hE⟩,rel⟩;have:=hE W0 β' a W (by rw[hbase];exact rel)
  rwa [hbase]at this
 unfold wpOp;simp only[ho];unfold wpList at h1;split
 ·rename_i hw;rw[if_pos hw]at h1;rcases h1 with h1 | ⟨h1,h2⟩
  ·refine .inl (Oper.wp_exits (fun c a W hq=>?_) (fun hq=>?_) (Oper.wp_mono (fun a W h=>hkk a W h) h1))
   ·obtain⟨_,_,_,_,_,⟨e,_⟩,_⟩:=hq;cases e
   ·obtain⟨a0,w0,_,_,_,_,_,⟨e,_⟩,_⟩:=hq;cases e
  ·obtain⟨a0,w0,_,_,_,_,_,⟨e,_⟩,_⟩:=h2;cases e
 ·rename_i hw;rw[if_neg hw]at h1;exact hkk _ _ h1
theorem EVG.nil (hI:zeL z L=true→∀W0 β a W,Rel n W0 H.base β env bx H a W→I W) (hr:(Region.ready .any ops L).isEmpty=true) (h:K env bx H):EVG I z prog n ops fuel L env bx H K:=fun W0 β a W r=>by
 have hr':=List.isEmpty_iff.1 hr;have hI:=fun hn=>hI hn W0 β a W r
 cases fuel with
 | zero=>exact⟨hI,hr',rfl,β,env,bx,H,rfl,h,r⟩
 | succ f=>exact⟨hI,fun _=>⟨rfl,β,env,bx,H,rfl,h,r⟩,fun i hi=>by rw[hr']at hi;cases hi⟩
theorem EVG.one (k:Nat) (hI:zeL z L=true→∀W0 β a W,Rel n W0 H.base β env bx H a W→I W) (hr:(Region.ready .any ops L == [k])=true) (ho:ops[k]?=some o) (h:EVL prog n ops [o] env bx H (fun e env bx H'=>e=.normal∧EVG I z prog n ops fuel (L.setIfInBounds k true) env bx H' K)):EVG I z prog n ops (fuel+1) L env bx H K:=by
 have hr':=eq_of_beq hr;refine EVG.step hI (by rw[hr'];rfl) fun q hq=>?_;rw[hr',List.mem_singleton]at hq;subst hq;exact⟨o,ho,h⟩
theorem EVG.two {o':Oper} (k k':Nat) (hI:zeL z L=true→∀W0 β a W,Rel n W0 H.base β env bx H a W→I W) (hr:(Region.ready .any ops L == [k,k'])=true) (ho:ops[k]?=some o) (ho':ops[k']?=some o') (h:EVL prog n ops [o] env bx H (fun e env bx H'=>e=.normal∧EVG I z prog n ops fuel (L.setIfInBounds k true) env bx H' K))
  (h':EVL prog n ops [o'] env bx H (fun e env bx H'=>e=.normal∧EVG I z prog n ops fuel (L.setIfInBounds k' true) env bx H' K)):EVG I z prog n ops (fuel+1) L env bx H K:=by
 have hr':=eq_of_beq hr;refine EVG.step hI (by rw[hr'];rfl) fun q hq=>?_;rw[hr']at hq;rcases List.mem_cons.1 hq with rfl | hq
 ·exact⟨o,ho,h⟩
 ·obtain rfl:q=k':=by simpa using hq
  exact⟨o',ho',h'⟩
theorem zt6 {jj:Nat} (hj:zeL z L=false∨H.ow[jj]?=some p):zeL z L=true→∀W0 β a W,Rel n W0 H.base β env bx H a W→Box W p.1 p.2.2.toArray p.2.1:=fun hn W0 β a W r=>by
 rcases hj with hj | hj
 ·rw[hj]at hn;cases hn
 ·exact(r.own jj p.1 p.2.1 p.2.2 hj).1
theorem zbl {H0:Hp} (h:H0.Le H.ro):zeL z L=true→∀W0 β a W,Rel n W0 H.base β env bx H a W→Fits H0 W:=fun _ _ _ _ _ r=>r.fits.mono h
theorem EVI.one (k jj:Nat) (hj:zeL z L=false∨H.ow[jj]?=some p) (hr:(Region.ready .any ops L == [k])=true) (ho:ops[k]?=some o) (h:EVL prog n ops [o] env bx H (fun e env bx H'=>e=.normal∧EVI z p prog n ops fuel (L.setIfInBounds k true) env bx H' K)):EVI z p prog n ops (fuel+1) L env bx H K:=EVG.one k (zt6 hj) hr ho h
theorem EVI.two {o':Oper} (k k' jj:Nat) (hj:zeL z L=false∨H.ow[jj]?=some p) (hr:(Region.ready .any ops L == [k,k'])=true) (ho:ops[k]?=some o) (ho':ops[k']?=some o') (h:EVL prog n ops [o] env bx H (fun e env bx H'=>e=.normal∧EVI z p prog n ops fuel (L.setIfInBounds k true) env bx H' K))
  (h':EVL prog n ops [o'] env bx H (fun e env bx H'=>e=.normal∧EVI z p prog n ops fuel (L.setIfInBounds k' true) env bx H' K)):EVI z p prog n ops (fuel+1) L env bx H K:=EVG.two k k' (zt6 hj) hr ho ho' h h'
theorem EVI.nil (jj:Nat) (hj:zeL z L=false∨H.ow[jj]?=some p) (hr:(Region.ready .any ops L).isEmpty=true) (h:K env bx H):EVI z p prog n ops fuel L env bx H K:=EVG.nil (zt6 hj) hr h
end
def zb6 (H:Hp) (css:List (List Value)) (ns:List Nd):Prop:=css.length=ns.length∧∀(j:Nat) (c:List Value) (n:Nd),css[j]?=some c→ns[j]?=some n→zbS H c n
theorem zb6.mono {H G:Hp} {css:List (List Value)} {ns:List Nd} (h:zb6 H css ns) (k:H.Le G):zb6 G css ns:=⟨h.1,fun j c n e1 e2=>(h.2 j c n e1 e2).mono k⟩
theorem zb6.snoc {H G:Hp} {css:List (List Value)} {ns:List Nd} (h:zb6 H css ns) (k:H.Le G) {c:List Value} {n:Nd} (hc:zbS G c n):zb6 G (css++[c]) (ns++[n]):=by
 refine⟨by simp[h.1],fun j c' n' e1 e2=>?_⟩;by_cases hj:j<css.length
 ·rw[List.getElem?_append_left hj]at e1;rw[List.getElem?_append_left (by rw[←h.1];exact hj)]at e2;exact(h.2 j c' n' e1 e2).mono k
 ·rw[List.getElem?_append_right (by omega)]at e1;rw[List.getElem?_append_right (by rw[←h.1];omega),←h.1]at e2
  have h0:j-css.length=0:=by
   have:=(qE.1 e1).1;simp at this;omega
  rw[h0]at e1 e2;cases e1;cases e2;exact hc
def zeY (dv:Value) (D:Ows) (s:Int):Prop:=(dv=.pointer none∧D=[])∨∃bd T,dv=.pointer (some ⟨bd,0,none⟩)∧D=[(bd,T,[.int .u64 s])]∧0≤s
theorem zbS.len {H:Hp} {c:List Value} {n:Nd} (h:zbS H c n):c.length=15:=by
 obtain⟨b1,a1,l1,c1,a2,l2,c2,b3,a3,l3,c3,a4,l4,c4,b5,a5,l5,c5,a6,l6,c6,a7,c7,rfl,_⟩:=h.cells;rfl
theorem zcz {A c B:List Value} {k s f m q:Nat} (hA:A.length=k*s) (hq:q=k*s+f) (hf:f+m≤c.length):q+m≤(A++(c++B)).length:=by
 rw[List.length_append,List.length_append,hA,hq];omega
theorem zsc {l:List (List Value)} (h:∀c,c∈l→c.length=15):l.flatten.length=l.length*15:=by
 induction l with
 | nil=>rfl
 | cons c l ih=>rw[List.flatten_cons,List.length_append,h c (List.mem_cons_self ..),ih (fun c hc=>h c (List.mem_cons_of_mem _ hc)),List.length_cons];omega
theorem zb6.mid {H:Hp} {css:List (List Value)} {A B:List Nd} {n:Nd} (h:zb6 H css (A++n::B)):∃cA c cB,css=cA++c::cB∧cA.flatten.length=A.length*15∧zbS H c n∧∀(G:Hp) (c':List Value) (n':Nd),H.Le G→zbS G c' n'→zb6 G (cA++c'::cB) (A++n'::B):=by
 have hl:=h.1;rw[List.length_append,List.length_cons]at hl;have hlt:A.length<css.length:=by omega
 have e:css=css.take A.length++css[A.length]::css.drop (A.length+1):=by
  rw[←List.drop_eq_getElem_cons hlt,List.take_append_drop]
 have hla:(css.take A.length).length=A.length:=by rw[List.length_take];omega
 refine⟨_,_,_,e,?_,h.2 A.length _ n (qA hlt) (by rw[List.getElem?_append_right (qH _),Nat.sub_self];rfl),?_⟩
 ·refine(zsc fun c hc=>?_).trans (by rw[hla]);obtain⟨j,hj⟩:=List.mem_iff_getElem?.1 (List.mem_of_mem_take hc);have hj':=(qE.1 hj).1;obtain⟨m,hm⟩:∃m,(A++n::B)[j]?=some m:=⟨_,qA (by rw[←h.1];exact hj')⟩;exact(h.2 j c m hj hm).len
 ·intro G c' n' hG hc;refine⟨by simp only[List.length_append,List.length_cons,hla,List.length_drop];omega,fun j c1 n1 e1 e2=>?_⟩;rcases Nat.lt_trichotomy j A.length with hj | rfl | hj
  ·rw[List.getElem?_append_left oM,List.getElem?_take_of_lt hj]at e1;rw[List.getElem?_append_left hj]at e2;exact(h.2 j c1 n1 e1 (by rw[List.getElem?_append_left hj];exact e2)).mono hG
  ·rw[List.getElem?_append_right oM,hla,Nat.sub_self]at e1;rw[List.getElem?_append_right (qH _),Nat.sub_self]at e2;cases e1;cases e2;exact hc
  ·obtain⟨k,rfl⟩:∃k,j=A.length+(k+1):=⟨j-A.length-1,by omega⟩;rw[List.getElem?_append_right oM,hla,Nat.add_sub_cancel_left,List.getElem?_cons_succ,List.getElem?_drop]at e1;rw[List.getElem?_append_right oM,Nat.add_sub_cancel_left,List.getElem?_cons_succ]at e2;exact(h.2 (A.length+(k+1)) c1 n1 (by rw[←e1];congr 1;omega) (by rw[List.getElem?_append_right oM,Nat.add_sub_cancel_left,List.getElem?_cons_succ];exact e2)).mono hG
theorem zaJ.mid {e:TypeId} {v:Value} {m:Nat} {cA cB:List (List Value)} {c:List Value} {ow:Ows} (h:zaJ e 15 v m (cA++c::cB).flatten ow) (hc:c.length=15):∃g cap sp,v=.slice (some ⟨g,0,none⟩) m cap∧ow=[(g,e,cA.flatten++(c++(cB.flatten++sp)))]∧∀c',c'.length=15→zaJ e 15 v m (cA++c'::cB).flatten [(g,e,cA.flatten++(c'++(cB.flatten++sp)))]:=by
 have hl:=h.1;rcases h.2 with ⟨_,rfl,_⟩ | ⟨g,cap,sp,rfl,rfl,h1,h2,h3⟩
 ·simp[hc]at hl
 ·have e1:∀c':List Value,(cA++c'::cB).flatten=cA.flatten++(c'++cB.flatten):=fun c'=>by simp
  rw[e1]at hl h1;refine⟨g,cap,sp,rfl,by rw[e1];simp,fun c' hc'=>⟨?_,.inr ⟨g,cap,sp,rfl,by rw[e1];simp,?_,h2,h3⟩⟩⟩
  ·rw[e1,←hl];simp[hc,hc']
  ·rw[e1,←h1];simp[hc,hc']
theorem zqc.cells {G:Hp} {o:Option (Int × Rat × Rat)} {cs:List Value} (h:zqc G o cs):∃c b1 a1 l1 c1 a2 l2 c2 b3 a3 l3 c3 a4 l4 c4,cs=[.int .i64 c,.bool b1,.slice a1 l1 c1,.slice a2 l2 c2,.bool b3,.slice a3 l3 c3,.slice a4 l4 c4]∧∀c' t g,o=some (c',t,g)→c=c'∧RQ G (.agg #[.bool b1,.slice a1 l1 c1,.slice a2 l2 c2]) t∧RQ G (.agg #[.bool b3,.slice a3 l3 c3,.slice a4 l4 c4]) g:=by
 cases o with
 | none=>exact⟨_,_,_,_,_,_,_,_,_,_,_,_,_,_,_,h,fun c' t g e=>by cases e⟩
 | some p =>
  obtain⟨x,y,h1,h2,rfl⟩:=h;obtain⟨a1,l1,c1,a2,l2,c2,rfl,_⟩:=id h1;obtain⟨a3,l3,c3,a4,l4,c4,rfl,_⟩:=id h2;exact⟨_,_,_,_,_,_,_,_,_,_,_,_,_,_,_,rfl,fun c' t g e=>by cases e;exact⟨rfl,h1,h2⟩⟩
theorem zmk {p:GP} {kd cl least deep:Int} {sm w:Nat} {la va xa:Option Addr} {ln lc vn vc xc:Nat} {g1 g2 g3:Value} {dq:Option Addr} (hds:dq≠none→∀s,p.cols s=((zat w s).1.take sm,(zat w s).2)) (hdn:dq=none→∀s,p.cols s=(zgb w,s)) (hsm:sm≤w) (hw1:1≤w) (hw2:w≤1000) (hx0:0<p.X.length) (hxw:∀x,x∈p.X→x.length=w) (hxq:∀x,x∈p.X→∀q,q∈x→ht q≤5) (hpl:p.least=least) (hgr:rq p.gain):∀(d:Nat) {H:Hp} {b:Nat} {T:TypeId} {dd s:Int} {vr out:Value} {rows:List Int} {ns:List Nd} {css:List (List Value)} {D ow:Ows},
  zjo H (zai kd cl (.slice la ln lc) (.slice va vn vc)) kd p.X.length p.cost p.mean p.cnt→RLL H (.slice xa p.X.length xc) p.X→RQ H (.agg #[g1,g2,g3]) p.gain→dd+d=deep→0≤dd→deep≤10 →
  IL H vr rows→rows.length≤300→(∀r,r∈rows→0≤r∧r<(p.X.length:Int))→zeY (.pointer dq) D s→zaJ 99 15 out ns.length css.flatten ow→zb6 H css ns→ns.length+2 ^ (d+1)≤1000000 →
  PW prog 86 #[.pointer (some ⟨b,0,none⟩),vr,.int .i64 dd] H ((b,T,zdo kd cl (.slice la ln lc) (.slice va vn vc) (.slice xa p.X.length xc) deep least g1 g2 g3 (.pointer dq) (sm:Int) out)::(D++ow)) fun v ow' H'=>v=.tuple #[]∧∃out' D' ow2 css',ow'=(b,T,zdo kd cl (.slice la ln lc) (.slice va vn vc) (.slice xa p.X.length xc) deep least g1 g2 g3 (.pointer dq) (sm:Int) out')::(D'++ow2)∧zeY (.pointer dq) D' (p.grow d ns.length rows s).2∧zaJ 99 15 out' (ns++(p.grow d ns.length rows s).1).length css'.flatten ow2∧zb6 H' css' (ns++(p.grow d ns.length rows s).1):=by
 intro d
 induction d using Nat.strongRecOn with
 | _ d ih =>
  intro H b T dd s vr out rows ns css D ow hg hX hgq hdd hd0 hd1 hr hn hb hD hown hns hsz;obtain⟨oa,oc,rfl⟩:=hown.val;obtain⟨ra,rc,rfl⟩:=SlC.val hr;have hpw:2≤2 ^ (d+1):=by rw[Nat.pow_succ];have:=Nat.one_le_two_pow (n:=d);omega
  refine PW.body tO func86 rfl kR ntmps86 rfl rfl ?_;refine uR ?_;refine RP ?_;refine EVL.loadOwn tO rfl rfl rfl rfl rfl rfl (0) rfl (rfl) rfl rfl ?_;refine uR ?_;refine EV.meetK (ι:=Value × Ows × List Value) [0,1,2,6] [] (fun _=>[]) (fun _=>[]) (fun q=>(b,T,zdo kd cl (.slice la ln lc) (.slice va vn vc) (.slice xa p.X.length xc) deep least g1 g2 g3 (.pointer dq) (sm:Int) q.1)::(D++q.2.1)) (fun q G=>H.Le G∧zaJ 99 15 q.1 (ns.length+1) (css++[q.2.2]).flatten q.2.1∧zbS G q.2.2 (p.nd rows)) rfl rfl (fun _=>rfl) ?_ ?_
  ·refine EVI.start (some 9) (b,T,zdo kd cl (.slice la ln lc) (.slice va vn vc) (.slice xa p.X.length xc) deep least g1 g2 g3 (.pointer dq) (sm:Int) (.slice oa ns.length oc)) ?_;refine IV 0 ?_;refine IV 1 ?_;refine IN 2 ?_;refine IF 3 ?_;refine IL0 4 ?_;refine IV 5 ?_;refine IV 6 ?_;refine EVI.one 7 0 (.inr rfl) kR rfl ?_;refine vW ([(b,T,zdo kd cl (.slice la ln lc) (.slice va vn vc) (.slice xa p.X.length xc) deep least g1 g2 g3 (.pointer dq) (sm:Int) (.slice oa ns.length oc))]) (D++ow) (zq2 hg hr hn hb) ?_;rintro _ ow1 G1 ⟨rfl,cs,rfl,hnd⟩ hG1;obtain⟨b1,a1,l1,c1,a2,l2,c2,b3,a3,l3,c3,a4,l4,c4,b5,a5,l5,c5,a6,l6,c6,a7,c7,rfl,_⟩:=hnd.cells;refine EVL.nil ⟨rfl,?_⟩;refine EVI.one 8 0 (.inr rfl) kR rfl ?_;refine EVL.lit tO rfl rfl rfl rfl rfl rfl rfl rfl rfl rfl rfl fun bl=>?_;refine EVL.nil ⟨rfl,?_⟩;refine EVI.one 9 1 (.inr rfl) kR rfl ?_;refine EVL.append tO rfl rfl rfl rfl rfl rfl rfl rfl rfl rfl rfl rfl ([(bl,_,_),(b,T,_)]++D) ow [] (by rw[qG];rfl) hown (zcQ.own 0 rfl rfl) rfl oM ?_;intro v2 ow2 hown2;obtain⟨oa2,oc2,rfl⟩:=hown2.val;refine EVL.nil ⟨rfl,?_⟩;refine EVI.one 10 0 (.inl kR) kR rfl ?_;refine EVL.nilB rfl rfl rfl rfl rfl ?_;refine EVL.nil ⟨rfl,?_⟩;refine EVI.one 11 0 (.inl kR) kR rfl ?_;refine EVL.fldB tO rfl rfl rfl rfl rfl rfl rfl ?_;refine EVL.nil ⟨rfl,?_⟩;refine EVI.one 12 0 (.inl kR) kR rfl ?_;refine EVL.storeOwn tO rfl rfl rfl rfl rfl rfl ([(bl,_,_)]) (D++(ow2++[])) rfl rfl rfl rfl ((by exact qH 13)) (rfl) ?_;refine EVL.subOw [] [(bl,_,_)] _ rfl ?_;refine EVL.nil ⟨rfl,?_⟩;refine EVI.nil 0 (.inl kR) kR ?_;exact⟨(_,ow2++[],_),trivial,sB,trivial,trivial,rfl,hG1,(by rw[qG,List.flatten_append];exact hown2),hnd⟩
  ·rintro⟨out1,ow1,c1⟩ G1 ⟨hG1,hown1,hnd1⟩;dsimp only at hown1 hnd1;have hns1:zb6 G1 (css++[c1]) (ns++[p.nd rows]):=hns.snoc hG1 hnd1;refine uR ?_;refine RP ?_;refine EVL.loadOwn tO rfl rfl rfl rfl rfl rfl (0) rfl (rfl) rfl rfl ?_;refine uR ?_;by_cases hd:d=0
   ·subst hd;obtain rfl:dd=deep:=by omega
    rw[show (dd == dd)=true from beq_self_eq_true dd];refine uR ?_;exact⟨rfl,out1,D,ow1,_,rfl,hD,by rw[List.length_append];exact hown1,hns1⟩
   obtain⟨e,rfl⟩:∃e,d=e+1:=⟨d-1,by omega⟩;have ih':=@ih e oM;clear ih;rw[show (dd == deep)=false from beq_eq_false_iff_ne.2 (by omega)];refine uR ?_;refine RP ?_;refine EVL.loadOwn tO rfl rfl rfl rfl rfl rfl (0) rfl (rfl) rfl rfl ?_;refine EVL.neqnil Tryz.underlying89 rfl rfl rfl rfl rfl ?_;refine uR ?_;obtain⟨vsx,hvs,hvx⟩:=hX.mono hG1;obtain⟨x0,hxx0⟩:=gE hx0;obtain⟨u0,e0,hu0,_⟩:=hvs.at hxx0;have hx0w:=hxw x0 (qF hxx0);refine EV.meetK (ι:=Value × Ows) [0,1,2,6] [] (fun q=>[(7,.v q.1)]) (fun _=>[]) (fun q=>(b,T,zdo kd cl (.slice la ln lc) (.slice va vn vc) (.slice xa p.X.length xc) deep least g1 g2 g3 (.pointer dq) (sm:Int) out1)::(q.2++ow1)) (fun q G=>G1.Le G∧IL G q.1 (p.cols s).1∧zeY (.pointer dq) q.2 (p.cols s).2) rfl rfl (fun _=>rfl) ?_ ?_
   ·rcases hD with ⟨e1,rfl⟩ | ⟨bd,Td,e1,rfl,hs⟩
    ·cases e1;have hcols:=hdn rfl s;have hcs:(p.cols s).1=zgb w:=by rw[hcols]
     have hcs2:(p.cols s).2=s:=by rw[hcols]
     have hnl0:∀k,k∈b::Ows.bs ow→∀q,q∈([]:Ows)→k≠q.1:=fun k _ q hq=>by cases hq
     refine uR ?_;refine EV.loopK (ι:=Nat × Value × Ows) [0,1,2,6] [] (fun q=>[(7,.v q.2.1),(8,.v (.int .i64 (q.1:Int)))]) (fun _=>[]) (fun q=>q.2.2++((b,T,zdo kd cl (.slice la ln lc) (.slice va vn vc) (.slice xa p.X.length xc) deep least g1 g2 g3 (.pointer none) (sm:Int) out1)::ow1)) (fun q _=>q.1≤w∧zaJ 3 1 q.2.1 q.1 ((zgb q.1).map iv) q.2.2∧∀k,k∈b::Ows.bs ow→∀r,r∈q.2.2→k≠r.1) (fun q=>w-q.1) ((0,.slice none 0 0,[])) rfl rfl ⟨rfl,rfl,trivial⟩ trivial rfl (fun _=>rfl) (⟨Nat.zero_le _,zaJ.nil _ _,hnl0⟩) ?_;rintro⟨i,v7,ow7⟩ G2 hG2 ⟨hi,hown7,hnl⟩;dsimp only at hi hown7 hnl;obtain⟨a7,c7,rfl⟩:=hown7.val;refine uR ?_;(first|refine EVL.swapOw (ow7) ((b,T,zdo kd cl (.slice la ln lc) (.slice va vn vc) (.slice xa p.X.length xc) deep least g1 g2 g3 (.pointer none) (sm:Int) out1)::ow1) (rfl) ?_|refine EV.swapOw (ow7) ((b,T,zdo kd cl (.slice la ln lc) (.slice va vn vc) (.slice xa p.X.length xc) deep least g1 g2 g3 (.pointer none) (sm:Int) out1)::ow1) (rfl) ?_);refine RP ?_;refine EVL.loadOwn tO rfl rfl rfl rfl rfl rfl (0) rfl (rfl) rfl rfl ?_;refine vI (hvx.mono hG2) (0) (rfl) (hx0) (hu0) ?_;refine uR ?_;rw[hx0w];(first|refine EVL.swapOw ((b,T,zdo kd cl (.slice la ln lc) (.slice va vn vc) (.slice xa p.X.length xc) deep least g1 g2 g3 (.pointer none) (sm:Int) out1)::ow1) (ow7) (rfl) ?_|refine EV.swapOw ((b,T,zdo kd cl (.slice la ln lc) (.slice va vn vc) (.slice xa p.X.length xc) deep least g1 g2 g3 (.pointer none) (sm:Int) out1)::ow1) (ow7) (rfl) ?_);refine uR ?_;refine EV.cond rfl (fun hlt=>?_) (fun hlt=>?_)
     ·simp only[nN]at hlt;refine uR ?_;refine EVL.app1N tO rfl rfl rfl rfl rfl rfl rfl rfl rfl rfl rfl rfl rfl rfl rfl rfl rfl rfl rfl (fun _=>rfl) (ow7) ((b,T,zdo kd cl (.slice la ln lc) (.slice va vn vc) (.slice xa p.X.length xc) deep least g1 g2 g3 (.pointer none) (sm:Int) out1)::ow1) (rfl) (hown7) (oM) fun _=>?_;intro v' ow' hown' hnw;refine uR ?_;refine⟨(i+1,v',ow'),⟨rfl,?_,trivial⟩,sB,trivial,trivial,rfl,⟨by dsimp only;omega,by dsimp only;rw[zhl,List.map_append];exact hown',fun k hk=>hnw k hk (hnl k hk)⟩,Hp.Le.refl _,by dsimp only;omega⟩;rw[zab i (by omega)];rfl
     ·simp only[nN]at hlt;obtain rfl:i=w:=by omega
      have hil:zaJ 3 1 (.slice a7 i c7) (zgb i).length ((zgb i).map iv) ow7:=by rw[zby];exact hown7
      (first|refine EVL.publishL [] ow7 ((b,T,zdo kd cl (.slice la ln lc) (.slice va vn vc) (.slice xa p.X.length xc) deep least g1 g2 g3 (.pointer none) (sm:Int) out1)::ow1) rfl hil (fun G3 hG3 hs7=>?_) (fun k hk=>hnl k hk)|refine EV.publishL [] ow7 ((b,T,zdo kd cl (.slice la ln lc) (.slice va vn vc) (.slice xa p.X.length xc) deep least g1 g2 g3 (.pointer none) (sm:Int) out1)::ow1) rfl hil (fun G3 hG3 hs7=>?_) (fun k hk=>hnl k hk));refine uR ?_;refine⟨(_,[]),⟨rfl,trivial⟩,sB,trivial,trivial,rfl,hG2.trans hG3,?_,?_⟩
      ·rw[hcs];exact hs7
      ·rw[hcs2];exact .inl ⟨rfl,rfl⟩
    ·cases e1;have hcols:=hds (by simp) s;have hcs:(p.cols s).1=(zat w s).1.take sm:=by rw[hcols]
     have hcs2:(p.cols s).2=(zat w s).2:=by rw[hcols]
     refine uR ?_;refine EVI.start none (b,T,zdo kd cl (.slice la ln lc) (.slice va vn vc) (.slice xa p.X.length xc) deep least g1 g2 g3 (.pointer (some ⟨bd,0,none⟩)) (sm:Int) out1) ?_;refine IV 0 ?_;refine IN 1 ?_;refine IF 2 ?_;refine IL0 3 ?_;refine IV 4 ?_;refine IN 5 ?_;refine IF 6 ?_;refine IL0 7 ?_;refine IV 12 ?_;refine IN 13 ?_;refine IF 14 ?_;refine IL0 15 ?_;refine EVI.one 8 0 (.inr rfl) kR rfl ?_;refine vI (hvx) (0) (rfl) (hx0) (hu0) ?_;refine EVL.nil ⟨rfl,?_⟩;refine EVI.one 9 0 (.inr rfl) kR rfl ?_
     (try refine zcj ?_);refine EVL.nil ⟨rfl,?_⟩;rw[hx0w];refine IV 10 ?_;refine EVI.one 11 0 (.inr rfl) kR rfl ?_;(first|refine EVL.swapOw ([(b,T,_)]) ((bd,Td,[.int .u64 s])::ow1) (rfl) ?_|refine EV.swapOw ([(b,T,_)]) ((bd,Td,[.int .u64 s])::ow1) (rfl) ?_);refine EVL.callW rfl rfl rfl rfl rfl ([(bd,Td,[.int .u64 s])]) (ow1++[(b,T,_)]) rfl (zpn hs hw1 oM) ?_;rintro v2 ow2 G2 ⟨⟨T2,rfl⟩,hs2,hil,oa2,rfl⟩ hG2;(first|refine EVL.swapOw ((bd,T2,[.int .u64 (zat w s).2])::ow1) ([(b,T,_)]) (rfl) ?_|refine EV.swapOw ((bd,T2,[.int .u64 (zat w s).2])::ow1) ([(b,T,_)]) (rfl) ?_);refine EVL.nil ⟨rfl,?_⟩;refine EVI.one 16 0 (.inr rfl) kR rfl ?_;refine EVL.slc (te':=Tryz.te3) tO rfl rfl rfl rfl rfl rfl rfl rfl 0 sm (.inl ⟨rfl,rfl⟩) (.inr ⟨_,IntKind.i64,rfl,rfl⟩) (Nat.zero_le _) (by rw[zcf];exact hsm) (qH _) ?_;refine EVL.nil ⟨rfl,?_⟩;refine EVI.one 17 0 (.inr rfl) kR rfl ?_
     (try refine zcj ?_);refine EVL.nil ⟨rfl,?_⟩;refine EVI.nil 0 (.inr rfl) kR ?_;exact⟨(_,[(bd,T2,[.int .u64 (zat w s).2])]),⟨rfl,trivial⟩,sB,trivial,trivial,rfl,hG2,(by rw[hcs];exact hil.pre sm (by rw[zcf];exact hsm) 1),(by rw[hcs2];exact .inr ⟨bd,T2,rfl,rfl,hs2⟩)⟩
   ·rintro⟨vc7,D2⟩ G2 ⟨hG2,hcol,hD2⟩;dsimp only at hcol hD2;obtain⟨ca,cc,rfl⟩:=SlC.val hcol;have hH2:=hG1.trans hG2
    have hcl:(p.cols s).1.length≤1000:=by
     by_cases hq:dq=none
     ·rw[hdn hq s,zby];exact hw2
     ·rw[hds hq s];show ((zat w s).1.take sm).length≤1000;rw[List.length_take];omega
    have hbest:=fun (G:Hp) (hG:G2.Le G)=>znB (least:=least) (hg.check G (hH2.trans hG)) hg.len (fun G' k=>hg.cost G' ((hH2.trans hG).trans k)) hg.small (hX.mono (hH2.trans hG)) hxq (hr.mono (hH2.trans hG)) hn (hcol.mono hG) hcl;have hpb:(zaD p.X p.cost rows (max 1 least) (p.cols s).1).foldl zf3 none=p.best rows (p.cols s).1:=by unfold GP.best;rw[hpl]
    have hgb:∀q,p.best rows (p.cols s).1=some q→ht q.2.1≤100∧ht q.2.2≤8000000:=fun q e=>by
     rw[←hpb]at e;have hf:=zcJ (zaD p.X p.cost rows (max 1 least) (p.cols s).1);rw[e]at hf;exact zgk hg.small hn hb hxq hf.1
    simp only[zdn hb,hpb]at hbest;refine uR ?_;apply EV.drawn 21 kR kR;intro xv yw;(repeat (first|refine' DD ?_|refine' vN ?_|refine' vF ?_));refine' DJ.ofVal (zaa.loadOwn tO rfl rfl rfl rfl (0) rfl (rfl) rfl rfl) rfl rfl rfl ?_;rotate_left;(repeat (first|refine' DD ?_|refine' vN ?_|refine' vF ?_));refine' DJ.ofVal (zaa.loadOwn tO rfl rfl rfl rfl (0) rfl (rfl) rfl rfl) rfl rfl rfl ?_;rotate_left;(repeat (first|refine' DD ?_|refine' vN ?_|refine' vF ?_));refine' DJ.ofVal (zaa.loadOwn tO rfl rfl rfl rfl (0) rfl (rfl) rfl rfl) rfl rfl rfl ?_;rotate_left;refine' vB (cO func135) (fun G hG hd=>hbest G hG) (fun _ _ _ h k=>(by obtain⟨cs,h1,h2⟩:=h;exact⟨cs,h1.mono k,h2⟩)) ?_;rotate_left;refine' DJ.copy (15) (by first|exact .inl rfl|exact .inr rfl) rfl rfl rfl id rfl kR ?_;rotate_left;refine' DJ.extract (15) rfl rfl rfl rfl rfl kR (fun G hd=>(by obtain⟨cs,_,e⟩:=hd.head kR;exact⟨_,e,Nat.zero_lt_succ _⟩)) ?_;rotate_left;refine' DJ.extract (15) rfl rfl rfl rfl rfl kR (fun G hd=>(by obtain⟨cs,_,e⟩:=hd.head kR;exact⟨_,e,Nat.lt_succ_self _⟩)) ?_;rotate_left;(repeat refine' DD ?_);refine' DJ.storeD tO rfl rfl rfl rfl (15) (zcr 0) rfl rfl (19) rfl rfl kR kR rfl (fun G hd=>(by obtain⟨cs,h,e⟩:=hd.head kR;rw[e];obtain⟨c,b1,a1,l1,c1,a2,l2,c2,b3,a3,l3,c3,a4,l4,c4,rfl,_⟩:=h.cells;exact⟨rfl,rfl⟩)) ?_;rotate_left;(refine DJ.nil (fun G3 hG3 hF3=>?_);(case hS|hS2=>rfl));obtain⟨⟨cs,hcs,e33⟩,_⟩:=hF3;obtain⟨c,b1,a1,l1,c1',a2,l2,c2,b3,a3,l3,c3,a4,l4,c4,rfl,hval⟩:=hcs.cells;rw[e33];rw[show zcr 1 (Value.tuple #[.agg ([.int .i64 c,.bool b1,.slice a1 l1 c1',.slice a2 l2 c2,.bool b3,.slice a3 l3 c3,.slice a4 l4 c4]:List Value).toArray,.bool (p.best rows (p.cols s).1).isSome])=.bool (p.best rows (p.cols s).1).isSome from rfl,show zac (zcr 0 (Value.tuple #[.agg ([.int .i64 c,.bool b1,.slice a1 l1 c1',.slice a2 l2 c2,.bool b3,.slice a3 l3 c3,.slice a4 l4 c4]:List Value).toArray,.bool (p.best rows (p.cols s).1).isSome]))=[.int .i64 c,.bool b1,.slice a1 l1 c1',.slice a2 l2 c2,.bool b3,.slice a3 l3 c3,.slice a4 l4 c4] from rfl];refine uR ?_
    cases hbe:p.best rows (p.cols s).1 with
    | none =>
     have hcut:p.cut rows (p.cols s).1=none:=by unfold GP.cut;rw[hbe]
     rw[GP.grow_none hcut];rw[show (none:Option (Int × Rat × Rat)).isSome=false from rfl];apply EV.drawn 13 kR kR;intro xv yw;(repeat refine' DD ?_);(refine DJ.nil (fun G hG hF=>?_);(case hS|hS2=>rfl));refine uR ?_;exact⟨rfl,out1,D2,ow1,_,rfl,hD2,by rw[List.length_append];exact hown1,hns1.mono (hG2.trans (hG3.trans hG))⟩
    | some q =>
     obtain⟨c',t,g⟩:=q;obtain⟨rfl,hvt,hvg⟩:=hval c' t g hbe;obtain⟨htb,hgb'⟩:=hgb _ hbe;dsimp only at htb hgb';rw[show (some (c,t,g)).isSome=true from rfl];have hgrq:rq g:=by unfold rq;omega
     apply EV.drawn 13 kR kR;intro xv yw;(repeat (first|refine' DD ?_|refine' vN ?_|refine' vF ?_));refine' DJ.ofVal (zaa.loadOwn tO rfl rfl rfl rfl (0) rfl (rfl) rfl rfl) rfl rfl rfl ?_;rotate_left;refine' vC (cO func102) (fun G hG hd=>zbw (RQ.mono hvg hG) (RQ.mono hgq (hH2.trans (hG3.trans hG))) hgrq hgr) ?_;rotate_left;(repeat refine' DD ?_);(refine DJ.nil (fun G4 hG4 hF4=>?_);(case hS|hS2=>rfl));refine uR ?_;by_cases hle:g≤p.gain
     ·have hcut:p.cut rows (p.cols s).1=none:=by unfold GP.cut;rw[hbe];exact if_pos hle
      rw[GP.grow_none hcut];rw[qD (Int.not_lt.1 fun k=>Rat.not_lt.2 hle ((zf2 g p.gain).1 k))];refine uR ?_;exact⟨rfl,out1,D2,ow1,_,rfl,hD2,by rw[List.length_append];exact hown1,hns1.mono (hG2.trans (hG3.trans hG4))⟩
     have hcut:p.cut rows (p.cols s).1=some (c,t):=by unfold GP.cut;rw[hbe];exact if_neg hle
     rw[GP.grow_some hcut];rw[qC (Int.not_le.2 ((zf2 g p.gain).2 (Rat.not_le.1 hle)))];have hH4:=hH2.trans (hG3.trans hG4);refine uR ?_;apply EV.drawn 14 kR kR;intro xv yw;(repeat (first|refine' DD ?_|refine' vN ?_|refine' vF ?_));refine' DJ.ofVal (zaa.loadOwn tO rfl rfl rfl rfl (0) rfl (rfl) rfl rfl) rfl rfl rfl ?_;rotate_left;(repeat (first|refine' DD ?_|refine' vN ?_|refine' vF ?_));refine' vB (cO func136) (fun G hG hd=>zg4 (col:=c) (t:=t) (hX.mono (hH4.trans hG)) (hr.mono (hH4.trans hG)) oM (fun x hx q hq=>zf6 (hxq x hx q hq) oM) (RQ.mono hvt (hG4.trans hG)) (zf6 htb oM)) (fun _ _ _ h k=>(by obtain⟨u,w,e,hu,hw⟩:=h;exact⟨u,w,e,hu.mono k,hw.mono k⟩)) ?_;rotate_left;refine' DJ.copy (9) (by first|exact .inl rfl|exact .inr rfl) rfl rfl rfl id rfl kR ?_;rotate_left;refine' DJ.extract (9) rfl rfl rfl rfl rfl kR (fun G hd=>(by obtain⟨u,w,e,_⟩:=hd.head kR;exact⟨_,e,Nat.zero_lt_succ _⟩)) ?_;rotate_left;refine' DJ.extract (9) rfl rfl rfl rfl rfl kR (fun G hd=>(by obtain⟨u,w,e,_⟩:=hd.head kR;exact⟨_,e,Nat.lt_succ_self _⟩)) ?_;rotate_left;refine' DJ.copy (9) (.inr rfl) rfl rfl rfl (zcr 0) rfl kR ?_;rotate_left;(refine DJ.nil (fun G5 hG5 hF5=>?_);(case hS|hS2=>rfl));obtain⟨⟨u5,w5,e5,hu5,hw5⟩,_⟩:=hF5;rw[e5];rw[zdn hb]at hu5 hw5;obtain⟨ua,uc,rfl⟩:=SlC.val hu5;obtain⟨wa,wc,rfl⟩:=SlC.val hw5;rw[show zcr 0 (Value.tuple #[.slice ua (zbd p.X c t rows).length uc,.slice wa (zaz p.X c t rows).length wc])=.slice ua (zbd p.X c t rows).length uc from rfl,show zcr 1 (Value.tuple #[.slice ua (zbd p.X c t rows).length uc,.slice wa (zaz p.X c t rows).length wc])=.slice wa (zaz p.X c t rows).length wc from rfl];have hH5:=hH4.trans hG5;have hns5:=hns1.mono (hG2.trans (hG3.trans (hG4.trans hG5)));obtain⟨cA,cc1,cB,ecs,hAl,hnc,hput⟩:=hns5.mid;rw[ecs]at hown1;clear ecs;obtain⟨b9,a9,l9,c9,a10,l10,c10,b11,a11,l11,c11,a12,l12,c12,b13,a13,l13,c13,a14,l14,c14,a15,c15,rfl,k1,k2,k3,k4⟩:=hnc.cells;obtain⟨go,capo,sp,rfl,rfl,hback⟩:=hown1.mid rfl;have wk:IntKind.i64.wrap ((ns.length:Int)+1)=((ns.length+1:Nat):Int):=zab _ oM;have wd:IntKind.i64.wrap (dd+1)=dd+1:=by rw[IntKind.wrap_i64];omega
     refine uR ?_;apply EV.drawn 7 kR kR;intro xv yw;(repeat (first|refine' DD ?_|refine' vN ?_|refine' vF ?_));refine' DJ.ofVal (zaa.loadOwn tO rfl rfl rfl rfl (0) rfl (rfl) rfl rfl) rfl rfl rfl ?_;rotate_left;(repeat (first|refine' DD ?_|refine' vN ?_|refine' vF ?_));(refine DJ.nil (fun G6 hG6 hF6=>?_);(case hS|hS2=>rfl));refine EVL.idxB tO rfl rfl rfl rfl rfl rfl rfl rfl rfl (ns.length) (ns.length*15) (rfl) (oM) (rfl) ?_;refine EVL.fldB tO rfl rfl rfl rfl rfl rfl rfl ?_;refine EVL.storeOwn tO rfl rfl rfl rfl rfl rfl ((b,T,_)::D2) ([]) rfl rfl rfl rfl ((zcz (f:=0) hAl rfl (by show 0+1≤15;omega))) (zdx (f:=0) hAl rfl rfl (by show 0+1≤15;omega) rfl) ?_;refine uR ?_;apply EV.drawn 7 kR kR;intro xv yw;(repeat (first|refine' DD ?_|refine' vN ?_|refine' vF ?_));refine' DJ.ofVal (zaa.loadOwn tO rfl rfl rfl rfl (0) rfl (rfl) rfl rfl) rfl rfl rfl ?_;rotate_left;(repeat (first|refine' DD ?_|refine' vN ?_|refine' vF ?_));(refine DJ.nil (fun G7 hG7 hF7=>?_);(case hS|hS2=>rfl));refine EVL.idxB tO rfl rfl rfl rfl rfl rfl rfl rfl rfl (ns.length) (ns.length*15) (rfl) (oM) (rfl) ?_;refine EVL.fldB tO rfl rfl rfl rfl rfl rfl rfl ?_;refine EVL.storeOwn tO rfl rfl rfl rfl rfl rfl ((b,T,_)::D2) ([]) rfl rfl rfl rfl ((zcz (f:=5) hAl rfl (by show 5+3≤15;omega))) (zdx (f:=5) hAl rfl rfl (by show 5+3≤15;omega) rfl) ?_;refine uR ?_;refine RP ?_;refine EVL.loadOwn tO rfl rfl rfl rfl rfl rfl (0) rfl (rfl) rfl rfl ?_;refine uR ?_;rw[wk];refine EVL.idxB tO rfl rfl rfl rfl rfl rfl rfl rfl rfl (ns.length) (ns.length*15) (rfl) (oM) (rfl) ?_;refine EVL.fldB tO rfl rfl rfl rfl rfl rfl rfl ?_;refine EVL.storeOwn tO rfl rfl rfl rfl rfl rfl ((b,T,_)::D2) ([]) rfl rfl rfl rfl ((zcz (f:=1) hAl rfl (by show 1+1≤15;omega))) (zdx (f:=1) hAl rfl rfl (by show 1+1≤15;omega) rfl) ?_;refine uR ?_;rw[wd];have hH7:=hH5.trans (hG6.trans hG7);have hlo3:(zbd p.X c t rows).length≤300:=qI (List.length_filter_le _ _) hn;have hhi3:(zaz p.X c t rows).length≤300:=qI (List.length_filter_le _ _) hn;have hlom:∀r,r∈zbd p.X c t rows→0≤r∧r<(p.X.length:Int):=fun r hr=>hb r (List.mem_filter.mp hr).1;have hhim:∀r,r∈zaz p.X c t rows→0≤r∧r<(p.X.length:Int):=fun r hr=>hb r (List.mem_filter.mp hr).1;have hvt7:=RQ.mono hvt (hG4.trans (hG5.trans (hG6.trans hG7)));obtain⟨n1,hn1⟩:∃n1:Nd,({ p.nd rows with col:=c,left:=((ns.length+1:Nat):Int),at':=t }:Nd)=n1:=⟨_,rfl⟩
     have hr1:zbS G7 [.int .i64 c,.int .i64 ((ns.length+1:Nat):Int),.int .i64 0,.int .i64 (p.nd rows).rows,.int .i64 (p.nd rows).cls,.bool b1,.slice a1 l1 c1',.slice a2 l2 c2,.bool b11,.slice a11 l11 c11,.slice a12 l12 c12,.bool b13,.slice a13 l13 c13,.slice a14 l14 c14,.slice a15 (p.nd rows).counts.length c15] n1:=by
      subst hn1;exact⟨_,_,_,_,hvt7,k2.mono (hG6.trans hG7),k3.mono (hG6.trans hG7),k4.mono (hG6.trans hG7),rfl⟩
     have hl1:(ns++[n1]).length=ns.length+1:=by simp
     have hp2:2 ^ (e+1+1)=2 ^ (e+1)+2 ^ (e+1):=by rw[Nat.pow_succ];omega
     have hp3:2≤2 ^ (e+1):=by rw[Nat.pow_succ];have:=Nat.one_le_two_pow (n:=e);omega
     have hL:=ih' (H:=G7) (b:=b) (T:=T) (dd:=dd+1) (s:=(p.cols s).2) (ns:=ns++[n1]) (hg.mono hH7) (hX.mono hH7) (hgq.mono hH7) oM oM hd1 (hu5.mono (hG6.trans hG7)) hlo3 hlom hD2 (by rw[hl1];exact hback _ rfl) (hput G7 _ n1 (hG6.trans hG7) hr1) (by rw[hl1];omega);rw[hl1]at hL;have hLl:=(p.grow_len e (ns.length+1) (zbd p.X c t rows) (p.cols s).2).2;generalize hLe:p.grow e (ns.length+1) (zbd p.X c t rows) (p.cols s).2=Lp at *
     obtain⟨Ls,s2⟩:=Lp;dsimp only at hL hLl;refine EVL.callW rfl rfl rfl rfl rfl _ [] (qG _).symm hL ?_;rintro _ _ G8 ⟨rfl,out2,D3,ow3,css3,rfl,hD3,hown3,hns3⟩ hG8;rw[qG ((b,T,_)::(D3++ow3))];rw[show ns++[n1]++Ls=ns++n1::Ls by simp]at hown3 hns3;obtain⟨cA3,c31,cB3,ecs3,hAl3,hnc3,hput3⟩:=hns3.mid;rw[ecs3]at hown3;clear ecs3;obtain⟨d9,e9,f9,h9,e10,f10,h10,d11,e11,f11,h11,e12,f12,h12,d13,e13,f13,h13,e14,f14,h14,e15,h15,rfl,j1,j2,j3,j4⟩:=hnc3.cells;obtain⟨go3,capo3,sp3,rfl,rfl,hback3⟩:=hown3.mid rfl;have hl2:(ns++n1::Ls).length=ns.length+1+Ls.length:=by simp;omega
     rw[hl2]at hback3;rw[hl2];refine uR ?_;apply EV.drawn 10 kR kR;intro xv yw;(repeat (first|refine' DD ?_|refine' vN ?_|refine' vF ?_));refine' DJ.ofVal (zaa.loadOwn tO rfl rfl rfl rfl (0) rfl (rfl) rfl rfl) rfl rfl rfl ?_;rotate_left;(repeat (first|refine' DD ?_|refine' vN ?_|refine' vF ?_));refine' DJ.ofVal (zaa.loadOwn tO rfl rfl rfl rfl (0) rfl (rfl) rfl rfl) rfl rfl rfl ?_;rotate_left;(repeat (first|refine' DD ?_|refine' vN ?_|refine' vF ?_));(refine DJ.nil (fun G9 hG9 hF9=>?_);(case hS|hS2=>rfl));refine EVL.idxB tO rfl rfl rfl rfl rfl rfl rfl rfl rfl (ns.length) (ns.length*15) (rfl) (oM) (rfl) ?_;refine EVL.fldB tO rfl rfl rfl rfl rfl rfl rfl ?_;refine EVL.storeOwn tO rfl rfl rfl rfl rfl rfl ((b,T,_)::D3) ([]) rfl rfl rfl rfl ((zcz (f:=2) hAl3 rfl (by show 2+1≤15;omega))) (zdx (f:=2) hAl3 rfl rfl (by show 2+1≤15;omega) rfl) ?_;refine uR ?_;rw[wd];obtain⟨n2,hn2⟩:∃n2:Nd,({ n1 with right:=((ns.length+1+Ls.length:Nat):Int) }:Nd)=n2:=⟨_,rfl⟩
     have hr2:zbS G9 [.int .i64 n1.col,.int .i64 n1.left,.int .i64 ((ns.length+1+Ls.length:Nat):Int),.int .i64 n1.rows,.int .i64 n1.cls,.bool d9,.slice e9 f9 h9,.slice e10 f10 h10,.bool d11,.slice e11 f11 h11,.slice e12 f12 h12,.bool d13,.slice e13 f13 h13,.slice e14 f14 h14,.slice e15 n1.counts.length h15] n2:=by
      subst hn2;exact⟨_,_,_,_,j1.mono hG9,j2.mono hG9,j3.mono hG9,j4.mono hG9,rfl⟩
     have hH9:=hH7.trans (hG8.trans hG9);have hl3:(ns++n2::Ls).length=ns.length+1+Ls.length:=by simp;omega
     have hR:=ih' (H:=G9) (b:=b) (T:=T) (dd:=dd+1) (s:=s2) (ns:=ns++n2::Ls) (hg.mono hH9) (hX.mono hH9) (hgq.mono hH9) oM oM hd1 (hw5.mono (hG6.trans (hG7.trans (hG8.trans hG9)))) hhi3 hhim hD3 (by rw[hl3];exact hback3 _ rfl) (hput3 G9 _ n2 hG9 hr2) (by rw[hl3];omega);rw[hl3]at hR;generalize hRe:p.grow e (ns.length+1+Ls.length) (zaz p.X c t rows) s2=Rp at *
     obtain⟨Rs,s3⟩:=Rp;dsimp only at hR;refine EVL.callW rfl rfl rfl rfl rfl _ [] (qG _).symm hR ?_;rintro _ _ G10 ⟨rfl,out4,D4,ow4,css4,rfl,hD4,hown4,hns4⟩ hG10;rw[qG ((b,T,_)::(D4++ow4))];refine uR ?_
     have hfin:ns++n2::Ls++Rs=ns++({ p.nd rows with col:=c,left:=((ns.length+1:Nat):Int),right:=((ns.length+1+Ls.length:Nat):Int),at':=t }::(Ls++Rs)):=by
      subst hn2;subst hn1;simp
     rw[hfin]at hown4 hns4;refine⟨rfl,out4,D4,ow4,css4,rfl,?_,?_,?_⟩
     ·exact hD4
     ·exact hown4
     ·exact hns4
section
variable {P:Program} {n:Nat} {ops:Array Oper} {o1 o2:Oper} {rest:List Oper} {env:Env} {bx:Bxs} {H:Hs} {Q:EQ} {d d1:Nat}
end
end
section
section
variable {α:Type}
variable {lt:α→α→Bool}
end
end
section
open Go.RowKit _root_.Go.Proofs.Tryz
section
variable {α:Type} {enc:α→Value} {w w':World} {B:Nat} {T:TypeId} {cap:Nat} {l:List α}
end
theorem ziC {b:Nat} {T:TypeId} {cs:List Value} {ow post:Ows} (h:zb7 ((b,T,cs)::(ow++post))):∀p,p∈ow→b≠p.1:=fun p hp e=>by
 obtain⟨j,hj⟩:=List.mem_iff_getElem?.1 hp;obtain⟨g,T',cs'⟩:=p;have hj':=(qE.1 hj).1;have:=h 0 (j+1) b T T' cs cs' rfl (by rw[List.getElem?_cons_succ,List.getElem?_append_left hj',hj,e]);omega
set_option maxRecDepth 100000 in
theorem zq1 {H:Hp} {vx:Value} {X:List (List Rat)} (hX:RLL H vx X) {w:Nat} (hw:∀x,x∈X→x.length=w) (h1:1≤w) (h0:0<X.length) (hn:X.length≤1000000):PC prog 176 #[vx] H fun r _=>r=.bool true:=by
 obtain⟨xa,xc,rfl⟩:=hX.val;refine BD func176 ntmps176 ?_;refine uR ?_;refine EV.loopK (ι:=Nat) [0] [] (fun q=>[(3,.v (.int .i64 (q:Int)))]) (fun _=>[]) (fun _=>[]) (fun q _=>q≤X.length) (fun q=>X.length-q) (0) rfl rfl ⟨rfl,trivial⟩ trivial rfl (fun _=>rfl) (Nat.zero_le _) ?_;rintro i G1 hG1 hi;obtain⟨vs,hvs,hs⟩:=hX.mono hG1;obtain⟨x0,hx0⟩:=gE h0;obtain⟨u0,e0,hu0,_⟩:=hvs.at hx0;have hw0:=hw x0 (qF hx0);refine uR ?_;refine EV.cond rfl (fun hlt=>?_) (fun hlt=>?_)
 ·simp only[nN]at hlt;obtain⟨x,hx⟩:=gE hlt;obtain⟨u1,e1,hu1,_⟩:=hvs.at hx;have hw1:=hw x (qF hx);rw[hw0]at hu0;rw[hw1]at hu1;refine uR ?_;apply EV.drawn 18 kR kR;intro xv yw;(repeat refine' DD ?_);refine' vJ (hs) (i) (rfl) (hlt) (hu1) ?_;rotate_left;(repeat refine' DD ?_);refine' vJ (hs) (0) (rfl) (h0) (hu0) ?_;rotate_left;(repeat refine' DD ?_);rw[show ((w:Int) != (w:Int))=false from bne_self_eq_false _];(repeat refine' DD ?_);refine' vJ (hs) (i) (rfl) (hlt) (hu1) ?_;rotate_left;(repeat refine' DD ?_);rw[show ((w:Int) == 0)=false from beq_eq_false_iff_ne.2 (by omega)];(repeat refine' DD ?_);(refine DJ.nil (fun G hG hF=>?_);(case hS|hS2=>rfl));refine uR ?_;refine⟨i+1,⟨by rw[zab i (by omega)];rfl,trivial⟩,sB,trivial,trivial,rfl,hlt,hG,by omega⟩
 ·try refine uR ?_
  rw[qD (show (X.length:Int)>0 by omega)]
theorem zqJ {H:Hp} {vx:Value} {X:List (List Rat)} (hX:RLL H vx X) {w:Nat} (hw:∀x,x∈X→x.length=w) (h1:1≤w) (h2:w≤20) (h0:0<X.length) (hn:X.length≤300):PC prog 130 #[vx] H fun r _=>r=.bool true:=by
 obtain⟨xa,xc,rfl⟩:=hX.val;have hr:=zq1 hX hw h1 h0 oM;obtain⟨vs,hvs,hs⟩:=id hX;obtain⟨x0,hx0⟩:=gE h0;obtain⟨u0,e0,hu0,_⟩:=hvs.at hx0;rw[hw x0 (qF hx0)]at hu0;refine BD func130 ntmps130 ?_
 repeat (first|refine RUN ?_|refine CV (hr) ?_|refine CE (hr) ?_)
 rw[qD (show (X.length:Int)≤300 by omega)];refine uR ?_;refine vI (hs) (0) (rfl) (h0) (hu0) ?_;refine uR ?_;rw[qD (show (w:Int)≤20 by omega)]
 try refine uR ?_
abbrev zdV (deep least:Int) (g1 g2 g3:Value):Value:=.agg #[.int .i64 deep,.int .i64 least,g1,g2,g3]
abbrev zeZ (deep least:Int) (g:Rat):Prop:=deep≥0∧deep≤10∧least≥1∧least≤300∧0≤g
theorem zms (q:Rat):(q.num.sign≥0)↔0≤q:=⟨fun h=>Rat.num_nonneg.1 (Int.sign_nonneg_iff.1 h),fun h=>Int.sign_nonneg_iff.2 (Rat.num_nonneg.2 h)⟩
theorem zdt {p:Prop} [Decidable p] (h:¬p):Value.bool false=.bool (decide p):=congrArg Value.bool (qC h).symm
theorem zg8 {H:Hp} {deep least:Int} {b1:Bool} {a1 a2:Option Addr} {l1 c1 l2 c2:Nat} {q:Rat} (hq:RQ H (.agg #[.bool b1,.slice a1 l1 c1,.slice a2 l2 c2]) q):PC prog 36 #[zdV deep least (.bool b1) (.slice a1 l1 c1) (.slice a2 l2 c2)] H fun r _=>r=.bool (decide (zeZ deep least q)):=by
 have hs:=znJ hq;refine BD func36 ntmps36 ?_;refine uR ?_;by_cases h1:deep≥0
 case neg =>
  rw[qC h1];refine uR ?_;exact zdt fun k=>h1 k.1
 rw[qD h1];refine uR ?_;by_cases h2:deep≤10
 case neg =>
  rw[qC h2];refine uR ?_;exact zdt fun k=>h2 k.2.1
 rw[qD h2];refine uR ?_;by_cases h3:least≥1
 case neg =>
  rw[qC h3];refine uR ?_;exact zdt fun k=>h3 k.2.2.1
 rw[qD h3];refine uR ?_;by_cases h4:least≤300
 case neg =>
  rw[qC h4];refine uR ?_;exact zdt fun k=>h4 k.2.2.2.1
 rw[qD h4]
 repeat (first|refine RUN ?_|refine CV (hs) ?_|refine CE (hs) ?_)
 exact congrArg Value.bool (decide_eq_decide.2 ((zms q).trans ⟨fun k=>⟨h1,h2,h3,h4,k⟩,fun k=>k.2.2.2.2⟩))
theorem zmj {H:Hp} {deep least:Int} {b1:Bool} {a1 a2:Option Addr} {l1 c1 l2 c2:Nat} {q:Rat} (hq:RQ H (.agg #[.bool b1,.slice a1 l1 c1,.slice a2 l2 c2]) q) (h0:0≤q) (hd:0≤deep∧deep≤10) (hl:1≤least∧least≤300):PC prog 36 #[zdV deep least (.bool b1) (.slice a1 l1 c1) (.slice a2 l2 c2)] H fun r _=>r=.bool true:=by
 have:=zg8 (deep:=deep) (least:=least) hq;rw[qD (show zeZ deep least q from ⟨hd.1,hd.2,hl.1,hl.2,h0⟩)]at this;exact this
def zrx (n N:Nat) (ck:Int) (fb:Bool) (rows:List Int):Int:=if n=N then (if ck=0∧fb=true∧∀r,r∈rows→0≤r∧r<(n:Int) then 0 else 1) else 5
theorem zjN {n N:Nat} {ck:Int} {fb:Bool} {rows:List Int} (h:n≠N):zrx n N ck fb rows=5:=if_neg h
theorem zeC {n:Nat} {ck:Int} {fb:Bool} {rows:List Int} (h:¬(ck=0∧fb=true∧∀r,r∈rows→0≤r∧r<(n:Int))):zrx n n ck fb rows=1:=(if_pos rfl).trans (if_neg h)
theorem zhT {n:Nat} {rows:List Int} (h:∀r,r∈rows→0≤r∧r<(n:Int)):zrx n n 0 true rows=0:=(if_pos rfl).trans (if_pos ⟨rfl,rfl,h⟩)
theorem znO {H:Hp} {v:Value} (h:RLL H v []):PC prog 176 #[v] H fun r _=>r=.bool false:=by
 obtain⟨a,c,rfl⟩:=h.val;refine BD func176 ntmps176 ?_;refine uR ?_;refine EV.loopK (ι:=Nat) [0] [] (fun q=>[(3,.v (.int .i64 (q:Int)))]) (fun _=>[]) (fun _=>[]) (fun q _=>q=0) (fun q=>0) (0) rfl rfl ⟨rfl,trivial⟩ trivial rfl (fun _=>rfl) (rfl) ?_;rintro i G1 hG1 rfl;refine uR ?_;rfl
theorem znL {H:Hp} {v:Value} (h:RLL H v []):PC prog 130 #[v] H fun r _=>r=.bool false:=by
 have hr:=znO h;obtain⟨a,c,rfl⟩:=h.val;refine BD func130 ntmps130 ?_
 repeat (first|refine RUN ?_|refine CV (hr) ?_|refine CE (hr) ?_)
 rfl
theorem zfi {H:Hp} {kd cl deep least ck:Int} {la va:Option Addr} {ln lc vn vc N:Nat} {vx vr:Value} {X:List (List Rat)} {rows:List Int} {w:Nat} {b1 fb:Bool} {a1 a2:Option Addr} {l1 c1 l2 c2:Nat}
  (hck:PC prog 132 #[zai kd cl (.slice la ln lc) (.slice va vn vc)] H fun r _=>r=.int .i64 ck) (hlen:PV prog 131 #[zai kd cl (.slice la ln lc) (.slice va vn vc)] (.int .i64 (N:Int)))
  (hX:RLL H vx X) (hw:∀x,x∈X→x.length=w) (h1:1≤w) (h2:w≤20) (hN:1≤N) (hn:X.length≤300) (hr:IL H vr rows) (hr0:0<rows.length) (hrn:rows.length≤300)
  (hf:PC prog 36 #[zdV deep least (.bool b1) (.slice a1 l1 c1) (.slice a2 l2 c2)] H fun r _=>r=.bool fb) :
  PC prog 85 #[zai kd cl (.slice la ln lc) (.slice va vn vc),vx,vr,zdV deep least (.bool b1) (.slice a1 l1 c1) (.slice a2 l2 c2)] H fun r _=>r=.int .i64 (zrx X.length N ck fb rows):=by
 obtain⟨ra,rc,rfl⟩:=SlC.val hr;by_cases h0:X.length=0
 ·have hne:X.length≠N:=by omega
  obtain rfl:=List.length_eq_zero_iff.1 h0;have hlearn:=znL hX;obtain⟨xa,xc,rfl⟩:=hX.val;refine BD func85 ntmps85 ?_
  repeat (first|refine RUN ?_|refine CV (hlearn) ?_|refine CE (hlearn) ?_)
  rw[zjN hne]
 have hlearn:=zqJ hX hw h1 h2 oM hn;obtain⟨xa,xc,rfl⟩:=hX.val;refine BD func85 ntmps85 ?_
 repeat (first|refine RUN ?_|refine CV (hlearn) ?_|refine CV (hlen) ?_|refine CE (hlearn) ?_|refine CE (hlen) ?_)
 by_cases hne:X.length=N
 case neg =>
  rw[show ((N:Int) != (X.length:Int))=true from bne_iff_ne.2 (by omega)];refine uR ?_;rw[zjN hne]
 subst hne;rw[show ((X.length:Int) != (X.length:Int))=false from bne_self_eq_false _];refine uR ?_;rw[show ((rows.length:Int) == 0)=false from beq_eq_false_iff_ne.2 (by omega)];refine uR ?_;rw[qC (show ¬(rows.length:Int)>300 by omega)]
 repeat (first|refine RUN ?_|refine CV (hck) ?_|refine CE (hck) ?_)
 by_cases hc0:ck=0
 case neg =>
  rw[show (ck != 0)=true from bne_iff_ne.2 hc0];refine uR ?_;rw[zeC fun k=>hc0 k.1]
 subst hc0
 repeat (first|refine RUN ?_|refine CV (hf) ?_|refine CE (hf) ?_)
 cases fb
 case false =>
  refine uR ?_;rw[zeC fun k=>by cases k.2.1]
 refine uR ?_;refine EV.loopK (ι:=Nat) [1,2] [] (fun q=>[(9,.v (.int .i64 (q:Int)))]) (fun _=>[]) (fun _=>[]) (fun q _=>q≤rows.length∧∀r,r∈rows.take q→0≤r∧r<(X.length:Int)) (fun q=>rows.length-q) (0) rfl rfl ⟨rfl,trivial⟩ trivial rfl (fun _=>rfl) (⟨Nat.zero_le _,fun r hr=>by cases hr⟩) ?_;rintro i G1 hG1 ⟨hi,hall⟩;refine uR ?_;refine EV.cond rfl (fun hlt=>?_) (fun hlt=>?_)
 ·simp only[nN]at hlt;obtain⟨r,hri⟩:=gE hlt;have hmem:=qF hri;refine uR ?_;refine vI ((hr.mono hG1)) (i) (rfl) (hlt) ((by rw[List.getElem?_map,hri];rfl)) ?_;refine uR ?_;by_cases hr0:r<0
  ·rw[qD hr0];refine uR ?_;rw[zeC fun k=>by have:=k.2.2 r hmem;omega]
  rw[qC hr0];refine uR ?_;refine vI ((hr.mono hG1)) (i) (rfl) (hlt) ((by rw[List.getElem?_map,hri];rfl)) ?_;refine uR ?_;by_cases hrx:r≥(X.length:Int)
  ·rw[qD hrx];refine uR ?_;rw[zeC fun k=>by have:=k.2.2 r hmem;omega]
  rw[qC hrx];refine uR ?_;refine⟨i+1,⟨by rw[zab i (by omega)];rfl,trivial⟩,sB,trivial,trivial,rfl,⟨hlt,fun y hy=>?_⟩,Hp.Le.refl _,by omega⟩;rw[zap hri]at hy;rcases List.mem_append.1 hy with h | h
  ·exact hall y h
  ·rw[List.mem_singleton.1 h];omega
 ·simp only[nN]at hlt;obtain rfl:i=rows.length:=by omega
  rw[List.take_length]at hall;refine uR ?_;rw[zhT hall]
def zgi (H:Hp) (cs:List Value) (kd cl w:Int) (ns:List Nd):Prop:=∃a c css,cs=[.int .i64 kd,.int .i64 cl,.int .i64 w,.slice a ns.length c]∧zb6 H css ns∧SlC H (.slice a ns.length c) ns.length 15 css.flatten
theorem zgi.mono {H G:Hp} {cs:List Value} {kd cl w:Int} {ns:List Nd} (h:zgi H cs kd cl w ns) (k:H.Le G):zgi G cs kd cl w ns:=by
 obtain⟨a,c,css,e,h1,h2⟩:=h;exact⟨a,c,css,e,h1.mono k,h2.mono k⟩
set_option maxRecDepth 100000 in
theorem zkk {p:GP} {H:Hp} {kd cl least:Int} {D sm w bd:Nat} {Td:TypeId} {s:Int} {la va xa:Option Addr} {ln lc vn vc xc:Nat} {vr:Value} {rows:List Int} {b1:Bool} {a1 a2:Option Addr} {l1 c1 l2 c2:Nat}
  (hds:∀s,p.cols s=((zat w s).1.take sm,(zat w s).2)) (hsm1:1≤sm) (hsm:sm≤w) (hw2:w≤20) (hx0:0<p.X.length) (hxn:p.X.length≤300) (hxw:∀x,x∈p.X→x.length=w) (hxq:∀x,x∈p.X→∀q,q∈x→ht q≤5) (hpl:p.least=least) (hl:1≤least∧least≤300) (hgr:rq p.gain) (hg0:0≤p.gain) (hD:D≤10)
  (hg:zjo H (zai kd cl (.slice la ln lc) (.slice va vn vc)) kd p.X.length p.cost p.mean p.cnt) (hX:RLL H (.slice xa p.X.length xc) p.X) (hgq:RQ H (.agg #[.bool b1,.slice a1 l1 c1,.slice a2 l2 c2]) p.gain)
  (hr:IL H vr rows) (hr0:0<rows.length) (hn:rows.length≤300) (hb:∀r,r∈rows→0≤r∧r<(p.X.length:Int)) (hs:0≤s) :
  PW prog 33 #[zai kd cl (.slice la ln lc) (.slice va vn vc),.slice xa p.X.length xc,vr,zdV (D:Int) least (.bool b1) (.slice a1 l1 c1) (.slice a2 l2 c2),.int .i64 (sm:Int),.pointer (some ⟨bd,0,none⟩)] H [(bd,Td,[.int .u64 s])]
   fun v ow H'=>∃T' cs,v=.tuple #[.agg cs.toArray,.int .i64 0]∧ow=[(bd,T',[.int .u64 (p.grow D 0 rows s).2])]∧0≤(p.grow D 0 rows s).2∧zgi H' cs kd cl (w:Int) (p.grow D 0 rows s).1:=by
 obtain⟨ra,rc,rfl⟩:=SlC.val hr;have hpow:2 ^ (D+1)≤2 ^ 11:=Nat.pow_le_pow_right oM oM;have herr:=zfi (hg.check H (Hp.Le.refl _)) hg.len hX hxw oM hw2 oM hxn hr hr0 hn (zmj (deep:=(D:Int)) hgq hg0 oM hl);rw[zhT hb]at herr;obtain⟨vs,hvs,hvx⟩:=id hX;obtain⟨x0,hxx0⟩:=gE hx0;obtain⟨u0,e0,hu0,_⟩:=hvs.at hxx0;rw[hxw x0 (qF hxx0)]at hu0;refine PW.body tO func33 rfl kR ntmps33 rfl rfl ?_
 repeat (first|refine RUN ?_|refine CV (herr) ?_|refine CE (herr) ?_)
 rw[qC (show ¬(sm:Int)<1 by omega)];refine uR ?_;refine vI (hvx) (0) (rfl) (hx0) (hu0) ?_;refine uR ?_;rw[qC (show ¬(sm:Int)>(w:Int) by omega)];refine uR ?_;(first|refine EVL.unbox (42) rfl fun gb=>?_|refine EV.unbox (42) rfl fun gb=>?_);refine EVL.callW rfl rfl rfl rfl rfl ((gb,159,_)::([(bd,Td,[.int .u64 s])]++[])) ([]) rfl (zmk (dq:=some ⟨bd,0,none⟩) (deep:=(D:Int)) (fun _=>hds) (fun h=>by cases h) hsm oM oM hx0 hxw hxq hpl hgr D (ns:=[]) (css:=[]) hg hX hgq oM (Int.le_refl _) oM hr hn hb (.inr ⟨bd,Td,rfl,rfl,hs⟩) (zaJ.nil _ _) ⟨rfl,fun j c n e1 e2=>by cases e1⟩ (by rw[List.length_nil];omega)) ?_;rintro _ _ G1 ⟨rfl,out,D',ow2,css,rfl,hD',hown,hns⟩ hG1;rw[List.nil_append]at hown hns;rw[List.length_nil]at hown hns hD';rcases hD' with ⟨e1,_⟩|⟨bd',T',e1,rfl,hs'⟩
 ·cases e1
 cases e1;obtain⟨oa,oc,rfl⟩:=hown.val;refine EVL.apart fun hdis=>?_
 refine EVL.publishL [(gb,_,_),(bd,T',_)] ow2 [] rfl hown (fun G2 hG2 hc=>?_) (fun k hk q hq=>by
  obtain rfl:=List.mem_singleton.1 hk;exact ziC (fun j j' b T T' cs cs' h1 h2=>by have:=hdis (j+1) (j'+1) b T T' cs cs' h1 h2;omega) q hq)
 have hG12:=hG1.trans hG2;refine uR ?_;apply EV.drawn 12 kR kR;intro xv yw;(repeat refine' DD ?_);refine' vJ (hvx.mono hG12) (0) (rfl) (hx0) (hu0) ?_;rotate_left;(repeat (first|refine' DD ?_|refine' vN ?_|refine' vF ?_));refine' DJ.ofVal (zaa.loadOwn tO rfl rfl rfl rfl (0) rfl (rfl) rfl rfl) rfl rfl rfl ?_;rotate_left;(refine DJ.nil (fun G hG hF=>?_);(case hS|hS2=>rfl));(first|refine EVL.subOw [] [(gb,_,_)] [(bd,T',_)] rfl ?_|refine EV.subOw [] [(gb,_,_)] [(bd,T',_)] rfl ?_);refine uR ?_;exact⟨T',_,rfl,rfl,hs',oa,oc,css,rfl,hns.mono (hG2.trans hG),SlC.mono hc hG⟩
set_option maxRecDepth 100000 in
theorem zlu {p:GP} {H:Hp} {kd cl least:Int} {D w:Nat} {s:Int} {la va xa:Option Addr} {ln lc vn vc xc:Nat} {vr:Value} {rows:List Int} {b1:Bool} {a1 a2:Option Addr} {l1 c1 l2 c2:Nat}
  (hdn:∀s,p.cols s=(zgb w,s)) (hw1:1≤w) (hw2:w≤20) (hx0:0<p.X.length) (hxn:p.X.length≤300) (hxw:∀x,x∈p.X→x.length=w) (hxq:∀x,x∈p.X→∀q,q∈x→ht q≤5) (hpl:p.least=least) (hl:1≤least∧least≤300) (hgr:rq p.gain) (hg0:0≤p.gain) (hD:D≤10)
  (hg:zjo H (zai kd cl (.slice la ln lc) (.slice va vn vc)) kd p.X.length p.cost p.mean p.cnt) (hX:RLL H (.slice xa p.X.length xc) p.X) (hgq:RQ H (.agg #[.bool b1,.slice a1 l1 c1,.slice a2 l2 c2]) p.gain)
  (hr:IL H vr rows) (hr0:0<rows.length) (hn:rows.length≤300) (hb:∀r,r∈rows→0≤r∧r<(p.X.length:Int)) :
  PC prog 28 #[zai kd cl (.slice la ln lc) (.slice va vn vc),.slice xa p.X.length xc,vr,zdV (D:Int) least (.bool b1) (.slice a1 l1 c1) (.slice a2 l2 c2)] H
   fun v H'=>∃cs,v=.tuple #[.agg cs.toArray,.int .i64 0]∧zgi H' cs kd cl (w:Int) (p.grow D 0 rows s).1:=by
 obtain⟨ra,rc,rfl⟩:=SlC.val hr;have hpow:2 ^ (D+1)≤2 ^ 11:=Nat.pow_le_pow_right oM oM;have herr:=zfi (hg.check H (Hp.Le.refl _)) hg.len hX hxw hw1 hw2 oM hxn hr hr0 hn (zmj (deep:=(D:Int)) hgq hg0 oM hl);rw[zhT hb]at herr;obtain⟨vs,hvs,hvx⟩:=id hX;obtain⟨x0,hxx0⟩:=gE hx0;obtain⟨u0,e0,hu0,_⟩:=hvs.at hxx0;rw[hxw x0 (qF hxx0)]at hu0;refine BD func28 ntmps28 ?_
 repeat (first|refine RUN ?_|refine CV (herr) ?_|refine CE (herr) ?_)
 (first|refine EVL.unbox (25) rfl fun gb=>?_|refine EV.unbox (25) rfl fun gb=>?_);refine EVL.callW rfl rfl rfl rfl rfl ((gb,159,_)::([]++[])) ([]) rfl (zmk (dq:=none) (deep:=(D:Int)) (sm:=0) (w:=w) (fun h=>absurd rfl h) (fun _=>hdn) (Nat.zero_le _) hw1 oM hx0 hxw hxq hpl hgr D (s:=s) (ns:=[]) (css:=[]) hg hX hgq oM (Int.le_refl _) oM hr hn hb (.inl ⟨rfl,rfl⟩) (zaJ.nil _ _) ⟨rfl,fun j c n e1 e2=>by cases e1⟩ (by rw[List.length_nil];omega)) ?_;rintro _ _ G1 ⟨rfl,out,D',ow2,css,rfl,hD',hown,hns⟩ hG1;rw[List.nil_append]at hown hns;rw[List.length_nil]at hown hns hD';rcases hD' with ⟨_,rfl⟩|⟨bd',T',e1,_⟩
 case inr=>cases e1
 obtain⟨oa,oc,rfl⟩:=hown.val;refine EVL.publishL [(gb,_,_)] ow2 [] rfl hown (fun G2 hG2 hc=>?_);have hG12:=hG1.trans hG2;refine uR ?_;apply EV.drawn 12 kR kR;intro xv yw;(repeat refine' DD ?_);refine' vJ (hvx.mono hG12) (0) (rfl) (hx0) (hu0) ?_;rotate_left;(repeat (first|refine' DD ?_|refine' vN ?_|refine' vF ?_));refine' DJ.ofVal (zaa.loadOwn tO rfl rfl rfl rfl (0) rfl (rfl) rfl rfl) rfl rfl rfl ?_;rotate_left;(refine DJ.nil (fun G hG hF=>?_);(case hS|hS2=>rfl));(first|refine EVL.subOw [] [(gb,_,_)] [] rfl ?_|refine EV.subOw [] [(gb,_,_)] [] rfl ?_);refine uR ?_;exact⟨_,rfl,oa,oc,css,rfl,hns.mono (hG2.trans hG),SlC.mono hc hG⟩
abbrev noT (e:Int):Value:=.tuple #[.agg #[.int .i64 0,.int .i64 0,.int .i64 0,.slice none 0 0],.int .i64 e]
theorem zq0 {H:Hp} {kd cl deep least e:Int} {la va:Option Addr} {ln lc vn vc:Nat} {vx vr:Value} {b1:Bool} {a1 a2:Option Addr} {l1 c1 l2 c2:Nat} (he:PC prog 85 #[zai kd cl (.slice la ln lc) (.slice va vn vc),vx,vr,zdV deep least (.bool b1) (.slice a1 l1 c1) (.slice a2 l2 c2)] H fun r _=>r=.int .i64 e) (h0:e≠0) :
  PC prog 28 #[zai kd cl (.slice la ln lc) (.slice va vn vc),vx,vr,zdV deep least (.bool b1) (.slice a1 l1 c1) (.slice a2 l2 c2)] H fun r _=>r=noT e:=by
 refine BD func28 ntmps28 ?_
 repeat (first|refine RUN ?_|refine CV (he) ?_|refine CE (he) ?_)
 rw[show (e != 0)=true from bne_iff_ne.2 h0];refine uR ?_;rfl
theorem zfJ {H:Hp} {kd cl deep least e sm:Int} {la va xa:Option Addr} {ln lc vn vc xc bd w:Nat} {Td:TypeId} {s:Int} {vr:Value} {b1:Bool} {a1 a2:Option Addr} {l1 c1 l2 c2:Nat} {X:List (List Rat)} (hX:RLL H (.slice xa X.length xc) X) (he:PC prog 85 #[zai kd cl (.slice la ln lc) (.slice va vn vc),.slice xa X.length xc,vr,zdV deep least (.bool b1) (.slice a1 l1 c1) (.slice a2 l2 c2)] H fun r _=>r=.int .i64 e) (h0:e≠0∨1≤X.length∧(∀x,x∈X→x.length=w)∧(sm<1∨(w:Int)<sm)) :
  PW prog 33 #[zai kd cl (.slice la ln lc) (.slice va vn vc),.slice xa X.length xc,vr,zdV deep least (.bool b1) (.slice a1 l1 c1) (.slice a2 l2 c2),.int .i64 sm,.pointer (some ⟨bd,0,none⟩)] H [(bd,Td,[.int .u64 s])]
   fun v ow _=>v=noT (if e≠0 then e else 1)∧ow=[(bd,Td,[.int .u64 s])]:=by
 obtain⟨vs,hvs,hvx⟩:=id hX;refine PW.body tO func33 rfl kR ntmps33 rfl rfl ?_
 repeat (first|refine RUN ?_|refine CV (he) ?_|refine CE (he) ?_)
 by_cases h1:e≠0
 ·rw[show (e != 0)=true from bne_iff_ne.2 h1,if_pos h1];refine uR ?_;exact⟨rfl,rfl⟩
 obtain rfl:e=0:=Decidable.not_not.1 h1;rw[if_neg h1];obtain⟨hx0,hxw,hs⟩:=h0.resolve_left h1;refine uR ?_;by_cases h2:sm<1
 ·rw[qD h2];refine uR ?_;exact⟨rfl,rfl⟩
 rw[qC h2];obtain⟨x0,hxx0⟩:=gE hx0;obtain⟨u0,e0,hu0,_⟩:=hvs.at hxx0;rw[hxw x0 (qF hxx0)]at hu0;refine uR ?_;refine vI (hvx) (0) (rfl) (hx0) (hu0) ?_;refine uR ?_;rw[qD (show sm>(w:Int) by omega)];refine uR ?_;exact⟨rfl,rfl⟩
end
section
structure Tr where
 kd:Int
 cl:Int
 w:Int
 ns:List Nd
end
section
open Go.RowKit _root_.Go.Proofs.Tryz
theorem zi0 {α β:Type} {R:α→β→Prop} {xs:List α} {ys:List β} (h:xs.length=ys.length∧∀(j:Nat) (x:α) (y:β),xs[j]?=some x→ys[j]?=some y→R x y) {x:α} {y:β} (k:R x y):(xs++[x]).length=(ys++[y]).length∧∀(j:Nat) (x':α) (y':β),(xs++[x])[j]?=some x'→(ys++[y])[j]?=some y'→R x' y':=by
 refine⟨by simp[h.1],fun j x' y' e1 e2=>?_⟩;by_cases hj:j<xs.length
 ·rw[List.getElem?_append_left hj]at e1;rw[List.getElem?_append_left (by rw[←h.1];exact hj)]at e2;exact h.2 j x' y' e1 e2
 ·rw[List.getElem?_append_right (by omega)]at e1;rw[List.getElem?_append_right (by rw[←h.1];omega),←h.1]at e2
  have h0:j-xs.length=0:=by
   have:=(qE.1 e1).1;simp at this;omega
  rw[h0]at e1 e2;cases e1;cases e2;exact k
end
end Go.Proofs.YtifcjfodgicngaaGreatDoor
