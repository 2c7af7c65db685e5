/- Texts of ours in one: Gn13, Gn14, GnQ, GnR, GnS, GnT, GnV, Wd1, Ls7, LsR, Ls8, Wd2, Ha3, Lw8, Lw9, Wd3, Wd4, Ev24, RqL, Wd5, GnX, Tr1, Ev25, Wd6, Tr2, Dice, Draw, RefDice, Dg1, Wd7, Ev26, Tr3, Ev27, Stable, Swaps, RestPlain, Rest, Same, Rising. -/
import Derived.Test.YtplhljjljnkhpaaGreatDoorC0
import Derived.Test.YtplhljjljnkhpaaGreatDoorC1
import Derived.Test.YtplhljjljnkhpaaGreatDoorC2
import Derived.Test.YtplhljjljnkhpaaGreatDoorC3
import Derived.Test.YtplhljjljnkhpaaGreatDoorRows
import Derived.WalkLawsBesides
import Derived.Deep.LoopGhost
import Derived.Lib.ConvBytes
import Derived.Deep.QuietTactic
import Derived.BigQuiet
set_option linter.unusedVariables false
set_option linter.unusedSimpArgs false
set_option maxHeartbeats 64000000
namespace Go.Proofs.YtplhljjljnkhpaaGreatDoor
section
open Go.RowKit _root_.Go.Proofs.Tryz
def zds (st:Option (Int × Rat × Rat)) (p:Int × Option (Rat × Rat)):Option (Int × Rat × Rat):=match p.2 with
 | none=>st
 | some (a,w)=>match st with
  | none=>some (p.1,a,w)
  | some (c0,a0,w0)=>if w0<w then some (p.1,a,w) else some (c0,a0,w0)
def zb5 (ps:List (Int × Option (Rat × Rat))):Option (Int × Rat × Rat):=ps.foldl zds none
theorem zmO (ps:List (Int × Option (Rat × Rat))) (p:Int × Option (Rat × Rat)):zb5 (ps++[p])=zds (zb5 ps) p:=by unfold zb5;rw[List.foldl_append];rfl
theorem zlV {ps:List (Int × Option (Rat × Rat))} {B:Nat} (h:∀p,p∈ps→ht (stW p.2)≤B):∀c a w,zb5 ps=some (c,a,w)→ht w≤B:=by
 have key:∀(qs:List (Int × Option (Rat × Rat))) (st:Option (Int × Rat × Rat)),(∀p,p∈qs→ht (stW p.2)≤B)→(∀c a w,st=some (c,a,w)→ht w≤B)→∀c a w,qs.foldl zds st=some (c,a,w)→ht w≤B:=by
  intro qs
  induction qs with
  | nil=>intro st _ h2 c a w h3;exact h2 c a w h3
  | cons p qs ih =>
   intro st h1 h2 c a w h3;refine ih (zds st p) (fun q hq=>h1 q (List.mem_cons_of_mem _ hq)) ?_ c a w h3;intro c a w h4;have hp:=h1 p (List.mem_cons_self ..);unfold zds at h4
   cases ho:p.2 with
   | none=>rw[ho]at h4;exact h2 c a w h4
   | some q =>
    obtain⟨a1,w1⟩:=q;rw[ho]at h4 hp
    cases st with
    | none=>cases h4;exact hp
    | some t =>
     obtain⟨c0,a0,w0⟩:=t;dsimp only at h4;split at h4
     ·cases h4;exact hp
     ·cases h4;exact h2 _ _ _ rfl
 exact key ps none h (fun c a w h=>by cases h)
def zrW:Option (Int × Rat × Rat)→List Value
 | none=>.int .i64 0::(zac (zae 0)++zac (zae 0))
 | some (c,a,w)=>.int .i64 c::(zac (zae a)++zac (zae w))
theorem zl0:Tryz.te272.zero=zrW none:=by
 unfold zrW;rw[zat];rfl
abbrev zu0 (c:Int) (a w:Rat):Value:=.agg (zrW (some (c,a,w))).toArray
def zuB (X:List (List Rat)) (wo:List Int→Rat) (rs cols:List Int) (least:Int) (r:Value):Prop :=
 ∃ps:List (Int × Option (Rat × Rat)),ztV cols (ps.map (·.1))∧(∀p,p∈ps→zrT X wo rs (max least 1) p.1 p.2) ∧
  ((zb5 ps=none∧r=.tuple #[.agg (zrW none).toArray,.bool false])∨∃c a w,zb5 ps=some (c,a,w)∧r=.tuple #[zu0 c a (w-wo rs),.bool true])
theorem zsu {H:Hp} {kd cl:Int} {sl sv vx vr vc:Value} {X:List (List Rat)} {S:List Int→List Value} {wo:List Int→Rat} {rs cols:List Int} {least:Int} (hg:GOk H kd cl sl sv X.length S wo) (hX:QLL H vx X) (hr:IL H vr rs) (hn:rs.length≤20) (hc:IL H vc cols) (hcn:cols.length≤1000000) (hb:∀x,x∈X→∀q,q∈x→ht q≤100) :
  PC prog 186 #[zak kd cl sl sv,vx,vr,vc,.int .i64 least] H fun r _=>zuB X wo (exL rs X.length) cols least r:=by
 have hlen:=hg.leng;have hex:=fun (G:Hp) (hG:H.Le G)=>zcu (hr.mono hG) oM X.length;have hel:=zbm rs X.length;have heb:=zcO (rs:=rs) (n:=X.length);generalize exL rs X.length=es at *
 obtain⟨xa,xc,rfl⟩:=hX.val;obtain⟨ra,rc,rfl⟩:=SlC.val hr;obtain⟨ca,cc,rfl⟩:=SlC.val hc;refine BD func186 ntmps186 ?_;refine uR ?_;refine vA (hg.check _ (Hp.Le.refl _)) ?_;rintro r0 G1 rfl hG1
 repeat (first|refine RUN ?_|refine CV (hlen) ?_|refine CE (hlen) ?_)
 rw[show ((X.length:Int) != (X.length:Int))=false from bne_self_eq_false _];refine uR ?_;refine vA (hex _ hG1) ?_;intro r1 G2 he hG2;obtain⟨ea,ec,rfl⟩:=SlC.val he;refine uR ?_;refine vA (zkq ca cols.length cc) ?_;rintro r2 G3 ⟨b,rfl,hb3⟩ hG3;have hc3:=hc.mono (hG1.trans (hG2.trans hG3));refine EVL.callO rfl rfl rfl rfl rfl (zpX hb3 hc3 hcn) ?_;rintro r4 ow4 how4;have hcl:=zaU cols;rw[←hcl]at how4;refine EVL.callW rfl rfl rfl rfl rfl (ow4) ([]) rfl (zmW how4 oM) ?_;rintro r5 ow5 G5 how5 hG5;have hcols:=zsz cols;have hcl2:=zgu (za0 cols);generalize Lib.compact (za0 cols)=cs at *
 obtain⟨ka,kc,rfl⟩:=how5.val;(first|refine EVL.publishL [] ow5 [] (rfl) how5 fun G6 hG6 hk6=>?_|refine EV.publishL [] ow5 [] (rfl) how5 fun G6 hG6 hk6=>?_);have hk6':IL G6 (.slice ka cs.length kc) cs:=hk6;clear hb3 hc3 how4 how5 hk6;have hall:=hG1.trans (hG2.trans (hG3.trans (hG5.trans hG6)));have hg6:=hg.mono hall;have hX6:=hX.mono hall;have he6:=he.mono (hG3.trans (hG5.trans hG6));refine uR ?_;refine EV.loopK (ι:=List (Int × Option (Rat × Rat))) [1,2,4,5,10,12,38,39] [5,10] (fun ps=>[(13,.v (.bool (zb5 ps).isSome)),(40,.v (.int .i64 (ps.length:Int)))]) (fun ps=>[(12,272,zrW (zb5 ps))]) (fun _=>[]) (fun ps _=>ps.map (·.1)=cs.take ps.length∧ps.length≤cs.length∧∀p,p∈ps→zrT X wo es (max least 1) p.1 p.2) (fun ps=>cs.length-ps.length) ([]) rfl rfl ⟨rfl,rfl,trivial⟩ ⟨by rw[show zb5 []=none from rfl,←zl0];rfl,trivial⟩ rfl (fun _=>rfl) (⟨rfl,Nat.zero_le _,by simp⟩) ?_;rintro ps G7 hG7 ⟨hps,hpl,hpr⟩;refine uR ?_;refine EV.cond rfl (fun hlt=>?_) (fun hlt=>?_)
 ·simp only[nN]at hlt;obtain⟨c,hci⟩:∃c,cs[ps.length]?=some c:=⟨_,qA hlt⟩;have hcol:=zow (col:=c) (least:=max least 1) (hg6.mono hG7) (hX6.mono hG7) (he6.mono hG7) oM heb hb;refine uR ?_;refine vI ((hk6'.mono hG7)) (ps.length) (rfl) (hlt) ((by rw[List.getElem?_map,hci];rfl)) ?_;refine uR ?_;refine EVL.asI (max least 1) ((by split <;> omega)) ?_;refine vA (hcol) ?_;rintro r6 G8 ⟨o,hR,rfl⟩ hG8;have hln:∀o,(ps++[(c,o)]).length=ps.length+1:=fun o=>by simp
  have wn:IntKind.i64.wrap ((ps.length:Int)+1)=((ps.length+1:Nat):Int):=zab _ oM
  have hmap:∀o,(ps++[(c,o)]).map (·.1)=cs.take (ps++[(c,o)]).length:=fun o=>by
   rw[hln,zah hci,←hps,List.map_append];rfl
  have hmem:∀o,zrT X wo es (max least 1) c o→∀p,p∈ps++[(c,o)]→zrT X wo es (max least 1) p.1 p.2:=fun o h p hp=>by
   rcases List.mem_append.1 hp with hp | hp
   ·exact hpr p hp
   ·rw[List.mem_singleton.1 hp];exact h
  have hsn:=zmO ps (c,o);have hwb:ht (stW o)≤200001:=by obtain⟨_,_,_,h⟩:=hR;exact h
  have hwo:∀c a w,zb5 ps=some (c,a,w)→ht w≤200001:=zlV fun p hp=>by obtain⟨_,_,_,h⟩:=hpr p hp;exact h
  cases o with
  | none =>
   have hsame:zb5 (ps++[(c,none)])=zb5 ps:=hsn;refine uR ?_;refine⟨ps++[(c,none)],⟨by rw[hsame];rfl,by rw[hln,wn];rfl,trivial⟩,sB,⟨by rw[hsame];rfl,trivial⟩,sB,rfl,⟨hmap _,by rw[hln];omega,hmem _ hR⟩,by assumption,by rw[hln];omega⟩
  | some q =>
   obtain⟨a,w⟩:=q
   cases hst:zb5 ps with
   | none =>
    have hnew:zb5 (ps++[(c,some (a,w))])=some (c,a,w):=by rw[hsn,hst];rfl
    refine uR ?_;refine⟨ps++[(c,some (a,w))],⟨by rw[hnew];rfl,by rw[hln,wn];rfl,trivial⟩,sB,⟨by rw[hnew];rfl,trivial⟩,sB,rfl,⟨hmap _,by rw[hln];omega,hmem _ hR⟩,by assumption,by rw[hln];omega⟩
   | some t =>
    obtain⟨c0,a0,w0⟩:=t;have hcmp:=zfE w w0 (zaY (show ht w≤200001 from hwb) oM) (zaY (hwo _ _ _ hst) oM)
    repeat (first|refine RUN ?_|refine CV (hcmp) ?_|refine CE (hcmp) ?_)
    by_cases hlt2:w0<w
    ·have hnew:zb5 (ps++[(c,some (a,w))])=some (c,a,w):=by rw[hsn,hst];exact if_pos hlt2
     rw[qD (zeW.2 hlt2)];refine uR ?_;refine⟨ps++[(c,some (a,w))],⟨by rw[hnew];rfl,by rw[hln,wn];rfl,trivial⟩,sB,⟨by rw[hnew];rfl,trivial⟩,sB,rfl,⟨hmap _,by rw[hln];omega,hmem _ hR⟩,by assumption,by rw[hln];omega⟩
    ·have hnew:zb5 (ps++[(c,some (a,w))])=some (c0,a0,w0):=by rw[hsn,hst];exact if_neg hlt2
     rw[qC (fun h=>hlt2 (zeW.1 h))];refine uR ?_;refine⟨ps++[(c,some (a,w))],⟨by rw[hnew];rfl,by rw[hln,wn];rfl,trivial⟩,sB,⟨by rw[hnew];rfl,trivial⟩,sB,rfl,⟨hmap _,by rw[hln];omega,hmem _ hR⟩,by assumption,by rw[hln];omega⟩
 ·simp only[nN]at hlt;have hpe:ps.length=cs.length:=by omega
  have hcs:ps.map (·.1)=cs:=by rw[hps,hpe,List.take_length]
  rw[←hcs]at hcols;have hwo:∀c a w,zb5 ps=some (c,a,w)→ht w≤200001:=zlV fun p hp=>by obtain⟨_,_,_,h⟩:=hpr p hp;exact h
  cases hst:zb5 ps with
  | none =>
   refine uR ?_;exact⟨ps,hcols,hpr,.inl ⟨hst,by rw[←zl0];rfl⟩⟩
  | some t =>
   obtain⟨c,a,w⟩:=t;have hsub:=zmx w (wo es) (zaY (hwo _ _ _ hst) oM) (zaY (hg.small es oM heb) oM);have hlS:=hg.len es;refine uR ?_;refine EVL.call rfl rfl rfl rfl rfl (hg6.whole _ hG7 _ es (he6.mono hG7) oM heb) ?_;rintro r6 G8 rfl hG8;obtain⟨sn,scs,ssq,sq,hs12,hS⟩:=hg.form es;obtain⟨c0,c1,c2,c3,c4,c5,c6,c7,c8,c9,c10,c11,rfl⟩:=zuc hs12;rw[hS];refine uR ?_;(first|refine EVL.unbox (19) rfl fun b=>?_|refine EV.unbox (19) rfl fun b=>?_);(first|refine EVL.swapOw ([(b,320,S es)]) ([]) ((by rw[hS];rfl)) ?_|refine EV.swapOw ([(b,320,S es)]) ([]) ((by rw[hS];rfl)) ?_);have hw1:=fun G':Hp=>hg.worth G' b 0 320 [] [] es rfl oM heb;simp only[qG]at hw1;clear hS;refine uR ?_;apply EV.drawn 7 kR kR;intro xv yw;(repeat (first|refine' DD ?_|refine' vN ?_|refine' vF ?_));(refine' DJ.callR rfl rfl rfl rfl rfl 0 rfl (by simp[hlS]) (cO func230) (fun G'=>hw1 G') ?_;rotate_left);(repeat (first|refine' DD ?_|(refine' DC (hsub) (h:=?_);rotate_left)));(refine DJ.nil (fun G9 hG9 hF9=>?_);(case hS|hS2=>rfl));refine uR ?_;exact⟨ps,hcols,hpr,.inr ⟨c,a,w,hst,rfl⟩⟩
def RRs (H:Hp) (vs:List Value) (X:List (List Rat)):Prop:=vs.length=X.length∧∀(j:Nat) (u:Value) (x:List Rat),vs[j]?=some u→X[j]?=some x→RL H u x
theorem RRs.mono {H G:Hp} {vs:List Value} {X:List (List Rat)} (h:RRs H vs X) (k:H.Le G):RRs G vs X:=⟨h.1,fun j u x e1 e2=>(h.2 j u x e1 e2).mono k⟩
theorem RRs.nil (H:Hp):RRs H [] []:=⟨rfl,fun j u x h=>by simp at h⟩
theorem RRs.snoc {H:Hp} {vs:List Value} {X:List (List Rat)} {u:Value} {x:List Rat} (h:RRs H vs X) (k:RL H u x):RRs H (vs++[u]) (X++[x]):=zqc h k
def RLL (H:Hp) (v:Value) (X:List (List Rat)):Prop:=∃vs:List Value,RRs H vs X∧SlC H v X.length 1 vs
theorem RLL.mono {H G:Hp} {v:Value} {X:List (List Rat)} (h:RLL H v X) (k:H.Le G):RLL G v X:=by
 obtain⟨vs,h1,h2⟩:=h;exact⟨vs,h1.mono k,h2.mono k⟩
theorem RLL.val {H:Hp} {v:Value} {X:List (List Rat)} (h:RLL H v X):∃a c,v=.slice a X.length c:=by
 obtain⟨vs,_,h2⟩:=h;exact SlC.val h2
theorem RRs.at {H:Hp} {vs:List Value} {X:List (List Rat)} (h:RRs H vs X) {j:Nat} {x:List Rat} (hj:X[j]?=some x):∃a c,vs[j]?=some (.slice a x.length c)∧RL H (.slice a x.length c) x:=by
 obtain⟨hl,_⟩:=qE.1 hj;obtain⟨u,hu⟩:∃u,vs[j]?=some u:=⟨_,qA (by rw[h.1];exact hl)⟩;have hq:=h.2 j u x hu hj;obtain⟨a,c,rfl⟩:=hq.val;exact⟨a,c,hu,hq⟩
def zhc (l:List Int) (n w:Nat):List (List Rat):=(List.range n).map fun i=>zkR (l.drop (min l.length (i*w))) w
theorem zhd (l:List Int) (n w:Nat):(zhc l n w).length=n:=by simp[zhc]
theorem zrB (l:List Int) {n w i:Nat} (h:i<n):(zhc l n w)[i]?=some (zkR (l.drop (min l.length (i*w))) w):=by
 unfold zhc;rw[List.getElem?_map,List.getElem?_range h];rfl
theorem IL.drop {H:Hp} {a:Option Addr} {cap:Nat} {l:List Int} (h:IL H (.slice a l.length cap) l) (k:Nat) (hk:k≤l.length):IL H (.slice (if cap=k then a else a.map (·.add (k*1))) (l.length-k) (cap-k)) (l.drop k):=by
 have hs:SlC H (.slice a l.length cap) l.length 1 (l.map iv):=h;have:=hs.sub k l.length hk (qH _) (SlN.le h);unfold IL SlN;rw[List.length_drop,List.map_drop];rw[Nat.mul_one,Nat.mul_one,List.take_of_length_le (by simp)]at this;rw[Nat.mul_one];exact this
theorem ztm {H:Hp} {v:Value} {l:List Int} (h:IL H v l) (hb:∀z,z∈l → -9223372036854775808≤z∧z<9223372036854775808) (n w:Nat) (hn:n≤1000) (hw:w≤1000):PC prog 31 #[v,.int .i64 (n:Int),.int .i64 (w:Int)] H fun r H'=>RLL H' r (zhc l n w):=by
 obtain⟨a,cap,rfl⟩:=SlC.val h;have hcap:l.length≤cap:=SlN.le h;refine BD func31 ntmps31 ?_;refine uR ?_;refine EV.loopK (ι:=Nat × List Value × Value × Ows) [0,1,2] [] (fun q=>[(7,.v q.2.2.1),(8,.v (.int .i64 (q.1:Int)))]) (fun _=>[]) (fun q=>q.2.2.2) (fun q G=>q.1≤n∧RRs G q.2.1 ((zhc l n w).take q.1)∧zaK 26 1 q.2.2.1 q.1 q.2.1 q.2.2.2) (fun q=>n-q.1) ((0,[],.slice none 0 0,[])) rfl rfl ⟨rfl,rfl,trivial⟩ trivial rfl (fun _=>rfl) (⟨Nat.zero_le _,RRs.nil _,zaK.nil _ _⟩) ?_;rintro⟨i,vs,u,ow⟩ G1 hG1 ⟨hi,hvs,hown⟩;dsimp only at hi hvs hown;obtain⟨wa,wc,rfl⟩:=hown.val;refine uR ?_;refine EV.cond rfl (fun hlt=>?_) (fun hlt=>?_)
 ·simp only[nN]at hlt;have hk:i*w≤1000*1000:=Nat.mul_le_mul oM hw
  have hwr:IntKind.i64.wrap ((i:Int)*(w:Int))=((i*w:Nat):Int):=by
   rw[←Int.natCast_mul];generalize i*w=k at *;rw[IntKind.wrap_i64];omega
  have hrow:=zrB l (w:=w) hlt;generalize i*w=k at *
  have hd:=IL.drop (h.mono hG1) (min l.length k) (Nat.min_le_left _ _);have hrp:=zr8 hd (fun z hz=>hb z (List.mem_of_mem_drop hz)) w oM;refine uR ?_;rw[hwr];refine EVL.asI ((min l.length k:Nat)) ((by split <;> omega)) ?_;refine EVL.slc tO rfl rfl rfl rfl rfl rfl rfl rfl (min l.length k) l.length (.inr ⟨_,IntKind.i64,rfl,rfl⟩) (.inl ⟨rfl,rfl⟩) (Nat.min_le_left _ _) hcap hcap ?_;refine uR ?_;refine vA (hrp) ?_;rintro r G2 hr hG2;obtain⟨ra,rc,rfl⟩:=hr.val;refine uR ?_;refine EVL.app1 tO rfl rfl rfl rfl rfl rfl rfl rfl rfl rfl rfl rfl rfl rfl rfl rfl rfl rfl rfl (fun _=>rfl) (ow) ([]) ((qG _).symm) (hown) oM fun _=>?_;intro v' ow' hown';refine uR ?_;refine⟨(i+1,vs++[_],v',ow'),⟨rfl,?_,trivial⟩,sB,trivial,trivial,qG _,⟨hlt,by rw[zah hrow];exact(hvs.mono hG2).snoc hr,hown'⟩,hG2,by dsimp only;omega⟩;rw[zab i (by omega)];rfl
 ·simp only[nN]at hlt;obtain rfl:i=n:=by omega
  rw[List.take_of_length_le (by rw[zhd];omega)]at hvs;(first|refine EVL.publishL [] ow [] ((qG _).symm) hown fun G2 hG2 hs=>?_|refine EV.publishL [] ow [] ((qG _).symm) hown fun G2 hG2 hs=>?_);refine uR ?_;exact⟨vs,hvs.mono hG2,by rw[zhd];exact hs⟩
theorem zoR {H:Hp} {v:Value} {X:List (List Rat)} (h:RLL H v X) (hn:X.length≤1000000) (hx:∀x,x∈X→x.length≤1000000∧∀q,q∈x→rq q):PC prog 11 #[v] H fun r H'=>QLL H' r X:=by
 obtain⟨a,cap,rfl⟩:=h.val;refine BD func11 ntmps11 ?_;refine uR ?_;refine EV.loopK (ι:=Nat × List Value × Value × Ows) [0] [] (fun q=>[(3,.v q.2.2.1),(4,.v (.int .i64 (q.1:Int)))]) (fun _=>[]) (fun q=>q.2.2.2) (fun q G=>q.1≤X.length∧QVs G q.2.1 (X.take q.1)∧zaK 52 1 q.2.2.1 q.1 q.2.1 q.2.2.2) (fun q=>X.length-q.1) ((0,[],.slice none 0 0,[])) rfl rfl ⟨rfl,rfl,trivial⟩ trivial rfl (fun _=>rfl) (⟨Nat.zero_le _,QVs.nil _,zaK.nil _ _⟩) ?_;rintro⟨i,vs,u,ow⟩ G1 hG1 ⟨hi,hvs,hown⟩;dsimp only at hi hvs hown;obtain⟨wa,wc,rfl⟩:=hown.val;refine uR ?_;refine EV.cond rfl (fun hlt=>?_) (fun hlt=>?_)
 ·simp only[nN]at hlt;obtain⟨x,hxi⟩:=gE hlt;have hxb:=hx x (qF hxi);obtain⟨us,hus,hs⟩:=h.mono hG1;obtain⟨a1,c1,hu1,hR⟩:=hus.at hxi;have hin:=ziO hR oM hxb.2;refine uR ?_;refine vI (hs) (i) (rfl) (hlt) (hu1) ?_;refine uR ?_;refine vA (hin) ?_;rintro r G2 hr hG2;obtain⟨ra,rc,rfl⟩:=SlC.val hr;refine uR ?_;refine EVL.app1 tO rfl rfl rfl rfl rfl rfl rfl rfl rfl rfl rfl rfl rfl rfl rfl rfl rfl rfl rfl (fun _=>rfl) (ow) ([]) ((qG _).symm) (hown) oM fun _=>?_;intro v' ow' hown';refine uR ?_;refine⟨(i+1,vs++[_],v',ow'),⟨rfl,?_,trivial⟩,sB,trivial,trivial,qG _,⟨hlt,by rw[zah hxi];exact(hvs.mono hG2).snoc hr,hown'⟩,hG2,by dsimp only;omega⟩;rw[zab i (by omega)];rfl
 ·simp only[nN]at hlt;obtain rfl:i=X.length:=by omega
  rw[List.take_length]at hvs;(first|refine EVL.publishL [] ow [] ((qG _).symm) hown fun G2 hG2 hs=>?_|refine EV.publishL [] ow [] ((qG _).symm) hown fun G2 hG2 hs=>?_);refine uR ?_;exact⟨vs,hvs.mono hG2,hs⟩
def zjS (key:Int→Rat) (m:List Int):Nat→List Rat
 | 0=>[]
 | j+1=>zjS key m j++if key (m.getD j 0)<key (m.getD (j+1) 0) then [ze5 key m j] else []
end
section
theorem zjM (m o:Rat):∀l:List Rat,zaO (zeG o l.reverse)=zaO (zeG m l.reverse)+2*(m-o)*(zaO l.reverse-((l.length:Int):Rat)*m)+((l.length:Int):Rat)*((m-o)*(m-o))
 | []=>by
  rw[show zaO (zeG o ([]:List Rat).reverse)=0 from rfl,show zaO (zeG m ([]:List Rat).reverse)=0 from rfl,show zaO ([]:List Rat).reverse=0 from rfl,show (((([]:List Rat).length:Int)):Rat)=0 from rfl];grind
 | x::l=>by
  have ih:=zjM m o l
  have e:(((x::l).length:Int):Rat)=((l.length:Int):Rat)+1:=by
   rw[List.length_cons,Int.natCast_add,Rat.intCast_add];rfl
  rw[List.reverse_cons,zgy,zgy,zb2,ih,e];generalize zaO (zeG m l.reverse)=A;generalize zaO l.reverse=B;generalize ((l.length:Int):Rat)=N;grind
theorem zky (a:Rat):0≤a*a:=by
 rcases (Rat.le_total:0≤a∨a≤0) with h | h
 ·exact Rat.mul_nonneg h h
 ·have:0 ≤ -a:=by grind
  have:=Rat.mul_nonneg this this;grind
end
section
structure POk (wo cost:List Int→Rat):Prop where
 wperm:∀l m:List Int,l.Perm m→wo l=wo m
 cperm:∀l m:List Int,l.Perm m→cost l=cost m
 split:∀l m:List Int,cost (l++m)+wo (l++m)=cost l+wo l+(cost m+wo m)
 conv:∀l m:List Int,wo (l++m)≤wo l+wo m
theorem POk.gain {wo cost:List Int→Rat} (h:POk wo cost) {rs l m:List Int} (hp:(l++m).Perm rs):cost rs-cost l-cost m=wo l+wo m-wo rs:=by
 have h1:=h.split l m;have h2:=h.wperm _ _ hp;have h3:=h.cperm _ _ hp;rw[h2,h3]at h1;grind
theorem zlg {p:Int→Bool} {m:List Int} {k:Nat} (h1:∀x,x∈m.take k→p x=true) (h2:∀x,x∈m.drop k→p x=false):m.filter p=m.take k:=by
 rw[←List.take_append_drop k m,List.filter_append,List.filter_eq_self.2 h1,List.filter_eq_nil_iff.2 (fun x hx=>by rw[h2 x hx];decide),qG,List.take_append_drop]
theorem zle {p:Int→Bool} {m:List Int} {k:Nat} (h1:∀x,x∈m.take k→p x=false) (h2:∀x,x∈m.drop k→p x=true):m.filter p=m.drop k:=by
 conv=>lhs;rw[←List.take_append_drop k m]
 rw[List.filter_append,List.filter_eq_nil_iff.2 (fun x hx=>by rw[h1 x hx];decide),List.filter_eq_self.2 h2,List.nil_append]
theorem zud {a b:Rat} (h:a<b):a<(a+b) / 2∧(a+b) / 2<b:=by
 constructor <;> grind
theorem ziJ {m:List Int} {j:Nat} {x:Int} (h:x∈m.take (j+1)):∃i,i≤j∧i<m.length∧m.getD i 0=x:=by
 obtain⟨i,hi,rfl⟩:=List.mem_iff_getElem.1 h;rw[List.length_take]at hi;exact⟨i,by omega,by omega,by simp[show i<m.length by omega]⟩
theorem ziI {m:List Int} {j:Nat} {x:Int} (h:x∈m.drop (j+1)):∃i,j+1≤i∧i<m.length∧m.getD i 0=x:=by
 obtain⟨i,hi,rfl⟩:=List.mem_iff_getElem.1 h;rw[List.length_drop]at hi;exact⟨j+1+i,by omega,by omega,by simp[show j+1+i<m.length by omega]⟩
theorem zf6 {key:Int→Rat} {m:List Int} (h:zhz key m) {i j:Nat} (hij:i≤j) (hj:j<m.length):key (m.getD i 0)≤key (m.getD j 0):=by
 rcases Nat.lt_or_eq_of_le hij with hlt | rfl
 ·have:=(List.pairwise_iff_getElem.1 h) i j (by simp;omega) (by simp;omega) hlt;simpa[show i<m.length by omega,hj] using this
 ·exact Rat.le_refl
theorem zf9 {X:List (List Rat)} {col:Int} {rs m:List Int} (hp:m.Perm rs) (hr:zhz (zbF X col) m) (ha:∀r,r∈rs→zcP X col r=true) {j:Nat} (hj:j+1<m.length) (hlt:zbF X col (m.getD j 0)<zbF X col (m.getD (j+1) 0)) :
  (zbt X col (ze5 (zbF X col) m j) rs).Perm (m.take (j+1))∧(zaE X col (ze5 (zbF X col) m j) rs).Perm (m.drop (j+1)):=by
 obtain⟨h1,h2⟩:=zud hlt;have hm:∀r,r∈m→zcP X col r=true:=fun r hr=>ha r (hp.mem_iff.1 hr)
 have hlo:∀x,x∈m.take (j+1)→zbF X col x≤ze5 (zbF X col) m j:=fun x hx=>by
  obtain⟨i,hi,_,rfl⟩:=ziJ hx;exact Rat.le_trans (zf6 hr hi oM) (Rat.le_of_lt h1)
 have hhi:∀x,x∈m.drop (j+1)→¬zbF X col x≤ze5 (zbF X col) m j:=fun x hx=>by
  obtain⟨i,hi,hil,rfl⟩:=ziI hx;have:=zf6 hr hi hil;intro k;generalize zbF X col (m.getD i 0)=x at *
  unfold ze5 at k;grind
 constructor
 ·refine(hp.symm.filter _).trans ?_;rw[zlg (k:=j+1)]
  ·intro x hx;rw[hm x (List.mem_of_mem_take hx),qD (hlo x hx)];rfl
  ·intro x hx;rw[hm x (List.mem_of_mem_drop hx),qC (hhi x hx)];rfl
 ·refine(hp.symm.filter _).trans ?_;rw[zle (k:=j+1)]
  ·intro x hx;rw[hm x (List.mem_of_mem_take hx),qD (hlo x hx)];rfl
  ·intro x hx;rw[hm x (List.mem_of_mem_drop hx),qC (hhi x hx)];rfl
theorem zeC {key:Int→Rat} {least:Int} {m:List Int} {j:Nat}:zdt key least m j=true↔least≤((j+1:Nat):Int)∧least≤((m.length-(j+1):Nat):Int)∧key (m.getD j 0)<key (m.getD (j+1) 0):=by
 unfold zdt;simp only[Bool.and_eq_true,decide_eq_true_eq];exact and_assoc
theorem ziD {key:Int→Rat} {wo:List Int→Rat} {least:Int} {m:List Int}:∀{n:Nat} {a w:Rat},zdn key wo least m n=some (a,w)→∃j,j<n∧zdt key least m j=true∧a=ze5 key m j∧w=zfx wo m j
 | 0,a,w,h=>by cases h
 | n+1,a,w,h=>by
  unfold zdn at h;split at h
  ·rename_i hc;split at h
   ·cases h;exact⟨n,Nat.lt_succ_self _,hc,rfl,rfl⟩
   ·rename_i a0 w0 h0;split at h
    ·cases h;exact⟨n,Nat.lt_succ_self _,hc,rfl,rfl⟩
    ·cases h;obtain⟨j,h1,h2⟩:=ziD h0;exact⟨j,by omega,h2⟩
  ·obtain⟨j,h1,h2⟩:=ziD h;exact⟨j,by omega,h2⟩
theorem ziC {key:Int→Rat} {wo:List Int→Rat} {least:Int} {m:List Int}:∀{n j:Nat},j<n→zdt key least m j=true→∃a w,zdn key wo least m n=some (a,w)∧zfx wo m j≤w
 | 0,j,h,_=>by omega
 | n+1,j,h,hc=>by
  unfold zdn;by_cases hjn:j=n
  ·subst hjn;rw[if_pos hc];split
   ·exact⟨_,_,rfl,Rat.le_refl⟩
   ·rename_i a0 w0 _;by_cases hw:w0<zfx wo m j
    ·rw[if_pos hw];exact⟨_,_,rfl,Rat.le_refl⟩
    ·rw[if_neg hw];exact⟨_,_,rfl,Rat.not_lt.1 hw⟩
  ·obtain⟨a,w,h1,h2⟩:=ziC (wo:=wo) (show j<n by omega) hc;split
   ·rw[h1];dsimp only;split
    ·rename_i hw;exact⟨_,_,rfl,Rat.le_trans h2 (Rat.le_of_lt hw)⟩
    ·exact⟨_,_,rfl,h2⟩
   ·exact⟨a,w,h1,h2⟩
theorem zoh {ps:List (Int × Option (Rat × Rat))} {c:Int} {a w:Rat} (h:zb5 ps=some (c,a,w)):(c,some (a,w))∈ps:=by
 have key:∀(qs pre:List (Int × Option (Rat × Rat))) (st:Option (Int × Rat × Rat)),(∀c a w,st=some (c,a,w)→(c,some (a,w))∈pre)→∀c a w,qs.foldl zds st=some (c,a,w)→(c,some (a,w))∈pre++qs:=by
  intro qs
  induction qs with
  | nil=>intro pre st h2 c a w h3;rw[qG];exact h2 c a w h3
  | cons p qs ih =>
   intro pre st h2 c a w h3
   have:=ih (pre++[p]) (zds st p) (fun c a w h4=>by
    obtain⟨pc,po⟩:=p;unfold zds at h4
    cases po with
    | none=>exact List.mem_append_left _ (h2 c a w h4)
    | some q =>
     obtain⟨a1,w1⟩:=q
     cases st with
     | none=>cases h4;simp
     | some t =>
      obtain⟨c0,a0,w0⟩:=t;dsimp only at h4;split at h4
      ·cases h4;simp
      ·cases h4;exact List.mem_append_left _ (h2 _ _ _ rfl)) c a w h3
   simpa using this
 have:=key ps [] none (fun c a w h=>by cases h) c a w h;simpa using this
theorem zog {ps:List (Int × Option (Rat × Rat))} {c:Int} {a w:Rat} (h:(c,some (a,w))∈ps):∃c' a' w',zb5 ps=some (c',a',w')∧w≤w':=by
 have key:∀(qs:List (Int × Option (Rat × Rat))) (st:Option (Int × Rat × Rat)),((c,some (a,w))∈qs∨∃c' a' w',st=some (c',a',w')∧w≤w')→∃c' a' w',qs.foldl zds st=some (c',a',w')∧w≤w':=by
  intro qs
  induction qs with
  | nil =>
   rintro st (h | h)
   ·cases h
   ·exact h
  | cons p qs ih =>
   intro st h;refine ih (zds st p) ?_
   have step:(p=(c,some (a,w))∨∃c' a' w',st=some (c',a',w')∧w≤w')→∃c' a' w',zds st p=some (c',a',w')∧w≤w':=by
    rintro (rfl | ⟨c',a',w',rfl,hw⟩)
    ·unfold zds
     cases st with
     | none=>exact⟨_,_,_,rfl,Rat.le_refl⟩
     | some t =>
      obtain⟨c0,a0,w0⟩:=t;dsimp only;split
      ·exact⟨_,_,_,rfl,Rat.le_refl⟩
      ·rename_i hn;exact⟨_,_,_,rfl,Rat.not_lt.1 hn⟩
    ·obtain⟨pc,po⟩:=p;unfold zds
     cases po with
     | none=>exact⟨_,_,_,rfl,hw⟩
     | some q =>
      obtain⟨a1,w1⟩:=q;dsimp only;split
      ·rename_i hn;exact⟨_,_,_,rfl,Rat.le_trans hw (Rat.le_of_lt hn)⟩
      ·exact⟨_,_,_,rfl,hw⟩
   rcases h with h | h
   ·rcases List.mem_cons.1 h with h | h
    ·exact .inr (step (.inl h.symm))
    ·exact .inl h
   ·exact .inr (step (.inr h))
 exact key ps none (.inl h)
theorem zgE {key:Int→Rat} {m:List Int}:∀{n:Nat} {t:Rat},t∈zjS key m n→∃j,j<n∧key (m.getD j 0)<key (m.getD (j+1) 0)∧t=ze5 key m j
 | 0,t,h=>by cases h
 | n+1,t,h=>by
  unfold zjS at h;rcases List.mem_append.1 h with h | h
  ·obtain⟨j,h1,h2⟩:=zgE h;exact⟨j,by omega,h2⟩
  ·split at h
   ·rename_i hlt;exact⟨n,Nat.lt_succ_self _,hlt,List.mem_singleton.1 h⟩
   ·cases h
section
variable {X:List (List Rat)} {wo cost:List Int→Rat} {rs cols:List Int} {L:Int} {ps:List (Int × Option (Rat × Rat))} (hp:POk wo cost) (hcol:ztV cols (ps.map (·.1))) (hps:∀p,p∈ps→zrT X wo rs L p.1 p.2)
include hp hcol hps
end
end
section
theorem zkB {l m:List Rat} (h:l.Perm m):zaO l=zaO m:=by
 induction h with
 | nil=>rfl
 | cons x _ ih=>rw[zaJ,zaJ,ih]
 | swap x y l=>rw[zaJ,zaJ,zaJ,zaJ];grind
 | trans _ _ h1 h2=>rw[h1,h2]
theorem zhj (l m:List Rat):zaO (l++m)=zaO l+zaO m:=by
 induction l with
 | nil=>rw[List.nil_append,zdZ];grind
 | cons x l ih=>rw[List.cons_append,zaJ,zaJ,ih];grind
theorem zg1 {n:Nat} (h0:n≠0):((n:Int):Rat)≠0:=zdU h0
theorem zi5 {n:Nat} (h0:n≠0):0<((n:Int):Rat):=by
 have h1:((0:Int):Rat)≤((n:Int):Rat):=Rat.intCast_le_intCast.2 oM;have h2:=zg1 h0;have h3:((0:Int):Rat)=0:=rfl;rw[h3]at h1;rcases Rat.le_iff_lt_or_eq.1 h1 with h | h
 ·exact h
 ·exact absurd h.symm h2
theorem zuZ (a b:Rat) (x y:Nat) (hx:x=0→a=0) (hy:y=0→b=0):(a+b)*(a+b) / (((x+y:Nat):Int):Rat)≤a*a / ((x:Int):Rat)+b*b / ((y:Int):Rat):=by
 by_cases hx0:x=0
 ·subst hx0;rw[hx rfl,Nat.zero_add,show ((((0:Nat):Int)):Rat)=0 from rfl,zbo,Rat.zero_add,Rat.zero_add];exact Rat.le_refl
 by_cases hy0:y=0
 ·subst hy0;rw[hy rfl,Nat.add_zero,show ((((0:Nat):Int)):Rat)=0 from rfl,zbo,Rat.add_zero,Rat.add_zero];exact Rat.le_refl
 have h1:=zg1 hx0;have h2:=zg1 hy0;have h3:=zg1 (n:=x+y) oM;have p1:=zi5 hx0;have p2:=zi5 hy0;have p3:=zi5 (n:=x+y) oM;have e:(((x+y:Nat):Int):Rat)=((x:Int):Rat)+((y:Int):Rat):=by rw[Int.natCast_add,Rat.intCast_add]
 rw[e]at h3 p3 ⊢;generalize ((x:Int):Rat)=u at *
 generalize ((y:Int):Rat)=v at *
 have key:a*a / u+b*b / v-(a+b)*(a+b) / (u+v)=(a*v-b*u)*(a*v-b*u) / (u*v*(u+v)):=by grind
 have hn:0≤(a*v-b*u)*(a*v-b*u) / (u*v*(u+v)):=by
  have h5:=zky (a*v-b*u);have h6:0<u*v*(u+v):=Rat.mul_pos (Rat.mul_pos p1 p2) p3;rw[Rat.div_def];exact Rat.mul_nonneg h5 (Rat.le_of_lt (Rat.inv_pos.2 h6))
 grind
def zhN (vals:List Rat) (l:List Int):Rat:=zaO (zeG (zdB (atR vals l)) (atR vals l))
def zgx (ls:List Int) (l:List Int):Rat:=zfT (atI ls l)
theorem zuV (L:List Rat):zaO (zeG (zdB L) L)+zaO L*zaO L / ((L.length:Int):Rat)=zaO (zeG 0 L):=by
 by_cases h0:L.length=0
 ·obtain rfl:=List.length_eq_zero_iff.1 h0;show zaO []+zaO []*zaO [] / ((((([]:List Rat).length:Nat):Int)):Rat)=zaO [];rw[zdZ,show ((((([]:List Rat).length:Nat):Int)):Rat)=0 from rfl,zbo,Rat.add_zero]
 ·have h:=zjM (zdB L) 0 L.reverse;rw[List.reverse_reverse,List.length_reverse]at h;have hn:=zg1 h0;have hm:zdB L=zaO L / ((L.length:Int):Rat):=rfl;rw[h];generalize zaO (zeG (zdB L) L)=A;rw[hm];generalize ((L.length:Int):Rat)=N at *
  generalize zaO L=S at *
  grind
theorem zu6 (vals:List Rat):POk (woV vals) (zhN vals):=by
 have hpm:∀l m:List Int,l.Perm m→(atR vals l).Perm (atR vals m):=fun l m h=>h.map _
 have hw:∀l m:List Int,l.Perm m→woV vals l=woV vals m:=fun l m h=>by
  unfold woV;rw[zkB (hpm l m h),h.length_eq]
 have hf:∀l:List Int,zhN vals l+woV vals l=zaO (zeG 0 (atR vals l)):=fun l=>by
  have:=zuV (atR vals l);rw[zbN]at this;exact this
 refine⟨hw,fun l m h=>?_,fun l m=>?_,fun l m=>?_⟩
 ·have h1:=hf l;have h2:=hf m;have h3:zaO (zeG 0 (atR vals l))=zaO (zeG 0 (atR vals m)):=zkB ((hpm l m h).map _);have h4:=hw l m h;grind
 ·rw[hf,hf,hf,zkV];show zaO ((atR vals l++atR vals m).map _)=_;rw[List.map_append,zhj];rfl
 ·unfold woV;rw[zkV,zhj,List.length_append];exact zuZ _ _ _ _ (fun h=>by rw[List.length_eq_zero_iff.1 h];rfl) (fun h=>by rw[List.length_eq_zero_iff.1 h];rfl)
theorem zji (f g:Nat→Nat) (j:Nat):∀n,((List.range n).map fun k=>f k+if k=j then g k else 0).sum=((List.range n).map f).sum+if j<n then g j else 0
 | 0=>by simp
 | n+1=>by
  rw[List.range_succ,List.map_append,List.sum_append,List.map_append,List.sum_append,zji f g j n];simp only[List.map_cons,List.map_nil,List.sum_cons,List.sum_nil];by_cases h:n=j
  ·subst h;rw[if_pos rfl,if_neg oM,if_pos (by omega)];omega
  ·rw[if_neg h];by_cases h2:j<n
   ·rw[if_pos h2,if_pos (by omega)];omega
   ·rw[if_neg h2,if_neg (by omega)];omega
theorem zpY:∀l:List Int,(∀z,z∈l→0≤z∧z<12)→sqL l=((List.range 12).map fun (k:Nat)=>l.count (k:Int)*l.count (k:Int)).sum
 | [],_=>by decide
 | x::l,h=>by
  have hx:=h x (List.mem_cons_self ..);obtain⟨j,rfl⟩:=Int.eq_ofNat_of_zero_le hx.1;have ih:=zpY l (fun z hz=>h z (List.mem_cons_of_mem _ hz));have hs:=zji (fun k=>l.count (k:Int)*l.count (k:Int)) (fun k=>2*l.count (k:Int)+1) j 12;rw[if_pos (by omega)]at hs;rw[zjf,ih,Nat.add_assoc,←hs];congr 1;refine List.map_congr_left fun k _=>?_;rw[List.count_cons];by_cases e:k=j
  ·subst e;rw[if_pos rfl];simp;grind
  ·have e2:¬((j:Int) == (k:Int))=true:=by simp;omega
   rw[if_neg e,if_neg e2];simp
def zkS (ks:List Nat) (f:Nat→Rat):Rat:=zaO (ks.map f)
theorem zmA (f:Nat→Nat):∀ks:List Nat,((((ks.map f).sum:Nat):Int):Rat)=zkS ks fun k=>(((f k:Nat):Int):Rat)
 | []=>rfl
 | k::ks=>by
  unfold zkS;rw[List.map_cons,List.sum_cons,List.map_cons,zaJ,Int.natCast_add,Rat.intCast_add,zmA f ks];rfl
theorem zpZ {f g:Nat→Rat} (h:∀k,f k≤g k):∀ks:List Nat,zkS ks f≤zkS ks g
 | []=>Rat.le_refl
 | k::ks=>by
  have ih:=zpZ h ks;unfold zkS at *
  rw[List.map_cons,zaJ,List.map_cons,zaJ];have:=h k;grind
theorem zmz (f g:Nat→Rat):∀ks:List Nat,zkS ks (fun k=>f k+g k)=zkS ks f+zkS ks g
 | []=>by unfold zkS;rw[List.map_nil,List.map_nil,List.map_nil,zdZ,Rat.add_zero]
 | k::ks=>by
  have ih:=zmz f g ks;unfold zkS at *
  rw[List.map_cons,zaJ,List.map_cons,zaJ,List.map_cons,zaJ,ih];grind
theorem zga (f:Nat→Rat) (c:Rat):∀ks:List Nat,zkS ks (fun k=>f k / c)=zkS ks f / c
 | []=>by unfold zkS;rw[List.map_nil,List.map_nil,zdZ,Rat.div_def,Rat.zero_mul]
 | k::ks=>by
  have ih:=zga f c ks;unfold zkS at *
  rw[List.map_cons,zaJ,List.map_cons,zaJ,ih,Rat.div_def,Rat.div_def,Rat.div_def,Rat.add_mul]
theorem zlB {l:List Int} (h:∀z,z∈l→0≤z∧z<12):((sqL l:Int):Rat)=zkS (List.range 12) fun k=>((l.count (k:Int):Int):Rat)*((l.count (k:Int):Int):Rat):=by
 rw[zpY l h,zmA];unfold zkS;congr 1;refine List.map_congr_left fun k _=>?_;rw[Int.natCast_mul,Rat.intCast_mul]
theorem zu5 {ls:List Int} (hls:∀z,z∈ls→0≤z∧z<12):POk (woL ls) (zgx ls):=by
 have hpm:∀l m:List Int,l.Perm m→(atI ls l).Perm (atI ls m):=fun l m h=>h.map _
 have hb:∀l:List Int,∀z,z∈atI ls l→0≤z∧z<12:=fun l z hz=>by
  unfold atI at hz;obtain⟨r,_,rfl⟩:=List.mem_map.1 hz;rw[qB]
  cases e:ls[r.toNat]? with
  | none=>exact⟨by decide,by decide⟩
  | some x=>exact hls x (qF e)
 have hw:∀l m:List Int,l.Perm m→woL ls l=woL ls m:=fun l m h=>by
  unfold woL;rw[zmu (hpm l m h),h.length_eq]
 have hf:∀l:List Int,zgx ls l+woL ls l=((l.length:Int):Rat):=fun l=>by
  unfold zgx zfT woL;rw[zb4];grind
 refine⟨hw,fun l m h=>?_,fun l m=>?_,fun l m=>?_⟩
 ·have h1:=hf l;have h2:=hf m;have h4:=hw l m h;rw[h.length_eq]at h1;grind
 ·rw[hf,hf,hf,List.length_append,Int.natCast_add,Rat.intCast_add]
 ·unfold woL;rw[zlB (hb (l++m)),zlB (hb l),zlB (hb m),←zga,←zga,←zga,←zmz];refine zpZ (fun k=>?_) _;rw[zkU,List.count_append,Int.natCast_add,Rat.intCast_add,List.length_append];exact zuZ _ _ _ _ (fun h=>by rw[List.length_eq_zero_iff.1 h];rfl) (fun h=>by rw[List.length_eq_zero_iff.1 h];rfl)
end
section
def zkg (a b:Int × Rat × Rat):Prop:=b.2.2<a.2.2∨(a.2.2=b.2.2∧(a.1<b.1∨(a.1=b.1∧a.2.1<b.2.1)))
instance (a b:Int × Rat × Rat):Decidable (zkg a b):=by unfold zkg;exact inferInstance
theorem zh6 {a b c:Int × Rat × Rat} (h:zkg a b) (k:zkg b c):zkg a c:=by
 unfold zkg at *
 rcases h with h | ⟨h1,h2⟩ <;> rcases k with k | ⟨k1,k2⟩
 ·left;grind
 ·left;grind
 ·left;grind
 ·right;refine⟨h1.trans k1,?_⟩;rcases h2 with h2 | ⟨h2,h3⟩ <;> rcases k2 with k2 | ⟨k2,k3⟩
  ·left;omega
  ·left;omega
  ·left;omega
  ·right;exact⟨by omega,by grind⟩
theorem znw {a b:Int × Rat × Rat} (h:¬zkg a b) (k:¬zkg b a):a=b:=by
 unfold zkg at *
 obtain⟨a1,a2,a3⟩:=a;obtain⟨b1,b2,b3⟩:=b;dsimp only at *
 have e3:a3=b3:=by
  have h1:¬b3<a3:=fun x=>h (.inl x);have h2:¬a3<b3:=fun x=>k (.inl x);grind
 subst e3
 have e1:a1=b1:=by
  have h1:¬a1<b1:=fun x=>h (.inr ⟨rfl,.inl x⟩);have h2:¬b1<a1:=fun x=>k (.inr ⟨rfl,.inl x⟩);omega
 subst e1
 have e2:a2=b2:=by
  have h1:¬a2<b2:=fun x=>h (.inr ⟨rfl,.inr ⟨rfl,x⟩⟩);have h2:¬b2<a2:=fun x=>k (.inr ⟨rfl,.inr ⟨rfl,x⟩⟩);grind
 subst e2;rfl
theorem zh5 {a b:Int × Rat × Rat} (h:zkg a b) (k:zkg b a):False:=by
 have:=zh6 h k;unfold zkg at this;rcases this with h | ⟨_,h | ⟨_,h⟩⟩
 ·exact absurd h Rat.lt_irrefl
 ·omega
 ·exact absurd h Rat.lt_irrefl
def zf5 (st:Option (Int × Rat × Rat)) (p:Int × Rat × Rat):Option (Int × Rat × Rat):=match st with
 | none=>some p
 | some q=>if zkg p q then some p else some q
def zgh (l:List (Int × Rat × Rat)) (r:Option (Int × Rat × Rat)):Prop:=match r with
 | none=>l=[]
 | some p=>p∈l∧∀q,q∈l→¬zkg q p
theorem znb {l:List (Int × Rat × Rat)} {r:Option (Int × Rat × Rat)} (h:zgh l r) (p:Int × Rat × Rat):zgh (l++[p]) (zf5 r p):=by
 unfold zf5
 cases r with
 | none =>
  obtain rfl:l=[]:=h
  exact⟨by simp,fun q hq=>by
   rw[List.nil_append,List.mem_singleton]at hq;subst hq;exact fun k=>zh5 k k⟩
 | some q =>
  obtain⟨h1,h2⟩:=h;dsimp only;split
  ·rename_i hp;refine⟨by simp,fun z hz=>?_⟩;rcases List.mem_append.1 hz with hz | hz
   ·exact fun k=>h2 z hz (zh6 k hp)
   ·rw[List.mem_singleton.1 hz];exact fun k=>zh5 k k
  ·rename_i hp;refine⟨List.mem_append_left _ h1,fun z hz=>?_⟩;rcases List.mem_append.1 hz with hz | hz
   ·exact h2 z hz
   ·rw[List.mem_singleton.1 hz];exact hp
def zlL (P:Int × Rat × Rat→Prop) (r:Option (Int × Rat × Rat)):Prop:=match r with
 | none=>∀p,¬P p
 | some p=>P p∧∀q,P q→¬zkg q p
theorem zgh.p {l:List (Int × Rat × Rat)} {r:Option (Int × Rat × Rat)} (h:zgh l r):zlL (·∈l) r:=by
 cases r with
 | none =>
  obtain rfl:l=[]:=h;intro p hp;cases hp
 | some p=>exact h
theorem zna {P Q:Int × Rat × Rat→Prop} {r s:Option (Int × Rat × Rat)} (h:zlL P r) (k:zlL Q s) (e:∀p,P p↔Q p):r=s:=by
 cases r with
 | none=>cases s with
  | none=>rfl
  | some q=>exact absurd ((e q).2 k.1) (h q)
 | some p=>cases s with
  | none=>exact absurd ((e p).1 h.1) (k p)
  | some q=>rw[znw (a:=p) (b:=q) (k.2 p ((e p).1 h.1)) (h.2 q ((e q).2 k.1))]
theorem zeh {key:Int→Rat} {wo:List Int→Rat} {L:Int} {m:List Int}:∀{n:Nat} {a w:Rat},zdn key wo L m n=some (a,w) →
  ∃j,j<n∧zdt key L m j=true∧a=ze5 key m j∧w=zfx wo m j∧∀j',j'<n→zdt key L m j'=true→zfx wo m j'<w∨(zfx wo m j'=w∧j≤j')
 | 0,a,w,h=>by cases h
 | n+1,a,w,h=>by
  unfold zdn at h;split at h
  ·rename_i hc;split at h
   ·rename_i h0;cases h;refine⟨n,Nat.lt_succ_self _,hc,rfl,rfl,fun j' hj' hc'=>?_⟩;by_cases e:j'=n
    ·subst e;exact .inr ⟨rfl,qH _⟩
    ·obtain⟨a1,w1,h1,_⟩:=ziC (wo:=wo) (show j'<n by omega) hc';rw[h0]at h1;cases h1
   ·rename_i a0 w0 h0;obtain⟨j,hj,h1,h2,h3,h4⟩:=zeh h0;split at h
    ·rename_i hw;cases h;refine⟨n,Nat.lt_succ_self _,hc,rfl,rfl,fun j' hj' hc'=>?_⟩;by_cases e:j'=n
     ·subst e;exact .inr ⟨rfl,qH _⟩
     ·rcases h4 j' oM hc' with h5 | ⟨h5,_⟩
      ·left;grind
      ·left;rw[h5];exact hw
    ·rename_i hw;cases h;refine⟨j,by omega,h1,h2,h3,fun j' hj' hc'=>?_⟩;by_cases e:j'=n
     ·subst e;rcases Rat.le_iff_lt_or_eq.1 (Rat.not_lt.1 hw) with h5 | h5
      ·exact .inl h5
      ·exact .inr ⟨h5,by omega⟩
     ·exact h4 j' oM hc'
  ·rename_i hc;obtain⟨j,hj,h1,h2,h3,h4⟩:=zeh h;refine⟨j,by omega,h1,h2,h3,fun j' hj' hc'=>?_⟩;by_cases e:j'=n
   ·subst e;exact absurd hc' hc
   ·exact h4 j' oM hc'
theorem zkW {ps:List (Int × Option (Rat × Rat))} (hs:(ps.map (·.1)).Pairwise (·<·)) {c:Int} {a w:Rat} (h:zb5 ps=some (c,a,w)):∀c' a' w',(c',some (a',w'))∈ps→w'<w∨(w'=w∧c≤c'):=by
 have key:∀(qs pre:List (Int × Option (Rat × Rat))) (st:Option (Int × Rat × Rat)),((pre++qs).map (·.1)).Pairwise (·<·) →
   (∀c a w,st=some (c,a,w)→(c,some (a,w))∈pre∧∀c' a' w',(c',some (a',w'))∈pre→w'<w∨(w'=w∧c≤c'))→(st=none→∀c' a' w',(c',some (a',w')) ∉ pre) →
   ∀c a w,qs.foldl zds st=some (c,a,w)→∀c' a' w',(c',some (a',w'))∈pre++qs→w'<w∨(w'=w∧c≤c'):=by
  intro qs
  induction qs with
  | nil=>intro pre st _ h2 _ c a w h3 c' a' w' hm;rw[qG]at hm;exact(h2 c a w h3).2 c' a' w' hm
  | cons p qs ih =>
   intro pre st hpw h2 h0 c a w h3 c' a' w' hm;have e:pre++p::qs=(pre++[p])++qs:=by simp
   rw[e]at hpw hm
   have hlt:∀z,z∈pre→z.1<p.1:=fun z hz=>by
    rw[List.map_append,List.map_append]at hpw;exact(List.pairwise_append.1 (List.pairwise_append.1 hpw).1).2.2 z.1 (List.mem_map.2 ⟨z,hz,rfl⟩) p.1 (by simp)
   refine ih (pre++[p]) (zds st p) hpw (fun c a w h4=>?_) (fun h4=>?_) c a w h3 c' a' w' hm
   ·obtain⟨pc,po⟩:=p;unfold zds at h4
    cases po with
    | none =>
     obtain⟨h5,h6⟩:=h2 c a w h4;refine⟨List.mem_append_left _ h5,fun c' a' w' hz=>?_⟩;rcases List.mem_append.1 hz with hz | hz
     ·exact h6 c' a' w' hz
     ·cases List.mem_singleton.1 hz
    | some q =>
     obtain⟨a1,w1⟩:=q
     cases st with
     | none =>
      cases h4;refine⟨by simp,fun c' a' w' hz=>?_⟩;rcases List.mem_append.1 hz with hz | hz
      ·exact absurd hz (h0 rfl c' a' w')
      ·cases List.mem_singleton.1 hz;exact .inr ⟨rfl,by omega⟩
     | some t =>
      obtain⟨c0,a0,w0⟩:=t;obtain⟨h5,h6⟩:=h2 c0 a0 w0 rfl;dsimp only at h4;split at h4
      ·rename_i hw;cases h4;refine⟨by simp,fun c' a' w' hz=>?_⟩;rcases List.mem_append.1 hz with hz | hz
       ·rcases h6 c' a' w' hz with h7 | ⟨h7,_⟩
        ·left;grind
        ·left;rw[h7];exact hw
       ·cases List.mem_singleton.1 hz;exact .inr ⟨rfl,by omega⟩
      ·rename_i hw;cases h4;refine⟨List.mem_append_left _ h5,fun c' a' w' hz=>?_⟩;rcases List.mem_append.1 hz with hz | hz
       ·exact h6 c' a' w' hz
       ·cases List.mem_singleton.1 hz;have hl:=hlt _ h5;dsimp only at hl;rcases Rat.le_iff_lt_or_eq.1 (Rat.not_lt.1 hw) with h8 | h8
        ·exact .inl h8
        ·exact .inr ⟨h8,by omega⟩
   ·obtain⟨pc,po⟩:=p;unfold zds at h4
    cases po with
    | none =>
     intro c' a' w' hz;rcases List.mem_append.1 hz with hz | hz
     ·exact h0 h4 c' a' w' hz
     ·cases List.mem_singleton.1 hz
    | some q =>
     obtain⟨a1,w1⟩:=q
     cases st with
     | none=>cases h4
     | some t =>
      obtain⟨c0,a0,w0⟩:=t;dsimp only at h4;split at h4 <;> cases h4
 exact key ps [] none hs (fun c a w h=>by cases h) (fun _ c' a' w' h=>by cases h) c a w h
end
section
theorem zkp {key:Int→Rat} {es m m2:List Int} (h1:m.Perm es) (r1:zhz key m) (h2:m2.Perm es) (r2:zhz key m2):m2.length=m.length∧∀i,i<m.length→key (m2.getD i 0)=key (m.getD i 0):=by
 have hml:m2.length=m.length:=by rw[h1.length_eq,h2.length_eq]
 have hkk:m2.map key=m.map key:=zij r2 r1 ((h2.trans h1.symm).map _);refine⟨hml,fun i hi=>?_⟩;have:=congrArg (fun l:List Rat=>l[i]?) hkk;simp only[List.getElem?_map]at this;rw[qA (show i<m2.length by omega),qA hi]at this;simpa[hi,hml] using this
theorem zom {X:List (List Rat)} {wo cost:List Int→Rat} {c L:Int} {es m m2:List Int} (hp:POk wo cost) (ha:∀r,r∈es→zcP X c r=true) (h1:m.Perm es) (r1:zhz (zbF X c) m) (h2:m2.Perm es) (r2:zhz (zbF X c) m2) {j:Nat} (hj:j+1<m.length) (hc:zdt (zbF X c) L m j=true) :
  zdt (zbF X c) L m2 j=true∧ze5 (zbF X c) m2 j=ze5 (zbF X c) m j∧zfx wo m2 j=zfx wo m j:=by
 obtain⟨hml,hget⟩:=zkp h1 r1 h2 r2;obtain⟨c1,c2,hlt⟩:=zeC.1 hc;have hlt2:zbF X c (m2.getD j 0)<zbF X c (m2.getD (j+1) 0):=by rw[hget j oM,hget (j+1) hj];exact hlt
 have hmid:ze5 (zbF X c) m2 j=ze5 (zbF X c) m j:=by unfold ze5;rw[hget j oM,hget (j+1) hj]
 obtain⟨hl,hh⟩:=zf9 h1 r1 ha hj hlt;obtain⟨hl2,hh2⟩:=zf9 h2 r2 ha (show j+1<m2.length by omega) hlt2;rw[hmid]at hl2 hh2;refine⟨zeC.2 ⟨c1,by rw[hml];exact c2,hlt2⟩,hmid,?_⟩;unfold zfx;rw[hp.wperm _ _ (hl2.symm.trans hl),hp.wperm _ _ (hh2.symm.trans hh)]
def zuC (X:List (List Rat)) (wo:List Int→Rat) (es cols:List Int) (L:Int) (p:Int × Rat × Rat):Prop :=
 p.1∈cols∧es.all (zcP X p.1)=true∧∃m j,m.Perm es∧zhz (zbF X p.1) m∧j+1<m.length∧zdt (zbF X p.1) L m j=true∧p.2.1=ze5 (zbF X p.1) m j∧p.2.2=zfx wo m j-wo es
theorem zq6 {key:Int→Rat} {m:List Int} (h:zhz key m) {i j:Nat} (hij:i≤j) (hj:j+1<m.length):ze5 key m i≤ze5 key m j:=by
 have h1:=zf6 h hij oM;have h2:=zf6 h (show i+1≤j+1 by omega) hj;unfold ze5;grind
theorem zre {ps:List (Int × Option (Rat × Rat))} (hs:(ps.map (·.1)).Pairwise (·<·)):∀{c:Int} {o o':Option (Rat × Rat)},(c,o)∈ps→(c,o')∈ps→o=o':=by
 induction ps with
 | nil=>intro c o o' h;cases h
 | cons p ps ih =>
  intro c o o' h h';rw[List.map_cons]at hs;obtain⟨h1,h2⟩:=List.pairwise_cons.1 hs;rcases List.mem_cons.1 h with h | h <;> rcases List.mem_cons.1 h' with h' | h'
  ·rw[←h]at h';cases h';rfl
  ·have:=h1 c (List.mem_map.2 ⟨_,h',rfl⟩);rw[←h]at this;exact absurd this (by dsimp only;omega)
  ·have:=h1 c (List.mem_map.2 ⟨_,h,rfl⟩);rw[←h']at this;exact absurd this (by dsimp only;omega)
  ·exact ih h2 h h'
theorem zkX {X:List (List Rat)} {wo cost:List Int→Rat} {es cols:List Int} {L:Int} {ps:List (Int × Option (Rat × Rat))} (hp:POk wo cost) (hcol:ztV cols (ps.map (·.1))) (hps:∀p,p∈ps→zrT X wo es L p.1 p.2) :
  zlL (zuC X wo es cols L) ((zb5 ps).map fun t=>(t.1,t.2.1,t.2.2-wo es)):=by
 have own:∀c a g,zuC X wo es cols L (c,a,g)→∃a2 w2,(c,some (a2,w2))∈ps∧g+wo es≤w2∧(g+wo es=w2→a2≤a):=by
  rintro c a g ⟨hc,ha,m,j,hm,hr,hj,hcand,he,hg⟩;dsimp only at hc ha hr hcand he hg;obtain⟨⟨pk,po⟩,hpm,hpk⟩:=List.mem_map.1 ((hcol.2 c).2 hc);dsimp only at hpk;subst hpk;obtain⟨m2,hs2,ho2,_⟩:=hps _ hpm;dsimp only at hs2 ho2;rcases hs2 with ⟨_,hm2,hr2⟩ | ⟨hno,_⟩
  ·obtain⟨h1,h2,h3⟩:=zom hp (List.all_eq_true.1 ha) hm hr hm2 hr2 hj hcand;have hml:=(zkp hm hr hm2 hr2).1;obtain⟨a2,w2,hcn,hw⟩:=ziC (wo:=wo) (show j<m2.length-1 by omega) h1;rw[←ho2]at hcn;subst hcn;obtain⟨j2,hj2,_,e1,e2,e3⟩:=zeh ho2.symm;refine⟨a2,w2,hpm,by grind,fun heq=>?_⟩;rcases e3 j oM h1 with h4 | ⟨_,h4⟩
   ·grind
   ·rw[e1,he,←h2];exact zq6 hr2 h4 oM
  ·rw[ha]at hno;cases hno
 cases hb:zb5 ps with
 | none =>
  rintro⟨c,a,g⟩ hq;obtain⟨a2,w2,h1,_⟩:=own c a g hq;obtain⟨_,_,_,h2,_⟩:=zog h1;rw[hb]at h2;cases h2
 | some t =>
  obtain⟨c,a,w⟩:=t;have hm:=zoh hb;refine⟨?_,?_⟩
  ·obtain⟨m,hs,ho,_⟩:=hps _ hm;dsimp only at hs ho;obtain⟨j,hj,hcand,e1,e2⟩:=ziD ho.symm;rcases hs with ⟨ha,hpm,hr⟩ | ⟨_,rfl⟩
   ·exact⟨(hcol.2 c).1 (List.mem_map.2 ⟨_,hm,rfl⟩),ha,m,j,hpm,hr,by omega,hcand,e1,by show w-wo es=_;rw[e2]⟩
   ·simp at hj
  ·rintro⟨c',a',g'⟩ hq hpre;obtain⟨a2,w2,h1,h2,h3⟩:=own c' a' g' hq;have h4:=zkW hcol.1 hb c' a2 w2 h1;rcases hpre with h5 | ⟨h5,h6⟩
   ·have h5':w-wo es<g':=h5;rcases h4 with h4 | ⟨h4,_⟩ <;> grind
   ·have h5':g'=w-wo es:=h5;have hw:w2=w:=by rcases h4 with h4 | ⟨h4,_⟩ <;> grind
    have hle:c≤c':=by
     rcases h4 with h4 | ⟨_,h4⟩
     ·grind
     ·exact h4
    rcases h6 with h6 | ⟨h6,h7⟩
    ·have:c'<c:=h6;omega
    ·have h6':c'=c:=h6;subst h6';have:=zre hcol.1 h1 hm;cases this;have h8:=h3 (by grind);have h9:a'<a:=h7;grind
end
section
open Go.RowKit _root_.Go.Proofs.Tryz
def zcB (C:Nat) (l:List Int):List Int:=(List.range C).map fun (k:Nat)=>(l.count (k:Int):Int)
theorem zaZ (C:Nat) (l:List Int):(zcB C l).length=C:=by simp[zcB]
theorem zdv {C:Nat} (l:List Int) {k:Nat} (hk:k<C):(zcB C l)[k]?=some (l.count (k:Int):Int):=by
 unfold zcB;rw[List.getElem?_map,List.getElem?_range hk];rfl
theorem zgs {C:Nat} (l:List Int) {k:Nat} (hk:k<C):zcB C (l++[(k:Int)])=(zcB C l).set k ((l.count (k:Int)+1:Nat):Int):=by
 apply List.ext_getElem?;intro j;rw[List.getElem?_set];by_cases hj:j<C
 ·rw[zdv _ hj,zdv _ hj,zfb,zaZ];by_cases e:k=j
  ·subst e;rw[if_pos rfl,if_pos rfl,if_pos hk]
  ·rw[if_neg e,if_neg oM,Nat.add_zero]
 ·rw[List.getElem?_eq_none (by rw[zaZ];omega),List.getElem?_eq_none (by rw[zaZ];omega),if_neg (by omega)]
theorem zdQ (C:Nat):(List.replicate C [iv 0]).flatten=(zcB C []).map iv++[]:=by
 have:zcB C []=List.replicate C 0:=by
  unfold zcB;apply List.ext_getElem?;intro j;by_cases hj:j<C
  ·rw[List.getElem?_map,List.getElem?_range hj,List.getElem?_replicate,if_pos hj];simp
  ·rw[List.getElem?_eq_none (by simp;omega),List.getElem?_eq_none (by simp;omega)]
 rw[this,qG]
 induction C with
 | zero=>rfl
 | succ n ih =>
  rw[List.replicate_succ,List.flatten_cons,List.replicate_succ,List.map_cons,List.singleton_append];congr 1;apply ih;unfold zcB;apply List.ext_getElem?;intro j;by_cases hj:j<n
  ·rw[List.getElem?_map,List.getElem?_range hj,List.getElem?_replicate,if_pos hj];simp
  ·rw[List.getElem?_eq_none (by simp;omega),List.getElem?_eq_none (by simp;omega)]
theorem zhU {H:Hp} {b m:Nat} {l:List Int} {sp:List Value} (h:H b=some (l.map iv++sp).toArray) (hm:l.length=m):IL H (.slice (some ⟨b,0,none⟩) m m) l:=by
 subst hm;refine⟨by simp,.inr ⟨b,0,l.length,_,rfl,qH _,h,fun j x hj=>?_⟩⟩;rw[Nat.zero_add];have hl:=(qE.1 hj).1;rw[List.getElem?_toArray,List.getElem?_append_left hl];exact hj
theorem zmZ {H:Hp} {v:Value} {rs:List Int} (hr:IL H v rs) (hn:rs.length≤300) {va:Option Addr} {vc:Nat} {la:Option Addr} {lc:Nat} {ls:List Int} (hv:IL H (.slice la ls.length lc) ls) {C:Nat} (hc:1≤C∧C≤12) (h0:1≤ls.length) (h1:ls.length≤300) (hls:∀z,z∈ls→0≤z∧z<(C:Int)) :
  PC prog 185 #[zak 1 C (.slice la ls.length lc) (.slice va 0 vc),v] H fun r H'=>IL H' r (zcB C (atI ls (exL rs ls.length))):=by
 have hchk:=zeD (va:=va) (vc:=vc) hv (cl:=(C:Int)) oM h0 h1 hls;have hel:=zbm rs ls.length;have heb:=zcO (rs:=rs) (n:=ls.length);have hex:=zcu hr oM ls.length;generalize exL rs ls.length=es at *
 obtain⟨a,cap,rfl⟩:=SlC.val hr;refine BD func185 ntmps185 ?_
 repeat (first|refine RUN ?_|refine CV (hchk) ?_|refine CE (hchk) ?_)
 refine EVL.make tO rfl rfl rfl rfl rfl rfl rfl rfl rfl (C) (rfl) oM (by rfl) (by rfl) fun b=>?_;refine uR ?_;refine vA (hex) ?_;intro r1 G1 he hG1;obtain⟨ea,ec,rfl⟩:=SlC.val he;(first|refine EVL.swapOw ([(b,3,(zcB C (atI ls (es.take 0))).map iv++[])]) ([]) ((by rw[show atI ls (es.take 0)=[] from rfl,←zdQ];rfl)) ?_|refine EV.swapOw ([(b,3,(zcB C (atI ls (es.take 0))).map iv++[])]) ([]) ((by rw[show atI ls (es.take 0)=[] from rfl,←zdQ];rfl)) ?_);refine uR ?_;refine EV.loopK (ι:=Nat) [2,5,23,24] [2] (fun i=>[(25,.v (.int .i64 (i:Int)))]) (fun _=>[]) (fun i=>[(b,3,(zcB C (atI ls (es.take i))).map iv++[])]) (fun i _=>i≤es.length) (fun i=>es.length-i) (0) rfl rfl ⟨rfl,trivial⟩ trivial rfl (fun _=>rfl) (Nat.zero_le _) ?_;rintro i G2 hG2 hi;refine uR ?_;refine EV.cond rfl (fun hlt=>?_) (fun hlt=>?_)
 ·simp only[nN]at hlt;obtain⟨r,hri⟩:=gE hlt;have hb:=heb r (qF hri);obtain⟨R,rfl⟩:=Int.eq_ofNat_of_zero_le hb.1;obtain⟨x,hx⟩:∃x,ls[R]?=some x:=⟨_,qA oM⟩;have hRl:R<ls.length:=by omega
  have hxb:=hls x (qF hx);obtain⟨k,rfl⟩:=Int.eq_ofNat_of_zero_le hxb.1;have hk:k<C:=by omega
  have hsn:atI ls (es.take (i+1))=atI ls (es.take i)++[(k:Int)]:=by
   rw[zah hri];unfold atI;rw[List.map_append,List.map_cons,Int.toNat_natCast,qB,hx];rfl
  have hcl:(atI ls (es.take i)).count (k:Int)≤300:=qI List.count_le_length (by rw[zb4,List.length_take];omega);have hget:=zdv (C:=C) (atI ls (es.take i)) hk;have hcn:=zgs (C:=C) (atI ls (es.take i)) hk;rw[←hsn]at hcn;have hlen:=zaZ C (atI ls (es.take i));generalize zcB C (atI ls (es.take i))=cs at *
  generalize (atI ls (es.take i)).count (k:Int)=m at *
  have wm:IntKind.i64.wrap ((m:Int)+1)=((m+1:Nat):Int):=zab m oM;refine uR ?_;refine vI ((he.mono hG2)) (i) (rfl) (hlt) ((by rw[List.getElem?_map,hri];rfl)) ?_;refine uR ?_;refine vI ((hv.mono (hG1.trans hG2))) (R) (rfl) (hRl) ((by rw[List.getElem?_map,hx];rfl)) ?_;refine uR ?_;refine EVL.idxB tO rfl rfl rfl rfl rfl rfl rfl rfl rfl (k) (k*1) (rfl) (hk) (rfl) ?_;refine EVL.loadOwn tO rfl rfl rfl rfl rfl rfl (0) rfl (zeE [] hget) rfl rfl ?_;refine uR ?_;rw[wm];refine EVL.idxB tO rfl rfl rfl rfl rfl rfl rfl rfl rfl (k) (k*1) (rfl) (hk) (rfl) ?_;refine EVL.storeOwn tO rfl rfl rfl rfl rfl rfl ([]) ([]) rfl rfl rfl rfl ((by rw[List.length_append,List.length_map,hlen];show k*1+1≤_;omega)) (zgp [] _ (show k<cs.length by omega)) ?_;refine uR ?_;refine⟨i+1,⟨by rw[zab i (by omega)];rfl,trivial⟩,sB,trivial,sB,by rw[hcn];rfl,hlt,Hp.Le.refl _,by omega⟩
 ·simp only[nN]at hlt;obtain rfl:i=es.length:=by omega
  rw[List.take_length];(first|refine EVL.publish [] [] rfl fun G3 hG3 hb3=>?_|refine EV.publish [] [] rfl fun G3 hG3 hb3=>?_);refine uR ?_;exact zhU hb3 (zaZ _ _)
theorem zfL {H:Hp} {v:Value} {rs:List Int} (hr:IL H v rs) (hn:rs.length≤300) {kd:Int} {sv:Value} {la:Option Addr} {lc:Nat} {ls:List Int} (hv:IL H (.slice la ls.length lc) ls) {C:Nat} (hc:C≤12) (hls:∀z,z∈ls→0≤z∧z<(C:Int)) :
  PC prog 189 #[zak kd C (.slice la ls.length lc) sv,v] H fun r H'=>IL H' r (zcB C (atI ls (exL rs ls.length))):=by
 obtain⟨a,cap,rfl⟩:=SlC.val hr;refine BD func189 ntmps189 ?_;refine uR ?_;refine EVL.make tO rfl rfl rfl rfl rfl rfl rfl rfl rfl (C) (rfl) oM (by rfl) (by rfl) fun b=>?_;(first|refine EVL.swapOw ([(b,3,(zcB C (atI ls (exL (rs.take 0) ls.length))).map iv++[])]) ([]) ((by rw[show atI ls (exL (rs.take 0) ls.length)=[] from rfl,←zdQ];rfl)) ?_|refine EV.swapOw ([(b,3,(zcB C (atI ls (exL (rs.take 0) ls.length))).map iv++[])]) ([]) ((by rw[show atI ls (exL (rs.take 0) ls.length)=[] from rfl,←zdQ];rfl)) ?_);refine uR ?_;refine EV.loopK (ι:=Nat) [1,2,5] [2] (fun i=>[(6,.v (.int .i64 (i:Int)))]) (fun _=>[]) (fun i=>[(b,3,(zcB C (atI ls (exL (rs.take i) ls.length))).map iv++[])]) (fun i _=>i≤rs.length) (fun i=>rs.length-i) (0) rfl rfl ⟨rfl,trivial⟩ trivial rfl (fun _=>rfl) (Nat.zero_le _) ?_;rintro i G2 hG2 hi;refine uR ?_;refine EV.cond rfl (fun hlt=>?_) (fun hlt=>?_)
 ·simp only[nN]at hlt;obtain⟨r,hri⟩:=gE hlt;have hex:=zfe (n:=ls.length) hri;have hel:=zbm (rs.take i) ls.length;rw[List.length_take]at hel;have wn:IntKind.i64.wrap ((i:Int)+1)=((i+1:Nat):Int):=zab i oM;have hr2:=hr.mono hG2;refine uR ?_;by_cases h1:r≥0
  ·obtain⟨R,rfl⟩:=Int.eq_ofNat_of_zero_le h1;apply EV.drawn 14 kR kR;intro xv yw;(repeat refine' DD ?_);refine' vJ (hr2) (i) (rfl) (hlt) ((by rw[List.getElem?_map,hri];rfl)) ?_;rotate_left;(repeat refine' DD ?_);rw[qD h1];(repeat refine' DD ?_);refine' vJ (hr2) (i) (rfl) (hlt) ((by rw[List.getElem?_map,hri];rfl)) ?_;rotate_left;(repeat refine' DD ?_);(refine DJ.nil (fun G3 hG3 hF3=>?_);(case hS|hS2=>rfl));refine uR ?_;by_cases h2:(R:Int)<(ls.length:Int)
   ·have hp:inR ls.length (R:Int)=true:=by unfold inR;simp;omega
    rw[hp,if_pos rfl]at hex;have hRl:R<ls.length:=by omega
    obtain⟨x,hx⟩:=gE hRl;have hxb:=hls x (qF hx);obtain⟨k,rfl⟩:=Int.eq_ofNat_of_zero_le hxb.1;have hk:k<C:=by omega
    have hsn:atI ls (exL (rs.take (i+1)) ls.length)=atI ls (exL (rs.take i) ls.length)++[(k:Int)]:=by
     rw[hex];unfold atI;rw[List.map_append,List.map_cons,Int.toNat_natCast,qB,hx];rfl
    have hcl:(atI ls (exL (rs.take i) ls.length)).count (k:Int)≤300:=qI List.count_le_length (by rw[zb4];omega);have hget:=zdv (C:=C) (atI ls (exL (rs.take i) ls.length)) hk;have hcn:=zgs (C:=C) (atI ls (exL (rs.take i) ls.length)) hk;rw[←hsn]at hcn;have hlen:=zaZ C (atI ls (exL (rs.take i) ls.length));generalize zcB C (atI ls (exL (rs.take i) ls.length))=cs at *
    generalize (atI ls (exL (rs.take i) ls.length)).count (k:Int)=m at *
    have wm:IntKind.i64.wrap ((m:Int)+1)=((m+1:Nat):Int):=zab m oM;have hr3:=hr2.mono hG3;have hv3:=hv.mono (hG2.trans hG3);rw[qD h2];refine uR ?_;apply EV.drawn 13 kR kR;intro xv yw;(repeat refine' DD ?_);refine' vJ (hr3) (i) (rfl) (hlt) ((by rw[List.getElem?_map,hri];rfl)) ?_;rotate_left;(repeat refine' DD ?_);refine' vJ (hv3) (R) (rfl) (hRl) ((by rw[List.getElem?_map,hx];rfl)) ?_;rotate_left;(repeat refine' DD ?_);refine' DJ.idxB tO rfl rfl rfl rfl rfl rfl rfl rfl rfl (k) (k*1) (rfl) (hk) (rfl) ?_;rotate_left;refine' DJ.ofVal (zaa.loadOwn tO rfl rfl rfl rfl (0) rfl (zeE [] hget) rfl rfl) rfl rfl rfl ?_;rotate_left;(repeat refine' DD ?_);refine' DJ.idxB tO rfl rfl rfl rfl rfl rfl rfl rfl rfl (k) (k*1) (rfl) (hk) (rfl) ?_;rotate_left;(refine DJ.nil (fun G4 hG4 hF4=>?_);(case hS|hS2=>rfl));rw[wm];refine EVL.storeOwn tO rfl rfl rfl rfl rfl rfl ([]) ([]) rfl rfl rfl rfl ((by rw[List.length_append,List.length_map,hlen];show k*1+1≤_;omega)) (zgp [] _ (show k<cs.length by omega)) ?_;refine uR ?_;refine⟨i+1,⟨by rw[wn];rfl,trivial⟩,sB,trivial,sB,by rw[hcn];rfl,hlt,hG3.trans hG4,by omega⟩
   ·have hp:inR ls.length (R:Int)=false:=by unfold inR;simp;omega
    rw[hp,if_neg (by decide),qG]at hex;rw[qC h2];refine uR ?_;refine⟨i+1,⟨by rw[wn];rfl,trivial⟩,sB,trivial,sB,by rw[hex],hlt,hG3,by omega⟩
  ·have hp:inR ls.length r=false:=by unfold inR;simp;omega
   rw[hp,if_neg (by decide),qG]at hex;apply EV.drawn 14 kR kR;intro xv yw;(repeat refine' DD ?_);refine' vJ (hr2) (i) (rfl) (hlt) ((by rw[List.getElem?_map,hri];rfl)) ?_;rotate_left;(repeat refine' DD ?_);rw[qC h1];(repeat refine' DD ?_);(refine DJ.nil (fun G3 hG3 hF3=>?_);(case hS|hS2=>rfl));refine uR ?_;refine⟨i+1,⟨by rw[wn];rfl,trivial⟩,sB,trivial,sB,by rw[hex],hlt,hG3,by omega⟩
 ·simp only[nN]at hlt;obtain rfl:i=rs.length:=by omega
  rw[List.take_length];(first|refine EVL.publish [] [] rfl fun G3 hG3 hb3=>?_|refine EV.publish [] [] rfl fun G3 hG3 hb3=>?_);refine uR ?_;exact zhU hb3 (zaZ _ _)
def topN (l:List Int):Nat→Nat
 | 0=>0
 | i+1=>if l.getD (topN l i) 0<l.getD i 0 then i else topN l i
theorem zhl (l:List Int):∀i,topN l i<i∨topN l i=0
 | 0=>.inr rfl
 | i+1=>by
  unfold topN;split
  ·exact .inl (Nat.lt_succ_self _)
  ·rcases zhl l i with h | h
   ·exact .inl oM
   ·exact .inr h
theorem zmD (l:List Int):topN l 1=0:=by
 unfold topN topN;rw[if_neg (by omega)]
theorem zff {l:List Int} {i:Nat} (h:i<l.length):l[i]?=some (l.getD i 0):=by
 rw[qB,qA h];rfl
theorem zpx {H:Hp} {v:Value} {l:List Int} (hr:IL H v l) (hn:l.length≤300):PC prog 190 #[v] H fun r _=>r=.int .i64 (topN l l.length:Nat):=by
 obtain⟨a,cap,rfl⟩:=SlC.val hr;refine BD func190 ntmps190 ?_;refine uR ?_;refine EV.loopK (ι:=Nat) [0] [] (fun i=>[(3,.v (.int .i64 (topN l (i+1):Nat))),(4,.v (.int .i64 ((i+1:Nat):Int)))]) (fun _=>[]) (fun _=>[]) (fun i _=>i≤l.length-1) (fun i=>l.length-i) (0) rfl rfl ⟨by rw[zmD];rfl,rfl,trivial⟩ trivial rfl (fun _=>rfl) (Nat.zero_le _) ?_;rintro i G2 hG2 hi;refine uR ?_;refine EV.cond rfl (fun hlt=>?_) (fun hlt=>?_)
 ·simp only[nN]at hlt;have hr2:=hr.mono hG2;have ht:=zhl l (i+1);have htl:topN l (i+1)<l.length:=by omega
  have g1:=zff hlt;have g2:=zff htl;have hst:topN l (i+1+1)=if l.getD (topN l (i+1)) 0<l.getD (i+1) 0 then i+1 else topN l (i+1):=rfl
  have wn:IntKind.i64.wrap (((i+1:Nat):Int)+1)=((i+1+1:Nat):Int):=zab (i+1) oM;generalize topN l (i+1)=tp at *
  generalize l.getD tp 0=x at *
  generalize l.getD (i+1) 0=y at *
  refine uR ?_;apply EV.drawn 8 kR kR;intro xv yw;(repeat refine' DD ?_);refine' vJ (hr2) (i+1) (rfl) (hlt) ((by rw[List.getElem?_map,g1];rfl)) ?_;rotate_left;(repeat refine' DD ?_);refine' vJ (hr2) (tp) (rfl) (htl) ((by rw[List.getElem?_map,g2];rfl)) ?_;rotate_left;(repeat refine' DD ?_);(refine DJ.nil (fun G3 hG3 hF3=>?_);(case hS|hS2=>rfl));refine uR ?_;by_cases h:y>x
  ·rw[qD h];rw[if_pos h]at hst;refine uR ?_;refine⟨i+1,⟨by rw[hst];rfl,by rw[wn];rfl,trivial⟩,sB,trivial,sB,rfl,by omega,hG3,by omega⟩
  ·rw[qC h];rw[if_neg h]at hst;refine uR ?_;refine⟨i+1,⟨by rw[hst];rfl,by rw[wn];rfl,trivial⟩,sB,trivial,sB,rfl,by omega,hG3,by omega⟩
 ·simp only[nN]at hlt
  have hfin:topN l (i+1)=topN l l.length:=by
   by_cases h0:l.length=0
   ·obtain rfl:i=0:=by omega
    rw[zmD,h0];rfl
   ·rw[show i+1=l.length by omega]
  rw[hfin];refine uR ?_;rfl
theorem zmE {H:Hp} {g v w:Value} {l:List Int} (hg:∃kd cl sl sv,g=zak kd cl sl sv) (hc:PC prog 185 #[g,v] H fun r H'=>IL H' r l) (hn:l.length≤300):PC prog 182 #[g,v] H fun r _=>r=.int .i64 (topN l l.length:Nat):=by
 obtain⟨kd,cl,sl,sv,rfl⟩:=hg;refine BD func182 ntmps182 ?_;refine uR ?_;refine vA (hc) ?_;intro r1 G1 hr hG1;obtain⟨a,cap,rfl⟩:=SlC.val hr;refine uR ?_;refine EV.loopK (ι:=Nat) [6,12,13] [] (fun i=>[(5,.v (.int .i64 (topN l i:Nat))),(14,.v (.int .i64 (i:Int)))]) (fun _=>[]) (fun _=>[]) (fun i _=>i≤l.length) (fun i=>l.length-i) (0) rfl rfl ⟨rfl,rfl,trivial⟩ trivial rfl (fun _=>rfl) (Nat.zero_le _) ?_;rintro i G2 hG2 hi;refine uR ?_;refine EV.cond rfl (fun hlt=>?_) (fun hlt=>?_)
 ·simp only[nN]at hlt;have hr2:=hr.mono hG2;have ht:=zhl l i;have htl:topN l i<l.length:=by omega
  have g1:=zff hlt;have g2:=zff htl;have hst:topN l (i+1)=if l.getD (topN l i) 0<l.getD i 0 then i else topN l i:=rfl
  have wn:IntKind.i64.wrap ((i:Int)+1)=((i+1:Nat):Int):=zab i oM;generalize topN l i=tp at *
  generalize l.getD tp 0=x at *
  generalize l.getD i 0=y at *
  refine uR ?_;refine vI (hr2) (i) (rfl) (hlt) ((by rw[List.getElem?_map,g1];rfl)) ?_;refine uR ?_;refine vI (hr2) (tp) (rfl) (htl) ((by rw[List.getElem?_map,g2];rfl)) ?_;refine uR ?_;by_cases h:y>x
  ·rw[qD h];rw[if_pos h]at hst;refine uR ?_;refine⟨i+1,⟨by rw[hst];rfl,by rw[wn];rfl,trivial⟩,sB,trivial,sB,rfl,by omega,Hp.Le.refl _,by omega⟩
  ·rw[qC h];rw[if_neg h]at hst;refine uR ?_;refine⟨i+1,⟨by rw[hst];rfl,by rw[wn];rfl,trivial⟩,sB,trivial,sB,rfl,by omega,Hp.Le.refl _,by omega⟩
 ·simp only[nN]at hlt;obtain rfl:i=l.length:=by omega
  refine uR ?_;rfl
theorem zm0 {H:Hp} {v:Value} {va:Option Addr} {vn vc:Nat} {la:Option Addr} {lc:Nat} (h0:1≤vn) (h1:vn≤300):PC prog 185 #[zak 2 0 (.slice la 0 lc) (.slice va vn vc),v] H fun r H'=>IL H' r []:=by
 have hchk:=zdu (va:=va) (vc:=vc) (la:=la) (lc:=lc) h0 h1;refine BD func185 ntmps185 ?_;refine uR ?_;exact⟨rfl,.inl ⟨rfl,_,_,rfl⟩⟩
end
section
theorem zbI {α:Type} (l:List α) (j:Nat) (y:α):(zaD l j y).length=l.length+1:=by rw[(zco l j y).length_eq,List.length_append];rfl
theorem zuA {α:Type} {l:List α} {j:Nat} {y:α} (h:j≤l.length):(zaD l j y)[j]?=some y:=by
 have:(l.take j).length=j:=by rw[List.length_take];omega
 unfold zaD;rw[List.getElem?_append_right oM,this,Nat.sub_self];rfl
theorem zfK {α:Type} {l:List α} {j:Nat} {y z:α} (h:l[j]?=some z):(zaD l (j+1) y)[j]?=some z:=by
 obtain⟨hl,_⟩:=qE.1 h;unfold zaD;rw[List.getElem?_append_left (by rw[List.length_take];omega),List.getElem?_take_of_lt oM,h]
theorem znx {α:Type} {l:List α} {j:Nat} {y z:α} (h:l[j]?=some z):(zaD l (j+1) y).set (j+1) z=zaD l j z:=by
 obtain⟨hl,hz⟩:=qE.1 h;have:(l.take (j+1)).length=j+1:=by rw[List.length_take];omega
 unfold zaD;rw[List.set_append_right _ _ oM,this,Nat.sub_self,List.set_cons_zero,List.take_succ_eq_append_getElem hl,hz,List.drop_eq_getElem_cons hl,hz];simp
theorem zgZ {α:Type} {l:List α} {j:Nat} {y z:α} (h:j≤l.length):(zaD l j y).set j z=zaD l j z:=by
 have:(l.take j).length=j:=by rw[List.length_take];omega
 unfold zaD;rw[List.set_append_right _ _ oM,this,Nat.sub_self,List.set_cons_zero]
theorem zpp {α:Type} (l:List α) (y:α):zaD l l.length y=l++[y]:=by unfold zaD;rw[List.take_length,List.drop_length]
theorem zpr {α:Type} {l:List α} {j:Nat} {y z:α} (h:z∈zaD l j y):z=y∨z∈l:=by
 have:=(zco l j y).mem_iff.1 h;rcases List.mem_append.1 this with h | h
 ·exact .inr h
 ·exact .inl (List.mem_singleton.1 h)
end
section
open Go.RowKit _root_.Go.Proofs.Tryz
theorem RVs.put {H:Hp} {vs:List Value} {l:List Rat} {x:Value} {q:Rat} {j:Nat} (h:RVs H vs l) (k:RQ H x q) (hj:j≤l.length):RVs H (zaD vs j x) (zaD l j q):=by
 have h1:=h.1;refine⟨by rw[zbI,zbI,h1],fun i y r e1 e2=>?_⟩;have t1:(vs.take j).length=j:=by rw[List.length_take];omega
 have t2:(l.take j).length=j:=by rw[List.length_take];omega
 unfold zaD at e1 e2;rw[List.getElem?_append,t1]at e1;rw[List.getElem?_append,t2]at e2;by_cases hi:i<j
 ·rw[if_pos hi,List.getElem?_take_of_lt hi]at e1 e2;exact h.2 i y r e1 e2
 ·rw[if_neg hi]at e1 e2
  cases hk:i-j with
  | zero=>rw[hk]at e1 e2;simp at e1 e2;subst e1;subst e2;exact k
  | succ m =>
   rw[hk,List.getElem?_cons_succ,List.getElem?_drop]at e1 e2;exact h.2 _ y r e1 e2
theorem RVs.three {H:Hp} {vs:List Value} {l:List Rat} (h:RVs H vs l):∀x,x∈vs→(zac x).length=3:=fun x hx=>by
 obtain⟨i,hi,rfl⟩:=List.getElem_of_mem hx;have:=h.1;exact(h.2 i _ _ (qA hi) (qA oM)).cells.1
theorem RVs.at {H:Hp} {vs:List Value} {l:List Rat} (h:RVs H vs l) {j:Nat} {q:Rat} (hj:l[j]?=some q):∃x,vs[j]?=some x∧RQ H x q:=by
 obtain⟨hl,rfl⟩:=qE.1 hj;have h1:=h.1;exact⟨_,qA oM,h.2 j _ _ (qA oM) (qA hl)⟩
theorem zbK {vs:List Value} {j:Nat} {y:Value} (h:∀x,x∈vs→(zac x).length=3) (hy:(zac y).length=3):∀x,x∈zaD vs j y→(zac x).length=3:=fun x hx=>by
 rcases zpr hx with rfl | hx
 ·exact hy
 ·exact h x hx
theorem ze3 {vs:List Value} (h:∀x,x∈vs→(zac x).length=3):(vs.flatMap zac).length=vs.length*3:=zeM _ 3 vs h
theorem zpk {T:TypeId} {b cap i j:Nat} {vs:List Value} {x:Value} {sp:List Value} {k:Nat} (hv:∀x,x∈vs→(zac x).length=3) (hvl:vs.length=i) (hx:(zac x).length=3) (hk:k+sp.length=cap*3) (hk':k=(i+1)*3) (h1:i+1≤cap) (h2:cap≤maxLen) :
  zaK T 3 (.slice (some ⟨b,0,none⟩) (i+1) cap) (i+1) ((zaD vs j x).flatMap zac) [(b,T,(zaD vs j x).flatMap zac++sp)]:=by
 have hl:((zaD vs j x).flatMap zac).length=(i+1)*3:=by rw[ze3 (zbK hv hx),zbI,hvl]
 exact⟨hl,.inr ⟨b,cap,sp,rfl,rfl,by rw[List.length_append,hl];omega,h1,h2⟩⟩
theorem znO {H:Hp} {v:Value} {l:List Rat} (h:RL H v l) (hl:l.length≤1000) (hb:∀q,q∈l→rq q):PC prog 240 #[v] H fun r H'=>RL H' r (ze1 l):=by
 obtain⟨a,cap,rfl⟩:=RL.val h;refine BD func240 ntmps240 ?_;refine uR ?_;refine EV.loopK (ι:=Nat × List Value × List Rat × Value × Ows) [0] [] (fun q=>[(3,.v q.2.2.2.1),(4,.v (.int .i64 (q.1:Int)))]) (fun _=>[]) (fun q=>q.2.2.2.2) (fun q G=>q.1≤l.length∧RVs G q.2.1 q.2.2.1∧q.2.2.1.Perm (l.take q.1)∧zdm q.2.2.1∧zaK 36 3 q.2.2.2.1 q.1 (q.2.1.flatMap zac) q.2.2.2.2) (fun q=>l.length-q.1) ((0,[],[],.slice none 0 0,[])) rfl rfl ⟨rfl,rfl,trivial⟩ trivial rfl (fun _=>rfl) (⟨Nat.zero_le _,RVs.nil _,List.Perm.refl _,List.Pairwise.nil,zaK.nil _ _⟩) ?_;rintro⟨i,vs,acc,w,ow⟩ G1 hG1 ⟨hi,hvs,hperm,hris,hown⟩;dsimp only at hi hvs hperm hris hown;have hal:acc.length=i:=by rw[hperm.length_eq,List.length_take];omega
 have hvl:vs.length=i:=by rw[hvs.1,hal]
 have hthr:=hvs.three;obtain⟨wa,wc,rfl⟩:=hown.val;refine uR ?_;refine EV.cond rfl (fun hlt=>?_) (fun hlt=>?_)
 ·simp only[nN]at hlt;obtain⟨q,hqi⟩:=gE hlt;obtain⟨us,x,hsl,hc,hx⟩:=(h.mono hG1).at hqi;obtain⟨xa,xl,xc,ya,yl,yc,rfl,hx1,hx2⟩:=id hx;have qq:=hb q (qF hqi);have qacc:∀y,y∈acc→rq y:=fun y hy=>hb y (List.mem_of_mem_take (hperm.mem_iff.1 hy));refine uR ?_;refine EVL.idxM tO rfl rfl rfl rfl rfl rfl rfl rfl rfl (hsl) (i) (rfl) (hlt) (hc) ?_;refine uR ?_;refine EVL.app1 tO rfl rfl rfl rfl rfl rfl rfl rfl rfl rfl rfl rfl rfl rfl rfl rfl rfl rfl rfl (fun _=>rfl) (ow) ([]) ((qG _).symm) (hown) oM fun _=>?_;intro v' ow' hown';have e:=zpp vs (.agg #[.bool (decide (q.num<0)),.slice xa xl xc,.slice ya yl yc]);rw[hvl]at e
  have hown2:zaK 36 3 v' (i+1) ((zaD vs i (.agg #[.bool (decide (q.num<0)),.slice xa xl xc,.slice ya yl yc])).flatMap zac) ow':=by
   rw[e,List.flatMap_append];exact hown'
  clear hown' hown e;generalize hX:Value.agg #[.bool (decide (q.num<0)),.slice xa xl xc,.slice ya yl yc]=x at *
  have hx3:(zac x).length=3:=hX ▸ rfl;rcases hown2 with ⟨hk',⟨_,h0,_⟩ | ⟨b,cap',sp,rfl,rfl,hk,hc1,hc2⟩⟩
  ·omega
  rw[List.length_append]at hk;generalize ((zaD vs i x).flatMap zac).length=k at hk hk'
  have hperm':∀j,(zaD acc j q).Perm (l.take (i+1)):=fun j=>by
   rw[zah hqi];exact(zco acc j q).trans (hperm.append_right [q])
  subst hX;refine uR ?_;refine EV.loopK (ι:=Nat × Value) [0,3,4] [] (fun p=>[(5,.v (.int .i64 (p.1:Int)))]) (fun _=>[]) (fun p=>[(b,36,(zaD vs p.1 p.2).flatMap zac++sp)]) (fun p _=>p.1≤i∧(zac p.2).length=3∧∀y,y∈acc.drop p.1→q≤y) (fun p=>p.1) ((i,_)) rfl rfl ⟨rfl,trivial⟩ trivial rfl (fun _=>rfl) (⟨qH _,rfl,by rw[←hal,List.drop_length];intro y hy;cases hy⟩) ?_;rintro⟨j,y⟩ G2 hG2 ⟨hj,hy,hgr⟩;dsimp only at hj hy hgr;have hsl2:=hsl.mono hG2
  cases j with
  | zero =>
   refine uR ?_;apply EV.drawn 15 kR kR;intro xv yw;(repeat refine' DD ?_);(refine DJ.nil (fun G3 hG3 hF3=>?_);(case hS|hS2=>rfl));refine uR ?_;have hj':0<(zaD vs (0) y).length:=by rw[zbI];omega
   refine EVL.idxM tO rfl rfl rfl rfl rfl rfl rfl rfl rfl ((hsl2.mono hG3)) (i) (rfl) (hlt) (hc) ?_;refine uR ?_;refine EVL.idxB tO rfl rfl rfl rfl rfl rfl rfl rfl rfl (0) ((0)*3) (rfl) (oM) (rfl) ?_;refine EVL.storeOwn tO rfl rfl rfl rfl rfl rfl ([]) ([]) rfl rfl rfl rfl ((by rw[List.length_append,ze3 (zbK hthr hy),zbI,hvl];show (0)*3+3≤_;omega)) ((zcI (zbK hthr hy) sp (.agg #[.bool (decide (q.num<0)),.slice xa xl xc,.slice ya yl yc]) hj')) ?_;rw[zgZ (by omega)];refine uR ?_;refine⟨(i+1,zaD vs (0) (.agg #[.bool (decide (q.num<0)),.slice xa xl xc,.slice ya yl yc]),zaD acc (0) q,.slice (some ⟨b,0,none⟩) (i+1) cap',[(b,36,(zaD vs (0) (.agg #[.bool (decide (q.num<0)),.slice xa xl xc,.slice ya yl yc])).flatMap zac++sp)]),⟨rfl,?_,trivial⟩,sB,trivial,trivial,rfl,⟨by dsimp only;omega,(hvs.mono (hG2.trans hG3)).put ((hx.mono hG2).mono hG3) oM,hperm' _,zdG hris (by intro y hy;rw[List.take_zero]at hy;cases hy) hgr,zpk hthr hvl rfl hk hk' hc1 hc2⟩,hG2.trans hG3,by dsimp only;omega⟩;rw[zab i (by omega)];rfl
  | succ j =>
   obtain⟨r,hrj⟩:∃r,acc[j]?=some r:=⟨_,qA oM⟩;obtain⟨z,hzj,hz⟩:=(hvs.mono hG2).at hrj;obtain⟨za,zl,zc,wa',wl',wc',rfl,hz1,hz2⟩:=id hz;have qr:=qacc r (qF hrj);have hcmp:=fun G (hG:G2.Le G)=>zbA (hz.mono hG) ((hx.mono hG2).mono hG) qr qq
   have hgt:zb9 r q>0→q≤r:=fun h=>by
    unfold zb9 at h;split at h
    ·omega
    ·split at h
     ·exact Rat.le_of_lt (by assumption)
     ·omega
   have hle:¬zb9 r q>0→r≤q:=fun h=>by
    unfold zb9 at h;split at h
    ·exact Rat.le_of_lt (by assumption)
    ·split at h
     ·omega
     ·rename_i k1 k2;exact Rat.not_lt.1 k2
   generalize zb9 r q=o at *
   refine uR ?_;apply EV.drawn 15 kR kR;intro xv yw;(repeat refine' DD ?_);rw[qD (show ((j+1:Nat):Int)>0 by omega)];(repeat refine' DD ?_);refine' DJ.idxB tO rfl rfl rfl rfl rfl rfl rfl rfl rfl (j) (j*3) ((by rw[IntKind.wrap_i64];omega)) (oM) (rfl) ?_;rotate_left;refine' DJ.ofVal (zaa.loadOwn tO rfl rfl rfl rfl (0) rfl (zfG (zbK hthr hy) sp (zfK hzj)) rfl rfl) rfl rfl rfl ?_;rotate_left;(repeat refine' DD ?_);refine' DJ.idxM tO rfl rfl rfl rfl rfl rfl rfl rfl rfl (hsl2) (i) (rfl) (hlt) (hc) ?_;rotate_left;(repeat refine' DD ?_);refine' vC (cO func146) (fun G hG hd=>hcmp G hG) ?_;rotate_left;(repeat refine' DD ?_);(refine DJ.nil (fun G3 hG3 hF3=>?_);(case hS|hS2=>rfl));refine uR ?_;by_cases ho:o>0
   ·rw[qD ho];refine uR ?_;refine EVL.idxB tO rfl rfl rfl rfl rfl rfl rfl rfl rfl (j) (j*3) ((by rw[IntKind.wrap_i64];omega)) (oM) (rfl) ?_;refine EVL.loadOwn tO rfl rfl rfl rfl rfl rfl (0) rfl (zfG (zbK hthr hy) sp (zfK hzj)) rfl rfl ?_;refine uR ?_;refine EVL.idxB tO rfl rfl rfl rfl rfl rfl rfl rfl rfl (j+1) ((j+1)*3) (rfl) (oM) (rfl) ?_;refine EVL.storeOwn tO rfl rfl rfl rfl rfl rfl ([]) ([]) rfl rfl rfl rfl ((by rw[List.length_append,ze3 (zbK hthr hy),zbI,hvl];show (j+1)*3+3≤_;omega)) ((zcI (zbK hthr hy) sp (.agg #[.bool (decide (r.num<0)),.slice za zl zc,.slice wa' wl' wc']) (by rw[zbI];omega))) ?_;rw[znx hzj];refine uR ?_;refine⟨(j,.agg #[.bool (decide (r.num<0)),.slice za zl zc,.slice wa' wl' wc']),⟨?_,trivial⟩,sB,trivial,trivial,rfl,⟨by dsimp only;omega,rfl,?_⟩,hG3,by dsimp only;omega⟩
    ·rw[show IntKind.i64.wrap (((j+1:Nat):Int)-1)=(j:Int) by rw[IntKind.wrap_i64];omega];rfl
    ·intro z' hz';dsimp only at hz';rw[zsD hrj]at hz';rcases List.mem_cons.1 hz' with rfl | hz'
     ·exact hgt ho
     ·exact hgr z' hz'
   ·rw[qC ho];refine uR ?_;have hj':j+1<(zaD vs (j+1) y).length:=by rw[zbI];omega
    refine EVL.idxM tO rfl rfl rfl rfl rfl rfl rfl rfl rfl ((hsl2.mono hG3)) (i) (rfl) (hlt) (hc) ?_;refine uR ?_;refine EVL.idxB tO rfl rfl rfl rfl rfl rfl rfl rfl rfl (j+1) ((j+1)*3) (rfl) (oM) (rfl) ?_;refine EVL.storeOwn tO rfl rfl rfl rfl rfl rfl ([]) ([]) rfl rfl rfl rfl ((by rw[List.length_append,ze3 (zbK hthr hy),zbI,hvl];show (j+1)*3+3≤_;omega)) ((zcI (zbK hthr hy) sp (.agg #[.bool (decide (q.num<0)),.slice xa xl xc,.slice ya yl yc]) hj')) ?_;rw[zgZ (by omega)];refine uR ?_;refine⟨(i+1,zaD vs (j+1) (.agg #[.bool (decide (q.num<0)),.slice xa xl xc,.slice ya yl yc]),zaD acc (j+1) q,.slice (some ⟨b,0,none⟩) (i+1) cap',[(b,36,(zaD vs (j+1) (.agg #[.bool (decide (q.num<0)),.slice xa xl xc,.slice ya yl yc])).flatMap zac++sp)]),⟨rfl,?_,trivial⟩,sB,trivial,trivial,rfl,⟨by dsimp only;omega,(hvs.mono (hG2.trans hG3)).put ((hx.mono hG2).mono hG3) oM,hperm' _,zdG hris (zha hris hrj (hle ho)) hgr,zpk hthr hvl rfl hk hk' hc1 hc2⟩,hG2.trans hG3,by dsimp only;omega⟩;rw[zab i (by omega)];rfl
 ·simp only[nN]at hlt;obtain rfl:i=l.length:=by omega
  rw[List.take_length]at hperm;(first|refine EVL.publishL [] ow [] ((qG _).symm) hown fun G2 hG2 hs=>?_|refine EV.publishL [] ow [] ((qG _).symm) hown fun G2 hG2 hs=>?_);refine uR ?_;rw[←zkw hperm hris];exact(hvs.mono hG2).rl (by rw[hal];exact hs)
theorem zst {vals:List Rat} {rs:List Int} {i:Nat} {R:Nat} {x:Rat} (hri:rs[i]?=some (R:Int)) (hx:vals[R]?=some x):atR vals (exL (rs.take (i+1)) vals.length)=atR vals (exL (rs.take i) vals.length)++[x]:=by
 obtain⟨hl,_⟩:=qE.1 hx;have hex:=zfe (n:=vals.length) hri;have hp:inR vals.length (R:Int)=true:=by unfold inR;simp;omega
 rw[hp,if_pos rfl]at hex;rw[hex];unfold atR;rw[List.map_append,List.map_cons,Int.toNat_natCast,qB,hx];rfl
theorem zfO {H:Hp} {v:Value} {rs:List Int} (hr:IL H v rs) (hn:rs.length≤300) {kd cl:Int} {sl sv:Value} {qs:List Rat} (hv:RL H sv qs) :
  PC prog 234 #[zak kd cl sl sv,v] H fun r H'=>RL H' r (atR qs (exL rs qs.length)):=by
 obtain⟨a,cap,rfl⟩:=SlC.val hr;obtain⟨va,vc,rfl⟩:=hv.val;refine BD func234 ntmps234 ?_;refine uR ?_;refine EV.loopK (ι:=Nat × List Value × Value × Ows) [1,2] [2] (fun q=>[(5,.v q.2.2.1),(6,.v (.int .i64 (q.1:Int)))]) (fun _=>[]) (fun q=>q.2.2.2) (fun q G=>q.1≤rs.length∧RVs G q.2.1 (atR qs (exL (rs.take q.1) qs.length))∧zaK 36 3 q.2.2.1 q.2.1.length (q.2.1.flatMap zac) q.2.2.2) (fun q=>rs.length-q.1) ((0,[],.slice none 0 0,[])) rfl rfl ⟨rfl,rfl,trivial⟩ trivial rfl (fun _=>rfl) (⟨Nat.zero_le _,RVs.nil _,zaK.nil _ _⟩) ?_;rintro⟨i,us,w,ow⟩ G2 hG2 ⟨hi,hus,hown⟩;dsimp only at hi hus hown;obtain⟨wa,wc,rfl⟩:=hown.val;refine uR ?_;refine EV.cond rfl (fun hlt=>?_) (fun hlt=>?_)
 ·simp only[nN]at hlt;obtain⟨r,hri⟩:=gE hlt;have hex:=zfe (n:=qs.length) hri;have hel:=zbm (rs.take i) qs.length;rw[List.length_take]at hel;have hul:us.length≤i:=by rw[hus.1,zbN];omega
  have wn:IntKind.i64.wrap ((i:Int)+1)=((i+1:Nat):Int):=zab i oM;have hr2:=hr.mono hG2;refine uR ?_;by_cases h1:r≥0
  ·obtain⟨R,rfl⟩:=Int.eq_ofNat_of_zero_le h1;apply EV.drawn 14 kR kR;intro xv yw;(repeat refine' DD ?_);refine' vJ (hr2) (i) (rfl) (hlt) ((by rw[List.getElem?_map,hri];rfl)) ?_;rotate_left;(repeat refine' DD ?_);rw[qD h1];(repeat refine' DD ?_);refine' vJ (hr2) (i) (rfl) (hlt) ((by rw[List.getElem?_map,hri];rfl)) ?_;rotate_left;(repeat refine' DD ?_);(refine DJ.nil (fun G3 hG3 hF3=>?_);(case hS|hS2=>rfl));refine uR ?_;by_cases h2:(R:Int)<(qs.length:Int)
   ·have hRl:R<qs.length:=by omega
    obtain⟨x,hx⟩:=gE hRl;have hsn:=zst hri hx;have hr3:=hr2.mono hG3;obtain⟨vs,y,hs,hc,hy⟩:=(hv.mono (hG2.trans hG3)).at hx;obtain⟨xa,xl,xc,ya,yl,yc,rfl,hx1,hx2⟩:=id hy;rw[qD h2];refine uR ?_;apply EV.drawn 10 kR kR;intro xv yw;(repeat refine' DD ?_);refine' vJ (hr3) (i) (rfl) (hlt) ((by rw[List.getElem?_map,hri];rfl)) ?_;rotate_left;(repeat refine' DD ?_);refine' DJ.idxM tO rfl rfl rfl rfl rfl rfl rfl rfl rfl (hs) (R) (rfl) (hRl) (hc) ?_;rotate_left;(repeat refine' DD ?_);(refine' DJ.lit tO rfl rfl rfl rfl rfl rfl rfl rfl rfl rfl rfl rfl ?_;rotate_left);(refine DJ.nil (fun G4 hG4 hF4=>?_);(case hS|hS2=>rfl));refine EVL.append tO rfl rfl rfl rfl rfl rfl rfl rfl rfl rfl rfl rfl [] ow [] (qG _).symm hown (zdp.ro hF4.1 oM) rfl oM ?_;intro v' ow' hown';refine uR ?_;refine⟨(i+1,us++[_],v',ow'),⟨rfl,by rw[wn];rfl,trivial⟩,sB,trivial,sB,qG _,⟨hlt,by dsimp only;rw[hsn];exact(hus.mono (hG3.trans hG4)).snoc (hy.mono hG4),by dsimp only;rw[List.length_append,List.flatMap_append];exact hown'⟩,hG3.trans hG4,by dsimp only;omega⟩
   ·have hp:inR qs.length (R:Int)=false:=by unfold inR;simp;omega
    rw[hp,if_neg (by decide),qG]at hex;rw[qC h2];refine uR ?_;refine⟨(i+1,us,_,ow),⟨rfl,by rw[wn];rfl,trivial⟩,sB,trivial,sB,rfl,⟨hlt,by dsimp only;rw[hex];exact hus.mono hG3,hown⟩,hG3,by dsimp only;omega⟩
  ·have hp:inR qs.length r=false:=by unfold inR;simp;omega
   rw[hp,if_neg (by decide),qG]at hex;apply EV.drawn 14 kR kR;intro xv yw;(repeat refine' DD ?_);refine' vJ (hr2) (i) (rfl) (hlt) ((by rw[List.getElem?_map,hri];rfl)) ?_;rotate_left;(repeat refine' DD ?_);rw[qC h1];(repeat refine' DD ?_);(refine DJ.nil (fun G3 hG3 hF3=>?_);(case hS|hS2=>rfl));refine uR ?_;refine⟨(i+1,us,_,ow),⟨rfl,by rw[wn];rfl,trivial⟩,sB,trivial,sB,rfl,⟨hlt,by dsimp only;rw[hex];exact hus.mono hG3,hown⟩,hG3,by dsimp only;omega⟩
 ·simp only[nN]at hlt;obtain rfl:i=rs.length:=by omega
  rw[List.take_length]at hus;(first|refine EVL.publishL [] ow [] ((qG _).symm) hown fun G3 hG3 hs3=>?_|refine EV.publishL [] ow [] ((qG _).symm) hown fun G3 hG3 hs3=>?_);have hus3:=hus.mono hG3;refine uR ?_;show RL G3 (.slice wa us.length wc) _;rw[hus3.1]at hs3 ⊢;exact hus3.rl hs3
theorem zg4 {H:Hp} {v:Value} {rs:List Int} (hr:IL H v rs) (hn:rs.length≤300) {kd cl:Int} {sl sv:Value} {qs:List Rat} (hv:RL H sv qs) (hb:∀q,q∈qs→ht q≤50) :
  PC prog 191 #[zak kd cl sl sv,v] H fun r H'=>RQ H' r (zdB (atR qs (exL rs qs.length))):=by
 have hvals:=zfO (kd:=kd) (cl:=cl) (sl:=sl) hr hn hv;have hel:=zbm rs qs.length;have hlb:=fun q hq=>hb q (zee (zcO (rs:=rs) (n:=qs.length)) q hq);have hll:(atR qs (exL rs qs.length)).length≤300:=by rw[zbN];omega
 generalize atR qs (exL rs qs.length)=L at *
 obtain⟨a,cap,rfl⟩:=SlC.val hr;obtain⟨va,vc,rfl⟩:=hv.val;refine BD func191 ntmps191 ?_;refine uR ?_;refine vA (hvals) ?_;intro r1 G1 hL hG1;obtain⟨la,lc,rfl⟩:=hL.val;refine uR ?_;by_cases h0:L.length=0
 ·obtain rfl:=List.length_eq_zero_iff.1 h0;refine uR ?_;refine vA (zbj 0 (by decide) (by decide)) ?_;intro r2 G2 hq hG2;obtain⟨xa,xl,xc,ya,yl,yc,rfl,hx1,hx2⟩:=id hq;refine uR ?_;rw[zeP];exact hq
 ·rw[show (((L.length:Nat):Int) == 0)=false from beq_eq_false_iff_ne.2 (by omega)];refine uR ?_;refine EVL.call rfl rfl rfl rfl rfl (znJ hL oM h0 (fun q hq=>qI (hlb q hq) oM)) ?_;intro r2 G2 hq hG2;obtain⟨xa,xl,xc,ya,yl,yc,rfl,hx1,hx2⟩:=id hq;refine uR ?_;exact hq
theorem zt9 {H:Hp} (q:Rat) (hq:rq q) (a b:Int) (h1:-9223372036854775808≤a) (h2:a<9223372036854775808) (h3:-9223372036854775808≤b) (h4:b<9223372036854775808) (h0:b≠0) (he:q=Rat.divInt a b):PC prog 33 #[zae q,.int .i64 a,.int .i64 b] H fun r _=>r=.bool true:=by
 have hov:=fun G:Hp=>zfp (H:=G) a b h1 h2 h3 h4 h0;rw[←he]at hov;refine BD func33 ntmps33 ?_;refine uR ?_;apply EV.drawn 4 kR kR;intro xv yw;(repeat refine' DD ?_);refine' vB (cO func83) (fun G hG hd=>hov G) (fun _ _ _ h k=>RQ.mono h k) ?_;rotate_left;(refine DJ.nil (fun G1 hG1 hF1=>?_);(case hS|hS2=>rfl));have hs:=zpO hF1.1 hq
 repeat (first|refine RUN ?_|refine CV (hs) ?_|refine CE (hs) ?_)
 rfl
theorem zs5 {a b:Rat} (h:a≤b):zb9 a b≤0:=by
 unfold zb9;split
 ·omega
 ·split
  ·rename_i k;exact absurd k (Rat.not_lt.2 h)
  ·omega
theorem zpE {l:List Int} (n:Nat):∀q,q∈zkR l n→ht q≤5:=fun q hq=>by
 obtain⟨i,hi,rfl⟩:=List.mem_map.1 hq;split
 ·exact zsK _
 ·rw[zbR];omega
theorem zrC {l:List Int} {n w:Nat}:∀x,x∈zhc l n w→x.length=w∧∀q,q∈x→ht q≤5:=fun x hx=>by
 obtain⟨i,_,rfl⟩:=List.mem_map.1 hx;exact⟨zf7 _ _,zpE w⟩
theorem zk5 {X:List (List Rat)} (h:∀x,x∈X→∀q,q∈x→ht q≤5) (c r:Int):ht (zbF X c r)≤5:=by
 unfold zbF;rw[qB,qB]
 cases e:X[r.toNat]? with
 | none=>simp;rw[zbR];omega
 | some x =>
  rw[Option.getD_some]
  cases e2:x[c.toNat]? with
  | none=>rw[Option.getD_none,zbR];omega
  | some q=>exact h x (qF e) q (qF e2)
theorem zsZ {X:List (List Rat)} (h:∀x,x∈X→∀q,q∈x→ht q≤5) (c:Int) (m:List Int) (j:Nat):ht (ze5 (zbF X c) m j)≤100:=by
 have h1:=zk5 h c (m.getD j 0);have h2:=zk5 h c (m.getD (j+1) 0);have h3:=zd8 (zbF X c (m.getD j 0)) (zbF X c (m.getD (j+1) 0))
 have h4:ht ((2:Int):Rat)≤10:=by
  have:=zbC 2;have h2:bl (2:Int).natAbs≤5:=za9 (by decide);omega
 have h5:=zfH (zbF X c (m.getD j 0)+zbF X c (m.getD (j+1) 0)) ((2:Int):Rat);rw[show ((2:Int):Rat)=2 from rfl]at h4 h5;unfold ze5;omega
theorem zsC (L:List Rat):zaO (zhy L L)=zaO (zeG 0 L):=by
 congr 1;unfold zhy zeG
 induction L with
 | nil=>rfl
 | cons x L ih =>
  rw[List.zipWith_cons_cons,List.map_cons,ih];congr 1;grind
theorem zmY (L:List Rat):zaO (zhy L L)-zaO L*zaO L / ((L.length:Int):Rat)=zaO (zeG (zdB L) L):=by
 have:=zuV L;rw[zsC];grind
theorem zlv {H:Hp} {v:Value} {rs:List Int} (hr:IL H v rs) (hn:rs.length≤300) {cl:Int} {sl sv:Value} {qs:List Rat} (hv:RL H sv qs) (hb:∀q,q∈qs→ht q≤5) :
  PC prog 188 #[zak 2 cl sl sv,v] H fun r H'=>RQ H' r (zhN qs (exL rs qs.length)):=by
 have hvals:=zfO (kd:=2) (cl:=cl) (sl:=sl) hr hn hv;have hel:=zbm rs qs.length;have hlb:=fun q hq=>hb q (zee (zcO (rs:=rs) (n:=qs.length)) q hq);have hll:(atR qs (exL rs qs.length)).length≤300:=by rw[zbN];omega
 show PC prog 188 #[zak 2 cl sl sv,v] H fun r H'=>RQ H' r (zaO (zeG (zdB (atR qs (exL rs qs.length))) (atR qs (exL rs qs.length))));generalize atR qs (exL rs qs.length)=L at *
 have hform:=zmY L;have hS:=zdz 5 L hlb;have hD:=zdz 10 (zhy L L) (zld hlb hlb);have hDl:(zhy L L).length≤300:=by unfold zhy;rw[List.length_zipWith];omega
 have hM:=zfI (zaO L) (zaO L);have hN:=zbC (L.length:Int);have hN2:bl (L.length:Int).natAbs≤20:=za9 oM;have hV:=zfH (zaO L*zaO L) ((L.length:Int):Rat);have r1:rq (zaO L):=by unfold rq;omega
 have r2:rq (zaO L*zaO L):=by unfold rq;omega
 have r3:rq ((L.length:Int):Rat):=by unfold rq;omega
 have r4:rq (zaO L*zaO L / ((L.length:Int):Rat)):=by unfold rq;omega
 have r5:rq (zaO (zhy L L)):=by unfold rq;omega
 rw[←hform];obtain⟨a,cap,rfl⟩:=SlC.val hr;obtain⟨va,vc,rfl⟩:=hv.val;refine BD func188 ntmps188 ?_;refine uR ?_;refine vA (hvals) ?_;intro r1' G1 hL hG1;obtain⟨la,lc,rfl⟩:=hL.val;refine uR ?_;by_cases h0:L.length=0
 ·obtain rfl:=List.length_eq_zero_iff.1 h0;refine uR ?_;refine vA (zbj 0 (by decide) (by decide)) ?_;intro r2 G2 hq hG2;obtain⟨xa,xl,xc,ya,yl,yc,rfl,hx1,hx2⟩:=id hq;refine uR ?_;have e:zaO (zhy [] [])-zaO []*zaO [] / ((([]:List Rat).length:Int):Rat)=((0:Int):Rat):=by decide +kernel
  rw[e];exact hq
 ·have hnum:(((L.length:Nat):Int):Rat).num≠0:=by rw[Rat.num_intCast];omega
  rw[show (((L.length:Nat):Int) == 0)=false from beq_eq_false_iff_ne.2 (by omega)];refine uR ?_;refine EVL.call rfl rfl rfl rfl rfl (zg8 hL oM (fun q hq=>qI (hlb q hq) oM)) ?_;intro rt G2 hT hG2;obtain⟨xa,xl,xc,ya,yl,yc,rfl,hx1,hx2⟩:=id hT;have hL2:=hL.mono hG2;refine uR ?_;apply EV.drawn 11 kR kR;intro xv yw;(repeat refine' DD ?_);refine' vB (cO func236) (fun G hG hd=>zpt (hL2.mono hG) (hL2.mono hG) rfl oM (fun q hq=>qI (hlb q hq) oM) (fun q hq=>qI (hlb q hq) oM)) (fun _ _ _ h k=>RQ.mono h k) ?_;rotate_left;(repeat refine' DD ?_);refine' vB (cO func238) (fun G hG hd=>zid (hT.mono hG) (hT.mono hG) r1 r1) (fun _ _ _ h k=>RQ.mono h k) ?_;rotate_left;(repeat refine' DD ?_);refine' vB (cO func64) (fun G hG hd=>zbj (L.length:Int) oM oM) (fun _ _ _ h k=>RQ.mono h k) ?_;rotate_left;refine' vB (cO func237) (fun G hG hd=>zfo (hd.tail.head kR) (hd.head kR) r2 r3 hnum) (fun _ _ _ h k=>RQ.mono h k) ?_;rotate_left;refine' vB (cO func193) (fun G hG hd=>zg7 (hd.tail.tail.tail.head kR) (hd.head kR) r5 r4) (fun _ _ _ h k=>RQ.mono h k) ?_;rotate_left;(refine DJ.nil (fun G3 hG3 hF3=>?_);(case hS|hS2=>rfl));have hfin:=hF3.1;obtain⟨xa,xl,xc,ya,yl,yc,e,hx1,hx2⟩:=id hfin;rw[e]at hfin ⊢;refine uR ?_;exact hfin
theorem zjh (C:Nat):∀l:List Int,(∀z,z∈l→0≤z∧z<(C:Int))→sqL l=((List.range C).map fun (k:Nat)=>l.count (k:Int)*l.count (k:Int)).sum∧l.length=((List.range C).map fun (k:Nat)=>l.count (k:Int)).sum
 | [],_=>by
  constructor
  ·show 0=_
   induction C with
   | zero=>rfl
   | succ n ih=>rw[List.range_succ,List.map_append,List.sum_append,←ih (by simp)];simp
  ·show 0=_
   induction C with
   | zero=>rfl
   | succ n ih=>rw[List.range_succ,List.map_append,List.sum_append,←ih (by simp)];simp
 | x::l,h=>by
  have hx:=h x (List.mem_cons_self ..);obtain⟨j,rfl⟩:=Int.eq_ofNat_of_zero_le hx.1;obtain⟨ih1,ih2⟩:=zjh C l (fun z hz=>h z (List.mem_cons_of_mem _ hz));constructor
  ·have hs:=zji (fun k=>l.count (k:Int)*l.count (k:Int)) (fun k=>2*l.count (k:Int)+1) j C;rw[if_pos (by omega)]at hs;rw[zjf,ih1,Nat.add_assoc,←hs];congr 1;refine List.map_congr_left fun k _=>?_;rw[List.count_cons];by_cases e:k=j
   ·subst e;rw[if_pos rfl];simp;grind
   ·have e2:¬((j:Int) == (k:Int))=true:=by simp;omega
    rw[if_neg e,if_neg e2];simp
  ·have hs:=zji (fun k=>l.count (k:Int)) (fun k=>1) j C;rw[if_pos (by omega)]at hs;rw[List.length_cons,ih2,←hs];congr 1;refine List.map_congr_left fun k _=>?_;rw[List.count_cons];by_cases e:k=j
   ·subst e;rw[if_pos rfl];simp
   ·have e2:¬((j:Int) == (k:Int))=true:=by simp;omega
    rw[if_neg e,if_neg e2]
def nS (l:List Int) (i:Nat):Nat:=((List.range i).map fun (k:Nat)=>l.count (k:Int)).sum
def sS (l:List Int) (i:Nat):Nat:=((List.range i).map fun (k:Nat)=>l.count (k:Int)*l.count (k:Int)).sum
theorem zo7 (l:List Int) (i:Nat):nS l (i+1)=nS l i+l.count (i:Int):=by unfold nS;rw[List.range_succ,List.map_append,List.sum_append];simp
theorem zpN (l:List Int) (i:Nat):sS l (i+1)=sS l i+l.count (i:Int)*l.count (i:Int):=by unfold sS;rw[List.range_succ,List.map_append,List.sum_append];simp
theorem zue (l:List Int) (B:Nat) (h:∀z:Int,l.count z≤B):∀i,nS l i≤i*B∧sS l i≤i*(B*B)
 | 0=>⟨Nat.le_of_eq (by simp[nS]),Nat.le_of_eq (by simp[sS])⟩
 | i+1=>by
  obtain⟨h1,h2⟩:=zue l B h i;rw[zo7,zpN,Nat.succ_mul,Nat.succ_mul];exact⟨Nat.add_le_add h1 (h _),Nat.add_le_add h2 (Nat.mul_le_mul (h _) (h _))⟩
theorem zlu {H:Hp} {v:Value} {rs:List Int} (hr:IL H v rs) (hn:rs.length≤300) {sv:Value} {la:Option Addr} {lc:Nat} {ls:List Int} (hv:IL H (.slice la ls.length lc) ls) {C:Nat} (hc:C≤12) (hc1:1≤C) (hls:∀z,z∈ls→0≤z∧z<(C:Int)) :
  PC prog 188 #[zak 1 C (.slice la ls.length lc) sv,v] H fun r H'=>RQ H' r (zgx ls (exL rs ls.length)):=by
 have hcnt:=zfL (kd:=1) (sv:=sv) hr hn hv hc hls;have hel:=zbm rs ls.length;have hll:(atI ls (exL rs ls.length)).length≤300:=by rw[zb4];omega
 have hlb:∀z,z∈atI ls (exL rs ls.length)→0≤z∧z<(C:Int):=fun z hz=>by
  unfold atI at hz;obtain⟨r,_,rfl⟩:=List.mem_map.1 hz;rw[qB]
  cases e:ls[r.toNat]? with
  | none=>exact⟨by decide,by simp;omega⟩
  | some x=>exact hls x (qF e)
 show PC prog 188 #[zak 1 C (.slice la ls.length lc) sv,v] H fun r H'=>RQ H' r (zfT (atI ls (exL rs ls.length)));generalize atI ls (exL rs ls.length)=L at *
 obtain⟨e1,e2⟩:=zjh C L hlb;have hcl:=zaZ C L;have hb:=zue L 300 (fun z=>qI List.count_le_length hll);have hcount:∀z:Int,L.count z≤300:=fun z=>qI List.count_le_length hll;have e1':sqL L=sS L C:=e1;have e2':L.length=nS L C:=e2;obtain⟨a,cap,rfl⟩:=SlC.val hr;refine BD func188 ntmps188 ?_;refine uR ?_;refine vA (hcnt) ?_;intro r1 G1 hL hG1;obtain⟨ca,cc,rfl⟩:=SlC.val hL
 have hLC:SlC G1 (.slice ca C cc) C 1 ((zcB C L).map iv):=by
  have hL0:SlC G1 (.slice ca (zcB C L).length cc) (zcB C L).length 1 ((zcB C L).map iv):=hL;rw[hcl]at hL0;exact hL0
 rw[hcl];refine uR ?_;refine EV.loopK (ι:=Nat) [4,7] [4] (fun i=>[(8,.v (.int .i64 (nS L i:Nat))),(9,.v (.int .i64 (sS L i:Nat))),(10,.v (.int .i64 (i:Int)))]) (fun _=>[]) (fun _=>[]) (fun i _=>i≤C) (fun i=>C-i) (0) rfl rfl ⟨rfl,rfl,rfl,trivial⟩ trivial rfl (fun _=>rfl) (Nat.zero_le _) ?_;rintro i G2 hG2 hi;refine uR ?_;refine EV.cond rfl (fun hlt=>?_) (fun hlt=>?_)
 ·simp only[nN]at hlt;have hL2:=hLC.mono hG2;have hget:=zdv L hlt;have hil:i<C:=hlt;have b1:=hb i;have b2:=hcount (i:Int);have b3:i*300≤12*300:=Nat.mul_le_mul oM (qH _);have b4:i*(300*300)≤12*(300*300):=Nat.mul_le_mul oM (qH _);have b5:L.count (i:Int)*L.count (i:Int)≤300*300:=Nat.mul_le_mul b2 b2;have s1:=zo7 L i;have s2:=zpN L i;have w1:IntKind.i64.wrap ((nS L i:Int)+(L.count (i:Int):Int))=(nS L (i+1):Int):=by rw[s1,IntKind.wrap_i64];omega
  have w2:IntKind.i64.wrap ((L.count (i:Int):Int)*(L.count (i:Int):Int))=((L.count (i:Int)*L.count (i:Int):Nat):Int):=by
   rw[←Int.natCast_mul];generalize L.count (i:Int)*L.count (i:Int)=z at *;rw[IntKind.wrap_i64];omega
  have w3:IntKind.i64.wrap ((sS L i:Int)+((L.count (i:Int)*L.count (i:Int):Nat):Int))=(sS L (i+1):Int):=by rw[s2];generalize L.count (i:Int)*L.count (i:Int)=z at *;rw[IntKind.wrap_i64];omega
  have wn:IntKind.i64.wrap ((i:Int)+1)=((i+1:Nat):Int):=zab i oM;refine uR ?_;refine vI (hL2) (i) (rfl) (hil) ((by rw[List.getElem?_map,hget];rfl)) ?_;refine uR ?_;apply EV.drawn 11 kR kR;intro xv yw;(repeat refine' DD ?_);refine' vJ (hL2) (i) (rfl) (hil) ((by rw[List.getElem?_map,hget];rfl)) ?_;rotate_left;(repeat refine' DD ?_);refine' vJ (hL2) (i) (rfl) (hil) ((by rw[List.getElem?_map,hget];rfl)) ?_;rotate_left;(repeat refine' DD ?_);(refine DJ.nil (fun G3 hG3 hF3=>?_);(case hS|hS2=>rfl));refine uR ?_;refine⟨i+1,⟨by rw[←w1];rfl,by rw[←w3,←w2];rfl,by rw[wn];rfl,trivial⟩,sB,trivial,sB,rfl,hlt,hG3,by omega⟩
 ·simp only[nN]at hlt;obtain rfl:i=C:=by omega
  rw[←e1',←e2'];have hsq:=zim L;have hsq2:L.length*L.length≤300*300:=Nat.mul_le_mul hll hll;refine uR ?_;by_cases h0:L.length=0
  ·obtain rfl:=List.length_eq_zero_iff.1 h0;refine uR ?_;refine vA (zbj 0 (by decide) (by decide)) ?_;intro r2 G3 hq hG3;obtain⟨xa,xl,xc,ya,yl,yc,rfl,hx1,hx2⟩:=id hq;refine uR ?_;rw[show zfT []=((0:Int):Rat) by decide +kernel];exact hq
  ·rw[show (((L.length:Nat):Int) == 0)=false from beq_eq_false_iff_ne.2 (by omega)];have hov:=fun G:Hp=>zfp (H:=G) (sqL L:Int) (L.length:Int) oM oM oM oM oM;have hform:((L.length:Int):Rat)-Rat.divInt (sqL L:Int) (L.length:Int)=zfT L:=by unfold zfT;rw[Rat.divInt_eq_div]
   have r1:rq ((L.length:Int):Rat):=by
    have:=zbC (L.length:Int);have h2:bl (L.length:Int).natAbs≤20:=za9 oM;unfold rq;omega
   have r2:rq (Rat.divInt (sqL L:Int) (L.length:Int)):=by
    rw[Rat.divInt_eq_div];have h1:=zbC (L.length:Int);have h2:bl (L.length:Int).natAbs≤20:=za9 oM;have h3:=zbC (sqL L:Int);have h4:bl (sqL L:Int).natAbs≤20:=za9 oM;have h5:=zfH ((sqL L:Int):Rat) ((L.length:Int):Rat);unfold rq;omega
   refine uR ?_;refine EVL.call rfl rfl rfl rfl rfl (zbj (L.length:Int) oM oM) ?_;intro q1 G3 hq1 hG3;refine uR ?_;refine vA (hov _) ?_;intro q2 G4 hq2 hG4;refine uR ?_;refine vA (zg7 (hq1.mono hG4) hq2 r1 r2) ?_;intro q3 G5 hq3 hG5;obtain⟨xa,xl,xc,ya,yl,yc,rfl,hx1,hx2⟩:=id hq3;refine uR ?_;rw[←hform];exact hq3
theorem zmC {H:Hp} {vx:Value} {X:List (List Rat)} (hX:RLL H vx X) (r col:Int):PC prog 199 #[vx,.int .i64 r,.int .i64 col] H fun u _=>u=.bool (inR X.length r && zcP X col r):=by
 obtain⟨xa,xc,rfl⟩:=hX.val;obtain⟨vs,hvs,hs⟩:=hX;refine BD func199 ntmps199 ?_;refine uR ?_;by_cases h1:r≥0
 ·obtain⟨R,rfl⟩:=Int.eq_ofNat_of_zero_le h1;rw[qD h1];refine uR ?_;by_cases h2:(R:Int)<(X.length:Int)
  ·rw[qD h2];have hi:inR X.length (R:Int)=true:=by unfold inR;simp;omega
   obtain⟨x,hx⟩:∃x,X[R]?=some x:=⟨_,qA oM⟩;obtain⟨a1,e1,hu1,_⟩:=hvs.at hx;have hRl:R<X.length:=by omega
   have hhas:zcP X col (R:Int)=(decide (0≤col) && decide (col<(x.length:Int))):=by
    unfold zcP;rw[Int.toNat_natCast,qB,hx];rfl
   rw[hi,hhas];refine uR ?_;by_cases h3:col≥0
   ·rw[qD h3];refine uR ?_;refine vI (hs) (R) (rfl) (hRl) (hu1) ?_;refine uR ?_;rfl
   ·rw[qC h3];refine uR ?_;rfl
  ·rw[qC h2];have hi:inR X.length (R:Int)=false:=by unfold inR;simp;omega
   rw[hi];refine uR ?_;rfl
 ·rw[qC h1];have hi:inR X.length r=false:=by unfold inR;simp;omega
  rw[hi];refine uR ?_;rfl
theorem zl8 {X:List (List Rat)} {col:Int} {t:Rat} {rs:List Int} {i:Nat} {r:Int} (hri:rs[i]?=some r) (p:Int→Bool) :
  (exL (rs.take (i+1)) X.length).filter p=(exL (rs.take i) X.length).filter p++if inR X.length r && p r then [r] else []:=by
 rw[zfe hri,List.filter_append];cases inR X.length r <;> cases hp:p r <;> simp[hp]
theorem zg6 {H:Hp} {vx vr vt:Value} {X:List (List Rat)} {rs:List Int} {col:Int} {t:Rat} (hX:RLL H vx X) (hr:IL H vr rs) (hn:rs.length≤100000) (hq:∀x,x∈X→∀q,q∈x→rq q) (hvt:RQ H vt t) (ht:rq t) :
  PC prog 147 #[vx,vr,.int .i64 col,vt] H fun r H'=>∃u w,r=.tuple #[u,w]∧IL H' u (zbt X col t (exL rs X.length))∧IL H' w (zaE X col t (exL rs X.length)):=by
 obtain⟨a,cap,rfl⟩:=SlC.val hr;obtain⟨xa,xc,rfl⟩:=hX.val;obtain⟨ta,tl,tc,tb,tm,td,rfl,ht1,ht2⟩:=id hvt;refine BD func147 ntmps147 ?_;refine uR ?_;refine EV.loopK (ι:=Nat × Value × Value × Ows × Ows) [0,1,2,7] [7] (fun q=>[(10,.v q.2.1),(11,.v q.2.2.1),(12,.v (.int .i64 (q.1:Int)))]) (fun _=>[]) (fun q=>q.2.2.2.1++q.2.2.2.2) (fun q _=>q.1≤rs.length∧zaK 3 1 q.2.1 (zbt X col t (exL (rs.take q.1) X.length)).length ((zbt X col t (exL (rs.take q.1) X.length)).map iv) q.2.2.2.1∧zaK 3 1 q.2.2.1 (zaE X col t (exL (rs.take q.1) X.length)).length ((zaE X col t (exL (rs.take q.1) X.length)).map iv) q.2.2.2.2) (fun q=>rs.length-q.1) ((0,.slice none 0 0,.slice none 0 0,[],[])) rfl rfl ⟨rfl,rfl,rfl,trivial⟩ trivial rfl (fun _=>rfl) (⟨Nat.zero_le _,zaK.nil _ _,zaK.nil _ _⟩) ?_;rintro⟨i,w1,w2,ow1,ow2⟩ G1 hG1 ⟨hi,hown1,hown2⟩;dsimp only at hi hown1 hown2;obtain⟨wa1,wc1,rfl⟩:=hown1.val;obtain⟨wa2,wc2,rfl⟩:=hown2.val;refine uR ?_;refine EV.cond rfl (fun hlt=>?_) (fun hlt=>?_)
 ·simp only[nN]at hlt;obtain⟨r,hri⟩:=gE hlt;have hlo:=zl8 (X:=X) (col:=col) (t:=t) hri fun r=>zcP X col r && decide (zbF X col r≤t);have hhi:=zl8 (X:=X) (col:=col) (t:=t) hri fun r=>zcP X col r && !decide (zbF X col r≤t);have hel:=zbm (rs.take i) X.length;rw[List.length_take]at hel;have hl1:(zbt X col t (exL (rs.take i) X.length)).length≤i:=qI (List.length_filter_le _ _) oM;have hl2:(zaE X col t (exL (rs.take i) X.length)).length≤i:=qI (List.length_filter_le _ _) oM;have wn:IntKind.i64.wrap ((i:Int)+1)=((i+1:Nat):Int):=zab i oM;have hr1:=hr.mono hG1;have hX1:=hX.mono hG1;have hth:=zmC hX1 r col;refine uR ?_;refine vI (hr1) (i) (rfl) (hlt) ((by rw[List.getElem?_map,hri];rfl)) ?_
  repeat (first|refine RUN ?_|refine CV (hth) ?_|refine CE (hth) ?_)
  cases hb:inR X.length r && zcP X col r with
  | false =>
   have e1:(inR X.length r && (zcP X col r && decide (zbF X col r≤t)))=false:=by rw[←Bool.and_assoc,hb];rfl
   have e2:(inR X.length r && (zcP X col r && !decide (zbF X col r≤t)))=false:=by rw[←Bool.and_assoc,hb];rfl
   rw[e1,if_neg (by decide),qG]at hlo;rw[e2,if_neg (by decide),qG]at hhi;refine uR ?_;refine⟨(i+1,_,_,ow1,ow2),⟨rfl,rfl,by rw[wn];rfl,trivial⟩,sB,trivial,sB,rfl,⟨hlt,by unfold zbt;rw[hlo];exact hown1,by unfold zaE;rw[hhi];exact hown2⟩,Hp.Le.refl _,by dsimp only;omega⟩
  | true =>
   have hb2:inR X.length r=true∧zcP X col r=true:=by simpa using hb
   have hr0:0≤r∧r<(X.length:Int):=by have:=hb2.1;unfold inR at this;simpa using this
   obtain⟨R,C,x,q,rfl,rfl,hx,hqx⟩:=zel hr0.1 hr0.2 hb2.2;have hk:=zeg (X:=X) rfl rfl hx hqx;rw[hb2.1,hb2.2,Bool.true_and,Bool.true_and,hk]at hlo hhi;have hRl:R<X.length:=by omega
   have hCl:=(qE.1 hqx).1;obtain⟨vs,hvs,hs⟩:=hX1;obtain⟨a2,c2,hu,hRL⟩:=hvs.at hx;obtain⟨us,y,hs2,hc2,hy⟩:=hRL.at hqx;obtain⟨xa',xl',xc',ya',yl',yc',rfl,hx1,hx2⟩:=id hy;have hqq:=hq x (qF hx) q (qF hqx);have hvt1:=hvt.mono hG1;refine uR ?_;apply EV.drawn 11 kR kR;intro xv yw;(repeat refine' DD ?_);refine' vJ (hr1) (i) (rfl) (hlt) ((by rw[List.getElem?_map,hri];rfl)) ?_;rotate_left;(repeat refine' DD ?_);refine' vJ (hs) (R) (rfl) (hRl) (hu) ?_;rotate_left;(repeat refine' DD ?_);refine' DJ.idxM tO rfl rfl rfl rfl rfl rfl rfl rfl rfl (hs2) (C) (rfl) (hCl) (hc2) ?_;rotate_left;(repeat refine' DD ?_);(refine DJ.nil (fun G2 hG2 hF2=>?_);(case hS|hS2=>rfl));refine vA (zbA (hy.mono hG2) (hvt1.mono hG2) hqq ht) ?_;rintro rc G3 rfl hG3;have hr3:=hr1.mono (hG2.trans hG3);refine uR ?_;by_cases hle:q≤t
   ·have ho:zb9 q t≤0:=ziW hle;rw[qD hle,if_pos rfl]at hlo;rw[qD hle,if_neg (by decide),qG]at hhi;rw[qD ho];refine uR ?_;refine vI (hr3) (i) (rfl) (hlt) ((by rw[List.getElem?_map,hri];rfl)) ?_;refine uR ?_;refine EVL.app1 tO rfl rfl rfl rfl rfl rfl rfl rfl rfl rfl rfl rfl rfl rfl rfl rfl rfl rfl rfl (fun _=>rfl) (ow1) (ow2) (rfl) (hown1) oM fun _=>?_;intro v' ow' hown';refine uR ?_;refine⟨(i+1,v',_,ow',ow2),⟨rfl,rfl,by rw[wn];rfl,trivial⟩,sB,trivial,sB,rfl,⟨hlt,by unfold zbt;rw[hlo];exact hown'.il,by unfold zaE;rw[hhi];exact hown2⟩,hG2.trans hG3,by dsimp only;omega⟩
   ·have ho:¬zb9 q t≤0:=by
     have:=Rat.not_le.1 hle;unfold zb9;rw[if_neg (fun k=>absurd (Rat.le_of_lt k) (Rat.not_le.2 this)),if_pos this];omega
    rw[qC hle,if_neg (by decide),qG]at hlo;rw[qC hle,Bool.not_false,if_pos rfl]at hhi;rw[qC ho];refine uR ?_;refine vI (hr3) (i) (rfl) (hlt) ((by rw[List.getElem?_map,hri];rfl)) ?_;refine uR ?_;refine EVL.swapOw ow1 ow2 rfl ?_;refine EVL.app1 tO rfl rfl rfl rfl rfl rfl rfl rfl rfl rfl rfl rfl rfl rfl rfl rfl rfl rfl rfl (fun _=>rfl) (ow2) (ow1) (rfl) (hown2) oM fun _=>?_;intro v' ow' hown';refine EVL.swapOw ow' ow1 rfl ?_;refine uR ?_;refine⟨(i+1,_,v',ow1,ow'),⟨rfl,rfl,by rw[wn];rfl,trivial⟩,sB,trivial,sB,rfl,⟨hlt,by unfold zbt;rw[hlo];exact hown1,by unfold zaE;rw[hhi];exact hown'.il⟩,hG2.trans hG3,by dsimp only;omega⟩
 ·simp only[nN]at hlt;obtain rfl:i=rs.length:=by omega
  rw[List.take_length]at hown1 hown2 ⊢;(first|refine EVL.publishL [] ow1 ow2 (rfl) hown1 fun G2 hG2 hs2=>?_|refine EV.publishL [] ow1 ow2 (rfl) hown1 fun G2 hG2 hs2=>?_);(first|refine EVL.publishL [] ow2 [] ((qG _).symm) hown2 fun G3 hG3 hs3=>?_|refine EV.publishL [] ow2 [] ((qG _).symm) hown2 fun G3 hG3 hs3=>?_);refine uR ?_;exact⟨_,_,rfl,hs2.mono hG3,hs3⟩
theorem zl4 (size:Nat):∀(vs:List Value) (k:Nat) (pre zs:List Value),(∀v,v∈vs→(zac v).length=size)→pre.length=k*size→zs.length=vs.length*size →
  Instr.fill (fun i=>some (i*size,size)) (pre++zs).toArray ((List.range' k vs.length).zip vs)=some (pre++vs.flatMap zac).toArray
 | [],k,pre,zs,_,_,hz=>by
  obtain rfl:zs=[]:=List.eq_nil_of_length_eq_zero (by simpa using hz);rfl
 | v::vs,k,pre,zs,hv,hp,hz=>by
  have hlen:=hv v (List.mem_cons_self ..);rw[List.length_cons,Nat.succ_mul]at hz;rw[List.length_cons,List.range'_succ,List.zip_cons_cons];unfold Instr.fill;simp only[zho];rw[if_neg (by simp[hlen];omega)];have:=zf1 (zac v) (pre++zs) (k*size) 0 (by rw[List.length_append,hlen];omega);rw[Nat.add_zero]at this
  have e:((zac v).toArray.zipIdx.foldl (fun (cs:Array Value) (x:Value × Nat)=>match x with | (c,j)=>cs.setIfInBounds (k*size+j) c) (pre++zs).toArray)=((zac v).zipIdx.foldl (fun (c:Array Value) (p:Value × Nat)=>c.setIfInBounds (k*size+p.2) p.1) (pre++zs).toArray):=by
   simp
  rw[e,this,List.take_left' hp,hlen,←hp,←List.drop_drop,List.drop_left,List.flatMap_cons,←List.append_assoc];have ih:=zl4 size vs (k+1) (pre++zac v) (zs.drop size) (fun u hu=>hv u (List.mem_cons_of_mem _ hu)) (by rw[List.length_append,hp,hlen,Nat.succ_mul]) (by rw[List.length_drop];omega);exact ih
def ixB:List (Nat × Operand)→Nat→Nat→Bool
 | [],_,0=>true
 | p::ps,k,n+1=>match Nat.beq p.1 k with
  | true=>ixB ps (k+1) n
  | false=>false
 | _,_,_=>false
theorem zl7:∀(ps:List (Nat × Operand)) (k n:Nat),ixB ps k n=true→ps.map (·.1)=List.range' k n
 | [],k,0,_=>rfl
 | p::ps,k,n+1,h=>by
  unfold ixB at h;split at h
  ·rename_i e;rw[List.map_cons,List.range'_succ,zl7 ps (k+1) n h,Nat.eq_of_beq_eq_true e]
  ·cases h
 | [],k,n+1,h=>by cases h
 | p::ps,k,0,h=>by cases h
section
variable {P:Program} {n:Nat} {ops:Array Oper} {o:Oper} {rest:List Oper} {env:Env} {bx:Bxs} {sb:Bxs} {ow:Ows} {H:Hs} {Q:EQ} {τ:Tab} {d:Nat} {s:SV}
theorem DJ.litD {tail l:List Oper} {x:Nat→Value} {y:Nat→Ows} {ow':Ows} {kl ks:List DK} {i:Nat} {bx':Bxs} {Γ:zfA} (hτ:zav P τ) {T:TypeId} {len:Nat} {parts:Array (Nat × Operand)} (ho:o.op=.buildSlice T len parts) (hw:zai ops env o=some true) (hd:o.dst=some d) (hn:Nat.blt d n=true) {te te':TE} {e:TypeId} (ht:τ.get T=some te) (hk:te.kind=.slice e) (ht':τ.get e=some te')
  (hsz:Nat.beq te'.zero.length te'.size=true) (hpos:Nat.ble 1 (len*te'.size)=true) (hsm:Nat.ble (len*te'.size) 10000=true) {vs:List Value} (ha:zbu env (parts.toList.map (·.2)) some=some vs) (hix':ixB parts.toList 0 len=true) (hv:∀G,zdl ops i Γ G→∀v,v∈vs→(zac v).length=te'.size)
  {Φ:Value→Hp→Prop} (hm:∀v G G',Φ v G→G.Le G'→Φ v G') (hΦ:∀G G' v,zdl ops i Γ G→G.Le G'→SlC G' v len te'.size (vs.flatMap zac)→Φ v G')
  (h:DJ P n ops tail sb bx H Q x y kl (i+1) l ks ((d,.v (x i))::env) bx' ((i,Φ (x i))::Γ) ow'):DJ P n ops tail sb bx H Q x y kl i (o::l) (.call Φ::ks) env bx' Γ ow':=by
 have hix:parts.toList.map (·.1)=List.range' 0 len:=zl7 _ _ _ hix';have hkd:=(hτ.get ht).kind;rw[hk]at hkd;have hkd':P.underlying T=some (.slice e):=hkd;obtain⟨zv,hinfo,hzc⟩:=(hτ.get ht').info;obtain⟨i0,hi,hz0,hz1,hz2⟩:=info_parts hinfo;have hl:=Nat.eq_of_beq_eq_true hsz;have hp:=Nat.le_of_ble_eq_true hpos;have hm':=Nat.le_of_ble_eq_true hsm;refine DJ.ofCall (fun β a W G hle hf _ hb _ hs hF=>?_) hd hn hm h;rw[if_pos (hs.want hw)];have hvv:=hv G hF;obtain⟨vs',e1,h2⟩:=ze7 ha;cases e1;have h3:=h2 a.eval fun y u hy he=>hs.op (s:=.v u) (by rw[ho];simpa[Op.operands] using hy) he
 have hvl:vs.length=len:=by
  have e1:=congrArg List.length h3;have e2:=congrArg List.length hix;simp at e1 e2;omega
 have hfl:(vs.flatMap zac).length=len*te'.size:=by rw[zeM zac te'.size vs hvv,hvl]
 have h4:((parts.map fun (i,x)=>(i,a.eval x)):Array (Nat × Value)).toList=(List.range' 0 vs.length).zip vs:=by
  rw[hvl,←hix,←h3,Array.toList_map];generalize parts.toList=l
  induction l with
  | nil=>rfl
  | cons p l ih=>simp only[List.map_cons,List.zip_cons_cons,ih]
 have hfill:=zl4 te'.size vs 0 [] ((List.replicate len te'.zero).flatten) hvv (by simp) (by rw[List.length_flatten];simp[hl,hvl]);rw[List.nil_append,List.nil_append,←h4]at hfill
 have hrun:=run_buildSlice (P:=P) W T e len (parts.map fun (i,x)=>(i,a.eval x)) (vs.flatMap zac).toArray i0 zv hkd' hi hz0 (by rw[hz1];omega) (by rw[hz1];omega) (by
  rw[hz1,hzc,zgK te'.zero te'.size len hl,←hfill])
 have hB:Below W.heap.size W (W.alloc (.cells (vs.flatMap zac).toArray e)):=(Below.refl _ _).alloc (qH _) _;obtain⟨k1,k2,k3⟩:=zr1 hf hB (Box.new W (vs.flatMap zac).toArray e)
 have hr:(execOp a.eval o).run P W=.ok (.value (.slice (some ⟨W.heap.size,0,none⟩) len len)) (W.alloc (.cells (vs.flatMap zac).toArray e)):=by
  unfold execOp;simp only[ho,Sem.run_bind,hrun,Result.andThen_ok,Sem.run_pure]
 unfold Oper.wp;rw[hr,Oper.upon_value];exact⟨_,_,rfl,hΦ G _ _ hF k1 ⟨hfl,.inr ⟨W.heap.size,0,len,(vs.flatMap zac).toArray,rfl,qH _,by simp[Hp.put],fun j x hj=>by rw[Nat.zero_add];simpa using hj⟩⟩,k1,k2,hB,k3⟩
theorem DJ.litD1 {tail l:List Oper} {x:Nat→Value} {y:Nat→Ows} {ow':Ows} {kl ks:List DK} {i:Nat} {bx':Bxs} {Γ:zfA} {Φ:Value→Hp→Prop} (hm:∀v G G',Φ v G→G.Le G'→Φ v G') (hτ:zav P τ) {T:TypeId} {u:Operand} (ho:o.op=.buildSlice T 1 #[(0,u)]) (hw:zai ops env o=some true) (hd:o.dst=some d) (hn:Nat.blt d n=true) {te te':TE} {e:TypeId} (ht:τ.get T=some te) (hk:te.kind=.slice e) (ht':τ.get e=some te')
  (hsz:Nat.beq te'.zero.length te'.size=true) (hpos:Nat.ble 1 (1*te'.size)=true) (hsm:Nat.ble (1*te'.size) 10000=true) {v:Value} (hx:env.op u=some (.v v)) (hv:∀G,zdl ops i Γ G→(zac v).length=te'.size)
  (hΦ:∀G G' w,zdl ops i Γ G→G.Le G'→SlC G' w 1 te'.size ([v].flatMap zac)→Φ w G')
  (h:DJ P n ops tail sb bx H Q x y kl (i+1) l ks ((d,.v (x i))::env) bx' ((i,Φ (x i))::Γ) ow'):DJ P n ops tail sb bx H Q x y kl i (o::l) (.call Φ::ks) env bx' Γ ow' :=
 DJ.litD hτ ho hw hd hn ht hk ht' hsz hpos hsm (vs:=[v]) (by show zbu env [u] some=_;simp[zbu,hx]) rfl (fun G hd w hm=>by rw[List.mem_singleton.1 hm];exact hv G hd) hm hΦ h
end
theorem RQ.len3 {H:Hp} {x:Value} {q:Rat} (h:RQ H x q):(zac x).length=3:=by
 obtain⟨xa,xl,xc,ya,yl,yc,rfl,hx1,hx2⟩:=h;rfl
theorem RL.one {H:Hp} {v x:Value} {q:Rat} (h:SlC H v 1 3 ([x].flatMap zac)) (hx:RQ H x q):RL H v [q] :=
 ⟨[x],rfl,fun j y r e1 e2=>by
  cases j with
  | zero=>cases e1;cases e2;exact hx
  | succ j=>simp at e1,h⟩
def zhC (V:List Rat):Nat→List Rat
 | 0=>[]
 | j+1=>zhC V j++if V.getD j 0<V.getD (j+1) 0 then [(V.getD j 0+V.getD (j+1) 0) / 2] else []
theorem zgF (V:List Rat):∀j,(zhC V j).length≤j
 | 0=>qH _
 | j+1=>by
  have:=zgF V j;unfold zhC;rw[List.length_append];split
  ·rw[List.length_singleton];omega
  ·rw[List.length_nil];omega
theorem zoK (key:Int→Rat) (m:List Int):∀j,j≤m.length-1→zjS key m j=zhC (m.map key) j
 | 0,_=>rfl
 | j+1,h=>by
  have g:∀i,i<m.length→(m.map key).getD i 0=key (m.getD i 0):=fun i hi=>by simp[qB,hi]
  unfold zjS zhC ze5;rw[zoK key m j oM,g j oM,g (j+1) (by omega)]
def plQ (X:List (List Rat)) (col:Int) (es:List Int):List Rat:=if es.all (zcP X col)=true then zhC (ze1 (es.map (zbF X col))) (es.length-1) else []
theorem zi4 {X:List (List Rat)} {col:Int} {es m:List Int} (h:zmN X col es m):zjS (zbF X col) m (m.length-1)=plQ X col es:=by
 unfold plQ;rcases h with ⟨ha,hp,hr⟩ | ⟨ha,rfl⟩
 ·rw[if_pos ha,zoK _ _ _ (qH _),hp.length_eq,zkw (hp.map _) hr]
 ·rw[if_neg (by rw[ha];decide)];rfl
theorem zpV {V:List Rat} {j:Nat} (h:j+1<(ze1 V).length):(ze1 V).getD j 0≤(ze1 V).getD (j+1) 0:=by
 have:=(List.pairwise_iff_getElem.1 (zfR V)) j (j+1) oM h oM;rw[qB,qB,qA oM,qA h];exact this
theorem zkl {H:Hp} {vx vr:Value} {X:List (List Rat)} {rs:List Int} {col:Int} (hX:RLL H vx X) (hr:IL H vr rs) (hn:rs.length≤300) (hq:∀x,x∈X→∀q,q∈x→ht q≤5) :
  PC prog 192 #[vx,vr,.int .i64 col] H fun r H'=>RL H' r (plQ X col (exL rs X.length)):=by
 obtain⟨a,cap,rfl⟩:=SlC.val hr;obtain⟨xa,xc,rfl⟩:=hX.val;refine BD func192 ntmps192 ?_;refine uR ?_;refine EV.loopK (ι:=Nat × List Value × Value × Ows) [0,1,2] [] (fun q=>[(7,.v q.2.2.1),(8,.v (.int .i64 (q.1:Int)))]) (fun _=>[]) (fun q=>q.2.2.2) (fun q G=>q.1≤rs.length∧(exL (rs.take q.1) X.length).all (zcP X col)=true∧RVs G q.2.1 ((exL (rs.take q.1) X.length).map (zbF X col))∧zaK 36 3 q.2.2.1 q.2.1.length (q.2.1.flatMap zac) q.2.2.2) (fun q=>rs.length-q.1) ((0,[],.slice none 0 0,[])) rfl rfl ⟨rfl,rfl,trivial⟩ trivial rfl (fun _=>rfl) (⟨Nat.zero_le _,rfl,RVs.nil _,zaK.nil _ _⟩) ?_;rintro⟨i,us,w,ow⟩ G2 hG2 ⟨hi,hall,hus,hown⟩;dsimp only at hi hall hus hown;obtain⟨wa,wc,rfl⟩:=hown.val;refine uR ?_;refine EV.cond rfl (fun hlt=>?_) (fun hlt=>?_)
 ·simp only[nN]at hlt;obtain⟨r,hri⟩:=gE hlt;have hex:=zfe (n:=X.length) hri;have hel:=zbm (rs.take i) X.length;rw[List.length_take]at hel;have hul:us.length≤i:=by rw[hus.1,List.length_map];omega
  have wn:IntKind.i64.wrap ((i:Int)+1)=((i+1:Nat):Int):=zab i oM;have hr2:=hr.mono hG2;have hX2:=hX.mono hG2;have hth:=zmC hX2 r col;refine uR ?_;refine vI (hr2) (i) (rfl) (hlt) ((by rw[List.getElem?_map,hri];rfl)) ?_;refine uR ?_;by_cases h1:r<0
  ·have hp:inR X.length r=false:=by unfold inR;simp;omega
   rw[hp,if_neg (by decide),qG]at hex;rw[qD h1];refine uR ?_;refine⟨(i+1,us,_,ow),⟨rfl,by rw[wn];rfl,trivial⟩,sB,trivial,trivial,rfl,⟨hlt,by dsimp only;rw[hex];exact hall,by dsimp only;rw[hex];exact hus,hown⟩,Hp.Le.refl _,by dsimp only;omega⟩
  ·obtain⟨R,rfl⟩:=Int.eq_ofNat_of_zero_le (show 0≤r by omega);rw[qC h1];refine uR ?_;refine vI (hr2) (i) (rfl) (hlt) ((by rw[List.getElem?_map,hri];rfl)) ?_;refine uR ?_;by_cases h2:(R:Int)≥(X.length:Int)
   ·have hp:inR X.length (R:Int)=false:=by unfold inR;simp;omega
    rw[hp,if_neg (by decide),qG]at hex;rw[qD h2];refine uR ?_;refine⟨(i+1,us,_,ow),⟨rfl,by rw[wn];rfl,trivial⟩,sB,trivial,trivial,rfl,⟨hlt,by dsimp only;rw[hex];exact hall,by dsimp only;rw[hex];exact hus,hown⟩,Hp.Le.refl _,by dsimp only;omega⟩
   ·have hp:inR X.length (R:Int)=true:=by unfold inR;simp;omega
    rw[hp,Bool.true_and]at hth;rw[hp,if_pos rfl]at hex;rw[qC h2];refine uR ?_;refine vI (hr2) (i) (rfl) (hlt) ((by rw[List.getElem?_map,hri];rfl)) ?_
    repeat (first|refine RUN ?_|refine CV (hth) ?_|refine CE (hth) ?_)
    cases hb:zcP X col (R:Int) with
    | false =>
     have hno:(exL rs X.length).all (zcP X col)=false:=by
      rw[List.all_eq_false];refine⟨(R:Int),?_,by rw[hb];decide⟩;unfold exL;exact List.mem_filter.2 ⟨qF hri,hp⟩
     refine uR ?_;unfold plQ;rw[if_neg (by rw[hno];decide)];exact RL.nil _ _ _
    | true =>
     obtain⟨R',C,x,q,hRR,rfl,hx,hqx⟩:=zel (show 0≤(R:Int) by omega) (show (R:Int)<(X.length:Int) by omega) hb;obtain rfl:R=R':=by omega
     have hk:=zeg (X:=X) rfl rfl hx hqx;have hRl:R<X.length:=by omega
     have hCl:=(qE.1 hqx).1;obtain⟨vs,hvs,hs⟩:=hX2;obtain⟨a2,c2,hu,hRL⟩:=hvs.at hx;obtain⟨us2,y,hs2,hc2,hy⟩:=hRL.at hqx;obtain⟨xa',xl',xc',ya',yl',yc',rfl,hx1,hx2⟩:=id hy;refine uR ?_;refine vI (hr2) (i) (rfl) (hlt) ((by rw[List.getElem?_map,hri];rfl)) ?_;refine uR ?_;refine vI (hs) (R) (rfl) (hRl) (hu) ?_;refine uR ?_;refine EVL.idxM tO rfl rfl rfl rfl rfl rfl rfl rfl rfl (hs2) (C) (rfl) (hCl) (hc2) ?_;refine uR ?_;refine EVL.app1 tO rfl rfl rfl rfl rfl rfl rfl rfl rfl rfl rfl rfl rfl rfl rfl rfl rfl rfl rfl (fun _=>rfl) (ow) ([]) ((qG _).symm) (hown) oM fun _=>?_;intro v' ow' hown';refine uR ?_;refine⟨(i+1,us++[_],v',ow'),⟨rfl,by rw[wn];rfl,trivial⟩,sB,trivial,trivial,qG _,⟨hlt,by dsimp only;rw[hex,List.all_append,hall];simp[hb],by dsimp only;rw[hex,List.map_append,List.map_cons,hk];exact hus.snoc hy,by dsimp only;rw[List.length_append,List.flatMap_append];exact hown'⟩,Hp.Le.refl _,by dsimp only;omega⟩
 ·simp only[nN]at hlt;obtain rfl:i=rs.length:=by omega
  rw[List.take_length]at hus hall;have hel:=zbm rs X.length;(first|refine EVL.publishL [] ow [] ((qG _).symm) hown fun G3 hG3 hs3=>?_|refine EV.publishL [] ow [] ((qG _).symm) hown fun G3 hG3 hs3=>?_);have hus3:=hus.mono hG3
  have hRL:RL G3 (.slice wa us.length wc) ((exL rs X.length).map (zbF X col)):=by
   rw[hus3.1]at hs3 ⊢;exact hus3.rl hs3
  have hpl:plQ X col (exL rs X.length)=zhC (ze1 ((exL rs X.length).map (zbF X col))) ((exL rs X.length).length-1):=by unfold plQ;rw[if_pos hall]
  rw[hpl]
  have hkb:∀q,q∈(exL rs X.length).map (zbF X col)→ht q≤5:=fun q hm=>by
   obtain⟨r,_,rfl⟩:=List.mem_map.1 hm;exact zk5 hq col r
  have hvl:((exL rs X.length).map (zbF X col)).length=(exL rs X.length).length:=List.length_map ..;rw[←hvl];generalize (exL rs X.length).map (zbF X col)=vals at *
  have hsl:(ze1 vals).length=vals.length:=(zfw vals).length_eq;have hsb:∀q,q∈ze1 vals→ht q≤5:=fun q hm=>hkb q ((zfw vals).mem_iff.1 hm);have hris:=fun (j:Nat) (h:j+1<(ze1 vals).length)=>zpV h;refine uR ?_;refine EVL.call rfl rfl rfl rfl rfl (znO hRL oM (fun q hm=>qI (hkb q hm) oM)) ?_;intro r5 G4 hV hG4;rw[←hsl];generalize ze1 vals=V at *
  obtain⟨va,vc,rfl⟩:=hV.val
  have h2h:ht ((2:Int):Rat)≤10:=by
   have:=zbC 2;have h2:bl (2:Int).natAbs≤5:=za9 (by decide);omega
  have hrq:∀q,ht q≤30→rq q:=fun q h=>qI h oM;refine uR ?_;refine EV.loopK (ι:=Nat × List Value × Value × Ows) [7] [] (fun q=>[(9,.v q.2.2.1),(10,.v (.int .i64 ((q.1+1:Nat):Int)))]) (fun _=>[]) (fun q=>q.2.2.2) (fun q G=>q.1≤V.length-1∧RVs G q.2.1 (zhC V q.1)∧zaK 36 3 q.2.2.1 q.2.1.length (q.2.1.flatMap zac) q.2.2.2) (fun q=>V.length-q.1) ((0,[],.slice none 0 0,[])) rfl rfl ⟨rfl,rfl,trivial⟩ trivial rfl (fun _=>rfl) (⟨Nat.zero_le _,RVs.nil _,zaK.nil _ _⟩) ?_;rintro⟨j,ps,u,ow2⟩ G5 hG5 ⟨hj,hps,hown2⟩;dsimp only at hj hps hown2;obtain⟨ua,uc,rfl⟩:=hown2.val;refine uR ?_;refine EV.cond rfl (fun hlj=>?_) (fun hlj=>?_)
  ·simp only[nN]at hlj;have hjl:j<V.length:=by omega
   have ha:V[j]?=some (V.getD j 0):=by rw[qB,qA hjl];rfl
   have hb:V[j+1]?=some (V.getD (j+1) 0):=by rw[qB,qA hlj];rfl
   have hle:=hris j hlj;have hah:=hsb _ (qF ha);have hbh:=hsb _ (qF hb);have hgs:zhC V (j+1)=zhC V j++if V.getD j 0<V.getD (j+1) 0 then [(V.getD j 0+V.getD (j+1) 0) / 2] else []:=rfl
   have hpl:=hps.1;have hgl:=zgF V j;generalize V.getD j 0=p at *
   generalize V.getD (j+1) 0=q at *
   have hab:=zd8 p q;have wj:IntKind.i64.wrap (((j+1:Nat):Int)-1)=(j:Int):=by rw[IntKind.wrap_i64];omega
   have wn:IntKind.i64.wrap (((j+1:Nat):Int)+1)=((j+1+1:Nat):Int):=zab (j+1) oM;obtain⟨vs1,y1,hs1,hc1,hy1⟩:=(hV.mono hG5).at ha;obtain⟨vs2,y2,hs2,hc2,hy2⟩:=(hV.mono hG5).at hb;obtain⟨xa1,xl1,xc1,ya1,yl1,yc1,rfl,hx11,hx12⟩:=id hy1;obtain⟨xa2,xl2,xc2,ya2,yl2,yc2,rfl,hx21,hx22⟩:=id hy2;refine uR ?_;apply EV.drawn 9 kR kR;intro xv yw;(repeat refine' DD ?_);refine' DJ.idxM tO rfl rfl rfl rfl rfl rfl rfl rfl rfl (hs1) (j) (wj) (hjl) (hc1) ?_;rotate_left;(repeat refine' DD ?_);refine' DJ.idxM tO rfl rfl rfl rfl rfl rfl rfl rfl rfl (hs2) (j+1) (rfl) (hlj) (hc2) ?_;rotate_left;(repeat refine' DD ?_);(refine DJ.nil (fun G6 hG6 hF6=>?_);(case hS|hS2=>rfl));refine EVL.call rfl rfl rfl rfl rfl (zbA (hy1.mono hG6) (hy2.mono hG6) (hrq _ oM) (hrq _ oM)) ?_;rintro rc G7 rfl hG7;by_cases hlt3:p<q
   ·rw[if_pos hlt3]at hgs
    have ho:(zb9 p q != 0)=true:=by
     unfold zb9;rw[if_pos hlt3];rfl
    refine uR ?_;rw[ho];refine uR ?_;apply EV.drawn 14 kR kR;intro xv yw;(repeat refine' DD ?_);refine' DJ.idxM tO rfl rfl rfl rfl rfl rfl rfl rfl rfl ((hs1.mono (hG6.trans hG7))) (j) (wj) (hjl) (hc1) ?_;rotate_left;(repeat refine' DD ?_);refine' DJ.idxM tO rfl rfl rfl rfl rfl rfl rfl rfl rfl ((hs2.mono (hG6.trans hG7))) (j+1) (rfl) (hlj) (hc2) ?_;rotate_left;(repeat refine' DD ?_);refine' vB (cO func194) (fun G hG hd=>zdH (hy1.mono ((hG6.trans hG7).trans hG)) (hy2.mono ((hG6.trans hG7).trans hG)) (hrq _ oM) (hrq _ oM)) (fun _ _ _ h k=>RQ.mono h k) ?_;rotate_left;refine' vB (cO func64) (fun G hG hd=>zbj 2 (by decide) (by decide)) (fun _ _ _ h k=>RQ.mono h k) ?_;rotate_left;refine' vB (cO func237) (fun G hG hd=>zfo (hd.tail.head kR) (hd.head kR) (hrq _ oM) (hrq _ oM) (by decide)) (fun _ _ _ h k=>RQ.mono h k) ?_;rotate_left;(refine' DJ.litD1 (Φ:=fun w G=>RL G w [(p+q) / ((2:Int):Rat)]) (fun _ _ _ h k=>h.mono k) tO rfl rfl rfl rfl rfl rfl rfl rfl rfl rfl rfl (fun G hd=>RQ.len3 (hd.head kR)) (fun G G' w hd hG h=>RL.one h ((hd.head kR).mono hG)) ?_;rotate_left);(refine DJ.nil (fun G8 hG8 hF8=>?_);(case hS|hS2=>rfl));obtain⟨vs3,hl3,hv3,hs3'⟩:=hF8.1
    obtain⟨y3,rfl⟩:∃y,vs3=[y]:=by
     match vs3,hl3 with
     | [y],_=>exact⟨y,rfl⟩
    have hy3:=hv3 0 y3 _ rfl rfl;obtain⟨xa3,xl3,xc3,ya3,yl3,yc3,rfl,hx31,hx32⟩:=id hy3;refine EVL.append tO rfl rfl rfl rfl rfl rfl rfl rfl rfl rfl rfl rfl [] ow2 [] (qG _).symm hown2 (zdp.ro hs3' (Nat.succ_pos 0)) rfl (by simp;omega) ?_;intro v1 ow1 hown1;refine uR ?_;refine⟨(j+1,ps++[_],v1,ow1),⟨rfl,by rw[wn];rfl,trivial⟩,sB,trivial,trivial,qG _,⟨by dsimp only;omega,by dsimp only;rw[hgs];exact(hps.mono (hG6.trans (hG7.trans hG8))).snoc hy3,by dsimp only;rw[List.length_append,List.flatMap_append];exact hown1⟩,hG6.trans (hG7.trans hG8),by dsimp only;omega⟩
   ·rw[if_neg hlt3,qG]at hgs;have hpq:p=q:=Rat.le_antisymm hle (Rat.not_lt.1 hlt3)
    have ho:(zb9 p q != 0)=false:=by
     rw[hpq,zph];rfl
    refine uR ?_;rw[ho];refine uR ?_;refine⟨(j+1,ps,_,ow2),⟨rfl,by rw[wn];rfl,trivial⟩,sB,trivial,trivial,rfl,⟨by dsimp only;omega,by dsimp only;rw[hgs];exact hps.mono (hG6.trans hG7),hown2⟩,hG6.trans hG7,by dsimp only;omega⟩
  ·simp only[nN]at hlj;obtain rfl:j=V.length-1:=by omega
   (first|refine EVL.publishL [] ow2 [] ((qG _).symm) hown2 fun G6 hG6 hs6=>?_|refine EV.publishL [] ow2 [] ((qG _).symm) hown2 fun G6 hG6 hs6=>?_);have hps6:=hps.mono hG6;refine uR ?_;show RL G6 (.slice ua ps.length uc) _;rw[hps6.1]at hs6 ⊢;exact hps6.rl hs6
end
section
def zbG (X:List (List Rat)) (cost:List Int→Rat) (es:List Int) (L c:Int) (ts:List Rat):List (Int × Rat × Rat) :=
 ts.flatMap fun t=>if L≤((zbt X c t es).length:Int)∧L≤((zaE X c t es).length:Int) then [(c,t,cost es-(cost (zbt X c t es)+cost (zaE X c t es)))] else []
def zaG (X:List (List Rat)) (cost:List Int→Rat) (es:List Int) (L:Int) (cols:List Int):List (Int × Rat × Rat):=cols.flatMap fun c=>zbG X cost es L c (plQ X c es)
theorem zl6 {key:Int→Rat} {m:List Int}:∀{n j:Nat},j<n→key (m.getD j 0)<key (m.getD (j+1) 0)→ze5 key m j∈zjS key m n
 | 0,j,h,_=>by omega
 | n+1,j,h,hlt=>by
  unfold zjS;by_cases e:j=n
  ·subst e;rw[if_pos hlt];exact List.mem_append_right _ (List.mem_singleton.2 rfl)
  ·exact List.mem_append_left _ (zl6 (show j<n by omega) hlt)
theorem zkx (key:Int→Rat) (es:List Int):∃m,m.Perm es∧zhz key m:=by
 refine⟨es.mergeSort fun a b=>decide (key a≤key b),List.mergeSort_perm _ _,?_⟩;have:=List.pairwise_mergeSort (le:=fun a b:Int=>decide (key a≤key b)) (fun a b c h1 h2=>by simp at h1 h2 ⊢;exact Rat.le_trans h1 h2) (fun a b=>by simp;exact Rat.le_total) es;exact List.pairwise_map.2 (this.imp fun h=>by simpa using h)
theorem zjL {wo cost:List Int→Rat} (hp:POk wo cost) {es a b m:List Int} {j:Nat} (hm:m.Perm es) (hl:a.Perm (m.take (j+1))) (hh:b.Perm (m.drop (j+1))):cost es-(cost a+cost b)=zfx wo m j-wo es:=by
 have hab:(a++b).Perm es:=by
  refine(hl.append hh).trans ?_;rw[List.take_append_drop];exact hm
 have h1:=hp.gain hab;have h2:=hp.wperm _ _ hl;have h3:=hp.wperm _ _ hh;have h4:zfx wo m j=wo (m.take (j+1))+wo (m.drop (j+1)):=rfl;rw[h4,←h2,←h3];grind
theorem zq5 {X:List (List Rat)} {wo cost:List Int→Rat} {es cols:List Int} {L:Int} (hp:POk wo cost) (p:Int × Rat × Rat):p∈zaG X cost es L cols↔zuC X wo es cols L p:=by
 obtain⟨c,t,g⟩:=p;unfold zaG zbG;rw[List.mem_flatMap];constructor
 ·rintro⟨c',hc,h⟩;obtain⟨t',ht,h⟩:=List.mem_flatMap.1 h;split at h
  ·rename_i hcond;rw[List.mem_singleton]at h;cases h;by_cases ha:es.all (zcP X c)=true
   ·obtain⟨m,hm,hr⟩:=zkx (zbF X c) es;rw[←zi4 (.inl ⟨ha,hm,hr⟩:zmN X c es m)]at ht;obtain⟨j,hj,hlt,rfl⟩:=zgE ht;have hj1:j+1<m.length:=by omega
    obtain⟨hl,hh⟩:=zf9 hm hr (List.all_eq_true.1 ha) hj1 hlt;have e1:=hl.length_eq;have e2:=hh.length_eq;rw[List.length_take]at e1;rw[List.length_drop]at e2;exact⟨hc,ha,m,j,hm,hr,hj1,zeC.2 ⟨by omega,by omega,hlt⟩,rfl,zjL hp hm hl hh⟩
   ·unfold plQ at ht;rw[if_neg ha]at ht;cases ht
  ·cases h
 ·rintro⟨hc,ha,m,j,hm,hr,hj,hcand,he,hg⟩;dsimp only at hc ha hr hcand he hg;obtain⟨h1,h2,hlt⟩:=zeC.1 hcand;obtain⟨hl,hh⟩:=zf9 hm hr (List.all_eq_true.1 ha) hj hlt;have e1:=hl.length_eq;have e2:=hh.length_eq;rw[List.length_take]at e1;rw[List.length_drop]at e2;refine⟨c,hc,List.mem_flatMap.2 ⟨t,?_,?_⟩⟩
  ·rw[←zi4 (.inl ⟨ha,hm,hr⟩:zmN X c es m),he];exact zl6 oM hlt
  ·rw[he,if_pos ⟨by omega,by omega⟩,zjL hp hm hl hh,hg];exact List.mem_singleton.2 rfl
theorem zcU (l:List (Int × Rat × Rat)):zgh l (l.foldl zf5 none):=by
 have key:∀(qs pre:List (Int × Rat × Rat)) (st:Option (Int × Rat × Rat)),zgh pre st→zgh (pre++qs) (qs.foldl zf5 st):=by
  intro qs
  induction qs with
  | nil=>intro pre st h;rw[qG];exact h
  | cons p qs ih =>
   intro pre st h;rw[show pre++p::qs=(pre++[p])++qs by simp];exact ih _ _ (znb h p)
 have:=key l [] none rfl;simpa using this
theorem zkY {X:List (List Rat)} {wo cost:List Int→Rat} {es cols:List Int} {L:Int} {ps:List (Int × Option (Rat × Rat))} (hp:POk wo cost) (hcol:ztV cols (ps.map (·.1))) (hps:∀p,p∈ps→zrT X wo es L p.1 p.2) :
  ((zb5 ps).map fun t=>(t.1,t.2.1,t.2.2-wo es))=(zaG X cost es L cols).foldl zf5 none :=
 zna (zkX hp hcol hps) (zcU _).p fun p=>(zq5 hp p).symm
end
section
structure Nd where
 col:Int
 left:Int
 right:Int
 rows:Int
 cls:Int
 at':Rat
 cost:Rat
 value:Rat
 counts:List Int
structure GP where
 X:List (List Rat)
 cost:List Int→Rat
 mean:List Int→Rat
 cnt:List Int→List Int
 least:Int
 gain:Rat
 cols:Int→List Int × Int
def GP.nd (p:GP) (rows:List Int):Nd:=⟨-1,0,0,(rows.length:Int),(topN (p.cnt rows) (p.cnt rows).length:Int),0,p.cost rows,p.mean rows,p.cnt rows⟩
def GP.best (p:GP) (rows cols:List Int):Option (Int × Rat × Rat):=(zaG p.X p.cost rows (max 1 p.least) cols).foldl zf5 none
def GP.cut (p:GP) (rows cols:List Int):Option (Int × Rat):=match p.best rows cols with
 | some (c,t,g)=>if g≤p.gain then none else some (c,t)
 | none=>none
def GP.grow (p:GP):Nat→Nat→List Int→Int→List Nd × Int
 | 0,_,rows,s=>([p.nd rows],s)
 | d+1,k,rows,s=>match p.cut rows (p.cols s).1 with
  | none=>([p.nd rows],(p.cols s).2)
  | some (c,t) =>
   let L:=p.grow d (k+1) (zbt p.X c t rows) (p.cols s).2
   let R:=p.grow d (k+1+L.1.length) (zaE p.X c t rows) L.2
   ({p.nd rows with col:=c,left:=((k+1:Nat):Int),right:=((k+1+L.1.length:Nat):Int),at':=t}::(L.1++R.1),R.2)
theorem GP.grow_zero (p:GP) (k:Nat) (rows:List Int) (s:Int):p.grow 0 k rows s=([p.nd rows],s):=rfl
theorem GP.grow_none {p:GP} {d k:Nat} {rows:List Int} {s:Int} (h:p.cut rows (p.cols s).1=none):p.grow (d+1) k rows s=([p.nd rows],(p.cols s).2):=by
 rw[GP.grow,h]
theorem GP.grow_some {p:GP} {d k:Nat} {rows:List Int} {s:Int} {c:Int} {t:Rat} (h:p.cut rows (p.cols s).1=some (c,t)):p.grow (d+1) k rows s =
  ({p.nd rows with col:=c,left:=((k+1:Nat):Int),right:=((k+1+(p.grow d (k+1) (zbt p.X c t rows) (p.cols s).2).1.length:Nat):Int),at':=t}::((p.grow d (k+1) (zbt p.X c t rows) (p.cols s).2).1++(p.grow d (k+1+(p.grow d (k+1) (zbt p.X c t rows) (p.cols s).2).1.length) (zaE p.X c t rows) (p.grow d (k+1) (zbt p.X c t rows) (p.cols s).2).2).1),(p.grow d (k+1+(p.grow d (k+1) (zbt p.X c t rows) (p.cols s).2).1.length) (zaE p.X c t rows) (p.grow d (k+1) (zbt p.X c t rows) (p.cols s).2).2).2):=by
 rw[GP.grow,h]
theorem GP.grow_len (p:GP):∀(d k:Nat) (rows:List Int) (s:Int),1≤(p.grow d k rows s).1.length∧(p.grow d k rows s).1.length<2 ^ (d+1)
 | 0,k,rows,s=>by rw[GP.grow_zero];simp
 | d+1,k,rows,s=>by
  have hp:1<2 ^ (d+2):=Nat.one_lt_two_pow oM
  cases h:p.cut rows (p.cols s).1 with
  | none=>rw[GP.grow_none h];exact⟨qH _,hp⟩
  | some ct =>
   obtain⟨c,t⟩:=ct;rw[GP.grow_some h];have h1:=p.grow_len d (k+1) (zbt p.X c t rows) (p.cols s).2;have h2:=p.grow_len d (k+1+(p.grow d (k+1) (zbt p.X c t rows) (p.cols s).2).1.length) (zaE p.X c t rows) (p.grow d (k+1) (zbt p.X c t rows) (p.cols s).2).2;simp only[List.length_cons,List.length_append];have h3:2 ^ (d+1+1)=2 ^ (d+1)+2 ^ (d+1):=by rw[Nat.pow_succ];omega
   omega
end
section
open Go.RowKit _root_.Go.Proofs.Tryz
section
variable {P:Program} {n:Nat} {ops:Array Oper} {tail:List Oper} {sb bx:Bxs} {H:Hs} {Q:EQ} {x:Nat→Value} {y:Nat→Ows} {ow':Ows} {kl:List DK} {i:Nat} {o:Oper} {l:List Oper} {ks:List DK} {env:Env} {bx':Bxs} {Γ:zfA} {τ:Tab} {d:Nat}
theorem DJ.plainE (hτ:zav P τ) (Φ:Value→Hp→Prop) (hm:∀v G G',Φ v G→G.Le G'→Φ v G') (hw:zai ops env o=some true) (hd:o.dst=some d) (hn:Nat.blt d n=true) (hv:∀G,zdl ops i Γ G→∃v,zqu τ env bx o.op=some (.v v)∧Φ v G)
  (h:DJ P n ops tail sb bx H Q x y kl (i+1) l ks ((d,.v (x i))::env) bx' ((i,Φ (x i))::Γ) ow'):DJ P n ops tail sb bx H Q x y kl i (o::l) (.call Φ::ks) env bx' Γ ow' :=
 DJ.ofCall (fun β a W G _ hf _ hb _ hs hF=>by
  obtain⟨v,hv,hΦ⟩:=hv G hF;obtain⟨u,hu,hr⟩:=zcp hτ hv (fun y s hm hy=>hs.op hm hy) hb hf;rw[if_pos (hs.want hw)];unfold Oper.wp;rw[hu,Oper.upon_value];have e:u=v:=hr;subst e;exact⟨u,G,rfl,hΦ,Hp.Le.refl G,hf,Below.refl _ _,Nw.refl _ _ _⟩) hd hn hm h
end
section
variable {n:Nat} {ops:Array Oper} {fuel:Nat} {L:Array Bool} {env:Env} {bx:Bxs} {H:Hs} {K:Env→Bxs→Hs→Prop} {d:Nat} {o:Oper} {v:Value}
end
section
variable {P:Program} {n:Nat} {ops:Array Oper} {o:Oper} {rest:List Oper} {env:Env} {bx:Bxs} {H:Hs} {Q:EQ} {d:Nat}
theorem EVL.neqnil {T T' e:TypeId} {x:Operand} {q:Option Addr} (hT:P.underlying T=some (.pointer e)) (ho:o.op=.binOp .neq T x (.const (.pointer none)) T') (hw:zai ops env o=some true) (hd:o.dst=some d) (hn:Nat.blt d n=true)
  (hx:env.op x=some (.v (.pointer q))) (h:EVL P n ops rest ((d,.v (.bool q.isSome))::env) bx H Q):EVL P n ops (o::rest) env bx H Q :=
 EVL.gen hw hd hn (fun ev W he=>by
  have ex:=he x _ (by simp[ho,Op.operands]) hx;have ey:=he (.const (.pointer none)) _ (by simp[ho,Op.operands]) rfl
  have hq:(Op.equalIn (9999+1) T (.pointer q) (.pointer none)).run P W=.ok (!q.isSome) W:=by
   unfold Op.equalIn;cases q <;> simp[run_underlying hT]
  have hm:Op.maxDepth=9999+1:=rfl;unfold execOp;simp[ho,ex,ey,eqGuard,binOp,Op.equal,hm,hq]) h
end
theorem zrA {A c B:List Value} {k s f:Nat} (hA:A.length=k*s) (hf:f≤c.length):(A++(c++B)).take (k*s+f)=A++c.take f:=by
 rw[List.take_append,List.take_of_length_le oM,hA,Nat.add_sub_cancel_left,List.take_append_of_le_length hf]
theorem zrz {A c B:List Value} {k s f:Nat} (hA:A.length=k*s) (hf:f≤c.length):(A++(c++B)).drop (k*s+f)=c.drop f++B:=by
 rw[List.drop_append,List.drop_eq_nil_of_le oM,hA,Nat.add_sub_cancel_left,List.drop_append_of_le_length hf,List.nil_append]
theorem zde {A c B vs c':List Value} {k s f m q:Nat} (hA:A.length=k*s) (hq:q=k*s+f) (hm:vs.length=m) (hf:f+m≤c.length) (hc:c.take f++vs++c.drop (f+m)=c'):(A++(c++B)).take q++vs++(A++(c++B)).drop (q+m)=A++(c'++B):=by
 subst hq;rw[zrA hA oM,Nat.add_assoc,zrz hA hf,←hc];simp only[List.append_assoc]
theorem zmo {cl:Int} {sv:Value} {la:Option Addr} {ln lc:Nat} {va:Option Addr} {vn vc:Nat}:PV prog 44 #[zak 1 cl (.slice la ln lc) (.slice va vn vc)] (.int .i64 (ln:Int)):=by
 refine PV.of_pc ?_;refine BD func44 ntmps44 ?_;refine uR ?_;rfl
theorem zmp {cl:Int} {la:Option Addr} {ln lc:Nat} {va:Option Addr} {vn vc:Nat}:PV prog 44 #[zak 2 cl (.slice la ln lc) (.slice va vn vc)] (.int .i64 (vn:Int)):=by
 refine PV.of_pc ?_;refine BD func44 ntmps44 ?_;refine uR ?_;rfl
theorem zia {H:Hp} {la:Option Addr} {lc:Nat} {va:Option Addr} {vn vc:Nat} (h0:1≤vn) (h1:vn≤300):PC prog 45 #[zak 2 0 (.slice la 0 lc) (.slice va vn vc)] H fun r _=>r=.int .i64 0:=by
 refine BD func45 ntmps45 ?_;refine uR ?_;rw[qC (show ¬(vn:Int)<1 by omega)];refine uR ?_;rw[qC (show ¬(vn:Int)>300 by omega)];refine uR ?_;rfl
theorem zh9 {H:Hp} {la:Option Addr} {lc:Nat} {ls:List Int} (hv:IL H (.slice la ls.length lc) ls) {va:Option Addr} {vc:Nat} {cl:Int} (hc:1≤cl∧cl≤12) (h0:1≤ls.length) (h1:ls.length≤300) (hls:∀z,z∈ls→0≤z∧z<cl):PC prog 45 #[zak 1 cl (.slice la ls.length lc) (.slice va 0 vc)] H fun r _=>r=.int .i64 0:=by
 refine BD func45 ntmps45 ?_;refine uR ?_;rw[qC (show ¬(ls.length:Int)<1 by omega)];refine uR ?_;rw[qC (show ¬(ls.length:Int)>300 by omega)];refine uR ?_;rw[qC (show ¬cl<1 by omega)];refine uR ?_;rw[qC (show ¬cl>12 by omega)];refine uR ?_;refine EV.loopK (ι:=Nat) [1,3] [1] (fun i=>[(4,.v (.int .i64 (i:Int)))]) (fun _=>[]) (fun _=>[]) (fun i _=>i≤ls.length) (fun i=>ls.length-i) (0) rfl rfl ⟨rfl,trivial⟩ trivial rfl (fun _=>rfl) (Nat.zero_le _) ?_;rintro i G1 hG1 hi;refine uR ?_;refine EV.cond rfl (fun hlt=>?_) (fun hlt=>?_)
 ·simp only[nN]at hlt;obtain⟨z,hz⟩:=gE hlt;have hb:=hls z (qF hz);have hv1:=hv.mono hG1;refine uR ?_;apply EV.drawn 15 kR kR;intro xv yw;(repeat refine' DD ?_);refine' vJ (hv1) (i) (rfl) (hlt) ((by rw[List.getElem?_map,hz];rfl)) ?_;rotate_left;(repeat refine' DD ?_);rw[qC (show ¬z<0 by omega)];(repeat refine' DD ?_);refine' vJ (hv1) (i) (rfl) (hlt) ((by rw[List.getElem?_map,hz];rfl)) ?_;rotate_left;(repeat refine' DD ?_);(refine DJ.nil (fun G2 hG2 hF2=>?_);(case hS|hS2=>rfl));refine uR ?_;rw[qC (show ¬z≥cl by omega)];refine uR ?_;refine⟨i+1,⟨by rw[zab i (by omega)];rfl,trivial⟩,sB,trivial,sB,rfl,hlt,hG2,by omega⟩
 ·try refine uR ?_
  rfl
abbrev znC:List Value:=[.int .i64 0,.bool false,.slice none 0 0,.slice none 0 0,.bool false,.slice none 0 0,.slice none 0 0]
theorem znc {H:Hp}:PC prog 195 #[.agg znC.toArray] H fun r H'=>RQ H' r 0:=by
 refine BD func195 ntmps195 ?_;refine uR ?_;refine vA (zbj 0 (by decide) (by decide)) ?_;intro r2 G2 hq hG2;obtain⟨xa,xl,xc,ya,yl,yc,rfl,hx1,hx2⟩:=id hq;refine uR ?_;exact hq
theorem znd {H:Hp} {c:Int} {b1:Bool} {s1 s2:Option Addr} {n1 c1 n2 c2:Nat} {y:Value} {g:Rat} (hy:RQ H y g):PC prog 195 #[.agg (.int .i64 c::([.bool b1,.slice s1 n1 c1,.slice s2 n2 c2]++zac y)).toArray] H fun r H'=>RQ H' r g:=by
 obtain⟨xa,xl,xc,ya,yl,yc,rfl,hx1,hx2⟩:=id hy;have hl:yl=(dig B32 g.den).length:=SlN.cap hx2;have hne:yl≠0:=fun e=>g.den_nz (zaM zad oM);refine BD func195 ntmps195 ?_;refine uR ?_;rw[show ((yl:Int) == 0)=false from beq_eq_false_iff_ne.2 (by omega)];refine uR ?_;exact hy
def zbX (H:Hp) (cs:List Value) (n:Nd):Prop:=∃xa xc xv xs,RQ H xa n.at'∧RQ H xc n.cost∧RQ H xv n.value∧IL H xs n.counts ∧
 cs=[.int .i64 n.col,.int .i64 n.left,.int .i64 n.right,.int .i64 n.rows,.int .i64 n.cls]++(zac xa++(zac xc++(zac xv++[xs])))
theorem zbX.mono {H G:Hp} {cs:List Value} {n:Nd} (h:zbX H cs n) (k:H.Le G):zbX G cs n:=by
 obtain⟨xa,xc,xv,xs,h1,h2,h3,h4,e⟩:=h;exact⟨xa,xc,xv,xs,h1.mono k,h2.mono k,h3.mono k,h4.mono k,e⟩
theorem zbX.cells {H:Hp} {cs:List Value} {n:Nd} (h:zbX H cs n):∃b1 a1 l1 c1 a2 l2 c2 b3 a3 l3 c3 a4 l4 c4 b5 a5 l5 c5 a6 l6 c6 a7 c7,
  cs=[.int .i64 n.col,.int .i64 n.left,.int .i64 n.right,.int .i64 n.rows,.int .i64 n.cls,.bool b1,.slice a1 l1 c1,.slice a2 l2 c2,.bool b3,.slice a3 l3 c3,.slice a4 l4 c4,.bool b5,.slice a5 l5 c5,.slice a6 l6 c6,.slice a7 n.counts.length c7] ∧
  RQ H (.agg #[.bool b1,.slice a1 l1 c1,.slice a2 l2 c2]) n.at'∧RQ H (.agg #[.bool b3,.slice a3 l3 c3,.slice a4 l4 c4]) n.cost∧RQ H (.agg #[.bool b5,.slice a5 l5 c5,.slice a6 l6 c6]) n.value∧IL H (.slice a7 n.counts.length c7) n.counts:=by
 obtain⟨xa,xc,xv,xs,h1,h2,h3,h4,e⟩:=h;obtain⟨a1,l1,c1,a2,l2,c2,rfl,_⟩:=id h1;obtain⟨a3,l3,c3,a4,l4,c4,rfl,_⟩:=id h2;obtain⟨a5,l5,c5,a6,l6,c6,rfl,_⟩:=id h3;obtain⟨a7,c7,rfl⟩:=SlC.val h4;exact⟨_,_,_,_,_,_,_,_,_,_,_,_,_,_,_,_,_,_,_,_,_,_,_,e,h1,h2,h3,h4⟩
structure zjy (H:Hp) (g:Value) (kd:Int) (N:Nat) (cs mn:List Int→Rat) (cnt:List Int→List Int):Prop where
 counts:kd=1→∀G,H.Le G→∀u l,IL G u l→l.length≤300→PC prog 189 #[g,u] G fun r H'=>IL H' r (cnt (exL l N))
 no:kd≠1→∀l,cnt l=[]
 zero:kd=1→∀l,mn l=0
 cntlen:∀l,(cnt l).length≤12
 mean:∀G,H.Le G→∀u l,IL G u l→l.length≤300→PC prog 191 #[g,u] G fun r H'=>RQ H' r (mn (exL l N))
 msmall:∀l:List Int,l.length≤300→(∀r,r∈l→0≤r∧r<(N:Int))→ht (mn l)≤2000000
 cost:∀G,H.Le G→∀u l,IL G u l→l.length≤300→PC prog 188 #[g,u] G fun r H'=>RQ H' r (cs (exL l N))
 small:∀l:List Int,l.length≤300→(∀r,r∈l→0≤r∧r<(N:Int))→ht (cs l)≤2000000
 check:∀G,H.Le G→PC prog 45 #[g] G fun r _=>r=.int .i64 0
 len:PV prog 44 #[g] (.int .i64 (N:Int))
theorem zjy.mono {H H':Hp} {g:Value} {kd:Int} {N:Nat} {cs mn:List Int→Rat} {cnt:List Int→List Int} (h:zjy H g kd N cs mn cnt) (k:H.Le H'):zjy H' g kd N cs mn cnt :=
 ⟨fun e G hG=>h.counts e G (k.trans hG),h.no,h.zero,h.cntlen,fun G hG=>h.mean G (k.trans hG),h.msmall,fun G hG=>h.cost G (k.trans hG),h.small,fun G hG=>h.check G (k.trans hG),h.len⟩
abbrev ziK (kd cl:Int) (sl sv vx:Value) (deep least:Int) (g1 g2 g3 dv:Value) (sm:Int) (out:Value):List Value:=[.int .i64 kd,.int .i64 cl,sl,sv,vx,.int .i64 deep,.int .i64 least,g1,g2,g3,dv,.int .i64 sm,out]
abbrev zuG (n:Nat) (x1 x2 x3:Value):Value:=.agg (([.int .i64 (-1),.int .i64 0,.int .i64 0,.int .i64 (n:Int),.int .i64 0]:List Value)++(zac x1++(zac x2++(zac x3++([.slice none 0 0]:List Value))))).toArray
theorem zry {H:Hp} {b:Nat} {T:TypeId} {kd cl deep least sm:Int} {la va xa:Option Addr} {ln lc vn vc xn xc:Nat} {g1 g2 g3 dv out vr:Value} {N:Nat} {p:GP} (hg:zjy H (zak kd cl (.slice la ln lc) (.slice va vn vc)) kd N p.cost p.mean p.cnt) {rows:List Int} (hr:IL H vr rows) (hn:rows.length≤300) (hb:∀r,r∈rows→0≤r∧r<(N:Int)) :
  PW prog 143 #[.pointer (some ⟨b,0,none⟩),vr] H [(b,T,ziK kd cl (.slice la ln lc) (.slice va vn vc) (.slice xa xn xc) deep least g1 g2 g3 dv sm out)] fun v ow H'=>ow=[(b,T,ziK kd cl (.slice la ln lc) (.slice va vn vc) (.slice xa xn xc) deep least g1 g2 g3 dv sm out)]∧∃cs,v=.agg cs.toArray∧zbX H' cs (p.nd rows):=by
 obtain⟨ra,rc,rfl⟩:=SlC.val hr;have hex:=zdy hb;have hcost:=fun (G:Hp) (hG:H.Le G)=>hg.cost G hG _ _ (hr.mono hG) hn;have hmean:=fun (G:Hp) (hG:H.Le G)=>hg.mean G hG _ _ (hr.mono hG) hn;have hcnt:=fun e (G:Hp) (hG:H.Le G)=>hg.counts e G hG _ _ (hr.mono hG) hn;rw[hex]at hcost hmean hcnt;have hcl:=hg.cntlen rows;refine PW.body tO func143 rfl kR ntmps143 rfl rfl ?_;refine uR ?_;apply EV.drawn 12 kR kR;intro xv yw;(repeat refine' DD ?_);refine' vB (cO func64) (fun G hG hd=>zbj 0 oM oM) (fun _ _ _ h k=>RQ.mono h k) ?_;rotate_left;(repeat (first|refine' DD ?_|refine' vN ?_|refine' vF ?_));refine' DJ.ofVal (zaa.loadOwn tO rfl rfl rfl rfl (0) rfl (rfl) rfl rfl) rfl rfl rfl ?_;rotate_left;(repeat refine' DD ?_);refine' vB (cO func188) (fun G hG hd=>hcost G hG) (fun _ _ _ h k=>RQ.mono h k) ?_;rotate_left;refine' vB (cO func64) (fun G hG hd=>zbj 0 oM oM) (fun _ _ _ h k=>RQ.mono h k) ?_;rotate_left
 (refine' DJ.plainE tO (fun v G=>∃x1 x2 x3,RQ G x1 ((0:Int):Rat)∧RQ G x2 (p.cost rows)∧RQ G x3 ((0:Int):Rat)∧v=zuG rows.length x1 x2 x3) (fun v G G' ⟨x1,x2,x3,h1,h2,h3,e⟩ k=>⟨x1,x2,x3,h1.mono k,h2.mono k,h3.mono k,e⟩) rfl rfl rfl (fun G hd=>(by
  obtain⟨a1,l1,c1,a2,l2,c2,e1,h1⟩:=hd.tail.tail.head kR;obtain⟨a3,l3,c3,a4,l4,c4,e2,h2⟩:=hd.tail.head kR;obtain⟨a5,l5,c5,a6,l6,c6,e3,h3⟩:=hd.head kR;refine⟨_,?_,_,_,_,⟨a1,l1,c1,a2,l2,c2,rfl,h1⟩,⟨a3,l3,c3,a4,l4,c4,rfl,h2⟩,⟨a5,l5,c5,a6,l6,c6,rfl,h3⟩,rfl⟩;rw[e1,e2,e3];rfl)) ?_;rotate_left)
 (repeat refine' DD ?_);(refine DJ.nil (fun G hG hF=>?_);(case hS|hS2=>rfl));obtain⟨⟨x1,x2,x3,h1,h2,h3,e⟩,_⟩:=hF;obtain⟨a1,l1,c1,a2,l2,c2,rfl,_⟩:=id h1;obtain⟨a3,l3,c3,a4,l4,c4,rfl,_⟩:=id h2;obtain⟨a5,l5,c5,a6,l6,c6,rfl,_⟩:=id h3;replace e:_=Value.agg #[.int .i64 (-1),.int .i64 0,.int .i64 0,.int .i64 (rows.length:Int),.int .i64 0,.bool (decide (((0:Int):Rat).num<0)),.slice a1 l1 c1,.slice a2 l2 c2,.bool (decide ((p.cost rows).num<0)),.slice a3 l3 c3,.slice a4 l4 c4,.bool (decide (((0:Int):Rat).num<0)),.slice a5 l5 c5,.slice a6 l6 c6,.slice none 0 0]:=e;rw[e];refine uR ?_;refine RP ?_;refine EVL.loadOwn tO rfl rfl rfl rfl rfl rfl (0) rfl (rfl) rfl rfl ?_;refine uR ?_;by_cases hk:kd=1
 ·subst hk;refine uR ?_;refine RP ?_;refine EVL.loadOwn tO rfl rfl rfl rfl rfl rfl (0) rfl (rfl) rfl rfl ?_;refine uR ?_;refine vA (hcnt rfl _ hG) ?_;intro r5 G5 hr5 hG5;obtain⟨a7,c7,rfl⟩:=SlC.val hr5;refine uR ?_;refine EVL.call rfl rfl rfl rfl rfl (zpx hr5 oM) ?_;rintro _ G6 rfl hG6;refine uR ?_;refine⟨rfl,_,rfl,_,_,.agg #[_,.slice a5 l5 c5,.slice a6 l6 c6],_,h1.mono (hG5.trans hG6),h2.mono (hG5.trans hG6),?_,hr5.mono hG6,rfl⟩;rw[show (p.nd rows).value=p.mean rows from rfl,hg.zero rfl];exact h3.mono (hG5.trans hG6)
 ·rw[show (kd == 1)=false from beq_eq_false_iff_ne.2 hk];have hno:=hg.no hk rows;refine uR ?_;refine RP ?_;refine EVL.loadOwn tO rfl rfl rfl rfl rfl rfl (0) rfl (rfl) rfl rfl ?_;refine uR ?_;refine vA (hmean _ hG) ?_;intro r5 G5 hr5 hG5;obtain⟨a8,l8,c8,a9,l9,c9,rfl,_⟩:=id hr5;refine uR ?_;refine⟨rfl,_,rfl,.agg #[_,.slice a1 l1 c1,.slice a2 l2 c2],_,_,.slice none 0 0,h1.mono hG5,h2.mono hG5,hr5,?_,?_⟩
  ·rw[show (p.nd rows).counts=p.cnt rows from rfl,hno];exact IL.nil _ _ _
  ·rw[show (p.nd rows).cls=(topN (p.cnt rows) (p.cnt rows).length:Int) from rfl,hno];rfl
theorem zp1 (n m:Int) (hm:1≤m):(if n.tmod m<0 then n.tmod m+m else n.tmod m)=n % m:=by
 by_cases h:0≤n
 ·have e:n.tmod m=n % m:=Int.tmod_eq_emod_of_nonneg h;have:=Int.emod_nonneg n (show m≠0 by omega);rw[e,if_neg (by omega)]
 ·have e:n.tmod m = -((-n) % m):=by
   rw[show n = -(-n) by omega,Int.neg_tmod,Int.tmod_eq_emod_of_nonneg (by omega)];simp
  have h1:=Int.emod_nonneg (-n) (show m≠0 by omega);have h2:=Int.emod_lt_of_pos (-n) (show 0<m by omega);have h4:=Int.emod_nonneg n (show m≠0 by omega);have h5:=Int.emod_lt_of_pos n (show 0<m by omega);have h6:=Int.mul_ediv_add_emod n m;have h7:=Int.mul_ediv_add_emod (-n) m;have h8:m*(n / m + -n / m) = -(n % m + -n % m):=by rw[Int.mul_add];omega
  generalize n / m + -n / m=t at h8
  have h9:t=0∨t = -1:=by
   by_cases a:t ≤ -2
   ·have:m*t≤m*(-2):=Int.mul_le_mul_of_nonneg_left a oM;omega
   ·by_cases b:1≤t
    ·have:m*1≤m*t:=Int.mul_le_mul_of_nonneg_left b oM;omega
    ·omega
  rcases h9 with rfl | rfl
  ·rw[e,if_neg (by omega)];omega
  ·rw[e,if_pos (by omega)];omega
theorem zuy (n m:Int) (w:World) (hm:1≤m) (hm2:m≤1000000) :
  Calls prog 7 #[.int .i64 n,.int .i64 m] w fun e w'=>e=.returned (.int .i64 (n % m))∧w=w':=by
 have hp:=hid (zp1 n m hm);have hr:n.tmod m<m:=Int.tmod_lt_of_pos _ oM;have hr2:-m<n.tmod m:=by have:=Int.lt_tmod_of_pos n (show 0<m by omega);omega
 by_cases hn:n.tmod m<0
 ·go_enter func7,ntmps7;go_wp2
  go_ret;have:=hp.out;rw[if_pos hn]at this;exact⟨zfr this,rfl⟩
 ·go_enter func7,ntmps7;go_wp2
  go_ret;have:=hp.out;rw[if_neg (by omega)]at this;exact⟨zfr this,rfl⟩
theorem zqR (s:Int) (w:World) :
  Calls prog 38 #[.int .u64 s] w fun e w'=>e=.returned (.pointer (some ⟨w.heap.size,0,none⟩))∧w'=w.alloc (.cells #[.int .u64 s] 162):=by
 go_enter func38,ntmps38;go_wp2
 go_ret;exact⟨rfl,rfl⟩
theorem zoG (b:Nat) (s:Int) (w:World) (hc:w.cell? ⟨b,0,none⟩=some (.int .u64 s)) (hf:w.frozen? ⟨b,0,none⟩=false) :
  Calls prog 84 #[.pointer (some ⟨b,0,none⟩)] w fun e w'=>e=.returned (.int .u64 (mix (nxt s)))∧w'=w.setCell ⟨b,0,none⟩ (.int .u64 (nxt s)):=by
 go_enter func84,ntmps84;go_wp2
 go_ret;exact⟨rfl,rfl⟩
theorem zgB (b:Nat) (s:Int) (w:World) (h:Die w b s) :
  Calls prog 84 #[.pointer (some ⟨b,0,none⟩)] w fun e w'=>e=.returned (.int .u64 (mix (nxt s)))∧Die w' b (nxt s)∧zaX (·=b) w w'∧w'.heap.size=w.heap.size:=by
 refine(zoG b s w h.cell h.free).mono ?_;rintro e w' ⟨rfl,rfl⟩;exact⟨rfl,h.set (zdF s).1,(zaX.refl (fun x=>x=b) w).setCell (p:=⟨b,0,none⟩) (fun _=>rfl) _,by simp⟩
theorem zoV (n:Int) (h:1≤n) (h2:n≤1000000):IntKind.u64.wrap (18446744073709551615-(IntKind.u64.wrap (18446744073709551615 % n+1)).tmod n)=zlj n:=by
 have h1:=Int.emod_nonneg 18446744073709551615 (show n≠0 by omega);have h3:=Int.emod_lt_of_pos 18446744073709551615 (show 0<n by omega);rw[zd4 (18446744073709551615 % n+1),Int.emod_eq_of_lt oM oM,Int.tmod_eq_emod_of_nonneg oM,Int.emod_add_emod];have h4:=Int.emod_nonneg (18446744073709551615+1) (show n≠0 by omega);have h5:=Int.emod_lt_of_pos (18446744073709551615+1) (show 0<n by omega);rw[zd4,Int.emod_eq_of_lt oM (by omega)];rfl
theorem zhQ (b:Nat) (n s:Int) (w:World) (h:Die w b s) (hn:1≤n) (hn2:n≤1000000) :
  Calls prog 138 #[.pointer (some ⟨b,0,none⟩),.int .i64 n] w fun e w'=>e=.returned (.int .i64 (below n s).1)∧Die w' b (below n s).2∧zaX (·=b) w w'∧w'.heap.size=w.heap.size:=by
 go_enter func138,ntmps138;go_wp2;rw[zoV n hn hn2]
 go_loopg [7] (left s) (fun k _ wr=>∃t,left t=k∧Die wr b t∧below n s=below n t∧zaX (·=b) w wr∧wr.heap.size=w.heap.size)
 case atStart=>exact⟨s,rfl,h,rfl,zaX.refl _ _,rfl⟩
 case round =>
  obtain⟨t,hl,hd,hb,hk,hz⟩:=hrel;have HB:=hid hb;have HZ:=hid hz;have HL:=hid hl;clear hb hz hl;by_cases hc:mix (nxt t)≤zlj n
  ·have HT:=hid (ze9 n t hc);have hm:=(zj0 (nxt t)).1
   go_wp2_with fail;refine(zgB b t wr hd).mono ?_;rintro e w1 ⟨rfl,hd1,hk1,hz1⟩;have HZ1:=hid hz1;clear hz1;go_wp2
   go_ret;rw[HB.out,HT.out];have:=Int.emod_lt_of_pos (mix (nxt t)) (show 0<n by omega);have:=Int.emod_nonneg (mix (nxt t)) (show n≠0 by omega);exact⟨zfr (IntWalk.wrap64_in _ ⟨by omega,by omega⟩),hd1,hk.trans hk1,by rw[HZ1.out,HZ.out]⟩
  ·have HT:=hid (ze8 n t hn oM hc);have HW:=hid (zc9 n t hn oM hc);have hc':decide (mix (nxt t)≤zlj n)=false:=by simpa using hc
   go_wp2_with fail;refine(zgB b t wr hd).mono ?_;rintro e w1 ⟨rfl,hd1,hk1,hz1⟩;have HZ1:=hid hz1;clear hz1;go_wp2
   go_roundg (left (nxt t))
   case measure=>rw[←HL.out];exact HW.out
   case rel=>exact⟨_,rfl,hd1,by rw[HB.out,HT.out],hk.trans hk1,by rw[HZ1.out,HZ.out]⟩
theorem Tryz.infoInt:(Tryz.prog.info? 3).map (fun i=>(i.zero,i.size,i.bytes))=some (some (.int .i64 0),1,8):=by kernel_rfl
theorem zgL (n:Nat) (w:World) (h:n≤1000000):(Instr.makeSlice 23 (.int .i64 n) (.int .i64 n)).run prog w=.ok (.slice (some ⟨w.heap.size,0,none⟩) n n) (w.alloc (.cells (cellsOf i64 (List.replicate n 0)) 3)):=by
 obtain⟨i0,hi,hz0,hz1,hz2⟩:=info_parts Tryz.infoInt;have:=run_make (P:=prog) w 23 3 i0 (.int .i64 0) Tryz.underlying23 hi hz0 .i64 .i64 n n oM oM (by rw[hz2];omega) oM;rw[this,hz1];simp only[Int.toNat_natCast,Nat.mul_one,Value.cells];rw[show (#[Value.int .i64 0])=#[i64 0] from rfl,zdA]
theorem zoy (b:Nat) (n:Int) (k:Nat) (s:Int) (w:World) (h:Die w b s) (hn:1≤n) (hn2:n≤1000000) (hk:1≤k) (hk2:k≤65536) :
  Calls prog 87 #[.pointer (some ⟨b,0,none⟩),.int .i64 n,.int .i64 k] w fun e w' =>
   ∃B,w.heap.size≤B∧e=.returned (.slice (some ⟨B,0,none⟩) k k)∧Blk i64 w' B (zaA n k s).1∧Die w' b (zaA n k s).2∧zaX (·=b) w w':=by
 have hmk:=fun w=>zgL k w oM
 go_enter func87,ntmps87;go_wp2
 go_loopg [26] k (fun g i wr=>∃j:Nat,j+g=k∧i=.int .i64 j∧Blk i64 wr w.heap.size ((zaA n j s).1++List.replicate g 0)∧Die wr b (zaA n j s).2∧zaX (·=b) w wr)
 case atStart=>exact⟨0,by omega,rfl,Blk.new _ _ _ _,h.below ((Below.refl _ _).alloc (qH _) _),(zaX.refl _ _).alloc _⟩
 case round =>
  obtain⟨j,hj,rfl,hB,hd,hK⟩:=hrel;have hlen:=za6 n j s;by_cases hlt:j<k
  ·have hjk:=hid hj;clear hj;have hl:=hid hlen;clear hlen
   go_wp2_with fail;refine(zhQ b n _ wr hd hn hn2).mono ?_;rintro e w1 ⟨rfl,hd1,hk1,hz1⟩;have hB1:=hB.kept hk1 (by have:=h.lt;omega);have hZ:=hid hz1;clear hz1 hB;have hll:((zaA n j s).1++List.replicate gk 0).length=k:=by have:=hl.out;have:=hjk.out;simp;omega
   obtain⟨v0,hc⟩:∃v,w1.cell? ⟨w.heap.size,j,none⟩=some v:=⟨_,hB1.cell j oM⟩;have hf:=hB1.free j;have HL:=hid hll;clear hll;go_wp2
   go_roundg (gk-1)
   case measure=>have:=hjk.out;omega
   case rel =>
    refine⟨j+1,by have:=hjk.out;omega,by go_num,?_,?_,?_⟩
    ·have:=hB1.set j (below n (zaA n j s).2).1
     have e:((zaA n j s).1++List.replicate gk 0).set j (below n (zaA n j s).2).1=(zaA n (j+1) s).1++List.replicate (gk-1) 0:=by
      have:=hjk.out;obtain⟨g,rfl⟩:∃g,gk=g+1:=⟨gk-1,by omega⟩;rw[List.set_append_right _ _ (by rw[hl.out];omega),hl.out];simp[zaA,List.replicate_succ]
     rw[e]at this;exact this
    ·exact hd1.other ⟨w.heap.size,j,none⟩ _ (by have:=h.lt;simp;omega)
    ·exact(hK.trans hk1).setCell (p:=⟨w.heap.size,j,none⟩) (fun x=>absurd x (Nat.lt_irrefl _)) _
  ·obtain rfl:j=k:=by omega
   obtain rfl:gk=0:=by omega
   go_wp2
   go_ret;exact⟨w.heap.size,qH _,rfl,by simpa using hB,hd,hK⟩
theorem zm7 (b:Nat) (n:Nat) (s:Int) (w:World) (h:Die w b s) (hn:1≤n) (hn2:n≤65536) :
  Calls prog 92 #[.pointer (some ⟨b,0,none⟩),.int .i64 n] w fun e w' =>
   ∃B,w.heap.size≤B∧e=.returned (.slice (some ⟨B,0,none⟩) n n)∧Blk i64 w' B (zaz n s).1∧Die w' b (zaz n s).2∧zaX (·=b) w w':=by
 have hmk:=fun w=>zgL n w oM
 go_enter func92,ntmps92;go_wp2
 go_loopg [20] n (fun g i wr=>∃j:Nat,j+g=n∧i=.int .i64 j∧Blk i64 wr w.heap.size (zhm j++List.replicate g 0)∧Die wr b s∧zaX (·=b) w wr)
 case atStart=>exact⟨0,by omega,rfl,Blk.new _ _ _ _,h.below ((Below.refl _ _).alloc (qH _) _),(zaX.refl _ _).alloc _⟩
 case round =>
  obtain⟨j,hj,rfl,hB,hd,hK⟩:=hrel;have hlen:=zbW j;by_cases hlt:j<n
  ·have hjk:=hid hj;clear hj;have hl:=hid hlen;clear hlen;have hll:(zhm j++List.replicate gk 0).length=n:=by have:=hl.out;have:=hjk.out;simp;omega
   obtain⟨v0,hc⟩:=hB.has j oM;have hf:=hB.free j;have HL:=hid hll;clear hll;go_wp2
   go_roundg (gk-1)
   case measure=>have:=hjk.out;omega
   case rel =>
    refine⟨j+1,by have:=hjk.out;omega,by go_num,?_,?_,?_⟩
    ·have:=hB.set j (j:Int)
     have e:(zhm j++List.replicate gk 0).set j (j:Int)=zhm (j+1)++List.replicate (gk-1) 0:=by
      have:=hjk.out;obtain⟨g,rfl⟩:∃g,gk=g+1:=⟨gk-1,by omega⟩;rw[List.set_append_right _ _ (by rw[hl.out];omega),hl.out,zhn];simp[List.replicate_succ]
     rw[e]at this;exact this
    ·exact hd.other ⟨w.heap.size,j,none⟩ _ (by have:=h.lt;simp;omega)
    ·exact hK.setCell (p:=⟨w.heap.size,j,none⟩) (fun x=>absurd x (Nat.lt_irrefl _)) _
  ·obtain rfl:j=n:=by omega
   obtain rfl:gk=0:=by omega
   rw[List.replicate_zero,qG]at hB;obtain⟨wo,hwo⟩:∃wo:World,wo=wr:=⟨_,rfl⟩;rw[←hwo]at hB hd hK;subst hwo;go_wp2
   go_loopg [8] (j-1) (fun g i wr=>∃(l:List Int) (t:Int),g<j∧i=.int .i64 g∧Blk i64 wr w.heap.size l∧l.length=j∧Die wr b t∧zca g l t=zaz j s∧zaX (·=b) w wr)
   case atStart=>exact⟨zhm j,s,by omega,by congr 1;omega,hB,hlen,hd,rfl,hK⟩
   case round =>
    obtain⟨l,t,hg,rfl,hB,hlen,hd,ho,hK⟩:=hrel;have HO:=hid ho;have HN:=hid hlen;clear ho hlen;by_cases hlt:1≤gk
    ·go_wp2_with fail;refine(zhQ b _ _ wr hd oM oM).mono ?_;have hr:=zc2 (gk+1) t oM oM;generalize hbe:below (gk+1) t=be at *
     obtain⟨x,t'⟩:=be;obtain⟨r1,r2,r3,r4⟩:=hr;simp only at r1 r2;clear r3 r4;obtain⟨x,rfl⟩:=Int.eq_ofNat_of_zero_le r1;rintro e w1 ⟨rfl,hd1,hk1,hz1⟩;have HZ:=hid hz1;have HBE:=hid hbe;clear hz1 hbe;have hB1:=hB.kept hk1 (by have:=h.lt;omega);have hx:x<l.length:=by have:=HN.out;omega
     have hgl:gk<l.length:=by have:=HN.out;omega
     obtain⟨v,hv⟩:∃v,v=l.getD x 0:=⟨_,rfl⟩;obtain⟨u,hu⟩:∃v,v=l.getD gk 0:=⟨_,rfl⟩;have c1:w1.cell? ⟨w.heap.size,x,none⟩=some (.int .i64 v):=by rw[hv,hB1.cell x hx];simp[hx]
     have c2:w1.cell? ⟨w.heap.size,gk,none⟩=some (.int .i64 u):=by rw[hu,hB1.cell gk hgl];simp[hgl]
     have f1:=hB1.free x;have f2:=hB1.free gk;have hx':x<j:=by omega
     have HV:=hid hv;have HU:=hid hu;clear hv hu hx hgl;obtain⟨v',hy'⟩:=cell?_setCell_some (w:=w1) (p:=⟨w.heap.size,gk,none⟩) (x:=.int .i64 v) (q:=⟨w.heap.size,x,none⟩) (v:=.int .i64 v) c1;go_wp2
     go_region
     all_goals go_wp2
     all_goals go_roundg (gk-1)
     case measure=>omega
     case rel =>
      refine⟨zlD l gk x,t',by omega,by congr 1;omega,?_,by rw[zb3];exact HN.out,?_,?_,?_⟩
      ·have:=((hB1.set gk v).set x u).drew;rw[HV.out,HU.out]at this;rw[HV.out,HU.out];exact this
      ·exact((hd1.other ⟨w.heap.size,gk,none⟩ _ (by have:=h.lt;simp;omega)).other ⟨w.heap.size,x,none⟩ _ (by have:=h.lt;simp;omega)).drew
      ·rw[←HO.out];obtain⟨g,rfl⟩:∃g,gk=g+1:=⟨gk-1,by omega⟩;have hh:=HBE.out;rw[show ((g+1:Nat):Int)+1=(g:Int)+2 by omega]at hh;simp[zca,hh]
      ·exact(((hK.trans hk1).setCell (p:=⟨w.heap.size,gk,none⟩) (fun x=>absurd x (Nat.lt_irrefl _)) _).setCell (p:=⟨w.heap.size,x,none⟩) (fun x=>absurd x (Nat.lt_irrefl _)) _).drew
    ·obtain rfl:gk=0:=by omega
     go_wp2
     go_ret;have:=HO.out;simp only[zca]at this;rw[←this];exact⟨w.heap.size,qH _,rfl,hB,hd,hK⟩
theorem zpC (b:Nat) (s:Int) (w:World) (hc:w.cell? ⟨b,0,none⟩=some (.int .u64 s)) (hf:w.frozen? ⟨b,0,none⟩=false) :
  Calls prog 95 #[.pointer (some ⟨b,0,none⟩)] w fun e w'=>e=.returned (.int .u64 (mix (nxt s)))∧w'=w.setCell ⟨b,0,none⟩ (.int .u64 (nxt s)):=by
 go_enter func95,ntmps95;go_wp2
 go_ret;exact⟨rfl,rfl⟩
theorem zhb (b:Nat) (s:Int) (w:World) (h:Die w b s) :
  Calls prog 95 #[.pointer (some ⟨b,0,none⟩)] w fun e w'=>e=.returned (.int .u64 (mix (nxt s)))∧Die w' b (nxt s)∧zaX (·=b) w w'∧w'.heap.size=w.heap.size:=by
 refine(zpC b s w h.cell h.free).mono ?_;rintro e w' ⟨rfl,rfl⟩;exact⟨rfl,h.set (zdF s).1,(zaX.refl (fun x=>x=b) w).setCell (p:=⟨b,0,none⟩) (fun _=>rfl) _,by simp⟩
theorem zpz (n:Int) (h:1≤n) (h2:n≤1000000):(IntKind.u64.wrap (-n)).tmod n=18446744073709551616 % n:=by
 rw[zd4,show -n % 18446744073709551616=18446744073709551616-n by omega,Int.tmod_eq_emod_of_nonneg oM,Int.sub_emod_right]
theorem zh8 (b:Nat) (n s:Int) (w:World) (h:Die w b s) (hn:1≤n) (hn2:n≤1000000) :
  Calls prog 142 #[.pointer (some ⟨b,0,none⟩),.int .i64 n] w fun e w'=>e=.returned (.int .i64 (below n s).1)∧Die w' b (below n s).2∧zaX (·=b) w w'∧w'.heap.size=w.heap.size:=by
 go_enter func142,ntmps142;go_wp2;rw[zpz n hn hn2];have hR1:=Int.emod_nonneg 18446744073709551616 (show n≠0 by omega);have hR2:=Int.emod_lt_of_pos 18446744073709551616 (show 0<n by omega);have hRl:zlj n=18446744073709551615-18446744073709551616 % n:=rfl;generalize (18446744073709551616:Int) % n=R at *
 have HR:=hid hRl;clear hRl;have hR3:R≤1000000:=by omega
 go_loopg [7] (left s) (fun k _ wr=>∃t,left t=k∧Die wr b t∧below n s=below n t∧zaX (·=b) w wr∧wr.heap.size=w.heap.size)
 case atStart=>exact⟨s,rfl,h,rfl,zaX.refl _ _,rfl⟩
 case round =>
  obtain⟨t,hl,hd,hb,hk,hz⟩:=hrel;have HB:=hid hb;have HZ:=hid hz;have HL:=hid hl;clear hb hz hl;by_cases hc:mix (nxt t)≤zlj n
  ·have HT:=hid (ze9 n t hc);have hm:=(zj0 (nxt t)).1;rw[HR.out]at hc
   go_wp2_with fail;refine(zhb b t wr hd).mono ?_;rintro e w1 ⟨rfl,hd1,hk1,hz1⟩;have HZ1:=hid hz1;clear hz1;go_wp2
   go_ret;rw[HB.out,HT.out];have:=Int.emod_lt_of_pos (mix (nxt t)) (show 0<n by omega);have:=Int.emod_nonneg (mix (nxt t)) (show n≠0 by omega);exact⟨zfr (IntWalk.wrap64_in _ ⟨by omega,by omega⟩),hd1,hk.trans hk1,by rw[HZ1.out,HZ.out]⟩
  ·have HT:=hid (ze8 n t hn oM hc);have HW:=hid (zc9 n t hn oM hc);rw[HR.out]at hc;have hc':decide (mix (nxt t)≤18446744073709551615-R)=false:=by simpa using hc
   go_wp2_with fail;refine(zhb b t wr hd).mono ?_;rintro e w1 ⟨rfl,hd1,hk1,hz1⟩;have HZ1:=hid hz1;clear hz1;go_wp2
   go_roundg (left (nxt t))
   case measure=>rw[←HL.out];exact HW.out
   case rel=>exact⟨_,rfl,hd1,by rw[HB.out,HT.out],hk.trans hk1,by rw[HZ1.out,HZ.out]⟩
theorem znT (b:Nat) (n:Nat) (s:Int) (w:World) (h:Die w b s) (hn:1≤n) (hn2:n≤65536) :
  Calls prog 144 #[.pointer (some ⟨b,0,none⟩),.int .i64 n] w fun e w' =>
   ∃B,w.heap.size≤B∧e=.returned (.slice (some ⟨B,0,none⟩) n n)∧Blk i64 w' B (zaz n s).1∧Die w' b (zaz n s).2∧zaX (·=b) w w':=by
 have hmk:=fun w=>zgL n w oM
 go_enter func144,ntmps144;go_wp2
 go_loopg [6] n (fun g i wr=>∃j:Nat,j+g=n∧i=.int .i64 j∧Blk i64 wr w.heap.size (zhm j++List.replicate g 0)∧Die wr b s∧zaX (·=b) w wr)
 case atStart=>exact⟨0,by omega,rfl,Blk.new _ _ _ _,h.below ((Below.refl _ _).alloc (qH _) _),(zaX.refl _ _).alloc _⟩
 case round =>
  obtain⟨j,hj,rfl,hB,hd,hK⟩:=hrel;have hlen:=zbW j;by_cases hlt:j<n
  ·have hjk:=hid hj;clear hj;have hl:=hid hlen;clear hlen;have hll:(zhm j++List.replicate gk 0).length=n:=by have:=hl.out;have:=hjk.out;simp;omega
   obtain⟨v0,hc⟩:=hB.has j oM;have hf:=hB.free j;have HL:=hid hll;clear hll;go_wp2
   go_roundg (gk-1)
   case measure=>have:=hjk.out;omega
   case rel =>
    refine⟨j+1,by have:=hjk.out;omega,by go_num,?_,?_,?_⟩
    ·have:=hB.set j (j:Int)
     have e:(zhm j++List.replicate gk 0).set j (j:Int)=zhm (j+1)++List.replicate (gk-1) 0:=by
      have:=hjk.out;obtain⟨g,rfl⟩:∃g,gk=g+1:=⟨gk-1,by omega⟩;rw[List.set_append_right _ _ (by rw[hl.out];omega),hl.out,zhn];simp[List.replicate_succ]
     rw[e]at this;exact this
    ·exact hd.other ⟨w.heap.size,j,none⟩ _ (by have:=h.lt;simp;omega)
    ·exact hK.setCell (p:=⟨w.heap.size,j,none⟩) (fun x=>absurd x (Nat.lt_irrefl _)) _
  ·obtain rfl:j=n:=by omega
   obtain rfl:gk=0:=by omega
   rw[List.replicate_zero,qG]at hB;obtain⟨wo,hwo⟩:∃wo:World,wo=wr:=⟨_,rfl⟩;rw[←hwo]at hB hd hK;subst hwo;go_wp2
   go_loopg [7] (j-1) (fun g i wr=>∃(l:List Int) (t:Int),g<j∧i=.int .i64 g∧Blk i64 wr w.heap.size l∧l.length=j∧Die wr b t∧zca g l t=zaz j s∧zaX (·=b) w wr)
   case atStart=>exact⟨zhm j,s,by omega,by congr 1;omega,hB,hlen,hd,rfl,hK⟩
   case round =>
    obtain⟨l,t,hg,rfl,hB,hlen,hd,ho,hK⟩:=hrel;have HO:=hid ho;have HN:=hid hlen;clear ho hlen;by_cases hlt:1≤gk
    ·go_wp2_with fail;refine(zh8 b _ _ wr hd oM oM).mono ?_;have hr:=zc2 (gk+1) t oM oM;generalize hbe:below (gk+1) t=be at *
     obtain⟨x,t'⟩:=be;obtain⟨r1,r2,r3,r4⟩:=hr;simp only at r1 r2;clear r3 r4;obtain⟨x,rfl⟩:=Int.eq_ofNat_of_zero_le r1;rintro e w1 ⟨rfl,hd1,hk1,hz1⟩;have HZ:=hid hz1;have HBE:=hid hbe;clear hz1 hbe;have hB1:=hB.kept hk1 (by have:=h.lt;omega);have hx:x<l.length:=by have:=HN.out;omega
     have hgl:gk<l.length:=by have:=HN.out;omega
     obtain⟨v,hv⟩:∃v,v=l.getD x 0:=⟨_,rfl⟩;obtain⟨u,hu⟩:∃v,v=l.getD gk 0:=⟨_,rfl⟩;have c1:w1.cell? ⟨w.heap.size,x,none⟩=some (.int .i64 v):=by rw[hv,hB1.cell x hx];simp[hx]
     have c2:w1.cell? ⟨w.heap.size,gk,none⟩=some (.int .i64 u):=by rw[hu,hB1.cell gk hgl];simp[hgl]
     have f1:=hB1.free x;have f2:=hB1.free gk;have hx':x<j:=by omega
     have HV:=hid hv;have HU:=hid hu;clear hv hu hx hgl;obtain⟨v',hy'⟩:=cell?_setCell_some (w:=w1) (p:=⟨w.heap.size,gk,none⟩) (x:=.int .i64 v) (q:=⟨w.heap.size,x,none⟩) (v:=.int .i64 v) c1;go_wp2
     go_region
     all_goals go_wp2
     all_goals go_roundg (gk-1)
     case measure=>omega
     case rel =>
      refine⟨zlD l gk x,t',by omega,by congr 1;omega,?_,by rw[zb3];exact HN.out,?_,?_,?_⟩
      ·have:=((hB1.set gk v).set x u).drew;rw[HV.out,HU.out]at this;rw[HV.out,HU.out];exact this
      ·exact((hd1.other ⟨w.heap.size,gk,none⟩ _ (by have:=h.lt;simp;omega)).other ⟨w.heap.size,x,none⟩ _ (by have:=h.lt;simp;omega)).drew
      ·rw[←HO.out];obtain⟨g,rfl⟩:∃g,gk=g+1:=⟨gk-1,by omega⟩;have hh:=HBE.out;rw[show ((g+1:Nat):Int)+1=(g:Int)+2 by omega]at hh;simp[zca,hh]
      ·exact(((hK.trans hk1).setCell (p:=⟨w.heap.size,gk,none⟩) (fun x=>absurd x (Nat.lt_irrefl _)) _).setCell (p:=⟨w.heap.size,x,none⟩) (fun x=>absurd x (Nat.lt_irrefl _)) _).drew
    ·obtain rfl:gk=0:=by omega
     go_wp2
     go_ret;have:=HO.out;simp only[zca]at this;rw[←this];exact⟨w.heap.size,qH _,rfl,hB,hd,hK⟩
theorem zps (b:Nat) (n:Int) (k:Nat) (s:Int) (w:World) (h:Die w b s) (hn:1≤n) (hn2:n≤1000000) (hk2:k≤65536) :
  Calls prog 98 #[.pointer (some ⟨b,0,none⟩),.int .i64 n,.int .i64 k] w fun e w' =>
   ∃v,e=.returned v∧w'.ownsRow w.heap.size 3 1 v k ((zaA n k s).1.map i64)∧Die w' b (zaA n k s).2∧zaX (·=b) w w':=by
 go_enter func98,ntmps98;go_wp2
 go_loopg [7,8] k (fun g v i wr=>∃j:Nat,j+g=k∧i=.int .i64 j∧wr.ownsRow w.heap.size 3 1 v j ((zaA n j s).1.map i64)∧Die wr b (zaA n j s).2∧zaX (·=b) w wr)
 case atStart=>exact⟨0,by omega,rfl,World.ownsRow_nil _ _ _ _,h,zaX.refl _ _⟩
 case round =>
  obtain⟨j,hj,rfl,hown,hd,hK⟩:=hrel;by_cases hlt:j<k
  ·have HJ:=hid hj;clear hj
   go_wp2_with fail;refine(zh8 b n _ wr hd hn hn2).mono ?_;rintro e w1 ⟨rfl,hd1,hk1,hz1⟩;have hbl:=h.lt
   have hown1:w1.ownsRow w.heap.size 3 1 u7 j ((zaA n j s).1.map i64):=by
    refine⟨hown.1,?_⟩;rcases hown.2 with hh | ⟨g,cap,cur,e1,e2,e3,e4⟩
    ·exact .inl hh
    ·exact .inr ⟨g,cap,cur,e1,e2,by rw[hk1.block g (lt_of_block e3) (by omega)];exact e3,e4⟩
   have hsz:w.heap.size≤w1.heap.size:=qI hK.size hk1.size;have HZ:=hid hz1;clear hz1 hown
   go_wp2_with (at_builtin;refine app1 rfl _ _ 23 rfl w.heap.size 3 (.int .i64 0) 8 Tryz.infoInt Tryz.underlying23 rfl _ _ _ rfl hown1 _ rfl rfl oM oM hsz ?_;intro g' cap' w4 hown4 hk4);have hne:∀k,u7.ownBlock=some k→w.heap.size≤k:=fun k e=>(hown1.lt k e).1
   go_roundg (gk-1)
   case measure=>have:=HJ.out;omega
   case rel =>
    refine⟨j+1,by have:=HJ.out;omega,by go_num,by simpa[zaA] using hown4,?_,?_⟩
    ·exact hd1.kept hk4 (fun e=>by have:=hne _ e;omega)
    ·exact(hK.trans hk1).then hk4 (fun i hi e=>by have:=hne _ e;omega)
  ·obtain rfl:k=j:=by omega
   go_wp2
   go_ret;exact⟨_,rfl,hown,hd,hK⟩
theorem PW.of_order {P:Program} {f:FuncId} {args:Array Value} {H:Hp} {b:Nat} {T:TypeId} {s s':Int} {l:List Int} (can:zax P f) (hs:0≤s)
  (h:∀W,Die W b s→Calls P f args W fun e w'=>∃B,W.heap.size≤B∧e=.returned (.slice (some ⟨B,0,none⟩) l.length l.length)∧Blk i64 w' B l∧Die w' b s'∧zaX (·=b) W w') :
  PW P f args H [(b,T,[.int .u64 s])] fun v ow H'=>(∃T',ow=[(b,T',[.int .u64 s'])])∧0≤s'∧IL H' v l∧∃a,v=.slice a l.length l.length:=by
 refine⟨can,fun W hf hg hL hd=>?_⟩;obtain⟨hB,hHb,_⟩:=hL 0 b T _ rfl;refine(h W ⟨hs,T,hB⟩).mono ?_;rintro e W' ⟨B,hBs,rfl,⟨T2,hblk⟩,⟨hs',T',hdie⟩,hk⟩
 have hBn:H B=none:=by
  cases hc:H B with
  | none=>rfl
  | some c=>have:=hf.lt (b:=B) (by rw[hc];simp);omega
 have hbB:b≠B:=by
  have:=hB.lt;omega
 refine⟨_,[(b,T',[.int .u64 s'])],H.put B (cellsOf i64 l),rfl,⟨⟨T',rfl⟩,hs',?_,_,rfl⟩,fun k c hc=>?_,fun k c hc=>?_,fun k c hc=>?_,hk.mono (fun k _ e=>by subst e;exact Ows.bs_mem (j:=0) rfl),fun j b' T1 cs hj=>?_,?_⟩
 ·exact⟨by simp,.inr ⟨B,0,l.length,cellsOf i64 l,rfl,qH _,by simp[Hp.put],fun q x hq=>by rw[Nat.zero_add];simpa[cellsOf] using hq⟩⟩
 ·have:k≠B:=fun e=>by subst e;rw[hBn]at hc;cases hc
  simp only[Hp.put,if_neg this];exact hc
 ·by_cases e:k=B
  ·subst e;simp only[Hp.put,if_true]at hc;cases hc;exact⟨T2,(0,0),hblk⟩
  ·simp only[Hp.put,if_neg e]at hc;obtain⟨T3,fz,hW⟩:=hf k c hc;refine⟨T3,fz,?_⟩;rw[hk.block k (hf.lt (by rw[hc];simp)) (fun e=>by subst e;rw[hHb]at hc;cases hc)];exact hW
 ·by_cases e:k=B
  ·subst e;simp only[Hp.put,if_true]at hc;cases hc;exact .inr ⟨hBs,T2,hblk⟩
  ·simp only[Hp.put,if_neg e]at hc;exact .inl hc
 ·cases j with
  | zero =>
   cases (show some (b,T',[Value.int .u64 s'])=some (b',T1,cs) from hj);exact⟨hdie,.inr (Ows.bs_mem (j:=0) rfl),by simp only[Hp.put,if_neg hbB];exact hHb⟩
  | succ j=>simp at hj
 ·intro j j' b' T1 T2 c1 c2 h1 h2
  cases j with
  | zero=>cases j' with
   | zero=>rfl
   | succ j'=>simp at h2
  | succ j=>simp at h1
theorem PW.of_draw {P:Program} {f:FuncId} {args:Array Value} {H:Hp} {b:Nat} {T E:TypeId} {s s':Int} {l:List Int} (can:zax P f) (hs:0≤s)
  (h:∀W,Die W b s→Calls P f args W fun e w'=>∃v,e=.returned v∧w'.ownsRow W.heap.size E 1 v l.length (l.map i64)∧Die w' b s'∧zaX (·=b) W w') :
  PW P f args H [(b,T,[.int .u64 s])] fun v ow _=>∃T' ow',ow=(b,T',[.int .u64 s'])::ow'∧0≤s'∧zaK E 1 v l.length (l.map i64) ow':=by
 refine⟨can,fun W hf hg hL hd=>?_⟩;obtain⟨hB,hHb,_⟩:=hL 0 b T _ rfl;refine(h W ⟨hs,T,hB⟩).mono ?_;rintro e W' ⟨v,rfl,hrow,⟨hs',T',hdie⟩,hk⟩;obtain⟨ow,how,hlen,hnew⟩:=zeo hrow;have hlt:=hB.lt;refine⟨_,(b,T',[.int .u64 s'])::ow,H,rfl,⟨T',ow,rfl,hs',how⟩,Hp.Le.refl _,fun k c hc=>?_,Nw.refl _ _ _,hk.mono (fun k _ e=>by subst e;exact Ows.bs_mem (j:=0) rfl),fun j b' T1 cs hj=>?_,?_⟩
 ·obtain⟨T3,fz,hW⟩:=hf k c hc;refine⟨T3,fz,?_⟩;rw[hk.block k (hf.lt (by rw[hc];simp)) (fun e=>by subst e;rw[hHb]at hc;cases hc)];exact hW
 ·cases j with
  | zero =>
   cases (show some (b,T',[Value.int .u64 s'])=some (b',T1,cs) from hj);exact⟨hdie,.inr (Ows.bs_mem (j:=0) rfl),hHb⟩
  | succ j =>
   rw[List.getElem?_cons_succ]at hj;obtain⟨h1,h2⟩:=hnew b' T1 cs (qF hj);refine⟨h2,.inl h1,?_⟩
   cases hc:H b' with
   | none=>rfl
   | some c=>have:=hf.lt (b:=b') (by rw[hc];simp);omega
 ·match ow,hlen,hnew with
  | [],_,_ =>
   intro j j' b' T1 T2 c1 c2 h1 h2
   cases j with
   | zero=>cases j' with
    | zero=>rfl
    | succ j'=>simp at h2
   | succ j=>simp at h1
  | [p],_,hnew =>
   obtain⟨g,Tg,cg⟩:=p;have hg':=(hnew g Tg cg (List.mem_singleton.2 rfl)).1;intro j j' b' T1 T2 c1 c2 h1 h2
   match j,j' with
   | 0,0=>rfl
   | 1,1=>rfl
   | 0,1=>simp at h1 h2;omega
   | 1,0=>simp at h1 h2;omega
   | j+2,_=>simp at h1
   | 0,j'+2=>simp at h2
   | 1,j'+2=>simp at h2
theorem zcn (n:Nat) (s:Int):(zaz n s).1.length=n:=by
 unfold zaz;rw[zhD,zbW]
theorem zpD {H:Hp} {b n:Nat} {T:TypeId} {s:Int} (hs:0≤s) (hn:1≤n) (hn2:n≤65536) :
  PW prog 144 #[.pointer (some ⟨b,0,none⟩),.int .i64 (n:Int)] H [(b,T,[.int .u64 s])] fun v ow H'=>(∃T',ow=[(b,T',[.int .u64 (zaz n s).2])])∧0≤(zaz n s).2∧IL H' v (zaz n s).1∧∃a,v=.slice a (zaz n s).1.length (zaz n s).1.length :=
 PW.of_order (cO func144) hs fun W hd=>by
  have:=znT b n s W hd hn hn2;rw[zcn];exact this
theorem zrq {H:Hp} {b n k:Nat} {T:TypeId} {s:Int} (hs:0≤s) (hn:1≤n) (hn2:n≤1000000) (hk:k≤65536) :
  PW prog 98 #[.pointer (some ⟨b,0,none⟩),.int .i64 (n:Int),.int .i64 (k:Int)] H [(b,T,[.int .u64 s])] fun v ow _=>∃T' ow',ow=(b,T',[.int .u64 (zaA n k s).2])::ow'∧0≤(zaA n k s).2∧zaK 3 1 v (zaA n k s).1.length ((zaA n k s).1.map i64) ow' :=
 PW.of_draw (cO func98) hs fun W hd=>by
  have:=zps b n k s W hd oM oM hk;rw[za6];exact this
theorem zrx {H:Hp} {b:Nat} {T:TypeId} {s:Int} (hs:0≤s) :
  PW prog 95 #[.pointer (some ⟨b,0,none⟩)] H [(b,T,[.int .u64 s])] fun v ow _=>v=.int .u64 (mix (nxt s))∧(∃T',ow=[(b,T',[.int .u64 (nxt s)])])∧0≤nxt s:=by
 refine⟨(cO func95),fun W hf hg hL hd=>?_⟩;obtain⟨hB,hHb,_⟩:=hL 0 b T _ rfl;refine(zhb b s W ⟨hs,T,hB⟩).mono ?_;rintro e W' ⟨rfl,⟨hs',T',hdie⟩,hk,_⟩;refine⟨_,[(b,T',[.int .u64 (nxt s)])],H,rfl,⟨rfl,⟨T',rfl⟩,hs'⟩,Hp.Le.refl _,fun k c hc=>?_,Nw.refl _ _ _,hk.mono (fun k _ e=>by subst e;exact Ows.bs_mem (j:=0) rfl),fun j b' T1 cs hj=>?_,?_⟩
 ·obtain⟨T3,fz,hW⟩:=hf k c hc;refine⟨T3,fz,?_⟩;rw[hk.block k (hf.lt (by rw[hc];simp)) (fun e=>by subst e;rw[hHb]at hc;cases hc)];exact hW
 ·cases j with
  | zero =>
   cases (show some (b,T',[Value.int .u64 (nxt s)])=some (b',T1,cs) from hj);exact⟨hdie,.inr (Ows.bs_mem (j:=0) rfl),hHb⟩
  | succ j=>simp at hj
 ·intro j j' b' T1 T2 c1 c2 h1 h2
  cases j with
  | zero=>cases j' with
   | zero=>rfl
   | succ j'=>simp at h2
  | succ j=>simp at h1
def zqv (G:Hp) (st:Option (Int × Rat × Rat)) (cs:List Value):Prop:=match st with
 | none=>cs=znC
 | some (c,t,g)=>∃x y,RQ G x t∧RQ G y g∧cs=.int .i64 c::(zac x++zac y)
theorem zqv.mono {G G':Hp} {st:Option (Int × Rat × Rat)} {cs:List Value} (h:zqv G st cs) (k:G.Le G'):zqv G' st cs:=by
 cases st with
 | none=>exact h
 | some p =>
  obtain⟨x,y,h1,h2,h3⟩:=h;exact⟨x,y,h1.mono k,h2.mono k,h3⟩
theorem zpn {X:List (List Rat)} (h:∀x,x∈X→∀q,q∈x→ht q≤5) {c:Int} {es:List Int} {t:Rat} (ht':t∈plQ X c es):ht t≤100:=by
 by_cases ha:es.all (zcP X c)=true
 ·obtain⟨m,hm,hr⟩:=zkx (zbF X c) es;rw[←zi4 (.inl ⟨ha,hm,hr⟩:zmN X c es m)]at ht';obtain⟨j,_,_,rfl⟩:=zgE ht';exact zsZ h c m j
 ·unfold plQ at ht';rw[if_neg ha]at ht';cases ht'
theorem ztb (X:List (List Rat)) (c:Int) (es:List Int):(plQ X c es).length≤es.length:=by
 unfold plQ;split
 ·have:=zgF (ze1 (es.map (zbF X c))) (es.length-1);omega
 ·exact Nat.zero_le _
theorem zqy {X:List (List Rat)} {cost:List Int→Rat} {es cols:List Int} {L c:Int} {i:Nat} (h:cols[i]?=some c):zaG X cost es L (cols.take (i+1))=zaG X cost es L (cols.take i)++zbG X cost es L c (plQ X c es):=by
 unfold zaG;rw[zah h,List.flatMap_append];simp
theorem zox {X:List (List Rat)} {cost:List Int→Rat} {es:List Int} {L c:Int} {ts:List Rat} {j:Nat} {t:Rat} (h:ts[j]?=some t):zbG X cost es L c (ts.take (j+1))=zbG X cost es L c (ts.take j)++if L≤((zbt X c t es).length:Int)∧L≤((zaE X c t es).length:Int) then [(c,t,cost es-(cost (zbt X c t es)+cost (zaE X c t es)))] else []:=by
 unfold zbG;rw[zah h,List.flatMap_append];simp
theorem zf4 (a b:Rat):zb9 a b>0↔b<a:=by
 unfold zb9;split
 ·rename_i h;exact⟨fun k=>absurd k (by decide),fun k=>by exfalso;grind⟩
 ·split
  ·rename_i h;exact⟨fun _=>h,fun _=>by decide⟩
  ·rename_i h;exact⟨fun k=>absurd k (by decide),fun k=>absurd k h⟩
theorem ziZ (a b:Rat):zb9 a b<0↔a<b:=by
 unfold zb9;split
 ·rename_i h;exact⟨fun _=>h,fun _=>by decide⟩
 ·rename_i h;split
  ·exact⟨fun k=>absurd k (by decide),fun k=>absurd k h⟩
  ·exact⟨fun k=>absurd k (by decide),fun k=>absurd k h⟩
theorem zra (a b:Rat):(zb9 a b == 0)=decide (a=b):=by
 unfold zb9;split
 ·rename_i h;rw[qC (fun e=>by subst e;exact Rat.lt_irrefl h)];rfl
 ·split
  ·rename_i h;rw[qC (fun e=>by subst e;exact Rat.lt_irrefl h)];rfl
  ·rename_i h1 h2;rw[qD (Rat.le_antisymm (Rat.not_lt.1 h2) (Rat.not_lt.1 h1))];rfl
theorem zhP {X:List (List Rat)} {cost:List Int→Rat} {es:List Int} {n:Nat} {L c:Int} {ts:List Rat} (hs:∀l:List Int,l.length≤300→(∀r,r∈l→0≤r∧r<(n:Int))→ht (cost l)≤2000000) (he:es.length≤300) (hb:∀r,r∈es→0≤r∧r<(n:Int)) (hts:∀t,t∈ts→ht t≤100) {p:Int × Rat × Rat} (h:p∈zbG X cost es L c ts):ht p.2.1≤100∧ht p.2.2≤8000000:=by
 unfold zbG at h;obtain⟨t,ht',hp⟩:=List.mem_flatMap.1 h;split at hp
 ·obtain rfl:=List.mem_singleton.1 hp;have h1:=hs _ (qI (List.length_filter_le _ _) he:(zbt X c t es).length≤300) (fun r hr=>hb r (List.mem_filter.mp hr).1);have h2:=hs _ (qI (List.length_filter_le _ _) he:(zaE X c t es).length≤300) (fun r hr=>hb r (List.mem_filter.mp hr).1);have h3:=hs es he hb;have h4:=zd8 (cost (zbt X c t es)) (cost (zaE X c t es));have h5:=zjU (cost es) (cost (zbt X c t es)+cost (zaE X c t es));exact⟨hts t ht',by dsimp only;omega⟩
 ·cases hp
theorem zgk {X:List (List Rat)} {cost:List Int→Rat} {es:List Int} {n:Nat} {L:Int} {cols:List Int} (hs:∀l:List Int,l.length≤300→(∀r,r∈l→0≤r∧r<(n:Int))→ht (cost l)≤2000000) (he:es.length≤300) (hb:∀r,r∈es→0≤r∧r<(n:Int)) (hq:∀x,x∈X→∀q,q∈x→ht q≤5) {p:Int × Rat × Rat} (h:p∈zaG X cost es L cols):ht p.2.1≤100∧ht p.2.2≤8000000:=by
 unfold zaG at h;obtain⟨c,_,hp⟩:=List.mem_flatMap.1 h;exact zhP hs he hb (fun t ht'=>zpn hq ht') hp
theorem znF {H:Hp} {kd cl:Int} {la va:Option Addr} {ln lc vn vc:Nat} {vx vr vcol:Value} {X:List (List Rat)} {rs cols:List Int} {least:Int} {cost:List Int→Rat}
  (hchk:PC prog 45 #[zak kd cl (.slice la ln lc) (.slice va vn vc)] H fun r _=>r=.int .i64 0) (hlen:PV prog 44 #[zak kd cl (.slice la ln lc) (.slice va vn vc)] (.int .i64 (X.length:Int)))
  (hcost:∀G,H.Le G→∀u l,IL G u l→l.length≤300→PC prog 188 #[zak kd cl (.slice la ln lc) (.slice va vn vc),u] G fun r H'=>RQ H' r (cost (exL l X.length)))
  (hsmall:∀l:List Int,l.length≤300→(∀r,r∈l→0≤r∧r<(X.length:Int))→ht (cost l)≤2000000)
  (hX:RLL H vx X) (hq:∀x,x∈X→∀q,q∈x→ht q≤5) (hr:IL H vr rs) (hn:rs.length≤300) (hc:IL H vcol cols) (hcn:cols.length≤1000) :
  PC prog 145 #[zak kd cl (.slice la ln lc) (.slice va vn vc),vx,vr,vcol,.int .i64 least] H fun r H'=>∃cs,zqv H' ((zaG X cost (exL rs X.length) (max 1 least) cols).foldl zf5 none) cs∧r=.tuple #[.agg cs.toArray,.bool ((zaG X cost (exL rs X.length) (max 1 least) cols).foldl zf5 none).isSome]:=by
 have hel:=zbm rs X.length;have heb:=zcO (rs:=rs) (n:=X.length);have hrq:∀x,x∈X→∀q,q∈x→rq q:=fun x hx q hm=>qI (hq x hx q hm) oM;obtain⟨ra,rc,rfl⟩:=SlC.val hr;obtain⟨xa,xc,rfl⟩:=hX.val;obtain⟨ca,cc,rfl⟩:=SlC.val hc;refine BD func145 ntmps145 ?_
 repeat (first|refine RUN ?_|refine CV (hchk) ?_|refine CV (hlen) ?_|refine CE (hchk) ?_|refine CE (hlen) ?_)
 rw[show ((X.length:Int) != (X.length:Int))=false from bne_self_eq_false _];refine uR ?_;refine vA (hcost _ (Hp.Le.refl _) _ _ hr hn) ?_;intro rall G1 hall hG1;obtain⟨wa,wl,wc,za,zl,zc,rfl,hw1,hw2⟩:=id hall;have hsa:=hsmall (exL rs X.length) oM heb;refine uR ?_;refine EV.loopK (ι:=Nat × List Value) [1,2,3,4,5,10,12,14] [5,10,14] (fun q=>[(13,.v (.bool ((zaG X cost (exL rs X.length) (max 1 least) (cols.take q.1)).foldl zf5 none).isSome)),(15,.v (.int .i64 (q.1:Int)))]) (fun q=>[(12,226,q.2)]) (fun _=>[]) (fun q G=>q.1≤cols.length∧zqv G ((zaG X cost (exL rs X.length) (max 1 least) (cols.take q.1)).foldl zf5 none) q.2) (fun q=>cols.length-q.1) ((0,znC)) rfl rfl ⟨rfl,rfl,trivial⟩ ⟨rfl,trivial⟩ rfl (fun _=>rfl) (⟨Nat.zero_le _,rfl⟩) ?_;rintro⟨i,cs⟩ G2 hG2 ⟨hi,hcs⟩;dsimp only at hi hcs;refine uR ?_;refine EV.cond rfl (fun hlt=>?_) (fun hlt=>?_)
 ·simp only[nN]at hlt;obtain⟨c,hci⟩:=gE hlt;have hH2:=hG1.trans hG2;have hsn:=zqy (X:=X) (cost:=cost) (es:=exL rs X.length) (L:=max 1 least) hci;have hplh:∀t,t∈plQ X c (exL rs X.length)→ht t≤100:=fun t hm=>zpn hq hm;refine uR ?_;refine vI ((hc.mono hH2)) (i) (rfl) (hlt) ((by rw[List.getElem?_map,hci];rfl)) ?_;refine uR ?_;refine vA (zkl (col:=c) (hX.mono hH2) (hr.mono hH2) hn hq) ?_;intro rp G3 hP hG3;have hpll:(plQ X c (exL rs X.length)).length≤300:=by have:=ztb X c (exL rs X.length);omega
  generalize plQ X c (exL rs X.length)=P at *
  obtain⟨pa,pc,rfl⟩:=hP.val;refine uR ?_;refine EV.loopK (ι:=Nat × List Value) [1,2,3,4,5,10,12,14,15,16] [5,10,14] (fun q=>[(13,.v (.bool ((zaG X cost (exL rs X.length) (max 1 least) (cols.take i)++zbG X cost (exL rs X.length) (max 1 least) c (P.take q.1)).foldl zf5 none).isSome)),(17,.v (.int .i64 (q.1:Int)))]) (fun q=>[(12,226,q.2)]) (fun _=>[]) (fun q G=>q.1≤P.length∧zqv G ((zaG X cost (exL rs X.length) (max 1 least) (cols.take i)++zbG X cost (exL rs X.length) (max 1 least) c (P.take q.1)).foldl zf5 none) q.2) (fun q=>P.length-q.1) ((0,cs)) rfl rfl ⟨by rw[show zbG X cost (exL rs X.length) (max 1 least) c (P.take 0)=[] from rfl,qG];rfl,rfl,trivial⟩ ⟨rfl,trivial⟩ rfl (fun _=>rfl) (⟨Nat.zero_le _,by rw[show zbG X cost (exL rs X.length) (max 1 least) c (P.take 0)=[] from rfl,qG];exact hcs.mono hG3⟩) ?_;rintro⟨j,cs2⟩ G4 hG4 ⟨hj,hcs2⟩;dsimp only at hj hcs2;refine uR ?_;refine EV.cond rfl (fun hlj=>?_) (fun hlj=>?_)
  ·simp only[nN]at hlj;obtain⟨t,htj⟩:=gE hlj;have hth:=hplh t (qF htj);have hsn2:=zox (X:=X) (cost:=cost) (es:=exL rs X.length) (L:=max 1 least) (c:=c) htj;have hP4:=hP.mono hG4;have hH4:=hH2.trans (hG3.trans hG4);have hc4:=hc.mono hH4;obtain⟨vs,y,hs,hcy,hy⟩:=hP4.at htj;obtain⟨ya,yl,yc,yb,ym,yd,rfl,hy1,hy2⟩:=id hy;have wn:IntKind.i64.wrap ((j:Int)+1)=((j+1:Nat):Int):=zab j oM;refine uR ?_;apply EV.drawn 15 kR kR;intro xv yw;(repeat refine' DD ?_);refine' vJ (hc4) (i) (rfl) (hlt) ((by rw[List.getElem?_map,hci];rfl)) ?_;rotate_left;(repeat refine' DD ?_);refine' DJ.idxM tO rfl rfl rfl rfl rfl rfl rfl rfl rfl (hs) (j) (rfl) (hlj) (hcy) ?_;rotate_left;(repeat refine' DD ?_);refine' vB (cO func147) (fun G hG hd=>zg6 (col:=c) (t:=t) ((hX.mono hH4).mono hG) ((hr.mono hH4).mono hG) oM hrq (RQ.mono hy hG) (qI hth oM)) (fun _ _ _ h k=>(by obtain⟨u,w,e,hu,hw⟩:=h;exact⟨u,w,e,hu.mono k,hw.mono k⟩)) ?_;rotate_left;refine' DJ.copy (10) (by first|exact .inl rfl|exact .inr rfl) rfl rfl rfl id rfl kR ?_;rotate_left;refine' DJ.extract (10) rfl rfl rfl rfl rfl kR (fun G hd=>(by obtain⟨u,w,e,_⟩:=hd.head kR;exact⟨_,e,Nat.zero_lt_succ _⟩)) ?_;rotate_left;refine' DJ.extract (10) rfl rfl rfl rfl rfl kR (fun G hd=>(by obtain⟨u,w,e,_⟩:=hd.head kR;exact⟨_,e,Nat.lt_succ_self _⟩)) ?_;rotate_left;refine' DJ.copy (10) (.inr rfl) rfl rfl rfl (zcD 0) rfl kR ?_;rotate_left;(refine DJ.nil (fun G hG hF=>?_);(case hS|hS2=>rfl));obtain⟨⟨u,w,e,hu,hw⟩,_⟩:=hF;rw[e];obtain⟨ua,uc,rfl⟩:=SlC.val hu;obtain⟨wa',wc',rfl⟩:=SlC.val hw;rw[show zcD 0 (Value.tuple #[.slice ua (zbt X c t (exL rs X.length)).length uc,.slice wa' (zaE X c t (exL rs X.length)).length wc'])=.slice ua (zbt X c t (exL rs X.length)).length uc from rfl,show zcD 1 (Value.tuple #[.slice ua (zbt X c t (exL rs X.length)).length uc,.slice wa' (zaE X c t (exL rs X.length)).length wc'])=.slice wa' (zaE X c t (exL rs X.length)).length wc' from rfl];refine uR ?_;rw[show (if least>1 then least else 1)=max 1 least by omega];have hlo3:(zbt X c t (exL rs X.length)).length≤300:=qI (List.length_filter_le _ _) oM;have hhi3:(zaE X c t (exL rs X.length)).length≤300:=qI (List.length_filter_le _ _) oM;have hlom:∀r,r∈zbt X c t (exL rs X.length)→0≤r∧r<(X.length:Int):=fun r hr=>heb r (List.mem_filter.mp hr).1;have hhim:∀r,r∈zaE X c t (exL rs X.length)→0≤r∧r<(X.length:Int):=fun r hr=>heb r (List.mem_filter.mp hr).1;have hxl:exL (zbt X c t (exL rs X.length)) X.length=zbt X c t (exL rs X.length):=zdy hlom;have hxh:exL (zaE X c t (exL rs X.length)) X.length=zaE X c t (exL rs X.length):=zdy hhim;generalize hlodef:zbt X c t (exL rs X.length)=lo at *
   generalize hhidef:zaE X c t (exL rs X.length)=hi' at *
   generalize hLdef:max 1 least=L at *
   by_cases hclo:(lo.length:Int)<L
   ·rw[qD hclo];rw[if_neg oM,qG]at hsn2;refine uR ?_;refine⟨(j+1,cs2),⟨by dsimp only;rw[hsn2];rfl,by dsimp only;rw[wn];rfl,trivial⟩,sB,⟨rfl,trivial⟩,sB,rfl,⟨hlj,by rw[hsn2];exact hcs2.mono hG⟩,hG,by dsimp only;omega⟩
   rw[qC hclo];refine uR ?_;rw[show (if least>1 then least else 1)=L by omega];by_cases hchi:(hi'.length:Int)<L
   ·rw[qD hchi];rw[if_neg oM,qG]at hsn2;refine uR ?_;refine⟨(j+1,cs2),⟨by dsimp only;rw[hsn2];rfl,by dsimp only;rw[wn];rfl,trivial⟩,sB,⟨rfl,trivial⟩,sB,rfl,⟨hlj,by rw[hsn2];exact hcs2.mono hG⟩,hG,by dsimp only;omega⟩
   rw[qC hchi];rw[if_pos ⟨by omega,by omega⟩]at hsn2;have hH5:=hH4.trans hG;have hc5:=hc.mono hH5;have hs5:=hs.mono hG;have hy5:=RQ.mono hy hG;have hal5:=RQ.mono hall (hG2.trans (hG3.trans (hG4.trans hG)));have hslo:=hsmall lo hlo3 hlom;have hshi:=hsmall hi' hhi3 hhim;have hclo5:∀G',G.Le G'→PC prog 188 #[zak kd cl (.slice la ln lc) (.slice va vn vc),.slice ua lo.length uc] G' fun r H'=>RQ H' r (cost lo):=fun G' k=>by have:=hcost G' (hH5.trans k) _ _ (hu.mono k) hlo3;rwa [hxl]at this
   have hchi5:∀G',G.Le G'→PC prog 188 #[zak kd cl (.slice la ln lc) (.slice va vn vc),.slice wa' hi'.length wc'] G' fun r H'=>RQ H' r (cost hi'):=fun G' k=>by have:=hcost G' (hH5.trans k) _ _ (hw.mono k) hhi3;rwa [hxh]at this
   have hsum:rq (cost lo+cost hi'):=by have:=zd8 (cost lo) (cost hi');unfold rq;omega
   have hgr:rq (cost (exL rs X.length)-(cost lo+cost hi')):=by have h1:=zd8 (cost lo) (cost hi');have h2:=zjU (cost (exL rs X.length)) (cost lo+cost hi');unfold rq;omega
   refine uR ?_;apply EV.drawn 19 kR kR;intro xv yw;(repeat refine' DD ?_);refine' vJ (hc5) (i) (rfl) (hlt) ((by rw[List.getElem?_map,hci];rfl)) ?_;rotate_left;(repeat refine' DD ?_);refine' DJ.idxM tO rfl rfl rfl rfl rfl rfl rfl rfl rfl (hs5) (j) (rfl) (hlj) (hcy) ?_;rotate_left;(repeat refine' DD ?_);refine' vB (cO func188) (fun G hG hd=>hclo5 G hG) (fun _ _ _ h k=>RQ.mono h k) ?_;rotate_left;(repeat refine' DD ?_);refine' vB (cO func188) (fun G hG hd=>hchi5 G hG) (fun _ _ _ h k=>RQ.mono h k) ?_;rotate_left;(repeat refine' DD ?_);refine' vB (cO func194) (fun G hG hd=>zdH (hd.tail.head kR) (hd.head kR) (by unfold rq;omega) (by unfold rq;omega)) (fun _ _ _ h k=>RQ.mono h k) ?_;rotate_left;(repeat refine' DD ?_);refine' vB (cO func193) (fun G hG hd=>zg7 (hal5.mono hG) (hd.head kR) (by unfold rq;omega) hsum) (fun _ _ _ h k=>RQ.mono h k) ?_;rotate_left;refine' DJ.fnP tO (16) (fun v=>Value.agg (Value.int IntKind.i64 c::(([Value.bool (decide (t.num<0)),Value.slice ya yl yc,Value.slice yb ym yd]:List Value)++zac v)).toArray) rfl rfl rfl kR (fun G hd=>(by obtain⟨sa,sl,sc,ta,tl,tc,e,_⟩:=(show RQ G (xv 16) (cost (exL rs X.length)-(cost lo+cost hi')) from hd.head kR);rw[show xv (0+1+1+1+1+1+1+1+1+1+1+1+1+1+1+1+1)=xv 16 from rfl,e];rfl)) ?_;rotate_left;(repeat refine' DD ?_);(refine DJ.nil (fun G7 hG7 hF7=>?_);(case hS|hS2=>rfl));obtain⟨h16,_⟩:=hF7;have hg16:RQ G7 (xv 16) (cost (exL rs X.length)-(cost lo+cost hi')):=h16;obtain⟨sa,sl,sc,ta,tl,tc,e16,_⟩:=id hg16;have e16':xv (0+1+1+1+1+1+1+1+1+1+1+1+1+1+1+1+1)=_:=e16;rw[e16'];rw[e16]at hg16;rw[show (Value.agg (Value.int .i64 c::(([Value.bool (decide (t.num<0)),Value.slice ya yl yc,Value.slice yb ym yd]:List Value)++zac (.agg #[.bool (decide ((cost (exL rs X.length)-(cost lo+cost hi')).num<0)),.slice sa sl sc,.slice ta tl tc]))).toArray)=.agg #[.int .i64 c,.bool (decide (t.num<0)),.slice ya yl yc,.slice yb ym yd,.bool (decide ((cost (exL rs X.length)-(cost lo+cost hi')).num<0)),.slice sa sl sc,.slice ta tl tc] from rfl];refine uR ?_;have hst:zqv G7 (List.foldl zf5 none (zaG X cost (exL rs X.length) L (cols.take i)++zbG X cost (exL rs X.length) L c (P.take j))) cs2:=hcs2.mono (hG.trans hG7);have hnew:List.foldl zf5 none (zaG X cost (exL rs X.length) L (cols.take i)++zbG X cost (exL rs X.length) L c (P.take (j+1)))=zf5 (List.foldl zf5 none (zaG X cost (exL rs X.length) L (cols.take i)++zbG X cost (exL rs X.length) L c (P.take j))) (c,t,cost (exL rs X.length)-(cost lo+cost hi')):=by rw[hsn2,←List.append_assoc,List.foldl_append];rfl
   have hstp:∀p,List.foldl zf5 none (zaG X cost (exL rs X.length) L (cols.take i)++zbG X cost (exL rs X.length) L c (P.take j))=some p→ht p.2.1≤100∧ht p.2.2≤8000000:=fun p e=>by
    have hf:=zcU (zaG X cost (exL rs X.length) L (cols.take i)++zbG X cost (exL rs X.length) L c (P.take j));rw[e]at hf;rcases List.mem_append.1 hf.1 with hm | hm
    ·exact zgk hsmall oM heb hq hm
    ·exact zhP hsmall oM heb (fun t hm=>hplh t (List.mem_of_mem_take hm)) hm
   generalize List.foldl zf5 none (zaG X cost (exL rs X.length) L (cols.take i)++zbG X cost (exL rs X.length) L c (P.take j))=st at *
   cases st with
   | none =>
    have hcs':cs2=znC:=hst;subst hcs';apply EV.drawn 4 kR kR;intro xv yw;(repeat refine' DD ?_);refine' vB (cO func195) (fun G hG hd=>znc) (fun _ _ _ h k=>RQ.mono h k) ?_;rotate_left;(repeat refine' DD ?_);(refine DJ.nil (fun G8 hG8 hF8=>?_);(case hS|hS2=>rfl));obtain⟨h3,_⟩:=hF8;refine uR ?_;refine vA (zbA (RQ.mono hg16 hG8) h3 hgr (by unfold rq;rw[zbR];decide)) ?_;rintro _ G9 rfl hG9;refine uR ?_;refine⟨(j+1,[.int .i64 c,.bool (decide (t.num<0)),.slice ya yl yc,.slice yb ym yd,.bool (decide ((cost (exL rs X.length)-(cost lo+cost hi')).num<0)),.slice sa sl sc,.slice ta tl tc]),⟨by dsimp only;rw[hnew];rfl,by dsimp only;rw[wn];rfl,trivial⟩,sB,⟨rfl,trivial⟩,sB,rfl,⟨hlj,by rw[hnew];exact⟨_,_,RQ.mono hy5 (hG7.trans (hG8.trans hG9)),RQ.mono hg16 (hG8.trans hG9),rfl⟩⟩,hG.trans (hG7.trans (hG8.trans hG9)),by dsimp only;omega⟩
   | some p =>
    obtain⟨c1,t1,g1⟩:=p;obtain⟨hts,hgs⟩:=hstp _ rfl;dsimp only at hts hgs;obtain⟨x1,y1,hx1',hy1',rfl⟩:=hst;obtain⟨pa1,pl1,pc1,pb1,pm1,pd1,rfl,hp1,hp2⟩:=id hx1';obtain⟨qa1,ql1,qc1,qb1,qm1,qd1,rfl,hp3,hp4⟩:=id hy1';apply EV.drawn 4 kR kR;intro xv yw;(repeat refine' DD ?_);refine' vB (cO func195) (fun G hG hd=>znd (hy1'.mono hG)) (fun _ _ _ h k=>RQ.mono h k) ?_;rotate_left;(repeat refine' DD ?_);(refine DJ.nil (fun G8 hG8 hF8=>?_);(case hS|hS2=>rfl));obtain⟨h3,_⟩:=hF8;refine uR ?_;refine vA (zbA (RQ.mono hg16 hG8) h3 hgr (by unfold rq;omega)) ?_;rintro _ G9 rfl hG9;have hpx:=RQ.mono hx1' (hG8.trans hG9);have hpt:=RQ.mono hy5 (hG7.trans (hG8.trans hG9));generalize hgdef:cost (exL rs X.length)-(cost lo+cost hi')=g at *
    have hT:zkg (c,t,g) (c1,t1,g1)→zf5 (some (c1,t1,g1)) (c,t,g)=some (c,t,g):=fun k=>if_pos k;have hK:¬zkg (c,t,g) (c1,t1,g1)→zf5 (some (c1,t1,g1)) (c,t,g)=some (c1,t1,g1):=fun k=>if_neg k;refine uR ?_;by_cases hgt:g1<g
    ·rw[qD ((zf4 g g1).2 hgt)];rw[hT (.inl hgt)]at hnew;refine uR ?_;refine⟨(j+1,[.int .i64 c,.bool (decide (t.num<0)),.slice ya yl yc,.slice yb ym yd,.bool (decide (g.num<0)),.slice sa sl sc,.slice ta tl tc]),⟨by dsimp only;rw[hnew];rfl,by dsimp only;rw[wn];rfl,trivial⟩,sB,⟨rfl,trivial⟩,sB,rfl,⟨hlj,by rw[hnew];exact⟨_,_,hpt.mono (Hp.Le.refl _),(RQ.mono hg16 (hG8.trans hG9)).mono (Hp.Le.refl _),rfl⟩⟩,(hG.trans (hG7.trans (hG8.trans hG9))).trans (Hp.Le.refl _),by dsimp only;omega⟩
    rw[qC (fun k=>hgt ((zf4 g g1).1 k))];refine uR ?_;rw[zra];by_cases heq:g=g1
    ·rw[qD heq];refine uR ?_;by_cases hc1:c<c1
     ·rw[qD hc1];rw[hT (.inr ⟨heq,.inl hc1⟩)]at hnew;refine uR ?_;refine⟨(j+1,[.int .i64 c,.bool (decide (t.num<0)),.slice ya yl yc,.slice yb ym yd,.bool (decide (g.num<0)),.slice sa sl sc,.slice ta tl tc]),⟨by dsimp only;rw[hnew];rfl,by dsimp only;rw[wn];rfl,trivial⟩,sB,⟨rfl,trivial⟩,sB,rfl,⟨hlj,by rw[hnew];exact⟨_,_,hpt.mono (Hp.Le.refl _),(RQ.mono hg16 (hG8.trans hG9)).mono (Hp.Le.refl _),rfl⟩⟩,(hG.trans (hG7.trans (hG8.trans hG9))).trans (Hp.Le.refl _),by dsimp only;omega⟩
     rw[qC hc1];refine uR ?_;by_cases hc2:c=c1
     ·rw[show (c == c1)=true from beq_iff_eq.2 hc2];refine uR ?_;refine vA (zbA hpt hpx (by unfold rq;omega) (by unfold rq;omega)) ?_;rintro _ G10 rfl hG10;refine uR ?_;by_cases htt:t<t1
      ·rw[qD ((ziZ t t1).2 htt)];rw[hT (.inr ⟨heq,.inr ⟨hc2,htt⟩⟩)]at hnew;refine uR ?_;refine⟨(j+1,[.int .i64 c,.bool (decide (t.num<0)),.slice ya yl yc,.slice yb ym yd,.bool (decide (g.num<0)),.slice sa sl sc,.slice ta tl tc]),⟨by dsimp only;rw[hnew];rfl,by dsimp only;rw[wn];rfl,trivial⟩,sB,⟨rfl,trivial⟩,sB,rfl,⟨hlj,by rw[hnew];exact⟨_,_,hpt.mono hG10,(RQ.mono hg16 (hG8.trans hG9)).mono hG10,rfl⟩⟩,(hG.trans (hG7.trans (hG8.trans hG9))).trans hG10,by dsimp only;omega⟩
      rw[qC (fun k=>htt ((ziZ t t1).1 k))];rw[hK (fun k=>by rcases k with k | ⟨_,k | ⟨_,k⟩⟩ <;> contradiction)]at hnew;refine uR ?_;refine⟨(j+1,[.int .i64 c1,.bool (decide (t1.num<0)),.slice pa1 pl1 pc1,.slice pb1 pm1 pd1,.bool (decide (g1.num<0)),.slice qa1 ql1 qc1,.slice qb1 qm1 qd1]),⟨by dsimp only;rw[hnew];rfl,by dsimp only;rw[wn];rfl,trivial⟩,sB,⟨rfl,trivial⟩,sB,rfl,⟨hlj,by rw[hnew];exact⟨_,_,hpx.mono hG10,(RQ.mono hy1' (hG8.trans hG9)).mono hG10,rfl⟩⟩,(hG.trans (hG7.trans (hG8.trans hG9))).trans hG10,by dsimp only;omega⟩
     rw[show (c == c1)=false from beq_eq_false_iff_ne.2 hc2];rw[hK (fun k=>by rcases k with k | ⟨_,k | ⟨k,_⟩⟩ <;> contradiction)]at hnew;refine uR ?_;refine⟨(j+1,[.int .i64 c1,.bool (decide (t1.num<0)),.slice pa1 pl1 pc1,.slice pb1 pm1 pd1,.bool (decide (g1.num<0)),.slice qa1 ql1 qc1,.slice qb1 qm1 qd1]),⟨by dsimp only;rw[hnew];rfl,by dsimp only;rw[wn];rfl,trivial⟩,sB,⟨rfl,trivial⟩,sB,rfl,⟨hlj,by rw[hnew];exact⟨_,_,hpx.mono (Hp.Le.refl _),(RQ.mono hy1' (hG8.trans hG9)).mono (Hp.Le.refl _),rfl⟩⟩,(hG.trans (hG7.trans (hG8.trans hG9))).trans (Hp.Le.refl _),by dsimp only;omega⟩
    rw[qC heq];rw[hK (fun k=>by rcases k with k | ⟨k,_⟩ <;> contradiction)]at hnew;refine uR ?_;refine⟨(j+1,[.int .i64 c1,.bool (decide (t1.num<0)),.slice pa1 pl1 pc1,.slice pb1 pm1 pd1,.bool (decide (g1.num<0)),.slice qa1 ql1 qc1,.slice qb1 qm1 qd1]),⟨by dsimp only;rw[hnew];rfl,by dsimp only;rw[wn];rfl,trivial⟩,sB,⟨rfl,trivial⟩,sB,rfl,⟨hlj,by rw[hnew];exact⟨_,_,hpx.mono (Hp.Le.refl _),(RQ.mono hy1' (hG8.trans hG9)).mono (Hp.Le.refl _),rfl⟩⟩,(hG.trans (hG7.trans (hG8.trans hG9))).trans (Hp.Le.refl _),by dsimp only;omega⟩
  ·simp only[nN]at hlj;obtain rfl:j=P.length:=by omega
   rw[List.take_length,←hsn]at hcs2 ⊢;refine uR ?_;refine⟨(i+1,cs2),⟨rfl,by rw[zab i (by omega)];rfl,trivial⟩,sB,⟨rfl,trivial⟩,sB,rfl,⟨hlt,hcs2⟩,hG3.trans hG4,by dsimp only;omega⟩
 ·simp only[nN]at hlt;obtain rfl:i=cols.length:=by omega
  rw[List.take_length]at hcs ⊢;generalize (zaG X cost (exL rs X.length) (max 1 least) cols).foldl zf5 none=st at *
  cases st with
  | none =>
   have hcs':cs=znC:=hcs;subst hcs';refine uR ?_;exact⟨znC,rfl,rfl⟩
  | some p =>
   obtain⟨c,t,g⟩:=p;obtain⟨x,y,h1,h2,rfl⟩:=hcs;obtain⟨xa,xl,xc,ya,yl,yc,rfl,hx1,hx2⟩:=id h1;obtain⟨xa',xl',xc',ya',yl',yc',rfl,hx3,hx4⟩:=id h2;refine uR ?_;exact⟨_,⟨_,_,h1,h2,rfl⟩,rfl⟩
section
variable {P:Program} {ops:Array Oper} {md:Region.Mode} {Q:Exit→Act→World→Prop} {I:World→Prop} {z:Option Nat}
def zqo (md:Region.Mode) (ops:Array Oper) (L:Array Bool) (i:Nat):Bool:=(List.range ops.size).all fun k => !L.getD k false || match ops[k]? with
 | some o => !o.after.any fun e=>Region.binds md e && e.on == i
 | none=>true
theorem zjr {L:Array Bool} {i:Nat}:zqo md ops L i=true↔∀k o,ops[k]?=some o→L.getD k false=true→∀e∈o.after,Region.binds md e=true→e.on≠i:=by
 unfold zqo;rw[List.all_eq_true];constructor
 ·intro h k o ho hk e he hb heq;have h1:=h k (List.mem_range.2 (Array.getElem?_eq_some_iff.1 ho).1);rw[hk,ho]at h1;simp only[Bool.not_true,Bool.false_or,Bool.not_eq_true',Array.any_eq_false']at h1;have:=h1 e he;simp[hb,heq]at this
 ·intro h k hk
  cases hL:L.getD k false with
  | false=>rfl
  | true =>
   obtain⟨o,ho⟩:∃o,ops[k]?=some o:=⟨_,Array.getElem?_eq_getElem (List.mem_range.1 hk)⟩;rw[ho];simp only[Bool.not_true,Bool.false_or,Bool.not_eq_true',Array.any_eq_false'];intro e he
   cases hb:Region.binds md e with
   | false=>simp
   | true=>have:=h k o ho hL e he hb;simpa using this
def zeU (z:Option Nat) (L:Array Bool):Bool:=match z with
 | none=>true
 | some k => !L.getD k false
def zux (md:Region.Mode) (ops:Array Oper) (z:Option Nat) (i:Nat):Bool:=match z with
 | none=>true
 | some k => !(k == i) && match ops[k]? with
  | some o=>o.after.any fun e=>Region.binds md e && e.on == i
  | none=>false
def zdN (P:Program) (md:Region.Mode) (ops:Array Oper) (Q:Exit→Act→World→Prop) (I:World→Prop) (z:Option Nat):Nat→Array Bool→Act→World→Prop
 | 0,L,a,w=>(zeU z L=true→I w)∧Region.ready md ops L=[]∧Q .normal a w
 | f+1,L,a,w=>(zeU z L=true→I w)∧(Region.ready md ops L=[]→Q .normal a w)∧∀i,i∈Region.ready md ops L→wpOp P ops Q i (zdN P md ops Q I z f (L.setIfInBounds i true)) a w
theorem zdN.now:∀{f:Nat} {L:Array Bool} {a:Act} {w:World},zdN P md ops Q I z f L a w→zeU z L=true→I w
 | 0,_,_,_,h=>h.1
 | _+1,_,_,_,h=>h.1
theorem zdN.any:∀(f:Nat) (L:Array Bool) (a:Act) (w:World),zdN P md ops Q I z f L a w→wpAny P md ops Q f L a w
 | 0,_,_,_,h=>h.2
 | f+1,_,_,_,h=>⟨h.2.1,fun i hi=>wpOp_mono (fun a w k=>zdN.any f _ a w k) (h.2.2 i hi)⟩
def ziw (P:Program) (ops:Array Oper) (I:World→Prop) (o:Oper) (v:Value) (a:Act):Prop :=
 Region.wanted o (yielded ops a.tmps)=true∧∀w,I w→(execOp a.eval o).run P w=.ok (.value v) w
theorem ziw.op {i:Nat} {o:Oper} {v:Value} {a:Act} (hi:ops[i]?=some o) (hy:ziw P ops I o v a) {K:Act→World→Prop} {w:World} (hw:I w) (h:K (a.put o.dst v) w):wpOp P ops Q i K a w:=by
 unfold wpOp;simp only[hi,hy.1,if_true,Oper.wp,hy.2 w hw,Oper.upon];exact .inl h
theorem zqj {j:Nat} {oj:Oper} (hj:ops[j]?=some oj) {Y:Act→Prop} (k1:∀a u,Y a→Y (a.put oj.dst u)) (k2:∀(a:Act) d,Y a→Y { a with defers:=d::a.defers }) {K:Act→World→Prop} {a:Act} {w:World} (hy:Y a) (h:wpOp P ops Q j K a w):wpOp P ops Q j (fun a' w'=>Y a'∧K a' w') a w:=by
 unfold wpOp at *
 simp only[hj]at *
 split
 ·rename_i hw;rw[if_pos hw]at h;refine h.imp (fun h=>?_) id;unfold Oper.wp at *
  generalize (execOp a.eval oj).run P w=r at *
  cases r with
  | ok n w' =>
   cases n <;> simp only[Oper.upon]at h ⊢
   case value u=>exact⟨k1 _ _ hy,h⟩
   case skip=>exact⟨k1 _ _ hy,h⟩
   case defer d=>exact⟨k1 _ _ (k2 _ _ hy),h⟩
   case enter f args =>
    refine Calls.mono h fun e w'' he=>?_
    cases e with
    | returned u=>exact⟨k1 _ _ hy,he⟩
    | _=>exact he
   case row row args=>exact Rows.mono h fun u w'' he=>⟨k1 _ _ hy,he⟩
  | halt x w'=>cases x <;> simp only[Oper.upon]at h ⊢ <;> exact h
 ·rename_i hw;rw[if_neg hw]at h;exact⟨k1 _ _ hy,h⟩
theorem zm9 {oi oj:Oper} {v:Value} (h:oi.apart ops oj=true):Oper.apart ops { oi with op:=.move (.const v),guard:=none } oj=true:=by
 unfold Oper.apart at *
 rw[Bool.and_eq_true]at *
 refine⟨h.1,?_⟩
 cases oj.dst with
 | none=>rfl
 | some d=>rfl
theorem zlI {J:World→Prop} {i:Nat} {oi:Oper} {v:Value} (hi:ops[i]?=some oi) (hsel:Region.noSelect ops=true) (hQ:∀c a w,Q (.panic c) (a.put oi.dst v) w→Q (.panic c) a w) (hts:(zux md ops z i=true∧∀w,I w→J w)∨((∀w,J w)∧z≠some i)) :
  ∀(f:Nat) (L:Array Bool) (a:Act) (w:World),(∀j oj,ops[j]?=some oj→j≠i→L.getD j true=false→(∀e∈oj.after,Region.binds md e=true→e.on≠i)→oi.apart ops oj=true)→zqo md ops L i=true →
   i∈Region.ready md ops L→ziw P ops J oi v a→zdN P md ops Q I z f (L.setIfInBounds i true) (a.put oi.dst v) w→zdN P md ops Q I z (f+1) L a w:=by
 have now:∀{f:Nat} {L:Array Bool} {a:Act} {w:World},zqo md ops L i=true→zdN P md ops Q I z f (L.setIfInBounds i true) (a.put oi.dst v) w→(zeU z L=true→I w)∧J w:=fun {f L a w} hy H=>by
  rcases hts with ⟨hz,hJ⟩ | ⟨hJ,hz⟩
  ·have hI:I w:=H.now (by
    cases z with
    | none=>rfl
    | some k =>
     simp only[zux,Bool.and_eq_true,Bool.not_eq_true',beq_eq_false_iff_ne]at hz;obtain⟨hki,hk⟩:=hz;show (!(L.setIfInBounds i true).getD k false)=true;rw[Go.getD_set_ne false (Ne.symm hki)]
     cases hL:L.getD k false with
     | false=>rfl
     | true =>
      cases ho:ops[k]? with
      | none=>rw[ho]at hk;cases hk
      | some o =>
       rw[ho]at hk;obtain⟨e,he,hb⟩:=Array.any_eq_true'.1 hk;simp only[Bool.and_eq_true,beq_iff_eq]at hb;exact absurd hb.2 (zjr.1 hy k o ho hL e he hb.1))
   exact⟨fun _=>hI,hJ _ hI⟩
  ·refine⟨fun h=>H.now ?_,hJ w⟩
   cases z with
   | none=>rfl
   | some k =>
    have hki:i≠k:=fun e=>hz (by rw[e]);show (!(L.setIfInBounds i true).getD k false)=true;rw[Go.getD_set_ne false hki];exact h
 intro f
 induction f with
 | zero =>
  intro L a w _ hy hr hY H;refine⟨(now hy H).1,fun h=>(by rw[h]at hr;cases hr),fun j hj=>?_⟩;by_cases hji:j=i
  ·subst hji;exact hY.op hi (now hy H).2 H
  ·have:=ready_mono hj hji;rw[H.2.1]at this;cases this
 | succ f ih =>
  intro L a w hfree hyt hr hy H;refine⟨(now hyt H).1,fun h=>(by rw[h]at hr;cases hr),fun j hj=>?_⟩;by_cases hji:j=i
  ·subst hji;exact hy.op hi (now hyt H).2 H
  ·have h1:=H.2.2 j (ready_mono hj hji);obtain⟨hjun,oj,hoj,hall⟩:=mem_ready.1 hj
   have hnot:∀e∈oj.after,Region.binds md e=true→e.on≠i:=fun e he hb heq=>by
    have h1:=hall e he hb;have h0:=(mem_ready.1 hr).1;rw[heq]at h1;rcases Nat.lt_or_ge i L.size with h' | h'
    ·simp[h']at h0 h1;rw[h0]at h1;cases h1
    ·simp[Array.getElem?_eq_none h']at h1
   have hap:=hfree j oj hoj hji hjun hnot;obtain⟨_,_,hap3⟩:=Oper.apart_spec hap;have hsi:=fun cs b=>Region.noSelect_spec hsel i oi cs b hi
   have h2:=wpOp_put (oi:={ oi with op:=.move (.const v),guard:=none }) hoj (zm9 hap) (fun cs b e=>by cases e) (fun cs b=>Region.noSelect_spec hsel j oj cs b hoj) hQ
    (.inl ⟨rfl,fun w=>rfl⟩) h1
   have h3:=zqj (Y:=ziw P ops J oi v) hoj (fun a u hy=>⟨by rw[wanted_put oi a oj.dst u hap3];exact hy.1,fun w hw=>by rw[execOp_put oi hsi a oj.dst u hap3];exact hy.2 w hw⟩) (fun a d hy=>hy) hy h2
   have hfree':∀k ok,ops[k]?=some ok→k≠i→(L.setIfInBounds j true).getD k true=false→(∀e∈ok.after,Region.binds md e=true→e.on≠i)→oi.apart ops ok=true:=fun k ok hk hki hun hno=>by
    refine hfree k ok hk hki ?_ hno;by_cases hjk:j=k
    ·subst hjk;exact hjun
    ·rw[Go.getD_set_ne true hjk]at hun;exact hun
   have hyt':zqo md ops (L.setIfInBounds j true) i=true:=zjr.2 fun k o ho hk=>by
    by_cases hjk:j=k
    ·subst hjk;cases hoj.symm.trans ho;exact hnot
    ·rw[Go.getD_set_ne false hjk]at hk;exact zjr.1 hyt k o ho hk
   refine wpOp_mono (fun a' w' h4=>ih (L.setIfInBounds j true) a' w' hfree' hyt' (ready_mono hr (Ne.symm hji)) h4.1 ?_) h3;rw[Array.setIfInBounds_comm _ _ hji];exact h4.2.2
end
def EVG (I:World→Prop) (z:Option Nat) (P:Program) (n:Nat) (ops:Array Oper) (fuel:Nat) (L:Array Bool) (env:Env) (bx:Bxs) (H:Hs) (K:Env→Bxs→Hs→Prop):Prop :=
 ∀W0 β a W,Rel n W0 H.base β env bx H a W→zdN P .any ops (fun e a W=>e=.normal∧zjY n W0 H.base (fun _ env bx H=>K env bx H) .normal a W) I z fuel L a W
abbrev EVI (z:Option Nat) (p:Nat × TypeId × List Value) (P:Program) (n:Nat) (ops:Array Oper) (fuel:Nat) (L:Array Bool) (env:Env) (bx:Bxs) (H:Hs) (K:Env→Bxs→Hs→Prop):Prop :=
 EVG (fun W=>Box W p.1 p.2.2.toArray p.2.1) z P n ops fuel L env bx H K
section
variable {I:World→Prop} {z:Option Nat} {p:Nat × TypeId × List Value} {n:Nat} {ops:Array Oper} {fuel:Nat} {L:Array Bool} {env:Env} {bx:Bxs} {H:Hs} {K:Env→Bxs→Hs→Prop} {d:Nat} {o:Oper} {v:Value}
theorem EVG.start (I:World→Prop) (z:Option Nat) {id:Nat} {l:List Oper} {Q:EQ} (h:EVG I z prog n l.toArray l.length (Array.replicate l.length false) env bx H (fun env bx H=>Q .normal env bx H)) (hm:Tryz.prog.follows .mixedOrders=true:=by kernel_rfl):EV prog n (.region id l.toArray true) env bx H Q :=
 EVA.start hm fun W0 β a W r=>(h W0 β a W r).any _ _ _ _
theorem EVI.start (z:Option Nat) (p:Nat × TypeId × List Value) {id:Nat} {l:List Oper} {Q:EQ} (h:EVI z p prog n l.toArray l.length (Array.replicate l.length false) env bx H (fun env bx H=>Q .normal env bx H)) (hm:Tryz.prog.follows .mixedOrders=true:=by kernel_rfl):EV prog n (.region id l.toArray true) env bx H Q:=EVG.start _ z h hm
theorem EVG.take {J:World→Prop} (i:Nat) (hts:(zux .any ops z i=true∧∀w,I w→J w)∨((∀w,J w)∧z≠some i)) (hi:ops[i]?=some o) (hs:Region.noSelect ops=true) (hf:Region.free .any ops L i=true) (hr:(Region.ready .any ops L).contains i=true) (hy:zqo .any ops L i=true) (hw:zai ops env o=some true) (hd:o.dst=some d) (hn:Nat.blt d n=true)
  (hx:∀(β:Nat→Nat) (a:Act) (W:World),(∀y s,env.op y=some s→s.rep β H.ro (a.eval y))→J W→(execOp a.eval o).run prog W=.ok (.value v) W)
  (h:EVG I z prog n ops fuel (L.setIfInBounds i true) ((d,.v v)::env) bx H K):EVG I z prog n ops (fuel+1) L env bx H K:=fun W0 β a W r=>by
 refine zlI (v:=v) hi hs (fun c a w e=>by cases e.1) hts fuel L a W (Region.free_spec hi hf) hy (by simpa using hr) ⟨r.want hw,fun w hI=>hx β a w (fun y s hy=>r.op hy) hI⟩ ?_;rw[hd];exact h W0 β _ W (r.put hn rfl rfl)
theorem IV (i:Nat) (h:EVG I z prog n ops fuel (L.setIfInBounds i true) ((d,.v v)::env) bx H K) (hi:ops[i]?=some o:=by exact rfl) (hs:Region.noSelect ops=true:=by kernel_rfl) (hf:Region.free .any ops L i=true:=by kernel_rfl) (hr:(Region.ready .any ops L).contains i=true:=by kernel_rfl) (hy:zqo .any ops L i=true:=by kernel_rfl) (hts:(z == some i)=false:=by kernel_rfl) (hw:zai ops env o=some true:=by exact rfl) (hd:o.dst=some d:=by exact rfl) (hn:Nat.blt d n=true:=by exact rfl)
  (hv:zqu Tryz.tab env [] o.op=some (.v v):=by exact rfl) (hpl:zke env o.op.operands.toList=true:=by exact rfl):EVG I z prog n ops (fuel+1) L env bx H K :=
 EVG.take (J:=fun _=>True) i (.inr ⟨fun _=>trivial,fun e=>by rw[e]at hts;simp at hts⟩) hi hs hf hr hy hw hd hn (fun β a W he _=>by
  obtain⟨x,hx,hr⟩:=zcp (β:=β) (H:=fun _=>none) (W:=W) (a:=a) tO hv (fun y s hm hy=>zkf (zfn hpl y (by simpa using hm)) hy (he y s hy)) (fun i T cs e=>by cases e) (fun b c e=>by cases e);have e:x=v:=hr;rw[←e];exact hx) h
theorem IN (i:Nat) {x:Operand} {c:Addr} (h:EVG I z prog n ops fuel (L.setIfInBounds i true) ((d,.v (.pointer (some c)))::env) bx H K) (hi:ops[i]?=some o:=by exact rfl) (hs:Region.noSelect ops=true:=by kernel_rfl) (hf:Region.free .any ops L i=true:=by kernel_rfl) (hr:(Region.ready .any ops L).contains i=true:=by kernel_rfl) (hy:zqo .any ops L i=true:=by kernel_rfl) (hts:(z == some i)=false:=by kernel_rfl) (hw:zai ops env o=some true:=by exact rfl) (hd:o.dst=some d:=by exact rfl) (hn:Nat.blt d n=true:=by exact rfl)
  (ho:o.op=.nilCheck x:=by exact rfl) (hx:env.op x=some (.v (.pointer (some c))):=by exact rfl):EVG I z prog n ops (fuel+1) L env bx H K :=
 EVG.take (J:=fun _=>True) i (.inr ⟨fun _=>trivial,fun e=>by rw[e]at hts;simp at hts⟩) hi hs hf hr hy hw hd hn (fun β a W he _=>zi9 ho hx _ W fun y x _ hy=>he y _ hy) h
theorem IF (i:Nat) {x:Operand} {T:TypeId} {te:TE} {f b q fo sz:Nat} {ag:Bool} (h:EVG I z prog n ops fuel (L.setIfInBounds i true) ((d,.v (.pointer (some ⟨b,q+fo,none⟩)))::env) bx H K) (hi:ops[i]?=some o:=by exact rfl) (hs:Region.noSelect ops=true:=by kernel_rfl) (hf:Region.free .any ops L i=true:=by kernel_rfl) (hr:(Region.ready .any ops L).contains i=true:=by kernel_rfl) (hy:zqo .any ops L i=true:=by kernel_rfl) (hts:(z == some i)=false:=by kernel_rfl) (hw:zai ops env o=some true:=by exact rfl) (hd:o.dst=some d:=by exact rfl) (hn:Nat.blt d n=true:=by exact rfl)
  (ho:o.op=.fieldAddr T x f:=by exact rfl) (hx:env.op x=some (.v (.pointer (some ⟨b,q,none⟩))):=by exact rfl) (ht:Tryz.tab.get T=some te:=by exact rfl) (hfd:te.fields[f]?=some (fo,ag,sz):=by exact rfl):EVG I z prog n ops (fuel+1) L env bx H K :=
 EVG.take (J:=fun _=>True) i (.inr ⟨fun _=>trivial,fun e=>by rw[e]at hts;simp at hts⟩) hi hs hf hr hy hw hd hn (fun β a W he _=>zi7 tO ho ht hfd hx _ W fun y x _ hy=>he y _ hy) h
theorem IL0 (i:Nat) {x:Operand} {T:TypeId} {te:TE} {q:Nat} {l:List Value} (h:EVI z p prog n ops fuel (L.setIfInBounds i true) ((d,.v v)::env) bx H K) (hi:ops[i]?=some o:=by exact rfl) (hs:Region.noSelect ops=true:=by kernel_rfl) (hf:Region.free .any ops L i=true:=by kernel_rfl) (hr:(Region.ready .any ops L).contains i=true:=by kernel_rfl) (hy:zqo .any ops L i=true:=by kernel_rfl) (hts:zux .any ops z i=true:=by kernel_rfl) (hw:zai ops env o=some true:=by exact rfl) (hd:o.dst=some d:=by exact rfl) (hn:Nat.blt d n=true:=by exact rfl)
  (ho:o.op=.load T x:=by exact rfl) (hx:env.op x=some (.v (.pointer (some ⟨p.1,q,none⟩))):=by exact rfl) (ht:Tryz.tab.get T=some te:=by exact rfl) (hl:(p.2.2.drop q).take te.size=l:=by exact rfl) (hlen:l.length=te.size:=by exact rfl) (hv:zfS te.agg l=some v:=by exact rfl):EVI z p prog n ops (fuel+1) L env bx H K :=
 EVG.take (J:=fun w=>Box w p.1 p.2.2.toArray p.2.1) i (.inl ⟨hts,fun _ h=>h⟩) hi hs hf hr hy hw hd hn (fun β a W he hB=>by
  have ex:a.eval x=.pointer (some ⟨p.1,q,none⟩):=he x _ hx;have hrg:=hB.range q te.size;rw[hl]at hrg;have hrun:=zbg (tO.get ht) hrg hlen hv;unfold execOp;simp only[ho,ex,Sem.run_bind,hrun,Result.andThen_ok,Sem.run_pure]) h
theorem IR (i:Nat) {H0:Hp} {x:Operand} {T:TypeId} {te:TE} {cs l:List Value} (h:EVG (Fits H0) z prog n ops fuel (L.setIfInBounds i true) ((d,.v v)::env) bx H K) (e0:H.ro=H0) (hi:ops[i]?=some o:=by exact rfl) (hs:Region.noSelect ops=true:=by kernel_rfl) (hf:Region.free .any ops L i=true:=by kernel_rfl) (hr:(Region.ready .any ops L).contains i=true:=by kernel_rfl) (hy:zqo .any ops L i=true:=by kernel_rfl) (hts:zux .any ops z i=true:=by kernel_rfl) (hw:zai ops env o=some true:=by exact rfl) (hd:o.dst=some d:=by exact rfl) (hn:Nat.blt d n=true:=by exact rfl)
  (ho:o.op=.load T x:=by exact rfl) (hx:env.op x=some (.ro cs):=by exact rfl) (ht:Tryz.tab.get T=some te:=by exact rfl) (hl:cs.take te.size=l:=by exact rfl) (hlen:l.length=te.size:=by exact rfl) (hv:zfS te.agg l=some v:=by exact rfl):EVG (Fits H0) z prog n ops (fuel+1) L env bx H K :=
 EVG.take (J:=Fits H0) i (.inl ⟨hts,fun _ h=>h⟩) hi hs hf hr hy hw hd hn (fun β a W he hB=>by
  obtain⟨b,off,c,ex,hc,hcs⟩:=he x _ hx;rw[e0]at hc;obtain⟨T',fz,hW⟩:=hB b c hc
  have hrg:W.rangeAt b off l:=fun j v hj=>by
   rw[cell_of_row W b (off+j) c T' fz hW];refine hcs j v ?_;have hj':l[j]?=some v:=hj;rw[←hl,List.getElem?_take]at hj';split at hj'
   ·exact hj'
   ·cases hj'
  have hrun:=zbg (tO.get ht) hrg hlen hv;unfold execOp;simp only[ho,ex,Sem.run_bind,hrun,Result.andThen_ok,Sem.run_pure]) h
theorem EVG.step (hI:zeU z L=true→∀W0 β a W,Rel n W0 H.base β env bx H a W→I W) (hne:(Region.ready .any ops L).isEmpty=false) (hk:∀q,q∈Region.ready .any ops L→∃o,ops[q]?=some o∧EVL prog n ops [o] env bx H (fun e env bx H'=>e=.normal∧EVG I z prog n ops fuel (L.setIfInBounds q true) env bx H' K)):EVG I z prog n ops (fuel+1) L env bx H K:=fun W0 β a W r=>by
 refine⟨fun hn=>hI hn W0 β a W r,fun e=>(by rw[e]at hne;cases hne),fun q hq=>?_⟩;obtain⟨o,ho,h⟩:=hk q hq;have h1:=h W0 β a W r
 have hkk:∀a W,zjY n W0 H.base (fun e env bx H'=>e=.normal∧EVG I z prog n ops fuel (L.setIfInBounds q true) env bx H' K) .normal a W→zdN prog .any ops (fun e a W=>e=.normal∧zjY n W0 H.base (fun _ env bx H=>K env bx H) .normal a W) I z fuel (L.setIfInBounds q true) a W:=by
  rintro a W ⟨β',env',bx',H',hbase,⟨_,hE⟩,rel⟩;have:=hE W0 β' a W (by rw[hbase];exact rel)
  rwa [hbase]at this
 unfold wpOp;simp only[ho];unfold wpList at h1;split
 ·rename_i hw;rw[if_pos hw]at h1;rcases h1 with h1 | ⟨h1,h2⟩
  ·refine .inl (Oper.wp_exits (fun c a W hq=>?_) (fun hq=>?_) (Oper.wp_mono (fun a W h=>hkk a W h) h1))
   ·obtain⟨_,_,_,_,_,⟨e,_⟩,_⟩:=hq;cases e
   ·obtain⟨a0,w0,_,_,_,_,_,⟨e,_⟩,_⟩:=hq;cases e
  ·obtain⟨a0,w0,_,_,_,_,_,⟨e,_⟩,_⟩:=h2;cases e
 ·rename_i hw;rw[if_neg hw]at h1;exact hkk _ _ h1
theorem EVG.nil (hI:zeU z L=true→∀W0 β a W,Rel n W0 H.base β env bx H a W→I W) (hr:(Region.ready .any ops L).isEmpty=true) (h:K env bx H):EVG I z prog n ops fuel L env bx H K:=fun W0 β a W r=>by
 have hr':=List.isEmpty_iff.1 hr;have hI:=fun hn=>hI hn W0 β a W r
 cases fuel with
 | zero=>exact⟨hI,hr',rfl,β,env,bx,H,rfl,h,r⟩
 | succ f=>exact⟨hI,fun _=>⟨rfl,β,env,bx,H,rfl,h,r⟩,fun i hi=>by rw[hr']at hi;cases hi⟩
theorem EVG.one (k:Nat) (hI:zeU z L=true→∀W0 β a W,Rel n W0 H.base β env bx H a W→I W) (hr:(Region.ready .any ops L == [k])=true) (ho:ops[k]?=some o) (h:EVL prog n ops [o] env bx H (fun e env bx H'=>e=.normal∧EVG I z prog n ops fuel (L.setIfInBounds k true) env bx H' K)):EVG I z prog n ops (fuel+1) L env bx H K:=by
 have hr':=eq_of_beq hr;refine EVG.step hI (by rw[hr'];rfl) fun q hq=>?_;rw[hr',List.mem_singleton]at hq;subst hq;exact⟨o,ho,h⟩
theorem EVG.two {o':Oper} (k k':Nat) (hI:zeU z L=true→∀W0 β a W,Rel n W0 H.base β env bx H a W→I W) (hr:(Region.ready .any ops L == [k,k'])=true) (ho:ops[k]?=some o) (ho':ops[k']?=some o') (h:EVL prog n ops [o] env bx H (fun e env bx H'=>e=.normal∧EVG I z prog n ops fuel (L.setIfInBounds k true) env bx H' K))
  (h':EVL prog n ops [o'] env bx H (fun e env bx H'=>e=.normal∧EVG I z prog n ops fuel (L.setIfInBounds k' true) env bx H' K)):EVG I z prog n ops (fuel+1) L env bx H K:=by
 have hr':=eq_of_beq hr;refine EVG.step hI (by rw[hr'];rfl) fun q hq=>?_;rw[hr']at hq;rcases List.mem_cons.1 hq with rfl | hq
 ·exact⟨o,ho,h⟩
 ·obtain rfl:q=k':=by simpa using hq
  exact⟨o',ho',h'⟩
theorem zuH {jj:Nat} (hj:zeU z L=false∨H.ow[jj]?=some p):zeU z L=true→∀W0 β a W,Rel n W0 H.base β env bx H a W→Box W p.1 p.2.2.toArray p.2.1:=fun hn W0 β a W r=>by
 rcases hj with hj | hj
 ·rw[hj]at hn;cases hn
 ·exact(r.own jj p.1 p.2.1 p.2.2 hj).1
theorem zqX {H0:Hp} (h:H0.Le H.ro):zeU z L=true→∀W0 β a W,Rel n W0 H.base β env bx H a W→Fits H0 W:=fun _ _ _ _ _ r=>r.fits.mono h
theorem EVI.one (k jj:Nat) (hj:zeU z L=false∨H.ow[jj]?=some p) (hr:(Region.ready .any ops L == [k])=true) (ho:ops[k]?=some o) (h:EVL prog n ops [o] env bx H (fun e env bx H'=>e=.normal∧EVI z p prog n ops fuel (L.setIfInBounds k true) env bx H' K)):EVI z p prog n ops (fuel+1) L env bx H K:=EVG.one k (zuH hj) hr ho h
theorem EVI.two {o':Oper} (k k' jj:Nat) (hj:zeU z L=false∨H.ow[jj]?=some p) (hr:(Region.ready .any ops L == [k,k'])=true) (ho:ops[k]?=some o) (ho':ops[k']?=some o') (h:EVL prog n ops [o] env bx H (fun e env bx H'=>e=.normal∧EVI z p prog n ops fuel (L.setIfInBounds k true) env bx H' K))
  (h':EVL prog n ops [o'] env bx H (fun e env bx H'=>e=.normal∧EVI z p prog n ops fuel (L.setIfInBounds k' true) env bx H' K)):EVI z p prog n ops (fuel+1) L env bx H K:=EVG.two k k' (zuH hj) hr ho ho' h h'
theorem EVI.nil (jj:Nat) (hj:zeU z L=false∨H.ow[jj]?=some p) (hr:(Region.ready .any ops L).isEmpty=true) (h:K env bx H):EVI z p prog n ops fuel L env bx H K:=EVG.nil (zuH hj) hr h
end
def zcd (H:Hp) (css:List (List Value)) (ns:List Nd):Prop:=css.length=ns.length∧∀(j:Nat) (c:List Value) (n:Nd),css[j]?=some c→ns[j]?=some n→zbX H c n
theorem zcd.mono {H G:Hp} {css:List (List Value)} {ns:List Nd} (h:zcd H css ns) (k:H.Le G):zcd G css ns:=⟨h.1,fun j c n e1 e2=>(h.2 j c n e1 e2).mono k⟩
theorem zcd.snoc {H G:Hp} {css:List (List Value)} {ns:List Nd} (h:zcd H css ns) (k:H.Le G) {c:List Value} {n:Nd} (hc:zbX G c n):zcd G (css++[c]) (ns++[n]):=by
 refine⟨by simp[h.1],fun j c' n' e1 e2=>?_⟩;by_cases hj:j<css.length
 ·rw[List.getElem?_append_left hj]at e1;rw[List.getElem?_append_left (by rw[←h.1];exact hj)]at e2;exact(h.2 j c' n' e1 e2).mono k
 ·rw[List.getElem?_append_right (by omega)]at e1;rw[List.getElem?_append_right (by rw[←h.1];omega),←h.1]at e2
  have h0:j-css.length=0:=by
   have:=(qE.1 e1).1;simp at this;omega
  rw[h0]at e1 e2;cases e1;cases e2;exact hc
def ze6 (dv:Value) (D:Ows) (s:Int):Prop:=(dv=.pointer none∧D=[])∨∃bd T,dv=.pointer (some ⟨bd,0,none⟩)∧D=[(bd,T,[.int .u64 s])]∧0≤s
theorem zbX.len {H:Hp} {c:List Value} {n:Nd} (h:zbX H c n):c.length=15:=by
 obtain⟨b1,a1,l1,c1,a2,l2,c2,b3,a3,l3,c3,a4,l4,c4,b5,a5,l5,c5,a6,l6,c6,a7,c7,rfl,_⟩:=h.cells;rfl
theorem zcL {A c B:List Value} {k s f m q:Nat} (hA:A.length=k*s) (hq:q=k*s+f) (hf:f+m≤c.length):q+m≤(A++(c++B)).length:=by
 rw[List.length_append,List.length_append,hA,hq];omega
theorem zsF {l:List (List Value)} (h:∀c,c∈l→c.length=15):l.flatten.length=l.length*15:=by
 induction l with
 | nil=>rfl
 | cons c l ih=>rw[List.flatten_cons,List.length_append,h c (List.mem_cons_self ..),ih (fun c hc=>h c (List.mem_cons_of_mem _ hc)),List.length_cons];omega
theorem zcd.mid {H:Hp} {css:List (List Value)} {A B:List Nd} {n:Nd} (h:zcd H css (A++n::B)):∃cA c cB,css=cA++c::cB∧cA.flatten.length=A.length*15∧zbX H c n∧∀(G:Hp) (c':List Value) (n':Nd),H.Le G→zbX G c' n'→zcd G (cA++c'::cB) (A++n'::B):=by
 have hl:=h.1;rw[List.length_append,List.length_cons]at hl;have hlt:A.length<css.length:=by omega
 have e:css=css.take A.length++css[A.length]::css.drop (A.length+1):=by
  rw[←List.drop_eq_getElem_cons hlt,List.take_append_drop]
 have hla:(css.take A.length).length=A.length:=by rw[List.length_take];omega
 refine⟨_,_,_,e,?_,h.2 A.length _ n (qA hlt) (by rw[List.getElem?_append_right (qH _),Nat.sub_self];rfl),?_⟩
 ·refine(zsF fun c hc=>?_).trans (by rw[hla]);obtain⟨j,hj⟩:=List.mem_iff_getElem?.1 (List.mem_of_mem_take hc);have hj':=(qE.1 hj).1;obtain⟨m,hm⟩:∃m,(A++n::B)[j]?=some m:=⟨_,qA (by rw[←h.1];exact hj')⟩;exact(h.2 j c m hj hm).len
 ·intro G c' n' hG hc;refine⟨by simp only[List.length_append,List.length_cons,hla,List.length_drop];omega,fun j c1 n1 e1 e2=>?_⟩;rcases Nat.lt_trichotomy j A.length with hj | rfl | hj
  ·rw[List.getElem?_append_left oM,List.getElem?_take_of_lt hj]at e1;rw[List.getElem?_append_left hj]at e2;exact(h.2 j c1 n1 e1 (by rw[List.getElem?_append_left hj];exact e2)).mono hG
  ·rw[List.getElem?_append_right oM,hla,Nat.sub_self]at e1;rw[List.getElem?_append_right (qH _),Nat.sub_self]at e2;cases e1;cases e2;exact hc
  ·obtain⟨k,rfl⟩:∃k,j=A.length+(k+1):=⟨j-A.length-1,by omega⟩;rw[List.getElem?_append_right oM,hla,Nat.add_sub_cancel_left,List.getElem?_cons_succ,List.getElem?_drop]at e1;rw[List.getElem?_append_right oM,Nat.add_sub_cancel_left,List.getElem?_cons_succ]at e2;exact(h.2 (A.length+(k+1)) c1 n1 (by rw[←e1];congr 1;omega) (by rw[List.getElem?_append_right oM,Nat.add_sub_cancel_left,List.getElem?_cons_succ];exact e2)).mono hG
theorem zaK.mid {e:TypeId} {v:Value} {m:Nat} {cA cB:List (List Value)} {c:List Value} {ow:Ows} (h:zaK e 15 v m (cA++c::cB).flatten ow) (hc:c.length=15):∃g cap sp,v=.slice (some ⟨g,0,none⟩) m cap∧ow=[(g,e,cA.flatten++(c++(cB.flatten++sp)))]∧∀c',c'.length=15→zaK e 15 v m (cA++c'::cB).flatten [(g,e,cA.flatten++(c'++(cB.flatten++sp)))]:=by
 have hl:=h.1;rcases h.2 with ⟨_,rfl,_⟩ | ⟨g,cap,sp,rfl,rfl,h1,h2,h3⟩
 ·simp[hc]at hl
 ·have e1:∀c':List Value,(cA++c'::cB).flatten=cA.flatten++(c'++cB.flatten):=fun c'=>by simp
  rw[e1]at hl h1;refine⟨g,cap,sp,rfl,by rw[e1];simp,fun c' hc'=>⟨?_,.inr ⟨g,cap,sp,rfl,by rw[e1];simp,?_,h2,h3⟩⟩⟩
  ·rw[e1,←hl];simp[hc,hc']
  ·rw[e1,←h1];simp[hc,hc']
theorem zqv.cells {G:Hp} {o:Option (Int × Rat × Rat)} {cs:List Value} (h:zqv G o cs):∃c b1 a1 l1 c1 a2 l2 c2 b3 a3 l3 c3 a4 l4 c4,cs=[.int .i64 c,.bool b1,.slice a1 l1 c1,.slice a2 l2 c2,.bool b3,.slice a3 l3 c3,.slice a4 l4 c4]∧∀c' t g,o=some (c',t,g)→c=c'∧RQ G (.agg #[.bool b1,.slice a1 l1 c1,.slice a2 l2 c2]) t∧RQ G (.agg #[.bool b3,.slice a3 l3 c3,.slice a4 l4 c4]) g:=by
 cases o with
 | none=>exact⟨_,_,_,_,_,_,_,_,_,_,_,_,_,_,_,h,fun c' t g e=>by cases e⟩
 | some p =>
  obtain⟨x,y,h1,h2,rfl⟩:=h;obtain⟨a1,l1,c1,a2,l2,c2,rfl,_⟩:=id h1;obtain⟨a3,l3,c3,a4,l4,c4,rfl,_⟩:=id h2;exact⟨_,_,_,_,_,_,_,_,_,_,_,_,_,_,_,rfl,fun c' t g e=>by cases e;exact⟨rfl,h1,h2⟩⟩
theorem zrv {p:GP} {kd cl least deep:Int} {sm w:Nat} {la va xa:Option Addr} {ln lc vn vc xc:Nat} {g1 g2 g3:Value} {dq:Option Addr} (hdq:dq≠none) (hds:∀s,p.cols s=((zaz w s).1.take sm,(zaz w s).2)) (hsm:sm≤w) (hw1:1≤w) (hw2:w≤1000) (hx0:0<p.X.length) (hxw:∀x,x∈p.X→x.length=w) (hxq:∀x,x∈p.X→∀q,q∈x→ht q≤5) (hpl:p.least=least) (hgr:rq p.gain):∀(d:Nat) {H:Hp} {b:Nat} {T:TypeId} {dd s:Int} {vr out:Value} {rows:List Int} {ns:List Nd} {css:List (List Value)} {D ow:Ows},
  zjy H (zak kd cl (.slice la ln lc) (.slice va vn vc)) kd p.X.length p.cost p.mean p.cnt→RLL H (.slice xa p.X.length xc) p.X→RQ H (.agg #[g1,g2,g3]) p.gain→dd+d=deep→0≤dd→deep≤10 →
  IL H vr rows→rows.length≤300→(∀r,r∈rows→0≤r∧r<(p.X.length:Int))→ze6 (.pointer dq) D s→zaK 180 15 out ns.length css.flatten ow→zcd H css ns→ns.length+2 ^ (d+1)≤1000000 →
  PW prog 101 #[.pointer (some ⟨b,0,none⟩),vr,.int .i64 dd] H ((b,T,ziK kd cl (.slice la ln lc) (.slice va vn vc) (.slice xa p.X.length xc) deep least g1 g2 g3 (.pointer dq) (sm:Int) out)::(D++ow)) fun v ow' H'=>v=.tuple #[]∧∃out' D' ow2 css',ow'=(b,T,ziK kd cl (.slice la ln lc) (.slice va vn vc) (.slice xa p.X.length xc) deep least g1 g2 g3 (.pointer dq) (sm:Int) out')::(D'++ow2)∧ze6 (.pointer dq) D' (p.grow d ns.length rows s).2∧zaK 180 15 out' (ns++(p.grow d ns.length rows s).1).length css'.flatten ow2∧zcd H' css' (ns++(p.grow d ns.length rows s).1):=by
 intro d
 induction d using Nat.strongRecOn with
 | _ d ih =>
  intro H b T dd s vr out rows ns css D ow hg hX hgq hdd hd0 hd1 hr hn hb hD hown hns hsz;obtain⟨oa,oc,rfl⟩:=hown.val;obtain⟨ra,rc,rfl⟩:=SlC.val hr;have hpw:2≤2 ^ (d+1):=by rw[Nat.pow_succ];have:=Nat.one_le_two_pow (n:=d);omega
  refine PW.body tO func101 rfl kR ntmps101 rfl rfl ?_;refine uR ?_;refine RP ?_;refine EVL.loadOwn tO rfl rfl rfl rfl rfl rfl (0) rfl (rfl) rfl rfl ?_;refine uR ?_;refine EV.meetK (ι:=Value × Ows × List Value) [0,1,2,6] [] (fun _=>[]) (fun _=>[]) (fun q=>(b,T,ziK kd cl (.slice la ln lc) (.slice va vn vc) (.slice xa p.X.length xc) deep least g1 g2 g3 (.pointer dq) (sm:Int) q.1)::(D++q.2.1)) (fun q G=>H.Le G∧zaK 180 15 q.1 (ns.length+1) (css++[q.2.2]).flatten q.2.1∧zbX G q.2.2 (p.nd rows)) rfl rfl (fun _=>rfl) ?_ ?_
  ·refine EVI.start (some 9) (b,T,ziK kd cl (.slice la ln lc) (.slice va vn vc) (.slice xa p.X.length xc) deep least g1 g2 g3 (.pointer dq) (sm:Int) (.slice oa ns.length oc)) ?_;refine IV 0 ?_;refine IV 1 ?_;refine IN 2 ?_;refine IF 3 ?_;refine IL0 4 ?_;refine IV 5 ?_;refine IV 6 ?_;refine EVI.one 7 0 (.inr rfl) kR rfl ?_;refine vW ([(b,T,ziK kd cl (.slice la ln lc) (.slice va vn vc) (.slice xa p.X.length xc) deep least g1 g2 g3 (.pointer dq) (sm:Int) (.slice oa ns.length oc))]) (D++ow) (zry hg hr hn hb) ?_;rintro _ ow1 G1 ⟨rfl,cs,rfl,hnd⟩ hG1;obtain⟨b1,a1,l1,c1,a2,l2,c2,b3,a3,l3,c3,a4,l4,c4,b5,a5,l5,c5,a6,l6,c6,a7,c7,rfl,_⟩:=hnd.cells;refine EVL.nil ⟨rfl,?_⟩;refine EVI.one 8 0 (.inr rfl) kR rfl ?_;refine EVL.lit tO rfl rfl rfl rfl rfl rfl rfl rfl rfl rfl rfl fun bl=>?_;refine EVL.nil ⟨rfl,?_⟩;refine EVI.one 9 1 (.inr rfl) kR rfl ?_;refine EVL.append tO rfl rfl rfl rfl rfl rfl rfl rfl rfl rfl rfl rfl ([(bl,_,_),(b,T,_)]++D) ow [] (by rw[qG];rfl) hown (zdp.own 0 rfl rfl) rfl oM ?_;intro v2 ow2 hown2;obtain⟨oa2,oc2,rfl⟩:=hown2.val;refine EVL.nil ⟨rfl,?_⟩;refine EVI.one 10 0 (.inl kR) kR rfl ?_;refine EVL.nilB rfl rfl rfl rfl rfl ?_;refine EVL.nil ⟨rfl,?_⟩;refine EVI.one 11 0 (.inl kR) kR rfl ?_;refine EVL.fldB tO rfl rfl rfl rfl rfl rfl rfl ?_;refine EVL.nil ⟨rfl,?_⟩;refine EVI.one 12 0 (.inl kR) kR rfl ?_;refine EVL.storeOwn tO rfl rfl rfl rfl rfl rfl ([(bl,_,_)]) (D++(ow2++[])) rfl rfl rfl rfl ((by exact qH 13)) (rfl) ?_;refine EVL.subOw [] [(bl,_,_)] _ rfl ?_;refine EVL.nil ⟨rfl,?_⟩;refine EVI.nil 0 (.inl kR) kR ?_;exact⟨(_,ow2++[],_),trivial,sB,trivial,trivial,rfl,hG1,(by rw[qG,List.flatten_append];exact hown2),hnd⟩
  ·rintro⟨out1,ow1,c1⟩ G1 ⟨hG1,hown1,hnd1⟩;dsimp only at hown1 hnd1;have hns1:zcd G1 (css++[c1]) (ns++[p.nd rows]):=hns.snoc hG1 hnd1;refine uR ?_;refine RP ?_;refine EVL.loadOwn tO rfl rfl rfl rfl rfl rfl (0) rfl (rfl) rfl rfl ?_;refine uR ?_;by_cases hd:d=0
   ·subst hd;obtain rfl:dd=deep:=by omega
    rw[show (dd == dd)=true from beq_self_eq_true dd];refine uR ?_;exact⟨rfl,out1,D,ow1,_,rfl,hD,by rw[List.length_append];exact hown1,hns1⟩
   obtain⟨e,rfl⟩:∃e,d=e+1:=⟨d-1,by omega⟩;have ih':=@ih e oM;clear ih;rw[show (dd == deep)=false from beq_eq_false_iff_ne.2 (by omega)];refine uR ?_;refine RP ?_;refine EVL.loadOwn tO rfl rfl rfl rfl rfl rfl (0) rfl (rfl) rfl rfl ?_;refine EVL.neqnil Tryz.underlying120 rfl rfl rfl rfl rfl ?_;refine uR ?_;obtain⟨vsx,hvs,hvx⟩:=hX.mono hG1;obtain⟨x0,hxx0⟩:=gE hx0;obtain⟨u0,e0,hu0,_⟩:=hvs.at hxx0;have hx0w:=hxw x0 (qF hxx0);refine EV.meetK (ι:=Value × Ows) [0,1,2,6] [] (fun q=>[(7,.v q.1)]) (fun _=>[]) (fun q=>(b,T,ziK kd cl (.slice la ln lc) (.slice va vn vc) (.slice xa p.X.length xc) deep least g1 g2 g3 (.pointer dq) (sm:Int) out1)::(q.2++ow1)) (fun q G=>G1.Le G∧IL G q.1 (p.cols s).1∧ze6 (.pointer dq) q.2 (p.cols s).2) rfl rfl (fun _=>rfl) ?_ ?_
   ·rcases hD with ⟨e1,rfl⟩ | ⟨bd,Td,e1,rfl,hs⟩
    ·cases e1;exact absurd rfl hdq
    ·cases e1;have hcols:=hds s;have hcs:(p.cols s).1=(zaz w s).1.take sm:=by rw[hcols]
     have hcs2:(p.cols s).2=(zaz w s).2:=by rw[hcols]
     refine uR ?_;refine EVI.start none (b,T,ziK kd cl (.slice la ln lc) (.slice va vn vc) (.slice xa p.X.length xc) deep least g1 g2 g3 (.pointer (some ⟨bd,0,none⟩)) (sm:Int) out1) ?_;refine IV 0 ?_;refine IN 1 ?_;refine IF 2 ?_;refine IL0 3 ?_;refine IV 4 ?_;refine IN 5 ?_;refine IF 6 ?_;refine IL0 7 ?_;refine IV 12 ?_;refine IN 13 ?_;refine IF 14 ?_;refine IL0 15 ?_;refine EVI.one 8 0 (.inr rfl) kR rfl ?_;refine vI (hvx) (0) (rfl) (hx0) (hu0) ?_;refine EVL.nil ⟨rfl,?_⟩;refine EVI.one 9 0 (.inr rfl) kR rfl ?_
     (try refine zed ?_);refine EVL.nil ⟨rfl,?_⟩;rw[hx0w];refine IV 10 ?_;refine EVI.one 11 0 (.inr rfl) kR rfl ?_;(first|refine EVL.swapOw ([(b,T,_)]) ((bd,Td,[.int .u64 s])::ow1) (rfl) ?_|refine EV.swapOw ([(b,T,_)]) ((bd,Td,[.int .u64 s])::ow1) (rfl) ?_);refine EVL.callW rfl rfl rfl rfl rfl ([(bd,Td,[.int .u64 s])]) (ow1++[(b,T,_)]) rfl (zpD hs hw1 oM) ?_;rintro v2 ow2 G2 ⟨⟨T2,rfl⟩,hs2,hil,oa2,rfl⟩ hG2;(first|refine EVL.swapOw ((bd,T2,[.int .u64 (zaz w s).2])::ow1) ([(b,T,_)]) (rfl) ?_|refine EV.swapOw ((bd,T2,[.int .u64 (zaz w s).2])::ow1) ([(b,T,_)]) (rfl) ?_);refine EVL.nil ⟨rfl,?_⟩;refine EVI.one 16 0 (.inr rfl) kR rfl ?_;refine EVL.slc (te':=Tryz.te3) tO rfl rfl rfl rfl rfl rfl rfl rfl 0 sm (.inl ⟨rfl,rfl⟩) (.inr ⟨_,IntKind.i64,rfl,rfl⟩) (Nat.zero_le _) (by rw[zcn];exact hsm) (qH _) ?_;refine EVL.nil ⟨rfl,?_⟩;refine EVI.one 17 0 (.inr rfl) kR rfl ?_
     (try refine zed ?_);refine EVL.nil ⟨rfl,?_⟩;refine EVI.nil 0 (.inr rfl) kR ?_;exact⟨(_,[(bd,T2,[.int .u64 (zaz w s).2])]),⟨rfl,trivial⟩,sB,trivial,trivial,rfl,hG2,(by rw[hcs];exact hil.pre sm (by rw[zcn];exact hsm) 1),(by rw[hcs2];exact .inr ⟨bd,T2,rfl,rfl,hs2⟩)⟩
   ·rintro⟨vc7,D2⟩ G2 ⟨hG2,hcol,hD2⟩;dsimp only at hcol hD2;obtain⟨ca,cc,rfl⟩:=SlC.val hcol;have hH2:=hG1.trans hG2
    have hcl:(p.cols s).1.length≤1000:=by
     rw[hds s];show ((zaz w s).1.take sm).length≤1000;rw[List.length_take];omega
    have hbest:=fun (G:Hp) (hG:G2.Le G)=>znF (least:=least) (hg.check G (hH2.trans hG)) hg.len (fun G' k=>hg.cost G' ((hH2.trans hG).trans k)) hg.small (hX.mono (hH2.trans hG)) hxq (hr.mono (hH2.trans hG)) hn (hcol.mono hG) hcl;have hpb:(zaG p.X p.cost rows (max 1 least) (p.cols s).1).foldl zf5 none=p.best rows (p.cols s).1:=by unfold GP.best;rw[hpl]
    have hgb:∀q,p.best rows (p.cols s).1=some q→ht q.2.1≤100∧ht q.2.2≤8000000:=fun q e=>by
     rw[←hpb]at e;have hf:=zcU (zaG p.X p.cost rows (max 1 least) (p.cols s).1);rw[e]at hf;exact zgk hg.small hn hb hxq hf.1
    simp only[zdy hb,hpb]at hbest;refine uR ?_;apply EV.drawn 21 kR kR;intro xv yw;(repeat (first|refine' DD ?_|refine' vN ?_|refine' vF ?_));refine' DJ.ofVal (zaa.loadOwn tO rfl rfl rfl rfl (0) rfl (rfl) rfl rfl) rfl rfl rfl ?_;rotate_left;(repeat (first|refine' DD ?_|refine' vN ?_|refine' vF ?_));refine' DJ.ofVal (zaa.loadOwn tO rfl rfl rfl rfl (0) rfl (rfl) rfl rfl) rfl rfl rfl ?_;rotate_left;(repeat (first|refine' DD ?_|refine' vN ?_|refine' vF ?_));refine' DJ.ofVal (zaa.loadOwn tO rfl rfl rfl rfl (0) rfl (rfl) rfl rfl) rfl rfl rfl ?_;rotate_left;refine' vB (cO func145) (fun G hG hd=>hbest G hG) (fun _ _ _ h k=>(by obtain⟨cs,h1,h2⟩:=h;exact⟨cs,h1.mono k,h2⟩)) ?_;rotate_left;refine' DJ.copy (15) (by first|exact .inl rfl|exact .inr rfl) rfl rfl rfl id rfl kR ?_;rotate_left;refine' DJ.extract (15) rfl rfl rfl rfl rfl kR (fun G hd=>(by obtain⟨cs,_,e⟩:=hd.head kR;exact⟨_,e,Nat.zero_lt_succ _⟩)) ?_;rotate_left;refine' DJ.extract (15) rfl rfl rfl rfl rfl kR (fun G hd=>(by obtain⟨cs,_,e⟩:=hd.head kR;exact⟨_,e,Nat.lt_succ_self _⟩)) ?_;rotate_left;(repeat refine' DD ?_);refine' DJ.storeD tO rfl rfl rfl rfl (15) (zcD 0) rfl rfl (19) rfl rfl kR kR rfl (fun G hd=>(by obtain⟨cs,h,e⟩:=hd.head kR;rw[e];obtain⟨c,b1,a1,l1,c1,a2,l2,c2,b3,a3,l3,c3,a4,l4,c4,rfl,_⟩:=h.cells;exact⟨rfl,rfl⟩)) ?_;rotate_left;(refine DJ.nil (fun G3 hG3 hF3=>?_);(case hS|hS2=>rfl));obtain⟨⟨cs,hcs,e33⟩,_⟩:=hF3;obtain⟨c,b1,a1,l1,c1',a2,l2,c2,b3,a3,l3,c3,a4,l4,c4,rfl,hval⟩:=hcs.cells;rw[e33];rw[show zcD 1 (Value.tuple #[.agg ([.int .i64 c,.bool b1,.slice a1 l1 c1',.slice a2 l2 c2,.bool b3,.slice a3 l3 c3,.slice a4 l4 c4]:List Value).toArray,.bool (p.best rows (p.cols s).1).isSome])=.bool (p.best rows (p.cols s).1).isSome from rfl,show zac (zcD 0 (Value.tuple #[.agg ([.int .i64 c,.bool b1,.slice a1 l1 c1',.slice a2 l2 c2,.bool b3,.slice a3 l3 c3,.slice a4 l4 c4]:List Value).toArray,.bool (p.best rows (p.cols s).1).isSome]))=[.int .i64 c,.bool b1,.slice a1 l1 c1',.slice a2 l2 c2,.bool b3,.slice a3 l3 c3,.slice a4 l4 c4] from rfl];refine uR ?_
    cases hbe:p.best rows (p.cols s).1 with
    | none =>
     have hcut:p.cut rows (p.cols s).1=none:=by unfold GP.cut;rw[hbe]
     rw[GP.grow_none hcut];rw[show (none:Option (Int × Rat × Rat)).isSome=false from rfl];apply EV.drawn 13 kR kR;intro xv yw;(repeat refine' DD ?_);(refine DJ.nil (fun G hG hF=>?_);(case hS|hS2=>rfl));refine uR ?_;exact⟨rfl,out1,D2,ow1,_,rfl,hD2,by rw[List.length_append];exact hown1,hns1.mono (hG2.trans (hG3.trans hG))⟩
    | some q =>
     obtain⟨c',t,g⟩:=q;obtain⟨rfl,hvt,hvg⟩:=hval c' t g hbe;obtain⟨htb,hgb'⟩:=hgb _ hbe;dsimp only at htb hgb';rw[show (some (c,t,g)).isSome=true from rfl];have hgrq:rq g:=by unfold rq;omega
     apply EV.drawn 13 kR kR;intro xv yw;(repeat (first|refine' DD ?_|refine' vN ?_|refine' vF ?_));refine' DJ.ofVal (zaa.loadOwn tO rfl rfl rfl rfl (0) rfl (rfl) rfl rfl) rfl rfl rfl ?_;rotate_left;refine' vC (cO func146) (fun G hG hd=>zbA (RQ.mono hvg hG) (RQ.mono hgq (hH2.trans (hG3.trans hG))) hgrq hgr) ?_;rotate_left;(repeat refine' DD ?_);(refine DJ.nil (fun G4 hG4 hF4=>?_);(case hS|hS2=>rfl));refine uR ?_;by_cases hle:g≤p.gain
     ·have hcut:p.cut rows (p.cols s).1=none:=by unfold GP.cut;rw[hbe];exact if_pos hle
      rw[GP.grow_none hcut];rw[qD (Int.not_lt.1 fun k=>Rat.not_lt.2 hle ((zf4 g p.gain).1 k))];refine uR ?_;exact⟨rfl,out1,D2,ow1,_,rfl,hD2,by rw[List.length_append];exact hown1,hns1.mono (hG2.trans (hG3.trans hG4))⟩
     have hcut:p.cut rows (p.cols s).1=some (c,t):=by unfold GP.cut;rw[hbe];exact if_neg hle
     rw[GP.grow_some hcut];rw[qC (Int.not_le.2 ((zf4 g p.gain).2 (Rat.not_le.1 hle)))];have hH4:=hH2.trans (hG3.trans hG4);refine uR ?_;apply EV.drawn 14 kR kR;intro xv yw;(repeat (first|refine' DD ?_|refine' vN ?_|refine' vF ?_));refine' DJ.ofVal (zaa.loadOwn tO rfl rfl rfl rfl (0) rfl (rfl) rfl rfl) rfl rfl rfl ?_;rotate_left;(repeat (first|refine' DD ?_|refine' vN ?_|refine' vF ?_));refine' vB (cO func147) (fun G hG hd=>zg6 (col:=c) (t:=t) (hX.mono (hH4.trans hG)) (hr.mono (hH4.trans hG)) oM (fun x hx q hq=>zf8 (hxq x hx q hq) oM) (RQ.mono hvt (hG4.trans hG)) (zf8 htb oM)) (fun _ _ _ h k=>(by obtain⟨u,w,e,hu,hw⟩:=h;exact⟨u,w,e,hu.mono k,hw.mono k⟩)) ?_;rotate_left;refine' DJ.copy (9) (by first|exact .inl rfl|exact .inr rfl) rfl rfl rfl id rfl kR ?_;rotate_left;refine' DJ.extract (9) rfl rfl rfl rfl rfl kR (fun G hd=>(by obtain⟨u,w,e,_⟩:=hd.head kR;exact⟨_,e,Nat.zero_lt_succ _⟩)) ?_;rotate_left;refine' DJ.extract (9) rfl rfl rfl rfl rfl kR (fun G hd=>(by obtain⟨u,w,e,_⟩:=hd.head kR;exact⟨_,e,Nat.lt_succ_self _⟩)) ?_;rotate_left;refine' DJ.copy (9) (.inr rfl) rfl rfl rfl (zcD 0) rfl kR ?_;rotate_left;(refine DJ.nil (fun G5 hG5 hF5=>?_);(case hS|hS2=>rfl));obtain⟨⟨u5,w5,e5,hu5,hw5⟩,_⟩:=hF5;rw[e5];rw[zdy hb]at hu5 hw5;obtain⟨ua,uc,rfl⟩:=SlC.val hu5;obtain⟨wa,wc,rfl⟩:=SlC.val hw5;rw[show zcD 0 (Value.tuple #[.slice ua (zbt p.X c t rows).length uc,.slice wa (zaE p.X c t rows).length wc])=.slice ua (zbt p.X c t rows).length uc from rfl,show zcD 1 (Value.tuple #[.slice ua (zbt p.X c t rows).length uc,.slice wa (zaE p.X c t rows).length wc])=.slice wa (zaE p.X c t rows).length wc from rfl];have hH5:=hH4.trans hG5;have hns5:=hns1.mono (hG2.trans (hG3.trans (hG4.trans hG5)));obtain⟨cA,cc1,cB,ecs,hAl,hnc,hput⟩:=hns5.mid;rw[ecs]at hown1;clear ecs;obtain⟨b9,a9,l9,c9,a10,l10,c10,b11,a11,l11,c11,a12,l12,c12,b13,a13,l13,c13,a14,l14,c14,a15,c15,rfl,k1,k2,k3,k4⟩:=hnc.cells;obtain⟨go,capo,sp,rfl,rfl,hback⟩:=hown1.mid rfl;have wk:IntKind.i64.wrap ((ns.length:Int)+1)=((ns.length+1:Nat):Int):=zab _ oM;have wd:IntKind.i64.wrap (dd+1)=dd+1:=by rw[IntKind.wrap_i64];omega
     refine uR ?_;apply EV.drawn 7 kR kR;intro xv yw;(repeat (first|refine' DD ?_|refine' vN ?_|refine' vF ?_));refine' DJ.ofVal (zaa.loadOwn tO rfl rfl rfl rfl (0) rfl (rfl) rfl rfl) rfl rfl rfl ?_;rotate_left;(repeat (first|refine' DD ?_|refine' vN ?_|refine' vF ?_));(refine DJ.nil (fun G6 hG6 hF6=>?_);(case hS|hS2=>rfl));refine EVL.idxB tO rfl rfl rfl rfl rfl rfl rfl rfl rfl (ns.length) (ns.length*15) (rfl) (oM) (rfl) ?_;refine EVL.fldB tO rfl rfl rfl rfl rfl rfl rfl ?_;refine EVL.storeOwn tO rfl rfl rfl rfl rfl rfl ((b,T,_)::D2) ([]) rfl rfl rfl rfl ((zcL (f:=0) hAl rfl (by show 0+1≤15;omega))) (zde (f:=0) hAl rfl rfl (by show 0+1≤15;omega) rfl) ?_;refine uR ?_;apply EV.drawn 7 kR kR;intro xv yw;(repeat (first|refine' DD ?_|refine' vN ?_|refine' vF ?_));refine' DJ.ofVal (zaa.loadOwn tO rfl rfl rfl rfl (0) rfl (rfl) rfl rfl) rfl rfl rfl ?_;rotate_left;(repeat (first|refine' DD ?_|refine' vN ?_|refine' vF ?_));(refine DJ.nil (fun G7 hG7 hF7=>?_);(case hS|hS2=>rfl));refine EVL.idxB tO rfl rfl rfl rfl rfl rfl rfl rfl rfl (ns.length) (ns.length*15) (rfl) (oM) (rfl) ?_;refine EVL.fldB tO rfl rfl rfl rfl rfl rfl rfl ?_;refine EVL.storeOwn tO rfl rfl rfl rfl rfl rfl ((b,T,_)::D2) ([]) rfl rfl rfl rfl ((zcL (f:=5) hAl rfl (by show 5+3≤15;omega))) (zde (f:=5) hAl rfl rfl (by show 5+3≤15;omega) rfl) ?_;refine uR ?_;refine RP ?_;refine EVL.loadOwn tO rfl rfl rfl rfl rfl rfl (0) rfl (rfl) rfl rfl ?_;refine uR ?_;rw[wk];refine EVL.idxB tO rfl rfl rfl rfl rfl rfl rfl rfl rfl (ns.length) (ns.length*15) (rfl) (oM) (rfl) ?_;refine EVL.fldB tO rfl rfl rfl rfl rfl rfl rfl ?_;refine EVL.storeOwn tO rfl rfl rfl rfl rfl rfl ((b,T,_)::D2) ([]) rfl rfl rfl rfl ((zcL (f:=1) hAl rfl (by show 1+1≤15;omega))) (zde (f:=1) hAl rfl rfl (by show 1+1≤15;omega) rfl) ?_;refine uR ?_;rw[wd];have hH7:=hH5.trans (hG6.trans hG7);have hlo3:(zbt p.X c t rows).length≤300:=qI (List.length_filter_le _ _) hn;have hhi3:(zaE p.X c t rows).length≤300:=qI (List.length_filter_le _ _) hn;have hlom:∀r,r∈zbt p.X c t rows→0≤r∧r<(p.X.length:Int):=fun r hr=>hb r (List.mem_filter.mp hr).1;have hhim:∀r,r∈zaE p.X c t rows→0≤r∧r<(p.X.length:Int):=fun r hr=>hb r (List.mem_filter.mp hr).1;have hvt7:=RQ.mono hvt (hG4.trans (hG5.trans (hG6.trans hG7)));obtain⟨n1,hn1⟩:∃n1:Nd,({ p.nd rows with col:=c,left:=((ns.length+1:Nat):Int),at':=t }:Nd)=n1:=⟨_,rfl⟩
     have hr1:zbX G7 [.int .i64 c,.int .i64 ((ns.length+1:Nat):Int),.int .i64 0,.int .i64 (p.nd rows).rows,.int .i64 (p.nd rows).cls,.bool b1,.slice a1 l1 c1',.slice a2 l2 c2,.bool b11,.slice a11 l11 c11,.slice a12 l12 c12,.bool b13,.slice a13 l13 c13,.slice a14 l14 c14,.slice a15 (p.nd rows).counts.length c15] n1:=by
      subst hn1;exact⟨_,_,_,_,hvt7,k2.mono (hG6.trans hG7),k3.mono (hG6.trans hG7),k4.mono (hG6.trans hG7),rfl⟩
     have hl1:(ns++[n1]).length=ns.length+1:=by simp
     have hp2:2 ^ (e+1+1)=2 ^ (e+1)+2 ^ (e+1):=by rw[Nat.pow_succ];omega
     have hp3:2≤2 ^ (e+1):=by rw[Nat.pow_succ];have:=Nat.one_le_two_pow (n:=e);omega
     have hL:=ih' (H:=G7) (b:=b) (T:=T) (dd:=dd+1) (s:=(p.cols s).2) (ns:=ns++[n1]) (hg.mono hH7) (hX.mono hH7) (hgq.mono hH7) oM oM hd1 (hu5.mono (hG6.trans hG7)) hlo3 hlom hD2 (by rw[hl1];exact hback _ rfl) (hput G7 _ n1 (hG6.trans hG7) hr1) (by rw[hl1];omega);rw[hl1]at hL;have hLl:=(p.grow_len e (ns.length+1) (zbt p.X c t rows) (p.cols s).2).2;generalize hLe:p.grow e (ns.length+1) (zbt p.X c t rows) (p.cols s).2=Lp at *
     obtain⟨Ls,s2⟩:=Lp;dsimp only at hL hLl;refine EVL.callW rfl rfl rfl rfl rfl _ [] (qG _).symm hL ?_;rintro _ _ G8 ⟨rfl,out2,D3,ow3,css3,rfl,hD3,hown3,hns3⟩ hG8;rw[qG ((b,T,_)::(D3++ow3))];rw[show ns++[n1]++Ls=ns++n1::Ls by simp]at hown3 hns3;obtain⟨cA3,c31,cB3,ecs3,hAl3,hnc3,hput3⟩:=hns3.mid;rw[ecs3]at hown3;clear ecs3;obtain⟨d9,e9,f9,h9,e10,f10,h10,d11,e11,f11,h11,e12,f12,h12,d13,e13,f13,h13,e14,f14,h14,e15,h15,rfl,j1,j2,j3,j4⟩:=hnc3.cells;obtain⟨go3,capo3,sp3,rfl,rfl,hback3⟩:=hown3.mid rfl;have hl2:(ns++n1::Ls).length=ns.length+1+Ls.length:=by simp;omega
     rw[hl2]at hback3;rw[hl2];refine uR ?_;apply EV.drawn 10 kR kR;intro xv yw;(repeat (first|refine' DD ?_|refine' vN ?_|refine' vF ?_));refine' DJ.ofVal (zaa.loadOwn tO rfl rfl rfl rfl (0) rfl (rfl) rfl rfl) rfl rfl rfl ?_;rotate_left;(repeat (first|refine' DD ?_|refine' vN ?_|refine' vF ?_));refine' DJ.ofVal (zaa.loadOwn tO rfl rfl rfl rfl (0) rfl (rfl) rfl rfl) rfl rfl rfl ?_;rotate_left;(repeat (first|refine' DD ?_|refine' vN ?_|refine' vF ?_));(refine DJ.nil (fun G9 hG9 hF9=>?_);(case hS|hS2=>rfl));refine EVL.idxB tO rfl rfl rfl rfl rfl rfl rfl rfl rfl (ns.length) (ns.length*15) (rfl) (oM) (rfl) ?_;refine EVL.fldB tO rfl rfl rfl rfl rfl rfl rfl ?_;refine EVL.storeOwn tO rfl rfl rfl rfl rfl rfl ((b,T,_)::D3) ([]) rfl rfl rfl rfl ((zcL (f:=2) hAl3 rfl (by show 2+1≤15;omega))) (zde (f:=2) hAl3 rfl rfl (by show 2+1≤15;omega) rfl) ?_;refine uR ?_;rw[wd];obtain⟨n2,hn2⟩:∃n2:Nd,({ n1 with right:=((ns.length+1+Ls.length:Nat):Int) }:Nd)=n2:=⟨_,rfl⟩
     have hr2:zbX G9 [.int .i64 n1.col,.int .i64 n1.left,.int .i64 ((ns.length+1+Ls.length:Nat):Int),.int .i64 n1.rows,.int .i64 n1.cls,.bool d9,.slice e9 f9 h9,.slice e10 f10 h10,.bool d11,.slice e11 f11 h11,.slice e12 f12 h12,.bool d13,.slice e13 f13 h13,.slice e14 f14 h14,.slice e15 n1.counts.length h15] n2:=by
      subst hn2;exact⟨_,_,_,_,j1.mono hG9,j2.mono hG9,j3.mono hG9,j4.mono hG9,rfl⟩
     have hH9:=hH7.trans (hG8.trans hG9);have hl3:(ns++n2::Ls).length=ns.length+1+Ls.length:=by simp;omega
     have hR:=ih' (H:=G9) (b:=b) (T:=T) (dd:=dd+1) (s:=s2) (ns:=ns++n2::Ls) (hg.mono hH9) (hX.mono hH9) (hgq.mono hH9) oM oM hd1 (hw5.mono (hG6.trans (hG7.trans (hG8.trans hG9)))) hhi3 hhim hD3 (by rw[hl3];exact hback3 _ rfl) (hput3 G9 _ n2 hG9 hr2) (by rw[hl3];omega);rw[hl3]at hR;generalize hRe:p.grow e (ns.length+1+Ls.length) (zaE p.X c t rows) s2=Rp at *
     obtain⟨Rs,s3⟩:=Rp;dsimp only at hR;refine EVL.callW rfl rfl rfl rfl rfl _ [] (qG _).symm hR ?_;rintro _ _ G10 ⟨rfl,out4,D4,ow4,css4,rfl,hD4,hown4,hns4⟩ hG10;rw[qG ((b,T,_)::(D4++ow4))];refine uR ?_
     have hfin:ns++n2::Ls++Rs=ns++({ p.nd rows with col:=c,left:=((ns.length+1:Nat):Int),right:=((ns.length+1+Ls.length:Nat):Int),at':=t }::(Ls++Rs)):=by
      subst hn2;subst hn1;simp
     rw[hfin]at hown4 hns4;refine⟨rfl,out4,D4,ow4,css4,rfl,?_,?_,?_⟩
     ·exact hD4
     ·exact hown4
     ·exact hns4
section
variable {P:Program} {n:Nat} {ops:Array Oper} {o1 o2:Oper} {rest:List Oper} {env:Env} {bx:Bxs} {H:Hs} {Q:EQ} {d d1:Nat}
theorem EVL.convCall {src dst e:TypeId} {u:TypeDesc} {x:Operand} (ho1:o1.op=.convert src dst x) (hg1:o1.guard=none) (hd1:o1.dst=some d1) (hn1:Nat.blt d1 n=true) (hs:P.underlying src=some u) (hdt:P.underlying dst=some (.slice e)) (he:P.underlying e=some (.int .u8)) {s:ByteArray} (hx:env.op x=some (.v (.string s)))
  {f:FuncId} {tys:Array TypeId} (ho2:o2.op=.call ⟨.value (.func f),#[.tmp d1],tys⟩) (hg2:o2.guard=none) (hd2:o2.dst=some d) (hn2:Nat.blt d n=true) {v:Value}
  (hpc:∀(G:Hp) (g cap:Nat) (c:Array Value),s.size≤cap→G g=some c→(∀(j:Nat) (b:UInt8),s.data[j]?=some b→c[j]?=some (Value.int .u8 (b.toNat:Int)))→PC P f #[.slice (some ⟨g,0,none⟩) s.size cap] G fun r _=>r=v)
  (h:∀g cap,EVL P n ops rest ((d,.v v)::(d1,.v (.slice (some ⟨g,0,none⟩) s.size cap))::env) bx H Q):EVL P n ops (o1::o2::rest) env bx H Q:=fun W0 β a W r=>by
 have ex:a.eval x=.string s:=r.op hx;refine wpList_plain hg1 fun K hK=>?_
 have hrun:(execOp a.eval o1).run P W=.ok (.value (.slice (some ⟨W.heap.size,0,none⟩) s.size (grownCap W s.size 0 e))) (Lib.bytesWorld W e s):=by
  unfold execOp;simp only[ho1,ex,Sem.run_bind,Lib.run_convert_string_bytes W src dst e s hs hdt he,Result.andThen_ok,Sem.run_pure]
 unfold Oper.wp;rw[hrun,Oper.upon_value];apply hK;rw[hd1];have hB1:Below W.heap.size W (Lib.bytesWorld W e s):=⟨rfl,rfl,rfl,by rw[Lib.bytesWorld_size];omega,fun k hk=>Lib.bytesWorld_at_old W e s k hk⟩;have hnw:=Lib.bytesWorld_at_new W e s
 have hcell:∀(j:Nat) (b:UInt8),s.data[j]?=some b→(Lib.bytesCells W e s)[j]?=some (Value.int .u8 (b.toNat:Int)):=fun j b hj=>by
  have hjl:=(Array.getElem?_eq_some_iff.1 hj).1;unfold Lib.bytesCells;rw[Array.getElem?_append_left (by simpa using hjl),Array.getElem?_map,hj];rfl
 generalize Lib.bytesWorld W e s=W1 at *
 generalize Lib.bytesCells W e s=cs at *
 have hcap:=grownCap_ge W s.size 0 e;generalize grownCap W s.size 0 e=cap at *
 have hgn:H.ro W.heap.size=none:=by
  cases hc:H.ro W.heap.size with
  | none=>rfl
  | some c=>have:=r.fits.lt (b:=W.heap.size) (by rw[hc];simp);omega
 have r1:=r.grow (Hp.Le.refl H.ro) (r.fits.below hB1) hB1 (Nw.refl _ _ _);have r2:Rel n W0 H.base β ((d1,.v (.slice (some ⟨W.heap.size,0,none⟩) s.size cap))::env) bx ⟨H.ro,H.ow,H.base⟩ (a.put (some d1) (.slice (some ⟨W.heap.size,0,none⟩) s.size cap)) W1:=r1.put hn1 rfl rfl
 have hfG:Fits (H.ro.put W.heap.size cs) W1:=fun b c hb=>by
  unfold Hp.put at hb;split at hb
  ·rename_i e1;subst e1;cases hb;exact⟨_,_,hnw⟩
  ·exact r1.fits b c hb
 have hpc1:=hpc (H.ro.put W.heap.size cs) W.heap.size cap cs hcap (by simp[Hp.put]) hcell;refine wpList_plain hg2 fun K2 hK2=>?_;unfold Oper.wp
 have hev:(a.put (some d1) (.slice (some ⟨W.heap.size,0,none⟩) s.size cap)).eval (.tmp d1)=(.slice (some ⟨W.heap.size,0,none⟩) s.size cap):=by
  have h3:Env.op ((d1,.v (.slice (some ⟨W.heap.size,0,none⟩) s.size cap))::env) (.tmp d1)=some (.v (.slice (some ⟨W.heap.size,0,none⟩) s.size cap)):=by simp[Env.op,Env.get_cons]
  exact r2.op h3
 have hvs:List.map (a.put (some d1) (.slice (some ⟨W.heap.size,0,none⟩) s.size cap)).eval (#[Operand.tmp d1]:Array Operand).toList=[(.slice (some ⟨W.heap.size,0,none⟩) s.size cap)]:=by simp[hev]
 rw[zaT hpc1.can ho2 hvs,Oper.upon_enter];refine(hpc1.run W1 hfG r1.globW).mono ?_;rintro e2 W2 ⟨v',H',rfl,rfl,hle,hf,hb,_⟩;apply hK2;rw[hd2]
 have hf2:Fits H.ro W2:=(hf.mono hle).mono fun k c hk=>by
  have:k≠W.heap.size:=fun e3=>by subst e3;rw[hgn]at hk;cases hk
  simp only[Hp.put,if_neg this];exact hk
 exact h W.heap.size cap W0 β _ W2 ((r2.grow (Hp.Le.refl H.ro) hf2 hb (Nw.refl _ _ _)).put hn2 rfl rfl)
theorem EVL.xorI {o:Oper} {T T':TypeId} {x y:Operand} {k:IntKind} {a b:Int} (ho:o.op=.binOp .xor T x y T') (hw:zai ops env o=some true) (hd:o.dst=some d) (hn:Nat.blt d n=true) (hx:env.op x=some (.v (.int k a))) (hy:env.op y=some (.v (.int k b)))
  (h:EVL P n ops rest ((d,.v (.int k (bits .xor k a b)))::env) bx H Q):EVL P n ops (o::rest) env bx H Q :=
 EVL.gen hw hd hn (fun ev W he=>by
  have h1:=he x _ (by simp[ho,Op.operands]) hx;have h2:=he y _ (by simp[ho,Op.operands]) hy;unfold execOp;simp[ho,h1,h2,eqGuard,binOp,Op.intBits,bits]) h
end
end
section
section
variable {α:Type}
variable {lt:α→α→Bool}
end
end
section
open Go.RowKit _root_.Go.Proofs.Tryz
def Rw {α:Type} (enc:α→Value) (w:World) (B:Nat) (T:TypeId) (cap:Nat) (l:List α):Prop :=
 l.length≤cap∧∃cur,w.heap[B]?=some (.cells cur T (0,0))∧cur.size=cap∧cur.toList.take l.length=l.map enc
section
variable {α:Type} {enc:α→Value} {w w':World} {B:Nat} {T:TypeId} {cap:Nat} {l:List α}
theorem Rw.lt (h:Rw enc w B T cap l):B<w.heap.size:=by obtain⟨_,cur,h,_⟩:=h;exact lt_of_block h
theorem Rw.cell (h:Rw enc w B T cap l) (j:Nat) (hj:j<l.length):w.cell? ⟨B,j,none⟩=some (enc l[j]):=by
 obtain⟨hl,cur,hb,hs,ht⟩:=h;rw[cell_of_row w B j cur T (0,0) hb];have:(cur.toList.take l.length)[j]?=(l.map enc)[j]?:=by rw[ht]
 rw[List.getElem?_take_of_lt hj]at this;rw[←Array.getElem?_toList,this];simp[hj]
theorem Rw.free (h:Rw enc w B T cap l) (j:Nat):w.frozen? ⟨B,j,none⟩=false:=by
 obtain⟨hl,cur,hb,hs,ht⟩:=h;simp[World.frozen?,hb]
theorem Rw.set (h:Rw enc w B T cap l) (j:Nat) (x:α):Rw enc (w.setCell ⟨B,j,none⟩ (enc x)) B T cap (l.set j x):=by
 have hlt:=h.lt;obtain⟨hl,cur,hb,hs,ht⟩:=h;refine⟨by simpa using hl,cur.setIfInBounds j (enc x),?_,by simpa using hs,?_⟩
 ·show (w.heap.modify B _)[B]?=_;rw[Array.getElem?_modify,if_pos rfl,hb];simp
 ·rw[List.length_set,Array.toList_setIfInBounds,List.take_set,ht,List.map_set]
theorem Rw.drew (h:Rw enc w B T cap l):Rw enc w.drew B T cap l:=h
theorem Rw.owns (h:Rw enc w B T cap l) (base:Nat) (hb:base≤B) (hc:cap≤maxLen):w.ownsRow base T 1 (.slice (some ⟨B,0,none⟩) l.length cap) l.length (l.map enc):=by
 obtain⟨hl,cur,hh,hs,ht⟩:=h;exact⟨by simp,.inr ⟨B,cap,cur,rfl,hb,hh,hl,hc,by omega,by rw[Nat.mul_one];exact ht⟩⟩
end
theorem Rw.cellD {w:World} {B:Nat} {T:TypeId} {cap:Nat} {l:List Int} (h:Rw i64 w B T cap l) (j:Nat) (x:Int) (hj:j<l.length) (hx:l.getD j 0=x):w.cell? ⟨B,j,none⟩=some (.int .i64 x):=by
 rw[h.cell j hj,←hx];simp[hj]
def zrZ (n:Nat) (m:List Bool) (x:Int):List Bool:=if 0≤x∧x<n then m.set x.toNat true else m
def ziT (n:Nat) (l:List Int):List Bool:=l.foldl (zrZ n) (List.replicate n false)
theorem zhW (n:Nat) (l:List Int) (x:Int):ziT n (l++[x])=zrZ n (ziT n l) x:=by simp[ziT]
theorem zcJ (n:Nat) (l:List Int):(ziT n l).length=n:=by
 unfold ziT
 suffices H:∀m:List Bool,(l.foldl (zrZ n) m).length=m.length by rw[H];simp
 induction l with
 | nil=>intro m;rfl
 | cons x l ih =>
  intro m;rw[List.foldl_cons,ih];unfold zrZ;split <;> simp
theorem zoZ (n:Nat) (l:List Int) (x:Nat) (hx:x<n):(ziT n l)[x]?=some (decide ((x:Int)∈l)):=by
 induction l using ztl with
 | nil=>simp[ziT,hx]
 | snoc l y ih =>
  rw[zhW];unfold zrZ;split
  ·rename_i h;rw[List.getElem?_set];have hl:=zcJ n l;by_cases e:y.toNat=x
   ·rw[if_pos e,if_pos (by omega)];simp;right;omega
   ·rw[if_neg e,ih];congr 1;simp;intro hy;omega
  ·rename_i h;rw[ih];congr 1;simp;intro hy;omega
def zcy (n:Nat) (l:List Int):List Int:=(zhm n).filter fun x=>decide (x ∉ l)
theorem zih (n:Nat) (l:List Int):zcy (n+1) l=zcy n l++(if (n:Int)∈l then [] else [(n:Int)]):=by
 unfold zcy;rw[zhn,List.filter_append];congr 1;by_cases h:(n:Int)∈l <;> simp[h]
theorem zi6 (n:Nat) (l:List Int):(zcy n l).length≤n:=by
 unfold zcy;have:=List.length_filter_le (fun x=>decide (x ∉ l)) (zhm n);rw[zbW]at this;exact this
theorem Tryz.infoBool:(Tryz.prog.info? 4).map (fun i=>(i.zero,i.size,i.bytes))=some (some (.bool false),1,1):=by kernel_rfl
theorem znn (n:Nat) (w:World) (h:n≤1000000):(Instr.makeSlice 220 (.int .i64 n) (.int .i64 n)).run prog w=.ok (.slice (some ⟨w.heap.size,0,none⟩) n n) (w.alloc (.cells (cellsOf Value.bool (List.replicate n false)) 4)):=by
 obtain⟨i0,hi,hz0,hz1,hz2⟩:=info_parts Tryz.infoBool;have:=run_make (P:=prog) w 220 4 i0 (.bool false) Tryz.underlying220 hi hz0 .i64 .i64 n n oM oM (by rw[hz2];omega) oM;rw[this,hz1];simp only[Int.toNat_natCast,Nat.mul_one,Value.cells];rw[zdA Value.bool]
set_option maxRecDepth 100000 in
theorem zrs (n:Nat) (v:Value) (l:List Int) (w:World) (hS:Sl i64 w v l) (hn:1≤n) (hn2:n≤300) (hl:l.length≤1000000) :
  Calls prog 88 #[.int .i64 n,v] w fun e w'=>∃v',e=.returned v'∧w'.ownsRow w.heap.size 3 1 v' (zcy n l).length ((zcy n l).map i64)∧Below w.heap.size w w':=by
 obtain⟨i0,hi,hz0,hz1,hz2⟩:=info_parts Tryz.infoInt;obtain⟨a,cap,rfl⟩:=hS.len;have hmk:=fun w=>znn n w oM
 go_enter func88,ntmps88;go_wp2
 go_loopg [20] l.length (fun g i wr=>∃j:Nat,j+g=l.length∧i=.int .i64 j∧Blk Value.bool wr w.heap.size (ziT n (l.take j))∧Below w.heap.size w wr)
 case atStart=>exact⟨0,by omega,rfl,Blk.new _ _ _ _,(Below.refl _ _).alloc (qH _) _⟩
 case round =>
  obtain⟨j,hj,rfl,hB,hK⟩:=hrel;by_cases hlt:j<l.length
  ·obtain⟨b,off,rfl,hb,hc⟩:=hS.at j hlt;have hts:l.take (j+1)=l.take j++[l[j]]:=List.take_succ_eq_append_getElem hlt;have hms:=zhW n (l.take j) l[j];rw[←hts]at hms;have hcr:=(hK.cell (p:=⟨b,off+j,none⟩) hb).trans hc;generalize l[j]=x at *
   have HM:=hid hms;have HJ:=hid hj;clear hms hts hj hc;have hml:=zcJ n (l.take j);by_cases hx:0≤x∧x<n
   ·obtain⟨hx1,hx2⟩:=hx;obtain⟨y,rfl⟩:=Int.eq_ofNat_of_zero_le hx1;obtain⟨v0,hcc⟩:=hB.has y oM;have hf:=hB.free y;have hy:y<n:=by omega
    have HL:=hid hml;clear hml;go_wp2
    go_roundg (gk-1)
    case measure=>have:=HJ.out;omega
    case rel =>
     refine⟨j+1,by have:=HJ.out;omega,by go_num,?_,hK.setCell (p:=⟨w.heap.size,y,none⟩) (qH _) _⟩;rw[HM.out];have:=hB.set y true;unfold zrZ;rw[if_pos ⟨hx1,hx2⟩];exact this
   ·have HX:=hid hx;by_cases h1:0≤x
    ·have h2:(n:Int)≤x:=by omega
     clear hx hml;go_wp2
     go_roundg (gk-1)
     case measure=>have:=HJ.out;omega
     case rel =>
      refine⟨j+1,by have:=HJ.out;omega,by go_num,?_,hK⟩;rw[HM.out];unfold zrZ;rw[if_neg HX.out];exact hB
    ·clear hx hml;go_wp2
     go_roundg (gk-1)
     case measure=>have:=HJ.out;omega
     case rel =>
      refine⟨j+1,by have:=HJ.out;omega,by go_num,?_,hK⟩;rw[HM.out];unfold zrZ;rw[if_neg HX.out];exact hB
  ·obtain rfl:j=l.length:=by omega
   rw[List.take_length]at hB;obtain⟨wo,hwo⟩:∃wo:World,wo=wr:=⟨_,rfl⟩;rw[←hwo]at hB hK;subst hwo;go_wp2
   go_loopg [8,36] n (fun g v i wr=>∃j:Nat,j+g=n∧i=.int .i64 j∧wr.ownsRow (w.heap.size+1) 3 1 v (zcy j l).length ((zcy j l).map i64)∧Blk Value.bool wr w.heap.size (ziT n l)∧Below w.heap.size w wr)
   case atStart=>exact⟨0,by omega,rfl,World.ownsRow_nil _ _ _ _,hB,hK⟩
   case round =>
    obtain⟨j,hj,rfl,hown,hB,hK⟩:=hrel;by_cases hlt:j<n
    ·have hrs:=zih j l;have hgt:=zoZ n l j hlt;have hrl:=zi6 j l
     have hcell:wr.cell? ⟨w.heap.size,j,none⟩=some (.bool (decide ((j:Int)∈l))):=by
      rw[hB.cell j (by rw[zcJ];exact hlt)];have:=zcJ n l;rw[qA (by omega)]at hgt;simp only[Option.some.injEq]at hgt;rw[hgt]
     have HR:=hid hrs;have HJ:=hid hj;clear hrs hgt hj;have hsz:w.heap.size+1≤wr.heap.size:=by have:=hB.lt;omega
     by_cases hm:(j:Int)∈l
     ·have hd:decide ((j:Int)∈l)=true:=by simpa using hm
      rw[hd]at hcell;clear hd;have HM:=hid hm;clear hm;go_wp2
      go_roundg (gk-1)
      case measure=>have:=HJ.out;omega
      case rel =>
       refine⟨j+1,by have:=HJ.out;omega,by go_num,?_,hB,hK⟩;rw[HR.out,if_pos HM.out,qG];exact hown
     ·have hd:decide ((j:Int)∈l)=false:=by simpa using hm
      rw[hd]at hcell;clear hd;have HM:=hid hm;clear hm
      go_wp2_with (at_builtin;refine app1 rfl _ _ 23 rfl (w.heap.size+1) 3 (.int .i64 0) 8 Tryz.infoInt Tryz.underlying23 rfl _ _ _ rfl hown _ rfl rfl oM oM hsz ?_;intro g' cap' w1 hown1 hk1);have hne:∀k,u8.ownBlock=some k→w.heap.size+1≤k:=fun k e=>(hown.lt k e).1
      go_roundg (gk-1)
      case measure=>have:=HJ.out;omega
      case rel =>
       refine⟨j+1,by have:=HJ.out;omega,by go_num,?_,hB.kept hk1 (fun e=>by have:=hne _ e;omega),?_⟩
       ·rw[HR.out,if_neg HM.out];simpa using hown1
       ·exact hK.trans (hk1.below _ oM (fun k hk e=>by have:=hne _ e;omega))
    ·obtain rfl:j=n:=by omega
     go_wp2
     go_ret;exact⟨_,rfl,zhY hown oM,hK⟩
theorem Rw.of_owns {α:Type} {enc:α→Value} {w:World} {base:Nat} {T:TypeId} {g cap n:Nat} {l:List α} (h:w.ownsRow base T 1 (.slice (some ⟨g,0,none⟩) n cap) n (l.map enc)):Rw enc w g T cap l∧base≤g∧cap≤maxLen∧n=l.length:=by
 have hn:n=l.length:=by have:=h.1;simp at this;omega
 rcases h.2 with ⟨h0,_⟩ | ⟨g',cap',cur,hv,hb,hh,h1,h2,h3,h4⟩
 ·cases h0
 ·cases hv;subst hn;exact⟨⟨h1,cur,hh,by omega,by rw[Nat.mul_one]at h4;exact h4⟩,hb,h2,rfl⟩
theorem zny (S:List Int) (x:Int) (k:Nat) (hS:S.Pairwise (·≤·)) (h1:∀y∈S.drop k,x<y) (h2:∀y∈S.take k,y≤x):(S.take k++x::S.drop k).Pairwise (·≤·):=by
 have hS':(S.take k++S.drop k).Pairwise (·≤·):=by rw[List.take_append_drop];exact hS
 obtain⟨a,b,c⟩:=List.pairwise_append.1 hS';refine List.pairwise_append.2 ⟨a,List.pairwise_cons.2 ⟨fun y hy=>by have:=h1 y hy;omega,b⟩,fun y hy z hz=>?_⟩;rcases List.mem_cons.1 hz with rfl | hz
 ·exact h2 y hy
 ·exact c y hy z hz
theorem ztd (S T:List Int) (x:Int) (k:Nat) (hS:S.Pairwise (·≤·)) (hp:S.Perm T) (h1:∀y∈S.drop k,x<y) (h2:∀y∈S.take k,y≤x):za0 (T++[x])=S.take k++x::S.drop k:=by
 refine zjd ?_ (zny S x k hS h1 h2);refine(List.perm_append_singleton _ _).trans ?_;refine(List.Perm.cons x hp.symm).trans ?_;refine List.Perm.trans ?_ List.perm_middle.symm;rw[List.take_append_drop]
theorem zr7 {w:World} {g cap j n:Nat} {T:TypeId} (S l:List Int) (x d:Int) (k:Nat) (base:Nat) (hR:Rw i64 w g T cap (S.take k++d::S.drop k)) (hk:k≤S.length) (hS:S.Pairwise (·≤·)) (hp:S.Perm (l.take j)) (h1:∀y∈S.drop k,x<y) (h2:∀y∈S.take k,y≤x) (hts:l.take (j+1)=l.take j++[x]) (hn:n=S.length+1) (hb:base≤g) (hc:cap≤maxLen) :
  (w.setCell ⟨g,k,none⟩ (.int .i64 x)).ownsRow base T 1 (.slice (some ⟨g,0,none⟩) n cap) n ((za0 (l.take (j+1))).map i64):=by
 have h:=hR.set k x;rw[List.set_append_right _ _ (by simp;omega),show k-(S.take k).length=0 by simp;omega,List.set_cons_zero]at h;rw[hts,ztd S (l.take j) x k hS hp h1 h2];have:=h.owns base hb hc;rw[show (S.take k++x::S.drop k).length=n by simp;omega]at this;exact this
theorem zeN (S Q:List Int) (d:Int) (k:Nat) (h:k≤S.length):(S.take k++d::Q).getD k 0=d:=by
 rw[qB,List.getElem?_append_right (by simp;omega)];simp[Nat.min_eq_left h]
set_option maxRecDepth 100000 in
theorem znR (v:Value) (l:List Int) (w:World) (hS:Sl i64 w v l) (hl:l.length≤100000) :
  Calls prog 97 #[v] w fun e w'=>∃v',e=.returned v'∧w'.ownsRow w.heap.size 3 1 v' l.length ((za0 l).map i64)∧Below w.heap.size w w':=by
 obtain⟨a,cap,rfl⟩:=hS.len
 go_enter func97,ntmps97;go_wp2
 go_loopg [3,4,5] l.length (fun g v i _ wr=>∃j:Nat,j+g=l.length∧i=.int .i64 j∧wr.ownsRow w.heap.size 3 1 v j ((za0 (l.take j)).map i64)∧Below w.heap.size w wr)
 case atStart=>exact⟨0,by omega,rfl,by simpa[za0] using World.ownsRow_nil _ _ _ _,Below.refl _ _⟩
 case round =>
  obtain⟨j,hj,rfl,hown,hB⟩:=hrel;by_cases hlt:j<l.length
  ·obtain⟨b,off,rfl,hb,hc⟩:=hS.at j hlt;have hcr:=(hB.cell (p:=⟨b,off+j,none⟩) hb).trans hc;have hts:l.take (j+1)=l.take j++[l[j]]:=List.take_succ_eq_append_getElem hlt;generalize l[j]=x at *
   have HJ:=hid (And.intro hj hts);clear hj hts;have hsz:=hB.size;have hSs:=zdK (l.take j);have hSp:=zcr (l.take j);have hSl:(za0 (l.take j)).length=j:=by rw[zaU];simp;omega
   obtain⟨uv,hu3⟩:∃a' cap',u3=.slice a' j cap':=by
    rcases hown.2 with ⟨h,h0⟩ | ⟨g,cap,cur,h,_⟩
    ·exact⟨none,0,by rw[h,h0]⟩
    ·exact⟨_,_,h⟩
   obtain⟨cap0,rfl⟩:=hu3;generalize za0 (l.take j)=S at *
   have HS:=hid (And.intro hSs (And.intro hSp hSl));clear hSs hSp hSl
   go_wp2_with (at_builtin;refine app1 rfl _ _ 23 rfl w.heap.size 3 (.int .i64 0) 8 Tryz.infoInt Tryz.underlying23 rfl _ _ _ rfl hown _ rfl rfl oM oM hsz ?_;intro g' cap' w1 hown1 hk1);have hne:∀k,(Value.slice uv j cap0).ownBlock=some k→w.heap.size≤k:=fun k e=>(hown.lt k e).1;have hB1:Below w.heap.size w w1:=hB.trans (hk1.below _ hB.size (fun k hk e=>by have:=hne k e;omega));have hown2:w1.ownsRow w.heap.size 3 1 (.slice (some ⟨g',0,none⟩) (j+1) cap') (j+1) ((S++[x]).map i64):=by simpa using hown1
   obtain⟨hR1,hbg,hcm,hnn⟩:=Rw.of_owns hown2;clear hnn hown hown1 hown2 hne hk1 hB hcr
   go_loopg [5] j (fun g vk wr=>∃(k:Nat) (d:Int),k=g∧k≤j∧vk=.int .i64 k∧(∀y∈S.drop k,x<y)∧Rw i64 wr g' 3 cap' (S.take k++d::S.drop k)∧Below w.heap.size w wr)
   case atStart =>
    obtain⟨hSs,hSp,hSl⟩:=HS.out;refine⟨j,x,rfl,qH _,rfl,?_,?_,hB1⟩
    ·rw[List.drop_eq_nil_of_le (by omega)];simp
    ·rw[List.drop_eq_nil_of_le oM,List.take_of_length_le (by omega)];exact hR1
   case round =>
    obtain⟨k,d,hkg,hkj,rfl,hall,hR2,hB2⟩:=hrel;obtain⟨hSs,hSp,hSl⟩:=HS.out;have hcx:=(hB2.cell (p:=⟨b,off+j,none⟩) hb).trans hc;have hLl:(S.take k++d::S.drop k).length=j+1:=by simp;omega
    have hdk:(S.take k++d::S.drop k).getD k 0=d:=zeN S _ d k oM;have hck:=hR2.cellD k d oM hdk;have hfk:=hR2.free k;by_cases hk0:0<k
    ·obtain⟨k',rfl⟩:∃k',k=k'+1:=⟨k-1,by omega⟩;have hk'S:k'<S.length:=by omega
     have et:S.take (k'+1)=S.take k'++[S[k']]:=List.take_succ_eq_append_getElem hk'S;have ed:S.drop k'=S[k']::S.drop (k'+1):=List.drop_eq_getElem_cons hk'S
     have hle:∀y∈S.take k',y≤S[k']:=by
      intro y hy;obtain⟨i,hi,rfl⟩:=List.mem_take_iff_getElem.1 hy;exact List.pairwise_iff_getElem.1 hSs i k' oM hk'S oM
     have hpy:(S.take (k'+1)++d::S.drop (k'+1)).getD k' 0=S[k']:=by
      rw[et,List.append_assoc];exact zeN S _ _ k' oM
     have hcy:=hR2.cellD k' S[k'] oM hpy;have hset:=hR2.set (k'+1) S[k']
     have hsl2:(S.take (k'+1)++d::S.drop (k'+1)).set (k'+1) S[k']=S.take k'++S[k']::S.drop k':=by
      rw[List.set_append_right _ _ (by simp;omega),show k'+1-(S.take (k'+1)).length=0 by simp;omega,List.set_cons_zero,et,ed,List.append_assoc];rfl
     rw[hsl2]at hset
     have hlast:x≥S[k']→∀y∈S.take (k'+1),y≤x:=fun h y hy=>by
      rw[et,List.mem_append,List.mem_singleton]at hy;rcases hy with hy | rfl
      ·have:=hle y hy;omega
      ·exact h
     have hmore:x<S[k']→∀y∈S.drop k',x<y:=fun h y hy=>by
      rw[ed]at hy;rcases List.mem_cons.1 hy with rfl | hy
      ·exact h
      ·exact hall y hy
     generalize S[k']=y at *
     have HX:=hid (And.intro hset (And.intro hlast (And.intro hmore hkg)));clear hset hlast hmore hkg et ed hle hpy hsl2 hLl hdk hSs hSp hSl;have t1:decide (0<k'+1)=true:=by simp
     have t2:(((k'+1:Nat):Int)-1).toNat=k':=by omega
     have t3:IntKind.i64.wrap (((k'+1:Nat):Int)-1)=(k':Int):=by rw[IntKind.wrap_i64];omega
     have t5:k'<j+1:=by omega
     by_cases hxy:x<y
     ·have t4:decide (x<y)=true:=by simpa using hxy
      go_wp2
      go_quiet (fail);go_wp2
      go_roundg k'
      case measure=>have:=HX.out.2.2.2;omega
      case rel=>exact⟨k',y,rfl,by omega,by go_num,HX.out.2.2.1 hxy,HX.out.1,(za5 hB2 _).setCell (p:=⟨g',k'+1,none⟩) hbg _⟩
     ·have t4:decide (x<y)=false:=by simpa using hxy
      go_wp2
      go_quiet (fail);go_wp2
      go_roundg (l.length-(j+1))
      case measure=>have:=HJ.out.1;omega
      case rel =>
       obtain⟨hSs,hSp,hSl⟩:=HS.out;exact⟨j+1,by omega,by go_num,zr7 S l x d (k'+1) w.heap.size hR2.drew oM hSs hSp hall (HX.out.2.1 oM) HJ.out.2 oM hbg hcm,(za5 hB2 _).setCell (p:=⟨g',k'+1,none⟩) hbg _⟩
    ·obtain rfl:k=0:=by omega
     clear hSs hSp hSl hLl hdk hkg;go_wp2
     go_quiet (fail);go_wp2
     go_roundg (l.length-(j+1))
     case measure=>have:=HJ.out.1;omega
     case rel =>
      obtain⟨hSs,hSp,hSl⟩:=HS.out;exact⟨j+1,by omega,by go_num,zr7 S l x d 0 w.heap.size hR2.drew oM hSs hSp hall (by simp) HJ.out.2 oM hbg hcm,(za5 hB2 _).setCell (p:=⟨g',0,none⟩) hbg _⟩
  ·obtain rfl:j=l.length:=by omega
   rw[List.take_length]at hown;go_wp2
   go_ret;exact⟨_,rfl,hown,hB⟩
end
end Go.Proofs.YtplhljjljnkhpaaGreatDoor
