/- Texts of ours in one: Tr4, Tr5, TrT, Tr6, Tr7, Tr8, Tr9, Tr10, Tr11, Tr12, Tr13, Wd8, Ev28, Pg1, Tr14, Tr15, Pg2, Od1, Pg3, Tr16, Tr17, Tr18, Tr19, Tr20, Tr21, Tr22, Tr23, Tr24, Tr25, Tr26, Opn, Opn20, Tr27, Tr29, Tr30, Tr31, Pg4, Pg5, Pg6, Pg7, Pg8, Tr32, Tr33, Tr34, Tr35, Tr36, PgD, Ot1, Ot2, PgE, PgF, PgG, LaidE. -/
import Derived.Test.YtplhljjljnkhpaaGreatDoorC0
import Derived.Test.YtplhljjljnkhpaaGreatDoorC1
import Derived.Test.YtplhljjljnkhpaaGreatDoorC2
import Derived.Test.YtplhljjljnkhpaaGreatDoorC3
import Derived.Test.YtplhljjljnkhpaaGreatDoorC4
import Derived.WalkKit
import Derived.ProofKit
import Derived.OpenShut
import Derived.LaidMore
import Derived.Lay
import Derived.Stop.Joined
set_option linter.unusedVariables false
set_option linter.unusedSimpArgs false
set_option maxHeartbeats 64000000
namespace Go.Proofs.YtplhljjljnkhpaaGreatDoor
section
open Go.RowKit _root_.Go.Proofs.Tryz
def zsd (l:List Nat):Int:=l.foldl (fun (h:Int) (b:Nat)=>IntKind.u64.wrap (bits .xor .u64 h (IntKind.u64.wrap (b:Int))*1099511628211)) 14695981039346656037
theorem zkA (l:List Nat) (b:Nat):zsd (l++[b])=IntKind.u64.wrap (bits .xor .u64 (zsd l) (IntKind.u64.wrap (b:Int))*1099511628211):=by unfold zsd;rw[List.foldl_append];rfl
theorem zto {H:Hp} {v:Value} {l:List Nat} (h:SlN n8 H v l) (hl:l.length≤1000000):PC prog 96 #[v] H fun r _=>r=.int .u64 (zsd l):=by
 obtain⟨a,cap,rfl⟩:=SlC.val h;refine BD func96 ntmps96 ?_;refine uR ?_;refine EV.loopK (ι:=Nat) [0] [] (fun q=>[(3,.v (.int .u64 (zsd (l.take q)))),(4,.v (.int .i64 (q:Int)))]) (fun _=>[]) (fun _=>[]) (fun q _=>q≤l.length) (fun q=>l.length-q) (0) rfl rfl ⟨rfl,rfl,trivial⟩ trivial rfl (fun _=>rfl) (Nat.zero_le _) ?_;rintro i G1 hG1 hi;refine uR ?_;refine EV.cond rfl (fun hlt=>?_) (fun hlt=>?_)
 ·simp only[nN]at hlt;obtain⟨z,hz⟩:=gE hlt;refine uR ?_;refine vI ((h.mono hG1)) (i) (rfl) (hlt) ((by rw[List.getElem?_map,hz];rfl)) ?_;refine uR ?_;refine EVL.xorI rfl rfl rfl rfl rfl rfl ?_;refine uR ?_;refine⟨i+1,⟨by rw[zah hz,zkA];rfl,by rw[zab i (by omega)];rfl,trivial⟩,sB,trivial,trivial,rfl,hlt,Hp.Le.refl _,by omega⟩
 ·simp only[nN]at hlt;obtain rfl:i=l.length:=by omega
  rw[List.take_length];refine uR ?_;rfl
def zcg (s:Int) (t:ByteArray):Int:=bits .xor .u64 (mix (nxt s)) (zsd (t.data.toList.map UInt8.toNat))
theorem zru {H:Hp} {b:Nat} {T:TypeId} {s:Int} {t:ByteArray} (hs:0≤s) (ht:t.size≤1000000) :
  PW prog 47 #[.pointer (some ⟨b,0,none⟩),.string t] H [(b,T,[.int .u64 s])] fun v ow _=>∃T' g,v=.pointer (some ⟨g,0,none⟩)∧ow=[(g,122,[.int .u64 (zcg s t)]),(b,T',[.int .u64 (nxt s)])]∧0≤nxt s∧0≤zcg s t:=by
 refine PW.body tO func47 rfl kR ntmps47 rfl rfl ?_;refine uR ?_;refine vW ([(b,T,[.int .u64 s])]) ([]) (zrx hs) ?_;rintro _ ow1 G1 ⟨rfl,⟨T1,rfl⟩,hn⟩ hG1;refine uR ?_;refine EVL.convCall (e:=5) rfl rfl rfl rfl Tryz.underlying9 Tryz.underlying165 Tryz.underlying5 rfl rfl rfl rfl rfl (fun G g cap c hc hG hcell=>zto (l:=t.data.toList.map UInt8.toNat) ⟨by simp,?_⟩ (by simpa using ht)) fun g cap=>?_
 ·rw[List.length_map,Array.length_toList];refine .inr ⟨g,0,cap,c,rfl,hc,hG,fun j x hj=>?_⟩;rw[List.getElem?_map,List.getElem?_map,Array.getElem?_toList]at hj
  cases hb:t.data[j]? with
  | none=>rw[hb]at hj;cases hj
  | some b =>
   rw[hb]at hj;cases hj;rw[Nat.zero_add];exact hcell j b hb
 refine EVL.xorI rfl rfl rfl rfl rfl rfl ?_;refine EVL.val tO rfl rfl rfl rfl rfl ?_;refine EVL.box rfl rfl rfl rfl rfl rfl rfl ?_;(first|refine EVL.unbox (12) rfl fun g2=>?_|refine EV.unbox (12) rfl fun g2=>?_);refine uR ?_;exact⟨_,g2,rfl,rfl,hn,(zfa _ _ _).1⟩
theorem PO.of_row {P:Program} {f:FuncId} {args:Array Value} {H:Hp} {n:Nat} {E:TypeId} {xs:List Value} (can:zax P f) (h:∀W,Fits H W→Calls P f args W fun e w'=>∃v',e=.returned v'∧w'.ownsRow W.heap.size E 1 v' n xs∧Below W.heap.size W w'):PO P f args H fun v ow=>zaK E 1 v n xs ow :=
 ⟨can,fun W hf _=>(h W hf).mono fun e W' ⟨v,he,hrow,hb⟩=>by
  obtain⟨ow,h1,h2⟩:=zeo hrow;exact⟨v,ow,he,h1,h2,hb⟩⟩
theorem PC.of_po {P:Program} {f:FuncId} {args:Array Value} {H:Hp} {E:TypeId} {l:List Int} (h:PO P f args H fun v ow=>zaK E 1 v l.length (l.map i64) ow):PC P f args H fun v H'=>IL H' v l :=
 ⟨h.can,fun W hf hg=>(h.run W hf hg).mono fun e W' ⟨v,ow,he,hown,⟨hlen,hnew⟩,hb⟩=>by
  rcases hown.2 with ⟨rfl,h0,rfl⟩ | ⟨g,cap,sp,rfl,rfl,h1,h2,h3⟩
  ·exact⟨_,H,he,⟨by simp,.inl ⟨h0,none,0,rfl⟩⟩,Hp.Le.refl _,hf.below hb,hb,Nw.refl _ _ _⟩
  ·obtain⟨hg1,hB⟩:=hnew g E _ (List.mem_singleton.2 rfl)
   have hn:H g=none:=by
    cases hc:H g with
    | none=>rfl
    | some c=>have:=hf.lt (b:=g) (by rw[hc];simp);omega
   refine⟨_,H.put g (l.map i64++sp).toArray,he,⟨by simp,.inr ⟨g,0,cap,(l.map i64++sp).toArray,rfl,h2,by simp[Hp.put],fun j x hj=>?_⟩⟩,fun k c hc=>?_,fun k c hc=>?_,hb,fun k c hc=>?_⟩
   ·rw[Nat.zero_add];have hj':=(qE.1 hj).1;simp only[List.getElem?_toArray];rw[List.getElem?_append_left hj'];exact hj
   ·have:k≠g:=fun e=>by subst e;rw[hn]at hc;cases hc
    simp only[Hp.put,if_neg this];exact hc
   ·by_cases e:k=g
    ·subst e;simp only[Hp.put,if_true]at hc;cases hc;exact⟨E,(0,0),hB⟩
    ·simp only[Hp.put,if_neg e]at hc;exact hf.below hb k c hc
   ·by_cases e:k=g
    ·subst e;simp only[Hp.put,if_true]at hc;cases hc;exact .inr ⟨hg1,E,hB⟩
    ·simp only[Hp.put,if_neg e]at hc;exact .inl hc⟩
theorem zpB {H:Hp} {v:Value} {l:List Int} (h:IL H v l) (hl:l.length≤100000):PC prog 97 #[v] H fun r H'=>IL H' r (za0 l) :=
 PC.of_po (E:=3) (PO.of_row (cO func97) fun W hf=>by
  obtain⟨a,cap,rfl,hs,_⟩:=SlN.sl h hf;rw[zaU];exact znR _ l W hs hl)
theorem zrD {H:Hp} {v:Value} {l:List Int} (h:IL H v l) (n:Nat) (hn:n≤300) (hl:l.length≤100000):PC prog 99 #[.int .i64 (n:Int),v] H fun r H'=>IL H' r (zcy n l):=by
 obtain⟨a,cap,rfl⟩:=SlC.val h;refine BD func99 ntmps99 ?_;refine uR ?_;rw[qC (show ¬(n:Int)>300 by omega)];refine uR ?_;refine EV.loopK (ι:=Nat × Value × Ows) [0,1] [] (fun q=>[(5,.v q.2.1),(6,.v (.int .i64 (q.1:Int)))]) (fun _=>[]) (fun q=>q.2.2) (fun q _=>q.1≤n∧zaK 3 1 q.2.1 (zcy q.1 l).length ((zcy q.1 l).map iv) q.2.2) (fun q=>n-q.1) ((0,.slice none 0 0,[])) rfl rfl ⟨rfl,rfl,trivial⟩ trivial rfl (fun _=>rfl) (⟨Nat.zero_le _,zaK.nil _ _⟩) ?_;rintro⟨i,w,ow⟩ G1 hG1 ⟨hi,hown⟩;dsimp only at hi hown;obtain⟨wa,wc,rfl⟩:=hown.val;have hrl:=zi6 i l;have hsn:=zih i l;have wn:IntKind.i64.wrap ((i:Int)+1)=((i+1:Nat):Int):=zab i oM;refine uR ?_;refine EV.cond rfl (fun hlt=>?_) (fun hlt=>?_)
 ·simp only[nN]at hlt;refine uR ?_;refine EV.loopK (ι:=Nat) [0,1,5,6] [] (fun k=>[(7,.v (.bool (decide ((i:Int)∈l.take k)))),(8,.v (.int .i64 (k:Int)))]) (fun _=>[]) (fun _=>ow) (fun k _=>k≤l.length) (fun k=>l.length-k) (0) rfl rfl ⟨(by rw[List.take_zero,qC List.not_mem_nil];rfl),rfl,trivial⟩ trivial rfl (fun _=>rfl) (Nat.zero_le _) ?_;rintro k G2 hG2 hk;refine uR ?_;refine EV.cond rfl (fun hlk=>?_) (fun hlk=>?_)
  ·simp only[nN]at hlk;obtain⟨z,hz⟩:=gE hlk;have hts:=zah hz;have wk:IntKind.i64.wrap ((k:Int)+1)=((k+1:Nat):Int):=zab k oM;by_cases hm:(i:Int)∈l.take k
   ·rw[qD hm];refine uR ?_;refine⟨k+1,⟨by rw[hts,qD (List.mem_append_left _ hm)];rfl,by rw[wk];rfl,trivial⟩,sB,trivial,trivial,rfl,hlk,Hp.Le.refl _,by omega⟩
   ·rw[qC hm];refine uR ?_;refine vI ((h.mono (hG1.trans hG2))) (k) (rfl) (hlk) ((by rw[List.getElem?_map,hz];rfl)) ?_;refine uR ?_
    have hzi:decide ((i:Int)∈l.take (k+1))=(z == (i:Int)):=by
     rw[hts];by_cases e:z=(i:Int)
     ·rw[show (z == (i:Int))=true from beq_iff_eq.2 e,e,qD (List.mem_append_right _ (List.mem_singleton.2 rfl))]
     ·rw[show (z == (i:Int))=false from beq_eq_false_iff_ne.2 e,qC (fun k=>by rcases List.mem_append.1 k with k | k;exact hm k;exact e (List.mem_singleton.1 k).symm)]
    refine⟨k+1,⟨by rw[hzi];rfl,by rw[wk];rfl,trivial⟩,sB,trivial,trivial,rfl,hlk,Hp.Le.refl _,by omega⟩
  ·simp only[nN]at hlk;obtain rfl:k=l.length:=by omega
   rw[List.take_length];by_cases hm:(i:Int)∈l
   ·rw[qD hm];rw[if_pos hm,qG]at hsn;refine uR ?_;exact⟨(i+1,_,ow),⟨rfl,by rw[wn];rfl,trivial⟩,sB,trivial,trivial,rfl,⟨by dsimp only;omega,by dsimp only;rw[hsn];exact hown⟩,hG2,by dsimp only;omega⟩
   ·rw[qC hm];rw[if_neg hm]at hsn;refine uR ?_;refine EVL.app1 tO rfl rfl rfl rfl rfl rfl rfl rfl rfl rfl rfl rfl rfl rfl rfl rfl rfl rfl rfl (fun _=>rfl) (ow) ([]) ((qG _).symm) (hown) oM fun _=>?_;intro v' ow' hown';refine uR ?_;exact⟨(i+1,v',ow'),⟨rfl,by rw[wn];rfl,trivial⟩,sB,trivial,trivial,qG _,⟨by dsimp only;omega,by dsimp only;rw[hsn];exact hown'.il⟩,hG2,by dsimp only;omega⟩
 ·simp only[nN]at hlt;obtain rfl:i=n:=by omega
  (first|refine EVL.publishL [] ow [] ((qG _).symm) hown fun G2 hG2 hs=>?_|refine EV.publishL [] ow [] ((qG _).symm) hown fun G2 hG2 hs=>?_);refine uR ?_;exact hs
theorem zeH {b:Nat} {T:TypeId} {cs:List Value} {ow post:Ows} (h:zce ((b,T,cs)::(ow++post))):∀p,p∈ow→b≠p.1:=fun p hp e=>by
 obtain⟨j,hj⟩:=List.mem_iff_getElem?.1 hp;obtain⟨g,T',cs'⟩:=p;have hj':=(qE.1 hj).1;have:=h 0 (j+1) b T T' cs cs' rfl (by rw[List.getElem?_cons_succ,List.getElem?_append_left hj',hj,e]);omega
theorem zrp {H:Hp} {b n:Nat} {T:TypeId} {s:Int} (hs:0≤s) (hn:1≤n) (hn2:n≤300) :
  PW prog 48 #[.int .i64 (n:Int),.pointer (some ⟨b,0,none⟩)] H [(b,T,[.int .u64 s])] fun v ow H'=>∃T' u w,v=.tuple #[u,w]∧ow=[(b,T',[.int .u64 (zaA n n s).2])]∧0≤(zaA n n s).2∧IL H' u (za0 (zaA n n s).1)∧IL H' w (zcy n (za0 (zaA n n s).1)):=by
 have hdl:=za6 n n s;refine PW.body tO func48 rfl kR ntmps48 rfl rfl ?_;refine uR ?_;rw[qC (show ¬(n:Int)<1 by omega)];refine uR ?_;rw[qC (show ¬(n:Int)>300 by omega)];refine uR ?_;refine EVL.callW rfl rfl rfl rfl rfl ([(b,T,[.int .u64 s])]) ([]) rfl (zrq hs oM oM oM) ?_;rintro v1 _ G1 ⟨T1,ow1,rfl,hs1,hown1⟩ hG1;refine EVL.apart fun hdis=>?_
 refine EVL.publishL [(b,T1,_)] ow1 [] rfl hown1 (fun G2 hG2 hc=>?_) (fun k hk p hp=>by
  obtain rfl:=List.mem_singleton.1 hk;exact zeH hdis p hp)
 have hil:IL G2 v1 (zaA n n s).1:=hc;obtain⟨a1,c1,rfl⟩:=SlC.val hil;refine uR ?_;refine EVL.call rfl rfl rfl rfl rfl (zpB hil oM) ?_;intro r3 G3 hr3 hG3;obtain⟨a3,c3,rfl⟩:=SlC.val hr3;refine uR ?_;refine vA (zrD hr3 n hn2 (by rw[zaU];omega)) ?_;intro r4 G4 hr4 hG4;refine uR ?_;exact⟨T1,_,_,rfl,rfl,hs1,hr3.mono hG4,hr4⟩
set_option maxRecDepth 100000 in
theorem zrw {H:Hp} {vx:Value} {X:List (List Rat)} (hX:RLL H vx X) {w:Nat} (hw:∀x,x∈X→x.length=w) (h1:1≤w) (h0:0<X.length) (hn:X.length≤1000000):PC prog 93 #[vx] H fun r _=>r=.bool true:=by
 obtain⟨xa,xc,rfl⟩:=hX.val;refine BD func93 ntmps93 ?_;refine uR ?_;refine EV.loopK (ι:=Nat) [0] [] (fun q=>[(3,.v (.int .i64 (q:Int)))]) (fun _=>[]) (fun _=>[]) (fun q _=>q≤X.length) (fun q=>X.length-q) (0) rfl rfl ⟨rfl,trivial⟩ trivial rfl (fun _=>rfl) (Nat.zero_le _) ?_;rintro i G1 hG1 hi;obtain⟨vs,hvs,hs⟩:=hX.mono hG1;obtain⟨x0,hx0⟩:=gE h0;obtain⟨u0,e0,hu0,_⟩:=hvs.at hx0;have hw0:=hw x0 (qF hx0);refine uR ?_;refine EV.cond rfl (fun hlt=>?_) (fun hlt=>?_)
 ·simp only[nN]at hlt;obtain⟨x,hx⟩:=gE hlt;obtain⟨u1,e1,hu1,_⟩:=hvs.at hx;have hw1:=hw x (qF hx);rw[hw0]at hu0;rw[hw1]at hu1;refine uR ?_;apply EV.drawn 18 kR kR;intro xv yw;(repeat refine' DD ?_);refine' vJ (hs) (i) (rfl) (hlt) (hu1) ?_;rotate_left;(repeat refine' DD ?_);refine' vJ (hs) (0) (rfl) (h0) (hu0) ?_;rotate_left;(repeat refine' DD ?_);rw[show ((w:Int) != (w:Int))=false from bne_self_eq_false _];(repeat refine' DD ?_);refine' vJ (hs) (i) (rfl) (hlt) (hu1) ?_;rotate_left;(repeat refine' DD ?_);rw[show ((w:Int) == 0)=false from beq_eq_false_iff_ne.2 (by omega)];(repeat refine' DD ?_);(refine DJ.nil (fun G hG hF=>?_);(case hS|hS2=>rfl));refine uR ?_;refine⟨i+1,⟨by rw[zab i (by omega)];rfl,trivial⟩,sB,trivial,trivial,rfl,hlt,hG,by omega⟩
 ·try refine uR ?_
  rw[qD (show (X.length:Int)>0 by omega)]
theorem zf2 {H:Hp} {vx:Value} {X:List (List Rat)} (hX:RLL H vx X) {w:Nat} (hw:∀x,x∈X→x.length=w) (h1:1≤w) (h2:w≤20) (h0:0<X.length) (hn:X.length≤300):PC prog 43 #[vx] H fun r _=>r=.bool true:=by
 obtain⟨xa,xc,rfl⟩:=hX.val;have hr:=zrw hX hw h1 h0 oM;obtain⟨vs,hvs,hs⟩:=id hX;obtain⟨x0,hx0⟩:=gE h0;obtain⟨u0,e0,hu0,_⟩:=hvs.at hx0;rw[hw x0 (qF hx0)]at hu0;refine BD func43 ntmps43 ?_
 repeat (first|refine RUN ?_|refine CV (hr) ?_|refine CE (hr) ?_)
 rw[qD (show (X.length:Int)≤300 by omega)];refine uR ?_;refine vI (hs) (0) (rfl) (h0) (hu0) ?_;refine uR ?_;rw[qD (show (w:Int)≤20 by omega)]
 try refine uR ?_
abbrev zlx (deep least:Int) (g1 g2 g3:Value):Value:=.agg #[.int .i64 deep,.int .i64 least,g1,g2,g3]
theorem zmm {H:Hp} {deep least:Int} {b1:Bool} {a1 a2:Option Addr} {l1 c1 l2 c2:Nat} {q:Rat} (hq:RQ H (.agg #[.bool b1,.slice a1 l1 c1,.slice a2 l2 c2]) q) (h0:0≤q) (hd:0≤deep∧deep≤10) (hl:1≤least∧least≤300):PC prog 46 #[zlx deep least (.bool b1) (.slice a1 l1 c1) (.slice a2 l2 c2)] H fun r _=>r=.bool true:=by
 have hs:=znN hq;refine BD func46 ntmps46 ?_;refine uR ?_;rw[qD (show deep≥0 by omega)];refine uR ?_;rw[qD (show deep≤10 by omega)];refine uR ?_;rw[qD (show least≥1 by omega)];refine uR ?_;rw[qD (show least≤300 by omega)]
 repeat (first|refine RUN ?_|refine CV (hs) ?_|refine CE (hs) ?_)
 rw[qD (show q.num.sign≥0 from Int.sign_nonneg_iff.2 (Rat.num_nonneg.2 h0))]
 try refine uR ?_
theorem znP {H:Hp} {kd cl deep least:Int} {la va:Option Addr} {ln lc vn vc:Nat} {vx vr:Value} {X:List (List Rat)} {rows:List Int} {w:Nat} {b1:Bool} {a1 a2:Option Addr} {l1 c1 l2 c2:Nat}
  (hck:PC prog 45 #[zak kd cl (.slice la ln lc) (.slice va vn vc)] H fun r _=>r=.int .i64 0) (hlen:PV prog 44 #[zak kd cl (.slice la ln lc) (.slice va vn vc)] (.int .i64 (X.length:Int)))
  (hX:RLL H vx X) (hw:∀x,x∈X→x.length=w) (h1:1≤w) (h2:w≤20) (h0:0<X.length) (hn:X.length≤300) (hr:IL H vr rows) (hr0:0<rows.length) (hrn:rows.length≤300) (hb:∀r,r∈rows→0≤r∧r<(X.length:Int))
  (hf:PC prog 46 #[zlx deep least (.bool b1) (.slice a1 l1 c1) (.slice a2 l2 c2)] H fun r _=>r=.bool true) :
  PC prog 100 #[zak kd cl (.slice la ln lc) (.slice va vn vc),vx,vr,zlx deep least (.bool b1) (.slice a1 l1 c1) (.slice a2 l2 c2)] H fun r _=>r=.int .i64 0:=by
 obtain⟨xa,xc,rfl⟩:=hX.val;obtain⟨ra,rc,rfl⟩:=SlC.val hr;have hlearn:=zf2 hX hw h1 h2 h0 hn;refine BD func100 ntmps100 ?_
 repeat (first|refine RUN ?_|refine CV (hlearn) ?_|refine CV (hlen) ?_|refine CE (hlearn) ?_|refine CE (hlen) ?_)
 rw[show ((X.length:Int) != (X.length:Int))=false from bne_self_eq_false _];refine uR ?_;rw[show ((rows.length:Int) == 0)=false from beq_eq_false_iff_ne.2 (by omega)];refine uR ?_;rw[qC (show ¬(rows.length:Int)>300 by omega)]
 repeat (first|refine RUN ?_|refine CV (hck) ?_|refine CV (hf) ?_|refine CE (hck) ?_|refine CE (hf) ?_)
 refine EV.loopK (ι:=Nat) [1,2] [] (fun q=>[(9,.v (.int .i64 (q:Int)))]) (fun _=>[]) (fun _=>[]) (fun q _=>q≤rows.length) (fun q=>rows.length-q) (0) rfl rfl ⟨rfl,trivial⟩ trivial rfl (fun _=>rfl) (Nat.zero_le _) ?_;rintro i G1 hG1 hi;refine uR ?_;refine EV.cond rfl (fun hlt=>?_) (fun hlt=>?_)
 ·simp only[nN]at hlt;obtain⟨r,hri⟩:=gE hlt;have hrb:=hb r (qF hri);refine uR ?_;refine vI ((hr.mono hG1)) (i) (rfl) (hlt) ((by rw[List.getElem?_map,hri];rfl)) ?_;refine uR ?_;rw[qC (show ¬r<0 by omega)];refine uR ?_;refine vI ((hr.mono hG1)) (i) (rfl) (hlt) ((by rw[List.getElem?_map,hri];rfl)) ?_;refine uR ?_;rw[qC (show ¬r≥(X.length:Int) by omega)];refine uR ?_;refine⟨i+1,⟨by rw[zab i (by omega)];rfl,trivial⟩,sB,trivial,trivial,rfl,hlt,Hp.Le.refl _,by omega⟩
 ·try refine uR ?_
  rfl
def ziv (H:Hp) (cs:List Value) (kd cl w:Int) (ns:List Nd):Prop:=∃a c css,cs=[.int .i64 kd,.int .i64 cl,.int .i64 w,.slice a ns.length c]∧zcd H css ns∧SlC H (.slice a ns.length c) ns.length 15 css.flatten
theorem ziv.mono {H G:Hp} {cs:List Value} {kd cl w:Int} {ns:List Nd} (h:ziv H cs kd cl w ns) (k:H.Le G):ziv G cs kd cl w ns:=by
 obtain⟨a,c,css,e,h1,h2⟩:=h;exact⟨a,c,css,e,h1.mono k,h2.mono k⟩
set_option maxRecDepth 100000 in
theorem zkm {p:GP} {H:Hp} {kd cl least:Int} {D sm w bd:Nat} {Td:TypeId} {s:Int} {la va xa:Option Addr} {ln lc vn vc xc:Nat} {vr:Value} {rows:List Int} {b1:Bool} {a1 a2:Option Addr} {l1 c1 l2 c2:Nat}
  (hds:∀s,p.cols s=((zaz w s).1.take sm,(zaz w s).2)) (hsm1:1≤sm) (hsm:sm≤w) (hw2:w≤20) (hx0:0<p.X.length) (hxn:p.X.length≤300) (hxw:∀x,x∈p.X→x.length=w) (hxq:∀x,x∈p.X→∀q,q∈x→ht q≤5) (hpl:p.least=least) (hl:1≤least∧least≤300) (hgr:rq p.gain) (hg0:0≤p.gain) (hD:D≤10)
  (hg:zjy H (zak kd cl (.slice la ln lc) (.slice va vn vc)) kd p.X.length p.cost p.mean p.cnt) (hX:RLL H (.slice xa p.X.length xc) p.X) (hgq:RQ H (.agg #[.bool b1,.slice a1 l1 c1,.slice a2 l2 c2]) p.gain)
  (hr:IL H vr rows) (hr0:0<rows.length) (hn:rows.length≤300) (hb:∀r,r∈rows→0≤r∧r<(p.X.length:Int)) (hs:0≤s) :
  PW prog 49 #[zak kd cl (.slice la ln lc) (.slice va vn vc),.slice xa p.X.length xc,vr,zlx (D:Int) least (.bool b1) (.slice a1 l1 c1) (.slice a2 l2 c2),.int .i64 (sm:Int),.pointer (some ⟨bd,0,none⟩)] H [(bd,Td,[.int .u64 s])]
   fun v ow H'=>∃T' cs,v=.tuple #[.agg cs.toArray,.int .i64 0]∧ow=[(bd,T',[.int .u64 (p.grow D 0 rows s).2])]∧0≤(p.grow D 0 rows s).2∧ziv H' cs kd cl (w:Int) (p.grow D 0 rows s).1:=by
 obtain⟨ra,rc,rfl⟩:=SlC.val hr;have hpow:2 ^ (D+1)≤2 ^ 11:=Nat.pow_le_pow_right oM oM;have herr:=znP (hg.check H (Hp.Le.refl _)) hg.len hX hxw oM hw2 hx0 hxn hr hr0 hn hb (zmm (deep:=(D:Int)) hgq hg0 oM hl);obtain⟨vs,hvs,hvx⟩:=id hX;obtain⟨x0,hxx0⟩:=gE hx0;obtain⟨u0,e0,hu0,_⟩:=hvs.at hxx0;rw[hxw x0 (qF hxx0)]at hu0;refine PW.body tO func49 rfl kR ntmps49 rfl rfl ?_
 repeat (first|refine RUN ?_|refine CV (herr) ?_|refine CE (herr) ?_)
 rw[qC (show ¬(sm:Int)<1 by omega)];refine uR ?_;refine vI (hvx) (0) (rfl) (hx0) (hu0) ?_;refine uR ?_;rw[qC (show ¬(sm:Int)>(w:Int) by omega)];refine uR ?_;(first|refine EVL.unbox (42) rfl fun gb=>?_|refine EV.unbox (42) rfl fun gb=>?_);refine EVL.callW rfl rfl rfl rfl rfl ((gb,176,_)::([(bd,Td,[.int .u64 s])]++[])) ([]) rfl (zrv (dq:=some ⟨bd,0,none⟩) (deep:=(D:Int)) (by simp) hds hsm oM oM hx0 hxw hxq hpl hgr D (ns:=[]) (css:=[]) hg hX hgq oM (Int.le_refl _) oM hr hn hb (.inr ⟨bd,Td,rfl,rfl,hs⟩) (zaK.nil _ _) ⟨rfl,fun j c n e1 e2=>by cases e1⟩ (by rw[List.length_nil];omega)) ?_;rintro _ _ G1 ⟨rfl,out,D',ow2,css,rfl,hD',hown,hns⟩ hG1;rw[List.nil_append]at hown hns;rw[List.length_nil]at hown hns hD';rcases hD' with ⟨e1,_⟩|⟨bd',T',e1,rfl,hs'⟩
 ·cases e1
 cases e1;obtain⟨oa,oc,rfl⟩:=hown.val;refine EVL.apart fun hdis=>?_
 refine EVL.publishL [(gb,_,_),(bd,T',_)] ow2 [] rfl hown (fun G2 hG2 hc=>?_) (fun k hk q hq=>by
  obtain rfl:=List.mem_singleton.1 hk;exact zeH (fun j j' b T T' cs cs' h1 h2=>by have:=hdis (j+1) (j'+1) b T T' cs cs' h1 h2;omega) q hq)
 have hG12:=hG1.trans hG2;refine uR ?_;apply EV.drawn 12 kR kR;intro xv yw;(repeat refine' DD ?_);refine' vJ (hvx.mono hG12) (0) (rfl) (hx0) (hu0) ?_;rotate_left;(repeat (first|refine' DD ?_|refine' vN ?_|refine' vF ?_));refine' DJ.ofVal (zaa.loadOwn tO rfl rfl rfl rfl (0) rfl (rfl) rfl rfl) rfl rfl rfl ?_;rotate_left;(refine DJ.nil (fun G hG hF=>?_);(case hS|hS2=>rfl));(first|refine EVL.subOw [] [(gb,_,_)] [(bd,T',_)] rfl ?_|refine EV.subOw [] [(gb,_,_)] [(bd,T',_)] rfl ?_);refine uR ?_;exact⟨T',_,rfl,rfl,hs',oa,oc,css,rfl,hns.mono (hG2.trans hG),SlC.mono hc hG⟩
end
section
structure Tr where
 kd:Int
 cl:Int
 w:Int
 ns:List Nd
end
section
open Go.RowKit _root_.Go.Proofs.Tryz
def RTs (H:Hp) (tcs:List (List Value)) (ts:List Tr):Prop:=tcs.length=ts.length∧∀(j:Nat) (c:List Value) (t:Tr),tcs[j]?=some c→ts[j]?=some t→ziv H c t.kd t.cl t.w t.ns
theorem RTs.mono {H G:Hp} {tcs:List (List Value)} {ts:List Tr} (h:RTs H tcs ts) (k:H.Le G):RTs G tcs ts:=⟨h.1,fun j c t e1 e2=>(h.2 j c t e1 e2).mono k⟩
def ILs (H:Hp) (vs:List Value) (ls:List (List Int)):Prop:=vs.length=ls.length∧∀(j:Nat) (v:Value) (l:List Int),vs[j]?=some v→ls[j]?=some l→IL H v l
theorem ILs.mono {H G:Hp} {vs:List Value} {ls:List (List Int)} (h:ILs H vs ls) (k:H.Le G):ILs G vs ls:=⟨h.1,fun j v l e1 e2=>(h.2 j v l e1 e2).mono k⟩
theorem zbk {α β:Type} {R:α→β→Prop} {xs:List α} {ys:List β} (h:xs.length=ys.length∧∀(j:Nat) (x:α) (y:β),xs[j]?=some x→ys[j]?=some y→R x y) {x:α} {y:β} (k:R x y):(xs++[x]).length=(ys++[y]).length∧∀(j:Nat) (x':α) (y':β),(xs++[x])[j]?=some x'→(ys++[y])[j]?=some y'→R x' y':=by
 refine⟨by simp[h.1],fun j x' y' e1 e2=>?_⟩;by_cases hj:j<xs.length
 ·rw[List.getElem?_append_left hj]at e1;rw[List.getElem?_append_left (by rw[←h.1];exact hj)]at e2;exact h.2 j x' y' e1 e2
 ·rw[List.getElem?_append_right (by omega)]at e1;rw[List.getElem?_append_right (by rw[←h.1];omega),←h.1]at e2
  have h0:j-xs.length=0:=by
   have:=(qE.1 e1).1;simp at this;omega
  rw[h0]at e1 e2;cases e1;cases e2;exact k
def RTL (H:Hp) (v:Value) (ts:List Tr):Prop:=∃tcs,RTs H tcs ts∧SlC H v ts.length 4 tcs.flatten
theorem RTL.mono {H G:Hp} {v:Value} {ts:List Tr} (h:RTL H v ts) (k:H.Le G):RTL G v ts:=by
 obtain⟨tcs,h1,h2⟩:=h;exact⟨tcs,h1.mono k,h2.mono k⟩
def ILL (H:Hp) (v:Value) (ls:List (List Int)):Prop:=∃vs,ILs H vs ls∧SlC H v ls.length 1 vs
theorem ILL.mono {H G:Hp} {v:Value} {ls:List (List Int)} (h:ILL H v ls) (k:H.Le G):ILL G v ls:=by
 obtain⟨vs,h1,h2⟩:=h;exact⟨vs,h1.mono k,h2.mono k⟩
def zcC:ByteArray:=⟨#[116,114,101,101]⟩
def zjD (n:Nat) (s:Int):List Int × Int:=(za0 (zaA n n (zcg s zcC)).1,(zaA n n (zcg s zcC)).2)
def GP.wood (p:GP) (D n:Nat) (kd cl w:Int):Nat→Int→List Tr × List (List Int) × Int
 | 0,s=>([],[],s)
 | k+1,s=>let r:=p.wood D n kd cl w k s
  (r.1++[⟨kd,cl,w,(p.grow D 0 (zjD n r.2.2).1 (zjD n r.2.2).2).1⟩],r.2.1++[zcy n (zjD n r.2.2).1],nxt r.2.2)
theorem GP.wood_succ (p:GP) (D n:Nat) (kd cl w:Int) (k:Nat) (s:Int):p.wood D n kd cl w (k+1) s=((p.wood D n kd cl w k s).1++[⟨kd,cl,w,(p.grow D 0 (zjD n (p.wood D n kd cl w k s).2.2).1 (zjD n (p.wood D n kd cl w k s).2.2).2).1⟩],(p.wood D n kd cl w k s).2.1++[zcy n (zjD n (p.wood D n kd cl w k s).2.2).1],nxt (p.wood D n kd cl w k s).2.2):=rfl
theorem GP.wood_len (p:GP) (D n:Nat) (kd cl w:Int):∀(k:Nat) (s:Int),(p.wood D n kd cl w k s).1.length=k∧(p.wood D n kd cl w k s).2.1.length=k∧(0≤s→0≤(p.wood D n kd cl w k s).2.2)
 | 0,s=>⟨rfl,rfl,fun h=>h⟩
 | k+1,s=>by
  obtain⟨h1,h2,_⟩:=p.wood_len D n kd cl w k s;rw[GP.wood_succ];exact⟨by simp[h1],by simp[h2],fun _=>(zdF _).1⟩
abbrev ztK (n sm:Nat) (seed:Int) (deep least:Int) (g1 g2 g3:Value):Value:=.agg #[.int .i64 (n:Int),.int .i64 (sm:Int),.int .u64 seed,.int .i64 deep,.int .i64 least,g1,g2,g3]
abbrev za2 (kd cl w:Int) (vt vo:Value):Value:=.agg #[.int .i64 kd,.int .i64 cl,.int .i64 w,vt,vo]
set_option maxRecDepth 100000 in
theorem ziL {p:GP} {H:Hp} {kd cl least:Int} {D sm w nt:Nat} {seed:Int} {la va xa:Option Addr} {ln lc vn vc xc:Nat} {b1:Bool} {a1 a2:Option Addr} {l1 c1 l2 c2:Nat}
  (hds:∀s,p.cols s=((zaz w s).1.take sm,(zaz w s).2)) (hsm1:1≤sm) (hsm:sm≤w) (hw2:w≤20) (hx0:0<p.X.length) (hxn:p.X.length≤300) (hxw:∀x,x∈p.X→x.length=w) (hxq:∀x,x∈p.X→∀q,q∈x→ht q≤5) (hpl:p.least=least) (hl:1≤least∧least≤300) (hgr:rq p.gain) (hg0:0≤p.gain) (hD:D≤10)
  (hg:zjy H (zak kd cl (.slice la ln lc) (.slice va vn vc)) kd p.X.length p.cost p.mean p.cnt) (hX:RLL H (.slice xa p.X.length xc) p.X) (hgq:RQ H (.agg #[.bool b1,.slice a1 l1 c1,.slice a2 l2 c2]) p.gain) (hn1:1≤nt) (hn2:nt≤50) (hs:0≤seed) :
  PC prog 13 #[zak kd cl (.slice la ln lc) (.slice va vn vc),.slice xa p.X.length xc,ztK nt sm seed (D:Int) least (.bool b1) (.slice a1 l1 c1) (.slice a2 l2 c2)] H fun r H'=>∃at' ct ao co,r=.tuple #[za2 kd cl (w:Int) (.slice at' nt ct) (.slice ao nt co),.int .i64 0]∧RTL H' (.slice at' nt ct) (p.wood D p.X.length kd cl (w:Int) nt seed).1∧ILL H' (.slice ao nt co) (p.wood D p.X.length kd cl (w:Int) nt seed).2.1:=by
 have hlearn:=zf2 hX hxw oM hw2 hx0 hxn;have hlen:=hg.len;have hfine:=fun (G:Hp) (hG:H.Le G)=>zmm (deep:=(D:Int)) (RQ.mono hgq hG) hg0 oM hl;obtain⟨vs,hvs,hvx⟩:=id hX;obtain⟨x0,hxx0⟩:=gE hx0;obtain⟨u0,e0,hu0,_⟩:=hvs.at hxx0;rw[hxw x0 (qF hxx0)]at hu0;refine BD func13 ntmps13 ?_
 repeat (first|refine RUN ?_|refine CV (hlearn) ?_|refine CV (hlen) ?_|refine CE (hlearn) ?_|refine CE (hlen) ?_)
 rw[show ((p.X.length:Int) != (p.X.length:Int))=false from bne_self_eq_false _];refine uR ?_;apply EV.drawn 33 kR kR;intro xv yw;(repeat refine' DD ?_);refine' vC (cO func45) (fun G hG hd=>hg.check G hG) ?_;rotate_left;(repeat refine' DD ?_);rw[qC (show ¬(nt:Int)<1 by omega)];(repeat refine' DD ?_);rw[qC (show ¬(nt:Int)>50 by omega)];(repeat refine' DD ?_);rw[qC (show ¬(sm:Int)<1 by omega)];(repeat refine' DD ?_);refine' vJ (hvx) (0) (rfl) (hx0) (hu0) ?_;rotate_left;(repeat refine' DD ?_);rw[qC (show ¬(sm:Int)>(w:Int) by omega)];(repeat refine' DD ?_);refine' vC (cO func46) (fun G hG hd=>hfine G hG) ?_;rotate_left;(repeat refine' DD ?_);(refine DJ.nil (fun G1 hG1 hF1=>?_);(case hS|hS2=>rfl));refine uR ?_;apply EV.drawn 10 kR kR;intro xv yw;(repeat refine' DD ?_);refine' vJ (hvx.mono hG1) (0) (rfl) (hx0) (hu0) ?_;rotate_left;(repeat refine' DD ?_);(refine DJ.nil (fun G2 hG2 hF2=>?_);(case hS|hS2=>rfl));refine uR ?_;(first|refine EVL.unbox (73) rfl fun d0=>?_|refine EV.unbox (73) rfl fun d0=>?_);refine EV.loopK (ι:=Nat × Value × List (List Value) × Ows × Value × List Value × Ows × TypeId) [1,3,5,6,8,9] [3,5,6] (fun q=>[(10,.v (.int .i64 (q.1:Int)))]) (fun q=>[(8,71,[.int .i64 kd,.int .i64 cl,.int .i64 (w:Int),q.2.1,q.2.2.2.2.1])]) (fun q=>(d0,q.2.2.2.2.2.2.2,[.int .u64 (p.wood D p.X.length kd cl (w:Int) q.1 seed).2.2])::(q.2.2.2.1++q.2.2.2.2.2.2.1)) (fun q G=>q.1≤nt∧RTs G q.2.2.1 (p.wood D p.X.length kd cl (w:Int) q.1 seed).1∧ILs G q.2.2.2.2.2.1 (p.wood D p.X.length kd cl (w:Int) q.1 seed).2.1∧zaK 127 4 q.2.1 q.1 q.2.2.1.flatten q.2.2.2.1∧zaK 23 1 q.2.2.2.2.1 q.1 q.2.2.2.2.2.1 q.2.2.2.2.2.2.1) (fun q=>nt-q.1) ((0,.slice none 0 0,[],[],.slice none 0 0,[],[],122)) rfl rfl ⟨rfl,trivial⟩ ⟨rfl,trivial⟩ rfl (fun _=>rfl) (⟨Nat.zero_le _,⟨rfl,fun j c t e1 e2=>by cases e1⟩,⟨rfl,fun j c t e1 e2=>by cases e1⟩,zaK.nil _ _,zaK.nil _ _⟩) ?_;rintro⟨i,vt,tcs,owT,vo,vos,owO,Td⟩ G3 hG3 ⟨hi,hts,hos,hownT,hownO⟩;dsimp only at hi hts hos hownT hownO;obtain⟨ta,tc,rfl⟩:=hownT.val;obtain⟨oa,oc,rfl⟩:=hownO.val;have hH3:=hG1.trans (hG2.trans hG3);obtain⟨hwl1,hwl2,hwl3⟩:=p.wood_len D p.X.length kd cl (w:Int) i seed;have hws:=p.wood_succ D p.X.length kd cl (w:Int) i seed;refine uR ?_;refine EV.cond rfl (fun hlt=>?_) (fun hlt=>?_)
 ·simp only[nN]at hlt;refine uR ?_;refine vW ([(d0,Td,_)]) (owT++owO) (zru (t:=zcC) (hwl3 hs) (by decide)) ?_;rintro _ _ G4 ⟨T4,g4,rfl,rfl,hs4,hf4⟩ hG4;refine uR ?_;refine EVL.callW rfl rfl rfl rfl rfl ([(g4,_,_)]) ((d0,T4,_)::(owT++owO)) rfl (zrp hf4 oM hxn) ?_;rintro _ _ G5 ⟨T5,u5,w5,rfl,rfl,hs5,hu5,hw5⟩ hG5;have hbe:((za0 (zaA p.X.length p.X.length (zcg (p.wood D p.X.length kd cl (w:Int) i seed).2.2 zcC)).1,(zaA p.X.length p.X.length (zcg (p.wood D p.X.length kd cl (w:Int) i seed).2.2 zcC)).2):List Int × Int)=zjD p.X.length (p.wood D p.X.length kd cl (w:Int) i seed).2.2:=rfl;generalize hre:zcy p.X.length (za0 (zaA p.X.length p.X.length (zcg (p.wood D p.X.length kd cl (w:Int) i seed).2.2 zcC)).1)=rs5 at *
  obtain⟨ua5,uc5,rfl⟩:=SlC.val hu5;obtain⟨wa5,wc5,rfl⟩:=SlC.val hw5;refine uR ?_;have hH5:=hH3.trans (hG4.trans hG5);have hbl:(za0 (zaA p.X.length p.X.length (zcg (p.wood D p.X.length kd cl (w:Int) i seed).2.2 zcC)).1).length=p.X.length:=by rw[zaU,za6]
  have hbm:∀r,r∈za0 (zaA p.X.length p.X.length (zcg (p.wood D p.X.length kd cl (w:Int) i seed).2.2 zcC)).1→0≤r∧r<(p.X.length:Int):=fun r hr=>zei _ _ _ oM oM r ((zcr _).mem_iff.1 hr);refine vW ([(g4,T5,_)]) ((d0,T4,_)::(owT++owO)) (zkm hds hsm1 hsm hw2 hx0 hxn hxw hxq hpl hl hgr hg0 hD (hg.mono hH5) (hX.mono hH5) (RQ.mono hgq hH5) hu5 (by rw[hbl];omega) (by rw[hbl];omega) hbm hs5) ?_;rintro _ _ G6 ⟨T6,cs6,rfl,rfl,hs6,ht6⟩ hG6;have hge:(p.grow D 0 (zjD p.X.length (p.wood D p.X.length kd cl (w:Int) i seed).2.2).1 (zjD p.X.length (p.wood D p.X.length kd cl (w:Int) i seed).2.2).2)=p.grow D 0 (za0 (zaA p.X.length p.X.length (zcg (p.wood D p.X.length kd cl (w:Int) i seed).2.2 zcC)).1) (zaA p.X.length p.X.length (zcg (p.wood D p.X.length kd cl (w:Int) i seed).2.2 zcC)).2:=rfl;generalize p.grow D 0 (za0 (zaA p.X.length p.X.length (zcg (p.wood D p.X.length kd cl (w:Int) i seed).2.2 zcC)).1) (zaA p.X.length p.X.length (zcg (p.wood D p.X.length kd cl (w:Int) i seed).2.2 zcC)).2=gr6 at *
  have hre':zcy p.X.length (zjD p.X.length (p.wood D p.X.length kd cl (w:Int) i seed).2.2).1=rs5:=hre;rw[hge,hre']at hws;obtain⟨na,nc,css6,rfl,hns6,hsl6⟩:=id ht6;refine EVL.subOw [] [(g4,_,_)] ((d0,T4,_)::(owT++owO)) rfl ?_;refine uR ?_;(first|refine EVL.swapOw ([(d0,T4,_)]) (owT++owO) (rfl) ?_|refine EV.swapOw ([(d0,T4,_)]) (owT++owO) (rfl) ?_);refine EVL.app1 tO rfl rfl rfl rfl rfl rfl rfl rfl rfl rfl rfl rfl rfl rfl rfl rfl rfl rfl rfl (fun _=>rfl) (owT) (owO++[(d0,T4,_)]) (List.append_assoc _ _ _) (hownT) (oM) fun _=>?_;intro vt' owT' hownT';obtain⟨ta',tc',rfl⟩:=hownT'.val;refine uR ?_;(first|refine EVL.swapOw (owT') (owO++[(d0,T4,_)]) (rfl) ?_|refine EV.swapOw (owT') (owO++[(d0,T4,_)]) (rfl) ?_);refine EVL.app1 tO rfl rfl rfl rfl rfl rfl rfl rfl rfl rfl rfl rfl rfl rfl rfl rfl rfl rfl rfl (fun _=>rfl) (owO) ([(d0,T4,_)]++owT') (List.append_assoc _ _ _) (hownO) (oM) fun _=>?_;intro vo' owO' hownO';obtain⟨oa',oc',rfl⟩:=hownO'.val;(first|refine EVL.swapOw (owO') ([(d0,T4,_)]++owT') (rfl) ?_|refine EV.swapOw (owO') ([(d0,T4,_)]++owT') (rfl) ?_);refine uR ?_;have hG36:=hG4.trans (hG5.trans hG6);refine⟨(i+1,.slice ta' (i+1) tc',tcs++[[.int .i64 kd,.int .i64 cl,.int .i64 (w:Int),.slice na gr6.1.length nc]],owT',.slice oa' (i+1) oc',vos++[.slice wa5 rs5.length wc5],owO',T4),⟨by dsimp only;rw[zab i (by omega)];rfl,trivial⟩,sB,⟨rfl,trivial⟩,sB,?_,⟨hlt,?_,?_,?_,?_⟩,hG36,by dsimp only;omega⟩
  ·dsimp only;rw[hws];rfl
  ·dsimp only;rw[hws];exact zbk (hts.mono hG36) ht6
  ·dsimp only;rw[hws];exact zbk (hos.mono hG36) (hw5.mono hG6)
  ·dsimp only;rw[List.flatten_append];exact hownT'
  ·exact hownO'
 ·simp only[nN]at hlt;obtain rfl:i=nt:=by omega
  (first|refine EVL.publishL [(d0,Td,_)] owT owO (rfl) hownT fun G4 hG4 hsT=>?_|refine EV.publishL [(d0,Td,_)] owT owO (rfl) hownT fun G4 hG4 hsT=>?_);(first|refine EVL.publishL [(d0,Td,_)] owO [] ((by rw[qG])) hownO fun G5 hG5 hsO=>?_|refine EV.publishL [(d0,Td,_)] owO [] ((by rw[qG])) hownO fun G5 hG5 hsO=>?_);refine uR ?_;exact⟨ta,tc,oa,oc,rfl,⟨tcs,by rw[hwl1];exact⟨hts.mono (hG4.trans hG5),hsT.mono hG5⟩⟩,⟨vos,by rw[hwl2];exact⟨hos.mono (hG4.trans hG5),hsO⟩⟩⟩
end
section
inductive Sub (T:List Nd) (w:Int):Nat→Nat→Nat→Prop
 | leaf {k h:Nat} {n:Nd}:T[k]?=some n→n.col = -1→n.left=0→n.right=0→n.at'=0→Sub T w k h (k+1)
 | node {k h m e:Nat} {n:Nd}:T[k]?=some n→0≤n.col→n.col<w→n.left=((k+1:Nat):Int)→n.right=(m:Int)→Sub T w (k+1) h m→Sub T w m h e→Sub T w k (h+1) e
theorem Sub.lt {T:List Nd} {w:Int} {k h e:Nat} (h0:Sub T w k h e):k<e∧e≤T.length:=by
 induction h0 with
 | leaf hn _ _ _ _ =>
  have:=(qE.1 hn).1;omega
 | node _ _ _ _ _ _ _ ih1 ih2=>omega
structure OkN (kd cl:Int) (n:Nd):Prop where
 rows:1≤n.rows∧n.rows≤1048576
 cost:0≤n.cost
 len:(n.counts.length:Int)=cl
 pos:∀c,c∈n.counts→0≤c
 sum:kd=1→n.counts.sum=n.rows
 cls:n.cls=(topN n.counts n.counts.length:Int)
 value:kd=1→n.value=0
 small:ht n.at'≤100∧ht n.cost≤2000000∧ht n.value≤4000
structure OkC (n a b:Nd):Prop where
 rows:n.rows=a.rows+b.rows
 counts:∀k:Nat,n.counts.getD k 0=a.counts.getD k 0+b.counts.getD k 0
 cost:a.cost+b.cost≤n.cost
def zlN (kd cl:Int) (T:List Nd) (i:Nat):Prop:=∃n,T[i]?=some n∧OkN kd cl n∧(n.col ≠ -1→0≤n.col∧0≤n.left∧0≤n.right∧∃a b,T[n.left.toNat]?=some a∧T[n.right.toNat]?=some b∧OkC n a b)
structure zrU (p:GP) (kd cl:Int) (w:Nat):Prop where
 kind:(kd=1∧1≤cl∧cl≤12)∨(kd=2∧cl=0)
 rowsX:p.X.length≤300
 wide:∀x,x∈p.X→x.length=w
 small:∀x,x∈p.X→∀q,q∈x→ht q≤5
 clen:∀l,((p.cnt l).length:Int)=cl
 cadd:∀r l m:List Int,r.Perm (l++m)→∀k:Nat,(p.cnt r).getD k 0=(p.cnt l).getD k 0+(p.cnt m).getD k 0
 cpos:∀l c,c∈p.cnt l→0≤c
 csum:kd=1→∀l,(∀r,r∈l→0≤r∧r<(p.X.length:Int))→(p.cnt l).sum=(l.length:Int)
 zero:kd=1→∀l,p.mean l=0
 cost0:∀l,0≤p.cost l
 csm:∀l:List Int,l.length≤300→(∀r,r∈l→0≤r∧r<(p.X.length:Int))→ht (p.cost l)≤2000000
 msm:∀l:List Int,l.length≤300→(∀r,r∈l→0≤r∧r<(p.X.length:Int))→ht (p.mean l)≤4000
 gain:0≤p.gain
 cols:∀s c,c∈(p.cols s).1→0≤c∧c<(w:Int)
theorem zlf (l:List Int) (f:Int→Bool):l.Perm (l.filter f++l.filter fun x => !f x):=by
 induction l with
 | nil=>exact List.Perm.nil
 | cons x l ih =>
  cases h:f x with
  | true=>rw[List.filter_cons_of_pos h,List.filter_cons_of_neg (by simp[h])];exact List.Perm.cons x ih
  | false=>rw[List.filter_cons_of_neg (by simp[h]),List.filter_cons_of_pos (by simp[h])];exact(List.Perm.cons x ih).trans List.perm_middle.symm
theorem zt3 {p:GP} {kd cl:Int} {w:Nat} (hp:zrU p kd cl w) {rows:List Int} {s c:Int} {t:Rat} (hb:∀r,r∈rows→0≤r∧r<(p.X.length:Int)) (h:p.cut rows (p.cols s).1=some (c,t)) :
  (0≤c∧c<(w:Int))∧ht t≤100∧1≤(zbt p.X c t rows).length∧1≤(zaE p.X c t rows).length∧rows.Perm (zbt p.X c t rows++zaE p.X c t rows)∧p.cost (zbt p.X c t rows)+p.cost (zaE p.X c t rows)≤p.cost rows:=by
 unfold GP.cut at h
 cases hbe:p.best rows (p.cols s).1 with
 | none=>rw[hbe]at h;cases h
 | some q =>
  obtain⟨c',t',g⟩:=q;rw[hbe]at h;dsimp only at h;split at h
  ·cases h
  ·rename_i hg;cases h;have hf:=zcU (zaG p.X p.cost rows (max 1 p.least) (p.cols s).1);rw[show (zaG p.X p.cost rows (max 1 p.least) (p.cols s).1).foldl zf5 none=some (c,t,g) from hbe]at hf;have hm:=hf.1;unfold zaG zbG at hm;obtain⟨c2,hc2,hm⟩:=List.mem_flatMap.1 hm;obtain⟨t2,ht2,hm⟩:=List.mem_flatMap.1 hm;split at hm
   ·rename_i hL;cases List.mem_singleton.1 hm;have hcw:=hp.cols s c hc2
    have hall:∀r,r∈rows→zcP p.X c r=true:=fun r hr=>by
     obtain⟨R,rfl⟩:=Int.eq_ofNat_of_zero_le (hb r hr).1;have hR:=(hb _ hr).2;unfold zcP;obtain⟨x,hx⟩:∃x,p.X[R]?=some x:=⟨_,qA oM⟩;rw[Int.toNat_natCast,qB,hx,Option.getD_some,hp.wide x (qF hx)];simp;omega
    have hlo:zbt p.X c t rows=rows.filter fun r=>decide (zbF p.X c r≤t):=by
     unfold zbt;exact List.filter_congr fun r hr=>by rw[hall r hr,Bool.true_and]
    have hhi:zaE p.X c t rows=rows.filter fun r => !decide (zbF p.X c r≤t):=by
     unfold zaE;exact List.filter_congr fun r hr=>by rw[hall r hr,Bool.true_and]
    have hpm:rows.Perm (zbt p.X c t rows++zaE p.X c t rows):=by rw[hlo,hhi];exact zlf _ _
    have h0:=hp.gain;refine⟨hcw,zpn hp.small ht2,by omega,by omega,hpm,?_⟩;have:p.gain<p.cost rows-(p.cost (zbt p.X c t rows)+p.cost (zaE p.X c t rows)):=Rat.not_le.1 hg;grind
   ·cases hm
theorem zuf {p:GP} {kd cl:Int} {w:Nat} (hp:zrU p kd cl w) {rows:List Int} (h1:1≤rows.length) (h2:rows.length≤300) (hb:∀r,r∈rows→0≤r∧r<(p.X.length:Int)) {c l r:Int} {t:Rat} (ht':ht t≤100):OkN kd cl { p.nd rows with col:=c,left:=l,right:=r,at':=t } :=
 ⟨⟨by show 1≤(rows.length:Int);omega,by show (rows.length:Int)≤1048576;omega⟩,hp.cost0 rows,hp.clen rows,hp.cpos rows,fun e=>hp.csum e rows hb,rfl,fun e=>hp.zero e rows,ht',hp.csm rows h2 hb,hp.msm rows h2 hb⟩
theorem zsI {p:GP} {kd cl:Int} {w:Nat} (hp:zrU p kd cl w):∀(d k:Nat) (rows:List Int) (s:Int),1≤rows.length→rows.length≤300→(∀r,r∈rows→0≤r∧r<(p.X.length:Int))→∀T:List Nd,(∀(j:Nat) (n:Nd),(p.grow d k rows s).1[j]?=some n→T[k+j]?=some n) →
  Sub T w k d (k+(p.grow d k rows s).1.length)∧(∃n,T[k]?=some n∧n.rows=(rows.length:Int)∧n.counts=p.cnt rows∧n.cost=p.cost rows)∧∀j,j<(p.grow d k rows s).1.length→zlN kd cl T (k+j):=by
 have single:∀(d k:Nat) (rows:List Int),1≤rows.length→rows.length≤300→(∀r,r∈rows→0≤r∧r<(p.X.length:Int))→∀T:List Nd,(∀(j:Nat) (n:Nd),[p.nd rows][j]?=some n→T[k+j]?=some n) →
   Sub T w k d (k+1)∧(∃n,T[k]?=some n∧n.rows=(rows.length:Int)∧n.counts=p.cnt rows∧n.cost=p.cost rows)∧∀j,j<1→zlN kd cl T (k+j):=by
  intro d k rows h1 h2 hb T hT;have h0:=hT 0 _ rfl;rw[Nat.add_zero]at h0;refine⟨.leaf h0 rfl rfl rfl rfl,⟨_,h0,rfl,rfl,rfl⟩,fun j hj=>?_⟩;obtain rfl:j=0:=by omega
  refine⟨_,by rw[Nat.add_zero];exact h0,zuf hp h1 h2 hb (c:=-1) (l:=0) (r:=0) (t:=0) (by rw[zbR];decide),fun e=>absurd rfl e⟩
 intro d
 induction d with
 | zero =>
  intro k rows s h1 h2 hb T hT;rw[GP.grow_zero]at hT ⊢;exact single 0 k rows h1 h2 hb T hT
 | succ d ih =>
  intro k rows s h1 h2 hb T hT
  cases hc:p.cut rows (p.cols s).1 with
  | none =>
   rw[GP.grow_none hc]at hT ⊢;exact single (d+1) k rows h1 h2 hb T hT
  | some ct =>
   obtain⟨c,t⟩:=ct;obtain⟨hcw,htb,hl1,hr1,hpm,hcost⟩:=zt3 hp hb hc;have hll:(zbt p.X c t rows).length≤300:=qI (List.length_filter_le _ _) h2;have hhl:(zaE p.X c t rows).length≤300:=qI (List.length_filter_le _ _) h2;have hlm:∀r,r∈zbt p.X c t rows→0≤r∧r<(p.X.length:Int):=fun r hr=>hb r (List.mem_filter.mp hr).1;have hhm:∀r,r∈zaE p.X c t rows→0≤r∧r<(p.X.length:Int):=fun r hr=>hb r (List.mem_filter.mp hr).1;rw[GP.grow_some hc]at hT ⊢;have hLl:=p.grow_len d (k+1) (zbt p.X c t rows) (p.cols s).2;have ihL:=ih (k+1) (zbt p.X c t rows) (p.cols s).2 hl1 hll hlm T;generalize p.grow d (k+1) (zbt p.X c t rows) (p.cols s).2=L at *
   obtain⟨Ls,s2⟩:=L;have hRl:=p.grow_len d (k+1+Ls.length) (zaE p.X c t rows) s2;have ihR:=ih (k+1+Ls.length) (zaE p.X c t rows) s2 hr1 hhl hhm T;dsimp only at hT hLl ihL ⊢;generalize p.grow d (k+1+Ls.length) (zaE p.X c t rows) s2=R at *
   obtain⟨Rs,s3⟩:=R;dsimp only at hT hRl ihR ⊢;have h0:=hT 0 _ rfl;rw[Nat.add_zero]at h0
   obtain⟨sL,⟨a,ha,ha1,ha2,ha3⟩,nL⟩:=ihL (fun j n hj=>by
    have:=hT (j+1) n (by rw[List.getElem?_cons_succ,List.getElem?_append_left (qE.1 hj).1];exact hj);rw[show k+1+j=k+(j+1) by omega];exact this)
   obtain⟨sR,⟨b,hb',hb1,hb2,hb3⟩,nR⟩:=ihR (fun j n hj=>by
    have:=hT (j+Ls.length+1) n (by rw[List.getElem?_cons_succ,List.getElem?_append_right oM,Nat.add_sub_cancel];exact hj);rw[show k+1+Ls.length+j=k+(j+Ls.length+1) by omega];exact this)
   have hlen:rows.length=(zbt p.X c t rows).length+(zaE p.X c t rows).length:=by rw[hpm.length_eq,List.length_append]
   have hroot:zlN kd cl T k:=by
    refine⟨_,h0,zuf hp h1 h2 hb htb,fun _=>⟨hcw.1,Int.natCast_nonneg _,Int.natCast_nonneg _,a,b,by rw[Int.toNat_natCast];exact ha,by rw[Int.toNat_natCast];exact hb',⟨?_,fun q=>?_,?_⟩⟩⟩
    ·rw[ha1,hb1];show (rows.length:Int)=_;omega
    ·rw[ha2,hb2];exact hp.cadd _ _ _ hpm q
    ·rw[ha3,hb3];exact hcost
   refine⟨?_,⟨_,h0,rfl,rfl,rfl⟩,fun j hj=>?_⟩
   ·rw[List.length_cons,List.length_append,show k+(Ls.length+Rs.length+1)=k+1+Ls.length+Rs.length by omega];exact .node h0 hcw.1 hcw.2 rfl rfl sL sR
   ·rw[List.length_cons,List.length_append]at hj
    cases j with
    | zero=>exact hroot
    | succ j =>
     by_cases h:j<Ls.length
     ·rw[show k+(j+1)=k+1+j by omega];exact nL j h
     ·rw[show k+(j+1)=k+1+Ls.length+(j-Ls.length) by omega];exact nR _ oM
structure zcE (t:Tr):Prop where
 kind:(t.kd=1∧1≤t.cl∧t.cl≤12)∨(t.kd=2∧t.cl=0)
 wide:1≤t.w∧t.w≤20
 len:t.ns.length≤2000
 sub:∃h,h≤10∧Sub t.ns t.w 0 h t.ns.length
 nodes:∀i,i<t.ns.length→zlN t.kd t.cl t.ns i
theorem zoM {p:GP} {kd cl:Int} {w D:Nat} (hp:zrU p kd cl w) (hw:1≤w∧w≤20) (hD:D≤9) {rows:List Int} (h1:1≤rows.length) (h2:rows.length≤300) (hb:∀r,r∈rows→0≤r∧r<(p.X.length:Int)) (s:Int):zcE ⟨kd,cl,w,(p.grow D 0 rows s).1⟩:=by
 obtain⟨h3,_,h4⟩:=zsI hp D 0 rows s h1 h2 hb (p.grow D 0 rows s).1 (fun j n hj=>by rw[Nat.zero_add];exact hj);have hl:=(p.grow_len D 0 rows s).2;have hpow:2 ^ (D+1)≤2 ^ 10:=Nat.pow_le_pow_right oM oM;rw[Nat.zero_add]at h3;exact⟨hp.kind,⟨by show (1:Int)≤w;omega,by show (w:Int)≤20;omega⟩,by show (p.grow D 0 rows s).1.length≤2000;omega,⟨D,by omega,h3⟩,fun i hi=>by have:=h4 i hi;rwa [Nat.zero_add]at this⟩
end
section
open Go.RowKit _root_.Go.Proofs.Tryz
theorem zcd.get {H:Hp} {css:List (List Value)} {ns:List Nd} (h:zcd H css ns) {j:Nat} {n:Nd} (hj:ns[j]?=some n):∃c,(css.flatten.drop (j*15)).take 15=c∧zbX H c n:=by
 have hlt:=(qE.1 hj).1;obtain⟨c,hc⟩:∃c,css[j]?=some c:=⟨_,qA (by rw[h.1];exact hlt)⟩;refine⟨c,?_,h.2 j c n hc hj⟩
 have h15:∀x,x∈css→(id x).length=15:=fun x hx=>by
  obtain⟨i,hi⟩:=List.mem_iff_getElem?.1 hx;have hi':=(qE.1 hi).1;exact(h.2 i x _ hi (qA (by rw[←h.1];exact hi'))).len
 have:=zcH id 15 css h15 j c hc
 rwa [List.flatMap_id]at this
abbrev zuP (kd cl w:Int) (vn:Value):Value:=.agg #[.int .i64 kd,.int .i64 cl,.int .i64 w,vn]
theorem zdf {l:List Int} (h:∀c,c∈l→0≤c) (k:Nat):0≤(l.take k).sum∧(l.take k).sum≤l.sum:=by
 have h0:∀m:List Int,(∀c,c∈m→0≤c)→0≤m.sum:=fun m=>by
  induction m with
  | nil=>exact fun _=>Int.le_refl 0
  | cons c m ih=>intro hm;rw[List.sum_cons];have:=hm c (List.mem_cons_self ..);have:=ih fun c hc=>hm c (List.mem_cons_of_mem _ hc);omega
 have e:l.sum=(l.take k).sum+(l.drop k).sum:=by rw[←List.sum_append,List.take_append_drop]
 have h1:=h0 (l.take k) fun c hc=>h c (List.mem_of_mem_take hc);have h2:=h0 (l.drop k) fun c hc=>h c (List.mem_of_mem_drop hc);omega
theorem ztu {q:Rat} (h:0≤q):¬q.num.sign<0:=by
 have:=Rat.num_nonneg.2 h;intro k;have:=Int.sign_nonneg_iff.2 this;omega
theorem Sub.end0 {T:List Nd} {w:Int} {h e:Nat} (h0:Sub T w 0 h e):0<T.length:=by
 have:=h0.lt;omega
def zjt (kd cl w:Int) (t:Tr):Bool:=t.kd == kd && (t.cl == cl && t.w == w)
def zqt (l:List Int) (k:Nat):Bool:=decide (0≤l.getD k 0) && (decide (l.getD k 0<300) && (k == 0 || decide (l.getD (k-1) 0<l.getD k 0)))
def okL (l:List Int):Bool:=(List.range l.length).all (zqt l)
def zbM (kd cl w:Int) (ts:List Tr) (os:List (List Int)):Int :=
 if ts.length<1∨50<ts.length∨os.length≠ts.length then 5 else if ts.all (zjt kd cl w)=true then (if os.all okL=true then 0 else 1) else 10
theorem zix {α:Type} {f:α→Bool} {l:List α} {i:Nat} {x:α} (h:l[i]?=some x) (hx:f x=false):l.all f=false:=by
 cases e:l.all f with
 | false=>rfl
 | true =>
  have:=List.all_eq_true.1 e x (qF h);rw[hx]at this;cases this
theorem zlQ {α:Type} {f:α→Bool} {l:List α} {i:Nat} {x:α} (h:l[i]?=some x) (hx:f x=true) (ht:(l.take i).all f=true):(l.take (i+1)).all f=true:=by
 rw[zah h,List.all_append,ht];simp[hx]
theorem zs4 {l:List Int} {k:Nat} (hk:k<l.length) (h:zqt l k=false):okL l=false:=by
 cases e:okL l with
 | false=>rfl
 | true =>
  have:=List.all_eq_true.1 e k (List.mem_range.2 hk);rw[h]at this;cases this
theorem RTs.get {H:Hp} {tcs:List (List Value)} {ts:List Tr} (h:RTs H tcs ts) {j:Nat} {t:Tr} (hj:ts[j]?=some t):∃c,(tcs.flatten.drop (j*4)).take 4=c∧ziv H c t.kd t.cl t.w t.ns:=by
 have hlt:=(qE.1 hj).1;obtain⟨c,hc⟩:∃c,tcs[j]?=some c:=⟨_,qA (by rw[h.1];exact hlt)⟩;refine⟨c,?_,h.2 j c t hc hj⟩
 have h4:∀x,x∈tcs→(id x).length=4:=fun x hx=>by
  obtain⟨i,hi⟩:=List.mem_iff_getElem?.1 hx;have hi':=(qE.1 hi).1;obtain⟨_,_,_,e,_⟩:=h.2 i x _ hi (qA (by rw[←h.1];exact hi'));subst e;rfl
 have:=zcH id 4 tcs h4 j c hc
 rwa [List.flatMap_id]at this
theorem ILs.get {H:Hp} {vs:List Value} {ls:List (List Int)} (h:ILs H vs ls) {j:Nat} {l:List Int} (hj:ls[j]?=some l):∃a c,vs[j]?=some (.slice a l.length c)∧IL H (.slice a l.length c) l:=by
 have hlt:=(qE.1 hj).1;obtain⟨v,hv⟩:∃v,vs[j]?=some v:=⟨_,qA (by rw[h.1];exact hlt)⟩;have hil:=h.2 j v l hv hj;obtain⟨a,c,rfl⟩:=SlC.val hil;exact⟨a,c,hv,hil⟩
theorem zpL {H:Hp} (d0 l0:Int) (hd:-9223372036854775808≤d0∧d0<9223372036854775808) (hl:-9223372036854775808≤l0∧l0<9223372036854775808) :
  PC prog 32 #[.int .i64 d0,.int .i64 l0,.int .i64 0] H fun r H'=>∃b1 a1 l1 c1 a2 l2 c2,r=zlx (d0 % 5) (1+l0 % 3) (.bool b1) (.slice a1 l1 c1) (.slice a2 l2 c2)∧RQ H' (.agg #[.bool b1,.slice a1 l1 c1,.slice a2 l2 c2]) 0:=by
 have hp1:=zcb d0 5 hd oM oM;have hp2:=zcb l0 3 hl oM oM;refine BD func32 ntmps32 ?_
 repeat (first|refine RUN ?_|refine CV (hp1) ?_|refine CV (hp2) ?_|refine CE (hp1) ?_|refine CE (hp2) ?_)
 rw[show IntKind.i64.wrap (1+l0 % 3)=1+l0 % 3 by rw[IntKind.wrap_i64];omega];refine uR ?_;refine EVL.call rfl rfl rfl rfl rfl (zbj 0 oM oM) ?_;intro r1 G1 hr1 hG1;obtain⟨a1,l1,c1,a2,l2,c2,rfl,_⟩:=id hr1;refine uR ?_;exact⟨_,_,_,_,_,_,_,rfl,hr1⟩
abbrev zuX (kd n w dp ls tr sm seed:Int) (vg vl:Value):Value:=.agg #[.int .i64 kd,.int .i64 n,.int .i64 w,.int .i64 dp,.int .i64 ls,.int .i64 tr,.int .i64 sm,.int .u64 seed,vg,vl]
def zju (z:Int):Prop:=-9223372036854775808≤z∧z<9223372036854775808
set_option maxRecDepth 100000 in
theorem zq9 {H:Hp} {vg vl:Value} {lg ll:List Int} (kd n w dp ls tr sm seed:Int) (hn:zju n) (hw:zju w) (hdp:zju dp) (hls:zju ls) (htr:zju tr) (hsm:zju sm) (hg:IL H vg lg) (hgb:∀z,z∈lg→zju z) (hl:IL H vl ll) (hlb:∀z,z∈ll→zju z) {N W:Nat} (hN:1+n % 8=(N:Int)) (hW:1+w % 3=(W:Int)) :
  PC prog 6 #[zuX kd n w dp ls tr sm seed vg vl] H fun r H'=>∃kd' cl ga gn gc va vn vc vx b1 a1 l1 c1 a2 l2 c2,r=.tuple #[zak kd' cl (.slice ga gn gc) (.slice va vn vc),vx,.agg #[.int .i64 (1+tr % 4),.int .i64 (1+sm % (W:Int)),.int .u64 seed,.int .i64 (dp % 3),.int .i64 (1+ls % 3),.bool b1,.slice a1 l1 c1,.slice a2 l2 c2]] ∧
   zjw H' (zak kd' cl (.slice ga gn gc) (.slice va vn vc)) N (zkR lg N)∧RLL H' vx (zhc ll N W)∧RQ H' (.agg #[.bool b1,.slice a1 l1 c1,.slice a2 l2 c2]) 0:=by
 obtain⟨ga0,gc0,rfl⟩:=SlC.val hg;obtain⟨la0,lc0,rfl⟩:=SlC.val hl;have hp1:=zcb n 8 hn oM oM;have hp2:=zcb w 3 hw oM oM;have hp3:=zcb tr 4 htr oM oM;have hp4:=zcb sm (W:Int) hsm oM oM;have hp5:=zcb dp 3 hdp oM oM;have hp4b:0≤sm % (W:Int)∧sm % (W:Int)<(W:Int):=⟨Int.emod_nonneg _ oM,Int.emod_lt_of_pos _ oM⟩;refine BD func6 ntmps6 ?_
 repeat (first|refine RUN ?_|refine CV (hp1) ?_|refine CE (hp1) ?_)
 rw[show IntKind.i64.wrap (1+n % 8)=(N:Int) by rw[IntKind.wrap_i64];omega]
 repeat (first|refine RUN ?_|refine CV (hp2) ?_|refine CE (hp2) ?_)
 rw[show IntKind.i64.wrap (1+w % 3)=(W:Int) by rw[IntKind.wrap_i64];omega];refine uR ?_;(first|refine EVL.unbox (1) rfl fun g1=>?_|refine EV.unbox (1) rfl fun g1=>?_);refine EVI.start none (g1,25,[.int .i64 kd,.int .i64 n,.int .i64 w,.int .i64 dp,.int .i64 ls,.int .i64 tr,.int .i64 sm,.int .u64 seed,.slice ga0 lg.length gc0,.slice la0 ll.length lc0]) ?_;refine IF 0 ?_;refine IL0 1 ?_;refine IF 2 ?_;refine IL0 3 ?_;refine IV 4 ?_;refine IF 6 ?_;refine IL0 7 ?_;refine IV 8 ?_;refine IV 9 ?_;refine IF 11 ?_;refine IL0 12 ?_;refine IF 15 ?_;refine IL0 16 ?_;refine IV 17 ?_;refine IF 20 ?_;refine IL0 21 ?_;refine IF 22 ?_;refine IL0 23 ?_;refine IF 25 ?_;refine IL0 26 ?_;refine EVI.one 5 0 (.inr rfl) kR rfl ?_;refine EVL.call rfl rfl rfl rfl rfl (zsH hg hgb kd N oM) ?_;intro r5 G5 hr5 hG5
 obtain⟨kd',cl',ga,gn,gc,va,vn,vc,rfl⟩:∃k c ga gn gc va vn vc,r5=zak k c (.slice ga gn gc) (.slice va vn vc):=by
  rcases hr5 with ⟨s,rfl,h⟩ | ⟨c,s,_,rfl,_,_,_,_,h⟩
  ·obtain⟨a,c,rfl⟩:=h.val;exact⟨_,_,_,_,_,_,_,_,rfl⟩
  ·obtain⟨a,c,rfl⟩:=SlC.val h;exact⟨_,_,_,_,_,_,_,_,rfl⟩
 refine EVL.nil ⟨rfl,?_⟩;refine EVI.one 10 0 (.inr rfl) kR rfl ?_;refine EVL.call rfl rfl rfl rfl rfl (ztm (hl.mono hG5) hlb N W oM oM) ?_;intro r6 G6 hr6 hG6;obtain⟨xa,xc,rfl⟩:=hr6.val;refine EVL.nil ⟨rfl,?_⟩;refine EVI.one 13 0 (.inr rfl) kR rfl ?_;refine CV hp3 ?_;refine EVL.nil ⟨rfl,?_⟩;refine IV 14 ?_;refine EVI.one 18 0 (.inr rfl) kR rfl ?_;refine CV hp4 ?_;refine EVL.nil ⟨rfl,?_⟩;refine IV 19 ?_;refine EVI.one 24 0 (.inr rfl) kR rfl ?_;refine CV hp5 ?_;refine EVL.nil ⟨rfl,?_⟩;refine EVI.one 27 0 (.inr rfl) kR rfl ?_;refine EVL.call rfl rfl rfl rfl rfl (zpL (dp % 3) ls oM hls) ?_;rintro r7 G7 ⟨b1,a1,l1,c1,a2,l2,c2,rfl,hq⟩ hG7;rw[show dp % 3 % 5=dp % 3 by omega];refine EVL.nil ⟨rfl,?_⟩;refine IV 28 ?_;refine EVI.one 29 0 (.inr rfl) kR rfl ?_
 (try refine zed ?_);refine EVL.nil ⟨rfl,?_⟩;refine EVI.one 30 0 (.inr rfl) kR rfl ?_
 (try refine zed ?_);refine EVL.nil ⟨rfl,?_⟩;refine EVI.one 31 0 (.inr rfl) kR rfl ?_
 (try refine zed ?_);refine EVL.nil ⟨rfl,?_⟩;refine EVI.nil 0 (.inr rfl) kR ?_;refine uR ?_;have w1:IntKind.i64.wrap (1+tr % 4)=1+tr % 4:=by rw[IntKind.wrap_i64];omega
 have w2:IntKind.i64.wrap (1+sm % (W:Int))=1+sm % (W:Int):=by rw[IntKind.wrap_i64];omega
 exact⟨kd',cl',ga,gn,gc,va,vn,vc,.slice xa (zhc ll N W).length xc,b1,a1,l1,c1,a2,l2,c2,by rw[w1,w2],hr5.mono (hG6.trans hG7),hr6.mono hG7,hq⟩
structure zoe (kd cl:Int) (n:Nat) (cost mean:List Int→Rat) (cnt:List Int→List Int):Prop where
 kind:(kd=1∧1≤cl∧cl≤12)∨(kd=2∧cl=0)
 clen:∀l,((cnt l).length:Int)=cl
 cadd:∀r l m:List Int,r.Perm (l++m)→∀k:Nat,(cnt r).getD k 0=(cnt l).getD k 0+(cnt m).getD k 0
 cpos:∀l c,c∈cnt l→0≤c
 csum:kd=1→∀l,(∀r,r∈l→0≤r∧r<(n:Int))→(cnt l).sum=(l.length:Int)
 zero:kd=1→∀l,mean l=0
 cost0:∀l,0≤cost l
 csm:∀l:List Int,l.length≤300→(∀r,r∈l→0≤r∧r<(n:Int))→ht (cost l)≤2000000
 msm:∀l:List Int,l.length≤300→(∀r,r∈l→0≤r∧r<(n:Int))→ht (mean l)≤4000
theorem zhk:∀l:List Rat,(∀q,q∈l→0≤q)→0≤zaO l
 | [],_=>by rw[zdZ];exact Rat.le_refl
 | x::l,h=>by
  rw[zaJ];exact Rat.add_nonneg (h x (.head _)) (zhk l fun q hq=>h q (.tail _ hq))
theorem zk9 (m:Rat) (l:List Rat):0≤zaO (zeG m l):=zhk _ fun q hq=>by
 obtain⟨v,_,rfl⟩:=List.mem_map.1 hq;exact zky _
theorem zjK (L:List Int):0≤zfT L:=by
 unfold zfT;have h1:=zim L;by_cases h0:L.length=0
 ·obtain rfl:=List.length_eq_zero_iff.1 h0;decide +kernel
 ·have hp:(0:Rat)<((L.length:Int):Rat):=by
   have:((0:Int):Rat)<((L.length:Int):Rat):=Rat.intCast_lt_intCast.2 oM;exact this
  have h2:((sqL L:Int):Rat)≤((L.length:Int):Rat)*((L.length:Int):Rat):=by
   rw[←Rat.intCast_mul];exact Rat.intCast_le_intCast.2 (by exact_mod_cast h1)
  generalize ((L.length:Int):Rat)=N at *
  generalize ((sqL L:Int):Rat)=S at *
  have h3:0≤N⁻¹:=Rat.le_of_lt (Rat.inv_pos.2 hp);have h4:0≤N*N-S:=by grind
  have h5:=Rat.mul_nonneg h4 h3;have hne:N≠0:=by grind
  have h6:N*N⁻¹=1:=Rat.mul_inv_cancel N hne;have h7:(N*N-S)*N⁻¹=N-S / N:=by rw[Rat.div_def];grind
  rw[h7]at h5;exact h5
theorem zmy {α:Type} (f:α→Nat):∀l:List α,(l.map fun x=>(f x:Int)).sum=(((l.map f).sum:Nat):Int)
 | []=>rfl
 | x::l=>by
  rw[List.map_cons,List.map_cons,List.sum_cons,List.sum_cons,zmy f l];omega
theorem zqH {C:Nat} {L:List Int} (h:∀z,z∈L→0≤z∧z<(C:Int)):(zcB C L).sum=(L.length:Int):=by
 have h1:=(zjh C L h).2;unfold zcB;rw[zmy (fun k:Nat=>L.count (k:Int)),←h1]
theorem zgr (C:Nat) (L:List Int) (k:Nat):(zcB C L).getD k 0=if k<C then (L.count (k:Int):Int) else 0:=by
 rw[qB];by_cases h:k<C
 ·rw[zdv _ h,if_pos h];rfl
 ·rw[List.getElem?_eq_none (by rw[zaZ];omega),if_neg h];rfl
theorem zqG (C:Nat) {R L M:List Int} (h:R.Perm (L++M)) (k:Nat):(zcB C R).getD k 0=(zcB C L).getD k 0+(zcB C M).getD k 0:=by
 rw[zgr,zgr,zgr,h.count_eq,List.count_append];split <;> omega
theorem zqz {ls:List Int} {rs:List Int} (h:∀r,r∈rs→0≤r∧r<(ls.length:Int)):∀q,q∈atI ls rs→q∈ls:=fun q hq=>by
 obtain⟨r,hr,rfl⟩:=List.mem_map.1 hq;have:=h r hr;have hl:r.toNat<ls.length:=by omega
 rw[qB,qA hl];exact List.getElem_mem hl
theorem znr {w:Nat} (h0:1≤w) (hw:w≤1000) (s:Int) {k:Nat}:∀c,c∈((zaz w s).1.take k)→0≤c∧c<(w:Int):=fun c hc=>by
 have hp:=zj8 (w-1) (zhm w) s (by rw[zbW];omega) (by rw[zbW];omega);have hm:=hp.mem_iff.1 (List.mem_of_mem_take hc);unfold zhm at hm;obtain⟨i,hi,rfl⟩:=List.mem_map.1 hm;have:=List.mem_range.1 hi;show (0:Int)≤(i:Int)∧(i:Int)<w;omega
def ztJ (X:List (List Rat)) (cost mean:List Int→Rat) (cnt:List Int→List Int) (least:Int) (w sm:Nat):GP:=⟨X,cost,mean,cnt,least,0,fun s=>((zaz w s).1.take sm,(zaz w s).2)⟩
theorem zoe.gp {kd cl:Int} {cost mean:List Int→Rat} {cnt:List Int→List Int} {X:List (List Rat)} {w sm:Nat} {least:Int} (h:zoe kd cl X.length cost mean cnt) (hX:X.length≤300) (hw0:1≤w) (hw:w≤1000) (hx:∀x,x∈X→x.length=w∧∀q,q∈x→ht q≤5):zrU (ztJ X cost mean cnt least w sm) kd cl w :=
 ⟨h.kind,hX,fun x hm=>(hx x hm).1,fun x hm=>(hx x hm).2,h.clen,h.cadd,h.cpos,h.csum,h.zero,h.cost0,h.csm,h.msm,Rat.le_refl,fun s=>znr hw0 hw s⟩
theorem zjq {p:GP} {kd cl:Int} {w D:Nat} (hp:zrU p kd cl w) (hw:1≤w∧w≤20) (hD:D≤9) (h0:1≤p.X.length):∀(k:Nat) (s:Int),(∀t,t∈(p.wood D p.X.length kd cl w k s).1→zcE t∧zjt kd cl w t=true)
 | 0,s=>fun t ht=>by cases ht
 | k+1,s=>fun t ht=>by
  rw[GP.wood_succ]at ht;rcases List.mem_append.1 ht with ht | ht
  ·exact zjq hp hw hD h0 k s t ht
  ·rw[List.mem_singleton.1 ht];refine⟨?_,?_⟩
   ·have hx:=hp.rowsX;have hl:(zjD p.X.length (p.wood D p.X.length kd cl w k s).2.2).1.length=p.X.length:=by unfold zjD;rw[zaU,za6]
    refine zoM hp hw hD (by rw[hl];exact h0) (by rw[hl];exact hx) (fun r hr=>?_) _;unfold zjD at hr;exact zei _ _ _ oM oM r ((zcr _).mem_iff.1 hr)
   ·unfold zjt;simp
def zcs (H:Hp) (cs:List Value) (n:Nd):Prop:=∃a c,IL H (.slice a n.counts.length c) n.counts ∧
 cs=[.int .i64 n.col,.int .i64 n.left,.int .i64 n.right,.int .i64 n.rows,.int .i64 n.cls]++(zac (zae n.at')++(zac (zae n.cost)++(zac (zae n.value)++[.slice a n.counts.length c])))
theorem zcs.mono {H G:Hp} {cs:List Value} {n:Nd} (h:zcs H cs n) (k:H.Le G):zcs G cs n:=by
 obtain⟨a,c,h1,e⟩:=h;exact⟨a,c,h1.mono k,e⟩
theorem zcs.len {H:Hp} {cs:List Value} {n:Nd} (h:zcs H cs n):cs.length=21:=by
 obtain⟨a,c,_,rfl⟩:=h;rfl
theorem zt7 (cs:List Value):[Value.agg cs.toArray].flatMap zac=cs:=by
 show zac (.agg cs.toArray)++[]=cs;rw[qG];rfl
theorem zlh (c:List Value):[c].flatten=c:=List.flatten_singleton
def zd6 (H:Hp) (css:List (List Value)) (ns:List Nd):Prop:=css.length=ns.length∧∀(j:Nat) (c:List Value) (n:Nd),css[j]?=some c→ns[j]?=some n→zcs H c n
theorem zd6.mono {H G:Hp} {css:List (List Value)} {ns:List Nd} (h:zd6 H css ns) (k:H.Le G):zd6 G css ns:=⟨h.1,fun j c n e1 e2=>(h.2 j c n e1 e2).mono k⟩
theorem zd6.get {H:Hp} {css:List (List Value)} {ns:List Nd} (h:zd6 H css ns) {j:Nat} {n:Nd} (hj:ns[j]?=some n):∃c,(css.flatten.drop (j*21)).take 21=c∧zcs H c n:=by
 have hlt:=(qE.1 hj).1;obtain⟨c,hc⟩:∃c,css[j]?=some c:=⟨_,qA (by rw[h.1];exact hlt)⟩;refine⟨c,?_,h.2 j c n hc hj⟩
 have h21:∀x,x∈css→(id x).length=21:=fun x hx=>by
  obtain⟨i,hi⟩:=List.mem_iff_getElem?.1 hx;have hi':=(qE.1 hi).1;exact(h.2 i x _ hi (qA (by rw[←h.1];exact hi'))).len
 have:=zcH id 21 css h21 j c hc
 rwa [List.flatMap_id]at this
def zez (H:Hp) (cs:List Value) (kd cl w:Int) (ns:List Nd):Prop:=∃a c css,cs=[.int .i64 kd,.int .i64 cl,.int .i64 w,.slice a ns.length c]∧zd6 H css ns∧SlC H (.slice a ns.length c) ns.length 21 css.flatten
theorem zez.mono {H G:Hp} {cs:List Value} {kd cl w:Int} {ns:List Nd} (h:zez H cs kd cl w ns) (k:H.Le G):zez G cs kd cl w ns:=by
 obtain⟨a,c,css,e,h1,h2⟩:=h;exact⟨a,c,css,e,h1.mono k,h2.mono k⟩
def zgi (n:Nd):Prop:=rq n.at'∧rq n.cost∧rq n.value∧n.counts.length≤1000000
theorem OkN.smallN {kd cl:Int} {n:Nd} (h:OkN kd cl n) (hc:cl≤12):zgi n:=by
 obtain⟨h1,h2,h3⟩:=h.small;have:=h.len;unfold zgi rq;exact⟨by omega,by omega,by omega,by omega⟩
theorem zq4 {H:Hp} {v:Value} {cl:Int} {sl sv:Value}:PC prog 184 #[zak 1 cl sl sv,v] H fun r _=>r=zae 0:=by
 refine BD func184 ntmps184 ?_;refine uR ?_;exact zcm.symm
section
variable {P:Program} {n:Nat} {ops:Array Oper} {o:Oper} {rest:List Oper} {env:Env} {bx:Bxs} {sb:Bxs} {ow:Ows} {H:Hs} {Q:EQ} {τ:Tab} {d:Nat} {s:SV}
theorem zts {f:Fn} {x y z:Operand} (ho:o.op=.makeFunc f #[] #[x,y,z]) {u v w:Value} (hx:env.op x=some (.v u)) (hy:env.op y=some (.v v)) (hz:env.op z=some (.v w)) (ev:Operand→Value) (W:World) (he:∀y x,y∈o.op.operands→env.op y=some (.v x)→ev y=x) :
  (execOp ev o).run P W=.ok (.value (.func f #[] #[u,v,w])) W:=by
 have ex:=he x _ (by simp[ho,Op.operands]) hx;have ey:=he y _ (by simp[ho,Op.operands]) hy;have ez:=he z _ (by simp[ho,Op.operands]) hz;unfold execOp;simp[ho,ex,ey,ez,Instr.makeFunc]
theorem EVL.fn3 {f:Fn} {x y z:Operand} (ho:o.op=.makeFunc f #[] #[x,y,z]) (hw:zai ops env o=some true) (hd:o.dst=some d) (hn:Nat.blt d n=true) {u v w:Value} (hx:env.op x=some (.v u)) (hy:env.op y=some (.v v)) (hz:env.op z=some (.v w))
  (h:EVL P n ops rest ((d,.v (.func f #[] #[u,v,w]))::env) bx H Q):EVL P n ops (o::rest) env bx H Q:=EVL.gen hw hd hn (zts ho hx hy hz) h
theorem EVL.callWC {f:FuncId} {t:Nat} {args:Array Operand} {tys:Array TypeId} (ho:o.op=.call ⟨.value (.tmp t),args,tys⟩) (hw:zai ops env o=some true) (hd:o.dst=some d) (hn:Nat.blt d n=true)
  {cs:List Value} (ht:env.op (.tmp t)=some (.v (.func (.func f) #[] cs.toArray))) {vs:List Value} (ha:zbu env args.toList some=some vs) (L R:Ows) (e:H.ow=L++R) {Φ:Value→Ows→Hp→Prop} (hpc:PW P f (vs++cs).toArray H.ro L Φ)
  (h:∀v ow H',Φ v ow H'→H.ro.Le H'→EVL P n ops rest ((d,.v v)::env) bx ⟨H',ow++R,H.base⟩ Q):EVL P n ops (o::rest) env bx H Q:=fun W0 β a W r=>by
 obtain⟨vs',hk,hm⟩:=za1 env _ _ _ ha;cases hk;have hvs:=hm β H.ro a.eval (fun y s _ hy=>r.op hy);have htv:a.eval (.tmp t)=.func (.func f) #[] cs.toArray:=r.op ht;unfold wpList;rw[if_pos (r.want hw)];refine .inl ?_;unfold Oper.wp;rw[zfP hpc.can ho htv hvs,Oper.upon_enter]
 have up:∀(j b:Nat) (T:TypeId) (cs:List Value),L[j]?=some (b,T,cs)→H.ow[j]?=some (b,T,cs):=fun j b T cs hj=>by
  rw[e,List.getElem?_append_left (qE.1 hj).1];exact hj
 refine(hpc.run W r.fits r.globW (fun j b T cs hj=>?_) (fun j j' b T T' cs cs' hj hj'=>r.one j j' b T T' cs cs' (up _ _ _ _ hj) (up _ _ _ _ hj'))).mono ?_
 ·obtain⟨h1,h2,h3,_⟩:=r.own j b T cs (up _ _ _ _ hj);refine⟨h1,h3,?_⟩;rcases h2 with h2 | h2
  ·cases hg:gH b with
   | none=>rfl
   | some c=>have:=r.glob.1.lt (b:=b) (by rw[hg];simp);omega
  ·exact(r.glob.2 b h2).1
 ·rintro e' W' ⟨v,ow,H',rfl,hΦ,hle,hf,hnw,hkp,hown,hdist⟩;rw[hd];exact h v ow H' hΦ hle W0 β _ W' ((r.callW e hle hf hnw hkp hown hdist).put hn rfl rfl)
end
section
variable {P:Program} {n:Nat} {ops:Array Oper} {o:Oper} {rest:List Oper} {env:Env} {bx:Bxs} {H:Hs} {Q:EQ} {d:Nat}
end
theorem zrf {H:Hp} {kd cl:Int} {sl sv vx vr vc:Value} {p:GP} {S:List Int→List Value} {wo:List Int→Rat} {rows cols:List Int} {least:Int} (hg:GOk H kd cl sl sv p.X.length S wo) (hp:POk wo p.cost) (hX:QLL H vx p.X) (hr:IL H vr rows) (hn:rows.length≤20) (hb:∀r,r∈rows→0≤r∧r<(p.X.length:Int)) (hc:IL H vc cols) (hcn:cols.length≤1000000) (hx:∀x,x∈p.X→∀q,q∈x→ht q≤100) (hpl:p.least=least) :
  PC prog 186 #[zak kd cl sl sv,vx,vr,vc,.int .i64 least] H fun r _=>r=.tuple #[.agg (zrW (p.best rows cols)).toArray,.bool (p.best rows cols).isSome]:=by
 refine(zsu hg hX hr hn hc hcn hx).mono ?_;rintro r G ⟨ps,h1,h2,h3⟩ _;rw[zdy hb]at h2 h3;have e:=zkY hp h1 h2
 have e2:p.best rows cols=(zb5 ps).map fun t=>(t.1,t.2.1,t.2.2-wo rows):=by
  unfold GP.best;rw[hpl,show max 1 least=max least 1 from Int.max_comm _ _];exact e.symm
 rcases h3 with ⟨h4,rfl⟩ | ⟨c,a,w,h4,rfl⟩
 ·rw[e2,h4];rfl
 ·rw[e2,h4];rfl
structure zjx (H:Hp) (kd cl:Int) (sl sv:Value) (p:GP) (S:List Int→List Value) (wo:List Int→Rat):Prop where
 ok:GOk H kd cl sl sv p.X.length S wo
 pok:POk wo p.cost
 counts:∀G,H.Le G→∀u l,IL G u l→l.length≤300→PC prog 185 #[zak kd cl sl sv,u] G fun r H'=>IL H' r (p.cnt (exL l p.X.length))
 cntlen:∀l,(p.cnt l).length≤12
 top:∀G,H.Le G→∀u l,IL G u l→l.length≤300→PC prog 182 #[zak kd cl sl sv,u] G fun r _=>r=.int .i64 (topN (p.cnt (exL l p.X.length)) (p.cnt (exL l p.X.length)).length:Nat)
 mean:∀G,H.Le G→∀u l,IL G u l→l.length≤300→PC prog 184 #[zak kd cl sl sv,u] G fun r _=>r=zae (p.mean (exL l p.X.length))
 small:∀l:List Int,l.length≤300→(∀r,r∈l→0≤r∧r<(p.X.length:Int))→ht (p.cost l)≤2000000
 cost:∀G,H.Le G→∀u l,IL G u l→l.length≤300→PC prog 183 #[zak kd cl sl sv,u] G fun r _=>r=zae (p.cost (exL l p.X.length))
theorem zjx.mono {H H':Hp} {kd cl:Int} {sl sv:Value} {p:GP} {S:List Int→List Value} {wo:List Int→Rat} (h:zjx H kd cl sl sv p S wo) (k:H.Le H'):zjx H' kd cl sl sv p S wo :=
 ⟨h.ok.mono k,h.pok,fun G hG=>h.counts G (k.trans hG),h.cntlen,fun G hG=>h.top G (k.trans hG),fun G hG=>h.mean G (k.trans hG),h.small,fun G hG=>h.cost G (k.trans hG)⟩
def PTs (H:Hp) (tcs:List (List Value)) (ts:List Tr):Prop:=tcs.length=ts.length∧∀(j:Nat) (c:List Value) (t:Tr),tcs[j]?=some c→ts[j]?=some t→zez H c t.kd t.cl t.w t.ns
theorem PTs.mono {H G:Hp} {tcs:List (List Value)} {ts:List Tr} (h:PTs H tcs ts) (k:H.Le G):PTs G tcs ts:=⟨h.1,fun j c t e1 e2=>(h.2 j c t e1 e2).mono k⟩
theorem PTs.get {H:Hp} {tcs:List (List Value)} {ts:List Tr} (h:PTs H tcs ts) {j:Nat} {t:Tr} (hj:ts[j]?=some t):∃c,(tcs.flatten.drop (j*4)).take 4=c∧zez H c t.kd t.cl t.w t.ns:=by
 have hlt:=(qE.1 hj).1;obtain⟨c,hc⟩:∃c,tcs[j]?=some c:=⟨_,qA (by rw[h.1];exact hlt)⟩;refine⟨c,?_,h.2 j c t hc hj⟩
 have h4:∀x,x∈tcs→(id x).length=4:=fun x hx=>by
  obtain⟨i,hi⟩:=List.mem_iff_getElem?.1 hx;have hi':=(qE.1 hi).1;obtain⟨_,_,_,e,_⟩:=h.2 i x _ hi (qA (by rw[←h.1];exact hi'));subst e;rfl
 have:=zcH id 4 tcs h4 j c hc
 rwa [List.flatMap_id]at this
def PTL (H:Hp) (v:Value) (ts:List Tr):Prop:=∃tcs,PTs H tcs ts∧SlC H v ts.length 4 tcs.flatten
theorem PTL.mono {H G:Hp} {v:Value} {ts:List Tr} (h:PTL H v ts) (k:H.Le G):PTL G v ts:=by
 obtain⟨tcs,h1,h2⟩:=h;exact⟨tcs,h1.mono k,h2.mono k⟩
set_option maxRecDepth 100000 in
theorem zq1 {H:Hp} {v:Value} {os:List (List Int)} (h:ILL H v os) (hs:∀l,l∈os→l.length≤1000000) (hl:os.length≤1000000):PC prog 53 #[v] H fun r H'=>ILL H' r os:=by
 obtain⟨vos,hos,hsl⟩:=h;obtain⟨a,c,rfl⟩:=SlC.val hsl;refine BD func53 ntmps53 ?_;refine uR ?_;refine EV.loopK (ι:=Nat × Value × List Value × Ows) [0] [] (fun q=>[(3,.v q.2.1),(4,.v (.int .i64 (q.1:Int)))]) (fun _=>[]) (fun q=>q.2.2.2) (fun q G=>q.1≤os.length∧ILs G q.2.2.1 (os.take q.1)∧zaK 23 1 q.2.1 q.1 q.2.2.1 q.2.2.2) (fun q=>os.length-q.1) ((0,.slice none 0 0,[],[])) rfl rfl ⟨rfl,rfl,trivial⟩ trivial rfl (fun _=>rfl) (⟨Nat.zero_le _,⟨rfl,fun j c n e1 e2=>by cases e1⟩,zaK.nil _ _⟩) ?_;rintro⟨i,u,ps,ow⟩ G1 hG1 ⟨hi,hps,hown⟩;dsimp only at hi hps hown;obtain⟨wa,wc,rfl⟩:=hown.val;refine uR ?_;refine EV.cond rfl (fun hlt=>?_) (fun hlt=>?_)
 ·simp only[nN]at hlt;obtain⟨l,hli⟩:=gE hlt;have k1:=hs l (qF hli);obtain⟨a1,c1,hoi,hil⟩:=(hos.mono hG1).get hli;by_cases e:l.length=0
  ·obtain rfl:=List.length_eq_zero_iff.1 e;refine uR ?_;refine EVL.lit0 tO rfl rfl rfl rfl rfl rfl rfl fun g0=>?_;refine uR ?_;refine vI ((hsl.mono hG1)) (i) (rfl) (hlt) (hoi) ?_;refine uR ?_;refine EVL.append0 tO rfl rfl rfl rfl rfl rfl rfl rfl rfl (qH _) ?_;refine EVL.subOw [] [(g0,_,_)] ow rfl ?_;refine uR ?_;refine EVL.app1 tO rfl rfl rfl rfl rfl rfl rfl rfl rfl rfl rfl rfl rfl rfl rfl rfl rfl rfl rfl (fun _=>rfl) (ow) ([]) ((qG _).symm) (hown) oM fun _=>?_;intro v' ow' hown';refine uR ?_;refine⟨(i+1,v',ps++[_],ow'),⟨rfl,by dsimp only;rw[zab i (by omega)];rfl,trivial⟩,sB,trivial,trivial,qG _,⟨hlt,by dsimp only;rw[zah hli];exact zbk hps (IL.nil _ _ _),hown'⟩,Hp.Le.refl _,by dsimp only;omega⟩
  ·try refine uR ?_
   refine EVL.lit0 tO rfl rfl rfl rfl rfl rfl rfl fun g0=>?_;refine uR ?_;refine vI ((hsl.mono hG1)) (i) (rfl) (hlt) (hoi) ?_;refine uR ?_;refine EVL.append tO rfl rfl rfl rfl rfl rfl rfl rfl rfl rfl rfl rfl [] [(g0,3,[])] ow rfl (zaK.full (m:=0) rfl oM) (zdp.ro hil (Nat.pos_of_ne_zero e)) (zlq l) oM ?_;intro v2 ow2 hown2;rw[Nat.zero_add,List.nil_append]at hown2;obtain⟨a2,c2,rfl⟩:=hown2.val;(first|refine EVL.publishL [] ow2 ow (rfl) hown2 fun G2 hG2 hs2=>?_|refine EV.publishL [] ow2 ow (rfl) hown2 fun G2 hG2 hs2=>?_);refine uR ?_;refine EVL.app1 tO rfl rfl rfl rfl rfl rfl rfl rfl rfl rfl rfl rfl rfl rfl rfl rfl rfl rfl rfl (fun _=>rfl) (ow) ([]) ((qG _).symm) (hown) oM fun _=>?_;intro v' ow' hown';refine uR ?_;refine⟨(i+1,v',ps++[_],ow'),⟨rfl,by dsimp only;rw[zab i (by omega)];rfl,trivial⟩,sB,trivial,trivial,qG _,⟨hlt,by dsimp only;rw[zah hli];exact zbk (hps.mono hG2) hs2,hown'⟩,hG2,by dsimp only;omega⟩
 ·simp only[nN]at hlt;obtain rfl:i=os.length:=by omega
  rw[List.take_length]at hps;(first|refine EVL.publishL [] ow [] ((qG _).symm) hown fun G2 hG2 hs2=>?_|refine EV.publishL [] ow [] ((qG _).symm) hown fun G2 hG2 hs2=>?_);refine uR ?_;exact⟨ps,hps.mono hG2,hs2⟩
def zlO (ts:List Tr) (os:List (List Int)):Prop:=(ts.length≤1000000∧∀t,t∈ts→t.ns.length≤1000000∧∀n,n∈t.ns→zgi n)∧os.length≤1000000∧∀l,l∈os→l.length≤1000000
theorem zcs.cells {H:Hp} {cs:List Value} {n:Nd} (h:zcs H cs n):∃a c,cs=[.int .i64 n.col,.int .i64 n.left,.int .i64 n.right,.int .i64 n.rows,.int .i64 n.cls,
  .bool (decide (n.at'.num<0)),.int .u64 (lo n.at'.num.natAbs:Int),.string (zao n.at'.num.natAbs),.int .u64 (lo (dk n.at'.den):Int),.string (zao (dk n.at'.den)),
  .bool (decide (n.cost.num<0)),.int .u64 (lo n.cost.num.natAbs:Int),.string (zao n.cost.num.natAbs),.int .u64 (lo (dk n.cost.den):Int),.string (zao (dk n.cost.den)),
  .bool (decide (n.value.num<0)),.int .u64 (lo n.value.num.natAbs:Int),.string (zao n.value.num.natAbs),.int .u64 (lo (dk n.value.den):Int),.string (zao (dk n.value.den)),.slice a n.counts.length c]∧IL H (.slice a n.counts.length c) n.counts:=by
 obtain⟨a,c,h1,rfl⟩:=h;exact⟨a,c,rfl,h1⟩
abbrev zlG (kd cl w:Int) (vn:Value) (far:Int):List Value:=[.int .i64 kd,.int .i64 cl,.int .i64 w,vn,.int .i64 far]
set_option maxRecDepth 100000 in
theorem zs8 {kd cl w:Int} {a:Option Addr} {cp:Nat} {ns:List Nd} (hln:ns.length≤1000000) {k h e:Nat} (hsub:Sub ns w k h e):∀{H:Hp} {css:List (List Value)} {b:Nat} {T:TypeId} {deep:Nat} {far:Int},zd6 H css ns→SlC H (.slice a ns.length cp) ns.length 21 css.flatten→deep≤k →
  PW prog 104 #[.pointer (some ⟨b,0,none⟩),.int .i64 (k:Int),.int .i64 (deep:Int)] H [(b,T,zlG kd cl w (.slice a ns.length cp) far)] fun v ow _=>v=.tuple #[.int .i64 (e:Int),.bool true]∧∃far',ow=[(b,T,zlG kd cl w (.slice a ns.length cp) far')]∧far'≤max far ((deep+h:Nat):Int):=by
 induction hsub with
 | @leaf k h n hn hc hl hr ha =>
  intro H css b T deep far hns hsl hdk;have hlt:=(qE.1 hn).1;obtain⟨c,hcut,hnd⟩:=hns.get hn;obtain⟨a7,c7,rfl,_⟩:=hnd.cells
  have hsg:PV prog 26 #[zae n.at'] (.int .i64 0):=by
   rw[ha];exact zdJ 0 (by show bl 0≤_;rw[zbB];omega)
  refine PW.body tO func104 rfl kR ntmps104 rfl rfl ?_;refine uR ?_;refine RP ?_;refine EVL.loadOwn tO rfl rfl rfl rfl rfl rfl (0) rfl (rfl) rfl rfl ?_;refine uR ?_;rw[qC (show ¬(k:Int)≥(ns.length:Int) by omega)];refine uR ?_;refine RP ?_;refine EVL.loadOwn tO rfl rfl rfl rfl rfl rfl (0) rfl (rfl) rfl rfl ?_;refine uR ?_;refine EVL.idxM tO rfl rfl rfl rfl rfl rfl rfl rfl rfl (hsl) (k) (rfl) (hlt) (hcut) ?_;refine uR ?_;rw[hc];refine uR ?_;refine RP ?_;refine EVL.loadOwn tO rfl rfl rfl rfl rfl rfl (0) rfl (rfl) rfl rfl ?_;refine uR ?_;refine RP ?_;refine EVL.storeOwn tO rfl rfl rfl rfl rfl rfl ([]) ([]) rfl rfl rfl rfl ((by exact qH 5)) (rfl) ?_;refine uR ?_;rw[hl,hr]
  repeat (first|refine RUN ?_|refine CV (hsg) ?_|refine CE (hsg) ?_)
  refine⟨by rw[zab k (by omega)];rfl,_,rfl,?_⟩;split <;> omega
 | @node k h m e n hn hc1 hc2 hl hr s1 s2 ih1 ih2 =>
  intro H css b T deep far hns hsl hdk;have hlt:=(qE.1 hn).1;obtain⟨hm1,hm2⟩:=s1.lt;obtain⟨he1,he2⟩:=s2.lt;obtain⟨c,hcut,hnd⟩:=hns.get hn;obtain⟨a7,c7,rfl,_⟩:=hnd.cells;refine PW.body tO func104 rfl kR ntmps104 rfl rfl ?_;refine uR ?_;refine RP ?_;refine EVL.loadOwn tO rfl rfl rfl rfl rfl rfl (0) rfl (rfl) rfl rfl ?_;refine uR ?_;rw[qC (show ¬(k:Int)≥(ns.length:Int) by omega)];refine uR ?_;refine RP ?_;refine EVL.loadOwn tO rfl rfl rfl rfl rfl rfl (0) rfl (rfl) rfl rfl ?_;refine uR ?_;refine EVL.idxM tO rfl rfl rfl rfl rfl rfl rfl rfl rfl (hsl) (k) (rfl) (hlt) (hcut) ?_;refine uR ?_;rw[show (n.col == -1)=false from beq_eq_false_iff_ne.2 (by omega)];refine uR ?_;apply EV.drawn 20 kR kR;intro xv yw;(repeat refine' DD ?_);rw[qC (show ¬n.col<0 by omega)];(repeat refine' DD ?_);(repeat (first|refine' DD ?_|refine' vN ?_|refine' vF ?_));refine' DJ.ofVal (zaa.loadOwn tO rfl rfl rfl rfl (0) rfl (rfl) rfl rfl) rfl rfl rfl ?_;rotate_left;(repeat refine' DD ?_);rw[qC (show ¬n.col≥w by omega)];(repeat refine' DD ?_);rw[hl,zab k oM,show (((k+1:Nat):Int) != ((k+1:Nat):Int))=false from bne_self_eq_false _];(repeat refine' DD ?_);(refine DJ.nil (fun G1 hG1 hF1=>?_);(case hS|hS2=>rfl));refine uR ?_;rw[zab k oM,zab deep (by omega)];refine EVL.callW rfl rfl rfl rfl rfl ([(b,T,zlG kd cl w (.slice a ns.length cp) far)]) ([]) rfl (ih1 (hns.mono hG1) (hsl.mono hG1) (deep:=deep+1) oM) ?_;rintro _ _ G2 ⟨rfl,far1,rfl,hf1⟩ hG2;refine uR ?_;rw[hr,show ((m:Int) != (m:Int))=false from bne_self_eq_false _];refine uR ?_;rw[zab deep (by omega)];refine EVL.callW rfl rfl rfl rfl rfl ([(b,T,zlG kd cl w (.slice a ns.length cp) far1)]) ([]) rfl (ih2 (hns.mono (hG1.trans hG2)) (hsl.mono (hG1.trans hG2)) (deep:=deep+1) oM) ?_;rintro _ _ G3 ⟨rfl,far2,rfl,hf2⟩ hG3;refine uR ?_;exact⟨rfl,far2,rfl,by omega⟩
set_option maxRecDepth 100000 in
theorem zkb {H:Hp} {kd cl w:Int} {vn:Value} {n:Nd} {cs:List Value} (hkd:(kd=1∧1≤cl∧cl≤12)∨(kd=2∧cl=0)) (hnd:zcs H cs n) (hN:OkN kd cl n) :
  PC prog 105 #[zuP kd cl w vn,.agg cs.toArray] H fun r _=>r=.bool true:=by
 obtain⟨a7,c7,rfl,k4⟩:=hnd.cells;have hN1:=hN.rows;have hcl:n.counts.length≤12:=by have:=hN.len;omega
 have hsc:PV prog 26 #[zae n.cost] (.int .i64 n.cost.num.sign):=zdJ _ (by have:=(zaY hN.small.2.1 oM).num;show bl n.cost.num.natAbs≤_;omega);refine BD func105 ntmps105 ?_;refine uR ?_;rw[qC (show ¬n.rows<1 by omega)];refine uR ?_;rw[qC (show ¬n.rows>1048576 by omega)]
 repeat (first|refine RUN ?_|refine CV (hsc) ?_|refine CE (hsc) ?_)
 rw[qC (ztu hN.cost)];refine uR ?_;rw[show ((n.counts.length:Int) != cl)=false by rw[hN.len];exact bne_self_eq_false _];refine uR ?_;rcases hkd with ⟨rfl,hc1,hc2⟩ | ⟨rfl,rfl⟩
 ·have hsv:PV prog 26 #[zae n.value] (.int .i64 0):=by
   rw[hN.value rfl];exact zdJ 0 (by show bl 0≤_;rw[zbB];omega)
  refine uR ?_;refine EV.loopK (ι:=Nat) [2,3,38,39] [2,3] (fun q=>[(5,.v (.int .i64 (n.counts.take q).sum)),(6,.v (.int .i64 (topN n.counts q:Nat))),(40,.v (.int .i64 (q:Int)))]) (fun _=>[]) (fun _=>[]) (fun q _=>q≤n.counts.length) (fun q=>n.counts.length-q) (0) rfl rfl ⟨rfl,rfl,rfl,trivial⟩ trivial rfl (fun _=>rfl) (Nat.zero_le _) ?_;rintro q G2 hG2 hq;have hsum:=hN.sum rfl;refine uR ?_;refine EV.cond rfl (fun hlt=>?_) (fun hlt=>?_)
  ·simp only[nN]at hlt;have ht1:=zdf hN.pos (q+1);have ht0:=zdf hN.pos q;have hti:=zhl n.counts q;have htl:topN n.counts q<n.counts.length:=by omega
   have g1:=zff hlt;have g2:=zff htl;have hz0:=hN.pos _ (qF g1);have hts:(n.counts.take (q+1)).sum=(n.counts.take q).sum+n.counts.getD q 0:=by rw[zah g1,List.sum_append,List.sum_singleton]
   have hst:topN n.counts (q+1)=if n.counts.getD (topN n.counts q) 0<n.counts.getD q 0 then q else topN n.counts q:=rfl
   generalize topN n.counts q=tp at *
   generalize n.counts.getD tp 0=x at *
   generalize n.counts.getD q 0=y at *
   refine uR ?_;refine vI ((k4.mono hG2)) (q) (rfl) (hlt) ((by rw[List.getElem?_map,g1];rfl)) ?_;refine uR ?_;rw[qC (show ¬y<0 by omega)];refine uR ?_;rw[qC (show ¬y>n.rows by omega)];refine uR ?_;rw[show IntKind.i64.wrap ((n.counts.take q).sum+y)=(n.counts.take (q+1)).sum by rw[IntKind.wrap_i64];omega];refine vI ((k4.mono hG2)) (tp) (rfl) (htl) ((by rw[List.getElem?_map,g2];rfl)) ?_;refine uR ?_;by_cases h:y>x
   ·rw[qD h];rw[if_pos h]at hst;refine uR ?_;refine⟨q+1,⟨rfl,by rw[hst];rfl,by rw[zab q (by omega)];rfl,trivial⟩,sB,trivial,sB,rfl,by omega,Hp.Le.refl _,by omega⟩
   ·rw[qC h];rw[if_neg h]at hst;refine uR ?_;refine⟨q+1,⟨rfl,by rw[hst];rfl,by rw[zab q (by omega)];rfl,trivial⟩,sB,trivial,sB,rfl,by omega,Hp.Le.refl _,by omega⟩
  ·simp only[nN]at hlt;obtain rfl:q=n.counts.length:=by omega
   rw[List.take_length,hsum,hN.cls];refine uR ?_;rw[show (n.rows == n.rows)=true from beq_self_eq_true _];refine uR ?_;rw[show ((topN n.counts n.counts.length:Int) == (topN n.counts n.counts.length:Int))=true from beq_self_eq_true _]
   repeat (first|refine RUN ?_|refine CV (hsv) ?_|refine CE (hsv) ?_)
   rfl
 ·have hc0:n.counts=[]:=List.length_eq_zero_iff.1 (by have:=hN.len;omega);have hcls0:n.cls=0:=by rw[hN.cls,hc0];rfl
  rw[hcls0];refine uR ?_;rfl
set_option maxRecDepth 100000 in
theorem zrd {H:Hp} {kd cl:Int} {n na nb:Nd} {cs ca cb:List Value} (hkd:(kd=1∧1≤cl∧cl≤12)∨(kd=2∧cl=0)) (hnd:zcs H cs n) (hnda:zcs H ca na) (hndb:zcs H cb nb) (hN:OkN kd cl n) (hNa:OkN kd cl na) (hNb:OkN kd cl nb) (hCC:OkC n na nb) :
  PC prog 106 #[.agg cs.toArray,.agg ca.toArray,.agg cb.toArray] H fun r _=>r=.bool true:=by
 obtain⟨a7,c7,rfl,k4⟩:=hnd.cells;obtain⟨xa7,xc7,rfl,ka4⟩:=hnda.cells;obtain⟨ya7,yc7,rfl,kb4⟩:=hndb.cells;have hRa:=hNa.rows;have hRb:=hNb.rows;have hRc:=hCC.rows;have hRn:=hN.rows;have hs0:=hN.small;have hsa:=hNa.small;have hsb:=hNb.small;have hlna:(na.counts.length:Int)=cl:=hNa.len;have hlnb:(nb.counts.length:Int)=cl:=hNb.len;have hlnn:(n.counts.length:Int)=cl:=hN.len;have had:=zd8 na.cost nb.cost;have hadd:=zfB na.cost nb.cost (zaY hsa.2.1 oM) (zaY hsb.2.1 oM);have hcmp:=zfE n.cost (na.cost+nb.cost) (zaY hs0.2.1 oM) (by unfold sm;omega);refine BD func106 ntmps106 ?_;refine uR ?_;refine EV.loopK (ι:=Nat) [3,4,5,10,11] [3,4,5] (fun q=>[(12,.v (.int .i64 (q:Int)))]) (fun _=>[]) (fun _=>[]) (fun q _=>q≤n.counts.length) (fun q=>n.counts.length-q) (0) rfl rfl ⟨rfl,trivial⟩ trivial rfl (fun _=>rfl) (Nat.zero_le _) ?_;rintro q G1 hG1 hq;refine uR ?_;refine EV.cond rfl (fun hlt=>?_) (fun hlt=>?_)
 ·simp only[nN]at hlt
  have hk1:kd=1:=by
   rcases hkd with ⟨e,_⟩ | ⟨_,e⟩
   ·exact e
   ·omega
  obtain⟨z,hz⟩:=gE hlt;have hqa:q<na.counts.length:=by omega
  have hqb:q<nb.counts.length:=by omega
  obtain⟨za,hza⟩:=gE hqa;obtain⟨zb,hzb⟩:=gE hqb;have hcc:=hCC.counts q;rw[qB,qB,qB,hz,hza,hzb]at hcc;simp only[Option.getD_some]at hcc;have hz0:=hN.pos z (qF hz)
  have hup:z≤1048576:=by
   have h1:=zdf hN.pos (q+1);have h2:=zdf hN.pos q;rw[zah hz,List.sum_append,List.sum_singleton]at h1;have h3:=hN.sum hk1;omega
  have hwz:IntKind.i64.wrap (za+zb)=z:=by rw[IntKind.wrap_i64];omega
  refine uR ?_;refine vI ((k4.mono hG1)) (q) (rfl) (hlt) ((by rw[List.getElem?_map,hz];rfl)) ?_;refine uR ?_;apply EV.drawn 13 kR kR;intro xv yw;(repeat refine' DD ?_);refine' vJ ((ka4.mono hG1)) (q) (rfl) (hqa) ((by rw[List.getElem?_map,hza];rfl)) ?_;rotate_left;(repeat refine' DD ?_);refine' vJ ((kb4.mono hG1)) (q) (rfl) (hqb) ((by rw[List.getElem?_map,hzb];rfl)) ?_;rotate_left;(repeat refine' DD ?_);rw[hwz,show (z != z)=false from bne_self_eq_false _];(repeat refine' DD ?_);(refine DJ.nil (fun G hG hF=>?_);(case hS|hS2=>rfl));refine uR ?_;refine⟨q+1,⟨by rw[zab q (by omega)];rfl,trivial⟩,sB,trivial,sB,rfl,hlt,hG,by omega⟩
 ·simp only[nN]at hlt;refine uR ?_;have hwr:IntKind.i64.wrap (na.rows+nb.rows)=n.rows:=by rw[IntKind.wrap_i64];omega
  apply EV.drawn 20 kR kR;intro xv yw;(repeat refine' DD ?_);rw[hwr,show (n.rows == n.rows)=true from beq_self_eq_true _];(repeat (first|refine' DD ?_|(refine' DC (hadd) (h:=?_);rotate_left)|(refine' DC (hcmp) (h:=?_);rotate_left)));rw[qD (show zb9 n.cost (na.cost+nb.cost)≥0 from Int.not_lt.1 fun k=>Rat.not_lt.2 hCC.cost ((ziZ _ _).1 k))];(repeat refine' DD ?_);(refine DJ.nil (fun G hG hF=>?_);(case hS|hS2=>rfl));refine uR ?_;rfl
abbrev pgC (kd cl:Int) (sl sv vx:Value) (deep least:Int) (gq:Rat) (fv out:Value):List Value:=[.int .i64 kd,.int .i64 cl,sl,sv,vx,.int .i64 deep,.int .i64 least,.bool (decide (gq.num<0)),.int .u64 (lo gq.num.natAbs:Int),.string (zao gq.num.natAbs),.int .u64 (lo (dk gq.den):Int),.string (zao (dk gq.den)),fv,out]
def zhI (H:Hp) (f:FuncId) (ccs:List Value) (dv:Value) (p:GP):Prop:=∀G,H.Le G→∀(D:Ows) (s:Int),ze6 dv D s→PW prog f ccs.toArray G D fun v ow G'=>IL G' v (p.cols s).1∧ze6 dv ow (p.cols s).2
theorem zhI.mono {H H':Hp} {f:FuncId} {ccs:List Value} {dv:Value} {p:GP} (h:zhI H f ccs dv p) (k:H.Le H'):zhI H' f ccs dv p:=fun G hG=>h G (k.trans hG)
theorem ztj {R:List Value→Nd→Prop} {s:Nat} (hlen:∀c n,R c n→c.length=s) {css:List (List Value)} {A B:List Nd} {n:Nd} (h:css.length=(A++n::B).length∧∀(j:Nat) (c:List Value) (m:Nd),css[j]?=some c→(A++n::B)[j]?=some m→R c m) :
  ∃cA c cB,css=cA++c::cB∧cA.flatten.length=A.length*s∧R c n∧∀(c':List Value) (n':Nd),R c' n'→((cA++c'::cB).length=(A++n'::B).length∧∀(j:Nat) (x:List Value) (m:Nd),(cA++c'::cB)[j]?=some x→(A++n'::B)[j]?=some m→R x m):=by
 have hl:=h.1;rw[List.length_append,List.length_cons]at hl;have hlt:A.length<css.length:=by omega
 have e:css=css.take A.length++css[A.length]::css.drop (A.length+1):=by
  rw[←List.drop_eq_getElem_cons hlt,List.take_append_drop]
 have hla:(css.take A.length).length=A.length:=by rw[List.length_take];omega
 refine⟨_,_,_,e,?_,h.2 A.length _ n (qA hlt) (by rw[List.getElem?_append_right (qH _),Nat.sub_self];rfl),?_⟩
 ·have:∀l:List (List Value),(∀c,c∈l→c.length=s)→l.flatten.length=l.length*s:=by
   intro l
   induction l with
   | nil=>intro _;simp
   | cons c l ih=>intro h;rw[List.flatten_cons,List.length_append,h c (List.mem_cons_self ..),ih (fun c hc=>h c (List.mem_cons_of_mem _ hc)),List.length_cons,Nat.succ_mul];omega
  refine(this _ fun c hc=>?_).trans (by rw[hla]);obtain⟨j,hj⟩:=List.mem_iff_getElem?.1 (List.mem_of_mem_take hc);have hj':=(qE.1 hj).1;obtain⟨m,hm⟩:∃m,(A++n::B)[j]?=some m:=⟨_,qA (by rw[←h.1];exact hj')⟩;exact hlen _ _ (h.2 j c m hj hm)
 ·intro c' n' hc;refine⟨by simp only[List.length_append,List.length_cons,hla,List.length_drop];omega,fun j c1 n1 e1 e2=>?_⟩;rcases Nat.lt_trichotomy j A.length with hj | rfl | hj
  ·rw[List.getElem?_append_left oM,List.getElem?_take_of_lt hj]at e1;rw[List.getElem?_append_left hj]at e2;exact h.2 j c1 n1 e1 (by rw[List.getElem?_append_left hj];exact e2)
  ·rw[List.getElem?_append_right oM,hla,Nat.sub_self]at e1;rw[List.getElem?_append_right (qH _),Nat.sub_self]at e2;cases e1;cases e2;exact hc
  ·obtain⟨k,rfl⟩:∃k,j=A.length+(k+1):=⟨j-A.length-1,by omega⟩;rw[List.getElem?_append_right oM,hla,Nat.add_sub_cancel_left,List.getElem?_cons_succ,List.getElem?_drop]at e1;rw[List.getElem?_append_right oM,Nat.add_sub_cancel_left,List.getElem?_cons_succ]at e2;exact h.2 (A.length+(k+1)) c1 n1 (by rw[←e1];congr 1;omega) (by rw[List.getElem?_append_right oM,Nat.add_sub_cancel_left,List.getElem?_cons_succ];exact e2)
theorem zaK.midS {s:Nat} (hs:0<s) {e:TypeId} {v:Value} {m:Nat} {cA cB:List (List Value)} {c:List Value} {ow:Ows} (h:zaK e s v m (cA++c::cB).flatten ow) (hc:c.length=s):∃g cap sp,v=.slice (some ⟨g,0,none⟩) m cap∧ow=[(g,e,cA.flatten++(c++(cB.flatten++sp)))]∧∀c',c'.length=s→zaK e s v m (cA++c'::cB).flatten [(g,e,cA.flatten++(c'++(cB.flatten++sp)))]:=by
 have hl:=h.1;rcases h.2 with ⟨_,rfl,_⟩ | ⟨g,cap,sp,rfl,rfl,h1,h2,h3⟩
 ·simp[hc]at hl;omega
 ·have e1:∀c':List Value,(cA++c'::cB).flatten=cA.flatten++(c'++cB.flatten):=fun c'=>by simp
  rw[e1]at hl h1;refine⟨g,cap,sp,rfl,by rw[e1];simp,fun c' hc'=>⟨?_,.inr ⟨g,cap,sp,rfl,by rw[e1];simp,?_,h2,h3⟩⟩⟩
  ·rw[e1,←hl];simp[hc,hc']
  ·rw[e1,←h1];simp[hc,hc']
theorem zm1 (o:Option (Int × Rat × Rat)):∃c t g,zrW o=.int .i64 c::(zac (zae t)++zac (zae g))∧∀c' t' g',o=some (c',t',g')→c'=c∧t'=t∧g'=g:=by
 cases o with
 | none=>exact⟨0,0,0,rfl,fun c' t' g' e=>by cases e⟩
 | some q=>obtain⟨c,t,g⟩:=q;exact⟨c,t,g,rfl,fun c' t' g' e=>by cases e;exact⟨rfl,rfl,rfl⟩⟩
theorem zrk {p:GP} {kd cl least deep:Int} {S:List Int→List Value} {wo:List Int→Rat} {la va xa:Option Addr} {ln lc vn vc xc:Nat} {f:FuncId} {ccs:List Value} {dv:Value} (hcl:∀s,(p.cols s).1.length≤1000) (hx0:0<p.X.length) (hX20:p.X.length≤20) (hxq:∀x,x∈p.X→∀q,q∈x→ht q≤5) (hpl:p.least=least) (hgr:sm p.gain):∀(d:Nat) {H:Hp} {b:Nat} {T:TypeId} {dd s:Int} {vr out:Value} {rows:List Int} {ns:List Nd} {css:List (List Value)} {D ow:Ows},
  zjx H kd cl (.slice la ln lc) (.slice va vn vc) p S wo→QLL H (.slice xa p.X.length xc) p.X→zhI H f ccs dv p→dd+d=deep→0≤dd→deep≤10 →
  IL H vr rows→rows.length≤20→(∀r,r∈rows→0≤r∧r<(p.X.length:Int))→ze6 dv D s→zaK 103 21 out ns.length css.flatten ow→zd6 H css ns→ns.length+2 ^ (d+1)≤1000000 →
  PW prog 140 #[.pointer (some ⟨b,0,none⟩),vr,.int .i64 dd] H ((b,T,pgC kd cl (.slice la ln lc) (.slice va vn vc) (.slice xa p.X.length xc) deep least p.gain (.func (.func f) #[] ccs.toArray) out)::(D++ow)) fun v ow' H'=>v=.tuple #[]∧∃out' D' ow2 css',ow'=(b,T,pgC kd cl (.slice la ln lc) (.slice va vn vc) (.slice xa p.X.length xc) deep least p.gain (.func (.func f) #[] ccs.toArray) out')::(D'++ow2)∧ze6 dv D' (p.grow d ns.length rows s).2∧zaK 103 21 out' (ns++(p.grow d ns.length rows s).1).length css'.flatten ow2∧zd6 H' css' (ns++(p.grow d ns.length rows s).1):=by
 intro d
 induction d using Nat.strongRecOn with
 | _ d ih =>
  intro H b T dd s vr out rows ns css D ow hg hX hcf hdd hd0 hd1 hr hn hb hD hown hns hsz;obtain⟨oa,oc,rfl⟩:=hown.val;obtain⟨ra,rc,rfl⟩:=SlC.val hr;have hpw:2≤2 ^ (d+1):=by rw[Nat.pow_succ];have:=Nat.one_le_two_pow (n:=d);omega
  have hex:=zdy hb;have htop:=fun (G:Hp) (hG:H.Le G)=>hg.top G hG _ _ (hr.mono hG) oM;have hcost:=fun (G:Hp) (hG:H.Le G)=>hg.cost G hG _ _ (hr.mono hG) oM;have hmean:=fun (G:Hp) (hG:H.Le G)=>hg.mean G hG _ _ (hr.mono hG) oM;have hcnt:=fun (G:Hp) (hG:H.Le G)=>hg.counts G hG _ _ (hr.mono hG) oM;rw[hex]at htop hcost hmean hcnt;refine PW.body tO func140 rfl kR ntmps140 rfl rfl ?_;refine uR ?_;refine RP ?_;refine EVL.loadOwn tO rfl rfl rfl rfl rfl rfl (0) rfl (rfl) rfl rfl ?_;refine uR ?_;refine EV.meetK (ι:=Value × Ows × List Value) [0,1,2,6] [] (fun _=>[]) (fun _=>[]) (fun q=>(b,T,pgC kd cl (.slice la ln lc) (.slice va vn vc) (.slice xa p.X.length xc) deep least p.gain (.func (.func f) #[] ccs.toArray) q.1)::(D++q.2.1)) (fun q G=>H.Le G∧zaK 103 21 q.1 (ns.length+1) (css++[q.2.2]).flatten q.2.1∧zcs G q.2.2 (p.nd rows)) rfl rfl (fun _=>rfl) ?_ ?_
  ·refine EVI.start (some 36) (b,T,pgC kd cl (.slice la ln lc) (.slice va vn vc) (.slice xa p.X.length xc) deep least p.gain (.func (.func f) #[] ccs.toArray) (.slice oa ns.length oc)) ?_;refine IV 0 ?_;refine IV 1 ?_;refine IN 2 ?_;refine IF 3 ?_;refine IL0 4 ?_;refine IV 5 ?_;refine IV 6 ?_;refine IV 7 ?_;refine IN 8 ?_;refine IF 9 ?_;refine IL0 10 ?_;refine IV 11 ?_;refine IV 13 ?_;refine IN 14 ?_;refine IF 15 ?_;refine IL0 16 ?_;refine IV 17 ?_;refine IV 19 ?_;refine IN 20 ?_;refine IF 21 ?_;refine IL0 22 ?_;refine IV 23 ?_;refine IV 25 ?_;refine IN 26 ?_;refine IF 27 ?_;refine IL0 28 ?_;refine IV 29 ?_;refine EVI.one 12 0 (.inr rfl) kR rfl ?_;refine vA (htop _ (Hp.Le.refl _)) ?_;rintro _ G1 rfl hG1;refine EVL.nil ⟨rfl,?_⟩;refine EVI.one 18 0 (.inr rfl) kR rfl ?_;refine vA (hcost _ hG1) ?_;rintro _ G2 rfl hG2;refine EVL.nil ⟨rfl,?_⟩;refine EVI.one 24 0 (.inr rfl) kR rfl ?_;refine vA (hmean _ (hG1.trans hG2)) ?_;rintro _ G3 rfl hG3;refine EVL.nil ⟨rfl,?_⟩;refine EVI.one 30 0 (.inr rfl) kR rfl ?_;refine vA (hcnt _ ((hG1.trans hG2).trans hG3)) ?_;intro r4 G4 hr4 hG4;obtain⟨a7,c7,rfl⟩:=SlC.val hr4;refine EVL.nil ⟨rfl,?_⟩;refine EVI.one 31 0 (.inr rfl) kR rfl ?_
   (try refine zed ?_);refine EVL.nil ⟨rfl,?_⟩;refine EVI.one 32 0 (.inr rfl) kR rfl ?_;refine EVL.lit tO rfl rfl rfl rfl rfl rfl rfl rfl rfl rfl rfl fun bl=>?_;refine EVL.nil ⟨rfl,?_⟩;refine EVI.one 33 1 (.inr rfl) kR rfl ?_;refine EVL.append tO rfl rfl rfl rfl rfl rfl rfl rfl rfl rfl rfl rfl ([(bl,_,_),(b,T,_)]++D) ow [] (by rw[qG];rfl) hown (zdp.own 0 rfl rfl) rfl oM ?_;intro v2 ow2 hown2;obtain⟨oa2,oc2,rfl⟩:=hown2.val;refine EVL.nil ⟨rfl,?_⟩;refine EVI.one 34 1 (.inr rfl) kR rfl ?_;refine EVL.nilB rfl rfl rfl rfl rfl ?_;refine EVL.nil ⟨rfl,?_⟩;refine EVI.one 35 1 (.inr rfl) kR rfl ?_;refine EVL.fldB tO rfl rfl rfl rfl rfl rfl rfl ?_;refine EVL.nil ⟨rfl,?_⟩;refine EVI.one 36 1 (.inr rfl) kR rfl ?_;refine EVL.storeOwn tO rfl rfl rfl rfl rfl rfl ([(bl,_,_)]) (D++(ow2++[])) rfl rfl rfl rfl ((by exact qH 14)) (rfl) ?_;refine EVL.subOw [] [(bl,_,_)] _ rfl ?_;refine EVL.nil ⟨rfl,?_⟩;refine EVI.nil 0 (.inl kR) kR ?_
   have hpn:zcs G4 (([.int .i64 (-1),.int .i64 0,.int .i64 0,.int .i64 (rows.length:Int),.int .i64 (topN (p.cnt rows) (p.cnt rows).length:Nat),.bool false,.int .u64 0,.string ⟨#[]⟩,.int .u64 0,.string ⟨#[]⟩]:List Value)++(zac (zae (p.cost rows))++(zac (zae (p.mean rows))++[.slice a7 (p.cnt rows).length c7]))) (p.nd rows):=⟨a7,c7,hr4,by
    rw[show zac (zae (p.nd rows).at')=_ from zat];rfl⟩
   exact⟨(_,ow2++[],_),trivial,sB,trivial,trivial,rfl,((hG1.trans hG2).trans hG3).trans hG4,(by rw[qG,List.flatten_append];exact hown2),hpn⟩
  ·rintro⟨out1,ow1,c1⟩ G1 ⟨hG1,hown1,hnd1⟩;dsimp only at hown1 hnd1;obtain⟨oa1,oc1,rfl⟩:=hown1.val;have hns1:zd6 G1 (css++[c1]) (ns++[p.nd rows]):=zbk (hns.mono hG1) hnd1;refine uR ?_;refine RP ?_;refine EVL.loadOwn tO rfl rfl rfl rfl rfl rfl (0) rfl (rfl) rfl rfl ?_;refine uR ?_;by_cases hd:d=0
   ·subst hd;obtain rfl:dd=deep:=by omega
    rw[qD (show dd≥dd from Int.le_refl _)];refine uR ?_;exact⟨rfl,_,D,ow1,_,rfl,hD,by rw[List.length_append];exact hown1,hns1⟩
   obtain⟨e,rfl⟩:∃e,d=e+1:=⟨d-1,by omega⟩;have ih':=@ih e oM;clear ih;rw[qC (show ¬dd≥deep by omega)];refine uR ?_;have hcolp:=hcf G1 hG1 D s hD
   have hbest:∀(G:Hp) (ca:Option Addr) (cc:Nat),G1.Le G→IL G (.slice ca (p.cols s).1.length cc) (p.cols s).1→PC prog 186 #[zak kd cl (.slice la ln lc) (.slice va vn vc),.slice xa p.X.length xc,.slice ra rows.length rc,.slice ca (p.cols s).1.length cc,.int .i64 least] G fun r _=>r=.tuple #[.agg (zrW (p.best rows (p.cols s).1)).toArray,.bool (p.best rows (p.cols s).1).isSome]:=fun G ca cc hG hc =>
    zrf (hg.ok.mono (hG1.trans hG)) hg.pok (hX.mono (hG1.trans hG)) (hr.mono (hG1.trans hG)) hn hb hc (qI (hcl s) oM) (fun x hx q hq=>qI (hxq x hx q hq) oM) hpl
   obtain⟨c,t,g,hcut,hval⟩:=zm1 (p.best rows (p.cols s).1);rw[hcut]at hbest;refine EV.meetK (ι:=Ows) [0,1,2,6] [] (fun _=>[(7,.p 7 0),(8,.v (.bool (p.best rows (p.cols s).1).isSome))]) (fun _=>[(7,272,.int .i64 c::(zac (zae t)++zac (zae g)))]) (fun q=>(b,T,pgC kd cl (.slice la ln lc) (.slice va vn vc) (.slice xa p.X.length xc) deep least p.gain (.func (.func f) #[] ccs.toArray) (.slice oa1 (ns.length+1) oc1))::(q++ow1)) (fun q G=>G1.Le G∧ze6 dv q (p.cols s).2) rfl rfl (fun _=>rfl) ?_ ?_
   ·refine EVI.start none (b,T,pgC kd cl (.slice la ln lc) (.slice va vn vc) (.slice xa p.X.length xc) deep least p.gain (.func (.func f) #[] ccs.toArray) (.slice oa1 (ns.length+1) oc1)) ?_;refine IV 0 ?_;refine IN 1 ?_;refine IF 2 ?_;refine IL0 3 ?_;refine IV 4 ?_;refine IN 5 ?_;refine IF 6 ?_;refine IL0 7 ?_;refine IV 8 ?_;refine IV 9 ?_;refine IN 10 ?_;refine IF 11 ?_;refine IL0 12 ?_;refine IV 14 ?_;refine IN 15 ?_;refine IF 16 ?_;refine IF 17 ?_;refine IL0 18 ?_;refine EVI.two 13 23 0 (.inr rfl) kR rfl rfl ?_ ?_
    ·(first|refine EVL.swapOw ([(b,T,_)]) (D++ow1) (rfl) ?_|refine EV.swapOw ([(b,T,_)]) (D++ow1) (rfl) ?_);refine EVL.callWC rfl rfl rfl rfl (cs:=ccs) rfl (vs:=[]) rfl D (ow1++[(b,T,_)]) (List.append_assoc _ _ _) hcolp ?_;rintro v2 D2 G2 ⟨hil,hD2⟩ hG2;obtain⟨ca,cc,rfl⟩:=SlC.val hil;(first|refine EVL.swapOw (D2++ow1) ([(b,T,_)]) ((List.append_assoc _ _ _).symm) ?_|refine EV.swapOw (D2++ow1) ([(b,T,_)]) ((List.append_assoc _ _ _).symm) ?_);refine EVL.nil ⟨rfl,?_⟩;refine EVI.two 19 23 0 (.inr rfl) kR rfl rfl ?_ ?_
     ·refine vA (hbest _ _ _ hG2 hil) ?_;rintro _ G3 rfl hG3;refine EVL.nil ⟨rfl,?_⟩;refine IV 20 ?_;refine IV 21 ?_;refine IV 22 ?_;refine EVI.one 23 0 (.inr rfl) kR rfl ?_
      (try refine zed ?_);refine EVL.nil ⟨rfl,?_⟩;refine EVI.one 24 0 (.inr rfl) kR rfl ?_
      (try refine zed ?_);refine EVL.nil ⟨rfl,?_⟩;refine EVI.one 25 0 (.inr rfl) kR rfl ?_
      (try refine zed ?_);refine EVL.nil ⟨rfl,?_⟩;refine EVI.nil 0 (.inr rfl) kR ?_;exact⟨D2,⟨rfl,rfl,trivial⟩,sB,⟨rfl,trivial⟩,trivial,rfl,hG2.trans hG3,hD2⟩
     ·(try refine zed ?_);refine EVL.nil ⟨rfl,?_⟩;refine EVI.one 19 0 (.inr rfl) kR rfl ?_;refine vA (hbest _ _ _ hG2 hil) ?_;rintro _ G3 rfl hG3;refine EVL.nil ⟨rfl,?_⟩;refine IV 20 ?_;refine IV 21 ?_;refine IV 22 ?_;refine EVI.one 24 0 (.inr rfl) kR rfl ?_
      (try refine zed ?_);refine EVL.nil ⟨rfl,?_⟩;refine EVI.one 25 0 (.inr rfl) kR rfl ?_
      (try refine zed ?_);refine EVL.nil ⟨rfl,?_⟩;refine EVI.nil 0 (.inr rfl) kR ?_;exact⟨D2,⟨rfl,rfl,trivial⟩,sB,⟨rfl,trivial⟩,trivial,rfl,hG2.trans hG3,hD2⟩
    ·(try refine zed ?_);refine EVL.nil ⟨rfl,?_⟩;refine EVI.one 13 0 (.inr rfl) kR rfl ?_;(first|refine EVL.swapOw ([(b,T,_)]) (D++ow1) (rfl) ?_|refine EV.swapOw ([(b,T,_)]) (D++ow1) (rfl) ?_);refine EVL.callWC rfl rfl rfl rfl (cs:=ccs) rfl (vs:=[]) rfl D (ow1++[(b,T,_)]) (List.append_assoc _ _ _) hcolp ?_;rintro v2 D2 G2 ⟨hil,hD2⟩ hG2;obtain⟨ca,cc,rfl⟩:=SlC.val hil;(first|refine EVL.swapOw (D2++ow1) ([(b,T,_)]) ((List.append_assoc _ _ _).symm) ?_|refine EV.swapOw (D2++ow1) ([(b,T,_)]) ((List.append_assoc _ _ _).symm) ?_);refine EVL.nil ⟨rfl,?_⟩;refine EVI.one 19 0 (.inr rfl) kR rfl ?_;refine vA (hbest _ _ _ hG2 hil) ?_;rintro _ G3 rfl hG3;refine EVL.nil ⟨rfl,?_⟩;refine IV 20 ?_;refine IV 21 ?_;refine IV 22 ?_;refine EVI.one 24 0 (.inr rfl) kR rfl ?_
     (try refine zed ?_);refine EVL.nil ⟨rfl,?_⟩;refine EVI.one 25 0 (.inr rfl) kR rfl ?_
     (try refine zed ?_);refine EVL.nil ⟨rfl,?_⟩;refine EVI.nil 0 (.inr rfl) kR ?_;exact⟨D2,⟨rfl,rfl,trivial⟩,sB,⟨rfl,trivial⟩,trivial,rfl,hG2.trans hG3,hD2⟩
   ·rintro D2 G2 ⟨hG2,hD2⟩;clear hbest hcolp;have hH2:=hG1.trans hG2;refine uR ?_
    cases hbe:p.best rows (p.cols s).1 with
    | none =>
     have hcut0:p.cut rows (p.cols s).1=none:=by unfold GP.cut;rw[hbe]
     rw[GP.grow_none hcut0];rw[show (none:Option (Int × Rat × Rat)).isSome=false from rfl];apply EV.drawn 13 kR kR;intro xv yw;(repeat refine' DD ?_);(refine DJ.nil (fun G hG hF=>?_);(case hS|hS2=>rfl));refine uR ?_;exact⟨rfl,_,D2,ow1,_,rfl,hD2,by rw[List.length_append];exact hown1,hns1.mono (hG2.trans hG)⟩
    | some q =>
     obtain⟨c',t',g'⟩:=q;obtain⟨rfl,rfl,rfl⟩:=hval c' t' g' hbe;rw[show (some (c',t',g')).isSome=true from rfl]
     have htg:sm t'∧sm g':=by
      have hf:=zcU (zaG p.X p.cost rows (max 1 p.least) (p.cols s).1);rw[show (zaG p.X p.cost rows (max 1 p.least) (p.cols s).1).foldl zf5 none=some (c',t',g') from hbe]at hf;have:=zgk hg.small oM hb hxq hf.1;exact⟨zaY this.1 oM,zaY this.2 oM⟩
     obtain⟨htb,hgb⟩:=htg;have hcmp:=zfE g' p.gain hgb hgr;apply EV.drawn 13 kR kR;intro xv yw;(repeat (first|refine' DD ?_|refine' vN ?_|refine' vF ?_));refine' DJ.ofVal (zaa.loadOwn tO rfl rfl rfl rfl (0) rfl (rfl) rfl rfl) rfl rfl rfl ?_;rotate_left;(repeat (first|refine' DD ?_|(refine' DC (hcmp) (h:=?_);rotate_left)));(refine DJ.nil (fun G4 hG4 hF4=>?_);(case hS|hS2=>rfl));refine uR ?_;by_cases hle:g'≤p.gain
     ·have hcut0:p.cut rows (p.cols s).1=none:=by unfold GP.cut;rw[hbe];exact if_pos hle
      rw[GP.grow_none hcut0];rw[qD (ziW hle)];refine uR ?_;exact⟨rfl,_,D2,ow1,_,rfl,hD2,by rw[List.length_append];exact hown1,hns1.mono (hG2.trans hG4)⟩
     have hcut0:p.cut rows (p.cols s).1=some (c',t'):=by unfold GP.cut;rw[hbe];exact if_neg hle
     rw[GP.grow_some hcut0];rw[qC (Int.not_le.2 (zeW.2 (Rat.not_le.1 hle)))];have hH4:=hH2.trans hG4;refine uR ?_;apply EV.drawn 14 kR kR;intro xv yw;(repeat (first|refine' DD ?_|refine' vN ?_|refine' vF ?_));refine' DJ.ofVal (zaa.loadOwn tO rfl rfl rfl rfl (0) rfl (rfl) rfl rfl) rfl rfl rfl ?_;rotate_left;(repeat (first|refine' DD ?_|refine' vN ?_|refine' vF ?_));refine' vB (cO func187) (fun G hG hd=>zrF (col:=c') (t:=t') (hX.mono (hH4.trans hG)) (hr.mono (hH4.trans hG)) oM (fun x hx q hq=>zaY (hxq x hx q hq) oM) htb) (fun _ _ _ h k=>(by obtain⟨u,w,e,hu,hw⟩:=h;exact⟨u,w,e,hu.mono k,hw.mono k⟩)) ?_;rotate_left;refine' DJ.copy (9) (by first|exact .inl rfl|exact .inr rfl) rfl rfl rfl id rfl kR ?_;rotate_left;refine' DJ.extract (9) rfl rfl rfl rfl rfl kR (fun G hd=>(by obtain⟨u,w,e,_⟩:=hd.head kR;exact⟨_,e,Nat.zero_lt_succ _⟩)) ?_;rotate_left;refine' DJ.extract (9) rfl rfl rfl rfl rfl kR (fun G hd=>(by obtain⟨u,w,e,_⟩:=hd.head kR;exact⟨_,e,Nat.lt_succ_self _⟩)) ?_;rotate_left;refine' DJ.copy (9) (.inr rfl) rfl rfl rfl (zcD 0) rfl kR ?_;rotate_left;(refine DJ.nil (fun G5 hG5 hF5=>?_);(case hS|hS2=>rfl));obtain⟨⟨u5,w5,e5,hu5,hw5⟩,_⟩:=hF5;rw[e5];rw[zdy hb]at hu5 hw5;obtain⟨ua,uc,rfl⟩:=SlC.val hu5;obtain⟨wa,wc,rfl⟩:=SlC.val hw5;rw[show zcD 0 (Value.tuple #[.slice ua (zbt p.X c' t' rows).length uc,.slice wa (zaE p.X c' t' rows).length wc])=.slice ua (zbt p.X c' t' rows).length uc from rfl,show zcD 1 (Value.tuple #[.slice ua (zbt p.X c' t' rows).length uc,.slice wa (zaE p.X c' t' rows).length wc])=.slice wa (zaE p.X c' t' rows).length wc from rfl];have hH5:=hH4.trans hG5;have hns5:=hns1.mono (hG2.trans (hG4.trans hG5));have wd:IntKind.i64.wrap (dd+1)=dd+1:=by rw[IntKind.wrap_i64];omega
     have hlo3:(zbt p.X c' t' rows).length≤20:=qI (List.length_filter_le _ _) hn;have hhi3:(zaE p.X c' t' rows).length≤20:=qI (List.length_filter_le _ _) hn;have hlom:∀r,r∈zbt p.X c' t' rows→0≤r∧r<(p.X.length:Int):=fun r hr=>hb r (List.mem_filter.mp hr).1;have hhim:∀r,r∈zaE p.X c' t' rows→0≤r∧r<(p.X.length:Int):=fun r hr=>hb r (List.mem_filter.mp hr).1;have hl1:(ns++[p.nd rows]).length=ns.length+1:=by simp
     have hp2:2 ^ (e+1+1)=2 ^ (e+1)+2 ^ (e+1):=by rw[Nat.pow_succ];omega
     have hp3:2≤2 ^ (e+1):=by rw[Nat.pow_succ];have:=Nat.one_le_two_pow (n:=e);omega
     have hL:=ih' (H:=G5) (b:=b) (T:=T) (dd:=dd+1) (s:=(p.cols s).2) (ns:=ns++[p.nd rows]) (hg.mono hH5) (hX.mono hH5) (hcf.mono hH5) oM oM hd1 hu5 hlo3 hlom hD2 (by rw[hl1];exact hown1) hns5 (by rw[hl1];omega);rw[hl1]at hL;have hLl:=(p.grow_len e (ns.length+1) (zbt p.X c' t' rows) (p.cols s).2).2;generalize hLe:p.grow e (ns.length+1) (zbt p.X c' t' rows) (p.cols s).2=Lp at *
     obtain⟨Ls,s2⟩:=Lp;dsimp only at hL hLl;refine uR ?_;refine RP ?_;refine EVL.loadOwn tO rfl rfl rfl rfl rfl rfl (0) rfl (rfl) rfl rfl ?_;refine uR ?_;rw[wd];refine EVL.callW rfl rfl rfl rfl rfl _ [] (qG _).symm hL ?_;rintro _ _ G8 ⟨rfl,out2,D3,ow3,css3,rfl,hD3,hown3,hns3⟩ hG8;rw[qG ((b,T,_)::(D3++ow3))];have hl2:(ns++[p.nd rows]++Ls).length=ns.length+1+Ls.length:=by simp;omega
     rw[hl2]at hown3;obtain⟨oa3,oc3,rfl⟩:=hown3.val;have hH8:=hH5.trans hG8;have hR:=ih' (H:=G8) (b:=b) (T:=T) (dd:=dd+1) (s:=s2) (ns:=ns++[p.nd rows]++Ls) (hg.mono hH8) (hX.mono hH8) (hcf.mono hH8) oM oM hd1 (hw5.mono hG8) hhi3 hhim hD3 (by rw[hl2];exact hown3) hns3 (by rw[hl2];omega);rw[hl2]at hR;generalize hRe:p.grow e (ns.length+1+Ls.length) (zaE p.X c' t' rows) s2=Rp at *
     obtain⟨Rs,s3⟩:=Rp;dsimp only at hR;refine uR ?_;refine RP ?_;refine EVL.loadOwn tO rfl rfl rfl rfl rfl rfl (0) rfl (rfl) rfl rfl ?_;refine uR ?_;rw[wd];refine EVL.callW rfl rfl rfl rfl rfl _ [] (qG _).symm hR ?_;rintro _ _ G10 ⟨rfl,out4,D4,ow4,css4,rfl,hD4,hown4,hns4⟩ hG10;rw[qG ((b,T,_)::(D4++ow4))];rw[show ns++[p.nd rows]++Ls++Rs=ns++p.nd rows::(Ls++Rs) by simp]at hown4 hns4;obtain⟨cA,cc1,cB,ecs,hAl,⟨a7,c7,hil7,rfl⟩,hput⟩:=ztj (fun c n h=>zcs.len h) hns4;rw[ecs]at hown4;clear ecs;obtain⟨go,capo,sp,rfl,rfl,hback⟩:=hown4.midS oM rfl;have hl3:(ns++p.nd rows::(Ls++Rs)).length=ns.length+1+Ls.length+Rs.length:=by simp;omega
     refine uR ?_;refine RP ?_;refine EVL.loadOwn tO rfl rfl rfl rfl rfl rfl (0) rfl (rfl) rfl rfl ?_;refine uR ?_;refine EVL.idxB tO rfl rfl rfl rfl rfl rfl rfl rfl rfl (ns.length) (ns.length*21) (rfl) ((by rw[hl3];omega)) (rfl) ?_;refine uR ?_;(first|refine EVL.unbox (7) rfl fun gc=>?_|refine EV.unbox (7) rfl fun gc=>?_);refine EVI.start (some 21) (gc,272,.int .i64 c'::(zac (zae t')++zac (zae g'))) ?_;refine IV 0 ?_;refine IV 1 ?_;refine IV 2 ?_;refine IV 3 ?_;refine IF 4 ?_;refine IL0 5 ?_;refine IF 6 ?_;refine IL0 7 ?_;refine IV 8 ?_;refine IV 9 ?_;refine IN 10 ?_;refine IF 11 ?_;refine EVI.one 12 0 (.inr rfl) kR rfl ?_;refine EVL.storeOwn tO rfl rfl rfl rfl rfl rfl ((gc,_,_)::(b,T,_)::D4) ([]) rfl rfl rfl rfl ((zcL (f:=0) hAl rfl (by show 0+1≤21;omega))) (zde (f:=0) hAl rfl rfl (by show 0+1≤21;omega) rfl) ?_;refine EVL.nil ⟨rfl,?_⟩;refine IN 13 ?_;refine IF 14 ?_;refine EVI.one 15 0 (.inr rfl) kR rfl ?_;refine EVL.storeOwn tO rfl rfl rfl rfl rfl rfl ((gc,_,_)::(b,T,_)::D4) ([]) rfl rfl rfl rfl ((zcL (f:=5) hAl rfl (by show 5+5≤21;omega))) (zde (f:=5) hAl rfl rfl (by show 5+5≤21;omega) rfl) ?_;refine EVL.nil ⟨rfl,?_⟩;refine IN 16 ?_;refine IF 17 ?_;refine EVI.one 18 0 (.inr rfl) kR rfl ?_;refine EVL.storeOwn tO rfl rfl rfl rfl rfl rfl ((gc,_,_)::(b,T,_)::D4) ([]) rfl rfl rfl rfl ((zcL (f:=1) hAl rfl (by show 1+1≤21;omega))) (zde (f:=1) hAl rfl rfl (by show 1+1≤21;omega) rfl) ?_;refine EVL.nil ⟨rfl,?_⟩;refine IN 19 ?_;refine IF 20 ?_;refine EVI.one 21 0 (.inr rfl) kR rfl ?_;refine EVL.storeOwn tO rfl rfl rfl rfl rfl rfl ((gc,_,_)::(b,T,_)::D4) ([]) rfl rfl rfl rfl ((zcL (f:=2) hAl rfl (by show 2+1≤21;omega))) (zde (f:=2) hAl rfl rfl (by show 2+1≤21;omega) rfl) ?_;refine EVL.subOw [] [(gc,_,_)] _ rfl ?_;refine EVL.nil ⟨rfl,?_⟩;refine EVI.nil 0 (.inl kR) kR ?_;refine uR ?_;obtain⟨n2,hn2⟩:∃n2:Nd,({ p.nd rows with col:=c',left:=((ns.length+1:Nat):Int),right:=((ns.length+1+Ls.length:Nat):Int),at':=t' }:Nd)=n2:=⟨_,rfl⟩
     have hpn:zcs G10 ([.int .i64 c',.int .i64 ((ns.length+1:Nat):Int),.int .i64 ((ns.length+1+Ls.length:Nat):Int),.int .i64 (p.nd rows).rows,.int .i64 (p.nd rows).cls]++(zac (zae t')++(zac (zae (p.nd rows).cost)++(zac (zae (p.nd rows).value)++[.slice a7 (p.nd rows).counts.length c7])))) n2:=by
      subst hn2;exact⟨a7,c7,hil7,rfl⟩
     rw[hn2];have hl4:(ns++n2::(Ls++Rs)).length=(ns++p.nd rows::(Ls++Rs)).length:=by simp
     refine⟨rfl,_,D4,_,_,rfl,hD4,?_,hput _ _ hpn⟩;rw[hl4];exact hback _ rfl
section
variable {P:Program} {n:Nat} {ops:Array Oper} {fuel:Nat} {L:Array Bool} {env:Env} {bx:Bxs} {H:Hs} {K:Env→Bxs→Hs→Prop} {τ:Tab} {d:Nat} {o:Oper} {v:Value}
theorem EVL.eqnilP {rest:List Oper} {Q:EQ} {T T' e:TypeId} {x:Operand} {p:Addr} (hT:P.underlying T=some (.pointer e)) (ho:o.op=.binOp .eql T x (.const (.pointer none)) T') (hw:zai ops env o=some true) (hd:o.dst=some d) (hn:Nat.blt d n=true)
  (hx:env.op x=some (.v (.pointer (some p)))) (h:EVL P n ops rest ((d,.v (.bool false))::env) bx H Q):EVL P n ops (o::rest) env bx H Q :=
 EVL.gen hw hd hn (fun ev W he=>by
  have ex:=he x _ (by simp[ho,Op.operands]) hx;have ey:=he (.const (.pointer none)) _ (by simp[ho,Op.operands]) rfl
  have hq:(Op.equalIn (9999+1) T (.pointer (some p)) (.pointer none)).run P W=.ok false W:=by
   unfold Op.equalIn;simp[run_underlying hT]
  have hm:Op.maxDepth=9999+1:=rfl;unfold execOp;simp[ho,ex,ey,eqGuard,binOp,Op.equal,hm,hq]) h
end
theorem zoF {H:Hp} (s:Int):PO prog 38 #[.int .u64 s] H fun v ow=>∃g,v=.pointer (some ⟨g,0,none⟩)∧ow=[(g,162,[.int .u64 s])] :=
 ⟨(cO func38),fun W _ _=>(zqR s W).mono fun e W' ⟨he,hw⟩=>by
  subst hw;refine⟨_,_,he,⟨_,rfl,rfl⟩,⟨by simp,fun b T cs h=>?_⟩,(Below.refl _ _).alloc (qH _) _⟩;rw[List.mem_singleton]at h;cases h;exact⟨qH _,Box.new W _ _⟩⟩
theorem zrm {H:Hp} {b:Nat} {T:TypeId} {s:Int} (hs:0≤s) :
  PW prog 84 #[.pointer (some ⟨b,0,none⟩)] H [(b,T,[.int .u64 s])] fun v ow _=>v=.int .u64 (mix (nxt s))∧(∃T',ow=[(b,T',[.int .u64 (nxt s)])])∧0≤nxt s:=by
 refine⟨(cO func84),fun W hf hg hL hd=>?_⟩;obtain⟨hB,hHb,_⟩:=hL 0 b T _ rfl;refine(zgB b s W ⟨hs,T,hB⟩).mono ?_;rintro e W' ⟨rfl,⟨hs',T',hdie⟩,hk,_⟩;refine⟨_,[(b,T',[.int .u64 (nxt s)])],H,rfl,⟨rfl,⟨T',rfl⟩,hs'⟩,Hp.Le.refl _,fun k c hc=>?_,Nw.refl _ _ _,hk.mono (fun k _ e=>by subst e;exact Ows.bs_mem (j:=0) rfl),fun j b' T1 cs hj=>?_,?_⟩
 ·obtain⟨T3,fz,hW⟩:=hf k c hc;refine⟨T3,fz,?_⟩;rw[hk.block k (hf.lt (by rw[hc];simp)) (fun e=>by subst e;rw[hHb]at hc;cases hc)];exact hW
 ·cases j with
  | zero =>
   cases (show some (b,T',[Value.int .u64 (nxt s)])=some (b',T1,cs) from hj);exact⟨hdie,.inr (Ows.bs_mem (j:=0) rfl),hHb⟩
  | succ j=>simp at hj
 ·intro j j' b' T1 T2 c1 c2 h1 h2
  cases j with
  | zero=>cases j' with
   | zero=>rfl
   | succ j'=>simp at h2
  | succ j=>simp at h1
theorem zpo {H:Hp} {b n:Nat} {T:TypeId} {s:Int} (hs:0≤s) (hn:1≤n) (hn2:n≤65536) :
  PW prog 92 #[.pointer (some ⟨b,0,none⟩),.int .i64 (n:Int)] H [(b,T,[.int .u64 s])] fun v ow H'=>(∃T',ow=[(b,T',[.int .u64 (zaz n s).2])])∧0≤(zaz n s).2∧IL H' v (zaz n s).1∧∃a,v=.slice a (zaz n s).1.length (zaz n s).1.length :=
 PW.of_order (cO func92) hs fun W hd=>by
  have:=zm7 b n s W hd hn hn2;rw[zcn];exact this
theorem zri {H:Hp} {b n k:Nat} {T:TypeId} {s:Int} (hs:0≤s) (hn:1≤n) (hn2:n≤1000000) (hk:1≤k) (hk2:k≤65536) :
  PW prog 87 #[.pointer (some ⟨b,0,none⟩),.int .i64 (n:Int),.int .i64 (k:Int)] H [(b,T,[.int .u64 s])] fun v ow H'=>(∃T',ow=[(b,T',[.int .u64 (zaA n k s).2])])∧0≤(zaA n k s).2∧IL H' v (zaA n k s).1∧∃a,v=.slice a (zaA n k s).1.length (zaA n k s).1.length :=
 PW.of_order (cO func87) hs fun W hd=>by
  have:=zoy b n k s W hd oM oM hk hk2;rw[za6];exact this
theorem zs6 {H:Hp} {v:Value} {l:List Int} (h:IL H v l) (hl:l.length≤100000):PC prog 86 #[v] H fun r H'=>IL H' r (za0 l) :=
 PC.of_po (E:=3) (PO.of_row (cO func86) fun W hf=>by
  obtain⟨a,cap,rfl,hs,_⟩:=SlN.sl h hf;rw[zaU];exact ziy _ l oM W hs)
theorem zrn {H:Hp} {v:Value} {l:List Int} (h:IL H v l) (n:Nat) (hn1:1≤n) (hn:n≤300) (hl:l.length≤100000):PC prog 88 #[.int .i64 (n:Int),v] H fun r H'=>IL H' r (zcy n l) :=
 PC.of_po (E:=3) (PO.of_row (cO func88) fun W hf=>by
  obtain⟨a,cap,rfl,hs,_⟩:=SlN.sl h hf;exact zrs n _ l W hs hn1 hn oM)
theorem ztc {H:Hp} {v:Value} {l:List Nat} (h:SlN n8 H v l) (hl:l.length≤1000000):PC prog 85 #[v] H fun r _=>r=.int .u64 (zsd l):=by
 obtain⟨a,cap,rfl⟩:=SlC.val h;refine BD func85 ntmps85 ?_;refine uR ?_;refine EV.loopK (ι:=Nat) [6,7] [] (fun q=>[(3,.v (.int .u64 (zsd (l.take q)))),(8,.v (.int .i64 (q:Int)))]) (fun _=>[]) (fun _=>[]) (fun q _=>q≤l.length) (fun q=>l.length-q) (0) rfl rfl ⟨rfl,rfl,trivial⟩ trivial rfl (fun _=>rfl) (Nat.zero_le _) ?_;rintro i G1 hG1 hi;refine uR ?_;refine EV.cond rfl (fun hlt=>?_) (fun hlt=>?_)
 ·simp only[nN]at hlt;obtain⟨z,hz⟩:=gE hlt;refine uR ?_;refine vI ((h.mono hG1)) (i) (rfl) (hlt) ((by rw[List.getElem?_map,hz];rfl)) ?_;refine uR ?_;refine EVL.xorI rfl rfl rfl rfl rfl rfl ?_;refine uR ?_;refine⟨i+1,⟨by rw[zah hz,zkA];rfl,by rw[zab i (by omega)];rfl,trivial⟩,sB,trivial,trivial,rfl,hlt,Hp.Le.refl _,by omega⟩
 ·simp only[nN]at hlt;obtain rfl:i=l.length:=by omega
  rw[List.take_length];refine uR ?_;rfl
theorem zrj {H:Hp} {b:Nat} {T:TypeId} {s:Int} {t:ByteArray} (hs:0≤s) (ht:t.size≤1000000) :
  PW prog 39 #[.pointer (some ⟨b,0,none⟩),.string t] H [(b,T,[.int .u64 s])] fun v ow _=>∃T' g,v=.pointer (some ⟨g,0,none⟩)∧ow=[(g,162,[.int .u64 (zcg s t)]),(b,T',[.int .u64 (nxt s)])]∧0≤nxt s∧0≤zcg s t:=by
 refine PW.body tO func39 rfl kR ntmps39 rfl rfl ?_;refine uR ?_;refine vW ([(b,T,[.int .u64 s])]) ([]) (zrm hs) ?_;rintro _ ow1 G1 ⟨rfl,⟨T1,rfl⟩,hn⟩ hG1;refine uR ?_;refine EVL.convCall (e:=5) rfl rfl rfl rfl Tryz.underlying9 Tryz.underlying165 Tryz.underlying5 rfl rfl rfl rfl rfl (fun G g cap c hc hG hcell=>ztc (l:=t.data.toList.map UInt8.toNat) ⟨by simp,?_⟩ (by simpa using ht)) fun g cap=>?_
 ·rw[List.length_map,Array.length_toList];refine .inr ⟨g,0,cap,c,rfl,hc,hG,fun j x hj=>?_⟩;rw[List.getElem?_map,List.getElem?_map,Array.getElem?_toList]at hj
  cases hb:t.data[j]? with
  | none=>rw[hb]at hj;cases hj
  | some b =>
   rw[hb]at hj;cases hj;rw[Nat.zero_add];exact hcell j b hb
 refine EVL.xorI rfl rfl rfl rfl rfl rfl ?_;refine EVL.callO rfl rfl rfl rfl rfl (zoF _) ?_;rintro _ ow2 ⟨g2,rfl,rfl⟩;refine uR ?_;exact⟨_,g2,rfl,rfl,hn,(zfa _ _ _).1⟩
theorem zrg {H:Hp} {b n:Nat} {T:TypeId} {s:Int} (hs:0≤s) (hn:1≤n) (hn2:n≤300) :
  PW prog 40 #[.int .i64 (n:Int),.pointer (some ⟨b,0,none⟩)] H [(b,T,[.int .u64 s])] fun v ow H'=>∃T' u w,v=.tuple #[u,w]∧ow=[(b,T',[.int .u64 (zaA n n s).2])]∧0≤(zaA n n s).2∧IL H' u (za0 (zaA n n s).1)∧IL H' w (zcy n (za0 (zaA n n s).1)):=by
 have hdl:=za6 n n s;refine PW.body tO func40 rfl kR ntmps40 rfl rfl ?_;refine uR ?_;rw[qC (show ¬(n:Int)<1 by omega)];refine uR ?_;rw[qC (show ¬(n:Int)>300 by omega)];refine uR ?_;refine EVL.callW rfl rfl rfl rfl rfl ([(b,T,[.int .u64 s])]) ([]) rfl (zri hs hn oM hn oM) ?_;rintro v1 _ G2 ⟨⟨T1,rfl⟩,hs1,hil,a1,rfl⟩ hG1;refine uR ?_;refine EVL.call rfl rfl rfl rfl rfl (zs6 hil oM) ?_;intro r3 G3 hr3 hG3;obtain⟨a3,c3,rfl⟩:=SlC.val hr3;refine uR ?_;refine vA (zrn hr3 n hn hn2 (by rw[zaU];omega)) ?_;intro r4 G4 hr4 hG4;refine uR ?_;exact⟨T1,_,_,rfl,rfl,hs1,hr3.mono hG4,hr4⟩
theorem zrh {H:Hp} {p:GP} {bd a b c w sm:Nat} (hds:∀s,p.cols s=((zaz w s).1.take sm,(zaz w s).2)) (hsm:sm≤w) (hw1:1≤w) (hw2:w≤1000) (ha:H a=some ([.pointer (some ⟨bd,0,none⟩)]:List Value).toArray) (hb:H b=some ([.int .i64 (w:Int)]:List Value).toArray) (hc:H c=some ([.int .i64 (sm:Int)]:List Value).toArray) :
  zhI H 91 [.pointer (some ⟨a,0,none⟩),.pointer (some ⟨b,0,none⟩),.pointer (some ⟨c,0,none⟩)] (.pointer (some ⟨bd,0,none⟩)) p:=by
 intro G hG D s hD;rcases hD with ⟨e1,_⟩ | ⟨bd',T,e1,rfl,hs⟩
 ·cases e1
 cases e1;have hcs:(p.cols s).1=(zaz w s).1.take sm:=by rw[hds]
 have hcs2:(p.cols s).2=(zaz w s).2:=by rw[hds]
 rw[hcs,hcs2];refine PW.body tO func91 rfl kR ntmps91 rfl rfl ?_;refine uR ?_;refine EV.asRo 0 rfl (hG _ _ ha) ?_;refine EV.asRo 1 rfl (hG _ _ hb) ?_;refine EV.asRo 2 rfl (hG _ _ hc) ?_;refine EVG.start (Fits G) none ?_;refine IR 0 ?_ rfl;refine IR 1 ?_ rfl;refine IR 3 ?_ rfl;refine EVG.one 2 (zqX (Hp.Le.refl _)) kR rfl ?_;refine EVL.callW rfl rfl rfl rfl rfl ([(bd,T,[.int .u64 s])]) ([]) rfl (zpo hs hw1 oM) ?_;rintro v2 _ G2 ⟨⟨T2,rfl⟩,hs2,hil,oa2,rfl⟩ hG2;refine EVL.nil ⟨rfl,?_⟩;refine EVG.one 4 (zqX hG2) kR rfl ?_;refine EVL.slc (te':=Tryz.te3) tO rfl rfl rfl rfl rfl rfl rfl rfl 0 sm (.inl ⟨rfl,rfl⟩) (.inr ⟨_,IntKind.i64,rfl,rfl⟩) (Nat.zero_le _) (by rw[zcn];exact hsm) (qH _) ?_;refine EVL.nil ⟨rfl,?_⟩;refine EVG.one 5 (zqX hG2) kR rfl ?_
 (try refine zed ?_);refine EVL.nil ⟨rfl,?_⟩;refine EVG.nil (zqX hG2) kR ?_;refine uR ?_;exact⟨hil.pre sm (by rw[zcn];exact hsm) 1,.inr ⟨bd,T2,rfl,rfl,hs2⟩⟩
set_option maxRecDepth 100000 in
theorem znu {H:Hp} {kd cl w:Int} {ns:List Nd} {cs:List Value} (ht:zez H cs kd cl w ns) (hok:zcE ⟨kd,cl,w,ns⟩):PC prog 54 #[.agg cs.toArray] H fun r _=>r=.int .i64 0:=by
 obtain⟨a,cp,css,rfl,hns,hsl⟩:=ht;obtain⟨hkd,hw,hln,⟨hh,hh10,hsub⟩,hall⟩:=hok;dsimp only at hkd hw hln hsub hall;have hpos:=hsub.end0;refine BD func54 ntmps54 ?_;refine uR ?_;refine EVL.meetK (ι:=Bool) [1,2] [1] (fun _=>[(17,.v (.bool false))]) (fun _=>[]) (fun _=>[]) (fun _ G=>H.Le G) rfl rfl (fun _=>rfl) ?_ ?_
 ·rcases hkd with ⟨rfl,_⟩ | ⟨rfl,rfl⟩
  ·try refine uR ?_
   exact⟨true,⟨rfl,trivial⟩,sB,trivial,sB,rfl,Hp.Le.refl _⟩
  ·try refine uR ?_
   exact⟨true,⟨rfl,trivial⟩,sB,trivial,sB,rfl,Hp.Le.refl _⟩
 rintro _ G1 hG1;refine uR ?_;rw[qC (show ¬w<1 by omega)];refine uR ?_;rw[qC (show ¬w>20 by omega)];refine uR ?_;rw[qC (show ¬(ns.length:Int)<1 by omega)];refine uR ?_;rw[qC (show ¬(ns.length:Int)>2000 by omega)];refine uR ?_;refine EVL.meetK (ι:=Bool) [1,2] [1] (fun _=>[(60,.v (.bool false))]) (fun _=>[]) (fun _=>[]) (fun _ G=>H.Le G) rfl rfl (fun _=>rfl) ?_ ?_
 ·rcases hkd with ⟨rfl,h1,h2⟩ | ⟨rfl,rfl⟩
  ·try refine uR ?_
   rw[qC (show ¬cl<1 by omega)];refine uR ?_;rw[qC (show ¬cl>12 by omega)];refine uR ?_;exact⟨true,⟨rfl,trivial⟩,sB,trivial,sB,rfl,hG1⟩
  ·try refine uR ?_
   exact⟨true,⟨rfl,trivial⟩,sB,trivial,sB,rfl,hG1⟩
 rintro _ G2 hG2;refine uR ?_;(first|refine EVL.unbox (3) rfl fun g3=>?_|refine EV.unbox (3) rfl fun g3=>?_);refine uR ?_;refine EVL.callW rfl rfl rfl rfl rfl ([(g3,183,zlG kd cl w (.slice a ns.length cp) 0)]) ([]) rfl (zs8 oM hsub (hns.mono hG2) (hsl.mono hG2) (deep:=0) (qH _)) ?_;rintro _ _ G3 ⟨rfl,far,rfl,hfar⟩ hG3;refine uR ?_;rw[show ((ns.length:Int) != (ns.length:Int))=false from bne_self_eq_false _];refine uR ?_;refine EVL.fldB tO rfl rfl rfl rfl rfl rfl rfl ?_;refine EVL.loadOwn tO rfl rfl rfl rfl rfl rfl (0) rfl (rfl) rfl rfl ?_;refine uR ?_;rw[qC (show ¬far>10 by omega)];refine uR ?_;refine EV.loopK (ι:=Nat) [1,80,81] [1] (fun q=>[(82,.v (.int .i64 (q:Int)))]) (fun _=>[]) (fun _=>[(g3,_,zlG kd cl w (.slice a ns.length cp) far)]) (fun q _=>q≤ns.length) (fun q=>ns.length-q) (0) rfl rfl ⟨rfl,trivial⟩ trivial rfl (fun _=>rfl) (Nat.zero_le _) ?_;rintro i G4 hG4 hi;have hH4:=hG2.trans (hG3.trans hG4);refine uR ?_;refine EV.cond rfl (fun hlt=>?_) (fun hlt=>?_)
 ·simp only[nN]at hlt;obtain⟨n,hn,hN,hC⟩:=hall i hlt;obtain⟨c,hcut,hnd⟩:=(hns.mono hH4).get hn;obtain⟨a7,c7,rfl,_⟩:=hnd.cells;refine uR ?_;refine EVL.idxM tO rfl rfl rfl rfl rfl rfl rfl rfl rfl ((hsl.mono hH4)) (i) (rfl) (hlt) (hcut) ?_
  repeat (first|refine RUN ?_|refine CV (zkb hkd hnd hN) ?_|refine CE (zkb hkd hnd hN) ?_)
  refine⟨i+1,⟨by rw[zab i (by omega)];rfl,trivial⟩,sB,trivial,sB,rfl,hlt,Hp.Le.refl _,by omega⟩
 ·simp only[nN]at hlt;refine uR ?_;refine EV.loopK (ι:=Nat) [1,92,93] [1] (fun q=>[(94,.v (.int .i64 (q:Int)))]) (fun _=>[]) (fun _=>[(g3,_,zlG kd cl w (.slice a ns.length cp) far)]) (fun q _=>q≤ns.length) (fun q=>ns.length-q) (0) rfl rfl ⟨rfl,trivial⟩ trivial rfl (fun _=>rfl) (Nat.zero_le _) ?_;rintro j G5 hG5 hj;have hH5:=hH4.trans hG5;refine uR ?_;refine EV.cond rfl (fun hlj=>?_) (fun hlj=>?_)
  ·simp only[nN]at hlj;obtain⟨n,hn,hN,hC⟩:=hall j hlj;obtain⟨c,hcut,hnd⟩:=(hns.mono hH5).get hn;obtain⟨a7,c7,rfl,_⟩:=hnd.cells;refine uR ?_;refine EVL.idxM tO rfl rfl rfl rfl rfl rfl rfl rfl rfl ((hsl.mono hH5)) (j) (rfl) (hlj) (hcut) ?_;refine uR ?_;by_cases hcol:n.col = -1
   ·apply EV.drawn 20 kR kR;intro xv yw;(repeat refine' DD ?_);rw[show (n.col != -1)=false by rw[hcol];rfl];(repeat refine' DD ?_);(refine DJ.nil (fun G hG hF=>?_);(case hS|hS2=>rfl));refine uR ?_;refine⟨j+1,⟨by rw[zab j (by omega)];rfl,trivial⟩,sB,trivial,sB,rfl,hlj,hG,by omega⟩
   ·obtain⟨hc0,hl0,hr0,na,nb,hna,hnb,hCC⟩:=hC hcol;have hla:=(qE.1 hna).1;have hlb:=(qE.1 hnb).1;obtain⟨na',ena,hNa,_⟩:=hall _ hla;obtain⟨nb',enb,hNb,_⟩:=hall _ hlb;cases hna.symm.trans ena;cases hnb.symm.trans enb;obtain⟨ca,hcuta,hnda⟩:=(hns.mono hH5).get hna;obtain⟨cb,hcutb,hndb⟩:=(hns.mono hH5).get hnb;obtain⟨xa7,xc7,rfl,_⟩:=hnda.cells;obtain⟨ya7,yc7,rfl,_⟩:=hndb.cells;apply EV.drawn 20 kR kR;intro xv yw;(repeat refine' DD ?_);rw[show (n.col != -1)=true from bne_iff_ne.2 hcol];(repeat refine' DD ?_);refine' DJ.idxM tO rfl rfl rfl rfl rfl rfl rfl rfl rfl ((hsl.mono hH5)) (n.left.toNat) ((by rw[Int.toNat_of_nonneg hl0])) (hla) (hcuta) ?_;rotate_left;(repeat refine' DD ?_);refine' DJ.idxM tO rfl rfl rfl rfl rfl rfl rfl rfl rfl ((hsl.mono hH5)) (n.right.toNat) ((by rw[Int.toNat_of_nonneg hr0])) (hlb) (hcutb) ?_;rotate_left;(repeat refine' DD ?_);refine' vC (cO func106) (fun G hG hd=>zrd hkd (hnd.mono hG) (hnda.mono hG) (hndb.mono hG) hN hNa hNb hCC) ?_;rotate_left;(repeat refine' DD ?_);(refine DJ.nil (fun G hG hF=>?_);(case hS|hS2=>rfl));refine uR ?_;refine⟨j+1,⟨by rw[zab j (by omega)];rfl,trivial⟩,sB,trivial,sB,rfl,hlj,hG,by omega⟩
  ·try refine uR ?_
   rfl
def znk (l:List Int) (q:Nat):Int:=if q=0 then -1 else l.getD (q-1) 0
set_option maxRecDepth 100000 in
theorem zhZ {H:Hp} {kd cl w:Int} {a1 a2:Option Addr} {c1 c2:Nat} {ts:List Tr} {os:List (List Int)} (ht:PTL H (.slice a1 ts.length c1) ts) (ho:ILL H (.slice a2 os.length c2) os) (hok:∀t,t∈ts→zcE t) (hlo:∀l,l∈os→l.length≤1000000) (hol:os.length≤1000000) :
  PC prog 16 #[za2 kd cl w (.slice a1 ts.length c1) (.slice a2 os.length c2)] H fun r _=>r=.int .i64 (zbM kd cl w ts os):=by
 obtain⟨tcs,hts,hst⟩:=ht;obtain⟨vos,hos,hso⟩:=ho;refine BD func16 ntmps16 ?_;refine uR ?_;by_cases h1:ts.length<1
 ·rw[qD (show (ts.length:Int)<1 by omega)];refine uR ?_;unfold zbM;rw[if_pos (.inl h1)]
 rw[qC (show ¬(ts.length:Int)<1 by omega)];refine uR ?_;by_cases h2:50<ts.length
 ·rw[qD (show (ts.length:Int)>50 by omega)];refine uR ?_;unfold zbM;rw[if_pos (.inr (.inl h2))]
 rw[qC (show ¬(ts.length:Int)>50 by omega)];refine uR ?_;by_cases h3:os.length=ts.length
 case neg =>
  rw[show ((os.length:Int) != (ts.length:Int))=true by rw[bne_iff_ne];omega];refine uR ?_;unfold zbM;rw[if_pos (.inr (.inr h3))]
 rw[show ((os.length:Int) != (ts.length:Int))=false by rw[h3];exact bne_self_eq_false _]
 have hc1:zbM kd cl w ts os=if ts.all (zjt kd cl w)=true then (if os.all okL=true then 0 else 1) else 10:=by
  unfold zbM;rw[if_neg (by omega)]
 refine uR ?_;refine EV.loopK (ι:=Nat) [1,31,32] [1] (fun q=>[(33,.v (.int .i64 (q:Int)))]) (fun _=>[]) (fun _=>[]) (fun q _=>q≤ts.length∧(ts.take q).all (zjt kd cl w)=true) (fun q=>ts.length-q) (0) rfl rfl ⟨rfl,trivial⟩ trivial rfl (fun _=>rfl) (⟨Nat.zero_le _,rfl⟩) ?_;rintro i G1 hG1 ⟨hi,hall⟩;refine uR ?_;refine EV.cond rfl (fun hlt=>?_) (fun hlt=>?_)
 ·simp only[nN]at hlt;obtain⟨t,hti⟩:=gE hlt;obtain⟨c,hcut,htr⟩:=(hts.mono hG1).get hti;have hck:=znu htr (hok t (qF hti));obtain⟨na,nc,css,rfl,_⟩:=id htr;refine uR ?_;refine EVL.idxM tO rfl rfl rfl rfl rfl rfl rfl rfl rfl ((hst.mono hG1)) (i) (rfl) (hlt) (hcut) ?_
  repeat (first|refine RUN ?_|refine CV (hck) ?_|refine CE (hck) ?_)
  by_cases e1:t.kd=kd
  case neg =>
   rw[show (t.kd != kd)=true from bne_iff_ne.2 e1];refine uR ?_;rw[hc1,zix hti (show zjt kd cl w t=false by unfold zjt;rw[show (t.kd == kd)=false from beq_eq_false_iff_ne.2 e1,Bool.false_and])];rfl
  rw[show (t.kd != kd)=false by rw[e1];exact bne_self_eq_false _];refine uR ?_;by_cases e2:t.cl=cl
  case neg =>
   rw[show (t.cl != cl)=true from bne_iff_ne.2 e2];refine uR ?_;rw[hc1,zix hti (show zjt kd cl w t=false by unfold zjt;rw[show (t.cl == cl)=false from beq_eq_false_iff_ne.2 e2,Bool.false_and,Bool.and_false])];rfl
  rw[show (t.cl != cl)=false by rw[e2];exact bne_self_eq_false _];refine uR ?_;by_cases e3:t.w=w
  case neg =>
   rw[show (t.w != w)=true from bne_iff_ne.2 e3];refine uR ?_;rw[hc1,zix hti (show zjt kd cl w t=false by unfold zjt;rw[show (t.w == w)=false from beq_eq_false_iff_ne.2 e3,Bool.and_false,Bool.and_false])];rfl
  rw[show (t.w != w)=false by rw[e3];exact bne_self_eq_false _];have hfit:zjt kd cl w t=true:=by unfold zjt;rw[e1,e2,e3];simp
  refine uR ?_;refine⟨i+1,⟨by rw[zab i (by omega)];rfl,trivial⟩,sB,trivial,sB,rfl,⟨hlt,zlQ hti hfit hall⟩,Hp.Le.refl _,by omega⟩
 ·simp only[nN]at hlt;obtain rfl:i=ts.length:=by omega
  rw[List.take_length]at hall;rw[if_pos hall]at hc1;refine uR ?_;refine EV.loopK (ι:=Nat) [1,63,64] [1] (fun q=>[(65,.v (.int .i64 (q:Int)))]) (fun _=>[]) (fun _=>[]) (fun q _=>q≤os.length∧(os.take q).all okL=true) (fun q=>os.length-q) (0) rfl rfl ⟨rfl,trivial⟩ trivial rfl (fun _=>rfl) (⟨Nat.zero_le _,rfl⟩) ?_;rintro i G2 hG2 ⟨hi,hallo⟩;have hH2:=hG1.trans hG2;refine uR ?_;refine EV.cond rfl (fun hlo1=>?_) (fun hlo1=>?_)
  ·simp only[nN]at hlo1;obtain⟨l,hl⟩:=gE hlo1;obtain⟨la,lc,hv,hil⟩:=(hos.mono hH2).get hl;have hll:=hlo l (qF hl);refine uR ?_;refine vI ((hso.mono hH2)) (i) (rfl) (hlo1) (hv) ?_;refine uR ?_;refine EV.loopK (ι:=Nat) [1,63,64,65,69,70] [1] (fun q=>[(8,.v (.int .i64 (znk l q))),(71,.v (.int .i64 (q:Int)))]) (fun _=>[]) (fun _=>[]) (fun q _=>q≤l.length∧∀j,j<q→zqt l j=true) (fun q=>l.length-q) (0) rfl rfl ⟨rfl,rfl,trivial⟩ trivial rfl (fun _=>rfl) (⟨Nat.zero_le _,fun j hj=>absurd hj (Nat.not_lt_zero _)⟩) ?_;rintro q G3 hG3 ⟨hq,hok3⟩;have hH3:=hH2.trans hG3;refine uR ?_;refine EV.cond rfl (fun hlq=>?_) (fun hlq=>?_)
   ·simp only[nN]at hlq;obtain⟨z,hz⟩:=gE hlq;have hgz:l.getD q 0=z:=by rw[qB,hz];rfl
    have hbad:zqt l q=false→zbM kd cl w ts os=1:=fun e=>by
     rw[hc1,if_neg (by rw[zix hl (zs4 hlq e)];decide)]
    have hstep:zqt l q=true→∀j,j<q+1→zqt l j=true:=fun e j hj=>by
     by_cases h:j<q
     ·exact hok3 j h
     ·obtain rfl:j=q:=by omega
      exact e
    have hprev:0<q→0≤l.getD (q-1) 0:=fun h=>by
     have:=hok3 (q-1) oM;unfold zqt at this;simp only[Bool.and_eq_true,decide_eq_true_eq]at this;exact this.1
    have hlast:znk l (q+1)=z:=by unfold znk;rw[if_neg oM,Nat.add_sub_cancel,hgz]
    have hoka:zqt l q=true↔(znk l q<z∧z<300):=by
     unfold zqt znk;rw[hgz];by_cases h0:q=0
     ·subst h0;simp;omega
     ·have:=hprev oM;rw[if_neg h0,show (q == 0)=false from beq_eq_false_iff_ne.2 h0];simp only[Bool.and_eq_true,decide_eq_true_eq,Bool.false_or];omega
    generalize znk l q=zlj at *
    refine uR ?_;refine vI ((hil.mono hG3)) (q) (rfl) (hlq) ((by rw[List.getElem?_map,hz];rfl)) ?_;refine uR ?_;by_cases z1:z≤zlj
    ·rw[qD z1];refine uR ?_;rw[hbad (by rw[←Bool.not_eq_true,hoka];omega)]
    rw[qC z1];refine uR ?_;by_cases z2:z≥300
    ·rw[qD z2];refine uR ?_;rw[hbad (by rw[←Bool.not_eq_true,hoka];omega)]
    rw[qC z2];refine uR ?_;refine⟨q+1,⟨by rw[hlast];rfl,by rw[zab q (by omega)];rfl,trivial⟩,sB,trivial,sB,rfl,⟨hlq,hstep (hoka.2 oM)⟩,Hp.Le.refl _,by omega⟩
   ·simp only[nN]at hlq;obtain rfl:q=l.length:=by omega
    have hokl:okL l=true:=List.all_eq_true.2 fun j hj=>hok3 j (List.mem_range.1 hj);refine uR ?_;refine⟨i+1,⟨by rw[zab i (by omega)];rfl,trivial⟩,sB,trivial,sB,rfl,⟨hlo1,zlQ hl hokl hallo⟩,hG3,by omega⟩
  ·simp only[nN]at hlo1;obtain rfl:i=os.length:=by omega
   rw[List.take_length]at hallo;refine uR ?_;rw[hc1,if_pos hallo]
inductive zmM (T:List Nd) (x:List Rat):Nat→Nat→Prop
 | here {i:Nat} {n:Nd}:T[i]?=some n→n.col = -1→zmM T x i i
 | low {i j:Nat} {n:Nd}:T[i]?=some n→n.col ≠ -1→x.getD n.col.toNat 0≤n.at'→zmM T x n.left.toNat j→zmM T x i j
 | high {i j:Nat} {n:Nd}:T[i]?=some n→n.col ≠ -1→¬x.getD n.col.toNat 0≤n.at'→zmM T x n.right.toNat j→zmM T x i j
theorem zmM.det {T:List Nd} {x:List Rat} {i j:Nat} (h:zmM T x i j):∀{k:Nat},zmM T x i k→j=k:=by
 induction h with
 | here h1 h2 =>
  intro k h
  cases h with
  | here _ _=>rfl
  | low e n _ _=>rw[h1]at e;cases e;exact absurd h2 n
  | high e n _ _=>rw[h1]at e;cases e;exact absurd h2 n
 | low h1 h2 h3 _ ih =>
  intro k h
  cases h with
  | here e n=>rw[h1]at e;cases e;exact absurd n h2
  | low e n _ h=>rw[h1]at e;cases e;exact ih h
  | high e n h' _=>rw[h1]at e;cases e;exact absurd h3 h'
 | high h1 h2 h3 _ ih =>
  intro k h
  cases h with
  | here e n=>rw[h1]at e;cases e;exact absurd n h2
  | low e n h' _=>rw[h1]at e;cases e;exact absurd h' h3
  | high e n _ h=>rw[h1]at e;cases e;exact ih h
theorem Sub.at {T:List Nd} {w:Int} {k h e:Nat} (h0:Sub T w k h e):∀i,k≤i→i<e→∃h' e',Sub T w i h' e':=by
 induction h0 with
 | @leaf k h n a b c d e =>
  intro i h1 h2;obtain rfl:i=k:=by omega
  exact⟨0,_,.leaf a b c d e⟩
 | @node k h m e n a b c d f s1 s2 ih1 ih2 =>
  intro i h1 h2;by_cases h3:i=k
  ·subst h3;exact⟨_,_,.node a b c d f s1 s2⟩
  ·by_cases h4:i<m
   ·exact ih1 i oM h4
   ·exact ih2 i oM h2
set_option maxRecDepth 100000 in
theorem zsS {H:Hp} {cs:List Value} {vx:Value} {kd cl w:Int} {ns:List Nd} {x:List Rat} (ht:zez H cs kd cl w ns) (hok:zcE ⟨kd,cl,w,ns⟩) (hx:QL H vx x) (hxl:(x.length:Int)=w) (hxs:∀q,q∈x→sm q) :
  PC prog 116 #[.agg cs.toArray,vx] H fun r G=>∃j n c,zmM ns x 0 j∧ns[j]?=some n∧OkN kd cl n∧r=.agg c.toArray∧zcs G c n:=by
 obtain⟨a,cp,css,rfl,hns,hsl⟩:=ht;obtain⟨hkd,hw,hln,⟨hh,hh10,hsub⟩,hall⟩:=hok;dsimp only at hkd hw hln hsub hall;have hpos:=hsub.end0;obtain⟨xa,xc,rfl⟩:=SlC.val hx;have hxS:SlC H (.slice xa x.length xc) x.length 5 (x.flatMap fun q=>zac (zae q)):=hx;obtain⟨n0,hn0⟩:=gE hpos;obtain⟨c0,hcut0,hnd0⟩:=hns.get hn0;have hnd0':=hnd0;obtain⟨a07,c07,rfl,_⟩:=hnd0.cells;refine BD func116 ntmps116 ?_;refine uR ?_;refine EVL.idxM tO rfl rfl rfl rfl rfl rfl rfl rfl rfl (hsl) (0) (rfl) (hpos) (hcut0) ?_;refine uR ?_;refine EV.loopK (ι:=Nat × List Value) [1,2,4,5] [2,4] (fun q=>[]) (fun q=>[(5,103,q.2)]) (fun _=>[]) (fun q G=>q.1<ns.length∧(∃n,ns[q.1]?=some n∧zcs G q.2 n)∧∀j,zmM ns x q.1 j→zmM ns x 0 j) (fun q=>ns.length-q.1) ((0,_)) rfl rfl trivial ⟨rfl,trivial⟩ rfl (fun _=>rfl) (⟨hpos,⟨n0,hn0,hnd0'⟩,fun j h=>h⟩) ?_;rintro⟨i,c⟩ G1 hG1 ⟨hi,⟨n,hn,hnd⟩,hlf⟩;dsimp only at hi hn hnd hlf;have hnd':=hnd;obtain⟨a7,c7,rfl,_⟩:=hnd.cells;obtain⟨n',hn',hN,_⟩:=hall i hi;cases hn.symm.trans hn';obtain⟨h',e',hsi⟩:=hsub.at i (Nat.zero_le _) hi;have hle:=hsi.lt;refine uR ?_
 cases hsi with
 | leaf q1 q2 q3 q4 q5 =>
  rw[hn]at q1;cases q1;rw[show (n.col != -1)=false by rw[q2];rfl];refine uR ?_;exact⟨i,n,_,hlf i (.here hn q2),hn,hN,rfl,hnd'⟩
 | @node _ h1 m _ _ q1 q2 q3 q4 q5 s1 s2 =>
  rw[hn]at q1;cases q1;have hm1:=s1.lt;have hm2:=s2.lt;have hcl:n.col.toNat<x.length:=by omega
  obtain⟨y,hy⟩:∃y,x[n.col.toNat]?=some y:=⟨_,qA hcl⟩;have hyg:x.getD n.col.toNat 0=y:=by rw[qB,hy];rfl
  have hcmp:=zfE y n.at' (hxs y (qF hy)) (zaY hN.small.1 oM);rw[show (n.col != -1)=true from bne_iff_ne.2 (by omega)];refine uR ?_;apply EV.drawn 9 kR kR;intro xv yw;(repeat refine' DD ?_);refine' DJ.idxM tO rfl rfl rfl rfl rfl rfl rfl rfl rfl ((hxS.mono hG1)) (n.col.toNat) ((by rw[Int.toNat_of_nonneg q2])) (hcl) (QL.at (H:=H) (v:=.bool true) hy) ?_;rotate_left;(repeat (first|refine' DD ?_|(refine' DC (hcmp) (h:=?_);rotate_left)));(refine DJ.nil (fun G2 hG2 hF2=>?_);(case hS|hS2=>rfl));by_cases hle2:y≤n.at'
  ·rw[qD (zs5 hle2)];obtain⟨n2,hn2⟩:∃n2,ns[n.left.toNat]?=some n2:=⟨_,qA oM⟩;obtain⟨c2,hcut2,hnd2⟩:=(hns.mono (hG1.trans hG2)).get hn2;have hnd2':=hnd2;obtain⟨b7,d7,rfl,_⟩:=hnd2.cells;refine uR ?_;refine EVL.idxM tO rfl rfl rfl rfl rfl rfl rfl rfl rfl ((hsl.mono (hG1.trans hG2))) (n.left.toNat) ((by rw[Int.toNat_of_nonneg (by omega)])) (oM) (hcut2) ?_;refine uR ?_;refine⟨(n.left.toNat,_),trivial,sB,⟨rfl,trivial⟩,sB,rfl,⟨by dsimp only;omega,⟨n2,hn2,hnd2'⟩,fun j h=>hlf j (.low hn oM (by rw[hyg];exact hle2) h)⟩,hG2,by dsimp only;omega⟩
  ·rw[qC (show ¬zb9 y n.at'≤0 from fun k=>hle2 (Rat.not_lt.1 fun k2=>by have:=(zrb y n.at').2 k2;omega))];obtain⟨n2,hn2⟩:∃n2,ns[n.right.toNat]?=some n2:=⟨_,qA oM⟩;obtain⟨c2,hcut2,hnd2⟩:=(hns.mono (hG1.trans hG2)).get hn2;have hnd2':=hnd2;obtain⟨b7,d7,rfl,_⟩:=hnd2.cells;refine uR ?_;refine EVL.idxM tO rfl rfl rfl rfl rfl rfl rfl rfl rfl ((hsl.mono (hG1.trans hG2))) (n.right.toNat) ((by rw[Int.toNat_of_nonneg (by omega)])) (oM) (hcut2) ?_;refine uR ?_;refine⟨(n.right.toNat,_),trivial,sB,⟨rfl,trivial⟩,sB,rfl,⟨by dsimp only;omega,⟨n2,hn2,hnd2'⟩,fun j h=>hlf j (.high hn oM (by rw[hyg];exact hle2) h)⟩,hG2,by dsimp only;omega⟩
theorem zpy {H:Hp} {kd cl:Int} {w:Int} {a1 a2 xa:Option Addr} {c1 c2 xn xc:Nat} {ts:List Tr} {os:List (List Int)} (ht:PTL H (.slice a1 ts.length c1) ts) (ho:ILL H (.slice a2 os.length c2) os) (hok:∀t,t∈ts→zcE t) (hlo:∀l,l∈os→l.length≤1000000) (hol:os.length≤1000000) :
  PC prog 65 #[za2 kd cl w (.slice a1 ts.length c1) (.slice a2 os.length c2),.slice xa xn xc] H fun r _=>r=.int .i64 (if zbM kd cl w ts os=0 then (if (xn:Int)=w then 0 else 5) else 1):=by
 have hck:=zhZ (kd:=kd) (cl:=cl) (w:=w) ht ho hok hlo hol;refine BD func65 ntmps65 ?_
 repeat (first|refine RUN ?_|refine CV (hck) ?_|refine CE (hck) ?_)
 by_cases h1:zbM kd cl w ts os=0
 ·rw[if_pos h1,show (zbM kd cl w ts os != 0)=false by rw[h1];rfl];refine uR ?_;by_cases h2:(xn:Int)=w
  ·rw[if_pos h2,show ((xn:Int) != w)=false by rw[h2];exact bne_self_eq_false _];refine uR ?_;rfl
  ·rw[if_neg h2,show ((xn:Int) != w)=true from bne_iff_ne.2 h2];refine uR ?_;rfl
 ·rw[if_neg h1,show (zbM kd cl w ts os != 0)=true from bne_iff_ne.2 h1];refine uR ?_;rfl
def zuD (x:List Rat) (k:Int) (t:Tr):Prop:=∃i n,zmM t.ns x 0 i∧t.ns[i]?=some n∧n.cls=k
def CLs (x:List Rat) (ks:List Int) (ts:List Tr):Prop:=ks.length=ts.length∧∀(j:Nat) (k:Int) (t:Tr),ks[j]?=some k→ts[j]?=some t→zuD x k t
theorem ztC {l:List Int} (h:0<l.length):topN l l.length<l.length:=by
 rcases zhl l l.length with k | k <;> omega
set_option maxRecDepth 100000 in
theorem zqK {H:Hp} {C:Nat} {w:Int} {vt vo:Value} {a:Option Addr} {cp:Nat} {vx:Value} {ts:List Tr} {x:List Rat} (ht:PTL H (.slice a ts.length cp) ts) (hok:∀t,t∈ts→zcE t∧zjt 1 C w t=true) (hC:1≤C∧C≤12) (hn:ts.length≤1000) (hx:QL H vx x) (hxl:(x.length:Int)=w) (hxs:∀q,q∈x→sm q) :
  PC prog 66 #[za2 1 C w vt vo,.slice a ts.length cp,vx] H fun r G=>∃ks,CLs x ks ts∧IL G r (zcB C ks):=by
 obtain⟨tcs,hts,hst⟩:=ht;obtain⟨xa,xc,rfl⟩:=SlC.val hx;refine BD func66 ntmps66 ?_;refine uR ?_;refine EVL.make tO rfl rfl rfl rfl rfl rfl rfl rfl rfl (C) (rfl) oM (by rfl) (by rfl) fun b=>?_;refine uR ?_;(first|refine EVL.swapOw ([(b,3,(zcB C ([]:List Int)).map iv++[])]) ([]) ((by rw[←zdQ];rfl)) ?_|refine EV.swapOw ([(b,3,(zcB C ([]:List Int)).map iv++[])]) ([]) ((by rw[←zdQ];rfl)) ?_);refine EV.loopK (ι:=List Int) [2,7,13,14] [] (fun ks=>[(15,.v (.int .i64 (ks.length:Int)))]) (fun _=>[]) (fun ks=>[(b,3,(zcB C ks).map iv++[])]) (fun ks _=>ks.length≤ts.length∧CLs x ks (ts.take ks.length)) (fun ks=>ts.length-ks.length) ([]) rfl rfl ⟨rfl,trivial⟩ trivial rfl (fun _=>rfl) (⟨Nat.zero_le _,⟨rfl,fun j k t e _=>by cases e⟩⟩) ?_;rintro ks G2 hG2 ⟨hi,hks⟩;refine uR ?_;refine EV.cond rfl (fun hlt=>?_) (fun hlt=>?_)
 ·simp only[nN]at hlt;obtain⟨t,hti⟩:∃t,ts[ks.length]?=some t:=⟨_,qA hlt⟩;obtain⟨hto,htf⟩:=hok t (qF hti);obtain⟨cc,hcut,htr⟩:=(hts.mono hG2).get hti;obtain⟨a3,c3,css,rfl,_,_⟩:=id htr
  have hf3:t.kd=1∧t.cl=C∧t.w=w:=by
   unfold zjt at htf;simp only[Bool.and_eq_true,beq_iff_eq]at htf;exact htf
  have hlf:=zsS htr hto (hx.mono hG2) (by rw[hf3.2.2];exact hxl) hxs;refine uR ?_;refine EVL.idxM tO rfl rfl rfl rfl rfl rfl rfl rfl rfl ((hst.mono hG2)) (ks.length) (rfl) (hlt) (hcut) ?_;refine uR ?_;refine vA (hlf) ?_;rintro _ G3 ⟨i,n,c,hL,hni,hN,rfl,hp⟩ hG3;obtain⟨a7,c7,rfl,_⟩:=hp.cells;have hlen:(n.counts.length:Int)=(C:Int):=by rw[←hf3.2.1];exact hN.len
  have hcls:=hN.cls;have htop:=ztC (l:=n.counts) oM;generalize topN n.counts n.counts.length=k at *
  have hk:k<C:=by omega
  have hcl:ks.count (k:Int)≤1000:=qI List.count_le_length oM;have hget:=zdv (C:=C) ks hk;have hcn:=zgs (C:=C) ks hk;have hlen2:=zaZ C ks;have hsay:zuD x (k:Int) t:=⟨i,n,hL,hni,hcls⟩;generalize zcB C ks=cs at *
  generalize ks.count (k:Int)=m at *
  have wm:IntKind.i64.wrap ((m:Int)+1)=((m+1:Nat):Int):=zab m oM;refine uR ?_;rw[hcls];refine EVL.idxB tO rfl rfl rfl rfl rfl rfl rfl rfl rfl (k) (k*1) (rfl) (hk) (rfl) ?_;refine EVL.loadOwn tO rfl rfl rfl rfl rfl rfl (0) rfl (zeE [] hget) rfl rfl ?_;refine uR ?_;rw[wm];refine EVL.idxB tO rfl rfl rfl rfl rfl rfl rfl rfl rfl (k) (k*1) (rfl) (hk) (rfl) ?_;refine EVL.storeOwn tO rfl rfl rfl rfl rfl rfl ([]) ([]) rfl rfl rfl rfl ((by rw[List.length_append,List.length_map,hlen2];show k*1+1≤_;omega)) (zgp [] _ (show k<cs.length by omega)) ?_;refine uR ?_;refine⟨ks++[(k:Int)],⟨by rw[zab ks.length oM,List.length_append];rfl,trivial⟩,sB,trivial,sB,by rw[hcn];rfl,⟨by rw[List.length_append,List.length_singleton];omega,by rw[List.length_append,List.length_singleton,zah hti];exact zbk hks hsay⟩,hG3,by rw[List.length_append,List.length_singleton];omega⟩
 ·simp only[nN]at hlt;have hi2:ks.length=ts.length:=by omega
  rw[hi2,List.take_length]at hks;(first|refine EVL.publish [] [] rfl fun G3 hG3 hb3=>?_|refine EV.publish [] [] rfl fun G3 hG3 hb3=>?_);refine uR ?_;exact⟨ks,hks,zhU hb3 (zaZ _ _)⟩
def cqF (q:Rat):List Value:=zac (zae q)
theorem zk8 (l:List Rat):(l.flatMap cqF).length=l.length*5:=zeM cqF 5 l fun _ _=>rfl
theorem zlZ (n:Nat):(List.replicate n ([.bool false,.int .u64 0,.string ⟨#[]⟩,.int .u64 0,.string ⟨#[]⟩]:List Value)).flatten=(([]:List Rat)++List.replicate (n-0) 0).flatMap cqF:=by
 rw[List.nil_append,Nat.sub_zero,List.flatMap_def,List.map_replicate,show cqF 0=_ from zat]
theorem zsA (qs:List Rat) (q:Rat) {n:Nat} (h:qs.length<n):((qs++List.replicate (n-qs.length) 0).flatMap cqF).take (qs.length*5)++zac (zae q)++((qs++List.replicate (n-qs.length) 0).flatMap cqF).drop (qs.length*5+5)=((qs++[q])++List.replicate (n-(qs++[q]).length) 0).flatMap cqF:=by
 have e:n-qs.length=(n-(qs++[q]).length)+1:=by rw[List.length_append,List.length_singleton];omega
 rw[e,List.replicate_succ,List.flatMap_append,List.flatMap_cons,List.flatMap_append,List.flatMap_append,List.flatMap_singleton,List.append_assoc (qs.flatMap cqF) (cqF q)];have:=zde (A:=qs.flatMap cqF) (c:=cqF 0) (B:=(List.replicate (n-(qs++[q]).length) (0:Rat)).flatMap cqF) (vs:=zac (zae q)) (c':=cqF q) (k:=qs.length) (s:=5) (f:=0) (m:=5) (q:=qs.length*5) (zk8 qs) rfl rfl (qH 5) rfl;exact this
theorem zul {H:Hp} {b m:Nat} {l:List Rat} (h:H b=some (l.flatMap cqF).toArray) (hm:l.length=m):QL H (.slice (some ⟨b,0,none⟩) m m) l:=by
 subst hm;refine⟨zk8 l,.inr ⟨b,0,l.length,_,rfl,qH _,h,fun j x hj=>?_⟩⟩;rw[Nat.zero_add,List.getElem?_toArray];exact hj
theorem zcE.copies {t:Tr} (h:zcE t):0<t.ns.length∧t.ns.length≤1000000∧∀n,n∈t.ns→n.counts.length≤1000000:=by
 obtain⟨hkd,hw,hln,⟨hh,hh10,hsub⟩,hall⟩:=h;refine⟨hsub.end0,by omega,fun n hn=>?_⟩;obtain⟨i,hi⟩:=List.mem_iff_getElem?.1 hn;obtain⟨n',e,hN,_⟩:=hall i (qE.1 hi).1;cases hi.symm.trans e;have:=hN.len;omega
end
section
theorem zs3 {l:List Int} (h:l.Pairwise (·<·)) (hb:∀z,z∈l→0≤z∧z<300):okL l=true:=by
 refine List.all_eq_true.2 fun k hk=>?_;have hk':=List.mem_range.1 hk;have e1:l.getD k 0=l[k]:=by rw[qB,qA hk'];rfl
 have h1:=hb _ (List.getElem_mem hk');unfold zqt;rw[e1,qD h1.1,qD h1.2];by_cases h0:k=0
 ·subst h0;rfl
 ·have hk2:k-1<l.length:=by omega
  have e2:l.getD (k-1) 0=l[k-1]:=by rw[qB,qA hk2];rfl
  rw[e2,qD (List.pairwise_iff_getElem.1 h (k-1) k hk2 hk' oM)];simp
theorem ztE (n:Nat):(zhm n).Pairwise (·<·):=by
 unfold zhm;rw[List.pairwise_map];exact List.pairwise_lt_range.imp (by intro a b h;simp;omega)
theorem zrr {n:Nat} (hn:n≤300) (l:List Int):okL (zcy n l)=true∧(zcy n l).length≤300:=by
 refine⟨zs3 ((ztE n).sublist List.filter_sublist) fun z hz=>?_,qI (zi6 n l) hn⟩;have hm:=(List.mem_filter.1 hz).1;unfold zhm at hm;obtain⟨i,hi,rfl⟩:=List.mem_map.1 hm;have:=List.mem_range.1 hi;show (0:Int)≤(i:Int)∧(i:Int)<300;omega
theorem zfy {p:GP} {n D:Nat} (hn:n≤300) (kd cl w:Int):∀(k:Nat) (s:Int) (l:List Int),l∈(p.wood D n kd cl w k s).2.1→okL l=true∧l.length≤300
 | 0,s,l,h=>by cases h
 | k+1,s,l,h=>by
  rw[GP.wood_succ]at h;rcases List.mem_append.1 h with h | h
  ·exact zfy hn kd cl w k s l h
  ·rw[List.mem_singleton.1 h];exact zrr hn _
theorem zoo {kd cl w:Int} {ts:List Tr} {os:List (List Int)} (h1:1≤ts.length) (h2:ts.length≤50) (h3:os.length=ts.length) (ht:∀t,t∈ts→zjt kd cl w t=true) (ho:∀l,l∈os→okL l=true):zbM kd cl w ts os=0:=by
 unfold zbM;rw[if_neg oM,if_pos (List.all_eq_true.2 ht),if_pos (List.all_eq_true.2 ho)]
theorem zn4 {p:GP} {kd cl:Int} {w D:Nat} (hp:zrU p kd cl w) (hw:1≤w∧w≤20) (hD:D≤9) (h0:1≤p.X.length) {k:Nat} (hk:1≤k∧k≤50) (s:Int):zbM kd cl w (p.wood D p.X.length kd cl w k s).1 (p.wood D p.X.length kd cl w k s).2.1=0:=by
 obtain⟨e1,e2,_⟩:=p.wood_len D p.X.length kd cl w k s;exact zoo oM oM oM (fun t ht=>(zjq hp hw hD h0 k s t ht).2) (fun l hl=>(zfy hp.rowsX kd cl w k s l hl).1)
theorem zn5 {p:GP} {kd cl:Int} {w D:Nat} (hp:zrU p kd cl w) (hw:1≤w∧w≤20) (hD:D≤9) (h0:1≤p.X.length) {k:Nat} (hk:k≤50) (s:Int):zlO (p.wood D p.X.length kd cl w k s).1 (p.wood D p.X.length kd cl w k s).2.1:=by
 obtain⟨e1,e2,_⟩:=p.wood_len D p.X.length kd cl w k s;refine⟨⟨by omega,fun t ht=>?_⟩,by omega,fun l hl=>by have:=(zfy hp.rowsX kd cl w k s l hl).2;omega⟩;have hok:=(zjq hp hw hD h0 k s t ht).1;refine⟨hok.copies.2.1,fun n hn=>?_⟩;obtain⟨i,hi⟩:=List.mem_iff_getElem?.1 hn;obtain⟨n',e,hN,_⟩:=hok.nodes i (qE.1 hi).1;cases hi.symm.trans e;exact hN.smallN (by rcases hok.kind with ⟨_,_,h⟩ | ⟨_,h⟩ <;> omega)
end
section
open Go.RowKit _root_.Go.Proofs.Tryz
theorem zrc (a b:Int) (ha:0≤a∧a≤1000) (hb:1≤b∧b≤1000):PV prog 67 #[.int .i64 a,.int .i64 b] (.tuple #[zae (mkRat a b.natAbs),.bool true]):=by
 have h1:=zd2 a oM oM;have h2:=zd2 b oM oM;have b1:bl a.natAbs≤20:=za9 oM;have b2:bl b.natAbs≤20:=za9 oM;have h3:=zoY a b (by show bl a.natAbs≤_;omega) (by show bl b.natAbs≤_;omega) oM;rw[if_neg (show ¬b<0 by omega)]at h3;refine PV.of_pc ?_;refine BD func67 ntmps67 ?_
 repeat (first|refine RUN ?_|refine CV (h1) ?_|refine CV (h2) ?_|refine CV (h3) ?_|refine CE (h1) ?_|refine CE (h2) ?_|refine CE (h3) ?_)
 rfl
def zhp (C n:Nat) (ks:List Int):List Rat:=(zcB C ks).map fun c=>mkRat c n
theorem zn2 (C n:Nat) (ks:List Int):(zhp C n ks).length=C:=by unfold zhp;rw[List.length_map,zaZ]
set_option maxRecDepth 100000 in
theorem zrO {H:Hp} {C:Nat} {w:Int} {a1 a2:Option Addr} {c1 c2:Nat} {vx:Value} {ts:List Tr} {os:List (List Int)} {x:List Rat} (ht:PTL H (.slice a1 ts.length c1) ts) (ho:ILL H (.slice a2 os.length c2) os) (hok:∀t,t∈ts→zcE t) (hlo:∀l,l∈os→l.length≤1000000) (hol:os.length≤1000000) (hC:1≤C∧C≤12) (hck:zbM 1 C w ts os=0) (hx:QL H vx x) (hxl:(x.length:Int)=w) (hxs:∀q,q∈x→sm q) :
  PC prog 21 #[za2 1 C w (.slice a1 ts.length c1) (.slice a2 os.length c2),vx] H fun r G=>∃ks v,CLs x ks ts∧r=.tuple #[v,.int .i64 0]∧QL G v (zhp C ts.length ks):=by
 obtain⟨xa,xc,rfl⟩:=SlC.val hx;have hrf:=zpy (kd:=1) (cl:=(C:Int)) (w:=w) (xa:=xa) (xn:=x.length) (xc:=xc) ht ho hok hlo hol;rw[if_pos hck,if_pos hxl]at hrf
 have hall:1≤ts.length∧ts.length≤50∧ts.all (zjt 1 C w)=true:=by
  unfold zbM at hck;split at hck
  ·cases hck
  ·split at hck
   ·rename_i h3 h4;exact⟨by omega,by omega,h4⟩
   ·cases hck
 have hfit:∀t,t∈ts→zcE t∧zjt 1 C w t=true:=fun t hm=>⟨hok t hm,List.all_eq_true.1 hall.2.2 t hm⟩;have hcnt:=zqK (vt:=.slice a1 ts.length c1) (vo:=.slice a2 os.length c2) ht hfit hC oM hx hxl hxs;refine BD func21 ntmps21 ?_
 repeat (first|refine RUN ?_|refine CV (hrf) ?_|refine CE (hrf) ?_)
 refine EVL.make tO rfl rfl rfl rfl rfl rfl rfl rfl rfl (C) (rfl) oM (by rfl) (by rfl) fun b=>?_;refine uR ?_;refine vA (hcnt) ?_;rintro r1 G1 ⟨ks,hks,hil⟩ hG1;obtain⟨la,lc,rfl⟩:=SlC.val hil;have hlen:=zaZ C ks;have hkl:=hks.1;have hilS:SlC G1 (.slice la (zcB C ks).length lc) (zcB C ks).length 1 ((zcB C ks).map iv):=hil;rw[hlen]at hilS;refine uR ?_;(first|refine EVL.swapOw ([(b,63,(([]:List Rat)++List.replicate (C-0) 0).flatMap cqF)]) ([]) ((by rw[←zlZ];rfl)) ?_|refine EV.swapOw ([(b,63,(([]:List Rat)++List.replicate (C-0) 0).flatMap cqF)]) ([]) ((by rw[←zlZ];rfl)) ?_);refine EV.loopK (ι:=List Rat) [2,7,26,27] [2] (fun qs=>[(28,.v (.int .i64 (qs.length:Int)))]) (fun _=>[]) (fun qs=>[(b,63,(qs++List.replicate (C-qs.length) 0).flatMap cqF)]) (fun qs _=>qs.length≤C∧qs=(zhp C ts.length ks).take qs.length) (fun qs=>C-qs.length) ([]) rfl rfl ⟨rfl,trivial⟩ trivial rfl (fun _=>rfl) (⟨Nat.zero_le _,rfl⟩) ?_;rintro qs G2 hG2 ⟨hi,hqs⟩;rw[hlen];refine uR ?_;refine EV.cond rfl (fun hlt=>?_) (fun hlt=>?_)
 ·simp only[nN]at hlt;have hcl:qs.length<(zcB C ks).length:=by omega
  have g1:=zdv (C:=C) ks hlt;have hm:ks.count ((qs.length:Nat):Int)≤50:=qI List.count_le_length oM
  have hv1:(zhp C ts.length ks)[qs.length]?=some (mkRat ((ks.count ((qs.length:Nat):Int):Nat):Int) ts.length):=by
   unfold zhp;rw[List.getElem?_map,g1];rfl
  generalize ks.count ((qs.length:Nat):Int)=m at *
  have hov:=zrc ((m:Nat):Int) ((ts.length:Nat):Int) oM oM;rw[Int.natAbs_natCast]at hov;refine uR ?_;refine vI ((hilS.mono hG2)) (qs.length) (rfl) (hlt) ((by rw[List.getElem?_map,g1];rfl)) ?_
  repeat (first|refine RUN ?_|refine CV (hov) ?_|refine CE (hov) ?_)
  refine EVL.idxB tO rfl rfl rfl rfl rfl rfl rfl rfl rfl (qs.length) (qs.length*5) (rfl) (hlt) (rfl) ?_;refine EVL.storeOwn tO rfl rfl rfl rfl rfl rfl ([]) ([]) rfl rfl rfl rfl ((by rw[zk8,List.length_append,List.length_replicate];show qs.length*5+5≤_;omega)) ((zsA qs (mkRat (m:Int) ts.length) hlt)) ?_;refine uR ?_;refine⟨qs++[mkRat (m:Int) ts.length],⟨by rw[zab qs.length oM,List.length_append];rfl,trivial⟩,sB,trivial,sB,rfl,⟨by rw[List.length_append,List.length_singleton];omega,by rw[List.length_append,List.length_singleton,zah hv1,←hqs]⟩,Hp.Le.refl _,by rw[List.length_append,List.length_singleton];omega⟩
 ·simp only[nN]at hlt;have hi2:qs.length=C:=by omega
  rw[hi2,List.take_of_length_le (by rw[zn2];omega)]at hqs;(first|refine EVL.publish [] [] rfl fun G3 hG3 hb3=>?_|refine EV.publish [] [] rfl fun G3 hG3 hb3=>?_);rw[hi2,Nat.sub_self,List.replicate_zero,qG]at hb3;have hql:=zul hb3 hi2;refine uR ?_;exact⟨ks,_,hks,rfl,by rw[←hqs];exact hql⟩
end
section
def knN (c:Nat):Nd:=⟨-1,0,0,1,(c:Int),0,0,0,[1-(c:Int),(c:Int)]⟩
def knT (c:Nat):Tr:=⟨1,2,1,[knN c]⟩
def zqs:List Tr:=[knT 0,knT 1,knT 1]
theorem zua {c:Nat} (h:c≤1):OkN 1 2 (knN c) where
 rows:=⟨by show (1:Int)≤1;omega,by show (1:Int)≤1048576;omega⟩
 cost:=Rat.le_refl
 len:=rfl
 pos:=fun z hz=>by
  rcases List.mem_cons.1 hz with e | hz
  ·omega
  ·rw[List.mem_singleton.1 hz];omega
 sum:=fun _=>by
  show (1-(c:Int))+((c:Int)+0)=1;omega
 cls:=by
  rcases Nat.lt_or_ge c 1 with k | k
  ·obtain rfl:c=0:=by omega
   rfl
  ·obtain rfl:c=1:=by omega
   rfl
 value:=fun _=>rfl
 small:=by
  show ht 0≤100∧ht 0≤2000000∧ht 0≤4000;rw[zbR];decide
theorem zoS {c:Nat} (h:c≤1):zcE (knT c) where
 kind:=.inl ⟨rfl,by show (1:Int)≤2;omega,by show (2:Int)≤12;omega⟩
 wide:=⟨by show (1:Int)≤1;omega,by show (1:Int)≤20;omega⟩
 len:=by show 1≤2000;omega
 sub:=⟨0,by omega,.leaf (n:=knN c) rfl rfl rfl rfl rfl⟩
 nodes:=fun i hi=>by
  have hi':i<1:=hi;obtain rfl:i=0:=by omega
  exact⟨knN c,rfl,zua h,fun e=>absurd rfl e⟩
theorem zsP:∀t,t∈zqs→zcE t:=fun t ht=>by
 rcases List.mem_cons.1 ht with rfl | ht
 ·exact zoS oM
 ·rcases List.mem_cons.1 ht with rfl | ht
  ·exact zoS oM
  ·rw[List.mem_singleton.1 ht];exact zoS oM
theorem znh:zbM 1 2 1 zqs [[],[],[]]=0:=by decide
theorem ziQ {x:List Rat} {k:Int} {c:Nat} (h:zuD x k (knT c)):k=(c:Int):=by
 obtain⟨i,n,hL,hn,rfl⟩:=h;have h0:zmM (knT c).ns x 0 0:=.here (n:=knN c) rfl rfl;rw[←h0.det hL]at hn;cases hn;rfl
theorem zni {x:List Rat} {ks:List Int} (h:CLs x ks zqs):ks=[0,1,1]:=by
 obtain⟨hl,h⟩:=h
 match ks,hl with
 | [a,b,c],_ =>
  rw[ziQ (h 0 a (knT 0) rfl rfl),ziQ (h 1 b (knT 1) rfl rfl),ziQ (h 2 c (knT 1) rfl rfl)];rfl
theorem zoT:zhp 2 3 [0,1,1]=[mkRat 1 3,mkRat 2 3]:=by decide +kernel
end
section
open Go.RowKit _root_.Go.Proofs.Tryz
theorem zli {H:Hp} {b:Nat} {cs:List Value} {n:Nd} {kd cl w:Int} (h:zcs H cs n) (hb:H b=some cs.toArray):zez H [.int .i64 kd,.int .i64 cl,.int .i64 w,.slice (some ⟨b,0,none⟩) 1 1] kd cl w [n] :=
 ⟨some ⟨b,0,none⟩,1,[cs],rfl,⟨rfl,fun j c m e1 e2=>by
  have hj:=(qE.1 e1).1;simp at hj;subst hj;cases e1;cases e2;exact h⟩,by
  rw[zlh];exact⟨h.len,.inr ⟨b,0,1,_,rfl,qH _,hb,fun j x hj=>by rw[Nat.zero_add,List.getElem?_toArray];exact hj⟩⟩⟩
theorem zq0:∀l,l∈([[],[],[]]:List (List Int))→l.length≤1000000:=by decide
theorem zub:∀q,q∈([((0:Int):Rat)]:List Rat)→sm q:=fun q hq=>by
 rw[List.mem_singleton.1 hq];show ht 0≤100000000;rw[zbR];decide
set_option maxRecDepth 100000 in
theorem zfi {H:Hp}:PC prog 8 #[] H fun r _=>r=.bool true:=by
 refine BD func8 ntmps8 ?_;refine uR ?_;refine EVL.make tO rfl rfl rfl rfl rfl rfl rfl rfl rfl (3) (rfl) oM (by rfl) (by rfl) fun b=>?_;(first|refine EVL.publish [] [] rfl fun G0 hG0 hb0=>?_|refine EV.publish [] [] rfl fun G0 hG0 hb0=>?_)
 have hout:ILL G0 (.slice (some ⟨b,0,none⟩) 3 3) [[],[],[]]:=⟨[.slice none 0 0,.slice none 0 0,.slice none 0 0],⟨rfl,fun j v l e1 e2=>by
  match j,e1,e2 with
  | 0,e1,e2=>cases e1;cases e2;exact IL.nil _ _ _
  | 1,e1,e2=>cases e1;cases e2;exact IL.nil _ _ _
  | 2,e1,e2=>cases e1;cases e2;exact IL.nil _ _ _⟩,⟨rfl,.inr ⟨b,0,3,_,rfl,qH _,hb0,fun j x hj=>by rw[Nat.zero_add,List.getElem?_toArray];exact hj⟩⟩⟩
 refine uR ?_;refine EV.loopK (ι:=Nat × Value × List (List Value) × Ows) [0,1] [] (fun q=>[(2,.v (.int .i64 (q.1:Int)))]) (fun q=>[(1,48,[.int .i64 1,.int .i64 2,.int .i64 1,q.2.1,.slice (some ⟨b,0,none⟩) 3 3])]) (fun q=>q.2.2.2) (fun q G=>q.1≤3∧PTs G q.2.2.1 (zqs.take q.1)∧zaK 94 4 q.2.1 q.1 q.2.2.1.flatten q.2.2.2) (fun q=>3-q.1) ((0,.slice none 0 0,[],[])) rfl rfl ⟨rfl,trivial⟩ ⟨rfl,trivial⟩ rfl (fun _=>rfl) (⟨Nat.zero_le _,⟨rfl,fun j c n e1 e2=>by cases e1⟩,zaK.nil _ _⟩) ?_;rintro⟨i,u,ps,ow⟩ G1 hG1 ⟨hi,hps,hown⟩;dsimp only at hi hps hown;obtain⟨wa,wc,rfl⟩:=hown.val;refine uR ?_;refine EV.cond rfl (fun hlt=>?_) (fun hlt=>?_)
 ·simp only[nN]at hlt;have h012:i=0∨i=1∨i=2:=by omega
  rcases h012 with hi0 | hi1 | hi2
  ·subst hi0;refine uR ?_;refine EVL.lit tO rfl rfl rfl rfl rfl rfl rfl rfl rfl rfl rfl fun bl=>?_;(first|refine EVL.publish [] ow rfl fun G2 hG2 hb2=>?_|refine EV.publish [] ow rfl fun G2 hG2 hb2=>?_);have hil:IL G2 (.slice (some ⟨bl,0,none⟩) 2 2) (knN 0).counts:=zhU (sp:=[]) hb2 rfl;refine uR ?_;refine EVL.lit tO rfl rfl rfl rfl rfl rfl rfl rfl rfl rfl rfl fun bn=>?_;(first|refine EVL.publish [] ow rfl fun G3 hG3 hb3=>?_|refine EV.publish [] ow rfl fun G3 hG3 hb3=>?_);have hnd:zcs G3 _ (knN 0):=⟨some ⟨bl,0,none⟩,2,hil.mono hG3,rfl⟩;have htr:zez G3 [.int .i64 1,.int .i64 2,.int .i64 1,.slice (some ⟨bn,0,none⟩) 1 1] 1 2 1 [knN 0]:=zli hnd (by rw[hb3];exact congrArg some (congrArg List.toArray (by show _=_++(zac (zae 0)++(zac (zae 0)++(zac (zae 0)++_)));rw[zat];rfl)));refine uR ?_;refine EVL.app1 tO rfl rfl rfl rfl rfl rfl rfl rfl rfl rfl rfl rfl rfl rfl rfl rfl rfl rfl rfl (fun _=>rfl) (ow) ([]) ((qG _).symm) (hown) oM fun _=>?_;intro v' ow' hown';obtain⟨va,vc,rfl⟩:=hown'.val;refine uR ?_;refine⟨(0+1,_,ps++[_],ow'),⟨rfl,trivial⟩,sB,⟨rfl,trivial⟩,sB,qG _,⟨by dsimp only;omega,by dsimp only;exact zbk (xs:=ps) (ys:=zqs.take 0) (hps.mono (hG2.trans hG3)) htr,by dsimp only;rw[List.flatten_append,zlh];exact hown'⟩,hG2.trans hG3,by dsimp only;omega⟩
  ·subst hi1;refine uR ?_;refine EVL.lit tO rfl rfl rfl rfl rfl rfl rfl rfl rfl rfl rfl fun bl=>?_;(first|refine EVL.publish [] ow rfl fun G2 hG2 hb2=>?_|refine EV.publish [] ow rfl fun G2 hG2 hb2=>?_);have hil:IL G2 (.slice (some ⟨bl,0,none⟩) 2 2) (knN 1).counts:=zhU (sp:=[]) hb2 rfl;refine uR ?_;refine EVL.lit tO rfl rfl rfl rfl rfl rfl rfl rfl rfl rfl rfl fun bn=>?_;(first|refine EVL.publish [] ow rfl fun G3 hG3 hb3=>?_|refine EV.publish [] ow rfl fun G3 hG3 hb3=>?_);have hnd:zcs G3 _ (knN 1):=⟨some ⟨bl,0,none⟩,2,hil.mono hG3,rfl⟩;have htr:zez G3 [.int .i64 1,.int .i64 2,.int .i64 1,.slice (some ⟨bn,0,none⟩) 1 1] 1 2 1 [knN 1]:=zli hnd (by rw[hb3];exact congrArg some (congrArg List.toArray (by show _=_++(zac (zae 0)++(zac (zae 0)++(zac (zae 0)++_)));rw[zat];rfl)));refine uR ?_;refine EVL.app1 tO rfl rfl rfl rfl rfl rfl rfl rfl rfl rfl rfl rfl rfl rfl rfl rfl rfl rfl rfl (fun _=>rfl) (ow) ([]) ((qG _).symm) (hown) oM fun _=>?_;intro v' ow' hown';obtain⟨va,vc,rfl⟩:=hown'.val;refine uR ?_;refine⟨(1+1,_,ps++[_],ow'),⟨rfl,trivial⟩,sB,⟨rfl,trivial⟩,sB,qG _,⟨by dsimp only;omega,by dsimp only;exact zbk (xs:=ps) (ys:=zqs.take 1) (hps.mono (hG2.trans hG3)) htr,by dsimp only;rw[List.flatten_append,zlh];exact hown'⟩,hG2.trans hG3,by dsimp only;omega⟩
  ·subst hi2;refine uR ?_;refine EVL.lit tO rfl rfl rfl rfl rfl rfl rfl rfl rfl rfl rfl fun bl=>?_;(first|refine EVL.publish [] ow rfl fun G2 hG2 hb2=>?_|refine EV.publish [] ow rfl fun G2 hG2 hb2=>?_);have hil:IL G2 (.slice (some ⟨bl,0,none⟩) 2 2) (knN 1).counts:=zhU (sp:=[]) hb2 rfl;refine uR ?_;refine EVL.lit tO rfl rfl rfl rfl rfl rfl rfl rfl rfl rfl rfl fun bn=>?_;(first|refine EVL.publish [] ow rfl fun G3 hG3 hb3=>?_|refine EV.publish [] ow rfl fun G3 hG3 hb3=>?_);have hnd:zcs G3 _ (knN 1):=⟨some ⟨bl,0,none⟩,2,hil.mono hG3,rfl⟩;have htr:zez G3 [.int .i64 1,.int .i64 2,.int .i64 1,.slice (some ⟨bn,0,none⟩) 1 1] 1 2 1 [knN 1]:=zli hnd (by rw[hb3];exact congrArg some (congrArg List.toArray (by show _=_++(zac (zae 0)++(zac (zae 0)++(zac (zae 0)++_)));rw[zat];rfl)));refine uR ?_;refine EVL.app1 tO rfl rfl rfl rfl rfl rfl rfl rfl rfl rfl rfl rfl rfl rfl rfl rfl rfl rfl rfl (fun _=>rfl) (ow) ([]) ((qG _).symm) (hown) oM fun _=>?_;intro v' ow' hown';obtain⟨va,vc,rfl⟩:=hown'.val;refine uR ?_;refine⟨(2+1,_,ps++[_],ow'),⟨rfl,trivial⟩,sB,⟨rfl,trivial⟩,sB,qG _,⟨by dsimp only;omega,by dsimp only;exact zbk (xs:=ps) (ys:=zqs.take 2) (hps.mono (hG2.trans hG3)) htr,by dsimp only;rw[List.flatten_append,zlh];exact hown'⟩,hG2.trans hG3,by dsimp only;omega⟩
 ·simp only[nN]at hlt;obtain rfl:i=3:=by omega
  (first|refine EVL.publishL [] ow [] ((qG _).symm) hown fun G4 hG4 hs4=>?_|refine EV.publishL [] ow [] ((qG _).symm) hown fun G4 hG4 hs4=>?_);have hT:PTL G4 (.slice wa zqs.length wc) zqs:=⟨ps,hps.mono hG4,hs4⟩;have hO:ILL G4 (.slice (some ⟨b,0,none⟩) ([[],[],[]]:List (List Int)).length 3) [[],[],[]]:=(hout.mono hG1).mono hG4;have hof:=zgT 0 oM oM;refine uR ?_;apply EV.drawn 9 kR kR;intro xv yw;(repeat (first|refine' DD ?_|(refine' DC (hof) (h:=?_);rotate_left)));(refine' DJ.litD1 (Φ:=fun v G=>QL G v [((0:Int):Rat)]) (fun _ _ _ h k=>QL.mono h k) tO rfl rfl rfl rfl rfl rfl rfl rfl rfl rfl rfl (fun G hd=>rfl) (fun G G' v hd hG h=>h) ?_;rotate_left);(refine' vB (cO func21) (fun G hG hd=>zrO (C:=2) (w:=1) (hT.mono hG) (hO.mono hG) zsP zq0 (by decide) oM znh (hd.head kR) rfl zub) (fun v G G' ⟨ks,u,h1,e,h⟩ k=>⟨ks,u,h1,e,QL.mono h k⟩) ?_;rotate_left);refine' DJ.copy (3) (by first|exact .inl rfl|exact .inr rfl) rfl rfl rfl id rfl kR ?_;rotate_left;refine' DJ.extract (3) rfl rfl rfl rfl rfl kR (fun G hd=>(by obtain⟨ks,v,_,e,_⟩:=hd.head kR;exact⟨_,e,Nat.zero_lt_succ _⟩)) ?_;rotate_left;refine' DJ.extract (3) rfl rfl rfl rfl rfl kR (fun G hd=>(by obtain⟨ks,v,_,e,_⟩:=hd.head kR;exact⟨_,e,Nat.lt_succ_self _⟩)) ?_;rotate_left;(refine' DJ.copy 3 (by first|exact .inl rfl|exact .inr rfl) rfl rfl rfl (zcD 0) rfl kR ?_;rotate_left);(refine' DJ.copy 3 (by first|exact .inl rfl|exact .inr rfl) rfl rfl rfl (zcD 1) rfl kR ?_;rotate_left);(refine DJ.nil (fun G5 hG5 hF5=>?_);(case hS|hS2=>rfl));obtain⟨⟨ks,v6,hks,e,hql⟩,_⟩:=hF5;rw[e];obtain rfl:=zni hks;rw[show zqs.length=3 from rfl,zoT]at hql;obtain⟨ya,yc,rfl⟩:=SlC.val hql;have hq0:((([mkRat 1 3,mkRat 2 3]:List Rat).flatMap fun q=>zac (zae q)).drop (0*5)).take 5=zac (zae (mkRat 1 3)):=QL.at (H:=H) (v:=.bool true) (j:=0) rfl;have hq1:((([mkRat 1 3,mkRat 2 3]:List Rat).flatMap fun q=>zac (zae q)).drop (1*5)).take 5=zac (zae (mkRat 2 3)):=QL.at (H:=H) (v:=.bool true) (j:=1) rfl;have hi1:=fun G:Hp=>zt9 (H:=G) (mkRat 1 3) (by show ht (mkRat 1 3)≤100000000;decide +kernel) 1 3 oM oM oM oM oM (by decide +kernel);have hi2:=fun G:Hp=>zt9 (H:=G) (mkRat 2 3) (by show ht (mkRat 2 3)≤100000000;decide +kernel) 2 3 oM oM oM oM oM (by decide +kernel);have hqS:SlC G5 (.slice ya 2 yc) 2 5 (([mkRat 1 3,mkRat 2 3]:List Rat).flatMap fun q=>zac (zae q)):=hql;refine uR ?_;refine EVL.idxM tO rfl rfl rfl rfl rfl rfl rfl rfl rfl (hqS) (0) (rfl) ((show (0:Nat)<2 from Nat.zero_lt_succ _)) (hq0) ?_
  repeat (first|refine RUN ?_|refine CV (hi1 _) ?_|refine CE (hi1 _) ?_)
  refine EVL.idxM tO rfl rfl rfl rfl rfl rfl rfl rfl rfl (hqS) (1) (rfl) ((show (1:Nat)<2 from Nat.lt_succ_self _)) (hq1) ?_
  repeat (first|refine RUN ?_|refine CV (hi2 _) ?_|refine CE (hi2 _) ?_)
  rfl
end
section
open Go.ChangeShapes Go.WideShapes Go.ChangeAt Go.RowKit
def ztS (W:World):Hp:=fun b=>match W.heap[b]? with
 | some (.cells c _ _)=>some c
 | _=>none
theorem fits_hpOf (W:World):Fits (ztS W) W:=fun b c h=>by
 unfold ztS at h;split at h
 ·rename_i c' T fz hb;cases h;exact⟨T,fz,hb⟩
 ·cases h
section
variable {H:Type} {enc:TypeId × Value→H} {P:Program} {w:World} {base:Nat} {spare:Nat→Bool} {held:Bool}
theorem zjW {t e:TypeId} {k:IntKind} {fuel:Nat} {cs:List Value} {x:DataW H × List MemPlace} (ht:P.underlying t=some (.slice e)) (he:P.underlying e=some (.int k)) (hc:P.cellsOf e=1) (h:DataW.trod enc P w base spare held fuel t cs=some x) :
  ∃a len cap zs,cs=[.slice a len cap]∧SlN (fun z:Int=>Value.int k z) (ztS w) (.slice a len cap) zs∧∀n∈zs,(Lit.int k n).wf=true:=by
 rcases open_ints ht he hc h with ⟨rfl,_⟩ | ⟨x,len,cap,zs,rfl,_,hl,hm,hz,_,hcell,hw⟩
 ·exact⟨none,0,0,[],rfl,zr2 _ _,fun n hn=>by cases hn⟩
 ·have hzl:len≤zs.length:=by rw[hz];split <;> omega
  refine⟨some x,len,cap,zs.take len,rfl,?_,fun n hn=>hw n (List.mem_of_mem_take hn)⟩;have hlen:(zs.take len).length=len:=by rw[List.length_take];omega
  unfold SlN;rw[hlen];refine⟨by rw[List.length_map,hlen,Nat.mul_one],?_⟩;by_cases h0:len=0
  ·subst h0;exact .inl ⟨rfl,some x,cap,rfl⟩
  ·right;have h1:=hcell 0 oM;obtain⟨b,off,sp⟩:=x
   have hsp:sp=none:=by
    cases sp with
    | none=>rfl
    | some s=>simp only[World.cell?,Addr.add]at h1;split at h1 <;> simp_all
   subst hsp
   have hb:∃c,ztS w b=some c∧∀i,i<zs.length→c[off+i]?=some (.int k (zs.getD i 0)):=by
    simp only[Addr.add_mid]at hcell;unfold World.cell? at hcell;unfold ztS;simp only at hcell
    cases hw':w.heap[b]? with
    | none=>have:=hcell 0 oM;rw[hw']at this;cases this
    | some o =>
     cases o with
     | cells c T fz=>exact⟨c,rfl,fun i hi=>by have:=hcell i hi;rw[hw']at this;simpa using this⟩
     | _=>have:=hcell 0 oM;rw[hw']at this;cases this
   obtain⟨c,hc1,hc2⟩:=hb;refine⟨b,off,cap,c,rfl,hl,hc1,fun j y hj=>?_⟩;rw[List.getElem?_map,List.getElem?_take]at hj;split at hj
   ·rename_i hjl;rw[hc2 j oM,←hj,qB,qA (by omega)];rfl
   ·cases hj
end
theorem i64_bounds {z:Int} (h:(Lit.int .i64 z).wf=true):-9223372036854775808≤z∧z<9223372036854775808:=by
 have:=bounds_i64 h;omega
end
section
open Go.ChangeShapes Go.WideShapes Go.ChangeAt Go.RowKit
def zsm (H:Hp) (v:Value):Prop:=∃kd n w dp ls tr sm seed vg vl lg ll,v=zuX kd n w dp ls tr sm seed vg vl∧(zju n∧zju w∧zju dp∧zju ls∧zju tr∧zju sm)∧0≤seed∧IL H vg lg∧(∀z,z∈lg→zju z)∧IL H vl ll∧∀z,z∈ll→zju z
theorem zsg {α:Type}:∀{l:List α},l.length=10→∃a b c d e f g h i j,l=[a,b,c,d,e,f,g,h,i,j]
 | [a,b,c,d,e,f,g,h,i,j],_=>⟨a,b,c,d,e,f,g,h,i,j,rfl⟩
theorem raw20_open {H:Type} {enc:TypeId × Value→H} {w:World} {base:Nat} {spare:Nat→Bool} {held:Bool} {v:Value} {d:DataW H} {p:List MemPlace} (hv:∃cs,v=.agg cs) (h:DataW.Trod enc Tryz.prog w base spare held 25 v d p):zsm (ztS w) v:=by
 obtain⟨cs,rfl⟩:=hv;obtain⟨fuel,h⟩:=h;obtain⟨xs,n,_,hx,hl,hlen,hf⟩:=DataW.trod_struct Tryz.underlying25 h;rw[show Tryz.prog.cellsOf 25=10 from by kernel_rfl]at hl;have hl4:cs.toList.length=10:=hl;obtain⟨l,rfl⟩:∃l:List Value,cs=l.toArray:=⟨cs.toList,by simp⟩;have hl4':l.length=10:=by simpa using hl4
 obtain⟨c0,c1,c2,c3,c4,c5,c6,c7,c8,c9,rfl⟩:=zsg hl4';have hx4:xs.length=10:=hlen;have f0:DataW.trod enc Tryz.prog w base spare held n 3 (([c0,c1,c2,c3,c4,c5,c6,c7,c8,c9].drop 0).take (Tryz.prog.cellsOf 3))=xs[0]?:=hf 0 _ rfl;have f1:DataW.trod enc Tryz.prog w base spare held n 3 (([c0,c1,c2,c3,c4,c5,c6,c7,c8,c9].drop 1).take (Tryz.prog.cellsOf 3))=xs[1]?:=hf 1 _ rfl;have f2:DataW.trod enc Tryz.prog w base spare held n 3 (([c0,c1,c2,c3,c4,c5,c6,c7,c8,c9].drop 2).take (Tryz.prog.cellsOf 3))=xs[2]?:=hf 2 _ rfl;have f3:DataW.trod enc Tryz.prog w base spare held n 3 (([c0,c1,c2,c3,c4,c5,c6,c7,c8,c9].drop 3).take (Tryz.prog.cellsOf 3))=xs[3]?:=hf 3 _ rfl;have f4:DataW.trod enc Tryz.prog w base spare held n 3 (([c0,c1,c2,c3,c4,c5,c6,c7,c8,c9].drop 4).take (Tryz.prog.cellsOf 3))=xs[4]?:=hf 4 _ rfl;have f5:DataW.trod enc Tryz.prog w base spare held n 3 (([c0,c1,c2,c3,c4,c5,c6,c7,c8,c9].drop 5).take (Tryz.prog.cellsOf 3))=xs[5]?:=hf 5 _ rfl;have f6:DataW.trod enc Tryz.prog w base spare held n 3 (([c0,c1,c2,c3,c4,c5,c6,c7,c8,c9].drop 6).take (Tryz.prog.cellsOf 3))=xs[6]?:=hf 6 _ rfl;have f7:DataW.trod enc Tryz.prog w base spare held n 22 (([c0,c1,c2,c3,c4,c5,c6,c7,c8,c9].drop 7).take (Tryz.prog.cellsOf 22))=xs[7]?:=hf 7 _ rfl;have f8:DataW.trod enc Tryz.prog w base spare held n 23 (([c0,c1,c2,c3,c4,c5,c6,c7,c8,c9].drop 8).take (Tryz.prog.cellsOf 23))=xs[8]?:=hf 8 _ rfl;have f9:DataW.trod enc Tryz.prog w base spare held n 23 (([c0,c1,c2,c3,c4,c5,c6,c7,c8,c9].drop 9).take (Tryz.prog.cellsOf 23))=xs[9]?:=hf 9 _ rfl;rw[show Tryz.prog.cellsOf 3=1 from by kernel_rfl]at f0 f1 f2 f3 f4 f5 f6;rw[show Tryz.prog.cellsOf 22=1 from by kernel_rfl]at f7;rw[show Tryz.prog.cellsOf 23=1 from by kernel_rfl]at f8 f9;rw[qA (by omega)]at f0 f1 f2 f3 f4 f5 f6 f7 f8 f9;obtain⟨z0,e0,_,w0⟩:=DataW.trod_int Tryz.underlying3 f0;obtain⟨z1,e1,_,w1⟩:=DataW.trod_int Tryz.underlying3 f1;obtain⟨z2,e2,_,w2⟩:=DataW.trod_int Tryz.underlying3 f2;obtain⟨z3,e3,_,w3⟩:=DataW.trod_int Tryz.underlying3 f3;obtain⟨z4,e4,_,w4⟩:=DataW.trod_int Tryz.underlying3 f4;obtain⟨z5,e5,_,w5⟩:=DataW.trod_int Tryz.underlying3 f5;obtain⟨z6,e6,_,w6⟩:=DataW.trod_int Tryz.underlying3 f6;obtain⟨z7,e7,_,w7⟩:=DataW.trod_int Tryz.underlying22 f7;obtain⟨a8,l8,k8,b8,e8,s8,d8⟩:=zjW Tryz.underlying23 Tryz.underlying3 kR f8;obtain⟨a9,l9,k9,b9,e9,s9,d9⟩:=zjW Tryz.underlying23 Tryz.underlying3 kR f9;have g0:[c0]=[.int .i64 z0]:=e0;have g1:[c1]=[.int .i64 z1]:=e1;have g2:[c2]=[.int .i64 z2]:=e2;have g3:[c3]=[.int .i64 z3]:=e3;have g4:[c4]=[.int .i64 z4]:=e4;have g5:[c5]=[.int .i64 z5]:=e5;have g6:[c6]=[.int .i64 z6]:=e6;have g7:[c7]=[.int .u64 z7]:=e7;have g8:[c8]=[.slice a8 l8 k8]:=e8;have g9:[c9]=[.slice a9 l9 k9]:=e9;cases g0;cases g1;cases g2;cases g3;cases g4;cases g5;cases g6;cases g7;cases g8;cases g9;have hs:=bounds_u64 w7;exact⟨z0,z1,z2,z3,z4,z5,z6,z7,_,_,b8,b9,rfl,⟨i64_bounds w1,i64_bounds w2,i64_bounds w3,i64_bounds w4,i64_bounds w5,i64_bounds w6⟩,by omega,s8,fun z hz=>i64_bounds (d8 z hz),s9,fun z hz=>i64_bounds (d9 z hz)⟩
end
section
open Go.RowKit _root_.Go.Proofs.Tryz
section
variable {P:Program} {n:Nat} {ops:Array Oper} {o:Oper} {rest:List Oper} {env:Env} {bx:Bxs} {H:Hs} {Q:EQ} {τ:Tab} {d:Nat}
end
theorem zpc {H:Hp} {v:Value} (h:zsm H v):PC prog 6 #[v] H fun r G=>∃(kd cl least seed:Int) (ga va a1 a2:Option Addr) (gn gc vn vc N W D sm nt l1 c1 l2 c2:Nat) (vx:Value) (b1:Bool) (lg ll:List Int),
  r=.tuple #[zak kd cl (.slice ga gn gc) (.slice va vn vc),vx,ztK nt sm seed (D:Int) least (.bool b1) (.slice a1 l1 c1) (.slice a2 l2 c2)] ∧
  zjw G (zak kd cl (.slice ga gn gc) (.slice va vn vc)) N (zkR lg N)∧RLL G vx (zhc ll N W)∧RQ G (.agg #[.bool b1,.slice a1 l1 c1,.slice a2 l2 c2]) 0 ∧
  (1≤N∧N≤8)∧(1≤W∧W≤3)∧D≤2∧(1≤sm∧sm≤W)∧(1≤nt∧nt≤4)∧(1≤least∧least≤3)∧0≤seed:=by
 obtain⟨kd,n,w,dp,ls,tr,sm,seed,vg,vl,lg,ll,rfl,⟨hn,hw,hdp,hls,htr,hsm⟩,hsd,hg,hgb,hl,hlb⟩:=h;obtain⟨N,hN⟩:∃N:Nat,1+n % 8=(N:Int):=⟨(1+n % 8).toNat,by omega⟩;obtain⟨W,hW⟩:∃W:Nat,1+w % 3=(W:Int):=⟨(1+w % 3).toNat,by omega⟩;obtain⟨D,hD⟩:∃D:Nat,dp % 3=(D:Int):=⟨(dp % 3).toNat,by omega⟩;obtain⟨NT,hNT⟩:∃D:Nat,1+tr % 4=(D:Int):=⟨(1+tr % 4).toNat,by omega⟩;have h1:=Int.emod_nonneg sm (show (W:Int)≠0 by omega);have h2:=Int.emod_lt_of_pos sm (show 0<(W:Int) by omega);obtain⟨SM,hSM⟩:∃D:Nat,1+sm % (W:Int)=(D:Int):=⟨(1+sm % (W:Int)).toNat,by omega⟩;refine(zq9 kd n w dp ls tr sm seed hn hw hdp hls htr hsm hg hgb hl hlb hN hW).mono ?_;rintro r G ⟨kd',cl,ga,gn,gc,va,vn,vc,vx,b1,a1,l1,c1,a2,l2,c2,rfl,r1,r2,r3⟩ hG;rw[hNT,hSM,hD];exact⟨kd',cl,1+ls % 3,seed,ga,va,a1,a2,gn,gc,vn,vc,N,W,D,SM,NT,l1,c1,l2,c2,vx,b1,lg,ll,rfl,r1,r2,r3,by omega,by omega,by omega,by omega,by omega,by omega,hsd⟩
end
section
instance:Nonempty Nd:=⟨⟨0,0,0,0,0,0,0,0,[]⟩⟩
end
section
open Go.RowKit _root_.Go.Proofs.Tryz
theorem zjn {H:Hp} {v:Value} {X:List (List Rat)} {w:Nat} (h:QLL H v X) (h1:1≤X.length) (h2:X.length≤300) (hw:1≤w∧w≤20) (hx:∀x,x∈X→x.length=w):PC prog 34 #[v] H fun r _=>r=.bool true:=by
 obtain⟨vs,hvs,hs⟩:=h;obtain⟨a,c,rfl⟩:=SlC.val hs;obtain⟨x0,hx0⟩:=gE h1;obtain⟨a0,c0,hv0,_⟩:=hvs.at hx0;have hl0:=hx x0 (qF hx0);rw[hl0]at hv0;refine BD func34 ntmps34 ?_;refine uR ?_;rw[qC (show ¬(X.length:Int)<1 by omega)];refine uR ?_;rw[qC (show ¬(X.length:Int)>300 by omega)];refine uR ?_;refine vI (hs) (0) (rfl) (h1) (hv0) ?_;refine uR ?_;rw[qC (show ¬(w:Int)<1 by omega)];refine uR ?_;refine vI (hs) (0) (rfl) (h1) (hv0) ?_;refine uR ?_;rw[qC (show ¬(w:Int)>20 by omega)];refine uR ?_;refine EV.loopK (ι:=Nat) [0,27,28] [] (fun i=>[(29,.v (.int .i64 (i:Int)))]) (fun _=>[]) (fun _=>[]) (fun i _=>i≤X.length) (fun i=>X.length-i) (0) rfl rfl ⟨rfl,trivial⟩ trivial rfl (fun _=>rfl) (Nat.zero_le _) ?_;rintro i G1 hG1 hi;refine uR ?_;refine EV.cond rfl (fun hlt=>?_) (fun hlt=>?_)
 ·simp only[nN]at hlt;obtain⟨x,hxi⟩:=gE hlt;obtain⟨a1,c1,hv1,_⟩:=hvs.at hxi;have hl1:=hx x (qF hxi);rw[hl1]at hv1;refine uR ?_;refine vI ((hs.mono hG1)) (i) (rfl) (hlt) (hv1) ?_;refine uR ?_;refine vI ((hs.mono hG1)) (0) (rfl) (h1) (hv0) ?_;refine uR ?_;rw[bne_self_eq_false];refine uR ?_;refine⟨i+1,⟨by rw[zab i (by omega)];rfl,trivial⟩,sB,trivial,sB,rfl,hlt,Hp.Le.refl _,by omega⟩
 ·simp only[nN]at hlt;refine uR ?_;rfl
theorem zp3 {H:Hp} {v:Value} {X:List (List Rat)} {w:Nat} (h:QLL H v X) (h1:1≤X.length) (h2:X.length≤300) (hw:1≤w∧w≤20) (hx:∀x,x∈X→x.length=w):PC prog 139 #[v] H fun r _=>r=.bool true:=by
 obtain⟨vs,hvs,hs⟩:=h;obtain⟨a,c,rfl⟩:=SlC.val hs;obtain⟨x0,hx0⟩:=gE h1;obtain⟨a0,c0,hv0,_⟩:=hvs.at hx0;have hl0:=hx x0 (qF hx0);rw[hl0]at hv0;refine BD func139 ntmps139 ?_;refine uR ?_;rw[qC (show ¬(X.length:Int)<1 by omega)];refine uR ?_;rw[qC (show ¬(X.length:Int)>300 by omega)];refine uR ?_;refine vI (hs) (0) (rfl) (h1) (hv0) ?_;refine uR ?_;rw[qC (show ¬(w:Int)<1 by omega)];refine uR ?_;refine vI (hs) (0) (rfl) (h1) (hv0) ?_;refine uR ?_;rw[qC (show ¬(w:Int)>20 by omega)];refine uR ?_;refine EV.loopK (ι:=Nat) [0,27,28] [] (fun i=>[(29,.v (.int .i64 (i:Int)))]) (fun _=>[]) (fun _=>[]) (fun i _=>i≤X.length) (fun i=>X.length-i) (0) rfl rfl ⟨rfl,trivial⟩ trivial rfl (fun _=>rfl) (Nat.zero_le _) ?_;rintro i G1 hG1 hi;refine uR ?_;refine EV.cond rfl (fun hlt=>?_) (fun hlt=>?_)
 ·simp only[nN]at hlt;obtain⟨x,hxi⟩:=gE hlt;obtain⟨a1,c1,hv1,_⟩:=hvs.at hxi;have hl1:=hx x (qF hxi);rw[hl1]at hv1;refine uR ?_;refine vI ((hs.mono hG1)) (i) (rfl) (hlt) (hv1) ?_;refine uR ?_;refine vI ((hs.mono hG1)) (0) (rfl) (h1) (hv0) ?_;refine uR ?_;rw[bne_self_eq_false];refine uR ?_;refine⟨i+1,⟨by rw[zab i (by omega)];rfl,trivial⟩,sB,trivial,sB,rfl,hlt,Hp.Le.refl _,by omega⟩
 ·simp only[nN]at hlt;refine uR ?_;rfl
abbrev zr9 (deep least:Int) (g:Rat):List Value:=.int .i64 deep::.int .i64 least::zac (zae g)
theorem zmB {H:Hp} {deep least:Int} {g:Rat} (hd:0≤deep∧deep≤10) (hl:1≤least∧least≤300) (h0:0≤g) (hg:sm g):PC prog 37 #[.agg (zr9 deep least g).toArray] H fun r _=>r=.bool true:=by
 have hs:=zdJ g (qI hg.num oM);refine BD func37 ntmps37 ?_;refine uR ?_;rw[qD (show deep≥0 by omega)];refine uR ?_;rw[qD (show deep≤10 by omega)];refine uR ?_;rw[qD (show least≥1 by omega)];refine uR ?_;rw[qD (show least≤300 by omega)]
 repeat (first|refine RUN ?_|refine CV (hs) ?_|refine CE (hs) ?_)
 rw[qD (show g.num.sign≥0 from Int.sign_nonneg_iff.2 (Rat.num_nonneg.2 h0))]
 try refine uR ?_
theorem znZ {H:Hp} {kd cl deep least:Int} {sl sv vx vr:Value} {X:List (List Rat)} {S:List Int→List Value} {wo:List Int→Rat} {rows:List Int} {w:Nat} {g:Rat} (hg:GOk H kd cl sl sv X.length S wo) (hX:QLL H vx X) (h1:1≤X.length) (h2:X.length≤300) (hw:1≤w∧w≤20) (hx:∀x,x∈X→x.length=w)
  (hr:IL H vr rows) (hr0:0<rows.length) (hrn:rows.length≤300) (hb:∀r,r∈rows→0≤r∧r<(X.length:Int)) (hd:0≤deep∧deep≤10) (hl:1≤least∧least≤300) (h0:0≤g) (hgs:sm g) :
  PC prog 89 #[zak kd cl sl sv,vx,vr,.agg (zr9 deep least g).toArray] H fun r _=>r=.int .i64 0:=by
 obtain⟨xa,xc,rfl⟩:=hX.val;obtain⟨ra,rc,rfl⟩:=SlC.val hr;have hv:=zp3 hX h1 h2 hw hx;have hf:=fun (G:Hp)=>zmB (H:=G) hd hl h0 hgs;refine BD func89 ntmps89 ?_;refine uR ?_;refine vA (hv) ?_;rintro _ G1 rfl hG1;have hlen:=hg.leng
 repeat (first|refine RUN ?_|refine CV (hlen) ?_|refine CE (hlen) ?_)
 rw[show ((X.length:Int) != (X.length:Int))=false from bne_self_eq_false _];refine uR ?_;rw[qC (show ¬(rows.length:Int)<1 by omega)];refine uR ?_;rw[qC (show ¬(rows.length:Int)>300 by omega)];refine uR ?_;refine vA (hg.check G1 hG1) ?_;rintro _ G2 rfl hG2;refine uR ?_;refine vA (hf G2) ?_;rintro _ G3 rfl hG3;have hH3:=hG1.trans (hG2.trans hG3);refine uR ?_;refine EV.loopK (ι:=Nat) [1,39,40] [] (fun q=>[(41,.v (.int .i64 (q:Int)))]) (fun _=>[]) (fun _=>[]) (fun q _=>q≤rows.length) (fun q=>rows.length-q) (0) rfl rfl ⟨rfl,trivial⟩ trivial rfl (fun _=>rfl) (Nat.zero_le _) ?_;rintro i G4 hG4 hi;refine uR ?_;refine EV.cond rfl (fun hlt=>?_) (fun hlt=>?_)
 ·simp only[nN]at hlt;obtain⟨r,hri⟩:=gE hlt;have hrb:=hb r (qF hri);refine uR ?_;refine vI ((hr.mono (hH3.trans hG4))) (i) (rfl) (hlt) ((by rw[List.getElem?_map,hri];rfl)) ?_;refine uR ?_;rw[qC (show ¬r<0 by omega)];refine uR ?_;rw[qC (show ¬r≥(X.length:Int) by omega)];refine uR ?_;refine⟨i+1,⟨by rw[zab i (by omega)];rfl,trivial⟩,sB,trivial,trivial,rfl,hlt,Hp.Le.refl _,by omega⟩
 ·try refine uR ?_
  rfl
theorem znl {x:Nat × TypeId × List Value} {D ow post:Ows} (h:zce (x::(D++(ow++post)))):∀k,k∈Ows.bs D→∀q,q∈ow→k≠q.1:=fun k hk q hq e=>by
 have hn:=zdx.1 h;unfold Ows.bs at hn hk;simp only[List.map_cons,List.map_append,List.nodup_cons,List.nodup_append]at hn;exact hn.2.2.2 k hk q.1 (List.mem_append_left _ (List.mem_map.2 ⟨q,hq,rfl⟩)) e
theorem ze6.bs {dv:Value} {D D':Ows} {s s':Int} (h:ze6 dv D s) (h':ze6 dv D' s'):Ows.bs D=Ows.bs D':=by
 rcases h with ⟨e,rfl⟩ | ⟨b,T,e,rfl,_⟩
 ·rcases h' with ⟨_,rfl⟩ | ⟨b',T',e',rfl,_⟩
  ·rfl
  ·rw[e]at e';cases e'
 ·rcases h' with ⟨e',rfl⟩ | ⟨b',T',e',rfl,_⟩
  ·rw[e]at e';cases e'
  ·rw[e]at e';cases e';rfl
set_option maxRecDepth 100000 in
theorem zrI {p:GP} {H:Hp} {kd cl least:Int} {D0 w:Nat} {S:List Int→List Value} {wo:List Int→Rat} {la va xa:Option Addr} {ln lc vn vc xc:Nat} {f:FuncId} {ccs:List Value} {dv vr:Value} {rows:List Int} {s:Int} {D:Ows}
  (hcl:∀s,(p.cols s).1.length≤1000) (hx0:0<p.X.length) (hX20:p.X.length≤20) (hxw:∀x,x∈p.X→x.length=w) (hxq:∀x,x∈p.X→∀q,q∈x→ht q≤5) (hpl:p.least=least) (hgr:sm p.gain) (hD0:D0≤10)
  (hg:zjx H kd cl (.slice la ln lc) (.slice va vn vc) p S wo) (hX:QLL H (.slice xa p.X.length xc) p.X) (hcf:zhI H f ccs dv p) (hr:IL H vr rows) (hn:rows.length≤20) (hb:∀r,r∈rows→0≤r∧r<(p.X.length:Int)) (hD:ze6 dv D s) :
  PW prog 90 #[zak kd cl (.slice la ln lc) (.slice va vn vc),.slice xa p.X.length xc,vr,.agg (zr9 (D0:Int) least p.gain).toArray,.func (.func f) #[] ccs.toArray] H D fun v ow H'=>∃cs,v=.agg cs.toArray∧zez H' cs kd cl (w:Int) (p.grow D0 0 rows s).1∧ze6 dv ow (p.grow D0 0 rows s).2:=by
 obtain⟨ra,rc,rfl⟩:=SlC.val hr;have hpow:2 ^ (D0+1)≤2 ^ 11:=Nat.pow_le_pow_right oM oM;obtain⟨vs,hvs,hvx⟩:=id hX;obtain⟨x0,hxx0⟩:=gE hx0;obtain⟨u0,e0,hu0,_⟩:=hvs.at hxx0;rw[hxw x0 (qF hxx0)]at hu0;refine PW.body tO func90 rfl kR ntmps90 rfl rfl ?_;refine uR ?_;(first|refine EVL.unbox (11) rfl fun gb=>?_|refine EV.unbox (11) rfl fun gb=>?_);refine EVL.callW rfl rfl rfl rfl rfl ((gb,222,_)::(D++[])) [] (by rw[qG,qG]) (zrk (p:=p) (deep:=(D0:Int)) hcl hx0 hX20 hxq hpl hgr D0 (ns:=[]) (css:=[]) hg hX hcf oM (Int.le_refl _) oM hr hn hb hD (zaK.nil _ _) ⟨rfl,fun j c n e1 e2=>by cases e1⟩ (by rw[List.length_nil];omega)) ?_;rintro _ _ G1 ⟨rfl,out,D',ow2,css,rfl,hD',hown,hns⟩ hG1;rw[List.nil_append]at hown hns;rw[List.length_nil]at hown hns hD';obtain⟨oa,oc,rfl⟩:=hown.val;rw[qG ((gb,_,_)::(D'++ow2))];refine EVL.apart fun hdis=>?_;refine EVL.publishL ((gb,_,_)::D') ow2 [] (by rw[qG,List.cons_append]) hown (fun G2 hG2 hc=>?_) (fun k hk q hq=>znl (post:=[]) (by rw[qG];exact hdis) k (by rw[←hD.bs hD'];exact hk) q hq);rw[qG ((gb,_,_)::D')];have hG12:=hG1.trans hG2;refine uR ?_;apply EV.drawn 11 kR kR;intro xv yw;(repeat refine' DD ?_);refine' vJ (hvx.mono hG12) (0) (rfl) (hx0) (hu0) ?_;rotate_left;(repeat (first|refine' DD ?_|refine' vN ?_|refine' vF ?_));refine' DJ.ofVal (zaa.loadOwn tO rfl rfl rfl rfl (0) rfl (rfl) rfl rfl) rfl rfl rfl ?_;rotate_left;(repeat (first|refine' DD ?_|refine' vN ?_|refine' vF ?_));(refine DJ.nil (fun G hG hF=>?_);(case hS|hS2=>rfl));(first|refine EVL.subOw [] [(gb,_,_)] _ rfl ?_|refine EV.subOw [] [(gb,_,_)] _ rfl ?_);refine uR ?_;exact⟨_,rfl,⟨oa,oc,css,rfl,hns.mono (hG2.trans hG),SlC.mono hc hG⟩,hD'⟩
set_option maxRecDepth 100000 in
theorem zkC {p:GP} {H:Hp} {kd cl least:Int} {D0 sm' w bd:Nat} {Td:TypeId} {s:Int} {S:List Int→List Value} {wo:List Int→Rat} {la va xa:Option Addr} {ln lc vn vc xc:Nat} {vr:Value} {rows:List Int}
  (hds:∀s,p.cols s=((zaz w s).1.take sm',(zaz w s).2)) (hsm1:1≤sm') (hsm:sm'≤w) (hw2:w≤20) (hx0:0<p.X.length) (hX20:p.X.length≤20) (hxw:∀x,x∈p.X→x.length=w) (hxq:∀x,x∈p.X→∀q,q∈x→ht q≤5) (hpl:p.least=least) (hl:1≤least∧least≤300) (hgr:sm p.gain) (hg0:0≤p.gain) (hD0:D0≤10)
  (hg:zjx H kd cl (.slice la ln lc) (.slice va vn vc) p S wo) (hX:QLL H (.slice xa p.X.length xc) p.X) (hr:IL H vr rows) (hr0:0<rows.length) (hn:rows.length≤20) (hb:∀r,r∈rows→0≤r∧r<(p.X.length:Int)) (hs:0≤s) :
  PW prog 41 #[zak kd cl (.slice la ln lc) (.slice va vn vc),.slice xa p.X.length xc,vr,.agg (zr9 (D0:Int) least p.gain).toArray,.int .i64 (sm':Int),.pointer (some ⟨bd,0,none⟩)] H [(bd,Td,[.int .u64 s])]
   fun v ow H'=>∃T' cs,v=.tuple #[.agg cs.toArray,.int .i64 0]∧ow=[(bd,T',[.int .u64 (p.grow D0 0 rows s).2])]∧0≤(p.grow D0 0 rows s).2∧zez H' cs kd cl (w:Int) (p.grow D0 0 rows s).1:=by
 obtain⟨ra,rc,rfl⟩:=SlC.val hr;have hrf:=znZ (deep:=(D0:Int)) hg.ok hX hx0 oM ⟨by omega,hw2⟩ hxw hr hr0 oM hb oM hl hg0 hgr;obtain⟨vs,hvs,hvx⟩:=id hX;obtain⟨x0,hxx0⟩:=gE hx0;obtain⟨u0,e0,hu0,_⟩:=hvs.at hxx0;rw[hxw x0 (qF hxx0)]at hu0;refine PW.body tO func41 rfl kR ntmps41 rfl rfl ?_;refine uR ?_;refine vA (hrf) ?_;rintro _ G1 rfl hG1;refine uR ?_;refine vI ((hvx.mono hG1)) (0) (rfl) (hx0) (hu0) ?_;refine uR ?_;rw[qC (show ¬(sm':Int)<1 by omega)];refine uR ?_;rw[qC (show ¬(sm':Int)>(w:Int) by omega)];refine uR ?_;refine EVL.eqnilP (e:=162) kR rfl rfl rfl rfl rfl ?_;refine uR ?_;(first|refine EVL.unbox (11) rfl fun ga=>?_|refine EV.unbox (11) rfl fun ga=>?_);(first|refine EVL.unbox (15) rfl fun gw=>?_|refine EV.unbox (15) rfl fun gw=>?_);(first|refine EVL.unbox (10) rfl fun gs=>?_|refine EV.unbox (10) rfl fun gs=>?_);(first|refine EVL.apart fun hdis=>?_|refine EV.apart fun hdis=>?_)
 have hap:gs≠bd∧gw≠bd∧ga≠bd:=by
  refine⟨fun e=>?_,fun e=>?_,fun e=>?_⟩
  ·have:=hdis 0 3 gs _ _ _ _ rfl (by rw[e];rfl);omega
  ·have:=hdis 1 3 gw _ _ _ _ rfl (by rw[e];rfl);omega
  ·have:=hdis 2 3 ga _ _ _ _ rfl (by rw[e];rfl);omega
 (first|refine EVL.publish [] _ rfl (fun G2 hG2 hs2=>?_) (fun k hk=>by rw[List.mem_singleton.1 hk];exact hap.1.symm)|refine EV.publish [] _ rfl (fun G2 hG2 hs2=>?_) (fun k hk=>by rw[List.mem_singleton.1 hk];exact hap.1.symm));(first|refine EVL.publish [] _ rfl (fun G3 hG3 hs3=>?_) (fun k hk=>by rw[List.mem_singleton.1 hk];exact hap.2.1.symm)|refine EV.publish [] _ rfl (fun G3 hG3 hs3=>?_) (fun k hk=>by rw[List.mem_singleton.1 hk];exact hap.2.1.symm));(first|refine EVL.publish [] _ rfl (fun G4 hG4 hs4=>?_) (fun k hk=>by rw[List.mem_singleton.1 hk];exact hap.2.2.symm)|refine EV.publish [] _ rfl (fun G4 hG4 hs4=>?_) (fun k hk=>by rw[List.mem_singleton.1 hk];exact hap.2.2.symm));refine uR ?_;refine EVL.fn3 rfl rfl rfl rfl rfl rfl rfl ?_;have hH4:=hG1.trans (hG2.trans (hG3.trans hG4));have hcf:=zrh (p:=p) (H:=G4) hds hsm oM oM hs4 (hG4 _ _ hs3) (hG4 _ _ (hG3 _ _ hs2));refine EVL.callW rfl rfl rfl rfl rfl [(bd,Td,[.int .u64 s])] [] rfl (zrI (w:=w) (fun s=>by rw[hds];show ((zaz w s).1.take sm').length≤1000;rw[List.length_take];omega) hx0 hX20 hxw hxq hpl hgr hD0 (hg.mono hH4) (hX.mono hH4) hcf (hr.mono hH4) hn hb (.inr ⟨bd,Td,rfl,rfl,hs⟩)) ?_;rintro _ D' G5 ⟨cs,rfl,hpt,hD'⟩ hG5;rcases hD' with ⟨e1,_⟩|⟨bd',T',e1,rfl,hs'⟩
 ·cases e1
 cases e1;obtain⟨ta,tc,css,rfl,_⟩:=id hpt;refine uR ?_;exact⟨T',_,rfl,rfl,hs',hpt⟩
abbrev zrX (nt sm:Nat) (seed deep least:Int) (g:Rat):List Value:=.int .i64 (nt:Int)::.int .i64 (sm:Int)::.int .u64 seed::zr9 deep least g
set_option maxRecDepth 100000 in
theorem zqW {p:GP} {H:Hp} {kd cl least:Int} {D0 sm' w nt:Nat} {seed:Int} {S:List Int→List Value} {wo:List Int→Rat} {la va xa:Option Addr} {ln lc vn vc xc:Nat}
  (hds:∀s,p.cols s=((zaz w s).1.take sm',(zaz w s).2)) (hsm1:1≤sm') (hsm:sm'≤w) (hw2:w≤20) (hx0:0<p.X.length) (hX20:p.X.length≤20) (hxw:∀x,x∈p.X→x.length=w) (hxq:∀x,x∈p.X→∀q,q∈x→ht q≤5) (hpl:p.least=least) (hl:1≤least∧least≤300) (hgr:sm p.gain) (hg0:0≤p.gain) (hD0:D0≤10)
  (hg:zjx H kd cl (.slice la ln lc) (.slice va vn vc) p S wo) (hX:QLL H (.slice xa p.X.length xc) p.X) (hn1:1≤nt) (hn2:nt≤50) (hs:0≤seed) :
  PC prog 9 #[zak kd cl (.slice la ln lc) (.slice va vn vc),.slice xa p.X.length xc,.agg (zrX nt sm' seed (D0:Int) least p.gain).toArray] H fun r H'=>∃at' ct ao co,r=.tuple #[za2 kd cl (w:Int) (.slice at' nt ct) (.slice ao nt co),.int .i64 0]∧PTL H' (.slice at' nt ct) (p.wood D0 p.X.length kd cl (w:Int) nt seed).1∧ILL H' (.slice ao nt co) (p.wood D0 p.X.length kd cl (w:Int) nt seed).2.1:=by
 have hvalid:=zjn hX hx0 oM ⟨by omega,hw2⟩ hxw;have hlen:=hg.ok.leng;have hfine:=fun (G:Hp)=>zmB (H:=G) (deep:=(D0:Int)) oM hl hg0 hgr;obtain⟨vs,hvs,hvx⟩:=id hX;obtain⟨x0,hxx0⟩:=gE hx0;obtain⟨u0,e0,hu0,_⟩:=hvs.at hxx0;rw[hxw x0 (qF hxx0)]at hu0;refine BD func9 ntmps9 ?_;refine uR ?_;refine vA (hvalid) ?_;rintro _ G0 rfl hG0
 repeat (first|refine RUN ?_|refine CV (hlen) ?_|refine CE (hlen) ?_)
 rw[show ((p.X.length:Int) != (p.X.length:Int))=false from bne_self_eq_false _];refine uR ?_;refine vI ((hvx.mono hG0)) (0) (rfl) (hx0) (hu0) ?_;refine uR ?_;refine vA (hg.ok.check G0 hG0) ?_;rintro _ G1 rfl hG1;refine uR ?_;rw[qC (show ¬(nt:Int)<1 by omega)];refine uR ?_;rw[qC (show ¬(nt:Int)>50 by omega)];refine uR ?_;rw[qC (show ¬(sm':Int)<1 by omega)];refine uR ?_;rw[qC (show ¬(sm':Int)>(w:Int) by omega)];refine uR ?_;refine vA (hfine G1) ?_;rintro _ G2 rfl hG2;refine uR ?_;refine EVL.callO rfl rfl rfl rfl rfl (zoF _) ?_;rintro _ ow2 ⟨d0,rfl,rfl⟩;refine uR ?_;have hH2:=hG0.trans (hG1.trans hG2);refine EV.loopK (ι:=Nat × Value × List (List Value) × Ows × Value × List Value × Ows × TypeId) [1,3,5,6,9,10,72] [3,5,6] (fun q=>[(73,.v (.int .i64 (q.1:Int)))]) (fun q=>[(9,48,[.int .i64 kd,.int .i64 cl,.int .i64 (w:Int),q.2.1,q.2.2.2.2.1])]) (fun q=>(d0,q.2.2.2.2.2.2.2,[.int .u64 (p.wood D0 p.X.length kd cl (w:Int) q.1 seed).2.2])::(q.2.2.2.1++q.2.2.2.2.2.2.1)) (fun q G=>q.1≤nt∧PTs G q.2.2.1 (p.wood D0 p.X.length kd cl (w:Int) q.1 seed).1∧ILs G q.2.2.2.2.2.1 (p.wood D0 p.X.length kd cl (w:Int) q.1 seed).2.1∧zaK 94 4 q.2.1 q.1 q.2.2.1.flatten q.2.2.2.1∧zaK 23 1 q.2.2.2.2.1 q.1 q.2.2.2.2.2.1 q.2.2.2.2.2.2.1) (fun q=>nt-q.1) ((0,.slice none 0 0,[],[],.slice none 0 0,[],[],162)) rfl rfl ⟨rfl,trivial⟩ ⟨rfl,trivial⟩ rfl (fun _=>rfl) (⟨Nat.zero_le _,⟨rfl,fun j c t e1 e2=>by cases e1⟩,⟨rfl,fun j c t e1 e2=>by cases e1⟩,zaK.nil _ _,zaK.nil _ _⟩) ?_;rintro⟨i,vt,tcs,owT,vo,vos,owO,Td⟩ G3 hG3 ⟨hi,hts,hos,hownT,hownO⟩;dsimp only at hi hts hos hownT hownO;obtain⟨ta,tc,rfl⟩:=hownT.val;obtain⟨oa,oc,rfl⟩:=hownO.val;have hH3:=hH2.trans hG3;obtain⟨hwl1,hwl2,hwl3⟩:=p.wood_len D0 p.X.length kd cl (w:Int) i seed;have hws:=p.wood_succ D0 p.X.length kd cl (w:Int) i seed;refine uR ?_;refine EV.cond rfl (fun hlt=>?_) (fun hlt=>?_)
 ·simp only[nN]at hlt;refine uR ?_;refine vW ([(d0,Td,_)]) (owT++owO) (zrj (t:=zcC) (hwl3 hs) (by decide)) ?_;rintro _ _ G4 ⟨T4,g4,rfl,rfl,hs4,hf4⟩ hG4;refine uR ?_;refine EVL.callW rfl rfl rfl rfl rfl ([(g4,_,_)]) ((d0,T4,_)::(owT++owO)) rfl (zrg hf4 oM oM) ?_;rintro _ _ G5 ⟨T5,u5,w5,rfl,rfl,hs5,hu5,hw5⟩ hG5;have hbe:((za0 (zaA p.X.length p.X.length (zcg (p.wood D0 p.X.length kd cl (w:Int) i seed).2.2 zcC)).1,(zaA p.X.length p.X.length (zcg (p.wood D0 p.X.length kd cl (w:Int) i seed).2.2 zcC)).2):List Int × Int)=zjD p.X.length (p.wood D0 p.X.length kd cl (w:Int) i seed).2.2:=rfl;generalize hre:zcy p.X.length (za0 (zaA p.X.length p.X.length (zcg (p.wood D0 p.X.length kd cl (w:Int) i seed).2.2 zcC)).1)=rs5 at *
  obtain⟨ua5,uc5,rfl⟩:=SlC.val hu5;obtain⟨wa5,wc5,rfl⟩:=SlC.val hw5;refine uR ?_;have hH5:=hH3.trans (hG4.trans hG5);have hbl:(za0 (zaA p.X.length p.X.length (zcg (p.wood D0 p.X.length kd cl (w:Int) i seed).2.2 zcC)).1).length=p.X.length:=by rw[zaU,za6]
  have hbm:∀r,r∈za0 (zaA p.X.length p.X.length (zcg (p.wood D0 p.X.length kd cl (w:Int) i seed).2.2 zcC)).1→0≤r∧r<(p.X.length:Int):=fun r hr=>zei _ _ _ oM oM r ((zcr _).mem_iff.1 hr);refine vW ([(g4,T5,_)]) ((d0,T4,_)::(owT++owO)) (zkC hds hsm1 hsm hw2 hx0 hX20 hxw hxq hpl hl hgr hg0 hD0 (hg.mono hH5) (hX.mono hH5) hu5 (by rw[hbl];omega) (by rw[hbl];omega) hbm hs5) ?_;rintro _ _ G6 ⟨T6,cs6,rfl,rfl,hs6,ht6⟩ hG6;have hge:(p.grow D0 0 (zjD p.X.length (p.wood D0 p.X.length kd cl (w:Int) i seed).2.2).1 (zjD p.X.length (p.wood D0 p.X.length kd cl (w:Int) i seed).2.2).2)=p.grow D0 0 (za0 (zaA p.X.length p.X.length (zcg (p.wood D0 p.X.length kd cl (w:Int) i seed).2.2 zcC)).1) (zaA p.X.length p.X.length (zcg (p.wood D0 p.X.length kd cl (w:Int) i seed).2.2 zcC)).2:=rfl;generalize p.grow D0 0 (za0 (zaA p.X.length p.X.length (zcg (p.wood D0 p.X.length kd cl (w:Int) i seed).2.2 zcC)).1) (zaA p.X.length p.X.length (zcg (p.wood D0 p.X.length kd cl (w:Int) i seed).2.2 zcC)).2=gr6 at *
  have hre':zcy p.X.length (zjD p.X.length (p.wood D0 p.X.length kd cl (w:Int) i seed).2.2).1=rs5:=hre;rw[hge,hre']at hws;obtain⟨na,nc,css6,rfl,hns6,hsl6⟩:=id ht6;refine EVL.subOw [] [(g4,_,_)] ((d0,T4,_)::(owT++owO)) rfl ?_;refine uR ?_;(first|refine EVL.swapOw ([(d0,T4,_)]) (owT++owO) (rfl) ?_|refine EV.swapOw ([(d0,T4,_)]) (owT++owO) (rfl) ?_);refine EVL.app1 tO rfl rfl rfl rfl rfl rfl rfl rfl rfl rfl rfl rfl rfl rfl rfl rfl rfl rfl rfl (fun _=>rfl) (owT) (owO++[(d0,T4,_)]) (List.append_assoc _ _ _) (hownT) (oM) fun _=>?_;intro vt' owT' hownT';obtain⟨ta',tc',rfl⟩:=hownT'.val;refine uR ?_;(first|refine EVL.swapOw (owT') (owO++[(d0,T4,_)]) (rfl) ?_|refine EV.swapOw (owT') (owO++[(d0,T4,_)]) (rfl) ?_);refine EVL.app1 tO rfl rfl rfl rfl rfl rfl rfl rfl rfl rfl rfl rfl rfl rfl rfl rfl rfl rfl rfl (fun _=>rfl) (owO) ([(d0,T4,_)]++owT') (List.append_assoc _ _ _) (hownO) (oM) fun _=>?_;intro vo' owO' hownO';obtain⟨oa',oc',rfl⟩:=hownO'.val;(first|refine EVL.swapOw (owO') ([(d0,T4,_)]++owT') (rfl) ?_|refine EV.swapOw (owO') ([(d0,T4,_)]++owT') (rfl) ?_);refine uR ?_;have hG36:=hG4.trans (hG5.trans hG6);refine⟨(i+1,.slice ta' (i+1) tc',tcs++[[.int .i64 kd,.int .i64 cl,.int .i64 (w:Int),.slice na gr6.1.length nc]],owT',.slice oa' (i+1) oc',vos++[.slice wa5 rs5.length wc5],owO',T4),⟨by dsimp only;rw[zab i (by omega)];rfl,trivial⟩,sB,⟨rfl,trivial⟩,sB,?_,⟨hlt,?_,?_,?_,?_⟩,hG36,by dsimp only;omega⟩
  ·dsimp only;rw[hws];rfl
  ·dsimp only;rw[hws];exact zbk (hts.mono hG36) ht6
  ·dsimp only;rw[hws];exact zbk (hos.mono hG36) (hw5.mono hG6)
  ·dsimp only;rw[List.flatten_append];exact hownT'
  ·exact hownO'
 ·simp only[nN]at hlt;obtain rfl:i=nt:=by omega
  (first|refine EVL.publishL [(d0,Td,_)] owT owO (rfl) hownT fun G4 hG4 hsT=>?_|refine EV.publishL [(d0,Td,_)] owT owO (rfl) hownT fun G4 hG4 hsT=>?_);(first|refine EVL.publishL [(d0,Td,_)] owO [] ((by rw[qG owO])) hownO fun G5 hG5 hsO=>?_|refine EV.publishL [(d0,Td,_)] owO [] ((by rw[qG owO])) hownO fun G5 hG5 hsO=>?_);refine uR ?_;exact⟨ta,tc,oa,oc,rfl,⟨tcs,by rw[hwl1];exact⟨hts.mono (hG4.trans hG5),hsT.mono hG5⟩⟩,⟨vos,by rw[hwl2];exact⟨hos.mono (hG4.trans hG5),hsO⟩⟩⟩
theorem zpg (a:Rat):zb9 a a=0:=Int.le_antisymm (ziW Rat.le_refl) (ziX.2 Rat.lt_irrefl)
inductive GD where
 | v (qs:List Rat)
 | c (C:Nat) (ls:List Int)
def GD.kd:GD→Int
 | .v _=>2
 | .c _ _=>1
def GD.cl:GD→Int
 | .v _=>0
 | .c C _=>C
def GD.cost:GD→List Int→Rat
 | .v qs=>zhN qs
 | .c _ ls=>zgx ls
def GD.mean:GD→List Int→Rat
 | .v qs=>fun l=>zdB (atR qs l)
 | .c _ _=>fun _=>0
def GD.cnt:GD→List Int→List Int
 | .v _=>fun _=>[]
 | .c C ls=>fun l=>zcB C (atI ls l)
def GD.Ok (n:Nat):GD→Prop
 | .v qs=>qs.length=n∧∀q,q∈qs→ht q≤5
 | .c C ls=>(1≤C∧C≤12)∧ls.length=n∧∀z,z∈ls→0≤z∧z<(C:Int)
def GD.P (H:Hp) (sl sv:Value):GD→Prop
 | .v qs=>∃la lc va vc,sl=.slice la 0 lc∧sv=.slice va qs.length vc∧QL H sv qs
 | .c _ ls=>∃la lc va vc,sl=.slice la ls.length lc∧sv=.slice va 0 vc∧IL H sl ls
theorem GD.P.mono {H G:Hp} {sl sv:Value} {d:GD} (h:d.P H sl sv) (k:H.Le G):d.P G sl sv:=by
 cases d with
 | v qs=>obtain⟨la,lc,va,vc,e1,e2,h⟩:=h;exact⟨la,lc,va,vc,e1,e2,SlC.mono h k⟩
 | c C ls=>obtain⟨la,lc,va,vc,e1,e2,h⟩:=h;exact⟨la,lc,va,vc,e1,e2,SlC.mono h k⟩
def GD.R (H:Hp) (v:Value):GD→Prop
 | .v qs=>∃s,v=zak 2 0 (.slice none 0 0) s∧RL H s qs
 | .c C ls=>∃s,v=zak 1 C s (.slice none 0 0)∧IL H s ls
theorem GD.R.mono {H G:Hp} {v:Value} {d:GD} (h:d.R H v) (k:H.Le G):d.R G v:=by
 cases d with
 | v qs=>obtain⟨s,e,h⟩:=h;exact⟨s,e,RL.mono h k⟩
 | c C ls=>obtain⟨s,e,h⟩:=h;exact⟨s,e,SlC.mono h k⟩
theorem zjw.gd {H:Hp} {v:Value} {n:Nat} {qs:List Rat} (h:zjw H v n qs) (hql:qs.length=n) (hq:∀q,q∈qs→ht q≤5):∃d:GD,d.Ok n∧d.R H v∧d.cl≤4:=by
 rcases h with ⟨s,rfl,hs⟩ | ⟨cl,s,ls,rfl,hc1,hc2,hll,hlb,hs⟩
 ·exact⟨.v qs,⟨hql,hq⟩,⟨s,rfl,hs⟩,by show (0:Int)≤4;decide⟩
 ·obtain⟨C,rfl⟩:=Int.eq_ofNat_of_zero_le (show 0≤cl by omega);exact⟨.c C ls,⟨⟨by omega,by omega⟩,hll,hlb⟩,⟨s,rfl,hs⟩,hc2⟩
theorem GD.Ok.sm {n:Nat} {d:GD} (hd:d.Ok n):∀l:List Int,l.length≤300→(∀r,r∈l→0≤r∧r<(n:Int))→ht (d.mean l)≤4000∧ht (d.cost l)≤2000000:=by
 intro l hn hr
 cases d with
 | v qs =>
  obtain⟨rfl,hq⟩:=hd;have hlb:=fun q hq'=>hq q (zee hr q hq');have hll:(atR qs l).length≤300:=by rw[zbN];omega
  have h2:=zma hll hlb;have h3:=zoz hll hlb h2;show ht (zdB (atR qs l))≤4000∧ht (zhN qs l)≤2000000;unfold zhN;omega
 | c C ls =>
  have hsq:=zim (atI ls l);have hll:(atI ls l).length=l.length:=zb4 ls l;rw[hll]at hsq;have hsq2:l.length*l.length≤300*300:=Nat.mul_le_mul hn hn;have hn2:=zbC (l.length:Int);have hn3:bl (l.length:Int).natAbs≤20:=za9 oM;have hs2:=zbC (sqL (atI ls l):Int);have hs3:bl (sqL (atI ls l):Int).natAbs≤20:=za9 oM;have hdv:=zfH ((sqL (atI ls l):Int):Rat) ((l.length:Int):Rat);have hsb:=zjU ((l.length:Int):Rat) (((sqL (atI ls l):Int):Rat) / ((l.length:Int):Rat));refine⟨by show ht (0:Rat)≤4000;rw[zbR];decide,?_⟩;show ht (zgx ls l)≤2000000;unfold zgx zfT;rw[hll];omega
theorem GD.Ok.plain {n:Nat} {d:GD} (hd:d.Ok n):zoe d.kd d.cl n d.cost d.mean d.cnt:=by
 have hsm:=hd.sm
 cases d with
 | v qs =>
  obtain⟨rfl,hq⟩:=hd;exact⟨.inr ⟨rfl,rfl⟩,fun _=>rfl,fun _ _ _ _ k=>rfl,fun l c hc=>(by cases hc),fun e=>absurd e (by decide:¬(2:Int)=1),fun e=>absurd e (by decide:¬(2:Int)=1),fun l=>zk9 _ _,fun l hn hr=>(hsm l hn hr).2,fun l hn hr=>(hsm l hn hr).1⟩
 | c C ls =>
  obtain⟨hc,rfl,hlb⟩:=hd;refine⟨.inl ⟨rfl,by show (1:Int)≤(C:Int);omega,by show (C:Int)≤12;omega⟩,fun l=>by show ((zcB C (atI ls l)).length:Int)=(C:Int);rw[zaZ],fun r l m hp k=>zqG C (by have:=hp.map (fun r:Int=>ls.getD r.toNat 0);rwa [List.map_append]at this) k,fun l c hc=>?_,fun _ l hr=>?_,fun _ l=>rfl,fun l=>zjK _,fun l hn hr=>(hsm l hn hr).2,fun l hn hr=>(hsm l hn hr).1⟩
  ·obtain⟨k,_,rfl⟩:=List.mem_map.1 hc;omega
  ·show (zcB C (atI ls l)).sum=_;rw[zqH (fun z hz=>hlb z (zqz hr z hz)),zb4]
theorem GD.Ok.pgoal {H:Hp} {n:Nat} {d:GD} (hd:d.Ok n) (h0:1≤n) (h1:n≤300) {sl sv:Value} (hP:d.P H sl sv) {p:GP} (e0:p.X.length=n) (e1:p.cost=d.cost) (e2:p.mean=d.mean) (e3:p.cnt=d.cnt):∃S wo,zjx H d.kd d.cl sl sv p S wo:=by
 have hsm:=hd.sm
 cases d with
 | v qs =>
  obtain⟨rfl,hq⟩:=hd;obtain⟨la,lc,va,vc,rfl,rfl,hv⟩:=hP;have q100:∀q,q∈qs→ht q≤100:=fun q hq'=>qI (hq q hq') oM;have hcnt:=fun (G:Hp) (u:Value)=>zm0 (H:=G) (v:=u) (va:=va) (vc:=vc) (la:=la) (lc:=lc) h0 h1;refine⟨zku qs,woV qs,⟨by rw[e0];exact zu2 hv h0 h1 q100,by rw[e1];exact zu6 qs,?_,?_,?_,?_,?_,?_⟩⟩
  ·rw[e0,e3];exact fun G hG u l hl hn=>hcnt G u
  ·rw[e3];exact fun l=>Nat.zero_le _
  ·rw[e0,e3];exact fun G hG u l hl hn=>zmE (w:=u) ⟨_,_,_,_,rfl⟩ (hcnt G u) (by show ([]:List Int).length≤300;decide)
  ·rw[e0,e2];exact fun G hG u l hl hn=>zl9 hl hn (SlC.mono hv hG) h0 h1 q100
  ·rw[e0,e1];exact fun l hn hr=>(hsm l hn hr).2
  ·rw[e0,e1];exact fun G hG u l hl hn=>zqJ hl hn (SlC.mono hv hG) h0 h1 q100
 | c C ls =>
  obtain⟨hc,rfl,hlb⟩:=hd;obtain⟨la,lc,va,vc,rfl,rfl,hv⟩:=hP;have hcnt:=fun (G:Hp) (hG:H.Le G) (u:Value) (l:List Int) (hl:IL G u l) (hn:l.length≤300)=>zmZ (va:=va) (vc:=vc) hl hn (SlC.mono hv hG) (C:=C) hc h0 h1 hlb;refine⟨zkt ls,woL ls,⟨by rw[e0];exact zu1 ⟨by show (1:Int)≤(C:Int);omega,by show (C:Int)≤12;omega⟩ hv h0 h1 hlb,by rw[e1];exact zu5 (fun z hz=>⟨(hlb z hz).1,by have:=(hlb z hz).2;omega⟩),?_,?_,?_,?_,?_,?_⟩⟩
  ·rw[e0,e3];exact hcnt
  ·rw[e3];exact fun l=>by show (zcB C (atI ls l)).length≤12;rw[zaZ];omega
  ·rw[e0,e3];exact fun G hG u l hl hn=>zmE (w:=u) ⟨_,_,_,_,rfl⟩ (hcnt G hG u l hl hn) (by show (zcB C (atI ls (exL l ls.length))).length≤300;rw[zaZ];omega)
  ·rw[e0,e2];exact fun G hG u l hl hn=>zq4
  ·rw[e0,e1];exact fun l hn hr=>(hsm l hn hr).2
  ·rw[e0,e1];exact fun G hG u l hl hn=>zqI (va:=va) (vc:=vc) hl hn (SlC.mono hv hG) ⟨by show (1:Int)≤(C:Int);omega,by show (C:Int)≤12;omega⟩ h0 h1 hlb
theorem zng {H:Hp} {deep least:Int} {b1:Bool} {a1 a2:Option Addr} {l1 c1 l2 c2:Nat} {g:Rat} (hq:RQ H (.agg #[.bool b1,.slice a1 l1 c1,.slice a2 l2 c2]) g) (hg:rq g) :
  PC prog 42 #[zlx deep least (.bool b1) (.slice a1 l1 c1) (.slice a2 l2 c2)] H fun r _=>r=.agg (zr9 deep least g).toArray:=by
 refine BD func42 ntmps42 ?_;refine uR ?_;apply EV.drawn 8 kR kR;intro xv yw;(repeat refine' DD ?_);refine' vC (cO func62) (fun G hG hd=>zsL (RQ.mono hq hG) hg) ?_;rotate_left;(repeat refine' DD ?_);(refine DJ.nil (fun G hG hF=>?_);(case hS|hS2=>rfl));refine uR ?_;rfl
structure zsk (G:Hp) (v:Value) (kd cl w:Int) (ts:List Tr) (os:List (List Int)):Prop where
 val:∃a1 c1 a2 c2,v=za2 kd cl w (.slice a1 ts.length c1) (.slice a2 os.length c2)∧PTL G (.slice a1 ts.length c1) ts∧ILL G (.slice a2 os.length c2) os
def gdP (d:GD) (X:List (List Rat)) (least:Int) (W sm':Nat):GP:=ztJ X d.cost d.mean d.cnt least W sm'
theorem znv {H:Hp} {d:GD} {N W D sm' nt:Nat} {least seed:Int} {sl sv vx:Value} {X:List (List Rat)} (hd:d.Ok N) (hP:d.P H sl sv) (hX:QLL H vx X) (hXl:X.length=N) (hXw:∀x,x∈X→x.length=W∧∀q,q∈x→ht q≤5)
  (hN:1≤N∧N≤20) (hW:1≤W∧W≤20) (hD:D≤9) (hsm:1≤sm'∧sm'≤W) (hnt:1≤nt∧nt≤50) (hl:1≤least∧least≤300) (hs:0≤seed) :
  PC prog 9 #[zak d.kd d.cl sl sv,vx,.agg (zrX nt sm' seed (D:Int) least 0).toArray] H fun r G=>∃v,r=.tuple #[v,.int .i64 0]∧zsk G v d.kd d.cl (W:Int) ((gdP d X least W sm').wood D N d.kd d.cl (W:Int) nt seed).1 ((gdP d X least W sm').wood D N d.kd d.cl (W:Int) nt seed).2.1:=by
 subst hXl;obtain⟨xa,xc,rfl⟩:=hX.val;obtain⟨S,wo,hg⟩:=hd.pgoal (p:=gdP d X least W sm') hN.1 oM hP rfl rfl rfl rfl
 have hval:∃la ln lc va vn vc,sl=.slice la ln lc∧sv=.slice va vn vc:=by
  cases d with
  | v qs=>obtain⟨la,lc,va,vc,rfl,rfl,_⟩:=hP;exact⟨_,_,_,_,_,_,rfl,rfl⟩
  | c C ls=>obtain⟨la,lc,va,vc,rfl,rfl,_⟩:=hP;exact⟨_,_,_,_,_,_,rfl,rfl⟩
 obtain⟨la,ln,lc,va,vn,vc,rfl,rfl⟩:=hval;have h0:sm (0:Rat):=by show ht (0:Rat)≤_;rw[zbR];decide
 refine(zqW (p:=gdP d X least W sm') (D0:=D) (sm':=sm') (w:=W) (fun s=>rfl) hsm.1 hsm.2 hW.2 (by show 0<X.length;omega) hN.2 (fun x hx=>(hXw x hx).1) (fun x hx=>(hXw x hx).2) rfl hl h0 Rat.le_refl oM hg hX hnt.1 hnt.2 hs).mono ?_;rintro r G ⟨at',ct,ao,co,rfl,hT,hO⟩ hG;obtain⟨e1,e2,_⟩:=(gdP d X least W sm').wood_len D X.length d.kd d.cl (W:Int) nt seed;exact⟨_,rfl,at',ct,ao,co,by rw[e1,e2],by rw[e1];exact hT,by rw[e2];exact hO⟩
theorem GD.Ok.rgoal {H:Hp} {n:Nat} {d:GD} (hd:d.Ok n) (h0:1≤n) (h1:n≤300) {v:Value} (hR:d.R H v):(∃ga gn gc va vn vc,v=zak d.kd d.cl (.slice ga gn gc) (.slice va vn vc))∧zjy H v d.kd n d.cost d.mean d.cnt:=by
 have hsm:=hd.sm
 cases d with
 | v qs =>
  obtain⟨rfl,hq⟩:=hd;obtain⟨s,rfl,hs⟩:=hR;obtain⟨sa,sc,rfl⟩:=hs.val;have q50:∀q,q∈qs→ht q≤50:=fun q hq'=>qI (hq q hq') oM;refine⟨⟨_,_,_,_,_,_,rfl⟩,⟨?_,?_,?_,?_,?_,?_,?_,?_,?_,?_⟩⟩
  ·exact fun e=>absurd e (by decide:¬(2:Int)=1)
  ·exact fun _ l=>rfl
  ·exact fun e=>absurd e (by decide:¬(2:Int)=1)
  ·exact fun l=>Nat.zero_le _
  ·exact fun G hG u l hl hn=>zg4 hl hn (hs.mono hG) q50
  ·exact fun l hn hr=>by have:=(hsm l hn hr).1;omega
  ·exact fun G hG u l hl hn=>zlv hl hn (hs.mono hG) hq
  ·exact fun l hn hr=>(hsm l hn hr).2
  ·exact fun G hG=>zia h0 h1
  ·exact zmp
 | c C ls =>
  obtain⟨hc,rfl,hlb⟩:=hd;obtain⟨s,rfl,hs⟩:=hR;obtain⟨sa,sc,rfl⟩:=SlC.val hs;refine⟨⟨_,_,_,_,_,_,rfl⟩,⟨?_,?_,?_,?_,?_,?_,?_,?_,?_,?_⟩⟩
  ·exact fun _ G hG u l hl hn=>zfL hl hn (SlC.mono hs hG) oM hlb
  ·exact fun e=>absurd rfl e
  ·exact fun _ l=>rfl
  ·exact fun l=>by show (zcB C (atI ls l)).length≤12;rw[zaZ];omega
  ·intro G hG u l hl hn;have:=zg4 (kd:=1) (cl:=(C:Int)) (sl:=.slice sa ls.length sc) hl hn (RL.nil G none 0) (by intro q hq;cases hq);rw[show atR [] (exL l ([]:List Rat).length)=[] by rw[show exL l ([]:List Rat).length=[] from List.filter_eq_nil_iff.2 fun r _=>by unfold inR;simp];rfl,zeP]at this;exact this
  ·exact fun l hn hr=>by have:=(hsm l hn hr).1;omega
  ·exact fun G hG u l hl hn=>zlu hl hn (SlC.mono hs hG) oM oM hlb
  ·exact fun l hn hr=>(hsm l hn hr).2
  ·exact fun G hG=>zh9 (SlC.mono hs hG) ⟨by show (1:Int)≤(C:Int);omega,by show (C:Int)≤12;omega⟩ h0 h1 hlb
  ·exact zmo (sv:=.bool true)
theorem znQ {H:Hp} {d:GD} {N W D sm' nt:Nat} {least seed:Int} {vg vx:Value} {X:List (List Rat)} {b1:Bool} {a1 a2:Option Addr} {l1 c1 l2 c2:Nat} (hd:d.Ok N) (hR:d.R H vg) (hX:RLL H vx X) (hq:RQ H (.agg #[.bool b1,.slice a1 l1 c1,.slice a2 l2 c2]) 0) (hXl:X.length=N) (hXw:∀x,x∈X→x.length=W∧∀q,q∈x→ht q≤5)
  (hN:1≤N∧N≤300) (hW:1≤W∧W≤20) (hD:D≤9) (hsm:1≤sm'∧sm'≤W) (hnt:1≤nt∧nt≤50) (hl:1≤least∧least≤300) (hs:0≤seed) :
  PC prog 13 #[vg,vx,ztK nt sm' seed (D:Int) least (.bool b1) (.slice a1 l1 c1) (.slice a2 l2 c2)] H fun r G=>∃at' ct ao co,r=.tuple #[za2 d.kd d.cl (W:Int) (.slice at' nt ct) (.slice ao nt co),.int .i64 0]∧RTL G (.slice at' nt ct) ((gdP d X least W sm').wood D N d.kd d.cl (W:Int) nt seed).1∧ILL G (.slice ao nt co) ((gdP d X least W sm').wood D N d.kd d.cl (W:Int) nt seed).2.1:=by
 subst hXl;obtain⟨⟨ga,gn,gc,va,vn,vc,rfl⟩,hg⟩:=hd.rgoal hN.1 hN.2 hR;obtain⟨xa,xc,rfl⟩:=hX.val;have h0:ht (0:Rat)≤100000000:=by rw[zbR];decide
 exact ziL (p:=gdP d X least W sm') (D:=D) (sm:=sm') (w:=W) (fun s=>rfl) hsm.1 hsm.2 hW.2 (by show 0<X.length;omega) hN.2 (fun x hx=>(hXw x hx).1) (fun x hx=>(hXw x hx).2) rfl hl h0 Rat.le_refl oM hg hX hq hnt.1 hnt.2 hs
abbrev noF:Value:=.tuple #[za2 0 0 0 (.slice none 0 0) (.slice none 0 0),.int .i64 5]
abbrev noA:Value:=.tuple #[za2 0 0 0 (.slice none 0 0) (.slice none 0 0),.int .i64 1]
abbrev ztI (nt sm' seed deep least:Int) (g1 g2 g3:Value):Value:=.agg #[.int .i64 nt,.int .i64 sm',.int .u64 seed,.int .i64 deep,.int .i64 least,g1,g2,g3]
abbrev zoI (nt sm' seed deep least:Int) (g:Rat):List Value:=.int .i64 nt::.int .i64 sm'::.int .u64 seed::zr9 deep least g
theorem zly {H:Hp} {nt sm' seed deep least:Int} {b1:Bool} {a1 a2:Option Addr} {l1 c1 l2 c2:Nat} {g:Rat} (hq:RQ H (.agg #[.bool b1,.slice a1 l1 c1,.slice a2 l2 c2]) g) (hg:rq g) :
  PC prog 12 #[ztI nt sm' seed deep least (.bool b1) (.slice a1 l1 c1) (.slice a2 l2 c2)] H fun r _=>r=.agg (zoI nt sm' seed deep least g).toArray:=by
 refine BD func12 ntmps12 ?_;refine uR ?_;apply EV.drawn 10 kR kR;intro xv yw;(repeat refine' DD ?_);refine' vC (cO func42) (fun G hG hd=>zng (RQ.mono hq hG) hg) ?_;rotate_left;(repeat refine' DD ?_);(refine DJ.nil (fun G hG hF=>?_);(case hS|hS2=>rfl));refine uR ?_;rfl
theorem zqa {H:Hp} {v:Value} (h:QLL H v []):PC prog 34 #[v] H fun r _=>r=.bool false:=by
 obtain⟨a,c,rfl⟩:=h.val;refine BD func34 ntmps34 ?_;refine uR ?_;rfl
theorem zoJ {H:Hp} {kd cl:Int} {sl sv vx:Value} {cs:List Value} {X:List (List Rat)} {w:Nat} {N:Int} (hlen:PV prog 35 #[zak kd cl sl sv] (.int .i64 N)) (hX:QLL H vx X) (h2:X.length≤300) (hw:1≤w∧w≤20) (hx:∀x,x∈X→x.length=w) (hne:(X.length:Int)≠N) (hr:cs.length=10) :
  PC prog 9 #[zak kd cl sl sv,vx,.agg cs.toArray] H fun r _=>r=noF:=by
 obtain⟨a,c,rfl⟩:=hX.val;obtain⟨c0,c1,c2,c3,c4,c5,c6,c7,c8,c9,rfl⟩:=zsg hr;by_cases h0:X.length=0
 ·obtain rfl:=List.length_eq_zero_iff.1 h0;have hv:=zqa hX;refine BD func9 ntmps9 ?_;refine uR ?_;refine vA (hv) ?_;rintro _ G rfl hG;refine uR ?_;rfl
 ·have hv:=zjn hX oM h2 hw hx;refine BD func9 ntmps9 ?_;refine uR ?_;refine vA (hv) ?_;rintro _ G rfl hG
  repeat (first|refine RUN ?_|refine CV (hlen) ?_|refine CE (hlen) ?_)
  rw[show ((X.length:Int) != N)=true from bne_iff_ne.2 hne];refine uR ?_;rfl
theorem znU {H:Hp} {v:Value} (h:RLL H v []):PC prog 93 #[v] H fun r _=>r=.bool false:=by
 obtain⟨a,c,rfl⟩:=h.val;refine BD func93 ntmps93 ?_;refine uR ?_;refine EV.loopK (ι:=Nat) [0] [] (fun q=>[(3,.v (.int .i64 (q:Int)))]) (fun _=>[]) (fun _=>[]) (fun q _=>q=0) (fun q=>0) (0) rfl rfl ⟨rfl,trivial⟩ trivial rfl (fun _=>rfl) (rfl) ?_;rintro i G1 hG1 rfl;refine uR ?_;rfl
theorem znS {H:Hp} {v:Value} (h:RLL H v []):PC prog 43 #[v] H fun r _=>r=.bool false:=by
 have hr:=znU h;obtain⟨a,c,rfl⟩:=h.val;refine BD func43 ntmps43 ?_
 repeat (first|refine RUN ?_|refine CV (hr) ?_|refine CE (hr) ?_)
 rfl
theorem zqV {α:Type}:∀{l:List α},l.length=8→∃a b c d e f g h,l=[a,b,c,d,e,f,g,h]
 | [a,b,c,d,e,f,g,h],_=>⟨a,b,c,d,e,f,g,h,rfl⟩
theorem zpK {H:Hp} {kd cl:Int} {la va:Option Addr} {ln lc vn vc:Nat} {vx:Value} {cs:List Value} {X:List (List Rat)} {w:Nat} {N:Int} (hlen:PV prog 44 #[zak kd cl (.slice la ln lc) (.slice va vn vc)] (.int .i64 N)) (hX:RLL H vx X) (h2:X.length≤300) (hw:1≤w∧w≤20) (hx:∀x,x∈X→x.length=w) (hne:(X.length:Int)≠N) (hr:cs.length=8) :
  PC prog 13 #[zak kd cl (.slice la ln lc) (.slice va vn vc),vx,.agg cs.toArray] H fun r _=>r=noF:=by
 obtain⟨c0,c1,c2,c3,c4,c5,c6,c7,rfl⟩:=zqV hr;by_cases h0:X.length=0
 ·obtain rfl:=List.length_eq_zero_iff.1 h0;have hv:=znS hX;obtain⟨a,c,rfl⟩:=hX.val;refine BD func13 ntmps13 ?_
  repeat (first|refine RUN ?_|refine CV (hv) ?_|refine CE (hv) ?_)
  rfl
 ·have hv:=zf2 hX hx hw.1 hw.2 oM h2;obtain⟨a,c,rfl⟩:=hX.val;refine BD func13 ntmps13 ?_
  repeat (first|refine RUN ?_|refine CV (hv) ?_|refine CV (hlen) ?_|refine CE (hv) ?_|refine CE (hlen) ?_)
  rw[show (N != (X.length:Int))=true from bne_iff_ne.2 (fun e=>hne e.symm)];refine uR ?_;rfl
theorem zrH {H:Hp} {deep least:Int} {g:Rat} (hd:0≤deep∧deep≤10) (hl:least<1∨300<least):PC prog 37 #[.agg (zr9 deep least g).toArray] H fun r _=>r=.bool false:=by
 refine BD func37 ntmps37 ?_;refine uR ?_;rw[qD (show deep≥0 by omega)];refine uR ?_;rw[qD (show deep≤10 by omega)];refine uR ?_;by_cases h1:least<1
 ·rw[qC (show ¬least≥1 by omega)];refine uR ?_;rfl
 ·rw[qD (show least≥1 by omega)];refine uR ?_;rw[qC (show ¬least≤300 by omega)];refine uR ?_;rfl
theorem zrt {H:Hp} {deep least:Int} {g1 g2 g3:Value} (hg:∃b1 a1 l1 c1 a2 l2 c2,g1=.bool b1∧g2=.slice a1 l1 c1∧g3=.slice a2 l2 c2) (hd:0≤deep∧deep≤10) (hl:least<1∨300<least):PC prog 46 #[zlx deep least g1 g2 g3] H fun r _=>r=.bool false:=by
 obtain⟨b1,a1,l1,c1,a2,l2,c2,rfl,rfl,rfl⟩:=hg;refine BD func46 ntmps46 ?_;refine uR ?_;rw[qD (show deep≥0 by omega)];refine uR ?_;rw[qD (show deep≤10 by omega)];refine uR ?_;by_cases h1:least<1
 ·rw[qC (show ¬least≥1 by omega)];refine uR ?_;rfl
 ·rw[qD (show least≥1 by omega)];refine uR ?_;rw[qC (show ¬least≤300 by omega)];refine uR ?_;rfl
theorem zsE {H:Hp} {kd cl nt sm' seed deep least ck:Int} {g:Rat} {sl sv vx:Value} {X:List (List Rat)} {w:Nat} (hck:∀G,H.Le G→PC prog 36 #[zak kd cl sl sv] G fun r _=>r=.int .i64 ck) (hlen:PV prog 35 #[zak kd cl sl sv] (.int .i64 (X.length:Int))) (hX:QLL H vx X) (h1:1≤X.length) (h2:X.length≤300) (hw:1≤w∧w≤20) (hx:∀x,x∈X→x.length=w) (hd:0≤deep∧deep≤10)
  (hb:ck≠0∨nt<1∨50<nt∨sm'<1∨(w:Int)<sm'∨least<1∨300<least) :
  PC prog 9 #[zak kd cl sl sv,vx,.agg (zoI nt sm' seed deep least g).toArray] H fun r _=>r=noA:=by
 have hv:=zjn hX h1 h2 hw hx;obtain⟨vs,hvs,hvx⟩:=id hX;obtain⟨x0,hxx0⟩:=gE h1;obtain⟨u0,e0,hu0,_⟩:=hvs.at hxx0;rw[hx x0 (qF hxx0)]at hu0;obtain⟨xa,xc,rfl⟩:=hX.val;refine BD func9 ntmps9 ?_;refine uR ?_;refine vA (hv) ?_;rintro _ G0 rfl hG0
 repeat (first|refine RUN ?_|refine CV (hlen) ?_|refine CE (hlen) ?_)
 rw[show ((X.length:Int) != (X.length:Int))=false from bne_self_eq_false _];refine uR ?_;refine vI ((hvx.mono hG0)) (0) (rfl) (h1) (hu0) ?_;refine uR ?_;refine vA (hck G0 hG0) ?_;rintro _ G1 rfl hG1;by_cases k0:ck≠0
 ·try refine uR ?_
  rw[show (ck != 0)=true from bne_iff_ne.2 k0];refine uR ?_;rfl
 obtain rfl:ck=0:=Decidable.not_not.1 k0;refine uR ?_;by_cases k1:nt<1
 ·rw[qD (show nt<1 from k1)];refine uR ?_;rfl
 rw[qC (show ¬nt<1 from k1)];refine uR ?_;by_cases k2:50<nt
 ·rw[qD (show nt>50 from k2)];refine uR ?_;rfl
 rw[qC (show ¬nt>50 from k2)];refine uR ?_;by_cases k3:sm'<1
 ·rw[qD (show sm'<1 from k3)];refine uR ?_;rfl
 rw[qC (show ¬sm'<1 from k3)];refine uR ?_;by_cases k4:(w:Int)<sm'
 ·rw[qD (show sm'>(w:Int) from k4)];refine uR ?_;rfl
 rw[qC (show ¬sm'>(w:Int) from k4)];refine uR ?_;refine EVL.call rfl rfl rfl rfl rfl (zrH hd oM) ?_;rintro _ G2 rfl hG2;refine uR ?_;rfl
set_option maxRecDepth 100000 in
theorem ztg {H:Hp} {kd cl nt sm' seed deep least ck:Int} {la va xa:Option Addr} {ln lc vn vc xc:Nat} {g1 g2 g3:Value} {X:List (List Rat)} {w:Nat} (hg:∃b1 a1 l1 c1 a2 l2 c2,g1=.bool b1∧g2=.slice a1 l1 c1∧g3=.slice a2 l2 c2) (hck:∀G,H.Le G→PC prog 45 #[zak kd cl (.slice la ln lc) (.slice va vn vc)] G fun r _=>r=.int .i64 ck) (hlen:PV prog 44 #[zak kd cl (.slice la ln lc) (.slice va vn vc)] (.int .i64 (X.length:Int))) (hX:RLL H (.slice xa X.length xc) X) (h1:1≤X.length) (h2:X.length≤300) (hw:1≤w∧w≤20) (hx:∀x,x∈X→x.length=w) (hd:0≤deep∧deep≤10)
  (hb:ck≠0∨nt<1∨50<nt∨sm'<1∨(w:Int)<sm'∨least<1∨300<least) :
  PC prog 13 #[zak kd cl (.slice la ln lc) (.slice va vn vc),.slice xa X.length xc,ztI nt sm' seed deep least g1 g2 g3] H fun r _=>r=noA:=by
 have hv:=zf2 hX hx hw.1 hw.2 oM h2;have hfn:=fun (G:Hp) (h:least<1∨300<least)=>zrt (H:=G) hg hd h;obtain⟨b1,a1,l1,c1,a2,l2,c2,rfl,rfl,rfl⟩:=hg;obtain⟨vs,hvs,hvx⟩:=id hX;obtain⟨x0,hxx0⟩:=gE h1;obtain⟨u0,e0,hu0,_⟩:=hvs.at hxx0;rw[hx x0 (qF hxx0)]at hu0;refine BD func13 ntmps13 ?_
 repeat (first|refine RUN ?_|refine CV (hv) ?_|refine CV (hlen) ?_|refine CE (hv) ?_|refine CE (hlen) ?_)
 rw[show ((X.length:Int) != (X.length:Int))=false from bne_self_eq_false _];refine uR ?_;by_cases k0:ck≠0
 ·have k0':(ck != 0)=true:=bne_iff_ne.2 k0;apply EV.drawn 33 kR kR;intro xv yw;(repeat refine' DD ?_);refine' vC (cO func45) (fun G hG hd=>hck G hG) ?_;rotate_left;(repeat refine' DD ?_);rw[k0'];(repeat refine' DD ?_);(refine DJ.nil (fun G hG hF=>?_);(case hS|hS2=>rfl));refine uR ?_;rfl
 obtain rfl:ck=0:=Decidable.not_not.1 k0;by_cases k1:nt<1
 ·apply EV.drawn 33 kR kR;intro xv yw;(repeat refine' DD ?_);refine' vC (cO func45) (fun G hG hd=>hck G hG) ?_;rotate_left;(repeat refine' DD ?_);rw[qD (show nt<1 from k1)];(repeat refine' DD ?_);(refine DJ.nil (fun G hG hF=>?_);(case hS|hS2=>rfl));refine uR ?_;rfl
 by_cases k2:50<nt
 ·apply EV.drawn 33 kR kR;intro xv yw;(repeat refine' DD ?_);refine' vC (cO func45) (fun G hG hd=>hck G hG) ?_;rotate_left;(repeat refine' DD ?_);rw[qC (show ¬nt<1 from k1)];(repeat refine' DD ?_);rw[qD (show nt>50 from k2)];(repeat refine' DD ?_);(refine DJ.nil (fun G hG hF=>?_);(case hS|hS2=>rfl));refine uR ?_;rfl
 by_cases k3:sm'<1
 ·apply EV.drawn 33 kR kR;intro xv yw;(repeat refine' DD ?_);refine' vC (cO func45) (fun G hG hd=>hck G hG) ?_;rotate_left;(repeat refine' DD ?_);rw[qC (show ¬nt<1 from k1)];(repeat refine' DD ?_);rw[qC (show ¬nt>50 from k2)];(repeat refine' DD ?_);rw[qD (show sm'<1 from k3)];(repeat refine' DD ?_);(refine DJ.nil (fun G hG hF=>?_);(case hS|hS2=>rfl));refine uR ?_;rfl
 by_cases k4:(w:Int)<sm'
 ·apply EV.drawn 33 kR kR;intro xv yw;(repeat refine' DD ?_);refine' vC (cO func45) (fun G hG hd=>hck G hG) ?_;rotate_left;(repeat refine' DD ?_);rw[qC (show ¬nt<1 from k1)];(repeat refine' DD ?_);rw[qC (show ¬nt>50 from k2)];(repeat refine' DD ?_);rw[qC (show ¬sm'<1 from k3)];(repeat refine' DD ?_);refine' vJ (hvx) (0) (rfl) (h1) (hu0) ?_;rotate_left;(repeat refine' DD ?_);rw[qD (show sm'>(w:Int) from k4)];(repeat refine' DD ?_);(refine DJ.nil (fun G hG hF=>?_);(case hS|hS2=>rfl));refine uR ?_;rfl
 apply EV.drawn 33 kR kR;intro xv yw;(repeat refine' DD ?_);refine' vC (cO func45) (fun G hG hd=>hck G hG) ?_;rotate_left;(repeat refine' DD ?_);rw[qC (show ¬nt<1 from k1)];(repeat refine' DD ?_);rw[qC (show ¬nt>50 from k2)];(repeat refine' DD ?_);rw[qC (show ¬sm'<1 from k3)];(repeat refine' DD ?_);refine' vJ (hvx) (0) (rfl) (h1) (hu0) ?_;rotate_left;(repeat refine' DD ?_);rw[qC (show ¬sm'>(w:Int) from k4)];(repeat refine' DD ?_);refine' vC (cO func46) (fun G hG hd=>hfn G oM) ?_;rotate_left;(repeat refine' DD ?_);(refine DJ.nil (fun G hG hF=>?_);(case hS|hS2=>rfl));refine uR ?_;rfl
theorem zbX.oneB {H:Hp} {cs:List Value} {n:Nd} (h:zbX H cs n):Go.Proofs.YtplhljjljnkhpaaGreatDoor.oneB cs=true:=by
 obtain⟨b1,a1,l1,c1,a2,l2,c2,b3,a3,l3,c3,a4,l4,c4,b5,a5,l5,c5,a6,l6,c6,a7,c7,rfl,_⟩:=h.cells;rfl
set_option maxRecDepth 100000 in
theorem zns {H:Hp} {cs:List Value} {kd cl w:Int} {ns:List Nd} (h:zez H cs kd cl w ns) (hs:∀n,n∈ns→zgi n) (hl:ns.length≤1000000) :
  PC prog 103 #[.agg cs.toArray] H fun r H'=>∃cs',r=.agg cs'.toArray∧ziv H' cs' kd cl w ns:=by
 obtain⟨a,c,css,rfl,hns,hsl⟩:=h;refine BD func103 ntmps103 ?_;refine uR ?_;refine EV.loopK (ι:=Nat × Value × List (List Value) × Ows) [1,2,3] [1,2] (fun q=>[(4,.v (.int .i64 (q.1:Int)))]) (fun q=>[(3,127,[.int .i64 kd,.int .i64 cl,.int .i64 w,q.2.1])]) (fun q=>q.2.2.2) (fun q G=>q.1≤ns.length∧zcd G q.2.2.1 (ns.take q.1)∧zaK 180 15 q.2.1 q.1 q.2.2.1.flatten q.2.2.2) (fun q=>ns.length-q.1) ((0,.slice none 0 0,[],[])) rfl rfl ⟨rfl,trivial⟩ ⟨rfl,trivial⟩ rfl (fun _=>rfl) (⟨Nat.zero_le _,⟨rfl,fun j c n e1 e2=>by cases e1⟩,zaK.nil _ _⟩) ?_;rintro⟨i,u,ps,ow⟩ G1 hG1 ⟨hi,hps,hown⟩;dsimp only at hi hps hown;obtain⟨wa,wc,rfl⟩:=hown.val;refine uR ?_;refine EV.cond rfl (fun hlt=>?_) (fun hlt=>?_)
 ·simp only[nN]at hlt;obtain⟨n,hni⟩:=gE hlt;obtain⟨q1,q2,q3,q4⟩:=hs n (qF hni);obtain⟨cc,hcut,hnd⟩:=(hns.mono hG1).get hni;obtain⟨a7,c7,k4,rfl⟩:=hnd;refine uR ?_;refine EVL.idxM tO rfl rfl rfl rfl rfl rfl rfl rfl rfl ((hsl.mono hG1)) (i) (rfl) (hlt) (hcut) ?_;refine uR ?_;by_cases e:n.counts.length=0
  ·have hc0:n.counts=[]:=List.length_eq_zero_iff.1 e;rw[e];apply EV.drawn 27 kR kR;intro xv yw;(repeat refine' DD ?_);refine' vB (cO func133) (fun G hG hd=>zgV n.at' q1) (fun _ _ _ h k=>RQ.mono h k) ?_;rotate_left;(repeat refine' DD ?_);refine' vB (cO func133) (fun G hG hd=>zgV n.cost q2) (fun _ _ _ h k=>RQ.mono h k) ?_;rotate_left;(repeat refine' DD ?_);refine' vB (cO func133) (fun G hG hd=>zgV n.value q3) (fun _ _ _ h k=>RQ.mono h k) ?_;rotate_left;(repeat refine' DD ?_);(refine' DJ.lit0 tO rfl rfl rfl rfl rfl rfl rfl ?_;rotate_left);(repeat refine' DD ?_);refine' DJ.append0E (u0:=xv 21) tO rfl rfl rfl rfl rfl rfl rfl rfl rfl (a7) (c7) rfl (fun G hd=>hd.head kR) ?_;rotate_left
   (refine' DJ.plainE tO (fun v G=>∃cs,v=.agg cs.toArray∧zbX G cs n) (fun v G G' ⟨cs,e,h⟩ k=>⟨cs,e,h.mono k⟩) rfl rfl rfl (fun G hd=>(by
    have r1:RQ G (xv 14) n.at':=hd.tail.tail.tail.tail.head kR;have r2:RQ G (xv 17) n.cost:=hd.tail.tail.tail.head kR;have r3:RQ G (xv 20) n.value:=hd.tail.tail.head kR;obtain⟨u1,u2,u3,u4,u5,u6,e1,_⟩:=id r1;obtain⟨w1,w2,w3,w4,w5,w6,e2,_⟩:=id r2;obtain⟨z1,z2,z3,z4,z5,z6,e3,_⟩:=id r3;obtain⟨g8,e8⟩:∃g,xv 24=.slice (some ⟨g,0,none⟩) 0 0:=hd.head kR;have hA:IL G (.slice (some ⟨g8,0,none⟩) 0 0) n.counts:=by rw[hc0];exact IL.nil _ _ _
    rw[e1]at r1;rw[e2]at r2;rw[e3]at r3;rw[e1,e2,e3,e8];exact⟨_,rfl,_,rfl,_,_,_,_,r1,r2,r3,hA,rfl⟩)) ?_;rotate_left)
   (refine' DJ.litD1 (Φ:=fun v G=>∃cs,SlC G v 1 15 cs∧zbX G cs n) (fun v G G' ⟨cs,e,h⟩ k=>⟨cs,e.mono k,h.mono k⟩) tO rfl rfl rfl rfl rfl rfl rfl rfl rfl rfl rfl (fun G hd=>by obtain⟨cs,e,h⟩:=hd.head kR;rw[e];exact h.len) (fun G G' v hd hG h=>(by
    obtain⟨cs,e,hp⟩:=hd.head kR;rw[e,zt7]at h;exact⟨cs,h,hp.mono hG⟩)) ?_;rotate_left)
   (refine DJ.nil (fun G2 hG2 hF2=>?_);(case hS|hS2=>rfl));obtain⟨cs2,hs2,hp2⟩:=hF2.1;refine EVL.append tO rfl rfl rfl rfl rfl rfl rfl rfl rfl rfl rfl rfl [] ow [] (qG _).symm hown (zdp.ro hs2 (Nat.succ_pos 0)) (zbX.oneB hp2) oM ?_;intro v1 ow1 hown1;obtain⟨va,vc,rfl⟩:=hown1.val;refine uR ?_;refine⟨(i+1,.slice va (i+1) vc,ps++[cs2],ow1),⟨by dsimp only;rw[zab i (by omega)];rfl,trivial⟩,sB,⟨rfl,trivial⟩,sB,qG _,⟨hlt,by dsimp only;rw[zah hni];exact zbk (hps.mono hG2) hp2,by dsimp only;rw[List.flatten_append,zlh];exact hown1⟩,hG2,by dsimp only;omega⟩
  ·have hls:SlC G1 (.slice a7 n.counts.length c7) n.counts.length 1 (n.counts.map iv):=k4;apply EV.drawn 27 kR kR;intro xv yw;(repeat refine' DD ?_);refine' vB (cO func133) (fun G hG hd=>zgV n.at' q1) (fun _ _ _ h k=>RQ.mono h k) ?_;rotate_left;(repeat refine' DD ?_);refine' vB (cO func133) (fun G hG hd=>zgV n.cost q2) (fun _ _ _ h k=>RQ.mono h k) ?_;rotate_left;(repeat refine' DD ?_);refine' vB (cO func133) (fun G hG hd=>zgV n.value q3) (fun _ _ _ h k=>RQ.mono h k) ?_;rotate_left;(repeat refine' DD ?_);(refine' DJ.lit0 tO rfl rfl rfl rfl rfl rfl rfl ?_;rotate_left);(repeat refine' DD ?_);refine' DJ.appendE (u0:=xv 21) tO rfl rfl rfl rfl rfl rfl rfl rfl rfl rfl (fun G hd=>hd.head kR) (hls) (Nat.pos_of_ne_zero e) oM ?_;rotate_left
   (refine' DJ.plainE tO (fun v G=>∃cs,v=.agg cs.toArray∧zbX G cs n) (fun v G G' ⟨cs,e,h⟩ k=>⟨cs,e,h.mono k⟩) rfl rfl rfl (fun G hd=>(by
    have r1:RQ G (xv 14) n.at':=hd.tail.tail.tail.tail.head kR;have r2:RQ G (xv 17) n.cost:=hd.tail.tail.tail.head kR;have r3:RQ G (xv 20) n.value:=hd.tail.tail.head kR;obtain⟨u1,u2,u3,u4,u5,u6,e1,_⟩:=id r1;obtain⟨w1,w2,w3,w4,w5,w6,e2,_⟩:=id r2;obtain⟨z1,z2,z3,z4,z5,z6,e3,_⟩:=id r3;have hA:SlC G (xv 24) n.counts.length 1 (n.counts.map iv):=hd.head kR;obtain⟨a8,c8,e8⟩:=SlC.val hA;rw[e8]at hA;rw[e1]at r1;rw[e2]at r2;rw[e3]at r3;rw[e1,e2,e3,e8];exact⟨_,rfl,_,rfl,_,_,_,_,r1,r2,r3,hA,rfl⟩)) ?_;rotate_left)
   (refine' DJ.litD1 (Φ:=fun v G=>∃cs,SlC G v 1 15 cs∧zbX G cs n) (fun v G G' ⟨cs,e,h⟩ k=>⟨cs,e.mono k,h.mono k⟩) tO rfl rfl rfl rfl rfl rfl rfl rfl rfl rfl rfl (fun G hd=>by obtain⟨cs,e,h⟩:=hd.head kR;rw[e];exact h.len) (fun G G' v hd hG h=>(by
    obtain⟨cs,e,hp⟩:=hd.head kR;rw[e,zt7]at h;exact⟨cs,h,hp.mono hG⟩)) ?_;rotate_left)
   (refine DJ.nil (fun G2 hG2 hF2=>?_);(case hS|hS2=>rfl));obtain⟨cs2,hs2,hp2⟩:=hF2.1;refine EVL.append tO rfl rfl rfl rfl rfl rfl rfl rfl rfl rfl rfl rfl [] ow [] (qG _).symm hown (zdp.ro hs2 (Nat.succ_pos 0)) (zbX.oneB hp2) oM ?_;intro v1 ow1 hown1;obtain⟨va,vc,rfl⟩:=hown1.val;refine uR ?_;refine⟨(i+1,.slice va (i+1) vc,ps++[cs2],ow1),⟨by dsimp only;rw[zab i (by omega)];rfl,trivial⟩,sB,⟨rfl,trivial⟩,sB,qG _,⟨hlt,by dsimp only;rw[zah hni];exact zbk (hps.mono hG2) hp2,by dsimp only;rw[List.flatten_append,zlh];exact hown1⟩,hG2,by dsimp only;omega⟩
 ·simp only[nN]at hlt;obtain rfl:i=ns.length:=by omega
  rw[List.take_length]at hps;(first|refine EVL.publishL [] ow [] ((qG _).symm) hown fun G2 hG2 hs2=>?_|refine EV.publishL [] ow [] ((qG _).symm) hown fun G2 hG2 hs2=>?_);refine uR ?_;exact⟨_,rfl,_,_,_,rfl,hps.mono hG2,hs2⟩
theorem zlr {H:Hp} {v:Value} {ts:List Tr} (h:PTL H v ts) (hs:∀t,t∈ts→t.ns.length≤1000000∧∀n,n∈t.ns→zgi n) (hl:ts.length≤1000000):PC prog 52 #[v] H fun r H'=>RTL H' r ts:=by
 obtain⟨tcs,hts,hsl⟩:=h;obtain⟨a,c,rfl⟩:=SlC.val hsl;refine BD func52 ntmps52 ?_;refine uR ?_;refine EV.loopK (ι:=Nat × Value × List (List Value) × Ows) [0] [] (fun q=>[(3,.v q.2.1),(4,.v (.int .i64 (q.1:Int)))]) (fun _=>[]) (fun q=>q.2.2.2) (fun q G=>q.1≤ts.length∧RTs G q.2.2.1 (ts.take q.1)∧zaK 127 4 q.2.1 q.1 q.2.2.1.flatten q.2.2.2) (fun q=>ts.length-q.1) ((0,.slice none 0 0,[],[])) rfl rfl ⟨rfl,rfl,trivial⟩ trivial rfl (fun _=>rfl) (⟨Nat.zero_le _,⟨rfl,fun j c n e1 e2=>by cases e1⟩,zaK.nil _ _⟩) ?_;rintro⟨i,u,ps,ow⟩ G1 hG1 ⟨hi,hps,hown⟩;dsimp only at hi hps hown;obtain⟨wa,wc,rfl⟩:=hown.val;refine uR ?_;refine EV.cond rfl (fun hlt=>?_) (fun hlt=>?_)
 ·simp only[nN]at hlt;obtain⟨t,hti⟩:=gE hlt;obtain⟨k1,k2⟩:=hs t (qF hti);obtain⟨cc,hcut,htr⟩:=(PTs.mono hts hG1).get hti;obtain⟨a3,c3,css,rfl,_,_⟩:=id htr;refine uR ?_;refine EVL.idxM tO rfl rfl rfl rfl rfl rfl rfl rfl rfl ((hsl.mono hG1)) (i) (rfl) (hlt) (hcut) ?_;refine uR ?_;refine vA (zns htr k2 k1) ?_;rintro _ G2 ⟨cs2,rfl,hp2⟩ hG2;obtain⟨a4,c4,css4,rfl,_,_⟩:=id hp2;refine uR ?_;refine EVL.app1 tO rfl rfl rfl rfl rfl rfl rfl rfl rfl rfl rfl rfl rfl rfl rfl rfl rfl rfl rfl (fun _=>rfl) (ow) ([]) ((qG _).symm) (hown) oM fun _=>?_;intro v' ow' hown';refine uR ?_;refine⟨(i+1,v',ps++[_],ow'),⟨rfl,by dsimp only;rw[zab i (by omega)];rfl,trivial⟩,sB,trivial,trivial,qG _,⟨hlt,by dsimp only;rw[zah hti];exact zbk (RTs.mono hps hG2) hp2,by dsimp only;rw[List.flatten_append,zlh];exact hown'⟩,hG2,by dsimp only;omega⟩
 ·simp only[nN]at hlt;obtain rfl:i=ts.length:=by omega
  rw[List.take_length]at hps;(first|refine EVL.publishL [] ow [] ((qG _).symm) hown fun G2 hG2 hs2=>?_|refine EV.publishL [] ow [] ((qG _).symm) hown fun G2 hG2 hs2=>?_);refine uR ?_;exact⟨ps,RTs.mono hps hG2,hs2⟩
set_option maxRecDepth 100000 in
theorem zj9 {H:Hp} {kd cl w:Int} {vt vo:Value} {ts:List Tr} {os:List (List Int)} (ht:PTL H vt ts) (ho:ILL H vo os) (hs:zlO ts os):PC prog 15 #[za2 kd cl w vt vo] H fun r H'=>∃a1 c1 a2 c2,r=za2 kd cl w (.slice a1 ts.length c1) (.slice a2 os.length c2)∧RTL H' (.slice a1 ts.length c1) ts∧ILL H' (.slice a2 os.length c2) os:=by
 obtain⟨a,c,rfl⟩:∃a c,vt=.slice a ts.length c:=by
  obtain⟨_,_,h⟩:=ht;exact SlC.val h
 obtain⟨a',c',rfl⟩:∃a c,vo=.slice a os.length c:=by
  obtain⟨_,_,h⟩:=ho;exact SlC.val h
 refine BD func15 ntmps15 ?_;refine uR ?_;apply EV.drawn 12 kR kR;intro xv yw;(repeat refine' DD ?_);refine' vB (cO func52) (fun G hG hd=>zlr (ht.mono hG) hs.1.2 hs.1.1) (fun _ _ _ h k=>RTL.mono h k) ?_;rotate_left;(repeat refine' DD ?_);refine' vB (cO func53) (fun G hG hd=>zq1 (ho.mono hG) hs.2.2 hs.2.1) (fun _ _ _ h k=>ILL.mono h k) ?_;rotate_left;(refine DJ.nil (fun G1 hG1 hF1=>?_);(case hS|hS2=>rfl));obtain⟨hO,hT,_⟩:=hF1
 obtain⟨a1,c1,e1⟩:∃a c,xv 8=.slice a ts.length c:=by
  obtain⟨_,_,h⟩:=hT;exact SlC.val h
 obtain⟨a2,c2,e2⟩:∃a c,xv 11=.slice a os.length c:=by
  obtain⟨_,_,h⟩:=hO;exact SlC.val h
 rw[e1]at hT;rw[e2]at hO;rw[e1,e2];refine uR ?_;exact⟨_,_,_,_,rfl,hT,hO⟩
theorem zko {H:Hp} {u v:Value} {l:List Int} (hu:IL H u l) (hv:IL H v l) (hl:l.length≤1000000):PC prog 51 #[u,v] H fun r _=>r=.bool true:=by
 obtain⟨a,c,rfl⟩:=SlC.val hu;obtain⟨a2,c2,rfl⟩:=SlC.val hv;refine BD func51 ntmps51 ?_;refine uR ?_;rw[bne_self_eq_false];refine uR ?_;refine EV.loopK (ι:=Nat) [0,1] [] (fun i=>[(5,.v (.int .i64 (i:Int)))]) (fun _=>[]) (fun _=>[]) (fun i _=>i≤l.length) (fun i=>l.length-i) (0) rfl rfl ⟨rfl,trivial⟩ trivial rfl (fun _=>rfl) (Nat.zero_le _) ?_;rintro i G1 hG1 hi;refine uR ?_;refine EV.cond rfl (fun hlt=>?_) (fun hlt=>?_)
 ·simp only[nN]at hlt;obtain⟨z,hz⟩:=gE hlt;refine uR ?_;apply EV.drawn 9 kR kR;intro xv yw;(repeat refine' DD ?_);refine' vJ ((hu.mono hG1)) (i) (rfl) (hlt) ((by rw[List.getElem?_map,hz];rfl)) ?_;rotate_left;(repeat refine' DD ?_);refine' vJ ((hv.mono hG1)) (i) (rfl) (hlt) ((by rw[List.getElem?_map,hz];rfl)) ?_;rotate_left;(repeat refine' DD ?_);rw[bne_self_eq_false];(repeat refine' DD ?_);(refine DJ.nil (fun G hG hF=>?_);(case hS|hS2=>rfl));refine uR ?_;refine⟨i+1,⟨by rw[zab i (by omega)];rfl,trivial⟩,sB,trivial,trivial,rfl,hlt,hG,by omega⟩
 ·simp only[nN]at hlt;refine uR ?_;rfl
theorem zpI {H:Hp} {cs ds:List Value} {n:Nd} (hu:zbX H cs n) (hv:zbX H ds n) (h:zgi n):PC prog 102 #[.agg cs.toArray,.agg ds.toArray] H fun r _=>r=.bool true:=by
 obtain⟨h1,h2,h3,h4⟩:=h;obtain⟨b1,a1,l1,c1,a2,l2,c2,b3,a3,l3,c3,a4,l4,c4,b5,a5,l5,c5,a6,l6,c6,a7,c7,rfl,k1,k2,k3,k4⟩:=hu.cells;obtain⟨d1,e1,f1,g1,e2,f2,g2,d3,e3,f3,g3,e4,f4,g4,d5,e5,f5,g5,e6,f6,g6,e7,g7,rfl,m1,m2,m3,m4⟩:=hv.cells;have c1:=zbA k1 m1 h1 h1;have c2:=zbA k2 m2 h2 h2;have c3:=zbA k3 m3 h3 h3;rw[zpg]at c1 c2 c3;have c4:=zko k4 m4 h4;obtain⟨nc,nl,nr,nrs,ncl,nat',nco,nva,ncs⟩:=n;dsimp only at *
 refine BD func102 ntmps102 ?_;refine uR ?_;rw[beq_self_eq_true nc];refine uR ?_;rw[beq_self_eq_true nl];refine uR ?_;rw[beq_self_eq_true nr];refine uR ?_;rw[beq_self_eq_true nrs];refine uR ?_;rw[beq_self_eq_true ncl]
 repeat (first|refine RUN ?_|refine CV (c1) ?_|refine CV (c2) ?_|refine CV (c3) ?_|refine CV (c4) ?_|refine CE (c1) ?_|refine CE (c2) ?_|refine CE (c3) ?_|refine CE (c4) ?_)
 rfl
set_option maxRecDepth 100000 in
theorem zpJ {H:Hp} {cs ds:List Value} {kd cl w:Int} {ns:List Nd} (hu:ziv H cs kd cl w ns) (hv:ziv H ds kd cl w ns) (hl:ns.length≤1000000) (h:∀n,n∈ns→zgi n):PC prog 50 #[.agg cs.toArray,.agg ds.toArray] H fun r _=>r=.bool true:=by
 obtain⟨a,c,css,rfl,hn1,hs1⟩:=hu;obtain⟨a2,c2,css2,rfl,hn2,hs2⟩:=hv;refine BD func50 ntmps50 ?_;refine uR ?_;rw[bne_self_eq_false];refine uR ?_;rw[bne_self_eq_false];refine uR ?_;rw[bne_self_eq_false];refine uR ?_;rw[bne_self_eq_false];refine uR ?_;refine EV.loopK (ι:=Nat) [2,3] [2,3] (fun i=>[(5,.v (.int .i64 (i:Int)))]) (fun _=>[]) (fun _=>[]) (fun i _=>i≤ns.length) (fun i=>ns.length-i) (0) rfl rfl ⟨rfl,trivial⟩ trivial rfl (fun _=>rfl) (Nat.zero_le _) ?_;rintro i G1 hG1 hi;refine uR ?_;refine EV.cond rfl (fun hlt=>?_) (fun hlt=>?_)
 ·simp only[nN]at hlt;obtain⟨n,hni⟩:=gE hlt;obtain⟨cc1,hc1,hd1⟩:=(hn1.mono hG1).get hni;obtain⟨cc2,hc2,hd2⟩:=(hn2.mono hG1).get hni;have hsame:=fun (G:Hp) (hG:G1.Le G)=>zpI (hd1.mono hG) (hd2.mono hG) (h n (qF hni));obtain⟨b1,a1,l1,c1,p2,l2,q2,b3,a3,l3,c3,a4,l4,c4,b5,a5,l5,c5,a6,l6,c6,a7,c7,rfl,_⟩:=hd1.cells;obtain⟨d1,e1,f1,g1,e2,f2,g2,d3,e3,f3,g3,e4,f4,g4,d5,e5,f5,g5,e6,f6,g6,e7,g7,rfl,_⟩:=hd2.cells;refine uR ?_;apply EV.drawn 12 kR kR;intro xv yw;(repeat refine' DD ?_);refine' DJ.idxM tO rfl rfl rfl rfl rfl rfl rfl rfl rfl ((hs1.mono hG1)) (i) (rfl) (hlt) (hc1) ?_;rotate_left;(repeat refine' DD ?_);refine' DJ.idxM tO rfl rfl rfl rfl rfl rfl rfl rfl rfl ((hs2.mono hG1)) (i) (rfl) (hlt) (hc2) ?_;rotate_left;(repeat refine' DD ?_);refine' vC (cO func102) (fun G hG hd=>hsame G hG) ?_;rotate_left;(repeat refine' DD ?_);(refine DJ.nil (fun G hG hF=>?_);(case hS|hS2=>rfl));refine uR ?_;refine⟨i+1,⟨by rw[zab i (by omega)];rfl,trivial⟩,sB,trivial,sB,rfl,hlt,hG,by omega⟩
 ·simp only[nN]at hlt;refine uR ?_;rfl
set_option maxRecDepth 100000 in
theorem zkn {H:Hp} {kd cl w:Int} {a1 a2 b1 b2:Option Addr} {c1 c2 d1 d2:Nat} {ts:List Tr} {os:List (List Int)} (ht:RTL H (.slice a1 ts.length c1) ts) (ho:ILL H (.slice a2 os.length c2) os) (ht2:RTL H (.slice b1 ts.length d1) ts) (ho2:ILL H (.slice b2 os.length d2) os) (hs:zlO ts os):PC prog 14 #[za2 kd cl w (.slice a1 ts.length c1) (.slice a2 os.length c2),za2 kd cl w (.slice b1 ts.length d1) (.slice b2 os.length d2)] H fun r _=>r=.bool true:=by
 obtain⟨tc1,ht1,hst1⟩:=ht;obtain⟨tc2,ht2,hst2⟩:=ht2;obtain⟨oc1,ho1,hso1⟩:=ho;obtain⟨oc2,ho2,hso2⟩:=ho2;obtain⟨⟨s1,s2⟩,s3,s4⟩:=hs;refine BD func14 ntmps14 ?_;refine uR ?_;rw[bne_self_eq_false];refine uR ?_;rw[bne_self_eq_false];refine uR ?_;rw[bne_self_eq_false];refine uR ?_;rw[bne_self_eq_false];refine uR ?_;rw[bne_self_eq_false];refine uR ?_;refine EV.loopK (ι:=Nat) [2,3] [2,3] (fun i=>[(5,.v (.int .i64 (i:Int)))]) (fun _=>[]) (fun _=>[]) (fun i _=>i≤ts.length) (fun i=>ts.length-i) (0) rfl rfl ⟨rfl,trivial⟩ trivial rfl (fun _=>rfl) (Nat.zero_le _) ?_;rintro i G1 hG1 hi;refine uR ?_;refine EV.cond rfl (fun hlt=>?_) (fun hlt=>?_)
 ·simp only[nN]at hlt;obtain⟨t,hti⟩:=gE hlt;obtain⟨cc1,hc1,hd1⟩:=(RTs.mono ht1 hG1).get hti;obtain⟨cc2,hc2,hd2⟩:=(RTs.mono ht2 hG1).get hti;obtain⟨k1,k2⟩:=s2 t (qF hti);have hsame:=fun (G:Hp) (hG:G1.Le G)=>zpJ (hd1.mono hG) (hd2.mono hG) k1 k2;obtain⟨p1,q1,r1,rfl,_⟩:=hd1;obtain⟨p2,q2,r2,rfl,_⟩:=hd2;refine uR ?_;apply EV.drawn 12 kR kR;intro xv yw;(repeat refine' DD ?_);refine' DJ.idxM tO rfl rfl rfl rfl rfl rfl rfl rfl rfl ((hst1.mono hG1)) (i) (rfl) (hlt) (hc1) ?_;rotate_left;(repeat refine' DD ?_);refine' DJ.idxM tO rfl rfl rfl rfl rfl rfl rfl rfl rfl ((hst2.mono hG1)) (i) (rfl) (hlt) (hc2) ?_;rotate_left;(repeat refine' DD ?_);refine' vC (cO func50) (fun G hG hd=>hsame G hG) ?_;rotate_left;(repeat refine' DD ?_);(refine DJ.nil (fun G hG hF=>?_);(case hS|hS2=>rfl));refine uR ?_;refine⟨i+1,⟨by rw[zab i (by omega)];rfl,trivial⟩,sB,trivial,sB,rfl,hlt,hG,by omega⟩
 ·simp only[nN]at hlt;refine uR ?_;refine EV.loopK (ι:=Nat) [2,3] [2,3] (fun i=>[(6,.v (.int .i64 (i:Int)))]) (fun _=>[]) (fun _=>[]) (fun i _=>i≤os.length) (fun i=>os.length-i) (0) rfl rfl ⟨rfl,trivial⟩ trivial rfl (fun _=>rfl) (Nat.zero_le _) ?_;rintro j G2 hG2 hj;have hH2:=hG1.trans hG2;refine uR ?_;refine EV.cond rfl (fun hlt=>?_) (fun hlt=>?_)
  ·simp only[nN]at hlt;obtain⟨l,hlj⟩:=gE hlt;obtain⟨p1,q1,hc1,hd1⟩:=(ILs.mono ho1 hH2).get hlj;obtain⟨p2,q2,hc2,hd2⟩:=(ILs.mono ho2 hH2).get hlj;have hsame:=fun (G:Hp) (hG:G2.Le G)=>zko (hd1.mono hG) (hd2.mono hG) (s4 l (qF hlj));refine uR ?_;apply EV.drawn 12 kR kR;intro xv yw;(repeat refine' DD ?_);refine' vJ ((hso1.mono hH2)) (j) (rfl) (hlt) (hc1) ?_;rotate_left;(repeat refine' DD ?_);refine' vJ ((hso2.mono hH2)) (j) (rfl) (hlt) (hc2) ?_;rotate_left;(repeat refine' DD ?_);refine' vC (cO func51) (fun G hG hd=>hsame G hG) ?_;rotate_left;(repeat refine' DD ?_);(refine DJ.nil (fun G hG hF=>?_);(case hS|hS2=>rfl));refine uR ?_;refine⟨j+1,⟨by rw[zab j (by omega)];rfl,trivial⟩,sB,trivial,sB,rfl,hlt,hG,by omega⟩
  ·simp only[nN]at hlt;refine uR ?_;rfl
def GD.fits (d:GD) (cl:Int):Prop:=match d with
 | .v _=>cl=0
 | .c _ ls=>1≤cl∧cl≤12∧∀z,z∈ls→z<cl
def GD.with (d:GD) (cl:Int):GD:=match d with
 | .v qs=>.v qs
 | .c _ ls=>.c cl.toNat ls
theorem GD.Ok.with {n:Nat} {d:GD} (hd:d.Ok n) {cl:Int} (h:d.fits cl):(d.with cl).Ok n∧(d.with cl).cl=cl∧(d.with cl).kd=d.kd:=by
 cases d with
 | v qs=>exact⟨hd,(show cl=0 from h).symm,rfl⟩
 | c C ls =>
  obtain⟨h1,h2,h3⟩:=h;obtain⟨_,hl,hb⟩:=hd;refine⟨⟨by omega,hl,fun z hz=>⟨(hb z hz).1,by rw[Int.toNat_of_nonneg (by omega)];exact h3 z hz⟩⟩,Int.toNat_of_nonneg oM,rfl⟩
def GD.Rc (H:Hp) (v:Value) (cl:Int):GD→Prop
 | .v qs=>∃s,v=zak 2 cl (.slice none 0 0) s∧RL H s qs
 | .c _ ls=>∃s,v=zak 1 cl s (.slice none 0 0)∧IL H s ls
theorem GD.Rc.mono {H G:Hp} {v:Value} {cl:Int} {d:GD} (h:d.Rc H v cl) (k:H.Le G):d.Rc G v cl:=by
 cases d with
 | v qs=>obtain⟨s,e,h⟩:=h;exact⟨s,e,RL.mono h k⟩
 | c C ls=>obtain⟨s,e,h⟩:=h;exact⟨s,e,SlC.mono h k⟩
theorem GD.Rc.at {H:Hp} {v:Value} {cl:Int} {d:GD} (h:d.Rc H v cl) (hf:d.fits cl):(d.with cl).R H v:=by
 cases d with
 | v qs=>obtain⟨s,e,h⟩:=h;have:cl=0:=hf;subst this;exact⟨s,e,h⟩
 | c C ls=>obtain⟨s,e,h⟩:=h;exact⟨s,by rw[Int.toNat_of_nonneg (by have:=hf.1;omega)];exact e,h⟩
theorem zop {va:Option Addr} {vn vc:Nat} {la:Option Addr} {lc:Nat} {cl:Int} (h0:1≤vn) (h1:vn≤300) (hc:cl≠0):PV prog 36 #[zak 2 cl (.slice la 0 lc) (.slice va vn vc)] (.int .i64 1):=by
 have hlen:=ziR (cl:=cl) (va:=va) (vn:=vn) (vc:=vc) (la:=la) (ln:=0) (lc:=lc);refine PV.of_pc ?_;refine BD func36 ntmps36 ?_
 repeat (first|refine RUN ?_|refine CV (hlen) ?_|refine CE (hlen) ?_)
 rw[qC (show ¬(vn:Int)<1 by omega)];refine uR ?_;rw[qC (show ¬(vn:Int)>300 by omega)];refine uR ?_;rw[show (cl != 0)=true from bne_iff_ne.2 hc];refine uR ?_;rfl
theorem zon {H:Hp} {va:Option Addr} {vc:Nat} {la:Option Addr} {lc:Nat} {ls:List Int} (hv:IL H (.slice la ls.length lc) ls) {cl:Int} (h0:1≤ls.length) (h1:ls.length≤300) (hc:cl≤12) (hls:∀z,z∈ls→0≤z) (hno:¬(1≤cl∧∀z,z∈ls→z<cl)):PC prog 36 #[zak 1 cl (.slice la ls.length lc) (.slice va 0 vc)] H fun r _=>r=.int .i64 1:=by
 have hlen:=zgI (cl:=cl) (va:=va) (vn:=0) (vc:=vc) (la:=la) (ln:=ls.length) (lc:=lc);refine BD func36 ntmps36 ?_
 repeat (first|refine RUN ?_|refine CV (hlen) ?_|refine CE (hlen) ?_)
 rw[qC (show ¬(ls.length:Int)<1 by omega)];refine uR ?_;rw[qC (show ¬(ls.length:Int)>300 by omega)];refine uR ?_;by_cases hc1:cl<1
 ·rw[qD hc1];refine uR ?_;rfl
 rw[qC hc1];refine uR ?_;rw[qC (show ¬cl>12 by omega)];refine uR ?_;refine EV.loopK (ι:=Nat) [1,49,50] [1] (fun i=>[(51,.v (.int .i64 (i:Int)))]) (fun _=>[]) (fun _=>[]) (fun i _=>i≤ls.length∧∀z,z∈ls.take i→z<cl) (fun i=>ls.length-i) (0) rfl rfl ⟨rfl,trivial⟩ trivial rfl (fun _=>rfl) (⟨Nat.zero_le _,fun z hz=>by cases hz⟩) ?_;rintro i G1 hG1 ⟨hi,hall⟩;refine uR ?_;refine EV.cond rfl (fun hlt=>?_) (fun hlt=>?_)
 ·simp only[nN]at hlt;obtain⟨z,hz⟩:=gE hlt;have hb:=hls z (qF hz);refine uR ?_;refine vI ((hv.mono hG1)) (i) (rfl) (hlt) ((by rw[List.getElem?_map,hz];rfl)) ?_;refine uR ?_;rw[qC (show ¬z<0 by omega)];refine uR ?_;by_cases hzc:z≥cl
  ·rw[qD hzc];refine uR ?_;rfl
  rw[qC hzc];refine uR ?_;refine⟨i+1,⟨?_,trivial⟩,sB,trivial,sB,rfl,⟨hlt,fun y hy=>?_⟩,Hp.Le.refl _,by omega⟩
  ·rw[zab i (by omega)];rfl
  ·rw[zah hz]at hy;rcases List.mem_append.1 hy with h | h
   ·exact hall y h
   ·rw[List.mem_singleton.1 h];omega
 ·simp only[nN]at hlt;obtain rfl:i=ls.length:=by omega
  rw[List.take_length]at hall;exact absurd ⟨by omega,hall⟩ hno
theorem znB {H:Hp} {la:Option Addr} {lc:Nat} {va:Option Addr} {vn vc:Nat} {cl:Int} (h0:1≤vn) (h1:vn≤300) (hc:cl≠0):PC prog 45 #[zak 2 cl (.slice la 0 lc) (.slice va vn vc)] H fun r _=>r=.int .i64 1:=by
 refine BD func45 ntmps45 ?_;refine uR ?_;rw[qC (show ¬(vn:Int)<1 by omega)];refine uR ?_;rw[qC (show ¬(vn:Int)>300 by omega)];refine uR ?_;rw[show (cl != 0)=true from bne_iff_ne.2 hc];refine uR ?_;rfl
theorem znA {H:Hp} {la:Option Addr} {lc:Nat} {ls:List Int} (hv:IL H (.slice la ls.length lc) ls) {va:Option Addr} {vc:Nat} {cl:Int} (h0:1≤ls.length) (h1:ls.length≤300) (hc:cl≤12) (hls:∀z,z∈ls→0≤z) (hno:¬(1≤cl∧∀z,z∈ls→z<cl)):PC prog 45 #[zak 1 cl (.slice la ls.length lc) (.slice va 0 vc)] H fun r _=>r=.int .i64 1:=by
 refine BD func45 ntmps45 ?_;refine uR ?_;rw[qC (show ¬(ls.length:Int)<1 by omega)];refine uR ?_;rw[qC (show ¬(ls.length:Int)>300 by omega)];refine uR ?_;by_cases hc1:cl<1
 ·rw[qD hc1];refine uR ?_;rfl
 rw[qC hc1];refine uR ?_;rw[qC (show ¬cl>12 by omega)];refine uR ?_;refine EV.loopK (ι:=Nat) [1,3] [1] (fun i=>[(4,.v (.int .i64 (i:Int)))]) (fun _=>[]) (fun _=>[]) (fun i _=>i≤ls.length∧∀z,z∈ls.take i→z<cl) (fun i=>ls.length-i) (0) rfl rfl ⟨rfl,trivial⟩ trivial rfl (fun _=>rfl) (⟨Nat.zero_le _,fun z hz=>by cases hz⟩) ?_;rintro i G1 hG1 ⟨hi,hall⟩;refine uR ?_;refine EV.cond rfl (fun hlt=>?_) (fun hlt=>?_)
 ·simp only[nN]at hlt;obtain⟨z,hz⟩:=gE hlt;have hb:=hls z (qF hz);have hv1:=hv.mono hG1;refine uR ?_;apply EV.drawn 15 kR kR;intro xv yw;(repeat refine' DD ?_);refine' vJ (hv1) (i) (rfl) (hlt) ((by rw[List.getElem?_map,hz];rfl)) ?_;rotate_left;(repeat refine' DD ?_);rw[qC (show ¬z<0 by omega)];(repeat refine' DD ?_);refine' vJ (hv1) (i) (rfl) (hlt) ((by rw[List.getElem?_map,hz];rfl)) ?_;rotate_left;(repeat refine' DD ?_);(refine DJ.nil (fun G2 hG2 hF2=>?_);(case hS|hS2=>rfl));refine uR ?_;by_cases hzc:z≥cl
  ·rw[qD hzc];refine uR ?_;rfl
  rw[qC hzc];refine uR ?_;refine⟨i+1,⟨by rw[zab i (by omega)];rfl,trivial⟩,sB,trivial,sB,rfl,⟨hlt,fun y hy=>?_⟩,hG2,by omega⟩;rw[zah hz]at hy;rcases List.mem_append.1 hy with h | h
  ·exact hall y h
  ·rw[List.mem_singleton.1 h];omega
 ·simp only[nN]at hlt;obtain rfl:i=ls.length:=by omega
  rw[List.take_length]at hall;exact absurd ⟨by omega,hall⟩ hno
theorem RLL.drop1 {H:Hp} {a:Option Addr} {c:Nat} {X:List (List Rat)} (h:RLL H (.slice a X.length c) X) (h0:1≤X.length):X.length≤c∧RLL H (.slice (if c=1 then a else a.map (·.add (1*1))) (X.length-1) (c-1)) (X.drop 1):=by
 obtain⟨vs,hv,hs⟩:=h
 have hc:X.length≤c:=by
  rcases hs.2 with ⟨h,_⟩ | ⟨b,off,cap,c',e,h,_⟩
  ·omega
  ·cases e;exact h
 refine⟨hc,vs.drop 1,⟨by rw[List.length_drop,List.length_drop,hv.1],fun j x y e1 e2=>?_⟩,?_⟩
 ·rw[List.getElem?_drop]at e1 e2;exact hv.2 _ x y e1 e2
 ·have:=hs.sub 1 X.length h0 (qH _) hc;rw[List.length_drop];rw[show (vs.drop (1*1)).take ((X.length-1)*1)=vs.drop 1 by rw[Nat.mul_one,Nat.mul_one];exact List.take_of_length_le (by rw[List.length_drop,hv.1];omega)]at this;exact this
theorem GD.P.with {H:Hp} {sl sv:Value} {d:GD} (h:d.P H sl sv) (cl:Int):(d.with cl).P H sl sv:=by
 cases d with
 | v qs=>exact h
 | c C ls=>exact h
theorem GD.Ok.inGoalC {H:Hp} {n:Nat} {d:GD} (hd:d.Ok n) (h1:n≤300) {v:Value} {cl:Int} (hR:d.Rc H v cl):PC prog 10 #[v] H fun r H'=>∃la ln lc va vn vc,r=zak d.kd cl (.slice la ln lc) (.slice va vn vc)∧d.P H' (.slice la ln lc) (.slice va vn vc):=by
 cases d with
 | v qs =>
  obtain⟨rfl,hq⟩:=hd;obtain⟨s,rfl,hs⟩:=hR;have hqr:∀q,q∈qs→rq q:=fun q hq'=>zf8 (hq q hq') oM;refine(zjV (kd:=2) (cl:=cl) (IL.nil H none 0) hs (by decide) oM hqr).mono ?_;rintro r H' ⟨la,lc,va,vc,rfl,_,hv⟩ hH;exact⟨_,_,_,_,_,_,rfl,_,_,_,_,rfl,rfl,hv⟩
 | c C ls =>
  obtain⟨hc,rfl,hlb⟩:=hd;obtain⟨s,rfl,hs⟩:=hR;refine(zjV (kd:=1) (cl:=cl) hs (RL.nil H none 0) oM (by decide) (by intro q hq;cases hq)).mono ?_;rintro r H' ⟨la,lc,va,vc,rfl,hv,_⟩ hH;exact⟨_,_,_,_,_,_,rfl,_,_,_,_,rfl,rfl,hv⟩
open Classical in
theorem GD.Ok.pcheck {H:Hp} {n:Nat} {d:GD} (hd:d.Ok n) (h0:1≤n) (h1:n≤300) {sl sv:Value} (hP:d.P H sl sv) {cl:Int} (hc:cl≤12):(∀G,H.Le G→PC prog 36 #[zak d.kd cl sl sv] G fun r _=>r=.int .i64 (if d.fits cl then 0 else 1))∧PV prog 35 #[zak d.kd cl sl sv] (.int .i64 (n:Int)):=by
 cases d with
 | v qs =>
  obtain⟨rfl,hq⟩:=hd;obtain⟨la,lc,va,vc,rfl,rfl,hv⟩:=hP;refine⟨fun G hG=>?_,ziR⟩;by_cases h:cl=0
  ·subst h;rw[if_pos (show GD.fits (.v qs) 0 from rfl)];exact(zdu h0 h1).pc' G
  ·rw[if_neg (show ¬GD.fits (.v qs) cl from h)];exact(zop h0 h1 h).pc' G
 | c C ls =>
  obtain⟨_,rfl,hb⟩:=hd;obtain⟨la,lc,va,vc,rfl,rfl,hv⟩:=hP;refine⟨fun G hG=>?_,zgI⟩;by_cases h:GD.fits (.c C ls) cl
  ·rw[if_pos h];exact zeD (SlC.mono hv hG) ⟨h.1,h.2.1⟩ h0 h1 fun z hz=>⟨(hb z hz).1,h.2.2 z hz⟩
  ·rw[if_neg h];exact zon (SlC.mono hv hG) h0 h1 hc (fun z hz=>(hb z hz).1) fun k=>h ⟨k.1,hc,k.2⟩
open Classical in
theorem GD.Ok.rcheck {H:Hp} {n:Nat} {d:GD} (hd:d.Ok n) (h0:1≤n) (h1:n≤300) {v:Value} {cl:Int} (hR:d.Rc H v cl) (hc:cl≤12):∃ga gn gc va vn vc,v=zak d.kd cl (.slice ga gn gc) (.slice va vn vc)∧(∀G,H.Le G→PC prog 45 #[v] G fun r _=>r=.int .i64 (if d.fits cl then 0 else 1))∧PV prog 44 #[v] (.int .i64 (n:Int)):=by
 cases d with
 | v qs =>
  obtain⟨rfl,hq⟩:=hd;obtain⟨s,rfl,hs⟩:=hR;obtain⟨sa,sc,rfl⟩:=hs.val;refine⟨_,_,_,_,_,_,rfl,fun G hG=>?_,zmp⟩;by_cases h:cl=0
  ·subst h;rw[if_pos (show GD.fits (.v qs) 0 from rfl)];exact zia h0 h1
  ·rw[if_neg (show ¬GD.fits (.v qs) cl from h)];exact znB h0 h1 h
 | c C ls =>
  obtain⟨_,rfl,hb⟩:=hd;obtain⟨s,rfl,hs⟩:=hR;obtain⟨sa,sc,rfl⟩:=SlC.val hs;refine⟨_,_,_,_,_,_,rfl,fun G hG=>?_,zmo (sv:=.bool true)⟩;by_cases h:GD.fits (.c C ls) cl
  ·rw[if_pos h];exact zh9 (SlC.mono hs hG) ⟨h.1,h.2.1⟩ h0 h1 fun z hz=>⟨(hb z hz).1,h.2.2 z hz⟩
  ·rw[if_neg h];exact znA (SlC.mono hs hG) h0 h1 hc (fun z hz=>(hb z hz).1) fun k=>h ⟨k.1,hc,k.2⟩
def FRp (G:Hp) (r:Value) (kd cl w:Int) (ts:List Tr) (os:List (List Int)) (e:Int):Prop:=∃a1 c1 a2 c2,r=.tuple #[za2 kd cl w (.slice a1 ts.length c1) (.slice a2 os.length c2),.int .i64 e]∧PTL G (.slice a1 ts.length c1) ts∧ILL G (.slice a2 os.length c2) os
def FRr (G:Hp) (r:Value) (kd cl w:Int) (ts:List Tr) (os:List (List Int)) (e:Int):Prop:=∃a1 c1 a2 c2,r=.tuple #[za2 kd cl w (.slice a1 ts.length c1) (.slice a2 os.length c2),.int .i64 e]∧RTL G (.slice a1 ts.length c1) ts∧ILL G (.slice a2 os.length c2) os
theorem FRp.mono {G K:Hp} {r:Value} {kd cl w:Int} {ts:List Tr} {os:List (List Int)} {e:Int} (h:FRp G r kd cl w ts os e) (k:G.Le K):FRp K r kd cl w ts os e:=by
 obtain⟨a1,c1,a2,c2,e,h1,h2⟩:=h;exact⟨a1,c1,a2,c2,e,h1.mono k,h2.mono k⟩
theorem zpa {R:List Value→Tr→Prop}:(([]:List (List Value)).length=([]:List Tr).length∧∀(j:Nat) (c:List Value) (t:Tr),([]:List (List Value))[j]?=some c→([]:List Tr)[j]?=some t→R c t):=⟨rfl,fun j c t e1 e2=>by cases e1⟩
theorem FRp.no (G:Hp) (e:Int):FRp G (.tuple #[za2 0 0 0 (.slice none 0 0) (.slice none 0 0),.int .i64 e]) 0 0 0 [] [] e:=⟨none,0,none,0,rfl,⟨[],zpa,⟨rfl,.inl ⟨rfl,none,0,rfl⟩⟩⟩,⟨[],⟨rfl,fun j c t e1 e2=>by cases e1⟩,⟨rfl,.inl ⟨rfl,none,0,rfl⟩⟩⟩⟩
theorem FRr.no (G:Hp) (e:Int):FRr G (.tuple #[za2 0 0 0 (.slice none 0 0) (.slice none 0 0),.int .i64 e]) 0 0 0 [] [] e:=⟨none,0,none,0,rfl,⟨[],zpa,⟨rfl,.inl ⟨rfl,none,0,rfl⟩⟩⟩,⟨[],⟨rfl,fun j c t e1 e2=>by cases e1⟩,⟨rfl,.inl ⟨rfl,none,0,rfl⟩⟩⟩⟩
open Classical in
theorem zok {H:Hp} {d:GD} {N W D:Nat} {cl nt sm' least seed:Int} {vg vx:Value} {X:List (List Rat)} {b1:Bool} {a1 a2:Option Addr} {l1 c1 l2 c2:Nat} (hd:d.Ok N) (hR:d.Rc H vg cl) (hc:cl≤12) (hX:RLL H vx X) (hq:RQ H (.agg #[.bool b1,.slice a1 l1 c1,.slice a2 l2 c2]) 0) (hXw:∀x,x∈X→x.length=W∧∀q,q∈x→ht q≤5) (hXl:X.length≤20)
  (hN:1≤N∧N≤20) (hW:1≤W∧W≤20) (hD:D≤9) (hs:0≤seed) :
  ∃kd' cl' w' ts os e,(∀G u v,(∃la ln lc va vn vc,u=zak d.kd cl (.slice la ln lc) (.slice va vn vc)∧d.P G (.slice la ln lc) (.slice va vn vc))→QLL G v X→PC prog 9 #[u,v,.agg (zoI nt sm' seed (D:Int) least 0).toArray] G fun r G'=>FRp G' r kd' cl' w' ts os e) ∧
   (∀G,H.Le G→PC prog 13 #[vg,vx,ztI nt sm' seed (D:Int) least (.bool b1) (.slice a1 l1 c1) (.slice a2 l2 c2)] G fun r G'=>FRr G' r kd' cl' w' ts os e)∧zlO ts os∧(e=0→zbM kd' cl' w' ts os=0∧∀t,t∈ts→zcE t):=by
 have hxw:=fun x hx=>(hXw x hx).1;obtain⟨ga,gn,gc,va,vn,vc,rfl,hrck,hrln⟩:=hd.rcheck hN.1 oM hR hc;obtain⟨xa,xc,rfl⟩:=hX.val;have hgg:∃b1' a1' l1' c1' a2' l2' c2',Value.bool b1=.bool b1'∧Value.slice a1 l1 c1=.slice a1' l1' c1'∧Value.slice a2 l2 c2=.slice a2' l2' c2':=⟨_,_,_,_,_,_,_,rfl,rfl,rfl⟩;by_cases hsh:(X.length:Int)=(N:Int)
 case neg =>
  refine⟨0,0,0,[],[],5,?_,?_,⟨⟨by decide,fun t ht=>by cases ht⟩,by decide,fun l hl=>by cases hl⟩,fun h=>by cases h⟩
  ·rintro G u v ⟨la,ln,lc,va',vn',vc',rfl,hP⟩ hv;obtain⟨_,hln⟩:=hd.pcheck (H:=G) hN.1 oM hP hc;exact(zoJ hln hv oM hW hxw hsh rfl).mono fun r G' h _=>by subst h;exact FRp.no _ _
  ·intro G hG;exact(zpK (cs:=[_,_,_,_,_,_,_,_]) hrln (hX.mono hG) oM hW hxw hsh rfl).mono fun r G' h _=>by subst h;exact FRr.no _ _
 have hXN:X.length=N:=by omega
 by_cases hgood:d.fits cl∧(1≤nt∧nt≤50)∧(1≤sm'∧sm'≤(W:Int))∧1≤least∧least≤300
 ·obtain⟨hf,hnt,hsm,hls⟩:=hgood;obtain⟨hd',ecl,ekd⟩:=hd.with hf;have hR':=hR.at hf;obtain⟨nt,rfl⟩:=Int.eq_ofNat_of_zero_le (show 0≤nt by omega);obtain⟨sm',rfl⟩:=Int.eq_ofNat_of_zero_le (show 0≤sm' by omega);obtain⟨e1,e2,_⟩:=(gdP (d.with cl) X least W sm').wood_len D N (d.with cl).kd (d.with cl).cl (W:Int) nt seed;have hgp:=hd'.plain;rw[←hXN]at hgp;have hgp:=hgp.gp (sm:=sm') (least:=least) oM hW.1 oM hXw;have hwok:=fun t ht=>zjq hgp hW hD (show 1≤X.length by omega) nt seed t ht;have hwc:=zn4 hgp hW hD (show 1≤X.length by omega) (k:=nt) oM seed;have hws:=zn5 hgp hW hD (show 1≤X.length by omega) (k:=nt) oM seed;rw[show (ztJ X (d.with cl).cost (d.with cl).mean (d.with cl).cnt least W sm').X.length=N from hXN]at hwok hwc hws;refine⟨(d.with cl).kd,(d.with cl).cl,(W:Int),((gdP (d.with cl) X least W sm').wood D N (d.with cl).kd (d.with cl).cl (W:Int) nt seed).1,((gdP (d.with cl) X least W sm').wood D N (d.with cl).kd (d.with cl).cl (W:Int) nt seed).2.1,0,?_,?_,hws,fun _=>⟨hwc,fun t ht=>(hwok t ht).1⟩⟩
  ·rintro G u v ⟨la,ln,lc,va',vn',vc',rfl,hP⟩ hv;have:=znv (H:=G) (D:=D) (nt:=nt) (sm':=sm') (least:=least) (seed:=seed) hd' (hP.with cl) hv hXN hXw hN hW hD oM oM hls hs;rw[ekd,ecl]at this;refine this.mono ?_;rintro r G' ⟨w,rfl,hw⟩ _;obtain⟨x1,x2,x3,x4,rfl,hT,hO⟩:=hw.val;rw[ekd,ecl];exact⟨x1,x2,x3,x4,rfl,hT,hO⟩
  ·intro G hG;refine(znQ (H:=G) (D:=D) (nt:=nt) (sm':=sm') (seed:=seed) hd' (hR'.mono hG) (hX.mono hG) (RQ.mono hq hG) hXN hXw ⟨hN.1,by omega⟩ hW hD oM oM hls hs).mono ?_;rintro r G' ⟨x1,x2,x3,x4,rfl,hT,hO⟩ _;exact⟨x1,x2,x3,x4,by rw[e1,e2],by rw[e1];exact hT,by rw[e2];exact hO⟩
 ·have hb:(if d.fits cl then (0:Int) else 1)≠0∨nt<1∨50<nt∨sm'<1∨(W:Int)<sm'∨least<1∨300<least:=by
   by_cases hf:d.fits cl
   ·right;have:¬((1≤nt∧nt≤50)∧(1≤sm'∧sm'≤(W:Int))∧1≤least∧least≤300):=fun k=>hgood ⟨hf,k⟩;omega
   ·left;rw[if_neg hf];decide
  refine⟨0,0,0,[],[],1,?_,?_,⟨⟨by decide,fun t ht=>by cases ht⟩,by decide,fun l hl=>by cases hl⟩,fun h=>by cases h⟩
  ·rintro G u v ⟨la,ln,lc,va',vn',vc',rfl,hP⟩ hv;obtain⟨hck,hln⟩:=hd.pcheck (H:=G) hN.1 oM hP hc;rw[←hXN]at hln;exact(zsE hck hln hv oM oM hW hxw oM hb).mono fun r G' h _=>by subst h;exact FRp.no _ _
  ·intro G hG;rw[←hXN]at hrln;exact(ztg hgg (fun K hK=>hrck K (hG.trans hK)) hrln (hX.mono hG) oM oM hW hxw oM hb).mono fun r G' h _=>by subst h;exact FRr.no _ _
structure GS where
 cl:Int
 nt:Int
 sm:Int
 least:Int
 vx:Value
 X:List (List Rat)
structure GS.Ok (q:GS) (H:Hp) (W:Nat):Prop where
 rows:RLL H q.vx q.X
 wide:∀x,x∈q.X→x.length=W∧∀r,r∈x→ht r≤5
 len:q.X.length≤20
 cls:q.cl≤12
set_option maxRecDepth 100000 in
theorem grows20_pc {H:Hp} {vx:Value} (bad at':Int) (hx:zsm H vx) (hbd:zju bad) (hat:zju at'):PC prog 3 #[vx,.int .i64 bad,.int .i64 at'] H fun r _=>r=.bool true:=by
 have ho1:=zpc hx;obtain⟨_,_,_,_,_,_,_,_,_,_,_,_,rfl,_⟩:=hx;refine BD func3 ntmps3 ?_;refine uR ?_;refine vA (ho1) ?_;rintro r1 G1 ⟨kd,cl,least,seed,ga,va,p1,q1,gn,gc,vn,vc,N,W,D,sm',nt,l1,c1,l2,c2,vX,b1,lg,ll,rfl,hg1,hX1,hq1,hN,hW,hD,hsm,hnt,hl,hs⟩ hG1;obtain⟨d,hd,hR,hcl4⟩:=hg1.gd (zf7 _ _) (zpE N)
 have hkd:(kd=d.kd∧cl=d.cl)∧∀c,d.Rc G1 (zak d.kd c (.slice ga gn gc) (.slice va vn vc)) c:=by
  cases d with
  | v qs=>obtain⟨s,e,h⟩:=hR;cases e;exact⟨⟨rfl,rfl⟩,fun c=>⟨_,rfl,h⟩⟩
  | c C ls=>obtain⟨s,e,h⟩:=hR;cases e;exact⟨⟨rfl,rfl⟩,fun c=>⟨_,rfl,h⟩⟩
 obtain⟨⟨rfl,rfl⟩,hRc⟩:=hkd
 have hcl0:0≤d.cl:=by
  cases d with
  | v qs=>exact Int.le_refl _
  | c C ls=>exact Int.natCast_nonneg C
 have hlen:=zhd ll N W;have hrows:=fun x hx=>zrC (l:=ll) (n:=N) (w:=W) x hx;generalize hXe:zhc ll N W=X at *
 have h0:rq (0:Rat):=by show ht (0:Rat)≤_;rw[zbR];decide
 obtain⟨xa,xc,rfl⟩:=hX1.val;obtain⟨hxcap,hXd⟩:=hX1.drop1 oM;have hp1:=zcb bad 20 hbd oM oM;have hm0:0≤bad % 20∧bad % 20<20:=by omega
 generalize bad % 20=m at *
 have hp2:=zcb at' 2 hat oM oM;have hq2:0≤at' % 2∧at' % 2<2:=by omega
 generalize at' % 2=pa at *
 refine uR ?_;refine CV hp1 ?_
 (try refine ztY ?_);refine EV.meetK (ι:=GS) [] [] (fun q=>[(7,.p 7 0),(8,.v q.vx),(9,.p 9 0)]) (fun q=>[(7,28,[.int .i64 d.kd,.int .i64 q.cl,.slice ga gn gc,.slice va vn vc]),(9,40,[.int .i64 q.nt,.int .i64 q.sm,.int .u64 seed,.int .i64 (D:Int),.int .i64 q.least,.bool b1,.slice p1 l1 c1,.slice q1 l2 c2])]) (fun _=>[]) (fun q G=>G1.Le G∧q.Ok G W) rfl rfl (fun _=>rfl) ?_ ?_
 ·have hk0:GS.Ok ⟨d.cl,(nt:Int),(sm':Int),least,.slice xa X.length xc,X⟩ G1 W:=⟨hX1,hrows,by dsimp only;omega,by dsimp only;omega⟩;have h6:m=0∨m=1∨m=2∨m=3∨m=4∨5≤m:=by omega
  rcases h6 with rfl | rfl | rfl | rfl | rfl | h5
  ·try refine uR ?_
   exact⟨⟨d.cl,at',(sm':Int),least,.slice xa X.length xc,X⟩,⟨rfl,rfl,rfl,trivial⟩,trivial,⟨rfl,rfl,trivial⟩,trivial,rfl,Hp.Le.refl _,⟨hX1,hrows,hk0.len,hk0.cls⟩⟩
  ·try refine uR ?_
   exact⟨⟨d.cl,(nt:Int),at',least,.slice xa X.length xc,X⟩,⟨rfl,rfl,rfl,trivial⟩,trivial,⟨rfl,rfl,trivial⟩,trivial,rfl,Hp.Le.refl _,⟨hX1,hrows,hk0.len,hk0.cls⟩⟩
  ·try refine uR ?_
   exact⟨⟨d.cl,(nt:Int),(sm':Int),at',.slice xa X.length xc,X⟩,⟨rfl,rfl,rfl,trivial⟩,trivial,⟨rfl,rfl,trivial⟩,trivial,rfl,Hp.Le.refl _,⟨hX1,hrows,hk0.len,hk0.cls⟩⟩
  ·try refine uR ?_
   refine EVL.slc (te':=Tryz.te26) tO rfl rfl rfl rfl rfl rfl rfl rfl 1 X.length (.inr ⟨_,IntKind.i64,rfl,rfl⟩) (.inl ⟨rfl,rfl⟩) oM hxcap hxcap ?_;refine uR ?_;exact⟨⟨d.cl,(nt:Int),(sm':Int),least,_,X.drop 1⟩,⟨rfl,rfl,rfl,trivial⟩,trivial,⟨rfl,rfl,trivial⟩,trivial,rfl,Hp.Le.refl _,⟨by have:=hXd;exact this,fun x hx=>hrows x (List.mem_of_mem_drop hx),by dsimp only;rw[List.length_drop];omega,hk0.cls⟩⟩
  ·try refine uR ?_
   apply EV.drawn 6 kR kR;intro xv yw;(repeat (first|refine' DD ?_|(refine' DC (hp2) (h:=?_);rotate_left)));(refine DJ.nil (fun G2 hG2 hF2=>?_);(case hS|hS2=>rfl));refine uR ?_;exact⟨⟨IntKind.i64.wrap (IntKind.i64.wrap (d.cl+1)+IntKind.i64.wrap (pa * -2)),(nt:Int),(sm':Int),least,.slice xa X.length xc,X⟩,⟨rfl,rfl,rfl,trivial⟩,trivial,⟨rfl,rfl,trivial⟩,trivial,rfl,hG2,⟨hX1.mono hG2,hrows,hk0.len,by dsimp only;simp only[IntKind.wrap_i64];omega⟩⟩
  ·try refine uR ?_
   rw[show (m == 0)=false from beq_eq_false_iff_ne.2 (by omega)];refine uR ?_;rw[show (m == 1)=false from beq_eq_false_iff_ne.2 (by omega)];refine uR ?_;rw[show (m == 2)=false from beq_eq_false_iff_ne.2 (by omega)];refine uR ?_;rw[show (m == 3)=false from beq_eq_false_iff_ne.2 (by omega)];refine uR ?_;rw[show (m == 4)=false from beq_eq_false_iff_ne.2 (by omega)];refine uR ?_;exact⟨⟨d.cl,(nt:Int),(sm':Int),least,.slice xa X.length xc,X⟩,⟨rfl,rfl,rfl,trivial⟩,trivial,⟨rfl,rfl,trivial⟩,trivial,rfl,Hp.Le.refl _,hk0⟩
 ·rintro⟨cl9,nt9,sm9,least9,vx9,X9⟩ G3 ⟨hG3,hX9,hw9,hl9,hc9⟩;dsimp only at hX9 hw9 hl9 hc9;refine EV.seq ?_;refine EV.meetK (ι:=Unit) [7,8,9] [7,9] (fun _=>[]) (fun _=>[]) (fun _=>[]) (fun _ G=>G3.Le G) rfl rfl (fun _=>rfl) ?_ ?_
  ·by_cases h8:nt9>8
   ·try refine uR ?_
    rw[qD h8];refine uR ?_;by_cases h9:nt9≤50
    ·rw[qD h9];refine uR ?_;refine vA (zfi) ?_;rintro _ G rfl hG;refine uR ?_;rfl
    ·rw[qC h9];refine uR ?_;exact⟨(),trivial,sB,trivial,sB,rfl,Hp.Le.refl _⟩
   ·try refine uR ?_
    rw[qC h8];refine uR ?_;exact⟨(),trivial,sB,trivial,sB,rfl,Hp.Le.refl _⟩
  ·rintro _ G4 hG4;have hG14:=hG3.trans hG4;obtain⟨kd7,cl7,w7,ts,os,e,hPg,hRg,hSm,hOk⟩:=zok (H:=G4) (cl:=cl9) (nt:=nt9) (sm':=sm9) (least:=least9) (seed:=seed) (D:=D) (W:=W) hd ((hRc cl9).mono hG14) hc9 (hX9.mono hG4) (RQ.mono hq1 hG14) hw9 hl9 oM oM oM hs;have hin:=fun (G:Hp) (hG:G4.Le G)=>hd.inGoalC (H:=G) oM ((hRc cl9).mono (hG14.trans hG));have hrw:=fun (G:Hp) (hG:G4.Le G)=>zoR (hX9.mono (hG4.trans hG)) oM (fun x hx=>⟨by rw[(hw9 x hx).1];omega,fun q hq=>zf8 ((hw9 x hx).2 q hq) oM⟩);have hru:=fun (G:Hp) (hG:G4.Le G)=>zly (nt:=nt9) (sm':=sm9) (seed:=seed) (deep:=(D:Int)) (least:=least9) (RQ.mono hq1 (hG14.trans hG)) h0;obtain⟨xa9,xc9,rfl⟩:=hX9.val;refine uR ?_;apply EV.drawn 12 kR kR;intro xv yw;(repeat refine' DD ?_);refine' vB (cO func10) (fun G hG hd=>hin G hG) (fun _ _ _ h k=>(by obtain⟨_,_,_,_,_,_,e,hp⟩:=h;exact⟨_,_,_,_,_,_,e,hp.mono k⟩)) ?_;rotate_left;(repeat refine' DD ?_);refine' vB (cO func11) (fun G hG hd=>hrw G hG) (fun _ _ _ h k=>QLL.mono h k) ?_;rotate_left;(repeat refine' DD ?_);refine' vC (cO func12) (fun G hG hd=>hru G hG) ?_;rotate_left;(repeat refine' DD ?_);refine' vB (cO func9) (fun G hG hd=>hPg G _ _ (hd.tail.head kR) (hd.head kR)) (fun _ _ _ h k=>FRp.mono h k) ?_;rotate_left;refine' DJ.copy (6) (by first|exact .inl rfl|exact .inr rfl) rfl rfl rfl id rfl kR ?_;rotate_left;refine' DJ.extract (6) rfl rfl rfl rfl rfl kR (fun G hd=>(by obtain⟨_,_,_,_,e,_⟩:=hd.head kR;exact⟨_,e,Nat.zero_lt_succ _⟩)) ?_;rotate_left;refine' DJ.extract (6) rfl rfl rfl rfl rfl kR (fun G hd=>(by obtain⟨_,_,_,_,e,_⟩:=hd.head kR;exact⟨_,e,Nat.lt_succ_self _⟩)) ?_;rotate_left;(repeat refine' DD ?_);refine' DJ.storeD tO rfl rfl rfl rfl (6) (zcD 0) rfl rfl (10) rfl rfl kR kR rfl (fun G hd=>(by obtain⟨_,_,_,_,e,_⟩:=hd.head kR;rw[e];exact⟨rfl,rfl⟩)) ?_;rotate_left;(refine DJ.nil (fun G5 hG5 hF5=>?_);(case hS|hS2=>rfl));obtain⟨⟨a5,c5,b5,d5,e5,hT5,hO5⟩,_⟩:=hF5;rw[e5];rw[show zcD 1 (Value.tuple #[za2 kd7 cl7 w7 (.slice a5 ts.length c5) (.slice b5 os.length d5),.int .i64 e])=.int .i64 e from rfl,show zac (zcD 0 (Value.tuple #[za2 kd7 cl7 w7 (.slice a5 ts.length c5) (.slice b5 os.length d5),.int .i64 e]))=[.int .i64 kd7,.int .i64 cl7,.int .i64 w7,.slice a5 ts.length c5,.slice b5 os.length d5] from rfl];refine uR ?_;refine vA (hRg _ hG5) ?_;rintro r6 G6 ⟨a6,c6,b6,d6,rfl,hT6,hO6⟩ hG6;have hout:=fun (G:Hp) (hG:G6.Le G)=>zj9 (kd:=kd7) (cl:=cl7) (w:=w7) (hT5.mono (hG6.trans hG)) (hO5.mono (hG6.trans hG)) hSm;by_cases he:e=0
   ·subst he;obtain⟨hck,htok⟩:=hOk rfl;have hpck:=fun (G:Hp) (hG:G6.Le G)=>zhZ (kd:=kd7) (cl:=cl7) (w:=w7) (hT5.mono (hG6.trans hG)) (hO5.mono (hG6.trans hG)) htok hSm.2.2 hSm.2.1;rw[hck]at hpck;refine uR ?_;apply EV.drawn 21 kR kR;intro xv yw;refine' vC (cO func8) (fun G hG hd=>zfi) ?_;rotate_left;(repeat refine' DD ?_);refine' vB (cO func15) (fun G hG hd=>hout G hG) (fun _ _ _ h k=>(by obtain⟨_,_,_,_,e,h1,h2⟩:=h;exact⟨_,_,_,_,e,h1.mono k,h2.mono k⟩)) ?_;rotate_left;(repeat refine' DD ?_);refine' DJ.callS rfl rfl rfl rfl rfl (cO func14) (fun G hG hd=>(by obtain⟨_,_,_,_,e8,h1,h2⟩:=hd.head kR;rw[e8];exact zkn h1 h2 (hT6.mono hG) (hO6.mono hG) hSm)) ?_;rotate_left;(repeat refine' DD ?_);refine' vC (cO func16) (fun G hG hd=>hpck G hG) ?_;rotate_left;(repeat refine' DD ?_);(refine DJ.nil (fun G hG hF=>?_);(case hS|hS2=>rfl));refine uR ?_;rfl
   ·have he':(e != 0)=true:=bne_iff_ne.2 he;refine uR ?_;apply EV.drawn 21 kR kR;intro xv yw;refine' vC (cO func8) (fun G hG hd=>zfi) ?_;rotate_left;(repeat refine' DD ?_);rw[beq_self_eq_true e];(repeat refine' DD ?_);refine' vB (cO func15) (fun G hG hd=>hout G hG) (fun _ _ _ h k=>(by obtain⟨_,_,_,_,e,h1,h2⟩:=h;exact⟨_,_,_,_,e,h1.mono k,h2.mono k⟩)) ?_;rotate_left;(repeat refine' DD ?_);refine' DJ.callS rfl rfl rfl rfl rfl (cO func14) (fun G hG hd=>(by obtain⟨_,_,_,_,e8,h1,h2⟩:=hd.head kR;rw[e8];exact zkn h1 h2 (hT6.mono hG) (hO6.mono hG) hSm)) ?_;rotate_left;(repeat refine' DD ?_);rw[he'];(repeat refine' DD ?_);(refine DJ.nil (fun G hG hF=>?_);(case hS|hS2=>rfl));refine uR ?_;rfl
end
section
open Go Go.RowKit
theorem zhV {P:Program} {W:World} {n:String} {d:DataW Unit}:∀{l:List (String × DataW Unit)} {ps:List MemPlace},DataW.LaidVars P W l ps→(n,d)∈l →
  ∃p,DataW.LaidVars P W [(n,d)] p
 | [],_,_,h=>by cases h
 | (m,x)::r,ps,h,hm=>by
  obtain⟨g,t,cs,fuel,p,q,h1,h2,h3,h4,h5,h6⟩:=h;rcases List.mem_cons.1 hm with hm | hm
  ·cases hm;exact⟨_,g,t,cs,fuel,p,[],h1,h2,h3,h4,rfl,rfl⟩
  ·exact zhV h5 hm
theorem zsQ {P:Program} {l:List (String × DataW Unit)} {W:World} (h:laidMet P l W) {n:String} {zs:List Nat} {g:Nat} {T e:TypeId} (hmem:(n,.agg (zs.map fun (z:Nat)=>.lit (.int .u8 z)))∈l) (hg:P.globalNamed n=some g) (ht:(P.globals[g]?).map (·.type)=some T)
  (hT:P.underlying T=some (.array zs.length e)) (he:P.underlying e=some (.int .u8)) (hc:P.cellsOf e=1) (hcT:P.cellsOf T=zs.length) :
  ∃U fz,W.heap[g]?=some (.cells (zs.map fun (z:Nat)=>Value.int .u8 (z:Int)).toArray U fz):=by
 obtain⟨ps,hl,_⟩:=h;obtain⟨p0,g',t,cs,fuel,p,q,hg',ht',hv,hd,_,_⟩:=zhV hl hmem;obtain rfl:=Option.some.inj (hg.symm.trans hg');obtain rfl:=Option.some.inj (ht.symm.trans ht');obtain⟨xs,m,_,ex,hcl,hlen,hel⟩:=DataW.trod_array hT hd
 have hb:∃U fz,W.heap[g]?=some (.cells cs U fz):=by
  simp only[World.var?,hg,Option.bind_some]at hv;split at hv
  ·rename_i c U fz hc';cases hv;exact⟨U,fz,hc'⟩
  ·cases hv
 obtain⟨U,fz,hb⟩:=hb;refine⟨U,fz,?_⟩;rw[hb];congr 2;apply Array.ext';rw[hcT]at hcl;have e3:(xs.map (·.1))=zs.map fun (n:Nat)=>.lit (.int .u8 n):=(DataW.agg.inj (Prod.mk.inj ex).1).symm;apply List.ext_getElem?;intro r;rcases Nat.lt_or_ge r zs.length with hr | hr
 ·have hE:=hel r hr;rw[hc,Nat.mul_one,qA (by omega)]at hE;obtain⟨z,e1,e2,_⟩:=DataW.trod_int he hE;have e4:(xs.map (·.1))[r]?=(zs.map fun (n:Nat)=>(DataW.lit (.int .u8 n):DataW Unit))[r]?:=by rw[e3]
  rw[List.getElem?_map,List.getElem?_map,qA (by omega:r<xs.length),qA hr,e2]at e4;simp only[Option.map_some,Option.some.injEq,DataW.lit.injEq,Lit.int.injEq,true_and]at e4;have h0:((cs.toList.drop r).take 1)[0]?=some (.int .u8 z):=by rw[e1];rfl
  simp only[List.getElem?_take,List.getElem?_drop,Nat.add_zero]at h0;rw[if_pos (by omega)]at h0;rw[h0,e4];simp[hr]
 ·rw[List.getElem?_eq_none oM,List.getElem?_eq_none (by simpa using hr)]
theorem fits_gH {l:List (String × DataW Unit)} {W:World} (h:laidMet Tryz.prog l W) (hmem:("math/bits.deBruijn64tab", .agg (Lib.deBruijn64tab.map fun (z:Nat)=>.lit (.int .u8 z)))∈l):Fits gH W:=fun b c hb=>by
 unfold gH at hb;split at hb
 ·rename_i hbb;cases hb;obtain rfl:=Nat.eq_of_beq_eq_true hbb;exact zsQ h hmem kR kR Tryz.underlying352 Tryz.underlying5 kR kR
 ·cases hb
end
end Go.Proofs.YtplhljjljnkhpaaGreatDoor
