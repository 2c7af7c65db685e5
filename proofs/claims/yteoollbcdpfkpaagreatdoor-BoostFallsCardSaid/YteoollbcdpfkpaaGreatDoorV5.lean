/- Texts of ours in one: BoT, Bp1, BoR2, Opn21, BoU, Kd17, BoK, BoH, BoP2, FaP, BoQ, ThE, LaidE. -/
import Derived.Test.YteoollbcdpfkpaaGreatDoorV0
import Derived.Test.YteoollbcdpfkpaaGreatDoorV1
import Derived.Test.YteoollbcdpfkpaaGreatDoorV3
import Derived.Test.YteoollbcdpfkpaaGreatDoorV4
import Derived.ProofKit
import Derived.OpenShut
import Derived.LaidMore
import Derived.Lay
import Derived.Stop.Joined
set_option linter.unusedVariables false
set_option linter.unusedSimpArgs false
set_option maxHeartbeats 64000000
namespace Go.Proofs.YteoollbcdpfkpaaGreatDoor
section
open Go.RowKit _root_.Go.Proofs.Tryz
theorem zn5:∀{css:List (List Value)},(∀c,c∈css→c.length=4)→css.flatten.length=css.length*4
 | [],_=>rfl
 | c::css,h=>by
  have h1:=h c (qf ..);have h2:=zn5 (css:=css) fun d hd=>h d (qk _ hd);rw[List.flatten_cons,qJ,qR,h1,h2];omega
theorem zlR {A c B:List Value} {k s:Nat} (hA:A.length=k*s) (hc:c.length=s):((A++(c++B)).drop (k*s)).take s=c:=by
 rw[←hA,List.drop_left,←hc,List.take_left]
theorem PTs.four {H:Hp} {tcs:List (List Value)} {ts:List Tr} (h:PTs H tcs ts):∀c,c∈tcs→c.length=4:=fun d hd=>by
 obtain⟨i,hi⟩:=List.mem_iff_getElem?.1 hd;have hl:=(qE.1 hi).1;exact(h.2 i d _ hi (qA (by rw[←h.1];exact hl))).len
theorem PTs.one {H:Hp}:∀{tcs:List (List Value)} {ts:List Tr},PTs H tcs ts→zdO tcs.flatten=true
 | [],_,_=>rfl
 | c::css,[],h=>by have:=h.1;simp at this
 | c::css,n::ns,h=>by
  rw[List.flatten_cons];refine zfA (h.2 0 c n rfl rfl).one (PTs.one (ts:=ns) ⟨?_,fun j c' n' e1 e2=>h.2 (j+1) c' n' (by rw[pL];exact e1) (by rw[pL];exact e2)⟩);have:=h.1;simpa using this
theorem zqx {α:Type} {l:List α} {i:Nat} {x:α} (h:l[i]?=some x):l.set i x=l:=by
 refine List.ext_getElem? fun j=>?_;rw[List.getElem?_set];by_cases e:i=j
 ·subst e;rw[if_pos rfl,if_pos (qE.1 h).1,h]
 ·rw[if_neg e]
theorem PTs.put {H:Hp} {A B:List (List Value)} {c c':List Value} {ts:List Tr} {t:Tr} (h:PTs H (A++c::B) ts) (ht:ts[A.length]?=some t) (h':zc7 H c' t.kd t.cl t.w t.ns):PTs H (A++c'::B) ts:=by
 have:=zoT (y:=t) h h'
 rwa [zqx ht]at this
theorem PTs.take {H:Hp} {tcs:List (List Value)} {ts:List Tr} (h:PTs H tcs ts) (k:Nat):PTs H (tcs.take k) (ts.take k):=zsd h k
theorem PTs.take_flat {H:Hp} {tcs:List (List Value)} {ts:List Tr} (h:PTs H tcs ts) {k:Nat} (hk:k≤ts.length):(tcs.flatten.drop (0*4)).take ((k-0)*4)=(tcs.take k).flatten:=by
 have h4:=h.four;have hA:=zn5 (css:=tcs.take k) fun c hc=>h4 c (List.mem_of_mem_take hc);rw[qP,h.1,qn hk]at hA;have e1:tcs.flatten=(tcs.take k).flatten++(tcs.drop k).flatten:=by rw[←List.flatten_append,List.take_append_drop]
 rw[Nat.zero_mul,List.drop_zero,Nat.sub_zero,e1,List.take_append_of_le_length oM,qO (by omega)]
theorem znN {H:Hp} {v:Value} {ts:List Tr} {tcs:List (List Value)} (hts:PTs H tcs ts) (h:SlC H v ts.length 4 tcs.flatten) (h0:0<ts.length) (hl:ts.length≤1000000):PW prog 89 #[v] H [] fun r ow _=>zaS 116 4 r ts.length tcs.flatten ow:=by
 have hs:=h.2;rcases hs with ⟨e,_⟩ | ⟨b,off,cap,c,rfl,_⟩
 ·omega
 ·refine PW.body tO func89 rfl kR ntmps89 rfl rfl ?_;refine uR ?_;refine EVL.eqnil tO rfl rfl rfl rfl rfl rfl rfl ?_;refine uR ?_;refine EVL.lit0 tO rfl rfl rfl rfl rfl rfl rfl fun g0=>?_;refine uR ?_;refine EVL.append tO rfl rfl rfl rfl rfl rfl rfl rfl rfl rfl rfl rfl [] [(g0,116,[])] [] rfl (zaS.full (m:=0) rfl oM) (zdF.ro h h0) hts.one oM ?_;intro v1 ow1 hown1;refine uR ?_;rw[qt]at hown1;rw[qG];exact hown1
set_option maxRecDepth 100000 in
theorem zr1 {H:Hp} {loss w:Int} {W k:Nat} {base rate tilt:Rat} {ta:Option Addr} {tc:Nat} {ts:List Tr} (ht':PTL H (.slice ta ts.length tc) ts) (hx':∀t,t∈ts→zdG W t) (hr:sm rate) (hq:sm tilt) (hl:ts.length≤1000) (hc0:zcb loss w rate tilt ts=0) (h0:0<k) (hk:k≤ts.length) :
  PC prog 31 #[.agg (zbY loss w base rate tilt (.slice ta ts.length tc)).toArray,.int .i64 (k:Int)] H fun r G=>∃a c,r=.tuple #[.agg (zbY loss w base rate tilt (.slice a k c)).toArray,.int .i64 0]∧PTL G (.slice a k c) (ts.take k):=by
 have hck:=ze1 (loss:=loss) (w:=w) (base:=base) ht' (fun t h=>(hx' t h).x) hr hq oM;rw[hc0]at hck;obtain⟨tcs,hts,hsl⟩:=ht'
 have hcap:ts.length≤tc:=by
  rcases hsl.2 with ⟨e,_⟩ | ⟨_,_,_,_,e,h,_⟩
  ·omega
  ·cases e;exact h
 have hsub:=hsl.sub 0 k (qQ _) hk hcap;rw[hts.take_flat hk,Nat.sub_zero,Nat.sub_zero]at hsub;have htk:(ts.take k).length=k:=by rw[qP];omega
 have hTk:=hts.take k;refine BD func31 ntmps31 ?_
 repeat (first|refine RUN ?_|refine CV (hck) ?_|refine CE (hck) ?_)
 rw[qC (show ¬(k:Int)<0 by omega)];refine uR ?_;rw[qC (show ¬(k:Int)>(ts.length:Int) by omega)];refine uR ?_;refine EVL.slc (te':=Tryz.te116) tO rfl rfl rfl rfl rfl rfl rfl rfl 0 k (.inl ⟨rfl,rfl⟩) (.inr ⟨_,IntKind.i64,rfl,rfl⟩) (qQ _) oM hcap ?_;refine uR ?_;refine EVL.callW rfl rfl rfl rfl rfl ([]) ([]) rfl (znN hTk (by rw[htk];exact hsub) oM oM) ?_;intro v29 ow29 G1 hown29 hG1;rw[htk]at hown29;obtain⟨a29,c29,rfl⟩:=hown29.val;refine uR ?_;refine EV.loopK (ι:=Nat × List (List Value) × Ows) [2,4,32,33] [2,4] (fun q=>[(34,.v (.int .i64 (q.1:Int)))]) (fun _=>[]) (fun q=>q.2.2) (fun q G=>q.1≤k∧G1.Le G∧PTs G q.2.1 (ts.take k)∧zaS 116 4 (.slice a29 k c29) k q.2.1.flatten q.2.2) (fun q=>k-q.1) ((0,tcs.take k,ow29++[])) rfl rfl ⟨rfl,trivial⟩ trivial rfl (fun _=>rfl) (⟨qQ _,Hp.Le.refl _,hTk.mono hG1,(by rw[qG];exact hown29)⟩) ?_;rintro⟨i,cs2,ow2⟩ G2 hG2 ⟨hi,hG12,hps,hown⟩;dsimp only at hi hG12 hps hown;refine uR ?_;refine EV.cond rfl (fun hlt=>?_) (fun hlt=>?_)
 case refine_2 =>
  simp only[nN]at hlt;obtain rfl:i=k:=oM;(first|refine EVL.publishL [] ow2 [] ((qG _).symm) hown fun G3 hG3 hs3=>?_|refine EV.publishL [] ow2 [] ((qG _).symm) hown fun G3 hG3 hs3=>?_);refine uR ?_;exact⟨_,_,rfl,cs2,hps.mono hG3,by rw[htk];exact hs3⟩
 simp only[nN]at hlt;obtain⟨t,hti⟩:∃t,(ts.take k)[i]?=some t:=⟨_,qA oM⟩;have hB:=hx' t (List.mem_of_mem_take (qF hti));obtain⟨kk1,kk2,kk3⟩:=hB.ok.copies;have hpl:=hps.1;obtain⟨A,c,B,rfl,hAi⟩:=zfG (l:=cs2) (k:=i) oM;subst hAi;have hptr:=hps.2 A.length c t (by rw[qL (qH _),Nat.sub_self];rfl) hti;have hA4:A.flatten.length=A.length*4:=zn5 fun d hd=>hps.four d (List.mem_append_left _ hd);obtain⟨na,nc,css,rfl,hns,hnl⟩:=hptr;obtain⟨gT,capT,spT,e,rfl,hback⟩:=zaS.midS (show 0<4 by omega) hown rfl;cases e;refine uR ?_;refine EVL.idxB tO rfl rfl rfl rfl rfl rfl rfl rfl rfl (A.length) (A.length*4) (rfl) (hlt) (rfl) ?_;refine EVL.loadOwn tO rfl rfl rfl rfl rfl rfl (0) rfl (zlR hA4 rfl) rfl rfl ?_;refine uR ?_;generalize hCT:A.flatten++([.int .i64 t.kd,.int .i64 t.cl,.int .i64 t.w,.slice na t.ns.length nc]++(B.flatten++spT))=CT;refine vW ([]) ([(gT,116,CT)]) (znM hns hnl kk1 kk2) ?_;intro r41 ow41 G3 hown41 hG3;obtain⟨gN,capN,spN,rfl,rfl,hsame⟩:=hown41.same kk1;refine uR ?_;refine EV.loopK (ι:=Nat × List (List Value)) [2,4,6,7,32,33,34,44,45] [2,4,7] (fun q=>[(46,.v (.int .i64 (q.1:Int)))]) (fun _=>[]) (fun q=>[(gN,160,q.2.flatten++spN),(gT,116,CT)]) (fun q G=>q.1≤t.ns.length∧G3.Le G∧zaQ G q.2 t.ns) (fun q=>t.ns.length-q.1) ((0,css)) rfl rfl ⟨rfl,trivial⟩ trivial rfl (fun _=>rfl) (⟨qQ _,Hp.Le.refl _,hns.mono hG3⟩) ?_;rintro⟨j,ds⟩ G4 hG4 ⟨hj,hG34,hds⟩;dsimp only at hj hG34 hds;refine uR ?_;refine EV.cond rfl (fun hlj=>?_) (fun hlj=>?_)
 ·simp only[nN]at hlj;obtain⟨n,hni⟩:=gE hlj;have hdl:=hds.1;obtain⟨D,c,E,rfl,hDl⟩:=zfG (l:=ds) (k:=j) oM;subst hDl;have hnd:=hds.2 D.length c n (by rw[qL (qH _),Nat.sub_self];rfl) hni;obtain⟨a7,c7,rfl,hil⟩:=hnd.cells;have hDf:=hds.left.flat_len;rw[zfx];refine uR ?_;refine EVL.idxB tO rfl rfl rfl rfl rfl rfl rfl rfl rfl (D.length) (D.length*21) (rfl) (hlj) (rfl) ?_;refine EVL.loadOwn tO rfl rfl rfl rfl rfl rfl (0) rfl (zlR hDf rfl) rfl rfl ?_;refine uR ?_;apply EV.drawn 6 kR kR;intro xv yw;(repeat refine' DD ?_);refine' vB (cO func91) (fun G hG hd=>znK (hil.mono hG) (kk3 n (qF hni))) (fun _ _ _ h k=>SlC.mono h k) ?_;rotate_left;(refine DJ.nil (fun G5 hG5 hF5=>?_);(case hS|hS2=>rfl));have hR:=hF5.1;obtain⟨a8,c8,e8⟩:=SlC.val hR;rw[e8]at hR;rw[e8];refine uR ?_;refine EVL.idxB tO rfl rfl rfl rfl rfl rfl rfl rfl rfl (D.length) (D.length*21) (rfl) (hlj) (rfl) ?_;refine EVL.fldB tO rfl rfl rfl rfl rfl rfl rfl ?_;refine EVL.storeOwn tO rfl rfl rfl rfl rfl rfl ([]) ([(gT,116,CT)]) rfl rfl rfl rfl ((by rw[qJ,hDf,qJ];show D.length*21+20+1≤_;simp;omega)) ((zcV hDf rfl rfl (Nat.le_of_ble_eq_true rfl) rfl)) ?_;refine uR ?_;refine⟨(D.length+1,D++_::E),⟨by rw[zad D.length (by omega)];rfl,trivial⟩,sB,trivial,sB,by dsimp only;rw[zfx];rfl,⟨hlj,hG34.trans hG5,(hds.mono hG5).put hni ⟨a8,c8,hR,rfl⟩⟩,hG5,by dsimp only;omega⟩
 simp only[nN]at hlj;have hownN:=hsame ds.flatten (by rw[hds.flat_len,hns.flat_len,hds.1,hns.1]);(first|refine EVL.publishL [] [(gN,160,ds.flatten++spN)] [(gT,116,CT)] (rfl) hownN fun G5 hG5 hs5=>?_|refine EV.publishL [] [(gN,160,ds.flatten++spN)] [(gT,116,CT)] (rfl) hownN fun G5 hG5 hs5=>?_);have hpt:zc7 G5 [.int .i64 t.kd,.int .i64 t.cl,.int .i64 t.w,.slice (some ⟨gN,0,none⟩) t.ns.length capN] t.kd t.cl t.w t.ns:=⟨_,_,ds,rfl,hds.mono hG5,hs5⟩;subst hCT;refine uR ?_;refine EVL.idxB tO rfl rfl rfl rfl rfl rfl rfl rfl rfl (A.length) (A.length*4) (rfl) (hlt) (rfl) ?_;refine EVL.storeOwn tO rfl rfl rfl rfl rfl rfl ([]) ([]) rfl rfl rfl rfl ((by rw[qJ,hA4,qJ];show A.length*4+4≤_;simp)) ((zcV (f:=0) (m:=4) (c':=[.int .i64 t.kd,.int .i64 t.cl,.int .i64 t.w,.slice (some ⟨gN,0,none⟩) t.ns.length capN]) hA4 rfl rfl (qH 4) rfl)) ?_;refine uR ?_;have hK:=hG3.trans (hG34.trans hG5);exact⟨(A.length+1,A++[.int .i64 t.kd,.int .i64 t.cl,.int .i64 t.w,.slice (some ⟨gN,0,none⟩) t.ns.length capN]::B,[(gT,_,_)]),⟨by rw[zad A.length (by omega)];rfl,trivial⟩,sB,trivial,sB,rfl,⟨hlt,hG12.trans hK,(hps.mono hK).put hti hpt,hback _ rfl⟩,hK,by dsimp only;omega⟩
theorem QL.ofOwn {G:Hp} {g n:Nat} {l:List Rat} (h:G g=some (zam l).toArray) (hn:l.length=n):QL G (.slice (some ⟨g,0,none⟩) n n) l:=by
 subst hn;exact⟨flat_len _ 5 l (fun _ _=>rfl),.inr ⟨g,0,l.length,_,rfl,qH _,h,fun j y hy=>by rw[qt];simpa using hy⟩⟩
theorem PTs.nil (H:Hp):PTs H [] []:=⟨rfl,fun j c t e=>by cases e⟩
set_option maxRecDepth 100000 in
theorem zqj {H:Hp} {b:BG} (hb:b.Ok) {vx vy:Value} {y:List Rat} {K D0 A0:Nat} (hX:QLL H vx b.X) (hy:QL H vy y) (hyl:y.length=b.X.length)
  (hD:1≤D0) (hA:1≤A0) (hg:∀q,q∈y→Gr D0 A0 q) (hK:K≤50) (hbl:bl ((2*A0*2 ^ K)*(D0*840*(840*b.rate.den) ^ K))≤95) :
  PC prog 13 #[vx,vy,.agg (zoY b.loss (K:Int) (b.D:Int) b.least b.rate b.tilt b.gain).toArray] H fun r G=>∃ta tc,r=.tuple #[.agg (zbY b.loss (b.W:Int) (b.mid y) b.rate b.tilt (.slice ta K tc)).toArray,.int .i64 0]∧PTL G (.slice ta K tc) (b.fit y K).1:=by
 have h8:=hb.rows;have hw:=hb.wide;have hdp:=hb.deep;have hxw:=fun x hx=>(hb.each x hx).1;have hx60:=fun x hx=>(hb.each x hx).2;have hfit:=hb.fit hD hA hg hyl hbl;have hrd:=b.rate.den_nz;have hb0:bl (A0*(D0*840))≤95:=qI (zaX (Nat.mul_le_mul (by rw[qW 2 A0,Nat.mul_assoc];exact Nat.le_mul_of_pos_right A0 (Nat.mul_pos oM (Nat.pow_pos oM))) (Nat.le_mul_of_pos_right _ (Nat.pow_pos oM)))) hbl;have hy95:∀q,q∈y→ht q≤95:=fun q k=>qI (((hg q k).up 840).bits oM hA) hb0;have hm95:ht (b.mid y)≤95:=qI ((hb.mid_gr hg hyl).bits oM hA) hb0
 have hr:ht b.rate≤10:=by
  have h:=hb.rd.bits oM oM;rw[Nat.one_mul]at h;exact qI h (qI (zaX hb.den.1) (zaU (by decide)))
 have hvd:=zgw hX hxw h8.1 oM hw.1 hw.2;have hnm:=zd3 (loss:=b.loss) (zaj hr oM) (zaj hb.den.2 oM);rw[zox hb]at hnm;have hgs:sm b.gain:=zaj hb.gain.2 oM;have hfi:=fun G:Hp=>zgO (H:=G) (deep:=(b.D:Int)) (least:=b.least) hgs;rw[qD (show zmf (b.D:Int) b.least b.gain from ⟨by omega,by omega,hb.least.1,hb.least.2,hb.gain.1⟩)]at hfi;have hmd:=fun (G:Hp) (hG:H.Le G)=>ze4 (loss:=b.loss) (SlC.mono hy hG) oM oM (fun q k=>qI (hy95 q k) oM) (fun k=>hb.two (hb.loss.resolve_left k)) hb.den.2;rw[show zq2 b.loss b.tilt y=b.mid y from rfl]at hmd;obtain⟨vs,hvs,hvx⟩:=id hX;obtain⟨xa,xc,rfl⟩:=hX.val;obtain⟨ya,yc,rfl⟩:=SlC.val hy;obtain⟨x0,hxx0⟩:∃x,b.X[0]?=some x:=⟨_,qA h8.1⟩;obtain⟨u0,e0,hu0,_⟩:=hvs.at hxx0;rw[hxw x0 (qF hxx0)]at hu0;have hyS:SlC H (.slice ya y.length yc) y.length 5 (y.flatMap fun q=>zaf (zaa q)):=hy;have hfz:(b.fit y 0).2=y.map fun q=>q-b.mid y:=rfl;refine BD func13 ntmps13 ?_
 repeat (first|refine RUN ?_|refine CV (hvd) ?_|refine CE (hvd) ?_)
 rw[show ((y.length:Int) != (b.X.length:Int))=false by rw[hyl];exact pO _];have hfi0:=hfi H
 repeat (first|refine RUN ?_|refine CV (hnm) ?_|refine CE (hnm) ?_)
 rw[qC (show ¬(K:Int)<0 by omega)];refine uR ?_;rw[qC (show ¬(K:Int)>50 by omega)]
 repeat (first|refine RUN ?_|refine CV (hfi0) ?_|refine CE (hfi0) ?_)
 apply EV.drawn 18 kR kR;intro xv yw;(repeat refine' DD ?_);refine' vJ (hvx) (0) (rfl) (h8.1) (hu0) ?_;rotate_left;(repeat refine' DD ?_);refine' vC (cO func49) (fun G hG hd=>hmd G hG) ?_;rotate_left;(repeat refine' DD ?_);(refine DJ.nil (fun G1 hG1 hF1=>?_);(case hS|hS2=>rfl));refine uR ?_;refine EVL.make tO rfl rfl rfl rfl rfl rfl rfl rfl rfl (b.X.length) (rfl) oM (by rfl) (by rfl) fun g9=>?_;refine uR ?_;refine EVL.make tO rfl rfl rfl rfl rfl rfl rfl rfl rfl (b.X.length) (rfl) oM (by rfl) (by rfl) fun g10=>?_;refine uR ?_;(first|refine EVL.swapOw ([(g10,51,(([]:List Rat)++List.replicate (b.X.length-0) 0).flatMap cqF)]) ([(g9,3,_)]) ((by rw[←zfu];rfl)) ?_|refine EV.swapOw ([(g10,51,(([]:List Rat)++List.replicate (b.X.length-0) 0).flatMap cqF)]) ([(g9,3,_)]) ((by rw[←zfu];rfl)) ?_);(first|refine EVL.swapOw ([(g9,3,(zbd 0).map iv++List.replicate (b.X.length-0) (.int .i64 0))]) ([(g10,51,(([]:List Rat)++List.replicate (b.X.length-0) 0).flatMap cqF)]) ((by rw[show (Tryz.te3).zero=[Value.int .i64 0] from rfl,zb1];rfl)) ?_|refine EV.swapOw ([(g9,3,(zbd 0).map iv++List.replicate (b.X.length-0) (.int .i64 0))]) ([(g10,51,(([]:List Rat)++List.replicate (b.X.length-0) 0).flatMap cqF)]) ((by rw[show (Tryz.te3).zero=[Value.int .i64 0] from rfl,zb1];rfl)) ?_);generalize hbm:b.mid y=bm at *
 refine EV.loopK (ι:=List Rat) [0,1,5,6,8,9,10,77] [5,6,8] (fun qs=>[(78,.v (.int .i64 (qs.length:Int)))]) (fun _=>[]) (fun qs=>[(g10,51,(qs++List.replicate (b.X.length-qs.length) 0).flatMap cqF),(g9,3,(zbd qs.length).map iv++List.replicate (b.X.length-qs.length) (.int .i64 0))]) (fun qs G=>qs.length≤b.X.length∧G1.Le G∧qs=(y.map fun q=>q-bm).take qs.length) (fun qs=>b.X.length-qs.length) ([]) rfl rfl ⟨rfl,trivial⟩ trivial rfl (fun _=>rfl) (⟨qQ _,Hp.Le.refl _,rfl⟩) ?_;rintro qs G2 hG2 ⟨hi,hG12,hqs⟩;refine uR ?_;refine EV.cond rfl (fun hlt=>?_) (fun hlt=>?_)
 ·simp only[nN]at hlt;obtain⟨q,hq⟩:∃q,y[qs.length]?=some q:=⟨_,qA oM⟩;have hq95:=hy95 q (qF hq);have hsub:=zdP q bm (zaj hq95 oM) (zaj hm95 oM);have hyS2:=hyS.mono (hG1.trans hG12)
  have hsn:qs++[q-bm]=(y.map fun q=>q-bm).take (qs.length+1):=by
   have hm:(y.map fun q=>q-bm)[qs.length]?=some (q-bm):=by rw[qK,hq];rfl
   rw[zas hm,←hqs]
  refine uR ?_;refine EVL.idxB tO rfl rfl rfl rfl rfl rfl rfl rfl rfl (qs.length) (qs.length*1) (rfl) (hlt) (rfl) ?_;refine uR ?_;refine EVL.storeOwn tO rfl rfl rfl rfl rfl rfl ([(g10,51,_)]) ([]) rfl rfl rfl rfl ((by rw[qJ,qV,zbb,List.length_replicate];show qs.length*1+1≤_;omega)) (znu hlt _ rfl) ?_;refine uR ?_;apply EV.drawn 9 kR kR;intro xv yw;(repeat refine' DD ?_);refine' DJ.idxM tO rfl rfl rfl rfl rfl rfl rfl rfl rfl (hyS2) (qs.length) (rfl) (oM) (QL.at (H:=H) (v:=.bool true) hq) ?_;rotate_left;(repeat (first|refine' DD ?_|(refine' DC (hsub) (h:=?_);rotate_left)));(refine DJ.nil (fun G3 hG3 hF3=>?_);(case hS|hS2=>rfl));refine EVL.idxB tO rfl rfl rfl rfl rfl rfl rfl rfl rfl (qs.length) (qs.length*5) (rfl) (hlt) (rfl) ?_;refine uR ?_;refine EVL.storeOwn tO rfl rfl rfl rfl rfl rfl ([]) ([(g9,3,_)]) rfl rfl rfl rfl ((by rw[zkl,qJ,List.length_replicate];show qs.length*5+5≤_;omega)) (znW qs (q-bm) hlt) ?_;refine uR ?_;have hl1:(qs++[q-bm]).length=qs.length+1:=by rw[qJ];rfl
  refine⟨qs++[q-bm],⟨by rw[zad qs.length oM,hl1];rfl,trivial⟩,sB,trivial,sB,by rw[hl1];rfl,⟨by rw[hl1];exact hlt,hG12.trans hG3,by rw[hl1];exact hsn⟩,hG3,by rw[hl1];omega⟩
 simp only[nN]at hlt;have hql:qs.length=b.X.length:=oM
 have hq0:qs++List.replicate (b.X.length-qs.length) 0=(b.fit y 0).2:=by
  rw[hql,Nat.sub_self,List.replicate_zero,qG,hfz,hqs,hql];exact qO (by rw[qV];omega)
 rw[hq0,hql,Nat.sub_self,List.replicate_zero,qG];clear hqs hq0 hi hlt hql;(first|refine EVL.publish [(g10,51,_)] [] rfl fun G3 hG3 hb3=>?_|refine EV.publish [(g10,51,_)] [] rfl fun G3 hG3 hb3=>?_);have hil3:IL G3 (.slice (some ⟨g9,0,none⟩) b.X.length b.X.length) (zbd b.X.length):=zoa (sp:=[]) (by rw[qG];exact hb3) (zbb _);have hH3:=hG1.trans (hG12.trans hG3);refine uR ?_;refine EV.loopK (ι:=Nat × Value × Ows × List (List Value)) [0,5,6,8,9,10,97] [5,6] (fun q=>[(98,.v (.int .i64 (q.1:Int)))]) (fun q=>[(8,54,zbY b.loss (b.W:Int) bm b.rate b.tilt q.2.1)]) (fun q=>(g10,51,zam (b.fit y q.1).2)::q.2.2.1) (fun q G=>q.1≤K∧G3.Le G∧zaS 116 4 q.2.1 q.1 q.2.2.2.flatten q.2.2.1∧PTs G q.2.2.2 (b.fit y q.1).1) (fun q=>K-q.1) ((0,.slice none 0 0,[],[])) rfl rfl ⟨rfl,trivial⟩ ⟨rfl,trivial⟩ rfl (fun _=>rfl) (⟨qQ _,Hp.Le.refl _,zaS.nil _ _,PTs.nil _⟩) ?_;rintro⟨k,v8,ow8,tcs⟩ G4 hG4 ⟨hk,hG34,hown8,hts⟩;dsimp only at hk hG34 hown8 hts;obtain⟨a8,c8,rfl⟩:=hown8.val;refine uR ?_;refine EV.cond rfl (fun hlt=>?_) (fun hlt=>?_)
 case refine_2 =>
  simp only[nN]at hlt;obtain rfl:k=K:=oM;(first|refine EVL.publishL [(g10,51,zam (b.fit y k).2)] ow8 [] ((show (g10,51,zam (b.fit y k).2)::ow8=[(g10,51,zam (b.fit y k).2)]++(ow8++[]) by rw[qG];rfl)) hown8 fun G5 hG5 hs8=>?_|refine EV.publishL [(g10,51,zam (b.fit y k).2)] ow8 [] ((show (g10,51,zam (b.fit y k).2)::ow8=[(g10,51,zam (b.fit y k).2)]++(ow8++[]) by rw[qG];rfl)) hown8 fun G5 hG5 hs8=>?_);refine uR ?_;exact⟨a8,c8,rfl,tcs,hts.mono hG5,by rw[(b.fit_len y hyl k).2];exact hs8⟩
 simp only[nN]at hlt;obtain⟨hgr,htb⟩:=hfit k oM;obtain⟨hln1,hln2⟩:=b.fit_len y hyl k;have hn1:(b.fit y (k+1)).1=(b.fit y k).1++[b.tree (b.fit y k).2]:=rfl;have hn2:(b.fit y (k+1)).2=b.next (b.fit y k).2:=rfl;have hd1:1≤D0*840*(840*b.rate.den) ^ k:=Nat.mul_pos oM (Nat.pow_pos oM);have ha1:1≤2*A0*2 ^ k:=Nat.mul_pos oM (Nat.pow_pos oM);have hbl1:=znE (k:=k) hrd hbl oM;have hgrid:zjZ (b.fit y k).2:=⟨_,_,hd1,ha1,hbl1,hgr⟩;have hTB:=hb.tree hd1 ha1 hbl1 hgr hln1;obtain⟨_,hraw1,hraw15⟩:=hb.raw hgrid hln1;have hgd:=hb.gd hgrid hln1;have hal:=b.nodes_alikeV (b.fit y k).2;have hl95:=hgrid.bits;clear hgr hfit;generalize (b.fit y k).2=left at *
 generalize (b.fit y k).1=ts at *
 have hH4:=hH3.trans hG34;have hnl:(b.nodes left).length=(b.raw left).length:=hal.len;have hgo:=PW.reads (H:=G4) (L:=[]) (b:=g10) (T:=51) (cs:=zam left) (Φ:=fun v ow=>zaS 51 5 v left.length (zam (b.goal left)) ow) (cO func51) (fun G hG hg=>zpW (b:=b) hb.loss hb.den.2 (QL.ofOwn hg hln1) oM oM (fun q hq=>qI (hl95 q hq) oM));refine uR ?_;refine vW ([(g10,51,zam left)]) (ow8) (hgo) ?_;rintro vg owg G5 ⟨owh,rfl,hog⟩ hG5;obtain⟨ga,gc,rfl⟩:=hog.val;(first|refine EVL.publishL [(g10,51,zam left)] owh ow8 (rfl) hog fun G6 hG6 hsg=>?_|refine EV.publishL [(g10,51,zam left)] owh ow8 (rfl) hog fun G6 hG6 hsg=>?_);have hgl:=b.goal_len left;have hQg:QL G6 (.slice ga left.length gc) (b.goal left):=by unfold QL;rw[hgl];exact hsg
 have hH6:=hH4.trans (hG5.trans hG6);have hP:GD.P G6 (.slice none 0 0) (.slice ga left.length gc) (.v (b.goal left)):=⟨none,0,ga,gc,rfl,by rw[hgl],hQg⟩;obtain⟨S,wo,hpg⟩:=hgd.pgoal (H:=G6) h8.1 oM hP (p:=b.gp left) rfl rfl rfl rfl;have hgrow:=zoL (p:=b.gp left) (D0:=b.D) (w:=b.W) (s:=0) (fun _=>rfl) hw.1 hw.2 h8.1 (by show b.X.length≤20;omega) hxw hx60 rfl hb.least hgs hb.gain.1 hdp hpg (hX.mono hH6) (SlC.mono hil3 (hG34.trans (hG5.trans hG6))) (by rw[zbb];exact h8.1) (by rw[zbb];omega) zcl;have hrw:((b.gp left).grow b.D 0 (zbd b.X.length) 0).1=b.raw left:=rfl;rw[hrw]at hgrow;(first|refine EVL.swapOw ([(g10,51,zam left)]) (ow8) (rfl) ?_|refine EV.swapOw ([(g10,51,zam left)]) (ow8) (rfl) ?_);refine uR ?_;refine vW ([]) (ow8++[(g10,51,zam left)]) (hgrow) ?_;rintro _ owN G7 ⟨oa,oc,css,rfl,hns,hown⟩ hG7;rcases hown.2 with ⟨_,e0,_⟩|⟨g,cap,sp,e0,rfl,_,hcap,_⟩
 ·omega
 cases e0;obtain⟨_,_,sp',e1,e2,hsame⟩:=hown.same hraw1;cases e1
 obtain rfl:sp'=sp:=by
  have e3:=List.cons.inj e2;have e4:=congrArg (fun q:Nat × TypeId × List Value=>q.2.2) e3.1;exact(List.append_cancel_left (show css.flatten++sp=css.flatten++sp' from e4)).symm
 clear e2;(first|refine EVL.swapOw ((g,160,css.flatten++sp')::ow8) ([(g10,51,zam left)]) (rfl) ?_|refine EV.swapOw ((g,160,css.flatten++sp')::ow8) ([(g10,51,zam left)]) (rfl) ?_);refine uR ?_;refine EV.meetK (ι:=List (List Value)) [0,5,6,8,9,10,13,97,98] [5,6,8,13] (fun _=>[]) (fun _=>[]) (fun _=>(g10,51,zam left)::ow8) (fun q G=>G7.Le G∧zaQ G q (b.nodes left)∧SlC G (.slice (some ⟨g,0,none⟩) (b.raw left).length oc) (b.raw left).length 21 q.flatten) rfl rfl (fun _=>rfl) ?_ ?_
 ·by_cases e1:b.loss=1
  ·rw[show b.nodes left=b.raw left from if_pos e1];rw[show (b.loss == 2)=false by rw[e1];rfl];(first|refine EVL.publishL [(g10,51,zam left)] [(g,160,css.flatten++sp')] ow8 (rfl) hown fun G8 hG8 hs8=>?_|refine EV.publishL [(g10,51,zam left)] [(g,160,css.flatten++sp')] ow8 (rfl) hown fun G8 hG8 hs8=>?_);refine uR ?_;exact⟨css,trivial,sB,trivial,sB,rfl,hG8,hns.mono hG8,hs8⟩
  have e2:=hb.loss.resolve_left e1;have hmi:=PW.reads (H:=G7) (L:=[(g,160,css.flatten++sp')]) (b:=g10) (T:=51) (cs:=zam left) (Φ:=fun _ ow=>∃css',ow=[(g,160,css'.flatten++sp')]∧css'.length=css.length∧zaQ G7 css' (b.mids left (b.raw left))) (cO func53) (fun G hG hg=>zkL (H0:=G7) hb e2 hG (hX.mono ((hH6.trans hG7).trans hG)) (QL.ofOwn hg hln1) hln1 hgrid (fun q hq=>qI (hl95 q hq) oM) hns hcap);rw[show b.nodes left=b.mids left (b.raw left) from if_neg e1];rw[show (b.loss == 2)=true by rw[e2];rfl];refine uR ?_;refine vW ([(g10,51,zam left),(g,160,css.flatten++sp')]) (ow8) (hmi) ?_;rintro _ _ G8 ⟨_,rfl,css',rfl,hcl,hns'⟩ hG8;have hown':=hsame css'.flatten (by rw[hns'.flat_len,hns.flat_len,hcl]);(first|refine EVL.publishL [(g10,51,zam left)] [(g,160,css'.flatten++sp')] ow8 (rfl) hown' fun G9 hG9 hs9=>?_|refine EV.publishL [(g10,51,zam left)] [(g,160,css'.flatten++sp')] ow8 (rfl) hown' fun G9 hG9 hs9=>?_);refine uR ?_;exact⟨css',trivial,sB,trivial,sB,rfl,hG8.trans hG9,hns'.mono (hG8.trans hG9),hs9⟩
 rintro css' G8 ⟨hG8,hns',hsn⟩;have hTr:zc7 G8 [.int .i64 2,.int .i64 0,.int .i64 (b.W:Int),.slice (some ⟨g,0,none⟩) (b.raw left).length oc] 2 0 (b.W:Int) (b.nodes left):=⟨some ⟨g,0,none⟩,oc,css',by rw[hnl],hns',by rw[hnl];exact hsn⟩;have hK48:=hG5.trans (hG6.trans (hG7.trans hG8));have hH8:=hH4.trans hK48;have hQ0:=hX.mono hH8;have hvx8:=hvx.mono hH8;(first|refine EVL.swapOw ([(g10,51,zam left)]) (ow8) (rfl) ?_|refine EV.swapOw ([(g10,51,zam left)]) (ow8) (rfl) ?_);refine uR ?_;refine EVL.app1 tO rfl rfl rfl rfl rfl rfl rfl rfl rfl rfl rfl rfl rfl rfl rfl rfl rfl rfl rfl (fun _=>rfl) (ow8) ([(g10,51,zam left)]) (rfl) (hown8) oM fun _=>?_;intro v9 ow9 hown9;obtain⟨a9,c9,rfl⟩:=hown9.val;(first|refine EVL.swapOw (ow9) ([(g10,51,zam left)]) (rfl) ?_|refine EV.swapOw (ow9) ([(g10,51,zam left)]) (rfl) ?_);refine uR ?_;refine EV.loopK (ι:=Nat) [0,5,6,8,9,10,13,97,98,135,136] [5,6,8,13] (fun i=>[(137,.v (.int .i64 (i:Int)))]) (fun _=>[]) (fun i=>(g10,51,zam ((b.next left).take i++left.drop i))::ow9) (fun i G=>i≤b.X.length∧G8.Le G) (fun i=>b.X.length-i) (0) rfl rfl ⟨rfl,trivial⟩ trivial rfl (fun _=>rfl) (⟨qQ _,Hp.Le.refl _⟩) ?_;rintro i G9 hG9 ⟨hi,hG89⟩;have hxl:(b.next left).length=left.length:=by unfold BG.next;rw[List.length_zipWith];omega
 have hml:=zop hxl i;refine uR ?_;refine EV.cond rfl (fun hli=>?_) (fun hli=>?_)
 ·simp only[nN]at hli;obtain⟨x,hx⟩:=gE hli;obtain⟨q,hqi⟩:∃q,left[i]?=some q:=⟨_,qA oM⟩;obtain⟨ux,ex,hux,hxr⟩:=hvs.at hx;obtain⟨hxw',hx60'⟩:=hb.each x (qF hx);have hnx:(b.next left)[i]?=some (q-b.rate*(zbD x (b.tree left)).value):=zbw hx hqi;have hlb:=zeA hTB x;have hq95:=hl95 q (qF hqi);have hval:=fun (G:Hp) (hG:G9.Le G)=>zjw (hTr.mono (hG89.trans hG)) hTB.ok (SlC.mono hxr (hH8.trans (hG89.trans hG))) (by rw[hxw']) (fun q hq=>zaj (hx60' q hq) oM);have hmul:=zeE b.rate (zbD x (b.tree left)).value (zaj hr oM) (zaj hlb oM);have hmh:=zc5 b.rate (zbD x (b.tree left)).value;have hsub:=zdP q (b.rate*(zbD x (b.tree left)).value) (zaj hq95 oM) (zaj (n:=1000) oM oM)
  have hmi:((b.next left).take i++left.drop i)[i]?=some q:=by
   rw[qL (by rw[qP];omega),qP,qn oM,Nat.sub_self,List.getElem?_drop];exact hqi
  have hst:=zhf (l:=(b.next left).take i++left.drop i) (j:=i) [] (q-b.rate*(zbD x (b.tree left)).value) oM;rw[zoq hxl hnx,qG,qG]at hst;have hval':∀(G:Hp),G9.Le G→PC prog 54 #[.agg [.int .i64 2,.int .i64 0,.int .i64 (b.W:Int),.slice (some ⟨g,0,none⟩) (b.raw left).length oc].toArray,.slice ux x.length ex] G fun r _=>r=zaa (zbD x (b.tree left)).value:=hval;generalize (zbD x (b.tree left)).value=vl at *
  refine uR ?_;refine vI ((hvx8.mono hG89)) (i) (rfl) (hli) (hux) ?_;refine uR ?_;apply EV.drawn 13 kR kR;intro xv yw;(repeat refine' DD ?_);refine' DJ.idxB tO rfl rfl rfl rfl rfl rfl rfl rfl rfl (i) (i*5) (rfl) (hli) (rfl) ?_;rotate_left;refine' DJ.ofVal (zab.loadOwn tO rfl rfl rfl rfl (0) rfl (QL.at (H:=H) (v:=.bool true) hmi) rfl rfl) rfl rfl rfl ?_;rotate_left;(repeat refine' DD ?_);refine' vC (cO func54) (fun G hG hd=>hval' G hG) ?_;rotate_left;(repeat (first|refine' DD ?_|(refine' DC (hmul) (h:=?_);rotate_left)|(refine' DC (hsub) (h:=?_);rotate_left)));(refine DJ.nil (fun G1 hG1 hF1=>?_);(case hS|hS2=>rfl));refine EVL.idxB tO rfl rfl rfl rfl rfl rfl rfl rfl rfl (i) (i*5) (rfl) (hli) (rfl) ?_;refine EVL.storeOwn tO rfl rfl rfl rfl rfl rfl ([]) (ow9) rfl rfl rfl rfl ((by rw[zdd,hml];show i*5+5≤_;omega)) (hst) ?_;refine uR ?_;exact⟨i+1,⟨by rw[zad i (by omega)];rfl,trivial⟩,sB,trivial,sB,rfl,⟨hli,hG89.trans hG1⟩,hG1,by omega⟩
 ·simp only[nN]at hli;obtain rfl:i=b.X.length:=oM;rw[qO oM,List.drop_eq_nil_of_le oM,qG];refine uR ?_;exact⟨(k+1,.slice a9 (k+1) c9,ow9,tcs++[[.int .i64 2,.int .i64 0,.int .i64 (b.W:Int),.slice (some ⟨g,0,none⟩) (b.raw left).length oc]]),⟨by rw[zad k (by omega)];rfl,trivial⟩,sB,⟨rfl,trivial⟩,sB,by dsimp only;rw[hn2],⟨hlt,hG34.trans (hK48.trans hG89),by dsimp only;rw[List.flatten_append,List.flatten_cons,List.flatten_nil,qG];exact hown9,by dsimp only;rw[hn1];exact zlP (R:=fun c (t:Tr)=>zc7 G9 c t.kd t.cl t.w t.ns) (x:=[.int .i64 2,.int .i64 0,.int .i64 (b.W:Int),.slice (some ⟨g,0,none⟩) (b.raw left).length oc]) (y:=b.tree left) (hts.mono (hK48.trans hG89)) (hTr.mono hG89)⟩,hK48.trans hG89,by dsimp only;omega⟩
theorem zm6 {H:Hp} {vs:Value} {loss rounds deep least:Int} {rate tilt gain:Rat} (h:zj6 H vs loss rounds deep least rate tilt gain) (q1:rq rate) (q2:rq tilt) (q3:rq gain) :
  PC prog 16 #[vs] H fun r _=>r=.agg (zoY loss rounds deep least rate tilt gain).toArray:=by
 obtain⟨b1,a1,l1,c1,a2,l2,c2,b2,a3,l3,c3,a4,l4,c4,b3,a5,l5,c5,a6,l6,c6,rfl,h1,h2,h3⟩:=h;refine BD func16 ntmps16 ?_;refine uR ?_;apply EV.drawn 14 kR kR;intro xv yw;(repeat refine' DD ?_);refine' vC (cO func55) (fun G hG hd=>zob (RQ.mono h1 hG) q1) ?_;rotate_left;(repeat refine' DD ?_);refine' vC (cO func55) (fun G hG hd=>zob (RQ.mono h2 hG) q2) ?_;rotate_left;(repeat refine' DD ?_);refine' vC (cO func56) (fun G hG hd=>zmI (RQ.mono h3 hG) q3) ?_;rotate_left;(repeat refine' DD ?_);(refine DJ.nil (fun G1 hG1 hF1=>?_);(case hS|hS2=>rfl));refine uR ?_;rfl
end
section
open Go.ChangeShapes Go.WideShapes Go.ChangeAt Go.RowKit
def zrp (H:Hp) (v:Value):Prop:=∃n w dp ls rd rt at' tl vy vl ly ll,v=zrb n w dp ls rd rt at' tl vy vl∧(zge n∧zge w∧zge dp∧zge ls∧zge rd∧zge rt∧zge at')∧(IL H vy ly∧∀z,z∈ly→zge z)∧(IL H vl ll∧∀z,z∈ll→zge z)
theorem raw21_open {H:Type} {enc:TypeId × Value→H} {w:World} {base:Nat} {spare:Nat→Bool} {held:Bool} {v:Value} {d:DataW H} {p:List MemPlace} (hv:∃cs,v=.agg cs) (h:DataW.Trod enc Tryz.prog w base spare held 24 v d p):zrp (zsK w) v:=by
 obtain⟨cs,rfl⟩:=hv;obtain⟨fuel,h⟩:=h;obtain⟨xs,n,_,hx,hl,hlen,hf⟩:=DataW.trod_struct Tryz.underlying24 h;rw[show Tryz.prog.cellsOf 24=10 from by kernel_rfl]at hl;have hl4:cs.toList.length=10:=hl;obtain⟨l,rfl⟩:∃l:List Value,cs=l.toArray:=⟨cs.toList,by simp⟩;have hl4':l.length=10:=by simpa using hl4
 obtain⟨c0,c1,c2,c3,c4,c5,c6,c7,c8,c9,rfl⟩:=ztk hl4';have hx4:xs.length=10:=hlen;have f0:DataW.trod enc Tryz.prog w base spare held n 3 (([c0,c1,c2,c3,c4,c5,c6,c7,c8,c9].drop 0).take (Tryz.prog.cellsOf 3))=xs[0]?:=hf 0 _ rfl;have f1:DataW.trod enc Tryz.prog w base spare held n 3 (([c0,c1,c2,c3,c4,c5,c6,c7,c8,c9].drop 1).take (Tryz.prog.cellsOf 3))=xs[1]?:=hf 1 _ rfl;have f2:DataW.trod enc Tryz.prog w base spare held n 3 (([c0,c1,c2,c3,c4,c5,c6,c7,c8,c9].drop 2).take (Tryz.prog.cellsOf 3))=xs[2]?:=hf 2 _ rfl;have f3:DataW.trod enc Tryz.prog w base spare held n 3 (([c0,c1,c2,c3,c4,c5,c6,c7,c8,c9].drop 3).take (Tryz.prog.cellsOf 3))=xs[3]?:=hf 3 _ rfl;have f4:DataW.trod enc Tryz.prog w base spare held n 3 (([c0,c1,c2,c3,c4,c5,c6,c7,c8,c9].drop 4).take (Tryz.prog.cellsOf 3))=xs[4]?:=hf 4 _ rfl;have f5:DataW.trod enc Tryz.prog w base spare held n 3 (([c0,c1,c2,c3,c4,c5,c6,c7,c8,c9].drop 5).take (Tryz.prog.cellsOf 3))=xs[5]?:=hf 5 _ rfl;have f6:DataW.trod enc Tryz.prog w base spare held n 3 (([c0,c1,c2,c3,c4,c5,c6,c7,c8,c9].drop 6).take (Tryz.prog.cellsOf 3))=xs[6]?:=hf 6 _ rfl;have f7:DataW.trod enc Tryz.prog w base spare held n 4 (([c0,c1,c2,c3,c4,c5,c6,c7,c8,c9].drop 7).take (Tryz.prog.cellsOf 4))=xs[7]?:=hf 7 _ rfl;have f8:DataW.trod enc Tryz.prog w base spare held n 22 (([c0,c1,c2,c3,c4,c5,c6,c7,c8,c9].drop 8).take (Tryz.prog.cellsOf 22))=xs[8]?:=hf 8 _ rfl;have f9:DataW.trod enc Tryz.prog w base spare held n 22 (([c0,c1,c2,c3,c4,c5,c6,c7,c8,c9].drop 9).take (Tryz.prog.cellsOf 22))=xs[9]?:=hf 9 _ rfl;rw[show Tryz.prog.cellsOf 3=1 from by kernel_rfl]at f0 f1 f2 f3 f4 f5 f6;rw[show Tryz.prog.cellsOf 4=1 from by kernel_rfl]at f7;rw[show Tryz.prog.cellsOf 22=1 from by kernel_rfl]at f8 f9;rw[qA (by omega)]at f0 f1 f2 f3 f4 f5 f6 f7 f8 f9;obtain⟨z0,e0,_,w0⟩:=DataW.trod_int Tryz.underlying3 f0;obtain⟨z1,e1,_,w1⟩:=DataW.trod_int Tryz.underlying3 f1;obtain⟨z2,e2,_,w2⟩:=DataW.trod_int Tryz.underlying3 f2;obtain⟨z3,e3,_,w3⟩:=DataW.trod_int Tryz.underlying3 f3;obtain⟨z4,e4,_,w4⟩:=DataW.trod_int Tryz.underlying3 f4;obtain⟨z5,e5,_,w5⟩:=DataW.trod_int Tryz.underlying3 f5;obtain⟨z6,e6,_,w6⟩:=DataW.trod_int Tryz.underlying3 f6;obtain⟨b7,e7,_⟩:=DataW.trod_bool Tryz.underlying4 f7;obtain⟨a8,l8,k8,b8,e8,s8,d8⟩:=zi7 Tryz.underlying22 Tryz.underlying3 kR f8;obtain⟨a9,l9,k9,b9,e9,s9,d9⟩:=zi7 Tryz.underlying22 Tryz.underlying3 kR f9;have g0:[c0]=[.int .i64 z0]:=e0;have g1:[c1]=[.int .i64 z1]:=e1;have g2:[c2]=[.int .i64 z2]:=e2;have g3:[c3]=[.int .i64 z3]:=e3;have g4:[c4]=[.int .i64 z4]:=e4;have g5:[c5]=[.int .i64 z5]:=e5;have g6:[c6]=[.int .i64 z6]:=e6;have g7:[c7]=[.bool b7]:=e7;have g8:[c8]=[.slice a8 l8 k8]:=e8;have g9:[c9]=[.slice a9 l9 k9]:=e9;cases g0;cases g1;cases g2;cases g3;cases g4;cases g5;cases g6;cases g7;cases g8;cases g9;exact⟨z0,z1,z2,z3,z4,z5,z6,b7,_,_,b8,b9,rfl,⟨zbi w0,zbi w1,zbi w2,zbi w3,zbi w4,zbi w5,zbi w6⟩,⟨s8,fun z hz=>zbi (d8 z hz)⟩,⟨s9,fun z hz=>zbi (d9 z hz)⟩⟩
theorem zr8 (z:Int):Gr 12 20 (znp z):=by
 unfold znp;have hrd:=ze5 (z.tdiv 41 % 6).toNat
 have m1:=Int.emod_nonneg z (show (41:Int)≠0 by omega);have m2:=Int.emod_lt_of_pos z (show (0:Int)<41 by omega);generalize zra (z.tdiv 41 % 6).toNat=d at *
 generalize hn:z % 41-20=n at *
 rw[Rat.divInt_eq_div];have hd:d=1∨d=2∨d=3∨d=4:=oM;have h12:(((12:Nat):Int):Rat)=12:=rfl;rcases hd with rfl | rfl | rfl | rfl
 ·exact⟨n*12,by rw[h12,Rat.intCast_mul];have:((1:Int):Rat)=1:=rfl;have:((12:Int):Rat)=12:=rfl;grind,by omega⟩
 ·exact⟨n*6,by rw[h12,Rat.intCast_mul];have:((2:Int):Rat)=2:=rfl;have:((6:Int):Rat)=6:=rfl;grind,by omega⟩
 ·exact⟨n*4,by rw[h12,Rat.intCast_mul];have:((3:Int):Rat)=3:=rfl;have:((4:Int):Rat)=4:=rfl;grind,by omega⟩
 ·exact⟨n*3,by rw[h12,Rat.intCast_mul];have:((4:Int):Rat)=4:=rfl;have:((3:Int):Rat)=3:=rfl;grind,by omega⟩
theorem zsg {l:List Int} {n:Nat}:∀q,q∈zj2 l n→Gr 12 20 q:=fun q hq=>by
 obtain⟨i,hi,rfl⟩:=List.mem_map.1 hq;split
 ·exact zr8 _
 ·exact Gr.zero _ _
def ztJ (n w dp ls rt at':Int) (tl:Bool) (ll:List Int):BG:=⟨if tl then 2 else 1,Rat.divInt 1 (1+rt % 4),zkU tl at',ze7 ll (1+n % 8).toNat (1+w % 3).toNat,(1+w % 3).toNat,(dp % 3).toNat,1+ls % 3,0⟩
theorem zsb (r:Int):(0<Rat.divInt 1 (1+r % 4)∧Rat.divInt 1 (1+r % 4)≤1)∧(Rat.divInt 1 (1+r % 4)).den≤4:=by
 have h:r % 4=0∨r % 4=1∨r % 4=2∨r % 4=3:=oM;rcases h with h | h | h | h <;> rw[h] <;> decide +kernel
theorem zsx (a:Int):(0<zkU true a∧zkU true a<1)∧ht (zkU true a)≤10:=by
 unfold zkU;have h:a % 5=0∨a % 5=1∨a % 5=2∨a % 5=3∨a % 5=4:=oM;rcases h with h | h | h | h | h <;> rw[h] <;> decide +kernel
theorem zsc (n w dp ls rt at':Int) (tl:Bool) (ll:List Int):(ztJ n w dp ls rt at' tl ll).Ok:=by
 have h1:=zeK ll (1+n % 8).toNat (1+w % 3).toNat
 obtain⟨r1,r2⟩:=zsb rt;obtain⟨t1,t2⟩:=zsx at';have hn:=Int.emod_nonneg n (show (8:Int)≠0 by omega);have hn2:=Int.emod_lt_of_pos n (show (0:Int)<8 by omega);have hw:=Int.emod_nonneg w (show (3:Int)≠0 by omega);have hw2:=Int.emod_lt_of_pos w (show (0:Int)<3 by omega);have hl:=Int.emod_nonneg ls (show (3:Int)≠0 by omega);have hl2:=Int.emod_lt_of_pos ls (show (0:Int)<3 by omega);have hd2:=Int.emod_lt_of_pos dp (show (0:Int)<3 by omega);refine⟨?_,r1,?_,?_,⟨r2,?_⟩,?_,?_,fun x hx=>zm5 x hx,?_,?_,?_⟩
 ·cases tl
  ·exact .inl rfl
  ·exact .inr rfl
 ·cases tl
  ·exact fun _=>rfl
  ·exact fun k=>absurd k (by decide:¬(2:Int)=1)
 ·cases tl
  ·exact fun k=>absurd k (by decide:¬(1:Int)=2)
  ·exact fun _=>t1
 ·cases tl
  ·show ht 0≤10;rw[zct];decide
  ·exact t2
 ·show 1≤(ze7 ll (1+n % 8).toNat (1+w % 3).toNat).length∧(ze7 ll (1+n % 8).toNat (1+w % 3).toNat).length≤8;rw[h1];omega
 ·show 1≤(1+w % 3).toNat∧(1+w % 3).toNat≤20;omega
 ·show (dp % 3).toNat≤10;omega
 ·show 1≤1+ls % 3∧1+ls % 3≤300;omega
 ·exact⟨Rat.le_refl,by show ht 0≤10;rw[zct];decide⟩
theorem zqU {r K:Nat} (hr:r≤4) (hK:K≤6):bl ((2*20*2 ^ K)*(12*840*(840*r) ^ K))≤95:=by
 by_cases h0:r=0
 ·subst h0;refine qI (zaX (Nat.mul_le_mul (qb _ (qc oM hK)) (qb _ (show (840*0) ^ K≤1 by rw[Nat.mul_zero];cases K with | zero=>exact qH _ | succ k=>rw[Nat.zero_pow (by omega)];omega)))) (zaU (by decide))
 exact qI (zaX (Nat.mul_le_mul (qb _ (qc oM hK)) (qb _ (qI (qc oM hK) (Nat.pow_le_pow_left (qb 840 hr) 6))))) (zaU (by decide))
theorem zoz {H:Hp} {v:Value} (h:zrp H v):PC Tryz.prog 7 #[v] H fun r G=>∃(b:BG) (y:List Rat) (K:Nat) (vx vv vs:Value),r=.tuple #[vx,vv,vs]∧b.Ok∧RLL G vx b.X∧RL G vv y∧zj6 G vs b.loss (K:Int) (b.D:Int) b.least b.rate b.tilt b.gain∧y.length=b.X.length∧(∀q,q∈y→Gr 12 20 q)∧K≤3∧b.gain=0∧b.W≤3:=by
 obtain⟨n,w,dp,ls,rd,rt,at',tl,vy,vl,ly,ll,rfl,⟨hn,hw,hdp,hls,hrd,hrt,hat⟩,⟨hy,hyb⟩,hl,hlb⟩:=h;have e1:=Int.emod_nonneg n (show (8:Int)≠0 by omega);have e2:=Int.emod_nonneg w (show (3:Int)≠0 by omega);have e3:=Int.emod_nonneg dp (show (3:Int)≠0 by omega);have e4:=Int.emod_nonneg rd (show (4:Int)≠0 by omega);have e5:=Int.emod_lt_of_pos rd (show (0:Int)<4 by omega);have e6:=Int.emod_lt_of_pos w (show (0:Int)<3 by omega);refine(zqb n w dp ls rd rt at' tl hn hw hdp hls hrd hrt hat hy hyb hl hlb (N:=(1+n % 8).toNat) (W:=(1+w % 3).toNat) oM oM).mono ?_;rintro r G ⟨vx,vv,vs,rfl,r1,r2,r3⟩ hG;refine⟨ztJ n w dp ls rt at' tl ll,_,(rd % 4).toNat,vx,vv,vs,rfl,zsc ..,r1,r2,?_,?_,zsg,by omega,rfl,by show (1+w % 3).toNat≤3;omega⟩
 ·rw[show (((rd % 4).toNat:Nat):Int)=rd % 4 by omega,show ((ztJ n w dp ls rt at' tl ll).D:Int)=dp % 3 by show (((dp % 3).toNat:Nat):Int)=dp % 3;omega];exact r3
 ·show (zj2 ly (1+n % 8).toNat).length=(ze7 ll (1+n % 8).toNat (1+w % 3).toNat).length;rw[zfD,zeK]
end
section
open Go.RowKit _root_.Go.Proofs.Tryz
theorem zdG.e {W:Nat} {t:Tr} (h:zdG W t):zgZ (W:Int) t=0:=by
 have h1:t.ns≠[]:=fun e=>by have:=h.len.1;rw[e]at this;exact absurd this (by decide)
 have hc:zlj t=0:=by
  unfold zlj;rw[if_neg (fun k=>k (.inr h.kd)),if_neg];rintro (k | k)
  ·rw[h.kd]at k;exact absurd k (by decide)
  ·exact h1 k
 unfold zgZ;rw[if_neg (fun k=>k hc),if_neg];rintro (k | k)
 ·exact k h.kd
 ·exact k h.wide
theorem zki {loss:Int} {W:Nat} {rate tilt:Rat} {ts:List Tr} (h0:loss=1∨loss=2) (hW:1≤W∧W≤20) (hl:ts.length≤50) (hr:zdI loss rate tilt=true) (ht:∀t,t∈ts→zdG W t):zcb loss (W:Int) rate tilt ts=0:=by
 rw[zli h0 oM hr];exact zhC fun t h=>(ht t (List.mem_of_mem_take h)).e
theorem zqe {H:Hp} {loss w:Int} {W k:Nat} {base rate tilt:Rat} {ta:Option Addr} {tc:Nat} {ts:List Tr} (ht':PTL H (.slice ta ts.length tc) ts) (hx':∀t,t∈ts→zdG W t) (hr:sm rate) (hq:sm tilt) (hl:ts.length≤1000) (hc0:zcb loss w rate tilt ts=0) (hk:k≤ts.length) :
  PC prog 31 #[.agg (zbY loss w base rate tilt (.slice ta ts.length tc)).toArray,.int .i64 (k:Int)] H fun r G=>∃a c,r=.tuple #[.agg (zbY loss w base rate tilt (.slice a k c)).toArray,.int .i64 0]∧PTL G (.slice a k c) (ts.take k):=by
 by_cases h0:0<k
 ·exact zr1 ht' hx' hr hq hl hc0 h0 hk
 obtain rfl:k=0:=oM;have hck:=ze1 (loss:=loss) (w:=w) (base:=base) ht' (fun t h=>(hx' t h).x) hr hq oM;rw[hc0]at hck;rw[List.take_zero]
 have hcap:ts.length≤tc∨ts.length=0:=by
  obtain⟨tcs,_,hs⟩:=ht';rcases hs.2 with ⟨e,_⟩ | ⟨_,_,_,_,e,h,_⟩
  ·exact .inr e
  ·cases e;exact .inl h
 refine BD func31 ntmps31 ?_
 repeat (first|refine RUN ?_|refine CV (hck) ?_|refine CE (hck) ?_)
 rw[qC (show ¬(((0:Nat):Int))>(ts.length:Int) by omega)];refine uR ?_;refine EVL.slc (te':=Tryz.te116) tO rfl rfl rfl rfl rfl rfl rfl rfl 0 0 (.inl ⟨rfl,rfl⟩) (.inr ⟨_,IntKind.i64,rfl,rfl⟩) (qQ _) (qQ _) oM ?_;refine uR ?_;refine vW ([]) ([]) (zmo) ?_;rintro _ ow G1 ⟨a1,c1,rfl⟩ hG1;refine uR ?_;refine EV.loopK (ι:=Nat) [2,4,32,33] [2,4] (fun q=>[(34,.v (.int .i64 (q:Int)))]) (fun _=>[]) (fun _=>ow++[]) (fun q _=>q=0) (fun q=>0) (0) rfl rfl ⟨rfl,trivial⟩ trivial rfl (fun _=>rfl) (rfl) ?_;rintro i G2 hG2 rfl;refine uR ?_;exact⟨_,_,rfl,[],⟨rfl,fun j c t e=>by cases e⟩,rfl,.inl ⟨rfl,_,_,rfl⟩⟩
abbrev z5:List Value:=[.bool false,.int .u64 0,.string ⟨#[]⟩,.int .u64 0,.string ⟨#[]⟩]
theorem ztu:z5=zaf (zaa 0):=zan.symm
theorem zrP {H:Hp} {vx vy:Value} (hX:QLL H vx [[0],[0],[0]]) (hy:QL H vy zg3):PC prog 13 #[vx,vy,.agg (.int .i64 1::.int .i64 0::(zaf (zaa (1 / 2))++(z5++(.int .i64 0::.int .i64 1::z5)))).toArray] H fun r _=>r=.tuple #[.agg (zbY 1 1 3 (1 / 2) 0 (.slice none 0 0)).toArray,.int .i64 0]:=by
 have h:=zlK zpZ (y:=zg3) hX hy rfl (by decide +kernel) (by rw[zod];decide +kernel) (by decide +kernel);rw[zod]at h;rw[ztu];exact h
theorem zrQ {H:Hp} {vx vy:Value} (hX:QLL H vx [[0],[0],[0]]) (hy:QL H vy zg3):PC prog 13 #[vx,vy,.agg (.int .i64 2::.int .i64 0::(zaf (zaa (1 / 2))++(zaf (zaa (1 / 2))++(.int .i64 0::.int .i64 1::z5)))).toArray] H fun r _=>r=.tuple #[.agg (zbY 2 1 2 (1 / 2) (1 / 2) (.slice none 0 0)).toArray,.int .i64 0]:=by
 have h:=zlK zp0 (y:=zg3) hX hy rfl (by decide +kernel) (by rw[zoe];decide +kernel) (by decide +kernel);rw[zoe]at h;rw[ztu];exact h
theorem zkI {H:Hp} {b m s:Nat} {cs:List Value} (h:H b=some cs.toArray) (hl:cs.length=m*s):SlC H (.slice (some ⟨b,0,none⟩) m m) m s cs:=⟨hl,.inr ⟨b,0,m,_,rfl,qH _,h,fun j x hj=>by rw[qt];simpa using hj⟩⟩
theorem zkH {G:Hp} {b:Nat} {c0 c1 c2:Value} {q:Rat} (h:G b=some #[c0,c1,c2]) (hx:RQ G (.agg #[c0,c1,c2]) q):RL G (.slice (some ⟨b,0,none⟩) 1 1) [q]:=RL.one (x:=.agg #[c0,c1,c2]) (zkI (cs:=[c0,c1,c2]) h rfl) hx
theorem zr0 {G:Hp} {b:Nat} {c0 c1 c2 d0 d1 d2 e0 e1 e2:Value} {p q r:Rat} (h:G b=some #[c0,c1,c2,d0,d1,d2,e0,e1,e2]) (h1:RQ G (.agg #[c0,c1,c2]) p) (h2:RQ G (.agg #[d0,d1,d2]) q) (h3:RQ G (.agg #[e0,e1,e2]) r):RL G (.slice (some ⟨b,0,none⟩) 3 3) [p,q,r] :=
 ⟨[.agg #[c0,c1,c2],.agg #[d0,d1,d2],.agg #[e0,e1,e2]],rfl,fun j v x e1 e2=>(by
  match j,e1,e2 with
  | 0,e1,e2=>cases e1;cases e2;exact h1
  | 1,e1,e2=>cases e1;cases e2;exact h2
  | 2,e1,e2=>cases e1;cases e2;exact h3),zkI (cs:=[c0,c1,c2,d0,d1,d2,e0,e1,e2]) h rfl⟩
set_option maxRecDepth 100000 in
theorem zmJ {H:Hp}:PC prog 12 #[] H fun r _=>r=.bool true:=by
 have hof:=fun (z:Int) (h1:-9223372036854775808≤z) (h2:z<9223372036854775808) (G:Hp)=>zfB (H:=G) z h1 h2;have hov:PV prog 44 #[.int .i64 1,.int .i64 2] (.tuple #[zaa (1 / 2),.bool true]):=(zqd 1 2 oM oM).of_eq (by rw[show mkRat 1 (2:Int).natAbs=1 / 2 by decide +kernel]);have i1:=fun G:Hp=>zs1 (H:=G) 3 (by show ht 3≤_;decide +kernel) 3 1 oM oM oM oM oM (by decide +kernel);have i2:=fun G:Hp=>zs1 (H:=G) 2 (by show ht 2≤_;decide +kernel) 2 1 oM oM oM oM oM (by decide +kernel);refine BD func12 ntmps12 ?_;refine uR ?_;refine EVL.call rfl rfl rfl rfl rfl (hof 0 oM oM _) ?_;rintro r1 G1 h1 hG1;obtain⟨_,_,_,_,_,_,rfl,_⟩:=id h1;refine uR ?_;refine EVL.lit tO rfl rfl rfl rfl rfl rfl rfl rfl rfl rfl rfl fun b1=>?_;(first|refine EVL.publish [] [] rfl fun G2 hG2 hb1=>?_|refine EV.publish [] [] rfl fun G2 hG2 hb1=>?_);have l1:RL G2 (.slice (some ⟨b1,0,none⟩) 1 1) [((0:Int):Rat)]:=zkH hb1 (h1.mono hG2);refine uR ?_;refine EVL.call rfl rfl rfl rfl rfl (hof 0 oM oM _) ?_;rintro r2 G3 h2 hG3;obtain⟨_,_,_,_,_,_,rfl,_⟩:=id h2;refine uR ?_;refine EVL.lit tO rfl rfl rfl rfl rfl rfl rfl rfl rfl rfl rfl fun b2=>?_;(first|refine EVL.publish [] [] rfl fun G4 hG4 hb2=>?_|refine EV.publish [] [] rfl fun G4 hG4 hb2=>?_);have l2:RL G4 (.slice (some ⟨b2,0,none⟩) 1 1) [((0:Int):Rat)]:=zkH hb2 (h2.mono hG4);refine uR ?_;refine EVL.call rfl rfl rfl rfl rfl (hof 0 oM oM _) ?_;rintro r3 G5 h3 hG5;obtain⟨_,_,_,_,_,_,rfl,_⟩:=id h3;refine uR ?_;refine EVL.lit tO rfl rfl rfl rfl rfl rfl rfl rfl rfl rfl rfl fun b3=>?_;(first|refine EVL.publish [] [] rfl fun G6 hG6 hb3=>?_|refine EV.publish [] [] rfl fun G6 hG6 hb3=>?_);have l3:RL G6 (.slice (some ⟨b3,0,none⟩) 1 1) [((0:Int):Rat)]:=zkH hb3 (h3.mono hG6);refine uR ?_;refine EVL.lit tO rfl rfl rfl rfl rfl rfl rfl rfl rfl rfl rfl fun b4=>?_;(first|refine EVL.publish [] [] rfl fun G7 hG7 hb4=>?_|refine EV.publish [] [] rfl fun G7 hG7 hb4=>?_)
 have hX:RLL G7 (.slice (some ⟨b4,0,none⟩) 3 3) [[((0:Int):Rat)],[((0:Int):Rat)],[((0:Int):Rat)]]:=⟨[.slice (some ⟨b1,0,none⟩) 1 1,.slice (some ⟨b2,0,none⟩) 1 1,.slice (some ⟨b3,0,none⟩) 1 1],⟨rfl,fun j v x e1 e2=>(by
  match j,e1,e2 with
  | 0,e1,e2=>cases e1;cases e2;exact l1.mono (hG3.trans (hG4.trans (hG5.trans (hG6.trans hG7))))
  | 1,e1,e2=>cases e1;cases e2;exact l2.mono (hG5.trans (hG6.trans hG7))
  | 2,e1,e2=>cases e1;cases e2;exact l3.mono hG7)⟩,zkI hb4 rfl⟩
 refine uR ?_;refine vA (zi5 hX (by decide) (show ∀x,x∈[[((0:Int):Rat)],[((0:Int):Rat)],[((0:Int):Rat)]]→x.length≤1000000∧∀q,q∈x→ht q≤100000000 by decide +kernel)) ?_;rintro r4 G8 hX8 hG8;obtain⟨xa,xc,rfl⟩:=hX8.val;refine uR ?_;refine EVL.call rfl rfl rfl rfl rfl (hof 1 oM oM _) ?_;rintro r5 G9 h5 hG9;obtain⟨_,_,_,_,_,_,rfl,_⟩:=id h5;refine uR ?_;refine EVL.call rfl rfl rfl rfl rfl (hof 2 oM oM _) ?_;rintro r6 G10 h6 hG10;obtain⟨_,_,_,_,_,_,rfl,_⟩:=id h6;refine uR ?_;refine EVL.call rfl rfl rfl rfl rfl (hof 6 oM oM _) ?_;rintro r7 G11 h7 hG11;obtain⟨_,_,_,_,_,_,rfl,_⟩:=id h7;refine uR ?_;refine EVL.lit tO rfl rfl rfl rfl rfl rfl rfl rfl rfl rfl rfl fun b5=>?_;(first|refine EVL.publish [] [] rfl fun G12 hG12 hb5=>?_|refine EV.publish [] [] rfl fun G12 hG12 hb5=>?_);have hY:RL G12 (.slice (some ⟨b5,0,none⟩) 3 3) [((1:Int):Rat),((2:Int):Rat),((6:Int):Rat)]:=zr0 hb5 (h5.mono (hG10.trans (hG11.trans hG12))) (h6.mono (hG11.trans hG12)) (h7.mono hG12);refine uR ?_;refine vA (zh3 hY (by decide) (show ∀q,q∈[((1:Int):Rat),((2:Int):Rat),((6:Int):Rat)]→ht q≤100000000 by decide +kernel)) ?_;rintro r8 G13 hY13 hG13;obtain⟨ya,yc,rfl⟩:=SlC.val hY13;have hX13:=hX8.mono (hG9.trans (hG10.trans (hG11.trans (hG12.trans hG13))))
 repeat (first|refine RUN ?_|refine CV (hov) ?_|refine CE (hov) ?_)
 refine vA (zrP hX13 hY13) ?_;rintro _ G14 rfl hG14;refine uR ?_;refine vA (zrQ (hX13.mono hG14) (SlC.mono hY13 hG14)) ?_;rintro _ G15 rfl hG15;have j1:=i1 G15;have j2:=i2 G15
 repeat (first|refine RUN ?_|refine CV (j1) ?_|refine CV (j2) ?_|refine CE (j1) ?_|refine CE (j2) ?_)
 rfl
structure ztD (b:BG) (y:List Rat) (K:Nat):Prop where
 trees:∀t,t∈(b.fit y K).1→zdG b.W t
 len:(b.fit y K).1.length=K
 mid:ht (b.mid y)≤95
 rate:ht b.rate≤10
 y95:∀q,q∈y→ht q≤95
 check:zcb b.loss (b.W:Int) b.rate b.tilt (b.fit y K).1=0
theorem zsZ {b:BG} (hb:b.Ok) {y:List Rat} {K D A:Nat} (hyl:y.length=b.X.length) (hD:1≤D) (hA:1≤A) (hg:∀q,q∈y→Gr D A q) (hK:K≤50) (hbl:bl ((2*A*2 ^ K)*(D*840*(840*b.rate.den) ^ K))≤95):ztD b y K:=by
 have hT:=(hb.fit hD hA hg hyl hbl K (qH _)).2;have hln:=(b.fit_len y hyl K).2;have hrd:=b.rate.den_nz;have hb0:bl (A*(D*840))≤95:=qI (zaX (Nat.mul_le_mul (by rw[qW 2 A,Nat.mul_assoc];exact Nat.le_mul_of_pos_right A (Nat.mul_pos oM (Nat.pow_pos oM))) (Nat.le_mul_of_pos_right _ (Nat.pow_pos oM)))) hbl;refine⟨hT,hln,qI ((hb.mid_gr hg hyl).bits oM hA) hb0,?_,fun q k=>qI (((hg q k).up 840).bits oM hA) hb0,zki hb.loss ⟨hb.wide.1,hb.wide.2⟩ oM (zqq hb) hT⟩;have h:=hb.rd.bits oM oM;rw[Nat.one_mul]at h;exact qI h (qI (zaX hb.den.1) (zaU (by decide)))
theorem zpT (b:BG) (y:List Rat) (hyl:y.length=b.X.length) {i K:Nat} (h:i≤K):(b.fit y K).1.take i=(b.fit y i).1:=by
 obtain⟨m,e⟩:=b.fit_pre y i (K-i);rw[show i+(K-i)=K by omega]at e;rw[e,List.take_left' (b.fit_len y hyl i).2]
end
section
theorem zdq.leaf_iff {T:List Nd} {x:List Rat} {k:Nat} {l:List Int} (h:zdq T x k l):∀{j i:Nat} {n:Nd},zfQ T x k j→T[i]?=some n→n.col = -1→((i:Int)∈l↔i=j):=by
 induction h with
 | @here k n1 h1 h2 =>
  intro j i n hl hi hc;obtain rfl:=(zfQ.here h1 h2).det hl;rw[pJ];omega
 | @low k l n1 h1 h2 h3 _ ih =>
  intro j i n hl hi hc
  have hl':zfQ T x n1.left.toNat j:=by
   cases hl with
   | here e c=>rw[h1]at e;cases e;exact absurd c h2
   | low e _ _ r=>rw[h1]at e;cases e;exact r
   | high e _ c _=>rw[h1]at e;cases e;exact absurd h3 c
  rw[List.mem_cons,ih hl' hi hc];refine⟨fun q=>q.resolve_left fun e=>?_,.inr⟩;rw[show i=k by omega,h1]at hi;cases hi;exact h2 hc
 | @high k l n1 h1 h2 h3 _ ih =>
  intro j i n hl hi hc
  have hl':zfQ T x n1.right.toNat j:=by
   cases hl with
   | here e c=>rw[h1]at e;cases e;exact absurd c h2
   | low e _ c _=>rw[h1]at e;cases e;exact absurd c h3
   | high e _ _ r=>rw[h1]at e;cases e;exact r
  rw[List.mem_cons,ih hl' hi hc];refine⟨fun q=>q.resolve_left fun e=>?_,.inr⟩;rw[show i=k by omega,h1]at hi;cases hi;exact h2 hc
theorem zfQ.col {T:List Nd} {x:List Rat} {k j:Nat} (h:zfQ T x k j):∃n,T[j]?=some n∧n.col = -1:=by
 induction h with
 | here h1 h2=>exact⟨_,h1,h2⟩
 | low _ _ _ _ ih=>exact ih
 | high _ _ _ _ ih=>exact ih
theorem zry (l:List Rat) {n:Nat} (h:l.length=n):atR l (zbd n)=l:=by
 subst h;refine List.ext_getElem? fun i=>?_;unfold atR zbd;rw[List.map_map,qK];by_cases hi:i<l.length
 ·rw[List.getElem?_range hi,qA hi];show some (l.getD ((i:Int)).toNat 0)=_;rw[qU,qB,qA hi];rfl
 ·rw[qe (by rw[List.length_range];omega),qe (by omega)];rfl
theorem BG.next_rows (b:BG) {left:List Rat} (h:left.length=b.X.length):b.next left=(zbd b.X.length).map fun r=>left.getD r.toNat 0-b.rate*(zbD (b.X.getD r.toNat []) (b.tree left)).value:=by
 refine List.ext_getElem? fun i=>?_;unfold BG.next zbd;rw[List.map_map,qK];by_cases hi:i<b.X.length
 ·rw[zbw (qA hi) (qA (show i<left.length by omega)),List.getElem?_range hi];show _=some (left.getD ((i:Int)).toNat 0-b.rate*(zbD (b.X.getD ((i:Int)).toNat []) (b.tree left)).value);rw[qU,qB,qA (show i<left.length by omega),qB,qA hi];rfl
 ·rw[qe (by rw[List.length_zipWith];omega),qe (by rw[List.length_range];omega)];rfl
end
section
theorem zgN (f g:Int→Rat) (J:Int→Nat):∀(n:Nat) (R:List Int),R.length≤n→(∀r,r∈R→zaB ((R.filter fun s=>decide (J s=J r)).map f)≤zaB ((R.filter fun s=>decide (J s=J r)).map g))→zaB (R.map f)≤zaB (R.map g)
 | _,[],_,_=>Rat.le_refl
 | 0,r::R,h,_=>by simp at h
 | n+1,r::R,h,hc=>by
  have h1:=hc r (qf ..);have hp:=zf8 (r::R) fun s=>decide (J s=J r)
  have e:∀f:Int→Rat,zaB ((r::R).map f)=zaB (((r::R).filter fun s=>decide (J s=J r)).map f)+zaB (((r::R).filter fun s => !decide (J s=J r)).map f):=fun f=>by
   rw[zgM (hp.map f),qo,zea]
  have hl:((r::R).filter fun s => !decide (J s=J r)).length≤n:=by
   rw[List.filter_cons_of_neg (by simp)];exact qI (List.length_filter_le _ _) (by simpa using h)
  have h2:=zgN f g J n _ hl fun s hs=>by
   obtain⟨hs1,hs2⟩:=List.mem_filter.1 hs;have hne:J s≠J r:=by simpa using hs2
   rw[List.filter_filter,show (fun a=>decide (J a=J s) && !decide (J a=J r))=fun a=>decide (J a=J s) from funext fun a=>by
    by_cases h:J a=J s
    ·simp[h,hne]
    ·simp[h]]
   exact hc s hs1
  rw[e f,e g];grind
def tlQ (a t:Rat):Rat:=if 0≤t then a*t else (a-1)*t
theorem zjc (a t:Rat):zbs 2 a t=tlQ a t:=by unfold zbs tlQ;rw[if_neg (by decide)]
theorem zl6 {a:Rat} (t:Rat):a*t≤tlQ a t∧(a-1)*t≤tlQ a t:=by
 unfold tlQ;split
 ·exact⟨Rat.le_refl,by grind⟩
 ·exact⟨by grind,Rat.le_refl⟩
theorem zqI {a s q m:Rat} (h0:0≤s) (h1:s≤1):tlQ a (q-s*m)≤(1-s)*tlQ a q+s*tlQ a (q-m):=by
 obtain⟨g1,g2⟩:=zl6 (a:=a) q;obtain⟨g3,g4⟩:=zl6 (a:=a) (q-m);have h2:0≤1-s:=by grind
 have k1:=Rat.mul_le_mul_of_nonneg_left g1 h2;have k2:=Rat.mul_le_mul_of_nonneg_left g2 h2;have k3:=Rat.mul_le_mul_of_nonneg_left g3 h0;have k4:=Rat.mul_le_mul_of_nonneg_left g4 h0;generalize tlQ a q=A at *
 generalize tlQ a (q-m)=B at *
 unfold tlQ;split
 ·grind
 ·grind
theorem zrh {a s m:Rat} (h0:0≤s) (h1:s≤1):∀P:List Rat,zaB (P.map fun q=>tlQ a (q-s*m))≤(1-s)*zaB (P.map (tlQ a))+s*zaB (P.map fun q=>tlQ a (q-m))
 | []=>by
  rw[List.map_nil,List.map_nil,List.map_nil,zb3];grind
 | q::P=>by
  have ih:=zrh (a:=a) (m:=m) h0 h1 P;have hc:=zqI (a:=a) (q:=q) (m:=m) h0 h1;rw[qw,qw,qw,zar,zar,zar];generalize zaB (P.map (tlQ a))=A at *
  generalize zaB (P.map fun q=>tlQ a (q-m))=B at *
  generalize tlQ a q=C at *
  generalize tlQ a (q-m)=D at *
  grind
theorem zix {a m:Rat} (p:Rat→Bool):∀P:List Rat,(∀q,q∈P→m*(if p q then a-1 else a)≤tlQ a q-tlQ a (q-m))→m*(a*((P.length:Int):Rat)-(((P.countP p:Nat):Int):Rat))≤zaB (P.map (tlQ a))-zaB (P.map fun q=>tlQ a (q-m))
 | [],_=>by
  rw[List.map_nil,List.map_nil,zb3,List.countP_nil,show ((([]:List Rat).length:Int):Rat)=0 from rfl,show (((0:Nat):Int):Rat)=0 from rfl];grind
 | q::P,h=>by
  have ih:=zix p P fun q k=>h q (qk _ k);have hq:=h q (qf ..);rw[qw,qw,zar,zar,qR,List.countP_cons];have e1:(((P.length+1:Nat):Int):Rat)=((P.length:Int):Rat)+1:=by rw[Int.natCast_add,Rat.intCast_add];rfl
  rw[e1];generalize zaB (P.map (tlQ a))=A at *
  generalize zaB (P.map fun q=>tlQ a (q-m))=B at *
  generalize tlQ a q=C at *
  generalize tlQ a (q-m)=D at *
  generalize ((P.length:Int):Rat)=n at *
  by_cases hp:p q=true
  ·rw[if_pos hp]at hq ⊢;rw[Int.natCast_add,Rat.intCast_add,show (((1:Nat):Int):Rat)=1 from rfl];generalize (((P.countP p:Nat):Int):Rat)=c at *
   grind
  ·rw[if_neg hp]at hq ⊢;rw[qY];generalize (((P.countP p:Nat):Int):Rat)=c at *
   grind
theorem znc {a:Rat} {P:List Rat} (h0:0<a) (h1:a<1) (hP:1≤P.length):((((P.countP fun q=>decide (q<zfz a P)):Nat):Int):Rat)≤a*((P.length:Int):Rat)∧a*((P.length:Int):Rat)≤((((P.countP fun q=>decide (q≤zfz a P)):Nat):Int):Rat):=by
 have hk:=zfI h1 hP;have ha:=ziw h1 hP;have hm:=fun k=>zgP (a:=a) (n:=P.length) (k:=k);have hperm:=zcE P;have hsl:=hperm.length_eq;have hris:=zfn P;generalize hK:zg5 a P.length=K at *
 have hmid:(zdJ P)[K]?=some (zfz a P):=by
  unfold zfz;rw[hK,qB,qA oM,Option.getD_some]
 generalize zfz a P=m at *
 have hc1:∀p:Rat→Bool,P.countP p=(zdJ P).countP p:=fun p=>(hperm.countP_eq p).symm;rw[hc1,hc1];generalize zdJ P=S at *
 have hKS:=(qE.1 hmid).1;have hKe:=(qE.1 hmid).2
 have hsp:S=S.take K++(m::S.drop (K+1)):=by
  rw[←hKe,←qp hKS,List.take_append_drop]
 have hris2:List.Pairwise (·≤·) (S.take K++(m::S.drop (K+1))):=by rw[←hsp];exact hris
 rw[List.pairwise_append]at hris2;obtain⟨_,q2,q3⟩:=hris2;have q4:=(List.pairwise_cons.1 q2).1;have htl:(S.take K).length=K:=by rw[qP];omega
 have c1:S.countP (fun q=>decide (q<m))≤K:=by
  rw[hsp,List.countP_append]
  have z:(m::S.drop (K+1)).countP (fun q=>decide (q<m))=0:=List.countP_eq_zero.2 fun q hq=>by
   have hmq:m≤q:=by
    rcases List.mem_cons.1 hq with rfl | h
    ·exact Rat.le_refl
    ·exact q4 q h
   simp only[decide_eq_true_eq];exact fun k=>absurd k (Rat.not_lt.2 hmq)
  have:=List.countP_le_length (l:=S.take K) (p:=fun q=>decide (q<m));omega
 have c2:K+1≤S.countP (fun q=>decide (q≤m)):=by
  rw[hsp,List.countP_append,List.countP_cons];have z:(S.take K).countP (fun q=>decide (q≤m))=(S.take K).length:=List.countP_eq_length.2 fun q hq=>qD (q3 q hq m (qf ..));have:decide (m≤m)=true:=qD Rat.le_refl;rw[z,this,htl,if_pos rfl];omega
 constructor
 ·refine Rat.le_trans (Rat.intCast_le_intCast.2 (Int.ofNat_le.2 c1)) ?_;by_cases hz:K=0
  ·rw[hz];have h2:(0:Rat)≤((P.length:Int):Rat):=Rat.intCast_nonneg.2 oM;have:=Rat.mul_le_mul_of_nonneg_left h2 (Rat.le_of_lt h0);rw[Rat.mul_zero]at this;exact this
  ·have:=hm (K-1) oM;rw[show K-1+1=K by omega]at this;exact Rat.le_of_lt (Rat.not_le.1 this)
 ·exact Rat.le_trans ha (Rat.intCast_le_intCast.2 (Int.ofNat_le.2 c2))
theorem znd {a:Rat} {P:List Rat} (h0:0<a) (h1:a<1) (hP:1≤P.length):zaB (P.map fun q=>tlQ a (q-zfz a P))≤zaB (P.map (tlQ a)):=by
 obtain⟨c1,c2⟩:=znc h0 h1 hP;generalize zfz a P=m at *
 by_cases hm:0≤m
 ·have hs:=zix (a:=a) (m:=m) (fun q=>decide (q<m)) P fun q _=>by
   obtain⟨g1,g2⟩:=zl6 (a:=a) q;by_cases hq:q<m
   ·rw[if_pos (qD hq),show tlQ a (q-m)=(a-1)*(q-m) from if_neg (by grind)];grind
   ·rw[if_neg (by simpa using hq),show tlQ a (q-m)=a*(q-m) from if_pos (by grind)];grind
  have hz:=Rat.mul_le_mul_of_nonneg_left (show 0≤a*((P.length:Int):Rat)-((((P.countP fun q=>decide (q<m)):Nat):Int):Rat) by grind) hm;grind
 ·have hs:=zix (a:=a) (m:=m) (fun q=>decide (q≤m)) P fun q _=>by
   obtain⟨g1,g2⟩:=zl6 (a:=a) q;by_cases hq:q≤m
   ·rw[if_pos (qD hq)];by_cases e:q=m
    ·subst e;rw[show tlQ a (q-q)=0 from by rw[Rat.sub_self];unfold tlQ;rw[if_pos Rat.le_refl,Rat.mul_zero]];grind
    ·rw[show tlQ a (q-m)=(a-1)*(q-m) from if_neg (by grind)];grind
   ·rw[if_neg (by simpa using hq),show tlQ a (q-m)=a*(q-m) from if_pos (by grind)];grind
  have hz:=Rat.mul_le_mul_of_nonneg_left (show 0≤((((P.countP fun q=>decide (q≤m)):Nat):Int):Rat)-a*((P.length:Int):Rat) by grind) (show 0 ≤ -m by grind);grind
theorem zqD {s:Rat} (h0:0≤s) (h1:s≤1) {P:List Rat} (hP:P.length≠0):zaB (zde (s*za7 P) P)≤zaB (zde 0 P):=by
 have hs:zaB P=((P.length:Int):Rat)*za7 P:=by
  unfold za7;have:=zcT hP;grind
 have d1:=zeo (za7 P) (s*za7 P) P.reverse;have d2:=zeo (za7 P) 0 P.reverse;rw[List.reverse_reverse,List.length_reverse,hs]at d1 d2;have hn:(0:Rat)≤((P.length:Int):Rat):=Rat.intCast_nonneg.2 oM;generalize za7 P=m at *
 generalize ((P.length:Int):Rat)=n at *
 have hmm:0≤m*m:=by
  by_cases h:0≤m
  ·have:=Rat.mul_le_mul_of_nonneg_left h h;rwa [Rat.mul_zero]at this
  ·have h':0 ≤ -m:=by grind
   have:=Rat.mul_le_mul_of_nonneg_left h' h';grind
 have hss:0≤s*(2-s):=by
  have:=Rat.mul_le_mul_of_nonneg_left (show 0≤2-s by grind) h0;rwa [Rat.mul_zero]at this
 have h3:0≤n*(m*m):=by have:=Rat.mul_le_mul_of_nonneg_left hmm hn;rwa [Rat.mul_zero]at this
 have h4:0≤(n*(m*m))*(s*(2-s)):=by have:=Rat.mul_le_mul_of_nonneg_left hss h3;rwa [Rat.mul_zero]at this
 rw[d1,d2];grind
theorem zok {b:BG} (hb:b.Ok) {P:List Rat} (hP:1≤P.length):zaB (P.map fun q=>zbs b.loss b.tilt (q-b.rate*b.mid P))≤zaB (P.map (zbs b.loss b.tilt)):=by
 have r0:=Rat.le_of_lt hb.rate.1;have r1:=hb.rate.2;rcases hb.loss with e | e
 ·have h:=zqD r0 r1 (P:=P) oM;rw[show b.mid P=za7 P from if_pos e,e];have e1:(P.map fun q=>zbs 1 b.tilt (q-b.rate*za7 P))=zde (b.rate*za7 P) P:=List.map_congr_left fun q _=>if_pos rfl
  have e2:P.map (zbs 1 b.tilt)=zde 0 P:=List.map_congr_left fun q _=>by
   rw[show zbs 1 b.tilt q=q*q from if_pos rfl];grind
  rw[e1,e2];exact h
 ·obtain⟨t0,t1⟩:=hb.two e;rw[show b.mid P=zfz b.tilt P from if_neg oM,e,show zbs 2 b.tilt=tlQ b.tilt from funext fun t=>zjc _ _];have h1:=zrh (a:=b.tilt) (m:=zfz b.tilt P) r0 r1 P;have h2:=znd t0 t1 hP;have h3:=Rat.mul_le_mul_of_nonneg_left h2 r0;generalize zaB (P.map (tlQ b.tilt))=A at *
  generalize zaB (P.map fun q=>tlQ b.tilt (q-zfz b.tilt P))=B at *
  grind
theorem BG.Ok.leaf_part {b:BG} (hb:b.Ok) {left:List Rat} {D A:Nat} (hD:1≤D) (hA:1≤A) (hbl:bl (A*D)≤95) (hq:∀q,q∈left→Gr D A q) (hn:left.length=b.X.length):∃J:Int→Nat,∀r,1≤(atR left ((zbd b.X.length).filter fun s=>decide (J s=J r))).length∧(zbD (b.X.getD r.toNat []) (b.tree left)).value=b.mid (atR left ((zbd b.X.length).filter fun s=>decide (J s=J r))):=by
 have hg:zjZ left:=⟨D,A,hD,hA,hbl,hq⟩;have hT:=hb.tree hD hA hbl hq hn;obtain⟨hraw,_,_⟩:=hb.raw hg hn;obtain⟨hh,_,hsub⟩:=hraw.sub;dsimp only at hsub;have hal:=b.nodes_alikeV left;obtain⟨J,hJ⟩:=Classical.axiomOfChoice fun r:Int=>zh6 hT.ok (b.X.getD r.toNat []);refine⟨J,fun r=>?_⟩;obtain⟨h1,h2,h3,_⟩:=hJ r;have hlr:zfQ (b.raw left) (b.X.getD r.toNat []) 0 (J r):=hal.symm.leaf h1;obtain⟨n,hn1,hn2⟩:=hlr.col;obtain⟨p1,p2,p3,p4⟩:=hb.part hg hn hn1
 have hpart:b.part left (b.raw left) (J r)=atR left ((zbd b.X.length).filter fun s=>decide (J s=J r)):=by
  unfold BG.part;congr 1;refine List.filter_congr fun s _=>?_;obtain⟨l,hl⟩:=hsub.path (b.X.getD s.toNat []);rw[zk0 hl];exact decide_eq_decide.2 ((hl.leaf_iff (hal.symm.leaf (hJ s).1) hn1 hn2).trans ⟨fun k=>k.symm,fun k=>k.symm⟩)
 rw[←hpart];refine⟨p2,?_⟩;have h3':(b.nodes left)[J r]?=some (zbD (b.X.getD r.toNat []) (b.tree left)):=h3;unfold BG.nodes at h3';by_cases e:b.loss=1
 ·rw[if_pos e,hn1]at h3';cases h3';rw[p4,show b.goal left=left from if_pos e,show b.mid (b.part left (b.raw left) (J r))=za7 (b.part left (b.raw left) (J r)) from if_pos e];rfl
 ·rw[if_neg e]at h3';unfold BG.mids at h3';rw[zbz,hn1,Option.map_some,if_pos (qE.1 hn1).1]at h3';rw[←Option.some.inj h3',show b.mid (b.part left (b.raw left) (J r))=zfz b.tilt (b.part left (b.raw left) (J r)) from if_neg e];rfl
theorem BG.Ok.leaf_same {b:BG} (hb:b.Ok) {left:List Rat} {D A:Nat} (hD:1≤D) (hA:1≤A) (hbl:bl (A*D)≤95) (hq:∀q,q∈left→Gr D A q) (hn:left.length=b.X.length):zaB ((b.next left).map (zbs b.loss b.tilt))≤zaB (left.map (zbs b.loss b.tilt)):=by
 obtain⟨J,hJ⟩:=hb.leaf_part hD hA hbl hq hn;rw[b.next_rows hn,List.map_map]
 have e1:left.map (zbs b.loss b.tilt)=(zbd b.X.length).map fun r=>zbs b.loss b.tilt (left.getD r.toNat 0):=by
  have h:left.map (zbs b.loss b.tilt)=(atR left (zbd b.X.length)).map (zbs b.loss b.tilt):=by rw[zry left hn]
  rw[h];unfold atR;rw[List.map_map];rfl
 rw[e1];refine zgN _ _ J _ _ (qH _) fun r _=>?_;obtain⟨h1,_⟩:=hJ r;have h2:=zok hb h1
 have e2:((zbd b.X.length).filter fun s=>decide (J s=J r)).map ((zbs b.loss b.tilt) ∘ fun r=>left.getD r.toNat 0-b.rate*(zbD (b.X.getD r.toNat []) (b.tree left)).value)=(atR left ((zbd b.X.length).filter fun s=>decide (J s=J r))).map fun q=>zbs b.loss b.tilt (q-b.rate*b.mid (atR left ((zbd b.X.length).filter fun s=>decide (J s=J r)))):=by
  rw[show ∀f:Rat→Rat,(atR left ((zbd b.X.length).filter fun s=>decide (J s=J r))).map f=((zbd b.X.length).filter fun s=>decide (J s=J r)).map fun s=>f (left.getD s.toNat 0) from fun f=>by unfold atR;rw[List.map_map];rfl];refine List.map_congr_left fun s hs=>?_;have hJs:J s=J r:=of_decide_eq_true (List.mem_filter.1 hs).2;have:=(hJ s).2;rw[hJs]at this;show zbs b.loss b.tilt (left.getD s.toNat 0-b.rate*(zbD (b.X.getD s.toNat []) (b.tree left)).value)=_;rw[this]
 rw[e2];refine Rat.le_trans h2 ?_;unfold atR;rw[List.map_map];exact Rat.le_refl
theorem BG.fit_loss (b:BG) (y:List Rat) (hy:y.length=b.X.length) (k:Nat):zcQ b.loss (b.mid y) b.rate b.tilt (b.fit y k).1 b.X y=(b.fit y k).2.map (zbs b.loss b.tilt):=by
 rw[b.fit_left y hy k];unfold zcQ;rw[List.map_zipWith]
theorem zjb {b:BG} (hb:b.Ok) (t:Rat):0≤zbs b.loss b.tilt t:=by
 rcases hb.loss with e | e
 ·rw[e,show zbs 1 b.tilt t=t*t from if_pos rfl];by_cases h:0≤t
  ·have:=Rat.mul_le_mul_of_nonneg_left h h;rwa [Rat.mul_zero]at this
  ·have h':0 ≤ -t:=by grind
   have:=Rat.mul_le_mul_of_nonneg_left h' h';grind
 ·obtain⟨t0,t1⟩:=hb.two e;rw[e,zjc];unfold tlQ;split
  ·rename_i h;have:=Rat.mul_le_mul_of_nonneg_left h (Rat.le_of_lt t0);rwa [Rat.mul_zero]at this
  ·have h':0 ≤ -t:=by grind
   have:=Rat.mul_le_mul_of_nonneg_left h' (show 0≤1-b.tilt by grind);grind
theorem zl5:∀l:List Rat,(∀q,q∈l→0≤q)→0≤zaB l
 | [],_=>Rat.le_refl
 | q::l,h=>by
  have h1:=zl5 l fun x k=>h x (qk _ k);have h2:=h q (qf ..);rw[zar];grind
noncomputable def BG.lossK (b:BG) (y:List Rat) (k:Nat):Rat:=zaB (zcQ b.loss (b.mid y) b.rate b.tilt (b.fit y k).1 b.X y)
theorem BG.Ok.loss_falls {b:BG} (hb:b.Ok) {y:List Rat} {D A:Nat} (hD:1≤D) (hA:1≤A) (hq:∀q,q∈y→Gr D A q) (hn:y.length=b.X.length) {K:Nat} (hbl:bl ((2*A*2 ^ K)*(D*840*(840*b.rate.den) ^ K))≤95) {k:Nat} (hk:k<K):b.lossK y (k+1)≤b.lossK y k:=by
 have hrd:=b.rate.den_nz;obtain⟨h1,_⟩:=hb.fit hD hA hq hn hbl k oM;unfold BG.lossK;rw[b.fit_loss y hn,b.fit_loss y hn];exact hb.leaf_same (Nat.mul_pos oM (Nat.pow_pos oM)) (Nat.mul_pos oM (Nat.pow_pos oM)) (znE (k:=k) hrd hbl oM) h1 (b.fit_len y hn k).1
theorem BG.Ok.loss_pos {b:BG} (hb:b.Ok) {y:List Rat} (hn:y.length=b.X.length) (k:Nat):0≤b.lossK y k:=by
 unfold BG.lossK;rw[b.fit_loss y hn];refine zl5 _ fun q hq=>?_;obtain⟨t,_,rfl⟩:=List.mem_map.1 hq;exact zjb hb t
end
section
open Go.RowKit _root_.Go.Proofs.Tryz
theorem zlw {loss:Int} {base rate tilt:Rat} {ts:List Tr} {X:List (List Rat)} {y:List Rat} {W i:Nat} (hb:ht base≤200) (hr:ht rate≤200) (hti:ht tilt≤20) (hl:ts.length≤60) (hok:∀t,t∈ts→zdG W t) (hy:∀q,q∈y→ht q≤100) (hX:X.length≤20):ht (zaB ((zcQ loss base rate tilt ts X y).take i))≤30000000:=by
 have h1:=zex 1000000 ((zcQ loss base rate tilt ts X y).take i) fun q hq=>zlv hb hr hti hl hok hy q (List.mem_of_mem_take hq)
 have h2:((zcQ loss base rate tilt ts X y).take i).length≤20:=by
  rw[qP];unfold zcQ;rw[List.length_zipWith];omega
 have h3:=qb (1000000+1) h2;omega
set_option maxRecDepth 100000 in
theorem zqf {H:Hp} {loss:Int} {W:Nat} {base rate tilt:Rat} {ta:Option Addr} {tc:Nat} {ts:List Tr} {vx vy:Value} {X:List (List Rat)} {y:List Rat} (ht':PTL H (.slice ta ts.length tc) ts) (hok:∀t,t∈ts→zdG W t) (hc:zcb loss (W:Int) rate tilt ts=0)
  (hX:QLL H vx X) (hy:QL H vy y) (hyl:y.length=X.length) (hXw:∀x,x∈X→x.length=W∧∀q,q∈x→ht q≤100) (hy100:∀q,q∈y→ht q≤100) (hX0:1≤X.length) (hXl:X.length≤20) (hb:ht base≤200) (hr:ht rate≤200) (hti:ht tilt≤20) :
  PC prog 32 #[.agg (zbY loss (W:Int) base rate tilt (.slice ta ts.length tc)).toArray,vx,vy] H fun r _=>r=.tuple #[zaa (zaB (zcQ loss base rate tilt ts X y)),.int .i64 0]:=by
 obtain⟨hls,hWl,_,_⟩:=znJ hc;obtain⟨vs,hvs,hvx⟩:=id hX;obtain⟨xa,xc,rfl⟩:=hX.val;obtain⟨ya,yc,rfl⟩:=SlC.val hy;obtain⟨x0,hxx0⟩:=gE hX0;obtain⟨u0,e0,hu0,_⟩:=hvs.at hxx0;rw[(hXw x0 (qF hxx0)).1]at hu0;have hLl:=zoj loss base rate tilt ts hyl;have hck:=ze1 (loss:=loss) (w:=(W:Int)) (base:=base) ht' (fun t h=>(hok t h).x) (zaj hr oM) (zaj hti oM) oM;rw[hc]at hck;have hva:=fun (G:Hp) (hG:H.Le G)=>zgw (hX.mono hG) (fun x h=>(hXw x h).1) hX0 oM oM oM;have hz:zaf (zaa (zaB ((zcQ loss base rate tilt ts X y).take 0)))=[.bool false,.int .u64 0,.string ⟨#[]⟩,.int .u64 0,.string ⟨#[]⟩]:=zan;refine BD func32 ntmps32 ?_
 repeat (first|refine RUN ?_|refine CV (hck) ?_|refine CE (hck) ?_)
 apply EV.drawn 18 kR kR;intro xv yw;(repeat refine' DD ?_);refine' vC (cO func46) (fun G hG hd=>hva G hG) ?_;rotate_left;(repeat refine' DD ?_);refine' vJ (hvx) (0) (rfl) (hX0) (hu0) ?_;rotate_left;(repeat refine' DD ?_);rw[show ((W:Int) != (W:Int))=false from pO _];(repeat refine' DD ?_);rw[show ((y.length:Int) != (X.length:Int))=false by rw[hyl];exact pO _];(repeat refine' DD ?_);(refine DJ.nil (fun G1 hG1 hF1=>?_);(case hS|hS2=>rfl));refine uR ?_;refine EV.loopK (ι:=Nat) [2,3,6,8,35,36] [3,6] (fun i=>[(37,.v (.int .i64 (i:Int)))]) (fun i=>[(8,51,zaf (zaa (zaB ((zcQ loss base rate tilt ts X y).take i))))]) (fun _=>[]) (fun i G=>i≤X.length∧H.Le G) (fun i=>X.length-i) (0) rfl rfl ⟨rfl,trivial⟩ ⟨by rw[hz];rfl,trivial⟩ rfl (fun _=>rfl) (⟨qQ _,hG1⟩) ?_;rintro i G2 hG2 ⟨hi,hH2⟩;refine uR ?_;refine EV.cond rfl (fun hlt=>?_) (fun hlt=>?_)
 ·simp only[nN]at hlt;obtain⟨x,hxi⟩:=gE hlt;obtain⟨ux,ex,hux,hxl⟩:=hvs.at hxi;obtain⟨q,hqi⟩:∃q,y[i]?=some q:=⟨_,qA oM⟩;obtain⟨hxw,hx100⟩:=hXw x (qF hxi);have hvx2:=hvx.mono hH2;have hyS2:=SlC.mono hy hH2;have hq100:=hy100 q (qF hqi);have hgt:=zoi (loss:=loss) (base:=base) (rate:=rate) (tilt:=tilt) (ts:=ts) hxi hqi;have hans:=fun (G:Hp) (hG:G2.Le G)=>zoH (loss:=loss) (w:=(W:Int)) (tilt:=tilt) (ht'.mono (hH2.trans hG)) (fun t h=>by rw[hxw];exact hok t h) (SlC.mono hxl (hH2.trans hG)) hx100 hb hr oM;have hsb:ht (zg1 base rate ts x)≤400000:=zny (w:=W) hb hr oM fun t h=>qI (zeA (hok t h) x) oM;have hsu:=zfj q (zg1 base rate ts x);have hlh:=zlv (loss:=loss) hb hr hti (show ts.length≤60 by omega) hok hy100 _ (qF hgt);have hS:=zlw (loss:=loss) (i:=i) hb hr hti (show ts.length≤60 by omega) hok hy100 hXl;have hSn:=zbt ((zcQ loss base rate tilt ts X y).take i) (zbs loss tilt (q-zg1 base rate ts x));rw[←zas hgt]at hSn;have hsub:=zdP q (zg1 base rate ts x) (zaj hq100 oM) (zaj hsb oM);have hlo:=zqm (loss:=loss) (tilt:=tilt) (t:=q-zg1 base rate ts x) hti oM;have had:=zc9 (zaB ((zcQ loss base rate tilt ts X y).take i)) (zbs loss tilt (q-zg1 base rate ts x)) (zaj hS oM) (zaj hlh oM);rw[←hSn]at had;refine uR ?_;refine vI (hvx2) (i) (rfl) (hlt) (hux) ?_;refine uR ?_;apply EV.drawn 15 kR kR;intro xv yw;(repeat refine' DD ?_);refine' DJ.idxM tO rfl rfl rfl rfl rfl rfl rfl rfl rfl (hyS2) (i) (rfl) (oM) (QL.at (H:=H) (v:=.bool true) hqi) ?_;rotate_left;(repeat refine' DD ?_);refine' vC (cO func86) (fun G hG hd=>hans G hG) ?_;rotate_left;(repeat (first|refine' DD ?_|(refine' DC (hsub) (h:=?_);rotate_left)|(refine' DC (hlo) (h:=?_);rotate_left)|(refine' DC (had) (h:=?_);rotate_left)));(refine DJ.nil (fun G3 hG3 hF3=>?_);(case hS|hS2=>rfl));refine uR ?_;exact⟨i+1,⟨by rw[zad i (by omega)];rfl,trivial⟩,sB,⟨rfl,trivial⟩,sB,rfl,⟨hlt,hH2.trans hG3⟩,hG3,by omega⟩
 ·simp only[nN]at hlt;obtain rfl:i=X.length:=oM;rw[show X.length=(zcQ loss base rate tilt ts X y).length from hLl.symm,qa];refine uR ?_;rfl
set_option maxRecDepth 100000 in
theorem boostFalls_pc {H:Hp} {vx:Value} (hx:zrp H vx):PC prog 5 #[vx] H fun r _=>r=.bool true:=by
 have ho:=zoz hx;obtain⟨n1,w1,dp1,ls1,rd1,rt1,at1,tl1,vy1,vl1,ly1,ll1,rfl,_⟩:=id hx;clear hx;refine BD func5 ntmps5 ?_;refine uR ?_;refine vA (ho) ?_;rintro r1 G1 ⟨b,y,K,vX,vY,vS,rfl,hb,hX,hY,hst,hyl,hg,hK,_,_⟩ hG1;have hbl:=zqU hb.den.1 (show K≤6 by omega);obtain⟨htb,hln,hm95,hr10,hy95,hck⟩:=zsZ hb hyl oM oM hg oM hbl;have hti10:=hb.den.2;have h8:=hb.rows;have hX60:=hb.each;have q1:rq b.rate:=zeL hr10 oM;have q2:rq b.tilt:=zeL hti10 oM;have q3:rq b.gain:=zeL hb.gain.2 oM;have hfall:=fun i (hi:i<K)=>hb.loss_falls oM oM hg hyl hbl hi;have hpos:=fun i=>hb.loss_pos hyl i;have htake:=fun i (hi:i≤K)=>zpT b y hyl hi;obtain⟨xa,xc,rfl⟩:=hX.val;obtain⟨ya,yc,rfl⟩:=hY.val;have hstm:=fun (G:Hp) (hG:G1.Le G)=>zm6 (hst.mono hG) q1 q2 q3;obtain⟨_,_,_,_,_,_,_,_,_,_,_,_,_,_,_,_,_,_,_,_,_,rfl,_⟩:=id hst;refine uR ?_;refine EVL.call rfl rfl rfl rfl rfl (zh3 hY oM (fun q k=>zeL (hy95 q k) oM)) ?_;rintro v6 G2 hy2 hG2;obtain⟨y6a,y6c,rfl⟩:=SlC.val hy2;have cXs:=fun (G:Hp) (hG:G1.Le G)=>zi5 (hX.mono hG) oM (fun x h=>⟨by rw[(hX60 x h).1];have:=hb.wide;omega,fun q k=>zeL ((hX60 x h).2 q k) oM⟩);have cFit:=fun (G:Hp) (u:Value) (hG:G2.Le G) (hu:QLL G u b.X)=>zqj hb hu (SlC.mono hy2 hG) hyl oM oM hg oM hbl;refine uR ?_;apply EV.drawn 11 kR kR;intro xv yw;(repeat refine' DD ?_);refine' vB (cO func14) (fun G hG hd=>cXs G (hG2.trans hG)) (fun _ _ _ h k=>QLL.mono h k) ?_;rotate_left;(repeat refine' DD ?_);refine' vC (cO func16) (fun G hG hd=>hstm G (hG2.trans hG)) ?_;rotate_left;refine' vB (cO func13) (fun G hG hd=>cFit G _ hG (hd.head kR)) (fun _ _ _ h k=>(by obtain⟨ta,tc,e,hp⟩:=h;exact⟨ta,tc,e,hp.mono k⟩)) ?_;rotate_left;refine' DJ.copy (5) (by first|exact .inl rfl|exact .inr rfl) rfl rfl rfl id rfl kR ?_;rotate_left;refine' DJ.extract (5) rfl rfl rfl rfl rfl kR (fun G hd=>(by obtain⟨ta,tc,e,_⟩:=hd.head kR;exact⟨_,e,Nat.zero_lt_succ _⟩)) ?_;rotate_left;refine' DJ.extract (5) rfl rfl rfl rfl rfl kR (fun G hd=>(by obtain⟨ta,tc,e,_⟩:=hd.head kR;exact⟨_,e,Nat.lt_succ_self _⟩)) ?_;rotate_left;(repeat refine' DD ?_);refine' DJ.storeD tO rfl rfl rfl rfl (5) (zgS 0) rfl rfl (9) rfl rfl kR kR rfl (fun G hd=>(by obtain⟨ta,tc,e,_⟩:=hd.head kR;rw[e];exact⟨rfl,rfl⟩)) ?_;rotate_left;(refine DJ.nil (fun G3 hG3 hF3=>?_);(case hS|hS2=>rfl));obtain⟨⟨ta,tc,e3,hP⟩,_⟩:=hF3;rw[e3];rw[show zgS 1 (Value.tuple #[.agg (zbY b.loss (b.W:Int) (b.mid y) b.rate b.tilt (.slice ta K tc)).toArray,.int .i64 0])=.int .i64 0 from rfl,show zaf (zgS 0 (Value.tuple #[.agg (zbY b.loss (b.W:Int) (b.mid y) b.rate b.tilt (.slice ta K tc)).toArray,.int .i64 0]))=zbY b.loss (b.W:Int) (b.mid y) b.rate b.tilt (.slice ta K tc) from rfl];have hP':PTL G3 (.slice ta (b.fit y K).1.length tc) (b.fit y K).1:=by rw[hln];exact hP
 refine uR ?_;refine vA (zmJ) ?_;rintro _ G4 rfl hG4;refine uR ?_;rw[show ((K:Int) != (K:Int))=false from pO _];refine uR ?_;have hK4:=hG2.trans (hG3.trans hG4);refine EV.loopK (ι:=Nat) [3,5,6,7,9] [5,7] (fun i=>[(10,.v (.int .i64 (i:Int)))]) (fun i=>[(9,51,zaf (zaa (if i=0 then 0 else b.lossK y (i-1))))]) (fun _=>[]) (fun i G=>i≤K+1∧G4.Le G) (fun i=>K+1-i) (0) rfl rfl ⟨rfl,trivial⟩ ⟨by rw[if_pos rfl,zan];rfl,trivial⟩ rfl (fun _=>rfl) (⟨qQ _,Hp.Le.refl _⟩) ?_;rintro i G5 hG5 ⟨hi,hG45⟩;refine uR ?_;refine EV.cond rfl (fun hlt=>?_) (fun hlt=>?_)
 ·simp only[nN]at hlt;have hbli:=zqU hb.den.1 (show i≤6 by omega);obtain⟨htbi,hlni,_,_,_,hcki⟩:=zsZ hb hyl oM oM hg oM hbli;have hti:=htake i hlt;have hfi:=hfall (i-1);have hpi:=hpos i;have cFew:=zqe (k:=i) (base:=b.mid y) (hP'.mono (hG4.trans hG45)) htb (zaj hr10 oM) (zaj hti10 oM) oM hck oM;rw[hln]at cFew;refine uR ?_;refine vA (cFew) ?_;rintro _ G6 ⟨fa,fc,rfl,hF⟩ hG6;rw[hti]at hF;have hF':PTL G6 (.slice fa (b.fit y i).1.length fc) (b.fit y i).1:=by rw[hlni];exact hF
  have cLo:=fun (G:Hp) (u:Value) (hG:G6.Le G) (hu:QLL G u b.X)=>zqf (hF'.mono hG) htbi hcki hu (SlC.mono hy2 (hG3.trans (hG4.trans (hG45.trans (hG6.trans hG))))) hyl (fun x h=>⟨(hX60 x h).1,fun q k=>qI ((hX60 x h).2 q k) oM⟩) (fun q k=>qI (hy95 q k) oM) h8.1 oM (show ht (b.mid y)≤200 by omega) (show ht b.rate≤200 by omega) (show ht b.tilt≤20 by omega);simp only[hlni]at cLo;have hLs:=fun k (hk:k≤K)=>zlw (loss:=b.loss) (base:=b.mid y) (rate:=b.rate) (tilt:=b.tilt) (ts:=(b.fit y k).1) (W:=b.W) (X:=b.X) (y:=y) (i:=(zcQ b.loss (b.mid y) b.rate b.tilt (b.fit y k).1 b.X y).length) (show ht (b.mid y)≤200 by omega) (show ht b.rate≤200 by omega) (show ht b.tilt≤20 by omega) (by rw[(b.fit_len y hyl k).2];omega) (fun t h=>htb t (List.mem_of_mem_take (by rw[htake k hk];exact h))) (fun q k=>qI (hy95 q k) oM) oM;simp only[qa]at hLs;have hL1:=hLs i hlt;have hL2:=hLs (i-1) oM;change ht (b.lossK y i)≤_ at hL1;change ht (b.lossK y (i-1))≤_ at hL2;change ∀(G:Hp) (u:Value),G6.Le G→QLL G u b.X→PC prog 32 #[.agg (zbY b.loss (b.W:Int) (b.mid y) b.rate b.tilt (.slice fa i fc)).toArray,u,.slice y6a y.length y6c] G (fun r _=>r=.tuple #[zaa (b.lossK y i),.int .i64 0])at cLo;rw[show i-1+1=i-1+1 from rfl]at hfi;generalize hl:b.lossK y i=l at *
  refine uR ?_;apply EV.drawn 10 kR kR;intro xv yw;(repeat refine' DD ?_);refine' vB (cO func14) (fun G hG hd=>cXs G (hK4.trans (hG45.trans (hG6.trans hG)))) (fun _ _ _ h k=>QLL.mono h k) ?_;rotate_left;(repeat refine' DD ?_);refine' vC (cO func32) (fun G hG hd=>cLo G _ hG (hd.head kR)) ?_;rotate_left;(repeat refine' DD ?_);(refine DJ.nil (fun G7 hG7 hF7=>?_);(case hS|hS2=>rfl));have hsg:=zbO l (qI (zaj hL1 oM).num oM);have hs0:decide (l.num.sign<0)=false:=qC (by have:=zkR.2 hpi;omega);have hK7:=hG45.trans (hG6.trans hG7);by_cases h0:i=0
  ·subst h0
   repeat (first|refine RUN ?_|refine CV (hsg) ?_|refine CE (hsg) ?_)
   rw[hs0];refine uR ?_;exact⟨1,⟨rfl,trivial⟩,sB,⟨by rw[show (if (1:Nat)=0 then (0:Rat) else b.lossK y (1-1))=l from (if_neg (show ¬(1:Nat)=0 by decide)).trans hl];rfl,trivial⟩,sB,rfl,⟨by omega,hK7⟩,hG6.trans hG7,by omega⟩
  ·rw[if_neg h0]
   have hle:l≤b.lossK y (i-1):=by
    have:=hfi oM
    rwa [show i-1+1=i by omega,hl]at this
   have hcm:=zcB l (b.lossK y (i-1)) (zaj hL1 oM) (zaj hL2 oM);have ho1:=zkF hle;generalize zcp l (b.lossK y (i-1))=o at *
   repeat (first|refine RUN ?_|refine CV (hsg) ?_|refine CE (hsg) ?_)
   rw[hs0];refine uR ?_;rw[qD (show (i:Int)>0 by omega)]
   repeat (first|refine RUN ?_|refine CV (hcm) ?_|refine CE (hcm) ?_)
   rw[qC (show ¬o>0 by omega)];refine uR ?_;exact⟨i+1,⟨by rw[zad i (by omega)];rfl,trivial⟩,sB,⟨by rw[if_neg oM,Nat.add_sub_cancel,hl];rfl,trivial⟩,sB,rfl,⟨by omega,hK7⟩,hG6.trans hG7,by omega⟩
 ·simp only[nN]at hlt;refine uR ?_;rfl
end
section
open Go Go.RowKit
theorem zhm {P:Program} {W:World} {n:String} {d:DataW Unit}:∀{l:List (String × DataW Unit)} {ps:List MemPlace},DataW.LaidVars P W l ps→(n,d)∈l →
  ∃p,DataW.LaidVars P W [(n,d)] p
 | [],_,_,h=>by cases h
 | (m,x)::r,ps,h,hm=>by
  obtain⟨g,t,cs,fuel,p,q,h1,h2,h3,h4,h5,h6⟩:=h;rcases List.mem_cons.1 hm with hm | hm
  ·cases hm;exact⟨_,g,t,cs,fuel,p,[],h1,h2,h3,h4,rfl,rfl⟩
  ·exact zhm h5 hm
theorem zrR {P:Program} {l:List (String × DataW Unit)} {W:World} {α:Type} (f:α→Int) (h:laidMet P l W) {n:String} {zs:List α} {kd:IntKind} {g:Nat} {T e:TypeId} (hmem:(n,.agg (zs.map fun z=>.lit (.int kd (f z))))∈l) (hg:P.globalNamed n=some g) (ht:(P.globals[g]?).map (·.type)=some T)
  (hT:P.underlying T=some (.array zs.length e)) (he:P.underlying e=some (.int kd)) (hc:P.cellsOf e=1) (hcT:P.cellsOf T=zs.length) :
  ∃U fz,W.heap[g]?=some (.cells (zs.map fun z=>Value.int kd (f z)).toArray U fz):=by
 obtain⟨ps,hl,_⟩:=h;obtain⟨p0,g',t,cs,fuel,p,q,hg',ht',hv,hd,_,_⟩:=zhm hl hmem;obtain rfl:=Option.some.inj (hg.symm.trans hg');obtain rfl:=Option.some.inj (ht.symm.trans ht');obtain⟨xs,m,_,ex,hcl,hlen,hel⟩:=DataW.trod_array hT hd
 have hb:∃U fz,W.heap[g]?=some (.cells cs U fz):=by
  simp only[World.var?,hg,Option.bind_some]at hv;split at hv
  ·rename_i c U fz hc';cases hv;exact⟨U,fz,hc'⟩
  ·cases hv
 obtain⟨U,fz,hb⟩:=hb;refine⟨U,fz,?_⟩;rw[hb];congr 2;apply Array.ext';rw[hcT]at hcl;have e3:(xs.map (·.1))=zs.map fun n=>.lit (.int kd (f n)):=(DataW.agg.inj (Prod.mk.inj ex).1).symm;apply List.ext_getElem?;intro r;rcases Nat.lt_or_ge r zs.length with hr | hr
 ·have hE:=hel r hr;rw[hc,Nat.mul_one,qA (by omega)]at hE;obtain⟨z,e1,e2,_⟩:=DataW.trod_int he hE;have e4:(xs.map (·.1))[r]?=(zs.map fun n=>(DataW.lit (.int kd (f n)):DataW Unit))[r]?:=by rw[e3]
  rw[qK,qK,qA (by omega:r<xs.length),qA hr,e2]at e4;simp only[Option.map_some,Option.some.injEq,DataW.lit.injEq,Lit.int.injEq,true_and]at e4;have h0:((cs.toList.drop r).take 1)[0]?=some (.int kd z):=by rw[e1];rfl
  simp only[pN,List.getElem?_drop,qY]at h0;rw[if_pos (by omega)]at h0;rw[h0,e4];simp[hr]
 ·rw[qe oM,qe (by simpa using hr)]
theorem fits_gH {l:List (String × DataW Unit)} {W:World} (h:laidMet Tryz.prog l W) (hmem:("math/bits.deBruijn64tab", .agg (Lib.deBruijn64tab.map fun (z:Nat)=>.lit (.int .u8 z)))∈l):Fits gH W:=fun b c hb=>by
 unfold gH at hb;split at hb
 ·rename_i hbb;cases hb;obtain rfl:=qx hbb;exact zrR (fun z:Nat=>(z:Int)) h hmem kR kR Tryz.underlying319 Tryz.underlying5 kR kR
 ·cases hb
end
end Go.Proofs.YteoollbcdpfkpaaGreatDoor
