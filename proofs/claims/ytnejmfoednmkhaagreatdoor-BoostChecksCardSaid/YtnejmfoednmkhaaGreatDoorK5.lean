/- Texts of ours in one: BoF, BoC, BoV, BoD, BoS, BoE, BoM, BoN, Kd17, BoK, Opn21, ThC, LaidE. -/
import Derived.Test.YtnejmfoednmkhaaGreatDoorK0
import Derived.Test.YtnejmfoednmkhaaGreatDoorK1
import Derived.Test.YtnejmfoednmkhaaGreatDoorK3
import Derived.Test.YtnejmfoednmkhaaGreatDoorK4
import Derived.ProofKit
import Derived.OpenShut
import Derived.LaidMore
import Derived.Lay
import Derived.Stop.Joined
set_option linter.unusedVariables false
set_option linter.unusedSimpArgs false
set_option maxHeartbeats 64000000
namespace Go.Proofs.YtnejmfoednmkhaaGreatDoor
section
open Go.RowKit _root_.Go.Proofs.Tryz
theorem zoT {b:BG} (hb:b.Ok):zb0 b.loss b.rate b.tilt=true:=by
 unfold zb0;rw[qD hb.rate.1,qD hb.rate.2];rcases hb.loss with e | e
 ·rw[if_pos e,qD (hb.one e)];rfl
 ·rw[if_neg oM,qD (hb.two e).1,qD (hb.two e).2];rfl
def BG.goalQ (b:BG) (q:Rat):Rat:=if b.loss=1 then q else if 0<q then b.tilt else if q=0 then 0 else b.tilt-1
theorem BG.goal_get (b:BG) {left:List Rat} {i:Nat} {q:Rat} (h:left[i]?=some q):(b.goal left)[i]?=some (b.goalQ q):=by
 unfold BG.goal BG.goalQ;by_cases e:b.loss=1
 ·rw[if_pos e,if_pos e];exact h
 ·rw[if_neg e,if_neg e,qK,h];rfl
theorem RTL.nil (H:Hp) (a:Option Addr) (c:Nat):RTL H (.slice a 0 c) []:=⟨[],⟨rfl,fun j c t e=>by cases e⟩,rfl,.inl ⟨rfl,a,c,rfl⟩⟩
set_option maxRecDepth 100000 in
theorem zoU {H:Hp} {b:BG} (hb:b.Ok) {vx vy vs:Value} {y:List Rat} {K D0 A0:Nat} (hX:RLL H vx b.X) (hy:RL H vy y) (hyl:y.length=b.X.length) (hst:zjr H vs b.loss (K:Int) (b.D:Int) b.least b.rate b.tilt b.gain)
  (hD:1≤D0) (hA:1≤A0) (hg:∀q,q∈y→Gr D0 A0 q) (hK:K≤50) (hbl:bl ((2*A0*2 ^ K)*(D0*840*(840*b.rate.den) ^ K))≤95) :
  PC prog 19 #[vx,vy,vs] H fun r G=>∃b1 a1 l1 c1 a2 l2 c2 b2 a3 l3 c3 a4 l4 c4 b4 a7 l7 c7 a8 l8 c8 ta tc,r=.tuple #[.agg (zaa b.loss (b.W:Int) (rc b4 a7 l7 c7 a8 l8 c8) (rc b1 a1 l1 c1 a2 l2 c2) (rc b2 a3 l3 c3 a4 l4 c4) (.slice ta K tc)).toArray,.int .i64 0]∧RQ G (.agg (rc b4 a7 l7 c7 a8 l8 c8).toArray) (b.mid y)∧RQ G (.agg (rc b1 a1 l1 c1 a2 l2 c2).toArray) b.rate∧RQ G (.agg (rc b2 a3 l3 c3 a4 l4 c4).toArray) b.tilt∧RTL G (.slice ta K tc) (b.fit y K).1:=by
 obtain⟨b1,a1,l1,c1,a2,l2,c2,b2,a3,l3,c3,a4,l4,c4,b3,a5,l5,c5,a6,l6,c6,rfl,h1,h2,h3⟩:=hst;have h8:=hb.rows;have hw:=hb.wide;have hdp:=hb.deep;have hxw:=fun x hx=>(hb.each x hx).1;have hx60:=fun x hx=>(hb.each x hx).2;have hfit:=hb.fit hD hA hg hyl hbl;have hrd:=b.rate.den_nz;have hb0:bl (A0*(D0*840))≤95:=qI (zaW (Nat.mul_le_mul (by rw[qW 2 A0,Nat.mul_assoc];exact Nat.le_mul_of_pos_right A0 (Nat.mul_pos oM (Nat.pow_pos oM))) (Nat.le_mul_of_pos_right _ (Nat.pow_pos oM)))) hbl;have hy95:∀q,q∈y→ht q≤95:=fun q k=>qI (((hg q k).up 840).bits oM hA) hb0;have hy100:∀q,q∈y→ht q≤100:=fun q k=>qI (hy95 q k) oM;have hm95:ht (b.mid y)≤95:=qI ((hb.mid_gr hg hyl).bits oM hA) hb0
 have hr10:ht b.rate≤10:=by
  have h:=hb.rd.bits oM oM;rw[Nat.one_mul]at h;exact qI h (qI (zaW hb.den.1) (zaV (by decide)))
 have q1:rq b.rate:=zaA hr10 oM;have q2:rq b.tilt:=zaA hb.den.2 oM;have q3:rq b.gain:=zaA hb.gain.2 oM;obtain⟨vs,hvs,hvx⟩:=id hX;obtain⟨xa,xc,rfl⟩:=hX.val;obtain⟨ya,yc,rfl⟩:=hy.val;obtain⟨x0,hxx0⟩:∃x,b.X[0]?=some x:=⟨_,qA h8.1⟩;obtain⟨u0,e0,hu0,_⟩:=hvs.at hxx0;rw[hxw x0 (qF hxx0)]at hu0;have hln:=zkA hX hxw hw.1 hw.2 h8.1 oM;have hrt:=zi7 (loss:=b.loss) h1 h2 q1 q2;rw[zoT hb]at hrt;have hfi:=zkQ (deep:=(b.D:Int)) (least:=b.least) h3 hb.gain.1 oM hb.least;refine BD func19 ntmps19 ?_
 repeat (first|refine RUN ?_|refine CV (hln) ?_|refine CE (hln) ?_)
 rw[show ((y.length:Int) != (b.X.length:Int))=false by rw[hyl];exact pS _];refine uR ?_;refine EVL.meetK (ι:=Unit) [0,1,5,6] [5,6] (fun _=>[(66,.v (.bool false))]) (fun _=>[]) (fun _=>[]) (fun _ G=>H.Le G) rfl rfl (fun _=>rfl) ?_ ?_
 ·rcases hb.loss with e | e
  ·rw[show (b.loss != 1)=false by rw[e];rfl]
   repeat (first|refine RUN ?_|refine CV (hrt) ?_|refine CE (hrt) ?_)
   rw[qC (show ¬(K:Int)<0 by omega)];refine uR ?_;rw[qC (show ¬(K:Int)>50 by omega)]
   repeat (first|refine RUN ?_|refine CV (hfi) ?_|refine CE (hfi) ?_)
   exact⟨(),⟨rfl,trivial⟩,sB,trivial,sB,rfl,Hp.Le.refl _⟩
  ·rw[show (b.loss != 1)=true by rw[e];rfl];refine uR ?_;rw[show (b.loss != 2)=false by rw[e];rfl]
   repeat (first|refine RUN ?_|refine CV (hrt) ?_|refine CE (hrt) ?_)
   rw[qC (show ¬(K:Int)<0 by omega)];refine uR ?_;rw[qC (show ¬(K:Int)>50 by omega)]
   repeat (first|refine RUN ?_|refine CV (hfi) ?_|refine CE (hfi) ?_)
   exact⟨(),⟨rfl,trivial⟩,sB,trivial,sB,rfl,Hp.Le.refl _⟩
 rintro _ G1 hG1;have hmd:=fun (G:Hp) (hG:G1.Le G)=>zhn (loss:=b.loss) (hy.mono (hG1.trans hG)) (RQ.mono h2 (hG1.trans hG)) oM oM hy100 (fun k=>hb.two (hb.loss.resolve_left k)) hb.den.2;refine uR ?_;apply EV.drawn 18 kR kR;intro xv yw;(repeat refine' DD ?_);refine' vJ (hvx.mono hG1) (0) (rfl) (h8.1) (hu0) ?_;rotate_left;(repeat refine' DD ?_);refine' vB (cO func68) (fun G hG hd=>hmd G hG) (fun _ _ _ h k=>RQ.mono h k) ?_;rotate_left;(repeat refine' DD ?_)
 (refine' DJ.plainE tO (fun v G=>∃b4 a7 l7 c7 a8 l8 c8,v=.agg (zaa b.loss (b.W:Int) (rc b4 a7 l7 c7 a8 l8 c8) (rc b1 a1 l1 c1 a2 l2 c2) (rc b2 a3 l3 c3 a4 l4 c4) (.slice none 0 0)).toArray∧RQ G (.agg (rc b4 a7 l7 c7 a8 l8 c8).toArray) (b.mid y)) (fun v G G' ⟨b4,a7,l7,c7,a8,l8,c8,e,h⟩ k=>⟨b4,a7,l7,c7,a8,l8,c8,e,RQ.mono h k⟩) rfl rfl rfl (fun G hd=>(by
  have hq:=show RQ G (xv 11) (b.mid y) from hd.head kR;obtain⟨a7,l7,c7,a8,l8,c8,e,_⟩:=id hq;rw[e]at hq;rw[e];exact⟨_,rfl,_,_,_,_,_,_,_,rfl,hq⟩)) ?_;rotate_left)
 (repeat refine' DD ?_);(refine DJ.nil (fun G2 hG2 hF2=>?_);(case hS|hS2=>rfl));obtain⟨⟨b4,a7,l7,c7,a8,l8,c8,e4,hbs⟩,_⟩:=hF2;rw[e4];have hH2:=hG1.trans hG2;refine uR ?_;refine EV.loopK (ι:=Nat × Value × Ows) [0,1,5,6,8] [5,6,8] (fun q=>[(9,.v q.2.1),(10,.v (.int .i64 (q.1:Int)))]) (fun _=>[]) (fun q=>q.2.2) (fun q _=>q.1≤b.X.length∧zaF 3 1 q.2.1 q.1 ((zcC q.1).map iv) q.2.2) (fun q=>b.X.length-q.1) ((0,.slice none 0 0,[])) rfl rfl ⟨rfl,rfl,trivial⟩ trivial rfl (fun _=>rfl) (⟨qQ _,zaF.nil _ _⟩) ?_;rintro⟨i,v9,ow9⟩ G3 hG3 ⟨hi,hown9⟩;dsimp only at hi hown9;obtain⟨a9,c9,rfl⟩:=hown9.val;have wi:IntKind.i64.wrap ((i:Int)+1)=((i+1:Nat):Int):=zab i oM;refine uR ?_;refine EV.cond rfl (fun hlt=>?_) (fun hlt=>?_)
 ·simp only[nN]at hlt;refine uR ?_;refine EVL.app1 tO rfl rfl rfl rfl rfl rfl rfl rfl rfl rfl rfl rfl rfl rfl rfl rfl rfl rfl rfl (fun _=>rfl) (ow9) ([]) ((qG _).symm) (hown9) oM fun _=>?_;intro v' ow' hown';refine uR ?_;exact⟨(i+1,v',ow'),⟨rfl,by rw[wi];rfl,trivial⟩,sB,trivial,sB,qG _,⟨hlt,by dsimp only;rw[zfB,qo];exact hown'⟩,Hp.Le.refl _,by dsimp only;omega⟩
 simp only[nN]at hlt;obtain rfl:i=b.X.length:=oM;clear hi hlt wi;(first|refine EVL.publishL [] ow9 [] ((qG _).symm) hown9 fun G4 hG4 hs4=>?_|refine EV.publishL [] ow9 [] ((qG _).symm) hown9 fun G4 hG4 hs4=>?_)
 have hil4:IL G4 (.slice a9 b.X.length c9) (zcC b.X.length):=by
  show SlC G4 (.slice a9 b.X.length c9) (zcC b.X.length).length 1 _;rw[zcp];exact hs4
 have hH4:=hH2.trans (hG3.trans hG4);have hbs4:=RQ.mono hbs (hG3.trans hG4);have h14:=RQ.mono h1 hH4;have h24:=RQ.mono h2 hH4;have h34:=RQ.mono h3 hH4;(first|refine EVL.unbox (8) rfl fun g8=>?_|refine EV.unbox (8) rfl fun g8=>?_);refine uR ?_;refine EV.loopK (ι:=Nat × Option Addr × Nat) [0,1,5,6,8,9] [5,6] (fun q=>[(11,.v (.int .i64 (q.1:Int)))]) (fun _=>[]) (fun q=>[(g8,69,zaa b.loss (b.W:Int) (rc b4 a7 l7 c7 a8 l8 c8) (rc b1 a1 l1 c1 a2 l2 c2) (rc b2 a3 l3 c3 a4 l4 c4) (.slice q.2.1 q.1 q.2.2))]) (fun q G=>q.1≤K∧G4.Le G∧RTL G (.slice q.2.1 q.1 q.2.2) (b.fit y q.1).1) (fun q=>K-q.1) ((0,none,0)) rfl rfl ⟨rfl,trivial⟩ trivial rfl (fun _=>rfl) (⟨qQ _,Hp.Le.refl _,RTL.nil _ _ _⟩) ?_;rintro⟨k,ta,tc⟩ G5 hG5 ⟨hk,hG45,hts⟩;dsimp only at hk hts hG45;refine uR ?_;refine EV.cond rfl (fun hlt=>?_) (fun hlt=>?_)
 case refine_2 =>
  simp only[nN]at hlt;obtain rfl:k=K:=oM;refine uR ?_;refine EVL.loadOwn tO rfl rfl rfl rfl rfl rfl (0) rfl (rfl) rfl rfl ?_;refine uR ?_;exact⟨b1,a1,l1,c1,a2,l2,c2,b2,a3,l3,c3,a4,l4,c4,b4,a7,l7,c7,a8,l8,c8,ta,tc,rfl,RQ.mono hbs4 hG45,RQ.mono h14 hG45,RQ.mono h24 hG45,hts⟩
 simp only[nN]at hlt;obtain⟨hgr,htb⟩:=hfit k oM;obtain⟨hln1,hln2⟩:=b.fit_len y hyl k;have hleft:=b.fit_left y hyl k;have hnext:(b.fit y (k+1)).1=(b.fit y k).1++[b.tree (b.fit y k).2]:=rfl;have hd1:1≤D0*840*(840*b.rate.den) ^ k:=Nat.mul_pos oM (Nat.pow_pos oM);have ha1:1≤2*A0*2 ^ k:=Nat.mul_pos oM (Nat.pow_pos oM);have hbl1:=zpk (k:=k) hrd hbl oM;have hgrid:zkd (b.fit y k).2:=⟨_,_,hd1,ha1,hbl1,hgr⟩;obtain⟨hraw,hraw1,hraw15⟩:=hb.raw hgrid hln1;have hpart:=fun (j:Nat) (n:Nd) (h:(b.raw (b.fit y k).2)[j]?=some n)=>hb.part hgrid hln1 h;have hgd:=hb.gd hgrid hln1;have hal:=b.nodes_alikeV (b.fit y k).2;have hl95:=hgrid.bits;clear hgr hfit;generalize (b.fit y k).2=left at *
 generalize (b.fit y k).1=ts at *
 subst hln2;have hH5:=hH4.trans hG45;have hbs5:=RQ.mono hbs4 hG45;have h15:=RQ.mono h14 hG45;have h25:=RQ.mono h24 hG45;refine uR ?_;refine EV.loopK (ι:=Nat × List Value × Value × Ows × List Value × Value × Ows) [0,1,5,6,8,9,11] [5,6] (fun q=>[(12,.v q.2.2.1),(13,.v q.2.2.2.2.2.1),(14,.v (.int .i64 (q.1:Int)))]) (fun _=>[]) (fun q=>(g8,69,zaa b.loss (b.W:Int) (rc b4 a7 l7 c7 a8 l8 c8) (rc b1 a1 l1 c1 a2 l2 c2) (rc b2 a3 l3 c3 a4 l4 c4) (.slice ta ts.length tc))::(q.2.2.2.1++q.2.2.2.2.2.2)) (fun q G=>q.1≤b.X.length∧G5.Le G∧RVs G q.2.1 (left.take q.1)∧zaF 33 3 q.2.2.1 q.1 (q.2.1.flatMap zae) q.2.2.2.1∧RVs G q.2.2.2.2.1 ((b.goal left).take q.1)∧zaF 33 3 q.2.2.2.2.2.1 q.1 (q.2.2.2.2.1.flatMap zae) q.2.2.2.2.2.2) (fun q=>b.X.length-q.1) ((0,[],.slice none 0 0,[],[],.slice none 0 0,[])) rfl rfl ⟨rfl,rfl,rfl,trivial⟩ trivial rfl (fun _=>rfl) (⟨qQ _,Hp.Le.refl _,RVs.nil _,zaF.nil _ _,RVs.nil _,zaF.nil _ _⟩) ?_;rintro⟨i,us,v12,ow12,gs,v13,ow13⟩ G6 hG6 ⟨hi,hG56,hus,hown12,hgs,hown13⟩;dsimp only at hi hG56 hus hown12 hgs hown13;obtain⟨a12,c12,rfl⟩:=hown12.val;obtain⟨a13,c13,rfl⟩:=hown13.val;refine uR ?_;refine EV.cond rfl (fun hli=>?_) (fun hli=>?_)
 ·simp only[nN]at hli
  (try refine zpO ?_);refine EV.meetK (ι:=List Value × Value × Ows × List Value × Value × Ows) [0,1,5,6,8,9,11,14] [5,6] (fun q=>[(12,.v q.2.1),(13,.v q.2.2.2.2.1)]) (fun _=>[]) (fun q=>(g8,69,zaa b.loss (b.W:Int) (rc b4 a7 l7 c7 a8 l8 c8) (rc b1 a1 l1 c1 a2 l2 c2) (rc b2 a3 l3 c3 a4 l4 c4) (.slice ta ts.length tc))::(q.2.2.1++q.2.2.2.2.2)) (fun q G=>G6.Le G∧RVs G q.1 (left.take (i+1))∧zaF 33 3 q.2.1 (i+1) (q.1.flatMap zae) q.2.2.1∧RVs G q.2.2.2.1 ((b.goal left).take (i+1))∧zaF 33 3 q.2.2.2.2.1 (i+1) (q.2.2.2.1.flatMap zae) q.2.2.2.2.2) rfl rfl (fun _=>rfl) ?_ ?_
  ·obtain⟨x,hx⟩:=gE hli;obtain⟨q0,hq0⟩:∃q,y[i]?=some q:=⟨_,qA oM⟩;obtain⟨ux,ex,hux,hxr⟩:=hvs.at hx;have hxl:=hxw x (qF hx);have hxb:=fun q hq=>qI (hx60 x (qF hx) q hq) (show 60≤100 by omega);obtain⟨ycs,yb,ya1,yl1,yc1,ya2,yl2,yc2,hyS,hycut,hyq⟩:=hy.slc hq0;have hqi:left[i]?=some (q0-zeY (b.mid y) b.rate ts x):=by rw[hleft,zcm hx hq0]
   have hgi:=b.goal_get hqi;have hHG:=hH5.trans hG56;have hyS6:=hyS.mono hHG;have hvx6:=hvx.mono hHG;have hyq6:=RQ.mono hyq hHG;have hts6:=hts.mono hG56;have r1:rq q0:=zaA (hy95 q0 (qF hq0)) oM;have r2:rq (zeY (b.mid y) b.rate ts x):=zaA (zjt (w:=b.W) (qI hm95 oM) (qI hr10 oM) oM fun t h=>qI (zcX (htb t h) x) oM) oM;have r3:rq (q0-zeY (b.mid y) b.rate ts x):=zaA (hl95 _ (qF hqi)) oM;have cA:=fun (G:Hp) (hG:G6.Le G)=>zoS (loss:=b.loss) (b3:=b2) (a5:=a3) (l5:=l3) (c5:=c3) (a6:=a4) (l6:=l4) (c6:=c4) (RQ.mono hbs5 (hG56.trans hG)) (RQ.mono h15 (hG56.trans hG)) (hts6.mono hG) htb (hxr.mono (hHG.trans hG)) hxl hxb (qI hm95 oM) (qI hr10 oM) oM;rw[hxl]at hux cA;refine uR ?_;apply EV.drawn 12 kR kR;intro xv yw;(repeat refine' DD ?_);refine' DJ.idxM tO rfl rfl rfl rfl rfl rfl rfl rfl rfl (hyS6) (i) (rfl) (oM) (hycut) ?_;rotate_left;(repeat refine' DD ?_);refine' DJ.ofVal (zac.loadOwn tO rfl rfl rfl rfl (0) rfl (rfl) rfl rfl) rfl rfl rfl ?_;rotate_left;(repeat refine' DD ?_);refine' vJ (hvx6) (i) (rfl) (hli) (hux) ?_;rotate_left;(repeat refine' DD ?_);refine' vB (cO func40) (fun G hG hd=>cA G hG) (fun _ _ _ h k=>RQ.mono h k) ?_;rotate_left;refine' vB (cO func69) (fun G hG hd=>zdo (RQ.mono hyq6 hG) (hd.head kR) r1 r2) (fun _ _ _ h k=>RQ.mono h k) ?_;rotate_left;(repeat refine' DD ?_);(refine DJ.nil (fun G7 hG7 hF7=>?_);(case hS|hS2=>rfl));have hR:=hF7.1;generalize q0-zeY (b.mid y) b.rate ts x=q at *
   obtain⟨za1,zl1,zc1,za2,zl2,zc2,e,_⟩:=id hR;rw[e]at hR ⊢;have hsg:=zbb hR;have hus2:RVs G7 (us++[.agg (rc (decide (q.num<0)) za1 zl1 zc1 za2 zl2 zc2).toArray]) (left.take (i+1)):=by rw[zai hqi];exact(hus.mono hG7).snoc hR
   refine uR ?_;(first|refine EVL.swapOw ([(g8,69,zaa b.loss (b.W:Int) (rc b4 a7 l7 c7 a8 l8 c8) (rc b1 a1 l1 c1 a2 l2 c2) (rc b2 a3 l3 c3 a4 l4 c4) (.slice ta ts.length tc))]) (ow12++ow13) (rfl) ?_|refine EV.swapOw ([(g8,69,zaa b.loss (b.W:Int) (rc b4 a7 l7 c7 a8 l8 c8) (rc b1 a1 l1 c1 a2 l2 c2) (rc b2 a3 l3 c3 a4 l4 c4) (.slice ta ts.length tc))]) (ow12++ow13) (rfl) ?_);refine EVL.app1 tO rfl rfl rfl rfl rfl rfl rfl rfl rfl rfl rfl rfl rfl rfl rfl rfl rfl rfl rfl (fun _=>rfl) (ow12) (ow13++[(g8,69,zaa b.loss (b.W:Int) (rc b4 a7 l7 c7 a8 l8 c8) (rc b1 a1 l1 c1 a2 l2 c2) (rc b2 a3 l3 c3 a4 l4 c4) (.slice ta ts.length tc))]) ((qZ ..)) (hown12) oM fun _=>?_;intro v12' ow12' hown12';obtain⟨a12',c12',rfl⟩:=hown12'.val;(first|refine EVL.swapOw (ow12') (ow13++[(g8,69,zaa b.loss (b.W:Int) (rc b4 a7 l7 c7 a8 l8 c8) (rc b1 a1 l1 c1 a2 l2 c2) (rc b2 a3 l3 c3 a4 l4 c4) (.slice ta ts.length tc))]) (rfl) ?_|refine EV.swapOw (ow12') (ow13++[(g8,69,zaa b.loss (b.W:Int) (rc b4 a7 l7 c7 a8 l8 c8) (rc b1 a1 l1 c1 a2 l2 c2) (rc b2 a3 l3 c3 a4 l4 c4) (.slice ta ts.length tc))]) (rfl) ?_)
   repeat (first|refine RUN ?_|refine CV (hsg) ?_|refine CE (hsg) ?_)
   by_cases e1:b.loss=1
   ·have gq:b.goalQ q=q:=if_pos e1;rw[show (b.loss == 1)=true from beq_iff_eq.2 e1];refine uR ?_;refine EVL.app1 tO rfl rfl rfl rfl rfl rfl rfl rfl rfl rfl rfl rfl rfl rfl rfl rfl rfl rfl rfl (fun _=>rfl) (ow13) ([(g8,69,zaa b.loss (b.W:Int) (rc b4 a7 l7 c7 a8 l8 c8) (rc b1 a1 l1 c1 a2 l2 c2) (rc b2 a3 l3 c3 a4 l4 c4) (.slice ta ts.length tc))]++ow12') ((qZ ..)) (hown13) oM fun _=>?_;intro v13' ow13' hown13';(first|refine EVL.swapOw (ow13') ([(g8,69,zaa b.loss (b.W:Int) (rc b4 a7 l7 c7 a8 l8 c8) (rc b1 a1 l1 c1 a2 l2 c2) (rc b2 a3 l3 c3 a4 l4 c4) (.slice ta ts.length tc))]++ow12') (rfl) ?_|refine EV.swapOw (ow13') ([(g8,69,zaa b.loss (b.W:Int) (rc b4 a7 l7 c7 a8 l8 c8) (rc b1 a1 l1 c1 a2 l2 c2) (rc b2 a3 l3 c3 a4 l4 c4) (.slice ta ts.length tc))]++ow12') (rfl) ?_);refine uR ?_;exact⟨(us++[.agg (rc (decide (q.num<0)) za1 zl1 zc1 za2 zl2 zc2).toArray],_,ow12',gs++[_],v13',ow13'),⟨rfl,rfl,trivial⟩,sB,trivial,sB,rfl,hG7,hus2,by dsimp only;rw[List.flatMap_append];exact hown12',by dsimp only;rw[zai hgi,gq];exact(hgs.mono hG7).snoc hR,by dsimp only;rw[List.flatMap_append];exact hown13'⟩
   rw[show (b.loss == 1)=false from pT.2 e1];refine uR ?_;by_cases e2:0<q
   ·have gq:b.goalQ q=b.tilt:=by unfold BG.goalQ;rw[if_neg e1,if_pos e2]
    rw[qD (show q.num.sign>0 from Int.not_le.1 fun k=>zci.1 k e2)];refine uR ?_;refine EVL.app1 tO rfl rfl rfl rfl rfl rfl rfl rfl rfl rfl rfl rfl rfl rfl rfl rfl rfl rfl rfl (fun _=>rfl) (ow13) ([(g8,69,zaa b.loss (b.W:Int) (rc b4 a7 l7 c7 a8 l8 c8) (rc b1 a1 l1 c1 a2 l2 c2) (rc b2 a3 l3 c3 a4 l4 c4) (.slice ta ts.length tc))]++ow12') ((qZ ..)) (hown13) oM fun _=>?_;intro v13' ow13' hown13';(first|refine EVL.swapOw (ow13') ([(g8,69,zaa b.loss (b.W:Int) (rc b4 a7 l7 c7 a8 l8 c8) (rc b1 a1 l1 c1 a2 l2 c2) (rc b2 a3 l3 c3 a4 l4 c4) (.slice ta ts.length tc))]++ow12') (rfl) ?_|refine EV.swapOw (ow13') ([(g8,69,zaa b.loss (b.W:Int) (rc b4 a7 l7 c7 a8 l8 c8) (rc b1 a1 l1 c1 a2 l2 c2) (rc b2 a3 l3 c3 a4 l4 c4) (.slice ta ts.length tc))]++ow12') (rfl) ?_);refine uR ?_;exact⟨(us++[.agg (rc (decide (q.num<0)) za1 zl1 zc1 za2 zl2 zc2).toArray],_,ow12',gs++[_],v13',ow13'),⟨rfl,rfl,trivial⟩,sB,trivial,sB,rfl,hG7,hus2,by dsimp only;rw[List.flatMap_append];exact hown12',by dsimp only;rw[zai hgi,gq];exact(hgs.mono hG7).snoc (RQ.mono h25 (hG56.trans hG7)),by dsimp only;rw[List.flatMap_append];exact hown13'⟩
   rw[qC (show ¬q.num.sign>0 from fun k=>absurd (zci.2 e2) oM)];refine uR ?_;by_cases e3:q=0
   ·have gq:b.goalQ q=0:=by unfold BG.goalQ;rw[if_neg e1,if_neg e2,if_pos e3]
    rw[show (q.num.sign == 0)=true from beq_iff_eq.2 (zcJ.2 e3)];have hz0:=zaJ (H:=G7) 0 oM oM;rw[show ((0:Int):Rat)=0 from rfl]at hz0;refine uR ?_;refine vA (hz0) ?_;rintro rz Gz hz hGz;obtain⟨ya1,yl1,yc1,ya2,yl2,yc2,rfl,_⟩:=id hz;refine uR ?_;refine EVL.app1 tO rfl rfl rfl rfl rfl rfl rfl rfl rfl rfl rfl rfl rfl rfl rfl rfl rfl rfl rfl (fun _=>rfl) (ow13) ([(g8,69,zaa b.loss (b.W:Int) (rc b4 a7 l7 c7 a8 l8 c8) (rc b1 a1 l1 c1 a2 l2 c2) (rc b2 a3 l3 c3 a4 l4 c4) (.slice ta ts.length tc))]++ow12') ((qZ ..)) (hown13) oM fun _=>?_;intro v13' ow13' hown13';(first|refine EVL.swapOw (ow13') ([(g8,69,zaa b.loss (b.W:Int) (rc b4 a7 l7 c7 a8 l8 c8) (rc b1 a1 l1 c1 a2 l2 c2) (rc b2 a3 l3 c3 a4 l4 c4) (.slice ta ts.length tc))]++ow12') (rfl) ?_|refine EV.swapOw (ow13') ([(g8,69,zaa b.loss (b.W:Int) (rc b4 a7 l7 c7 a8 l8 c8) (rc b1 a1 l1 c1 a2 l2 c2) (rc b2 a3 l3 c3 a4 l4 c4) (.slice ta ts.length tc))]++ow12') (rfl) ?_);refine uR ?_;exact⟨(us++[.agg (rc (decide (q.num<0)) za1 zl1 zc1 za2 zl2 zc2).toArray],_,ow12',gs++[_],v13',ow13'),⟨rfl,rfl,trivial⟩,sB,trivial,sB,rfl,hG7.trans hGz,hus2.mono hGz,by dsimp only;rw[List.flatMap_append];exact hown12',by dsimp only;rw[zai hgi,gq];exact(hgs.mono (hG7.trans hGz)).snoc hz,by dsimp only;rw[List.flatMap_append];exact hown13'⟩
   have gq:b.goalQ q=b.tilt-1:=by unfold BG.goalQ;rw[if_neg e1,if_neg e2,if_neg e3]
   rw[show (q.num.sign == 0)=false from pT.2 fun k=>e3 (zcJ.1 k)];have hz1:=fun G:Hp=>zaJ (H:=G) 1 oM oM;rw[show ((1:Int):Rat)=1 from rfl]at hz1;have h27:=RQ.mono h25 (hG56.trans hG7);refine uR ?_;apply EV.drawn 6 kR kR;intro xv yw;(repeat refine' DD ?_);refine' vB (cO func13) (fun G hG hd=>hz1 G) (fun _ _ _ h k=>RQ.mono h k) ?_;rotate_left;refine' vB (cO func69) (fun G hG hd=>zdo (RQ.mono h27 hG) (hd.head kR) q2 (by show ht 1≤_;decide +kernel)) (fun _ _ _ h k=>RQ.mono h k) ?_;rotate_left
   (refine' DJ.litD1 (Φ:=fun v G=>∃b' a l c a2 l2 c2,SlC G v 1 3 (rc b' a l c a2 l2 c2)∧RQ G (.agg (rc b' a l c a2 l2 c2).toArray) (b.tilt-1)) (fun v G G' ⟨b,a,l,c,a2,l2,c2,e,h⟩ k=>⟨b,a,l,c,a2,l2,c2,e.mono k,RQ.mono h k⟩) tO rfl rfl rfl rfl rfl rfl rfl rfl rfl rfl rfl (fun G hd=>by obtain⟨_,_,_,_,_,_,e,_⟩:=id (show RQ G (xv 4) (b.tilt-1) from hd.head kR);rw[e];rfl) (fun G G' v hd hG h=>(by
    have hq:=show RQ G (xv 4) (b.tilt-1) from hd.head kR;obtain⟨_,_,_,_,_,_,e,_⟩:=id hq;rw[e]at hq h;exact⟨_,_,_,_,_,_,_,h,RQ.mono hq hG⟩)) ?_;rotate_left)
   (refine DJ.nil (fun G8 hG8 hF8=>?_);(case hS|hS2=>rfl));obtain⟨⟨zb,ya1,yl1,yc1,ya2,yl2,yc2,hsl8,hq8⟩,_⟩:=hF8;refine EVL.append tO rfl rfl rfl rfl rfl rfl rfl rfl rfl rfl rfl rfl [] ow13 ([(g8,69,zaa b.loss (b.W:Int) (rc b4 a7 l7 c7 a8 l8 c8) (rc b1 a1 l1 c1 a2 l2 c2) (rc b2 a3 l3 c3 a4 l4 c4) (.slice ta ts.length tc))]++ow12') (qZ ..) hown13 (zcn.ro hsl8 oM) rfl oM ?_;intro v13' ow13' hown13';(first|refine EVL.swapOw (ow13') ([(g8,69,zaa b.loss (b.W:Int) (rc b4 a7 l7 c7 a8 l8 c8) (rc b1 a1 l1 c1 a2 l2 c2) (rc b2 a3 l3 c3 a4 l4 c4) (.slice ta ts.length tc))]++ow12') (rfl) ?_|refine EV.swapOw (ow13') ([(g8,69,zaa b.loss (b.W:Int) (rc b4 a7 l7 c7 a8 l8 c8) (rc b1 a1 l1 c1 a2 l2 c2) (rc b2 a3 l3 c3 a4 l4 c4) (.slice ta ts.length tc))]++ow12') (rfl) ?_);refine uR ?_;exact⟨(us++[.agg (rc (decide (q.num<0)) za1 zl1 zc1 za2 zl2 zc2).toArray],_,ow12',gs++[.agg (rc zb ya1 yl1 yc1 ya2 yl2 yc2).toArray],v13',ow13'),⟨rfl,rfl,trivial⟩,sB,trivial,sB,rfl,hG7.trans hG8,hus2.mono hG8,by dsimp only;rw[List.flatMap_append];exact hown12',by dsimp only;rw[zai hgi,gq];exact(hgs.mono (hG7.trans hG8)).snoc hq8,by dsimp only;rw[List.flatMap_append];exact hown13'⟩
  rintro⟨us',v12',ow12',gs',v13',ow13'⟩ G8 ⟨hG8,hus',hown12',hgs',hown13'⟩;dsimp only at hus' hown12' hgs' hown13';refine uR ?_;exact⟨(i+1,us',_,ow12',gs',v13',ow13'),⟨rfl,rfl,by rw[zab i (by omega)];rfl,trivial⟩,sB,trivial,sB,rfl,⟨hli,hG56.trans hG8,hus',hown12',hgs',hown13'⟩,hG8,by dsimp only;omega⟩
 ·simp only[nN]at hli;obtain rfl:i=b.X.length:=oM;have hgl:=b.goal_len left;rw[qO (by omega)]at hus hgs;(first|refine EVL.publishL [(g8,69,zaa b.loss (b.W:Int) (rc b4 a7 l7 c7 a8 l8 c8) (rc b1 a1 l1 c1 a2 l2 c2) (rc b2 a3 l3 c3 a4 l4 c4) (.slice ta ts.length tc))] ow12 ow13 (rfl) hown12 fun G7 hG7 hs12=>?_|refine EV.publishL [(g8,69,zaa b.loss (b.W:Int) (rc b4 a7 l7 c7 a8 l8 c8) (rc b1 a1 l1 c1 a2 l2 c2) (rc b2 a3 l3 c3 a4 l4 c4) (.slice ta ts.length tc))] ow12 ow13 (rfl) hown12 fun G7 hG7 hs12=>?_);(first|refine EVL.publishL [(g8,69,zaa b.loss (b.W:Int) (rc b4 a7 l7 c7 a8 l8 c8) (rc b1 a1 l1 c1 a2 l2 c2) (rc b2 a3 l3 c3 a4 l4 c4) (.slice ta ts.length tc))] ow13 [] ((show [(g8,69,zaa b.loss (b.W:Int) (rc b4 a7 l7 c7 a8 l8 c8) (rc b1 a1 l1 c1 a2 l2 c2) (rc b2 a3 l3 c3 a4 l4 c4) (.slice ta ts.length tc))]++ow13=[(g8,69,zaa b.loss (b.W:Int) (rc b4 a7 l7 c7 a8 l8 c8) (rc b1 a1 l1 c1 a2 l2 c2) (rc b2 a3 l3 c3 a4 l4 c4) (.slice ta ts.length tc))]++(ow13++[]) by rw[qG])) hown13 fun G8 hG8 hs13=>?_|refine EV.publishL [(g8,69,zaa b.loss (b.W:Int) (rc b4 a7 l7 c7 a8 l8 c8) (rc b1 a1 l1 c1 a2 l2 c2) (rc b2 a3 l3 c3 a4 l4 c4) (.slice ta ts.length tc))] ow13 [] ((show [(g8,69,zaa b.loss (b.W:Int) (rc b4 a7 l7 c7 a8 l8 c8) (rc b1 a1 l1 c1 a2 l2 c2) (rc b2 a3 l3 c3 a4 l4 c4) (.slice ta ts.length tc))]++ow13=[(g8,69,zaa b.loss (b.W:Int) (rc b4 a7 l7 c7 a8 l8 c8) (rc b1 a1 l1 c1 a2 l2 c2) (rc b2 a3 l3 c3 a4 l4 c4) (.slice ta ts.length tc))]++(ow13++[]) by rw[qG])) hown13 fun G8 hG8 hs13=>?_);have hLL:RL G8 (.slice a12 b.X.length c12) left:=(hus.mono (hG7.trans hG8)).rl (by rw[hln1];exact hs12.mono hG8);have hGL:RL G8 (.slice a13 b.X.length c13) (b.goal left):=(hgs.mono (hG7.trans hG8)).rl (by rw[hgl,hln1];exact hs13);have hH8:=hH5.trans (hG56.trans (hG7.trans hG8));have hRG:=(hgd.rgoal (H:=G8) h8.1 oM (v:=zbv 2 0 (.slice none 0 0) (.slice a13 b.X.length c13)) ⟨_,rfl,hGL⟩).2;have hgrow:=zny (p:=b.gp left) (D:=b.D) (w:=b.W) (s:=0) (fun s=>rfl) hw.1 hw.2 h8.1 (by show b.X.length≤300;omega) hxw hx60 rfl hb.least q3 hb.gain.1 hdp hRG (hX.mono hH8) (RQ.mono h34 (hG45.trans (hG56.trans (hG7.trans hG8)))) (hil4.mono (hG45.trans (hG56.trans (hG7.trans hG8)))) (by rw[zcp];exact h8.1) (by rw[zcp];omega) zdv;have hrw:((b.gp left).grow b.D 0 (zcC b.X.length) 0).1=b.raw left:=rfl;rw[hrw]at hgrow;refine uR ?_;refine vW ([]) ([(g8,69,zaa b.loss (b.W:Int) (rc b4 a7 l7 c7 a8 l8 c8) (rc b1 a1 l1 c1 a2 l2 c2) (rc b2 a3 l3 c3 a4 l4 c4) (.slice ta ts.length tc))]) (hgrow) ?_;rintro _ ow17 G9 ⟨oa,oc,css,rfl,hns,hown⟩ hG9;have hmid0:=zjH b left (b.raw left);have hmidn:=zg6 b left (b.raw left);have hmida:=zem b left (b.raw left);have hmidg:=zby b left (b.raw left);have hmids:=fun (k:Nat) (n:Nd) (h:(b.midsTo left (b.raw left) k)[k]?=some n)=>zlA b left h;refine uR ?_;refine EV.meetK (ι:=List (List Value) × Ows) [0,1,5,6,8,9,11,17] [5,6,17] (fun _=>[]) (fun _=>[]) (fun q=>q.2++[(g8,69,zaa b.loss (b.W:Int) (rc b4 a7 l7 c7 a8 l8 c8) (rc b1 a1 l1 c1 a2 l2 c2) (rc b2 a3 l3 c3 a4 l4 c4) (.slice ta ts.length tc))]) (fun q G=>G9.Le G∧zbw G q.1 (b.nodes left)∧zaF 147 15 (.slice oa (b.raw left).length oc) (b.raw left).length q.1.flatten q.2) rfl rfl (fun _=>rfl) ?_ ?_
  ·by_cases e1:b.loss=1
   ·rw[show b.nodes left=b.raw left from if_pos e1];refine uR ?_;rw[show (b.loss == 2)=false by rw[e1];rfl];refine uR ?_;exact⟨(css,ow17),trivial,sB,trivial,sB,rfl,Hp.Le.refl _,hns,hown⟩
   have e2:=hb.loss.resolve_left e1;obtain⟨t0,t1⟩:=hb.two e2;have hnodes:b.nodes left=b.midsTo left (b.raw left) (b.raw left).length:=if_neg e1;rw[hnodes];clear hnodes;refine uR ?_;rw[show (b.loss == 2)=true by rw[e2];rfl];refine uR ?_;refine EV.loopK (ι:=Nat × List (List Value) × Ows) [0,1,5,6,8,9,11,12,17] [5,6,17] (fun q=>[(19,.v (.int .i64 (q.1:Int)))]) (fun _=>[]) (fun q=>q.2.2++[(g8,69,zaa b.loss (b.W:Int) (rc b4 a7 l7 c7 a8 l8 c8) (rc b1 a1 l1 c1 a2 l2 c2) (rc b2 a3 l3 c3 a4 l4 c4) (.slice ta ts.length tc))]) (fun q G=>q.1≤(b.raw left).length∧G9.Le G∧zbw G q.2.1 (b.midsTo left (b.raw left) q.1)∧zaF 147 15 (.slice oa (b.raw left).length oc) (b.raw left).length q.2.1.flatten q.2.2) (fun q=>(b.raw left).length-q.1) ((0,css,ow17)) rfl rfl ⟨rfl,trivial⟩ trivial rfl (fun _=>rfl) (⟨qQ _,Hp.Le.refl _,by rw[hmid0];exact hns,hown⟩) ?_;rintro⟨j,cs7,ow7⟩ G10 hG10 ⟨hj,hG910,hns7,hown7⟩;dsimp only at hj hG910 hns7 hown7;refine uR ?_;refine EV.cond rfl (fun hlj=>?_) (fun hlj=>?_)
   case refine_2 =>
    simp only[nN]at hlj;obtain rfl:j=(b.raw left).length:=oM;refine uR ?_;exact⟨(cs7,ow7),trivial,sB,trivial,sB,rfl,hG910,hns7,hown7⟩
   simp only[nN]at hlj;have hmj:(b.midsTo left (b.raw left) j).length=(b.raw left).length:=hmidn j;have haj:=hmida j
   have hmok:zbK ⟨2,0,(b.W:Int),b.midsTo left (b.raw left) j⟩:=haj.ok hraw fun n hn=>by
    obtain⟨i,hi⟩:=List.mem_iff_getElem?.1 hn;rw[hmidg]at hi
    cases hm:(b.raw left)[i]? with
    | none=>rw[hm]at hi;cases hi
    | some m =>
     rw[hm,Option.map_some]at hi;by_cases c:i<j
     ·rw[if_pos c]at hi;cases hi;obtain⟨p1,p2,_⟩:=hpart i m hm;exact qI (hl95 _ (p1 _ (zhN t1 p2))) oM
     ·rw[if_neg c]at hi;cases hi;obtain⟨m',e,o,_⟩:=hraw.nodes i (qE.1 hm).1;cases hm.symm.trans e;exact o.small.2.2
   obtain⟨rj,hrj⟩:∃n,(b.raw left)[j]?=some n:=⟨_,qA hlj⟩;obtain⟨hp1,hp2,hp3,_⟩:=hpart j rj hrj;have hmset:=hmids j;have hway:∀x l,zdb (b.midsTo left (b.raw left) j) x 0 l→zk4 (b.raw left) x=l:=fun x l h=>zn5 (haj.symm.path h);have hpe:b.part left (b.raw left) j=atR left ((zcC b.X.length).filter fun r=>decide ((j:Int)∈zk4 (b.raw left) (b.X.getD r.toNat []))):=rfl;rw[hpe]at hmset hp1 hp2 hp3;generalize b.midsTo left (b.raw left) j=M0 at *
   have hH10:=hH8.trans (hG9.trans hG910);have hj15:j<15:=oM;generalize hRn:b.raw left=R at *
   obtain⟨Aj,nj,Bj,rfl,hAl⟩:=zh4 (l:=M0) (k:=j) oM;have hns0:=hns7;obtain⟨cA,cN,cB,rfl,hcl,hnc,hput⟩:=hns7.mid;obtain⟨d1,e1',m1,n1,e2',m2,n2,d3,e3,m3,n3,e4,m4,n4,d5,e5,m5,n5,e6,m6,n6,e7,n7,rfl,k1,k2,k3,k4⟩:=hnc.cells;have hxs7:=hown7.1;obtain⟨gN,capN,spN,e8,rfl,hback⟩:=hown7.mid rfl;cases e8
   have hcap:R.length≤oc:=by
    rcases hown7.2 with ⟨e,_⟩ | ⟨_,_,_,e,_,_,h,_⟩
    ·cases e
    ·cases e;exact h
   have hcells:∀(q:Nat) (u:Value),((cA++[.int .i64 nj.col,.int .i64 nj.left,.int .i64 nj.right,.int .i64 nj.rows,.int .i64 nj.cls,.bool d1,.slice e1' m1 n1,.slice e2' m2 n2,.bool d3,.slice e3 m3 n3,.slice e4 m4 n4,.bool d5,.slice e5 m5 n5,.slice e6 m6 n6,.slice e7 nj.counts.length n7]::cB).flatten)[q]?=some u→(cA.flatten++([.int .i64 nj.col,.int .i64 nj.left,.int .i64 nj.right,.int .i64 nj.rows,.int .i64 nj.cls,.bool d1,.slice e1' m1 n1,.slice e2' m2 n2,.bool d3,.slice e3 m3 n3,.slice e4 m4 n4,.bool d5,.slice e5 m5 n5,.slice e6 m6 n6,.slice e7 nj.counts.length n7]++(cB.flatten++spN)))[q]?=some u:=fun q u h=>by
    rw[show cA.flatten++([.int .i64 nj.col,.int .i64 nj.left,.int .i64 nj.right,.int .i64 nj.rows,.int .i64 nj.cls,.bool d1,.slice e1' m1 n1,.slice e2' m2 n2,.bool d3,.slice e3 m3 n3,.slice e4 m4 n4,.bool d5,.slice e5 m5 n5,.slice e6 m6 n6,.slice e7 nj.counts.length n7]++(cB.flatten++spN))=(cA++[.int .i64 nj.col,.int .i64 nj.left,.int .i64 nj.right,.int .i64 nj.rows,.int .i64 nj.cls,.bool d1,.slice e1' m1 n1,.slice e2' m2 n2,.bool d3,.slice e3 m3 n3,.slice e4 m4 n4,.bool d5,.slice e5 m5 n5,.slice e6 m6 n6,.slice e7 nj.counts.length n7]::cB).flatten++spN by simp];rw[qM (qE.1 h).1];exact h
   generalize hCN:cA.flatten++([.int .i64 nj.col,.int .i64 nj.left,.int .i64 nj.right,.int .i64 nj.rows,.int .i64 nj.cls,.bool d1,.slice e1' m1 n1,.slice e2' m2 n2,.bool d3,.slice e3 m3 n3,.slice e4 m4 n4,.bool d5,.slice e5 m5 n5,.slice e6 m6 n6,.slice e7 nj.counts.length n7]++(cB.flatten++spN))=CN at hcells ⊢;refine uR ?_;refine EV.loopK (ι:=Nat × List Value × Value × Ows) [0,1,5,6,8,9,11,12,17,19] [5,6,17] (fun q=>[(20,.v q.2.2.1),(21,.v (.int .i64 (q.1:Int)))]) (fun _=>[]) (fun q=>(gN,147,CN)::(g8,69,zaa b.loss (b.W:Int) (rc b4 a7 l7 c7 a8 l8 c8) (rc b1 a1 l1 c1 a2 l2 c2) (rc b2 a3 l3 c3 a4 l4 c4) (.slice ta ts.length tc))::q.2.2.2) (fun q G=>q.1≤b.X.length∧G10.Le G∧RVs G q.2.1 (atR left ((zcC q.1).filter fun r=>decide ((j:Int)∈zk4 R (b.X.getD r.toNat []))))∧zaF 33 3 q.2.2.1 (atR left ((zcC q.1).filter fun r=>decide ((j:Int)∈zk4 R (b.X.getD r.toNat [])))).length (q.2.1.flatMap zae) q.2.2.2) (fun q=>b.X.length-q.1) ((0,[],.slice none 0 0,[])) rfl rfl ⟨rfl,rfl,trivial⟩ trivial rfl (fun _=>rfl) (⟨qQ _,Hp.Le.refl _,RVs.nil _,zaF.nil _ _⟩) ?_;rintro⟨i,us,v20,ow20⟩ G11 hG11 ⟨hi,hG1011,hus,hown20⟩;dsimp only at hi hG1011 hus hown20;obtain⟨a20,c20,rfl⟩:=hown20.val;refine uR ?_;refine EV.cond rfl (fun hli2=>?_) (fun hli2=>?_)
   ·simp only[nN]at hli2;obtain⟨x,hx⟩:=gE hli2;obtain⟨q,hqi⟩:∃q,left[i]?=some q:=⟨_,qA oM⟩;obtain⟨ux,ex,hux,hxr⟩:=hvs.at hx;have hxl:=hxw x (qF hx);have hxq:∀q,q∈x→rq q:=fun q hq=>zaA (hx60 x (qF hx) q hq) oM;have hxw':(x.length:Int)=(b.W:Int):=by rw[hxl]
    have hHG:=hH10.trans hG1011
    have hRT:∀G',G11.Le G'→G' gN=some CN.toArray→zeD G' [.int .i64 2,.int .i64 0,.int .i64 (b.W:Int),.slice (some ⟨gN,0,none⟩) R.length oc] 2 0 (b.W:Int) (Aj++nj::Bj):=fun G' hG' hb'=>by
     rw[←hmj];refine⟨_,_,_,rfl,hns0.mono (hG1011.trans hG'),?_,.inr ⟨gN,0,oc,_,rfl,by rw[hmj];exact hcap,hb',fun q u hq=>?_⟩⟩
     ·rw[hmj];exact hxs7
     ·rw[qv,List.getElem?_toArray];exact hcells q u hq
    have hvx11:=hvx.mono hHG;have hxr11:=hxr.mono hHG;rw[hxl]at hux hxr11
    have hfs:(zcC (i+1)).filter (fun r=>decide ((j:Int)∈zk4 R (b.X.getD r.toNat [])))=(zcC i).filter (fun r=>decide ((j:Int)∈zk4 R (b.X.getD r.toNat [])))++(if (j:Int)∈zk4 R x then [(i:Int)] else []):=by
     rw[zfB,List.filter_append];congr 1;have hxd:b.X.getD ((i:Int)).toNat []=x:=by rw[qU,qB,hx];rfl
     by_cases hin:(j:Int)∈zk4 R x
     ·rw[if_pos hin,List.filter_cons_of_pos (by rw[hxd];exact qD hin)];rfl
     ·rw[if_neg hin,List.filter_cons_of_neg (by rw[hxd];simpa using hin)];rfl
    have hat:atR left [(i:Int)]=[q]:=by
     show [left.getD ((i:Int)).toNat 0]=[q];rw[qU,qB,hqi];rfl
    have happ:∀A B:List Int,atR left (A++B)=atR left A++atR left B:=fun A B=>qo;refine uR ?_;apply EV.drawn 7 kR kR;intro xv yw;(repeat refine' DD ?_);refine' vJ (hvx11) (i) (rfl) (hli2) (hux) ?_;rotate_left;(repeat refine' DD ?_);(refine' DJ.callRO (Ψ:=fun v G=>∃l:List Int,IL G v l∧zdb (Aj++nj::Bj) x 0 l∧l.length≤2000) rfl rfl rfl rfl rfl 0 rfl (cO func73) (fun G hG hd G' hGG hb'=>zkS (hRT G' (hG.trans hGG) hb') hmok (hxr11.mono (hG.trans hGG)) hxw' hxq) (fun v ow ⟨l,h1,h2,h3⟩=>⟨_,_,_,_,h1,fun G hs=>⟨l,hs,h2,h3⟩⟩) (fun v G G' ⟨l,h1,h2,h3⟩ k=>⟨l,h1.mono k,h2,h3⟩) ?_;rotate_left);(repeat refine' DD ?_);(refine DJ.nil (fun G3 hG3 hF3=>?_);(case hS|hS2=>rfl));obtain⟨⟨l,hil,hpl,hll⟩,_⟩:=hF3;obtain⟨la,lc,e⟩:=SlC.val hil;rw[e]at hil ⊢;have hwl:=hway x l hpl;rw[hwl]at hfs;have hqL:=hLL.slc hqi;obtain⟨lcs,lb,la1,ll1,lc1,la2,ll2,lc2,hlS,hlcut,hlq⟩:=hqL;have hK:=hG9.trans (hG910.trans (hG1011.trans hG3));refine uR ?_;refine EVL.call rfl rfl rfl rfl rfl (zrx hil oM) ?_;rintro _ G13 rfl hG13;have hlS13:=hlS.mono (hK.trans hG13);rw[hln1]at hlS13;by_cases hin:(j:Int)∈l
    ·rw[qD hin];refine uR ?_;refine EVL.idxM tO rfl rfl rfl rfl rfl rfl rfl rfl rfl (hlS13) (i) (rfl) (hli2) (hlcut) ?_;refine uR ?_;(first|refine EVL.swapOw ([(gN,147,CN),(g8,69,zaa b.loss (b.W:Int) (rc b4 a7 l7 c7 a8 l8 c8) (rc b1 a1 l1 c1 a2 l2 c2) (rc b2 a3 l3 c3 a4 l4 c4) (.slice ta ts.length tc))]) (ow20) (rfl) ?_|refine EV.swapOw ([(gN,147,CN),(g8,69,zaa b.loss (b.W:Int) (rc b4 a7 l7 c7 a8 l8 c8) (rc b1 a1 l1 c1 a2 l2 c2) (rc b2 a3 l3 c3 a4 l4 c4) (.slice ta ts.length tc))]) (ow20) (rfl) ?_);refine EVL.app1 tO rfl rfl rfl rfl rfl rfl rfl rfl rfl rfl rfl rfl rfl rfl rfl rfl rfl rfl rfl (fun _=>rfl) (ow20) ([(gN,147,CN),(g8,69,zaa b.loss (b.W:Int) (rc b4 a7 l7 c7 a8 l8 c8) (rc b1 a1 l1 c1 a2 l2 c2) (rc b2 a3 l3 c3 a4 l4 c4) (.slice ta ts.length tc))]) (rfl) (hown20) ((by rw[zdU];have:=List.length_filter_le (fun r=>decide ((j:Int)∈zk4 R (b.X.getD r.toNat []))) (zcC i);rw[zcp]at this;omega)) fun _=>?_;intro v20' ow20' h20';(first|refine EVL.swapOw (ow20') ([(gN,147,CN),(g8,69,zaa b.loss (b.W:Int) (rc b4 a7 l7 c7 a8 l8 c8) (rc b1 a1 l1 c1 a2 l2 c2) (rc b2 a3 l3 c3 a4 l4 c4) (.slice ta ts.length tc))]) (rfl) ?_|refine EV.swapOw (ow20') ([(gN,147,CN),(g8,69,zaa b.loss (b.W:Int) (rc b4 a7 l7 c7 a8 l8 c8) (rc b1 a1 l1 c1 a2 l2 c2) (rc b2 a3 l3 c3 a4 l4 c4) (.slice ta ts.length tc))]) (rfl) ?_);refine uR ?_;exact⟨(i+1,us++[.agg (rc lb la1 ll1 lc1 la2 ll2 lc2).toArray],v20',ow20'),⟨rfl,by rw[zab i (by omega)];rfl,trivial⟩,sB,trivial,sB,rfl,⟨hli2,hG1011.trans (hG3.trans hG13),by dsimp only;rw[hfs,happ,if_pos hin,hat];exact(hus.mono (hG3.trans hG13)).snoc (RQ.mono hlq (hK.trans hG13)),by dsimp only;rw[hfs,happ,if_pos hin,hat,List.flatMap_append,qJ];exact h20'⟩,hG3.trans hG13,by dsimp only;omega⟩
    ·rw[qC hin];refine uR ?_;exact⟨(i+1,us,_,ow20),⟨rfl,by rw[zab i (by omega)];rfl,trivial⟩,sB,trivial,sB,rfl,⟨hli2,hG1011.trans (hG3.trans hG13),by dsimp only;rw[hfs,happ,if_neg hin,show atR left []=[] from rfl,qG];exact hus.mono (hG3.trans hG13),by dsimp only;rw[hfs,happ,if_neg hin,show atR left []=[] from rfl,qG];exact hown20⟩,hG3.trans hG13,by dsimp only;omega⟩
   simp only[nN]at hli2;obtain rfl:i=b.X.length:=oM;(first|refine EVL.publishL [(gN,147,CN),(g8,69,zaa b.loss (b.W:Int) (rc b4 a7 l7 c7 a8 l8 c8) (rc b1 a1 l1 c1 a2 l2 c2) (rc b2 a3 l3 c3 a4 l4 c4) (.slice ta ts.length tc))] ow20 [] ((show [(gN,147,CN),(g8,69,zaa b.loss (b.W:Int) (rc b4 a7 l7 c7 a8 l8 c8) (rc b1 a1 l1 c1 a2 l2 c2) (rc b2 a3 l3 c3 a4 l4 c4) (.slice ta ts.length tc))]++ow20=[(gN,147,CN),(g8,69,zaa b.loss (b.W:Int) (rc b4 a7 l7 c7 a8 l8 c8) (rc b1 a1 l1 c1 a2 l2 c2) (rc b2 a3 l3 c3 a4 l4 c4) (.slice ta ts.length tc))]++(ow20++[]) by rw[qG])) hown20 fun G12 hG12 hs20=>?_|refine EV.publishL [(gN,147,CN),(g8,69,zaa b.loss (b.W:Int) (rc b4 a7 l7 c7 a8 l8 c8) (rc b1 a1 l1 c1 a2 l2 c2) (rc b2 a3 l3 c3 a4 l4 c4) (.slice ta ts.length tc))] ow20 [] ((show [(gN,147,CN),(g8,69,zaa b.loss (b.W:Int) (rc b4 a7 l7 c7 a8 l8 c8) (rc b1 a1 l1 c1 a2 l2 c2) (rc b2 a3 l3 c3 a4 l4 c4) (.slice ta ts.length tc))]++ow20=[(gN,147,CN),(g8,69,zaa b.loss (b.W:Int) (rc b4 a7 l7 c7 a8 l8 c8) (rc b1 a1 l1 c1 a2 l2 c2) (rc b2 a3 l3 c3 a4 l4 c4) (.slice ta ts.length tc))]++(ow20++[]) by rw[qG])) hown20 fun G12 hG12 hs20=>?_);have hPL:=(hus.mono hG12).rl hs20;have hK:=hG9.trans (hG910.trans (hG1011.trans hG12));have h2k:=RQ.mono h2 (hH8.trans hK);have hmd2:=fun (G:Hp) (hG:G12.Le G)=>zhn (loss:=2) (RL.mono hPL hG) (RQ.mono h2k hG) hp2 oM (fun q hq=>qI (hl95 q (hp1 q hq)) oM) (fun _=>⟨t0,t1⟩) hb.den.2;refine uR ?_;apply EV.drawn 7 kR kR;intro xv yw;(repeat refine' DD ?_);refine' vB (cO func68) (fun G hG hd=>hmd2 G hG) (fun _ _ _ h k=>RQ.mono h k) ?_;rotate_left;(refine DJ.nil (fun G3 hG3 hF3=>?_);(case hS|hS2=>rfl));have hR:=hF3.1;rw[show ∀l,zoe 2 b.tilt l=zjG b.tilt l from fun l=>if_neg (by decide)]at hR;obtain⟨za1,zl1,zc1,za2,zl2,zc2,e,_,_⟩:=id hR;rw[e]at hR ⊢;subst hCN;subst hAl;have hm1:=hmset nj (by rw[qL (qH _),Nat.sub_self];rfl);rw[List.set_append_right _ _ (qH _),Nat.sub_self,List.set_cons_zero]at hm1;refine EVL.idxB tO rfl rfl rfl rfl rfl rfl rfl rfl rfl (Aj.length) (Aj.length*15) (rfl) (hlj) (rfl) ?_;refine EVL.fldB tO rfl rfl rfl rfl rfl rfl rfl ?_;refine EVL.storeOwn tO rfl rfl rfl rfl rfl rfl ([]) ([(g8,69,zaa b.loss (b.W:Int) (rc b4 a7 l7 c7 a8 l8 c8) (rc b1 a1 l1 c1 a2 l2 c2) (rc b2 a3 l3 c3 a4 l4 c4) (.slice ta ts.length tc))]) rfl rfl rfl rfl ((zc5 (f:=11) hcl rfl (by show 11+3≤15;omega))) (zc6 (f:=11) hcl rfl rfl (by show 11+3≤15;omega) rfl) ?_;refine uR ?_;have hK3:=hG1011.trans (hG12.trans hG3);refine⟨(Aj.length+1,cA++[.int .i64 nj.col,.int .i64 nj.left,.int .i64 nj.right,.int .i64 nj.rows,.int .i64 nj.cls,.bool d1,.slice e1' m1 n1,.slice e2' m2 n2,.bool d3,.slice e3 m3 n3,.slice e4 m4 n4,.bool _,.slice za1 zl1 zc1,.slice za2 zl2 zc2,.slice e7 nj.counts.length n7]::cB,[(gN,_,_)]),⟨by rw[zab Aj.length (by omega)];rfl,trivial⟩,sB,trivial,sB,rfl,⟨hlj,hG910.trans hK3,?_,hback _ rfl⟩,hK3,by dsimp only;omega⟩;dsimp only;rw[←hm1];exact hput _ _ _ hK3 ⟨_,_,_,_,k1.mono hK3,k2.mono hK3,hR,k4.mono hK3,rfl⟩
  rintro⟨css',ow17'⟩ G10 ⟨hG10,hns',hown'⟩;dsimp only at hns' hown';have hnl:(b.nodes left).length=(b.raw left).length:=hal.len;(first|refine EVL.publishL [] ow17' [(g8,69,zaa b.loss (b.W:Int) (rc b4 a7 l7 c7 a8 l8 c8) (rc b1 a1 l1 c1 a2 l2 c2) (rc b2 a3 l3 c3 a4 l4 c4) (.slice ta ts.length tc))] (rfl) hown' fun G11 hG11 hsN=>?_|refine EV.publishL [] ow17' [(g8,69,zaa b.loss (b.W:Int) (rc b4 a7 l7 c7 a8 l8 c8) (rc b1 a1 l1 c1 a2 l2 c2) (rc b2 a3 l3 c3 a4 l4 c4) (.slice ta ts.length tc))] (rfl) hown' fun G11 hG11 hsN=>?_);have hTr:zeD G11 [.int .i64 2,.int .i64 0,.int .i64 (b.W:Int),.slice oa (b.raw left).length oc] 2 0 (b.W:Int) (b.nodes left):=⟨oa,oc,css',by rw[hnl],hns'.mono hG11,by rw[hnl];exact hsN⟩;(first|refine EVL.unbox (17) rfl fun g17=>?_|refine EV.unbox (17) rfl fun g17=>?_);(first|refine EVL.publish [] [(g8,69,zaa b.loss (b.W:Int) (rc b4 a7 l7 c7 a8 l8 c8) (rc b1 a1 l1 c1 a2 l2 c2) (rc b2 a3 l3 c3 a4 l4 c4) (.slice ta ts.length tc))] rfl fun G12 hG12 hb12=>?_|refine EV.publish [] [(g8,69,zaa b.loss (b.W:Int) (rc b4 a7 l7 c7 a8 l8 c8) (rc b1 a1 l1 c1 a2 l2 c2) (rc b2 a3 l3 c3 a4 l4 c4) (.slice ta ts.length tc))] rfl fun G12 hG12 hb12=>?_);have hK12:=hG56.trans (hG7.trans (hG8.trans (hG9.trans (hG10.trans (hG11.trans hG12)))));obtain⟨tcs,htcs,hsl⟩:=hts;have hsl12:=hsl.mono hK12;have hone:=RTs.one htcs
  have hfin:∀(G:Hp) (_:G12.Le G) (a:Option Addr) (c:Nat),SlC G (.slice a (ts.length+1) c) (ts.length+1) 4 (tcs.flatten++[.int .i64 2,.int .i64 0,.int .i64 (b.W:Int),.slice oa (b.raw left).length oc])→RTL G (.slice a (ts.length+1) c) (b.fit y (ts.length+1)).1:=fun G hG a c hs=>by
   rw[hnext];refine⟨tcs++[[.int .i64 2,.int .i64 0,.int .i64 (b.W:Int),.slice oa (b.raw left).length oc]],zfq (htcs.mono (hK12.trans hG)) (hTr.mono (hG12.trans hG)),?_⟩;rw[qJ,qz,List.flatten_append];exact(by simpa using hs)
  refine EVG.start (fun W=>Box W g8 (zaa b.loss (b.W:Int) (rc b4 a7 l7 c7 a8 l8 c8) (rc b1 a1 l1 c1 a2 l2 c2) (rc b2 a3 l3 c3 a4 l4 c4) (.slice ta ts.length tc)).toArray 69∧Fits G12 W) (some 8) ?_;refine IF 1 ?_;refine ILQ 2 (b:=g8) (off:=0+11) (te:=Tryz.te67) (cs:=zaa b.loss (b.W:Int) (rc b4 a7 l7 c7 a8 l8 c8) (rc b1 a1 l1 c1 a2 l2 c2) (rc b2 a3 l3 c3 a4 l4 c4) (.slice ta ts.length tc)) (l:=[.slice ta ts.length tc]) (fun _ h=>h.1) ?_ rfl rfl rfl;refine IRQ 4 (H0:=G12) (b:=g17) (off:=0) (l:=[.int .i64 2,.int .i64 0,.int .i64 (b.W:Int),.slice oa (b.raw left).length oc]) (fun _ h=>h.2) ?_ hb12 (fun j u hj=>by rw[qv];simpa using hj) rfl rfl;refine EVG.two 0 5 (zde (p:=(g8,69,zaa b.loss (b.W:Int) (rc b4 a7 l7 c7 a8 l8 c8) (rc b1 a1 l1 c1 a2 l2 c2) (rc b2 a3 l3 c3 a4 l4 c4) (.slice ta ts.length tc))) (jj:=0) (.inr rfl) (Hp.Le.refl _)) kR rfl rfl ?_ ?_
  ·refine EVL.lit0 tO rfl rfl rfl rfl rfl rfl rfl fun g2=>?_;(first|refine EVL.swapOw ([(g2,_,_)]) ([(g8,69,zaa b.loss (b.W:Int) (rc b4 a7 l7 c7 a8 l8 c8) (rc b1 a1 l1 c1 a2 l2 c2) (rc b2 a3 l3 c3 a4 l4 c4) (.slice ta ts.length tc))]) (rfl) ?_|refine EV.swapOw ([(g2,_,_)]) ([(g8,69,zaa b.loss (b.W:Int) (rc b4 a7 l7 c7 a8 l8 c8) (rc b1 a1 l1 c1 a2 l2 c2) (rc b2 a3 l3 c3 a4 l4 c4) (.slice ta ts.length tc))]) (rfl) ?_);refine EVL.nil ⟨rfl,?_⟩;refine EVG.two 3 5 (zde (p:=(g8,69,zaa b.loss (b.W:Int) (rc b4 a7 l7 c7 a8 l8 c8) (rc b1 a1 l1 c1 a2 l2 c2) (rc b2 a3 l3 c3 a4 l4 c4) (.slice ta ts.length tc))) (jj:=0) (.inr rfl) (Hp.Le.refl _)) kR rfl rfl ?_ ?_
   ·refine EVL.appendR tO rfl rfl rfl rfl rfl rfl rfl rfl rfl rfl rfl rfl rfl [(g8,69,zaa b.loss (b.W:Int) (rc b4 a7 l7 c7 a8 l8 c8) (rc b1 a1 l1 c1 a2 l2 c2) (rc b2 a3 l3 c3 a4 l4 c4) (.slice ta ts.length tc))] [(g2,92,[])] [] rfl (zaF.full (m:=0) rfl oM) hsl12 hone oM ?_;intro v2 ow2 hown2;rw[qv,pQ]at hown2;refine EVL.nil ⟨rfl,?_⟩;refine EVG.one 5 (zde (p:=(g8,69,zaa b.loss (b.W:Int) (rc b4 a7 l7 c7 a8 l8 c8) (rc b1 a1 l1 c1 a2 l2 c2) (rc b2 a3 l3 c3 a4 l4 c4) (.slice ta ts.length tc))) (jj:=0) (.inr rfl) (Hp.Le.refl _)) kR rfl ?_;refine EVL.lit tO rfl rfl rfl rfl rfl rfl rfl rfl rfl rfl rfl fun bl=>?_;refine EVL.nil ⟨rfl,?_⟩;refine EVG.one 6 (zde (p:=(g8,69,zaa b.loss (b.W:Int) (rc b4 a7 l7 c7 a8 l8 c8) (rc b1 a1 l1 c1 a2 l2 c2) (rc b2 a3 l3 c3 a4 l4 c4) (.slice ta ts.length tc))) (jj:=1) (.inr rfl) (Hp.Le.refl _)) kR rfl ?_;refine EVL.append tO rfl rfl rfl rfl rfl rfl rfl rfl rfl rfl rfl rfl [(bl,_,_),(g8,69,zaa b.loss (b.W:Int) (rc b4 a7 l7 c7 a8 l8 c8) (rc b1 a1 l1 c1 a2 l2 c2) (rc b2 a3 l3 c3 a4 l4 c4) (.slice ta ts.length tc))] ow2 [] rfl hown2 (zcn.own 0 rfl rfl) rfl oM ?_;intro v3 ow3 hown3;obtain⟨a3',c3',rfl⟩:=hown3.val;refine EVL.subOw [] [(bl,_,_)] _ rfl ?_;refine EVL.nil ⟨rfl,?_⟩;refine EVG.one 7 (zde (p:=(g8,69,zaa b.loss (b.W:Int) (rc b4 a7 l7 c7 a8 l8 c8) (rc b1 a1 l1 c1 a2 l2 c2) (rc b2 a3 l3 c3 a4 l4 c4) (.slice ta ts.length tc))) (jj:=0) (.inr rfl) (Hp.Le.refl _)) kR rfl ?_;refine EVL.fldB tO rfl rfl rfl rfl rfl rfl rfl ?_;refine EVL.nil ⟨rfl,?_⟩;refine EVG.one 8 (zde (p:=(g8,69,zaa b.loss (b.W:Int) (rc b4 a7 l7 c7 a8 l8 c8) (rc b1 a1 l1 c1 a2 l2 c2) (rc b2 a3 l3 c3 a4 l4 c4) (.slice ta ts.length tc))) (jj:=0) (.inr rfl) (Hp.Le.refl _)) kR rfl ?_;refine EVL.storeOwn tO rfl rfl rfl rfl rfl rfl ([]) (ow3++[]) rfl rfl rfl rfl ((Nat.le_of_ble_eq_true rfl)) (rfl) ?_;(first|refine EVL.publishL [(g8,69,_)] ow3 [] (rfl) hown3 fun G13 hG13 hs13=>?_|refine EV.publishL [(g8,69,_)] ow3 [] (rfl) hown3 fun G13 hG13 hs13=>?_);refine EVL.nil ⟨rfl,?_⟩;refine EVG.nil (zde (p:=(g8,69,zaa b.loss (b.W:Int) (rc b4 a7 l7 c7 a8 l8 c8) (rc b1 a1 l1 c1 a2 l2 c2) (rc b2 a3 l3 c3 a4 l4 c4) (.slice ta ts.length tc))) (jj:=0) (.inl kR) hG13) kR ?_;refine uR ?_;exact⟨(ts.length+1,a3',c3'),⟨by rw[zab ts.length (by omega)];rfl,trivial⟩,sB,trivial,sB,rfl,⟨hlt,hG45.trans (hK12.trans hG13),hfin G13 hG13 a3' c3' hs13⟩,hK12.trans hG13,by dsimp only;omega⟩
   ·refine EVL.lit tO rfl rfl rfl rfl rfl rfl rfl rfl rfl rfl rfl fun bl=>?_;refine EVL.nil ⟨rfl,?_⟩;refine EVG.one 3 (zde (p:=(g8,69,zaa b.loss (b.W:Int) (rc b4 a7 l7 c7 a8 l8 c8) (rc b1 a1 l1 c1 a2 l2 c2) (rc b2 a3 l3 c3 a4 l4 c4) (.slice ta ts.length tc))) (jj:=1) (.inr rfl) (Hp.Le.refl _)) kR rfl ?_;refine EVL.appendR tO rfl rfl rfl rfl rfl rfl rfl rfl rfl rfl rfl rfl rfl [(bl,_,_),(g8,69,zaa b.loss (b.W:Int) (rc b4 a7 l7 c7 a8 l8 c8) (rc b1 a1 l1 c1 a2 l2 c2) (rc b2 a3 l3 c3 a4 l4 c4) (.slice ta ts.length tc))] [(g2,92,[])] [] rfl (zaF.full (m:=0) rfl oM) hsl12 hone oM ?_;intro v2 ow2 hown2;rw[qv,pQ]at hown2;refine EVL.nil ⟨rfl,?_⟩;refine EVG.one 6 (zde (p:=(g8,69,zaa b.loss (b.W:Int) (rc b4 a7 l7 c7 a8 l8 c8) (rc b1 a1 l1 c1 a2 l2 c2) (rc b2 a3 l3 c3 a4 l4 c4) (.slice ta ts.length tc))) (jj:=1) (.inr rfl) (Hp.Le.refl _)) kR rfl ?_;refine EVL.append tO rfl rfl rfl rfl rfl rfl rfl rfl rfl rfl rfl rfl [(bl,_,_),(g8,69,zaa b.loss (b.W:Int) (rc b4 a7 l7 c7 a8 l8 c8) (rc b1 a1 l1 c1 a2 l2 c2) (rc b2 a3 l3 c3 a4 l4 c4) (.slice ta ts.length tc))] ow2 [] rfl hown2 (zcn.own 0 rfl rfl) rfl oM ?_;intro v3 ow3 hown3;obtain⟨a3',c3',rfl⟩:=hown3.val;refine EVL.subOw [] [(bl,_,_)] _ rfl ?_;refine EVL.nil ⟨rfl,?_⟩;refine EVG.one 7 (zde (p:=(g8,69,zaa b.loss (b.W:Int) (rc b4 a7 l7 c7 a8 l8 c8) (rc b1 a1 l1 c1 a2 l2 c2) (rc b2 a3 l3 c3 a4 l4 c4) (.slice ta ts.length tc))) (jj:=0) (.inr rfl) (Hp.Le.refl _)) kR rfl ?_;refine EVL.fldB tO rfl rfl rfl rfl rfl rfl rfl ?_;refine EVL.nil ⟨rfl,?_⟩;refine EVG.one 8 (zde (p:=(g8,69,zaa b.loss (b.W:Int) (rc b4 a7 l7 c7 a8 l8 c8) (rc b1 a1 l1 c1 a2 l2 c2) (rc b2 a3 l3 c3 a4 l4 c4) (.slice ta ts.length tc))) (jj:=0) (.inr rfl) (Hp.Le.refl _)) kR rfl ?_;refine EVL.storeOwn tO rfl rfl rfl rfl rfl rfl ([]) (ow3++[]) rfl rfl rfl rfl ((Nat.le_of_ble_eq_true rfl)) (rfl) ?_;(first|refine EVL.publishL [(g8,69,_)] ow3 [] (rfl) hown3 fun G13 hG13 hs13=>?_|refine EV.publishL [(g8,69,_)] ow3 [] (rfl) hown3 fun G13 hG13 hs13=>?_);refine EVL.nil ⟨rfl,?_⟩;refine EVG.nil (zde (p:=(g8,69,zaa b.loss (b.W:Int) (rc b4 a7 l7 c7 a8 l8 c8) (rc b1 a1 l1 c1 a2 l2 c2) (rc b2 a3 l3 c3 a4 l4 c4) (.slice ta ts.length tc))) (jj:=0) (.inl kR) hG13) kR ?_;refine uR ?_;exact⟨(ts.length+1,a3',c3'),⟨by rw[zab ts.length (by omega)];rfl,trivial⟩,sB,trivial,sB,rfl,⟨hlt,hG45.trans (hK12.trans hG13),hfin G13 hG13 a3' c3' hs13⟩,hK12.trans hG13,by dsimp only;omega⟩
  ·refine EVL.lit tO rfl rfl rfl rfl rfl rfl rfl rfl rfl rfl rfl fun bl=>?_;refine EVL.nil ⟨rfl,?_⟩;refine EVG.one 0 (zde (p:=(g8,69,zaa b.loss (b.W:Int) (rc b4 a7 l7 c7 a8 l8 c8) (rc b1 a1 l1 c1 a2 l2 c2) (rc b2 a3 l3 c3 a4 l4 c4) (.slice ta ts.length tc))) (jj:=1) (.inr rfl) (Hp.Le.refl _)) kR rfl ?_;refine EVL.lit0 tO rfl rfl rfl rfl rfl rfl rfl fun g2=>?_;(first|refine EVL.swapOw ([(g2,_,_)]) ([(bl,_,_),(g8,69,zaa b.loss (b.W:Int) (rc b4 a7 l7 c7 a8 l8 c8) (rc b1 a1 l1 c1 a2 l2 c2) (rc b2 a3 l3 c3 a4 l4 c4) (.slice ta ts.length tc))]) (rfl) ?_|refine EV.swapOw ([(g2,_,_)]) ([(bl,_,_),(g8,69,zaa b.loss (b.W:Int) (rc b4 a7 l7 c7 a8 l8 c8) (rc b1 a1 l1 c1 a2 l2 c2) (rc b2 a3 l3 c3 a4 l4 c4) (.slice ta ts.length tc))]) (rfl) ?_);refine EVL.nil ⟨rfl,?_⟩;refine EVG.one 3 (zde (p:=(g8,69,zaa b.loss (b.W:Int) (rc b4 a7 l7 c7 a8 l8 c8) (rc b1 a1 l1 c1 a2 l2 c2) (rc b2 a3 l3 c3 a4 l4 c4) (.slice ta ts.length tc))) (jj:=1) (.inr rfl) (Hp.Le.refl _)) kR rfl ?_;refine EVL.appendR tO rfl rfl rfl rfl rfl rfl rfl rfl rfl rfl rfl rfl rfl [(bl,_,_),(g8,69,zaa b.loss (b.W:Int) (rc b4 a7 l7 c7 a8 l8 c8) (rc b1 a1 l1 c1 a2 l2 c2) (rc b2 a3 l3 c3 a4 l4 c4) (.slice ta ts.length tc))] [(g2,92,[])] [] rfl (zaF.full (m:=0) rfl oM) hsl12 hone oM ?_;intro v2 ow2 hown2;rw[qv,pQ]at hown2;refine EVL.nil ⟨rfl,?_⟩;refine EVG.one 6 (zde (p:=(g8,69,zaa b.loss (b.W:Int) (rc b4 a7 l7 c7 a8 l8 c8) (rc b1 a1 l1 c1 a2 l2 c2) (rc b2 a3 l3 c3 a4 l4 c4) (.slice ta ts.length tc))) (jj:=1) (.inr rfl) (Hp.Le.refl _)) kR rfl ?_;refine EVL.append tO rfl rfl rfl rfl rfl rfl rfl rfl rfl rfl rfl rfl [(bl,_,_),(g8,69,zaa b.loss (b.W:Int) (rc b4 a7 l7 c7 a8 l8 c8) (rc b1 a1 l1 c1 a2 l2 c2) (rc b2 a3 l3 c3 a4 l4 c4) (.slice ta ts.length tc))] ow2 [] rfl hown2 (zcn.own 0 rfl rfl) rfl oM ?_;intro v3 ow3 hown3;obtain⟨a3',c3',rfl⟩:=hown3.val;refine EVL.subOw [] [(bl,_,_)] _ rfl ?_;refine EVL.nil ⟨rfl,?_⟩;refine EVG.one 7 (zde (p:=(g8,69,zaa b.loss (b.W:Int) (rc b4 a7 l7 c7 a8 l8 c8) (rc b1 a1 l1 c1 a2 l2 c2) (rc b2 a3 l3 c3 a4 l4 c4) (.slice ta ts.length tc))) (jj:=0) (.inr rfl) (Hp.Le.refl _)) kR rfl ?_;refine EVL.fldB tO rfl rfl rfl rfl rfl rfl rfl ?_;refine EVL.nil ⟨rfl,?_⟩;refine EVG.one 8 (zde (p:=(g8,69,zaa b.loss (b.W:Int) (rc b4 a7 l7 c7 a8 l8 c8) (rc b1 a1 l1 c1 a2 l2 c2) (rc b2 a3 l3 c3 a4 l4 c4) (.slice ta ts.length tc))) (jj:=0) (.inr rfl) (Hp.Le.refl _)) kR rfl ?_;refine EVL.storeOwn tO rfl rfl rfl rfl rfl rfl ([]) (ow3++[]) rfl rfl rfl rfl ((Nat.le_of_ble_eq_true rfl)) (rfl) ?_;(first|refine EVL.publishL [(g8,69,_)] ow3 [] (rfl) hown3 fun G13 hG13 hs13=>?_|refine EV.publishL [(g8,69,_)] ow3 [] (rfl) hown3 fun G13 hG13 hs13=>?_);refine EVL.nil ⟨rfl,?_⟩;refine EVG.nil (zde (p:=(g8,69,zaa b.loss (b.W:Int) (rc b4 a7 l7 c7 a8 l8 c8) (rc b1 a1 l1 c1 a2 l2 c2) (rc b2 a3 l3 c3 a4 l4 c4) (.slice ta ts.length tc))) (jj:=0) (.inl kR) hG13) kR ?_;refine uR ?_;exact⟨(ts.length+1,a3',c3'),⟨by rw[zab ts.length (by omega)];rfl,trivial⟩,sB,trivial,sB,rfl,⟨hlt,hG45.trans (hK12.trans hG13),hfin G13 hG13 a3' c3' hs13⟩,hK12.trans hG13,by dsimp only;omega⟩
structure zec (w:Nat) (t:Tr):Prop where
 cl:t.cl=0
 wide:t.w=(w:Int)
 w20:1≤w∧w≤20
 ok:t.ns=[]∨zbK ⟨2,0,(w:Int),t.ns⟩
 len:t.ns.length≤15
 small:∀n,n∈t.ns→ht n.value≤105
def zfh (t:Tr):Int:=if ¬(t.kd=1∨t.kd=2) then 10 else if t.kd=1∨t.ns=[] then 5 else 0
def zdW (w:Int) (t:Tr):Int:=if zfh t≠0 then zfh t else if t.kd≠2∨t.w≠w then 10 else 0
def zdR (w:Int):List Tr→Int
 | []=>0
 | t::ts=>if zdW w t≠0 then zdW w t else zdR w ts
def zaz (loss w:Int) (rate tilt:Rat) (ts:List Tr):Int:=if ¬(loss=1∨loss=2) then 10 else if w<1∨w>20∨ts.length>50 then 5 else if zb0 loss rate tilt=false then 1 else zdR w ts
theorem zgG.x {w:Nat} {t:Tr} (h:zgG w t):zec w t:=by
 have h1:=h.ok.wide;have h2:=h.wide;have h3:=h.ok;have h4:=h.kd;have h5:=h.cl;have h6:=h.len.2;have h7:=h.small;obtain⟨kd,cl,w',ns⟩:=t;dsimp only at h1 h2 h3 h4 h5 h6 h7;subst h4 h5 h2;exact⟨rfl,rfl,by omega,.inr h3,h6,h7⟩
theorem zec.b {W n:Nat} {w:Int} {t:Tr} (h:zec W t) (he:zdW w t=0) (hw:(n:Int)=w):zgG n t:=by
 have h1:zfh t=0:=Classical.not_not.1 fun k=>by unfold zdW at he;rw[if_pos k]at he;exact k he
 unfold zdW at he;rw[if_neg (fun k=>k h1)]at he
 have h2:t.kd=2∧t.w=w:=Classical.not_not.1 fun k=>by
  rw[if_pos (by by_cases c:t.kd=2 <;> simp_all)]at he;cases he
 have h3:t.ns≠[]:=fun k=>by
  unfold zfh at h1;rw[if_neg (fun c=>c (.inr h2.1)),if_pos (.inr k)]at h1;cases h1
 obtain⟨c1,c2,c3,c4,c5,c6⟩:=h;obtain⟨kd,cl,w',ns⟩:=t;dsimp only at c1 c2 c4 c5 c6 h2 h3;obtain⟨rfl,rfl⟩:=h2;subst c1;have:n=W:=oM;subst this;subst c2;have hpos:ns.length≠0:=fun k=>h3 (pM.1 k);exact⟨c4.resolve_left h3,rfl,rfl,rfl,⟨by dsimp only;omega,c5⟩,c6⟩
theorem zgt {w:Int}:∀{ts:List Tr},zdR w ts=0→∀t,t∈ts→zdW w t=0
 | [],_,t,h=>by cases h
 | u::ts,h,t,ht=>by
  unfold zdR at h;by_cases c:zdW w u=0
  ·rw[if_neg (fun k=>k c)]at h;rcases List.mem_cons.1 ht with rfl | ht
   ·exact c
   ·exact zgt h t ht
  ·rw[if_pos c]at h;exact absurd h c
theorem zd4 {w:Int}:∀{i:Nat} {ts:List Tr},(∀t,t∈ts.take i→zdW w t=0)→zdR w ts=zdR w (ts.drop i)
 | 0,ts,_=>rfl
 | i+1,[],_=>rfl
 | i+1,t::ts,h=>by
  have h1:=h t (by rw[List.take_succ_cons];exact qg ..);rw[List.drop_succ_cons,←zd4 fun u hu=>h u (by rw[List.take_succ_cons];exact ql _ hu)];show (if zdW w t≠0 then zdW w t else zdR w ts)=_;rw[if_neg (fun k=>k h1)]
theorem zcL {w:Int} {i:Nat} {ts:List Tr} {t:Tr} (h:∀t,t∈ts.take i→zdW w t=0) (ht:ts[i]?=some t) (he:zdW w t≠0):zdR w ts=zdW w t:=by
 obtain⟨hl,rfl⟩:=qE.1 ht;rw[zd4 h,qp hl];exact if_pos he
theorem zhp {w:Int} {ts:List Tr} (h:∀t,t∈ts.take ts.length→zdW w t=0):zdR w ts=0:=by
 rw[zd4 h,List.drop_length];rfl
theorem zkZ {P:Tr→Prop} {ts:List Tr} {i:Nat} {t:Tr} (h:∀t,t∈ts.take i→P t) (ht:ts[i]?=some t) (k:P t):∀t,t∈ts.take (i+1)→P t:=fun u hu=>by
 rw[zai ht,List.mem_append,pN]at hu;rcases hu with hu | rfl
 ·exact h u hu
 ·exact k
theorem zir {loss w:Int} {rate tilt:Rat} {ts:List Tr} (h:¬(loss=1∨loss=2)):zaz loss w rate tilt ts=10:=if_pos h
theorem zdw {loss w:Int} {rate tilt:Rat} {ts:List Tr} (h0:loss=1∨loss=2) (h:w<1∨w>20∨ts.length>50):zaz loss w rate tilt ts=5:=by
 unfold zaz;rw[if_neg (fun k=>k h0),if_pos h]
theorem zkl {loss w:Int} {rate tilt:Rat} {ts:List Tr} (h0:loss=1∨loss=2) (h:¬(w<1∨w>20∨ts.length>50)) (h1:zb0 loss rate tilt=false):zaz loss w rate tilt ts=1:=by
 unfold zaz;rw[if_neg (fun k=>k h0),if_neg h,if_pos h1]
theorem zkm {loss w:Int} {rate tilt:Rat} {ts:List Tr} (h0:loss=1∨loss=2) (h:¬(w<1∨w>20∨ts.length>50)) (h1:zb0 loss rate tilt=true):zaz loss w rate tilt ts=zdR w ts:=by
 unfold zaz;rw[if_neg (fun k=>k h0),if_neg h,if_neg (by rw[h1];decide)]
theorem zis {loss w:Int} {rate tilt:Rat} {ts:List Tr} (h:zaz loss w rate tilt ts=0):(loss=1∨loss=2)∧(1≤w∧w≤20∧ts.length≤50)∧zb0 loss rate tilt=true∧∀t,t∈ts→zdW w t=0:=by
 unfold zaz at h;split at h
 ·cases h
 rename_i h1;split at h
 ·cases h
 rename_i h2;split at h
 ·cases h
 rename_i h3;exact⟨Classical.not_not.1 h1,by omega,by simpa using h3,zgt h⟩
set_option maxRecDepth 100000 in
theorem zlT {H:Hp} {t:Tr} {w:Nat} {cs:List Value} (ht:zeD H cs t.kd t.cl t.w t.ns) (hx:zec w t):PC prog 101 #[.agg cs.toArray] H fun r _=>r=.int .i64 (zfh t):=by
 obtain⟨kd,cl,w',ns⟩:=t;obtain⟨hcl,hw,hw20,hok,_,_⟩:=hx;dsimp only at ht hcl hw hok;subst hcl hw;by_cases hk:kd=1∨kd=2
 case neg =>
  obtain⟨a,cp,css,rfl,hns,hsl⟩:=ht;refine BD func101 ntmps101 ?_;refine uR ?_;rw[show (kd != 1)=true from bne_iff_ne.2 (fun h=>hk (.inl h))];refine uR ?_;rw[show (kd != 2)=true from bne_iff_ne.2 (fun h=>hk (.inr h))];refine uR ?_;rw[show zfh ⟨kd,0,(w:Int),ns⟩=10 from if_pos hk]
 have w1:decide ((w:Int)<1)=false:=qC oM;have w2:decide ((w:Int)>20)=false:=qC oM;by_cases h0:kd=2∧ns≠[]
 ·obtain⟨rfl,hn⟩:=h0;have hc:zfh ⟨2,0,(w:Int),ns⟩=0:=by unfold zfh;rw[if_neg (fun k=>k (.inr rfl)),if_neg (fun k=>k.elim (fun k=>absurd k (by decide:¬(2:Int)=1)) hn)]
  rw[hc];exact zlR ht (hok.resolve_left hn)
 have hc:zfh ⟨kd,0,(w:Int),ns⟩=5:=by
  unfold zfh;rw[if_neg (fun k=>k hk),if_pos];rcases hk with h | h
  ·exact .inl h
  ·exact .inr (Classical.not_not.1 fun k=>h0 ⟨h,k⟩)
 rw[hc];obtain⟨a,cp,css,rfl,hns,hsl⟩:=ht;rcases hk with rfl | rfl
 ·refine BD func101 ntmps101 ?_;refine uR ?_;rw[w1];refine uR ?_;rw[w2];refine uR ?_;rfl
 ·obtain rfl:ns=[]:=Classical.not_not.1 fun k=>h0 ⟨rfl,k⟩;refine BD func101 ntmps101 ?_;refine uR ?_;rw[w1];refine uR ?_;rw[w2];refine uR ?_;rfl
set_option maxRecDepth 100000 in
theorem zlP {H:Hp} {loss w:Int} {W:Nat} {base rate tilt:Rat} {b1 b2 b3:Bool} {a1 a2 a3 a4 a5 a6 ta:Option Addr} {l1 c1 l2 c2 l3 c3 l4 c4 l5 c5 l6 c6 tc:Nat} {ts:List Tr}
  (hrt:RQ H (.agg (rc b2 a3 l3 c3 a4 l4 c4).toArray) rate) (hti:RQ H (.agg (rc b3 a5 l5 c5 a6 l6 c6).toArray) tilt) (ht:RTL H (.slice ta ts.length tc) ts) (hx:∀t,t∈ts→zec W t) (hr:rq rate) (hq:rq tilt) (hl:ts.length≤1000000) :
  PC prog 36 #[.agg (zaa loss w (rc b1 a1 l1 c1 a2 l2 c2) (rc b2 a3 l3 c3 a4 l4 c4) (rc b3 a5 l5 c5 a6 l6 c6) (.slice ta ts.length tc)).toArray] H fun r _=>r=.int .i64 (zaz loss w rate tilt ts):=by
 obtain⟨tcs,hts,hst⟩:=ht;refine BD func36 ntmps36 ?_;refine uR ?_;by_cases hk:loss=1∨loss=2
 case neg =>
  rw[show (loss != 1)=true from bne_iff_ne.2 (fun h=>hk (.inl h))];refine uR ?_;rw[show (loss != 2)=true from bne_iff_ne.2 (fun h=>hk (.inr h))];refine uR ?_;rw[zir hk]
 refine EVL.meetK (ι:=Bool) [1,2] [1] (fun _=>[(12,.v (.bool false))]) (fun _=>[]) (fun _=>[]) (fun _ G=>H.Le G) rfl rfl (fun _=>rfl) ?_ ?_
 ·rcases hk with e | e
  ·rw[show (loss != 1)=false by rw[e];rfl];refine uR ?_;exact⟨true,⟨rfl,trivial⟩,sB,trivial,sB,rfl,Hp.Le.refl _⟩
  ·rw[show (loss != 1)=true by rw[e];rfl];refine uR ?_;rw[show (loss != 2)=false by rw[e];rfl];refine uR ?_;exact⟨true,⟨rfl,trivial⟩,sB,trivial,sB,rfl,Hp.Le.refl _⟩
 rintro _ G1 hG1;refine uR ?_;by_cases w1:w<1
 ·rw[qD w1];refine uR ?_;rw[zdw hk (.inl w1)]
 rw[qC w1];refine uR ?_;by_cases w2:w>20
 ·rw[qD w2];refine uR ?_;rw[zdw hk (.inr (.inl w2))]
 rw[qC w2];refine uR ?_;by_cases w3:ts.length>50
 ·rw[qD (show (ts.length:Int)>50 by omega)];refine uR ?_;rw[zdw hk (.inr (.inr w3))]
 rw[qC (show ¬(ts.length:Int)>50 by omega)];have h5:¬(w<1∨w>20∨ts.length>50):=oM;have hrt1:=zi7 (loss:=loss) (RQ.mono hrt hG1) (RQ.mono hti hG1) hr hq
 cases hrb:zb0 loss rate tilt with
 | false =>
  rw[hrb]at hrt1
  repeat (first|refine RUN ?_|refine CV (hrt1) ?_|refine CE (hrt1) ?_)
  rw[zkl hk h5 hrb]
 | true =>
  rw[hrb]at hrt1;rw[zkm hk h5 hrb]
  repeat (first|refine RUN ?_|refine CV (hrt1) ?_|refine CE (hrt1) ?_)
  refine EV.loopK (ι:=Nat) [1] [1] (fun q=>[(3,.v (.int .i64 (q:Int)))]) (fun _=>[]) (fun _=>[]) (fun q G=>q≤ts.length∧G1.Le G∧∀t,t∈ts.take q→zdW w t=0) (fun q=>ts.length-q) (0) rfl rfl ⟨rfl,trivial⟩ trivial rfl (fun _=>rfl) (⟨qQ _,Hp.Le.refl _,fun t h=>(by rw[List.take_zero]at h;cases h)⟩) ?_;rintro i G2 hG2 ⟨hi,hG12,hall⟩;have hH2:=hG1.trans hG12;refine uR ?_;refine EV.cond rfl (fun hlt=>?_) (fun hlt=>?_)
  ·simp only[nN]at hlt;obtain⟨t,hti'⟩:=gE hlt;obtain⟨c,hcut,htr⟩:=(hts.mono hH2).get hti';have hck:=zlT htr (hx t (qF hti'));obtain⟨na,nc,css,rfl,_⟩:=id htr;have hst2:=hst.mono hH2;refine uR ?_;refine EVL.idxM tO rfl rfl rfl rfl rfl rfl rfl rfl rfl (hst2) (i) (rfl) (hlt) (hcut) ?_
   repeat (first|refine RUN ?_|refine CV (hck) ?_|refine CE (hck) ?_)
   by_cases e0:zfh t=0
   case neg =>
    rw[show (zfh t != 0)=true from bne_iff_ne.2 e0];refine uR ?_;have he:zdW w t=zfh t:=if_pos e0;rw[zcL hall hti' (by rw[he];exact e0),he]
   rw[show (zfh t != 0)=false by rw[e0];rfl];refine uR ?_;by_cases e2:t.kd=2
   case neg =>
    apply EV.drawn 18 kR kR;intro xv yw;(repeat refine' DD ?_);refine' DJ.idxM tO rfl rfl rfl rfl rfl rfl rfl rfl rfl (hst2) (i) (rfl) (hlt) (hcut) ?_;rotate_left;(repeat refine' DD ?_);rw[show (t.kd != 2)=true from bne_iff_ne.2 e2];(repeat refine' DD ?_);(refine DJ.nil (fun G3 hG3 hF3=>?_);(case hS|hS2=>rfl));have he:zdW w t=10:=by unfold zdW;rw[if_neg (fun k=>k e0),if_pos (.inl e2)]
    rw[zcL hall hti' (by rw[he];decide),he];refine uR ?_;rfl
   have hb2:(t.kd != 2)=false:=bne_eq_false_iff_eq.2 e2;by_cases e3:t.w=w
   case neg =>
    apply EV.drawn 18 kR kR;intro xv yw;(repeat refine' DD ?_);refine' DJ.idxM tO rfl rfl rfl rfl rfl rfl rfl rfl rfl (hst2) (i) (rfl) (hlt) (hcut) ?_;rotate_left;(repeat refine' DD ?_);rw[hb2];(repeat refine' DD ?_);refine' DJ.idxM tO rfl rfl rfl rfl rfl rfl rfl rfl rfl (hst2) (i) (rfl) (hlt) (hcut) ?_;rotate_left;(repeat refine' DD ?_);rw[show (t.w != w)=true from bne_iff_ne.2 e3];(repeat refine' DD ?_);(refine DJ.nil (fun G3 hG3 hF3=>?_);(case hS|hS2=>rfl));have he:zdW w t=10:=by unfold zdW;rw[if_neg (fun k=>k e0),if_pos (.inr e3)]
    rw[zcL hall hti' (by rw[he];decide),he];refine uR ?_;rfl
   have he:zdW w t=0:=by unfold zdW;rw[if_neg (fun k=>k e0),if_neg fun k=>k.elim (fun k=>k e2) fun k=>k e3]
   apply EV.drawn 18 kR kR;intro xv yw;(repeat refine' DD ?_);refine' DJ.idxM tO rfl rfl rfl rfl rfl rfl rfl rfl rfl (hst2) (i) (rfl) (hlt) (hcut) ?_;rotate_left;(repeat refine' DD ?_);rw[hb2];(repeat refine' DD ?_);refine' DJ.idxM tO rfl rfl rfl rfl rfl rfl rfl rfl rfl (hst2) (i) (rfl) (hlt) (hcut) ?_;rotate_left;(repeat refine' DD ?_);rw[show (t.w != w)=false from bne_eq_false_iff_eq.2 e3];(repeat refine' DD ?_);(refine DJ.nil (fun G3 hG3 hF3=>?_);(case hS|hS2=>rfl));refine uR ?_;exact⟨i+1,⟨by rw[zab i (by omega)];rfl,trivial⟩,sB,trivial,sB,rfl,⟨hlt,hG12.trans hG3,zkZ hall hti' he⟩,hG3,by omega⟩
  ·simp only[nN]at hlt;obtain rfl:i=ts.length:=oM;rw[zhp hall];refine uR ?_;rfl
set_option maxRecDepth 100000 in
theorem zoR {H:Hp} {cs:List Value} {vx:Value} {kd cl w:Int} {ns:List Nd} {x:List Rat} (ht:zfz H cs kd cl w ns) (hok:zbK ⟨kd,cl,w,ns⟩) (hx:QL H vx x) (hxl:(x.length:Int)=w) (hxs:∀q,q∈x→sm q) :
  PW prog 124 #[.agg cs.toArray,vx] H [] fun r ow _=>∃l:List Int,zaF 3 1 r l.length (l.map iv) ow∧zdb ns x 0 l∧l.length≤2000:=by
 obtain⟨a,cp,css,rfl,hns,hsl⟩:=ht;obtain⟨hkd,hw,hln,⟨hh,hh10,hsub⟩,hall⟩:=hok;dsimp only at hkd hw hln hsub hall;have hpos:=hsub.end0;obtain⟨xa,xc,rfl⟩:=SlC.val hx;have hxS:SlC H (.slice xa x.length xc) x.length 5 (x.flatMap fun q=>zae (zan q)):=hx;refine PW.body tO func124 rfl kR ntmps124 rfl rfl ?_;refine uR ?_;refine EVL.lit tO rfl rfl rfl rfl rfl rfl rfl rfl rfl rfl rfl fun bl=>?_;refine uR ?_;refine EV.loopK (ι:=Nat × List Int × Value × Ows) [1,2] [2] (fun q=>[(5,.v (.int .i64 (q.1:Int))),(6,.v q.2.2.1)]) (fun _=>[]) (fun q=>q.2.2.2) (fun q G=>q.1<ns.length∧zaF 3 1 q.2.2.1 (q.2.1++[(q.1:Int)]).length ((q.2.1++[(q.1:Int)]).map iv) q.2.2.2∧q.2.1.length≤q.1∧∀l,zdb ns x q.1 l→zdb ns x 0 (q.2.1++l)) (fun q=>ns.length-q.1) ((0,[],.slice (some ⟨bl,0,none⟩) 1 1,[(bl,_,_)])) rfl rfl ⟨rfl,rfl,trivial⟩ trivial rfl (fun _=>rfl) (⟨hpos,zaF.full (m:=1) rfl oM,qH _,fun l h=>h⟩) ?_;rintro⟨i,q,u,ow⟩ G1 hG1 ⟨hi,hown,hql,hlf⟩;dsimp only at hi hown hql hlf;obtain⟨oa,oc,rfl⟩:=hown.val;obtain⟨n,hn⟩:=gE hi;obtain⟨c,hcut,hnd⟩:=(hns.mono hG1).get hn;obtain⟨a7,c7,rfl,_⟩:=hnd.cells;obtain⟨n',hn',hN,_⟩:=hall i hi;cases hn.symm.trans hn';obtain⟨h',e',hsi⟩:=hsub.at i (qQ _) hi;have hle:=hsi.lt;have hsl1:=hsl.mono hG1;have hll:(q++[(i:Int)]).length≤1000000:=by rw[qJ,qz];omega
 refine uR ?_;refine EVL.idxM tO rfl rfl rfl rfl rfl rfl rfl rfl rfl (hsl1) (i) (rfl) (hi) (hcut) ?_;refine uR ?_
 cases hsi with
 | leaf q1 q2 q3 q4 q5 =>
  rw[hn]at q1;cases q1;rw[show (n.col != -1)=false by rw[q2];rfl];refine uR ?_;exact⟨_,hown,hlf _ (.here hn q2),by rw[qJ,qz];omega⟩
 | @node _ h1 m _ _ q1 q2 q3 q4 q5 s1 s2 =>
  rw[hn]at q1;cases q1;have hm1:=s1.lt;have hm2:=s2.lt;have hcl:n.col.toNat<x.length:=oM;obtain⟨y,hy⟩:∃y,x[n.col.toNat]?=some y:=⟨_,qA hcl⟩;have hyg:x.getD n.col.toNat 0=y:=by rw[qB,hy];rfl
  have hcmp:=zgV y n.at' (hxs y (qF hy)) (zaS hN.small.1 oM);rw[show (n.col != -1)=true from bne_iff_ne.2 (by omega)];refine uR ?_;refine EVL.idxM tO rfl rfl rfl rfl rfl rfl rfl rfl rfl (hsl1) (i) (rfl) (hi) (hcut) ?_;refine uR ?_;apply EV.drawn 9 kR kR;intro xv yw;(repeat refine' DD ?_);refine' DJ.idxM tO rfl rfl rfl rfl rfl rfl rfl rfl rfl ((hxS.mono hG1)) (n.col.toNat) ((by rw[Int.toNat_of_nonneg q2])) (hcl) (QL.at (H:=H) (v:=.bool true) hy) ?_;rotate_left;(repeat (first|refine' DD ?_|(refine' DC (hcmp) (h:=?_);rotate_left)));(refine DJ.nil (fun G2 hG2 hF2=>?_);(case hS|hS2=>rfl));by_cases hle2:y≤n.at'
  ·rw[qD (zjP hle2)];refine uR ?_;refine EVL.app1 tO rfl rfl rfl rfl rfl rfl rfl rfl rfl rfl rfl rfl rfl rfl rfl rfl rfl rfl rfl (fun _=>rfl) (ow) ([]) ((qG _).symm) (hown) (oM) fun _=>?_;intro v' ow' hown';refine uR ?_;refine⟨(n.left.toNat,q++[(i:Int)],v',ow'),⟨by rw[Int.toNat_of_nonneg (by omega)];rfl,rfl,trivial⟩,sB,trivial,sB,qG _,⟨by dsimp only;omega,by dsimp only;rw[Int.toNat_of_nonneg (by omega)];exact hown'.il,by dsimp only;rw[qJ,qz];omega,fun l h=>by dsimp only;rw[qZ];exact hlf _ (.low hn oM (by rw[hyg];exact hle2) h)⟩,hG2,by dsimp only;omega⟩
  ·rw[qC (show ¬zb8 y n.at'≤0 from fun k=>hle2 (Rat.not_lt.1 fun k2=>by have:=(zet y n.at').2 k2;omega))];refine uR ?_;refine EVL.app1 tO rfl rfl rfl rfl rfl rfl rfl rfl rfl rfl rfl rfl rfl rfl rfl rfl rfl rfl rfl (fun _=>rfl) (ow) ([]) ((qG _).symm) (hown) (oM) fun _=>?_;intro v' ow' hown';refine uR ?_;refine⟨(n.right.toNat,q++[(i:Int)],v',ow'),⟨by rw[Int.toNat_of_nonneg (by omega)];rfl,rfl,trivial⟩,sB,trivial,sB,qG _,⟨by dsimp only;omega,by dsimp only;rw[Int.toNat_of_nonneg (by omega)];exact hown'.il,by dsimp only;rw[qJ,qz];omega,fun l h=>by dsimp only;rw[qZ];exact hlf _ (.high hn oM (by rw[hyg];exact hle2) h)⟩,hG2,by dsimp only;omega⟩
theorem zoQ {H:Hp} {cs:List Value} {vx:Value} {kd cl w:Int} {ns:List Nd} {x:List Rat} (ht:zfz H cs kd cl w ns) (hok:zbK ⟨kd,cl,w,ns⟩) (hx:QL H vx x) (hxl:(x.length:Int)=w) (hxs:∀q,q∈x→sm q) :
  PC prog 124 #[.agg cs.toArray,vx] H fun r G=>∃l:List Int,IL G r l∧zdb ns x 0 l∧l.length≤2000 :=
 (zoR ht hok hx hxl hxs).publish fun v ow H' ⟨l,h1,h2,h3⟩=>⟨_,_,v,_,_,h1,fun G _ hs=>⟨l,hs,h2,h3⟩⟩
set_option maxRecDepth 100000 in
theorem ziZ {H:Hp} {cs:List Value} {vx:Value} {kd cl w:Int} {ns:List Nd} {x:List Rat} (ht:zfz H cs kd cl w ns) (hok:zbK ⟨kd,cl,w,ns⟩) (hx:QL H vx x) (hxl:(x.length:Int)=w) (hxs:∀q,q∈x→sm q) :
  PC prog 62 #[.agg cs.toArray,vx] H fun r _=>r=zan (zcY x ⟨kd,cl,w,ns⟩).value:=by
 have hw:=zoQ ht hok hx hxl hxs;obtain⟨a,cp,css,rfl,hns,hsl⟩:=ht;obtain⟨xa,xc,rfl⟩:=SlC.val hx;refine BD func62 ntmps62 ?_;refine uR ?_;refine vA (hw) ?_;rintro r G ⟨l0,hil,hp,hll⟩ hG;obtain⟨j,l,rfl,hL⟩:=hp.leaf;obtain⟨i0,hlf0,hi0,hni0,_⟩:=zhL hok x;obtain rfl:i0=j:=hlf0.det hL;generalize zcY x ⟨kd,cl,w,ns⟩=n at *
 dsimp only at hi0 hni0;rw[qJ,qz]at hll;obtain⟨la,lc,rfl⟩:=SlC.val hil
 have hw':IntKind.i64.wrap (((l++[(i0:Int)]).length:Int)-1)=((l.length:Nat):Int):=by
  rw[qJ,qz,pO];omega
 obtain⟨c,hcut,hnd⟩:=(hns.mono hG).get hni0;obtain⟨a7,c7,rfl,_⟩:=hnd.cells;have hsl1:=hsl.mono hG;refine uR ?_;apply EV.drawn 11 kR kR;intro xv yw;(repeat refine' DD ?_);rw[hw'];refine' vJ (hil) (l.length) (rfl) ((by rw[qJ,qz];omega)) ((by rw[qK,qL (qH _),Nat.sub_self];rfl)) ?_;rotate_left;(repeat refine' DD ?_);refine' DJ.idxM tO rfl rfl rfl rfl rfl rfl rfl rfl rfl (hsl1) (i0) (rfl) (hi0) (hcut) ?_;rotate_left;(repeat refine' DD ?_);(refine DJ.nil (fun G2 hG2 hF2=>?_);(case hS|hS2=>rfl));refine uR ?_;rfl
abbrev zcE (loss w:Int) (base rate tilt:Rat) (ts:Value):List Value:=.int .i64 loss::.int .i64 w::(zae (zan base)++(zae (zan rate)++(zae (zan tilt)++[ts])))
def zkG (loss:Int) (rate tilt:Rat):Bool:=(decide (loss=1) || decide (loss=2)) && zb0 loss rate tilt
theorem zm4 {loss:Int} {rate tilt:Rat} (h:loss=1∨loss=2):zkG loss rate tilt=zb0 loss rate tilt:=by
 unfold zkG;rcases h with rfl | rfl <;> rfl
theorem zf9 {loss:Int} {rate tilt:Rat} (h1:sm rate) (h2:sm tilt):PV prog 55 #[.int .i64 loss,zan rate,zan tilt] (.bool (zkG loss rate tilt)):=by
 refine PV.of_pc ?_;have s1:sm 1:=by show ht 1≤_;decide +kernel
 have ho:=zm6 1 oM oM;rw[show ((1:Int):Rat)=1 from rfl]at ho;have hs1:=zcB rate (qI h1.num oM);have hs2:=zcB tilt (qI h2.num oM);have hc1:=zgV rate 1 h1 s1;have hc2:=zgV tilt 1 h2 s1;refine BD func55 ntmps55 ?_
 repeat (first|refine RUN ?_|refine CV (ho) ?_|refine CV (hs1) ?_|refine CE (ho) ?_|refine CE (hs1) ?_)
 by_cases k1:0<rate
 case neg =>
  rw[qD (zci.2 k1)];refine uR ?_;rw[show zkG loss rate tilt=false by unfold zkG zb0;rw[qC k1,Bool.false_and,Bool.and_false]]
 rw[qC (fun k=>zci.1 k k1)]
 repeat (first|refine RUN ?_|refine CV (hc1) ?_|refine CE (hc1) ?_)
 by_cases k2:rate≤1
 case neg =>
  rw[qD (show zb8 rate 1>0 from (zet rate 1).2 (Rat.not_le.1 k2))];refine uR ?_;rw[show zkG loss rate tilt=false by unfold zkG zb0;rw[qC k2,Bool.false_and,Bool.and_false,Bool.and_false]]
 rw[qC (show ¬zb8 rate 1>0 by have:=zjP k2;omega)];refine uR ?_;by_cases e1:loss=1
 ·subst e1;rw[show ((1:Int) == 1)=true from rfl]
  repeat (first|refine RUN ?_|refine CV (hs2) ?_|refine CE (hs2) ?_)
  rw[show zkG 1 rate tilt=decide (tilt=0) by unfold zkG zb0;rw[qD k1,qD k2];rfl];by_cases z:tilt=0
  ·rw[qD z,zcJ.2 z];rfl
  ·rw[qC z,show (tilt.num.sign == 0)=false from pT.2 fun k=>z (zcJ.1 k)]
 rw[show (loss == 1)=false from pT.2 e1];refine uR ?_;by_cases e2:loss=2
 ·subst e2;have e:zkG 2 rate tilt=(decide (0<tilt) && decide (tilt<1)):=by unfold zkG zb0;rw[qD k1,qD k2];rfl
  rw[e,show ((2:Int) == 2)=true from rfl]
  repeat (first|refine RUN ?_|refine CV (hs2) ?_|refine CE (hs2) ?_)
  by_cases z:0<tilt
  ·rw[qD z,qD (show tilt.num.sign>0 from Int.not_le.1 fun k=>zci.1 k z)]
   repeat (first|refine RUN ?_|refine CV (hc2) ?_|refine CE (hc2) ?_)
   rw[Bool.true_and];by_cases y:tilt<1
   ·rw[qD y,qD ((zdn tilt 1).2 y)]
   ·rw[qC y,qC fun k=>y ((zdn tilt 1).1 k)]
  ·rw[qC z,qC (show ¬tilt.num.sign>0 from fun k=>absurd (zci.2 z) oM)];refine uR ?_;rfl
 rw[show (loss == 2)=false from pT.2 e2];refine uR ?_;rw[show zkG loss rate tilt=false by unfold zkG;rw[qC e1,qC e2];rfl]
set_option maxRecDepth 100000 in
theorem zlJ {H:Hp} {t:Tr} {w:Nat} {cs:List Value} (ht:zfz H cs t.kd t.cl t.w t.ns) (hx:zec w t):PC prog 79 #[.agg cs.toArray] H fun r _=>r=.int .i64 (zfh t):=by
 obtain⟨kd,cl,w',ns⟩:=t;obtain⟨hcl,hw,hw20,hok,_,_⟩:=hx;dsimp only at ht hcl hw hok;subst hcl hw;by_cases hk:kd=1∨kd=2
 case neg =>
  obtain⟨a,cp,css,rfl,hns,hsl⟩:=ht;refine BD func79 ntmps79 ?_;refine uR ?_;rw[show (kd != 1)=true from bne_iff_ne.2 (fun h=>hk (.inl h))];refine uR ?_;rw[show (kd != 2)=true from bne_iff_ne.2 (fun h=>hk (.inr h))];refine uR ?_;rw[show zfh ⟨kd,0,(w:Int),ns⟩=10 from if_pos hk]
 have w1:decide ((w:Int)<1)=false:=qC oM;have w2:decide ((w:Int)>20)=false:=qC oM;by_cases h0:kd=2∧ns≠[]
 ·obtain⟨rfl,hn⟩:=h0;have hc:zfh ⟨2,0,(w:Int),ns⟩=0:=by unfold zfh;rw[if_neg (fun k=>k (.inr rfl)),if_neg (fun k=>k.elim (fun k=>absurd k (by decide:¬(2:Int)=1)) hn)]
  rw[hc];exact zlI ht (hok.resolve_left hn)
 have hc:zfh ⟨kd,0,(w:Int),ns⟩=5:=by
  unfold zfh;rw[if_neg (fun k=>k hk),if_pos];rcases hk with h | h
  ·exact .inl h
  ·exact .inr (Classical.not_not.1 fun k=>h0 ⟨h,k⟩)
 rw[hc];obtain⟨a,cp,css,rfl,hns,hsl⟩:=ht;rcases hk with rfl | rfl
 ·refine BD func79 ntmps79 ?_;refine uR ?_;rw[w1];refine uR ?_;rw[w2];refine uR ?_;by_cases n0:ns=[]
  ·subst n0;refine uR ?_;rfl
  ·have hT:=hok.resolve_left n0;have n1:=hT.len;have n2:ns.length≠0:=fun k=>n0 (pM.1 k);dsimp only at n1;rw[qC (show ¬(ns.length:Int)<1 by omega)];refine uR ?_;rw[qC (show ¬(ns.length:Int)>2000 by omega)];refine uR ?_;rfl
 ·obtain rfl:ns=[]:=Classical.not_not.1 fun k=>h0 ⟨rfl,k⟩;refine BD func79 ntmps79 ?_;refine uR ?_;rw[w1];refine uR ?_;rw[w2];refine uR ?_;rfl
set_option maxRecDepth 100000 in
theorem zcG {H:Hp} {loss w:Int} {W:Nat} {base rate tilt:Rat} {ta:Option Addr} {tc:Nat} {ts:List Tr} (ht:PTL H (.slice ta ts.length tc) ts) (hx:∀t,t∈ts→zec W t) (hr:sm rate) (hq:sm tilt) (hl:ts.length≤1000000) :
  PC prog 23 #[.agg (zcE loss w base rate tilt (.slice ta ts.length tc)).toArray] H fun r _=>r=.int .i64 (zaz loss w rate tilt ts):=by
 obtain⟨tcs,hts,hst⟩:=ht;refine BD func23 ntmps23 ?_;refine uR ?_;by_cases hk:loss=1∨loss=2
 case neg =>
  rw[show (loss != 1)=true from bne_iff_ne.2 (fun h=>hk (.inl h))];refine uR ?_;rw[show (loss != 2)=true from bne_iff_ne.2 (fun h=>hk (.inr h))];refine uR ?_;rw[zir hk]
 refine EVL.meetK (ι:=Bool) [1,2] [1] (fun _=>[(13,.v (.bool false))]) (fun _=>[]) (fun _=>[]) (fun _ G=>H.Le G) rfl rfl (fun _=>rfl) ?_ ?_
 ·rcases hk with e | e
  ·rw[show (loss != 1)=false by rw[e];rfl];refine uR ?_;exact⟨true,⟨rfl,trivial⟩,sB,trivial,sB,rfl,Hp.Le.refl _⟩
  ·rw[show (loss != 1)=true by rw[e];rfl];refine uR ?_;rw[show (loss != 2)=false by rw[e];rfl];refine uR ?_;exact⟨true,⟨rfl,trivial⟩,sB,trivial,sB,rfl,Hp.Le.refl _⟩
 rintro _ G1 hG1;refine uR ?_;by_cases w1:w<1
 ·rw[qD w1];refine uR ?_;rw[zdw hk (.inl w1)]
 rw[qC w1];refine uR ?_;by_cases w2:w>20
 ·rw[qD w2];refine uR ?_;rw[zdw hk (.inr (.inl w2))]
 rw[qC w2];refine uR ?_;by_cases w3:ts.length>50
 ·rw[qD (show (ts.length:Int)>50 by omega)];refine uR ?_;rw[zdw hk (.inr (.inr w3))]
 rw[qC (show ¬(ts.length:Int)>50 by omega)];have h5:¬(w<1∨w>20∨ts.length>50):=oM;have hrt1:=zf9 (loss:=loss) hr hq;rw[zm4 hk]at hrt1
 cases hrb:zb0 loss rate tilt with
 | false =>
  rw[hrb]at hrt1
  repeat (first|refine RUN ?_|refine CV (hrt1) ?_|refine CE (hrt1) ?_)
  rw[zkl hk h5 hrb]
 | true =>
  rw[hrb]at hrt1;rw[zkm hk h5 hrb]
  repeat (first|refine RUN ?_|refine CV (hrt1) ?_|refine CE (hrt1) ?_)
  refine EV.loopK (ι:=Nat) [1,37,38] [1] (fun q=>[(39,.v (.int .i64 (q:Int)))]) (fun _=>[]) (fun _=>[]) (fun q G=>q≤ts.length∧G1.Le G∧∀t,t∈ts.take q→zdW w t=0) (fun q=>ts.length-q) (0) rfl rfl ⟨rfl,trivial⟩ trivial rfl (fun _=>rfl) (⟨qQ _,Hp.Le.refl _,fun t h=>(by rw[List.take_zero]at h;cases h)⟩) ?_;rintro i G2 hG2 ⟨hi,hG12,hall⟩;have hH2:=hG1.trans hG12;refine uR ?_;refine EV.cond rfl (fun hlt=>?_) (fun hlt=>?_)
  ·simp only[nN]at hlt;obtain⟨t,hti'⟩:=gE hlt;obtain⟨c,hcut,htr⟩:=(hts.mono hH2).get hti';have hck:=zlJ htr (hx t (qF hti'));obtain⟨na,nc,css,rfl,_⟩:=id htr;have hst2:=hst.mono hH2;refine uR ?_;refine EVL.idxM tO rfl rfl rfl rfl rfl rfl rfl rfl rfl (hst2) (i) (rfl) (hlt) (hcut) ?_
   repeat (first|refine RUN ?_|refine CV (hck) ?_|refine CE (hck) ?_)
   by_cases e0:zfh t=0
   case neg =>
    rw[show (zfh t != 0)=true from bne_iff_ne.2 e0];refine uR ?_;have he:zdW w t=zfh t:=if_pos e0;rw[zcL hall hti' (by rw[he];exact e0),he]
   rw[show (zfh t != 0)=false by rw[e0];rfl];refine uR ?_;by_cases e2:t.kd=2
   case neg =>
    rw[show (t.kd != 2)=true from bne_iff_ne.2 e2];refine uR ?_;have he:zdW w t=10:=by unfold zdW;rw[if_neg (fun k=>k e0),if_pos (.inl e2)]
    rw[zcL hall hti' (by rw[he];decide),he]
   rw[show (t.kd != 2)=false from bne_eq_false_iff_eq.2 e2];refine uR ?_;by_cases e3:t.w=w
   case neg =>
    rw[show (t.w != w)=true from bne_iff_ne.2 e3];refine uR ?_;have he:zdW w t=10:=by unfold zdW;rw[if_neg (fun k=>k e0),if_pos (.inr e3)]
    rw[zcL hall hti' (by rw[he];decide),he]
   have he:zdW w t=0:=by unfold zdW;rw[if_neg (fun k=>k e0),if_neg fun k=>k.elim (fun k=>k e2) fun k=>k e3]
   rw[show (t.w != w)=false from bne_eq_false_iff_eq.2 e3];refine uR ?_;exact⟨i+1,⟨by rw[zab i (by omega)];rfl,trivial⟩,sB,trivial,sB,rfl,⟨hlt,hG12,zkZ hall hti' he⟩,Hp.Le.refl _,by omega⟩
  ·simp only[nN]at hlt;obtain rfl:i=ts.length:=oM;rw[zhp hall];refine uR ?_;rfl
theorem zhe {H:Hp} {loss w:Int} {W n xc:Nat} {xa:Option Addr} {base rate tilt:Rat} {ta:Option Addr} {tc:Nat} {ts:List Tr} (ht:PTL H (.slice ta ts.length tc) ts) (hx:∀t,t∈ts→zec W t) (hr:sm rate) (hq:sm tilt) (hl:ts.length≤1000000) :
  PC prog 92 #[.agg (zcE loss w base rate tilt (.slice ta ts.length tc)).toArray,.slice xa n xc] H fun r _=>r=.int .i64 (if zaz loss w rate tilt ts≠0 then 1 else if (n:Int)≠w then 5 else 0):=by
 have hck:=zcG (loss:=loss) (w:=w) (base:=base) ht hx hr hq hl;refine BD func92 ntmps92 ?_
 repeat (first|refine RUN ?_|refine CV (hck) ?_|refine CE (hck) ?_)
 by_cases e:zaz loss w rate tilt ts=0
 case neg =>
  rw[show (zaz loss w rate tilt ts != 0)=true from bne_iff_ne.2 e,if_pos e];refine uR ?_;rfl
 rw[show (zaz loss w rate tilt ts != 0)=false by rw[e];rfl,if_neg (fun k=>k e)];refine uR ?_;by_cases e2:(n:Int)=w
 ·rw[show ((n:Int) != w)=false from bne_eq_false_iff_eq.2 e2,if_neg (fun k=>k e2)];refine uR ?_;rfl
 ·rw[show ((n:Int) != w)=true from bne_iff_ne.2 e2,if_pos e2];refine uR ?_;rfl
theorem zlg {H:Hp} {a:Option Addr} {cap:Nat}:PW prog 96 #[.slice a 0 cap] H [] fun r _ _=>∃a' c',r=.slice a' 0 c':=by
 refine PW.body tO func96 rfl kR ntmps96 rfl rfl ?_;refine uR ?_;refine EVL.eqnil tO rfl rfl rfl rfl rfl rfl rfl ?_
 cases a with
 | none =>
  refine uR ?_;exact⟨_,_,rfl⟩
 | some x =>
  refine uR ?_;refine EVL.lit0 tO rfl rfl rfl rfl rfl rfl rfl fun g0=>?_;refine uR ?_;refine EVL.append0 tO rfl rfl rfl rfl rfl rfl rfl rfl rfl (qH _) ?_;refine uR ?_;exact⟨_,_,rfl⟩
set_option maxRecDepth 100000 in
theorem zoM {H:Hp} {loss w:Int} {W:Nat} {base rate tilt:Rat} {ta:Option Addr} {tc:Nat} {ts:List Tr} (ht':PTL H (.slice ta ts.length tc) ts) (hx':∀t,t∈ts→zec W t) (hr:sm rate) (hq:sm tilt) (hl:ts.length≤1000000) :
  PC prog 33 #[.agg (zcE loss w base rate tilt (.slice ta ts.length tc)).toArray,.int .i64 0] H fun r G=>∃l' w' b' r' t' a' c',r=.tuple #[.agg (zcE l' w' b' r' t' (.slice a' 0 c')).toArray,.int .i64 (if zaz loss w rate tilt ts≠0 then 1 else 0)]:=by
 have hck:=zcG (loss:=loss) (w:=w) (base:=base) ht' hx' hr hq hl
 have hcap:ts.length≤tc∨ts.length=0:=by
  obtain⟨tcs,_,hs⟩:=ht';rcases hs.2 with ⟨e,_⟩ | ⟨_,_,_,_,e,h,_⟩
  ·exact .inr e
  ·cases e;exact .inl h
 by_cases e:zaz loss w rate tilt ts=0
 case neg =>
  rw[if_pos e];refine BD func33 ntmps33 ?_
  repeat (first|refine RUN ?_|refine CV (hck) ?_|refine CE (hck) ?_)
  rw[show (zaz loss w rate tilt ts != 0)=true from bne_iff_ne.2 e];refine uR ?_;exact⟨0,0,0,0,0,none,0,by simp only[zcE];rw[show zae (zan 0)=_ from zbf];rfl⟩
 rw[if_neg (fun k=>k e)];refine BD func33 ntmps33 ?_
 repeat (first|refine RUN ?_|refine CV (hck) ?_|refine CE (hck) ?_)
 rw[show (zaz loss w rate tilt ts != 0)=false by rw[e];rfl];refine uR ?_;rw[qC (show ¬(0:Int)>(ts.length:Int) by omega)];refine uR ?_;refine EVL.slc (te':=Tryz.te128) tO rfl rfl rfl rfl rfl rfl rfl rfl 0 0 (.inl ⟨rfl,rfl⟩) (.inr ⟨_,IntKind.i64,rfl,rfl⟩) (qQ _) (qQ _) oM ?_;refine uR ?_;refine vW ([]) ([]) (zlg) ?_;rintro _ ow G1 ⟨a1,c1,rfl⟩ hG1;refine uR ?_;refine EV.loopK (ι:=Nat) [2,4,32,33] [2,4] (fun q=>[(34,.v (.int .i64 (q:Int)))]) (fun _=>[]) (fun _=>ow++[]) (fun q _=>q=0) (fun q=>0) (0) rfl rfl ⟨rfl,trivial⟩ trivial rfl (fun _=>rfl) (rfl) ?_;rintro i G2 hG2 rfl;refine uR ?_;exact⟨_,_,_,_,_,_,_,rfl⟩
theorem zrJ {x:List Rat} {ts:List Tr} {i:Nat} {t:Tr} (h:ts[i]?=some t):(vL x ts)[i]?=some (zcY x t).value:=by
 unfold vL;rw[qK,h];rfl
theorem zqW (x:List Rat) (ts:List Tr) (i:Nat):(vL x ts).take i=vL x (ts.take i):=by unfold vL;rw[List.map_take]
theorem zpH {x:List Rat} {ts:List Tr} (h:∀t,t∈ts→zgG x.length t) (hl:ts.length≤60):ht (zaT (vL x ts))≤10000:=by
 have h1:=zek 105 (vL x ts) fun q hq=>by
  obtain⟨t,k,rfl⟩:=List.mem_map.1 hq;exact zcX (h t k) x
 have h2:(105+1)*(vL x ts).length≤(105+1)*60:=qc _ (by unfold vL;rw[qV];exact hl);omega
set_option maxRecDepth 100000 in
theorem zng {H:Hp} {loss w:Int} {base rate tilt:Rat} {ta:Option Addr} {tc:Nat} {ts:List Tr} {vx:Value} {x:List Rat} (ht':PTL H (.slice ta ts.length tc) ts) (hok:∀t,t∈ts→zgG x.length t) (hx:QL H vx x) (hxs:∀q,q∈x→ht q≤100) (hb:ht base≤200) (hr:ht rate≤200) (hl:ts.length≤60) :
  PC prog 93 #[.agg (zcE loss w base rate tilt (.slice ta ts.length tc)).toArray,vx] H fun r _=>r=zan (zeY base rate ts x):=by
 obtain⟨tcs,hts,hst⟩:=ht';obtain⟨xa,xc,rfl⟩:=SlC.val hx;have hxq:∀q,q∈x→sm q:=fun q hq=>zaS (hxs q hq) oM;have hz:zae (zan (zaT ((vL x ts).take 0)))=[.bool false,.int .u64 0,.string ⟨#[]⟩,.int .u64 0,.string ⟨#[]⟩]:=zbf;refine BD func93 ntmps93 ?_;refine uR ?_;refine EV.loopK (ι:=Nat) [1,2,4,5,9,10] [2,4] (fun i=>[(11,.v (.int .i64 (i:Int)))]) (fun i=>[(5,51,zae (zan (zaT ((vL x ts).take i))))]) (fun _=>[]) (fun i G=>i≤ts.length) (fun i=>ts.length-i) (0) rfl rfl ⟨rfl,trivial⟩ ⟨by rw[hz];rfl,trivial⟩ rfl (fun _=>rfl) (qQ _) ?_;intro i G1 hG1 hi;refine uR ?_;refine EV.cond rfl (fun hlt=>?_) (fun hlt=>?_)
 ·simp only[nN]at hlt;obtain⟨t,hti⟩:=gE hlt;have hB:=hok t (qF hti);obtain⟨c,hcut,htr⟩:=(hts.mono hG1).get hti;obtain⟨na,nc,css,rfl,_⟩:=id htr;have hst1:=hst.mono hG1;have hval:=fun (G:Hp) (hG:G1.Le G)=>ziZ (htr.mono hG) hB.ok (SlC.mono hx (hG1.trans hG)) (by rw[hB.wide]) hxq;have hlb:=zcX hB x;have hs1:=zpH (x:=x) (ts:=ts.take i) (fun t h=>hok t (List.mem_of_mem_take h)) (by rw[qP];omega);rw[←zqW]at hs1;have hadd:=zgP (zaT ((vL x ts).take i)) (zcY x t).value (zaS hs1 oM) (zaS hlb oM);rw[←zbH,←zai (zrJ hti)]at hadd;refine uR ?_;refine EVL.idxM tO rfl rfl rfl rfl rfl rfl rfl rfl rfl (hst1) (i) (rfl) (hlt) (hcut) ?_;refine uR ?_;apply EV.drawn 5 kR kR;intro xv yw;(repeat refine' DD ?_);refine' vC (cO func62) (fun G hG hd=>hval G hG) ?_;rotate_left;(repeat (first|refine' DD ?_|(refine' DC (hadd) (h:=?_);rotate_left)));(refine DJ.nil (fun G2 hG2 hF2=>?_);(case hS|hS2=>rfl));refine uR ?_;exact⟨i+1,⟨by rw[zab i (by omega)];rfl,trivial⟩,sB,⟨rfl,trivial⟩,sB,rfl,hlt,hG2,by omega⟩
 ·simp only[nN]at hlt;obtain rfl:i=ts.length:=oM;have hl1:(vL x ts).take ts.length=vL x ts:=qO (by unfold vL;rw[qV];exact qH _);have hs1:=zpH hok hl;have hm:=zkE rate (zaT (vL x ts)) (zaS hr oM) (zaS hs1 oM);have hmh:=zej rate (zaT (vL x ts));have ha:=zgP base (rate*zaT (vL x ts)) (zaS hb oM) (zaS (n:=20000) oM oM);rw[hl1];refine uR ?_
  (apply EV.drawn 7 kR kR;intro xv yw;(repeat (first|refine' DD ?_|(refine' DC (hm) (h:=?_);rotate_left)|(refine' DC (ha) (h:=?_);rotate_left)));refine DJ.nil (fun G hG hF=>?_);(case hS|hS2=>rfl));refine uR ?_;rfl
theorem zlF {H:Hp} {loss w:Int} {W:Nat} {base rate tilt:Rat} {ta:Option Addr} {tc:Nat} {ts:List Tr} {vx:Value} {x:List Rat} (ht':PTL H (.slice ta ts.length tc) ts) (hx':∀t,t∈ts→zec W t) (hx:QL H vx x) (hxs:∀q,q∈x→ht q≤100) (hb:ht base≤200) (hr:ht rate≤200) (hq:ht tilt≤200) (hl:ts.length≤1000000) :
  PC prog 30 #[.agg (zcE loss w base rate tilt (.slice ta ts.length tc)).toArray,vx] H fun r _=>∃q,r=.tuple #[zan q,.int .i64 (if zaz loss w rate tilt ts≠0 then 1 else if (x.length:Int)≠w then 5 else 0)]∧(zaz loss w rate tilt ts=0→(x.length:Int)=w→q=zeY base rate ts x)∧(¬(zaz loss w rate tilt ts=0∧(x.length:Int)=w)→q=0):=by
 obtain⟨xa,xc,rfl⟩:=SlC.val hx;have hrf:=zhe (loss:=loss) (w:=w) (base:=base) (xa:=xa) (n:=x.length) (xc:=xc) ht' hx' (zaS hr oM) (zaS hq oM) hl;by_cases h:zaz loss w rate tilt ts=0∧(x.length:Int)=w
 ·obtain⟨_,hlen,_,hall⟩:=zis h.1;have hans:=zng (loss:=loss) (w:=w) (tilt:=tilt) ht' (fun t k=>(hx' t k).b (hall t k) h.2) hx hxs hb hr oM;rw[if_neg (fun k=>k h.1),if_neg (fun k=>k h.2)]at hrf;rw[if_neg (fun k=>k h.1),if_neg (fun k=>k h.2)];refine BD func30 ntmps30 ?_
  repeat (first|refine RUN ?_|refine CV (hrf) ?_|refine CE (hrf) ?_)
  refine vA (hans) ?_;rintro _ G rfl hG;refine uR ?_;exact⟨_,rfl,fun _ _=>rfl,fun k=>absurd h k⟩
 ·have he:(if zaz loss w rate tilt ts≠0 then 1 else if (x.length:Int)≠w then 5 else 0:Int)≠0:=by
   by_cases c:zaz loss w rate tilt ts=0
   ·rw[if_neg (fun k=>k c),if_pos fun k=>h ⟨c,k⟩];decide
   ·rw[if_pos c];decide
  generalize (if zaz loss w rate tilt ts≠0 then 1 else if (x.length:Int)≠w then 5 else 0:Int)=e at *
  refine BD func30 ntmps30 ?_
  repeat (first|refine RUN ?_|refine CV (hrf) ?_|refine CE (hrf) ?_)
  rw[show (e != 0)=true from bne_iff_ne.2 he];refine uR ?_;exact⟨0,by rw[zg2],fun a b=>absurd ⟨a,b⟩ h,fun _=>rfl⟩
noncomputable def zcj (base rate:Rat) (ts:List Tr) (x:List Rat) (n:Nat):List Rat:=(List.range n).map fun i=>zeY base rate (ts.take i) x
theorem zgp (base rate:Rat) (ts:List Tr) (x:List Rat) (n:Nat):(zcj base rate ts x n).length=n:=by simp[zcj]
theorem zj2 {base rate:Rat} {ts:List Tr} {x:List Rat} {n i:Nat} (h:i<n):(zcj base rate ts x n)[i]?=some (zeY base rate (ts.take i) x):=by
 unfold zcj;rw[qK,List.getElem?_range h];rfl
theorem zfc (base rate:Rat) (ts:List Tr) (x:List Rat) (n:Nat):zcj base rate ts x (n+1)=zcj base rate ts x n++[zeY base rate (ts.take n) x]:=by simp[zcj,List.range_succ]
set_option maxRecDepth 100000 in
theorem zlG {H:Hp} {loss w:Int} {W:Nat} {base rate tilt:Rat} {ta:Option Addr} {tc:Nat} {ts:List Tr} {vx:Value} {x:List Rat} (ht':PTL H (.slice ta ts.length tc) ts) (hx':∀t,t∈ts→zec W t) (hx:QL H vx x) (hxs:∀q,q∈x→ht q≤100) (hb:ht base≤200) (hr:ht rate≤200) (hq:ht tilt≤200) (hl:ts.length≤1000000) :
  PC prog 37 #[.agg (zcE loss w base rate tilt (.slice ta ts.length tc)).toArray,vx] H fun r G=>∃v,r=.tuple #[v,.int .i64 (if zaz loss w rate tilt ts≠0 then 1 else if (x.length:Int)≠w then 5 else 0)]∧(zaz loss w rate tilt ts=0→(x.length:Int)=w→QL G v (zcj base rate ts x (ts.length+1)))∧(¬(zaz loss w rate tilt ts=0∧(x.length:Int)=w)→v=.slice none 0 0):=by
 obtain⟨xa,xc,rfl⟩:=SlC.val hx;have hrf:=zhe (loss:=loss) (w:=w) (base:=base) (xa:=xa) (n:=x.length) (xc:=xc) ht' hx' (zaS hr oM) (zaS hq oM) hl;by_cases h:zaz loss w rate tilt ts=0∧(x.length:Int)=w
 case neg =>
  have he:(if zaz loss w rate tilt ts≠0 then 1 else if (x.length:Int)≠w then 5 else 0:Int)≠0:=by
   by_cases c:zaz loss w rate tilt ts=0
   ·rw[if_neg (fun k=>k c),if_pos fun k=>h ⟨c,k⟩];decide
   ·rw[if_pos c];decide
  generalize (if zaz loss w rate tilt ts≠0 then 1 else if (x.length:Int)≠w then 5 else 0:Int)=e at *
  refine BD func37 ntmps37 ?_
  repeat (first|refine RUN ?_|refine CV (hrf) ?_|refine CE (hrf) ?_)
  rw[show (e != 0)=true from bne_iff_ne.2 he];refine uR ?_;exact⟨_,rfl,fun a b=>absurd ⟨a,b⟩ h,fun _=>rfl⟩
 obtain⟨_,hlen,_,hall⟩:=zis h.1;have hok:∀t,t∈ts→zgG x.length t:=fun t k=>(hx' t k).b (hall t k) h.2;rw[if_neg (fun k=>k h.1),if_neg (fun k=>k h.2)]at hrf;rw[if_neg (fun k=>k h.1),if_neg (fun k=>k h.2)];obtain⟨tcs,hts,hst⟩:=ht';have hxq:∀q,q∈x→sm q:=fun q hq=>zaS (hxs q hq) oM
 have h1:zcj base rate ts x (0+1)=[base]:=by
  rw[zfc,List.take_zero,zhv];rfl
 refine BD func37 ntmps37 ?_
 repeat (first|refine RUN ?_|refine CV (hrf) ?_|refine CE (hrf) ?_)
 refine EVL.lit tO rfl rfl rfl rfl rfl rfl rfl rfl rfl rfl rfl fun bl=>?_;refine uR ?_;refine EV.loopK (ι:=Nat × Value × Ows) [1,2,20,21] [2] (fun q=>[(7,.v q.2.1),(22,.v (.int .i64 (q.1:Int)))]) (fun _=>[]) (fun q=>q.2.2) (fun q G=>q.1≤ts.length∧zaF 51 5 q.2.1 (q.1+1) ((zcj base rate ts x (q.1+1)).flatMap fun q=>zae (zan q)) q.2.2) (fun q=>ts.length-q.1) ((0,.slice (some ⟨bl,0,none⟩) 1 1,[(bl,_,_)])) rfl rfl ⟨rfl,rfl,trivial⟩ trivial rfl (fun _=>rfl) (⟨qQ _,by rw[h1];exact zaF.full (m:=1) rfl oM⟩) ?_;rintro⟨i,v7,ow7⟩ G1 hG1 ⟨hi,hown⟩;dsimp only at hi hown;refine uR ?_;refine EV.cond rfl (fun hlt=>?_) (fun hlt=>?_)
 ·simp only[nN]at hlt;obtain⟨t,hti⟩:=gE hlt;have hB:=hok t (qF hti);obtain⟨c,hcut,htr⟩:=(hts.mono hG1).get hti;obtain⟨na,nc,css,rfl,_⟩:=id htr;have hst1:=hst.mono hG1;have hval:=fun (G:Hp) (hG:G1.Le G)=>ziZ (htr.mono hG) hB.ok (SlC.mono hx (hG1.trans hG)) (by rw[hB.wide]) hxq;have hlb:=zcX hB x;have hsh:ht (zeY base rate (ts.take i) x)≤400000:=zjt (w:=0) hb hr (by rw[qP];omega) fun t' h'=>qI (zcX (hok t' (List.mem_of_mem_take h')) x) oM;have hm:=zkE rate (zcY x t).value (zaS hr oM) (zaS hlb oM);have hmh:=zej rate (zcY x t).value;have hadd:=zgP (zeY base rate (ts.take i) x) (rate*(zcY x t).value) (zaS hsh oM) (zaS (n:=1000) oM oM);rw[←zfC,←zai hti]at hadd;have hgi:=zj2 (base:=base) (rate:=rate) (ts:=ts) (x:=x) (Nat.lt_succ_self i);have hsn:=zfc base rate ts x (i+1);rcases hown.2 with ⟨_,e,_⟩ | ⟨g,cap,sp,rfl,rfl,c1,c2,c3⟩
  ·omega
  refine uR ?_;refine EVL.idxM tO rfl rfl rfl rfl rfl rfl rfl rfl rfl (hst1) (i) (rfl) (hlt) (hcut) ?_;refine uR ?_;apply EV.drawn 13 kR kR;intro xv yw;(repeat refine' DD ?_);refine' DJ.idxB tO rfl rfl rfl rfl rfl rfl rfl rfl rfl (i) (i*5) (rfl) (oM) (rfl) ?_;rotate_left;refine' DJ.ofVal (zac.loadOwn tO rfl rfl rfl rfl (0) rfl (zct (fun y hy=>(by obtain⟨q,_,rfl⟩:=List.mem_map.1 hy;rfl)) sp hgi) rfl rfl) rfl rfl rfl ?_;rotate_left;(repeat refine' DD ?_);refine' vC (cO func62) (fun G hG hd=>hval G hG) ?_;rotate_left;(repeat (first|refine' DD ?_|(refine' DC (hm) (h:=?_);rotate_left)|(refine' DC (hadd) (h:=?_);rotate_left)));(refine' DJ.lit tO rfl rfl rfl rfl rfl rfl rfl rfl rfl rfl rfl rfl ?_;rotate_left);(refine DJ.nil (fun G2 hG2 hF2=>?_);(case hS|hS2=>rfl));refine EVL.append tO rfl rfl rfl rfl rfl rfl rfl rfl rfl rfl rfl rfl [] [(g,_,_)] [] (qG _).symm hown (zcn.ro hF2.1 oM) rfl oM ?_;intro v' ow' hown';refine uR ?_;exact⟨(i+1,v',ow'),⟨rfl,by rw[zab i (by omega)];rfl,trivial⟩,sB,trivial,sB,qG _,⟨hlt,by dsimp only;rw[hsn,List.flatMap_append];exact hown'⟩,hG2,by dsimp only;omega⟩
 ·simp only[nN]at hlt;obtain rfl:i=ts.length:=oM;obtain⟨a7,c7,rfl⟩:=hown.val;(first|refine EVL.publishL [] ow7 [] ((qG _).symm) hown fun G2 hG2 hs2=>?_|refine EV.publishL [] ow7 [] ((qG _).symm) hown fun G2 hG2 hs2=>?_);refine uR ?_;refine⟨_,rfl,fun _ _=>?_,fun k=>absurd h k⟩;show SlC G2 _ (zcj base rate ts x (ts.length+1)).length 5 _;rw[zgp];exact hs2
abbrev zrz (loss rounds deep least:Int) (rate tilt gain:Rat):List Value:=.int .i64 loss::.int .i64 rounds::(zae (zan rate)++(zae (zan tilt)++(.int .i64 deep::.int .i64 least::zae (zan gain))))
set_option maxRecDepth 100000 in
theorem zlM {H:Hp} {loss:Int} {v:Value} {l:List Rat} {tilt:Rat} (hl:QL H v l) (h0:1≤l.length) (h8:l.length≤12) (hb:∀q,q∈l→ht q≤100) (htl:loss≠1→0<tilt∧tilt<1) (hht:ht tilt≤10) :
  PC prog 57 #[.int .i64 loss,zan tilt,v] H fun r _=>r=zan (zoe loss tilt l):=by
 obtain⟨va,vc,rfl⟩:=SlC.val hl;have hsm:∀q,q∈l→sm q:=fun q hq=>zaS (hb q hq) oM;refine BD func57 ntmps57 ?_;by_cases k1:loss=1
 ·subst k1;rw[show zoe 1 tilt l=zbN l from if_pos rfl];refine uR ?_;rw[show ((1:Int) == 1)=true from rfl];refine uR ?_;refine EVL.call rfl rfl rfl rfl rfl (zmV hl oM hb) ?_;rintro _ G rfl hG;refine uR ?_;rfl
 ·rw[show zoe loss tilt l=zjG tilt l from if_neg k1];refine uR ?_;rw[show (loss == 1)=false from pT.2 k1];refine uR ?_;obtain⟨t0,t1⟩:=htl k1;refine vA (zo4 hl h8 hsm) ?_;intro r G hs hG;have hsl:(zbX l).length=l.length:=(zbR l).length_eq;obtain⟨sa,sc,rfl⟩:=SlC.val hs;have hst:sm tilt:=zaS hht oM;have hlh:=zdc (l.length:Int);have hlb:bl (l.length:Int).natAbs≤20:=zaV oM;have ho:=zm6 (l.length:Int) oM oM;have hm:=zkE tilt ((l.length:Int):Rat) hst (zaS (n:=30) oM oM);have hmh:=zej tilt ((l.length:Int):Rat);have hkl:=zfs (a:=tilt) t1 h0;have hsS:SlC G (.slice sa (zbX l).length sc) (zbX l).length 5 ((zbX l).flatMap fun q=>zae (zan q)):=hs;rw[hsl]at hsS ⊢;refine uR ?_;apply EV.drawn 6 kR kR;intro xv yw;(repeat (first|refine' DD ?_|(refine' DC (ho) (h:=?_);rotate_left)|(refine' DC (hm) (h:=?_);rotate_left)));(refine DJ.nil (fun G5 hG5 hF5=>?_);(case hS|hS2=>rfl));refine uR ?_;refine EV.loopK (ι:=Nat) [6,9,27,28] [6,9] (fun q=>[(29,.v (.int .i64 (q:Int)))]) (fun _=>[]) (fun _=>[]) (fun q G'=>q≤zgN tilt l.length∧G.Le G') (fun q=>l.length-q) (0) rfl rfl ⟨rfl,trivial⟩ trivial rfl (fun _=>rfl) (⟨qQ _,hG5⟩) ?_;rintro k G2 hG2 ⟨hk,hGG2⟩;have hkl2:k<(zbX l).length:=oM;obtain⟨x,hx⟩:∃x,(zbX l)[k]?=some x:=⟨_,qA hkl2⟩;have hkh:=zdc ((k+1:Nat):Int);have hkb:bl ((k+1:Nat):Int).natAbs≤20:=zaV oM;have ho2:=zm6 ((k+1:Nat):Int) oM oM;have hc2:=zgV (((k+1:Nat):Int):Rat) (tilt*((l.length:Int):Rat)) (zaS (n:=30) oM oM) (zaS (n:=100) oM oM);refine uR ?_;rw[qD (show (k:Int)<(l.length:Int) by omega)];refine uR ?_;refine EVL.idxM tO rfl rfl rfl rfl rfl rfl rfl rfl rfl ((hsS.mono hGG2)) (k) (rfl) (oM) ((QL.at (H:=H) (v:=.bool true) hx)) ?_;refine uR ?_;apply EV.drawn 6 kR kR;intro xv yw;(repeat refine' DD ?_);rw[zab k (by omega)];(repeat (first|refine' DD ?_|(refine' DC (ho2) (h:=?_);rotate_left)|(refine' DC (hc2) (h:=?_);rotate_left)));(refine DJ.nil (fun G6 hG6 hF6=>?_);(case hS|hS2=>rfl));by_cases hc:tilt*((l.length:Int):Rat)≤(((k+1:Nat):Int):Rat)
  ·rw[qD (show zb8 (((k+1:Nat):Int):Rat) (tilt*((l.length:Int):Rat))≥0 from Int.not_lt.1 fun c=>absurd ((zdn _ _).1 c) (Rat.not_lt.2 hc))];have hke:=zk1 t1 h0 hc fun j hj=>zgs (Nat.lt_of_lt_of_le hj hk)
   have hmx:zjG tilt l=x:=by
    unfold zjG;rw[←hke,qB,hx];rfl
   rw[hmx];refine uR ?_;rfl
  ·rw[qC (show ¬zb8 (((k+1:Nat):Int):Rat) (tilt*((l.length:Int):Rat))≥0 from fun c=>hc (Rat.not_lt.1 fun q=>absurd ((zdn _ _).2 q) oM))];refine uR ?_;refine⟨k+1,⟨by rw[zab k (by omega)];rfl,trivial⟩,sB,trivial,sB,rfl,⟨?_,hGG2.trans hG6⟩,hG6,by omega⟩;rcases Nat.lt_or_eq_of_le hk with h | h
   ·exact h
   ·exact absurd (zh7 t1 h0) (by rw[←h];exact hc)
set_option maxRecDepth 100000 in
theorem zno {H:Hp} {vx:Value} {X:List (List Rat)} {w:Nat} (hX:QLL H vx X) (hw:∀x,x∈X→x.length=w) (h0:1≤X.length) (hn:X.length≤300) (h1:1≤w) (h2:w≤20):PC prog 54 #[vx] H fun r _=>r=.bool true:=by
 obtain⟨vs,hvs,hvx⟩:=id hX;obtain⟨xa,xc,rfl⟩:=hX.val;obtain⟨x0,hxx0⟩:=gE h0;obtain⟨u0,e0,hu0,_⟩:=hvs.at hxx0;rw[hw x0 (qF hxx0)]at hu0;refine BD func54 ntmps54 ?_;refine uR ?_;rw[qC (show ¬(X.length:Int)<1 by omega)];refine uR ?_;rw[qC (show ¬(X.length:Int)>300 by omega)];refine uR ?_;refine vI (hvx) (0) (rfl) (h0) (hu0) ?_;refine uR ?_;rw[qC (show ¬(w:Int)<1 by omega)];refine uR ?_;refine vI (hvx) (0) (rfl) (h0) (hu0) ?_;refine uR ?_;rw[qC (show ¬(w:Int)>20 by omega)];refine uR ?_;refine EV.loopK (ι:=Nat) [0,27,28] [] (fun q=>[(29,.v (.int .i64 (q:Int)))]) (fun _=>[]) (fun _=>[]) (fun q G=>q≤X.length∧H.Le G) (fun q=>X.length-q) (0) rfl rfl ⟨rfl,trivial⟩ trivial rfl (fun _=>rfl) (⟨qQ _,Hp.Le.refl _⟩) ?_;rintro i G hG ⟨hi,hHG⟩;refine uR ?_;refine EV.cond rfl (fun hlt=>?_) (fun hlt=>?_)
 ·simp only[nN]at hlt;obtain⟨x,hx⟩:=gE hlt;obtain⟨u,e,hu,_⟩:=hvs.at hx;rw[hw x (qF hx)]at hu;have hvG:=hvx.mono hHG;refine uR ?_;refine vI (hvG) (i) (rfl) (hlt) (hu) ?_;refine uR ?_;refine vI (hvG) (0) (rfl) (h0) (hu0) ?_;refine uR ?_;rw[show ((w:Int) != (w:Int))=false from pS _];refine uR ?_;exact⟨i+1,⟨by rw[zab i (by omega)];rfl,trivial⟩,sB,trivial,sB,rfl,⟨hlt,hHG⟩,Hp.Le.refl _,by omega⟩
 ·simp only[nN]at hlt;refine uR ?_;rfl
set_option maxRecDepth 100000 in
theorem zlw {H:Hp} {loss w:Int} {W:Nat} {base rate tilt:Rat} {b1 b2 b3:Bool} {a1 a2 a3 a4 a5 a6 ta:Option Addr} {l1 c1 l2 c2 l3 c3 l4 c4 l5 c5 l6 c6 tc:Nat} {ts:List Tr}
  (hbs:RQ H (.agg (rc b1 a1 l1 c1 a2 l2 c2).toArray) base) (hrt:RQ H (.agg (rc b2 a3 l3 c3 a4 l4 c4).toArray) rate) (hti:RQ H (.agg (rc b3 a5 l5 c5 a6 l6 c6).toArray) tilt) (ht:RTL H (.slice ta ts.length tc) ts) (hx:∀t,t∈ts→zec W t) (q1:rq base) (q2:rq rate) (q3:rq tilt) (hl:ts.length≤1000000) :
  PC prog 35 #[.agg (zaa loss w (rc b1 a1 l1 c1 a2 l2 c2) (rc b2 a3 l3 c3 a4 l4 c4) (rc b3 a5 l5 c5 a6 l6 c6) (.slice ta ts.length tc)).toArray] H fun r G=>∃a c,r=.agg (zcE loss w base rate tilt (.slice a ts.length c)).toArray∧PTL G (.slice a ts.length c) ts:=by
 have hsmall:∀t,t∈ts→t.ns.length≤1000000∧∀n,n∈t.ns→zgO n:=fun t h=>by
  have k:=hx t h;refine⟨qI k.len oM,fun n hn=>?_⟩;rcases k.ok with e | e
  ·rw[e]at hn;cases hn
  ·exact e.smallN n hn
 refine BD func35 ntmps35 ?_;refine uR ?_;apply EV.drawn 17 kR kR;intro xv yw;(repeat refine' DD ?_);refine' vC (cO func63) (fun G hG hd=>zfT (RQ.mono hbs hG) q1) ?_;rotate_left;(repeat refine' DD ?_);refine' vC (cO func63) (fun G hG hd=>zfT (RQ.mono hrt hG) q2) ?_;rotate_left;(repeat refine' DD ?_);refine' vC (cO func63) (fun G hG hd=>zfT (RQ.mono hti hG) q3) ?_;rotate_left;(repeat refine' DD ?_);refine' vB (cO func100) (fun G hG hd=>zlx (ht.mono hG) hsmall hl) (fun _ _ _ h k=>PTL.mono h k) ?_;rotate_left
 (refine' DJ.plainE tO (fun v G=>∃a c,v=.agg (zcE loss w base rate tilt (.slice a ts.length c)).toArray∧PTL G (.slice a ts.length c) ts) (fun v G G' ⟨a,c,e,h⟩ k=>⟨a,c,e,h.mono k⟩) rfl rfl rfl (fun G hd=>(by
  have hq:=show PTL G (xv 15) ts from hd.head kR;obtain⟨tcs,h1,h2⟩:=id hq;obtain⟨a,c,e⟩:=SlC.val h2;rw[e]at hq;rw[e];exact⟨_,rfl,a,c,rfl,hq⟩)) ?_;rotate_left)
 (refine DJ.nil (fun G1 hG1 hF1=>?_);(case hS|hS2=>rfl));obtain⟨⟨a,c,e,h⟩,_⟩:=hF1;rw[e];refine uR ?_;exact⟨a,c,rfl,h⟩
theorem zpS {w i:Nat} (h:i<w) (v:Int) (hv:v=(i:Int)):((zcC i).map iv++List.replicate (w-i) (Value.int .i64 0)).take (i*1)++[Value.int .i64 v]++((zcC i).map iv++List.replicate (w-i) (Value.int .i64 0)).drop (i*1+1)=(zcC (i+1)).map iv++List.replicate (w-(i+1)) (Value.int .i64 0):=by
 subst hv;rw[zpT h 0,zc6 (A:=(zcC i).map iv) (c:=[Value.int .i64 0]) (B:=List.replicate (w-(i+1)) (Value.int .i64 0)) (vs:=[Value.int .i64 (i:Int)]) (c':=[Value.int .i64 (i:Int)]) (k:=i) (s:=1) (f:=0) (m:=1) (q:=i*1) (by rw[qV,zcp,Nat.mul_one]) rfl rfl (qH 1) rfl,zfB,qo,qZ];rfl
theorem znp {b:BG} (hb:b.Ok):zb0 b.loss b.rate b.tilt=true:=by
 unfold zb0;rw[qD hb.rate.1,qD hb.rate.2];rcases hb.loss with e | e
 ·rw[if_pos e,qD (hb.one e)];rfl
 ·rw[if_neg oM,qD (hb.two e).1,qD (hb.two e).2];rfl
theorem zqo {b:BG} (hb:b.Ok):zkG b.loss b.rate b.tilt=true:=by rw[zm4 hb.loss,znp hb]
set_option maxRecDepth 100000 in
theorem zkM {H:Hp} {b:BG} (hb:b.Ok) {vx vy:Value} {y:List Rat} (hX:QLL H vx b.X) (hy:QL H vy y) (hyl:y.length=b.X.length) (hy95:∀q,q∈y→ht q≤95) (hm95:ht (b.mid y)≤95) (hr:ht b.rate≤10) :
  PC prog 15 #[vx,vy,.agg (zrz b.loss 0 (b.D:Int) b.least b.rate b.tilt b.gain).toArray] H fun r _=>r=.tuple #[.agg (zcE b.loss (b.W:Int) (b.mid y) b.rate b.tilt (.slice none 0 0)).toArray,.int .i64 0]:=by
 have h8:=hb.rows;have hw:=hb.wide;have hdp:=hb.deep;have hxw:=fun x hx=>(hb.each x hx).1;have hvd:=zno hX hxw h8.1 oM hw.1 hw.2;have hnm:=zf9 (loss:=b.loss) (zaS hr oM) (zaS hb.den.2 oM);rw[zqo hb]at hnm;have hfi:=fun G:Hp=>znV (H:=G) (deep:=(b.D:Int)) (least:=b.least) (zaS hb.gain.2 oM);rw[qD (show zoi (b.D:Int) b.least b.gain from ⟨by omega,by omega,hb.least.1,hb.least.2,hb.gain.1⟩)]at hfi;have hmd:=fun (G:Hp) (hG:H.Le G)=>zlM (loss:=b.loss) (SlC.mono hy hG) oM oM (fun q k=>qI (hy95 q k) oM) (fun k=>hb.two (hb.loss.resolve_left k)) hb.den.2;rw[show zoe b.loss b.tilt y=b.mid y from rfl]at hmd;obtain⟨vs,hvs,hvx⟩:=id hX;obtain⟨xa,xc,rfl⟩:=hX.val;obtain⟨ya,yc,rfl⟩:=SlC.val hy;obtain⟨x0,hxx0⟩:∃x,b.X[0]?=some x:=⟨_,qA h8.1⟩;obtain⟨u0,e0,hu0,_⟩:=hvs.at hxx0;rw[hxw x0 (qF hxx0)]at hu0;have hyS:SlC H (.slice ya y.length yc) y.length 5 (y.flatMap fun q=>zae (zan q)):=hy;refine BD func15 ntmps15 ?_
 repeat (first|refine RUN ?_|refine CV (hvd) ?_|refine CE (hvd) ?_)
 rw[show ((y.length:Int) != (b.X.length:Int))=false by rw[hyl];exact pS _];have hfi0:=hfi H
 repeat (first|refine RUN ?_|refine CV (hnm) ?_|refine CV (hfi0) ?_|refine CE (hnm) ?_|refine CE (hfi0) ?_)
 apply EV.drawn 18 kR kR;intro xv yw;(repeat refine' DD ?_);refine' vJ (hvx) (0) (rfl) (h8.1) (hu0) ?_;rotate_left;(repeat refine' DD ?_);refine' vC (cO func57) (fun G hG hd=>hmd G hG) ?_;rotate_left;(repeat refine' DD ?_);(refine DJ.nil (fun G1 hG1 hF1=>?_);(case hS|hS2=>rfl));refine uR ?_;refine EVL.make tO rfl rfl rfl rfl rfl rfl rfl rfl rfl (b.X.length) (rfl) oM (by rfl) (by rfl) fun g9=>?_;refine uR ?_;refine EVL.make tO rfl rfl rfl rfl rfl rfl rfl rfl rfl (b.X.length) (rfl) oM (by rfl) (by rfl) fun g10=>?_;refine uR ?_;(first|refine EVL.swapOw ([(g10,51,(([]:List Rat)++List.replicate (b.X.length-0) 0).flatMap cqF)]) ([(g9,3,_)]) ((by rw[←zkq];rfl)) ?_|refine EV.swapOw ([(g10,51,(([]:List Rat)++List.replicate (b.X.length-0) 0).flatMap cqF)]) ([(g9,3,_)]) ((by rw[←zkq];rfl)) ?_);(first|refine EVL.swapOw ([(g9,3,(zcC 0).map iv++List.replicate (b.X.length-0) (.int .i64 0))]) ([(g10,51,(([]:List Rat)++List.replicate (b.X.length-0) 0).flatMap cqF)]) ((by rw[show (Tryz.te3).zero=[Value.int .i64 0] from rfl,zhF];rfl)) ?_|refine EV.swapOw ([(g9,3,(zcC 0).map iv++List.replicate (b.X.length-0) (.int .i64 0))]) ([(g10,51,(([]:List Rat)++List.replicate (b.X.length-0) 0).flatMap cqF)]) ((by rw[show (Tryz.te3).zero=[Value.int .i64 0] from rfl,zhF];rfl)) ?_);generalize hbm:b.mid y=bm at *
 refine EV.loopK (ι:=List Rat) [0,1,5,6,8,9,10,77] [5,6,8] (fun qs=>[(78,.v (.int .i64 (qs.length:Int)))]) (fun _=>[]) (fun qs=>[(g10,51,(qs++List.replicate (b.X.length-qs.length) 0).flatMap cqF),(g9,3,(zcC qs.length).map iv++List.replicate (b.X.length-qs.length) (.int .i64 0))]) (fun qs G=>qs.length≤b.X.length∧G1.Le G∧qs=(y.map fun q=>q-bm).take qs.length) (fun qs=>b.X.length-qs.length) ([]) rfl rfl ⟨rfl,trivial⟩ trivial rfl (fun _=>rfl) (⟨qQ _,Hp.Le.refl _,rfl⟩) ?_;rintro qs G2 hG2 ⟨hi,hG12,hqs⟩;refine uR ?_;refine EV.cond rfl (fun hlt=>?_) (fun hlt=>?_)
 ·simp only[nN]at hlt;obtain⟨q,hq⟩:∃q,y[qs.length]?=some q:=⟨_,qA oM⟩;have hq95:=hy95 q (qF hq);have hsub:=zrD q bm (zaS hq95 oM) (zaS hm95 oM);have hyS2:=hyS.mono (hG1.trans hG12)
  have hsn:qs++[q-bm]=(y.map fun q=>q-bm).take (qs.length+1):=by
   have hm:(y.map fun q=>q-bm)[qs.length]?=some (q-bm):=by rw[qK,hq];rfl
   rw[zai hm,←hqs]
  refine uR ?_;refine EVL.idxB tO rfl rfl rfl rfl rfl rfl rfl rfl rfl (qs.length) (qs.length*1) (rfl) (hlt) (rfl) ?_;refine uR ?_;refine EVL.storeOwn tO rfl rfl rfl rfl rfl rfl ([(g10,51,_)]) ([]) rfl rfl rfl rfl ((by rw[qJ,qV,zcp,List.length_replicate];show qs.length*1+1≤_;omega)) (zpS hlt _ rfl) ?_;refine uR ?_;apply EV.drawn 9 kR kR;intro xv yw;(repeat refine' DD ?_);refine' DJ.idxM tO rfl rfl rfl rfl rfl rfl rfl rfl rfl (hyS2) (qs.length) (rfl) (oM) (QL.at (H:=H) (v:=.bool true) hq) ?_;rotate_left;(repeat (first|refine' DD ?_|(refine' DC (hsub) (h:=?_);rotate_left)));(refine DJ.nil (fun G3 hG3 hF3=>?_);(case hS|hS2=>rfl));refine EVL.idxB tO rfl rfl rfl rfl rfl rfl rfl rfl rfl (qs.length) (qs.length*5) (rfl) (hlt) (rfl) ?_;refine uR ?_;refine EVL.storeOwn tO rfl rfl rfl rfl rfl rfl ([]) ([(g9,3,_)]) rfl rfl rfl rfl ((by rw[zmA,qJ,List.length_replicate];show qs.length*5+5≤_;omega)) (zp1 qs (q-bm) hlt) ?_;refine uR ?_;have hl1:(qs++[q-bm]).length=qs.length+1:=by rw[qJ];rfl
  refine⟨qs++[q-bm],⟨by rw[zab qs.length oM,hl1];rfl,trivial⟩,sB,trivial,sB,by rw[hl1];rfl,⟨by rw[hl1];exact hlt,hG12.trans hG3,by rw[hl1];exact hsn⟩,hG3,by rw[hl1];omega⟩
 ·simp only[nN]at hlt;refine uR ?_;refine EV.loopK (ι:=Nat) [0,5,6,8,9,10,97] [5,6,8] (fun i=>[(98,.v (.int .i64 (i:Int)))]) (fun _=>[]) (fun _=>[(g10,51,(qs++List.replicate (b.X.length-qs.length) 0).flatMap cqF),(g9,3,(zcC qs.length).map iv++List.replicate (b.X.length-qs.length) (.int .i64 0))]) (fun i _=>i=0) (fun i=>0) (0) rfl rfl ⟨rfl,trivial⟩ trivial rfl (fun _=>rfl) (rfl) ?_;rintro i G3 hG3 rfl;refine uR ?_;rfl
def zrQ (loss:Int) (tilt:Rat):BG:=⟨loss,1 / 2,tilt,[[0],[0],[0]],1,0,1,0⟩
def zgJ:List Rat:=[1,2,6]
theorem zoC:(zrQ 1 0).Ok:=⟨.inl rfl,by decide +kernel,fun _=>rfl,fun k=>absurd k (by decide),by decide +kernel,by decide,by decide,by decide +kernel,by decide,by decide,by decide +kernel⟩
theorem zoD:(zrQ 2 (1 / 2)).Ok:=⟨.inr rfl,by decide +kernel,fun k=>absurd k (by decide),fun _=>by decide +kernel,by decide +kernel,by decide,by decide,by decide +kernel,by decide,by decide,by decide +kernel⟩
theorem zmQ:(zrQ 1 0).mid zgJ=3:=by
 show zbN zgJ=3;decide +kernel
theorem zmR:(zrQ 2 (1 / 2)).mid zgJ=2:=by
 show zjG (1 / 2) zgJ=2;have hs:zbX zgJ=zgJ:=(zey (List.Perm.refl _) (by show List.Pairwise _ _;decide +kernel)).symm;unfold zjG;rw[hs];decide +kernel
abbrev z5:List Value:=[.bool false,.int .u64 0,.string ⟨#[]⟩,.int .u64 0,.string ⟨#[]⟩]
theorem zrO:z5=zae (zan 0):=zbf.symm
theorem zqa {H:Hp} {vx vy:Value} (hX:QLL H vx [[0],[0],[0]]) (hy:QL H vy zgJ):PC prog 15 #[vx,vy,.agg (.int .i64 1::.int .i64 0::(zae (zan (1 / 2))++(z5++(.int .i64 0::.int .i64 1::z5)))).toArray] H fun r _=>r=.tuple #[.agg (zcE 1 1 3 (1 / 2) 0 (.slice none 0 0)).toArray,.int .i64 0]:=by
 have h:=zkM zoC (y:=zgJ) hX hy rfl (by decide +kernel) (by rw[zmQ];decide +kernel) (by decide +kernel);rw[zmQ]at h;rw[zrO];exact h
theorem zqb {H:Hp} {vx vy:Value} (hX:QLL H vx [[0],[0],[0]]) (hy:QL H vy zgJ):PC prog 15 #[vx,vy,.agg (.int .i64 2::.int .i64 0::(zae (zan (1 / 2))++(zae (zan (1 / 2))++(.int .i64 0::.int .i64 1::z5)))).toArray] H fun r _=>r=.tuple #[.agg (zcE 2 1 2 (1 / 2) (1 / 2) (.slice none 0 0)).toArray,.int .i64 0]:=by
 have h:=zkM zoD (y:=zgJ) hX hy rfl (by decide +kernel) (by rw[zmR];decide +kernel) (by decide +kernel);rw[zmR]at h;rw[zrO];exact h
theorem zjR {H:Hp} {b m s:Nat} {cs:List Value} (h:H b=some cs.toArray) (hl:cs.length=m*s):SlC H (.slice (some ⟨b,0,none⟩) m m) m s cs:=⟨hl,.inr ⟨b,0,m,_,rfl,qH _,h,fun j x hj=>by rw[qv];simpa using hj⟩⟩
theorem zjQ {G:Hp} {b:Nat} {c0 c1 c2:Value} {q:Rat} (h:G b=some #[c0,c1,c2]) (hx:RQ G (.agg #[c0,c1,c2]) q):RL G (.slice (some ⟨b,0,none⟩) 1 1) [q]:=RL.one (x:=.agg #[c0,c1,c2]) (zjR (cs:=[c0,c1,c2]) h rfl) hx
theorem zqr {G:Hp} {b:Nat} {c0 c1 c2 d0 d1 d2 e0 e1 e2:Value} {p q r:Rat} (h:G b=some #[c0,c1,c2,d0,d1,d2,e0,e1,e2]) (h1:RQ G (.agg #[c0,c1,c2]) p) (h2:RQ G (.agg #[d0,d1,d2]) q) (h3:RQ G (.agg #[e0,e1,e2]) r):RL G (.slice (some ⟨b,0,none⟩) 3 3) [p,q,r] :=
 ⟨[.agg #[c0,c1,c2],.agg #[d0,d1,d2],.agg #[e0,e1,e2]],rfl,fun j v x e1 e2=>(by
  match j,e1,e2 with
  | 0,e1,e2=>cases e1;cases e2;exact h1
  | 1,e1,e2=>cases e1;cases e2;exact h2
  | 2,e1,e2=>cases e1;cases e2;exact h3),zjR (cs:=[c0,c1,c2,d0,d1,d2,e0,e1,e2]) h rfl⟩
set_option maxRecDepth 100000 in
theorem zdB {H:Hp}:PC prog 14 #[] H fun r _=>r=.bool true:=by
 have hof:=fun (z:Int) (h1:-9223372036854775808≤z) (h2:z<9223372036854775808) (G:Hp)=>zaJ (H:=G) z h1 h2;have hov:PV prog 52 #[.int .i64 1,.int .i64 2] (.tuple #[zan (1 / 2),.bool true]):=(zoL 1 2 oM oM).of_eq (by rw[show mkRat 1 (2:Int).natAbs=1 / 2 by decide +kernel]);have i1:=fun G:Hp=>zrn (H:=G) 3 (by show ht 3≤_;decide +kernel) 3 1 oM oM oM oM oM (by decide +kernel);have i2:=fun G:Hp=>zrn (H:=G) 2 (by show ht 2≤_;decide +kernel) 2 1 oM oM oM oM oM (by decide +kernel);refine BD func14 ntmps14 ?_;refine uR ?_;refine EVL.call rfl rfl rfl rfl rfl (hof 0 oM oM _) ?_;rintro r1 G1 h1 hG1;obtain⟨_,_,_,_,_,_,rfl,_⟩:=id h1;refine uR ?_;refine EVL.lit tO rfl rfl rfl rfl rfl rfl rfl rfl rfl rfl rfl fun b1=>?_;(first|refine EVL.publish [] [] rfl fun G2 hG2 hb1=>?_|refine EV.publish [] [] rfl fun G2 hG2 hb1=>?_);have l1:RL G2 (.slice (some ⟨b1,0,none⟩) 1 1) [((0:Int):Rat)]:=zjQ hb1 (h1.mono hG2);refine uR ?_;refine EVL.call rfl rfl rfl rfl rfl (hof 0 oM oM _) ?_;rintro r2 G3 h2 hG3;obtain⟨_,_,_,_,_,_,rfl,_⟩:=id h2;refine uR ?_;refine EVL.lit tO rfl rfl rfl rfl rfl rfl rfl rfl rfl rfl rfl fun b2=>?_;(first|refine EVL.publish [] [] rfl fun G4 hG4 hb2=>?_|refine EV.publish [] [] rfl fun G4 hG4 hb2=>?_);have l2:RL G4 (.slice (some ⟨b2,0,none⟩) 1 1) [((0:Int):Rat)]:=zjQ hb2 (h2.mono hG4);refine uR ?_;refine EVL.call rfl rfl rfl rfl rfl (hof 0 oM oM _) ?_;rintro r3 G5 h3 hG5;obtain⟨_,_,_,_,_,_,rfl,_⟩:=id h3;refine uR ?_;refine EVL.lit tO rfl rfl rfl rfl rfl rfl rfl rfl rfl rfl rfl fun b3=>?_;(first|refine EVL.publish [] [] rfl fun G6 hG6 hb3=>?_|refine EV.publish [] [] rfl fun G6 hG6 hb3=>?_);have l3:RL G6 (.slice (some ⟨b3,0,none⟩) 1 1) [((0:Int):Rat)]:=zjQ hb3 (h3.mono hG6);refine uR ?_;refine EVL.lit tO rfl rfl rfl rfl rfl rfl rfl rfl rfl rfl rfl fun b4=>?_;(first|refine EVL.publish [] [] rfl fun G7 hG7 hb4=>?_|refine EV.publish [] [] rfl fun G7 hG7 hb4=>?_)
 have hX:RLL G7 (.slice (some ⟨b4,0,none⟩) 3 3) [[((0:Int):Rat)],[((0:Int):Rat)],[((0:Int):Rat)]]:=⟨[.slice (some ⟨b1,0,none⟩) 1 1,.slice (some ⟨b2,0,none⟩) 1 1,.slice (some ⟨b3,0,none⟩) 1 1],⟨rfl,fun j v x e1 e2=>(by
  match j,e1,e2 with
  | 0,e1,e2=>cases e1;cases e2;exact l1.mono (hG3.trans (hG4.trans (hG5.trans (hG6.trans hG7))))
  | 1,e1,e2=>cases e1;cases e2;exact l2.mono (hG5.trans (hG6.trans hG7))
  | 2,e1,e2=>cases e1;cases e2;exact l3.mono hG7)⟩,zjR hb4 rfl⟩
 refine uR ?_;refine vA (zmO hX (by decide) (show ∀x,x∈[[((0:Int):Rat)],[((0:Int):Rat)],[((0:Int):Rat)]]→x.length≤1000000∧∀q,q∈x→ht q≤100000000 by decide +kernel)) ?_;rintro r4 G8 hX8 hG8;obtain⟨xa,xc,rfl⟩:=hX8.val;refine uR ?_;refine EVL.call rfl rfl rfl rfl rfl (hof 1 oM oM _) ?_;rintro r5 G9 h5 hG9;obtain⟨_,_,_,_,_,_,rfl,_⟩:=id h5;refine uR ?_;refine EVL.call rfl rfl rfl rfl rfl (hof 2 oM oM _) ?_;rintro r6 G10 h6 hG10;obtain⟨_,_,_,_,_,_,rfl,_⟩:=id h6;refine uR ?_;refine EVL.call rfl rfl rfl rfl rfl (hof 6 oM oM _) ?_;rintro r7 G11 h7 hG11;obtain⟨_,_,_,_,_,_,rfl,_⟩:=id h7;refine uR ?_;refine EVL.lit tO rfl rfl rfl rfl rfl rfl rfl rfl rfl rfl rfl fun b5=>?_;(first|refine EVL.publish [] [] rfl fun G12 hG12 hb5=>?_|refine EV.publish [] [] rfl fun G12 hG12 hb5=>?_);have hY:RL G12 (.slice (some ⟨b5,0,none⟩) 3 3) [((1:Int):Rat),((2:Int):Rat),((6:Int):Rat)]:=zqr hb5 (h5.mono (hG10.trans (hG11.trans hG12))) (h6.mono (hG11.trans hG12)) (h7.mono hG12);refine uR ?_;refine vA (zhJ hY (by decide) (show ∀q,q∈[((1:Int):Rat),((2:Int):Rat),((6:Int):Rat)]→ht q≤100000000 by decide +kernel)) ?_;rintro r8 G13 hY13 hG13;obtain⟨ya,yc,rfl⟩:=SlC.val hY13;have hX13:=hX8.mono (hG9.trans (hG10.trans (hG11.trans (hG12.trans hG13))))
 repeat (first|refine RUN ?_|refine CV (hov) ?_|refine CE (hov) ?_)
 refine vA (zqa hX13 hY13) ?_;rintro _ G14 rfl hG14;refine uR ?_;refine vA (zqb (hX13.mono hG14) (SlC.mono hY13 hG14)) ?_;rintro _ G15 rfl hG15;have j1:=i1 G15;have j2:=i2 G15
 repeat (first|refine RUN ?_|refine CV (j1) ?_|refine CV (j2) ?_|refine CE (j1) ?_|refine CE (j2) ?_)
 rfl
end
section
open Go.ChangeShapes Go.WideShapes Go.ChangeAt Go.RowKit
def zpP (H:Hp) (v:Value):Prop:=∃n w dp ls rd rt at' tl vy vl ly ll,v=zpC n w dp ls rd rt at' tl vy vl∧(ze3 n∧ze3 w∧ze3 dp∧ze3 ls∧ze3 rd∧ze3 rt∧ze3 at')∧(IL H vy ly∧∀z,z∈ly→ze3 z)∧(IL H vl ll∧∀z,z∈ll→ze3 z)
theorem raw21_open {H:Type} {enc:TypeId × Value→H} {w:World} {base:Nat} {spare:Nat→Bool} {held:Bool} {v:Value} {d:DataW H} {p:List MemPlace} (hv:∃cs,v=.agg cs) (h:DataW.Trod enc Tryz.prog w base spare held 24 v d p):zpP (zq7 w) v:=by
 obtain⟨cs,rfl⟩:=hv;obtain⟨fuel,h⟩:=h;obtain⟨xs,n,_,hx,hl,hlen,hf⟩:=DataW.trod_struct Tryz.underlying24 h;rw[show Tryz.prog.cellsOf 24=10 from by kernel_rfl]at hl;have hl4:cs.toList.length=10:=hl;obtain⟨l,rfl⟩:∃l:List Value,cs=l.toArray:=⟨cs.toList,by simp⟩;have hl4':l.length=10:=by simpa using hl4
 obtain⟨c0,c1,c2,c3,c4,c5,c6,c7,c8,c9,rfl⟩:=zrE hl4';have hx4:xs.length=10:=hlen;have f0:DataW.trod enc Tryz.prog w base spare held n 3 (([c0,c1,c2,c3,c4,c5,c6,c7,c8,c9].drop 0).take (Tryz.prog.cellsOf 3))=xs[0]?:=hf 0 _ rfl;have f1:DataW.trod enc Tryz.prog w base spare held n 3 (([c0,c1,c2,c3,c4,c5,c6,c7,c8,c9].drop 1).take (Tryz.prog.cellsOf 3))=xs[1]?:=hf 1 _ rfl;have f2:DataW.trod enc Tryz.prog w base spare held n 3 (([c0,c1,c2,c3,c4,c5,c6,c7,c8,c9].drop 2).take (Tryz.prog.cellsOf 3))=xs[2]?:=hf 2 _ rfl;have f3:DataW.trod enc Tryz.prog w base spare held n 3 (([c0,c1,c2,c3,c4,c5,c6,c7,c8,c9].drop 3).take (Tryz.prog.cellsOf 3))=xs[3]?:=hf 3 _ rfl;have f4:DataW.trod enc Tryz.prog w base spare held n 3 (([c0,c1,c2,c3,c4,c5,c6,c7,c8,c9].drop 4).take (Tryz.prog.cellsOf 3))=xs[4]?:=hf 4 _ rfl;have f5:DataW.trod enc Tryz.prog w base spare held n 3 (([c0,c1,c2,c3,c4,c5,c6,c7,c8,c9].drop 5).take (Tryz.prog.cellsOf 3))=xs[5]?:=hf 5 _ rfl;have f6:DataW.trod enc Tryz.prog w base spare held n 3 (([c0,c1,c2,c3,c4,c5,c6,c7,c8,c9].drop 6).take (Tryz.prog.cellsOf 3))=xs[6]?:=hf 6 _ rfl;have f7:DataW.trod enc Tryz.prog w base spare held n 4 (([c0,c1,c2,c3,c4,c5,c6,c7,c8,c9].drop 7).take (Tryz.prog.cellsOf 4))=xs[7]?:=hf 7 _ rfl;have f8:DataW.trod enc Tryz.prog w base spare held n 22 (([c0,c1,c2,c3,c4,c5,c6,c7,c8,c9].drop 8).take (Tryz.prog.cellsOf 22))=xs[8]?:=hf 8 _ rfl;have f9:DataW.trod enc Tryz.prog w base spare held n 22 (([c0,c1,c2,c3,c4,c5,c6,c7,c8,c9].drop 9).take (Tryz.prog.cellsOf 22))=xs[9]?:=hf 9 _ rfl;rw[show Tryz.prog.cellsOf 3=1 from by kernel_rfl]at f0 f1 f2 f3 f4 f5 f6;rw[show Tryz.prog.cellsOf 4=1 from by kernel_rfl]at f7;rw[show Tryz.prog.cellsOf 22=1 from by kernel_rfl]at f8 f9;rw[qA (by omega)]at f0 f1 f2 f3 f4 f5 f6 f7 f8 f9;obtain⟨z0,e0,_,w0⟩:=DataW.trod_int Tryz.underlying3 f0;obtain⟨z1,e1,_,w1⟩:=DataW.trod_int Tryz.underlying3 f1;obtain⟨z2,e2,_,w2⟩:=DataW.trod_int Tryz.underlying3 f2;obtain⟨z3,e3,_,w3⟩:=DataW.trod_int Tryz.underlying3 f3;obtain⟨z4,e4,_,w4⟩:=DataW.trod_int Tryz.underlying3 f4;obtain⟨z5,e5,_,w5⟩:=DataW.trod_int Tryz.underlying3 f5;obtain⟨z6,e6,_,w6⟩:=DataW.trod_int Tryz.underlying3 f6;obtain⟨b7,e7,_⟩:=DataW.trod_bool Tryz.underlying4 f7;obtain⟨a8,l8,k8,b8,e8,s8,d8⟩:=ziI Tryz.underlying22 Tryz.underlying3 kR f8;obtain⟨a9,l9,k9,b9,e9,s9,d9⟩:=ziI Tryz.underlying22 Tryz.underlying3 kR f9;have g0:[c0]=[.int .i64 z0]:=e0;have g1:[c1]=[.int .i64 z1]:=e1;have g2:[c2]=[.int .i64 z2]:=e2;have g3:[c3]=[.int .i64 z3]:=e3;have g4:[c4]=[.int .i64 z4]:=e4;have g5:[c5]=[.int .i64 z5]:=e5;have g6:[c6]=[.int .i64 z6]:=e6;have g7:[c7]=[.bool b7]:=e7;have g8:[c8]=[.slice a8 l8 k8]:=e8;have g9:[c9]=[.slice a9 l9 k9]:=e9;cases g0;cases g1;cases g2;cases g3;cases g4;cases g5;cases g6;cases g7;cases g8;cases g9;exact⟨z0,z1,z2,z3,z4,z5,z6,b7,_,_,b8,b9,rfl,⟨i64_bounds w0,i64_bounds w1,i64_bounds w2,i64_bounds w3,i64_bounds w4,i64_bounds w5,i64_bounds w6⟩,⟨s8,fun z hz=>i64_bounds (d8 z hz)⟩,⟨s9,fun z hz=>i64_bounds (d9 z hz)⟩⟩
theorem zqz (z:Int):Gr 12 20 (zjl z):=by
 unfold zjl;have hrd:=zeQ (z.tdiv 41 % 6).toNat
 have m1:=Int.emod_nonneg z (show (41:Int)≠0 by omega);have m2:=Int.emod_lt_of_pos z (show (0:Int)<41 by omega);generalize zpB (z.tdiv 41 % 6).toNat=d at *
 generalize hn:z % 41-20=n at *
 rw[Rat.divInt_eq_div];have hd:d=1∨d=2∨d=3∨d=4:=oM;have h12:(((12:Nat):Int):Rat)=12:=rfl;rcases hd with rfl | rfl | rfl | rfl
 ·exact⟨n*12,by rw[h12,Rat.intCast_mul];have:((1:Int):Rat)=1:=rfl;have:((12:Int):Rat)=12:=rfl;grind,by omega⟩
 ·exact⟨n*6,by rw[h12,Rat.intCast_mul];have:((2:Int):Rat)=2:=rfl;have:((6:Int):Rat)=6:=rfl;grind,by omega⟩
 ·exact⟨n*4,by rw[h12,Rat.intCast_mul];have:((3:Int):Rat)=3:=rfl;have:((4:Int):Rat)=4:=rfl;grind,by omega⟩
 ·exact⟨n*3,by rw[h12,Rat.intCast_mul];have:((4:Int):Rat)=4:=rfl;have:((3:Int):Rat)=3:=rfl;grind,by omega⟩
theorem zqG {l:List Int} {n:Nat}:∀q,q∈zi6 l n→Gr 12 20 q:=fun q hq=>by
 obtain⟨i,hi,rfl⟩:=List.mem_map.1 hq;split
 ·exact zqz _
 ·exact Gr.zero _ _
def zr4 (n w dp ls rt at':Int) (tl:Bool) (ll:List Int):BG:=⟨if tl then 2 else 1,Rat.divInt 1 (1+rt % 4),zj4 tl at',zeT ll (1+n % 8).toNat (1+w % 3).toNat,(1+w % 3).toNat,(dp % 3).toNat,1+ls % 3,0⟩
theorem zqC (r:Int):(0<Rat.divInt 1 (1+r % 4)∧Rat.divInt 1 (1+r % 4)≤1)∧(Rat.divInt 1 (1+r % 4)).den≤4:=by
 have h:r % 4=0∨r % 4=1∨r % 4=2∨r % 4=3:=oM;rcases h with h | h | h | h <;> rw[h] <;> decide +kernel
theorem zqR (a:Int):(0<zj4 true a∧zj4 true a<1)∧ht (zj4 true a)≤10:=by
 unfold zj4;have h:a % 5=0∨a % 5=1∨a % 5=2∨a % 5=3∨a % 5=4:=oM;rcases h with h | h | h | h | h <;> rw[h] <;> decide +kernel
theorem zqD (n w dp ls rt at':Int) (tl:Bool) (ll:List Int):(zr4 n w dp ls rt at' tl ll).Ok:=by
 have h1:=zev ll (1+n % 8).toNat (1+w % 3).toNat
 obtain⟨r1,r2⟩:=zqC rt;obtain⟨t1,t2⟩:=zqR at';have hn:=Int.emod_nonneg n (show (8:Int)≠0 by omega);have hn2:=Int.emod_lt_of_pos n (show (0:Int)<8 by omega);have hw:=Int.emod_nonneg w (show (3:Int)≠0 by omega);have hw2:=Int.emod_lt_of_pos w (show (0:Int)<3 by omega);have hl:=Int.emod_nonneg ls (show (3:Int)≠0 by omega);have hl2:=Int.emod_lt_of_pos ls (show (0:Int)<3 by omega);have hd2:=Int.emod_lt_of_pos dp (show (0:Int)<3 by omega);refine⟨?_,r1,?_,?_,⟨r2,?_⟩,?_,?_,fun x hx=>zmb x hx,?_,?_,?_⟩
 ·cases tl
  ·exact .inl rfl
  ·exact .inr rfl
 ·cases tl
  ·exact fun _=>rfl
  ·exact fun k=>absurd k (by decide:¬(2:Int)=1)
 ·cases tl
  ·exact fun k=>absurd k (by decide:¬(1:Int)=2)
  ·exact fun _=>t1
 ·cases tl
  ·show ht 0≤10;rw[zcy];decide
  ·exact t2
 ·show 1≤(zeT ll (1+n % 8).toNat (1+w % 3).toNat).length∧(zeT ll (1+n % 8).toNat (1+w % 3).toNat).length≤8;rw[h1];omega
 ·show 1≤(1+w % 3).toNat∧(1+w % 3).toNat≤20;omega
 ·show (dp % 3).toNat≤10;omega
 ·show 1≤1+ls % 3∧1+ls % 3≤300;omega
 ·exact⟨Rat.le_refl,by show ht 0≤10;rw[zcy];decide⟩
theorem zpl {r K:Nat} (hr:r≤4) (hK:K≤6):bl ((2*20*2 ^ K)*(12*840*(840*r) ^ K))≤95:=by
 by_cases h0:r=0
 ·subst h0;refine qI (zaW (Nat.mul_le_mul (qc _ (qe oM hK)) (qc _ (show (840*0) ^ K≤1 by rw[Nat.mul_zero];cases K with | zero=>exact qH _ | succ k=>rw[Nat.zero_pow (by omega)];omega)))) (zaV (by decide))
 exact qI (zaW (Nat.mul_le_mul (qc _ (qe oM hK)) (qc _ (qI (qe oM hK) (Nat.pow_le_pow_left (qc 840 hr) 6))))) (zaV (by decide))
theorem zm7 {H:Hp} {v:Value} (h:zpP H v):PC Tryz.prog 9 #[v] H fun r G=>∃(b:BG) (y:List Rat) (K:Nat) (vx vv vs:Value),r=.tuple #[vx,vv,vs]∧b.Ok∧RLL G vx b.X∧RL G vv y∧zjr G vs b.loss (K:Int) (b.D:Int) b.least b.rate b.tilt b.gain∧y.length=b.X.length∧(∀q,q∈y→Gr 12 20 q)∧K≤3∧b.gain=0∧b.W≤3:=by
 obtain⟨n,w,dp,ls,rd,rt,at',tl,vy,vl,ly,ll,rfl,⟨hn,hw,hdp,hls,hrd,hrt,hat⟩,⟨hy,hyb⟩,hl,hlb⟩:=h;have e1:=Int.emod_nonneg n (show (8:Int)≠0 by omega);have e2:=Int.emod_nonneg w (show (3:Int)≠0 by omega);have e3:=Int.emod_nonneg dp (show (3:Int)≠0 by omega);have e4:=Int.emod_nonneg rd (show (4:Int)≠0 by omega);have e5:=Int.emod_lt_of_pos rd (show (0:Int)<4 by omega);have e6:=Int.emod_lt_of_pos w (show (0:Int)<3 by omega);refine(zoJ n w dp ls rd rt at' tl hn hw hdp hls hrd hrt hat hy hyb hl hlb (N:=(1+n % 8).toNat) (W:=(1+w % 3).toNat) oM oM).mono ?_;rintro r G ⟨vx,vv,vs,rfl,r1,r2,r3⟩ hG;refine⟨zr4 n w dp ls rt at' tl ll,_,(rd % 4).toNat,vx,vv,vs,rfl,zqD ..,r1,r2,?_,?_,zqG,by omega,rfl,by show (1+w % 3).toNat≤3;omega⟩
 ·rw[show (((rd % 4).toNat:Nat):Int)=rd % 4 by omega,show ((zr4 n w dp ls rt at' tl ll).D:Int)=dp % 3 by show (((dp % 3).toNat:Nat):Int)=dp % 3;omega];exact r3
 ·show (zi6 ly (1+n % 8).toNat).length=(zeT ll (1+n % 8).toNat (1+w % 3).toNat).length;rw[zeu,zev]
end
section
open Go.RowKit _root_.Go.Proofs.Tryz
structure CB where
 l:Int
 w:Nat
 d1:Bool
 p1:Option Addr
 m1:Nat
 n1:Nat
 p2:Option Addr
 m2:Nat
 n2:Nat
 d2:Bool
 p3:Option Addr
 m3:Nat
 n3:Nat
 p4:Option Addr
 m4:Nat
 n4:Nat
 d3:Bool
 p5:Option Addr
 m5:Nat
 n5:Nat
 p6:Option Addr
 m6:Nat
 n6:Nat
 q1:Rat
 q2:Rat
 q3:Rat
 ts:List Tr
 tcs:List (List Value)
 ow:Ows
structure CB.Ok (q:CB) (W K:Nat) (v:Value) (G:Hp):Prop where
 base:RQ G (.agg (rc q.d1 q.p1 q.m1 q.n1 q.p2 q.m2 q.n2).toArray) q.q1
 rate:RQ G (.agg (rc q.d2 q.p3 q.m3 q.n3 q.p4 q.m4 q.n4).toArray) q.q2
 tilt:RQ G (.agg (rc q.d3 q.p5 q.m5 q.n5 q.p6 q.m6 q.n6).toArray) q.q3
 small:ht q.q1≤95∧ht q.q2≤20∧ht q.q3≤20
 wide:q.w≤30
 trees:RTs G q.tcs q.ts
 len:q.ts.length=K
 x:∀t,t∈q.ts→zec W t
 own:zaF 92 4 v K q.tcs.flatten q.ow
theorem zrm:∀{css:List (List Value)},(∀c,c∈css→c.length=4)→css.flatten.length=css.length*4
 | [],_=>rfl
 | c::css,h=>by
  have h1:=h c (qg ..);have h2:=zrm (css:=css) fun d hd=>h d (ql _ hd);rw[List.flatten_cons,qJ,qR,h1,h2];omega
theorem RTs.flatA {H:Hp} {A B:List (List Value)} {c:List Value} {ts:List Tr} (h:RTs H (A++c::B) ts):A.flatten.length=A.length*4:=zrm fun d hd=>by
 obtain⟨i,hi⟩:=List.mem_iff_getElem?.1 (List.mem_append_left (c::B) hd);have hl:=(qE.1 hi).1;obtain⟨_,_,_,rfl,_⟩:=h.2 i d _ hi (qA (by rw[←h.1];exact hl));rfl
set_option maxRecDepth 100000 in
theorem boostChecks_pc {H:Hp} {vx:Value} (turn at' by':Int) (hx:zpP H vx) (htn:ze3 turn) (hat:ze3 at') (hby:ze3 by'):PC prog 6 #[vx,.int .i64 turn,.int .i64 at',.int .i64 by'] H fun r _=>r=.bool true:=by
 have ho1:=zm7 hx;obtain⟨_,_,_,_,_,_,_,_,_,_,_,_,rfl,_⟩:=hx;refine BD func6 ntmps6 ?_;refine uR ?_;refine vA (ho1) ?_;rintro r1 G1 ⟨b,y,K,vX,vY,vS,rfl,hb,hX,hY,hst,hyl,hg,hK,_,hW3⟩ hG1;have hfb:=zoU hb hX hY hyl hst oM oM hg oM (zpl hb.den.1 oM);have htb:=fun t=>(hb.fit oM oM hg hyl (zpl hb.den.1 (show K≤6 by omega)) K (qH _)).2 t;have hln:=(b.fit_len y hyl K).2;have hm95:ht (b.mid y)≤95:=qI ((hb.mid_gr hg hyl).bits oM oM) (zaV (by decide))
 have hr10:ht b.rate≤10:=by
  have h:=hb.rd.bits (by have:=b.rate.den_nz;omega) oM;rw[Nat.one_mul]at h;exact qI h (qI (zaW hb.den.1) (zaV (by decide)))
 obtain⟨xa,xc,rfl⟩:=hX.val;obtain⟨ya,yc,rfl⟩:=hY.val;obtain⟨_,_,_,_,_,_,_,_,_,_,_,_,_,_,_,_,_,_,_,_,_,rfl,_⟩:=id hst;generalize (b.fit y K).1=ts at *
 subst hln;refine uR ?_;refine vA (hfb) ?_;rintro _ G2 ⟨b1,a1,l1,c1,a2,l2,c2,b2,a3,l3,c3,a4,l4,c4,b4,a7,l7,c7,a8,l8,c8,ta,tc,rfl,hbs,hrt,hti,hts⟩ hG2;have hwd:=hb.wide;have htx:∀t,t∈ts→zec b.W t:=fun t h=>(htb t h).x;obtain⟨tcs,hts',hsl⟩:=id hts;have hone:=RTs.one hts';have hp1:=zbo turn 9 htn oM oM;have hm0:0≤turn % 9∧turn % 9<9:=oM;generalize turn % 9=m at *
 refine uR ?_;refine EVL.lit0 tO rfl rfl rfl rfl rfl rfl rfl fun g2=>?_;refine uR ?_;refine EVL.appendR tO rfl rfl rfl rfl rfl rfl rfl rfl rfl rfl rfl rfl rfl [] [(g2,92,[])] [] rfl (zaF.full (m:=0) rfl oM) hsl hone oM ?_;intro v14 ow14 hown14;rw[qv,pQ]at hown14;obtain⟨a14,c14,rfl⟩:=hown14.val
 repeat (first|refine zpO ?_|refine CV (hp1) ?_|refine CE (hp1) ?_)
 refine EV.meetK (ι:=CB) [12,14] [] (fun _=>[]) (fun q=>[(12,69,zaa q.l (q.w:Int) (rc q.d1 q.p1 q.m1 q.n1 q.p2 q.m2 q.n2) (rc q.d2 q.p3 q.m3 q.n3 q.p4 q.m4 q.n4) (rc q.d3 q.p5 q.m5 q.n5 q.p6 q.m6 q.n6) (.slice ta ts.length tc))]) (fun q=>q.ow) (fun q G=>G2.Le G∧q.Ok b.W ts.length (.slice a14 ts.length c14) G) rfl rfl (fun _=>rfl) ?_ ?_
 ·have hti10:=hb.den.2;have h9:m=0∨m=1∨m=2∨m=3∨m=4∨m=5∨m=6∨m=7∨m=8:=oM;have hht:=zmL by'
  rcases h9 with rfl | rfl | rfl | rfl | rfl | rfl | rfl | rfl | rfl
  ·have hp3:=zbo by' 4 hby oM oM
   repeat (first|refine RUN ?_|refine CV (hp3) ?_|refine CE (hp3) ?_)
   exact⟨⟨(by' % 4),b.W,b4,a7,l7,c7,a8,l8,c8,b1,a1,l1,c1,a2,l2,c2,b2,a3,l3,c3,a4,l4,c4,(b.mid y),b.rate,b.tilt,ts,tcs,ow14⟩,trivial,sB,⟨rfl,trivial⟩,trivial,qG _,Hp.Le.refl _,⟨hbs,hrt,hti,⟨by dsimp only;omega,by dsimp only;omega,by dsimp only;omega⟩,by dsimp only;omega,hts',rfl,htx,hown14⟩⟩
  ·try refine uR ?_
   refine vA (zrv by' hby) ?_;rintro r3 G3 hr hG3;obtain⟨za1,zl1,zc1,za2,zl2,zc2,rfl,_⟩:=id hr;refine uR ?_;exact⟨⟨b.loss,b.W,b4,a7,l7,c7,a8,l8,c8,_,_,_,_,_,_,_,b2,a3,l3,c3,a4,l4,c4,(b.mid y),(zjl by'),b.tilt,ts,tcs,ow14⟩,trivial,sB,⟨rfl,trivial⟩,trivial,qG _,hG3,⟨hbs.mono hG3,hr,hti.mono hG3,⟨by dsimp only;omega,by dsimp only;omega,by dsimp only;omega⟩,by dsimp only;omega,hts'.mono hG3,rfl,htx,hown14⟩⟩
  ·have h5:ht ((5:Int):Rat)≤4:=by decide +kernel
   have hdv:=zg3 (zjl by') ((5:Int):Rat);refine uR ?_;refine vA (zrv by' hby) ?_;rintro r3 G3' hr hG3';obtain⟨za1,zl1,zc1,za2,zl2,zc2,rfl,_⟩:=id hr;refine uR ?_;refine EVL.call rfl rfl rfl rfl rfl (zaJ 5 oM oM) ?_;rintro r4 G4' hr4 hG4';obtain⟨ya1,yl1,yc1,ya2,yl2,yc2,rfl,_⟩:=id hr4;refine uR ?_;refine EVL.call rfl rfl rfl rfl rfl (zdF (hr.mono hG4') hr4 (zaA hht oM) (zaA h5 oM) (by decide +kernel)) ?_;rintro r5 G3 hr5 hG35;have hG3:=hG3'.trans (hG4'.trans hG35);obtain⟨wa1,wl1,wc1,wa2,wl2,wc2,rfl,_⟩:=id hr5;refine uR ?_;exact⟨⟨b.loss,b.W,b4,a7,l7,c7,a8,l8,c8,b1,a1,l1,c1,a2,l2,c2,_,_,_,_,_,_,_,(b.mid y),b.rate,(zjl by' / ((5:Int):Rat)),ts,tcs,ow14⟩,trivial,sB,⟨rfl,trivial⟩,trivial,qG _,hG3,⟨hbs.mono hG3,hrt.mono hG3,hr5,⟨by dsimp only;omega,by dsimp only;omega,by dsimp only;omega⟩,by dsimp only;omega,hts'.mono hG3,rfl,htx,hown14⟩⟩
  ·have hp3:=zbo by' 24 hby oM oM
   obtain⟨z,hz⟩:∃z:Nat,by' % 24=(z:Int):=⟨(by' % 24).toNat,by omega⟩
   rw[hz]at hp3
   repeat (first|refine RUN ?_|refine CV (hp3) ?_|refine CE (hp3) ?_)
   exact⟨⟨b.loss,z,b4,a7,l7,c7,a8,l8,c8,b1,a1,l1,c1,a2,l2,c2,b2,a3,l3,c3,a4,l4,c4,(b.mid y),b.rate,b.tilt,ts,tcs,ow14⟩,trivial,sB,⟨rfl,trivial⟩,trivial,qG _,Hp.Le.refl _,⟨hbs,hrt,hti,⟨by dsimp only;omega,by dsimp only;omega,by dsimp only;omega⟩,by dsimp only;omega,hts',rfl,htx,hown14⟩⟩
  ·by_cases h0:ts.length=0
   ·try refine uR ?_
    rw[qC (show ¬(ts.length:Int)>0 by omega)];refine uR ?_;exact⟨⟨b.loss,b.W,b4,a7,l7,c7,a8,l8,c8,b1,a1,l1,c1,a2,l2,c2,b2,a3,l3,c3,a4,l4,c4,(b.mid y),b.rate,b.tilt,ts,tcs,ow14⟩,trivial,sB,⟨rfl,trivial⟩,trivial,qG _,Hp.Le.refl _,⟨hbs,hrt,hti,⟨by dsimp only;omega,by dsimp only;omega,by dsimp only;omega⟩,by dsimp only;omega,hts',rfl,htx,hown14⟩⟩
   have hpk:=zbo at' (ts.length:Int) hat oM oM;have hk0:=Int.emod_nonneg at' (show (ts.length:Int)≠0 by omega);have hk1:=Int.emod_lt_of_pos at' (show (0:Int)<(ts.length:Int) by omega);obtain⟨k,hk⟩:∃k:Nat,at' % (ts.length:Int)=(k:Int):=⟨(at' % (ts.length:Int)).toNat,by omega⟩;rw[hk]at hpk hk1;have hp3:=zbo by' 4 hby oM oM
   generalize by' % 4=z at *
   have hkt:k<ts.length:=oM;have htl:tcs.length=ts.length:=hts'.1;obtain⟨t,htk⟩:=gE hkt;have hxt:=htx t (qF htk);obtain⟨A,c,B,rfl,rfl⟩:=zh4 (l:=tcs) (k:=k) oM;have hc:=hts'.2 A.length c t (by rw[qL (qH _),Nat.sub_self];rfl) htk;have hAl:=RTs.flatA hts';obtain⟨na,nc,css,rfl,hns,hnl⟩:=hc;obtain⟨g,cap,sp,e,rfl,hback⟩:=zaF.midS (show 0<4 by omega) hown14 rfl;cases e;refine uR ?_;rw[qD (show (ts.length:Int)>0 by omega)]
   repeat (first|refine RUN ?_|refine CV (hpk) ?_|refine CV (hp3) ?_|refine CE (hpk) ?_|refine CE (hp3) ?_)
   refine EVL.idxB tO rfl rfl rfl rfl rfl rfl rfl rfl rfl (A.length) (A.length*4) (rfl) (hkt) (rfl) ?_;refine EVL.fldB tO rfl rfl rfl rfl rfl rfl rfl ?_;refine EVL.storeOwn tO rfl rfl rfl rfl rfl rfl ([]) ([]) rfl rfl rfl rfl ((zc5 (f:=0) hAl rfl (by show 0+1≤4;omega))) (zc6 (f:=0) hAl rfl rfl (by show 0+1≤4;omega) rfl) ?_;refine uR ?_;exact⟨⟨b.loss,b.W,b4,a7,l7,c7,a8,l8,c8,b1,a1,l1,c1,a2,l2,c2,b2,a3,l3,c3,a4,l4,c4,(b.mid y),b.rate,b.tilt,(ts.set A.length ⟨z,t.cl,t.w,t.ns⟩),(A++[.int .i64 z,.int .i64 t.cl,.int .i64 t.w,.slice na t.ns.length nc]::B),[(g,_,_)]⟩,trivial,sB,⟨rfl,trivial⟩,trivial,rfl,Hp.Le.refl _,⟨hbs,hrt,hti,⟨by dsimp only;omega,by dsimp only;omega,by dsimp only;omega⟩,by dsimp only;omega,znu hts' ⟨na,nc,css,rfl,hns,hnl⟩,List.length_set ..,fun u hu=>(List.mem_or_eq_of_mem_set hu).elim (htx u) fun e=>e ▸ ⟨hxt.cl,hxt.wide,hxt.w20,hxt.ok,hxt.len,hxt.small⟩,hback _ rfl⟩⟩
  ·by_cases h0:ts.length=0
   ·try refine uR ?_
    rw[qC (show ¬(ts.length:Int)>0 by omega)];refine uR ?_;exact⟨⟨b.loss,b.W,b4,a7,l7,c7,a8,l8,c8,b1,a1,l1,c1,a2,l2,c2,b2,a3,l3,c3,a4,l4,c4,(b.mid y),b.rate,b.tilt,ts,tcs,ow14⟩,trivial,sB,⟨rfl,trivial⟩,trivial,qG _,Hp.Le.refl _,⟨hbs,hrt,hti,⟨by dsimp only;omega,by dsimp only;omega,by dsimp only;omega⟩,by dsimp only;omega,hts',rfl,htx,hown14⟩⟩
   have hpk:=zbo at' (ts.length:Int) hat oM oM;have hk0:=Int.emod_nonneg at' (show (ts.length:Int)≠0 by omega);have hk1:=Int.emod_lt_of_pos at' (show (0:Int)<(ts.length:Int) by omega);obtain⟨k,hk⟩:∃k:Nat,at' % (ts.length:Int)=(k:Int):=⟨(at' % (ts.length:Int)).toNat,by omega⟩;rw[hk]at hpk hk1;have hkt:k<ts.length:=oM;have htl:tcs.length=ts.length:=hts'.1;obtain⟨t,htk⟩:=gE hkt;have hxt:=htx t (qF htk);obtain⟨A,c,B,rfl,rfl⟩:=zh4 (l:=tcs) (k:=k) oM;have hc:=hts'.2 A.length c t (by rw[qL (qH _),Nat.sub_self];rfl) htk;have hAl:=RTs.flatA hts';obtain⟨na,nc,css,rfl,hns,hnl⟩:=hc;obtain⟨g,cap,sp,e,rfl,hback⟩:=zaF.midS (show 0<4 by omega) hown14 rfl;cases e;refine uR ?_;rw[qD (show (ts.length:Int)>0 by omega)]
   repeat (first|refine RUN ?_|refine CV (hpk) ?_|refine CE (hpk) ?_)
   refine EVL.idxB tO rfl rfl rfl rfl rfl rfl rfl rfl rfl (A.length) (A.length*4) (rfl) (hkt) (rfl) ?_;refine EVL.fldB tO rfl rfl rfl rfl rfl rfl rfl ?_;refine EVL.storeOwn tO rfl rfl rfl rfl rfl rfl ([]) ([]) rfl rfl rfl rfl ((zc5 (f:=3) hAl rfl (by show 3+1≤4;omega))) (zc6 (f:=3) hAl rfl rfl (by show 3+1≤4;omega) rfl) ?_;refine uR ?_;exact⟨⟨b.loss,b.W,b4,a7,l7,c7,a8,l8,c8,b1,a1,l1,c1,a2,l2,c2,b2,a3,l3,c3,a4,l4,c4,(b.mid y),b.rate,b.tilt,(ts.set A.length ⟨t.kd,t.cl,t.w,[]⟩),(A++[.int .i64 t.kd,.int .i64 t.cl,.int .i64 t.w,.slice none 0 0]::B),[(g,_,_)]⟩,trivial,sB,⟨rfl,trivial⟩,trivial,rfl,Hp.Le.refl _,⟨hbs,hrt,hti,⟨by dsimp only;omega,by dsimp only;omega,by dsimp only;omega⟩,by dsimp only;omega,znu hts' ⟨none,0,[],rfl,⟨rfl,fun j c t e1 e2=>by cases e1⟩,⟨rfl,.inl ⟨rfl,none,0,rfl⟩⟩⟩,List.length_set ..,fun u hu=>(List.mem_or_eq_of_mem_set hu).elim (htx u) fun e=>e ▸ ⟨hxt.cl,hxt.wide,hxt.w20,.inl rfl,qQ _,fun n hn=>by cases hn⟩,hback _ rfl⟩⟩
  ·try refine uR ?_
   refine vA (zrv by' hby) ?_;rintro r3 G3 hr hG3;obtain⟨za1,zl1,zc1,za2,zl2,zc2,rfl,_⟩:=id hr;refine uR ?_;exact⟨⟨b.loss,b.W,_,_,_,_,_,_,_,b1,a1,l1,c1,a2,l2,c2,b2,a3,l3,c3,a4,l4,c4,(zjl by'),b.rate,b.tilt,ts,tcs,ow14⟩,trivial,sB,⟨rfl,trivial⟩,trivial,qG _,hG3,⟨hr,hrt.mono hG3,hti.mono hG3,⟨by dsimp only;omega,by dsimp only;omega,by dsimp only;omega⟩,by dsimp only;omega,hts'.mono hG3,rfl,htx,hown14⟩⟩
  ·try refine uR ?_
   exact⟨⟨b.loss,b.W,b4,a7,l7,c7,a8,l8,c8,b1,a1,l1,c1,a2,l2,c2,b2,a3,l3,c3,a4,l4,c4,(b.mid y),b.rate,b.tilt,ts,tcs,ow14⟩,trivial,sB,⟨rfl,trivial⟩,trivial,qG _,Hp.Le.refl _,⟨hbs,hrt,hti,⟨by dsimp only;omega,by dsimp only;omega,by dsimp only;omega⟩,by dsimp only;omega,hts',rfl,htx,hown14⟩⟩
  ·try refine uR ?_
   exact⟨⟨b.loss,b.W,b4,a7,l7,c7,a8,l8,c8,b1,a1,l1,c1,a2,l2,c2,b2,a3,l3,c3,a4,l4,c4,(b.mid y),b.rate,b.tilt,ts,tcs,ow14⟩,trivial,sB,⟨rfl,trivial⟩,trivial,qG _,Hp.Le.refl _,⟨hbs,hrt,hti,⟨by dsimp only;omega,by dsimp only;omega,by dsimp only;omega⟩,by dsimp only;omega,hts',rfl,htx,hown14⟩⟩
 rintro⟨l,w,d1,p1,m1,n1,p2,m2,n2,d2,p3,m3,n3,p4,m4,n4,d3,p5,m5,n5,p6,m6,n6,q1,q2,q3,ts',tcs2,ow2⟩ G3 ⟨hG3,qb,qr,qt,qs,qw,qtr,qlen,qx,qown⟩;dsimp only at qb qr qt qs qw qtr qlen qx qown;(first|refine EVL.publishL [] ow2 [] ((qG _).symm) qown fun G4 hG4 hs4=>?_|refine EV.publishL [] ow2 [] ((qG _).symm) qown fun G4 hG4 hs4=>?_);have hRT:RTL G4 (.slice a14 ts'.length c14) ts':=⟨tcs2,qtr.mono hG4,by rw[qlen];exact hs4⟩;rw[←qlen];have hl1:ts'.length≤1000000:=oM;have u1:rq q1:=zaA qs.1 oM;have u2:rq q2:=zaA qs.2.1 oM;have u3:rq q3:=zaA qs.2.2 oM;refine uR ?_;refine vA (zlw (qb.mono hG4) (qr.mono hG4) (qt.mono hG4) hRT qx u1 u2 u3 hl1) ?_;rintro _ G5 ⟨pa,pc,rfl,hP⟩ hG5;have hck:=zlP (base:=q1) (loss:=l) (w:=(w:Int)) (b1:=d1) (a1:=p1) (l1:=m1) (c1:=n1) (a2:=p2) (l2:=m2) (c2:=n2) ((qr.mono hG4).mono hG5) ((qt.mono hG4).mono hG5) (hRT.mono hG5) qx u2 u3 hl1
 repeat (first|refine RUN ?_|refine CV (hck) ?_|refine CE (hck) ?_)
 refine EVL.call rfl rfl rfl rfl rfl (znD (IL.nil _ none 0) (fun z h=>by cases h) w oM) ?_;intro r6 G6 hr6 hG6;have hzl:=zeu [] w;have hz5:=znA (l:=[]) w;generalize zi6 [] w=x at *
 obtain⟨xa6,xc6,rfl⟩:=hr6.val;refine uR ?_;refine EVL.call rfl rfl rfl rfl rfl (zhJ hr6 oM (fun q hq=>zaA (hz5 q hq) oM)) ?_;intro r7 G7 hu hG7;obtain⟨xa7,xc7,rfl⟩:=SlC.val hu;have hP7:=hP.mono (hG6.trans hG7);have hx100:∀q,q∈x→ht q≤100:=fun q k=>qI (hz5 q k) oM;have hxw:(x.length:Int)=(w:Int):=by rw[hzl]
 refine uR ?_;refine EVL.call rfl rfl rfl rfl rfl (zlF (loss:=l) (w:=(w:Int)) (tilt:=q3) hP7 qx hu hx100 (qI qs.1 oM) (qI qs.2.1 oM) (qI qs.2.2 oM) hl1) ?_;rintro _ G8 ⟨q,rfl,_,_⟩ hG8;refine uR ?_;refine EVL.call rfl rfl rfl rfl rfl (zlG (loss:=l) (w:=(w:Int)) (tilt:=q3) (hP7.mono hG8) qx (SlC.mono hu hG8) hx100 (qI qs.1 oM) (qI qs.2.1 oM) (qI qs.2.2 oM) hl1) ?_;rintro _ G9 ⟨v,rfl,hv1,hv2⟩ hG9;have hP9:=hP7.mono (hG8.trans hG9);have hckp:=zcG (loss:=l) (w:=(w:Int)) (base:=q1) (hP9) qx (zaS qs.2.1 oM) (zaS qs.2.2 oM) hl1;have hfew:=zoM (loss:=l) (w:=(w:Int)) (base:=q1) (hP9) qx (zaS qs.2.1 oM) (zaS qs.2.2 oM) hl1;by_cases hc:zaz l (w:Int) q2 q3 ts'=0
 ·have hv:=hv1 hc hxw;obtain⟨sa,sc,rfl⟩:=SlC.val hv;have e1:(if zaz l (w:Int) q2 q3 ts'≠0 then 1 else if (x.length:Int)≠(w:Int) then 5 else 0:Int)=0:=by rw[if_neg (fun k=>k hc),if_neg (fun k=>k hxw)]
  have e2:(if zaz l (w:Int) q2 q3 ts'≠0 then 1 else 0:Int)=0:=if_neg (fun k=>k hc);rw[e2]at hfew;rw[e1,hc,zgp];rw[hc]at hckp;refine uR ?_;refine vA (hfew) ?_;rintro _ G10 ⟨l',w',b',r',t',a',c',rfl⟩ hG10;have hckp2:=zcG (loss:=l) (w:=(w:Int)) (base:=q1) (hP9.mono hG10) qx (zaS qs.2.1 oM) (zaS qs.2.2 oM) hl1;rw[hc]at hckp2
  repeat (first|refine RUN ?_|refine CV (zdB) ?_|refine CV (hckp2) ?_|refine CE (zdB) ?_|refine CE (hckp2) ?_)
  rw[zab ts'.length oM,beq_self_eq_true]
 ·have hv:=hv2 (fun k=>hc k.1);subst hv;have e1:(if zaz l (w:Int) q2 q3 ts'≠0 then 1 else if (x.length:Int)≠(w:Int) then 5 else 0:Int)=1:=if_pos hc;have e2:(if zaz l (w:Int) q2 q3 ts'≠0 then 1 else 0:Int)=1:=if_pos hc;rw[e2]at hfew;rw[e1];refine uR ?_;refine vA (hfew) ?_;rintro _ G10 ⟨l',w',b',r',t',a',c',rfl⟩ hG10;have hckp2:=zcG (loss:=l) (w:=(w:Int)) (base:=q1) (hP9.mono hG10) qx (zaS qs.2.1 oM) (zaS qs.2.2 oM) hl1
  repeat (first|refine RUN ?_|refine CV (zdB) ?_|refine CV (hckp2) ?_|refine CE (zdB) ?_|refine CE (hckp2) ?_)
  rw[pS];refine uR ?_;rw[show (zaz l (w:Int) q2 q3 ts' != 0)=true from bne_iff_ne.2 hc];refine uR ?_;rfl
end
section
open Go Go.RowKit
theorem zg4 {P:Program} {W:World} {n:String} {d:DataW Unit}:∀{l:List (String × DataW Unit)} {ps:List MemPlace},DataW.LaidVars P W l ps→(n,d)∈l →
  ∃p,DataW.LaidVars P W [(n,d)] p
 | [],_,_,h=>by cases h
 | (m,x)::r,ps,h,hm=>by
  obtain⟨g,t,cs,fuel,p,q,h1,h2,h3,h4,h5,h6⟩:=h;rcases List.mem_cons.1 hm with hm | hm
  ·cases hm;exact⟨_,g,t,cs,fuel,p,[],h1,h2,h3,h4,rfl,rfl⟩
  ·exact zg4 h5 hm
theorem zqc {P:Program} {l:List (String × DataW Unit)} {W:World} {α:Type} (f:α→Int) (h:laidMet P l W) {n:String} {zs:List α} {kd:IntKind} {g:Nat} {T e:TypeId} (hmem:(n,.agg (zs.map fun z=>.lit (.int kd (f z))))∈l) (hg:P.globalNamed n=some g) (ht:(P.globals[g]?).map (·.type)=some T)
  (hT:P.underlying T=some (.array zs.length e)) (he:P.underlying e=some (.int kd)) (hc:P.cellsOf e=1) (hcT:P.cellsOf T=zs.length) :
  ∃U fz,W.heap[g]?=some (.cells (zs.map fun z=>Value.int kd (f z)).toArray U fz):=by
 obtain⟨ps,hl,_⟩:=h;obtain⟨p0,g',t,cs,fuel,p,q,hg',ht',hv,hd,_,_⟩:=zg4 hl hmem;obtain rfl:=Option.some.inj (hg.symm.trans hg');obtain rfl:=Option.some.inj (ht.symm.trans ht');obtain⟨xs,m,_,ex,hcl,hlen,hel⟩:=DataW.trod_array hT hd
 have hb:∃U fz,W.heap[g]?=some (.cells cs U fz):=by
  simp only[World.var?,hg,Option.bind_some]at hv;split at hv
  ·rename_i c U fz hc';cases hv;exact⟨U,fz,hc'⟩
  ·cases hv
 obtain⟨U,fz,hb⟩:=hb;refine⟨U,fz,?_⟩;rw[hb];congr 2;apply Array.ext';rw[hcT]at hcl;have e3:(xs.map (·.1))=zs.map fun n=>.lit (.int kd (f n)):=(DataW.agg.inj (Prod.mk.inj ex).1).symm;apply List.ext_getElem?;intro r;rcases Nat.lt_or_ge r zs.length with hr | hr
 ·have hE:=hel r hr;rw[hc,Nat.mul_one,qA (by omega)]at hE;obtain⟨z,e1,e2,_⟩:=DataW.trod_int he hE;have e4:(xs.map (·.1))[r]?=(zs.map fun n=>(DataW.lit (.int kd (f n)):DataW Unit))[r]?:=by rw[e3]
  rw[qK,qK,qA (by omega:r<xs.length),qA hr,e2]at e4;simp only[Option.map_some,Option.some.injEq,DataW.lit.injEq,Lit.int.injEq,true_and]at e4;have h0:((cs.toList.drop r).take 1)[0]?=some (.int kd z):=by rw[e1];rfl
  simp only[pR,List.getElem?_drop,qY]at h0;rw[if_pos (by omega)]at h0;rw[h0,e4];simp[hr]
 ·rw[qf oM,qf (by simpa using hr)]
theorem fits_gH {l:List (String × DataW Unit)} {W:World} (h:laidMet Tryz.prog l W) (hmem:("math/bits.deBruijn64tab", .agg (Lib.deBruijn64tab.map fun (z:Nat)=>.lit (.int .u8 z)))∈l):Fits gH W:=fun b c hb=>by
 unfold gH at hb;split at hb
 ·rename_i hbb;cases hb;obtain rfl:=pK hbb;exact zqc (fun z:Nat=>(z:Int)) h hmem kR kR Tryz.underlying332 Tryz.underlying5 kR kR
 ·cases hb
end
end Go.Proofs.YtnejmfoednmkhaaGreatDoor
