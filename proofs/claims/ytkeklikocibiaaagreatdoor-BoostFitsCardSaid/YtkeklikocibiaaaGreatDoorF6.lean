/- Texts of ours in one: Ot1, Ot2, Ot3, Bp2, ThF, LaidE. -/
import Derived.Test.YtkeklikocibiaaaGreatDoorF0
import Derived.Test.YtkeklikocibiaaaGreatDoorF1
import Derived.Test.YtkeklikocibiaaaGreatDoorF4
import Derived.Test.YtkeklikocibiaaaGreatDoorF5
import Derived.ProofKit
import Derived.OpenShut
import Derived.LaidMore
import Derived.Lay
import Derived.Stop.Joined
set_option linter.unusedVariables false
set_option linter.unusedSimpArgs false
set_option maxHeartbeats 64000000
namespace Go.Proofs.YtkeklikocibiaaaGreatDoor
section
open Go.RowKit _root_.Go.Proofs.Tryz
theorem gz.oneB {H:Hp} {cs:List Value} {n:Nd} (h:gz H cs n):Go.Proofs.YtkeklikocibiaaaGreatDoor.oneB cs=true:=by
 obtain⟨b1,a1,l1,c1,a2,l2,c2,b3,a3,l3,c3,a4,l4,c4,b5,a5,l5,c5,a6,l6,c6,a7,c7,rfl,_⟩:=h.cells;rfl
set_option maxRecDepth 100000 in
theorem zn0 {H:Hp} {cs:List Value} {kd cl w:Int} {ns:List Nd} (h:nZ H cs kd cl w ns) (hs:∀n,n∈ns->ub n) (hl:ns.length<=1000000) :
  PC prog 105 #[.agg cs.toArray] H fun r H'=>∃aq,r=.agg aq.toArray/\nY H' aq kd cl w ns:=by
 obtain⟨a,c,css,rfl,bX,bA⟩:=h;refine BD func105 ntmps105 ?_;refine uR ?_;refine EV.loopK (ι:=Nat × Value × List (List Value) × Ows) [1,2,3] [1,2] (fun q=>[(4,.v (.int .i64 (q.1:Int)))]) (fun q=>[(3,115,[.int .i64 kd,.int .i64 cl,.int .i64 w,q.2.1])]) (fun q=>q.2.2.2) (fun q G=>q.1<=ns.length/\jR G q.2.2.1 (ns.take q.1)/\aF 123 15 q.2.1 q.1 q.2.2.1.flatten q.2.2.2) (fun q=>ns.length-q.1) ((0,.slice none 0 0,[],[])) Z Z ⟨Z,trivial⟩ ⟨Z,trivial⟩ rfl (fun _=>rfl) (⟨qQ _,⟨rfl,fun j c n e1 e2=>by cases e1⟩,aF.nil _ _⟩) ?_;rintro⟨i,u,ps,ow⟩ G1 aj ⟨hi,gC,ah⟩;dsimp only at hi gC ah;obtain⟨wa,wc,rfl⟩:=ah.val;refine uR ?_;refine EV.cond Z (fun af=>?_) (fun af=>?_)
 ·simp only[nN]at af;obtain⟨n,uL⟩:=gE af;obtain⟨q1,q2,q3,q4⟩:=hs n (qF uL);obtain⟨cc,hcut,hnd⟩:=(bX.mono aj).get uL;obtain⟨a7,c7,k4,rfl⟩:=hnd;refine uR ?_;refine EVL.idxM tO Z Z Z Z Z Z Z Z Z ((bA.mono aj)) (i) (rfl) (af) (hcut) ?_;refine uR ?_;by_cases e:n.counts.length=0
  ·have fa:n.counts=[]:=pJ.1 e;rw[e];apply EV.drawn 27 kR kR;intro xv yw;(repeat refine' DD ?_);refine' vB (cO func55) (fun G hG hd=>tW n.at' q1) (fun _ _ _ h k=>RQ.mono h k) ?_;rotate_left;(repeat refine' DD ?_);refine' vB (cO func55) (fun G hG hd=>tW n.cost q2) (fun _ _ _ h k=>RQ.mono h k) ?_;rotate_left;(repeat refine' DD ?_);refine' vB (cO func55) (fun G hG hd=>tW n.value q3) (fun _ _ _ h k=>RQ.mono h k) ?_;rotate_left;(repeat refine' DD ?_);(refine' DJ.lit0 tO Z Z Z Z Z Z Z ?_;rotate_left);(repeat refine' DD ?_);refine' DJ.append0E (u0:=xv 21) tO Z Z Z Z Z Z Z Z Z (a7) (c7) rfl (fun G hd=>hd.head kR) ?_;rotate_left
   (refine' DJ.plainE tO (fun v G=>∃cs,v=.agg cs.toArray/\gz G cs n) (fun v G G' ⟨cs,e,h⟩ k=>⟨cs,e,h.mono k⟩) Z Z Z (fun G hd=>(by
    have r1:RQ G (xv 14) n.at':=hd.tail.tail.tail.tail.head kR;have r2:RQ G (xv 17) n.cost:=hd.tail.tail.tail.head kR;have r3:RQ G (xv 20) n.value:=hd.tail.tail.head kR;obtain⟨u1,u2,u3,u4,u5,u6,e1,_⟩:=id r1;obtain⟨w1,w2,w3,w4,w5,w6,e2,_⟩:=id r2;obtain⟨z1,z2,z3,z4,z5,z6,e3,_⟩:=id r3;obtain⟨g8,e8⟩:∃g,xv 24=.slice (some ⟨g,0,none⟩) 0 0:=hd.head kR;have hA:IL G (.slice (some ⟨g8,0,none⟩) 0 0) n.counts:=by rw[fa];exact IL.nil _ _ _
    rw[e1]at r1;rw[e2]at r2;rw[e3]at r3;rw[e1,e2,e3,e8];exact⟨_,rfl,_,rfl,_,_,_,_,r1,r2,r3,hA,rfl⟩)) ?_;rotate_left)
   (refine' DJ.litD1 (Φ:=fun v G=>∃cs,SlC G v 1 15 cs/\gz G cs n) (fun v G G' ⟨cs,e,h⟩ k=>⟨cs,e.mono k,h.mono k⟩) tO Z Z Z Z Z Z Z Z Z Z Z (fun G hd=>by obtain⟨cs,e,h⟩:=hd.head kR;rw[e];exact h.len) (fun G G' v hd hG h=>(by
    obtain⟨cs,e,hp⟩:=hd.head kR;rw[e,QP]at h;exact⟨cs,h,hp.mono hG⟩)) ?_;rotate_left)
   (refine DJ.nil (fun G2 ai fN=>?_);(case hS|hS2=>rfl));obtain⟨uX,cr,gi⟩:=fN.1;refine EVL.append tO Z Z Z Z Z Z Z Z Z Z Z Z [] ow [] (qG _).symm ah (iJ.ro cr (Nat.succ_pos 0)) (gz.oneB gi) oM ?_;intro v1 bS aE;obtain⟨va,vc,rfl⟩:=aE.val;refine uR ?_;refine⟨(i+1,.slice va (i+1) vc,ps++[uX],bS),⟨by dsimp only;rw[aO i (by omega)];rfl,trivial⟩,sB,⟨Z,trivial⟩,sB,qG _,⟨af,by dsimp only;rw[dZ uL];exact Cg (gC.mono ai) gi,by dsimp only;rw[List.flatten_append,KA];exact aE⟩,ai,by dsimp only;omega⟩
  ·have dE:SlC G1 (.slice a7 n.counts.length c7) n.counts.length 1 (n.counts.map iv):=k4;apply EV.drawn 27 kR kR;intro xv yw;(repeat refine' DD ?_);refine' vB (cO func55) (fun G hG hd=>tW n.at' q1) (fun _ _ _ h k=>RQ.mono h k) ?_;rotate_left;(repeat refine' DD ?_);refine' vB (cO func55) (fun G hG hd=>tW n.cost q2) (fun _ _ _ h k=>RQ.mono h k) ?_;rotate_left;(repeat refine' DD ?_);refine' vB (cO func55) (fun G hG hd=>tW n.value q3) (fun _ _ _ h k=>RQ.mono h k) ?_;rotate_left;(repeat refine' DD ?_);(refine' DJ.lit0 tO Z Z Z Z Z Z Z ?_;rotate_left);(repeat refine' DD ?_);refine' DJ.appendE (u0:=xv 21) tO Z Z Z Z Z Z Z Z Z Z (fun G hd=>hd.head kR) (dE) (Nat.pos_of_ne_zero e) oM ?_;rotate_left
   (refine' DJ.plainE tO (fun v G=>∃cs,v=.agg cs.toArray/\gz G cs n) (fun v G G' ⟨cs,e,h⟩ k=>⟨cs,e,h.mono k⟩) Z Z Z (fun G hd=>(by
    have r1:RQ G (xv 14) n.at':=hd.tail.tail.tail.tail.head kR;have r2:RQ G (xv 17) n.cost:=hd.tail.tail.tail.head kR;have r3:RQ G (xv 20) n.value:=hd.tail.tail.head kR;obtain⟨u1,u2,u3,u4,u5,u6,e1,_⟩:=id r1;obtain⟨w1,w2,w3,w4,w5,w6,e2,_⟩:=id r2;obtain⟨z1,z2,z3,z4,z5,z6,e3,_⟩:=id r3;have hA:SlC G (xv 24) n.counts.length 1 (n.counts.map iv):=hd.head kR;obtain⟨a8,c8,e8⟩:=SlC.val hA;rw[e8]at hA;rw[e1]at r1;rw[e2]at r2;rw[e3]at r3;rw[e1,e2,e3,e8];exact⟨_,rfl,_,rfl,_,_,_,_,r1,r2,r3,hA,rfl⟩)) ?_;rotate_left)
   (refine' DJ.litD1 (Φ:=fun v G=>∃cs,SlC G v 1 15 cs/\gz G cs n) (fun v G G' ⟨cs,e,h⟩ k=>⟨cs,e.mono k,h.mono k⟩) tO Z Z Z Z Z Z Z Z Z Z Z (fun G hd=>by obtain⟨cs,e,h⟩:=hd.head kR;rw[e];exact h.len) (fun G G' v hd hG h=>(by
    obtain⟨cs,e,hp⟩:=hd.head kR;rw[e,QP]at h;exact⟨cs,h,hp.mono hG⟩)) ?_;rotate_left)
   (refine DJ.nil (fun G2 ai fN=>?_);(case hS|hS2=>rfl));obtain⟨uX,cr,gi⟩:=fN.1;refine EVL.append tO Z Z Z Z Z Z Z Z Z Z Z Z [] ow [] (qG _).symm ah (iJ.ro cr (Nat.succ_pos 0)) (gz.oneB gi) oM ?_;intro v1 bS aE;obtain⟨va,vc,rfl⟩:=aE.val;refine uR ?_;refine⟨(i+1,.slice va (i+1) vc,ps++[uX],bS),⟨by dsimp only;rw[aO i (by omega)];rfl,trivial⟩,sB,⟨Z,trivial⟩,sB,qG _,⟨af,by dsimp only;rw[dZ uL];exact Cg (gC.mono ai) gi,by dsimp only;rw[List.flatten_append,KA];exact aE⟩,ai,by dsimp only;omega⟩
 ·simp only[nN]at af;obtain rfl:i=ns.length:=oM;rw[qa]at gC;(first|refine EVL.publishL [] ow [] ((qG _).symm) ah fun G2 ai cr=>?_|refine EV.publishL [] ow [] ((qG _).symm) ah fun G2 ai cr=>?_);refine uR ?_;exact⟨_,rfl,_,_,_,rfl,gC.mono ai,cr⟩
theorem zlO {H:Hp} {v:Value} {ts:List Tr} (h:PTL H v ts) (hs:∀t,t∈ts->t.ns.length<=1000000/\∀n,n∈t.ns->ub n) (hl:ts.length<=1000000):PC prog 56 #[v] H fun r H'=>RTL H' r ts:=by
 obtain⟨tcs,bq,bA⟩:=h;obtain⟨a,c,rfl⟩:=SlC.val bA;refine BD func56 ntmps56 ?_;refine uR ?_;refine EV.loopK (ι:=Nat × Value × List (List Value) × Ows) [0] [] (fun q=>[(3,.v q.2.1),(4,.v (.int .i64 (q.1:Int)))]) (fun _=>[]) (fun q=>q.2.2.2) (fun q G=>q.1<=ts.length/\RTs G q.2.2.1 (ts.take q.1)/\aF 115 4 q.2.1 q.1 q.2.2.1.flatten q.2.2.2) (fun q=>ts.length-q.1) ((0,.slice none 0 0,[],[])) Z Z ⟨Z,Z,trivial⟩ trivial rfl (fun _=>rfl) (⟨qQ _,⟨rfl,fun j c n e1 e2=>by cases e1⟩,aF.nil _ _⟩) ?_;rintro⟨i,u,ps,ow⟩ G1 aj ⟨hi,gC,ah⟩;dsimp only at hi gC ah;obtain⟨wa,wc,rfl⟩:=ah.val;refine uR ?_;refine EV.cond Z (fun af=>?_) (fun af=>?_)
 ·simp only[nN]at af;obtain⟨t,kB⟩:=gE af;obtain⟨k1,k2⟩:=hs t (qF kB);obtain⟨cc,hcut,yQ⟩:=(PTs.mono bq aj).get kB;obtain⟨a3,c3,css,rfl,_,_⟩:=id yQ;refine uR ?_;refine EVL.idxM tO Z Z Z Z Z Z Z Z Z ((bA.mono aj)) (i) (rfl) (af) (hcut) ?_;refine uR ?_;refine vA (zn0 yQ k2 k1) ?_;rintro _ G2 ⟨uX,rfl,gi⟩ ai;obtain⟨a4,c4,BB,rfl,_,_⟩:=id gi;refine uR ?_;refine EVL.app1 tO Z Z Z Z Z Z Z Z Z Z Z Z Z Z Z Z Z Z Z (fun _=>rfl) (ow) ([]) ((qG _).symm) (ah) oM fun _=>?_;intro v' au ao;refine uR ?_;refine⟨(i+1,v',ps++[_],au),⟨rfl,by dsimp only;rw[aO i (by omega)];rfl,trivial⟩,sB,trivial,trivial,qG _,⟨af,by dsimp only;rw[dZ kB];exact Cg (RTs.mono gC ai) gi,by dsimp only;rw[List.flatten_append,KA];exact ao⟩,ai,by dsimp only;omega⟩
 ·simp only[nN]at af;obtain rfl:i=ts.length:=oM;rw[qa]at gC;(first|refine EVL.publishL [] ow [] ((qG _).symm) ah fun G2 ai cr=>?_|refine EV.publishL [] ow [] ((qG _).symm) ah fun G2 ai cr=>?_);refine uR ?_;exact⟨ps,RTs.mono gC ai,cr⟩
theorem zqh {H:Hp} {u v:Value} {l:List Int} (hu:IL H u l) (hv:IL H v l) (hl:l.length<=1000000):PC prog 149 #[u,v] H fun r _=>r=.bool true:=by
 obtain⟨a,c,rfl⟩:=SlC.val hu;obtain⟨a2,c2,rfl⟩:=SlC.val hv;refine BD func149 ntmps149 ?_;refine uR ?_;rw[pP];refine uR ?_;refine EV.loopK (ι:=Nat) [0,1] [] (fun i=>[(5,.v (.int .i64 (i:Int)))]) (fun _=>[]) (fun _=>[]) (fun i _=>i<=l.length) (fun i=>l.length-i) (0) Z Z ⟨Z,trivial⟩ trivial rfl (fun _=>rfl) (qQ _) ?_;rintro i G1 aj hi;refine uR ?_;refine EV.cond Z (fun af=>?_) (fun af=>?_)
 ·simp only[nN]at af;obtain⟨z,hz⟩:=gE af;refine uR ?_;apply EV.drawn 9 kR kR;intro xv yw;(repeat refine' DD ?_);refine' vJ ((hu.mono aj)) (i) (rfl) (af) ((by rw[qK,hz];rfl)) ?_;rotate_left;(repeat refine' DD ?_);refine' vJ ((hv.mono aj)) (i) (rfl) (af) ((by rw[qK,hz];rfl)) ?_;rotate_left;(repeat refine' DD ?_);rw[pP];(repeat refine' DD ?_);(refine DJ.nil (fun G hG hF=>?_);(case hS|hS2=>rfl));refine uR ?_;refine⟨i+1,⟨by rw[aO i (by omega)];rfl,trivial⟩,sB,trivial,trivial,rfl,af,hG,by omega⟩
 ·simp only[nN]at af;refine uR ?_;rfl
theorem zqi {H:Hp} {cs ds:List Value} {n:Nd} (hu:gz H cs n) (hv:gz H ds n) (h:ub n):PC prog 101 #[.agg cs.toArray,.agg ds.toArray] H fun r _=>r=.bool true:=by
 obtain⟨h1,h2,h3,h4⟩:=h;obtain⟨b1,a1,l1,c1,a2,l2,c2,b3,a3,l3,c3,a4,l4,c4,b5,a5,l5,c5,a6,l6,c6,a7,c7,rfl,k1,k2,k3,k4⟩:=hu.cells;obtain⟨d1,e1,f1,g1,e2,f2,g2,d3,e3,f3,g3,e4,f4,g4,d5,e5,f5,g5,e6,f6,g6,e7,g7,rfl,m1,m2,m3,m4⟩:=hv.cells;have c1:=kz k1 m1 h1 h1;have c2:=kz k2 m2 h2 h2;have c3:=kz k3 m3 h3 h3;rw[Tj]at c1 c2 c3;have c4:=zqh k4 m4 h4;obtain⟨nc,nl,nr,nrs,ncl,nat',nco,nva,ncs⟩:=n;dsimp only at *
 refine BD func101 ntmps101 ?_;refine uR ?_;rw[beq_self_eq_true nc];refine uR ?_;rw[beq_self_eq_true nl];refine uR ?_;rw[beq_self_eq_true nr];refine uR ?_;rw[beq_self_eq_true nrs];refine uR ?_;rw[beq_self_eq_true ncl]
 repeat (first|refine RUN ?_|refine CV (c1) ?_|refine CV (c2) ?_|refine CV (c3) ?_|refine CV (c4) ?_|refine CE (c1) ?_|refine CE (c2) ?_|refine CE (c3) ?_|refine CE (c4) ?_)
 rfl
set_option maxRecDepth 100000 in
theorem zqj {H:Hp} {cs ds:List Value} {kd cl w:Int} {ns:List Nd} (hu:nY H cs kd cl w ns) (hv:nY H ds kd cl w ns) (hl:ns.length<=1000000) (h:∀n,n∈ns->ub n):PC prog 54 #[.agg cs.toArray,.agg ds.toArray] H fun r _=>r=.bool true:=by
 obtain⟨a,c,css,rfl,uM,kC⟩:=hu;obtain⟨a2,c2,css2,rfl,mj,cr⟩:=hv;refine BD func54 ntmps54 ?_;refine uR ?_;rw[pP];refine uR ?_;rw[pP];refine uR ?_;rw[pP];refine uR ?_;rw[pP];refine uR ?_;refine EV.loopK (ι:=Nat) [2,3] [2,3] (fun i=>[(5,.v (.int .i64 (i:Int)))]) (fun _=>[]) (fun _=>[]) (fun i _=>i<=ns.length) (fun i=>ns.length-i) (0) Z Z ⟨Z,trivial⟩ trivial rfl (fun _=>rfl) (qQ _) ?_;rintro i G1 aj hi;refine uR ?_;refine EV.cond Z (fun af=>?_) (fun af=>?_)
 ·simp only[nN]at af;obtain⟨n,uL⟩:=gE af;obtain⟨QA,eA,fT⟩:=(uM.mono aj).get uL;obtain⟨cc2,cM,ri⟩:=(mj.mono aj).get uL;have fg:=fun (G:Hp) (hG:G1.Le G)=>zqi (fT.mono hG) (ri.mono hG) (h n (qF uL));obtain⟨b1,a1,l1,c1,p2,l2,q2,b3,a3,l3,c3,a4,l4,c4,b5,a5,l5,c5,a6,l6,c6,a7,c7,rfl,_⟩:=fT.cells;obtain⟨d1,e1,f1,g1,e2,f2,g2,d3,e3,f3,g3,e4,f4,g4,d5,e5,f5,g5,e6,f6,g6,e7,g7,rfl,_⟩:=ri.cells;refine uR ?_;apply EV.drawn 12 kR kR;intro xv yw;(repeat refine' DD ?_);refine' DJ.idxM tO Z Z Z Z Z Z Z Z Z ((kC.mono aj)) (i) (rfl) (af) (eA) ?_;rotate_left;(repeat refine' DD ?_);refine' DJ.idxM tO Z Z Z Z Z Z Z Z Z ((cr.mono aj)) (i) (rfl) (af) (cM) ?_;rotate_left;(repeat refine' DD ?_);refine' vC (cO func101) (fun G hG hd=>fg G hG) ?_;rotate_left;(repeat refine' DD ?_);(refine DJ.nil (fun G hG hF=>?_);(case hS|hS2=>rfl));refine uR ?_;refine⟨i+1,⟨by rw[aO i (by omega)];rfl,trivial⟩,sB,trivial,sB,rfl,af,hG,by omega⟩
 ·simp only[nN]at af;refine uR ?_;rfl
theorem RTL.val {H:Hp} {v:Value} {ts:List Tr} (h:RTL H v ts):∃a c,v=.slice a ts.length c:=by
 obtain⟨_,_,hs⟩:=h;exact SlC.val hs
set_option maxRecDepth 100000 in
theorem zlN {H:Hp} {loss w:Int} {base rate tilt:Rat} {ta:Option Addr} {tc:Nat} {ts:List Tr} (ht:PTL H (.slice ta ts.length tc) ts) (hs:∀t,t∈ts->t.ns.length<=1000000/\∀n,n∈t.ns->ub n) (hl:ts.length<=1000000) (q1:rq base) (q2:rq rate) (q3:rq tilt) :
  PC prog 17 #[.agg (pD loss w base rate tilt (.slice ta ts.length tc)).toArray] H fun r G=>∃b4 a7 l7 c7 a8 l8 c8 b1 a1 l1 c1 a2 l2 c2 b2 a3 l3 c3 a4 l4 c4 ua uc,r=.agg (fA loss w (rc b4 a7 l7 c7 a8 l8 c8) (rc b1 a1 l1 c1 a2 l2 c2) (rc b2 a3 l3 c3 a4 l4 c4) (.slice ua ts.length uc)).toArray/\RQ G (.agg (rc b4 a7 l7 c7 a8 l8 c8).toArray) base/\RQ G (.agg (rc b1 a1 l1 c1 a2 l2 c2).toArray) rate/\RQ G (.agg (rc b2 a3 l3 c3 a4 l4 c4).toArray) tilt/\RTL G (.slice ua ts.length uc) ts:=by
 refine BD func17 ntmps17 ?_;refine uR ?_;apply EV.drawn 17 kR kR;intro xv yw;(repeat refine' DD ?_);refine' vB (cO func55) (fun G hG hd=>tW base q1) (fun _ _ _ h k=>RQ.mono h k) ?_;rotate_left;(repeat refine' DD ?_);refine' vB (cO func55) (fun G hG hd=>tW rate q2) (fun _ _ _ h k=>RQ.mono h k) ?_;rotate_left;(repeat refine' DD ?_);refine' vB (cO func55) (fun G hG hd=>tW tilt q3) (fun _ _ _ h k=>RQ.mono h k) ?_;rotate_left;(repeat refine' DD ?_);refine' vB (cO func56) (fun G hG hd=>zlO (ht.mono hG) hs hl) (fun _ _ _ h k=>RTL.mono h k) ?_;rotate_left
 (refine' DJ.plainE tO (fun v G=>∃b4 a7 l7 c7 a8 l8 c8 b1 a1 l1 c1 a2 l2 c2 b2 a3 l3 c3 a4 l4 c4 ua uc,v=.agg (fA loss w (rc b4 a7 l7 c7 a8 l8 c8) (rc b1 a1 l1 c1 a2 l2 c2) (rc b2 a3 l3 c3 a4 l4 c4) (.slice ua ts.length uc)).toArray/\RQ G (.agg (rc b4 a7 l7 c7 a8 l8 c8).toArray) base/\RQ G (.agg (rc b1 a1 l1 c1 a2 l2 c2).toArray) rate/\RQ G (.agg (rc b2 a3 l3 c3 a4 l4 c4).toArray) tilt/\RTL G (.slice ua ts.length uc) ts) (fun v G G' ⟨b4,a7,l7,c7,a8,l8,c8,b1,a1,l1,c1,a2,l2,c2,b2,a3,l3,c3,a4,l4,c4,ua,uc,e,h1,h2,h3,h4⟩ k=>⟨b4,a7,l7,c7,a8,l8,c8,b1,a1,l1,c1,a2,l2,c2,b2,a3,l3,c3,a4,l4,c4,ua,uc,e,RQ.mono h1 k,RQ.mono h2 k,RQ.mono h3 k,h4.mono k⟩) Z Z Z (fun G hd=>(by
  have r4:RTL G (xv 15) ts:=hd.head kR;have r3:RQ G (xv 12) tilt:=hd.tail.head kR;have r2:RQ G (xv 9) rate:=hd.tail.tail.head kR;have r1:RQ G (xv 6) base:=hd.tail.tail.tail.head kR;obtain⟨ua,uc,e4⟩:=r4.val;obtain⟨u1,u2,u3,u4,u5,u6,e1,_⟩:=id r1;obtain⟨w1,w2,w3,w4,w5,w6,e2,_⟩:=id r2;obtain⟨z1,z2,z3,z4,z5,z6,e3,_⟩:=id r3;rw[e1]at r1;rw[e2]at r2;rw[e3]at r3;rw[e4]at r4;rw[e1,e2,e3,e4];exact⟨_,rfl,_,_,_,_,_,_,_,_,_,_,_,_,_,_,_,_,_,_,_,_,_,_,_,rfl,r1,r2,r3,r4⟩)) ?_;rotate_left)
 (refine DJ.nil (fun G1 aj gV=>?_);(case hS|hS2=>rfl));obtain⟨⟨b4,a7,l7,c7,a8,l8,c8,b1,a1,l1,c1,a2,l2,c2,b2,a3,l3,c3,a4,l4,c4,ua,uc,e,h1,h2,h3,h4⟩,_⟩:=gV;rw[e];refine uR ?_;exact⟨b4,a7,l7,c7,a8,l8,c8,b1,a1,l1,c1,a2,l2,c2,b2,a3,l3,c3,a4,l4,c4,ua,uc,rfl,h1,h2,h3,h4⟩
set_option maxRecDepth 100000 in
theorem zqg {H:Hp} {loss w:Int} {base rate tilt:Rat} {b4 b1 b2 d4 d1 d2:Bool} {a7 a8 a1 a2 a3 a4 e7 e8 e1 e2 e3 e4 ta tb:Option Addr} {l7 c7 l8 c8 l1 c1 l2 c2 l3 c3 l4 c4 m7 n7 m8 n8 m1 n1 m2 n2 m3 n3 m4 n4 tc td:Nat} {ts:List Tr}
  (h1:RQ H (.agg (rc b4 a7 l7 c7 a8 l8 c8).toArray) base) (h2:RQ H (.agg (rc b1 a1 l1 c1 a2 l2 c2).toArray) rate) (h3:RQ H (.agg (rc b2 a3 l3 c3 a4 l4 c4).toArray) tilt) (h4:RTL H (.slice ta ts.length tc) ts)
  (k1:RQ H (.agg (rc d4 e7 m7 n7 e8 m8 n8).toArray) base) (k2:RQ H (.agg (rc d1 e1 m1 n1 e2 m2 n2).toArray) rate) (k3:RQ H (.agg (rc d2 e3 m3 n3 e4 m4 n4).toArray) tilt) (k4:RTL H (.slice tb ts.length td) ts)
  (q1:rq base) (q2:rq rate) (q3:rq tilt) (hs:∀t,t∈ts->t.ns.length<=1000000/\∀n,n∈t.ns->ub n) (hl:ts.length<=1000000) :
  PC prog 16 #[.agg (fA loss w (rc b4 a7 l7 c7 a8 l8 c8) (rc b1 a1 l1 c1 a2 l2 c2) (rc b2 a3 l3 c3 a4 l4 c4) (.slice ta ts.length tc)).toArray,.agg (fA loss w (rc d4 e7 m7 n7 e8 m8 n8) (rc d1 e1 m1 n1 e2 m2 n2) (rc d2 e3 m3 n3 e4 m4 n4) (.slice tb ts.length td)).toArray] H fun r _=>r=.bool true:=by
 have x1:=kz h1 k1 q1 q1;have x2:=kz h2 k2 q2 q2;have x3:=kz h3 k3 q3 q3;rw[Tj]at x1 x2 x3;obtain⟨tcs,htc,kC⟩:=h4;obtain⟨tds,htd,cr⟩:=k4;refine BD func16 ntmps16 ?_;refine uR ?_;rw[pP];refine uR ?_;rw[pP]
 repeat (first|refine RUN ?_|refine CV (x1) ?_|refine CV (x2) ?_|refine CV (x3) ?_|refine CE (x1) ?_|refine CE (x2) ?_|refine CE (x3) ?_)
 rw[pP];refine uR ?_;refine EV.loopK (ι:=Nat) [2,3] [2,3] (fun i=>[(5,.v (.int .i64 (i:Int)))]) (fun _=>[]) (fun _=>[]) (fun i _=>i<=ts.length) (fun i=>ts.length-i) (0) Z Z ⟨Z,trivial⟩ trivial rfl (fun _=>rfl) (qQ _) ?_;rintro i G1 aj hi;refine uR ?_;refine EV.cond Z (fun af=>?_) (fun af=>?_)
 ·simp only[nN]at af;obtain⟨t,kB⟩:=gE af;obtain⟨jA,JC⟩:=hs t (qF kB);obtain⟨QA,eA,fT⟩:=RTs.get (RTs.mono htc aj) kB;obtain⟨cc2,cM,ri⟩:=RTs.get (RTs.mono htd aj) kB;have fg:=fun (G:Hp) (hG:G1.Le G)=>zqj (fT.mono hG) (ri.mono hG) jA JC;obtain⟨u1,u2,u3,rfl,_⟩:=fT;obtain⟨v1,v2,v3,rfl,_⟩:=ri;refine uR ?_;apply EV.drawn 12 kR kR;intro xv yw;(repeat refine' DD ?_);refine' DJ.idxM tO Z Z Z Z Z Z Z Z Z ((kC.mono aj)) (i) (rfl) (af) (eA) ?_;rotate_left;(repeat refine' DD ?_);refine' DJ.idxM tO Z Z Z Z Z Z Z Z Z ((cr.mono aj)) (i) (rfl) (af) (cM) ?_;rotate_left;(repeat refine' DD ?_);refine' vC (cO func54) (fun G hG hd=>fg G hG) ?_;rotate_left;(repeat refine' DD ?_);(refine DJ.nil (fun G hG hF=>?_);(case hS|hS2=>rfl));refine uR ?_;refine⟨i+1,⟨by rw[aO i (by omega)];rfl,trivial⟩,sB,trivial,sB,rfl,af,hG,by omega⟩
 ·simp only[nN]at af;refine uR ?_;rfl
def Kz (n m:Nat) (loss rounds deep least:Int) (rate tilt gain:Rat):Prop:=m=n/\kM loss rate tilt=true/\0<=rounds/\rounds<=50/\vz deep least gain
theorem zoG:(pD 0 0 0 0 0 (.slice none 0 0)).toArray=#[.int .i64 0,.int .i64 0,.bool false,.int .u64 0,.string ⟨#[]⟩,.int .u64 0,.string ⟨#[]⟩,.bool false,.int .u64 0,.string ⟨#[]⟩,.int .u64 0,.string ⟨#[]⟩,.bool false,.int .u64 0,.string ⟨#[]⟩,.int .u64 0,.string ⟨#[]⟩,.slice none 0 0]:=by
 unfold pD;rw[rN];rfl
set_option maxRecDepth 100000 in
theorem zrM {H:Hp} {vx vy:Value} {X:List (List Rat)} {y:List Rat} {w:Nat} {loss rounds deep least:Int} {rate tilt gain:Rat} (hX:QLL H vx X) (Gm:∀x,x∈X->x.length=w) (h8:1<=X.length/\X.length<=300) (hw:1<=w/\w<=20) (hy:QL H vy y) (h1:sm rate) (h2:sm tilt) (h3:sm gain) (Bq:¬Kz X.length y.length loss rounds deep least rate tilt gain) :
  PC prog 10 #[vx,vy,.agg (KD loss rounds deep least rate tilt gain).toArray] H fun r _=>r=.tuple #[.agg (pD 0 0 0 0 0 (.slice none 0 0)).toArray,.int .i64 (if y.length=X.length then 1 else 5)]:=by
 have EX:=TB hX Gm h8.1 h8.2 hw.1 hw.2;have uK:=MD (loss:=loss) h1 h2;have kH:=LH (H:=H) (deep:=deep) (least:=least) h3;obtain⟨xa,xc,rfl⟩:=hX.val;obtain⟨ya,yc,rfl⟩:=SlC.val hy;rw[zoG];refine BD func10 ntmps10 ?_
 repeat (first|refine RUN ?_|refine CV (EX) ?_|refine CE (EX) ?_)
 by_cases hl:y.length=X.length
 case neg =>
  rw[show ((y.length:Int) != (X.length:Int))=true from bne_iff_ne.2 oM,if_neg hl];refine uR ?_;rfl
 rw[show ((y.length:Int) != (X.length:Int))=false by rw[hl];exact pP _,if_pos hl]
 cases hn:kM loss rate tilt with
 | false =>
  rw[hn]at uK
  repeat (first|refine RUN ?_|refine CV (uK) ?_|refine CE (uK) ?_)
  rfl
 | true =>
  rw[hn]at uK
  repeat (first|refine RUN ?_|refine CV (uK) ?_|refine CE (uK) ?_)
  by_cases c1:rounds<0
  ·rw[qD c1];refine uR ?_;rfl
  rw[qC c1];refine uR ?_;by_cases c2:rounds>50
  ·rw[qD c2];refine uR ?_;rfl
  rw[qC c2];rw[qC (fun k=>Bq ⟨hl,hn,by omega,by omega,k⟩)]at kH
  repeat (first|refine RUN ?_|refine CV (kH) ?_|refine CE (kH) ?_)
  rfl
set_option maxRecDepth 100000 in
theorem zrV {H:Hp} {vx vy vs:Value} {X:List (List Rat)} {y:List Rat} {w:Nat} {loss rounds deep least:Int} {rate tilt gain:Rat} (hX:RLL H vx X) (Gm:∀x,x∈X->x.length=w) (h8:1<=X.length/\X.length<=300) (hw:1<=w/\w<=20) (hy:RL H vy y) (aK:tU H vs loss rounds deep least rate tilt gain) (h1:rq rate) (h2:rq tilt) (Bq:¬Kz X.length y.length loss rounds deep least rate tilt gain) :
  PC prog 14 #[vx,vy,vs] H fun r _=>r=.tuple #[.agg (fA 0 0 (rc false none 0 0 none 0 0) (rc false none 0 0 none 0 0) (rc false none 0 0 none 0 0) (.slice none 0 0)).toArray,.int .i64 (if y.length=X.length then 1 else 5)]:=by
 obtain⟨b1,a1,l1,c1,a2,l2,c2,b2,a3,l3,c3,a4,l4,c4,b3,a5,l5,c5,a6,l6,c6,rfl,k1,k2,k3⟩:=aK;obtain⟨xa,xc,rfl⟩:=hX.val;obtain⟨ya,yc,rfl⟩:=hy.val;have eU:=LF hX Gm hw.1 hw.2 h8.1 h8.2;have gB:=Tz (loss:=loss) k1 k2 h1 h2;have kH:=TA (deep:=deep) (least:=least) k3;refine BD func14 ntmps14 ?_
 repeat (first|refine RUN ?_|refine CV (eU) ?_|refine CE (eU) ?_)
 by_cases hl:y.length=X.length
 case neg =>
  rw[show ((y.length:Int) != (X.length:Int))=true from bne_iff_ne.2 oM,if_neg hl];refine uR ?_;rfl
 rw[show ((y.length:Int) != (X.length:Int))=false by rw[hl];exact pP _,if_pos hl];refine uR ?_;have key:∀(dE:loss=1\/loss=2),fP loss rate tilt=true->0<=rounds->rounds<=50->¬vz deep least gain:=fun dE q1 q2 q3 q4=>Bq ⟨hl,by rw[KX dE];exact q1,q2,q3,q4⟩;refine EVL.meetK (ι:=Unit) [0,1,5,6] [5,6] (fun _=>[(66,.v (.bool true))]) (fun _=>[]) (fun _=>[]) (fun _ G=>H.Le G) Z Z (fun _=>rfl) ?_ ?_
 ·by_cases e1:loss=1
  ·rw[show (loss != 1)=false by rw[e1];rfl]
   cases hn:fP loss rate tilt with
   | false =>
    rw[hn]at gB
    repeat (first|refine RUN ?_|refine CV (gB) ?_|refine CE (gB) ?_)
    exact⟨(),⟨Z,trivial⟩,sB,trivial,sB,rfl,Hp.Le.refl _⟩
   | true =>
    rw[hn]at gB
    repeat (first|refine RUN ?_|refine CV (gB) ?_|refine CE (gB) ?_)
    by_cases c1:rounds<0
    ·rw[qD c1];refine uR ?_;exact⟨(),⟨Z,trivial⟩,sB,trivial,sB,rfl,Hp.Le.refl _⟩
    rw[qC c1];refine uR ?_;by_cases c2:rounds>50
    ·rw[qD c2];refine uR ?_;exact⟨(),⟨Z,trivial⟩,sB,trivial,sB,rfl,Hp.Le.refl _⟩
    rw[qC c2];rw[qC (key (.inl e1) hn oM oM)]at kH
    repeat (first|refine RUN ?_|refine CV (kH) ?_|refine CE (kH) ?_)
    exact⟨(),⟨Z,trivial⟩,sB,trivial,sB,rfl,Hp.Le.refl _⟩
  rw[show (loss != 1)=true from bne_iff_ne.2 e1];refine uR ?_;by_cases e2:loss=2
  ·rw[show (loss != 2)=false by rw[e2];rfl]
   cases hn:fP loss rate tilt with
   | false =>
    rw[hn]at gB
    repeat (first|refine RUN ?_|refine CV (gB) ?_|refine CE (gB) ?_)
    exact⟨(),⟨Z,trivial⟩,sB,trivial,sB,rfl,Hp.Le.refl _⟩
   | true =>
    rw[hn]at gB
    repeat (first|refine RUN ?_|refine CV (gB) ?_|refine CE (gB) ?_)
    by_cases c1:rounds<0
    ·rw[qD c1];refine uR ?_;exact⟨(),⟨Z,trivial⟩,sB,trivial,sB,rfl,Hp.Le.refl _⟩
    rw[qC c1];refine uR ?_;by_cases c2:rounds>50
    ·rw[qD c2];refine uR ?_;exact⟨(),⟨Z,trivial⟩,sB,trivial,sB,rfl,Hp.Le.refl _⟩
    rw[qC c2];rw[qC (key (.inr e2) hn oM oM)]at kH
    repeat (first|refine RUN ?_|refine CV (kH) ?_|refine CE (kH) ?_)
    exact⟨(),⟨Z,trivial⟩,sB,trivial,sB,rfl,Hp.Le.refl _⟩
  rw[show (loss != 2)=true from bne_iff_ne.2 e2];refine uR ?_;exact⟨(),⟨Z,trivial⟩,sB,trivial,sB,rfl,Hp.Le.refl _⟩
 rintro _ G1 aj;refine uR ?_;rfl
theorem RL.drop1 {H:Hp} {a:Option Addr} {cap:Nat} {l:List Rat} (h:RL H (.slice a l.length cap) l) (h1:1<=l.length) (hc:l.length<=cap):RL H (.slice (if cap=1 then a else a.map (·.add (1*3))) (l.length-1) (cap-1)) (l.drop 1):=by
 obtain⟨vs,e1,e2,hs⟩:=h;have aQ:=hs.sub 1 l.length h1 (qH _) hc
 cases vs with
 | nil=>rw[qg]at e1;omega
 | cons v vs =>
  cases l with
  | nil=>simp at h1
  | cons q l =>
   have hv:=(e2 0 v q Z Z).cells.1;refine⟨vs,by simpa using e1,fun j x q' k1 k2=>e2 (j+1) x q' (by rw[pM];exact k1) (by rw[pM];exact k2),?_⟩;rw[qt];rw[List.flatMap_cons,Nat.one_mul,List.drop_left' hv]at aQ
   have hl:(vs.flatMap aB).length=((q::l).length-1)*3:=by
    have:=hs.1;rw[List.flatMap_cons,qJ,hv]at this;rw[qR]at this ⊢;omega
   rw[qO (Nat.le_of_eq hl)]at aQ;exact aQ
structure CF where
 loss:Int
 rounds:Int
 deep:Int
 d1:Bool
 p1:Option Addr
 m1:Nat
 n1:Nat
 p2:Option Addr
 m2:Nat
 n2:Nat
 d2:Bool
 p3:Option Addr
 m3:Nat
 n3:Nat
 p4:Option Addr
 m4:Nat
 n4:Nat
 rate:Rat
 tilt:Rat
 y:List Rat
 ya:Option Addr
 yc:Nat
structure CF.Ok (q:CF) (y:List Rat) (G:Hp):Prop where
 rate:RQ G (.agg (rc q.d1 q.p1 q.m1 q.n1 q.p2 q.m2 q.n2).toArray) q.rate
 tilt:RQ G (.agg (rc q.d2 q.p3 q.m3 q.n3 q.p4 q.m4 q.n4).toArray) q.tilt
 row:RL G (.slice q.ya q.y.length q.yc) q.y
 small:q.rate.den<=4/\ht q.rate<=10/\ht q.tilt<=10
 y:q.y=y\/(q.y.length+1=y.length/\∀x,x∈q.y->x∈y)
set_option maxRecDepth 100000 in
theorem boostFits_pc {H:Hp} {vx:Value} (bad at':Int) (hx:Kw H vx) (Gg:gM bad) (rm:gM at'):PC prog 3 #[vx,.int .i64 bad,.int .i64 at'] H fun r _=>r=.bool true:=by
 have wS:=zpH hx;obtain⟨_,_,_,_,_,_,_,_,_,_,_,_,rfl,_⟩:=hx;refine BD func3 ntmps3 ?_;refine uR ?_;refine vA (wS) ?_;rintro r1 G1 ⟨b,y,K,vX,vY,vS,rfl,hb,hX,hY,aK,fD,hg,hK,_,zj⟩ aj;have h8:=hb.rows;have xw:=hb.each
 have EI:∃a cap,vY=.slice a y.length cap/\y.length<=cap:=by
  obtain⟨_,_,_,hs⟩:=id hY;rcases hs.2 with ⟨h0,_⟩ | ⟨_,_,cap,_,rfl,hc,_⟩
  ·omega
  ·exact⟨_,cap,rfl,hc⟩
 obtain⟨xa,xc,rfl⟩:=hX.val;obtain⟨ya,yc,rfl,Al⟩:=EI;have ix:ht b.rate<=10:=(QQ hb fD oM oM hg oM (Rb hb.den.1 (show K<=6 by omega))).rate;obtain⟨b1,a1,l1,c1,a2,l2,c2,b2,a3,l3,c3,a4,l4,c4,b3,a5,l5,c5,a6,l6,c6,rfl,h1,h2,h3⟩:=aK;have lq:=pS bad 20 Gg oM oM;have rh:0<=bad % 20:=Int.emod_nonneg _ (by decide);generalize bad % 20=m at *
 repeat (first|refine zA ?_|refine CV (lq) ?_|refine CE (lq) ?_)
 refine EV.meetK (ι:=CF) [7,9] [] (fun q=>[(8,.v (.slice q.ya q.y.length q.yc))]) (fun q=>[(9,37,Dn q.loss q.rounds q.deep b.least (rc q.d1 q.p1 q.m1 q.n1 q.p2 q.m2 q.n2) (rc q.d2 q.p3 q.m3 q.n3 q.p4 q.m4 q.n4) (rc b3 a5 l5 c5 a6 l6 c6))]) (fun _=>[]) (fun q G=>G1.Le G/\q.Ok y G) Z Z (fun _=>rfl) ?_ ?_
 ·have iq:=hb.den.2;have h9:m=0\/m=1\/m=2\/m=3\/m=4\/m=5\/6<=m:=oM;have FQ:=RH at';have kJ:=zrS at';have aI:∀G,G1.Le G->(⟨b.loss,K,b.D,b1,a1,l1,c1,a2,l2,c2,b2,a3,l3,c3,a4,l4,c4,b.rate,b.tilt,y,ya,yc⟩:CF).Ok y G:=fun G hG=>⟨h1.mono hG,h2.mono hG,hY.mono hG,⟨hb.den.1,ix,iq⟩,.inl rfl⟩;rcases h9 with rfl | rfl | rfl | rfl | rfl | rfl | h6
  ·try refine uR ?_
   refine vA (Hi at' rm) ?_;rintro r3 G3 hr ax;obtain⟨uv,tP,ui,uu,tN,uh,rfl,_⟩:=id hr;refine uR ?_;exact⟨⟨b.loss,K,b.D,_,_,_,_,_,_,_,b2,a3,l3,c3,a4,l4,c4,kP at',b.tilt,y,ya,yc⟩,⟨Z,trivial⟩,sB,⟨Z,trivial⟩,trivial,rfl,ax,⟨hr,h2.mono ax,hY.mono ax,⟨kJ,by dsimp only;omega,iq⟩,.inl rfl⟩⟩
  ·have h5:ht ((8:Int):Rat)<=4:=by decide +kernel
   have JX:=tY (kP at') ((8:Int):Rat);refine uR ?_;refine vA (Hi at' rm) ?_;rintro r3 G3' hr Qe;obtain⟨uv,tP,ui,uu,tN,uh,rfl,_⟩:=id hr;refine uR ?_;refine EVL.call Z Z Z Z Z (ju 8 oM oM) ?_;rintro r4 G4' Fh GF;obtain⟨CH,CB,CD,CG,CA,CC,rfl,_⟩:=id Fh;refine uR ?_;refine EVL.call Z Z Z Z Z (Jb (hr.mono GF) Fh (iL FQ oM) (iL h5 oM) (by decide +kernel)) ?_;rintro r5 G3 wL Qd;have ax:=Qe.trans (GF.trans Qd);obtain⟨Vo,wl1,Vm,Vn,wl2,Vl,rfl,_⟩:=id wL;refine uR ?_;exact⟨⟨b.loss,K,b.D,b1,a1,l1,c1,a2,l2,c2,_,_,_,_,_,_,_,b.rate,(kP at' / ((8:Int):Rat)),y,ya,yc⟩,⟨Z,trivial⟩,sB,⟨Z,trivial⟩,trivial,rfl,ax,⟨h1.mono ax,wL,hY.mono ax,⟨hb.den.1,ix,by dsimp only;omega⟩,.inl rfl⟩⟩
  ·have uH:=pS at' 5 rm oM oM
   repeat (first|refine RUN ?_|refine CV (uH) ?_|refine CE (uH) ?_)
   exact⟨⟨at' % 5,K,b.D,b1,a1,l1,c1,a2,l2,c2,b2,a3,l3,c3,a4,l4,c4,b.rate,b.tilt,y,ya,yc⟩,⟨Z,trivial⟩,sB,⟨Z,trivial⟩,trivial,rfl,Hp.Le.refl _,⟨h1,h2,hY,⟨hb.den.1,ix,iq⟩,.inl Z⟩⟩
  ·try refine uR ?_
   exact⟨⟨b.loss,at',b.D,b1,a1,l1,c1,a2,l2,c2,b2,a3,l3,c3,a4,l4,c4,b.rate,b.tilt,y,ya,yc⟩,⟨Z,trivial⟩,sB,⟨Z,trivial⟩,trivial,rfl,Hp.Le.refl _,⟨h1,h2,hY,⟨hb.den.1,ix,iq⟩,.inl Z⟩⟩
  ·try refine uR ?_
   refine EVL.slc (te':=aa33) tO Z Z Z Z Z Z Z Z 1 y.length (.inr ⟨_,IntKind.i64,rfl,rfl⟩) (.inl ⟨rfl,rfl⟩) oM Al Al ?_;refine uR ?_;have fT:=hY.drop1 oM Al;exact⟨⟨b.loss,K,b.D,b1,a1,l1,c1,a2,l2,c2,b2,a3,l3,c3,a4,l4,c4,b.rate,b.tilt,y.drop 1,_,yc-1⟩,⟨by dsimp only;rw[qt];rfl,trivial⟩,sB,⟨Z,trivial⟩,trivial,rfl,Hp.Le.refl _,⟨h1,h2,by dsimp only;rw[qt];exact fT,⟨hb.den.1,ix,iq⟩,.inr ⟨by dsimp only;rw[qt];omega,fun x hx=>List.mem_of_mem_drop hx⟩⟩⟩
  ·try refine uR ?_
   exact⟨⟨b.loss,K,at',b1,a1,l1,c1,a2,l2,c2,b2,a3,l3,c3,a4,l4,c4,b.rate,b.tilt,y,ya,yc⟩,⟨Z,trivial⟩,sB,⟨Z,trivial⟩,trivial,rfl,Hp.Le.refl _,⟨h1,h2,hY,⟨hb.den.1,ix,iq⟩,.inl Z⟩⟩
  ·try refine uR ?_
   rw[pQ.2 (show m≠0 by omega)];refine uR ?_;rw[pQ.2 (show m≠1 by omega)];refine uR ?_;rw[pQ.2 (show m≠2 by omega)];refine uR ?_;rw[pQ.2 (show m≠3 by omega)];refine uR ?_;rw[pQ.2 (show m≠4 by omega)];refine uR ?_;rw[pQ.2 (show m≠5 by omega)];refine uR ?_;exact⟨⟨b.loss,K,b.D,b1,a1,l1,c1,a2,l2,c2,b2,a3,l3,c3,a4,l4,c4,b.rate,b.tilt,y,ya,yc⟩,⟨Z,trivial⟩,sB,⟨Z,trivial⟩,trivial,rfl,Hp.Le.refl _,⟨h1,h2,hY,⟨hb.den.1,ix,iq⟩,.inl Z⟩⟩
 rintro⟨loss,rounds,deep,d1,p1,m1,n1,p2,m2,n2,d2,p3,m3,n3,p4,m4,n4,rate,tilt,y1,y1a,y1c⟩ G2 ⟨ai,⟨k1,k2,J3,⟨jB,Oh,mP⟩,jV⟩⟩;dsimp only at k1 k2 J3 jB Oh mP jV ⊢;have q1:rq rate:=iL Oh oM;have q2:rq tilt:=iL mP oM;have q3:rq b.gain:=iL hb.gain.2 oM;have s1:sm rate:=bE Oh oM;have s2:sm tilt:=bE mP oM;have s3:sm b.gain:=bE hb.gain.2 oM;have mK:∀q,q∈y->ht q<=95:=fun q k=>qI ((hg q k).bits oM oM) (cf (by decide))
 have EK:∀q,q∈y1->ht q<=95:=fun q k=>mK q (by
  rcases jV with e | ⟨_,e⟩
  ·rw[<-e];exact k
  ·exact e q k)
 have hy1l:y1.length<=8:=by
  rcases jV with e | ⟨e,_⟩
  ·rw[e];omega
  ·omega
 have zi:=hX.mono ai;have h32:=h3.mono ai;have AA:tU G2 (.agg (Dn loss rounds deep b.least (rc d1 p1 m1 n1 p2 m2 n2) (rc d2 p3 m3 n3 p4 m4 n4) (rc b3 a5 l5 c5 a6 l6 c6)).toArray) loss rounds deep b.least rate tilt b.gain:=⟨_,_,_,_,_,_,_,_,_,_,_,_,_,_,_,_,_,_,_,_,_,rfl,k1,k2,h32⟩;have Xt:=fun (G:Hp) (hG:G2.Le G)=>TQ (zi.mono hG) oM (fun x h=>⟨by rw[(xw x h).1];have:=hb.wide;omega,fun q k=>iL ((xw x h).2 q k) oM⟩);have Xs:=fun (G:Hp) (hG:G2.Le G)=>LG (J3.mono hG) oM (fun q k=>iL (EK q k) oM);have Xu:=fun (G:Hp) (hG:G2.Le G)=>zos (AA.mono hG) q1 q2 q3;clear h1 h2 h3 aj wS lq;generalize j9:((decide (rounds>6) && decide (rounds<=50)) || (decide (deep>4) && decide (deep<=10)))=sk;refine uR ?_;refine EVL.meetK (ι:=Unit) [7,8,9] [9] (fun _=>[(71,.v (.bool sk))]) (fun _=>[]) (fun _=>[]) (fun _ G=>G2.Le G) Z Z (fun _=>rfl) ?_ ?_
 ·have tail:∀b1:Bool,sk=(b1 || (decide (deep>4) && decide (deep<=10)))->b1=(decide (rounds>6) && decide (rounds<=50))->True:=fun _ _ _=>trivial;by_cases x1:rounds>6
  ·rw[qD x1];refine uR ?_;by_cases x2:rounds<=50
   ·rw[qD x1,qD x2]at j9;rw[qD x2];refine uR ?_;subst j9;exact⟨(),⟨Z,trivial⟩,sB,trivial,sB,rfl,Hp.Le.refl _⟩
   rw[qD x1,qC x2]at j9;rw[qC x2];refine uR ?_;by_cases x3:deep>4
   ·rw[qD x3]at j9 ⊢;refine uR ?_;by_cases x4:deep<=10
    ·rw[qD x4]at j9 ⊢;refine uR ?_;subst j9;exact⟨(),⟨Z,trivial⟩,sB,trivial,sB,rfl,Hp.Le.refl _⟩
    rw[qC x4]at j9 ⊢;refine uR ?_;subst j9;exact⟨(),⟨Z,trivial⟩,sB,trivial,sB,rfl,Hp.Le.refl _⟩
   rw[qC x3]at j9 ⊢;refine uR ?_;subst j9;exact⟨(),⟨Z,trivial⟩,sB,trivial,sB,rfl,Hp.Le.refl _⟩
  rw[qC x1]at j9 ⊢;refine uR ?_;by_cases x3:deep>4
  ·rw[qD x3]at j9 ⊢;refine uR ?_;by_cases x4:deep<=10
   ·rw[qD x4]at j9 ⊢;refine uR ?_;subst j9;exact⟨(),⟨Z,trivial⟩,sB,trivial,sB,rfl,Hp.Le.refl _⟩
   rw[qC x4]at j9 ⊢;refine uR ?_;subst j9;exact⟨(),⟨Z,trivial⟩,sB,trivial,sB,rfl,Hp.Le.refl _⟩
  rw[qC x3]at j9 ⊢;refine uR ?_;subst j9;exact⟨(),⟨Z,trivial⟩,sB,trivial,sB,rfl,Hp.Le.refl _⟩
 rintro _ G3 ax
 cases sk with
 | true =>
  refine uR ?_;refine vA (Mp) ?_;rintro _ G4 rfl aT;refine uR ?_;rfl
 | false =>
 by_cases sV:Kz b.X.length y1.length loss rounds deep b.least rate tilt b.gain
 case neg =>
  have tI:=fun (G:Hp) (u v:Value) (hu:QLL G u b.X) (hv:QL G v y1)=>zrM hu (fun x h=>(xw x h).1) oM hb.wide hv s1 s2 s3 sV;have tH:=fun (G:Hp) (hG:G2.Le G)=>zrV (zi.mono hG) (fun x h=>(xw x h).1) oM hb.wide (J3.mono hG) (AA.mono hG) q1 q2 sV;obtain⟨e,he,hne⟩:∃e:Int,(if y1.length=b.X.length then 1 else 5:Int)=e/\e≠0:=⟨_,rfl,by split <;> decide⟩;rw[he]at tI tH;have lg:PV prog 15 #[aC 0] (.int .i64 0):=pH 0 (by show bl 0<=_;rw[lX];omega);refine uR ?_;apply EV.drawn 12 kR kR;intro xv yw;(repeat refine' DD ?_);refine' vB (cO func11) (fun G hG hd=>Xt G (ax.trans hG)) (fun _ _ _ h k=>QLL.mono h k) ?_;rotate_left;(repeat refine' DD ?_);refine' vB (cO func12) (fun G hG hd=>Xs G (ax.trans hG)) (fun _ _ _ h k=>SlC.mono h k) ?_;rotate_left;(repeat refine' DD ?_);refine' vC (cO func13) (fun G hG hd=>Xu G (ax.trans hG)) ?_;rotate_left;refine' vC (cO func10) (fun G hG hd=>tI G _ _ (hd.tail.head kR) (hd.head kR)) ?_;rotate_left;(repeat refine' DD ?_);(refine DJ.nil (fun G4 aT xF=>?_);(case hS|hS2=>rfl));refine uR ?_;refine vA (tH _ (ax.trans aT)) ?_;rintro _ G5 rfl bj;refine uR ?_;refine vA (Mp) ?_;rintro _ G6 rfl bu;refine uR ?_;rw[pP e];refine uR ?_;rw[show (e != 0)=true from bne_iff_ne.2 hne]
  repeat (first|refine RUN ?_|refine CV (lg) ?_|refine CE (lg) ?_)
  rfl
 obtain⟨g1,g2,g3,g4,g5⟩:=sV
 obtain rfl:y1=y:=by
  rcases jV with e | ⟨e,_⟩
  ·exact e
  ·omega
 simp only[Bool.or_eq_false_iff,Bool.and_eq_false_iff,decide_eq_false_iff_not]at j9;obtain⟨K2,rfl⟩:=qh g3;obtain⟨D2,rfl⟩:=qh (show 0<=deep from g5.1);have P7:K2<=6:=oM
 have cP:(⟨loss,rate,tilt,b.X,b.W,D2,b.least,b.gain⟩:BG).Ok:=by
  unfold kM fP at g2;simp only[Bool.and_eq_true,Bool.or_eq_true,decide_eq_true_eq]at g2;obtain⟨e1,e2,e3,e4⟩:=g2;refine⟨e1,⟨e2,e3⟩,fun e=>?_,fun e=>?_,⟨jB,mP⟩,hb.rows,hb.wide,hb.each,by have:=g5.2.1;show D2<=10;omega,hb.least,hb.gain⟩
  ·change loss=1 at e;rw[if_pos e]at e4;exact of_decide_eq_true e4
  ·change loss=2 at e;rw[if_neg oM,Bool.and_eq_true]at e4;exact⟨of_decide_eq_true e4.1,of_decide_eq_true e4.2⟩
 generalize kr:(⟨loss,rate,tilt,b.X,b.W,D2,b.least,b.gain⟩:BG)=b' at cP;have f1:b'.loss=loss:=by rw[<-kr]
 have f2:b'.rate=rate:=by rw[<-kr]
 have f3:b'.tilt=tilt:=by rw[<-kr]
 have f4:b'.X=b.X:=by rw[<-kr]
 have f5:b'.W=b.W:=by rw[<-kr]
 have f6:b'.D=D2:=by rw[<-kr]
 have f7:b'.least=b.least:=by rw[<-kr]
 have f8:b'.gain=b.gain:=by rw[<-kr]
 clear kr;have eH:y1.length=b'.X.length:=by rw[f4];exact fD
 have cI:=Rb cP.den.1 P7;obtain⟨nC,eU,oO,_,_,oX⟩:=QQ cP eH oM oM hg oM cI;have tI:=fun (G:Hp) (u v:Value) (hu:QLL G u b'.X) (hv:QL G v y1)=>Li cP hu hv eH oM oM hg oM cI;have tH:=fun (G:Hp) (hG:G2.Le G)=>zrU cP (vx:=.slice xa b.X.length xc) (vy:=.slice y1a y1.length y1c) (K:=K2) (by rw[f4];exact zi.mono hG) (J3.mono hG) eH (vs:=.agg (Dn loss (K2:Int) (D2:Int) b.least (rc d1 p1 m1 n1 p2 m2 n2) (rc d2 p3 m3 n3 p4 m4 n4) (rc b3 a5 l5 c5 a6 l6 c6)).toArray) (by rw[f1,f2,f3,f6,f7,f8];exact AA.mono hG) oM oM hg oM cI;rw[f1,f2,f3,f4,f5,f6,f7,f8]at tI;rw[f1,f2,f3,f5]at tH;rw[f1,f2,f3,f5]at oX;have E7:∀t,t∈(b'.fit y1 K2).1->t.ns.length<=1000000/\∀n,n∈t.ns->ub n:=fun t ht=>⟨by have:=(nC t ht).len;omega,(nC t ht).ok.smallN⟩;have NW:∀t,t∈(b'.fit y1 K2).1->Hl b'.W t:=fun t h=>(nC t h).x;have q0:rq (b'.mid y1):=iL oO oM;generalize (b'.fit y1 K2).1=ts at *
 generalize b'.mid y1=bm at *
 clear f1 f2 f3 f4 f5 f6 f7 f8 eH cI cP;generalize b.W=W at *
 subst eU;refine uR ?_;apply EV.drawn 12 kR kR;intro xv yw;(repeat refine' DD ?_);refine' vB (cO func11) (fun G hG hd=>Xt G (ax.trans hG)) (fun _ _ _ h k=>QLL.mono h k) ?_;rotate_left;(repeat refine' DD ?_);refine' vB (cO func12) (fun G hG hd=>Xs G (ax.trans hG)) (fun _ _ _ h k=>SlC.mono h k) ?_;rotate_left;(repeat refine' DD ?_);refine' vC (cO func13) (fun G hG hd=>Xu G (ax.trans hG)) ?_;rotate_left;refine' vB (cO func10) (fun G hG hd=>tI G _ _ (hd.tail.head kR) (hd.head kR)) (fun _ _ _ h k=>(by obtain⟨ta,tc,e,hp⟩:=h;exact⟨ta,tc,e,hp.mono k⟩)) ?_;rotate_left;refine' DJ.copy (6) (by first|exact .inl rfl|exact .inr Z) Z Z Z id Z kR ?_;rotate_left;refine' DJ.extract (6) Z Z Z Z Z kR (fun G hd=>(by obtain⟨ta,tc,e,_⟩:=hd.head kR;exact⟨_,e,Nat.zero_lt_succ _⟩)) ?_;rotate_left;refine' DJ.extract (6) Z Z Z Z Z kR (fun G hd=>(by obtain⟨ta,tc,e,_⟩:=hd.head kR;exact⟨_,e,Nat.lt_succ_self _⟩)) ?_;rotate_left;(repeat refine' DD ?_);refine' DJ.storeD tO Z Z Z Z (6) (js 0) Z Z (10) Z Z kR kR Z (fun G hd=>(by obtain⟨ta,tc,e,_⟩:=hd.head kR;rw[e];exact⟨rfl,rfl⟩)) ?_;rotate_left;(refine DJ.nil (fun G4 aT xF=>?_);(case hS|hS2=>rfl));obtain⟨⟨ta,tc,e4,hP⟩,_⟩:=xF;rw[e4];rw[show js 1 (Value.tuple #[.agg (pD loss (W:Int) bm rate tilt (.slice ta ts.length tc)).toArray,.int .i64 0])=.int .i64 0 from rfl,show aB (js 0 (Value.tuple #[.agg (pD loss (W:Int) bm rate tilt (.slice ta ts.length tc)).toArray,.int .i64 0]))=pD loss (W:Int) bm rate tilt (.slice ta ts.length tc) from rfl];refine uR ?_;refine vA (tH _ (ax.trans aT)) ?_;rintro _ G5 ⟨rb1,ra1,rl1,rc1,ra2,rl2,rc2,rb2,ra3,rl3,rc3,ra4,rl4,rc4,rb4,ra7,rl7,rc7,ra8,rl8,rc8,rta,rtc,rfl,Gd,gB,kB,bq⟩ bj;refine uR ?_;refine vA (Mp) ?_;rintro _ G6 rfl bu;have W5:=hP.mono (bj.trans bu);have QC:=fun (G:Hp) (hG:G6.Le G)=>zlN (loss:=loss) (w:=(W:Int)) (W5.mono hG) E7 oM q0 q1 q2;refine uR ?_;apply EV.drawn 4 kR kR;intro xv yw;(repeat refine' DD ?_);refine' vB (cO func17) (fun G hG hd=>QC G hG) (fun _ _ _ h k=>(by obtain⟨b4,a7,l7,c7,a8,l8,c8,b1,a1,l1,c1,a2,l2,c2,b2,a3,l3,c3,a4,l4,c4,ua,uc,e,h1,h2,h3,h4⟩:=h;exact⟨b4,a7,l7,c7,a8,l8,c8,b1,a1,l1,c1,a2,l2,c2,b2,a3,l3,c3,a4,l4,c4,ua,uc,e,RQ.mono h1 k,RQ.mono h2 k,RQ.mono h3 k,h4.mono k⟩)) ?_;rotate_left;(repeat refine' DD ?_)
 refine' DJ.callS Z Z Z Z Z (cO func16) (fun G hG hd=>(by
  obtain⟨b4,a7,l7,c7,a8,l8,c8,b1,a1,l1,c1,a2,l2,c2,b2,a3,l3,c3,a4,l4,c4,ua,uc,e,h1,h2,h3,h4⟩:=hd.head kR;rw[e];exact zqg h1 h2 h3 h4 (Gd.mono (bu.trans hG)) (gB.mono (bu.trans hG)) (kB.mono (bu.trans hG)) (bq.mono (bu.trans hG)) q0 q1 q2 E7 oM)) ?_;rotate_left
 (refine DJ.nil (fun G7 aZ Da=>?_);(case hS|hS2=>rfl));refine uR ?_;refine EVL.call Z Z Z Z Z (zn4 (W5.mono aZ) NW s1 s2 oM) ?_;rintro _ G8 rfl bt;rw[oX];refine uR ?_;rfl
end
section
open Go Go.RowKit
theorem Ug {P:Program} {W:World} {n:String} {d:DataW Unit}:∀{l:List (String × DataW Unit)} {ps:List MemPlace},DataW.LaidVars P W l ps->(n,d)∈l ->
  ∃p,DataW.LaidVars P W [(n,d)] p
 | [],_,_,h=>by cases h
 | (m,x)::r,ps,h,hm=>by
  obtain⟨g,t,cs,fuel,p,q,h1,h2,h3,h4,h5,h6⟩:=h;rcases List.mem_cons.1 hm with hm | hm
  ·cases hm;exact⟨_,g,t,cs,fuel,p,[],h1,h2,h3,h4,rfl,rfl⟩
  ·exact Ug h5 hm
theorem YI {P:Program} {l:List (String × DataW Unit)} {W:World} {α:Type} (f:α->Int) (h:laidMet P l W) {n:String} {zs:List α} {kd:IntKind} {g:Nat} {T e:TypeId} (ee:(n,.agg (zs.map fun z=>.lit (.int kd (f z))))∈l) (hg:P.globalNamed n=some g) (ht:(P.globals[g]?).map (·.type)=some T)
  (hT:P.underlying T=some (.array zs.length e)) (he:P.underlying e=some (.int kd)) (hc:P.cellsOf e=1) (hcT:P.cellsOf T=zs.length) :
  ∃U fz,W.heap[g]?=some (.cells (zs.map fun z=>Value.int kd (f z)).toArray U fz):=by
 obtain⟨ps,hl,_⟩:=h;obtain⟨p0,g',t,cs,fuel,p,q,FX,aM,hv,hd,_,_⟩:=Ug hl ee;obtain rfl:=Option.some.inj (hg.symm.trans FX);obtain rfl:=Option.some.inj (ht.symm.trans aM);obtain⟨xs,m,_,ex,cj,hlen,jl⟩:=DataW.trod_array hT hd
 have hb:∃U fz,W.heap[g]?=some (.cells cs U fz):=by
  simp only[World.var?,hg,Option.bind_some]at hv;split at hv
  ·rename_i c U fz dV;cases hv;exact⟨U,fz,dV⟩
  ·cases hv
 obtain⟨U,fz,hb⟩:=hb;refine⟨U,fz,?_⟩;rw[hb];congr 2;apply Array.ext';rw[hcT]at cj;have e3:(xs.map (·.1))=zs.map fun n=>.lit (.int kd (f n)):=(DataW.agg.inj (Prod.mk.inj ex).1).symm;apply List.ext_getElem?;intro r;rcases Nat.lt_or_ge r zs.length with hr | hr
 ·have hE:=jl r hr;rw[hc,Nat.mul_one,qA (by omega)]at hE;obtain⟨z,e1,e2,_⟩:=DataW.trod_int he hE;have e4:(xs.map (·.1))[r]?=(zs.map fun n=>(DataW.lit (.int kd (f n)):DataW Unit))[r]?:=by rw[e3]
  rw[qK,qK,qA (by omega:r<xs.length),qA hr,e2]at e4;simp only[Option.map_some,Option.some.injEq,DataW.lit.injEq,Lit.int.injEq,true_and]at e4;have h0:((cs.toList.drop r).take 1)[0]?=some (.int kd z):=by rw[e1];rfl
  simp only[pO,List.getElem?_drop,qY]at h0;rw[if_pos (by omega)]at h0;rw[h0,e4];simp[hr]
 ·rw[qe oM,qe (by simpa using hr)]
theorem fits_gH {l:List (String × DataW Unit)} {W:World} (h:laidMet Tryz.prog l W) (ee:("math/bits.deBruijn64tab", .agg (Lib.deBruijn64tab.map fun (z:Nat)=>.lit (.int .u8 z)))∈l):Fits gH W:=fun b c hb=>by
 unfold gH at hb;split at hb
 ·rename_i C3;cases hb;obtain rfl:=qy C3;exact YI (fun z:Nat=>(z:Int)) h ee kR kR Tryz.underlying310 Tryz.underlying5 kR kR
 ·cases hb
end
end Go.Proofs.YtkeklikocibiaaaGreatDoor
