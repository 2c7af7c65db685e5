/- Texts of ours in one: Th7, LaidE. -/
import Derived.Test.YtifcjfodgicngaaGreatDoorR0
import Derived.Test.YtifcjfodgicngaaGreatDoorR1
import Derived.Test.YtifcjfodgicngaaGreatDoorR4
import Derived.ProofKit
import Derived.OpenShut
import Derived.LaidMore
import Derived.Lay
import Derived.Stop.Joined
set_option linter.unusedVariables false
set_option linter.unusedSimpArgs false
set_option maxHeartbeats 64000000
namespace Go.Proofs.YtifcjfodgicngaaGreatDoor
section
open Go.RowKit _root_.Go.Proofs.Tryz
set_option maxRecDepth 100000 in
theorem treeOrder_pc {H:Hp} {vx vr:Value} {row:List Int} (by' more seed:Int) (hx:zqj H vx) (hby:zgm by') (hmo:zgm more) (hsd:0≤seed) (hrw:IL H vr row) (hrwb:∀z,z∈row→zgm z):PC prog 7 #[vx,.int .i64 by',.int .i64 more,.int .u64 seed,vr] H fun r _=>r=.bool true:=by
 have ho1:=zns hx;obtain⟨_,_,_,_,_,_,_,_,_,_,_,_,rfl,_⟩:=hx;obtain⟨wa,wc,rfl⟩:=SlC.val hrw;refine BD func7 ntmps7 ?_;refine uR ?_;refine vA (ho1) ?_;rintro r1 G1 ⟨kd,cl,least,gn,ga,va,p1,q1,gl,gc,vn,vc,N,W,D,l1,c1,l2,c2,vX,vR,b1,lg,ll,lr,rfl,hg1,hX1,hr1,hq1,hN,hW,hD,hl⟩ hG1;obtain⟨d,hd,hR,hcl4⟩:=hg1.gd (zec _ _) (zj8 N);have hlen:=zf3 ll N W;have hrows5:=fun x hx=>zpm (l:=ll) (n:=N) (w:=W) x hx;generalize zf2 ll N W=X at *
 have hrl:=zmg (l:=lr) hN.1 hN.2;have hrin:=znM (l:=lr) hN.1;generalize zbX lr N=rows at *
 obtain⟨hg0,hg5⟩:=zq9 gn;generalize zpo gn=g at *
 obtain⟨ra,rc,rfl⟩:=SlC.val hr1;subst hlen;have hgr:rq g:=by unfold rq;omega
 have hyb:=zfA by'
 have hmb:=zfA more;have hQ1:=zkL by' hby
 have hQ2:=zkL more hmo;have hab:=zql (zgo by') (zaC hyb oM);have hof1:=zfN 1 oM oM
 have h1h:ht ((1:Int):Rat)≤10:=by
  have:=zbC 1;have h2:bl (1:Int).natAbs≤5:=za3 (by decide);omega
 have hah:=zqG (zgo by');have hKa:=zdp (zop (zgo by')) ((1:Int):Rat) (by unfold sm;omega) (by unfold sm;omega);have hKh:=zdr (zop (zgo by')) ((1:Int):Rat)
 have hKp:0<zop (zgo by')+((1:Int):Rat):=by
  have:=zou (zgo by');rw[show ((1:Int):Rat)=1 from rfl];generalize zop (zgo by')=x at *
  grind
 have hKb:ht (zop (zgo by')+((1:Int):Rat))≤30:=by omega
 generalize zop (zgo by')+((1:Int):Rat)=K at *
 generalize hMe:zgo more=M at *
 clear hah hKh;refine uR ?_;refine EVL.call rfl rfl rfl rfl rfl (hd.inGoal oM hR) ?_;rintro _ G2 ⟨la,ln,lc,va',vn',vc',rfl,hP⟩ hG2;refine uR ?_;refine vA (zlX (RQ.mono hq1 hG2) hgr) ?_;rintro _ G3 rfl hG3;refine uR ?_;refine EVL.call rfl rfl rfl rfl rfl (ziD (hX1.mono (hG2.trans hG3)) oM (fun x hx=>⟨by rw[(hrows5 x hx).1];omega,fun q hq=>ze0 ((hrows5 x hx).2 q hq) oM⟩)) ?_;intro v4 G4 hQ hG4;obtain⟨xa,xc,rfl⟩:=hQ.val;refine uR ?_;refine EVL.callO rfl rfl rfl rfl rfl (zqA seed) ?_;rintro vd owd ⟨bd,rfl,rfl⟩
 repeat (first|refine RUN ?_|refine CV (zgL) ?_|refine CE (zgL) ?_)
 refine EVL.eqnilP (e:=164) kR rfl rfl rfl rfl rfl ?_
 repeat (first|refine RUN ?_|refine CV (hQ1) ?_|refine CV (hab) ?_|refine CV (hof1) ?_|refine CV (hKa) ?_|refine CV (hQ2) ?_|refine CE (hQ1) ?_|refine CE (hab) ?_|refine CE (hof1) ?_|refine CE (hKa) ?_|refine CE (hQ2) ?_)
 refine EVL.callW rfl rfl rfl rfl rfl ([(bd,164,[.int .u64 seed])]) ([]) rfl (znC hsd oM oM) ?_;rintro v5 _ G5 ⟨⟨T5,rfl⟩,hs5,hil5,oa5,rfl⟩ hG5;have hol:=zgO rows.length seed;have hop:=zl4 (rows:=rows) seed oM;have hom:∀c,c∈(zbV rows.length seed).1→0≤c∧c<(rows.length:Int):=fun c hc=>(zpE _ _).1 ((zfR rows.length seed oM).mem_iff.1 hc);generalize (zbV rows.length seed).1=o at *
 (first|refine EVL.subOw [] [(bd,T5,_)] [] rfl ?_|refine EV.subOw [] [(bd,T5,_)] [] rfl ?_);have hH5:=hG2.trans (hG3.trans (hG4.trans hG5));refine uR ?_;refine EV.loopK (ι:=Nat × Value × Ows) [4,13,15,16,17,19,20,22] [15,16,19,20] (fun q=>[(21,.v q.2.1),(23,.v (.int .i64 (q.1:Int)))]) (fun _=>[]) (fun q=>q.2.2) (fun q _=>q.1≤o.length∧zaS 3 1 q.2.1 q.1 (((o.take q.1).map fun j=>rows.getD j.toNat 0).map iv) q.2.2) (fun q=>o.length-q.1) ((0,.slice none 0 0,[])) rfl rfl ⟨rfl,rfl,trivial⟩ trivial rfl (fun _=>rfl) (⟨Nat.zero_le _,zaS.nil _ _⟩) ?_;rintro⟨i,v21,ow⟩ G6 hG6 ⟨hi,hown⟩;dsimp only at hi hown;obtain⟨a21,c21,rfl⟩:=hown.val;have wi:IntKind.i64.wrap ((i:Int)+1)=((i+1:Nat):Int):=zai i oM;refine uR ?_;refine EV.cond rfl (fun hlt=>?_) (fun hlt=>?_)
 ·simp only[nN]at hlt;obtain⟨j,hj⟩:=gE hlt;have hjb:=hom j (qF hj);obtain⟨J,rfl⟩:=Int.eq_ofNat_of_zero_le hjb.1;have hJ:J<rows.length:=by omega
  obtain⟨r,hr⟩:=gE hJ;have hrg:rows.getD ((J:Int)).toNat 0=r:=by rw[Int.toNat_natCast,qB,hr];rfl
  refine uR ?_;refine vI ((hil5.mono hG6)) (i) (rfl) (hlt) ((by rw[List.getElem?_map,hj];rfl)) ?_;refine uR ?_;refine vI ((hr1.mono (hH5.trans hG6))) (J) (rfl) (hJ) ((by rw[List.getElem?_map,hr];rfl)) ?_;refine uR ?_;refine EVL.app1 tO rfl rfl rfl rfl rfl rfl rfl rfl rfl rfl rfl rfl rfl rfl rfl rfl rfl rfl rfl (fun _=>rfl) (ow) ([]) ((qG _).symm) (hown) oM fun _=>?_;intro v' ow' hown';refine uR ?_;exact⟨(i+1,v',ow'),⟨rfl,by rw[wi];rfl,trivial⟩,sB,trivial,sB,qG _,⟨hlt,by dsimp only;rw[zat hj,List.map_append,List.map_append,List.map_singleton,hrg];exact hown'⟩,Hp.Le.refl _,by dsimp only;omega⟩
 ·simp only[nN]at hlt;obtain rfl:i=o.length:=by omega
  rw[List.take_length]at hown;generalize hTe:(o.map fun j=>rows.getD j.toNat 0)=tu at *
  have htl:=hop.length_eq;rw[show o.length=tu.length by omega]at hown;(first|refine EVL.publishL [] ow [] ((qG _).symm) hown fun G7 hG7 hs7=>?_|refine EV.publishL [] ow [] ((qG _).symm) hown fun G7 hG7 hs7=>?_);have hil7:IL G7 (.slice a21 tu.length c21) tu:=hs7;rw[show o.length=tu.length by omega];have hH7:=hH5.trans (hG6.trans hG7);have hQ7:=hQ.mono (hG5.trans (hG6.trans hG7));refine uR ?_;refine EV.loopK (ι:=Nat × List Value × Value × Ows) [4,13,15,16,17,19,20,21] [15,16,19,20] (fun q=>[(24,.v q.2.2.1),(25,.v (.int .i64 (q.1:Int)))]) (fun _=>[]) (fun q=>q.2.2.2) (fun q G=>q.1≤X.length∧QVs G q.2.1 ((X.map fun x=>x.map fun z=>z*K+M).take q.1)∧zaS 40 1 q.2.2.1 q.1 q.2.1 q.2.2.2) (fun q=>X.length-q.1) ((0,[],.slice none 0 0,[])) rfl rfl ⟨rfl,rfl,trivial⟩ trivial rfl (fun _=>rfl) (⟨Nat.zero_le _,QVs.nil _,zaS.nil _ _⟩) ?_;rintro⟨i,us,v24,ow2⟩ G8 hG8 ⟨hi2,hus,hown2⟩;dsimp only at hi2 hus hown2;obtain⟨a24,c24,rfl⟩:=hown2.val;have wi2:IntKind.i64.wrap ((i:Int)+1)=((i+1:Nat):Int):=zai i oM;refine uR ?_;refine EV.cond rfl (fun hlt2=>?_) (fun hlt2=>?_)
  ·simp only[nN]at hlt2;obtain⟨x,hx⟩:=gE hlt2;obtain⟨hxl,hx5⟩:=hrows5 x (qF hx);have hyx:(X.map fun x=>x.map fun z=>z*K+M)[i]?=some (x.map fun z=>z*K+M):=by rw[List.getElem?_map,hx];rfl
   obtain⟨vs,hvs,hs⟩:=hQ7.mono hG8;obtain⟨a1,e1,hu1,hQx⟩:=hvs.at hx;have hun:=fun (G:Hp) (hG:G8.Le G)=>zg1 (K:=K) (M:=M) (hQx.mono hG) oM hx5 hKb hmb;refine uR ?_;apply EV.drawn 9 kR kR;intro xv yw;(repeat refine' DD ?_);refine' vJ (hs) (i) (rfl) (hlt2) (hu1) ?_;rotate_left;(repeat refine' DD ?_);refine' vB (cO func59) (fun G hG hd=>hun G hG) (fun _ _ _ h k=>QL.mono h k) ?_;rotate_left
   (refine' DJ.litD1 (Φ:=fun v G=>∃u,SlC G v 1 1 [u]∧QL G u (x.map fun z=>z*K+M)) (fun v G G' ⟨u,e,h⟩ k=>⟨u,e.mono k,QL.mono h k⟩) tO rfl rfl rfl rfl rfl rfl rfl rfl rfl rfl rfl (fun G hd=>by obtain⟨a,c,e⟩:=SlC.val (hd.head kR);rw[e];rfl) (fun G G' v hd hG h=>(by
    have hh:=hd.head kR;obtain⟨a,c,e⟩:=SlC.val hh;rw[e]at hh;rw[e]at h;exact⟨_,h,QL.mono hh hG⟩)) ?_;rotate_left)
   (refine DJ.nil (fun G9 hG9 hF9=>?_);(case hS|hS2=>rfl));obtain⟨u3,hs3,hp3⟩:=hF9.1;refine EVL.append tO rfl rfl rfl rfl rfl rfl rfl rfl rfl rfl rfl rfl [] ow2 [] (qG _).symm hown2 (zdR.ro hs3 (Nat.succ_pos 0)) (by obtain⟨a,c,e⟩:=SlC.val hp3;rw[e];rfl) oM ?_;intro v' ow' hown';refine uR ?_;exact⟨(i+1,us++[u3],v',ow'),⟨rfl,by rw[wi2];rfl,trivial⟩,sB,trivial,sB,qG _,⟨hlt2,by dsimp only;rw[zat hyx];exact(hus.mono hG9).snoc hp3,hown'⟩,hG9,by dsimp only;omega⟩
  ·simp only[nN]at hlt2;obtain rfl:i=X.length:=by omega
   rw[List.take_of_length_le (by rw[List.length_map];exact qH _)]at hus;(first|refine EVL.publishL [] ow2 [] ((qG _).symm) hown2 fun G9 hG9 hs9=>?_|refine EV.publishL [] ow2 [] ((qG _).symm) hown2 fun G9 hG9 hs9=>?_);have hZ:QLL G9 (.slice a24 X.length c24) (X.map fun x=>x.map fun z=>z*K+M):=⟨us,hus.mono hG9,by rw[List.length_map];exact hs9⟩;have hH9:=hH7.trans (hG8.trans hG9);have hP9:=hP.mono (hG3.trans (hG4.trans (hG5.trans (hG6.trans (hG7.trans (hG8.trans hG9))))));have hQ9:=hQ7.mono (hG8.trans hG9);have hu9:=fun (G:Hp) (hG:G9.Le G)=>(⟨la,ln,lc,va',vn',vc',rfl,hP9.mono hG⟩:∃la1 ln1 lc1 va1 vn1 vc1,zaB d.kd d.cl (.slice la ln lc) (.slice va' vn' vc')=zaB d.kd d.cl (.slice la1 ln1 lc1) (.slice va1 vn1 vc1)∧d.P G (.slice la1 ln1 lc1) (.slice va1 vn1 vc1));have hrows60:∀x,x∈X→x.length=W∧∀q,q∈x→ht q≤60:=fun x hx=>⟨(hrows5 x hx).1,fun q hq=>qI ((hrows5 x hx).2 q hq) oM⟩
   have hZ60:∀x,x∈(X.map fun x=>x.map fun z=>z*K+M)→x.length=W∧∀q,q∈x→ht q≤60:=fun y hy=>by
    obtain⟨x,hx,rfl⟩:=List.mem_map.1 hy;exact⟨by rw[List.length_map];exact(hrows5 x hx).1,zll (hrows5 x hx).2 hKb hmb⟩
   have g1:=fun (G:Hp) (hG:G9.Le G)=>zhS (D:=D) (least:=least) hd ⟨hN.1,by omega⟩ ⟨hW.1,by omega⟩ oM ⟨hl.1,by omega⟩ ⟨hg0,by omega⟩ (hu9 G hG) (hQ9.mono hG) rfl hrows60 (hr1.mono (hH9.trans hG)) oM oM hrin;have g2:=fun (G:Hp) (hG:G9.Le G)=>zhS (D:=D) (least:=least) hd ⟨hN.1,by omega⟩ ⟨hW.1,by omega⟩ oM ⟨hl.1,by omega⟩ ⟨hg0,by omega⟩ (hu9 G hG) (hQ9.mono hG) rfl hrows60 (hil7.mono (hG8.trans (hG9.trans hG))) oM oM (fun r hr=>hrin r (hop.mem_iff.1 hr));have g3:=fun (G:Hp) (hG:G9.Le G)=>zhS (D:=D) (least:=least) hd ⟨hN.1,by omega⟩ ⟨hW.1,by omega⟩ oM ⟨hl.1,by omega⟩ ⟨hg0,by omega⟩ (hu9 G hG) (hZ.mono hG) (by rw[List.length_map]) hZ60 (hr1.mono (hH9.trans hG)) oM oM hrin;obtain⟨_,ok1,gp1⟩:=g1 G9 (Hp.Le.refl _);obtain⟨_,ok3,_⟩:=g3 G9 (Hp.Le.refl _);have hmidI:∀a b:Rat,(a+b) / 2=(a+b) / 2:=fun a b=>rfl;have e2:=(zn2 (least:=least) (g:=g) (cols:=fun s=>(zcQ W,s)) (cols':=fun s=>(zcQ W,s)) (f:=fun q=>q) hd (fun x hx=>(hrows5 x hx).1) (fun a b=>Iff.rfl) hmidI (fun s s' c=>Iff.rfl) (fun s c=>zhc c)).grow gp1 D 0 rows tu 0 0 hop.symm hrin;have hmidF:∀a b:Rat,((a*K+M)+(b*K+M)) / 2=(a+b) / 2*K+M:=fun a b=>by rw[Rat.div_def,Rat.div_def];grind
   have hsim:=zn2 (least:=least) (g:=g) (cols:=fun s=>(zcQ W,s)) (cols':=fun s=>(zcQ W,s)) (f:=fun q=>q*K+M) hd (fun x hx=>(hrows5 x hx).1) (zpO hKp) hmidF (fun s s' c=>Iff.rfl) (fun s c=>zhc c);have e3:=hsim.grow gp1 D 0 rows rows 0 0 (List.Perm.refl _) hrin;rw[zjR,show (X.map fun x=>x.map fun q:Rat=>q)=X from by rw[show (fun x:List Rat=>x.map fun q:Rat=>q)=id from funext fun x=>List.map_id' x,List.map_id]]at e2;have g1':=fun (G:Hp) (hG:G9.Le G)=>(g1 G hG).1;have g2':=fun (G:Hp) (hG:G9.Le G)=>(g2 G hG).1;have g3':=fun (G:Hp) (hG:G9.Le G)=>(g3 G hG).1;rw[e3]at ok3;simp only[e2]at g2';simp only[e3]at g3';clear g1 g2 g3 e2 e3 hsim;generalize ((trP d X least g fun s=>(zcQ W,s)).grow D 0 rows 0).1=ns at *
   have hz3:(ns.map (zh3 fun q=>q*K+M)).length=ns.length:=List.length_map ..;refine uR ?_;refine vA (g1' _ (Hp.Le.refl _)) ?_;rintro _ Ga ⟨_,rfl,ta,tca,cssa,rfl,hna,hsa⟩ hGa;have hTa:zcS Ga [.int .i64 d.kd,.int .i64 d.cl,.int .i64 (W:Int),.slice ta ns.length tca] d.kd d.cl (W:Int) ns:=⟨ta,tca,cssa,rfl,hna,hsa⟩;refine uR ?_;refine vA (g2' _ hGa) ?_;rintro _ Gb ⟨_,rfl,tb,tcb,cssb,rfl,hnb,hsb⟩ hGb;have hTb:zcS Gb [.int .i64 d.kd,.int .i64 d.cl,.int .i64 (W:Int),.slice tb ns.length tcb] d.kd d.cl (W:Int) ns:=⟨tb,tcb,cssb,rfl,hnb,hsb⟩;refine uR ?_;refine vA (g3' _ (hGa.trans hGb)) ?_;rintro _ Gc ⟨_,rfl,tc,tcc,cssc,rfl,hnc,hsc⟩ hGc;have hTc:zcS Gc [.int .i64 d.kd,.int .i64 d.cl,.int .i64 (W:Int),.slice tc (ns.map (zh3 fun q=>q*K+M)).length tcc] d.kd d.cl (W:Int) (ns.map (zh3 fun q=>q*K+M)):=⟨tc,tcc,cssc,rfl,hnc,hsc⟩;have hHc:=hH9.trans (hGa.trans (hGb.trans hGc));have hl2:=ok1.len;dsimp only at hl2;refine uR ?_;refine EVL.call rfl rfl rfl rfl rfl (zpt (hTa.mono (hGb.trans hGc)) (hTb.mono hGc) oM ok1.smN) ?_;rintro _ Gd rfl hGd;refine uR ?_;rw[hz3]at hTc;rw[hz3,bne_self_eq_false];obtain⟨vs,hvs,hs⟩:=hQ9.mono (hGa.trans (hGb.trans (hGc.trans hGd)));obtain⟨x0,hx0⟩:∃x,X[0]?=some x:=⟨_,qA oM⟩;obtain⟨u0,f0,hu0,_⟩:=hvs.at hx0;rw[(hrows5 x0 (qF hx0)).1]at hu0;refine uR ?_;refine vI (hs) (0) (rfl) (oM) (hu0) ?_;refine uR ?_;refine EVL.call rfl rfl rfl rfl rfl (znL (hrw.mono (hG1.trans (hHc.trans hGd))) hrwb W oM) ?_;intro ve Ge hre hGe;have hqt:=zj8 (l:=row) W;have hql:=zec row W;generalize ziZ row W=q0 at *
   obtain⟨ea,ec,rfl⟩:=hre.val;refine uR ?_;refine EVL.call rfl rfl rfl rfl rfl (zeX hre oM (fun q hq=>ze0 (hqt q hq) oM)) ?_;intro vf Gf hqf hGf;obtain⟨qa,qc,rfl⟩:=SlC.val hqf;have hKf:=hGd.trans (hGe.trans hGf);refine uR ?_;refine EVL.call rfl rfl rfl rfl rfl (zli (hTa.mono (hGb.trans (hGc.trans hKf))) ok1 hqf oM (fun q hq=>zaC (hqt q hq) oM)) ?_;rintro _ Gg ⟨j1,rfl,hL1⟩ hGg
   have hL3:=hL1.sim (f:=fun q=>q*K+M) (zpO hKp) (x':=q0.map fun z=>z*K+M) (w:=(W:Int)) (fun c hc=>by
    have:c.toNat<q0.length:=by omega
    simp[qB,this]) ok1.cols
   have hun:=fun (G:Hp) (hG:Gg.Le G)=>zg1 (K:=K) (M:=M) (hqf.mono (hGg.trans hG)) oM hqt hKb hmb;have hlf:=fun (G:Hp) (hG:Gg.Le G) (v:Value) (hv:QL G v (q0.map fun z=>z*K+M))=>(zli (hTc.mono (hKf.trans (hGg.trans hG))) ok3 hv (by rw[List.length_map];omega) (fun q hq=>zaC (zll hqt hKb hmb q hq) oM)).mono (Ψ:=fun r _=>r=.tuple #[.int .i64 (j1:Int),.int .i64 0]) (by rintro r G' ⟨j,rfl,hj⟩ _;rw[hj.det hL3]);refine uR ?_;apply EV.drawn 10 kR kR;intro xv yw;(repeat refine' DD ?_);refine' vB (cO func59) (fun G hG hd=>hun G hG) (fun _ _ _ h k=>QL.mono h k) ?_;rotate_left;refine' vC (cO func40) (fun G hG hd=>hlf G hG _ (hd.head kR)) ?_;rotate_left;(repeat refine' DD ?_);(refine DJ.nil (fun G hG hF=>?_);(case hS|hS2=>rfl));refine uR ?_;rw[beq_self_eq_true]
end
section
open Go Go.RowKit
theorem zgM {P:Program} {W:World} {n:String} {d:DataW Unit}:∀{l:List (String × DataW Unit)} {ps:List MemPlace},DataW.LaidVars P W l ps→(n,d)∈l →
  ∃p,DataW.LaidVars P W [(n,d)] p
 | [],_,_,h=>by cases h
 | (m,x)::r,ps,h,hm=>by
  obtain⟨g,t,cs,fuel,p,q,h1,h2,h3,h4,h5,h6⟩:=h;rcases List.mem_cons.1 hm with hm | hm
  ·cases hm;exact⟨_,g,t,cs,fuel,p,[],h1,h2,h3,h4,rfl,rfl⟩
  ·exact zgM h5 hm
theorem zqO {P:Program} {l:List (String × DataW Unit)} {W:World} (h:laidMet P l W) {n:String} {zs:List Nat} {g:Nat} {T e:TypeId} (hmem:(n,.agg (zs.map fun (z:Nat)=>.lit (.int .u8 z)))∈l) (hg:P.globalNamed n=some g) (ht:(P.globals[g]?).map (·.type)=some T)
  (hT:P.underlying T=some (.array zs.length e)) (he:P.underlying e=some (.int .u8)) (hc:P.cellsOf e=1) (hcT:P.cellsOf T=zs.length) :
  ∃U fz,W.heap[g]?=some (.cells (zs.map fun (z:Nat)=>Value.int .u8 (z:Int)).toArray U fz):=by
 obtain⟨ps,hl,_⟩:=h;obtain⟨p0,g',t,cs,fuel,p,q,hg',ht',hv,hd,_,_⟩:=zgM hl hmem;obtain rfl:=Option.some.inj (hg.symm.trans hg');obtain rfl:=Option.some.inj (ht.symm.trans ht');obtain⟨xs,m,_,ex,hcl,hlen,hel⟩:=DataW.trod_array hT hd
 have hb:∃U fz,W.heap[g]?=some (.cells cs U fz):=by
  simp only[World.var?,hg,Option.bind_some]at hv;split at hv
  ·rename_i c U fz hc';cases hv;exact⟨U,fz,hc'⟩
  ·cases hv
 obtain⟨U,fz,hb⟩:=hb;refine⟨U,fz,?_⟩;rw[hb];congr 2;apply Array.ext';rw[hcT]at hcl;have e3:(xs.map (·.1))=zs.map fun (n:Nat)=>.lit (.int .u8 n):=(DataW.agg.inj (Prod.mk.inj ex).1).symm;apply List.ext_getElem?;intro r;rcases Nat.lt_or_ge r zs.length with hr | hr
 ·have hE:=hel r hr;rw[hc,Nat.mul_one,qA (by omega)]at hE;obtain⟨z,e1,e2,_⟩:=DataW.trod_int he hE;have e4:(xs.map (·.1))[r]?=(zs.map fun (n:Nat)=>(DataW.lit (.int .u8 n):DataW Unit))[r]?:=by rw[e3]
  rw[List.getElem?_map,List.getElem?_map,qA (by omega:r<xs.length),qA hr,e2]at e4;simp only[Option.map_some,Option.some.injEq,DataW.lit.injEq,Lit.int.injEq,true_and]at e4;have h0:((cs.toList.drop r).take 1)[0]?=some (.int .u8 z):=by rw[e1];rfl
  simp only[List.getElem?_take,List.getElem?_drop,Nat.add_zero]at h0;rw[if_pos (by omega)]at h0;rw[h0,e4];simp[hr]
 ·rw[List.getElem?_eq_none oM,List.getElem?_eq_none (by simpa using hr)]
theorem fits_gH {l:List (String × DataW Unit)} {W:World} (h:laidMet Tryz.prog l W) (hmem:("math/bits.deBruijn64tab", .agg (Lib.deBruijn64tab.map fun (z:Nat)=>.lit (.int .u8 z)))∈l):Fits gH W:=fun b c hb=>by
 unfold gH at hb;split at hb
 ·rename_i hbb;cases hb;obtain rfl:=Nat.eq_of_beq_eq_true hbb;exact zqO h hmem kR kR Tryz.underlying321 Tryz.underlying5 kR kR
 ·cases hb
end
end Go.Proofs.YtifcjfodgicngaaGreatDoor
