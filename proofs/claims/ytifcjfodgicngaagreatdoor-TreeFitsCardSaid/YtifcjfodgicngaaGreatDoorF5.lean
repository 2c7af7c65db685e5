/- Texts of ours in one: Th9, LaidE. -/
import Derived.Test.YtifcjfodgicngaaGreatDoorF0
import Derived.Test.YtifcjfodgicngaaGreatDoorF1
import Derived.Test.YtifcjfodgicngaaGreatDoorF4
import Derived.ProofKit
import Derived.OpenShut
import Derived.LaidMore
import Derived.Lay
import Derived.Stop.Joined
set_option linter.unusedVariables false
set_option linter.unusedSimpArgs false
set_option maxHeartbeats 64000000
namespace Go.Proofs.YtifcjfodgicngaaGreatDoor
section
open Go.RowKit _root_.Go.Proofs.Tryz
set_option maxRecDepth 100000 in
theorem treeFits_pc {H:Hp} {vx:Value} (hx:zpW H vx):PC prog 3 #[vx] H fun r _=>r=.bool true:=by
 have ho1:=znb hx;obtain⟨_,_,_,_,_,_,_,_,_,_,_,_,rfl,_⟩:=hx;refine BD func3 ntmps3 ?_;refine uR ?_;refine vA (ho1) ?_;rintro r1 G1 ⟨kd,cl,least,gn,ga,va,p1,q1,gl,gc,vn,vc,N,W,D,l1,c1,l2,c2,vX,vR,b1,lg,ll,lr,rfl,hg1,hX1,hr1,hq1,hN,hW,hD,hl⟩ hG1;obtain⟨d,hd,hR,hcl4⟩:=hg1.gd (ze4 _ _) (znu N);have hlen:=zf0 ll N W;have hrows60:=fun x hx=>zl0 (l:=ll) (n:=N) (w:=W) x hx;generalize zeU ll N W=X at *
 have hrl:=zlY (l:=lr) hN.1 hN.2;have hrin:=znx (l:=lr) hN.1;generalize zbY lr N=rows at *
 obtain⟨hg0,hg5⟩:=zqG gn;generalize zo4 gn=g at *
 obtain⟨bR,offR,capR,cR,rfl,hcR,hcellR⟩:=SlC.expl (show SlC G1 vR rows.length 1 (rows.map iv) from hr1) oM;subst hlen;have hgr:rq g:=by unfold rq;omega
 refine uR ?_;refine EVL.call rfl rfl rfl rfl rfl (hd.inGoal oM hR) ?_;rintro _ G2 ⟨la,ln,lc,va',vn',vc',rfl,hP⟩ hG2;refine uR ?_;refine vA (zlC (RQ.mono hq1 hG2) hgr) ?_;rintro _ G3 rfl hG3;refine uR ?_;refine EVL.call rfl rfl rfl rfl rfl (zio (hX1.mono (hG2.trans hG3)) oM (fun x hx=>⟨by rw[(hrows60 x hx).1];omega,fun q hq=>zkQ ((hrows60 x hx).2 q hq) oM⟩)) ?_;intro v4 G4 hQ hG4;obtain⟨vs0,hvs0,hs0⟩:=id hQ;obtain⟨xa,xc,rfl⟩:=hQ.val;have hH4:=hG2.trans (hG3.trans hG4);have hP4:=hP.mono (hG3.trans hG4);have g1:=fun (G:Hp) (hG:G4.Le G)=>zpe (D:=D) (least:=least) hd ⟨hN.1,by omega⟩ ⟨hW.1,by omega⟩ oM ⟨hl.1,by omega⟩ ⟨hg0,by omega⟩ ⟨la,ln,lc,va',vn',vc',rfl,hP4.mono hG⟩ (hQ.mono hG) rfl hrows60 (hr1.mono (hH4.trans hG)) oM oM hrin;obtain⟨_,ok1,gp1⟩:=g1 G4 (Hp.Le.refl _);have g1':=fun (G:Hp) (hG:G4.Le G)=>(g1 G hG).1;obtain⟨S0,wo0,hpg⟩:=hd.pgoal (H:=G4) hN.1 oM hP4 (p:=trP d X least g fun s=>(zcL W,s)) rfl rfl rfl rfl;have hsub:=(zjE gp1 D 0 rows 0 oM oM hrin _ (fun j n hj=>by rw[Nat.zero_add];exact hj)).1;rw[Nat.zero_add]at hsub;obtain⟨Wf,hWf⟩:=Classical.axiomOfChoice (fun r:Int=>hsub.path (X.getD r.toNat []));have hfit:=zkw gp1 (cols:=zcL W) (fun s=>rfl) D 0 rows 0 oM hrin (At.self _);have hway:=zlZ gp1 (cols:=zcL W) (fun s=>rfl) D 0 rows 0 hrin (At.self _) Wf (fun r _=>hWf r);have hwin:=fun r=>zfR gp1 D 0 rows 0 hrin (At.self _) (Wf r) (hWf r);have hwnd:=fun r=>zlM gp1 D 0 rows 0 hrin (At.self _) (Wf r) (hWf r);have hroot:=zlF gp1 D 0 rows 0 hrin;have hl1:=zd2 gp1 D 0 rows 0 oM hrin;have hpos:=(GP.grow_len (trP d X least g fun s=>(zcL W,s)) D 0 rows 0).1;clear g1;generalize hpe:(trP d X least g fun s=>(zcL W,s))=p at *
 have hpX:p.X=X:=by rw[←hpe]
 have hpl:p.least=least:=by rw[←hpe]
 have hpga:p.gain=g:=by rw[←hpe]
 generalize (p.rowsAt (zcL W) D rows)=RA at *
 generalize (p.grow D 0 rows 0).1=ns at *
 obtain⟨hRAl,hfit⟩:=hfit;have h1l:ns.length≤40:=by omega
 refine uR ?_;refine vA (g1' _ (Hp.Le.refl _)) ?_;rintro _ Ga ⟨_,rfl,ta,tca,cssa,rfl,hna,hsa⟩ hGa;have hTa:zds Ga [.int .i64 d.kd,.int .i64 d.cl,.int .i64 (W:Int),.slice ta ns.length tca] d.kd d.cl (W:Int) ns:=⟨ta,tca,cssa,rfl,hna,hsa⟩;have hpck:=fun (G:Hp) (hG:Ga.Le G)=>zbN (hTa.mono hG) ok1;have hdep:=fun (G:Hp) (hG:Ga.Le G)=>znO (hTa.mono hG) ok1 hsub;refine uR ?_;apply EV.drawn 18 kR kR;intro xv yw;(repeat (first|refine' DD ?_|(refine' DC (zlD) (h:=?_);rotate_left)));refine' vC (cO func15) (fun G hG hd=>hpck G hG) ?_;rotate_left;(repeat refine' DD ?_);refine' vB (cO func16) (fun G hG hd=>hdep G hG) (fun _ _ _ h k=>h) ?_;rotate_left;(repeat refine' DD ?_)
 (refine' DJ.plainE tO (fun v _=>v=.bool false) (fun _ _ _ h _=>h) rfl rfl rfl (fun G hd=>(by
  obtain⟨z,e,hz⟩:=hd.head kR;refine⟨.bool (decide (z>(D:Int))),?_,?_⟩
  ·rw[e];rfl
  ·rw[qC (by omega)])) ?_;rotate_left)
 (refine' DJ.plainE tO (fun v _=>v=.bool false) (fun _ _ _ h _=>h) rfl rfl rfl (fun G hd=>⟨.bool false,by rw[hd.head (by kernel_rfl)];rfl,rfl⟩) ?_;rotate_left);(refine DJ.nil (fun G5 hG5 hF5=>?_);(case hS|hS2=>rfl));obtain⟨e17,_⟩:=hF5;rw[e17];refine uR ?_;refine EVL.make tO rfl rfl rfl rfl rfl rfl rfl rfl rfl (ns.length) (rfl) oM (by rfl) (by rfl) fun gEd=>?_;(first|refine EVL.swapOw ((gEd,22,List.replicate ns.length (Value.slice none 0 0))::(List.replicate ns.length ([]:Ows)).flatten) ([]) ((by rw[show (Tryz.te22).zero=[Value.slice none 0 0] from rfl,zd1,zii];rfl)) ?_|refine EV.swapOw ((gEd,22,List.replicate ns.length (Value.slice none 0 0))::(List.replicate ns.length ([]:Ows)).flatten) ([]) ((by rw[show (Tryz.te22).zero=[Value.slice none 0 0] from rfl,zd1,zii];rfl)) ?_);have hK5:G4.Le G5:=hGa.trans hG5;refine uR ?_;refine EV.loopK (ι:=Nat × List Value × List Ows) [5,7,8,9,10,12] [7,8,10] (fun q=>[(13,.v (.int .i64 (q.1:Int)))]) (fun _=>[]) (fun q=>(gEd,22,q.2.1)::q.2.2.flatten) (fun q _=>q.1≤rows.length∧zoc 3 q.2.1 (zdj Wf ns.length (rows.take q.1) 0 []) q.2.2) (fun q=>rows.length-q.1) ((0,List.replicate ns.length (.slice none 0 0),List.replicate ns.length [])) rfl rfl ⟨rfl,trivial⟩ trivial rfl (fun _=>rfl) (⟨Nat.zero_le _,by rw[List.take_zero,zmM];exact zoc.nils _ _⟩) ?_;rintro⟨i,vs,ows⟩ G6 hG6 ⟨hi,hm⟩;dsimp only at hi hm;have wi:IntKind.i64.wrap ((i:Int)+1)=((i+1:Nat):Int):=zai i oM;refine uR ?_;refine EV.cond rfl (fun hlt=>?_) (fun hlt=>?_)
 ·simp only[nN]at hlt;obtain⟨r,hr⟩:=gE hlt;have hrb:=hrin r (qF hr);obtain⟨R,rfl⟩:=Int.eq_ofNat_of_zero_le hrb.1;obtain⟨x,hx⟩:∃x,X[R]?=some x:=⟨_,qA oM⟩;obtain⟨hxl,hx60⟩:=hrows60 x (qF hx);obtain⟨a1,f1,hu1,hQx⟩:=hvs0.at hx;have hxg:X.getD ((R:Int)).toNat []=x:=by rw[Int.toNat_natCast,qB,hx];rfl
  have hWR:=hWf (R:Int);rw[hxg]at hWR;have hwa:=fun (G:Hp) (hG:G6.Le G)=>zrG (hTa.mono (hG5.trans (hG6.trans hG))) ok1 (hQx.mono (hK5.trans (hG6.trans hG))) oM (fun q hq=>zaG (hx60 q hq) oM);have hrI:=hr1.mono (hH4.trans (hK5.trans hG6));have hsI:=hs0.mono (hK5.trans hG6);refine uR ?_;apply EV.drawn 14 kR kR;intro xv yw;(repeat refine' DD ?_);refine' vJ (hrI) (i) (rfl) (hlt) ((by rw[List.getElem?_map,hr];rfl)) ?_;rotate_left;(repeat refine' DD ?_);refine' vJ (hsI) (R) (rfl) (oM) (hu1) ?_;rotate_left;(repeat refine' DD ?_);refine' vB (cO func17) (fun G hG hd=>hwa G hG) (fun _ _ _ h k=>(by obtain⟨l,v,e,h1,h2,h3⟩:=h;exact⟨l,v,e,SlC.mono h1 k,h2,h3⟩)) ?_;rotate_left;refine' DJ.copy (8) (by first|exact .inl rfl|exact .inr rfl) rfl rfl rfl id rfl kR ?_;rotate_left;refine' DJ.extract (8) rfl rfl rfl rfl rfl kR (fun G hd=>(by obtain⟨l,v,e,_⟩:=hd.head kR;exact⟨_,e,Nat.zero_lt_succ _⟩)) ?_;rotate_left;refine' DJ.extract (8) rfl rfl rfl rfl rfl kR (fun G hd=>(by obtain⟨l,v,e,_⟩:=hd.head kR;exact⟨_,e,Nat.lt_succ_self _⟩)) ?_;rotate_left;refine' DJ.copy (8) (.inr rfl) rfl rfl rfl (zdI 0) rfl kR ?_;rotate_left;refine' DJ.copy (8) (.inr rfl) rfl rfl rfl (zdI 1) rfl kR ?_;rotate_left;(refine DJ.nil (fun G8 hG8 hF8=>?_);(case hS|hS2=>rfl));obtain⟨⟨A,v8,e8,hA,hpA,hlA⟩,_⟩:=hF8;obtain rfl:=hpA.det hWR
  have hA0:0<(Wf (R:Int)).length:=by
   have hh:=hpA;generalize Wf (R:Int)=l at hh ⊢;cases hh <;> simp
  obtain⟨bA,offA,capA,cA,rfl,hcA,hcellA⟩:=SlC.expl (show SlC G8 v8 (Wf (R:Int)).length 1 ((Wf (R:Int)).map iv) from hA) hA0;rw[e8];rw[show zdI 1 (Value.tuple #[.slice (some ⟨bA,offA,none⟩) (Wf (R:Int)).length capA,.int .i64 0])=.int .i64 0 from rfl,show zdI 0 (Value.tuple #[.slice (some ⟨bA,offA,none⟩) (Wf (R:Int)).length capA,.int .i64 0])=.slice (some ⟨bA,offA,none⟩) (Wf (R:Int)).length capA from rfl];refine uR ?_;refine EV.loopK (ι:=Nat × List Value × List Ows) [5,7,8,9,10,12,13,14] [7,8,10] (fun q=>[(16,.v (.int .i64 (q.1:Int)))]) (fun _=>[]) (fun q=>(gEd,22,q.2.1)::q.2.2.flatten) (fun q _=>q.1≤(Wf (R:Int)).length∧zoc 3 q.2.1 (zdj Wf ns.length (rows.take i) (R:Int) ((Wf (R:Int)).take q.1)) q.2.2) (fun q=>(Wf (R:Int)).length-q.1) ((0,vs,ows)) rfl rfl ⟨rfl,trivial⟩ trivial rfl (fun _=>rfl) (⟨Nat.zero_le _,by dsimp only;rw[List.take_zero,zmL _ _ _ _ 0];exact hm⟩) ?_;rintro⟨k,us,os⟩ Gk hGk ⟨hk,hmk⟩;dsimp only at hk hmk;have wk:IntKind.i64.wrap ((k:Int)+1)=((k+1:Nat):Int):=zai k oM;refine uR ?_;refine EV.cond rfl (fun hlk=>?_) (fun hlk=>?_)
  ·simp only[nN]at hlk;obtain⟨z,hz⟩:∃z,(Wf (R:Int))[k]?=some z:=⟨_,qA hlk⟩;have hzb:=hwin (R:Int) z (qF hz);have hznot:=zpc (hwnd (R:Int)) hz;have hzt:=zat hz;obtain⟨J,rfl⟩:=Int.eq_ofNat_of_zero_le (show 0≤z by omega);have hJ:J<ns.length:=by omega
   have hol:os.length=ns.length:=by rw[hmk.2.1,zbR]
   have hul:us.length=ns.length:=by rw[hmk.1,zbR]
   obtain⟨OA,o,OB,rfl,rfl⟩:=zpb (l:=os) (k:=J) oM;obtain⟨v,hv⟩:∃v,us[OA.length]?=some v:=⟨_,qA oM⟩;have heJ:=zcX (W:=Wf) (done:=rows.take i) (r:=(R:Int)) (q:=(Wf (R:Int)).take k) hJ;rw[if_neg hznot,qG]at heJ;have hown:=hmk.2.2 OA.length v _ o hv heJ (by rw[List.getElem?_append_right (qH _),Nat.sub_self];rfl);have hfl:((rows.take i).filter fun r=>decide (((OA.length:Nat):Int)∈Wf r)).length≤20:=qI (List.length_filter_le _ _) (by rw[List.length_take];omega);obtain⟨va1,vc1,rfl⟩:=hown.val;have hKk:G4.Le Gk:=hK5.trans (hG6.trans (hG8.trans hGk));have hcRk:=hKk _ _ (hH4 _ _ hcR);have hcAk:=hGk _ _ hcA;refine uR ?_;refine EVG.start (fun W=>Box W gEd us.toArray 22∧Fits Gk W) (some 19) ?_;refine IV 0 ?_;refine IV 1 ?_;refine IV 2 ?_;refine IX 3 (q:=k) (m:=(Wf (R:Int)).length) ?_ rfl hlk;refine IRQ 4 (H0:=Gk) (b:=bA) (off:=offA+k*1) (l:=[.int .i64 (OA.length:Int)]) (fun _ h=>h.2) ?_ hcAk (zhn (by rw[Nat.mul_one];exact hcellA k _ (by rw[List.getElem?_map,hz];rfl))) rfl rfl;refine IV 5 ?_;refine IV 6 ?_;refine IV 7 ?_;refine IX 8 (q:=k) (m:=(Wf (R:Int)).length) ?_ rfl hlk;refine IRQ 9 (H0:=Gk) (b:=bA) (off:=offA+k*1) (l:=[.int .i64 (OA.length:Int)]) (fun _ h=>h.2) ?_ hcAk (zhn (by rw[Nat.mul_one];exact hcellA k _ (by rw[List.getElem?_map,hz];rfl))) rfl rfl;refine IX 10 (q:=OA.length) (m:=ns.length) ?_ rfl hJ
   refine ILQ 11 (b:=gEd) (off:=0+OA.length*1) (te:=Tryz.te22) (cs:=us) (l:=[.slice va1 ((rows.take i).filter fun r=>decide (((OA.length:Nat):Int)∈Wf r)).length vc1]) (fun _ h=>h.1) ?_ (by
    obtain⟨h1,h2⟩:=qE.1 hv;rw[Nat.zero_add,Nat.mul_one,List.drop_eq_getElem_cons h1,h2];rfl) rfl rfl
   refine IV 12 ?_;refine IV 13 ?_;refine IX 14 (q:=i) (m:=rows.length) ?_ rfl hlt;refine IRQ 15 (H0:=Gk) (b:=bR) (off:=offR+i*1) (l:=[.int .i64 (R:Int)]) (fun _ h=>h.2) ?_ hcRk (zhn (by rw[Nat.mul_one];exact hcellR i _ (by rw[List.getElem?_map,hr];rfl))) rfl rfl;refine EVG.one 16 (zmW (p:=(gEd,22,us)) (jj:=0) (.inr rfl) (Hp.Le.refl _)) kR rfl ?_;refine EVL.lit tO rfl rfl rfl rfl rfl rfl rfl rfl rfl rfl rfl fun bl=>?_;refine EVL.nil ⟨rfl,?_⟩;refine EVG.one 17 (zmW (p:=(gEd,22,us)) (jj:=1) (.inr rfl) (Hp.Le.refl _)) kR rfl ?_;refine EVL.append tO rfl rfl rfl rfl rfl rfl rfl rfl rfl rfl rfl rfl ((bl,_,_)::(gEd,_,_)::OA.flatten) o OB.flatten (by rw[List.flatten_append,List.flatten_cons];rfl) hown (zel.own 0 rfl rfl) rfl oM ?_;intro v2 o2 hown2;refine EVL.subOw [] [(bl,_,_)] _ rfl ?_;refine EVL.nil ⟨rfl,?_⟩;refine EVG.one 18 (zmW (p:=(gEd,22,us)) (jj:=0) (.inr rfl) (Hp.Le.refl _)) kR rfl ?_;refine EVL.idxB tO rfl rfl rfl rfl rfl rfl rfl rfl rfl (OA.length) (OA.length*1) (rfl) (hJ) (rfl) ?_;rw[Nat.mul_one];refine EVL.nil ⟨rfl,?_⟩;refine EVG.one 19 (zmW (p:=(gEd,22,us)) (jj:=0) (.inr rfl) (Hp.Le.refl _)) kR rfl ?_;obtain⟨va2,vc2,rfl⟩:=hown2.val;refine EVL.set1 tO rfl rfl rfl rfl rfl rfl rfl rfl rfl rfl ((show OA.length<us.length by omega)) ?_;refine EVL.nil ⟨rfl,?_⟩;refine EVG.nil (zmW (p:=(gEd,22,us)) (jj:=0) (.inl kR) (Hp.Le.refl _)) kR ?_;refine uR ?_;refine⟨(k+1,us.set OA.length (.slice va2 (((rows.take i).filter fun r=>decide (((OA.length:Nat):Int)∈Wf r)).length+1) vc2),OA++o2::OB),⟨by rw[wk];rfl,trivial⟩,sB,trivial,sB,?_,⟨hlk,?_⟩,Hp.Le.refl _,by dsimp only;omega⟩
   ·dsimp only;rw[List.flatten_append,List.flatten_cons];rfl
   ·dsimp only;rw[hzt,←zlv hznot];refine hmk.put ?_;rw[List.map_append,List.length_append];exact hown2
  ·simp only[nN]at hlk;obtain rfl:k=(Wf (R:Int)).length:=by omega
   rw[List.take_length,zmN (r':=0),←zat hr]at hmk;refine uR ?_;exact⟨(i+1,us,os),⟨by rw[wi];rfl,trivial⟩,sB,trivial,sB,rfl,⟨hlt,hmk⟩,hG8.trans hGk,by dsimp only;omega⟩
 ·simp only[nN]at hlt;obtain rfl:i=rows.length:=by omega
  rw[List.take_length]at hm;have hvl:vs.length=ns.length:=by rw[hm.1,zbR]
  refine EV.pubM ows [(gEd,22,vs)] [] hm (by rw[qG];rfl) rfl fun G7 hG7 hIL=>?_;(first|refine EVL.publish [] [] rfl (fun G8 hG8 hb8=>?_)|refine EV.publish [] [] rfl (fun G8 hG8 hb8=>?_));have hE8:SlC G8 (.slice (some ⟨gEd,0,none⟩) ns.length ns.length) ns.length 1 vs:=⟨by rw[hvl,Nat.mul_one],.inr ⟨gEd,0,ns.length,vs.toArray,rfl,qH _,hb8,fun j y hy=>by rw[Nat.zero_add];simpa using hy⟩⟩;have hIL8:=hIL.mono hG8;have hK8:G4.Le G8:=hK5.trans (hG6.trans (hG7.trans hG8));have hA8:Ga.Le G8:=hG5.trans (hG6.trans (hG7.trans hG8))
  have hRk:∀k,k<ns.length→∃R n,RA[k]?=some R∧ns[k]?=some n∧OfR p n R∧(∀r,r∈R→0≤r∧r<(p.X.length:Int))∧(zdj Wf ns.length rows 0 [])[k]?=some R∧(n.col = -1∨(0≤n.col∧0≤n.left∧0≤n.right∧∃a b,ns[n.left.toNat]?=some a∧ns[n.right.toNat]?=some b∧p.gain<n.cost-a.cost-b.cost∧p.least≤a.rows∧p.least≤b.rows)):=fun k hk=>by
   obtain⟨R,hR⟩:∃R,RA[k]?=some R:=⟨_,qA oM⟩;obtain⟨n,h1,h2,h3,_,h5⟩:=hfit.node k R hR;rw[Nat.zero_add]at h1;refine⟨R,n,hR,h1,h2,h3,?_,h5⟩;rw[zcX hk,if_neg List.not_mem_nil,qG];have:=hway k R hR;rw[Nat.zero_add]at this;rw[←this]
  have hRlen:∀(k:Nat) (R:List Int),RA[k]?=some R→R.length≤20:=fun k R hR=>by
   rw[hway k R hR];exact qI (List.length_filter_le _ _) oM
  refine uR ?_;refine EV.loopK (ι:=Nat) [7,8,10,12] [7,8,10] (fun k=>[(17,.v (.int .i64 (k:Int)))]) (fun _=>[]) (fun _=>[]) (fun k _=>k≤ns.length) (fun k=>ns.length-k) (0) rfl rfl ⟨rfl,trivial⟩ trivial rfl (fun _=>rfl) (Nat.zero_le _) ?_;rintro k Gk hGk hk;have wk:IntKind.i64.wrap ((k:Int)+1)=((k+1:Nat):Int):=zai k oM;have hAk:=hA8.trans hGk;have hnak:=hna.mono hAk;have hsak:=hsa.mono hAk;refine uR ?_;refine EV.cond rfl (fun hlk=>?_) (fun hlk=>?_)
  ·simp only[nN]at hlk;obtain⟨R,n,hR,hn,ho,hRb,heR,hcut⟩:=hRk k hlk;have hR20:=hRlen k R hR;have hnm:=qF hn;obtain⟨c,hcn,hnd⟩:=hnak.get hn;obtain⟨a7,c7,rfl,hcts⟩:=hnd.cells;obtain⟨v,hvk⟩:∃v,vs[k]?=some v:=⟨_,qA oM⟩;have hvR:=(hIL8.mono hGk).2 k v R hvk heR;obtain⟨va1,vc1,rfl⟩:=SlC.val hvR;have hE:=hE8.mono hGk;have hpgk:=hpg.mono (hK8.trans hGk);have hex:=zhb hRb;have hcost:=fun (G:Hp) (hG:Gk.Le G)=>hpgk.cost G hG _ _ (hvR.mono hG) oM;have hmean:=fun (G:Hp) (hG:Gk.Le G)=>hpgk.mean G hG _ _ (hvR.mono hG) oM;have htop:=fun (G:Hp) (hG:Gk.Le G)=>hpgk.top G hG _ _ (hvR.mono hG) oM;have hcnt:=fun (G:Hp) (hG:Gk.Le G)=>hpgk.counts G hG _ _ (hvR.mono hG) oM;have hcl:=hpgk.cntlen R;simp only[hex]at hcost hmean htop hcnt;have hsm:=ok1.smN n hnm
   have hcm1:PV prog 18 #[zab n.cost,zab (p.cost R)] (.int .i64 0):=by
    have:=zcN n.cost n.cost hsm.2.1 hsm.2.1;rw[zfO]at this;rw[←ho.cost];exact this
   have hcm2:PV prog 18 #[zab n.value,zab (p.mean R)] (.int .i64 0):=by
    have:=zcN n.value n.value hsm.2.2.1 hsm.2.2.1;rw[zfO]at this;rw[←ho.value];exact this
   have hsi:=fun (G:Hp) (hG:Gk.Le G) (u:Value) (hu:IL G u (p.cnt R))=>zjY (hcts.mono hG) (by rw[ho.counts];exact hu) (by rw[ho.counts];omega);have hrw1:(n.rows != (R.length:Int))=false:=by rw[ho.rows];exact bne_self_eq_false _
   have hrw2:(n.cls != ((topN (p.cnt R) (p.cnt R).length:Nat):Int))=false:=by rw[ho.cls];exact bne_self_eq_false _
   refine uR ?_;refine EVL.idxM tO rfl rfl rfl rfl rfl rfl rfl rfl rfl (hsak) (k) (rfl) (hlk) (hcn) ?_;refine uR ?_;apply EV.drawn 55 kR kR;intro xv yw;(repeat refine' DD ?_);refine' vJ (hE) (k) (rfl) ((show k<ns.length by omega)) (hvk) ?_;rotate_left;(repeat refine' DD ?_);rw[hrw1];(repeat refine' DD ?_);refine' vJ (hE) (k) (rfl) ((show k<ns.length by omega)) (hvk) ?_;rotate_left;(repeat refine' DD ?_);refine' vC (cO func19) (fun G hG hd=>hcost G hG) ?_;rotate_left;(repeat (first|refine' DD ?_|(refine' DC (hcm1) (h:=?_);rotate_left)));refine' vJ (hE) (k) (rfl) ((show k<ns.length by omega)) (hvk) ?_;rotate_left;(repeat refine' DD ?_);refine' vC (cO func20) (fun G hG hd=>hmean G hG) ?_;rotate_left;(repeat (first|refine' DD ?_|(refine' DC (hcm2) (h:=?_);rotate_left)));refine' vJ (hE) (k) (rfl) ((show k<ns.length by omega)) (hvk) ?_;rotate_left;(repeat refine' DD ?_);refine' vC (cO func21) (fun G hG hd=>htop G hG) ?_;rotate_left;(repeat refine' DD ?_);rw[hrw2];(repeat refine' DD ?_);refine' vJ (hE) (k) (rfl) ((show k<ns.length by omega)) (hvk) ?_;rotate_left;(repeat refine' DD ?_);refine' vB (cO func23) (fun G hG hd=>hcnt G hG) (fun _ _ _ h k=>SlC.mono h k) ?_;rotate_left;refine' vC (cO func22) (fun G hG hd=>hsi G hG _ (hd.head kR)) ?_;rotate_left;(repeat refine' DD ?_);(refine DJ.nil (fun G9 hG9 hF9=>?_);(case hS|hS2=>rfl));refine uR ?_;rcases hcut with hc1|⟨hc0,hle0,hri0,a,b,ha,hb,hgn,hla,hlb⟩
   ·rw[qC (show ¬n.col≥0 by omega)];refine uR ?_;refine⟨k+1,⟨by rw[wk];rfl,trivial⟩,sB,trivial,sB,rfl,hlk,hG9,by omega⟩
   ·rw[qD (show n.col≥0 from hc0)];have hsa9:=hsak.mono hG9;obtain⟨ca,hcna,hnda⟩:=(hnak.mono hG9).get ha;obtain⟨a8,c8,rfl,_⟩:=hnda.cells;obtain⟨cb,hcnb,hndb⟩:=(hnak.mono hG9).get hb;obtain⟨a9,c9,rfl,_⟩:=hndb.cells;have hal:=(qE.1 ha).1;have hbl:=(qE.1 hb).1;have hsma:=ok1.smN a (qF ha);have hsmb:=ok1.smN b (qF hb)
    have hca:ht a.cost≤2000000:=by
     obtain⟨m,hm',ho',_⟩:=ok1.nodes _ hal;cases hm'.symm.trans ha;exact ho'.small.2.1
    have hcb:ht b.cost≤2000000:=by
     obtain⟨m,hm',ho',_⟩:=ok1.nodes _ hbl;cases hm'.symm.trans hb;exact ho'.small.2.1
    have hcn':ht n.cost≤2000000:=by
     obtain⟨m,hm',ho',_⟩:=ok1.nodes _ hlk;cases hm'.symm.trans hn;exact ho'.small.2.1
    have hs1:=zgO n.cost a.cost hsm.2.1 hsma.2.1;have h5:=zgy n.cost a.cost;have hs2:=zgO (n.cost-a.cost) b.cost (by unfold sm;omega) hsmb.2.1;have h6:=zgy (n.cost-a.cost) b.cost;have hcm3:=zcN (n.cost-a.cost-b.cost) g (by unfold sm;omega) (by unfold sm;omega);refine uR ?_;refine EVL.idxM tO rfl rfl rfl rfl rfl rfl rfl rfl rfl (hsa9) (n.left.toNat) ((by rw[Int.toNat_of_nonneg hle0])) (hal) (hcna) ?_;refine uR ?_;refine EVL.idxM tO rfl rfl rfl rfl rfl rfl rfl rfl rfl (hsa9) (n.right.toNat) ((by rw[Int.toNat_of_nonneg hri0])) (hbl) (hcnb) ?_;refine uR ?_;apply EV.drawn 26 kR kR;intro xv yw;(repeat (first|refine' DD ?_|(refine' DC (hs1) (h:=?_);rotate_left)|(refine' DC (hs2) (h:=?_);rotate_left)|(refine' DC (hcm3) (h:=?_);rotate_left)));rw[qC (show ¬zcA (n.cost-a.cost-b.cost) g≤0 from fun h=>by have:=(zoO (n.cost-a.cost-b.cost) g).2 (by rw[←hpga];exact hgn);omega)];(repeat refine' DD ?_);rw[qC (show ¬a.rows<least by omega)];(repeat refine' DD ?_);rw[qC (show ¬b.rows<least by omega)];(repeat refine' DD ?_);(refine DJ.nil (fun G4 hG4 hF4=>?_);(case hS|hS2=>rfl));refine uR ?_;refine⟨k+1,⟨by rw[wk];rfl,trivial⟩,sB,trivial,sB,rfl,hlk,hG9.trans hG4,by omega⟩
  ·simp only[nN]at hlk;obtain⟨R,n,hR,hn,ho,_⟩:=hRk 0 oM
   have hR0:R=rows:=by
    have h1:=hway 0 R hR
    have h2:∀r,r∈rows→decide (((0+0:Nat):Int)∈Wf r)=true:=fun r _=>by
     have h3:=hWf r;generalize Wf r=l at h3 ⊢;cases h3 <;> simp
    rw[h1,List.filter_eq_self.2 h2]
   have hcst:=zpd (hTa.mono hAk) ok1 h1l;have hb1:=zoE ok1 h1l;dsimp only at hb1;have hsm:=ok1.smN n (qF hn);obtain⟨c,hcn,hnd⟩:=hnak.get hn;obtain⟨a7,c7,rfl,_⟩:=hnd.cells;have hcm:=zcN (zcP ns) n.cost (zaG hb1 oM) hsm.2.1
   have hle:zcA (zcP ns) n.cost≤0:=zng (by
    rw[ho.cost,hR0];rcases hroot with ⟨_,h⟩ | ⟨_,h⟩
    ·rw[h];exact Rat.le_refl
    ·exact Rat.le_of_lt h)
   have heq:((ns.length:Int) == 1)=(zcA (zcP ns) n.cost == 0):=by
    rcases hroot with ⟨h0,h⟩ | ⟨h0,h⟩
    ·rw[ho.cost,hR0,h,zfO,h0];rfl
    ·rw[beq_eq_false_iff_ne.2 oM,Eq.comm,beq_eq_false_iff_ne];intro e;rw[ho.cost,hR0]at e;unfold zcA at e;rw[if_pos h]at e;cases e
   refine uR ?_;refine vA (hcst) ?_;rintro _ Gc rfl hGc;have hsac:=hsak.mono hGc;refine uR ?_;apply EV.drawn 24 kR kR;intro xv yw;(repeat refine' DD ?_);refine' DJ.idxM tO rfl rfl rfl rfl rfl rfl rfl rfl rfl (hsac) (0) (rfl) ((show 0<ns.length by omega)) (hcn) ?_;rotate_left;(repeat (first|refine' DD ?_|(refine' DC (hcm) (h:=?_);rotate_left)));rw[qD hle];(repeat refine' DD ?_);refine' DJ.idxM tO rfl rfl rfl rfl rfl rfl rfl rfl rfl (hsac) (0) (rfl) ((show 0<ns.length by omega)) (hcn) ?_;rotate_left;(repeat (first|refine' DD ?_|(refine' DC (hcm) (h:=?_);rotate_left)));refine' DJ.ofVal (zaa.eqb rfl rfl rfl rfl kR) rfl rfl rfl ?_;rotate_left;rw[heq,beq_self_eq_true];(repeat refine' DD ?_);(refine DJ.nil (fun G hG hF=>?_);(case hS|hS2=>rfl));refine uR ?_;rfl
end
section
open Go Go.RowKit
theorem zgA {P:Program} {W:World} {n:String} {d:DataW Unit}:∀{l:List (String × DataW Unit)} {ps:List MemPlace},DataW.LaidVars P W l ps→(n,d)∈l →
  ∃p,DataW.LaidVars P W [(n,d)] p
 | [],_,_,h=>by cases h
 | (m,x)::r,ps,h,hm=>by
  obtain⟨g,t,cs,fuel,p,q,h1,h2,h3,h4,h5,h6⟩:=h;rcases List.mem_cons.1 hm with hm | hm
  ·cases hm;exact⟨_,g,t,cs,fuel,p,[],h1,h2,h3,h4,rfl,rfl⟩
  ·exact zgA h5 hm
theorem zqn {P:Program} {l:List (String × DataW Unit)} {W:World} (h:laidMet P l W) {n:String} {zs:List Nat} {g:Nat} {T e:TypeId} (hmem:(n,.agg (zs.map fun (z:Nat)=>.lit (.int .u8 z)))∈l) (hg:P.globalNamed n=some g) (ht:(P.globals[g]?).map (·.type)=some T)
  (hT:P.underlying T=some (.array zs.length e)) (he:P.underlying e=some (.int .u8)) (hc:P.cellsOf e=1) (hcT:P.cellsOf T=zs.length) :
  ∃U fz,W.heap[g]?=some (.cells (zs.map fun (z:Nat)=>Value.int .u8 (z:Int)).toArray U fz):=by
 obtain⟨ps,hl,_⟩:=h;obtain⟨p0,g',t,cs,fuel,p,q,hg',ht',hv,hd,_,_⟩:=zgA hl hmem;obtain rfl:=Option.some.inj (hg.symm.trans hg');obtain rfl:=Option.some.inj (ht.symm.trans ht');obtain⟨xs,m,_,ex,hcl,hlen,hel⟩:=DataW.trod_array hT hd
 have hb:∃U fz,W.heap[g]?=some (.cells cs U fz):=by
  simp only[World.var?,hg,Option.bind_some]at hv;split at hv
  ·rename_i c U fz hc';cases hv;exact⟨U,fz,hc'⟩
  ·cases hv
 obtain⟨U,fz,hb⟩:=hb;refine⟨U,fz,?_⟩;rw[hb];congr 2;apply Array.ext';rw[hcT]at hcl;have e3:(xs.map (·.1))=zs.map fun (n:Nat)=>.lit (.int .u8 n):=(DataW.agg.inj (Prod.mk.inj ex).1).symm;apply List.ext_getElem?;intro r;rcases Nat.lt_or_ge r zs.length with hr | hr
 ·have hE:=hel r hr;rw[hc,Nat.mul_one,qA (by omega)]at hE;obtain⟨z,e1,e2,_⟩:=DataW.trod_int he hE;have e4:(xs.map (·.1))[r]?=(zs.map fun (n:Nat)=>(DataW.lit (.int .u8 n):DataW Unit))[r]?:=by rw[e3]
  rw[List.getElem?_map,List.getElem?_map,qA (by omega:r<xs.length),qA hr,e2]at e4;simp only[Option.map_some,Option.some.injEq,DataW.lit.injEq,Lit.int.injEq,true_and]at e4;have h0:((cs.toList.drop r).take 1)[0]?=some (.int .u8 z):=by rw[e1];rfl
  simp only[List.getElem?_take,List.getElem?_drop,Nat.add_zero]at h0;rw[if_pos (by omega)]at h0;rw[h0,e4];simp[hr]
 ·rw[List.getElem?_eq_none oM,List.getElem?_eq_none (by simpa using hr)]
theorem fits_gH {l:List (String × DataW Unit)} {W:World} (h:laidMet Tryz.prog l W) (hmem:("math/bits.deBruijn64tab", .agg (Lib.deBruijn64tab.map fun (z:Nat)=>.lit (.int .u8 z)))∈l):Fits gH W:=fun b c hb=>by
 unfold gH at hb;split at hb
 ·rename_i hbb;cases hb;obtain rfl:=Nat.eq_of_beq_eq_true hbb;exact zqn h hmem kR kR Tryz.underlying321 Tryz.underlying5 kR kR
 ·cases hb
end
end Go.Proofs.YtifcjfodgicngaaGreatDoor
