/- Texts of ours in one: BoZ, BoS, BoT, Bp1, BoR2, Opn21, BoU, Kd17, BoK, BoH, SiP, BoP2, SiB, GnU, Lw10, ThG, LaidE. -/
import Derived.Test.YteoollbcdpfkpaaGreatDoorM0
import Derived.Test.YteoollbcdpfkpaaGreatDoorM1
import Derived.Test.YteoollbcdpfkpaaGreatDoorM3
import Derived.Test.YteoollbcdpfkpaaGreatDoorM4
import Derived.ProofKit
import Derived.OpenShut
import Derived.LaidMore
import Derived.Lay
import Derived.Stop.Joined
set_option linter.unusedVariables false
set_option linter.unusedSimpArgs false
set_option maxHeartbeats 64000000
namespace Go.Proofs.YteoollbcdpfkpaaGreatDoor
section
open Go.RowKit _root_.Go.Proofs.Tryz
def zdZ (left:List Rat) (Wf:Int→List Int) (n:Nat) (done:List Int) (r:Int) (q:List Int):List (List Rat):=(zep Wf n done r q).map (atR left)
theorem zgo (left:List Rat) (Wf:Int→List Int) (n:Nat) (done:List Int) (r:Int) (q:List Int):(zdZ left Wf n done r q).length=n:=by
 unfold zdZ;rw[qV,zdh]
theorem zoT (left:List Rat) (Wf:Int→List Int) (n:Nat) (r:Int):zdZ left Wf n [] r []=List.replicate n []:=by
 unfold zdZ;rw[zof,List.map_replicate];rfl
theorem zjw {left:List Rat} {Wf:Int→List Int} {n:Nat} {done:List Int} {r:Int} {q:List Int} {j:Nat} (h:j<n) (hq:(j:Int) ∉ q):(zdZ left Wf n done r q)[j]?=some (atR left (done.filter fun r=>decide ((j:Int)∈Wf r))):=by
 unfold zdZ;rw[qK,zeq h,if_neg hq,qG];rfl
theorem zm3 {left:List Rat} {Wf:Int→List Int} {n:Nat} {done:List Int} {r:Int} {q:List Int} {j:Nat} {x:Rat} (hq:(j:Int) ∉ q) (hx:left.getD r.toNat 0=x):(zdZ left Wf n done r q).set j (atR left (done.filter fun r=>decide ((j:Int)∈Wf r))++[x])=zdZ left Wf n done r (q++[(j:Int)]):=by
 unfold zdZ;rw[←zmN hq,List.map_set];congr 1;unfold atR;rw[qr,List.map_singleton,hx]
theorem zoU {left:List Rat} {Wf:Int→List Int} {n:Nat} {done:List Int} {r r':Int}:zdZ left Wf n done r (Wf r)=zdZ left Wf n (done++[r]) r' []:=by
 unfold zdZ;rw[zog]
theorem zsn {l:List Value} {i:Nat} (v:Value) (h:i<l.length):l.take (i*1)++[v]++l.drop (i*1+1)=l.set i v:=by
 rw[Nat.mul_one,List.set_eq_take_append_cons_drop,if_pos h,qZ];rfl
theorem zgc {D ow post:Ows} (h:zcm (D++(ow++post))):∀k,k∈Ows.bs D→∀q,q∈ow→k≠q.1:=fun k hk q hq e=>by
 have hn:=zcn.1 h;unfold Ows.bs at hn hk;simp only[qr,List.nodup_append]at hn;exact hn.2.2 k hk q.1 (List.mem_append_left _ (List.mem_map.2 ⟨q,hq,rfl⟩)) e
theorem zrG {l:List Rat} {i:Nat} {q:Rat} (h:l[i]?=some q):∀(j:Nat) (u:Value),(zaf (zaa q))[j]?=some u→(zam l)[i*5+j]?=some u:=fun j u hj=>by
 have h1:(l.flatMap (fun q=>zaf (zaa q))).drop (i*5) |>.take 5 |> (·=zaf (zaa q)):=QL.at (H:=fun _=>none) (v:=.bool true) h;have h2:j<5:=(qE.1 hj).1;have h3:(((l.flatMap (fun q=>zaf (zaa q))).drop (i*5)).take 5)[j]?=some u:=by rw[show ((l.flatMap (fun q=>zaf (zaa q))).drop (i*5)).take 5=zaf (zaa q) from h1];exact hj
 rw[pP,if_pos h2,List.getElem?_drop]at h3;exact h3
set_option maxRecDepth 100000 in
theorem zkT {H0 H:Hp} {b:BG} (hb:b.Ok) (hls:b.loss=2) {vx vl:Value} {left:List Rat} (h0:H0.Le H) (hX:QLL H vx b.X) (hL:QL H vl left) (hlen:left.length=b.X.length) (hgr:zgW left) (hl100:∀q,q∈left→ht q≤100) {g cap:Nat} {css:List (List Value)} {sp:List Value} (hns:zbh H0 css (b.raw left)) (hcap:(b.raw left).length≤cap) :
  PW prog 53 #[.agg #[.int .i64 2,.int .i64 0,.int .i64 (b.W:Int),.slice (some ⟨g,0,none⟩) (b.raw left).length cap],vx,vl,zaa b.tilt] H [(g,160,css.flatten++sp)]
   fun _ ow _=>∃css',ow=[(g,160,css'.flatten++sp)]∧css'.length=css.length∧zbh H0 css' (b.mids left (b.raw left)):=by
 obtain⟨hok,hr1,hr15⟩:=hb.raw hgr hlen;have hpt:=fun j n (h:(b.raw left)[j]?=some n)=>hb.part hgr hlen h;have h8:=hb.rows;have hw:=hb.wide;have hal:=zbd b.X.length;have gp1:=hb.gp hgr hlen;obtain⟨hh,_,hsub⟩:=hok.sub;dsimp only at hsub;obtain⟨Wf,hWf⟩:=Classical.axiomOfChoice (fun r:Int=>hsub.path (b.X.getD r.toNat []));have hwin:=fun r=>zgp gp1 b.D 0 (zbc b.X.length) 0 zbe (At.self _) (Wf r) (hWf r);have hwnd:=fun r=>zm4 gp1 b.D 0 (zbc b.X.length) 0 zbe (At.self _) (Wf r) (hWf r);have hWeq:∀r:Int,zqS (b.raw left) (b.X.getD r.toNat [])=Wf r:=fun r=>ziA (hWf r)
 have hpe:∀j,b.part left (b.raw left) j=atR left ((zbc b.X.length).filter fun r=>decide ((j:Int)∈Wf r)):=fun j=>by
  unfold BG.part;simp only[hWeq]
 obtain⟨vs,hvs,hvx⟩:=id hX;obtain⟨xa,xc,rfl⟩:=hX.val;obtain⟨la,lc,rfl⟩:=SlC.val hL;have hLS:SlC H (.slice la left.length lc) left.length 5 (left.flatMap fun q=>zaf (zaa q)):=hL;have hmt:=hb.two hls;have hti:=hb.den.2;have hnl:=hns.1;generalize hN:b.raw left=ns at *
 refine PW.body tO func53 rfl kR ntmps53 rfl rfl ?_;refine uR ?_;refine EVL.make tO rfl rfl rfl rfl rfl rfl rfl rfl rfl (ns.length) (rfl) oM (by rfl) (by rfl) fun g8=>?_;refine uR ?_;(first|refine EVL.swapOw ([(g8,60,List.replicate ns.length (.slice none 0 0))]) ([(g,160,css.flatten++sp)]) ((by rw[show (Tryz.te60).zero=[Value.slice none 0 0] from rfl,zb1];rfl)) ?_|refine EV.swapOw ([(g8,60,List.replicate ns.length (.slice none 0 0))]) ([(g,160,css.flatten++sp)]) ((by rw[show (Tryz.te60).zero=[Value.slice none 0 0] from rfl,zb1];rfl)) ?_);(first|refine EVL.swapOw ((List.replicate ns.length ([]:Ows)).flatten) ([(g,160,css.flatten++sp),(g8,60,List.replicate ns.length (.slice none 0 0))]) ((by rw[List.flatten_replicate_nil];rfl)) ?_|refine EV.swapOw ((List.replicate ns.length ([]:Ows)).flatten) ([(g,160,css.flatten++sp),(g8,60,List.replicate ns.length (.slice none 0 0))]) ((by rw[List.flatten_replicate_nil];rfl)) ?_);refine EV.loopK (ι:=Nat × List Value × List Ows) [2,4,7,8,18,19] [4,7] (fun q=>[(20,.v (.int .i64 (q.1:Int)))]) (fun _=>[]) (fun q=>(g,160,css.flatten++sp)::(g8,60,q.2.1)::q.2.2.flatten) (fun q G=>q.1≤b.X.length∧H.Le G∧zpL 51 q.2.1 (zdZ left Wf ns.length ((zbc b.X.length).take q.1) 0 []) q.2.2) (fun q=>b.X.length-q.1) ((0,List.replicate ns.length (.slice none 0 0),List.replicate ns.length [])) rfl rfl ⟨rfl,trivial⟩ trivial rfl (fun _=>rfl) (⟨qQ _,Hp.Le.refl _,by dsimp only;rw[List.take_zero,zoT];exact zpL.nils _ _⟩) ?_;rintro⟨i,vs8,ows⟩ G1 hG1 ⟨hi,hH1,hm⟩;dsimp only at hi hH1 hm;refine uR ?_;refine EV.cond rfl (fun hlt=>?_) (fun hlt=>?_)
 ·simp only[nN]at hlt;obtain⟨x,hxi⟩:=gE hlt;obtain⟨ux,ex,hux,hxl⟩:=hvs.at hxi;obtain⟨hxw,hx60⟩:=hb.each x (qF hxi);obtain⟨ql,hqi⟩:∃q,left[i]?=some q:=⟨_,qA oM⟩;have hvx1:=hvx.mono hH1;have hway:=PW.reads (H:=G1) (L:=[]) (b:=g) (T:=160) (cs:=css.flatten++sp) (Φ:=fun v ow=>∃l:List Int,za0 3 1 v l.length (l.map iv) ow∧zdb ns x 0 l∧l.length≤2000) (cO func111) (fun G hG hg=>zlZ (cs:=[.int .i64 2,.int .i64 0,.int .i64 (b.W:Int),.slice (some ⟨g,0,none⟩) ns.length cap]) ⟨some ⟨g,0,none⟩,cap,css,rfl,hns.mono (h0.trans (hH1.trans hG)),by rw[←hnl];exact⟨hns.flat_len,.inr ⟨g,0,cap,_,rfl,by omega,hg,fun j y hy=>by rw[qv];simpa using (qM (qE.1 hy).1).trans hy⟩⟩⟩ hok (SlC.mono hxl (hH1.trans hG)) (by rw[hxw]) (fun q hq=>zaj (hx60 q hq) oM));refine uR ?_;refine vI (hvx1) (i) (rfl) (hlt) (hux) ?_;refine uR ?_;refine vW ([(g,160,css.flatten++sp)]) ((g8,60,vs8)::ows.flatten) (hway) ?_;rintro vw ow2 G2 ⟨oww,rfl,l,hown,hpl,hll⟩ hG2
  obtain rfl:l=Wf (i:Int):=by
   have h1:=hWf (i:Int);rw[qU,qB,hxi]at h1;exact hpl.det h1
  obtain⟨wa,wc,rfl⟩:=hown.val;(first|refine EVL.apart fun hdis=>?_|refine EV.apart fun hdis=>?_);(first|refine EVL.publishL [(g,_,_)] oww ((g8,60,vs8)::ows.flatten) rfl hown (fun G3 hG3 hs3=>?_) (zgc (post:=(g8,60,vs8)::ows.flatten) hdis)|refine EV.publishL [(g,_,_)] oww ((g8,60,vs8)::ows.flatten) rfl hown (fun G3 hG3 hs3=>?_) (zgc (post:=(g8,60,vs8)::ows.flatten) hdis));have hH3:=hH1.trans (hG2.trans hG3);have hK3:=hG2.trans hG3;obtain⟨bL,offL,capL,cL,eL,hcL,hcellL⟩:=SlC.expl hLS oM;cases eL;refine uR ?_;refine EV.loopK (ι:=Nat × List Value × List Ows) [2,4,7,8,9,18,19,20,27,28] [4,7] (fun q=>[(29,.v (.int .i64 (q.1:Int)))]) (fun _=>[]) (fun q=>(g,160,css.flatten++sp)::(g8,60,q.2.1)::q.2.2.flatten) (fun q _=>q.1≤(Wf (i:Int)).length∧zpL 51 q.2.1 (zdZ left Wf ns.length ((zbc b.X.length).take i) (i:Int) ((Wf (i:Int)).take q.1)) q.2.2) (fun q=>(Wf (i:Int)).length-q.1) ((0,vs8,ows)) rfl rfl ⟨rfl,trivial⟩ trivial rfl (fun _=>rfl) (⟨qQ _,by dsimp only;rw[List.take_zero];unfold zdZ;rw[zoe _ _ _ _ 0];exact hm⟩) ?_;rintro⟨k,us,os⟩ Gk hGk ⟨hk,hmk⟩;dsimp only at hk hmk;have wk:IntKind.i64.wrap ((k:Int)+1)=((k+1:Nat):Int):=zae k oM;refine uR ?_;refine EV.cond rfl (fun hlk=>?_) (fun hlk=>?_)
  ·simp only[nN]at hlk;obtain⟨z,hz⟩:∃z,(Wf (i:Int))[k]?=some z:=⟨_,qA hlk⟩;have hzb:=hwin (i:Int) z (qF hz);have hznot:=zqK (hwnd (i:Int)) hz;have hzt:=zaq hz;obtain⟨J,rfl⟩:=qj (show 0≤z by omega)
   have hJ:J<ns.length:=by
    have h:=hzb.2;rw[show ((b.gp left).grow b.D 0 (zbc b.X.length) 0).1=ns from hN]at h;omega
   have hol:os.length=ns.length:=by rw[hmk.2.1,zgo]
   have hul:us.length=ns.length:=by rw[hmk.1,zgo]
   obtain⟨OA,o,OB,rfl,rfl⟩:=zl8 (l:=os) (k:=J) oM;obtain⟨v,hv⟩:∃v,us[OA.length]?=some v:=⟨_,qA oM⟩;have heJ:=zjw (left:=left) (Wf:=Wf) (done:=(zbc b.X.length).take i) (r:=(i:Int)) hJ hznot;have hown:=hmk.2.2 OA.length v _ o hv heJ (by rw[qL (qH _),Nat.sub_self];rfl);have hst:=zm3 (left:=left) (Wf:=Wf) (n:=ns.length) (done:=(zbc b.X.length).take i) (r:=(i:Int)) (x:=ql) hznot (by rw[qU,qB,hqi];rfl)
   have hfl:(atR left (((zbc b.X.length).take i).filter fun r=>decide (((OA.length:Nat):Int)∈Wf r))).length≤20:=by
    unfold atR;rw[qV];exact qI (List.length_filter_le _ _) (by rw[qP];omega)
   generalize atR left (((zbc b.X.length).take i).filter fun r=>decide (((OA.length:Nat):Int)∈Wf r))=es at *
   obtain⟨va1,vc1,rfl⟩:=hown.val;have hHk:=hH3.trans hGk;have hcLk:=hHk _ _ hcL;have hs3k:=SlC.mono hs3 hGk;refine uR ?_;refine vI (hs3k) (k) (rfl) (hlk) ((by rw[qK,hz];rfl)) ?_;refine uR ?_;refine EVG.start (fun W=>Box W g8 us.toArray 60∧Fits Gk W) (some 13) ?_;refine IV 0 ?_;refine IV 1 ?_;refine IV 2 ?_;refine IV 3 ?_;refine IX 4 (q:=OA.length) (m:=ns.length) ?_ rfl hJ
   refine ILQ 5 (b:=g8) (off:=0+OA.length*1) (te:=Tryz.te60) (cs:=us) (l:=[.slice va1 es.length vc1]) (fun _ h=>h.1) ?_ (by
    obtain⟨h1,h2⟩:=qE.1 hv;rw[qv,Nat.mul_one,qt h1,h2];rfl) rfl rfl
   refine IV 6 ?_;refine IV 7 ?_;refine IX 8 (q:=i) (m:=left.length) ?_ rfl oM;refine IRQ 9 (H0:=Gk) (b:=bL) (off:=offL+i*5) (l:=zaf (zaa ql)) (fun _ h=>h.2) ?_ hcLk (fun j u hj=>by rw[Nat.add_assoc];exact hcellL _ u (zrG hqi j u hj)) rfl rfl;refine EVG.one 10 (zon (p:=(g8,60,us)) (jj:=1) (.inr rfl) (Hp.Le.refl _)) kR rfl ?_;refine EVL.lit tO rfl rfl rfl rfl rfl rfl rfl rfl rfl rfl rfl fun bl=>?_;refine EVL.nil ⟨rfl,?_⟩;refine EVG.one 11 (zon (p:=(g8,60,us)) (jj:=2) (.inr rfl) (Hp.Le.refl _)) kR rfl ?_;refine EVL.append tO rfl rfl rfl rfl rfl rfl rfl rfl rfl rfl rfl rfl ((bl,_,_)::(g,_,_)::(g8,_,_)::OA.flatten) o OB.flatten (by rw[List.flatten_append,List.flatten_cons];rfl) hown (zeg.own 0 rfl rfl) rfl oM ?_;intro v2 o2 hown2;refine EVL.subOw [] [(bl,_,_)] _ rfl ?_;refine EVL.nil ⟨rfl,?_⟩;refine EVG.one 12 (zon (p:=(g8,60,us)) (jj:=1) (.inr rfl) (Hp.Le.refl _)) kR rfl ?_;refine EVL.idxB tO rfl rfl rfl rfl rfl rfl rfl rfl rfl (OA.length) (OA.length*1) (rfl) (hJ) (rfl) ?_;refine EVL.nil ⟨rfl,?_⟩;refine EVG.one 13 (zon (p:=(g8,60,us)) (jj:=1) (.inr rfl) (Hp.Le.refl _)) kR rfl ?_;obtain⟨va2,vc2,rfl⟩:=hown2.val;refine EVL.storeOwn tO rfl rfl rfl rfl rfl rfl ([(g,160,_)]) (OA.flatten++(o2++OB.flatten)) rfl rfl rfl rfl ((by rw[Nat.mul_one];show OA.length+1≤us.length;omega)) (zsn (l:=us) (i:=OA.length) _ oM) ?_;refine EVL.nil ⟨rfl,?_⟩;refine EVG.nil (zon (p:=(g8,60,us)) (jj:=1) (.inl kR) (Hp.Le.refl _)) kR ?_;refine uR ?_;refine⟨(k+1,us.set OA.length (.slice va2 (es.length+1) vc2),OA++o2::OB),⟨by rw[wk];rfl,trivial⟩,sB,trivial,sB,?_,⟨hlk,?_⟩,Hp.Le.refl _,by dsimp only;omega⟩
   ·dsimp only;rw[List.flatten_append,List.flatten_cons];rfl
   ·dsimp only;rw[hzt,←hst];refine hmk.put ?_;rw[qJ];show za0 _ _ _ _ ((es++[ql]).flatMap _) _;rw[List.flatMap_append];exact hown2
  ·simp only[nN]at hlk;obtain rfl:k=(Wf (i:Int)).length:=oM;have hai:(zbc b.X.length)[i]?=some (i:Int):=by unfold zbc;rw[qK,List.getElem?_range hlt];rfl
   rw[qb,zoU (r':=0),←zaq hai]at hmk;refine uR ?_;exact⟨(i+1,us,os),⟨by rw[zae i (by omega)];rfl,trivial⟩,sB,trivial,sB,rfl,⟨hlt,hH3.trans hGk,hmk⟩,hK3.trans hGk,by dsimp only;omega⟩
 ·simp only[nN]at hlt;obtain rfl:i=b.X.length:=oM;rw[qO (Nat.le_of_eq hal)]at hm;have hvl:vs8.length=ns.length:=by rw[hm.1,zgo]
  (first|refine EVL.apart fun hdis=>?_|refine EV.apart fun hdis=>?_)
  have hap:(∀k,k∈Ows.bs [(g,160,css.flatten++sp)]→∀q,q∈ows.flatten→k≠q.1)∧g≠g8:=by
   have hn:=zcn.1 hdis;unfold Ows.bs at hn ⊢;simp only[qy,List.nodup_cons,List.map_nil,pL]at hn ⊢;refine⟨fun k hk q hq e=>?_,fun e=>hn.1 (by rw[e];exact qh ..)⟩;subst hk;exact hn.1 (qn _ (by rw[e];exact List.mem_map.2 ⟨q,hq,rfl⟩))
  refine EV.pubQ ows [(g,160,css.flatten++sp),(g8,60,vs8)] [] hm (by rw[qG];rfl) hap.1 fun G7 hG7 hQL=>?_;(first|refine EV.publish [(g,160,css.flatten++sp)] [] rfl (fun G8 hG8 hb8=>?_) (fun k hk=>by rw[pL.1 hk];exact hap.2)|refine EVL.publish [(g,160,css.flatten++sp)] [] rfl (fun G8 hG8 hb8=>?_) (fun k hk=>by rw[pL.1 hk];exact hap.2));have hE8:SlC G8 (.slice (some ⟨g8,0,none⟩) ns.length ns.length) ns.length 1 vs8:=⟨by rw[hvl,Nat.mul_one],.inr ⟨g8,0,ns.length,vs8.toArray,rfl,qH _,hb8,fun j y hy=>by rw[qv];simpa using hy⟩⟩;have hQ8:=hQL.mono hG8;refine uR ?_;refine EV.loopK (ι:=Nat × List (List Value)) [4,7,8,50] [4,7] (fun q=>[(51,.v (.int .i64 (q.1:Int)))]) (fun _=>[]) (fun q=>[(g,160,q.2.flatten++sp)]) (fun q G=>q.1≤ns.length∧G8.Le G∧q.2.length=css.length∧zbh H0 q.2 (b.midsTo left ns q.1)) (fun q=>ns.length-q.1) ((0,css)) rfl rfl ⟨rfl,trivial⟩ trivial rfl (fun _=>rfl) (⟨qQ _,Hp.Le.refl _,rfl,by dsimp only;rw[zkF];exact hns⟩) ?_;rintro⟨k,ds⟩ G9 hG9 ⟨hk,hG89,hdl,hds⟩;dsimp only at hk hG89 hdl hds;have hml:=zhl b left ns k;refine uR ?_;refine EV.cond rfl (fun hlk=>?_) (fun hlk=>?_)
  ·simp only[nN]at hlk;obtain⟨nr,hnr⟩:=gE hlk;obtain⟨nd,hnd⟩:∃n,(b.midsTo left ns k)[k]?=some n:=⟨_,qA oM⟩;obtain⟨hp1,hp2,hp3,_⟩:=hpt k nr hnr;obtain⟨v,hv⟩:∃v,vs8[k]?=some v:=⟨_,qA oM⟩;have heK:=zjw (left:=left) (Wf:=Wf) (done:=zbc b.X.length) (r:=0) (q:=[]) hlk List.not_mem_nil;rw[←hpe k]at heK;have hqv:=hQ8.2 k v _ hv heK;have hst:=zmY b left hnd;have hmid:=fun (G:Hp) (hG:G9.Le G)=>ze0 (loss:=2) (SlC.mono hqv (hG89.trans hG)) hp2 oM (fun q hq=>hl100 q (hp1 q hq)) (fun _=>hmt) hti;rw[show zou 2 b.tilt (b.part left ns k)=zj8 b.tilt (b.part left ns k) from if_neg (by decide)]at hmid;generalize b.part left ns k=pl at *
   obtain⟨pa,pc,rfl⟩:=SlC.val hqv;generalize zj8 b.tilt pl=mv at *
   have hE9:=hE8.mono hG89;obtain⟨A,c,B,rfl,hAk⟩:=zl8 (l:=ds) (k:=k) oM;subst hAk;obtain⟨a7,c7,hil,rfl⟩:=hds.2 A.length c nd (by rw[qL (qH _),Nat.sub_self];rfl) hnd;have hAf:=hds.left.flat_len;rw[zly];refine uR ?_;apply EV.drawn 9 kR kR;intro xv yw;(repeat refine' DD ?_);refine' DJ.idxM tO rfl rfl rfl rfl rfl rfl rfl rfl rfl (hE9) (A.length) (rfl) (hlk) ((show (vs8.drop (A.length*1)).take 1=[Value.slice pa pl.length pc] by rw[Nat.mul_one,qt (qE.1 hv).1,(qE.1 hv).2];rfl)) ?_;rotate_left;(repeat refine' DD ?_);refine' vC (cO func49) (fun G hG hd=>hmid G hG) ?_;rotate_left;(refine DJ.nil (fun G2 hG2 hF2=>?_);(case hS|hS2=>rfl));refine EVL.idxB tO rfl rfl rfl rfl rfl rfl rfl rfl rfl (A.length) (A.length*21) (rfl) (hlk) (rfl) ?_;refine EVL.fldB tO rfl rfl rfl rfl rfl rfl rfl ?_;refine EVL.storeOwn tO rfl rfl rfl rfl rfl rfl ([]) ([]) rfl rfl rfl rfl ((by rw[qJ,hAf,qJ];show A.length*21+15+5≤A.length*21+(21+(B.flatten++sp).length);omega)) ((zd3 hAf rfl rfl (Nat.le_of_ble_eq_true rfl) rfl)) ?_;refine uR ?_;refine⟨(A.length+1,A++_::B),⟨by rw[zae A.length (by omega)];rfl,trivial⟩,sB,trivial,sB,by dsimp only;rw[zly];rfl,⟨hlk,hG89.trans hG2,by dsimp only;rw[←hdl];simp,?_⟩,hG2,by dsimp only;omega⟩;rw[←hst];exact zsf hds ⟨a7,c7,hil,rfl⟩
  ·simp only[nN]at hlk;obtain rfl:k=ns.length:=oM;refine uR ?_;exact⟨ds,rfl,hdl,hds⟩
theorem QL.ofOwn {G:Hp} {g n:Nat} {l:List Rat} (h:G g=some (zam l).toArray) (hn:l.length=n):QL G (.slice (some ⟨g,0,none⟩) n n) l:=by
 subst hn;exact⟨flat_len _ 5 l (fun _ _=>rfl),.inr ⟨g,0,l.length,_,rfl,qH _,h,fun j y hy=>by rw[qv];simpa using hy⟩⟩
theorem PTs.nil (H:Hp):PTs H [] []:=⟨rfl,fun j c t e=>by cases e⟩
set_option maxRecDepth 100000 in
theorem zlV {H:Hp} {b:BG} (hb:b.Ok) {vx vy:Value} {y:List Rat} {K D0 A0:Nat} (hX:QLL H vx b.X) (hy:QL H vy y) (hyl:y.length=b.X.length)
  (hD:1≤D0) (hA:1≤A0) (hg:∀q,q∈y→Gr D0 A0 q) (hK:K≤50) (hbl:bl ((2*A0*2 ^ K)*(D0*840*(840*b.rate.den) ^ K))≤95) :
  PC prog 13 #[vx,vy,.agg (zpa b.loss (K:Int) (b.D:Int) b.least b.rate b.tilt b.gain).toArray] H fun r G=>∃ta tc,r=.tuple #[.agg (zcA b.loss (b.W:Int) (b.mid y) b.rate b.tilt (.slice ta K tc)).toArray,.int .i64 0]∧PTL G (.slice ta K tc) (b.fit y K).1:=by
 have h8:=hb.rows;have hw:=hb.wide;have hdp:=hb.deep;have hxw:=fun x hx=>(hb.each x hx).1;have hx60:=fun x hx=>(hb.each x hx).2;have hfit:=hb.fit hD hA hg hyl hbl;have hrd:=b.rate.den_nz;have hb0:bl (A0*(D0*840))≤95:=qI (zaT (Nat.mul_le_mul (by rw[qW 2 A0,Nat.mul_assoc];exact Nat.le_mul_of_pos_right A0 (Nat.mul_pos oM (Nat.pow_pos oM))) (Nat.le_mul_of_pos_right _ (Nat.pow_pos oM)))) hbl;have hy95:∀q,q∈y→ht q≤95:=fun q k=>qI (((hg q k).up 840).bits oM hA) hb0;have hm95:ht (b.mid y)≤95:=qI ((hb.mid_gr hg hyl).bits oM hA) hb0
 have hr:ht b.rate≤10:=by
  have h:=hb.rd.bits oM oM;rw[Nat.one_mul]at h;exact qI h (qI (zaT hb.den.1) (zaS (by decide)))
 have hvd:=zjD hX hxw h8.1 oM hw.1 hw.2;have hnm:=zd0 (loss:=b.loss) (zaj hr oM) (zaj hb.den.2 oM);rw[zoF hb]at hnm;have hgs:sm b.gain:=zaj hb.gain.2 oM;have hfi:=fun G:Hp=>zgJ (H:=G) (deep:=(b.D:Int)) (least:=b.least) hgs;rw[qD (show zmp (b.D:Int) b.least b.gain from ⟨by omega,by omega,hb.least.1,hb.least.2,hb.gain.1⟩)]at hfi;have hmd:=fun (G:Hp) (hG:H.Le G)=>ze0 (loss:=b.loss) (SlC.mono hy hG) oM oM (fun q k=>qI (hy95 q k) oM) (fun k=>hb.two (hb.loss.resolve_left k)) hb.den.2;rw[show zou b.loss b.tilt y=b.mid y from rfl]at hmd;obtain⟨vs,hvs,hvx⟩:=id hX;obtain⟨xa,xc,rfl⟩:=hX.val;obtain⟨ya,yc,rfl⟩:=SlC.val hy;obtain⟨x0,hxx0⟩:∃x,b.X[0]?=some x:=⟨_,qA h8.1⟩;obtain⟨u0,e0,hu0,_⟩:=hvs.at hxx0;rw[hxw x0 (qF hxx0)]at hu0;have hyS:SlC H (.slice ya y.length yc) y.length 5 (y.flatMap fun q=>zaf (zaa q)):=hy;have hfz:(b.fit y 0).2=y.map fun q=>q-b.mid y:=rfl;refine BD func13 ntmps13 ?_
 repeat (first|refine RUN ?_|refine CV (hvd) ?_|refine CE (hvd) ?_)
 rw[show ((y.length:Int) != (b.X.length:Int))=false by rw[hyl];exact pQ _];have hfi0:=hfi H
 repeat (first|refine RUN ?_|refine CV (hnm) ?_|refine CE (hnm) ?_)
 rw[qC (show ¬(K:Int)<0 by omega)];refine uR ?_;rw[qC (show ¬(K:Int)>50 by omega)]
 repeat (first|refine RUN ?_|refine CV (hfi0) ?_|refine CE (hfi0) ?_)
 apply EV.drawn 18 kR kR;intro xv yw;(repeat refine' DD ?_);refine' vJ (hvx) (0) (rfl) (h8.1) (hu0) ?_;rotate_left;(repeat refine' DD ?_);refine' vC (cO func49) (fun G hG hd=>hmd G hG) ?_;rotate_left;(repeat refine' DD ?_);(refine DJ.nil (fun G1 hG1 hF1=>?_);(case hS|hS2=>rfl));refine uR ?_;refine EVL.make tO rfl rfl rfl rfl rfl rfl rfl rfl rfl (b.X.length) (rfl) oM (by rfl) (by rfl) fun g9=>?_;refine uR ?_;refine EVL.make tO rfl rfl rfl rfl rfl rfl rfl rfl rfl (b.X.length) (rfl) oM (by rfl) (by rfl) fun g10=>?_;refine uR ?_;(first|refine EVL.swapOw ([(g10,51,(([]:List Rat)++List.replicate (b.X.length-0) 0).flatMap cqF)]) ([(g9,3,_)]) ((by rw[←zfv];rfl)) ?_|refine EV.swapOw ([(g10,51,(([]:List Rat)++List.replicate (b.X.length-0) 0).flatMap cqF)]) ([(g9,3,_)]) ((by rw[←zfv];rfl)) ?_);(first|refine EVL.swapOw ([(g9,3,(zbc 0).map iv++List.replicate (b.X.length-0) (.int .i64 0))]) ([(g10,51,(([]:List Rat)++List.replicate (b.X.length-0) 0).flatMap cqF)]) ((by rw[show (Tryz.te3).zero=[Value.int .i64 0] from rfl,zb1];rfl)) ?_|refine EV.swapOw ([(g9,3,(zbc 0).map iv++List.replicate (b.X.length-0) (.int .i64 0))]) ([(g10,51,(([]:List Rat)++List.replicate (b.X.length-0) 0).flatMap cqF)]) ((by rw[show (Tryz.te3).zero=[Value.int .i64 0] from rfl,zb1];rfl)) ?_);generalize hbm:b.mid y=bm at *
 refine EV.loopK (ι:=List Rat) [0,1,5,6,8,9,10,77] [5,6,8] (fun qs=>[(78,.v (.int .i64 (qs.length:Int)))]) (fun _=>[]) (fun qs=>[(g10,51,(qs++List.replicate (b.X.length-qs.length) 0).flatMap cqF),(g9,3,(zbc qs.length).map iv++List.replicate (b.X.length-qs.length) (.int .i64 0))]) (fun qs G=>qs.length≤b.X.length∧G1.Le G∧qs=(y.map fun q=>q-bm).take qs.length) (fun qs=>b.X.length-qs.length) ([]) rfl rfl ⟨rfl,trivial⟩ trivial rfl (fun _=>rfl) (⟨qQ _,Hp.Le.refl _,rfl⟩) ?_;rintro qs G2 hG2 ⟨hi,hG12,hqs⟩;refine uR ?_;refine EV.cond rfl (fun hlt=>?_) (fun hlt=>?_)
 ·simp only[nN]at hlt;obtain⟨q,hq⟩:∃q,y[qs.length]?=some q:=⟨_,qA oM⟩;have hq95:=hy95 q (qF hq);have hsub:=zfk q bm (zaj hq95 oM) (zaj hm95 oM);have hyS2:=hyS.mono (hG1.trans hG12)
  have hsn:qs++[q-bm]=(y.map fun q=>q-bm).take (qs.length+1):=by
   have hm:(y.map fun q=>q-bm)[qs.length]?=some (q-bm):=by rw[qK,hq];rfl
   rw[zaq hm,←hqs]
  refine uR ?_;refine EVL.idxB tO rfl rfl rfl rfl rfl rfl rfl rfl rfl (qs.length) (qs.length*1) (rfl) (hlt) (rfl) ?_;refine uR ?_;refine EVL.storeOwn tO rfl rfl rfl rfl rfl rfl ([(g10,51,_)]) ([]) rfl rfl rfl rfl ((by rw[qJ,qV,zbd,List.length_replicate];show qs.length*1+1≤_;omega)) (znI hlt _ rfl) ?_;refine uR ?_;apply EV.drawn 9 kR kR;intro xv yw;(repeat refine' DD ?_);refine' DJ.idxM tO rfl rfl rfl rfl rfl rfl rfl rfl rfl (hyS2) (qs.length) (rfl) (oM) (QL.at (H:=H) (v:=.bool true) hq) ?_;rotate_left;(repeat (first|refine' DD ?_|(refine' DC (hsub) (h:=?_);rotate_left)));(refine DJ.nil (fun G3 hG3 hF3=>?_);(case hS|hS2=>rfl));refine EVL.idxB tO rfl rfl rfl rfl rfl rfl rfl rfl rfl (qs.length) (qs.length*5) (rfl) (hlt) (rfl) ?_;refine uR ?_;refine EVL.storeOwn tO rfl rfl rfl rfl rfl rfl ([]) ([(g9,3,_)]) rfl rfl rfl rfl ((by rw[zkt,qJ,List.length_replicate];show qs.length*5+5≤_;omega)) (zn8 qs (q-bm) hlt) ?_;refine uR ?_;have hl1:(qs++[q-bm]).length=qs.length+1:=by rw[qJ];rfl
  refine⟨qs++[q-bm],⟨by rw[zae qs.length oM,hl1];rfl,trivial⟩,sB,trivial,sB,by rw[hl1];rfl,⟨by rw[hl1];exact hlt,hG12.trans hG3,by rw[hl1];exact hsn⟩,hG3,by rw[hl1];omega⟩
 simp only[nN]at hlt;have hql:qs.length=b.X.length:=oM
 have hq0:qs++List.replicate (b.X.length-qs.length) 0=(b.fit y 0).2:=by
  rw[hql,Nat.sub_self,List.replicate_zero,qG,hfz,hqs,hql];exact qO (by rw[qV];omega)
 rw[hq0,hql,Nat.sub_self,List.replicate_zero,qG];clear hqs hq0 hi hlt hql;(first|refine EVL.publish [(g10,51,_)] [] rfl fun G3 hG3 hb3=>?_|refine EV.publish [(g10,51,_)] [] rfl fun G3 hG3 hb3=>?_);have hil3:IL G3 (.slice (some ⟨g9,0,none⟩) b.X.length b.X.length) (zbc b.X.length):=zom (sp:=[]) (by rw[qG];exact hb3) (zbd _);have hH3:=hG1.trans (hG12.trans hG3);refine uR ?_;refine EV.loopK (ι:=Nat × Value × Ows × List (List Value)) [0,5,6,8,9,10,97] [5,6] (fun q=>[(98,.v (.int .i64 (q.1:Int)))]) (fun q=>[(8,54,zcA b.loss (b.W:Int) bm b.rate b.tilt q.2.1)]) (fun q=>(g10,51,zam (b.fit y q.1).2)::q.2.2.1) (fun q G=>q.1≤K∧G3.Le G∧za0 116 4 q.2.1 q.1 q.2.2.2.flatten q.2.2.1∧PTs G q.2.2.2 (b.fit y q.1).1) (fun q=>K-q.1) ((0,.slice none 0 0,[],[])) rfl rfl ⟨rfl,trivial⟩ ⟨rfl,trivial⟩ rfl (fun _=>rfl) (⟨qQ _,Hp.Le.refl _,za0.nil _ _,PTs.nil _⟩) ?_;rintro⟨k,v8,ow8,tcs⟩ G4 hG4 ⟨hk,hG34,hown8,hts⟩;dsimp only at hk hG34 hown8 hts;obtain⟨a8,c8,rfl⟩:=hown8.val;refine uR ?_;refine EV.cond rfl (fun hlt=>?_) (fun hlt=>?_)
 case refine_2 =>
  simp only[nN]at hlt;obtain rfl:k=K:=oM;(first|refine EVL.publishL [(g10,51,zam (b.fit y k).2)] ow8 [] ((show (g10,51,zam (b.fit y k).2)::ow8=[(g10,51,zam (b.fit y k).2)]++(ow8++[]) by rw[qG];rfl)) hown8 fun G5 hG5 hs8=>?_|refine EV.publishL [(g10,51,zam (b.fit y k).2)] ow8 [] ((show (g10,51,zam (b.fit y k).2)::ow8=[(g10,51,zam (b.fit y k).2)]++(ow8++[]) by rw[qG];rfl)) hown8 fun G5 hG5 hs8=>?_);refine uR ?_;exact⟨a8,c8,rfl,tcs,hts.mono hG5,by rw[(b.fit_len y hyl k).2];exact hs8⟩
 simp only[nN]at hlt;obtain⟨hgr,htb⟩:=hfit k oM;obtain⟨hln1,hln2⟩:=b.fit_len y hyl k;have hn1:(b.fit y (k+1)).1=(b.fit y k).1++[b.tree (b.fit y k).2]:=rfl;have hn2:(b.fit y (k+1)).2=b.next (b.fit y k).2:=rfl;have hd1:1≤D0*840*(840*b.rate.den) ^ k:=Nat.mul_pos oM (Nat.pow_pos oM);have ha1:1≤2*A0*2 ^ k:=Nat.mul_pos oM (Nat.pow_pos oM);have hbl1:=znT (k:=k) hrd hbl oM;have hgrid:zgW (b.fit y k).2:=⟨_,_,hd1,ha1,hbl1,hgr⟩;have hTB:=hb.tree hd1 ha1 hbl1 hgr hln1;obtain⟨_,hraw1,hraw15⟩:=hb.raw hgrid hln1;have hgd:=hb.gd hgrid hln1;have hal:=b.nodes_alikeV (b.fit y k).2;have hl95:=hgrid.bits;clear hgr hfit;generalize (b.fit y k).2=left at *
 generalize (b.fit y k).1=ts at *
 have hH4:=hH3.trans hG34;have hnl:(b.nodes left).length=(b.raw left).length:=hal.len;have hgo:=PW.reads (H:=G4) (L:=[]) (b:=g10) (T:=51) (cs:=zam left) (Φ:=fun v ow=>za0 51 5 v left.length (zam (b.goal left)) ow) (cO func51) (fun G hG hg=>zp8 (b:=b) hb.loss hb.den.2 (QL.ofOwn hg hln1) oM oM (fun q hq=>qI (hl95 q hq) oM));refine uR ?_;refine vW ([(g10,51,zam left)]) (ow8) (hgo) ?_;rintro vg owg G5 ⟨owh,rfl,hog⟩ hG5;obtain⟨ga,gc,rfl⟩:=hog.val;(first|refine EVL.publishL [(g10,51,zam left)] owh ow8 (rfl) hog fun G6 hG6 hsg=>?_|refine EV.publishL [(g10,51,zam left)] owh ow8 (rfl) hog fun G6 hG6 hsg=>?_);have hgl:=b.goal_len left;have hQg:QL G6 (.slice ga left.length gc) (b.goal left):=by unfold QL;rw[hgl];exact hsg
 have hH6:=hH4.trans (hG5.trans hG6);have hP:GD.P G6 (.slice none 0 0) (.slice ga left.length gc) (.v (b.goal left)):=⟨none,0,ga,gc,rfl,by rw[hgl],hQg⟩;obtain⟨S,wo,hpg⟩:=hgd.pgoal (H:=G6) h8.1 oM hP (p:=b.gp left) rfl rfl rfl rfl;have hgrow:=zoW (p:=b.gp left) (D0:=b.D) (w:=b.W) (s:=0) (fun _=>rfl) hw.1 hw.2 h8.1 (by show b.X.length≤20;omega) hxw hx60 rfl hb.least hgs hb.gain.1 hdp hpg (hX.mono hH6) (SlC.mono hil3 (hG34.trans (hG5.trans hG6))) (by rw[zbd];exact h8.1) (by rw[zbd];omega) zbe;have hrw:((b.gp left).grow b.D 0 (zbc b.X.length) 0).1=b.raw left:=rfl;rw[hrw]at hgrow;(first|refine EVL.swapOw ([(g10,51,zam left)]) (ow8) (rfl) ?_|refine EV.swapOw ([(g10,51,zam left)]) (ow8) (rfl) ?_);refine uR ?_;refine vW ([]) (ow8++[(g10,51,zam left)]) (hgrow) ?_;rintro _ owN G7 ⟨oa,oc,css,rfl,hns,hown⟩ hG7;rcases hown.2 with ⟨_,e0,_⟩|⟨g,cap,sp,e0,rfl,_,hcap,_⟩
 ·omega
 cases e0;obtain⟨_,_,sp',e1,e2,hsame⟩:=hown.same hraw1;cases e1
 obtain rfl:sp'=sp:=by
  have e3:=List.cons.inj e2;have e4:=congrArg (fun q:Nat × TypeId × List Value=>q.2.2) e3.1;exact(List.append_cancel_left (show css.flatten++sp=css.flatten++sp' from e4)).symm
 clear e2;(first|refine EVL.swapOw ((g,160,css.flatten++sp')::ow8) ([(g10,51,zam left)]) (rfl) ?_|refine EV.swapOw ((g,160,css.flatten++sp')::ow8) ([(g10,51,zam left)]) (rfl) ?_);refine uR ?_;refine EV.meetK (ι:=List (List Value)) [0,5,6,8,9,10,13,97,98] [5,6,8,13] (fun _=>[]) (fun _=>[]) (fun _=>(g10,51,zam left)::ow8) (fun q G=>G7.Le G∧zbh G q (b.nodes left)∧SlC G (.slice (some ⟨g,0,none⟩) (b.raw left).length oc) (b.raw left).length 21 q.flatten) rfl rfl (fun _=>rfl) ?_ ?_
 ·by_cases e1:b.loss=1
  ·rw[show b.nodes left=b.raw left from if_pos e1];rw[show (b.loss == 2)=false by rw[e1];rfl];(first|refine EVL.publishL [(g10,51,zam left)] [(g,160,css.flatten++sp')] ow8 (rfl) hown fun G8 hG8 hs8=>?_|refine EV.publishL [(g10,51,zam left)] [(g,160,css.flatten++sp')] ow8 (rfl) hown fun G8 hG8 hs8=>?_);refine uR ?_;exact⟨css,trivial,sB,trivial,sB,rfl,hG8,hns.mono hG8,hs8⟩
  have e2:=hb.loss.resolve_left e1;have hmi:=PW.reads (H:=G7) (L:=[(g,160,css.flatten++sp')]) (b:=g10) (T:=51) (cs:=zam left) (Φ:=fun _ ow=>∃css',ow=[(g,160,css'.flatten++sp')]∧css'.length=css.length∧zbh G7 css' (b.mids left (b.raw left))) (cO func53) (fun G hG hg=>zkT (H0:=G7) hb e2 hG (hX.mono ((hH6.trans hG7).trans hG)) (QL.ofOwn hg hln1) hln1 hgrid (fun q hq=>qI (hl95 q hq) oM) hns hcap);rw[show b.nodes left=b.mids left (b.raw left) from if_neg e1];rw[show (b.loss == 2)=true by rw[e2];rfl];refine uR ?_;refine vW ([(g10,51,zam left),(g,160,css.flatten++sp')]) (ow8) (hmi) ?_;rintro _ _ G8 ⟨_,rfl,css',rfl,hcl,hns'⟩ hG8;have hown':=hsame css'.flatten (by rw[hns'.flat_len,hns.flat_len,hcl]);(first|refine EVL.publishL [(g10,51,zam left)] [(g,160,css'.flatten++sp')] ow8 (rfl) hown' fun G9 hG9 hs9=>?_|refine EV.publishL [(g10,51,zam left)] [(g,160,css'.flatten++sp')] ow8 (rfl) hown' fun G9 hG9 hs9=>?_);refine uR ?_;exact⟨css',trivial,sB,trivial,sB,rfl,hG8.trans hG9,hns'.mono (hG8.trans hG9),hs9⟩
 rintro css' G8 ⟨hG8,hns',hsn⟩;have hTr:zfm G8 [.int .i64 2,.int .i64 0,.int .i64 (b.W:Int),.slice (some ⟨g,0,none⟩) (b.raw left).length oc] 2 0 (b.W:Int) (b.nodes left):=⟨some ⟨g,0,none⟩,oc,css',by rw[hnl],hns',by rw[hnl];exact hsn⟩;have hK48:=hG5.trans (hG6.trans (hG7.trans hG8));have hH8:=hH4.trans hK48;have hQ0:=hX.mono hH8;have hvx8:=hvx.mono hH8;(first|refine EVL.swapOw ([(g10,51,zam left)]) (ow8) (rfl) ?_|refine EV.swapOw ([(g10,51,zam left)]) (ow8) (rfl) ?_);refine uR ?_;refine EVL.app1 tO rfl rfl rfl rfl rfl rfl rfl rfl rfl rfl rfl rfl rfl rfl rfl rfl rfl rfl rfl (fun _=>rfl) (ow8) ([(g10,51,zam left)]) (rfl) (hown8) oM fun _=>?_;intro v9 ow9 hown9;obtain⟨a9,c9,rfl⟩:=hown9.val;(first|refine EVL.swapOw (ow9) ([(g10,51,zam left)]) (rfl) ?_|refine EV.swapOw (ow9) ([(g10,51,zam left)]) (rfl) ?_);refine uR ?_;refine EV.loopK (ι:=Nat) [0,5,6,8,9,10,13,97,98,135,136] [5,6,8,13] (fun i=>[(137,.v (.int .i64 (i:Int)))]) (fun _=>[]) (fun i=>(g10,51,zam ((b.next left).take i++left.drop i))::ow9) (fun i G=>i≤b.X.length∧G8.Le G) (fun i=>b.X.length-i) (0) rfl rfl ⟨rfl,trivial⟩ trivial rfl (fun _=>rfl) (⟨qQ _,Hp.Le.refl _⟩) ?_;rintro i G9 hG9 ⟨hi,hG89⟩;have hxl:(b.next left).length=left.length:=by unfold BG.next;rw[List.length_zipWith];omega
 have hml:=zox hxl i;refine uR ?_;refine EV.cond rfl (fun hli=>?_) (fun hli=>?_)
 ·simp only[nN]at hli;obtain⟨x,hx⟩:=gE hli;obtain⟨q,hqi⟩:∃q,left[i]?=some q:=⟨_,qA oM⟩;obtain⟨ux,ex,hux,hxr⟩:=hvs.at hx;obtain⟨hxw',hx60'⟩:=hb.each x (qF hx);have hnx:(b.next left)[i]?=some (q-b.rate*(zbY x (b.tree left)).value):=zgV hx hqi;have hlb:=zfz hTB x;have hq95:=hl95 q (qF hqi);have hval:=fun (G:Hp) (hG:G9.Le G)=>zjE (hTr.mono (hG89.trans hG)) hTB.ok (SlC.mono hxr (hH8.trans (hG89.trans hG))) (by rw[hxw']) (fun q hq=>zaj (hx60' q hq) oM);have hmul:=zfh b.rate (zbY x (b.tree left)).value (zaj hr oM) (zaj hlb oM);have hmh:=zdk b.rate (zbY x (b.tree left)).value;have hsub:=zfk q (b.rate*(zbY x (b.tree left)).value) (zaj hq95 oM) (zaj (n:=1000) oM oM)
  have hmi:((b.next left).take i++left.drop i)[i]?=some q:=by
   rw[qL (by rw[qP];omega),qP,qp oM,Nat.sub_self,List.getElem?_drop];exact hqi
  have hst:=zhb (l:=(b.next left).take i++left.drop i) (j:=i) [] (q-b.rate*(zbY x (b.tree left)).value) oM;rw[zoy hxl hnx,qG,qG]at hst;have hval':∀(G:Hp),G9.Le G→PC prog 54 #[.agg [.int .i64 2,.int .i64 0,.int .i64 (b.W:Int),.slice (some ⟨g,0,none⟩) (b.raw left).length oc].toArray,.slice ux x.length ex] G fun r _=>r=zaa (zbY x (b.tree left)).value:=hval;generalize (zbY x (b.tree left)).value=vl at *
  refine uR ?_;refine vI ((hvx8.mono hG89)) (i) (rfl) (hli) (hux) ?_;refine uR ?_;apply EV.drawn 13 kR kR;intro xv yw;(repeat refine' DD ?_);refine' DJ.idxB tO rfl rfl rfl rfl rfl rfl rfl rfl rfl (i) (i*5) (rfl) (hli) (rfl) ?_;rotate_left;refine' DJ.ofVal (zab.loadOwn tO rfl rfl rfl rfl (0) rfl (QL.at (H:=H) (v:=.bool true) hmi) rfl rfl) rfl rfl rfl ?_;rotate_left;(repeat refine' DD ?_);refine' vC (cO func54) (fun G hG hd=>hval' G hG) ?_;rotate_left;(repeat (first|refine' DD ?_|(refine' DC (hmul) (h:=?_);rotate_left)|(refine' DC (hsub) (h:=?_);rotate_left)));(refine DJ.nil (fun G1 hG1 hF1=>?_);(case hS|hS2=>rfl));refine EVL.idxB tO rfl rfl rfl rfl rfl rfl rfl rfl rfl (i) (i*5) (rfl) (hli) (rfl) ?_;refine EVL.storeOwn tO rfl rfl rfl rfl rfl rfl ([]) (ow9) rfl rfl rfl rfl ((by rw[zdf,hml];show i*5+5≤_;omega)) (hst) ?_;refine uR ?_;exact⟨i+1,⟨by rw[zae i (by omega)];rfl,trivial⟩,sB,trivial,sB,rfl,⟨hli,hG89.trans hG1⟩,hG1,by omega⟩
 ·simp only[nN]at hli;obtain rfl:i=b.X.length:=oM;rw[qO oM,List.drop_eq_nil_of_le oM,qG];refine uR ?_;exact⟨(k+1,.slice a9 (k+1) c9,ow9,tcs++[[.int .i64 2,.int .i64 0,.int .i64 (b.W:Int),.slice (some ⟨g,0,none⟩) (b.raw left).length oc]]),⟨by rw[zae k (by omega)];rfl,trivial⟩,sB,⟨rfl,trivial⟩,sB,by dsimp only;rw[hn2],⟨hlt,hG34.trans (hK48.trans hG89),by dsimp only;rw[List.flatten_append,List.flatten_cons,List.flatten_nil,qG];exact hown9,by dsimp only;rw[hn1];exact zl0 (R:=fun c (t:Tr)=>zfm G9 c t.kd t.cl t.w t.ns) (x:=[.int .i64 2,.int .i64 0,.int .i64 (b.W:Int),.slice (some ⟨g,0,none⟩) (b.raw left).length oc]) (y:=b.tree left) (hts.mono (hK48.trans hG89)) (hTr.mono hG89)⟩,hK48.trans hG89,by dsimp only;omega⟩
theorem znm {H:Hp} {vs:Value} {loss rounds deep least:Int} {rate tilt gain:Rat} (h:zke H vs loss rounds deep least rate tilt gain) (q1:rq rate) (q2:rq tilt) (q3:rq gain) :
  PC prog 16 #[vs] H fun r _=>r=.agg (zpa loss rounds deep least rate tilt gain).toArray:=by
 obtain⟨b1,a1,l1,c1,a2,l2,c2,b2,a3,l3,c3,a4,l4,c4,b3,a5,l5,c5,a6,l6,c6,rfl,h1,h2,h3⟩:=h;refine BD func16 ntmps16 ?_;refine uR ?_;apply EV.drawn 14 kR kR;intro xv yw;(repeat refine' DD ?_);refine' vC (cO func55) (fun G hG hd=>zmU (RQ.mono h1 hG) q1) ?_;rotate_left;(repeat refine' DD ?_);refine' vC (cO func55) (fun G hG hd=>zmU (RQ.mono h2 hG) q2) ?_;rotate_left;(repeat refine' DD ?_);refine' vC (cO func56) (fun G hG hd=>zmT (RQ.mono h3 hG) q3) ?_;rotate_left;(repeat refine' DD ?_);(refine DJ.nil (fun G1 hG1 hF1=>?_);(case hS|hS2=>rfl));refine uR ?_;rfl
end
section
open Go.ChangeShapes Go.WideShapes Go.ChangeAt Go.RowKit
def zrq (H:Hp) (v:Value):Prop:=∃n w dp ls rd rt at' tl vy vl ly ll,v=zrd n w dp ls rd rt at' tl vy vl∧(zfq n∧zfq w∧zfq dp∧zfq ls∧zfq rd∧zfq rt∧zfq at')∧(IL H vy ly∧∀z,z∈ly→zfq z)∧(IL H vl ll∧∀z,z∈ll→zfq z)
theorem raw21_open {H:Type} {enc:TypeId × Value→H} {w:World} {base:Nat} {spare:Nat→Bool} {held:Bool} {v:Value} {d:DataW H} {p:List MemPlace} (hv:∃cs,v=.agg cs) (h:DataW.Trod enc Tryz.prog w base spare held 24 v d p):zrq (hpOf w) v:=by
 obtain⟨cs,rfl⟩:=hv;obtain⟨fuel,h⟩:=h;obtain⟨xs,n,_,hx,hl,hlen,hf⟩:=DataW.trod_struct Tryz.underlying24 h;rw[show Tryz.prog.cellsOf 24=10 from by kernel_rfl]at hl;have hl4:cs.toList.length=10:=hl;obtain⟨l,rfl⟩:∃l:List Value,cs=l.toArray:=⟨cs.toList,by simp⟩;have hl4':l.length=10:=by simpa using hl4
 obtain⟨c0,c1,c2,c3,c4,c5,c6,c7,c8,c9,rfl⟩:=ztl hl4';have hx4:xs.length=10:=hlen;have f0:DataW.trod enc Tryz.prog w base spare held n 3 (([c0,c1,c2,c3,c4,c5,c6,c7,c8,c9].drop 0).take (Tryz.prog.cellsOf 3))=xs[0]?:=hf 0 _ rfl;have f1:DataW.trod enc Tryz.prog w base spare held n 3 (([c0,c1,c2,c3,c4,c5,c6,c7,c8,c9].drop 1).take (Tryz.prog.cellsOf 3))=xs[1]?:=hf 1 _ rfl;have f2:DataW.trod enc Tryz.prog w base spare held n 3 (([c0,c1,c2,c3,c4,c5,c6,c7,c8,c9].drop 2).take (Tryz.prog.cellsOf 3))=xs[2]?:=hf 2 _ rfl;have f3:DataW.trod enc Tryz.prog w base spare held n 3 (([c0,c1,c2,c3,c4,c5,c6,c7,c8,c9].drop 3).take (Tryz.prog.cellsOf 3))=xs[3]?:=hf 3 _ rfl;have f4:DataW.trod enc Tryz.prog w base spare held n 3 (([c0,c1,c2,c3,c4,c5,c6,c7,c8,c9].drop 4).take (Tryz.prog.cellsOf 3))=xs[4]?:=hf 4 _ rfl;have f5:DataW.trod enc Tryz.prog w base spare held n 3 (([c0,c1,c2,c3,c4,c5,c6,c7,c8,c9].drop 5).take (Tryz.prog.cellsOf 3))=xs[5]?:=hf 5 _ rfl;have f6:DataW.trod enc Tryz.prog w base spare held n 3 (([c0,c1,c2,c3,c4,c5,c6,c7,c8,c9].drop 6).take (Tryz.prog.cellsOf 3))=xs[6]?:=hf 6 _ rfl;have f7:DataW.trod enc Tryz.prog w base spare held n 4 (([c0,c1,c2,c3,c4,c5,c6,c7,c8,c9].drop 7).take (Tryz.prog.cellsOf 4))=xs[7]?:=hf 7 _ rfl;have f8:DataW.trod enc Tryz.prog w base spare held n 22 (([c0,c1,c2,c3,c4,c5,c6,c7,c8,c9].drop 8).take (Tryz.prog.cellsOf 22))=xs[8]?:=hf 8 _ rfl;have f9:DataW.trod enc Tryz.prog w base spare held n 22 (([c0,c1,c2,c3,c4,c5,c6,c7,c8,c9].drop 9).take (Tryz.prog.cellsOf 22))=xs[9]?:=hf 9 _ rfl;rw[show Tryz.prog.cellsOf 3=1 from by kernel_rfl]at f0 f1 f2 f3 f4 f5 f6;rw[show Tryz.prog.cellsOf 4=1 from by kernel_rfl]at f7;rw[show Tryz.prog.cellsOf 22=1 from by kernel_rfl]at f8 f9;rw[qA (by omega)]at f0 f1 f2 f3 f4 f5 f6 f7 f8 f9;obtain⟨z0,e0,_,w0⟩:=DataW.trod_int Tryz.underlying3 f0;obtain⟨z1,e1,_,w1⟩:=DataW.trod_int Tryz.underlying3 f1;obtain⟨z2,e2,_,w2⟩:=DataW.trod_int Tryz.underlying3 f2;obtain⟨z3,e3,_,w3⟩:=DataW.trod_int Tryz.underlying3 f3;obtain⟨z4,e4,_,w4⟩:=DataW.trod_int Tryz.underlying3 f4;obtain⟨z5,e5,_,w5⟩:=DataW.trod_int Tryz.underlying3 f5;obtain⟨z6,e6,_,w6⟩:=DataW.trod_int Tryz.underlying3 f6;obtain⟨b7,e7,_⟩:=DataW.trod_bool Tryz.underlying4 f7;obtain⟨a8,l8,k8,b8,e8,s8,d8⟩:=ints_open Tryz.underlying22 Tryz.underlying3 kR f8;obtain⟨a9,l9,k9,b9,e9,s9,d9⟩:=ints_open Tryz.underlying22 Tryz.underlying3 kR f9;have g0:[c0]=[.int .i64 z0]:=e0;have g1:[c1]=[.int .i64 z1]:=e1;have g2:[c2]=[.int .i64 z2]:=e2;have g3:[c3]=[.int .i64 z3]:=e3;have g4:[c4]=[.int .i64 z4]:=e4;have g5:[c5]=[.int .i64 z5]:=e5;have g6:[c6]=[.int .i64 z6]:=e6;have g7:[c7]=[.bool b7]:=e7;have g8:[c8]=[.slice a8 l8 k8]:=e8;have g9:[c9]=[.slice a9 l9 k9]:=e9;cases g0;cases g1;cases g2;cases g3;cases g4;cases g5;cases g6;cases g7;cases g8;cases g9;exact⟨z0,z1,z2,z3,z4,z5,z6,b7,_,_,b8,b9,rfl,⟨i64_bounds w0,i64_bounds w1,i64_bounds w2,i64_bounds w3,i64_bounds w4,i64_bounds w5,i64_bounds w6⟩,⟨s8,fun z hz=>i64_bounds (d8 z hz)⟩,⟨s9,fun z hz=>i64_bounds (d9 z hz)⟩⟩
theorem zkU (z:Int):Gr 12 20 (zfr z):=by
 unfold zfr;have hrd:=ze1 (z.tdiv 41 % 6).toNat
 have m1:=Int.emod_nonneg z (show (41:Int)≠0 by omega);have m2:=Int.emod_lt_of_pos z (show (0:Int)<41 by omega);generalize zrc (z.tdiv 41 % 6).toNat=d at *
 generalize hn:z % 41-20=n at *
 rw[Rat.divInt_eq_div];have hd:d=1∨d=2∨d=3∨d=4:=oM;have h12:(((12:Nat):Int):Rat)=12:=rfl;rcases hd with rfl | rfl | rfl | rfl
 ·exact⟨n*12,by rw[h12,Rat.intCast_mul];have:((1:Int):Rat)=1:=rfl;have:((12:Int):Rat)=12:=rfl;grind,by omega⟩
 ·exact⟨n*6,by rw[h12,Rat.intCast_mul];have:((2:Int):Rat)=2:=rfl;have:((6:Int):Rat)=6:=rfl;grind,by omega⟩
 ·exact⟨n*4,by rw[h12,Rat.intCast_mul];have:((3:Int):Rat)=3:=rfl;have:((4:Int):Rat)=4:=rfl;grind,by omega⟩
 ·exact⟨n*3,by rw[h12,Rat.intCast_mul];have:((4:Int):Rat)=4:=rfl;have:((3:Int):Rat)=3:=rfl;grind,by omega⟩
theorem zsh {l:List Int} {n:Nat}:∀q,q∈zjG l n→Gr 12 20 q:=fun q hq=>by
 obtain⟨i,hi,rfl⟩:=List.mem_map.1 hq;split
 ·exact zkU _
 ·exact Gr.zero _ _
def ztK (n w dp ls rt at':Int) (tl:Bool) (ll:List Int):BG:=⟨if tl then 2 else 1,Rat.divInt 1 (1+rt % 4),zk1 tl at',ze3 ll (1+n % 8).toNat (1+w % 3).toNat,(1+w % 3).toNat,(dp % 3).toNat,1+ls % 3,0⟩
theorem zsc (r:Int):(0<Rat.divInt 1 (1+r % 4)∧Rat.divInt 1 (1+r % 4)≤1)∧(Rat.divInt 1 (1+r % 4)).den≤4:=by
 have h:r % 4=0∨r % 4=1∨r % 4=2∨r % 4=3:=oM;rcases h with h | h | h | h <;> rw[h] <;> decide +kernel
theorem zsx (a:Int):(0<zk1 true a∧zk1 true a<1)∧ht (zk1 true a)≤10:=by
 unfold zk1;have h:a % 5=0∨a % 5=1∨a % 5=2∨a % 5=3∨a % 5=4:=oM;rcases h with h | h | h | h | h <;> rw[h] <;> decide +kernel
theorem zsd (n w dp ls rt at':Int) (tl:Bool) (ll:List Int):(ztK n w dp ls rt at' tl ll).Ok:=by
 have h1:=zeG ll (1+n % 8).toNat (1+w % 3).toNat
 obtain⟨r1,r2⟩:=zsc rt;obtain⟨t1,t2⟩:=zsx at';have hn:=Int.emod_nonneg n (show (8:Int)≠0 by omega);have hn2:=Int.emod_lt_of_pos n (show (0:Int)<8 by omega);have hw:=Int.emod_nonneg w (show (3:Int)≠0 by omega);have hw2:=Int.emod_lt_of_pos w (show (0:Int)<3 by omega);have hl:=Int.emod_nonneg ls (show (3:Int)≠0 by omega);have hl2:=Int.emod_lt_of_pos ls (show (0:Int)<3 by omega);have hd2:=Int.emod_lt_of_pos dp (show (0:Int)<3 by omega);refine⟨?_,r1,?_,?_,⟨r2,?_⟩,?_,?_,fun x hx=>znl x hx,?_,?_,?_⟩
 ·cases tl
  ·exact .inl rfl
  ·exact .inr rfl
 ·cases tl
  ·exact fun _=>rfl
  ·exact fun k=>absurd k (by decide:¬(2:Int)=1)
 ·cases tl
  ·exact fun k=>absurd k (by decide:¬(1:Int)=2)
  ·exact fun _=>t1
 ·cases tl
  ·show ht 0≤10;rw[zcu];decide
  ·exact t2
 ·show 1≤(ze3 ll (1+n % 8).toNat (1+w % 3).toNat).length∧(ze3 ll (1+n % 8).toNat (1+w % 3).toNat).length≤8;rw[h1];omega
 ·show 1≤(1+w % 3).toNat∧(1+w % 3).toNat≤20;omega
 ·show (dp % 3).toNat≤10;omega
 ·show 1≤1+ls % 3∧1+ls % 3≤300;omega
 ·exact⟨Rat.le_refl,by show ht 0≤10;rw[zcu];decide⟩
theorem zsU {r K:Nat} (hr:r≤4) (hK:K≤6):bl ((2*20*2 ^ K)*(12*840*(840*r) ^ K))≤95:=by
 by_cases h0:r=0
 ·subst h0;refine qI (zaT (Nat.mul_le_mul (qe _ (qf oM hK)) (qe _ (show (840*0) ^ K≤1 by rw[Nat.mul_zero];cases K with | zero=>exact qH _ | succ k=>rw[Nat.zero_pow (by omega)];omega)))) (zaS (by decide))
 exact qI (zaT (Nat.mul_le_mul (qe _ (qf oM hK)) (qe _ (qI (qf oM hK) (Nat.pow_le_pow_left (qe 840 hr) 6))))) (zaS (by decide))
end
section
open Go.RowKit _root_.Go.Proofs.Tryz
theorem zei.e {W:Nat} {t:Tr} (h:zei W t):zfp (W:Int) t=0:=by
 have h1:t.ns≠[]:=fun e=>by have:=h.len.1;rw[e]at this;exact absurd this (by decide)
 have hc:zj7 t=0:=by
  unfold zj7;rw[if_neg (fun k=>k (.inr h.kd)),if_neg];rintro (k | k)
  ·rw[h.kd]at k;exact absurd k (by decide)
  ·exact h1 k
 unfold zfp;rw[if_neg (fun k=>k hc),if_neg];rintro (k | k)
 ·exact k h.kd
 ·exact k h.wide
theorem zkq {loss:Int} {W:Nat} {rate tilt:Rat} {ts:List Tr} (h0:loss=1∨loss=2) (hW:1≤W∧W≤20) (hl:ts.length≤50) (hr:zdH loss rate tilt=true) (ht:∀t,t∈ts→zei W t):zbf loss (W:Int) rate tilt ts=0:=by
 rw[zlo h0 oM hr];exact zhA fun t h=>(ht t (List.mem_of_mem_take h)).e
abbrev z5:List Value:=[.bool false,.int .u64 0,.string ⟨#[]⟩,.int .u64 0,.string ⟨#[]⟩]
theorem ztv:z5=zaf (zaa 0):=zar.symm
theorem zrR {H:Hp} {vx vy:Value} (hX:QLL H vx [[0],[0],[0]]) (hy:QL H vy zgZ):PC prog 13 #[vx,vy,.agg (.int .i64 1::.int .i64 0::(zaf (zaa (1 / 2))++(z5++(.int .i64 0::.int .i64 1::z5)))).toArray] H fun r _=>r=.tuple #[.agg (zcA 1 1 3 (1 / 2) 0 (.slice none 0 0)).toArray,.int .i64 0]:=by
 have h:=zlU zqb (y:=zgZ) hX hy rfl (by decide +kernel) (by rw[zoo];decide +kernel) (by decide +kernel);rw[zoo]at h;rw[ztv];exact h
theorem zrS {H:Hp} {vx vy:Value} (hX:QLL H vx [[0],[0],[0]]) (hy:QL H vy zgZ):PC prog 13 #[vx,vy,.agg (.int .i64 2::.int .i64 0::(zaf (zaa (1 / 2))++(zaf (zaa (1 / 2))++(.int .i64 0::.int .i64 1::z5)))).toArray] H fun r _=>r=.tuple #[.agg (zcA 2 1 2 (1 / 2) (1 / 2) (.slice none 0 0)).toArray,.int .i64 0]:=by
 have h:=zlU zqc (y:=zgZ) hX hy rfl (by decide +kernel) (by rw[zop];decide +kernel) (by decide +kernel);rw[zop]at h;rw[ztv];exact h
theorem zkQ {H:Hp} {b m s:Nat} {cs:List Value} (h:H b=some cs.toArray) (hl:cs.length=m*s):SlC H (.slice (some ⟨b,0,none⟩) m m) m s cs:=⟨hl,.inr ⟨b,0,m,_,rfl,qH _,h,fun j x hj=>by rw[qv];simpa using hj⟩⟩
theorem zkP {G:Hp} {b:Nat} {c0 c1 c2:Value} {q:Rat} (h:G b=some #[c0,c1,c2]) (hx:RQ G (.agg #[c0,c1,c2]) q):RL G (.slice (some ⟨b,0,none⟩) 1 1) [q]:=RL.one (x:=.agg #[c0,c1,c2]) (zkQ (cs:=[c0,c1,c2]) h rfl) hx
theorem zr3 {G:Hp} {b:Nat} {c0 c1 c2 d0 d1 d2 e0 e1 e2:Value} {p q r:Rat} (h:G b=some #[c0,c1,c2,d0,d1,d2,e0,e1,e2]) (h1:RQ G (.agg #[c0,c1,c2]) p) (h2:RQ G (.agg #[d0,d1,d2]) q) (h3:RQ G (.agg #[e0,e1,e2]) r):RL G (.slice (some ⟨b,0,none⟩) 3 3) [p,q,r] :=
 ⟨[.agg #[c0,c1,c2],.agg #[d0,d1,d2],.agg #[e0,e1,e2]],rfl,fun j v x e1 e2=>(by
  match j,e1,e2 with
  | 0,e1,e2=>cases e1;cases e2;exact h1
  | 1,e1,e2=>cases e1;cases e2;exact h2
  | 2,e1,e2=>cases e1;cases e2;exact h3),zkQ (cs:=[c0,c1,c2,d0,d1,d2,e0,e1,e2]) h rfl⟩
set_option maxRecDepth 100000 in
theorem zmV {H:Hp}:PC prog 12 #[] H fun r _=>r=.bool true:=by
 have hof:=fun (z:Int) (h1:-9223372036854775808≤z) (h2:z<9223372036854775808) (G:Hp)=>zfB (H:=G) z h1 h2;have hov:PV prog 44 #[.int .i64 1,.int .i64 2] (.tuple #[zaa (1 / 2),.bool true]):=(zqo 1 2 oM oM).of_eq (by rw[show mkRat 1 (2:Int).natAbs=1 / 2 by decide +kernel]);have i1:=fun G:Hp=>zs2 (H:=G) 3 (by show ht 3≤_;decide +kernel) 3 1 oM oM oM oM oM (by decide +kernel);have i2:=fun G:Hp=>zs2 (H:=G) 2 (by show ht 2≤_;decide +kernel) 2 1 oM oM oM oM oM (by decide +kernel);refine BD func12 ntmps12 ?_;refine uR ?_;refine EVL.call rfl rfl rfl rfl rfl (hof 0 oM oM _) ?_;rintro r1 G1 h1 hG1;obtain⟨_,_,_,_,_,_,rfl,_⟩:=id h1;refine uR ?_;refine EVL.lit tO rfl rfl rfl rfl rfl rfl rfl rfl rfl rfl rfl fun b1=>?_;(first|refine EVL.publish [] [] rfl fun G2 hG2 hb1=>?_|refine EV.publish [] [] rfl fun G2 hG2 hb1=>?_);have l1:RL G2 (.slice (some ⟨b1,0,none⟩) 1 1) [((0:Int):Rat)]:=zkP hb1 (h1.mono hG2);refine uR ?_;refine EVL.call rfl rfl rfl rfl rfl (hof 0 oM oM _) ?_;rintro r2 G3 h2 hG3;obtain⟨_,_,_,_,_,_,rfl,_⟩:=id h2;refine uR ?_;refine EVL.lit tO rfl rfl rfl rfl rfl rfl rfl rfl rfl rfl rfl fun b2=>?_;(first|refine EVL.publish [] [] rfl fun G4 hG4 hb2=>?_|refine EV.publish [] [] rfl fun G4 hG4 hb2=>?_);have l2:RL G4 (.slice (some ⟨b2,0,none⟩) 1 1) [((0:Int):Rat)]:=zkP hb2 (h2.mono hG4);refine uR ?_;refine EVL.call rfl rfl rfl rfl rfl (hof 0 oM oM _) ?_;rintro r3 G5 h3 hG5;obtain⟨_,_,_,_,_,_,rfl,_⟩:=id h3;refine uR ?_;refine EVL.lit tO rfl rfl rfl rfl rfl rfl rfl rfl rfl rfl rfl fun b3=>?_;(first|refine EVL.publish [] [] rfl fun G6 hG6 hb3=>?_|refine EV.publish [] [] rfl fun G6 hG6 hb3=>?_);have l3:RL G6 (.slice (some ⟨b3,0,none⟩) 1 1) [((0:Int):Rat)]:=zkP hb3 (h3.mono hG6);refine uR ?_;refine EVL.lit tO rfl rfl rfl rfl rfl rfl rfl rfl rfl rfl rfl fun b4=>?_;(first|refine EVL.publish [] [] rfl fun G7 hG7 hb4=>?_|refine EV.publish [] [] rfl fun G7 hG7 hb4=>?_)
 have hX:RLL G7 (.slice (some ⟨b4,0,none⟩) 3 3) [[((0:Int):Rat)],[((0:Int):Rat)],[((0:Int):Rat)]]:=⟨[.slice (some ⟨b1,0,none⟩) 1 1,.slice (some ⟨b2,0,none⟩) 1 1,.slice (some ⟨b3,0,none⟩) 1 1],⟨rfl,fun j v x e1 e2=>(by
  match j,e1,e2 with
  | 0,e1,e2=>cases e1;cases e2;exact l1.mono (hG3.trans (hG4.trans (hG5.trans (hG6.trans hG7))))
  | 1,e1,e2=>cases e1;cases e2;exact l2.mono (hG5.trans (hG6.trans hG7))
  | 2,e1,e2=>cases e1;cases e2;exact l3.mono hG7)⟩,zkQ hb4 rfl⟩
 refine uR ?_;refine vA (zjb hX (by decide) (show ∀x,x∈[[((0:Int):Rat)],[((0:Int):Rat)],[((0:Int):Rat)]]→x.length≤1000000∧∀q,q∈x→ht q≤100000000 by decide +kernel)) ?_;rintro r4 G8 hX8 hG8;obtain⟨xa,xc,rfl⟩:=hX8.val;refine uR ?_;refine EVL.call rfl rfl rfl rfl rfl (hof 1 oM oM _) ?_;rintro r5 G9 h5 hG9;obtain⟨_,_,_,_,_,_,rfl,_⟩:=id h5;refine uR ?_;refine EVL.call rfl rfl rfl rfl rfl (hof 2 oM oM _) ?_;rintro r6 G10 h6 hG10;obtain⟨_,_,_,_,_,_,rfl,_⟩:=id h6;refine uR ?_;refine EVL.call rfl rfl rfl rfl rfl (hof 6 oM oM _) ?_;rintro r7 G11 h7 hG11;obtain⟨_,_,_,_,_,_,rfl,_⟩:=id h7;refine uR ?_;refine EVL.lit tO rfl rfl rfl rfl rfl rfl rfl rfl rfl rfl rfl fun b5=>?_;(first|refine EVL.publish [] [] rfl fun G12 hG12 hb5=>?_|refine EV.publish [] [] rfl fun G12 hG12 hb5=>?_);have hY:RL G12 (.slice (some ⟨b5,0,none⟩) 3 3) [((1:Int):Rat),((2:Int):Rat),((6:Int):Rat)]:=zr3 hb5 (h5.mono (hG10.trans (hG11.trans hG12))) (h6.mono (hG11.trans hG12)) (h7.mono hG12);refine uR ?_;refine vA (zfy hY (by decide) (show ∀q,q∈[((1:Int):Rat),((2:Int):Rat),((6:Int):Rat)]→ht q≤100000000 by decide +kernel)) ?_;rintro r8 G13 hY13 hG13;obtain⟨ya,yc,rfl⟩:=SlC.val hY13;have hX13:=hX8.mono (hG9.trans (hG10.trans (hG11.trans (hG12.trans hG13))))
 repeat (first|refine RUN ?_|refine CV (hov) ?_|refine CE (hov) ?_)
 refine vA (zrR hX13 hY13) ?_;rintro _ G14 rfl hG14;refine uR ?_;refine vA (zrS (hX13.mono hG14) (SlC.mono hY13 hG14)) ?_;rintro _ G15 rfl hG15;have j1:=i1 G15;have j2:=i2 G15
 repeat (first|refine RUN ?_|refine CV (j1) ?_|refine CV (j2) ?_|refine CE (j1) ?_|refine CE (j2) ?_)
 rfl
structure zro (b:BG) (y:List Rat) (K:Nat):Prop where
 trees:∀t,t∈(b.fit y K).1→zei b.W t
 len:(b.fit y K).1.length=K
 mid:ht (b.mid y)≤95
 rate:ht b.rate≤10
 y95:∀q,q∈y→ht q≤95
 check:zbf b.loss (b.W:Int) b.rate b.tilt (b.fit y K).1=0
theorem zs0 {b:BG} (hb:b.Ok) {y:List Rat} {K D A:Nat} (hyl:y.length=b.X.length) (hD:1≤D) (hA:1≤A) (hg:∀q,q∈y→Gr D A q) (hK:K≤50) (hbl:bl ((2*A*2 ^ K)*(D*840*(840*b.rate.den) ^ K))≤95):zro b y K:=by
 have hT:=(hb.fit hD hA hg hyl hbl K (qH _)).2;have hln:=(b.fit_len y hyl K).2;have hrd:=b.rate.den_nz;have hb0:bl (A*(D*840))≤95:=qI (zaT (Nat.mul_le_mul (by rw[qW 2 A,Nat.mul_assoc];exact Nat.le_mul_of_pos_right A (Nat.mul_pos oM (Nat.pow_pos oM))) (Nat.le_mul_of_pos_right _ (Nat.pow_pos oM)))) hbl;refine⟨hT,hln,qI ((hb.mid_gr hg hyl).bits oM hA) hb0,?_,fun q k=>qI (((hg q k).up 840).bits oM hA) hb0,zkq hb.loss ⟨hb.wide.1,hb.wide.2⟩ oM (zqx hb) hT⟩;have h:=hb.rd.bits oM oM;rw[Nat.one_mul]at h;exact qI h (qI (zaT hb.den.1) (zaS (by decide)))
theorem zlT {H:Hp} {b:BG} {y:List Rat} {K:Nat} (hf:zro b y K) (hb:b.Ok) (hK:K≤50) {ta:Option Addr} {tc:Nat} {vx:Value} {x:List Rat} (hP:PTL H (.slice ta K tc) (b.fit y K).1) (hx:QL H vx x) (hx100:∀q,q∈x→ht q≤100) (hxl:x.length=b.W) :
  PC prog 28 #[.agg (zcA b.loss (b.W:Int) (b.mid y) b.rate b.tilt (.slice ta K tc)).toArray,vx] H fun r _=>r=.tuple #[zaa (znL (b.mid y) b.rate (b.fit y K).1 x),.int .i64 0]:=by
 have h1:=hf.mid;have h2:=hf.rate;have h3:=hb.den.2;have hA:=zm2 (loss:=b.loss) (w:=(b.W:Int)) (base:=b.mid y) (rate:=b.rate) (tilt:=b.tilt) (ta:=ta) (tc:=tc) (by rw[hf.len];exact hP) (fun t h=>(hf.trees t h).x) hx hx100 (show ht (b.mid y)≤200 by omega) (show ht b.rate≤200 by omega) (show ht b.tilt≤200 by omega) (by rw[hf.len];omega)
 have h0:(if zbf b.loss (b.W:Int) b.rate b.tilt (b.fit y K).1≠0 then 1 else if (x.length:Int)≠(b.W:Int) then 5 else 0:Int)=0:=by
  rw[if_neg (fun k=>k hf.check),if_neg (fun k=>k (show (x.length:Int)=(b.W:Int) by omega))]
 rw[h0,hf.len]at hA;refine hA.mono ?_;rintro r G' ⟨q,rfl,h,_⟩ _;rw[h hf.check (by omega)]
theorem znM {b:BG} {y:List Rat} {K:Nat} (hf:zro b y K) (hK:K≤50) (x:List Rat):ht (znL (b.mid y) b.rate (b.fit y K).1 x)≤400000:=by
 have h1:=hf.mid;have h2:=hf.rate;exact zrz (w:=b.W) (show ht (b.mid y)≤200 by omega) (show ht b.rate≤200 by omega) (by rw[hf.len];omega) fun t h=>qI (zfz (hf.trees t h) x) oM
theorem znu {H:Hp} {v:Value} {x:List Rat} {K M:Rat} (h:QL H v x) (hl:x.length≤1000) (hb:∀q,q∈x→ht q≤100) (hK:ht K≤100) (hM:ht M≤100):PC prog 26 #[v,zaa K,zaa M] H fun r H'=>QL H' r (x.map fun z=>z*K+M):=by
 obtain⟨xa,xc,rfl⟩:=SlC.val h;have hS:SlC H (.slice xa x.length xc) x.length 5 (x.flatMap fun q=>zaf (zaa q)):=h;refine BD func26 ntmps26 ?_;refine uR ?_;refine EV.loopK (ι:=Nat × Value × Ows) [0,4,5] [4,5] (fun q=>[(7,.v q.2.1),(8,.v (.int .i64 (q.1:Int)))]) (fun _=>[]) (fun q=>q.2.2) (fun q _=>q.1≤x.length∧za0 51 5 q.2.1 q.1 (((x.map fun z=>z*K+M).take q.1).flatMap fun q=>zaf (zaa q)) q.2.2) (fun q=>x.length-q.1) ((0,.slice none 0 0,[])) rfl rfl ⟨rfl,rfl,trivial⟩ trivial rfl (fun _=>rfl) (⟨qQ _,za0.nil _ _⟩) ?_;rintro⟨j,u,ou⟩ G1 hG1 ⟨hj,hou⟩;dsimp only at hj hou;obtain⟨ua,uc,rfl⟩:=hou.val;refine uR ?_;refine EV.cond rfl (fun hlj=>?_) (fun hlj=>?_)
 ·simp only[nN]at hlj;obtain⟨z,hz⟩:=gE hlj;have hzb:=hb z (qF hz);have hyz:(x.map fun z=>z*K+M)[j]?=some (z*K+M):=by rw[qK,hz];rfl
  have hmul:=zfh z K (zaj hzb oM) (zaj hK oM);have hzm:=zdk z K;have hadd:=zcy (z*K) M (zaj hzm oM) (zaj hM oM);have hS1:=hS.mono hG1;refine uR ?_;apply EV.drawn 10 kR kR;intro xv yw;(repeat refine' DD ?_);refine' DJ.idxM tO rfl rfl rfl rfl rfl rfl rfl rfl rfl (hS1) (j) (rfl) (hlj) (QL.at (H:=H) (v:=.bool true) hz) ?_;rotate_left;(repeat (first|refine' DD ?_|(refine' DC (hmul) (h:=?_);rotate_left)|(refine' DC (hadd) (h:=?_);rotate_left)));(refine' DJ.lit tO rfl rfl rfl rfl rfl rfl rfl rfl rfl rfl rfl rfl ?_;rotate_left);(refine DJ.nil (fun G2 hG2 hF2=>?_);(case hS|hS2=>rfl));refine EVL.append tO rfl rfl rfl rfl rfl rfl rfl rfl rfl rfl rfl rfl [] ou [] (qG _).symm hou (zeg.ro hF2.1 oM) rfl oM ?_;intro v1 ou1 hou1;refine uR ?_;refine⟨(j+1,v1,ou1),⟨rfl,by rw[zae j (by omega)];rfl,trivial⟩,sB,trivial,sB,qG _,⟨hlj,by dsimp only;rw[zaq hyz,List.flatMap_append];exact hou1⟩,by assumption,by dsimp only;omega⟩
 ·simp only[nN]at hlj;obtain rfl:j=x.length:=oM;rw[qO (by rw[qV];exact qH _)]at hou;(first|refine EVL.publishL [] ou [] ((qG _).symm) hou fun G2 hG2 hrow=>?_|refine EV.publishL [] ou [] ((qG _).symm) hou fun G2 hG2 hrow=>?_);refine uR ?_;unfold QL;rw[qV];exact hrow
theorem zoH {H:Hp} {v:Value} (h:zrq H v):PC prog 7 #[v] H fun r G=>∃(b:BG) (y:List Rat) (K:Nat) (vx vv vs:Value),r=.tuple #[vx,vv,vs]∧b.Ok∧RLL G vx b.X∧RL G vv y∧zke G vs b.loss (K:Int) (b.D:Int) b.least b.rate b.tilt b.gain∧y.length=b.X.length∧(∀q,q∈y→Gr 12 20 q)∧K≤3∧b.gain=0∧b.W≤3∧(∀x,x∈b.X→x.length=b.W∧∀q,q∈x→ht q≤5):=by
 obtain⟨n,w,dp,ls,rd,rt,at',tl,vy,vl,ly,ll,rfl,⟨hn,hw,hdp,hls,hrd,hrt,hat⟩,⟨hy,hyb⟩,hl,hlb⟩:=h;have e1:=Int.emod_nonneg n (show (8:Int)≠0 by omega);have e2:=Int.emod_nonneg w (show (3:Int)≠0 by omega);have e3:=Int.emod_nonneg dp (show (3:Int)≠0 by omega);have e4:=Int.emod_nonneg rd (show (4:Int)≠0 by omega);have e5:=Int.emod_lt_of_pos rd (show (0:Int)<4 by omega);have e6:=Int.emod_lt_of_pos w (show (0:Int)<3 by omega);refine(zqm n w dp ls rd rt at' tl hn hw hdp hls hrd hrt hat hy hyb hl hlb (N:=(1+n % 8).toNat) (W:=(1+w % 3).toNat) oM oM).mono ?_;rintro r G ⟨vx,vv,vs,rfl,r1,r2,r3⟩ hG;refine⟨ztK n w dp ls rt at' tl ll,_,(rd % 4).toNat,vx,vv,vs,rfl,zsd ..,r1,r2,?_,?_,zsh,by omega,rfl,by show (1+w % 3).toNat≤3;omega,fun x hx=>zik x hx⟩
 ·rw[show (((rd % 4).toNat:Nat):Int)=rd % 4 by omega,show ((ztK n w dp ls rt at' tl ll).D:Int)=dp % 3 by show (((dp % 3).toNat:Nat):Int)=dp % 3;omega];exact r3
 ·show (zjG ly (1+n % 8).toNat).length=(ze3 ll (1+n % 8).toNat (1+w % 3).toNat).length;rw[zeF,zeG]
end
section
theorem znH {X Y:List (List Rat)} {c:Int} {σ:Int→Int} {rs rs':List Int} (hr:(rs'.map σ).Perm rs) (hk:∀r,r∈rs'→zb6 Y c r=zb6 X c (σ r)):rs'.all (zb6 Y c)=rs.all (zb6 X c):=by
 rw[Bool.eq_iff_iff,List.all_eq_true,List.all_eq_true];constructor
 ·intro h r hm;obtain⟨r',h1,rfl⟩:=List.mem_map.1 (hr.mem_iff.2 hm);rw[←hk r' h1];exact h r' h1
 ·intro h r hm;rw[hk r hm];exact h _ (hr.mem_iff.1 (List.mem_map.2 ⟨r,hm,rfl⟩))
theorem zjz {X Y:List (List Rat)} {c:Int} {σ:Int→Int} {rs rs':List Int} {f:Rat→Rat} (hr:(rs'.map σ).Perm rs) (hlt:∀a b:Rat,a<b↔f a<f b) (hmid:∀a b:Rat,(f a+f b) / 2=f ((a+b) / 2)) (hk:∀r,r∈rs'→zb6 Y c r=zb6 X c (σ r)∧zbm Y c r=f (zbm X c (σ r))):plQ Y c rs'=(plQ X c rs).map f:=by
 unfold plQ;rw[znH hr fun r h=>(hk r h).1];by_cases ha:rs.all (zb6 X c)=true
 ·rw[if_pos ha,if_pos ha];have hmono:∀a b:Rat,a≤b→f a≤f b:=fun a b h=>Rat.not_lt.1 fun k=>absurd ((hlt b a).2 k) (Rat.not_lt.2 h)
  have e:(zcV (rs.map (zbm X c))).map f=zcV (rs'.map (zbm Y c)):=by
   refine zcE ?_ ?_
   ·refine((zbo _).map f).trans ?_;rw[List.map_map,show rs'.map (zbm Y c)=(rs'.map σ).map (f ∘ zbm X c) by rw[List.map_map];exact List.map_congr_left fun r h=>(hk r h).2];exact(hr.map _).symm
   ·exact List.pairwise_map.2 ((zcr _).imp fun {a b} h=>hmono a b h)
  have hl:rs'.length=rs.length:=by rw[←hr.length_eq,qV]
  rw[←e,hl];exact zi9 hlt hmid _ _ (by rw[(zbo _).length_eq,qV];exact qH _)
 ·rw[if_neg ha,if_neg ha];rfl
theorem zdS {σ:Int→Int} {l:List Int} {p q:Int→Bool} (h:∀r,r∈l→p r=q (σ r)):(l.filter p).map σ=(l.map σ).filter q:=by
 rw[List.filter_map];congr 1;exact List.filter_congr h
theorem zhj {X Y:List (List Rat)} {c:Int} {t:Rat} {σ:Int→Int} {rs rs':List Int} {f:Rat→Rat} (hr:(rs'.map σ).Perm rs) (hlt:∀a b:Rat,a<b↔f a<f b) (hk:∀r,r∈rs'→zb6 Y c r=zb6 X c (σ r)∧zbm Y c r=f (zbm X c (σ r))):((za3 Y c (f t) rs').map σ).Perm (za3 X c t rs)∧((zaB Y c (f t) rs').map σ).Perm (zaB X c t rs):=by
 have hle:∀a b:Rat,(f a≤f b)↔(a≤b):=fun a b=>by rw[←Rat.not_lt,←Rat.not_lt,←hlt]
 have e1:(za3 Y c (f t) rs').map σ=(rs'.map σ).filter fun r=>zb6 X c r && decide (zbm X c r≤t):=zdS fun r h=>by rw[(hk r h).1,(hk r h).2,decide_eq_decide.2 (hle _ _)]
 have e2:(zaB Y c (f t) rs').map σ=(rs'.map σ).filter fun r=>zb6 X c r && !decide (zbm X c r≤t):=zdS fun r h=>by rw[(hk r h).1,(hk r h).2,decide_eq_decide.2 (hle _ _)]
 rw[e1,e2];exact⟨hr.filter _,hr.filter _⟩
structure GS (σ:Int→Int) (f:Rat→Rat) (κ m:Rat) (w:Nat) (p p':GP):Prop where
 lt:∀a b:Rat,a<b↔f a<f b
 mid:∀a b:Rat,(f a+f b) / 2=f ((a+b) / 2)
 pos:0<κ
 rng:∀r:Int,0≤r∧r<(p'.X.length:Int)→0≤σ r∧σ r<(p.X.length:Int)
 key:∀c r:Int,0≤c∧c<(w:Int)→0≤r∧r<(p'.X.length:Int)→zb6 p'.X c r=zb6 p.X c (σ r)∧zbm p'.X c r=f (zbm p.X c (σ r))
 cost:∀l:List Int,(∀r,r∈l→0≤r∧r<(p'.X.length:Int))→p'.cost l=κ*p.cost (l.map σ)
 mean:∀l:List Int,(∀r,r∈l→0≤r∧r<(p'.X.length:Int))→p'.mean l=m*p.mean (l.map σ)
 cnt:∀l:List Int,(∀r,r∈l→0≤r∧r<(p'.X.length:Int))→p'.cnt l=p.cnt (l.map σ)
 least:p'.least=p.least
 gain:p'.gain=κ*p.gain
 cols:∀s s' c,c∈(p'.cols s').1↔c∈(p.cols s).1
 range:∀s c,c∈(p.cols s).1→0≤c∧c<(w:Int)
 pcost:∀l m:List Int,l.Perm m→p.cost l=p.cost m
 pmean:∀l m:List Int,l.Perm m→p.mean l=p.mean m
 pcnt:∀l m:List Int,l.Perm m→p.cnt l=p.cnt m
def zi0 (f:Rat→Rat) (κ:Rat) (u:Int × Rat × Rat):Int × Rat × Rat:=(u.1,f u.2.1,κ*u.2.2)
theorem zb7 {κ a b:Rat} (h:0<κ):κ*a<κ*b↔a<b:=by
 constructor
 ·intro k;refine Rat.not_le.1 fun k'=>?_;exact absurd k (Rat.not_lt.2 (Rat.mul_le_mul_of_nonneg_left k' (Rat.le_of_lt h)))
 ·intro k;have:=Rat.mul_lt_mul_of_pos_right k h
  rwa [Rat.mul_comm a,Rat.mul_comm b]at this
theorem zhm {κ a b:Rat} (h:0<κ):κ*a=κ*b↔a=b:=by
 constructor
 ·intro k;refine Rat.le_antisymm (Rat.not_lt.1 fun q=>?_) (Rat.not_lt.1 fun q=>?_)
  ·have:=(zb7 h).2 q;rw[k]at this;exact absurd this (Rat.lt_irrefl)
  ·have:=(zb7 h).2 q;rw[k]at this;exact absurd this (Rat.lt_irrefl)
 ·rintro rfl;rfl
theorem zm9 {f:Rat→Rat} {κ:Rat} (hlt:∀a b:Rat,a<b↔f a<f b) (hκ:0<κ) (a b:Int × Rat × Rat):ziJ (zi0 f κ a) (zi0 f κ b)↔ziJ a b:=by
 unfold ziJ zi0;dsimp only;rw[←hlt a.2.1 b.2.1,zb7 hκ,zhm hκ]
theorem GS.best {σ:Int→Int} {f:Rat→Rat} {κ m:Rat} {w:Nat} {p p':GP} (h:GS σ f κ m w p p') {rows rows':List Int} (hr:(rows'.map σ).Perm rows) (hb:∀r,r∈rows'→0≤r∧r<(p'.X.length:Int)) (s s':Int):p'.best rows' (p'.cols s').1=(p.best rows (p.cols s).1).map (zi0 f κ):=by
 have h1:=(zb5 (zaW p'.X p'.cost rows' (max 1 p'.least) (p'.cols s').1)).p;have h2:=(zb5 (zaW p.X p.cost rows (max 1 p.least) (p.cols s).1)).p;have hlow:∀(c:Int) (t:Rat),(∀r,r∈za3 p'.X c t rows'→0≤r∧r<(p'.X.length:Int))∧(∀r,r∈zaB p'.X c t rows'→0≤r∧r<(p'.X.length:Int)):=fun c t=>⟨fun r k=>hb r (List.mem_filter.1 k).1,fun r k=>hb r (List.mem_filter.1 k).1⟩
 have hval:∀(c:Int) (t:Rat),0≤c∧c<(w:Int)→p'.cost rows'-(p'.cost (za3 p'.X c (f t) rows')+p'.cost (zaB p'.X c (f t) rows'))=κ*(p.cost rows-(p.cost (za3 p.X c t rows)+p.cost (zaB p.X c t rows)))∧(za3 p'.X c (f t) rows').length=(za3 p.X c t rows).length∧(zaB p'.X c (f t) rows').length=(zaB p.X c t rows).length:=fun c t hc=>by
  obtain⟨hl,hh⟩:=zhj (t:=t) hr h.lt fun r hm=>h.key c r hc (hb r hm);refine⟨?_,by rw[←hl.length_eq,qV],by rw[←hh.length_eq,qV]⟩;rw[h.cost _ hb,h.cost _ (hlow c (f t)).1,h.cost _ (hlow c (f t)).2,h.pcost _ _ hr,h.pcost _ _ hl,h.pcost _ _ hh];grind
 have hmem:∀u,u∈zaW p'.X p'.cost rows' (max 1 p'.least) (p'.cols s').1↔∃v,v∈zaW p.X p.cost rows (max 1 p.least) (p.cols s).1∧u=zi0 f κ v:=by
  intro u;constructor
  ·intro k;obtain⟨c,t,hc,ht,hL,rfl⟩:=zca.1 k;have hc':=(h.cols s s' c).1 hc;have hcw:=h.range s c hc';rw[zjz hr h.lt h.mid fun r hm=>h.key c r hcw (hb r hm)]at ht;obtain⟨t0,ht0,rfl⟩:=List.mem_map.1 ht;obtain⟨v1,v2,v3⟩:=hval c t0 hcw;rw[v2,v3,h.least]at hL;refine⟨_,zca.2 ⟨c,t0,hc',ht0,hL,rfl⟩,?_⟩;unfold zi0;rw[v1]
  ·rintro⟨v,k,rfl⟩;obtain⟨c,t,hc,ht,hL,rfl⟩:=zca.1 k;have hcw:=h.range s c hc;obtain⟨v1,v2,v3⟩:=hval c t hcw;refine zca.2 ⟨c,f t,(h.cols s s' c).2 hc,?_,?_,?_⟩
   ·rw[zjz hr h.lt h.mid fun r hm=>h.key c r hcw (hb r hm)];exact List.mem_map.2 ⟨t,ht,rfl⟩
   ·rw[v2,v3,h.least];exact hL
   ·unfold zi0;rw[v1]
 unfold GP.best;refine zhh (Q:=fun u=>∃v,v∈zaW p.X p.cost rows (max 1 p.least) (p.cols s).1∧u=zi0 f κ v) h1 ?_ hmem;generalize (zaW p.X p.cost rows (max 1 p.least) (p.cols s).1).foldl zpK none=o at *
 cases o with
 | none=>exact fun u ⟨v,hv,_⟩=>h2 v hv
 | some v =>
  refine⟨⟨v,h2.1,rfl⟩,?_⟩;rintro u ⟨v',hv',rfl⟩ k;exact h2.2 v' hv' ((zm9 h.lt h.pos _ _).1 k)
theorem GS.cut {σ:Int→Int} {f:Rat→Rat} {κ m:Rat} {w:Nat} {p p':GP} (h:GS σ f κ m w p p') {rows rows':List Int} (hr:(rows'.map σ).Perm rows) (hb:∀r,r∈rows'→0≤r∧r<(p'.X.length:Int)) (s s':Int):p'.cut rows' (p'.cols s').1=(p.cut rows (p.cols s).1).map fun q=>(q.1,f q.2):=by
 unfold GP.cut;rw[h.best hr hb s s']
 cases p.best rows (p.cols s).1 with
 | none=>rfl
 | some q =>
  obtain⟨c,t,g⟩:=q;show (if κ*g≤p'.gain then none else some (c,f t))=Option.map _ (if g≤p.gain then none else some (c,t));rw[h.gain];by_cases k:g≤p.gain
  ·rw[if_pos k,if_pos (Rat.not_lt.1 fun e=>absurd ((zb7 h.pos).1 e) (Rat.not_lt.2 k))];rfl
  ·rw[if_neg k,if_neg fun e=>k (Rat.not_lt.1 fun e'=>absurd ((zb7 h.pos).2 e') (Rat.not_lt.2 e))];rfl
def zhB (f:Rat→Rat) (κ m:Rat) (n:Nd):Nd:={ n with at':=if n.col = -1 then n.at' else f n.at',cost:=κ*n.cost,value:=m*n.value }
theorem GS.grow {σ:Int→Int} {f:Rat→Rat} {κ m:Rat} {w:Nat} {p p':GP} (h:GS σ f κ m w p p') {kd cl:Int} (hp:zmq p kd cl w):∀(d k:Nat) (rows rows':List Int) (s s':Int),(rows'.map σ).Perm rows→(∀r,r∈rows'→0≤r∧r<(p'.X.length:Int))→(p'.grow d k rows' s').1=(p.grow d k rows s).1.map (zhB f κ m):=by
 have hnd:∀rows rows':List Int,(rows'.map σ).Perm rows→(∀r,r∈rows'→0≤r∧r<(p'.X.length:Int))→p'.nd rows'=zhB f κ m (p.nd rows):=fun rows rows' hr hb=>by
  have hl:rows'.length=rows.length:=by rw[←hr.length_eq,qV]
  unfold GP.nd zhB;dsimp only;rw[h.cost _ hb,h.mean _ hb,h.cnt _ hb,h.pcost _ _ hr,h.pmean _ _ hr,h.pcnt _ _ hr,hl,if_pos rfl]
 intro d
 induction d with
 | zero =>
  intro k rows rows' s s' hr hb;rw[GP.grow_zero,GP.grow_zero,hnd rows rows' hr hb];rfl
 | succ d ih =>
  intro k rows rows' s s' hr hb;have hc:=h.cut hr hb s s'
  have hb0:∀r,r∈rows→0≤r∧r<(p.X.length:Int):=fun r hm=>by
   obtain⟨r',h1,rfl⟩:=List.mem_map.1 (hr.mem_iff.2 hm);exact h.rng r' (hb r' h1)
  cases hcu:p.cut rows (p.cols s).1 with
  | none =>
   rw[hcu]at hc;rw[GP.grow_none hcu,GP.grow_none hc,hnd rows rows' hr hb];rfl
  | some q =>
   obtain⟨c,t⟩:=q;rw[hcu]at hc;obtain⟨hcw,_,_,_,_,_⟩:=zf2 hp hb0 hcu;obtain⟨hl,hh⟩:=zhj (t:=t) hr h.lt fun r hm=>h.key c r hcw (hb r hm);rw[GP.grow_some hcu,GP.grow_some (c:=c) (t:=f t) hc];have hL:=ih (k+1) _ _ (p.cols s).2 (p'.cols s').2 hl fun r hr=>hb r (List.mem_filter.mp hr).1;have hlen:(p'.grow d (k+1) (za3 p'.X c (f t) rows') (p'.cols s').2).1.length=(p.grow d (k+1) (za3 p.X c t rows) (p.cols s).2).1.length:=by rw[hL,qV]
   have hR:=ih (k+1+(p.grow d (k+1) (za3 p.X c t rows) (p.cols s).2).1.length) _ _ (p.grow d (k+1) (za3 p.X c t rows) (p.cols s).2).2 (p'.grow d (k+1) (za3 p'.X c (f t) rows') (p'.cols s').2).2 hh fun r hr=>hb r (List.mem_filter.mp hr).1;dsimp only;rw[hlen,hR,hL,hnd rows rows' hr hb,qy,qr];congr 1;unfold zhB;dsimp only;rw[if_neg (show ¬c = -1 by omega)]
theorem zdb.simK {f:Rat→Rat} {κ m:Rat} (hlt:∀a b:Rat,a<b↔f a<f b) {T:List Nd} {x x':List Rat} {w:Int} (hx:∀c:Int,0≤c∧c<w→x'.getD c.toNat 0=f (x.getD c.toNat 0)) (hall:∀n,n∈T→n.col ≠ -1→0≤n.col∧n.col<w) {i:Nat} {l:List Int} (h:zdb T x i l):zdb (T.map (zhB f κ m)) x' i l:=by
 have hle:∀a b:Rat,(f a≤f b)↔(a≤b):=fun a b=>by rw[←Rat.not_lt,←Rat.not_lt,←hlt]
 have hat:∀n:Nd,n.col ≠ -1→(zhB f κ m n).at'=f n.at':=fun n k=>if_neg k;have hget:∀{i:Nat} {n:Nd},T[i]?=some n→(T.map (zhB f κ m))[i]?=some (zhB f κ m n):=fun h=>by rw[qK,h];rfl
 induction h with
 | here h1 h2=>exact .here (hget h1) h2
 | @low i l n h1 h2 h3 _ ih =>
  refine .low (hget h1) h2 ?_ ih;rw[hat _ h2,show (zhB f κ m n).col=n.col from rfl,hx _ (hall _ (qF h1) h2)];exact(hle _ _).2 h3
 | @high i l n h1 h2 h3 _ ih =>
  refine .high (hget h1) h2 ?_ ih;rw[hat _ h2,show (zhB f κ m n).col=n.col from rfl,hx _ (hall _ (qF h1) h2)];exact fun k=>h3 ((hle _ _).1 k)
theorem ziG.simK {f:Rat→Rat} {κ m:Rat} (hlt:∀a b:Rat,a<b↔f a<f b) {T:List Nd} {x x':List Rat} {w:Int} (hx:∀c:Int,0≤c∧c<w→x'.getD c.toNat 0=f (x.getD c.toNat 0)) (hall:∀n,n∈T→n.col ≠ -1→0≤n.col∧n.col<w) {i j:Nat} (h:ziG T x i j):ziG (T.map (zhB f κ m)) x' i j:=by
 have hle:∀a b:Rat,(f a≤f b)↔(a≤b):=fun a b=>by rw[←Rat.not_lt,←Rat.not_lt,←hlt]
 have hat:∀n:Nd,n.col ≠ -1→(zhB f κ m n).at'=f n.at':=fun n k=>if_neg k;have hget:∀{i:Nat} {n:Nd},T[i]?=some n→(T.map (zhB f κ m))[i]?=some (zhB f κ m n):=fun h=>by rw[qK,h];rfl
 induction h with
 | here h1 h2=>exact .here (hget h1) h2
 | @low i j n h1 h2 h3 _ ih =>
  refine .low (hget h1) h2 ?_ ih;rw[hat _ h2,show (zhB f κ m n).col=n.col from rfl,hx _ (hall _ (qF h1) h2)];exact(hle _ _).2 h3
 | @high i j n h1 h2 h3 _ ih =>
  refine .high (hget h1) h2 ?_ ih;rw[hat _ h2,show (zhB f κ m n).col=n.col from rfl,hx _ (hall _ (qF h1) h2)];exact fun k=>h3 ((hle _ _).1 k)
end
section
theorem znN (l:List Rat) {n:Nat} (h:l.length=n):atR l (zbc n)=l:=by
 subst h;refine List.ext_getElem? fun i=>?_;unfold atR zbc;rw[List.map_map,qK];by_cases hi:i<l.length
 ·rw[List.getElem?_range hi,qA hi];show some (l.getD ((i:Int)).toNat 0)=_;rw[qU,qB,qA hi];rfl
 ·rw[qg (by rw[List.length_range];omega),qg (by omega)];rfl
end
section
theorem zmf (k c:Rat):∀l:List Rat,zaP (l.reverse.map fun q=>k*q+c)=k*zaP l.reverse+((l.length:Int):Rat)*c
 | []=>by
  rw[show ([]:List Rat).reverse.map (fun q=>k*q+c)=[] from rfl,show ([]:List Rat).reverse=[] from rfl,zcW,show ((([]:List Rat).length:Int):Rat)=0 from rfl];grind
 | q::l=>by
  have ih:=zmf k c l;have e:(((q::l).length:Int):Rat)=((l.length:Int):Rat)+1:=by rw[qR,Int.natCast_add,Rat.intCast_add];rfl
  rw[List.reverse_cons,qr,List.map_singleton,zbx,zbx,ih,e];grind
theorem zgG (k c:Rat) (l:List Rat):zaP (l.map fun q=>k*q+c)=k*zaP l+((l.length:Int):Rat)*c:=by
 have:=zmf k c l.reverse
 rwa [List.reverse_reverse,List.length_reverse]at this
theorem zjj {k c:Rat} {l:List Rat} (h:1≤l.length):zaX (l.map fun q=>k*q+c)=k*zaX l+c:=by
 unfold zaX;rw[zgG,qV];have:=zcS (n:=l.length) oM;grind
theorem zjl {k:Rat} {l:List Rat}:zaX (l.map fun q=>k*q)=k*zaX l:=by
 by_cases h:l.length=0
 ·obtain rfl:=pK.1 h;rw[show zaX ([].map fun q=>k*q)=0 from zaH _,show zaX []=0 from zaH _,Rat.mul_zero]
 ·have:=zjj (k:=k) (c:=0) (l:=l) oM;simpa only[Rat.add_zero] using this
theorem zpi {k c:Rat} (hk:0<k) (l:List Rat):zcV (l.map fun q=>k*q+c)=(zcV l).map fun q=>k*q+c:=by
 refine(zcE ((zbo l).map _) (List.pairwise_map.2 ((zcr l).imp fun {a b} h=>?_))).symm;have:=Rat.mul_le_mul_of_nonneg_left h (Rat.le_of_lt hk);grind
theorem zlF {loss:Int} {a k c:Rat} (hk:0<k) (ha:loss≠1→a<1) {P Q:List Rat} (hp:Q.Perm (P.map fun q=>k*q+c)) (h:1≤P.length):zou loss a Q=k*zou loss a P+c:=by
 unfold zou;by_cases e:loss=1
 ·rw[if_pos e,if_pos e,←zjj h];unfold zaX;rw[zdr hp,hp.length_eq]
 ·rw[if_neg e,if_neg e]
  have hs:zcV Q=(zcV P).map fun q=>k*q+c:=by
   rw[←zpi hk];exact(zcE ((zbo Q).trans hp) (zcr Q))
  have hl:Q.length=P.length:=by rw[hp.length_eq,qV]
  have hK:=zfG (ha e) h;unfold zj8;rw[hs,hl,qB,qB,qK,qA (by rw[(zbo P).length_eq];exact hK)];rfl
theorem zqi {a k c:Rat} (hk:0<k) (ha:a<1) {P Q:List Rat} (hp:Q.Perm (P.map fun q=>k*q+c)) (h:1≤P.length):zj8 a Q=k*zj8 a P+c:=zlF (loss:=2) hk (fun _=>ha) hp h
structure zg2 (σ:Int→Int) (n:Nat) (k c:Rat) (L L':List Rat):Prop where
 len:L.length=n
 len':L'.length=n
 at':∀r:Int,0≤r∧r<(n:Int)→L'.getD r.toNat 0=k*L.getD (σ r).toNat 0+c
theorem zg2.atR {σ:Int→Int} {n:Nat} {k c:Rat} {L L':List Rat} (h:zg2 σ n k c L L') {l:List Int} (hl:∀r,r∈l→0≤r∧r<(n:Int)):Go.Proofs.YteoollbcdpfkpaaGreatDoor.atR L' l=(Go.Proofs.YteoollbcdpfkpaaGreatDoor.atR L (l.map σ)).map fun q=>k*q+c:=by
 unfold Go.Proofs.YteoollbcdpfkpaaGreatDoor.atR;rw[List.map_map,List.map_map];exact List.map_congr_left fun r hr=>h.at' r (hl r hr)
theorem zg2.perm {σ:Int→Int} {n:Nat} {k c:Rat} {L L':List Rat} (h:zg2 σ n k c L L') (hp:((zbc n).map σ).Perm (zbc n)):L'.Perm (L.map fun q=>k*q+c):=by
 have h1:=h.atR (l:=zbc n) zbe;rw[znN L' h.len']at h1;rw[h1];have h2:(Go.Proofs.YteoollbcdpfkpaaGreatDoor.atR L ((zbc n).map σ)).Perm (Go.Proofs.YteoollbcdpfkpaaGreatDoor.atR L (zbc n)):=hp.map _;rw[znN L h.len]at h2;exact h2.map _
theorem zr0 (k:Rat) (l:List Rat):(l.map fun q=>k*q+0)=l.map fun q=>k*q:=List.map_congr_left fun q _=>Rat.add_zero _
theorem zmD {vals vals':List Rat} {l l':List Int} {k:Rat} (h:atR vals' l'=(atR vals l).map fun q=>k*q):zfc vals' l'=k*k*zfc vals l:=by
 unfold zfc;rw[h,zjl];generalize atR vals l=P;generalize zaX P=m
 have e:zc9 (k*m) (P.map fun q=>k*q)=(zc9 m P).map fun q=>(k*k)*q+0:=by
  unfold zc9;rw[List.map_map,List.map_map];exact List.map_congr_left fun q _=>by show (k*q-k*m)*(k*q-k*m)=(k*k)*((q-m)*(q-m))+0;grind
 rw[e,zgG,Rat.mul_zero,Rat.add_zero]
structure ziK (σ:Int→Int) (f:Rat→Rat) (k:Rat) (b b':BG):Prop where
 lt:∀a b:Rat,a<b↔f a<f b
 mid:∀a b:Rat,(f a+f b) / 2=f ((a+b) / 2)
 k:0<k
 loss:b'.loss=b.loss
 rate:b'.rate=b.rate
 tilt:b'.tilt=b.tilt
 D:b'.D=b.D
 least:b'.least=b.least
 W:b'.W=b.W
 g:b.gain=0
 g':b'.gain=0
 len:b'.X.length=b.X.length
 perm:((zbc b.X.length).map σ).Perm (zbc b.X.length)
 key:∀c r:Int,0≤c∧c<(b.W:Int)→0≤r∧r<(b.X.length:Int)→zb6 b'.X c r=zb6 b.X c (σ r)∧zbm b'.X c r=f (zbm b.X c (σ r))
def zqQ (f:Rat→Rat) (κ m:Rat) (t:Tr):Tr:=⟨t.kd,t.cl,t.w,t.ns.map (zhB f κ m)⟩
theorem zgK {t:Tr} (h:zc5 t):∀n,n∈t.ns→n.col ≠ -1→0≤n.col∧n.col<t.w:=fun n hn hc=>by
 obtain⟨i,hi⟩:=List.mem_iff_getElem?.1 hn;obtain⟨_,_,_,⟨hh,_,hsub⟩,_⟩:=h;obtain⟨h',e',hs⟩:=hsub.at i (qQ _) (qE.1 hi).1
 cases hs with
 | leaf q1 q2 _ _ _=>rw[hi]at q1;cases q1;exact absurd q2 hc
 | node q1 q2 q3 _ _ _ _=>rw[hi]at q1;cases q1;exact⟨q2,q3⟩
theorem zje {f:Rat→Rat} {κ m:Rat} {w:Nat} {t:Tr} (hlt:∀a b:Rat,a<b↔f a<f b) (hT:zei w t) {x x':List Rat} (hx:∀c:Int,0≤c∧c<(w:Int)→x'.getD c.toNat 0=f (x.getD c.toNat 0)):(zbY x' (zqQ f κ m t)).value=m*(zbY x t).value:=by
 obtain⟨i,h1,h2,h3,_⟩:=zh6 hT.ok x;have hcols:=zgK hT.ok;rw[hT.wide]at hcols;have h4:ziG (zqQ f κ m t).ns x' 0 i:=h1.simK hlt hx hcols;have h6:(zqQ f κ m t).ns[i]?=some (zhB f κ m (zbY x t)):=by unfold zqQ;rw[qK,h3];rfl
 rw[zlD h4 h6];rfl
def kgB (loss:Int) (k:Rat):Rat:=if loss=1 then k else 1
section
variable {σ:Int→Int} {f:Rat→Rat} {k:Rat} {b b':BG} (h:ziK σ f k b b')
include h
theorem ziK.rng (r:Int) (hr:0≤r∧r<(b.X.length:Int)):0≤σ r∧σ r<(b.X.length:Int):=by
 refine zbe _ (h.perm.mem_iff.1 (List.mem_map.2 ⟨r,?_,rfl⟩));unfold zbc;exact List.mem_map.2 ⟨r.toNat,List.mem_range.2 oM,by omega⟩
theorem ziK.kg:0<kgB b.loss k:=by
 unfold kgB;split
 ·exact h.k
 ·decide
theorem ziK.goal {L L':List Rat} (hL:zg2 σ b.X.length k 0 L L'):zg2 σ b.X.length (kgB b.loss k) 0 (b.goal L) (b'.goal L'):=by
 refine⟨by rw[BG.goal_len];exact hL.len,by rw[BG.goal_len];exact hL.len',fun r hr=>?_⟩;have h0:=hL.at' r hr;have hσ:=h.rng r hr;unfold BG.goal kgB;rw[h.loss,h.tilt];by_cases e:b.loss=1
 ·rw[if_pos e,if_pos e,if_pos e];exact h0
 ·rw[if_neg e,if_neg e,if_neg e];have hl1:=hL.len;have hl2:=hL.len';rw[qB,qA (show r.toNat<L'.length by omega),qB,qA (show (σ r).toNat<L.length by omega),Option.getD_some,Option.getD_some]at h0;rw[qB,qK,qA (show r.toNat<L'.length by omega),qB,qK,qA (show (σ r).toNat<L.length by omega),Option.map_some,Option.map_some,Option.getD_some,Option.getD_some,h0,Rat.one_mul,Rat.add_zero,Rat.add_zero];generalize L[(σ r).toNat]=t
  have e1:0<k*t↔0<t:=by
   have:=zb7 (a:=0) (b:=t) h.k
   rwa [Rat.mul_zero]at this
  have e2:k*t=0↔t=0:=by
   have:=zhm (a:=t) (b:=0) h.k
   rwa [Rat.mul_zero]at this
  simp only[e1,e2]
theorem ziK.gs {L L':List Rat} (hL:zg2 σ b.X.length k 0 L L'):GS σ f (kgB b.loss k*kgB b.loss k) (kgB b.loss k) b.W (b.gp L) (b'.gp L'):=by
 have hg:=h.goal hL;have hk:=h.kg
 have hat:∀l:List Int,(∀r,r∈l→0≤r∧r<(b'.X.length:Int))→atR (b'.goal L') l=(atR (b.goal L) (l.map σ)).map fun q=>kgB b.loss k*q:=fun l hl=>by
  rw[hg.atR fun r hr=>(by have:=hl r hr;rw[h.len]at this;exact this),zr0]
 have hpm:∀l m:List Int,l.Perm m→(atR (b.goal L) l).Perm (atR (b.goal L) m):=fun l m e=>e.map _
 have hme:∀l m:List Int,l.Perm m→zaX (atR (b.goal L) l)=zaX (atR (b.goal L) m):=fun l m e=>by
  unfold zaX;rw[zdr (hpm l m e),(hpm l m e).length_eq]
 exact {
  lt:=h.lt
  mid:=h.mid
  pos:=by have:=Rat.mul_lt_mul_of_pos_right hk hk;rwa [Rat.zero_mul]at this
  rng:=fun r hr=>h.rng r (by have e:=h.len;have e2:((b'.gp L').X.length:Int)=(b'.X.length:Int):=rfl;rw[e2,e]at hr;exact hr)
  key:=fun c r hc hr=>h.key c r hc (by have e:=h.len;have e2:((b'.gp L').X.length:Int)=(b'.X.length:Int):=rfl;rw[e2,e]at hr;exact hr)
  cost:=fun l hl=>zmD (hat l hl)
  mean:=fun l hl=>by show zaX (atR (b'.goal L') l)=_;rw[hat l hl,zjl];rfl
  cnt:=fun _ _=>rfl
  least:=h.least
  gain:=by show b'.gain=_*b.gain;rw[h.g,h.g',Rat.mul_zero]
  cols:=fun s s' c=>by show c∈zbc b'.W↔c∈zbc b.W;rw[h.W]
  range:=fun s c hc=>zbe c hc
  pcost:=fun l m e=>by
   show zaP (zc9 (zaX (atR (b.goal L) l)) (atR (b.goal L) l))=zaP (zc9 (zaX (atR (b.goal L) m)) (atR (b.goal L) m));rw[hme l m e];exact zdr ((hpm l m e).map _)
  pmean:=hme
  pcnt:=fun _ _ _=>rfl }
theorem ziK.raw (hb:b.Ok) {L L':List Rat} (hL:zg2 σ b.X.length k 0 L L') (hg:zgW L):b'.raw L'=(b.raw L).map (zhB f (kgB b.loss k*kgB b.loss k) (kgB b.loss k)):=by
 have:=(h.gs hL).grow (hb.gp hg hL.len) b.D 0 (zbc b.X.length) (zbc b'.X.length) 0 0 (by rw[h.len];exact h.perm) zbe;unfold BG.raw;rw[h.D];exact this
theorem ziK.row {r:Int} (hr:0≤r∧r<(b.X.length:Int)):∀c:Int,0≤c∧c<(b.W:Int)→(b'.X.getD r.toNat []).getD c.toNat 0=f ((b.X.getD (σ r).toNat []).getD c.toNat 0):=fun c hc=>(h.key c r hc hr).2
theorem ziK.part (hb:b.Ok) {L L':List Rat} (hL:zg2 σ b.X.length k 0 L L') (hg:zgW L) (j:Nat):(b'.part L' (b'.raw L') j).Perm ((b.part L (b.raw L) j).map fun q=>k*q+0):=by
 obtain⟨hraw,_,_⟩:=hb.raw hg hL.len;have hcols:=zgK hraw;obtain⟨hh,_,hsub⟩:=hraw.sub;dsimp only at hsub hcols
 have hw:∀r,r∈zbc b.X.length→decide ((j:Int)∈zqS (b'.raw L') (b'.X.getD r.toNat []))=decide ((j:Int)∈zqS (b.raw L) (b.X.getD (σ r).toNat [])):=fun r hr=>by
  obtain⟨l,hl⟩:=hsub.path (b.X.getD (σ r).toNat []);have h2:=hl.simK (κ:=kgB b.loss k*kgB b.loss k) (m:=kgB b.loss k) h.lt (x':=b'.X.getD r.toNat []) (h.row (zbe r hr)) hcols;rw[←h.raw hb hL hg]at h2;rw[ziA hl,ziA h2]
 unfold BG.part;rw[h.len,hL.atR fun r hr=>zbe r (List.mem_filter.1 hr).1,zdS (q:=fun r=>decide ((j:Int)∈zqS (b.raw L) (b.X.getD r.toNat []))) hw];exact((h.perm.filter _).map _).map _
theorem ziK.nodes (hb:b.Ok) {L L':List Rat} (hL:zg2 σ b.X.length k 0 L L') (hg:zgW L):b'.nodes L'=(b.nodes L).map (zhB f (kgB b.loss k*kgB b.loss k) k):=by
 have hraw:=h.raw hb hL hg;have hpart:=h.part hb hL hg;unfold BG.nodes;rw[h.loss];by_cases e:b.loss=1
 ·rw[if_pos e,if_pos e,hraw,show kgB b.loss k=k from if_pos e]
 ·rw[if_neg e,if_neg e];have k1:kgB b.loss k=1:=if_neg e;refine List.ext_getElem? fun j=>?_;unfold BG.mids;rw[zbn,qK,zbn,hraw,qV,qK]
  cases hj:(b.raw L)[j]? with
  | none=>rfl
  | some n =>
   have hjl:=(qE.1 hj).1;obtain⟨_,p2,_,_⟩:=hb.part hg hL.len hj;have hm:=zqi h.k (hb.two (hb.loss.resolve_left e)).2 (hpart j) p2;rw[Rat.add_zero]at hm;rw[←hraw];simp only[Option.map_some,if_pos hjl,h.tilt,hm,k1];rfl
theorem ziK.tree (hb:b.Ok) {L L':List Rat} (hL:zg2 σ b.X.length k 0 L L') (hg:zgW L):b'.tree L'=zqQ f (kgB b.loss k*kgB b.loss k) k (b.tree L):=by
 unfold BG.tree zqQ;rw[h.nodes hb hL hg,h.W]
theorem ziK.mids {y y':List Rat} {c:Rat} (hb:b.Ok) (hy:zg2 σ b.X.length k c y y'):b'.mid y'=k*b.mid y+c:=by
 have h8:=hb.rows;have hl:=hy.len;unfold BG.mid;rw[h.loss,h.tilt];exact zlF h.k (fun e=>(hb.two (hb.loss.resolve_left e)).2) (hy.perm h.perm) oM
theorem ziK.next (hb:b.Ok) {L L':List Rat} (hL:zg2 σ b.X.length k 0 L L') (hg:zgW L) (hT:zei b.W (b.tree L)):zg2 σ b.X.length k 0 (b.next L) (b'.next L'):=by
 have hl:=hL.len;have hl':=hL.len';have hX:=h.len
 have g1:∀(b:BG) (L:List Rat) (r:Int),L.length=b.X.length→0≤r∧r<(b.X.length:Int)→(b.next L).getD r.toNat 0=L.getD r.toNat 0-b.rate*(zbY (b.X.getD r.toNat []) (b.tree L)).value:=fun b L r hl hr=>by
  have e1:=qA (l:=b.X) (i:=r.toNat) oM;have e2:=qA (l:=L) (i:=r.toNat) oM;unfold BG.next;rw[qB,zgV e1 e2,qB,e2,qB,e1];rfl
 refine⟨by unfold BG.next;rw[List.length_zipWith];omega,by unfold BG.next;rw[List.length_zipWith];omega,fun r hr=>?_⟩;have hσ:=h.rng r hr;rw[g1 b' L' r oM oM,g1 b L (σ r) oM hσ,hL.at' r hr,h.rate,h.tree hb hL hg,zje h.lt hT (h.row hr)];grind
theorem ziK.fit (hb:b.Ok) {y y':List Rat} {c:Rat} (hy:zg2 σ b.X.length k c y y') {D A:Nat} (hD:1≤D) (hA:1≤A) (hq:∀q,q∈y→Gr D A q) {K:Nat} (hbl:bl ((2*A*2 ^ K)*(D*840*(840*b.rate.den) ^ K))≤95):∀j,j≤K→zg2 σ b.X.length k 0 (b.fit y j).2 (b'.fit y' j).2∧(b'.fit y' j).1=(b.fit y j).1.map (zqQ f (kgB b.loss k*kgB b.loss k) k):=by
 have hrd:=b.rate.den_nz;intro j
 induction j with
 | zero =>
  refine fun _=>⟨⟨?_,?_,fun r hr=>?_⟩,rfl⟩
  ·show (y.map _).length=_;rw[qV];exact hy.len
  ·show (y'.map _).length=_;rw[qV];exact hy.len'
  ·have hσ:=h.rng r hr;have hl:=hy.len;have hl':=hy.len';have h0:=hy.at' r hr;show (y'.map fun q=>q-b'.mid y').getD r.toNat 0=k*(y.map fun q=>q-b.mid y).getD (σ r).toNat 0+0;rw[qB,qA (show r.toNat<y'.length by omega),qB,qA (show (σ r).toNat<y.length by omega),Option.getD_some,Option.getD_some]at h0;rw[qB,qK,qA (show r.toNat<y'.length by omega),qB,qK,qA (show (σ r).toNat<y.length by omega),Option.map_some,Option.map_some,Option.getD_some,Option.getD_some,h0,h.mids hb hy];grind
 | succ j ih =>
  intro hj;obtain⟨i1,i2⟩:=ih oM;obtain⟨h1,_⟩:=hb.fit hD hA hq hy.len hbl j oM;have hl:=(b.fit_len y hy.len j).1;have hd1:1≤D*840*(840*b.rate.den) ^ j:=Nat.mul_pos oM (Nat.pow_pos oM);have ha1:1≤2*A*2 ^ j:=Nat.mul_pos oM (Nat.pow_pos oM);have hb1:=znT (k:=j) hrd hbl oM;have hT:=hb.tree hd1 ha1 hb1 h1 hl;have hg:zgW (b.fit y j).2:=⟨_,_,hd1,ha1,hb1,h1⟩;refine⟨h.next hb i1 hg hT,?_⟩;show (b'.fit y' j).1++[b'.tree (b'.fit y' j).2]=((b.fit y j).1++[b.tree (b.fit y j).2]).map _;rw[i2,h.tree hb i1 hg,qr,List.map_singleton]
theorem ziK.ans (hb:b.Ok) {y y':List Rat} {c:Rat} (hy:zg2 σ b.X.length k c y y') {D A:Nat} (hD:1≤D) (hA:1≤A) (hq:∀q,q∈y→Gr D A q) {K:Nat} (hbl:bl ((2*A*2 ^ K)*(D*840*(840*b.rate.den) ^ K))≤95) {x x':List Rat} (hx:∀c:Int,0≤c∧c<(b.W:Int)→x'.getD c.toNat 0=f (x.getD c.toNat 0)):znL (b'.mid y') b'.rate (b'.fit y' K).1 x'=k*znL (b.mid y) b.rate (b.fit y K).1 x+c:=by
 obtain⟨_,h2⟩:=h.fit hb hy hD hA hq hbl K (qH _);obtain⟨_,hT⟩:=hb.fit hD hA hq hy.len hbl K (qH _);rw[h2,h.mids hb hy,h.rate];generalize (b.fit y K).1=ts at *
 have e:vL x' (ts.map (zqQ f (kgB b.loss k*kgB b.loss k) k))=(vL x ts).map fun q=>k*q+0:=by
  unfold vL;rw[List.map_map,List.map_map]
  exact List.map_congr_left fun t ht=>by
   show (zbY x' (zqQ f _ k t)).value=k*(zbY x t).value+0;rw[zje h.lt (hT t ht) hx,Rat.add_zero]
 unfold znL;rw[e,zgG,Rat.mul_zero];grind
end
end
section
end
section
open Go.RowKit _root_.Go.Proofs.Tryz
theorem Gr.abs {D A:Nat} {q:Rat} (h:Gr D A q):Gr D A (zms q):=by
 unfold zms;split
 ·exact h.neg
 ·exact h
theorem Gr.one {D:Nat}:Gr D 1 1:=by
 refine⟨(D:Int),Rat.one_mul _,by omega⟩
theorem zg2.aff {n:Nat} {K M:Rat} {y:List Rat} (h:y.length=n):zg2 (fun r=>r) n K M y (y.map fun z=>z*K+M):=by
 refine⟨h,by rw[qV];exact h,fun r hr=>?_⟩;have e:=qA (l:=y) (i:=r.toNat) oM;rw[qB,qK,e,qB,e];show _*K+M=K*_+M;rw[Rat.mul_comm];rfl
theorem ziK.self {b:BG} {k:Rat} (hk:0<k) (hg:b.gain=0):ziK (fun r=>r) (fun q=>q) k b b:=⟨fun _ _=>Iff.rfl,fun _ _=>rfl,hk,rfl,rfl,rfl,rfl,rfl,rfl,hg,hg,rfl,by rw[List.map_id'],fun _ _ _ _=>⟨rfl,rfl⟩⟩
set_option maxRecDepth 100000 in
theorem boostMoves_pc {H:Hp} {vx vr:Value} {row:List Int} (by' more:Int) (hx:zrq H vx) (hby:zfq by') (hmo:zfq more) (hrw:IL H vr row) (hrwb:∀z,z∈row → -9223372036854775808≤z∧z<9223372036854775808):PC prog 4 #[vx,.int .i64 by',.int .i64 more,vr] H fun r _=>r=.bool true:=by
 have ho1:=zoH hx;obtain⟨_,_,_,_,_,_,_,_,_,_,_,_,rfl,_⟩:=hx;obtain⟨wa,wc,rfl⟩:=SlC.val hrw;refine BD func4 ntmps4 ?_;refine uR ?_;refine vA (ho1) ?_;rintro r1 G1 ⟨b,y,K,vX,vY,vS,rfl,hb,hX,hY,hst,hyl,hg,hK,hg0,hW,hX5⟩ hG1;have h8:=hb.rows;have hwd:=hb.wide;have hyb:=zh3 by'
 have hmb:=zh3 more;have hQ1:=zlB by' hby
 have hQ2:=zlB more hmo;have hab:=zrs (zfr by') (zaj hyb oM);have hof1:=zdX 1 oM oM
 have h1h:ht ((1:Int):Rat)≤10:=by
  have:=zbC 1;have h2:bl (1:Int).natAbs≤5:=zaS (by decide);omega
 have hah:=zrM (zfr by');have hKa:=zcy (zms (zfr by')) ((1:Int):Rat) (by unfold sm;omega) (by unfold sm;omega);have hKh:=zdj (zms (zfr by')) ((1:Int):Rat)
 have hKp:0<zms (zfr by')+((1:Int):Rat):=by
  have:=zpN (zfr by');rw[show ((1:Int):Rat)=1 from rfl];generalize zms (zfr by')=x at *
  grind
 have hKb:ht (zms (zfr by')+((1:Int):Rat))≤30:=oM;have hKg:Gr 12 21 (zms (zfr by')+((1:Int):Rat)):=(zkU by').abs.add Gr.one;have hMg:Gr 12 20 (zfr more):=zkU more;generalize zms (zfr by')+((1:Int):Rat)=Kq at *
 generalize zfr more=M at *
 clear hah hKh
 have hg2:∀q,q∈y.map (fun z=>z*Kq+M)→Gr 144 440 q:=fun q hq=>by
  obtain⟨z,hz,rfl⟩:=List.mem_map.1 hq;exact((hg z hz).mul hKg).add (hMg.up 12)
 have hl2:(y.map fun z=>z*Kq+M).length=b.X.length:=by rw[qV];exact hyl
 have hbl:=zsU hb.den.1 (show K≤6 by omega)
 have hbl2:bl ((2*440*2 ^ K)*(144*840*(840*b.rate.den) ^ K))≤95:=by
  refine qI (zaT (Nat.mul_le_mul (qe _ (qf oM hK)) (qe _ (qI (qf (by have:=b.rate.den_nz;omega) hK) (Nat.pow_le_pow_left (qe 840 hb.den.1) 3))))) (zaS (by decide))
 have f1:=zs0 hb hyl oM oM hg oM hbl;have f2:=zs0 hb hl2 oM oM hg2 oM hbl2;have hans:=fun x=>(ziK.self (b:=b) hKp hg0).ans hb (zg2.aff (K:=Kq) (M:=M) hyl) oM oM hg hbl (x:=x) (x':=x) (fun _ _=>rfl);have q1:rq b.rate:=zcU f1.rate oM;have q2:rq b.tilt:=zcU hb.den.2 oM;have q3:rq b.gain:=zcU hb.gain.2 oM;have hy95:=f1.y95;have cRu:=fun (G:Hp) (hG:G1.Le G)=>znm (hst.mono hG) q1 q2 q3;obtain⟨vs0,hvs0,hvx0⟩:=id hX;obtain⟨xa,xc,rfl⟩:=hX.val;obtain⟨ya,yc,rfl⟩:=hY.val;obtain⟨x0,hxx0⟩:∃x,b.X[0]?=some x:=⟨_,qA h8.1⟩;obtain⟨u0,e0,hu0,_⟩:=hvs0.at hxx0;rw[(hX5 x0 (qF hxx0)).1]at hu0;obtain⟨_,_,_,_,_,_,_,_,_,_,_,_,_,_,_,_,_,_,_,_,_,rfl,_⟩:=id hst;refine uR ?_;refine EVL.call rfl rfl rfl rfl rfl (zjb hX oM (fun x h=>⟨by rw[(hX5 x h).1];omega,fun q k=>zcU ((hX5 x h).2 q k) oM⟩)) ?_;rintro v12 G2 hX12 hG2;obtain⟨pa,pc,rfl⟩:=hX12.val;refine uR ?_;refine EVL.call rfl rfl rfl rfl rfl (zfy (hY.mono hG2) oM (fun q k=>zcU (hy95 q k) oM)) ?_;rintro v13 G3 hY13 hG3;obtain⟨qa,qc,rfl⟩:=SlC.val hY13
 repeat (first|refine RUN ?_|refine CV (hQ1) ?_|refine CV (hab) ?_|refine CV (hof1) ?_|refine CV (hKa) ?_|refine CV (hQ2) ?_|refine CE (hQ1) ?_|refine CE (hab) ?_|refine CE (hof1) ?_|refine CE (hKa) ?_|refine CE (hQ2) ?_)
 refine vA (cRu _ (hG2.trans hG3)) ?_;rintro _ G4 rfl hG4;refine uR ?_;refine EVL.call rfl rfl rfl rfl rfl (zlV hb (hX12.mono (hG3.trans hG4)) (SlC.mono hY13 hG4) hyl oM oM hg oM hbl) ?_;rintro _ G5 ⟨ta,tc,rfl,hP⟩ hG5;have hK15:=hG2.trans (hG3.trans (hG4.trans hG5));have hK35:=hG4.trans hG5;have cUn:=fun (G:Hp) (hG:G5.Le G)=>znu (K:=Kq) (M:=M) (SlC.mono hY13 (hK35.trans hG)) oM (fun q k=>qI (hy95 q k) oM) oM oM;have cFit:=fun (G:Hp) (v:Value) (hG:G5.Le G) (hv:QL G v (y.map fun z=>z*Kq+M))=>zlV hb (hX12.mono (hG3.trans (hK35.trans hG))) hv hl2 oM oM hg2 oM hbl2;refine uR ?_;apply EV.drawn 13 kR kR;intro xv yw;(repeat refine' DD ?_);refine' vB (cO func26) (fun G hG hd=>cUn G hG) (fun _ _ _ h k=>SlC.mono h k) ?_;rotate_left;(repeat refine' DD ?_);refine' vC (cO func16) (fun G hG hd=>cRu G (hK15.trans hG)) ?_;rotate_left;refine' vB (cO func13) (fun G hG hd=>cFit G _ hG (hd.head kR)) (fun _ _ _ h k=>(by obtain⟨ta,tc,e,hp⟩:=h;exact⟨ta,tc,e,hp.mono k⟩)) ?_;rotate_left;refine' DJ.copy (7) (by first|exact .inl rfl|exact .inr rfl) rfl rfl rfl id rfl kR ?_;rotate_left;refine' DJ.extract (7) rfl rfl rfl rfl rfl kR (fun G hd=>(by obtain⟨ta,tc,e,_⟩:=hd.head kR;exact⟨_,e,Nat.zero_lt_succ _⟩)) ?_;rotate_left;refine' DJ.extract (7) rfl rfl rfl rfl rfl kR (fun G hd=>(by obtain⟨ta,tc,e,_⟩:=hd.head kR;exact⟨_,e,Nat.lt_succ_self _⟩)) ?_;rotate_left;(repeat refine' DD ?_);refine' DJ.storeD tO rfl rfl rfl rfl (7) (zgN 0) rfl rfl (11) rfl rfl kR kR rfl (fun G hd=>(by obtain⟨ta,tc,e,_⟩:=hd.head kR;rw[e];exact⟨rfl,rfl⟩)) ?_;rotate_left;(refine DJ.nil (fun G6 hG6 hF6=>?_);(case hS|hS2=>rfl));obtain⟨⟨tb,td,e6,hP2⟩,_⟩:=hF6;rw[e6];rw[show zgN 1 (Value.tuple #[.agg (zcA b.loss (b.W:Int) (b.mid (y.map fun z=>z*Kq+M)) b.rate b.tilt (.slice tb K td)).toArray,.int .i64 0])=.int .i64 0 from rfl,show zaf (zgN 0 (Value.tuple #[.agg (zcA b.loss (b.W:Int) (b.mid (y.map fun z=>z*Kq+M)) b.rate b.tilt (.slice tb K td)).toArray,.int .i64 0]))=zcA b.loss (b.W:Int) (b.mid (y.map fun z=>z*Kq+M)) b.rate b.tilt (.slice tb K td) from rfl];have hK16:=hK15.trans hG6;have hzl:=zeF row b.W;have hz5:=zo6 (l:=row) b.W;have hrow:=zo9 (hrw.mono (hG1.trans hK16)) hrwb b.W oM;generalize zjG row b.W=z at *
 refine uR ?_;refine vI ((hvx0.mono hK16)) (0) (rfl) (h8.1) (hu0) ?_;refine uR ?_;refine vA (hrow) ?_;rintro v66 G7 hz hG7;obtain⟨za,zc,rfl⟩:=hz.val;refine uR ?_;refine EVL.call rfl rfl rfl rfl rfl (zfy hz oM (fun q hq=>zcU (hz5 q hq) oM)) ?_;rintro v20 G8 hz8 hG8;obtain⟨z8a,z8c,rfl⟩:=SlC.val hz8;have hz100:∀q,q∈z→ht q≤100:=fun q k=>qI (hz5 q k) oM;refine uR ?_;refine EVL.call rfl rfl rfl rfl rfl (zlT f1 hb oM (hP.mono (hG6.trans (hG7.trans hG8))) hz8 hz100 hzl) ?_;rintro _ G9 rfl hG9;refine uR ?_;refine EVL.call rfl rfl rfl rfl rfl (zlT f2 hb oM (hP2.mono (hG7.trans (hG8.trans hG9))) (SlC.mono hz8 hG9) hz100 hzl) ?_;rintro _ G10 rfl hG10;have hz1:=hans z;have a1:=znM f1 oM z;have a2:=znM f2 oM z;generalize znL (b.mid y) b.rate (b.fit y K).1 z=A1 at *
 generalize znL (b.mid (y.map fun z=>z*Kq+M)) b.rate (b.fit (y.map fun z=>z*Kq+M) K).1 z=A2 at *
 have a3:=zdk A1 Kq;have hmul:=zfh A1 Kq (zaj a1 oM) (zaj hKb oM);have hadd:=zcy (A1*Kq) M (zaj (n:=1000000) oM oM) (zaj hmb oM);have a4:=zdj (A1*Kq) M;have hcm:=zsW A2 (A1*Kq+M) (zaj a2 oM) (zaj (n:=2000000) oM oM) (by rw[hz1,Rat.mul_comm]);refine uR ?_;apply EV.drawn 26 kR kR;intro xv yw;refine' vC (cO func12) (fun G hG hd=>zmV) ?_;rotate_left;(repeat (first|refine' DD ?_|(refine' DC (hmul) (h:=?_);rotate_left)|(refine' DC (hadd) (h:=?_);rotate_left)|(refine' DC (hcm) (h:=?_);rotate_left)));(refine DJ.nil (fun G1 hG1 hF1=>?_);(case hS|hS2=>rfl));refine uR ?_;rfl
end
section
open Go Go.RowKit
theorem zhi {P:Program} {W:World} {n:String} {d:DataW Unit}:∀{l:List (String × DataW Unit)} {ps:List MemPlace},DataW.LaidVars P W l ps→(n,d)∈l →
  ∃p,DataW.LaidVars P W [(n,d)] p
 | [],_,_,h=>by cases h
 | (m,x)::r,ps,h,hm=>by
  obtain⟨g,t,cs,fuel,p,q,h1,h2,h3,h4,h5,h6⟩:=h;rcases List.mem_cons.1 hm with hm | hm
  ·cases hm;exact⟨_,g,t,cs,fuel,p,[],h1,h2,h3,h4,rfl,rfl⟩
  ·exact zhi h5 hm
theorem zrT {P:Program} {l:List (String × DataW Unit)} {W:World} {α:Type} (f:α→Int) (h:laidMet P l W) {n:String} {zs:List α} {kd:IntKind} {g:Nat} {T e:TypeId} (hmem:(n,.agg (zs.map fun z=>.lit (.int kd (f z))))∈l) (hg:P.globalNamed n=some g) (ht:(P.globals[g]?).map (·.type)=some T)
  (hT:P.underlying T=some (.array zs.length e)) (he:P.underlying e=some (.int kd)) (hc:P.cellsOf e=1) (hcT:P.cellsOf T=zs.length) :
  ∃U fz,W.heap[g]?=some (.cells (zs.map fun z=>Value.int kd (f z)).toArray U fz):=by
 obtain⟨ps,hl,_⟩:=h;obtain⟨p0,g',t,cs,fuel,p,q,hg',ht',hv,hd,_,_⟩:=zhi hl hmem;obtain rfl:=Option.some.inj (hg.symm.trans hg');obtain rfl:=Option.some.inj (ht.symm.trans ht');obtain⟨xs,m,_,ex,hcl,hlen,hel⟩:=DataW.trod_array hT hd
 have hb:∃U fz,W.heap[g]?=some (.cells cs U fz):=by
  simp only[World.var?,hg,Option.bind_some]at hv;split at hv
  ·rename_i c U fz hc';cases hv;exact⟨U,fz,hc'⟩
  ·cases hv
 obtain⟨U,fz,hb⟩:=hb;refine⟨U,fz,?_⟩;rw[hb];congr 2;apply Array.ext';rw[hcT]at hcl;have e3:(xs.map (·.1))=zs.map fun n=>.lit (.int kd (f n)):=(DataW.agg.inj (Prod.mk.inj ex).1).symm;apply List.ext_getElem?;intro r;rcases Nat.lt_or_ge r zs.length with hr | hr
 ·have hE:=hel r hr;rw[hc,Nat.mul_one,qA (by omega)]at hE;obtain⟨z,e1,e2,_⟩:=DataW.trod_int he hE;have e4:(xs.map (·.1))[r]?=(zs.map fun n=>(DataW.lit (.int kd (f n)):DataW Unit))[r]?:=by rw[e3]
  rw[qK,qK,qA (by omega:r<xs.length),qA hr,e2]at e4;simp only[Option.map_some,Option.some.injEq,DataW.lit.injEq,Lit.int.injEq,true_and]at e4;have h0:((cs.toList.drop r).take 1)[0]?=some (.int kd z):=by rw[e1];rfl
  simp only[pP,List.getElem?_drop,qY]at h0;rw[if_pos (by omega)]at h0;rw[h0,e4];simp[hr]
 ·rw[qg oM,qg (by simpa using hr)]
theorem fits_gH {l:List (String × DataW Unit)} {W:World} (h:laidMet Tryz.prog l W) (hmem:("math/bits.deBruijn64tab", .agg (Lib.deBruijn64tab.map fun (z:Nat)=>.lit (.int .u8 z)))∈l):Fits gH W:=fun b c hb=>by
 unfold gH at hb;split at hb
 ·rename_i hbb;cases hb;obtain rfl:=qz hbb;exact zrT (fun z:Nat=>(z:Int)) h hmem kR kR Tryz.underlying319 Tryz.underlying5 kR kR
 ·cases hb
end
end Go.Proofs.YteoollbcdpfkpaaGreatDoor
