/- Texts of ours in one: GnX, Tr1, Ev25, Wd6, Tr2, Dice, Draw, RefDice, Dg1, Wd7, Ev26, Tr3, Ev27, Stable, Swaps, RestPlain, Rest, Same, Rising, Tr4, Tr5, TrT, Tr6, Tr7, Tr8, Tr9, Tr10, Tr11, Tr12, Tr13, Tr14, Tr15. -/
import Derived.Test.YtgjepkeeeemppaaGreatDoorT0
import Derived.Test.YtgjepkeeeemppaaGreatDoorT1
import Derived.Test.YtgjepkeeeemppaaGreatDoorT2
import Derived.Test.YtgjepkeeeemppaaGreatDoorT3
import Derived.Test.YtgjepkeeeemppaaGreatDoorRows
import Derived.WalkLawsBesides
import Derived.Deep.LoopGhost
import Derived.Lib.ConvBytes
import Derived.Deep.QuietTactic
import Derived.BigQuiet
set_option linter.unusedVariables false
set_option linter.unusedSimpArgs false

namespace Go.Proofs.YtgjepkeeeemppaaGreatDoor
def cutsOf (X:List (List Rat)) (cost:List Int→Rat) (es:List Int) (L c:Int) (ts:List Rat):List (Int × Rat × Rat) :=
 ts.flatMap fun t=>if L≤((lowL X c t es).length:Int)∧L≤((highL X c t es).length:Int) then [(c,t,cost es-(cost (lowL X c t es)+cost (highL X c t es)))] else []
def allCuts (X:List (List Rat)) (cost:List Int→Rat) (es:List Int) (L:Int) (cols:List Int):List (Int × Rat × Rat):=cols.flatMap fun c=>cutsOf X cost es L c (plQ X c es)
theorem sorted_is (key:Int→Rat) (es:List Int):∃ m,m.Perm es∧RisK key m:=by
 refine ⟨es.mergeSort fun a b=>decide (key a≤key b),List.mergeSort_perm _ _,?_⟩
 have:=List.pairwise_mergeSort (le:=fun a b:Int=>decide (key a≤key b)) (fun a b c h1 h2=>by simp at h1 h2 ⊢;exact Rat.le_trans h1 h2) (fun a b=>by simp;exact Rat.le_total) es
 exact List.pairwise_map.2 (this.imp fun h=>by simpa using h)
theorem first_fold (l:List (Int × Rat × Rat)):FirstC l (l.foldl refS none):=by
 have key:∀ (qs pre:List (Int × Rat × Rat)) (st:Option (Int × Rat × Rat)),FirstC pre st→FirstC (pre++qs) (qs.foldl refS st):=by
  intro qs
  induction qs with
  | nil=>intro pre st h;rw [List.append_nil];exact h
  | cons p qs ih =>
   intro pre st h
   rw [show pre++p::qs=(pre++[p])++qs by simp]
   exact ih _ _ (first_snoc h p)
 have:=key l [] none rfl
 simpa using this
end Go.Proofs.YtgjepkeeeemppaaGreatDoor
namespace Go.Proofs.YtgjepkeeeemppaaGreatDoor
structure Nd where
 col:Int
 left:Int
 right:Int
 rows:Int
 cls:Int
 at':Rat
 cost:Rat
 value:Rat
 counts:List Int
structure GP where
 X:List (List Rat)
 cost:List Int→Rat
 mean:List Int→Rat
 cnt:List Int→List Int
 least:Int
 gain:Rat
 cols:Int→List Int × Int
def GP.nd (p:GP) (rows:List Int):Nd:=⟨-1,0,0,(rows.length:Int),(topN (p.cnt rows) (p.cnt rows).length:Int),0,p.cost rows,p.mean rows,p.cnt rows⟩
def GP.best (p:GP) (rows cols:List Int):Option (Int × Rat × Rat):=(allCuts p.X p.cost rows (max 1 p.least) cols).foldl refS none
def GP.cut (p:GP) (rows cols:List Int):Option (Int × Rat):=match p.best rows cols with
 | some (c,t,g)=>if g≤p.gain then none else some (c,t)
 | none=>none
def GP.grow (p:GP):Nat→Nat→List Int→Int→List Nd × Int
 | 0,_,rows,s=>([p.nd rows],s)
 | d+1,k,rows,s=>match p.cut rows (p.cols s).1 with
  | none=>([p.nd rows],(p.cols s).2)
  | some (c,t) =>
   let L:=p.grow d (k+1) (lowL p.X c t rows) (p.cols s).2
   let R:=p.grow d (k+1+L.1.length) (highL p.X c t rows) L.2
   ({p.nd rows with col:=c,left:=((k+1:Nat):Int),right:=((k+1+L.1.length:Nat):Int),at':=t}::(L.1++R.1),R.2)
theorem GP.grow_zero (p:GP) (k:Nat) (rows:List Int) (s:Int):p.grow 0 k rows s=([p.nd rows],s):=rfl
theorem GP.grow_none {p:GP} {d k:Nat} {rows:List Int} {s:Int} (h:p.cut rows (p.cols s).1=none):p.grow (d+1) k rows s=([p.nd rows],(p.cols s).2):=by
 rw [GP.grow,h]
theorem GP.grow_some {p:GP} {d k:Nat} {rows:List Int} {s:Int} {c:Int} {t:Rat} (h:p.cut rows (p.cols s).1=some (c,t)):p.grow (d+1) k rows s =
  ({p.nd rows with col:=c,left:=((k+1:Nat):Int),right:=((k+1+(p.grow d (k+1) (lowL p.X c t rows) (p.cols s).2).1.length:Nat):Int),at':=t}::((p.grow d (k+1) (lowL p.X c t rows) (p.cols s).2).1++(p.grow d (k+1+(p.grow d (k+1) (lowL p.X c t rows) (p.cols s).2).1.length) (highL p.X c t rows) (p.grow d (k+1) (lowL p.X c t rows) (p.cols s).2).2).1),(p.grow d (k+1+(p.grow d (k+1) (lowL p.X c t rows) (p.cols s).2).1.length) (highL p.X c t rows) (p.grow d (k+1) (lowL p.X c t rows) (p.cols s).2).2).2):=by
 rw [GP.grow,h]
theorem GP.grow_len (p:GP):∀ (d k:Nat) (rows:List Int) (s:Int),1≤(p.grow d k rows s).1.length∧(p.grow d k rows s).1.length<2 ^ (d+1)
 | 0,k,rows,s=>by rw [GP.grow_zero];simp
 | d+1,k,rows,s=>by
  have hp:1<2 ^ (d+2):=Nat.one_lt_two_pow oM
  cases h:p.cut rows (p.cols s).1 with
  | none=>rw [GP.grow_none h];exact ⟨Nat.le_refl _,hp⟩
  | some ct =>
   obtain ⟨c,t⟩:=ct
   rw [GP.grow_some h]
   have h1:=p.grow_len d (k+1) (lowL p.X c t rows) (p.cols s).2
   have h2:=p.grow_len d (k+1+(p.grow d (k+1) (lowL p.X c t rows) (p.cols s).2).1.length) (highL p.X c t rows) (p.grow d (k+1) (lowL p.X c t rows) (p.cols s).2).2
   simp only [List.length_cons,List.length_append]
   have h3:2 ^ (d+1+1)=2 ^ (d+1)+2 ^ (d+1):=by rw [Nat.pow_succ];omega
   omega
end Go.Proofs.YtgjepkeeeemppaaGreatDoor
namespace Go.Proofs.YtgjepkeeeemppaaGreatDoor
open Go.RowKit _root_.Go.Proofs.Tryz
section
variable {P:Program} {n:Nat} {ops:Array Oper} {tail:List Oper} {sb bx:Bxs} {H:Hs} {Q:EQ} {x:Nat→Value} {y:Nat→Ows} {ow':Ows} {kl:List DK} {i:Nat} {o:Oper} {l:List Oper} {ks:List DK} {env:Env} {bx':Bxs} {Γ:Fcts} {τ:Tab} {d:Nat}
theorem DJ.plainE (hτ:TabOk P τ) (Φ:Value→Hp→Prop) (hm:∀ v G G',Φ v G→G.Le G'→Φ v G') (hw:wantB ops env o=some true) (hd:o.dst=some d) (hn:Nat.blt d n=true) (hv:∀ G,DepF ops i Γ G→∃ v,pval τ env bx o.op=some (.v v)∧Φ v G)
  (h:DJ P n ops tail sb bx H Q x y kl (i+1) l ks ((d,.v (x i))::env) bx' ((i,Φ (x i))::Γ) ow'):DJ P n ops tail sb bx H Q x y kl i (o::l) (.call Φ::ks) env bx' Γ ow' :=
 DJ.ofCall (fun β a W G _ hf _ hb _ hs hF=>by
  obtain ⟨v,hv,hΦ⟩:=hv G hF
  obtain ⟨u,hu,hr⟩:=pval_sound hτ hv (fun y s hm hy=>hs.op hm hy) hb hf
  rw [if_pos (hs.want hw)]
  unfold Oper.wp
  rw [hu,Oper.upon_value]
  have e:u=v:=hr
  subst e
  exact ⟨u,G,rfl,hΦ,Hp.Le.refl G,hf,Below.refl _ _,Nw.refl _ _ _⟩) hd hn hm h
end
section
variable {n:Nat} {ops:Array Oper} {fuel:Nat} {L:Array Bool} {env:Env} {bx:Bxs} {H:Hs} {K:Env→Bxs→Hs→Prop} {d:Nat} {o:Oper} {v:Value}
end
section
variable {P:Program} {n:Nat} {ops:Array Oper} {o:Oper} {rest:List Oper} {env:Env} {bx:Bxs} {H:Hs} {Q:EQ} {d:Nat}
theorem EVL.neqnil {T T' e:TypeId} {x:Operand} {q:Option Addr} (hT:P.underlying T=some (.pointer e)) (ho:o.op=.binOp .neq T x (.const (.pointer none)) T') (hw:wantB ops env o=some true) (hd:o.dst=some d) (hn:Nat.blt d n=true)
  (hx:env.op x=some (.v (.pointer q))) (h:EVL P n ops rest ((d,.v (.bool q.isSome))::env) bx H Q):EVL P n ops (o::rest) env bx H Q :=
 EVL.gen hw hd hn (fun ev W he=>by
  have ex:=he x _ (by simp [ho,Op.operands]) hx
  have ey:=he (.const (.pointer none)) _ (by simp [ho,Op.operands]) rfl
  have hq:(Op.equalIn (9999+1) T (.pointer q) (.pointer none)).run P W=.ok (!q.isSome) W:=by
   unfold Op.equalIn
   cases q <;> simp [run_underlying hT]
  have hm:Op.maxDepth=9999+1:=rfl
  unfold execOp
  simp [ho,ex,ey,eqGuard,binOp,Op.equal,hm,hq]) h
end
theorem row_take {A c B:List Value} {k s f:Nat} (hA:A.length=k*s) (hf:f≤c.length):(A++(c++B)).take (k*s+f)=A++c.take f:=by
 rw [List.take_append,List.take_of_length_le oM,hA,Nat.add_sub_cancel_left,List.take_append_of_le_length hf]
theorem row_drop {A c B:List Value} {k s f:Nat} (hA:A.length=k*s) (hf:f≤c.length):(A++(c++B)).drop (k*s+f)=c.drop f++B:=by
 rw [List.drop_append,List.drop_eq_nil_of_le oM,hA,Nat.add_sub_cancel_left,List.drop_append_of_le_length hf,List.nil_append]
theorem row_set {A c B vs c':List Value} {k s f m q:Nat} (hA:A.length=k*s) (hq:q=k*s+f) (hm:vs.length=m) (hf:f+m≤c.length) (hc:c.take f++vs++c.drop (f+m)=c'):(A++(c++B)).take q++vs++(A++(c++B)).drop (q+m)=A++(c'++B):=by
 subst hq
 rw [row_take hA oM,Nat.add_assoc,row_drop hA hf,← hc]
 simp only [List.append_assoc]
theorem rlenC_pv {cl:Int} {sv:Value} {la:Option Addr} {ln lc:Nat} {va:Option Addr} {vn vc:Nat}:PV prog 30 #[goalV 1 cl (.slice la ln lc) (.slice va vn vc)] (.int .i64 (ln:Int)):=by
 refine PV.of_pc ?_
 refine BD func30 ntmps30 ?_
 try refine RUN ?_
 rfl
theorem rlenV_pv {cl:Int} {la:Option Addr} {ln lc:Nat} {va:Option Addr} {vn vc:Nat}:PV prog 30 #[goalV 2 cl (.slice la ln lc) (.slice va vn vc)] (.int .i64 (vn:Int)):=by
 refine PV.of_pc ?_
 refine BD func30 ntmps30 ?_
 try refine RUN ?_
 rfl
theorem rcheckV_pc {H:Hp} {la:Option Addr} {lc:Nat} {va:Option Addr} {vn vc:Nat} (h0:1≤vn) (h1:vn≤300):PC prog 31 #[goalV 2 0 (.slice la 0 lc) (.slice va vn vc)] H fun r _=>r=.int .i64 0:=by
 refine BD func31 ntmps31 ?_
 try refine RUN ?_
 rw [decide_eq_false (show ¬ (vn:Int)<1 by omega)]
 try refine RUN ?_
 rw [decide_eq_false (show ¬ (vn:Int)>300 by omega)]
 try refine RUN ?_
 rfl
set_option maxHeartbeats 4000000 in
theorem rcheckC_pc {H:Hp} {la:Option Addr} {lc:Nat} {ls:List Int} (hv:IL H (.slice la ls.length lc) ls) {va:Option Addr} {vc:Nat} {cl:Int} (hc:1≤cl∧cl≤12) (h0:1≤ls.length) (h1:ls.length≤300) (hls:∀ z,z∈ls→0≤z∧z<cl):PC prog 31 #[goalV 1 cl (.slice la ls.length lc) (.slice va 0 vc)] H fun r _=>r=.int .i64 0:=by
 refine BD func31 ntmps31 ?_
 try refine RUN ?_
 rw [decide_eq_false (show ¬ (ls.length:Int)<1 by omega)]
 try refine RUN ?_
 rw [decide_eq_false (show ¬ (ls.length:Int)>300 by omega)]
 try refine RUN ?_
 rw [decide_eq_false (show ¬ cl<1 by omega)]
 try refine RUN ?_
 rw [decide_eq_false (show ¬ cl>12 by omega)]
 try refine RUN ?_
 refine EV.loopK (ι:=Nat) [1,3] [1] (fun i=>[(4,.v (.int .i64 (i:Int)))]) (fun _=>[]) (fun _=>[]) (fun i _=>i≤ls.length) (fun i=>ls.length-i) (0) rfl rfl ⟨rfl,trivial⟩ trivial rfl (fun _=>rfl) (Nat.zero_le _) ?_
 rintro i G1 hG1 hi
 try refine RUN ?_
 refine EV.cond rfl (fun hlt=>?_) (fun hlt=>?_)
 ·simp only [nN] at hlt
  obtain ⟨z,hz⟩:∃ r,ls[i]?=some r:=⟨_,List.getElem?_eq_getElem hlt⟩
  have hb:=hls z (List.mem_of_getElem? hz)
  have hv1:=hv.mono hG1
  try refine RUN ?_
  apply EV.drawn 15 kR kR;intro xv yw
  (repeat (first | refine' DV ?_ | refine' DA ?_ | refine' DK0 ?_ | refine' DT ?_ | refine' DS ?_))
  refine' DJ.ofVal (ValOk.idx1 tO rfl rfl rfl rfl rfl rfl rfl rfl (hv1) (i) (rfl) (hlt) ((by rw [List.getElem?_map,hz];rfl))) rfl rfl rfl ?_;rotate_left
  (repeat (first | refine' DV ?_ | refine' DA ?_ | refine' DK0 ?_ | refine' DT ?_ | refine' DS ?_))
  rw [decide_eq_false (show ¬ z<0 by omega)]
  (repeat (first | refine' DV ?_ | refine' DA ?_ | refine' DK0 ?_ | refine' DT ?_ | refine' DS ?_))
  refine' DJ.ofVal (ValOk.idx1 tO rfl rfl rfl rfl rfl rfl rfl rfl (hv1) (i) (rfl) (hlt) ((by rw [List.getElem?_map,hz];rfl))) rfl rfl rfl ?_;rotate_left
  (repeat (first | refine' DV ?_ | refine' DA ?_ | refine' DK0 ?_ | refine' DT ?_ | refine' DS ?_))
  (refine DJ.nil (fun G2 hG2 hF2=>?_);(case hS|hS2=>rfl))
  try refine RUN ?_
  rw [decide_eq_false (show ¬ z≥cl by omega)]
  try refine RUN ?_
  refine ⟨i+1,⟨by rw [wi_inc i (by omega)];rfl,trivial⟩,sB,trivial,sB,rfl,hlt,hG2,by omega⟩
 ·(try refine RUN ?_)
  rfl
abbrev rcut0:List Value:=[.int .i64 0,.bool false,.slice none 0 0,.slice none 0 0,.bool false,.slice none 0 0,.slice none 0 0]
theorem gain0_none {H:Hp}:PC prog 159 #[.agg rcut0.toArray] H fun r H'=>RQ H' r 0:=by
 refine BD func159 ntmps159 ?_
 try refine RUN ?_
 refine EVL.call rfl rfl rfl rfl rfl (refOf_pc 0 (by decide) (by decide)) ?_
 intro r2 G2 hq hG2
 obtain ⟨xa,xl,xc,ya,yl,yc,rfl,hx1,hx2⟩:=id hq
 try refine RUN ?_
 exact hq
theorem gain0_some {H:Hp} {c:Int} {b1:Bool} {s1 s2:Option Addr} {n1 c1 n2 c2:Nat} {y:Value} {g:Rat} (hy:RQ H y g):PC prog 159 #[.agg (.int .i64 c::([.bool b1,.slice s1 n1 c1,.slice s2 n2 c2]++vlist y)).toArray] H fun r H'=>RQ H' r g:=by
 obtain ⟨xa,xl,xc,ya,yl,yc,rfl,hx1,hx2⟩:=id hy
 have hl:yl=(dig B32 g.den).length:=SlN.cap hx2
 have hne:yl≠0:=fun e=>g.den_nz (dig_len_zero B32_two oM)
 refine BD func159 ntmps159 ?_
 try refine RUN ?_
 rw [show ((yl:Int) == 0)=false from beq_eq_false_iff_ne.2 (by omega)]
 try refine RUN ?_
 exact hy
def RNode (H:Hp) (cs:List Value) (n:Nd):Prop:=∃ xa xc xv xs,RQ H xa n.at'∧RQ H xc n.cost∧RQ H xv n.value∧IL H xs n.counts ∧
 cs=[.int .i64 n.col,.int .i64 n.left,.int .i64 n.right,.int .i64 n.rows,.int .i64 n.cls]++(vlist xa++(vlist xc++(vlist xv++[xs])))
theorem RNode.mono {H G:Hp} {cs:List Value} {n:Nd} (h:RNode H cs n) (k:H.Le G):RNode G cs n:=by
 obtain ⟨xa,xc,xv,xs,h1,h2,h3,h4,e⟩:=h
 exact ⟨xa,xc,xv,xs,h1.mono k,h2.mono k,h3.mono k,h4.mono k,e⟩
theorem RNode.cells {H:Hp} {cs:List Value} {n:Nd} (h:RNode H cs n):∃ b1 a1 l1 c1 a2 l2 c2 b3 a3 l3 c3 a4 l4 c4 b5 a5 l5 c5 a6 l6 c6 a7 c7,
  cs=[.int .i64 n.col,.int .i64 n.left,.int .i64 n.right,.int .i64 n.rows,.int .i64 n.cls,.bool b1,.slice a1 l1 c1,.slice a2 l2 c2,.bool b3,.slice a3 l3 c3,.slice a4 l4 c4,.bool b5,.slice a5 l5 c5,.slice a6 l6 c6,.slice a7 n.counts.length c7] ∧
  RQ H (.agg #[.bool b1,.slice a1 l1 c1,.slice a2 l2 c2]) n.at'∧RQ H (.agg #[.bool b3,.slice a3 l3 c3,.slice a4 l4 c4]) n.cost∧RQ H (.agg #[.bool b5,.slice a5 l5 c5,.slice a6 l6 c6]) n.value∧IL H (.slice a7 n.counts.length c7) n.counts:=by
 obtain ⟨xa,xc,xv,xs,h1,h2,h3,h4,e⟩:=h
 obtain ⟨a1,l1,c1,a2,l2,c2,rfl,_⟩:=id h1
 obtain ⟨a3,l3,c3,a4,l4,c4,rfl,_⟩:=id h2
 obtain ⟨a5,l5,c5,a6,l6,c6,rfl,_⟩:=id h3
 obtain ⟨a7,c7,rfl⟩:=SlC.val h4
 exact ⟨_,_,_,_,_,_,_,_,_,_,_,_,_,_,_,_,_,_,_,_,_,_,_,e,h1,h2,h3,h4⟩
structure RGoal (H:Hp) (g:Value) (kd:Int) (N:Nat) (cs mn:List Int→Rat) (cnt:List Int→List Int):Prop where
 counts:kd=1→∀ G,H.Le G→∀ u l,IL G u l→l.length≤300→PC prog 156 #[g,u] G fun r H'=>IL H' r (cnt (exL l N))
 no:kd≠1→∀ l,cnt l=[]
 zero:kd=1→∀ l,mn l=0
 cntlen:∀ l,(cnt l).length≤12
 mean:∀ G,H.Le G→∀ u l,IL G u l→l.length≤300→PC prog 157 #[g,u] G fun r H'=>RQ H' r (mn (exL l N))
 msmall:∀ l:List Int,l.length≤300→(∀ r,r∈l→0≤r∧r<(N:Int))→ht (mn l)≤2000000
 cost:∀ G,H.Le G→∀ u l,IL G u l→l.length≤300→PC prog 155 #[g,u] G fun r H'=>RQ H' r (cs (exL l N))
 small:∀ l:List Int,l.length≤300→(∀ r,r∈l→0≤r∧r<(N:Int))→ht (cs l)≤2000000
 check:∀ G,H.Le G→PC prog 31 #[g] G fun r _=>r=.int .i64 0
 len:PV prog 30 #[g] (.int .i64 (N:Int))
theorem RGoal.mono {H H':Hp} {g:Value} {kd:Int} {N:Nat} {cs mn:List Int→Rat} {cnt:List Int→List Int} (h:RGoal H g kd N cs mn cnt) (k:H.Le H'):RGoal H' g kd N cs mn cnt :=
 ⟨fun e G hG=>h.counts e G (k.trans hG),h.no,h.zero,h.cntlen,fun G hG=>h.mean G (k.trans hG),h.msmall,fun G hG=>h.cost G (k.trans hG),h.small,fun G hG=>h.check G (k.trans hG),h.len⟩
abbrev growC (kd cl:Int) (sl sv vx:Value) (deep least:Int) (g1 g2 g3 dv:Value) (sm:Int) (out:Value):List Value:=[.int .i64 kd,.int .i64 cl,sl,sv,vx,.int .i64 deep,.int .i64 least,g1,g2,g3,dv,.int .i64 sm,out]
abbrev node0 (n:Nat) (x1 x2 x3:Value):Value:=.agg (([.int .i64 (-1),.int .i64 0,.int .i64 0,.int .i64 (n:Int),.int .i64 0]:List Value)++(vlist x1++(vlist x2++(vlist x3++([.slice none 0 0]:List Value))))).toArray
set_option maxHeartbeats 8000000 in
theorem rnode_pw {H:Hp} {b:Nat} {T:TypeId} {kd cl deep least sm:Int} {la va xa:Option Addr} {ln lc vn vc xn xc:Nat} {g1 g2 g3 dv out vr:Value} {N:Nat} {p:GP} (hg:RGoal H (goalV kd cl (.slice la ln lc) (.slice va vn vc)) kd N p.cost p.mean p.cnt) {rows:List Int} (hr:IL H vr rows) (hn:rows.length≤300) (hb:∀ r,r∈rows→0≤r∧r<(N:Int)) :
  PW prog 121 #[.pointer (some ⟨b,0,none⟩),vr] H [(b,T,growC kd cl (.slice la ln lc) (.slice va vn vc) (.slice xa xn xc) deep least g1 g2 g3 dv sm out)] fun v ow H'=>ow=[(b,T,growC kd cl (.slice la ln lc) (.slice va vn vc) (.slice xa xn xc) deep least g1 g2 g3 dv sm out)]∧∃ cs,v=.agg cs.toArray∧RNode H' cs (p.nd rows):=by
 obtain ⟨ra,rc,rfl⟩:=SlC.val hr
 have hex:=exL_all hb
 have hcost:=fun (G:Hp) (hG:H.Le G)=>hg.cost G hG _ _ (hr.mono hG) hn
 have hmean:=fun (G:Hp) (hG:H.Le G)=>hg.mean G hG _ _ (hr.mono hG) hn
 have hcnt:=fun e (G:Hp) (hG:H.Le G)=>hg.counts e G hG _ _ (hr.mono hG) hn
 rw [hex] at hcost hmean hcnt
 have hcl:=hg.cntlen rows
 refine PW.body tO func121 rfl kR ntmps121 rfl rfl ?_
 try refine RUN ?_
 apply EV.drawn 12 kR kR;intro xv yw
 (repeat (first | refine' DV ?_ | refine' DA ?_ | refine' DK0 ?_ | refine' DT ?_ | refine' DS ?_))
 refine' DJ.call rfl rfl rfl rfl rfl (cO func43) (fun G hG hd=>refOf_pc 0 oM oM) (fun _ _ _ h k=>RQ.mono h k) ?_;rotate_left
 (repeat (first | refine' DV ?_ | refine' DA ?_ | refine' DK0 ?_ | refine' DT ?_ | refine' DS ?_ | (refine' DJ.nilB rfl rfl rfl rfl rfl ?_;rotate_left) | (refine' DJ.fldB tO rfl rfl rfl rfl rfl rfl rfl ?_;rotate_left)))
 refine' DJ.ofVal (ValOk.loadOwn tO rfl rfl rfl rfl (0) rfl (rfl) rfl rfl) rfl rfl rfl ?_;rotate_left
 (repeat (first | refine' DV ?_ | refine' DA ?_ | refine' DK0 ?_ | refine' DT ?_ | refine' DS ?_))
 refine' DJ.call rfl rfl rfl rfl rfl (cO func155) (fun G hG hd=>hcost G hG) (fun _ _ _ h k=>RQ.mono h k) ?_;rotate_left
 refine' DJ.call rfl rfl rfl rfl rfl (cO func43) (fun G hG hd=>refOf_pc 0 oM oM) (fun _ _ _ h k=>RQ.mono h k) ?_;rotate_left
 (refine' DJ.plainE tO (fun v G=>∃ x1 x2 x3,RQ G x1 ((0:Int):Rat)∧RQ G x2 (p.cost rows)∧RQ G x3 ((0:Int):Rat)∧v=node0 rows.length x1 x2 x3) (fun v G G' ⟨x1,x2,x3,h1,h2,h3,e⟩ k=>⟨x1,x2,x3,h1.mono k,h2.mono k,h3.mono k,e⟩) rfl rfl rfl (fun G hd=>(by
  obtain ⟨a1,l1,c1,a2,l2,c2,e1,h1⟩:=hd.tail.tail.head kR
  obtain ⟨a3,l3,c3,a4,l4,c4,e2,h2⟩:=hd.tail.head kR
  obtain ⟨a5,l5,c5,a6,l6,c6,e3,h3⟩:=hd.head kR
  refine ⟨_,?_,_,_,_,⟨a1,l1,c1,a2,l2,c2,rfl,h1⟩,⟨a3,l3,c3,a4,l4,c4,rfl,h2⟩,⟨a5,l5,c5,a6,l6,c6,rfl,h3⟩,rfl⟩
  rw [e1,e2,e3]
  rfl)) ?_;rotate_left)
 (repeat (first | refine' DV ?_ | refine' DA ?_ | refine' DK0 ?_ | refine' DT ?_ | refine' DS ?_))
 (refine DJ.nil (fun G hG hF=>?_);(case hS|hS2=>rfl))
 obtain ⟨⟨x1,x2,x3,h1,h2,h3,e⟩,_⟩:=hF
 obtain ⟨a1,l1,c1,a2,l2,c2,rfl,_⟩:=id h1
 obtain ⟨a3,l3,c3,a4,l4,c4,rfl,_⟩:=id h2
 obtain ⟨a5,l5,c5,a6,l6,c6,rfl,_⟩:=id h3
 replace e:_=Value.agg #[.int .i64 (-1),.int .i64 0,.int .i64 0,.int .i64 (rows.length:Int),.int .i64 0,.bool (decide (((0:Int):Rat).num<0)),.slice a1 l1 c1,.slice a2 l2 c2,.bool (decide ((p.cost rows).num<0)),.slice a3 l3 c3,.slice a4 l4 c4,.bool (decide (((0:Int):Rat).num<0)),.slice a5 l5 c5,.slice a6 l6 c6,.slice none 0 0]:=e
 rw [e]
 try refine RUN ?_
 (repeat (first | refine EVL.nilB rfl rfl rfl rfl rfl ?_ | refine EVL.fldB tO rfl rfl rfl rfl rfl rfl rfl ?_ | refine EVL.val tO rfl rfl rfl rfl rfl ?_))
 refine EVL.loadOwn tO rfl rfl rfl rfl rfl rfl (0) rfl (rfl) rfl rfl ?_
 try refine RUN ?_
 by_cases hk:kd=1
 ·subst hk
  try refine RUN ?_
  (repeat (first | refine EVL.nilB rfl rfl rfl rfl rfl ?_ | refine EVL.fldB tO rfl rfl rfl rfl rfl rfl rfl ?_ | refine EVL.val tO rfl rfl rfl rfl rfl ?_))
  refine EVL.loadOwn tO rfl rfl rfl rfl rfl rfl (0) rfl (rfl) rfl rfl ?_
  try refine RUN ?_
  refine EVL.call rfl rfl rfl rfl rfl (hcnt rfl _ hG) ?_
  intro r5 G5 hr5 hG5
  obtain ⟨a7,c7,rfl⟩:=SlC.val hr5
  try refine RUN ?_
  refine EVL.call rfl rfl rfl rfl rfl (refTop_pc hr5 oM) ?_
  rintro _ G6 rfl hG6
  try refine RUN ?_
  refine ⟨rfl,_,rfl,_,_,.agg #[_,.slice a5 l5 c5,.slice a6 l6 c6],_,h1.mono (hG5.trans hG6),h2.mono (hG5.trans hG6),?_,hr5.mono hG6,rfl⟩
  rw [show (p.nd rows).value=p.mean rows from rfl,hg.zero rfl]
  exact h3.mono (hG5.trans hG6)
 ·rw [show (kd == 1)=false from beq_eq_false_iff_ne.2 hk]
  have hno:=hg.no hk rows
  try refine RUN ?_
  (repeat (first | refine EVL.nilB rfl rfl rfl rfl rfl ?_ | refine EVL.fldB tO rfl rfl rfl rfl rfl rfl rfl ?_ | refine EVL.val tO rfl rfl rfl rfl rfl ?_))
  refine EVL.loadOwn tO rfl rfl rfl rfl rfl rfl (0) rfl (rfl) rfl rfl ?_
  try refine RUN ?_
  refine EVL.call rfl rfl rfl rfl rfl (hmean _ hG) ?_
  intro r5 G5 hr5 hG5
  obtain ⟨a8,l8,c8,a9,l9,c9,rfl,_⟩:=id hr5
  try refine RUN ?_
  refine ⟨rfl,_,rfl,.agg #[_,.slice a1 l1 c1,.slice a2 l2 c2],_,_,.slice none 0 0,h1.mono hG5,h2.mono hG5,hr5,?_,?_⟩
  ·rw [show (p.nd rows).counts=p.cnt rows from rfl,hno];exact IL.nil _ _ _
  ·rw [show (p.nd rows).cls=(topN (p.cnt rows) (p.cnt rows).length:Int) from rfl,hno];rfl
theorem Tryz.infoInt:(Tryz.prog.info? 3).map (fun i=>(i.zero,i.size,i.bytes))=some (some (.int .i64 0),1,8):=by kernel_rfl
theorem make_ints (n:Nat) (w:World) (h:n≤1000000):(Instr.makeSlice 23 (.int .i64 n) (.int .i64 n)).run prog w=.ok (.slice (some ⟨w.heap.size,0,none⟩) n n) (w.alloc (.cells (cellsOf i64 (List.replicate n 0)) 3)):=by
 obtain ⟨i0,hi,hz0,hz1,hz2⟩:=info_parts Tryz.infoInt
 have:=run_make (P:=prog) w 23 3 i0 (.int .i64 0) Tryz.underlying23 hi hz0 .i64 .i64 n n oM oM (by rw [hz2];omega) oM
 rw [this,hz1]
 simp only [Int.toNat_natCast,Nat.mul_one,Value.cells]
 rw [show (#[Value.int .i64 0])=#[i64 0] from rfl,madeCells_of]
set_option maxHeartbeats 400000 in
theorem rnext_any (b:Nat) (s:Int) (w:World) (hc:w.cell? ⟨b,0,none⟩=some (.int .u64 s)) (hf:w.frozen? ⟨b,0,none⟩=false) :
  Calls prog 71 #[.pointer (some ⟨b,0,none⟩)] w fun e w'=>e=.returned (.int .u64 (mix (nxt s)))∧w'=w.setCell ⟨b,0,none⟩ (.int .u64 (nxt s)):=by
 go_enter func71,ntmps71
 go_wp2
 go_ret
 exact ⟨rfl,rfl⟩
theorem rnext_die (b:Nat) (s:Int) (w:World) (h:Die w b s) :
  Calls prog 71 #[.pointer (some ⟨b,0,none⟩)] w fun e w'=>e=.returned (.int .u64 (mix (nxt s)))∧Die w' b (nxt s)∧Kept (·=b) w w'∧w'.heap.size=w.heap.size:=by
 refine (rnext_any b s w h.cell h.free).mono ?_
 rintro e w' ⟨rfl,rfl⟩
 exact ⟨rfl,h.set (nxt_range s).1,(Kept.refl (fun x=>x=b) w).setCell (p:=⟨b,0,none⟩) (fun _=>rfl) _,by simp⟩
theorem rest_walk (n:Int) (h:1≤n) (h2:n≤1000000):(IntKind.u64.wrap (-n)).tmod n=18446744073709551616 % n:=by
 rw [wrap_u64,show -n % 18446744073709551616=18446744073709551616-n by omega,Int.tmod_eq_emod_of_nonneg oM,Int.sub_emod_right]
set_option maxHeartbeats 400000 in
theorem rbelow_die (b:Nat) (n s:Int) (w:World) (h:Die w b s) (hn:1≤n) (hn2:n≤1000000) :
  Calls prog 120 #[.pointer (some ⟨b,0,none⟩),.int .i64 n] w fun e w'=>e=.returned (.int .i64 (below n s).1)∧Die w' b (below n s).2∧Kept (·=b) w w'∧w'.heap.size=w.heap.size:=by
 go_enter func120,ntmps120
 go_wp2
 rw [rest_walk n hn hn2]
 have hR1:=Int.emod_nonneg 18446744073709551616 (show n≠0 by omega)
 have hR2:=Int.emod_lt_of_pos 18446744073709551616 (show 0<n by omega)
 have hRl:last n=18446744073709551615-18446744073709551616 % n:=rfl
 generalize (18446744073709551616:Int) % n=R at *
 have HR:=hid hRl
 clear hRl
 have hR3:R≤1000000:=by omega
 go_loopg [7] (left s) (fun k _ wr=>∃ t,left t=k∧Die wr b t∧below n s=below n t∧Kept (·=b) w wr∧wr.heap.size=w.heap.size)
 case atStart=>exact ⟨s,rfl,h,rfl,Kept.refl _ _,rfl⟩
 case round =>
  obtain ⟨t,hl,hd,hb,hk,hz⟩:=hrel
  have HB:=hid hb
  have HZ:=hid hz
  have HL:=hid hl
  clear hb hz hl
  by_cases hc:mix (nxt t)≤last n
  ·have HT:=hid (below_take n t hc)
   have hm:=(mix_range (nxt t)).1
   rw [HR.out] at hc
   go_wp2_with fail
   refine (rnext_die b t wr hd).mono ?_
   rintro e w1 ⟨rfl,hd1,hk1,hz1⟩
   have HZ1:=hid hz1
   clear hz1
   go_wp2
   go_ret
   rw [HB.out,HT.out]
   have:=Int.emod_lt_of_pos (mix (nxt t)) (show 0<n by omega)
   have:=Int.emod_nonneg (mix (nxt t)) (show n≠0 by omega)
   exact ⟨ret_int (IntWalk.wrap64_in _ ⟨by omega,by omega⟩),hd1,hk.trans hk1,by rw [HZ1.out,HZ.out]⟩
  ·have HT:=hid (below_step n t hn oM hc)
   have HW:=hid (left_of_not n t hn oM hc)
   rw [HR.out] at hc
   have hc':decide (mix (nxt t)≤18446744073709551615-R)=false:=by simpa using hc
   go_wp2_with fail
   refine (rnext_die b t wr hd).mono ?_
   rintro e w1 ⟨rfl,hd1,hk1,hz1⟩
   have HZ1:=hid hz1
   clear hz1
   go_wp2
   go_roundg (left (nxt t))
   case measure=>rw [← HL.out];exact HW.out
   case rel=>exact ⟨_,rfl,hd1,by rw [HB.out,HT.out],hk.trans hk1,by rw [HZ1.out,HZ.out]⟩
set_option maxHeartbeats 800000 in
theorem rorder_die (b:Nat) (n:Nat) (s:Int) (w:World) (h:Die w b s) (hn:1≤n) (hn2:n≤65536) :
  Calls prog 122 #[.pointer (some ⟨b,0,none⟩),.int .i64 n] w fun e w' =>
   ∃ B,w.heap.size≤B∧e=.returned (.slice (some ⟨B,0,none⟩) n n)∧Blk i64 w' B (orderL n s).1∧Die w' b (orderL n s).2∧Kept (·=b) w w':=by
 have hmk:=fun w=>make_ints n w oM
 go_enter func122,ntmps122
 go_wp2
 go_loopg [6] n (fun g i wr=>∃ j:Nat,j+g=n∧i=.int .i64 j∧Blk i64 wr w.heap.size (upTo j++List.replicate g 0)∧Die wr b s∧Kept (·=b) w wr)
 case atStart=>exact ⟨0,by omega,rfl,Blk.new _ _ _ _,h.below ((Below.refl _ _).alloc (Nat.le_refl _) _),(Kept.refl _ _).alloc _⟩
 case round =>
  obtain ⟨j,hj,rfl,hB,hd,hK⟩:=hrel
  have hlen:=upTo_length j
  by_cases hlt:j<n
  ·have hjk:=hid hj
   clear hj
   have hl:=hid hlen
   clear hlen
   have hll:(upTo j++List.replicate gk 0).length=n:=by have:=hl.out;have:=hjk.out;simp;omega
   obtain ⟨v0,hc⟩:=hB.has j oM
   have hf:=hB.free j
   have HL:=hid hll
   clear hll
   go_wp2
   go_roundg (gk-1)
   case measure=>have:=hjk.out;omega
   case rel =>
    refine ⟨j+1,by have:=hjk.out;omega,by go_num,?_,?_,?_⟩
    ·have:=hB.set j (j:Int)
     have e:(upTo j++List.replicate gk 0).set j (j:Int)=upTo (j+1)++List.replicate (gk-1) 0:=by
      have:=hjk.out
      obtain ⟨g,rfl⟩:∃ g,gk=g+1:=⟨gk-1,by omega⟩
      rw [List.set_append_right _ _ (by rw [hl.out];omega),hl.out,upTo_succ]
      simp [List.replicate_succ]
     rw [e] at this
     exact this
    ·exact hd.other ⟨w.heap.size,j,none⟩ _ (by have:=h.lt;simp;omega)
    ·exact hK.setCell (p:=⟨w.heap.size,j,none⟩) (fun x=>absurd x (Nat.lt_irrefl _)) _
  ·obtain rfl:j=n:=by omega
   obtain rfl:gk=0:=by omega
   rw [List.replicate_zero,List.append_nil] at hB
   obtain ⟨wo,hwo⟩:∃ wo:World,wo=wr:=⟨_,rfl⟩
   rw [← hwo] at hB hd hK
   subst hwo
   go_wp2
   go_loopg [7] (j-1) (fun g i wr=>∃ (l:List Int) (t:Int),g<j∧i=.int .i64 g∧Blk i64 wr w.heap.size l∧l.length=j∧Die wr b t∧orderGo g l t=orderL j s∧Kept (·=b) w wr)
   case atStart=>exact ⟨upTo j,s,by omega,by congr 1;omega,hB,hlen,hd,rfl,hK⟩
   case round =>
    obtain ⟨l,t,hg,rfl,hB,hlen,hd,ho,hK⟩:=hrel
    have HO:=hid ho
    have HN:=hid hlen
    clear ho hlen
    by_cases hlt:1≤gk
    ·go_wp2_with fail
     refine (rbelow_die b _ _ wr hd oM oM).mono ?_
     have hr:=below_range (gk+1) t oM oM
     generalize hbe:below (gk+1) t=be at *
     obtain ⟨x,t'⟩:=be
     obtain ⟨r1,r2,r3,r4⟩:=hr
     simp only at r1 r2
     clear r3 r4
     obtain ⟨x,rfl⟩:=Int.eq_ofNat_of_zero_le r1
     rintro e w1 ⟨rfl,hd1,hk1,hz1⟩
     have HZ:=hid hz1
     have HBE:=hid hbe
     clear hz1 hbe
     have hB1:=hB.kept hk1 (by have:=h.lt;omega)
     have hx:x<l.length:=by have:=HN.out;omega
     have hgl:gk<l.length:=by have:=HN.out;omega
     obtain ⟨v,hv⟩:∃ v,v=l.getD x 0:=⟨_,rfl⟩
     obtain ⟨u,hu⟩:∃ v,v=l.getD gk 0:=⟨_,rfl⟩
     have c1:w1.cell? ⟨w.heap.size,x,none⟩=some (.int .i64 v):=by rw [hv,hB1.cell x hx];simp [hx]
     have c2:w1.cell? ⟨w.heap.size,gk,none⟩=some (.int .i64 u):=by rw [hu,hB1.cell gk hgl];simp [hgl]
     have f1:=hB1.free x
     have f2:=hB1.free gk
     have hx':x<j:=by omega
     have HV:=hid hv
     have HU:=hid hu
     clear hv hu hx hgl
     obtain ⟨v',hy'⟩:=cell?_setCell_some (w:=w1) (p:=⟨w.heap.size,gk,none⟩) (x:=.int .i64 v) (q:=⟨w.heap.size,x,none⟩) (v:=.int .i64 v) c1
     go_wp2
     go_region
     all_goals go_wp2
     all_goals go_roundg (gk-1)
     case measure=>omega
     case rel =>
      refine ⟨swapL l gk x,t',by omega,by congr 1;omega,?_,by rw [swapL_length];exact HN.out,?_,?_,?_⟩
      ·have:=((hB1.set gk v).set x u).drew
       rw [HV.out,HU.out] at this
       rw [HV.out,HU.out]
       exact this
      ·exact ((hd1.other ⟨w.heap.size,gk,none⟩ _ (by have:=h.lt;simp;omega)).other ⟨w.heap.size,x,none⟩ _ (by have:=h.lt;simp;omega)).drew
      ·rw [← HO.out]
       obtain ⟨g,rfl⟩:∃ g,gk=g+1:=⟨gk-1,by omega⟩
       have hh:=HBE.out
       rw [show ((g+1:Nat):Int)+1=(g:Int)+2 by omega] at hh
       simp [orderGo,hh]
      ·exact (((hK.trans hk1).setCell (p:=⟨w.heap.size,gk,none⟩) (fun x=>absurd x (Nat.lt_irrefl _)) _).setCell (p:=⟨w.heap.size,x,none⟩) (fun x=>absurd x (Nat.lt_irrefl _)) _).drew
    ·obtain rfl:gk=0:=by omega
     go_wp2
     go_ret
     have:=HO.out
     simp only [orderGo] at this
     rw [← this]
     exact ⟨w.heap.size,Nat.le_refl _,rfl,hB,hd,hK⟩
set_option maxHeartbeats 800000 in
theorem rdraw_die (b:Nat) (n:Int) (k:Nat) (s:Int) (w:World) (h:Die w b s) (hn:1≤n) (hn2:n≤1000000) (hk2:k≤65536) :
  Calls prog 74 #[.pointer (some ⟨b,0,none⟩),.int .i64 n,.int .i64 k] w fun e w' =>
   ∃ v,e=.returned v∧w'.ownsRow w.heap.size 3 1 v k ((drawL n k s).1.map i64)∧Die w' b (drawL n k s).2∧Kept (·=b) w w':=by
 go_enter func74,ntmps74
 go_wp2
 go_loopg [7,8] k (fun g v i wr=>∃ j:Nat,j+g=k∧i=.int .i64 j∧wr.ownsRow w.heap.size 3 1 v j ((drawL n j s).1.map i64)∧Die wr b (drawL n j s).2∧Kept (·=b) w wr)
 case atStart=>exact ⟨0,by omega,rfl,World.ownsRow_nil _ _ _ _,h,Kept.refl _ _⟩
 case round =>
  obtain ⟨j,hj,rfl,hown,hd,hK⟩:=hrel
  by_cases hlt:j<k
  ·have HJ:=hid hj
   clear hj
   go_wp2_with fail
   refine (rbelow_die b n _ wr hd hn hn2).mono ?_
   rintro e w1 ⟨rfl,hd1,hk1,hz1⟩
   have hbl:=h.lt
   have hown1:w1.ownsRow w.heap.size 3 1 u7 j ((drawL n j s).1.map i64):=by
    refine ⟨hown.1,?_⟩
    rcases hown.2 with hh | ⟨g,cap,cur,e1,e2,e3,e4⟩
    ·exact .inl hh
    ·exact .inr ⟨g,cap,cur,e1,e2,by rw [hk1.block g (lt_of_block e3) (by omega)];exact e3,e4⟩
   have hsz:w.heap.size≤w1.heap.size:=Nat.le_trans hK.size hk1.size
   have HZ:=hid hz1
   clear hz1 hown
   go_wp2_with (at_builtin;refine app1 rfl _ _ 23 rfl w.heap.size 3 (.int .i64 0) 8 Tryz.infoInt Tryz.underlying23 rfl _ _ _ rfl hown1 _ rfl rfl oM oM hsz ?_;intro g' cap' w4 hown4 hk4)
   have hne:∀ k,u7.ownBlock=some k→w.heap.size≤k:=fun k e=>(hown1.lt k e).1
   go_roundg (gk-1)
   case measure=>have:=HJ.out;omega
   case rel =>
    refine ⟨j+1,by have:=HJ.out;omega,by go_num,by simpa [drawL] using hown4,?_,?_⟩
    ·exact hd1.kept hk4 (fun e=>by have:=hne _ e;omega)
    ·exact (hK.trans hk1).then hk4 (fun i hi e=>by have:=hne _ e;omega)
  ·obtain rfl:k=j:=by omega
   go_wp2
   go_ret
   exact ⟨_,rfl,hown,hd,hK⟩
theorem PW.of_order {P:Program} {f:FuncId} {args:Array Value} {H:Hp} {b:Nat} {T:TypeId} {s s':Int} {l:List Int} (can:Callable P f) (hs:0≤s)
  (h:∀ W,Die W b s→Calls P f args W fun e w'=>∃ B,W.heap.size≤B∧e=.returned (.slice (some ⟨B,0,none⟩) l.length l.length)∧Blk i64 w' B l∧Die w' b s'∧Kept (·=b) W w') :
  PW P f args H [(b,T,[.int .u64 s])] fun v ow H'=>(∃ T',ow=[(b,T',[.int .u64 s'])])∧0≤s'∧IL H' v l∧∃ a,v=.slice a l.length l.length:=by
 refine ⟨can,fun W hf hg hL hd=>?_⟩
 obtain ⟨hB,hHb,_⟩:=hL 0 b T _ rfl
 refine (h W ⟨hs,T,hB⟩).mono ?_
 rintro e W' ⟨B,hBs,rfl,⟨T2,hblk⟩,⟨hs',T',hdie⟩,hk⟩
 have hBn:H B=none:=by
  cases hc:H B with
  | none=>rfl
  | some c=>have:=hf.lt (b:=B) (by rw [hc];simp);omega
 have hbB:b≠B:=by
  have:=hB.lt
  omega
 refine ⟨_,[(b,T',[.int .u64 s'])],H.put B (cellsOf i64 l),rfl,⟨⟨T',rfl⟩,hs',?_,_,rfl⟩,fun k c hc=>?_,fun k c hc=>?_,fun k c hc=>?_,hk.mono (fun k _ e=>by subst e;exact Ows.bs_mem (j:=0) rfl),fun j b' T1 cs hj=>?_,?_⟩
 ·exact ⟨by simp,.inr ⟨B,0,l.length,cellsOf i64 l,rfl,Nat.le_refl _,by simp [Hp.put],fun q x hq=>by rw [Nat.zero_add];simpa [cellsOf] using hq⟩⟩
 ·have:k≠B:=fun e=>by subst e;rw [hBn] at hc;cases hc
  simp only [Hp.put,if_neg this];exact hc
 ·by_cases e:k=B
  ·subst e;simp only [Hp.put,if_true] at hc;cases hc;exact ⟨T2,(0,0),hblk⟩
  ·simp only [Hp.put,if_neg e] at hc
   obtain ⟨T3,fz,hW⟩:=hf k c hc
   refine ⟨T3,fz,?_⟩
   rw [hk.block k (hf.lt (by rw [hc];simp)) (fun e=>by subst e;rw [hHb] at hc;cases hc)];exact hW
 ·by_cases e:k=B
  ·subst e;simp only [Hp.put,if_true] at hc;cases hc;exact .inr ⟨hBs,T2,hblk⟩
  ·simp only [Hp.put,if_neg e] at hc;exact .inl hc
 ·cases j with
  | zero =>
   cases (show some (b,T',[Value.int .u64 s'])=some (b',T1,cs) from hj)
   exact ⟨hdie,.inr (Ows.bs_mem (j:=0) rfl),by simp only [Hp.put,if_neg hbB];exact hHb⟩
  | succ j=>simp at hj
 ·intro j j' b' T1 T2 c1 c2 h1 h2
  cases j with
  | zero=>cases j' with
   | zero=>rfl
   | succ j'=>simp at h2
  | succ j=>simp at h1
theorem PW.of_draw {P:Program} {f:FuncId} {args:Array Value} {H:Hp} {b:Nat} {T E:TypeId} {s s':Int} {l:List Int} (can:Callable P f) (hs:0≤s)
  (h:∀ W,Die W b s→Calls P f args W fun e w'=>∃ v,e=.returned v∧w'.ownsRow W.heap.size E 1 v l.length (l.map i64)∧Die w' b s'∧Kept (·=b) W w') :
  PW P f args H [(b,T,[.int .u64 s])] fun v ow _=>∃ T' ow',ow=(b,T',[.int .u64 s'])::ow'∧0≤s'∧OwnL E 1 v l.length (l.map i64) ow':=by
 refine ⟨can,fun W hf hg hL hd=>?_⟩
 obtain ⟨hB,hHb,_⟩:=hL 0 b T _ rfl
 refine (h W ⟨hs,T,hB⟩).mono ?_
 rintro e W' ⟨v,rfl,hrow,⟨hs',T',hdie⟩,hk⟩
 obtain ⟨ow,how,hlen,hnew⟩:=ownL_of_row hrow
 have hlt:=hB.lt
 refine ⟨_,(b,T',[.int .u64 s'])::ow,H,rfl,⟨T',ow,rfl,hs',how⟩,Hp.Le.refl _,fun k c hc=>?_,Nw.refl _ _ _,hk.mono (fun k _ e=>by subst e;exact Ows.bs_mem (j:=0) rfl),fun j b' T1 cs hj=>?_,?_⟩
 ·obtain ⟨T3,fz,hW⟩:=hf k c hc
  refine ⟨T3,fz,?_⟩
  rw [hk.block k (hf.lt (by rw [hc];simp)) (fun e=>by subst e;rw [hHb] at hc;cases hc)];exact hW
 ·cases j with
  | zero =>
   cases (show some (b,T',[Value.int .u64 s'])=some (b',T1,cs) from hj)
   exact ⟨hdie,.inr (Ows.bs_mem (j:=0) rfl),hHb⟩
  | succ j =>
   rw [List.getElem?_cons_succ] at hj
   obtain ⟨h1,h2⟩:=hnew b' T1 cs (List.mem_of_getElem? hj)
   refine ⟨h2,.inl h1,?_⟩
   cases hc:H b' with
   | none=>rfl
   | some c=>have:=hf.lt (b:=b') (by rw [hc];simp);omega
 ·match ow,hlen,hnew with
  | [],_,_ =>
   intro j j' b' T1 T2 c1 c2 h1 h2
   cases j with
   | zero=>cases j' with
    | zero=>rfl
    | succ j'=>simp at h2
   | succ j=>simp at h1
  | [p],_,hnew =>
   obtain ⟨g,Tg,cg⟩:=p
   have hg':=(hnew g Tg cg (List.mem_singleton.2 rfl)).1
   intro j j' b' T1 T2 c1 c2 h1 h2
   match j,j' with
   | 0,0=>rfl
   | 1,1=>rfl
   | 0,1=>simp at h1 h2;omega
   | 1,0=>simp at h1 h2;omega
   | j+2,_=>simp at h1
   | 0,j'+2=>simp at h2
   | 1,j'+2=>simp at h2
theorem orderL_len (n:Nat) (s:Int):(orderL n s).1.length=n:=by
 unfold orderL
 rw [orderGo_length,upTo_length]
theorem rorder_pw {H:Hp} {b n:Nat} {T:TypeId} {s:Int} (hs:0≤s) (hn:1≤n) (hn2:n≤65536) :
  PW prog 122 #[.pointer (some ⟨b,0,none⟩),.int .i64 (n:Int)] H [(b,T,[.int .u64 s])] fun v ow H'=>(∃ T',ow=[(b,T',[.int .u64 (orderL n s).2])])∧0≤(orderL n s).2∧IL H' v (orderL n s).1∧∃ a,v=.slice a (orderL n s).1.length (orderL n s).1.length :=
 PW.of_order (cO func122) hs fun W hd=>by
  have:=rorder_die b n s W hd hn hn2
  rw [orderL_len]
  exact this
theorem rdraw_pw {H:Hp} {b n k:Nat} {T:TypeId} {s:Int} (hs:0≤s) (hn:1≤n) (hn2:n≤1000000) (hk:k≤65536) :
  PW prog 74 #[.pointer (some ⟨b,0,none⟩),.int .i64 (n:Int),.int .i64 (k:Int)] H [(b,T,[.int .u64 s])] fun v ow _=>∃ T' ow',ow=(b,T',[.int .u64 (drawL n k s).2])::ow'∧0≤(drawL n k s).2∧OwnL 3 1 v (drawL n k s).1.length ((drawL n k s).1.map i64) ow' :=
 PW.of_draw (cO func74) hs fun W hd=>by
  have:=rdraw_die b n k s W hd oM oM hk
  rw [drawL_length]
  exact this
theorem rnext_pw {H:Hp} {b:Nat} {T:TypeId} {s:Int} (hs:0≤s) :
  PW prog 71 #[.pointer (some ⟨b,0,none⟩)] H [(b,T,[.int .u64 s])] fun v ow _=>v=.int .u64 (mix (nxt s))∧(∃ T',ow=[(b,T',[.int .u64 (nxt s)])])∧0≤nxt s:=by
 refine ⟨(cO func71),fun W hf hg hL hd=>?_⟩
 obtain ⟨hB,hHb,_⟩:=hL 0 b T _ rfl
 refine (rnext_die b s W ⟨hs,T,hB⟩).mono ?_
 rintro e W' ⟨rfl,⟨hs',T',hdie⟩,hk,_⟩
 refine ⟨_,[(b,T',[.int .u64 (nxt s)])],H,rfl,⟨rfl,⟨T',rfl⟩,hs'⟩,Hp.Le.refl _,fun k c hc=>?_,Nw.refl _ _ _,hk.mono (fun k _ e=>by subst e;exact Ows.bs_mem (j:=0) rfl),fun j b' T1 cs hj=>?_,?_⟩
 ·obtain ⟨T3,fz,hW⟩:=hf k c hc
  refine ⟨T3,fz,?_⟩
  rw [hk.block k (hf.lt (by rw [hc];simp)) (fun e=>by subst e;rw [hHb] at hc;cases hc)];exact hW
 ·cases j with
  | zero =>
   cases (show some (b,T',[Value.int .u64 (nxt s)])=some (b',T1,cs) from hj)
   exact ⟨hdie,.inr (Ows.bs_mem (j:=0) rfl),hHb⟩
  | succ j=>simp at hj
 ·intro j j' b' T1 T2 c1 c2 h1 h2
  cases j with
  | zero=>cases j' with
   | zero=>rfl
   | succ j'=>simp at h2
  | succ j=>simp at h1
def CutS (G:Hp) (st:Option (Int × Rat × Rat)) (cs:List Value):Prop:=match st with
 | none=>cs=rcut0
 | some (c,t,g)=>∃ x y,RQ G x t∧RQ G y g∧cs=.int .i64 c::(vlist x++vlist y)
theorem CutS.mono {G G':Hp} {st:Option (Int × Rat × Rat)} {cs:List Value} (h:CutS G st cs) (k:G.Le G'):CutS G' st cs:=by
 cases st with
 | none=>exact h
 | some p =>
  obtain ⟨x,y,h1,h2,h3⟩:=h
  exact ⟨x,y,h1.mono k,h2.mono k,h3⟩
theorem plQ_ht {X:List (List Rat)} (h:∀ x,x∈X→∀ q,q∈x→ht q≤5) {c:Int} {es:List Int} {t:Rat} (ht':t∈plQ X c es):ht t≤100:=by
 by_cases ha:es.all (hasC X c)=true
 ·obtain ⟨m,hm,hr⟩:=sorted_is (colK X c) es
  rw [← plQ_sort (.inl ⟨ha,hm,hr⟩:SortC X c es m)] at ht'
  obtain ⟨j,_,_,rfl⟩:=gapsN_mem ht'
  exact midC_ht h c m j
 ·unfold plQ at ht'
  rw [if_neg ha] at ht'
  cases ht'
theorem plQ_len (X:List (List Rat)) (c:Int) (es:List Int):(plQ X c es).length≤es.length:=by
 unfold plQ
 split
 ·have:=gapsV_len (sortQ (es.map (colK X c))) (es.length-1)
  omega
 ·exact Nat.zero_le _
theorem all_snoc {X:List (List Rat)} {cost:List Int→Rat} {es cols:List Int} {L c:Int} {i:Nat} (h:cols[i]?=some c):allCuts X cost es L (cols.take (i+1))=allCuts X cost es L (cols.take i)++cutsOf X cost es L c (plQ X c es):=by
 unfold allCuts
 rw [take_snoc h,List.flatMap_append];simp
theorem cuts_snoc {X:List (List Rat)} {cost:List Int→Rat} {es:List Int} {L c:Int} {ts:List Rat} {j:Nat} {t:Rat} (h:ts[j]?=some t):cutsOf X cost es L c (ts.take (j+1))=cutsOf X cost es L c (ts.take j)++if L≤((lowL X c t es).length:Int)∧L≤((highL X c t es).length:Int) then [(c,t,cost es-(cost (lowL X c t es)+cost (highL X c t es)))] else []:=by
 unfold cutsOf
 rw [take_snoc h,List.flatMap_append];simp
theorem ordR_gt0 (a b:Rat):ordR a b>0↔b<a:=by
 unfold ordR
 split
 ·rename_i h
  exact ⟨fun k=>absurd k (by decide),fun k=>by exfalso;grind⟩
 ·split
  ·rename_i h;exact ⟨fun _=>h,fun _=>by decide⟩
  ·rename_i h;exact ⟨fun k=>absurd k (by decide),fun k=>absurd k h⟩
theorem ordR_lt0 (a b:Rat):ordR a b<0↔a<b:=by
 unfold ordR
 split
 ·rename_i h;exact ⟨fun _=>h,fun _=>by decide⟩
 ·rename_i h
  split
  ·exact ⟨fun k=>absurd k (by decide),fun k=>absurd k h⟩
  ·exact ⟨fun k=>absurd k (by decide),fun k=>absurd k h⟩
theorem ordR_eq0 (a b:Rat):(ordR a b == 0)=decide (a=b):=by
 unfold ordR
 split
 ·rename_i h
  rw [decide_eq_false (fun e=>by subst e;exact Rat.lt_irrefl h)];rfl
 ·split
  ·rename_i h
   rw [decide_eq_false (fun e=>by subst e;exact Rat.lt_irrefl h)];rfl
  ·rename_i h1 h2
   rw [decide_eq_true (Rat.le_antisymm (Rat.not_lt.1 h2) (Rat.not_lt.1 h1))];rfl
theorem cuts_small {X:List (List Rat)} {cost:List Int→Rat} {es:List Int} {n:Nat} {L c:Int} {ts:List Rat} (hs:∀ l:List Int,l.length≤300→(∀ r,r∈l→0≤r∧r<(n:Int))→ht (cost l)≤2000000) (he:es.length≤300) (hb:∀ r,r∈es→0≤r∧r<(n:Int)) (hts:∀ t,t∈ts→ht t≤100) {p:Int × Rat × Rat} (h:p∈cutsOf X cost es L c ts):ht p.2.1≤100∧ht p.2.2≤8000000:=by
 unfold cutsOf at h
 obtain ⟨t,ht',hp⟩:=List.mem_flatMap.1 h
 split at hp
 ·obtain rfl:=List.mem_singleton.1 hp
  have h1:=hs _ (Nat.le_trans (List.length_filter_le _ _) he:(lowL X c t es).length≤300) (fun r hr=>hb r (List.mem_filter.mp hr).1)
  have h2:=hs _ (Nat.le_trans (List.length_filter_le _ _) he:(highL X c t es).length≤300) (fun r hr=>hb r (List.mem_filter.mp hr).1)
  have h3:=hs es he hb
  have h4:=ht_add (cost (lowL X c t es)) (cost (highL X c t es))
  have h5:=ht_sub (cost es) (cost (lowL X c t es)+cost (highL X c t es))
  exact ⟨hts t ht',by dsimp only;omega⟩
 ·cases hp
theorem all_small {X:List (List Rat)} {cost:List Int→Rat} {es:List Int} {n:Nat} {L:Int} {cols:List Int} (hs:∀ l:List Int,l.length≤300→(∀ r,r∈l→0≤r∧r<(n:Int))→ht (cost l)≤2000000) (he:es.length≤300) (hb:∀ r,r∈es→0≤r∧r<(n:Int)) (hq:∀ x,x∈X→∀ q,q∈x→ht q≤5) {p:Int × Rat × Rat} (h:p∈allCuts X cost es L cols):ht p.2.1≤100∧ht p.2.2≤8000000:=by
 unfold allCuts at h
 obtain ⟨c,_,hp⟩:=List.mem_flatMap.1 h
 exact cuts_small hs he hb (fun t ht'=>plQ_ht hq ht') hp
set_option maxHeartbeats 16000000 in
theorem refBest_pc {H:Hp} {kd cl:Int} {la va:Option Addr} {ln lc vn vc:Nat} {vx vr vcol:Value} {X:List (List Rat)} {rs cols:List Int} {least:Int} {cost:List Int→Rat}
  (hchk:PC prog 31 #[goalV kd cl (.slice la ln lc) (.slice va vn vc)] H fun r _=>r=.int .i64 0) (hlen:PV prog 30 #[goalV kd cl (.slice la ln lc) (.slice va vn vc)] (.int .i64 (X.length:Int)))
  (hcost:∀ G,H.Le G→∀ u l,IL G u l→l.length≤300→PC prog 155 #[goalV kd cl (.slice la ln lc) (.slice va vn vc),u] G fun r H'=>RQ H' r (cost (exL l X.length)))
  (hsmall:∀ l:List Int,l.length≤300→(∀ r,r∈l→0≤r∧r<(X.length:Int))→ht (cost l)≤2000000)
  (hX:RLL H vx X) (hq:∀ x,x∈X→∀ q,q∈x→ht q≤5) (hr:IL H vr rs) (hn:rs.length≤300) (hc:IL H vcol cols) (hcn:cols.length≤1000) :
  PC prog 123 #[goalV kd cl (.slice la ln lc) (.slice va vn vc),vx,vr,vcol,.int .i64 least] H fun r H'=>∃ cs,CutS H' ((allCuts X cost (exL rs X.length) (max 1 least) cols).foldl refS none) cs∧r=.tuple #[.agg cs.toArray,.bool ((allCuts X cost (exL rs X.length) (max 1 least) cols).foldl refS none).isSome]:=by
 have hel:=exL_len rs X.length
 have heb:=exL_mem (rs:=rs) (n:=X.length)
 have hrq:∀ x,x∈X→∀ q,q∈x→rq q:=fun x hx q hm=>Nat.le_trans (hq x hx q hm) oM
 obtain ⟨ra,rc,rfl⟩:=SlC.val hr
 obtain ⟨xa,xc,rfl⟩:=hX.val
 obtain ⟨ca,cc,rfl⟩:=SlC.val hc
 refine BD func123 ntmps123 ?_
 repeat (first | refine RUN ?_ | refine CV (hchk) ?_ | refine CV (hlen) ?_ | refine CE (hchk) ?_ | refine CE (hlen) ?_)
 rw [show ((X.length:Int) != (X.length:Int))=false from bne_self_eq_false _]
 try refine RUN ?_
 refine EVL.call rfl rfl rfl rfl rfl (hcost _ (Hp.Le.refl _) _ _ hr hn) ?_
 intro rall G1 hall hG1
 obtain ⟨wa,wl,wc,za,zl,zc,rfl,hw1,hw2⟩:=id hall
 have hsa:=hsmall (exL rs X.length) oM heb
 try refine RUN ?_
 refine EV.loopK (ι:=Nat × List Value) [1,2,3,4,5,10,12,14] [5,10,14] (fun q=>[(13,.v (.bool ((allCuts X cost (exL rs X.length) (max 1 least) (cols.take q.1)).foldl refS none).isSome)),(15,.v (.int .i64 (q.1:Int)))]) (fun q=>[(12,202,q.2)]) (fun _=>[]) (fun q G=>q.1≤cols.length∧CutS G ((allCuts X cost (exL rs X.length) (max 1 least) (cols.take q.1)).foldl refS none) q.2) (fun q=>cols.length-q.1) ((0,rcut0)) rfl rfl ⟨rfl,rfl,trivial⟩ ⟨rfl,trivial⟩ rfl (fun _=>rfl) (⟨Nat.zero_le _,rfl⟩) ?_
 rintro ⟨i,cs⟩ G2 hG2 ⟨hi,hcs⟩
 dsimp only at hi hcs
 try refine RUN ?_
 refine EV.cond rfl (fun hlt=>?_) (fun hlt=>?_)
 ·simp only [nN] at hlt
  obtain ⟨c,hci⟩:∃ c,cols[i]?=some c:=⟨_,List.getElem?_eq_getElem hlt⟩
  have hH2:=hG1.trans hG2
  have hsn:=all_snoc (X:=X) (cost:=cost) (es:=exL rs X.length) (L:=max 1 least) hci
  have hplh:∀ t,t∈plQ X c (exL rs X.length)→ht t≤100:=fun t hm=>plQ_ht hq hm
  try refine RUN ?_
  refine EVL.idxR tO rfl rfl rfl rfl rfl rfl rfl rfl rfl rfl ((hc.mono hH2)) (i) (rfl) (hlt) ((by rw [List.getElem?_map,hci];rfl)) ?_
  try refine RUN ?_
  refine EVL.call rfl rfl rfl rfl rfl (refPlaces_pc (col:=c) (hX.mono hH2) (hr.mono hH2) hn hq) ?_
  intro rp G3 hP hG3
  have hpll:(plQ X c (exL rs X.length)).length≤300:=by have:=plQ_len X c (exL rs X.length);omega
  generalize plQ X c (exL rs X.length)=P at *
  obtain ⟨pa,pc,rfl⟩:=hP.val
  try refine RUN ?_
  refine EV.loopK (ι:=Nat × List Value) [1,2,3,4,5,10,12,14,15,16] [5,10,14] (fun q=>[(13,.v (.bool ((allCuts X cost (exL rs X.length) (max 1 least) (cols.take i)++cutsOf X cost (exL rs X.length) (max 1 least) c (P.take q.1)).foldl refS none).isSome)),(17,.v (.int .i64 (q.1:Int)))]) (fun q=>[(12,202,q.2)]) (fun _=>[]) (fun q G=>q.1≤P.length∧CutS G ((allCuts X cost (exL rs X.length) (max 1 least) (cols.take i)++cutsOf X cost (exL rs X.length) (max 1 least) c (P.take q.1)).foldl refS none) q.2) (fun q=>P.length-q.1) ((0,cs)) rfl rfl ⟨by rw [show cutsOf X cost (exL rs X.length) (max 1 least) c (P.take 0)=[] from rfl,List.append_nil];rfl,rfl,trivial⟩ ⟨rfl,trivial⟩ rfl (fun _=>rfl) (⟨Nat.zero_le _,by rw [show cutsOf X cost (exL rs X.length) (max 1 least) c (P.take 0)=[] from rfl,List.append_nil];exact hcs.mono hG3⟩) ?_
  rintro ⟨j,cs2⟩ G4 hG4 ⟨hj,hcs2⟩
  dsimp only at hj hcs2
  try refine RUN ?_
  refine EV.cond rfl (fun hlj=>?_) (fun hlj=>?_)
  ·simp only [nN] at hlj
   obtain ⟨t,htj⟩:∃ t,P[j]?=some t:=⟨_,List.getElem?_eq_getElem hlj⟩
   have hth:=hplh t (List.mem_of_getElem? htj)
   have hsn2:=cuts_snoc (X:=X) (cost:=cost) (es:=exL rs X.length) (L:=max 1 least) (c:=c) htj
   have hP4:=hP.mono hG4
   have hH4:=hH2.trans (hG3.trans hG4)
   have hc4:=hc.mono hH4
   obtain ⟨vs,y,hs,hcy,hy⟩:=hP4.at htj
   obtain ⟨ya,yl,yc,yb,ym,yd,rfl,hy1,hy2⟩:=id hy
   have wn:IntKind.i64.wrap ((j:Int)+1)=((j+1:Nat):Int):=wi_inc j oM
   try refine RUN ?_
   apply EV.drawn 15 kR kR;intro xv yw
   (repeat (first | refine' DV ?_ | refine' DA ?_ | refine' DK0 ?_ | refine' DT ?_ | refine' DS ?_))
   refine' DJ.ofVal (ValOk.idx1 tO rfl rfl rfl rfl rfl rfl rfl rfl (hc4) (i) (rfl) (hlt) ((by rw [List.getElem?_map,hci];rfl))) rfl rfl rfl ?_;rotate_left
   (repeat (first | refine' DV ?_ | refine' DA ?_ | refine' DK0 ?_ | refine' DT ?_ | refine' DS ?_))
   refine' DJ.idxM tO rfl rfl rfl rfl rfl rfl rfl rfl rfl (hs) (j) (rfl) (hlj) (hcy) ?_;rotate_left
   (repeat (first | refine' DV ?_ | refine' DA ?_ | refine' DK0 ?_ | refine' DT ?_ | refine' DS ?_))
   refine' DJ.call rfl rfl rfl rfl rfl (cO func125) (fun G hG hd=>refSides_pc (col:=c) (t:=t) ((hX.mono hH4).mono hG) ((hr.mono hH4).mono hG) oM hrq (RQ.mono hy hG) (Nat.le_trans hth oM)) (fun _ _ _ h k=>(by obtain ⟨u,w,e,hu,hw⟩:=h;exact ⟨u,w,e,hu.mono k,hw.mono k⟩)) ?_;rotate_left
   refine' DJ.copy (10) (by first | exact .inl rfl | exact .inr rfl) rfl rfl rfl id rfl kR ?_;rotate_left
   refine' DJ.extract (10) rfl rfl rfl rfl rfl kR (fun G hd=>(by obtain ⟨u,w,e,_⟩:=hd.head kR;exact ⟨_,e,Nat.zero_lt_succ _⟩)) ?_;rotate_left
   refine' DJ.extract (10) rfl rfl rfl rfl rfl kR (fun G hd=>(by obtain ⟨u,w,e,_⟩:=hd.head kR;exact ⟨_,e,Nat.lt_succ_self _⟩)) ?_;rotate_left
   refine' DJ.copy (10) (.inr rfl) rfl rfl rfl (tupAt 0) rfl kR ?_;rotate_left
   (refine DJ.nil (fun G hG hF=>?_);(case hS|hS2=>rfl))
   obtain ⟨⟨u,w,e,hu,hw⟩,_⟩:=hF
   rw [e]
   obtain ⟨ua,uc,rfl⟩:=SlC.val hu
   obtain ⟨wa',wc',rfl⟩:=SlC.val hw
   rw [show tupAt 0 (Value.tuple #[.slice ua (lowL X c t (exL rs X.length)).length uc,.slice wa' (highL X c t (exL rs X.length)).length wc'])=.slice ua (lowL X c t (exL rs X.length)).length uc from rfl,show tupAt 1 (Value.tuple #[.slice ua (lowL X c t (exL rs X.length)).length uc,.slice wa' (highL X c t (exL rs X.length)).length wc'])=.slice wa' (highL X c t (exL rs X.length)).length wc' from rfl]
   try refine RUN ?_
   rw [show (if least>1 then least else 1)=max 1 least by omega]
   have hlo3:(lowL X c t (exL rs X.length)).length≤300:=Nat.le_trans (List.length_filter_le _ _) oM
   have hhi3:(highL X c t (exL rs X.length)).length≤300:=Nat.le_trans (List.length_filter_le _ _) oM
   have hlom:∀ r,r∈lowL X c t (exL rs X.length)→0≤r∧r<(X.length:Int):=fun r hr=>heb r (List.mem_filter.mp hr).1
   have hhim:∀ r,r∈highL X c t (exL rs X.length)→0≤r∧r<(X.length:Int):=fun r hr=>heb r (List.mem_filter.mp hr).1
   have hxl:exL (lowL X c t (exL rs X.length)) X.length=lowL X c t (exL rs X.length):=exL_all hlom
   have hxh:exL (highL X c t (exL rs X.length)) X.length=highL X c t (exL rs X.length):=exL_all hhim
   generalize hlodef:lowL X c t (exL rs X.length)=lo at *
   generalize hhidef:highL X c t (exL rs X.length)=hi' at *
   generalize hLdef:max 1 least=L at *
   by_cases hclo:(lo.length:Int)<L
   ·rw [decide_eq_true hclo]
    rw [if_neg oM,List.append_nil] at hsn2
    try refine RUN ?_
    refine ⟨(j+1,cs2),⟨by dsimp only;rw [hsn2];rfl,by dsimp only;rw [wn];rfl,trivial⟩,sB,⟨rfl,trivial⟩,sB,rfl,⟨hlj,by rw [hsn2];exact hcs2.mono hG⟩,hG,by dsimp only;omega⟩
   rw [decide_eq_false hclo]
   try refine RUN ?_
   rw [show (if least>1 then least else 1)=L by omega]
   by_cases hchi:(hi'.length:Int)<L
   ·rw [decide_eq_true hchi]
    rw [if_neg oM,List.append_nil] at hsn2
    try refine RUN ?_
    refine ⟨(j+1,cs2),⟨by dsimp only;rw [hsn2];rfl,by dsimp only;rw [wn];rfl,trivial⟩,sB,⟨rfl,trivial⟩,sB,rfl,⟨hlj,by rw [hsn2];exact hcs2.mono hG⟩,hG,by dsimp only;omega⟩
   rw [decide_eq_false hchi]
   rw [if_pos ⟨by omega,by omega⟩] at hsn2
   have hH5:=hH4.trans hG
   have hc5:=hc.mono hH5
   have hs5:=hs.mono hG
   have hy5:=RQ.mono hy hG
   have hal5:=RQ.mono hall (hG2.trans (hG3.trans (hG4.trans hG)))
   have hslo:=hsmall lo hlo3 hlom
   have hshi:=hsmall hi' hhi3 hhim
   have hclo5:∀ G',G.Le G'→PC prog 155 #[goalV kd cl (.slice la ln lc) (.slice va vn vc),.slice ua lo.length uc] G' fun r H'=>RQ H' r (cost lo):=fun G' k=>by have:=hcost G' (hH5.trans k) _ _ (hu.mono k) hlo3;rwa [hxl] at this
   have hchi5:∀ G',G.Le G'→PC prog 155 #[goalV kd cl (.slice la ln lc) (.slice va vn vc),.slice wa' hi'.length wc'] G' fun r H'=>RQ H' r (cost hi'):=fun G' k=>by have:=hcost G' (hH5.trans k) _ _ (hw.mono k) hhi3;rwa [hxh] at this
   have hsum:rq (cost lo+cost hi'):=by have:=ht_add (cost lo) (cost hi');unfold rq;omega
   have hgr:rq (cost (exL rs X.length)-(cost lo+cost hi')):=by have h1:=ht_add (cost lo) (cost hi');have h2:=ht_sub (cost (exL rs X.length)) (cost lo+cost hi');unfold rq;omega
   try refine RUN ?_
   apply EV.drawn 19 kR kR;intro xv yw
   (repeat (first | refine' DV ?_ | refine' DA ?_ | refine' DK0 ?_ | refine' DT ?_ | refine' DS ?_))
   refine' DJ.ofVal (ValOk.idx1 tO rfl rfl rfl rfl rfl rfl rfl rfl (hc5) (i) (rfl) (hlt) ((by rw [List.getElem?_map,hci];rfl))) rfl rfl rfl ?_;rotate_left
   (repeat (first | refine' DV ?_ | refine' DA ?_ | refine' DK0 ?_ | refine' DT ?_ | refine' DS ?_))
   refine' DJ.idxM tO rfl rfl rfl rfl rfl rfl rfl rfl rfl (hs5) (j) (rfl) (hlj) (hcy) ?_;rotate_left
   (repeat (first | refine' DV ?_ | refine' DA ?_ | refine' DK0 ?_ | refine' DT ?_ | refine' DS ?_))
   refine' DJ.call rfl rfl rfl rfl rfl (cO func155) (fun G hG hd=>hclo5 G hG) (fun _ _ _ h k=>RQ.mono h k) ?_;rotate_left
   (repeat (first | refine' DV ?_ | refine' DA ?_ | refine' DK0 ?_ | refine' DT ?_ | refine' DS ?_))
   refine' DJ.call rfl rfl rfl rfl rfl (cO func155) (fun G hG hd=>hchi5 G hG) (fun _ _ _ h k=>RQ.mono h k) ?_;rotate_left
   (repeat (first | refine' DV ?_ | refine' DA ?_ | refine' DK0 ?_ | refine' DT ?_ | refine' DS ?_))
   refine' DJ.call rfl rfl rfl rfl rfl (cO func60) (fun G hG hd=>refAdd_pc (hd.tail.head kR) (hd.head kR) (by unfold rq;omega) (by unfold rq;omega)) (fun _ _ _ h k=>RQ.mono h k) ?_;rotate_left
   (repeat (first | refine' DV ?_ | refine' DA ?_ | refine' DK0 ?_ | refine' DT ?_ | refine' DS ?_))
   refine' DJ.call rfl rfl rfl rfl rfl (cO func59) (fun G hG hd=>refSub_pc (hal5.mono hG) (hd.head kR) (by unfold rq;omega) hsum) (fun _ _ _ h k=>RQ.mono h k) ?_;rotate_left
   refine' DJ.fnP tO (16) (fun v=>Value.agg (Value.int IntKind.i64 c::(([Value.bool (decide (t.num<0)),Value.slice ya yl yc,Value.slice yb ym yd]:List Value)++vlist v)).toArray) rfl rfl rfl kR (fun G hd=>(by obtain ⟨sa,sl,sc,ta,tl,tc,e,_⟩:=(show RQ G (xv 16) (cost (exL rs X.length)-(cost lo+cost hi')) from hd.head kR);rw [show xv (0+1+1+1+1+1+1+1+1+1+1+1+1+1+1+1+1)=xv 16 from rfl,e];rfl)) ?_
   rotate_left
   (repeat (first | refine' DV ?_ | refine' DA ?_ | refine' DK0 ?_ | refine' DT ?_ | refine' DS ?_))
   (refine DJ.nil (fun G7 hG7 hF7=>?_);(case hS|hS2=>rfl))
   obtain ⟨h16,_⟩:=hF7
   have hg16:RQ G7 (xv 16) (cost (exL rs X.length)-(cost lo+cost hi')):=h16
   obtain ⟨sa,sl,sc,ta,tl,tc,e16,_⟩:=id hg16
   have e16':xv (0+1+1+1+1+1+1+1+1+1+1+1+1+1+1+1+1)=_:=e16
   rw [e16']
   rw [e16] at hg16
   rw [show (Value.agg (Value.int .i64 c::(([Value.bool (decide (t.num<0)),Value.slice ya yl yc,Value.slice yb ym yd]:List Value)++vlist (.agg #[.bool (decide ((cost (exL rs X.length)-(cost lo+cost hi')).num<0)),.slice sa sl sc,.slice ta tl tc]))).toArray)=.agg #[.int .i64 c,.bool (decide (t.num<0)),.slice ya yl yc,.slice yb ym yd,.bool (decide ((cost (exL rs X.length)-(cost lo+cost hi')).num<0)),.slice sa sl sc,.slice ta tl tc] from rfl]
   try refine RUN ?_
   have hst:CutS G7 (List.foldl refS none (allCuts X cost (exL rs X.length) L (cols.take i)++cutsOf X cost (exL rs X.length) L c (P.take j))) cs2:=hcs2.mono (hG.trans hG7)
   have hnew:List.foldl refS none (allCuts X cost (exL rs X.length) L (cols.take i)++cutsOf X cost (exL rs X.length) L c (P.take (j+1)))=refS (List.foldl refS none (allCuts X cost (exL rs X.length) L (cols.take i)++cutsOf X cost (exL rs X.length) L c (P.take j))) (c,t,cost (exL rs X.length)-(cost lo+cost hi')):=by rw [hsn2,← List.append_assoc,List.foldl_append];rfl
   have hstp:∀ p,List.foldl refS none (allCuts X cost (exL rs X.length) L (cols.take i)++cutsOf X cost (exL rs X.length) L c (P.take j))=some p→ht p.2.1≤100∧ht p.2.2≤8000000:=fun p e=>by
    have hf:=first_fold (allCuts X cost (exL rs X.length) L (cols.take i)++cutsOf X cost (exL rs X.length) L c (P.take j))
    rw [e] at hf
    rcases List.mem_append.1 hf.1 with hm | hm
    ·exact all_small hsmall oM heb hq hm
    ·exact cuts_small hsmall oM heb (fun t hm=>hplh t (List.mem_of_mem_take hm)) hm
   generalize List.foldl refS none (allCuts X cost (exL rs X.length) L (cols.take i)++cutsOf X cost (exL rs X.length) L c (P.take j))=st at *
   cases st with
   | none =>
    have hcs':cs2=rcut0:=hst
    subst hcs'
    apply EV.drawn 4 kR kR;intro xv yw
    (repeat (first | refine' DV ?_ | refine' DA ?_ | refine' DK0 ?_ | refine' DT ?_ | refine' DS ?_))
    refine' DJ.call rfl rfl rfl rfl rfl (cO func159) (fun G hG hd=>gain0_none) (fun _ _ _ h k=>RQ.mono h k) ?_;rotate_left
    (repeat (first | refine' DV ?_ | refine' DA ?_ | refine' DK0 ?_ | refine' DT ?_ | refine' DS ?_))
    (refine DJ.nil (fun G8 hG8 hF8=>?_);(case hS|hS2=>rfl))
    obtain ⟨h3,_⟩:=hF8
    try refine RUN ?_
    refine EVL.call rfl rfl rfl rfl rfl (refCmp_pc (RQ.mono hg16 hG8) h3 hgr (by unfold rq;rw [ht_zero];decide)) ?_
    rintro _ G9 rfl hG9
    try refine RUN ?_
    refine ⟨(j+1,[.int .i64 c,.bool (decide (t.num<0)),.slice ya yl yc,.slice yb ym yd,.bool (decide ((cost (exL rs X.length)-(cost lo+cost hi')).num<0)),.slice sa sl sc,.slice ta tl tc]),⟨by dsimp only;rw [hnew];rfl,by dsimp only;rw [wn];rfl,trivial⟩,sB,⟨rfl,trivial⟩,sB,rfl,⟨hlj,by rw [hnew];exact ⟨_,_,RQ.mono hy5 (hG7.trans (hG8.trans hG9)),RQ.mono hg16 (hG8.trans hG9),rfl⟩⟩,hG.trans (hG7.trans (hG8.trans hG9)),by dsimp only;omega⟩
   | some p =>
    obtain ⟨c1,t1,g1⟩:=p
    obtain ⟨hts,hgs⟩:=hstp _ rfl
    dsimp only at hts hgs
    obtain ⟨x1,y1,hx1',hy1',rfl⟩:=hst
    obtain ⟨pa1,pl1,pc1,pb1,pm1,pd1,rfl,hp1,hp2⟩:=id hx1'
    obtain ⟨qa1,ql1,qc1,qb1,qm1,qd1,rfl,hp3,hp4⟩:=id hy1'
    apply EV.drawn 4 kR kR;intro xv yw
    (repeat (first | refine' DV ?_ | refine' DA ?_ | refine' DK0 ?_ | refine' DT ?_ | refine' DS ?_))
    refine' DJ.call rfl rfl rfl rfl rfl (cO func159) (fun G hG hd=>gain0_some (hy1'.mono hG)) (fun _ _ _ h k=>RQ.mono h k) ?_;rotate_left
    (repeat (first | refine' DV ?_ | refine' DA ?_ | refine' DK0 ?_ | refine' DT ?_ | refine' DS ?_))
    (refine DJ.nil (fun G8 hG8 hF8=>?_);(case hS|hS2=>rfl))
    obtain ⟨h3,_⟩:=hF8
    try refine RUN ?_
    refine EVL.call rfl rfl rfl rfl rfl (refCmp_pc (RQ.mono hg16 hG8) h3 hgr (by unfold rq;omega)) ?_
    rintro _ G9 rfl hG9
    have hpx:=RQ.mono hx1' (hG8.trans hG9)
    have hpt:=RQ.mono hy5 (hG7.trans (hG8.trans hG9))
    generalize hgdef:cost (exL rs X.length)-(cost lo+cost hi')=g at *
    have hT:preC (c,t,g) (c1,t1,g1)→refS (some (c1,t1,g1)) (c,t,g)=some (c,t,g):=fun k=>if_pos k
    have hK:¬ preC (c,t,g) (c1,t1,g1)→refS (some (c1,t1,g1)) (c,t,g)=some (c1,t1,g1):=fun k=>if_neg k
    try refine RUN ?_
    by_cases hgt:g1<g
    ·rw [decide_eq_true ((ordR_gt0 g g1).2 hgt)]
     rw [hT (.inl hgt)] at hnew
     try refine RUN ?_
     refine ⟨(j+1,[.int .i64 c,.bool (decide (t.num<0)),.slice ya yl yc,.slice yb ym yd,.bool (decide (g.num<0)),.slice sa sl sc,.slice ta tl tc]),⟨by dsimp only;rw [hnew];rfl,by dsimp only;rw [wn];rfl,trivial⟩,sB,⟨rfl,trivial⟩,sB,rfl,⟨hlj,by rw [hnew];exact ⟨_,_,hpt.mono (Hp.Le.refl _),(RQ.mono hg16 (hG8.trans hG9)).mono (Hp.Le.refl _),rfl⟩⟩,(hG.trans (hG7.trans (hG8.trans hG9))).trans (Hp.Le.refl _),by dsimp only;omega⟩
    rw [decide_eq_false (fun k=>hgt ((ordR_gt0 g g1).1 k))]
    try refine RUN ?_
    rw [ordR_eq0]
    by_cases heq:g=g1
    ·rw [decide_eq_true heq]
     try refine RUN ?_
     by_cases hc1:c<c1
     ·rw [decide_eq_true hc1]
      rw [hT (.inr ⟨heq,.inl hc1⟩)] at hnew
      try refine RUN ?_
      refine ⟨(j+1,[.int .i64 c,.bool (decide (t.num<0)),.slice ya yl yc,.slice yb ym yd,.bool (decide (g.num<0)),.slice sa sl sc,.slice ta tl tc]),⟨by dsimp only;rw [hnew];rfl,by dsimp only;rw [wn];rfl,trivial⟩,sB,⟨rfl,trivial⟩,sB,rfl,⟨hlj,by rw [hnew];exact ⟨_,_,hpt.mono (Hp.Le.refl _),(RQ.mono hg16 (hG8.trans hG9)).mono (Hp.Le.refl _),rfl⟩⟩,(hG.trans (hG7.trans (hG8.trans hG9))).trans (Hp.Le.refl _),by dsimp only;omega⟩
     rw [decide_eq_false hc1]
     try refine RUN ?_
     by_cases hc2:c=c1
     ·rw [show (c == c1)=true from beq_iff_eq.2 hc2]
      try refine RUN ?_
      refine EVL.call rfl rfl rfl rfl rfl (refCmp_pc hpt hpx (by unfold rq;omega) (by unfold rq;omega)) ?_
      rintro _ G10 rfl hG10
      try refine RUN ?_
      by_cases htt:t<t1
      ·rw [decide_eq_true ((ordR_lt0 t t1).2 htt)]
       rw [hT (.inr ⟨heq,.inr ⟨hc2,htt⟩⟩)] at hnew
       try refine RUN ?_
       refine ⟨(j+1,[.int .i64 c,.bool (decide (t.num<0)),.slice ya yl yc,.slice yb ym yd,.bool (decide (g.num<0)),.slice sa sl sc,.slice ta tl tc]),⟨by dsimp only;rw [hnew];rfl,by dsimp only;rw [wn];rfl,trivial⟩,sB,⟨rfl,trivial⟩,sB,rfl,⟨hlj,by rw [hnew];exact ⟨_,_,hpt.mono hG10,(RQ.mono hg16 (hG8.trans hG9)).mono hG10,rfl⟩⟩,(hG.trans (hG7.trans (hG8.trans hG9))).trans hG10,by dsimp only;omega⟩
      rw [decide_eq_false (fun k=>htt ((ordR_lt0 t t1).1 k))]
      rw [hK (fun k=>by rcases k with k | ⟨_,k | ⟨_,k⟩⟩ <;> contradiction)] at hnew
      try refine RUN ?_
      refine ⟨(j+1,[.int .i64 c1,.bool (decide (t1.num<0)),.slice pa1 pl1 pc1,.slice pb1 pm1 pd1,.bool (decide (g1.num<0)),.slice qa1 ql1 qc1,.slice qb1 qm1 qd1]),⟨by dsimp only;rw [hnew];rfl,by dsimp only;rw [wn];rfl,trivial⟩,sB,⟨rfl,trivial⟩,sB,rfl,⟨hlj,by rw [hnew];exact ⟨_,_,hpx.mono hG10,(RQ.mono hy1' (hG8.trans hG9)).mono hG10,rfl⟩⟩,(hG.trans (hG7.trans (hG8.trans hG9))).trans hG10,by dsimp only;omega⟩
     rw [show (c == c1)=false from beq_eq_false_iff_ne.2 hc2]
     rw [hK (fun k=>by rcases k with k | ⟨_,k | ⟨k,_⟩⟩ <;> contradiction)] at hnew
     try refine RUN ?_
     refine ⟨(j+1,[.int .i64 c1,.bool (decide (t1.num<0)),.slice pa1 pl1 pc1,.slice pb1 pm1 pd1,.bool (decide (g1.num<0)),.slice qa1 ql1 qc1,.slice qb1 qm1 qd1]),⟨by dsimp only;rw [hnew];rfl,by dsimp only;rw [wn];rfl,trivial⟩,sB,⟨rfl,trivial⟩,sB,rfl,⟨hlj,by rw [hnew];exact ⟨_,_,hpx.mono (Hp.Le.refl _),(RQ.mono hy1' (hG8.trans hG9)).mono (Hp.Le.refl _),rfl⟩⟩,(hG.trans (hG7.trans (hG8.trans hG9))).trans (Hp.Le.refl _),by dsimp only;omega⟩
    rw [decide_eq_false heq]
    rw [hK (fun k=>by rcases k with k | ⟨k,_⟩ <;> contradiction)] at hnew
    try refine RUN ?_
    refine ⟨(j+1,[.int .i64 c1,.bool (decide (t1.num<0)),.slice pa1 pl1 pc1,.slice pb1 pm1 pd1,.bool (decide (g1.num<0)),.slice qa1 ql1 qc1,.slice qb1 qm1 qd1]),⟨by dsimp only;rw [hnew];rfl,by dsimp only;rw [wn];rfl,trivial⟩,sB,⟨rfl,trivial⟩,sB,rfl,⟨hlj,by rw [hnew];exact ⟨_,_,hpx.mono (Hp.Le.refl _),(RQ.mono hy1' (hG8.trans hG9)).mono (Hp.Le.refl _),rfl⟩⟩,(hG.trans (hG7.trans (hG8.trans hG9))).trans (Hp.Le.refl _),by dsimp only;omega⟩
  ·simp only [nN] at hlj
   obtain rfl:j=P.length:=by omega
   rw [List.take_length,← hsn] at hcs2 ⊢
   try refine RUN ?_
   refine ⟨(i+1,cs2),⟨rfl,by rw [wi_inc i (by omega)];rfl,trivial⟩,sB,⟨rfl,trivial⟩,sB,rfl,⟨hlt,hcs2⟩,hG3.trans hG4,by dsimp only;omega⟩
 ·simp only [nN] at hlt
  obtain rfl:i=cols.length:=by omega
  rw [List.take_length] at hcs ⊢
  generalize (allCuts X cost (exL rs X.length) (max 1 least) cols).foldl refS none=st at *
  cases st with
  | none =>
   have hcs':cs=rcut0:=hcs
   subst hcs'
   try refine RUN ?_
   exact ⟨rcut0,rfl,rfl⟩
  | some p =>
   obtain ⟨c,t,g⟩:=p
   obtain ⟨x,y,h1,h2,rfl⟩:=hcs
   obtain ⟨xa,xl,xc,ya,yl,yc,rfl,hx1,hx2⟩:=id h1
   obtain ⟨xa',xl',xc',ya',yl',yc',rfl,hx3,hx4⟩:=id h2
   try refine RUN ?_
   exact ⟨_,⟨_,_,h1,h2,rfl⟩,rfl⟩
section
variable {P:Program} {ops:Array Oper} {md:Region.Mode} {Q:Exit→Act→World→Prop} {I:World→Prop} {z:Option Nat}
def yetB (md:Region.Mode) (ops:Array Oper) (L:Array Bool) (i:Nat):Bool:=(List.range ops.size).all fun k => !L.getD k false || match ops[k]? with
 | some o => !o.after.any fun e=>Region.binds md e && e.on == i
 | none=>true
theorem yetB_iff {L:Array Bool} {i:Nat}:yetB md ops L i=true↔∀ k o,ops[k]?=some o→L.getD k false=true→∀ e∈o.after,Region.binds md e=true→e.on≠i:=by
 unfold yetB
 rw [List.all_eq_true]
 constructor
 ·intro h k o ho hk e he hb heq
  have h1:=h k (List.mem_range.2 (Array.getElem?_eq_some_iff.1 ho).1)
  rw [hk,ho] at h1
  simp only [Bool.not_true,Bool.false_or,Bool.not_eq_true',Array.any_eq_false'] at h1
  have:=h1 e he
  simp [hb,heq] at this
 ·intro h k hk
  cases hL:L.getD k false with
  | false=>rfl
  | true =>
   obtain ⟨o,ho⟩:∃ o,ops[k]?=some o:=⟨_,Array.getElem?_eq_getElem (List.mem_range.1 hk)⟩
   rw [ho]
   simp only [Bool.not_true,Bool.false_or,Bool.not_eq_true',Array.any_eq_false']
   intro e he
   cases hb:Region.binds md e with
   | false=>simp
   | true=>have:=h k o ho hL e he hb;simpa using this
def needB (z:Option Nat) (L:Array Bool):Bool:=match z with
 | none=>true
 | some k => !L.getD k false
def zokB (md:Region.Mode) (ops:Array Oper) (z:Option Nat) (i:Nat):Bool:=match z with
 | none=>true
 | some k => !(k == i) && match ops[k]? with
  | some o=>o.after.any fun e=>Region.binds md e && e.on == i
  | none=>false
def wpAnyI (P:Program) (md:Region.Mode) (ops:Array Oper) (Q:Exit→Act→World→Prop) (I:World→Prop) (z:Option Nat):Nat→Array Bool→Act→World→Prop
 | 0,L,a,w=>(needB z L=true→I w)∧Region.ready md ops L=[]∧Q .normal a w
 | f+1,L,a,w=>(needB z L=true→I w)∧(Region.ready md ops L=[]→Q .normal a w)∧∀ i,i∈Region.ready md ops L→wpOp P ops Q i (wpAnyI P md ops Q I z f (L.setIfInBounds i true)) a w
theorem wpAnyI.now:∀ {f:Nat} {L:Array Bool} {a:Act} {w:World},wpAnyI P md ops Q I z f L a w→needB z L=true→I w
 | 0,_,_,_,h=>h.1
 | _+1,_,_,_,h=>h.1
theorem wpAnyI.any:∀ (f:Nat) (L:Array Bool) (a:Act) (w:World),wpAnyI P md ops Q I z f L a w→wpAny P md ops Q f L a w
 | 0,_,_,_,h=>h.2
 | f+1,_,_,_,h=>⟨h.2.1,fun i hi=>wpOp_mono (fun a w k=>wpAnyI.any f _ a w k) (h.2.2 i hi)⟩
def YieldsI (P:Program) (ops:Array Oper) (I:World→Prop) (o:Oper) (v:Value) (a:Act):Prop :=
 Region.wanted o (yielded ops a.tmps)=true∧∀ w,I w→(execOp a.eval o).run P w=.ok (.value v) w
theorem YieldsI.op {i:Nat} {o:Oper} {v:Value} {a:Act} (hi:ops[i]?=some o) (hy:YieldsI P ops I o v a) {K:Act→World→Prop} {w:World} (hw:I w) (h:K (a.put o.dst v) w):wpOp P ops Q i K a w:=by
 unfold wpOp
 simp only [hi,hy.1,if_true,Oper.wp,hy.2 w hw,Oper.upon]
 exact .inl h
theorem wpOp_keep {j:Nat} {oj:Oper} (hj:ops[j]?=some oj) {Y:Act→Prop} (k1:∀ a u,Y a→Y (a.put oj.dst u)) (k2:∀ (a:Act) d,Y a→Y { a with defers:=d::a.defers }) {K:Act→World→Prop} {a:Act} {w:World} (hy:Y a) (h:wpOp P ops Q j K a w):wpOp P ops Q j (fun a' w'=>Y a'∧K a' w') a w:=by
 unfold wpOp at *
 simp only [hj] at *
 split
 ·rename_i hw
  rw [if_pos hw] at h
  refine h.imp (fun h=>?_) id
  unfold Oper.wp at *
  generalize (execOp a.eval oj).run P w=r at *
  cases r with
  | ok n w' =>
   cases n <;> simp only [Oper.upon] at h ⊢
   case value u=>exact ⟨k1 _ _ hy,h⟩
   case skip=>exact ⟨k1 _ _ hy,h⟩
   case defer d=>exact ⟨k1 _ _ (k2 _ _ hy),h⟩
   case enter f args =>
    refine Calls.mono h fun e w'' he=>?_
    cases e with
    | returned u=>exact ⟨k1 _ _ hy,he⟩
    | _=>exact he
   case row row args=>exact Rows.mono h fun u w'' he=>⟨k1 _ _ hy,he⟩
  | halt x w'=>cases x <;> simp only [Oper.upon] at h ⊢ <;> exact h
 ·rename_i hw
  rw [if_neg hw] at h
  exact ⟨k1 _ _ hy,h⟩
theorem fake_apart {oi oj:Oper} {v:Value} (h:oi.apart ops oj=true):Oper.apart ops { oi with op:=.move (.const v),guard:=none } oj=true:=by
 unfold Oper.apart at *
 rw [Bool.and_eq_true] at *
 refine ⟨h.1,?_⟩
 cases oj.dst with
 | none=>rfl
 | some d=>rfl
theorem wpAnyI_take {J:World→Prop} {i:Nat} {oi:Oper} {v:Value} (hi:ops[i]?=some oi) (hsel:Region.noSelect ops=true) (hQ:∀ c a w,Q (.panic c) (a.put oi.dst v) w→Q (.panic c) a w) (hts:(zokB md ops z i=true∧∀ w,I w→J w)∨((∀ w,J w)∧z≠some i)) :
  ∀ (f:Nat) (L:Array Bool) (a:Act) (w:World),(∀ j oj,ops[j]?=some oj→j≠i→L.getD j true=false→(∀ e∈oj.after,Region.binds md e=true→e.on≠i)→oi.apart ops oj=true)→yetB md ops L i=true →
   i∈Region.ready md ops L→YieldsI P ops J oi v a→wpAnyI P md ops Q I z f (L.setIfInBounds i true) (a.put oi.dst v) w→wpAnyI P md ops Q I z (f+1) L a w:=by
 have now:∀ {f:Nat} {L:Array Bool} {a:Act} {w:World},yetB md ops L i=true→wpAnyI P md ops Q I z f (L.setIfInBounds i true) (a.put oi.dst v) w→(needB z L=true→I w)∧J w:=fun {f L a w} hy H=>by
  rcases hts with ⟨hz,hJ⟩ | ⟨hJ,hz⟩
  ·have hI:I w:=H.now (by
    cases z with
    | none=>rfl
    | some k =>
     simp only [zokB,Bool.and_eq_true,Bool.not_eq_true',beq_eq_false_iff_ne] at hz
     obtain ⟨hki,hk⟩:=hz
     show (!(L.setIfInBounds i true).getD k false)=true
     rw [Go.getD_set_ne false (Ne.symm hki)]
     cases hL:L.getD k false with
     | false=>rfl
     | true =>
      cases ho:ops[k]? with
      | none=>rw [ho] at hk;cases hk
      | some o =>
       rw [ho] at hk
       obtain ⟨e,he,hb⟩:=Array.any_eq_true'.1 hk
       simp only [Bool.and_eq_true,beq_iff_eq] at hb
       exact absurd hb.2 (yetB_iff.1 hy k o ho hL e he hb.1))
   exact ⟨fun _=>hI,hJ _ hI⟩
  ·refine ⟨fun h=>H.now ?_,hJ w⟩
   cases z with
   | none=>rfl
   | some k =>
    have hki:i≠k:=fun e=>hz (by rw [e])
    show (!(L.setIfInBounds i true).getD k false)=true
    rw [Go.getD_set_ne false hki]
    exact h
 intro f
 induction f with
 | zero =>
  intro L a w _ hy hr hY H
  refine ⟨(now hy H).1,fun h=>(by rw [h] at hr;cases hr),fun j hj=>?_⟩
  by_cases hji:j=i
  ·subst hji;exact hY.op hi (now hy H).2 H
  ·have:=ready_mono hj hji
   rw [H.2.1] at this
   cases this
 | succ f ih =>
  intro L a w hfree hyt hr hy H
  refine ⟨(now hyt H).1,fun h=>(by rw [h] at hr;cases hr),fun j hj=>?_⟩
  by_cases hji:j=i
  ·subst hji;exact hy.op hi (now hyt H).2 H
  ·have h1:=H.2.2 j (ready_mono hj hji)
   obtain ⟨hjun,oj,hoj,hall⟩:=mem_ready.1 hj
   have hnot:∀ e∈oj.after,Region.binds md e=true→e.on≠i:=fun e he hb heq=>by
    have h1:=hall e he hb
    have h0:=(mem_ready.1 hr).1
    rw [heq] at h1
    rcases Nat.lt_or_ge i L.size with h' | h'
    ·simp [h'] at h0 h1;rw [h0] at h1;cases h1
    ·simp [Array.getElem?_eq_none h'] at h1
   have hap:=hfree j oj hoj hji hjun hnot
   obtain ⟨_,_,hap3⟩:=Oper.apart_spec hap
   have hsi:=fun cs b=>Region.noSelect_spec hsel i oi cs b hi
   have h2:=wpOp_put (oi:={ oi with op:=.move (.const v),guard:=none }) hoj (fake_apart hap) (fun cs b e=>by cases e) (fun cs b=>Region.noSelect_spec hsel j oj cs b hoj) hQ
    (.inl ⟨rfl,fun w=>rfl⟩) h1
   have h3:=wpOp_keep (Y:=YieldsI P ops J oi v) hoj (fun a u hy=>⟨by rw [wanted_put oi a oj.dst u hap3];exact hy.1,fun w hw=>by rw [execOp_put oi hsi a oj.dst u hap3];exact hy.2 w hw⟩) (fun a d hy=>hy) hy h2
   have hfree':∀ k ok,ops[k]?=some ok→k≠i→(L.setIfInBounds j true).getD k true=false→(∀ e∈ok.after,Region.binds md e=true→e.on≠i)→oi.apart ops ok=true:=fun k ok hk hki hun hno=>by
    refine hfree k ok hk hki ?_ hno
    by_cases hjk:j=k
    ·subst hjk;exact hjun
    ·rw [Go.getD_set_ne true hjk] at hun;exact hun
   have hyt':yetB md ops (L.setIfInBounds j true) i=true:=yetB_iff.2 fun k o ho hk=>by
    by_cases hjk:j=k
    ·subst hjk
     cases hoj.symm.trans ho
     exact hnot
    ·rw [Go.getD_set_ne false hjk] at hk
     exact yetB_iff.1 hyt k o ho hk
   refine wpOp_mono (fun a' w' h4=>ih (L.setIfInBounds j true) a' w' hfree' hyt' (ready_mono hr (Ne.symm hji)) h4.1 ?_) h3
   rw [Array.setIfInBounds_comm _ _ hji]
   exact h4.2.2
end
def EVI (z:Option Nat) (p:Nat × TypeId × List Value) (P:Program) (n:Nat) (ops:Array Oper) (fuel:Nat) (L:Array Bool) (env:Env) (bx:Bxs) (H:Hs) (K:Env→Bxs→Hs→Prop):Prop :=
 ∀ W0 β a W,Rel n W0 H.base β env bx H a W→wpAnyI P .any ops (fun e a W=>e=.normal∧lift n W0 H.base (fun _ env bx H=>K env bx H) .normal a W) (fun W=>Box W p.1 p.2.2.toArray p.2.1) z fuel L a W
section
variable {z:Option Nat} {p:Nat × TypeId × List Value} {n:Nat} {ops:Array Oper} {fuel:Nat} {L:Array Bool} {env:Env} {bx:Bxs} {H:Hs} {K:Env→Bxs→Hs→Prop} {d:Nat} {o:Oper} {v:Value}
theorem EVI.start (z:Option Nat) (p:Nat × TypeId × List Value) {id:Nat} {l:List Oper} {Q:EQ} (h:EVI z p prog n l.toArray l.length (Array.replicate l.length false) env bx H (fun env bx H=>Q .normal env bx H)) (hm:Tryz.prog.follows .mixedOrders=true:=by kernel_rfl):EV prog n (.region id l.toArray true) env bx H Q :=
 EVA.start hm fun W0 β a W r=>(h W0 β a W r).any _ _ _ _
theorem EVI.take {J:World→Prop} (i:Nat) (hts:(zokB .any ops z i=true∧∀ w,Box w p.1 p.2.2.toArray p.2.1→J w)∨((∀ w,J w)∧z≠some i)) (hi:ops[i]?=some o) (hs:Region.noSelect ops=true) (hf:Region.free .any ops L i=true) (hr:(Region.ready .any ops L).contains i=true) (hy:yetB .any ops L i=true) (hw:wantB ops env o=some true) (hd:o.dst=some d) (hn:Nat.blt d n=true)
  (hx:∀ (β:Nat→Nat) (a:Act) (W:World),(∀ y s,env.op y=some s→s.rep β H.ro (a.eval y))→J W→(execOp a.eval o).run prog W=.ok (.value v) W)
  (h:EVI z p prog n ops fuel (L.setIfInBounds i true) ((d,.v v)::env) bx H K):EVI z p prog n ops (fuel+1) L env bx H K:=fun W0 β a W r=>by
 refine wpAnyI_take (v:=v) hi hs (fun c a w e=>by cases e.1) hts fuel L a W (Region.free_spec hi hf) hy (by simpa using hr) ⟨r.want hw,fun w hI=>hx β a w (fun y s hy=>r.op hy) hI⟩ ?_
 rw [hd]
 exact h W0 β _ W (r.put hn rfl rfl)
theorem IV (i:Nat) (h:EVI z p prog n ops fuel (L.setIfInBounds i true) ((d,.v v)::env) bx H K) (hi:ops[i]?=some o:=by exact rfl) (hs:Region.noSelect ops=true:=by kernel_rfl) (hf:Region.free .any ops L i=true:=by kernel_rfl) (hr:(Region.ready .any ops L).contains i=true:=by kernel_rfl) (hy:yetB .any ops L i=true:=by kernel_rfl) (hts:(z == some i)=false:=by kernel_rfl) (hw:wantB ops env o=some true:=by exact rfl) (hd:o.dst=some d:=by exact rfl) (hn:Nat.blt d n=true:=by exact rfl)
  (hv:pval Tryz.tab env [] o.op=some (.v v):=by exact rfl) (hpl:plainL env o.op.operands.toList=true:=by exact rfl):EVI z p prog n ops (fuel+1) L env bx H K :=
 EVI.take (J:=fun _=>True) i (.inr ⟨fun _=>trivial,fun e=>by rw [e] at hts;simp at hts⟩) hi hs hf hr hy hw hd hn (fun β a W he _=>by
  obtain ⟨x,hx,hr⟩:=pval_sound (β:=β) (H:=fun _=>none) (W:=W) (a:=a) tO hv (fun y s hm hy=>plain_rep (plainL_mem hpl y (by simpa using hm)) hy (he y s hy)) (fun i T cs e=>by cases e) (fun b c e=>by cases e)
  have e:x=v:=hr
  rw [← e];exact hx) h
theorem IN (i:Nat) {x:Operand} {c:Addr} (h:EVI z p prog n ops fuel (L.setIfInBounds i true) ((d,.v (.pointer (some c)))::env) bx H K) (hi:ops[i]?=some o:=by exact rfl) (hs:Region.noSelect ops=true:=by kernel_rfl) (hf:Region.free .any ops L i=true:=by kernel_rfl) (hr:(Region.ready .any ops L).contains i=true:=by kernel_rfl) (hy:yetB .any ops L i=true:=by kernel_rfl) (hts:(z == some i)=false:=by kernel_rfl) (hw:wantB ops env o=some true:=by exact rfl) (hd:o.dst=some d:=by exact rfl) (hn:Nat.blt d n=true:=by exact rfl)
  (ho:o.op=.nilCheck x:=by exact rfl) (hx:env.op x=some (.v (.pointer (some c))):=by exact rfl):EVI z p prog n ops (fuel+1) L env bx H K :=
 EVI.take (J:=fun _=>True) i (.inr ⟨fun _=>trivial,fun e=>by rw [e] at hts;simp at hts⟩) hi hs hf hr hy hw hd hn (fun β a W he _=>run_nilP ho hx _ W fun y x _ hy=>he y _ hy) h
theorem IF (i:Nat) {x:Operand} {T:TypeId} {te:TE} {f b q fo sz:Nat} {ag:Bool} (h:EVI z p prog n ops fuel (L.setIfInBounds i true) ((d,.v (.pointer (some ⟨b,q+fo,none⟩)))::env) bx H K) (hi:ops[i]?=some o:=by exact rfl) (hs:Region.noSelect ops=true:=by kernel_rfl) (hf:Region.free .any ops L i=true:=by kernel_rfl) (hr:(Region.ready .any ops L).contains i=true:=by kernel_rfl) (hy:yetB .any ops L i=true:=by kernel_rfl) (hts:(z == some i)=false:=by kernel_rfl) (hw:wantB ops env o=some true:=by exact rfl) (hd:o.dst=some d:=by exact rfl) (hn:Nat.blt d n=true:=by exact rfl)
  (ho:o.op=.fieldAddr T x f:=by exact rfl) (hx:env.op x=some (.v (.pointer (some ⟨b,q,none⟩))):=by exact rfl) (ht:Tryz.tab.get T=some te:=by exact rfl) (hfd:te.fields[f]?=some (fo,ag,sz):=by exact rfl):EVI z p prog n ops (fuel+1) L env bx H K :=
 EVI.take (J:=fun _=>True) i (.inr ⟨fun _=>trivial,fun e=>by rw [e] at hts;simp at hts⟩) hi hs hf hr hy hw hd hn (fun β a W he _=>run_fldP tO ho ht hfd hx _ W fun y x _ hy=>he y _ hy) h
theorem IL0 (i:Nat) {x:Operand} {T:TypeId} {te:TE} {q:Nat} {l:List Value} (h:EVI z p prog n ops fuel (L.setIfInBounds i true) ((d,.v v)::env) bx H K) (hi:ops[i]?=some o:=by exact rfl) (hs:Region.noSelect ops=true:=by kernel_rfl) (hf:Region.free .any ops L i=true:=by kernel_rfl) (hr:(Region.ready .any ops L).contains i=true:=by kernel_rfl) (hy:yetB .any ops L i=true:=by kernel_rfl) (hts:zokB .any ops z i=true:=by kernel_rfl) (hw:wantB ops env o=some true:=by exact rfl) (hd:o.dst=some d:=by exact rfl) (hn:Nat.blt d n=true:=by exact rfl)
  (ho:o.op=.load T x:=by exact rfl) (hx:env.op x=some (.v (.pointer (some ⟨p.1,q,none⟩))):=by exact rfl) (ht:Tryz.tab.get T=some te:=by exact rfl) (hl:(p.2.2.drop q).take te.size=l:=by exact rfl) (hlen:l.length=te.size:=by exact rfl) (hv:asVar te.agg l=some v:=by exact rfl):EVI z p prog n ops (fuel+1) L env bx H K :=
 EVI.take (J:=fun w=>Box w p.1 p.2.2.toArray p.2.1) i (.inl ⟨hts,fun _ h=>h⟩) hi hs hf hr hy hw hd hn (fun β a W he hB=>by
  have ex:a.eval x=.pointer (some ⟨p.1,q,none⟩):=he x _ hx
  have hrg:=hB.range q te.size
  rw [hl] at hrg
  have hrun:=run_load_cells (tO.get ht) hrg hlen hv
  unfold execOp
  simp only [ho,ex,Sem.run_bind,hrun,Result.andThen_ok,Sem.run_pure]) h
theorem EVI.one (k jj:Nat) (hj:needB z L=false∨H.ow[jj]?=some p) (hr:(Region.ready .any ops L == [k])=true) (ho:ops[k]?=some o) (h:EVL prog n ops [o] env bx H (fun e env bx H'=>e=.normal∧EVI z p prog n ops fuel (L.setIfInBounds k true) env bx H' K)):EVI z p prog n ops (fuel+1) L env bx H K:=fun W0 β a W r=>by
 have hr':=eq_of_beq hr
 refine ⟨fun hn=>?_,fun e=>(by rw [hr'] at e;cases e),fun q hq=>?_⟩
 ·rcases hj with hj | hj
  ·rw [hj] at hn;cases hn
  ·exact (r.own jj p.1 p.2.1 p.2.2 hj).1
 rw [hr',List.mem_singleton] at hq
 subst hq
 have h1:=h W0 β a W r
 have hkk:∀ a W,lift n W0 H.base (fun e env bx H'=>e=.normal∧EVI z p prog n ops fuel (L.setIfInBounds q true) env bx H' K) .normal a W→wpAnyI prog .any ops (fun e a W=>e=.normal∧lift n W0 H.base (fun _ env bx H=>K env bx H) .normal a W) (fun W=>Box W p.1 p.2.2.toArray p.2.1) z fuel (L.setIfInBounds q true) a W:=by
  rintro a W ⟨β',env',bx',H',hbase,⟨_,hE⟩,rel⟩
  have:=hE W0 β' a W (by rw [hbase];exact rel)
  rwa [hbase] at this
 unfold wpOp
 simp only [ho]
 unfold wpList at h1
 split
 ·rename_i hw
  rw [if_pos hw] at h1
  rcases h1 with h1 | ⟨h1,h2⟩
  ·refine .inl (Oper.wp_exits (fun c a W hq=>?_) (fun hq=>?_) (Oper.wp_mono (fun a W h=>hkk a W h) h1))
   ·obtain ⟨_,_,_,_,_,⟨e,_⟩,_⟩:=hq
    cases e
   ·obtain ⟨a0,w0,_,_,_,_,_,⟨e,_⟩,_⟩:=hq
    cases e
  ·obtain ⟨a0,w0,_,_,_,_,_,⟨e,_⟩,_⟩:=h2
   cases e
 ·rename_i hw
  rw [if_neg hw] at h1
  exact hkk _ _ h1
theorem EVI.nil (jj:Nat) (hj:needB z L=false∨H.ow[jj]?=some p) (hr:(Region.ready .any ops L).isEmpty=true) (h:K env bx H):EVI z p prog n ops fuel L env bx H K:=fun W0 β a W r=>by
 have hr':=List.isEmpty_iff.1 hr
 have hI:needB z L=true→Box W p.1 p.2.2.toArray p.2.1:=fun hn=>by
  rcases hj with hj | hj
  ·rw [hj] at hn;cases hn
  ·exact (r.own jj p.1 p.2.1 p.2.2 hj).1
 cases fuel with
 | zero=>exact ⟨hI,hr',rfl,β,env,bx,H,rfl,h,r⟩
 | succ f=>exact ⟨hI,fun _=>⟨rfl,β,env,bx,H,rfl,h,r⟩,fun i hi=>by rw [hr'] at hi;cases hi⟩
end
def RNodes (H:Hp) (css:List (List Value)) (ns:List Nd):Prop:=css.length=ns.length∧∀ (j:Nat) (c:List Value) (n:Nd),css[j]?=some c→ns[j]?=some n→RNode H c n
theorem RNodes.mono {H G:Hp} {css:List (List Value)} {ns:List Nd} (h:RNodes H css ns) (k:H.Le G):RNodes G css ns:=⟨h.1,fun j c n e1 e2=>(h.2 j c n e1 e2).mono k⟩
theorem RNodes.snoc {H G:Hp} {css:List (List Value)} {ns:List Nd} (h:RNodes H css ns) (k:H.Le G) {c:List Value} {n:Nd} (hc:RNode G c n):RNodes G (css++[c]) (ns++[n]):=by
 refine ⟨by simp [h.1],fun j c' n' e1 e2=>?_⟩
 by_cases hj:j<css.length
 ·rw [List.getElem?_append_left hj] at e1
  rw [List.getElem?_append_left (by rw [← h.1];exact hj)] at e2
  exact (h.2 j c' n' e1 e2).mono k
 ·rw [List.getElem?_append_right (by omega)] at e1
  rw [List.getElem?_append_right (by rw [← h.1];omega),← h.1] at e2
  have h0:j-css.length=0:=by
   have:=(List.getElem?_eq_some_iff.1 e1).1
   simp at this;omega
  rw [h0] at e1 e2
  cases e1;cases e2
  exact hc
def DiceO (dv:Value) (D:Ows) (s:Int):Prop:=(dv=.pointer none∧D=[])∨∃ bd T,dv=.pointer (some ⟨bd,0,none⟩)∧D=[(bd,T,[.int .u64 s])]∧0≤s
theorem RNode.len {H:Hp} {c:List Value} {n:Nd} (h:RNode H c n):c.length=15:=by
 obtain ⟨b1,a1,l1,c1,a2,l2,c2,b3,a3,l3,c3,a4,l4,c4,b5,a5,l5,c5,a6,l6,c6,a7,c7,rfl,_⟩:=h.cells
 rfl
theorem row_fits {A c B:List Value} {k s f m q:Nat} (hA:A.length=k*s) (hq:q=k*s+f) (hf:f+m≤c.length):q+m≤(A++(c++B)).length:=by
 rw [List.length_append,List.length_append,hA,hq];omega
theorem flat_15 {l:List (List Value)} (h:∀ c,c∈l→c.length=15):l.flatten.length=l.length*15:=by
 induction l with
 | nil=>rfl
 | cons c l ih=>rw [List.flatten_cons,List.length_append,h c (List.mem_cons_self ..),ih (fun c hc=>h c (List.mem_cons_of_mem _ hc)),List.length_cons];omega
theorem RNodes.mid {H:Hp} {css:List (List Value)} {A B:List Nd} {n:Nd} (h:RNodes H css (A++n::B)):∃ cA c cB,css=cA++c::cB∧cA.flatten.length=A.length*15∧RNode H c n∧∀ (G:Hp) (c':List Value) (n':Nd),H.Le G→RNode G c' n'→RNodes G (cA++c'::cB) (A++n'::B):=by
 have hl:=h.1
 rw [List.length_append,List.length_cons] at hl
 have hlt:A.length<css.length:=by omega
 have e:css=css.take A.length++css[A.length]::css.drop (A.length+1):=by
  rw [← List.drop_eq_getElem_cons hlt,List.take_append_drop]
 have hla:(css.take A.length).length=A.length:=by rw [List.length_take];omega
 refine ⟨_,_,_,e,?_,h.2 A.length _ n (List.getElem?_eq_getElem hlt) (by rw [List.getElem?_append_right (Nat.le_refl _),Nat.sub_self];rfl),?_⟩
 ·refine (flat_15 fun c hc=>?_).trans (by rw [hla])
  obtain ⟨j,hj⟩:=List.mem_iff_getElem?.1 (List.mem_of_mem_take hc)
  have hj':=(List.getElem?_eq_some_iff.1 hj).1
  obtain ⟨m,hm⟩:∃ m,(A++n::B)[j]?=some m:=⟨_,List.getElem?_eq_getElem (by rw [← h.1];exact hj')⟩
  exact (h.2 j c m hj hm).len
 ·intro G c' n' hG hc
  refine ⟨by simp only [List.length_append,List.length_cons,hla,List.length_drop];omega,fun j c1 n1 e1 e2=>?_⟩
  rcases Nat.lt_trichotomy j A.length with hj | rfl | hj
  ·rw [List.getElem?_append_left oM,List.getElem?_take_of_lt hj] at e1
   rw [List.getElem?_append_left hj] at e2
   exact (h.2 j c1 n1 e1 (by rw [List.getElem?_append_left hj];exact e2)).mono hG
  ·rw [List.getElem?_append_right oM,hla,Nat.sub_self] at e1
   rw [List.getElem?_append_right (Nat.le_refl _),Nat.sub_self] at e2
   cases e1;cases e2
   exact hc
  ·obtain ⟨k,rfl⟩:∃ k,j=A.length+(k+1):=⟨j-A.length-1,by omega⟩
   rw [List.getElem?_append_right oM,hla,Nat.add_sub_cancel_left,List.getElem?_cons_succ,List.getElem?_drop] at e1
   rw [List.getElem?_append_right oM,Nat.add_sub_cancel_left,List.getElem?_cons_succ] at e2
   exact (h.2 (A.length+(k+1)) c1 n1 (by rw [← e1];congr 1;omega) (by rw [List.getElem?_append_right oM,Nat.add_sub_cancel_left,List.getElem?_cons_succ];exact e2)).mono hG
theorem OwnL.mid {e:TypeId} {v:Value} {m:Nat} {cA cB:List (List Value)} {c:List Value} {ow:Ows} (h:OwnL e 15 v m (cA++c::cB).flatten ow) (hc:c.length=15):∃ g cap sp,v=.slice (some ⟨g,0,none⟩) m cap∧ow=[(g,e,cA.flatten++(c++(cB.flatten++sp)))]∧∀ c',c'.length=15→OwnL e 15 v m (cA++c'::cB).flatten [(g,e,cA.flatten++(c'++(cB.flatten++sp)))]:=by
 have hl:=h.1
 rcases h.2 with ⟨_,rfl,_⟩ | ⟨g,cap,sp,rfl,rfl,h1,h2,h3⟩
 ·simp [hc] at hl
 ·have e1:∀ c':List Value,(cA++c'::cB).flatten=cA.flatten++(c'++cB.flatten):=fun c'=>by simp
  rw [e1] at hl h1
  refine ⟨g,cap,sp,rfl,by rw [e1];simp,fun c' hc'=>⟨?_,.inr ⟨g,cap,sp,rfl,by rw [e1];simp,?_,h2,h3⟩⟩⟩
  ·rw [e1,← hl];simp [hc,hc']
  ·rw [e1,← h1];simp [hc,hc']
theorem CutS.cells {G:Hp} {o:Option (Int × Rat × Rat)} {cs:List Value} (h:CutS G o cs):∃ c b1 a1 l1 c1 a2 l2 c2 b3 a3 l3 c3 a4 l4 c4,cs=[.int .i64 c,.bool b1,.slice a1 l1 c1,.slice a2 l2 c2,.bool b3,.slice a3 l3 c3,.slice a4 l4 c4]∧∀ c' t g,o=some (c',t,g)→c=c'∧RQ G (.agg #[.bool b1,.slice a1 l1 c1,.slice a2 l2 c2]) t∧RQ G (.agg #[.bool b3,.slice a3 l3 c3,.slice a4 l4 c4]) g:=by
 cases o with
 | none=>exact ⟨_,_,_,_,_,_,_,_,_,_,_,_,_,_,_,h,fun c' t g e=>by cases e⟩
 | some p =>
  obtain ⟨x,y,h1,h2,rfl⟩:=h
  obtain ⟨a1,l1,c1,a2,l2,c2,rfl,_⟩:=id h1
  obtain ⟨a3,l3,c3,a4,l4,c4,rfl,_⟩:=id h2
  exact ⟨_,_,_,_,_,_,_,_,_,_,_,_,_,_,_,rfl,fun c' t g e=>by cases e;exact ⟨rfl,h1,h2⟩⟩
set_option maxHeartbeats 64000000 in
theorem rgrow_pw {p:GP} {kd cl least deep:Int} {sm w:Nat} {la va xa:Option Addr} {ln lc vn vc xc:Nat} {g1 g2 g3:Value} {dq:Option Addr} (hdq:dq≠none) (hds:∀ s,p.cols s=((orderL w s).1.take sm,(orderL w s).2)) (hsm:sm≤w) (hw1:1≤w) (hw2:w≤1000) (hx0:0<p.X.length) (hxw:∀ x,x∈p.X→x.length=w) (hxq:∀ x,x∈p.X→∀ q,q∈x→ht q≤5) (hpl:p.least=least) (hgr:rq p.gain):∀ (d:Nat) {H:Hp} {b:Nat} {T:TypeId} {dd s:Int} {vr out:Value} {rows:List Int} {ns:List Nd} {css:List (List Value)} {D ow:Ows},
  RGoal H (goalV kd cl (.slice la ln lc) (.slice va vn vc)) kd p.X.length p.cost p.mean p.cnt→RLL H (.slice xa p.X.length xc) p.X→RQ H (.agg #[g1,g2,g3]) p.gain→dd+d=deep→0≤dd→deep≤10 →
  IL H vr rows→rows.length≤300→(∀ r,r∈rows→0≤r∧r<(p.X.length:Int))→DiceO (.pointer dq) D s→OwnL 186 15 out ns.length css.flatten ow→RNodes H css ns→ns.length+2 ^ (d+1)≤1000000 →
  PW prog 77 #[.pointer (some ⟨b,0,none⟩),vr,.int .i64 dd] H ((b,T,growC kd cl (.slice la ln lc) (.slice va vn vc) (.slice xa p.X.length xc) deep least g1 g2 g3 (.pointer dq) (sm:Int) out)::(D++ow)) fun v ow' H'=>v=.tuple #[]∧∃ out' D' ow2 css',ow'=(b,T,growC kd cl (.slice la ln lc) (.slice va vn vc) (.slice xa p.X.length xc) deep least g1 g2 g3 (.pointer dq) (sm:Int) out')::(D'++ow2)∧DiceO (.pointer dq) D' (p.grow d ns.length rows s).2∧OwnL 186 15 out' (ns++(p.grow d ns.length rows s).1).length css'.flatten ow2∧RNodes H' css' (ns++(p.grow d ns.length rows s).1):=by
 intro d
 induction d using Nat.strongRecOn with
 | _ d ih =>
  intro H b T dd s vr out rows ns css D ow hg hX hgq hdd hd0 hd1 hr hn hb hD hown hns hsz
  obtain ⟨oa,oc,rfl⟩:=hown.val
  obtain ⟨ra,rc,rfl⟩:=SlC.val hr
  have hpw:2≤2 ^ (d+1):=by rw [Nat.pow_succ];have:=Nat.one_le_two_pow (n:=d);omega
  refine PW.body tO func77 rfl kR ntmps77 rfl rfl ?_
  try refine RUN ?_
  (repeat (first | refine EVL.nilB rfl rfl rfl rfl rfl ?_ | refine EVL.fldB tO rfl rfl rfl rfl rfl rfl rfl ?_ | refine EVL.val tO rfl rfl rfl rfl rfl ?_))
  refine EVL.loadOwn tO rfl rfl rfl rfl rfl rfl (0) rfl (rfl) rfl rfl ?_
  try refine RUN ?_
  refine EV.meetK (ι:=Value × Ows × List Value) [0,1,2,6] [] (fun _=>[]) (fun _=>[]) (fun q=>(b,T,growC kd cl (.slice la ln lc) (.slice va vn vc) (.slice xa p.X.length xc) deep least g1 g2 g3 (.pointer dq) (sm:Int) q.1)::(D++q.2.1)) (fun q G=>H.Le G∧OwnL 186 15 q.1 (ns.length+1) (css++[q.2.2]).flatten q.2.1∧RNode G q.2.2 (p.nd rows)) rfl rfl (fun _=>rfl) ?_ ?_
  ·refine EVI.start (some 9) (b,T,growC kd cl (.slice la ln lc) (.slice va vn vc) (.slice xa p.X.length xc) deep least g1 g2 g3 (.pointer dq) (sm:Int) (.slice oa ns.length oc)) ?_
   refine IV 0 ?_
   refine IV 1 ?_
   refine IN 2 ?_
   refine IF 3 ?_
   refine IL0 4 ?_
   refine IV 5 ?_
   refine IV 6 ?_
   refine EVI.one 7 0 (.inr rfl) kR rfl ?_
   refine EVL.callW rfl rfl rfl rfl rfl ([(b,T,growC kd cl (.slice la ln lc) (.slice va vn vc) (.slice xa p.X.length xc) deep least g1 g2 g3 (.pointer dq) (sm:Int) (.slice oa ns.length oc))]) (D++ow) rfl (rnode_pw hg hr hn hb) ?_
   rintro _ ow1 G1 ⟨rfl,cs,rfl,hnd⟩ hG1
   obtain ⟨b1,a1,l1,c1,a2,l2,c2,b3,a3,l3,c3,a4,l4,c4,b5,a5,l5,c5,a6,l6,c6,a7,c7,rfl,_⟩:=hnd.cells
   refine EVL.nil ⟨rfl,?_⟩
   refine EVI.one 8 0 (.inr rfl) kR rfl ?_
   refine EVL.lit tO rfl rfl rfl rfl rfl rfl rfl rfl rfl rfl rfl fun bl=>?_
   refine EVL.nil ⟨rfl,?_⟩
   refine EVI.one 9 1 (.inr rfl) kR rfl ?_
   refine EVL.append tO rfl rfl rfl rfl rfl rfl rfl rfl rfl rfl rfl rfl ([(bl,_,_),(b,T,_)]++D) ow [] (by rw [List.append_nil];rfl) hown (SrcAt.own 0 rfl rfl) rfl oM ?_
   intro v2 ow2 hown2
   obtain ⟨oa2,oc2,rfl⟩:=hown2.val
   refine EVL.nil ⟨rfl,?_⟩
   refine EVI.one 10 0 (.inl kR) kR rfl ?_
   refine EVL.nilB rfl rfl rfl rfl rfl ?_
   refine EVL.nil ⟨rfl,?_⟩
   refine EVI.one 11 0 (.inl kR) kR rfl ?_
   refine EVL.fldB tO rfl rfl rfl rfl rfl rfl rfl ?_
   refine EVL.nil ⟨rfl,?_⟩
   refine EVI.one 12 0 (.inl kR) kR rfl ?_
   refine EVL.storeOwn tO rfl rfl rfl rfl rfl rfl ([(bl,_,_)]) (D++(ow2++[])) rfl rfl rfl rfl ((by exact Nat.le_refl 13)) (rfl) ?_
   refine EVL.subOw [] [(bl,_,_)] _ rfl ?_
   refine EVL.nil ⟨rfl,?_⟩
   refine EVI.nil 0 (.inl kR) kR ?_
   exact ⟨(_,ow2++[],_),trivial,sB,trivial,trivial,rfl,hG1,(by rw [List.append_nil,List.flatten_append];exact hown2),hnd⟩
  ·rintro ⟨out1,ow1,c1⟩ G1 ⟨hG1,hown1,hnd1⟩
   dsimp only at hown1 hnd1
   have hns1:RNodes G1 (css++[c1]) (ns++[p.nd rows]):=hns.snoc hG1 hnd1
   try refine RUN ?_
   (repeat (first | refine EVL.nilB rfl rfl rfl rfl rfl ?_ | refine EVL.fldB tO rfl rfl rfl rfl rfl rfl rfl ?_ | refine EVL.val tO rfl rfl rfl rfl rfl ?_))
   refine EVL.loadOwn tO rfl rfl rfl rfl rfl rfl (0) rfl (rfl) rfl rfl ?_
   try refine RUN ?_
   by_cases hd:d=0
   ·subst hd
    obtain rfl:dd=deep:=by omega
    rw [show (dd == dd)=true from beq_self_eq_true dd]
    try refine RUN ?_
    exact ⟨rfl,out1,D,ow1,_,rfl,hD,by rw [List.length_append];exact hown1,hns1⟩
   obtain ⟨e,rfl⟩:∃ e,d=e+1:=⟨d-1,by omega⟩
   have ih':=@ih e oM
   clear ih
   rw [show (dd == deep)=false from beq_eq_false_iff_ne.2 (by omega)]
   try refine RUN ?_
   (repeat (first | refine EVL.nilB rfl rfl rfl rfl rfl ?_ | refine EVL.fldB tO rfl rfl rfl rfl rfl rfl rfl ?_ | refine EVL.val tO rfl rfl rfl rfl rfl ?_))
   refine EVL.loadOwn tO rfl rfl rfl rfl rfl rfl (0) rfl (rfl) rfl rfl ?_
   refine EVL.neqnil Tryz.underlying98 rfl rfl rfl rfl rfl ?_
   try refine RUN ?_
   obtain ⟨vsx,hvs,hvx⟩:=hX.mono hG1
   obtain ⟨x0,hxx0⟩:∃ x,p.X[0]?=some x:=⟨_,List.getElem?_eq_getElem hx0⟩
   obtain ⟨u0,e0,hu0,_⟩:=hvs.at hxx0
   have hx0w:=hxw x0 (List.mem_of_getElem? hxx0)
   refine EV.meetK (ι:=Value × Ows) [0,1,2,6] [] (fun q=>[(7,.v q.1)]) (fun _=>[]) (fun q=>(b,T,growC kd cl (.slice la ln lc) (.slice va vn vc) (.slice xa p.X.length xc) deep least g1 g2 g3 (.pointer dq) (sm:Int) out1)::(q.2++ow1)) (fun q G=>G1.Le G∧IL G q.1 (p.cols s).1∧DiceO (.pointer dq) q.2 (p.cols s).2) rfl rfl (fun _=>rfl) ?_ ?_
   ·rcases hD with ⟨e1,rfl⟩ | ⟨bd,Td,e1,rfl,hs⟩
    ·cases e1
     exact absurd rfl hdq
    ·cases e1
     have hcols:=hds s
     have hcs:(p.cols s).1=(orderL w s).1.take sm:=by rw [hcols]
     have hcs2:(p.cols s).2=(orderL w s).2:=by rw [hcols]
     try refine RUN ?_
     refine EVI.start none (b,T,growC kd cl (.slice la ln lc) (.slice va vn vc) (.slice xa p.X.length xc) deep least g1 g2 g3 (.pointer (some ⟨bd,0,none⟩)) (sm:Int) out1) ?_
     refine IV 0 ?_
     refine IN 1 ?_
     refine IF 2 ?_
     refine IL0 3 ?_
     refine IV 4 ?_
     refine IN 5 ?_
     refine IF 6 ?_
     refine IL0 7 ?_
     refine IV 12 ?_
     refine IN 13 ?_
     refine IF 14 ?_
     refine IL0 15 ?_
     refine EVI.one 8 0 (.inr rfl) kR rfl ?_
     refine EVL.idxR tO rfl rfl rfl rfl rfl rfl rfl rfl rfl rfl (hvx) (0) (rfl) (hx0) (hu0) ?_
     refine EVL.nil ⟨rfl,?_⟩
     refine EVI.one 9 0 (.inr rfl) kR rfl ?_
     (try refine RUNL ?_)
     refine EVL.nil ⟨rfl,?_⟩
     rw [hx0w]
     refine IV 10 ?_
     refine EVI.one 11 0 (.inr rfl) kR rfl ?_
     (first | refine EVL.swapOw ([(b,T,_)]) ((bd,Td,[.int .u64 s])::ow1) (rfl) ?_ | refine EV.swapOw ([(b,T,_)]) ((bd,Td,[.int .u64 s])::ow1) (rfl) ?_)
     refine EVL.callW rfl rfl rfl rfl rfl ([(bd,Td,[.int .u64 s])]) (ow1++[(b,T,_)]) rfl (rorder_pw hs hw1 oM) ?_
     rintro v2 ow2 G2 ⟨⟨T2,rfl⟩,hs2,hil,oa2,rfl⟩ hG2
     (first | refine EVL.swapOw ((bd,T2,[.int .u64 (orderL w s).2])::ow1) ([(b,T,_)]) (rfl) ?_ | refine EV.swapOw ((bd,T2,[.int .u64 (orderL w s).2])::ow1) ([(b,T,_)]) (rfl) ?_)
     refine EVL.nil ⟨rfl,?_⟩
     refine EVI.one 16 0 (.inr rfl) kR rfl ?_
     refine EVL.slc (te':=Tryz.te3) tO rfl rfl rfl rfl rfl rfl rfl rfl 0 sm (.inl ⟨rfl,rfl⟩) (.inr ⟨_,IntKind.i64,rfl,rfl⟩) (Nat.zero_le _) (by rw [orderL_len];exact hsm) (Nat.le_refl _) ?_
     refine EVL.nil ⟨rfl,?_⟩
     refine EVI.one 17 0 (.inr rfl) kR rfl ?_
     (try refine RUNL ?_)
     refine EVL.nil ⟨rfl,?_⟩
     refine EVI.nil 0 (.inr rfl) kR ?_
     exact ⟨(_,[(bd,T2,[.int .u64 (orderL w s).2])]),⟨rfl,trivial⟩,sB,trivial,trivial,rfl,hG2,(by rw [hcs];exact hil.pre sm (by rw [orderL_len];exact hsm) 1),(by rw [hcs2];exact .inr ⟨bd,T2,rfl,rfl,hs2⟩)⟩
   ·rintro ⟨vc7,D2⟩ G2 ⟨hG2,hcol,hD2⟩
    dsimp only at hcol hD2
    obtain ⟨ca,cc,rfl⟩:=SlC.val hcol
    have hH2:=hG1.trans hG2
    have hcl:(p.cols s).1.length≤1000:=by
     rw [hds s];show ((orderL w s).1.take sm).length≤1000;rw [List.length_take];omega
    have hbest:=fun (G:Hp) (hG:G2.Le G)=>refBest_pc (least:=least) (hg.check G (hH2.trans hG)) hg.len (fun G' k=>hg.cost G' ((hH2.trans hG).trans k)) hg.small (hX.mono (hH2.trans hG)) hxq (hr.mono (hH2.trans hG)) hn (hcol.mono hG) hcl
    have hpb:(allCuts p.X p.cost rows (max 1 least) (p.cols s).1).foldl refS none=p.best rows (p.cols s).1:=by unfold GP.best;rw [hpl]
    have hgb:∀ q,p.best rows (p.cols s).1=some q→ht q.2.1≤100∧ht q.2.2≤8000000:=fun q e=>by
     rw [← hpb] at e
     have hf:=first_fold (allCuts p.X p.cost rows (max 1 least) (p.cols s).1)
     rw [e] at hf
     exact all_small hg.small hn hb hxq hf.1
    simp only [exL_all hb,hpb] at hbest
    try refine RUN ?_
    apply EV.drawn 21 kR kR;intro xv yw
    (repeat (first | refine' DV ?_ | refine' DA ?_ | refine' DK0 ?_ | refine' DT ?_ | refine' DS ?_ | (refine' DJ.nilB rfl rfl rfl rfl rfl ?_;rotate_left) | (refine' DJ.fldB tO rfl rfl rfl rfl rfl rfl rfl ?_;rotate_left)))
    refine' DJ.ofVal (ValOk.loadOwn tO rfl rfl rfl rfl (0) rfl (rfl) rfl rfl) rfl rfl rfl ?_;rotate_left
    (repeat (first | refine' DV ?_ | refine' DA ?_ | refine' DK0 ?_ | refine' DT ?_ | refine' DS ?_ | (refine' DJ.nilB rfl rfl rfl rfl rfl ?_;rotate_left) | (refine' DJ.fldB tO rfl rfl rfl rfl rfl rfl rfl ?_;rotate_left)))
    refine' DJ.ofVal (ValOk.loadOwn tO rfl rfl rfl rfl (0) rfl (rfl) rfl rfl) rfl rfl rfl ?_;rotate_left
    (repeat (first | refine' DV ?_ | refine' DA ?_ | refine' DK0 ?_ | refine' DT ?_ | refine' DS ?_ | (refine' DJ.nilB rfl rfl rfl rfl rfl ?_;rotate_left) | (refine' DJ.fldB tO rfl rfl rfl rfl rfl rfl rfl ?_;rotate_left)))
    refine' DJ.ofVal (ValOk.loadOwn tO rfl rfl rfl rfl (0) rfl (rfl) rfl rfl) rfl rfl rfl ?_;rotate_left
    refine' DJ.call rfl rfl rfl rfl rfl (cO func123) (fun G hG hd=>hbest G hG) (fun _ _ _ h k=>(by obtain ⟨cs,h1,h2⟩:=h;exact ⟨cs,h1.mono k,h2⟩)) ?_;rotate_left
    refine' DJ.copy (15) (by first | exact .inl rfl | exact .inr rfl) rfl rfl rfl id rfl kR ?_;rotate_left
    refine' DJ.extract (15) rfl rfl rfl rfl rfl kR (fun G hd=>(by obtain ⟨cs,_,e⟩:=hd.head kR;exact ⟨_,e,Nat.zero_lt_succ _⟩)) ?_;rotate_left
    refine' DJ.extract (15) rfl rfl rfl rfl rfl kR (fun G hd=>(by obtain ⟨cs,_,e⟩:=hd.head kR;exact ⟨_,e,Nat.lt_succ_self _⟩)) ?_;rotate_left
    (repeat (first | refine' DV ?_ | refine' DA ?_ | refine' DK0 ?_ | refine' DT ?_ | refine' DS ?_))
    refine' DJ.storeD tO rfl rfl rfl rfl (15) (tupAt 0) rfl rfl (19) rfl rfl kR kR rfl (fun G hd=>(by obtain ⟨cs,h,e⟩:=hd.head kR;rw [e];obtain ⟨c,b1,a1,l1,c1,a2,l2,c2,b3,a3,l3,c3,a4,l4,c4,rfl,_⟩:=h.cells;exact ⟨rfl,rfl⟩)) ?_;rotate_left
    (refine DJ.nil (fun G3 hG3 hF3=>?_);(case hS|hS2=>rfl))
    obtain ⟨⟨cs,hcs,e33⟩,_⟩:=hF3
    obtain ⟨c,b1,a1,l1,c1',a2,l2,c2,b3,a3,l3,c3,a4,l4,c4,rfl,hval⟩:=hcs.cells
    rw [e33]
    rw [show tupAt 1 (Value.tuple #[.agg ([.int .i64 c,.bool b1,.slice a1 l1 c1',.slice a2 l2 c2,.bool b3,.slice a3 l3 c3,.slice a4 l4 c4]:List Value).toArray,.bool (p.best rows (p.cols s).1).isSome])=.bool (p.best rows (p.cols s).1).isSome from rfl,show vlist (tupAt 0 (Value.tuple #[.agg ([.int .i64 c,.bool b1,.slice a1 l1 c1',.slice a2 l2 c2,.bool b3,.slice a3 l3 c3,.slice a4 l4 c4]:List Value).toArray,.bool (p.best rows (p.cols s).1).isSome]))=[.int .i64 c,.bool b1,.slice a1 l1 c1',.slice a2 l2 c2,.bool b3,.slice a3 l3 c3,.slice a4 l4 c4] from rfl]
    try refine RUN ?_
    cases hbe:p.best rows (p.cols s).1 with
    | none =>
     have hcut:p.cut rows (p.cols s).1=none:=by unfold GP.cut;rw [hbe]
     rw [GP.grow_none hcut]
     rw [show (none:Option (Int × Rat × Rat)).isSome=false from rfl]
     apply EV.drawn 13 kR kR;intro xv yw
     (repeat (first | refine' DV ?_ | refine' DA ?_ | refine' DK0 ?_ | refine' DT ?_ | refine' DS ?_))
     (refine DJ.nil (fun G hG hF=>?_);(case hS|hS2=>rfl))
     try refine RUN ?_
     exact ⟨rfl,out1,D2,ow1,_,rfl,hD2,by rw [List.length_append];exact hown1,hns1.mono (hG2.trans (hG3.trans hG))⟩
    | some q =>
     obtain ⟨c',t,g⟩:=q
     obtain ⟨rfl,hvt,hvg⟩:=hval c' t g hbe
     obtain ⟨htb,hgb'⟩:=hgb _ hbe
     dsimp only at htb hgb'
     rw [show (some (c,t,g)).isSome=true from rfl]
     have hgrq:rq g:=by unfold rq;omega
     apply EV.drawn 13 kR kR;intro xv yw
     (repeat (first | refine' DV ?_ | refine' DA ?_ | refine' DK0 ?_ | refine' DT ?_ | refine' DS ?_ | (refine' DJ.nilB rfl rfl rfl rfl rfl ?_;rotate_left) | (refine' DJ.fldB tO rfl rfl rfl rfl rfl rfl rfl ?_;rotate_left)))
     refine' DJ.ofVal (ValOk.loadOwn tO rfl rfl rfl rfl (0) rfl (rfl) rfl rfl) rfl rfl rfl ?_;rotate_left
     refine' DJ.callS rfl rfl rfl rfl rfl (cO func124) (fun G hG hd=>refCmp_pc (RQ.mono hvg hG) (RQ.mono hgq (hH2.trans (hG3.trans hG))) hgrq hgr) ?_;rotate_left
     (repeat (first | refine' DV ?_ | refine' DA ?_ | refine' DK0 ?_ | refine' DT ?_ | refine' DS ?_))
     (refine DJ.nil (fun G4 hG4 hF4=>?_);(case hS|hS2=>rfl))
     try refine RUN ?_
     by_cases hle:g≤p.gain
     ·have hcut:p.cut rows (p.cols s).1=none:=by unfold GP.cut;rw [hbe];exact if_pos hle
      rw [GP.grow_none hcut]
      rw [decide_eq_true (Int.not_lt.1 fun k=>Rat.not_lt.2 hle ((ordR_gt0 g p.gain).1 k))]
      try refine RUN ?_
      exact ⟨rfl,out1,D2,ow1,_,rfl,hD2,by rw [List.length_append];exact hown1,hns1.mono (hG2.trans (hG3.trans hG4))⟩
     have hcut:p.cut rows (p.cols s).1=some (c,t):=by unfold GP.cut;rw [hbe];exact if_neg hle
     rw [GP.grow_some hcut]
     rw [decide_eq_false (Int.not_le.2 ((ordR_gt0 g p.gain).2 (Rat.not_le.1 hle)))]
     have hH4:=hH2.trans (hG3.trans hG4)
     try refine RUN ?_
     apply EV.drawn 14 kR kR;intro xv yw
     (repeat (first | refine' DV ?_ | refine' DA ?_ | refine' DK0 ?_ | refine' DT ?_ | refine' DS ?_ | (refine' DJ.nilB rfl rfl rfl rfl rfl ?_;rotate_left) | (refine' DJ.fldB tO rfl rfl rfl rfl rfl rfl rfl ?_;rotate_left)))
     refine' DJ.ofVal (ValOk.loadOwn tO rfl rfl rfl rfl (0) rfl (rfl) rfl rfl) rfl rfl rfl ?_;rotate_left
     (repeat (first | refine' DV ?_ | refine' DA ?_ | refine' DK0 ?_ | refine' DT ?_ | refine' DS ?_ | (refine' DJ.nilB rfl rfl rfl rfl rfl ?_;rotate_left) | (refine' DJ.fldB tO rfl rfl rfl rfl rfl rfl rfl ?_;rotate_left)))
     refine' DJ.call rfl rfl rfl rfl rfl (cO func125) (fun G hG hd=>refSides_pc (col:=c) (t:=t) (hX.mono (hH4.trans hG)) (hr.mono (hH4.trans hG)) oM (fun x hx q hq=>rq_small (hxq x hx q hq) oM) (RQ.mono hvt (hG4.trans hG)) (rq_small htb oM)) (fun _ _ _ h k=>(by obtain ⟨u,w,e,hu,hw⟩:=h;exact ⟨u,w,e,hu.mono k,hw.mono k⟩)) ?_;rotate_left
     refine' DJ.copy (9) (by first | exact .inl rfl | exact .inr rfl) rfl rfl rfl id rfl kR ?_;rotate_left
     refine' DJ.extract (9) rfl rfl rfl rfl rfl kR (fun G hd=>(by obtain ⟨u,w,e,_⟩:=hd.head kR;exact ⟨_,e,Nat.zero_lt_succ _⟩)) ?_;rotate_left
     refine' DJ.extract (9) rfl rfl rfl rfl rfl kR (fun G hd=>(by obtain ⟨u,w,e,_⟩:=hd.head kR;exact ⟨_,e,Nat.lt_succ_self _⟩)) ?_;rotate_left
     refine' DJ.copy (9) (.inr rfl) rfl rfl rfl (tupAt 0) rfl kR ?_;rotate_left
     (refine DJ.nil (fun G5 hG5 hF5=>?_);(case hS|hS2=>rfl))
     obtain ⟨⟨u5,w5,e5,hu5,hw5⟩,_⟩:=hF5
     rw [e5]
     rw [exL_all hb] at hu5 hw5
     obtain ⟨ua,uc,rfl⟩:=SlC.val hu5
     obtain ⟨wa,wc,rfl⟩:=SlC.val hw5
     rw [show tupAt 0 (Value.tuple #[.slice ua (lowL p.X c t rows).length uc,.slice wa (highL p.X c t rows).length wc])=.slice ua (lowL p.X c t rows).length uc from rfl,show tupAt 1 (Value.tuple #[.slice ua (lowL p.X c t rows).length uc,.slice wa (highL p.X c t rows).length wc])=.slice wa (highL p.X c t rows).length wc from rfl]
     have hH5:=hH4.trans hG5
     have hns5:=hns1.mono (hG2.trans (hG3.trans (hG4.trans hG5)))
     obtain ⟨cA,cc1,cB,ecs,hAl,hnc,hput⟩:=hns5.mid
     rw [ecs] at hown1
     clear ecs
     obtain ⟨b9,a9,l9,c9,a10,l10,c10,b11,a11,l11,c11,a12,l12,c12,b13,a13,l13,c13,a14,l14,c14,a15,c15,rfl,k1,k2,k3,k4⟩:=hnc.cells
     obtain ⟨go,capo,sp,rfl,rfl,hback⟩:=hown1.mid rfl
     have wk:IntKind.i64.wrap ((ns.length:Int)+1)=((ns.length+1:Nat):Int):=wi_inc _ oM
     have wd:IntKind.i64.wrap (dd+1)=dd+1:=by rw [IntKind.wrap_i64];omega
     try refine RUN ?_
     apply EV.drawn 7 kR kR;intro xv yw
     (repeat (first | refine' DV ?_ | refine' DA ?_ | refine' DK0 ?_ | refine' DT ?_ | refine' DS ?_ | (refine' DJ.nilB rfl rfl rfl rfl rfl ?_;rotate_left) | (refine' DJ.fldB tO rfl rfl rfl rfl rfl rfl rfl ?_;rotate_left)))
     refine' DJ.ofVal (ValOk.loadOwn tO rfl rfl rfl rfl (0) rfl (rfl) rfl rfl) rfl rfl rfl ?_;rotate_left
     (repeat (first | refine' DV ?_ | refine' DA ?_ | refine' DK0 ?_ | refine' DT ?_ | refine' DS ?_ | (refine' DJ.nilB rfl rfl rfl rfl rfl ?_;rotate_left) | (refine' DJ.fldB tO rfl rfl rfl rfl rfl rfl rfl ?_;rotate_left)))
     (refine DJ.nil (fun G6 hG6 hF6=>?_);(case hS|hS2=>rfl))
     refine EVL.idxB tO rfl rfl rfl rfl rfl rfl rfl rfl rfl (ns.length) (ns.length*15) (rfl) (oM) (rfl) ?_
     refine EVL.fldB tO rfl rfl rfl rfl rfl rfl rfl ?_
     refine EVL.storeOwn tO rfl rfl rfl rfl rfl rfl ((b,T,_)::D2) ([]) rfl rfl rfl rfl ((row_fits (f:=0) hAl rfl (by show 0+1≤15;omega))) (row_set (f:=0) hAl rfl rfl (by show 0+1≤15;omega) rfl) ?_
     try refine RUN ?_
     apply EV.drawn 7 kR kR;intro xv yw
     (repeat (first | refine' DV ?_ | refine' DA ?_ | refine' DK0 ?_ | refine' DT ?_ | refine' DS ?_ | (refine' DJ.nilB rfl rfl rfl rfl rfl ?_;rotate_left) | (refine' DJ.fldB tO rfl rfl rfl rfl rfl rfl rfl ?_;rotate_left)))
     refine' DJ.ofVal (ValOk.loadOwn tO rfl rfl rfl rfl (0) rfl (rfl) rfl rfl) rfl rfl rfl ?_;rotate_left
     (repeat (first | refine' DV ?_ | refine' DA ?_ | refine' DK0 ?_ | refine' DT ?_ | refine' DS ?_ | (refine' DJ.nilB rfl rfl rfl rfl rfl ?_;rotate_left) | (refine' DJ.fldB tO rfl rfl rfl rfl rfl rfl rfl ?_;rotate_left)))
     (refine DJ.nil (fun G7 hG7 hF7=>?_);(case hS|hS2=>rfl))
     refine EVL.idxB tO rfl rfl rfl rfl rfl rfl rfl rfl rfl (ns.length) (ns.length*15) (rfl) (oM) (rfl) ?_
     refine EVL.fldB tO rfl rfl rfl rfl rfl rfl rfl ?_
     refine EVL.storeOwn tO rfl rfl rfl rfl rfl rfl ((b,T,_)::D2) ([]) rfl rfl rfl rfl ((row_fits (f:=5) hAl rfl (by show 5+3≤15;omega))) (row_set (f:=5) hAl rfl rfl (by show 5+3≤15;omega) rfl) ?_
     try refine RUN ?_
     (repeat (first | refine EVL.nilB rfl rfl rfl rfl rfl ?_ | refine EVL.fldB tO rfl rfl rfl rfl rfl rfl rfl ?_ | refine EVL.val tO rfl rfl rfl rfl rfl ?_))
     refine EVL.loadOwn tO rfl rfl rfl rfl rfl rfl (0) rfl (rfl) rfl rfl ?_
     try refine RUN ?_
     rw [wk]
     refine EVL.idxB tO rfl rfl rfl rfl rfl rfl rfl rfl rfl (ns.length) (ns.length*15) (rfl) (oM) (rfl) ?_
     refine EVL.fldB tO rfl rfl rfl rfl rfl rfl rfl ?_
     refine EVL.storeOwn tO rfl rfl rfl rfl rfl rfl ((b,T,_)::D2) ([]) rfl rfl rfl rfl ((row_fits (f:=1) hAl rfl (by show 1+1≤15;omega))) (row_set (f:=1) hAl rfl rfl (by show 1+1≤15;omega) rfl) ?_
     try refine RUN ?_
     rw [wd]
     have hH7:=hH5.trans (hG6.trans hG7)
     have hlo3:(lowL p.X c t rows).length≤300:=Nat.le_trans (List.length_filter_le _ _) hn
     have hhi3:(highL p.X c t rows).length≤300:=Nat.le_trans (List.length_filter_le _ _) hn
     have hlom:∀ r,r∈lowL p.X c t rows→0≤r∧r<(p.X.length:Int):=fun r hr=>hb r (List.mem_filter.mp hr).1
     have hhim:∀ r,r∈highL p.X c t rows→0≤r∧r<(p.X.length:Int):=fun r hr=>hb r (List.mem_filter.mp hr).1
     have hvt7:=RQ.mono hvt (hG4.trans (hG5.trans (hG6.trans hG7)))
     obtain ⟨n1,hn1⟩:∃ n1:Nd,({ p.nd rows with col:=c,left:=((ns.length+1:Nat):Int),at':=t }:Nd)=n1:=⟨_,rfl⟩
     have hr1:RNode G7 [.int .i64 c,.int .i64 ((ns.length+1:Nat):Int),.int .i64 0,.int .i64 (p.nd rows).rows,.int .i64 (p.nd rows).cls,.bool b1,.slice a1 l1 c1',.slice a2 l2 c2,.bool b11,.slice a11 l11 c11,.slice a12 l12 c12,.bool b13,.slice a13 l13 c13,.slice a14 l14 c14,.slice a15 (p.nd rows).counts.length c15] n1:=by
      subst hn1
      exact ⟨_,_,_,_,hvt7,k2.mono (hG6.trans hG7),k3.mono (hG6.trans hG7),k4.mono (hG6.trans hG7),rfl⟩
     have hl1:(ns++[n1]).length=ns.length+1:=by simp
     have hp2:2 ^ (e+1+1)=2 ^ (e+1)+2 ^ (e+1):=by rw [Nat.pow_succ];omega
     have hp3:2≤2 ^ (e+1):=by rw [Nat.pow_succ];have:=Nat.one_le_two_pow (n:=e);omega
     have hL:=ih' (H:=G7) (b:=b) (T:=T) (dd:=dd+1) (s:=(p.cols s).2) (ns:=ns++[n1]) (hg.mono hH7) (hX.mono hH7) (hgq.mono hH7) oM oM hd1 (hu5.mono (hG6.trans hG7)) hlo3 hlom hD2 (by rw [hl1];exact hback _ rfl) (hput G7 _ n1 (hG6.trans hG7) hr1) (by rw [hl1];omega)
     rw [hl1] at hL
     have hLl:=(p.grow_len e (ns.length+1) (lowL p.X c t rows) (p.cols s).2).2
     generalize hLe:p.grow e (ns.length+1) (lowL p.X c t rows) (p.cols s).2=Lp at *
     obtain ⟨Ls,s2⟩:=Lp
     dsimp only at hL hLl
     refine EVL.callW rfl rfl rfl rfl rfl _ [] (List.append_nil _).symm hL ?_
     rintro _ _ G8 ⟨rfl,out2,D3,ow3,css3,rfl,hD3,hown3,hns3⟩ hG8
     rw [List.append_nil ((b,T,_)::(D3++ow3))]
     rw [show ns++[n1]++Ls=ns++n1::Ls by simp] at hown3 hns3
     obtain ⟨cA3,c31,cB3,ecs3,hAl3,hnc3,hput3⟩:=hns3.mid
     rw [ecs3] at hown3
     clear ecs3
     obtain ⟨d9,e9,f9,h9,e10,f10,h10,d11,e11,f11,h11,e12,f12,h12,d13,e13,f13,h13,e14,f14,h14,e15,h15,rfl,j1,j2,j3,j4⟩:=hnc3.cells
     obtain ⟨go3,capo3,sp3,rfl,rfl,hback3⟩:=hown3.mid rfl
     have hl2:(ns++n1::Ls).length=ns.length+1+Ls.length:=by simp;omega
     rw [hl2] at hback3
     rw [hl2]
     try refine RUN ?_
     apply EV.drawn 10 kR kR;intro xv yw
     (repeat (first | refine' DV ?_ | refine' DA ?_ | refine' DK0 ?_ | refine' DT ?_ | refine' DS ?_ | (refine' DJ.nilB rfl rfl rfl rfl rfl ?_;rotate_left) | (refine' DJ.fldB tO rfl rfl rfl rfl rfl rfl rfl ?_;rotate_left)))
     refine' DJ.ofVal (ValOk.loadOwn tO rfl rfl rfl rfl (0) rfl (rfl) rfl rfl) rfl rfl rfl ?_;rotate_left
     (repeat (first | refine' DV ?_ | refine' DA ?_ | refine' DK0 ?_ | refine' DT ?_ | refine' DS ?_ | (refine' DJ.nilB rfl rfl rfl rfl rfl ?_;rotate_left) | (refine' DJ.fldB tO rfl rfl rfl rfl rfl rfl rfl ?_;rotate_left)))
     refine' DJ.ofVal (ValOk.loadOwn tO rfl rfl rfl rfl (0) rfl (rfl) rfl rfl) rfl rfl rfl ?_;rotate_left
     (repeat (first | refine' DV ?_ | refine' DA ?_ | refine' DK0 ?_ | refine' DT ?_ | refine' DS ?_ | (refine' DJ.nilB rfl rfl rfl rfl rfl ?_;rotate_left) | (refine' DJ.fldB tO rfl rfl rfl rfl rfl rfl rfl ?_;rotate_left)))
     (refine DJ.nil (fun G9 hG9 hF9=>?_);(case hS|hS2=>rfl))
     refine EVL.idxB tO rfl rfl rfl rfl rfl rfl rfl rfl rfl (ns.length) (ns.length*15) (rfl) (oM) (rfl) ?_
     refine EVL.fldB tO rfl rfl rfl rfl rfl rfl rfl ?_
     refine EVL.storeOwn tO rfl rfl rfl rfl rfl rfl ((b,T,_)::D3) ([]) rfl rfl rfl rfl ((row_fits (f:=2) hAl3 rfl (by show 2+1≤15;omega))) (row_set (f:=2) hAl3 rfl rfl (by show 2+1≤15;omega) rfl) ?_
     try refine RUN ?_
     rw [wd]
     obtain ⟨n2,hn2⟩:∃ n2:Nd,({ n1 with right:=((ns.length+1+Ls.length:Nat):Int) }:Nd)=n2:=⟨_,rfl⟩
     have hr2:RNode G9 [.int .i64 n1.col,.int .i64 n1.left,.int .i64 ((ns.length+1+Ls.length:Nat):Int),.int .i64 n1.rows,.int .i64 n1.cls,.bool d9,.slice e9 f9 h9,.slice e10 f10 h10,.bool d11,.slice e11 f11 h11,.slice e12 f12 h12,.bool d13,.slice e13 f13 h13,.slice e14 f14 h14,.slice e15 n1.counts.length h15] n2:=by
      subst hn2
      exact ⟨_,_,_,_,j1.mono hG9,j2.mono hG9,j3.mono hG9,j4.mono hG9,rfl⟩
     have hH9:=hH7.trans (hG8.trans hG9)
     have hl3:(ns++n2::Ls).length=ns.length+1+Ls.length:=by simp;omega
     have hR:=ih' (H:=G9) (b:=b) (T:=T) (dd:=dd+1) (s:=s2) (ns:=ns++n2::Ls) (hg.mono hH9) (hX.mono hH9) (hgq.mono hH9) oM oM hd1 (hw5.mono (hG6.trans (hG7.trans (hG8.trans hG9)))) hhi3 hhim hD3 (by rw [hl3];exact hback3 _ rfl) (hput3 G9 _ n2 hG9 hr2) (by rw [hl3];omega)
     rw [hl3] at hR
     generalize hRe:p.grow e (ns.length+1+Ls.length) (highL p.X c t rows) s2=Rp at *
     obtain ⟨Rs,s3⟩:=Rp
     dsimp only at hR
     refine EVL.callW rfl rfl rfl rfl rfl _ [] (List.append_nil _).symm hR ?_
     rintro _ _ G10 ⟨rfl,out4,D4,ow4,css4,rfl,hD4,hown4,hns4⟩ hG10
     rw [List.append_nil ((b,T,_)::(D4++ow4))]
     try refine RUN ?_
     have hfin:ns++n2::Ls++Rs=ns++({ p.nd rows with col:=c,left:=((ns.length+1:Nat):Int),right:=((ns.length+1+Ls.length:Nat):Int),at':=t }::(Ls++Rs)):=by
      subst hn2;subst hn1
      simp
     rw [hfin] at hown4 hns4
     refine ⟨rfl,out4,D4,ow4,css4,rfl,?_,?_,?_⟩
     ·exact hD4
     ·exact hown4
     ·exact hns4
section
variable {P:Program} {n:Nat} {ops:Array Oper} {o1 o2:Oper} {rest:List Oper} {env:Env} {bx:Bxs} {H:Hs} {Q:EQ} {d d1:Nat}
theorem EVL.convCall {src dst e:TypeId} {u:TypeDesc} {x:Operand} (ho1:o1.op=.convert src dst x) (hg1:o1.guard=none) (hd1:o1.dst=some d1) (hn1:Nat.blt d1 n=true) (hs:P.underlying src=some u) (hdt:P.underlying dst=some (.slice e)) (he:P.underlying e=some (.int .u8)) {s:ByteArray} (hx:env.op x=some (.v (.string s)))
  {f:FuncId} {tys:Array TypeId} (ho2:o2.op=.call ⟨.value (.func f),#[.tmp d1],tys⟩) (hg2:o2.guard=none) (hd2:o2.dst=some d) (hn2:Nat.blt d n=true) {v:Value}
  (hpc:∀ (G:Hp) (g cap:Nat) (c:Array Value),s.size≤cap→G g=some c→(∀ (j:Nat) (b:UInt8),s.data[j]?=some b→c[j]?=some (Value.int .u8 (b.toNat:Int)))→PC P f #[.slice (some ⟨g,0,none⟩) s.size cap] G fun r _=>r=v)
  (h:∀ g cap,EVL P n ops rest ((d,.v v)::(d1,.v (.slice (some ⟨g,0,none⟩) s.size cap))::env) bx H Q):EVL P n ops (o1::o2::rest) env bx H Q:=fun W0 β a W r=>by
 have ex:a.eval x=.string s:=r.op hx
 refine wpList_plain hg1 fun K hK=>?_
 have hrun:(execOp a.eval o1).run P W=.ok (.value (.slice (some ⟨W.heap.size,0,none⟩) s.size (grownCap W s.size 0 e))) (Lib.bytesWorld W e s):=by
  unfold execOp
  simp only [ho1,ex,Sem.run_bind,Lib.run_convert_string_bytes W src dst e s hs hdt he,Result.andThen_ok,Sem.run_pure]
 unfold Oper.wp
 rw [hrun,Oper.upon_value]
 apply hK
 rw [hd1]
 have hB1:Below W.heap.size W (Lib.bytesWorld W e s):=⟨rfl,rfl,rfl,by rw [Lib.bytesWorld_size];omega,fun k hk=>Lib.bytesWorld_at_old W e s k hk⟩
 have hnw:=Lib.bytesWorld_at_new W e s
 have hcell:∀ (j:Nat) (b:UInt8),s.data[j]?=some b→(Lib.bytesCells W e s)[j]?=some (Value.int .u8 (b.toNat:Int)):=fun j b hj=>by
  have hjl:=(Array.getElem?_eq_some_iff.1 hj).1
  unfold Lib.bytesCells
  rw [Array.getElem?_append_left (by simpa using hjl),Array.getElem?_map,hj];rfl
 generalize Lib.bytesWorld W e s=W1 at *
 generalize Lib.bytesCells W e s=cs at *
 have hcap:=grownCap_ge W s.size 0 e
 generalize grownCap W s.size 0 e=cap at *
 have hgn:H.ro W.heap.size=none:=by
  cases hc:H.ro W.heap.size with
  | none=>rfl
  | some c=>have:=r.fits.lt (b:=W.heap.size) (by rw [hc];simp);omega
 have r1:=r.grow (Hp.Le.refl H.ro) (r.fits.below hB1) hB1 (Nw.refl _ _ _)
 have r2:Rel n W0 H.base β ((d1,.v (.slice (some ⟨W.heap.size,0,none⟩) s.size cap))::env) bx ⟨H.ro,H.ow,H.base⟩ (a.put (some d1) (.slice (some ⟨W.heap.size,0,none⟩) s.size cap)) W1:=r1.put hn1 rfl rfl
 have hfG:Fits (H.ro.put W.heap.size cs) W1:=fun b c hb=>by
  unfold Hp.put at hb
  split at hb
  ·rename_i e1
   subst e1
   cases hb
   exact ⟨_,_,hnw⟩
  ·exact r1.fits b c hb
 have hpc1:=hpc (H.ro.put W.heap.size cs) W.heap.size cap cs hcap (by simp [Hp.put]) hcell
 refine wpList_plain hg2 fun K2 hK2=>?_
 unfold Oper.wp
 have hev:(a.put (some d1) (.slice (some ⟨W.heap.size,0,none⟩) s.size cap)).eval (.tmp d1)=(.slice (some ⟨W.heap.size,0,none⟩) s.size cap):=by
  have h3:Env.op ((d1,.v (.slice (some ⟨W.heap.size,0,none⟩) s.size cap))::env) (.tmp d1)=some (.v (.slice (some ⟨W.heap.size,0,none⟩) s.size cap)):=by simp [Env.op,Env.get_cons]
  exact r2.op h3
 have hvs:List.map (a.put (some d1) (.slice (some ⟨W.heap.size,0,none⟩) s.size cap)).eval (#[Operand.tmp d1]:Array Operand).toList=[(.slice (some ⟨W.heap.size,0,none⟩) s.size cap)]:=by simp [hev]
 rw [run_call_enter hpc1.can ho2 hvs,Oper.upon_enter]
 refine (hpc1.run W1 hfG r1.globW).mono ?_
 rintro e2 W2 ⟨v',H',rfl,rfl,hle,hf,hb,_⟩
 apply hK2
 rw [hd2]
 have hf2:Fits H.ro W2:=(hf.mono hle).mono fun k c hk=>by
  have:k≠W.heap.size:=fun e3=>by subst e3;rw [hgn] at hk;cases hk
  simp only [Hp.put,if_neg this];exact hk
 exact h W.heap.size cap W0 β _ W2 ((r2.grow (Hp.Le.refl H.ro) hf2 hb (Nw.refl _ _ _)).put hn2 rfl rfl)
theorem EVL.xorI {o:Oper} {T T':TypeId} {x y:Operand} {k:IntKind} {a b:Int} (ho:o.op=.binOp .xor T x y T') (hw:wantB ops env o=some true) (hd:o.dst=some d) (hn:Nat.blt d n=true) (hx:env.op x=some (.v (.int k a))) (hy:env.op y=some (.v (.int k b)))
  (h:EVL P n ops rest ((d,.v (.int k (bits .xor k a b)))::env) bx H Q):EVL P n ops (o::rest) env bx H Q :=
 EVL.gen hw hd hn (fun ev W he=>by
  have h1:=he x _ (by simp [ho,Op.operands]) hx
  have h2:=he y _ (by simp [ho,Op.operands]) hy
  unfold execOp
  simp [ho,h1,h2,eqGuard,binOp,Op.intBits,bits]) h
end
end Go.Proofs.YtgjepkeeeemppaaGreatDoor
namespace Go.Proofs.YtgjepkeeeemppaaGreatDoor
section
variable {α:Type}
variable {lt:α→α→Bool}
end
end Go.Proofs.YtgjepkeeeemppaaGreatDoor
namespace Go.Proofs.YtgjepkeeeemppaaGreatDoor
open Go.RowKit _root_.Go.Proofs.Tryz
def Rw {α:Type} (enc:α→Value) (w:World) (B:Nat) (T:TypeId) (cap:Nat) (l:List α):Prop :=
 l.length≤cap∧∃ cur,w.heap[B]?=some (.cells cur T (0,0))∧cur.size=cap∧cur.toList.take l.length=l.map enc
section
variable {α:Type} {enc:α→Value} {w w':World} {B:Nat} {T:TypeId} {cap:Nat} {l:List α}
theorem Rw.lt (h:Rw enc w B T cap l):B<w.heap.size:=by obtain ⟨_,cur,h,_⟩:=h;exact lt_of_block h
theorem Rw.cell (h:Rw enc w B T cap l) (j:Nat) (hj:j<l.length):w.cell? ⟨B,j,none⟩=some (enc l[j]):=by
 obtain ⟨hl,cur,hb,hs,ht⟩:=h
 rw [cell_of_row w B j cur T (0,0) hb]
 have:(cur.toList.take l.length)[j]?=(l.map enc)[j]?:=by rw [ht]
 rw [List.getElem?_take_of_lt hj] at this
 rw [← Array.getElem?_toList,this];simp [hj]
theorem Rw.free (h:Rw enc w B T cap l) (j:Nat):w.frozen? ⟨B,j,none⟩=false:=by
 obtain ⟨hl,cur,hb,hs,ht⟩:=h
 simp [World.frozen?,hb]
theorem Rw.set (h:Rw enc w B T cap l) (j:Nat) (x:α):Rw enc (w.setCell ⟨B,j,none⟩ (enc x)) B T cap (l.set j x):=by
 have hlt:=h.lt
 obtain ⟨hl,cur,hb,hs,ht⟩:=h
 refine ⟨by simpa using hl,cur.setIfInBounds j (enc x),?_,by simpa using hs,?_⟩
 ·show (w.heap.modify B _)[B]?=_
  rw [Array.getElem?_modify,if_pos rfl,hb]
  simp
 ·rw [List.length_set,Array.toList_setIfInBounds,List.take_set,ht,List.map_set]
theorem Rw.drew (h:Rw enc w B T cap l):Rw enc w.drew B T cap l:=h
theorem Rw.owns (h:Rw enc w B T cap l) (base:Nat) (hb:base≤B) (hc:cap≤maxLen):w.ownsRow base T 1 (.slice (some ⟨B,0,none⟩) l.length cap) l.length (l.map enc):=by
 obtain ⟨hl,cur,hh,hs,ht⟩:=h
 exact ⟨by simp,.inr ⟨B,cap,cur,rfl,hb,hh,hl,hc,by omega,by rw [Nat.mul_one];exact ht⟩⟩
end
theorem Rw.cellD {w:World} {B:Nat} {T:TypeId} {cap:Nat} {l:List Int} (h:Rw i64 w B T cap l) (j:Nat) (x:Int) (hj:j<l.length) (hx:l.getD j 0=x):w.cell? ⟨B,j,none⟩=some (.int .i64 x):=by
 rw [h.cell j hj,← hx];simp [hj]
def restL (n:Nat) (l:List Int):List Int:=(upTo n).filter fun x=>decide (x ∉ l)
theorem restL_succ (n:Nat) (l:List Int):restL (n+1) l=restL n l++(if (n:Int)∈l then [] else [(n:Int)]):=by
 unfold restL
 rw [upTo_succ,List.filter_append]
 congr 1
 by_cases h:(n:Int)∈l <;> simp [h]
theorem restL_le (n:Nat) (l:List Int):(restL n l).length≤n:=by
 unfold restL
 have:=List.length_filter_le (fun x=>decide (x ∉ l)) (upTo n)
 rw [upTo_length] at this
 exact this
theorem Rw.of_owns {α:Type} {enc:α→Value} {w:World} {base:Nat} {T:TypeId} {g cap n:Nat} {l:List α} (h:w.ownsRow base T 1 (.slice (some ⟨g,0,none⟩) n cap) n (l.map enc)):Rw enc w g T cap l∧base≤g∧cap≤maxLen∧n=l.length:=by
 have hn:n=l.length:=by have:=h.1;simp at this;omega
 rcases h.2 with ⟨h0,_⟩ | ⟨g',cap',cur,hv,hb,hh,h1,h2,h3,h4⟩
 ·cases h0
 ·cases hv
  subst hn
  exact ⟨⟨h1,cur,hh,by omega,by rw [Nat.mul_one] at h4;exact h4⟩,hb,h2,rfl⟩
theorem put_sorted (S:List Int) (x:Int) (k:Nat) (hS:S.Pairwise (·≤·)) (h1:∀ y∈S.drop k,x<y) (h2:∀ y∈S.take k,y≤x):(S.take k++x::S.drop k).Pairwise (·≤·):=by
 have hS':(S.take k++S.drop k).Pairwise (·≤·):=by rw [List.take_append_drop];exact hS
 obtain ⟨a,b,c⟩:=List.pairwise_append.1 hS'
 refine List.pairwise_append.2 ⟨a,List.pairwise_cons.2 ⟨fun y hy=>by have:=h1 y hy;omega,b⟩,fun y hy z hz=>?_⟩
 rcases List.mem_cons.1 hz with rfl | hz
 ·exact h2 y hy
 ·exact c y hy z hz
theorem put_end (S T:List Int) (x:Int) (k:Nat) (hS:S.Pairwise (·≤·)) (hp:S.Perm T) (h1:∀ y∈S.drop k,x<y) (h2:∀ y∈S.take k,y≤x):sortI (T++[x])=S.take k++x::S.drop k:=by
 refine sortI_of_perm ?_ (put_sorted S x k hS h1 h2)
 refine (List.perm_append_singleton _ _).trans ?_
 refine (List.Perm.cons x hp.symm).trans ?_
 refine List.Perm.trans ?_ List.perm_middle.symm
 rw [List.take_append_drop]
theorem put_rw {w:World} {g cap j n:Nat} {T:TypeId} (S l:List Int) (x d:Int) (k:Nat) (base:Nat) (hR:Rw i64 w g T cap (S.take k++d::S.drop k)) (hk:k≤S.length) (hS:S.Pairwise (·≤·)) (hp:S.Perm (l.take j)) (h1:∀ y∈S.drop k,x<y) (h2:∀ y∈S.take k,y≤x) (hts:l.take (j+1)=l.take j++[x]) (hn:n=S.length+1) (hb:base≤g) (hc:cap≤maxLen) :
  (w.setCell ⟨g,k,none⟩ (.int .i64 x)).ownsRow base T 1 (.slice (some ⟨g,0,none⟩) n cap) n ((sortI (l.take (j+1))).map i64):=by
 have h:=hR.set k x
 rw [List.set_append_right _ _ (by simp;omega),show k-(S.take k).length=0 by simp;omega,List.set_cons_zero] at h
 rw [hts,put_end S (l.take j) x k hS hp h1 h2]
 have:=h.owns base hb hc
 rw [show (S.take k++x::S.drop k).length=n by simp;omega] at this
 exact this
theorem getD_take_mid (S Q:List Int) (d:Int) (k:Nat) (h:k≤S.length):(S.take k++d::Q).getD k 0=d:=by
 rw [List.getD_eq_getElem?_getD,List.getElem?_append_right (by simp;omega)]
 simp [Nat.min_eq_left h]
set_option maxRecDepth 100000 in
set_option maxHeartbeats 1600000 in
theorem rising_any (v:Value) (l:List Int) (w:World) (hS:Sl i64 w v l) (hl:l.length≤100000) :
  Calls prog 73 #[v] w fun e w'=>∃ v',e=.returned v'∧w'.ownsRow w.heap.size 3 1 v' l.length ((sortI l).map i64)∧Below w.heap.size w w':=by
 obtain ⟨a,cap,rfl⟩:=hS.len
 go_enter func73,ntmps73
 go_wp2
 go_loopg [3,4,5] l.length (fun g v i _ wr=>∃ j:Nat,j+g=l.length∧i=.int .i64 j∧wr.ownsRow w.heap.size 3 1 v j ((sortI (l.take j)).map i64)∧Below w.heap.size w wr)
 case atStart=>exact ⟨0,by omega,rfl,by simpa [sortI] using World.ownsRow_nil _ _ _ _,Below.refl _ _⟩
 case round =>
  obtain ⟨j,hj,rfl,hown,hB⟩:=hrel
  by_cases hlt:j<l.length
  ·obtain ⟨b,off,rfl,hb,hc⟩:=hS.at j hlt
   have hcr:=(hB.cell (p:=⟨b,off+j,none⟩) hb).trans hc
   have hts:l.take (j+1)=l.take j++[l[j]]:=List.take_succ_eq_append_getElem hlt
   generalize l[j]=x at *
   have HJ:=hid (And.intro hj hts)
   clear hj hts
   have hsz:=hB.size
   have hSs:=sortI_sorted (l.take j)
   have hSp:=sortI_perm (l.take j)
   have hSl:(sortI (l.take j)).length=j:=by rw [sortI_length];simp;omega
   obtain ⟨uv,hu3⟩:∃ a' cap',u3=.slice a' j cap':=by
    rcases hown.2 with ⟨h,h0⟩ | ⟨g,cap,cur,h,_⟩
    ·exact ⟨none,0,by rw [h,h0]⟩
    ·exact ⟨_,_,h⟩
   obtain ⟨cap0,rfl⟩:=hu3
   generalize sortI (l.take j)=S at *
   have HS:=hid (And.intro hSs (And.intro hSp hSl))
   clear hSs hSp hSl
   go_wp2_with (at_builtin;refine app1 rfl _ _ 23 rfl w.heap.size 3 (.int .i64 0) 8 Tryz.infoInt Tryz.underlying23 rfl _ _ _ rfl hown _ rfl rfl oM oM hsz ?_;intro g' cap' w1 hown1 hk1)
   have hne:∀ k,(Value.slice uv j cap0).ownBlock=some k→w.heap.size≤k:=fun k e=>(hown.lt k e).1
   have hB1:Below w.heap.size w w1:=hB.trans (hk1.below _ hB.size (fun k hk e=>by have:=hne k e;omega))
   have hown2:w1.ownsRow w.heap.size 3 1 (.slice (some ⟨g',0,none⟩) (j+1) cap') (j+1) ((S++[x]).map i64):=by simpa using hown1
   obtain ⟨hR1,hbg,hcm,hnn⟩:=Rw.of_owns hown2
   clear hnn hown hown1 hown2 hne hk1 hB hcr
   go_loopg [5] j (fun g vk wr=>∃ (k:Nat) (d:Int),k=g∧k≤j∧vk=.int .i64 k∧(∀ y∈S.drop k,x<y)∧Rw i64 wr g' 3 cap' (S.take k++d::S.drop k)∧Below w.heap.size w wr)
   case atStart =>
    obtain ⟨hSs,hSp,hSl⟩:=HS.out
    refine ⟨j,x,rfl,Nat.le_refl _,rfl,?_,?_,hB1⟩
    ·rw [List.drop_eq_nil_of_le (by omega)];simp
    ·rw [List.drop_eq_nil_of_le oM,List.take_of_length_le (by omega)];exact hR1
   case round =>
    obtain ⟨k,d,hkg,hkj,rfl,hall,hR2,hB2⟩:=hrel
    obtain ⟨hSs,hSp,hSl⟩:=HS.out
    have hcx:=(hB2.cell (p:=⟨b,off+j,none⟩) hb).trans hc
    have hLl:(S.take k++d::S.drop k).length=j+1:=by simp;omega
    have hdk:(S.take k++d::S.drop k).getD k 0=d:=getD_take_mid S _ d k oM
    have hck:=hR2.cellD k d oM hdk
    have hfk:=hR2.free k
    by_cases hk0:0<k
    ·obtain ⟨k',rfl⟩:∃ k',k=k'+1:=⟨k-1,by omega⟩
     have hk'S:k'<S.length:=by omega
     have et:S.take (k'+1)=S.take k'++[S[k']]:=List.take_succ_eq_append_getElem hk'S
     have ed:S.drop k'=S[k']::S.drop (k'+1):=List.drop_eq_getElem_cons hk'S
     have hle:∀ y∈S.take k',y≤S[k']:=by
      intro y hy
      obtain ⟨i,hi,rfl⟩:=List.mem_take_iff_getElem.1 hy
      exact List.pairwise_iff_getElem.1 hSs i k' oM hk'S oM
     have hpy:(S.take (k'+1)++d::S.drop (k'+1)).getD k' 0=S[k']:=by
      rw [et,List.append_assoc]
      exact getD_take_mid S _ _ k' oM
     have hcy:=hR2.cellD k' S[k'] oM hpy
     have hset:=hR2.set (k'+1) S[k']
     have hsl2:(S.take (k'+1)++d::S.drop (k'+1)).set (k'+1) S[k']=S.take k'++S[k']::S.drop k':=by
      rw [List.set_append_right _ _ (by simp;omega),show k'+1-(S.take (k'+1)).length=0 by simp;omega,List.set_cons_zero,et,ed,List.append_assoc]
      rfl
     rw [hsl2] at hset
     have hlast:x≥S[k']→∀ y∈S.take (k'+1),y≤x:=fun h y hy=>by
      rw [et,List.mem_append,List.mem_singleton] at hy
      rcases hy with hy | rfl
      ·have:=hle y hy;omega
      ·exact h
     have hmore:x<S[k']→∀ y∈S.drop k',x<y:=fun h y hy=>by
      rw [ed] at hy
      rcases List.mem_cons.1 hy with rfl | hy
      ·exact h
      ·exact hall y hy
     generalize S[k']=y at *
     have HX:=hid (And.intro hset (And.intro hlast (And.intro hmore hkg)))
     clear hset hlast hmore hkg et ed hle hpy hsl2 hLl hdk hSs hSp hSl
     have t1:decide (0<k'+1)=true:=by simp
     have t2:(((k'+1:Nat):Int)-1).toNat=k':=by omega
     have t3:IntKind.i64.wrap (((k'+1:Nat):Int)-1)=(k':Int):=by rw [IntKind.wrap_i64];omega
     have t5:k'<j+1:=by omega
     by_cases hxy:x<y
     ·have t4:decide (x<y)=true:=by simpa using hxy
      go_wp2
      go_quiet (fail)
      go_wp2
      go_roundg k'
      case measure=>have:=HX.out.2.2.2;omega
      case rel=>exact ⟨k',y,rfl,by omega,by go_num,HX.out.2.2.1 hxy,HX.out.1,(below_drewN' hB2 _).setCell (p:=⟨g',k'+1,none⟩) hbg _⟩
     ·have t4:decide (x<y)=false:=by simpa using hxy
      go_wp2
      go_quiet (fail)
      go_wp2
      go_roundg (l.length-(j+1))
      case measure=>have:=HJ.out.1;omega
      case rel =>
       obtain ⟨hSs,hSp,hSl⟩:=HS.out
       exact ⟨j+1,by omega,by go_num,put_rw S l x d (k'+1) w.heap.size hR2.drew oM hSs hSp hall (HX.out.2.1 oM) HJ.out.2 oM hbg hcm,(below_drewN' hB2 _).setCell (p:=⟨g',k'+1,none⟩) hbg _⟩
    ·obtain rfl:k=0:=by omega
     clear hSs hSp hSl hLl hdk hkg
     go_wp2
     go_quiet (fail)
     go_wp2
     go_roundg (l.length-(j+1))
     case measure=>have:=HJ.out.1;omega
     case rel =>
      obtain ⟨hSs,hSp,hSl⟩:=HS.out
      exact ⟨j+1,by omega,by go_num,put_rw S l x d 0 w.heap.size hR2.drew oM hSs hSp hall (by simp) HJ.out.2 oM hbg hcm,(below_drewN' hB2 _).setCell (p:=⟨g',0,none⟩) hbg _⟩
  ·obtain rfl:j=l.length:=by omega
   rw [List.take_length] at hown
   go_wp2
   go_ret
   exact ⟨_,rfl,hown,hB⟩
def sumN (l:List Nat):Int:=l.foldl (fun (h:Int) (b:Nat)=>IntKind.u64.wrap (bits .xor .u64 h (IntKind.u64.wrap (b:Int))*1099511628211)) 14695981039346656037
theorem sumN_snoc (l:List Nat) (b:Nat):sumN (l++[b])=IntKind.u64.wrap (bits .xor .u64 (sumN l) (IntKind.u64.wrap (b:Int))*1099511628211):=by unfold sumN;rw [List.foldl_append];rfl
set_option maxHeartbeats 4000000 in
theorem rsum_pc {H:Hp} {v:Value} {l:List Nat} (h:SlN n8 H v l) (hl:l.length≤1000000):PC prog 72 #[v] H fun r _=>r=.int .u64 (sumN l):=by
 obtain ⟨a,cap,rfl⟩:=SlC.val h
 refine BD func72 ntmps72 ?_
 try refine RUN ?_
 refine EV.loopK (ι:=Nat) [0] [] (fun q=>[(3,.v (.int .u64 (sumN (l.take q)))),(4,.v (.int .i64 (q:Int)))]) (fun _=>[]) (fun _=>[]) (fun q _=>q≤l.length) (fun q=>l.length-q) (0) rfl rfl ⟨rfl,rfl,trivial⟩ trivial rfl (fun _=>rfl) (Nat.zero_le _) ?_
 rintro i G1 hG1 hi
 try refine RUN ?_
 refine EV.cond rfl (fun hlt=>?_) (fun hlt=>?_)
 ·simp only [nN] at hlt
  obtain ⟨z,hz⟩:∃ z,l[i]?=some z:=⟨_,List.getElem?_eq_getElem hlt⟩
  try refine RUN ?_
  refine EVL.idxR tO rfl rfl rfl rfl rfl rfl rfl rfl rfl rfl ((h.mono hG1)) (i) (rfl) (hlt) ((by rw [List.getElem?_map,hz];rfl)) ?_
  try refine RUN ?_
  refine EVL.xorI rfl rfl rfl rfl rfl rfl ?_
  try refine RUN ?_
  refine ⟨i+1,⟨by rw [take_snoc hz,sumN_snoc];rfl,by rw [wi_inc i (by omega)];rfl,trivial⟩,sB,trivial,trivial,rfl,hlt,Hp.Le.refl _,by omega⟩
 ·simp only [nN] at hlt
  obtain rfl:i=l.length:=by omega
  rw [List.take_length]
  try refine RUN ?_
  rfl
def forkS (s:Int) (t:ByteArray):Int:=bits .xor .u64 (mix (nxt s)) (sumN (t.data.toList.map UInt8.toNat))
set_option maxHeartbeats 4000000 in
theorem rfork_pw {H:Hp} {b:Nat} {T:TypeId} {s:Int} {t:ByteArray} (hs:0≤s) (ht:t.size≤1000000) :
  PW prog 33 #[.pointer (some ⟨b,0,none⟩),.string t] H [(b,T,[.int .u64 s])] fun v ow _=>∃ T' g,v=.pointer (some ⟨g,0,none⟩)∧ow=[(g,100,[.int .u64 (forkS s t)]),(b,T',[.int .u64 (nxt s)])]∧0≤nxt s∧0≤forkS s t:=by
 refine PW.body tO func33 rfl kR ntmps33 rfl rfl ?_
 try refine RUN ?_
 refine EVL.callW rfl rfl rfl rfl rfl ([(b,T,[.int .u64 s])]) ([]) rfl (rnext_pw hs) ?_
 rintro _ ow1 G1 ⟨rfl,⟨T1,rfl⟩,hn⟩ hG1
 try refine RUN ?_
 refine EVL.convCall (e:=5) rfl rfl rfl rfl Tryz.underlying9 Tryz.underlying146 Tryz.underlying5 rfl rfl rfl rfl rfl (fun G g cap c hc hG hcell=>rsum_pc (l:=t.data.toList.map UInt8.toNat) ⟨by simp,?_⟩ (by simpa using ht)) fun g cap=>?_
 ·rw [List.length_map,Array.length_toList]
  refine .inr ⟨g,0,cap,c,rfl,hc,hG,fun j x hj=>?_⟩
  rw [List.getElem?_map,List.getElem?_map,Array.getElem?_toList] at hj
  cases hb:t.data[j]? with
  | none=>rw [hb] at hj;cases hj
  | some b =>
   rw [hb] at hj
   cases hj
   rw [Nat.zero_add]
   exact hcell j b hb
 refine EVL.xorI rfl rfl rfl rfl rfl rfl ?_
 refine EVL.val tO rfl rfl rfl rfl rfl ?_
 refine EVL.box rfl rfl rfl rfl rfl rfl rfl ?_
 (first | refine EVL.unbox (12) rfl fun g2=>?_ | refine EV.unbox (12) rfl fun g2=>?_)
 try refine RUN ?_
 exact ⟨_,g2,rfl,rfl,hn,(bits_range _ _ _).1⟩
theorem PO.of_row {P:Program} {f:FuncId} {args:Array Value} {H:Hp} {n:Nat} {E:TypeId} {xs:List Value} (can:Callable P f) (h:∀ W,Fits H W→Calls P f args W fun e w'=>∃ v',e=.returned v'∧w'.ownsRow W.heap.size E 1 v' n xs∧Below W.heap.size W w'):PO P f args H fun v ow=>OwnL E 1 v n xs ow :=
 ⟨can,fun W hf _=>(h W hf).mono fun e W' ⟨v,he,hrow,hb⟩=>by
  obtain ⟨ow,h1,h2⟩:=ownL_of_row hrow
  exact ⟨v,ow,he,h1,h2,hb⟩⟩
theorem PC.of_po {P:Program} {f:FuncId} {args:Array Value} {H:Hp} {E:TypeId} {l:List Int} (h:PO P f args H fun v ow=>OwnL E 1 v l.length (l.map i64) ow):PC P f args H fun v H'=>IL H' v l :=
 ⟨h.can,fun W hf hg=>(h.run W hf hg).mono fun e W' ⟨v,ow,he,hown,⟨hlen,hnew⟩,hb⟩=>by
  rcases hown.2 with ⟨rfl,h0,rfl⟩ | ⟨g,cap,sp,rfl,rfl,h1,h2,h3⟩
  ·exact ⟨_,H,he,⟨by simp,.inl ⟨h0,none,0,rfl⟩⟩,Hp.Le.refl _,hf.below hb,hb,Nw.refl _ _ _⟩
  ·obtain ⟨hg1,hB⟩:=hnew g E _ (List.mem_singleton.2 rfl)
   have hn:H g=none:=by
    cases hc:H g with
    | none=>rfl
    | some c=>have:=hf.lt (b:=g) (by rw [hc];simp);omega
   refine ⟨_,H.put g (l.map i64++sp).toArray,he,⟨by simp,.inr ⟨g,0,cap,(l.map i64++sp).toArray,rfl,h2,by simp [Hp.put],fun j x hj=>?_⟩⟩,fun k c hc=>?_,fun k c hc=>?_,hb,fun k c hc=>?_⟩
   ·rw [Nat.zero_add]
    have hj':=(List.getElem?_eq_some_iff.1 hj).1
    simp only [List.getElem?_toArray]
    rw [List.getElem?_append_left hj']
    exact hj
   ·have:k≠g:=fun e=>by subst e;rw [hn] at hc;cases hc
    simp only [Hp.put,if_neg this];exact hc
   ·by_cases e:k=g
    ·subst e;simp only [Hp.put,if_true] at hc;cases hc;exact ⟨E,(0,0),hB⟩
    ·simp only [Hp.put,if_neg e] at hc;exact hf.below hb k c hc
   ·by_cases e:k=g
    ·subst e;simp only [Hp.put,if_true] at hc;cases hc;exact .inr ⟨hg1,E,hB⟩
    ·simp only [Hp.put,if_neg e] at hc;exact .inl hc⟩
theorem rising_pc {H:Hp} {v:Value} {l:List Int} (h:IL H v l) (hl:l.length≤100000):PC prog 73 #[v] H fun r H'=>IL H' r (sortI l) :=
 PC.of_po (E:=3) (PO.of_row (cO func73) fun W hf=>by
  obtain ⟨a,cap,rfl,hs,_⟩:=SlN.sl h hf
  rw [sortI_length]
  exact rising_any _ l W hs hl)
set_option maxHeartbeats 8000000 in
theorem rrest_pc {H:Hp} {v:Value} {l:List Int} (h:IL H v l) (n:Nat) (hn:n≤300) (hl:l.length≤100000):PC prog 75 #[.int .i64 (n:Int),v] H fun r H'=>IL H' r (restL n l):=by
 obtain ⟨a,cap,rfl⟩:=SlC.val h
 refine BD func75 ntmps75 ?_
 try refine RUN ?_
 rw [decide_eq_false (show ¬ (n:Int)>300 by omega)]
 try refine RUN ?_
 refine EV.loopK (ι:=Nat × Value × Ows) [0,1] [] (fun q=>[(5,.v q.2.1),(6,.v (.int .i64 (q.1:Int)))]) (fun _=>[]) (fun q=>q.2.2) (fun q _=>q.1≤n∧OwnL 3 1 q.2.1 (restL q.1 l).length ((restL q.1 l).map iv) q.2.2) (fun q=>n-q.1) ((0,.slice none 0 0,[])) rfl rfl ⟨rfl,rfl,trivial⟩ trivial rfl (fun _=>rfl) (⟨Nat.zero_le _,OwnL.nil _ _⟩) ?_
 rintro ⟨i,w,ow⟩ G1 hG1 ⟨hi,hown⟩
 dsimp only at hi hown
 obtain ⟨wa,wc,rfl⟩:=hown.val
 have hrl:=restL_le i l
 have hsn:=restL_succ i l
 have wn:IntKind.i64.wrap ((i:Int)+1)=((i+1:Nat):Int):=wi_inc i oM
 try refine RUN ?_
 refine EV.cond rfl (fun hlt=>?_) (fun hlt=>?_)
 ·simp only [nN] at hlt
  try refine RUN ?_
  refine EV.loopK (ι:=Nat) [0,1,5,6] [] (fun k=>[(7,.v (.bool (decide ((i:Int)∈l.take k)))),(8,.v (.int .i64 (k:Int)))]) (fun _=>[]) (fun _=>ow) (fun k _=>k≤l.length) (fun k=>l.length-k) (0) rfl rfl ⟨(by rw [List.take_zero,decide_eq_false List.not_mem_nil];rfl),rfl,trivial⟩ trivial rfl (fun _=>rfl) (Nat.zero_le _) ?_
  rintro k G2 hG2 hk
  try refine RUN ?_
  refine EV.cond rfl (fun hlk=>?_) (fun hlk=>?_)
  ·simp only [nN] at hlk
   obtain ⟨z,hz⟩:∃ z,l[k]?=some z:=⟨_,List.getElem?_eq_getElem hlk⟩
   have hts:=take_snoc hz
   have wk:IntKind.i64.wrap ((k:Int)+1)=((k+1:Nat):Int):=wi_inc k oM
   by_cases hm:(i:Int)∈l.take k
   ·rw [decide_eq_true hm]
    try refine RUN ?_
    refine ⟨k+1,⟨by rw [hts,decide_eq_true (List.mem_append_left _ hm)];rfl,by rw [wk];rfl,trivial⟩,sB,trivial,trivial,rfl,hlk,Hp.Le.refl _,by omega⟩
   ·rw [decide_eq_false hm]
    try refine RUN ?_
    refine EVL.idxR tO rfl rfl rfl rfl rfl rfl rfl rfl rfl rfl ((h.mono (hG1.trans hG2))) (k) (rfl) (hlk) ((by rw [List.getElem?_map,hz];rfl)) ?_
    try refine RUN ?_
    have hzi:decide ((i:Int)∈l.take (k+1))=(z == (i:Int)):=by
     rw [hts]
     by_cases e:z=(i:Int)
     ·rw [show (z == (i:Int))=true from beq_iff_eq.2 e,e,decide_eq_true (List.mem_append_right _ (List.mem_singleton.2 rfl))]
     ·rw [show (z == (i:Int))=false from beq_eq_false_iff_ne.2 e,decide_eq_false (fun k=>by rcases List.mem_append.1 k with k | k;exact hm k;exact e (List.mem_singleton.1 k).symm)]
    refine ⟨k+1,⟨by rw [hzi];rfl,by rw [wk];rfl,trivial⟩,sB,trivial,trivial,rfl,hlk,Hp.Le.refl _,by omega⟩
  ·simp only [nN] at hlk
   obtain rfl:k=l.length:=by omega
   rw [List.take_length]
   by_cases hm:(i:Int)∈l
   ·rw [decide_eq_true hm]
    rw [if_pos hm,List.append_nil] at hsn
    try refine RUN ?_
    exact ⟨(i+1,_,ow),⟨rfl,by rw [wn];rfl,trivial⟩,sB,trivial,trivial,rfl,⟨by dsimp only;omega,by dsimp only;rw [hsn];exact hown⟩,hG2,by dsimp only;omega⟩
   ·rw [decide_eq_false hm]
    rw [if_neg hm] at hsn
    try refine RUN ?_
    refine EVL.app1 tO rfl rfl rfl rfl rfl rfl rfl rfl rfl rfl rfl rfl rfl rfl rfl rfl rfl rfl rfl (fun _=>rfl) (ow) ([]) ((List.append_nil _).symm) (hown) oM fun _=>?_
    intro v' ow' hown'
    try refine RUN ?_
    exact ⟨(i+1,v',ow'),⟨rfl,by rw [wn];rfl,trivial⟩,sB,trivial,trivial,List.append_nil _,⟨by dsimp only;omega,by dsimp only;rw [hsn];exact hown'.il⟩,hG2,by dsimp only;omega⟩
 ·simp only [nN] at hlt
  obtain rfl:i=n:=by omega
  (first | refine EVL.publishL [] ow [] ((List.append_nil _).symm) hown fun G2 hG2 hs=>?_ | refine EV.publishL [] ow [] ((List.append_nil _).symm) hown fun G2 hG2 hs=>?_)
  try refine RUN ?_
  exact hs
theorem distinct_head {b:Nat} {T:TypeId} {cs:List Value} {ow post:Ows} (h:Distinct ((b,T,cs)::(ow++post))):∀ p,p∈ow→b≠p.1:=fun p hp e=>by
 obtain ⟨j,hj⟩:=List.mem_iff_getElem?.1 hp
 obtain ⟨g,T',cs'⟩:=p
 have hj':=(List.getElem?_eq_some_iff.1 hj).1
 have:=h 0 (j+1) b T T' cs cs' rfl (by rw [List.getElem?_cons_succ,List.getElem?_append_left hj',hj,e])
 omega
set_option maxHeartbeats 8000000 in
theorem rboot_pw {H:Hp} {b n:Nat} {T:TypeId} {s:Int} (hs:0≤s) (hn:1≤n) (hn2:n≤300) :
  PW prog 34 #[.int .i64 (n:Int),.pointer (some ⟨b,0,none⟩)] H [(b,T,[.int .u64 s])] fun v ow H'=>∃ T' u w,v=.tuple #[u,w]∧ow=[(b,T',[.int .u64 (drawL n n s).2])]∧0≤(drawL n n s).2∧IL H' u (sortI (drawL n n s).1)∧IL H' w (restL n (sortI (drawL n n s).1)):=by
 have hdl:=drawL_length n n s
 refine PW.body tO func34 rfl kR ntmps34 rfl rfl ?_
 try refine RUN ?_
 rw [decide_eq_false (show ¬ (n:Int)<1 by omega)]
 try refine RUN ?_
 rw [decide_eq_false (show ¬ (n:Int)>300 by omega)]
 try refine RUN ?_
 refine EVL.callW rfl rfl rfl rfl rfl ([(b,T,[.int .u64 s])]) ([]) rfl (rdraw_pw hs oM oM oM) ?_
 rintro v1 _ G1 ⟨T1,ow1,rfl,hs1,hown1⟩ hG1
 refine EVL.apart fun hdis=>?_
 refine EVL.publishL [(b,T1,_)] ow1 [] rfl hown1 (fun G2 hG2 hc=>?_) (fun k hk p hp=>by
  obtain rfl:=List.mem_singleton.1 hk
  exact distinct_head hdis p hp)
 have hil:IL G2 v1 (drawL n n s).1:=hc
 obtain ⟨a1,c1,rfl⟩:=SlC.val hil
 try refine RUN ?_
 refine EVL.call rfl rfl rfl rfl rfl (rising_pc hil oM) ?_
 intro r3 G3 hr3 hG3
 obtain ⟨a3,c3,rfl⟩:=SlC.val hr3
 try refine RUN ?_
 refine EVL.call rfl rfl rfl rfl rfl (rrest_pc hr3 n hn2 (by rw [sortI_length];omega)) ?_
 intro r4 G4 hr4 hG4
 try refine RUN ?_
 exact ⟨T1,_,_,rfl,rfl,hs1,hr3.mono hG4,hr4⟩
set_option maxRecDepth 100000 in
set_option maxHeartbeats 4000000 in
theorem right_pc {H:Hp} {vx:Value} {X:List (List Rat)} (hX:RLL H vx X) {w:Nat} (hw:∀ x,x∈X→x.length=w) (h1:1≤w) (h0:0<X.length) (hn:X.length≤1000000):PC prog 69 #[vx] H fun r _=>r=.bool true:=by
 obtain ⟨xa,xc,rfl⟩:=hX.val
 refine BD func69 ntmps69 ?_
 try refine RUN ?_
 refine EV.loopK (ι:=Nat) [0] [] (fun q=>[(3,.v (.int .i64 (q:Int)))]) (fun _=>[]) (fun _=>[]) (fun q _=>q≤X.length) (fun q=>X.length-q) (0) rfl rfl ⟨rfl,trivial⟩ trivial rfl (fun _=>rfl) (Nat.zero_le _) ?_
 rintro i G1 hG1 hi
 obtain ⟨vs,hvs,hs⟩:=hX.mono hG1
 obtain ⟨x0,hx0⟩:∃ x,X[0]?=some x:=⟨_,List.getElem?_eq_getElem h0⟩
 obtain ⟨u0,e0,hu0,_⟩:=hvs.at hx0
 have hw0:=hw x0 (List.mem_of_getElem? hx0)
 try refine RUN ?_
 refine EV.cond rfl (fun hlt=>?_) (fun hlt=>?_)
 ·simp only [nN] at hlt
  obtain ⟨x,hx⟩:∃ x,X[i]?=some x:=⟨_,List.getElem?_eq_getElem hlt⟩
  obtain ⟨u1,e1,hu1,_⟩:=hvs.at hx
  have hw1:=hw x (List.mem_of_getElem? hx)
  rw [hw0] at hu0
  rw [hw1] at hu1
  try refine RUN ?_
  apply EV.drawn 18 kR kR;intro xv yw
  (repeat (first | refine' DV ?_ | refine' DA ?_ | refine' DK0 ?_ | refine' DT ?_ | refine' DS ?_))
  refine' DJ.ofVal (ValOk.idx1 tO rfl rfl rfl rfl rfl rfl rfl rfl (hs) (i) (rfl) (hlt) (hu1)) rfl rfl rfl ?_;rotate_left
  (repeat (first | refine' DV ?_ | refine' DA ?_ | refine' DK0 ?_ | refine' DT ?_ | refine' DS ?_))
  refine' DJ.ofVal (ValOk.idx1 tO rfl rfl rfl rfl rfl rfl rfl rfl (hs) (0) (rfl) (h0) (hu0)) rfl rfl rfl ?_;rotate_left
  (repeat (first | refine' DV ?_ | refine' DA ?_ | refine' DK0 ?_ | refine' DT ?_ | refine' DS ?_))
  rw [show ((w:Int) != (w:Int))=false from bne_self_eq_false _]
  (repeat (first | refine' DV ?_ | refine' DA ?_ | refine' DK0 ?_ | refine' DT ?_ | refine' DS ?_))
  refine' DJ.ofVal (ValOk.idx1 tO rfl rfl rfl rfl rfl rfl rfl rfl (hs) (i) (rfl) (hlt) (hu1)) rfl rfl rfl ?_;rotate_left
  (repeat (first | refine' DV ?_ | refine' DA ?_ | refine' DK0 ?_ | refine' DT ?_ | refine' DS ?_))
  rw [show ((w:Int) == 0)=false from beq_eq_false_iff_ne.2 (by omega)]
  (repeat (first | refine' DV ?_ | refine' DA ?_ | refine' DK0 ?_ | refine' DT ?_ | refine' DS ?_))
  (refine DJ.nil (fun G hG hF=>?_);(case hS|hS2=>rfl))
  try refine RUN ?_
  refine ⟨i+1,⟨by rw [wi_inc i (by omega)];rfl,trivial⟩,sB,trivial,trivial,rfl,hlt,hG,by omega⟩
 ·(try refine RUN ?_)
  rw [decide_eq_true (show (X.length:Int)>0 by omega)]
theorem learn_pc {H:Hp} {vx:Value} {X:List (List Rat)} (hX:RLL H vx X) {w:Nat} (hw:∀ x,x∈X→x.length=w) (h1:1≤w) (h2:w≤20) (h0:0<X.length) (hn:X.length≤300):PC prog 29 #[vx] H fun r _=>r=.bool true:=by
 obtain ⟨xa,xc,rfl⟩:=hX.val
 have hr:=right_pc hX hw h1 h0 oM
 obtain ⟨vs,hvs,hs⟩:=id hX
 obtain ⟨x0,hx0⟩:∃ x,X[0]?=some x:=⟨_,List.getElem?_eq_getElem h0⟩
 obtain ⟨u0,e0,hu0,_⟩:=hvs.at hx0
 rw [hw x0 (List.mem_of_getElem? hx0)] at hu0
 refine BD func29 ntmps29 ?_
 repeat (first | refine RUN ?_ | refine CV (hr) ?_ | refine CE (hr) ?_)
 rw [decide_eq_true (show (X.length:Int)≤300 by omega)]
 try refine RUN ?_
 refine EVL.idxR tO rfl rfl rfl rfl rfl rfl rfl rfl rfl rfl (hs) (0) (rfl) (h0) (hu0) ?_
 try refine RUN ?_
 rw [decide_eq_true (show (w:Int)≤20 by omega)]
 try refine RUN ?_
abbrev ruleV (deep least:Int) (g1 g2 g3:Value):Value:=.agg #[.int .i64 deep,.int .i64 least,g1,g2,g3]
theorem rfine_pc {H:Hp} {deep least:Int} {b1:Bool} {a1 a2:Option Addr} {l1 c1 l2 c2:Nat} {q:Rat} (hq:RQ H (.agg #[.bool b1,.slice a1 l1 c1,.slice a2 l2 c2]) q) (h0:0≤q) (hd:0≤deep∧deep≤10) (hl:1≤least∧least≤300):PC prog 32 #[ruleV deep least (.bool b1) (.slice a1 l1 c1) (.slice a2 l2 c2)] H fun r _=>r=.bool true:=by
 have hs:=refSign_pc hq
 refine BD func32 ntmps32 ?_
 try refine RUN ?_
 rw [decide_eq_true (show deep≥0 by omega)]
 try refine RUN ?_
 rw [decide_eq_true (show deep≤10 by omega)]
 try refine RUN ?_
 rw [decide_eq_true (show least≥1 by omega)]
 try refine RUN ?_
 rw [decide_eq_true (show least≤300 by omega)]
 repeat (first | refine RUN ?_ | refine CV (hs) ?_ | refine CE (hs) ?_)
 rw [decide_eq_true (show q.num.sign≥0 from Int.sign_nonneg_iff.2 (Rat.num_nonneg.2 h0))]
 try refine RUN ?_
set_option maxHeartbeats 4000000 in
theorem rerrors_pc {H:Hp} {kd cl deep least:Int} {la va:Option Addr} {ln lc vn vc:Nat} {vx vr:Value} {X:List (List Rat)} {rows:List Int} {w:Nat} {b1:Bool} {a1 a2:Option Addr} {l1 c1 l2 c2:Nat}
  (hck:PC prog 31 #[goalV kd cl (.slice la ln lc) (.slice va vn vc)] H fun r _=>r=.int .i64 0) (hlen:PV prog 30 #[goalV kd cl (.slice la ln lc) (.slice va vn vc)] (.int .i64 (X.length:Int)))
  (hX:RLL H vx X) (hw:∀ x,x∈X→x.length=w) (h1:1≤w) (h2:w≤20) (h0:0<X.length) (hn:X.length≤300) (hr:IL H vr rows) (hr0:0<rows.length) (hrn:rows.length≤300) (hb:∀ r,r∈rows→0≤r∧r<(X.length:Int))
  (hf:PC prog 32 #[ruleV deep least (.bool b1) (.slice a1 l1 c1) (.slice a2 l2 c2)] H fun r _=>r=.bool true) :
  PC prog 76 #[goalV kd cl (.slice la ln lc) (.slice va vn vc),vx,vr,ruleV deep least (.bool b1) (.slice a1 l1 c1) (.slice a2 l2 c2)] H fun r _=>r=.int .i64 0:=by
 obtain ⟨xa,xc,rfl⟩:=hX.val
 obtain ⟨ra,rc,rfl⟩:=SlC.val hr
 have hlearn:=learn_pc hX hw h1 h2 h0 hn
 refine BD func76 ntmps76 ?_
 repeat (first | refine RUN ?_ | refine CV (hlearn) ?_ | refine CV (hlen) ?_ | refine CE (hlearn) ?_ | refine CE (hlen) ?_)
 rw [show ((X.length:Int) != (X.length:Int))=false from bne_self_eq_false _]
 try refine RUN ?_
 rw [show ((rows.length:Int) == 0)=false from beq_eq_false_iff_ne.2 (by omega)]
 try refine RUN ?_
 rw [decide_eq_false (show ¬ (rows.length:Int)>300 by omega)]
 repeat (first | refine RUN ?_ | refine CV (hck) ?_ | refine CV (hf) ?_ | refine CE (hck) ?_ | refine CE (hf) ?_)
 refine EV.loopK (ι:=Nat) [1,2] [] (fun q=>[(9,.v (.int .i64 (q:Int)))]) (fun _=>[]) (fun _=>[]) (fun q _=>q≤rows.length) (fun q=>rows.length-q) (0) rfl rfl ⟨rfl,trivial⟩ trivial rfl (fun _=>rfl) (Nat.zero_le _) ?_
 rintro i G1 hG1 hi
 try refine RUN ?_
 refine EV.cond rfl (fun hlt=>?_) (fun hlt=>?_)
 ·simp only [nN] at hlt
  obtain ⟨r,hri⟩:∃ r,rows[i]?=some r:=⟨_,List.getElem?_eq_getElem hlt⟩
  have hrb:=hb r (List.mem_of_getElem? hri)
  try refine RUN ?_
  refine EVL.idxR tO rfl rfl rfl rfl rfl rfl rfl rfl rfl rfl ((hr.mono hG1)) (i) (rfl) (hlt) ((by rw [List.getElem?_map,hri];rfl)) ?_
  try refine RUN ?_
  rw [decide_eq_false (show ¬ r<0 by omega)]
  try refine RUN ?_
  refine EVL.idxR tO rfl rfl rfl rfl rfl rfl rfl rfl rfl rfl ((hr.mono hG1)) (i) (rfl) (hlt) ((by rw [List.getElem?_map,hri];rfl)) ?_
  try refine RUN ?_
  rw [decide_eq_false (show ¬ r≥(X.length:Int) by omega)]
  try refine RUN ?_
  refine ⟨i+1,⟨by rw [wi_inc i (by omega)];rfl,trivial⟩,sB,trivial,trivial,rfl,hlt,Hp.Le.refl _,by omega⟩
 ·(try refine RUN ?_)
  rfl
def RTree (H:Hp) (cs:List Value) (kd cl w:Int) (ns:List Nd):Prop:=∃ a c css,cs=[.int .i64 kd,.int .i64 cl,.int .i64 w,.slice a ns.length c]∧RNodes H css ns∧SlC H (.slice a ns.length c) ns.length 15 css.flatten
theorem RTree.mono {H G:Hp} {cs:List Value} {kd cl w:Int} {ns:List Nd} (h:RTree H cs kd cl w ns) (k:H.Le G):RTree G cs kd cl w ns:=by
 obtain ⟨a,c,css,e,h1,h2⟩:=h
 exact ⟨a,c,css,e,h1.mono k,h2.mono k⟩
set_option maxRecDepth 100000 in
set_option maxHeartbeats 16000000 in
theorem rgrowSome_pw {p:GP} {H:Hp} {kd cl least:Int} {D sm w bd:Nat} {Td:TypeId} {s:Int} {la va xa:Option Addr} {ln lc vn vc xc:Nat} {vr:Value} {rows:List Int} {b1:Bool} {a1 a2:Option Addr} {l1 c1 l2 c2:Nat}
  (hds:∀ s,p.cols s=((orderL w s).1.take sm,(orderL w s).2)) (hsm1:1≤sm) (hsm:sm≤w) (hw2:w≤20) (hx0:0<p.X.length) (hxn:p.X.length≤300) (hxw:∀ x,x∈p.X→x.length=w) (hxq:∀ x,x∈p.X→∀ q,q∈x→ht q≤5) (hpl:p.least=least) (hl:1≤least∧least≤300) (hgr:rq p.gain) (hg0:0≤p.gain) (hD:D≤10)
  (hg:RGoal H (goalV kd cl (.slice la ln lc) (.slice va vn vc)) kd p.X.length p.cost p.mean p.cnt) (hX:RLL H (.slice xa p.X.length xc) p.X) (hgq:RQ H (.agg #[.bool b1,.slice a1 l1 c1,.slice a2 l2 c2]) p.gain)
  (hr:IL H vr rows) (hr0:0<rows.length) (hn:rows.length≤300) (hb:∀ r,r∈rows→0≤r∧r<(p.X.length:Int)) (hs:0≤s) :
  PW prog 35 #[goalV kd cl (.slice la ln lc) (.slice va vn vc),.slice xa p.X.length xc,vr,ruleV (D:Int) least (.bool b1) (.slice a1 l1 c1) (.slice a2 l2 c2),.int .i64 (sm:Int),.pointer (some ⟨bd,0,none⟩)] H [(bd,Td,[.int .u64 s])]
   fun v ow H'=>∃ T' cs,v=.tuple #[.agg cs.toArray,.int .i64 0]∧ow=[(bd,T',[.int .u64 (p.grow D 0 rows s).2])]∧0≤(p.grow D 0 rows s).2∧RTree H' cs kd cl (w:Int) (p.grow D 0 rows s).1:=by
 obtain ⟨ra,rc,rfl⟩:=SlC.val hr
 have hpow:2 ^ (D+1)≤2 ^ 11:=Nat.pow_le_pow_right oM oM
 have herr:=rerrors_pc (hg.check H (Hp.Le.refl _)) hg.len hX hxw oM hw2 hx0 hxn hr hr0 hn hb (rfine_pc (deep:=(D:Int)) hgq hg0 oM hl)
 obtain ⟨vs,hvs,hvx⟩:=id hX
 obtain ⟨x0,hxx0⟩:∃ x,p.X[0]?=some x:=⟨_,List.getElem?_eq_getElem hx0⟩
 obtain ⟨u0,e0,hu0,_⟩:=hvs.at hxx0
 rw [hxw x0 (List.mem_of_getElem? hxx0)] at hu0
 refine PW.body tO func35 rfl kR ntmps35 rfl rfl ?_
 repeat (first | refine RUN ?_ | refine CV (herr) ?_ | refine CE (herr) ?_)
 rw [decide_eq_false (show ¬ (sm:Int)<1 by omega)]
 try refine RUN ?_
 refine EVL.idxR tO rfl rfl rfl rfl rfl rfl rfl rfl rfl rfl (hvx) (0) (rfl) (hx0) (hu0) ?_
 try refine RUN ?_
 rw [decide_eq_false (show ¬ (sm:Int)>(w:Int) by omega)]
 try refine RUN ?_
 (first | refine EVL.unbox (42) rfl fun gb=>?_ | refine EV.unbox (42) rfl fun gb=>?_)
 refine EVL.callW rfl rfl rfl rfl rfl ((gb,152,_)::([(bd,Td,[.int .u64 s])]++[])) ([]) rfl (rgrow_pw (dq:=some ⟨bd,0,none⟩) (deep:=(D:Int)) (by simp) hds hsm oM oM hx0 hxw hxq hpl hgr D (ns:=[]) (css:=[]) hg hX hgq oM (Int.le_refl _) oM hr hn hb (.inr ⟨bd,Td,rfl,rfl,hs⟩) (OwnL.nil _ _) ⟨rfl,fun j c n e1 e2=>by cases e1⟩ (by rw [List.length_nil];omega)) ?_
 rintro _ _ G1 ⟨rfl,out,D',ow2,css,rfl,hD',hown,hns⟩ hG1
 rw [List.nil_append] at hown hns
 rw [List.length_nil] at hown hns hD'
 rcases hD' with ⟨e1,_⟩ | ⟨bd',T',e1,rfl,hs'⟩
 ·cases e1
 cases e1
 obtain ⟨oa,oc,rfl⟩:=hown.val
 refine EVL.apart fun hdis=>?_
 refine EVL.publishL [(gb,_,_),(bd,T',_)] ow2 [] rfl hown (fun G2 hG2 hc=>?_) (fun k hk q hq=>by
  obtain rfl:=List.mem_singleton.1 hk
  exact distinct_head (fun j j' b T T' cs cs' h1 h2=>by have:=hdis (j+1) (j'+1) b T T' cs cs' h1 h2;omega) q hq)
 have hG12:=hG1.trans hG2
 try refine RUN ?_
 apply EV.drawn 12 kR kR;intro xv yw
 (repeat (first | refine' DV ?_ | refine' DA ?_ | refine' DK0 ?_ | refine' DT ?_ | refine' DS ?_))
 refine' DJ.ofVal (ValOk.idx1 tO rfl rfl rfl rfl rfl rfl rfl rfl (hvx.mono hG12) (0) (rfl) (hx0) (hu0)) rfl rfl rfl ?_;rotate_left
 (repeat (first | refine' DV ?_ | refine' DA ?_ | refine' DK0 ?_ | refine' DT ?_ | refine' DS ?_ | (refine' DJ.nilB rfl rfl rfl rfl rfl ?_;rotate_left) | (refine' DJ.fldB tO rfl rfl rfl rfl rfl rfl rfl ?_;rotate_left)))
 refine' DJ.ofVal (ValOk.loadOwn tO rfl rfl rfl rfl (0) rfl (rfl) rfl rfl) rfl rfl rfl ?_;rotate_left
 (refine DJ.nil (fun G hG hF=>?_);(case hS|hS2=>rfl))
 (first | refine EVL.subOw [] [(gb,_,_)] [(bd,T',_)] rfl ?_ | refine EV.subOw [] [(gb,_,_)] [(bd,T',_)] rfl ?_)
 try refine RUN ?_
 exact ⟨T',_,rfl,rfl,hs',oa,oc,css,rfl,hns.mono (hG2.trans hG),SlC.mono hc hG⟩
end Go.Proofs.YtgjepkeeeemppaaGreatDoor
namespace Go.Proofs.YtgjepkeeeemppaaGreatDoor
structure Tr where
 kd:Int
 cl:Int
 w:Int
 ns:List Nd
end Go.Proofs.YtgjepkeeeemppaaGreatDoor
namespace Go.Proofs.YtgjepkeeeemppaaGreatDoor
open Go.RowKit _root_.Go.Proofs.Tryz
def RTs (H:Hp) (tcs:List (List Value)) (ts:List Tr):Prop:=tcs.length=ts.length∧∀ (j:Nat) (c:List Value) (t:Tr),tcs[j]?=some c→ts[j]?=some t→RTree H c t.kd t.cl t.w t.ns
theorem RTs.mono {H G:Hp} {tcs:List (List Value)} {ts:List Tr} (h:RTs H tcs ts) (k:H.Le G):RTs G tcs ts:=⟨h.1,fun j c t e1 e2=>(h.2 j c t e1 e2).mono k⟩
def ILs (H:Hp) (vs:List Value) (ls:List (List Int)):Prop:=vs.length=ls.length∧∀ (j:Nat) (v:Value) (l:List Int),vs[j]?=some v→ls[j]?=some l→IL H v l
theorem ILs.mono {H G:Hp} {vs:List Value} {ls:List (List Int)} (h:ILs H vs ls) (k:H.Le G):ILs G vs ls:=⟨h.1,fun j v l e1 e2=>(h.2 j v l e1 e2).mono k⟩
theorem rel_snoc {α β:Type} {R:α→β→Prop} {xs:List α} {ys:List β} (h:xs.length=ys.length∧∀ (j:Nat) (x:α) (y:β),xs[j]?=some x→ys[j]?=some y→R x y) {x:α} {y:β} (k:R x y):(xs++[x]).length=(ys++[y]).length∧∀ (j:Nat) (x':α) (y':β),(xs++[x])[j]?=some x'→(ys++[y])[j]?=some y'→R x' y':=by
 refine ⟨by simp [h.1],fun j x' y' e1 e2=>?_⟩
 by_cases hj:j<xs.length
 ·rw [List.getElem?_append_left hj] at e1
  rw [List.getElem?_append_left (by rw [← h.1];exact hj)] at e2
  exact h.2 j x' y' e1 e2
 ·rw [List.getElem?_append_right (by omega)] at e1
  rw [List.getElem?_append_right (by rw [← h.1];omega),← h.1] at e2
  have h0:j-xs.length=0:=by
   have:=(List.getElem?_eq_some_iff.1 e1).1
   simp at this;omega
  rw [h0] at e1 e2
  cases e1;cases e2
  exact k
def RTL (H:Hp) (v:Value) (ts:List Tr):Prop:=∃ tcs,RTs H tcs ts∧SlC H v ts.length 4 tcs.flatten
theorem RTL.mono {H G:Hp} {v:Value} {ts:List Tr} (h:RTL H v ts) (k:H.Le G):RTL G v ts:=by
 obtain ⟨tcs,h1,h2⟩:=h
 exact ⟨tcs,h1.mono k,h2.mono k⟩
def ILL (H:Hp) (v:Value) (ls:List (List Int)):Prop:=∃ vs,ILs H vs ls∧SlC H v ls.length 1 vs
theorem ILL.mono {H G:Hp} {v:Value} {ls:List (List Int)} (h:ILL H v ls) (k:H.Le G):ILL G v ls:=by
 obtain ⟨vs,h1,h2⟩:=h
 exact ⟨vs,h1.mono k,h2.mono k⟩
def treeB:ByteArray:=⟨#[116,114,101,101]⟩
def bagS (n:Nat) (s:Int):List Int × Int:=(sortI (drawL n n (forkS s treeB)).1,(drawL n n (forkS s treeB)).2)
def GP.wood (p:GP) (D n:Nat) (kd cl w:Int):Nat→Int→List Tr × List (List Int) × Int
 | 0,s=>([],[],s)
 | k+1,s=>let r:=p.wood D n kd cl w k s
  (r.1++[⟨kd,cl,w,(p.grow D 0 (bagS n r.2.2).1 (bagS n r.2.2).2).1⟩],r.2.1++[restL n (bagS n r.2.2).1],nxt r.2.2)
theorem GP.wood_succ (p:GP) (D n:Nat) (kd cl w:Int) (k:Nat) (s:Int):p.wood D n kd cl w (k+1) s=((p.wood D n kd cl w k s).1++[⟨kd,cl,w,(p.grow D 0 (bagS n (p.wood D n kd cl w k s).2.2).1 (bagS n (p.wood D n kd cl w k s).2.2).2).1⟩],(p.wood D n kd cl w k s).2.1++[restL n (bagS n (p.wood D n kd cl w k s).2.2).1],nxt (p.wood D n kd cl w k s).2.2):=rfl
theorem GP.wood_len (p:GP) (D n:Nat) (kd cl w:Int):∀ (k:Nat) (s:Int),(p.wood D n kd cl w k s).1.length=k∧(p.wood D n kd cl w k s).2.1.length=k∧(0≤s→0≤(p.wood D n kd cl w k s).2.2)
 | 0,s=>⟨rfl,rfl,fun h=>h⟩
 | k+1,s=>by
  obtain ⟨h1,h2,_⟩:=p.wood_len D n kd cl w k s
  rw [GP.wood_succ]
  exact ⟨by simp [h1],by simp [h2],fun _=>(nxt_range _).1⟩
abbrev woodV (n sm:Nat) (seed:Int) (deep least:Int) (g1 g2 g3:Value):Value:=.agg #[.int .i64 (n:Int),.int .i64 (sm:Int),.int .u64 seed,.int .i64 deep,.int .i64 least,g1,g2,g3]
abbrev forestV (kd cl w:Int) (vt vo:Value):Value:=.agg #[.int .i64 kd,.int .i64 cl,.int .i64 w,vt,vo]
set_option maxRecDepth 100000 in
set_option maxHeartbeats 32000000 in
theorem growForest_pc {p:GP} {H:Hp} {kd cl least:Int} {D sm w nt:Nat} {seed:Int} {la va xa:Option Addr} {ln lc vn vc xc:Nat} {b1:Bool} {a1 a2:Option Addr} {l1 c1 l2 c2:Nat}
  (hds:∀ s,p.cols s=((orderL w s).1.take sm,(orderL w s).2)) (hsm1:1≤sm) (hsm:sm≤w) (hw2:w≤20) (hx0:0<p.X.length) (hxn:p.X.length≤300) (hxw:∀ x,x∈p.X→x.length=w) (hxq:∀ x,x∈p.X→∀ q,q∈x→ht q≤5) (hpl:p.least=least) (hl:1≤least∧least≤300) (hgr:rq p.gain) (hg0:0≤p.gain) (hD:D≤10)
  (hg:RGoal H (goalV kd cl (.slice la ln lc) (.slice va vn vc)) kd p.X.length p.cost p.mean p.cnt) (hX:RLL H (.slice xa p.X.length xc) p.X) (hgq:RQ H (.agg #[.bool b1,.slice a1 l1 c1,.slice a2 l2 c2]) p.gain) (hn1:1≤nt) (hn2:nt≤50) (hs:0≤seed) :
  PC prog 6 #[goalV kd cl (.slice la ln lc) (.slice va vn vc),.slice xa p.X.length xc,woodV nt sm seed (D:Int) least (.bool b1) (.slice a1 l1 c1) (.slice a2 l2 c2)] H fun r H'=>∃ at' ct ao co,r=.tuple #[forestV kd cl (w:Int) (.slice at' nt ct) (.slice ao nt co),.int .i64 0]∧RTL H' (.slice at' nt ct) (p.wood D p.X.length kd cl (w:Int) nt seed).1∧ILL H' (.slice ao nt co) (p.wood D p.X.length kd cl (w:Int) nt seed).2.1:=by
 have hlearn:=learn_pc hX hxw oM hw2 hx0 hxn
 have hlen:=hg.len
 have hfine:=fun (G:Hp) (hG:H.Le G)=>rfine_pc (deep:=(D:Int)) (RQ.mono hgq hG) hg0 oM hl
 obtain ⟨vs,hvs,hvx⟩:=id hX
 obtain ⟨x0,hxx0⟩:∃ x,p.X[0]?=some x:=⟨_,List.getElem?_eq_getElem hx0⟩
 obtain ⟨u0,e0,hu0,_⟩:=hvs.at hxx0
 rw [hxw x0 (List.mem_of_getElem? hxx0)] at hu0
 refine BD func6 ntmps6 ?_
 repeat (first | refine RUN ?_ | refine CV (hlearn) ?_ | refine CV (hlen) ?_ | refine CE (hlearn) ?_ | refine CE (hlen) ?_)
 rw [show ((p.X.length:Int) != (p.X.length:Int))=false from bne_self_eq_false _]
 try refine RUN ?_
 apply EV.drawn 33 kR kR;intro xv yw
 (repeat (first | refine' DV ?_ | refine' DA ?_ | refine' DK0 ?_ | refine' DT ?_ | refine' DS ?_))
 refine' DJ.callS rfl rfl rfl rfl rfl (cO func31) (fun G hG hd=>hg.check G hG) ?_;rotate_left
 (repeat (first | refine' DV ?_ | refine' DA ?_ | refine' DK0 ?_ | refine' DT ?_ | refine' DS ?_))
 rw [decide_eq_false (show ¬ (nt:Int)<1 by omega)]
 (repeat (first | refine' DV ?_ | refine' DA ?_ | refine' DK0 ?_ | refine' DT ?_ | refine' DS ?_))
 rw [decide_eq_false (show ¬ (nt:Int)>50 by omega)]
 (repeat (first | refine' DV ?_ | refine' DA ?_ | refine' DK0 ?_ | refine' DT ?_ | refine' DS ?_))
 rw [decide_eq_false (show ¬ (sm:Int)<1 by omega)]
 (repeat (first | refine' DV ?_ | refine' DA ?_ | refine' DK0 ?_ | refine' DT ?_ | refine' DS ?_))
 refine' DJ.ofVal (ValOk.idx1 tO rfl rfl rfl rfl rfl rfl rfl rfl (hvx) (0) (rfl) (hx0) (hu0)) rfl rfl rfl ?_;rotate_left
 (repeat (first | refine' DV ?_ | refine' DA ?_ | refine' DK0 ?_ | refine' DT ?_ | refine' DS ?_))
 rw [decide_eq_false (show ¬ (sm:Int)>(w:Int) by omega)]
 (repeat (first | refine' DV ?_ | refine' DA ?_ | refine' DK0 ?_ | refine' DT ?_ | refine' DS ?_))
 refine' DJ.callS rfl rfl rfl rfl rfl (cO func32) (fun G hG hd=>hfine G hG) ?_;rotate_left
 (repeat (first | refine' DV ?_ | refine' DA ?_ | refine' DK0 ?_ | refine' DT ?_ | refine' DS ?_))
 (refine DJ.nil (fun G1 hG1 hF1=>?_);(case hS|hS2=>rfl))
 try refine RUN ?_
 apply EV.drawn 10 kR kR;intro xv yw
 (repeat (first | refine' DV ?_ | refine' DA ?_ | refine' DK0 ?_ | refine' DT ?_ | refine' DS ?_))
 refine' DJ.ofVal (ValOk.idx1 tO rfl rfl rfl rfl rfl rfl rfl rfl (hvx.mono hG1) (0) (rfl) (hx0) (hu0)) rfl rfl rfl ?_;rotate_left
 (repeat (first | refine' DV ?_ | refine' DA ?_ | refine' DK0 ?_ | refine' DT ?_ | refine' DS ?_))
 (refine DJ.nil (fun G2 hG2 hF2=>?_);(case hS|hS2=>rfl))
 try refine RUN ?_
 (first | refine EVL.unbox (73) rfl fun d0=>?_ | refine EV.unbox (73) rfl fun d0=>?_)
 refine EV.loopK (ι:=Nat × Value × List (List Value) × Ows × Value × List Value × Ows × TypeId) [1,3,5,6,8,9] [3,5,6] (fun q=>[(10,.v (.int .i64 (q.1:Int)))]) (fun q=>[(8,46,[.int .i64 kd,.int .i64 cl,.int .i64 (w:Int),q.2.1,q.2.2.2.2.1])]) (fun q=>(d0,q.2.2.2.2.2.2.2,[.int .u64 (p.wood D p.X.length kd cl (w:Int) q.1 seed).2.2])::(q.2.2.2.1++q.2.2.2.2.2.2.1)) (fun q G=>q.1≤nt∧RTs G q.2.2.1 (p.wood D p.X.length kd cl (w:Int) q.1 seed).1∧ILs G q.2.2.2.2.2.1 (p.wood D p.X.length kd cl (w:Int) q.1 seed).2.1∧OwnL 53 4 q.2.1 q.1 q.2.2.1.flatten q.2.2.2.1∧OwnL 23 1 q.2.2.2.2.1 q.1 q.2.2.2.2.2.1 q.2.2.2.2.2.2.1) (fun q=>nt-q.1) ((0,.slice none 0 0,[],[],.slice none 0 0,[],[],100)) rfl rfl ⟨rfl,trivial⟩ ⟨rfl,trivial⟩ rfl (fun _=>rfl) (⟨Nat.zero_le _,⟨rfl,fun j c t e1 e2=>by cases e1⟩,⟨rfl,fun j c t e1 e2=>by cases e1⟩,OwnL.nil _ _,OwnL.nil _ _⟩) ?_
 rintro ⟨i,vt,tcs,owT,vo,vos,owO,Td⟩ G3 hG3 ⟨hi,hts,hos,hownT,hownO⟩
 dsimp only at hi hts hos hownT hownO
 obtain ⟨ta,tc,rfl⟩:=hownT.val
 obtain ⟨oa,oc,rfl⟩:=hownO.val
 have hH3:=hG1.trans (hG2.trans hG3)
 obtain ⟨hwl1,hwl2,hwl3⟩:=p.wood_len D p.X.length kd cl (w:Int) i seed
 have hws:=p.wood_succ D p.X.length kd cl (w:Int) i seed
 try refine RUN ?_
 refine EV.cond rfl (fun hlt=>?_) (fun hlt=>?_)
 ·simp only [nN] at hlt
  try refine RUN ?_
  refine EVL.callW rfl rfl rfl rfl rfl ([(d0,Td,_)]) (owT++owO) rfl (rfork_pw (t:=treeB) (hwl3 hs) (by decide)) ?_
  rintro _ _ G4 ⟨T4,g4,rfl,rfl,hs4,hf4⟩ hG4
  try refine RUN ?_
  refine EVL.callW rfl rfl rfl rfl rfl ([(g4,_,_)]) ((d0,T4,_)::(owT++owO)) rfl (rboot_pw hf4 oM hxn) ?_
  rintro _ _ G5 ⟨T5,u5,w5,rfl,rfl,hs5,hu5,hw5⟩ hG5
  have hbe:((sortI (drawL p.X.length p.X.length (forkS (p.wood D p.X.length kd cl (w:Int) i seed).2.2 treeB)).1,(drawL p.X.length p.X.length (forkS (p.wood D p.X.length kd cl (w:Int) i seed).2.2 treeB)).2):List Int × Int)=bagS p.X.length (p.wood D p.X.length kd cl (w:Int) i seed).2.2:=rfl
  generalize hre:restL p.X.length (sortI (drawL p.X.length p.X.length (forkS (p.wood D p.X.length kd cl (w:Int) i seed).2.2 treeB)).1)=rs5 at *
  obtain ⟨ua5,uc5,rfl⟩:=SlC.val hu5
  obtain ⟨wa5,wc5,rfl⟩:=SlC.val hw5
  try refine RUN ?_
  have hH5:=hH3.trans (hG4.trans hG5)
  have hbl:(sortI (drawL p.X.length p.X.length (forkS (p.wood D p.X.length kd cl (w:Int) i seed).2.2 treeB)).1).length=p.X.length:=by rw [sortI_length,drawL_length]
  have hbm:∀ r,r∈sortI (drawL p.X.length p.X.length (forkS (p.wood D p.X.length kd cl (w:Int) i seed).2.2 treeB)).1→0≤r∧r<(p.X.length:Int):=fun r hr=>drawL_range _ _ _ oM oM r ((sortI_perm _).mem_iff.1 hr)
  refine EVL.callW rfl rfl rfl rfl rfl ([(g4,T5,_)]) ((d0,T4,_)::(owT++owO)) rfl (rgrowSome_pw hds hsm1 hsm hw2 hx0 hxn hxw hxq hpl hl hgr hg0 hD (hg.mono hH5) (hX.mono hH5) (RQ.mono hgq hH5) hu5 (by rw [hbl];omega) (by rw [hbl];omega) hbm hs5) ?_
  rintro _ _ G6 ⟨T6,cs6,rfl,rfl,hs6,ht6⟩ hG6
  have hge:(p.grow D 0 (bagS p.X.length (p.wood D p.X.length kd cl (w:Int) i seed).2.2).1 (bagS p.X.length (p.wood D p.X.length kd cl (w:Int) i seed).2.2).2)=p.grow D 0 (sortI (drawL p.X.length p.X.length (forkS (p.wood D p.X.length kd cl (w:Int) i seed).2.2 treeB)).1) (drawL p.X.length p.X.length (forkS (p.wood D p.X.length kd cl (w:Int) i seed).2.2 treeB)).2:=rfl
  generalize p.grow D 0 (sortI (drawL p.X.length p.X.length (forkS (p.wood D p.X.length kd cl (w:Int) i seed).2.2 treeB)).1) (drawL p.X.length p.X.length (forkS (p.wood D p.X.length kd cl (w:Int) i seed).2.2 treeB)).2=gr6 at *
  have hre':restL p.X.length (bagS p.X.length (p.wood D p.X.length kd cl (w:Int) i seed).2.2).1=rs5:=hre
  rw [hge,hre'] at hws
  obtain ⟨na,nc,css6,rfl,hns6,hsl6⟩:=id ht6
  refine EVL.subOw [] [(g4,_,_)] ((d0,T4,_)::(owT++owO)) rfl ?_
  try refine RUN ?_
  (first | refine EVL.swapOw ([(d0,T4,_)]) (owT++owO) (rfl) ?_ | refine EV.swapOw ([(d0,T4,_)]) (owT++owO) (rfl) ?_)
  refine EVL.app1 tO rfl rfl rfl rfl rfl rfl rfl rfl rfl rfl rfl rfl rfl rfl rfl rfl rfl rfl rfl (fun _=>rfl) (owT) (owO++[(d0,T4,_)]) (List.append_assoc _ _ _) (hownT) (oM) fun _=>?_
  intro vt' owT' hownT'
  obtain ⟨ta',tc',rfl⟩:=hownT'.val
  try refine RUN ?_
  (first | refine EVL.swapOw (owT') (owO++[(d0,T4,_)]) (rfl) ?_ | refine EV.swapOw (owT') (owO++[(d0,T4,_)]) (rfl) ?_)
  refine EVL.app1 tO rfl rfl rfl rfl rfl rfl rfl rfl rfl rfl rfl rfl rfl rfl rfl rfl rfl rfl rfl (fun _=>rfl) (owO) ([(d0,T4,_)]++owT') (List.append_assoc _ _ _) (hownO) (oM) fun _=>?_
  intro vo' owO' hownO'
  obtain ⟨oa',oc',rfl⟩:=hownO'.val
  (first | refine EVL.swapOw (owO') ([(d0,T4,_)]++owT') (rfl) ?_ | refine EV.swapOw (owO') ([(d0,T4,_)]++owT') (rfl) ?_)
  try refine RUN ?_
  have hG36:=hG4.trans (hG5.trans hG6)
  refine ⟨(i+1,.slice ta' (i+1) tc',tcs++[[.int .i64 kd,.int .i64 cl,.int .i64 (w:Int),.slice na gr6.1.length nc]],owT',.slice oa' (i+1) oc',vos++[.slice wa5 rs5.length wc5],owO',T4),⟨by dsimp only;rw [wi_inc i (by omega)];rfl,trivial⟩,sB,⟨rfl,trivial⟩,sB,?_,⟨hlt,?_,?_,?_,?_⟩,hG36,by dsimp only;omega⟩
  ·dsimp only;rw [hws];rfl
  ·dsimp only;rw [hws];exact rel_snoc (hts.mono hG36) ht6
  ·dsimp only;rw [hws];exact rel_snoc (hos.mono hG36) (hw5.mono hG6)
  ·dsimp only;rw [List.flatten_append];exact hownT'
  ·exact hownO'
 ·simp only [nN] at hlt
  obtain rfl:i=nt:=by omega
  (first | refine EVL.publishL [(d0,Td,_)] owT owO (rfl) hownT fun G4 hG4 hsT=>?_ | refine EV.publishL [(d0,Td,_)] owT owO (rfl) hownT fun G4 hG4 hsT=>?_)
  (first | refine EVL.publishL [(d0,Td,_)] owO [] ((by rw [List.append_nil])) hownO fun G5 hG5 hsO=>?_ | refine EV.publishL [(d0,Td,_)] owO [] ((by rw [List.append_nil])) hownO fun G5 hG5 hsO=>?_)
  try refine RUN ?_
  exact ⟨ta,tc,oa,oc,rfl,⟨tcs,by rw [hwl1];exact ⟨hts.mono (hG4.trans hG5),hsT.mono hG5⟩⟩,⟨vos,by rw [hwl2];exact ⟨hos.mono (hG4.trans hG5),hsO⟩⟩⟩
end Go.Proofs.YtgjepkeeeemppaaGreatDoor
namespace Go.Proofs.YtgjepkeeeemppaaGreatDoor
inductive Sub (T:List Nd) (w:Int):Nat→Nat→Nat→Prop
 | leaf {k h:Nat} {n:Nd}:T[k]?=some n→n.col = -1→n.left=0→n.right=0→n.at'=0→Sub T w k h (k+1)
 | node {k h m e:Nat} {n:Nd}:T[k]?=some n→0≤n.col→n.col<w→n.left=((k+1:Nat):Int)→n.right=(m:Int)→Sub T w (k+1) h m→Sub T w m h e→Sub T w k (h+1) e
theorem Sub.lt {T:List Nd} {w:Int} {k h e:Nat} (h0:Sub T w k h e):k<e∧e≤T.length:=by
 induction h0 with
 | leaf hn _ _ _ _ =>
  have:=(List.getElem?_eq_some_iff.1 hn).1
  omega
 | node _ _ _ _ _ _ _ ih1 ih2=>omega
structure OkN (kd cl:Int) (n:Nd):Prop where
 rows:1≤n.rows∧n.rows≤1048576
 cost:0≤n.cost
 len:(n.counts.length:Int)=cl
 pos:∀ c,c∈n.counts→0≤c
 sum:kd=1→n.counts.sum=n.rows
 cls:n.cls=(topN n.counts n.counts.length:Int)
 value:kd=1→n.value=0
 small:ht n.at'≤100∧ht n.cost≤2000000∧ht n.value≤4000
structure OkC (n a b:Nd):Prop where
 rows:n.rows=a.rows+b.rows
 counts:∀ k:Nat,n.counts.getD k 0=a.counts.getD k 0+b.counts.getD k 0
 cost:a.cost+b.cost≤n.cost
def NodeOk (kd cl:Int) (T:List Nd) (i:Nat):Prop:=∃ n,T[i]?=some n∧OkN kd cl n∧(n.col ≠ -1→0≤n.col∧0≤n.left∧0≤n.right∧∃ a b,T[n.left.toNat]?=some a∧T[n.right.toNat]?=some b∧OkC n a b)
structure GPok (p:GP) (kd cl:Int) (w:Nat):Prop where
 kind:(kd=1∧1≤cl∧cl≤12)∨(kd=2∧cl=0)
 rowsX:p.X.length≤300
 wide:∀ x,x∈p.X→x.length=w
 small:∀ x,x∈p.X→∀ q,q∈x→ht q≤5
 clen:∀ l,((p.cnt l).length:Int)=cl
 cadd:∀ r l m:List Int,r.Perm (l++m)→∀ k:Nat,(p.cnt r).getD k 0=(p.cnt l).getD k 0+(p.cnt m).getD k 0
 cpos:∀ l c,c∈p.cnt l→0≤c
 csum:kd=1→∀ l,(∀ r,r∈l→0≤r∧r<(p.X.length:Int))→(p.cnt l).sum=(l.length:Int)
 zero:kd=1→∀ l,p.mean l=0
 cost0:∀ l,0≤p.cost l
 csm:∀ l:List Int,l.length≤300→(∀ r,r∈l→0≤r∧r<(p.X.length:Int))→ht (p.cost l)≤2000000
 msm:∀ l:List Int,l.length≤300→(∀ r,r∈l→0≤r∧r<(p.X.length:Int))→ht (p.mean l)≤4000
 gain:0≤p.gain
 cols:∀ s c,c∈(p.cols s).1→0≤c∧c<(w:Int)
theorem filter_perm (l:List Int) (f:Int→Bool):l.Perm (l.filter f++l.filter fun x => !f x):=by
 induction l with
 | nil=>exact List.Perm.nil
 | cons x l ih =>
  cases h:f x with
  | true=>rw [List.filter_cons_of_pos h,List.filter_cons_of_neg (by simp [h])];exact List.Perm.cons x ih
  | false=>rw [List.filter_cons_of_neg (by simp [h]),List.filter_cons_of_pos (by simp [h])];exact (List.Perm.cons x ih).trans List.perm_middle.symm
theorem cut_ok {p:GP} {kd cl:Int} {w:Nat} (hp:GPok p kd cl w) {rows:List Int} {s c:Int} {t:Rat} (hb:∀ r,r∈rows→0≤r∧r<(p.X.length:Int)) (h:p.cut rows (p.cols s).1=some (c,t)) :
  (0≤c∧c<(w:Int))∧ht t≤100∧1≤(lowL p.X c t rows).length∧1≤(highL p.X c t rows).length∧rows.Perm (lowL p.X c t rows++highL p.X c t rows)∧p.cost (lowL p.X c t rows)+p.cost (highL p.X c t rows)≤p.cost rows:=by
 unfold GP.cut at h
 cases hbe:p.best rows (p.cols s).1 with
 | none=>rw [hbe] at h;cases h
 | some q =>
  obtain ⟨c',t',g⟩:=q
  rw [hbe] at h
  dsimp only at h
  split at h
  ·cases h
  ·rename_i hg
   cases h
   have hf:=first_fold (allCuts p.X p.cost rows (max 1 p.least) (p.cols s).1)
   rw [show (allCuts p.X p.cost rows (max 1 p.least) (p.cols s).1).foldl refS none=some (c,t,g) from hbe] at hf
   have hm:=hf.1
   unfold allCuts cutsOf at hm
   obtain ⟨c2,hc2,hm⟩:=List.mem_flatMap.1 hm
   obtain ⟨t2,ht2,hm⟩:=List.mem_flatMap.1 hm
   split at hm
   ·rename_i hL
    cases List.mem_singleton.1 hm
    have hcw:=hp.cols s c hc2
    have hall:∀ r,r∈rows→hasC p.X c r=true:=fun r hr=>by
     obtain ⟨R,rfl⟩:=Int.eq_ofNat_of_zero_le (hb r hr).1
     have hR:=(hb _ hr).2
     unfold hasC
     obtain ⟨x,hx⟩:∃ x,p.X[R]?=some x:=⟨_,List.getElem?_eq_getElem oM⟩
     rw [Int.toNat_natCast,List.getD_eq_getElem?_getD,hx,Option.getD_some,hp.wide x (List.mem_of_getElem? hx)]
     simp;omega
    have hlo:lowL p.X c t rows=rows.filter fun r=>decide (colK p.X c r≤t):=by
     unfold lowL
     exact List.filter_congr fun r hr=>by rw [hall r hr,Bool.true_and]
    have hhi:highL p.X c t rows=rows.filter fun r => !decide (colK p.X c r≤t):=by
     unfold highL
     exact List.filter_congr fun r hr=>by rw [hall r hr,Bool.true_and]
    have hpm:rows.Perm (lowL p.X c t rows++highL p.X c t rows):=by rw [hlo,hhi];exact filter_perm _ _
    have h0:=hp.gain
    refine ⟨hcw,plQ_ht hp.small ht2,by omega,by omega,hpm,?_⟩
    have:p.gain<p.cost rows-(p.cost (lowL p.X c t rows)+p.cost (highL p.X c t rows)):=Rat.not_le.1 hg
    grind
   ·cases hm
theorem nd_ok {p:GP} {kd cl:Int} {w:Nat} (hp:GPok p kd cl w) {rows:List Int} (h1:1≤rows.length) (h2:rows.length≤300) (hb:∀ r,r∈rows→0≤r∧r<(p.X.length:Int)) {c l r:Int} {t:Rat} (ht':ht t≤100):OkN kd cl { p.nd rows with col:=c,left:=l,right:=r,at':=t } :=
 ⟨⟨by show 1≤(rows.length:Int);omega,by show (rows.length:Int)≤1048576;omega⟩,hp.cost0 rows,hp.clen rows,hp.cpos rows,fun e=>hp.csum e rows hb,rfl,fun e=>hp.zero e rows,ht',hp.csm rows h2 hb,hp.msm rows h2 hb⟩
theorem grow_ok {p:GP} {kd cl:Int} {w:Nat} (hp:GPok p kd cl w):∀ (d k:Nat) (rows:List Int) (s:Int),1≤rows.length→rows.length≤300→(∀ r,r∈rows→0≤r∧r<(p.X.length:Int))→∀ T:List Nd,(∀ (j:Nat) (n:Nd),(p.grow d k rows s).1[j]?=some n→T[k+j]?=some n) →
  Sub T w k d (k+(p.grow d k rows s).1.length)∧(∃ n,T[k]?=some n∧n.rows=(rows.length:Int)∧n.counts=p.cnt rows∧n.cost=p.cost rows)∧∀ j,j<(p.grow d k rows s).1.length→NodeOk kd cl T (k+j):=by
 have single:∀ (d k:Nat) (rows:List Int),1≤rows.length→rows.length≤300→(∀ r,r∈rows→0≤r∧r<(p.X.length:Int))→∀ T:List Nd,(∀ (j:Nat) (n:Nd),[p.nd rows][j]?=some n→T[k+j]?=some n) →
   Sub T w k d (k+1)∧(∃ n,T[k]?=some n∧n.rows=(rows.length:Int)∧n.counts=p.cnt rows∧n.cost=p.cost rows)∧∀ j,j<1→NodeOk kd cl T (k+j):=by
  intro d k rows h1 h2 hb T hT
  have h0:=hT 0 _ rfl
  rw [Nat.add_zero] at h0
  refine ⟨.leaf h0 rfl rfl rfl rfl,⟨_,h0,rfl,rfl,rfl⟩,fun j hj=>?_⟩
  obtain rfl:j=0:=by omega
  refine ⟨_,by rw [Nat.add_zero];exact h0,nd_ok hp h1 h2 hb (c:=-1) (l:=0) (r:=0) (t:=0) (by rw [ht_zero];decide),fun e=>absurd rfl e⟩
 intro d
 induction d with
 | zero =>
  intro k rows s h1 h2 hb T hT
  rw [GP.grow_zero] at hT ⊢
  exact single 0 k rows h1 h2 hb T hT
 | succ d ih =>
  intro k rows s h1 h2 hb T hT
  cases hc:p.cut rows (p.cols s).1 with
  | none =>
   rw [GP.grow_none hc] at hT ⊢
   exact single (d+1) k rows h1 h2 hb T hT
  | some ct =>
   obtain ⟨c,t⟩:=ct
   obtain ⟨hcw,htb,hl1,hr1,hpm,hcost⟩:=cut_ok hp hb hc
   have hll:(lowL p.X c t rows).length≤300:=Nat.le_trans (List.length_filter_le _ _) h2
   have hhl:(highL p.X c t rows).length≤300:=Nat.le_trans (List.length_filter_le _ _) h2
   have hlm:∀ r,r∈lowL p.X c t rows→0≤r∧r<(p.X.length:Int):=fun r hr=>hb r (List.mem_filter.mp hr).1
   have hhm:∀ r,r∈highL p.X c t rows→0≤r∧r<(p.X.length:Int):=fun r hr=>hb r (List.mem_filter.mp hr).1
   rw [GP.grow_some hc] at hT ⊢
   have hLl:=p.grow_len d (k+1) (lowL p.X c t rows) (p.cols s).2
   have ihL:=ih (k+1) (lowL p.X c t rows) (p.cols s).2 hl1 hll hlm T
   generalize p.grow d (k+1) (lowL p.X c t rows) (p.cols s).2=L at *
   obtain ⟨Ls,s2⟩:=L
   have hRl:=p.grow_len d (k+1+Ls.length) (highL p.X c t rows) s2
   have ihR:=ih (k+1+Ls.length) (highL p.X c t rows) s2 hr1 hhl hhm T
   dsimp only at hT hLl ihL ⊢
   generalize p.grow d (k+1+Ls.length) (highL p.X c t rows) s2=R at *
   obtain ⟨Rs,s3⟩:=R
   dsimp only at hT hRl ihR ⊢
   have h0:=hT 0 _ rfl
   rw [Nat.add_zero] at h0
   obtain ⟨sL,⟨a,ha,ha1,ha2,ha3⟩,nL⟩:=ihL (fun j n hj=>by
    have:=hT (j+1) n (by rw [List.getElem?_cons_succ,List.getElem?_append_left (List.getElem?_eq_some_iff.1 hj).1];exact hj)
    rw [show k+1+j=k+(j+1) by omega];exact this)
   obtain ⟨sR,⟨b,hb',hb1,hb2,hb3⟩,nR⟩:=ihR (fun j n hj=>by
    have:=hT (j+Ls.length+1) n (by rw [List.getElem?_cons_succ,List.getElem?_append_right oM,Nat.add_sub_cancel];exact hj)
    rw [show k+1+Ls.length+j=k+(j+Ls.length+1) by omega];exact this)
   have hlen:rows.length=(lowL p.X c t rows).length+(highL p.X c t rows).length:=by rw [hpm.length_eq,List.length_append]
   have hroot:NodeOk kd cl T k:=by
    refine ⟨_,h0,nd_ok hp h1 h2 hb htb,fun _=>⟨hcw.1,Int.natCast_nonneg _,Int.natCast_nonneg _,a,b,by rw [Int.toNat_natCast];exact ha,by rw [Int.toNat_natCast];exact hb',⟨?_,fun q=>?_,?_⟩⟩⟩
    ·rw [ha1,hb1];show (rows.length:Int)=_;omega
    ·rw [ha2,hb2];exact hp.cadd _ _ _ hpm q
    ·rw [ha3,hb3];exact hcost
   refine ⟨?_,⟨_,h0,rfl,rfl,rfl⟩,fun j hj=>?_⟩
   ·rw [List.length_cons,List.length_append,show k+(Ls.length+Rs.length+1)=k+1+Ls.length+Rs.length by omega]
    exact .node h0 hcw.1 hcw.2 rfl rfl sL sR
   ·rw [List.length_cons,List.length_append] at hj
    cases j with
    | zero=>exact hroot
    | succ j =>
     by_cases h:j<Ls.length
     ·rw [show k+(j+1)=k+1+j by omega];exact nL j h
     ·rw [show k+(j+1)=k+1+Ls.length+(j-Ls.length) by omega];exact nR _ oM
structure TreeOk (t:Tr):Prop where
 kind:(t.kd=1∧1≤t.cl∧t.cl≤12)∨(t.kd=2∧t.cl=0)
 wide:1≤t.w∧t.w≤20
 len:t.ns.length≤2000
 sub:∃ h,h≤10∧Sub t.ns t.w 0 h t.ns.length
 nodes:∀ i,i<t.ns.length→NodeOk t.kd t.cl t.ns i
theorem grow_tree {p:GP} {kd cl:Int} {w D:Nat} (hp:GPok p kd cl w) (hw:1≤w∧w≤20) (hD:D≤9) {rows:List Int} (h1:1≤rows.length) (h2:rows.length≤300) (hb:∀ r,r∈rows→0≤r∧r<(p.X.length:Int)) (s:Int):TreeOk ⟨kd,cl,w,(p.grow D 0 rows s).1⟩:=by
 obtain ⟨h3,_,h4⟩:=grow_ok hp D 0 rows s h1 h2 hb (p.grow D 0 rows s).1 (fun j n hj=>by rw [Nat.zero_add];exact hj)
 have hl:=(p.grow_len D 0 rows s).2
 have hpow:2 ^ (D+1)≤2 ^ 10:=Nat.pow_le_pow_right oM oM
 rw [Nat.zero_add] at h3
 exact ⟨hp.kind,⟨by show (1:Int)≤w;omega,by show (w:Int)≤20;omega⟩,by show (p.grow D 0 rows s).1.length≤2000;omega,⟨D,by omega,h3⟩,fun i hi=>by have:=h4 i hi;rwa [Nat.zero_add] at this⟩
end Go.Proofs.YtgjepkeeeemppaaGreatDoor
namespace Go.Proofs.YtgjepkeeeemppaaGreatDoor
open Go.RowKit _root_.Go.Proofs.Tryz
theorem RNodes.get {H:Hp} {css:List (List Value)} {ns:List Nd} (h:RNodes H css ns) {j:Nat} {n:Nd} (hj:ns[j]?=some n):∃ c,(css.flatten.drop (j*15)).take 15=c∧RNode H c n:=by
 have hlt:=(List.getElem?_eq_some_iff.1 hj).1
 obtain ⟨c,hc⟩:∃ c,css[j]?=some c:=⟨_,List.getElem?_eq_getElem (by rw [h.1];exact hlt)⟩
 refine ⟨c,?_,h.2 j c n hc hj⟩
 have h15:∀ x,x∈css→(id x).length=15:=fun x hx=>by
  obtain ⟨i,hi⟩:=List.mem_iff_getElem?.1 hx
  have hi':=(List.getElem?_eq_some_iff.1 hi).1
  exact (h.2 i x _ hi (List.getElem?_eq_getElem (by rw [← h.1];exact hi'))).len
 have:=flat_cut id 15 css h15 j c hc
 rwa [List.flatMap_id] at this
abbrev treeV (kd cl w:Int) (vn:Value):Value:=.agg #[.int .i64 kd,.int .i64 cl,.int .i64 w,vn]
set_option maxRecDepth 100000 in
set_option maxHeartbeats 16000000 in
theorem rend_pw {kd cl w:Int} {a:Option Addr} {cp:Nat} {ns:List Nd} (hln:ns.length≤1000000) {k h e:Nat} (hsub:Sub ns w k h e):∀ {H:Hp} {css:List (List Value)} {b:Nat} {T:TypeId} {deep:Nat} {far:Int},RNodes H css ns→SlC H (.slice a ns.length cp) ns.length 15 css.flatten→deep≤k →
  PW prog 80 #[treeV kd cl w (.slice a ns.length cp),.int .i64 (k:Int),.int .i64 (deep:Int),.pointer (some ⟨b,0,none⟩)] H [(b,T,[.int .i64 far])] fun v ow _=>v=.int .i64 (e:Int)∧∃ far',ow=[(b,T,[.int .i64 far'])]∧far'≤max far ((deep+h:Nat):Int):=by
 induction hsub with
 | @leaf k h n hn hc hl hr ha =>
  intro H css b T deep far hns hsl hdk
  have hlt:=(List.getElem?_eq_some_iff.1 hn).1
  obtain ⟨c,hcut,hnd⟩:=hns.get hn
  obtain ⟨b1,a1,l1,c1,a2,l2,c2,b3,a3,l3,c3,a4,l4,c4,b5,a5,l5,c5,a6,l6,c6,a7,c7,rfl,k1,_⟩:=hnd.cells
  have hsg:=refSign_pc k1
  rw [ha] at hsg
  have hsg0:PC prog 70 #[.agg #[.bool b1,.slice a1 l1 c1,.slice a2 l2 c2]] H fun r _=>r=.int .i64 0:=hsg
  refine PW.body tO func80 rfl kR ntmps80 rfl rfl ?_
  try refine RUN ?_
  rw [decide_eq_false (show ¬ (k:Int)<0 by omega)]
  try refine RUN ?_
  rw [decide_eq_false (show ¬ (k:Int)≥(ns.length:Int) by omega)]
  try refine RUN ?_
  rw [decide_eq_false (show ¬ (deep:Int)>(ns.length:Int) by omega)]
  try refine RUN ?_
  refine EVL.idxM tO rfl rfl rfl rfl rfl rfl rfl rfl rfl (hsl) (k) (rfl) (hlt) (hcut) ?_
  try refine RUN ?_
  rw [hc]
  try refine RUN ?_
  refine EVL.nilB rfl rfl rfl rfl rfl ?_
  refine EVL.loadOwn tO rfl rfl rfl rfl rfl rfl (0) rfl (rfl) rfl rfl ?_
  try refine RUN ?_
  refine EVL.nilB rfl rfl rfl rfl rfl ?_
  refine EVL.storeOwn tO rfl rfl rfl rfl rfl rfl ([]) ([]) rfl rfl rfl rfl ((by exact Nat.le_refl 1)) (rfl) ?_
  try refine RUN ?_
  rw [hl,hr]
  repeat (first | refine RUN ?_ | refine CV (hsg0) ?_ | refine CE (hsg0) ?_)
  refine ⟨by rw [wi_inc k (by omega)],_,rfl,?_⟩
  split <;> omega
 | @node k h m e n hn hc1 hc2 hl hr s1 s2 ih1 ih2 =>
  intro H css b T deep far hns hsl hdk
  have hlt:=(List.getElem?_eq_some_iff.1 hn).1
  obtain ⟨hm1,hm2⟩:=s1.lt
  obtain ⟨he1,he2⟩:=s2.lt
  obtain ⟨c,hcut,hnd⟩:=hns.get hn
  obtain ⟨b1,a1,l1,c1,a2,l2,c2,b3,a3,l3,c3,a4,l4,c4,b5,a5,l5,c5,a6,l6,c6,a7,c7,rfl,k1,_⟩:=hnd.cells
  refine PW.body tO func80 rfl kR ntmps80 rfl rfl ?_
  try refine RUN ?_
  rw [decide_eq_false (show ¬ (k:Int)<0 by omega)]
  try refine RUN ?_
  rw [decide_eq_false (show ¬ (k:Int)≥(ns.length:Int) by omega)]
  try refine RUN ?_
  rw [decide_eq_false (show ¬ (deep:Int)>(ns.length:Int) by omega)]
  try refine RUN ?_
  refine EVL.idxM tO rfl rfl rfl rfl rfl rfl rfl rfl rfl (hsl) (k) (rfl) (hlt) (hcut) ?_
  try refine RUN ?_
  rw [show (n.col == -1)=false from beq_eq_false_iff_ne.2 (by omega)]
  try refine RUN ?_
  rw [decide_eq_false (show ¬ n.col<0 by omega)]
  try refine RUN ?_
  rw [decide_eq_false (show ¬ n.col≥w by omega)]
  try refine RUN ?_
  rw [hl,hr,wi_inc k oM,show (((k+1:Nat):Int) != ((k+1:Nat):Int))=false from bne_self_eq_false _]
  try refine RUN ?_
  rw [wi_inc k oM,wi_inc deep (by omega)]
  refine EVL.callW rfl rfl rfl rfl rfl ([(b,T,[.int .i64 far])]) ([]) rfl (ih1 hns hsl (deep:=deep+1) oM) ?_
  rintro _ _ G1 ⟨rfl,far1,rfl,hf1⟩ hG1
  try refine RUN ?_
  rw [decide_eq_false (show ¬ (m:Int)<0 by omega)]
  try refine RUN ?_
  rw [show ((m:Int) != (m:Int))=false from bne_self_eq_false _]
  try refine RUN ?_
  rw [wi_inc deep (by omega)]
  refine EVL.callW rfl rfl rfl rfl rfl ([(b,T,[.int .i64 far1])]) ([]) rfl (ih2 (hns.mono hG1) (hsl.mono hG1) (deep:=deep+1) oM) ?_
  rintro _ _ G2 ⟨rfl,far2,rfl,hf2⟩ hG2
  try refine RUN ?_
  exact ⟨rfl,far2,rfl,by omega⟩
theorem sum_take_le {l:List Int} (h:∀ c,c∈l→0≤c) (k:Nat):0≤(l.take k).sum∧(l.take k).sum≤l.sum:=by
 have h0:∀ m:List Int,(∀ c,c∈m→0≤c)→0≤m.sum:=fun m=>by
  induction m with
  | nil=>exact fun _=>Int.le_refl 0
  | cons c m ih=>intro hm;rw [List.sum_cons];have:=hm c (List.mem_cons_self ..);have:=ih fun c hc=>hm c (List.mem_cons_of_mem _ hc);omega
 have e:l.sum=(l.take k).sum+(l.drop k).sum:=by rw [← List.sum_append,List.take_append_drop]
 have h1:=h0 (l.take k) fun c hc=>h c (List.mem_of_mem_take hc)
 have h2:=h0 (l.drop k) fun c hc=>h c (List.mem_of_mem_drop hc)
 omega
theorem sign_no {q:Rat} (h:0≤q):¬ q.num.sign<0:=by
 have:=Rat.num_nonneg.2 h
 intro k
 have:=Int.sign_nonneg_iff.2 this
 omega
set_option maxRecDepth 100000 in
set_option maxHeartbeats 32000000 in
theorem rfineN_pc {H:Hp} {kd cl w:Int} {a:Option Addr} {cp:Nat} {ns:List Nd} {css:List (List Value)} (hkd:(kd=1∧1≤cl∧cl≤12)∨(kd=2∧cl=0)) (hns:RNodes H css ns) (hsl:SlC H (.slice a ns.length cp) ns.length 15 css.flatten) (hall:∀ i,i<ns.length→NodeOk kd cl ns i) {i:Nat} (hi:i<ns.length) :
  PC prog 81 #[treeV kd cl w (.slice a ns.length cp),.int .i64 (i:Int)] H fun r _=>r=.bool true:=by
 obtain ⟨n,hn,hN,hC⟩:=hall i hi
 obtain ⟨c,hcut,hnd⟩:=hns.get hn
 obtain ⟨b1,a1,l1,c1,a2,l2,c2,b3,a3,l3,c3,a4,l4,c4,b5,a5,l5,c5,a6,l6,c6,a7,c7,rfl,k1,k2,k3,k4⟩:=hnd.cells
 have hsc:=refSign_pc k2
 have hN1:=hN.rows
 have hcl:n.counts.length≤12:=by have:=hN.len;omega
 have hcount:n.counts.sum=n.rows∨n.counts=[]:=by
  rcases hkd with ⟨e,_⟩ | ⟨e,e2⟩
  ·exact .inl (hN.sum e)
  ·exact .inr (List.length_eq_zero_iff.1 (by have:=hN.len;omega))
 refine BD func81 ntmps81 ?_
 try refine RUN ?_
 refine EVL.idxM tO rfl rfl rfl rfl rfl rfl rfl rfl rfl (hsl) (i) (rfl) (hi) (hcut) ?_
 try refine RUN ?_
 rw [decide_eq_false (show ¬ n.rows<1 by omega)]
 try refine RUN ?_
 rw [decide_eq_false (show ¬ n.rows>1048576 by omega)]
 repeat (first | refine RUN ?_ | refine CV (hsc) ?_ | refine CE (hsc) ?_)
 rw [decide_eq_false (sign_no hN.cost)]
 try refine RUN ?_
 rw [show ((n.counts.length:Int) != cl)=false by rw [hN.len];exact bne_self_eq_false _]
 try refine RUN ?_
 refine EV.meetK (ι:=Bool) [2,4,5] [2,5] (fun _=>[(64,.v (.bool false))]) (fun _=>[]) (fun _=>[]) (fun _ G=>H.Le G) rfl rfl (fun _=>rfl) ?_ ?_
 ·rcases hkd with ⟨rfl,_⟩ | ⟨rfl,rfl⟩
  ·have hv0:∀ G,H.Le G→PC prog 70 #[.agg #[.bool b5,.slice a5 l5 c5,.slice a6 l6 c6]] G fun r _=>r=.int .i64 0:=fun G hG=>by
    have:=refSign_pc (k3.mono hG)
    rw [hN.value rfl] at this
    exact this
   rw [hN.cls]
   apply EV.drawn 27 kR kR;intro xv yw
   (repeat (first | refine' DV ?_ | refine' DA ?_ | refine' DK0 ?_ | refine' DT ?_ | refine' DS ?_))
   refine' DJ.callS rfl rfl rfl rfl rfl (cO func70) (fun G hG hd=>hv0 G hG) ?_;rotate_left
   (repeat (first | refine' DV ?_ | refine' DA ?_ | refine' DK0 ?_ | refine' DT ?_ | refine' DS ?_))
   refine' DJ.callS rfl rfl rfl rfl rfl (cO func62) (fun G hG hd=>refTop_pc (k4.mono hG) oM) ?_;rotate_left
   (repeat (first | refine' DV ?_ | refine' DA ?_ | refine' DK0 ?_ | refine' DT ?_ | refine' DS ?_))
   rw [show ((topN n.counts n.counts.length:Int) != (topN n.counts n.counts.length:Int))=false from bne_self_eq_false _]
   (repeat (first | refine' DV ?_ | refine' DA ?_ | refine' DK0 ?_ | refine' DT ?_ | refine' DS ?_))
   (refine DJ.nil (fun G1 hG1 hF1=>?_);(case hS|hS2=>rfl))
   try refine RUN ?_
   exact ⟨true,⟨rfl,trivial⟩,sB,trivial,sB,rfl,hG1⟩
  ·have hc0:n.counts=[]:=List.length_eq_zero_iff.1 (by have:=hN.len;omega)
   have hcls0:n.cls=0:=by rw [hN.cls,hc0];rfl
   rw [hcls0]
   apply EV.drawn 27 kR kR;intro xv yw
   (repeat (first | refine' DV ?_ | refine' DA ?_ | refine' DK0 ?_ | refine' DT ?_ | refine' DS ?_))
   (refine DJ.nil (fun G1 hG1 hF1=>?_);(case hS|hS2=>rfl))
   try refine RUN ?_
   exact ⟨true,⟨rfl,trivial⟩,sB,trivial,sB,rfl,hG1⟩
 rintro _ G1 hG1
 try refine RUN ?_
 refine EV.loopK (ι:=Nat) [2,5] [2,5] (fun q=>[(6,.v (.int .i64 (n.rows-(n.counts.take q).sum))),(7,.v (.int .i64 (q:Int)))]) (fun _=>[]) (fun _=>[]) (fun q _=>q≤n.counts.length) (fun q=>n.counts.length-q) (0) rfl rfl ⟨(by rw [List.take_zero,List.sum_nil,Int.sub_zero];rfl),rfl,trivial⟩ trivial rfl (fun _=>rfl) (Nat.zero_le _) ?_
 rintro q G2 hG2 hq
 have hH2:=hG1.trans hG2
 try refine RUN ?_
 refine EV.cond rfl (fun hlt=>?_) (fun hlt=>?_)
 ·simp only [nN] at hlt
  obtain ⟨z,hz⟩:∃ z,n.counts[q]?=some z:=⟨_,List.getElem?_eq_getElem hlt⟩
  have hz0:=hN.pos z (List.mem_of_getElem? hz)
  have ht1:=sum_take_le hN.pos (q+1)
  have ht0:=sum_take_le hN.pos q
  have hts:(n.counts.take (q+1)).sum=(n.counts.take q).sum+z:=by rw [take_snoc hz,List.sum_append,List.sum_singleton]
  have hsum:n.counts.sum=n.rows:=hcount.resolve_right fun e=>by rw [e] at hlt;exact absurd hlt (Nat.not_lt_zero _)
  try refine RUN ?_
  refine EVL.idxR tO rfl rfl rfl rfl rfl rfl rfl rfl rfl rfl ((k4.mono hH2)) (q) (rfl) (hlt) ((by rw [List.getElem?_map,hz];rfl)) ?_
  try refine RUN ?_
  rw [decide_eq_false (show ¬ z<0 by omega)]
  try refine RUN ?_
  refine EVL.idxR tO rfl rfl rfl rfl rfl rfl rfl rfl rfl rfl ((k4.mono hH2)) (q) (rfl) (hlt) ((by rw [List.getElem?_map,hz];rfl)) ?_
  try refine RUN ?_
  rw [decide_eq_false (show ¬ z>n.rows-(n.counts.take q).sum by omega)]
  try refine RUN ?_
  refine EVL.idxR tO rfl rfl rfl rfl rfl rfl rfl rfl rfl rfl ((k4.mono hH2)) (q) (rfl) (hlt) ((by rw [List.getElem?_map,hz];rfl)) ?_
  try refine RUN ?_
  rw [show IntKind.i64.wrap (n.rows-(n.counts.take q).sum-z)=n.rows-(n.counts.take (q+1)).sum by rw [IntKind.wrap_i64];omega]
  refine ⟨q+1,⟨rfl,by rw [wi_inc q (by omega)];rfl,trivial⟩,sB,trivial,sB,rfl,hlt,Hp.Le.refl _,by omega⟩
 ·simp only [nN] at hlt
  obtain rfl:q=n.counts.length:=by omega
  rw [List.take_length]
  try refine RUN ?_
  refine EVL.meetK (ι:=Bool) [2,5] [2,5] (fun _=>[(102,.v (.bool false))]) (fun _=>[]) (fun _=>[]) (fun _ G=>H.Le G) rfl rfl (fun _=>rfl) ?_ ?_
  ·rcases hkd with ⟨rfl,_⟩ | ⟨rfl,rfl⟩
   ·rw [show n.rows-n.counts.sum=0 by rw [hN.sum rfl];omega]
    try refine RUN ?_
    exact ⟨true,⟨rfl,trivial⟩,sB,trivial,sB,rfl,hH2⟩
   ·(try refine RUN ?_)
    exact ⟨true,⟨rfl,trivial⟩,sB,trivial,sB,rfl,hH2⟩
  rintro _ G3 hH3
  try refine RUN ?_
  by_cases hcol:n.col = -1
  ·rw [decide_eq_true (show n.col<0 by omega)]
   try refine RUN ?_
   rfl
  obtain ⟨hc0,hl0,hr0,na,nb,hna,hnb,hCC⟩:=hC hcol
  rw [decide_eq_false (show ¬ n.col<0 by omega)]
  have hla:=(List.getElem?_eq_some_iff.1 hna).1
  have hlb:=(List.getElem?_eq_some_iff.1 hnb).1
  obtain ⟨na',ena,hNa,_⟩:=hall _ hla
  obtain ⟨nb',enb,hNb,_⟩:=hall _ hlb
  cases hna.symm.trans ena
  cases hnb.symm.trans enb
  obtain ⟨ca,hcuta,hnda⟩:=hns.get hna
  obtain ⟨cb,hcutb,hndb⟩:=hns.get hnb
  obtain ⟨xb1,xa1,xl1,xc1,xa2,xl2,xc2,xb3,xa3,xl3,xc3,xa4,xl4,xc4,xb5,xa5,xl5,xc5,xa6,xl6,xc6,xa7,xc7,rfl,ka1,ka2,ka3,ka4⟩:=hnda.cells
  obtain ⟨yb1,ya1,yl1,yc1,ya2,yl2,yc2,yb3,ya3,yl3,yc3,ya4,yl4,yc4,yb5,ya5,yl5,yc5,ya6,yl6,yc6,ya7,yc7,rfl,kb1,kb2,kb3,kb4⟩:=hndb.cells
  have hRa:=hNa.rows
  have hRb:=hNb.rows
  have hRc:=hCC.rows
  try refine RUN ?_
  refine EVL.idxM tO rfl rfl rfl rfl rfl rfl rfl rfl rfl ((hsl.mono hH3)) (n.left.toNat) ((by rw [Int.toNat_of_nonneg hl0])) (hla) (hcuta) ?_
  try refine RUN ?_
  refine EVL.idxM tO rfl rfl rfl rfl rfl rfl rfl rfl rfl ((hsl.mono hH3)) (n.right.toNat) ((by rw [Int.toNat_of_nonneg hr0])) (hlb) (hcutb) ?_
  try refine RUN ?_
  have hadd:=ht_add na.cost nb.cost
  have hs0:=hN.small
  have hsa:=hNa.small
  have hsb:=hNb.small
  have hwr:IntKind.i64.wrap (n.rows-na.rows)=nb.rows:=by rw [IntKind.wrap_i64];omega
  apply EV.drawn 36 kR kR;intro xv yw
  (repeat (first | refine' DV ?_ | refine' DA ?_ | refine' DK0 ?_ | refine' DT ?_ | refine' DS ?_))
  rw [decide_eq_false (show ¬ na.rows<1 by omega)]
  (repeat (first | refine' DV ?_ | refine' DA ?_ | refine' DK0 ?_ | refine' DT ?_ | refine' DS ?_))
  rw [decide_eq_false (show ¬ nb.rows<1 by omega)]
  (repeat (first | refine' DV ?_ | refine' DA ?_ | refine' DK0 ?_ | refine' DT ?_ | refine' DS ?_))
  rw [decide_eq_false (show ¬ na.rows≥n.rows by omega)]
  (repeat (first | refine' DV ?_ | refine' DA ?_ | refine' DK0 ?_ | refine' DT ?_ | refine' DS ?_))
  rw [hwr,show (nb.rows != nb.rows)=false from bne_self_eq_false _]
  (repeat (first | refine' DV ?_ | refine' DA ?_ | refine' DK0 ?_ | refine' DT ?_ | refine' DS ?_))
  refine' DJ.call rfl rfl rfl rfl rfl (cO func60) (fun G hG hd=>refAdd_pc (ka2.mono (hH3.trans hG)) (kb2.mono (hH3.trans hG)) (rq_small hsa.2.1 oM) (rq_small hsb.2.1 oM)) (fun _ _ _ h k=>RQ.mono h k) ?_;rotate_left
  refine' DJ.callS rfl rfl rfl rfl rfl (cO func124) (fun G hG hd=>refCmp_pc (k2.mono (hH3.trans hG)) (hd.head kR) (rq_small hs0.2.1 oM) (by unfold rq;omega)) ?_;rotate_left
  (repeat (first | refine' DV ?_ | refine' DA ?_ | refine' DK0 ?_ | refine' DT ?_ | refine' DS ?_))
  rw [decide_eq_false (show ¬ ordR n.cost (na.cost+nb.cost)<0 from fun k=>Rat.not_lt.2 hCC.cost ((ordR_lt0 _ _).1 k))]
  (refine DJ.nil (fun G4 hG4 hF4=>?_);(case hS|hS2=>rfl))
  try refine RUN ?_
  refine EV.loopK (ι:=Nat) [2,5,8,9] [2,5,8,9] (fun q=>[(10,.v (.int .i64 (q:Int)))]) (fun _=>[]) (fun _=>[]) (fun q _=>q≤n.counts.length) (fun q=>n.counts.length-q) (0) rfl rfl ⟨rfl,trivial⟩ trivial rfl (fun _=>rfl) (Nat.zero_le _) ?_
  rintro q G5 hG5 hq
  have hH5:=hH3.trans (hG4.trans hG5)
  have hlna:(na.counts.length:Int)=cl:=hNa.len
  have hlnb:(nb.counts.length:Int)=cl:=hNb.len
  have hlnn:(n.counts.length:Int)=cl:=hN.len
  try refine RUN ?_
  refine EV.cond rfl (fun hlt=>?_) (fun hlt=>?_)
  ·simp only [nN] at hlt
   have hk1:kd=1:=by
    rcases hkd with ⟨e,_⟩ | ⟨_,e⟩
    ·exact e
    ·omega
   obtain ⟨z,hz⟩:∃ z,n.counts[q]?=some z:=⟨_,List.getElem?_eq_getElem hlt⟩
   have hqa:q<na.counts.length:=by omega
   have hqb:q<nb.counts.length:=by omega
   obtain ⟨za,hza⟩:∃ z,na.counts[q]?=some z:=⟨_,List.getElem?_eq_getElem hqa⟩
   obtain ⟨zb,hzb⟩:∃ z,nb.counts[q]?=some z:=⟨_,List.getElem?_eq_getElem hqb⟩
   have hcc:=hCC.counts q
   rw [List.getD_eq_getElem?_getD,List.getD_eq_getElem?_getD,List.getD_eq_getElem?_getD,hz,hza,hzb] at hcc
   simp only [Option.getD_some] at hcc
   have hpa:=hNa.pos za (List.mem_of_getElem? hza)
   have hpb:=hNb.pos zb (List.mem_of_getElem? hzb)
   have hup:zb≤1048576:=by
    have h1:=sum_take_le hNb.pos (q+1)
    have h2:=sum_take_le hNb.pos q
    rw [take_snoc hzb,List.sum_append,List.sum_singleton] at h1
    have h3:=hNb.sum hk1
    omega
   have hwz:IntKind.i64.wrap (z-za)=zb:=by rw [IntKind.wrap_i64];omega
   try refine RUN ?_
   apply EV.drawn 54 kR kR;intro xv yw
   (repeat (first | refine' DV ?_ | refine' DA ?_ | refine' DK0 ?_ | refine' DT ?_ | refine' DS ?_))
   rw [show ((na.counts.length:Int) != cl)=false by rw [hlna];exact bne_self_eq_false _]
   (repeat (first | refine' DV ?_ | refine' DA ?_ | refine' DK0 ?_ | refine' DT ?_ | refine' DS ?_))
   rw [show ((nb.counts.length:Int) != cl)=false by rw [hlnb];exact bne_self_eq_false _]
   (repeat (first | refine' DV ?_ | refine' DA ?_ | refine' DK0 ?_ | refine' DT ?_ | refine' DS ?_))
   refine' DJ.ofVal (ValOk.idx1 tO rfl rfl rfl rfl rfl rfl rfl rfl ((ka4.mono hH5)) (q) (rfl) (hqa) ((by rw [List.getElem?_map,hza];rfl))) rfl rfl rfl ?_;rotate_left
   (repeat (first | refine' DV ?_ | refine' DA ?_ | refine' DK0 ?_ | refine' DT ?_ | refine' DS ?_))
   rw [decide_eq_false (show ¬ za<0 by omega)]
   (repeat (first | refine' DV ?_ | refine' DA ?_ | refine' DK0 ?_ | refine' DT ?_ | refine' DS ?_))
   refine' DJ.ofVal (ValOk.idx1 tO rfl rfl rfl rfl rfl rfl rfl rfl ((ka4.mono hH5)) (q) (rfl) (hqa) ((by rw [List.getElem?_map,hza];rfl))) rfl rfl rfl ?_;rotate_left
   (repeat (first | refine' DV ?_ | refine' DA ?_ | refine' DK0 ?_ | refine' DT ?_ | refine' DS ?_))
   refine' DJ.ofVal (ValOk.idx1 tO rfl rfl rfl rfl rfl rfl rfl rfl ((k4.mono hH5)) (q) (rfl) (hlt) ((by rw [List.getElem?_map,hz];rfl))) rfl rfl rfl ?_;rotate_left
   (repeat (first | refine' DV ?_ | refine' DA ?_ | refine' DK0 ?_ | refine' DT ?_ | refine' DS ?_))
   rw [decide_eq_false (show ¬ za>z by omega)]
   (repeat (first | refine' DV ?_ | refine' DA ?_ | refine' DK0 ?_ | refine' DT ?_ | refine' DS ?_))
   refine' DJ.ofVal (ValOk.idx1 tO rfl rfl rfl rfl rfl rfl rfl rfl ((kb4.mono hH5)) (q) (rfl) (hqb) ((by rw [List.getElem?_map,hzb];rfl))) rfl rfl rfl ?_;rotate_left
   (repeat (first | refine' DV ?_ | refine' DA ?_ | refine' DK0 ?_ | refine' DT ?_ | refine' DS ?_))
   refine' DJ.ofVal (ValOk.idx1 tO rfl rfl rfl rfl rfl rfl rfl rfl ((k4.mono hH5)) (q) (rfl) (hlt) ((by rw [List.getElem?_map,hz];rfl))) rfl rfl rfl ?_;rotate_left
   (repeat (first | refine' DV ?_ | refine' DA ?_ | refine' DK0 ?_ | refine' DT ?_ | refine' DS ?_))
   refine' DJ.ofVal (ValOk.idx1 tO rfl rfl rfl rfl rfl rfl rfl rfl ((ka4.mono hH5)) (q) (rfl) (hqa) ((by rw [List.getElem?_map,hza];rfl))) rfl rfl rfl ?_;rotate_left
   (repeat (first | refine' DV ?_ | refine' DA ?_ | refine' DK0 ?_ | refine' DT ?_ | refine' DS ?_))
   rw [hwz,show (zb != zb)=false from bne_self_eq_false _]
   (repeat (first | refine' DV ?_ | refine' DA ?_ | refine' DK0 ?_ | refine' DT ?_ | refine' DS ?_))
   (refine DJ.nil (fun G hG hF=>?_);(case hS|hS2=>rfl))
   try refine RUN ?_
   refine ⟨q+1,⟨by rw [wi_inc q (by omega)];rfl,trivial⟩,sB,trivial,sB,rfl,hlt,hG,by omega⟩
  ·(try refine RUN ?_)
   rfl
theorem Sub.end0 {T:List Nd} {w:Int} {h e:Nat} (h0:Sub T w 0 h e):0<T.length:=by
 have:=h0.lt
 omega
set_option maxRecDepth 100000 in
set_option maxHeartbeats 16000000 in
theorem rcheckT_pc {H:Hp} {kd cl w:Int} {ns:List Nd} {cs:List Value} (ht:RTree H cs kd cl w ns) (hok:TreeOk ⟨kd,cl,w,ns⟩):PC prog 40 #[.agg cs.toArray] H fun r _=>r=.int .i64 0:=by
 obtain ⟨a,cp,css,rfl,hns,hsl⟩:=ht
 obtain ⟨hkd,hw,hln,⟨hh,hh10,hsub⟩,hall⟩:=hok
 dsimp only at hkd hw hln hsub hall
 have hpos:=hsub.end0
 refine BD func40 ntmps40 ?_
 try refine RUN ?_
 refine EVL.meetK (ι:=Bool) [1,2] [1] (fun _=>[(12,.v (.bool false))]) (fun _=>[]) (fun _=>[]) (fun _ G=>H.Le G) rfl rfl (fun _=>rfl) ?_ ?_
 ·rcases hkd with ⟨rfl,_⟩ | ⟨rfl,rfl⟩
  ·(try refine RUN ?_)
   exact ⟨true,⟨rfl,trivial⟩,sB,trivial,sB,rfl,Hp.Le.refl _⟩
  ·(try refine RUN ?_)
   exact ⟨true,⟨rfl,trivial⟩,sB,trivial,sB,rfl,Hp.Le.refl _⟩
 rintro _ G1 hG1
 try refine RUN ?_
 rw [decide_eq_false (show ¬ w<1 by omega)]
 try refine RUN ?_
 rw [decide_eq_false (show ¬ w>20 by omega)]
 try refine RUN ?_
 refine EVL.meetK (ι:=Bool) [1,2] [1] (fun _=>[(57,.v (.bool false))]) (fun _=>[]) (fun _=>[]) (fun _ G=>H.Le G) rfl rfl (fun _=>rfl) ?_ ?_
 ·have fin1:decide ((ns.length:Int)<1)=false:=decide_eq_false oM
  have fin2:decide ((ns.length:Int)>2000)=false:=decide_eq_false oM
  rcases hkd with ⟨rfl,h1,h2⟩ | ⟨rfl,rfl⟩
  ·(try refine RUN ?_)
   rw [decide_eq_false (show ¬ cl<1 by omega)]
   try refine RUN ?_
   rw [decide_eq_false (show ¬ cl>12 by omega)]
   try refine RUN ?_
   rw [fin1]
   try refine RUN ?_
   rw [fin2]
   try refine RUN ?_
   exact ⟨true,⟨rfl,trivial⟩,sB,trivial,sB,rfl,hG1⟩
  ·(try refine RUN ?_)
   rw [fin1]
   try refine RUN ?_
   rw [fin2]
   try refine RUN ?_
   exact ⟨true,⟨rfl,trivial⟩,sB,trivial,sB,rfl,hG1⟩
 rintro _ G2 hG2
 try refine RUN ?_
 (first | refine EVL.unbox (3) rfl fun g3=>?_ | refine EV.unbox (3) rfl fun g3=>?_)
 (first | refine EVL.unbox (1) rfl fun g1=>?_ | refine EV.unbox (1) rfl fun g1=>?_)
 refine EVI.start none (g1,53,[.int .i64 kd,.int .i64 cl,.int .i64 w,.slice a ns.length cp]) ?_
 refine IL0 0 ?_
 refine IF 2 ?_
 refine IL0 3 ?_
 refine IV 4 ?_
 refine EVI.one 1 0 (.inr rfl) kR rfl ?_
 (first | refine EVL.swapOw ([(g1,_,_)]) ([(g3,_,_)]) (rfl) ?_ | refine EV.swapOw ([(g1,_,_)]) ([(g3,_,_)]) (rfl) ?_)
 refine EVL.callW rfl rfl rfl rfl rfl ([(g3,_,_)]) ([(g1,_,_)]) rfl (rend_pw oM hsub (hns.mono hG2) (hsl.mono hG2) (deep:=0) (Nat.le_refl _)) ?_
 rintro _ _ G3 ⟨rfl,far,rfl,hfar⟩ hG3
 (first | refine EVL.swapOw ([(g3,_,_)]) ([(g1,_,_)]) (rfl) ?_ | refine EV.swapOw ([(g3,_,_)]) ([(g1,_,_)]) (rfl) ?_)
 refine EVL.nil ⟨rfl,?_⟩
 refine EVI.one 5 0 (.inr rfl) kR rfl ?_
 (try refine RUNL ?_)
 refine EVL.nil ⟨rfl,?_⟩
 refine EVI.nil 0 (.inr rfl) kR ?_
 rw [show ((ns.length:Int) != (ns.length:Int))=false from bne_self_eq_false _]
 try refine RUN ?_
 refine EVL.loadOwn tO rfl rfl rfl rfl rfl rfl (1) rfl (rfl) rfl rfl ?_
 try refine RUN ?_
 rw [decide_eq_false (show ¬ far>10 by omega)]
 try refine RUN ?_
 refine EV.loopK (ι:=Nat) [1] [] (fun q=>[(4,.v (.int .i64 (q:Int)))]) (fun _=>[]) (fun _=>[(g1,53,[.int .i64 kd,.int .i64 cl,.int .i64 w,.slice a ns.length cp]),(g3,_,[.int .i64 far])]) (fun q _=>q≤ns.length) (fun q=>ns.length-q) (0) rfl rfl ⟨rfl,trivial⟩ trivial rfl (fun _=>rfl) (Nat.zero_le _) ?_
 rintro i G4 hG4 hi
 have hH4:=hG2.trans (hG3.trans hG4)
 try refine RUN ?_
 refine EVL.fldB tO rfl rfl rfl rfl rfl rfl rfl ?_
 refine EVL.loadOwn tO rfl rfl rfl rfl rfl rfl (0) rfl (rfl) rfl rfl ?_
 try refine RUN ?_
 refine EV.cond rfl (fun hlt=>?_) (fun hlt=>?_)
 ·simp only [nN] at hlt
  try refine RUN ?_
  refine EVL.loadOwn tO rfl rfl rfl rfl rfl rfl (0) rfl (rfl) rfl rfl ?_
  repeat (first | refine RUN ?_ | refine CV (rfineN_pc hkd (hns.mono hH4) (hsl.mono hH4) hall hlt) ?_ | refine CE (rfineN_pc hkd (hns.mono hH4) (hsl.mono hH4) hall hlt) ?_)
  refine ⟨i+1,⟨by rw [wi_inc i (by omega)];rfl,trivial⟩,sB,trivial,trivial,rfl,hlt,Hp.Le.refl _,by omega⟩
 ·(try refine RUN ?_)
  rfl
def fitT (kd cl w:Int) (t:Tr):Bool:=t.kd == kd && (t.cl == cl && t.w == w)
def okAt (l:List Int) (k:Nat):Bool:=decide (0≤l.getD k 0) && (decide (l.getD k 0<300) && (k == 0 || decide (l.getD (k-1) 0<l.getD k 0)))
def okL (l:List Int):Bool:=(List.range l.length).all (okAt l)
def checkF (kd cl w:Int) (ts:List Tr) (os:List (List Int)):Int :=
 if ts.length<1∨50<ts.length∨os.length≠ts.length then 5 else if ts.all (fitT kd cl w)=true then (if os.all okL=true then 0 else 1) else 10
theorem all_not {α:Type} {f:α→Bool} {l:List α} {i:Nat} {x:α} (h:l[i]?=some x) (hx:f x=false):l.all f=false:=by
 cases e:l.all f with
 | false=>rfl
 | true =>
  have:=List.all_eq_true.1 e x (List.mem_of_getElem? h)
  rw [hx] at this;cases this
theorem all_take {α:Type} {f:α→Bool} {l:List α} {i:Nat} {x:α} (h:l[i]?=some x) (hx:f x=true) (ht:(l.take i).all f=true):(l.take (i+1)).all f=true:=by
 rw [take_snoc h,List.all_append,ht];simp [hx]
theorem okL_not {l:List Int} {k:Nat} (hk:k<l.length) (h:okAt l k=false):okL l=false:=by
 cases e:okL l with
 | false=>rfl
 | true =>
  have:=List.all_eq_true.1 e k (List.mem_range.2 hk)
  rw [h] at this;cases this
theorem okL_yes {l:List Int} (h:∀ j,j<l.length→okAt l j=true):okL l=true:=List.all_eq_true.2 fun j hj=>h j (List.mem_range.1 hj)
theorem RTs.get {H:Hp} {tcs:List (List Value)} {ts:List Tr} (h:RTs H tcs ts) {j:Nat} {t:Tr} (hj:ts[j]?=some t):∃ c,(tcs.flatten.drop (j*4)).take 4=c∧RTree H c t.kd t.cl t.w t.ns:=by
 have hlt:=(List.getElem?_eq_some_iff.1 hj).1
 obtain ⟨c,hc⟩:∃ c,tcs[j]?=some c:=⟨_,List.getElem?_eq_getElem (by rw [h.1];exact hlt)⟩
 refine ⟨c,?_,h.2 j c t hc hj⟩
 have h4:∀ x,x∈tcs→(id x).length=4:=fun x hx=>by
  obtain ⟨i,hi⟩:=List.mem_iff_getElem?.1 hx
  have hi':=(List.getElem?_eq_some_iff.1 hi).1
  obtain ⟨_,_,_,e,_⟩:=h.2 i x _ hi (List.getElem?_eq_getElem (by rw [← h.1];exact hi'))
  subst e;rfl
 have:=flat_cut id 4 tcs h4 j c hc
 rwa [List.flatMap_id] at this
theorem ILs.get {H:Hp} {vs:List Value} {ls:List (List Int)} (h:ILs H vs ls) {j:Nat} {l:List Int} (hj:ls[j]?=some l):∃ a c,vs[j]?=some (.slice a l.length c)∧IL H (.slice a l.length c) l:=by
 have hlt:=(List.getElem?_eq_some_iff.1 hj).1
 obtain ⟨v,hv⟩:∃ v,vs[j]?=some v:=⟨_,List.getElem?_eq_getElem (by rw [h.1];exact hlt)⟩
 have hil:=h.2 j v l hv hj
 obtain ⟨a,c,rfl⟩:=SlC.val hil
 exact ⟨a,c,hv,hil⟩
set_option maxRecDepth 100000 in
set_option maxHeartbeats 16000000 in
theorem rcheckF_pc {H:Hp} {kd cl w:Int} {a1 a2:Option Addr} {c1 c2:Nat} {ts:List Tr} {os:List (List Int)} (ht:RTL H (.slice a1 ts.length c1) ts) (ho:ILL H (.slice a2 os.length c2) os) (hok:∀ t,t∈ts→TreeOk t) (hlo:∀ l,l∈os→l.length≤1000000) (hol:os.length≤1000000) :
  PC prog 10 #[forestV kd cl w (.slice a1 ts.length c1) (.slice a2 os.length c2)] H fun r _=>r=.int .i64 (checkF kd cl w ts os):=by
 obtain ⟨tcs,hts,hst⟩:=ht
 obtain ⟨vos,hos,hso⟩:=ho
 refine BD func10 ntmps10 ?_
 try refine RUN ?_
 by_cases h1:ts.length<1
 ·rw [decide_eq_true (show (ts.length:Int)<1 by omega)]
  try refine RUN ?_
  unfold checkF;rw [if_pos (.inl h1)]
 rw [decide_eq_false (show ¬ (ts.length:Int)<1 by omega)]
 try refine RUN ?_
 by_cases h2:50<ts.length
 ·rw [decide_eq_true (show (ts.length:Int)>50 by omega)]
  try refine RUN ?_
  unfold checkF;rw [if_pos (.inr (.inl h2))]
 rw [decide_eq_false (show ¬ (ts.length:Int)>50 by omega)]
 try refine RUN ?_
 by_cases h3:os.length=ts.length
 case neg =>
  rw [show ((os.length:Int) != (ts.length:Int))=true by rw [bne_iff_ne];omega]
  try refine RUN ?_
  unfold checkF;rw [if_pos (.inr (.inr h3))]
 rw [show ((os.length:Int) != (ts.length:Int))=false by rw [h3];exact bne_self_eq_false _]
 have hc1:checkF kd cl w ts os=if ts.all (fitT kd cl w)=true then (if os.all okL=true then 0 else 1) else 10:=by
  unfold checkF;rw [if_neg (by omega)]
 try refine RUN ?_
 refine EV.loopK (ι:=Nat) [1] [1] (fun q=>[(3,.v (.int .i64 (q:Int)))]) (fun _=>[]) (fun _=>[]) (fun q _=>q≤ts.length∧(ts.take q).all (fitT kd cl w)=true) (fun q=>ts.length-q) (0) rfl rfl ⟨rfl,trivial⟩ trivial rfl (fun _=>rfl) (⟨Nat.zero_le _,rfl⟩) ?_
 rintro i G1 hG1 ⟨hi,hall⟩
 try refine RUN ?_
 refine EV.cond rfl (fun hlt=>?_) (fun hlt=>?_)
 ·simp only [nN] at hlt
  obtain ⟨t,hti⟩:∃ t,ts[i]?=some t:=⟨_,List.getElem?_eq_getElem hlt⟩
  obtain ⟨c,hcut,htr⟩:=(hts.mono hG1).get hti
  have hck:=rcheckT_pc htr (hok t (List.mem_of_getElem? hti))
  obtain ⟨na,nc,css,rfl,_⟩:=id htr
  try refine RUN ?_
  refine EVL.idxM tO rfl rfl rfl rfl rfl rfl rfl rfl rfl ((hst.mono hG1)) (i) (rfl) (hlt) (hcut) ?_
  repeat (first | refine RUN ?_ | refine CV (hck) ?_ | refine CE (hck) ?_)
  by_cases e1:t.kd=kd
  case neg =>
   rw [show (t.kd != kd)=true from bne_iff_ne.2 e1]
   try refine RUN ?_
   rw [hc1,all_not hti (show fitT kd cl w t=false by unfold fitT;rw [show (t.kd == kd)=false from beq_eq_false_iff_ne.2 e1,Bool.false_and])];rfl
  rw [show (t.kd != kd)=false by rw [e1];exact bne_self_eq_false _]
  try refine RUN ?_
  by_cases e2:t.cl=cl
  case neg =>
   rw [show (t.cl != cl)=true from bne_iff_ne.2 e2]
   try refine RUN ?_
   rw [hc1,all_not hti (show fitT kd cl w t=false by unfold fitT;rw [show (t.cl == cl)=false from beq_eq_false_iff_ne.2 e2,Bool.false_and,Bool.and_false])];rfl
  rw [show (t.cl != cl)=false by rw [e2];exact bne_self_eq_false _]
  try refine RUN ?_
  by_cases e3:t.w=w
  case neg =>
   rw [show (t.w != w)=true from bne_iff_ne.2 e3]
   try refine RUN ?_
   rw [hc1,all_not hti (show fitT kd cl w t=false by unfold fitT;rw [show (t.w == w)=false from beq_eq_false_iff_ne.2 e3,Bool.and_false,Bool.and_false])];rfl
  rw [show (t.w != w)=false by rw [e3];exact bne_self_eq_false _]
  have hfit:fitT kd cl w t=true:=by unfold fitT;rw [e1,e2,e3];simp
  try refine RUN ?_
  refine ⟨i+1,⟨by rw [wi_inc i (by omega)];rfl,trivial⟩,sB,trivial,sB,rfl,⟨hlt,all_take hti hfit hall⟩,Hp.Le.refl _,by omega⟩
 ·simp only [nN] at hlt
  obtain rfl:i=ts.length:=by omega
  rw [List.take_length] at hall
  rw [if_pos hall] at hc1
  try refine RUN ?_
  refine EV.loopK (ι:=Nat) [1] [1] (fun q=>[(6,.v (.int .i64 (q:Int)))]) (fun _=>[]) (fun _=>[]) (fun q _=>q≤os.length∧(os.take q).all okL=true) (fun q=>os.length-q) (0) rfl rfl ⟨rfl,trivial⟩ trivial rfl (fun _=>rfl) (⟨Nat.zero_le _,rfl⟩) ?_
  rintro i G2 hG2 ⟨hi,hallo⟩
  have hH2:=hG1.trans hG2
  try refine RUN ?_
  refine EV.cond rfl (fun hlo1=>?_) (fun hlo1=>?_)
  ·simp only [nN] at hlo1
   obtain ⟨l,hl⟩:∃ l,os[i]?=some l:=⟨_,List.getElem?_eq_getElem hlo1⟩
   obtain ⟨la,lc,hv,hil⟩:=(hos.mono hH2).get hl
   have hll:=hlo l (List.mem_of_getElem? hl)
   try refine RUN ?_
   refine EV.loopK (ι:=Nat) [1,6] [1] (fun q=>[(7,.v (.int .i64 (q:Int)))]) (fun _=>[]) (fun _=>[]) (fun q _=>q≤l.length∧∀ j,j<q→okAt l j=true) (fun q=>l.length-q) (0) rfl rfl ⟨rfl,trivial⟩ trivial rfl (fun _=>rfl) (⟨Nat.zero_le _,fun j hj=>absurd hj (Nat.not_lt_zero _)⟩) ?_
   rintro q G3 hG3 ⟨hq,hok3⟩
   have hH3:=hH2.trans hG3
   try refine RUN ?_
   refine EVL.idxR tO rfl rfl rfl rfl rfl rfl rfl rfl rfl rfl ((hso.mono hH3)) (i) (rfl) (hlo1) (hv) ?_
   try refine RUN ?_
   refine EV.cond rfl (fun hlq=>?_) (fun hlq=>?_)
   ·simp only [nN] at hlq
    obtain ⟨z,hz⟩:∃ z,l[q]?=some z:=⟨_,List.getElem?_eq_getElem hlq⟩
    have hgz:l.getD q 0=z:=by rw [List.getD_eq_getElem?_getD,hz];rfl
    have hbad:okAt l q=false→checkF kd cl w ts os=1:=fun e=>by
     rw [hc1,if_neg (by rw [all_not hl (okL_not hlq e)];decide)]
    try refine RUN ?_
    refine EVL.idxR tO rfl rfl rfl rfl rfl rfl rfl rfl rfl rfl ((hso.mono hH3)) (i) (rfl) (hlo1) (hv) ?_
    try refine RUN ?_
    refine EVL.idxR tO rfl rfl rfl rfl rfl rfl rfl rfl rfl rfl ((hil.mono hG3)) (q) (rfl) (hlq) ((by rw [List.getElem?_map,hz];rfl)) ?_
    try refine RUN ?_
    by_cases z1:z<0
    ·rw [decide_eq_true z1]
     try refine RUN ?_
     rw [hbad (by unfold okAt;rw [hgz,decide_eq_false (show ¬ 0≤z by omega),Bool.false_and])]
    rw [decide_eq_false z1]
    try refine RUN ?_
    by_cases z2:z≥300
    ·rw [decide_eq_true z2]
     try refine RUN ?_
     rw [hbad (by unfold okAt;rw [hgz,decide_eq_false (show ¬ z<300 by omega),Bool.false_and,Bool.and_false])]
    rw [decide_eq_false z2]
    try refine RUN ?_
    have hstep:okAt l q=true→∀ j,j<q+1→okAt l j=true:=fun e j hj=>by
     by_cases h:j<q
     ·exact hok3 j h
     ·obtain rfl:j=q:=by omega
      exact e
    by_cases hq0:q=0
    ·subst hq0
     try refine RUN ?_
     refine ⟨0+1,⟨rfl,trivial⟩,sB,trivial,sB,rfl,⟨hlq,hstep (by unfold okAt;rw [hgz,decide_eq_true (show 0≤z by omega),decide_eq_true (show z<300 by omega)];rfl)⟩,Hp.Le.refl _,by omega⟩
    rw [decide_eq_true (show (q:Int)>0 by omega)]
    try refine RUN ?_
    refine EVL.idxR tO rfl rfl rfl rfl rfl rfl rfl rfl rfl rfl ((hso.mono hH3)) (i) (rfl) (hlo1) (hv) ?_
    try refine RUN ?_
    obtain ⟨y,hy⟩:∃ y,l[q-1]?=some y:=⟨_,List.getElem?_eq_getElem oM⟩
    have hgy:l.getD (q-1) 0=y:=by rw [List.getD_eq_getElem?_getD,hy];rfl
    rw [show IntKind.i64.wrap ((q:Int)-1)=((q-1:Nat):Int) by rw [IntKind.wrap_i64];omega]
    refine EVL.idxR tO rfl rfl rfl rfl rfl rfl rfl rfl rfl rfl ((hil.mono hG3)) (q-1) (rfl) (oM) ((by rw [List.getElem?_map,hy];rfl)) ?_
    try refine RUN ?_
    by_cases hzy:z≤y
    ·rw [decide_eq_true hzy]
     try refine RUN ?_
     rw [hbad (by unfold okAt;rw [hgz,hgy,decide_eq_false (show ¬ y<z by omega),show (q == 0)=false from beq_eq_false_iff_ne.2 hq0];simp)]
    rw [decide_eq_false hzy]
    try refine RUN ?_
    refine ⟨q+1,⟨by rw [wi_inc q (by omega)];rfl,trivial⟩,sB,trivial,sB,rfl,⟨hlq,hstep (by unfold okAt;rw [hgz,hgy,decide_eq_true (show 0≤z by omega),decide_eq_true (show z<300 by omega),decide_eq_true (show y<z by omega)];simp)⟩,Hp.Le.refl _,by omega⟩
   ·simp only [nN] at hlq
    obtain rfl:q=l.length:=by omega
    try refine RUN ?_
    refine ⟨i+1,⟨by rw [wi_inc i (by omega)];rfl,trivial⟩,sB,trivial,sB,rfl,⟨hlo1,all_take hl (okL_yes hok3) hallo⟩,hG3,by omega⟩
  ·simp only [nN] at hlo1
   obtain rfl:i=os.length:=by omega
   rw [List.take_length] at hallo
   try refine RUN ?_
   rw [hc1,if_pos hallo]
set_option maxHeartbeats 4000000 in
theorem rules0_pc {H:Hp} (d0 l0:Int) (hd:-9223372036854775808≤d0∧d0<9223372036854775808) (hl:-9223372036854775808≤l0∧l0<9223372036854775808) :
  PC prog 28 #[.int .i64 d0,.int .i64 l0,.int .i64 0] H fun r H'=>∃ b1 a1 l1 c1 a2 l2 c2,r=ruleV (d0 % 5) (1+l0 % 3) (.bool b1) (.slice a1 l1 c1) (.slice a2 l2 c2)∧RQ H' (.agg #[.bool b1,.slice a1 l1 c1,.slice a2 l2 c2]) 0:=by
 have hp1:=pick_pv d0 5 hd oM oM
 have hp2:=pick_pv l0 3 hl oM oM
 refine BD func28 ntmps28 ?_
 repeat (first | refine RUN ?_ | refine CV (hp1) ?_ | refine CV (hp2) ?_ | refine CE (hp1) ?_ | refine CE (hp2) ?_)
 rw [show IntKind.i64.wrap (1+l0 % 3)=1+l0 % 3 by rw [IntKind.wrap_i64];omega]
 try refine RUN ?_
 refine EVL.call rfl rfl rfl rfl rfl (refOf_pc 0 oM oM) ?_
 intro r1 G1 hr1 hG1
 obtain ⟨a1,l1,c1,a2,l2,c2,rfl,_⟩:=id hr1
 try refine RUN ?_
 exact ⟨_,_,_,_,_,_,_,rfl,hr1⟩
abbrev rawV (kd n w dp ls tr sm seed:Int) (vg vl:Value):Value:=.agg #[.int .i64 kd,.int .i64 n,.int .i64 w,.int .i64 dp,.int .i64 ls,.int .i64 tr,.int .i64 sm,.int .u64 seed,vg,vl]
def i64B (z:Int):Prop:=-9223372036854775808≤z∧z<9223372036854775808
set_option maxRecDepth 100000 in
set_option maxHeartbeats 16000000 in
theorem one20_pc {H:Hp} {vg vl:Value} {lg ll:List Int} (kd n w dp ls tr sm seed:Int) (hn:i64B n) (hw:i64B w) (hdp:i64B dp) (hls:i64B ls) (htr:i64B tr) (hsm:i64B sm) (hg:IL H vg lg) (hgb:∀ z,z∈lg→i64B z) (hl:IL H vl ll) (hlb:∀ z,z∈ll→i64B z) {N W:Nat} (hN:1+n % 8=(N:Int)) (hW:1+w % 3=(W:Int)) :
  PC prog 5 #[rawV kd n w dp ls tr sm seed vg vl] H fun r H'=>∃ kd' cl ga gn gc va vn vc vx b1 a1 l1 c1 a2 l2 c2,r=.tuple #[goalV kd' cl (.slice ga gn gc) (.slice va vn vc),vx,.agg #[.int .i64 (1+tr % 4),.int .i64 (1+sm % (W:Int)),.int .u64 seed,.int .i64 (dp % 3),.int .i64 (1+ls % 3),.bool b1,.slice a1 l1 c1,.slice a2 l2 c2]] ∧
   GoalR H' (goalV kd' cl (.slice ga gn gc) (.slice va vn vc)) N (rowQ lg N)∧RLL H' vx (rowsQ ll N W)∧RQ H' (.agg #[.bool b1,.slice a1 l1 c1,.slice a2 l2 c2]) 0:=by
 obtain ⟨ga0,gc0,rfl⟩:=SlC.val hg
 obtain ⟨la0,lc0,rfl⟩:=SlC.val hl
 have hp1:=pick_pv n 8 hn oM oM
 have hp2:=pick_pv w 3 hw oM oM
 have hp3:=pick_pv tr 4 htr oM oM
 have hp4:=pick_pv sm (W:Int) hsm oM oM
 have hp5:=pick_pv dp 3 hdp oM oM
 have hp4b:0≤sm % (W:Int)∧sm % (W:Int)<(W:Int):=⟨Int.emod_nonneg _ oM,Int.emod_lt_of_pos _ oM⟩
 refine BD func5 ntmps5 ?_
 repeat (first | refine RUN ?_ | refine CV (hp1) ?_ | refine CE (hp1) ?_)
 rw [show IntKind.i64.wrap (1+n % 8)=(N:Int) by rw [IntKind.wrap_i64];omega]
 repeat (first | refine RUN ?_ | refine CV (hp2) ?_ | refine CE (hp2) ?_)
 rw [show IntKind.i64.wrap (1+w % 3)=(W:Int) by rw [IntKind.wrap_i64];omega]
 try refine RUN ?_
 (first | refine EVL.unbox (1) rfl fun g1=>?_ | refine EV.unbox (1) rfl fun g1=>?_)
 refine EVI.start none (g1,25,[.int .i64 kd,.int .i64 n,.int .i64 w,.int .i64 dp,.int .i64 ls,.int .i64 tr,.int .i64 sm,.int .u64 seed,.slice ga0 lg.length gc0,.slice la0 ll.length lc0]) ?_
 refine IF 0 ?_
 refine IL0 1 ?_
 refine IF 2 ?_
 refine IL0 3 ?_
 refine IV 4 ?_
 refine IF 6 ?_
 refine IL0 7 ?_
 refine IV 8 ?_
 refine IV 9 ?_
 refine IF 11 ?_
 refine IL0 12 ?_
 refine IF 15 ?_
 refine IL0 16 ?_
 refine IV 17 ?_
 refine IF 20 ?_
 refine IL0 21 ?_
 refine IF 22 ?_
 refine IL0 23 ?_
 refine IF 25 ?_
 refine IL0 26 ?_
 refine EVI.one 5 0 (.inr rfl) kR rfl ?_
 refine EVL.call rfl rfl rfl rfl rfl (goal_pc hg hgb kd N oM) ?_
 intro r5 G5 hr5 hG5
 obtain ⟨kd',cl',ga,gn,gc,va,vn,vc,rfl⟩:∃ k c ga gn gc va vn vc,r5=goalV k c (.slice ga gn gc) (.slice va vn vc):=by
  rcases hr5 with ⟨s,rfl,h⟩ | ⟨c,s,_,rfl,_,_,_,_,h⟩
  ·obtain ⟨a,c,rfl⟩:=h.val
   exact ⟨_,_,_,_,_,_,_,_,rfl⟩
  ·obtain ⟨a,c,rfl⟩:=SlC.val h
   exact ⟨_,_,_,_,_,_,_,_,rfl⟩
 refine EVL.nil ⟨rfl,?_⟩
 refine EVI.one 10 0 (.inr rfl) kR rfl ?_
 refine EVL.call rfl rfl rfl rfl rfl (rows_pc (hl.mono hG5) hlb N W oM oM) ?_
 intro r6 G6 hr6 hG6
 obtain ⟨xa,xc,rfl⟩:=hr6.val
 refine EVL.nil ⟨rfl,?_⟩
 refine EVI.one 13 0 (.inr rfl) kR rfl ?_
 refine CV hp3 ?_
 refine EVL.nil ⟨rfl,?_⟩
 refine IV 14 ?_
 refine EVI.one 18 0 (.inr rfl) kR rfl ?_
 refine CV hp4 ?_
 refine EVL.nil ⟨rfl,?_⟩
 refine IV 19 ?_
 refine EVI.one 24 0 (.inr rfl) kR rfl ?_
 refine CV hp5 ?_
 refine EVL.nil ⟨rfl,?_⟩
 refine EVI.one 27 0 (.inr rfl) kR rfl ?_
 refine EVL.call rfl rfl rfl rfl rfl (rules0_pc (dp % 3) ls oM hls) ?_
 rintro r7 G7 ⟨b1,a1,l1,c1,a2,l2,c2,rfl,hq⟩ hG7
 rw [show dp % 3 % 5=dp % 3 by omega]
 refine EVL.nil ⟨rfl,?_⟩
 refine IV 28 ?_
 refine EVI.one 29 0 (.inr rfl) kR rfl ?_
 (try refine RUNL ?_)
 refine EVL.nil ⟨rfl,?_⟩
 refine EVI.one 30 0 (.inr rfl) kR rfl ?_
 (try refine RUNL ?_)
 refine EVL.nil ⟨rfl,?_⟩
 refine EVI.one 31 0 (.inr rfl) kR rfl ?_
 (try refine RUNL ?_)
 refine EVL.nil ⟨rfl,?_⟩
 refine EVI.nil 0 (.inr rfl) kR ?_
 try refine RUN ?_
 have w1:IntKind.i64.wrap (1+tr % 4)=1+tr % 4:=by rw [IntKind.wrap_i64];omega
 have w2:IntKind.i64.wrap (1+sm % (W:Int))=1+sm % (W:Int):=by rw [IntKind.wrap_i64];omega
 exact ⟨kd',cl',ga,gn,gc,va,vn,vc,.slice xa (rowsQ ll N W).length xc,b1,a1,l1,c1,a2,l2,c2,by rw [w1,w2],hr5.mono (hG6.trans hG7),hr6.mono hG7,hq⟩
structure PlainG (kd cl:Int) (n:Nat) (cost mean:List Int→Rat) (cnt:List Int→List Int):Prop where
 kind:(kd=1∧1≤cl∧cl≤12)∨(kd=2∧cl=0)
 clen:∀ l,((cnt l).length:Int)=cl
 cadd:∀ r l m:List Int,r.Perm (l++m)→∀ k:Nat,(cnt r).getD k 0=(cnt l).getD k 0+(cnt m).getD k 0
 cpos:∀ l c,c∈cnt l→0≤c
 csum:kd=1→∀ l,(∀ r,r∈l→0≤r∧r<(n:Int))→(cnt l).sum=(l.length:Int)
 zero:kd=1→∀ l,mean l=0
 cost0:∀ l,0≤cost l
 csm:∀ l:List Int,l.length≤300→(∀ r,r∈l→0≤r∧r<(n:Int))→ht (cost l)≤2000000
 msm:∀ l:List Int,l.length≤300→(∀ r,r∈l→0≤r∧r<(n:Int))→ht (mean l)≤4000
theorem sumQ_nonneg:∀ l:List Rat,(∀ q,q∈l→0≤q)→0≤sumQ l
 | [],_=>by rw [sumQ_nil];exact Rat.le_refl
 | x::l,h=>by
  rw [sumQ_cons]
  exact Rat.add_nonneg (h x (.head _)) (sumQ_nonneg l fun q hq=>h q (.tail _ hq))
theorem devL_nonneg (m:Rat) (l:List Rat):0≤sumQ (devL m l):=sumQ_nonneg _ fun q hq=>by
 obtain ⟨v,_,rfl⟩:=List.mem_map.1 hq
 exact sq_nonneg _
theorem costL_nonneg (L:List Int):0≤costL L:=by
 unfold costL
 have h1:=sqL_le L
 by_cases h0:L.length=0
 ·obtain rfl:=List.length_eq_zero_iff.1 h0
  decide +kernel
 ·have hp:(0:Rat)<((L.length:Int):Rat):=by
   have:((0:Int):Rat)<((L.length:Int):Rat):=Rat.intCast_lt_intCast.2 oM
   exact this
  have h2:((sqL L:Int):Rat)≤((L.length:Int):Rat)*((L.length:Int):Rat):=by
   rw [← Rat.intCast_mul]
   exact Rat.intCast_le_intCast.2 (by exact_mod_cast h1)
  generalize ((L.length:Int):Rat)=N at *
  generalize ((sqL L:Int):Rat)=S at *
  have h3:0≤N⁻¹:=Rat.le_of_lt (Rat.inv_pos.2 hp)
  have h4:0≤N*N-S:=by grind
  have h5:=Rat.mul_nonneg h4 h3
  have hne:N≠0:=by grind
  have h6:N*N⁻¹=1:=Rat.mul_inv_cancel N hne
  have h7:(N*N-S)*N⁻¹=N-S / N:=by rw [Rat.div_def];grind
  rw [h7] at h5
  exact h5
theorem sumI_nat {α:Type} (f:α→Nat):∀ l:List α,(l.map fun x=>(f x:Int)).sum=(((l.map f).sum:Nat):Int)
 | []=>rfl
 | x::l=>by
  rw [List.map_cons,List.map_cons,List.sum_cons,List.sum_cons,sumI_nat f l]
  omega
theorem cntL_sum {C:Nat} {L:List Int} (h:∀ z,z∈L→0≤z∧z<(C:Int)):(cntL C L).sum=(L.length:Int):=by
 have h1:=(sqL_sumC C L h).2
 unfold cntL
 rw [sumI_nat (fun k:Nat=>L.count (k:Int)),← h1]
theorem cntL_getD (C:Nat) (L:List Int) (k:Nat):(cntL C L).getD k 0=if k<C then (L.count (k:Int):Int) else 0:=by
 rw [List.getD_eq_getElem?_getD]
 by_cases h:k<C
 ·rw [cntL_at _ h,if_pos h];rfl
 ·rw [List.getElem?_eq_none (by rw [cntL_len];omega),if_neg h];rfl
theorem cntL_add (C:Nat) {R L M:List Int} (h:R.Perm (L++M)) (k:Nat):(cntL C R).getD k 0=(cntL C L).getD k 0+(cntL C M).getD k 0:=by
 rw [cntL_getD,cntL_getD,cntL_getD,h.count_eq,List.count_append]
 split <;> omega
theorem atI_memB {ls:List Int} {rs:List Int} (h:∀ r,r∈rs→0≤r∧r<(ls.length:Int)):∀ q,q∈atI ls rs→q∈ls:=fun q hq=>by
 obtain ⟨r,hr,rfl⟩:=List.mem_map.1 hq
 have:=h r hr
 have hl:r.toNat<ls.length:=by omega
 rw [List.getD_eq_getElem?_getD,List.getElem?_eq_getElem hl]
 exact List.getElem_mem hl
theorem goal_gp {H:Hp} {kd cl:Int} {ga va:Option Addr} {gn gc vn vc n:Nat} {qs:List Rat} (h:GoalR H (goalV kd cl (.slice ga gn gc) (.slice va vn vc)) n qs) (hql:qs.length=n) (h0:1≤n) (h1:n≤300) (hq:∀ q,q∈qs→ht q≤5) :
  ∃ cost mean cnt,RGoal H (goalV kd cl (.slice ga gn gc) (.slice va vn vc)) kd n cost mean cnt∧PlainG kd cl n cost mean cnt:=by
 rcases h with ⟨s,e,hs⟩ | ⟨cl',s,ls,e,hc1,hc2,hll,hlb,hs⟩
 ·subst hql
  cases e
  obtain ⟨sa,sc,e2⟩:=hs.val
  cases e2
  have hsm:∀ l:List Int,l.length≤300→(∀ r,r∈l→0≤r∧r<(qs.length:Int))→ht (meanL (atR qs l))≤1+(5+1)*300+20∧ht (costVf qs l)≤2000000:=fun l hn hr=>by
   have hlb:=fun q hq'=>hq q (atR_mem hr q hq')
   have hll:(atR qs l).length≤300:=by rw [atR_len];omega
   have h2:=meanL_ht hll hlb
   have h3:=devS_ht hll hlb h2
   unfold costVf
   exact ⟨h2,by omega⟩
  have q50:∀ q,q∈qs→ht q≤50:=fun q hq'=>Nat.le_trans (hq q hq') oM
  refine ⟨costVf qs,fun l=>meanL (atR qs l),fun _=>[],⟨?_,?_,?_,?_,?_,?_,?_,?_,?_,?_⟩,⟨.inr ⟨rfl,rfl⟩,fun _=>rfl,fun _ _ _ _ k=>rfl,fun l c hc=>(by cases hc),fun e=>absurd e (by decide:¬ (2:Int)=1),fun e=>absurd e (by decide:¬ (2:Int)=1),fun l=>devL_nonneg _ _,fun l hn hr=>(hsm l hn hr).2,fun l hn hr=>by have:=(hsm l hn hr).1;omega⟩⟩
  ·exact fun e=>absurd e (by decide:¬ (2:Int)=1)
  ·exact fun _ l=>rfl
  ·exact fun e=>absurd e (by decide:¬ (2:Int)=1)
  ·exact fun l=>Nat.zero_le _
  ·exact fun G hG u l hl hn=>refMeanG_pc hl hn (hs.mono hG) q50
  ·exact fun l hn hr=>by have:=(hsm l hn hr).1;omega
  ·exact fun G hG u l hl hn=>refCostV_pc hl hn (hs.mono hG) hq
  ·exact fun l hn hr=>(hsm l hn hr).2
  ·exact fun G hG=>rcheckV_pc h0 h1
  ·exact rlenV_pv
 ·subst hll
  cases e
  obtain ⟨sa,sc,e2⟩:=SlC.val hs
  cases e2
  obtain ⟨C,rfl⟩:=Int.eq_ofNat_of_zero_le (show 0≤cl by omega)
  have hsm:∀ l:List Int,l.length≤300→ht (costLf ls l)≤2000000:=by
   intro l hn
   have hsq:=sqL_le (atI ls l)
   have hll:(atI ls l).length=l.length:=atI_len ls l
   rw [hll] at hsq
   have hsq2:l.length*l.length≤300*300:=Nat.mul_le_mul hn hn
   have hn2:=ht_int (l.length:Int)
   have hn3:bl (l.length:Int).natAbs≤20:=bl_le oM
   have hs2:=ht_int (sqL (atI ls l):Int)
   have hs3:bl (sqL (atI ls l):Int).natAbs≤20:=bl_le oM
   have hdv:=ht_div ((sqL (atI ls l):Int):Rat) ((l.length:Int):Rat)
   have hsb:=ht_sub ((l.length:Int):Rat) (((sqL (atI ls l):Int):Rat) / ((l.length:Int):Rat))
   unfold costLf costL
   rw [hll]
   omega
  have hz0:ht (0:Rat)≤2000000:=by rw [ht_zero];decide
  have hz1:ht (0:Rat)≤4000:=by rw [ht_zero];decide
  refine ⟨costLf ls,fun _=>0,fun l=>cntL C (atI ls l),⟨?_,?_,?_,?_,?_,?_,?_,?_,?_,?_⟩,⟨.inl ⟨rfl,hc1,by omega⟩,fun l=>by rw [cntL_len],fun r l m hp k=>cntL_add C (by have:=hp.map (fun r:Int=>ls.getD r.toNat 0);rwa [List.map_append] at this) k,fun l c hc=>?_,fun _ l hr=>?_,fun _ l=>rfl,fun l=>costL_nonneg _,fun l hn hr=>hsm l hn,fun l hn hr=>hz1⟩⟩
  ·exact fun _ G hG u l hl hn=>refCounts_pc hl hn (hs.mono hG) oM hlb
  ·exact fun e=>absurd rfl e
  ·exact fun _ l=>rfl
  ·exact fun l=>by rw [cntL_len];omega
  ·intro G hG u l hl hn
   have:=refMeanG_pc (kd:=1) (cl:=(C:Int)) (sl:=.slice ga ls.length gc) hl hn (RL.nil G none 0) (by intro q hq;cases hq)
   rw [show atR [] (exL l ([]:List Rat).length)=[] by rw [show exL l ([]:List Rat).length=[] from List.filter_eq_nil_iff.2 fun r _=>by unfold inR;simp];rfl,meanL_nil] at this
   exact this
  ·exact fun l hn hr=>hz0
  ·exact fun G hG u l hl hn=>refCostC_pc hl hn (hs.mono hG) oM oM hlb
  ·exact fun l hn hr=>hsm l hn
  ·exact fun G hG=>rcheckC_pc (hs.mono hG) ⟨hc1,by omega⟩ h0 h1 hlb
  ·exact rlenC_pv (sv:=.bool true)
  ·obtain ⟨k,_,rfl⟩:=List.mem_map.1 hc
   omega
  ·rw [cntL_sum (fun z hz=>hlb z (atI_memB hr z hz)),atI_len]
theorem orderL_mem {w:Nat} (h0:1≤w) (hw:w≤1000) (s:Int) {k:Nat}:∀ c,c∈((orderL w s).1.take k)→0≤c∧c<(w:Int):=fun c hc=>by
 have hp:=orderGo_perm (w-1) (upTo w) s (by rw [upTo_length];omega) (by rw [upTo_length];omega)
 have hm:=hp.mem_iff.1 (List.mem_of_mem_take hc)
 unfold upTo at hm
 obtain ⟨i,hi,rfl⟩:=List.mem_map.1 hm
 have:=List.mem_range.1 hi
 show (0:Int)≤(i:Int)∧(i:Int)<w
 omega
def woodP (X:List (List Rat)) (cost mean:List Int→Rat) (cnt:List Int→List Int) (least:Int) (w sm:Nat):GP:=⟨X,cost,mean,cnt,least,0,fun s=>((orderL w s).1.take sm,(orderL w s).2)⟩
theorem PlainG.gp {kd cl:Int} {cost mean:List Int→Rat} {cnt:List Int→List Int} {X:List (List Rat)} {w sm:Nat} {least:Int} (h:PlainG kd cl X.length cost mean cnt) (hX:X.length≤300) (hw0:1≤w) (hw:w≤1000) (hx:∀ x,x∈X→x.length=w∧∀ q,q∈x→ht q≤5):GPok (woodP X cost mean cnt least w sm) kd cl w :=
 ⟨h.kind,hX,fun x hm=>(hx x hm).1,fun x hm=>(hx x hm).2,h.clen,h.cadd,h.cpos,h.csum,h.zero,h.cost0,h.csm,h.msm,Rat.le_refl,fun s=>orderL_mem hw0 hw s⟩
theorem wood_ok {p:GP} {kd cl:Int} {w D:Nat} (hp:GPok p kd cl w) (hw:1≤w∧w≤20) (hD:D≤9) (h0:1≤p.X.length):∀ (k:Nat) (s:Int),(∀ t,t∈(p.wood D p.X.length kd cl w k s).1→TreeOk t∧fitT kd cl w t=true)
 | 0,s=>fun t ht=>by cases ht
 | k+1,s=>fun t ht=>by
  rw [GP.wood_succ] at ht
  rcases List.mem_append.1 ht with ht | ht
  ·exact wood_ok hp hw hD h0 k s t ht
  ·rw [List.mem_singleton.1 ht]
   refine ⟨?_,?_⟩
   ·have hx:=hp.rowsX
    have hl:(bagS p.X.length (p.wood D p.X.length kd cl w k s).2.2).1.length=p.X.length:=by unfold bagS;rw [sortI_length,drawL_length]
    refine grow_tree hp hw hD (by rw [hl];exact h0) (by rw [hl];exact hx) (fun r hr=>?_) _
    unfold bagS at hr
    exact drawL_range _ _ _ oM oM r ((sortI_perm _).mem_iff.1 hr)
   ·unfold fitT;simp
def PNode (H:Hp) (cs:List Value) (n:Nd):Prop:=∃ a c,IL H (.slice a n.counts.length c) n.counts ∧
 cs=[.int .i64 n.col,.int .i64 n.left,.int .i64 n.right,.int .i64 n.rows,.int .i64 n.cls]++(vlist (fracV n.at')++(vlist (fracV n.cost)++(vlist (fracV n.value)++[.slice a n.counts.length c])))
theorem PNode.mono {H G:Hp} {cs:List Value} {n:Nd} (h:PNode H cs n) (k:H.Le G):PNode G cs n:=by
 obtain ⟨a,c,h1,e⟩:=h
 exact ⟨a,c,h1.mono k,e⟩
theorem PNode.len {H:Hp} {cs:List Value} {n:Nd} (h:PNode H cs n):cs.length=21:=by
 obtain ⟨a,c,_,rfl⟩:=h
 rfl
theorem PNode.one {H:Hp} {cs:List Value} {n:Nd} (h:PNode H cs n):oneB cs=true:=by
 obtain ⟨a,c,_,rfl⟩:=h
 rfl
theorem flat1 (cs:List Value):[Value.agg cs.toArray].flatMap vlist=cs:=by
 show vlist (.agg cs.toArray)++[]=cs
 rw [List.append_nil];rfl
theorem flatS (c:List Value):[c].flatten=c:=List.flatten_singleton
def PNodes (H:Hp) (css:List (List Value)) (ns:List Nd):Prop:=css.length=ns.length∧∀ (j:Nat) (c:List Value) (n:Nd),css[j]?=some c→ns[j]?=some n→PNode H c n
theorem PNodes.mono {H G:Hp} {css:List (List Value)} {ns:List Nd} (h:PNodes H css ns) (k:H.Le G):PNodes G css ns:=⟨h.1,fun j c n e1 e2=>(h.2 j c n e1 e2).mono k⟩
theorem PNodes.get {H:Hp} {css:List (List Value)} {ns:List Nd} (h:PNodes H css ns) {j:Nat} {n:Nd} (hj:ns[j]?=some n):∃ c,(css.flatten.drop (j*21)).take 21=c∧PNode H c n:=by
 have hlt:=(List.getElem?_eq_some_iff.1 hj).1
 obtain ⟨c,hc⟩:∃ c,css[j]?=some c:=⟨_,List.getElem?_eq_getElem (by rw [h.1];exact hlt)⟩
 refine ⟨c,?_,h.2 j c n hc hj⟩
 have h21:∀ x,x∈css→(id x).length=21:=fun x hx=>by
  obtain ⟨i,hi⟩:=List.mem_iff_getElem?.1 hx
  have hi':=(List.getElem?_eq_some_iff.1 hi).1
  exact (h.2 i x _ hi (List.getElem?_eq_getElem (by rw [← h.1];exact hi'))).len
 have:=flat_cut id 21 css h21 j c hc
 rwa [List.flatMap_id] at this
def PTree (H:Hp) (cs:List Value) (kd cl w:Int) (ns:List Nd):Prop:=∃ a c css,cs=[.int .i64 kd,.int .i64 cl,.int .i64 w,.slice a ns.length c]∧PNodes H css ns∧SlC H (.slice a ns.length c) ns.length 21 css.flatten
theorem PTree.mono {H G:Hp} {cs:List Value} {kd cl w:Int} {ns:List Nd} (h:PTree H cs kd cl w ns) (k:H.Le G):PTree G cs kd cl w ns:=by
 obtain ⟨a,c,css,e,h1,h2⟩:=h
 exact ⟨a,c,css,e,h1.mono k,h2.mono k⟩
def SmallN (n:Nd):Prop:=rq n.at'∧rq n.cost∧rq n.value∧n.counts.length≤1000000
theorem OkN.smallN {kd cl:Int} {n:Nd} (h:OkN kd cl n) (hc:cl≤12):SmallN n:=by
 obtain ⟨h1,h2,h3⟩:=h.small
 have:=h.len
 unfold SmallN rq
 exact ⟨by omega,by omega,by omega,by omega⟩
set_option maxRecDepth 100000 in
set_option maxHeartbeats 32000000 in
theorem inTree_pc {H:Hp} {cs:List Value} {kd cl w:Int} {ns:List Nd} (h:RTree H cs kd cl w ns) (hs:∀ n,n∈ns→SmallN n) (hl:ns.length≤1000000) :
  PC prog 79 #[.agg cs.toArray] H fun r H'=>∃ cs',r=.agg cs'.toArray∧PTree H' cs' kd cl w ns:=by
 obtain ⟨a,c,css,rfl,hns,hsl⟩:=h
 refine BD func79 ntmps79 ?_
 try refine RUN ?_
 refine EV.loopK (ι:=Nat × Value × List (List Value) × Ows) [1,2,3] [1,2] (fun q=>[(4,.v (.int .i64 (q.1:Int)))]) (fun q=>[(3,110,[.int .i64 kd,.int .i64 cl,.int .i64 w,q.2.1])]) (fun q=>q.2.2.2) (fun q G=>q.1≤ns.length∧PNodes G q.2.2.1 (ns.take q.1)∧OwnL 107 21 q.2.1 q.1 q.2.2.1.flatten q.2.2.2) (fun q=>ns.length-q.1) ((0,.slice none 0 0,[],[])) rfl rfl ⟨rfl,trivial⟩ ⟨rfl,trivial⟩ rfl (fun _=>rfl) (⟨Nat.zero_le _,⟨rfl,fun j c n e1 e2=>by cases e1⟩,OwnL.nil _ _⟩) ?_
 rintro ⟨i,u,ps,ow⟩ G1 hG1 ⟨hi,hps,hown⟩
 dsimp only at hi hps hown
 obtain ⟨wa,wc,rfl⟩:=hown.val
 try refine RUN ?_
 refine EV.cond rfl (fun hlt=>?_) (fun hlt=>?_)
 ·simp only [nN] at hlt
  obtain ⟨n,hni⟩:∃ n,ns[i]?=some n:=⟨_,List.getElem?_eq_getElem hlt⟩
  obtain ⟨q1,q2,q3,q4⟩:=hs n (List.mem_of_getElem? hni)
  obtain ⟨cc,hcut,hnd⟩:=(hns.mono hG1).get hni
  obtain ⟨b1,a1,l1,c1,a2,l2,c2,b3,a3,l3,c3,a4,l4,c4,b5,a5,l5,c5,a6,l6,c6,a7,c7,rfl,k1,k2,k3,k4⟩:=hnd.cells
  try refine RUN ?_
  refine EVL.idxM tO rfl rfl rfl rfl rfl rfl rfl rfl rfl ((hsl.mono hG1)) (i) (rfl) (hlt) (hcut) ?_
  try refine RUN ?_
  by_cases e:n.counts.length=0
  ·have hc0:n.counts=[]:=List.length_eq_zero_iff.1 e
   rw [e]
   apply EV.drawn 27 kR kR;intro xv yw
   (repeat (first | refine' DV ?_ | refine' DA ?_ | refine' DK0 ?_ | refine' DT ?_ | refine' DS ?_))
   refine' DJ.callS rfl rfl rfl rfl rfl (cO func41) (fun G hG hd=>in_pc (RQ.mono k1 hG) q1) ?_;rotate_left
   (repeat (first | refine' DV ?_ | refine' DA ?_ | refine' DK0 ?_ | refine' DT ?_ | refine' DS ?_))
   refine' DJ.callS rfl rfl rfl rfl rfl (cO func41) (fun G hG hd=>in_pc (RQ.mono k2 hG) q2) ?_;rotate_left
   (repeat (first | refine' DV ?_ | refine' DA ?_ | refine' DK0 ?_ | refine' DT ?_ | refine' DS ?_))
   refine' DJ.callS rfl rfl rfl rfl rfl (cO func41) (fun G hG hd=>in_pc (RQ.mono k3 hG) q3) ?_;rotate_left
   (repeat (first | refine' DV ?_ | refine' DA ?_ | refine' DK0 ?_ | refine' DT ?_ | refine' DS ?_))
   (refine' DJ.lit0 tO rfl rfl rfl rfl rfl rfl rfl ?_;rotate_left)
   (repeat (first | refine' DV ?_ | refine' DA ?_ | refine' DK0 ?_ | refine' DT ?_ | refine' DS ?_))
   refine' DJ.append0E (u0:=xv 21) tO rfl rfl rfl rfl rfl rfl rfl rfl rfl (a7) (c7) rfl (fun G hd=>hd.head kR) ?_;rotate_left
   (refine' DJ.plainE tO (fun v G=>∃ cs,v=.agg cs.toArray∧PNode G cs n) (fun v G G' ⟨cs,e,h⟩ k=>⟨cs,e,h.mono k⟩) rfl rfl rfl (fun G hd=>(by
    obtain ⟨g8,e8⟩:∃ g,xv 24=.slice (some ⟨g,0,none⟩) 0 0:=hd.head kR
    rw [e8]
    exact ⟨_,rfl,_,rfl,some ⟨g8,0,none⟩,0,(by rw [hc0];exact IL.nil _ _ _),by rw [hc0];rfl⟩)) ?_;rotate_left)
   (refine' DJ.litD1 (Φ:=fun v G=>∃ cs,SlC G v 1 21 cs∧PNode G cs n) (fun v G G' ⟨cs,e,h⟩ k=>⟨cs,e.mono k,h.mono k⟩) tO rfl rfl rfl rfl rfl rfl rfl rfl rfl rfl rfl (fun G hd=>by obtain ⟨cs,e,h⟩:=hd.head kR;rw [e];exact h.len) (fun G G' v hd hG h=>(by
    obtain ⟨cs,e,hp⟩:=hd.head kR
    rw [e,flat1] at h
    exact ⟨cs,h,hp.mono hG⟩)) ?_;rotate_left)
   (refine DJ.nil (fun G2 hG2 hF2=>?_);(case hS|hS2=>rfl))
   obtain ⟨cs2,hs2,hp2⟩:=hF2.1
   refine EVL.append tO rfl rfl rfl rfl rfl rfl rfl rfl rfl rfl rfl rfl [] ow [] (List.append_nil _).symm hown (SrcAt.ro hs2 (Nat.succ_pos 0)) hp2.one oM ?_
   intro v1 ow1 hown1
   obtain ⟨va,vc,rfl⟩:=hown1.val
   try refine RUN ?_
   refine ⟨(i+1,.slice va (i+1) vc,ps++[cs2],ow1),⟨by dsimp only;rw [wi_inc i (by omega)];rfl,trivial⟩,sB,⟨rfl,trivial⟩,sB,List.append_nil _,⟨hlt,by dsimp only;rw [take_snoc hni];exact rel_snoc (hps.mono hG2) hp2,by dsimp only;rw [List.flatten_append,flatS];exact hown1⟩,hG2,by dsimp only;omega⟩
  ·have hls:SlC G1 (.slice a7 n.counts.length c7) n.counts.length 1 (n.counts.map iv):=k4
   apply EV.drawn 27 kR kR;intro xv yw
   (repeat (first | refine' DV ?_ | refine' DA ?_ | refine' DK0 ?_ | refine' DT ?_ | refine' DS ?_))
   refine' DJ.callS rfl rfl rfl rfl rfl (cO func41) (fun G hG hd=>in_pc (RQ.mono k1 hG) q1) ?_;rotate_left
   (repeat (first | refine' DV ?_ | refine' DA ?_ | refine' DK0 ?_ | refine' DT ?_ | refine' DS ?_))
   refine' DJ.callS rfl rfl rfl rfl rfl (cO func41) (fun G hG hd=>in_pc (RQ.mono k2 hG) q2) ?_;rotate_left
   (repeat (first | refine' DV ?_ | refine' DA ?_ | refine' DK0 ?_ | refine' DT ?_ | refine' DS ?_))
   refine' DJ.callS rfl rfl rfl rfl rfl (cO func41) (fun G hG hd=>in_pc (RQ.mono k3 hG) q3) ?_;rotate_left
   (repeat (first | refine' DV ?_ | refine' DA ?_ | refine' DK0 ?_ | refine' DT ?_ | refine' DS ?_))
   (refine' DJ.lit0 tO rfl rfl rfl rfl rfl rfl rfl ?_;rotate_left)
   (repeat (first | refine' DV ?_ | refine' DA ?_ | refine' DK0 ?_ | refine' DT ?_ | refine' DS ?_))
   refine' DJ.appendE (u0:=xv 21) tO rfl rfl rfl rfl rfl rfl rfl rfl rfl rfl (fun G hd=>hd.head kR) (hls) (Nat.pos_of_ne_zero e) oM ?_;rotate_left
   (refine' DJ.plainE tO (fun v G=>∃ cs,v=.agg cs.toArray∧PNode G cs n) (fun v G G' ⟨cs,e,h⟩ k=>⟨cs,e,h.mono k⟩) rfl rfl rfl (fun G hd=>(by
    have hA:SlC G (xv 24) n.counts.length 1 (n.counts.map iv):=hd.head kR
    obtain ⟨a8,c8,e8⟩:=SlC.val hA
    rw [e8] at hA
    rw [e8]
    exact ⟨_,rfl,_,rfl,_,_,hA,rfl⟩)) ?_;rotate_left)
   (refine' DJ.litD1 (Φ:=fun v G=>∃ cs,SlC G v 1 21 cs∧PNode G cs n) (fun v G G' ⟨cs,e,h⟩ k=>⟨cs,e.mono k,h.mono k⟩) tO rfl rfl rfl rfl rfl rfl rfl rfl rfl rfl rfl (fun G hd=>by obtain ⟨cs,e,h⟩:=hd.head kR;rw [e];exact h.len) (fun G G' v hd hG h=>(by
    obtain ⟨cs,e,hp⟩:=hd.head kR
    rw [e,flat1] at h
    exact ⟨cs,h,hp.mono hG⟩)) ?_;rotate_left)
   (refine DJ.nil (fun G2 hG2 hF2=>?_);(case hS|hS2=>rfl))
   obtain ⟨cs2,hs2,hp2⟩:=hF2.1
   refine EVL.append tO rfl rfl rfl rfl rfl rfl rfl rfl rfl rfl rfl rfl [] ow [] (List.append_nil _).symm hown (SrcAt.ro hs2 (Nat.succ_pos 0)) hp2.one oM ?_
   intro v1 ow1 hown1
   obtain ⟨va,vc,rfl⟩:=hown1.val
   try refine RUN ?_
   refine ⟨(i+1,.slice va (i+1) vc,ps++[cs2],ow1),⟨by dsimp only;rw [wi_inc i (by omega)];rfl,trivial⟩,sB,⟨rfl,trivial⟩,sB,List.append_nil _,⟨hlt,by dsimp only;rw [take_snoc hni];exact rel_snoc (hps.mono hG2) hp2,by dsimp only;rw [List.flatten_append,flatS];exact hown1⟩,hG2,by dsimp only;omega⟩
 ·simp only [nN] at hlt
  obtain rfl:i=ns.length:=by omega
  rw [List.take_length] at hps
  (first | refine EVL.publishL [] ow [] ((List.append_nil _).symm) hown fun G2 hG2 hs2=>?_ | refine EV.publishL [] ow [] ((List.append_nil _).symm) hown fun G2 hG2 hs2=>?_)
  try refine RUN ?_
  exact ⟨_,rfl,_,_,_,rfl,hps.mono hG2,hs2⟩
def PTs (H:Hp) (tcs:List (List Value)) (ts:List Tr):Prop:=tcs.length=ts.length∧∀ (j:Nat) (c:List Value) (t:Tr),tcs[j]?=some c→ts[j]?=some t→PTree H c t.kd t.cl t.w t.ns
theorem PTs.mono {H G:Hp} {tcs:List (List Value)} {ts:List Tr} (h:PTs H tcs ts) (k:H.Le G):PTs G tcs ts:=⟨h.1,fun j c t e1 e2=>(h.2 j c t e1 e2).mono k⟩
theorem PTs.get {H:Hp} {tcs:List (List Value)} {ts:List Tr} (h:PTs H tcs ts) {j:Nat} {t:Tr} (hj:ts[j]?=some t):∃ c,(tcs.flatten.drop (j*4)).take 4=c∧PTree H c t.kd t.cl t.w t.ns:=by
 have hlt:=(List.getElem?_eq_some_iff.1 hj).1
 obtain ⟨c,hc⟩:∃ c,tcs[j]?=some c:=⟨_,List.getElem?_eq_getElem (by rw [h.1];exact hlt)⟩
 refine ⟨c,?_,h.2 j c t hc hj⟩
 have h4:∀ x,x∈tcs→(id x).length=4:=fun x hx=>by
  obtain ⟨i,hi⟩:=List.mem_iff_getElem?.1 hx
  have hi':=(List.getElem?_eq_some_iff.1 hi).1
  obtain ⟨_,_,_,e,_⟩:=h.2 i x _ hi (List.getElem?_eq_getElem (by rw [← h.1];exact hi'))
  subst e;rfl
 have:=flat_cut id 4 tcs h4 j c hc
 rwa [List.flatMap_id] at this
def PTL (H:Hp) (v:Value) (ts:List Tr):Prop:=∃ tcs,PTs H tcs ts∧SlC H v ts.length 4 tcs.flatten
theorem PTL.mono {H G:Hp} {v:Value} {ts:List Tr} (h:PTL H v ts) (k:H.Le G):PTL G v ts:=by
 obtain ⟨tcs,h1,h2⟩:=h
 exact ⟨tcs,h1.mono k,h2.mono k⟩
set_option maxRecDepth 100000 in
set_option maxHeartbeats 16000000 in
theorem inTrees_pc {H:Hp} {v:Value} {ts:List Tr} (h:RTL H v ts) (hs:∀ t,t∈ts→t.ns.length≤1000000∧∀ n,n∈t.ns→SmallN n) (hl:ts.length≤1000000):PC prog 38 #[v] H fun r H'=>PTL H' r ts:=by
 obtain ⟨tcs,hts,hsl⟩:=h
 obtain ⟨a,c,rfl⟩:=SlC.val hsl
 refine BD func38 ntmps38 ?_
 try refine RUN ?_
 refine EV.loopK (ι:=Nat × Value × List (List Value) × Ows) [0] [] (fun q=>[(3,.v q.2.1),(4,.v (.int .i64 (q.1:Int)))]) (fun _=>[]) (fun q=>q.2.2.2) (fun q G=>q.1≤ts.length∧PTs G q.2.2.1 (ts.take q.1)∧OwnL 110 4 q.2.1 q.1 q.2.2.1.flatten q.2.2.2) (fun q=>ts.length-q.1) ((0,.slice none 0 0,[],[])) rfl rfl ⟨rfl,rfl,trivial⟩ trivial rfl (fun _=>rfl) (⟨Nat.zero_le _,⟨rfl,fun j c n e1 e2=>by cases e1⟩,OwnL.nil _ _⟩) ?_
 rintro ⟨i,u,ps,ow⟩ G1 hG1 ⟨hi,hps,hown⟩
 dsimp only at hi hps hown
 obtain ⟨wa,wc,rfl⟩:=hown.val
 try refine RUN ?_
 refine EV.cond rfl (fun hlt=>?_) (fun hlt=>?_)
 ·simp only [nN] at hlt
  obtain ⟨t,hti⟩:∃ t,ts[i]?=some t:=⟨_,List.getElem?_eq_getElem hlt⟩
  obtain ⟨k1,k2⟩:=hs t (List.mem_of_getElem? hti)
  obtain ⟨cc,hcut,htr⟩:=(hts.mono hG1).get hti
  obtain ⟨a3,c3,css,rfl,_,_⟩:=id htr
  try refine RUN ?_
  refine EVL.idxM tO rfl rfl rfl rfl rfl rfl rfl rfl rfl ((hsl.mono hG1)) (i) (rfl) (hlt) (hcut) ?_
  try refine RUN ?_
  refine EVL.call rfl rfl rfl rfl rfl (inTree_pc htr k2 k1) ?_
  rintro _ G2 ⟨cs2,rfl,hp2⟩ hG2
  obtain ⟨a4,c4,css4,rfl,_,_⟩:=id hp2
  try refine RUN ?_
  refine EVL.app1 tO rfl rfl rfl rfl rfl rfl rfl rfl rfl rfl rfl rfl rfl rfl rfl rfl rfl rfl rfl (fun _=>rfl) (ow) ([]) ((List.append_nil _).symm) (hown) oM fun _=>?_
  intro v' ow' hown'
  try refine RUN ?_
  refine ⟨(i+1,v',ps++[_],ow'),⟨rfl,by dsimp only;rw [wi_inc i (by omega)];rfl,trivial⟩,sB,trivial,trivial,List.append_nil _,⟨hlt,by dsimp only;rw [take_snoc hti];exact rel_snoc (hps.mono hG2) hp2,by dsimp only;rw [List.flatten_append,flatS];exact hown'⟩,hG2,by dsimp only;omega⟩
 ·simp only [nN] at hlt
  obtain rfl:i=ts.length:=by omega
  rw [List.take_length] at hps
  (first | refine EVL.publishL [] ow [] ((List.append_nil _).symm) hown fun G2 hG2 hs2=>?_ | refine EV.publishL [] ow [] ((List.append_nil _).symm) hown fun G2 hG2 hs2=>?_)
  try refine RUN ?_
  exact ⟨ps,hps.mono hG2,hs2⟩
set_option maxRecDepth 100000 in
set_option maxHeartbeats 16000000 in
theorem lists_pc {H:Hp} {v:Value} {os:List (List Int)} (h:ILL H v os) (hs:∀ l,l∈os→l.length≤1000000) (hl:os.length≤1000000):PC prog 39 #[v] H fun r H'=>ILL H' r os:=by
 obtain ⟨vos,hos,hsl⟩:=h
 obtain ⟨a,c,rfl⟩:=SlC.val hsl
 refine BD func39 ntmps39 ?_
 try refine RUN ?_
 refine EV.loopK (ι:=Nat × Value × List Value × Ows) [0] [] (fun q=>[(3,.v q.2.1),(4,.v (.int .i64 (q.1:Int)))]) (fun _=>[]) (fun q=>q.2.2.2) (fun q G=>q.1≤os.length∧ILs G q.2.2.1 (os.take q.1)∧OwnL 23 1 q.2.1 q.1 q.2.2.1 q.2.2.2) (fun q=>os.length-q.1) ((0,.slice none 0 0,[],[])) rfl rfl ⟨rfl,rfl,trivial⟩ trivial rfl (fun _=>rfl) (⟨Nat.zero_le _,⟨rfl,fun j c n e1 e2=>by cases e1⟩,OwnL.nil _ _⟩) ?_
 rintro ⟨i,u,ps,ow⟩ G1 hG1 ⟨hi,hps,hown⟩
 dsimp only at hi hps hown
 obtain ⟨wa,wc,rfl⟩:=hown.val
 try refine RUN ?_
 refine EV.cond rfl (fun hlt=>?_) (fun hlt=>?_)
 ·simp only [nN] at hlt
  obtain ⟨l,hli⟩:∃ l,os[i]?=some l:=⟨_,List.getElem?_eq_getElem hlt⟩
  have k1:=hs l (List.mem_of_getElem? hli)
  obtain ⟨a1,c1,hoi,hil⟩:=(hos.mono hG1).get hli
  by_cases e:l.length=0
  ·obtain rfl:=List.length_eq_zero_iff.1 e
   try refine RUN ?_
   refine EVL.lit0 tO rfl rfl rfl rfl rfl rfl rfl fun g0=>?_
   try refine RUN ?_
   refine EVL.idxR tO rfl rfl rfl rfl rfl rfl rfl rfl rfl rfl ((hsl.mono hG1)) (i) (rfl) (hlt) (hoi) ?_
   try refine RUN ?_
   refine EVL.append0 tO rfl rfl rfl rfl rfl rfl rfl rfl rfl (Nat.le_refl _) ?_
   refine EVL.subOw [] [(g0,_,_)] ow rfl ?_
   try refine RUN ?_
   refine EVL.app1 tO rfl rfl rfl rfl rfl rfl rfl rfl rfl rfl rfl rfl rfl rfl rfl rfl rfl rfl rfl (fun _=>rfl) (ow) ([]) ((List.append_nil _).symm) (hown) oM fun _=>?_
   intro v' ow' hown'
   try refine RUN ?_
   refine ⟨(i+1,v',ps++[_],ow'),⟨rfl,by dsimp only;rw [wi_inc i (by omega)];rfl,trivial⟩,sB,trivial,trivial,List.append_nil _,⟨hlt,by dsimp only;rw [take_snoc hli];exact rel_snoc hps (IL.nil _ _ _),hown'⟩,Hp.Le.refl _,by dsimp only;omega⟩
  ·(try refine RUN ?_)
   refine EVL.lit0 tO rfl rfl rfl rfl rfl rfl rfl fun g0=>?_
   try refine RUN ?_
   refine EVL.idxR tO rfl rfl rfl rfl rfl rfl rfl rfl rfl rfl ((hsl.mono hG1)) (i) (rfl) (hlt) (hoi) ?_
   try refine RUN ?_
   refine EVL.append tO rfl rfl rfl rfl rfl rfl rfl rfl rfl rfl rfl rfl [] [(g0,3,[])] ow rfl (OwnL.full (m:=0) rfl oM) (SrcAt.ro hil (Nat.pos_of_ne_zero e)) (oneB_iv l) oM ?_
   intro v2 ow2 hown2
   rw [Nat.zero_add,List.nil_append] at hown2
   obtain ⟨a2,c2,rfl⟩:=hown2.val
   (first | refine EVL.publishL [] ow2 ow (rfl) hown2 fun G2 hG2 hs2=>?_ | refine EV.publishL [] ow2 ow (rfl) hown2 fun G2 hG2 hs2=>?_)
   try refine RUN ?_
   refine EVL.app1 tO rfl rfl rfl rfl rfl rfl rfl rfl rfl rfl rfl rfl rfl rfl rfl rfl rfl rfl rfl (fun _=>rfl) (ow) ([]) ((List.append_nil _).symm) (hown) oM fun _=>?_
   intro v' ow' hown'
   try refine RUN ?_
   refine ⟨(i+1,v',ps++[_],ow'),⟨rfl,by dsimp only;rw [wi_inc i (by omega)];rfl,trivial⟩,sB,trivial,trivial,List.append_nil _,⟨hlt,by dsimp only;rw [take_snoc hli];exact rel_snoc (hps.mono hG2) hs2,hown'⟩,hG2,by dsimp only;omega⟩
 ·simp only [nN] at hlt
  obtain rfl:i=os.length:=by omega
  rw [List.take_length] at hps
  (first | refine EVL.publishL [] ow [] ((List.append_nil _).symm) hown fun G2 hG2 hs2=>?_ | refine EV.publishL [] ow [] ((List.append_nil _).symm) hown fun G2 hG2 hs2=>?_)
  try refine RUN ?_
  exact ⟨ps,hps.mono hG2,hs2⟩
def SmallF (ts:List Tr) (os:List (List Int)):Prop:=(ts.length≤1000000∧∀ t,t∈ts→t.ns.length≤1000000∧∀ n,n∈t.ns→SmallN n)∧os.length≤1000000∧∀ l,l∈os→l.length≤1000000
theorem inForest_pc {H:Hp} {kd cl w:Int} {vt vo:Value} {ts:List Tr} {os:List (List Int)} (ht:RTL H vt ts) (ho:ILL H vo os) (hs:SmallF ts os):PC prog 9 #[forestV kd cl w vt vo] H fun r H'=>∃ a1 c1 a2 c2,r=forestV kd cl w (.slice a1 ts.length c1) (.slice a2 os.length c2)∧PTL H' (.slice a1 ts.length c1) ts∧ILL H' (.slice a2 os.length c2) os:=by
 obtain ⟨a,c,rfl⟩:∃ a c,vt=.slice a ts.length c:=by
  obtain ⟨_,_,h⟩:=ht
  exact SlC.val h
 obtain ⟨a',c',rfl⟩:∃ a c,vo=.slice a os.length c:=by
  obtain ⟨_,_,h⟩:=ho
  exact SlC.val h
 refine BD func9 ntmps9 ?_
 try refine RUN ?_
 apply EV.drawn 12 kR kR;intro xv yw
 (repeat (first | refine' DV ?_ | refine' DA ?_ | refine' DK0 ?_ | refine' DT ?_ | refine' DS ?_))
 refine' DJ.call rfl rfl rfl rfl rfl (cO func38) (fun G hG hd=>inTrees_pc (ht.mono hG) hs.1.2 hs.1.1) (fun _ _ _ h k=>PTL.mono h k) ?_;rotate_left
 (repeat (first | refine' DV ?_ | refine' DA ?_ | refine' DK0 ?_ | refine' DT ?_ | refine' DS ?_))
 refine' DJ.call rfl rfl rfl rfl rfl (cO func39) (fun G hG hd=>lists_pc (ho.mono hG) hs.2.2 hs.2.1) (fun _ _ _ h k=>ILL.mono h k) ?_;rotate_left
 (refine DJ.nil (fun G1 hG1 hF1=>?_);(case hS|hS2=>rfl))
 obtain ⟨hO,hT,_⟩:=hF1
 obtain ⟨a1,c1,e1⟩:∃ a c,xv 8=.slice a ts.length c:=by
  obtain ⟨_,_,h⟩:=hT
  exact SlC.val h
 obtain ⟨a2,c2,e2⟩:∃ a c,xv 11=.slice a os.length c:=by
  obtain ⟨_,_,h⟩:=hO
  exact SlC.val h
 rw [e1] at hT
 rw [e2] at hO
 rw [e1,e2]
 try refine RUN ?_
 exact ⟨_,_,_,_,rfl,hT,hO⟩
theorem PNode.cells {H:Hp} {cs:List Value} {n:Nd} (h:PNode H cs n):∃ a c,cs=[.int .i64 n.col,.int .i64 n.left,.int .i64 n.right,.int .i64 n.rows,.int .i64 n.cls,
  .bool (decide (n.at'.num<0)),.int .u64 (lo n.at'.num.natAbs:Int),.string (moreB n.at'.num.natAbs),.int .u64 (lo (dk n.at'.den):Int),.string (moreB (dk n.at'.den)),
  .bool (decide (n.cost.num<0)),.int .u64 (lo n.cost.num.natAbs:Int),.string (moreB n.cost.num.natAbs),.int .u64 (lo (dk n.cost.den):Int),.string (moreB (dk n.cost.den)),
  .bool (decide (n.value.num<0)),.int .u64 (lo n.value.num.natAbs:Int),.string (moreB n.value.num.natAbs),.int .u64 (lo (dk n.value.den):Int),.string (moreB (dk n.value.den)),.slice a n.counts.length c]∧IL H (.slice a n.counts.length c) n.counts:=by
 obtain ⟨a,c,h1,rfl⟩:=h
 exact ⟨a,c,rfl,h1⟩
abbrev walkC (kd cl w:Int) (vn:Value) (far:Int):List Value:=[.int .i64 kd,.int .i64 cl,.int .i64 w,vn,.int .i64 far]
set_option maxRecDepth 100000 in
set_option maxHeartbeats 16000000 in
theorem pend_pw {kd cl w:Int} {a:Option Addr} {cp:Nat} {ns:List Nd} (hln:ns.length≤1000000) {k h e:Nat} (hsub:Sub ns w k h e):∀ {H:Hp} {css:List (List Value)} {b:Nat} {T:TypeId} {deep:Nat} {far:Int},PNodes H css ns→SlC H (.slice a ns.length cp) ns.length 21 css.flatten→deep≤k →
  PW prog 90 #[.pointer (some ⟨b,0,none⟩),.int .i64 (k:Int),.int .i64 (deep:Int)] H [(b,T,walkC kd cl w (.slice a ns.length cp) far)] fun v ow _=>v=.tuple #[.int .i64 (e:Int),.bool true]∧∃ far',ow=[(b,T,walkC kd cl w (.slice a ns.length cp) far')]∧far'≤max far ((deep+h:Nat):Int):=by
 induction hsub with
 | @leaf k h n hn hc hl hr ha =>
  intro H css b T deep far hns hsl hdk
  have hlt:=(List.getElem?_eq_some_iff.1 hn).1
  obtain ⟨c,hcut,hnd⟩:=hns.get hn
  obtain ⟨a7,c7,rfl,_⟩:=hnd.cells
  have hsg:PV prog 22 #[fracV n.at'] (.int .i64 0):=by
   rw [ha];exact sign_pv 0 (by show bl 0≤_;rw [bl_zero];omega)
  refine PW.body tO func90 rfl kR ntmps90 rfl rfl ?_
  try refine RUN ?_
  (repeat (first | refine EVL.nilB rfl rfl rfl rfl rfl ?_ | refine EVL.fldB tO rfl rfl rfl rfl rfl rfl rfl ?_ | refine EVL.val tO rfl rfl rfl rfl rfl ?_))
  refine EVL.loadOwn tO rfl rfl rfl rfl rfl rfl (0) rfl (rfl) rfl rfl ?_
  try refine RUN ?_
  rw [decide_eq_false (show ¬ (k:Int)≥(ns.length:Int) by omega)]
  try refine RUN ?_
  (repeat (first | refine EVL.nilB rfl rfl rfl rfl rfl ?_ | refine EVL.fldB tO rfl rfl rfl rfl rfl rfl rfl ?_ | refine EVL.val tO rfl rfl rfl rfl rfl ?_))
  refine EVL.loadOwn tO rfl rfl rfl rfl rfl rfl (0) rfl (rfl) rfl rfl ?_
  try refine RUN ?_
  refine EVL.idxM tO rfl rfl rfl rfl rfl rfl rfl rfl rfl (hsl) (k) (rfl) (hlt) (hcut) ?_
  try refine RUN ?_
  rw [hc]
  try refine RUN ?_
  (repeat (first | refine EVL.nilB rfl rfl rfl rfl rfl ?_ | refine EVL.fldB tO rfl rfl rfl rfl rfl rfl rfl ?_ | refine EVL.val tO rfl rfl rfl rfl rfl ?_))
  refine EVL.loadOwn tO rfl rfl rfl rfl rfl rfl (0) rfl (rfl) rfl rfl ?_
  try refine RUN ?_
  (repeat (first | refine EVL.nilB rfl rfl rfl rfl rfl ?_ | refine EVL.fldB tO rfl rfl rfl rfl rfl rfl rfl ?_ | refine EVL.val tO rfl rfl rfl rfl rfl ?_))
  refine EVL.storeOwn tO rfl rfl rfl rfl rfl rfl ([]) ([]) rfl rfl rfl rfl ((by exact Nat.le_refl 5)) (rfl) ?_
  try refine RUN ?_
  rw [hl,hr]
  repeat (first | refine RUN ?_ | refine CV (hsg) ?_ | refine CE (hsg) ?_)
  refine ⟨by rw [wi_inc k (by omega)];rfl,_,rfl,?_⟩
  split <;> omega
 | @node k h m e n hn hc1 hc2 hl hr s1 s2 ih1 ih2 =>
  intro H css b T deep far hns hsl hdk
  have hlt:=(List.getElem?_eq_some_iff.1 hn).1
  obtain ⟨hm1,hm2⟩:=s1.lt
  obtain ⟨he1,he2⟩:=s2.lt
  obtain ⟨c,hcut,hnd⟩:=hns.get hn
  obtain ⟨a7,c7,rfl,_⟩:=hnd.cells
  refine PW.body tO func90 rfl kR ntmps90 rfl rfl ?_
  try refine RUN ?_
  (repeat (first | refine EVL.nilB rfl rfl rfl rfl rfl ?_ | refine EVL.fldB tO rfl rfl rfl rfl rfl rfl rfl ?_ | refine EVL.val tO rfl rfl rfl rfl rfl ?_))
  refine EVL.loadOwn tO rfl rfl rfl rfl rfl rfl (0) rfl (rfl) rfl rfl ?_
  try refine RUN ?_
  rw [decide_eq_false (show ¬ (k:Int)≥(ns.length:Int) by omega)]
  try refine RUN ?_
  (repeat (first | refine EVL.nilB rfl rfl rfl rfl rfl ?_ | refine EVL.fldB tO rfl rfl rfl rfl rfl rfl rfl ?_ | refine EVL.val tO rfl rfl rfl rfl rfl ?_))
  refine EVL.loadOwn tO rfl rfl rfl rfl rfl rfl (0) rfl (rfl) rfl rfl ?_
  try refine RUN ?_
  refine EVL.idxM tO rfl rfl rfl rfl rfl rfl rfl rfl rfl (hsl) (k) (rfl) (hlt) (hcut) ?_
  try refine RUN ?_
  rw [show (n.col == -1)=false from beq_eq_false_iff_ne.2 (by omega)]
  try refine RUN ?_
  apply EV.drawn 20 kR kR;intro xv yw
  (repeat (first | refine' DV ?_ | refine' DA ?_ | refine' DK0 ?_ | refine' DT ?_ | refine' DS ?_))
  rw [decide_eq_false (show ¬ n.col<0 by omega)]
  (repeat (first | refine' DV ?_ | refine' DA ?_ | refine' DK0 ?_ | refine' DT ?_ | refine' DS ?_))
  (repeat (first | refine' DV ?_ | refine' DA ?_ | refine' DK0 ?_ | refine' DT ?_ | refine' DS ?_ | (refine' DJ.nilB rfl rfl rfl rfl rfl ?_;rotate_left) | (refine' DJ.fldB tO rfl rfl rfl rfl rfl rfl rfl ?_;rotate_left)))
  refine' DJ.ofVal (ValOk.loadOwn tO rfl rfl rfl rfl (0) rfl (rfl) rfl rfl) rfl rfl rfl ?_;rotate_left
  (repeat (first | refine' DV ?_ | refine' DA ?_ | refine' DK0 ?_ | refine' DT ?_ | refine' DS ?_))
  rw [decide_eq_false (show ¬ n.col≥w by omega)]
  (repeat (first | refine' DV ?_ | refine' DA ?_ | refine' DK0 ?_ | refine' DT ?_ | refine' DS ?_))
  rw [hl,wi_inc k oM,show (((k+1:Nat):Int) != ((k+1:Nat):Int))=false from bne_self_eq_false _]
  (repeat (first | refine' DV ?_ | refine' DA ?_ | refine' DK0 ?_ | refine' DT ?_ | refine' DS ?_))
  (refine DJ.nil (fun G1 hG1 hF1=>?_);(case hS|hS2=>rfl))
  try refine RUN ?_
  rw [wi_inc k oM,wi_inc deep (by omega)]
  refine EVL.callW rfl rfl rfl rfl rfl ([(b,T,walkC kd cl w (.slice a ns.length cp) far)]) ([]) rfl (ih1 (hns.mono hG1) (hsl.mono hG1) (deep:=deep+1) oM) ?_
  rintro _ _ G2 ⟨rfl,far1,rfl,hf1⟩ hG2
  try refine RUN ?_
  rw [hr,show ((m:Int) != (m:Int))=false from bne_self_eq_false _]
  try refine RUN ?_
  rw [wi_inc deep (by omega)]
  refine EVL.callW rfl rfl rfl rfl rfl ([(b,T,walkC kd cl w (.slice a ns.length cp) far1)]) ([]) rfl (ih2 (hns.mono (hG1.trans hG2)) (hsl.mono (hG1.trans hG2)) (deep:=deep+1) oM) ?_
  rintro _ _ G3 ⟨rfl,far2,rfl,hf2⟩ hG3
  try refine RUN ?_
  exact ⟨rfl,far2,rfl,by omega⟩
set_option maxRecDepth 100000 in
set_option maxHeartbeats 16000000 in
theorem palone_pc {H:Hp} {kd cl w:Int} {vn:Value} {n:Nd} {cs:List Value} (hkd:(kd=1∧1≤cl∧cl≤12)∨(kd=2∧cl=0)) (hnd:PNode H cs n) (hN:OkN kd cl n) :
  PC prog 91 #[treeV kd cl w vn,.agg cs.toArray] H fun r _=>r=.bool true:=by
 obtain ⟨a7,c7,rfl,k4⟩:=hnd.cells
 have hN1:=hN.rows
 have hcl:n.counts.length≤12:=by have:=hN.len;omega
 have hsc:PV prog 22 #[fracV n.cost] (.int .i64 n.cost.num.sign):=sign_pv _ (by have:=(sm_of hN.small.2.1 oM).num;show bl n.cost.num.natAbs≤_;omega)
 refine BD func91 ntmps91 ?_
 try refine RUN ?_
 rw [decide_eq_false (show ¬ n.rows<1 by omega)]
 try refine RUN ?_
 rw [decide_eq_false (show ¬ n.rows>1048576 by omega)]
 repeat (first | refine RUN ?_ | refine CV (hsc) ?_ | refine CE (hsc) ?_)
 rw [decide_eq_false (sign_no hN.cost)]
 try refine RUN ?_
 rw [show ((n.counts.length:Int) != cl)=false by rw [hN.len];exact bne_self_eq_false _]
 try refine RUN ?_
 rcases hkd with ⟨rfl,hc1,hc2⟩ | ⟨rfl,rfl⟩
 ·have hsv:PV prog 22 #[fracV n.value] (.int .i64 0):=by
   rw [hN.value rfl];exact sign_pv 0 (by show bl 0≤_;rw [bl_zero];omega)
  try refine RUN ?_
  refine EV.loopK (ι:=Nat) [2,3,38,39] [2,3] (fun q=>[(5,.v (.int .i64 (n.counts.take q).sum)),(6,.v (.int .i64 (topN n.counts q:Nat))),(40,.v (.int .i64 (q:Int)))]) (fun _=>[]) (fun _=>[]) (fun q _=>q≤n.counts.length) (fun q=>n.counts.length-q) (0) rfl rfl ⟨rfl,rfl,rfl,trivial⟩ trivial rfl (fun _=>rfl) (Nat.zero_le _) ?_
  rintro q G2 hG2 hq
  have hsum:=hN.sum rfl
  try refine RUN ?_
  refine EV.cond rfl (fun hlt=>?_) (fun hlt=>?_)
  ·simp only [nN] at hlt
   have ht1:=sum_take_le hN.pos (q+1)
   have ht0:=sum_take_le hN.pos q
   have hti:=topN_lt n.counts q
   have htl:topN n.counts q<n.counts.length:=by omega
   have g1:=getD_at hlt
   have g2:=getD_at htl
   have hz0:=hN.pos _ (List.mem_of_getElem? g1)
   have hts:(n.counts.take (q+1)).sum=(n.counts.take q).sum+n.counts.getD q 0:=by rw [take_snoc g1,List.sum_append,List.sum_singleton]
   have hst:topN n.counts (q+1)=if n.counts.getD (topN n.counts q) 0<n.counts.getD q 0 then q else topN n.counts q:=rfl
   generalize topN n.counts q=tp at *
   generalize n.counts.getD tp 0=x at *
   generalize n.counts.getD q 0=y at *
   try refine RUN ?_
   refine EVL.idxR tO rfl rfl rfl rfl rfl rfl rfl rfl rfl rfl ((k4.mono hG2)) (q) (rfl) (hlt) ((by rw [List.getElem?_map,g1];rfl)) ?_
   try refine RUN ?_
   rw [decide_eq_false (show ¬ y<0 by omega)]
   try refine RUN ?_
   rw [decide_eq_false (show ¬ y>n.rows by omega)]
   try refine RUN ?_
   rw [show IntKind.i64.wrap ((n.counts.take q).sum+y)=(n.counts.take (q+1)).sum by rw [IntKind.wrap_i64];omega]
   refine EVL.idxR tO rfl rfl rfl rfl rfl rfl rfl rfl rfl rfl ((k4.mono hG2)) (tp) (rfl) (htl) ((by rw [List.getElem?_map,g2];rfl)) ?_
   try refine RUN ?_
   by_cases h:y>x
   ·rw [decide_eq_true h]
    rw [if_pos h] at hst
    try refine RUN ?_
    refine ⟨q+1,⟨rfl,by rw [hst];rfl,by rw [wi_inc q (by omega)];rfl,trivial⟩,sB,trivial,sB,rfl,by omega,Hp.Le.refl _,by omega⟩
   ·rw [decide_eq_false h]
    rw [if_neg h] at hst
    try refine RUN ?_
    refine ⟨q+1,⟨rfl,by rw [hst];rfl,by rw [wi_inc q (by omega)];rfl,trivial⟩,sB,trivial,sB,rfl,by omega,Hp.Le.refl _,by omega⟩
  ·simp only [nN] at hlt
   obtain rfl:q=n.counts.length:=by omega
   rw [List.take_length,hsum,hN.cls]
   try refine RUN ?_
   rw [show (n.rows == n.rows)=true from beq_self_eq_true _]
   try refine RUN ?_
   rw [show ((topN n.counts n.counts.length:Int) == (topN n.counts n.counts.length:Int))=true from beq_self_eq_true _]
   repeat (first | refine RUN ?_ | refine CV (hsv) ?_ | refine CE (hsv) ?_)
   rfl
 ·have hc0:n.counts=[]:=List.length_eq_zero_iff.1 (by have:=hN.len;omega)
  have hcls0:n.cls=0:=by rw [hN.cls,hc0];rfl
  rw [hcls0]
  try refine RUN ?_
  rfl
set_option maxRecDepth 100000 in
set_option maxHeartbeats 16000000 in
theorem padds_pc {H:Hp} {kd cl:Int} {n na nb:Nd} {cs ca cb:List Value} (hkd:(kd=1∧1≤cl∧cl≤12)∨(kd=2∧cl=0)) (hnd:PNode H cs n) (hnda:PNode H ca na) (hndb:PNode H cb nb) (hN:OkN kd cl n) (hNa:OkN kd cl na) (hNb:OkN kd cl nb) (hCC:OkC n na nb) :
  PC prog 92 #[.agg cs.toArray,.agg ca.toArray,.agg cb.toArray] H fun r _=>r=.bool true:=by
 obtain ⟨a7,c7,rfl,k4⟩:=hnd.cells
 obtain ⟨xa7,xc7,rfl,ka4⟩:=hnda.cells
 obtain ⟨ya7,yc7,rfl,kb4⟩:=hndb.cells
 have hRa:=hNa.rows
 have hRb:=hNb.rows
 have hRc:=hCC.rows
 have hRn:=hN.rows
 have hs0:=hN.small
 have hsa:=hNa.small
 have hsb:=hNb.small
 have hlna:(na.counts.length:Int)=cl:=hNa.len
 have hlnb:(nb.counts.length:Int)=cl:=hNb.len
 have hlnn:(n.counts.length:Int)=cl:=hN.len
 have had:=ht_add na.cost nb.cost
 have hadd:=add_pv na.cost nb.cost (sm_of hsa.2.1 oM) (sm_of hsb.2.1 oM)
 have hcmp:=cmp_pv n.cost (na.cost+nb.cost) (sm_of hs0.2.1 oM) (by unfold sm;omega)
 refine BD func92 ntmps92 ?_
 try refine RUN ?_
 refine EV.loopK (ι:=Nat) [3,4,5,10,11] [3,4,5] (fun q=>[(12,.v (.int .i64 (q:Int)))]) (fun _=>[]) (fun _=>[]) (fun q _=>q≤n.counts.length) (fun q=>n.counts.length-q) (0) rfl rfl ⟨rfl,trivial⟩ trivial rfl (fun _=>rfl) (Nat.zero_le _) ?_
 rintro q G1 hG1 hq
 try refine RUN ?_
 refine EV.cond rfl (fun hlt=>?_) (fun hlt=>?_)
 ·simp only [nN] at hlt
  have hk1:kd=1:=by
   rcases hkd with ⟨e,_⟩ | ⟨_,e⟩
   ·exact e
   ·omega
  obtain ⟨z,hz⟩:∃ z,n.counts[q]?=some z:=⟨_,List.getElem?_eq_getElem hlt⟩
  have hqa:q<na.counts.length:=by omega
  have hqb:q<nb.counts.length:=by omega
  obtain ⟨za,hza⟩:∃ z,na.counts[q]?=some z:=⟨_,List.getElem?_eq_getElem hqa⟩
  obtain ⟨zb,hzb⟩:∃ z,nb.counts[q]?=some z:=⟨_,List.getElem?_eq_getElem hqb⟩
  have hcc:=hCC.counts q
  rw [List.getD_eq_getElem?_getD,List.getD_eq_getElem?_getD,List.getD_eq_getElem?_getD,hz,hza,hzb] at hcc
  simp only [Option.getD_some] at hcc
  have hz0:=hN.pos z (List.mem_of_getElem? hz)
  have hup:z≤1048576:=by
   have h1:=sum_take_le hN.pos (q+1)
   have h2:=sum_take_le hN.pos q
   rw [take_snoc hz,List.sum_append,List.sum_singleton] at h1
   have h3:=hN.sum hk1
   omega
  have hwz:IntKind.i64.wrap (za+zb)=z:=by rw [IntKind.wrap_i64];omega
  try refine RUN ?_
  refine EVL.idxR tO rfl rfl rfl rfl rfl rfl rfl rfl rfl rfl ((k4.mono hG1)) (q) (rfl) (hlt) ((by rw [List.getElem?_map,hz];rfl)) ?_
  try refine RUN ?_
  apply EV.drawn 13 kR kR;intro xv yw
  (repeat (first | refine' DV ?_ | refine' DA ?_ | refine' DK0 ?_ | refine' DT ?_ | refine' DS ?_))
  refine' DJ.ofVal (ValOk.idx1 tO rfl rfl rfl rfl rfl rfl rfl rfl ((ka4.mono hG1)) (q) (rfl) (hqa) ((by rw [List.getElem?_map,hza];rfl))) rfl rfl rfl ?_;rotate_left
  (repeat (first | refine' DV ?_ | refine' DA ?_ | refine' DK0 ?_ | refine' DT ?_ | refine' DS ?_))
  refine' DJ.ofVal (ValOk.idx1 tO rfl rfl rfl rfl rfl rfl rfl rfl ((kb4.mono hG1)) (q) (rfl) (hqb) ((by rw [List.getElem?_map,hzb];rfl))) rfl rfl rfl ?_;rotate_left
  (repeat (first | refine' DV ?_ | refine' DA ?_ | refine' DK0 ?_ | refine' DT ?_ | refine' DS ?_))
  rw [hwz,show (z != z)=false from bne_self_eq_false _]
  (repeat (first | refine' DV ?_ | refine' DA ?_ | refine' DK0 ?_ | refine' DT ?_ | refine' DS ?_))
  (refine DJ.nil (fun G hG hF=>?_);(case hS|hS2=>rfl))
  try refine RUN ?_
  refine ⟨q+1,⟨by rw [wi_inc q (by omega)];rfl,trivial⟩,sB,trivial,sB,rfl,hlt,hG,by omega⟩
 ·simp only [nN] at hlt
  try refine RUN ?_
  have hwr:IntKind.i64.wrap (na.rows+nb.rows)=n.rows:=by rw [IntKind.wrap_i64];omega
  apply EV.drawn 20 kR kR;intro xv yw
  (repeat (first | refine' DV ?_ | refine' DA ?_ | refine' DK0 ?_ | refine' DT ?_ | refine' DS ?_))
  rw [hwr,show (n.rows == n.rows)=true from beq_self_eq_true _]
  (repeat (first | refine' DV ?_ | refine' DA ?_ | refine' DK0 ?_ | refine' DT ?_ | (refine' DC (hadd) (h:=?_);rotate_left) | (refine' DC (hcmp) (h:=?_);rotate_left) | refine' DS ?_))
  rw [decide_eq_true (show ordR n.cost (na.cost+nb.cost)≥0 from Int.not_lt.1 fun k=>Rat.not_lt.2 hCC.cost ((ordR_lt0 _ _).1 k))]
  (repeat (first | refine' DV ?_ | refine' DA ?_ | refine' DK0 ?_ | refine' DT ?_ | refine' DS ?_))
  (refine DJ.nil (fun G hG hF=>?_);(case hS|hS2=>rfl))
  try refine RUN ?_
  rfl
end Go.Proofs.YtgjepkeeeemppaaGreatDoor
