/- Texts of ours in one: Gc2, Tz, Gc3, Gc4, Gc5, GcdS, Fr1, Fr2, Fr3, Ha1, Ha2, Ls1, LsP, Ls2, Ls3, Fr4, NearP, NearQ, SimpP, SimpS, Lw1, Lw2, Str1, Lw3, Lw4, Simp, Simp2, Simp3, Simp4, Ls4, Ls5, Ls6, Gn1, GnP, Gn2, Gn3, Gn7, Ev22, Gn8, Gn4, Gn5, Gn9, Gn6, Ev23, Gn10. -/
import Derived.Test.YtplhljjljnkhpaaGreatDoorB2
import Derived.Shelf.Spec.TrailingZeros
set_option linter.unusedVariables false
set_option linter.unusedSimpArgs false

namespace Go.Proofs.YtplhljjljnkhpaaGreatDoor
open Go.RowKit _root_.Go.Proofs.Tryz
theorem wcompare_pw {H:Hp} {b off cap b' off' cap':Nat} {T T':TypeId} {cs cs':List Value} {l m:List Nat} (hw:Wn cs off l) (hw':Wn cs' off' m) (hl:Norm W64 l) (hm:Norm W64 m) (hll:l.length≤1000000000) :
  PW prog 208 #[.slice (some ⟨b,off,none⟩) l.length cap,.slice (some ⟨b',off',none⟩) m.length cap'] H [(b,T,cs),(b',T',cs')] fun v ow _=>ow=[(b,T,cs),(b',T',cs')]∧v=.int .i64 (ordN (val W64 l) (val W64 m)):=by
 refine PW.body tO func208 rfl kR ntmps208 rfl rfl ?_
 try refine RUN ?_
 by_cases he:l.length=m.length
 ·rw [show (((l.length:Nat):Int) != (m.length:Int))=false by simp [he]]
  try refine RUN ?_
  refine EV.loop (ι:=Nat) (fun n=>[(0,.v (.slice (some ⟨b,off,none⟩) l.length cap)),(1,.v (.slice (some ⟨b',off',none⟩) m.length cap')),(5,.v (.int .i64 ((n:Int)-1)))]) (fun _=>[]) (fun _=>[(b,T,cs),(b',T',cs')])
   (fun n _=>n≤l.length∧l.drop n=m.drop n) (fun n=>n) l.length ⟨rfl,rfl,?_,trivial⟩ trivial rfl (fun _=>rfl) ⟨Nat.le_refl _,by rw [List.drop_of_length_le (Nat.le_refl _),List.drop_of_length_le (by omega)]⟩ ?_
  ·rw [show IntKind.i64.wrap ((l.length:Int)-1)=(l.length:Int)-1 by rw [IntKind.wrap_i64];omega];rfl
  rintro n G hG ⟨hn,hd⟩
  try refine RUN ?_
  by_cases h0:n=0
  ·subst h0
   rw [show decide ((((0:Nat):Int)-1)≥0)=false from rfl]
   try refine RUN ?_
   rw [List.drop_zero,List.drop_zero] at hd
   subst hd
   exact ⟨rfl,by rw [ordN_eq rfl]⟩
  ·rw [show decide (((n:Int)-1)≥0)=true by simp;omega]
   have hx:=hw.2 (n-1) oM
   have hy:=hw'.2 (n-1) oM
   have hvo:=val_ord (l:=l) (m:=m) (n-1) hl.1 hm.1 he oM (by rw [show n-1+1=n by omega];exact hd)
   have hdx:=val_drop 0 l (n-1)
   have hdl:l.drop (n-1)=l.getD (n-1) 0::l.drop n:=by
    rw [List.drop_eq_getElem_cons (show n-1<l.length by omega),List.getD_eq_getElem?_getD,List.getElem?_eq_getElem (show n-1<l.length by omega),show n-1+1=n by omega];rfl
   have hdm:m.drop (n-1)=m.getD (n-1) 0::m.drop n:=by
    rw [List.drop_eq_getElem_cons (show n-1<m.length by omega),List.getD_eq_getElem?_getD,List.getElem?_eq_getElem (show n-1<m.length by omega),show n-1+1=n by omega];rfl
   generalize l.getD (n-1) 0=u at *
   generalize m.getD (n-1) 0=w at *
   try refine RUN ?_
   apply EV.drawn 9 kR kR;intro xv yw
   (repeat (first | refine' DV ?_ | refine' DA ?_ | refine' DK0 ?_ | refine' DT ?_ | refine' DS ?_))
   refine' DJ.ofVal (ValOk.idxO tO rfl rfl rfl rfl rfl rfl rfl rfl (n-1) oM oM) rfl rfl rfl ?_;rotate_left
   refine' DJ.ofVal (ValOk.load1 tO rfl rfl rfl rfl rfl rfl (0) rfl (hx)) rfl rfl rfl ?_;rotate_left
   (repeat (first | refine' DV ?_ | refine' DA ?_ | refine' DK0 ?_ | refine' DT ?_ | refine' DS ?_))
   refine' DJ.ofVal (ValOk.idxO tO rfl rfl rfl rfl rfl rfl rfl rfl (n-1) oM oM) rfl rfl rfl ?_;rotate_left
   refine' DJ.ofVal (ValOk.load1 tO rfl rfl rfl rfl rfl rfl (1) rfl (hy)) rfl rfl rfl ?_;rotate_left
   (repeat (first | refine' DV ?_ | refine' DA ?_ | refine' DK0 ?_ | refine' DT ?_ | refine' DS ?_))
   (refine DJ.nil (fun G hG hF=>?_);(case hS|hS2=>rfl))
   try refine RUN ?_
   by_cases hxy:u=w
   ·subst hxy
    rw [show (((u:Nat):Int) != (u:Int))=false by simp]
    try refine RUN ?_
    refine ⟨n-1,⟨rfl,rfl,?_,trivial⟩,trivial,rfl,⟨by omega,by rw [hdl,hdm,hd]⟩,hG,by omega⟩
    rw [show IntKind.i64.wrap ((n:Int)-1-1)=((n-1:Nat):Int)-1 by rw [IntKind.wrap_i64];omega];rfl
   ·rw [show (((u:Nat):Int) != (w:Int))=true by simp;omega]
    have ho:=hvo hxy
    try refine RUN ?_
    apply EV.drawn 9 kR kR;intro xv yw
    (repeat (first | refine' DV ?_ | refine' DA ?_ | refine' DK0 ?_ | refine' DT ?_ | refine' DS ?_))
    refine' DJ.ofVal (ValOk.idxO tO rfl rfl rfl rfl rfl rfl rfl rfl (n-1) oM oM) rfl rfl rfl ?_;rotate_left
    refine' DJ.ofVal (ValOk.load1 tO rfl rfl rfl rfl rfl rfl (0) rfl (hx)) rfl rfl rfl ?_;rotate_left
    (repeat (first | refine' DV ?_ | refine' DA ?_ | refine' DK0 ?_ | refine' DT ?_ | refine' DS ?_))
    refine' DJ.ofVal (ValOk.idxO tO rfl rfl rfl rfl rfl rfl rfl rfl (n-1) oM oM) rfl rfl rfl ?_;rotate_left
    refine' DJ.ofVal (ValOk.load1 tO rfl rfl rfl rfl rfl rfl (1) rfl (hy)) rfl rfl rfl ?_;rotate_left
    (repeat (first | refine' DV ?_ | refine' DA ?_ | refine' DK0 ?_ | refine' DT ?_ | refine' DS ?_))
    (refine DJ.nil (fun G hG hF=>?_);(case hS|hS2=>rfl))
    try refine RUN ?_
    rw [ho]
    by_cases hlt:u<w
    ·rw [lt_dec u w hlt,ordN_lt hlt]
     try refine RUN ?_
     exact ⟨rfl,rfl⟩
    ·rw [lt_dec' u w hlt,ordN_gt (by omega)]
     try refine RUN ?_
     exact ⟨rfl,rfl⟩
 ·rw [show (((l.length:Nat):Int) != (m.length:Int))=true by simp;omega]
  try refine RUN ?_
  by_cases hlt:l.length<m.length
  ·rw [lt_dec _ _ hlt,ordN_lt (len_less W64_two hl.1 hm hlt)]
   try refine RUN ?_
   exact ⟨rfl,rfl⟩
  ·rw [lt_dec' _ _ hlt,ordN_gt (len_less W64_two hm.1 hl oM)]
   try refine RUN ?_
   exact ⟨rfl,rfl⟩
theorem wsubtract_pw {H:Hp} {b off cap b' off' cap':Nat} {T T':TypeId} {cs cs':List Value} {l m:List Nat} (hw:Wn cs off l) (hw':Wn cs' off' m) (hl:Dig W64 l) (hm:Dig W64 m) (hll:l.length≤1000000000) (hml:m.length≤l.length) (hc:l.length≤cap) (hge:val W64 m≤val W64 l) :
  PW prog 209 #[.slice (some ⟨b,off,none⟩) l.length cap,.slice (some ⟨b',off',none⟩) m.length cap'] H [(b,T,cs),(b',T',cs')] fun v ow _=>∃ cs1 r,ow=[(b,T,cs1),(b',T',cs')]∧Wn cs1 off r∧Norm W64 r∧r.length≤l.length∧v=.slice (some ⟨b,off,none⟩) r.length cap∧val W64 r=val W64 l-val W64 m:=by
 refine PW.body tO func209 rfl kR ntmps209 rfl rfl ?_
 try refine RUN ?_
 refine EV.loop (ι:=Nat × Nat × List Nat × List Value) (fun q=>[(0,.v (.slice (some ⟨b,off,none⟩) l.length cap)),(1,.v (.slice (some ⟨b',off',none⟩) m.length cap')),(5,.v (n64 q.2.1)),(9,.v (.int .i64 (l.length:Int))),(10,.v (.int .i64 (q.1:Int)))]) (fun _=>[]) (fun q=>[(b,T,q.2.2.2),(b',T',cs')])
  (fun q _=>q.1≤l.length∧SubInv l m q.2.2.1 q.1 q.2.1∧Wn q.2.2.2 off q.2.2.1) (fun q=>l.length-q.1) (0,0,l,cs) ⟨rfl,rfl,rfl,rfl,rfl,trivial⟩ trivial rfl (fun _=>rfl) ⟨Nat.zero_le _,⟨rfl,hl,fun _ _=>rfl,by simp [val],Nat.zero_le _⟩,hw⟩ ?_
 rintro ⟨i,c,cur,cu⟩ G hG ⟨hi,hinv,hcu⟩
 dsimp only at hi hinv hcu
 try refine RUN ?_
 by_cases hlt:i<l.length
 ·rw [lt_dec _ _ hlt]
  have hil:i<cur.length:=by rw [hinv.len];exact hlt
  have hcx:=hcu.2 i hil
  try refine RUN ?_
  refine EV.meet (fun env' bx' H'=>SubL env' [(0,.v (.slice (some ⟨b,off,none⟩) l.length cap)),(1,.v (.slice (some ⟨b',off',none⟩) m.length cap')),(5,.v (n64 c)),(6,.v (.int .i64 (i:Int))),(7,.v (n64 (m.getD i 0))),(9,.v (.int .i64 (l.length:Int))),(10,.v (.int .i64 (i:Int)))]∧H'=⟨G,[(b,T,cu),(b',T',cs')],⟨H,[b,b']⟩⟩) ?_ ?_
  ·rintro env' bx' H' _ ⟨he,rfl⟩
   refine EV.less _ [] he trivial rfl ?_
   try refine RUN ?_
   refine EVL.idxO tO rfl rfl rfl rfl rfl rfl rfl rfl rfl rfl (i) (rfl) (hlt) ?_
   refine EVL.load1 tO rfl rfl rfl rfl rfl rfl rfl rfl (0) rfl (hcx) ?_
   try refine RUN ?_
   refine EVL.ext rfl rfl rfl rfl rfl (fun W=>sub64_run (cur.getD i 0) (m.getD i 0) c W hinv.carry) ?_
   try refine RUN ?_
   refine EVL.idxO tO rfl rfl rfl rfl rfl rfl rfl rfl rfl rfl (i) (rfl) (hlt) ?_
   refine EVL.setO tO rfl rfl rfl rfl rfl rfl rfl ([]) rfl rfl rfl ((by have:=hcu.1;omega)) ?_
   try refine RUN ?_
   refine ⟨(i+1,subHi (cur.getD i 0) (m.getD i 0) c,cur.set i (subLo (cur.getD i 0) (m.getD i 0) c),cu.set (off+i) (n64 (subLo (cur.getD i 0) (m.getD i 0) c))),⟨rfl,rfl,rfl,rfl,?_,trivial⟩,trivial,rfl,⟨by dsimp only;omega,hinv.step hlt hm,hcu.set i _ hil⟩,Hp.Le.refl _,by dsimp only;omega⟩
   rw [wi_inc i (by omega)];rfl
  ·by_cases hlm:i<m.length
   ·rw [lt_dec _ _ hlm]
    try refine RUN ?_
    refine EVL.idxO tO rfl rfl rfl rfl rfl rfl rfl rfl rfl rfl (i) (rfl) (hlm) ?_
    refine EVL.load1 tO rfl rfl rfl rfl rfl rfl rfl rfl (1) rfl (hw'.2 i hlm) ?_
    try refine RUN ?_
    exact ⟨⟨rfl,rfl,rfl,rfl,rfl,rfl,rfl,trivial⟩,rfl⟩
   ·rw [lt_dec' _ _ hlm]
    try refine RUN ?_
    refine ⟨⟨rfl,rfl,rfl,rfl,?_,rfl,rfl,trivial⟩,rfl⟩
    rw [show m.getD i 0=0 by simp [Nat.not_lt.1 hlm]]
    rfl
 ·rw [lt_dec' _ _ hlt]
  obtain rfl:i=l.length:=by omega
  have hfin:=hinv.sum
  have hlen:=hinv.len
  rw [List.take_of_length_le oM,List.take_of_length_le (Nat.le_refl _),List.take_of_length_le (by omega)] at hfin
  have hlt2:=val_lt hinv.dig
  rw [hlen] at hlt2
  have hc0:c=0:=by
   have:=hinv.carry
   rcases Nat.eq_zero_or_pos c with e | e
   ·exact e
   ·exfalso
    have h1:c=1:=by omega
    rw [h1,Nat.one_mul] at hfin
    have h2:=val_lt hm
    have h3:W64 ^ m.length≤W64 ^ l.length:=Nat.pow_le_pow_right (by decide) hml
    omega
  rw [hc0,Nat.zero_mul,Nat.add_zero] at hfin
  try refine RUN ?_
  have ht:=wtrim_pw (H:=G) (b:=b) (T:=T) (cap:=cap) hcu oM oM
  rw [hlen] at ht
  refine EVL.callW rfl rfl rfl rfl rfl ([(b,T,cu)]) ([(b',T',cs')]) rfl (ht) ?_
  rintro v ow H' ⟨rfl,rfl⟩ hle
  try refine RUN ?_
  refine ⟨cu,trimL cur,rfl,?_,trimL_norm hinv.dig,?_,rfl,?_⟩
  ·have:=hcu.take (trimL cur).length
   rwa [trimL_take] at this
  ·have:=trimL_length_le cur;omega
  ·rw [trimL_val];omega
end Go.Proofs.YtplhljjljnkhpaaGreatDoor
namespace Go.Proofs.YtplhljjljnkhpaaGreatDoor
open Go.RowKit
def Tryz.lays7n29_ren:Go.Shelf.Ren:=⟨fun | 29=>250 | n=>n,fun | 0=>0 | 3=>3 | 4=>4 | 5=>5 | 22=>22 | 25=>210 | 54=>352 | n=>n,fun | 1=>2 | n=>n⟩
theorem Tryz.lays7n29:Go.Proofs.Lays7.n29 Tryz.prog Tryz.lays7n29_ren:={
 mixed:=by kernel_rfl
 f29:=Tryz.func250.trans (congrArg some kR)
 t0:=by kernel_rfl
 a0:=fun _=>by kernel_rfl
 z0:=fun _=>by kernel_rfl
 v0:=fun _=>by kernel_rfl
 i0:=by kernel_rfl
 t3:=by kernel_rfl
 a3:=fun _=>by kernel_rfl
 z3:=fun _=>by kernel_rfl
 v3:=fun _=>by kernel_rfl
 i3:=by kernel_rfl
 t4:=by kernel_rfl
 a4:=fun _=>by kernel_rfl
 z4:=fun _=>by kernel_rfl
 v4:=fun _=>by kernel_rfl
 i4:=by kernel_rfl
 t5:=by kernel_rfl
 a5:=fun _=>by kernel_rfl
 z5:=fun _=>by kernel_rfl
 v5:=fun _=>by kernel_rfl
 i5:=by kernel_rfl
 t22:=by kernel_rfl
 a22:=fun _=>by kernel_rfl
 z22:=fun _=>by kernel_rfl
 v22:=fun _=>by kernel_rfl
 i22:=by kernel_rfl
 t25:=by kernel_rfl
 a25:=fun _=>by kernel_rfl
 z25:=fun _=>by kernel_rfl
 v25:=fun _=>by kernel_rfl
 i25:=by kernel_rfl
 t54:=by kernel_rfl
 a54:=fun _=>by kernel_rfl
 z54:=fun _=>by kernel_rfl
 g1:=by kernel_rfl }
theorem tz_pv (x:Nat) (hx:x<W64):PV Tryz.prog 250 #[n64 x] (.int .i64 (Lib.ctz 64 x:Int)):=by
 refine ⟨(cO Tryz.func250),fun W hg=>?_⟩
 refine (Any7.bits_TrailingZeros64 Tryz.lays7n29 x hx W (fun _ j hj=>?_)).mono fun e W' ⟨he,hW⟩=>⟨he,by rw [hW];exact Below.refl _ _⟩
 have hgH:gH 2=some (Lib.deBruijn64tab.map fun (z:Nat)=>Value.int .u8 (z:Int)).toArray:=by unfold gH;rw [Nat.beq_refl]
 obtain ⟨T,fz,hc⟩:=hg _ _ hgH
 have:=cell_of_row W 2 j _ T fz hc
 refine this.trans ?_
 simp only [List.getElem?_toArray,List.getElem?_map,List.getD_eq_getElem?_getD,List.getElem?_eq_getElem hj]
 rfl
end Go.Proofs.YtplhljjljnkhpaaGreatDoor
namespace Go.Proofs.YtplhljjljnkhpaaGreatDoor
open Go.RowKit _root_.Go.Proofs.Tryz
theorem wzeros_pw {H:Hp} {b off cap:Nat} {T:TypeId} {cs:List Value} {l:List Nat} (hw:Wn cs off l) (hl:Dig W64 l) (hll:l.length≤100000000) (h0:val W64 l≠0) :
  PW prog 206 #[.slice (some ⟨b,off,none⟩) l.length cap] H [(b,T,cs)] fun v ow _=>ow=[(b,T,cs)]∧∃ z m:Nat,v=.int .i64 (z:Int)∧val W64 l=2 ^ z*m∧m % 2=1∧z<64*l.length:=by
 refine PW.body tO func206 rfl kR ntmps206 rfl rfl ?_
 try refine RUN ?_
 refine EV.loop (ι:=Nat) (fun i=>[(0,.v (.slice (some ⟨b,off,none⟩) l.length cap)),(3,.v (.int .i64 (i:Int)))]) (fun _=>[]) (fun _=>[(b,T,cs)])
  (fun i _=>∀ j,j<i→l.getD j 0=0) (fun i=>l.length-i) 0 ⟨rfl,rfl,trivial⟩ trivial rfl (fun _=>rfl) (fun j hj=>absurd hj (Nat.not_lt_zero _)) ?_
 rintro i G hG hz
 have hi:i<l.length:=by
  refine Nat.lt_of_not_le fun h=>h0 ?_
  have:=val_take_zero (B:=W64) i hz
  rwa [List.take_of_length_le h] at this
 have hx:=hw.2 i hi
 try refine RUN ?_
 refine EVL.idxO tO rfl rfl rfl rfl rfl rfl rfl rfl rfl rfl (i) (rfl) (hi) ?_
 refine EVL.load1 tO rfl rfl rfl rfl rfl rfl rfl rfl (0) rfl (hx) ?_
 try refine RUN ?_
 by_cases hxz:l.getD i 0=0
 ·rw [hxz,show (((0:Nat):Int) == 0)=true from rfl]
  try refine RUN ?_
  refine ⟨i+1,⟨rfl,?_,trivial⟩,trivial,rfl,fun j hj=>?_,Hp.Le.refl _,by omega⟩
  ·rw [wi_inc i (by omega)];rfl
  ·by_cases e:j=i
   ·subst e;exact hxz
   ·exact hz j oM
 ·rw [show (((l.getD i 0:Nat):Int) == 0)=false by simpa using hxz]
  obtain ⟨m,hv,hm,hc⟩:=zeros_val hl hz hxz
  have htz:=tz_pv (l.getD i 0) (hl.getD (by decide) i)
  try refine RUN ?_
  refine EVL.idxO tO rfl rfl rfl rfl rfl rfl rfl rfl rfl rfl (i) (rfl) (hi) ?_
  refine EVL.load1 tO rfl rfl rfl rfl rfl rfl rfl rfl (0) rfl (hx) ?_
  repeat (first | refine RUN ?_ | refine CV (htz) ?_ | refine CE (htz) ?_)
  refine ⟨rfl,64*i+Lib.ctz 64 (l.getD i 0),m,?_,hv,hm,by omega⟩
  rw [show IntKind.i64.wrap (64*(i:Int))=((64*i:Nat):Int) from wi_mul 64 i oM,wi_add _ _ (by omega)]
theorem take_set_drop {α:Type} (s m:List α) (i:Nat) (h:i<s.length) (hl:s.length=m.length):(s.take i++m.drop i).set i s[i]=s.take (i+1)++m.drop (i+1):=by
 have hm:i<m.length:=by omega
 rw [List.set_append_right _ _ (by rw [List.length_take];omega),List.length_take,Nat.min_eq_left oM,Nat.sub_self,List.drop_eq_getElem_cons hm,List.set_cons_zero,List.take_succ_eq_append_getElem h,List.append_assoc];rfl
theorem mix_getD (s m:List Nat) (i j:Nat) (hl:s.length=m.length) (h:i≤j):(s.take i++m.drop i).getD j 0=m.getD j 0:=by
 by_cases hi:i≤s.length
 ·rw [List.getD_eq_getElem?_getD,List.getElem?_append_right (by rw [List.length_take];omega),List.length_take,Nat.min_eq_left hi,List.getElem?_drop,show i+(j-i)=j by omega,← List.getD_eq_getElem?_getD]
 ·rw [List.getD_eq_getElem?_getD,List.getElem?_eq_none (by simp;omega),List.getD_eq_getElem?_getD,List.getElem?_eq_none (by omega)]
theorem wdown_pw {H:Hp} {b off cap:Nat} {T:TypeId} {cs:List Value} {l:List Nat} (hw:Wn cs off l) (hl:Dig W64 l) (hll:l.length≤100000000) (hc:l.length≤cap) (h0:val W64 l≠0) :
  PW prog 207 #[.slice (some ⟨b,off,none⟩) l.length cap] H [(b,T,cs)] fun v ow _=>∃ cs1 off1 cap1 r z,ow=[(b,T,cs1)]∧Wn cs1 off1 r∧Norm W64 r∧r.length≤l.length∧r.length≤cap1∧v=.slice (some ⟨b,off1,none⟩) r.length cap1∧val W64 l=2 ^ z*val W64 r∧val W64 r % 2=1:=by
 refine PW.body tO func207 rfl kR ntmps207 rfl rfl ?_
 try refine RUN ?_
 refine EVL.callW rfl rfl rfl rfl rfl ([(b,T,cs)]) ([]) rfl (wzeros_pw hw hl hll h0) ?_
 rintro v ow H' ⟨rfl,z,m,rfl,hv,hm,hz⟩ hle
 have hz0:z / 64<l.length:=by omega
 try refine RUN ?_
 refine EVL.asI (((z / 64:Nat):Int)) (wi_quo z 64 oM) ?_
 try refine RUN ?_
 refine EVL.slc tO rfl rfl rfl rfl rfl rfl rfl rfl (z / 64) l.length (.inr ⟨_,IntKind.i64,rfl,rfl⟩) (.inl ⟨rfl,rfl⟩) oM hc hc ?_
 refine EVL.as (congrArg SV.v (slc_suf b off (z / 64) l.length cap oM)) ?_
 try refine RUN ?_
 rw [show (z:Int).tmod 64=((z % 64:Nat):Int) from wi_rem z 64]
 generalize hq:z / 64=q at *
 generalize hp:z % 64=p at *
 have hpz:z=64*q+p:=by omega
 have hp64:p<64:=by omega
 have hlen:(l.drop q).length=l.length-q:=List.length_drop ..
 have hwd:=hw.drop q oM
 have hld:Dig W64 (l.drop q):=hl.drop q
 have hvs:=val_shr l q p hl hp64 oM
 rw [← hpz] at hvs
 have hdiv:val W64 l / 2 ^ z=m:=by rw [hv];exact Nat.mul_div_cancel_left _ (Nat.pow_pos (by decide))
 rw [hdiv] at hvs
 rw [← hlen]
 generalize l.drop q=d at *
 have hsl:=shrL_length p d
 have hsD:=shrL_dig p hp64 hld
 refine EV.loop (ι:=Nat × List Value) (fun s=>[(0,.v (.slice (some ⟨b,off+q,none⟩) d.length (cap-q))),(4,.v (.int .i64 (p:Int))),(15,.v (.int .i64 (d.length:Int))),(16,.v (.int .i64 (s.1:Int)))]) (fun _=>[]) (fun s=>[(b,T,s.2)])
  (fun s _=>s.1≤d.length∧Wn s.2 (off+q) ((shrL p d).take s.1++d.drop s.1)) (fun s=>d.length-s.1) (0,cs) ⟨rfl,rfl,rfl,rfl,trivial⟩ trivial rfl (fun _=>rfl) ⟨Nat.zero_le _,by simpa using hwd⟩ ?_
 rintro ⟨i,cu⟩ G hG ⟨hi,hcu⟩
 dsimp only at hi hcu
 try refine RUN ?_
 by_cases hlt:i<d.length
 ·rw [lt_dec _ _ hlt]
  have hil:i<((shrL p d).take i++d.drop i).length:=by simp;omega
  have hcx:=hcu.2 i hil
  rw [mix_getD _ _ i i hsl (Nat.le_refl _)] at hcx
  have hx:=hld.getD (by decide) i
  have hnew:=shrL_get p d i oM
  have hset:=take_set_drop (shrL p d) d i oM hsl
  have hb1:off+q+i<cu.length:=by have:=hcu.1;omega
  rw [hnew] at hset
  try refine RUN ?_
  refine EVL.idxO tO rfl rfl rfl rfl rfl rfl rfl rfl rfl rfl (i) (rfl) (hlt) ?_
  refine EVL.load1 tO rfl rfl rfl rfl rfl rfl rfl rfl (0) rfl (hcx) ?_
  try refine RUN ?_
  rw [show min p IntKind.u64.bits=p from Nat.min_eq_left (by show p≤64;omega),wu_shr]
  refine EVL.idxO tO rfl rfl rfl rfl rfl rfl rfl rfl rfl rfl (i) (rfl) (hlt) ?_
  refine EVL.setO tO rfl rfl rfl rfl rfl rfl rfl ([]) rfl rfl rfl (hb1) ?_
  have hcu1:=hcu.set i (d.getD i 0 / 2 ^ p) hil
  try refine RUN ?_
  rw [wi_inc i (by omega)]
  by_cases hl1:i+1<d.length
  ·rw [lt_dec _ _ hl1]
   have hy:=hcu1.2 (i+1) (by simp;omega)
   rw [getD_set_ne _ _ _ _ oM,mix_getD _ _ i (i+1) hsl (by omega)] at hy
   have hx1:=hcu1.2 i (by simp;omega)
   rw [getD_set_eq _ _ _ hil] at hx1
   try refine RUN ?_
   apply EV.drawn 13 kR kR;intro xv yw
   (repeat (first | refine' DV ?_ | refine' DA ?_ | refine' DK0 ?_ | refine' DT ?_ | refine' DS ?_))
   refine' DJ.ofVal (ValOk.idxO tO rfl rfl rfl rfl rfl rfl rfl rfl (i) (rfl) (hlt)) rfl rfl rfl ?_;rotate_left
   refine' DJ.ofVal (ValOk.load1 tO rfl rfl rfl rfl rfl rfl (0) rfl (hx1)) rfl rfl rfl ?_;rotate_left
   (repeat (first | refine' DV ?_ | refine' DA ?_ | refine' DK0 ?_ | refine' DT ?_ | refine' DS ?_))
   refine' DJ.ofVal (ValOk.idxO tO rfl rfl rfl rfl rfl rfl rfl rfl (i+1) (wi_inc i oM) (hl1)) rfl rfl rfl ?_;rotate_left
   refine' DJ.ofVal (ValOk.load1 tO rfl rfl rfl rfl rfl rfl (0) rfl (hy)) rfl rfl rfl ?_;rotate_left
   (repeat (first | refine' DV ?_ | refine' DA ?_ | refine' DK0 ?_ | refine' DT ?_ | refine' DS ?_))
   refine' DJ.ofVal (ValOk.shl rfl rfl rfl rfl (by rw [IntKind.wrap_i64];omega)) rfl rfl rfl ?_;rotate_left
   (repeat (first | refine' DV ?_ | refine' DA ?_ | refine' DK0 ?_ | refine' DT ?_ | refine' DS ?_))
   (refine DJ.nil (fun G hG hF=>?_);(case hS|hS2=>rfl))
   try refine RUN ?_
   rw [show IntKind.i64.wrap (64-(p:Int))=((64-p:Nat):Int) by rw [IntKind.wrap_i64];omega,Int.toNat_natCast,show min (64-p) IntKind.u64.bits=64-p from Nat.min_eq_left (by show _≤64;omega)]
   refine EVL.idxO tO rfl rfl rfl rfl rfl rfl rfl rfl rfl rfl (i) (rfl) (hlt) ?_
   refine EVL.setO tO rfl rfl rfl rfl rfl rfl rfl ([]) rfl rfl rfl ((by rw [List.length_set];exact hb1)) ?_
   try refine RUN ?_
   have hw2:=(shr_word (d.getD i 0) (d.getD (i+1) 0) p hp64 hx).1
   have hcu2:=hcu1.set i (d.getD i 0 / 2 ^ p+d.getD (i+1) 0*2 ^ (64-p) % W64) (by simpa using hil)
   rw [List.set_set,List.set_set,hset] at hcu2
   refine ⟨(i+1,cu.set (off+q+i) (n64 (d.getD i 0 / 2 ^ p+d.getD (i+1) 0*2 ^ (64-p) % W64))),⟨rfl,rfl,rfl,?_,trivial⟩,trivial,?_,⟨by dsimp only;omega,hcu2⟩,hG,by dsimp only;omega⟩
   ·rw [wi_inc i (by omega)];rfl
   ·dsimp only
    refine (congrArg (fun c=>[(b,T,c)]) (List.set_set ..)).trans ?_
    exact congrArg (fun v=>[(b,T,cu.set (off+q+i) v)]) (congrArg (Value.int .u64) hw2)
  ·rw [lt_dec' _ _ hl1]
   try refine RUN ?_
   rw [show d.getD (i+1) 0=0 by simp [Nat.not_lt.1 hl1],Nat.zero_mul,Nat.zero_mod,Nat.add_zero] at hset
   rw [hset] at hcu1
   refine ⟨(i+1,cu.set (off+q+i) (n64 (d.getD i 0 / 2 ^ p))),⟨rfl,rfl,rfl,?_,trivial⟩,trivial,rfl,⟨by dsimp only;omega,hcu1⟩,Hp.Le.refl _,by dsimp only;omega⟩
   rw [wi_inc i (by omega)];rfl
 ·rw [lt_dec' _ _ hlt]
  obtain rfl:i=d.length:=by omega
  rw [List.take_of_length_le oM,List.drop_of_length_le (Nat.le_refl _),List.append_nil] at hcu
  have ht:=wtrim_pw (H:=G) (b:=b) (T:=T) (cap:=cap-q) hcu oM oM
  rw [hsl] at ht
  try refine RUN ?_
  refine EVL.callW rfl rfl rfl rfl rfl ([(b,T,cu)]) ([]) rfl (ht) ?_
  rintro v ow H2 ⟨rfl,rfl⟩ hle2
  try refine RUN ?_
  have htl:=trimL_length_le (shrL p d)
  refine ⟨cu,off+q,cap-q,trimL (shrL p d),z,rfl,?_,trimL_norm hsD,by omega,by omega,rfl,?_,?_⟩
  ·have:=hcu.take (trimL (shrL p d)).length
   rwa [trimL_take] at this
  ·rw [trimL_val,hvs,hv]
  ·rw [trimL_val,hvs,hm]
theorem wwords_pw (n:Nat) (hn:big n) (H:Hp):PW prog 205 #[natV n] H [] fun v ow _=>∃ g,v=.slice (some ⟨g,0,none⟩) (dig W64 n).length (dig W64 n).length∧ow=[(g,22,(dig W64 n).map n64)]:=by
 have hol:(octs n).length=(bl n+7) / 8:=by
  have:=dig_len_bits 8 n oM;rw [show (2:Nat) ^ 8=256 by decide] at this;rw [octs_length,this];omega
 have hwl:(dig W64 n).length=((octs n).length+7) / 8:=by
  have:=dig_len_bits 64 n oM
  rw [← W64_pow] at this
  rw [this,hol];omega
 have hD:=octs_dig n
 have hfin:pk 8 256 (octs n).reverse (dig W64 n).length=dig W64 n:=pk_octs n _ rfl (by rw [← octs_length];omega)
 have hb:=natBytes_pc n hn
 refine PW.body tO func205 rfl kR ntmps205 rfl rfl ?_
 try refine RUN ?_
 refine EVL.call rfl rfl rfl rfl rfl (hb _) ?_
 rintro v H1 hs hle
 generalize hm:(dig W64 n).length=m at *
 generalize dig W64 n=dn at *
 generalize octs n=l at *
 obtain ⟨a,cap,rfl⟩:=SlC.val hs
 try refine RUN ?_
 rw [show IntKind.i64.wrap ((l.length:Int)+7)=((l.length+7:Nat):Int) from wi_add _ 7 (by omega)]
 refine EVL.asI ((m:Int)) ((by rw [hwl];exact wi_quo _ 8 oM)) ?_
 refine EVL.make tO rfl rfl rfl rfl rfl rfl rfl rfl rfl (m) (rfl) oM (by rfl) (by rfl) fun g=>?_
 try refine RUN ?_
 have e0:(List.replicate m (Tryz.te22.zero)).flatten=(pk 8 256 (l.reverse.take 0) m).map n64:=by
  rw [List.take_zero,pk_nil,List.map_replicate];rw [show (Tryz.te22.zero)=[n64 0] from rfl];simp
 rw [e0]
 refine EV.loop (ι:=Nat) (fun i=>[(3,.v (.slice a l.length cap)),(4,.v (.slice (some ⟨g,0,none⟩) m m)),(14,.v (.int .i64 (l.length:Int))),(15,.v (.int .i64 (i:Int)))]) (fun _=>[]) (fun i=>[(g,22,(pk 8 256 (l.reverse.take i) m).map n64)])
  (fun i G=>i≤l.length∧SlN n8 G (.slice a l.length cap) l) (fun i=>l.length-i) 0 ⟨rfl,rfl,rfl,rfl,trivial⟩ trivial rfl (fun _=>rfl) ⟨Nat.zero_le _,hs⟩ ?_
 rintro i G hG ⟨hi,hs⟩
 try refine RUN ?_
 by_cases hlt:i<l.length
 ·have him:i / 8<m:=by omega
  have hrl:(l.reverse.take i).length=i:=by rw [List.length_take,List.length_reverse];omega
  have hx:l.getD (l.length-1-i) 0<256:=hD.getD (by decide) _
  have hxs:(l.map n8)[l.length-1-i]?=some (n8 (l.getD (l.length-1-i) 0)):=map_at oM
  have hcur:((pk 8 256 (l.reverse.take i) m).map n64)[i / 8]?=some (n64 ((pk 8 256 (l.reverse.take i) m).getD (i / 8) 0)):=map_at (by rw [pk_length];exact him)
  have hlow:=pk_low (K:=8) (B:=256) (by decide) ((hD.rev).take i) m (by rw [hrl];omega)
  rw [hrl] at hlow
  have hsn:=pk_snoc (K:=8) (B:=256) (l:=l.reverse.take i) (by decide) m (l.getD (l.length-1-i) 0) (by rw [hrl];omega)
  rw [hrl] at hsn
  rw [lt_dec _ _ hlt]
  try refine RUN ?_
  apply EV.drawn 18 kR kR;intro xv yw
  (repeat (first | refine' DV ?_ | refine' DA ?_ | refine' DK0 ?_ | refine' DT ?_ | refine' DS ?_))
  refine' DJ.ofVal (ValOk.idxP1 tO rfl rfl rfl rfl rfl rfl rfl rfl (i / 8) (q8 i oM) him) rfl rfl rfl ?_;rotate_left
  refine' DJ.ofVal (ValOk.load1 tO rfl rfl rfl rfl rfl rfl (0) rfl (hcur)) rfl rfl rfl ?_;rotate_left
  (repeat (first | refine' DV ?_ | refine' DA ?_ | refine' DK0 ?_ | refine' DT ?_ | refine' DS ?_))
  refine' DJ.ofVal (ValOk.idx1 tO rfl rfl rfl rfl rfl rfl rfl rfl (hs) (l.length-1-i) (back _ _ hlt oM) oM (hxs)) rfl rfl rfl ?_;rotate_left
  (repeat (first | refine' DV ?_ | refine' DA ?_ | refine' DK0 ?_ | refine' DT ?_ | refine' DS ?_))
  refine' DJ.ofVal (ValOk.shl rfl rfl rfl rfl (by rw [r8];omega)) rfl rfl rfl ?_;rotate_left
  (refine DJ.nil (fun G hG hF=>?_);(case hS|hS2=>rfl))
  rw [r8,Int.toNat_natCast]
  try refine RUN ?_
  rw [byte_or _ _ _ (by rw [Nat.pow_mul];exact hlow) hx (by omega)]
  refine EVL.idx0 tO rfl rfl rfl rfl rfl rfl rfl rfl rfl rfl (i / 8) (q8 i oM) (him) ?_
  refine EVL.setO tO rfl rfl rfl rfl rfl rfl rfl ([]) rfl rfl rfl ((by rw [List.length_map,pk_length];exact him)) ?_
  try refine RUN ?_
  have hnext:l.reverse.take (i+1)=l.reverse.take i++[l.getD (l.length-1-i) 0]:=by
   rw [List.take_succ_eq_append_getElem (by rw [List.length_reverse];exact hlt),List.getElem_reverse,List.getD_eq_getElem?_getD,List.getElem?_eq_getElem (show l.length-1-i<l.length by omega)];rfl
  refine ⟨i+1,⟨rfl,rfl,rfl,?_,trivial⟩,trivial,?_,⟨by omega,hs.mono hG⟩,hG,by omega⟩
  ·rw [wi_inc i (by omega)];rfl
  ·rw [hnext,hsn,List.map_set,show (256:Nat) ^ (i % 8)=2 ^ (8*(i % 8)) by rw [Nat.pow_mul]];rfl
 ·rw [lt_dec' _ _ hlt]
  obtain rfl:i=l.length:=by omega
  rw [List.take_of_length_le (by rw [List.length_reverse];exact Nat.le_refl _),hfin]
  try refine RUN ?_
  exact ⟨g,rfl,rfl⟩
theorem wnumber_pw {H:Hp} {b off cap:Nat} {T:TypeId} {cs:List Value} {l:List Nat} (hw:Wn cs off l) (hl:Dig W64 l) (hll:l.length≤20000000) :
  PW prog 210 #[.slice (some ⟨b,off,none⟩) l.length cap] H [(b,T,cs)] fun v ow _=>ow=[(b,T,cs)]∧v=natV (val W64 l):=by
 refine PW.body tO func210 rfl kR ntmps210 rfl rfl ?_
 try refine RUN ?_
 rw [show IntKind.i64.wrap (8*(l.length:Int))=((8*l.length:Nat):Int) from wi_mul 8 l.length (by omega)]
 generalize hN:8*l.length=N at *
 refine EVL.make tO rfl rfl rfl rfl rfl rfl rfl rfl rfl (N) (rfl) oM (by rfl) (by rfl) fun g=>?_
 refine EVL.apart fun hdist=>?_
 have hgb:b≠g:=fun e=>by
  subst e
  have:=hdist 0 1 b _ _ _ _ rfl rfl
  cases this
 try refine RUN ?_
 have e0:(List.replicate N (Tryz.te5.zero)).flatten=(List.replicate N 0).map n8:=by
  rw [List.map_replicate,show (Tryz.te5.zero)=[n8 0] from rfl];simp
 rw [e0]
 refine EV.loop (ι:=Nat × List Nat) (fun q=>[(2,.p 2 0),(0,.v (.slice (some ⟨b,off,none⟩) l.length cap)),(3,.v (.slice (some ⟨g,0,none⟩) N N)),(10,.v (.int .i64 (N:Int))),(11,.v (.int .i64 (q.1:Int)))]) (fun _=>[(2,59,Tryz.te59.zero)]) (fun q=>[(g,5,q.2.map n8),(b,T,cs)])
  (fun q _=>q.1≤N∧q.2.length=N∧Dig 256 q.2∧∀ j,j<q.1→q.2.getD (N-1-j) 0=val W64 l / 256 ^ j % 256) (fun q=>N-q.1) (0,List.replicate N 0) ⟨rfl,rfl,rfl,rfl,rfl,trivial⟩ ⟨rfl,trivial⟩ rfl (fun _=>rfl) ⟨Nat.zero_le _,by simp,Dig.zeros (by decide) _,fun j hj=>absurd hj (Nat.not_lt_zero _)⟩ ?_
 rintro ⟨i,cur⟩ G hG ⟨hi,hlen,hcD,hcs⟩
 dsimp only at hi hlen hcs hcD
 try refine RUN ?_
 by_cases hlt:i<N
 ·have hwl:i / 8<l.length:=by omega
  have hsub:=val_subdigit (C:=256) (k:=8) (by decide) (by decide) (l:=l) (by rw [← W64_256];exact hl) i
  rw [← W64_256,show (256:Nat) ^ (i % 8)=2 ^ (8*(i % 8)) by rw [Nat.pow_mul]] at hsub
  have hwd:=hl.getD (by decide) (i / 8)
  rw [lt_dec _ _ hlt]
  try refine RUN ?_
  rw [back N i hlt (by omega)]
  refine EVL.asI (((i / 8:Nat):Int)) (q8 i oM) ?_
  refine EVL.idxO tO rfl rfl rfl rfl rfl rfl rfl rfl rfl rfl (i / 8) (rfl) (hwl) ?_
  refine EVL.load1 tO rfl rfl rfl rfl rfl rfl rfl rfl (1) rfl (hw.2 (i / 8) hwl) ?_
  try refine RUN ?_
  rw [r8]
  try refine RUN ?_
  rw [sub_byte _ _ hwd oM,hsub]
  refine EVL.idx0 tO rfl rfl rfl rfl rfl rfl rfl rfl rfl rfl (N-1-i) (rfl) oM ?_
  refine EVL.setO tO rfl rfl rfl rfl rfl rfl rfl ([]) rfl rfl rfl ((by rw [List.length_map,hlen];omega)) ?_
  try refine RUN ?_
  refine ⟨(i+1,cur.set (N-1-i) (val W64 l / 256 ^ i % 256)),⟨rfl,rfl,rfl,rfl,?_,trivial⟩,⟨rfl,trivial⟩,?_,⟨by dsimp only;omega,by dsimp only;rw [List.length_set];exact hlen,hcD.set _ _ (Nat.mod_lt _ (by decide)),fun j hj=>?_⟩,Hp.Le.refl _,by dsimp only;omega⟩
  ·rw [wi_inc i (by omega)];rfl
  ·dsimp only
   rw [List.map_set];rfl
  ·dsimp only at hj ⊢
   by_cases e:j=i
   ·subst e
    exact getD_set_eq _ _ _ oM
   ·rw [getD_set_ne _ _ _ _ (by omega)]
    exact hcs j oM
 ·rw [lt_dec' _ _ hlt]
  obtain rfl:i=N:=by omega
  have hlv:=val_lt hl
  have hb:=bytes_back (val W64 l) i cur (by rw [← hN,Nat.pow_mul,← W64_256];exact hlv) hlen hcs
  try refine RUN ?_
  refine EVL.publish [] [(b,T,cs)] rfl (fun G2 hG2 hg=>?_) (fun k hk=>by
   obtain rfl:k=b:=by simpa [Ows.bs] using hk
   exact hgb)
  have hsl:SlN n8 G2 (.slice (some ⟨g,0,none⟩) i i) cur:=by
   unfold SlN
   rw [hlen]
   exact ⟨by simp [hlen],.inr ⟨g,0,i,_,rfl,Nat.le_refl _,hg,fun j x hj=>by simpa using hj⟩⟩
  have hf:=natFromBytes_pc hsl hcD oM
  rw [hb] at hf
  refine EVL.call rfl rfl rfl rfl rfl (hf) ?_
  rintro v H2 rfl hle
  try refine RUN ?_
  exact ⟨rfl,rfl⟩
structure OW (b off cap:Nat) (cs:List Value) (l:List Nat):Prop where
 at_:Wn cs off l
 norm:Norm W64 l
 cap:l.length≤cap
 len:l.length≤20000000
 odd:val W64 l % 2=1
structure BSt where
 (bv ov cv:Nat) (lv:List Nat) (sv:List Value)
 (bw ow cw:Nat) (lw:List Nat) (sw:List Value)
def BSt.env (q:BSt) (t:Int):Env:=[(4,.p 4 0),(5,.v (.slice (some ⟨q.bv,q.ov,none⟩) q.lv.length q.cv)),(6,.v (.slice (some ⟨q.bw,q.ow,none⟩) q.lw.length q.cw)),(7,.v (.int .i64 t))]
def BSt.own (q:BSt):Ows:=[(q.bv,22,q.sv),(q.bw,22,q.sw)]
structure BSt.ok (q:BSt) (g:Nat):Prop where
 v:OW q.bv q.ov q.cv q.sv q.lv
 w:OW q.bw q.ow q.cw q.sw q.lw
 gcd:Nat.gcd (val W64 q.lv) (val W64 q.lw)=g
theorem odd_pos {n:Nat} (h:n % 2=1):n≠0:=by omega
theorem two_swap {α:Type} (a b:α):List.Perm [a,b] [b,a]:=List.Perm.swap b a []
theorem ordN_zero {a b:Nat} (h:ordN a b=0):a=b:=by
 unfold ordN at h;split at h
 ·cases h
 ·split at h
  ·cases h
  ·omega
theorem natV_cells (n:Nat):natV n=.agg #[.int .u64 (lo n:Int),.string (moreB n)]:=rfl
theorem wbinary_pv (x y:Nat) (hx:x≠0) (hy:y≠0) (hbx':big x) (hby':big y):PV prog 157 #[natV x,natV y] (natV (Nat.gcd x y)):=by
 have lx:(dig W64 x).length≤20000000:=Nat.le_trans (dig_len_big hbx') (by decide)
 have ly:(dig W64 y).length≤20000000:=Nat.le_trans (dig_len_big hby') (by decide)
 have hpx:=fun G=>PO.of_pw ((wwords_pw x hbx' G).mono (Ψ:=fun v ow _=>ow.length≤1∧∃ g,v=.slice (some ⟨g,0,none⟩) (dig W64 x).length (dig W64 x).length∧ow=[(g,22,(dig W64 x).map n64)]) fun v ow H' _ ⟨g,h1,h2⟩=>⟨by rw [h2];simp,g,h1,h2⟩)
 have hpy:=fun G=>PO.of_pw ((wwords_pw y hby' G).mono (Ψ:=fun v ow _=>ow.length≤1∧∃ g,v=.slice (some ⟨g,0,none⟩) (dig W64 y).length (dig W64 y).length∧ow=[(g,22,(dig W64 y).map n64)]) fun v ow H' _ ⟨g,h1,h2⟩=>⟨by rw [h2];simp,g,h1,h2⟩)
 have dx:=dig_norm W64_two x
 have dy:=dig_norm W64_two y
 have vx:=dig_val W64_two x
 have vy:=dig_val W64_two y
 generalize dig W64 x=dgx at *
 generalize dig W64 y=dgy at *
 have hvx0:val W64 dgx≠0:=by rw [vx];exact hx
 have hvy0:val W64 dgy≠0:=by rw [vy];exact hy
 refine PV.of_pc ?_
 refine BD func157 ntmps157 ?_
 try refine RUN ?_
 apply EV.drawn 6 kR kR;intro x1 y1
 (repeat (first | refine' DV ?_ | refine' DA ?_ | refine' DK0 ?_ | refine' DT ?_ | refine' DS ?_))
 refine' DJ.callO rfl rfl rfl rfl rfl (hpx gH).can (fun G _ _=>hpx G) ?_;rotate_left
 (repeat (first | refine' DV ?_ | refine' DA ?_ | refine' DK0 ?_ | refine' DT ?_ | refine' DS ?_))
 refine' DJ.callO rfl rfl rfl rfl rfl (hpy gH).can (fun G _ _=>hpy G) ?_;rotate_left
 refine' DJ.copy (0+1) (.inr rfl) rfl rfl rfl id rfl kR ?_;rotate_left
 refine' DJ.copy (0+1+1+1) (.inr rfl) rfl rfl rfl id rfl kR ?_;rotate_left
 (refine DJ.nil (fun G hG hF=>?_);(case hS|hS2=>rfl))
 obtain ⟨⟨gy,ey,oy⟩,⟨gx,ex,ox⟩,_⟩:=hF
 simp only [ex,ey,ox,oy,id]
 clear hpx hpy ex ey ox oy
 try refine RUN ?_
 refine EVL.permOw [(gx,22,dgx.map n64),(gy,22,dgy.map n64)] (two_swap _ _) ?_
 refine EVL.callW rfl rfl rfl rfl rfl ([(gx,22,dgx.map n64)]) ([(gy,22,dgy.map n64)]) rfl (wzeros_pw (Wn.of dgx) dx.1 oM hvx0) ?_
 rintro v ow H1 ⟨rfl,zx,mx,rfl,hzx,hmx,hzx2⟩ hle1
 try refine RUN ?_
 refine EVL.permOw [(gy,22,dgy.map n64),(gx,22,dgx.map n64)] (two_swap _ _) ?_
 refine EVL.callW rfl rfl rfl rfl rfl ([(gy,22,dgy.map n64)]) ([(gx,22,dgx.map n64)]) rfl (wzeros_pw (Wn.of dgy) dy.1 oM hvy0) ?_
 rintro v ow H2 ⟨rfl,zy,my,rfl,hzy,hmy,hzy2⟩ hle2
 try refine RUN ?_
 rw [show (if (zy:Int)<(zx:Int) then (zy:Int) else (zx:Int))=((min zx zy:Nat):Int) by split <;> omega]
 try refine RUN ?_
 refine EVL.permOw [(gx,22,dgx.map n64),(gy,22,dgy.map n64)] (two_swap _ _) ?_
 refine EVL.callW rfl rfl rfl rfl rfl ([(gx,22,dgx.map n64)]) ([(gy,22,dgy.map n64)]) rfl (wdown_pw (Wn.of dgx) dx.1 oM (Nat.le_refl _) hvx0) ?_
 rintro v ow H3 ⟨sx,ox,cx,rx,zx',rfl,hwx,hnx,hlx,hcx,rfl,hdx,hox⟩ hle3
 try refine RUN ?_
 refine EVL.permOw [(gy,22,dgy.map n64),(gx,22,sx)] (two_swap _ _) ?_
 refine EVL.callW rfl rfl rfl rfl rfl ([(gy,22,dgy.map n64)]) ([(gx,22,sx)]) rfl (wdown_pw (Wn.of dgy) dy.1 oM (Nat.le_refl _) hvy0) ?_
 rintro v ow H4 ⟨sy,oy,cy,ry,zy',rfl,hwy,hny,hly,hcy,rfl,hdy,hoy⟩ hle4
 refine EVL.permOw [(gx,22,sx),(gy,22,sy)] (two_swap _ _) ?_
 have hgcd:Nat.gcd x y=2 ^ min zx zy*Nat.gcd (val W64 rx) (val W64 ry):=by
  have e1:zx=zx':=odd_part (by rw [← hzx,hdx]) hmx hox
  have e2:zy=zy':=odd_part (by rw [← hzy,hdy]) hmy hoy
  subst e1 e2
  rw [← vx,← vy]
  exact gcd_binary _ _ zx zy _ _ hdx hdy hox hoy
 have htw:min zx zy≤1300000000:=by omega
 generalize min zx zy=tw at *
 generalize hg:Nat.gcd (val W64 rx) (val W64 ry)=g at *
 have hbg:big (Nat.gcd x y):=Nat.le_trans (bl_gcd_left x y hx) hbx'
 generalize Nat.gcd x y=gg at *
 try refine RUN ?_
 refine EV.loop (ι:=BSt) (fun q=>q.env (tw:Int)) (fun _=>[(4,59,Tryz.te59.zero)]) (fun q=>q.own) (fun q _=>q.ok g) (fun q=>val W64 q.lv+val W64 q.lw) ⟨gx,ox,cx,rx,sx,gy,oy,cy,ry,sy⟩
  ⟨rfl,rfl,rfl,rfl,trivial⟩ ⟨rfl,trivial⟩ rfl (fun _=>rfl) ⟨⟨hwx,hnx,hcx,Nat.le_trans hlx lx,hox⟩,⟨hwy,hny,hcy,Nat.le_trans hly ly,hoy⟩,hg⟩ ?_
 clear hdx hdy hzx hzy hwx hnx hlx hcx hwy hny hly hcy hox hoy hle1 hle2 hle3 hle4 hg
 rintro ⟨bv,ov,cv,lv,sv,bw,ow,cw,lw,sw⟩ G hG ⟨⟨v1,v2,v3,v4,v5⟩,⟨w1,w2,w3,w4,w5⟩,hgq⟩
 dsimp only at v1 v2 v3 v4 v5 w1 w2 w3 w4 w5 hgq
 unfold BSt.env BSt.own
 dsimp only
 try refine RUN ?_
 refine EVL.callW rfl rfl rfl rfl rfl ([(bv,22,sv),(bw,22,sw)]) ([]) rfl (wcompare_pw v1 w1 v2 w2 oM) ?_
 rintro v ow1 H5 ⟨rfl,rfl⟩ hle5
 try refine RUN ?_
 by_cases hc0:ordN (val W64 lv) (val W64 lw)=0
 ·rw [show (ordN (val W64 lv) (val W64 lw) == 0)=true by rw [hc0];rfl]
  have hvw:=ordN_zero hc0
  rw [← hvw,Nat.gcd_self] at hgq
  try refine RUN ?_
  refine EVL.callW rfl rfl rfl rfl rfl ([(bv,22,sv)]) ([(bw,22,sw)]) rfl (wnumber_pw v1 v2.1 v4) ?_
  rintro v ow2 H6 ⟨rfl,rfl⟩ hle6
  rw [hgq,natV_cells]
  try refine RUN ?_
  refine EV.loop (ι:=Int × Nat) (fun q=>[(4,.p 4 0),(9,.p 9 0),(7,.v (.int .i64 q.1))]) (fun q=>[(9,59,[.int .u64 (lo q.2:Int),.string (moreB q.2)]),(4,59,Tryz.te59.zero)]) (fun _=>[(bv,22,sv),(bw,22,sw)])
   (fun q _=>q.2*2 ^ q.1.toNat=gg∧q.1≤1300000000 ∧ -100000≤q.1) (fun q=>q.1.toNat) ((tw:Int),g) ⟨rfl,rfl,rfl,trivial⟩ ⟨rfl,rfl,trivial⟩ rfl (fun _=>rfl) ⟨by dsimp only;rw [Int.toNat_natCast,hgcd,Nat.mul_comm],by dsimp only;omega,by dsimp only;omega⟩ ?_
  rintro ⟨t,o⟩ G2 hG2 ⟨ht,ht1,ht2⟩
  dsimp only at ht ht1 ht2
  try refine RUN ?_
  by_cases htp:t>0
  ·rw [show decide (t>0)=true by simpa using htp]
   obtain ⟨k,hk,hkt⟩:∃ k:Nat,(if (65536:Int)<t then (65536:Int) else t)=(k:Int)∧k=min t.toNat 65536:=⟨min t.toNat 65536,by split <;> omega,rfl⟩
   have hbo:big o:=by
    refine Nat.le_trans (bl_mono ?_) hbg
    rw [← ht];exact Nat.le_mul_of_pos_right _ (Nat.pow_pos (by decide))
   have hsh:=natShift_up o k oM hbo
   try refine RUN ?_
   rw [hk]
   repeat (first | refine RUN ?_ | refine CV (hsh) ?_ | refine CE (hsh) ?_)
   refine ⟨(t-65536,o*2 ^ k),⟨rfl,rfl,?_,trivial⟩,⟨rfl,rfl,trivial⟩,rfl,⟨?_,by dsimp only;omega,by dsimp only;omega⟩,Hp.Le.refl _,by dsimp only;omega⟩
   ·rw [show IntKind.i64.wrap (t-65536)=t-65536 by rw [IntKind.wrap_i64];omega];rfl
   ·dsimp only
    rw [← ht,Nat.mul_assoc,← Nat.pow_add]
    congr 2
    omega
  ·rw [show decide (t>0)=false by simpa using htp]
   rw [show t.toNat=0 by omega,Nat.pow_zero,Nat.mul_one] at ht
   subst ht
   try refine RUN ?_
   rfl
 ·rw [show (ordN (val W64 lv) (val W64 lw) == 0)=false by simpa using hc0]
  try refine RUN ?_
  refine EV.meet (fun env' bx' H'=>∃ q:BSt,SubL env' (q.env (tw:Int))∧SubX bx' [(4,59,Tryz.te59.zero)]∧H'.ow=q.own∧G.Le H'.ro∧q.ok g∧val W64 q.lw<val W64 q.lv∧val W64 q.lv+val W64 q.lw=val W64 lv+val W64 lw) ?_ ?_
  ·rintro env' bx' ⟨G6,ow6,base6⟩ _ ⟨⟨bv,ov,cv,lv,sv,bw,ow,cw,lw,sw⟩,he,hbx6,how,hleG,⟨⟨v1,v2,v3,v4,v5⟩,⟨w1,w2,w3,w4,w5⟩,hgq⟩,hlt,hsum⟩
   dsimp only at v1 v2 v3 v4 v5 w1 w2 w3 w4 w5 hgq hlt hsum
   refine EV.less _ _ he hbx6 rfl ?_
   unfold BSt.own at how
   dsimp only at how
   subst how
   unfold BSt.env
   dsimp only
   have hlen:lw.length≤lv.length:=by
    refine Nat.le_of_not_lt fun h=>?_
    have:=len_less W64_two v2.1 w2 h
    omega
   try refine RUN ?_
   refine EVL.callW rfl rfl rfl rfl rfl ([(bv,22,sv),(bw,22,sw)]) ([]) rfl (wsubtract_pw v1 w1 v2.1 w2.1 oM hlen v3 oM) ?_
   rintro v ow7 H7 ⟨s7,r7,rfl,hw7,hn7,hl7,rfl,hv7⟩ hle7
   try refine RUN ?_
   refine EVL.callW rfl rfl rfl rfl rfl ([(bv,22,s7)]) ([(bw,22,sw)]) rfl (wdown_pw hw7 hn7.1 oM oM oM) ?_
   rintro v ow8 H8 ⟨s8,o8,c8,r8,z8,rfl,hw8,hn8,hl8,hc8,rfl,hd8,ho8⟩ hle8
   try refine RUN ?_
   have hr:=gcd_round (val W64 lv) (val W64 lw) z8 (val W64 r8) w5 oM (by rw [← hv7];exact hd8)
   have hle9:val W64 r8≤val W64 r7:=by rw [hd8];exact Nat.le_mul_of_pos_left _ (Nat.pow_pos (by decide))
   refine ⟨⟨bv,o8,c8,r8,s8,bw,ow,cw,lw,sw⟩,⟨rfl,rfl,rfl,rfl,trivial⟩,⟨rfl,trivial⟩,rfl,⟨⟨hw8,hn8,hc8,by dsimp only;omega,ho8⟩,⟨w1,w2,w3,w4,w5⟩,by dsimp only;rw [hr];exact hgq⟩,(hleG.trans hle7).trans hle8,?_⟩
   dsimp only
   have:=odd_pos w5
   omega
  ·by_cases hlt:ordN (val W64 lv) (val W64 lw)<0
   ·rw [show decide (ordN (val W64 lv) (val W64 lw)<0)=true by simpa using hlt]
    have hvl:val W64 lv<val W64 lw:=by
     unfold ordN at hlt
     split at hlt
     ·assumption
     ·split at hlt <;> simp at hlt
    refine EV.permOw [(bw,22,sw),(bv,22,sv)] (two_swap _ _) ?_
    try refine RUN ?_
    exact ⟨⟨bw,ow,cw,lw,sw,bv,ov,cv,lv,sv⟩,⟨rfl,rfl,rfl,rfl,trivial⟩,⟨rfl,trivial⟩,rfl,hle5,⟨⟨w1,w2,w3,w4,w5⟩,⟨v1,v2,v3,v4,v5⟩,by dsimp only;rw [Nat.gcd_comm];exact hgq⟩,hvl,Nat.add_comm _ _⟩
   ·rw [show decide (ordN (val W64 lv) (val W64 lw)<0)=false by simpa using hlt]
    have hvl:val W64 lw<val W64 lv:=by
     unfold ordN at hlt hc0
     split at hlt
     ·simp at hlt
     ·rename_i h1
      rw [if_neg h1] at hc0
      split at hc0
      ·assumption
      ·simp at hc0
    try refine RUN ?_
    exact ⟨⟨bv,ov,cv,lv,sv,bw,ow,cw,lw,sw⟩,⟨rfl,rfl,rfl,rfl,trivial⟩,⟨rfl,trivial⟩,rfl,hle5,⟨⟨v1,v2,v3,v4,v5⟩,⟨w1,w2,w3,w4,w5⟩,hgq⟩,hvl,rfl⟩
theorem gcdN_pv (c1 c2:Nat) (h1:big c1) (h2:big c2) (sx sy:Bool) (hsx:c1=0→sx=false) (hsy:c2=0→sy=false) :
  PV prog 118 #[.agg #[.bool sx,.int .u64 (lo c1:Int),.string (moreB c1)],.agg #[.bool sy,.int .u64 (lo c2:Int),.string (moreB c2)]] (natV (Nat.gcd c1 c2)):=by
 refine PV.of_pc ?_
 refine BD func118 ntmps118 ?_
 try refine RUN ?_
 (apply EV.drawn 7 kR kR;intro xv yw;(repeat (first | refine' DV ?_ | refine' DA ?_ | refine' DK0 ?_ | refine' DS ?_));refine DJ.nil (fun G hG hF=>?_);(case hS|hS2=>rfl))
 repeat (first | refine RUN ?_ | refine CV (natCmp_pv c1 c2 h1 h2) ?_ | refine CE (natCmp_pv c1 c2 h1 h2) ?_)
 refine EV.meet (fun env' bx' H'=>∃ u w:Nat,SubL env' [(4,.p 4 0),(5,.p 5 0),(6,.p 6 0)]∧SubX bx' [(4,59,Tryz.te59.zero),(5,59,[.int .u64 (lo u:Int),.string (moreB u)]),(6,59,[.int .u64 (lo w:Int),.string (moreB w)])]∧H'.ow=[]∧w≤u∧big u∧big w∧Nat.gcd u w=Nat.gcd c1 c2) ?_ ?_
 ·rintro env' bx' ⟨G1,ow1,base1⟩ hb ⟨u,w,he,hbx,how,hwu,hu,hw,hg⟩
  obtain rfl:base1=⟨fun _=>none,[]⟩:=hb
  obtain rfl:ow1=[]:=how
  refine EV.less _ _ he hbx rfl ?_
  clear h1 h2 hsx hsy hbx he
  generalize Nat.gcd c1 c2=gg at *
  subst hg
  repeat (first | refine RUN ?_ | refine CV (bits_pv w hw) ?_ | refine CE (bits_pv w hw) ?_)
  rw [bl_zero_iff]
  by_cases hw0:w=0
  ·subst hw0
   rw [decide_eq_true rfl,Nat.gcd_zero_right]
   try refine RUN ?_
   rfl
  ·rw [decide_eq_false hw0]
   repeat (first | refine RUN ?_ | refine CV (natDiv_pv u w hw0 hu hw) ?_ | refine CE (natDiv_pv u w hw0 hu hw) ?_)
   have hm:u % w<w:=Nat.mod_lt _ oM
   have hgr:Nat.gcd u w=Nat.gcd w (u % w):=by rw [Nat.gcd_comm,Nat.gcd_rec,Nat.gcd_comm]
   have hbm:big (u % w):=Nat.le_trans (bl_mod u w) hu
   rw [hgr]
   generalize u % w=r at *
   generalize u / w=qq at *
   clear hgr hwu hu
   rw [natV_cells,natV_cells]
   try refine RUN ?_
   refine EV.less [(4,.p 4 0),(5,.p 5 0),(6,.p 6 0),(8,.p 8 0)] ([(5,59,[.int .u64 (lo u:Int),.string (moreB u)]),(4,59,Tryz.te59.zero),(6,59,[.int .u64 (lo w:Int),.string (moreB w)]),(8,59,[.int .u64 (lo r:Int),.string (moreB r)])]) ⟨rfl,rfl,rfl,rfl,trivial⟩ ⟨rfl,rfl,rfl,rfl,trivial⟩ rfl ?_
   apply EV.drawnS ([(5,59,[.int .u64 (lo u:Int),.string (moreB u)])]) 3 kR kR;intro xv yw
   (repeat (first | refine' DV ?_ | refine' DA ?_ | refine' DK0 ?_ | refine' DT ?_ | refine' DS ?_))
   (refine DJ.nil (fun G hG hF=>?_);(case hS|hS2=>rfl);(case hD=>rfl))
   repeat (first | refine RUN ?_ | refine CV (bits_pv r hbm) ?_ | refine CE (bits_pv r hbm) ?_)
   rw [bl_zero_iff]
   by_cases hr0:r=0
   ·subst hr0
    rw [decide_eq_true rfl,Nat.gcd_zero_right]
    try refine RUN ?_
    rfl
   ·rw [decide_eq_false hr0]
    repeat (first | refine RUN ?_ | refine CV (natSmall_pv w) ?_ | refine CE (natSmall_pv w) ?_)
    by_cases hws:w<W64
    ·have hrs:r<W64:=by omega
     rw [decide_eq_true hws,if_pos hws]
     repeat (first | refine RUN ?_ | refine CV (natSmall_pv r) ?_ | refine CE (natSmall_pv r) ?_)
     rw [decide_eq_true hrs,if_pos hrs]
     try refine RUN ?_
     refine EV.loop (ι:=Nat × Nat) (fun q=>[(4,.p 4 0),(10,.v (n64 q.1)),(12,.v (n64 q.2))]) (fun _=>[(4,59,Tryz.te59.zero)]) (fun _=>[]) (fun q _=>q.1<W64∧q.2<W64∧Nat.gcd q.1 q.2=Nat.gcd w r) (fun q=>q.2) (w,r) ⟨rfl,rfl,rfl,trivial⟩ ⟨rfl,trivial⟩ rfl (fun _=>rfl) ⟨hws,hrs,rfl⟩ ?_
     rintro ⟨m,k⟩ G2 hG2 ⟨hms,hks,hgk⟩
     dsimp only at hms hks hgk
     try refine RUN ?_
     by_cases hk0:k=0
     ·subst hk0
      rw [show decide ((((m,0):Nat × Nat).2:Int)>0)=false from rfl]
      rw [Nat.gcd_zero_right] at hgk
      repeat (first | refine RUN ?_ | refine CV (natOf_pv m hms) ?_ | refine CE (natOf_pv m hms) ?_)
      rw [hgk]
     ·rw [show decide ((((m,k):Nat × Nat).2:Int)>0)=true by simp;omega]
      try refine RUN ?_
      apply EV.drawn 6 kR kR;intro xv yw
      (repeat (first | refine' DV ?_ | refine' DA ?_ | refine' DK0 ?_ | refine' DT ?_ | refine' DS ?_))
      refine' DJ.ofVal (ValOk.rem rfl rfl rfl rfl (show ((k:Nat):Int)≠0 by omega)) rfl rfl rfl ?_;rotate_left
      (repeat (first | refine' DV ?_ | refine' DA ?_ | refine' DK0 ?_ | refine' DT ?_ | refine' DS ?_))
      (refine DJ.nil (fun G hG hF=>?_);(case hS|hS2=>rfl))
      rw [show (((m,k):Nat × Nat).1:Int).tmod (((m,k):Nat × Nat).2:Int)=((m % k:Nat):Int) from wi_rem m k]
      try refine RUN ?_
      refine ⟨(k,m % k),⟨rfl,rfl,rfl,trivial⟩,⟨rfl,trivial⟩,rfl,⟨hks,Nat.lt_of_le_of_lt (Nat.mod_le m k) hms,?_⟩,hG,Nat.mod_lt _ oM⟩
      ·dsimp only
       rw [← hgk,Nat.gcd_comm m k,Nat.gcd_rec k m,Nat.gcd_comm]
    ·rw [decide_eq_false hws]
     repeat (first | refine RUN ?_ | refine CV (wbinary_pv w r hw0 hr0 hw hbm) ?_ | refine CE (wbinary_pv w r hw0 hr0 hw hbm) ?_)
     rfl
 ·by_cases hlt:c1<c2
  ·rw [ordN_lt hlt,show decide ((-1:Int)<0)=true from rfl]
   try refine RUN ?_
   exact ⟨c2,c1,⟨rfl,rfl,rfl,trivial⟩,⟨rfl,rfl,rfl,trivial⟩,rfl,by omega,h2,h1,Nat.gcd_comm _ _⟩
  ·rw [show decide (ordN c1 c2<0)=false by unfold ordN;rw [if_neg hlt];split <;> rfl]
   try refine RUN ?_
   exact ⟨c1,c2,⟨rfl,rfl,rfl,trivial⟩,⟨rfl,rfl,rfl,trivial⟩,rfl,by omega,h1,h2,rfl⟩
theorem gcd_pv (a b:Int) (ha:bigI a) (hb:bigI b):PV prog 118 #[intV a,intV b] (natV (Nat.gcd a.natAbs b.natAbs)) :=
 gcdN_pv a.natAbs b.natAbs ha hb _ _ (fun h=>by simp;omega) (fun h=>by simp;omega)
abbrev frV (n:Int) (d:Nat):Value:=.agg #[.bool (decide (n<0)),.int .u64 (lo n.natAbs:Int),.string (moreB n.natAbs),.int .u64 (lo d:Int),.string (moreB d)]
def dk (d:Nat):Nat:=if d=1 then 0 else d
abbrev fracV (q:Rat):Value:=frV q.num (dk q.den)
theorem dk_one:dk 1=0:=rfl
theorem dk_ne {d:Nat} (h:d≠1):dk d=d:=if_neg h
theorem dk_bl (d:Nat):bl (dk d)≤bl d:=by
 unfold dk;split
 ·rw [bl_zero];omega
 ·exact Nat.le_refl _
theorem dk_zero (q:Rat):dk q.den=0↔q.den=1:=by
 have:=q.den_nz
 unfold dk;split <;> omega
theorem bl_one:bl 1=1:=by have:=bl_pow2 0;simpa using this
theorem bl_eq_one {n:Nat}:bl n=1↔n=1:=by
 constructor
 ·intro h
  have h1:=lt_bl n
  rw [h] at h1
  have:n≠0:=fun e=>by rw [e,bl_zero] at h;omega
  omega
 ·rintro rfl;exact bl_one
theorem beq_bl_one (n:Nat):(((bl n:Nat):Int) == 1)=decide (n=1):=by
 by_cases h:n=1
 ·rw [decide_eq_true h,bl_eq_one.2 h];rfl
 ·rw [decide_eq_false h]
  have:bl n≠1:=fun e=>h (bl_eq_one.1 e)
  simp;omega
theorem frV_zero (n:Int):frV n 0=.agg #[.bool (decide (n<0)),.int .u64 (lo n.natAbs:Int),.string (moreB n.natAbs),.int .u64 0,.string ⟨#[]⟩]:=by
 unfold frV
 rw [moreB_empty (n:=0) (by decide)];rfl
theorem pack_pv (n:Int) (d:Nat) (hd:big d):PV prog 120 #[intV n,natV d] (frV n (dk d)):=by
 refine PV.of_pc ?_
 refine BD func120 ntmps120 ?_
 repeat (first | refine RUN ?_ | refine CV (bits_pv d hd) ?_ | refine CE (bits_pv d hd) ?_)
 rw [beq_bl_one]
 by_cases h:d=1
 ·rw [decide_eq_true h]
  try refine RUN ?_
  rw [h,dk_one,frV_zero]
 ·rw [decide_eq_false h]
  try refine RUN ?_
  rw [dk_ne h]
theorem over_pv (a b:Nat) (ha:big a) (hb:big b) (h0:b≠0):PV prog 119 #[natV a,natV b] (natV (a / b)):=by
 refine PV.of_pc ?_
 refine BD func119 ntmps119 ?_
 repeat (first | refine RUN ?_ | refine CV (bits_pv b hb) ?_ | refine CE (bits_pv b hb) ?_)
 rw [beq_bl_one]
 by_cases h:b=1
 ·rw [decide_eq_true h]
  try refine RUN ?_
  rw [h,Nat.div_one]
 ·rw [decide_eq_false h]
  repeat (first | refine RUN ?_ | refine CV (natDiv_pv a b h0 ha hb) ?_ | refine CE (natDiv_pv a b h0 ha hb) ?_)
  rfl
theorem part_pv (n:Int) (b:Nat) (hn:bigI n) (hb:big b) (h0:b≠0) (hdv:b ∣ n.natAbs):PV prog 121 #[intV n,natV b] (intV (n / (b:Int))):=by
 have hs:decide (n.sign<0)=decide (n<0):=by rw [decide_eq_decide];exact Int.sign_neg_iff
 have hf:=from_pv (decide (n<0)) (n.natAbs / b) (Nat.le_trans (bl_div _ _) hn)
 have e:sg (decide (n<0)) (n.natAbs / b)=n / (b:Int):=by
  rw [part_eq n b hdv];unfold sg
  by_cases h:n<0 <;> simp [h]
 rw [e] at hf
 refine PV.of_pc ?_
 refine BD func121 ntmps121 ?_
 try refine RUN ?_
 apply EV.drawn 7 kR kR;intro xv yw
 (repeat (first | refine' DV ?_ | refine' DA ?_ | refine' DK0 ?_ | refine' DT ?_ | (refine' DC (wholeSign_pv n hn) (h:=?_);rotate_left) | refine' DS ?_))
 rw [hs]
 (repeat (first | refine' DV ?_ | refine' DA ?_ | refine' DK0 ?_ | refine' DT ?_ | (refine' DC (wholeAbs_pv n) (h:=?_);rotate_left) | (refine' DC (over_pv _ _ hn hb h0) (h:=?_);rotate_left) | refine' DS ?_))
 (refine DJ.nil (fun G hG hF=>?_);(case hS|hS2=>rfl))
 repeat (first | refine RUN ?_ | refine CV (hf) ?_ | refine CE (hf) ?_)
 rfl
theorem times_pv (n:Int) (d:Nat) (hn:bigI n) (hd:big d) (hnd:big (n.natAbs*d)):PV prog 72 #[intV n,natV d] (intV (n*d)):=by
 have hm:=wholeMul_pv n (d:Int) hn hd (by show big (n*(d:Int)).natAbs;rw [Int.natAbs_mul];exact hnd)
 refine PV.of_pc ?_
 refine BD func72 ntmps72 ?_
 try refine RUN ?_
 apply EV.drawn 3 kR kR;intro xv yw
 (repeat (first | refine' DV ?_ | refine' DA ?_ | refine' DK0 ?_ | refine' DT ?_ | (refine' DC (from_pv false d hd) (h:=?_);rotate_left) | refine' DS ?_))
 (refine DJ.nil (fun G hG hF=>?_);(case hS|hS2=>rfl))
 repeat (first | refine RUN ?_ | refine CV (hm) ?_ | refine CE (hm) ?_)
 rfl
theorem isWhole_pv (q:Rat) (h:big q.den):PV prog 70 #[fracV q] (.bool (decide (q.den=1))):=by
 refine PV.of_pc ?_
 refine BD func70 ntmps70 ?_
 repeat (first | refine RUN ?_ | refine CV (bits_pv (dk q.den) (Nat.le_trans (dk_bl _) h)) ?_ | refine CE (bits_pv (dk q.den) (Nat.le_trans (dk_bl _) h)) ?_)
 have e:(((bl (dk q.den):Nat):Int) == 0)=decide (q.den=1):=by
  by_cases h1:q.den=1
  ·rw [decide_eq_true h1,(dk_zero q).2 h1,bl_zero];rfl
  ·rw [decide_eq_false h1]
   have h2:bl (dk q.den)≠0:=fun e=>h1 ((dk_zero q).1 (bl_eq_zero.1 e))
   simp;omega
 rw [e]
theorem den_pv (q:Rat) (h:big q.den):PV prog 73 #[fracV q] (natV q.den):=by
 refine PV.of_pc ?_
 refine BD func73 ntmps73 ?_
 repeat (first | refine RUN ?_ | refine CV (isWhole_pv q h) ?_ | refine CE (isWhole_pv q h) ?_)
 by_cases h1:q.den=1
 ·rw [decide_eq_true h1]
  repeat (first | refine RUN ?_ | refine CV (natOf_pv 1 (by decide)) ?_ | refine CE (natOf_pv 1 (by decide)) ?_)
  rw [h1]
 ·rw [decide_eq_false h1]
  try refine RUN ?_
  rw [dk_ne h1]
theorem sign_pv (q:Rat) (h:bigI q.num):PV prog 26 #[fracV q] (.int .i64 q.num.sign):=by
 refine PV.of_pc ?_
 refine BD func26 ntmps26 ?_
 repeat (first | refine RUN ?_ | refine CV (wholeSign_pv q.num h) ?_ | refine CE (wholeSign_pv q.num h) ?_)
 rfl
theorem num_pv (q:Rat):PV prog 175 #[fracV q] (intV q.num):=by
 refine PV.of_pc ?_
 refine BD func175 ntmps175 ?_
 try refine RUN ?_
 rfl
theorem neg_pv (q:Rat) (h:bigI q.num):PV prog 266 #[fracV q] (fracV (-q)):=by
 refine PV.of_pc ?_
 refine BD func266 ntmps266 ?_
 try refine RUN ?_
 (apply EV.drawn 5 kR kR;intro xv yw;(repeat (first | refine' DV ?_ | refine' DA ?_ | refine' DK0 ?_ | (refine' DC (wholeNeg_pv q.num h) (h:=?_);rotate_left) | refine' DS ?_));refine DJ.nil (fun G hG hF=>?_);(case hS|hS2=>rfl))
 try refine RUN ?_
 rfl
theorem of_pv (z:Int) (h1:-9223372036854775808≤z) (h2:z<9223372036854775808):PV prog 25 #[.int .i64 z] (fracV (z:Rat)):=by
 refine PV.of_pc ?_
 refine BD func25 ntmps25 ?_
 repeat (first | refine RUN ?_ | refine CV (wholeOf_pv z h1 h2) ?_ | refine CE (wholeOf_pv z h1 h2) ?_)
 show _=frV z 0
 rw [frV_zero]
theorem lowest_pv (n:Int) (d:Nat) (hn:bigI n) (hd:big d) (h0:d≠0):PV prog 149 #[intV n,natV d] (fracV (mkRat n d)):=by
 have hl:=rat_lowest n d h0
 have hg0:Nat.gcd n.natAbs d≠0:=Nat.gcd_ne_zero_right h0
 have hgb:big (Nat.gcd n.natAbs d):=Nat.le_trans (bl_gcd_right _ _ h0) hd
 have hg:=gcd_pv n (d:Int) hn hd
 have f1:=part_pv n (Nat.gcd n.natAbs d) hn hgb hg0 (Nat.gcd_dvd_left ..)
 have f2:=over_pv d (Nat.gcd n.natAbs d) hd hgb hg0
 have f3:=pack_pv (n / (Nat.gcd n.natAbs d:Nat)) (d / Nat.gcd n.natAbs d) (Nat.le_trans (bl_div _ _) hd)
 rw [← hl.1] at f1
 rw [← hl.2] at f2
 rw [← hl.1,← hl.2] at f3
 refine PV.of_pc ?_
 refine BD func149 ntmps149 ?_
 try refine RUN ?_
 (apply EV.drawn 5 kR kR;intro xv yw;(repeat (first | refine' DV ?_ | refine' DA ?_ | refine' DK0 ?_ | (refine' DC (from_pv false d hd) (h:=?_);rotate_left) | (refine' DC (hg) (h:=?_);rotate_left) | refine' DS ?_));refine DJ.nil (fun G hG hF=>?_);(case hS|hS2=>rfl))
 try refine RUN ?_
 (apply EV.drawn 7 kR kR;intro xv yw;(repeat (first | refine' DV ?_ | refine' DA ?_ | refine' DK0 ?_ | (refine' DC (f1) (h:=?_);rotate_left) | (refine' DC (f2) (h:=?_);rotate_left) | (refine' DC (f3) (h:=?_);rotate_left) | refine' DS ?_));refine DJ.nil (fun G hG hF=>?_);(case hS|hS2=>rfl))
 try refine RUN ?_
 rfl
theorem make_pv (n d:Int) (hn:bigI n) (hd:bigI d) (h0:d≠0):PV prog 110 #[intV n,intV d] (.tuple #[fracV (mkRat (if d<0 then -n else n) d.natAbs),.bool true]):=by
 have l1:=lowest_pv (-n) d.natAbs (by show big (-n).natAbs;rw [Int.natAbs_neg];exact hn) hd oM
 have l2:=lowest_pv n d.natAbs hn hd oM
 refine PV.of_pc ?_
 refine BD func110 ntmps110 ?_
 repeat (first | refine RUN ?_ | refine CV (wholeSign_pv d hd) ?_ | refine CE (wholeSign_pv d hd) ?_)
 rw [show (d.sign == 0)=false by simp [Int.sign_eq_zero_iff_zero,h0]]
 repeat (first | refine RUN ?_ | refine CV (wholeSign_pv d hd) ?_ | refine CE (wholeSign_pv d hd) ?_)
 by_cases h:d<0
 ·rw [decide_eq_true (Int.sign_neg_iff.2 h),if_pos h]
  repeat (first | refine RUN ?_ | refine CV (wholeNeg_pv n hn) ?_ | refine CE (wholeNeg_pv n hn) ?_)
  apply EV.drawn 3 kR kR;intro xv yw
  (repeat (first | refine' DV ?_ | refine' DA ?_ | refine' DK0 ?_ | refine' DT ?_ | (refine' DC (wholeAbs_pv d) (h:=?_);rotate_left) | refine' DS ?_))
  (refine DJ.nil (fun G hG hF=>?_);(case hS|hS2=>rfl))
  repeat (first | refine RUN ?_ | refine CV (l1) ?_ | refine CE (l1) ?_)
  rfl
 ·rw [decide_eq_false (fun e=>h (Int.sign_neg_iff.1 e)),if_neg h]
  try refine RUN ?_
  apply EV.drawn 3 kR kR;intro xv yw
  (repeat (first | refine' DV ?_ | refine' DA ?_ | refine' DK0 ?_ | refine' DT ?_ | (refine' DC (wholeAbs_pv d) (h:=?_);rotate_left) | refine' DS ?_))
  (refine DJ.nil (fun G hG hF=>?_);(case hS|hS2=>rfl))
  repeat (first | refine RUN ?_ | refine CV (l2) ?_ | refine CE (l2) ?_)
  rfl
abbrev frL (n:Int) (d:Nat):List Value:=[.bool (decide (n<0)),.int .u64 (lo n.natAbs:Int),.string (moreB n.natAbs),.int .u64 (lo d:Int),.string (moreB d)]
abbrev sm (q:Rat):Prop:=ht q≤100000000
theorem sm.num {q:Rat} (h:sm q):bl q.num.natAbs≤100000000:=Nat.le_trans (bl_num_le q) h
theorem sm.den {q:Rat} (h:sm q):bl q.den≤100000000:=Nat.le_trans (bl_den_le q) h
theorem mul_pv (a b:Rat) (ha:sm a) (hb:sm b):PV prog 128 #[fracV a,fracV b] (fracV (a*b)):=by
 have na:=ha.num;have da:=ha.den;have nb:=hb.num;have db:=hb.den
 have bna:bigI a.num:=Nat.le_trans na oM
 have bnb:bigI b.num:=Nat.le_trans nb oM
 have bda:big a.den:=Nat.le_trans da oM
 have bdb:big b.den:=Nat.le_trans db oM
 have hm:=rat_mul a b _ _ rfl rfl
 generalize hg:Nat.gcd a.num.natAbs b.den=g at hm
 generalize hh:Nat.gcd b.num.natAbs a.den=h at hm
 have hg0:g≠0:=by rw [← hg];exact Nat.gcd_ne_zero_right b.den_nz
 have hh0:h≠0:=by rw [← hh];exact Nat.gcd_ne_zero_right a.den_nz
 have bg:big g:=by rw [← hg];exact Nat.le_trans (bl_gcd_right _ _ b.den_nz) bdb
 have bh:big h:=by rw [← hh];exact Nat.le_trans (bl_gcd_right _ _ a.den_nz) bda
 have g1:=gcd_pv a.num (b.den:Int) bna bdb
 have g2:=gcd_pv b.num (a.den:Int) bnb bda
 rw [Int.natAbs_natCast,hg] at g1
 rw [Int.natAbs_natCast,hh] at g2
 have p1:=part_pv a.num g bna bg hg0 (by rw [← hg];exact Nat.gcd_dvd_left ..)
 have p2:=part_pv b.num h bnb bh hh0 (by rw [← hh];exact Nat.gcd_dvd_left ..)
 have b1:bl (a.num / (g:Int)).natAbs≤100000000:=Nat.le_trans (bl_mono (natAbs_ediv_le _ _)) na
 have b2:bl (b.num / (h:Int)).natAbs≤100000000:=Nat.le_trans (bl_mono (natAbs_ediv_le _ _)) nb
 have b3:bl (a.den / h)≤100000000:=Nat.le_trans (bl_div _ _) da
 have b4:bl (b.den / g)≤100000000:=Nat.le_trans (bl_div _ _) db
 have m1:=wholeMul_pv (a.num / (g:Int)) (b.num / (h:Int)) (Nat.le_trans b1 oM) (Nat.le_trans b2 oM) (by
  show big (_*_:Int).natAbs
  rw [Int.natAbs_mul];have:=bl_mul (a.num / (g:Int)).natAbs (b.num / (h:Int)).natAbs;show bl _≤_;omega)
 have m2:=natMul_pv (a.den / h) (b.den / g) (Nat.le_trans b3 oM) (Nat.le_trans b4 oM)
 have pk:=pack_pv (a*b).num (a*b).den (by rw [hm.2];have:=bl_mul (a.den / h) (b.den / g);show bl _≤_;omega)
 have o1:=over_pv a.den h bda bh hh0
 have o2:=over_pv b.den g bdb bg hg0
 rw [← hm.1] at m1
 rw [← hm.2] at m2
 have w1:=isWhole_pv a bda
 have w2:=isWhole_pv b bdb
 refine PV.of_pc ?_
 refine BD func128 ntmps128 ?_
 repeat (first | refine RUN ?_ | refine CV (w1) ?_ | refine CE (w1) ?_)
 refine EVL.meet (fun env' bx' H'=>SubL env' [(12,.v (.bool (decide (a.den=1∧b.den=1)))),(4,.p 4 0),(3,.p 3 0),(2,.p 2 0)]∧SubX bx' [(4,63,Tryz.te63.zero),(3,63,frL b.num (dk b.den)),(2,63,frL a.num (dk a.den))]∧H'=⟨fun _=>none,[],⟨fun _=>none,[]⟩⟩) ?_ ?_
 ·rintro env' bx' H' _ ⟨he,hbx,rfl⟩
  refine EV.less _ _ he hbx rfl ?_
  by_cases hab:a.den=1∧b.den=1
  ·rw [decide_eq_true hab]
   have e1:g=1:=by rw [← hg,hab.2,Nat.gcd_one_right]
   have e2:h=1:=by rw [← hh,hab.1,Nat.gcd_one_right]
   have e3:(a*b).den=1:=by rw [hm.2,hab.1,hab.2,e1,e2]
   rw [e1,e2] at m1
   simp only [Int.natCast_one,Int.ediv_one] at m1
   repeat (first | refine RUN ?_ | refine CV (m1) ?_ | refine CE (m1) ?_)
   show _=frV (a*b).num (dk (a*b).den)
   rw [e3,dk_one,frV_zero]
  ·rw [decide_eq_false hab]
   try refine RUN ?_
   have d1:=den_pv a bda
   have d2:=den_pv b bdb
   have s1:=from_pv false a.den bda
   have s2:=from_pv false b.den bdb
   (apply EV.drawn 7 kR kR;intro xv yw;(repeat (first | refine' DV ?_ | refine' DA ?_ | refine' DK0 ?_ | (refine' DC (d2) (h:=?_);rotate_left) | (refine' DC (s2) (h:=?_);rotate_left) | (refine' DC (g1) (h:=?_);rotate_left) | refine' DS ?_));refine DJ.nil (fun G hG hF=>?_);(case hS|hS2=>rfl))
   try refine RUN ?_
   (apply EV.drawn 7 kR kR;intro xv yw;(repeat (first | refine' DV ?_ | refine' DA ?_ | refine' DK0 ?_ | (refine' DC (d1) (h:=?_);rotate_left) | (refine' DC (s1) (h:=?_);rotate_left) | (refine' DC (g2) (h:=?_);rotate_left) | refine' DS ?_));refine DJ.nil (fun G hG hF=>?_);(case hS|hS2=>rfl))
   try refine RUN ?_
   apply EV.drawn 16 kR kR;intro xv yw
   (repeat (first | refine' DV ?_ | refine' DA ?_ | refine' DK0 ?_ | refine' DT ?_ | (refine' DC (p1) (h:=?_);rotate_left) | (refine' DC (p2) (h:=?_);rotate_left) | (refine' DC (m1) (h:=?_);rotate_left) | (refine' DC (d1) (h:=?_);rotate_left) | (refine' DC (d2) (h:=?_);rotate_left) | (refine' DC (o1) (h:=?_);rotate_left) | (refine' DC (o2) (h:=?_);rotate_left) | refine' DS ?_))
   (refine DJ.nil (fun G hG hF=>?_);(case hS|hS2=>rfl))
   repeat (first | refine RUN ?_ | refine CV (o2) ?_ | refine CV (m2) ?_ | refine CV (pk) ?_ | refine CE (o2) ?_ | refine CE (m2) ?_ | refine CE (pk) ?_)
   rfl
 ·by_cases ha1:a.den=1
  ·rw [decide_eq_true ha1]
   repeat (first | refine RUN ?_ | refine CV (w2) ?_ | refine CE (w2) ?_)
   refine ⟨⟨?_,rfl,rfl,rfl,trivial⟩,⟨rfl,rfl,rfl,trivial⟩,rfl⟩
   simp [ha1];rfl
  ·rw [decide_eq_false ha1]
   try refine RUN ?_
   refine ⟨⟨?_,rfl,rfl,rfl,trivial⟩,⟨rfl,rfl,rfl,trivial⟩,rfl⟩
   simp [ha1];rfl
theorem add_pv (a b:Rat) (ha:sm a) (hb:sm b):PV prog 69 #[fracV a,fracV b] (fracV (a+b)):=by
 have na:=ha.num;have da:=ha.den;have nb:=hb.num;have db:=hb.den
 have bna:bigI a.num:=Nat.le_trans na oM
 have bnb:bigI b.num:=Nat.le_trans nb oM
 have bda:big a.den:=Nat.le_trans da oM
 have bdb:big b.den:=Nat.le_trans db oM
 have hm:=rat_add a b _ _ _ _ _ rfl rfl rfl rfl rfl
 generalize hg:Nat.gcd a.den b.den=g at hm
 have hg0:g≠0:=by rw [← hg];exact Nat.gcd_ne_zero_right b.den_nz
 have bgl:bl g≤100000000:=by rw [← hg];exact Nat.le_trans (bl_gcd_right _ _ b.den_nz) db
 have bg:big g:=Nat.le_trans bgl oM
 have g1:=gcd_pv (a.den:Int) (b.den:Int) bda bdb
 rw [Int.natAbs_natCast,Int.natAbs_natCast,hg] at g1
 have o1:=over_pv a.den g bda bg hg0
 have o2:=over_pv b.den g bdb bg hg0
 have b1:bl (a.den / g)≤100000000:=Nat.le_trans (bl_div _ _) da
 have b2:bl (b.den / g)≤100000000:=Nat.le_trans (bl_div _ _) db
 have hone:a.den=1∧b.den=1→g=1∧a.den / g=1∧b.den / g=1:=fun h=>by
  have:g=1:=by rw [← hg,h.1,h.2];rfl
  rw [this,h.1,h.2];exact ⟨rfl,rfl,rfl⟩
 generalize hdown:a.den / g=down at *
 generalize hother:b.den / g=other at *
 have c1:=bl_mul a.num.natAbs other
 have c2:=bl_mul b.num.natAbs down
 have t1:=times_pv a.num other bna (Nat.le_trans b2 oM) (by show bl _≤_;omega)
 have t2:=times_pv b.num down bnb (Nat.le_trans b1 oM) (by show bl _≤_;omega)
 have c1':bl (a.num*(other:Int)).natAbs≤200000000:=by rw [Int.natAbs_mul];simp;omega
 have c2':bl (b.num*(down:Int)).natAbs≤200000000:=by rw [Int.natAbs_mul];simp;omega
 have c3:=bl_add (a.num*(other:Int)).natAbs (b.num*(down:Int)).natAbs
 have ad:=wholeAdd_pv (a.num*(other:Int)) (b.num*(down:Int)) (Nat.le_trans c1' oM) (Nat.le_trans c2' oM) (by show bl _≤_;omega)
 have bup:bl (a.num*(other:Int)+b.num*(down:Int)).natAbs≤200000001:=by
  have:=bl_natAbs_add (a.num*(other:Int)) (b.num*(down:Int));omega
 generalize hup:a.num*(other:Int)+b.num*(down:Int)=up at *
 generalize hh:Nat.gcd up.natAbs g=h at hm
 have hh0:h≠0:=by rw [← hh];exact Nat.gcd_ne_zero_right hg0
 have bh:big h:=by rw [← hh];exact Nat.le_trans (bl_gcd_right _ _ hg0) bg
 have g2:=gcd_pv up (g:Int) (Nat.le_trans bup oM) bg
 rw [Int.natAbs_natCast,hh] at g2
 have p1:=part_pv up h (Nat.le_trans bup oM) bh hh0 (by rw [← hh];exact Nat.gcd_dvd_left ..)
 have o3:=over_pv b.den h bdb bh hh0
 have b4:bl (b.den / h)≤100000000:=Nat.le_trans (bl_div _ _) db
 have m2:=natMul_pv down (b.den / h) (Nat.le_trans b1 oM) (Nat.le_trans b4 oM)
 have pk:=pack_pv (a+b).num (a+b).den (by rw [hm.2];have:=bl_mul down (b.den / h);show bl _≤_;omega)
 rw [← hm.1] at p1
 rw [← hm.2] at m2
 have w1:=isWhole_pv a bda
 have w2:=isWhole_pv b bdb
 refine PV.of_pc ?_
 refine BD func69 ntmps69 ?_
 repeat (first | refine RUN ?_ | refine CV (w1) ?_ | refine CE (w1) ?_)
 refine EVL.meet (fun env' bx' H'=>SubL env' [(15,.v (.bool (decide (a.den=1∧b.den=1)))),(4,.p 4 0),(3,.p 3 0),(2,.p 2 0)]∧SubX bx' [(4,63,Tryz.te63.zero),(3,63,frL b.num (dk b.den)),(2,63,frL a.num (dk a.den))]∧H'=⟨fun _=>none,[],⟨fun _=>none,[]⟩⟩) ?_ ?_
 ·rintro env' bx' H' _ ⟨he,hbx,rfl⟩
  refine EV.less _ _ he hbx rfl ?_
  by_cases hab:a.den=1∧b.den=1
  ·rw [decide_eq_true hab]
   obtain ⟨e1,e2,e3⟩:=hone hab
   have e4:h=1:=by rw [← hh,e1,Nat.gcd_one_right]
   have e5:(a+b).den=1:=by rw [hm.2,e2,hab.2,e4]
   have e6:(a+b).num=a.num+b.num:=by rw [hm.1,e4,← hup,e2,e3];simp
   have c4:=bl_add a.num.natAbs b.num.natAbs
   have ad':=wholeAdd_pv a.num b.num bna bnb (by show bl _≤_;omega)
   repeat (first | refine RUN ?_ | refine CV (ad') ?_ | refine CE (ad') ?_)
   show _=frV (a+b).num (dk (a+b).den)
   rw [e5,dk_one,frV_zero,e6]
  ·rw [decide_eq_false hab]
   try refine RUN ?_
   have d1:=den_pv a bda
   have d2:=den_pv b bdb
   have s1:=from_pv false a.den bda
   have s2:=from_pv false b.den bdb
   have s3:=from_pv false g bg
   (apply EV.drawn 8 kR kR;intro xv yw;(repeat (first | refine' DV ?_ | refine' DA ?_ | refine' DK0 ?_ | (refine' DC (d1) (h:=?_);rotate_left) | (refine' DC (s1) (h:=?_);rotate_left) | (refine' DC (d2) (h:=?_);rotate_left) | (refine' DC (s2) (h:=?_);rotate_left) | (refine' DC (g1) (h:=?_);rotate_left) | refine' DS ?_));refine DJ.nil (fun G hG hF=>?_);(case hS|hS2=>rfl))
   try refine RUN ?_
   (apply EV.drawn 10 kR kR;intro xv yw;(repeat (first | refine' DV ?_ | refine' DA ?_ | refine' DK0 ?_ | (refine' DC (d1) (h:=?_);rotate_left) | (refine' DC (d2) (h:=?_);rotate_left) | (refine' DC (o1) (h:=?_);rotate_left) | (refine' DC (o2) (h:=?_);rotate_left) | refine' DS ?_));refine DJ.nil (fun G hG hF=>?_);(case hS|hS2=>rfl))
   try refine RUN ?_
   (apply EV.drawn 10 kR kR;intro xv yw;(repeat (first | refine' DV ?_ | refine' DA ?_ | refine' DK0 ?_ | (refine' DC (t1) (h:=?_);rotate_left) | (refine' DC (t2) (h:=?_);rotate_left) | (refine' DC (ad) (h:=?_);rotate_left) | refine' DS ?_));refine DJ.nil (fun G hG hF=>?_);(case hS|hS2=>rfl))
   try refine RUN ?_
   (apply EV.drawn 5 kR kR;intro xv yw;(repeat (first | refine' DV ?_ | refine' DA ?_ | refine' DK0 ?_ | (refine' DC (s3) (h:=?_);rotate_left) | (refine' DC (g2) (h:=?_);rotate_left) | refine' DS ?_));refine DJ.nil (fun G hG hF=>?_);(case hS|hS2=>rfl))
   try refine RUN ?_
   (apply EV.drawn 10 kR kR;intro xv yw;(repeat (first | refine' DV ?_ | refine' DA ?_ | refine' DK0 ?_ | (refine' DC (p1) (h:=?_);rotate_left) | (refine' DC (d2) (h:=?_);rotate_left) | (refine' DC (o3) (h:=?_);rotate_left) | (refine' DC (m2) (h:=?_);rotate_left) | (refine' DC (pk) (h:=?_);rotate_left) | refine' DS ?_));refine DJ.nil (fun G hG hF=>?_);(case hS|hS2=>rfl))
   try refine RUN ?_
   rfl
 ·by_cases ha1:a.den=1
  ·rw [decide_eq_true ha1]
   repeat (first | refine RUN ?_ | refine CV (w2) ?_ | refine CE (w2) ?_)
   refine ⟨⟨?_,rfl,rfl,rfl,trivial⟩,⟨rfl,rfl,rfl,trivial⟩,rfl⟩
   simp [ha1];rfl
  ·rw [decide_eq_false ha1]
   try refine RUN ?_
   refine ⟨⟨?_,rfl,rfl,rfl,trivial⟩,⟨rfl,rfl,rfl,trivial⟩,rfl⟩
   simp [ha1];rfl
theorem sub_pv (a b:Rat) (ha:sm a) (hb:sm b):PV prog 229 #[fracV a,fracV b] (fracV (a-b)):=by
 have h1:=neg_pv b (Nat.le_trans hb.num oM)
 have h2:=add_pv a (-b) ha (by show ht (-b)≤_;rw [ht_neg];exact hb)
 rw [← Rat.sub_eq_add_neg] at h2
 refine PV.of_pc ?_
 refine BD func229 ntmps229 ?_
 try refine RUN ?_
 (apply EV.drawn 4 kR kR;intro xv yw;(repeat (first | refine' DV ?_ | refine' DA ?_ | refine' DK0 ?_ | (refine' DC (h1) (h:=?_);rotate_left) | (refine' DC (h2) (h:=?_);rotate_left) | refine' DS ?_));refine DJ.nil (fun G hG hF=>?_);(case hS|hS2=>rfl))
 try refine RUN ?_
 rfl
theorem inv_frV (b:Rat) (h:b.num≠0):frV (sg (decide (b.num<0)) b.den) (dk b.num.natAbs)=fracV b⁻¹:=by
 have e1:b⁻¹.num=sg (decide (b.num<0)) b.den:=by
  rw [Rat.num_inv];unfold sg
  rcases Int.lt_or_lt_of_ne h with h1 | h1
  ·simp [h1,Int.sign_eq_neg_one_of_neg h1]
  ·rw [Int.sign_eq_one_of_pos h1,decide_eq_false (by omega)];simp
 have e2:b⁻¹.den=b.num.natAbs:=by
  rw [Rat.den_inv,if_neg]
  exact h
 rw [← e1,← e2]
theorem div_pv (a b:Rat) (ha:sm a) (hb:sm b) (h0:b≠0):PV prog 78 #[fracV a,fracV b] (.tuple #[fracV (a / b),.bool true]):=by
 have hn0:b.num≠0:=fun e=>h0 (Rat.num_eq_zero.1 e)
 have bnb:bigI b.num:=Nat.le_trans hb.num oM
 have bdb:big b.den:=Nat.le_trans hb.den oM
 have hm:=mul_pv a b⁻¹ ha (Nat.le_trans (ht_inv b) hb)
 rw [← Rat.div_def] at hm
 have hp:=pack_pv (sg (decide (b.num<0)) b.den) b.num.natAbs bnb
 rw [inv_frV b hn0] at hp
 have s1:=from_pv (decide (b.num<0)) b.den bdb
 have sg1:=sign_pv b bnb
 have ab:=wholeAbs_pv b.num
 have d2:=den_pv b bdb
 refine PV.of_pc ?_
 refine BD func78 ntmps78 ?_
 repeat (first | refine RUN ?_ | refine CV (sg1) ?_ | refine CE (sg1) ?_)
 rw [show (b.num.sign == 0)=false by simp [Int.sign_eq_zero_iff_zero,hn0]]
 try refine RUN ?_
 apply EV.drawn 11 kR kR;intro xv yw
 (repeat (first | refine' DV ?_ | refine' DA ?_ | refine' DK0 ?_ | refine' DT ?_ | (refine' DC (sg1) (h:=?_);rotate_left) | refine' DS ?_))
 rw [show decide (b.num.sign<0)=decide (b.num<0) by rw [decide_eq_decide];exact Int.sign_neg_iff]
 (repeat (first | refine' DV ?_ | refine' DA ?_ | refine' DK0 ?_ | refine' DT ?_ | (refine' DC (d2) (h:=?_);rotate_left) | (refine' DC (s1) (h:=?_);rotate_left) | (refine' DC (ab) (h:=?_);rotate_left) | (refine' DC (hp) (h:=?_);rotate_left) | refine' DS ?_))
 (refine DJ.nil (fun G hG hF=>?_);(case hS|hS2=>rfl))
 repeat (first | refine RUN ?_ | refine CV (hm) ?_ | refine CE (hm) ?_)
 rfl
theorem div_zero_pv (a:Rat):PV prog 78 #[fracV a,fracV 0] (.tuple #[fracV 0,.bool false]):=by
 have sg1:=sign_pv 0 (by show bl 0≤_;rw [bl_zero];omega)
 refine PV.of_pc ?_
 refine BD func78 ntmps78 ?_
 repeat (first | refine RUN ?_ | refine CV (sg1) ?_ | refine CE (sg1) ?_)
 show _=Value.tuple #[frV 0 0,.bool false]
 rw [frV_zero,show (0:Int).natAbs=0 from rfl,moreB_empty (n:=0) (by decide)];rfl
theorem ordZ_scale (x y p q:Int) (hp:0<p) (hq:0<q) (h:x.sign≠y.sign):ordZ x y=ordZ (x*p) (y*q):=by
 have f1:x<0→x*p<0:=fun h=>Int.mul_neg_of_neg_of_pos h hp
 have f2:0<x→0<x*p:=fun h=>Int.mul_pos h hp
 have f3:y<0→y*q<0:=fun h=>Int.mul_neg_of_neg_of_pos h hq
 have f4:0<y→0<y*q:=fun h=>Int.mul_pos h hq
 have f5:x=0→x*p=0:=fun h=>by rw [h,Int.zero_mul]
 have f6:y=0→y*q=0:=fun h=>by rw [h,Int.zero_mul]
 generalize x*p=u at *
 generalize y*q=v at *
 rcases Int.lt_trichotomy x 0 with hx | hx | hx <;> rcases Int.lt_trichotomy y 0 with hy | hy | hy
 ·exact absurd (by rw [Int.sign_eq_neg_one_of_neg hx,Int.sign_eq_neg_one_of_neg hy]) h
 ·unfold ordZ;rw [if_pos oM,if_pos (by have:=f1 hx;have:=f6 hy;omega)]
 ·unfold ordZ;rw [if_pos oM,if_pos (by have:=f1 hx;have:=f4 hy;omega)]
 ·unfold ordZ;rw [if_neg oM,if_pos oM,if_neg (by have:=f5 hx;have:=f3 hy;omega),if_pos (by have:=f5 hx;have:=f3 hy;omega)]
 ·exact absurd (by rw [hx,hy]) h
 ·unfold ordZ;rw [if_pos oM,if_pos (by have:=f5 hx;have:=f4 hy;omega)]
 ·unfold ordZ;rw [if_neg oM,if_pos oM,if_neg (by have:=f2 hx;have:=f3 hy;omega),if_pos (by have:=f2 hx;have:=f3 hy;omega)]
 ·unfold ordZ;rw [if_neg oM,if_pos oM,if_neg (by have:=f2 hx;have:=f6 hy;omega),if_pos (by have:=f2 hx;have:=f6 hy;omega)]
 ·exact absurd (by rw [Int.sign_eq_one_of_pos hx,Int.sign_eq_one_of_pos hy]) h
theorem sign_ne (a b:Rat) (h:a.num.sign≠b.num.sign):ordZ a.num b.num=ordR a b:=by
 have:=Nat.pos_of_ne_zero a.den_nz
 have:=Nat.pos_of_ne_zero b.den_nz
 rw [ordR_eq];exact ordZ_scale _ _ _ _ oM oM h
theorem cmp_pv (a b:Rat) (ha:sm a) (hb:sm b):PV prog 24 #[fracV a,fracV b] (.int .i64 (ordR a b)):=by
 have na:=ha.num;have da:=ha.den;have nb:=hb.num;have db:=hb.den
 have bna:bigI a.num:=Nat.le_trans na oM
 have bnb:bigI b.num:=Nat.le_trans nb oM
 have bda:big a.den:=Nat.le_trans da oM
 have bdb:big b.den:=Nat.le_trans db oM
 have w1:=isWhole_pv a bda
 have w2:=isWhole_pv b bdb
 have s1:=sign_pv a bna
 have s2:=sign_pv b bnb
 have d1:=den_pv a bda
 have d2:=den_pv b bdb
 have c1:=bl_mul a.num.natAbs b.den
 have c2:=bl_mul b.num.natAbs a.den
 have t1:=times_pv a.num b.den bna bdb (by show bl _≤_;omega)
 have t2:=times_pv b.num a.den bnb bda (by show bl _≤_;omega)
 have k1:=wholeCmp_pv a.num b.num bna bnb
 have k2:=wholeCmp_pv (a.num*(b.den:Int)) (b.num*(a.den:Int)) (by show bl _≤_;rw [Int.natAbs_mul];simp;omega) (by show bl _≤_;rw [Int.natAbs_mul];simp;omega)
 rw [← ordR_eq] at k2
 refine PV.of_pc ?_
 refine BD func24 ntmps24 ?_
 try refine RUN ?_
 by_cases ha1:a.den=1
 ·rw [decide_eq_true ha1] at w1
  by_cases hb1:b.den=1
  ·rw [decide_eq_true hb1] at w2
   have e:ordZ a.num b.num=ordR a b:=by rw [ordR_eq,ha1,hb1];simp
   rw [e] at k1
   apply EV.drawn 10 kR kR;intro xv yw
   (repeat (first | refine' DV ?_ | refine' DA ?_ | refine' DK0 ?_ | refine' DT ?_ | (refine' DC (w1) (h:=?_);rotate_left) | (refine' DC (w2) (h:=?_);rotate_left) | (refine' DC (s1) (h:=?_);rotate_left) | (refine' DC (s2) (h:=?_);rotate_left) | refine' DS ?_))
   (refine DJ.nil (fun G hG hF=>?_);(case hS|hS2=>rfl))
   repeat (first | refine RUN ?_ | refine CV (k1) ?_ | refine CE (k1) ?_)
   rfl
  ·rw [decide_eq_false hb1] at w2
   apply EV.drawn 10 kR kR;intro xv yw
   (repeat (first | refine' DV ?_ | refine' DA ?_ | refine' DK0 ?_ | refine' DT ?_ | (refine' DC (w1) (h:=?_);rotate_left) | (refine' DC (w2) (h:=?_);rotate_left) | (refine' DC (s1) (h:=?_);rotate_left) | (refine' DC (s2) (h:=?_);rotate_left) | refine' DS ?_))
   (refine DJ.nil (fun G hG hF=>?_);(case hS|hS2=>rfl))
   repeat (first | refine RUN ?_ | refine CV (s1) ?_ | refine CV (s2) ?_ | refine CE (s1) ?_ | refine CE (s2) ?_)
   by_cases hs:a.num.sign=b.num.sign
   ·rw [show (a.num.sign != b.num.sign)=false by simp [hs]]
    try refine RUN ?_
    apply EV.drawn 9 kR kR;intro xv yw
    (repeat (first | refine' DV ?_ | refine' DA ?_ | refine' DK0 ?_ | refine' DT ?_ | (refine' DC (d2) (h:=?_);rotate_left) | (refine' DC (t1) (h:=?_);rotate_left) | (refine' DC (d1) (h:=?_);rotate_left) | refine' DS ?_))
    (refine DJ.nil (fun G hG hF=>?_);(case hS|hS2=>rfl))
    repeat (first | refine RUN ?_ | refine CV (t2) ?_ | refine CV (k2) ?_ | refine CE (t2) ?_ | refine CE (k2) ?_)
    rfl
   ·rw [show (a.num.sign != b.num.sign)=true by simp [hs]]
    repeat (first | refine RUN ?_ | refine CV (k1) ?_ | refine CE (k1) ?_)
    rw [sign_ne a b hs]
 ·rw [decide_eq_false ha1] at w1
  apply EV.drawn 10 kR kR;intro xv yw
  (repeat (first | refine' DV ?_ | refine' DA ?_ | refine' DK0 ?_ | refine' DT ?_ | (refine' DC (w1) (h:=?_);rotate_left) | (refine' DC (w2) (h:=?_);rotate_left) | (refine' DC (s1) (h:=?_);rotate_left) | (refine' DC (s2) (h:=?_);rotate_left) | refine' DS ?_))
  (refine DJ.nil (fun G hG hF=>?_);(case hS|hS2=>rfl))
  repeat (first | refine RUN ?_ | refine CV (s1) ?_ | refine CV (s2) ?_ | refine CE (s1) ?_ | refine CE (s2) ?_)
  by_cases hs:a.num.sign=b.num.sign
  ·rw [show (a.num.sign != b.num.sign)=false by simp [hs]]
   try refine RUN ?_
   apply EV.drawn 9 kR kR;intro xv yw
   (repeat (first | refine' DV ?_ | refine' DA ?_ | refine' DK0 ?_ | refine' DT ?_ | (refine' DC (d2) (h:=?_);rotate_left) | (refine' DC (t1) (h:=?_);rotate_left) | (refine' DC (d1) (h:=?_);rotate_left) | refine' DS ?_))
   (refine DJ.nil (fun G hG hF=>?_);(case hS|hS2=>rfl))
   repeat (first | refine RUN ?_ | refine CV (t2) ?_ | refine CV (k2) ?_ | refine CE (t2) ?_ | refine CE (k2) ?_)
   rfl
  ·rw [show (a.num.sign != b.num.sign)=true by simp [hs]]
   repeat (first | refine RUN ?_ | refine CV (k1) ?_ | refine CE (k1) ?_)
   rw [sign_ne a b hs]
theorem pick_pv (z m:Int) (hz:-9223372036854775808≤z∧z<9223372036854775808) (h0:0<m) (hm:m<4611686018427387904):PV prog 7 #[.int .i64 z,.int .i64 m] (.int .i64 (z % m)):=by
 have h1:=Int.tmod_lt_of_pos z h0
 have h2:=Int.lt_tmod_of_pos z h0
 have e:z % m=if z.tmod m<0 then z.tmod m+m else z.tmod m:=by
  have hq:=Int.mul_tdiv_add_tmod z m
  have e1:z % m=z.tmod m % m:=by
   conv=>lhs;rw [← hq]
   rw [Int.mul_add_emod_self_left]
  rw [e1]
  by_cases ht:z.tmod m<0
  ·rw [if_pos ht,← Int.add_emod_right,Int.emod_eq_of_lt oM (by omega)]
  ·rw [if_neg ht,Int.emod_eq_of_lt oM h1]
 refine PV.of_pc ?_
 refine BD func7 ntmps7 ?_
 try refine RUN ?_
 refine EVL.remI rfl rfl rfl rfl rfl rfl oM ?_
 generalize z.tmod m=t at *
 try refine RUN ?_
 by_cases ht:t<0
 ·rw [if_pos ht] at e
  rw [decide_eq_true ht]
  try refine RUN ?_
  rw [e,IntKind.wrap_i64];congr 1;omega
 ·rw [if_neg ht] at e
  rw [decide_eq_false ht]
  try refine RUN ?_
  rw [e]
theorem refNatH_pc {H:Hp} {v:Value} {n:Nat} (h:RN H v n) (hn:rsm n):PC prog 113 #[v] H fun r _=>r=natV n:=by
 have hol:(octs n).length≤200000000:=by
  rw [octs_length]
  have:=dig_len_bits 8 n oM;rw [show (2:Nat) ^ 8=256 by decide] at this;rw [this]
  have:bl n≤800000000:=hn
  omega
 refine BD func113 ntmps113 ?_
 try refine RUN ?_
 refine EVL.call rfl rfl rfl rfl rfl (refBytes_pc h hn) ?_
 rintro r G hr hG
 have hf:=natFromBytes_pc hr (octs_dig n) hol
 rw [octs_val] at hf
 repeat (first | refine RUN ?_ | refine CV (hf) ?_ | refine CE (hf) ?_)
 rfl
theorem outNat_pc {H:Hp} (n:Nat) (hn:rsm n):PC prog 176 #[natV n] H fun r H'=>RN H' r n:=by
 have hol:(octs n).length≤200000000:=by
  rw [octs_length]
  have:=dig_len_bits 8 n oM;rw [show (2:Nat) ^ 8=256 by decide] at this;rw [this]
  have:bl n≤800000000:=hn
  omega
 refine BD func176 ntmps176 ?_
 try refine RUN ?_
 refine EVL.call rfl rfl rfl rfl rfl (natBytes_pc n (Nat.le_trans hn oM) H) ?_
 rintro r G hr hG
 have hf:=refFrom_pc hr (octs_dig n) hol
 rw [octs_val] at hf
 try refine RUN ?_
 refine EVL.call rfl rfl rfl rfl rfl (hf) ?_
 rintro s G2 hs hG2
 try refine RUN ?_
 exact hs
theorem intH_pc {H:Hp} {v:Value} {z:Int} (h:RI H v z) (hz:rsm z.natAbs):PC prog 111 #[v] H fun r _=>r=intV z:=by
 obtain ⟨sa,sl,sc,rfl,hs⟩:=id h
 have hf:=from_pv (decide (z<0)) z.natAbs (Nat.le_trans hz oM)
 rw [sg_dec] at hf
 refine BD func111 ntmps111 ?_
 try refine RUN ?_
 apply EV.drawn 6 kR kR;intro xv yw
 (repeat (first | refine' DV ?_ | refine' DA ?_ | refine' DK0 ?_ | refine' DT ?_ | refine' DS ?_))
 refine' DJ.callS rfl rfl rfl rfl rfl (cO func113) (fun G hG hd=>refNatH_pc (RN.mono hs hG) hz) ?_;rotate_left
 (repeat (first | refine' DV ?_ | refine' DA ?_ | refine' DK0 ?_ | refine' DT ?_ | (refine' DC (hf) (h:=?_);rotate_left) | refine' DS ?_))
 (refine DJ.nil (fun G hG hF=>?_);(case hS|hS2=>rfl))
 try refine RUN ?_
 rfl
theorem outInt_pc {H:Hp} (z:Int) (hz:rsm z.natAbs):PC prog 174 #[intV z] H fun r H'=>RI H' r z:=by
 have hb:bigI z:=Nat.le_trans hz oM
 have e1:decide (z.sign<0)=decide (z<0):=by rw [decide_eq_decide,Int.sign_neg_iff]
 refine BD func174 ntmps174 ?_
 try refine RUN ?_
 apply EV.drawn 7 kR kR;intro xv yw
 (repeat (first | refine' DV ?_ | refine' DA ?_ | refine' DK0 ?_ | refine' DT ?_ | (refine' DC (wholeSign_pv z hb) (h:=?_);rotate_left) | (refine' DC (wholeAbs_pv z) (h:=?_);rotate_left) | refine' DS ?_))
 refine' DJ.call rfl rfl rfl rfl rfl (cO func176) (fun G hG hd=>outNat_pc z.natAbs hz) (fun _ _ _ h k=>RN.mono h k) ?_;rotate_left
 rw [e1]
 refine' DJ.call rfl rfl rfl rfl rfl (cO func132) (fun G hG hd=>refI_pc (decide (z<0)) (hd.head kR)) (fun _ _ _ h k=>RI.mono h k) ?_;rotate_left
 (refine DJ.nil (fun G hG hF=>?_);(case hS|hS2=>rfl))
 obtain ⟨⟨ra,rl,rc,hr,h1⟩,_⟩:=hF
 rw [sg_dec] at hr h1
 rw [hr]
 try refine RUN ?_
 exact ⟨ra,rl,rc,rfl,h1⟩
theorem in_pc {H:Hp} {v:Value} {q:Rat} (h:RQ H v q) (hq:rq q):PC prog 62 #[v] H fun r _=>r=fracV q:=by
 obtain ⟨sa,sl,sc,ta,tl,tc,rfl,hs,ht⟩:=id h
 have hn:=hq.num
 have hd':=hq.den
 have hf:=from_pv false q.den (Nat.le_trans hd' oM)
 rw [show sg false q.den=(q.den:Int) from rfl] at hf
 have hm:=make_pv q.num (q.den:Int) (Nat.le_trans hn oM) (Nat.le_trans hd' oM) (by have:=q.den_nz;omega)
 rw [if_neg oM,Int.natAbs_natCast,Rat.mkRat_self] at hm
 refine BD func62 ntmps62 ?_
 try refine RUN ?_
 apply EV.drawn 14 kR kR;intro xv yw
 (repeat (first | refine' DV ?_ | refine' DA ?_ | refine' DK0 ?_ | refine' DT ?_ | refine' DS ?_))
 refine' DJ.callS rfl rfl rfl rfl rfl (cO func111) (fun G hG hd=>intH_pc (RQ.rnum (RN.mono hs hG)) hn) ?_;rotate_left
 (repeat (first | refine' DV ?_ | refine' DA ?_ | refine' DK0 ?_ | refine' DT ?_ | refine' DS ?_))
 refine' DJ.callS rfl rfl rfl rfl rfl (cO func113) (fun G hG hd=>refNatH_pc (RN.mono ht hG) hd') ?_;rotate_left
 (repeat (first | refine' DV ?_ | refine' DA ?_ | refine' DK0 ?_ | refine' DT ?_ | (refine' DC (hf) (h:=?_);rotate_left) | (refine' DC (hm) (h:=?_);rotate_left) | refine' DS ?_))
 (refine DJ.nil (fun G hG hF=>?_);(case hS|hS2=>rfl))
 try refine RUN ?_
 rfl
theorem out_pc {H:Hp} (q:Rat) (hq:rq q):PC prog 133 #[fracV q] H fun r H'=>RQ H' r q:=by
 have hn:=hq.num
 have hd':=hq.den
 refine BD func133 ntmps133 ?_
 try refine RUN ?_
 apply EV.drawn 6 kR kR;intro xv yw
 (repeat (first | refine' DV ?_ | refine' DA ?_ | refine' DK0 ?_ | refine' DT ?_ | (refine' DC (num_pv q) (h:=?_);rotate_left) | (refine' DC (den_pv q (Nat.le_trans hd' oM)) (h:=?_);rotate_left) | refine' DS ?_))
 refine' DJ.call rfl rfl rfl rfl rfl (cO func174) (fun G hG hd=>outInt_pc q.num hn) (fun _ _ _ h k=>RI.mono h k) ?_;rotate_left
 (repeat (first | refine' DV ?_ | refine' DA ?_ | refine' DK0 ?_ | refine' DT ?_ | (refine' DC (num_pv q) (h:=?_);rotate_left) | (refine' DC (den_pv q (Nat.le_trans hd' oM)) (h:=?_);rotate_left) | refine' DS ?_))
 refine' DJ.call rfl rfl rfl rfl rfl (cO func176) (fun G hG hd=>outNat_pc q.den hd') (fun _ _ _ h k=>RN.mono h k) ?_;rotate_left
 (refine DJ.nil (fun G hG hF=>?_);(case hS|hS2=>rfl))
 obtain ⟨hN,⟨ra,rl,rc,hr,h1⟩,_⟩:=hF
 obtain ⟨xa,xc,hx⟩:=SlC.val hN
 rw [hx] at hN
 rw [hx,hr]
 try refine RUN ?_
 exact ⟨ra,rl,rc,xa,_,xc,rfl,h1,hN⟩
theorem refCmpN_pc {H:Hp} {u v:Value} {a b:Nat} (hu:RN H u a) (hv:RN H v b) (ha:rsm a):PC prog 134 #[u,v] H fun r _=>r=.int .i64 (ordN a b):=by
 have la:=ha.len
 have:=refCmpL_pc hu hv (dig_norm B32_two _) (dig_norm B32_two _) oM
 rwa [dig_val B32_two,dig_val B32_two] at this
theorem ordN_eqb (a b:Nat):(ordN a b == 0)=decide (a=b):=by
 unfold ordN
 rcases Nat.lt_trichotomy a b with h | h | h
 ·rw [if_pos h,decide_eq_false (by omega)];rfl
 ·rw [if_neg oM,if_neg oM,decide_eq_true h];rfl
 ·rw [if_neg oM,if_pos h,decide_eq_false (by omega)];rfl
theorem same_pc {H:Hp} {w:Value} {p q:Rat} (hw:RQ H w q) (hp:rq p) (hq:rq q):PC prog 82 #[fracV p,w] H fun r _=>r=.bool (decide (p=q)):=by
 obtain ⟨sa,sl,sc,ta,tl,tc,rfl,hs,ht⟩:=id hw
 have hl:(tl:Int)≠0:=by
  have h1:=SlN.cap ht
  have h2:=dig_ne_nil B32_two q.den_nz
  have h3:=List.length_pos_iff.2 h2
  omega
 refine BD func82 ntmps82 ?_
 try refine RUN ?_
 refine EVL.call rfl rfl rfl rfl rfl (out_pc p hp) ?_
 rintro r G ⟨sa',sl',sc',ta',tl',tc',rfl,hs',ht'⟩ hG
 have c1:=refCmpN_pc hs' (RN.mono hs hG) hp.num
 have c2:=refCmpN_pc ht' (RN.mono ht hG) hp.den
 try refine RUN ?_
 rw [show ((tl:Int) == 0)=false by simpa using hl]
 repeat (first | refine RUN ?_ | refine CV (c1) ?_ | refine CE (c1) ?_)
 rw [ordN_eqb]
 by_cases h1:p.num.natAbs=q.num.natAbs
 ·rw [decide_eq_true h1]
  try refine RUN ?_
  refine EVL.eqb rfl rfl rfl rfl rfl rfl kR ?_
  by_cases h2:decide (p.num<0)=decide (q.num<0)
  ·rw [show (decide (p.num<0) == decide (q.num<0))=true by simp [h2]]
   repeat (first | refine RUN ?_ | refine CV (c2) ?_ | refine CE (c2) ?_)
   rw [ordN_eqb]
   congr 1
   have hn:p.num=q.num:=by
    rw [decide_eq_decide] at h2;omega
   by_cases h3:p.den=q.den
   ·rw [decide_eq_true h3,decide_eq_true (Rat.ext hn h3)]
   ·rw [decide_eq_false h3,decide_eq_false (fun e=>h3 (by rw [e]))]
  ·rw [show (decide (p.num<0) == decide (q.num<0))=false by simpa using h2]
   try refine RUN ?_
   rw [decide_eq_false (fun e=>h2 (by rw [e]))]
 ·rw [decide_eq_false h1]
  try refine RUN ?_
  rw [decide_eq_false (fun e=>h1 (by rw [e]))]
def rDen (j:Nat):Int:=[1,1,1,2,3,4].getD j 1
def rNum (z:Int):Rat:=Rat.divInt (z % 41-20) (rDen (z.tdiv 41 % 6).toNat)
theorem rDen_range (j:Nat):1≤rDen j∧rDen j≤4:=by
 unfold rDen
 rcases j with _ | _ | _ | _ | _ | _ | j <;> simp [List.getD_eq_getElem?_getD]
theorem r_pc {H:Hp} (z:Int) (hz:-9223372036854775808≤z∧z<9223372036854775808):PC prog 63 #[.int .i64 z] H fun r H'=>RQ H' r (rNum z):=by
 have hq:-9223372036854775808≤z.tdiv 41∧z.tdiv 41<9223372036854775808:=by
  by_cases h:0≤z
  ·rw [Int.tdiv_eq_ediv_of_nonneg h];omega
  ·have e:z.tdiv 41 = -((-z) / 41):=by rw [← Int.tdiv_eq_ediv_of_nonneg oM,Int.neg_tdiv,Int.neg_neg]
   rw [e];omega
 have hqw:IntKind.i64.wrap (z.tdiv 41)=z.tdiv 41:=by rw [IntKind.wrap_i64];omega
 have h1:=pick_pv z 41 hz oM oM
 have h2:=pick_pv (z.tdiv 41) 6 hq oM oM
 have m1:=Int.emod_nonneg z (show (41:Int)≠0 by omega)
 have m2:=Int.emod_lt_of_pos z (show (0:Int)<41 by omega)
 obtain ⟨j,hj⟩:=Int.eq_ofNat_of_zero_le (Int.emod_nonneg (z.tdiv 41) (show (6:Int)≠0 by omega))
 have m3:=Int.emod_lt_of_pos (z.tdiv 41) (show (0:Int)<6 by omega)
 have hsub:IntKind.i64.wrap (z % 41-20)=z % 41-20:=by rw [IntKind.wrap_i64];omega
 have hrd:=rDen_range j
 have hrn:rNum z=Rat.divInt (z % 41-20) (rDen j):=by unfold rNum;rw [hj];rfl
 rw [hrn]
 have hidx:([.int .i64 1,.int .i64 1,.int .i64 1,.int .i64 2,.int .i64 3,.int .i64 4]:List Value)[j]?=some (.int .i64 (rDen j)):=by
  have hj6:j<6:=by omega
  rcases j with _ | _ | _ | _ | _ | _ | j <;> first | rfl | omega
 have ho:=fun G:Hp=>refOver_pc (H:=G) (z % 41-20) (rDen j) oM oM oM oM oM
 rw [hj] at h2
 refine BD func63 ntmps63 ?_
 repeat (first | refine RUN ?_ | refine CV (h1) ?_ | refine CE (h1) ?_)
 rw [hsub]
 refine EVL.buildArr rfl rfl rfl rfl rfl (cs:=[.int .i64 1,.int .i64 1,.int .i64 1,.int .i64 2,.int .i64 3,.int .i64 4]) kR ?_
 try refine RUN ?_
 rw [hqw]
 repeat (first | refine RUN ?_ | refine CV (h2) ?_ | refine CE (h2) ?_)
 refine EVL.indexArr (e:=2) (len:=6) tO rfl rfl rfl rfl kR rfl rfl rfl rfl rfl j rfl (show j<6 by omega) hidx ?_
 refine EVL.call rfl rfl rfl rfl rfl (ho H) ?_
 rintro r G ⟨ra,rl,rc,xa,xl,xc,rfl,hn,hd⟩ hG
 try refine RUN ?_
 exact ⟨ra,rl,rc,xa,xl,xc,rfl,hn,hd⟩
def QL (H:Hp) (v:Value) (l:List Rat):Prop:=SlC H v l.length 5 (l.flatMap fun q=>vlist (fracV q))
def RL (H:Hp) (v:Value) (l:List Rat):Prop:=∃ vs:List Value,vs.length=l.length∧(∀ (j:Nat) (x:Value) (q:Rat),vs[j]?=some x→l[j]?=some q→RQ H x q)∧SlC H v l.length 3 (vs.flatMap vlist)
theorem QL.mono {H G:Hp} {v:Value} {l:List Rat} (h:QL H v l) (k:H.Le G):QL G v l:=SlC.mono h k
theorem RL.mono {H G:Hp} {v:Value} {l:List Rat} (h:RL H v l) (k:H.Le G):RL G v l:=by
 obtain ⟨vs,h1,h2,h3⟩:=h
 exact ⟨vs,h1,fun j x q e1 e2=>(h2 j x q e1 e2).mono k,h3.mono k⟩
theorem QL.at {H:Hp} {v:Value} {l:List Rat} {j:Nat} {q:Rat} (hj:l[j]?=some q):((l.flatMap fun q=>vlist (fracV q)).drop (j*5)).take 5=vlist (fracV q):=flat_cut _ 5 l (fun _ _=>rfl) j q hj
theorem RQ.cells {H:Hp} {x:Value} {q:Rat} (h:RQ H x q):(vlist x).length=3∧oneB (vlist x)=true:=by
 obtain ⟨_,_,_,_,_,_,rfl,_,_⟩:=h
 exact ⟨rfl,rfl⟩
theorem RL.at {H:Hp} {v:Value} {l:List Rat} (h:RL H v l) {j:Nat} {q:Rat} (hj:l[j]?=some q):∃ (vs:List Value) (x:Value),SlC H v l.length 3 (vs.flatMap vlist)∧((vs.flatMap vlist).drop (j*3)).take 3=vlist x∧RQ H x q:=by
 obtain ⟨vs,h1,h2,h3⟩:=h
 obtain ⟨hl,rfl⟩:=List.getElem?_eq_some_iff.1 hj
 have hv:vs[j]?=some (vs[j]'(by omega)):=List.getElem?_eq_getElem oM
 have hall:∀ x,x∈vs→(vlist x).length=3:=fun x hx=>by
  obtain ⟨i,hi,rfl⟩:=List.getElem_of_mem hx
  exact (h2 i _ _ (List.getElem?_eq_getElem hi) (List.getElem?_eq_getElem oM)).cells.1
 exact ⟨vs,_,h3,flat_cut _ 3 vs hall j _ hv,h2 j _ _ hv hj⟩
theorem take_snoc {α:Type} {l:List α} {i:Nat} {x:α} (h:l[i]?=some x):l.take (i+1)=l.take i++[x]:=by
 obtain ⟨hl,rfl⟩:=List.getElem?_eq_some_iff.1 h
 exact List.take_succ_eq_append_getElem hl
theorem RL.val {H:Hp} {v:Value} {l:List Rat} (h:RL H v l):∃ a cap,v=.slice a l.length cap:=by
 obtain ⟨vs,_,_,h3⟩:=h
 exact SlC.val h3
theorem inRow_pc {H:Hp} {v:Value} {l:List Rat} (h:RL H v l) (hl:l.length≤100000000) (hq:∀ q,q∈l→rq q):PC prog 19 #[v] H fun r H'=>QL H' r l:=by
 obtain ⟨a,cap,rfl⟩:=RL.val h
 refine BD func19 ntmps19 ?_
 try refine RUN ?_
 refine EV.loopK (ι:=Nat × Value × Ows) [0] [] (fun q=>[(3,.v q.2.1),(4,.v (.int .i64 (q.1:Int)))]) (fun _=>[]) (fun q=>q.2.2) (fun q G=>q.1≤l.length∧OwnL 63 5 q.2.1 q.1 ((l.take q.1).flatMap fun q=>vlist (fracV q)) q.2.2) (fun q=>l.length-q.1) ((0,.slice none 0 0,[])) rfl rfl ⟨rfl,rfl,trivial⟩ trivial rfl (fun _=>rfl) (⟨Nat.zero_le _,OwnL.nil _ _⟩) ?_
 rintro ⟨i,w,ow⟩ G1 hG1 ⟨hi,hown⟩
 dsimp only at hi hown
 try refine RUN ?_
 refine EV.cond rfl (fun hlt=>?_) (fun hlt=>?_)
 ·simp only [nN] at hlt
  obtain ⟨q,hqi⟩:∃ q,l[i]?=some q:=⟨_,List.getElem?_eq_getElem hlt⟩
  obtain ⟨vs,x,hs,hc,hx⟩:=(h.mono hG1).at hqi
  obtain ⟨xa,xl,xc,ya,yl,yc,rfl,hx1,hx2⟩:=id hx
  try refine RUN ?_
  refine EVL.idxM tO rfl rfl rfl rfl rfl rfl rfl rfl rfl (hs) (i) (rfl) (hlt) (hc) ?_
  repeat (first | refine RUN ?_ | refine CV (in_pc hx (hq q (List.mem_of_getElem? hqi))) ?_ | refine CE (in_pc hx (hq q (List.mem_of_getElem? hqi))) ?_)
  refine EVL.app1 tO rfl rfl rfl rfl rfl rfl rfl rfl rfl rfl rfl rfl rfl rfl rfl rfl rfl rfl rfl (fun _=>rfl) (ow) ([]) ((List.append_nil _).symm) (hown) oM fun _=>?_
  intro v' ow' hown'
  try refine RUN ?_
  refine ⟨(i+1,v',ow'),⟨rfl,?_,trivial⟩,sB,trivial,trivial,List.append_nil _,⟨by dsimp only;omega,?_⟩,Hp.Le.refl _,by dsimp only;omega⟩
  ·rw [wi_inc i (by omega)];rfl
  ·dsimp only
   rw [take_snoc hqi,List.flatMap_append]
   exact hown'
 ·simp only [nN] at hlt
  obtain rfl:i=l.length:=by omega
  (first | refine EVL.publishL [] ow [] ((List.append_nil _).symm) hown fun G2 hG2 hs=>?_ | refine EV.publishL [] ow [] ((List.append_nil _).symm) hown fun G2 hG2 hs=>?_)
  try refine RUN ?_
  rw [List.take_length] at hs
  exact hs
end Go.Proofs.YtplhljjljnkhpaaGreatDoor
namespace Go.Proofs.YtplhljjljnkhpaaGreatDoor
def sumQ (l:List Rat):Rat:=l.foldl (·+·) 0
theorem sumQ_nil:sumQ []=0:=rfl
theorem sumQ_snoc (l:List Rat) (x:Rat):sumQ (l++[x])=sumQ l+x:=by unfold sumQ;rw [List.foldl_append];rfl
theorem ht_sumQ (B:Nat):∀ (l:List Rat),(∀ q,q∈l→ht q≤B)→ht (sumQ l.reverse)≤1+(B+1)*l.length
 | [],_=>by rw [List.reverse_nil,sumQ_nil,ht_zero];exact Nat.le_add_right ..
 | x::l,h=>by
  have h1:=ht_sumQ B l (fun q hq=>h q (List.mem_cons_of_mem _ hq))
  have h2:=h x (List.mem_cons_self ..)
  have h3:=ht_add (sumQ l.reverse) x
  rw [List.reverse_cons,sumQ_snoc,List.length_cons,Nat.mul_succ]
  omega
theorem ht_sum (B:Nat) (l:List Rat) (h:∀ q,q∈l→ht q≤B):ht (sumQ l)≤1+(B+1)*l.length:=by
 have:=ht_sumQ B l.reverse (fun q hq=>h q (List.mem_reverse.1 hq))
 rwa [List.reverse_reverse,List.length_reverse] at this
theorem drop_at {a:List Rat} {i:Nat} {x:Rat} (h:a[i]?=some x):a.drop i=x::a.drop (i+1):=by
 obtain ⟨hl,rfl⟩:=List.getElem?_eq_some_iff.1 h
 exact List.drop_eq_getElem_cons hl
def Rising (l:List Rat):Prop:=l.Pairwise (·≤·)
theorem rising_one {l m:List Rat} (h:Rising l) (k:Rising m) (p:l.Perm m):l=m:=List.Perm.eq_of_pairwise (fun a b _ _ h1 h2=>Rat.le_antisymm h1 h2) h k p
def putAt {α:Type} (l:List α) (k:Nat) (x:α):List α:=l.take k++x::l.drop k
theorem putAt_perm {α:Type} (l:List α) (k:Nat) (x:α):(putAt l k x).Perm (l++[x]):=by
 unfold putAt
 refine List.perm_middle.trans ?_
 rw [List.take_append_drop]
 exact (List.perm_append_comm (l₁:=[x]) (l₂:=l))
theorem putAt_rising {l:List Rat} {k:Nat} {x:Rat} (h:Rising l) (h1:∀ y,y∈l.take k→y≤x) (h2:∀ y,y∈l.drop k→x≤y):Rising (putAt l k x):=by
 unfold putAt Rising
 rw [List.pairwise_append]
 refine ⟨h.sublist (List.take_sublist ..),List.pairwise_cons.2 ⟨fun y hy=>h2 y hy,h.sublist (List.drop_sublist ..)⟩,fun a ha b hb=>?_⟩
 rcases List.mem_cons.1 hb with rfl | hb
 ·exact h1 a ha
 ·exact Rat.le_trans (h1 a ha) (h2 b hb)
theorem rising_take {l:List Rat} {k:Nat} {x y:Rat} (h:Rising l) (hk:l[k]?=some y) (hy:y≤x):∀ z,z∈l.take (k+1)→z≤x:=fun z hz=>by
 obtain ⟨hl,rfl⟩:=List.getElem?_eq_some_iff.1 hk
 rw [List.take_succ_eq_append_getElem hl] at hz
 rcases List.mem_append.1 hz with hz | hz
 ·have hp:Rising (l.take (k+1)):=h.sublist (List.take_sublist ..)
  unfold Rising at hp
  rw [List.take_succ_eq_append_getElem hl,List.pairwise_append] at hp
  exact Rat.le_trans (hp.2.2 z hz _ (List.mem_singleton.2 rfl)) hy
 ·rw [List.mem_singleton.1 hz];exact hy
def sortQ (l:List Rat):List Rat:=l.mergeSort fun a b=>decide (a≤b)
theorem sortQ_perm (l:List Rat):(sortQ l).Perm l:=List.mergeSort_perm l _
theorem sortQ_rising (l:List Rat):Rising (sortQ l):=by
 have:=List.pairwise_mergeSort (le:=fun a b:Rat=>decide (a≤b)) (fun a b c h1 h2=>by simp at h1 h2 ⊢;exact Rat.le_trans h1 h2) (fun a b=>by simp;exact Rat.le_total) l
 exact this.imp fun h=>by simpa using h
theorem sortQ_one {l m:List Rat} (h:m.Perm l) (k:Rising m):m=sortQ l:=rising_one k (sortQ_rising l) (h.trans (sortQ_perm l).symm)
end Go.Proofs.YtplhljjljnkhpaaGreatDoor
namespace Go.Proofs.YtplhljjljnkhpaaGreatDoor
open Go.RowKit _root_.Go.Proofs.Tryz
def RVs (H:Hp) (vs:List Value) (l:List Rat):Prop:=vs.length=l.length∧∀ (j:Nat) (x:Value) (q:Rat),vs[j]?=some x→l[j]?=some q→RQ H x q
theorem RVs.mono {H G:Hp} {vs:List Value} {l:List Rat} (h:RVs H vs l) (k:H.Le G):RVs G vs l:=⟨h.1,fun j x q e1 e2=>(h.2 j x q e1 e2).mono k⟩
theorem RVs.nil (H:Hp):RVs H [] []:=⟨rfl,fun j x q h=>by simp at h⟩
theorem RVs.snoc {H:Hp} {vs:List Value} {l:List Rat} {x:Value} {q:Rat} (h:RVs H vs l) (k:RQ H x q):RVs H (vs++[x]) (l++[q]):=by
 refine ⟨by simp [h.1],fun j y r e1 e2=>?_⟩
 rw [List.getElem?_append] at e1 e2
 by_cases hj:j<vs.length
 ·rw [if_pos hj] at e1
  rw [if_pos (by rw [← h.1];exact hj)] at e2
  exact h.2 j y r e1 e2
 ·rw [if_neg hj] at e1
  rw [if_neg (by rw [← h.1];exact hj)] at e2
  have:=h.1
  cases hk:j-vs.length with
  | zero =>
   rw [hk] at e1;rw [← h.1,hk] at e2
   simp at e1 e2;subst e1;subst e2;exact k
  | succ m=>rw [hk] at e1;simp at e1
theorem RVs.rl {H:Hp} {vs:List Value} {l:List Rat} {v:Value} (h:RVs H vs l) (hs:SlC H v l.length 3 (vs.flatMap vlist)):RL H v l:=⟨vs,h.1,h.2,hs⟩
abbrev IL (H:Hp) (v:Value) (l:List Int):Prop:=SlN (fun z:Int=>Value.int .i64 z) H v l
def rowQ (l:List Int) (n:Nat):List Rat:=(List.range n).map fun i=>match l[i]? with
 | some z=>rNum z
 | none=>0
theorem rowQ_len (l:List Int) (n:Nat):(rowQ l n).length=n:=by simp [rowQ]
theorem rowQ_some {l:List Int} {n i:Nat} {z:Int} (hi:i<n) (h:l[i]?=some z):(rowQ l n)[i]?=some (rNum z):=by
 unfold rowQ;rw [List.getElem?_map,List.getElem?_range hi];simp [h]
theorem rowQ_none {l:List Int} {n i:Nat} (hi:i<n) (h:l[i]?=none):(rowQ l n)[i]?=some 0:=by
 unfold rowQ;rw [List.getElem?_map,List.getElem?_range hi];simp [h]
theorem row_pc {H:Hp} {v:Value} {l:List Int} (h:IL H v l) (hb:∀ z,z∈l → -9223372036854775808≤z∧z<9223372036854775808) (n:Nat) (hn:n≤1000000):PC prog 20 #[v,.int .i64 (n:Int)] H fun r H'=>RL H' r (rowQ l n):=by
 obtain ⟨a,cap,rfl⟩:=SlC.val h
 have hz0:=fun G:Hp=>refOf_pc (H:=G) 0 oM oM
 rw [show ((0:Int):Rat)=0 from rfl] at hz0
 refine BD func20 ntmps20 ?_
 try refine RUN ?_
 refine EV.loopK (ι:=Nat × List Value × Value × Ows) [0,1] [] (fun q=>[(5,.v q.2.2.1),(6,.v (.int .i64 (q.1:Int)))]) (fun _=>[]) (fun q=>q.2.2.2) (fun q G=>q.1≤n∧RVs G q.2.1 ((rowQ l n).take q.1)∧OwnL 36 3 q.2.2.1 q.1 (q.2.1.flatMap vlist) q.2.2.2) (fun q=>n-q.1) ((0,[],.slice none 0 0,[])) rfl rfl ⟨rfl,rfl,trivial⟩ trivial rfl (fun _=>rfl) (⟨Nat.zero_le _,RVs.nil _,OwnL.nil _ _⟩) ?_
 rintro ⟨i,vs,w,ow⟩ G1 hG1 ⟨hi,hvs,hown⟩
 dsimp only at hi hvs hown
 try refine RUN ?_
 refine EV.cond rfl (fun hlt=>?_) (fun hlt=>?_)
 ·simp only [nN] at hlt
  try refine RUN ?_
  refine EV.cond rfl (fun hll=>?_) (fun hll=>?_)
  ·simp only [nN] at hll
   obtain ⟨z,hzi⟩:∃ z,l[i]?=some z:=⟨_,List.getElem?_eq_getElem hll⟩
   have hzb:=hb z (List.mem_of_getElem? hzi)
   have hq:=rowQ_some hlt hzi
   try refine RUN ?_
   refine EVL.idxR tO rfl rfl rfl rfl rfl rfl rfl rfl rfl rfl ((h.mono hG1)) (i) (rfl) (hll) ((by rw [List.getElem?_map,hzi];rfl)) ?_
   try refine RUN ?_
   refine EVL.call rfl rfl rfl rfl rfl (r_pc z hzb) ?_
   rintro r G2 hr hG2
   obtain ⟨xa,xl,xc,ya,yl,yc,rfl,hx1,hx2⟩:=id hr
   try refine RUN ?_
   refine EVL.app1 tO rfl rfl rfl rfl rfl rfl rfl rfl rfl rfl rfl rfl rfl rfl rfl rfl rfl rfl rfl (fun _=>rfl) (ow) ([]) ((List.append_nil _).symm) (hown) oM fun _=>?_
   intro v' ow' hown'
   try refine RUN ?_
   refine ⟨(i+1,vs++[_],v',ow'),⟨rfl,?_,trivial⟩,sB,trivial,trivial,List.append_nil _,⟨hlt,by rw [take_snoc hq];exact (hvs.mono hG2).snoc hr,?_⟩,hG2,by dsimp only;omega⟩
   ·rw [wi_inc i (by omega)];rfl
   ·dsimp only
    rw [List.flatMap_append]
    exact hown'
  ·simp only [nN] at hll
   have hzi:l[i]?=none:=List.getElem?_eq_none oM
   have hq:=rowQ_none hlt hzi
   try refine RUN ?_
   refine EVL.call rfl rfl rfl rfl rfl (hz0 _) ?_
   rintro r G2 hr hG2
   obtain ⟨xa,xl,xc,ya,yl,yc,rfl,hx1,hx2⟩:=id hr
   try refine RUN ?_
   refine EVL.app1 tO rfl rfl rfl rfl rfl rfl rfl rfl rfl rfl rfl rfl rfl rfl rfl rfl rfl rfl rfl (fun _=>rfl) (ow) ([]) ((List.append_nil _).symm) (hown) oM fun _=>?_
   intro v' ow' hown'
   try refine RUN ?_
   refine ⟨(i+1,vs++[_],v',ow'),⟨rfl,?_,trivial⟩,sB,trivial,trivial,List.append_nil _,⟨hlt,by rw [take_snoc hq];exact (hvs.mono hG2).snoc hr,?_⟩,hG2,by dsimp only;omega⟩
   ·rw [wi_inc i (by omega)];rfl
   ·dsimp only
    rw [List.flatMap_append]
    exact hown'
 ·simp only [nN] at hlt
  obtain rfl:i=n:=by omega
  (first | refine EVL.publishL [] ow [] ((List.append_nil _).symm) hown fun G2 hG2 hs=>?_ | refine EV.publishL [] ow [] ((List.append_nil _).symm) hown fun G2 hG2 hs=>?_)
  try refine RUN ?_
  have e:(rowQ l i).take i=rowQ l i:=List.take_of_length_le (by rw [rowQ_len];exact Nat.le_refl _)
  rw [e] at hvs
  exact (hvs.mono hG2).rl (by rw [rowQ_len];exact hs)
theorem ht_len {n:Nat} (h:n≤100000):ht ((n:Int):Rat)≤20:=by
 have:=ht_int (n:Int)
 have h2:bl (n:Int).natAbs≤17:=bl_le oM
 omega
def kb (z:Int):Nat:=(max 0 (min z 256)).toNat
theorem ht_divInt (n d:Int) (h:d≠0):ht (Rat.divInt n d)≤max (bl n.natAbs) (bl d.natAbs):=by
 rw [divInt_mk n d h]
 refine Nat.le_trans (ht_mk _ _ oM) ?_
 have:(if d<0 then -n else n).natAbs=n.natAbs:=by split <;> simp
 rw [this];exact Nat.le_refl _
theorem ht_rNum (z:Int):ht (rNum z)≤5:=by
 unfold rNum
 have hrd:=rDen_range (z.tdiv 41 % 6).toNat
 have m1:=Int.emod_nonneg z (show (41:Int)≠0 by omega)
 have m2:=Int.emod_lt_of_pos z (show (0:Int)<41 by omega)
 refine Nat.le_trans (ht_divInt _ _ oM) (Nat.max_le.2 ⟨bl_le oM,bl_le oM⟩)
theorem same_self {H:Hp} {w:Value} {p:Rat} (hw:RQ H w p) (hp:rq p):PC prog 82 #[fracV p,w] H fun r _=>r=.bool true:=by
 have:=same_pc hw hp hp
 rwa [decide_eq_true rfl] at this
theorem rq_small {q:Rat} {k:Nat} (h:ht q≤k) (hk:k≤100000000):rq q:=Nat.le_trans h hk
section
variable {P:Program} {n:Nat} {ops:Array Oper} {o:Oper} {rest:List Oper} {env:Env} {bx:Bxs} {H:Hs} {Q:EQ} {τ:Tab} {d:Nat}
end
theorem ordR_pos (a b:Rat):ordR a b>0↔b<a:=by
 unfold ordR
 constructor
 ·intro h
  split at h
  ·exact absurd h (by decide)
  ·split at h
   ·assumption
   ·exact absurd h (by decide)
 ·intro h
  rw [if_neg (Rat.not_lt.2 (Rat.le_of_lt h)),if_pos h];decide
theorem fracV_zero:fracV 0=.agg #[.bool false,.int .u64 0,.string ⟨#[]⟩,.int .u64 0,.string ⟨#[]⟩]:=by
 show frV 0 0=_
 rw [frV_zero,show (0:Int).natAbs=0 from rfl,moreB_empty (n:=0) (by decide)];rfl
theorem frac_zero_cells:vlist (fracV 0)=[.bool false,.int .u64 0,.string ⟨#[]⟩,.int .u64 0,.string ⟨#[]⟩]:=by rw [fracV_zero];rfl
theorem sm_of {q:Rat} {n:Nat} (h:ht q≤n) (hn:n≤100000000):sm q:=Nat.le_trans h hn
theorem sum_pc {H:Hp} {v:Value} {l:List Rat} (h:QL H v l) (hl:l.length≤100000) (hb:∀ q,q∈l→ht q≤100):PC prog 77 #[v] H fun r _=>r=fracV (sumQ l):=by
 obtain ⟨a,cap,rfl⟩:=SlC.val h
 have hz:vlist (fracV (sumQ (l.take 0)))=[.bool false,.int .u64 0,.string ⟨#[]⟩,.int .u64 0,.string ⟨#[]⟩]:=frac_zero_cells
 refine BD func77 ntmps77 ?_
 try refine RUN ?_
 refine EV.loopK (ι:=Nat) [2,3,6,7] [2] (fun i=>[(8,.v (.int .i64 (i:Int)))]) (fun i=>[(3,63,vlist (fracV (sumQ (l.take i))))]) (fun _=>[]) (fun i G=>i≤l.length) (fun i=>l.length-i) (0) rfl rfl ⟨rfl,trivial⟩ ⟨by rw [hz];rfl,trivial⟩ rfl (fun _=>rfl) (Nat.zero_le _) ?_
 intro i G1 hG1 hi
 try refine RUN ?_
 refine EV.cond rfl (fun hlt=>?_) (fun hlt=>?_)
 ·simp only [nN] at hlt
  obtain ⟨q,hqi⟩:∃ q,l[i]?=some q:=⟨_,List.getElem?_eq_getElem hlt⟩
  have hqb:=hb q (List.mem_of_getElem? hqi)
  have hsb:=ht_sum 100 (l.take i) (fun q hq=>hb q (List.mem_of_mem_take hq))
  rw [List.length_take,Nat.min_eq_left hi] at hsb
  have hadd:=add_pv (sumQ (l.take i)) q (sm_of hsb oM) (sm_of hqb oM)
  rw [← sumQ_snoc,← take_snoc hqi] at hadd
  try refine RUN ?_
  refine EVL.idxM tO rfl rfl rfl rfl rfl rfl rfl rfl rfl ((SlC.mono (show SlC H (.slice a l.length cap) l.length 5 (l.flatMap fun q=>vlist (fracV q)) from h) hG1)) (i) (rfl) (hlt) ((QL.at (H:=H) (v:=.slice a l.length cap) hqi)) ?_
  repeat (first | refine RUN ?_ | refine CV (hadd) ?_ | refine CE (hadd) ?_)
  refine ⟨i+1,⟨?_,trivial⟩,sB,⟨rfl,trivial⟩,sB,rfl,hlt,Hp.Le.refl _,by omega⟩
  rw [wi_inc i (by omega)];rfl
 ·simp only [nN] at hlt
  obtain rfl:i=l.length:=by omega
  rw [List.take_length]
  try refine RUN ?_
  rfl
theorem mean_pc {H:Hp} {v:Value} {l:List Rat} (h:QL H v l) (hl:l.length≤100000) (h0:l.length≠0) (hb:∀ q,q∈l→ht q≤100):PC prog 28 #[v] H fun r _=>r=.tuple #[fracV (sumQ l / ((l.length:Int):Rat)),.bool true]:=by
 obtain ⟨a,cap,rfl⟩:=SlC.val h
 have hs:=ht_sum 100 l hb
 have hln:=ht_len hl
 have hsum:=sum_pc h hl hb
 have hof:=of_pv (l.length:Int) oM oM
 have hd:=div_pv (sumQ l) ((l.length:Int):Rat) (sm_of hs oM) (sm_of hln oM) (by intro e;have:((l.length:Int):Rat)=((0:Int):Rat):=e;exact h0 (by have:=Rat.intCast_inj.1 this;omega))
 refine BD func28 ntmps28 ?_
 repeat (first | refine RUN ?_ | refine CV (hsum) ?_ | refine CV (hof) ?_ | refine CV (hd) ?_ | refine CE (hsum) ?_ | refine CE (hof) ?_ | refine CE (hd) ?_)
 rfl
theorem mean_no {H:Hp} {v:Value} (h:QL H v []):PC prog 28 #[v] H fun r _=>r=.tuple #[fracV 0,.bool false]:=by
 obtain ⟨a,cap,rfl⟩:=SlC.val h
 have hsum:=sum_pc h (Nat.zero_le _) (by intro q hq;cases hq)
 have hof:=of_pv 0 oM oM
 rw [show ((0:Int):Rat)=0 from rfl] at hof
 have hd:=div_zero_pv 0
 refine BD func28 ntmps28 ?_
 repeat (first | refine RUN ?_ | refine CV (hsum) ?_ | refine CV (hof) ?_ | refine CV (hd) ?_ | refine CE (hsum) ?_ | refine CE (hof) ?_ | refine CE (hd) ?_)
 rfl
abbrev cmpF:Value:=.func (.func 24) #[] #[]
abbrev cellsQ (l:List Rat):List Value:=l.flatMap fun q=>vlist (fracV q)
theorem cq_get {l:List Rat} (sp:List Value) {j:Nat} {q:Rat} (h:l[j]?=some q):((cellsQ l++sp).drop (j*5)).take 5=vlist (fracV q):=flat_get_app (f:=fun q=>vlist (fracV q)) (fun _ _=>rfl) sp h
theorem cq_set {l:List Rat} (sp:List Value) {j:Nat} (q:Rat) (h:j<l.length):(cellsQ l++sp).take (j*5)++vlist (fracV q)++(cellsQ l++sp).drop (j*5+5)=cellsQ (l.set j q)++sp:=flat_set_app (f:=fun q=>vlist (fracV q)) (fun _ _=>rfl) sp q h
theorem cq_len (l:List Rat):(cellsQ l).length=l.length*5:=flat_len _ 5 l (fun _ _=>rfl)
theorem put_x {acc rest:List Rat} {j:Nat} {x:Rat} (h:j≤acc.length):(putAt acc j x++rest)[j]?=some x:=by
 unfold putAt
 rw [List.append_assoc,List.getElem?_append_right (by rw [List.length_take];omega),List.length_take,Nat.min_eq_left h,Nat.sub_self];rfl
theorem put_y {acc rest:List Rat} {j:Nat} {x y:Rat} (h:acc[j]?=some y):(putAt acc (j+1) x++rest)[j]?=some y:=by
 obtain ⟨hl,_⟩:=List.getElem?_eq_some_iff.1 h
 unfold putAt
 rw [List.append_assoc,List.getElem?_append_left (by rw [List.length_take];omega),List.getElem?_take_of_lt oM,h]
theorem put_len {acc rest:List Rat} {j:Nat} {x:Rat}:(putAt acc j x++rest).length=acc.length+1+rest.length:=by
 have:=(putAt_perm acc j x).length_eq
 rw [List.length_append,this,List.length_append];rfl
theorem put_swap {acc rest:List Rat} {j:Nat} {x y:Rat} (h:acc[j]?=some y):((putAt acc (j+1) x++rest).set (j+1) y).set j x=putAt acc j x++rest:=by
 obtain ⟨hl,hy⟩:=List.getElem?_eq_some_iff.1 h
 have hlen:(acc.take j).length=j:=by rw [List.length_take];omega
 unfold putAt
 rw [List.take_succ_eq_append_getElem hl,hy,List.drop_eq_getElem_cons hl,hy]
 rw [show (acc.take j++[y]++x::acc.drop (j+1)++rest)=acc.take j++(y::x::(acc.drop (j+1)++rest)) by simp,
  List.set_append_right (j+1) y oM,hlen,show j+1-j=1 by omega,List.set_cons_succ,List.set_cons_zero,
  List.set_append_right j x oM,hlen,Nat.sub_self,List.set_cons_zero]
 simp
theorem put_start (acc rest:List Rat) (x:Rat):putAt acc acc.length x++rest=acc++x::rest:=by
 unfold putAt;rw [List.take_length,List.drop_length];simp
set_option maxHeartbeats 8000000 in
theorem insertion_pw {H:Hp} {b cap:Nat} {l:List Rat} {sp:List Value} (hl:l.length≤1000) (hb:∀ q,q∈l→sm q) :
  PW prog 165 #[.slice (some ⟨b,0,none⟩) l.length cap,.int .i64 0,.int .i64 (l.length:Int),cmpF] H [(b,63,cellsQ l++sp)] fun v ow _=>v=.tuple #[]∧∃ m,ow=[(b,63,cellsQ m++sp)]∧m.Perm l∧Rising m:=by
 refine PW.body tO func165 rfl kR ntmps165 rfl rfl ?_
 try refine RUN ?_
 refine EV.loopK (ι:=Nat × List Rat) [0,1,2,3] [] (fun q=>[(8,.v (.int .i64 (q.1:Int)))]) (fun _=>[]) (fun q=>[(b,63,cellsQ q.2++sp)]) (fun q _=>1≤q.1∧q.2.Perm l∧Rising (q.2.take q.1)) (fun q=>l.length-q.1) ((1,l)) rfl rfl ⟨rfl,trivial⟩ trivial rfl (fun _=>rfl) (⟨Nat.le_refl _,List.Perm.refl _,by cases l with | nil=>exact List.Pairwise.nil | cons a l=>exact List.pairwise_singleton _ _⟩) ?_
 rintro ⟨i,cur⟩ G1 hG1 ⟨h1,hperm,hris⟩
 dsimp only at h1 hperm hris
 have hcl:=hperm.length_eq
 try refine RUN ?_
 refine EV.cond rfl (fun hlt=>?_) (fun hlt=>?_)
 ·simp only [nN] at hlt
  obtain ⟨x,hxi⟩:∃ x,cur[i]?=some x:=⟨_,List.getElem?_eq_getElem oM⟩
  have hcut:cur=cur.take i++x::cur.drop (i+1):=by rw [← drop_at hxi,List.take_append_drop]
  have hal:(cur.take i).length=i:=by rw [List.length_take];omega
  have hsmx:sm x:=hb x (hperm.mem_iff.1 (List.mem_of_getElem? hxi))
  have hsma:∀ y,y∈cur.take i→sm y:=fun y hy=>hb y (hperm.mem_iff.1 (List.mem_of_mem_take hy))
  have hrl:(cur.drop (i+1)).length=l.length-(i+1):=by rw [List.length_drop];omega
  have hst:=put_start (cur.take i) (cur.drop (i+1)) x
  rw [hal,← hcut] at hst
  generalize hacc:cur.take i=acc at *
  generalize cur.drop (i+1)=rest at *
  subst hal
  subst hst
  try refine RUN ?_
  refine EV.loopK (ι:=Nat) [0,1,2,3,8] [] (fun j=>[(9,.v (.int .i64 (j:Int)))]) (fun _=>[]) (fun j=>[(b,63,cellsQ (putAt acc j x++rest)++sp)]) (fun j _=>j≤acc.length∧∀ y,y∈acc.drop j→x≤y) (fun j=>j) (acc.length) rfl rfl ⟨rfl,trivial⟩ trivial rfl (fun _=>rfl) (⟨Nat.le_refl _,by rw [List.drop_length];intro y hy;cases hy⟩) ?_
  rintro j G2 hG2 ⟨hj,hgr⟩
  have hlen:=put_len (acc:=acc) (rest:=rest) (j:=j) (x:=x)
  have hx':=put_x (rest:=rest) (x:=x) hj
  have hp':=putAt_perm acc j x
  have hsum:(putAt acc j x++rest).length=l.length:=by rw [hlen];omega
  rw [← hsum]
  have next:(putAt acc j x++rest).Perm l:=by
   refine List.Perm.trans ?_ hperm
   exact (hp'.trans (putAt_perm acc acc.length x).symm).append_right rest
  have fin:Rising (putAt acc j x)→Rising ((putAt acc j x++rest).take (acc.length+1)):=fun h=>by
   rw [List.take_append_of_le_length (by rw [hp'.length_eq];simp)]
   rwa [List.take_of_length_le (by rw [hp'.length_eq];simp)]
  cases j with
  | zero =>
   have hr:=fin (putAt_rising hris (by intro y hy;rw [List.take_zero] at hy;cases hy) hgr)
   try refine RUN ?_
   apply EV.drawn 17 kR kR;intro xv yw
   (repeat (first | refine' DV ?_ | refine' DA ?_ | refine' DK0 ?_ | refine' DT ?_ | refine' DS ?_))
   (refine DJ.nil (fun G3 hG3 hF3=>?_);(case hS|hS2=>rfl))
   try refine RUN ?_
   refine ⟨(acc.length+1,putAt acc 0 x++rest),⟨?_,trivial⟩,sB,trivial,trivial,rfl,⟨by omega,next,hr⟩,hG2.trans hG3,by dsimp only;omega⟩
   rw [wi_inc _ (by omega)];rfl
  | succ j =>
   obtain ⟨y,hyj⟩:∃ y,acc[j]?=some y:=⟨_,List.getElem?_eq_getElem oM⟩
   have hy':=put_y (rest:=rest) (x:=x) hyj
   have hc:=cmp_pv x y hsmx (hsma y (List.mem_of_getElem? hyj))
   have hlo:ordR x y<0→x≤y:=fun h=>by
    unfold ordR at h;split at h
    ·exact Rat.le_of_lt (by assumption)
    ·split at h <;> omega
   have hge:¬ ordR x y<0→y≤x:=fun h=>by
    unfold ordR at h;split at h
    ·omega
    ·rename_i k;exact Rat.not_lt.1 k
   generalize ordR x y=o at *
   try refine RUN ?_
   apply EV.drawn 17 kR kR;intro xv yw
   (repeat (first | refine' DV ?_ | refine' DA ?_ | refine' DK0 ?_ | refine' DT ?_ | refine' DS ?_))
   rw [decide_eq_true (show ((j+1:Nat):Int)>0 by omega)]
   (repeat (first | refine' DV ?_ | refine' DA ?_ | refine' DK0 ?_ | refine' DT ?_ | refine' DS ?_))
   refine' DJ.idxB tO rfl rfl rfl rfl rfl rfl rfl rfl rfl (j+1) ((j+1)*5) (rfl) (oM) (rfl) ?_;rotate_left
   refine' DJ.ofVal (ValOk.loadOwn tO rfl rfl rfl rfl (0) rfl (cq_get sp hx') rfl rfl) rfl rfl rfl ?_;rotate_left
   (repeat (first | refine' DV ?_ | refine' DA ?_ | refine' DK0 ?_ | refine' DT ?_ | refine' DS ?_))
   refine' DJ.idxB tO rfl rfl rfl rfl rfl rfl rfl rfl rfl (j) (j*5) ((by rw [IntKind.wrap_i64];omega)) (oM) (rfl) ?_;rotate_left
   refine' DJ.ofVal (ValOk.loadOwn tO rfl rfl rfl rfl (0) rfl (cq_get sp hy') rfl rfl) rfl rfl rfl ?_;rotate_left
   (refine' DJ.callD rfl rfl rfl rfl rfl rfl hc ?_;rotate_left)
   (repeat (first | refine' DV ?_ | refine' DA ?_ | refine' DK0 ?_ | refine' DT ?_ | refine' DS ?_))
   (refine DJ.nil (fun G3 hG3 hF3=>?_);(case hS|hS2=>rfl))
   try refine RUN ?_
   by_cases ho:o<0
   ·rw [decide_eq_true ho]
    have hxy:=hlo ho
    try refine RUN ?_
    refine EVA.start kR ?_
    refine EVA.val tO (0) rfl kR kR kR rfl rfl rfl rfl rfl ?_
    refine EVA.val tO (1) rfl kR kR kR rfl rfl rfl rfl rfl ?_
    refine EVA.val tO (5) rfl kR kR kR rfl rfl rfl rfl rfl ?_
    refine EVA.val tO (6) rfl kR kR kR rfl rfl rfl rfl rfl ?_
    refine EVA.val tO (7) rfl kR kR kR rfl rfl rfl rfl rfl ?_
    refine EVA.idxB tO (8) rfl kR kR kR rfl rfl rfl rfl rfl rfl rfl rfl rfl (j) (j*5) ((by rw [IntKind.wrap_i64];omega)) (oM) (rfl) ?_
    refine EVA.val tO (10) rfl kR kR kR rfl rfl rfl rfl rfl ?_
    refine EVA.val tO (11) rfl kR kR kR rfl rfl rfl rfl rfl ?_
    refine EVA.idxB tO (12) rfl kR kR kR rfl rfl rfl rfl rfl rfl rfl rfl rfl (j+1) ((j+1)*5) (rfl) (oM) (rfl) ?_
    refine EVA.val tO (2) rfl kR kR kR rfl rfl rfl rfl rfl ?_
    refine EVA.val tO (3) rfl kR kR kR rfl rfl rfl rfl rfl ?_
    refine EVA.val tO (4) rfl kR kR kR rfl rfl rfl rfl rfl ?_
    refine EVA.two 9 13 kR rfl rfl ?_ ?_
    ·refine EVL.loadOwn tO rfl rfl rfl rfl rfl rfl (0) rfl (cq_get sp hy') rfl rfl ?_
     refine EVL.nil ⟨rfl,?_⟩
     refine EVA.one 13 kR rfl ?_
     refine EVL.loadOwn tO rfl rfl rfl rfl rfl rfl (0) rfl (cq_get sp hx') rfl rfl ?_
     refine EVL.nil ⟨rfl,?_⟩
     refine EVA.idxB tO (14) rfl kR kR kR rfl rfl rfl rfl rfl rfl rfl rfl rfl (j+1) ((j+1)*5) (rfl) (oM) (rfl) ?_
     refine EVA.one 15 kR rfl ?_
     refine EVL.storeOwn tO rfl rfl rfl rfl rfl rfl ([]) ([]) rfl rfl rfl rfl ((by rw [List.length_append,cq_len];show (j+1)*5+5≤_;omega)) ((cq_set sp y (show j+1<(putAt acc (j+1) x++rest).length by omega))) ?_
     refine EVL.nil ⟨rfl,?_⟩
     refine EVA.idxB tO (16) rfl kR kR kR rfl rfl rfl rfl rfl rfl rfl rfl rfl (j) (j*5) ((by rw [IntKind.wrap_i64];omega)) (oM) (rfl) ?_
     refine EVA.one 17 kR rfl ?_
     refine EVL.storeOwn tO rfl rfl rfl rfl rfl rfl ([]) ([]) rfl rfl rfl rfl ((by rw [List.length_append,cq_len,List.length_set];show j*5+5≤_;omega)) ((cq_set sp x (show j<((putAt acc (j+1) x++rest).set (j+1) y).length by rw [List.length_set];omega))) ?_
     refine EVL.nil ⟨rfl,?_⟩
     refine EVA.nil kR ?_
     rw [put_swap hyj]
     try refine RUN ?_
     refine ⟨j,⟨?_,trivial⟩,sB,trivial,trivial,rfl,⟨by omega,?_⟩,hG3,by omega⟩
     ·rw [show IntKind.i64.wrap (((j+1:Nat):Int)-1)=(j:Int) by rw [IntKind.wrap_i64];omega];rfl
     ·intro z hz
      rw [drop_at hyj] at hz
      rcases List.mem_cons.1 hz with rfl | hz
      ·exact hxy
      ·exact hgr z hz
    ·refine EVL.loadOwn tO rfl rfl rfl rfl rfl rfl (0) rfl (cq_get sp hx') rfl rfl ?_
     refine EVL.nil ⟨rfl,?_⟩
     refine EVA.one 9 kR rfl ?_
     refine EVL.loadOwn tO rfl rfl rfl rfl rfl rfl (0) rfl (cq_get sp hy') rfl rfl ?_
     refine EVL.nil ⟨rfl,?_⟩
     refine EVA.idxB tO (14) rfl kR kR kR rfl rfl rfl rfl rfl rfl rfl rfl rfl (j+1) ((j+1)*5) (rfl) (oM) (rfl) ?_
     refine EVA.one 15 kR rfl ?_
     refine EVL.storeOwn tO rfl rfl rfl rfl rfl rfl ([]) ([]) rfl rfl rfl rfl ((by rw [List.length_append,cq_len];show (j+1)*5+5≤_;omega)) ((cq_set sp y (show j+1<(putAt acc (j+1) x++rest).length by omega))) ?_
     refine EVL.nil ⟨rfl,?_⟩
     refine EVA.idxB tO (16) rfl kR kR kR rfl rfl rfl rfl rfl rfl rfl rfl rfl (j) (j*5) ((by rw [IntKind.wrap_i64];omega)) (oM) (rfl) ?_
     refine EVA.one 17 kR rfl ?_
     refine EVL.storeOwn tO rfl rfl rfl rfl rfl rfl ([]) ([]) rfl rfl rfl rfl ((by rw [List.length_append,cq_len,List.length_set];show j*5+5≤_;omega)) ((cq_set sp x (show j<((putAt acc (j+1) x++rest).set (j+1) y).length by rw [List.length_set];omega))) ?_
     refine EVL.nil ⟨rfl,?_⟩
     refine EVA.nil kR ?_
     rw [put_swap hyj]
     try refine RUN ?_
     refine ⟨j,⟨?_,trivial⟩,sB,trivial,trivial,rfl,⟨by omega,?_⟩,hG3,by omega⟩
     ·rw [show IntKind.i64.wrap (((j+1:Nat):Int)-1)=(j:Int) by rw [IntKind.wrap_i64];omega];rfl
     ·intro z hz
      rw [drop_at hyj] at hz
      rcases List.mem_cons.1 hz with rfl | hz
      ·exact hxy
      ·exact hgr z hz
   ·rw [decide_eq_false ho]
    have hr:=fin (putAt_rising hris (rising_take hris hyj (hge ho)) hgr)
    try refine RUN ?_
    refine ⟨(acc.length+1,putAt acc (j+1) x++rest),⟨?_,trivial⟩,sB,trivial,trivial,rfl,⟨by omega,next,hr⟩,hG2.trans hG3,by dsimp only;omega⟩
    rw [wi_inc _ (by omega)];rfl
 ·simp only [nN] at hlt
  rw [List.take_of_length_le (by omega)] at hris
  try refine RUN ?_
  exact ⟨rfl,cur,rfl,hperm,hris⟩
theorem oneB_app:∀ {a b:List Value},oneB a=true→oneB b=true→oneB (a++b)=true
 | [],_,_,h=>h
 | v::a,b,h,k=>by
  unfold oneB at h
  rw [List.cons_append]
  unfold oneB
  rw [Bool.and_eq_true] at h ⊢
  exact ⟨h.1,oneB_app h.2 k⟩
theorem oneB_cq:∀ l:List Rat,oneB (cellsQ l)=true
 | []=>rfl
 | q::l=>oneB_app (a:=vlist (fracV q)) rfl (oneB_cq l)
theorem bitsLen_pv (n:Nat) (h:n≤1000):∃ z:Int,PV prog 131 #[.int .u64 (n:Int)] (.int .i64 z) :=
 ⟨_,(cO func131),fun W _=>(Tryz.bits_Len (n:Int) W oM oM).mono fun e W' ⟨he,hw⟩=>⟨he,by rw [hw];exact Below.refl _ _⟩⟩
theorem insertion_nil (a:Option Addr) (cap:Nat):PV prog 165 #[.slice a 0 cap,.int .i64 0,.int .i64 0,cmpF] (.tuple #[]):=by
 refine PV.of_pc ?_
 refine BD func165 ntmps165 ?_
 try refine RUN ?_
 refine EV.loopK (ι:=Unit) [0,1,2,3] [] (fun _=>[(8,.v (.int .i64 1))]) (fun _=>[]) (fun _=>[]) (fun _ _=>True) (fun _=>0) (()) rfl rfl ⟨rfl,trivial⟩ trivial rfl (fun _=>rfl) (trivial) ?_
 rintro ⟨⟩ G1 hG1 _
 try refine RUN ?_
 rfl
theorem pdq_nil (a:Option Addr) (cap:Nat) (z:Int):PV prog 130 #[.slice a 0 cap,.int .i64 0,.int .i64 0,.int .i64 z,cmpF] (.tuple #[]):=by
 refine PV.of_pc ?_
 have hi:=insertion_nil a cap
 refine BD func130 ntmps130 ?_
 try refine RUN ?_
 refine EV.loopK (ι:=Unit) [0,4] [] (fun _=>[(1,.v (.int .i64 0)),(2,.v (.int .i64 0)),(3,.v (.int .i64 z)),(10,.v (.bool true)),(11,.v (.bool true))]) (fun _=>[]) (fun _=>[]) (fun _ _=>True) (fun _=>0) (()) rfl rfl ⟨rfl,rfl,rfl,rfl,rfl,trivial⟩ trivial rfl (fun _=>rfl) (trivial) ?_
 rintro ⟨⟩ G1 hG1 _
 repeat (first | refine RUN ?_ | refine CV (hi) ?_ | refine CE (hi) ?_)
 rfl
theorem sortf_nil (a:Option Addr) (cap:Nat):PV prog 80 #[.slice a 0 cap,cmpF] (.tuple #[]):=by
 refine PV.of_pc ?_
 obtain ⟨z,hb⟩:=bitsLen_pv 0 oM
 have hp:=pdq_nil a cap z
 refine BD func80 ntmps80 ?_
 repeat (first | refine RUN ?_ | refine CV (hb) ?_ | refine CV (hp) ?_ | refine CE (hb) ?_ | refine CE (hp) ?_)
 rfl
theorem pdq_pw {H:Hp} {b cap:Nat} {l:List Rat} {sp:List Value} (z:Int) (hl:l.length≤12) (hb:∀ q,q∈l→sm q) :
  PW prog 130 #[.slice (some ⟨b,0,none⟩) l.length cap,.int .i64 0,.int .i64 (l.length:Int),.int .i64 z,cmpF] H [(b,63,cellsQ l++sp)] fun v ow _=>v=.tuple #[]∧∃ m,ow=[(b,63,cellsQ m++sp)]∧m.Perm l∧Rising m:=by
 refine PW.body tO func130 rfl kR ntmps130 rfl rfl ?_
 try refine RUN ?_
 refine EV.loopK (ι:=Unit) [0,4] [] (fun _=>[(1,.v (.int .i64 0)),(2,.v (.int .i64 (l.length:Int))),(3,.v (.int .i64 z)),(10,.v (.bool true)),(11,.v (.bool true))]) (fun _=>[]) (fun _=>[(b,63,cellsQ l++sp)]) (fun _ _=>True) (fun _=>0) (()) rfl rfl ⟨rfl,rfl,rfl,rfl,rfl,trivial⟩ trivial rfl (fun _=>rfl) (trivial) ?_
 rintro ⟨⟩ G1 hG1 _
 try refine RUN ?_
 rw [show IntKind.i64.wrap ((l.length:Int)-0)=(l.length:Int) by rw [IntKind.wrap_i64];omega,decide_eq_true (show (l.length:Int)≤12 by omega)]
 try refine RUN ?_
 refine EVL.callW rfl rfl rfl rfl rfl ([(b,63,cellsQ l++sp)]) ([]) rfl (insertion_pw oM hb) ?_
 rintro v ow G2 ⟨rfl,m,rfl,hp,hr⟩ hG2
 try refine RUN ?_
 exact ⟨rfl,m,rfl,hp,hr⟩
theorem sortf_pw {H:Hp} {b cap:Nat} {l:List Rat} {sp:List Value} (hl:l.length≤12) (hb:∀ q,q∈l→sm q) :
  PW prog 80 #[.slice (some ⟨b,0,none⟩) l.length cap,cmpF] H [(b,63,cellsQ l++sp)] fun v ow _=>v=.tuple #[]∧∃ m,ow=[(b,63,cellsQ m++sp)]∧m.Perm l∧Rising m:=by
 obtain ⟨z,hbl⟩:=bitsLen_pv l.length oM
 refine PW.body tO func80 rfl kR ntmps80 rfl rfl ?_
 try refine RUN ?_
 rw [show IntKind.u64.wrap (l.length:Int)=(l.length:Int) by rw [wrapU64];omega]
 repeat (first | refine RUN ?_ | refine CV (hbl) ?_ | refine CE (hbl) ?_)
 refine EVL.callW rfl rfl rfl rfl rfl ([(b,63,cellsQ l++sp)]) ([]) rfl (pdq_pw z hl hb) ?_
 rintro v ow G2 ⟨rfl,m,rfl,hp,hr⟩ hG2
 try refine RUN ?_
 exact ⟨rfl,m,rfl,hp,hr⟩
theorem clone_pw {H:Hp} {v:Value} {l:List Rat} (h:QL H v l) (h0:0<l.length) (hl:l.length≤1000):PW prog 79 #[v] H [] fun r ow _=>OwnL 63 5 r l.length (cellsQ l) ow:=by
 have hs:=h.2
 rcases hs with ⟨e,_⟩ | ⟨b,off,cap,c,rfl,_⟩
 ·omega
 ·refine PW.body tO func79 rfl kR ntmps79 rfl rfl ?_
  try refine RUN ?_
  refine EVL.eqnil tO rfl rfl rfl rfl rfl rfl rfl ?_
  try refine RUN ?_
  refine EVL.lit0 tO rfl rfl rfl rfl rfl rfl rfl fun g0=>?_
  try refine RUN ?_
  refine EVL.append tO rfl rfl rfl rfl rfl rfl rfl rfl rfl rfl rfl rfl [] [(g0,63,[])] [] rfl (OwnL.full (m:=0) rfl oM) (SrcAt.ro h h0) (oneB_cq l) oM ?_
  intro v1 ow1 hown1
  try refine RUN ?_
  rw [Nat.zero_add] at hown1
  rw [List.append_nil]
  exact hown1
theorem clone_nil {H:Hp} {v:Value} (h:QL H v []):PC prog 79 #[v] H fun r _=>∃ a cap,r=.slice a 0 cap:=by
 obtain ⟨a,cap,rfl⟩:=SlC.val h
 refine BD func79 ntmps79 ?_
 try refine RUN ?_
 refine EVL.eqnil tO rfl rfl rfl rfl rfl rfl rfl ?_
 cases a with
 | none =>
  try refine RUN ?_
  exact ⟨_,_,rfl⟩
 | some x =>
  try refine RUN ?_
  refine EVL.lit0 tO rfl rfl rfl rfl rfl rfl rfl fun g0=>?_
  try refine RUN ?_
  refine EVL.append0 tO rfl rfl rfl rfl rfl rfl rfl rfl rfl (Nat.le_refl _) ?_
  try refine RUN ?_
  exact ⟨_,_,rfl⟩
theorem sort_nil {H:Hp} {v:Value} (h:QL H v []):PC prog 29 #[v] H fun r H'=>QL H' r []:=by
 obtain ⟨a,cap,rfl⟩:=SlC.val h
 refine BD func29 ntmps29 ?_
 try refine RUN ?_
 refine EVL.call rfl rfl rfl rfl rfl (clone_nil h) ?_
 rintro r G1 ⟨a1,c1,rfl⟩ hG1
 repeat (first | refine RUN ?_ | refine CV (sortf_nil a1 c1) ?_ | refine CE (sortf_nil a1 c1) ?_)
 exact ⟨rfl,.inl ⟨rfl,_,_,rfl⟩⟩
theorem sort_pc {H:Hp} {v:Value} {l:List Rat} (h:QL H v l) (hl:l.length≤12) (hb:∀ q,q∈l→sm q):PC prog 29 #[v] H fun r H'=>∃ m,QL H' r m∧m.Perm l∧Rising m:=by
 by_cases h0:l.length=0
 ·obtain rfl:=List.length_eq_zero_iff.1 h0
  exact (sort_nil h).mono fun r H' hr _=>⟨[],hr,List.Perm.refl _,List.Pairwise.nil⟩
 obtain ⟨a,cap,rfl⟩:=SlC.val h
 refine BD func29 ntmps29 ?_
 try refine RUN ?_
 refine EVL.callW rfl rfl rfl rfl rfl ([]) ([]) rfl (clone_pw h oM oM) ?_
 intro r ow G1 hown hG1
 obtain ⟨g,cap1,sp,rfl,rfl,hlen,hc1,hc2⟩:=hown.block oM
 try refine RUN ?_
 refine EVL.callW rfl rfl rfl rfl rfl ([(g,63,cellsQ l++sp)]) ([]) rfl (sortf_pw hl hb) ?_
 rintro v ow G2 ⟨rfl,m,rfl,hp,hr⟩ hG2
 (first | refine EVL.publish [] [] rfl fun G3 hG3 hg=>?_ | refine EV.publish [] [] rfl fun G3 hG3 hg=>?_)
 try refine RUN ?_
 refine ⟨m,⟨by rw [cq_len],.inr ⟨g,0,cap1,_,by rw [hp.length_eq],by rw [hp.length_eq];exact hc1,hg,fun j x hj=>?_⟩⟩,hp,hr⟩
 rw [Nat.zero_add,List.getElem?_toArray,List.getElem?_append_left (List.getElem?_eq_some_iff.1 hj).1]
 exact hj
def sideC (n:Int) (cs:List Int) (sq:Int) (q:Rat):List Value:=.int .i64 n::(cs.map (fun z=>Value.int .i64 z)++(.int .i64 sq::vlist (fracV q)))
theorem sideC_len {n:Int} {cs:List Int} {sq:Int} {q:Rat} (h:cs.length=12):(sideC n cs sq q).length=19:=by
 unfold sideC;rw [List.length_cons,List.length_append,List.length_map,h];rfl
theorem drop_mid {α:Type} {a b:List α} {k:Nat} (h:a.length=k):(a++b).drop k=b:=List.drop_left' h
theorem side_n {n:Int} {cs:List Int} {sq:Int} {q:Rat}:((sideC n cs sq q).drop 0).take 1=[.int .i64 n]:=rfl
theorem side_n_set {n n':Int} {cs:List Int} {sq:Int} {q:Rat}:(sideC n cs sq q).take 0++[.int .i64 n']++(sideC n cs sq q).drop (0+1)=sideC n' cs sq q:=rfl
theorem side_split (n:Int) (cs:List Int) (sq:Int) (q:Rat):sideC n cs sq q=(.int .i64 n::cs.map (fun z=>Value.int .i64 z))++(.int .i64 sq::vlist (fracV q)):=rfl
theorem side_sq {n:Int} {cs:List Int} {sq:Int} {q:Rat} (h:cs.length=12):((sideC n cs sq q).drop 13).take 1=[.int .i64 sq]:=by
 rw [side_split,drop_mid (by rw [List.length_cons,List.length_map,h])];rfl
theorem side_sq_set {n:Int} {cs:List Int} {sq sq':Int} {q:Rat} (h:cs.length=12):(sideC n cs sq q).take 13++[.int .i64 sq']++(sideC n cs sq q).drop (13+1)=sideC n cs sq' q:=by
 have e:(sideC n cs sq q).drop (13+1)=vlist (fracV q):=by
  rw [← List.drop_drop,side_split,drop_mid (by rw [List.length_cons,List.length_map,h])];rfl
 rw [e,side_split,List.take_left' (by rw [List.length_cons,List.length_map,h]),side_split]
 simp
theorem side_sum {n:Int} {cs:List Int} {sq:Int} {q:Rat} (h:cs.length=12):((sideC n cs sq q).drop 14).take 5=vlist (fracV q):=by
 have e:(sideC n cs sq q).drop (13+1)=vlist (fracV q):=by
  rw [← List.drop_drop,side_split,drop_mid (by rw [List.length_cons,List.length_map,h])];rfl
 rw [e];rfl
theorem side_sum_set {n:Int} {cs:List Int} {sq:Int} {q q':Rat} (h:cs.length=12):(sideC n cs sq q).take 14++vlist (fracV q')++(sideC n cs sq q).drop (14+5)=sideC n cs sq q':=by
 have hl:=sideC_len (n:=n) (sq:=sq) (q:=q) h
 have e:sideC n cs sq q=(.int .i64 n::cs.map (fun z=>Value.int .i64 z)++[.int .i64 sq])++vlist (fracV q):=by rw [side_split];simp
 rw [List.drop_of_length_le oM,List.append_nil,e,List.take_left' (by simp [h]),side_split]
 simp
theorem side_at {n:Int} {cs:List Int} {sq:Int} {q:Rat} {j:Nat} {z:Int} (hj:cs[j]?=some z):((sideC n cs sq q).drop (1+j)).take 1=[.int .i64 z]:=by
 obtain ⟨hl,hz⟩:=List.getElem?_eq_some_iff.1 hj
 unfold sideC
 rw [Nat.add_comm,List.drop_succ_cons,List.drop_append_of_le_length (by rw [List.length_map];omega),List.take_append_of_le_length (by rw [List.length_drop,List.length_map];omega),List.drop_eq_getElem_cons (by rw [List.length_map];exact hl)]
 simp [hz]
theorem side_at_set {n:Int} {cs:List Int} {sq:Int} {q:Rat} {j:Nat} (z:Int) (hj:j<cs.length):(sideC n cs sq q).take (1+j)++[.int .i64 z]++(sideC n cs sq q).drop (1+j+1)=sideC n (cs.set j z) sq q:=by
 unfold sideC
 rw [show 1+j=j+1 by omega,List.take_succ_cons,List.drop_succ_cons,List.take_append_of_le_length (by rw [List.length_map];omega),List.drop_append_of_le_length (by rw [List.length_map];omega),List.map_set]
 rw [List.set_eq_take_append_cons_drop,if_pos (by rw [List.length_map];exact hj)]
 simp
theorem side_at' {n:Int} {cs:List Int} {sq:Int} {q:Rat} {j:Nat} {z:Int} (hj:cs[j]?=some z):((sideC n cs sq q).drop (0+1+j)).take 1=[.int .i64 z]:=side_at hj
theorem side_at_set' {n:Int} {cs:List Int} {sq:Int} {q:Rat} {j:Nat} (z:Int) (hj:j<cs.length):(sideC n cs sq q).take (0+1+j)++[.int .i64 z]++(sideC n cs sq q).drop (0+1+j+1)=sideC n (cs.set j z) sq q:=side_at_set z hj
theorem und_arr:Tryz.prog.underlying 318=some (.array 12 3):=by kernel_rfl
theorem side_zero:Tryz.te320.zero=sideC 0 (List.replicate 12 0) 0 0:=by
 unfold sideC;rw [frac_zero_cells];rfl
theorem side_all {n:Int} {cs:List Int} {sq:Int} {q:Rat} (h:cs.length=12):((sideC n cs sq q).drop 0).take 19=sideC n cs sq q:=by
 rw [List.drop_zero,List.take_of_length_le (by rw [sideC_len h];omega)]
abbrev goalV (kind classes:Int) (sl sv:Value):Value:=.agg #[.int .i64 kind,.int .i64 classes,sl,sv]
set_option maxHeartbeats 4000000 in
theorem addV_pw {H:Hp} {b:Nat} {cl:Int} {la:Option Addr} {ln lc:Nat} {va:Option Addr} {vc:Nat} {vals:List Rat} (hv:QL H (.slice va vals.length vc) vals) {r n:Nat} (hn:n≤1000000) {x q:Rat} (hr:vals[r]?=some x) (hx:sm x) (hq:sm q) {cs:List Int} (hc:cs.length=12) {sq:Int} :
  PW prog 265 #[.pointer (some ⟨b,0,none⟩),goalV 2 cl (.slice la ln lc) (.slice va vals.length vc),.int .i64 (r:Int)] H [(b,320,sideC n cs sq q)] fun v ow _=>v=.tuple #[]∧ow=[(b,320,sideC ((n+1:Nat):Int) cs sq (q+x))]:=by
 have hadd:=add_pv q x hq hx
 have hlen:=sideC_len (n:=(n:Int)) (cs:=cs) (sq:=sq) (q:=q) hc
 obtain ⟨hrl,_⟩:=List.getElem?_eq_some_iff.1 hr
 have hs:SlC H (.slice va vals.length vc) vals.length 5 (vals.flatMap fun q=>vlist (fracV q)):=hv
 refine PW.body tO func265 rfl kR ntmps265 rfl rfl ?_
 try refine RUN ?_
 (repeat (first | refine EVL.nilB rfl rfl rfl rfl rfl ?_ | refine EVL.fldB tO rfl rfl rfl rfl rfl rfl rfl ?_ | refine EVL.val tO rfl rfl rfl rfl rfl ?_))
 refine EVL.loadOwn tO rfl rfl rfl rfl rfl rfl (0) rfl (side_n) rfl rfl ?_
 (repeat (first | refine EVL.nilB rfl rfl rfl rfl rfl ?_ | refine EVL.fldB tO rfl rfl rfl rfl rfl rfl rfl ?_ | refine EVL.val tO rfl rfl rfl rfl rfl ?_))
 rw [show IntKind.i64.wrap ((n:Int)+1)=((n+1:Nat):Int) by rw [IntKind.wrap_i64];omega]
 refine EVL.storeOwn tO rfl rfl rfl rfl rfl rfl ([]) ([]) rfl rfl rfl rfl ((by rw [hlen];show 0+1≤19;omega)) (side_n_set) ?_
 try refine RUN ?_
 apply EV.drawn 11 kR kR;intro xv yw
 (repeat (first | refine' DV ?_ | refine' DA ?_ | refine' DK0 ?_ | refine' DT ?_ | refine' DS ?_ | (refine' DJ.nilB rfl rfl rfl rfl rfl ?_;rotate_left) | (refine' DJ.fldB tO rfl rfl rfl rfl rfl rfl rfl ?_;rotate_left)))
 refine' DJ.ofVal (ValOk.loadOwn tO rfl rfl rfl rfl (0) rfl (side_sum hc) rfl rfl) rfl rfl rfl ?_;rotate_left
 (repeat (first | refine' DV ?_ | refine' DA ?_ | refine' DK0 ?_ | refine' DT ?_ | refine' DS ?_ | (refine' DJ.nilB rfl rfl rfl rfl rfl ?_;rotate_left) | (refine' DJ.fldB tO rfl rfl rfl rfl rfl rfl rfl ?_;rotate_left)))
 refine' DJ.idxM tO rfl rfl rfl rfl rfl rfl rfl rfl rfl (hs) (r) (rfl) (hrl) (QL.at (H:=H) (v:=.bool true) hr) ?_;rotate_left
 (repeat (first | refine' DV ?_ | refine' DA ?_ | refine' DK0 ?_ | refine' DT ?_ | (refine' DC (hadd) (h:=?_);rotate_left) | refine' DS ?_))
 (refine DJ.nil (fun G1 hG1 hF1=>?_);(case hS|hS2=>rfl))
 (repeat (first | refine EVL.nilB rfl rfl rfl rfl rfl ?_ | refine EVL.fldB tO rfl rfl rfl rfl rfl rfl rfl ?_ | refine EVL.val tO rfl rfl rfl rfl rfl ?_))
 refine EVL.storeOwn tO rfl rfl rfl rfl rfl rfl ([]) ([]) rfl rfl rfl rfl ((by rw [sideC_len hc];show 14+5≤19;omega)) (side_sum_set hc) ?_
 try refine RUN ?_
 exact ⟨rfl,rfl⟩
set_option maxHeartbeats 4000000 in
theorem addC_pw {H:Hp} {b:Nat} {cl:Int} {va:Option Addr} {vn vc:Nat} {la:Option Addr} {lc:Nat} {ls:List Int} (hv:IL H (.slice la ls.length lc) ls) {r n:Nat} (hn:n≤1000000) {k m sq:Nat} (hr:ls[r]?=some (k:Int)) (hk:k<12) {cs:List Int} (hc:cs.length=12) (hm:cs[k]?=some (m:Int)) (hmb:m≤1000000) (hsb:sq≤10000000000000) {q:Rat} :
  PW prog 265 #[.pointer (some ⟨b,0,none⟩),goalV 1 cl (.slice la ls.length lc) (.slice va vn vc),.int .i64 (r:Int)] H [(b,320,sideC n cs sq q)] fun v ow _=>v=.tuple #[]∧ow=[(b,320,sideC ((n+1:Nat):Int) (cs.set k ((m+1:Nat):Int)) ((sq+2*m+1:Nat):Int) q)]:=by
 have hlen:=sideC_len (n:=(n:Int)) (cs:=cs) (sq:=(sq:Int)) (q:=q) hc
 obtain ⟨hrl,_⟩:=List.getElem?_eq_some_iff.1 hr
 have w1:IntKind.i64.wrap ((sq:Int)+IntKind.i64.wrap (IntKind.i64.wrap (2*(m:Int))+1))=((sq+2*m+1:Nat):Int):=by
  rw [show IntKind.i64.wrap (2*(m:Int))=2*(m:Int) by rw [IntKind.wrap_i64];omega,show IntKind.i64.wrap (2*(m:Int)+1)=2*(m:Int)+1 by rw [IntKind.wrap_i64];omega,IntKind.wrap_i64];omega
 have w2:IntKind.i64.wrap ((m:Int)+1)=((m+1:Nat):Int):=by rw [IntKind.wrap_i64];omega
 refine PW.body tO func265 rfl kR ntmps265 rfl rfl ?_
 try refine RUN ?_
 (repeat (first | refine EVL.nilB rfl rfl rfl rfl rfl ?_ | refine EVL.fldB tO rfl rfl rfl rfl rfl rfl rfl ?_ | refine EVL.val tO rfl rfl rfl rfl rfl ?_))
 refine EVL.loadOwn tO rfl rfl rfl rfl rfl rfl (0) rfl (side_n) rfl rfl ?_
 (repeat (first | refine EVL.nilB rfl rfl rfl rfl rfl ?_ | refine EVL.fldB tO rfl rfl rfl rfl rfl rfl rfl ?_ | refine EVL.val tO rfl rfl rfl rfl rfl ?_))
 rw [show IntKind.i64.wrap ((n:Int)+1)=((n+1:Nat):Int) by rw [IntKind.wrap_i64];omega]
 refine EVL.storeOwn tO rfl rfl rfl rfl rfl rfl ([]) ([]) rfl rfl rfl rfl ((by rw [hlen];show 0+1≤19;omega)) (side_n_set) ?_
 try refine RUN ?_
 refine EVL.idxR tO rfl rfl rfl rfl rfl rfl rfl rfl rfl rfl (hv) (r) (rfl) (hrl) ((by rw [List.getElem?_map,hr];rfl)) ?_
 try refine RUN ?_
 apply EV.drawn 13 kR kR;intro xv yw
 (repeat (first | refine' DV ?_ | refine' DA ?_ | refine' DK0 ?_ | refine' DT ?_ | refine' DS ?_ | (refine' DJ.nilB rfl rfl rfl rfl rfl ?_;rotate_left) | (refine' DJ.fldB tO rfl rfl rfl rfl rfl rfl rfl ?_;rotate_left)))
 refine' DJ.ofVal (ValOk.loadOwn tO rfl rfl rfl rfl (0) rfl (side_sq hc) rfl rfl) rfl rfl rfl ?_;rotate_left
 (repeat (first | refine' DV ?_ | refine' DA ?_ | refine' DK0 ?_ | refine' DT ?_ | refine' DS ?_ | (refine' DJ.nilB rfl rfl rfl rfl rfl ?_;rotate_left) | (refine' DJ.fldB tO rfl rfl rfl rfl rfl rfl rfl ?_;rotate_left)))
 refine' DJ.idxA tO rfl rfl rfl rfl (und_arr) rfl rfl rfl rfl (k) (rfl) (hk) ?_;rotate_left
 refine' DJ.ofVal (ValOk.loadOwn tO rfl rfl rfl rfl (0) rfl (side_at' hm) rfl rfl) rfl rfl rfl ?_;rotate_left
 (repeat (first | refine' DV ?_ | refine' DA ?_ | refine' DK0 ?_ | refine' DT ?_ | refine' DS ?_ | (refine' DJ.nilB rfl rfl rfl rfl rfl ?_;rotate_left) | (refine' DJ.fldB tO rfl rfl rfl rfl rfl rfl rfl ?_;rotate_left)))
 (refine DJ.nil (fun G1 hG1 hF1=>?_);(case hS|hS2=>rfl))
 rw [w1]
 (repeat (first | refine EVL.nilB rfl rfl rfl rfl rfl ?_ | refine EVL.fldB tO rfl rfl rfl rfl rfl rfl rfl ?_ | refine EVL.val tO rfl rfl rfl rfl rfl ?_))
 refine EVL.storeOwn tO rfl rfl rfl rfl rfl rfl ([]) ([]) rfl rfl rfl rfl ((by rw [sideC_len hc];show 13+1≤19;omega)) (side_sq_set hc) ?_
 try refine RUN ?_
 apply EV.drawn 10 kR kR;intro xv yw
 (repeat (first | refine' DV ?_ | refine' DA ?_ | refine' DK0 ?_ | refine' DT ?_ | refine' DS ?_ | (refine' DJ.nilB rfl rfl rfl rfl rfl ?_;rotate_left) | (refine' DJ.fldB tO rfl rfl rfl rfl rfl rfl rfl ?_;rotate_left)))
 refine' DJ.idxA tO rfl rfl rfl rfl (und_arr) rfl rfl rfl rfl (k) (rfl) (hk) ?_;rotate_left
 refine' DJ.ofVal (ValOk.loadOwn tO rfl rfl rfl rfl (0) rfl (side_at' hm) rfl rfl) rfl rfl rfl ?_;rotate_left
 (repeat (first | refine' DV ?_ | refine' DA ?_ | refine' DK0 ?_ | refine' DT ?_ | refine' DS ?_ | (refine' DJ.nilB rfl rfl rfl rfl rfl ?_;rotate_left) | (refine' DJ.fldB tO rfl rfl rfl rfl rfl rfl rfl ?_;rotate_left)))
 refine' DJ.idxA tO rfl rfl rfl rfl (und_arr) rfl rfl rfl rfl (k) (rfl) (hk) ?_;rotate_left
 (refine DJ.nil (fun G2 hG2 hF2=>?_);(case hS|hS2=>rfl))
 rw [w2]
 (repeat (first | refine EVL.nilB rfl rfl rfl rfl rfl ?_ | refine EVL.fldB tO rfl rfl rfl rfl rfl rfl rfl ?_ | refine EVL.val tO rfl rfl rfl rfl rfl ?_))
 refine EVL.storeOwn tO rfl rfl rfl rfl rfl rfl ([]) ([]) rfl rfl rfl rfl ((by rw [sideC_len hc];show 0+1+k+1≤19;omega)) (side_at_set' _ (show k<cs.length by omega)) ?_
 try refine RUN ?_
 exact ⟨rfl,rfl⟩
theorem nat_rat_ne {n:Nat} (h0:¬ n=0):((n:Int):Rat)≠0:=fun h=>by
 have:=congrArg Rat.num h
 rw [Rat.num_intCast] at this
 have h3:(0:Rat).num=0:=rfl
 omega
theorem rat_div_zero (x:Rat):x / 0=0:=by rw [Rat.div_def,Rat.inv_zero,Rat.mul_zero]
set_option maxHeartbeats 4000000 in
theorem worthC_pw {H:Hp} {b n:Nat} {cs:List Int} (hc:cs.length=12) {sq:Nat} (hsq:sq≤10000000000000) (hn:n≤1000000) {q:Rat} :
  PW prog 230 #[.pointer (some ⟨b,0,none⟩),.int .i64 1] H [(b,320,sideC n cs sq q)] fun v ow _=>v=fracV (((sq:Int):Rat) / ((n:Int):Rat))∧ow=[(b,320,sideC n cs sq q)]:=by
 have hof:=of_pv (sq:Int) oM oM
 have hof2:=of_pv (n:Int) oM oM
 have hnh:ht ((n:Int):Rat)≤100:=by
  have:=ht_int (n:Int)
  have h2:bl (n:Int).natAbs≤20:=bl_le oM
  omega
 have hsh:ht ((sq:Int):Rat)≤100:=by
  have:=ht_int (sq:Int)
  have h2:bl (sq:Int).natAbs≤50:=bl_le oM
  omega
 refine PW.body tO func230 rfl kR ntmps230 rfl rfl ?_
 try refine RUN ?_
 (repeat (first | refine EVL.nilB rfl rfl rfl rfl rfl ?_ | refine EVL.fldB tO rfl rfl rfl rfl rfl rfl rfl ?_ | refine EVL.val tO rfl rfl rfl rfl rfl ?_))
 refine EVL.loadOwn tO rfl rfl rfl rfl rfl rfl (0) rfl (side_n) rfl rfl ?_
 try refine RUN ?_
 by_cases h0:n=0
 ·subst h0
  rw [show (((0:Nat):Int) == 0)=true from rfl]
  try refine RUN ?_
  rw [show (((0:Nat):Int):Rat)=0 from rfl,rat_div_zero]
  exact ⟨fracV_zero.symm,rfl⟩
 ·have hdiv:=div_pv ((sq:Int):Rat) ((n:Int):Rat) (sm_of hsh oM) (sm_of hnh oM) (nat_rat_ne h0)
  rw [show ((n:Int) == 0)=false from beq_eq_false_iff_ne.2 (by omega)]
  try refine RUN ?_
  (repeat (first | refine EVL.nilB rfl rfl rfl rfl rfl ?_ | refine EVL.fldB tO rfl rfl rfl rfl rfl rfl rfl ?_ | refine EVL.val tO rfl rfl rfl rfl rfl ?_))
  refine EVL.loadOwn tO rfl rfl rfl rfl rfl rfl (0) rfl (side_sq hc) rfl rfl ?_
  repeat (first | refine RUN ?_ | refine CV (hof) ?_ | refine CE (hof) ?_)
  apply EV.drawn 12 kR kR;intro xv yw
  (repeat (first | refine' DV ?_ | refine' DA ?_ | refine' DK0 ?_ | refine' DT ?_ | refine' DS ?_ | (refine' DJ.nilB rfl rfl rfl rfl rfl ?_;rotate_left) | (refine' DJ.fldB tO rfl rfl rfl rfl rfl rfl rfl ?_;rotate_left)))
  refine' DJ.ofVal (ValOk.loadOwn tO rfl rfl rfl rfl (0) rfl (side_n) rfl rfl) rfl rfl rfl ?_;rotate_left
  (repeat (first | refine' DV ?_ | refine' DA ?_ | refine' DK0 ?_ | refine' DT ?_ | (refine' DC (hof2) (h:=?_);rotate_left) | (refine' DC (hdiv) (h:=?_);rotate_left) | refine' DS ?_))
  (refine DJ.nil (fun G2 hG2 hF2=>?_);(case hS|hS2=>rfl))
  try refine RUN ?_
  exact ⟨rfl,rfl⟩
end Go.Proofs.YtplhljjljnkhpaaGreatDoor
namespace Go.Proofs.YtplhljjljnkhpaaGreatDoor
def csL (l:List Int):List Int:=(List.range 12).map fun (k:Nat)=>(l.count (k:Int):Int)
def sqL (l:List Int):Nat:=(l.map fun x=>l.count x).sum
theorem csL_len (l:List Int):(csL l).length=12:=by simp [csL]
theorem csL_at (l:List Int) {k:Nat} (hk:k<12):(csL l)[k]?=some (l.count (k:Int):Int):=by
 unfold csL;rw [List.getElem?_map,List.getElem?_range hk];rfl
theorem count_snoc (l:List Int) (x y:Int):(l++[x]).count y=l.count y+if x=y then 1 else 0:=by
 rw [List.count_append,List.count_singleton]
 congr 1
 by_cases h:x=y
 ·rw [if_pos h,h];simp
 ·rw [if_neg h];simp [h]
theorem csL_snoc (l:List Int) {k:Nat} (hk:k<12):csL (l++[(k:Int)])=(csL l).set k ((l.count (k:Int)+1:Nat):Int):=by
 apply List.ext_getElem?
 intro j
 rw [List.getElem?_set]
 by_cases hj:j<12
 ·rw [csL_at _ hj,csL_at _ hj,count_snoc,csL_len]
  by_cases e:k=j
  ·subst e;rw [if_pos rfl,if_pos rfl,if_pos hk]
  ·rw [if_neg e,if_neg oM,Nat.add_zero]
 ·rw [List.getElem?_eq_none (by rw [csL_len];omega),List.getElem?_eq_none (by rw [csL_len];omega),if_neg (by omega)]
theorem sum_count (l m:List Int) (x:Int):(m.map fun y=>l.count y+if x=y then 1 else 0).sum=(m.map fun y=>l.count y).sum+m.count x:=by
 induction m with
 | nil=>rfl
 | cons a m ih =>
  rw [List.map_cons,List.sum_cons,List.map_cons,List.sum_cons,ih,List.count_cons]
  by_cases h:x=a
  ·rw [if_pos h,h];simp;omega
  ·have h2:¬ (a == x)=true:=by simp;omega
   rw [if_neg h,if_neg h2];omega
theorem sqL_snoc (l:List Int) (x:Int):sqL (l++[x])=sqL l+2*l.count x+1:=by
 unfold sqL
 rw [List.map_append,List.sum_append]
 have e:(l.map fun y=>(l++[x]).count y)=l.map fun y=>l.count y+if x=y then 1 else 0:=List.map_congr_left fun y _=>count_snoc l x y
 rw [e,sum_count]
 have:([x].map fun y=>(l++[x]).count y).sum=l.count x+1:=by
  simp
 rw [this];omega
theorem sum_le (l:List Int) (B:Nat):∀ m:List Int,(∀ y,y∈m→l.count y≤B)→(m.map fun y=>l.count y).sum≤m.length*B
 | [],_=>by simp
 | a::m,h=>by
  have ih:=sum_le l B m (fun y hy=>h y (List.mem_cons_of_mem _ hy))
  have:=h a (List.mem_cons_self ..)
  rw [List.map_cons,List.sum_cons,List.length_cons,Nat.succ_mul];omega
theorem sqL_le (l:List Int):sqL l≤l.length*l.length:=sum_le l l.length l (fun y _=>List.count_le_length)
def atR (vals:List Rat) (rs:List Int):List Rat:=rs.map fun r=>vals.getD r.toNat 0
def atI (ls:List Int) (rs:List Int):List Int:=rs.map fun r=>ls.getD r.toNat 0
theorem atR_take (vals:List Rat) {rs:List Int} {i:Nat} {r:Int} {x:Rat} (h:rs[i]?=some r) (hx:vals[r.toNat]?=some x):(atR vals rs).take (i+1)=(atR vals rs).take i++[x]:=by
 have:(atR vals rs)[i]?=some x:=by unfold atR;rw [List.getElem?_map,h];simp [hx]
 obtain ⟨hl,hh⟩:=List.getElem?_eq_some_iff.1 this
 rw [List.take_succ_eq_append_getElem hl,hh]
theorem atI_take (ls:List Int) {rs:List Int} {i:Nat} {r x:Int} (h:rs[i]?=some r) (hx:ls[r.toNat]?=some x):(atI ls rs).take (i+1)=(atI ls rs).take i++[x]:=by
 have:(atI ls rs)[i]?=some x:=by unfold atI;rw [List.getElem?_map,h];simp [hx]
 obtain ⟨hl,hh⟩:=List.getElem?_eq_some_iff.1 this
 rw [List.take_succ_eq_append_getElem hl,hh]
theorem atR_len (vals:List Rat) (rs:List Int):(atR vals rs).length=rs.length:=by simp [atR]
theorem atI_len (ls rs:List Int):(atI ls rs).length=rs.length:=by simp [atI]
theorem atR_mem {vals:List Rat} {rs:List Int} (h:∀ r,r∈rs→0≤r∧r<(vals.length:Int)):∀ q,q∈atR vals rs→q∈vals:=fun q hq=>by
 obtain ⟨r,hr,rfl⟩:=List.mem_map.1 hq
 have:=h r hr
 have hl:r.toNat<vals.length:=by omega
 rw [List.getD_eq_getElem?_getD,List.getElem?_eq_getElem hl]
 exact List.getElem_mem hl
def meanL (l:List Rat):Rat:=sumQ l / ((l.length:Int):Rat)
def devL (m:Rat) (l:List Rat):List Rat:=l.map fun v=>(v-m)*(v-m)
theorem devL_snoc (m:Rat) (l:List Rat) (x:Rat):sumQ (devL m (l++[x]))=sumQ (devL m l)+(x-m)*(x-m):=by
 unfold devL;rw [List.map_append,List.map_singleton,sumQ_snoc]
end Go.Proofs.YtplhljjljnkhpaaGreatDoor
namespace Go.Proofs.YtplhljjljnkhpaaGreatDoor
open Go.RowKit _root_.Go.Proofs.Tryz
set_option maxHeartbeats 4000000 in
theorem wholeC_pc {H:Hp} {cl:Int} {va:Option Addr} {vn vc:Nat} {la:Option Addr} {lc:Nat} {ls:List Int} (hv:IL H (.slice la ls.length lc) ls) {ra:Option Addr} {rc:Nat} {rs:List Int} (hr:IL H (.slice ra rs.length rc) rs) (hn:rs.length≤100000)
  (hrs:∀ r,r∈rs→0≤r∧r<(ls.length:Int)) (hls:∀ z,z∈ls→0≤z∧z<12) :
  PC prog 227 #[goalV 1 cl (.slice la ls.length lc) (.slice va vn vc),.slice ra rs.length rc] H fun r _=>r=.agg (sideC (rs.length:Nat) (csL (atI ls rs)) (sqL (atI ls rs)) 0).toArray:=by
 refine BD func227 ntmps227 ?_
 try refine RUN ?_
 (first | refine EVL.unbox (5) rfl fun b=>?_ | refine EV.unbox (5) rfl fun b=>?_)
 rw [side_zero]
 refine EV.loopK (ι:=Nat) [2,4,5,8,9] [2,4] (fun i=>[(10,.v (.int .i64 (i:Int)))]) (fun _=>[]) (fun i=>[(b,320,sideC (i:Nat) (csL ((atI ls rs).take i)) (sqL ((atI ls rs).take i)) 0)]) (fun i _=>i≤rs.length) (fun i=>rs.length-i) (0) rfl rfl ⟨rfl,trivial⟩ trivial rfl (fun _=>rfl) (Nat.zero_le _) ?_
 rintro i G1 hG1 hi
 try refine RUN ?_
 refine EV.cond rfl (fun hlt=>?_) (fun hlt=>?_)
 ·simp only [nN] at hlt
  obtain ⟨r,hri⟩:∃ r,rs[i]?=some r:=⟨_,List.getElem?_eq_getElem hlt⟩
  have hb:=hrs r (List.mem_of_getElem? hri)
  obtain ⟨R,rfl⟩:=Int.eq_ofNat_of_zero_le hb.1
  obtain ⟨x,hx⟩:∃ x,ls[R]?=some x:=⟨_,List.getElem?_eq_getElem oM⟩
  have hxb:=hls x (List.mem_of_getElem? hx)
  obtain ⟨k,rfl⟩:=Int.eq_ofNat_of_zero_le hxb.1
  have hk:k<12:=by omega
  have ht:=atI_take ls hri (by rw [Int.toNat_natCast];exact hx)
  have hlen:((atI ls rs).take i).length=i:=by rw [List.length_take,atI_len];omega
  have hcnt:((atI ls rs).take i).count (k:Int)≤i:=Nat.le_trans List.count_le_length (Nat.le_of_eq hlen)
  have hsq:=sqL_le ((atI ls rs).take i)
  rw [hlen] at hsq
  have hsq2:i*i≤100000*100000:=Nat.mul_le_mul oM oM
  have hcs:=csL_snoc ((atI ls rs).take i) hk
  have hsn:=sqL_snoc ((atI ls rs).take i) (k:Int)
  rw [← ht] at hcs hsn
  try refine RUN ?_
  refine EVL.idxR tO rfl rfl rfl rfl rfl rfl rfl rfl rfl rfl ((hr.mono hG1)) (i) (rfl) (hlt) ((by rw [List.getElem?_map,hri];rfl)) ?_
  try refine RUN ?_
  refine EVL.callW rfl rfl rfl rfl rfl ([(b,320,sideC (i:Nat) (csL ((atI ls rs).take i)) (sqL ((atI ls rs).take i)) 0)]) ([]) rfl (addC_pw (n:=i) (m:=((atI ls rs).take i).count (k:Int)) (sq:=sqL ((atI ls rs).take i)) (hv.mono hG1) oM hx hk (csL_len _) (csL_at _ hk) oM oM) ?_
  rintro v ow G2 ⟨rfl,rfl⟩ hG2
  rw [← hcs,← hsn]
  try refine RUN ?_
  refine ⟨i+1,⟨?_,trivial⟩,sB,trivial,sB,rfl,hlt,hG2,by omega⟩
  rw [wi_inc i (by omega)];rfl
 ·simp only [nN] at hlt
  obtain rfl:i=rs.length:=by omega
  rw [show (atI ls rs).take rs.length=atI ls rs by rw [← atI_len ls rs,List.take_length]]
  have hall:=side_all (n:=(rs.length:Nat)) (cs:=csL (atI ls rs)) (sq:=sqL (atI ls rs)) (q:=0) (csL_len _)
  try refine RUN ?_
  refine EVL.loadOwn tO rfl rfl rfl rfl rfl rfl (0) rfl (hall) rfl rfl ?_
  try refine RUN ?_
  rfl
set_option maxHeartbeats 4000000 in
theorem wholeV_pc {H:Hp} {cl:Int} {va:Option Addr} {vc:Nat} {vals:List Rat} {la:Option Addr} {ln lc:Nat} (hv:QL H (.slice va vals.length vc) vals) {ra:Option Addr} {rc:Nat} {rs:List Int} (hr:IL H (.slice ra rs.length rc) rs) (hn:rs.length≤10000)
  (hrs:∀ r,r∈rs→0≤r∧r<(vals.length:Int)) (hls:∀ q,q∈vals→ht q≤100) :
  PC prog 227 #[goalV 2 cl (.slice la ln lc) (.slice va vals.length vc),.slice ra rs.length rc] H fun r _=>r=.agg (sideC (rs.length:Nat) (List.replicate 12 0) 0 (sumQ (atR vals rs))).toArray:=by
 have hmem:=fun q hq=>hls q (atR_mem hrs q hq)
 refine BD func227 ntmps227 ?_
 try refine RUN ?_
 (first | refine EVL.unbox (5) rfl fun b=>?_ | refine EV.unbox (5) rfl fun b=>?_)
 rw [side_zero]
 refine EV.loopK (ι:=Nat) [2,4,5,8,9] [2,4] (fun i=>[(10,.v (.int .i64 (i:Int)))]) (fun _=>[]) (fun i=>[(b,320,sideC (i:Nat) (List.replicate 12 0) 0 (sumQ ((atR vals rs).take i)))]) (fun i _=>i≤rs.length) (fun i=>rs.length-i) (0) rfl rfl ⟨rfl,trivial⟩ trivial rfl (fun _=>rfl) (Nat.zero_le _) ?_
 rintro i G1 hG1 hi
 try refine RUN ?_
 refine EV.cond rfl (fun hlt=>?_) (fun hlt=>?_)
 ·simp only [nN] at hlt
  obtain ⟨r,hri⟩:∃ r,rs[i]?=some r:=⟨_,List.getElem?_eq_getElem hlt⟩
  have hb:=hrs r (List.mem_of_getElem? hri)
  obtain ⟨R,rfl⟩:=Int.eq_ofNat_of_zero_le hb.1
  obtain ⟨x,hx⟩:∃ x,vals[R]?=some x:=⟨_,List.getElem?_eq_getElem oM⟩
  have hxb:=hls x (List.mem_of_getElem? hx)
  have ht:=atR_take vals hri (by rw [Int.toNat_natCast];exact hx)
  have hlen:((atR vals rs).take i).length=i:=by rw [List.length_take,atR_len];omega
  have hsb:=ht_sum 100 ((atR vals rs).take i) (fun q hq=>hmem q (List.mem_of_mem_take hq))
  rw [hlen] at hsb
  have hsn:=sumQ_snoc ((atR vals rs).take i) x
  rw [← ht] at hsn
  try refine RUN ?_
  refine EVL.idxR tO rfl rfl rfl rfl rfl rfl rfl rfl rfl rfl ((hr.mono hG1)) (i) (rfl) (hlt) ((by rw [List.getElem?_map,hri];rfl)) ?_
  try refine RUN ?_
  refine EVL.callW rfl rfl rfl rfl rfl ([(b,320,sideC (i:Nat) (List.replicate 12 0) 0 (sumQ ((atR vals rs).take i)))]) ([]) rfl (addV_pw (n:=i) (hv.mono hG1) oM hx (sm_of hxb oM) (sm_of hsb oM) (by rfl)) ?_
  rintro v ow G2 ⟨rfl,rfl⟩ hG2
  rw [← hsn]
  try refine RUN ?_
  refine ⟨i+1,⟨?_,trivial⟩,sB,trivial,sB,rfl,hlt,hG2,by omega⟩
  rw [wi_inc i (by omega)];rfl
 ·simp only [nN] at hlt
  obtain rfl:i=rs.length:=by omega
  rw [show (atR vals rs).take rs.length=atR vals rs by rw [← atR_len vals rs,List.take_length]]
  have hall:=side_all (n:=(rs.length:Nat)) (cs:=List.replicate 12 0) (sq:=0) (q:=sumQ (atR vals rs)) (by rfl)
  try refine RUN ?_
  refine EVL.loadOwn tO rfl rfl rfl rfl rfl rfl (0) rfl (hall) rfl rfl ?_
  try refine RUN ?_
  rfl
theorem lenC_pv {cl:Int} {va:Option Addr} {vn vc:Nat} {la:Option Addr} {ln lc:Nat}:PV prog 35 #[goalV 1 cl (.slice la ln lc) (.slice va vn vc)] (.int .i64 (ln:Int)):=by
 refine PV.of_pc ?_
 refine BD func35 ntmps35 ?_
 try refine RUN ?_
 rfl
theorem lenV_pv {cl:Int} {va:Option Addr} {vn vc:Nat} {la:Option Addr} {ln lc:Nat}:PV prog 35 #[goalV 2 cl (.slice la ln lc) (.slice va vn vc)] (.int .i64 (vn:Int)):=by
 refine PV.of_pc ?_
 refine BD func35 ntmps35 ?_
 try refine RUN ?_
 rfl
theorem checkV_pv {va:Option Addr} {vn vc:Nat} {la:Option Addr} {lc:Nat} (h0:1≤vn) (h1:vn≤300):PV prog 36 #[goalV 2 0 (.slice la 0 lc) (.slice va vn vc)] (.int .i64 0):=by
 refine PV.of_pc ?_
 have hlen:=lenV_pv (cl:=0) (va:=va) (vn:=vn) (vc:=vc) (la:=la) (ln:=0) (lc:=lc)
 refine BD func36 ntmps36 ?_
 repeat (first | refine RUN ?_ | refine CV (hlen) ?_ | refine CE (hlen) ?_)
 rw [decide_eq_false (show ¬ (vn:Int)<1 by omega)]
 try refine RUN ?_
 rw [decide_eq_false (show ¬ (vn:Int)>300 by omega)]
 try refine RUN ?_
 rfl
set_option maxHeartbeats 4000000 in
theorem checkC_pc {H:Hp} {va:Option Addr} {vc:Nat} {la:Option Addr} {lc:Nat} {ls:List Int} (hv:IL H (.slice la ls.length lc) ls) {cl:Int} (hc:1≤cl∧cl≤12) (h0:1≤ls.length) (h1:ls.length≤300) (hls:∀ z,z∈ls→0≤z∧z<cl):PC prog 36 #[goalV 1 cl (.slice la ls.length lc) (.slice va 0 vc)] H fun r _=>r=.int .i64 0:=by
 have hlen:=lenC_pv (cl:=cl) (va:=va) (vn:=0) (vc:=vc) (la:=la) (ln:=ls.length) (lc:=lc)
 refine BD func36 ntmps36 ?_
 repeat (first | refine RUN ?_ | refine CV (hlen) ?_ | refine CE (hlen) ?_)
 rw [decide_eq_false (show ¬ (ls.length:Int)<1 by omega)]
 try refine RUN ?_
 rw [decide_eq_false (show ¬ (ls.length:Int)>300 by omega)]
 try refine RUN ?_
 rw [decide_eq_false (show ¬ cl<1 by omega)]
 try refine RUN ?_
 rw [decide_eq_false (show ¬ cl>12 by omega)]
 try refine RUN ?_
 refine EV.loopK (ι:=Nat) [1,49,50] [1] (fun i=>[(51,.v (.int .i64 (i:Int)))]) (fun _=>[]) (fun _=>[]) (fun i _=>i≤ls.length) (fun i=>ls.length-i) (0) rfl rfl ⟨rfl,trivial⟩ trivial rfl (fun _=>rfl) (Nat.zero_le _) ?_
 rintro i G1 hG1 hi
 try refine RUN ?_
 refine EV.cond rfl (fun hlt=>?_) (fun hlt=>?_)
 ·simp only [nN] at hlt
  obtain ⟨z,hz⟩:∃ r,ls[i]?=some r:=⟨_,List.getElem?_eq_getElem hlt⟩
  have hb:=hls z (List.mem_of_getElem? hz)
  try refine RUN ?_
  refine EVL.idxR tO rfl rfl rfl rfl rfl rfl rfl rfl rfl rfl ((hv.mono hG1)) (i) (rfl) (hlt) ((by rw [List.getElem?_map,hz];rfl)) ?_
  try refine RUN ?_
  rw [decide_eq_false (show ¬ z<0 by omega)]
  try refine RUN ?_
  rw [decide_eq_false (show ¬ z≥cl by omega)]
  try refine RUN ?_
  refine ⟨i+1,⟨?_,trivial⟩,sB,trivial,sB,rfl,hlt,Hp.Le.refl _,by omega⟩
  rw [wi_inc i (by omega)];rfl
 ·(try refine RUN ?_)
  rfl
abbrev iv:Int→Value:=fun z=>.int .i64 z
def inR (n:Nat) (r:Int):Bool:=decide (0≤r) && decide (r<(n:Int))
def exL (rs:List Int) (n:Nat):List Int:=rs.filter (inR n)
theorem exL_mem {rs:List Int} {n:Nat}:∀ r,r∈exL rs n→0≤r∧r<(n:Int):=fun r hr=>by
 have:=(List.mem_filter.1 hr).2
 unfold inR at this
 simpa using this
theorem exL_len (rs:List Int) (n:Nat):(exL rs n).length≤rs.length:=List.length_filter_le _ _
theorem exL_all {rs:List Int} {n:Nat} (h:∀ r,r∈rs→0≤r∧r<(n:Int)):exL rs n=rs:=List.filter_eq_self.2 fun r hr=>by
 have:=h r hr
 unfold inR;simp [this.1,this.2]
theorem ex_take {rs:List Int} {n i:Nat} {r:Int} (h:rs[i]?=some r):exL (rs.take (i+1)) n=exL (rs.take i) n++if inR n r then [r] else []:=by
 rw [take_snoc h];unfold exL
 rw [List.filter_append]
 cases hp:inR n r <;> simp [hp]
theorem OwnL.il {w:Value} {l:List Int} {ow:Ows} {T:TypeId} {x:Int} (h:OwnL T 1 w (l.length+1) (l.map iv++[iv x]) ow):OwnL T 1 w (l++[x]).length ((l++[x]).map iv) ow:=by
 rw [List.length_append,List.map_append];exact h
set_option maxHeartbeats 4000000 in
theorem existing_pc {H:Hp} {v:Value} {rs:List Int} (hr:IL H v rs) (hn:rs.length≤1000000) (n:Nat):PC prog 228 #[v,.int .i64 (n:Int)] H fun r H'=>IL H' r (exL rs n):=by
 obtain ⟨a,cap,rfl⟩:=SlC.val hr
 refine BD func228 ntmps228 ?_
 try refine RUN ?_
 refine EV.loopK (ι:=Nat × Value × Ows) [1,8,9] [] (fun q=>[(5,.v q.2.1),(10,.v (.int .i64 (q.1:Int)))]) (fun _=>[]) (fun q=>q.2.2) (fun q _=>q.1≤rs.length∧OwnL 3 1 q.2.1 (exL (rs.take q.1) n).length ((exL (rs.take q.1) n).map iv) q.2.2) (fun q=>rs.length-q.1) ((0,.slice none 0 0,[])) rfl rfl ⟨rfl,rfl,trivial⟩ trivial rfl (fun _=>rfl) (⟨Nat.zero_le _,OwnL.nil _ _⟩) ?_
 rintro ⟨i,w,ow⟩ G1 hG1 ⟨hi,hown⟩
 dsimp only at hi hown
 obtain ⟨wa,wc,rfl⟩:=hown.val
 try refine RUN ?_
 refine EV.cond rfl (fun hlt=>?_) (fun hlt=>?_)
 ·simp only [nN] at hlt
  obtain ⟨r,hri⟩:∃ r,rs[i]?=some r:=⟨_,List.getElem?_eq_getElem hlt⟩
  have hex:=ex_take (n:=n) hri
  have hle:=exL_len (rs.take i) n
  rw [List.length_take] at hle
  try refine RUN ?_
  refine EVL.idxR tO rfl rfl rfl rfl rfl rfl rfl rfl rfl rfl ((hr.mono hG1)) (i) (rfl) (hlt) ((by rw [List.getElem?_map,hri];rfl)) ?_
  try refine RUN ?_
  have wn:IntKind.i64.wrap ((i:Int)+1)=((i+1:Nat):Int):=wi_inc i oM
  by_cases h1:r≥0
  ·rw [decide_eq_true h1]
   try refine RUN ?_
   by_cases h2:r<(n:Int)
   ·have hp:inR n r=true:=by unfold inR;simp [h2];omega
    rw [hp,if_pos rfl] at hex
    rw [decide_eq_true h2]
    try refine RUN ?_
    refine EVL.app1 tO rfl rfl rfl rfl rfl rfl rfl rfl rfl rfl rfl rfl rfl rfl rfl rfl rfl rfl rfl (fun _=>rfl) (ow) ([]) ((List.append_nil _).symm) (hown) oM fun _=>?_
    intro v' ow' hown'
    try refine RUN ?_
    refine ⟨(i+1,v',ow'),⟨rfl,?_,trivial⟩,sB,trivial,trivial,List.append_nil _,⟨hlt,by rw [hex];exact hown'.il⟩,Hp.Le.refl _,by dsimp only;omega⟩
    rw [wn];rfl
   ·have hp:inR n r=false:=by unfold inR;simp [h2]
    rw [hp,if_neg (by decide),List.append_nil] at hex
    rw [decide_eq_false h2]
    try refine RUN ?_
    refine ⟨(i+1,_,ow),⟨rfl,?_,trivial⟩,sB,trivial,trivial,rfl,⟨hlt,by rw [hex];exact hown⟩,Hp.Le.refl _,by dsimp only;omega⟩
    rw [wn];rfl
  ·have hp:inR n r=false:=by unfold inR;simp;omega
   rw [hp,if_neg (by decide),List.append_nil] at hex
   rw [decide_eq_false h1]
   try refine RUN ?_
   refine ⟨(i+1,_,ow),⟨rfl,?_,trivial⟩,sB,trivial,trivial,rfl,⟨hlt,by rw [hex];exact hown⟩,Hp.Le.refl _,by dsimp only;omega⟩
   rw [wn];rfl
 ·simp only [nN] at hlt
  obtain rfl:i=rs.length:=by omega
  rw [List.take_length] at hown ⊢
  (first | refine EVL.publishL [] ow [] ((List.append_nil _).symm) hown fun G2 hG2 hs=>?_ | refine EV.publishL [] ow [] ((List.append_nil _).symm) hown fun G2 hG2 hs=>?_)
  try refine RUN ?_
  exact hs
set_option maxHeartbeats 4000000 in
theorem values_pc {H:Hp} {v:Value} {rs:List Int} (hr:IL H v rs) (hn:rs.length≤10000) {kd cl:Int} {va:Option Addr} {vc:Nat} {vals:List Rat} {la:Option Addr} {ln lc:Nat} (hv:QL H (.slice va vals.length vc) vals) :
  PC prog 231 #[goalV kd cl (.slice la ln lc) (.slice va vals.length vc),v] H fun r H'=>QL H' r (atR vals (exL rs vals.length)):=by
 obtain ⟨a,cap,rfl⟩:=SlC.val hr
 refine BD func231 ntmps231 ?_
 try refine RUN ?_
 refine EVL.call rfl rfl rfl rfl rfl (existing_pc hr oM vals.length) ?_
 intro r1 G0 he hG0
 have hel:=exL_len rs vals.length
 have heb:=exL_mem (rs:=rs) (n:=vals.length)
 generalize exL rs vals.length=es at *
 obtain ⟨a1,c1,rfl⟩:=SlC.val he
 try refine RUN ?_
 refine EV.loopK (ι:=Nat × Value × Ows) [2,12,13] [2] (fun q=>[(5,.v q.2.1),(14,.v (.int .i64 (q.1:Int)))]) (fun _=>[]) (fun q=>q.2.2) (fun q _=>q.1≤es.length∧OwnL 63 5 q.2.1 q.1 (((atR vals es).take q.1).flatMap fun q=>vlist (fracV q)) q.2.2) (fun q=>es.length-q.1) ((0,.slice none 0 0,[])) rfl rfl ⟨rfl,rfl,trivial⟩ trivial rfl (fun _=>rfl) (⟨Nat.zero_le _,OwnL.nil _ _⟩) ?_
 rintro ⟨i,w,ow⟩ G1 hG1 ⟨hi,hown⟩
 dsimp only at hi hown
 obtain ⟨wa,wc,rfl⟩:=hown.val
 try refine RUN ?_
 refine EV.cond rfl (fun hlt=>?_) (fun hlt=>?_)
 ·simp only [nN] at hlt
  obtain ⟨r,hri⟩:∃ r,es[i]?=some r:=⟨_,List.getElem?_eq_getElem hlt⟩
  have hb:=heb r (List.mem_of_getElem? hri)
  obtain ⟨R,rfl⟩:=Int.eq_ofNat_of_zero_le hb.1
  obtain ⟨x,hx⟩:∃ x,vals[R]?=some x:=⟨_,List.getElem?_eq_getElem oM⟩
  have hRl:R<vals.length:=by omega
  have ht:=atR_take vals hri (by rw [Int.toNat_natCast];exact hx)
  have hs:SlC G1 (.slice va vals.length vc) vals.length 5 (vals.flatMap fun q=>vlist (fracV q)):=hv.mono (hG0.trans hG1)
  try refine RUN ?_
  refine EVL.idxR tO rfl rfl rfl rfl rfl rfl rfl rfl rfl rfl ((he.mono hG1)) (i) (rfl) (hlt) ((by rw [List.getElem?_map,hri];rfl)) ?_
  try refine RUN ?_
  refine EVL.idxM tO rfl rfl rfl rfl rfl rfl rfl rfl rfl (hs) (R) (rfl) (hRl) (QL.at (H:=H) (v:=.bool true) hx) ?_
  try refine RUN ?_
  refine EVL.app1 tO rfl rfl rfl rfl rfl rfl rfl rfl rfl rfl rfl rfl rfl rfl rfl rfl rfl rfl rfl (fun _=>rfl) (ow) ([]) ((List.append_nil _).symm) (hown) oM fun _=>?_
  intro v' ow' hown'
  try refine RUN ?_
  refine ⟨(i+1,v',ow'),⟨rfl,?_,trivial⟩,sB,trivial,sB,List.append_nil _,⟨hlt,by dsimp only;rw [ht,List.flatMap_append];exact hown'⟩,Hp.Le.refl _,by dsimp only;omega⟩
  rw [wi_inc i (by omega)];rfl
 ·simp only [nN] at hlt
  obtain rfl:i=es.length:=by omega
  rw [show (atR vals es).take es.length=atR vals es by rw [← atR_len vals es,List.take_length]] at hown
  rw [← atR_len vals es] at hown
  (first | refine EVL.publishL [] ow [] ((List.append_nil _).symm) hown fun G2 hG2 hs=>?_ | refine EV.publishL [] ow [] ((List.append_nil _).symm) hown fun G2 hG2 hs=>?_)
  rw [← atR_len vals es]
  try refine RUN ?_
  exact hs
theorem ci_get {l:List Int} (sp:List Value) {j:Nat} {q:Int} (h:l[j]?=some q):((l.map iv++sp).drop (j*1)).take 1=[iv q]:=by
 obtain ⟨hl,hq⟩:=List.getElem?_eq_some_iff.1 h
 rw [Nat.mul_one,List.drop_append_of_le_length (by rw [List.length_map];omega),List.drop_eq_getElem_cons (by rw [List.length_map];omega)]
 simp [hq]
theorem ci_set {l:List Int} (sp:List Value) {j:Nat} (q:Int) (h:j<l.length):(l.map iv++sp).take (j*1)++[iv q]++(l.map iv++sp).drop (j*1+1)=(l.set j q).map iv++sp:=by
 rw [Nat.mul_one,List.take_append_of_le_length (by rw [List.length_map];omega),List.drop_append_of_le_length (by rw [List.length_map];omega),List.map_set,List.set_eq_take_append_cons_drop,if_pos (by rw [List.length_map];exact h)]
 simp
theorem putAt_map {α β:Type} (f:α→β) (l:List α) (k:Nat) (x:α):(putAt l k x).map f=putAt (l.map f) k (f x):=by
 unfold putAt;rw [List.map_append,List.map_cons,List.map_take,List.map_drop]
theorem dropA_at {α:Type} {l:List α} {i:Nat} {x:α} (h:l[i]?=some x):l.drop i=x::l.drop (i+1):=by
 obtain ⟨hl,rfl⟩:=List.getElem?_eq_some_iff.1 h
 exact List.drop_eq_getElem_cons hl
abbrev RisK (key:Int→Rat) (l:List Int):Prop:=Rising (l.map key)
theorem risK_put {key:Int→Rat} {l:List Int} {k:Nat} {x:Int} (h:RisK key l) (h1:∀ y,y∈l.take k→key y≤key x) (h2:∀ y,y∈l.drop k→key x≤key y):RisK key (putAt l k x):=by
 unfold RisK
 rw [putAt_map]
 refine putAt_rising h (fun y hy=>?_) (fun y hy=>?_)
 ·rw [← List.map_take] at hy
  obtain ⟨z,hz,rfl⟩:=List.mem_map.1 hy
  exact h1 z hz
 ·rw [← List.map_drop] at hy
  obtain ⟨z,hz,rfl⟩:=List.mem_map.1 hy
  exact h2 z hz
theorem risK_take {key:Int→Rat} {l:List Int} {k:Nat} {x y:Int} (h:RisK key l) (hk:l[k]?=some y) (hy:key y≤key x):∀ z,z∈l.take (k+1)→key z≤key x:=fun z hz =>
 rising_take (k:=k) (y:=key y) h (by rw [List.getElem?_map,hk];rfl) hy (key z) (by rw [← List.map_take];exact List.mem_map_of_mem hz)
theorem puti_x {acc rest:List Int} {j:Nat} {x:Int} (h:j≤acc.length):(putAt acc j x++rest)[j]?=some x:=by
 unfold putAt
 rw [List.append_assoc,List.getElem?_append_right (by rw [List.length_take];omega),List.length_take,Nat.min_eq_left h,Nat.sub_self];rfl
theorem puti_y {acc rest:List Int} {j:Nat} {x y:Int} (h:acc[j]?=some y):(putAt acc (j+1) x++rest)[j]?=some y:=by
 obtain ⟨hl,_⟩:=List.getElem?_eq_some_iff.1 h
 unfold putAt
 rw [List.append_assoc,List.getElem?_append_left (by rw [List.length_take];omega),List.getElem?_take_of_lt oM,h]
theorem puti_len {acc rest:List Int} {j:Nat} {x:Int}:(putAt acc j x++rest).length=acc.length+1+rest.length:=by
 have:=(putAt_perm acc j x).length_eq
 rw [List.length_append,this,List.length_append];rfl
theorem puti_swap {acc rest:List Int} {j:Nat} {x y:Int} (h:acc[j]?=some y):((putAt acc (j+1) x++rest).set (j+1) y).set j x=putAt acc j x++rest:=by
 obtain ⟨hl,hy⟩:=List.getElem?_eq_some_iff.1 h
 have hlen:(acc.take j).length=j:=by rw [List.length_take];omega
 unfold putAt
 rw [List.take_succ_eq_append_getElem hl,hy,List.drop_eq_getElem_cons hl,hy]
 rw [show (acc.take j++[y]++x::acc.drop (j+1)++rest)=acc.take j++(y::x::(acc.drop (j+1)++rest)) by simp,
  List.set_append_right (j+1) y oM,hlen,show j+1-j=1 by omega,List.set_cons_succ,List.set_cons_zero,
  List.set_append_right j x oM,hlen,Nat.sub_self,List.set_cons_zero]
 simp
theorem puti_start (acc rest:List Int) (x:Int):putAt acc acc.length x++rest=acc++x::rest:=by
 unfold putAt;rw [List.take_length,List.drop_length];simp
set_option maxHeartbeats 8000000 in
theorem insertionI_pw {H:Hp} {b cap:Nat} {l:List Int} {sp:List Value} (hl:l.length≤1000) {f:FuncId} {cs:List Value} {key:Int→Rat} (hcan:Callable prog f) (hcmp:∀ G,H.Le G→∀ x y,x∈l→y∈l→PC prog f ([iv x,iv y]++cs).toArray G fun u _=>u=.int .i64 (ordR (key x) (key y))) :
  PW prog 284 #[.slice (some ⟨b,0,none⟩) l.length cap,.int .i64 0,.int .i64 (l.length:Int),.func (.func f) #[] cs.toArray] H [(b,3,l.map iv++sp)] fun v ow _=>v=.tuple #[]∧∃ m,ow=[(b,3,m.map iv++sp)]∧m.Perm l∧RisK key m:=by
 refine PW.body tO func284 rfl kR ntmps284 rfl rfl ?_
 try refine RUN ?_
 refine EV.loopK (ι:=Nat × List Int) [0,1,2,3] [] (fun q=>[(8,.v (.int .i64 (q.1:Int)))]) (fun _=>[]) (fun q=>[(b,3,q.2.map iv++sp)]) (fun q _=>1≤q.1∧q.2.Perm l∧RisK key (q.2.take q.1)) (fun q=>l.length-q.1) ((1,l)) rfl rfl ⟨rfl,trivial⟩ trivial rfl (fun _=>rfl) (⟨Nat.le_refl _,List.Perm.refl _,by cases l with | nil=>exact List.Pairwise.nil | cons a l=>exact List.pairwise_singleton _ _⟩) ?_
 rintro ⟨i,cur⟩ G1 hG1 ⟨h1,hperm,hris⟩
 dsimp only at h1 hperm hris
 have hcl:=hperm.length_eq
 try refine RUN ?_
 refine EV.cond rfl (fun hlt=>?_) (fun hlt=>?_)
 ·simp only [nN] at hlt
  obtain ⟨x,hxi⟩:∃ x,cur[i]?=some x:=⟨_,List.getElem?_eq_getElem oM⟩
  have hcut:cur=cur.take i++x::cur.drop (i+1):=by rw [← dropA_at hxi,List.take_append_drop]
  have hal:(cur.take i).length=i:=by rw [List.length_take];omega
  have hxm:x∈l:=hperm.mem_iff.1 (List.mem_of_getElem? hxi)
  have hma:∀ y,y∈cur.take i→y∈l:=fun y hy=>hperm.mem_iff.1 (List.mem_of_mem_take hy)
  have hrl:(cur.drop (i+1)).length=l.length-(i+1):=by rw [List.length_drop];omega
  have hst:=puti_start (cur.take i) (cur.drop (i+1)) x
  rw [hal,← hcut] at hst
  generalize hacc:cur.take i=acc at *
  generalize cur.drop (i+1)=rest at *
  subst hal
  subst hst
  try refine RUN ?_
  refine EV.loopK (ι:=Nat) [0,1,2,3,8] [] (fun j=>[(9,.v (.int .i64 (j:Int)))]) (fun _=>[]) (fun j=>[(b,3,(putAt acc j x++rest).map iv++sp)]) (fun j _=>j≤acc.length∧∀ y,y∈acc.drop j→key x≤key y) (fun j=>j) (acc.length) rfl rfl ⟨rfl,trivial⟩ trivial rfl (fun _=>rfl) (⟨Nat.le_refl _,by rw [List.drop_length];intro y hy;cases hy⟩) ?_
  rintro j G2 hG2 ⟨hj,hgr⟩
  have hlen:=puti_len (acc:=acc) (rest:=rest) (j:=j) (x:=x)
  have hx':=puti_x (rest:=rest) (x:=x) hj
  have hp':=putAt_perm acc j x
  have hsum:(putAt acc j x++rest).length=l.length:=by rw [hlen];omega
  rw [← hsum]
  have next:(putAt acc j x++rest).Perm l:=by
   refine List.Perm.trans ?_ hperm
   exact (hp'.trans (putAt_perm acc acc.length x).symm).append_right rest
  have fin:RisK key (putAt acc j x)→RisK key ((putAt acc j x++rest).take (acc.length+1)):=fun h=>by
   rw [List.take_append_of_le_length (by rw [hp'.length_eq];simp)]
   rwa [List.take_of_length_le (by rw [hp'.length_eq];simp)]
  cases j with
  | zero =>
   have hr:=fin (risK_put hris (by intro y hy;rw [List.take_zero] at hy;cases hy) hgr)
   try refine RUN ?_
   apply EV.drawn 17 kR kR;intro xv yw
   (repeat (first | refine' DV ?_ | refine' DA ?_ | refine' DK0 ?_ | refine' DT ?_ | refine' DS ?_))
   (refine DJ.nil (fun G3 hG3 hF3=>?_);(case hS|hS2=>rfl))
   try refine RUN ?_
   refine ⟨(acc.length+1,putAt acc 0 x++rest),⟨?_,trivial⟩,sB,trivial,trivial,rfl,⟨by omega,next,hr⟩,hG2.trans hG3,by dsimp only;omega⟩
   rw [wi_inc _ (by omega)];rfl
  | succ j =>
   obtain ⟨y,hyj⟩:∃ y,acc[j]?=some y:=⟨_,List.getElem?_eq_getElem oM⟩
   have hy':=puti_y (rest:=rest) (x:=x) hyj
   have hc:=fun G (hG:H.Le G)=>hcmp G hG x y hxm (hma y (List.mem_of_getElem? hyj))
   have hlo:ordR (key x) (key y)<0→key x≤key y:=fun h=>by
    unfold ordR at h;split at h
    ·exact Rat.le_of_lt (by assumption)
    ·split at h <;> omega
   have hge:¬ ordR (key x) (key y)<0→key y≤key x:=fun h=>by
    unfold ordR at h;split at h
    ·omega
    ·rename_i k;exact Rat.not_lt.1 k
   generalize ordR (key x) (key y)=o at *
   try refine RUN ?_
   apply EV.drawn 17 kR kR;intro xv yw
   (repeat (first | refine' DV ?_ | refine' DA ?_ | refine' DK0 ?_ | refine' DT ?_ | refine' DS ?_))
   rw [decide_eq_true (show ((j+1:Nat):Int)>0 by omega)]
   (repeat (first | refine' DV ?_ | refine' DA ?_ | refine' DK0 ?_ | refine' DT ?_ | refine' DS ?_))
   refine' DJ.idxB tO rfl rfl rfl rfl rfl rfl rfl rfl rfl (j+1) ((j+1)*1) (rfl) (oM) (rfl) ?_;rotate_left
   refine' DJ.ofVal (ValOk.loadOwn tO rfl rfl rfl rfl (0) rfl (ci_get sp hx') rfl rfl) rfl rfl rfl ?_;rotate_left
   (repeat (first | refine' DV ?_ | refine' DA ?_ | refine' DK0 ?_ | refine' DT ?_ | refine' DS ?_))
   refine' DJ.idxB tO rfl rfl rfl rfl rfl rfl rfl rfl rfl (j) (j*1) ((by rw [IntKind.wrap_i64];omega)) (oM) (rfl) ?_;rotate_left
   refine' DJ.ofVal (ValOk.loadOwn tO rfl rfl rfl rfl (0) rfl (ci_get sp hy') rfl rfl) rfl rfl rfl ?_;rotate_left
   (refine' DJ.callC (f:=f) (cs:=cs) rfl rfl rfl rfl rfl rfl hcan (fun G hG=>hc G (hG1.trans (hG2.trans hG))) ?_;rotate_left)
   (repeat (first | refine' DV ?_ | refine' DA ?_ | refine' DK0 ?_ | refine' DT ?_ | refine' DS ?_))
   (refine DJ.nil (fun G3 hG3 hF3=>?_);(case hS|hS2=>rfl))
   try refine RUN ?_
   by_cases ho:o<0
   ·rw [decide_eq_true ho]
    have hxy:=hlo ho
    try refine RUN ?_
    refine EVA.start kR ?_
    refine EVA.val tO (0) rfl kR kR kR rfl rfl rfl rfl rfl ?_
    refine EVA.val tO (1) rfl kR kR kR rfl rfl rfl rfl rfl ?_
    refine EVA.val tO (5) rfl kR kR kR rfl rfl rfl rfl rfl ?_
    refine EVA.val tO (6) rfl kR kR kR rfl rfl rfl rfl rfl ?_
    refine EVA.val tO (7) rfl kR kR kR rfl rfl rfl rfl rfl ?_
    refine EVA.idxB tO (8) rfl kR kR kR rfl rfl rfl rfl rfl rfl rfl rfl rfl (j) (j*1) ((by rw [IntKind.wrap_i64];omega)) (oM) (rfl) ?_
    refine EVA.val tO (10) rfl kR kR kR rfl rfl rfl rfl rfl ?_
    refine EVA.val tO (11) rfl kR kR kR rfl rfl rfl rfl rfl ?_
    refine EVA.idxB tO (12) rfl kR kR kR rfl rfl rfl rfl rfl rfl rfl rfl rfl (j+1) ((j+1)*1) (rfl) (oM) (rfl) ?_
    refine EVA.val tO (2) rfl kR kR kR rfl rfl rfl rfl rfl ?_
    refine EVA.val tO (3) rfl kR kR kR rfl rfl rfl rfl rfl ?_
    refine EVA.val tO (4) rfl kR kR kR rfl rfl rfl rfl rfl ?_
    refine EVA.two 9 13 kR rfl rfl ?_ ?_
    ·refine EVL.loadOwn tO rfl rfl rfl rfl rfl rfl (0) rfl (ci_get sp hy') rfl rfl ?_
     refine EVL.nil ⟨rfl,?_⟩
     refine EVA.one 13 kR rfl ?_
     refine EVL.loadOwn tO rfl rfl rfl rfl rfl rfl (0) rfl (ci_get sp hx') rfl rfl ?_
     refine EVL.nil ⟨rfl,?_⟩
     refine EVA.idxB tO (14) rfl kR kR kR rfl rfl rfl rfl rfl rfl rfl rfl rfl (j+1) ((j+1)*1) (rfl) (oM) (rfl) ?_
     refine EVA.one 15 kR rfl ?_
     refine EVL.storeOwn tO rfl rfl rfl rfl rfl rfl ([]) ([]) rfl rfl rfl rfl ((by rw [List.length_append,List.length_map];show (j+1)*1+1≤_;omega)) ((ci_set sp y (show j+1<(putAt acc (j+1) x++rest).length by omega))) ?_
     refine EVL.nil ⟨rfl,?_⟩
     refine EVA.idxB tO (16) rfl kR kR kR rfl rfl rfl rfl rfl rfl rfl rfl rfl (j) (j*1) ((by rw [IntKind.wrap_i64];omega)) (oM) (rfl) ?_
     refine EVA.one 17 kR rfl ?_
     refine EVL.storeOwn tO rfl rfl rfl rfl rfl rfl ([]) ([]) rfl rfl rfl rfl ((by rw [List.length_append,List.length_map,List.length_set];show j*1+1≤_;omega)) ((ci_set sp x (show j<((putAt acc (j+1) x++rest).set (j+1) y).length by rw [List.length_set];omega))) ?_
     refine EVL.nil ⟨rfl,?_⟩
     refine EVA.nil kR ?_
     rw [puti_swap hyj]
     try refine RUN ?_
     refine ⟨j,⟨?_,trivial⟩,sB,trivial,trivial,rfl,⟨by omega,?_⟩,hG3,by omega⟩
     ·rw [show IntKind.i64.wrap (((j+1:Nat):Int)-1)=(j:Int) by rw [IntKind.wrap_i64];omega];rfl
     ·intro z hz
      rw [dropA_at hyj] at hz
      rcases List.mem_cons.1 hz with rfl | hz
      ·exact hxy
      ·exact hgr z hz
    ·refine EVL.loadOwn tO rfl rfl rfl rfl rfl rfl (0) rfl (ci_get sp hx') rfl rfl ?_
     refine EVL.nil ⟨rfl,?_⟩
     refine EVA.one 9 kR rfl ?_
     refine EVL.loadOwn tO rfl rfl rfl rfl rfl rfl (0) rfl (ci_get sp hy') rfl rfl ?_
     refine EVL.nil ⟨rfl,?_⟩
     refine EVA.idxB tO (14) rfl kR kR kR rfl rfl rfl rfl rfl rfl rfl rfl rfl (j+1) ((j+1)*1) (rfl) (oM) (rfl) ?_
     refine EVA.one 15 kR rfl ?_
     refine EVL.storeOwn tO rfl rfl rfl rfl rfl rfl ([]) ([]) rfl rfl rfl rfl ((by rw [List.length_append,List.length_map];show (j+1)*1+1≤_;omega)) ((ci_set sp y (show j+1<(putAt acc (j+1) x++rest).length by omega))) ?_
     refine EVL.nil ⟨rfl,?_⟩
     refine EVA.idxB tO (16) rfl kR kR kR rfl rfl rfl rfl rfl rfl rfl rfl rfl (j) (j*1) ((by rw [IntKind.wrap_i64];omega)) (oM) (rfl) ?_
     refine EVA.one 17 kR rfl ?_
     refine EVL.storeOwn tO rfl rfl rfl rfl rfl rfl ([]) ([]) rfl rfl rfl rfl ((by rw [List.length_append,List.length_map,List.length_set];show j*1+1≤_;omega)) ((ci_set sp x (show j<((putAt acc (j+1) x++rest).set (j+1) y).length by rw [List.length_set];omega))) ?_
     refine EVL.nil ⟨rfl,?_⟩
     refine EVA.nil kR ?_
     rw [puti_swap hyj]
     try refine RUN ?_
     refine ⟨j,⟨?_,trivial⟩,sB,trivial,trivial,rfl,⟨by omega,?_⟩,hG3,by omega⟩
     ·rw [show IntKind.i64.wrap (((j+1:Nat):Int)-1)=(j:Int) by rw [IntKind.wrap_i64];omega];rfl
     ·intro z hz
      rw [dropA_at hyj] at hz
      rcases List.mem_cons.1 hz with rfl | hz
      ·exact hxy
      ·exact hgr z hz
   ·rw [decide_eq_false ho]
    have hr:=fin (risK_put hris (risK_take hris hyj (hge ho)) hgr)
    try refine RUN ?_
    refine ⟨(acc.length+1,putAt acc (j+1) x++rest),⟨?_,trivial⟩,sB,trivial,trivial,rfl,⟨by omega,next,hr⟩,hG2.trans hG3,by dsimp only;omega⟩
    rw [wi_inc _ (by omega)];rfl
 ·simp only [nN] at hlt
  rw [List.take_of_length_le (by omega)] at hris
  try refine RUN ?_
  exact ⟨rfl,cur,rfl,hperm,hris⟩
section
variable {P:Program} {n:Nat} {ops:Array Oper} {rest:List Oper} {env:Env} {bx:Bxs} {H:Hs} {Q:EQ}
theorem Rel.asRo {W0:World} {H0:Bs} {β:Nat→Nat} {a:Act} {W:World} (r:Rel n W0 H0 β env bx H a W) {t b off:Nat} (ht:env.get t=some (.v (.pointer (some ⟨b,off,none⟩)))) {c:Array Value} (hc:H.ro b=some c) {cs:List Value} (hcs:∀ j x,cs[j]?=some x→c[off+j]?=some x) :
  Rel n W0 H0 β ((t,.ro cs)::env) bx H a W:=by
 refine ⟨r.size,r.defers,fun t' s hs=>?_,r.box,r.low,r.inj,fun t' i off' hu=>?_,r.fits,r.le,r.new,r.bel,r.glob,r.own,r.one⟩
 ·rw [Env.get_cons] at hs
  by_cases e:t=t'
  ·subst e
   rw [if_pos rfl] at hs
   cases hs
   obtain ⟨x,hx,hr⟩:=r.slot t _ ht
   exact ⟨x,hx,b,off,c,hr,hc,hcs⟩
  ·rw [if_neg e] at hs
   exact r.slot t' s hs
 ·rw [Env.get_cons] at hu
  by_cases e:t=t'
  ·rw [if_pos e] at hu;cases hu
  ·rw [if_neg e] at hu;exact r.pin t' i off' hu
theorem EV.asRo {c:Code} (t:Nat) {b:Nat} (ht:env.get t=some (.v (.pointer (some ⟨b,0,none⟩)))) {cs:List Value} (hc:H.ro b=some cs.toArray) (h:EV P n c ((t,.ro cs)::env) bx H Q):EV P n c env bx H Q :=
 fun W0 β a W r=>h W0 β a W (r.asRo ht hc (fun j x hx=>by rw [Nat.zero_add];simpa using hx))
theorem EVL.swapOw (a b:Ows) (e:H.ow=a++b) (h:EVL P n ops rest env bx ⟨H.ro,b++a,H.base⟩ Q):EVL P n ops rest env bx H Q :=
 fun W0 β x W r=>h W0 β x W (r.permOw (by rw [e];exact List.perm_append_comm))
theorem EV.swapOw {c:Code} (a b:Ows) (e:H.ow=a++b) (h:EV P n c env bx ⟨H.ro,b++a,H.base⟩ Q):EV P n c env bx H Q :=
 fun W0 β x W r=>h W0 β x W (r.permOw (by rw [e];exact List.perm_append_comm))
end
def QVs (H:Hp) (vs:List Value) (X:List (List Rat)):Prop:=vs.length=X.length∧∀ (j:Nat) (u:Value) (x:List Rat),vs[j]?=some u→X[j]?=some x→QL H u x
theorem QVs.mono {H G:Hp} {vs:List Value} {X:List (List Rat)} (h:QVs H vs X) (k:H.Le G):QVs G vs X:=⟨h.1,fun j u x e1 e2=>(h.2 j u x e1 e2).mono k⟩
theorem QVs.nil (H:Hp):QVs H [] []:=⟨rfl,fun j u x h=>by simp at h⟩
theorem vs_snoc {α:Type} {p:Value→α→Prop} {vs:List Value} {X:List α} {u:Value} {x:α} (h:vs.length=X.length∧∀ (j:Nat) (u:Value) (x:α),vs[j]?=some u→X[j]?=some x→p u x) (k:p u x) :
  (vs++[u]).length=(X++[x]).length∧∀ (j:Nat) (v:Value) (y:α),(vs++[u])[j]?=some v→(X++[x])[j]?=some y→p v y:=by
 refine ⟨by simp [h.1],fun j y r e1 e2=>?_⟩
 rw [List.getElem?_append] at e1 e2
 by_cases hj:j<vs.length
 ·rw [if_pos hj] at e1
  rw [if_pos (by rw [← h.1];exact hj)] at e2
  exact h.2 j y r e1 e2
 ·rw [if_neg hj] at e1
  rw [if_neg (by rw [← h.1];exact hj)] at e2
  have:=h.1
  cases hk:j-vs.length with
  | zero =>
   rw [hk] at e1;rw [← h.1,hk] at e2
   simp at e1 e2;subst e1;subst e2;exact k
  | succ m=>rw [hk] at e1;simp at e1
theorem QVs.snoc {H:Hp} {vs:List Value} {X:List (List Rat)} {u:Value} {x:List Rat} (h:QVs H vs X) (k:QL H u x):QVs H (vs++[u]) (X++[x]):=vs_snoc h k
def QLL (H:Hp) (v:Value) (X:List (List Rat)):Prop:=∃ vs:List Value,QVs H vs X∧SlC H v X.length 1 vs
theorem QLL.mono {H G:Hp} {v:Value} {X:List (List Rat)} (h:QLL H v X) (k:H.Le G):QLL G v X:=by
 obtain ⟨vs,h1,h2⟩:=h
 exact ⟨vs,h1.mono k,h2.mono k⟩
theorem QLL.val {H:Hp} {v:Value} {X:List (List Rat)} (h:QLL H v X):∃ a c,v=.slice a X.length c:=by
 obtain ⟨vs,_,h2⟩:=h
 exact SlC.val h2
theorem QVs.at {H:Hp} {vs:List Value} {X:List (List Rat)} (h:QVs H vs X) {j:Nat} {x:List Rat} (hj:X[j]?=some x):∃ a c,vs[j]?=some (.slice a x.length c)∧QL H (.slice a x.length c) x:=by
 obtain ⟨hl,_⟩:=List.getElem?_eq_some_iff.1 hj
 obtain ⟨u,hu⟩:∃ u,vs[j]?=some u:=⟨_,List.getElem?_eq_getElem (by rw [h.1];exact hl)⟩
 have hq:=h.2 j u x hu hj
 obtain ⟨a,c,rfl⟩:=SlC.val hq
 exact ⟨a,c,hu,hq⟩
def hasC (X:List (List Rat)) (col r:Int):Bool:=decide (0≤col) && decide (col<((X.getD r.toNat []).length:Int))
def colK (X:List (List Rat)) (col r:Int):Rat:=(X.getD r.toNat []).getD col.toNat 0
theorem colK_at {X:List (List Rat)} {col r:Int} {R C:Nat} {x:List Rat} {q:Rat} (hr:r=R) (hc:col=C) (hx:X[R]?=some x) (hq:x[C]?=some q):colK X col r=q:=by
 subst hr;subst hc
 unfold colK
 simp [List.getD_eq_getElem?_getD,hx,hq]
theorem hasC_at {X:List (List Rat)} {col r:Int} (hr0:0≤r) (hr:r<(X.length:Int)) (h:hasC X col r=true):∃ (R C:Nat) (x:List Rat) (q:Rat),r=R∧col=C∧X[R]?=some x∧x[C]?=some q:=by
 unfold hasC at h
 simp only [Bool.and_eq_true,decide_eq_true_eq] at h
 obtain ⟨R,rfl⟩:=Int.eq_ofNat_of_zero_le hr0
 obtain ⟨C,rfl⟩:=Int.eq_ofNat_of_zero_le h.1
 have h2:=h.2
 rw [Int.toNat_natCast,List.getD_eq_getElem?_getD,List.getElem?_eq_getElem (show R<X.length by omega),Option.getD_some] at h2
 exact ⟨R,C,X[R],X[R][C],rfl,rfl,List.getElem?_eq_getElem oM,List.getElem?_eq_getElem oM⟩
set_option maxHeartbeats 4000000 in
theorem cmpClo_pc {H:Hp} {bx bc:Nat} {v:Value} {X:List (List Rat)} {col:Int} (hX:QLL H v X) (hb:H bx=some [v].toArray) (hc:H bc=some [Value.int .i64 col].toArray) (hsm:∀ x,x∈X→∀ q,q∈x→sm q)
  {i j:Int} (hi0:0≤i) (hi:i<(X.length:Int)) (hj0:0≤j) (hj:j<(X.length:Int)) (hci:hasC X col i=true) (hcj:hasC X col j=true) :
  PC prog 280 #[.int .i64 i,.int .i64 j,.pointer (some ⟨bx,0,none⟩),.pointer (some ⟨bc,0,none⟩)] H fun r _=>r=.int .i64 (ordR (colK X col i) (colK X col j)):=by
 obtain ⟨I,C,x,p,rfl,rfl,hxi,hp⟩:=hasC_at hi0 hi hci
 obtain ⟨J,C',y,q,rfl,hCC,hyj,hq⟩:=hasC_at hj0 hj hcj
 obtain rfl:C=C':=by omega
 obtain ⟨va,vc,rfl⟩:=hX.val
 obtain ⟨vs,hvs,hs⟩:=hX
 obtain ⟨a1,c1,hu1,hQ1⟩:=hvs.at hxi
 obtain ⟨a2,c2,hu2,hQ2⟩:=hvs.at hyj
 have hs1:SlC H (.slice a1 x.length c1) x.length 5 (x.flatMap fun q=>vlist (fracV q)):=hQ1
 have hs2:SlC H (.slice a2 y.length c2) y.length 5 (y.flatMap fun q=>vlist (fracV q)):=hQ2
 have hcmp:=cmp_pv p q (hsm x (List.mem_of_getElem? hxi) p (List.mem_of_getElem? hp)) (hsm y (List.mem_of_getElem? hyj) q (List.mem_of_getElem? hq))
 rw [colK_at rfl rfl hxi hp,colK_at rfl rfl hyj hq]
 have hCx:=(List.getElem?_eq_some_iff.1 hp).1
 have hCy:=(List.getElem?_eq_some_iff.1 hq).1
 have hIl:I<X.length:=by omega
 have hJl:J<X.length:=by omega
 refine BD func280 ntmps280 ?_
 refine EV.asRo 2 rfl hb ?_
 refine EV.asRo 3 rfl hc ?_
 try refine RUN ?_
 apply EV.drawn 14 kR kR;intro xv yw
 (repeat (first | refine' DV ?_ | refine' DA ?_ | refine' DK0 ?_ | refine' DT ?_ | refine' DS ?_))
 refine' DJ.ofVal (ValOk.idx1 tO rfl rfl rfl rfl rfl rfl rfl rfl (hs) (I) (rfl) (hIl) (hu1)) rfl rfl rfl ?_;rotate_left
 (repeat (first | refine' DV ?_ | refine' DA ?_ | refine' DK0 ?_ | refine' DT ?_ | refine' DS ?_))
 refine' DJ.idxM tO rfl rfl rfl rfl rfl rfl rfl rfl rfl (hs1) (C) (rfl) (hCx) (QL.at (H:=H) (v:=.bool true) hp) ?_;rotate_left
 (repeat (first | refine' DV ?_ | refine' DA ?_ | refine' DK0 ?_ | refine' DT ?_ | refine' DS ?_))
 refine' DJ.ofVal (ValOk.idx1 tO rfl rfl rfl rfl rfl rfl rfl rfl (hs) (J) (rfl) (hJl) (hu2)) rfl rfl rfl ?_;rotate_left
 (repeat (first | refine' DV ?_ | refine' DA ?_ | refine' DK0 ?_ | refine' DT ?_ | refine' DS ?_))
 refine' DJ.idxM tO rfl rfl rfl rfl rfl rfl rfl rfl rfl (hs2) (C) (rfl) (hCy) (QL.at (H:=H) (v:=.bool true) hq) ?_;rotate_left
 (repeat (first | refine' DV ?_ | refine' DA ?_ | refine' DK0 ?_ | refine' DT ?_ | refine' DS ?_))
 (refine DJ.nil (fun G1 hG1 hF1=>?_);(case hS|hS2=>rfl))
 repeat (first | refine RUN ?_ | refine CV (hcmp) ?_ | refine CE (hcmp) ?_)
 rfl
theorem insertionI_no {H:Hp} {s:Value} {A:Int} (hA:0≤A∧A≤1000) (L:Ows) {clo:Value}:PW prog 284 #[s,.int .i64 A,.int .i64 A,clo] H L fun v ow _=>v=.tuple #[]∧ow=L:=by
 refine PW.body tO func284 rfl kR ntmps284 rfl rfl ?_
 try refine RUN ?_
 rw [show IntKind.i64.wrap (A+1)=A+1 by rw [IntKind.wrap_i64];omega]
 refine EV.loopK (ι:=Unit) [] [] (fun q=>[(2,.v (.int .i64 A)),(8,.v (.int .i64 (A+1)))]) (fun _=>[]) (fun _=>L) (fun _ _=>True) (fun _=>0) (()) rfl rfl ⟨rfl,rfl,trivial⟩ trivial rfl (fun _=>rfl) (trivial) ?_
 rintro ⟨⟩ G1 hG1 _
 try refine RUN ?_
 rw [decide_eq_false (show ¬ A+1<A by omega)]
 try refine RUN ?_
 exact ⟨rfl,rfl⟩
set_option maxHeartbeats 8000000 in
theorem stableI_pw {H:Hp} {b cap:Nat} {l:List Int} {sp:List Value} (hl:l.length≤20) {f:FuncId} {cs:List Value} {key:Int→Rat} (hcan:Callable prog f) (hcmp:∀ G,H.Le G→∀ x y,x∈l→y∈l→PC prog f ([iv x,iv y]++cs).toArray G fun u _=>u=.int .i64 (ordR (key x) (key y))) :
  PW prog 279 #[.slice (some ⟨b,0,none⟩) l.length cap,.func (.func f) #[] cs.toArray] H [(b,3,l.map iv++sp)] fun v ow _=>v=.tuple #[]∧∃ m,ow=[(b,3,m.map iv++sp)]∧m.Perm l∧RisK key m:=by
 have hst:PW prog 283 #[.slice (some ⟨b,0,none⟩) l.length cap,.int .i64 (l.length:Int),.func (.func f) #[] cs.toArray] H [(b,3,l.map iv++sp)] fun v ow _=>v=.tuple #[]∧∃ m,ow=[(b,3,m.map iv++sp)]∧m.Perm l∧RisK key m:=by
  refine PW.body tO func283 rfl kR ntmps283 rfl rfl ?_
  try refine RUN ?_
  refine EV.loopK (ι:=Bool × List Int) [0,1,2,6] [] (fun q=>[(7,.v (.int .i64 (if q.1 then 20 else 0))),(8,.v (.int .i64 (if q.1 then 40 else 20)))]) (fun _=>[]) (fun q=>[(b,3,q.2.map iv++sp)]) (fun q _=>q.2.Perm l∧(q.1=true→l.length=20∧RisK key q.2)∧(q.1=false→q.2=l)) (fun q=>if q.1 then 0 else 1) ((false,l)) rfl rfl ⟨rfl,rfl,trivial⟩ trivial rfl (fun _=>rfl) (⟨List.Perm.refl _,by simp,by simp⟩) ?_
  rintro ⟨q,m⟩ G1 hG1 ⟨hp,h1,h2⟩
  dsimp only at hp h1 h2
  cases q with
  | true =>
   obtain ⟨hn,hr⟩:=h1 rfl
   try refine RUN ?_
   rw [show decide ((if true=true then (40:Int) else 20)≤(l.length:Int))=false by rw [hn];rfl]
   try refine RUN ?_
   rw [show (if true=true then (20:Int) else 0)=(l.length:Int) by rw [hn];rfl]
   refine EVL.callW rfl rfl rfl rfl rfl ([(b,3,m.map iv++sp)]) ([]) rfl (insertionI_no (A:=(l.length:Int)) oM _) ?_
   rintro v ow G2 ⟨rfl,rfl⟩ hG2
   try refine RUN ?_
   refine EV.loopK (ι:=Unit) [1] [] (fun q=>[(6,.v (.int .i64 20))]) (fun _=>[]) (fun _=>[(b,3,m.map iv++sp)]) (fun _ _=>True) (fun _=>0) (()) rfl rfl ⟨rfl,trivial⟩ trivial rfl (fun _=>rfl) (trivial) ?_
   rintro ⟨⟩ G3 hG3 _
   try refine RUN ?_
   rw [decide_eq_false (show ¬ (20:Int)<(l.length:Int) by omega)]
   try refine RUN ?_
   exact ⟨rfl,m,rfl,hp,hr⟩
  | false =>
   obtain rfl:=h2 rfl
   try refine RUN ?_
   by_cases hn:m.length=20
   ·rw [show decide ((if false=true then (40:Int) else 20)≤(m.length:Int))=true by rw [hn];rfl]
    have hi:=insertionI_pw (H:=G1) (b:=b) (cap:=cap) (sp:=sp) (l:=m) (cs:=cs) (key:=key) oM hcan (fun G hG=>hcmp G (hG1.trans hG))
    rw [hn] at hi
    try refine RUN ?_
    rw [hn]
    refine EVL.callW rfl rfl rfl rfl rfl ([(b,3,m.map iv++sp)]) ([]) rfl (hi) ?_
    rintro v ow G2 ⟨rfl,m2,rfl,hp2,hr2⟩ hG2
    try refine RUN ?_
    exact ⟨(true,m2),⟨rfl,rfl,trivial⟩,sB,trivial,trivial,rfl,⟨hp2,fun _=>⟨by first | exact hn | rfl,hr2⟩,by simp⟩,hG2,by simp⟩
   ·rw [show decide ((if false=true then (40:Int) else 20)≤(m.length:Int))=false by simp;omega]
    try refine RUN ?_
    refine EVL.callW rfl rfl rfl rfl rfl ([(b,3,m.map iv++sp)]) ([]) rfl (insertionI_pw (key:=key) oM hcan (fun G hG=>hcmp G (hG1.trans hG))) ?_
    rintro v ow G2 ⟨rfl,m2,rfl,hp2,hr2⟩ hG2
    try refine RUN ?_
    refine EV.loopK (ι:=Unit) [1] [] (fun q=>[(6,.v (.int .i64 20))]) (fun _=>[]) (fun _=>[(b,3,m2.map iv++sp)]) (fun _ _=>True) (fun _=>0) (()) rfl rfl ⟨rfl,trivial⟩ trivial rfl (fun _=>rfl) (trivial) ?_
    rintro ⟨⟩ G3 hG3 _
    try refine RUN ?_
    rw [decide_eq_false (show ¬ (20:Int)<(m.length:Int) by omega)]
    try refine RUN ?_
    exact ⟨rfl,m2,rfl,hp2,hr2⟩
 refine PW.body tO func279 rfl kR ntmps279 rfl rfl ?_
 try refine RUN ?_
 refine EVL.callW rfl rfl rfl rfl rfl ([(b,3,l.map iv++sp)]) ([]) rfl (hst) ?_
 rintro v ow G2 ⟨rfl,m,rfl,hp,hr⟩ hG2
 try refine RUN ?_
 exact ⟨rfl,m,rfl,hp,hr⟩
theorem meanL_nil:meanL []=0:=rat_div_zero _
theorem meanL_any {H:Hp} {v:Value} {l:List Rat} (h:QL H v l) (hl:l.length≤10000) (hb:∀ q,q∈l→ht q≤100):PC prog 28 #[v] H fun r _=>r=.tuple #[fracV (meanL l),.bool (decide (0<l.length))]:=by
 by_cases h0:l.length=0
 ·obtain rfl:=List.length_eq_zero_iff.1 h0
  rw [meanL_nil]
  exact mean_no h
 ·rw [decide_eq_true (show 0<l.length by omega)]
  exact mean_pc h oM h0 hb
theorem meanL_ht {l:List Rat} {B:Nat} (hl:l.length≤300) (hb:∀ q,q∈l→ht q≤B):ht (meanL l)≤1+(B+1)*300+20:=by
 have b1:=ht_sum B l hb
 have b2:(B+1)*l.length≤(B+1)*300:=Nat.mul_le_mul_left _ hl
 have b3:=ht_len (n:=l.length) oM
 have b4:=ht_div (sumQ l) ((l.length:Int):Rat)
 unfold meanL
 omega
theorem devL_ht {m:Rat} {l:List Rat} {B C:Nat} (hb:∀ q,q∈l→ht q≤B) (hm:ht m≤C):∀ q,q∈devL m l→ht q≤2*(B+C+1):=fun q hq=>by
 obtain ⟨v,hv,rfl⟩:=List.mem_map.1 hq
 have h1:=hb v hv
 have h2:=ht_sub v m
 have h3:=ht_mul (v-m) (v-m)
 omega
theorem devS_ht {m:Rat} {l:List Rat} {B C:Nat} (hl:l.length≤300) (hb:∀ q,q∈l→ht q≤B) (hm:ht m≤C):ht (sumQ (devL m l))≤1+(2*(B+C+1)+1)*300:=by
 have h1:=ht_sum _ (devL m l) (devL_ht hb hm)
 have h2:(2*(B+C+1)+1)*(devL m l).length≤(2*(B+C+1)+1)*300:=Nat.mul_le_mul_left _ (by simpa [devL] using hl)
 omega
set_option maxHeartbeats 4000000 in
theorem meanG_pc {H:Hp} {v:Value} {rs:List Int} (hr:IL H v rs) (hn:rs.length≤300) {va:Option Addr} {vc:Nat} {vals:List Rat} {la:Option Addr} {lc:Nat} (hv:QL H (.slice va vals.length vc) vals) (h0:1≤vals.length) (h1:vals.length≤300) (hb:∀ q,q∈vals→ht q≤100) :
  PC prog 184 #[goalV 2 0 (.slice la 0 lc) (.slice va vals.length vc),v] H fun r _=>r=fracV (meanL (atR vals (exL rs vals.length))):=by
 obtain ⟨a,cap,rfl⟩:=SlC.val hr
 have hchk:=checkV_pv (va:=va) (vc:=vc) (la:=la) (lc:=lc) h0 h1
 have hel:=exL_len rs vals.length
 refine BD func184 ntmps184 ?_
 repeat (first | refine RUN ?_ | refine CV (hchk) ?_ | refine CE (hchk) ?_)
 refine EVL.call rfl rfl rfl rfl rfl (values_pc hr oM hv) ?_
 intro r1 G1 hL hG1
 have hlb:=fun q hq=>hb q (atR_mem (exL_mem (rs:=rs) (n:=vals.length)) q hq)
 have hll:(atR vals (exL rs vals.length)).length≤300:=by rw [atR_len];omega
 generalize atR vals (exL rs vals.length)=L at *
 have hm:=meanL_any hL oM hlb
 repeat (first | refine RUN ?_ | refine CV (hm) ?_ | refine CE (hm) ?_)
 by_cases hz:0<L.length
 ·rw [decide_eq_true hz]
  try refine RUN ?_
  rfl
 ·rw [decide_eq_false hz]
  try refine RUN ?_
  obtain rfl:L=[]:=List.length_eq_zero_iff.1 oM
  rw [meanL_nil]
  exact fracV_zero.symm
set_option maxHeartbeats 8000000 in
theorem costV_pc {H:Hp} {v:Value} {rs:List Int} (hr:IL H v rs) (hn:rs.length≤300) {va:Option Addr} {vc:Nat} {vals:List Rat} {la:Option Addr} {lc:Nat} (hv:QL H (.slice va vals.length vc) vals) (h0:1≤vals.length) (h1:vals.length≤300) (hb:∀ q,q∈vals→ht q≤100) :
  PC prog 183 #[goalV 2 0 (.slice la 0 lc) (.slice va vals.length vc),v] H fun r _=>r=fracV (sumQ (devL (meanL (atR vals (exL rs vals.length))) (atR vals (exL rs vals.length)))):=by
 obtain ⟨a,cap,rfl⟩:=SlC.val hr
 have hchk:=checkV_pv (va:=va) (vc:=vc) (la:=la) (lc:=lc) h0 h1
 have hel:=exL_len rs vals.length
 have hmean:=meanG_pc (la:=la) (lc:=lc) hr hn hv h0 h1 hb
 have hvals:=values_pc (kd:=2) (cl:=0) (la:=la) (ln:=0) (lc:=lc) hr oM hv
 have hlb:=fun q hq=>hb q (atR_mem (exL_mem (rs:=rs) (n:=vals.length)) q hq)
 have hll:(atR vals (exL rs vals.length)).length≤300:=by rw [atR_len];omega
 generalize atR vals (exL rs vals.length)=L at *
 have hmh:=meanL_ht hll hlb
 generalize meanL L=m at *
 have hms:sm m:=sm_of hmh oM
 refine BD func183 ntmps183 ?_
 repeat (first | refine RUN ?_ | refine CV (hchk) ?_ | refine CV (hmean) ?_ | refine CE (hchk) ?_ | refine CE (hmean) ?_)
 refine EVL.call rfl rfl rfl rfl rfl (hvals) ?_
 intro r1 G1 hL hG1
 obtain ⟨a1,c1,rfl⟩:=SlC.val hL
 have hs:SlC G1 (.slice a1 L.length c1) L.length 5 (L.flatMap fun q=>vlist (fracV q)):=hL
 try refine RUN ?_
 refine EV.loopK (ι:=Nat) [4,6,7,34,35] [4,7] (fun i=>[(36,.v (.int .i64 (i:Int)))]) (fun i=>[(6,63,vlist (fracV (sumQ (devL m (L.take i)))))]) (fun _=>[]) (fun i _=>i≤L.length) (fun i=>L.length-i) (0) rfl rfl ⟨rfl,trivial⟩ ⟨by rw [show sumQ (devL m (L.take 0))=0 from rfl,frac_zero_cells];rfl,trivial⟩ rfl (fun _=>rfl) (Nat.zero_le _) ?_
 rintro i G2 hG2 hi
 try refine RUN ?_
 refine EV.cond rfl (fun hlt=>?_) (fun hlt=>?_)
 ·simp only [nN] at hlt
  obtain ⟨x,hx⟩:∃ r,L[i]?=some r:=⟨_,List.getElem?_eq_getElem hlt⟩
  have hxb:=hlb x (List.mem_of_getElem? hx)
  have hsum:=devS_ht (l:=L.take i) (by rw [List.length_take];omega) (fun q hq=>hlb q (List.mem_of_mem_take hq)) hmh
  have hd:=ht_sub x m
  have hdd:=ht_mul (x-m) (x-m)
  have hsub:=sub_pv x m (sm_of hxb oM) hms
  have hmul:=mul_pv (x-m) (x-m) (sm_of hd oM) (sm_of hd oM)
  have hadd:=add_pv (sumQ (devL m (L.take i))) ((x-m)*(x-m)) (sm_of hsum oM) (sm_of hdd oM)
  rw [← devL_snoc,← take_snoc hx] at hadd
  try refine RUN ?_
  refine EVL.idxM tO rfl rfl rfl rfl rfl rfl rfl rfl rfl ((hs.mono hG2)) (i) (rfl) (hlt) (QL.at (H:=H) (v:=.bool true) hx) ?_
  repeat (first | refine RUN ?_ | refine CV (hsub) ?_ | refine CE (hsub) ?_)
  apply EV.drawn 4 kR kR;intro xv yw
  (repeat (first | refine' DV ?_ | refine' DA ?_ | refine' DK0 ?_ | refine' DT ?_ | (refine' DC (hmul) (h:=?_);rotate_left) | refine' DS ?_))
  (refine DJ.nil (fun G3 hG3 hF3=>?_);(case hS|hS2=>rfl))
  repeat (first | refine RUN ?_ | refine CV (hadd) ?_ | refine CE (hadd) ?_)
  refine ⟨i+1,⟨?_,trivial⟩,sB,⟨rfl,trivial⟩,sB,rfl,hlt,hG3,by omega⟩
  rw [wi_inc i (by omega)];rfl
 ·simp only [nN] at hlt
  obtain rfl:i=L.length:=by omega
  rw [List.take_length]
  try refine RUN ?_
  rfl
theorem wholeC_any {H:Hp} {cl:Int} {va:Option Addr} {vn vc:Nat} {la:Option Addr} {lc:Nat} {ls:List Int} (hv:IL H (.slice la ls.length lc) ls) {v:Value} {rs:List Int} (hr:IL H v rs) (hn:rs.length≤100000)
  (hrs:∀ r,r∈rs→0≤r∧r<(ls.length:Int)) (hls:∀ z,z∈ls→0≤z∧z<12) :
  PC prog 227 #[goalV 1 cl (.slice la ls.length lc) (.slice va vn vc),v] H fun r _=>r=.agg (sideC (rs.length:Nat) (csL (atI ls rs)) (sqL (atI ls rs)) 0).toArray:=by
 obtain ⟨a,cap,rfl⟩:=SlC.val hr
 exact wholeC_pc hv hr hn hrs hls
def costL (L:List Int):Rat:=((L.length:Int):Rat)-((sqL L:Int):Rat) / ((L.length:Int):Rat)
set_option maxHeartbeats 8000000 in
theorem costC_pc {H:Hp} {v:Value} {rs:List Int} (hr:IL H v rs) (hn:rs.length≤300) {va:Option Addr} {vc:Nat} {la:Option Addr} {lc:Nat} {ls:List Int} (hv:IL H (.slice la ls.length lc) ls) {cl:Int} (hc:1≤cl∧cl≤12) (h0:1≤ls.length) (h1:ls.length≤300) (hls:∀ z,z∈ls→0≤z∧z<cl) :
  PC prog 183 #[goalV 1 cl (.slice la ls.length lc) (.slice va 0 vc),v] H fun r _=>r=fracV (costL (atI ls (exL rs ls.length))):=by
 obtain ⟨a,cap,rfl⟩:=SlC.val hr
 have hchk:=checkC_pc (va:=va) (vc:=vc) hv hc h0 h1 hls
 have hlen:=lenC_pv (cl:=cl) (va:=va) (vn:=0) (vc:=vc) (la:=la) (ln:=ls.length) (lc:=lc)
 have hel:=exL_len rs ls.length
 have hem:=exL_mem (rs:=rs) (n:=ls.length)
 have hex:=fun (G:Hp) (hG:H.Le G)=>existing_pc (hr.mono hG) oM ls.length
 generalize exL rs ls.length=E at *
 have hLl:(atI ls E).length=E.length:=atI_len ls E
 have hsq:=sqL_le (atI ls E)
 rw [hLl] at hsq
 have hsq2:E.length*E.length≤300*300:=Nat.mul_le_mul oM oM
 have hE:costL (atI ls E)=((E.length:Int):Rat)-((sqL (atI ls E):Int):Rat) / ((E.length:Int):Rat):=by unfold costL;rw [hLl]
 have hn2:=ht_int (E.length:Int)
 have hn3:bl (E.length:Int).natAbs≤20:=bl_le oM
 have hs2:=ht_int (sqL (atI ls E):Int)
 have hs3:bl (sqL (atI ls E):Int).natAbs≤20:=bl_le oM
 have hdv:=ht_div ((sqL (atI ls E):Int):Rat) ((E.length:Int):Rat)
 have hof:=of_pv (E.length:Int) oM oM
 have hsub:=sub_pv ((E.length:Int):Rat) (((sqL (atI ls E):Int):Rat) / ((E.length:Int):Rat)) (by unfold sm;omega) (by unfold sm;omega)
 rw [hE]
 refine BD func183 ntmps183 ?_
 repeat (first | refine RUN ?_ | refine CV (hchk) ?_ | refine CE (hchk) ?_)
 apply EV.drawn 7 kR kR;intro xv yw
 (repeat (first | refine' DV ?_ | refine' DA ?_ | refine' DK0 ?_ | refine' DT ?_ | (refine' DC (hlen) (h:=?_);rotate_left) | refine' DS ?_))
 refine' DJ.call rfl rfl rfl rfl rfl (cO func228) (fun G hG hd=>hex G hG) (fun _ _ _ h k=>SlN.mono h k) ?_;rotate_left
 refine' DJ.callS rfl rfl rfl rfl rfl (cO func227) (fun G hG hd=>wholeC_any (hv.mono hG) (hd.head kR) oM hem (fun z hz=>⟨(hls z hz).1,by have:=(hls z hz).2;omega⟩)) ?_;rotate_left
 (repeat (first | refine' DV ?_ | refine' DA ?_ | refine' DK0 ?_ | refine' DT ?_ | refine' DS ?_))
 (refine DJ.nil (fun G1 hG1 hF1=>?_);(case hS|hS2=>rfl))
 repeat (first | refine RUN ?_ | refine CV (hof) ?_ | refine CE (hof) ?_)
 (first | refine EVL.unbox (5) rfl fun b=>?_ | refine EV.unbox (5) rfl fun b=>?_)
 refine EVL.callW rfl rfl rfl rfl rfl ([(b,320,sideC (E.length:Nat) (csL (atI ls E)) (sqL (atI ls E)) 0)]) ([]) rfl (worthC_pw (csL_len _) oM oM) ?_
 rintro v ow G2 ⟨rfl,rfl⟩ hG2
 repeat (first | refine RUN ?_ | refine CV (hsub) ?_ | refine CE (hsub) ?_)
 rfl
theorem oneB_iv:∀ l:List Int,oneB (l.map iv)=true
 | []=>rfl
 | _::l=>by rw [List.map_cons];unfold oneB;rw [oneB_iv l];rfl
theorem RL.nil (H:Hp) (a:Option Addr) (c:Nat):RL H (.slice a 0 c) []:=(RVs.nil H).rl ⟨rfl,.inl ⟨rfl,_,_,rfl⟩⟩
theorem IL.nil (H:Hp) (a:Option Addr) (c:Nat):IL H (.slice a 0 c) []:=⟨rfl,.inl ⟨rfl,_,_,rfl⟩⟩
set_option maxHeartbeats 8000000 in
theorem inGoal_pc {H:Hp} {kd cl:Int} {sl sv:Value} {ls:List Int} {qs:List Rat} (hl:IL H sl ls) (hq:RL H sv qs) (hn:ls.length≤1000000) (hm:qs.length≤1000000) (hb:∀ q,q∈qs→rq q) :
  PC prog 10 #[goalV kd cl sl sv] H fun r H'=>∃ la lc va vc,r=goalV kd cl (.slice la ls.length lc) (.slice va qs.length vc)∧IL H' (.slice la ls.length lc) ls∧QL H' (.slice va qs.length vc) qs:=by
 obtain ⟨a,cap,rfl⟩:=SlC.val hl
 obtain ⟨a2,cap2,rfl⟩:=hq.val
 have hls:SlC H (.slice a ls.length cap) ls.length 1 (ls.map iv):=hl
 by_cases e:ls.length=0
 ·obtain rfl:=List.length_eq_zero_iff.1 e
  show PC prog 10 #[goalV kd cl (.slice a 0 cap) (.slice a2 qs.length cap2)] H _
  refine BD func10 ntmps10 ?_
  try refine RUN ?_
  apply EV.drawn 11 kR kR;intro xv yw
  (repeat (first | refine' DV ?_ | refine' DA ?_ | refine' DK0 ?_ | refine' DT ?_ | refine' DS ?_))
  (refine' DJ.lit0 tO rfl rfl rfl rfl rfl rfl rfl ?_;rotate_left)
  (repeat (first | refine' DV ?_ | refine' DA ?_ | refine' DK0 ?_ | refine' DT ?_ | refine' DS ?_))
  refine' DJ.append0E (u0:=xv 4) tO rfl rfl rfl rfl rfl rfl rfl rfl rfl (a) (cap) rfl (fun G hd=>hd.head kR) ?_;rotate_left
  (repeat (first | refine' DV ?_ | refine' DA ?_ | refine' DK0 ?_ | refine' DT ?_ | refine' DS ?_))
  refine' DJ.call rfl rfl rfl rfl rfl (cO func19) (fun G hG hd=>inRow_pc (hq.mono hG) oM hb) (fun _ _ _ h k=>QL.mono h k) ?_;rotate_left
  (refine DJ.nil (fun G1 hG1 hF1=>?_);(case hS|hS2=>rfl))
  obtain ⟨hR,⟨g,hg⟩,_⟩:=hF1
  obtain ⟨a3,c3,e3⟩:=SlC.val hR
  rw [e3] at hR
  rw [hg,e3]
  try refine RUN ?_
  exact ⟨_,_,_,_,rfl,IL.nil _ _ _,hR⟩
 ·refine BD func10 ntmps10 ?_
  try refine RUN ?_
  apply EV.drawn 11 kR kR;intro xv yw
  (repeat (first | refine' DV ?_ | refine' DA ?_ | refine' DK0 ?_ | refine' DT ?_ | refine' DS ?_))
  (refine' DJ.lit0 tO rfl rfl rfl rfl rfl rfl rfl ?_;rotate_left)
  (repeat (first | refine' DV ?_ | refine' DA ?_ | refine' DK0 ?_ | refine' DT ?_ | refine' DS ?_))
  refine' DJ.appendE (u0:=xv 4) tO rfl rfl rfl rfl rfl rfl rfl rfl rfl rfl (fun G hd=>hd.head kR) (hls) (Nat.pos_of_ne_zero e) oM ?_;rotate_left
  (repeat (first | refine' DV ?_ | refine' DA ?_ | refine' DK0 ?_ | refine' DT ?_ | refine' DS ?_))
  refine' DJ.call rfl rfl rfl rfl rfl (cO func19) (fun G hG hd=>inRow_pc (hq.mono hG) oM hb) (fun _ _ _ h k=>QL.mono h k) ?_;rotate_left
  (refine DJ.nil (fun G1 hG1 hF1=>?_);(case hS|hS2=>rfl))
  obtain ⟨hR,hA,_⟩:=hF1
  obtain ⟨a3,c3,e3⟩:=SlC.val hR
  obtain ⟨a4,c4,e4⟩:=SlC.val hA
  rw [e3] at hR
  rw [e4] at hA
  rw [e3,e4]
  try refine RUN ?_
  exact ⟨_,_,_,_,rfl,hA,hR⟩
def GoalR (H:Hp) (v:Value) (n:Nat) (qs:List Rat):Prop :=
 (∃ s,v=goalV 2 0 (.slice none 0 0) s∧RL H s qs)∨∃ (cl:Int) (s:Value) (ls:List Int),v=goalV 1 cl s (.slice none 0 0)∧1≤cl∧cl≤4∧ls.length=n∧(∀ z,z∈ls→0≤z∧z<cl)∧IL H s ls
theorem GoalR.mono {H G:Hp} {v:Value} {n:Nat} {qs:List Rat} (h:GoalR H v n qs) (k:H.Le G):GoalR G v n qs:=by
 rcases h with ⟨s,e,h⟩ | ⟨cl,s,ls,e,h1,h2,h3,h4,h⟩
 ·exact .inl ⟨s,e,h.mono k⟩
 ·exact .inr ⟨cl,s,ls,e,h1,h2,h3,h4,h.mono k⟩
theorem wrap_in (z:Int):-9223372036854775808≤IntKind.i64.wrap z∧IntKind.i64.wrap z<9223372036854775808:=by
 rw [IntKind.wrap_i64];omega
set_option maxHeartbeats 8000000 in
theorem goal_pc {H:Hp} {v:Value} {l:List Int} (h:IL H v l) (hb:∀ z,z∈l → -9223372036854775808≤z∧z<9223372036854775808) (kd:Int) (n:Nat) (hn:n≤1000) :
  PC prog 30 #[.int .i64 kd,v,.int .i64 (n:Int)] H fun r H'=>GoalR H' r n (rowQ l n):=by
 obtain ⟨a,cap,rfl⟩:=SlC.val h
 have hpk:∀ z c:Int,-9223372036854775808≤z∧z<9223372036854775808→1≤c∧c≤4→PV prog 7 #[.int .i64 z,.int .i64 c] (.int .i64 (z % c)):=fun z c hz hc=>pick_pv z c hz oM oM
 have hrow:=row_pc h hb n oM
 have hwb:=wrap_in (kd.tdiv 2)
 have hp4:=hpk _ 4 hwb oM
 refine BD func30 ntmps30 ?_
 try refine RUN ?_
 by_cases hk:kd.tmod 2=0
 ·rw [show (kd.tmod 2 == 0)=true from beq_iff_eq.2 hk]
  try refine RUN ?_
  refine EVL.call rfl rfl rfl rfl rfl (hrow) ?_
  intro r G1 hr hG1
  obtain ⟨a3,c3,rfl⟩:=hr.val
  try refine RUN ?_
  exact .inl ⟨_,rfl,hr⟩
 ·rw [show (kd.tmod 2 == 0)=false from beq_eq_false_iff_ne.2 hk]
  try refine RUN ?_
  generalize IntKind.i64.wrap (kd.tdiv 2)=k2 at *
  have hcl:1≤1+k2 % 4∧1+k2 % 4≤4:=by omega
  repeat (first | refine RUN ?_ | refine CV (hp4) ?_ | refine CE (hp4) ?_)
  rw [show IntKind.i64.wrap (1+k2 % 4)=1+k2 % 4 by rw [IntKind.wrap_i64];omega]
  generalize 1+k2 % 4=cl at *
  try refine RUN ?_
  refine EV.loopK (ι:=Nat × List Int × Value × Ows) [1,2,6,7] [6] (fun q=>[(8,.v (.int .i64 (q.1:Int)))]) (fun q=>[(7,28,[.int .i64 1,.int .i64 cl,q.2.2.1,.slice none 0 0])]) (fun q=>q.2.2.2) (fun q _=>q.1≤n∧q.2.1.length=q.1∧(∀ z,z∈q.2.1→0≤z∧z<cl)∧OwnL 3 1 q.2.2.1 q.2.1.length (q.2.1.map iv) q.2.2.2) (fun q=>n-q.1) ((0,[],.slice none 0 0,[])) rfl rfl ⟨rfl,trivial⟩ ⟨rfl,trivial⟩ rfl (fun _=>rfl) (⟨Nat.zero_le _,rfl,by simp,OwnL.nil _ _⟩) ?_
  rintro ⟨i,ls,w,ow⟩ G1 hG1 ⟨hi,hll,hlb,hown⟩
  dsimp only at hi hll hlb hown
  obtain ⟨wa,wc,rfl⟩:=hown.val
  try refine RUN ?_
  refine EV.cond rfl (fun hlt=>?_) (fun hlt=>?_)
  ·simp only [nN] at hlt
   try refine RUN ?_
   refine EV.meetK (ι:=Int) [1,2,6,7,8] [6,7] (fun c=>[(9,.v (.int .i64 c))]) (fun _=>[]) (fun _=>ow) (fun c G=>G1.Le G ∧ -9223372036854775808≤c∧c<9223372036854775808) rfl rfl (fun _=>rfl) ?_ ?_
   ·refine EV.cond rfl (fun hc=>?_) (fun hc=>?_)
    ·simp only [nN] at hc
     obtain ⟨z,hz⟩:∃ r,l[i]?=some r:=⟨_,List.getElem?_eq_getElem hc⟩
     have hzb:=hb z (List.mem_of_getElem? hz)
     try refine RUN ?_
     refine EVL.idxR tO rfl rfl rfl rfl rfl rfl rfl rfl rfl rfl ((h.mono hG1)) (i) (rfl) (hc) ((by rw [List.getElem?_map,hz];rfl)) ?_
     try refine RUN ?_
     exact ⟨z,⟨rfl,trivial⟩,sB,trivial,sB,rfl,Hp.Le.refl _,hzb.1,hzb.2⟩
    ·(try refine RUN ?_)
     exact ⟨(i:Int),⟨rfl,trivial⟩,sB,trivial,sB,rfl,Hp.Le.refl _,by omega,by omega⟩
   ·rintro c G2 ⟨hG2,hc1,hc2⟩
    have hpc:=hpk c cl ⟨hc1,hc2⟩ hcl
    have hcb:0≤c % cl∧c % cl<cl:=⟨Int.emod_nonneg _ oM,Int.emod_lt_of_pos _ oM⟩
    generalize c % cl=cc at *
    try refine RUN ?_
    apply EV.drawn 7 kR kR;intro xv yw
    (repeat (first | refine' DV ?_ | refine' DA ?_ | refine' DK0 ?_ | refine' DT ?_ | (refine' DC (hpc) (h:=?_);rotate_left) | refine' DS ?_))
    (refine' DJ.lit tO rfl rfl rfl rfl rfl rfl rfl rfl rfl rfl rfl rfl ?_;rotate_left)
    (refine DJ.nil (fun G3 hG3 hF3=>?_);(case hS|hS2=>rfl))
    refine EVL.append tO rfl rfl rfl rfl rfl rfl rfl rfl rfl rfl rfl rfl [] ow [] (List.append_nil _).symm hown (SrcAt.ro hF3.1 oM) rfl oM ?_
    intro v1 ow1 hown1
    have hown2:=OwnL.il hown1
    clear hown1
    obtain ⟨va1,vc1,rfl⟩:=hown2.val
    try refine RUN ?_
    refine ⟨(i+1,ls++[cc],_,ow1),⟨?_,trivial⟩,sB,⟨rfl,trivial⟩,sB,List.append_nil _,⟨hlt,by rw [List.length_append,hll];rfl,?_,hown2⟩,hG2.trans hG3,by dsimp only;omega⟩
    ·rw [wi_inc i (by omega)];rfl
    ·intro z hz
     rcases List.mem_append.1 hz with hz | hz
     ·exact hlb z hz
     ·obtain rfl:=List.mem_singleton.1 hz
      exact hcb
  ·simp only [nN] at hlt
   obtain rfl:i=n:=by omega
   (first | refine EVL.publishL [] ow [] ((List.append_nil _).symm) hown fun G2 hG2 hs=>?_ | refine EV.publishL [] ow [] ((List.append_nil _).symm) hown fun G2 hG2 hs=>?_)
   try refine RUN ?_
   exact .inr ⟨cl,_,ls,rfl,hcl.1,hcl.2,hll,hlb,hs⟩
theorem cloneI_pw {H:Hp} {v:Value} {l:List Int} (h:IL H v l) (h0:0<l.length) (hl:l.length≤1000):PW prog 56 #[v] H [] fun r ow _=>OwnL 3 1 r l.length (l.map iv) ow:=by
 have hs:=h.2
 rcases hs with ⟨e,_⟩ | ⟨b,off,cap,c,rfl,_⟩
 ·omega
 ·refine PW.body tO func56 rfl kR ntmps56 rfl rfl ?_
  try refine RUN ?_
  refine EVL.eqnil tO rfl rfl rfl rfl rfl rfl rfl ?_
  try refine RUN ?_
  refine EVL.lit0 tO rfl rfl rfl rfl rfl rfl rfl fun g0=>?_
  try refine RUN ?_
  refine EVL.append tO rfl rfl rfl rfl rfl rfl rfl rfl rfl rfl rfl rfl [] [(g0,3,[])] [] rfl (OwnL.full (m:=0) rfl oM) (SrcAt.ro h h0) (oneB_iv l) oM ?_
  intro v1 ow1 hown1
  try refine RUN ?_
  rw [Nat.zero_add] at hown1
  rw [List.append_nil]
  exact hown1
theorem cloneI_nil {H:Hp} {v:Value} (h:IL H v []):PC prog 56 #[v] H fun r _=>∃ a cap,r=.slice a 0 cap:=by
 obtain ⟨a,cap,rfl⟩:=SlC.val h
 refine BD func56 ntmps56 ?_
 try refine RUN ?_
 refine EVL.eqnil tO rfl rfl rfl rfl rfl rfl rfl ?_
 cases a with
 | none =>
  try refine RUN ?_
  exact ⟨_,_,rfl⟩
 | some x =>
  try refine RUN ?_
  refine EVL.lit0 tO rfl rfl rfl rfl rfl rfl rfl fun g0=>?_
  try refine RUN ?_
  refine EVL.append0 tO rfl rfl rfl rfl rfl rfl rfl rfl rfl (Nat.le_refl _) ?_
  try refine RUN ?_
  exact ⟨_,_,rfl⟩
theorem stableI_nil {H:Hp} (a:Option Addr) (cap:Nat) (clo:Value):PC prog 279 #[.slice a 0 cap,clo] H fun v _=>v=.tuple #[]:=by
 have hst:PC prog 283 #[.slice a 0 cap,.int .i64 0,clo] H fun v _=>v=.tuple #[]:=by
  have hno:∀ G:Hp,PC prog 284 #[.slice a 0 cap,.int .i64 0,.int .i64 0,clo] G fun v _=>v=.tuple #[]:=fun G=>by
   refine BD func284 ntmps284 ?_
   try refine RUN ?_
   refine EV.loopK (ι:=Unit) [] [] (fun q=>[(2,.v (.int .i64 0)),(8,.v (.int .i64 1))]) (fun _=>[]) (fun _=>[]) (fun _ _=>True) (fun _=>0) (()) rfl rfl ⟨rfl,rfl,trivial⟩ trivial rfl (fun _=>rfl) (trivial) ?_
   rintro ⟨⟩ G1 hG1 _
   try refine RUN ?_
   rfl
  refine BD func283 ntmps283 ?_
  try refine RUN ?_
  refine EV.loopK (ι:=Unit) [0,1,2,6] [] (fun q=>[(7,.v (.int .i64 0)),(8,.v (.int .i64 20))]) (fun _=>[]) (fun _=>[]) (fun _ _=>True) (fun _=>0) (()) rfl rfl ⟨rfl,rfl,trivial⟩ trivial rfl (fun _=>rfl) (trivial) ?_
  rintro ⟨⟩ G1 hG1 _
  try refine RUN ?_
  refine EVL.call rfl rfl rfl rfl rfl (hno _) ?_
  rintro r G2 rfl hG2
  try refine RUN ?_
  refine EV.loopK (ι:=Unit) [1] [] (fun q=>[(6,.v (.int .i64 20))]) (fun _=>[]) (fun _=>[]) (fun _ _=>True) (fun _=>0) (()) rfl rfl ⟨rfl,trivial⟩ trivial rfl (fun _=>rfl) (trivial) ?_
  rintro ⟨⟩ G3 hG3 _
  try refine RUN ?_
  rfl
 refine BD func279 ntmps279 ?_
 try refine RUN ?_
 refine EVL.call rfl rfl rfl rfl rfl (hst) ?_
 rintro r G2 rfl hG2
 try refine RUN ?_
 rfl
def SortC (X:List (List Rat)) (col:Int) (rs m:List Int):Prop:=(rs.all (hasC X col)=true∧m.Perm rs∧RisK (colK X col) m)∨(rs.all (hasC X col)=false∧m=[])
set_option maxHeartbeats 8000000 in
theorem sorted_pc {H:Hp} {vx vr:Value} {X:List (List Rat)} {rs:List Int} {col:Int} (hX:QLL H vx X) (hr:IL H vr rs) (hn:rs.length≤20) (hrs:∀ r,r∈rs→0≤r∧r<(X.length:Int)) (hsm:∀ x,x∈X→∀ q,q∈x→sm q) :
  PC prog 267 #[vx,vr,.int .i64 col] H fun r H'=>∃ m,IL H' r m∧SortC X col rs m:=by
 obtain ⟨a,cap,rfl⟩:=SlC.val hr
 obtain ⟨xa,xc,rfl⟩:=hX.val
 refine BD func267 ntmps267 ?_
 try refine RUN ?_
 refine EV.loopK (ι:=Nat) [1,3,5,10,11] [3,5] (fun i=>[(12,.v (.int .i64 (i:Int)))]) (fun _=>[]) (fun _=>[]) (fun i _=>i≤rs.length∧∀ r,r∈rs.take i→hasC X col r=true) (fun i=>rs.length-i) (0) rfl rfl ⟨rfl,trivial⟩ trivial rfl (fun _=>rfl) (⟨Nat.zero_le _,by simp⟩) ?_
 rintro i G1 hG1 ⟨hi,hall⟩
 try refine RUN ?_
 refine EV.cond rfl (fun hlt=>?_) (fun hlt=>?_)
 ·simp only [nN] at hlt
  obtain ⟨r,hri⟩:∃ r,rs[i]?=some r:=⟨_,List.getElem?_eq_getElem hlt⟩
  have hb:=hrs r (List.mem_of_getElem? hri)
  obtain ⟨R,rfl⟩:=Int.eq_ofNat_of_zero_le hb.1
  obtain ⟨x,hx⟩:∃ x,X[R]?=some x:=⟨_,List.getElem?_eq_getElem oM⟩
  have hRl:R<X.length:=by omega
  obtain ⟨vs,hvs,hs⟩:=hX.mono hG1
  obtain ⟨a1,c1,hu,hQ⟩:=hvs.at hx
  have hhas:hasC X col (R:Int)=(decide (0≤col) && decide (col<(x.length:Int))):=by
   unfold hasC;rw [Int.toNat_natCast,List.getD_eq_getElem?_getD,hx];rfl
  have hno:hasC X col (R:Int)=false→rs.all (hasC X col)=false:=fun h=>by
   rw [List.all_eq_false];exact ⟨_,List.mem_of_getElem? hri,by rw [h];decide⟩
  try refine RUN ?_
  refine EVL.idxR tO rfl rfl rfl rfl rfl rfl rfl rfl rfl rfl ((hr.mono hG1)) (i) (rfl) (hlt) ((by rw [List.getElem?_map,hri];rfl)) ?_
  try refine RUN ?_
  by_cases hc:col<0
  ·apply EV.drawn 11 kR kR;intro xv yw
   (repeat (first | refine' DV ?_ | refine' DA ?_ | refine' DK0 ?_ | refine' DT ?_ | refine' DS ?_))
   rw [decide_eq_true hc]
   (repeat (first | refine' DV ?_ | refine' DA ?_ | refine' DK0 ?_ | refine' DT ?_ | refine' DS ?_))
   (refine DJ.nil (fun G1 hG1 hF1=>?_);(case hS|hS2=>rfl))
   try refine RUN ?_
   exact ⟨[],IL.nil _ _ _,.inr ⟨hno (by rw [hhas];simp;omega),rfl⟩⟩
  ·apply EV.drawn 11 kR kR;intro xv yw
   (repeat (first | refine' DV ?_ | refine' DA ?_ | refine' DK0 ?_ | refine' DT ?_ | refine' DS ?_))
   rw [decide_eq_false hc]
   (repeat (first | refine' DV ?_ | refine' DA ?_ | refine' DK0 ?_ | refine' DT ?_ | refine' DS ?_))
   refine' DJ.ofVal (ValOk.idx1 tO rfl rfl rfl rfl rfl rfl rfl rfl (hs) (R) (rfl) (hRl) (hu)) rfl rfl rfl ?_;rotate_left
   (repeat (first | refine' DV ?_ | refine' DA ?_ | refine' DK0 ?_ | refine' DT ?_ | refine' DS ?_))
   (refine DJ.nil (fun G1 hG1 hF1=>?_);(case hS|hS2=>rfl))
   try refine RUN ?_
   by_cases hc2:col≥(x.length:Int)
   ·rw [decide_eq_true hc2]
    try refine RUN ?_
    exact ⟨[],IL.nil _ _ _,.inr ⟨hno (by rw [hhas];simp;omega),rfl⟩⟩
   ·rw [decide_eq_false hc2]
    try refine RUN ?_
    refine ⟨i+1,⟨?_,trivial⟩,sB,trivial,sB,rfl,⟨hlt,fun z hz=>?_⟩,by assumption,by omega⟩
    ·rw [wi_inc i (by omega)];rfl
    ·rw [take_snoc hri] at hz
     rcases List.mem_append.1 hz with hz | hz
     ·exact hall z hz
     ·rw [List.mem_singleton.1 hz,hhas];simp;omega
 ·simp only [nN] at hlt
  obtain rfl:i=rs.length:=by omega
  rw [List.take_length] at hall
  have hall2:rs.all (hasC X col)=true:=List.all_eq_true.2 hall
  try refine RUN ?_
  (first | refine EVL.unbox (3) rfl fun bx=>?_ | refine EV.unbox (3) rfl fun bx=>?_)
  (first | refine EVL.unbox (5) rfl fun bc=>?_ | refine EV.unbox (5) rfl fun bc=>?_)
  (first | refine EVL.publish [] [(bx,_,_)] rfl fun G2 hG2 hbc=>?_ | refine EV.publish [] [(bx,_,_)] rfl fun G2 hG2 hbc=>?_)
  (first | refine EVL.publish [] [] rfl fun G3 hG3 hbx=>?_ | refine EV.publish [] [] rfl fun G3 hG3 hbx=>?_)
  have hXG:=hX.mono (hG1.trans (hG2.trans hG3))
  have hbcG:=hG3 _ _ hbc
  have hrG:=hr.mono (hG1.trans (hG2.trans hG3))
  by_cases h0:rs.length=0
  ·obtain rfl:=List.length_eq_zero_iff.1 h0
   refine EVL.call rfl rfl rfl rfl rfl (cloneI_nil hrG) ?_
   rintro r G4 ⟨a4,c4,rfl⟩ hG4
   try refine RUN ?_
   refine EVL.fn2 rfl rfl rfl rfl rfl rfl ?_
   refine EVL.call rfl rfl rfl rfl rfl (stableI_nil a4 c4 _) ?_
   rintro r G5 rfl hG5
   try refine RUN ?_
   exact ⟨[],IL.nil _ _ _,.inl ⟨hall2,List.Perm.refl _,List.Pairwise.nil⟩⟩
  ·refine EVL.callW rfl rfl rfl rfl rfl ([]) ([]) rfl (cloneI_pw hrG oM oM) ?_
   rintro r ow G4 hown hG4
   obtain ⟨g,c4,sp,rfl,rfl,hl4,hm4,hx4⟩:=hown.block oM
   try refine RUN ?_
   refine EVL.fn2 rfl rfl rfl rfl rfl rfl ?_
   refine EVL.callW rfl rfl rfl rfl rfl ([(g,3,rs.map iv++sp)]) ([]) rfl (stableI_pw (f:=280) (cs:=[.pointer (some ⟨bx,0,none⟩),.pointer (some ⟨bc,0,none⟩)]) (key:=colK X col) hn (cO func280) (fun G hG x y hx hy=>cmpClo_pc (hXG.mono (hG4.trans hG)) ((hG4.trans hG) _ _ hbx) ((hG4.trans hG) _ _ hbcG) hsm (hrs x hx).1 (hrs x hx).2 (hrs y hy).1 (hrs y hy).2 (hall x hx) (hall y hy))) ?_
   rintro v ow G5 ⟨rfl,m,rfl,hp,hris⟩ hG5
   have hml:=hp.length_eq
   have hown2:OwnL 3 1 (.slice (some ⟨g,0,none⟩) m.length c4) m.length (m.map iv) [(g,3,m.map iv++sp)]:=⟨by simp,.inr ⟨g,c4,sp,rfl,rfl,by rw [← hl4];simp [hml],by omega,hx4⟩⟩
   rw [← hml]
   (first | refine EVL.publishL [] [(g,3,m.map iv++sp)] [] (rfl) hown2 fun G6 hG6 hs6=>?_ | refine EV.publishL [] [(g,3,m.map iv++sp)] [] (rfl) hown2 fun G6 hG6 hs6=>?_)
   try refine RUN ?_
   exact ⟨m,hs6,.inl ⟨hall2,hp,hris⟩⟩
theorem middle_pv (a b:Rat) (ha:ht a≤100000) (hb:ht b≤100000):PV prog 269 #[fracV a,fracV b] (fracV ((a+b) / 2)):=by
 refine PV.of_pc ?_
 have h1:=ht_add a b
 have h2:ht ((2:Int):Rat)≤10:=by
  have:=ht_int 2
  have h2:bl (2:Int).natAbs≤5:=bl_le (by decide)
  omega
 have hadd:=add_pv a b (sm_of ha oM) (sm_of hb oM)
 have hof:=of_pv 2 oM oM
 have hdiv:=div_pv (a+b) ((2:Int):Rat) (sm_of h1 oM) (sm_of h2 oM) (by decide)
 rw [show ((2:Int):Rat)=2 from rfl] at hdiv hof
 refine BD func269 ntmps269 ?_
 repeat (first | refine RUN ?_ | refine CV (hadd) ?_ | refine CV (hof) ?_ | refine CV (hdiv) ?_ | refine CE (hadd) ?_ | refine CE (hof) ?_ | refine CE (hdiv) ?_)
 rfl
theorem ordQ_le {a b:Rat} (h:a≤b):ordR a b≤0:=by
 unfold ordR
 split
 ·omega
 ·split
  ·rename_i k;exact absurd k (Rat.not_lt.2 h)
  ·omega
def lowL (X:List (List Rat)) (col:Int) (t:Rat) (es:List Int):List Int:=es.filter fun r=>hasC X col r && decide (colK X col r≤t)
def highL (X:List (List Rat)) (col:Int) (t:Rat) (es:List Int):List Int:=es.filter fun r=>hasC X col r && !decide (colK X col r≤t)
theorem filter_snoc {p:Int→Bool} {es:List Int} {i:Nat} {r:Int} (h:es[i]?=some r):(es.take (i+1)).filter p=(es.take i).filter p++if p r then [r] else []:=by
 rw [take_snoc h,List.filter_append]
 cases hp:p r <;> simp [hp]
set_option maxHeartbeats 8000000 in
theorem sides_pc {H:Hp} {vx vr:Value} {X:List (List Rat)} {rs:List Int} {col:Int} {t:Rat} (hX:QLL H vx X) (hr:IL H vr rs) (hn:rs.length≤100000) (hsm:∀ x,x∈X→∀ q,q∈x→sm q) (ht:sm t) :
  PC prog 187 #[vx,vr,.int .i64 col,fracV t] H fun r H'=>∃ u w,r=.tuple #[u,w]∧IL H' u (lowL X col t (exL rs X.length))∧IL H' w (highL X col t (exL rs X.length)):=by
 obtain ⟨a,cap,rfl⟩:=SlC.val hr
 obtain ⟨xa,xc,rfl⟩:=hX.val
 refine BD func187 ntmps187 ?_
 try refine RUN ?_
 refine EVL.call rfl rfl rfl rfl rfl (existing_pc hr oM X.length) ?_
 intro r1 G0 he hG0
 have hel:=exL_len rs X.length
 have heb:=exL_mem (rs:=rs) (n:=X.length)
 generalize exL rs X.length=es at *
 obtain ⟨a1,c1,rfl⟩:=SlC.val he
 try refine RUN ?_
 refine EV.loopK (ι:=Nat × Value × Value × Ows × Ows) [0,2,7,15,16] [7] (fun q=>[(8,.v q.2.1),(9,.v q.2.2.1),(17,.v (.int .i64 (q.1:Int)))]) (fun _=>[]) (fun q=>q.2.2.2.1++q.2.2.2.2) (fun q _=>q.1≤es.length∧OwnL 3 1 q.2.1 (lowL X col t (es.take q.1)).length ((lowL X col t (es.take q.1)).map iv) q.2.2.2.1∧OwnL 3 1 q.2.2.1 (highL X col t (es.take q.1)).length ((highL X col t (es.take q.1)).map iv) q.2.2.2.2) (fun q=>es.length-q.1) ((0,.slice none 0 0,.slice none 0 0,[],[])) rfl rfl ⟨rfl,rfl,rfl,trivial⟩ trivial rfl (fun _=>rfl) (⟨Nat.zero_le _,OwnL.nil _ _,OwnL.nil _ _⟩) ?_
 rintro ⟨i,w1,w2,ow1,ow2⟩ G1 hG1 ⟨hi,hown1,hown2⟩
 dsimp only at hi hown1 hown2
 obtain ⟨wa1,wc1,rfl⟩:=hown1.val
 obtain ⟨wa2,wc2,rfl⟩:=hown2.val
 try refine RUN ?_
 refine EV.cond rfl (fun hlt=>?_) (fun hlt=>?_)
 ·simp only [nN] at hlt
  obtain ⟨r,hri⟩:∃ r,es[i]?=some r:=⟨_,List.getElem?_eq_getElem hlt⟩
  have hb:=heb r (List.mem_of_getElem? hri)
  obtain ⟨R,rfl⟩:=Int.eq_ofNat_of_zero_le hb.1
  obtain ⟨x,hx⟩:∃ x,X[R]?=some x:=⟨_,List.getElem?_eq_getElem oM⟩
  have hRl:R<X.length:=by omega
  obtain ⟨vs,hvs,hs⟩:=hX.mono (hG0.trans hG1)
  obtain ⟨a2,c2,hu,hQ⟩:=hvs.at hx
  have hlo:=filter_snoc (p:=fun r=>hasC X col r && decide (colK X col r≤t)) hri
  have hhi:=filter_snoc (p:=fun r=>hasC X col r && !decide (colK X col r≤t)) hri
  have hhas:hasC X col (R:Int)=(decide (0≤col) && decide (col<(x.length:Int))):=by
   unfold hasC;rw [Int.toNat_natCast,List.getD_eq_getElem?_getD,hx];rfl
  have hl1:(lowL X col t (es.take i)).length≤i:=Nat.le_trans (List.length_filter_le _ _) (by rw [List.length_take];omega)
  have hl2:(highL X col t (es.take i)).length≤i:=Nat.le_trans (List.length_filter_le _ _) (by rw [List.length_take];omega)
  have wn:IntKind.i64.wrap ((i:Int)+1)=((i+1:Nat):Int):=wi_inc i oM
  try refine RUN ?_
  refine EVL.idxR tO rfl rfl rfl rfl rfl rfl rfl rfl rfl rfl ((he.mono hG1)) (i) (rfl) (hlt) ((by rw [List.getElem?_map,hri];rfl)) ?_
  try refine RUN ?_
  by_cases hc:col<0
  ·have hno:hasC X col (R:Int)=false:=by rw [hhas];simp;omega
   rw [hno,Bool.false_and,if_neg (by decide),List.append_nil] at hlo hhi
   rw [decide_eq_true hc]
   try refine RUN ?_
   refine ⟨(i+1,_,_,ow1,ow2),⟨rfl,rfl,?_,trivial⟩,sB,trivial,sB,rfl,⟨hlt,by unfold lowL;rw [hlo];exact hown1,by unfold highL;rw [hhi];exact hown2⟩,Hp.Le.refl _,by dsimp only;omega⟩
   rw [wn];rfl
  ·rw [decide_eq_false hc]
   try refine RUN ?_
   refine EVL.idxR tO rfl rfl rfl rfl rfl rfl rfl rfl rfl rfl (hs) (R) (rfl) (hRl) (hu) ?_
   try refine RUN ?_
   by_cases hc2:col≥(x.length:Int)
   ·have hno:hasC X col (R:Int)=false:=by rw [hhas];simp;omega
    rw [hno,Bool.false_and,if_neg (by decide),List.append_nil] at hlo hhi
    rw [decide_eq_true hc2]
    try refine RUN ?_
    refine ⟨(i+1,_,_,ow1,ow2),⟨rfl,rfl,?_,trivial⟩,sB,trivial,sB,rfl,⟨hlt,by unfold lowL;rw [hlo];exact hown1,by unfold highL;rw [hhi];exact hown2⟩,Hp.Le.refl _,by dsimp only;omega⟩
    rw [wn];rfl
   ·have hyes:hasC X col (R:Int)=true:=by rw [hhas];simp;omega
    obtain ⟨R',C,x',q,hRR,rfl,hx',hq⟩:=hasC_at hb.1 hb.2 hyes
    obtain rfl:R=R':=by omega
    rw [hx] at hx';cases hx'
    have hk:=colK_at (X:=X) rfl rfl hx hq
    have hs2:SlC G1 (.slice a2 x.length c2) x.length 5 (x.flatMap fun q=>vlist (fracV q)):=hQ
    have hCl:=(List.getElem?_eq_some_iff.1 hq).1
    have hcmp:=cmp_pv q t (hsm x (List.mem_of_getElem? hx) q (List.mem_of_getElem? hq)) ht
    rw [hyes,Bool.true_and,hk] at hlo hhi
    rw [decide_eq_false hc2]
    try refine RUN ?_
    apply EV.drawn 8 kR kR;intro xv yw
    (repeat (first | refine' DV ?_ | refine' DA ?_ | refine' DK0 ?_ | refine' DT ?_ | refine' DS ?_))
    refine' DJ.ofVal (ValOk.idx1 tO rfl rfl rfl rfl rfl rfl rfl rfl (hs) (R) (rfl) (hRl) (hu)) rfl rfl rfl ?_;rotate_left
    (repeat (first | refine' DV ?_ | refine' DA ?_ | refine' DK0 ?_ | refine' DT ?_ | refine' DS ?_))
    refine' DJ.idxM tO rfl rfl rfl rfl rfl rfl rfl rfl rfl (hs2) (C) (rfl) (hCl) (QL.at (H:=H) (v:=.bool true) hq) ?_;rotate_left
    (repeat (first | refine' DV ?_ | refine' DA ?_ | refine' DK0 ?_ | refine' DT ?_ | refine' DS ?_))
    (refine DJ.nil (fun G2 hG2 hF2=>?_);(case hS|hS2=>rfl))
    repeat (first | refine RUN ?_ | refine CV (hcmp) ?_ | refine CE (hcmp) ?_)
    by_cases hle:q≤t
    ·have ho:ordR q t≤0:=ordQ_le hle
     rw [decide_eq_true hle,if_pos rfl] at hlo
     rw [decide_eq_true hle,if_neg (by decide),List.append_nil] at hhi
     rw [decide_eq_true ho]
     try refine RUN ?_
     refine EVL.app1 tO rfl rfl rfl rfl rfl rfl rfl rfl rfl rfl rfl rfl rfl rfl rfl rfl rfl rfl rfl (fun _=>rfl) (ow1) (ow2) (rfl) (hown1) oM fun _=>?_
     intro v' ow' hown'
     try refine RUN ?_
     refine ⟨(i+1,v',_,ow',ow2),⟨rfl,rfl,?_,trivial⟩,sB,trivial,sB,rfl,⟨hlt,by unfold lowL;rw [hlo];exact hown'.il,by unfold highL;rw [hhi];exact hown2⟩,by assumption,by dsimp only;omega⟩
     rw [wn];rfl
    ·have ho:¬ ordR q t≤0:=by
      have:=Rat.not_le.1 hle
      unfold ordR
      rw [if_neg (fun k=>absurd (Rat.le_of_lt k) (Rat.not_le.2 this)),if_pos this];omega
     rw [decide_eq_false hle,if_neg (by decide),List.append_nil] at hlo
     rw [decide_eq_false hle,Bool.not_false,if_pos rfl] at hhi
     rw [decide_eq_false ho]
     try refine RUN ?_
     refine EVL.swapOw ow1 ow2 rfl ?_
     refine EVL.app1 tO rfl rfl rfl rfl rfl rfl rfl rfl rfl rfl rfl rfl rfl rfl rfl rfl rfl rfl rfl (fun _=>rfl) (ow2) (ow1) (rfl) (hown2) oM fun _=>?_
     intro v' ow' hown'
     refine EVL.swapOw ow' ow1 rfl ?_
     try refine RUN ?_
     refine ⟨(i+1,_,v',ow1,ow'),⟨rfl,rfl,?_,trivial⟩,sB,trivial,sB,rfl,⟨hlt,by unfold lowL;rw [hlo];exact hown1,by unfold highL;rw [hhi];exact hown'.il⟩,by assumption,by dsimp only;omega⟩
     rw [wn];rfl
 ·simp only [nN] at hlt
  obtain rfl:i=es.length:=by omega
  rw [List.take_length] at hown1 hown2 ⊢
  (first | refine EVL.publishL [] ow1 ow2 (rfl) hown1 fun G2 hG2 hs2=>?_ | refine EV.publishL [] ow1 ow2 (rfl) hown1 fun G2 hG2 hs2=>?_)
  (first | refine EVL.publishL [] ow2 [] ((List.append_nil _).symm) hown2 fun G3 hG3 hs3=>?_ | refine EV.publishL [] ow2 [] ((List.append_nil _).symm) hown2 fun G3 hG3 hs3=>?_)
  try refine RUN ?_
  exact ⟨_,_,rfl,hs2.mono hG3,hs3⟩
section
variable {pre S S' post vs:List Value} {k:Nat}
theorem at_load (h:pre.length=k) (j s:Nat) (hj:j+s≤S.length) (hv:(S.drop j).take s=vs):((pre++(S++post)).drop (k+j)).take s=vs:=by
 rw [← List.drop_drop,List.drop_left' h,List.drop_append_of_le_length oM,List.take_append_of_le_length (by rw [List.length_drop];omega),hv]
theorem at_load2 (h:pre.length=k) (i j s:Nat) (hj:i+j+s≤S.length) (hv:(S.drop (i+j)).take s=vs):((pre++(S++post)).drop (k+i+j)).take s=vs:=by
 rw [Nat.add_assoc];exact at_load h (i+j) s hj hv
theorem at_store (h:pre.length=k) (j s:Nat) (hj:j+s≤S.length) (hv:S.take j++vs++S.drop (j+s)=S'):(pre++(S++post)).take (k+j)++vs++(pre++(S++post)).drop (k+j+s)=pre++(S'++post):=by
 subst h
 rw [← hv,List.take_append,List.take_of_length_le oM,show pre.length+j-pre.length=j by omega,List.take_append_of_le_length oM,Nat.add_assoc,← List.drop_drop,List.drop_left,List.drop_append_of_le_length (by omega)]
 simp only [List.append_assoc]
theorem at_store2 (h:pre.length=k) (i j s:Nat) (hj:i+j+s≤S.length) (hv:S.take (i+j)++vs++S.drop (i+j+s)=S'):(pre++(S++post)).take (k+i+j)++vs++(pre++(S++post)).drop (k+i+j+s)=pre++(S'++post):=by
 rw [Nat.add_assoc k i j];exact at_store h (i+j) s hj hv
theorem at_room (h:pre.length=k) {j s:Nat} (hj:j+s≤S.length):k+j+s≤(pre++(S++post)).length:=by
 rw [List.length_append,List.length_append];omega
theorem at_room2 (h:pre.length=k) {i j s:Nat} (hj:i+j+s≤S.length):k+i+j+s≤(pre++(S++post)).length:=by
 rw [List.length_append,List.length_append];omega
end
section
variable {H:Hp} {b k:Nat} {T:TypeId} {pre post:List Value} (hk:pre.length=k)
include hk
set_option maxHeartbeats 4000000 in
theorem addV_at {cl:Int} {la:Option Addr} {ln lc:Nat} {va:Option Addr} {vc:Nat} {vals:List Rat} (hv:QL H (.slice va vals.length vc) vals) {r n:Nat} (hn:n≤1000000) {x q:Rat} (hr:vals[r]?=some x) (hx:sm x) (hq:sm q) {cs:List Int} (hc:cs.length=12) {sq:Int} :
  PW prog 265 #[.pointer (some ⟨b,k,none⟩),goalV 2 cl (.slice la ln lc) (.slice va vals.length vc),.int .i64 (r:Int)] H [(b,T,pre++(sideC n cs sq q++post))] fun v ow _=>v=.tuple #[]∧ow=[(b,T,pre++(sideC ((n+1:Nat):Int) cs sq (q+x)++post))]:=by
 have hadd:=add_pv q x hq hx
 have hlen:=sideC_len (n:=(n:Int)) (cs:=cs) (sq:=sq) (q:=q) hc
 have hlen2:=sideC_len (n:=((n+1:Nat):Int)) (cs:=cs) (sq:=sq) (q:=q) hc
 obtain ⟨hrl,_⟩:=List.getElem?_eq_some_iff.1 hr
 have hs:SlC H (.slice va vals.length vc) vals.length 5 (vals.flatMap fun q=>vlist (fracV q)):=hv
 refine PW.body tO func265 rfl kR ntmps265 rfl rfl ?_
 try refine RUN ?_
 (repeat (first | refine EVL.nilB rfl rfl rfl rfl rfl ?_ | refine EVL.fldB tO rfl rfl rfl rfl rfl rfl rfl ?_ | refine EVL.val tO rfl rfl rfl rfl rfl ?_))
 refine EVL.loadOwn tO rfl rfl rfl rfl rfl rfl (0) rfl (at_load hk 0 1 oM side_n) rfl rfl ?_
 (repeat (first | refine EVL.nilB rfl rfl rfl rfl rfl ?_ | refine EVL.fldB tO rfl rfl rfl rfl rfl rfl rfl ?_ | refine EVL.val tO rfl rfl rfl rfl rfl ?_))
 rw [show IntKind.i64.wrap ((n:Int)+1)=((n+1:Nat):Int) by rw [IntKind.wrap_i64];omega]
 refine EVL.storeOwn tO rfl rfl rfl rfl rfl rfl ([]) ([]) rfl rfl rfl rfl ((at_room hk (j:=0) (s:=1) oM)) (at_store hk 0 1 oM side_n_set) ?_
 try refine RUN ?_
 apply EV.drawn 11 kR kR;intro xv yw
 (repeat (first | refine' DV ?_ | refine' DA ?_ | refine' DK0 ?_ | refine' DT ?_ | refine' DS ?_ | (refine' DJ.nilB rfl rfl rfl rfl rfl ?_;rotate_left) | (refine' DJ.fldB tO rfl rfl rfl rfl rfl rfl rfl ?_;rotate_left)))
 refine' DJ.ofVal (ValOk.loadOwn tO rfl rfl rfl rfl (0) rfl (at_load hk 14 5 oM (side_sum hc)) rfl rfl) rfl rfl rfl ?_;rotate_left
 (repeat (first | refine' DV ?_ | refine' DA ?_ | refine' DK0 ?_ | refine' DT ?_ | refine' DS ?_ | (refine' DJ.nilB rfl rfl rfl rfl rfl ?_;rotate_left) | (refine' DJ.fldB tO rfl rfl rfl rfl rfl rfl rfl ?_;rotate_left)))
 refine' DJ.idxM tO rfl rfl rfl rfl rfl rfl rfl rfl rfl (hs) (r) (rfl) (hrl) (QL.at (H:=H) (v:=.bool true) hr) ?_;rotate_left
 (repeat (first | refine' DV ?_ | refine' DA ?_ | refine' DK0 ?_ | refine' DT ?_ | (refine' DC (hadd) (h:=?_);rotate_left) | refine' DS ?_))
 (refine DJ.nil (fun G1 hG1 hF1=>?_);(case hS|hS2=>rfl))
 (repeat (first | refine EVL.nilB rfl rfl rfl rfl rfl ?_ | refine EVL.fldB tO rfl rfl rfl rfl rfl rfl rfl ?_ | refine EVL.val tO rfl rfl rfl rfl rfl ?_))
 refine EVL.storeOwn tO rfl rfl rfl rfl rfl rfl ([]) ([]) rfl rfl rfl rfl ((at_room hk (j:=14) (s:=5) oM)) (at_store hk 14 5 oM (side_sum_set hc)) ?_
 try refine RUN ?_
 exact ⟨rfl,rfl⟩
set_option maxHeartbeats 4000000 in
theorem dropV_at {cl:Int} {la:Option Addr} {ln lc:Nat} {va:Option Addr} {vc:Nat} {vals:List Rat} (hv:QL H (.slice va vals.length vc) vals) {r n:Nat} (hn:n≤1000000) {x q:Rat} (hr:vals[r]?=some x) (hx:sm x) (hq:sm q) {cs:List Int} (hc:cs.length=12) {sq:Int} :
  PW prog 281 #[.pointer (some ⟨b,k,none⟩),goalV 2 cl (.slice la ln lc) (.slice va vals.length vc),.int .i64 (r:Int)] H [(b,T,pre++(sideC ((n+1:Nat):Int) cs sq q++post))] fun v ow _=>v=.tuple #[]∧ow=[(b,T,pre++(sideC (n:Int) cs sq (q-x)++post))]:=by
 have hsub:=sub_pv q x hq hx
 have hlen:=sideC_len (n:=(n:Int)) (cs:=cs) (sq:=sq) (q:=q) hc
 have hlen2:=sideC_len (n:=((n+1:Nat):Int)) (cs:=cs) (sq:=sq) (q:=q) hc
 obtain ⟨hrl,_⟩:=List.getElem?_eq_some_iff.1 hr
 have hs:SlC H (.slice va vals.length vc) vals.length 5 (vals.flatMap fun q=>vlist (fracV q)):=hv
 refine PW.body tO func281 rfl kR ntmps281 rfl rfl ?_
 try refine RUN ?_
 (repeat (first | refine EVL.nilB rfl rfl rfl rfl rfl ?_ | refine EVL.fldB tO rfl rfl rfl rfl rfl rfl rfl ?_ | refine EVL.val tO rfl rfl rfl rfl rfl ?_))
 refine EVL.loadOwn tO rfl rfl rfl rfl rfl rfl (0) rfl (at_load hk 0 1 oM side_n) rfl rfl ?_
 (repeat (first | refine EVL.nilB rfl rfl rfl rfl rfl ?_ | refine EVL.fldB tO rfl rfl rfl rfl rfl rfl rfl ?_ | refine EVL.val tO rfl rfl rfl rfl rfl ?_))
 rw [show IntKind.i64.wrap (((n+1:Nat):Int)-1)=(n:Int) by rw [IntKind.wrap_i64];omega]
 refine EVL.storeOwn tO rfl rfl rfl rfl rfl rfl ([]) ([]) rfl rfl rfl rfl ((at_room hk (j:=0) (s:=1) oM)) (at_store hk 0 1 oM side_n_set) ?_
 try refine RUN ?_
 apply EV.drawn 11 kR kR;intro xv yw
 (repeat (first | refine' DV ?_ | refine' DA ?_ | refine' DK0 ?_ | refine' DT ?_ | refine' DS ?_ | (refine' DJ.nilB rfl rfl rfl rfl rfl ?_;rotate_left) | (refine' DJ.fldB tO rfl rfl rfl rfl rfl rfl rfl ?_;rotate_left)))
 refine' DJ.ofVal (ValOk.loadOwn tO rfl rfl rfl rfl (0) rfl (at_load hk 14 5 oM (side_sum hc)) rfl rfl) rfl rfl rfl ?_;rotate_left
 (repeat (first | refine' DV ?_ | refine' DA ?_ | refine' DK0 ?_ | refine' DT ?_ | refine' DS ?_ | (refine' DJ.nilB rfl rfl rfl rfl rfl ?_;rotate_left) | (refine' DJ.fldB tO rfl rfl rfl rfl rfl rfl rfl ?_;rotate_left)))
 refine' DJ.idxM tO rfl rfl rfl rfl rfl rfl rfl rfl rfl (hs) (r) (rfl) (hrl) (QL.at (H:=H) (v:=.bool true) hr) ?_;rotate_left
 (repeat (first | refine' DV ?_ | refine' DA ?_ | refine' DK0 ?_ | refine' DT ?_ | (refine' DC (hsub) (h:=?_);rotate_left) | refine' DS ?_))
 (refine DJ.nil (fun G1 hG1 hF1=>?_);(case hS|hS2=>rfl))
 (repeat (first | refine EVL.nilB rfl rfl rfl rfl rfl ?_ | refine EVL.fldB tO rfl rfl rfl rfl rfl rfl rfl ?_ | refine EVL.val tO rfl rfl rfl rfl rfl ?_))
 refine EVL.storeOwn tO rfl rfl rfl rfl rfl rfl ([]) ([]) rfl rfl rfl rfl ((at_room hk (j:=14) (s:=5) oM)) (at_store hk 14 5 oM (side_sum_set hc)) ?_
 try refine RUN ?_
 exact ⟨rfl,rfl⟩
set_option maxHeartbeats 4000000 in
theorem addC_at {cl:Int} {va:Option Addr} {vn vc:Nat} {la:Option Addr} {lc:Nat} {ls:List Int} (hv:IL H (.slice la ls.length lc) ls) {r n:Nat} (hn:n≤1000000) {j m sq:Nat} (hr:ls[r]?=some (j:Int)) (hj:j<12) {cs:List Int} (hc:cs.length=12) (hm:cs[j]?=some (m:Int)) (hmb:m≤1000000) (hsb:sq≤10000000000000) {q:Rat} :
  PW prog 265 #[.pointer (some ⟨b,k,none⟩),goalV 1 cl (.slice la ls.length lc) (.slice va vn vc),.int .i64 (r:Int)] H [(b,T,pre++(sideC n cs sq q++post))] fun v ow _=>v=.tuple #[]∧ow=[(b,T,pre++(sideC ((n+1:Nat):Int) (cs.set j ((m+1:Nat):Int)) ((sq+2*m+1:Nat):Int) q++post))]:=by
 have hlen:=sideC_len (n:=(n:Int)) (cs:=cs) (sq:=(sq:Int)) (q:=q) hc
 have hlen2:=sideC_len (n:=((n+1:Nat):Int)) (cs:=cs) (sq:=(sq:Int)) (q:=q) hc
 have hlen3:=sideC_len (n:=((n+1:Nat):Int)) (cs:=cs) (sq:=((sq+2*m+1:Nat):Int)) (q:=q) hc
 obtain ⟨hrl,_⟩:=List.getElem?_eq_some_iff.1 hr
 have w1:IntKind.i64.wrap ((sq:Int)+IntKind.i64.wrap (IntKind.i64.wrap (2*(m:Int))+1))=((sq+2*m+1:Nat):Int):=by
  rw [show IntKind.i64.wrap (2*(m:Int))=2*(m:Int) by rw [IntKind.wrap_i64];omega,show IntKind.i64.wrap (2*(m:Int)+1)=2*(m:Int)+1 by rw [IntKind.wrap_i64];omega,IntKind.wrap_i64];omega
 have w2:IntKind.i64.wrap ((m:Int)+1)=((m+1:Nat):Int):=by rw [IntKind.wrap_i64];omega
 refine PW.body tO func265 rfl kR ntmps265 rfl rfl ?_
 try refine RUN ?_
 (repeat (first | refine EVL.nilB rfl rfl rfl rfl rfl ?_ | refine EVL.fldB tO rfl rfl rfl rfl rfl rfl rfl ?_ | refine EVL.val tO rfl rfl rfl rfl rfl ?_))
 refine EVL.loadOwn tO rfl rfl rfl rfl rfl rfl (0) rfl (at_load hk 0 1 oM side_n) rfl rfl ?_
 (repeat (first | refine EVL.nilB rfl rfl rfl rfl rfl ?_ | refine EVL.fldB tO rfl rfl rfl rfl rfl rfl rfl ?_ | refine EVL.val tO rfl rfl rfl rfl rfl ?_))
 rw [show IntKind.i64.wrap ((n:Int)+1)=((n+1:Nat):Int) by rw [IntKind.wrap_i64];omega]
 refine EVL.storeOwn tO rfl rfl rfl rfl rfl rfl ([]) ([]) rfl rfl rfl rfl ((at_room hk (j:=0) (s:=1) oM)) (at_store hk 0 1 oM side_n_set) ?_
 try refine RUN ?_
 refine EVL.idxR tO rfl rfl rfl rfl rfl rfl rfl rfl rfl rfl (hv) (r) (rfl) (hrl) ((by rw [List.getElem?_map,hr];rfl)) ?_
 try refine RUN ?_
 apply EV.drawn 13 kR kR;intro xv yw
 (repeat (first | refine' DV ?_ | refine' DA ?_ | refine' DK0 ?_ | refine' DT ?_ | refine' DS ?_ | (refine' DJ.nilB rfl rfl rfl rfl rfl ?_;rotate_left) | (refine' DJ.fldB tO rfl rfl rfl rfl rfl rfl rfl ?_;rotate_left)))
 refine' DJ.ofVal (ValOk.loadOwn tO rfl rfl rfl rfl (0) rfl (at_load hk 13 1 oM (side_sq hc)) rfl rfl) rfl rfl rfl ?_;rotate_left
 (repeat (first | refine' DV ?_ | refine' DA ?_ | refine' DK0 ?_ | refine' DT ?_ | refine' DS ?_ | (refine' DJ.nilB rfl rfl rfl rfl rfl ?_;rotate_left) | (refine' DJ.fldB tO rfl rfl rfl rfl rfl rfl rfl ?_;rotate_left)))
 refine' DJ.idxA tO rfl rfl rfl rfl (und_arr) rfl rfl rfl rfl (j) (rfl) (hj) ?_;rotate_left
 refine' DJ.ofVal (ValOk.loadOwn tO rfl rfl rfl rfl (0) rfl (at_load2 hk 1 j 1 oM (side_at hm)) rfl rfl) rfl rfl rfl ?_;rotate_left
 (repeat (first | refine' DV ?_ | refine' DA ?_ | refine' DK0 ?_ | refine' DT ?_ | refine' DS ?_ | (refine' DJ.nilB rfl rfl rfl rfl rfl ?_;rotate_left) | (refine' DJ.fldB tO rfl rfl rfl rfl rfl rfl rfl ?_;rotate_left)))
 (refine DJ.nil (fun G1 hG1 hF1=>?_);(case hS|hS2=>rfl))
 rw [w1]
 (repeat (first | refine EVL.nilB rfl rfl rfl rfl rfl ?_ | refine EVL.fldB tO rfl rfl rfl rfl rfl rfl rfl ?_ | refine EVL.val tO rfl rfl rfl rfl rfl ?_))
 refine EVL.storeOwn tO rfl rfl rfl rfl rfl rfl ([]) ([]) rfl rfl rfl rfl ((at_room hk (j:=13) (s:=1) oM)) (at_store hk 13 1 oM (side_sq_set hc)) ?_
 try refine RUN ?_
 apply EV.drawn 10 kR kR;intro xv yw
 (repeat (first | refine' DV ?_ | refine' DA ?_ | refine' DK0 ?_ | refine' DT ?_ | refine' DS ?_ | (refine' DJ.nilB rfl rfl rfl rfl rfl ?_;rotate_left) | (refine' DJ.fldB tO rfl rfl rfl rfl rfl rfl rfl ?_;rotate_left)))
 refine' DJ.idxA tO rfl rfl rfl rfl (und_arr) rfl rfl rfl rfl (j) (rfl) (hj) ?_;rotate_left
 refine' DJ.ofVal (ValOk.loadOwn tO rfl rfl rfl rfl (0) rfl (at_load2 hk 1 j 1 oM (side_at hm)) rfl rfl) rfl rfl rfl ?_;rotate_left
 (repeat (first | refine' DV ?_ | refine' DA ?_ | refine' DK0 ?_ | refine' DT ?_ | refine' DS ?_ | (refine' DJ.nilB rfl rfl rfl rfl rfl ?_;rotate_left) | (refine' DJ.fldB tO rfl rfl rfl rfl rfl rfl rfl ?_;rotate_left)))
 refine' DJ.idxA tO rfl rfl rfl rfl (und_arr) rfl rfl rfl rfl (j) (rfl) (hj) ?_;rotate_left
 (refine DJ.nil (fun G2 hG2 hF2=>?_);(case hS|hS2=>rfl))
 rw [w2]
 (repeat (first | refine EVL.nilB rfl rfl rfl rfl rfl ?_ | refine EVL.fldB tO rfl rfl rfl rfl rfl rfl rfl ?_ | refine EVL.val tO rfl rfl rfl rfl rfl ?_))
 refine EVL.storeOwn tO rfl rfl rfl rfl rfl rfl ([]) ([]) rfl rfl rfl rfl ((at_room2 hk (i:=1) (j:=j) (s:=1) oM)) (at_store2 hk 1 j 1 oM (side_at_set _ (show j<cs.length by omega))) ?_
 try refine RUN ?_
 exact ⟨rfl,rfl⟩
set_option maxHeartbeats 4000000 in
theorem dropC_at {cl:Int} {va:Option Addr} {vn vc:Nat} {la:Option Addr} {lc:Nat} {ls:List Int} (hv:IL H (.slice la ls.length lc) ls) {r n:Nat} (hn:n≤1000000) {j m sq:Nat} (hr:ls[r]?=some (j:Int)) (hj:j<12) {cs:List Int} (hc:cs.length=12) (hm:cs[j]?=some ((m+1:Nat):Int)) (hmb:m≤1000000) (hsb:sq≤10000000000000) {q:Rat} :
  PW prog 281 #[.pointer (some ⟨b,k,none⟩),goalV 1 cl (.slice la ls.length lc) (.slice va vn vc),.int .i64 (r:Int)] H [(b,T,pre++(sideC ((n+1:Nat):Int) cs ((sq+2*m+1:Nat):Int) q++post))] fun v ow _=>v=.tuple #[]∧ow=[(b,T,pre++(sideC (n:Int) (cs.set j (m:Int)) (sq:Int) q++post))]:=by
 have hcs:(cs.set j (m:Int)).length=12:=by rw [List.length_set,hc]
 have hlen:=sideC_len (n:=(n:Int)) (cs:=cs) (sq:=((sq+2*m+1:Nat):Int)) (q:=q) hc
 have hlen2:=sideC_len (n:=((n+1:Nat):Int)) (cs:=cs) (sq:=((sq+2*m+1:Nat):Int)) (q:=q) hc
 have hlen3:=sideC_len (n:=(n:Int)) (cs:=cs.set j (m:Int)) (sq:=((sq+2*m+1:Nat):Int)) (q:=q) hcs
 obtain ⟨hrl,_⟩:=List.getElem?_eq_some_iff.1 hr
 have w2:IntKind.i64.wrap (((m+1:Nat):Int)-1)=(m:Int):=by rw [IntKind.wrap_i64];omega
 have hm':(cs.set j (m:Int))[j]?=some (m:Int):=by rw [List.getElem?_set_self (by omega)]
 have w1:IntKind.i64.wrap (((sq+2*m+1:Nat):Int)-IntKind.i64.wrap (IntKind.i64.wrap (2*(m:Int))+1))=(sq:Int):=by
  rw [show IntKind.i64.wrap (2*(m:Int))=2*(m:Int) by rw [IntKind.wrap_i64];omega,show IntKind.i64.wrap (2*(m:Int)+1)=2*(m:Int)+1 by rw [IntKind.wrap_i64];omega,IntKind.wrap_i64];omega
 refine PW.body tO func281 rfl kR ntmps281 rfl rfl ?_
 try refine RUN ?_
 (repeat (first | refine EVL.nilB rfl rfl rfl rfl rfl ?_ | refine EVL.fldB tO rfl rfl rfl rfl rfl rfl rfl ?_ | refine EVL.val tO rfl rfl rfl rfl rfl ?_))
 refine EVL.loadOwn tO rfl rfl rfl rfl rfl rfl (0) rfl (at_load hk 0 1 oM side_n) rfl rfl ?_
 (repeat (first | refine EVL.nilB rfl rfl rfl rfl rfl ?_ | refine EVL.fldB tO rfl rfl rfl rfl rfl rfl rfl ?_ | refine EVL.val tO rfl rfl rfl rfl rfl ?_))
 rw [show IntKind.i64.wrap (((n+1:Nat):Int)-1)=(n:Int) by rw [IntKind.wrap_i64];omega]
 refine EVL.storeOwn tO rfl rfl rfl rfl rfl rfl ([]) ([]) rfl rfl rfl rfl ((at_room hk (j:=0) (s:=1) oM)) (at_store hk 0 1 oM side_n_set) ?_
 try refine RUN ?_
 refine EVL.idxR tO rfl rfl rfl rfl rfl rfl rfl rfl rfl rfl (hv) (r) (rfl) (hrl) ((by rw [List.getElem?_map,hr];rfl)) ?_
 try refine RUN ?_
 apply EV.drawn 10 kR kR;intro xv yw
 (repeat (first | refine' DV ?_ | refine' DA ?_ | refine' DK0 ?_ | refine' DT ?_ | refine' DS ?_ | (refine' DJ.nilB rfl rfl rfl rfl rfl ?_;rotate_left) | (refine' DJ.fldB tO rfl rfl rfl rfl rfl rfl rfl ?_;rotate_left)))
 refine' DJ.idxA tO rfl rfl rfl rfl (und_arr) rfl rfl rfl rfl (j) (rfl) (hj) ?_;rotate_left
 refine' DJ.ofVal (ValOk.loadOwn tO rfl rfl rfl rfl (0) rfl (at_load2 hk 1 j 1 oM (side_at hm)) rfl rfl) rfl rfl rfl ?_;rotate_left
 (repeat (first | refine' DV ?_ | refine' DA ?_ | refine' DK0 ?_ | refine' DT ?_ | refine' DS ?_ | (refine' DJ.nilB rfl rfl rfl rfl rfl ?_;rotate_left) | (refine' DJ.fldB tO rfl rfl rfl rfl rfl rfl rfl ?_;rotate_left)))
 refine' DJ.idxA tO rfl rfl rfl rfl (und_arr) rfl rfl rfl rfl (j) (rfl) (hj) ?_;rotate_left
 (refine DJ.nil (fun G2 hG2 hF2=>?_);(case hS|hS2=>rfl))
 rw [w2]
 (repeat (first | refine EVL.nilB rfl rfl rfl rfl rfl ?_ | refine EVL.fldB tO rfl rfl rfl rfl rfl rfl rfl ?_ | refine EVL.val tO rfl rfl rfl rfl rfl ?_))
 refine EVL.storeOwn tO rfl rfl rfl rfl rfl rfl ([]) ([]) rfl rfl rfl rfl ((at_room2 hk (i:=1) (j:=j) (s:=1) oM)) (at_store2 hk 1 j 1 oM (side_at_set _ (show j<cs.length by omega))) ?_
 try refine RUN ?_
 apply EV.drawn 13 kR kR;intro xv yw
 (repeat (first | refine' DV ?_ | refine' DA ?_ | refine' DK0 ?_ | refine' DT ?_ | refine' DS ?_ | (refine' DJ.nilB rfl rfl rfl rfl rfl ?_;rotate_left) | (refine' DJ.fldB tO rfl rfl rfl rfl rfl rfl rfl ?_;rotate_left)))
 refine' DJ.ofVal (ValOk.loadOwn tO rfl rfl rfl rfl (0) rfl (at_load hk 13 1 oM (side_sq hcs)) rfl rfl) rfl rfl rfl ?_;rotate_left
 (repeat (first | refine' DV ?_ | refine' DA ?_ | refine' DK0 ?_ | refine' DT ?_ | refine' DS ?_ | (refine' DJ.nilB rfl rfl rfl rfl rfl ?_;rotate_left) | (refine' DJ.fldB tO rfl rfl rfl rfl rfl rfl rfl ?_;rotate_left)))
 refine' DJ.idxA tO rfl rfl rfl rfl (und_arr) rfl rfl rfl rfl (j) (rfl) (hj) ?_;rotate_left
 refine' DJ.ofVal (ValOk.loadOwn tO rfl rfl rfl rfl (0) rfl (at_load2 hk 1 j 1 oM (side_at hm')) rfl rfl) rfl rfl rfl ?_;rotate_left
 (repeat (first | refine' DV ?_ | refine' DA ?_ | refine' DK0 ?_ | refine' DT ?_ | refine' DS ?_ | (refine' DJ.nilB rfl rfl rfl rfl rfl ?_;rotate_left) | (refine' DJ.fldB tO rfl rfl rfl rfl rfl rfl rfl ?_;rotate_left)))
 (refine DJ.nil (fun G1 hG1 hF1=>?_);(case hS|hS2=>rfl))
 rw [w1]
 (repeat (first | refine EVL.nilB rfl rfl rfl rfl rfl ?_ | refine EVL.fldB tO rfl rfl rfl rfl rfl rfl rfl ?_ | refine EVL.val tO rfl rfl rfl rfl rfl ?_))
 refine EVL.storeOwn tO rfl rfl rfl rfl rfl rfl ([]) ([]) rfl rfl rfl rfl ((at_room hk (j:=13) (s:=1) oM)) (at_store hk 13 1 oM (side_sq_set hcs)) ?_
 try refine RUN ?_
 exact ⟨rfl,rfl⟩
set_option maxHeartbeats 4000000 in
theorem worthV_at {n:Nat} {cs:List Int} (hc:cs.length=12) {sq:Nat} (hsq:sq≤10000000000000) (hn:n≤1000000) {q:Rat} (hq:ht q≤1000000) :
  PW prog 230 #[.pointer (some ⟨b,k,none⟩),.int .i64 2] H [(b,T,pre++(sideC n cs sq q++post))] fun v ow _=>v=fracV (q*q / ((n:Int):Rat))∧ow=[(b,T,pre++(sideC n cs sq q++post))]:=by
 have hlen:=sideC_len (n:=(n:Int)) (cs:=cs) (sq:=(sq:Int)) (q:=q) hc
 have hqs:sm q:=sm_of hq oM
 have hmul:=mul_pv q q hqs hqs
 have hof:=of_pv (sq:Int) oM oM
 have hof2:=of_pv (n:Int) oM oM
 have hm:=ht_mul q q
 have hnh:ht ((n:Int):Rat)≤100:=by
  have:=ht_int (n:Int)
  have h2:bl (n:Int).natAbs≤20:=bl_le oM
  omega
 refine PW.body tO func230 rfl kR ntmps230 rfl rfl ?_
 try refine RUN ?_
 (repeat (first | refine EVL.nilB rfl rfl rfl rfl rfl ?_ | refine EVL.fldB tO rfl rfl rfl rfl rfl rfl rfl ?_ | refine EVL.val tO rfl rfl rfl rfl rfl ?_))
 refine EVL.loadOwn tO rfl rfl rfl rfl rfl rfl (0) rfl (at_load hk 0 1 oM side_n) rfl rfl ?_
 try refine RUN ?_
 by_cases h0:n=0
 ·subst h0
  rw [show (((0:Nat):Int) == 0)=true from rfl]
  try refine RUN ?_
  rw [show (((0:Nat):Int):Rat)=0 from rfl,rat_div_zero]
  exact ⟨fracV_zero.symm,rfl⟩
 ·have hdiv:=div_pv (q*q) ((n:Int):Rat) (sm_of hm oM) (sm_of hnh oM) (nat_rat_ne h0)
  rw [show ((n:Int) == 0)=false from beq_eq_false_iff_ne.2 (by omega)]
  try refine RUN ?_
  (repeat (first | refine EVL.nilB rfl rfl rfl rfl rfl ?_ | refine EVL.fldB tO rfl rfl rfl rfl rfl rfl rfl ?_ | refine EVL.val tO rfl rfl rfl rfl rfl ?_))
  refine EVL.loadOwn tO rfl rfl rfl rfl rfl rfl (0) rfl (at_load hk 13 1 oM (side_sq hc)) rfl rfl ?_
  repeat (first | refine RUN ?_ | refine CV (hof) ?_ | refine CE (hof) ?_)
  apply EV.drawn 8 kR kR;intro xv yw
  (repeat (first | refine' DV ?_ | refine' DA ?_ | refine' DK0 ?_ | refine' DT ?_ | refine' DS ?_ | (refine' DJ.nilB rfl rfl rfl rfl rfl ?_;rotate_left) | (refine' DJ.fldB tO rfl rfl rfl rfl rfl rfl rfl ?_;rotate_left)))
  refine' DJ.ofVal (ValOk.loadOwn tO rfl rfl rfl rfl (0) rfl (at_load hk 14 5 oM (side_sum hc)) rfl rfl) rfl rfl rfl ?_;rotate_left
  (repeat (first | refine' DV ?_ | refine' DA ?_ | refine' DK0 ?_ | refine' DT ?_ | refine' DS ?_ | (refine' DJ.nilB rfl rfl rfl rfl rfl ?_;rotate_left) | (refine' DJ.fldB tO rfl rfl rfl rfl rfl rfl rfl ?_;rotate_left)))
  refine' DJ.ofVal (ValOk.loadOwn tO rfl rfl rfl rfl (0) rfl (at_load hk 14 5 oM (side_sum hc)) rfl rfl) rfl rfl rfl ?_;rotate_left
  (repeat (first | refine' DV ?_ | refine' DA ?_ | refine' DK0 ?_ | refine' DT ?_ | refine' DS ?_ | (refine' DJ.nilB rfl rfl rfl rfl rfl ?_;rotate_left) | (refine' DJ.fldB tO rfl rfl rfl rfl rfl rfl rfl ?_;rotate_left)))
  (refine DJ.nil (fun G1 hG1 hF1=>?_);(case hS|hS2=>rfl))
  repeat (first | refine RUN ?_ | refine CV (hmul) ?_ | refine CE (hmul) ?_)
  try refine RUN ?_
  apply EV.drawn 12 kR kR;intro xv yw
  (repeat (first | refine' DV ?_ | refine' DA ?_ | refine' DK0 ?_ | refine' DT ?_ | refine' DS ?_ | (refine' DJ.nilB rfl rfl rfl rfl rfl ?_;rotate_left) | (refine' DJ.fldB tO rfl rfl rfl rfl rfl rfl rfl ?_;rotate_left)))
  refine' DJ.ofVal (ValOk.loadOwn tO rfl rfl rfl rfl (0) rfl (at_load hk 0 1 oM side_n) rfl rfl) rfl rfl rfl ?_;rotate_left
  (repeat (first | refine' DV ?_ | refine' DA ?_ | refine' DK0 ?_ | refine' DT ?_ | (refine' DC (hof2) (h:=?_);rotate_left) | (refine' DC (hdiv) (h:=?_);rotate_left) | refine' DS ?_))
  (refine DJ.nil (fun G2 hG2 hF2=>?_);(case hS|hS2=>rfl))
  try refine RUN ?_
  exact ⟨rfl,rfl⟩
set_option maxHeartbeats 4000000 in
theorem worthC_at {n:Nat} {cs:List Int} (hc:cs.length=12) {sq:Nat} (hsq:sq≤10000000000000) (hn:n≤1000000) {q:Rat} :
  PW prog 230 #[.pointer (some ⟨b,k,none⟩),.int .i64 1] H [(b,T,pre++(sideC n cs sq q++post))] fun v ow _=>v=fracV (((sq:Int):Rat) / ((n:Int):Rat))∧ow=[(b,T,pre++(sideC n cs sq q++post))]:=by
 have hlen:=sideC_len (n:=(n:Int)) (cs:=cs) (sq:=(sq:Int)) (q:=q) hc
 have hof:=of_pv (sq:Int) oM oM
 have hof2:=of_pv (n:Int) oM oM
 have hnh:ht ((n:Int):Rat)≤100:=by
  have:=ht_int (n:Int)
  have h2:bl (n:Int).natAbs≤20:=bl_le oM
  omega
 have hsh:ht ((sq:Int):Rat)≤100:=by
  have:=ht_int (sq:Int)
  have h2:bl (sq:Int).natAbs≤50:=bl_le oM
  omega
 refine PW.body tO func230 rfl kR ntmps230 rfl rfl ?_
 try refine RUN ?_
 (repeat (first | refine EVL.nilB rfl rfl rfl rfl rfl ?_ | refine EVL.fldB tO rfl rfl rfl rfl rfl rfl rfl ?_ | refine EVL.val tO rfl rfl rfl rfl rfl ?_))
 refine EVL.loadOwn tO rfl rfl rfl rfl rfl rfl (0) rfl (at_load hk 0 1 oM side_n) rfl rfl ?_
 try refine RUN ?_
 by_cases h0:n=0
 ·subst h0
  rw [show (((0:Nat):Int) == 0)=true from rfl]
  try refine RUN ?_
  rw [show (((0:Nat):Int):Rat)=0 from rfl,rat_div_zero]
  exact ⟨fracV_zero.symm,rfl⟩
 ·have hdiv:=div_pv ((sq:Int):Rat) ((n:Int):Rat) (sm_of hsh oM) (sm_of hnh oM) (nat_rat_ne h0)
  rw [show ((n:Int) == 0)=false from beq_eq_false_iff_ne.2 (by omega)]
  try refine RUN ?_
  (repeat (first | refine EVL.nilB rfl rfl rfl rfl rfl ?_ | refine EVL.fldB tO rfl rfl rfl rfl rfl rfl rfl ?_ | refine EVL.val tO rfl rfl rfl rfl rfl ?_))
  refine EVL.loadOwn tO rfl rfl rfl rfl rfl rfl (0) rfl (at_load hk 13 1 oM (side_sq hc)) rfl rfl ?_
  repeat (first | refine RUN ?_ | refine CV (hof) ?_ | refine CE (hof) ?_)
  apply EV.drawn 12 kR kR;intro xv yw
  (repeat (first | refine' DV ?_ | refine' DA ?_ | refine' DK0 ?_ | refine' DT ?_ | refine' DS ?_ | (refine' DJ.nilB rfl rfl rfl rfl rfl ?_;rotate_left) | (refine' DJ.fldB tO rfl rfl rfl rfl rfl rfl rfl ?_;rotate_left)))
  refine' DJ.ofVal (ValOk.loadOwn tO rfl rfl rfl rfl (0) rfl (at_load hk 0 1 oM side_n) rfl rfl) rfl rfl rfl ?_;rotate_left
  (repeat (first | refine' DV ?_ | refine' DA ?_ | refine' DK0 ?_ | refine' DT ?_ | (refine' DC (hof2) (h:=?_);rotate_left) | (refine' DC (hdiv) (h:=?_);rotate_left) | refine' DS ?_))
  (refine DJ.nil (fun G2 hG2 hF2=>?_);(case hS|hS2=>rfl))
  try refine RUN ?_
  exact ⟨rfl,rfl⟩
end
theorem gH_len {b:Nat} {c:Array Value} (h:gH b=some c):c.toList.length=64:=by
 unfold gH at h
 split at h
 ·cases h;rfl
 ·cases h
section
variable {P:Program} {n:Nat} {ops:Array Oper} {o:Oper} {rest:List Oper} {env:Env} {bx:Bxs} {sb:Bxs} {ow:Ows} {H:Hs} {Q:EQ} {τ:Tab} {d:Nat} {s:SV}
theorem ValOk.callR {f:FuncId} {args:Array Operand} {tys:Array TypeId} (ho:o.op=.call ⟨.value (.func f),args,tys⟩) (hw:wantB ops env o=some true) {vs:List Value} (ha:argsK env args.toList some=some vs) (jj:Nat) {b:Nat} {T:TypeId} {cs:List Value} (hj:ow[jj]?=some (b,T,cs)) (h64:cs.length≠64)
  {v:Value} (hc:Callable P f) {F:Hp→Prop} {R:Hp} (hpc:∀ G,PW P f vs.toArray G [(b,T,cs)] fun u ow' _=>u=v∧ow'=[(b,T,cs)]):ValOk P ops o env bx ow R F (fun β u G=>(SV.v v).rep β G u):=fun β a W G hle hf hgl hb hown hs hF=>by
 obtain ⟨vs',hk,hm⟩:=argsK_spec env _ _ _ ha
 cases hk
 have hvs:=hm β G a.eval (fun y s hy=>hs.op (by simp [ho,Op.operands,Call.operands];exact .inr (by simpa using hy)))
 have hB:=hown jj b T cs hj
 have hg:gH b=none:=by
  cases hgb:gH b with
  | none=>rfl
  | some c =>
   obtain ⟨T',fz,hW⟩:=hgl b c hgb
   have hB':W.heap[b]?=some (.cells cs.toArray T (0,0)):=hB
   rw [hB'] at hW
   cases hW
   have:=gH_len hgb
   exact absurd (by simpa using this) h64
 rw [if_pos (hs.want hw)]
 unfold Oper.wp
 rw [run_call_enter hc ho hvs,Oper.upon_enter]
 refine ((hpc (fun k=>if k=b then none else G k)).run W (fun k c h=>hf k c (by first | (split at h <;> first | (cases h;done) | exact h))) hgl (fun j b' T' cs' h=>?_) ?_).mono ?_
 ·cases j with
  | zero=>simp at h;obtain ⟨rfl,rfl,rfl⟩:=h;exact ⟨hB,if_pos rfl,hg⟩
  | succ j=>simp at h
 ·intro j j' b' T1 T2 c1 c2 h1 h2
  cases j with
  | zero=>cases j' with
   | zero=>rfl
   | succ j'=>simp at h2
  | succ j=>simp at h1
 ·rintro e W' ⟨u,ow',H',rfl,⟨rfl,rfl⟩,hle',hf',hnew,hk,hb',_⟩
  have hB2:=(hb' 0 b T cs rfl).1
  have hbel:Below W.heap.size W W':=⟨hk.os,hk.tape,hk.output,hk.size,fun k hlt=>by
   by_cases e:k=b
   ·subst e
    have h1:W.heap[k]?=some (.cells cs.toArray T (0,0)):=hB
    have h2:W'.heap[k]?=some (.cells cs.toArray T (0,0)):=hB2
    rw [h1,h2]
   ·exact hk.block k hlt (by simp [Ows.bs];exact e)⟩
  exact ⟨u,G,rfl,rfl,Hp.Le.refl G,hf.below hbel,hbel,Nw.refl _ _ _⟩
theorem run_fn1 {f:Fn} {x:Operand} (ho:o.op=.makeFunc f #[] #[x]) {u:Value} (hx:env.op x=some (.v u)) (ev:Operand→Value) (W:World) (he:∀ y x,y∈o.op.operands→env.op y=some (.v x)→ev y=x) :
  (execOp ev o).run P W=.ok (.value (.func f #[] #[u])) W:=by
 have ex:=he x _ (by simp [ho,Op.operands]) hx
 unfold execOp
 simp [ho,ex,Instr.makeFunc]
theorem EVL.fn1 {f:Fn} {x:Operand} (ho:o.op=.makeFunc f #[] #[x]) (hw:wantB ops env o=some true) (hd:o.dst=some d) (hn:Nat.blt d n=true) {u:Value} (hx:env.op x=some (.v u))
  (h:EVL P n ops rest ((d,.v (.func f #[] #[u]))::env) bx H Q):EVL P n ops (o::rest) env bx H Q:=EVL.gen hw hd hn (run_fn1 ho hx) h
theorem DJ.callR {tail l:List Oper} {x:Nat→Value} {y:Nat→Ows} {ow':Ows} {kl ks:List DK} {i:Nat} {bx':Bxs} {Γ:Fcts} {f:FuncId} {args:Array Operand} {tys:Array TypeId} (ho:o.op=.call ⟨.value (.func f),args,tys⟩) (hw:wantB ops env o=some true) (hd:o.dst=some d) (hn:Nat.blt d n=true)
  {vs:List Value} (ha:argsK env args.toList some=some vs) (jj:Nat) {b:Nat} {T:TypeId} {cs:List Value} (hj:H.ow[jj]?=some (b,T,cs)) (h64:cs.length≠64) {v:Value} (hc:Callable P f) (hpc:∀ G,PW P f vs.toArray G [(b,T,cs)] fun u ow' _=>u=v∧ow'=[(b,T,cs)])
  (h:DJ P n ops tail sb bx H Q x y kl (i+1) l ks ((d,.v v)::env) bx' Γ ow'):DJ P n ops tail sb bx H Q x y kl i (o::l) (.sv (.v v)::ks) env bx' Γ ow' :=
 ⟨d,hd,hn,rfl,ValOk.callR ho hw ha jj hj h64 hc hpc,h⟩
end
structure GOk (H:Hp) (kd cl:Int) (sl sv:Value) (N:Nat) (S:List Int→List Value) (wo:List Int→Rat):Prop where
 len:∀ l,(S l).length=19
 form:∀ l,∃ (n:Int) (cs:List Int) (sq:Int) (q:Rat),cs.length=12∧S l=sideC n cs sq q
 check:∀ G,H.Le G→PC prog 36 #[goalV kd cl sl sv] G fun r _=>r=.int .i64 0
 leng:PV prog 35 #[goalV kd cl sl sv] (.int .i64 (N:Int))
 zero:S []=Tryz.te320.zero
 first:∀ l,((S l).drop 0).take 1=[.int .i64 (l.length:Int)]
 whole:∀ G,H.Le G→∀ v l,IL G v l→l.length≤300→(∀ r,r∈l→0≤r∧r<(N:Int))→PC prog 227 #[goalV kd cl sl sv,v] G fun r _=>r=.agg (S l).toArray
 move:∀ G,H.Le G→∀ (b:Nat) (l l':List Int) (r:Int),l.length+l'.length≤299→(∀ z,z∈l++r::l'→0≤z∧z<(N:Int)) →
  PW prog 268 #[.pointer (some ⟨b,0,none⟩),goalV kd cl sl sv,.int .i64 r] G [(b,349,S l++S (r::l'))] fun v ow _=>v=.tuple #[]∧ow=[(b,349,S (l++[r])++S l')]
 worth:∀ (G:Hp) (b k:Nat) (T:TypeId) (pre post:List Value) (l:List Int),pre.length=k→l.length≤300→(∀ r,r∈l→0≤r∧r<(N:Int)) →
  PW prog 230 #[.pointer (some ⟨b,k,none⟩),.int .i64 kd] G [(b,T,pre++(S l++post))] fun v ow _=>v=fracV (wo l)∧ow=[(b,T,pre++(S l++post))]
 small:∀ l:List Int,l.length≤300→(∀ r,r∈l→0≤r∧r<(N:Int))→ht (wo l)≤100000
theorem GOk.mono {H G:Hp} {kd cl:Int} {sl sv:Value} {N:Nat} {S:List Int→List Value} {wo:List Int→Rat} (h:GOk H kd cl sl sv N S wo) (k:H.Le G):GOk G kd cl sl sv N S wo :=
 ⟨h.len,h.form,fun G' hG=>h.check G' (k.trans hG),h.leng,h.zero,h.first,fun G' hG=>h.whole G' (k.trans hG),fun G' hG=>h.move G' (k.trans hG),h.worth,h.small⟩
theorem PV.pc' {P:Program} {f:FuncId} {args:Array Value} {v:Value} (h:PV P f args v) (G:Hp):PC P f args G fun r _=>r=v:=(h.pc G).mono fun _ _ h _=>h.1
theorem sumQ_foldr (l:List Rat):∀ x:Rat,l.foldl (·+·) x=x+sumQ l:=by
 unfold sumQ
 induction l with
 | nil=>intro x;rw [List.foldl_nil,List.foldl_nil,Rat.add_zero]
 | cons y l ih=>intro x;rw [List.foldl_cons,List.foldl_cons,ih,ih (0+y),Rat.zero_add,Rat.add_assoc]
theorem sumQ_cons (x:Rat) (l:List Rat):sumQ (x::l)=x+sumQ l:=by
 have:=sumQ_foldr l (0+x)
 rw [Rat.zero_add] at this
 unfold sumQ at *
 rw [List.foldl_cons,Rat.zero_add];exact this
def sideV (vals:List Rat) (l:List Int):List Value:=sideC (l.length:Nat) (List.replicate 12 0) 0 (sumQ (atR vals l))
def sideL (ls:List Int) (l:List Int):List Value:=sideC (l.length:Nat) (csL (atI ls l)) (sqL (atI ls l):Nat) 0
def woV (vals:List Rat) (l:List Int):Rat:=sumQ (atR vals l)*sumQ (atR vals l) / ((l.length:Int):Rat)
def woL (ls:List Int) (l:List Int):Rat:=((sqL (atI ls l):Int):Rat) / ((l.length:Int):Rat)
theorem atR_getD {vals:List Rat} {R:Nat} {x:Rat} (h:vals[R]?=some x) (l:List Int):atR vals ((R:Int)::l)=x::atR vals l:=by
 unfold atR;rw [List.map_cons,Int.toNat_natCast,List.getD_eq_getElem?_getD,h];rfl
theorem atI_getD {ls:List Int} {R:Nat} {x:Int} (h:ls[R]?=some x) (l:List Int):atI ls ((R:Int)::l)=x::atI ls l:=by
 unfold atI;rw [List.map_cons,Int.toNat_natCast,List.getD_eq_getElem?_getD,h];rfl
theorem atR_app {vals:List Rat} (l m:List Int):atR vals (l++m)=atR vals l++atR vals m:=List.map_append
theorem atI_app {ls:List Int} (l m:List Int):atI ls (l++m)=atI ls l++atI ls m:=List.map_append
set_option maxHeartbeats 4000000 in
theorem gokV {H:Hp} {la:Option Addr} {lc:Nat} {va:Option Addr} {vc:Nat} {vals:List Rat} (hv:QL H (.slice va vals.length vc) vals) (h0:1≤vals.length) (h1:vals.length≤300) (hb:∀ q,q∈vals→ht q≤100) :
  GOk H 2 0 (.slice la 0 lc) (.slice va vals.length vc) vals.length (sideV vals) (woV vals):=by
 have hs:∀ l:List Int,l.length≤300→(∀ r,r∈l→0≤r∧r<(vals.length:Int))→ht (sumQ (atR vals l))≤1+101*300:=fun l hl hr=>by
  have h1:=ht_sum 100 (atR vals l) (fun q hq=>hb q (atR_mem hr q hq))
  rw [atR_len] at h1
  omega
 refine ⟨fun l=>sideC_len rfl,fun l=>⟨_,_,_,_,rfl,rfl⟩,fun G hG=>(checkV_pv h0 h1).pc' G,lenV_pv,by unfold sideV;exact side_zero.symm,fun l=>side_n,fun G hG v l hl hn hr=>?_,fun G hG b l l' r hn hr=>?_,fun G b k T pre post l hk hn hr=>?_,fun l hl hr=>?_⟩
 ·obtain ⟨a,c,rfl⟩:=SlC.val hl
  exact wholeV_pc (hv.mono hG) hl oM hr hb
 ·have hrb:=hr r (by simp)
  obtain ⟨R,rfl⟩:=Int.eq_ofNat_of_zero_le hrb.1
  obtain ⟨x,hx⟩:∃ x,vals[R]?=some x:=⟨_,List.getElem?_eq_getElem oM⟩
  have hxs:sm x:=sm_of (hb x (List.mem_of_getElem? hx)) oM
  have h1:=hs l oM (fun z hz=>hr z (by simp [hz]))
  have h2:=hs ((R:Int)::l') (by simp;omega) (fun z hz=>hr z (List.mem_append_right _ hz))
  have e1:sumQ (atR vals (l++[(R:Int)]))=sumQ (atR vals l)+x:=by rw [atR_app,atR_getD hx];exact sumQ_snoc _ _
  have e2:sumQ (atR vals ((R:Int)::l'))-x=sumQ (atR vals l'):=by rw [atR_getD hx,sumQ_cons];grind
  have hadd:=fun (G':Hp) (hG':G.Le G')=>addV_at (pre:=[]) (k:=0) (b:=b) (T:=349) (post:=sideV vals ((R:Int)::l')) rfl (cl:=0) (la:=la) (ln:=0) (lc:=lc) (hv.mono (hG.trans hG')) (n:=l.length) oM hx hxs (sm_of h1 oM) (cs:=List.replicate 12 0) rfl (sq:=0)
  have hdrop:=fun (G':Hp) (hG':G.Le G')=>dropV_at (pre:=sideV vals (l++[(R:Int)])) (k:=19) (b:=b) (T:=349) (post:=[]) (sideC_len rfl) (cl:=0) (la:=la) (ln:=0) (lc:=lc) (hv.mono (hG.trans hG')) (n:=l'.length) oM hx hxs (sm_of h2 oM) (cs:=List.replicate 12 0) rfl (sq:=0)
  simp only [← e1] at hadd
  simp only [e2] at hdrop
  have hl1:(l++[(R:Int)]).length=l.length+1:=by simp
  refine PW.body tO func268 rfl kR ntmps268 rfl rfl ?_
  try refine RUN ?_
  apply EV.drawn 5 kR kR;intro xv yw
  (repeat (first | refine' DV ?_ | refine' DA ?_ | refine' DK0 ?_ | refine' DT ?_ | refine' DS ?_ | (refine' DJ.nilB rfl rfl rfl rfl rfl ?_;rotate_left) | (refine' DJ.fldB tO rfl rfl rfl rfl rfl rfl rfl ?_;rotate_left)))
  (refine DJ.nil (fun G1 hG1 hF1=>?_);(case hS|hS2=>rfl))
  refine EVL.callW rfl rfl rfl rfl rfl ([(b,349,sideV vals l++sideV vals ((R:Int)::l'))]) ([]) rfl (hadd _ hG1) ?_
  rintro v ow G2 ⟨rfl,rfl⟩ hG2
  rw [← hl1]
  try refine RUN ?_
  apply EV.drawn 5 kR kR;intro xv yw
  (repeat (first | refine' DV ?_ | refine' DA ?_ | refine' DK0 ?_ | refine' DT ?_ | refine' DS ?_ | (refine' DJ.nilB rfl rfl rfl rfl rfl ?_;rotate_left) | (refine' DJ.fldB tO rfl rfl rfl rfl rfl rfl rfl ?_;rotate_left)))
  (refine DJ.nil (fun G3 hG3 hF3=>?_);(case hS|hS2=>rfl))
  refine EVL.callW rfl rfl rfl rfl rfl ([(b,349,sideV vals (l++[(R:Int)])++(sideC ((l'.length+1:Nat):Int) (List.replicate 12 0) 0 (sumQ (atR vals ((R:Int)::l')))++[]))]) ([]) rfl (hdrop _ (hG1.trans (hG2.trans hG3))) ?_
  rintro v ow G4 ⟨rfl,rfl⟩ hG4
  try refine RUN ?_
  refine ⟨rfl,?_⟩
  rw [List.append_nil];rfl
 ·exact worthV_at hk (cs:=List.replicate 12 0) rfl (sq:=0) oM oM (Nat.le_trans (hs l hn hr) oM)
 ·have h1:=hs l hl hr
  have h2:=ht_mul (sumQ (atR vals l)) (sumQ (atR vals l))
  have h3:=ht_int (l.length:Int)
  have h4:bl (l.length:Int).natAbs≤20:=bl_le oM
  have h5:=ht_div (sumQ (atR vals l)*sumQ (atR vals l)) ((l.length:Int):Rat)
  unfold woV
  omega
theorem sqL_perm {l m:List Int} (h:l.Perm m):sqL l=sqL m:=by
 unfold sqL
 have e:(l.map fun x=>l.count x)=l.map fun x=>m.count x:=List.map_congr_left fun x _=>h.count_eq x
 rw [e];exact (h.map _).sum_nat
theorem csL_perm {l m:List Int} (h:l.Perm m):csL l=csL m:=by
 unfold csL;exact List.map_congr_left fun k _=>by rw [h.count_eq]
theorem csL_cons {k:Nat} (hk:k<12) (l:List Int):(csL ((k:Int)::l)).set k (l.count (k:Int):Int)=csL l:=by
 have h:=csL_snoc l hk
 have hp:((k:Int)::l).Perm (l++[(k:Int)]):=List.perm_append_comm (l₁:=[(k:Int)]) (l₂:=l)
 rw [csL_perm hp,h,List.set_set]
 apply List.ext_getElem?
 intro j
 rw [List.getElem?_set]
 by_cases e:k=j
 ·subst e;rw [if_pos rfl,if_pos (by rw [csL_len];exact hk),csL_at _ hk]
 ·rw [if_neg e]
theorem sqL_cons (x:Int) (l:List Int):sqL (x::l)=sqL l+2*l.count x+1:=by
 have hp:(x::l).Perm (l++[x]):=List.perm_append_comm (l₁:=[x]) (l₂:=l)
 rw [sqL_perm hp,sqL_snoc]
set_option maxHeartbeats 4000000 in
theorem gokL {H:Hp} {cl:Int} (hc:1≤cl∧cl≤12) {va:Option Addr} {vc:Nat} {la:Option Addr} {lc:Nat} {ls:List Int} (hv:IL H (.slice la ls.length lc) ls) (h0:1≤ls.length) (h1:ls.length≤300) (hls0:∀ z,z∈ls→0≤z∧z<cl) :
  GOk H 1 cl (.slice la ls.length lc) (.slice va 0 vc) ls.length (sideL ls) (woL ls):=by
 have hls:∀ z,z∈ls→0≤z∧z<12:=fun z hz=>⟨(hls0 z hz).1,by have:=(hls0 z hz).2;omega⟩
 have hs:∀ l:List Int,l.length≤300→sqL (atI ls l)≤90000:=fun l hl=>by
  have h1:=sqL_le (atI ls l)
  rw [atI_len] at h1
  exact Nat.le_trans h1 (Nat.mul_le_mul hl hl)
 refine ⟨fun l=>sideC_len (csL_len _),fun l=>⟨_,_,_,_,csL_len _,rfl⟩,fun G hG=>checkC_pc (hv.mono hG) hc h0 h1 hls0,lenC_pv,by unfold sideL;exact side_zero.symm,fun l=>side_n,fun G hG v l hl hn hr=>?_,fun G hG b l l' r hn hr=>?_,fun G b k T pre post l hk hn hr=>?_,fun l hl hr=>?_⟩
 ·exact wholeC_any (hv.mono hG) hl oM hr hls
 ·have hrb:=hr r (by simp)
  obtain ⟨R,rfl⟩:=Int.eq_ofNat_of_zero_le hrb.1
  obtain ⟨x,hx⟩:∃ x,ls[R]?=some x:=⟨_,List.getElem?_eq_getElem oM⟩
  have hxb:=hls x (List.mem_of_getElem? hx)
  obtain ⟨k,rfl⟩:=Int.eq_ofNat_of_zero_le hxb.1
  have hk:k<12:=by omega
  have h1:=hs l oM
  have h2:=hs l' oM
  have c1:(atI ls l).count (k:Int)≤300:=Nat.le_trans List.count_le_length (by rw [atI_len];omega)
  have c2:(atI ls l').count (k:Int)≤300:=Nat.le_trans List.count_le_length (by rw [atI_len];omega)
  have e1:(csL (atI ls l)).set k (((atI ls l).count (k:Int)+1:Nat):Int)=csL (atI ls (l++[(R:Int)])):=by rw [atI_app,atI_getD hx];exact (csL_snoc _ hk).symm
  have e2:sqL (atI ls l)+2*(atI ls l).count (k:Int)+1=sqL (atI ls (l++[(R:Int)])):=by rw [atI_app,atI_getD hx];exact (sqL_snoc _ _).symm
  have e3:(csL (atI ls ((R:Int)::l'))).set k ((atI ls l').count (k:Int):Int)=csL (atI ls l'):=by rw [atI_getD hx];exact csL_cons hk _
  have e4:sqL (atI ls l')+2*(atI ls l').count (k:Int)+1=sqL (atI ls ((R:Int)::l')):=by rw [atI_getD hx];exact (sqL_cons _ _).symm
  have e5:(csL (atI ls ((R:Int)::l')))[k]?=some (((atI ls l').count (k:Int)+1:Nat):Int):=by rw [csL_at _ hk,atI_getD hx,List.count_cons_self]
  have hadd:=fun (G':Hp) (hG':G.Le G')=>addC_at (pre:=[]) (k:=0) (b:=b) (T:=349) (post:=sideL ls ((R:Int)::l')) rfl (cl:=cl) (va:=va) (vn:=0) (vc:=vc) (hv.mono (hG.trans hG')) (n:=l.length) oM hx hk (cs:=csL (atI ls l)) (csL_len _) (csL_at _ hk) oM (sq:=sqL (atI ls l)) oM (q:=0)
  have hdrop:=fun (G':Hp) (hG':G.Le G')=>dropC_at (pre:=sideL ls (l++[(R:Int)])) (k:=19) (b:=b) (T:=349) (post:=[]) (sideC_len (csL_len _)) (cl:=cl) (va:=va) (vn:=0) (vc:=vc) (hv.mono (hG.trans hG')) (n:=l'.length) oM hx hk (cs:=csL (atI ls ((R:Int)::l'))) (csL_len _) e5 oM (sq:=sqL (atI ls l')) oM (q:=0)
  simp only [e1,e2] at hadd
  simp only [e3,e4] at hdrop
  have hl1:(l++[(R:Int)]).length=l.length+1:=by simp
  refine PW.body tO func268 rfl kR ntmps268 rfl rfl ?_
  try refine RUN ?_
  apply EV.drawn 5 kR kR;intro xv yw
  (repeat (first | refine' DV ?_ | refine' DA ?_ | refine' DK0 ?_ | refine' DT ?_ | refine' DS ?_ | (refine' DJ.nilB rfl rfl rfl rfl rfl ?_;rotate_left) | (refine' DJ.fldB tO rfl rfl rfl rfl rfl rfl rfl ?_;rotate_left)))
  (refine DJ.nil (fun G1 hG1 hF1=>?_);(case hS|hS2=>rfl))
  refine EVL.callW rfl rfl rfl rfl rfl ([(b,349,sideL ls l++sideL ls ((R:Int)::l'))]) ([]) rfl (hadd _ hG1) ?_
  rintro v ow G2 ⟨rfl,rfl⟩ hG2
  rw [← hl1]
  try refine RUN ?_
  apply EV.drawn 5 kR kR;intro xv yw
  (repeat (first | refine' DV ?_ | refine' DA ?_ | refine' DK0 ?_ | refine' DT ?_ | refine' DS ?_ | (refine' DJ.nilB rfl rfl rfl rfl rfl ?_;rotate_left) | (refine' DJ.fldB tO rfl rfl rfl rfl rfl rfl rfl ?_;rotate_left)))
  (refine DJ.nil (fun G3 hG3 hF3=>?_);(case hS|hS2=>rfl))
  refine EVL.callW rfl rfl rfl rfl rfl ([(b,349,sideL ls (l++[(R:Int)])++(sideC ((l'.length+1:Nat):Int) (csL (atI ls ((R:Int)::l'))) (sqL (atI ls ((R:Int)::l')):Nat) 0++[]))]) ([]) rfl (hdrop _ (hG1.trans (hG2.trans hG3))) ?_
  rintro v ow G4 ⟨rfl,rfl⟩ hG4
  try refine RUN ?_
  refine ⟨rfl,?_⟩
  rw [List.append_nil];rfl
 ·exact worthC_at hk (csL_len _) (by have:=hs l hn;omega) oM
 ·have h1:=hs l hl
  have h3:=ht_int (l.length:Int)
  have h4:bl (l.length:Int).natAbs≤20:=bl_le oM
  have h6:=ht_int (sqL (atI ls l):Int)
  have h7:bl (sqL (atI ls l):Int).natAbs≤30:=bl_le oM
  have h5:=ht_div ((sqL (atI ls l):Int):Rat) ((l.length:Int):Rat)
  unfold woL
  omega
end Go.Proofs.YtplhljjljnkhpaaGreatDoor
