/- Texts of ours in one: Wd6, Wd8, GnT, GnV, GnX, Wd7, Lw11, Kd17, Opn, LaidE. -/
import Derived.Test.YtejljnlfgiifoaaGreatDoorF0
import Derived.Test.YtejljnlfgiifoaaGreatDoorF1
import Derived.Test.YtejljnlfgiifoaaGreatDoorF3
import Derived.Test.YtejljnlfgiifoaaGreatDoorF4
import Derived.WalkKit
import Derived.ProofKit
import Derived.OpenShut
import Derived.LaidMore
import Derived.Lay
import Derived.Stop.Joined
set_option linter.unusedVariables false
set_option linter.unusedSimpArgs false

namespace Go.Proofs.YtejljnlfgiifoaaGreatDoor
open Go.RowKit _root_.Go.Proofs.Tryz
theorem rlenC_pv {cl : Int} {sv : Value} {la : Option Addr} {ln lc : Nat} {va : Option Addr} {vn vc : Nat} : PV prog 92 #[goalV 1 cl (.slice la ln lc) (.slice va vn vc)] (.int .i64 (ln : Int)) := by
 refine PV.of_pc ?_
 refine BD func92 ntmps92 ?_
 try refine RUN ?_
 rfl
theorem rlenV_pv {cl : Int} {la : Option Addr} {ln lc : Nat} {va : Option Addr} {vn vc : Nat} : PV prog 92 #[goalV 2 cl (.slice la ln lc) (.slice va vn vc)] (.int .i64 (vn : Int)) := by
 refine PV.of_pc ?_
 refine BD func92 ntmps92 ?_
 try refine RUN ?_
 rfl
theorem rcheckV_pc {H : Hp} {la : Option Addr} {lc : Nat} {va : Option Addr} {vn vc : Nat} (h0 : 1 ≤ vn) (h1 : vn ≤ 300) : PC prog 91 #[goalV 2 0 (.slice la 0 lc) (.slice va vn vc)] H fun r _ => r = .int .i64 0 := by
 refine BD func91 ntmps91 ?_
 try refine RUN ?_
 rw [decide_eq_false (show ¬ (vn : Int) < 1 by omega)]
 try refine RUN ?_
 rw [decide_eq_false (show ¬ (vn : Int) > 300 by omega)]
 try refine RUN ?_
 rfl
set_option maxHeartbeats 4000000 in
theorem rcheckC_pc {H : Hp} {la : Option Addr} {lc : Nat} {ls : List Int} (hv : IL H (.slice la ls.length lc) ls) {va : Option Addr} {vc : Nat} {cl : Int} (hc : 1 ≤ cl ∧ cl ≤ 12) (h0 : 1 ≤ ls.length) (h1 : ls.length ≤ 300) (hls : ∀ z, z ∈ ls → 0 ≤ z ∧ z < cl) : PC prog 91 #[goalV 1 cl (.slice la ls.length lc) (.slice va 0 vc)] H fun r _ => r = .int .i64 0 := by
 refine BD func91 ntmps91 ?_
 try refine RUN ?_
 rw [decide_eq_false (show ¬ (ls.length : Int) < 1 by omega)]
 try refine RUN ?_
 rw [decide_eq_false (show ¬ (ls.length : Int) > 300 by omega)]
 try refine RUN ?_
 rw [decide_eq_false (show ¬ cl < 1 by omega)]
 try refine RUN ?_
 rw [decide_eq_false (show ¬ cl > 12 by omega)]
 try refine RUN ?_
 refine EV.loopK (ι := Nat) [1, 3] [1] (fun i => [(4, .v (.int .i64 (i : Int)))]) (fun _ => []) (fun _ => []) (fun i _ => i ≤ ls.length) (fun i => ls.length - i) (0) rfl rfl ⟨rfl, trivial⟩ trivial rfl (fun _ => rfl) (Nat.zero_le _) ?_
 rintro i G1 hG1 hi
 try refine RUN ?_
 refine EV.cond rfl (fun hlt => ?_) (fun hlt => ?_)
 ·simp only [nN] at hlt
  obtain ⟨z, hz⟩ : ∃ r, ls[i]? = some r := ⟨_, List.getElem?_eq_getElem hlt⟩
  have hb := hls z (List.mem_of_getElem? hz)
  have hv1 := hv.mono hG1
  try refine RUN ?_
  apply EV.drawn 15 (by kernel_rfl) (by kernel_rfl); intro xv yw
  (repeat (first | refine' DV ?_ | refine' DA ?_ | refine' DK0 ?_ | refine' DT ?_ | refine' DS ?_))
  refine' DJ.ofVal (ValOk.idx1 tO rfl rfl rfl rfl rfl rfl rfl rfl (hv1) (i) (rfl) (hlt) ((by rw [List.getElem?_map, hz]; rfl))) rfl rfl rfl ?_; rotate_left
  (repeat (first | refine' DV ?_ | refine' DA ?_ | refine' DK0 ?_ | refine' DT ?_ | refine' DS ?_))
  rw [decide_eq_false (show ¬ z < 0 by omega)]
  (repeat (first | refine' DV ?_ | refine' DA ?_ | refine' DK0 ?_ | refine' DT ?_ | refine' DS ?_))
  refine' DJ.ofVal (ValOk.idx1 tO rfl rfl rfl rfl rfl rfl rfl rfl (hv1) (i) (rfl) (hlt) ((by rw [List.getElem?_map, hz]; rfl))) rfl rfl rfl ?_; rotate_left
  (repeat (first | refine' DV ?_ | refine' DA ?_ | refine' DK0 ?_ | refine' DT ?_ | refine' DS ?_))
  (refine DJ.nil (fun G2 hG2 hF2 => ?_); (case hS => rfl); (case hS2 => rfl))
  try refine RUN ?_
  rw [decide_eq_false (show ¬ z ≥ cl by omega)]
  try refine RUN ?_
  refine ⟨i + 1, ⟨by rw [wi_inc i (by omega)]; rfl, trivial⟩, (by repeat (first | exact trivial | refine And.intro rfl ?_)), trivial, (by repeat (first | exact trivial | refine And.intro rfl ?_)), rfl, hlt, hG2, by omega⟩
 ·(try refine RUN ?_)
  rfl
abbrev rcut0 : List Value := [.int .i64 0, .bool false, .slice none 0 0, .slice none 0 0, .bool false, .slice none 0 0, .slice none 0 0]
theorem gain0_none {H : Hp} : PC prog 93 #[.agg rcut0.toArray] H fun r H' => RQ H' r 0 := by
 refine BD func93 ntmps93 ?_
 try refine RUN ?_
 refine EVL.call rfl rfl rfl rfl rfl (refOf_pc 0 (by decide) (by decide)) ?_
 intro r2 G2 hq hG2
 obtain ⟨xa, xl, xc, ya, yl, yc, rfl, hx1, hx2⟩ := id hq
 try refine RUN ?_
 exact hq
theorem gain0_some {H : Hp} {c : Int} {b1 : Bool} {s1 s2 : Option Addr} {n1 c1 n2 c2 : Nat} {y : Value} {g : Rat} (hy : RQ H y g) : PC prog 93 #[.agg (.int .i64 c :: ([.bool b1, .slice s1 n1 c1, .slice s2 n2 c2] ++ vlist y)).toArray] H fun r H' => RQ H' r g := by
 obtain ⟨xa, xl, xc, ya, yl, yc, rfl, hx1, hx2⟩ := id hy
 have hl : yl = (dig B32 g.den).length := SlN.cap hx2
 have hne : yl ≠ 0 := fun e => g.den_nz (dig_len_zero B32_two (by omega))
 refine BD func93 ntmps93 ?_
 try refine RUN ?_
 rw [show ((yl : Int) == 0) = false from beq_eq_false_iff_ne.2 (by omega)]
 try refine RUN ?_
 exact hy
def someZ (n : Nat) (z : Int) : Int := if z.tmod 29 = 28 then z % ((n : Int) + 3) - 1 else z % (n : Int)
theorem some_snoc {n i : Nat} {l : List Int} {z : Int} (h : l[i]? = some z) : (l.take (i + 1)).map (someZ n) = (l.take i).map (someZ n) ++ [someZ n z] := by
 rw [take_snoc h, List.map_append, List.map_singleton]
theorem some_len {n i : Nat} {l : List Int} (h : i ≤ l.length) : ((l.take i).map (someZ n)).length = i := by
 rw [List.length_map, List.length_take]; omega
set_option maxHeartbeats 8000000 in
theorem some17_pc {H : Hp} {v : Value} {l : List Int} (h : IL H v l) (hb : ∀ z, z ∈ l → -9223372036854775808 ≤ z ∧ z < 9223372036854775808) (n : Nat) (h0 : 1 ≤ n) (hn : n ≤ 1000) :
  PC prog 29 #[v, .int .i64 (n : Int)] H fun r H' => IL H' r ((l.take 20).map (someZ n)) := by
 obtain ⟨a, cap, rfl⟩ := SlC.val h
 refine BD func29 ntmps29 ?_
 try refine RUN ?_
 refine EV.loopK (ι := Nat × Value × Ows) [0, 1] [] (fun q => [(5, .v q.2.1), (6, .v (.int .i64 (q.1 : Int)))]) (fun _ => []) (fun q => q.2.2) (fun q _ => q.1 ≤ l.length ∧ q.1 ≤ 20 ∧ OwnL 3 1 q.2.1 ((l.take q.1).map (someZ n)).length (((l.take q.1).map (someZ n)).map iv) q.2.2) (fun q => 20 - q.1) ((0, .slice none 0 0, [])) rfl rfl ⟨rfl, rfl, trivial⟩ trivial rfl (fun _ => rfl) (⟨Nat.zero_le _, Nat.zero_le _, OwnL.nil _ _⟩) ?_
 rintro ⟨i, w, ow⟩ G1 hG1 ⟨hi, hi2, hown⟩
 dsimp only at hi hi2 hown
 obtain ⟨wa, wc, rfl⟩ := hown.val
 have hfin : ∀ G2, (i = l.length ∨ i = 20) → IL G2 (.slice wa ((l.take i).map (someZ n)).length wc) ((l.take i).map (someZ n)) → IL G2 (.slice wa ((l.take i).map (someZ n)).length wc) ((l.take 20).map (someZ n)) := by
  intro G2 h1 h2
  rcases h1 with h1 | h1
  ·rw [show l.take 20 = l.take i by rw [List.take_of_length_le (by omega), List.take_of_length_le (by omega)]]; exact h2
  ·subst h1; exact h2
 try refine RUN ?_
 by_cases h1 : (i : Int) < (l.length : Int)
 ·rw [decide_eq_true h1]
  try refine RUN ?_
  by_cases h2 : (i : Int) < 20
  ·rw [decide_eq_true h2]
   have hil : i < l.length := by omega
   obtain ⟨z, hz⟩ : ∃ z, l[i]? = some z := ⟨_, List.getElem?_eq_getElem hil⟩
   have hzb := hb z (List.mem_of_getElem? hz)
   have hp1 := pick_pv z ((n : Int) + 3) hzb (by omega) (by omega)
   have hp2 := pick_pv z (n : Int) hzb (by omega) (by omega)
   have hsn := some_snoc (n := n) hz
   have hsl := some_len (n := n) (i := i) hi
   have wn : IntKind.i64.wrap ((i : Int) + 1) = ((i + 1 : Nat) : Int) := wi_inc i (by omega)
   try refine RUN ?_
   refine EVL.idxR tO rfl rfl rfl rfl rfl rfl rfl rfl rfl rfl ((h.mono hG1)) (i) (rfl) (hil) ((by rw [List.getElem?_map, hz]; rfl)) ?_
   try refine RUN ?_
   by_cases hc : z.tmod 29 = 28
   ·rw [show (z.tmod 29 == 28) = true from beq_iff_eq.2 hc]
    have hsz : someZ n z = z % ((n : Int) + 3) - 1 := if_pos hc
    rw [hsz] at hsn
    try refine RUN ?_
    refine EVL.idxR tO rfl rfl rfl rfl rfl rfl rfl rfl rfl rfl ((h.mono hG1)) (i) (rfl) (hil) ((by rw [List.getElem?_map, hz]; rfl)) ?_
    try refine RUN ?_
    rw [show IntKind.i64.wrap ((n : Int) + 3) = (n : Int) + 3 by rw [IntKind.wrap_i64]; omega]
    repeat (first | refine RUN ?_ | refine CV (hp1) ?_ | refine CE (hp1) ?_)
    rw [show IntKind.i64.wrap (z % ((n : Int) + 3) - 1) = z % ((n : Int) + 3) - 1 by have := Int.emod_nonneg z (show (n : Int) + 3 ≠ 0 by omega); have := Int.emod_lt_of_pos z (show 0 < (n : Int) + 3 by omega); rw [IntKind.wrap_i64]; omega]
    generalize z % ((n : Int) + 3) - 1 = y at *
    try refine RUN ?_
    refine EVL.app1 tO rfl rfl rfl rfl rfl rfl rfl rfl rfl rfl rfl rfl rfl rfl rfl rfl rfl rfl rfl (fun _ => rfl) (ow) ([]) ((List.append_nil _).symm) (hown) ((by rw [hsl]; omega)) fun _ => ?_
    intro v' ow' hown'
    try refine RUN ?_
    refine ⟨(i + 1, v', ow'), ⟨rfl, by dsimp only; rw [wn]; rfl, trivial⟩, (by repeat (first | exact trivial | refine And.intro rfl ?_)), trivial, (by repeat (first | exact trivial | refine And.intro rfl ?_)), List.append_nil _, ⟨hil, by dsimp only; omega, by dsimp only; rw [hsn]; exact hown'.il⟩, Hp.Le.refl _, by dsimp only; omega⟩
   ·rw [show (z.tmod 29 == 28) = false from beq_eq_false_iff_ne.2 hc]
    have hsz : someZ n z = z % (n : Int) := if_neg hc
    rw [hsz] at hsn
    try refine RUN ?_
    refine EVL.idxR tO rfl rfl rfl rfl rfl rfl rfl rfl rfl rfl ((h.mono hG1)) (i) (rfl) (hil) ((by rw [List.getElem?_map, hz]; rfl)) ?_
    repeat (first | refine RUN ?_ | refine CV (hp2) ?_ | refine CE (hp2) ?_)
    generalize z % (n : Int) = y at *
    try refine RUN ?_
    refine EVL.app1 tO rfl rfl rfl rfl rfl rfl rfl rfl rfl rfl rfl rfl rfl rfl rfl rfl rfl rfl rfl (fun _ => rfl) (ow) ([]) ((List.append_nil _).symm) (hown) ((by rw [hsl]; omega)) fun _ => ?_
    intro v' ow' hown'
    try refine RUN ?_
    refine ⟨(i + 1, v', ow'), ⟨rfl, by dsimp only; rw [wn]; rfl, trivial⟩, (by repeat (first | exact trivial | refine And.intro rfl ?_)), trivial, (by repeat (first | exact trivial | refine And.intro rfl ?_)), List.append_nil _, ⟨hil, by dsimp only; omega, by dsimp only; rw [hsn]; exact hown'.il⟩, Hp.Le.refl _, by dsimp only; omega⟩
  ·rw [decide_eq_false h2]
   (first | refine EVL.publishL [] ow [] ((List.append_nil _).symm) hown fun G2 hG2 hs => ?_ | refine EV.publishL [] ow [] ((List.append_nil _).symm) hown fun G2 hG2 hs => ?_)
   try refine RUN ?_
   exact hfin G2 (.inr (by omega)) hs
 ·rw [decide_eq_false h1]
  (first | refine EVL.publishL [] ow [] ((List.append_nil _).symm) hown fun G2 hG2 hs => ?_ | refine EV.publishL [] ow [] ((List.append_nil _).symm) hown fun G2 hG2 hs => ?_)
  try refine RUN ?_
  exact hfin G2 (.inl (by omega)) hs
theorem someL_mem {n : Nat} {l : List Int} (h0 : 1 ≤ n) : ((l.take 20).map (someZ n)).length ≤ 20 := by
 rw [List.length_map, List.length_take]; omega
set_option maxHeartbeats 4000000 in
theorem sameInts_pc {H : Hp} {u w : Value} {l : List Int} (hu : IL H u l) (hw : IL H w l) (hl : l.length ≤ 1000000) : PC prog 30 #[u, w] H fun r _ => r = .bool true := by
 obtain ⟨a, cap, rfl⟩ := SlC.val hu
 obtain ⟨a2, cap2, rfl⟩ := SlC.val hw
 refine BD func30 ntmps30 ?_
 try refine RUN ?_
 rw [show ((l.length : Int) != (l.length : Int)) = false from bne_self_eq_false _]
 try refine RUN ?_
 refine EV.loopK (ι := Nat) [0, 1] [] (fun q => [(5, .v (.int .i64 (q : Int)))]) (fun _ => []) (fun _ => []) (fun q _ => q ≤ l.length) (fun q => l.length - q) (0) rfl rfl ⟨rfl, trivial⟩ trivial rfl (fun _ => rfl) (Nat.zero_le _) ?_
 rintro i G1 hG1 hi
 try refine RUN ?_
 refine EV.cond rfl (fun hlt => ?_) (fun hlt => ?_)
 ·simp only [nN] at hlt
  obtain ⟨z, hz⟩ : ∃ z, l[i]? = some z := ⟨_, List.getElem?_eq_getElem hlt⟩
  have hu1 := hu.mono hG1
  have hw1 := hw.mono hG1
  try refine RUN ?_
  apply EV.drawn 9 (by kernel_rfl) (by kernel_rfl); intro xv yw
  (repeat (first | refine' DV ?_ | refine' DA ?_ | refine' DK0 ?_ | refine' DT ?_ | refine' DS ?_))
  refine' DJ.ofVal (ValOk.idx1 tO rfl rfl rfl rfl rfl rfl rfl rfl (hu1) (i) (rfl) (hlt) ((by rw [List.getElem?_map, hz]; rfl))) rfl rfl rfl ?_; rotate_left
  (repeat (first | refine' DV ?_ | refine' DA ?_ | refine' DK0 ?_ | refine' DT ?_ | refine' DS ?_))
  refine' DJ.ofVal (ValOk.idx1 tO rfl rfl rfl rfl rfl rfl rfl rfl (hw1) (i) (rfl) (hlt) ((by rw [List.getElem?_map, hz]; rfl))) rfl rfl rfl ?_; rotate_left
  (repeat (first | refine' DV ?_ | refine' DA ?_ | refine' DK0 ?_ | refine' DT ?_ | refine' DS ?_))
  (refine DJ.nil (fun G hG hF => ?_); (case hS => rfl); (case hS2 => rfl))
  rw [show (z != z) = false from bne_self_eq_false _]
  try refine RUN ?_
  refine ⟨i + 1, ⟨by rw [wi_inc i (by omega)]; rfl, trivial⟩, (by repeat (first | exact trivial | refine And.intro rfl ?_)), trivial, (by repeat (first | exact trivial | refine And.intro rfl ?_)), rfl, hlt, hG, by omega⟩
 ·(try refine RUN ?_)
  rfl
theorem meanC_pc {H : Hp} {v : Value} {cl : Int} {sl sv : Value} : PC prog 24 #[goalV 1 cl sl sv, v] H fun r _ => r = fracV 0 := by
 refine BD func24 ntmps24 ?_
 try refine RUN ?_
 exact fracV_zero.symm
structure Both (H : Hp) (p g : Value) (N : Nat) (cs mn : List Int → Rat) (cnt : List Int → List Int) : Prop where
 counts : ∀ G, H.Le G → ∀ u l, IL G u l → l.length ≤ 300 → PC prog 31 #[p, u] G fun r H' => IL H' r (cnt (exL l N))
 rcounts : ∀ G, H.Le G → ∀ u l, IL G u l → l.length ≤ 300 → PC prog 32 #[g, u] G fun r H' => IL H' r (cnt (exL l N))
 cntlen : ∀ l, (cnt l).length ≤ 12
 top : ∀ G, H.Le G → ∀ u l, IL G u l → l.length ≤ 300 → PC prog 33 #[p, u] G fun r _ => r = .int .i64 (topN (cnt (exL l N)) (cnt (exL l N)).length : Nat)
 mean : ∀ G, H.Le G → ∀ u l, IL G u l → l.length ≤ 300 → PC prog 24 #[p, u] G fun r _ => r = fracV (mn (exL l N))
 rmean : ∀ G, H.Le G → ∀ u l, IL G u l → l.length ≤ 300 → PC prog 36 #[g, u] G fun r H' => RQ H' r (mn (exL l N))
 msmall : ∀ l : List Int, l.length ≤ 300 → (∀ r, r ∈ l → 0 ≤ r ∧ r < (N : Int)) → rq (mn l)
 cost : ∀ G, H.Le G → ∀ u l, IL G u l → l.length ≤ 300 → PC prog 22 #[p, u] G fun r _ => r = fracV (cs (exL l N))
 rcost : ∀ G, H.Le G → ∀ u l, IL G u l → l.length ≤ 300 → PC prog 37 #[g, u] G fun r H' => RQ H' r (cs (exL l N))
 small : ∀ l : List Int, l.length ≤ 300 → (∀ r, r ∈ l → 0 ≤ r ∧ r < (N : Int)) → ht (cs l) ≤ 2000000
 rcheck : ∀ G, H.Le G → PC prog 91 #[g] G fun r _ => r = .int .i64 0
 rlen : PV prog 92 #[g] (.int .i64 (N : Int))
theorem exL_nil0 (l : List Int) : exL l 0 = [] := by
 unfold exL
 refine List.filter_eq_nil_iff.2 fun r _ => ?_
 unfold inR
 simp
theorem inGoal_both {H : Hp} {v : Value} {n : Nat} {qs : List Rat} (h : GoalR H v n qs) (hql : qs.length = n) (h0 : 1 ≤ n) (h1 : n ≤ 300) (hq : ∀ q, q ∈ qs → ht q ≤ 5) :
  ∃ kd cl ra rn rc sa sn sc, v = goalV kd cl (.slice ra rn rc) (.slice sa sn sc) ∧ ∀ G, H.Le G → PC prog 8 #[v] G fun r H' => ∃ la ln lc va vn vc S wo cost mean cnt, r = goalV kd cl (.slice la ln lc) (.slice va vn vc) ∧ GOk H' kd cl (.slice la ln lc) (.slice va vn vc) n S wo ∧ POk wo cost ∧ Both H' r v n cost mean cnt := by
 rcases h with ⟨s, rfl, hs⟩ | ⟨cl, s, ls, rfl, hc1, hc2, hll, hlb, hs⟩
 ·subst hql
  obtain ⟨sa, sc, rfl⟩ := hs.val
  have hqr : ∀ q, q ∈ qs → rq q := fun q hq' => rq_small (hq q hq') (by omega)
  refine ⟨_, _, _, _, _, _, _, _, rfl, ?_⟩
  intro G hG
  replace hs := hs.mono hG
  refine (inGoal_pc (kd := 2) (cl := 0) (IL.nil G none 0) hs (by decide) (by omega) hqr).mono ?_
  rintro r H' ⟨la, lc, va, vc, rfl, _, hv⟩ hH
  have q100 : ∀ q, q ∈ qs → ht q ≤ 100 := fun q hq' => Nat.le_trans (hq q hq') (by omega)
  have q50 : ∀ q, q ∈ qs → ht q ≤ 50 := fun q hq' => Nat.le_trans (hq q hq') (by omega)
  have hcnt := fun (G : Hp) (u : Value) => countsV_pc (H := G) (v := u) (va := va) (vc := vc) (la := la) (lc := lc) h0 h1
  have hsm : ∀ l : List Int, l.length ≤ 300 → (∀ r, r ∈ l → 0 ≤ r ∧ r < (qs.length : Int)) → ht (meanL (atR qs l)) ≤ 1 + (5 + 1) * 300 + 20 ∧ ht (costVf qs l) ≤ 2000000 := fun l hn hr => by
   have hlb := fun q hq' => hq q (atR_mem hr q hq')
   have hll : (atR qs l).length ≤ 300 := by rw [atR_len]; omega
   have h2 := meanL_ht hll hlb
   have h3 := devS_ht hll hlb h2
   unfold costVf
   exact ⟨h2, by omega⟩
  refine ⟨_, _, _, _, _, _, _, _, costVf qs, fun l => meanL (atR qs l), fun _ => [], rfl, gokV hv h0 h1 q100, pokV qs, ⟨?_, ?_, ?_, ?_, ?_, ?_, ?_, ?_, ?_, ?_, ?_, ?_⟩⟩
  ·exact fun G hG u l hl hn => hcnt G u
  ·intro G hG u l hl hn
   have := refCounts_pc (kd := 2) (sv := .slice sa qs.length sc) (C := 0) (ls := []) hl hn (IL.nil G none 0) (by omega) (by intro z hz; cases hz)
   exact this
  ·exact fun l => Nat.zero_le _
  ·exact fun G hG u l hl hn => topOf_pc (w := u) ⟨_, _, _, _, rfl⟩ (hcnt G u) (by decide)
  ·exact fun G hG u l hl hn => meanG_pc hl hn (hv.mono hG) h0 h1 q100
  ·exact fun G hG u l hl hn => refMeanG_pc hl hn (hs.mono (hH.trans hG)) q50
  ·exact fun l hn hr => by have := (hsm l hn hr).1; unfold rq; omega
  ·exact fun G hG u l hl hn => costV_pc hl hn (hv.mono hG) h0 h1 q100
  ·exact fun G hG u l hl hn => refCostV_pc hl hn (hs.mono (hH.trans hG)) hq
  ·exact fun l hn hr => (hsm l hn hr).2
  ·exact fun G hG => rcheckV_pc h0 h1
  ·exact rlenV_pv
 ·subst hll
  obtain ⟨sa, sc, rfl⟩ := SlC.val hs
  obtain ⟨C, rfl⟩ := Int.eq_ofNat_of_zero_le (show 0 ≤ cl by omega)
  refine ⟨_, _, _, _, _, _, _, _, rfl, ?_⟩
  intro G hG
  replace hs := hs.mono hG
  refine (inGoal_pc (kd := 1) (cl := (C : Int)) hs (RL.nil G none 0) (by omega) (by decide) (by intro q hq; cases hq)).mono ?_
  rintro r H' ⟨la, lc, va, vc, rfl, hv, _⟩ hH
  have hcnt := fun (G : Hp) (hG : H'.Le G) (u : Value) (l : List Int) (hl : IL G u l) (hn : l.length ≤ 300) => countsC_pc (va := va) (vc := vc) hl hn (hv.mono hG) (C := C) ⟨by omega, by omega⟩ h0 h1 hlb
  refine ⟨_, _, _, _, _, _, _, _, costLf ls, fun _ => 0, fun l => cntL C (atI ls l), rfl, gokL ⟨hc1, by omega⟩ hv h0 h1 hlb, pokL (fun z hz => ⟨(hlb z hz).1, by have := (hlb z hz).2; omega⟩), ⟨?_, ?_, ?_, ?_, ?_, ?_, ?_, ?_, ?_, ?_, ?_, ?_⟩⟩
  ·exact hcnt
  ·exact fun G hG u l hl hn => refCounts_pc hl hn (hs.mono (hH.trans hG)) (by omega) hlb
  ·exact fun l => by rw [cntL_len]; omega
  ·exact fun G hG u l hl hn => topOf_pc (w := u) ⟨_, _, _, _, rfl⟩ (hcnt G hG u l hl hn) (by rw [cntL_len]; omega)
  ·exact fun G hG u l hl hn => meanC_pc
  ·intro G hG u l hl hn
   have := refMeanG_pc (kd := 1) (cl := (C : Int)) (sl := .slice sa ls.length sc) hl hn (RL.nil G none 0) (by intro q hq; cases hq)
   rw [show atR [] (exL l ([] : List Rat).length) = [] by rw [show ([] : List Rat).length = 0 from rfl, exL_nil0]; rfl, meanL_nil] at this
   exact this
  ·exact fun l hn hr => by unfold rq; rw [ht_zero]; decide
  ·intro G hG u l hl hn
   exact costC_pc (va := va) (vc := vc) hl hn (hv.mono hG) ⟨hc1, by omega⟩ h0 h1 hlb
  ·exact fun G hG u l hl hn => refCostC_pc hl hn (hs.mono (hH.trans hG)) (by omega) (by omega) hlb
  ·intro l hn hr
   have hsq := sqL_le (atI ls l)
   have hll : (atI ls l).length = l.length := atI_len ls l
   rw [hll] at hsq
   have hsq2 : l.length * l.length ≤ 300 * 300 := Nat.mul_le_mul hn hn
   have hn2 := ht_int (l.length : Int)
   have hn3 : bl (l.length : Int).natAbs ≤ 20 := bl_le (by omega)
   have hs2 := ht_int (sqL (atI ls l) : Int)
   have hs3 : bl (sqL (atI ls l) : Int).natAbs ≤ 20 := bl_le (by omega)
   have hdv := ht_div ((sqL (atI ls l) : Int) : Rat) ((l.length : Int) : Rat)
   have hsb := ht_sub ((l.length : Int) : Rat) (((sqL (atI ls l) : Int) : Rat) / ((l.length : Int) : Rat))
   unfold costLf costL
   rw [hll]
   omega
  ·exact fun G hG => rcheckC_pc (hs.mono (hH.trans hG)) ⟨hc1, by omega⟩ h0 h1 hlb
  ·exact rlenC_pv (sv := .bool true)
end Go.Proofs.YtejljnlfgiifoaaGreatDoor
namespace Go.Proofs.YtejljnlfgiifoaaGreatDoor
def preC (a b : Int × Rat × Rat) : Prop := b.2.2 < a.2.2 ∨ (a.2.2 = b.2.2 ∧ (a.1 < b.1 ∨ (a.1 = b.1 ∧ a.2.1 < b.2.1)))
instance (a b : Int × Rat × Rat) : Decidable (preC a b) := by unfold preC; exact inferInstance
theorem preC_trans {a b c : Int × Rat × Rat} (h : preC a b) (k : preC b c) : preC a c := by
 unfold preC at *
 rcases h with h | ⟨h1, h2⟩ <;> rcases k with k | ⟨k1, k2⟩
 ·left; grind
 ·left; grind
 ·left; grind
 ·right
  refine ⟨h1.trans k1, ?_⟩
  rcases h2 with h2 | ⟨h2, h3⟩ <;> rcases k2 with k2 | ⟨k2, k3⟩
  ·left; omega
  ·left; omega
  ·left; omega
  ·right; exact ⟨by omega, by grind⟩
theorem preC_total {a b : Int × Rat × Rat} (h : ¬ preC a b) (k : ¬ preC b a) : a = b := by
 unfold preC at *
 obtain ⟨a1, a2, a3⟩ := a
 obtain ⟨b1, b2, b3⟩ := b
 dsimp only at *
 have e3 : a3 = b3 := by
  have h1 : ¬ b3 < a3 := fun x => h (.inl x)
  have h2 : ¬ a3 < b3 := fun x => k (.inl x)
  grind
 subst e3
 have e1 : a1 = b1 := by
  have h1 : ¬ a1 < b1 := fun x => h (.inr ⟨rfl, .inl x⟩)
  have h2 : ¬ b1 < a1 := fun x => k (.inr ⟨rfl, .inl x⟩)
  omega
 subst e1
 have e2 : a2 = b2 := by
  have h1 : ¬ a2 < b2 := fun x => h (.inr ⟨rfl, .inr ⟨rfl, x⟩⟩)
  have h2 : ¬ b2 < a2 := fun x => k (.inr ⟨rfl, .inr ⟨rfl, x⟩⟩)
  grind
 subst e2
 rfl
theorem preC_asymm {a b : Int × Rat × Rat} (h : preC a b) (k : preC b a) : False := by
 have := preC_trans h k
 unfold preC at this
 rcases this with h | ⟨_, h | ⟨_, h⟩⟩
 ·exact absurd h Rat.lt_irrefl
 ·omega
 ·exact absurd h Rat.lt_irrefl
def refS (st : Option (Int × Rat × Rat)) (p : Int × Rat × Rat) : Option (Int × Rat × Rat) := match st with
 | none => some p
 | some q => if preC p q then some p else some q
def FirstC (l : List (Int × Rat × Rat)) (r : Option (Int × Rat × Rat)) : Prop := match r with
 | none => l = []
 | some p => p ∈ l ∧ ∀ q, q ∈ l → ¬ preC q p
theorem first_snoc {l : List (Int × Rat × Rat)} {r : Option (Int × Rat × Rat)} (h : FirstC l r) (p : Int × Rat × Rat) : FirstC (l ++ [p]) (refS r p) := by
 unfold refS
 cases r with
 | none =>
  obtain rfl : l = [] := h
  exact ⟨by simp, fun q hq => by
   rw [List.nil_append, List.mem_singleton] at hq
   subst hq
   exact fun k => preC_asymm k k⟩
 | some q =>
  obtain ⟨h1, h2⟩ := h
  dsimp only
  split
  ·rename_i hp
   refine ⟨by simp, fun z hz => ?_⟩
   rcases List.mem_append.1 hz with hz | hz
   ·exact fun k => h2 z hz (preC_trans k hp)
   ·rw [List.mem_singleton.1 hz]; exact fun k => preC_asymm k k
  ·rename_i hp
   refine ⟨List.mem_append_left _ h1, fun z hz => ?_⟩
   rcases List.mem_append.1 hz with hz | hz
   ·exact h2 z hz
   ·rw [List.mem_singleton.1 hz]; exact hp
def FirstP (P : Int × Rat × Rat → Prop) (r : Option (Int × Rat × Rat)) : Prop := match r with
 | none => ∀ p, ¬ P p
 | some p => P p ∧ ∀ q, P q → ¬ preC q p
theorem FirstC.p {l : List (Int × Rat × Rat)} {r : Option (Int × Rat × Rat)} (h : FirstC l r) : FirstP (· ∈ l) r := by
 cases r with
 | none =>
  obtain rfl : l = [] := h
  intro p hp; cases hp
 | some p => exact h
theorem firstP_one {P Q : Int × Rat × Rat → Prop} {r s : Option (Int × Rat × Rat)} (h : FirstP P r) (k : FirstP Q s) (e : ∀ p, P p ↔ Q p) : r = s := by
 cases r with
 | none => cases s with
  | none => rfl
  | some q => exact absurd ((e q).2 k.1) (h q)
 | some p => cases s with
  | none => exact absurd ((e p).1 h.1) (k p)
  | some q => rw [preC_total (a := p) (b := q) (k.2 p ((e p).1 h.1)) (h.2 q ((e q).2 k.1))]
theorem colN_first' {key : Int → Rat} {wo : List Int → Rat} {L : Int} {m : List Int} : ∀ {n : Nat} {a w : Rat}, colN key wo L m n = some (a, w) →
  ∃ j, j < n ∧ candC key L m j = true ∧ a = midC key m j ∧ w = sumW wo m j ∧ ∀ j', j' < n → candC key L m j' = true → sumW wo m j' < w ∨ (sumW wo m j' = w ∧ j ≤ j')
 | 0, a, w, h => by cases h
 | n + 1, a, w, h => by
  unfold colN at h
  split at h
  ·rename_i hc
   split at h
   ·rename_i h0
    cases h
    refine ⟨n, Nat.lt_succ_self _, hc, rfl, rfl, fun j' hj' hc' => ?_⟩
    by_cases e : j' = n
    ·subst e; exact .inr ⟨rfl, Nat.le_refl _⟩
    ·obtain ⟨a1, w1, h1, _⟩ := colN_max (wo := wo) (show j' < n by omega) hc'
     rw [h0] at h1; cases h1
   ·rename_i a0 w0 h0
    obtain ⟨j, hj, h1, h2, h3, h4⟩ := colN_first' h0
    split at h
    ·rename_i hw
     cases h
     refine ⟨n, Nat.lt_succ_self _, hc, rfl, rfl, fun j' hj' hc' => ?_⟩
     by_cases e : j' = n
     ·subst e; exact .inr ⟨rfl, Nat.le_refl _⟩
     ·rcases h4 j' (by omega) hc' with h5 | ⟨h5, _⟩
      ·left; grind
      ·left; rw [h5]; exact hw
    ·rename_i hw
     cases h
     refine ⟨j, by omega, h1, h2, h3, fun j' hj' hc' => ?_⟩
     by_cases e : j' = n
     ·subst e
      rcases Rat.le_iff_lt_or_eq.1 (Rat.not_lt.1 hw) with h5 | h5
      ·exact .inl h5
      ·exact .inr ⟨h5, by omega⟩
     ·exact h4 j' (by omega) hc'
  ·rename_i hc
   obtain ⟨j, hj, h1, h2, h3, h4⟩ := colN_first' h
   refine ⟨j, by omega, h1, h2, h3, fun j' hj' hc' => ?_⟩
   by_cases e : j' = n
   ·subst e; exact absurd hc' hc
   ·exact h4 j' (by omega) hc'
theorem bestF_first {ps : List (Int × Option (Rat × Rat))} (hs : (ps.map (·.1)).Pairwise (· < ·)) {c : Int} {a w : Rat} (h : bestF ps = some (c, a, w)) : ∀ c' a' w', (c', some (a', w')) ∈ ps → w' < w ∨ (w' = w ∧ c ≤ c') := by
 have key : ∀ (qs pre : List (Int × Option (Rat × Rat))) (st : Option (Int × Rat × Rat)), ((pre ++ qs).map (·.1)).Pairwise (· < ·) →
   (∀ c a w, st = some (c, a, w) → (c, some (a, w)) ∈ pre ∧ ∀ c' a' w', (c', some (a', w')) ∈ pre → w' < w ∨ (w' = w ∧ c ≤ c')) → (st = none → ∀ c' a' w', (c', some (a', w')) ∉ pre) →
   ∀ c a w, qs.foldl bestS st = some (c, a, w) → ∀ c' a' w', (c', some (a', w')) ∈ pre ++ qs → w' < w ∨ (w' = w ∧ c ≤ c') := by
  intro qs
  induction qs with
  | nil => intro pre st _ h2 _ c a w h3 c' a' w' hm; rw [List.append_nil] at hm; exact (h2 c a w h3).2 c' a' w' hm
  | cons p qs ih =>
   intro pre st hpw h2 h0 c a w h3 c' a' w' hm
   have e : pre ++ p :: qs = (pre ++ [p]) ++ qs := by simp
   rw [e] at hpw hm
   have hlt : ∀ z, z ∈ pre → z.1 < p.1 := fun z hz => by
    rw [List.map_append, List.map_append] at hpw
    exact (List.pairwise_append.1 (List.pairwise_append.1 hpw).1).2.2 z.1 (List.mem_map.2 ⟨z, hz, rfl⟩) p.1 (by simp)
   refine ih (pre ++ [p]) (bestS st p) hpw (fun c a w h4 => ?_) (fun h4 => ?_) c a w h3 c' a' w' hm
   ·obtain ⟨pc, po⟩ := p
    unfold bestS at h4
    cases po with
    | none =>
     obtain ⟨h5, h6⟩ := h2 c a w h4
     refine ⟨List.mem_append_left _ h5, fun c' a' w' hz => ?_⟩
     rcases List.mem_append.1 hz with hz | hz
     ·exact h6 c' a' w' hz
     ·cases List.mem_singleton.1 hz
    | some q =>
     obtain ⟨a1, w1⟩ := q
     cases st with
     | none =>
      cases h4
      refine ⟨by simp, fun c' a' w' hz => ?_⟩
      rcases List.mem_append.1 hz with hz | hz
      ·exact absurd hz (h0 rfl c' a' w')
      ·cases List.mem_singleton.1 hz; exact .inr ⟨rfl, by omega⟩
     | some t =>
      obtain ⟨c0, a0, w0⟩ := t
      obtain ⟨h5, h6⟩ := h2 c0 a0 w0 rfl
      dsimp only at h4
      split at h4
      ·rename_i hw
       cases h4
       refine ⟨by simp, fun c' a' w' hz => ?_⟩
       rcases List.mem_append.1 hz with hz | hz
       ·rcases h6 c' a' w' hz with h7 | ⟨h7, _⟩
        ·left; grind
        ·left; rw [h7]; exact hw
       ·cases List.mem_singleton.1 hz; exact .inr ⟨rfl, by omega⟩
      ·rename_i hw
       cases h4
       refine ⟨List.mem_append_left _ h5, fun c' a' w' hz => ?_⟩
       rcases List.mem_append.1 hz with hz | hz
       ·exact h6 c' a' w' hz
       ·cases List.mem_singleton.1 hz
        have hl := hlt _ h5
        dsimp only at hl
        rcases Rat.le_iff_lt_or_eq.1 (Rat.not_lt.1 hw) with h8 | h8
        ·exact .inl h8
        ·exact .inr ⟨h8, by omega⟩
   ·obtain ⟨pc, po⟩ := p
    unfold bestS at h4
    cases po with
    | none =>
     intro c' a' w' hz
     rcases List.mem_append.1 hz with hz | hz
     ·exact h0 h4 c' a' w' hz
     ·cases List.mem_singleton.1 hz
    | some q =>
     obtain ⟨a1, w1⟩ := q
     cases st with
     | none => cases h4
     | some t =>
      obtain ⟨c0, a0, w0⟩ := t
      dsimp only at h4
      split at h4 <;> cases h4
 exact key ps [] none hs (fun c a w h => by cases h) (fun _ c' a' w' h => by cases h) c a w h
end Go.Proofs.YtejljnlfgiifoaaGreatDoor
namespace Go.Proofs.YtejljnlfgiifoaaGreatDoor
theorem same_sort {key : Int → Rat} {es m m2 : List Int} (h1 : m.Perm es) (r1 : RisK key m) (h2 : m2.Perm es) (r2 : RisK key m2) : m2.length = m.length ∧ ∀ i, i < m.length → key (m2.getD i 0) = key (m.getD i 0) := by
 have hml : m2.length = m.length := by rw [h1.length_eq, h2.length_eq]
 have hkk : m2.map key = m.map key := rising_one r2 r1 ((h2.trans h1.symm).map _)
 refine ⟨hml, fun i hi => ?_⟩
 have := congrArg (fun l : List Rat => l[i]?) hkk
 simp only [List.getElem?_map] at this
 rw [List.getElem?_eq_getElem (show i < m2.length by omega), List.getElem?_eq_getElem hi] at this
 simpa [hi, hml] using this
theorem cand_same {X : List (List Rat)} {wo cost : List Int → Rat} {c L : Int} {es m m2 : List Int} (hp : POk wo cost) (ha : ∀ r, r ∈ es → hasC X c r = true) (h1 : m.Perm es) (r1 : RisK (colK X c) m) (h2 : m2.Perm es) (r2 : RisK (colK X c) m2) {j : Nat} (hj : j + 1 < m.length) (hc : candC (colK X c) L m j = true) :
  candC (colK X c) L m2 j = true ∧ midC (colK X c) m2 j = midC (colK X c) m j ∧ sumW wo m2 j = sumW wo m j := by
 obtain ⟨hml, hget⟩ := same_sort h1 r1 h2 r2
 obtain ⟨c1, c2, hlt⟩ := candC_iff.1 hc
 have hlt2 : colK X c (m2.getD j 0) < colK X c (m2.getD (j + 1) 0) := by rw [hget j (by omega), hget (j + 1) hj]; exact hlt
 have hmid : midC (colK X c) m2 j = midC (colK X c) m j := by unfold midC; rw [hget j (by omega), hget (j + 1) hj]
 obtain ⟨hl, hh⟩ := sides_at h1 r1 ha hj hlt
 obtain ⟨hl2, hh2⟩ := sides_at h2 r2 ha (show j + 1 < m2.length by omega) hlt2
 rw [hmid] at hl2 hh2
 refine ⟨candC_iff.2 ⟨c1, by rw [hml]; exact c2, hlt2⟩, hmid, ?_⟩
 unfold sumW
 rw [hp.wperm _ _ (hl2.symm.trans hl), hp.wperm _ _ (hh2.symm.trans hh)]
def CutP (X : List (List Rat)) (wo : List Int → Rat) (es cols : List Int) (L : Int) (p : Int × Rat × Rat) : Prop :=
 p.1 ∈ cols ∧ es.all (hasC X p.1) = true ∧ ∃ m j, m.Perm es ∧ RisK (colK X p.1) m ∧ j + 1 < m.length ∧ candC (colK X p.1) L m j = true ∧ p.2.1 = midC (colK X p.1) m j ∧ p.2.2 = sumW wo m j - wo es
theorem mid_mono {key : Int → Rat} {m : List Int} (h : RisK key m) {i j : Nat} (hij : i ≤ j) (hj : j + 1 < m.length) : midC key m i ≤ midC key m j := by
 have h1 := risK_get h hij (by omega)
 have h2 := risK_get h (show i + 1 ≤ j + 1 by omega) hj
 unfold midC
 grind
theorem pair_one {ps : List (Int × Option (Rat × Rat))} (hs : (ps.map (·.1)).Pairwise (· < ·)) : ∀ {c : Int} {o o' : Option (Rat × Rat)}, (c, o) ∈ ps → (c, o') ∈ ps → o = o' := by
 induction ps with
 | nil => intro c o o' h; cases h
 | cons p ps ih =>
  intro c o o' h h'
  rw [List.map_cons] at hs
  obtain ⟨h1, h2⟩ := List.pairwise_cons.1 hs
  rcases List.mem_cons.1 h with h | h <;> rcases List.mem_cons.1 h' with h' | h'
  ·rw [← h] at h'; cases h'; rfl
  ·have := h1 c (List.mem_map.2 ⟨_, h', rfl⟩)
   rw [← h] at this
   exact absurd this (by dsimp only; omega)
  ·have := h1 c (List.mem_map.2 ⟨_, h, rfl⟩)
   rw [← h'] at this
   exact absurd this (by dsimp only; omega)
  ·exact ih h2 h h'
theorem best_firstP {X : List (List Rat)} {wo cost : List Int → Rat} {es cols : List Int} {L : Int} {ps : List (Int × Option (Rat × Rat))} (hp : POk wo cost) (hcol : Cols cols (ps.map (·.1))) (hps : ∀ p, p ∈ ps → ColR X wo es L p.1 p.2) :
  FirstP (CutP X wo es cols L) ((bestF ps).map fun t => (t.1, t.2.1, t.2.2 - wo es)) := by
 have own : ∀ c a g, CutP X wo es cols L (c, a, g) → ∃ a2 w2, (c, some (a2, w2)) ∈ ps ∧ g + wo es ≤ w2 ∧ (g + wo es = w2 → a2 ≤ a) := by
  rintro c a g ⟨hc, ha, m, j, hm, hr, hj, hcand, he, hg⟩
  dsimp only at hc ha hr hcand he hg
  obtain ⟨⟨pk, po⟩, hpm, hpk⟩ := List.mem_map.1 ((hcol.2 c).2 hc)
  dsimp only at hpk
  subst hpk
  obtain ⟨m2, hs2, ho2, _⟩ := hps _ hpm
  dsimp only at hs2 ho2
  rcases hs2 with ⟨_, hm2, hr2⟩ | ⟨hno, _⟩
  ·obtain ⟨h1, h2, h3⟩ := cand_same hp (List.all_eq_true.1 ha) hm hr hm2 hr2 hj hcand
   have hml := (same_sort hm hr hm2 hr2).1
   obtain ⟨a2, w2, hcn, hw⟩ := colN_max (wo := wo) (show j < m2.length - 1 by omega) h1
   rw [← ho2] at hcn
   subst hcn
   obtain ⟨j2, hj2, _, e1, e2, e3⟩ := colN_first' ho2.symm
   refine ⟨a2, w2, hpm, by grind, fun heq => ?_⟩
   rcases e3 j (by omega) h1 with h4 | ⟨_, h4⟩
   ·grind
   ·rw [e1, he, ← h2]
    exact mid_mono hr2 h4 (by omega)
  ·rw [ha] at hno; cases hno
 cases hb : bestF ps with
 | none =>
  rintro ⟨c, a, g⟩ hq
  obtain ⟨a2, w2, h1, _⟩ := own c a g hq
  obtain ⟨_, _, _, h2, _⟩ := bestF_max h1
  rw [hb] at h2; cases h2
 | some t =>
  obtain ⟨c, a, w⟩ := t
  have hm := bestF_mem hb
  refine ⟨?_, ?_⟩
  ·obtain ⟨m, hs, ho, _⟩ := hps _ hm
   dsimp only at hs ho
   obtain ⟨j, hj, hcand, e1, e2⟩ := colN_mem ho.symm
   rcases hs with ⟨ha, hpm, hr⟩ | ⟨_, rfl⟩
   ·exact ⟨(hcol.2 c).1 (List.mem_map.2 ⟨_, hm, rfl⟩), ha, m, j, hpm, hr, by omega, hcand, e1, by show w - wo es = _; rw [e2]⟩
   ·simp at hj
  ·rintro ⟨c', a', g'⟩ hq hpre
   obtain ⟨a2, w2, h1, h2, h3⟩ := own c' a' g' hq
   have h4 := bestF_first hcol.1 hb c' a2 w2 h1
   rcases hpre with h5 | ⟨h5, h6⟩
   ·have h5' : w - wo es < g' := h5
    rcases h4 with h4 | ⟨h4, _⟩ <;> grind
   ·have h5' : g' = w - wo es := h5
    have hw : w2 = w := by rcases h4 with h4 | ⟨h4, _⟩ <;> grind
    have hle : c ≤ c' := by
     rcases h4 with h4 | ⟨_, h4⟩
     ·grind
     ·exact h4
    rcases h6 with h6 | ⟨h6, h7⟩
    ·have : c' < c := h6
     omega
    ·have h6' : c' = c := h6
     subst h6'
     have := pair_one hcol.1 h1 hm
     cases this
     have h8 := h3 (by grind)
     have h9 : a' < a := h7
     grind
end Go.Proofs.YtejljnlfgiifoaaGreatDoor
namespace Go.Proofs.YtejljnlfgiifoaaGreatDoor
def cutsOf (X : List (List Rat)) (cost : List Int → Rat) (es : List Int) (L c : Int) (ts : List Rat) : List (Int × Rat × Rat) :=
 ts.flatMap fun t => if L ≤ ((lowL X c t es).length : Int) ∧ L ≤ ((highL X c t es).length : Int) then [(c, t, cost es - (cost (lowL X c t es) + cost (highL X c t es)))] else []
def allCuts (X : List (List Rat)) (cost : List Int → Rat) (es : List Int) (L : Int) (cols : List Int) : List (Int × Rat × Rat) := cols.flatMap fun c => cutsOf X cost es L c (plQ X c es)
theorem gapsN_of {key : Int → Rat} {m : List Int} : ∀ {n j : Nat}, j < n → key (m.getD j 0) < key (m.getD (j + 1) 0) → midC key m j ∈ gapsN key m n
 | 0, j, h, _ => by omega
 | n + 1, j, h, hlt => by
  unfold gapsN
  by_cases e : j = n
  ·subst e
   rw [if_pos hlt]
   exact List.mem_append_right _ (List.mem_singleton.2 rfl)
  ·exact List.mem_append_left _ (gapsN_of (show j < n by omega) hlt)
theorem sorted_is (key : Int → Rat) (es : List Int) : ∃ m, m.Perm es ∧ RisK key m := by
 refine ⟨es.mergeSort fun a b => decide (key a ≤ key b), List.mergeSort_perm _ _, ?_⟩
 have := List.pairwise_mergeSort (le := fun a b : Int => decide (key a ≤ key b)) (fun a b c h1 h2 => by simp at h1 h2 ⊢; exact Rat.le_trans h1 h2) (fun a b => by simp; exact Rat.le_total) es
 exact List.pairwise_map.2 (this.imp fun h => by simpa using h)
theorem cost_gain {wo cost : List Int → Rat} (hp : POk wo cost) {es a b m : List Int} {j : Nat} (hm : m.Perm es) (hl : a.Perm (m.take (j + 1))) (hh : b.Perm (m.drop (j + 1))) : cost es - (cost a + cost b) = sumW wo m j - wo es := by
 have hab : (a ++ b).Perm es := by
  refine (hl.append hh).trans ?_
  rw [List.take_append_drop]; exact hm
 have h1 := hp.gain hab
 have h2 := hp.wperm _ _ hl
 have h3 := hp.wperm _ _ hh
 have h4 : sumW wo m j = wo (m.take (j + 1)) + wo (m.drop (j + 1)) := rfl
 rw [h4, ← h2, ← h3]
 grind
theorem mem_cuts {X : List (List Rat)} {wo cost : List Int → Rat} {es cols : List Int} {L : Int} (hp : POk wo cost) (p : Int × Rat × Rat) : p ∈ allCuts X cost es L cols ↔ CutP X wo es cols L p := by
 obtain ⟨c, t, g⟩ := p
 unfold allCuts cutsOf
 rw [List.mem_flatMap]
 constructor
 ·rintro ⟨c', hc, h⟩
  obtain ⟨t', ht, h⟩ := List.mem_flatMap.1 h
  split at h
  ·rename_i hcond
   rw [List.mem_singleton] at h
   cases h
   by_cases ha : es.all (hasC X c) = true
   ·obtain ⟨m, hm, hr⟩ := sorted_is (colK X c) es
    rw [← plQ_sort (.inl ⟨ha, hm, hr⟩ : SortC X c es m)] at ht
    obtain ⟨j, hj, hlt, rfl⟩ := gapsN_mem ht
    have hj1 : j + 1 < m.length := by omega
    obtain ⟨hl, hh⟩ := sides_at hm hr (List.all_eq_true.1 ha) hj1 hlt
    have e1 := hl.length_eq
    have e2 := hh.length_eq
    rw [List.length_take] at e1
    rw [List.length_drop] at e2
    exact ⟨hc, ha, m, j, hm, hr, hj1, candC_iff.2 ⟨by omega, by omega, hlt⟩, rfl, cost_gain hp hm hl hh⟩
   ·unfold plQ at ht
    rw [if_neg ha] at ht
    cases ht
  ·cases h
 ·rintro ⟨hc, ha, m, j, hm, hr, hj, hcand, he, hg⟩
  dsimp only at hc ha hr hcand he hg
  obtain ⟨h1, h2, hlt⟩ := candC_iff.1 hcand
  obtain ⟨hl, hh⟩ := sides_at hm hr (List.all_eq_true.1 ha) hj hlt
  have e1 := hl.length_eq
  have e2 := hh.length_eq
  rw [List.length_take] at e1
  rw [List.length_drop] at e2
  refine ⟨c, hc, List.mem_flatMap.2 ⟨t, ?_, ?_⟩⟩
  ·rw [← plQ_sort (.inl ⟨ha, hm, hr⟩ : SortC X c es m), he]
   exact gapsN_of (by omega) hlt
  ·rw [he, if_pos ⟨by omega, by omega⟩, cost_gain hp hm hl hh, hg]
   exact List.mem_singleton.2 rfl
theorem first_fold (l : List (Int × Rat × Rat)) : FirstC l (l.foldl refS none) := by
 have key : ∀ (qs pre : List (Int × Rat × Rat)) (st : Option (Int × Rat × Rat)), FirstC pre st → FirstC (pre ++ qs) (qs.foldl refS st) := by
  intro qs
  induction qs with
  | nil => intro pre st h; rw [List.append_nil]; exact h
  | cons p qs ih =>
   intro pre st h
   rw [show pre ++ p :: qs = (pre ++ [p]) ++ qs by simp]
   exact ih _ _ (first_snoc h p)
 have := key l [] none rfl
 simpa using this
theorem best_is_ref {X : List (List Rat)} {wo cost : List Int → Rat} {es cols : List Int} {L : Int} {ps : List (Int × Option (Rat × Rat))} (hp : POk wo cost) (hcol : Cols cols (ps.map (·.1))) (hps : ∀ p, p ∈ ps → ColR X wo es L p.1 p.2) :
  ((bestF ps).map fun t => (t.1, t.2.1, t.2.2 - wo es)) = (allCuts X cost es L cols).foldl refS none :=
 firstP_one (best_firstP hp hcol hps) (first_fold _).p fun p => (mem_cuts hp p).symm
end Go.Proofs.YtejljnlfgiifoaaGreatDoor
namespace Go.Proofs.YtejljnlfgiifoaaGreatDoor
open Go.RowKit _root_.Go.Proofs.Tryz
def CutS (G : Hp) (st : Option (Int × Rat × Rat)) (cs : List Value) : Prop := match st with
 | none => cs = rcut0
 | some (c, t, g) => ∃ x y, RQ G x t ∧ RQ G y g ∧ cs = .int .i64 c :: (vlist x ++ vlist y)
theorem CutS.mono {G G' : Hp} {st : Option (Int × Rat × Rat)} {cs : List Value} (h : CutS G st cs) (k : G.Le G') : CutS G' st cs := by
 cases st with
 | none => exact h
 | some p =>
  obtain ⟨x, y, h1, h2, h3⟩ := h
  exact ⟨x, y, h1.mono k, h2.mono k, h3⟩
theorem plQ_ht {X : List (List Rat)} (h : ∀ x, x ∈ X → ∀ q, q ∈ x → ht q ≤ 5) {c : Int} {es : List Int} {t : Rat} (ht' : t ∈ plQ X c es) : ht t ≤ 100 := by
 by_cases ha : es.all (hasC X c) = true
 ·obtain ⟨m, hm, hr⟩ := sorted_is (colK X c) es
  rw [← plQ_sort (.inl ⟨ha, hm, hr⟩ : SortC X c es m)] at ht'
  obtain ⟨j, _, _, rfl⟩ := gapsN_mem ht'
  exact midC_ht h c m j
 ·unfold plQ at ht'
  rw [if_neg ha] at ht'
  cases ht'
theorem plQ_len (X : List (List Rat)) (c : Int) (es : List Int) : (plQ X c es).length ≤ es.length := by
 unfold plQ
 split
 ·have := gapsV_len (sortQ (es.map (colK X c))) (es.length - 1)
  omega
 ·exact Nat.zero_le _
theorem all_snoc {X : List (List Rat)} {cost : List Int → Rat} {es cols : List Int} {L c : Int} {i : Nat} (h : cols[i]? = some c) : allCuts X cost es L (cols.take (i + 1)) = allCuts X cost es L (cols.take i) ++ cutsOf X cost es L c (plQ X c es) := by
 unfold allCuts
 rw [take_snoc h, List.flatMap_append]; simp
theorem cuts_snoc {X : List (List Rat)} {cost : List Int → Rat} {es : List Int} {L c : Int} {ts : List Rat} {j : Nat} {t : Rat} (h : ts[j]? = some t) : cutsOf X cost es L c (ts.take (j + 1)) = cutsOf X cost es L c (ts.take j) ++ if L ≤ ((lowL X c t es).length : Int) ∧ L ≤ ((highL X c t es).length : Int) then [(c, t, cost es - (cost (lowL X c t es) + cost (highL X c t es)))] else [] := by
 unfold cutsOf
 rw [take_snoc h, List.flatMap_append]; simp
theorem ordR_gt0 (a b : Rat) : ordR a b > 0 ↔ b < a := by
 unfold ordR
 split
 ·rename_i h
  exact ⟨fun k => absurd k (by decide), fun k => by exfalso; grind⟩
 ·split
  ·rename_i h; exact ⟨fun _ => h, fun _ => by decide⟩
  ·rename_i h; exact ⟨fun k => absurd k (by decide), fun k => absurd k h⟩
theorem ordR_lt0 (a b : Rat) : ordR a b < 0 ↔ a < b := by
 unfold ordR
 split
 ·rename_i h; exact ⟨fun _ => h, fun _ => by decide⟩
 ·rename_i h
  split
  ·exact ⟨fun k => absurd k (by decide), fun k => absurd k h⟩
  ·exact ⟨fun k => absurd k (by decide), fun k => absurd k h⟩
theorem ordR_eq0 (a b : Rat) : (ordR a b == 0) = decide (a = b) := by
 unfold ordR
 split
 ·rename_i h
  rw [decide_eq_false (fun e => by subst e; exact Rat.lt_irrefl h)]; rfl
 ·split
  ·rename_i h
   rw [decide_eq_false (fun e => by subst e; exact Rat.lt_irrefl h)]; rfl
  ·rename_i h1 h2
   rw [decide_eq_true (Rat.le_antisymm (Rat.not_lt.1 h2) (Rat.not_lt.1 h1))]; rfl
theorem cuts_small {X : List (List Rat)} {cost : List Int → Rat} {es : List Int} {n : Nat} {L c : Int} {ts : List Rat} (hs : ∀ l : List Int, l.length ≤ 300 → (∀ r, r ∈ l → 0 ≤ r ∧ r < (n : Int)) → ht (cost l) ≤ 2000000) (he : es.length ≤ 300) (hb : ∀ r, r ∈ es → 0 ≤ r ∧ r < (n : Int)) (hts : ∀ t, t ∈ ts → ht t ≤ 100) {p : Int × Rat × Rat} (h : p ∈ cutsOf X cost es L c ts) : ht p.2.1 ≤ 100 ∧ ht p.2.2 ≤ 8000000 := by
 unfold cutsOf at h
 obtain ⟨t, ht', hp⟩ := List.mem_flatMap.1 h
 split at hp
 ·obtain rfl := List.mem_singleton.1 hp
  have h1 := hs _ (Nat.le_trans (List.length_filter_le _ _) he : (lowL X c t es).length ≤ 300) (fun r hr => hb r (List.mem_filter.mp hr).1)
  have h2 := hs _ (Nat.le_trans (List.length_filter_le _ _) he : (highL X c t es).length ≤ 300) (fun r hr => hb r (List.mem_filter.mp hr).1)
  have h3 := hs es he hb
  have h4 := ht_add (cost (lowL X c t es)) (cost (highL X c t es))
  have h5 := ht_sub (cost es) (cost (lowL X c t es) + cost (highL X c t es))
  exact ⟨hts t ht', by dsimp only; omega⟩
 ·cases hp
theorem all_small {X : List (List Rat)} {cost : List Int → Rat} {es : List Int} {n : Nat} {L : Int} {cols : List Int} (hs : ∀ l : List Int, l.length ≤ 300 → (∀ r, r ∈ l → 0 ≤ r ∧ r < (n : Int)) → ht (cost l) ≤ 2000000) (he : es.length ≤ 300) (hb : ∀ r, r ∈ es → 0 ≤ r ∧ r < (n : Int)) (hq : ∀ x, x ∈ X → ∀ q, q ∈ x → ht q ≤ 5) {p : Int × Rat × Rat} (h : p ∈ allCuts X cost es L cols) : ht p.2.1 ≤ 100 ∧ ht p.2.2 ≤ 8000000 := by
 unfold allCuts at h
 obtain ⟨c, _, hp⟩ := List.mem_flatMap.1 h
 exact cuts_small hs he hb (fun t ht' => plQ_ht hq ht') hp
set_option maxHeartbeats 16000000 in
theorem refBest_pc {H : Hp} {kd cl : Int} {la va : Option Addr} {ln lc vn vc : Nat} {vx vr vcol : Value} {X : List (List Rat)} {rs cols : List Int} {least : Int} {cost : List Int → Rat}
  (hchk : PC prog 91 #[goalV kd cl (.slice la ln lc) (.slice va vn vc)] H fun r _ => r = .int .i64 0) (hlen : PV prog 92 #[goalV kd cl (.slice la ln lc) (.slice va vn vc)] (.int .i64 (X.length : Int)))
  (hcost : ∀ G, H.Le G → ∀ u l, IL G u l → l.length ≤ 300 → PC prog 37 #[goalV kd cl (.slice la ln lc) (.slice va vn vc), u] G fun r H' => RQ H' r (cost (exL l X.length)))
  (hsmall : ∀ l : List Int, l.length ≤ 300 → (∀ r, r ∈ l → 0 ≤ r ∧ r < (X.length : Int)) → ht (cost l) ≤ 2000000)
  (hX : RLL H vx X) (hq : ∀ x, x ∈ X → ∀ q, q ∈ x → ht q ≤ 5) (hr : IL H vr rs) (hn : rs.length ≤ 300) (hc : IL H vcol cols) (hcn : cols.length ≤ 1000) :
  PC prog 42 #[goalV kd cl (.slice la ln lc) (.slice va vn vc), vx, vr, vcol, .int .i64 least] H fun r H' => ∃ cs, CutS H' ((allCuts X cost (exL rs X.length) (max 1 least) cols).foldl refS none) cs ∧ r = .tuple #[.agg cs.toArray, .bool ((allCuts X cost (exL rs X.length) (max 1 least) cols).foldl refS none).isSome] := by
 have hel := exL_len rs X.length
 have heb := exL_mem (rs := rs) (n := X.length)
 have hrq : ∀ x, x ∈ X → ∀ q, q ∈ x → rq q := fun x hx q hm => Nat.le_trans (hq x hx q hm) (by omega)
 obtain ⟨ra, rc, rfl⟩ := SlC.val hr
 obtain ⟨xa, xc, rfl⟩ := hX.val
 obtain ⟨ca, cc, rfl⟩ := SlC.val hc
 refine BD func42 ntmps42 ?_
 repeat (first | refine RUN ?_ | refine CV (hchk) ?_ | refine CV (hlen) ?_ | refine CE (hchk) ?_ | refine CE (hlen) ?_)
 rw [show ((X.length : Int) != (X.length : Int)) = false from bne_self_eq_false _]
 try refine RUN ?_
 refine EVL.call rfl rfl rfl rfl rfl (hcost _ (Hp.Le.refl _) _ _ hr hn) ?_
 intro rall G1 hall hG1
 obtain ⟨wa, wl, wc, za, zl, zc, rfl, hw1, hw2⟩ := id hall
 have hsa := hsmall (exL rs X.length) (by omega) heb
 try refine RUN ?_
 refine EV.loopK (ι := Nat × List Value) [1, 2, 3, 4, 5, 10, 12, 14] [5, 10, 14] (fun q => [(13, .v (.bool ((allCuts X cost (exL rs X.length) (max 1 least) (cols.take q.1)).foldl refS none).isSome)), (15, .v (.int .i64 (q.1 : Int)))]) (fun q => [(12, 85, q.2)]) (fun _ => []) (fun q G => q.1 ≤ cols.length ∧ CutS G ((allCuts X cost (exL rs X.length) (max 1 least) (cols.take q.1)).foldl refS none) q.2) (fun q => cols.length - q.1) ((0, rcut0)) rfl rfl ⟨rfl, rfl, trivial⟩ ⟨rfl, trivial⟩ rfl (fun _ => rfl) (⟨Nat.zero_le _, rfl⟩) ?_
 rintro ⟨i, cs⟩ G2 hG2 ⟨hi, hcs⟩
 dsimp only at hi hcs
 try refine RUN ?_
 refine EV.cond rfl (fun hlt => ?_) (fun hlt => ?_)
 ·simp only [nN] at hlt
  obtain ⟨c, hci⟩ : ∃ c, cols[i]? = some c := ⟨_, List.getElem?_eq_getElem hlt⟩
  have hH2 := hG1.trans hG2
  have hsn := all_snoc (X := X) (cost := cost) (es := exL rs X.length) (L := max 1 least) hci
  have hplh : ∀ t, t ∈ plQ X c (exL rs X.length) → ht t ≤ 100 := fun t hm => plQ_ht hq hm
  try refine RUN ?_
  refine EVL.idxR tO rfl rfl rfl rfl rfl rfl rfl rfl rfl rfl ((hc.mono hH2)) (i) (rfl) (hlt) ((by rw [List.getElem?_map, hci]; rfl)) ?_
  try refine RUN ?_
  refine EVL.call rfl rfl rfl rfl rfl (refPlaces_pc (col := c) (hX.mono hH2) (hr.mono hH2) hn hq) ?_
  intro rp G3 hP hG3
  have hpll : (plQ X c (exL rs X.length)).length ≤ 300 := by have := plQ_len X c (exL rs X.length); omega
  generalize plQ X c (exL rs X.length) = P at *
  obtain ⟨pa, pc, rfl⟩ := hP.val
  try refine RUN ?_
  refine EV.loopK (ι := Nat × List Value) [1, 2, 3, 4, 5, 10, 12, 14, 15, 16] [5, 10, 14] (fun q => [(13, .v (.bool ((allCuts X cost (exL rs X.length) (max 1 least) (cols.take i) ++ cutsOf X cost (exL rs X.length) (max 1 least) c (P.take q.1)).foldl refS none).isSome)), (17, .v (.int .i64 (q.1 : Int)))]) (fun q => [(12, 85, q.2)]) (fun _ => []) (fun q G => q.1 ≤ P.length ∧ CutS G ((allCuts X cost (exL rs X.length) (max 1 least) (cols.take i) ++ cutsOf X cost (exL rs X.length) (max 1 least) c (P.take q.1)).foldl refS none) q.2) (fun q => P.length - q.1) ((0, cs)) rfl rfl ⟨by rw [show cutsOf X cost (exL rs X.length) (max 1 least) c (P.take 0) = [] from rfl, List.append_nil]; rfl, rfl, trivial⟩ ⟨rfl, trivial⟩ rfl (fun _ => rfl) (⟨Nat.zero_le _, by rw [show cutsOf X cost (exL rs X.length) (max 1 least) c (P.take 0) = [] from rfl, List.append_nil]; exact hcs.mono hG3⟩) ?_
  rintro ⟨j, cs2⟩ G4 hG4 ⟨hj, hcs2⟩
  dsimp only at hj hcs2
  try refine RUN ?_
  refine EV.cond rfl (fun hlj => ?_) (fun hlj => ?_)
  ·simp only [nN] at hlj
   obtain ⟨t, htj⟩ : ∃ t, P[j]? = some t := ⟨_, List.getElem?_eq_getElem hlj⟩
   have hth := hplh t (List.mem_of_getElem? htj)
   have hsn2 := cuts_snoc (X := X) (cost := cost) (es := exL rs X.length) (L := max 1 least) (c := c) htj
   have hP4 := hP.mono hG4
   have hH4 := hH2.trans (hG3.trans hG4)
   have hc4 := hc.mono hH4
   obtain ⟨vs, y, hs, hcy, hy⟩ := hP4.at htj
   obtain ⟨ya, yl, yc, yb, ym, yd, rfl, hy1, hy2⟩ := id hy
   have wn : IntKind.i64.wrap ((j : Int) + 1) = ((j + 1 : Nat) : Int) := wi_inc j (by omega)
   try refine RUN ?_
   apply EV.drawn 15 (by kernel_rfl) (by kernel_rfl); intro xv yw
   (repeat (first | refine' DV ?_ | refine' DA ?_ | refine' DK0 ?_ | refine' DT ?_ | refine' DS ?_))
   refine' DJ.ofVal (ValOk.idx1 tO rfl rfl rfl rfl rfl rfl rfl rfl (hc4) (i) (rfl) (hlt) ((by rw [List.getElem?_map, hci]; rfl))) rfl rfl rfl ?_; rotate_left
   (repeat (first | refine' DV ?_ | refine' DA ?_ | refine' DK0 ?_ | refine' DT ?_ | refine' DS ?_))
   refine' DJ.idxM tO rfl rfl rfl rfl rfl rfl rfl rfl rfl (hs) (j) (rfl) (hlj) (hcy) ?_; rotate_left
   (repeat (first | refine' DV ?_ | refine' DA ?_ | refine' DK0 ?_ | refine' DT ?_ | refine' DS ?_))
   refine' DJ.call rfl rfl rfl rfl rfl (cO func38) (fun G hG hd => refSides_pc (col := c) (t := t) ((hX.mono hH4).mono hG) ((hr.mono hH4).mono hG) (by omega) hrq (RQ.mono hy hG) (Nat.le_trans hth (by omega))) (fun _ _ _ h k => (by obtain ⟨u, w, e, hu, hw⟩ := h; exact ⟨u, w, e, hu.mono k, hw.mono k⟩)) ?_; rotate_left
   refine' DJ.copy (10) (by first | exact .inl rfl | exact .inr rfl) rfl rfl rfl id rfl (by kernel_rfl) ?_; rotate_left
   refine' DJ.extract (10) rfl rfl rfl rfl rfl (by kernel_rfl) (fun G hd => (by obtain ⟨u, w, e, _⟩ := hd.head (by kernel_rfl); exact ⟨_, e, Nat.zero_lt_succ _⟩)) ?_; rotate_left
   refine' DJ.extract (10) rfl rfl rfl rfl rfl (by kernel_rfl) (fun G hd => (by obtain ⟨u, w, e, _⟩ := hd.head (by kernel_rfl); exact ⟨_, e, Nat.lt_succ_self _⟩)) ?_; rotate_left
   refine' DJ.copy (10) (.inr rfl) rfl rfl rfl (tupAt 0) rfl (by kernel_rfl) ?_; rotate_left
   (refine DJ.nil (fun G hG hF => ?_); (case hS => rfl); (case hS2 => rfl))
   obtain ⟨⟨u, w, e, hu, hw⟩, _⟩ := hF
   rw [e]
   obtain ⟨ua, uc, rfl⟩ := SlC.val hu
   obtain ⟨wa', wc', rfl⟩ := SlC.val hw
   rw [show tupAt 0 (Value.tuple #[.slice ua (lowL X c t (exL rs X.length)).length uc, .slice wa' (highL X c t (exL rs X.length)).length wc']) = .slice ua (lowL X c t (exL rs X.length)).length uc from rfl, show tupAt 1 (Value.tuple #[.slice ua (lowL X c t (exL rs X.length)).length uc, .slice wa' (highL X c t (exL rs X.length)).length wc']) = .slice wa' (highL X c t (exL rs X.length)).length wc' from rfl]
   try refine RUN ?_
   rw [show (if least > 1 then least else 1) = max 1 least by omega]
   have hlo3 : (lowL X c t (exL rs X.length)).length ≤ 300 := Nat.le_trans (List.length_filter_le _ _) (by omega)
   have hhi3 : (highL X c t (exL rs X.length)).length ≤ 300 := Nat.le_trans (List.length_filter_le _ _) (by omega)
   have hlom : ∀ r, r ∈ lowL X c t (exL rs X.length) → 0 ≤ r ∧ r < (X.length : Int) := fun r hr => heb r (List.mem_filter.mp hr).1
   have hhim : ∀ r, r ∈ highL X c t (exL rs X.length) → 0 ≤ r ∧ r < (X.length : Int) := fun r hr => heb r (List.mem_filter.mp hr).1
   have hxl : exL (lowL X c t (exL rs X.length)) X.length = lowL X c t (exL rs X.length) := exL_all hlom
   have hxh : exL (highL X c t (exL rs X.length)) X.length = highL X c t (exL rs X.length) := exL_all hhim
   generalize hlodef : lowL X c t (exL rs X.length) = lo at *
   generalize hhidef : highL X c t (exL rs X.length) = hi' at *
   generalize hLdef : max 1 least = L at *
   by_cases hclo : (lo.length : Int) < L
   ·rw [decide_eq_true hclo]
    rw [if_neg (by omega), List.append_nil] at hsn2
    try refine RUN ?_
    refine ⟨(j + 1, cs2), ⟨by dsimp only; rw [hsn2]; rfl, by dsimp only; rw [wn]; rfl, trivial⟩, (by repeat (first | exact trivial | refine And.intro rfl ?_)), ⟨rfl, trivial⟩, (by repeat (first | exact trivial | refine And.intro rfl ?_)), rfl, ⟨hlj, by rw [hsn2]; exact hcs2.mono hG⟩, hG, by dsimp only; omega⟩
   rw [decide_eq_false hclo]
   try refine RUN ?_
   rw [show (if least > 1 then least else 1) = L by omega]
   by_cases hchi : (hi'.length : Int) < L
   ·rw [decide_eq_true hchi]
    rw [if_neg (by omega), List.append_nil] at hsn2
    try refine RUN ?_
    refine ⟨(j + 1, cs2), ⟨by dsimp only; rw [hsn2]; rfl, by dsimp only; rw [wn]; rfl, trivial⟩, (by repeat (first | exact trivial | refine And.intro rfl ?_)), ⟨rfl, trivial⟩, (by repeat (first | exact trivial | refine And.intro rfl ?_)), rfl, ⟨hlj, by rw [hsn2]; exact hcs2.mono hG⟩, hG, by dsimp only; omega⟩
   rw [decide_eq_false hchi]
   rw [if_pos ⟨by omega, by omega⟩] at hsn2
   have hH5 := hH4.trans hG
   have hc5 := hc.mono hH5
   have hs5 := hs.mono hG
   have hy5 := RQ.mono hy hG
   have hal5 := RQ.mono hall (hG2.trans (hG3.trans (hG4.trans hG)))
   have hslo := hsmall lo hlo3 hlom
   have hshi := hsmall hi' hhi3 hhim
   have hclo5 : ∀ G', G.Le G' → PC prog 37 #[goalV kd cl (.slice la ln lc) (.slice va vn vc), .slice ua lo.length uc] G' fun r H' => RQ H' r (cost lo) := fun G' k => by have := hcost G' (hH5.trans k) _ _ (hu.mono k) hlo3; rwa [hxl] at this
   have hchi5 : ∀ G', G.Le G' → PC prog 37 #[goalV kd cl (.slice la ln lc) (.slice va vn vc), .slice wa' hi'.length wc'] G' fun r H' => RQ H' r (cost hi') := fun G' k => by have := hcost G' (hH5.trans k) _ _ (hw.mono k) hhi3; rwa [hxh] at this
   have hsum : rq (cost lo + cost hi') := by have := ht_add (cost lo) (cost hi'); unfold rq; omega
   have hgr : rq (cost (exL rs X.length) - (cost lo + cost hi')) := by have h1 := ht_add (cost lo) (cost hi'); have h2 := ht_sub (cost (exL rs X.length)) (cost lo + cost hi'); unfold rq; omega
   try refine RUN ?_
   apply EV.drawn 19 (by kernel_rfl) (by kernel_rfl); intro xv yw
   (repeat (first | refine' DV ?_ | refine' DA ?_ | refine' DK0 ?_ | refine' DT ?_ | refine' DS ?_))
   refine' DJ.ofVal (ValOk.idx1 tO rfl rfl rfl rfl rfl rfl rfl rfl (hc5) (i) (rfl) (hlt) ((by rw [List.getElem?_map, hci]; rfl))) rfl rfl rfl ?_; rotate_left
   (repeat (first | refine' DV ?_ | refine' DA ?_ | refine' DK0 ?_ | refine' DT ?_ | refine' DS ?_))
   refine' DJ.idxM tO rfl rfl rfl rfl rfl rfl rfl rfl rfl (hs5) (j) (rfl) (hlj) (hcy) ?_; rotate_left
   (repeat (first | refine' DV ?_ | refine' DA ?_ | refine' DK0 ?_ | refine' DT ?_ | refine' DS ?_))
   refine' DJ.call rfl rfl rfl rfl rfl (cO func37) (fun G hG hd => hclo5 G hG) (fun _ _ _ h k => RQ.mono h k) ?_; rotate_left
   (repeat (first | refine' DV ?_ | refine' DA ?_ | refine' DK0 ?_ | refine' DT ?_ | refine' DS ?_))
   refine' DJ.call rfl rfl rfl rfl rfl (cO func37) (fun G hG hd => hchi5 G hG) (fun _ _ _ h k => RQ.mono h k) ?_; rotate_left
   (repeat (first | refine' DV ?_ | refine' DA ?_ | refine' DK0 ?_ | refine' DT ?_ | refine' DS ?_))
   refine' DJ.call rfl rfl rfl rfl rfl (cO func90) (fun G hG hd => refAdd_pc (hd.tail.head (by kernel_rfl)) (hd.head (by kernel_rfl)) (by unfold rq; omega) (by unfold rq; omega)) (fun _ _ _ h k => RQ.mono h k) ?_; rotate_left
   (repeat (first | refine' DV ?_ | refine' DA ?_ | refine' DK0 ?_ | refine' DT ?_ | refine' DS ?_))
   refine' DJ.call rfl rfl rfl rfl rfl (cO func83) (fun G hG hd => refSub_pc (hal5.mono hG) (hd.head (by kernel_rfl)) (by unfold rq; omega) hsum) (fun _ _ _ h k => RQ.mono h k) ?_; rotate_left
   refine' DJ.fnP tO (16) (fun v => Value.agg (Value.int IntKind.i64 c :: (([Value.bool (decide (t.num < 0)), Value.slice ya yl yc, Value.slice yb ym yd] : List Value) ++ vlist v)).toArray) rfl rfl rfl (by kernel_rfl) (fun G hd => (by obtain ⟨sa, sl, sc, ta, tl, tc, e, _⟩ := (show RQ G (xv 16) (cost (exL rs X.length) - (cost lo + cost hi')) from hd.head (by kernel_rfl)); rw [show xv (0 + 1 + 1 + 1 + 1 + 1 + 1 + 1 + 1 + 1 + 1 + 1 + 1 + 1 + 1 + 1 + 1) = xv 16 from rfl, e]; rfl)) ?_
   rotate_left
   (repeat (first | refine' DV ?_ | refine' DA ?_ | refine' DK0 ?_ | refine' DT ?_ | refine' DS ?_))
   (refine DJ.nil (fun G7 hG7 hF7 => ?_); (case hS => rfl); (case hS2 => rfl))
   obtain ⟨h16, _⟩ := hF7
   have hg16 : RQ G7 (xv 16) (cost (exL rs X.length) - (cost lo + cost hi')) := h16
   obtain ⟨sa, sl, sc, ta, tl, tc, e16, _⟩ := id hg16
   have e16' : xv (0 + 1 + 1 + 1 + 1 + 1 + 1 + 1 + 1 + 1 + 1 + 1 + 1 + 1 + 1 + 1 + 1) = _ := e16
   rw [e16']
   rw [e16] at hg16
   rw [show (Value.agg (Value.int .i64 c :: (([Value.bool (decide (t.num < 0)), Value.slice ya yl yc, Value.slice yb ym yd] : List Value) ++ vlist (.agg #[.bool (decide ((cost (exL rs X.length) - (cost lo + cost hi')).num < 0)), .slice sa sl sc, .slice ta tl tc]))).toArray) = .agg #[.int .i64 c, .bool (decide (t.num < 0)), .slice ya yl yc, .slice yb ym yd, .bool (decide ((cost (exL rs X.length) - (cost lo + cost hi')).num < 0)), .slice sa sl sc, .slice ta tl tc] from rfl]
   try refine RUN ?_
   have hst : CutS G7 (List.foldl refS none (allCuts X cost (exL rs X.length) L (cols.take i) ++ cutsOf X cost (exL rs X.length) L c (P.take j))) cs2 := hcs2.mono (hG.trans hG7)
   have hnew : List.foldl refS none (allCuts X cost (exL rs X.length) L (cols.take i) ++ cutsOf X cost (exL rs X.length) L c (P.take (j + 1))) = refS (List.foldl refS none (allCuts X cost (exL rs X.length) L (cols.take i) ++ cutsOf X cost (exL rs X.length) L c (P.take j))) (c, t, cost (exL rs X.length) - (cost lo + cost hi')) := by rw [hsn2, ← List.append_assoc, List.foldl_append]; rfl
   have hstp : ∀ p, List.foldl refS none (allCuts X cost (exL rs X.length) L (cols.take i) ++ cutsOf X cost (exL rs X.length) L c (P.take j)) = some p → ht p.2.1 ≤ 100 ∧ ht p.2.2 ≤ 8000000 := fun p e => by
    have hf := first_fold (allCuts X cost (exL rs X.length) L (cols.take i) ++ cutsOf X cost (exL rs X.length) L c (P.take j))
    rw [e] at hf
    rcases List.mem_append.1 hf.1 with hm | hm
    ·exact all_small hsmall (by omega) heb hq hm
    ·exact cuts_small hsmall (by omega) heb (fun t hm => hplh t (List.mem_of_mem_take hm)) hm
   generalize List.foldl refS none (allCuts X cost (exL rs X.length) L (cols.take i) ++ cutsOf X cost (exL rs X.length) L c (P.take j)) = st at *
   cases st with
   | none =>
    have hcs' : cs2 = rcut0 := hst
    subst hcs'
    apply EV.drawn 4 (by kernel_rfl) (by kernel_rfl); intro xv yw
    (repeat (first | refine' DV ?_ | refine' DA ?_ | refine' DK0 ?_ | refine' DT ?_ | refine' DS ?_))
    refine' DJ.call rfl rfl rfl rfl rfl (cO func93) (fun G hG hd => gain0_none) (fun _ _ _ h k => RQ.mono h k) ?_; rotate_left
    (repeat (first | refine' DV ?_ | refine' DA ?_ | refine' DK0 ?_ | refine' DT ?_ | refine' DS ?_))
    (refine DJ.nil (fun G8 hG8 hF8 => ?_); (case hS => rfl); (case hS2 => rfl))
    obtain ⟨h3, _⟩ := hF8
    try refine RUN ?_
    refine EVL.call rfl rfl rfl rfl rfl (refCmp_pc (RQ.mono hg16 hG8) h3 hgr (by unfold rq; rw [ht_zero]; decide)) ?_
    rintro _ G9 rfl hG9
    try refine RUN ?_
    refine ⟨(j + 1, [.int .i64 c, .bool (decide (t.num < 0)), .slice ya yl yc, .slice yb ym yd, .bool (decide ((cost (exL rs X.length) - (cost lo + cost hi')).num < 0)), .slice sa sl sc, .slice ta tl tc]), ⟨by dsimp only; rw [hnew]; rfl, by dsimp only; rw [wn]; rfl, trivial⟩, (by repeat (first | exact trivial | refine And.intro rfl ?_)), ⟨rfl, trivial⟩, (by repeat (first | exact trivial | refine And.intro rfl ?_)), rfl, ⟨hlj, by rw [hnew]; exact ⟨_, _, RQ.mono hy5 (hG7.trans (hG8.trans hG9)), RQ.mono hg16 (hG8.trans hG9), rfl⟩⟩, hG.trans (hG7.trans (hG8.trans hG9)), by dsimp only; omega⟩
   | some p =>
    obtain ⟨c1, t1, g1⟩ := p
    obtain ⟨hts, hgs⟩ := hstp _ rfl
    dsimp only at hts hgs
    obtain ⟨x1, y1, hx1', hy1', rfl⟩ := hst
    obtain ⟨pa1, pl1, pc1, pb1, pm1, pd1, rfl, hp1, hp2⟩ := id hx1'
    obtain ⟨qa1, ql1, qc1, qb1, qm1, qd1, rfl, hp3, hp4⟩ := id hy1'
    apply EV.drawn 4 (by kernel_rfl) (by kernel_rfl); intro xv yw
    (repeat (first | refine' DV ?_ | refine' DA ?_ | refine' DK0 ?_ | refine' DT ?_ | refine' DS ?_))
    refine' DJ.call rfl rfl rfl rfl rfl (cO func93) (fun G hG hd => gain0_some (hy1'.mono hG)) (fun _ _ _ h k => RQ.mono h k) ?_; rotate_left
    (repeat (first | refine' DV ?_ | refine' DA ?_ | refine' DK0 ?_ | refine' DT ?_ | refine' DS ?_))
    (refine DJ.nil (fun G8 hG8 hF8 => ?_); (case hS => rfl); (case hS2 => rfl))
    obtain ⟨h3, _⟩ := hF8
    try refine RUN ?_
    refine EVL.call rfl rfl rfl rfl rfl (refCmp_pc (RQ.mono hg16 hG8) h3 hgr (by unfold rq; omega)) ?_
    rintro _ G9 rfl hG9
    have hpx := RQ.mono hx1' (hG8.trans hG9)
    have hpt := RQ.mono hy5 (hG7.trans (hG8.trans hG9))
    generalize hgdef : cost (exL rs X.length) - (cost lo + cost hi') = g at *
    have hT : preC (c, t, g) (c1, t1, g1) → refS (some (c1, t1, g1)) (c, t, g) = some (c, t, g) := fun k => if_pos k
    have hK : ¬ preC (c, t, g) (c1, t1, g1) → refS (some (c1, t1, g1)) (c, t, g) = some (c1, t1, g1) := fun k => if_neg k
    try refine RUN ?_
    by_cases hgt : g1 < g
    ·rw [decide_eq_true ((ordR_gt0 g g1).2 hgt)]
     rw [hT (.inl hgt)] at hnew
     try refine RUN ?_
     refine ⟨(j + 1, [.int .i64 c, .bool (decide (t.num < 0)), .slice ya yl yc, .slice yb ym yd, .bool (decide (g.num < 0)), .slice sa sl sc, .slice ta tl tc]), ⟨by dsimp only; rw [hnew]; rfl, by dsimp only; rw [wn]; rfl, trivial⟩, (by repeat (first | exact trivial | refine And.intro rfl ?_)), ⟨rfl, trivial⟩, (by repeat (first | exact trivial | refine And.intro rfl ?_)), rfl, ⟨hlj, by rw [hnew]; exact ⟨_, _, hpt.mono (Hp.Le.refl _), (RQ.mono hg16 (hG8.trans hG9)).mono (Hp.Le.refl _), rfl⟩⟩, (hG.trans (hG7.trans (hG8.trans hG9))).trans (Hp.Le.refl _), by dsimp only; omega⟩
    rw [decide_eq_false (fun k => hgt ((ordR_gt0 g g1).1 k))]
    try refine RUN ?_
    rw [ordR_eq0]
    by_cases heq : g = g1
    ·rw [decide_eq_true heq]
     try refine RUN ?_
     by_cases hc1 : c < c1
     ·rw [decide_eq_true hc1]
      rw [hT (.inr ⟨heq, .inl hc1⟩)] at hnew
      try refine RUN ?_
      refine ⟨(j + 1, [.int .i64 c, .bool (decide (t.num < 0)), .slice ya yl yc, .slice yb ym yd, .bool (decide (g.num < 0)), .slice sa sl sc, .slice ta tl tc]), ⟨by dsimp only; rw [hnew]; rfl, by dsimp only; rw [wn]; rfl, trivial⟩, (by repeat (first | exact trivial | refine And.intro rfl ?_)), ⟨rfl, trivial⟩, (by repeat (first | exact trivial | refine And.intro rfl ?_)), rfl, ⟨hlj, by rw [hnew]; exact ⟨_, _, hpt.mono (Hp.Le.refl _), (RQ.mono hg16 (hG8.trans hG9)).mono (Hp.Le.refl _), rfl⟩⟩, (hG.trans (hG7.trans (hG8.trans hG9))).trans (Hp.Le.refl _), by dsimp only; omega⟩
     rw [decide_eq_false hc1]
     try refine RUN ?_
     by_cases hc2 : c = c1
     ·rw [show (c == c1) = true from beq_iff_eq.2 hc2]
      try refine RUN ?_
      refine EVL.call rfl rfl rfl rfl rfl (refCmp_pc hpt hpx (by unfold rq; omega) (by unfold rq; omega)) ?_
      rintro _ G10 rfl hG10
      try refine RUN ?_
      by_cases htt : t < t1
      ·rw [decide_eq_true ((ordR_lt0 t t1).2 htt)]
       rw [hT (.inr ⟨heq, .inr ⟨hc2, htt⟩⟩)] at hnew
       try refine RUN ?_
       refine ⟨(j + 1, [.int .i64 c, .bool (decide (t.num < 0)), .slice ya yl yc, .slice yb ym yd, .bool (decide (g.num < 0)), .slice sa sl sc, .slice ta tl tc]), ⟨by dsimp only; rw [hnew]; rfl, by dsimp only; rw [wn]; rfl, trivial⟩, (by repeat (first | exact trivial | refine And.intro rfl ?_)), ⟨rfl, trivial⟩, (by repeat (first | exact trivial | refine And.intro rfl ?_)), rfl, ⟨hlj, by rw [hnew]; exact ⟨_, _, hpt.mono hG10, (RQ.mono hg16 (hG8.trans hG9)).mono hG10, rfl⟩⟩, (hG.trans (hG7.trans (hG8.trans hG9))).trans hG10, by dsimp only; omega⟩
      rw [decide_eq_false (fun k => htt ((ordR_lt0 t t1).1 k))]
      rw [hK (fun k => by rcases k with k | ⟨_, k | ⟨_, k⟩⟩ <;> contradiction)] at hnew
      try refine RUN ?_
      refine ⟨(j + 1, [.int .i64 c1, .bool (decide (t1.num < 0)), .slice pa1 pl1 pc1, .slice pb1 pm1 pd1, .bool (decide (g1.num < 0)), .slice qa1 ql1 qc1, .slice qb1 qm1 qd1]), ⟨by dsimp only; rw [hnew]; rfl, by dsimp only; rw [wn]; rfl, trivial⟩, (by repeat (first | exact trivial | refine And.intro rfl ?_)), ⟨rfl, trivial⟩, (by repeat (first | exact trivial | refine And.intro rfl ?_)), rfl, ⟨hlj, by rw [hnew]; exact ⟨_, _, hpx.mono hG10, (RQ.mono hy1' (hG8.trans hG9)).mono hG10, rfl⟩⟩, (hG.trans (hG7.trans (hG8.trans hG9))).trans hG10, by dsimp only; omega⟩
     rw [show (c == c1) = false from beq_eq_false_iff_ne.2 hc2]
     rw [hK (fun k => by rcases k with k | ⟨_, k | ⟨k, _⟩⟩ <;> contradiction)] at hnew
     try refine RUN ?_
     refine ⟨(j + 1, [.int .i64 c1, .bool (decide (t1.num < 0)), .slice pa1 pl1 pc1, .slice pb1 pm1 pd1, .bool (decide (g1.num < 0)), .slice qa1 ql1 qc1, .slice qb1 qm1 qd1]), ⟨by dsimp only; rw [hnew]; rfl, by dsimp only; rw [wn]; rfl, trivial⟩, (by repeat (first | exact trivial | refine And.intro rfl ?_)), ⟨rfl, trivial⟩, (by repeat (first | exact trivial | refine And.intro rfl ?_)), rfl, ⟨hlj, by rw [hnew]; exact ⟨_, _, hpx.mono (Hp.Le.refl _), (RQ.mono hy1' (hG8.trans hG9)).mono (Hp.Le.refl _), rfl⟩⟩, (hG.trans (hG7.trans (hG8.trans hG9))).trans (Hp.Le.refl _), by dsimp only; omega⟩
    rw [decide_eq_false heq]
    rw [hK (fun k => by rcases k with k | ⟨k, _⟩ <;> contradiction)] at hnew
    try refine RUN ?_
    refine ⟨(j + 1, [.int .i64 c1, .bool (decide (t1.num < 0)), .slice pa1 pl1 pc1, .slice pb1 pm1 pd1, .bool (decide (g1.num < 0)), .slice qa1 ql1 qc1, .slice qb1 qm1 qd1]), ⟨by dsimp only; rw [hnew]; rfl, by dsimp only; rw [wn]; rfl, trivial⟩, (by repeat (first | exact trivial | refine And.intro rfl ?_)), ⟨rfl, trivial⟩, (by repeat (first | exact trivial | refine And.intro rfl ?_)), rfl, ⟨hlj, by rw [hnew]; exact ⟨_, _, hpx.mono (Hp.Le.refl _), (RQ.mono hy1' (hG8.trans hG9)).mono (Hp.Le.refl _), rfl⟩⟩, (hG.trans (hG7.trans (hG8.trans hG9))).trans (Hp.Le.refl _), by dsimp only; omega⟩
  ·simp only [nN] at hlj
   obtain rfl : j = P.length := by omega
   rw [List.take_length, ← hsn] at hcs2 ⊢
   try refine RUN ?_
   refine ⟨(i + 1, cs2), ⟨rfl, by rw [wi_inc i (by omega)]; rfl, trivial⟩, (by repeat (first | exact trivial | refine And.intro rfl ?_)), ⟨rfl, trivial⟩, (by repeat (first | exact trivial | refine And.intro rfl ?_)), rfl, ⟨hlt, hcs2⟩, hG3.trans hG4, by dsimp only; omega⟩
 ·simp only [nN] at hlt
  obtain rfl : i = cols.length := by omega
  rw [List.take_length] at hcs ⊢
  generalize (allCuts X cost (exL rs X.length) (max 1 least) cols).foldl refS none = st at *
  cases st with
  | none =>
   have hcs' : cs = rcut0 := hcs
   subst hcs'
   try refine RUN ?_
   exact ⟨rcut0, rfl, rfl⟩
  | some p =>
   obtain ⟨c, t, g⟩ := p
   obtain ⟨x, y, h1, h2, rfl⟩ := hcs
   obtain ⟨xa, xl, xc, ya, yl, yc, rfl, hx1, hx2⟩ := id h1
   obtain ⟨xa', xl', xc', ya', yl', yc', rfl, hx3, hx4⟩ := id h2
   try refine RUN ?_
   exact ⟨_, ⟨_, _, h1, h2, rfl⟩, rfl⟩
def colZ (W : Nat) (z : Int) : Int := z % ((W : Int) + 2) - 1
theorem max_one (a : Int) : max a 1 = max 1 a := by omega
theorem tells_best {X : List (List Rat)} {wo cost : List Int → Rat} {es cols : List Int} {L : Int} {r : Value} (hp : POk wo cost) (h : BestR X wo es cols L r) :
  ((allCuts X cost es (max 1 L) cols).foldl refS none = none ∧ r = .tuple #[.agg (cutC none).toArray, .bool false]) ∨ ∃ c a g, (allCuts X cost es (max 1 L) cols).foldl refS none = some (c, a, g) ∧ r = .tuple #[cutV c a g, .bool true] := by
 obtain ⟨ps, hcol, hps, hb⟩ := h
 rw [max_one] at hps
 have hk := best_is_ref (L := max 1 L) hp hcol hps
 rcases hb with ⟨hb, rfl⟩ | ⟨c, a, w, hb, rfl⟩
 ·rw [hb] at hk
  exact .inl ⟨hk.symm, rfl⟩
 ·rw [hb] at hk
  exact .inr ⟨c, a, w - wo es, hk.symm, rfl⟩
set_option maxHeartbeats 64000000 in
theorem tells_pc {H : Hp} {v v2 v3 v4 : Value} {l l2 l3 l4 : List Int} (h : IL H v l) (hb : ∀ z, z ∈ l → -9223372036854775808 ≤ z ∧ z < 9223372036854775808) (h2 : IL H v2 l2) (hb2 : ∀ z, z ∈ l2 → -9223372036854775808 ≤ z ∧ z < 9223372036854775808) (h3 : IL H v3 l3) (hb3 : ∀ z, z ∈ l3 → -9223372036854775808 ≤ z ∧ z < 9223372036854775808) (h4 : IL H v4 l4) (hb4 : ∀ z, z ∈ l4 → -9223372036854775808 ≤ z ∧ z < 9223372036854775808) (kd0 n0 w0 L0 a0 : Int) (hn0 : -9223372036854775808 ≤ n0 ∧ n0 < 9223372036854775808) (hw0 : -9223372036854775808 ≤ w0 ∧ w0 < 9223372036854775808) (hL0 : -9223372036854775808 ≤ L0 ∧ L0 < 9223372036854775808) (ha0 : -9223372036854775808 ≤ a0 ∧ a0 < 9223372036854775808) (hkn : PV prog 13 #[] (.bool true)) :
  PC prog 6 #[.int .i64 kd0, v, v2, v3, v4, .int .i64 n0, .int .i64 w0, .int .i64 L0, .int .i64 a0] H fun r _ => r = .bool true := by
 obtain ⟨a, cap, rfl⟩ := SlC.val h
 obtain ⟨a2, cap2, rfl⟩ := SlC.val h2
 obtain ⟨a3, cap3, rfl⟩ := SlC.val h3
 obtain ⟨a4, cap4, rfl⟩ := SlC.val h4
 have hpk := pick_pv n0 9 hn0 (by omega) (by omega)
 have hpk2 := pick_pv w0 3 hw0 (by omega) (by omega)
 have hpk3 := pick_pv L0 5 hL0 (by omega) (by omega)
 obtain ⟨N, hN⟩ : ∃ N : Nat, 1 + n0 % 9 = (N : Int) := ⟨(1 + n0 % 9).toNat, by omega⟩
 obtain ⟨W, hW⟩ : ∃ N : Nat, 1 + w0 % 3 = (N : Int) := ⟨(1 + w0 % 3).toNat, by omega⟩
 obtain ⟨L, hL⟩ : ∃ L : Int, L0 % 5 - 1 = L := ⟨_, rfl⟩
 have hN1 : 1 ≤ N := by omega
 have hN2 : N ≤ 9 := by omega
 have hW1 : 1 ≤ W := by omega
 have hW2 : W ≤ 3 := by omega
 have hpk4 := pick_pv a0 ((W : Int) + 2) ha0 (by omega) (by omega)
 have hq := handQ_pv a0 ha0
 have hqt := ht_rNum a0
 have hr0 := fun (G : Hp) => r_pc (H := G) a0 ha0
 have hgoal := goal_pc h hb kd0 N (by omega)
 have hrows := fun (G : Hp) (hG : H.Le G) => rows_pc (h2.mono hG) hb2 N W (by omega) (by omega)
 have hsome := fun (G : Hp) (hG : H.Le G) => some17_pc (h3.mono hG) hb3 N hN1 (by omega)
 have hsl := someL_mem (n := N) (l := l3) hN1
 have hq5 := rowQ_ht (l := l) N
 have hql := rowQ_len l N
 have hXl := rowsQ_len l2 N W
 have hXb : ∀ x, x ∈ rowsQ l2 N W → ∀ q, q ∈ x → ht q ≤ 5 := fun x hx => (rowsQ_ht x hx).2
 have hXr : ∀ x, x ∈ rowsQ l2 N W → x.length ≤ 1000000 ∧ ∀ q, q ∈ x → rq q := fun x hx => ⟨by rw [(rowsQ_ht x hx).1]; omega, fun q hq => rq_small (hXb x hx q hq) (by omega)⟩
 have hX100 : ∀ x, x ∈ rowsQ l2 N W → ∀ q, q ∈ x → ht q ≤ 100 := fun x hx q hq => Nat.le_trans (hXb x hx q hq) (by omega)
 have hXs : ∀ x, x ∈ rowsQ l2 N W → ∀ q, q ∈ x → sm q := fun x hx q hq => sm_of (hXb x hx q hq) (by omega)
 have hXq : ∀ x, x ∈ rowsQ l2 N W → ∀ q, q ∈ x → rq q := fun x hx => (hXr x hx).2
 generalize rowQ l N = qs at *
 generalize rowsQ l2 N W = X at *
 generalize (l3.take 20).map (someZ N) = R at *
 generalize rNum a0 = t at *
 subst hXl
 obtain ⟨k, hk⟩ : ∃ k : Int, a0 % ((W : Int) + 2) - 1 = k := ⟨_, rfl⟩
 refine BD func6 ntmps6 ?_
 repeat (first | refine RUN ?_ | refine CV (hpk) ?_ | refine CE (hpk) ?_)
 rw [show IntKind.i64.wrap (1 + n0 % 9) = (X.length : Int) by rw [IntKind.wrap_i64]; omega]
 repeat (first | refine RUN ?_ | refine CV (hpk2) ?_ | refine CE (hpk2) ?_)
 rw [show IntKind.i64.wrap (1 + w0 % 3) = (W : Int) by rw [IntKind.wrap_i64]; omega]
 try refine RUN ?_
 refine EVL.call rfl rfl rfl rfl rfl (hgoal) ?_
 intro r1 G1 hr hG1
 obtain ⟨kd, cl, ga, gn, gc, gb, gm, gd, rfl, hin⟩ := inGoal_both hr hql (by omega) (by omega) hq5
 clear hr
 try refine RUN ?_
 refine EVL.call rfl rfl rfl rfl rfl (hrows _ hG1) ?_
 intro r2 G2 hRL hG2
 obtain ⟨ra, rc, rfl⟩ := hRL.val
 try refine RUN ?_
 refine EVL.call rfl rfl rfl rfl rfl (hin _ hG2) ?_
 rintro r3 G3 ⟨la, ln, lc, va, vn, vc, S, wo, cost, mean, cnt, rfl, hok, hlaw, hB⟩ hG3
 clear hin
 try refine RUN ?_
 have hRL3 := hRL.mono hG3
 refine EVL.call rfl rfl rfl rfl rfl (inRows_pc hRL3 (by omega) hXr) ?_
 intro r4 G4 hX hG4
 obtain ⟨xa, xc, rfl⟩ := hX.val
 try refine RUN ?_
 refine EVL.call rfl rfl rfl rfl rfl (hsome _ (hG1.trans (hG2.trans (hG3.trans hG4)))) ?_
 intro r5 G5 hR hG5
 obtain ⟨pa, pc, rfl⟩ := SlC.val hR
 have hH5 := hG1.trans (hG2.trans (hG3.trans (hG4.trans hG5)))
 have hX5 := hX.mono hG5
 have hRL5 := hRL3.mono (hG4.trans hG5)
 obtain ⟨C, hC⟩ : ∃ C, (l4.take 4).map (colZ W) = C := ⟨_, rfl⟩
 have hCl : C.length ≤ 4 := by rw [← hC, List.length_map, List.length_take]; omega
 (try refine RUNB ?_)
 refine EV.meetK (ι := Value × Ows) [6, 7, 8, 19, 20, 21, 22, 23] [19, 21] (fun q => [(24, .v q.1)]) (fun _ => []) (fun q => q.2) (fun q G => G5.Le G ∧ OwnL 3 1 q.1 C.length (C.map iv) q.2) rfl rfl (fun _ => rfl) ?_ ?_
 ·(try refine RUN ?_)
  refine EV.loopK (ι := Nat × Value × Ows) [4, 6, 7, 8, 19, 20, 21, 22, 23] [19, 21] (fun q => [(24, .v q.2.1), (25, .v (.int .i64 (q.1 : Int)))]) (fun _ => []) (fun q => q.2.2) (fun q _ => q.1 ≤ l4.length ∧ q.1 ≤ 4 ∧ OwnL 3 1 q.2.1 ((l4.take q.1).map (colZ W)).length (((l4.take q.1).map (colZ W)).map iv) q.2.2) (fun q => 4 - q.1) ((0, .slice none 0 0, [])) rfl rfl ⟨rfl, rfl, trivial⟩ trivial rfl (fun _ => rfl) (⟨Nat.zero_le _, Nat.zero_le _, OwnL.nil _ _⟩) ?_
  rintro ⟨i, w, ow⟩ G6 hG6 ⟨hi, hi2, hown⟩
  dsimp only at hi hi2 hown
  have hfin : (i = l4.length ∨ i = 4) → OwnL 3 1 w C.length (C.map iv) ow := by
   intro h1
   have : (l4.take i).map (colZ W) = C := by
    rw [← hC]
    rcases h1 with h1 | h1
    ·rw [List.take_of_length_le (by omega), List.take_of_length_le (by omega)]
    ·subst h1; rfl
   rw [this] at hown
   exact hown
  obtain ⟨wa, wc, rfl⟩ := hown.val
  have hcl : ((l4.take i).map (colZ W)).length ≤ 4 := by rw [List.length_map, List.length_take]; omega
  try refine RUN ?_
  by_cases h1 : (i : Int) < (l4.length : Int)
  ·rw [decide_eq_true h1]
   try refine RUN ?_
   by_cases h2 : (i : Int) < 4
   ·rw [decide_eq_true h2]
    have hil : i < l4.length := by omega
    obtain ⟨z, hz⟩ : ∃ z, l4[i]? = some z := ⟨_, List.getElem?_eq_getElem hil⟩
    have hzb := hb4 z (List.mem_of_getElem? hz)
    have hp1 := pick_pv z ((W : Int) + 2) hzb (by omega) (by omega)
    have wn : IntKind.i64.wrap ((i : Int) + 1) = ((i + 1 : Nat) : Int) := wi_inc i (by omega)
    have hsn : (l4.take (i + 1)).map (colZ W) = (l4.take i).map (colZ W) ++ [z % ((W : Int) + 2) - 1] := by rw [take_snoc hz, List.map_append, List.map_singleton]; rfl
    try refine RUN ?_
    refine EVL.idxR tO rfl rfl rfl rfl rfl rfl rfl rfl rfl rfl ((h4.mono (hH5.trans hG6))) (i) (rfl) (hil) ((by rw [List.getElem?_map, hz]; rfl)) ?_
    try refine RUN ?_
    rw [show IntKind.i64.wrap ((W : Int) + 2) = (W : Int) + 2 by rw [IntKind.wrap_i64]; omega]
    repeat (first | refine RUN ?_ | refine CV (hp1) ?_ | refine CE (hp1) ?_)
    rw [show IntKind.i64.wrap (z % ((W : Int) + 2) - 1) = z % ((W : Int) + 2) - 1 by have := Int.emod_nonneg z (show (W : Int) + 2 ≠ 0 by omega); have := Int.emod_lt_of_pos z (show 0 < (W : Int) + 2 by omega); rw [IntKind.wrap_i64]; omega]
    generalize z % ((W : Int) + 2) - 1 = y at *
    try refine RUN ?_
    refine EVL.app1 tO rfl rfl rfl rfl rfl rfl rfl rfl rfl rfl rfl rfl rfl rfl rfl rfl rfl rfl rfl (fun _ => rfl) (ow) ([]) ((List.append_nil _).symm) (hown) ((by omega)) fun _ => ?_
    intro v' ow' hown'
    try refine RUN ?_
    refine ⟨(i + 1, v', ow'), ⟨rfl, by dsimp only; rw [wn]; rfl, trivial⟩, (by repeat (first | exact trivial | refine And.intro rfl ?_)), trivial, (by repeat (first | exact trivial | refine And.intro rfl ?_)), List.append_nil _, ⟨hil, by dsimp only; omega, by dsimp only; rw [hsn]; exact hown'.il⟩, Hp.Le.refl _, by dsimp only; omega⟩
   ·rw [decide_eq_false h2]
    try refine RUN ?_
    exact ⟨(.slice wa _ wc, ow), ⟨rfl, trivial⟩, (by repeat (first | exact trivial | refine And.intro rfl ?_)), trivial, (by repeat (first | exact trivial | refine And.intro rfl ?_)), rfl, hG6, hfin (.inr (by omega))⟩
  ·rw [decide_eq_false h1]
   try refine RUN ?_
   exact ⟨(.slice wa _ wc, ow), ⟨rfl, trivial⟩, (by repeat (first | exact trivial | refine And.intro rfl ?_)), trivial, (by repeat (first | exact trivial | refine And.intro rfl ?_)), rfl, hG6, hfin (.inl (by omega))⟩
 rintro ⟨w, ow⟩ G6 ⟨hG6, hown⟩
 dsimp only at hown
 obtain ⟨wa, wc, rfl⟩ := hown.val
 (first | refine EVL.publishL [] ow [] ((List.append_nil _).symm) hown fun G7 hG7 hcw0 => ?_ | refine EV.publishL [] ow [] ((List.append_nil _).symm) hown fun G7 hG7 hcw0 => ?_)
 have hcw : IL G7 (.slice wa C.length wc) C := hcw0
 clear hown hcw0
 have hG57 := hG6.trans hG7
 have hG37 := hG4.trans (hG5.trans hG57)
 have hR7 := hR.mono hG57
 have hX7 := hX5.mono hG57
 have hRL7 := hRL5.mono hG57
 have hel := exL_len R X.length
 have hem := exL_mem (rs := R) (n := X.length)
 have hcl := hB.cntlen (exL R X.length)
 have hms := hB.msmall (exL R X.length) (by omega) hem
 have hcs := hB.small (exL R X.length) (by omega) hem
 have hcnt := fun (G : Hp) (hG : G7.Le G) => hB.counts G (hG37.trans hG) _ _ (hR7.mono hG) (by omega)
 have hrcnt := fun (G : Hp) (hG : G7.Le G) => hB.rcounts G (hG37.trans hG) _ _ (hR7.mono hG) (by omega)
 have htop := fun (G : Hp) (hG : G7.Le G) => hB.top G (hG37.trans hG) _ _ (hR7.mono hG) (by omega)
 have hmean := fun (G : Hp) (hG : G7.Le G) => hB.mean G (hG37.trans hG) _ _ (hR7.mono hG) (by omega)
 have hrmean := fun (G : Hp) (hG : G7.Le G) => hB.rmean G (hG37.trans hG) _ _ (hR7.mono hG) (by omega)
 have hcost := fun (G : Hp) (hG : G7.Le G) => hB.cost G (hG37.trans hG) _ _ (hR7.mono hG) (by omega)
 have hrcost := fun (G : Hp) (hG : G7.Le G) => hB.rcost G (hG37.trans hG) _ _ (hR7.mono hG) (by omega)
 try refine RUN ?_
 apply EV.drawn 47 (by kernel_rfl) (by kernel_rfl); intro xv yw
 (repeat (first | refine' DV ?_ | refine' DA ?_ | refine' DK0 ?_ | refine' DT ?_ | (refine' DC (hkn) (h := ?_); rotate_left) | refine' DS ?_))
 refine' DJ.call rfl rfl rfl rfl rfl (cO func31) (fun G hG hd => hcnt G hG) (fun _ _ _ h k => SlN.mono h k) ?_; rotate_left
 (repeat (first | refine' DV ?_ | refine' DA ?_ | refine' DK0 ?_ | refine' DT ?_ | refine' DS ?_))
 refine' DJ.call rfl rfl rfl rfl rfl (cO func32) (fun G hG hd => hrcnt G hG) (fun _ _ _ h k => SlN.mono h k) ?_; rotate_left
 refine' DJ.callS rfl rfl rfl rfl rfl (cO func30) (fun G hG hd => sameInts_pc (hd.tail.head (by kernel_rfl)) (hd.head (by kernel_rfl)) (by omega)) ?_; rotate_left
 (repeat (first | refine' DV ?_ | refine' DA ?_ | refine' DK0 ?_ | refine' DT ?_ | refine' DS ?_))
 refine' DJ.callS rfl rfl rfl rfl rfl (cO func33) (fun G hG hd => htop G hG) ?_; rotate_left
 (repeat (first | refine' DV ?_ | refine' DA ?_ | refine' DK0 ?_ | refine' DT ?_ | refine' DS ?_))
 refine' DJ.call rfl rfl rfl rfl rfl (cO func32) (fun G hG hd => hrcnt G hG) (fun _ _ _ h k => SlN.mono h k) ?_; rotate_left
 refine' DJ.callS rfl rfl rfl rfl rfl (cO func34) (fun G hG hd => refTop_pc (hd.head (by kernel_rfl)) (by omega)) ?_; rotate_left
 refine' DJ.val tO rfl rfl rfl rfl rfl ?_; rotate_left
 rw [show ((topN (cnt (exL R X.length)) (cnt (exL R X.length)).length : Int) != (topN (cnt (exL R X.length)) (cnt (exL R X.length)).length : Int)) = false from bne_self_eq_false _]
 (repeat (first | refine' DV ?_ | refine' DA ?_ | refine' DK0 ?_ | refine' DT ?_ | refine' DS ?_))
 refine' DJ.callS rfl rfl rfl rfl rfl (cO func24) (fun G hG hd => hmean G hG) ?_; rotate_left
 (repeat (first | refine' DV ?_ | refine' DA ?_ | refine' DK0 ?_ | refine' DT ?_ | refine' DS ?_))
 refine' DJ.call rfl rfl rfl rfl rfl (cO func36) (fun G hG hd => hrmean G hG) (fun _ _ _ h k => RQ.mono h k) ?_; rotate_left
 refine' DJ.callS rfl rfl rfl rfl rfl (cO func35) (fun G hG hd => same_self (hd.head (by kernel_rfl)) hms) ?_; rotate_left
 (repeat (first | refine' DV ?_ | refine' DA ?_ | refine' DK0 ?_ | refine' DT ?_ | refine' DS ?_))
 refine' DJ.callS rfl rfl rfl rfl rfl (cO func22) (fun G hG hd => hcost G hG) ?_; rotate_left
 (repeat (first | refine' DV ?_ | refine' DA ?_ | refine' DK0 ?_ | refine' DT ?_ | refine' DS ?_))
 refine' DJ.call rfl rfl rfl rfl rfl (cO func37) (fun G hG hd => hrcost G hG) (fun _ _ _ h k => RQ.mono h k) ?_; rotate_left
 refine' DJ.callS rfl rfl rfl rfl rfl (cO func35) (fun G hG hd => same_self (hd.head (by kernel_rfl)) (by unfold rq; omega)) ?_; rotate_left
 (repeat (first | refine' DV ?_ | refine' DA ?_ | refine' DK0 ?_ | refine' DT ?_ | refine' DS ?_))
 (refine DJ.nil (fun G8 hG8 hF8 => ?_); (case hS => rfl); (case hS2 => rfl))
 try refine RUN ?_
 have hRL8 := hRL7.mono hG8
 have hX8 := hX7.mono hG8
 have hR8 := hR7.mono hG8
 rw [show IntKind.i64.wrap ((W : Int) + 2) = (W : Int) + 2 by rw [IntKind.wrap_i64]; omega]
 repeat (first | refine RUN ?_ | refine CV (hpk4) ?_ | refine CE (hpk4) ?_)
 rw [show IntKind.i64.wrap (a0 % ((W : Int) + 2) - 1) = k by have := Int.emod_nonneg a0 (show (W : Int) + 2 ≠ 0 by omega); have := Int.emod_lt_of_pos a0 (show 0 < (W : Int) + 2 by omega); rw [IntKind.wrap_i64]; omega]
 repeat (first | refine RUN ?_ | refine CV (hq) ?_ | refine CE (hq) ?_)
 refine EVL.call rfl rfl rfl rfl rfl (sides_pc (col := k) (t := t) hX8 hR8 (by omega) hXs (sm_of hqt (by omega))) ?_
 rintro r9 G9 ⟨u9, w9, rfl, hu9, hw9⟩ hG9
 obtain ⟨ua, uc, rfl⟩ := SlC.val hu9
 obtain ⟨wa9, wc9, rfl⟩ := SlC.val hw9
 have hlow : (lowL X k t (exL R X.length)).length ≤ 300 := Nat.le_trans (List.length_filter_le _ _) (by omega)
 have hhigh : (highL X k t (exL R X.length)).length ≤ 300 := Nat.le_trans (List.length_filter_le _ _) (by omega)
 try refine RUN ?_
 refine EVL.call rfl rfl rfl rfl rfl (hr0 _) ?_
 intro r10 G10 hr10 hG10
 try refine RUN ?_
 refine EVL.call rfl rfl rfl rfl rfl (refSides_pc (col := k) (t := t) (hRL8.mono (hG9.trans hG10)) (hR8.mono (hG9.trans hG10)) (by omega) hXq hr10 (rq_small hqt (by omega))) ?_
 rintro r11 G11 ⟨u11, w11, rfl, hu11, hw11⟩ hG11
 obtain ⟨ua1, uc1, rfl⟩ := SlC.val hu11
 obtain ⟨wa1, wc1, rfl⟩ := SlC.val hw11
 try refine RUN ?_
 have hG811 := hG9.trans (hG10.trans hG11)
 refine EVL.call rfl rfl rfl rfl rfl (places_pc (col := k) (hX8.mono hG811) (hR8.mono hG811) (by omega) hX100) ?_
 rintro r12 G12 ⟨m, hsc, hpl⟩ hG12
 rw [plQ_sort hsc] at hpl
 obtain ⟨pa2, pc2, rfl⟩ := SlC.val hpl
 try refine RUN ?_
 refine EVL.call rfl rfl rfl rfl rfl (refPlaces_pc (col := k) (hRL8.mono (hG811.trans hG12)) (hR8.mono (hG811.trans hG12)) (by omega) hXb) ?_
 rintro r13 G13 hpl2 hG13
 have hpll : (plQ X k (exL R X.length)).length ≤ 300 := by have := plQ_len X k (exL R X.length); omega
 have hplb : ∀ q, q ∈ plQ X k (exL R X.length) → rq q := fun q hq' => rq_small (plQ_ht hXb hq') (by omega)
 try refine RUN ?_
 refine EVL.call rfl rfl rfl rfl rfl (sameRow_pc (hpl.mono hG13) hpl2 (by omega) hplb) ?_
 rintro _ G14 rfl hG14
 try refine RUN ?_
 have hG914 := hG12.trans (hG13.trans hG14)
 refine EVL.call rfl rfl rfl rfl rfl (sameInts_pc (hu9.mono (hG10.trans (hG11.trans hG914))) (hu11.mono hG914) (by omega)) ?_
 rintro _ G15 rfl hG15
 try refine RUN ?_
 refine EVL.call rfl rfl rfl rfl rfl (sameInts_pc (hw9.mono (hG10.trans (hG11.trans (hG914.trans hG15)))) (hw11.mono (hG914.trans hG15)) (by omega)) ?_
 rintro _ G16 rfl hG16
 have hG716 := hG8.trans (hG811.trans (hG914.trans (hG15.trans hG16)))
 have hG316 := hG37.trans hG716
 repeat (first | refine RUN ?_ | refine CV (hpk3) ?_ | refine CE (hpk3) ?_)
 rw [show IntKind.i64.wrap (L0 % 5 - 1) = L by rw [IntKind.wrap_i64]; omega]
 try refine RUN ?_
 have hok16 : GOk G16 kd cl (.slice la ln lc) (.slice va vn vc) X.length S wo := hok.mono hG316
 refine EVL.call rfl rfl rfl rfl rfl (best_pc (least := L) hok16 (hX7.mono hG716) (hR7.mono hG716) (by omega) (hcw.mono hG716) (by omega) hX100) ?_
 intro r17 G17 hbest hG17
 have hG717 := hG716.trans hG17
 have hrb := refBest_pc (least := L) (hB.rcheck G17 (hG37.trans hG717)) hB.rlen (fun G hG u l hl hn => hB.rcost G ((hG37.trans hG717).trans hG) u l hl hn) hB.small (hRL7.mono hG717) hXb (hR7.mono hG717) (by omega) (hcw.mono hG717) (by omega)
 have hgb : ∀ p, (allCuts X cost (exL R X.length) (max 1 L) C).foldl refS none = some p → ht p.2.1 ≤ 100 ∧ ht p.2.2 ≤ 8000000 := fun p e => by
  have hf := first_fold (allCuts X cost (exL R X.length) (max 1 L) C)
  rw [e] at hf
  exact all_small hB.small (by omega) hem hXb hf.1
 rcases tells_best hlaw hbest with ⟨ho, rfl⟩ | ⟨c, a, g, ho, rfl⟩
 ·(try refine RUN ?_)
  refine EVL.call rfl rfl rfl rfl rfl (hrb) ?_
  rintro r18 G18 ⟨cs, hcs, hr18⟩ hG18
  rw [ho] at hcs hr18
  have e : cs = rcut0 := hcs
  subst e
  replace hr18 : r18 = .tuple #[.agg rcut0.toArray, .bool false] := hr18
  subst hr18
  have hs0 : PV prog 28 #[fracV 0] (.int .i64 0) := sign_pv 0 (by show bl 0 ≤ _; rw [bl_zero]; omega)
  try refine RUN ?_
  refine EVL.eqb rfl rfl rfl rfl rfl rfl (by kernel_rfl) ?_
  repeat (first | refine RUN ?_ | refine CV (hs0) ?_ | refine CE (hs0) ?_)
  rfl
 ·obtain ⟨hat, hgt⟩ := hgb _ ho
  dsimp only at hat hgt
  try refine RUN ?_
  refine EVL.call rfl rfl rfl rfl rfl (hrb) ?_
  rintro r18 G18 ⟨cs, hcs, hr18⟩ hG18
  rw [ho] at hcs hr18
  obtain ⟨x, y, hx, hy, rfl⟩ := hcs
  obtain ⟨xa', xl, xc', ya, yl, yc, rfl, hx1, hx2⟩ := id hx
  obtain ⟨za, zl, zc, ta, tl, tc, rfl, hy1, hy2⟩ := id hy
  replace hr18 : r18 = .tuple #[.agg #[.int .i64 c, .bool (decide (a.num < 0)), .slice xa' xl xc', .slice ya yl yc, .bool (decide (g.num < 0)), .slice za zl zc, .slice ta tl tc], .bool true] := hr18
  subst hr18
  try refine RUN ?_
  refine EVL.eqb rfl rfl rfl rfl rfl rfl (by kernel_rfl) ?_
  try refine RUN ?_
  rw [show (c == c) = true from beq_self_eq_true c]
  repeat (first | refine RUN ?_ | refine CV (same_self hx (rq_small hat (by omega))) ?_ | refine CE (same_self hx (rq_small hat (by omega))) ?_)
  repeat (first | refine RUN ?_ | refine CV (same_self hy (rq_small hgt (by omega))) ?_ | refine CE (same_self hy (rq_small hgt (by omega))) ?_)
  rfl
def knX : List (List Rat) := [[1], [2], [4]]
theorem kn_rows {m : List Int} (hp : m.Perm [0, 1, 2]) (hr : RisK (colK knX 0) m) : m = [0, 1, 2] := by
 have hk : m.map (colK knX 0) = [0, 1, 2].map (colK knX 0) := rising_one hr (show List.Pairwise (fun a b : Rat => a ≤ b) _ by decide +kernel) (hp.map _)
 have hl := hp.length_eq
 have hm : ∀ x, x ∈ m → x = 0 ∨ x = 1 ∨ x = 2 := fun x hx => by simpa using hp.mem_iff.1 hx
 match m, hl with
 | [a, b, c], _ =>
  have ha := hm a (by simp)
  have hb := hm b (by simp)
  have hc := hm c (by simp)
  have inj : ∀ x : Int, (x = 0 ∨ x = 1 ∨ x = 2) → ∀ y : Int, (y = 0 ∨ y = 1 ∨ y = 2) → colK knX 0 x = colK knX 0 y → x = y := by
   rintro x (rfl | rfl | rfl) y (rfl | rfl | rfl) h <;> first | rfl | (revert h; decide +kernel)
  simp only [List.map_cons, List.map_nil, List.cons.injEq, and_true] at hk
  rw [inj a ha 0 (.inl rfl) hk.1, inj b hb 1 (.inr (.inl rfl)) hk.2.1, inj c hc 2 (.inr (.inr rfl)) hk.2.2]
theorem kn_best {r : Value} (h : BestR knX (woL [0, 0, 1]) [0, 1, 2] [0] 1 r) : r = .tuple #[cutV 0 3 (Rat.divInt 4 3), .bool true] := by
 obtain ⟨ps, hc, hps, hres⟩ := h
 have hone : ps.map (·.1) = [0] := by
  obtain ⟨h1, h2⟩ := hc
  generalize ps.map (·.1) = l at *
  match l with
  | [] => have := (h2 0).2 (by simp); cases this
  | [a] => have := (h2 a).1 (by simp); rw [List.mem_singleton.1 this]
  | a :: b :: l =>
   have e1 := List.mem_singleton.1 ((h2 a).1 (by simp))
   have e2 := List.mem_singleton.1 ((h2 b).1 (by simp))
   have := (List.pairwise_cons.1 h1).1 b (by simp)
   omega
 obtain ⟨c, o, rfl⟩ : ∃ c o, ps = [(c, o)] := by
  match ps, hone with
  | [(c, o)], _ => exact ⟨c, o, rfl⟩
 simp only [List.map_cons, List.map_nil, List.cons.injEq, and_true] at hone
 subst hone
 obtain ⟨m, hs, ho, _⟩ := hps (0, o) (List.mem_singleton.2 rfl)
 rcases hs with ⟨_, hp, hr⟩ | ⟨hno, _⟩
 ·obtain rfl := kn_rows hp hr
  have hv : colN (colK knX 0) (woL [0, 0, 1]) (max 1 1) [0, 1, 2] ([0, 1, 2] : List Int).length.pred = some (3, 3) := by decide +kernel
  have ho' : o = some (3, 3) := ho.trans hv
  subst ho'
  have hb : bestF [((0 : Int), some ((3 : Rat), (3 : Rat)))] = some (0, 3, 3) := rfl
  rw [hb] at hres
  rcases hres with ⟨h, _⟩ | ⟨c, a, w, h, rfl⟩
  ·cases h
  ·cases h
   rw [show (3 : Rat) - woL [0, 0, 1] [0, 1, 2] = Rat.divInt 4 3 by decide +kernel]
 ·exact absurd hno (show ¬ [0, 1, 2].all (hasC knX 0) = false by decide +kernel)
theorem kn_len {G : Hp} {a b c v : Value} {p q r : Rat} (h1 : RL G a [p]) (h2 : RL G b [q]) (h3 : RL G c [r]) (hm : v ∈ [a, b, c]) : (vlist v).length = 1 := by
 obtain ⟨_, _, rfl⟩ := h1.val
 obtain ⟨_, _, rfl⟩ := h2.val
 obtain ⟨_, _, rfl⟩ := h3.val
 rcases List.mem_cons.1 hm with rfl | hm
 ·rfl
 ·rcases List.mem_cons.1 hm with rfl | hm
  ·rfl
  ·rw [List.mem_singleton.1 hm]; rfl
theorem kn_rll {G : Hp} {a b c v : Value} (h1 : RL G a [((1 : Int) : Rat)]) (h2 : RL G b [((2 : Int) : Rat)]) (h3 : RL G c [((4 : Int) : Rat)]) (h : SlC G v 3 1 ([a, b, c].flatMap vlist)) : RLL G v knX := by
 obtain ⟨_, _, rfl⟩ := h1.val
 obtain ⟨_, _, rfl⟩ := h2.val
 obtain ⟨_, _, rfl⟩ := h3.val
 exact ⟨_, (((RRs.nil G).snoc h1).snoc h2).snoc h3, h⟩
theorem kn_hb : ∀ x, x ∈ knX → ∀ q, q ∈ x → ht q ≤ 100 := by decide +kernel
theorem kn_small : ∀ x, x ∈ knX → x.length ≤ 1000000 ∧ ∀ q, q ∈ x → rq q := fun x hx => ⟨by revert x; decide +kernel, fun q hq => Nat.le_trans (kn_hb x hx q hq) (by omega)⟩
set_option maxHeartbeats 4000000 in
theorem known17_pv : PV prog 13 #[] (.bool true) := by
 refine PV.of_pc ?_
 have hof := fun (z : Int) (h1 : -9223372036854775808 ≤ z) (h2 : z < 9223372036854775808) (G : Hp) => refOf_pc (H := G) z h1 h2
 have his1 := fun G : Hp => is_pc (H := G) 3 (show ht 3 ≤ _ by decide +kernel) 3 1 (by decide) (by decide) (by decide) (by decide) (by decide) (by decide +kernel)
 have his2 := fun G : Hp => is_pc (H := G) (Rat.divInt 4 3) (show ht (Rat.divInt 4 3) ≤ _ by decide +kernel) 4 3 (by decide) (by decide) (by decide) (by decide) (by decide) rfl
 refine BD func13 ntmps13 ?_
 try refine RUN ?_
 refine EVL.lit tO rfl rfl rfl rfl rfl rfl rfl rfl rfl rfl rfl fun b => ?_
 (first | refine EVL.publish [] [] rfl fun G1 hG1 hb => ?_ | refine EV.publish [] [] rfl fun G1 hG1 hb => ?_)
 have hv : IL G1 (.slice (some ⟨b, 0, none⟩) 3 3) [0, 0, 1] := ⟨rfl, .inr ⟨b, 0, 3, _, rfl, Nat.le_refl _, hb, fun j x hj => by rw [Nat.zero_add]; simpa using hj⟩⟩
 have hgk := gokL (cl := 2) (va := none) (vc := 0) (by omega) hv (by decide) (by decide) (by decide)
 try refine RUN ?_
 apply EV.drawn 17 (by kernel_rfl) (by kernel_rfl); intro xv yw
 (repeat (first | refine' DV ?_ | refine' DA ?_ | refine' DK0 ?_ | refine' DT ?_ | refine' DS ?_))
 refine' DJ.call rfl rfl rfl rfl rfl (cO func45) (fun G hG hd => hof 1 (by decide) (by decide) G) (fun _ _ _ h k => RQ.mono h k) ?_; rotate_left
 (refine' DJ.litD1 (Φ := fun w G => RL G w [((1 : Int) : Rat)]) (fun _ _ _ h k => h.mono k) tO rfl rfl rfl rfl rfl rfl rfl rfl rfl rfl rfl (fun G hd => RQ.len3 (hd.head (by kernel_rfl))) (fun G G' w hd hG h => RL.one h ((hd.head (by kernel_rfl)).mono hG)) ?_; rotate_left)
 refine' DJ.call rfl rfl rfl rfl rfl (cO func45) (fun G hG hd => hof 2 (by decide) (by decide) G) (fun _ _ _ h k => RQ.mono h k) ?_; rotate_left
 (refine' DJ.litD1 (Φ := fun w G => RL G w [((2 : Int) : Rat)]) (fun _ _ _ h k => h.mono k) tO rfl rfl rfl rfl rfl rfl rfl rfl rfl rfl rfl (fun G hd => RQ.len3 (hd.head (by kernel_rfl))) (fun G G' w hd hG h => RL.one h ((hd.head (by kernel_rfl)).mono hG)) ?_; rotate_left)
 refine' DJ.call rfl rfl rfl rfl rfl (cO func45) (fun G hG hd => hof 4 (by decide) (by decide) G) (fun _ _ _ h k => RQ.mono h k) ?_; rotate_left
 (refine' DJ.litD1 (Φ := fun w G => RL G w [((4 : Int) : Rat)]) (fun _ _ _ h k => h.mono k) tO rfl rfl rfl rfl rfl rfl rfl rfl rfl rfl rfl (fun G hd => RQ.len3 (hd.head (by kernel_rfl))) (fun G G' w hd hG h => RL.one h ((hd.head (by kernel_rfl)).mono hG)) ?_; rotate_left)
 (refine' DJ.litD3 (Φ := fun w G => RLL G w knX) (fun _ _ _ h k => h.mono k) tO rfl rfl rfl rfl rfl rfl rfl rfl rfl rfl rfl rfl rfl (fun G hd w hm => kn_len (hd.tail.tail.tail.tail.head (by kernel_rfl)) (hd.tail.tail.head (by kernel_rfl)) (hd.head (by kernel_rfl)) hm) (fun G G' w hd hG h => kn_rll ((hd.tail.tail.tail.tail.head (by kernel_rfl)).mono hG) ((hd.tail.tail.head (by kernel_rfl)).mono hG) ((hd.head (by kernel_rfl)).mono hG) h) ?_; rotate_left)
 refine' DJ.call rfl rfl rfl rfl rfl (cO func10) (fun G hG hd => inRows_pc (X := knX) (hd.head (by kernel_rfl)) (by decide) kn_small) (fun _ _ _ h k => QLL.mono h k) ?_; rotate_left
 (refine' DJ.lit tO rfl rfl rfl rfl rfl rfl rfl rfl rfl rfl rfl rfl ?_; rotate_left)
 (refine' DJ.lit tO rfl rfl rfl rfl rfl rfl rfl rfl rfl rfl rfl rfl ?_; rotate_left)
 refine' DJ.callS rfl rfl rfl rfl rfl (cO func19) (fun G hG hd => (best_pc (X := knX) (hgk.mono hG) (hd.tail.tail.head (by kernel_rfl)) (show IL G (xv 9) [0, 1, 2] from hd.tail.head (by kernel_rfl)) (by decide) (show IL G (xv 10) [0] from hd.head (by kernel_rfl)) (by decide) kn_hb).mono (fun r H' h _ => kn_best h)) ?_; rotate_left
 (repeat (first | refine' DV ?_ | refine' DA ?_ | refine' DK0 ?_ | refine' DT ?_ | refine' DS ?_))
 (refine DJ.nil (fun G5 hG5 hF5 => ?_); (case hS => rfl); (case hS2 => rfl))
 have hs1 := his1 G5
 have hs2 := his2 G5
 repeat (first | refine RUN ?_ | refine CV (hs1) ?_ | refine CV (hs2) ?_ | refine CE (hs1) ?_ | refine CE (hs2) ?_)
 rfl
end Go.Proofs.YtejljnlfgiifoaaGreatDoor
namespace Go.Proofs.YtejljnlfgiifoaaGreatDoor
open Go.ChangeShapes Go.WideShapes Go.ChangeAt Go.RowKit
def hpOf (W : World) : Hp := fun b => match W.heap[b]? with
 | some (.cells c _ _) => some c
 | _ => none
theorem fits_hpOf (W : World) : Fits (hpOf W) W := fun b c h => by
 unfold hpOf at h
 split at h
 ·rename_i c' T fz hb; cases h; exact ⟨T, fz, hb⟩
 ·cases h
section
variable {H : Type} {enc : TypeId × Value → H} {P : Program} {w : World} {base : Nat} {spare : Nat → Bool} {held : Bool}
theorem ints_open {t e : TypeId} {k : IntKind} {fuel : Nat} {cs : List Value} {x : DataW H × List MemPlace} (ht : P.underlying t = some (.slice e)) (he : P.underlying e = some (.int k)) (hc : P.cellsOf e = 1) (h : DataW.trod enc P w base spare held fuel t cs = some x) :
  ∃ a len cap zs, cs = [.slice a len cap] ∧ SlN (fun z : Int => Value.int k z) (hpOf w) (.slice a len cap) zs ∧ ∀ n ∈ zs, (Lit.int k n).wf = true := by
 rcases open_ints ht he hc h with ⟨rfl, _⟩ | ⟨x, len, cap, zs, rfl, _, hl, hm, hz, _, hcell, hw⟩
 ·exact ⟨none, 0, 0, [], rfl, nil_sl _ _, fun n hn => by cases hn⟩
 ·have hzl : len ≤ zs.length := by rw [hz]; split <;> omega
  refine ⟨some x, len, cap, zs.take len, rfl, ?_, fun n hn => hw n (List.mem_of_mem_take hn)⟩
  have hlen : (zs.take len).length = len := by rw [List.length_take]; omega
  unfold SlN
  rw [hlen]
  refine ⟨by rw [List.length_map, hlen, Nat.mul_one], ?_⟩
  by_cases h0 : len = 0
  ·subst h0; exact .inl ⟨rfl, some x, cap, rfl⟩
  ·right
   have h1 := hcell 0 (by omega)
   obtain ⟨b, off, sp⟩ := x
   have hsp : sp = none := by
    cases sp with
    | none => rfl
    | some s => simp only [World.cell?, Addr.add] at h1; split at h1 <;> simp_all
   subst hsp
   have hb : ∃ c, hpOf w b = some c ∧ ∀ i, i < zs.length → c[off + i]? = some (.int k (zs.getD i 0)) := by
    simp only [Addr.add_mid] at hcell
    unfold World.cell? at hcell
    unfold hpOf
    simp only at hcell
    cases hw' : w.heap[b]? with
    | none => have := hcell 0 (by omega); rw [hw'] at this; cases this
    | some o =>
     cases o with
     | cells c T fz => exact ⟨c, rfl, fun i hi => by have := hcell i hi; rw [hw'] at this; simpa using this⟩
     | _ => have := hcell 0 (by omega); rw [hw'] at this; cases this
   obtain ⟨c, hc1, hc2⟩ := hb
   refine ⟨b, off, cap, c, rfl, hl, hc1, fun j y hj => ?_⟩
   rw [List.getElem?_map, List.getElem?_take] at hj
   split at hj
   ·rename_i hjl
    rw [hc2 j (by omega), ← hj, List.getD_eq_getElem?_getD, List.getElem?_eq_getElem (by omega)]; rfl
   ·cases hj
end
theorem i64_bounds {z : Int} (h : (Lit.int .i64 z).wf = true) : -9223372036854775808 ≤ z ∧ z < 9223372036854775808 := by
 have := bounds_i64 h; omega
end Go.Proofs.YtejljnlfgiifoaaGreatDoor
namespace Go.Proofs.YtejljnlfgiifoaaGreatDoor
open Go Go.RowKit
theorem laidE_find {P : Program} {W : World} {n : String} {d : DataW Unit} : ∀ {l : List (String × DataW Unit)} {ps : List MemPlace}, DataW.LaidVars P W l ps → (n, d) ∈ l →
  ∃ p, DataW.LaidVars P W [(n, d)] p
 | [], _, _, h => by cases h
 | (m, x) :: r, ps, h, hm => by
  obtain ⟨g, t, cs, fuel, p, q, h1, h2, h3, h4, h5, h6⟩ := h
  rcases List.mem_cons.1 hm with hm | hm
  ·cases hm
   exact ⟨_, g, t, cs, fuel, p, [], h1, h2, h3, h4, rfl, rfl⟩
  ·exact laidE_find h5 hm
theorem laid_gH {P : Program} {l : List (String × DataW Unit)} {W : World} (h : laidMet P l W) {n : String} {zs : List Nat} {g : Nat} {T e : TypeId} (hmem : (n, .agg (zs.map fun (z : Nat) => .lit (.int .u8 z))) ∈ l) (hg : P.globalNamed n = some g) (ht : (P.globals[g]?).map (·.type) = some T)
  (hT : P.underlying T = some (.array zs.length e)) (he : P.underlying e = some (.int .u8)) (hc : P.cellsOf e = 1) (hcT : P.cellsOf T = zs.length) :
  ∃ U fz, W.heap[g]? = some (.cells (zs.map fun (z : Nat) => Value.int .u8 (z : Int)).toArray U fz) := by
 obtain ⟨ps, hl, _⟩ := h
 obtain ⟨p0, g', t, cs, fuel, p, q, hg', ht', hv, hd, _, _⟩ := laidE_find hl hmem
 obtain rfl := Option.some.inj (hg.symm.trans hg')
 obtain rfl := Option.some.inj (ht.symm.trans ht')
 obtain ⟨xs, m, _, ex, hcl, hlen, hel⟩ := DataW.trod_array hT hd
 have hb : ∃ U fz, W.heap[g]? = some (.cells cs U fz) := by
  simp only [World.var?, hg, Option.bind_some] at hv
  split at hv
  ·rename_i c U fz hc'; cases hv; exact ⟨U, fz, hc'⟩
  ·cases hv
 obtain ⟨U, fz, hb⟩ := hb
 refine ⟨U, fz, ?_⟩
 rw [hb]
 congr 2
 apply Array.ext'
 rw [hcT] at hcl
 have e3 : (xs.map (·.1)) = zs.map fun (n : Nat) => .lit (.int .u8 n) := (DataW.agg.inj (Prod.mk.inj ex).1).symm
 apply List.ext_getElem?
 intro r
 rcases Nat.lt_or_ge r zs.length with hr | hr
 ·have hE := hel r hr
  rw [hc, Nat.mul_one, List.getElem?_eq_getElem (by omega)] at hE
  obtain ⟨z, e1, e2, _⟩ := DataW.trod_int he hE
  have e4 : (xs.map (·.1))[r]? = (zs.map fun (n : Nat) => (DataW.lit (.int .u8 n) : DataW Unit))[r]? := by rw [e3]
  rw [List.getElem?_map, List.getElem?_map, List.getElem?_eq_getElem (by omega : r < xs.length), List.getElem?_eq_getElem hr, e2] at e4
  simp only [Option.map_some, Option.some.injEq, DataW.lit.injEq, Lit.int.injEq, true_and] at e4
  have h0 : ((cs.toList.drop r).take 1)[0]? = some (.int .u8 z) := by rw [e1]; rfl
  simp only [List.getElem?_take, List.getElem?_drop, Nat.add_zero] at h0
  rw [if_pos (by omega)] at h0
  rw [h0, e4]
  simp [hr]
 ·rw [List.getElem?_eq_none (by omega), List.getElem?_eq_none (by simpa using hr)]
theorem fits_gH {l : List (String × DataW Unit)} {W : World} (h : laidMet Tryz.prog l W) (hmem : ("math/bits.deBruijn64tab", .agg (Lib.deBruijn64tab.map fun (z : Nat) => .lit (.int .u8 z))) ∈ l) : Fits gH W := fun b c hb => by
 unfold gH at hb
 split at hb
 ·rename_i hbb
  cases hb
  obtain rfl := Nat.eq_of_beq_eq_true hbb
  exact laid_gH h hmem (by kernel_rfl) (by kernel_rfl) Tryz.underlying235 Tryz.underlying5 (by kernel_rfl) (by kernel_rfl)
 ·cases hb
end Go.Proofs.YtejljnlfgiifoaaGreatDoor
