/- Texts of ours in one: Gn8, Gn4, Gn5, Gn9, Wd1, Ls7, LsR, Ls8, Gn6, Ev23, Gn10, Gn11, Gn14, Seq, Sorted, DicePlain, Lists, SortPlain, Asc, GnC, Gn12, Gn13, GnQ, GnR, GnS, Wd2, Ha3, Lw8, Lw9, Wd3, Wd4, Ev24, RqL, Wd5. -/
import Derived.Test.YtejljnlfgiifoaaGreatDoorF0
import Derived.Test.YtejljnlfgiifoaaGreatDoorF1
import Derived.Test.YtejljnlfgiifoaaGreatDoorF2
import Derived.Test.YtejljnlfgiifoaaGreatDoorF3
import Derived.Test.YtejljnlfgiifoaaGreatDoorProg
import Derived.RangeFuncBox
import Derived.RangeFuncLeaves
import Derived.Shelf.Abstract
import Derived.OwnWalkIn
import Derived.TacticsInMore
import Derived.LoopNIn
import Derived.LoopIn
import Derived.Maps.AppendAt
import Derived.Test.YtejljnlfgiifoaaGreatDoorRows
import Derived.WalkKit
import Derived.Sort.OwnSortedInts
import Derived.Lib.SlicesCompact
set_option linter.unusedVariables false
set_option linter.unusedSimpArgs false

namespace Go.Proofs.YtejljnlfgiifoaaGreatDoor
open Go.RowKit _root_.Go.Proofs.Tryz
def hasC (X : List (List Rat)) (col r : Int) : Bool := decide (0 ≤ col) && decide (col < ((X.getD r.toNat []).length : Int))
def colK (X : List (List Rat)) (col r : Int) : Rat := (X.getD r.toNat []).getD col.toNat 0
theorem colK_at {X : List (List Rat)} {col r : Int} {R C : Nat} {x : List Rat} {q : Rat} (hr : r = R) (hc : col = C) (hx : X[R]? = some x) (hq : x[C]? = some q) : colK X col r = q := by
 subst hr; subst hc
 unfold colK
 simp [List.getD_eq_getElem?_getD, hx, hq]
theorem hasC_at {X : List (List Rat)} {col r : Int} (hr0 : 0 ≤ r) (hr : r < (X.length : Int)) (h : hasC X col r = true) : ∃ (R C : Nat) (x : List Rat) (q : Rat), r = R ∧ col = C ∧ X[R]? = some x ∧ x[C]? = some q := by
 unfold hasC at h
 simp only [Bool.and_eq_true, decide_eq_true_eq] at h
 obtain ⟨R, rfl⟩ := Int.eq_ofNat_of_zero_le hr0
 obtain ⟨C, rfl⟩ := Int.eq_ofNat_of_zero_le h.1
 have h2 := h.2
 rw [Int.toNat_natCast, List.getD_eq_getElem?_getD, List.getElem?_eq_getElem (show R < X.length by omega), Option.getD_some] at h2
 exact ⟨R, C, X[R], X[R][C], rfl, rfl, List.getElem?_eq_getElem (by omega), List.getElem?_eq_getElem (by omega)⟩
set_option maxHeartbeats 4000000 in
theorem cmpClo_pc {H : Hp} {bx bc : Nat} {v : Value} {X : List (List Rat)} {col : Int} (hX : QLL H v X) (hb : H bx = some [v].toArray) (hc : H bc = some [Value.int .i64 col].toArray) (hsm : ∀ x, x ∈ X → ∀ q, q ∈ x → sm q)
  {i j : Int} (hi0 : 0 ≤ i) (hi : i < (X.length : Int)) (hj0 : 0 ≤ j) (hj : j < (X.length : Int)) (hci : hasC X col i = true) (hcj : hasC X col j = true) :
  PC prog 123 #[.int .i64 i, .int .i64 j, .pointer (some ⟨bx, 0, none⟩), .pointer (some ⟨bc, 0, none⟩)] H fun r _ => r = .int .i64 (ordR (colK X col i) (colK X col j)) := by
 obtain ⟨I, C, x, p, rfl, rfl, hxi, hp⟩ := hasC_at hi0 hi hci
 obtain ⟨J, C', y, q, rfl, hCC, hyj, hq⟩ := hasC_at hj0 hj hcj
 obtain rfl : C = C' := by omega
 obtain ⟨va, vc, rfl⟩ := hX.val
 obtain ⟨vs, hvs, hs⟩ := hX
 obtain ⟨a1, c1, hu1, hQ1⟩ := hvs.at hxi
 obtain ⟨a2, c2, hu2, hQ2⟩ := hvs.at hyj
 have hs1 : SlC H (.slice a1 x.length c1) x.length 5 (x.flatMap fun q => vlist (fracV q)) := hQ1
 have hs2 : SlC H (.slice a2 y.length c2) y.length 5 (y.flatMap fun q => vlist (fracV q)) := hQ2
 have hcmp := cmp_pv p q (hsm x (List.mem_of_getElem? hxi) p (List.mem_of_getElem? hp)) (hsm y (List.mem_of_getElem? hyj) q (List.mem_of_getElem? hq))
 rw [colK_at rfl rfl hxi hp, colK_at rfl rfl hyj hq]
 have hCx := (List.getElem?_eq_some_iff.1 hp).1
 have hCy := (List.getElem?_eq_some_iff.1 hq).1
 have hIl : I < X.length := by omega
 have hJl : J < X.length := by omega
 refine BD func123 ntmps123 ?_
 refine EV.asRo 2 rfl hb ?_
 refine EV.asRo 3 rfl hc ?_
 try refine RUN ?_
 apply EV.drawn 14 (by kernel_rfl) (by kernel_rfl); intro xv yw
 (repeat (first | refine' DV ?_ | refine' DA ?_ | refine' DK0 ?_ | refine' DT ?_ | refine' DS ?_))
 refine' DJ.ofVal (ValOk.idx1 tO rfl rfl rfl rfl rfl rfl rfl rfl (hs) (I) (rfl) (hIl) (hu1)) rfl rfl rfl ?_; rotate_left
 (repeat (first | refine' DV ?_ | refine' DA ?_ | refine' DK0 ?_ | refine' DT ?_ | refine' DS ?_))
 refine' DJ.idxM tO rfl rfl rfl rfl rfl rfl rfl rfl rfl (hs1) (C) (rfl) (hCx) (QL.at (H := H) (v := .bool true) hp) ?_; rotate_left
 (repeat (first | refine' DV ?_ | refine' DA ?_ | refine' DK0 ?_ | refine' DT ?_ | refine' DS ?_))
 refine' DJ.ofVal (ValOk.idx1 tO rfl rfl rfl rfl rfl rfl rfl rfl (hs) (J) (rfl) (hJl) (hu2)) rfl rfl rfl ?_; rotate_left
 (repeat (first | refine' DV ?_ | refine' DA ?_ | refine' DK0 ?_ | refine' DT ?_ | refine' DS ?_))
 refine' DJ.idxM tO rfl rfl rfl rfl rfl rfl rfl rfl rfl (hs2) (C) (rfl) (hCy) (QL.at (H := H) (v := .bool true) hq) ?_; rotate_left
 (repeat (first | refine' DV ?_ | refine' DA ?_ | refine' DK0 ?_ | refine' DT ?_ | refine' DS ?_))
 (refine DJ.nil (fun G1 hG1 hF1 => ?_); (case hS => rfl); (case hS2 => rfl))
 repeat (first | refine RUN ?_ | refine CV (hcmp) ?_ | refine CE (hcmp) ?_)
 rfl
theorem insertionI_no {H : Hp} {s : Value} {A : Int} (hA : 0 ≤ A ∧ A ≤ 1000) (L : Ows) {clo : Value} : PW prog 192 #[s, .int .i64 A, .int .i64 A, clo] H L fun v ow _ => v = .tuple #[] ∧ ow = L := by
 refine PW.body tO func192 rfl (by kernel_rfl) ntmps192 rfl rfl ?_
 try refine RUN ?_
 rw [show IntKind.i64.wrap (A + 1) = A + 1 by rw [IntKind.wrap_i64]; omega]
 refine EV.loopK (ι := Unit) [] [] (fun q => [(2, .v (.int .i64 A)), (8, .v (.int .i64 (A + 1)))]) (fun _ => []) (fun _ => L) (fun _ _ => True) (fun _ => 0) (()) rfl rfl ⟨rfl, rfl, trivial⟩ trivial rfl (fun _ => rfl) (trivial) ?_
 rintro ⟨⟩ G1 hG1 _
 try refine RUN ?_
 rw [decide_eq_false (show ¬ A + 1 < A by omega)]
 try refine RUN ?_
 exact ⟨rfl, rfl⟩
set_option maxHeartbeats 8000000 in
theorem stableI_pw {H : Hp} {b cap : Nat} {l : List Int} {sp : List Value} (hl : l.length ≤ 20) {f : FuncId} {cs : List Value} {key : Int → Rat} (hcan : Callable prog f) (hcmp : ∀ G, H.Le G → ∀ x y, x ∈ l → y ∈ l → PC prog f ([iv x, iv y] ++ cs).toArray G fun u _ => u = .int .i64 (ordR (key x) (key y))) :
  PW prog 122 #[.slice (some ⟨b, 0, none⟩) l.length cap, .func (.func f) #[] cs.toArray] H [(b, 3, l.map iv ++ sp)] fun v ow _ => v = .tuple #[] ∧ ∃ m, ow = [(b, 3, m.map iv ++ sp)] ∧ m.Perm l ∧ RisK key m := by
 have hst : PW prog 162 #[.slice (some ⟨b, 0, none⟩) l.length cap, .int .i64 (l.length : Int), .func (.func f) #[] cs.toArray] H [(b, 3, l.map iv ++ sp)] fun v ow _ => v = .tuple #[] ∧ ∃ m, ow = [(b, 3, m.map iv ++ sp)] ∧ m.Perm l ∧ RisK key m := by
  refine PW.body tO func162 rfl (by kernel_rfl) ntmps162 rfl rfl ?_
  try refine RUN ?_
  refine EV.loopK (ι := Bool × List Int) [0, 1, 2, 6] [] (fun q => [(7, .v (.int .i64 (if q.1 then 20 else 0))), (8, .v (.int .i64 (if q.1 then 40 else 20)))]) (fun _ => []) (fun q => [(b, 3, q.2.map iv ++ sp)]) (fun q _ => q.2.Perm l ∧ (q.1 = true → l.length = 20 ∧ RisK key q.2) ∧ (q.1 = false → q.2 = l)) (fun q => if q.1 then 0 else 1) ((false, l)) rfl rfl ⟨rfl, rfl, trivial⟩ trivial rfl (fun _ => rfl) (⟨List.Perm.refl _, by simp, by simp⟩) ?_
  rintro ⟨q, m⟩ G1 hG1 ⟨hp, h1, h2⟩
  dsimp only at hp h1 h2
  cases q with
  | true =>
   obtain ⟨hn, hr⟩ := h1 rfl
   try refine RUN ?_
   rw [show decide ((if true = true then (40 : Int) else 20) ≤ (l.length : Int)) = false by rw [hn]; rfl]
   try refine RUN ?_
   rw [show (if true = true then (20 : Int) else 0) = (l.length : Int) by rw [hn]; rfl]
   refine EVL.callW rfl rfl rfl rfl rfl ([(b, 3, m.map iv ++ sp)]) ([]) rfl (insertionI_no (A := (l.length : Int)) (by omega) _) ?_
   rintro v ow G2 ⟨rfl, rfl⟩ hG2
   try refine RUN ?_
   refine EV.loopK (ι := Unit) [1] [] (fun q => [(6, .v (.int .i64 20))]) (fun _ => []) (fun _ => [(b, 3, m.map iv ++ sp)]) (fun _ _ => True) (fun _ => 0) (()) rfl rfl ⟨rfl, trivial⟩ trivial rfl (fun _ => rfl) (trivial) ?_
   rintro ⟨⟩ G3 hG3 _
   try refine RUN ?_
   rw [decide_eq_false (show ¬ (20 : Int) < (l.length : Int) by omega)]
   try refine RUN ?_
   exact ⟨rfl, m, rfl, hp, hr⟩
  | false =>
   obtain rfl := h2 rfl
   try refine RUN ?_
   by_cases hn : m.length = 20
   ·rw [show decide ((if false = true then (40 : Int) else 20) ≤ (m.length : Int)) = true by rw [hn]; rfl]
    have hi := insertionI_pw (H := G1) (b := b) (cap := cap) (sp := sp) (l := m) (cs := cs) (key := key) (by omega) hcan (fun G hG => hcmp G (hG1.trans hG))
    rw [hn] at hi
    try refine RUN ?_
    rw [hn]
    refine EVL.callW rfl rfl rfl rfl rfl ([(b, 3, m.map iv ++ sp)]) ([]) rfl (hi) ?_
    rintro v ow G2 ⟨rfl, m2, rfl, hp2, hr2⟩ hG2
    try refine RUN ?_
    exact ⟨(true, m2), ⟨rfl, rfl, trivial⟩, (by repeat (first | exact trivial | refine And.intro rfl ?_)), trivial, trivial, rfl, ⟨hp2, fun _ => ⟨by first | exact hn | rfl, hr2⟩, by simp⟩, hG2, by simp⟩
   ·rw [show decide ((if false = true then (40 : Int) else 20) ≤ (m.length : Int)) = false by simp; omega]
    try refine RUN ?_
    refine EVL.callW rfl rfl rfl rfl rfl ([(b, 3, m.map iv ++ sp)]) ([]) rfl (insertionI_pw (key := key) (by omega) hcan (fun G hG => hcmp G (hG1.trans hG))) ?_
    rintro v ow G2 ⟨rfl, m2, rfl, hp2, hr2⟩ hG2
    try refine RUN ?_
    refine EV.loopK (ι := Unit) [1] [] (fun q => [(6, .v (.int .i64 20))]) (fun _ => []) (fun _ => [(b, 3, m2.map iv ++ sp)]) (fun _ _ => True) (fun _ => 0) (()) rfl rfl ⟨rfl, trivial⟩ trivial rfl (fun _ => rfl) (trivial) ?_
    rintro ⟨⟩ G3 hG3 _
    try refine RUN ?_
    rw [decide_eq_false (show ¬ (20 : Int) < (m.length : Int) by omega)]
    try refine RUN ?_
    exact ⟨rfl, m2, rfl, hp2, hr2⟩
 refine PW.body tO func122 rfl (by kernel_rfl) ntmps122 rfl rfl ?_
 try refine RUN ?_
 refine EVL.callW rfl rfl rfl rfl rfl ([(b, 3, l.map iv ++ sp)]) ([]) rfl (hst) ?_
 rintro v ow G2 ⟨rfl, m, rfl, hp, hr⟩ hG2
 try refine RUN ?_
 exact ⟨rfl, m, rfl, hp, hr⟩
theorem meanL_nil : meanL [] = 0 := rat_div_zero _
theorem meanL_any {H : Hp} {v : Value} {l : List Rat} (h : QL H v l) (hl : l.length ≤ 10000) (hb : ∀ q, q ∈ l → ht q ≤ 100) : PC prog 73 #[v] H fun r _ => r = .tuple #[fracV (meanL l), .bool (decide (0 < l.length))] := by
 by_cases h0 : l.length = 0
 ·obtain rfl := List.length_eq_zero_iff.1 h0
  rw [meanL_nil]
  exact mean_no h
 ·rw [decide_eq_true (show 0 < l.length by omega)]
  exact mean_pc h (by omega) h0 hb
theorem meanL_ht {l : List Rat} {B : Nat} (hl : l.length ≤ 300) (hb : ∀ q, q ∈ l → ht q ≤ B) : ht (meanL l) ≤ 1 + (B + 1) * 300 + 20 := by
 have b1 := ht_sum B l hb
 have b2 : (B + 1) * l.length ≤ (B + 1) * 300 := Nat.mul_le_mul_left _ hl
 have b3 := ht_len (n := l.length) (by omega)
 have b4 := ht_div (sumQ l) ((l.length : Int) : Rat)
 unfold meanL
 omega
theorem devL_ht {m : Rat} {l : List Rat} {B C : Nat} (hb : ∀ q, q ∈ l → ht q ≤ B) (hm : ht m ≤ C) : ∀ q, q ∈ devL m l → ht q ≤ 2 * (B + C + 1) := fun q hq => by
 obtain ⟨v, hv, rfl⟩ := List.mem_map.1 hq
 have h1 := hb v hv
 have h2 := ht_sub v m
 have h3 := ht_mul (v - m) (v - m)
 omega
theorem devS_ht {m : Rat} {l : List Rat} {B C : Nat} (hl : l.length ≤ 300) (hb : ∀ q, q ∈ l → ht q ≤ B) (hm : ht m ≤ C) : ht (sumQ (devL m l)) ≤ 1 + (2 * (B + C + 1) + 1) * 300 := by
 have h1 := ht_sum _ (devL m l) (devL_ht hb hm)
 have h2 : (2 * (B + C + 1) + 1) * (devL m l).length ≤ (2 * (B + C + 1) + 1) * 300 := Nat.mul_le_mul_left _ (by simpa [devL] using hl)
 omega
set_option maxHeartbeats 4000000 in
theorem meanG_pc {H : Hp} {v : Value} {rs : List Int} (hr : IL H v rs) (hn : rs.length ≤ 300) {va : Option Addr} {vc : Nat} {vals : List Rat} {la : Option Addr} {lc : Nat} (hv : QL H (.slice va vals.length vc) vals) (h0 : 1 ≤ vals.length) (h1 : vals.length ≤ 300) (hb : ∀ q, q ∈ vals → ht q ≤ 100) :
  PC prog 24 #[goalV 2 0 (.slice la 0 lc) (.slice va vals.length vc), v] H fun r _ => r = fracV (meanL (atR vals (exL rs vals.length))) := by
 obtain ⟨a, cap, rfl⟩ := SlC.val hr
 have hchk := checkV_pv (va := va) (vc := vc) (la := la) (lc := lc) h0 h1
 have hel := exL_len rs vals.length
 refine BD func24 ntmps24 ?_
 repeat (first | refine RUN ?_ | refine CV (hchk) ?_ | refine CE (hchk) ?_)
 refine EVL.call rfl rfl rfl rfl rfl (values_pc hr (by omega) hv) ?_
 intro r1 G1 hL hG1
 have hlb := fun q hq => hb q (atR_mem (exL_mem (rs := rs) (n := vals.length)) q hq)
 have hll : (atR vals (exL rs vals.length)).length ≤ 300 := by rw [atR_len]; omega
 generalize atR vals (exL rs vals.length) = L at *
 have hm := meanL_any hL (by omega) hlb
 repeat (first | refine RUN ?_ | refine CV (hm) ?_ | refine CE (hm) ?_)
 by_cases hz : 0 < L.length
 ·rw [decide_eq_true hz]
  try refine RUN ?_
  rfl
 ·rw [decide_eq_false hz]
  try refine RUN ?_
  obtain rfl : L = [] := List.length_eq_zero_iff.1 (by omega)
  rw [meanL_nil]
  exact fracV_zero.symm
set_option maxHeartbeats 8000000 in
theorem costV_pc {H : Hp} {v : Value} {rs : List Int} (hr : IL H v rs) (hn : rs.length ≤ 300) {va : Option Addr} {vc : Nat} {vals : List Rat} {la : Option Addr} {lc : Nat} (hv : QL H (.slice va vals.length vc) vals) (h0 : 1 ≤ vals.length) (h1 : vals.length ≤ 300) (hb : ∀ q, q ∈ vals → ht q ≤ 100) :
  PC prog 22 #[goalV 2 0 (.slice la 0 lc) (.slice va vals.length vc), v] H fun r _ => r = fracV (sumQ (devL (meanL (atR vals (exL rs vals.length))) (atR vals (exL rs vals.length)))) := by
 obtain ⟨a, cap, rfl⟩ := SlC.val hr
 have hchk := checkV_pv (va := va) (vc := vc) (la := la) (lc := lc) h0 h1
 have hel := exL_len rs vals.length
 have hmean := meanG_pc (la := la) (lc := lc) hr hn hv h0 h1 hb
 have hvals := values_pc (kd := 2) (cl := 0) (la := la) (ln := 0) (lc := lc) hr (by omega) hv
 have hlb := fun q hq => hb q (atR_mem (exL_mem (rs := rs) (n := vals.length)) q hq)
 have hll : (atR vals (exL rs vals.length)).length ≤ 300 := by rw [atR_len]; omega
 generalize atR vals (exL rs vals.length) = L at *
 have hmh := meanL_ht hll hlb
 generalize meanL L = m at *
 have hms : sm m := sm_of hmh (by omega)
 refine BD func22 ntmps22 ?_
 repeat (first | refine RUN ?_ | refine CV (hchk) ?_ | refine CV (hmean) ?_ | refine CE (hchk) ?_ | refine CE (hmean) ?_)
 refine EVL.call rfl rfl rfl rfl rfl (hvals) ?_
 intro r1 G1 hL hG1
 obtain ⟨a1, c1, rfl⟩ := SlC.val hL
 have hs : SlC G1 (.slice a1 L.length c1) L.length 5 (L.flatMap fun q => vlist (fracV q)) := hL
 try refine RUN ?_
 refine EV.loopK (ι := Nat) [4, 6, 7, 34, 35] [4, 7] (fun i => [(36, .v (.int .i64 (i : Int)))]) (fun i => [(6, 45, vlist (fracV (sumQ (devL m (L.take i)))))]) (fun _ => []) (fun i _ => i ≤ L.length) (fun i => L.length - i) (0) rfl rfl ⟨rfl, trivial⟩ ⟨by rw [show sumQ (devL m (L.take 0)) = 0 from rfl, frac_zero_cells]; rfl, trivial⟩ rfl (fun _ => rfl) (Nat.zero_le _) ?_
 rintro i G2 hG2 hi
 try refine RUN ?_
 refine EV.cond rfl (fun hlt => ?_) (fun hlt => ?_)
 ·simp only [nN] at hlt
  obtain ⟨x, hx⟩ : ∃ r, L[i]? = some r := ⟨_, List.getElem?_eq_getElem hlt⟩
  have hxb := hlb x (List.mem_of_getElem? hx)
  have hsum := devS_ht (l := L.take i) (by rw [List.length_take]; omega) (fun q hq => hlb q (List.mem_of_mem_take hq)) hmh
  have hd := ht_sub x m
  have hdd := ht_mul (x - m) (x - m)
  have hsub := sub_pv x m (sm_of hxb (by omega)) hms
  have hmul := mul_pv (x - m) (x - m) (sm_of hd (by omega)) (sm_of hd (by omega))
  have hadd := add_pv (sumQ (devL m (L.take i))) ((x - m) * (x - m)) (sm_of hsum (by omega)) (sm_of hdd (by omega))
  rw [← devL_snoc, ← take_snoc hx] at hadd
  try refine RUN ?_
  refine EVL.idxM tO rfl rfl rfl rfl rfl rfl rfl rfl rfl ((hs.mono hG2)) (i) (rfl) (hlt) (QL.at (H := H) (v := .bool true) hx) ?_
  repeat (first | refine RUN ?_ | refine CV (hsub) ?_ | refine CE (hsub) ?_)
  apply EV.drawn 4 (by kernel_rfl) (by kernel_rfl); intro xv yw
  (repeat (first | refine' DV ?_ | refine' DA ?_ | refine' DK0 ?_ | refine' DT ?_ | (refine' DC (hmul) (h := ?_); rotate_left) | refine' DS ?_))
  (refine DJ.nil (fun G3 hG3 hF3 => ?_); (case hS => rfl); (case hS2 => rfl))
  repeat (first | refine RUN ?_ | refine CV (hadd) ?_ | refine CE (hadd) ?_)
  refine ⟨i + 1, ⟨?_, trivial⟩, (by repeat (first | exact trivial | refine And.intro rfl ?_)), ⟨rfl, trivial⟩, (by repeat (first | exact trivial | refine And.intro rfl ?_)), rfl, hlt, hG3, by omega⟩
  rw [wi_inc i (by omega)]; rfl
 ·simp only [nN] at hlt
  obtain rfl : i = L.length := by omega
  rw [List.take_length]
  try refine RUN ?_
  rfl
theorem wholeC_any {H : Hp} {cl : Int} {va : Option Addr} {vn vc : Nat} {la : Option Addr} {lc : Nat} {ls : List Int} (hv : IL H (.slice la ls.length lc) ls) {v : Value} {rs : List Int} (hr : IL H v rs) (hn : rs.length ≤ 100000)
  (hrs : ∀ r, r ∈ rs → 0 ≤ r ∧ r < (ls.length : Int)) (hls : ∀ z, z ∈ ls → 0 ≤ z ∧ z < 12) :
  PC prog 67 #[goalV 1 cl (.slice la ls.length lc) (.slice va vn vc), v] H fun r _ => r = .agg (sideC (rs.length : Nat) (csL (atI ls rs)) (sqL (atI ls rs)) 0).toArray := by
 obtain ⟨a, cap, rfl⟩ := SlC.val hr
 exact wholeC_pc hv hr hn hrs hls
def costL (L : List Int) : Rat := ((L.length : Int) : Rat) - ((sqL L : Int) : Rat) / ((L.length : Int) : Rat)
set_option maxHeartbeats 8000000 in
theorem costC_pc {H : Hp} {v : Value} {rs : List Int} (hr : IL H v rs) (hn : rs.length ≤ 300) {va : Option Addr} {vc : Nat} {la : Option Addr} {lc : Nat} {ls : List Int} (hv : IL H (.slice la ls.length lc) ls) {cl : Int} (hc : 1 ≤ cl ∧ cl ≤ 12) (h0 : 1 ≤ ls.length) (h1 : ls.length ≤ 300) (hls : ∀ z, z ∈ ls → 0 ≤ z ∧ z < cl) :
  PC prog 22 #[goalV 1 cl (.slice la ls.length lc) (.slice va 0 vc), v] H fun r _ => r = fracV (costL (atI ls (exL rs ls.length))) := by
 obtain ⟨a, cap, rfl⟩ := SlC.val hr
 have hchk := checkC_pc (va := va) (vc := vc) hv hc h0 h1 hls
 have hlen := lenC_pv (cl := cl) (va := va) (vn := 0) (vc := vc) (la := la) (ln := ls.length) (lc := lc)
 have hel := exL_len rs ls.length
 have hem := exL_mem (rs := rs) (n := ls.length)
 have hex := fun (G : Hp) (hG : H.Le G) => existing_pc (hr.mono hG) (by omega) ls.length
 generalize exL rs ls.length = E at *
 have hLl : (atI ls E).length = E.length := atI_len ls E
 have hsq := sqL_le (atI ls E)
 rw [hLl] at hsq
 have hsq2 : E.length * E.length ≤ 300 * 300 := Nat.mul_le_mul (by omega) (by omega)
 have hE : costL (atI ls E) = ((E.length : Int) : Rat) - ((sqL (atI ls E) : Int) : Rat) / ((E.length : Int) : Rat) := by unfold costL; rw [hLl]
 have hn2 := ht_int (E.length : Int)
 have hn3 : bl (E.length : Int).natAbs ≤ 20 := bl_le (by omega)
 have hs2 := ht_int (sqL (atI ls E) : Int)
 have hs3 : bl (sqL (atI ls E) : Int).natAbs ≤ 20 := bl_le (by omega)
 have hdv := ht_div ((sqL (atI ls E) : Int) : Rat) ((E.length : Int) : Rat)
 have hof := of_pv (E.length : Int) (by omega) (by omega)
 have hsub := sub_pv ((E.length : Int) : Rat) (((sqL (atI ls E) : Int) : Rat) / ((E.length : Int) : Rat)) (by unfold sm; omega) (by unfold sm; omega)
 rw [hE]
 refine BD func22 ntmps22 ?_
 repeat (first | refine RUN ?_ | refine CV (hchk) ?_ | refine CE (hchk) ?_)
 apply EV.drawn 7 (by kernel_rfl) (by kernel_rfl); intro xv yw
 (repeat (first | refine' DV ?_ | refine' DA ?_ | refine' DK0 ?_ | refine' DT ?_ | (refine' DC (hlen) (h := ?_); rotate_left) | refine' DS ?_))
 refine' DJ.call rfl rfl rfl rfl rfl (cO func62) (fun G hG hd => hex G hG) (fun _ _ _ h k => SlN.mono h k) ?_; rotate_left
 refine' DJ.callS rfl rfl rfl rfl rfl (cO func67) (fun G hG hd => wholeC_any (hv.mono hG) (hd.head (by kernel_rfl)) (by omega) hem (fun z hz => ⟨(hls z hz).1, by have := (hls z hz).2; omega⟩)) ?_; rotate_left
 (repeat (first | refine' DV ?_ | refine' DA ?_ | refine' DK0 ?_ | refine' DT ?_ | refine' DS ?_))
 (refine DJ.nil (fun G1 hG1 hF1 => ?_); (case hS => rfl); (case hS2 => rfl))
 repeat (first | refine RUN ?_ | refine CV (hof) ?_ | refine CE (hof) ?_)
 (first | refine EVL.unbox (5) rfl fun b => ?_ | refine EV.unbox (5) rfl fun b => ?_)
 refine EVL.callW rfl rfl rfl rfl rfl ([(b, 116, sideC (E.length : Nat) (csL (atI ls E)) (sqL (atI ls E)) 0)]) ([]) rfl (worthC_pw (csL_len _) (by omega) (by omega)) ?_
 rintro v ow G2 ⟨rfl, rfl⟩ hG2
 repeat (first | refine RUN ?_ | refine CV (hsub) ?_ | refine CE (hsub) ?_)
 rfl
theorem oneB_iv : ∀ l : List Int, oneB (l.map iv) = true
 | [] => rfl
 | _ :: l => by rw [List.map_cons]; unfold oneB; rw [oneB_iv l]; rfl
theorem RL.nil (H : Hp) (a : Option Addr) (c : Nat) : RL H (.slice a 0 c) [] := (RVs.nil H).rl ⟨rfl, .inl ⟨rfl, _, _, rfl⟩⟩
theorem IL.nil (H : Hp) (a : Option Addr) (c : Nat) : IL H (.slice a 0 c) [] := ⟨rfl, .inl ⟨rfl, _, _, rfl⟩⟩
set_option maxHeartbeats 8000000 in
theorem inGoal_pc {H : Hp} {kd cl : Int} {sl sv : Value} {ls : List Int} {qs : List Rat} (hl : IL H sl ls) (hq : RL H sv qs) (hn : ls.length ≤ 1000000) (hm : qs.length ≤ 1000000) (hb : ∀ q, q ∈ qs → rq q) :
  PC prog 8 #[goalV kd cl sl sv] H fun r H' => ∃ la lc va vc, r = goalV kd cl (.slice la ls.length lc) (.slice va qs.length vc) ∧ IL H' (.slice la ls.length lc) ls ∧ QL H' (.slice va qs.length vc) qs := by
 obtain ⟨a, cap, rfl⟩ := SlC.val hl
 obtain ⟨a2, cap2, rfl⟩ := hq.val
 have hls : SlC H (.slice a ls.length cap) ls.length 1 (ls.map iv) := hl
 by_cases e : ls.length = 0
 ·obtain rfl := List.length_eq_zero_iff.1 e
  show PC prog 8 #[goalV kd cl (.slice a 0 cap) (.slice a2 qs.length cap2)] H _
  refine BD func8 ntmps8 ?_
  try refine RUN ?_
  apply EV.drawn 11 (by kernel_rfl) (by kernel_rfl); intro xv yw
  (repeat (first | refine' DV ?_ | refine' DA ?_ | refine' DK0 ?_ | refine' DT ?_ | refine' DS ?_))
  (refine' DJ.lit0 tO rfl rfl rfl rfl rfl rfl rfl ?_; rotate_left)
  (repeat (first | refine' DV ?_ | refine' DA ?_ | refine' DK0 ?_ | refine' DT ?_ | refine' DS ?_))
  refine' DJ.append0E (u0 := xv 4) tO rfl rfl rfl rfl rfl rfl rfl rfl rfl (a) (cap) rfl (fun G hd => hd.head (by kernel_rfl)) ?_; rotate_left
  (repeat (first | refine' DV ?_ | refine' DA ?_ | refine' DK0 ?_ | refine' DT ?_ | refine' DS ?_))
  refine' DJ.call rfl rfl rfl rfl rfl (cO func43) (fun G hG hd => inRow_pc (hq.mono hG) (by omega) hb) (fun _ _ _ h k => QL.mono h k) ?_; rotate_left
  (refine DJ.nil (fun G1 hG1 hF1 => ?_); (case hS => rfl); (case hS2 => rfl))
  obtain ⟨hR, ⟨g, hg⟩, _⟩ := hF1
  obtain ⟨a3, c3, e3⟩ := SlC.val hR
  rw [e3] at hR
  rw [hg, e3]
  try refine RUN ?_
  exact ⟨_, _, _, _, rfl, IL.nil _ _ _, hR⟩
 ·refine BD func8 ntmps8 ?_
  try refine RUN ?_
  apply EV.drawn 11 (by kernel_rfl) (by kernel_rfl); intro xv yw
  (repeat (first | refine' DV ?_ | refine' DA ?_ | refine' DK0 ?_ | refine' DT ?_ | refine' DS ?_))
  (refine' DJ.lit0 tO rfl rfl rfl rfl rfl rfl rfl ?_; rotate_left)
  (repeat (first | refine' DV ?_ | refine' DA ?_ | refine' DK0 ?_ | refine' DT ?_ | refine' DS ?_))
  refine' DJ.appendE (u0 := xv 4) tO rfl rfl rfl rfl rfl rfl rfl rfl rfl rfl (fun G hd => hd.head (by kernel_rfl)) (hls) (Nat.pos_of_ne_zero e) (by omega) ?_; rotate_left
  (repeat (first | refine' DV ?_ | refine' DA ?_ | refine' DK0 ?_ | refine' DT ?_ | refine' DS ?_))
  refine' DJ.call rfl rfl rfl rfl rfl (cO func43) (fun G hG hd => inRow_pc (hq.mono hG) (by omega) hb) (fun _ _ _ h k => QL.mono h k) ?_; rotate_left
  (refine DJ.nil (fun G1 hG1 hF1 => ?_); (case hS => rfl); (case hS2 => rfl))
  obtain ⟨hR, hA, _⟩ := hF1
  obtain ⟨a3, c3, e3⟩ := SlC.val hR
  obtain ⟨a4, c4, e4⟩ := SlC.val hA
  rw [e3] at hR
  rw [e4] at hA
  rw [e3, e4]
  try refine RUN ?_
  exact ⟨_, _, _, _, rfl, hA, hR⟩
def GoalR (H : Hp) (v : Value) (n : Nat) (qs : List Rat) : Prop :=
 (∃ s, v = goalV 2 0 (.slice none 0 0) s ∧ RL H s qs) ∨ ∃ (cl : Int) (s : Value) (ls : List Int), v = goalV 1 cl s (.slice none 0 0) ∧ 1 ≤ cl ∧ cl ≤ 4 ∧ ls.length = n ∧ (∀ z, z ∈ ls → 0 ≤ z ∧ z < cl) ∧ IL H s ls
theorem wrap_in (z : Int) : -9223372036854775808 ≤ IntKind.i64.wrap z ∧ IntKind.i64.wrap z < 9223372036854775808 := by
 rw [IntKind.wrap_i64]; omega
set_option maxHeartbeats 8000000 in
theorem goal_pc {H : Hp} {v : Value} {l : List Int} (h : IL H v l) (hb : ∀ z, z ∈ l → -9223372036854775808 ≤ z ∧ z < 9223372036854775808) (kd : Int) (n : Nat) (hn : n ≤ 1000) :
  PC prog 9 #[.int .i64 kd, v, .int .i64 (n : Int)] H fun r H' => GoalR H' r n (rowQ l n) := by
 obtain ⟨a, cap, rfl⟩ := SlC.val h
 have hpk : ∀ z c : Int, -9223372036854775808 ≤ z ∧ z < 9223372036854775808 → 1 ≤ c ∧ c ≤ 4 → PV prog 7 #[.int .i64 z, .int .i64 c] (.int .i64 (z % c)) := fun z c hz hc => pick_pv z c hz (by omega) (by omega)
 have hrow := row_pc h hb n (by omega)
 have hwb := wrap_in (kd.tdiv 2)
 have hp4 := hpk _ 4 hwb (by omega)
 refine BD func9 ntmps9 ?_
 try refine RUN ?_
 by_cases hk : kd.tmod 2 = 0
 ·rw [show (kd.tmod 2 == 0) = true from beq_iff_eq.2 hk]
  try refine RUN ?_
  refine EVL.call rfl rfl rfl rfl rfl (hrow) ?_
  intro r G1 hr hG1
  obtain ⟨a3, c3, rfl⟩ := hr.val
  try refine RUN ?_
  exact .inl ⟨_, rfl, hr⟩
 ·rw [show (kd.tmod 2 == 0) = false from beq_eq_false_iff_ne.2 hk]
  try refine RUN ?_
  generalize IntKind.i64.wrap (kd.tdiv 2) = k2 at *
  have hcl : 1 ≤ 1 + k2 % 4 ∧ 1 + k2 % 4 ≤ 4 := by omega
  repeat (first | refine RUN ?_ | refine CV (hp4) ?_ | refine CE (hp4) ?_)
  rw [show IntKind.i64.wrap (1 + k2 % 4) = 1 + k2 % 4 by rw [IntKind.wrap_i64]; omega]
  generalize 1 + k2 % 4 = cl at *
  try refine RUN ?_
  refine EV.loopK (ι := Nat × List Int × Value × Ows) [1, 2, 6, 7] [6] (fun q => [(8, .v (.int .i64 (q.1 : Int)))]) (fun q => [(7, 31, [.int .i64 1, .int .i64 cl, q.2.2.1, .slice none 0 0])]) (fun q => q.2.2.2) (fun q _ => q.1 ≤ n ∧ q.2.1.length = q.1 ∧ (∀ z, z ∈ q.2.1 → 0 ≤ z ∧ z < cl) ∧ OwnL 3 1 q.2.2.1 q.2.1.length (q.2.1.map iv) q.2.2.2) (fun q => n - q.1) ((0, [], .slice none 0 0, [])) rfl rfl ⟨rfl, trivial⟩ ⟨rfl, trivial⟩ rfl (fun _ => rfl) (⟨Nat.zero_le _, rfl, by simp, OwnL.nil _ _⟩) ?_
  rintro ⟨i, ls, w, ow⟩ G1 hG1 ⟨hi, hll, hlb, hown⟩
  dsimp only at hi hll hlb hown
  obtain ⟨wa, wc, rfl⟩ := hown.val
  try refine RUN ?_
  refine EV.cond rfl (fun hlt => ?_) (fun hlt => ?_)
  ·simp only [nN] at hlt
   try refine RUN ?_
   refine EV.meetK (ι := Int) [1, 2, 6, 7, 8] [6, 7] (fun c => [(9, .v (.int .i64 c))]) (fun _ => []) (fun _ => ow) (fun c G => G1.Le G ∧ -9223372036854775808 ≤ c ∧ c < 9223372036854775808) rfl rfl (fun _ => rfl) ?_ ?_
   ·refine EV.cond rfl (fun hc => ?_) (fun hc => ?_)
    ·simp only [nN] at hc
     obtain ⟨z, hz⟩ : ∃ r, l[i]? = some r := ⟨_, List.getElem?_eq_getElem hc⟩
     have hzb := hb z (List.mem_of_getElem? hz)
     try refine RUN ?_
     refine EVL.idxR tO rfl rfl rfl rfl rfl rfl rfl rfl rfl rfl ((h.mono hG1)) (i) (rfl) (hc) ((by rw [List.getElem?_map, hz]; rfl)) ?_
     try refine RUN ?_
     exact ⟨z, ⟨rfl, trivial⟩, (by repeat (first | exact trivial | refine And.intro rfl ?_)), trivial, (by repeat (first | exact trivial | refine And.intro rfl ?_)), rfl, Hp.Le.refl _, hzb.1, hzb.2⟩
    ·(try refine RUN ?_)
     exact ⟨(i : Int), ⟨rfl, trivial⟩, (by repeat (first | exact trivial | refine And.intro rfl ?_)), trivial, (by repeat (first | exact trivial | refine And.intro rfl ?_)), rfl, Hp.Le.refl _, by omega, by omega⟩
   ·rintro c G2 ⟨hG2, hc1, hc2⟩
    have hpc := hpk c cl ⟨hc1, hc2⟩ hcl
    have hcb : 0 ≤ c % cl ∧ c % cl < cl := ⟨Int.emod_nonneg _ (by omega), Int.emod_lt_of_pos _ (by omega)⟩
    generalize c % cl = cc at *
    try refine RUN ?_
    apply EV.drawn 7 (by kernel_rfl) (by kernel_rfl); intro xv yw
    (repeat (first | refine' DV ?_ | refine' DA ?_ | refine' DK0 ?_ | refine' DT ?_ | (refine' DC (hpc) (h := ?_); rotate_left) | refine' DS ?_))
    (refine' DJ.lit tO rfl rfl rfl rfl rfl rfl rfl rfl rfl rfl rfl rfl ?_; rotate_left)
    (refine DJ.nil (fun G3 hG3 hF3 => ?_); (case hS => rfl); (case hS2 => rfl))
    refine EVL.append tO rfl rfl rfl rfl rfl rfl rfl rfl rfl rfl rfl rfl [] ow [] (List.append_nil _).symm hown (SrcAt.ro hF3.1 (by omega)) rfl (by omega) ?_
    intro v1 ow1 hown1
    have hown2 := OwnL.il hown1
    clear hown1
    obtain ⟨va1, vc1, rfl⟩ := hown2.val
    try refine RUN ?_
    refine ⟨(i + 1, ls ++ [cc], _, ow1), ⟨?_, trivial⟩, (by repeat (first | exact trivial | refine And.intro rfl ?_)), ⟨rfl, trivial⟩, (by repeat (first | exact trivial | refine And.intro rfl ?_)), List.append_nil _, ⟨hlt, by rw [List.length_append, hll]; rfl, ?_, hown2⟩, hG2.trans hG3, by dsimp only; omega⟩
    ·rw [wi_inc i (by omega)]; rfl
    ·intro z hz
     rcases List.mem_append.1 hz with hz | hz
     ·exact hlb z hz
     ·obtain rfl := List.mem_singleton.1 hz
      exact hcb
  ·simp only [nN] at hlt
   obtain rfl : i = n := by omega
   (first | refine EVL.publishL [] ow [] ((List.append_nil _).symm) hown fun G2 hG2 hs => ?_ | refine EV.publishL [] ow [] ((List.append_nil _).symm) hown fun G2 hG2 hs => ?_)
   try refine RUN ?_
   exact .inr ⟨cl, _, ls, rfl, hcl.1, hcl.2, hll, hlb, hs⟩
theorem cloneI_pw {H : Hp} {v : Value} {l : List Int} (h : IL H v l) (h0 : 0 < l.length) (hl : l.length ≤ 1000) : PW prog 121 #[v] H [] fun r ow _ => OwnL 3 1 r l.length (l.map iv) ow := by
 have hs := h.2
 rcases hs with ⟨e, _⟩ | ⟨b, off, cap, c, rfl, _⟩
 ·omega
 ·refine PW.body tO func121 rfl (by kernel_rfl) ntmps121 rfl rfl ?_
  try refine RUN ?_
  refine EVL.eqnil tO rfl rfl rfl rfl rfl rfl rfl ?_
  try refine RUN ?_
  refine EVL.lit0 tO rfl rfl rfl rfl rfl rfl rfl fun g0 => ?_
  try refine RUN ?_
  refine EVL.append tO rfl rfl rfl rfl rfl rfl rfl rfl rfl rfl rfl rfl [] [(g0, 3, [])] [] rfl (OwnL.full (m := 0) rfl (by omega)) (SrcAt.ro h h0) (oneB_iv l) (by omega) ?_
  intro v1 ow1 hown1
  try refine RUN ?_
  rw [Nat.zero_add] at hown1
  rw [List.append_nil]
  exact hown1
theorem cloneI_nil {H : Hp} {v : Value} (h : IL H v []) : PC prog 121 #[v] H fun r _ => ∃ a cap, r = .slice a 0 cap := by
 obtain ⟨a, cap, rfl⟩ := SlC.val h
 refine BD func121 ntmps121 ?_
 try refine RUN ?_
 refine EVL.eqnil tO rfl rfl rfl rfl rfl rfl rfl ?_
 cases a with
 | none =>
  try refine RUN ?_
  exact ⟨_, _, rfl⟩
 | some x =>
  try refine RUN ?_
  refine EVL.lit0 tO rfl rfl rfl rfl rfl rfl rfl fun g0 => ?_
  try refine RUN ?_
  refine EVL.append0 tO rfl rfl rfl rfl rfl rfl rfl rfl rfl (Nat.le_refl _) ?_
  try refine RUN ?_
  exact ⟨_, _, rfl⟩
theorem stableI_nil {H : Hp} (a : Option Addr) (cap : Nat) (clo : Value) : PC prog 122 #[.slice a 0 cap, clo] H fun v _ => v = .tuple #[] := by
 have hst : PC prog 162 #[.slice a 0 cap, .int .i64 0, clo] H fun v _ => v = .tuple #[] := by
  have hno : ∀ G : Hp, PC prog 192 #[.slice a 0 cap, .int .i64 0, .int .i64 0, clo] G fun v _ => v = .tuple #[] := fun G => by
   refine BD func192 ntmps192 ?_
   try refine RUN ?_
   refine EV.loopK (ι := Unit) [] [] (fun q => [(2, .v (.int .i64 0)), (8, .v (.int .i64 1))]) (fun _ => []) (fun _ => []) (fun _ _ => True) (fun _ => 0) (()) rfl rfl ⟨rfl, rfl, trivial⟩ trivial rfl (fun _ => rfl) (trivial) ?_
   rintro ⟨⟩ G1 hG1 _
   try refine RUN ?_
   rfl
  refine BD func162 ntmps162 ?_
  try refine RUN ?_
  refine EV.loopK (ι := Unit) [0, 1, 2, 6] [] (fun q => [(7, .v (.int .i64 0)), (8, .v (.int .i64 20))]) (fun _ => []) (fun _ => []) (fun _ _ => True) (fun _ => 0) (()) rfl rfl ⟨rfl, rfl, trivial⟩ trivial rfl (fun _ => rfl) (trivial) ?_
  rintro ⟨⟩ G1 hG1 _
  try refine RUN ?_
  refine EVL.call rfl rfl rfl rfl rfl (hno _) ?_
  rintro r G2 rfl hG2
  try refine RUN ?_
  refine EV.loopK (ι := Unit) [1] [] (fun q => [(6, .v (.int .i64 20))]) (fun _ => []) (fun _ => []) (fun _ _ => True) (fun _ => 0) (()) rfl rfl ⟨rfl, trivial⟩ trivial rfl (fun _ => rfl) (trivial) ?_
  rintro ⟨⟩ G3 hG3 _
  try refine RUN ?_
  rfl
 refine BD func122 ntmps122 ?_
 try refine RUN ?_
 refine EVL.call rfl rfl rfl rfl rfl (hst) ?_
 rintro r G2 rfl hG2
 try refine RUN ?_
 rfl
def SortC (X : List (List Rat)) (col : Int) (rs m : List Int) : Prop := (rs.all (hasC X col) = true ∧ m.Perm rs ∧ RisK (colK X col) m) ∨ (rs.all (hasC X col) = false ∧ m = [])
set_option maxHeartbeats 8000000 in
theorem sorted_pc {H : Hp} {vx vr : Value} {X : List (List Rat)} {rs : List Int} {col : Int} (hX : QLL H vx X) (hr : IL H vr rs) (hn : rs.length ≤ 20) (hrs : ∀ r, r ∈ rs → 0 ≤ r ∧ r < (X.length : Int)) (hsm : ∀ x, x ∈ X → ∀ q, q ∈ x → sm q) :
  PC prog 75 #[vx, vr, .int .i64 col] H fun r H' => ∃ m, IL H' r m ∧ SortC X col rs m := by
 obtain ⟨a, cap, rfl⟩ := SlC.val hr
 obtain ⟨xa, xc, rfl⟩ := hX.val
 refine BD func75 ntmps75 ?_
 try refine RUN ?_
 refine EV.loopK (ι := Nat) [1, 3, 5, 10, 11] [3, 5] (fun i => [(12, .v (.int .i64 (i : Int)))]) (fun _ => []) (fun _ => []) (fun i _ => i ≤ rs.length ∧ ∀ r, r ∈ rs.take i → hasC X col r = true) (fun i => rs.length - i) (0) rfl rfl ⟨rfl, trivial⟩ trivial rfl (fun _ => rfl) (⟨Nat.zero_le _, by simp⟩) ?_
 rintro i G1 hG1 ⟨hi, hall⟩
 try refine RUN ?_
 refine EV.cond rfl (fun hlt => ?_) (fun hlt => ?_)
 ·simp only [nN] at hlt
  obtain ⟨r, hri⟩ : ∃ r, rs[i]? = some r := ⟨_, List.getElem?_eq_getElem hlt⟩
  have hb := hrs r (List.mem_of_getElem? hri)
  obtain ⟨R, rfl⟩ := Int.eq_ofNat_of_zero_le hb.1
  obtain ⟨x, hx⟩ : ∃ x, X[R]? = some x := ⟨_, List.getElem?_eq_getElem (by omega)⟩
  have hRl : R < X.length := by omega
  obtain ⟨vs, hvs, hs⟩ := hX.mono hG1
  obtain ⟨a1, c1, hu, hQ⟩ := hvs.at hx
  have hhas : hasC X col (R : Int) = (decide (0 ≤ col) && decide (col < (x.length : Int))) := by
   unfold hasC; rw [Int.toNat_natCast, List.getD_eq_getElem?_getD, hx]; rfl
  have hno : hasC X col (R : Int) = false → rs.all (hasC X col) = false := fun h => by
   rw [List.all_eq_false]; exact ⟨_, List.mem_of_getElem? hri, by rw [h]; decide⟩
  try refine RUN ?_
  refine EVL.idxR tO rfl rfl rfl rfl rfl rfl rfl rfl rfl rfl ((hr.mono hG1)) (i) (rfl) (hlt) ((by rw [List.getElem?_map, hri]; rfl)) ?_
  try refine RUN ?_
  by_cases hc : col < 0
  ·apply EV.drawn 11 (by kernel_rfl) (by kernel_rfl); intro xv yw
   (repeat (first | refine' DV ?_ | refine' DA ?_ | refine' DK0 ?_ | refine' DT ?_ | refine' DS ?_))
   rw [decide_eq_true hc]
   (repeat (first | refine' DV ?_ | refine' DA ?_ | refine' DK0 ?_ | refine' DT ?_ | refine' DS ?_))
   (refine DJ.nil (fun G1 hG1 hF1 => ?_); (case hS => rfl); (case hS2 => rfl))
   try refine RUN ?_
   exact ⟨[], IL.nil _ _ _, .inr ⟨hno (by rw [hhas]; simp; omega), rfl⟩⟩
  ·apply EV.drawn 11 (by kernel_rfl) (by kernel_rfl); intro xv yw
   (repeat (first | refine' DV ?_ | refine' DA ?_ | refine' DK0 ?_ | refine' DT ?_ | refine' DS ?_))
   rw [decide_eq_false hc]
   (repeat (first | refine' DV ?_ | refine' DA ?_ | refine' DK0 ?_ | refine' DT ?_ | refine' DS ?_))
   refine' DJ.ofVal (ValOk.idx1 tO rfl rfl rfl rfl rfl rfl rfl rfl (hs) (R) (rfl) (hRl) (hu)) rfl rfl rfl ?_; rotate_left
   (repeat (first | refine' DV ?_ | refine' DA ?_ | refine' DK0 ?_ | refine' DT ?_ | refine' DS ?_))
   (refine DJ.nil (fun G1 hG1 hF1 => ?_); (case hS => rfl); (case hS2 => rfl))
   try refine RUN ?_
   by_cases hc2 : col ≥ (x.length : Int)
   ·rw [decide_eq_true hc2]
    try refine RUN ?_
    exact ⟨[], IL.nil _ _ _, .inr ⟨hno (by rw [hhas]; simp; omega), rfl⟩⟩
   ·rw [decide_eq_false hc2]
    try refine RUN ?_
    refine ⟨i + 1, ⟨?_, trivial⟩, (by repeat (first | exact trivial | refine And.intro rfl ?_)), trivial, (by repeat (first | exact trivial | refine And.intro rfl ?_)), rfl, ⟨hlt, fun z hz => ?_⟩, by assumption, by omega⟩
    ·rw [wi_inc i (by omega)]; rfl
    ·rw [take_snoc hri] at hz
     rcases List.mem_append.1 hz with hz | hz
     ·exact hall z hz
     ·rw [List.mem_singleton.1 hz, hhas]; simp; omega
 ·simp only [nN] at hlt
  obtain rfl : i = rs.length := by omega
  rw [List.take_length] at hall
  have hall2 : rs.all (hasC X col) = true := List.all_eq_true.2 hall
  try refine RUN ?_
  (first | refine EVL.unbox (3) rfl fun bx => ?_ | refine EV.unbox (3) rfl fun bx => ?_)
  (first | refine EVL.unbox (5) rfl fun bc => ?_ | refine EV.unbox (5) rfl fun bc => ?_)
  (first | refine EVL.publish [] [(bx, _, _)] rfl fun G2 hG2 hbc => ?_ | refine EV.publish [] [(bx, _, _)] rfl fun G2 hG2 hbc => ?_)
  (first | refine EVL.publish [] [] rfl fun G3 hG3 hbx => ?_ | refine EV.publish [] [] rfl fun G3 hG3 hbx => ?_)
  have hXG := hX.mono (hG1.trans (hG2.trans hG3))
  have hbcG := hG3 _ _ hbc
  have hrG := hr.mono (hG1.trans (hG2.trans hG3))
  by_cases h0 : rs.length = 0
  ·obtain rfl := List.length_eq_zero_iff.1 h0
   refine EVL.call rfl rfl rfl rfl rfl (cloneI_nil hrG) ?_
   rintro r G4 ⟨a4, c4, rfl⟩ hG4
   try refine RUN ?_
   refine EVL.fn2 rfl rfl rfl rfl rfl rfl ?_
   refine EVL.call rfl rfl rfl rfl rfl (stableI_nil a4 c4 _) ?_
   rintro r G5 rfl hG5
   try refine RUN ?_
   exact ⟨[], IL.nil _ _ _, .inl ⟨hall2, List.Perm.refl _, List.Pairwise.nil⟩⟩
  ·refine EVL.callW rfl rfl rfl rfl rfl ([]) ([]) rfl (cloneI_pw hrG (by omega) (by omega)) ?_
   rintro r ow G4 hown hG4
   obtain ⟨g, c4, sp, rfl, rfl, hl4, hm4, hx4⟩ := hown.block (by omega)
   try refine RUN ?_
   refine EVL.fn2 rfl rfl rfl rfl rfl rfl ?_
   refine EVL.callW rfl rfl rfl rfl rfl ([(g, 3, rs.map iv ++ sp)]) ([]) rfl (stableI_pw (f := 123) (cs := [.pointer (some ⟨bx, 0, none⟩), .pointer (some ⟨bc, 0, none⟩)]) (key := colK X col) hn (cO func123) (fun G hG x y hx hy => cmpClo_pc (hXG.mono (hG4.trans hG)) ((hG4.trans hG) _ _ hbx) ((hG4.trans hG) _ _ hbcG) hsm (hrs x hx).1 (hrs x hx).2 (hrs y hy).1 (hrs y hy).2 (hall x hx) (hall y hy))) ?_
   rintro v ow G5 ⟨rfl, m, rfl, hp, hris⟩ hG5
   have hml := hp.length_eq
   have hown2 : OwnL 3 1 (.slice (some ⟨g, 0, none⟩) m.length c4) m.length (m.map iv) [(g, 3, m.map iv ++ sp)] := ⟨by simp, .inr ⟨g, c4, sp, rfl, rfl, by rw [← hl4]; simp [hml], by omega, hx4⟩⟩
   rw [← hml]
   (first | refine EVL.publishL [] [(g, 3, m.map iv ++ sp)] [] (rfl) hown2 fun G6 hG6 hs6 => ?_ | refine EV.publishL [] [(g, 3, m.map iv ++ sp)] [] (rfl) hown2 fun G6 hG6 hs6 => ?_)
   try refine RUN ?_
   exact ⟨m, hs6, .inl ⟨hall2, hp, hris⟩⟩
theorem middle_pv (a b : Rat) (ha : ht a ≤ 100000) (hb : ht b ≤ 100000) : PV prog 76 #[fracV a, fracV b] (fracV ((a + b) / 2)) := by
 refine PV.of_pc ?_
 have h1 := ht_add a b
 have h2 : ht ((2 : Int) : Rat) ≤ 10 := by
  have := ht_int 2
  have h2 : bl (2 : Int).natAbs ≤ 5 := bl_le (by decide)
  omega
 have hadd := add_pv a b (sm_of ha (by omega)) (sm_of hb (by omega))
 have hof := of_pv 2 (by omega) (by omega)
 have hdiv := div_pv (a + b) ((2 : Int) : Rat) (sm_of h1 (by omega)) (sm_of h2 (by omega)) (by decide)
 rw [show ((2 : Int) : Rat) = 2 from rfl] at hdiv hof
 refine BD func76 ntmps76 ?_
 repeat (first | refine RUN ?_ | refine CV (hadd) ?_ | refine CV (hof) ?_ | refine CV (hdiv) ?_ | refine CE (hadd) ?_ | refine CE (hof) ?_ | refine CE (hdiv) ?_)
 rfl
theorem ordQ_le {a b : Rat} (h : a ≤ b) : ordR a b ≤ 0 := by
 unfold ordR
 split
 ·omega
 ·split
  ·rename_i k; exact absurd k (Rat.not_lt.2 h)
  ·omega
def lowL (X : List (List Rat)) (col : Int) (t : Rat) (es : List Int) : List Int := es.filter fun r => hasC X col r && decide (colK X col r ≤ t)
def highL (X : List (List Rat)) (col : Int) (t : Rat) (es : List Int) : List Int := es.filter fun r => hasC X col r && !decide (colK X col r ≤ t)
theorem filter_snoc {p : Int → Bool} {es : List Int} {i : Nat} {r : Int} (h : es[i]? = some r) : (es.take (i + 1)).filter p = (es.take i).filter p ++ if p r then [r] else [] := by
 rw [take_snoc h, List.filter_append]
 cases hp : p r <;> simp [hp]
set_option maxHeartbeats 8000000 in
theorem sides_pc {H : Hp} {vx vr : Value} {X : List (List Rat)} {rs : List Int} {col : Int} {t : Rat} (hX : QLL H vx X) (hr : IL H vr rs) (hn : rs.length ≤ 100000) (hsm : ∀ x, x ∈ X → ∀ q, q ∈ x → sm q) (ht : sm t) :
  PC prog 27 #[vx, vr, .int .i64 col, fracV t] H fun r H' => ∃ u w, r = .tuple #[u, w] ∧ IL H' u (lowL X col t (exL rs X.length)) ∧ IL H' w (highL X col t (exL rs X.length)) := by
 obtain ⟨a, cap, rfl⟩ := SlC.val hr
 obtain ⟨xa, xc, rfl⟩ := hX.val
 refine BD func27 ntmps27 ?_
 try refine RUN ?_
 refine EVL.call rfl rfl rfl rfl rfl (existing_pc hr (by omega) X.length) ?_
 intro r1 G0 he hG0
 have hel := exL_len rs X.length
 have heb := exL_mem (rs := rs) (n := X.length)
 generalize exL rs X.length = es at *
 obtain ⟨a1, c1, rfl⟩ := SlC.val he
 try refine RUN ?_
 refine EV.loopK (ι := Nat × Value × Value × Ows × Ows) [0, 2, 7, 15, 16] [7] (fun q => [(8, .v q.2.1), (9, .v q.2.2.1), (17, .v (.int .i64 (q.1 : Int)))]) (fun _ => []) (fun q => q.2.2.2.1 ++ q.2.2.2.2) (fun q _ => q.1 ≤ es.length ∧ OwnL 3 1 q.2.1 (lowL X col t (es.take q.1)).length ((lowL X col t (es.take q.1)).map iv) q.2.2.2.1 ∧ OwnL 3 1 q.2.2.1 (highL X col t (es.take q.1)).length ((highL X col t (es.take q.1)).map iv) q.2.2.2.2) (fun q => es.length - q.1) ((0, .slice none 0 0, .slice none 0 0, [], [])) rfl rfl ⟨rfl, rfl, rfl, trivial⟩ trivial rfl (fun _ => rfl) (⟨Nat.zero_le _, OwnL.nil _ _, OwnL.nil _ _⟩) ?_
 rintro ⟨i, w1, w2, ow1, ow2⟩ G1 hG1 ⟨hi, hown1, hown2⟩
 dsimp only at hi hown1 hown2
 obtain ⟨wa1, wc1, rfl⟩ := hown1.val
 obtain ⟨wa2, wc2, rfl⟩ := hown2.val
 try refine RUN ?_
 refine EV.cond rfl (fun hlt => ?_) (fun hlt => ?_)
 ·simp only [nN] at hlt
  obtain ⟨r, hri⟩ : ∃ r, es[i]? = some r := ⟨_, List.getElem?_eq_getElem hlt⟩
  have hb := heb r (List.mem_of_getElem? hri)
  obtain ⟨R, rfl⟩ := Int.eq_ofNat_of_zero_le hb.1
  obtain ⟨x, hx⟩ : ∃ x, X[R]? = some x := ⟨_, List.getElem?_eq_getElem (by omega)⟩
  have hRl : R < X.length := by omega
  obtain ⟨vs, hvs, hs⟩ := hX.mono (hG0.trans hG1)
  obtain ⟨a2, c2, hu, hQ⟩ := hvs.at hx
  have hlo := filter_snoc (p := fun r => hasC X col r && decide (colK X col r ≤ t)) hri
  have hhi := filter_snoc (p := fun r => hasC X col r && !decide (colK X col r ≤ t)) hri
  have hhas : hasC X col (R : Int) = (decide (0 ≤ col) && decide (col < (x.length : Int))) := by
   unfold hasC; rw [Int.toNat_natCast, List.getD_eq_getElem?_getD, hx]; rfl
  have hl1 : (lowL X col t (es.take i)).length ≤ i := Nat.le_trans (List.length_filter_le _ _) (by rw [List.length_take]; omega)
  have hl2 : (highL X col t (es.take i)).length ≤ i := Nat.le_trans (List.length_filter_le _ _) (by rw [List.length_take]; omega)
  have wn : IntKind.i64.wrap ((i : Int) + 1) = ((i + 1 : Nat) : Int) := wi_inc i (by omega)
  try refine RUN ?_
  refine EVL.idxR tO rfl rfl rfl rfl rfl rfl rfl rfl rfl rfl ((he.mono hG1)) (i) (rfl) (hlt) ((by rw [List.getElem?_map, hri]; rfl)) ?_
  try refine RUN ?_
  by_cases hc : col < 0
  ·have hno : hasC X col (R : Int) = false := by rw [hhas]; simp; omega
   rw [hno, Bool.false_and, if_neg (by decide), List.append_nil] at hlo hhi
   rw [decide_eq_true hc]
   try refine RUN ?_
   refine ⟨(i + 1, _, _, ow1, ow2), ⟨rfl, rfl, ?_, trivial⟩, (by repeat (first | exact trivial | refine And.intro rfl ?_)), trivial, (by repeat (first | exact trivial | refine And.intro rfl ?_)), rfl, ⟨hlt, by unfold lowL; rw [hlo]; exact hown1, by unfold highL; rw [hhi]; exact hown2⟩, Hp.Le.refl _, by dsimp only; omega⟩
   rw [wn]; rfl
  ·rw [decide_eq_false hc]
   try refine RUN ?_
   refine EVL.idxR tO rfl rfl rfl rfl rfl rfl rfl rfl rfl rfl (hs) (R) (rfl) (hRl) (hu) ?_
   try refine RUN ?_
   by_cases hc2 : col ≥ (x.length : Int)
   ·have hno : hasC X col (R : Int) = false := by rw [hhas]; simp; omega
    rw [hno, Bool.false_and, if_neg (by decide), List.append_nil] at hlo hhi
    rw [decide_eq_true hc2]
    try refine RUN ?_
    refine ⟨(i + 1, _, _, ow1, ow2), ⟨rfl, rfl, ?_, trivial⟩, (by repeat (first | exact trivial | refine And.intro rfl ?_)), trivial, (by repeat (first | exact trivial | refine And.intro rfl ?_)), rfl, ⟨hlt, by unfold lowL; rw [hlo]; exact hown1, by unfold highL; rw [hhi]; exact hown2⟩, Hp.Le.refl _, by dsimp only; omega⟩
    rw [wn]; rfl
   ·have hyes : hasC X col (R : Int) = true := by rw [hhas]; simp; omega
    obtain ⟨R', C, x', q, hRR, rfl, hx', hq⟩ := hasC_at hb.1 hb.2 hyes
    obtain rfl : R = R' := by omega
    rw [hx] at hx'; cases hx'
    have hk := colK_at (X := X) rfl rfl hx hq
    have hs2 : SlC G1 (.slice a2 x.length c2) x.length 5 (x.flatMap fun q => vlist (fracV q)) := hQ
    have hCl := (List.getElem?_eq_some_iff.1 hq).1
    have hcmp := cmp_pv q t (hsm x (List.mem_of_getElem? hx) q (List.mem_of_getElem? hq)) ht
    rw [hyes, Bool.true_and, hk] at hlo hhi
    rw [decide_eq_false hc2]
    try refine RUN ?_
    apply EV.drawn 8 (by kernel_rfl) (by kernel_rfl); intro xv yw
    (repeat (first | refine' DV ?_ | refine' DA ?_ | refine' DK0 ?_ | refine' DT ?_ | refine' DS ?_))
    refine' DJ.ofVal (ValOk.idx1 tO rfl rfl rfl rfl rfl rfl rfl rfl (hs) (R) (rfl) (hRl) (hu)) rfl rfl rfl ?_; rotate_left
    (repeat (first | refine' DV ?_ | refine' DA ?_ | refine' DK0 ?_ | refine' DT ?_ | refine' DS ?_))
    refine' DJ.idxM tO rfl rfl rfl rfl rfl rfl rfl rfl rfl (hs2) (C) (rfl) (hCl) (QL.at (H := H) (v := .bool true) hq) ?_; rotate_left
    (repeat (first | refine' DV ?_ | refine' DA ?_ | refine' DK0 ?_ | refine' DT ?_ | refine' DS ?_))
    (refine DJ.nil (fun G2 hG2 hF2 => ?_); (case hS => rfl); (case hS2 => rfl))
    repeat (first | refine RUN ?_ | refine CV (hcmp) ?_ | refine CE (hcmp) ?_)
    by_cases hle : q ≤ t
    ·have ho : ordR q t ≤ 0 := ordQ_le hle
     rw [decide_eq_true hle, if_pos rfl] at hlo
     rw [decide_eq_true hle, if_neg (by decide), List.append_nil] at hhi
     rw [decide_eq_true ho]
     try refine RUN ?_
     refine EVL.app1 tO rfl rfl rfl rfl rfl rfl rfl rfl rfl rfl rfl rfl rfl rfl rfl rfl rfl rfl rfl (fun _ => rfl) (ow1) (ow2) (rfl) (hown1) (by omega) fun _ => ?_
     intro v' ow' hown'
     try refine RUN ?_
     refine ⟨(i + 1, v', _, ow', ow2), ⟨rfl, rfl, ?_, trivial⟩, (by repeat (first | exact trivial | refine And.intro rfl ?_)), trivial, (by repeat (first | exact trivial | refine And.intro rfl ?_)), rfl, ⟨hlt, by unfold lowL; rw [hlo]; exact hown'.il, by unfold highL; rw [hhi]; exact hown2⟩, by assumption, by dsimp only; omega⟩
     rw [wn]; rfl
    ·have ho : ¬ ordR q t ≤ 0 := by
      have := Rat.not_le.1 hle
      unfold ordR
      rw [if_neg (fun k => absurd (Rat.le_of_lt k) (Rat.not_le.2 this)), if_pos this]; omega
     rw [decide_eq_false hle, if_neg (by decide), List.append_nil] at hlo
     rw [decide_eq_false hle, Bool.not_false, if_pos rfl] at hhi
     rw [decide_eq_false ho]
     try refine RUN ?_
     refine EVL.swapOw ow1 ow2 rfl ?_
     refine EVL.app1 tO rfl rfl rfl rfl rfl rfl rfl rfl rfl rfl rfl rfl rfl rfl rfl rfl rfl rfl rfl (fun _ => rfl) (ow2) (ow1) (rfl) (hown2) (by omega) fun _ => ?_
     intro v' ow' hown'
     refine EVL.swapOw ow' ow1 rfl ?_
     try refine RUN ?_
     refine ⟨(i + 1, _, v', ow1, ow'), ⟨rfl, rfl, ?_, trivial⟩, (by repeat (first | exact trivial | refine And.intro rfl ?_)), trivial, (by repeat (first | exact trivial | refine And.intro rfl ?_)), rfl, ⟨hlt, by unfold lowL; rw [hlo]; exact hown1, by unfold highL; rw [hhi]; exact hown'.il⟩, by assumption, by dsimp only; omega⟩
     rw [wn]; rfl
 ·simp only [nN] at hlt
  obtain rfl : i = es.length := by omega
  rw [List.take_length] at hown1 hown2 ⊢
  (first | refine EVL.publishL [] ow1 ow2 (rfl) hown1 fun G2 hG2 hs2 => ?_ | refine EV.publishL [] ow1 ow2 (rfl) hown1 fun G2 hG2 hs2 => ?_)
  (first | refine EVL.publishL [] ow2 [] ((List.append_nil _).symm) hown2 fun G3 hG3 hs3 => ?_ | refine EV.publishL [] ow2 [] ((List.append_nil _).symm) hown2 fun G3 hG3 hs3 => ?_)
  try refine RUN ?_
  exact ⟨_, _, rfl, hs2.mono hG3, hs3⟩
def cntL (C : Nat) (l : List Int) : List Int := (List.range C).map fun (k : Nat) => (l.count (k : Int) : Int)
theorem cntL_len (C : Nat) (l : List Int) : (cntL C l).length = C := by simp [cntL]
theorem cntL_at {C : Nat} (l : List Int) {k : Nat} (hk : k < C) : (cntL C l)[k]? = some (l.count (k : Int) : Int) := by
 unfold cntL; rw [List.getElem?_map, List.getElem?_range hk]; rfl
theorem cntL_snoc {C : Nat} (l : List Int) {k : Nat} (hk : k < C) : cntL C (l ++ [(k : Int)]) = (cntL C l).set k ((l.count (k : Int) + 1 : Nat) : Int) := by
 apply List.ext_getElem?
 intro j
 rw [List.getElem?_set]
 by_cases hj : j < C
 ·rw [cntL_at _ hj, cntL_at _ hj, count_snoc, cntL_len]
  by_cases e : k = j
  ·subst e; rw [if_pos rfl, if_pos rfl, if_pos hk]
  ·rw [if_neg e, if_neg (by omega), Nat.add_zero]
 ·rw [List.getElem?_eq_none (by rw [cntL_len]; omega), List.getElem?_eq_none (by rw [cntL_len]; omega), if_neg (by omega)]
theorem cnt_zero (C : Nat) : (List.replicate C [iv 0]).flatten = (cntL C []).map iv ++ [] := by
 have : cntL C [] = List.replicate C 0 := by
  unfold cntL
  apply List.ext_getElem?
  intro j
  by_cases hj : j < C
  ·rw [List.getElem?_map, List.getElem?_range hj, List.getElem?_replicate, if_pos hj]; simp
  ·rw [List.getElem?_eq_none (by simp; omega), List.getElem?_eq_none (by simp; omega)]
 rw [this, List.append_nil]
 induction C with
 | zero => rfl
 | succ n ih =>
  rw [List.replicate_succ, List.flatten_cons, List.replicate_succ, List.map_cons, List.singleton_append]
  congr 1
  apply ih
  unfold cntL
  apply List.ext_getElem?
  intro j
  by_cases hj : j < n
  ·rw [List.getElem?_map, List.getElem?_range hj, List.getElem?_replicate, if_pos hj]; simp
  ·rw [List.getElem?_eq_none (by simp; omega), List.getElem?_eq_none (by simp; omega)]
theorem il_own {H : Hp} {b m : Nat} {l : List Int} {sp : List Value} (h : H b = some (l.map iv ++ sp).toArray) (hm : l.length = m) : IL H (.slice (some ⟨b, 0, none⟩) m m) l := by
 subst hm
 refine ⟨by simp, .inr ⟨b, 0, l.length, _, rfl, Nat.le_refl _, h, fun j x hj => ?_⟩⟩
 rw [Nat.zero_add]
 have hl := (List.getElem?_eq_some_iff.1 hj).1
 rw [List.getElem?_toArray, List.getElem?_append_left hl]; exact hj
set_option maxHeartbeats 4000000 in
theorem countsC_pc {H : Hp} {v : Value} {rs : List Int} (hr : IL H v rs) (hn : rs.length ≤ 300) {va : Option Addr} {vc : Nat} {la : Option Addr} {lc : Nat} {ls : List Int} (hv : IL H (.slice la ls.length lc) ls) {C : Nat} (hc : 1 ≤ C ∧ C ≤ 12) (h0 : 1 ≤ ls.length) (h1 : ls.length ≤ 300) (hls : ∀ z, z ∈ ls → 0 ≤ z ∧ z < (C : Int)) :
  PC prog 31 #[goalV 1 C (.slice la ls.length lc) (.slice va 0 vc), v] H fun r H' => IL H' r (cntL C (atI ls (exL rs ls.length))) := by
 have hchk := checkC_pc (va := va) (vc := vc) hv (cl := (C : Int)) (by omega) h0 h1 hls
 have hel := exL_len rs ls.length
 have heb := exL_mem (rs := rs) (n := ls.length)
 have hex := existing_pc hr (by omega) ls.length
 generalize exL rs ls.length = es at *
 obtain ⟨a, cap, rfl⟩ := SlC.val hr
 refine BD func31 ntmps31 ?_
 repeat (first | refine RUN ?_ | refine CV (hchk) ?_ | refine CE (hchk) ?_)
 refine EVL.make tO rfl rfl rfl rfl rfl rfl rfl rfl rfl (C) (rfl) (by omega) (by rfl) (by rfl) fun b => ?_
 try refine RUN ?_
 refine EVL.call rfl rfl rfl rfl rfl (hex) ?_
 intro r1 G1 he hG1
 obtain ⟨ea, ec, rfl⟩ := SlC.val he
 (first | refine EVL.swapOw ([(b, 3, (cntL C (atI ls (es.take 0))).map iv ++ [])]) ([]) ((by rw [show atI ls (es.take 0) = [] from rfl, ← cnt_zero]; rfl)) ?_ | refine EV.swapOw ([(b, 3, (cntL C (atI ls (es.take 0))).map iv ++ [])]) ([]) ((by rw [show atI ls (es.take 0) = [] from rfl, ← cnt_zero]; rfl)) ?_)
 try refine RUN ?_
 refine EV.loopK (ι := Nat) [2, 5, 23, 24] [2] (fun i => [(25, .v (.int .i64 (i : Int)))]) (fun _ => []) (fun i => [(b, 3, (cntL C (atI ls (es.take i))).map iv ++ [])]) (fun i _ => i ≤ es.length) (fun i => es.length - i) (0) rfl rfl ⟨rfl, trivial⟩ trivial rfl (fun _ => rfl) (Nat.zero_le _) ?_
 rintro i G2 hG2 hi
 try refine RUN ?_
 refine EV.cond rfl (fun hlt => ?_) (fun hlt => ?_)
 ·simp only [nN] at hlt
  obtain ⟨r, hri⟩ : ∃ r, es[i]? = some r := ⟨_, List.getElem?_eq_getElem hlt⟩
  have hb := heb r (List.mem_of_getElem? hri)
  obtain ⟨R, rfl⟩ := Int.eq_ofNat_of_zero_le hb.1
  obtain ⟨x, hx⟩ : ∃ x, ls[R]? = some x := ⟨_, List.getElem?_eq_getElem (by omega)⟩
  have hRl : R < ls.length := by omega
  have hxb := hls x (List.mem_of_getElem? hx)
  obtain ⟨k, rfl⟩ := Int.eq_ofNat_of_zero_le hxb.1
  have hk : k < C := by omega
  have hsn : atI ls (es.take (i + 1)) = atI ls (es.take i) ++ [(k : Int)] := by
   rw [take_snoc hri]
   unfold atI
   rw [List.map_append, List.map_cons, Int.toNat_natCast, List.getD_eq_getElem?_getD, hx]; rfl
  have hcl : (atI ls (es.take i)).count (k : Int) ≤ 300 := Nat.le_trans List.count_le_length (by rw [atI_len, List.length_take]; omega)
  have hget := cntL_at (C := C) (atI ls (es.take i)) hk
  have hcn := cntL_snoc (C := C) (atI ls (es.take i)) hk
  rw [← hsn] at hcn
  have hlen := cntL_len C (atI ls (es.take i))
  generalize cntL C (atI ls (es.take i)) = cs at *
  generalize (atI ls (es.take i)).count (k : Int) = m at *
  have wm : IntKind.i64.wrap ((m : Int) + 1) = ((m + 1 : Nat) : Int) := wi_inc m (by omega)
  try refine RUN ?_
  refine EVL.idxR tO rfl rfl rfl rfl rfl rfl rfl rfl rfl rfl ((he.mono hG2)) (i) (rfl) (hlt) ((by rw [List.getElem?_map, hri]; rfl)) ?_
  try refine RUN ?_
  refine EVL.idxR tO rfl rfl rfl rfl rfl rfl rfl rfl rfl rfl ((hv.mono (hG1.trans hG2))) (R) (rfl) (hRl) ((by rw [List.getElem?_map, hx]; rfl)) ?_
  try refine RUN ?_
  refine EVL.idxB tO rfl rfl rfl rfl rfl rfl rfl rfl rfl (k) (k * 1) (rfl) (hk) (rfl) ?_
  refine EVL.loadOwn tO rfl rfl rfl rfl rfl rfl (0) rfl (ci_get [] hget) rfl rfl ?_
  try refine RUN ?_
  rw [wm]
  refine EVL.idxB tO rfl rfl rfl rfl rfl rfl rfl rfl rfl (k) (k * 1) (rfl) (hk) (rfl) ?_
  refine EVL.storeOwn tO rfl rfl rfl rfl rfl rfl ([]) ([]) rfl rfl rfl rfl ((by rw [List.length_append, List.length_map, hlen]; show k * 1 + 1 ≤ _; omega)) (ci_set [] _ (show k < cs.length by omega)) ?_
  try refine RUN ?_
  refine ⟨i + 1, ⟨by rw [wi_inc i (by omega)]; rfl, trivial⟩, (by repeat (first | exact trivial | refine And.intro rfl ?_)), trivial, (by repeat (first | exact trivial | refine And.intro rfl ?_)), by rw [hcn]; rfl, hlt, Hp.Le.refl _, by omega⟩
 ·simp only [nN] at hlt
  obtain rfl : i = es.length := by omega
  rw [List.take_length]
  (first | refine EVL.publish [] [] rfl fun G3 hG3 hb3 => ?_ | refine EV.publish [] [] rfl fun G3 hG3 hb3 => ?_)
  try refine RUN ?_
  exact il_own hb3 (cntL_len _ _)
set_option maxHeartbeats 4000000 in
theorem refCounts_pc {H : Hp} {v : Value} {rs : List Int} (hr : IL H v rs) (hn : rs.length ≤ 300) {kd : Int} {sv : Value} {la : Option Addr} {lc : Nat} {ls : List Int} (hv : IL H (.slice la ls.length lc) ls) {C : Nat} (hc : C ≤ 12) (hls : ∀ z, z ∈ ls → 0 ≤ z ∧ z < (C : Int)) :
  PC prog 32 #[goalV kd C (.slice la ls.length lc) sv, v] H fun r H' => IL H' r (cntL C (atI ls (exL rs ls.length))) := by
 obtain ⟨a, cap, rfl⟩ := SlC.val hr
 refine BD func32 ntmps32 ?_
 try refine RUN ?_
 refine EVL.make tO rfl rfl rfl rfl rfl rfl rfl rfl rfl (C) (rfl) (by omega) (by rfl) (by rfl) fun b => ?_
 (first | refine EVL.swapOw ([(b, 3, (cntL C (atI ls (exL (rs.take 0) ls.length))).map iv ++ [])]) ([]) ((by rw [show atI ls (exL (rs.take 0) ls.length) = [] from rfl, ← cnt_zero]; rfl)) ?_ | refine EV.swapOw ([(b, 3, (cntL C (atI ls (exL (rs.take 0) ls.length))).map iv ++ [])]) ([]) ((by rw [show atI ls (exL (rs.take 0) ls.length) = [] from rfl, ← cnt_zero]; rfl)) ?_)
 try refine RUN ?_
 refine EV.loopK (ι := Nat) [1, 2, 5] [2] (fun i => [(6, .v (.int .i64 (i : Int)))]) (fun _ => []) (fun i => [(b, 3, (cntL C (atI ls (exL (rs.take i) ls.length))).map iv ++ [])]) (fun i _ => i ≤ rs.length) (fun i => rs.length - i) (0) rfl rfl ⟨rfl, trivial⟩ trivial rfl (fun _ => rfl) (Nat.zero_le _) ?_
 rintro i G2 hG2 hi
 try refine RUN ?_
 refine EV.cond rfl (fun hlt => ?_) (fun hlt => ?_)
 ·simp only [nN] at hlt
  obtain ⟨r, hri⟩ : ∃ r, rs[i]? = some r := ⟨_, List.getElem?_eq_getElem hlt⟩
  have hex := ex_take (n := ls.length) hri
  have hel := exL_len (rs.take i) ls.length
  rw [List.length_take] at hel
  have wn : IntKind.i64.wrap ((i : Int) + 1) = ((i + 1 : Nat) : Int) := wi_inc i (by omega)
  have hr2 := hr.mono hG2
  try refine RUN ?_
  by_cases h1 : r ≥ 0
  ·obtain ⟨R, rfl⟩ := Int.eq_ofNat_of_zero_le h1
   apply EV.drawn 14 (by kernel_rfl) (by kernel_rfl); intro xv yw
   (repeat (first | refine' DV ?_ | refine' DA ?_ | refine' DK0 ?_ | refine' DT ?_ | refine' DS ?_))
   refine' DJ.ofVal (ValOk.idx1 tO rfl rfl rfl rfl rfl rfl rfl rfl (hr2) (i) (rfl) (hlt) ((by rw [List.getElem?_map, hri]; rfl))) rfl rfl rfl ?_; rotate_left
   (repeat (first | refine' DV ?_ | refine' DA ?_ | refine' DK0 ?_ | refine' DT ?_ | refine' DS ?_))
   rw [decide_eq_true h1]
   (repeat (first | refine' DV ?_ | refine' DA ?_ | refine' DK0 ?_ | refine' DT ?_ | refine' DS ?_))
   refine' DJ.ofVal (ValOk.idx1 tO rfl rfl rfl rfl rfl rfl rfl rfl (hr2) (i) (rfl) (hlt) ((by rw [List.getElem?_map, hri]; rfl))) rfl rfl rfl ?_; rotate_left
   (repeat (first | refine' DV ?_ | refine' DA ?_ | refine' DK0 ?_ | refine' DT ?_ | refine' DS ?_))
   (refine DJ.nil (fun G3 hG3 hF3 => ?_); (case hS => rfl); (case hS2 => rfl))
   try refine RUN ?_
   by_cases h2 : (R : Int) < (ls.length : Int)
   ·have hp : inR ls.length (R : Int) = true := by unfold inR; simp; omega
    rw [hp, if_pos rfl] at hex
    have hRl : R < ls.length := by omega
    obtain ⟨x, hx⟩ : ∃ x, ls[R]? = some x := ⟨_, List.getElem?_eq_getElem hRl⟩
    have hxb := hls x (List.mem_of_getElem? hx)
    obtain ⟨k, rfl⟩ := Int.eq_ofNat_of_zero_le hxb.1
    have hk : k < C := by omega
    have hsn : atI ls (exL (rs.take (i + 1)) ls.length) = atI ls (exL (rs.take i) ls.length) ++ [(k : Int)] := by
     rw [hex]
     unfold atI
     rw [List.map_append, List.map_cons, Int.toNat_natCast, List.getD_eq_getElem?_getD, hx]; rfl
    have hcl : (atI ls (exL (rs.take i) ls.length)).count (k : Int) ≤ 300 := Nat.le_trans List.count_le_length (by rw [atI_len]; omega)
    have hget := cntL_at (C := C) (atI ls (exL (rs.take i) ls.length)) hk
    have hcn := cntL_snoc (C := C) (atI ls (exL (rs.take i) ls.length)) hk
    rw [← hsn] at hcn
    have hlen := cntL_len C (atI ls (exL (rs.take i) ls.length))
    generalize cntL C (atI ls (exL (rs.take i) ls.length)) = cs at *
    generalize (atI ls (exL (rs.take i) ls.length)).count (k : Int) = m at *
    have wm : IntKind.i64.wrap ((m : Int) + 1) = ((m + 1 : Nat) : Int) := wi_inc m (by omega)
    have hr3 := hr2.mono hG3
    have hv3 := hv.mono (hG2.trans hG3)
    rw [decide_eq_true h2]
    try refine RUN ?_
    apply EV.drawn 13 (by kernel_rfl) (by kernel_rfl); intro xv yw
    (repeat (first | refine' DV ?_ | refine' DA ?_ | refine' DK0 ?_ | refine' DT ?_ | refine' DS ?_))
    refine' DJ.ofVal (ValOk.idx1 tO rfl rfl rfl rfl rfl rfl rfl rfl (hr3) (i) (rfl) (hlt) ((by rw [List.getElem?_map, hri]; rfl))) rfl rfl rfl ?_; rotate_left
    (repeat (first | refine' DV ?_ | refine' DA ?_ | refine' DK0 ?_ | refine' DT ?_ | refine' DS ?_))
    refine' DJ.ofVal (ValOk.idx1 tO rfl rfl rfl rfl rfl rfl rfl rfl (hv3) (R) (rfl) (hRl) ((by rw [List.getElem?_map, hx]; rfl))) rfl rfl rfl ?_; rotate_left
    (repeat (first | refine' DV ?_ | refine' DA ?_ | refine' DK0 ?_ | refine' DT ?_ | refine' DS ?_))
    refine' DJ.idxB tO rfl rfl rfl rfl rfl rfl rfl rfl rfl (k) (k * 1) (rfl) (hk) (rfl) ?_; rotate_left
    refine' DJ.ofVal (ValOk.loadOwn tO rfl rfl rfl rfl (0) rfl (ci_get [] hget) rfl rfl) rfl rfl rfl ?_; rotate_left
    (repeat (first | refine' DV ?_ | refine' DA ?_ | refine' DK0 ?_ | refine' DT ?_ | refine' DS ?_))
    refine' DJ.idxB tO rfl rfl rfl rfl rfl rfl rfl rfl rfl (k) (k * 1) (rfl) (hk) (rfl) ?_; rotate_left
    (refine DJ.nil (fun G4 hG4 hF4 => ?_); (case hS => rfl); (case hS2 => rfl))
    rw [wm]
    refine EVL.storeOwn tO rfl rfl rfl rfl rfl rfl ([]) ([]) rfl rfl rfl rfl ((by rw [List.length_append, List.length_map, hlen]; show k * 1 + 1 ≤ _; omega)) (ci_set [] _ (show k < cs.length by omega)) ?_
    try refine RUN ?_
    refine ⟨i + 1, ⟨by rw [wn]; rfl, trivial⟩, (by repeat (first | exact trivial | refine And.intro rfl ?_)), trivial, (by repeat (first | exact trivial | refine And.intro rfl ?_)), by rw [hcn]; rfl, hlt, hG3.trans hG4, by omega⟩
   ·have hp : inR ls.length (R : Int) = false := by unfold inR; simp; omega
    rw [hp, if_neg (by decide), List.append_nil] at hex
    rw [decide_eq_false h2]
    try refine RUN ?_
    refine ⟨i + 1, ⟨by rw [wn]; rfl, trivial⟩, (by repeat (first | exact trivial | refine And.intro rfl ?_)), trivial, (by repeat (first | exact trivial | refine And.intro rfl ?_)), by rw [hex], hlt, hG3, by omega⟩
  ·have hp : inR ls.length r = false := by unfold inR; simp; omega
   rw [hp, if_neg (by decide), List.append_nil] at hex
   apply EV.drawn 14 (by kernel_rfl) (by kernel_rfl); intro xv yw
   (repeat (first | refine' DV ?_ | refine' DA ?_ | refine' DK0 ?_ | refine' DT ?_ | refine' DS ?_))
   refine' DJ.ofVal (ValOk.idx1 tO rfl rfl rfl rfl rfl rfl rfl rfl (hr2) (i) (rfl) (hlt) ((by rw [List.getElem?_map, hri]; rfl))) rfl rfl rfl ?_; rotate_left
   (repeat (first | refine' DV ?_ | refine' DA ?_ | refine' DK0 ?_ | refine' DT ?_ | refine' DS ?_))
   rw [decide_eq_false h1]
   (repeat (first | refine' DV ?_ | refine' DA ?_ | refine' DK0 ?_ | refine' DT ?_ | refine' DS ?_))
   (refine DJ.nil (fun G3 hG3 hF3 => ?_); (case hS => rfl); (case hS2 => rfl))
   try refine RUN ?_
   refine ⟨i + 1, ⟨by rw [wn]; rfl, trivial⟩, (by repeat (first | exact trivial | refine And.intro rfl ?_)), trivial, (by repeat (first | exact trivial | refine And.intro rfl ?_)), by rw [hex], hlt, hG3, by omega⟩
 ·simp only [nN] at hlt
  obtain rfl : i = rs.length := by omega
  rw [List.take_length]
  (first | refine EVL.publish [] [] rfl fun G3 hG3 hb3 => ?_ | refine EV.publish [] [] rfl fun G3 hG3 hb3 => ?_)
  try refine RUN ?_
  exact il_own hb3 (cntL_len _ _)
def topN (l : List Int) : Nat → Nat
 | 0 => 0
 | i + 1 => if l.getD (topN l i) 0 < l.getD i 0 then i else topN l i
theorem topN_lt (l : List Int) : ∀ i, topN l i < i ∨ topN l i = 0
 | 0 => .inr rfl
 | i + 1 => by
  unfold topN
  split
  ·exact .inl (Nat.lt_succ_self _)
  ·rcases topN_lt l i with h | h
   ·exact .inl (by omega)
   ·exact .inr h
theorem topN_one (l : List Int) : topN l 1 = 0 := by
 unfold topN topN
 rw [if_neg (by omega)]
theorem getD_at {l : List Int} {i : Nat} (h : i < l.length) : l[i]? = some (l.getD i 0) := by
 rw [List.getD_eq_getElem?_getD, List.getElem?_eq_getElem h]; rfl
set_option maxHeartbeats 4000000 in
theorem refTop_pc {H : Hp} {v : Value} {l : List Int} (hr : IL H v l) (hn : l.length ≤ 300) : PC prog 34 #[v] H fun r _ => r = .int .i64 (topN l l.length : Nat) := by
 obtain ⟨a, cap, rfl⟩ := SlC.val hr
 refine BD func34 ntmps34 ?_
 try refine RUN ?_
 refine EV.loopK (ι := Nat) [0] [] (fun i => [(3, .v (.int .i64 (topN l (i + 1) : Nat))), (4, .v (.int .i64 ((i + 1 : Nat) : Int)))]) (fun _ => []) (fun _ => []) (fun i _ => i ≤ l.length - 1) (fun i => l.length - i) (0) rfl rfl ⟨by rw [topN_one]; rfl, rfl, trivial⟩ trivial rfl (fun _ => rfl) (Nat.zero_le _) ?_
 rintro i G2 hG2 hi
 try refine RUN ?_
 refine EV.cond rfl (fun hlt => ?_) (fun hlt => ?_)
 ·simp only [nN] at hlt
  have hr2 := hr.mono hG2
  have ht := topN_lt l (i + 1)
  have htl : topN l (i + 1) < l.length := by omega
  have g1 := getD_at hlt
  have g2 := getD_at htl
  have hst : topN l (i + 1 + 1) = if l.getD (topN l (i + 1)) 0 < l.getD (i + 1) 0 then i + 1 else topN l (i + 1) := rfl
  have wn : IntKind.i64.wrap (((i + 1 : Nat) : Int) + 1) = ((i + 1 + 1 : Nat) : Int) := wi_inc (i + 1) (by omega)
  generalize topN l (i + 1) = tp at *
  generalize l.getD tp 0 = x at *
  generalize l.getD (i + 1) 0 = y at *
  try refine RUN ?_
  apply EV.drawn 8 (by kernel_rfl) (by kernel_rfl); intro xv yw
  (repeat (first | refine' DV ?_ | refine' DA ?_ | refine' DK0 ?_ | refine' DT ?_ | refine' DS ?_))
  refine' DJ.ofVal (ValOk.idx1 tO rfl rfl rfl rfl rfl rfl rfl rfl (hr2) (i + 1) (rfl) (hlt) ((by rw [List.getElem?_map, g1]; rfl))) rfl rfl rfl ?_; rotate_left
  (repeat (first | refine' DV ?_ | refine' DA ?_ | refine' DK0 ?_ | refine' DT ?_ | refine' DS ?_))
  refine' DJ.ofVal (ValOk.idx1 tO rfl rfl rfl rfl rfl rfl rfl rfl (hr2) (tp) (rfl) (htl) ((by rw [List.getElem?_map, g2]; rfl))) rfl rfl rfl ?_; rotate_left
  (repeat (first | refine' DV ?_ | refine' DA ?_ | refine' DK0 ?_ | refine' DT ?_ | refine' DS ?_))
  (refine DJ.nil (fun G3 hG3 hF3 => ?_); (case hS => rfl); (case hS2 => rfl))
  try refine RUN ?_
  by_cases h : y > x
  ·rw [decide_eq_true h]
   rw [if_pos h] at hst
   try refine RUN ?_
   refine ⟨i + 1, ⟨by rw [hst]; rfl, by rw [wn]; rfl, trivial⟩, (by repeat (first | exact trivial | refine And.intro rfl ?_)), trivial, (by repeat (first | exact trivial | refine And.intro rfl ?_)), rfl, by omega, hG3, by omega⟩
  ·rw [decide_eq_false h]
   rw [if_neg h] at hst
   try refine RUN ?_
   refine ⟨i + 1, ⟨by rw [hst]; rfl, by rw [wn]; rfl, trivial⟩, (by repeat (first | exact trivial | refine And.intro rfl ?_)), trivial, (by repeat (first | exact trivial | refine And.intro rfl ?_)), rfl, by omega, hG3, by omega⟩
 ·simp only [nN] at hlt
  have hfin : topN l (i + 1) = topN l l.length := by
   by_cases h0 : l.length = 0
   ·obtain rfl : i = 0 := by omega
    rw [topN_one, h0]; rfl
   ·rw [show i + 1 = l.length by omega]
  rw [hfin]
  try refine RUN ?_
  rfl
set_option maxHeartbeats 4000000 in
theorem topOf_pc {H : Hp} {g v w : Value} {l : List Int} (hg : ∃ kd cl sl sv, g = goalV kd cl sl sv) (hc : PC prog 31 #[g, v] H fun r H' => IL H' r l) (hn : l.length ≤ 300) : PC prog 33 #[g, v] H fun r _ => r = .int .i64 (topN l l.length : Nat) := by
 obtain ⟨kd, cl, sl, sv, rfl⟩ := hg
 refine BD func33 ntmps33 ?_
 try refine RUN ?_
 refine EVL.call rfl rfl rfl rfl rfl (hc) ?_
 intro r1 G1 hr hG1
 obtain ⟨a, cap, rfl⟩ := SlC.val hr
 try refine RUN ?_
 refine EV.loopK (ι := Nat) [6, 12, 13] [] (fun i => [(5, .v (.int .i64 (topN l i : Nat))), (14, .v (.int .i64 (i : Int)))]) (fun _ => []) (fun _ => []) (fun i _ => i ≤ l.length) (fun i => l.length - i) (0) rfl rfl ⟨rfl, rfl, trivial⟩ trivial rfl (fun _ => rfl) (Nat.zero_le _) ?_
 rintro i G2 hG2 hi
 try refine RUN ?_
 refine EV.cond rfl (fun hlt => ?_) (fun hlt => ?_)
 ·simp only [nN] at hlt
  have hr2 := hr.mono hG2
  have ht := topN_lt l i
  have htl : topN l i < l.length := by omega
  have g1 := getD_at hlt
  have g2 := getD_at htl
  have hst : topN l (i + 1) = if l.getD (topN l i) 0 < l.getD i 0 then i else topN l i := rfl
  have wn : IntKind.i64.wrap ((i : Int) + 1) = ((i + 1 : Nat) : Int) := wi_inc i (by omega)
  generalize topN l i = tp at *
  generalize l.getD tp 0 = x at *
  generalize l.getD i 0 = y at *
  try refine RUN ?_
  refine EVL.idxR tO rfl rfl rfl rfl rfl rfl rfl rfl rfl rfl (hr2) (i) (rfl) (hlt) ((by rw [List.getElem?_map, g1]; rfl)) ?_
  try refine RUN ?_
  refine EVL.idxR tO rfl rfl rfl rfl rfl rfl rfl rfl rfl rfl (hr2) (tp) (rfl) (htl) ((by rw [List.getElem?_map, g2]; rfl)) ?_
  try refine RUN ?_
  by_cases h : y > x
  ·rw [decide_eq_true h]
   rw [if_pos h] at hst
   try refine RUN ?_
   refine ⟨i + 1, ⟨by rw [hst]; rfl, by rw [wn]; rfl, trivial⟩, (by repeat (first | exact trivial | refine And.intro rfl ?_)), trivial, (by repeat (first | exact trivial | refine And.intro rfl ?_)), rfl, by omega, Hp.Le.refl _, by omega⟩
  ·rw [decide_eq_false h]
   rw [if_neg h] at hst
   try refine RUN ?_
   refine ⟨i + 1, ⟨by rw [hst]; rfl, by rw [wn]; rfl, trivial⟩, (by repeat (first | exact trivial | refine And.intro rfl ?_)), trivial, (by repeat (first | exact trivial | refine And.intro rfl ?_)), rfl, by omega, Hp.Le.refl _, by omega⟩
 ·simp only [nN] at hlt
  obtain rfl : i = l.length := by omega
  try refine RUN ?_
  rfl
theorem countsV_pc {H : Hp} {v : Value} {va : Option Addr} {vn vc : Nat} {la : Option Addr} {lc : Nat} (h0 : 1 ≤ vn) (h1 : vn ≤ 300) : PC prog 31 #[goalV 2 0 (.slice la 0 lc) (.slice va vn vc), v] H fun r H' => IL H' r [] := by
 have hchk := checkV_pv (va := va) (vc := vc) (la := la) (lc := lc) h0 h1
 refine BD func31 ntmps31 ?_
 try refine RUN ?_
 exact ⟨rfl, .inl ⟨rfl, _, _, rfl⟩⟩
end Go.Proofs.YtejljnlfgiifoaaGreatDoor
namespace Go.Proofs.YtejljnlfgiifoaaGreatDoor
theorem putAt_len {α : Type} (l : List α) (j : Nat) (y : α) : (putAt l j y).length = l.length + 1 := by rw [(putAt_perm l j y).length_eq, List.length_append]; rfl
theorem putAt_at {α : Type} {l : List α} {j : Nat} {y : α} (h : j ≤ l.length) : (putAt l j y)[j]? = some y := by
 have : (l.take j).length = j := by rw [List.length_take]; omega
 unfold putAt; rw [List.getElem?_append_right (by omega), this, Nat.sub_self]; rfl
theorem putAt_before {α : Type} {l : List α} {j : Nat} {y z : α} (h : l[j]? = some z) : (putAt l (j + 1) y)[j]? = some z := by
 obtain ⟨hl, _⟩ := List.getElem?_eq_some_iff.1 h
 unfold putAt
 rw [List.getElem?_append_left (by rw [List.length_take]; omega), List.getElem?_take_of_lt (by omega), h]
theorem putAt_move {α : Type} {l : List α} {j : Nat} {y z : α} (h : l[j]? = some z) : (putAt l (j + 1) y).set (j + 1) z = putAt l j z := by
 obtain ⟨hl, hz⟩ := List.getElem?_eq_some_iff.1 h
 have : (l.take (j + 1)).length = j + 1 := by rw [List.length_take]; omega
 unfold putAt
 rw [List.set_append_right _ _ (by omega), this, Nat.sub_self, List.set_cons_zero, List.take_succ_eq_append_getElem hl, hz, List.drop_eq_getElem_cons hl, hz]
 simp
theorem putAt_again {α : Type} {l : List α} {j : Nat} {y z : α} (h : j ≤ l.length) : (putAt l j y).set j z = putAt l j z := by
 have : (l.take j).length = j := by rw [List.length_take]; omega
 unfold putAt
 rw [List.set_append_right _ _ (by omega), this, Nat.sub_self, List.set_cons_zero]
theorem putAt_end {α : Type} (l : List α) (y : α) : putAt l l.length y = l ++ [y] := by unfold putAt; rw [List.take_length, List.drop_length]
theorem putAt_mem {α : Type} {l : List α} {j : Nat} {y z : α} (h : z ∈ putAt l j y) : z = y ∨ z ∈ l := by
 have := (putAt_perm l j y).mem_iff.1 h
 rcases List.mem_append.1 this with h | h
 ·exact .inr h
 ·exact .inl (List.mem_singleton.1 h)
end Go.Proofs.YtejljnlfgiifoaaGreatDoor
namespace Go.Proofs.YtejljnlfgiifoaaGreatDoor
open Go.RowKit _root_.Go.Proofs.Tryz
theorem RVs.put {H : Hp} {vs : List Value} {l : List Rat} {x : Value} {q : Rat} {j : Nat} (h : RVs H vs l) (k : RQ H x q) (hj : j ≤ l.length) : RVs H (putAt vs j x) (putAt l j q) := by
 have h1 := h.1
 refine ⟨by rw [putAt_len, putAt_len, h1], fun i y r e1 e2 => ?_⟩
 have t1 : (vs.take j).length = j := by rw [List.length_take]; omega
 have t2 : (l.take j).length = j := by rw [List.length_take]; omega
 unfold putAt at e1 e2
 rw [List.getElem?_append, t1] at e1
 rw [List.getElem?_append, t2] at e2
 by_cases hi : i < j
 ·rw [if_pos hi, List.getElem?_take_of_lt hi] at e1 e2
  exact h.2 i y r e1 e2
 ·rw [if_neg hi] at e1 e2
  cases hk : i - j with
  | zero => rw [hk] at e1 e2; simp at e1 e2; subst e1; subst e2; exact k
  | succ m =>
   rw [hk, List.getElem?_cons_succ, List.getElem?_drop] at e1 e2
   exact h.2 _ y r e1 e2
theorem RVs.three {H : Hp} {vs : List Value} {l : List Rat} (h : RVs H vs l) : ∀ x, x ∈ vs → (vlist x).length = 3 := fun x hx => by
 obtain ⟨i, hi, rfl⟩ := List.getElem_of_mem hx
 have := h.1
 exact (h.2 i _ _ (List.getElem?_eq_getElem hi) (List.getElem?_eq_getElem (by omega))).cells.1
theorem RVs.at {H : Hp} {vs : List Value} {l : List Rat} (h : RVs H vs l) {j : Nat} {q : Rat} (hj : l[j]? = some q) : ∃ x, vs[j]? = some x ∧ RQ H x q := by
 obtain ⟨hl, rfl⟩ := List.getElem?_eq_some_iff.1 hj
 have h1 := h.1
 exact ⟨_, List.getElem?_eq_getElem (by omega), h.2 j _ _ (List.getElem?_eq_getElem (by omega)) (List.getElem?_eq_getElem hl)⟩
theorem three_put {vs : List Value} {j : Nat} {y : Value} (h : ∀ x, x ∈ vs → (vlist x).length = 3) (hy : (vlist y).length = 3) : ∀ x, x ∈ putAt vs j y → (vlist x).length = 3 := fun x hx => by
 rcases putAt_mem hx with rfl | hx
 ·exact hy
 ·exact h x hx
theorem three_len {vs : List Value} (h : ∀ x, x ∈ vs → (vlist x).length = 3) : (vs.flatMap vlist).length = vs.length * 3 := flat_len _ 3 vs h
theorem own_put {T : TypeId} {b cap i j : Nat} {vs : List Value} {x : Value} {sp : List Value} {k : Nat} (hv : ∀ x, x ∈ vs → (vlist x).length = 3) (hvl : vs.length = i) (hx : (vlist x).length = 3) (hk : k + sp.length = cap * 3) (hk' : k = (i + 1) * 3) (h1 : i + 1 ≤ cap) (h2 : cap ≤ maxLen) :
  OwnL T 3 (.slice (some ⟨b, 0, none⟩) (i + 1) cap) (i + 1) ((putAt vs j x).flatMap vlist) [(b, T, (putAt vs j x).flatMap vlist ++ sp)] := by
 have hl : ((putAt vs j x).flatMap vlist).length = (i + 1) * 3 := by rw [three_len (three_put hv hx), putAt_len, hvl]
 exact ⟨hl, .inr ⟨b, cap, sp, rfl, rfl, by rw [List.length_append, hl]; omega, h1, h2⟩⟩
set_option maxHeartbeats 4000000 in
theorem refSort_pc {H : Hp} {v : Value} {l : List Rat} (h : RL H v l) (hl : l.length ≤ 1000) (hb : ∀ q, q ∈ l → rq q) : PC prog 89 #[v] H fun r H' => RL H' r (sortQ l) := by
 obtain ⟨a, cap, rfl⟩ := RL.val h
 refine BD func89 ntmps89 ?_
 try refine RUN ?_
 refine EV.loopK (ι := Nat × List Value × List Rat × Value × Ows) [0] [] (fun q => [(3, .v q.2.2.2.1), (4, .v (.int .i64 (q.1 : Int)))]) (fun _ => []) (fun q => q.2.2.2.2) (fun q G => q.1 ≤ l.length ∧ RVs G q.2.1 q.2.2.1 ∧ q.2.2.1.Perm (l.take q.1) ∧ Rising q.2.2.1 ∧ OwnL 78 3 q.2.2.2.1 q.1 (q.2.1.flatMap vlist) q.2.2.2.2) (fun q => l.length - q.1) ((0, [], [], .slice none 0 0, [])) rfl rfl ⟨rfl, rfl, trivial⟩ trivial rfl (fun _ => rfl) (⟨Nat.zero_le _, RVs.nil _, List.Perm.refl _, List.Pairwise.nil, OwnL.nil _ _⟩) ?_
 rintro ⟨i, vs, acc, w, ow⟩ G1 hG1 ⟨hi, hvs, hperm, hris, hown⟩
 dsimp only at hi hvs hperm hris hown
 have hal : acc.length = i := by rw [hperm.length_eq, List.length_take]; omega
 have hvl : vs.length = i := by rw [hvs.1, hal]
 have hthr := hvs.three
 obtain ⟨wa, wc, rfl⟩ := hown.val
 try refine RUN ?_
 refine EV.cond rfl (fun hlt => ?_) (fun hlt => ?_)
 ·simp only [nN] at hlt
  obtain ⟨q, hqi⟩ : ∃ q, l[i]? = some q := ⟨_, List.getElem?_eq_getElem hlt⟩
  obtain ⟨us, x, hsl, hc, hx⟩ := (h.mono hG1).at hqi
  obtain ⟨xa, xl, xc, ya, yl, yc, rfl, hx1, hx2⟩ := id hx
  have qq := hb q (List.mem_of_getElem? hqi)
  have qacc : ∀ y, y ∈ acc → rq y := fun y hy => hb y (List.mem_of_mem_take (hperm.mem_iff.1 hy))
  try refine RUN ?_
  refine EVL.idxM tO rfl rfl rfl rfl rfl rfl rfl rfl rfl (hsl) (i) (rfl) (hlt) (hc) ?_
  try refine RUN ?_
  refine EVL.app1 tO rfl rfl rfl rfl rfl rfl rfl rfl rfl rfl rfl rfl rfl rfl rfl rfl rfl rfl rfl (fun _ => rfl) (ow) ([]) ((List.append_nil _).symm) (hown) (by omega) fun _ => ?_
  intro v' ow' hown'
  have e := putAt_end vs (.agg #[.bool (decide (q.num < 0)), .slice xa xl xc, .slice ya yl yc])
  rw [hvl] at e
  have hown2 : OwnL 78 3 v' (i + 1) ((putAt vs i (.agg #[.bool (decide (q.num < 0)), .slice xa xl xc, .slice ya yl yc])).flatMap vlist) ow' := by
   rw [e, List.flatMap_append]; exact hown'
  clear hown' hown e
  generalize hX : Value.agg #[.bool (decide (q.num < 0)), .slice xa xl xc, .slice ya yl yc] = x at *
  have hx3 : (vlist x).length = 3 := hX ▸ rfl
  rcases hown2 with ⟨hk', ⟨_, h0, _⟩ | ⟨b, cap', sp, rfl, rfl, hk, hc1, hc2⟩⟩
  ·omega
  rw [List.length_append] at hk
  generalize ((putAt vs i x).flatMap vlist).length = k at hk hk'
  have hperm' : ∀ j, (putAt acc j q).Perm (l.take (i + 1)) := fun j => by
   rw [take_snoc hqi]
   exact (putAt_perm acc j q).trans (hperm.append_right [q])
  subst hX
  try refine RUN ?_
  refine EV.loopK (ι := Nat × Value) [0, 3, 4] [] (fun p => [(5, .v (.int .i64 (p.1 : Int)))]) (fun _ => []) (fun p => [(b, 78, (putAt vs p.1 p.2).flatMap vlist ++ sp)]) (fun p _ => p.1 ≤ i ∧ (vlist p.2).length = 3 ∧ ∀ y, y ∈ acc.drop p.1 → q ≤ y) (fun p => p.1) ((i, _)) rfl rfl ⟨rfl, trivial⟩ trivial rfl (fun _ => rfl) (⟨Nat.le_refl _, rfl, by rw [← hal, List.drop_length]; intro y hy; cases hy⟩) ?_
  rintro ⟨j, y⟩ G2 hG2 ⟨hj, hy, hgr⟩
  dsimp only at hj hy hgr
  have hsl2 := hsl.mono hG2
  cases j with
  | zero =>
   try refine RUN ?_
   apply EV.drawn 15 (by kernel_rfl) (by kernel_rfl); intro xv yw
   (repeat (first | refine' DV ?_ | refine' DA ?_ | refine' DK0 ?_ | refine' DT ?_ | refine' DS ?_))
   (refine DJ.nil (fun G3 hG3 hF3 => ?_); (case hS => rfl); (case hS2 => rfl))
   try refine RUN ?_
   have hj' : 0 < (putAt vs (0) y).length := by rw [putAt_len]; omega
   refine EVL.idxM tO rfl rfl rfl rfl rfl rfl rfl rfl rfl ((hsl2.mono hG3)) (i) (rfl) (hlt) (hc) ?_
   try refine RUN ?_
   refine EVL.idxB tO rfl rfl rfl rfl rfl rfl rfl rfl rfl (0) ((0) * 3) (rfl) ((by omega)) (rfl) ?_
   refine EVL.storeOwn tO rfl rfl rfl rfl rfl rfl ([]) ([]) rfl rfl rfl rfl ((by rw [List.length_append, three_len (three_put hthr hy), putAt_len, hvl]; show (0) * 3 + 3 ≤ _; omega)) ((flat_set_app (three_put hthr hy) sp (.agg #[.bool (decide (q.num < 0)), .slice xa xl xc, .slice ya yl yc]) hj')) ?_
   rw [putAt_again (by omega)]
   try refine RUN ?_
   refine ⟨(i + 1, putAt vs (0) (.agg #[.bool (decide (q.num < 0)), .slice xa xl xc, .slice ya yl yc]), putAt acc (0) q, .slice (some ⟨b, 0, none⟩) (i + 1) cap', [(b, 78, (putAt vs (0) (.agg #[.bool (decide (q.num < 0)), .slice xa xl xc, .slice ya yl yc])).flatMap vlist ++ sp)]), ⟨rfl, ?_, trivial⟩, (by repeat (first | exact trivial | refine And.intro rfl ?_)), trivial, trivial, rfl, ⟨by dsimp only; omega, (hvs.mono (hG2.trans hG3)).put ((hx.mono hG2).mono hG3) (by omega), hperm' _, putAt_rising hris (by intro y hy; rw [List.take_zero] at hy; cases hy) hgr, own_put hthr hvl rfl hk hk' hc1 hc2⟩, hG2.trans hG3, by dsimp only; omega⟩
   rw [wi_inc i (by omega)]; rfl
  | succ j =>
   obtain ⟨r, hrj⟩ : ∃ r, acc[j]? = some r := ⟨_, List.getElem?_eq_getElem (by omega)⟩
   obtain ⟨z, hzj, hz⟩ := (hvs.mono hG2).at hrj
   obtain ⟨za, zl, zc, wa', wl', wc', rfl, hz1, hz2⟩ := id hz
   have qr := qacc r (List.mem_of_getElem? hrj)
   have hcmp := fun G (hG : G2.Le G) => refCmp_pc (hz.mono hG) ((hx.mono hG2).mono hG) qr qq
   have hgt : ordR r q > 0 → q ≤ r := fun h => by
    unfold ordR at h; split at h
    ·omega
    ·split at h
     ·exact Rat.le_of_lt (by assumption)
     ·omega
   have hle : ¬ ordR r q > 0 → r ≤ q := fun h => by
    unfold ordR at h; split at h
    ·exact Rat.le_of_lt (by assumption)
    ·split at h
     ·omega
     ·rename_i k1 k2; exact Rat.not_lt.1 k2
   generalize ordR r q = o at *
   try refine RUN ?_
   apply EV.drawn 15 (by kernel_rfl) (by kernel_rfl); intro xv yw
   (repeat (first | refine' DV ?_ | refine' DA ?_ | refine' DK0 ?_ | refine' DT ?_ | refine' DS ?_))
   rw [decide_eq_true (show ((j + 1 : Nat) : Int) > 0 by omega)]
   (repeat (first | refine' DV ?_ | refine' DA ?_ | refine' DK0 ?_ | refine' DT ?_ | refine' DS ?_))
   refine' DJ.idxB tO rfl rfl rfl rfl rfl rfl rfl rfl rfl (j) (j * 3) ((by rw [IntKind.wrap_i64]; omega)) ((by omega)) (rfl) ?_; rotate_left
   refine' DJ.ofVal (ValOk.loadOwn tO rfl rfl rfl rfl (0) rfl (flat_get_app (three_put hthr hy) sp (putAt_before hzj)) rfl rfl) rfl rfl rfl ?_; rotate_left
   (repeat (first | refine' DV ?_ | refine' DA ?_ | refine' DK0 ?_ | refine' DT ?_ | refine' DS ?_))
   refine' DJ.idxM tO rfl rfl rfl rfl rfl rfl rfl rfl rfl (hsl2) (i) (rfl) (hlt) (hc) ?_; rotate_left
   (repeat (first | refine' DV ?_ | refine' DA ?_ | refine' DK0 ?_ | refine' DT ?_ | refine' DS ?_))
   refine' DJ.callS rfl rfl rfl rfl rfl (cO func88) (fun G hG hd => hcmp G hG) ?_; rotate_left
   (repeat (first | refine' DV ?_ | refine' DA ?_ | refine' DK0 ?_ | refine' DT ?_ | refine' DS ?_))
   (refine DJ.nil (fun G3 hG3 hF3 => ?_); (case hS => rfl); (case hS2 => rfl))
   try refine RUN ?_
   by_cases ho : o > 0
   ·rw [decide_eq_true ho]
    try refine RUN ?_
    refine EVL.idxB tO rfl rfl rfl rfl rfl rfl rfl rfl rfl (j) (j * 3) ((by rw [IntKind.wrap_i64]; omega)) ((by omega)) (rfl) ?_
    refine EVL.loadOwn tO rfl rfl rfl rfl rfl rfl (0) rfl (flat_get_app (three_put hthr hy) sp (putAt_before hzj)) rfl rfl ?_
    try refine RUN ?_
    refine EVL.idxB tO rfl rfl rfl rfl rfl rfl rfl rfl rfl (j + 1) ((j + 1) * 3) (rfl) ((by omega)) (rfl) ?_
    refine EVL.storeOwn tO rfl rfl rfl rfl rfl rfl ([]) ([]) rfl rfl rfl rfl ((by rw [List.length_append, three_len (three_put hthr hy), putAt_len, hvl]; show (j + 1) * 3 + 3 ≤ _; omega)) ((flat_set_app (three_put hthr hy) sp (.agg #[.bool (decide (r.num < 0)), .slice za zl zc, .slice wa' wl' wc']) (by rw [putAt_len]; omega))) ?_
    rw [putAt_move hzj]
    try refine RUN ?_
    refine ⟨(j, .agg #[.bool (decide (r.num < 0)), .slice za zl zc, .slice wa' wl' wc']), ⟨?_, trivial⟩, (by repeat (first | exact trivial | refine And.intro rfl ?_)), trivial, trivial, rfl, ⟨by dsimp only; omega, rfl, ?_⟩, hG3, by dsimp only; omega⟩
    ·rw [show IntKind.i64.wrap (((j + 1 : Nat) : Int) - 1) = (j : Int) by rw [IntKind.wrap_i64]; omega]; rfl
    ·intro z' hz'
     dsimp only at hz'
     rw [drop_at hrj] at hz'
     rcases List.mem_cons.1 hz' with rfl | hz'
     ·exact hgt ho
     ·exact hgr z' hz'
   ·rw [decide_eq_false ho]
    try refine RUN ?_
    have hj' : j + 1 < (putAt vs (j + 1) y).length := by rw [putAt_len]; omega
    refine EVL.idxM tO rfl rfl rfl rfl rfl rfl rfl rfl rfl ((hsl2.mono hG3)) (i) (rfl) (hlt) (hc) ?_
    try refine RUN ?_
    refine EVL.idxB tO rfl rfl rfl rfl rfl rfl rfl rfl rfl (j + 1) ((j + 1) * 3) (rfl) ((by omega)) (rfl) ?_
    refine EVL.storeOwn tO rfl rfl rfl rfl rfl rfl ([]) ([]) rfl rfl rfl rfl ((by rw [List.length_append, three_len (three_put hthr hy), putAt_len, hvl]; show (j + 1) * 3 + 3 ≤ _; omega)) ((flat_set_app (three_put hthr hy) sp (.agg #[.bool (decide (q.num < 0)), .slice xa xl xc, .slice ya yl yc]) hj')) ?_
    rw [putAt_again (by omega)]
    try refine RUN ?_
    refine ⟨(i + 1, putAt vs (j + 1) (.agg #[.bool (decide (q.num < 0)), .slice xa xl xc, .slice ya yl yc]), putAt acc (j + 1) q, .slice (some ⟨b, 0, none⟩) (i + 1) cap', [(b, 78, (putAt vs (j + 1) (.agg #[.bool (decide (q.num < 0)), .slice xa xl xc, .slice ya yl yc])).flatMap vlist ++ sp)]), ⟨rfl, ?_, trivial⟩, (by repeat (first | exact trivial | refine And.intro rfl ?_)), trivial, trivial, rfl, ⟨by dsimp only; omega, (hvs.mono (hG2.trans hG3)).put ((hx.mono hG2).mono hG3) (by omega), hperm' _, putAt_rising hris (rising_take hris hrj (hle ho)) hgr, own_put hthr hvl rfl hk hk' hc1 hc2⟩, hG2.trans hG3, by dsimp only; omega⟩
    rw [wi_inc i (by omega)]; rfl
 ·simp only [nN] at hlt
  obtain rfl : i = l.length := by omega
  rw [List.take_length] at hperm
  (first | refine EVL.publishL [] ow [] ((List.append_nil _).symm) hown fun G2 hG2 hs => ?_ | refine EV.publishL [] ow [] ((List.append_nil _).symm) hown fun G2 hG2 hs => ?_)
  try refine RUN ?_
  rw [← sortQ_one hperm hris]
  exact (hvs.mono hG2).rl (by rw [hal]; exact hs)
section
variable {pre S S' post vs : List Value} {k : Nat}
theorem at_load (h : pre.length = k) (j s : Nat) (hj : j + s ≤ S.length) (hv : (S.drop j).take s = vs) : ((pre ++ (S ++ post)).drop (k + j)).take s = vs := by
 rw [← List.drop_drop, List.drop_left' h, List.drop_append_of_le_length (by omega), List.take_append_of_le_length (by rw [List.length_drop]; omega), hv]
theorem at_load2 (h : pre.length = k) (i j s : Nat) (hj : i + j + s ≤ S.length) (hv : (S.drop (i + j)).take s = vs) : ((pre ++ (S ++ post)).drop (k + i + j)).take s = vs := by
 rw [Nat.add_assoc]; exact at_load h (i + j) s hj hv
theorem at_store (h : pre.length = k) (j s : Nat) (hj : j + s ≤ S.length) (hv : S.take j ++ vs ++ S.drop (j + s) = S') : (pre ++ (S ++ post)).take (k + j) ++ vs ++ (pre ++ (S ++ post)).drop (k + j + s) = pre ++ (S' ++ post) := by
 subst h
 rw [← hv, List.take_append, List.take_of_length_le (by omega), show pre.length + j - pre.length = j by omega, List.take_append_of_le_length (by omega), Nat.add_assoc, ← List.drop_drop, List.drop_left, List.drop_append_of_le_length (by omega)]
 simp only [List.append_assoc]
theorem at_store2 (h : pre.length = k) (i j s : Nat) (hj : i + j + s ≤ S.length) (hv : S.take (i + j) ++ vs ++ S.drop (i + j + s) = S') : (pre ++ (S ++ post)).take (k + i + j) ++ vs ++ (pre ++ (S ++ post)).drop (k + i + j + s) = pre ++ (S' ++ post) := by
 rw [Nat.add_assoc k i j]; exact at_store h (i + j) s hj hv
theorem at_room (h : pre.length = k) {j s : Nat} (hj : j + s ≤ S.length) : k + j + s ≤ (pre ++ (S ++ post)).length := by
 rw [List.length_append, List.length_append]; omega
theorem at_room2 (h : pre.length = k) {i j s : Nat} (hj : i + j + s ≤ S.length) : k + i + j + s ≤ (pre ++ (S ++ post)).length := by
 rw [List.length_append, List.length_append]; omega
end
section
variable {H : Hp} {b k : Nat} {T : TypeId} {pre post : List Value} (hk : pre.length = k)
include hk
set_option maxHeartbeats 4000000 in
theorem addV_at {cl : Int} {la : Option Addr} {ln lc : Nat} {va : Option Addr} {vc : Nat} {vals : List Rat} (hv : QL H (.slice va vals.length vc) vals) {r n : Nat} (hn : n ≤ 1000000) {x q : Rat} (hr : vals[r]? = some x) (hx : sm x) (hq : sm q) {cs : List Int} (hc : cs.length = 12) {sq : Int} :
  PW prog 115 #[.pointer (some ⟨b, k, none⟩), goalV 2 cl (.slice la ln lc) (.slice va vals.length vc), .int .i64 (r : Int)] H [(b, T, pre ++ (sideC n cs sq q ++ post))] fun v ow _ => v = .tuple #[] ∧ ow = [(b, T, pre ++ (sideC ((n + 1 : Nat) : Int) cs sq (q + x) ++ post))] := by
 have hadd := add_pv q x hq hx
 have hlen := sideC_len (n := (n : Int)) (cs := cs) (sq := sq) (q := q) hc
 have hlen2 := sideC_len (n := ((n + 1 : Nat) : Int)) (cs := cs) (sq := sq) (q := q) hc
 obtain ⟨hrl, _⟩ := List.getElem?_eq_some_iff.1 hr
 have hs : SlC H (.slice va vals.length vc) vals.length 5 (vals.flatMap fun q => vlist (fracV q)) := hv
 refine PW.body tO func115 rfl (by kernel_rfl) ntmps115 rfl rfl ?_
 try refine RUN ?_
 (repeat (first | refine EVL.nilB rfl rfl rfl rfl rfl ?_ | refine EVL.fldB tO rfl rfl rfl rfl rfl rfl rfl ?_ | refine EVL.val tO rfl rfl rfl rfl rfl ?_))
 refine EVL.loadOwn tO rfl rfl rfl rfl rfl rfl (0) rfl (at_load hk 0 1 (by omega) side_n) rfl rfl ?_
 (repeat (first | refine EVL.nilB rfl rfl rfl rfl rfl ?_ | refine EVL.fldB tO rfl rfl rfl rfl rfl rfl rfl ?_ | refine EVL.val tO rfl rfl rfl rfl rfl ?_))
 rw [show IntKind.i64.wrap ((n : Int) + 1) = ((n + 1 : Nat) : Int) by rw [IntKind.wrap_i64]; omega]
 refine EVL.storeOwn tO rfl rfl rfl rfl rfl rfl ([]) ([]) rfl rfl rfl rfl ((at_room hk (j := 0) (s := 1) (by omega))) (at_store hk 0 1 (by omega) side_n_set) ?_
 try refine RUN ?_
 apply EV.drawn 11 (by kernel_rfl) (by kernel_rfl); intro xv yw
 (repeat (first | refine' DV ?_ | refine' DA ?_ | refine' DK0 ?_ | refine' DT ?_ | refine' DS ?_ | (refine' DJ.nilB rfl rfl rfl rfl rfl ?_; rotate_left) | (refine' DJ.fldB tO rfl rfl rfl rfl rfl rfl rfl ?_; rotate_left)))
 refine' DJ.ofVal (ValOk.loadOwn tO rfl rfl rfl rfl (0) rfl (at_load hk 14 5 (by omega) (side_sum hc)) rfl rfl) rfl rfl rfl ?_; rotate_left
 (repeat (first | refine' DV ?_ | refine' DA ?_ | refine' DK0 ?_ | refine' DT ?_ | refine' DS ?_ | (refine' DJ.nilB rfl rfl rfl rfl rfl ?_; rotate_left) | (refine' DJ.fldB tO rfl rfl rfl rfl rfl rfl rfl ?_; rotate_left)))
 refine' DJ.idxM tO rfl rfl rfl rfl rfl rfl rfl rfl rfl (hs) (r) (rfl) (hrl) (QL.at (H := H) (v := .bool true) hr) ?_; rotate_left
 (repeat (first | refine' DV ?_ | refine' DA ?_ | refine' DK0 ?_ | refine' DT ?_ | (refine' DC (hadd) (h := ?_); rotate_left) | refine' DS ?_))
 (refine DJ.nil (fun G1 hG1 hF1 => ?_); (case hS => rfl); (case hS2 => rfl))
 (repeat (first | refine EVL.nilB rfl rfl rfl rfl rfl ?_ | refine EVL.fldB tO rfl rfl rfl rfl rfl rfl rfl ?_ | refine EVL.val tO rfl rfl rfl rfl rfl ?_))
 refine EVL.storeOwn tO rfl rfl rfl rfl rfl rfl ([]) ([]) rfl rfl rfl rfl ((at_room hk (j := 14) (s := 5) (by omega))) (at_store hk 14 5 (by omega) (side_sum_set hc)) ?_
 try refine RUN ?_
 exact ⟨rfl, rfl⟩
set_option maxHeartbeats 4000000 in
theorem dropV_at {cl : Int} {la : Option Addr} {ln lc : Nat} {va : Option Addr} {vc : Nat} {vals : List Rat} (hv : QL H (.slice va vals.length vc) vals) {r n : Nat} (hn : n ≤ 1000000) {x q : Rat} (hr : vals[r]? = some x) (hx : sm x) (hq : sm q) {cs : List Int} (hc : cs.length = 12) {sq : Int} :
  PW prog 159 #[.pointer (some ⟨b, k, none⟩), goalV 2 cl (.slice la ln lc) (.slice va vals.length vc), .int .i64 (r : Int)] H [(b, T, pre ++ (sideC ((n + 1 : Nat) : Int) cs sq q ++ post))] fun v ow _ => v = .tuple #[] ∧ ow = [(b, T, pre ++ (sideC (n : Int) cs sq (q - x) ++ post))] := by
 have hsub := sub_pv q x hq hx
 have hlen := sideC_len (n := (n : Int)) (cs := cs) (sq := sq) (q := q) hc
 have hlen2 := sideC_len (n := ((n + 1 : Nat) : Int)) (cs := cs) (sq := sq) (q := q) hc
 obtain ⟨hrl, _⟩ := List.getElem?_eq_some_iff.1 hr
 have hs : SlC H (.slice va vals.length vc) vals.length 5 (vals.flatMap fun q => vlist (fracV q)) := hv
 refine PW.body tO func159 rfl (by kernel_rfl) ntmps159 rfl rfl ?_
 try refine RUN ?_
 (repeat (first | refine EVL.nilB rfl rfl rfl rfl rfl ?_ | refine EVL.fldB tO rfl rfl rfl rfl rfl rfl rfl ?_ | refine EVL.val tO rfl rfl rfl rfl rfl ?_))
 refine EVL.loadOwn tO rfl rfl rfl rfl rfl rfl (0) rfl (at_load hk 0 1 (by omega) side_n) rfl rfl ?_
 (repeat (first | refine EVL.nilB rfl rfl rfl rfl rfl ?_ | refine EVL.fldB tO rfl rfl rfl rfl rfl rfl rfl ?_ | refine EVL.val tO rfl rfl rfl rfl rfl ?_))
 rw [show IntKind.i64.wrap (((n + 1 : Nat) : Int) - 1) = (n : Int) by rw [IntKind.wrap_i64]; omega]
 refine EVL.storeOwn tO rfl rfl rfl rfl rfl rfl ([]) ([]) rfl rfl rfl rfl ((at_room hk (j := 0) (s := 1) (by omega))) (at_store hk 0 1 (by omega) side_n_set) ?_
 try refine RUN ?_
 apply EV.drawn 11 (by kernel_rfl) (by kernel_rfl); intro xv yw
 (repeat (first | refine' DV ?_ | refine' DA ?_ | refine' DK0 ?_ | refine' DT ?_ | refine' DS ?_ | (refine' DJ.nilB rfl rfl rfl rfl rfl ?_; rotate_left) | (refine' DJ.fldB tO rfl rfl rfl rfl rfl rfl rfl ?_; rotate_left)))
 refine' DJ.ofVal (ValOk.loadOwn tO rfl rfl rfl rfl (0) rfl (at_load hk 14 5 (by omega) (side_sum hc)) rfl rfl) rfl rfl rfl ?_; rotate_left
 (repeat (first | refine' DV ?_ | refine' DA ?_ | refine' DK0 ?_ | refine' DT ?_ | refine' DS ?_ | (refine' DJ.nilB rfl rfl rfl rfl rfl ?_; rotate_left) | (refine' DJ.fldB tO rfl rfl rfl rfl rfl rfl rfl ?_; rotate_left)))
 refine' DJ.idxM tO rfl rfl rfl rfl rfl rfl rfl rfl rfl (hs) (r) (rfl) (hrl) (QL.at (H := H) (v := .bool true) hr) ?_; rotate_left
 (repeat (first | refine' DV ?_ | refine' DA ?_ | refine' DK0 ?_ | refine' DT ?_ | (refine' DC (hsub) (h := ?_); rotate_left) | refine' DS ?_))
 (refine DJ.nil (fun G1 hG1 hF1 => ?_); (case hS => rfl); (case hS2 => rfl))
 (repeat (first | refine EVL.nilB rfl rfl rfl rfl rfl ?_ | refine EVL.fldB tO rfl rfl rfl rfl rfl rfl rfl ?_ | refine EVL.val tO rfl rfl rfl rfl rfl ?_))
 refine EVL.storeOwn tO rfl rfl rfl rfl rfl rfl ([]) ([]) rfl rfl rfl rfl ((at_room hk (j := 14) (s := 5) (by omega))) (at_store hk 14 5 (by omega) (side_sum_set hc)) ?_
 try refine RUN ?_
 exact ⟨rfl, rfl⟩
set_option maxHeartbeats 4000000 in
theorem addC_at {cl : Int} {va : Option Addr} {vn vc : Nat} {la : Option Addr} {lc : Nat} {ls : List Int} (hv : IL H (.slice la ls.length lc) ls) {r n : Nat} (hn : n ≤ 1000000) {j m sq : Nat} (hr : ls[r]? = some (j : Int)) (hj : j < 12) {cs : List Int} (hc : cs.length = 12) (hm : cs[j]? = some (m : Int)) (hmb : m ≤ 1000000) (hsb : sq ≤ 10000000000000) {q : Rat} :
  PW prog 115 #[.pointer (some ⟨b, k, none⟩), goalV 1 cl (.slice la ls.length lc) (.slice va vn vc), .int .i64 (r : Int)] H [(b, T, pre ++ (sideC n cs sq q ++ post))] fun v ow _ => v = .tuple #[] ∧ ow = [(b, T, pre ++ (sideC ((n + 1 : Nat) : Int) (cs.set j ((m + 1 : Nat) : Int)) ((sq + 2 * m + 1 : Nat) : Int) q ++ post))] := by
 have hlen := sideC_len (n := (n : Int)) (cs := cs) (sq := (sq : Int)) (q := q) hc
 have hlen2 := sideC_len (n := ((n + 1 : Nat) : Int)) (cs := cs) (sq := (sq : Int)) (q := q) hc
 have hlen3 := sideC_len (n := ((n + 1 : Nat) : Int)) (cs := cs) (sq := ((sq + 2 * m + 1 : Nat) : Int)) (q := q) hc
 obtain ⟨hrl, _⟩ := List.getElem?_eq_some_iff.1 hr
 have w1 : IntKind.i64.wrap ((sq : Int) + IntKind.i64.wrap (IntKind.i64.wrap (2 * (m : Int)) + 1)) = ((sq + 2 * m + 1 : Nat) : Int) := by
  rw [show IntKind.i64.wrap (2 * (m : Int)) = 2 * (m : Int) by rw [IntKind.wrap_i64]; omega, show IntKind.i64.wrap (2 * (m : Int) + 1) = 2 * (m : Int) + 1 by rw [IntKind.wrap_i64]; omega, IntKind.wrap_i64]; omega
 have w2 : IntKind.i64.wrap ((m : Int) + 1) = ((m + 1 : Nat) : Int) := by rw [IntKind.wrap_i64]; omega
 refine PW.body tO func115 rfl (by kernel_rfl) ntmps115 rfl rfl ?_
 try refine RUN ?_
 (repeat (first | refine EVL.nilB rfl rfl rfl rfl rfl ?_ | refine EVL.fldB tO rfl rfl rfl rfl rfl rfl rfl ?_ | refine EVL.val tO rfl rfl rfl rfl rfl ?_))
 refine EVL.loadOwn tO rfl rfl rfl rfl rfl rfl (0) rfl (at_load hk 0 1 (by omega) side_n) rfl rfl ?_
 (repeat (first | refine EVL.nilB rfl rfl rfl rfl rfl ?_ | refine EVL.fldB tO rfl rfl rfl rfl rfl rfl rfl ?_ | refine EVL.val tO rfl rfl rfl rfl rfl ?_))
 rw [show IntKind.i64.wrap ((n : Int) + 1) = ((n + 1 : Nat) : Int) by rw [IntKind.wrap_i64]; omega]
 refine EVL.storeOwn tO rfl rfl rfl rfl rfl rfl ([]) ([]) rfl rfl rfl rfl ((at_room hk (j := 0) (s := 1) (by omega))) (at_store hk 0 1 (by omega) side_n_set) ?_
 try refine RUN ?_
 refine EVL.idxR tO rfl rfl rfl rfl rfl rfl rfl rfl rfl rfl (hv) (r) (rfl) (hrl) ((by rw [List.getElem?_map, hr]; rfl)) ?_
 try refine RUN ?_
 apply EV.drawn 13 (by kernel_rfl) (by kernel_rfl); intro xv yw
 (repeat (first | refine' DV ?_ | refine' DA ?_ | refine' DK0 ?_ | refine' DT ?_ | refine' DS ?_ | (refine' DJ.nilB rfl rfl rfl rfl rfl ?_; rotate_left) | (refine' DJ.fldB tO rfl rfl rfl rfl rfl rfl rfl ?_; rotate_left)))
 refine' DJ.ofVal (ValOk.loadOwn tO rfl rfl rfl rfl (0) rfl (at_load hk 13 1 (by omega) (side_sq hc)) rfl rfl) rfl rfl rfl ?_; rotate_left
 (repeat (first | refine' DV ?_ | refine' DA ?_ | refine' DK0 ?_ | refine' DT ?_ | refine' DS ?_ | (refine' DJ.nilB rfl rfl rfl rfl rfl ?_; rotate_left) | (refine' DJ.fldB tO rfl rfl rfl rfl rfl rfl rfl ?_; rotate_left)))
 refine' DJ.idxA tO rfl rfl rfl rfl (und_arr) rfl rfl rfl rfl (j) (rfl) (hj) ?_; rotate_left
 refine' DJ.ofVal (ValOk.loadOwn tO rfl rfl rfl rfl (0) rfl (at_load2 hk 1 j 1 (by omega) (side_at hm)) rfl rfl) rfl rfl rfl ?_; rotate_left
 (repeat (first | refine' DV ?_ | refine' DA ?_ | refine' DK0 ?_ | refine' DT ?_ | refine' DS ?_ | (refine' DJ.nilB rfl rfl rfl rfl rfl ?_; rotate_left) | (refine' DJ.fldB tO rfl rfl rfl rfl rfl rfl rfl ?_; rotate_left)))
 (refine DJ.nil (fun G1 hG1 hF1 => ?_); (case hS => rfl); (case hS2 => rfl))
 rw [w1]
 (repeat (first | refine EVL.nilB rfl rfl rfl rfl rfl ?_ | refine EVL.fldB tO rfl rfl rfl rfl rfl rfl rfl ?_ | refine EVL.val tO rfl rfl rfl rfl rfl ?_))
 refine EVL.storeOwn tO rfl rfl rfl rfl rfl rfl ([]) ([]) rfl rfl rfl rfl ((at_room hk (j := 13) (s := 1) (by omega))) (at_store hk 13 1 (by omega) (side_sq_set hc)) ?_
 try refine RUN ?_
 apply EV.drawn 10 (by kernel_rfl) (by kernel_rfl); intro xv yw
 (repeat (first | refine' DV ?_ | refine' DA ?_ | refine' DK0 ?_ | refine' DT ?_ | refine' DS ?_ | (refine' DJ.nilB rfl rfl rfl rfl rfl ?_; rotate_left) | (refine' DJ.fldB tO rfl rfl rfl rfl rfl rfl rfl ?_; rotate_left)))
 refine' DJ.idxA tO rfl rfl rfl rfl (und_arr) rfl rfl rfl rfl (j) (rfl) (hj) ?_; rotate_left
 refine' DJ.ofVal (ValOk.loadOwn tO rfl rfl rfl rfl (0) rfl (at_load2 hk 1 j 1 (by omega) (side_at hm)) rfl rfl) rfl rfl rfl ?_; rotate_left
 (repeat (first | refine' DV ?_ | refine' DA ?_ | refine' DK0 ?_ | refine' DT ?_ | refine' DS ?_ | (refine' DJ.nilB rfl rfl rfl rfl rfl ?_; rotate_left) | (refine' DJ.fldB tO rfl rfl rfl rfl rfl rfl rfl ?_; rotate_left)))
 refine' DJ.idxA tO rfl rfl rfl rfl (und_arr) rfl rfl rfl rfl (j) (rfl) (hj) ?_; rotate_left
 (refine DJ.nil (fun G2 hG2 hF2 => ?_); (case hS => rfl); (case hS2 => rfl))
 rw [w2]
 (repeat (first | refine EVL.nilB rfl rfl rfl rfl rfl ?_ | refine EVL.fldB tO rfl rfl rfl rfl rfl rfl rfl ?_ | refine EVL.val tO rfl rfl rfl rfl rfl ?_))
 refine EVL.storeOwn tO rfl rfl rfl rfl rfl rfl ([]) ([]) rfl rfl rfl rfl ((at_room2 hk (i := 1) (j := j) (s := 1) (by omega))) (at_store2 hk 1 j 1 (by omega) (side_at_set _ (show j < cs.length by omega))) ?_
 try refine RUN ?_
 exact ⟨rfl, rfl⟩
set_option maxHeartbeats 4000000 in
theorem dropC_at {cl : Int} {va : Option Addr} {vn vc : Nat} {la : Option Addr} {lc : Nat} {ls : List Int} (hv : IL H (.slice la ls.length lc) ls) {r n : Nat} (hn : n ≤ 1000000) {j m sq : Nat} (hr : ls[r]? = some (j : Int)) (hj : j < 12) {cs : List Int} (hc : cs.length = 12) (hm : cs[j]? = some ((m + 1 : Nat) : Int)) (hmb : m ≤ 1000000) (hsb : sq ≤ 10000000000000) {q : Rat} :
  PW prog 159 #[.pointer (some ⟨b, k, none⟩), goalV 1 cl (.slice la ls.length lc) (.slice va vn vc), .int .i64 (r : Int)] H [(b, T, pre ++ (sideC ((n + 1 : Nat) : Int) cs ((sq + 2 * m + 1 : Nat) : Int) q ++ post))] fun v ow _ => v = .tuple #[] ∧ ow = [(b, T, pre ++ (sideC (n : Int) (cs.set j (m : Int)) (sq : Int) q ++ post))] := by
 have hcs : (cs.set j (m : Int)).length = 12 := by rw [List.length_set, hc]
 have hlen := sideC_len (n := (n : Int)) (cs := cs) (sq := ((sq + 2 * m + 1 : Nat) : Int)) (q := q) hc
 have hlen2 := sideC_len (n := ((n + 1 : Nat) : Int)) (cs := cs) (sq := ((sq + 2 * m + 1 : Nat) : Int)) (q := q) hc
 have hlen3 := sideC_len (n := (n : Int)) (cs := cs.set j (m : Int)) (sq := ((sq + 2 * m + 1 : Nat) : Int)) (q := q) hcs
 obtain ⟨hrl, _⟩ := List.getElem?_eq_some_iff.1 hr
 have w2 : IntKind.i64.wrap (((m + 1 : Nat) : Int) - 1) = (m : Int) := by rw [IntKind.wrap_i64]; omega
 have hm' : (cs.set j (m : Int))[j]? = some (m : Int) := by rw [List.getElem?_set_self (by omega)]
 have w1 : IntKind.i64.wrap (((sq + 2 * m + 1 : Nat) : Int) - IntKind.i64.wrap (IntKind.i64.wrap (2 * (m : Int)) + 1)) = (sq : Int) := by
  rw [show IntKind.i64.wrap (2 * (m : Int)) = 2 * (m : Int) by rw [IntKind.wrap_i64]; omega, show IntKind.i64.wrap (2 * (m : Int) + 1) = 2 * (m : Int) + 1 by rw [IntKind.wrap_i64]; omega, IntKind.wrap_i64]; omega
 refine PW.body tO func159 rfl (by kernel_rfl) ntmps159 rfl rfl ?_
 try refine RUN ?_
 (repeat (first | refine EVL.nilB rfl rfl rfl rfl rfl ?_ | refine EVL.fldB tO rfl rfl rfl rfl rfl rfl rfl ?_ | refine EVL.val tO rfl rfl rfl rfl rfl ?_))
 refine EVL.loadOwn tO rfl rfl rfl rfl rfl rfl (0) rfl (at_load hk 0 1 (by omega) side_n) rfl rfl ?_
 (repeat (first | refine EVL.nilB rfl rfl rfl rfl rfl ?_ | refine EVL.fldB tO rfl rfl rfl rfl rfl rfl rfl ?_ | refine EVL.val tO rfl rfl rfl rfl rfl ?_))
 rw [show IntKind.i64.wrap (((n + 1 : Nat) : Int) - 1) = (n : Int) by rw [IntKind.wrap_i64]; omega]
 refine EVL.storeOwn tO rfl rfl rfl rfl rfl rfl ([]) ([]) rfl rfl rfl rfl ((at_room hk (j := 0) (s := 1) (by omega))) (at_store hk 0 1 (by omega) side_n_set) ?_
 try refine RUN ?_
 refine EVL.idxR tO rfl rfl rfl rfl rfl rfl rfl rfl rfl rfl (hv) (r) (rfl) (hrl) ((by rw [List.getElem?_map, hr]; rfl)) ?_
 try refine RUN ?_
 apply EV.drawn 10 (by kernel_rfl) (by kernel_rfl); intro xv yw
 (repeat (first | refine' DV ?_ | refine' DA ?_ | refine' DK0 ?_ | refine' DT ?_ | refine' DS ?_ | (refine' DJ.nilB rfl rfl rfl rfl rfl ?_; rotate_left) | (refine' DJ.fldB tO rfl rfl rfl rfl rfl rfl rfl ?_; rotate_left)))
 refine' DJ.idxA tO rfl rfl rfl rfl (und_arr) rfl rfl rfl rfl (j) (rfl) (hj) ?_; rotate_left
 refine' DJ.ofVal (ValOk.loadOwn tO rfl rfl rfl rfl (0) rfl (at_load2 hk 1 j 1 (by omega) (side_at hm)) rfl rfl) rfl rfl rfl ?_; rotate_left
 (repeat (first | refine' DV ?_ | refine' DA ?_ | refine' DK0 ?_ | refine' DT ?_ | refine' DS ?_ | (refine' DJ.nilB rfl rfl rfl rfl rfl ?_; rotate_left) | (refine' DJ.fldB tO rfl rfl rfl rfl rfl rfl rfl ?_; rotate_left)))
 refine' DJ.idxA tO rfl rfl rfl rfl (und_arr) rfl rfl rfl rfl (j) (rfl) (hj) ?_; rotate_left
 (refine DJ.nil (fun G2 hG2 hF2 => ?_); (case hS => rfl); (case hS2 => rfl))
 rw [w2]
 (repeat (first | refine EVL.nilB rfl rfl rfl rfl rfl ?_ | refine EVL.fldB tO rfl rfl rfl rfl rfl rfl rfl ?_ | refine EVL.val tO rfl rfl rfl rfl rfl ?_))
 refine EVL.storeOwn tO rfl rfl rfl rfl rfl rfl ([]) ([]) rfl rfl rfl rfl ((at_room2 hk (i := 1) (j := j) (s := 1) (by omega))) (at_store2 hk 1 j 1 (by omega) (side_at_set _ (show j < cs.length by omega))) ?_
 try refine RUN ?_
 apply EV.drawn 13 (by kernel_rfl) (by kernel_rfl); intro xv yw
 (repeat (first | refine' DV ?_ | refine' DA ?_ | refine' DK0 ?_ | refine' DT ?_ | refine' DS ?_ | (refine' DJ.nilB rfl rfl rfl rfl rfl ?_; rotate_left) | (refine' DJ.fldB tO rfl rfl rfl rfl rfl rfl rfl ?_; rotate_left)))
 refine' DJ.ofVal (ValOk.loadOwn tO rfl rfl rfl rfl (0) rfl (at_load hk 13 1 (by omega) (side_sq hcs)) rfl rfl) rfl rfl rfl ?_; rotate_left
 (repeat (first | refine' DV ?_ | refine' DA ?_ | refine' DK0 ?_ | refine' DT ?_ | refine' DS ?_ | (refine' DJ.nilB rfl rfl rfl rfl rfl ?_; rotate_left) | (refine' DJ.fldB tO rfl rfl rfl rfl rfl rfl rfl ?_; rotate_left)))
 refine' DJ.idxA tO rfl rfl rfl rfl (und_arr) rfl rfl rfl rfl (j) (rfl) (hj) ?_; rotate_left
 refine' DJ.ofVal (ValOk.loadOwn tO rfl rfl rfl rfl (0) rfl (at_load2 hk 1 j 1 (by omega) (side_at hm')) rfl rfl) rfl rfl rfl ?_; rotate_left
 (repeat (first | refine' DV ?_ | refine' DA ?_ | refine' DK0 ?_ | refine' DT ?_ | refine' DS ?_ | (refine' DJ.nilB rfl rfl rfl rfl rfl ?_; rotate_left) | (refine' DJ.fldB tO rfl rfl rfl rfl rfl rfl rfl ?_; rotate_left)))
 (refine DJ.nil (fun G1 hG1 hF1 => ?_); (case hS => rfl); (case hS2 => rfl))
 rw [w1]
 (repeat (first | refine EVL.nilB rfl rfl rfl rfl rfl ?_ | refine EVL.fldB tO rfl rfl rfl rfl rfl rfl rfl ?_ | refine EVL.val tO rfl rfl rfl rfl rfl ?_))
 refine EVL.storeOwn tO rfl rfl rfl rfl rfl rfl ([]) ([]) rfl rfl rfl rfl ((at_room hk (j := 13) (s := 1) (by omega))) (at_store hk 13 1 (by omega) (side_sq_set hcs)) ?_
 try refine RUN ?_
 exact ⟨rfl, rfl⟩
set_option maxHeartbeats 4000000 in
theorem worthV_at {n : Nat} {cs : List Int} (hc : cs.length = 12) {sq : Nat} (hsq : sq ≤ 10000000000000) (hn : n ≤ 1000000) {q : Rat} (hq : ht q ≤ 1000000) :
  PW prog 68 #[.pointer (some ⟨b, k, none⟩), .int .i64 2] H [(b, T, pre ++ (sideC n cs sq q ++ post))] fun v ow _ => v = fracV (q * q / ((n : Int) : Rat)) ∧ ow = [(b, T, pre ++ (sideC n cs sq q ++ post))] := by
 have hlen := sideC_len (n := (n : Int)) (cs := cs) (sq := (sq : Int)) (q := q) hc
 have hqs : sm q := sm_of hq (by omega)
 have hmul := mul_pv q q hqs hqs
 have hof := of_pv (sq : Int) (by omega) (by omega)
 have hof2 := of_pv (n : Int) (by omega) (by omega)
 have hm := ht_mul q q
 have hnh : ht ((n : Int) : Rat) ≤ 100 := by
  have := ht_int (n : Int)
  have h2 : bl (n : Int).natAbs ≤ 20 := bl_le (by omega)
  omega
 refine PW.body tO func68 rfl (by kernel_rfl) ntmps68 rfl rfl ?_
 try refine RUN ?_
 (repeat (first | refine EVL.nilB rfl rfl rfl rfl rfl ?_ | refine EVL.fldB tO rfl rfl rfl rfl rfl rfl rfl ?_ | refine EVL.val tO rfl rfl rfl rfl rfl ?_))
 refine EVL.loadOwn tO rfl rfl rfl rfl rfl rfl (0) rfl (at_load hk 0 1 (by omega) side_n) rfl rfl ?_
 try refine RUN ?_
 by_cases h0 : n = 0
 ·subst h0
  rw [show (((0 : Nat) : Int) == 0) = true from rfl]
  try refine RUN ?_
  rw [show (((0 : Nat) : Int) : Rat) = 0 from rfl, rat_div_zero]
  exact ⟨fracV_zero.symm, rfl⟩
 ·have hdiv := div_pv (q * q) ((n : Int) : Rat) (sm_of hm (by omega)) (sm_of hnh (by omega)) (nat_rat_ne h0)
  rw [show ((n : Int) == 0) = false from beq_eq_false_iff_ne.2 (by omega)]
  try refine RUN ?_
  (repeat (first | refine EVL.nilB rfl rfl rfl rfl rfl ?_ | refine EVL.fldB tO rfl rfl rfl rfl rfl rfl rfl ?_ | refine EVL.val tO rfl rfl rfl rfl rfl ?_))
  refine EVL.loadOwn tO rfl rfl rfl rfl rfl rfl (0) rfl (at_load hk 13 1 (by omega) (side_sq hc)) rfl rfl ?_
  repeat (first | refine RUN ?_ | refine CV (hof) ?_ | refine CE (hof) ?_)
  apply EV.drawn 8 (by kernel_rfl) (by kernel_rfl); intro xv yw
  (repeat (first | refine' DV ?_ | refine' DA ?_ | refine' DK0 ?_ | refine' DT ?_ | refine' DS ?_ | (refine' DJ.nilB rfl rfl rfl rfl rfl ?_; rotate_left) | (refine' DJ.fldB tO rfl rfl rfl rfl rfl rfl rfl ?_; rotate_left)))
  refine' DJ.ofVal (ValOk.loadOwn tO rfl rfl rfl rfl (0) rfl (at_load hk 14 5 (by omega) (side_sum hc)) rfl rfl) rfl rfl rfl ?_; rotate_left
  (repeat (first | refine' DV ?_ | refine' DA ?_ | refine' DK0 ?_ | refine' DT ?_ | refine' DS ?_ | (refine' DJ.nilB rfl rfl rfl rfl rfl ?_; rotate_left) | (refine' DJ.fldB tO rfl rfl rfl rfl rfl rfl rfl ?_; rotate_left)))
  refine' DJ.ofVal (ValOk.loadOwn tO rfl rfl rfl rfl (0) rfl (at_load hk 14 5 (by omega) (side_sum hc)) rfl rfl) rfl rfl rfl ?_; rotate_left
  (repeat (first | refine' DV ?_ | refine' DA ?_ | refine' DK0 ?_ | refine' DT ?_ | refine' DS ?_ | (refine' DJ.nilB rfl rfl rfl rfl rfl ?_; rotate_left) | (refine' DJ.fldB tO rfl rfl rfl rfl rfl rfl rfl ?_; rotate_left)))
  (refine DJ.nil (fun G1 hG1 hF1 => ?_); (case hS => rfl); (case hS2 => rfl))
  repeat (first | refine RUN ?_ | refine CV (hmul) ?_ | refine CE (hmul) ?_)
  try refine RUN ?_
  apply EV.drawn 12 (by kernel_rfl) (by kernel_rfl); intro xv yw
  (repeat (first | refine' DV ?_ | refine' DA ?_ | refine' DK0 ?_ | refine' DT ?_ | refine' DS ?_ | (refine' DJ.nilB rfl rfl rfl rfl rfl ?_; rotate_left) | (refine' DJ.fldB tO rfl rfl rfl rfl rfl rfl rfl ?_; rotate_left)))
  refine' DJ.ofVal (ValOk.loadOwn tO rfl rfl rfl rfl (0) rfl (at_load hk 0 1 (by omega) side_n) rfl rfl) rfl rfl rfl ?_; rotate_left
  (repeat (first | refine' DV ?_ | refine' DA ?_ | refine' DK0 ?_ | refine' DT ?_ | (refine' DC (hof2) (h := ?_); rotate_left) | (refine' DC (hdiv) (h := ?_); rotate_left) | refine' DS ?_))
  (refine DJ.nil (fun G2 hG2 hF2 => ?_); (case hS => rfl); (case hS2 => rfl))
  try refine RUN ?_
  exact ⟨rfl, rfl⟩
set_option maxHeartbeats 4000000 in
theorem worthC_at {n : Nat} {cs : List Int} (hc : cs.length = 12) {sq : Nat} (hsq : sq ≤ 10000000000000) (hn : n ≤ 1000000) {q : Rat} :
  PW prog 68 #[.pointer (some ⟨b, k, none⟩), .int .i64 1] H [(b, T, pre ++ (sideC n cs sq q ++ post))] fun v ow _ => v = fracV (((sq : Int) : Rat) / ((n : Int) : Rat)) ∧ ow = [(b, T, pre ++ (sideC n cs sq q ++ post))] := by
 have hlen := sideC_len (n := (n : Int)) (cs := cs) (sq := (sq : Int)) (q := q) hc
 have hof := of_pv (sq : Int) (by omega) (by omega)
 have hof2 := of_pv (n : Int) (by omega) (by omega)
 have hnh : ht ((n : Int) : Rat) ≤ 100 := by
  have := ht_int (n : Int)
  have h2 : bl (n : Int).natAbs ≤ 20 := bl_le (by omega)
  omega
 have hsh : ht ((sq : Int) : Rat) ≤ 100 := by
  have := ht_int (sq : Int)
  have h2 : bl (sq : Int).natAbs ≤ 50 := bl_le (by omega)
  omega
 refine PW.body tO func68 rfl (by kernel_rfl) ntmps68 rfl rfl ?_
 try refine RUN ?_
 (repeat (first | refine EVL.nilB rfl rfl rfl rfl rfl ?_ | refine EVL.fldB tO rfl rfl rfl rfl rfl rfl rfl ?_ | refine EVL.val tO rfl rfl rfl rfl rfl ?_))
 refine EVL.loadOwn tO rfl rfl rfl rfl rfl rfl (0) rfl (at_load hk 0 1 (by omega) side_n) rfl rfl ?_
 try refine RUN ?_
 by_cases h0 : n = 0
 ·subst h0
  rw [show (((0 : Nat) : Int) == 0) = true from rfl]
  try refine RUN ?_
  rw [show (((0 : Nat) : Int) : Rat) = 0 from rfl, rat_div_zero]
  exact ⟨fracV_zero.symm, rfl⟩
 ·have hdiv := div_pv ((sq : Int) : Rat) ((n : Int) : Rat) (sm_of hsh (by omega)) (sm_of hnh (by omega)) (nat_rat_ne h0)
  rw [show ((n : Int) == 0) = false from beq_eq_false_iff_ne.2 (by omega)]
  try refine RUN ?_
  (repeat (first | refine EVL.nilB rfl rfl rfl rfl rfl ?_ | refine EVL.fldB tO rfl rfl rfl rfl rfl rfl rfl ?_ | refine EVL.val tO rfl rfl rfl rfl rfl ?_))
  refine EVL.loadOwn tO rfl rfl rfl rfl rfl rfl (0) rfl (at_load hk 13 1 (by omega) (side_sq hc)) rfl rfl ?_
  repeat (first | refine RUN ?_ | refine CV (hof) ?_ | refine CE (hof) ?_)
  apply EV.drawn 12 (by kernel_rfl) (by kernel_rfl); intro xv yw
  (repeat (first | refine' DV ?_ | refine' DA ?_ | refine' DK0 ?_ | refine' DT ?_ | refine' DS ?_ | (refine' DJ.nilB rfl rfl rfl rfl rfl ?_; rotate_left) | (refine' DJ.fldB tO rfl rfl rfl rfl rfl rfl rfl ?_; rotate_left)))
  refine' DJ.ofVal (ValOk.loadOwn tO rfl rfl rfl rfl (0) rfl (at_load hk 0 1 (by omega) side_n) rfl rfl) rfl rfl rfl ?_; rotate_left
  (repeat (first | refine' DV ?_ | refine' DA ?_ | refine' DK0 ?_ | refine' DT ?_ | (refine' DC (hof2) (h := ?_); rotate_left) | (refine' DC (hdiv) (h := ?_); rotate_left) | refine' DS ?_))
  (refine DJ.nil (fun G2 hG2 hF2 => ?_); (case hS => rfl); (case hS2 => rfl))
  try refine RUN ?_
  exact ⟨rfl, rfl⟩
end
theorem gH_len {b : Nat} {c : Array Value} (h : gH b = some c) : c.toList.length = 64 := by
 unfold gH at h
 split at h
 ·cases h; rfl
 ·cases h
section
variable {P : Program} {n : Nat} {ops : Array Oper} {o : Oper} {rest : List Oper} {env : Env} {bx : Bxs} {sb : Bxs} {ow : Ows} {H : Hs} {Q : EQ} {τ : Tab} {d : Nat} {s : SV}
theorem ValOk.callR {f : FuncId} {args : Array Operand} {tys : Array TypeId} (ho : o.op = .call ⟨.value (.func f), args, tys⟩) (hw : wantB ops env o = some true) {vs : List Value} (ha : argsK env args.toList some = some vs) (jj : Nat) {b : Nat} {T : TypeId} {cs : List Value} (hj : ow[jj]? = some (b, T, cs)) (h64 : cs.length ≠ 64)
  {v : Value} (hc : Callable P f) {F : Hp → Prop} {R : Hp} (hpc : ∀ G, PW P f vs.toArray G [(b, T, cs)] fun u ow' _ => u = v ∧ ow' = [(b, T, cs)]) : ValOk P ops o env bx ow R F (fun β u G => (SV.v v).rep β G u) := fun β a W G hle hf hgl hb hown hs hF => by
 obtain ⟨vs', hk, hm⟩ := argsK_spec env _ _ _ ha
 cases hk
 have hvs := hm β G a.eval (fun y s hy => hs.op (by simp [ho, Op.operands, Call.operands]; exact .inr (by simpa using hy)))
 have hB := hown jj b T cs hj
 have hg : gH b = none := by
  cases hgb : gH b with
  | none => rfl
  | some c =>
   obtain ⟨T', fz, hW⟩ := hgl b c hgb
   have hB' : W.heap[b]? = some (.cells cs.toArray T (0, 0)) := hB
   rw [hB'] at hW
   cases hW
   have := gH_len hgb
   exact absurd (by simpa using this) h64
 rw [if_pos (hs.want hw)]
 unfold Oper.wp
 rw [run_call_enter hc ho hvs, Oper.upon_enter]
 refine ((hpc (fun k => if k = b then none else G k)).run W (fun k c h => hf k c (by first | (split at h <;> first | (cases h; done) | exact h))) hgl (fun j b' T' cs' h => ?_) ?_).mono ?_
 ·cases j with
  | zero => simp at h; obtain ⟨rfl, rfl, rfl⟩ := h; exact ⟨hB, if_pos rfl, hg⟩
  | succ j => simp at h
 ·intro j j' b' T1 T2 c1 c2 h1 h2
  cases j with
  | zero => cases j' with
   | zero => rfl
   | succ j' => simp at h2
  | succ j => simp at h1
 ·rintro e W' ⟨u, ow', H', rfl, ⟨rfl, rfl⟩, hle', hf', hnew, hk, hb', _⟩
  have hB2 := (hb' 0 b T cs rfl).1
  have hbel : Below W.heap.size W W' := ⟨hk.os, hk.tape, hk.output, hk.size, fun k hlt => by
   by_cases e : k = b
   ·subst e
    have h1 : W.heap[k]? = some (.cells cs.toArray T (0, 0)) := hB
    have h2 : W'.heap[k]? = some (.cells cs.toArray T (0, 0)) := hB2
    rw [h1, h2]
   ·exact hk.block k hlt (by simp [Ows.bs]; exact e)⟩
  exact ⟨u, G, rfl, rfl, Hp.Le.refl G, hf.below hbel, hbel, Nw.refl _ _ _⟩
theorem run_fn1 {f : Fn} {x : Operand} (ho : o.op = .makeFunc f #[] #[x]) {u : Value} (hx : env.op x = some (.v u)) (ev : Operand → Value) (W : World) (he : ∀ y x, y ∈ o.op.operands → env.op y = some (.v x) → ev y = x) :
  (execOp ev o).run P W = .ok (.value (.func f #[] #[u])) W := by
 have ex := he x _ (by simp [ho, Op.operands]) hx
 unfold execOp
 simp [ho, ex, Instr.makeFunc]
theorem EVL.fn1 {f : Fn} {x : Operand} (ho : o.op = .makeFunc f #[] #[x]) (hw : wantB ops env o = some true) (hd : o.dst = some d) (hn : Nat.blt d n = true) {u : Value} (hx : env.op x = some (.v u))
  (h : EVL P n ops rest ((d, .v (.func f #[] #[u])) :: env) bx H Q) : EVL P n ops (o :: rest) env bx H Q := EVL.gen hw hd hn (run_fn1 ho hx) h
theorem DJ.callR {tail l : List Oper} {x : Nat → Value} {y : Nat → Ows} {ow' : Ows} {kl ks : List DK} {i : Nat} {bx' : Bxs} {Γ : Fcts} {f : FuncId} {args : Array Operand} {tys : Array TypeId} (ho : o.op = .call ⟨.value (.func f), args, tys⟩) (hw : wantB ops env o = some true) (hd : o.dst = some d) (hn : Nat.blt d n = true)
  {vs : List Value} (ha : argsK env args.toList some = some vs) (jj : Nat) {b : Nat} {T : TypeId} {cs : List Value} (hj : H.ow[jj]? = some (b, T, cs)) (h64 : cs.length ≠ 64) {v : Value} (hc : Callable P f) (hpc : ∀ G, PW P f vs.toArray G [(b, T, cs)] fun u ow' _ => u = v ∧ ow' = [(b, T, cs)])
  (h : DJ P n ops tail sb bx H Q x y kl (i + 1) l ks ((d, .v v) :: env) bx' Γ ow') : DJ P n ops tail sb bx H Q x y kl i (o :: l) (.sv (.v v) :: ks) env bx' Γ ow' :=
 ⟨d, hd, hn, rfl, ValOk.callR ho hw ha jj hj h64 hc hpc, h⟩
end
structure GOk (H : Hp) (kd cl : Int) (sl sv : Value) (N : Nat) (S : List Int → List Value) (wo : List Int → Rat) : Prop where
 len : ∀ l, (S l).length = 19
 form : ∀ l, ∃ (n : Int) (cs : List Int) (sq : Int) (q : Rat), cs.length = 12 ∧ S l = sideC n cs sq q
 check : ∀ G, H.Le G → PC prog 60 #[goalV kd cl sl sv] G fun r _ => r = .int .i64 0
 leng : PV prog 61 #[goalV kd cl sl sv] (.int .i64 (N : Int))
 zero : S [] = Tryz.te116.zero
 first : ∀ l, ((S l).drop 0).take 1 = [.int .i64 (l.length : Int)]
 whole : ∀ G, H.Le G → ∀ v l, IL G v l → l.length ≤ 300 → (∀ r, r ∈ l → 0 ≤ r ∧ r < (N : Int)) → PC prog 67 #[goalV kd cl sl sv, v] G fun r _ => r = .agg (S l).toArray
 move : ∀ G, H.Le G → ∀ (b : Nat) (l l' : List Int) (r : Int), l.length + l'.length ≤ 299 → (∀ z, z ∈ l ++ r :: l' → 0 ≤ z ∧ z < (N : Int)) →
  PW prog 114 #[.pointer (some ⟨b, 0, none⟩), goalV kd cl sl sv, .int .i64 r] G [(b, 160, S l ++ S (r :: l'))] fun v ow _ => v = .tuple #[] ∧ ow = [(b, 160, S (l ++ [r]) ++ S l')]
 worth : ∀ (G : Hp) (b k : Nat) (T : TypeId) (pre post : List Value) (l : List Int), pre.length = k → l.length ≤ 300 → (∀ r, r ∈ l → 0 ≤ r ∧ r < (N : Int)) →
  PW prog 68 #[.pointer (some ⟨b, k, none⟩), .int .i64 kd] G [(b, T, pre ++ (S l ++ post))] fun v ow _ => v = fracV (wo l) ∧ ow = [(b, T, pre ++ (S l ++ post))]
 small : ∀ l : List Int, l.length ≤ 300 → (∀ r, r ∈ l → 0 ≤ r ∧ r < (N : Int)) → ht (wo l) ≤ 100000
theorem GOk.mono {H G : Hp} {kd cl : Int} {sl sv : Value} {N : Nat} {S : List Int → List Value} {wo : List Int → Rat} (h : GOk H kd cl sl sv N S wo) (k : H.Le G) : GOk G kd cl sl sv N S wo :=
 ⟨h.len, h.form, fun G' hG => h.check G' (k.trans hG), h.leng, h.zero, h.first, fun G' hG => h.whole G' (k.trans hG), fun G' hG => h.move G' (k.trans hG), h.worth, h.small⟩
theorem PV.pc' {P : Program} {f : FuncId} {args : Array Value} {v : Value} (h : PV P f args v) (G : Hp) : PC P f args G fun r _ => r = v := (h.pc G).mono fun _ _ h _ => h.1
theorem sumQ_foldr (l : List Rat) : ∀ x : Rat, l.foldl (· + ·) x = x + sumQ l := by
 unfold sumQ
 induction l with
 | nil => intro x; rw [List.foldl_nil, List.foldl_nil, Rat.add_zero]
 | cons y l ih => intro x; rw [List.foldl_cons, List.foldl_cons, ih, ih (0 + y), Rat.zero_add, Rat.add_assoc]
theorem sumQ_cons (x : Rat) (l : List Rat) : sumQ (x :: l) = x + sumQ l := by
 have := sumQ_foldr l (0 + x)
 rw [Rat.zero_add] at this
 unfold sumQ at *
 rw [List.foldl_cons, Rat.zero_add]; exact this
def sideV (vals : List Rat) (l : List Int) : List Value := sideC (l.length : Nat) (List.replicate 12 0) 0 (sumQ (atR vals l))
def sideL (ls : List Int) (l : List Int) : List Value := sideC (l.length : Nat) (csL (atI ls l)) (sqL (atI ls l) : Nat) 0
def woV (vals : List Rat) (l : List Int) : Rat := sumQ (atR vals l) * sumQ (atR vals l) / ((l.length : Int) : Rat)
def woL (ls : List Int) (l : List Int) : Rat := ((sqL (atI ls l) : Int) : Rat) / ((l.length : Int) : Rat)
theorem atR_getD {vals : List Rat} {R : Nat} {x : Rat} (h : vals[R]? = some x) (l : List Int) : atR vals ((R : Int) :: l) = x :: atR vals l := by
 unfold atR; rw [List.map_cons, Int.toNat_natCast, List.getD_eq_getElem?_getD, h]; rfl
theorem atI_getD {ls : List Int} {R : Nat} {x : Int} (h : ls[R]? = some x) (l : List Int) : atI ls ((R : Int) :: l) = x :: atI ls l := by
 unfold atI; rw [List.map_cons, Int.toNat_natCast, List.getD_eq_getElem?_getD, h]; rfl
theorem atR_app {vals : List Rat} (l m : List Int) : atR vals (l ++ m) = atR vals l ++ atR vals m := List.map_append
theorem atI_app {ls : List Int} (l m : List Int) : atI ls (l ++ m) = atI ls l ++ atI ls m := List.map_append
set_option maxHeartbeats 4000000 in
theorem gokV {H : Hp} {la : Option Addr} {lc : Nat} {va : Option Addr} {vc : Nat} {vals : List Rat} (hv : QL H (.slice va vals.length vc) vals) (h0 : 1 ≤ vals.length) (h1 : vals.length ≤ 300) (hb : ∀ q, q ∈ vals → ht q ≤ 100) :
  GOk H 2 0 (.slice la 0 lc) (.slice va vals.length vc) vals.length (sideV vals) (woV vals) := by
 have hs : ∀ l : List Int, l.length ≤ 300 → (∀ r, r ∈ l → 0 ≤ r ∧ r < (vals.length : Int)) → ht (sumQ (atR vals l)) ≤ 1 + 101 * 300 := fun l hl hr => by
  have h1 := ht_sum 100 (atR vals l) (fun q hq => hb q (atR_mem hr q hq))
  rw [atR_len] at h1
  omega
 refine ⟨fun l => sideC_len rfl, fun l => ⟨_, _, _, _, rfl, rfl⟩, fun G hG => (checkV_pv h0 h1).pc' G, lenV_pv, by unfold sideV; exact side_zero.symm, fun l => side_n, fun G hG v l hl hn hr => ?_, fun G hG b l l' r hn hr => ?_, fun G b k T pre post l hk hn hr => ?_, fun l hl hr => ?_⟩
 ·obtain ⟨a, c, rfl⟩ := SlC.val hl
  exact wholeV_pc (hv.mono hG) hl (by omega) hr hb
 ·have hrb := hr r (by simp)
  obtain ⟨R, rfl⟩ := Int.eq_ofNat_of_zero_le hrb.1
  obtain ⟨x, hx⟩ : ∃ x, vals[R]? = some x := ⟨_, List.getElem?_eq_getElem (by omega)⟩
  have hxs : sm x := sm_of (hb x (List.mem_of_getElem? hx)) (by omega)
  have h1 := hs l (by omega) (fun z hz => hr z (by simp [hz]))
  have h2 := hs ((R : Int) :: l') (by simp; omega) (fun z hz => hr z (List.mem_append_right _ hz))
  have e1 : sumQ (atR vals (l ++ [(R : Int)])) = sumQ (atR vals l) + x := by rw [atR_app, atR_getD hx]; exact sumQ_snoc _ _
  have e2 : sumQ (atR vals ((R : Int) :: l')) - x = sumQ (atR vals l') := by rw [atR_getD hx, sumQ_cons]; grind
  have hadd := fun (G' : Hp) (hG' : G.Le G') => addV_at (pre := []) (k := 0) (b := b) (T := 160) (post := sideV vals ((R : Int) :: l')) rfl (cl := 0) (la := la) (ln := 0) (lc := lc) (hv.mono (hG.trans hG')) (n := l.length) (by omega) hx hxs (sm_of h1 (by omega)) (cs := List.replicate 12 0) rfl (sq := 0)
  have hdrop := fun (G' : Hp) (hG' : G.Le G') => dropV_at (pre := sideV vals (l ++ [(R : Int)])) (k := 19) (b := b) (T := 160) (post := []) (sideC_len rfl) (cl := 0) (la := la) (ln := 0) (lc := lc) (hv.mono (hG.trans hG')) (n := l'.length) (by omega) hx hxs (sm_of h2 (by omega)) (cs := List.replicate 12 0) rfl (sq := 0)
  simp only [← e1] at hadd
  simp only [e2] at hdrop
  have hl1 : (l ++ [(R : Int)]).length = l.length + 1 := by simp
  refine PW.body tO func114 rfl (by kernel_rfl) ntmps114 rfl rfl ?_
  try refine RUN ?_
  apply EV.drawn 5 (by kernel_rfl) (by kernel_rfl); intro xv yw
  (repeat (first | refine' DV ?_ | refine' DA ?_ | refine' DK0 ?_ | refine' DT ?_ | refine' DS ?_ | (refine' DJ.nilB rfl rfl rfl rfl rfl ?_; rotate_left) | (refine' DJ.fldB tO rfl rfl rfl rfl rfl rfl rfl ?_; rotate_left)))
  (refine DJ.nil (fun G1 hG1 hF1 => ?_); (case hS => rfl); (case hS2 => rfl))
  refine EVL.callW rfl rfl rfl rfl rfl ([(b, 160, sideV vals l ++ sideV vals ((R : Int) :: l'))]) ([]) rfl (hadd _ hG1) ?_
  rintro v ow G2 ⟨rfl, rfl⟩ hG2
  rw [← hl1]
  try refine RUN ?_
  apply EV.drawn 5 (by kernel_rfl) (by kernel_rfl); intro xv yw
  (repeat (first | refine' DV ?_ | refine' DA ?_ | refine' DK0 ?_ | refine' DT ?_ | refine' DS ?_ | (refine' DJ.nilB rfl rfl rfl rfl rfl ?_; rotate_left) | (refine' DJ.fldB tO rfl rfl rfl rfl rfl rfl rfl ?_; rotate_left)))
  (refine DJ.nil (fun G3 hG3 hF3 => ?_); (case hS => rfl); (case hS2 => rfl))
  refine EVL.callW rfl rfl rfl rfl rfl ([(b, 160, sideV vals (l ++ [(R : Int)]) ++ (sideC ((l'.length + 1 : Nat) : Int) (List.replicate 12 0) 0 (sumQ (atR vals ((R : Int) :: l'))) ++ []))]) ([]) rfl (hdrop _ (hG1.trans (hG2.trans hG3))) ?_
  rintro v ow G4 ⟨rfl, rfl⟩ hG4
  try refine RUN ?_
  refine ⟨rfl, ?_⟩
  rw [List.append_nil]; rfl
 ·exact worthV_at hk (cs := List.replicate 12 0) rfl (sq := 0) (by omega) (by omega) (Nat.le_trans (hs l hn hr) (by omega))
 ·have h1 := hs l hl hr
  have h2 := ht_mul (sumQ (atR vals l)) (sumQ (atR vals l))
  have h3 := ht_int (l.length : Int)
  have h4 : bl (l.length : Int).natAbs ≤ 20 := bl_le (by omega)
  have h5 := ht_div (sumQ (atR vals l) * sumQ (atR vals l)) ((l.length : Int) : Rat)
  unfold woV
  omega
theorem sqL_perm {l m : List Int} (h : l.Perm m) : sqL l = sqL m := by
 unfold sqL
 have e : (l.map fun x => l.count x) = l.map fun x => m.count x := List.map_congr_left fun x _ => h.count_eq x
 rw [e]; exact (h.map _).sum_nat
theorem csL_perm {l m : List Int} (h : l.Perm m) : csL l = csL m := by
 unfold csL; exact List.map_congr_left fun k _ => by rw [h.count_eq]
theorem csL_cons {k : Nat} (hk : k < 12) (l : List Int) : (csL ((k : Int) :: l)).set k (l.count (k : Int) : Int) = csL l := by
 have h := csL_snoc l hk
 have hp : ((k : Int) :: l).Perm (l ++ [(k : Int)]) := List.perm_append_comm (l₁ := [(k : Int)]) (l₂ := l)
 rw [csL_perm hp, h, List.set_set]
 apply List.ext_getElem?
 intro j
 rw [List.getElem?_set]
 by_cases e : k = j
 ·subst e; rw [if_pos rfl, if_pos (by rw [csL_len]; exact hk), csL_at _ hk]
 ·rw [if_neg e]
theorem sqL_cons (x : Int) (l : List Int) : sqL (x :: l) = sqL l + 2 * l.count x + 1 := by
 have hp : (x :: l).Perm (l ++ [x]) := List.perm_append_comm (l₁ := [x]) (l₂ := l)
 rw [sqL_perm hp, sqL_snoc]
set_option maxHeartbeats 4000000 in
theorem gokL {H : Hp} {cl : Int} (hc : 1 ≤ cl ∧ cl ≤ 12) {va : Option Addr} {vc : Nat} {la : Option Addr} {lc : Nat} {ls : List Int} (hv : IL H (.slice la ls.length lc) ls) (h0 : 1 ≤ ls.length) (h1 : ls.length ≤ 300) (hls0 : ∀ z, z ∈ ls → 0 ≤ z ∧ z < cl) :
  GOk H 1 cl (.slice la ls.length lc) (.slice va 0 vc) ls.length (sideL ls) (woL ls) := by
 have hls : ∀ z, z ∈ ls → 0 ≤ z ∧ z < 12 := fun z hz => ⟨(hls0 z hz).1, by have := (hls0 z hz).2; omega⟩
 have hs : ∀ l : List Int, l.length ≤ 300 → sqL (atI ls l) ≤ 90000 := fun l hl => by
  have h1 := sqL_le (atI ls l)
  rw [atI_len] at h1
  exact Nat.le_trans h1 (Nat.mul_le_mul hl hl)
 refine ⟨fun l => sideC_len (csL_len _), fun l => ⟨_, _, _, _, csL_len _, rfl⟩, fun G hG => checkC_pc (hv.mono hG) hc h0 h1 hls0, lenC_pv, by unfold sideL; exact side_zero.symm, fun l => side_n, fun G hG v l hl hn hr => ?_, fun G hG b l l' r hn hr => ?_, fun G b k T pre post l hk hn hr => ?_, fun l hl hr => ?_⟩
 ·exact wholeC_any (hv.mono hG) hl (by omega) hr hls
 ·have hrb := hr r (by simp)
  obtain ⟨R, rfl⟩ := Int.eq_ofNat_of_zero_le hrb.1
  obtain ⟨x, hx⟩ : ∃ x, ls[R]? = some x := ⟨_, List.getElem?_eq_getElem (by omega)⟩
  have hxb := hls x (List.mem_of_getElem? hx)
  obtain ⟨k, rfl⟩ := Int.eq_ofNat_of_zero_le hxb.1
  have hk : k < 12 := by omega
  have h1 := hs l (by omega)
  have h2 := hs l' (by omega)
  have c1 : (atI ls l).count (k : Int) ≤ 300 := Nat.le_trans List.count_le_length (by rw [atI_len]; omega)
  have c2 : (atI ls l').count (k : Int) ≤ 300 := Nat.le_trans List.count_le_length (by rw [atI_len]; omega)
  have e1 : (csL (atI ls l)).set k (((atI ls l).count (k : Int) + 1 : Nat) : Int) = csL (atI ls (l ++ [(R : Int)])) := by rw [atI_app, atI_getD hx]; exact (csL_snoc _ hk).symm
  have e2 : sqL (atI ls l) + 2 * (atI ls l).count (k : Int) + 1 = sqL (atI ls (l ++ [(R : Int)])) := by rw [atI_app, atI_getD hx]; exact (sqL_snoc _ _).symm
  have e3 : (csL (atI ls ((R : Int) :: l'))).set k ((atI ls l').count (k : Int) : Int) = csL (atI ls l') := by rw [atI_getD hx]; exact csL_cons hk _
  have e4 : sqL (atI ls l') + 2 * (atI ls l').count (k : Int) + 1 = sqL (atI ls ((R : Int) :: l')) := by rw [atI_getD hx]; exact (sqL_cons _ _).symm
  have e5 : (csL (atI ls ((R : Int) :: l')))[k]? = some (((atI ls l').count (k : Int) + 1 : Nat) : Int) := by rw [csL_at _ hk, atI_getD hx, List.count_cons_self]
  have hadd := fun (G' : Hp) (hG' : G.Le G') => addC_at (pre := []) (k := 0) (b := b) (T := 160) (post := sideL ls ((R : Int) :: l')) rfl (cl := cl) (va := va) (vn := 0) (vc := vc) (hv.mono (hG.trans hG')) (n := l.length) (by omega) hx hk (cs := csL (atI ls l)) (csL_len _) (csL_at _ hk) (by omega) (sq := sqL (atI ls l)) (by omega) (q := 0)
  have hdrop := fun (G' : Hp) (hG' : G.Le G') => dropC_at (pre := sideL ls (l ++ [(R : Int)])) (k := 19) (b := b) (T := 160) (post := []) (sideC_len (csL_len _)) (cl := cl) (va := va) (vn := 0) (vc := vc) (hv.mono (hG.trans hG')) (n := l'.length) (by omega) hx hk (cs := csL (atI ls ((R : Int) :: l'))) (csL_len _) e5 (by omega) (sq := sqL (atI ls l')) (by omega) (q := 0)
  simp only [e1, e2] at hadd
  simp only [e3, e4] at hdrop
  have hl1 : (l ++ [(R : Int)]).length = l.length + 1 := by simp
  refine PW.body tO func114 rfl (by kernel_rfl) ntmps114 rfl rfl ?_
  try refine RUN ?_
  apply EV.drawn 5 (by kernel_rfl) (by kernel_rfl); intro xv yw
  (repeat (first | refine' DV ?_ | refine' DA ?_ | refine' DK0 ?_ | refine' DT ?_ | refine' DS ?_ | (refine' DJ.nilB rfl rfl rfl rfl rfl ?_; rotate_left) | (refine' DJ.fldB tO rfl rfl rfl rfl rfl rfl rfl ?_; rotate_left)))
  (refine DJ.nil (fun G1 hG1 hF1 => ?_); (case hS => rfl); (case hS2 => rfl))
  refine EVL.callW rfl rfl rfl rfl rfl ([(b, 160, sideL ls l ++ sideL ls ((R : Int) :: l'))]) ([]) rfl (hadd _ hG1) ?_
  rintro v ow G2 ⟨rfl, rfl⟩ hG2
  rw [← hl1]
  try refine RUN ?_
  apply EV.drawn 5 (by kernel_rfl) (by kernel_rfl); intro xv yw
  (repeat (first | refine' DV ?_ | refine' DA ?_ | refine' DK0 ?_ | refine' DT ?_ | refine' DS ?_ | (refine' DJ.nilB rfl rfl rfl rfl rfl ?_; rotate_left) | (refine' DJ.fldB tO rfl rfl rfl rfl rfl rfl rfl ?_; rotate_left)))
  (refine DJ.nil (fun G3 hG3 hF3 => ?_); (case hS => rfl); (case hS2 => rfl))
  refine EVL.callW rfl rfl rfl rfl rfl ([(b, 160, sideL ls (l ++ [(R : Int)]) ++ (sideC ((l'.length + 1 : Nat) : Int) (csL (atI ls ((R : Int) :: l'))) (sqL (atI ls ((R : Int) :: l')) : Nat) 0 ++ []))]) ([]) rfl (hdrop _ (hG1.trans (hG2.trans hG3))) ?_
  rintro v ow G4 ⟨rfl, rfl⟩ hG4
  try refine RUN ?_
  refine ⟨rfl, ?_⟩
  rw [List.append_nil]; rfl
 ·exact worthC_at hk (csL_len _) (by have := hs l hn; omega) (by omega)
 ·have h1 := hs l hl
  have h3 := ht_int (l.length : Int)
  have h4 : bl (l.length : Int).natAbs ≤ 20 := bl_le (by omega)
  have h6 := ht_int (sqL (atI ls l) : Int)
  have h7 : bl (sqL (atI ls l) : Int).natAbs ≤ 30 := bl_le (by omega)
  have h5 := ht_div ((sqL (atI ls l) : Int) : Rat) ((l.length : Int) : Rat)
  unfold woL
  omega
def candC (key : Int → Rat) (least : Int) (m : List Int) (j : Nat) : Bool := decide (least ≤ ((j + 1 : Nat) : Int)) && decide (least ≤ ((m.length - (j + 1) : Nat) : Int)) && decide (key (m.getD j 0) < key (m.getD (j + 1) 0))
def sumW (wo : List Int → Rat) (m : List Int) (j : Nat) : Rat := wo (m.take (j + 1)) + wo (m.drop (j + 1))
def midC (key : Int → Rat) (m : List Int) (j : Nat) : Rat := (key (m.getD j 0) + key (m.getD (j + 1) 0)) / 2
def colN (key : Int → Rat) (wo : List Int → Rat) (least : Int) (m : List Int) : Nat → Option (Rat × Rat)
 | 0 => none
 | j + 1 => if candC key least m j = true then (match colN key wo least m j with
  | none => some (midC key m j, sumW wo m j)
  | some (a, w) => if w < sumW wo m j then some (midC key m j, sumW wo m j) else some (a, w)) else colN key wo least m j
def stA : Option (Rat × Rat) → Rat
 | none => 0
 | some (a, _) => a
def stW : Option (Rat × Rat) → Rat
 | none => 0
 | some (_, w) => w
theorem colN_no {key : Int → Rat} {wo : List Int → Rat} {least : Int} {m : List Int} {j : Nat} (h : candC key least m j = false) : colN key wo least m (j + 1) = colN key wo least m j := by
 rw [colN, h, if_neg (by decide)]
theorem colN_first {key : Int → Rat} {wo : List Int → Rat} {least : Int} {m : List Int} {j : Nat} (h : candC key least m j = true) (h0 : colN key wo least m j = none) : colN key wo least m (j + 1) = some (midC key m j, sumW wo m j) := by
 rw [colN, h, if_pos rfl, h0]
theorem colN_more {key : Int → Rat} {wo : List Int → Rat} {least : Int} {m : List Int} {j : Nat} {a w : Rat} (h : candC key least m j = true) (h0 : colN key wo least m j = some (a, w)) (hw : w < sumW wo m j) : colN key wo least m (j + 1) = some (midC key m j, sumW wo m j) := by
 rw [colN, h, if_pos rfl, h0]; exact if_pos hw
theorem colN_less {key : Int → Rat} {wo : List Int → Rat} {least : Int} {m : List Int} {j : Nat} {a w : Rat} (h : candC key least m j = true) (h0 : colN key wo least m j = some (a, w)) (hw : ¬ w < sumW wo m j) : colN key wo least m (j + 1) = colN key wo least m j := by
 rw [colN, h, if_pos rfl, h0]; exact if_neg hw
theorem sw_low {S S' : List Value} {n : Int} (hl : S.length = 19) (h : (S.drop 0).take 1 = [.int .i64 n]) : ((S ++ S').drop (0 + 0 + 0)).take 1 = [.int .i64 n] := by
 rw [List.drop_append_of_le_length (by omega), List.take_append_of_le_length (by rw [List.length_drop]; omega)]; exact h
theorem sw_high {S S' : List Value} {n : Int} (hl : S.length = 19) (h : (S'.drop 0).take 1 = [.int .i64 n]) : ((S ++ S').drop (0 + 19 + 0)).take 1 = [.int .i64 n] := by
 rw [show 0 + 19 + 0 = 19 from rfl, List.drop_left' hl]; exact h
def ColR (X : List (List Rat)) (wo : List Int → Rat) (rs : List Int) (least col : Int) (o : Option (Rat × Rat)) : Prop := ∃ m, SortC X col rs m ∧ o = colN (colK X col) wo least m (m.length - 1) ∧ ht (stW o) ≤ 200001
theorem stW_ht {key : Int → Rat} {wo : List Int → Rat} {least : Int} {m : List Int} {B : Nat} (h : ∀ j, j < m.length → ht (sumW wo m j) ≤ B) (hB : 1 ≤ B) : ∀ j, j ≤ m.length → ht (stW (colN key wo least m j)) ≤ B
 | 0, _ => by show ht 0 ≤ B; rw [ht_zero]; exact hB
 | j + 1, hj => by
  have ih := stW_ht (key := key) (least := least) h hB j (by omega)
  have h1 := h j (by omega)
  unfold colN
  split
  ·split
   ·exact h1
   ·split
    ·exact h1
    ·rename_i h2 _
     rw [h2] at ih; exact ih
  ·exact ih
theorem ordQ_neg {a b : Rat} : ordR a b ≥ 0 ↔ ¬ a < b := by
 unfold ordR
 split
 ·rename_i h; constructor
  ·intro k; omega
  ·intro k; exact absurd h k
 ·rename_i h; constructor
  ·intro _; exact h
  ·intro _; split <;> omega
theorem ordQ_pos {a b : Rat} : ordR a b > 0 ↔ b < a := by
 unfold ordR
 split
 ·rename_i h; constructor
  ·intro k; omega
  ·intro k; exact absurd (Rat.le_of_lt h) (Rat.not_le.2 k)
 ·split
  ·rename_i h; exact ⟨fun _ => h, fun _ => by omega⟩
  ·rename_i h; exact ⟨fun k => by omega, fun k => absurd k h⟩
theorem len12 : ∀ {l : List Int}, l.length = 12 → ∃ c0 c1 c2 c3 c4 c5 c6 c7 c8 c9 c10 c11, l = [c0, c1, c2, c3, c4, c5, c6, c7, c8, c9, c10, c11]
 | [c0, c1, c2, c3, c4, c5, c6, c7, c8, c9, c10, c11], _ => ⟨_, _, _, _, _, _, _, _, _, _, _, _, rfl⟩
set_option maxHeartbeats 16000000 in
theorem column_pc {H : Hp} {kd cl : Int} {sl sv vx vr : Value} {X : List (List Rat)} {S : List Int → List Value} {wo : List Int → Rat} {rs : List Int} {col least : Int} (hg : GOk H kd cl sl sv X.length S wo) (hX : QLL H vx X) (hr : IL H vr rs) (hn : rs.length ≤ 20) (hrs : ∀ r, r ∈ rs → 0 ≤ r ∧ r < (X.length : Int)) (hb : ∀ x, x ∈ X → ∀ q, q ∈ x → ht q ≤ 100) :
  PC prog 66 #[goalV kd cl sl sv, vx, vr, .int .i64 col, .int .i64 least] H fun r _ => ∃ o, ColR X wo rs least col o ∧ r = .tuple #[fracV (stA o), fracV (stW o), .bool o.isSome] := by
 have hsorted := sorted_pc (col := col) hX hr hn hrs (fun x hx q hq => sm_of (hb x hx q hq) (by omega))
 obtain ⟨xa, xc, rfl⟩ := hX.val
 obtain ⟨ra, rc, rfl⟩ := SlC.val hr
 refine BD func66 ntmps66 ?_
 try refine RUN ?_
 refine EVL.call rfl rfl rfl rfl rfl (hsorted) ?_
 rintro r1 G1 ⟨m, hm, hsc⟩ hG1
 have hmr : ∀ r, r ∈ m → 0 ≤ r ∧ r < (X.length : Int) := by
  rcases hsc with ⟨_, hp, _⟩ | ⟨_, rfl⟩
  ·exact fun r hr => hrs r (hp.mem_iff.1 hr)
  ·intro r hr; cases hr
 have hmn : m.length ≤ 20 := by
  rcases hsc with ⟨_, hp, _⟩ | ⟨_, rfl⟩
  ·rw [hp.length_eq]; exact hn
  ·decide
 have hmh : ∀ r, r ∈ m → hasC X col r = true := by
  rcases hsc with ⟨ha, hp, _⟩ | ⟨_, rfl⟩
  ·exact fun r hr => List.all_eq_true.1 ha r (hp.mem_iff.1 hr)
  ·intro r hr; cases hr
 obtain ⟨ma, mc, rfl⟩ := SlC.val hm
 have hwh := hg.whole G1 hG1 _ m hm (by omega) hmr
 have hlS := hg.len m
 try refine RUN ?_
 refine EVL.call rfl rfl rfl rfl rfl (hwh) ?_
 rintro r2 G2 rfl hG2
 obtain ⟨sn, scs, ssq, sq, hs12, hS⟩ := hg.form m
 obtain ⟨c0, c1, c2, c3, c4, c5, c6, c7, c8, c9, c10, c11, rfl⟩ := len12 hs12
 rw [hS]
 try refine RUN ?_
 (first | refine EVL.unbox (14) rfl fun b => ?_ | refine EV.unbox (14) rfl fun b => ?_)
 (first | refine EVL.swapOw ([(b, 160, S (m.take 0) ++ S (m.drop 0))]) ([]) ((by rw [List.take_zero, List.drop_zero, hg.zero, hS]; rfl)) ?_ | refine EV.swapOw ([(b, 160, S (m.take 0) ++ S (m.drop 0))]) ([]) ((by rw [List.take_zero, List.drop_zero, hg.zero, hS]; rfl)) ?_)
 have hX2 := hX.mono (hG1.trans hG2)
 have hm2 := hm.mono hG2
 have hg2 := hg.mono (hG1.trans hG2)
 clear hS hwh hsorted
 have hsw : ∀ j, j < m.length → ht (sumW wo m j) ≤ 200001 := fun j hj => by
  have h1 := hg.small (m.take (j + 1)) (by rw [List.length_take]; omega) (fun r hr => hmr r (List.mem_of_mem_take hr))
  have h2 := hg.small (m.drop (j + 1)) (by rw [List.length_drop]; omega) (fun r hr => hmr r (List.mem_of_mem_drop hr))
  have h3 := ht_add (wo (m.take (j + 1))) (wo (m.drop (j + 1)))
  unfold sumW; omega
 have hst := fun j (hj : j ≤ m.length) => stW_ht (key := colK X col) (least := least) hsw (by omega) j hj
 generalize hkey : colK X col = key at *
 refine EV.loopK (ι := Nat) [1, 3, 4, 5, 10, 11, 13, 14] [5] (fun j => [(12, .v (.bool (colN key wo least m j).isSome)), (15, .v (.int .i64 ((j + 1 : Nat) : Int)))]) (fun j => [(10, 45, vlist (fracV (stA (colN key wo least m j)))), (11, 45, vlist (fracV (stW (colN key wo least m j))))]) (fun j => [(b, 160, S (m.take j) ++ S (m.drop j))]) (fun j _ => j ≤ m.length - 1) (fun j => m.length - j) (0) rfl rfl ⟨rfl, rfl, trivial⟩ ⟨by rw [show stA (colN key wo least m 0) = 0 from rfl, frac_zero_cells]; rfl, by rw [show stW (colN key wo least m 0) = 0 from rfl, frac_zero_cells]; rfl, trivial⟩ rfl (fun _ => rfl) (Nat.zero_le _) ?_
 rintro j G3 hG3 hj
 try refine RUN ?_
 refine EV.cond rfl (fun hlt => ?_) (fun hlt => ?_)
 ·simp only [nN] at hlt
  obtain ⟨r1, hr1⟩ : ∃ r, m[j]? = some r := ⟨_, List.getElem?_eq_getElem (by omega)⟩
  obtain ⟨r2, hr2⟩ : ∃ r, m[j + 1]? = some r := ⟨_, List.getElem?_eq_getElem hlt⟩
  have hb1 := hmr r1 (List.mem_of_getElem? hr1)
  have hb2 := hmr r2 (List.mem_of_getElem? hr2)
  obtain ⟨R1, C, x1, q1, rfl, hCC, hx1, hq1⟩ := hasC_at hb1.1 hb1.2 (hmh r1 (List.mem_of_getElem? hr1))
  subst hCC
  obtain ⟨R2, C', x2, q2, rfl, hCC, hx2, hq2⟩ := hasC_at hb2.1 hb2.2 (hmh r2 (List.mem_of_getElem? hr2))
  obtain rfl : C = C' := by omega
  obtain ⟨vs, hvs, hs⟩ := hX2.mono hG3
  obtain ⟨a1, e1, hu1, hQ1⟩ := hvs.at hx1
  obtain ⟨a2, e2, hu2, hQ2⟩ := hvs.at hx2
  have hs1 : SlC G3 (.slice a1 x1.length e1) x1.length 5 (x1.flatMap fun q => vlist (fracV q)) := hQ1
  have hs2 : SlC G3 (.slice a2 x2.length e2) x2.length 5 (x2.flatMap fun q => vlist (fracV q)) := hQ2
  have hm3 := hm2.mono hG3
  have hl1 := (List.getElem?_eq_some_iff.1 hq1).1
  have hl2 := (List.getElem?_eq_some_iff.1 hq2).1
  have hXl1 : R1 < X.length := by omega
  have hXl2 : R2 < X.length := by omega
  have hjl : j < m.length := by omega
  have hk1 : key (m.getD j 0) = q1 := by rw [List.getD_eq_getElem?_getD, hr1, ← hkey]; exact colK_at rfl rfl hx1 hq1
  have hk2 : key (m.getD (j + 1) 0) = q2 := by rw [List.getD_eq_getElem?_getD, hr2, ← hkey]; exact colK_at rfl rfl hx2 hq2
  have hqb1 := hb x1 (List.mem_of_getElem? hx1) q1 (List.mem_of_getElem? hq1)
  have hqb2 := hb x2 (List.mem_of_getElem? hx2) q2 (List.mem_of_getElem? hq2)
  have wj : IntKind.i64.wrap (((j + 1 : Nat) : Int) - 1) = (j : Int) := by rw [IntKind.wrap_i64]; omega
  have wn : IntKind.i64.wrap (((j + 1 : Nat) : Int) + 1) = ((j + 1 + 1 : Nat) : Int) := wi_inc (j + 1) (by omega)
  have hdrop : m.drop j = (R1 : Int) :: m.drop (j + 1) := dropA_at hr1
  have htake : m.take (j + 1) = m.take j ++ [(R1 : Int)] := take_snoc hr1
  have hmove := fun (G' : Hp) (hG' : G3.Le G') => hg2.move G' (hG3.trans hG') b (m.take j) (m.drop (j + 1)) (R1 : Int) (by rw [List.length_take, List.length_drop]; omega) (by rw [← hdrop, List.take_append_drop]; exact hmr)
  rw [← hdrop, ← htake] at hmove
  have htl : (m.take (j + 1)).length = j + 1 := by rw [List.length_take]; omega
  have hdl : (m.drop (j + 1)).length = m.length - (j + 1) := List.length_drop
  have hf1 := hg.first (m.take (j + 1))
  have hf2 := hg.first (m.drop (j + 1))
  rw [htl] at hf1
  rw [hdl] at hf2
  have hS1 := hg.len (m.take (j + 1))
  have hS2 := hg.len (m.drop (j + 1))
  have hcmp := cmp_pv q1 q2 (sm_of hqb1 (by omega)) (sm_of hqb2 (by omega))
  try refine RUN ?_
  apply EV.drawn 6 (by kernel_rfl) (by kernel_rfl); intro xv yw
  (repeat (first | refine' DV ?_ | refine' DA ?_ | refine' DK0 ?_ | refine' DT ?_ | refine' DS ?_))
  refine' DJ.ofVal (ValOk.idx1 tO rfl rfl rfl rfl rfl rfl rfl rfl (hm3) (j) (wj) (hjl) ((by rw [List.getElem?_map, hr1]; rfl))) rfl rfl rfl ?_; rotate_left
  (repeat (first | refine' DV ?_ | refine' DA ?_ | refine' DK0 ?_ | refine' DT ?_ | refine' DS ?_))
  (refine DJ.nil (fun G4 hG4 hF4 => ?_); (case hS => rfl); (case hS2 => rfl))
  refine EVL.callW rfl rfl rfl rfl rfl ([(b, 160, S (m.take j) ++ S (m.drop j))]) ([]) rfl (hmove G4 hG4) ?_
  rintro v ow G5 ⟨rfl, rfl⟩ hG5
  have hm5 := hm3.mono (hG4.trans hG5)
  have hs5 := hs.mono (hG4.trans hG5)
  have hs15 := hs1.mono (hG4.trans hG5)
  have hs25 := hs2.mono (hG4.trans hG5)
  try refine RUN ?_
  apply EV.drawn 24 (by kernel_rfl) (by kernel_rfl); intro xv yw
  (repeat (first | refine' DV ?_ | refine' DA ?_ | refine' DK0 ?_ | refine' DT ?_ | refine' DS ?_))
  refine' DJ.ofVal (ValOk.idx1 tO rfl rfl rfl rfl rfl rfl rfl rfl (hm5) (j) (wj) (hjl) ((by rw [List.getElem?_map, hr1]; rfl))) rfl rfl rfl ?_; rotate_left
  (repeat (first | refine' DV ?_ | refine' DA ?_ | refine' DK0 ?_ | refine' DT ?_ | refine' DS ?_))
  refine' DJ.ofVal (ValOk.idx1 tO rfl rfl rfl rfl rfl rfl rfl rfl (hs5) (R1) (rfl) (hXl1) (hu1)) rfl rfl rfl ?_; rotate_left
  (repeat (first | refine' DV ?_ | refine' DA ?_ | refine' DK0 ?_ | refine' DT ?_ | refine' DS ?_))
  refine' DJ.idxM tO rfl rfl rfl rfl rfl rfl rfl rfl rfl (hs15) (C) (rfl) (hl1) (QL.at (H := H) (v := .bool true) hq1) ?_; rotate_left
  (repeat (first | refine' DV ?_ | refine' DA ?_ | refine' DK0 ?_ | refine' DT ?_ | refine' DS ?_))
  refine' DJ.ofVal (ValOk.idx1 tO rfl rfl rfl rfl rfl rfl rfl rfl (hm5) (j + 1) (rfl) (hlt) ((by rw [List.getElem?_map, hr2]; rfl))) rfl rfl rfl ?_; rotate_left
  (repeat (first | refine' DV ?_ | refine' DA ?_ | refine' DK0 ?_ | refine' DT ?_ | refine' DS ?_))
  refine' DJ.ofVal (ValOk.idx1 tO rfl rfl rfl rfl rfl rfl rfl rfl (hs5) (R2) (rfl) (hXl2) (hu2)) rfl rfl rfl ?_; rotate_left
  (repeat (first | refine' DV ?_ | refine' DA ?_ | refine' DK0 ?_ | refine' DT ?_ | refine' DS ?_))
  refine' DJ.idxM tO rfl rfl rfl rfl rfl rfl rfl rfl rfl (hs25) (C) (rfl) (hl2) (QL.at (H := H) (v := .bool true) hq2) ?_; rotate_left
  (repeat (first | refine' DV ?_ | refine' DA ?_ | refine' DK0 ?_ | refine' DT ?_ | refine' DS ?_))
  (refine DJ.nil (fun G6 hG6 hF6 => ?_); (case hS => rfl); (case hS2 => rfl))
  try refine RUN ?_
  (repeat (first | refine EVL.nilB rfl rfl rfl rfl rfl ?_ | refine EVL.fldB tO rfl rfl rfl rfl rfl rfl rfl ?_ | refine EVL.val tO rfl rfl rfl rfl rfl ?_))
  refine EVL.loadOwn tO rfl rfl rfl rfl rfl rfl (0) rfl (sw_low hS1 hf1) rfl rfl ?_
  try refine RUN ?_
  have hcand : candC key least m j = (decide (least ≤ ((j + 1 : Nat) : Int)) && decide (least ≤ ((m.length - (j + 1) : Nat) : Int)) && decide (q1 < q2)) := by unfold candC; rw [hk1, hk2]
  by_cases h1 : ((j + 1 : Nat) : Int) < least
  ·have hno : colN key wo least m (j + 1) = colN key wo least m j := colN_no (by rw [hcand, decide_eq_false (show ¬ least ≤ ((j + 1 : Nat) : Int) by omega)]; rfl)
   rw [decide_eq_true h1]
   try refine RUN ?_
   refine ⟨j + 1, ⟨by rw [hno]; rfl, by rw [wn]; rfl, trivial⟩, (by repeat (first | exact trivial | refine And.intro rfl ?_)), ⟨by rw [hno]; rfl, by rw [hno]; rfl, trivial⟩, (by repeat (first | exact trivial | refine And.intro rfl ?_)), rfl, by omega, hG4.trans (hG5.trans hG6), by omega⟩
  ·rw [decide_eq_false h1]
   try refine RUN ?_
   (repeat (first | refine EVL.nilB rfl rfl rfl rfl rfl ?_ | refine EVL.fldB tO rfl rfl rfl rfl rfl rfl rfl ?_ | refine EVL.val tO rfl rfl rfl rfl rfl ?_))
   refine EVL.loadOwn tO rfl rfl rfl rfl rfl rfl (0) rfl (sw_high hS1 hf2) rfl rfl ?_
   try refine RUN ?_
   by_cases h2 : ((m.length - (j + 1) : Nat) : Int) < least
   ·have hno : colN key wo least m (j + 1) = colN key wo least m j := colN_no (by rw [hcand, decide_eq_false (show ¬ least ≤ ((m.length - (j + 1) : Nat) : Int) by omega), Bool.and_false]; rfl)
    rw [decide_eq_true h2]
    try refine RUN ?_
    refine ⟨j + 1, ⟨by rw [hno]; rfl, by rw [wn]; rfl, trivial⟩, (by repeat (first | exact trivial | refine And.intro rfl ?_)), ⟨by rw [hno]; rfl, by rw [hno]; rfl, trivial⟩, (by repeat (first | exact trivial | refine And.intro rfl ?_)), rfl, by omega, hG4.trans (hG5.trans hG6), by omega⟩
   ·rw [decide_eq_false h2]
    repeat (first | refine RUN ?_ | refine CV (hcmp) ?_ | refine CE (hcmp) ?_)
    by_cases h3 : q1 < q2
    ·have hc : candC key least m j = true := by rw [hcand, decide_eq_true (show least ≤ ((j + 1 : Nat) : Int) by omega), decide_eq_true (show least ≤ ((m.length - (j + 1) : Nat) : Int) by omega), decide_eq_true h3]; rfl
     have hmid : midC key m j = (q1 + q2) / 2 := by unfold midC; rw [hk1, hk2]
     have hr1' := fun r hr => hmr r (List.mem_of_mem_take (i := j + 1) hr)
     have hr2' := fun r hr => hmr r (List.mem_of_mem_drop (i := j + 1) hr)
     have hw1 := fun G' : Hp => hg2.worth G' b 0 160 [] (S (m.drop (j + 1))) (m.take (j + 1)) rfl (by omega) hr1'
     have hw2 := fun G' : Hp => hg2.worth G' b 19 160 (S (m.take (j + 1))) [] (m.drop (j + 1)) hS1 (by omega) hr2'
     simp only [List.append_nil] at hw2
     have hsm1 := hg.small (m.take (j + 1)) (by omega) hr1'
     have hsm2 := hg.small (m.drop (j + 1)) (by omega) hr2'
     have hadd := add_pv (wo (m.take (j + 1))) (wo (m.drop (j + 1))) (sm_of hsm1 (by omega)) (sm_of hsm2 (by omega))
     have hmv := middle_pv q1 q2 (by omega) (by omega)
     have hws := hsw j (by omega)
     have hwst := hst j (by omega)
     rw [show wo (m.take (j + 1)) + wo (m.drop (j + 1)) = sumW wo m j from rfl] at hadd
     rw [← hmid] at hmv
     rw [decide_eq_false (fun h => absurd h3 (ordQ_neg.1 h))]
     try refine RUN ?_
     apply EV.drawn 10 (by kernel_rfl) (by kernel_rfl); intro xv yw
     (repeat (first | refine' DV ?_ | refine' DA ?_ | refine' DK0 ?_ | refine' DT ?_ | refine' DS ?_ | (refine' DJ.nilB rfl rfl rfl rfl rfl ?_; rotate_left) | (refine' DJ.fldB tO rfl rfl rfl rfl rfl rfl rfl ?_; rotate_left)))
     (refine' DJ.callR rfl rfl rfl rfl rfl 0 rfl (by simp [hS1, hS2]) (cO func68) (fun G' => hw1 G') ?_; rotate_left)
     (repeat (first | refine' DV ?_ | refine' DA ?_ | refine' DK0 ?_ | refine' DT ?_ | refine' DS ?_ | (refine' DJ.nilB rfl rfl rfl rfl rfl ?_; rotate_left) | (refine' DJ.fldB tO rfl rfl rfl rfl rfl rfl rfl ?_; rotate_left)))
     (refine' DJ.callR rfl rfl rfl rfl rfl 0 rfl (by simp [hS1, hS2]) (cO func68) (fun G' => hw2 G') ?_; rotate_left)
     (repeat (first | refine' DV ?_ | refine' DA ?_ | refine' DK0 ?_ | refine' DT ?_ | (refine' DC (hadd) (h := ?_); rotate_left) | refine' DS ?_))
     (refine DJ.nil (fun G7 hG7 hF7 => ?_); (case hS => rfl); (case hS2 => rfl))
     try refine RUN ?_
     have hcmp2 := cmp_pv (sumW wo m j) (stW (colN key wo least m j)) (sm_of hws (by omega)) (sm_of hwst (by omega))
     cases hst0 : colN key wo least m j with
     | none =>
      have hyes := colN_first (wo := wo) hc hst0
      rw [hst0] at hcmp2
      try refine RUN ?_
      apply EV.drawnK [1, 3, 4, 5, 10, 11, 13, 14, 15, 16, 17, 18] [10, 11] [5, 16, 17, 18] 5 rfl rfl rfl rfl (by kernel_rfl) (by kernel_rfl); intro xv yw
      (repeat (first | refine' DV ?_ | refine' DA ?_ | refine' DK0 ?_ | refine' DT ?_ | (refine' DC (hmv) (h := ?_); rotate_left) | refine' DS ?_))
      (refine DJ.nil (fun G8 hG8 hF8 => ?_); (case hS => rfl); (case hS2 => rfl); (case hD => rfl))
      try refine RUN ?_
      refine ⟨j + 1, ⟨by rw [hyes]; rfl, by rw [wn]; rfl, trivial⟩, (by repeat (first | exact trivial | refine And.intro rfl ?_)), ⟨by rw [hyes]; rfl, by rw [hyes]; rfl, trivial⟩, (by repeat (first | exact trivial | refine And.intro rfl ?_)), rfl, by omega, hG4.trans (hG5.trans (hG6.trans (hG7.trans hG8))), by omega⟩
     | some p =>
      obtain ⟨pa, pw⟩ := p
      rw [hst0] at hcmp2
      repeat (first | refine RUN ?_ | refine CV (hcmp2) ?_ | refine CE (hcmp2) ?_)
      by_cases h4 : pw < sumW wo m j
      ·have hyes := colN_more (wo := wo) hc hst0 h4
       rw [decide_eq_true (show ordR (sumW wo m j) (stW (some (pa, pw))) > 0 from ordQ_pos.2 h4)]
       try refine RUN ?_
       apply EV.drawnK [1, 3, 4, 5, 10, 11, 13, 14, 15, 16, 17, 18] [10, 11] [5, 16, 17, 18] 5 rfl rfl rfl rfl (by kernel_rfl) (by kernel_rfl); intro xv yw
       (repeat (first | refine' DV ?_ | refine' DA ?_ | refine' DK0 ?_ | refine' DT ?_ | (refine' DC (hmv) (h := ?_); rotate_left) | refine' DS ?_))
       (refine DJ.nil (fun G8 hG8 hF8 => ?_); (case hS => rfl); (case hS2 => rfl); (case hD => rfl))
       try refine RUN ?_
       refine ⟨j + 1, ⟨by rw [hyes]; rfl, by rw [wn]; rfl, trivial⟩, (by repeat (first | exact trivial | refine And.intro rfl ?_)), ⟨by rw [hyes]; rfl, by rw [hyes]; rfl, trivial⟩, (by repeat (first | exact trivial | refine And.intro rfl ?_)), rfl, by omega, hG4.trans (hG5.trans (hG6.trans (hG7.trans hG8))), by omega⟩
      ·have hno := (colN_less (wo := wo) hc hst0 h4).trans hst0
       rw [decide_eq_false (show ¬ ordR (sumW wo m j) (stW (some (pa, pw))) > 0 from fun h => h4 (ordQ_pos.1 h))]
       try refine RUN ?_
       refine ⟨j + 1, ⟨by rw [hno]; rfl, by rw [wn]; rfl, trivial⟩, (by repeat (first | exact trivial | refine And.intro rfl ?_)), ⟨by rw [hno]; rfl, by rw [hno]; rfl, trivial⟩, (by repeat (first | exact trivial | refine And.intro rfl ?_)), rfl, by omega, hG4.trans (hG5.trans (hG6.trans hG7)), by omega⟩
    ·have hno : colN key wo least m (j + 1) = colN key wo least m j := colN_no (by rw [hcand, decide_eq_false h3, Bool.and_false])
     rw [decide_eq_true (ordQ_neg.2 h3)]
     try refine RUN ?_
     refine ⟨j + 1, ⟨by rw [hno]; rfl, by rw [wn]; rfl, trivial⟩, (by repeat (first | exact trivial | refine And.intro rfl ?_)), ⟨by rw [hno]; rfl, by rw [hno]; rfl, trivial⟩, (by repeat (first | exact trivial | refine And.intro rfl ?_)), rfl, by omega, hG4.trans (hG5.trans hG6), by omega⟩
 ·simp only [nN] at hlt
  obtain rfl : j = m.length - 1 := by omega
  have hfh := hst (m.length - 1) (by omega)
  generalize hfin : colN key wo least m (m.length - 1) = fin at *
  try refine RUN ?_
  refine EVA.start (by kernel_rfl) ?_
  refine EVA.val tO (2) rfl (by kernel_rfl) (by kernel_rfl) (by kernel_rfl) rfl rfl rfl rfl rfl ?_
  refine EVA.two 0 1 (by kernel_rfl) rfl rfl ?_ ?_
  ·(try refine RUNL ?_)
   refine EVL.nil ⟨rfl, ?_⟩
   refine EVA.two 1 3 (by kernel_rfl) rfl rfl ?_ ?_
   ·(try refine RUNL ?_)
    refine EVL.nil ⟨rfl, ?_⟩
    refine EVA.one 3 (by kernel_rfl) rfl ?_
    (try refine RUNL ?_)
    refine EVL.nil ⟨rfl, ?_⟩
    refine EVA.one 4 (by kernel_rfl) rfl ?_
    (try refine RUNL ?_)
    refine EVL.nil ⟨rfl, ?_⟩
    refine EVA.one 5 (by kernel_rfl) rfl ?_
    (try refine RUNL ?_)
    refine EVL.nil ⟨rfl, ?_⟩
    refine EVA.nil (by kernel_rfl) ?_
    try refine RUN ?_
    exact ⟨fin, ⟨m, hsc, by rw [hkey]; exact hfin.symm, hfh⟩, rfl⟩
   ·(try refine RUNL ?_)
    refine EVL.nil ⟨rfl, ?_⟩
    refine EVA.one 1 (by kernel_rfl) rfl ?_
    (try refine RUNL ?_)
    refine EVL.nil ⟨rfl, ?_⟩
    refine EVA.one 4 (by kernel_rfl) rfl ?_
    (try refine RUNL ?_)
    refine EVL.nil ⟨rfl, ?_⟩
    refine EVA.one 5 (by kernel_rfl) rfl ?_
    (try refine RUNL ?_)
    refine EVL.nil ⟨rfl, ?_⟩
    refine EVA.nil (by kernel_rfl) ?_
    try refine RUN ?_
    exact ⟨fin, ⟨m, hsc, by rw [hkey]; exact hfin.symm, hfh⟩, rfl⟩
  ·(try refine RUNL ?_)
   refine EVL.nil ⟨rfl, ?_⟩
   refine EVA.one 0 (by kernel_rfl) rfl ?_
   (try refine RUNL ?_)
   refine EVL.nil ⟨rfl, ?_⟩
   refine EVA.one 3 (by kernel_rfl) rfl ?_
   (try refine RUNL ?_)
   refine EVL.nil ⟨rfl, ?_⟩
   refine EVA.one 4 (by kernel_rfl) rfl ?_
   (try refine RUNL ?_)
   refine EVL.nil ⟨rfl, ?_⟩
   refine EVA.one 5 (by kernel_rfl) rfl ?_
   (try refine RUNL ?_)
   refine EVL.nil ⟨rfl, ?_⟩
   refine EVA.nil (by kernel_rfl) ?_
   try refine RUN ?_
   exact ⟨fin, ⟨m, hsc, by rw [hkey]; exact hfin.symm, hfh⟩, rfl⟩
def RRs (H : Hp) (vs : List Value) (X : List (List Rat)) : Prop := vs.length = X.length ∧ ∀ (j : Nat) (u : Value) (x : List Rat), vs[j]? = some u → X[j]? = some x → RL H u x
theorem RRs.mono {H G : Hp} {vs : List Value} {X : List (List Rat)} (h : RRs H vs X) (k : H.Le G) : RRs G vs X := ⟨h.1, fun j u x e1 e2 => (h.2 j u x e1 e2).mono k⟩
theorem RRs.nil (H : Hp) : RRs H [] [] := ⟨rfl, fun j u x h => by simp at h⟩
theorem RRs.snoc {H : Hp} {vs : List Value} {X : List (List Rat)} {u : Value} {x : List Rat} (h : RRs H vs X) (k : RL H u x) : RRs H (vs ++ [u]) (X ++ [x]) := vs_snoc h k
def RLL (H : Hp) (v : Value) (X : List (List Rat)) : Prop := ∃ vs : List Value, RRs H vs X ∧ SlC H v X.length 1 vs
theorem RLL.mono {H G : Hp} {v : Value} {X : List (List Rat)} (h : RLL H v X) (k : H.Le G) : RLL G v X := by
 obtain ⟨vs, h1, h2⟩ := h
 exact ⟨vs, h1.mono k, h2.mono k⟩
theorem RLL.val {H : Hp} {v : Value} {X : List (List Rat)} (h : RLL H v X) : ∃ a c, v = .slice a X.length c := by
 obtain ⟨vs, _, h2⟩ := h
 exact SlC.val h2
theorem RRs.at {H : Hp} {vs : List Value} {X : List (List Rat)} (h : RRs H vs X) {j : Nat} {x : List Rat} (hj : X[j]? = some x) : ∃ a c, vs[j]? = some (.slice a x.length c) ∧ RL H (.slice a x.length c) x := by
 obtain ⟨hl, _⟩ := List.getElem?_eq_some_iff.1 hj
 obtain ⟨u, hu⟩ : ∃ u, vs[j]? = some u := ⟨_, List.getElem?_eq_getElem (by rw [h.1]; exact hl)⟩
 have hq := h.2 j u x hu hj
 obtain ⟨a, c, rfl⟩ := hq.val
 exact ⟨a, c, hu, hq⟩
def rowsQ (l : List Int) (n w : Nat) : List (List Rat) := (List.range n).map fun i => rowQ (l.drop (min l.length (i * w))) w
theorem rowsQ_len (l : List Int) (n w : Nat) : (rowsQ l n w).length = n := by simp [rowsQ]
theorem rowsQ_at (l : List Int) {n w i : Nat} (h : i < n) : (rowsQ l n w)[i]? = some (rowQ (l.drop (min l.length (i * w))) w) := by
 unfold rowsQ; rw [List.getElem?_map, List.getElem?_range h]; rfl
theorem IL.drop {H : Hp} {a : Option Addr} {cap : Nat} {l : List Int} (h : IL H (.slice a l.length cap) l) (k : Nat) (hk : k ≤ l.length) : IL H (.slice (if cap = k then a else a.map (·.add (k * 1))) (l.length - k) (cap - k)) (l.drop k) := by
 have hs : SlC H (.slice a l.length cap) l.length 1 (l.map iv) := h
 have := hs.sub k l.length hk (Nat.le_refl _) (SlN.le h)
 unfold IL SlN
 rw [List.length_drop, List.map_drop]
 rw [Nat.mul_one, Nat.mul_one, List.take_of_length_le (by simp)] at this
 rw [Nat.mul_one]
 exact this
set_option maxHeartbeats 4000000 in
theorem rows_pc {H : Hp} {v : Value} {l : List Int} (h : IL H v l) (hb : ∀ z, z ∈ l → -9223372036854775808 ≤ z ∧ z < 9223372036854775808) (n w : Nat) (hn : n ≤ 1000) (hw : w ≤ 1000) : PC prog 11 #[v, .int .i64 (n : Int), .int .i64 (w : Int)] H fun r H' => RLL H' r (rowsQ l n w) := by
 obtain ⟨a, cap, rfl⟩ := SlC.val h
 have hcap : l.length ≤ cap := SlN.le h
 refine BD func11 ntmps11 ?_
 try refine RUN ?_
 refine EV.loopK (ι := Nat × List Value × Value × Ows) [0, 1, 2] [] (fun q => [(7, .v q.2.2.1), (8, .v (.int .i64 (q.1 : Int)))]) (fun _ => []) (fun q => q.2.2.2) (fun q G => q.1 ≤ n ∧ RRs G q.2.1 ((rowsQ l n w).take q.1) ∧ OwnL 29 1 q.2.2.1 q.1 q.2.1 q.2.2.2) (fun q => n - q.1) ((0, [], .slice none 0 0, [])) rfl rfl ⟨rfl, rfl, trivial⟩ trivial rfl (fun _ => rfl) (⟨Nat.zero_le _, RRs.nil _, OwnL.nil _ _⟩) ?_
 rintro ⟨i, vs, u, ow⟩ G1 hG1 ⟨hi, hvs, hown⟩
 dsimp only at hi hvs hown
 obtain ⟨wa, wc, rfl⟩ := hown.val
 try refine RUN ?_
 refine EV.cond rfl (fun hlt => ?_) (fun hlt => ?_)
 ·simp only [nN] at hlt
  have hk : i * w ≤ 1000 * 1000 := Nat.mul_le_mul (by omega) hw
  have hwr : IntKind.i64.wrap ((i : Int) * (w : Int)) = ((i * w : Nat) : Int) := by
   rw [← Int.natCast_mul]; generalize i * w = k at *; rw [IntKind.wrap_i64]; omega
  have hrow := rowsQ_at l (w := w) hlt
  generalize i * w = k at *
  have hd := IL.drop (h.mono hG1) (min l.length k) (Nat.min_le_left _ _)
  have hrp := row_pc hd (fun z hz => hb z (List.mem_of_mem_drop hz)) w (by omega)
  try refine RUN ?_
  rw [hwr]
  refine EVL.asI ((min l.length k : Nat)) ((by split <;> omega)) ?_
  refine EVL.slc tO rfl rfl rfl rfl rfl rfl rfl rfl (min l.length k) l.length (.inr ⟨_, IntKind.i64, rfl, rfl⟩) (.inl ⟨rfl, rfl⟩) (Nat.min_le_left _ _) hcap hcap ?_
  try refine RUN ?_
  refine EVL.call rfl rfl rfl rfl rfl (hrp) ?_
  rintro r G2 hr hG2
  obtain ⟨ra, rc, rfl⟩ := hr.val
  try refine RUN ?_
  refine EVL.app1 tO rfl rfl rfl rfl rfl rfl rfl rfl rfl rfl rfl rfl rfl rfl rfl rfl rfl rfl rfl (fun _ => rfl) (ow) ([]) ((List.append_nil _).symm) (hown) (by omega) fun _ => ?_
  intro v' ow' hown'
  try refine RUN ?_
  refine ⟨(i + 1, vs ++ [_], v', ow'), ⟨rfl, ?_, trivial⟩, (by repeat (first | exact trivial | refine And.intro rfl ?_)), trivial, trivial, List.append_nil _, ⟨hlt, by rw [take_snoc hrow]; exact (hvs.mono hG2).snoc hr, hown'⟩, hG2, by dsimp only; omega⟩
  rw [wi_inc i (by omega)]; rfl
 ·simp only [nN] at hlt
  obtain rfl : i = n := by omega
  rw [List.take_of_length_le (by rw [rowsQ_len]; omega)] at hvs
  (first | refine EVL.publishL [] ow [] ((List.append_nil _).symm) hown fun G2 hG2 hs => ?_ | refine EV.publishL [] ow [] ((List.append_nil _).symm) hown fun G2 hG2 hs => ?_)
  try refine RUN ?_
  exact ⟨vs, hvs.mono hG2, by rw [rowsQ_len]; exact hs⟩
set_option maxHeartbeats 4000000 in
theorem inRows_pc {H : Hp} {v : Value} {X : List (List Rat)} (h : RLL H v X) (hn : X.length ≤ 1000000) (hx : ∀ x, x ∈ X → x.length ≤ 1000000 ∧ ∀ q, q ∈ x → rq q) : PC prog 10 #[v] H fun r H' => QLL H' r X := by
 obtain ⟨a, cap, rfl⟩ := h.val
 refine BD func10 ntmps10 ?_
 try refine RUN ?_
 refine EV.loopK (ι := Nat × List Value × Value × Ows) [0] [] (fun q => [(3, .v q.2.2.1), (4, .v (.int .i64 (q.1 : Int)))]) (fun _ => []) (fun q => q.2.2.2) (fun q G => q.1 ≤ X.length ∧ QVs G q.2.1 (X.take q.1) ∧ OwnL 25 1 q.2.2.1 q.1 q.2.1 q.2.2.2) (fun q => X.length - q.1) ((0, [], .slice none 0 0, [])) rfl rfl ⟨rfl, rfl, trivial⟩ trivial rfl (fun _ => rfl) (⟨Nat.zero_le _, QVs.nil _, OwnL.nil _ _⟩) ?_
 rintro ⟨i, vs, u, ow⟩ G1 hG1 ⟨hi, hvs, hown⟩
 dsimp only at hi hvs hown
 obtain ⟨wa, wc, rfl⟩ := hown.val
 try refine RUN ?_
 refine EV.cond rfl (fun hlt => ?_) (fun hlt => ?_)
 ·simp only [nN] at hlt
  obtain ⟨x, hxi⟩ : ∃ x, X[i]? = some x := ⟨_, List.getElem?_eq_getElem hlt⟩
  have hxb := hx x (List.mem_of_getElem? hxi)
  obtain ⟨us, hus, hs⟩ := h.mono hG1
  obtain ⟨a1, c1, hu1, hR⟩ := hus.at hxi
  have hin := inRow_pc hR (by omega) hxb.2
  try refine RUN ?_
  refine EVL.idxR tO rfl rfl rfl rfl rfl rfl rfl rfl rfl rfl (hs) (i) (rfl) (hlt) (hu1) ?_
  try refine RUN ?_
  refine EVL.call rfl rfl rfl rfl rfl (hin) ?_
  rintro r G2 hr hG2
  obtain ⟨ra, rc, rfl⟩ := SlC.val hr
  try refine RUN ?_
  refine EVL.app1 tO rfl rfl rfl rfl rfl rfl rfl rfl rfl rfl rfl rfl rfl rfl rfl rfl rfl rfl rfl (fun _ => rfl) (ow) ([]) ((List.append_nil _).symm) (hown) (by omega) fun _ => ?_
  intro v' ow' hown'
  try refine RUN ?_
  refine ⟨(i + 1, vs ++ [_], v', ow'), ⟨rfl, ?_, trivial⟩, (by repeat (first | exact trivial | refine And.intro rfl ?_)), trivial, trivial, List.append_nil _, ⟨hlt, by rw [take_snoc hxi]; exact (hvs.mono hG2).snoc hr, hown'⟩, hG2, by dsimp only; omega⟩
  rw [wi_inc i (by omega)]; rfl
 ·simp only [nN] at hlt
  obtain rfl : i = X.length := by omega
  rw [List.take_length] at hvs
  (first | refine EVL.publishL [] ow [] ((List.append_nil _).symm) hown fun G2 hG2 hs => ?_ | refine EV.publishL [] ow [] ((List.append_nil _).symm) hown fun G2 hG2 hs => ?_)
  try refine RUN ?_
  exact ⟨vs, hvs.mono hG2, hs⟩
def gapsN (key : Int → Rat) (m : List Int) : Nat → List Rat
 | 0 => []
 | j + 1 => gapsN key m j ++ if key (m.getD j 0) < key (m.getD (j + 1) 0) then [midC key m j] else []
theorem gapsN_len (key : Int → Rat) (m : List Int) : ∀ j, (gapsN key m j).length ≤ j
 | 0 => Nat.le_refl _
 | j + 1 => by
  have := gapsN_len key m j
  unfold gapsN
  rw [List.length_append]
  split
  ·rw [List.length_singleton]; omega
  ·rw [List.length_nil]; omega
theorem ordQ_lt {a b : Rat} : ordR a b < 0 ↔ a < b := by
 unfold ordR
 split
 ·rename_i h; exact ⟨fun _ => h, fun _ => by omega⟩
 ·rename_i h; split
  ·exact ⟨fun k => by omega, fun k => absurd k h⟩
  ·exact ⟨fun k => by omega, fun k => absurd k h⟩
set_option maxHeartbeats 8000000 in
theorem places_pc {H : Hp} {vx vr : Value} {X : List (List Rat)} {rs : List Int} {col : Int} (hX : QLL H vx X) (hr : IL H vr rs) (hn : rs.length ≤ 20) (hb : ∀ x, x ∈ X → ∀ q, q ∈ x → ht q ≤ 100) :
  PC prog 26 #[vx, vr, .int .i64 col] H fun r H' => ∃ m, SortC X col (exL rs X.length) m ∧ QL H' r (gapsN (colK X col) m (m.length - 1)) := by
 have hel := exL_len rs X.length
 have heb := exL_mem (rs := rs) (n := X.length)
 have hex := existing_pc hr (by omega) X.length
 generalize exL rs X.length = es at *
 obtain ⟨xa, xc, rfl⟩ := hX.val
 obtain ⟨ra, rc, rfl⟩ := SlC.val hr
 refine BD func26 ntmps26 ?_
 try refine RUN ?_
 refine EVL.call rfl rfl rfl rfl rfl (hex) ?_
 intro r1 G0 he hG0
 obtain ⟨ea, ec, rfl⟩ := SlC.val he
 try refine RUN ?_
 refine EVL.call rfl rfl rfl rfl rfl (sorted_pc (col := col) (hX.mono hG0) he (by omega) heb (fun x hx q hq => sm_of (hb x hx q hq) (by omega))) ?_
 rintro r2 G1 ⟨m, hm, hsc⟩ hG1
 have hmr : ∀ r, r ∈ m → 0 ≤ r ∧ r < (X.length : Int) := by
  rcases hsc with ⟨_, hp, _⟩ | ⟨_, rfl⟩
  ·exact fun r hr => heb r (hp.mem_iff.1 hr)
  ·intro r hr; cases hr
 have hmn : m.length ≤ 20 := by
  rcases hsc with ⟨_, hp, _⟩ | ⟨_, rfl⟩
  ·rw [hp.length_eq]; omega
  ·decide
 have hmh : ∀ r, r ∈ m → hasC X col r = true := by
  rcases hsc with ⟨ha, hp, _⟩ | ⟨_, rfl⟩
  ·exact fun r hr => List.all_eq_true.1 ha r (hp.mem_iff.1 hr)
  ·intro r hr; cases hr
 obtain ⟨ma, mc, rfl⟩ := SlC.val hm
 have hX2 := hX.mono (hG0.trans hG1)
 generalize hkey : colK X col = key at *
 try refine RUN ?_
 refine EV.loopK (ι := Nat × Value × Ows) [0, 2, 7] [] (fun q => [(8, .v q.2.1), (9, .v (.int .i64 ((q.1 + 1 : Nat) : Int)))]) (fun _ => []) (fun q => q.2.2) (fun q _ => q.1 ≤ m.length - 1 ∧ OwnL 45 5 q.2.1 (gapsN key m q.1).length ((gapsN key m q.1).flatMap fun q => vlist (fracV q)) q.2.2) (fun q => m.length - q.1) ((0, .slice none 0 0, [])) rfl rfl ⟨rfl, rfl, trivial⟩ trivial rfl (fun _ => rfl) (⟨Nat.zero_le _, OwnL.nil _ _⟩) ?_
 rintro ⟨j, u, ow⟩ G3 hG3 ⟨hj, hown⟩
 dsimp only at hj hown
 obtain ⟨wa, wc, rfl⟩ := hown.val
 try refine RUN ?_
 refine EV.cond rfl (fun hlt => ?_) (fun hlt => ?_)
 ·simp only [nN] at hlt
  obtain ⟨r1, hr1⟩ : ∃ r, m[j]? = some r := ⟨_, List.getElem?_eq_getElem (by omega)⟩
  obtain ⟨r2, hr2⟩ : ∃ r, m[j + 1]? = some r := ⟨_, List.getElem?_eq_getElem hlt⟩
  have hb1 := hmr r1 (List.mem_of_getElem? hr1)
  have hb2 := hmr r2 (List.mem_of_getElem? hr2)
  obtain ⟨R1, C, x1, q1, rfl, hCC, hx1, hq1⟩ := hasC_at hb1.1 hb1.2 (hmh r1 (List.mem_of_getElem? hr1))
  subst hCC
  obtain ⟨R2, C', x2, q2, rfl, hCC, hx2, hq2⟩ := hasC_at hb2.1 hb2.2 (hmh r2 (List.mem_of_getElem? hr2))
  obtain rfl : C = C' := by omega
  obtain ⟨vs, hvs, hs⟩ := hX2.mono hG3
  obtain ⟨a1, e1, hu1, hQ1⟩ := hvs.at hx1
  obtain ⟨a2, e2, hu2, hQ2⟩ := hvs.at hx2
  have hs1 : SlC G3 (.slice a1 x1.length e1) x1.length 5 (x1.flatMap fun q => vlist (fracV q)) := hQ1
  have hs2 : SlC G3 (.slice a2 x2.length e2) x2.length 5 (x2.flatMap fun q => vlist (fracV q)) := hQ2
  have hm3 := hm.mono hG3
  have hl1 := (List.getElem?_eq_some_iff.1 hq1).1
  have hl2 := (List.getElem?_eq_some_iff.1 hq2).1
  have hXl1 : R1 < X.length := by omega
  have hXl2 : R2 < X.length := by omega
  have hjl : j < m.length := by omega
  have hk1 : key (m.getD j 0) = q1 := by rw [List.getD_eq_getElem?_getD, hr1, ← hkey]; exact colK_at rfl rfl hx1 hq1
  have hk2 : key (m.getD (j + 1) 0) = q2 := by rw [List.getD_eq_getElem?_getD, hr2, ← hkey]; exact colK_at rfl rfl hx2 hq2
  have hqb1 := hb x1 (List.mem_of_getElem? hx1) q1 (List.mem_of_getElem? hq1)
  have hqb2 := hb x2 (List.mem_of_getElem? hx2) q2 (List.mem_of_getElem? hq2)
  have wj : IntKind.i64.wrap (((j + 1 : Nat) : Int) - 1) = (j : Int) := by rw [IntKind.wrap_i64]; omega
  have wn : IntKind.i64.wrap (((j + 1 : Nat) : Int) + 1) = ((j + 1 + 1 : Nat) : Int) := wi_inc (j + 1) (by omega)
  have hcmp := cmp_pv q1 q2 (sm_of hqb1 (by omega)) (sm_of hqb2 (by omega))
  have hmid : midC key m j = (q1 + q2) / 2 := by unfold midC; rw [hk1, hk2]
  have hmv := middle_pv q1 q2 (by omega) (by omega)
  rw [← hmid] at hmv
  have hgl := gapsN_len key m j
  have hgn : gapsN key m (j + 1) = gapsN key m j ++ if q1 < q2 then [midC key m j] else [] := by rw [← hk1, ← hk2]; rfl
  try refine RUN ?_
  apply EV.drawn 24 (by kernel_rfl) (by kernel_rfl); intro xv yw
  (repeat (first | refine' DV ?_ | refine' DA ?_ | refine' DK0 ?_ | refine' DT ?_ | refine' DS ?_))
  refine' DJ.ofVal (ValOk.idx1 tO rfl rfl rfl rfl rfl rfl rfl rfl (hm3) (j) (wj) (hjl) ((by rw [List.getElem?_map, hr1]; rfl))) rfl rfl rfl ?_; rotate_left
  (repeat (first | refine' DV ?_ | refine' DA ?_ | refine' DK0 ?_ | refine' DT ?_ | refine' DS ?_))
  refine' DJ.ofVal (ValOk.idx1 tO rfl rfl rfl rfl rfl rfl rfl rfl (hs) (R1) (rfl) (hXl1) (hu1)) rfl rfl rfl ?_; rotate_left
  (repeat (first | refine' DV ?_ | refine' DA ?_ | refine' DK0 ?_ | refine' DT ?_ | refine' DS ?_))
  refine' DJ.idxM tO rfl rfl rfl rfl rfl rfl rfl rfl rfl (hs1) (C) (rfl) (hl1) (QL.at (H := H) (v := .bool true) hq1) ?_; rotate_left
  (repeat (first | refine' DV ?_ | refine' DA ?_ | refine' DK0 ?_ | refine' DT ?_ | refine' DS ?_))
  refine' DJ.ofVal (ValOk.idx1 tO rfl rfl rfl rfl rfl rfl rfl rfl (hm3) (j + 1) (rfl) (hlt) ((by rw [List.getElem?_map, hr2]; rfl))) rfl rfl rfl ?_; rotate_left
  (repeat (first | refine' DV ?_ | refine' DA ?_ | refine' DK0 ?_ | refine' DT ?_ | refine' DS ?_))
  refine' DJ.ofVal (ValOk.idx1 tO rfl rfl rfl rfl rfl rfl rfl rfl (hs) (R2) (rfl) (hXl2) (hu2)) rfl rfl rfl ?_; rotate_left
  (repeat (first | refine' DV ?_ | refine' DA ?_ | refine' DK0 ?_ | refine' DT ?_ | refine' DS ?_))
  refine' DJ.idxM tO rfl rfl rfl rfl rfl rfl rfl rfl rfl (hs2) (C) (rfl) (hl2) (QL.at (H := H) (v := .bool true) hq2) ?_; rotate_left
  (repeat (first | refine' DV ?_ | refine' DA ?_ | refine' DK0 ?_ | refine' DT ?_ | refine' DS ?_))
  (refine DJ.nil (fun G6 hG6 hF6 => ?_); (case hS => rfl); (case hS2 => rfl))
  repeat (first | refine RUN ?_ | refine CV (hcmp) ?_ | refine CE (hcmp) ?_)
  by_cases h3 : q1 < q2
  ·rw [if_pos h3] at hgn
   rw [decide_eq_true (ordQ_lt.2 h3)]
   repeat (first | refine RUN ?_ | refine CV (hmv) ?_ | refine CE (hmv) ?_)
   refine EVL.app1 tO rfl rfl rfl rfl rfl rfl rfl rfl rfl rfl rfl rfl rfl rfl rfl rfl rfl rfl rfl (fun _ => rfl) (ow) ([]) ((List.append_nil _).symm) (hown) (by omega) fun _ => ?_
   intro v' ow' hown'
   try refine RUN ?_
   refine ⟨(j + 1, v', ow'), ⟨rfl, by rw [wn]; rfl, trivial⟩, (by repeat (first | exact trivial | refine And.intro rfl ?_)), trivial, (by repeat (first | exact trivial | refine And.intro rfl ?_)), List.append_nil _, ⟨by dsimp only; omega, by dsimp only; rw [hgn, List.length_append, List.flatMap_append]; exact hown'⟩, by assumption, by dsimp only; omega⟩
  ·rw [if_neg h3, List.append_nil] at hgn
   rw [decide_eq_false (fun h => h3 (ordQ_lt.1 h))]
   try refine RUN ?_
   refine ⟨(j + 1, _, ow), ⟨rfl, by rw [wn]; rfl, trivial⟩, (by repeat (first | exact trivial | refine And.intro rfl ?_)), trivial, (by repeat (first | exact trivial | refine And.intro rfl ?_)), rfl, ⟨by dsimp only; omega, by dsimp only; rw [hgn]; exact hown⟩, by assumption, by dsimp only; omega⟩
 ·simp only [nN] at hlt
  obtain rfl : j = m.length - 1 := by omega
  (first | refine EVL.publishL [] ow [] ((List.append_nil _).symm) hown fun G4 hG4 hs => ?_ | refine EV.publishL [] ow [] ((List.append_nil _).symm) hown fun G4 hG4 hs => ?_)
  try refine RUN ?_
  exact ⟨m, hsc, hs⟩
end Go.Proofs.YtejljnlfgiifoaaGreatDoor
namespace Go.Proofs.YtejljnlfgiifoaaGreatDoor
open Go.RowKit Go.Shelf
attribute [local go_sem] Oper.semAt_some
def uptoF {α : Type} (f : Nat → α) (k : Nat) : List α := (List.range k).map f
theorem uptoF_succ {α : Type} (f : Nat → α) (k : Nat) : uptoF f (k + 1) = uptoF f k ++ [f k] := by simp [uptoF, List.range_succ]
theorem uptoF_length {α : Type} (f : Nat → α) (k : Nat) : (uptoF f k).length = k := by simp [uptoF]
theorem uptoF_all (zs : List Int) : uptoF (fun j => zs[j]?.getD 0) zs.length = zs := by
 apply List.ext_getElem
 ·simp [uptoF]
 ·intro i h1 h2
  simp [uptoF, h2]
theorem uptoF_take (zs : List Int) {k : Nat} (hk : k ≤ zs.length) : uptoF (fun j => zs[j]?.getD 0) k = zs.take k := by
 apply List.ext_getElem
 ·simp [uptoF, hk]
 ·intro i h1 h2
  have : i < zs.length := by simp [uptoF] at h1; omega
  simp [uptoF, this]
set_option maxRecDepth 100000 in
set_option maxHeartbeats 2000000 in
theorem values1_in (F : Fence) (n : Nat) (h7 : F.fn 113) (hro : F.round = none) (hn : 1 ≤ n) (l Bs n₀ b off len cap : Nat) (zs : List Int) (hreach : len * 8 ≤ 140737488351232) (hb : b < n₀) (J Jx : List Int → World → Prop)
  (hY : ∀ pre x W, J pre W → pre.length < len → YieldAt F (n - 1) Tryz.prog l #[.int .i64 x] W fun e W' =>
   (e = .returned (.bool true) ∧ J (pre ++ [x]) W' ∧ Below n₀ W W') ∨ (e = .returned (.bool false) ∧ Jx (pre ++ [x]) W'))
  (W : World) (hBs : W.cell? ⟨Bs, 0, none⟩ = some (.slice (some ⟨b, off, none⟩) len cap)) (hc : ∀ j, j < len → W.cell? ⟨b, off + j, none⟩ = some (.int .i64 (zs[j]?.getD 0))) (h0 : J [] W) :
  CallsIn F n Tryz.prog 113 #[.func (.yield l) #[] #[], .pointer (some ⟨Bs, 0, none⟩)] W fun e W' => (∃ v, e = .returned v) ∧
   ((∃ ys, ys = uptoF (fun j => zs[j]?.getD 0) len ∧ J ys W') ∨ (∃ pre, (∃ k, k ≤ len ∧ pre = uptoF (fun j => zs[j]?.getD 0) k) ∧ Jx pre W')) := by
 refine callsIn_of_wp Tryz.func113 rfl h7 ?_ hro
 simp only [Tryz.ntmps113, List.size_toArray, List.length_cons, List.length_nil, Nat.reduceAdd, Nat.reduceSub, Array.replicate_succ, Array.replicate_zero, List.push_toArray, List.append_toArray, List.nil_append, List.cons_append]
 gi_wp2
 gi_loopw [7] (fun i wr => ∃ k : Nat, k ≤ len ∧ i = .int .i64 k ∧ J (uptoF (fun j => zs[j]?.getD 0) k) wr ∧ Below n₀ W wr)
  (fun i _ => len - (intOf i).toNat)
 case atStart => exact ⟨0, Nat.zero_le _, rfl, h0, Below.refl _ _⟩
 case round =>
  obtain ⟨k, hk, rfl, hJs, hnx⟩ := hrel
  have hcx : k < len → wr.cell? ⟨b, off + k, none⟩ = some (.int .i64 (zs[k]?.getD 0)) := fun h => (hnx.cell (p := ⟨b, off + k, none⟩) hb).trans (hc k h)
  by_cases hlt : k < len
  ·obtain ⟨fn, tmps, assign, body, hy, hR⟩ := hY _ (zs[k]?.getD 0) wr hJs (by rw [uptoF_length]; exact hlt)
   have hcx' := hcx hlt
   gi_wp2
   refine hR.mono ?_
   rintro e W3 (⟨rfl, hJ3, hk3⟩ | ⟨rfl, hJx3⟩)
   ·gi_wp2
    go_roundw
    case rel => exact ⟨k + 1, by omega, by simp, by rw [uptoF_succ]; exact hJ3, hnx.trans hk3⟩
    case measure => simp [intOf]; omega
   ·gi_wp2
    refine bodyPost_ret (results_none rfl _ _ _) rfl ?_
    exact ⟨⟨_, rfl⟩, .inr ⟨_, ⟨k + 1, by omega, (uptoF_succ _ _).symm⟩, hJx3⟩⟩
  ·obtain rfl : k = len := by omega
   gi_wp2
   go_end0
   exact ⟨⟨_, rfl⟩, .inl ⟨_, rfl, hJs⟩⟩
set_option maxRecDepth 100000 in
set_option maxHeartbeats 1000000 in
theorem values1_nil_in (F : Fence) (n : Nat) (h7 : F.fn 113) (hro : F.round = none) (l Bs : Nat) (a : Option Addr) (cap : Nat) (J : List Int → World → Prop) (W : World) (hBs : W.cell? ⟨Bs, 0, none⟩ = some (.slice a 0 cap)) (h0 : J [] W) :
  CallsIn F n Tryz.prog 113 #[.func (.yield l) #[] #[], .pointer (some ⟨Bs, 0, none⟩)] W fun e W' => (∃ v, e = .returned v) ∧ J [] W' := by
 refine callsIn_of_wp Tryz.func113 rfl h7 ?_ hro
 simp only [Tryz.ntmps113, List.size_toArray, List.length_cons, List.length_nil, Nat.reduceAdd, Nat.reduceSub, Array.replicate_succ, Array.replicate_zero, List.push_toArray, List.append_toArray, List.nil_append, List.cons_append]
 gi_wp2
 gi_loopw [7] (fun i wr => i = .int .i64 0 ∧ J [] wr) (fun _ _ => 0)
 case atStart => exact ⟨rfl, h0⟩
 case round =>
  obtain ⟨rfl, hJs⟩ := hrel
  gi_wp2
  go_end0
  exact ⟨⟨_, rfl⟩, hJs⟩
theorem values_stops (F : Fence) (n : Nat) (h7 : F.fn 113) (hro : F.round = none) (hn : 1 ≤ n) (Bs n₀ : Nat) (sv : Value) (zs : List Int) (hreach : zs.length * 8 ≤ 140737488351232) (w : World) (hBs : Bs < w.heap.size) (hn₀ : n₀ ≤ w.heap.size)
  (hc : w.cell? ⟨Bs, 0, none⟩ = some sv) (hI : Sl i64 w sv zs) (hlow : ∀ b off len cap, sv = .slice (some ⟨b, off, none⟩) len cap → zs ≠ [] → b < n₀) :
  SeqStopsK F n Tryz.prog 113 #[.pointer (some ⟨Bs, 0, none⟩)] (fun x : Int => #[Value.int .i64 x]) (Below n₀) (fun ys => ys = zs) (fun pre => pre <+: zs) zs.length w := fun l J Jx W hW _ _ hY h0 => by
 have hc' := (hW.cell (p := ⟨Bs, 0, none⟩) hBs).trans hc
 rcases hI.below hW with ⟨rfl, a, cap, rfl⟩ | ⟨b, off, cap, rfl, hb, hcs⟩
 ·exact (values1_nil_in F n h7 hro l Bs a cap J W hc' h0).mono fun e W' ⟨he, hj⟩ => ⟨he, .inl ⟨_, rfl, hj⟩⟩
 ·by_cases hz : zs = []
  ·subst hz
   exact (values1_nil_in F n h7 hro l Bs _ cap J W hc' h0).mono fun e W' ⟨he, hj⟩ => ⟨he, .inl ⟨_, rfl, hj⟩⟩
  ·refine (values1_in F n h7 hro hn l Bs n₀ b off zs.length cap zs hreach (hlow _ _ _ _ rfl hz) J Jx hY W hc' (fun j hj => by rw [hcs j hj]; simp [hj]) h0).mono ?_
   rintro e W' ⟨he, ⟨ys, rfl, hj⟩ | ⟨pre, ⟨k, hk, rfl⟩, hj⟩⟩
   ·exact ⟨he, .inl ⟨_, uptoF_all zs, hj⟩⟩
   ·exact ⟨he, .inr ⟨_, by rw [uptoF_take zs hk]; exact List.take_prefix _ _, hj⟩⟩
theorem Tryz.infoInt' : (Tryz.prog.info? 3).map (fun i => (i.zero, i.size, i.bytes)) = some (some (.int .i64 0), 1, 8) := by kernel_rfl
set_option maxRecDepth 100000 in
set_option maxHeartbeats 2000000 in
theorem appendSeq_in (F : Fence) (n : Nat) (h3 : F.fn 156) (h5 : F.fn 113) (hro : F.round = none) (hn : 3 ≤ n) (Bs : Nat) (sv : Value) (xs : List Int) (hbytes : xs.length * 8 ≤ 140737488351232) (w : World)
  (hBs : Bs < w.heap.size) (hc0 : w.cell? ⟨Bs, 0, none⟩ = some sv) (hI : Sl i64 w sv xs) :
  CallsIn F n Tryz.prog 156 #[.slice none 0 0, .func (.func 113) #[] #[.pointer (some ⟨Bs, 0, none⟩)]] w fun e W' => ∃ v, e = .returned v ∧ W'.ownsRow w.heap.size 3 1 v xs.length (xs.map (Value.int .i64)) ∧ (v = .slice none 0 0 ↔ xs = []) ∧ Below w.heap.size w W' := by
 have h1 : 1 ≤ n := by omega
 obtain ⟨i0, hi, hz0, hz1, hz2⟩ := info_parts Tryz.infoInt'
 refine callsIn_of_wp_marks Tryz.func156 rfl h3 ?_ hro
 simp only [Tryz.ntmps156, List.size_toArray, List.length_cons, List.length_nil, Nat.reduceAdd, Nat.reduceSub, Array.replicate_succ, Array.replicate_zero, List.push_toArray, List.append_toArray, List.nil_append, List.cons_append]
 gi_wp2
 have bO := Boxed.new w 22 (.slice none 0 0)
 have hB0 : Below w.heap.size w (w.alloc (.cells #[.slice none 0 0] 22)) := (Below.refl _ w).alloc (Nat.le_refl _) _
 have hmax : xs.length ≤ maxLen := by unfold maxLen; omega
 refine wpIn_rangeFunc_ownG hro h1 (gf := 113) (lb := #[.pointer (some ⟨Bs, 0, none⟩)]) rfl h5 (enters_of Tryz.func113 (by kernel_rfl) rfl)
  (values_stops F (n - 1) h5 hro (by omega) Bs w.heap.size sv xs hbytes _ (by simp; omega) (by simp) ((hB0.cell (p := ⟨Bs, 0, none⟩) hBs).trans hc0) (hI.below hB0) (fun b off len cap e hne => by
   rcases hI with ⟨hx, _⟩ | ⟨b', off', cap', e', hb', _⟩
   ·exact absurd hx hne
   ·rw [e'] at e; cases e; exact hb')) belowK_t (belowK_b (by simp)) (Below.refl _ _) (fun _ => rfl)
  (fun pre W => (∃ v, Boxed W w.heap.size 22 v ∧ W.ownsRow w.heap.size 3 1 v pre.length (pre.map (Value.int .i64)) ∧ (v = .slice none 0 0 ↔ pre = [])) ∧ Below w.heap.size w W)
  (fun _ _ _ => False)
  (OwnFrom.and (Own.from (holdsRow_own w.heap.size w.heap.size 22 3 1 (fun pre => pre.length) (fun pre => pre.map (Value.int .i64)) (fun pre v => v = .slice none 0 0 ↔ pre = [])) _) (ownFrom_below (Nat.le_refl _) (by simp)))
  (fun _ _ _ _ _ hs _ _ => hs)
  ⟨⟨_, bO, World.ownsRow_nil _ _ _ _, by simp⟩, hB0⟩
  (fun x => { tmps := #[.slice none 0 0, .func (.func 113) #[] #[.pointer (some ⟨Bs, 0, none⟩)], .pointer (some ⟨w.heap.size, 0, none⟩), undef, .slice none 0 0, .int .i64 x, .func (.func 113) #[] #[.pointer (some ⟨Bs, 0, none⟩)], .int .i64 x, undef, undef, undef, undef, undef], defers := [] }) ?assign ?body ?done ?stop
 case assign =>
  intro l x W K hK
  gi_wp2
  exact hK
 case body =>
  rintro l pre x W ⟨⟨v, hv, hrow, hnil⟩, hB⟩ hlt
  have hc := hv.cell
  gi_wp2_with (gi_at_builtin; refine wpListIn_append_own _ rfl _ _ 22 rfl w.heap.size 3 i0 (.int .i64 0) 1 8 Tryz.underlying22 hi hz0 hz1 hz2 rfl (by decide) _ _ _ rfl (hrow.alloc _) ⟨W.heap.size, 0, none⟩ 1 1 [.int .i64 x] rfl rfl (cell_one_new _ _ _) (by simp [Value.oneCell']) (by omega) (by omega) (by have := hB.size; simp; omega) ?_; intro v' w1 hown' hgrow _; obtain ⟨g', cap', rfl⟩ := ownsRow_succ hown'; obtain ⟨hv1, hv2, hr2, hk2, hb2⟩ := hv.appended (by decide) hrow hB.size (Nat.le_refl _) hown' hgrow; have hc1 := hv1.cell; have hf1 := hv1.frozen)
  exact ⟨hk2.from _, hb2, ⟨_, hv2, by simpa using hr2, by simp⟩, hB.trans hb2⟩
 case done =>
  rintro D ys W hD rfl ⟨⟨v, hv, hrow, hnil⟩, hB⟩ hK
  have hc := hv.cell
  gi_wp2
  refine ⟨by simp, .inl ⟨_, _, rfl, run_takeDeferred hK, ?_⟩⟩
  exact ⟨_, results_tmp rfl _ _ _, v, rfl, ownsRow_putObj hrow _ hK rfl, hnil, hB.trans (belowK_b (w := w) (Nat.le_refl _) W D _ _ (by simp at hD; omega) hK rfl rfl)⟩
 case stop =>
  rintro D c pre W _ _ h _
  exact h.elim
end Go.Proofs.YtejljnlfgiifoaaGreatDoor
namespace Go.Proofs.YtejljnlfgiifoaaGreatDoor
open Go.RowKit Go.Shelf
attribute [local go_sem] Oper.semAt_some
end Go.Proofs.YtejljnlfgiifoaaGreatDoor
namespace Go.Proofs.YtejljnlfgiifoaaGreatDoor
open Go.RowKit _root_.Go.Proofs.Tryz
def nxt (s : Int) : Int := IntKind.u64.wrap (s + 11400714819323198485)
def mixA (z : Int) : Int := IntKind.u64.wrap (bits .xor .u64 z (z / 1073741824) * 13787848793156543929)
def mixB (z : Int) : Int := IntKind.u64.wrap (bits .xor .u64 z (z / 134217728) * 10723151780598845931)
def mixC (z : Int) : Int := bits .xor .u64 z (z / 2147483648)
def mix (z : Int) : Int := mixC (mixB (mixA z))
def last (n : Int) : Int := 18446744073709551615 - 18446744073709551616 % n
def dist (s : Int) : Int := (-s * 17428512612931826493) % 18446744073709551616
def left (s : Int) : Nat := (dist (nxt s)).toNat
def belowGo (n : Int) : Nat → Int → Int × Int
 | 0, s => (0, s)
 | k + 1, s => if mix (nxt s) ≤ last n then (mix (nxt s) % n, nxt s) else belowGo n k (nxt s)
def below (n s : Int) : Int × Int := belowGo n (left s + 1) s
end Go.Proofs.YtejljnlfgiifoaaGreatDoor
namespace Go.Proofs.YtejljnlfgiifoaaGreatDoor
end Go.Proofs.YtejljnlfgiifoaaGreatDoor
namespace Go.Proofs.YtejljnlfgiifoaaGreatDoor
def sortI (l : List Int) : List Int := l.mergeSort fun x y => decide (x ≤ y)
theorem sortI_length (l : List Int) : (sortI l).length = l.length := by simp [sortI]
theorem sortI_perm (l : List Int) : (sortI l).Perm l := List.mergeSort_perm _ _
theorem sortI_sorted (l : List Int) : (sortI l).Pairwise (· ≤ ·) := by
 have := List.pairwise_mergeSort (le := fun x y : Int => decide (x ≤ y)) (by intro a b c; simp; omega) (by intro a b; simp; omega) l
 unfold sortI
 exact this.imp (by intro a b h; simpa using h)
end Go.Proofs.YtejljnlfgiifoaaGreatDoor
namespace Go.Proofs.YtejljnlfgiifoaaGreatDoor
open Go.RowKit Go.Shelf
set_option maxHeartbeats 400000 in
theorem collect_any (Bs : Nat) (sv : Value) (xs : List Int) (hbytes : xs.length * 8 ≤ 140737488351232) (w : World)
  (hBs : Bs < w.heap.size) (hc0 : w.cell? ⟨Bs, 0, none⟩ = some sv) (hI : Sl i64 w sv xs) :
  Calls Tryz.prog 111 #[.func (.func 113) #[] #[.pointer (some ⟨Bs, 0, none⟩)]] w fun e W' => ∃ v, e = .returned v ∧ W'.ownsRow w.heap.size 3 1 v xs.length (xs.map (Value.int .i64)) ∧ (v = .slice none 0 0 ↔ xs = []) ∧ Below w.heap.size w W' := by
 go_enter Tryz.func111, Tryz.ntmps111
 go_wp2_with fail
 refine ((callsIn_wide (n := 3)).1 (appendSeq_in Fence.wide 3 trivial trivial rfl (by omega) Bs sv xs hbytes w hBs hc0 hI)).mono ?_
 rintro e w1 ⟨v, rfl, hown, hnil, hb⟩
 go_wp2
 go_ret
 exact ⟨v, rfl, hown, hnil, hb⟩
set_option maxHeartbeats 400000 in
theorem sorted_any (Bs : Nat) (sv : Value) (xs : List Int) (hbytes : xs.length * 8 ≤ 140737488351232) (w : World)
  (hBs : Bs < w.heap.size) (hc0 : w.cell? ⟨Bs, 0, none⟩ = some sv) (hI : Sl i64 w sv xs) :
  Calls Tryz.prog 64 #[.func (.func 113) #[] #[.pointer (some ⟨Bs, 0, none⟩)]] w fun e W' => ∃ v, e = .returned v ∧ W'.ownsRow w.heap.size 3 1 v xs.length ((sortI xs).map (Value.int .i64)) ∧ Below w.heap.size w W' := by
 go_enter Tryz.func64, Tryz.ntmps64
 go_wp2_with fail
 refine (collect_any Bs sv xs hbytes w hBs hc0 hI).mono ?_
 rintro e w1 ⟨v, rfl, hown, hnil, hb⟩
 have HN := hid hnil
 clear hnil
 rcases hown.2 with ⟨rfl, h0⟩ | ⟨g, cap, cur, rfl, hbase, hh, h1, h2, h3, h4⟩
 ·have hx : xs = [] := HN.out.1 rfl
  subst hx
  go_wp2_with fail
  refine (Tryz.slices_Sort_int_none _ _ _).mono ?_
  rintro e w2 ⟨rfl, rfl⟩
  go_wp2
  go_ret
  exact ⟨.slice none 0 0, rfl, by simpa [sortI] using hown, hb⟩
 ·have hH := hid (holds_of_blockI hh (by simpa using h4))
  have H3 := hid h3
  have H4 := hid h4
  have HH := hid hh
  clear h3 h4 hh
  go_wp2_with fail
  refine (Tryz.slices_Sort_int g 0 cap xs w1 hH.out (lt_of_block HH.out) (by omega)).mono ?_
  rintro e w2 ⟨rfl, nn, os, rfl⟩
  have ho := ownsRow_sortedI (n := nn) (os := os) (ss := xs) (ts := sortI xs) (sortI_length xs) hbase HH.out h1 h2 H3.out
  have hg := grownBy_sortedI (w := w1) (g := g) (n := nn) (os := os) (sortI xs).toArray
  have hbb := hb.grown hg hb.size (fun k e => by cases e; exact hbase)
  have HO := hid ho
  clear ho
  go_wp2
  go_ret
  exact ⟨_, rfl, HO.out, hbb⟩
end Go.Proofs.YtejljnlfgiifoaaGreatDoor
namespace Go.Proofs.YtejljnlfgiifoaaGreatDoor
def Cols (cols cs : List Int) : Prop := cs.Pairwise (· < ·) ∧ ∀ c, c ∈ cs ↔ c ∈ cols
theorem compact_asc (zs : List Int) (h : zs.Pairwise (· ≤ ·)) : ∀ m, m ≤ zs.length → (Lib.compactUpTo zs.toArray m).Pairwise (· < ·) ∧ ∀ c, c ∈ Lib.compactUpTo zs.toArray m ↔ c ∈ zs.take m
 | 0, _ => ⟨List.Pairwise.nil, fun c => by simp [Lib.compactUpTo]⟩
 | m + 1, hm => by
  obtain ⟨h1, h2⟩ := compact_asc zs h m (by omega)
  have hlt : m < zs.length := by omega
  have hg : zs.toArray[m]! = zs[m] := by simp [hlt]
  have ht : zs.take (m + 1) = zs.take m ++ [zs[m]] := List.take_succ_eq_append_getElem hlt
  have hpw := h
  rw [← List.take_append_drop (m + 1) zs, ht] at hpw
  have hle : ∀ x, x ∈ zs.take m → x ≤ zs[m] := fun x hx => (List.pairwise_append.1 (List.pairwise_append.1 hpw).1).2.2 x hx _ (List.mem_singleton.2 rfl)
  rw [Lib.compactUpTo_succ]
  by_cases hk : Lib.keeps zs.toArray m = true
  ·rw [if_pos hk, hg, ht]
   refine ⟨List.pairwise_append.2 ⟨h1, List.pairwise_singleton _ _, fun x hx y hy => ?_⟩, fun c => ?_⟩
   ·rw [List.mem_singleton.1 hy]
    have hx' := (h2 x).1 hx
    have hle' := hle x hx'
    unfold Lib.keeps at hk
    rw [decide_eq_true_eq] at hk
    rcases hk with rfl | hne
    ·rw [List.take_zero] at hx'; cases hx'
    ·have hm0 : 0 < m := by
      rcases Nat.eq_zero_or_pos m with rfl | h0
      ·rw [List.take_zero] at hx'; cases hx'
      ·exact h0
     have hp : zs.toArray[m - 1]! = zs[m - 1] := by simp [show m - 1 < zs.length by omega]
     rw [hg, hp] at hne
     have htm : zs.take m = zs.take (m - 1) ++ [zs[m - 1]] := by
      have := List.take_succ_eq_append_getElem (show m - 1 < zs.length by omega)
      rwa [Nat.sub_add_cancel hm0] at this
     have hpw2 := (List.pairwise_append.1 (List.pairwise_append.1 hpw).1).1
     rw [htm] at hpw2 hx'
     have hxp : x ≤ zs[m - 1] := by
      rcases List.mem_append.1 hx' with hx' | hx'
      ·exact (List.pairwise_append.1 hpw2).2.2 x hx' _ (List.mem_singleton.2 rfl)
      ·rw [List.mem_singleton.1 hx']; exact Int.le_refl _
     have hpm : zs[m - 1] ≤ zs[m] := hle _ (by rw [htm]; exact List.mem_append_right _ (List.mem_singleton.2 rfl))
     omega
   ·rw [List.mem_append, List.mem_append, h2 c]
  ·rw [if_neg hk, List.append_nil, ht]
   refine ⟨h1, fun c => ?_⟩
   unfold Lib.keeps at hk
   rw [decide_eq_true_eq, not_or] at hk
   have hm0 : 0 < m := by omega
   have hp : zs.toArray[m - 1]! = zs[m - 1] := by simp [show m - 1 < zs.length by omega]
   rw [hg, hp] at hk
   have he : zs[m] = zs[m - 1] := by have := hk.2; omega
   have htm : zs.take m = zs.take (m - 1) ++ [zs[m - 1]] := by
    have := List.take_succ_eq_append_getElem (show m - 1 < zs.length by omega)
    rwa [Nat.sub_add_cancel hm0] at this
   rw [h2 c, List.mem_append, List.mem_singleton, he]
   constructor
   ·exact .inl
   ·rintro (h | rfl)
    ·exact h
    ·rw [htm]; exact List.mem_append_right _ (List.mem_singleton.2 rfl)
theorem cols_of (cols : List Int) : Cols cols (Lib.compact (sortI cols)) := by
 have h := compact_asc (sortI cols) (sortI_sorted cols) (sortI cols).length (Nat.le_refl _)
 refine ⟨h.1, fun c => ?_⟩
 have := h.2 c
 rw [List.take_length] at this
 exact this.trans (sortI_perm cols).mem_iff
end Go.Proofs.YtejljnlfgiifoaaGreatDoor
namespace Go.Proofs.YtejljnlfgiifoaaGreatDoor
open Go.RowKit _root_.Go.Proofs.Tryz
theorem seqValues_pc {H : Hp} (a : Option Addr) (len cap : Nat) : PC prog 65 #[.slice a len cap] H fun r H' => ∃ b, r = .func (.func 113) #[] #[.pointer (some ⟨b, 0, none⟩)] ∧ H' b = some [Value.slice a len cap].toArray := by
 refine BD func65 ntmps65 ?_
 try refine RUN ?_
 (first | refine EVL.unbox (1) rfl fun b => ?_ | refine EV.unbox (1) rfl fun b => ?_)
 (first | refine EVL.publish [] [] rfl fun G1 hG1 hb => ?_ | refine EV.publish [] [] rfl fun G1 hG1 hb => ?_)
 refine EVL.fn1 rfl rfl rfl rfl rfl ?_
 try refine RUN ?_
 exact ⟨b, rfl, hb⟩
theorem ownL_of_row {W : World} {base : Nat} {e : TypeId} {size : Nat} {v : Value} {n : Nat} {xs : List Value} (h : W.ownsRow base e size v n xs) : ∃ ow, OwnL e size v n xs ow ∧ OwNew base W ow := by
 obtain ⟨h1, ⟨rfl, rfl⟩ | ⟨g, cap, cur, rfl, hb, hh, hc, hm, hs, ht⟩⟩ := h
 ·exact ⟨[], ⟨h1, .inl ⟨rfl, rfl, rfl⟩⟩, by simp, fun b T cs h => by cases h⟩
 ·have hcur : cur.toList = xs ++ cur.toList.drop (n * size) := by rw [← ht, List.take_append_drop]
  refine ⟨[(g, e, xs ++ cur.toList.drop (n * size))], ⟨h1, .inr ⟨g, cap, _, rfl, rfl, by rw [← hcur]; simpa using hs, hc, hm⟩⟩, by simp, fun b T cs h => ?_⟩
  rw [List.mem_singleton] at h
  cases h
  refine ⟨hb, ?_⟩
  rw [← hcur]
  exact hh
theorem sorted_po {H : Hp} {b : Nat} {sv : Value} {xs : List Int} (hB : H b = some [sv].toArray) (hs : IL H sv xs) (hl : xs.length ≤ 1000000) :
  PO prog 64 #[.func (.func 113) #[] #[.pointer (some ⟨b, 0, none⟩)]] H fun v ow => OwnL 3 1 v xs.length ((sortI xs).map iv) ow := by
 refine ⟨(cO func64), fun W hf hg => ?_⟩
 obtain ⟨T, fz, hW⟩ := hf b _ hB
 obtain ⟨a, cap, rfl, hsl, _⟩ := hs.sl hf
 have hlt : b < W.heap.size := (Array.getElem?_eq_some_iff.1 hW).1
 refine (sorted_any b _ xs (by omega) W hlt (by rw [cell_of_row W b 0 _ T fz hW]; rfl) hsl).mono ?_
 rintro e W' ⟨v, rfl, hown, hb⟩
 obtain ⟨ow, h1, h2⟩ := ownL_of_row hown
 exact ⟨v, ow, rfl, h1, h2, hb⟩
theorem compact_len (zs : List Int) : (Lib.compact zs).length ≤ zs.length := by
 unfold Lib.compact Lib.compactUpTo
 rw [List.length_map]
 exact Nat.le_trans (List.length_filter_le _ _) (by simp)
theorem compact_pw {H : Hp} {v : Value} {zs : List Int} {ow : Ows} (h : OwnL 3 1 v zs.length (zs.map iv) ow) (hl : zs.length ≤ 1000000) :
  PW prog 63 #[v] H ow fun r ow' _ => OwnL 3 1 r (Lib.compact zs).length ((Lib.compact zs).map iv) ow' := by
 refine ⟨(cO func63), fun W hf hg hL hd => ?_⟩
 by_cases h0 : zs.length = 0
 ·obtain rfl := List.length_eq_zero_iff.1 h0
  obtain ⟨a, cap, rfl⟩ := h.val
  refine (Tryz.slices_Compact_int_empty a cap W).mono ?_
  rintro e W' ⟨rfl, rfl⟩
  exact ⟨_, ow, H, rfl, h, Hp.Le.refl _, hf, Nw.refl _ _ _, Kept.refl _ _, fun j b T cs hj => ⟨(hL j b T cs hj).1, .inr (Ows.bs_mem hj), (hL j b T cs hj).2.1⟩, hd⟩
 ·obtain ⟨g, cap, sp, rfl, rfl, hlen, hle, hmax⟩ := h.block (by omega)
  obtain ⟨hB, hHg, hgg⟩ := hL 0 g _ _ rfl
  refine (Tryz.slices_Compact_int_cells g 0 zs.length cap zs W (Nat.le_refl _) (by omega) hle (fun j hj => ?_) (fun j hj => hB.free _)).mono ?_
  ·rw [hB.at (0 + j)]
   rw [Nat.zero_add]
   simp [hj, List.getElem?_append]
  rintro e W' ⟨rfl, q, rfl⟩
  rw [List.take_length]
  have hcl := compact_len zs
  generalize Lib.compact zs = cs at *
  have hB2 : Box (W.drewN q) g (zs.map iv ++ sp).toArray 3 := hB
  have hvl : ((cs ++ List.replicate (zs.length - cs.length) 0).map (Value.int .i64)).length = zs.length := by simp; omega
  have hB3 := Box.setCells ((cs ++ List.replicate (zs.length - cs.length) 0).map (Value.int .i64)) 0 (W.drewN q) _ hB2 (by rw [hvl]; simp)
  have hk := kept_setCells g ((cs ++ List.replicate (zs.length - cs.length) 0).map (Value.int .i64)) 0 (W.drewN q)
  have hk2 : Kept (fun k => k = g) W ((W.drewN q).setCells g 0 ((cs ++ List.replicate (zs.length - cs.length) 0).map (Value.int .i64))) := ⟨hk.os, hk.tape, hk.output, hk.size, hk.block⟩
  have hcells : (zs.map iv ++ sp).take 0 ++ (cs ++ List.replicate (zs.length - cs.length) 0).map (Value.int .i64) ++ (zs.map iv ++ sp).drop (0 + ((cs ++ List.replicate (zs.length - cs.length) 0).map (Value.int .i64)).length) = cs.map iv ++ ((List.replicate (zs.length - cs.length) 0).map iv ++ sp) := by
   rw [hvl, List.take_zero, List.nil_append, Nat.zero_add, List.drop_left' (by simp), List.map_append]
   simp
  rw [hcells] at hB3
  refine ⟨_, [(g, 3, cs.map iv ++ ((List.replicate (zs.length - cs.length) 0).map iv ++ sp))], H, rfl, ⟨by simp, .inr ⟨g, cap, _, rfl, rfl, ?_, by omega, hmax⟩⟩, Hp.Le.refl _, fun b c hb => ?_, Nw.refl _ _ _, hk2.mono (fun k _ e => by subst e; exact Ows.bs_mem (j := 0) rfl), fun j b T cs' hj => ?_, ?_⟩
  ·rw [← hlen]; simp; omega
  ·obtain ⟨T, fz, hW⟩ := hf b c hb
   refine ⟨T, fz, ?_⟩
   rw [hk2.block b (hf.lt (by rw [hb]; simp)) (fun e => by subst e; rw [hHg] at hb; cases hb)]; exact hW
  ·cases j with
   | zero => cases (show some (g, 3, cs.map iv ++ ((List.replicate (zs.length - cs.length) 0).map iv ++ sp)) = some (b, T, cs') from hj); exact ⟨hB3, .inr (Ows.bs_mem (j := 0) rfl), hHg⟩
   | succ j => simp at hj
  ·intro j j' b' T1 T2 c1 c2 h1 h2
   cases j with
   | zero => cases j' with
    | zero => rfl
    | succ j' => simp at h2
   | succ j => simp at h1
def bestS (st : Option (Int × Rat × Rat)) (p : Int × Option (Rat × Rat)) : Option (Int × Rat × Rat) := match p.2 with
 | none => st
 | some (a, w) => match st with
  | none => some (p.1, a, w)
  | some (c0, a0, w0) => if w0 < w then some (p.1, a, w) else some (c0, a0, w0)
def bestF (ps : List (Int × Option (Rat × Rat))) : Option (Int × Rat × Rat) := ps.foldl bestS none
theorem bestF_snoc (ps : List (Int × Option (Rat × Rat))) (p : Int × Option (Rat × Rat)) : bestF (ps ++ [p]) = bestS (bestF ps) p := by unfold bestF; rw [List.foldl_append]; rfl
theorem bestF_ht {ps : List (Int × Option (Rat × Rat))} {B : Nat} (h : ∀ p, p ∈ ps → ht (stW p.2) ≤ B) : ∀ c a w, bestF ps = some (c, a, w) → ht w ≤ B := by
 have key : ∀ (qs : List (Int × Option (Rat × Rat))) (st : Option (Int × Rat × Rat)), (∀ p, p ∈ qs → ht (stW p.2) ≤ B) → (∀ c a w, st = some (c, a, w) → ht w ≤ B) → ∀ c a w, qs.foldl bestS st = some (c, a, w) → ht w ≤ B := by
  intro qs
  induction qs with
  | nil => intro st _ h2 c a w h3; exact h2 c a w h3
  | cons p qs ih =>
   intro st h1 h2 c a w h3
   refine ih (bestS st p) (fun q hq => h1 q (List.mem_cons_of_mem _ hq)) ?_ c a w h3
   intro c a w h4
   have hp := h1 p (List.mem_cons_self ..)
   unfold bestS at h4
   cases ho : p.2 with
   | none => rw [ho] at h4; exact h2 c a w h4
   | some q =>
    obtain ⟨a1, w1⟩ := q
    rw [ho] at h4 hp
    cases st with
    | none => cases h4; exact hp
    | some t =>
     obtain ⟨c0, a0, w0⟩ := t
     dsimp only at h4
     split at h4
     ·cases h4; exact hp
     ·cases h4; exact h2 _ _ _ rfl
 exact key ps none h (fun c a w h => by cases h)
def cutC : Option (Int × Rat × Rat) → List Value
 | none => .int .i64 0 :: (vlist (fracV 0) ++ vlist (fracV 0))
 | some (c, a, w) => .int .i64 c :: (vlist (fracV a) ++ vlist (fracV w))
theorem cut_zero : Tryz.te51.zero = cutC none := by
 unfold cutC; rw [frac_zero_cells]; rfl
abbrev cutV (c : Int) (a w : Rat) : Value := .agg (cutC (some (c, a, w))).toArray
def BestR (X : List (List Rat)) (wo : List Int → Rat) (rs cols : List Int) (least : Int) (r : Value) : Prop :=
 ∃ ps : List (Int × Option (Rat × Rat)), Cols cols (ps.map (·.1)) ∧ (∀ p, p ∈ ps → ColR X wo rs (max least 1) p.1 p.2) ∧
  ((bestF ps = none ∧ r = .tuple #[.agg (cutC none).toArray, .bool false]) ∨ ∃ c a w, bestF ps = some (c, a, w) ∧ r = .tuple #[cutV c a (w - wo rs), .bool true])
set_option maxHeartbeats 16000000 in
theorem best_pc {H : Hp} {kd cl : Int} {sl sv vx vr vc : Value} {X : List (List Rat)} {S : List Int → List Value} {wo : List Int → Rat} {rs cols : List Int} {least : Int} (hg : GOk H kd cl sl sv X.length S wo) (hX : QLL H vx X) (hr : IL H vr rs) (hn : rs.length ≤ 20) (hc : IL H vc cols) (hcn : cols.length ≤ 1000000) (hb : ∀ x, x ∈ X → ∀ q, q ∈ x → ht q ≤ 100) :
  PC prog 19 #[goalV kd cl sl sv, vx, vr, vc, .int .i64 least] H fun r _ => BestR X wo (exL rs X.length) cols least r := by
 have hlen := hg.leng
 have hex := fun (G : Hp) (hG : H.Le G) => existing_pc (hr.mono hG) (by omega) X.length
 have hel := exL_len rs X.length
 have heb := exL_mem (rs := rs) (n := X.length)
 generalize exL rs X.length = es at *
 obtain ⟨xa, xc, rfl⟩ := hX.val
 obtain ⟨ra, rc, rfl⟩ := SlC.val hr
 obtain ⟨ca, cc, rfl⟩ := SlC.val hc
 refine BD func19 ntmps19 ?_
 try refine RUN ?_
 refine EVL.call rfl rfl rfl rfl rfl (hg.check _ (Hp.Le.refl _)) ?_
 rintro r0 G1 rfl hG1
 repeat (first | refine RUN ?_ | refine CV (hlen) ?_ | refine CE (hlen) ?_)
 rw [show ((X.length : Int) != (X.length : Int)) = false from bne_self_eq_false _]
 try refine RUN ?_
 refine EVL.call rfl rfl rfl rfl rfl (hex _ hG1) ?_
 intro r1 G2 he hG2
 obtain ⟨ea, ec, rfl⟩ := SlC.val he
 try refine RUN ?_
 refine EVL.call rfl rfl rfl rfl rfl (seqValues_pc ca cols.length cc) ?_
 rintro r2 G3 ⟨b, rfl, hb3⟩ hG3
 have hc3 := hc.mono (hG1.trans (hG2.trans hG3))
 refine EVL.callO rfl rfl rfl rfl rfl (sorted_po hb3 hc3 hcn) ?_
 rintro r4 ow4 how4
 have hcl := sortI_length cols
 rw [← hcl] at how4
 refine EVL.callW rfl rfl rfl rfl rfl (ow4) ([]) rfl (compact_pw how4 (by omega)) ?_
 rintro r5 ow5 G5 how5 hG5
 have hcols := cols_of cols
 have hcl2 := compact_len (sortI cols)
 generalize Lib.compact (sortI cols) = cs at *
 obtain ⟨ka, kc, rfl⟩ := how5.val
 (first | refine EVL.publishL [] ow5 [] (rfl) how5 fun G6 hG6 hk6 => ?_ | refine EV.publishL [] ow5 [] (rfl) how5 fun G6 hG6 hk6 => ?_)
 have hk6' : IL G6 (.slice ka cs.length kc) cs := hk6
 clear hb3 hc3 how4 how5 hk6
 have hall := hG1.trans (hG2.trans (hG3.trans (hG5.trans hG6)))
 have hg6 := hg.mono hall
 have hX6 := hX.mono hall
 have he6 := he.mono (hG3.trans (hG5.trans hG6))
 try refine RUN ?_
 refine EV.loopK (ι := List (Int × Option (Rat × Rat))) [1, 2, 4, 5, 10, 12, 38, 39] [5, 10] (fun ps => [(13, .v (.bool (bestF ps).isSome)), (40, .v (.int .i64 (ps.length : Int)))]) (fun ps => [(12, 51, cutC (bestF ps))]) (fun _ => []) (fun ps _ => ps.map (·.1) = cs.take ps.length ∧ ps.length ≤ cs.length ∧ ∀ p, p ∈ ps → ColR X wo es (max least 1) p.1 p.2) (fun ps => cs.length - ps.length) ([]) rfl rfl ⟨rfl, rfl, trivial⟩ ⟨by rw [show bestF [] = none from rfl, ← cut_zero]; rfl, trivial⟩ rfl (fun _ => rfl) (⟨rfl, Nat.zero_le _, by simp⟩) ?_
 rintro ps G7 hG7 ⟨hps, hpl, hpr⟩
 try refine RUN ?_
 refine EV.cond rfl (fun hlt => ?_) (fun hlt => ?_)
 ·simp only [nN] at hlt
  obtain ⟨c, hci⟩ : ∃ c, cs[ps.length]? = some c := ⟨_, List.getElem?_eq_getElem hlt⟩
  have hcol := column_pc (col := c) (least := max least 1) (hg6.mono hG7) (hX6.mono hG7) (he6.mono hG7) (by omega) heb hb
  try refine RUN ?_
  refine EVL.idxR tO rfl rfl rfl rfl rfl rfl rfl rfl rfl rfl ((hk6'.mono hG7)) (ps.length) (rfl) (hlt) ((by rw [List.getElem?_map, hci]; rfl)) ?_
  try refine RUN ?_
  refine EVL.asI (max least 1) ((by split <;> omega)) ?_
  refine EVL.call rfl rfl rfl rfl rfl (hcol) ?_
  rintro r6 G8 ⟨o, hR, rfl⟩ hG8
  have hln : ∀ o, (ps ++ [(c, o)]).length = ps.length + 1 := fun o => by simp
  have wn : IntKind.i64.wrap ((ps.length : Int) + 1) = ((ps.length + 1 : Nat) : Int) := wi_inc _ (by omega)
  have hmap : ∀ o, (ps ++ [(c, o)]).map (·.1) = cs.take (ps ++ [(c, o)]).length := fun o => by
   rw [hln, take_snoc hci, ← hps, List.map_append]; rfl
  have hmem : ∀ o, ColR X wo es (max least 1) c o → ∀ p, p ∈ ps ++ [(c, o)] → ColR X wo es (max least 1) p.1 p.2 := fun o h p hp => by
   rcases List.mem_append.1 hp with hp | hp
   ·exact hpr p hp
   ·rw [List.mem_singleton.1 hp]; exact h
  have hsn := bestF_snoc ps (c, o)
  have hwb : ht (stW o) ≤ 200001 := by obtain ⟨_, _, _, h⟩ := hR; exact h
  have hwo : ∀ c a w, bestF ps = some (c, a, w) → ht w ≤ 200001 := bestF_ht fun p hp => by obtain ⟨_, _, _, h⟩ := hpr p hp; exact h
  cases o with
  | none =>
   have hsame : bestF (ps ++ [(c, none)]) = bestF ps := hsn
   try refine RUN ?_
   refine ⟨ps ++ [(c, none)], ⟨by rw [hsame]; rfl, by rw [hln, wn]; rfl, trivial⟩, (by repeat (first | exact trivial | refine And.intro rfl ?_)), ⟨by rw [hsame]; rfl, trivial⟩, (by repeat (first | exact trivial | refine And.intro rfl ?_)), rfl, ⟨hmap _, by rw [hln]; omega, hmem _ hR⟩, by assumption, by rw [hln]; omega⟩
  | some q =>
   obtain ⟨a, w⟩ := q
   cases hst : bestF ps with
   | none =>
    have hnew : bestF (ps ++ [(c, some (a, w))]) = some (c, a, w) := by rw [hsn, hst]; rfl
    try refine RUN ?_
    refine ⟨ps ++ [(c, some (a, w))], ⟨by rw [hnew]; rfl, by rw [hln, wn]; rfl, trivial⟩, (by repeat (first | exact trivial | refine And.intro rfl ?_)), ⟨by rw [hnew]; rfl, trivial⟩, (by repeat (first | exact trivial | refine And.intro rfl ?_)), rfl, ⟨hmap _, by rw [hln]; omega, hmem _ hR⟩, by assumption, by rw [hln]; omega⟩
   | some t =>
    obtain ⟨c0, a0, w0⟩ := t
    have hcmp := cmp_pv w w0 (sm_of (show ht w ≤ 200001 from hwb) (by omega)) (sm_of (hwo _ _ _ hst) (by omega))
    repeat (first | refine RUN ?_ | refine CV (hcmp) ?_ | refine CE (hcmp) ?_)
    by_cases hlt2 : w0 < w
    ·have hnew : bestF (ps ++ [(c, some (a, w))]) = some (c, a, w) := by rw [hsn, hst]; exact if_pos hlt2
     rw [decide_eq_true (ordQ_pos.2 hlt2)]
     try refine RUN ?_
     refine ⟨ps ++ [(c, some (a, w))], ⟨by rw [hnew]; rfl, by rw [hln, wn]; rfl, trivial⟩, (by repeat (first | exact trivial | refine And.intro rfl ?_)), ⟨by rw [hnew]; rfl, trivial⟩, (by repeat (first | exact trivial | refine And.intro rfl ?_)), rfl, ⟨hmap _, by rw [hln]; omega, hmem _ hR⟩, by assumption, by rw [hln]; omega⟩
    ·have hnew : bestF (ps ++ [(c, some (a, w))]) = some (c0, a0, w0) := by rw [hsn, hst]; exact if_neg hlt2
     rw [decide_eq_false (fun h => hlt2 (ordQ_pos.1 h))]
     try refine RUN ?_
     refine ⟨ps ++ [(c, some (a, w))], ⟨by rw [hnew]; rfl, by rw [hln, wn]; rfl, trivial⟩, (by repeat (first | exact trivial | refine And.intro rfl ?_)), ⟨by rw [hnew]; rfl, trivial⟩, (by repeat (first | exact trivial | refine And.intro rfl ?_)), rfl, ⟨hmap _, by rw [hln]; omega, hmem _ hR⟩, by assumption, by rw [hln]; omega⟩
 ·simp only [nN] at hlt
  have hpe : ps.length = cs.length := by omega
  have hcs : ps.map (·.1) = cs := by rw [hps, hpe, List.take_length]
  rw [← hcs] at hcols
  have hwo : ∀ c a w, bestF ps = some (c, a, w) → ht w ≤ 200001 := bestF_ht fun p hp => by obtain ⟨_, _, _, h⟩ := hpr p hp; exact h
  cases hst : bestF ps with
  | none =>
   try refine RUN ?_
   exact ⟨ps, hcols, hpr, .inl ⟨hst, by rw [← cut_zero]; rfl⟩⟩
  | some t =>
   obtain ⟨c, a, w⟩ := t
   have hsub := sub_pv w (wo es) (sm_of (hwo _ _ _ hst) (by omega)) (sm_of (hg.small es (by omega) heb) (by omega))
   have hlS := hg.len es
   try refine RUN ?_
   refine EVL.call rfl rfl rfl rfl rfl (hg6.whole _ hG7 _ es (he6.mono hG7) (by omega) heb) ?_
   rintro r6 G8 rfl hG8
   obtain ⟨sn, scs, ssq, sq, hs12, hS⟩ := hg.form es
   obtain ⟨c0, c1, c2, c3, c4, c5, c6, c7, c8, c9, c10, c11, rfl⟩ := len12 hs12
   rw [hS]
   try refine RUN ?_
   (first | refine EVL.unbox (19) rfl fun b => ?_ | refine EV.unbox (19) rfl fun b => ?_)
   (first | refine EVL.swapOw ([(b, 116, S es)]) ([]) ((by rw [hS]; rfl)) ?_ | refine EV.swapOw ([(b, 116, S es)]) ([]) ((by rw [hS]; rfl)) ?_)
   have hw1 := fun G' : Hp => hg.worth G' b 0 116 [] [] es rfl (by omega) heb
   simp only [List.append_nil] at hw1
   clear hS
   try refine RUN ?_
   apply EV.drawn 7 (by kernel_rfl) (by kernel_rfl); intro xv yw
   (repeat (first | refine' DV ?_ | refine' DA ?_ | refine' DK0 ?_ | refine' DT ?_ | refine' DS ?_ | (refine' DJ.nilB rfl rfl rfl rfl rfl ?_; rotate_left) | (refine' DJ.fldB tO rfl rfl rfl rfl rfl rfl rfl ?_; rotate_left)))
   (refine' DJ.callR rfl rfl rfl rfl rfl 0 rfl (by simp [hlS]) (cO func68) (fun G' => hw1 G') ?_; rotate_left)
   (repeat (first | refine' DV ?_ | refine' DA ?_ | refine' DK0 ?_ | refine' DT ?_ | (refine' DC (hsub) (h := ?_); rotate_left) | refine' DS ?_))
   (refine DJ.nil (fun G9 hG9 hF9 => ?_); (case hS => rfl); (case hS2 => rfl))
   try refine RUN ?_
   exact ⟨ps, hcols, hpr, .inr ⟨c, a, w, hst, rfl⟩⟩
end Go.Proofs.YtejljnlfgiifoaaGreatDoor
namespace Go.Proofs.YtejljnlfgiifoaaGreatDoor
theorem dev_shift (m o : Rat) : ∀ l : List Rat, sumQ (devL o l.reverse) = sumQ (devL m l.reverse) + 2 * (m - o) * (sumQ l.reverse - ((l.length : Int) : Rat) * m) + ((l.length : Int) : Rat) * ((m - o) * (m - o))
 | [] => by
  rw [show sumQ (devL o ([] : List Rat).reverse) = 0 from rfl, show sumQ (devL m ([] : List Rat).reverse) = 0 from rfl, show sumQ ([] : List Rat).reverse = 0 from rfl, show (((([] : List Rat).length : Int)) : Rat) = 0 from rfl]
  grind
 | x :: l => by
  have ih := dev_shift m o l
  have e : (((x :: l).length : Int) : Rat) = ((l.length : Int) : Rat) + 1 := by
   rw [List.length_cons, Int.natCast_add, Rat.intCast_add]; rfl
  rw [List.reverse_cons, devL_snoc, devL_snoc, sumQ_snoc, ih, e]
  generalize sumQ (devL m l.reverse) = A
  generalize sumQ l.reverse = B
  generalize ((l.length : Int) : Rat) = N
  grind
theorem sq_nonneg (a : Rat) : 0 ≤ a * a := by
 rcases (Rat.le_total : 0 ≤ a ∨ a ≤ 0) with h | h
 ·exact Rat.mul_nonneg h h
 ·have : 0 ≤ -a := by grind
  have := Rat.mul_nonneg this this
  grind
end Go.Proofs.YtejljnlfgiifoaaGreatDoor
namespace Go.Proofs.YtejljnlfgiifoaaGreatDoor
structure POk (wo cost : List Int → Rat) : Prop where
 wperm : ∀ l m : List Int, l.Perm m → wo l = wo m
 cperm : ∀ l m : List Int, l.Perm m → cost l = cost m
 split : ∀ l m : List Int, cost (l ++ m) + wo (l ++ m) = cost l + wo l + (cost m + wo m)
 conv : ∀ l m : List Int, wo (l ++ m) ≤ wo l + wo m
theorem POk.gain {wo cost : List Int → Rat} (h : POk wo cost) {rs l m : List Int} (hp : (l ++ m).Perm rs) : cost rs - cost l - cost m = wo l + wo m - wo rs := by
 have h1 := h.split l m
 have h2 := h.wperm _ _ hp
 have h3 := h.cperm _ _ hp
 rw [h2, h3] at h1
 grind
theorem filter_take {p : Int → Bool} {m : List Int} {k : Nat} (h1 : ∀ x, x ∈ m.take k → p x = true) (h2 : ∀ x, x ∈ m.drop k → p x = false) : m.filter p = m.take k := by
 rw [← List.take_append_drop k m, List.filter_append, List.filter_eq_self.2 h1, List.filter_eq_nil_iff.2 (fun x hx => by rw [h2 x hx]; decide), List.append_nil, List.take_append_drop]
theorem filter_drop {p : Int → Bool} {m : List Int} {k : Nat} (h1 : ∀ x, x ∈ m.take k → p x = false) (h2 : ∀ x, x ∈ m.drop k → p x = true) : m.filter p = m.drop k := by
 conv => lhs; rw [← List.take_append_drop k m]
 rw [List.filter_append, List.filter_eq_nil_iff.2 (fun x hx => by rw [h1 x hx]; decide), List.filter_eq_self.2 h2, List.nil_append]
theorem mid_lt {a b : Rat} (h : a < b) : a < (a + b) / 2 ∧ (a + b) / 2 < b := by
 constructor <;> grind
theorem getD_mem_take {m : List Int} {j : Nat} {x : Int} (h : x ∈ m.take (j + 1)) : ∃ i, i ≤ j ∧ i < m.length ∧ m.getD i 0 = x := by
 obtain ⟨i, hi, rfl⟩ := List.mem_iff_getElem.1 h
 rw [List.length_take] at hi
 exact ⟨i, by omega, by omega, by simp [show i < m.length by omega]⟩
theorem getD_mem_drop {m : List Int} {j : Nat} {x : Int} (h : x ∈ m.drop (j + 1)) : ∃ i, j + 1 ≤ i ∧ i < m.length ∧ m.getD i 0 = x := by
 obtain ⟨i, hi, rfl⟩ := List.mem_iff_getElem.1 h
 rw [List.length_drop] at hi
 exact ⟨j + 1 + i, by omega, by omega, by simp [show j + 1 + i < m.length by omega]⟩
theorem risK_get {key : Int → Rat} {m : List Int} (h : RisK key m) {i j : Nat} (hij : i ≤ j) (hj : j < m.length) : key (m.getD i 0) ≤ key (m.getD j 0) := by
 rcases Nat.lt_or_eq_of_le hij with hlt | rfl
 ·have := (List.pairwise_iff_getElem.1 h) i j (by simp; omega) (by simp; omega) hlt
  simpa [show i < m.length by omega, hj] using this
 ·exact Rat.le_refl
theorem sides_at {X : List (List Rat)} {col : Int} {rs m : List Int} (hp : m.Perm rs) (hr : RisK (colK X col) m) (ha : ∀ r, r ∈ rs → hasC X col r = true) {j : Nat} (hj : j + 1 < m.length) (hlt : colK X col (m.getD j 0) < colK X col (m.getD (j + 1) 0)) :
  (lowL X col (midC (colK X col) m j) rs).Perm (m.take (j + 1)) ∧ (highL X col (midC (colK X col) m j) rs).Perm (m.drop (j + 1)) := by
 obtain ⟨h1, h2⟩ := mid_lt hlt
 have hm : ∀ r, r ∈ m → hasC X col r = true := fun r hr => ha r (hp.mem_iff.1 hr)
 have hlo : ∀ x, x ∈ m.take (j + 1) → colK X col x ≤ midC (colK X col) m j := fun x hx => by
  obtain ⟨i, hi, _, rfl⟩ := getD_mem_take hx
  exact Rat.le_trans (risK_get hr hi (by omega)) (Rat.le_of_lt h1)
 have hhi : ∀ x, x ∈ m.drop (j + 1) → ¬ colK X col x ≤ midC (colK X col) m j := fun x hx => by
  obtain ⟨i, hi, hil, rfl⟩ := getD_mem_drop hx
  have := risK_get hr hi hil
  intro k
  generalize colK X col (m.getD i 0) = x at *
  unfold midC at k
  grind
 constructor
 ·refine (hp.symm.filter _).trans ?_
  rw [filter_take (k := j + 1)]
  ·intro x hx; rw [hm x (List.mem_of_mem_take hx), decide_eq_true (hlo x hx)]; rfl
  ·intro x hx; rw [hm x (List.mem_of_mem_drop hx), decide_eq_false (hhi x hx)]; rfl
 ·refine (hp.symm.filter _).trans ?_
  rw [filter_drop (k := j + 1)]
  ·intro x hx; rw [hm x (List.mem_of_mem_take hx), decide_eq_true (hlo x hx)]; rfl
  ·intro x hx; rw [hm x (List.mem_of_mem_drop hx), decide_eq_false (hhi x hx)]; rfl
theorem candC_iff {key : Int → Rat} {least : Int} {m : List Int} {j : Nat} : candC key least m j = true ↔ least ≤ ((j + 1 : Nat) : Int) ∧ least ≤ ((m.length - (j + 1) : Nat) : Int) ∧ key (m.getD j 0) < key (m.getD (j + 1) 0) := by
 unfold candC
 simp only [Bool.and_eq_true, decide_eq_true_eq]
 exact and_assoc
theorem colN_mem {key : Int → Rat} {wo : List Int → Rat} {least : Int} {m : List Int} : ∀ {n : Nat} {a w : Rat}, colN key wo least m n = some (a, w) → ∃ j, j < n ∧ candC key least m j = true ∧ a = midC key m j ∧ w = sumW wo m j
 | 0, a, w, h => by cases h
 | n + 1, a, w, h => by
  unfold colN at h
  split at h
  ·rename_i hc
   split at h
   ·cases h; exact ⟨n, Nat.lt_succ_self _, hc, rfl, rfl⟩
   ·rename_i a0 w0 h0
    split at h
    ·cases h; exact ⟨n, Nat.lt_succ_self _, hc, rfl, rfl⟩
    ·cases h
     obtain ⟨j, h1, h2⟩ := colN_mem h0
     exact ⟨j, by omega, h2⟩
  ·obtain ⟨j, h1, h2⟩ := colN_mem h
   exact ⟨j, by omega, h2⟩
theorem colN_max {key : Int → Rat} {wo : List Int → Rat} {least : Int} {m : List Int} : ∀ {n j : Nat}, j < n → candC key least m j = true → ∃ a w, colN key wo least m n = some (a, w) ∧ sumW wo m j ≤ w
 | 0, j, h, _ => by omega
 | n + 1, j, h, hc => by
  unfold colN
  by_cases hjn : j = n
  ·subst hjn
   rw [if_pos hc]
   split
   ·exact ⟨_, _, rfl, Rat.le_refl⟩
   ·rename_i a0 w0 _
    by_cases hw : w0 < sumW wo m j
    ·rw [if_pos hw]; exact ⟨_, _, rfl, Rat.le_refl⟩
    ·rw [if_neg hw]; exact ⟨_, _, rfl, Rat.not_lt.1 hw⟩
  ·obtain ⟨a, w, h1, h2⟩ := colN_max (wo := wo) (show j < n by omega) hc
   split
   ·rw [h1]
    dsimp only
    split
    ·rename_i hw; exact ⟨_, _, rfl, Rat.le_trans h2 (Rat.le_of_lt hw)⟩
    ·exact ⟨_, _, rfl, h2⟩
   ·exact ⟨a, w, h1, h2⟩
theorem bestF_mem {ps : List (Int × Option (Rat × Rat))} {c : Int} {a w : Rat} (h : bestF ps = some (c, a, w)) : (c, some (a, w)) ∈ ps := by
 have key : ∀ (qs pre : List (Int × Option (Rat × Rat))) (st : Option (Int × Rat × Rat)), (∀ c a w, st = some (c, a, w) → (c, some (a, w)) ∈ pre) → ∀ c a w, qs.foldl bestS st = some (c, a, w) → (c, some (a, w)) ∈ pre ++ qs := by
  intro qs
  induction qs with
  | nil => intro pre st h2 c a w h3; rw [List.append_nil]; exact h2 c a w h3
  | cons p qs ih =>
   intro pre st h2 c a w h3
   have := ih (pre ++ [p]) (bestS st p) (fun c a w h4 => by
    obtain ⟨pc, po⟩ := p
    unfold bestS at h4
    cases po with
    | none => exact List.mem_append_left _ (h2 c a w h4)
    | some q =>
     obtain ⟨a1, w1⟩ := q
     cases st with
     | none => cases h4; simp
     | some t =>
      obtain ⟨c0, a0, w0⟩ := t
      dsimp only at h4
      split at h4
      ·cases h4; simp
      ·cases h4; exact List.mem_append_left _ (h2 _ _ _ rfl)) c a w h3
   simpa using this
 have := key ps [] none (fun c a w h => by cases h) c a w h
 simpa using this
theorem bestF_max {ps : List (Int × Option (Rat × Rat))} {c : Int} {a w : Rat} (h : (c, some (a, w)) ∈ ps) : ∃ c' a' w', bestF ps = some (c', a', w') ∧ w ≤ w' := by
 have key : ∀ (qs : List (Int × Option (Rat × Rat))) (st : Option (Int × Rat × Rat)), ((c, some (a, w)) ∈ qs ∨ ∃ c' a' w', st = some (c', a', w') ∧ w ≤ w') → ∃ c' a' w', qs.foldl bestS st = some (c', a', w') ∧ w ≤ w' := by
  intro qs
  induction qs with
  | nil =>
   rintro st (h | h)
   ·cases h
   ·exact h
  | cons p qs ih =>
   intro st h
   refine ih (bestS st p) ?_
   have step : (p = (c, some (a, w)) ∨ ∃ c' a' w', st = some (c', a', w') ∧ w ≤ w') → ∃ c' a' w', bestS st p = some (c', a', w') ∧ w ≤ w' := by
    rintro (rfl | ⟨c', a', w', rfl, hw⟩)
    ·unfold bestS
     cases st with
     | none => exact ⟨_, _, _, rfl, Rat.le_refl⟩
     | some t =>
      obtain ⟨c0, a0, w0⟩ := t
      dsimp only
      split
      ·exact ⟨_, _, _, rfl, Rat.le_refl⟩
      ·rename_i hn; exact ⟨_, _, _, rfl, Rat.not_lt.1 hn⟩
    ·obtain ⟨pc, po⟩ := p
     unfold bestS
     cases po with
     | none => exact ⟨_, _, _, rfl, hw⟩
     | some q =>
      obtain ⟨a1, w1⟩ := q
      dsimp only
      split
      ·rename_i hn; exact ⟨_, _, _, rfl, Rat.le_trans hw (Rat.le_of_lt hn)⟩
      ·exact ⟨_, _, _, rfl, hw⟩
   rcases h with h | h
   ·rcases List.mem_cons.1 h with h | h
    ·exact .inr (step (.inl h.symm))
    ·exact .inl h
   ·exact .inr (step (.inr h))
 exact key ps none (.inl h)
theorem gapsN_mem {key : Int → Rat} {m : List Int} : ∀ {n : Nat} {t : Rat}, t ∈ gapsN key m n → ∃ j, j < n ∧ key (m.getD j 0) < key (m.getD (j + 1) 0) ∧ t = midC key m j
 | 0, t, h => by cases h
 | n + 1, t, h => by
  unfold gapsN at h
  rcases List.mem_append.1 h with h | h
  ·obtain ⟨j, h1, h2⟩ := gapsN_mem h
   exact ⟨j, by omega, h2⟩
  ·split at h
   ·rename_i hlt; exact ⟨n, Nat.lt_succ_self _, hlt, List.mem_singleton.1 h⟩
   ·cases h
section
variable {X : List (List Rat)} {wo cost : List Int → Rat} {rs cols : List Int} {L : Int} {ps : List (Int × Option (Rat × Rat))} (hp : POk wo cost) (hcol : Cols cols (ps.map (·.1))) (hps : ∀ p, p ∈ ps → ColR X wo rs L p.1 p.2)
include hp hcol hps
end
end Go.Proofs.YtejljnlfgiifoaaGreatDoor
namespace Go.Proofs.YtejljnlfgiifoaaGreatDoor
theorem sumQ_perm {l m : List Rat} (h : l.Perm m) : sumQ l = sumQ m := by
 induction h with
 | nil => rfl
 | cons x _ ih => rw [sumQ_cons, sumQ_cons, ih]
 | swap x y l => rw [sumQ_cons, sumQ_cons, sumQ_cons, sumQ_cons]; grind
 | trans _ _ h1 h2 => rw [h1, h2]
theorem sumQ_append (l m : List Rat) : sumQ (l ++ m) = sumQ l + sumQ m := by
 induction l with
 | nil => rw [List.nil_append, sumQ_nil]; grind
 | cons x l ih => rw [List.cons_append, sumQ_cons, sumQ_cons, ih]; grind
theorem ratN_ne {n : Nat} (h0 : n ≠ 0) : ((n : Int) : Rat) ≠ 0 := nat_rat_ne h0
theorem ratN_pos {n : Nat} (h0 : n ≠ 0) : 0 < ((n : Int) : Rat) := by
 have h1 : ((0 : Int) : Rat) ≤ ((n : Int) : Rat) := Rat.intCast_le_intCast.2 (by omega)
 have h2 := ratN_ne h0
 have h3 : ((0 : Int) : Rat) = 0 := rfl
 rw [h3] at h1
 rcases Rat.le_iff_lt_or_eq.1 h1 with h | h
 ·exact h
 ·exact absurd h.symm h2
theorem titu (a b : Rat) (x y : Nat) (hx : x = 0 → a = 0) (hy : y = 0 → b = 0) : (a + b) * (a + b) / (((x + y : Nat) : Int) : Rat) ≤ a * a / ((x : Int) : Rat) + b * b / ((y : Int) : Rat) := by
 by_cases hx0 : x = 0
 ·subst hx0
  rw [hx rfl, Nat.zero_add, show ((((0 : Nat) : Int)) : Rat) = 0 from rfl, rat_div_zero, Rat.zero_add, Rat.zero_add]
  exact Rat.le_refl
 by_cases hy0 : y = 0
 ·subst hy0
  rw [hy rfl, Nat.add_zero, show ((((0 : Nat) : Int)) : Rat) = 0 from rfl, rat_div_zero, Rat.add_zero, Rat.add_zero]
  exact Rat.le_refl
 have h1 := ratN_ne hx0
 have h2 := ratN_ne hy0
 have h3 := ratN_ne (n := x + y) (by omega)
 have p1 := ratN_pos hx0
 have p2 := ratN_pos hy0
 have p3 := ratN_pos (n := x + y) (by omega)
 have e : (((x + y : Nat) : Int) : Rat) = ((x : Int) : Rat) + ((y : Int) : Rat) := by rw [Int.natCast_add, Rat.intCast_add]
 rw [e] at h3 p3 ⊢
 generalize ((x : Int) : Rat) = u at *
 generalize ((y : Int) : Rat) = v at *
 have key : a * a / u + b * b / v - (a + b) * (a + b) / (u + v) = (a * v - b * u) * (a * v - b * u) / (u * v * (u + v)) := by grind
 have hn : 0 ≤ (a * v - b * u) * (a * v - b * u) / (u * v * (u + v)) := by
  have h5 := sq_nonneg (a * v - b * u)
  have h6 : 0 < u * v * (u + v) := Rat.mul_pos (Rat.mul_pos p1 p2) p3
  rw [Rat.div_def]
  exact Rat.mul_nonneg h5 (Rat.le_of_lt (Rat.inv_pos.2 h6))
 grind
def costVf (vals : List Rat) (l : List Int) : Rat := sumQ (devL (meanL (atR vals l)) (atR vals l))
def costLf (ls : List Int) (l : List Int) : Rat := costL (atI ls l)
theorem devV (L : List Rat) : sumQ (devL (meanL L) L) + sumQ L * sumQ L / ((L.length : Int) : Rat) = sumQ (devL 0 L) := by
 by_cases h0 : L.length = 0
 ·obtain rfl := List.length_eq_zero_iff.1 h0
  show sumQ [] + sumQ [] * sumQ [] / ((((([] : List Rat).length : Nat) : Int)) : Rat) = sumQ []
  rw [sumQ_nil, show ((((([] : List Rat).length : Nat) : Int)) : Rat) = 0 from rfl, rat_div_zero, Rat.add_zero]
 ·have h := dev_shift (meanL L) 0 L.reverse
  rw [List.reverse_reverse, List.length_reverse] at h
  have hn := ratN_ne h0
  have hm : meanL L = sumQ L / ((L.length : Int) : Rat) := rfl
  rw [h]
  generalize sumQ (devL (meanL L) L) = A
  rw [hm]
  generalize ((L.length : Int) : Rat) = N at *
  generalize sumQ L = S at *
  grind
theorem pokV (vals : List Rat) : POk (woV vals) (costVf vals) := by
 have hpm : ∀ l m : List Int, l.Perm m → (atR vals l).Perm (atR vals m) := fun l m h => h.map _
 have hw : ∀ l m : List Int, l.Perm m → woV vals l = woV vals m := fun l m h => by
  unfold woV; rw [sumQ_perm (hpm l m h), h.length_eq]
 have hf : ∀ l : List Int, costVf vals l + woV vals l = sumQ (devL 0 (atR vals l)) := fun l => by
  have := devV (atR vals l)
  rw [atR_len] at this
  exact this
 refine ⟨hw, fun l m h => ?_, fun l m => ?_, fun l m => ?_⟩
 ·have h1 := hf l
  have h2 := hf m
  have h3 : sumQ (devL 0 (atR vals l)) = sumQ (devL 0 (atR vals m)) := sumQ_perm ((hpm l m h).map _)
  have h4 := hw l m h
  grind
 ·rw [hf, hf, hf, atR_app]
  show sumQ ((atR vals l ++ atR vals m).map _) = _
  rw [List.map_append, sumQ_append]; rfl
 ·unfold woV
  rw [atR_app, sumQ_append, List.length_append]
  exact titu _ _ _ _ (fun h => by rw [List.length_eq_zero_iff.1 h]; rfl) (fun h => by rw [List.length_eq_zero_iff.1 h]; rfl)
theorem sum_one (f g : Nat → Nat) (j : Nat) : ∀ n, ((List.range n).map fun k => f k + if k = j then g k else 0).sum = ((List.range n).map f).sum + if j < n then g j else 0
 | 0 => by simp
 | n + 1 => by
  rw [List.range_succ, List.map_append, List.sum_append, List.map_append, List.sum_append, sum_one f g j n]
  simp only [List.map_cons, List.map_nil, List.sum_cons, List.sum_nil]
  by_cases h : n = j
  ·subst h; rw [if_pos rfl, if_neg (by omega), if_pos (by omega)]; omega
  ·rw [if_neg h]
   by_cases h2 : j < n
   ·rw [if_pos h2, if_pos (by omega)]; omega
   ·rw [if_neg h2, if_neg (by omega)]; omega
theorem sqL_sum : ∀ l : List Int, (∀ z, z ∈ l → 0 ≤ z ∧ z < 12) → sqL l = ((List.range 12).map fun (k : Nat) => l.count (k : Int) * l.count (k : Int)).sum
 | [], _ => by decide
 | x :: l, h => by
  have hx := h x (List.mem_cons_self ..)
  obtain ⟨j, rfl⟩ := Int.eq_ofNat_of_zero_le hx.1
  have ih := sqL_sum l (fun z hz => h z (List.mem_cons_of_mem _ hz))
  have hs := sum_one (fun k => l.count (k : Int) * l.count (k : Int)) (fun k => 2 * l.count (k : Int) + 1) j 12
  rw [if_pos (by omega)] at hs
  rw [sqL_cons, ih, Nat.add_assoc, ← hs]
  congr 1
  refine List.map_congr_left fun k _ => ?_
  rw [List.count_cons]
  by_cases e : k = j
  ·subst e; rw [if_pos rfl]; simp; grind
  ·have e2 : ¬ ((j : Int) == (k : Int)) = true := by simp; omega
   rw [if_neg e, if_neg e2]; simp
def sumK (ks : List Nat) (f : Nat → Rat) : Rat := sumQ (ks.map f)
theorem sumK_nat (f : Nat → Nat) : ∀ ks : List Nat, ((((ks.map f).sum : Nat) : Int) : Rat) = sumK ks fun k => (((f k : Nat) : Int) : Rat)
 | [] => rfl
 | k :: ks => by
  unfold sumK
  rw [List.map_cons, List.sum_cons, List.map_cons, sumQ_cons, Int.natCast_add, Rat.intCast_add, sumK_nat f ks]; rfl
theorem sumK_le {f g : Nat → Rat} (h : ∀ k, f k ≤ g k) : ∀ ks : List Nat, sumK ks f ≤ sumK ks g
 | [] => Rat.le_refl
 | k :: ks => by
  have ih := sumK_le h ks
  unfold sumK at *
  rw [List.map_cons, sumQ_cons, List.map_cons, sumQ_cons]
  have := h k
  grind
theorem sumK_add (f g : Nat → Rat) : ∀ ks : List Nat, sumK ks (fun k => f k + g k) = sumK ks f + sumK ks g
 | [] => by unfold sumK; rw [List.map_nil, List.map_nil, List.map_nil, sumQ_nil, Rat.add_zero]
 | k :: ks => by
  have ih := sumK_add f g ks
  unfold sumK at *
  rw [List.map_cons, sumQ_cons, List.map_cons, sumQ_cons, List.map_cons, sumQ_cons, ih]; grind
theorem sumK_div (f : Nat → Rat) (c : Rat) : ∀ ks : List Nat, sumK ks (fun k => f k / c) = sumK ks f / c
 | [] => by unfold sumK; rw [List.map_nil, List.map_nil, sumQ_nil, Rat.div_def, Rat.zero_mul]
 | k :: ks => by
  have ih := sumK_div f c ks
  unfold sumK at *
  rw [List.map_cons, sumQ_cons, List.map_cons, sumQ_cons, ih, Rat.div_def, Rat.div_def, Rat.div_def, Rat.add_mul]
theorem sqL_rat {l : List Int} (h : ∀ z, z ∈ l → 0 ≤ z ∧ z < 12) : ((sqL l : Int) : Rat) = sumK (List.range 12) fun k => ((l.count (k : Int) : Int) : Rat) * ((l.count (k : Int) : Int) : Rat) := by
 rw [sqL_sum l h, sumK_nat]
 unfold sumK
 congr 1
 refine List.map_congr_left fun k _ => ?_
 rw [Int.natCast_mul, Rat.intCast_mul]
theorem pokL {ls : List Int} (hls : ∀ z, z ∈ ls → 0 ≤ z ∧ z < 12) : POk (woL ls) (costLf ls) := by
 have hpm : ∀ l m : List Int, l.Perm m → (atI ls l).Perm (atI ls m) := fun l m h => h.map _
 have hb : ∀ l : List Int, ∀ z, z ∈ atI ls l → 0 ≤ z ∧ z < 12 := fun l z hz => by
  unfold atI at hz
  obtain ⟨r, _, rfl⟩ := List.mem_map.1 hz
  rw [List.getD_eq_getElem?_getD]
  cases e : ls[r.toNat]? with
  | none => exact ⟨by decide, by decide⟩
  | some x => exact hls x (List.mem_of_getElem? e)
 have hw : ∀ l m : List Int, l.Perm m → woL ls l = woL ls m := fun l m h => by
  unfold woL; rw [sqL_perm (hpm l m h), h.length_eq]
 have hf : ∀ l : List Int, costLf ls l + woL ls l = ((l.length : Int) : Rat) := fun l => by
  unfold costLf costL woL
  rw [atI_len]; grind
 refine ⟨hw, fun l m h => ?_, fun l m => ?_, fun l m => ?_⟩
 ·have h1 := hf l
  have h2 := hf m
  have h4 := hw l m h
  rw [h.length_eq] at h1
  grind
 ·rw [hf, hf, hf, List.length_append, Int.natCast_add, Rat.intCast_add]
 ·unfold woL
  rw [sqL_rat (hb (l ++ m)), sqL_rat (hb l), sqL_rat (hb m), ← sumK_div, ← sumK_div, ← sumK_div, ← sumK_add]
  refine sumK_le (fun k => ?_) _
  rw [atI_app, List.count_append, Int.natCast_add, Rat.intCast_add, List.length_append]
  exact titu _ _ _ _ (fun h => by rw [List.length_eq_zero_iff.1 h]; rfl) (fun h => by rw [List.length_eq_zero_iff.1 h]; rfl)
end Go.Proofs.YtejljnlfgiifoaaGreatDoor
namespace Go.Proofs.YtejljnlfgiifoaaGreatDoor
open Go.RowKit _root_.Go.Proofs.Tryz
theorem atR_exL {vals : List Rat} {rs : List Int} {i : Nat} {R : Nat} {x : Rat} (hri : rs[i]? = some (R : Int)) (hx : vals[R]? = some x) : atR vals (exL (rs.take (i + 1)) vals.length) = atR vals (exL (rs.take i) vals.length) ++ [x] := by
 obtain ⟨hl, _⟩ := List.getElem?_eq_some_iff.1 hx
 have hex := ex_take (n := vals.length) hri
 have hp : inR vals.length (R : Int) = true := by unfold inR; simp; omega
 rw [hp, if_pos rfl] at hex
 rw [hex]
 unfold atR
 rw [List.map_append, List.map_cons, Int.toNat_natCast, List.getD_eq_getElem?_getD, hx]; rfl
set_option maxHeartbeats 4000000 in
theorem refValues_pc {H : Hp} {v : Value} {rs : List Int} (hr : IL H v rs) (hn : rs.length ≤ 300) {kd cl : Int} {sl sv : Value} {qs : List Rat} (hv : RL H sv qs) :
  PC prog 80 #[goalV kd cl sl sv, v] H fun r H' => RL H' r (atR qs (exL rs qs.length)) := by
 obtain ⟨a, cap, rfl⟩ := SlC.val hr
 obtain ⟨va, vc, rfl⟩ := hv.val
 refine BD func80 ntmps80 ?_
 try refine RUN ?_
 refine EV.loopK (ι := Nat × List Value × Value × Ows) [1, 2] [2] (fun q => [(5, .v q.2.2.1), (6, .v (.int .i64 (q.1 : Int)))]) (fun _ => []) (fun q => q.2.2.2) (fun q G => q.1 ≤ rs.length ∧ RVs G q.2.1 (atR qs (exL (rs.take q.1) qs.length)) ∧ OwnL 78 3 q.2.2.1 q.2.1.length (q.2.1.flatMap vlist) q.2.2.2) (fun q => rs.length - q.1) ((0, [], .slice none 0 0, [])) rfl rfl ⟨rfl, rfl, trivial⟩ trivial rfl (fun _ => rfl) (⟨Nat.zero_le _, RVs.nil _, OwnL.nil _ _⟩) ?_
 rintro ⟨i, us, w, ow⟩ G2 hG2 ⟨hi, hus, hown⟩
 dsimp only at hi hus hown
 obtain ⟨wa, wc, rfl⟩ := hown.val
 try refine RUN ?_
 refine EV.cond rfl (fun hlt => ?_) (fun hlt => ?_)
 ·simp only [nN] at hlt
  obtain ⟨r, hri⟩ : ∃ r, rs[i]? = some r := ⟨_, List.getElem?_eq_getElem hlt⟩
  have hex := ex_take (n := qs.length) hri
  have hel := exL_len (rs.take i) qs.length
  rw [List.length_take] at hel
  have hul : us.length ≤ i := by rw [hus.1, atR_len]; omega
  have wn : IntKind.i64.wrap ((i : Int) + 1) = ((i + 1 : Nat) : Int) := wi_inc i (by omega)
  have hr2 := hr.mono hG2
  try refine RUN ?_
  by_cases h1 : r ≥ 0
  ·obtain ⟨R, rfl⟩ := Int.eq_ofNat_of_zero_le h1
   apply EV.drawn 14 (by kernel_rfl) (by kernel_rfl); intro xv yw
   (repeat (first | refine' DV ?_ | refine' DA ?_ | refine' DK0 ?_ | refine' DT ?_ | refine' DS ?_))
   refine' DJ.ofVal (ValOk.idx1 tO rfl rfl rfl rfl rfl rfl rfl rfl (hr2) (i) (rfl) (hlt) ((by rw [List.getElem?_map, hri]; rfl))) rfl rfl rfl ?_; rotate_left
   (repeat (first | refine' DV ?_ | refine' DA ?_ | refine' DK0 ?_ | refine' DT ?_ | refine' DS ?_))
   rw [decide_eq_true h1]
   (repeat (first | refine' DV ?_ | refine' DA ?_ | refine' DK0 ?_ | refine' DT ?_ | refine' DS ?_))
   refine' DJ.ofVal (ValOk.idx1 tO rfl rfl rfl rfl rfl rfl rfl rfl (hr2) (i) (rfl) (hlt) ((by rw [List.getElem?_map, hri]; rfl))) rfl rfl rfl ?_; rotate_left
   (repeat (first | refine' DV ?_ | refine' DA ?_ | refine' DK0 ?_ | refine' DT ?_ | refine' DS ?_))
   (refine DJ.nil (fun G3 hG3 hF3 => ?_); (case hS => rfl); (case hS2 => rfl))
   try refine RUN ?_
   by_cases h2 : (R : Int) < (qs.length : Int)
   ·have hRl : R < qs.length := by omega
    obtain ⟨x, hx⟩ : ∃ x, qs[R]? = some x := ⟨_, List.getElem?_eq_getElem hRl⟩
    have hsn := atR_exL hri hx
    have hr3 := hr2.mono hG3
    obtain ⟨vs, y, hs, hc, hy⟩ := (hv.mono (hG2.trans hG3)).at hx
    obtain ⟨xa, xl, xc, ya, yl, yc, rfl, hx1, hx2⟩ := id hy
    rw [decide_eq_true h2]
    try refine RUN ?_
    apply EV.drawn 10 (by kernel_rfl) (by kernel_rfl); intro xv yw
    (repeat (first | refine' DV ?_ | refine' DA ?_ | refine' DK0 ?_ | refine' DT ?_ | refine' DS ?_))
    refine' DJ.ofVal (ValOk.idx1 tO rfl rfl rfl rfl rfl rfl rfl rfl (hr3) (i) (rfl) (hlt) ((by rw [List.getElem?_map, hri]; rfl))) rfl rfl rfl ?_; rotate_left
    (repeat (first | refine' DV ?_ | refine' DA ?_ | refine' DK0 ?_ | refine' DT ?_ | refine' DS ?_))
    refine' DJ.idxM tO rfl rfl rfl rfl rfl rfl rfl rfl rfl (hs) (R) (rfl) (hRl) (hc) ?_; rotate_left
    (repeat (first | refine' DV ?_ | refine' DA ?_ | refine' DK0 ?_ | refine' DT ?_ | refine' DS ?_))
    (refine' DJ.lit tO rfl rfl rfl rfl rfl rfl rfl rfl rfl rfl rfl rfl ?_; rotate_left)
    (refine DJ.nil (fun G4 hG4 hF4 => ?_); (case hS => rfl); (case hS2 => rfl))
    refine EVL.append tO rfl rfl rfl rfl rfl rfl rfl rfl rfl rfl rfl rfl [] ow [] (List.append_nil _).symm hown (SrcAt.ro hF4.1 (by omega)) rfl (by omega) ?_
    intro v' ow' hown'
    try refine RUN ?_
    refine ⟨(i + 1, us ++ [_], v', ow'), ⟨rfl, by rw [wn]; rfl, trivial⟩, (by repeat (first | exact trivial | refine And.intro rfl ?_)), trivial, (by repeat (first | exact trivial | refine And.intro rfl ?_)), List.append_nil _, ⟨hlt, by dsimp only; rw [hsn]; exact (hus.mono (hG3.trans hG4)).snoc (hy.mono hG4), by dsimp only; rw [List.length_append, List.flatMap_append]; exact hown'⟩, hG3.trans hG4, by dsimp only; omega⟩
   ·have hp : inR qs.length (R : Int) = false := by unfold inR; simp; omega
    rw [hp, if_neg (by decide), List.append_nil] at hex
    rw [decide_eq_false h2]
    try refine RUN ?_
    refine ⟨(i + 1, us, _, ow), ⟨rfl, by rw [wn]; rfl, trivial⟩, (by repeat (first | exact trivial | refine And.intro rfl ?_)), trivial, (by repeat (first | exact trivial | refine And.intro rfl ?_)), rfl, ⟨hlt, by dsimp only; rw [hex]; exact hus.mono hG3, hown⟩, hG3, by dsimp only; omega⟩
  ·have hp : inR qs.length r = false := by unfold inR; simp; omega
   rw [hp, if_neg (by decide), List.append_nil] at hex
   apply EV.drawn 14 (by kernel_rfl) (by kernel_rfl); intro xv yw
   (repeat (first | refine' DV ?_ | refine' DA ?_ | refine' DK0 ?_ | refine' DT ?_ | refine' DS ?_))
   refine' DJ.ofVal (ValOk.idx1 tO rfl rfl rfl rfl rfl rfl rfl rfl (hr2) (i) (rfl) (hlt) ((by rw [List.getElem?_map, hri]; rfl))) rfl rfl rfl ?_; rotate_left
   (repeat (first | refine' DV ?_ | refine' DA ?_ | refine' DK0 ?_ | refine' DT ?_ | refine' DS ?_))
   rw [decide_eq_false h1]
   (repeat (first | refine' DV ?_ | refine' DA ?_ | refine' DK0 ?_ | refine' DT ?_ | refine' DS ?_))
   (refine DJ.nil (fun G3 hG3 hF3 => ?_); (case hS => rfl); (case hS2 => rfl))
   try refine RUN ?_
   refine ⟨(i + 1, us, _, ow), ⟨rfl, by rw [wn]; rfl, trivial⟩, (by repeat (first | exact trivial | refine And.intro rfl ?_)), trivial, (by repeat (first | exact trivial | refine And.intro rfl ?_)), rfl, ⟨hlt, by dsimp only; rw [hex]; exact hus.mono hG3, hown⟩, hG3, by dsimp only; omega⟩
 ·simp only [nN] at hlt
  obtain rfl : i = rs.length := by omega
  rw [List.take_length] at hus
  (first | refine EVL.publishL [] ow [] ((List.append_nil _).symm) hown fun G3 hG3 hs3 => ?_ | refine EV.publishL [] ow [] ((List.append_nil _).symm) hown fun G3 hG3 hs3 => ?_)
  have hus3 := hus.mono hG3
  try refine RUN ?_
  show RL G3 (.slice wa us.length wc) _
  rw [hus3.1] at hs3 ⊢
  exact hus3.rl hs3
theorem refMeanG_pc {H : Hp} {v : Value} {rs : List Int} (hr : IL H v rs) (hn : rs.length ≤ 300) {kd cl : Int} {sl sv : Value} {qs : List Rat} (hv : RL H sv qs) (hb : ∀ q, q ∈ qs → ht q ≤ 50) :
  PC prog 36 #[goalV kd cl sl sv, v] H fun r H' => RQ H' r (meanL (atR qs (exL rs qs.length))) := by
 have hvals := refValues_pc (kd := kd) (cl := cl) (sl := sl) hr hn hv
 have hel := exL_len rs qs.length
 have hlb := fun q hq => hb q (atR_mem (exL_mem (rs := rs) (n := qs.length)) q hq)
 have hll : (atR qs (exL rs qs.length)).length ≤ 300 := by rw [atR_len]; omega
 generalize atR qs (exL rs qs.length) = L at *
 obtain ⟨a, cap, rfl⟩ := SlC.val hr
 obtain ⟨va, vc, rfl⟩ := hv.val
 refine BD func36 ntmps36 ?_
 try refine RUN ?_
 refine EVL.call rfl rfl rfl rfl rfl (hvals) ?_
 intro r1 G1 hL hG1
 obtain ⟨la, lc, rfl⟩ := hL.val
 try refine RUN ?_
 by_cases h0 : L.length = 0
 ·obtain rfl := List.length_eq_zero_iff.1 h0
  try refine RUN ?_
  refine EVL.call rfl rfl rfl rfl rfl (refOf_pc 0 (by decide) (by decide)) ?_
  intro r2 G2 hq hG2
  obtain ⟨xa, xl, xc, ya, yl, yc, rfl, hx1, hx2⟩ := id hq
  try refine RUN ?_
  rw [meanL_nil]
  exact hq
 ·rw [show (((L.length : Nat) : Int) == 0) = false from beq_eq_false_iff_ne.2 (by omega)]
  try refine RUN ?_
  refine EVL.call rfl rfl rfl rfl rfl (refMean_pc hL (by omega) h0 (fun q hq => Nat.le_trans (hlb q hq) (by omega))) ?_
  intro r2 G2 hq hG2
  obtain ⟨xa, xl, xc, ya, yl, yc, rfl, hx1, hx2⟩ := id hq
  try refine RUN ?_
  exact hq
theorem handQ_pv (z : Int) (hz : -9223372036854775808 ≤ z ∧ z < 9223372036854775808) : PV prog 14 #[.int .i64 z] (fracV (rNum z)) := by
 have hr := ht_rNum z
 refine PV.of_pc ?_
 refine BD func14 ntmps14 ?_
 try refine RUN ?_
 refine EVL.call rfl rfl rfl rfl rfl (r_pc z hz) ?_
 rintro r G hR hG
 refine EVL.call rfl rfl rfl rfl rfl (in_pc hR (rq_small hr (by omega))) ?_
 rintro r G2 rfl hG2
 try refine RUN ?_
 rfl
theorem is_pc {H : Hp} (q : Rat) (hq : rq q) (a b : Int) (h1 : -9223372036854775808 ≤ a) (h2 : a < 9223372036854775808) (h3 : -9223372036854775808 ≤ b) (h4 : b < 9223372036854775808) (h0 : b ≠ 0) (he : q = Rat.divInt a b) : PC prog 23 #[fracV q, .int .i64 a, .int .i64 b] H fun r _ => r = .bool true := by
 have hov := fun G : Hp => refOver_pc (H := G) a b h1 h2 h3 h4 h0
 rw [← he] at hov
 refine BD func23 ntmps23 ?_
 try refine RUN ?_
 apply EV.drawn 4 (by kernel_rfl) (by kernel_rfl); intro xv yw
 (repeat (first | refine' DV ?_ | refine' DA ?_ | refine' DK0 ?_ | refine' DT ?_ | refine' DS ?_))
 refine' DJ.call rfl rfl rfl rfl rfl (cO func72) (fun G hG hd => hov G) (fun _ _ _ h k => RQ.mono h k) ?_; rotate_left
 (refine DJ.nil (fun G1 hG1 hF1 => ?_); (case hS => rfl); (case hS2 => rfl))
 have hs := same_self hF1.1 hq
 repeat (first | refine RUN ?_ | refine CV (hs) ?_ | refine CE (hs) ?_)
 rfl
theorem rowQ_ht {l : List Int} (n : Nat) : ∀ q, q ∈ rowQ l n → ht q ≤ 5 := fun q hq => by
 obtain ⟨i, hi, rfl⟩ := List.mem_map.1 hq
 split
 ·exact ht_rNum _
 ·rw [ht_zero]; omega
theorem rowsQ_ht {l : List Int} {n w : Nat} : ∀ x, x ∈ rowsQ l n w → x.length = w ∧ ∀ q, q ∈ x → ht q ≤ 5 := fun x hx => by
 obtain ⟨i, _, rfl⟩ := List.mem_map.1 hx
 exact ⟨rowQ_len _ _, rowQ_ht w⟩
theorem colK_ht {X : List (List Rat)} (h : ∀ x, x ∈ X → ∀ q, q ∈ x → ht q ≤ 5) (c r : Int) : ht (colK X c r) ≤ 5 := by
 unfold colK
 rw [List.getD_eq_getElem?_getD, List.getD_eq_getElem?_getD]
 cases e : X[r.toNat]? with
 | none => simp; rw [ht_zero]; omega
 | some x =>
  rw [Option.getD_some]
  cases e2 : x[c.toNat]? with
  | none => rw [Option.getD_none, ht_zero]; omega
  | some q => exact h x (List.mem_of_getElem? e) q (List.mem_of_getElem? e2)
theorem midC_ht {X : List (List Rat)} (h : ∀ x, x ∈ X → ∀ q, q ∈ x → ht q ≤ 5) (c : Int) (m : List Int) (j : Nat) : ht (midC (colK X c) m j) ≤ 100 := by
 have h1 := colK_ht h c (m.getD j 0)
 have h2 := colK_ht h c (m.getD (j + 1) 0)
 have h3 := ht_add (colK X c (m.getD j 0)) (colK X c (m.getD (j + 1) 0))
 have h4 : ht ((2 : Int) : Rat) ≤ 10 := by
  have := ht_int 2
  have h2 : bl (2 : Int).natAbs ≤ 5 := bl_le (by decide)
  omega
 have h5 := ht_div (colK X c (m.getD j 0) + colK X c (m.getD (j + 1) 0)) ((2 : Int) : Rat)
 rw [show ((2 : Int) : Rat) = 2 from rfl] at h4 h5
 unfold midC
 omega
theorem dot_dev (L : List Rat) : sumQ (dotL L L) = sumQ (devL 0 L) := by
 congr 1
 unfold dotL devL
 induction L with
 | nil => rfl
 | cons x L ih =>
  rw [List.zipWith_cons_cons, List.map_cons, ih]
  congr 1
  grind
theorem costV_form (L : List Rat) : sumQ (dotL L L) - sumQ L * sumQ L / ((L.length : Int) : Rat) = sumQ (devL (meanL L) L) := by
 have := devV L
 rw [dot_dev]
 grind
set_option maxHeartbeats 4000000 in
theorem refCostV_pc {H : Hp} {v : Value} {rs : List Int} (hr : IL H v rs) (hn : rs.length ≤ 300) {cl : Int} {sl sv : Value} {qs : List Rat} (hv : RL H sv qs) (hb : ∀ q, q ∈ qs → ht q ≤ 5) :
  PC prog 37 #[goalV 2 cl sl sv, v] H fun r H' => RQ H' r (costVf qs (exL rs qs.length)) := by
 have hvals := refValues_pc (kd := 2) (cl := cl) (sl := sl) hr hn hv
 have hel := exL_len rs qs.length
 have hlb := fun q hq => hb q (atR_mem (exL_mem (rs := rs) (n := qs.length)) q hq)
 have hll : (atR qs (exL rs qs.length)).length ≤ 300 := by rw [atR_len]; omega
 show PC prog 37 #[goalV 2 cl sl sv, v] H fun r H' => RQ H' r (sumQ (devL (meanL (atR qs (exL rs qs.length))) (atR qs (exL rs qs.length))))
 generalize atR qs (exL rs qs.length) = L at *
 have hform := costV_form L
 have hS := ht_sum 5 L hlb
 have hD := ht_sum 10 (dotL L L) (dotL_ht hlb hlb)
 have hDl : (dotL L L).length ≤ 300 := by unfold dotL; rw [List.length_zipWith]; omega
 have hM := ht_mul (sumQ L) (sumQ L)
 have hN := ht_int (L.length : Int)
 have hN2 : bl (L.length : Int).natAbs ≤ 20 := bl_le (by omega)
 have hV := ht_div (sumQ L * sumQ L) ((L.length : Int) : Rat)
 have r1 : rq (sumQ L) := by unfold rq; omega
 have r2 : rq (sumQ L * sumQ L) := by unfold rq; omega
 have r3 : rq ((L.length : Int) : Rat) := by unfold rq; omega
 have r4 : rq (sumQ L * sumQ L / ((L.length : Int) : Rat)) := by unfold rq; omega
 have r5 : rq (sumQ (dotL L L)) := by unfold rq; omega
 rw [← hform]
 obtain ⟨a, cap, rfl⟩ := SlC.val hr
 obtain ⟨va, vc, rfl⟩ := hv.val
 refine BD func37 ntmps37 ?_
 try refine RUN ?_
 refine EVL.call rfl rfl rfl rfl rfl (hvals) ?_
 intro r1' G1 hL hG1
 obtain ⟨la, lc, rfl⟩ := hL.val
 try refine RUN ?_
 by_cases h0 : L.length = 0
 ·obtain rfl := List.length_eq_zero_iff.1 h0
  try refine RUN ?_
  refine EVL.call rfl rfl rfl rfl rfl (refOf_pc 0 (by decide) (by decide)) ?_
  intro r2 G2 hq hG2
  obtain ⟨xa, xl, xc, ya, yl, yc, rfl, hx1, hx2⟩ := id hq
  try refine RUN ?_
  have e : sumQ (dotL [] []) - sumQ [] * sumQ [] / ((([] : List Rat).length : Int) : Rat) = ((0 : Int) : Rat) := by decide +kernel
  rw [e]
  exact hq
 ·have hnum : (((L.length : Nat) : Int) : Rat).num ≠ 0 := by rw [Rat.num_intCast]; omega
  rw [show (((L.length : Nat) : Int) == 0) = false from beq_eq_false_iff_ne.2 (by omega)]
  try refine RUN ?_
  refine EVL.call rfl rfl rfl rfl rfl (refTotal_pc hL (by omega) (fun q hq => Nat.le_trans (hlb q hq) (by omega))) ?_
  intro rt G2 hT hG2
  obtain ⟨xa, xl, xc, ya, yl, yc, rfl, hx1, hx2⟩ := id hT
  have hL2 := hL.mono hG2
  try refine RUN ?_
  apply EV.drawn 11 (by kernel_rfl) (by kernel_rfl); intro xv yw
  (repeat (first | refine' DV ?_ | refine' DA ?_ | refine' DK0 ?_ | refine' DT ?_ | refine' DS ?_))
  refine' DJ.call rfl rfl rfl rfl rfl (cO func84) (fun G hG hd => refDot_pc (hL2.mono hG) (hL2.mono hG) rfl (by omega) (fun q hq => Nat.le_trans (hlb q hq) (by omega)) (fun q hq => Nat.le_trans (hlb q hq) (by omega))) (fun _ _ _ h k => RQ.mono h k) ?_; rotate_left
  (repeat (first | refine' DV ?_ | refine' DA ?_ | refine' DK0 ?_ | refine' DT ?_ | refine' DS ?_))
  refine' DJ.call rfl rfl rfl rfl rfl (cO func86) (fun G hG hd => refMulQ_pc (hT.mono hG) (hT.mono hG) r1 r1) (fun _ _ _ h k => RQ.mono h k) ?_; rotate_left
  (repeat (first | refine' DV ?_ | refine' DA ?_ | refine' DK0 ?_ | refine' DT ?_ | refine' DS ?_))
  refine' DJ.call rfl rfl rfl rfl rfl (cO func45) (fun G hG hd => refOf_pc (L.length : Int) (by omega) (by omega)) (fun _ _ _ h k => RQ.mono h k) ?_; rotate_left
  refine' DJ.call rfl rfl rfl rfl rfl (cO func85) (fun G hG hd => refDivQ_pc (hd.tail.head (by kernel_rfl)) (hd.head (by kernel_rfl)) r2 r3 hnum) (fun _ _ _ h k => RQ.mono h k) ?_; rotate_left
  refine' DJ.call rfl rfl rfl rfl rfl (cO func83) (fun G hG hd => refSub_pc (hd.tail.tail.tail.head (by kernel_rfl)) (hd.head (by kernel_rfl)) r5 r4) (fun _ _ _ h k => RQ.mono h k) ?_; rotate_left
  (refine DJ.nil (fun G3 hG3 hF3 => ?_); (case hS => rfl); (case hS2 => rfl))
  have hfin := hF3.1
  obtain ⟨xa, xl, xc, ya, yl, yc, e, hx1, hx2⟩ := id hfin
  rw [e] at hfin ⊢
  try refine RUN ?_
  exact hfin
theorem sqL_sumC (C : Nat) : ∀ l : List Int, (∀ z, z ∈ l → 0 ≤ z ∧ z < (C : Int)) → sqL l = ((List.range C).map fun (k : Nat) => l.count (k : Int) * l.count (k : Int)).sum ∧ l.length = ((List.range C).map fun (k : Nat) => l.count (k : Int)).sum
 | [], _ => by
  constructor
  ·show 0 = _
   induction C with
   | zero => rfl
   | succ n ih => rw [List.range_succ, List.map_append, List.sum_append, ← ih (by simp)]; simp
  ·show 0 = _
   induction C with
   | zero => rfl
   | succ n ih => rw [List.range_succ, List.map_append, List.sum_append, ← ih (by simp)]; simp
 | x :: l, h => by
  have hx := h x (List.mem_cons_self ..)
  obtain ⟨j, rfl⟩ := Int.eq_ofNat_of_zero_le hx.1
  obtain ⟨ih1, ih2⟩ := sqL_sumC C l (fun z hz => h z (List.mem_cons_of_mem _ hz))
  constructor
  ·have hs := sum_one (fun k => l.count (k : Int) * l.count (k : Int)) (fun k => 2 * l.count (k : Int) + 1) j C
   rw [if_pos (by omega)] at hs
   rw [sqL_cons, ih1, Nat.add_assoc, ← hs]
   congr 1
   refine List.map_congr_left fun k _ => ?_
   rw [List.count_cons]
   by_cases e : k = j
   ·subst e; rw [if_pos rfl]; simp; grind
   ·have e2 : ¬ ((j : Int) == (k : Int)) = true := by simp; omega
    rw [if_neg e, if_neg e2]; simp
  ·have hs := sum_one (fun k => l.count (k : Int)) (fun k => 1) j C
   rw [if_pos (by omega)] at hs
   rw [List.length_cons, ih2, ← hs]
   congr 1
   refine List.map_congr_left fun k _ => ?_
   rw [List.count_cons]
   by_cases e : k = j
   ·subst e; rw [if_pos rfl]; simp
   ·have e2 : ¬ ((j : Int) == (k : Int)) = true := by simp; omega
    rw [if_neg e, if_neg e2]
def nS (l : List Int) (i : Nat) : Nat := ((List.range i).map fun (k : Nat) => l.count (k : Int)).sum
def sS (l : List Int) (i : Nat) : Nat := ((List.range i).map fun (k : Nat) => l.count (k : Int) * l.count (k : Int)).sum
theorem nS_succ (l : List Int) (i : Nat) : nS l (i + 1) = nS l i + l.count (i : Int) := by unfold nS; rw [List.range_succ, List.map_append, List.sum_append]; simp
theorem sS_succ (l : List Int) (i : Nat) : sS l (i + 1) = sS l i + l.count (i : Int) * l.count (i : Int) := by unfold sS; rw [List.range_succ, List.map_append, List.sum_append]; simp
theorem nS_le (l : List Int) (B : Nat) (h : ∀ z : Int, l.count z ≤ B) : ∀ i, nS l i ≤ i * B ∧ sS l i ≤ i * (B * B)
 | 0 => ⟨Nat.le_of_eq (by simp [nS]), Nat.le_of_eq (by simp [sS])⟩
 | i + 1 => by
  obtain ⟨h1, h2⟩ := nS_le l B h i
  rw [nS_succ, sS_succ, Nat.succ_mul, Nat.succ_mul]
  exact ⟨Nat.add_le_add h1 (h _), Nat.add_le_add h2 (Nat.mul_le_mul (h _) (h _))⟩
set_option maxHeartbeats 4000000 in
theorem refCostC_pc {H : Hp} {v : Value} {rs : List Int} (hr : IL H v rs) (hn : rs.length ≤ 300) {sv : Value} {la : Option Addr} {lc : Nat} {ls : List Int} (hv : IL H (.slice la ls.length lc) ls) {C : Nat} (hc : C ≤ 12) (hc1 : 1 ≤ C) (hls : ∀ z, z ∈ ls → 0 ≤ z ∧ z < (C : Int)) :
  PC prog 37 #[goalV 1 C (.slice la ls.length lc) sv, v] H fun r H' => RQ H' r (costLf ls (exL rs ls.length)) := by
 have hcnt := refCounts_pc (kd := 1) (sv := sv) hr hn hv hc hls
 have hel := exL_len rs ls.length
 have hll : (atI ls (exL rs ls.length)).length ≤ 300 := by rw [atI_len]; omega
 have hlb : ∀ z, z ∈ atI ls (exL rs ls.length) → 0 ≤ z ∧ z < (C : Int) := fun z hz => by
  unfold atI at hz
  obtain ⟨r, _, rfl⟩ := List.mem_map.1 hz
  rw [List.getD_eq_getElem?_getD]
  cases e : ls[r.toNat]? with
  | none => exact ⟨by decide, by simp; omega⟩
  | some x => exact hls x (List.mem_of_getElem? e)
 show PC prog 37 #[goalV 1 C (.slice la ls.length lc) sv, v] H fun r H' => RQ H' r (costL (atI ls (exL rs ls.length)))
 generalize atI ls (exL rs ls.length) = L at *
 obtain ⟨e1, e2⟩ := sqL_sumC C L hlb
 have hcl := cntL_len C L
 have hb := nS_le L 300 (fun z => Nat.le_trans List.count_le_length hll)
 have hcount : ∀ z : Int, L.count z ≤ 300 := fun z => Nat.le_trans List.count_le_length hll
 have e1' : sqL L = sS L C := e1
 have e2' : L.length = nS L C := e2
 obtain ⟨a, cap, rfl⟩ := SlC.val hr
 refine BD func37 ntmps37 ?_
 try refine RUN ?_
 refine EVL.call rfl rfl rfl rfl rfl (hcnt) ?_
 intro r1 G1 hL hG1
 obtain ⟨ca, cc, rfl⟩ := SlC.val hL
 have hLC : SlC G1 (.slice ca C cc) C 1 ((cntL C L).map iv) := by
  have hL0 : SlC G1 (.slice ca (cntL C L).length cc) (cntL C L).length 1 ((cntL C L).map iv) := hL
  rw [hcl] at hL0
  exact hL0
 rw [hcl]
 try refine RUN ?_
 refine EV.loopK (ι := Nat) [4, 7] [4] (fun i => [(8, .v (.int .i64 (nS L i : Nat))), (9, .v (.int .i64 (sS L i : Nat))), (10, .v (.int .i64 (i : Int)))]) (fun _ => []) (fun _ => []) (fun i _ => i ≤ C) (fun i => C - i) (0) rfl rfl ⟨rfl, rfl, rfl, trivial⟩ trivial rfl (fun _ => rfl) (Nat.zero_le _) ?_
 rintro i G2 hG2 hi
 try refine RUN ?_
 refine EV.cond rfl (fun hlt => ?_) (fun hlt => ?_)
 ·simp only [nN] at hlt
  have hL2 := hLC.mono hG2
  have hget := cntL_at L hlt
  have hil : i < C := hlt
  have b1 := hb i
  have b2 := hcount (i : Int)
  have b3 : i * 300 ≤ 12 * 300 := Nat.mul_le_mul (by omega) (Nat.le_refl _)
  have b4 : i * (300 * 300) ≤ 12 * (300 * 300) := Nat.mul_le_mul (by omega) (Nat.le_refl _)
  have b5 : L.count (i : Int) * L.count (i : Int) ≤ 300 * 300 := Nat.mul_le_mul b2 b2
  have s1 := nS_succ L i
  have s2 := sS_succ L i
  have w1 : IntKind.i64.wrap ((nS L i : Int) + (L.count (i : Int) : Int)) = (nS L (i + 1) : Int) := by rw [s1, IntKind.wrap_i64]; omega
  have w2 : IntKind.i64.wrap ((L.count (i : Int) : Int) * (L.count (i : Int) : Int)) = ((L.count (i : Int) * L.count (i : Int) : Nat) : Int) := by
   rw [← Int.natCast_mul]; generalize L.count (i : Int) * L.count (i : Int) = z at *; rw [IntKind.wrap_i64]; omega
  have w3 : IntKind.i64.wrap ((sS L i : Int) + ((L.count (i : Int) * L.count (i : Int) : Nat) : Int)) = (sS L (i + 1) : Int) := by rw [s2]; generalize L.count (i : Int) * L.count (i : Int) = z at *; rw [IntKind.wrap_i64]; omega
  have wn : IntKind.i64.wrap ((i : Int) + 1) = ((i + 1 : Nat) : Int) := wi_inc i (by omega)
  try refine RUN ?_
  refine EVL.idxR tO rfl rfl rfl rfl rfl rfl rfl rfl rfl rfl (hL2) (i) (rfl) (hil) ((by rw [List.getElem?_map, hget]; rfl)) ?_
  try refine RUN ?_
  apply EV.drawn 11 (by kernel_rfl) (by kernel_rfl); intro xv yw
  (repeat (first | refine' DV ?_ | refine' DA ?_ | refine' DK0 ?_ | refine' DT ?_ | refine' DS ?_))
  refine' DJ.ofVal (ValOk.idx1 tO rfl rfl rfl rfl rfl rfl rfl rfl (hL2) (i) (rfl) (hil) ((by rw [List.getElem?_map, hget]; rfl))) rfl rfl rfl ?_; rotate_left
  (repeat (first | refine' DV ?_ | refine' DA ?_ | refine' DK0 ?_ | refine' DT ?_ | refine' DS ?_))
  refine' DJ.ofVal (ValOk.idx1 tO rfl rfl rfl rfl rfl rfl rfl rfl (hL2) (i) (rfl) (hil) ((by rw [List.getElem?_map, hget]; rfl))) rfl rfl rfl ?_; rotate_left
  (repeat (first | refine' DV ?_ | refine' DA ?_ | refine' DK0 ?_ | refine' DT ?_ | refine' DS ?_))
  (refine DJ.nil (fun G3 hG3 hF3 => ?_); (case hS => rfl); (case hS2 => rfl))
  try refine RUN ?_
  refine ⟨i + 1, ⟨by rw [← w1]; rfl, by rw [← w3, ← w2]; rfl, by rw [wn]; rfl, trivial⟩, (by repeat (first | exact trivial | refine And.intro rfl ?_)), trivial, (by repeat (first | exact trivial | refine And.intro rfl ?_)), rfl, hlt, hG3, by omega⟩
 ·simp only [nN] at hlt
  obtain rfl : i = C := by omega
  rw [← e1', ← e2']
  have hsq := sqL_le L
  have hsq2 : L.length * L.length ≤ 300 * 300 := Nat.mul_le_mul hll hll
  try refine RUN ?_
  by_cases h0 : L.length = 0
  ·obtain rfl := List.length_eq_zero_iff.1 h0
   try refine RUN ?_
   refine EVL.call rfl rfl rfl rfl rfl (refOf_pc 0 (by decide) (by decide)) ?_
   intro r2 G3 hq hG3
   obtain ⟨xa, xl, xc, ya, yl, yc, rfl, hx1, hx2⟩ := id hq
   try refine RUN ?_
   rw [show costL [] = ((0 : Int) : Rat) by decide +kernel]
   exact hq
  ·rw [show (((L.length : Nat) : Int) == 0) = false from beq_eq_false_iff_ne.2 (by omega)]
   have hov := fun G : Hp => refOver_pc (H := G) (sqL L : Int) (L.length : Int) (by omega) (by omega) (by omega) (by omega) (by omega)
   have hform : ((L.length : Int) : Rat) - Rat.divInt (sqL L : Int) (L.length : Int) = costL L := by unfold costL; rw [Rat.divInt_eq_div]
   have r1 : rq ((L.length : Int) : Rat) := by
    have := ht_int (L.length : Int)
    have h2 : bl (L.length : Int).natAbs ≤ 20 := bl_le (by omega)
    unfold rq; omega
   have r2 : rq (Rat.divInt (sqL L : Int) (L.length : Int)) := by
    rw [Rat.divInt_eq_div]
    have h1 := ht_int (L.length : Int)
    have h2 : bl (L.length : Int).natAbs ≤ 20 := bl_le (by omega)
    have h3 := ht_int (sqL L : Int)
    have h4 : bl (sqL L : Int).natAbs ≤ 20 := bl_le (by omega)
    have h5 := ht_div ((sqL L : Int) : Rat) ((L.length : Int) : Rat)
    unfold rq; omega
   try refine RUN ?_
   refine EVL.call rfl rfl rfl rfl rfl (refOf_pc (L.length : Int) (by omega) (by omega)) ?_
   intro q1 G3 hq1 hG3
   try refine RUN ?_
   refine EVL.call rfl rfl rfl rfl rfl (hov _) ?_
   intro q2 G4 hq2 hG4
   try refine RUN ?_
   refine EVL.call rfl rfl rfl rfl rfl (refSub_pc (hq1.mono hG4) hq2 r1 r2) ?_
   intro q3 G5 hq3 hG5
   obtain ⟨xa, xl, xc, ya, yl, yc, rfl, hx1, hx2⟩ := id hq3
   try refine RUN ?_
   rw [← hform]
   exact hq3
theorem there_pc {H : Hp} {vx : Value} {X : List (List Rat)} (hX : RLL H vx X) (r col : Int) : PC prog 87 #[vx, .int .i64 r, .int .i64 col] H fun u _ => u = .bool (inR X.length r && hasC X col r) := by
 obtain ⟨xa, xc, rfl⟩ := hX.val
 obtain ⟨vs, hvs, hs⟩ := hX
 refine BD func87 ntmps87 ?_
 try refine RUN ?_
 by_cases h1 : r ≥ 0
 ·obtain ⟨R, rfl⟩ := Int.eq_ofNat_of_zero_le h1
  rw [decide_eq_true h1]
  try refine RUN ?_
  by_cases h2 : (R : Int) < (X.length : Int)
  ·rw [decide_eq_true h2]
   have hi : inR X.length (R : Int) = true := by unfold inR; simp; omega
   obtain ⟨x, hx⟩ : ∃ x, X[R]? = some x := ⟨_, List.getElem?_eq_getElem (by omega)⟩
   obtain ⟨a1, e1, hu1, _⟩ := hvs.at hx
   have hRl : R < X.length := by omega
   have hhas : hasC X col (R : Int) = (decide (0 ≤ col) && decide (col < (x.length : Int))) := by
    unfold hasC; rw [Int.toNat_natCast, List.getD_eq_getElem?_getD, hx]; rfl
   rw [hi, hhas]
   try refine RUN ?_
   by_cases h3 : col ≥ 0
   ·rw [decide_eq_true h3]
    try refine RUN ?_
    refine EVL.idxR tO rfl rfl rfl rfl rfl rfl rfl rfl rfl rfl (hs) (R) (rfl) (hRl) (hu1) ?_
    try refine RUN ?_
    rfl
   ·rw [decide_eq_false h3]
    try refine RUN ?_
    rfl
  ·rw [decide_eq_false h2]
   have hi : inR X.length (R : Int) = false := by unfold inR; simp; omega
   rw [hi]
   try refine RUN ?_
   rfl
 ·rw [decide_eq_false h1]
  have hi : inR X.length r = false := by unfold inR; simp; omega
  rw [hi]
  try refine RUN ?_
  rfl
theorem low_snoc {X : List (List Rat)} {col : Int} {t : Rat} {rs : List Int} {i : Nat} {r : Int} (hri : rs[i]? = some r) (p : Int → Bool) :
  (exL (rs.take (i + 1)) X.length).filter p = (exL (rs.take i) X.length).filter p ++ if inR X.length r && p r then [r] else [] := by
 rw [ex_take hri, List.filter_append]
 cases inR X.length r <;> cases hp : p r <;> simp [hp]
set_option maxHeartbeats 8000000 in
theorem refSides_pc {H : Hp} {vx vr vt : Value} {X : List (List Rat)} {rs : List Int} {col : Int} {t : Rat} (hX : RLL H vx X) (hr : IL H vr rs) (hn : rs.length ≤ 100000) (hq : ∀ x, x ∈ X → ∀ q, q ∈ x → rq q) (hvt : RQ H vt t) (ht : rq t) :
  PC prog 38 #[vx, vr, .int .i64 col, vt] H fun r H' => ∃ u w, r = .tuple #[u, w] ∧ IL H' u (lowL X col t (exL rs X.length)) ∧ IL H' w (highL X col t (exL rs X.length)) := by
 obtain ⟨a, cap, rfl⟩ := SlC.val hr
 obtain ⟨xa, xc, rfl⟩ := hX.val
 obtain ⟨ta, tl, tc, tb, tm, td, rfl, ht1, ht2⟩ := id hvt
 refine BD func38 ntmps38 ?_
 try refine RUN ?_
 refine EV.loopK (ι := Nat × Value × Value × Ows × Ows) [0, 1, 2, 7] [7] (fun q => [(10, .v q.2.1), (11, .v q.2.2.1), (12, .v (.int .i64 (q.1 : Int)))]) (fun _ => []) (fun q => q.2.2.2.1 ++ q.2.2.2.2) (fun q _ => q.1 ≤ rs.length ∧ OwnL 3 1 q.2.1 (lowL X col t (exL (rs.take q.1) X.length)).length ((lowL X col t (exL (rs.take q.1) X.length)).map iv) q.2.2.2.1 ∧ OwnL 3 1 q.2.2.1 (highL X col t (exL (rs.take q.1) X.length)).length ((highL X col t (exL (rs.take q.1) X.length)).map iv) q.2.2.2.2) (fun q => rs.length - q.1) ((0, .slice none 0 0, .slice none 0 0, [], [])) rfl rfl ⟨rfl, rfl, rfl, trivial⟩ trivial rfl (fun _ => rfl) (⟨Nat.zero_le _, OwnL.nil _ _, OwnL.nil _ _⟩) ?_
 rintro ⟨i, w1, w2, ow1, ow2⟩ G1 hG1 ⟨hi, hown1, hown2⟩
 dsimp only at hi hown1 hown2
 obtain ⟨wa1, wc1, rfl⟩ := hown1.val
 obtain ⟨wa2, wc2, rfl⟩ := hown2.val
 try refine RUN ?_
 refine EV.cond rfl (fun hlt => ?_) (fun hlt => ?_)
 ·simp only [nN] at hlt
  obtain ⟨r, hri⟩ : ∃ r, rs[i]? = some r := ⟨_, List.getElem?_eq_getElem hlt⟩
  have hlo := low_snoc (X := X) (col := col) (t := t) hri fun r => hasC X col r && decide (colK X col r ≤ t)
  have hhi := low_snoc (X := X) (col := col) (t := t) hri fun r => hasC X col r && !decide (colK X col r ≤ t)
  have hel := exL_len (rs.take i) X.length
  rw [List.length_take] at hel
  have hl1 : (lowL X col t (exL (rs.take i) X.length)).length ≤ i := Nat.le_trans (List.length_filter_le _ _) (by omega)
  have hl2 : (highL X col t (exL (rs.take i) X.length)).length ≤ i := Nat.le_trans (List.length_filter_le _ _) (by omega)
  have wn : IntKind.i64.wrap ((i : Int) + 1) = ((i + 1 : Nat) : Int) := wi_inc i (by omega)
  have hr1 := hr.mono hG1
  have hX1 := hX.mono hG1
  have hth := there_pc hX1 r col
  try refine RUN ?_
  refine EVL.idxR tO rfl rfl rfl rfl rfl rfl rfl rfl rfl rfl (hr1) (i) (rfl) (hlt) ((by rw [List.getElem?_map, hri]; rfl)) ?_
  repeat (first | refine RUN ?_ | refine CV (hth) ?_ | refine CE (hth) ?_)
  cases hb : inR X.length r && hasC X col r with
  | false =>
   have e1 : (inR X.length r && (hasC X col r && decide (colK X col r ≤ t))) = false := by rw [← Bool.and_assoc, hb]; rfl
   have e2 : (inR X.length r && (hasC X col r && !decide (colK X col r ≤ t))) = false := by rw [← Bool.and_assoc, hb]; rfl
   rw [e1, if_neg (by decide), List.append_nil] at hlo
   rw [e2, if_neg (by decide), List.append_nil] at hhi
   try refine RUN ?_
   refine ⟨(i + 1, _, _, ow1, ow2), ⟨rfl, rfl, by rw [wn]; rfl, trivial⟩, (by repeat (first | exact trivial | refine And.intro rfl ?_)), trivial, (by repeat (first | exact trivial | refine And.intro rfl ?_)), rfl, ⟨hlt, by unfold lowL; rw [hlo]; exact hown1, by unfold highL; rw [hhi]; exact hown2⟩, Hp.Le.refl _, by dsimp only; omega⟩
  | true =>
   have hb2 : inR X.length r = true ∧ hasC X col r = true := by simpa using hb
   have hr0 : 0 ≤ r ∧ r < (X.length : Int) := by have := hb2.1; unfold inR at this; simpa using this
   obtain ⟨R, C, x, q, rfl, rfl, hx, hqx⟩ := hasC_at hr0.1 hr0.2 hb2.2
   have hk := colK_at (X := X) rfl rfl hx hqx
   rw [hb2.1, hb2.2, Bool.true_and, Bool.true_and, hk] at hlo hhi
   have hRl : R < X.length := by omega
   have hCl := (List.getElem?_eq_some_iff.1 hqx).1
   obtain ⟨vs, hvs, hs⟩ := hX1
   obtain ⟨a2, c2, hu, hRL⟩ := hvs.at hx
   obtain ⟨us, y, hs2, hc2, hy⟩ := hRL.at hqx
   obtain ⟨xa', xl', xc', ya', yl', yc', rfl, hx1, hx2⟩ := id hy
   have hqq := hq x (List.mem_of_getElem? hx) q (List.mem_of_getElem? hqx)
   have hvt1 := hvt.mono hG1
   try refine RUN ?_
   apply EV.drawn 11 (by kernel_rfl) (by kernel_rfl); intro xv yw
   (repeat (first | refine' DV ?_ | refine' DA ?_ | refine' DK0 ?_ | refine' DT ?_ | refine' DS ?_))
   refine' DJ.ofVal (ValOk.idx1 tO rfl rfl rfl rfl rfl rfl rfl rfl (hr1) (i) (rfl) (hlt) ((by rw [List.getElem?_map, hri]; rfl))) rfl rfl rfl ?_; rotate_left
   (repeat (first | refine' DV ?_ | refine' DA ?_ | refine' DK0 ?_ | refine' DT ?_ | refine' DS ?_))
   refine' DJ.ofVal (ValOk.idx1 tO rfl rfl rfl rfl rfl rfl rfl rfl (hs) (R) (rfl) (hRl) (hu)) rfl rfl rfl ?_; rotate_left
   (repeat (first | refine' DV ?_ | refine' DA ?_ | refine' DK0 ?_ | refine' DT ?_ | refine' DS ?_))
   refine' DJ.idxM tO rfl rfl rfl rfl rfl rfl rfl rfl rfl (hs2) (C) (rfl) (hCl) (hc2) ?_; rotate_left
   (repeat (first | refine' DV ?_ | refine' DA ?_ | refine' DK0 ?_ | refine' DT ?_ | refine' DS ?_))
   (refine DJ.nil (fun G2 hG2 hF2 => ?_); (case hS => rfl); (case hS2 => rfl))
   refine EVL.call rfl rfl rfl rfl rfl (refCmp_pc (hy.mono hG2) (hvt1.mono hG2) hqq ht) ?_
   rintro rc G3 rfl hG3
   have hr3 := hr1.mono (hG2.trans hG3)
   try refine RUN ?_
   by_cases hle : q ≤ t
   ·have ho : ordR q t ≤ 0 := ordQ_le hle
    rw [decide_eq_true hle, if_pos rfl] at hlo
    rw [decide_eq_true hle, if_neg (by decide), List.append_nil] at hhi
    rw [decide_eq_true ho]
    try refine RUN ?_
    refine EVL.idxR tO rfl rfl rfl rfl rfl rfl rfl rfl rfl rfl (hr3) (i) (rfl) (hlt) ((by rw [List.getElem?_map, hri]; rfl)) ?_
    try refine RUN ?_
    refine EVL.app1 tO rfl rfl rfl rfl rfl rfl rfl rfl rfl rfl rfl rfl rfl rfl rfl rfl rfl rfl rfl (fun _ => rfl) (ow1) (ow2) (rfl) (hown1) (by omega) fun _ => ?_
    intro v' ow' hown'
    try refine RUN ?_
    refine ⟨(i + 1, v', _, ow', ow2), ⟨rfl, rfl, by rw [wn]; rfl, trivial⟩, (by repeat (first | exact trivial | refine And.intro rfl ?_)), trivial, (by repeat (first | exact trivial | refine And.intro rfl ?_)), rfl, ⟨hlt, by unfold lowL; rw [hlo]; exact hown'.il, by unfold highL; rw [hhi]; exact hown2⟩, hG2.trans hG3, by dsimp only; omega⟩
   ·have ho : ¬ ordR q t ≤ 0 := by
     have := Rat.not_le.1 hle
     unfold ordR
     rw [if_neg (fun k => absurd (Rat.le_of_lt k) (Rat.not_le.2 this)), if_pos this]; omega
    rw [decide_eq_false hle, if_neg (by decide), List.append_nil] at hlo
    rw [decide_eq_false hle, Bool.not_false, if_pos rfl] at hhi
    rw [decide_eq_false ho]
    try refine RUN ?_
    refine EVL.idxR tO rfl rfl rfl rfl rfl rfl rfl rfl rfl rfl (hr3) (i) (rfl) (hlt) ((by rw [List.getElem?_map, hri]; rfl)) ?_
    try refine RUN ?_
    refine EVL.swapOw ow1 ow2 rfl ?_
    refine EVL.app1 tO rfl rfl rfl rfl rfl rfl rfl rfl rfl rfl rfl rfl rfl rfl rfl rfl rfl rfl rfl (fun _ => rfl) (ow2) (ow1) (rfl) (hown2) (by omega) fun _ => ?_
    intro v' ow' hown'
    refine EVL.swapOw ow' ow1 rfl ?_
    try refine RUN ?_
    refine ⟨(i + 1, _, v', ow1, ow'), ⟨rfl, rfl, by rw [wn]; rfl, trivial⟩, (by repeat (first | exact trivial | refine And.intro rfl ?_)), trivial, (by repeat (first | exact trivial | refine And.intro rfl ?_)), rfl, ⟨hlt, by unfold lowL; rw [hlo]; exact hown1, by unfold highL; rw [hhi]; exact hown'.il⟩, hG2.trans hG3, by dsimp only; omega⟩
 ·simp only [nN] at hlt
  obtain rfl : i = rs.length := by omega
  rw [List.take_length] at hown1 hown2 ⊢
  (first | refine EVL.publishL [] ow1 ow2 (rfl) hown1 fun G2 hG2 hs2 => ?_ | refine EV.publishL [] ow1 ow2 (rfl) hown1 fun G2 hG2 hs2 => ?_)
  (first | refine EVL.publishL [] ow2 [] ((List.append_nil _).symm) hown2 fun G3 hG3 hs3 => ?_ | refine EV.publishL [] ow2 [] ((List.append_nil _).symm) hown2 fun G3 hG3 hs3 => ?_)
  try refine RUN ?_
  exact ⟨_, _, rfl, hs2.mono hG3, hs3⟩
theorem fill_all (size : Nat) : ∀ (vs : List Value) (k : Nat) (pre zs : List Value), (∀ v, v ∈ vs → (vlist v).length = size) → pre.length = k * size → zs.length = vs.length * size →
  Instr.fill (fun i => some (i * size, size)) (pre ++ zs).toArray ((List.range' k vs.length).zip vs) = some (pre ++ vs.flatMap vlist).toArray
 | [], k, pre, zs, _, _, hz => by
  obtain rfl : zs = [] := List.eq_nil_of_length_eq_zero (by simpa using hz)
  rfl
 | v :: vs, k, pre, zs, hv, hp, hz => by
  have hlen := hv v (List.mem_cons_self ..)
  rw [List.length_cons, Nat.succ_mul] at hz
  rw [List.length_cons, List.range'_succ, List.zip_cons_cons]
  unfold Instr.fill
  simp only [vlist_cells]
  rw [if_neg (by simp [hlen]; omega)]
  have := fold_set (vlist v) (pre ++ zs) (k * size) 0 (by rw [List.length_append, hlen]; omega)
  rw [Nat.add_zero] at this
  have e : ((vlist v).toArray.zipIdx.foldl (fun (cs : Array Value) (x : Value × Nat) => match x with | (c, j) => cs.setIfInBounds (k * size + j) c) (pre ++ zs).toArray) = ((vlist v).zipIdx.foldl (fun (c : Array Value) (p : Value × Nat) => c.setIfInBounds (k * size + p.2) p.1) (pre ++ zs).toArray) := by
   simp
  rw [e, this, List.take_left' hp, hlen, ← hp, ← List.drop_drop, List.drop_left, List.flatMap_cons, ← List.append_assoc]
  have ih := fill_all size vs (k + 1) (pre ++ vlist v) (zs.drop size) (fun u hu => hv u (List.mem_cons_of_mem _ hu)) (by rw [List.length_append, hp, hlen, Nat.succ_mul]) (by rw [List.length_drop]; omega)
  exact ih
def ixB : List (Nat × Operand) → Nat → Nat → Bool
 | [], _, 0 => true
 | p :: ps, k, n + 1 => match Nat.beq p.1 k with
  | true => ixB ps (k + 1) n
  | false => false
 | _, _, _ => false
theorem ixB_spec : ∀ (ps : List (Nat × Operand)) (k n : Nat), ixB ps k n = true → ps.map (·.1) = List.range' k n
 | [], k, 0, _ => rfl
 | p :: ps, k, n + 1, h => by
  unfold ixB at h
  split at h
  ·rename_i e
   rw [List.map_cons, List.range'_succ, ixB_spec ps (k + 1) n h, Nat.eq_of_beq_eq_true e]
  ·cases h
 | [], k, n + 1, h => by cases h
 | p :: ps, k, 0, h => by cases h
section
variable {P : Program} {n : Nat} {ops : Array Oper} {o : Oper} {rest : List Oper} {env : Env} {bx : Bxs} {sb : Bxs} {ow : Ows} {H : Hs} {Q : EQ} {τ : Tab} {d : Nat} {s : SV}
theorem DJ.litD {tail l : List Oper} {x : Nat → Value} {y : Nat → Ows} {ow' : Ows} {kl ks : List DK} {i : Nat} {bx' : Bxs} {Γ : Fcts} (hτ : TabOk P τ) {T : TypeId} {len : Nat} {parts : Array (Nat × Operand)} (ho : o.op = .buildSlice T len parts) (hw : wantB ops env o = some true) (hd : o.dst = some d) (hn : Nat.blt d n = true) {te te' : TE} {e : TypeId} (ht : τ.get T = some te) (hk : te.kind = .slice e) (ht' : τ.get e = some te')
  (hsz : Nat.beq te'.zero.length te'.size = true) (hpos : Nat.ble 1 (len * te'.size) = true) (hsm : Nat.ble (len * te'.size) 10000 = true) {vs : List Value} (ha : argsK env (parts.toList.map (·.2)) some = some vs) (hix' : ixB parts.toList 0 len = true) (hv : ∀ G, DepF ops i Γ G → ∀ v, v ∈ vs → (vlist v).length = te'.size)
  {Φ : Value → Hp → Prop} (hm : ∀ v G G', Φ v G → G.Le G' → Φ v G') (hΦ : ∀ G G' v, DepF ops i Γ G → G.Le G' → SlC G' v len te'.size (vs.flatMap vlist) → Φ v G')
  (h : DJ P n ops tail sb bx H Q x y kl (i + 1) l ks ((d, .v (x i)) :: env) bx' ((i, Φ (x i)) :: Γ) ow') : DJ P n ops tail sb bx H Q x y kl i (o :: l) (.call Φ :: ks) env bx' Γ ow' := by
 have hix : parts.toList.map (·.1) = List.range' 0 len := ixB_spec _ _ _ hix'
 have hkd := (hτ.get ht).kind
 rw [hk] at hkd
 have hkd' : P.underlying T = some (.slice e) := hkd
 obtain ⟨zv, hinfo, hzc⟩ := (hτ.get ht').info
 obtain ⟨i0, hi, hz0, hz1, hz2⟩ := info_parts hinfo
 have hl := Nat.eq_of_beq_eq_true hsz
 have hp := Nat.le_of_ble_eq_true hpos
 have hm' := Nat.le_of_ble_eq_true hsm
 refine DJ.ofCall (fun β a W G hle hf _ hb _ hs hF => ?_) hd hn hm h
 rw [if_pos (hs.want hw)]
 have hvv := hv G hF
 obtain ⟨vs', e1, h2⟩ := argsK_vals ha
 cases e1
 have h3 := h2 a.eval fun y u hy he => hs.op (s := .v u) (by rw [ho]; simpa [Op.operands] using hy) he
 have hvl : vs.length = len := by
  have e1 := congrArg List.length h3
  have e2 := congrArg List.length hix
  simp at e1 e2
  omega
 have hfl : (vs.flatMap vlist).length = len * te'.size := by rw [flat_len vlist te'.size vs hvv, hvl]
 have h4 : ((parts.map fun (i, x) => (i, a.eval x)) : Array (Nat × Value)).toList = (List.range' 0 vs.length).zip vs := by
  rw [hvl, ← hix, ← h3, Array.toList_map]
  generalize parts.toList = l
  induction l with
  | nil => rfl
  | cons p l ih => simp only [List.map_cons, List.zip_cons_cons, ih]
 have hfill := fill_all te'.size vs 0 [] ((List.replicate len te'.zero).flatten) hvv (by simp) (by rw [List.length_flatten]; simp [hl, hvl])
 rw [List.nil_append, List.nil_append, ← h4] at hfill
 have hrun := run_buildSlice (P := P) W T e len (parts.map fun (i, x) => (i, a.eval x)) (vs.flatMap vlist).toArray i0 zv hkd' hi hz0 (by rw [hz1]; omega) (by rw [hz1]; omega) (by
  rw [hz1, hzc, made_flat te'.zero te'.size len hl, ← hfill])
 have hB : Below W.heap.size W (W.alloc (.cells (vs.flatMap vlist).toArray e)) := (Below.refl _ _).alloc (Nat.le_refl _) _
 obtain ⟨k1, k2, k3⟩ := newBlk hf hB (Box.new W (vs.flatMap vlist).toArray e)
 have hr : (execOp a.eval o).run P W = .ok (.value (.slice (some ⟨W.heap.size, 0, none⟩) len len)) (W.alloc (.cells (vs.flatMap vlist).toArray e)) := by
  unfold execOp
  simp only [ho, Sem.run_bind, hrun, Result.andThen_ok, Sem.run_pure]
 unfold Oper.wp
 rw [hr, Oper.upon_value]
 exact ⟨_, _, rfl, hΦ G _ _ hF k1 ⟨hfl, .inr ⟨W.heap.size, 0, len, (vs.flatMap vlist).toArray, rfl, Nat.le_refl _, by simp [Hp.put], fun j x hj => by rw [Nat.zero_add]; simpa using hj⟩⟩, k1, k2, hB, k3⟩
theorem DJ.litD1 {tail l : List Oper} {x : Nat → Value} {y : Nat → Ows} {ow' : Ows} {kl ks : List DK} {i : Nat} {bx' : Bxs} {Γ : Fcts} {Φ : Value → Hp → Prop} (hm : ∀ v G G', Φ v G → G.Le G' → Φ v G') (hτ : TabOk P τ) {T : TypeId} {u : Operand} (ho : o.op = .buildSlice T 1 #[(0, u)]) (hw : wantB ops env o = some true) (hd : o.dst = some d) (hn : Nat.blt d n = true) {te te' : TE} {e : TypeId} (ht : τ.get T = some te) (hk : te.kind = .slice e) (ht' : τ.get e = some te')
  (hsz : Nat.beq te'.zero.length te'.size = true) (hpos : Nat.ble 1 (1 * te'.size) = true) (hsm : Nat.ble (1 * te'.size) 10000 = true) {v : Value} (hx : env.op u = some (.v v)) (hv : ∀ G, DepF ops i Γ G → (vlist v).length = te'.size)
  (hΦ : ∀ G G' w, DepF ops i Γ G → G.Le G' → SlC G' w 1 te'.size ([v].flatMap vlist) → Φ w G')
  (h : DJ P n ops tail sb bx H Q x y kl (i + 1) l ks ((d, .v (x i)) :: env) bx' ((i, Φ (x i)) :: Γ) ow') : DJ P n ops tail sb bx H Q x y kl i (o :: l) (.call Φ :: ks) env bx' Γ ow' :=
 DJ.litD hτ ho hw hd hn ht hk ht' hsz hpos hsm (vs := [v]) (by show argsK env [u] some = _; simp [argsK, hx]) rfl (fun G hd w hm => by rw [List.mem_singleton.1 hm]; exact hv G hd) hm hΦ h
theorem DJ.litD3 {tail l : List Oper} {x : Nat → Value} {y : Nat → Ows} {ow' : Ows} {kl ks : List DK} {i : Nat} {bx' : Bxs} {Γ : Fcts} {Φ : Value → Hp → Prop} (hm : ∀ v G G', Φ v G → G.Le G' → Φ v G') (hτ : TabOk P τ) {T : TypeId} {u1 u2 u3 : Operand} (ho : o.op = .buildSlice T 3 #[(0, u1), (1, u2), (2, u3)]) (hw : wantB ops env o = some true) (hd : o.dst = some d) (hn : Nat.blt d n = true) {te te' : TE} {e : TypeId} (ht : τ.get T = some te) (hk : te.kind = .slice e) (ht' : τ.get e = some te')
  (hsz : Nat.beq te'.zero.length te'.size = true) (hpos : Nat.ble 1 (3 * te'.size) = true) (hsm : Nat.ble (3 * te'.size) 10000 = true) {v1 v2 v3 : Value} (hx1 : env.op u1 = some (.v v1)) (hx2 : env.op u2 = some (.v v2)) (hx3 : env.op u3 = some (.v v3))
  (hv : ∀ G, DepF ops i Γ G → ∀ w, w ∈ [v1, v2, v3] → (vlist w).length = te'.size) (hΦ : ∀ G G' w, DepF ops i Γ G → G.Le G' → SlC G' w 3 te'.size ([v1, v2, v3].flatMap vlist) → Φ w G')
  (h : DJ P n ops tail sb bx H Q x y kl (i + 1) l ks ((d, .v (x i)) :: env) bx' ((i, Φ (x i)) :: Γ) ow') : DJ P n ops tail sb bx H Q x y kl i (o :: l) (.call Φ :: ks) env bx' Γ ow' :=
 DJ.litD hτ ho hw hd hn ht hk ht' hsz hpos hsm (vs := [v1, v2, v3]) (by show argsK env [u1, u2, u3] some = _; simp [argsK, hx1, hx2, hx3]) rfl hv hm hΦ h
end
theorem RQ.len3 {H : Hp} {x : Value} {q : Rat} (h : RQ H x q) : (vlist x).length = 3 := by
 obtain ⟨xa, xl, xc, ya, yl, yc, rfl, hx1, hx2⟩ := h
 rfl
theorem RL.one {H : Hp} {v x : Value} {q : Rat} (h : SlC H v 1 3 ([x].flatMap vlist)) (hx : RQ H x q) : RL H v [q] :=
 ⟨[x], rfl, fun j y r e1 e2 => by
  cases j with
  | zero => cases e1; cases e2; exact hx
  | succ j => simp at e1, h⟩
def gapsV (V : List Rat) : Nat → List Rat
 | 0 => []
 | j + 1 => gapsV V j ++ if V.getD j 0 < V.getD (j + 1) 0 then [(V.getD j 0 + V.getD (j + 1) 0) / 2] else []
theorem gapsV_len (V : List Rat) : ∀ j, (gapsV V j).length ≤ j
 | 0 => Nat.le_refl _
 | j + 1 => by
  have := gapsV_len V j
  unfold gapsV
  rw [List.length_append]
  split
  ·rw [List.length_singleton]; omega
  ·rw [List.length_nil]; omega
theorem gapsN_V (key : Int → Rat) (m : List Int) : ∀ j, j ≤ m.length - 1 → gapsN key m j = gapsV (m.map key) j
 | 0, _ => rfl
 | j + 1, h => by
  have g : ∀ i, i < m.length → (m.map key).getD i 0 = key (m.getD i 0) := fun i hi => by simp [List.getD_eq_getElem?_getD, hi]
  unfold gapsN gapsV midC
  rw [gapsN_V key m j (by omega), g j (by omega), g (j + 1) (by omega)]
def plQ (X : List (List Rat)) (col : Int) (es : List Int) : List Rat := if es.all (hasC X col) = true then gapsV (sortQ (es.map (colK X col))) (es.length - 1) else []
theorem plQ_sort {X : List (List Rat)} {col : Int} {es m : List Int} (h : SortC X col es m) : gapsN (colK X col) m (m.length - 1) = plQ X col es := by
 unfold plQ
 rcases h with ⟨ha, hp, hr⟩ | ⟨ha, rfl⟩
 ·rw [if_pos ha, gapsN_V _ _ _ (Nat.le_refl _), hp.length_eq, sortQ_one (hp.map _) hr]
 ·rw [if_neg (by rw [ha]; decide)]; rfl
theorem sortQ_get {V : List Rat} {j : Nat} (h : j + 1 < (sortQ V).length) : (sortQ V).getD j 0 ≤ (sortQ V).getD (j + 1) 0 := by
 have := (List.pairwise_iff_getElem.1 (sortQ_rising V)) j (j + 1) (by omega) h (by omega)
 rw [List.getD_eq_getElem?_getD, List.getD_eq_getElem?_getD, List.getElem?_eq_getElem (by omega), List.getElem?_eq_getElem h]
 exact this
set_option maxHeartbeats 8000000 in
theorem refPlaces_pc {H : Hp} {vx vr : Value} {X : List (List Rat)} {rs : List Int} {col : Int} (hX : RLL H vx X) (hr : IL H vr rs) (hn : rs.length ≤ 300) (hq : ∀ x, x ∈ X → ∀ q, q ∈ x → ht q ≤ 5) :
  PC prog 41 #[vx, vr, .int .i64 col] H fun r H' => RL H' r (plQ X col (exL rs X.length)) := by
 obtain ⟨a, cap, rfl⟩ := SlC.val hr
 obtain ⟨xa, xc, rfl⟩ := hX.val
 refine BD func41 ntmps41 ?_
 try refine RUN ?_
 refine EV.loopK (ι := Nat × List Value × Value × Ows) [0, 1, 2] [] (fun q => [(7, .v q.2.2.1), (8, .v (.int .i64 (q.1 : Int)))]) (fun _ => []) (fun q => q.2.2.2) (fun q G => q.1 ≤ rs.length ∧ (exL (rs.take q.1) X.length).all (hasC X col) = true ∧ RVs G q.2.1 ((exL (rs.take q.1) X.length).map (colK X col)) ∧ OwnL 78 3 q.2.2.1 q.2.1.length (q.2.1.flatMap vlist) q.2.2.2) (fun q => rs.length - q.1) ((0, [], .slice none 0 0, [])) rfl rfl ⟨rfl, rfl, trivial⟩ trivial rfl (fun _ => rfl) (⟨Nat.zero_le _, rfl, RVs.nil _, OwnL.nil _ _⟩) ?_
 rintro ⟨i, us, w, ow⟩ G2 hG2 ⟨hi, hall, hus, hown⟩
 dsimp only at hi hall hus hown
 obtain ⟨wa, wc, rfl⟩ := hown.val
 try refine RUN ?_
 refine EV.cond rfl (fun hlt => ?_) (fun hlt => ?_)
 ·simp only [nN] at hlt
  obtain ⟨r, hri⟩ : ∃ r, rs[i]? = some r := ⟨_, List.getElem?_eq_getElem hlt⟩
  have hex := ex_take (n := X.length) hri
  have hel := exL_len (rs.take i) X.length
  rw [List.length_take] at hel
  have hul : us.length ≤ i := by rw [hus.1, List.length_map]; omega
  have wn : IntKind.i64.wrap ((i : Int) + 1) = ((i + 1 : Nat) : Int) := wi_inc i (by omega)
  have hr2 := hr.mono hG2
  have hX2 := hX.mono hG2
  have hth := there_pc hX2 r col
  try refine RUN ?_
  refine EVL.idxR tO rfl rfl rfl rfl rfl rfl rfl rfl rfl rfl (hr2) (i) (rfl) (hlt) ((by rw [List.getElem?_map, hri]; rfl)) ?_
  try refine RUN ?_
  by_cases h1 : r < 0
  ·have hp : inR X.length r = false := by unfold inR; simp; omega
   rw [hp, if_neg (by decide), List.append_nil] at hex
   rw [decide_eq_true h1]
   try refine RUN ?_
   refine ⟨(i + 1, us, _, ow), ⟨rfl, by rw [wn]; rfl, trivial⟩, (by repeat (first | exact trivial | refine And.intro rfl ?_)), trivial, trivial, rfl, ⟨hlt, by dsimp only; rw [hex]; exact hall, by dsimp only; rw [hex]; exact hus, hown⟩, Hp.Le.refl _, by dsimp only; omega⟩
  ·obtain ⟨R, rfl⟩ := Int.eq_ofNat_of_zero_le (show 0 ≤ r by omega)
   rw [decide_eq_false h1]
   try refine RUN ?_
   refine EVL.idxR tO rfl rfl rfl rfl rfl rfl rfl rfl rfl rfl (hr2) (i) (rfl) (hlt) ((by rw [List.getElem?_map, hri]; rfl)) ?_
   try refine RUN ?_
   by_cases h2 : (R : Int) ≥ (X.length : Int)
   ·have hp : inR X.length (R : Int) = false := by unfold inR; simp; omega
    rw [hp, if_neg (by decide), List.append_nil] at hex
    rw [decide_eq_true h2]
    try refine RUN ?_
    refine ⟨(i + 1, us, _, ow), ⟨rfl, by rw [wn]; rfl, trivial⟩, (by repeat (first | exact trivial | refine And.intro rfl ?_)), trivial, trivial, rfl, ⟨hlt, by dsimp only; rw [hex]; exact hall, by dsimp only; rw [hex]; exact hus, hown⟩, Hp.Le.refl _, by dsimp only; omega⟩
   ·have hp : inR X.length (R : Int) = true := by unfold inR; simp; omega
    rw [hp, Bool.true_and] at hth
    rw [hp, if_pos rfl] at hex
    rw [decide_eq_false h2]
    try refine RUN ?_
    refine EVL.idxR tO rfl rfl rfl rfl rfl rfl rfl rfl rfl rfl (hr2) (i) (rfl) (hlt) ((by rw [List.getElem?_map, hri]; rfl)) ?_
    repeat (first | refine RUN ?_ | refine CV (hth) ?_ | refine CE (hth) ?_)
    cases hb : hasC X col (R : Int) with
    | false =>
     have hno : (exL rs X.length).all (hasC X col) = false := by
      rw [List.all_eq_false]
      refine ⟨(R : Int), ?_, by rw [hb]; decide⟩
      unfold exL
      exact List.mem_filter.2 ⟨List.mem_of_getElem? hri, hp⟩
     try refine RUN ?_
     unfold plQ
     rw [if_neg (by rw [hno]; decide)]
     exact RL.nil _ _ _
    | true =>
     obtain ⟨R', C, x, q, hRR, rfl, hx, hqx⟩ := hasC_at (show 0 ≤ (R : Int) by omega) (show (R : Int) < (X.length : Int) by omega) hb
     obtain rfl : R = R' := by omega
     have hk := colK_at (X := X) rfl rfl hx hqx
     have hRl : R < X.length := by omega
     have hCl := (List.getElem?_eq_some_iff.1 hqx).1
     obtain ⟨vs, hvs, hs⟩ := hX2
     obtain ⟨a2, c2, hu, hRL⟩ := hvs.at hx
     obtain ⟨us2, y, hs2, hc2, hy⟩ := hRL.at hqx
     obtain ⟨xa', xl', xc', ya', yl', yc', rfl, hx1, hx2⟩ := id hy
     try refine RUN ?_
     refine EVL.idxR tO rfl rfl rfl rfl rfl rfl rfl rfl rfl rfl (hr2) (i) (rfl) (hlt) ((by rw [List.getElem?_map, hri]; rfl)) ?_
     try refine RUN ?_
     refine EVL.idxR tO rfl rfl rfl rfl rfl rfl rfl rfl rfl rfl (hs) (R) (rfl) (hRl) (hu) ?_
     try refine RUN ?_
     refine EVL.idxM tO rfl rfl rfl rfl rfl rfl rfl rfl rfl (hs2) (C) (rfl) (hCl) (hc2) ?_
     try refine RUN ?_
     refine EVL.app1 tO rfl rfl rfl rfl rfl rfl rfl rfl rfl rfl rfl rfl rfl rfl rfl rfl rfl rfl rfl (fun _ => rfl) (ow) ([]) ((List.append_nil _).symm) (hown) (by omega) fun _ => ?_
     intro v' ow' hown'
     try refine RUN ?_
     refine ⟨(i + 1, us ++ [_], v', ow'), ⟨rfl, by rw [wn]; rfl, trivial⟩, (by repeat (first | exact trivial | refine And.intro rfl ?_)), trivial, trivial, List.append_nil _, ⟨hlt, by dsimp only; rw [hex, List.all_append, hall]; simp [hb], by dsimp only; rw [hex, List.map_append, List.map_cons, hk]; exact hus.snoc hy, by dsimp only; rw [List.length_append, List.flatMap_append]; exact hown'⟩, Hp.Le.refl _, by dsimp only; omega⟩
 ·simp only [nN] at hlt
  obtain rfl : i = rs.length := by omega
  rw [List.take_length] at hus hall
  have hel := exL_len rs X.length
  (first | refine EVL.publishL [] ow [] ((List.append_nil _).symm) hown fun G3 hG3 hs3 => ?_ | refine EV.publishL [] ow [] ((List.append_nil _).symm) hown fun G3 hG3 hs3 => ?_)
  have hus3 := hus.mono hG3
  have hRL : RL G3 (.slice wa us.length wc) ((exL rs X.length).map (colK X col)) := by
   rw [hus3.1] at hs3 ⊢
   exact hus3.rl hs3
  have hpl : plQ X col (exL rs X.length) = gapsV (sortQ ((exL rs X.length).map (colK X col))) ((exL rs X.length).length - 1) := by unfold plQ; rw [if_pos hall]
  rw [hpl]
  have hkb : ∀ q, q ∈ (exL rs X.length).map (colK X col) → ht q ≤ 5 := fun q hm => by
   obtain ⟨r, _, rfl⟩ := List.mem_map.1 hm
   exact colK_ht hq col r
  have hvl : ((exL rs X.length).map (colK X col)).length = (exL rs X.length).length := List.length_map ..
  rw [← hvl]
  generalize (exL rs X.length).map (colK X col) = vals at *
  have hsl : (sortQ vals).length = vals.length := (sortQ_perm vals).length_eq
  have hsb : ∀ q, q ∈ sortQ vals → ht q ≤ 5 := fun q hm => hkb q ((sortQ_perm vals).mem_iff.1 hm)
  have hris := fun (j : Nat) (h : j + 1 < (sortQ vals).length) => sortQ_get h
  try refine RUN ?_
  refine EVL.call rfl rfl rfl rfl rfl (refSort_pc hRL (by omega) (fun q hm => Nat.le_trans (hkb q hm) (by omega))) ?_
  intro r5 G4 hV hG4
  rw [← hsl]
  generalize sortQ vals = V at *
  obtain ⟨va, vc, rfl⟩ := hV.val
  have h2h : ht ((2 : Int) : Rat) ≤ 10 := by
   have := ht_int 2
   have h2 : bl (2 : Int).natAbs ≤ 5 := bl_le (by decide)
   omega
  have hrq : ∀ q, ht q ≤ 30 → rq q := fun q h => Nat.le_trans h (by omega)
  try refine RUN ?_
  refine EV.loopK (ι := Nat × List Value × Value × Ows) [7] [] (fun q => [(9, .v q.2.2.1), (10, .v (.int .i64 ((q.1 + 1 : Nat) : Int)))]) (fun _ => []) (fun q => q.2.2.2) (fun q G => q.1 ≤ V.length - 1 ∧ RVs G q.2.1 (gapsV V q.1) ∧ OwnL 78 3 q.2.2.1 q.2.1.length (q.2.1.flatMap vlist) q.2.2.2) (fun q => V.length - q.1) ((0, [], .slice none 0 0, [])) rfl rfl ⟨rfl, rfl, trivial⟩ trivial rfl (fun _ => rfl) (⟨Nat.zero_le _, RVs.nil _, OwnL.nil _ _⟩) ?_
  rintro ⟨j, ps, u, ow2⟩ G5 hG5 ⟨hj, hps, hown2⟩
  dsimp only at hj hps hown2
  obtain ⟨ua, uc, rfl⟩ := hown2.val
  try refine RUN ?_
  refine EV.cond rfl (fun hlj => ?_) (fun hlj => ?_)
  ·simp only [nN] at hlj
   have hjl : j < V.length := by omega
   have ha : V[j]? = some (V.getD j 0) := by rw [List.getD_eq_getElem?_getD, List.getElem?_eq_getElem hjl]; rfl
   have hb : V[j + 1]? = some (V.getD (j + 1) 0) := by rw [List.getD_eq_getElem?_getD, List.getElem?_eq_getElem hlj]; rfl
   have hle := hris j hlj
   have hah := hsb _ (List.mem_of_getElem? ha)
   have hbh := hsb _ (List.mem_of_getElem? hb)
   have hgs : gapsV V (j + 1) = gapsV V j ++ if V.getD j 0 < V.getD (j + 1) 0 then [(V.getD j 0 + V.getD (j + 1) 0) / 2] else [] := rfl
   have hpl := hps.1
   have hgl := gapsV_len V j
   generalize V.getD j 0 = p at *
   generalize V.getD (j + 1) 0 = q at *
   have hab := ht_add p q
   have wj : IntKind.i64.wrap (((j + 1 : Nat) : Int) - 1) = (j : Int) := by rw [IntKind.wrap_i64]; omega
   have wn : IntKind.i64.wrap (((j + 1 : Nat) : Int) + 1) = ((j + 1 + 1 : Nat) : Int) := wi_inc (j + 1) (by omega)
   obtain ⟨vs1, y1, hs1, hc1, hy1⟩ := (hV.mono hG5).at ha
   obtain ⟨vs2, y2, hs2, hc2, hy2⟩ := (hV.mono hG5).at hb
   obtain ⟨xa1, xl1, xc1, ya1, yl1, yc1, rfl, hx11, hx12⟩ := id hy1
   obtain ⟨xa2, xl2, xc2, ya2, yl2, yc2, rfl, hx21, hx22⟩ := id hy2
   try refine RUN ?_
   apply EV.drawn 9 (by kernel_rfl) (by kernel_rfl); intro xv yw
   (repeat (first | refine' DV ?_ | refine' DA ?_ | refine' DK0 ?_ | refine' DT ?_ | refine' DS ?_))
   refine' DJ.idxM tO rfl rfl rfl rfl rfl rfl rfl rfl rfl (hs1) (j) (wj) (hjl) (hc1) ?_; rotate_left
   (repeat (first | refine' DV ?_ | refine' DA ?_ | refine' DK0 ?_ | refine' DT ?_ | refine' DS ?_))
   refine' DJ.idxM tO rfl rfl rfl rfl rfl rfl rfl rfl rfl (hs2) (j + 1) (rfl) (hlj) (hc2) ?_; rotate_left
   (repeat (first | refine' DV ?_ | refine' DA ?_ | refine' DK0 ?_ | refine' DT ?_ | refine' DS ?_))
   (refine DJ.nil (fun G6 hG6 hF6 => ?_); (case hS => rfl); (case hS2 => rfl))
   refine EVL.call rfl rfl rfl rfl rfl (refCmp_pc (hy1.mono hG6) (hy2.mono hG6) (hrq _ (by omega)) (hrq _ (by omega))) ?_
   rintro rc G7 rfl hG7
   by_cases hlt3 : p < q
   ·rw [if_pos hlt3] at hgs
    have ho : (ordR p q != 0) = true := by
     unfold ordR; rw [if_pos hlt3]; rfl
    try refine RUN ?_
    rw [ho]
    try refine RUN ?_
    apply EV.drawn 14 (by kernel_rfl) (by kernel_rfl); intro xv yw
    (repeat (first | refine' DV ?_ | refine' DA ?_ | refine' DK0 ?_ | refine' DT ?_ | refine' DS ?_))
    refine' DJ.idxM tO rfl rfl rfl rfl rfl rfl rfl rfl rfl ((hs1.mono (hG6.trans hG7))) (j) (wj) (hjl) (hc1) ?_; rotate_left
    (repeat (first | refine' DV ?_ | refine' DA ?_ | refine' DK0 ?_ | refine' DT ?_ | refine' DS ?_))
    refine' DJ.idxM tO rfl rfl rfl rfl rfl rfl rfl rfl rfl ((hs2.mono (hG6.trans hG7))) (j + 1) (rfl) (hlj) (hc2) ?_; rotate_left
    (repeat (first | refine' DV ?_ | refine' DA ?_ | refine' DK0 ?_ | refine' DT ?_ | refine' DS ?_))
    refine' DJ.call rfl rfl rfl rfl rfl (cO func90) (fun G hG hd => refAdd_pc (hy1.mono ((hG6.trans hG7).trans hG)) (hy2.mono ((hG6.trans hG7).trans hG)) (hrq _ (by omega)) (hrq _ (by omega))) (fun _ _ _ h k => RQ.mono h k) ?_; rotate_left
    refine' DJ.call rfl rfl rfl rfl rfl (cO func45) (fun G hG hd => refOf_pc 2 (by decide) (by decide)) (fun _ _ _ h k => RQ.mono h k) ?_; rotate_left
    refine' DJ.call rfl rfl rfl rfl rfl (cO func85) (fun G hG hd => refDivQ_pc (hd.tail.head (by kernel_rfl)) (hd.head (by kernel_rfl)) (hrq _ (by omega)) (hrq _ (by omega)) (by decide)) (fun _ _ _ h k => RQ.mono h k) ?_; rotate_left
    (refine' DJ.litD1 (Φ := fun w G => RL G w [(p + q) / ((2 : Int) : Rat)]) (fun _ _ _ h k => h.mono k) tO rfl rfl rfl rfl rfl rfl rfl rfl rfl rfl rfl (fun G hd => RQ.len3 (hd.head (by kernel_rfl))) (fun G G' w hd hG h => RL.one h ((hd.head (by kernel_rfl)).mono hG)) ?_; rotate_left)
    (refine DJ.nil (fun G8 hG8 hF8 => ?_); (case hS => rfl); (case hS2 => rfl))
    obtain ⟨vs3, hl3, hv3, hs3'⟩ := hF8.1
    obtain ⟨y3, rfl⟩ : ∃ y, vs3 = [y] := by
     match vs3, hl3 with
     | [y], _ => exact ⟨y, rfl⟩
    have hy3 := hv3 0 y3 _ rfl rfl
    obtain ⟨xa3, xl3, xc3, ya3, yl3, yc3, rfl, hx31, hx32⟩ := id hy3
    refine EVL.append tO rfl rfl rfl rfl rfl rfl rfl rfl rfl rfl rfl rfl [] ow2 [] (List.append_nil _).symm hown2 (SrcAt.ro hs3' (Nat.succ_pos 0)) rfl (by simp; omega) ?_
    intro v1 ow1 hown1
    try refine RUN ?_
    refine ⟨(j + 1, ps ++ [_], v1, ow1), ⟨rfl, by rw [wn]; rfl, trivial⟩, (by repeat (first | exact trivial | refine And.intro rfl ?_)), trivial, trivial, List.append_nil _, ⟨by dsimp only; omega, by dsimp only; rw [hgs]; exact (hps.mono (hG6.trans (hG7.trans hG8))).snoc hy3, by dsimp only; rw [List.length_append, List.flatMap_append]; exact hown1⟩, hG6.trans (hG7.trans hG8), by dsimp only; omega⟩
   ·rw [if_neg hlt3, List.append_nil] at hgs
    have hpq : p = q := Rat.le_antisymm hle (Rat.not_lt.1 hlt3)
    have ho : (ordR p q != 0) = false := by
     rw [hpq, ordR_self]; rfl
    try refine RUN ?_
    rw [ho]
    try refine RUN ?_
    refine ⟨(j + 1, ps, _, ow2), ⟨rfl, by rw [wn]; rfl, trivial⟩, (by repeat (first | exact trivial | refine And.intro rfl ?_)), trivial, trivial, rfl, ⟨by dsimp only; omega, by dsimp only; rw [hgs]; exact hps.mono (hG6.trans hG7), hown2⟩, hG6.trans hG7, by dsimp only; omega⟩
  ·simp only [nN] at hlj
   obtain rfl : j = V.length - 1 := by omega
   (first | refine EVL.publishL [] ow2 [] ((List.append_nil _).symm) hown2 fun G6 hG6 hs6 => ?_ | refine EV.publishL [] ow2 [] ((List.append_nil _).symm) hown2 fun G6 hG6 hs6 => ?_)
   have hps6 := hps.mono hG6
   try refine RUN ?_
   show RL G6 (.slice ua ps.length uc) _
   rw [hps6.1] at hs6 ⊢
   exact hps6.rl hs6
end Go.Proofs.YtejljnlfgiifoaaGreatDoor
