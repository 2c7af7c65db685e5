/- Texts of ours in one: Tr18, Tr19, Tr20, Tr21, Tr22, Tr23, Tr24, Tr25, Tr26, Opn, Opn20, Tr27, Tr28, LaidE. -/
import Derived.Test.YtgjepkeeeemppaaGreatDoorG0
import Derived.Test.YtgjepkeeeemppaaGreatDoorG1
import Derived.Test.YtgjepkeeeemppaaGreatDoorG3
import Derived.Test.YtgjepkeeeemppaaGreatDoorG4
import Derived.WalkKit
import Derived.ProofKit
import Derived.OpenShut
import Derived.LaidMore
import Derived.Lay
import Derived.Stop.Joined
set_option linter.unusedVariables false
set_option linter.unusedSimpArgs false

namespace Go.Proofs.YtgjepkeeeemppaaGreatDoor
open Go.RowKit _root_.Go.Proofs.Tryz
def Says (x : List Rat) (k : Int) (t : Tr) : Prop := ∃ i n, Leaf t.ns x 0 i ∧ t.ns[i]? = some n ∧ n.cls = k
def CLs (x : List Rat) (ks : List Int) (ts : List Tr) : Prop := ks.length = ts.length ∧ ∀ (j : Nat) (k : Int) (t : Tr), ks[j]? = some k → ts[j]? = some t → Says x k t
theorem topN_in {l : List Int} (h : 0 < l.length) : topN l l.length < l.length := by
 rcases topN_lt l l.length with k | k <;> omega
set_option maxRecDepth 100000 in
set_option maxHeartbeats 16000000 in
theorem count_pc {H : Hp} {C : Nat} {w : Int} {vt vo : Value} {a : Option Addr} {cp : Nat} {vx : Value} {ts : List Tr} {x : List Rat} (ht : PTL H (.slice a ts.length cp) ts) (hok : ∀ t, t ∈ ts → TreeOk t ∧ fitT 1 C w t = true) (hC : 1 ≤ C ∧ C ≤ 12) (hn : ts.length ≤ 1000) (hx : QL H vx x) (hxl : (x.length : Int) = w) (hxs : ∀ q, q ∈ x → sm q) :
  PC prog 49 #[forestV 1 C w vt vo, .slice a ts.length cp, vx] H fun r G => ∃ ks, CLs x ks ts ∧ IL G r (cntL C ks) := by
 obtain ⟨tcs, hts, hst⟩ := ht
 obtain ⟨xa, xc, rfl⟩ := SlC.val hx
 refine BD func49 ntmps49 ?_
 try refine RUN ?_
 refine EVL.make tO rfl rfl rfl rfl rfl rfl rfl rfl rfl (C) (rfl) oM (by rfl) (by rfl) fun b => ?_
 try refine RUN ?_
 (first | refine EVL.swapOw ([(b, 3, (cntL C ([] : List Int)).map iv ++ [])]) ([]) ((by rw [← cnt_zero]; rfl)) ?_ | refine EV.swapOw ([(b, 3, (cntL C ([] : List Int)).map iv ++ [])]) ([]) ((by rw [← cnt_zero]; rfl)) ?_)
 refine EV.loopK (ι := List Int) [2, 7, 13, 14] [] (fun ks => [(15, .v (.int .i64 (ks.length : Int)))]) (fun _ => []) (fun ks => [(b, 3, (cntL C ks).map iv ++ [])]) (fun ks _ => ks.length ≤ ts.length ∧ CLs x ks (ts.take ks.length)) (fun ks => ts.length - ks.length) ([]) rfl rfl ⟨rfl, trivial⟩ trivial rfl (fun _ => rfl) (⟨Nat.zero_le _, ⟨rfl, fun j k t e _ => by cases e⟩⟩) ?_
 rintro ks G2 hG2 ⟨hi, hks⟩
 try refine RUN ?_
 refine EV.cond rfl (fun hlt => ?_) (fun hlt => ?_)
 ·simp only [nN] at hlt
  obtain ⟨t, hti⟩ : ∃ t, ts[ks.length]? = some t := ⟨_, List.getElem?_eq_getElem hlt⟩
  obtain ⟨hto, htf⟩ := hok t (List.mem_of_getElem? hti)
  obtain ⟨cc, hcut, htr⟩ := (hts.mono hG2).get hti
  obtain ⟨a3, c3, css, rfl, _, _⟩ := id htr
  have hf3 : t.kd = 1 ∧ t.cl = C ∧ t.w = w := by
   unfold fitT at htf
   simp only [Bool.and_eq_true, beq_iff_eq] at htf
   exact htf
  have hlf := leaf_pc htr hto (hx.mono hG2) (by rw [hf3.2.2]; exact hxl) hxs
  try refine RUN ?_
  refine EVL.idxM tO rfl rfl rfl rfl rfl rfl rfl rfl rfl ((hst.mono hG2)) (ks.length) (rfl) (hlt) (hcut) ?_
  try refine RUN ?_
  refine EVL.call rfl rfl rfl rfl rfl (hlf) ?_
  rintro _ G3 ⟨i, n, c, hL, hni, hN, rfl, hp⟩ hG3
  obtain ⟨a7, c7, rfl, _⟩ := hp.cells
  have hlen : (n.counts.length : Int) = (C : Int) := by rw [← hf3.2.1]; exact hN.len
  have hcls := hN.cls
  have htop := topN_in (l := n.counts) oM
  generalize topN n.counts n.counts.length = k at *
  have hk : k < C := by omega
  have hcl : ks.count (k : Int) ≤ 1000 := Nat.le_trans List.count_le_length oM
  have hget := cntL_at (C := C) ks hk
  have hcn := cntL_snoc (C := C) ks hk
  have hlen2 := cntL_len C ks
  have hsay : Says x (k : Int) t := ⟨i, n, hL, hni, hcls⟩
  generalize cntL C ks = cs at *
  generalize ks.count (k : Int) = m at *
  have wm : IntKind.i64.wrap ((m : Int) + 1) = ((m + 1 : Nat) : Int) := wi_inc m oM
  try refine RUN ?_
  rw [hcls]
  refine EVL.idxB tO rfl rfl rfl rfl rfl rfl rfl rfl rfl (k) (k * 1) (rfl) (hk) (rfl) ?_
  refine EVL.loadOwn tO rfl rfl rfl rfl rfl rfl (0) rfl (ci_get [] hget) rfl rfl ?_
  try refine RUN ?_
  rw [wm]
  refine EVL.idxB tO rfl rfl rfl rfl rfl rfl rfl rfl rfl (k) (k * 1) (rfl) (hk) (rfl) ?_
  refine EVL.storeOwn tO rfl rfl rfl rfl rfl rfl ([]) ([]) rfl rfl rfl rfl ((by rw [List.length_append, List.length_map, hlen2]; show k * 1 + 1 ≤ _; omega)) (ci_set [] _ (show k < cs.length by omega)) ?_
  try refine RUN ?_
  refine ⟨ks ++ [(k : Int)], ⟨by rw [wi_inc ks.length oM, List.length_append]; rfl, trivial⟩, sB, trivial, sB, by rw [hcn]; rfl, ⟨by rw [List.length_append, List.length_singleton]; omega, by rw [List.length_append, List.length_singleton, take_snoc hti]; exact rel_snoc hks hsay⟩, hG3, by rw [List.length_append, List.length_singleton]; omega⟩
 ·simp only [nN] at hlt
  have hi2 : ks.length = ts.length := by omega
  rw [hi2, List.take_length] at hks
  (first | refine EVL.publish [] [] rfl fun G3 hG3 hb3 => ?_ | refine EV.publish [] [] rfl fun G3 hG3 hb3 => ?_)
  try refine RUN ?_
  exact ⟨ks, hks, il_own hb3 (cntL_len _ _)⟩
set_option maxRecDepth 100000 in
set_option maxHeartbeats 16000000 in
theorem answerC_pc {H : Hp} {C : Nat} {w : Int} {vt vo : Value} {a : Option Addr} {cp : Nat} {vx : Value} {ts : List Tr} {x : List Rat} (ht : PTL H (.slice a ts.length cp) ts) (hok : ∀ t, t ∈ ts → TreeOk t ∧ fitT 1 C w t = true) (hC : 1 ≤ C ∧ C ≤ 12) (hn : ts.length ≤ 1000) (hx : QL H vx x) (hxl : (x.length : Int) = w) (hxs : ∀ q, q ∈ x → sm q) :
  PC prog 45 #[forestV 1 C w vt vo, .slice a ts.length cp, vx] H fun r _ => ∃ ks, CLs x ks ts ∧ r = .tuple #[fracV 0, .int .i64 (topN (cntL C ks) C : Nat)] := by
 have hcnt := count_pc (vt := vt) (vo := vo) ht hok hC hn hx hxl hxs
 obtain ⟨xa, xc, rfl⟩ := SlC.val hx
 refine BD func45 ntmps45 ?_
 try refine RUN ?_
 refine EVL.call rfl rfl rfl rfl rfl (hcnt) ?_
 rintro r1 G1 ⟨ks, hks, hil⟩ hG1
 obtain ⟨la, lc, rfl⟩ := SlC.val hil
 have hlen := cntL_len C ks
 generalize hcs : cntL C ks = l at *
 try refine RUN ?_
 refine EV.loopK (ι := Nat) [6, 8, 21, 22] [6] (fun q => [(7, .v (.int .i64 (topN l q : Nat))), (23, .v (.int .i64 (q : Int)))]) (fun _ => []) (fun _ => []) (fun q _ => q ≤ l.length) (fun q => l.length - q) (0) rfl rfl ⟨rfl, rfl, trivial⟩ trivial rfl (fun _ => rfl) (Nat.zero_le _) ?_
 rintro q G2 hG2 hq
 try refine RUN ?_
 refine EV.cond rfl (fun hlt => ?_) (fun hlt => ?_)
 ·simp only [nN] at hlt
  have hti := topN_lt l q
  have htl : topN l q < l.length := by omega
  have g1 := getD_at hlt
  have g2 := getD_at htl
  have hst : topN l (q + 1) = if l.getD (topN l q) 0 < l.getD q 0 then q else topN l q := rfl
  generalize topN l q = tp at *
  generalize l.getD tp 0 = z at *
  generalize l.getD q 0 = y at *
  try refine RUN ?_
  refine EVL.idxR tO rfl rfl rfl rfl rfl rfl rfl rfl rfl rfl ((hil.mono hG2)) (q) (rfl) (hlt) ((by rw [List.getElem?_map, g1]; rfl)) ?_
  try refine RUN ?_
  refine EVL.idxR tO rfl rfl rfl rfl rfl rfl rfl rfl rfl rfl ((hil.mono hG2)) (tp) (rfl) (htl) ((by rw [List.getElem?_map, g2]; rfl)) ?_
  try refine RUN ?_
  by_cases h : y > z
  ·rw [decide_eq_true h]
   rw [if_pos h] at hst
   try refine RUN ?_
   refine ⟨q + 1, ⟨by rw [hst]; rfl, by rw [wi_inc q (by omega)]; rfl, trivial⟩, sB, trivial, sB, rfl, by omega, Hp.Le.refl _, by omega⟩
  ·rw [decide_eq_false h]
   rw [if_neg h] at hst
   try refine RUN ?_
   refine ⟨q + 1, ⟨by rw [hst]; rfl, by rw [wi_inc q (by omega)]; rfl, trivial⟩, sB, trivial, sB, rfl, by omega, Hp.Le.refl _, by omega⟩
 ·simp only [nN] at hlt
  obtain rfl : q = l.length := by omega
  try refine RUN ?_
  refine ⟨ks, hks, ?_⟩
  rw [hcs, ← hlen, ← fracV_zero]
set_option maxHeartbeats 4000000 in
theorem sumB_pc {H : Hp} {v : Value} {l : List Rat} (h : QL H v l) (hl : l.length ≤ 20) (hb : ∀ q, q ∈ l → ht q ≤ 2000000) : PC prog 105 #[v] H fun r _ => r = fracV (sumQ l) := by
 obtain ⟨a, cap, rfl⟩ := SlC.val h
 have hz : vlist (fracV (sumQ (l.take 0))) = [.bool false, .int .u64 0, .string ⟨#[]⟩, .int .u64 0, .string ⟨#[]⟩] := frac_zero_cells
 refine BD func105 ntmps105 ?_
 try refine RUN ?_
 refine EV.loopK (ι := Nat) [2, 3, 6, 7] [2] (fun i => [(8, .v (.int .i64 (i : Int)))]) (fun i => [(3, 67, vlist (fracV (sumQ (l.take i))))]) (fun _ => []) (fun i G => i ≤ l.length) (fun i => l.length - i) (0) rfl rfl ⟨rfl, trivial⟩ ⟨by rw [hz]; rfl, trivial⟩ rfl (fun _ => rfl) (Nat.zero_le _) ?_
 intro i G1 hG1 hi
 try refine RUN ?_
 refine EV.cond rfl (fun hlt => ?_) (fun hlt => ?_)
 ·simp only [nN] at hlt
  obtain ⟨q, hqi⟩ : ∃ q, l[i]? = some q := ⟨_, List.getElem?_eq_getElem hlt⟩
  have hqb := hb q (List.mem_of_getElem? hqi)
  have hsb := ht_sum 2000000 (l.take i) (fun q hq => hb q (List.mem_of_mem_take hq))
  rw [List.length_take, Nat.min_eq_left hi] at hsb
  have hadd := add_pv (sumQ (l.take i)) q (sm_of hsb oM) (sm_of hqb oM)
  rw [← sumQ_snoc, ← take_snoc hqi] at hadd
  try refine RUN ?_
  refine EVL.idxM tO rfl rfl rfl rfl rfl rfl rfl rfl rfl ((SlC.mono (show SlC H (.slice a l.length cap) l.length 5 (l.flatMap fun q => vlist (fracV q)) from h) hG1)) (i) (rfl) (hlt) ((QL.at (H := H) (v := .slice a l.length cap) hqi)) ?_
  repeat (first | refine RUN ?_ | refine CV (hadd) ?_ | refine CE (hadd) ?_)
  refine ⟨i + 1, ⟨?_, trivial⟩, sB, ⟨rfl, trivial⟩, sB, rfl, hlt, Hp.Le.refl _, by omega⟩
  rw [wi_inc i (by omega)]; rfl
 ·simp only [nN] at hlt
  obtain rfl : i = l.length := by omega
  rw [List.take_length]
  try refine RUN ?_
  rfl
theorem meanB_pc {H : Hp} {v : Value} {l : List Rat} (h : QL H v l) (hl : l.length ≤ 20) (h0 : l.length ≠ 0) (hb : ∀ q, q ∈ l → ht q ≤ 2000000) : PC prog 57 #[v] H fun r _ => r = .tuple #[fracV (meanL l), .bool true] := by
 obtain ⟨a, cap, rfl⟩ := SlC.val h
 have hs := ht_sum 2000000 l hb
 have hln := ht_len (n := l.length) oM
 have hsum := sumB_pc h hl hb
 have hof := of_pv (l.length : Int) oM oM
 have hd := div_pv (sumQ l) ((l.length : Int) : Rat) (sm_of hs oM) (sm_of hln oM) (by intro e; have : ((l.length : Int) : Rat) = ((0 : Int) : Rat) := e; exact h0 (by have := Rat.intCast_inj.1 this; omega))
 refine BD func57 ntmps57 ?_
 repeat (first | refine RUN ?_ | refine CV (hsum) ?_ | refine CV (hof) ?_ | refine CV (hd) ?_ | refine CE (hsum) ?_ | refine CE (hof) ?_ | refine CE (hd) ?_)
 rfl
def Gives (x : List Rat) (q : Rat) (t : Tr) : Prop := ∃ i n, Leaf t.ns x 0 i ∧ t.ns[i]? = some n ∧ n.value = q
def VLs (x : List Rat) (qs : List Rat) (ts : List Tr) : Prop := qs.length = ts.length ∧ ∀ (j : Nat) (q : Rat) (t : Tr), qs[j]? = some q → ts[j]? = some t → Gives x q t
def cqF (q : Rat) : List Value := vlist (fracV q)
theorem cqF_len (l : List Rat) : (l.flatMap cqF).length = l.length * 5 := flat_len cqF 5 l fun _ _ => rfl
theorem cqF_zero (n : Nat) : (List.replicate n ([.bool false, .int .u64 0, .string ⟨#[]⟩, .int .u64 0, .string ⟨#[]⟩] : List Value)).flatten = (([] : List Rat) ++ List.replicate (n - 0) 0).flatMap cqF := by
 rw [List.nil_append, Nat.sub_zero, List.flatMap_def, List.map_replicate, show cqF 0 = _ from frac_zero_cells]
theorem cqF_set (qs : List Rat) (q : Rat) {n : Nat} (h : qs.length < n) : ((qs ++ List.replicate (n - qs.length) 0).flatMap cqF).take (qs.length * 5) ++ vlist (fracV q) ++ ((qs ++ List.replicate (n - qs.length) 0).flatMap cqF).drop (qs.length * 5 + 5) = ((qs ++ [q]) ++ List.replicate (n - (qs ++ [q]).length) 0).flatMap cqF := by
 have e : n - qs.length = (n - (qs ++ [q]).length) + 1 := by rw [List.length_append, List.length_singleton]; omega
 rw [e, List.replicate_succ, List.flatMap_append, List.flatMap_cons, List.flatMap_append, List.flatMap_append, List.flatMap_singleton, List.append_assoc (qs.flatMap cqF) (cqF q)]
 have := row_set (A := qs.flatMap cqF) (c := cqF 0) (B := (List.replicate (n - (qs ++ [q]).length) (0 : Rat)).flatMap cqF) (vs := vlist (fracV q)) (c' := cqF q) (k := qs.length) (s := 5) (f := 0) (m := 5) (q := qs.length * 5) (cqF_len qs) rfl rfl (Nat.le_refl 5) rfl
 exact this
theorem ql_own {H : Hp} {b m : Nat} {l : List Rat} (h : H b = some (l.flatMap cqF).toArray) (hm : l.length = m) : QL H (.slice (some ⟨b, 0, none⟩) m m) l := by
 subst hm
 refine ⟨cqF_len l, .inr ⟨b, 0, l.length, _, rfl, Nat.le_refl _, h, fun j x hj => ?_⟩⟩
 rw [Nat.zero_add, List.getElem?_toArray]
 exact hj
set_option maxRecDepth 100000 in
set_option maxHeartbeats 16000000 in
theorem answerV_pc {H : Hp} {w : Int} {vt vo : Value} {a : Option Addr} {cp : Nat} {vx : Value} {ts : List Tr} {x : List Rat} (ht : PTL H (.slice a ts.length cp) ts) (hok : ∀ t, t ∈ ts → TreeOk t ∧ fitT 2 0 w t = true) (h0 : 0 < ts.length) (hn : ts.length ≤ 20) (hx : QL H vx x) (hxl : (x.length : Int) = w) (hxs : ∀ q, q ∈ x → sm q) :
  PC prog 45 #[forestV 2 0 w vt vo, .slice a ts.length cp, vx] H fun r _ => ∃ qs, VLs x qs ts ∧ r = .tuple #[fracV (meanL qs), .int .i64 0] := by
 obtain ⟨tcs, hts, hst⟩ := ht
 obtain ⟨xa, xc, rfl⟩ := SlC.val hx
 refine BD func45 ntmps45 ?_
 try refine RUN ?_
 refine EVL.make tO rfl rfl rfl rfl rfl rfl rfl rfl rfl (ts.length) (rfl) oM (by rfl) (by rfl) fun b => ?_
 try refine RUN ?_
 (first | refine EVL.swapOw ([(b, 67, (([] : List Rat) ++ List.replicate (ts.length - 0) 0).flatMap cqF)]) ([]) ((by rw [← cqF_zero]; rfl)) ?_ | refine EV.swapOw ([(b, 67, (([] : List Rat) ++ List.replicate (ts.length - 0) 0).flatMap cqF)]) ([]) ((by rw [← cqF_zero]; rfl)) ?_)
 refine EV.loopK (ι := List Rat) [2, 6, 7, 11, 41, 42] [6] (fun qs => [(43, .v (.int .i64 (qs.length : Int)))]) (fun _ => []) (fun qs => [(b, 67, (qs ++ List.replicate (ts.length - qs.length) 0).flatMap cqF)]) (fun qs _ => qs.length ≤ ts.length ∧ VLs x qs (ts.take qs.length) ∧ ∀ q, q ∈ qs → ht q ≤ 2000000) (fun qs => ts.length - qs.length) ([]) rfl rfl ⟨rfl, trivial⟩ trivial rfl (fun _ => rfl) (⟨Nat.zero_le _, ⟨rfl, fun j k t e _ => by cases e⟩, fun q hq => by cases hq⟩) ?_
 rintro qs G2 hG2 ⟨hi, hqs, hqb⟩
 try refine RUN ?_
 refine EV.cond rfl (fun hlt => ?_) (fun hlt => ?_)
 ·simp only [nN] at hlt
  obtain ⟨t, hti⟩ : ∃ t, ts[qs.length]? = some t := ⟨_, List.getElem?_eq_getElem hlt⟩
  obtain ⟨hto, htf⟩ := hok t (List.mem_of_getElem? hti)
  obtain ⟨cc, hcut, htr⟩ := (hts.mono hG2).get hti
  obtain ⟨a3, c3, css, rfl, _, _⟩ := id htr
  have hf3 : t.kd = 2 ∧ t.cl = 0 ∧ t.w = w := by
   unfold fitT at htf
   simp only [Bool.and_eq_true, beq_iff_eq] at htf
   exact htf
  have hlf := leaf_pc htr hto (hx.mono hG2) (by rw [hf3.2.2]; exact hxl) hxs
  try refine RUN ?_
  refine EVL.idxM tO rfl rfl rfl rfl rfl rfl rfl rfl rfl ((hst.mono hG2)) (qs.length) (rfl) (hlt) (hcut) ?_
  try refine RUN ?_
  refine EVL.call rfl rfl rfl rfl rfl (hlf) ?_
  rintro _ G3 ⟨i, n, c, hL, hni, hN, rfl, hp⟩ hG3
  obtain ⟨a7, c7, rfl, _⟩ := hp.cells
  have hgv : Gives x n.value t := ⟨i, n, hL, hni, rfl⟩
  have hsm : ht n.value ≤ 2000000 := Nat.le_trans hN.small.2.2 oM
  try refine RUN ?_
  refine EVL.idxB tO rfl rfl rfl rfl rfl rfl rfl rfl rfl (qs.length) (qs.length * 5) (rfl) (hlt) (rfl) ?_
  refine EVL.storeOwn tO rfl rfl rfl rfl rfl rfl ([]) ([]) rfl rfl rfl rfl ((by rw [cqF_len, List.length_append, List.length_replicate]; show qs.length * 5 + 5 ≤ _; omega)) ((cqF_set qs n.value hlt)) ?_
  try refine RUN ?_
  refine ⟨qs ++ [n.value], ⟨by rw [wi_inc qs.length oM, List.length_append]; rfl, trivial⟩, sB, trivial, sB, rfl, ⟨by rw [List.length_append, List.length_singleton]; omega, by rw [List.length_append, List.length_singleton, take_snoc hti]; exact rel_snoc hqs hgv, fun q hq => ?_⟩, hG3, by rw [List.length_append, List.length_singleton]; omega⟩
  rcases List.mem_append.1 hq with h | h
  ·exact hqb q h
  ·rw [List.mem_singleton.1 h]; exact hsm
 ·simp only [nN] at hlt
  have hi2 : qs.length = ts.length := by omega
  rw [hi2, List.take_length] at hqs
  (first | refine EVL.publish [] [] rfl fun G3 hG3 hb3 => ?_ | refine EV.publish [] [] rfl fun G3 hG3 hb3 => ?_)
  rw [hi2, Nat.sub_self, List.replicate_zero, List.append_nil] at hb3
  have hql := ql_own hb3 hi2
  repeat (first | refine RUN ?_ | refine CV (meanB_pc hql oM oM hqb) ?_ | refine CE (meanB_pc hql oM oM hqb) ?_)
  exact ⟨qs, hqs, rfl⟩
set_option maxHeartbeats 8000000 in
theorem panswer_pc {H : Hp} {kd cl w : Int} {a1 a2 : Option Addr} {c1 c2 : Nat} {vx : Value} {ts : List Tr} {os : List (List Int)} {x : List Rat} (ht : PTL H (.slice a1 ts.length c1) ts) (ho : ILL H (.slice a2 os.length c2) os) (hok : ∀ t, t ∈ ts → TreeOk t) (hlo : ∀ l, l ∈ os → l.length ≤ 1000000) (hol : os.length ≤ 1000000) (hn : ts.length ≤ 20) (hx : QL H vx x) (hxs : ∀ q, q ∈ x → sm q) :
  PC prog 13 #[forestV kd cl w (.slice a1 ts.length c1) (.slice a2 os.length c2), vx] H fun r _ =>
   (checkF kd cl w ts os ≠ 0 → r = .tuple #[fracV 0, .int .i64 0, .int .i64 1]) ∧
   (checkF kd cl w ts os = 0 → (x.length : Int) ≠ w → r = .tuple #[fracV 0, .int .i64 0, .int .i64 5]) ∧
   (checkF kd cl w ts os = 0 → (x.length : Int) = w → (kd = 1 ∧ ∃ ks, CLs x ks ts ∧ r = .tuple #[fracV 0, .int .i64 (topN (cntL cl.toNat ks) cl.toNat : Nat), .int .i64 0]) ∨ (kd ≠ 1 ∧ ∃ qs, VLs x qs ts ∧ r = .tuple #[fracV (meanL qs), .int .i64 0, .int .i64 0])) := by
 obtain ⟨xa, xc, rfl⟩ := SlC.val hx
 have hrf := refuse_pc (kd := kd) (cl := cl) (w := w) (xa := xa) (xn := x.length) (xc := xc) ht ho hok hlo hol
 by_cases h1 : checkF kd cl w ts os = 0
 ·rw [if_pos h1] at hrf
  by_cases h2 : (x.length : Int) = w
  ·rw [if_pos h2] at hrf
   have hall : 0 < ts.length ∧ ts.all (fitT kd cl w) = true := by
    unfold checkF at h1
    split at h1
    ·cases h1
    ·split at h1
     ·rename_i h3 h4; exact ⟨by omega, h4⟩
     ·cases h1
   have hfit : ∀ t, t ∈ ts → TreeOk t ∧ fitT kd cl w t = true := fun t hm => ⟨hok t hm, List.all_eq_true.1 hall.2 t hm⟩
   obtain ⟨t0, ht0⟩ : ∃ t, ts[0]? = some t := ⟨_, List.getElem?_eq_getElem hall.1⟩
   obtain ⟨ho0, hf0⟩ := hfit t0 (List.mem_of_getElem? ht0)
   have hk0 := ho0.kind
   have hf3 : t0.kd = kd ∧ t0.cl = cl ∧ t0.w = w := by
    unfold fitT at hf0
    simp only [Bool.and_eq_true, beq_iff_eq] at hf0
    exact hf0
   rw [hf3.1, hf3.2.1] at hk0
   rcases hk0 with ⟨rfl, hc1, hc2⟩ | ⟨rfl, rfl⟩
   ·obtain ⟨C, rfl⟩ := Int.eq_ofNat_of_zero_le (show 0 ≤ cl by omega)
    have hans := answerC_pc (vt := .slice a1 ts.length c1) (vo := .slice a2 os.length c2) (C := C) ht hfit oM oM hx h2 hxs
    refine BD func13 ntmps13 ?_
    repeat (first | refine RUN ?_ | refine CV (hrf) ?_ | refine CE (hrf) ?_)
    refine EVL.call rfl rfl rfl rfl rfl (hans) ?_
    rintro _ G1 ⟨ks, hks, rfl⟩ hG1
    try refine RUN ?_
    exact ⟨fun e => absurd h1 e, fun _ e => absurd h2 e, fun _ _ => .inl ⟨rfl, ks, hks, rfl⟩⟩
   ·have hans := answerV_pc (vt := .slice a1 ts.length c1) (vo := .slice a2 os.length c2) ht hfit hall.1 hn hx h2 hxs
    refine BD func13 ntmps13 ?_
    repeat (first | refine RUN ?_ | refine CV (hrf) ?_ | refine CE (hrf) ?_)
    refine EVL.call rfl rfl rfl rfl rfl (hans) ?_
    rintro _ G1 ⟨qs, hqs, rfl⟩ hG1
    try refine RUN ?_
    exact ⟨fun e => absurd h1 e, fun _ e => absurd h2 e, fun _ _ => .inr ⟨by decide, qs, hqs, rfl⟩⟩
  ·rw [if_neg h2] at hrf
   refine BD func13 ntmps13 ?_
   repeat (first | refine RUN ?_ | refine CV (hrf) ?_ | refine CE (hrf) ?_)
   exact ⟨fun e => absurd h1 e, fun _ _ => by rw [fracV_zero], fun _ e => absurd e h2⟩
 ·rw [if_neg h1] at hrf
  refine BD func13 ntmps13 ?_
  repeat (first | refine RUN ?_ | refine CV (hrf) ?_ | refine CE (hrf) ?_)
  exact ⟨fun _ => by rw [fracV_zero], fun e => absurd e h1, fun e => absurd e h1⟩
theorem cloneI_pc {H : Hp} {v : Value} {l : List Int} (h : IL H v l) (hl : l.length ≤ 1000000) : PC prog 47 #[v] H fun r G => IL G r l := by
 by_cases h0 : l.length = 0
 ·obtain rfl := List.length_eq_zero_iff.1 h0
  obtain ⟨a, cap, rfl⟩ := SlC.val h
  refine BD func47 ntmps47 ?_
  try refine RUN ?_
  refine EVL.eqnil tO rfl rfl rfl rfl rfl rfl rfl ?_
  cases a with
  | none =>
   try refine RUN ?_
   exact IL.nil _ _ _
  | some x =>
   try refine RUN ?_
   refine EVL.lit0 tO rfl rfl rfl rfl rfl rfl rfl fun g0 => ?_
   try refine RUN ?_
   refine EVL.append0 tO rfl rfl rfl rfl rfl rfl rfl rfl rfl (Nat.le_refl _) ?_
   try refine RUN ?_
   exact IL.nil _ _ _
 ·have hs := h.2
  rcases hs with ⟨e, _⟩ | ⟨b, off, cap, c, rfl, _⟩
  ·omega
  ·refine BD func47 ntmps47 ?_
   try refine RUN ?_
   refine EVL.eqnil tO rfl rfl rfl rfl rfl rfl rfl ?_
   try refine RUN ?_
   refine EVL.lit0 tO rfl rfl rfl rfl rfl rfl rfl fun g0 => ?_
   try refine RUN ?_
   refine EVL.append tO rfl rfl rfl rfl rfl rfl rfl rfl rfl rfl rfl rfl [] [(g0, 3, [])] [] rfl (OwnL.full (m := 0) rfl oM) (SrcAt.ro h oM) (oneB_iv l) oM ?_
   intro v1 ow1 hown1
   rw [Nat.zero_add, List.nil_append] at hown1
   (first | refine EVL.publishL [] ow1 [] (rfl) hown1 fun G2 hG2 hs2 => ?_ | refine EV.publishL [] ow1 [] (rfl) hown1 fun G2 hG2 hs2 => ?_)
   try refine RUN ?_
   exact hs2
theorem PNodes.one {H : Hp} : ∀ {css : List (List Value)} {ns : List Nd}, PNodes H css ns → oneB css.flatten = true
 | [], _, _ => rfl
 | c :: css, [], h => by have := h.1; simp at this
 | c :: css, n :: ns, h => by
  rw [List.flatten_cons]
  refine oneB_app (h.2 0 c n rfl rfl).one (PNodes.one (ns := ns) ⟨?_, fun j c' n' e1 e2 => h.2 (j + 1) c' n' (by rw [List.getElem?_cons_succ]; exact e1) (by rw [List.getElem?_cons_succ]; exact e2)⟩)
  have := h.1
  simpa using this
theorem cloneN_pw {H : Hp} {v : Value} {ns : List Nd} {css : List (List Value)} (hns : PNodes H css ns) (h : SlC H v ns.length 21 css.flatten) (h0 : 0 < ns.length) (hl : ns.length ≤ 1000000) : PW prog 89 #[v] H [] fun r ow _ => OwnL 107 21 r ns.length css.flatten ow := by
 have hs := h.2
 rcases hs with ⟨e, _⟩ | ⟨b, off, cap, c, rfl, _⟩
 ·omega
 ·refine PW.body tO func89 rfl kR ntmps89 rfl rfl ?_
  try refine RUN ?_
  refine EVL.eqnil tO rfl rfl rfl rfl rfl rfl rfl ?_
  try refine RUN ?_
  refine EVL.lit0 tO rfl rfl rfl rfl rfl rfl rfl fun g0 => ?_
  try refine RUN ?_
  refine EVL.append tO rfl rfl rfl rfl rfl rfl rfl rfl rfl rfl rfl rfl [] [(g0, 107, [])] [] rfl (OwnL.full (m := 0) rfl oM) (SrcAt.ro h h0) hns.one oM ?_
  intro v1 ow1 hown1
  try refine RUN ?_
  rw [Nat.zero_add] at hown1
  rw [List.append_nil]
  exact hown1
theorem OwnL.same {e : TypeId} {s m : Nat} {v : Value} {xs : List Value} {ow : Ows} (h : OwnL e s v m xs ow) (h0 : 0 < m) : ∃ g cap sp, v = .slice (some ⟨g, 0, none⟩) m cap ∧ ow = [(g, e, xs ++ sp)] ∧ ∀ xs', xs'.length = xs.length → OwnL e s v m xs' [(g, e, xs' ++ sp)] := by
 rcases h.2 with ⟨_, e0, _⟩ | ⟨g, cap, sp, rfl, rfl, h1, h2, h3⟩
 ·omega
 ·exact ⟨g, cap, sp, rfl, rfl, fun xs' e => ⟨by rw [e]; exact h.1, .inr ⟨g, cap, sp, rfl, rfl, by rw [← h1, List.length_append, List.length_append, e], h2, h3⟩⟩⟩
theorem PNodes.put {H : Hp} {A B : List (List Value)} {c c' : List Value} {ns : List Nd} {n : Nd} (h : PNodes H (A ++ c :: B) ns) (hn : ns[A.length]? = some n) (h' : PNode H c' n) : PNodes H (A ++ c' :: B) ns := by
 refine ⟨by have := h.1; simpa using this, fun j x m e1 e2 => ?_⟩
 rcases Nat.lt_trichotomy j A.length with k | k | k
 ·exact h.2 j x m (by rw [List.getElem?_append_left k] at e1 ⊢; exact e1) e2
 ·subst k
  rw [List.getElem?_append_right (Nat.le_refl _), Nat.sub_self] at e1
  cases e1
  rw [hn] at e2
  cases e2
  exact h'
 ·obtain ⟨q, hq⟩ : ∃ q, j - A.length = q + 1 := ⟨j - A.length - 1, by omega⟩
  exact h.2 j x m (by rw [List.getElem?_append_right oM, hq, List.getElem?_cons_succ] at e1 ⊢; exact e1) e2
theorem flat_mid (A B : List (List Value)) (c : List Value) (sp : List Value) : (A ++ c :: B).flatten ++ sp = A.flatten ++ (c ++ (B.flatten ++ sp)) := by simp
theorem PNodes.flat_len {H : Hp} : ∀ {css : List (List Value)} {ns : List Nd}, PNodes H css ns → css.flatten.length = css.length * 21
 | [], _, _ => rfl
 | c :: css, [], h => by have := h.1; simp at this
 | c :: css, n :: ns, h => by
  have h1 := (h.2 0 c n rfl rfl).len
  have h2 := PNodes.flat_len (css := css) (ns := ns) ⟨by have := h.1; simpa using this, fun j c' n' e1 e2 => h.2 (j + 1) c' n' (by rw [List.getElem?_cons_succ]; exact e1) (by rw [List.getElem?_cons_succ]; exact e2)⟩
  rw [List.flatten_cons, List.length_append, List.length_cons]
  omega
theorem PNodes.left {H : Hp} {A B : List (List Value)} {ns : List Nd} (h : PNodes H (A ++ B) ns) : PNodes H A (ns.take A.length) := by
 have hl := h.1
 rw [List.length_append] at hl
 refine ⟨by rw [List.length_take]; omega, fun j c n e1 e2 => ?_⟩
 have hj := (List.getElem?_eq_some_iff.1 e1).1
 rw [List.getElem?_take, if_pos hj] at e2
 exact h.2 j c n (by rw [List.getElem?_append_left hj]; exact e1) e2
set_option maxRecDepth 100000 in
set_option maxHeartbeats 16000000 in
theorem copied_pc {H : Hp} {cs : List Value} {kd cl w : Int} {ns : List Nd} (ht : PTree H cs kd cl w ns) (h0 : 0 < ns.length) (hl : ns.length ≤ 1000000) (hs : ∀ n, n ∈ ns → n.counts.length ≤ 1000000) :
  PC prog 46 #[.agg cs.toArray] H fun r G => ∃ cs', r = .agg cs'.toArray ∧ PTree G cs' kd cl w ns := by
 obtain ⟨a, cp, css, rfl, hns, hsl⟩ := ht
 refine BD func46 ntmps46 ?_
 try refine RUN ?_
 refine EVL.callW rfl rfl rfl rfl rfl ([]) ([]) rfl (cloneN_pw hns hsl h0 hl) ?_
 intro r0 ow0 G0 hown0 hG0
 obtain ⟨g, cap, sp, rfl, rfl, hsame⟩ := hown0.same h0
 try refine RUN ?_
 refine EV.loopK (ι := Nat × List (List Value)) [1, 2, 9, 10] [1, 2] (fun q => [(11, .v (.int .i64 (q.1 : Int)))]) (fun _ => []) (fun q => [(g, 107, q.2.flatten ++ sp)]) (fun q G => q.1 ≤ ns.length ∧ PNodes G q.2 ns) (fun q => ns.length - q.1) ((0, css)) rfl rfl ⟨rfl, trivial⟩ trivial rfl (fun _ => rfl) (⟨Nat.zero_le _, hns.mono hG0⟩) ?_
 rintro ⟨i, ds⟩ G1 hG1 ⟨hi, hds⟩
 dsimp only at hi hds
 try refine RUN ?_
 refine EV.cond rfl (fun hlt => ?_) (fun hlt => ?_)
 ·simp only [nN] at hlt
  obtain ⟨n, hni⟩ : ∃ n, ns[i]? = some n := ⟨_, List.getElem?_eq_getElem hlt⟩
  have hdl := hds.1
  obtain ⟨A, c, B, rfl, hAl⟩ : ∃ A c B, ds = A ++ c :: B ∧ A.length = i := ⟨ds.take i, ds[i]'(by omega), ds.drop (i + 1), by rw [List.getElem_cons_drop, List.take_append_drop], by rw [List.length_take]; omega⟩
  subst hAl
  have hnd := hds.2 A.length c n (by rw [List.getElem?_append_right (Nat.le_refl _), Nat.sub_self]; rfl) hni
  obtain ⟨a7, c7, rfl, hil⟩ := hnd.cells
  have hAf := hds.left.flat_len
  rw [flat_mid]
  try refine RUN ?_
  apply EV.drawn 10 kR kR; intro xv yw
  (repeat (first | refine' DV ?_ | refine' DA ?_ | refine' DK0 ?_ | refine' DT ?_ | refine' DS ?_))
  refine' DJ.idxB tO rfl rfl rfl rfl rfl rfl rfl rfl rfl (A.length) (A.length * 21) (rfl) (hlt) (rfl) ?_; rotate_left
  (refine' DJ.fldB tO rfl rfl rfl rfl rfl rfl rfl ?_; rotate_left)
  refine' DJ.ofVal (ValOk.loadOwn tO rfl rfl rfl rfl (0) rfl ((by rw [row_drop hAf (Nat.le_of_ble_eq_true rfl)])) rfl rfl) rfl rfl rfl ?_; rotate_left
  refine' DJ.call rfl rfl rfl rfl rfl (cO func47) (fun G hG hd => cloneI_pc (hil.mono hG) (hs n (List.mem_of_getElem? hni))) (fun _ _ _ h k => SlC.mono h k) ?_; rotate_left
  (refine DJ.nil (fun G2 hG2 hF2 => ?_); (case hS|hS2 => rfl))
  have hR := hF2.1
  obtain ⟨a8, c8, e8⟩ := SlC.val hR
  rw [e8] at hR
  rw [e8]
  try refine RUN ?_
  refine EVL.idxB tO rfl rfl rfl rfl rfl rfl rfl rfl rfl (A.length) (A.length * 21) (rfl) (hlt) (rfl) ?_
  refine EVL.fldB tO rfl rfl rfl rfl rfl rfl rfl ?_
  refine EVL.storeOwn tO rfl rfl rfl rfl rfl rfl ([]) ([]) rfl rfl rfl rfl ((by rw [List.length_append, hAf, List.length_append]; show A.length * 21 + 20 + 1 ≤ _; simp; omega)) ((row_set hAf rfl rfl (Nat.le_of_ble_eq_true rfl) rfl)) ?_
  try refine RUN ?_
  refine ⟨(A.length + 1, A ++ _ :: B), ⟨by rw [wi_inc A.length (by omega)]; rfl, trivial⟩, sB, trivial, sB, by dsimp only; rw [flat_mid]; rfl, ⟨hlt, (hds.mono hG2).put hni ⟨a8, c8, hR, rfl⟩⟩, hG2, by dsimp only; omega⟩
 ·simp only [nN] at hlt
  have hown := hsame ds.flatten (by rw [hds.flat_len, hns.flat_len, hds.1, hns.1])
  (first | refine EVL.publishL [] [(g, 107, ds.flatten ++ sp)] [] (rfl) hown fun G2 hG2 hs2 => ?_ | refine EV.publishL [] [(g, 107, ds.flatten ++ sp)] [] (rfl) hown fun G2 hG2 hs2 => ?_)
  try refine RUN ?_
  exact ⟨_, rfl, _, _, ds, rfl, hds.mono hG2, hs2⟩
theorem PTree.one {H : Hp} {cs : List Value} {kd cl w : Int} {ns : List Nd} (h : PTree H cs kd cl w ns) : oneB cs = true := by
 obtain ⟨_, _, _, rfl, _⟩ := h
 rfl
theorem PTree.len {H : Hp} {cs : List Value} {kd cl w : Int} {ns : List Nd} (h : PTree H cs kd cl w ns) : cs.length = 4 := by
 obtain ⟨_, _, _, rfl, _⟩ := h
 rfl
theorem TreeOk.copies {t : Tr} (h : TreeOk t) : 0 < t.ns.length ∧ t.ns.length ≤ 1000000 ∧ ∀ n, n ∈ t.ns → n.counts.length ≤ 1000000 := by
 obtain ⟨hkd, hw, hln, ⟨hh, hh10, hsub⟩, hall⟩ := h
 refine ⟨hsub.end0, by omega, fun n hn => ?_⟩
 obtain ⟨i, hi⟩ := List.mem_iff_getElem?.1 hn
 obtain ⟨n', e, hN, _⟩ := hall i (List.getElem?_eq_some_iff.1 hi).1
 cases hi.symm.trans e
 have := hN.len
 omega
set_option maxRecDepth 100000 in
set_option maxHeartbeats 32000000 in
theorem ffew_pc {H : Hp} {kd cl w : Int} {a1 a2 : Option Addr} {c1 c2 : Nat} {ts : List Tr} {os : List (List Int)} (ht : PTL H (.slice a1 ts.length c1) ts) (ho : ILL H (.slice a2 os.length c2) os) (hok : ∀ t, t ∈ ts → TreeOk t) (hlo : ∀ l, l ∈ os → l.length ≤ 1000000) (hol : os.length ≤ 1000000) {k : Nat} (h1 : 1 ≤ k) (hk : 1 ≤ ts.length → k ≤ ts.length) :
  PC prog 14 #[forestV kd cl w (.slice a1 ts.length c1) (.slice a2 os.length c2), .int .i64 (k : Int)] H fun r G =>
   (checkF kd cl w ts os ≠ 0 → r = .tuple #[forestV 0 0 0 (.slice none 0 0) (.slice none 0 0), .int .i64 1]) ∧
   (checkF kd cl w ts os = 0 → ∃ b1 d1 b2 d2, r = .tuple #[forestV kd cl w (.slice b1 k d1) (.slice b2 k d2), .int .i64 0] ∧ PTL G (.slice b1 k d1) (ts.take k) ∧ ILL G (.slice b2 k d2) (os.take k)) := by
 have hck := pcheckF_pc (kd := kd) (cl := cl) (w := w) ht ho hok hlo hol
 by_cases hc : checkF kd cl w ts os = 0
 case neg =>
  refine BD func14 ntmps14 ?_
  repeat (first | refine RUN ?_ | refine CV (hck) ?_ | refine CE (hck) ?_)
  rw [show (checkF kd cl w ts os != 0) = true from bne_iff_ne.2 hc]
  try refine RUN ?_
  exact ⟨fun _ => rfl, fun e => absurd e hc⟩
 have hall : 1 ≤ ts.length ∧ ts.length ≤ 50 ∧ os.length = ts.length := by
  unfold checkF at hc
  split at hc
  ·cases hc
  ·omega
 have hkl := hk hall.1
 obtain ⟨tcs, hts, hst⟩ := id ht
 obtain ⟨vos, hos, hso⟩ := id ho
 refine BD func14 ntmps14 ?_
 repeat (first | refine RUN ?_ | refine CV (hck) ?_ | refine CE (hck) ?_)
 rw [hc]
 try refine RUN ?_
 rw [decide_eq_false (show ¬ (k : Int) < 1 by omega)]
 try refine RUN ?_
 rw [decide_eq_false (show ¬ (k : Int) > (ts.length : Int) by omega)]
 try refine RUN ?_
 refine EV.loopK (ι := Nat × Value × List (List Value) × Ows × Value × List Value × Ows) [2, 4, 5, 6, 30] [2, 4] (fun q => [(31, .v (.int .i64 (q.1 : Int)))]) (fun q => [(6, 56, [.int .i64 kd, .int .i64 cl, .int .i64 w, q.2.1, q.2.2.2.2.1])]) (fun q => q.2.2.2.1 ++ q.2.2.2.2.2.2) (fun q G => q.1 ≤ k ∧ PTs G q.2.2.1 (ts.take q.1) ∧ ILs G q.2.2.2.2.2.1 (os.take q.1) ∧ OwnL 110 4 q.2.1 q.1 q.2.2.1.flatten q.2.2.2.1 ∧ OwnL 23 1 q.2.2.2.2.1 q.1 q.2.2.2.2.2.1 q.2.2.2.2.2.2) (fun q => k - q.1) ((0, .slice none 0 0, [], [], .slice none 0 0, [], [])) rfl rfl ⟨rfl, trivial⟩ ⟨rfl, trivial⟩ rfl (fun _ => rfl) (⟨Nat.zero_le _, ⟨rfl, fun j c n e1 e2 => by cases e1⟩, ⟨rfl, fun j c n e1 e2 => by cases e1⟩, OwnL.nil _ _, OwnL.nil _ _⟩) ?_
 rintro ⟨i, vT, ps, owT, vO, us, owO⟩ G1 hG1 ⟨hi, hps, hus, hownT, hownO⟩
 dsimp only at hi hps hus hownT hownO
 obtain ⟨ta, tc, rfl⟩ := hownT.val
 obtain ⟨oa, oc, rfl⟩ := hownO.val
 try refine RUN ?_
 refine EV.cond rfl (fun hlt => ?_) (fun hlt => ?_)
 ·simp only [nN] at hlt
  have hit : i < ts.length := by omega
  have hio : i < os.length := by omega
  obtain ⟨t, hti⟩ : ∃ t, ts[i]? = some t := ⟨_, List.getElem?_eq_getElem hit⟩
  obtain ⟨l, hli⟩ : ∃ l, os[i]? = some l := ⟨_, List.getElem?_eq_getElem hio⟩
  obtain ⟨kk1, kk2, kk3⟩ := (hok t (List.mem_of_getElem? hti)).copies
  obtain ⟨cc, hcut, htr⟩ := (hts.mono hG1).get hti
  obtain ⟨a3, c3, css, rfl, _, _⟩ := id htr
  obtain ⟨la, lc, hv, hil⟩ := (hos.mono hG1).get hli
  try refine RUN ?_
  apply EV.drawn 9 kR kR; intro xv yw
  (repeat (first | refine' DV ?_ | refine' DA ?_ | refine' DK0 ?_ | refine' DT ?_ | refine' DS ?_))
  refine' DJ.idxM tO rfl rfl rfl rfl rfl rfl rfl rfl rfl ((hst.mono hG1)) (i) (rfl) (hit) (hcut) ?_; rotate_left
  (repeat (first | refine' DV ?_ | refine' DA ?_ | refine' DK0 ?_ | refine' DT ?_ | refine' DS ?_))
  (refine' DJ.call rfl rfl rfl rfl rfl (cO func46) (fun G hG hd => copied_pc (htr.mono hG) kk1 kk2 kk3) (fun v G G' ⟨cs', e, h⟩ k => ⟨cs', e, h.mono k⟩) ?_; rotate_left)
  (refine' DJ.litD1 (Φ := fun v G => ∃ cs, SlC G v 1 4 cs ∧ PTree G cs t.kd t.cl t.w t.ns) (fun v G G' ⟨cs, e, h⟩ k => ⟨cs, e.mono k, h.mono k⟩) tO rfl rfl rfl rfl rfl rfl rfl rfl rfl rfl rfl (fun G hd => by obtain ⟨cs, e, h⟩ := hd.head kR; rw [e]; exact h.len) (fun G G' v hd hG h => (by
   obtain ⟨cs, e, hp⟩ := hd.head kR
   rw [e, flat1] at h
   exact ⟨cs, h, hp.mono hG⟩)) ?_; rotate_left)
  (refine DJ.nil (fun G2 hG2 hF2 => ?_); (case hS|hS2 => rfl))
  obtain ⟨cs2, hs2, hp2⟩ := hF2.1
  refine EVL.append tO rfl rfl rfl rfl rfl rfl rfl rfl rfl rfl rfl rfl [] owT owO rfl hownT (SrcAt.ro hs2 (Nat.succ_pos 0)) hp2.one oM ?_
  intro vT' owT' hownT'
  obtain ⟨ta', tc', rfl⟩ := hownT'.val
  try refine RUN ?_
  apply EV.drawn 9 kR kR; intro xv yw
  (repeat (first | refine' DV ?_ | refine' DA ?_ | refine' DK0 ?_ | refine' DT ?_ | refine' DS ?_))
  refine' DJ.ofVal (ValOk.idx1 tO rfl rfl rfl rfl rfl rfl rfl rfl ((hso.mono (hG1.trans hG2))) (i) (rfl) (hio) (hv)) rfl rfl rfl ?_; rotate_left
  (repeat (first | refine' DV ?_ | refine' DA ?_ | refine' DK0 ?_ | refine' DT ?_ | refine' DS ?_))
  refine' DJ.call rfl rfl rfl rfl rfl (cO func47) (fun G hG hd => cloneI_pc ((hil.mono hG2).mono hG) (hlo l (List.mem_of_getElem? hli))) (fun _ _ _ h k => SlC.mono h k) ?_; rotate_left
  (refine' DJ.litD1 (Φ := fun v G => ∃ u, SlC G v 1 1 [u] ∧ IL G u l) (fun v G G' ⟨u, e, h⟩ k => ⟨u, e.mono k, SlC.mono h k⟩) tO rfl rfl rfl rfl rfl rfl rfl rfl rfl rfl rfl (fun G hd => by obtain ⟨a, c, e⟩ := SlC.val (hd.head kR); rw [e]; rfl) (fun G G' v hd hG h => (by
   have hh := hd.head kR
   obtain ⟨a, c, e⟩ := SlC.val hh
   rw [e] at hh
   rw [e] at h
   exact ⟨_, h, SlC.mono hh hG⟩)) ?_; rotate_left)
  (refine DJ.nil (fun G3 hG3 hF3 => ?_); (case hS|hS2 => rfl))
  obtain ⟨u3, hs3, hp3⟩ := hF3.1
  obtain ⟨ua, uc, rfl⟩ := SlC.val hp3
  refine EVL.append tO rfl rfl rfl rfl rfl rfl rfl rfl rfl rfl rfl rfl owT' owO [] (by rw [List.append_nil]; rfl) hownO (SrcAt.ro hs3 (Nat.succ_pos 0)) rfl oM ?_
  intro vO' owO' hownO'
  obtain ⟨oa', oc', rfl⟩ := hownO'.val
  try refine RUN ?_
  refine ⟨(i + 1, .slice ta' (i + 1) tc', ps ++ [cs2], owT', .slice oa' (i + 1) oc', us ++ [_], owO'), ⟨by dsimp only; rw [wi_inc i (by omega)]; rfl, trivial⟩, sB, ⟨rfl, trivial⟩, sB, by dsimp only; rw [List.append_nil], ⟨hlt, by dsimp only; rw [take_snoc hti]; exact rel_snoc (hps.mono (hG2.trans hG3)) (hp2.mono hG3), by dsimp only; rw [take_snoc hli]; exact rel_snoc (hus.mono (hG2.trans hG3)) hp3, by dsimp only; rw [List.flatten_append, flatS]; exact hownT', hownO'⟩, hG2.trans hG3, by dsimp only; omega⟩
 ·simp only [nN] at hlt
  obtain rfl : i = k := by omega
  (first | refine EVL.publishL [] owT owO (rfl) hownT fun G4 hG4 hsT => ?_ | refine EV.publishL [] owT owO (rfl) hownT fun G4 hG4 hsT => ?_)
  (first | refine EVL.publishL [] owO [] ((by rw [List.append_nil])) hownO fun G5 hG5 hsO => ?_ | refine EV.publishL [] owO [] ((by rw [List.append_nil])) hownO fun G5 hG5 hsO => ?_)
  try refine RUN ?_
  refine ⟨fun e => absurd rfl e, fun _ => ⟨_, _, _, _, rfl, ⟨ps, hps.mono (hG4.trans hG5), ?_⟩, ⟨us, hus.mono (hG4.trans hG5), ?_⟩⟩⟩
  ·rw [List.length_take, Nat.min_eq_left hkl]; exact hsT.mono hG5
  ·rw [List.length_take, Nat.min_eq_left (by omega)]; exact hsO
end Go.Proofs.YtgjepkeeeemppaaGreatDoor
namespace Go.Proofs.YtgjepkeeeemppaaGreatDoor
theorem okL_asc {l : List Int} (h : l.Pairwise (· < ·)) (hb : ∀ z, z ∈ l → 0 ≤ z ∧ z < 300) : okL l = true := by
 refine List.all_eq_true.2 fun k hk => ?_
 have hk' := List.mem_range.1 hk
 have e1 : l.getD k 0 = l[k] := by rw [List.getD_eq_getElem?_getD, List.getElem?_eq_getElem hk']; rfl
 have h1 := hb _ (List.getElem_mem hk')
 unfold okAt
 rw [e1, decide_eq_true h1.1, decide_eq_true h1.2]
 by_cases h0 : k = 0
 ·subst h0; rfl
 ·have hk2 : k - 1 < l.length := by omega
  have e2 : l.getD (k - 1) 0 = l[k - 1] := by rw [List.getD_eq_getElem?_getD, List.getElem?_eq_getElem hk2]; rfl
  rw [e2, decide_eq_true (List.pairwise_iff_getElem.1 h (k - 1) k hk2 hk' oM)]
  simp
theorem upTo_lt (n : Nat) : (upTo n).Pairwise (· < ·) := by
 unfold upTo
 rw [List.pairwise_map]
 exact List.pairwise_lt_range.imp (by intro a b h; simp; omega)
theorem restL_ok {n : Nat} (hn : n ≤ 300) (l : List Int) : okL (restL n l) = true ∧ (restL n l).length ≤ 300 := by
 refine ⟨okL_asc ((upTo_lt n).sublist List.filter_sublist) fun z hz => ?_, Nat.le_trans (restL_le n l) hn⟩
 have hm := (List.mem_filter.1 hz).1
 unfold upTo at hm
 obtain ⟨i, hi, rfl⟩ := List.mem_map.1 hm
 have := List.mem_range.1 hi
 show (0 : Int) ≤ (i : Int) ∧ (i : Int) < 300
 omega
theorem wood_lists {p : GP} {n D : Nat} (hn : n ≤ 300) (kd cl w : Int) : ∀ (k : Nat) (s : Int) (l : List Int), l ∈ (p.wood D n kd cl w k s).2.1 → okL l = true ∧ l.length ≤ 300
 | 0, s, l, h => by cases h
 | k + 1, s, l, h => by
  rw [GP.wood_succ] at h
  rcases List.mem_append.1 h with h | h
  ·exact wood_lists hn kd cl w k s l h
  ·rw [List.mem_singleton.1 h]
   exact restL_ok hn _
end Go.Proofs.YtgjepkeeeemppaaGreatDoor
namespace Go.Proofs.YtgjepkeeeemppaaGreatDoor
open Go.RowKit _root_.Go.Proofs.Tryz
structure Wooden (H : Hp) (v : Value) (kd cl w : Int) (ts : List Tr) (os : List (List Int)) : Prop where
 val : ∃ a1 c1 a2 c2, v = forestV kd cl w (.slice a1 ts.length c1) (.slice a2 os.length c2) ∧ RTL H (.slice a1 ts.length c1) ts ∧ ILL H (.slice a2 os.length c2) os
 trees : ∀ t, t ∈ ts → TreeOk t ∧ fitT kd cl w t = true
 lists : ∀ l, l ∈ os → okL l = true ∧ l.length ≤ 300
 len : os.length = ts.length
set_option maxHeartbeats 4000000 in
theorem wood20_pc {H : Hp} {kd cl least seed : Int} {ga va : Option Addr} {gn gc vn vc N W D sm nt : Nat} {vx : Value} {b1 : Bool} {a1 a2 : Option Addr} {l1 c1 l2 c2 : Nat} {lg ll : List Int} (hg : GoalR H (goalV kd cl (.slice ga gn gc) (.slice va vn vc)) N (rowQ lg N)) (hX : RLL H vx (rowsQ ll N W)) (hq : RQ H (.agg #[.bool b1, .slice a1 l1 c1, .slice a2 l2 c2]) 0)
  (hN : 1 ≤ N ∧ N ≤ 300) (hW : 1 ≤ W ∧ W ≤ 20) (hD : D ≤ 9) (hsm : 1 ≤ sm ∧ sm ≤ W) (hnt : 1 ≤ nt ∧ nt ≤ 50) (hl : 1 ≤ least ∧ least ≤ 300) (hs : 0 ≤ seed) :
  PC prog 6 #[goalV kd cl (.slice ga gn gc) (.slice va vn vc), vx, woodV nt sm seed (D : Int) least (.bool b1) (.slice a1 l1 c1) (.slice a2 l2 c2)] H fun r G => ∃ v ts os, r = .tuple #[v, .int .i64 0] ∧ Wooden G v kd cl (W : Int) ts os ∧ ts.length = nt := by
 obtain ⟨cost, mean, cnt, hR, hP⟩ := goal_gp hg (rowQ_len _ _) hN.1 hN.2 (rowQ_ht N)
 have hlen := rowsQ_len ll N W
 have hrows := fun x hx => rowsQ_ht (l := ll) (n := N) (w := W) x hx
 generalize hXe : rowsQ ll N W = X at *
 subst hlen
 have hgp := hP.gp (sm := sm) (least := least) hN.2 hW.1 oM hrows
 obtain ⟨xa, xc, rfl⟩ := hX.val
 have h0 : ht (0 : Rat) ≤ 100000000 := by rw [ht_zero]; decide
 refine (growForest_pc (p := woodP X cost mean cnt least W sm) (D := D) (sm := sm) (w := W) (fun s => rfl) hsm.1 hsm.2 hW.2 (by show 0 < X.length; omega) hN.2 (fun x hx => (hrows x hx).1) (fun x hx => (hrows x hx).2) rfl hl h0 Rat.le_refl oM hR hX hq hnt.1 hnt.2 hs).mono ?_
 rintro r G ⟨at', ct, ao, co, rfl, hT, hO⟩ hG
 obtain ⟨e1, e2, _⟩ := (woodP X cost mean cnt least W sm).wood_len D (woodP X cost mean cnt least W sm).X.length kd cl (W : Int) nt seed
 have hT1 := fun t ht => wood_ok hgp hW hD hN.1 nt seed t ht
 have hL1 := fun l hl => wood_lists (p := woodP X cost mean cnt least W sm) (D := D) hgp.rowsX kd cl (W : Int) nt seed l hl
 generalize ((woodP X cost mean cnt least W sm).wood D (woodP X cost mean cnt least W sm).X.length kd cl (W : Int) nt seed) = R at *
 have e1' : R.1.length = nt := e1
 have e2' : R.2.1.length = nt := e2
 refine ⟨_, R.1, R.2.1, rfl, ⟨⟨at', ct, ao, co, by rw [e1', e2'], by rw [e1']; exact hT, by rw [e2']; exact hO⟩, hT1, hL1, by rw [e1', e2']⟩, e1'⟩
theorem overI_pv (a b : Int) (ha : 0 ≤ a ∧ a ≤ 1000) (hb : 1 ≤ b ∧ b ≤ 1000) : PV prog 50 #[.int .i64 a, .int .i64 b] (.tuple #[fracV (mkRat a b.natAbs), .bool true]) := by
 have h1 := wholeOf_pv a oM oM
 have h2 := wholeOf_pv b oM oM
 have b1 : bl a.natAbs ≤ 20 := bl_le oM
 have b2 : bl b.natAbs ≤ 20 := bl_le oM
 have h3 := make_pv a b (by show bl a.natAbs ≤ _; omega) (by show bl b.natAbs ≤ _; omega) oM
 rw [if_neg (show ¬ b < 0 by omega)] at h3
 refine PV.of_pc ?_
 refine BD func50 ntmps50 ?_
 repeat (first | refine RUN ?_ | refine CV (h1) ?_ | refine CV (h2) ?_ | refine CV (h3) ?_ | refine CE (h1) ?_ | refine CE (h2) ?_ | refine CE (h3) ?_)
 rfl
def votesQ (C n : Nat) (ks : List Int) : List Rat := (cntL C ks).map fun c => mkRat c n
theorem votesQ_len (C n : Nat) (ks : List Int) : (votesQ C n ks).length = C := by unfold votesQ; rw [List.length_map, cntL_len]
set_option maxRecDepth 100000 in
set_option maxHeartbeats 16000000 in
theorem votes_pc {H : Hp} {C : Nat} {w : Int} {a1 a2 : Option Addr} {c1 c2 : Nat} {vx : Value} {ts : List Tr} {os : List (List Int)} {x : List Rat} (ht : PTL H (.slice a1 ts.length c1) ts) (ho : ILL H (.slice a2 os.length c2) os) (hok : ∀ t, t ∈ ts → TreeOk t) (hlo : ∀ l, l ∈ os → l.length ≤ 1000000) (hol : os.length ≤ 1000000) (hC : 1 ≤ C ∧ C ≤ 12) (hck : checkF 1 C w ts os = 0) (hx : QL H vx x) (hxl : (x.length : Int) = w) (hxs : ∀ q, q ∈ x → sm q) :
  PC prog 16 #[forestV 1 C w (.slice a1 ts.length c1) (.slice a2 os.length c2), vx] H fun r G => ∃ ks v, CLs x ks ts ∧ r = .tuple #[v, .int .i64 0] ∧ QL G v (votesQ C ts.length ks) := by
 obtain ⟨xa, xc, rfl⟩ := SlC.val hx
 have hrf := refuse_pc (kd := 1) (cl := (C : Int)) (w := w) (xa := xa) (xn := x.length) (xc := xc) ht ho hok hlo hol
 rw [if_pos hck, if_pos hxl] at hrf
 have hall : 1 ≤ ts.length ∧ ts.length ≤ 50 ∧ ts.all (fitT 1 C w) = true := by
  unfold checkF at hck
  split at hck
  ·cases hck
  ·split at hck
   ·rename_i h3 h4; exact ⟨by omega, by omega, h4⟩
   ·cases hck
 have hfit : ∀ t, t ∈ ts → TreeOk t ∧ fitT 1 C w t = true := fun t hm => ⟨hok t hm, List.all_eq_true.1 hall.2.2 t hm⟩
 have hcnt := count_pc (vt := .slice a1 ts.length c1) (vo := .slice a2 os.length c2) ht hfit hC oM hx hxl hxs
 refine BD func16 ntmps16 ?_
 repeat (first | refine RUN ?_ | refine CV (hrf) ?_ | refine CE (hrf) ?_)
 refine EVL.make tO rfl rfl rfl rfl rfl rfl rfl rfl rfl (C) (rfl) oM (by rfl) (by rfl) fun b => ?_
 try refine RUN ?_
 refine EVL.call rfl rfl rfl rfl rfl (hcnt) ?_
 rintro r1 G1 ⟨ks, hks, hil⟩ hG1
 obtain ⟨la, lc, rfl⟩ := SlC.val hil
 have hlen := cntL_len C ks
 have hkl := hks.1
 have hilS : SlC G1 (.slice la (cntL C ks).length lc) (cntL C ks).length 1 ((cntL C ks).map iv) := hil
 rw [hlen] at hilS
 try refine RUN ?_
 (first | refine EVL.swapOw ([(b, 67, (([] : List Rat) ++ List.replicate (C - 0) 0).flatMap cqF)]) ([]) ((by rw [← cqF_zero]; rfl)) ?_ | refine EV.swapOw ([(b, 67, (([] : List Rat) ++ List.replicate (C - 0) 0).flatMap cqF)]) ([]) ((by rw [← cqF_zero]; rfl)) ?_)
 refine EV.loopK (ι := List Rat) [2, 7, 26, 27] [2] (fun qs => [(28, .v (.int .i64 (qs.length : Int)))]) (fun _ => []) (fun qs => [(b, 67, (qs ++ List.replicate (C - qs.length) 0).flatMap cqF)]) (fun qs _ => qs.length ≤ C ∧ qs = (votesQ C ts.length ks).take qs.length) (fun qs => C - qs.length) ([]) rfl rfl ⟨rfl, trivial⟩ trivial rfl (fun _ => rfl) (⟨Nat.zero_le _, rfl⟩) ?_
 rintro qs G2 hG2 ⟨hi, hqs⟩
 rw [hlen]
 try refine RUN ?_
 refine EV.cond rfl (fun hlt => ?_) (fun hlt => ?_)
 ·simp only [nN] at hlt
  have hcl : qs.length < (cntL C ks).length := by omega
  have g1 := cntL_at (C := C) ks hlt
  have hm : ks.count ((qs.length : Nat) : Int) ≤ 50 := Nat.le_trans List.count_le_length oM
  have hv1 : (votesQ C ts.length ks)[qs.length]? = some (mkRat ((ks.count ((qs.length : Nat) : Int) : Nat) : Int) ts.length) := by
   unfold votesQ; rw [List.getElem?_map, g1]; rfl
  generalize ks.count ((qs.length : Nat) : Int) = m at *
  have hov := overI_pv ((m : Nat) : Int) ((ts.length : Nat) : Int) oM oM
  rw [Int.natAbs_natCast] at hov
  try refine RUN ?_
  refine EVL.idxR tO rfl rfl rfl rfl rfl rfl rfl rfl rfl rfl ((hilS.mono hG2)) (qs.length) (rfl) (hlt) ((by rw [List.getElem?_map, g1]; rfl)) ?_
  repeat (first | refine RUN ?_ | refine CV (hov) ?_ | refine CE (hov) ?_)
  refine EVL.idxB tO rfl rfl rfl rfl rfl rfl rfl rfl rfl (qs.length) (qs.length * 5) (rfl) (hlt) (rfl) ?_
  refine EVL.storeOwn tO rfl rfl rfl rfl rfl rfl ([]) ([]) rfl rfl rfl rfl ((by rw [cqF_len, List.length_append, List.length_replicate]; show qs.length * 5 + 5 ≤ _; omega)) ((cqF_set qs (mkRat (m : Int) ts.length) hlt)) ?_
  try refine RUN ?_
  refine ⟨qs ++ [mkRat (m : Int) ts.length], ⟨by rw [wi_inc qs.length oM, List.length_append]; rfl, trivial⟩, sB, trivial, sB, rfl, ⟨by rw [List.length_append, List.length_singleton]; omega, by rw [List.length_append, List.length_singleton, take_snoc hv1, ← hqs]⟩, Hp.Le.refl _, by rw [List.length_append, List.length_singleton]; omega⟩
 ·simp only [nN] at hlt
  have hi2 : qs.length = C := by omega
  rw [hi2, List.take_of_length_le (by rw [votesQ_len]; omega)] at hqs
  (first | refine EVL.publish [] [] rfl fun G3 hG3 hb3 => ?_ | refine EV.publish [] [] rfl fun G3 hG3 hb3 => ?_)
  rw [hi2, Nat.sub_self, List.replicate_zero, List.append_nil] at hb3
  have hql := ql_own hb3 hi2
  try refine RUN ?_
  exact ⟨ks, _, hks, rfl, by rw [← hqs]; exact hql⟩
end Go.Proofs.YtgjepkeeeemppaaGreatDoor
namespace Go.Proofs.YtgjepkeeeemppaaGreatDoor
def knN (c : Nat) : Nd := ⟨-1, 0, 0, 1, (c : Int), 0, 0, 0, [1 - (c : Int), (c : Int)]⟩
def knT (c : Nat) : Tr := ⟨1, 2, 1, [knN c]⟩
def knTs : List Tr := [knT 0, knT 1, knT 1]
theorem knN_ok {c : Nat} (h : c ≤ 1) : OkN 1 2 (knN c) where
 rows := ⟨by show (1 : Int) ≤ 1; omega, by show (1 : Int) ≤ 1048576; omega⟩
 cost := Rat.le_refl
 len := rfl
 pos := fun z hz => by
  rcases List.mem_cons.1 hz with e | hz
  ·omega
  ·rw [List.mem_singleton.1 hz]; omega
 sum := fun _ => by
  show (1 - (c : Int)) + ((c : Int) + 0) = 1
  omega
 cls := by
  rcases Nat.lt_or_ge c 1 with k | k
  ·obtain rfl : c = 0 := by omega
   rfl
  ·obtain rfl : c = 1 := by omega
   rfl
 value := fun _ => rfl
 small := by
  show ht 0 ≤ 100 ∧ ht 0 ≤ 2000000 ∧ ht 0 ≤ 4000
  rw [ht_zero]; decide
theorem knT_ok {c : Nat} (h : c ≤ 1) : TreeOk (knT c) where
 kind := .inl ⟨rfl, by show (1 : Int) ≤ 2; omega, by show (2 : Int) ≤ 12; omega⟩
 wide := ⟨by show (1 : Int) ≤ 1; omega, by show (1 : Int) ≤ 20; omega⟩
 len := by show 1 ≤ 2000; omega
 sub := ⟨0, by omega, .leaf (n := knN c) rfl rfl rfl rfl rfl⟩
 nodes := fun i hi => by
  have hi' : i < 1 := hi
  obtain rfl : i = 0 := by omega
  exact ⟨knN c, rfl, knN_ok h, fun e => absurd rfl e⟩
theorem knTs_ok : ∀ t, t ∈ knTs → TreeOk t := fun t ht => by
 rcases List.mem_cons.1 ht with rfl | ht
 ·exact knT_ok oM
 ·rcases List.mem_cons.1 ht with rfl | ht
  ·exact knT_ok oM
  ·rw [List.mem_singleton.1 ht]; exact knT_ok oM
theorem knTs_check : checkF 1 2 1 knTs [[], [], []] = 0 := by decide
theorem knT_says {x : List Rat} {k : Int} {c : Nat} (h : Says x k (knT c)) : k = (c : Int) := by
 obtain ⟨i, n, hL, hn, rfl⟩ := h
 have h0 : Leaf (knT c).ns x 0 0 := .here (n := knN c) rfl rfl
 rw [← h0.det hL] at hn
 cases hn
 rfl
theorem knTs_votes {x : List Rat} {ks : List Int} (h : CLs x ks knTs) : ks = [0, 1, 1] := by
 obtain ⟨hl, h⟩ := h
 match ks, hl with
 | [a, b, c], _ =>
  rw [knT_says (h 0 a (knT 0) rfl rfl), knT_says (h 1 b (knT 1) rfl rfl), knT_says (h 2 c (knT 1) rfl rfl)]
  rfl
theorem kn_votesQ : votesQ 2 3 [0, 1, 1] = [mkRat 1 3, mkRat 2 3] := by decide +kernel
end Go.Proofs.YtgjepkeeeemppaaGreatDoor
namespace Go.Proofs.YtgjepkeeeemppaaGreatDoor
open Go.RowKit _root_.Go.Proofs.Tryz
theorem kn_tree {H : Hp} {b : Nat} {cs : List Value} {n : Nd} {kd cl w : Int} (h : PNode H cs n) (hb : H b = some cs.toArray) : PTree H [.int .i64 kd, .int .i64 cl, .int .i64 w, .slice (some ⟨b, 0, none⟩) 1 1] kd cl w [n] :=
 ⟨some ⟨b, 0, none⟩, 1, [cs], rfl, ⟨rfl, fun j c m e1 e2 => by
  have hj := (List.getElem?_eq_some_iff.1 e1).1
  simp at hj
  subst hj
  cases e1; cases e2; exact h⟩, by
  rw [flatS]
  exact ⟨h.len, .inr ⟨b, 0, 1, _, rfl, Nat.le_refl _, hb, fun j x hj => by rw [Nat.zero_add, List.getElem?_toArray]; exact hj⟩⟩⟩
theorem kn_lists : ∀ l, l ∈ ([[], [], []] : List (List Int)) → l.length ≤ 1000000 := by decide
theorem kn_row : ∀ q, q ∈ ([((0 : Int) : Rat)] : List Rat) → sm q := fun q hq => by
 rw [List.mem_singleton.1 hq]
 show ht 0 ≤ 100000000
 rw [ht_zero]; decide
set_option maxRecDepth 100000 in
set_option maxHeartbeats 16000000 in
theorem known20_pc {H : Hp} : PC prog 7 #[] H fun r _ => r = .bool true := by
 refine BD func7 ntmps7 ?_
 try refine RUN ?_
 refine EVL.make tO rfl rfl rfl rfl rfl rfl rfl rfl rfl (3) (rfl) oM (by rfl) (by rfl) fun b => ?_
 (first | refine EVL.publish [] [] rfl fun G0 hG0 hb0 => ?_ | refine EV.publish [] [] rfl fun G0 hG0 hb0 => ?_)
 have hout : ILL G0 (.slice (some ⟨b, 0, none⟩) 3 3) [[], [], []] := ⟨[.slice none 0 0, .slice none 0 0, .slice none 0 0], ⟨rfl, fun j v l e1 e2 => by
  match j, e1, e2 with
  | 0, e1, e2 => cases e1; cases e2; exact IL.nil _ _ _
  | 1, e1, e2 => cases e1; cases e2; exact IL.nil _ _ _
  | 2, e1, e2 => cases e1; cases e2; exact IL.nil _ _ _⟩, ⟨rfl, .inr ⟨b, 0, 3, _, rfl, Nat.le_refl _, hb0, fun j x hj => by rw [Nat.zero_add, List.getElem?_toArray]; exact hj⟩⟩⟩
 try refine RUN ?_
 refine EV.loopK (ι := Nat × Value × List (List Value) × Ows) [0, 1] [] (fun q => [(2, .v (.int .i64 (q.1 : Int)))]) (fun q => [(1, 56, [.int .i64 1, .int .i64 2, .int .i64 1, q.2.1, .slice (some ⟨b, 0, none⟩) 3 3])]) (fun q => q.2.2.2) (fun q G => q.1 ≤ 3 ∧ PTs G q.2.2.1 (knTs.take q.1) ∧ OwnL 110 4 q.2.1 q.1 q.2.2.1.flatten q.2.2.2) (fun q => 3 - q.1) ((0, .slice none 0 0, [], [])) rfl rfl ⟨rfl, trivial⟩ ⟨rfl, trivial⟩ rfl (fun _ => rfl) (⟨Nat.zero_le _, ⟨rfl, fun j c n e1 e2 => by cases e1⟩, OwnL.nil _ _⟩) ?_
 rintro ⟨i, u, ps, ow⟩ G1 hG1 ⟨hi, hps, hown⟩
 dsimp only at hi hps hown
 obtain ⟨wa, wc, rfl⟩ := hown.val
 try refine RUN ?_
 refine EV.cond rfl (fun hlt => ?_) (fun hlt => ?_)
 ·simp only [nN] at hlt
  have h012 : i = 0 ∨ i = 1 ∨ i = 2 := by omega
  rcases h012 with hi0 | hi1 | hi2
  ·subst hi0
   try refine RUN ?_
   refine EVL.lit tO rfl rfl rfl rfl rfl rfl rfl rfl rfl rfl rfl fun bl => ?_
   (first | refine EVL.publish [] ow rfl fun G2 hG2 hb2 => ?_ | refine EV.publish [] ow rfl fun G2 hG2 hb2 => ?_)
   have hil : IL G2 (.slice (some ⟨bl, 0, none⟩) 2 2) (knN 0).counts := il_own (sp := []) hb2 rfl
   try refine RUN ?_
   refine EVL.lit tO rfl rfl rfl rfl rfl rfl rfl rfl rfl rfl rfl fun bn => ?_
   (first | refine EVL.publish [] ow rfl fun G3 hG3 hb3 => ?_ | refine EV.publish [] ow rfl fun G3 hG3 hb3 => ?_)
   have hnd : PNode G3 _ (knN 0) := ⟨some ⟨bl, 0, none⟩, 2, hil.mono hG3, rfl⟩
   have htr : PTree G3 [.int .i64 1, .int .i64 2, .int .i64 1, .slice (some ⟨bn, 0, none⟩) 1 1] 1 2 1 [knN 0] := kn_tree hnd (by rw [hb3]; exact congrArg some (congrArg List.toArray (by show _ = _ ++ (vlist (fracV 0) ++ (vlist (fracV 0) ++ (vlist (fracV 0) ++ _))); rw [frac_zero_cells]; rfl)))
   try refine RUN ?_
   refine EVL.app1 tO rfl rfl rfl rfl rfl rfl rfl rfl rfl rfl rfl rfl rfl rfl rfl rfl rfl rfl rfl (fun _ => rfl) (ow) ([]) ((List.append_nil _).symm) (hown) oM fun _ => ?_
   intro v' ow' hown'
   obtain ⟨va, vc, rfl⟩ := hown'.val
   try refine RUN ?_
   refine ⟨(0 + 1, _, ps ++ [_], ow'), ⟨rfl, trivial⟩, sB, ⟨rfl, trivial⟩, sB, List.append_nil _, ⟨by dsimp only; omega, by dsimp only; exact rel_snoc (xs := ps) (ys := knTs.take 0) (hps.mono (hG2.trans hG3)) htr, by dsimp only; rw [List.flatten_append, flatS]; exact hown'⟩, hG2.trans hG3, by dsimp only; omega⟩
  ·subst hi1
   try refine RUN ?_
   refine EVL.lit tO rfl rfl rfl rfl rfl rfl rfl rfl rfl rfl rfl fun bl => ?_
   (first | refine EVL.publish [] ow rfl fun G2 hG2 hb2 => ?_ | refine EV.publish [] ow rfl fun G2 hG2 hb2 => ?_)
   have hil : IL G2 (.slice (some ⟨bl, 0, none⟩) 2 2) (knN 1).counts := il_own (sp := []) hb2 rfl
   try refine RUN ?_
   refine EVL.lit tO rfl rfl rfl rfl rfl rfl rfl rfl rfl rfl rfl fun bn => ?_
   (first | refine EVL.publish [] ow rfl fun G3 hG3 hb3 => ?_ | refine EV.publish [] ow rfl fun G3 hG3 hb3 => ?_)
   have hnd : PNode G3 _ (knN 1) := ⟨some ⟨bl, 0, none⟩, 2, hil.mono hG3, rfl⟩
   have htr : PTree G3 [.int .i64 1, .int .i64 2, .int .i64 1, .slice (some ⟨bn, 0, none⟩) 1 1] 1 2 1 [knN 1] := kn_tree hnd (by rw [hb3]; exact congrArg some (congrArg List.toArray (by show _ = _ ++ (vlist (fracV 0) ++ (vlist (fracV 0) ++ (vlist (fracV 0) ++ _))); rw [frac_zero_cells]; rfl)))
   try refine RUN ?_
   refine EVL.app1 tO rfl rfl rfl rfl rfl rfl rfl rfl rfl rfl rfl rfl rfl rfl rfl rfl rfl rfl rfl (fun _ => rfl) (ow) ([]) ((List.append_nil _).symm) (hown) oM fun _ => ?_
   intro v' ow' hown'
   obtain ⟨va, vc, rfl⟩ := hown'.val
   try refine RUN ?_
   refine ⟨(1 + 1, _, ps ++ [_], ow'), ⟨rfl, trivial⟩, sB, ⟨rfl, trivial⟩, sB, List.append_nil _, ⟨by dsimp only; omega, by dsimp only; exact rel_snoc (xs := ps) (ys := knTs.take 1) (hps.mono (hG2.trans hG3)) htr, by dsimp only; rw [List.flatten_append, flatS]; exact hown'⟩, hG2.trans hG3, by dsimp only; omega⟩
  ·subst hi2
   try refine RUN ?_
   refine EVL.lit tO rfl rfl rfl rfl rfl rfl rfl rfl rfl rfl rfl fun bl => ?_
   (first | refine EVL.publish [] ow rfl fun G2 hG2 hb2 => ?_ | refine EV.publish [] ow rfl fun G2 hG2 hb2 => ?_)
   have hil : IL G2 (.slice (some ⟨bl, 0, none⟩) 2 2) (knN 1).counts := il_own (sp := []) hb2 rfl
   try refine RUN ?_
   refine EVL.lit tO rfl rfl rfl rfl rfl rfl rfl rfl rfl rfl rfl fun bn => ?_
   (first | refine EVL.publish [] ow rfl fun G3 hG3 hb3 => ?_ | refine EV.publish [] ow rfl fun G3 hG3 hb3 => ?_)
   have hnd : PNode G3 _ (knN 1) := ⟨some ⟨bl, 0, none⟩, 2, hil.mono hG3, rfl⟩
   have htr : PTree G3 [.int .i64 1, .int .i64 2, .int .i64 1, .slice (some ⟨bn, 0, none⟩) 1 1] 1 2 1 [knN 1] := kn_tree hnd (by rw [hb3]; exact congrArg some (congrArg List.toArray (by show _ = _ ++ (vlist (fracV 0) ++ (vlist (fracV 0) ++ (vlist (fracV 0) ++ _))); rw [frac_zero_cells]; rfl)))
   try refine RUN ?_
   refine EVL.app1 tO rfl rfl rfl rfl rfl rfl rfl rfl rfl rfl rfl rfl rfl rfl rfl rfl rfl rfl rfl (fun _ => rfl) (ow) ([]) ((List.append_nil _).symm) (hown) oM fun _ => ?_
   intro v' ow' hown'
   obtain ⟨va, vc, rfl⟩ := hown'.val
   try refine RUN ?_
   refine ⟨(2 + 1, _, ps ++ [_], ow'), ⟨rfl, trivial⟩, sB, ⟨rfl, trivial⟩, sB, List.append_nil _, ⟨by dsimp only; omega, by dsimp only; exact rel_snoc (xs := ps) (ys := knTs.take 2) (hps.mono (hG2.trans hG3)) htr, by dsimp only; rw [List.flatten_append, flatS]; exact hown'⟩, hG2.trans hG3, by dsimp only; omega⟩
 ·simp only [nN] at hlt
  obtain rfl : i = 3 := by omega
  (first | refine EVL.publishL [] ow [] ((List.append_nil _).symm) hown fun G4 hG4 hs4 => ?_ | refine EV.publishL [] ow [] ((List.append_nil _).symm) hown fun G4 hG4 hs4 => ?_)
  have hT : PTL G4 (.slice wa knTs.length wc) knTs := ⟨ps, hps.mono hG4, hs4⟩
  have hO : ILL G4 (.slice (some ⟨b, 0, none⟩) ([[], [], []] : List (List Int)).length 3) [[], [], []] := (hout.mono hG1).mono hG4
  have hof := of_pv 0 oM oM
  try refine RUN ?_
  apply EV.drawn 9 kR kR; intro xv yw
  (repeat (first | refine' DV ?_ | refine' DA ?_ | refine' DK0 ?_ | refine' DT ?_ | (refine' DC (hof) (h := ?_); rotate_left) | refine' DS ?_))
  (refine' DJ.litD1 (Φ := fun v G => QL G v [((0 : Int) : Rat)]) (fun _ _ _ h k => QL.mono h k) tO rfl rfl rfl rfl rfl rfl rfl rfl rfl rfl rfl (fun G hd => rfl) (fun G G' v hd hG h => h) ?_; rotate_left)
  (refine' DJ.call rfl rfl rfl rfl rfl (cO func16) (fun G hG hd => votes_pc (C := 2) (w := 1) (hT.mono hG) (hO.mono hG) knTs_ok kn_lists (by decide) oM knTs_check (hd.head kR) rfl kn_row) (fun v G G' ⟨ks, u, h1, e, h⟩ k => ⟨ks, u, h1, e, QL.mono h k⟩) ?_; rotate_left)
  refine' DJ.copy (3) (by first | exact .inl rfl | exact .inr rfl) rfl rfl rfl id rfl kR ?_; rotate_left
  refine' DJ.extract (3) rfl rfl rfl rfl rfl kR (fun G hd => (by obtain ⟨ks, v, _, e, _⟩ := hd.head kR; exact ⟨_, e, Nat.zero_lt_succ _⟩)) ?_; rotate_left
  refine' DJ.extract (3) rfl rfl rfl rfl rfl kR (fun G hd => (by obtain ⟨ks, v, _, e, _⟩ := hd.head kR; exact ⟨_, e, Nat.lt_succ_self _⟩)) ?_; rotate_left
  (refine' DJ.copy 3 (by first | exact .inl rfl | exact .inr rfl) rfl rfl rfl (tupAt 0) rfl kR ?_; rotate_left)
  (refine' DJ.copy 3 (by first | exact .inl rfl | exact .inr rfl) rfl rfl rfl (tupAt 1) rfl kR ?_; rotate_left)
  (refine DJ.nil (fun G5 hG5 hF5 => ?_); (case hS|hS2 => rfl))
  obtain ⟨⟨ks, v6, hks, e, hql⟩, _⟩ := hF5
  rw [e]
  obtain rfl := knTs_votes hks
  rw [show knTs.length = 3 from rfl, kn_votesQ] at hql
  obtain ⟨ya, yc, rfl⟩ := SlC.val hql
  have hq0 : ((([mkRat 1 3, mkRat 2 3] : List Rat).flatMap fun q => vlist (fracV q)).drop (0 * 5)).take 5 = vlist (fracV (mkRat 1 3)) := QL.at (H := H) (v := .bool true) (j := 0) rfl
  have hq1 : ((([mkRat 1 3, mkRat 2 3] : List Rat).flatMap fun q => vlist (fracV q)).drop (1 * 5)).take 5 = vlist (fracV (mkRat 2 3)) := QL.at (H := H) (v := .bool true) (j := 1) rfl
  have hi1 := fun G : Hp => is_pc (H := G) (mkRat 1 3) (by show ht (mkRat 1 3) ≤ 100000000; decide +kernel) 1 3 oM oM oM oM oM (by decide +kernel)
  have hi2 := fun G : Hp => is_pc (H := G) (mkRat 2 3) (by show ht (mkRat 2 3) ≤ 100000000; decide +kernel) 2 3 oM oM oM oM oM (by decide +kernel)
  have hqS : SlC G5 (.slice ya 2 yc) 2 5 (([mkRat 1 3, mkRat 2 3] : List Rat).flatMap fun q => vlist (fracV q)) := hql
  try refine RUN ?_
  refine EVL.idxM tO rfl rfl rfl rfl rfl rfl rfl rfl rfl (hqS) (0) (rfl) ((show (0 : Nat) < 2 from Nat.zero_lt_succ _)) (hq0) ?_
  repeat (first | refine RUN ?_ | refine CV (hi1 _) ?_ | refine CE (hi1 _) ?_)
  refine EVL.idxM tO rfl rfl rfl rfl rfl rfl rfl rfl rfl (hqS) (1) (rfl) ((show (1 : Nat) < 2 from Nat.lt_succ_self _)) (hq1) ?_
  repeat (first | refine RUN ?_ | refine CV (hi2 _) ?_ | refine CE (hi2 _) ?_)
  rfl
end Go.Proofs.YtgjepkeeeemppaaGreatDoor
namespace Go.Proofs.YtgjepkeeeemppaaGreatDoor
open Go.ChangeShapes Go.WideShapes Go.ChangeAt Go.RowKit
def hpOf (W : World) : Hp := fun b => match W.heap[b]? with
 | some (.cells c _ _) => some c
 | _ => none
theorem fits_hpOf (W : World) : Fits (hpOf W) W := fun b c h => by
 unfold hpOf at h
 split at h
 ·rename_i c' T fz hb; cases h; exact ⟨T, fz, hb⟩
 ·cases h
section
variable {H : Type} {enc : TypeId × Value → H} {P : Program} {w : World} {base : Nat} {spare : Nat → Bool} {held : Bool}
theorem ints_open {t e : TypeId} {k : IntKind} {fuel : Nat} {cs : List Value} {x : DataW H × List MemPlace} (ht : P.underlying t = some (.slice e)) (he : P.underlying e = some (.int k)) (hc : P.cellsOf e = 1) (h : DataW.trod enc P w base spare held fuel t cs = some x) :
  ∃ a len cap zs, cs = [.slice a len cap] ∧ SlN (fun z : Int => Value.int k z) (hpOf w) (.slice a len cap) zs ∧ ∀ n ∈ zs, (Lit.int k n).wf = true := by
 rcases open_ints ht he hc h with ⟨rfl, _⟩ | ⟨x, len, cap, zs, rfl, _, hl, hm, hz, _, hcell, hw⟩
 ·exact ⟨none, 0, 0, [], rfl, nil_sl _ _, fun n hn => by cases hn⟩
 ·have hzl : len ≤ zs.length := by rw [hz]; split <;> omega
  refine ⟨some x, len, cap, zs.take len, rfl, ?_, fun n hn => hw n (List.mem_of_mem_take hn)⟩
  have hlen : (zs.take len).length = len := by rw [List.length_take]; omega
  unfold SlN
  rw [hlen]
  refine ⟨by rw [List.length_map, hlen, Nat.mul_one], ?_⟩
  by_cases h0 : len = 0
  ·subst h0; exact .inl ⟨rfl, some x, cap, rfl⟩
  ·right
   have h1 := hcell 0 oM
   obtain ⟨b, off, sp⟩ := x
   have hsp : sp = none := by
    cases sp with
    | none => rfl
    | some s => simp only [World.cell?, Addr.add] at h1; split at h1 <;> simp_all
   subst hsp
   have hb : ∃ c, hpOf w b = some c ∧ ∀ i, i < zs.length → c[off + i]? = some (.int k (zs.getD i 0)) := by
    simp only [Addr.add_mid] at hcell
    unfold World.cell? at hcell
    unfold hpOf
    simp only at hcell
    cases hw' : w.heap[b]? with
    | none => have := hcell 0 oM; rw [hw'] at this; cases this
    | some o =>
     cases o with
     | cells c T fz => exact ⟨c, rfl, fun i hi => by have := hcell i hi; rw [hw'] at this; simpa using this⟩
     | _ => have := hcell 0 oM; rw [hw'] at this; cases this
   obtain ⟨c, hc1, hc2⟩ := hb
   refine ⟨b, off, cap, c, rfl, hl, hc1, fun j y hj => ?_⟩
   rw [List.getElem?_map, List.getElem?_take] at hj
   split at hj
   ·rename_i hjl
    rw [hc2 j oM, ← hj, List.getD_eq_getElem?_getD, List.getElem?_eq_getElem (by omega)]; rfl
   ·cases hj
end
theorem i64_bounds {z : Int} (h : (Lit.int .i64 z).wf = true) : -9223372036854775808 ≤ z ∧ z < 9223372036854775808 := by
 have := bounds_i64 h; omega
end Go.Proofs.YtgjepkeeeemppaaGreatDoor
namespace Go.Proofs.YtgjepkeeeemppaaGreatDoor
open Go.ChangeShapes Go.WideShapes Go.ChangeAt Go.RowKit
def Raw20 (H : Hp) (v : Value) : Prop := ∃ kd n w dp ls tr sm seed vg vl lg ll, v = rawV kd n w dp ls tr sm seed vg vl ∧ (i64B n ∧ i64B w ∧ i64B dp ∧ i64B ls ∧ i64B tr ∧ i64B sm) ∧ 0 ≤ seed ∧ IL H vg lg ∧ (∀ z, z ∈ lg → i64B z) ∧ IL H vl ll ∧ ∀ z, z ∈ ll → i64B z
theorem Raw20.mono {H G : Hp} {v : Value} (h : Raw20 H v) (k : H.Le G) : Raw20 G v := by
 obtain ⟨kd, n, w, dp, ls, tr, sm, seed, vg, vl, lg, ll, e, h1, h2, h3, h4, h5, h6⟩ := h
 exact ⟨kd, n, w, dp, ls, tr, sm, seed, vg, vl, lg, ll, e, h1, h2, SlC.mono h3 k, h4, SlC.mono h5 k, h6⟩
theorem ten_of {α : Type} : ∀ {l : List α}, l.length = 10 → ∃ a b c d e f g h i j, l = [a, b, c, d, e, f, g, h, i, j]
 | [a, b, c, d, e, f, g, h, i, j], _ => ⟨a, b, c, d, e, f, g, h, i, j, rfl⟩
theorem raw20_open {H : Type} {enc : TypeId × Value → H} {w : World} {base : Nat} {spare : Nat → Bool} {held : Bool} {v : Value} {d : DataW H} {p : List MemPlace} (hv : ∃ cs, v = .agg cs) (h : DataW.Trod enc Tryz.prog w base spare held 25 v d p) : Raw20 (hpOf w) v := by
 obtain ⟨cs, rfl⟩ := hv
 obtain ⟨fuel, h⟩ := h
 obtain ⟨xs, n, _, hx, hl, hlen, hf⟩ := DataW.trod_struct Tryz.underlying25 h
 rw [show Tryz.prog.cellsOf 25 = 10 from by kernel_rfl] at hl
 have hl4 : cs.toList.length = 10 := hl
 obtain ⟨l, rfl⟩ : ∃ l : List Value, cs = l.toArray := ⟨cs.toList, by simp⟩
 have hl4' : l.length = 10 := by simpa using hl4
 obtain ⟨c0, c1, c2, c3, c4, c5, c6, c7, c8, c9, rfl⟩ := ten_of hl4'
 have hx4 : xs.length = 10 := hlen
 have f0 : DataW.trod enc Tryz.prog w base spare held n 3 (([c0, c1, c2, c3, c4, c5, c6, c7, c8, c9].drop 0).take (Tryz.prog.cellsOf 3)) = xs[0]? := hf 0 _ rfl
 have f1 : DataW.trod enc Tryz.prog w base spare held n 3 (([c0, c1, c2, c3, c4, c5, c6, c7, c8, c9].drop 1).take (Tryz.prog.cellsOf 3)) = xs[1]? := hf 1 _ rfl
 have f2 : DataW.trod enc Tryz.prog w base spare held n 3 (([c0, c1, c2, c3, c4, c5, c6, c7, c8, c9].drop 2).take (Tryz.prog.cellsOf 3)) = xs[2]? := hf 2 _ rfl
 have f3 : DataW.trod enc Tryz.prog w base spare held n 3 (([c0, c1, c2, c3, c4, c5, c6, c7, c8, c9].drop 3).take (Tryz.prog.cellsOf 3)) = xs[3]? := hf 3 _ rfl
 have f4 : DataW.trod enc Tryz.prog w base spare held n 3 (([c0, c1, c2, c3, c4, c5, c6, c7, c8, c9].drop 4).take (Tryz.prog.cellsOf 3)) = xs[4]? := hf 4 _ rfl
 have f5 : DataW.trod enc Tryz.prog w base spare held n 3 (([c0, c1, c2, c3, c4, c5, c6, c7, c8, c9].drop 5).take (Tryz.prog.cellsOf 3)) = xs[5]? := hf 5 _ rfl
 have f6 : DataW.trod enc Tryz.prog w base spare held n 3 (([c0, c1, c2, c3, c4, c5, c6, c7, c8, c9].drop 6).take (Tryz.prog.cellsOf 3)) = xs[6]? := hf 6 _ rfl
 have f7 : DataW.trod enc Tryz.prog w base spare held n 22 (([c0, c1, c2, c3, c4, c5, c6, c7, c8, c9].drop 7).take (Tryz.prog.cellsOf 22)) = xs[7]? := hf 7 _ rfl
 have f8 : DataW.trod enc Tryz.prog w base spare held n 23 (([c0, c1, c2, c3, c4, c5, c6, c7, c8, c9].drop 8).take (Tryz.prog.cellsOf 23)) = xs[8]? := hf 8 _ rfl
 have f9 : DataW.trod enc Tryz.prog w base spare held n 23 (([c0, c1, c2, c3, c4, c5, c6, c7, c8, c9].drop 9).take (Tryz.prog.cellsOf 23)) = xs[9]? := hf 9 _ rfl
 rw [show Tryz.prog.cellsOf 3 = 1 from by kernel_rfl] at f0 f1 f2 f3 f4 f5 f6
 rw [show Tryz.prog.cellsOf 22 = 1 from by kernel_rfl] at f7
 rw [show Tryz.prog.cellsOf 23 = 1 from by kernel_rfl] at f8 f9
 rw [List.getElem?_eq_getElem (by omega)] at f0 f1 f2 f3 f4 f5 f6 f7 f8 f9
 obtain ⟨z0, e0, _, w0⟩ := DataW.trod_int Tryz.underlying3 f0
 obtain ⟨z1, e1, _, w1⟩ := DataW.trod_int Tryz.underlying3 f1
 obtain ⟨z2, e2, _, w2⟩ := DataW.trod_int Tryz.underlying3 f2
 obtain ⟨z3, e3, _, w3⟩ := DataW.trod_int Tryz.underlying3 f3
 obtain ⟨z4, e4, _, w4⟩ := DataW.trod_int Tryz.underlying3 f4
 obtain ⟨z5, e5, _, w5⟩ := DataW.trod_int Tryz.underlying3 f5
 obtain ⟨z6, e6, _, w6⟩ := DataW.trod_int Tryz.underlying3 f6
 obtain ⟨z7, e7, _, w7⟩ := DataW.trod_int Tryz.underlying22 f7
 obtain ⟨a8, l8, k8, b8, e8, s8, d8⟩ := ints_open Tryz.underlying23 Tryz.underlying3 kR f8
 obtain ⟨a9, l9, k9, b9, e9, s9, d9⟩ := ints_open Tryz.underlying23 Tryz.underlying3 kR f9
 have g0 : [c0] = [.int .i64 z0] := e0
 have g1 : [c1] = [.int .i64 z1] := e1
 have g2 : [c2] = [.int .i64 z2] := e2
 have g3 : [c3] = [.int .i64 z3] := e3
 have g4 : [c4] = [.int .i64 z4] := e4
 have g5 : [c5] = [.int .i64 z5] := e5
 have g6 : [c6] = [.int .i64 z6] := e6
 have g7 : [c7] = [.int .u64 z7] := e7
 have g8 : [c8] = [.slice a8 l8 k8] := e8
 have g9 : [c9] = [.slice a9 l9 k9] := e9
 cases g0; cases g1; cases g2; cases g3; cases g4; cases g5; cases g6; cases g7; cases g8; cases g9
 have hs := bounds_u64 w7
 exact ⟨z0, z1, z2, z3, z4, z5, z6, z7, _, _, b8, b9, rfl, ⟨i64_bounds w1, i64_bounds w2, i64_bounds w3, i64_bounds w4, i64_bounds w5, i64_bounds w6⟩, by omega, s8, fun z hz => i64_bounds (d8 z hz), s9, fun z hz => i64_bounds (d9 z hz)⟩
end Go.Proofs.YtgjepkeeeemppaaGreatDoor
namespace Go.Proofs.YtgjepkeeeemppaaGreatDoor
open Go.RowKit _root_.Go.Proofs.Tryz
theorem rel_put {α β : Type} {R : α → β → Prop} {A B : List α} {c c' : α} {ys : List β} {y : β} (h : (A ++ c :: B).length = ys.length ∧ ∀ (j : Nat) (x : α) (y : β), (A ++ c :: B)[j]? = some x → ys[j]? = some y → R x y) (k : R c' y) :
  (A ++ c' :: B).length = (ys.set A.length y).length ∧ ∀ (j : Nat) (x : α) (z : β), (A ++ c' :: B)[j]? = some x → (ys.set A.length y)[j]? = some z → R x z := by
 refine ⟨by have := h.1; simpa using this, fun j x m e1 e2 => ?_⟩
 rcases Nat.lt_trichotomy j A.length with q | q | q
 ·rw [List.getElem?_set_ne (by omega)] at e2
  exact h.2 j x m (by rw [List.getElem?_append_left q] at e1 ⊢; exact e1) e2
 ·subst q
  rw [List.getElem?_append_right (Nat.le_refl _), Nat.sub_self] at e1
  cases e1
  have hl : A.length < ys.length := by have := h.1; simp at this; omega
  rw [List.getElem?_set_self hl] at e2
  cases e2
  exact k
 ·obtain ⟨p, hp⟩ : ∃ p, j - A.length = p + 1 := ⟨j - A.length - 1, by omega⟩
  rw [List.getElem?_set_ne (by omega)] at e2
  exact h.2 j x m (by rw [List.getElem?_append_right oM, hp, List.getElem?_cons_succ] at e1 ⊢; exact e1) e2
theorem rel_cut {α β : Type} {R : α → β → Prop} {xs : List α} {ys : List β} (h : xs.length = ys.length ∧ ∀ (j : Nat) (x : α) (y : β), xs[j]? = some x → ys[j]? = some y → R x y) (k : Nat) :
  (xs.take k).length = (ys.take k).length ∧ ∀ (j : Nat) (x : α) (y : β), (xs.take k)[j]? = some x → (ys.take k)[j]? = some y → R x y := by
 refine ⟨by rw [List.length_take, List.length_take, h.1], fun j x y e1 e2 => ?_⟩
 rw [List.getElem?_take] at e1 e2
 split at e1
 ·rename_i hj
  rw [if_pos hj] at e2
  exact h.2 j x y e1 e2
 ·cases e1
theorem split_at {α : Type} {l : List α} {k : Nat} (h : k < l.length) : ∃ A c B, l = A ++ c :: B ∧ A.length = k := ⟨l.take k, l[k], l.drop (k + 1), by rw [List.getElem_cons_drop, List.take_append_drop], by rw [List.length_take]; omega⟩
theorem OwnL.cut {e : TypeId} {s m g cap k : Nat} {xs sp : List Value} (h : (xs ++ sp).length = cap * s) (hm : m ≤ cap) (hc : cap ≤ maxLen) (hx : xs.length = m * s) (hk : k ≤ m) : OwnL e s (.slice (some ⟨g, 0, none⟩) k cap) k (xs.take (k * s)) [(g, e, xs ++ sp)] := by
 have h1 : k * s ≤ m * s := Nat.mul_le_mul_right s hk
 refine ⟨by rw [List.length_take, hx]; omega, .inr ⟨g, cap, xs.drop (k * s) ++ sp, rfl, ?_, ?_, by omega, hc⟩⟩
 ·rw [← List.append_assoc, List.take_append_drop]
 ·rw [← List.append_assoc, List.take_append_drop]; exact h
theorem RTs.flat_len {H : Hp} : ∀ {css : List (List Value)} {ns : List Tr}, RTs H css ns → css.flatten.length = css.length * 4
 | [], _, _ => rfl
 | c :: css, [], h => by have := h.1; simp at this
 | c :: css, n :: ns, h => by
  obtain ⟨_, _, _, h1, _⟩ := h.2 0 c n rfl rfl
  have h2 := RTs.flat_len (css := css) (ns := ns) ⟨by have := h.1; simpa using this, fun j c' n' e1 e2 => h.2 (j + 1) c' n' (by rw [List.getElem?_cons_succ]; exact e1) (by rw [List.getElem?_cons_succ]; exact e2)⟩
  rw [List.flatten_cons, List.length_append, List.length_cons, h2, h1]
  show 4 + _ = _
  omega
theorem RTs.take_flat {H : Hp} {css : List (List Value)} {ns : List Tr} (h : RTs H css ns) (k : Nat) : css.flatten.take (k * 4) = (css.take k).flatten := by
 have h1 : css.flatten = (css.take k).flatten ++ (css.drop k).flatten := by rw [← List.flatten_append, List.take_append_drop]
 by_cases hk : k ≤ css.length
 ·have h2 : (css.take k).flatten.length = k * 4 := by
   rw [RTs.flat_len (rel_cut h k), List.length_take, Nat.min_eq_left hk]
  rw [h1, List.take_append_of_le_length oM, List.take_of_length_le (by omega)]
 ·rw [List.take_of_length_le (show css.length ≤ k by omega), List.take_of_length_le]
  rw [h.flat_len]
  exact Nat.mul_le_mul_right 4 oM
structure Turned (ts : List Tr) (os : List (List Int)) : Prop where
 trees : ∀ t, t ∈ ts → TreeOk t
 lists : ∀ l, l ∈ os → l.length ≤ 1000000
 small : ts.length ≤ 4 ∧ os.length ≤ 4
theorem Turned.smallF {ts : List Tr} {os : List (List Int)} (h : Turned ts os) : SmallF ts os := by
 obtain ⟨h1, h2, h3, h4⟩ := h
 refine ⟨⟨by omega, fun t ht => ?_⟩, by omega, h2⟩
 have hok := h1 t ht
 refine ⟨hok.copies.2.1, fun n hn => ?_⟩
 obtain ⟨i, hi⟩ := List.mem_iff_getElem?.1 hn
 obtain ⟨n', e, hN, _⟩ := hok.nodes i (List.getElem?_eq_some_iff.1 hi).1
 cases hi.symm.trans e
 exact hN.smallN (by rcases hok.kind with ⟨_, _, h⟩ | ⟨_, h⟩ <;> omega)
theorem checkF_wide {kd cl w : Int} {ts : List Tr} {os : List (List Int)} (h : checkF kd cl w ts os = 0) (hok : ∀ t, t ∈ ts → TreeOk t) : w % 21 = w ∧ 1 ≤ ts.length := by
 have hall : 0 < ts.length ∧ ts.all (fitT kd cl w) = true := by
  unfold checkF at h
  split at h
  ·cases h
  ·split at h
   ·rename_i h3 h4; exact ⟨by omega, h4⟩
   ·cases h
 obtain ⟨t0, ht0⟩ : ∃ t, ts[0]? = some t := ⟨_, List.getElem?_eq_getElem hall.1⟩
 have hm := List.mem_of_getElem? ht0
 have hf := List.all_eq_true.1 hall.2 t0 hm
 unfold fitT at hf
 simp only [Bool.and_eq_true, beq_iff_eq] at hf
 obtain ⟨_, hw, _⟩ := hok t0 hm
 have := hf.2.2
 exact ⟨by omega, hall.1⟩
theorem RTs.one {H : Hp} : ∀ {css : List (List Value)} {ns : List Tr}, RTs H css ns → oneB css.flatten = true
 | [], _, _ => rfl
 | c :: css, [], h => by have := h.1; simp at this
 | c :: css, n :: ns, h => by
  rw [List.flatten_cons]
  obtain ⟨_, _, _, h1, _⟩ := h.2 0 c n rfl rfl
  refine oneB_app (by rw [h1]; rfl) (RTs.one (ns := ns) ⟨?_, fun j c' n' e1 e2 => h.2 (j + 1) c' n' (by rw [List.getElem?_cons_succ]; exact e1) (by rw [List.getElem?_cons_succ]; exact e2)⟩)
  have := h.1
  simpa using this
theorem ILs.one {H : Hp} : ∀ {vs : List Value} {ls : List (List Int)}, ILs H vs ls → oneB vs = true
 | [], _, _ => rfl
 | v :: vs, [], h => by have := h.1; simp at this
 | v :: vs, l :: ls, h => by
  obtain ⟨a, c, e⟩ := SlC.val (h.2 0 v l rfl rfl)
  have := ILs.one (vs := vs) (ls := ls) ⟨by have := h.1; simpa using this, fun j c' n' e1 e2 => h.2 (j + 1) c' n' (by rw [List.getElem?_cons_succ]; exact e1) (by rw [List.getElem?_cons_succ]; exact e2)⟩
  subst e
  unfold oneB
  rw [this]; rfl
theorem flat_mid1 (A B : List Value) (c : Value) (sp : List Value) : (A ++ c :: B) ++ sp = A ++ ([c] ++ (B ++ sp)) := by simp
theorem RTs.left_len {H : Hp} {A B : List (List Value)} {c : List Value} {ns : List Tr} (h : RTs H (A ++ c :: B) ns) : A.flatten.length = A.length * 4 := by
 have h1 := RTs.flat_len (rel_cut h A.length)
 rw [List.take_left] at h1
 exact h1
theorem OwnL.re {e : TypeId} {s m g cap : Nat} {xs xs' sp : List Value} (h : (xs ++ sp).length = cap * s) (hm : m ≤ cap) (hc : cap ≤ maxLen) (hx : xs.length = m * s) (hl : xs'.length = xs.length) : OwnL e s (.slice (some ⟨g, 0, none⟩) m cap) m xs' [(g, e, xs' ++ sp)] :=
 ⟨by rw [hl]; exact hx, .inr ⟨g, cap, sp, rfl, rfl, by rw [← h, List.length_append, List.length_append, hl], hm, hc⟩⟩
section
variable {P : Program} {n : Nat} {ops : Array Oper} {o : Oper} {rest : List Oper} {env : Env} {bx : Bxs} {H : Hs} {Q : EQ} {τ : Tab} {d : Nat}
theorem EVL.appendR (hτ : TabOk P τ) {T : TypeId} {x y : Operand} (ho : o.op = .call { callee := .builtin .append, args := #[x, y], argTypes := #[T, T] }) (hg : o.guard = none) (hw : wantB ops env o = some true) (hd : o.dst = some d) (hn : Nat.blt d n = true) {te te' : TE} {e : TypeId} (ht : τ.get T = some te) (hk : te.kind = .slice e) (ht' : τ.get e = some te')
  (hzs : Nat.beq te'.zero.length te'.size = true) (hpos : Nat.ble 1 te'.size = true) (hby : Nat.ble te'.bytes 10000 = true) {v : Value} (hx : env.op x = some (.v v)) {u : Value} (hy : env.op y = some (.v u)) (pre ow post : Ows) (he : H.ow = pre ++ (ow ++ post)) {m1 m2 : Nat} {xs ys : List Value}
  (hown : OwnL e te'.size v m1 xs ow) (hsrc : SlC H.ro u m2 te'.size ys) (h1 : oneB ys = true) (hm : m1 + m2 ≤ 1000000000)
  (h : ∀ v' ow', OwnL e te'.size v' (m1 + m2) (xs ++ ys) ow' → EVL P n ops rest ((d, .v v') :: env) bx ⟨H.ro, pre ++ (ow' ++ post), H.base⟩ Q) : EVL P n ops (o :: rest) env bx H Q := by
 by_cases h0 : m2 = 0
 ·subst h0
  obtain ⟨a', c', rfl⟩ := SlC.val hsrc
  have hys : ys = [] := List.length_eq_zero_iff.1 (by rw [hsrc.1, Nat.zero_mul])
  subst hys
  have hle : ∃ a c, v = .slice a m1 c ∧ m1 ≤ c := by
   rcases hown.2 with ⟨e1, e2, _⟩ | ⟨g, cap, sp, e1, _, _, e2, _⟩
   ·subst e2; exact ⟨_, _, e1, Nat.le_refl _⟩
   ·exact ⟨_, _, e1, e2⟩
  obtain ⟨a, c, rfl, hle⟩ := hle
  refine EVL.append0 hτ ho hw hd hn ht hk ht' hx hy hle ?_
  have := h _ ow (by rw [List.append_nil]; exact hown)
  rw [← he] at this
  exact this
 ·exact EVL.append hτ ho hg hd hn ht hk ht' hzs hpos hby hx hy pre ow post he hown (SrcAt.ro hsrc oM) h1 hm h
end
structure TS where
 kd : Int
 w : Int
 vT : Value
 tcs : List (List Value)
 owT : Ows
 vO : Value
 us : List Value
 owO : Ows
 ts : List Tr
 os : List (List Int)
structure TS.Ok (q : TS) (T1 T2 : TypeId) (G : Hp) : Prop where
 ownT : OwnL T1 4 q.vT q.ts.length q.tcs.flatten q.owT
 ownO : OwnL T2 1 q.vO q.os.length q.us q.owO
 cellsT : RTs G q.tcs q.ts
 cellsO : ILs G q.us q.os
 turned : Turned q.ts q.os
 wide : i64B q.w
theorem one20N_pc {H : Hp} {v : Value} (h : Raw20 H v) : PC prog 5 #[v] H fun r G => ∃ (kd cl least seed : Int) (ga va a1 a2 : Option Addr) (gn gc vn vc N W D sm nt l1 c1 l2 c2 : Nat) (vx : Value) (b1 : Bool) (lg ll : List Int),
  r = .tuple #[goalV kd cl (.slice ga gn gc) (.slice va vn vc), vx, woodV nt sm seed (D : Int) least (.bool b1) (.slice a1 l1 c1) (.slice a2 l2 c2)] ∧
  GoalR G (goalV kd cl (.slice ga gn gc) (.slice va vn vc)) N (rowQ lg N) ∧ RLL G vx (rowsQ ll N W) ∧ RQ G (.agg #[.bool b1, .slice a1 l1 c1, .slice a2 l2 c2]) 0 ∧
  (1 ≤ N ∧ N ≤ 8) ∧ (1 ≤ W ∧ W ≤ 3) ∧ D ≤ 2 ∧ (1 ≤ sm ∧ sm ≤ W) ∧ (1 ≤ nt ∧ nt ≤ 4) ∧ (1 ≤ least ∧ least ≤ 3) ∧ 0 ≤ seed := by
 obtain ⟨kd, n, w, dp, ls, tr, sm, seed, vg, vl, lg, ll, rfl, ⟨hn, hw, hdp, hls, htr, hsm⟩, hsd, hg, hgb, hl, hlb⟩ := h
 obtain ⟨N, hN⟩ : ∃ N : Nat, 1 + n % 8 = (N : Int) := ⟨(1 + n % 8).toNat, by omega⟩
 obtain ⟨W, hW⟩ : ∃ W : Nat, 1 + w % 3 = (W : Int) := ⟨(1 + w % 3).toNat, by omega⟩
 obtain ⟨D, hD⟩ : ∃ D : Nat, dp % 3 = (D : Int) := ⟨(dp % 3).toNat, by omega⟩
 obtain ⟨NT, hNT⟩ : ∃ D : Nat, 1 + tr % 4 = (D : Int) := ⟨(1 + tr % 4).toNat, by omega⟩
 have h1 := Int.emod_nonneg sm (show (W : Int) ≠ 0 by omega)
 have h2 := Int.emod_lt_of_pos sm (show 0 < (W : Int) by omega)
 obtain ⟨SM, hSM⟩ : ∃ D : Nat, 1 + sm % (W : Int) = (D : Int) := ⟨(1 + sm % (W : Int)).toNat, by omega⟩
 refine (one20_pc kd n w dp ls tr sm seed hn hw hdp hls htr hsm hg hgb hl hlb hN hW).mono ?_
 rintro r G ⟨kd', cl, ga, gn, gc, va, vn, vc, vx, b1, a1, l1, c1, a2, l2, c2, rfl, r1, r2, r3⟩ hG
 rw [hNT, hSM, hD]
 exact ⟨kd', cl, 1 + ls % 3, seed, ga, va, a1, a2, gn, gc, vn, vc, N, W, D, SM, NT, l1, c1, l2, c2, vx, b1, lg, ll, rfl, r1, r2, r3, by omega, by omega, by omega, by omega, by omega, by omega, hsd⟩
set_option maxRecDepth 100000 in
set_option maxHeartbeats 64000000 in
theorem checks20_pc {H : Hp} {vx vy : Value} (turn at' by' : Int) (hx : Raw20 H vx) (hy : Raw20 H vy) (htn : i64B turn) (hat : i64B at') (hby : i64B by') : PC prog 3 #[vx, vy, .int .i64 turn, .int .i64 at', .int .i64 by'] H fun r _ => r = .bool true := by
 have ho1 := one20N_pc hx
 have ho2 := fun G (hG : H.Le G) => one20N_pc (hy.mono hG)
 obtain ⟨_, _, _, _, _, _, _, _, _, _, _, _, rfl, _⟩ := hx
 obtain ⟨_, _, _, _, _, _, _, _, _, _, _, _, rfl, _⟩ := hy
 refine BD func3 ntmps3 ?_
 try refine RUN ?_
 refine EVL.call rfl rfl rfl rfl rfl (ho1) ?_
 rintro r1 G1 ⟨kd1, cl1, least1, seed1, ga1, va1, p1, q1, gn1, gc1, vn1, vc1, N1, W1, D1, sm1, nt1, l1, c1, l2, c2, vX1, b1, lg1, ll1, rfl, hg1, hX1, hq1, hN1, hW1, hD1, hsm1, hnt1, hl1, hs1⟩ hG1
 obtain ⟨xa1, xc1, rfl⟩ := hX1.val
 try refine RUN ?_
 refine EVL.call rfl rfl rfl rfl rfl (wood20_pc hg1 hX1 hq1 oM oM oM hsm1 oM oM hs1) ?_
 rintro r2 G2 ⟨v1, ts1, os1, rfl, hw1, hlen1⟩ hG2
 obtain ⟨⟨ta1, tc1, oa1, oc1, rfl, hT1, hO1⟩, hok1, hlo1, hll1⟩ := hw1
 try refine RUN ?_
 refine EVL.call rfl rfl rfl rfl rfl (ho2 _ (hG1.trans hG2)) ?_
 rintro r3 G3 ⟨kd2, cl2, least2, seed2, ga2, va2, p2, q2, gn2, gc2, vn2, vc2, N2, W2, D2, sm2, nt2, l3, c3, l4, c4, vX2, b2, lg2, ll2, rfl, hg2, hX2, hq2, hN2, hW2, hD2, hsm2, hnt2, hl2, hs2⟩ hG3
 obtain ⟨xa2, xc2, rfl⟩ := hX2.val
 try refine RUN ?_
 refine EVL.call rfl rfl rfl rfl rfl (wood20_pc hg2 hX2 hq2 oM oM oM hsm2 oM oM hs2) ?_
 rintro r4 G4 ⟨v2, ts2, os2, rfl, hw2, hlen2⟩ hG4
 obtain ⟨⟨ta2, tc2, oa2, oc2, rfl, hT2, hO2⟩, hok2, hlo2, hll2⟩ := hw2
 clear hg1 hX1 hq1 hg2 hX2 hq2
 have hT1' := hT1.mono (hG3.trans hG4)
 have hO1' := hO1.mono (hG3.trans hG4)
 obtain ⟨tcs1, hts1, hst1⟩ := hT1'
 obtain ⟨vos1, hos1, hso1⟩ := hO1'
 obtain ⟨tcs2, hts2, hst2⟩ := hT2
 have hk0 : 0 ≤ at' % (ts1.length : Int) ∧ at' % (ts1.length : Int) < (ts1.length : Int) := ⟨Int.emod_nonneg _ oM, Int.emod_lt_of_pos _ oM⟩
 have hp1 := pick_pv at' (ts1.length : Int) hat oM oM
 obtain ⟨k, hk⟩ : ∃ k : Nat, at' % (ts1.length : Int) = (k : Int) := ⟨(at' % (ts1.length : Int)).toNat, by omega⟩
 rw [hk] at hp1 hk0
 have hkl : k < ts1.length := by omega
 have hp2 := pick_pv turn 8 htn oM oM
 have hm0 : 0 ≤ turn % 8 ∧ turn % 8 < 8 := by omega
 generalize turn % 8 = m at *
 repeat (first | refine RUN ?_ | refine CV (hp1) ?_ | refine CE (hp1) ?_)
 refine EVL.lit0 tO rfl rfl rfl rfl rfl rfl rfl fun g0 => ?_
 try refine RUN ?_
 refine EVL.append tO rfl rfl rfl rfl rfl rfl rfl rfl rfl rfl rfl rfl [] [(g0, 53, [])] [] rfl (OwnL.full (m := 0) rfl oM) (SrcAt.ro hst1 oM) hts1.one oM ?_
 intro vT owT hownT
 rw [Nat.zero_add, List.nil_append] at hownT
 obtain ⟨gT, capT, spT, rfl, rfl, hT3, hT4, hT5⟩ := hownT.block oM
 try refine RUN ?_
 refine EVL.lit0 tO rfl rfl rfl rfl rfl rfl rfl fun g1 => ?_
 try refine RUN ?_
 refine EVL.append tO rfl rfl rfl rfl rfl rfl rfl rfl rfl rfl rfl rfl [] [(g1, 23, [])] [(gT, _, _)] rfl (OwnL.full (m := 0) rfl oM) (SrcAt.ro hso1 oM) hos1.one oM ?_
 intro vO owO hownO
 rw [Nat.zero_add, List.nil_append] at hownO
 obtain ⟨gO, capO, spO, rfl, rfl, hO3, hO4, hO5⟩ := hownO.block oM
 try refine RUN ?_
 refine CV hp2 ?_
 (try refine RUNB ?_)
 refine EV.meetK (ι := TS) [14] [] (fun q => [(22, .v q.vT), (23, .v q.vO)]) (fun q => [(14, 46, [.int .i64 q.kd, .int .i64 cl1, .int .i64 q.w, .slice ta1 ts1.length tc1, .slice oa1 os1.length oc1])]) (fun q => q.owO ++ q.owT) (fun q G => G4.Le G ∧ q.Ok 53 23 G) rfl rfl (fun _ => rfl) ?_ ?_
 ·have hTd : Turned ts1 os1 := ⟨fun t ht => (hok1 t ht).1, fun l hl => by have := (hlo1 l hl).2; omega, by omega⟩
  have hwB : i64B (W1 : Int) := by unfold i64B; omega
  have hcutO : ∀ j, j ≤ os1.length → OwnL 23 1 (.slice (some ⟨gO, 0, none⟩) j capO) j (vos1.take (j * 1)) [(gO, 23, vos1 ++ spO)] := fun j hj => OwnL.cut hO3 hO4 hO5 hso1.1 hj
  have hcutT : ∀ j, j ≤ ts1.length → OwnL 53 4 (.slice (some ⟨gT, 0, none⟩) j capT) j (tcs1.flatten.take (j * 4)) [(gT, 53, tcs1.flatten ++ spT)] := fun j hj => OwnL.cut hT3 hT4 hT5 hst1.1 hj
  have hkeep : TS.Ok ⟨kd1, (W1 : Int), .slice (some ⟨gT, 0, none⟩) ts1.length capT, tcs1, [(gT, 53, tcs1.flatten ++ spT)], .slice (some ⟨gO, 0, none⟩) os1.length capO, vos1, [(gO, 23, vos1 ++ spO)], ts1, os1⟩ 53 23 G4 := ⟨hownT, hownO, hts1, hos1, hTd, hwB⟩
  have h8 : m = 0 ∨ m = 1 ∨ m = 2 ∨ m = 3 ∨ m = 4 ∨ m = 5 ∨ m = 6 ∨ m = 7 := by omega
  rcases h8 with rfl | rfl | rfl | rfl | rfl | rfl | rfl | rfl
  ·obtain ⟨A, c, B, rfl, rfl⟩ := split_at (l := tcs1) (k := k) (by rw [hts1.1]; exact hkl)
   have hAf := hts1.left_len
   obtain ⟨t2, ht2⟩ : ∃ t, ts2[0]? = some t := ⟨_, List.getElem?_eq_getElem oM⟩
   obtain ⟨t1, ht1⟩ : ∃ t, ts1[A.length]? = some t := ⟨_, List.getElem?_eq_getElem hkl⟩
   obtain ⟨a0, c0, css0, rfl, _⟩ := hts1.2 A.length c t1 (by rw [List.getElem?_append_right (Nat.le_refl _), Nat.sub_self]; rfl) ht1
   obtain ⟨cc, hcut, htr⟩ := hts2.get ht2
   have htr' := htr
   obtain ⟨a3, c3, css3, rfl, _, _⟩ := id htr
   have hown2 := OwnL.re (e := 53) (g := gT) (xs' := (A ++ [.int .i64 t2.kd, .int .i64 t2.cl, .int .i64 t2.w, .slice a3 t2.ns.length c3] :: B).flatten) hT3 hT4 hT5 hst1.1 (by simp)
   rw [flat_mid]
   try refine RUN ?_
   refine EVL.idxM tO rfl rfl rfl rfl rfl rfl rfl rfl rfl (hst2) (0) (rfl) (oM) (hcut) ?_
   try refine RUN ?_
   refine EVL.idxB tO rfl rfl rfl rfl rfl rfl rfl rfl rfl (A.length) (A.length * 4) (rfl) (hkl) (rfl) ?_
   refine EVL.storeOwn tO rfl rfl rfl rfl rfl rfl ([(gO, _, _)]) ([]) rfl rfl rfl rfl ((by rw [List.length_append, hAf, List.length_append]; show A.length * 4 + 4 ≤ A.length * 4 + (4 + _); omega)) ((row_set (k := A.length) (s := 4) (f := 0) (m := 4) hAf rfl rfl (Nat.le_refl 4) rfl)) ?_
   try refine RUN ?_
   refine ⟨⟨kd1, (W1 : Int), (.slice (some ⟨gT, 0, none⟩) ts1.length capT), A ++ [.int .i64 t2.kd, .int .i64 t2.cl, .int .i64 t2.w, .slice a3 t2.ns.length c3] :: B, [(gT, 53, (A ++ [.int .i64 t2.kd, .int .i64 t2.cl, .int .i64 t2.w, .slice a3 t2.ns.length c3] :: B).flatten ++ spT)], (.slice (some ⟨gO, 0, none⟩) os1.length capO), vos1, [(gO, 23, vos1 ++ spO)], ts1.set A.length t2, os1⟩, ⟨rfl, rfl, trivial⟩, sB, ⟨rfl, trivial⟩, sB, ?_, Hp.Le.refl _, ⟨by dsimp only; rw [List.length_set]; exact hown2, hownO, rel_put hts1 htr', hos1, ⟨fun t ht => ?_, hTd.lists, by dsimp only; rw [List.length_set]; exact hTd.small⟩, hwB⟩⟩
   ·rw [flat_mid]; rfl
   ·rcases List.mem_or_eq_of_mem_set ht with h | rfl
    ·exact hTd.trees t h
    ·exact (hok2 _ (List.mem_of_getElem? ht2)).1
  ·obtain ⟨A, c, B, rfl, hAk⟩ := split_at (l := vos1) (k := k) (by rw [hos1.1]; omega)
   subst hAk
   have hp3 := pick_pv by' 400 hby oM oM
   generalize by' % 400 = z at *
   rw [flat_mid1]
   repeat (first | refine RUN ?_ | refine CV (hp3) ?_ | refine CE (hp3) ?_)
   refine EVL.lit tO rfl rfl rfl rfl rfl rfl rfl rfl rfl rfl rfl fun bl => ?_
   (first | refine EVL.publish [] [(gO, _, _), (gT, _, _)] rfl fun G5 hG5 hb5 => ?_ | refine EV.publish [] [(gO, _, _), (gT, _, _)] rfl fun G5 hG5 hb5 => ?_)
   have hil : IL G5 (.slice (some ⟨bl, 0, none⟩) 1 1) [IntKind.i64.wrap (z - 1)] := il_own (sp := []) hb5 rfl
   have hown2 := OwnL.re (e := 23) (g := gO) (xs' := A ++ .slice (some ⟨bl, 0, none⟩) 1 1 :: B) hO3 hO4 hO5 hso1.1 (by simp)
   try refine RUN ?_
   refine EVL.idxB tO rfl rfl rfl rfl rfl rfl rfl rfl rfl (A.length) (A.length * 1) (rfl) (oM) (rfl) ?_
   refine EVL.storeOwn tO rfl rfl rfl rfl rfl rfl ([]) ([(gT, _, _)]) rfl rfl rfl rfl ((by rw [List.length_append, List.length_append]; show A.length * 1 + 1 ≤ A.length + (1 + _); omega)) ((row_set (k := A.length) (s := 1) (f := 0) (m := 1) (Nat.mul_one _).symm rfl rfl (Nat.le_refl 1) rfl)) ?_
   try refine RUN ?_
   refine ⟨⟨kd1, (W1 : Int), (.slice (some ⟨gT, 0, none⟩) ts1.length capT), tcs1, [(gT, 53, tcs1.flatten ++ spT)], (.slice (some ⟨gO, 0, none⟩) os1.length capO), A ++ .slice (some ⟨bl, 0, none⟩) 1 1 :: B, [(gO, 23, (A ++ .slice (some ⟨bl, 0, none⟩) 1 1 :: B) ++ spO)], ts1, os1.set A.length [IntKind.i64.wrap (z - 1)]⟩, ⟨rfl, rfl, trivial⟩, sB, ⟨rfl, trivial⟩, sB, (congrArg (fun cs : List Value => [(gO, 23, cs), (gT, 53, tcs1.flatten ++ spT)]) (flat_mid1 A B (.slice (some ⟨bl, 0, none⟩) 1 1) spO)).symm, hG5, ⟨hownT, by dsimp only; rw [List.length_set]; exact hown2, hts1.mono hG5, rel_put (ILs.mono hos1 hG5) hil, ⟨hTd.trees, fun l hl => ?_, by dsimp only; rw [List.length_set]; exact hTd.small⟩, hwB⟩⟩
   rcases List.mem_or_eq_of_mem_set hl with h | rfl
   ·exact hTd.lists l h
   ·show 1 ≤ 1000000; omega
  ·obtain ⟨A, c, B, rfl, hAk⟩ := split_at (l := vos1) (k := k) (by rw [hos1.1]; omega)
   subst hAk
   have hp3 := pick_pv by' 9 hby oM oM
   generalize by' % 9 = z at *
   obtain ⟨l, hl⟩ : ∃ l, os1[A.length]? = some l := ⟨_, List.getElem?_eq_getElem oM⟩
   have hll := hTd.lists l (List.mem_of_getElem? hl)
   have hll2 := (hlo1 l (List.mem_of_getElem? hl)).2
   have hil := hos1.2 A.length c l (by rw [List.getElem?_append_right (Nat.le_refl _), Nat.sub_self]; rfl) hl
   obtain ⟨la, lc, rfl⟩ := SlC.val hil
   rw [flat_mid1]
   try refine RUN ?_
   refine EVL.lit0 tO rfl rfl rfl rfl rfl rfl rfl fun g2 => ?_
   try refine RUN ?_
   refine EVL.idxB tO rfl rfl rfl rfl rfl rfl rfl rfl rfl (A.length) (A.length * 1) (rfl) (oM) (rfl) ?_
   refine EVL.loadOwn tO rfl rfl rfl rfl rfl rfl (1) rfl ((by rw [Nat.mul_one, List.drop_left])) rfl rfl ?_
   try refine RUN ?_
   refine EVL.appendR tO rfl rfl rfl rfl rfl rfl rfl rfl rfl rfl rfl rfl rfl [] [(g2, 3, [])] [(gO, _, _), (gT, _, _)] rfl (OwnL.full (m := 0) rfl oM) hil (oneB_iv l) oM ?_
   intro v2 ow2 hown2
   rw [Nat.zero_add, List.nil_append] at hown2
   obtain ⟨a2', c2', rfl⟩ := hown2.val
   repeat (first | refine RUN ?_ | refine CV (hp3) ?_ | refine CE (hp3) ?_)
   refine EVL.app1 tO rfl rfl rfl rfl rfl rfl rfl rfl rfl rfl rfl rfl rfl rfl rfl rfl rfl rfl rfl (fun _ => rfl) (ow2) ([(gO, _, _), (gT, _, _)]) (rfl) (hown2) oM fun _ => ?_
   intro v3 ow3 hown3
   obtain ⟨a3', c3', rfl⟩ := hown3.val
   (first | refine EVL.publishL [] ow3 [(gO, _, _), (gT, _, _)] (rfl) hown3.il fun G5 hG5 hs5 => ?_ | refine EV.publishL [] ow3 [(gO, _, _), (gT, _, _)] (rfl) hown3.il fun G5 hG5 hs5 => ?_)
   have hil3 : IL G5 (.slice a3' (l.length + 1) c3') (l ++ [z]) := hs5
   have hown4 := OwnL.re (e := 23) (g := gO) (xs' := A ++ .slice a3' (l.length + 1) c3' :: B) hO3 hO4 hO5 hso1.1 (by simp)
   try refine RUN ?_
   refine EVL.idxB tO rfl rfl rfl rfl rfl rfl rfl rfl rfl (A.length) (A.length * 1) (rfl) (oM) (rfl) ?_
   refine EVL.storeOwn tO rfl rfl rfl rfl rfl rfl ([]) ([(gT, _, _)]) rfl rfl rfl rfl ((by rw [List.length_append, List.length_append]; show A.length * 1 + 1 ≤ A.length + (1 + _); omega)) ((row_set (k := A.length) (s := 1) (f := 0) (m := 1) (Nat.mul_one _).symm rfl rfl (Nat.le_refl 1) rfl)) ?_
   try refine RUN ?_
   refine ⟨⟨kd1, (W1 : Int), (.slice (some ⟨gT, 0, none⟩) ts1.length capT), tcs1, [(gT, 53, tcs1.flatten ++ spT)], (.slice (some ⟨gO, 0, none⟩) os1.length capO), A ++ .slice a3' (l.length + 1) c3' :: B, [(gO, 23, (A ++ .slice a3' (l.length + 1) c3' :: B) ++ spO)], ts1, os1.set A.length (l ++ [z])⟩, ⟨rfl, rfl, trivial⟩, sB, ⟨rfl, trivial⟩, sB, (congrArg (fun cs : List Value => [(gO, 23, cs), (gT, 53, tcs1.flatten ++ spT)]) (flat_mid1 A B (.slice a3' (l.length + 1) c3') spO)).symm, hG5, ⟨hownT, by dsimp only; rw [List.length_set]; exact hown4, hts1.mono hG5, rel_put (ILs.mono hos1 hG5) hil3, ⟨hTd.trees, fun l' hl' => ?_, by dsimp only; rw [List.length_set]; exact hTd.small⟩, hwB⟩⟩
   rcases List.mem_or_eq_of_mem_set hl' with h | rfl
   ·exact hTd.lists l' h
   ·rw [List.length_append, List.length_singleton]; omega
  ·(try refine RUN ?_)
   refine EVL.slc (te' := Tryz.te23) tO rfl rfl rfl rfl rfl rfl rfl rfl 0 k (.inl ⟨rfl, rfl⟩) (.inr ⟨_, IntKind.i64, rfl, rfl⟩) (Nat.zero_le _) oM oM ?_
   rw [if_neg (by omega)]
   try refine RUN ?_
   refine ⟨⟨kd1, (W1 : Int), (.slice (some ⟨gT, 0, none⟩) ts1.length capT), tcs1, [(gT, 53, tcs1.flatten ++ spT)], .slice (some ⟨gO, 0, none⟩) k capO, vos1.take k, [(gO, 23, vos1 ++ spO)], ts1, os1.take k⟩, ⟨rfl, rfl, trivial⟩, sB, ⟨rfl, trivial⟩, sB, rfl, Hp.Le.refl _, ⟨hownT, ?_, hts1, rel_cut hos1 k, ⟨hTd.trees, fun l hl => hTd.lists l (List.mem_of_mem_take hl), hTd.small.1, by dsimp only; rw [List.length_take]; omega⟩, hwB⟩⟩
   have := hcutO k oM
   rw [Nat.mul_one] at this
   dsimp only
   rw [List.length_take, Nat.min_eq_left (by omega)]; exact this
  ·(try refine RUN ?_)
   refine EVL.slc (te' := Tryz.te53) tO rfl rfl rfl rfl rfl rfl rfl rfl 0 k (.inl ⟨rfl, rfl⟩) (.inr ⟨_, IntKind.i64, rfl, rfl⟩) (Nat.zero_le _) oM oM ?_
   rw [if_neg (by omega)]
   try refine RUN ?_
   refine EVL.slc (te' := Tryz.te23) tO rfl rfl rfl rfl rfl rfl rfl rfl 0 k (.inl ⟨rfl, rfl⟩) (.inr ⟨_, IntKind.i64, rfl, rfl⟩) (Nat.zero_le _) oM oM ?_
   rw [if_neg (by omega)]
   try refine RUN ?_
   refine ⟨⟨kd1, (W1 : Int), .slice (some ⟨gT, 0, none⟩) k capT, tcs1.take k, [(gT, 53, tcs1.flatten ++ spT)], .slice (some ⟨gO, 0, none⟩) k capO, vos1.take k, [(gO, 23, vos1 ++ spO)], ts1.take k, os1.take k⟩, ⟨rfl, rfl, trivial⟩, sB, ⟨rfl, trivial⟩, sB, rfl, Hp.Le.refl _, ⟨?_, ?_, rel_cut hts1 k, rel_cut hos1 k, ⟨fun t ht => hTd.trees t (List.mem_of_mem_take ht), fun l hl => hTd.lists l (List.mem_of_mem_take hl), by dsimp only; rw [List.length_take]; omega, by dsimp only; rw [List.length_take]; omega⟩, hwB⟩⟩
   ·have := hcutT k oM
    rw [hts1.take_flat] at this
    dsimp only
    rw [List.length_take, Nat.min_eq_left (by omega)]; exact this
   ·have := hcutO k oM
    rw [Nat.mul_one] at this
    dsimp only
    rw [List.length_take, Nat.min_eq_left (by omega)]; exact this
  ·have hp3 := pick_pv by' 4 hby oM oM
   repeat (first | refine RUN ?_ | refine CV (hp3) ?_ | refine CE (hp3) ?_)
   exact ⟨⟨by' % 4, (W1 : Int), (.slice (some ⟨gT, 0, none⟩) ts1.length capT), tcs1, [(gT, 53, tcs1.flatten ++ spT)], (.slice (some ⟨gO, 0, none⟩) os1.length capO), vos1, [(gO, 23, vos1 ++ spO)], ts1, os1⟩, ⟨rfl, rfl, trivial⟩, sB, ⟨rfl, trivial⟩, sB, rfl, Hp.Le.refl _, ⟨hownT, hownO, hts1, hos1, hTd, hwB⟩⟩
  ·have hp3 := pick_pv by' 4 hby oM oM
   have hb4 : i64B (by' % 4) := by unfold i64B; omega
   repeat (first | refine RUN ?_ | refine CV (hp3) ?_ | refine CE (hp3) ?_)
   exact ⟨⟨kd1, by' % 4, (.slice (some ⟨gT, 0, none⟩) ts1.length capT), tcs1, [(gT, 53, tcs1.flatten ++ spT)], (.slice (some ⟨gO, 0, none⟩) os1.length capO), vos1, [(gO, 23, vos1 ++ spO)], ts1, os1⟩, ⟨rfl, rfl, trivial⟩, sB, ⟨rfl, trivial⟩, sB, rfl, Hp.Le.refl _, ⟨hownT, hownO, hts1, hos1, hTd, hb4⟩⟩
  ·(try refine RUN ?_)
   exact ⟨⟨kd1, (W1 : Int), (.slice (some ⟨gT, 0, none⟩) ts1.length capT), tcs1, [(gT, 53, tcs1.flatten ++ spT)], (.slice (some ⟨gO, 0, none⟩) os1.length capO), vos1, [(gO, 23, vos1 ++ spO)], ts1, os1⟩, ⟨rfl, rfl, trivial⟩, sB, ⟨rfl, trivial⟩, sB, rfl, Hp.Le.refl _, hkeep⟩
 rintro ⟨kd, w, vT, tcs, owT, vO, us, owO, ts, os⟩ G5 ⟨hG5, hownT', hownO', hts, hos, hTd, hwB⟩
 dsimp only at hownT' hownO' hts hos hTd hwB
 obtain ⟨ta, tc, rfl⟩ := hownT'.val
 obtain ⟨oa, oc, rfl⟩ := hownO'.val
 (first | refine EVL.publishL [] owO owT (rfl) hownO' fun G6 hG6 hsO => ?_ | refine EV.publishL [] owO owT (rfl) hownO' fun G6 hG6 hsO => ?_)
 (first | refine EVL.publishL [] owT [] ((show [] ++ owT = [] ++ (owT ++ []) by rw [List.append_nil])) hownT' fun G7 hG7 hsT => ?_ | refine EV.publishL [] owT [] ((show [] ++ owT = [] ++ (owT ++ []) by rw [List.append_nil])) hownT' fun G7 hG7 hsT => ?_)
 have hRT : RTL G7 (.slice ta ts.length tc) ts := ⟨tcs, hts.mono (hG6.trans hG7), hsT⟩
 have hRO : ILL G7 (.slice oa os.length oc) os := ⟨us, hos.mono (hG6.trans hG7), hsO.mono hG7⟩
 clear hownT hownO hownT' hownO' hts hos hsO hsT hts1 hos1 hst1 hso1 hts2 hst2
 have hok := hTd.trees
 have hlo := hTd.lists
 have hsm := hTd.small
 obtain ⟨M, hM⟩ : ∃ M : Nat, w % 21 = (M : Int) := ⟨(w % 21).toNat, by omega⟩
 have hp5 := pick_pv w 21 hwB oM oM
 rw [hM] at hp5
 have hrck := fun (G : Hp) (hG : G7.Le G) => rcheckF_pc (kd := kd) (cl := cl1) (w := w) (hRT.mono hG) (hRO.mono hG) hok hlo oM
 try refine RUN ?_
 refine EVL.call rfl rfl rfl rfl rfl (inForest_pc hRT hRO hTd.smallF) ?_
 rintro r8 G8 ⟨pa1, pc1, pa2, pc2, rfl, hPT, hPO⟩ hG8
 repeat (first | refine RUN ?_ | refine CV (hrck _ hG8) ?_ | refine CV (hp5) ?_ | refine CE (hrck _ hG8) ?_ | refine CE (hp5) ?_)
 refine EVL.call rfl rfl rfl rfl rfl (row_pc (IL.nil _ none 0) (fun z hz => (by cases hz)) M oM) ?_
 intro r9 G9 hr9 hG9
 obtain ⟨xa9, xc9, rfl⟩ := hr9.val
 try refine RUN ?_
 refine EVL.call rfl rfl rfl rfl rfl (inRow_pc hr9 (by rw [rowQ_len]; omega) (fun q hq => by have := rowQ_ht M q hq; unfold rq; omega)) ?_
 intro r10 G10 hr10 hG10
 obtain ⟨xa10, xc10, rfl⟩ := SlC.val hr10
 have hP2 := hPT.mono (hG9.trans hG10)
 have hO2 := hPO.mono (hG9.trans hG10)
 try refine RUN ?_
 refine EVL.call rfl rfl rfl rfl rfl (panswer_pc (kd := kd) (cl := cl1) (w := w) hP2 hO2 hok hlo oM oM hr10 (fun q hq => by have := rowQ_ht M q hq; show ht q ≤ 100000000; omega)) ?_
 rintro r11 G11 ⟨ha1, ha2, ha3⟩ hG11
 by_cases hc : checkF kd cl1 w ts os = 0
 ·obtain ⟨hw21, hts1⟩ := checkF_wide hc hok
  obtain ⟨q, i, rfl⟩ : ∃ (q : Rat) (i : Int), r11 = .tuple #[fracV q, .int .i64 i, .int .i64 0] := by
   rcases ha3 hc (by rw [rowQ_len]; omega) with ⟨_, ks, _, rfl⟩ | ⟨_, qs, _, rfl⟩
   ·exact ⟨_, _, rfl⟩
   ·exact ⟨_, _, rfl⟩
  try refine RUN ?_
  refine EVL.call rfl rfl rfl rfl rfl (ffew_pc (k := 1) (kd := kd) (cl := cl1) (w := w) (hP2.mono hG11) (hO2.mono hG11) hok hlo oM oM (fun h => h)) ?_
  rintro r12 G12 ⟨_, hf⟩ hG12
  obtain ⟨fb1, fd1, fb2, fd2, rfl, _, _⟩ := hf hc
  rw [hc]
  repeat (first | refine RUN ?_ | refine CV (known20_pc) ?_ | refine CV (pcheckF_pc (kd := kd) (cl := cl1) (w := w) ((hP2.mono hG11).mono hG12) ((hO2.mono hG11).mono hG12) hok hlo oM) ?_ | refine CE (known20_pc) ?_ | refine CE (pcheckF_pc (kd := kd) (cl := cl1) (w := w) ((hP2.mono hG11).mono hG12) ((hO2.mono hG11).mono hG12) hok hlo oM) ?_)
  rw [hc]
  try refine RUN ?_
  rfl
 ·have e11 := ha1 hc
  subst e11
  have hcb : (checkF kd cl1 w ts os != 0) = true := bne_iff_ne.2 hc
  try refine RUN ?_
  refine EVL.call rfl rfl rfl rfl rfl (ffew_pc (k := 1) (kd := kd) (cl := cl1) (w := w) (hP2.mono hG11) (hO2.mono hG11) hok hlo oM oM (fun h => h)) ?_
  rintro r12 G12 ⟨hf, _⟩ hG12
  have e12 := hf hc
  subst e12
  repeat (first | refine RUN ?_ | refine CV (known20_pc) ?_ | refine CV (pcheckF_pc (kd := kd) (cl := cl1) (w := w) ((hP2.mono hG11).mono hG12) ((hO2.mono hG11).mono hG12) hok hlo oM) ?_ | refine CE (known20_pc) ?_ | refine CE (pcheckF_pc (kd := kd) (cl := cl1) (w := w) ((hP2.mono hG11).mono hG12) ((hO2.mono hG11).mono hG12) hok hlo oM) ?_)
  rw [bne_self_eq_false]
  try refine RUN ?_
  rw [hcb]
  try refine RUN ?_
  rfl
end Go.Proofs.YtgjepkeeeemppaaGreatDoor
namespace Go.Proofs.YtgjepkeeeemppaaGreatDoor
open Go Go.RowKit
theorem laidE_find {P : Program} {W : World} {n : String} {d : DataW Unit} : ∀ {l : List (String × DataW Unit)} {ps : List MemPlace}, DataW.LaidVars P W l ps → (n, d) ∈ l →
  ∃ p, DataW.LaidVars P W [(n, d)] p
 | [], _, _, h => by cases h
 | (m, x) :: r, ps, h, hm => by
  obtain ⟨g, t, cs, fuel, p, q, h1, h2, h3, h4, h5, h6⟩ := h
  rcases List.mem_cons.1 hm with hm | hm
  ·cases hm
   exact ⟨_, g, t, cs, fuel, p, [], h1, h2, h3, h4, rfl, rfl⟩
  ·exact laidE_find h5 hm
theorem laid_gH {P : Program} {l : List (String × DataW Unit)} {W : World} (h : laidMet P l W) {n : String} {zs : List Nat} {g : Nat} {T e : TypeId} (hmem : (n, .agg (zs.map fun (z : Nat) => .lit (.int .u8 z))) ∈ l) (hg : P.globalNamed n = some g) (ht : (P.globals[g]?).map (·.type) = some T)
  (hT : P.underlying T = some (.array zs.length e)) (he : P.underlying e = some (.int .u8)) (hc : P.cellsOf e = 1) (hcT : P.cellsOf T = zs.length) :
  ∃ U fz, W.heap[g]? = some (.cells (zs.map fun (z : Nat) => Value.int .u8 (z : Int)).toArray U fz) := by
 obtain ⟨ps, hl, _⟩ := h
 obtain ⟨p0, g', t, cs, fuel, p, q, hg', ht', hv, hd, _, _⟩ := laidE_find hl hmem
 obtain rfl := Option.some.inj (hg.symm.trans hg')
 obtain rfl := Option.some.inj (ht.symm.trans ht')
 obtain ⟨xs, m, _, ex, hcl, hlen, hel⟩ := DataW.trod_array hT hd
 have hb : ∃ U fz, W.heap[g]? = some (.cells cs U fz) := by
  simp only [World.var?, hg, Option.bind_some] at hv
  split at hv
  ·rename_i c U fz hc'; cases hv; exact ⟨U, fz, hc'⟩
  ·cases hv
 obtain ⟨U, fz, hb⟩ := hb
 refine ⟨U, fz, ?_⟩
 rw [hb]
 congr 2
 apply Array.ext'
 rw [hcT] at hcl
 have e3 : (xs.map (·.1)) = zs.map fun (n : Nat) => .lit (.int .u8 n) := (DataW.agg.inj (Prod.mk.inj ex).1).symm
 apply List.ext_getElem?
 intro r
 rcases Nat.lt_or_ge r zs.length with hr | hr
 ·have hE := hel r hr
  rw [hc, Nat.mul_one, List.getElem?_eq_getElem (by omega)] at hE
  obtain ⟨z, e1, e2, _⟩ := DataW.trod_int he hE
  have e4 : (xs.map (·.1))[r]? = (zs.map fun (n : Nat) => (DataW.lit (.int .u8 n) : DataW Unit))[r]? := by rw [e3]
  rw [List.getElem?_map, List.getElem?_map, List.getElem?_eq_getElem (by omega : r < xs.length), List.getElem?_eq_getElem hr, e2] at e4
  simp only [Option.map_some, Option.some.injEq, DataW.lit.injEq, Lit.int.injEq, true_and] at e4
  have h0 : ((cs.toList.drop r).take 1)[0]? = some (.int .u8 z) := by rw [e1]; rfl
  simp only [List.getElem?_take, List.getElem?_drop, Nat.add_zero] at h0
  rw [if_pos (by omega)] at h0
  rw [h0, e4]
  simp [hr]
 ·rw [List.getElem?_eq_none oM, List.getElem?_eq_none (by simpa using hr)]
theorem fits_gH {l : List (String × DataW Unit)} {W : World} (h : laidMet Tryz.prog l W) (hmem : ("math/bits.deBruijn64tab", .agg (Lib.deBruijn64tab.map fun (z : Nat) => .lit (.int .u8 z))) ∈ l) : Fits gH W := fun b c hb => by
 unfold gH at hb
 split at hb
 ·rename_i hbb
  cases hb
  obtain rfl := Nat.eq_of_beq_eq_true hbb
  exact laid_gH h hmem kR kR Tryz.underlying272 Tryz.underlying5 kR kR
 ·cases hb
end Go.Proofs.YtgjepkeeeemppaaGreatDoor
