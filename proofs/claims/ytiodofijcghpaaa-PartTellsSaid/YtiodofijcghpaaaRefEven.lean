/- abaculusref6.Even; contracts. -/
import Derived.Test.YtiodofijcghpaaaRefRest
namespace Go.Proofs.Ytiodofijcghpaaa
open Go.RowKit

theorem bucket_le (lab L : List Int) (c : Nat) : (bucket lab L c).length ≤ c * L.length := by
  induction c with
  | zero => simp [bucket]
  | succ c ih =>
    rw [bucket_succ, List.length_append, Nat.succ_mul]
    have := List.length_filter_le (cls lab c) L
    omega

set_option maxHeartbeats 400000 in
theorem reven_err1 (b : Nat) (v : Value) (l : List Int) (k : Int) (w : World) (hS : Sl i64 w v l) (hl : l.length ≤ 1000000) (h : k < 2 ∨ l.length < k ∨ 300 < l.length) :
    Calls Try.prog 22 #[v, .int .i64 k, .pointer (some ⟨b, 0, none⟩)] w fun e w' => e = .returned (.tuple #[.slice none 0 0, .int .i64 1]) ∧ w = w' := by
  obtain ⟨a, cap, rfl⟩ := hS.len
  clear hS
  generalize l.length = n at *
  by_cases h1 : k < 2
  · have d1 : decide (k < 2) = true := by simpa using h1
    go_enter Try.func22, Try.ntmps22
    go_wp2
    go_ret2
    exact ⟨rfl, rfl⟩
  · have d1 : decide (k < 2) = false := by simpa using h1
    by_cases h2 : (n : Int) < k
    · have d2 : decide ((n : Int) < k) = true := by simpa using h2
      go_enter Try.func22, Try.ntmps22
      go_wp2
      go_ret2
      exact ⟨rfl, rfl⟩
    · have d2 : decide ((n : Int) < k) = false := by simpa using h2
      have h3 : 300 < n := by omega
      clear h
      go_enter Try.func22, Try.ntmps22
      go_wp2
      go_ret2
      exact ⟨rfl, rfl⟩

set_option maxHeartbeats 800000 in
theorem reven_err2 (b : Nat) (v : Value) (l : List Int) (k : Nat) (w : World) (hS : Sl i64 w v l) (hk : 2 ≤ k) (hkl : k ≤ l.length) (hl : l.length ≤ 300) (h : ∃ x ∈ l, x < 0 ∨ 12 ≤ x) :
    Calls Try.prog 22 #[v, .int .i64 k, .pointer (some ⟨b, 0, none⟩)] w fun e w' => e = .returned (.tuple #[.slice none 0 0, .int .i64 1]) ∧ w = w' := by
  have hS1 := hS
  obtain ⟨a, cap, rfl⟩ := hS.len
  have HH := hid h
  clear h
  have hd1 : decide (l.length < k) = false := by simp; omega
  go_enter Try.func22, Try.ntmps22
  go_wp2
  go_loopg [8] l.length (fun g i wr => ∃ j : Nat, j + g = l.length ∧ i = .int .i64 j ∧ (∀ x ∈ l.take j, 0 ≤ x ∧ x < 12) ∧ wr = w)
  case atStart => exact ⟨0, by omega, rfl, by simp, rfl⟩
  case round =>
    obtain ⟨j, hj, rfl, hr, rfl⟩ := hrel
    have HR := hid hr
    clear hr
    by_cases hlt : j < l.length
    · obtain ⟨b', off, rfl, hb, hc⟩ := hS.at j hlt
      have hts : Hid (l.take (j + 1) = l.take j ++ [l[j]]) := List.take_succ_eq_append_getElem hlt
      generalize l[j] = x at *
      have HJ := hid hj
      clear hj
      by_cases h1 : x < 0
      · have t1 : decide (x < 0) = true := by simpa using h1
        go_wp2
        go_ret2
        exact ⟨rfl, rfl⟩
      · have t1 : decide (x < 0) = false := by simpa using h1
        by_cases h2 : 12 ≤ x
        · have t2 : decide (12 ≤ x) = true := by simpa using h2
          go_wp2
          go_ret2
          exact ⟨rfl, rfl⟩
        · have t2 : decide (12 ≤ x) = false := by simpa using h2
          go_wp2
          go_roundg (gk - 1)
          case measure => have := HJ.out; omega
          case rel =>
            refine ⟨j + 1, by have := HJ.out; omega, by go_num, ?_, rfl⟩
            rw [hts.out]
            intro y hy
            rw [List.mem_append, List.mem_singleton] at hy
            rcases hy with hy | rfl
            · exact HR.out y hy
            · omega
    · exfalso
      obtain rfl : j = l.length := by omega
      obtain ⟨x, hx, hbad⟩ := HH.out
      have := HR.out x (by rw [List.take_length]; exact hx)
      omega

set_option maxRecDepth 100000 in
set_option maxHeartbeats 1600000 in
theorem reven_ok (b k : Nat) (v : Value) (lab : List Int) (s : Int) (w : World) (hS : Sl i64 w v lab) (h : Die w b s) (hk : 2 ≤ k) (hkl : k ≤ lab.length) (hl : lab.length ≤ 300) (hlab : ∀ x ∈ lab, 0 ≤ x ∧ x < 12) (hne : ∀ b' off len cap, v = .slice (some ⟨b', off, none⟩) len cap → b' ≠ b) :
    Calls Try.prog 22 #[v, .int .i64 k, .pointer (some ⟨b, 0, none⟩)] w fun e w' => ∃ v', e = .returned (.tuple #[v', .int .i64 0]) ∧
      Sl2b w.heap.size w' v' (dealL (bucket lab (orderL lab.length s).1 12) k) ∧ Die w' b (orderL lab.length s).2 ∧ Kept (· = b) w w' := by
  obtain ⟨a, cap, rfl⟩ := hS.len
  have HLB := hid hlab
  have HNE := hid hne
  clear hlab hne
  have hd1 : decide (lab.length < k) = false := by simp; omega
  have hd2 : decide ((k : Int) < 2) = false := by simp; omega
  have hd3 : decide (300 < (lab.length : Int)) = false := by simp; omega
  go_enter Try.func22, Try.ntmps22
  go_wp2
  go_loopg [8] lab.length (fun g i wr => ∃ j : Nat, j + g = lab.length ∧ i = .int .i64 j ∧ w = wr)
  case atStart => exact ⟨0, by omega, rfl, rfl⟩
  case round =>
    obtain ⟨j, hj, rfl, rfl⟩ := hrel
    by_cases hlt : j < lab.length
    · obtain ⟨b', off, rfl, hb, hc⟩ := hS.at j hlt
      have hxr := HLB.out lab[j] (List.getElem_mem hlt)
      generalize lab[j] = x at *
      obtain ⟨x1, x2⟩ := hxr
      have HJ := hid hj
      clear hj
      have t1 : decide (x < 0) = false := by simpa using x1
      have t2 : decide (12 ≤ x) = false := by simpa using x2
      go_wp2
      go_roundg (gk - 1)
      case measure => have := HJ.out; omega
      case rel => exact ⟨j + 1, by have := HJ.out; omega, by go_num, rfl⟩
    · obtain rfl : j = lab.length := by omega
      clear hj
      go_wp2_with fail
      refine (rorder_die b lab.length s w h (by omega) (by omega)).mono ?_
      rintro e w2 ⟨B, hB, rfl, hblk, hdie3, hk3⟩
      have hlen := orderL_length lab.length s
      have hperm := orderL_perm lab.length s (by omega)
      have hsl := hblk.sl lab.length
      generalize hL : (orderL lab.length s).1 = L at *
      rw [hlen] at hsl
      have HL := hid (And.intro hL (And.intro hlen hperm))
      clear hL hlen hperm hblk
      have hS3 := hS.kept hk3 (fun b' off len cap e => HNE.out b' off len cap e)
      go_wp2
      go_loopg [10, 11, 12] 12 (fun g v c _ wr => ∃ m : Nat, m + g = 12 ∧ c = .int .i64 m ∧ wr.ownsRow w2.heap.size 3 1 v (bucket lab L m).length ((bucket lab L m).map i64) ∧ Below w2.heap.size w2 wr)
      case atStart => exact ⟨0, by omega, rfl, World.ownsRow_nil _ _ _ _, Below.refl _ _⟩
      case round =>
        obtain ⟨m, hm, rfl, hown, hB2⟩ := hrel
        have hbl := bucket_le lab L m
        by_cases hm12 : m < 12
        · have hd4 : decide ((m : Int) < 12) = true := by simp; omega
          have hbs := bucket_succ lab L m
          have HBS := hid hbs
          have HM := hid hm
          have HBL := hid (show (bucket lab L m).length ≤ m * lab.length by have := HL.out.2.1; rw [this] at hbl; exact hbl)
          clear hbs hm hbl
          obtain ⟨K, hK⟩ : ∃ K, K = bucket lab L m := ⟨_, rfl⟩
          rw [← hK] at hown HBS HBL
          clear hK
          go_wp2
          go_loopg [10, 12] lab.length (fun g v i wr => ∃ j : Nat, j + g = lab.length ∧ i = .int .i64 j ∧ wr.ownsRow w2.heap.size 3 1 v (K ++ (L.take j).filter (cls lab m)).length ((K ++ (L.take j).filter (cls lab m)).map i64) ∧ Below w2.heap.size w2 wr)
          case atStart => exact ⟨0, by omega, rfl, by simpa using hown, hB2⟩
          case round =>
            obtain ⟨j, hj, rfl, hown3, hB3⟩ := hrel
            by_cases hj2 : j < lab.length
            · have hjL : j < L.length := by have := HL.out.2.1; omega
              obtain ⟨b1, off1, e1, hb1, hc1⟩ := hsl.at j hjL
              cases e1
              have hts : Hid (L.take (j + 1) = L.take j ++ [L[j]]) := List.take_succ_eq_append_getElem hjL
              have hx := (upTo_mem _ _).1 (HL.out.2.2.mem_iff.1 (List.getElem_mem hjL))
              generalize L[j] = x at *
              obtain ⟨x, rfl⟩ := Int.eq_ofNat_of_zero_le hx.1
              have hx2 : x < lab.length := by omega
              obtain ⟨b2, off2, rfl, hb2, hc2⟩ := hS3.at x hx2
              have hcl : Hid (cls lab m (x : Int) = (lab[x] == (m : Int))) := by show cls lab m (x : Int) = _; unfold cls; rw [Int.toNat_natCast]; simp [hx2]
              generalize lab[x] = y at *
              have hc1' := (hB3.cell (p := ⟨B, 0 + j, none⟩) hb1).trans hc1
              have hc2' := (hB3.cell (p := ⟨b2, off2 + x, none⟩) hb2).trans hc2
              rw [Nat.zero_add] at hc1'
              have hlen3 : (K ++ (L.take j).filter (cls lab m)).length ≤ 10000 := by
                have h1 := List.length_filter_le (cls lab m) (L.take j)
                have h2 := List.length_take_le j L
                have h3 := HBL.out
                have h4 : m * lab.length ≤ 12 * 300 := Nat.mul_le_mul (by omega) hl
                rw [List.length_append]; omega
              have HJ := hid hj
              clear hj hx hc1 hc2
              generalize hF : K ++ (L.take j).filter (cls lab m) = F at *
              have HF := hid hF
              clear hF
              have hsz := hB3.size
              by_cases hy : y = m
              · subst hy
                have t1 : ((m : Int) == (m : Int)) = true := by simp
                go_wp2_with (at_builtin; refine app1 rfl _ _ 27 rfl w2.heap.size 3 (.int .i64 0) 8 Try.infoInt Try.underlying27 rfl _ _ _ rfl hown3 _ rfl rfl (by omega) (by omega) hsz ?_; intro g' cap' w5 hown5 hk5)
                have hne5 : ∀ k, u10.ownBlock = some k → w2.heap.size ≤ k := fun k e => (hown3.lt k e).1
                go_roundg (gk - 1)
                case measure => have := HJ.out; omega
                case rel =>
                  refine ⟨j + 1, by have := HJ.out; omega, by go_num, ?_, hB3.trans (hk5.below _ hB3.size (fun k hk e => by have := hne5 _ e; omega))⟩
                  have e : K ++ (L.take (j + 1)).filter (cls lab m) = F ++ [(x : Int)] := by
                    rw [hts.out, List.filter_append, ← List.append_assoc, HF.out, List.filter_cons, hcl.out]; simp
                  rw [e]
                  simpa using hown5
              · have t1 : (y == (m : Int)) = false := by simpa using hy
                have HT := hid t1
                have t2 := HT.out
                clear hy
                go_wp2
                go_roundg (gk - 1)
                case measure => have := HJ.out; omega
                case rel =>
                  refine ⟨j + 1, by have := HJ.out; omega, by go_num, ?_, hB3⟩
                  have e : K ++ (L.take (j + 1)).filter (cls lab m) = F := by
                    rw [hts.out, List.filter_append, ← List.append_assoc, HF.out, List.filter_cons, hcl.out, HT.out]; simp
                  rw [e]
                  exact hown3
            · obtain rfl : j = lab.length := by omega
              have e : K ++ (L.take lab.length).filter (cls lab m) = bucket lab L (m + 1) := by
                rw [HBS.out, List.take_of_length_le (by have := HL.out.2.1; omega)]
              rw [e] at hown3
              go_wp2
              go_roundg (12 - (m + 1))
              case measure => have := HM.out; omega
              case rel => exact ⟨m + 1, by omega, by go_num, hown3, hB3⟩
        · obtain rfl : m = 12 := by omega
          have hbl2 : (bucket lab L 12).length ≤ 1000 := by
            have := (bucket_perm lab L 12 (fun x hx => ?_)).length_eq
            · rw [this, HL.out.2.1]; omega
            · have hx' := (upTo_mem _ _).1 (HL.out.2.2.mem_iff.1 hx)
              obtain ⟨x, rfl⟩ := Int.eq_ofNat_of_zero_le hx'.1
              have hx2 : x < lab.length := by omega
              have := HLB.out lab[x] (List.getElem_mem hx2)
              rw [Int.toNat_natCast]
              simp only [List.getD_eq_getElem?_getD, List.getElem?_eq_getElem hx2, Option.getD_some]
              exact this
          have hdie4 := hdie3.below hB2
          go_wp2_with fail
          refine (rdeal_any k _ _ wr (Sl.of_owns hown) (by omega) (by omega) hbl2).mono ?_
          rintro e w6 ⟨v, rfl, hv, hb6⟩
          go_wp2
          go_ret2
          rw [HL.out.1]
          exact ⟨v, rfl, hv.lower (Nat.le_trans hk3.size hB2.size), hdie4.below hb6, hk3.trans ((Kept.of_below hB2 _).trans (Kept.of_below hb6 _))⟩

end Go.Proofs.Ytiodofijcghpaaa
