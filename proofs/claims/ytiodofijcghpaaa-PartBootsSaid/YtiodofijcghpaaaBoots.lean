/- law8.PartBoots returns true. -/
import Derived.Test.YtiodofijcghpaaaSame
import Derived.Test.YtiodofijcghpaaaBootsPlain
namespace Go.Proofs.Ytiodofijcghpaaa
open Go.RowKit

theorem sortI_perm (l : List Int) : (sortI l).Perm l := List.mergeSort_perm _ _
theorem sortI_sorted (l : List Int) : (sortI l).Pairwise (· ≤ ·) := by
  have := List.pairwise_mergeSort (le := fun x y : Int => decide (x ≤ y)) (by intro a b c; simp; omega) (by intro a b; simp; omega) l
  unfold sortI
  exact this.imp (by intro a b h; simpa using h)
theorem Die.new (w : World) (s : Int) (T : TypeId) (h : 0 ≤ s) : Die (w.alloc (.cells #[.int .u64 s] T)) w.heap.size s := ⟨h, T, heap_alloc_new w _⟩

set_option maxRecDepth 100000 in
set_option maxHeartbeats 1600000 in
theorem partBoots_any (seed n : Int) (w : World) (hs : 0 ≤ seed) :
    Calls Try.prog 3 #[.int .u64 seed, .int .i64 n] w fun e w' => e = .returned (.bool true) ∧ Below w.heap.size w w' := by
  go_enter Try.func3, Try.ntmps3
  go_wp2_with fail
  refine (dnew_any seed w).mono ?_
  rintro e w1 ⟨rfl, hw1⟩
  have hd1 : Die w1 w.heap.size seed := by rw [hw1]; exact Die.new w seed _ hs
  have hk1 : Below w.heap.size w w1 := by rw [hw1]; exact (Below.refl _ _).alloc (Nat.le_refl _) _
  have hz1 : w1.heap.size = w.heap.size + 1 := by rw [hw1]; simp
  clear hw1
  have HZ1 := hid hz1
  clear hz1
  go_wp2_with fail
  refine (dnew_any seed w1).mono ?_
  rintro e w2 ⟨rfl, hw2⟩
  have hd2 : Die w2 w1.heap.size seed := by rw [hw2]; exact Die.new w1 seed _ hs
  have hb2 : Below w1.heap.size w1 w2 := by rw [hw2]; exact (Below.refl _ _).alloc (Nat.le_refl _) _
  have hd1 := hd1.below hb2
  clear hw2
  go_wp2_with fail
  refine (known_any w2).mono ?_
  rintro e w3 ⟨rfl, hb3⟩
  have hd1 := hd1.below hb3
  have hd2 := hd2.below hb3
  go_wp2_with fail
  refine (pick_any n 100 w3 (by omega) (by omega)).mono ?_
  rintro e w4 ⟨rfl, rfl⟩
  have hp1 := Int.emod_nonneg n (show (100 : Int) ≠ 0 by omega)
  have hp2 := Int.emod_lt_of_pos n (show (0 : Int) < 100 by omega)
  generalize n % 100 = m at *
  obtain ⟨m, rfl⟩ := Int.eq_ofNat_of_zero_le hp1
  obtain ⟨N, hN⟩ : ∃ N : Nat, (N : Int) = 1 + (m : Int) := ⟨m + 1, by omega⟩
  have hN1 : 1 ≤ N := by omega
  have hN2 : N ≤ 100 := by omega
  go_wp2_with fail
  rw [← hN]
  clear hN hp1 hp2
  have hne : w1.heap.size ≠ w.heap.size := by have := HZ1.out; omega
  have HNE := hid hne
  clear hne
  have hlt3 := hd2.lt
  refine (boot_any w.heap.size N seed w3 hd1 hN1 (by omega)).mono ?_
  rintro e w4 ⟨va, vb, rfl, hoa, hob, hd1, hk4⟩
  have hd2 := hd2.kept hk4 HNE.out
  have hsa := Sl.of_owns hoa
  have hsb := Sl.of_owns hob
  have hba := owns_base hoa
  have hbb := owns_base hob
  clear hoa hob
  go_wp2_with fail
  refine (ddraw_die w1.heap.size N N seed w4 hd2 (by omega) (by omega) hN1 (by omega)).mono ?_
  rintro e w5 ⟨B, hB, rfl, hblk, hd2, hk5⟩
  have hd1 := hd1.kept hk5 (fun e => HNE.out e.symm)
  have hsa := hsa.kept hk5 (fun b off len cap e => by have := hba _ _ _ _ e; omega)
  have hsb := hsb.kept hk5 (fun b off len cap e => by have := hbb _ _ _ _ e; omega)
  have hLl := drawL_length N N seed
  have hLr := drawL_range N N seed (by omega) (by omega)
  have hAl := bagL_length N seed
  have hAp : (bagL N seed).Perm (drawL N N seed).1 := sortI_perm _
  have hAs : (bagL N seed).Pairwise (· ≤ ·) := sortI_sorted _
  have hkk : Below w.heap.size w w5 := by
    have e1 := hk1.trans (hb2.mono (by have := HZ1.out; omega))
    have e2 := e1.trans (hb3.mono (by have := e1.size; omega))
    have e3 := e2.trans (hk4.below w.heap.size (by have := e2.size; omega) (fun k hk e => by omega))
    exact e3.trans (hk5.below w.heap.size (by have := e3.size; omega) (fun k hk e => by have := HZ1.out; omega))
  generalize (drawL N N seed).2 = t at *
  generalize bagL N seed = A at *
  generalize (drawL N N seed).1 = L at *
  clear hk4 hk5 hba hbb hb2 hb3 hk1 hlt3 HNE HZ1
  obtain ⟨aa, capa, rfl⟩ := hsa.len
  have HLl := hid hLl
  have HAl := hid hAl
  clear hLl hAl
  have hmk := fun w => make_ints N w (by omega)
  rw [HAl.out]
  rw [HAl.out] at hsa
  go_wp2
  obtain ⟨C, hC⟩ : ∃ C, C = w5.heap.size := ⟨_, rfl⟩
  go_loopg [11] N (fun g i wr => ∃ j : Nat, j + g = N ∧ i = .int .i64 j ∧ Blk i64 wr w5.heap.size (cntL N (L.take j) []) ∧ Below w5.heap.size w5 wr)
  case atStart => exact ⟨0, by omega, rfl, by rw [List.take_zero, cntL_zero]; exact Blk.new _ _ _ _, (Below.refl _ _).alloc (Nat.le_refl _) _⟩
  case round =>
    obtain ⟨j, hj, rfl, hC1, hK⟩ := hrel
    by_cases hlt : j < N
    · have hjl : j < L.length := by have := HLl.out; omega
      have hxr := hLr L[j] (List.getElem_mem hjl)
      have hc1 := (hK.cell (p := ⟨B, j, none⟩) hblk.lt).trans (hblk.cell j hjl)
      have hts : Hid (L.take (j + 1) = L.take j ++ [L[j]]) := List.take_succ_eq_append_getElem hjl
      generalize L[j] = x at *
      obtain ⟨x1, x2⟩ := hxr
      obtain ⟨x, rfl⟩ := Int.eq_ofNat_of_zero_le x1
      have hxN : x < N := by omega
      obtain ⟨v, hv⟩ : ∃ v, (cntL N (L.take j) [])[x]? = some v := ⟨_, cntL_get _ _ _ _ hxN⟩
      have hvb := cntL_bound _ _ _ _ _ hxN hv
      have hc2 : wr.cell? ⟨w5.heap.size, x, none⟩ = some (.int .i64 v) := by
        have hl : x < (cntL N (L.take j) []).length := by rw [cntL_length]; exact hxN
        rw [hC1.cell x hl]
        rw [List.getElem?_eq_getElem hl] at hv
        simp only [Option.some.injEq] at hv
        rw [hv]
      have hf2 := hC1.free x
      have hinc := hid (cntL_inc N (L.take j) [] x v hxN hv)
      have HJ := hid hj
      obtain ⟨v1, v2⟩ := hvb
      have v3 : v ≤ 1000 := by have := List.length_take_le j L; omega
      have v4 : -1000 ≤ v := by simp at v1; omega
      clear hv hj v1 v2
      go_wp2
      go_roundg (gk - 1)
      case measure => have := HJ.out; omega
      case rel =>
        refine ⟨j + 1, by have := HJ.out; omega, by go_num, ?_, hK.setCell (p := ⟨w5.heap.size, x, none⟩) (Nat.le_refl _) _⟩
        rw [hts.out, ← hinc.out]
        exact hC1.set x (v + 1)
    · obtain rfl : N = j := by omega
      have hC2 : Blk i64 wr w5.heap.size (cntL N L []) := by
        have := HLl.out
        rw [← List.take_length (l := L), this]; exact hC1
      obtain ⟨wo, hwo⟩ : ∃ wo : World, wo = wr := ⟨_, rfl⟩
      rw [← hwo] at hC2 hK
      subst hwo
      clear hC1
      go_wp2
      go_loopg [12] N (fun g i wr => ∃ j : Nat, j + g = N ∧ i = .int .i64 j ∧ Blk i64 wr w5.heap.size (cntL N L (A.take j)) ∧ Below w5.heap.size w5 wr)
      case atStart => exact ⟨0, by omega, rfl, by rw [List.take_zero]; exact hC2, hK⟩
      case round =>
        obtain ⟨j, hj2, rfl, hC3, hK3⟩ := hrel
        by_cases hlt2 : j < N
        · have hjl : j < A.length := by have := HAl.out; omega
          have hxr := hLr A[j] (hAp.mem_iff.1 (List.getElem_mem hjl))
          obtain ⟨b, off, rfl, hbl, hc0⟩ := hsa.at j hjl
          have hc1 := (hK3.cell (p := ⟨b, off + j, none⟩) hbl).trans hc0
          have hprev : 0 < j → ∃ y, y ≤ A[j] ∧ wr.cell? ⟨b, off + (j - 1), none⟩ = some (.int .i64 y) := fun hp => by
            have hq : j - 1 < A.length := by omega
            refine ⟨A[j - 1], List.pairwise_iff_getElem.1 hAs (j - 1) j hq hjl (by omega), ?_⟩
            obtain ⟨b', off', he, hbl', hc0'⟩ := hsa.at (j - 1) hq
            cases he
            exact (hK3.cell (p := ⟨b, off + (j - 1), none⟩) hbl).trans hc0'
          have hts : Hid (A.take (j + 1) = A.take j ++ [A[j]]) := List.take_succ_eq_append_getElem hjl
          clear hc0
          generalize A[j] = x at *
          obtain ⟨x1, x2⟩ := hxr
          obtain ⟨x, rfl⟩ := Int.eq_ofNat_of_zero_le x1
          have hxN : x < N := by omega
          obtain ⟨v, hv⟩ : ∃ v, (cntL N L (A.take j))[x]? = some v := ⟨_, cntL_get _ _ _ _ hxN⟩
          have hvb := cntL_bound _ _ _ _ _ hxN hv
          have hc2 : wr.cell? ⟨w5.heap.size, x, none⟩ = some (.int .i64 v) := by
            have hl : x < (cntL N L (A.take j)).length := by rw [cntL_length]; exact hxN
            rw [hC3.cell x hl]
            rw [List.getElem?_eq_getElem hl] at hv
            simp only [Option.some.injEq] at hv
            rw [hv]
          have hf2 := hC3.free x
          have hdec := hid (cntL_dec N L (A.take j) x v hxN hv)
          have HJ := hid hj2
          obtain ⟨v1, v2⟩ := hvb
          have v3 : v ≤ 1000 := by have := HLl.out; omega
          have v4 : -1000 ≤ v := by have := List.length_take_le j A; omega
          clear hv hj2 v1 v2
          have t1 : decide ((x : Int) < 0) = false := by simp
          have t2 : decide (N ≤ x) = false := by simp; omega
          by_cases hp : 0 < j
          · obtain ⟨y, hy1, hy2⟩ := hprev hp
            clear hprev
            have t3 : decide ((x : Int) < y) = false := by simp; omega
            have t4 : ((j : Int) - 1).toNat = j - 1 := by omega
            have t5 : IntKind.i64.wrap ((j : Int) - 1) = (j : Int) - 1 := by rw [IntKind.wrap_i64]; omega
            have t6 : 0 ≤ (j : Int) - 1 := by omega
            have t7 : (j : Int) - 1 < N := by omega
            have t8 : 1 ≤ j := by omega
            have t9 : j - 1 < N := by omega
            go_wp2
            go_quiet (fail)
            have hc1 : (wr.drewN nq).cell? ⟨b, off + j, none⟩ = some (.int .i64 x) := hc1
            have hc2 : (wr.drewN nq).cell? ⟨w5.heap.size, x, none⟩ = some (.int .i64 v) := hc2
            have hf2 : (wr.drewN nq).frozen? ⟨w5.heap.size, x, none⟩ = false := hf2
            have hC3 : Blk i64 (wr.drewN nq) w5.heap.size (cntL N L (A.take j)) := hC3
            have hK3 : Below w5.heap.size w5 (wr.drewN nq) := below_drewN' hK3 _
            generalize wr.drewN nq = wq at *
            go_wp2
            go_roundg (gk - 1)
            case measure => have := HJ.out; omega
            case rel =>
              refine ⟨j + 1, by have := HJ.out; omega, by go_num, ?_, hK3.setCell (p := ⟨w5.heap.size, x, none⟩) (Nat.le_refl _) _⟩
              rw [hts.out, ← hdec.out]
              exact hC3.set x (v - 1)
          · clear hprev
            have t3 : decide (0 < j) = false := by simp; omega
            go_wp2
            go_quiet (fail)
            have hc1 : (wr.drewN nq).cell? ⟨b, off + j, none⟩ = some (.int .i64 x) := hc1
            have hc2 : (wr.drewN nq).cell? ⟨w5.heap.size, x, none⟩ = some (.int .i64 v) := hc2
            have hf2 : (wr.drewN nq).frozen? ⟨w5.heap.size, x, none⟩ = false := hf2
            have hC3 : Blk i64 (wr.drewN nq) w5.heap.size (cntL N L (A.take j)) := hC3
            have hK3 : Below w5.heap.size w5 (wr.drewN nq) := below_drewN' hK3 _
            generalize wr.drewN nq = wq at *
            go_wp2
            go_roundg (gk - 1)
            case measure => have := HJ.out; omega
            case rel =>
              refine ⟨j + 1, by have := HJ.out; omega, by go_num, ?_, hK3.setCell (p := ⟨w5.heap.size, x, none⟩) (Nat.le_refl _) _⟩
              rw [hts.out, ← hdec.out]
              exact hC3.set x (v - 1)
        · obtain rfl : N = j := by omega
          have hC4 : Blk i64 wr w5.heap.size (cntL N L A) := by
            have := HAl.out
            rw [← List.take_length (l := A), this]; exact hC3
          obtain ⟨wp, hwp⟩ : ∃ wp : World, wp = wr := ⟨_, rfl⟩
          rw [← hwp] at hC4 hK3
          subst hwp
          clear hC3 hC2 hK
          go_wp2
          go_loopg [13] N (fun g i wr => ∃ j : Nat, j + g = N ∧ i = .int .i64 j ∧ wr = wp)
          case atStart => exact ⟨0, by omega, rfl, rfl⟩
          case round =>
            obtain ⟨j, hj3, rfl, rfl⟩ := hrel
            by_cases hlt3 : j < N
            · have hl : j < (cntL N L A).length := by rw [cntL_length]; exact hlt3
              have hc : wr.cell? ⟨w5.heap.size, j, none⟩ = some (.int .i64 0) := by
                rw [hC4.cell j hl]
                have := cntL_perm N L A hAp.symm j hlt3
                rw [List.getElem?_eq_getElem hl] at this
                simp only [Option.some.injEq] at this
                rw [this]
              have HJ := hid hj3
              clear hj3
              go_wp2
              go_roundg (gk - 1)
              case measure => have := HJ.out; omega
              case rel => exact ⟨j + 1, by have := HJ.out; omega, by go_num, rfl⟩
            · obtain rfl : N = j := by omega
              have hsa' := hsa.below hK3
              have hsb' := hsb.below hK3
              have hd1' := hd1.below hK3
              have hd2' := hd2.below hK3
              have hAl' : A.length ≤ 1000000 := by have := HAl.out; omega
              have hrl := restL_le N A
              go_wp2_with fail
              refine (rest_any N _ A wr hsa' hN1 (by omega) hAl').mono ?_
              rintro e w6 ⟨vr, rfl, hor, hb6⟩
              go_wp2_with fail
              refine (sameInts_any _ _ _ _ w6 (hsb'.below hb6) (Sl.of_owns hor) (by omega) (by omega)).mono ?_
              rintro e w7 ⟨rfl, hb7⟩
              simp only [decide_true]
              have hx1 := (hd1'.below hb6).below hb7
              have hx2 := (hd2'.below hb6).below hb7
              go_wp2_with fail
              refine (dstate_any _ _ w7 hx1.cell).mono ?_
              rintro e w8 ⟨rfl, rfl⟩
              go_wp2_with fail
              refine (dstate_any _ _ w7 hx2.cell).mono ?_
              rintro e w9 ⟨rfl, rfl⟩
              go_wp2
              go_ret
              refine ⟨by simp, ?_⟩
              have e1 := hkk.trans (hK3.mono (by have := hkk.size; omega))
              have e2 := e1.trans (hb6.mono (by have := e1.size; omega))
              exact e2.trans (hb7.mono (by have := e2.size; omega))

end Go.Proofs.Ytiodofijcghpaaa
