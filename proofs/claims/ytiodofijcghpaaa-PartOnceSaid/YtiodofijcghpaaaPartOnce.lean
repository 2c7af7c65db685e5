/- law8.PartOnce returns true. -/
import Derived.Test.YtiodofijcghpaaaOnce
import Derived.Test.YtiodofijcghpaaaOncePlain
import Derived.Test.YtiodofijcghpaaaArgs
namespace Go.Proofs.Ytiodofijcghpaaa
open Go.RowKit

/-- the labels that the law makes -/
def lblF (lab : List Int) (i : Nat) : Int := (if i < lab.length then lab.getD i 0 else (i : Int)) % 4
def lbl (lab : List Int) (n : Nat) : List Int := (List.range n).map (lblF lab)
theorem lbl_length (lab : List Int) (n : Nat) : (lbl lab n).length = n := by simp [lbl]
theorem lbl_succ (lab : List Int) (n : Nat) : lbl lab (n + 1) = lbl lab n ++ [lblF lab n] := by simp [lbl, List.range_succ]
theorem lbl_range (lab : List Int) (n : Nat) : ∀ x ∈ lbl lab n, 0 ≤ x ∧ x < 12 := by
  intro x hx
  obtain ⟨i, _, rfl⟩ := List.mem_map.1 hx
  unfold lblF; omega

set_option maxRecDepth 100000 in
set_option maxHeartbeats 3200000 in
theorem partOnce_any (seed n k : Int) (v : Value) (lab : List Int) (w : World) (hs : 0 ≤ seed) (hS : Sl i64 w v lab) :
    Calls Try.prog 4 #[.int .u64 seed, .int .i64 n, .int .i64 k, v] w fun e w' => e = .returned (.bool true) ∧ Below w.heap.size w w' := by
  obtain ⟨la, lcap, rfl⟩ := hS.len
  go_enter Try.func4, Try.ntmps4
  go_wp2_with fail
  refine (dnew_any seed w).mono ?_
  rintro e w1 ⟨rfl, hw1⟩
  have hd : Die w1 w.heap.size seed := by rw [hw1]; exact Die.new w seed _ hs
  have hk : Below w.heap.size w w1 := by rw [hw1]; exact (Below.refl _ _).alloc (Nat.le_refl _) _
  clear hw1
  go_wp2_with fail
  refine (known_any w1).mono ?_
  rintro e w2 ⟨rfl, hb⟩
  have hd := hd.below hb
  have hk := hk.trans (hb.mono hk.size)
  clear hb
  go_wp2_with fail
  refine (pick_any n 60 w2 (by omega) (by omega)).mono ?_
  rintro e w3 ⟨rfl, rfl⟩
  have hp1 := Int.emod_nonneg n (show (60 : Int) ≠ 0 by omega)
  have hp2 := Int.emod_lt_of_pos n (show (0 : Int) < 60 by omega)
  generalize n % 60 = m at *
  obtain ⟨m, rfl⟩ := Int.eq_ofNat_of_zero_le hp1
  obtain ⟨N, hN⟩ : ∃ N : Nat, (N : Int) = 2 + (m : Int) := ⟨m + 2, by omega⟩
  have hN1 : 2 ≤ N := by omega
  have hN2 : N ≤ 61 := by omega
  go_wp2_with fail
  rw [← hN]
  clear hN hp1 hp2
  refine (pick_any k _ w2 (by omega) (by omega)).mono ?_
  rintro e w3 ⟨rfl, rfl⟩
  have hp1 := Int.emod_nonneg k (show ((N : Int) - 1) ≠ 0 by omega)
  have hp2 := Int.emod_lt_of_pos k (show (0 : Int) < (N : Int) - 1 by omega)
  generalize k % ((N : Int) - 1) = m2 at *
  obtain ⟨m2, rfl⟩ := Int.eq_ofNat_of_zero_le hp1
  obtain ⟨K, hKK⟩ : ∃ K : Nat, (K : Int) = 2 + (m2 : Int) := ⟨m2 + 2, by omega⟩
  have hK1 : 2 ≤ K := by omega
  have hK2 : K ≤ N := by omega
  have HKK := hid hKK
  clear hKK hp1
  have hm2 : (m2 : Int) ≤ 60 := by omega
  clear hp2
  go_wp2
  rw [← HKK.out]
  clear HKK hm2
  go_loopg [10, 11, 12] N (fun g vl i _ wr => ∃ j : Nat, j + g = N ∧ i = .int .i64 j ∧ wr.ownsRow w2.heap.size 3 1 vl j ((lbl lab j).map i64) ∧ Below w2.heap.size w2 wr)
  case atStart => exact ⟨0, by omega, rfl, World.ownsRow_nil _ _ _ _, Below.refl _ _⟩
  case round =>
    obtain ⟨j, hj, rfl, hown, hB⟩ := hrel
    by_cases hlt : j < N
    · have HJ := hid hj
      have hls := hid (lbl_succ lab j)
      clear hj
      have hsz := hB.size
      by_cases hjl : j < lab.length
      · obtain ⟨b, off, rfl, hbl, hc⟩ := hS.at j hjl
        have hbw : b < w2.heap.size := by have := hk.size; omega
        have hcr := (hB.cell (p := ⟨b, off + j, none⟩) hbw).trans ((hk.cell (p := ⟨b, off + j, none⟩) hbl).trans hc)
        have hF : lblF lab j = lab[j] % 4 := by simp [lblF, hjl]
        clear hc
        generalize lab[j] = x at *
        have HF := hid hF
        clear hF
        go_wp2_with fail
        refine (pick_any x 4 wr (by omega) (by omega)).mono ?_
        rintro e wx ⟨rfl, rfl⟩
        go_wp2_with (at_builtin; refine app1 rfl _ _ 27 rfl w2.heap.size 3 (.int .i64 0) 8 Try.infoInt Try.underlying27 rfl _ _ _ rfl hown _ rfl rfl (by omega) (by omega) hsz ?_; intro g' cap' w4 hown4 hk4)
        have hne : ∀ k, u10.ownBlock = some k → w2.heap.size ≤ k := fun k e => (hown.lt k e).1
        go_roundg (gk - 1)
        case measure => have := HJ.out; omega
        case rel =>
          refine ⟨j + 1, by have := HJ.out; omega, by go_num, ?_, hB.trans (hk4.below _ hB.size (fun k hk e => by have := hne k e; omega))⟩
          rw [hls.out, HF.out]
          simpa using hown4
      · have hF : lblF lab j = (j : Int) % 4 := by simp [lblF, hjl]
        have HF := hid hF
        clear hF
        go_wp2_with fail
        refine (pick_any j 4 wr (by omega) (by omega)).mono ?_
        rintro e wx ⟨rfl, rfl⟩
        go_wp2_with (at_builtin; refine app1 rfl _ _ 27 rfl w2.heap.size 3 (.int .i64 0) 8 Try.infoInt Try.underlying27 rfl _ _ _ rfl hown _ rfl rfl (by omega) (by omega) hsz ?_; intro g' cap' w4 hown4 hk4)
        have hne : ∀ k, u10.ownBlock = some k → w2.heap.size ≤ k := fun k e => (hown.lt k e).1
        go_roundg (gk - 1)
        case measure => have := HJ.out; omega
        case rel =>
          refine ⟨j + 1, by have := HJ.out; omega, by go_num, ?_, hB.trans (hk4.below _ hB.size (fun k hk e => by have := hne k e; omega))⟩
          rw [hls.out, HF.out]
          simpa using hown4
    · obtain rfl : N = j := by omega
      obtain ⟨wo, hwo⟩ : ∃ wo : World, wo = wr := ⟨_, rfl⟩
      rw [← hwo] at hown hB ⊢
      subst hwo
      have hD := hd.lt
      have hd := hd.below hB
      have hk := hk.trans (hB.mono hk.size)
      have hll := hid (lbl_length lab N)
      have hsl := Sl.of_owns hown
      have hbl := owns_base hown
      obtain ⟨ll, lcap2, rfl⟩ : ∃ a cap, u10 = .slice a N cap := by have := hsl.len; rwa [hll.out] at this
      clear hj hown hB
      have hwz : w.heap.size < wo.heap.size := by have := hd.lt; omega
      go_wp2_with fail
      refine (halves_ok w.heap.size N K seed wo hd (by omega) (by omega) hK2).mono ?_
      rintro e w4 ⟨va, vb, rfl, hoa, hob, hd4, hk4⟩
      have hsl := hsl.kept hk4 (fun b off len cap e => by have := hbl b off len cap e; omega)
      have hsa := Sl.of_owns hoa
      have hsb := Sl.of_owns hob
      have hba := owns_base hoa
      have hbb := owns_base hob
      clear hoa hob
      have hk := hk.trans (hk4.below w.heap.size (by omega) (fun k hk e => by omega))
      have hz4 := hk4.size
      clear hk4
      generalize hs4 : (orderL N seed).2 = s4 at *
      go_wp2_with fail
      refine (folds_ok w.heap.size N K s4 w4 hd4 hK1 hK2 (by omega)).mono ?_
      rintro e w5 ⟨vp, rfl, hvp, hd5, hk5⟩
      have hsl := hsl.kept hk5 (fun b off len cap e => by have := hbl b off len cap e; omega)
      have hsa := hsa.kept hk5 (fun b off len cap e => by have := hba b off len cap e; omega)
      have hsb := hsb.kept hk5 (fun b off len cap e => by have := hbb b off len cap e; omega)
      have hk := hk.trans (hk5.below w.heap.size (by omega) (fun k hk e => by omega))
      have hz5 := hk5.size
      clear hk5
      generalize hs5 : (orderL N s4).2 = s5 at *
      go_wp2_with fail
      have hev := even_ok w.heap.size K (.slice ll N lcap2) (lbl lab N) s5 w5 hsl hd5 hK1 (by rw [hll.out]; exact hK2) (by rw [hll.out]; omega) (lbl_range lab N) (fun b off len cap e => by have := hbl b off len cap e; omega)
      rw [hll.out] at hev
      refine hev.mono ?_
      clear hev
      rintro e w6 ⟨vq, L, rfl, hst, hvq, hd6, hk6⟩
      have hsl := hsl.kept hk6 (fun b off len cap e => by have := hbl b off len cap e; omega)
      have hsa := hsa.kept hk6 (fun b off len cap e => by have := hba b off len cap e; omega)
      have hsb := hsb.kept hk6 (fun b off len cap e => by have := hbb b off len cap e; omega)
      have hvp := hvp.kept hk6 (fun b hb e => by omega)
      have hk := hk.trans (hk6.below w.heap.size (by omega) (fun k hk e => by omega))
      clear hk6 hd6 hd5 hd4 hd hbl hba hbb
      have hvp := hvp.sl2
      have hvq := hvq.sl2
      obtain ⟨pa, pcap, rfl⟩ : ∃ a cap, vp = .slice a K cap := by have := hvp.len; rwa [dealL_length] at this
      obtain ⟨qa, qcap, rfl⟩ : ∃ a cap, vq = .slice a K cap := by have := hvq.len; rwa [dealL_length] at this
      have hlb : (sortI ((orderL N seed).1.take K)).length = K := by rw [sortI_length, List.length_take, orderL_length]; omega
      obtain ⟨ba, bcap, rfl⟩ : ∃ a cap, vb = .slice a K cap := by have := hsb.len; rwa [hlb] at this
      have HLB := hid hlb
      clear hlb
      have hla : (sortI ((orderL N seed).1.drop K)).length = N - K := by rw [sortI_length, List.length_drop, orderL_length]
      obtain ⟨aa, acap, rfl⟩ : ∃ a cap, va = .slice a (N - K) cap := by have := hsa.len; rwa [hla] at this
      have HLA := hid hla
      clear hla
      -- the plain facts
      have o1 := orderL_perm N seed (by omega)
      have o2 := orderL_perm N s4 (by omega)
      have o3 : L.Perm (upTo N) := hst.perm.trans (orderL_perm N s5 (by omega))
      have f1 : ([sortI ((orderL N seed).1.drop K), sortI ((orderL N seed).1.take K)] : List (List Int)).flatten.Perm (upTo N) := by
        simp only [List.flatten_cons, List.flatten_nil, List.append_nil]
        refine ((sortI_perm _).append (sortI_perm _)).trans (List.perm_append_comm.trans ?_)
        rw [List.take_append_drop]; exact o1
      have n1 : ∀ p ∈ ([sortI ((orderL N seed).1.drop K), sortI ((orderL N seed).1.take K)] : List (List Int)), p.Pairwise (· < ·) := by
        have hnd := nodup_of_flatten (f1.nodup_iff.2 (upTo_nodup N))
        intro p hp
        refine strict_of_sorted ?_ (hnd p hp)
        rcases List.mem_cons.1 hp with rfl | hp
        · exact sortI_sorted _
        · rw [List.mem_singleton.1 hp]; exact sortI_sorted _
      have p2 := (dealL_perm (orderL N s4).1 K (by omega)).trans o2
      have n2 := dealL_strict (orderL N s4).1 K (by omega) (o2.nodup_iff.2 (upTo_nodup N))
      have p3 := (dealL_perm L K (by omega)).trans o3
      have n3 := dealL_strict L K (by omega) (o3.nodup_iff.2 (upTo_nodup N))
      have HPL := hid (And.intro f1 (And.intro n1 (And.intro p2 (And.intro n2 (And.intro p3 (And.intro n3 (And.intro o3 hst)))))))
      clear f1 n1 p2 n2 p3 n3 o1 o2 o3 hst
      have t1 : ((K : Int) != (K : Int)) = false := by simp
      go_wp2_with fail
      have hB7 : Below w6.heap.size w6 (w6.alloc (.cells #[.slice aa (N - K) acap, .slice ba K bcap] 27)) := (Below.refl _ _).alloc (Nat.le_refl _) _
      have hs2 : Sl2 (w6.alloc (.cells #[.slice aa (N - K) acap, .slice ba K bcap] 27)) (.slice (some ⟨w6.heap.size, 0, none⟩) 2 2) [sortI ((orderL N seed).1.drop K), sortI ((orderL N seed).1.take K)] := by
        refine ⟨fun i => if i = 0 then .slice aa (N - K) acap else .slice ba K bcap, ?_, fun i hi => ?_⟩
        · have := (Blk.new id w6 [.slice aa (N - K) acap, .slice ba K bcap] 27).sl 2
          exact this
        · match i, hi with
          | 0, _ => exact hsa.below hB7
          | 1, _ => exact hsb.below hB7
      refine (once_true N _ _ _ hs2 (by omega) (by simp) HPL.out.1 HPL.out.2.1).mono ?_
      rintro e w7 ⟨rfl, hb7⟩
      have hB7 := hB7.trans (hb7.mono hB7.size)
      clear hs2 hb7
      go_wp2_with fail
      refine (once_true N _ _ _ (hvp.below hB7) (by omega) (by rw [dealL_length]; omega) HPL.out.2.2.1 HPL.out.2.2.2.1).mono ?_
      rintro e w8 ⟨rfl, hb8⟩
      have hB7 := hB7.trans (hb8.mono hB7.size)
      clear hb8
      go_wp2_with fail
      refine (once_true N _ _ _ (hvq.below hB7) (by omega) (by rw [dealL_length]; omega) HPL.out.2.2.2.2.1 HPL.out.2.2.2.2.2.1).mono ?_
      rintro e w9 ⟨rfl, hb9⟩
      have hB7 := hB7.trans (hb9.mono hB7.size)
      clear hb9
      have hvp := hvp.below hB7
      have hvq := hvq.below hB7
      have hsl := hsl.below hB7
      have hk := hk.trans (hB7.mono hk.size)
      clear hB7 hsa hsb
      go_wp2
      go_loopg [20] K (fun g i wr => ∃ j : Nat, j + g = K ∧ i = .int .i64 j ∧ Below w9.heap.size w9 wr)
      case atStart => exact ⟨0, by omega, rfl, Below.refl _ _⟩
      case round =>
        obtain ⟨j, hj, rfl, hB⟩ := hrel
        by_cases hjK : j < K
        · obtain ⟨b1, off1, a1, cap1, rfl, hb1, hc1, hs1⟩ := hvp.at j (by rw [dealL_length]; exact hjK)
          obtain ⟨b2, off2, a2, cap2, rfl, hb2, hc2, hs2⟩ := hvq.at j (by rw [dealL_length]; exact hjK)
          rw [dealL_get, sortI_length] at hc1 hc2
          have z1 := dealt_size (orderL N s4).1 K j (orderL N s4).1.length hjK
          have z2 := dealt_size L K j L.length hjK
          have hLl : L.length = N := by have := HPL.out.2.2.2.2.2.2.1.length_eq; rwa [upTo_length] at this
          rw [hLl] at z2 hc2
          rw [orderL_length] at z1 hc1
          have hc1 := (hB.cell (p := ⟨b1, off1 + j, none⟩) hb1).trans hc1
          have hc2 := (hB.cell (p := ⟨b2, off2 + j, none⟩) hb2).trans hc2
          generalize (dealt (orderL N s4).1 K j N).length = P1 at *
          generalize (dealt L K j N).length = P2 at *
          obtain ⟨z11, z12⟩ := z1
          obtain ⟨z21, z22⟩ := z2
          have HJ := hid hj
          clear hj hLl hs1 hs2
          have q1 : (N : Int).tdiv (K : Int) = ((N / K : Nat) : Int) := by rw [Int.tdiv_eq_ediv_of_nonneg (by omega)]; omega
          have q2 : ((N : Int) + (K : Int) - 1).tdiv (K : Int) = (((N + K - 1) / K : Nat) : Int) := by
            rw [Int.tdiv_eq_ediv_of_nonneg (by omega), show (N : Int) + (K : Int) - 1 = ((N + K - 1 : Nat) : Int) by omega]; omega
          have hA : N / K ≤ 1000 := by have := Nat.div_le_self N K; omega
          have hC : (N + K - 1) / K ≤ 1000 := by have := Nat.div_le_self (N + K - 1) K; omega
          generalize N / K = A at *
          generalize (N + K - 1) / K = C at *
          have q3 : IntKind.i64.wrap ((N : Int) + (K : Int)) = (N : Int) + (K : Int) := by rw [IntKind.wrap_i64]; omega
          have q4 : IntKind.i64.wrap ((N : Int) + (K : Int) - 1) = (N : Int) + (K : Int) - 1 := by rw [IntKind.wrap_i64]; omega
          have q5 : IntKind.i64.wrap (A : Int) = A := by rw [IntKind.wrap_i64]; omega
          have q6 : IntKind.i64.wrap (C : Int) = C := by rw [IntKind.wrap_i64]; omega
          have r1 : decide (P1 < A) = false := by simp; omega
          have r2 : decide (C < P1) = false := by simp; omega
          have r3 : decide (P2 < A) = false := by simp; omega
          have r4 : decide (C < P2) = false := by simp; omega
          have r5 : ¬ K = 0 := by omega
          go_wp2
          go_quiet (fail)
          go_wp2
          go_roundg (gk - 1)
          case measure => have := HJ.out; omega
          case rel => exact ⟨j + 1, by have := HJ.out; omega, by go_num, below_drewN' hB _⟩
        · clear hj
          obtain ⟨wp, hwp⟩ : ∃ wp : World, wp = wr := ⟨_, rfl⟩
          rw [← hwp] at hB ⊢
          subst hwp
          have hvq := hvq.below hB
          have hsl := hsl.below hB
          have hk := hk.trans (hB.mono hk.size)
          clear hB hvp
          have hLl : L.length = N := by have := HPL.out.2.2.2.2.2.2.1.length_eq; rwa [upTo_length] at this
          have hLm : ∀ i, i < K → ∀ x ∈ sortI (dealt L K i N), 0 ≤ x ∧ x < N := by
            intro i hi x hx
            have hp := HPL.out.2.2.2.2.1
            refine (upTo_mem N x).1 (hp.mem_iff.1 ?_)
            rw [List.mem_flatten]
            refine ⟨_, ?_, hx⟩
            unfold dealL
            rw [hLl]
            exact List.mem_map.2 ⟨i, List.mem_range.2 hi, rfl⟩
          have hev : ∀ (c : Int) i j, i < K → j < K → ((sortI (dealt L K i N)).filter fun x => (lbl lab N).getD x.toNat 0 == c).length ≤ ((sortI (dealt L K j N)).filter fun x => (lbl lab N).getD x.toNat 0 == c).length + 1 := by
            intro c i j hi hj
            rw [((sortI_perm (dealt L K i N)).filter _).length_eq, ((sortI_perm (dealt L K j N)).filter _).length_eq]
            refine labels_even (lbl lab N) L K i j c N hi hj ?_
            intro p q hpq hq
            have := HPL.out.2.2.2.2.2.2.2.sorted.get p q hpq (by omega)
            simp only [labLt, decide_eq_false_iff_not] at this
            simp only [List.getD_eq_getElem?_getD (l := L), List.getElem?_eq_getElem (show p < L.length by omega), List.getElem?_eq_getElem (show q < L.length by omega), Option.getD_some]
            omega
          have HEV := hid (And.intro hLm (And.intro hev hLl))
          clear hLm hev hLl HPL HLA HLB
          go_wp2
          go_loopg [21, 22, 23, 24, 25, 26] 4 (fun g vc _ _ _ _ _ wr => ∃ c : Nat, c + g = 4 ∧ vc = .int .i64 c ∧ wp = wr)
          case atStart => exact ⟨0, by omega, rfl, rfl⟩
          case round =>
            obtain ⟨c, hc, rfl, rfl⟩ := hrel
            by_cases hc4 : c < 4
            · have HC := hid hc
              clear hc
              go_wp2
              go_loopg [22, 23, 24, 25, 26] K (fun g vlo vhi vi _ _ wr => ∃ i lo hi : Nat, i + g = K ∧ vi = .int .i64 i ∧ vlo = .int .i64 lo ∧ vhi = .int .i64 hi ∧ lo ≤ 1000 ∧ hi ≤ N ∧
                (hi = 0 ∨ ∃ b, b < K ∧ hi = ((sortI (dealt L K b N)).filter fun x => (lbl lab N).getD x.toNat 0 == (c : Int)).length) ∧ (lo = N ∨ ∃ a, a < K ∧ lo = ((sortI (dealt L K a N)).filter fun x => (lbl lab N).getD x.toNat 0 == (c : Int)).length) ∧ wp = wr)
              case atStart => exact ⟨0, N, 0, by omega, rfl, rfl, rfl, by omega, by omega, .inl rfl, .inl rfl, rfl⟩
              case round =>
                obtain ⟨i, lo, hi, hi1, rfl, rfl, rfl, hlo, hhi, e1, e2, rfl⟩ := hrel
                have HE := hid (And.intro hi1 (And.intro e1 e2))
                clear hi1 e1 e2
                by_cases hiK : i < K
                · obtain ⟨b2, off2, a2, cap2, rfl, hb2, hc2, hs2⟩ := hvq.at i (by rw [dealL_length]; exact hiK)
                  have hqi : (dealL L K)[i]'(by rw [dealL_length]; exact hiK) = sortI (dealt L K i N) := by rw [dealL_get, HEV.out.2.2]
                  rw [hqi] at hc2 hs2
                  have hqr := HEV.out.1 i hiK
                  have hql : (sortI (dealt L K i N)).length ≤ N := by rw [sortI_length]; exact dealt_le _ _ _ _
                  generalize hqq : sortI (dealt L K i N) = q at *
                  have HQ := hid hqq
                  clear hqq hqi
                  have HQR := hid hqr
                  clear hqr
                  go_wp2
                  go_loopg [25, 26] q.length (fun g vm vj wr => ∃ j : Nat, j + g = q.length ∧ vj = .int .i64 j ∧ vm = .int .i64 ((q.take j).filter fun x => (lbl lab N).getD x.toNat 0 == (c : Int)).length ∧ wp = wr)
                  case atStart => exact ⟨0, by omega, rfl, rfl, rfl⟩
                  case round =>
                    obtain ⟨j, hj, rfl, rfl, rfl⟩ := hrel
                    have hml : ((q.take j).filter fun x => (lbl lab N).getD x.toNat 0 == (c : Int)).length ≤ N := by
                      have h1 := List.length_filter_le (fun x : Int => (lbl lab N).getD x.toNat 0 == (c : Int)) (q.take j)
                      have h2 := List.length_take_le j q
                      have h3 : (q.take j).length ≤ q.length := List.length_take_le' _ _
                      omega
                    by_cases hjq : j < q.length
                    · obtain ⟨b3, off3, rfl, hb3, hc3⟩ := hs2.at j hjq
                      have hxr := HQR.out q[j] (List.getElem_mem hjq)
                      have htj : q.take (j + 1) = q.take j ++ [q[j]] := List.take_succ_eq_append_getElem hjq
                      generalize q[j] = x at *
                      obtain ⟨x1, x2⟩ := hxr
                      obtain ⟨x, rfl⟩ := Int.eq_ofNat_of_zero_le x1
                      have hxl : x < (lbl lab N).length := by rw [lbl_length]; omega
                      obtain ⟨b4, off4, rfl, hb4, hc4'⟩ := hsl.at x hxl
                      have hxN : x < N := by omega
                      have hgl : (lbl lab N).getD (x : Int).toNat 0 = (lbl lab N)[x] := by simp [hxl]
                      have hfl : ((q.take (j + 1)).filter fun x => (lbl lab N).getD x.toNat 0 == (c : Int)).length = ((q.take j).filter fun x => (lbl lab N).getD x.toNat 0 == (c : Int)).length + (if (lbl lab N)[x] = (c : Int) then 1 else 0) := by
                        rw [htj, List.filter_append, List.length_append, List.filter_cons, List.filter_nil, hgl]
                        by_cases e : (lbl lab N)[x] = (c : Int)
                        · simp [e]
                        · have : ((lbl lab N)[x] == (c : Int)) = false := by simpa using e
                          simp [this, e]
                      clear htj hgl
                      generalize (lbl lab N)[x] = y at *
                      generalize ((q.take j).filter fun x => (lbl lab N).getD x.toNat 0 == (c : Int)).length = m at *
                      have HF := hid (And.intro hfl hj)
                      clear hfl hj
                      by_cases hy : y = (c : Int)
                      · have ty : (y == (c : Int)) = true := by simpa using hy
                        have HY := hid hy
                        clear hy
                        go_wp2
                        go_roundg (gk - 1)
                        case measure => have := HF.out.2; omega
                        case rel =>
                          refine ⟨j + 1, by have := HF.out.2; omega, by go_num, ?_, rfl⟩
                          rw [HF.out.1, if_pos HY.out]; go_num
                      · have ty : (y == (c : Int)) = false := by simpa using hy
                        have HY := hid hy
                        clear hy
                        go_wp2
                        go_roundg (gk - 1)
                        case measure => have := HF.out.2; omega
                        case rel =>
                          refine ⟨j + 1, by have := HF.out.2; omega, by go_num, ?_, rfl⟩
                          rw [HF.out.1, if_neg HY.out, Nat.add_zero]
                    · obtain rfl : j = q.length := by omega
                      rw [List.take_length] at hml ⊢
                      clear hj
                      generalize hmm : (q.filter fun x => (lbl lab N).getD x.toNat 0 == (c : Int)).length = m at *
                      have HMM := hid hmm
                      clear hmm
                      go_wp2
                      go_roundg (K - (i + 1))
                      case measure => have := HE.out.1; omega
                      case rel =>
                        obtain ⟨hi1, e1, e2⟩ := HE.out
                        refine ⟨i + 1, min lo m, max hi m, by omega, by go_num, ?_, ?_, by omega, by omega, ?_, ?_, rfl⟩
                        · congr 1; omega
                        · congr 1; omega
                        · by_cases h : hi ≤ m
                          · right; exact ⟨i, hiK, by rw [HQ.out, HMM.out]; omega⟩
                          · rw [show max hi m = hi by omega]; exact e1
                        · by_cases h : m ≤ lo
                          · right; exact ⟨i, hiK, by rw [HQ.out, HMM.out]; omega⟩
                          · rw [show min lo m = lo by omega]; exact e2
                · have hfin : hi ≤ lo + 1 := by
                    obtain ⟨hi1, e1, e2⟩ := HE.out
                    rcases e1 with rfl | ⟨b, hb, rfl⟩
                    · omega
                    · rcases e2 with rfl | ⟨a, ha, rfl⟩
                      · omega
                      · exact HEV.out.2.1 _ b a hb ha
                  go_wp2
                  go_roundg (4 - (c + 1))
                  case measure => have := HC.out; omega
                  case rel => exact ⟨c + 1, by have := HC.out; omega, by go_num, rfl⟩
            · clear hc
              go_wp2
              go_ret
              exact ⟨rfl, hk⟩

end Go.Proofs.Ytiodofijcghpaaa
