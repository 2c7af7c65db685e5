/- PartTells: the law's walk. -/
import Derived.Test.YtiodofijcghpaaaPartAll
import Derived.Test.YtiodofijcghpaaaArgs
import Derived.Deep.RegionHeld3
namespace Go.Proofs.Ytiodofijcghpaaa
open Go.RowKit

def tlF (x : Int) : Int := if x.tmod 37 = 36 then x else x % 5
theorem Sl2b.le_all {n k s : Int} : (∀ l ∈ fL n k s, l.length ≤ 1000000) ∧ (fL n k s).length ≤ 1000000 := by
  unfold fL
  by_cases h : fBad n k
  · simp [h]
  · rw [if_neg h]
    unfold fBad at h
    refine ⟨fun l hl => ?_, by rw [dealL_length]; omega⟩
    simp only [dealL, List.mem_map] at hl
    obtain ⟨i, _, rfl⟩ := hl
    rw [sortI_length]
    have := dealt_le (orderL n.toNat s).1 k.toNat i (orderL n.toNat s).1.length
    rw [orderL_length] at this ⊢
    omega
theorem eL_le {l : List Int} {k s : Int} : (∀ p ∈ eL l k s, p.length ≤ 1000000) ∧ (eL l k s).length ≤ 1000000 := by
  unfold eL
  by_cases h : fBad l.length k
  · simp [h]
  · rw [if_neg h]
    unfold fBad at h
    by_cases h2 : labsOk l = true
    · rw [if_pos h2]
      refine ⟨fun p hp => ?_, by rw [dealL_length]; omega⟩
      simp only [dealL, List.mem_map] at hp
      obtain ⟨i, _, rfl⟩ := hp
      rw [sortI_length]
      have h1 := dealt_le (bucket l (orderL l.length s).1 12) k.toNat i (bucket l (orderL l.length s).1 12).length
      have h2 := bucket_le l (orderL l.length s).1 12
      rw [orderL_length] at h2
      omega
    · rw [if_neg h2]; simp

set_option maxRecDepth 100000 in
set_option maxHeartbeats 2000000 in
theorem partTells_any (seed n k : Int) (v : Value) (lab : List Int) (w : World) (hs : 0 ≤ seed) (hSl : Sl i64 w v lab) :
    Calls Try.prog 6 #[.int .u64 seed, .int .i64 n, .int .i64 k, v] w fun e w' => e = .returned (.bool true) ∧ Below w.heap.size w w' := by
  obtain ⟨la, lcap, rfl⟩ := hSl.len
  go_enter Try.func6, Try.ntmps6
  go_wp2_with fail
  refine (dnew_any seed w).mono ?_
  rintro e w1 ⟨rfl, hw1⟩
  have hd : Die w1 w.heap.size seed := by rw [hw1]; exact Die.new w seed _ hs
  have hk : Below w.heap.size w w1 := by rw [hw1]; exact (Below.refl _ _).alloc (Nat.le_refl _) _
  clear hw1
  go_wp2_with fail
  obtain ⟨R, hR⟩ : ∃ R, R = w1.heap.size := ⟨_, rfl⟩
  rw [← hR]
  have hr : Die (w1.alloc (.cells #[.int .u64 seed] 46)) R seed := by rw [hR]; exact Die.new w1 seed _ hs
  have ha : Below w1.heap.size w1 (w1.alloc (.cells #[.int .u64 seed] 46)) := (Below.refl _ _).alloc (Nat.le_refl _) _
  have hDR : w.heap.size < R := by have := hd.lt; omega
  have hd := hd.below ha
  have hk := hk.trans (ha.mono hk.size)
  clear ha hR
  generalize w1.alloc (.cells #[.int .u64 seed] 46) = w2 at *
  refine (known_any w2).mono ?_
  rintro e w3 ⟨rfl, hb⟩
  have hd := hd.below hb
  have hr := hr.below hb
  have hk := hk.trans (hb.mono hk.size)
  clear hb
  go_wp2_with fail
  refine (pick_any n 40 w3 (by omega) (by omega)).mono ?_
  rintro e w4 ⟨rfl, rfl⟩
  have hp1 := Int.emod_nonneg n (show (40 : Int) ≠ 0 by omega)
  have hp2 := Int.emod_lt_of_pos n (show (0 : Int) < 40 by omega)
  generalize n % 40 = m at *
  go_wp2_with fail
  refine (pick_any k 12 w3 (by omega) (by omega)).mono ?_
  rintro e w4 ⟨rfl, rfl⟩
  have hq1 := Int.emod_nonneg k (show (12 : Int) ≠ 0 by omega)
  have hq2 := Int.emod_lt_of_pos k (show (0 : Int) < 12 by omega)
  generalize k % 12 = m2 at *
  go_wp2_with fail
  obtain ⟨N, hN⟩ : ∃ N : Int, N = m - 2 := ⟨_, rfl⟩
  obtain ⟨K, hK⟩ : ∃ K : Int, K = m2 - 1 := ⟨_, rfl⟩
  rw [← hN, ← hK]
  have hN1 : -2 ≤ N := by omega
  have hN2 : N ≤ 37 := by omega
  have hK1 : -1 ≤ K := by omega
  have hK2 : K ≤ 10 := by omega
  clear hN hK hp1 hp2 hq1 hq2
  have hz3 := hr.lt
  refine (halves_all w.heap.size N K seed w3 hd).mono ?_
  rintro e w4 ⟨va, vb, rfl, hsa, hsb, hd4, hk4⟩
  have hr := hr.kept hk4 (by omega)
  have hk := hk.trans (hk4.below w.heap.size (by omega) (fun k hk e => by omega))
  have hz4 := hk4.size
  clear hd hk4
  go_wp2_with fail
  refine (rhalves_all R N K seed w4 hr).mono ?_
  rintro e w5 ⟨vp, vq, rfl, hsp, hsq, hr5, hk5⟩
  have hd := hd4.kept hk5 (by omega)
  have hsa := hsa.kept hk5 (fun b hb e => by omega)
  have hsb := hsb.kept hk5 (fun b hb e => by omega)
  have hk := hk.trans (hk5.below w.heap.size (by omega) (fun k hk e => by omega))
  have hz5 := hk5.size
  clear hd4 hr hk5
  have la1 : (hA N K seed).length ≤ 1000000 := by
    unfold hA; split
    · simp
    · rename_i hh; unfold hBad at hh; rw [sortI_length, List.length_drop, orderL_length]; omega
  have lb1 : (hB N K seed).length ≤ 1000000 := by
    unfold hB; split
    · simp
    · rename_i hh; unfold hBad at hh; rw [sortI_length, List.length_take, orderL_length]; omega
  go_wp2_with fail
  refine (sameInts_same va vp _ w5 hsa.1 hsp.1 la1).mono ?_
  rintro e w6 ⟨rfl, hb⟩
  have hd := hd.below hb
  have hr := hr5.below hb
  have hsb := hsb.below hb
  have hsq := hsq.below hb
  have hz6 := hb.size
  have hk := hk.trans (hb.mono hk.size)
  clear hb hr5 hsa hsp
  go_wp2_with fail
  refine (sameInts_same vb vq _ w6 hsb.1 hsq.1 lb1).mono ?_
  rintro e w7 ⟨rfl, hb⟩
  have hd := hd.below hb
  have hr := hr.below hb
  have hz7 := hb.size
  have hk := hk.trans (hb.mono hk.size)
  clear hb hsb hsq la1 lb1
  obtain ⟨e0, he0⟩ : ∃ e0, e0 = hErr N K := ⟨_, rfl⟩
  rw [← he0]
  clear he0
  have te0 : (e0 != e0) = false := by simp
  generalize hS N K seed = s7 at *
  go_wp2_with fail
  refine (folds_all w.heap.size N K s7 w7 hd).mono ?_
  rintro e w8 ⟨vc, rfl, hsc, hd8, hk8⟩
  have hr := hr.kept hk8 (by omega)
  have hk := hk.trans (hk8.below w.heap.size (by omega) (fun k hk e => by omega))
  have hz8 := hk8.size
  clear hd hk8
  go_wp2_with fail
  refine (rfolds_all R N K s7 w8 hr).mono ?_
  rintro e w9 ⟨vs, rfl, hss, hr9, hk9⟩
  have hd := hd8.kept hk9 (by omega)
  have hsc := hsc.kept hk9 (fun b hb e => by omega)
  have hk := hk.trans (hk9.below w.heap.size (by omega) (fun k hk e => by omega))
  have hz9 := hk9.size
  clear hd8 hr hk9
  go_wp2_with fail
  refine (lists_same vc vs _ w9 hsc.sl2 hss.sl2 Sl2b.le_all.2 Sl2b.le_all.1).mono ?_
  rintro e w10 ⟨rfl, hb⟩
  have hd := hd.below hb
  have hr := hr9.below hb
  have hz10 := hb.size
  have hk := hk.trans (hb.mono hk.size)
  clear hb hsc hss hr9
  obtain ⟨e1, he1⟩ : ∃ e1, e1 = fErr N K := ⟨_, rfl⟩
  rw [← he1]
  clear he1
  have te1 : (e1 != e1) = false := by simp
  generalize fS N K s7 = s10 at *
  go_wp2
  go_loopg [21, 22] lab.length (fun g vl i wr => ∃ j : Nat, j + g = lab.length ∧ j ≤ 30 ∧ i = .int .i64 j ∧ wr.ownsRow w10.heap.size 3 1 vl j (((lab.take j).map tlF).map i64) ∧ Below w10.heap.size w10 wr)
  case atStart => exact ⟨0, by omega, by omega, rfl, World.ownsRow_nil _ _ _ _, Below.refl _ _⟩
  case round =>
    obtain ⟨j, hj, hj30, rfl, hown, hB⟩ := hrel
    by_cases hlt : j < lab.length ∧ j < 30
    · obtain ⟨hlt, hl30⟩ := hlt
      obtain ⟨b, off, rfl, hbl, hc⟩ := hSl.at j hlt
      have hbw : b < w10.heap.size := by have := hk.size; omega
      have hcr := (hB.cell (p := ⟨b, off + j, none⟩) hbw).trans ((hk.cell (p := ⟨b, off + j, none⟩) hbl).trans hc)
      have hts : Hid (lab.take (j + 1) = lab.take j ++ [lab[j]]) := List.take_succ_eq_append_getElem hlt
      generalize lab[j] = x at *
      have HJ := hid hj
      clear hj hc
      have hsz := hB.size
      generalize hF : (lab.take j).map tlF = F at *
      have HF := hid hF
      clear hF
      go_wp2_with fail
      refine (pick_any x 5 wr (by omega) (by omega)).mono ?_
      rintro e wx ⟨rfl, rfl⟩
      have hne : ∀ k, u21.ownBlock = some k → w10.heap.size ≤ k := fun k e => (hown.lt k e).1
      have HC : Hid (∀ w', Kept (fun k => u21.ownBlock = some k) wr w' → w'.cell? ⟨b, off + j, none⟩ = some (.int .i64 x)) := hid (fun w' kk => (kk.cell (p := ⟨b, off + j, none⟩) (by simp; omega) (fun e => by have := hne _ e; simp at this; omega)).trans hcr)
      have HO : Hid (∀ (w' : World) g cap, w'.ownsRow w10.heap.size 3 1 (.slice (some ⟨g, 0, none⟩) (j + 1) cap) (j + 1) (F.map i64 ++ [.int .i64 (x % 5)]) → w'.cell? ⟨g, j, none⟩ = some (.int .i64 (x % 5)) ∧ w'.frozen? ⟨g, j, none⟩ = false) := hid (fun w' g cap h => by
        have h2 : w'.ownsRow w10.heap.size 3 1 (.slice (some ⟨g, 0, none⟩) (j + 1) cap) (j + 1) ((F ++ [x % 5]).map i64) := by simpa using h
        have hl := h2.1
        simp at hl
        have hR := (Rw.of_owns h2).1
        exact ⟨hR.cellD j _ (by simp; omega) (by rw [List.getD_eq_getElem?_getD, List.getElem?_append_right (by omega)]; simp [show j - F.length = 0 by omega]), hR.free j⟩)
      by_cases hx : x.tmod 37 = 36
      · have tx : (x.tmod 37 == 36) = true := by simpa using hx
        have HX := hid hx
        clear hx
        go_wp2_with (at_builtin; refine app1 rfl _ _ 27 rfl w10.heap.size 3 (.int .i64 0) 8 Try.infoInt Try.underlying27 rfl _ _ _ rfl hown _ rfl rfl (by omega) (by omega) hsz ?_; intro g' cap' w4' hown4 hk4; have hc4 := HC.out w4' hk4; obtain ⟨hcg, hfg⟩ := HO.out w4' g' cap' hown4)
        go_roundg (gk - 1)
        case measure => have := HJ.out; omega
        case rel =>
          refine ⟨j + 1, by have := HJ.out; omega, by omega, by go_num, ?_, ?_⟩
          · have h2 : w4'.ownsRow w10.heap.size 3 1 (.slice (some ⟨g', 0, none⟩) (j + 1) cap') (j + 1) ((F ++ [x % 5]).map i64) := by simpa using hown4
            obtain ⟨hR, hbg, hcm, hnn⟩ := Rw.of_owns h2
            have h3 := (hR.set j x).owns _ hbg hcm
            have hl : F.length = j := by have := h2.1; simp at this; omega
            have e : (F ++ [x % 5]).set j x = (lab.take (j + 1)).map tlF := by
              rw [hts.out, List.map_append, HF.out, List.set_append_right _ _ (by omega), show j - F.length = 0 by omega]
              simp [tlF, HX.out]
            rw [e] at h3
            rw [show ((lab.take (j + 1)).map tlF).length = j + 1 by rw [← e]; simp; omega] at h3
            exact h3
          · exact (hB.trans (hk4.below _ hB.size (fun k hk e => by have := hne k e; omega))).setCell (p := ⟨g', j, none⟩) (owns_base hown4 _ _ _ _ rfl) _
      · have tx : (x.tmod 37 == 36) = false := by simpa using hx
        have HX := hid hx
        clear hx
        go_wp2_with (at_builtin; refine app1 rfl _ _ 27 rfl w10.heap.size 3 (.int .i64 0) 8 Try.infoInt Try.underlying27 rfl _ _ _ rfl hown _ rfl rfl (by omega) (by omega) hsz ?_; intro g' cap' w4' hown4 hk4; have hc4 := HC.out w4' hk4)
        go_roundg (gk - 1)
        case measure => have := HJ.out; omega
        case rel =>
          refine ⟨j + 1, by have := HJ.out; omega, by omega, by go_num, ?_, ?_⟩
          · rw [hts.out, List.map_append, HF.out]
            have e : tlF x = x % 5 := by simp [tlF, HX.out]
            simpa [e] using hown4
          · exact hB.trans (hk4.below _ hB.size (fun k hk e => by have := hne k e; omega))
    · obtain ⟨wo, hwo⟩ : ∃ wo : World, wo = wr := ⟨_, rfl⟩
      rw [← hwo] at hown hB ⊢
      subst hwo
      have hd := hd.below hB
      have hr := hr.below hB
      have hk := hk.trans (hB.mono hk.size)
      have hsl := SlB.of_owns hown
      have hzo := hB.size
      have hLl : ((lab.take j).map tlF).length = j := by have := hown.1; simp at this ⊢; omega
      generalize (lab.take j).map tlF = L at *
      subst hLl
      have c1 : (decide (L.length < lab.length) && decide (L.length < 30)) = false := by simp; omega
      clear hj hown hB
      have hex : ¬ (L.length < lab.length ∧ L.length < 30) := hlt
      clear hlt
      have hbl := hsl.2
      have hne1 : ∀ b' off len cap, u21 = .slice (some ⟨b', off, none⟩) len cap → b' ≠ w.heap.size := fun b' off len cap e => by have := hbl b' off len cap e; omega
      have hne2 : ∀ b' off len cap, u21 = .slice (some ⟨b', off, none⟩) len cap → b' ≠ R := fun b' off len cap e => by have := hbl b' off len cap e; omega
      have HNE := hid (And.intro hne1 hne2)
      clear hne1 hne2 hbl c1
      have hex1 : L.length < lab.length → ¬ L.length < 30 := fun h1 h2 => hex ⟨h1, h2⟩
      have HEX := hid hex1
      clear hex hex1
      by_cases hl1 : L.length < lab.length
      have hl2 := HEX.out hl1
      all_goals
        go_wp2_with fail
        refine (even_all w.heap.size _ L K s10 wo hsl.1 (by omega) hd HNE.out.1).mono ?_
        rintro e w11 ⟨vt, rfl, hst, hd11, hk11⟩
        have hr := hr.kept hk11 (by omega)
        have hsl := hsl.kept hk11 (fun b hb e => by omega)
        have hk := hk.trans (hk11.below w.heap.size (by omega) (fun k hk e => by omega))
        have hz11 := hk11.size
        clear hd hk11
        go_wp2_with fail
        refine (reven_all R _ L K s10 w11 hsl.1 (by omega) hr HNE.out.2).mono ?_
        rintro e w12 ⟨vu, rfl, hsu, hr12, hk12⟩
        have hd := hd11.kept hk12 (by omega)
        have hsl := hsl.kept hk12 (fun b hb e => by omega)
        have hst := hst.kept hk12 (fun b hb e => by omega)
        have hk := hk.trans (hk12.below w.heap.size (by omega) (fun k hk e => by omega))
        have hz12 := hk12.size
        clear hd11 hr hk12
        generalize hes : eS L K s10 = s12 at *
        clear hes
        go_wp2_with fail
        refine (boot_all w.heap.size N s12 w12 hd).mono ?_
        rintro e w13 ⟨vx, vy, rfl, hsx, hsy, hd13, hk13⟩
        have hr := hr12.kept hk13 (by omega)
        have hsl := hsl.kept hk13 (fun b hb e => by omega)
        have hst := hst.kept hk13 (fun b hb e => by omega)
        have hsu := hsu.kept hk13 (fun b hb e => by omega)
        have hk := hk.trans (hk13.below w.heap.size (by omega) (fun k hk e => by omega))
        have hz13 := hk13.size
        clear hd hr12 hk13
        go_wp2_with fail
        refine (rboot_all R N s12 w13 hr).mono ?_
        rintro e w14 ⟨vv, vw, rfl, hsv, hsw, hr14, hk14⟩
        have hd := hd13.kept hk14 (by omega)
        have hsl := hsl.kept hk14 (fun b hb e => by omega)
        have hst := hst.kept hk14 (fun b hb e => by omega)
        have hsu := hsu.kept hk14 (fun b hb e => by omega)
        have hsx := hsx.kept hk14 (fun b hb e => by omega)
        have hsy := hsy.kept hk14 (fun b hb e => by omega)
        have hk := hk.trans (hk14.below w.heap.size (by omega) (fun k hk e => by omega))
        have hz14 := hk14.size
        clear hd13 hr hk14
        generalize hbs : bS N s12 = s14 at *
        clear hbs
        have lx : (bA N s12).length ≤ 1000000 := by
          unfold bA; split
          · simp
          · rename_i hh; unfold bBad at hh; rw [bagL_length]; omega
        have ly : (bB N s12).length ≤ 1000000 := by
          unfold bB; split
          · simp
          · rename_i hh; unfold bBad at hh; have := restL_le N.toNat (bagL N.toNat s12); omega
        obtain ⟨e2, he2⟩ : ∃ e2, e2 = eErr L K := ⟨_, rfl⟩
        rw [← he2]
        clear he2
        have te2 : (e2 == e2) = true := by simp
        go_wp2_with fail
        have hcur : Below w14.heap.size w14 w14.drew := (Below.refl _ _).drew
        have hcd := hd.cell
        have hcr := hr14.cell
        have ts : (s14 == s14) = true := by simp
        have HF := hid (And.intro hd (And.intro hr14 (And.intro hsl.1 (And.intro hsx.1 (And.intro hsy.1 (And.intro hsv.1 (And.intro hsw.1 (And.intro hst.sl2 hsu.sl2))))))))
        clear hd hr14 hsl hsx hsy hsv hsw hst hsu
        go_region_held3 (fun w' => w'.cell? ⟨R, 0, none⟩ = some (.int .u64 s14)) (first | exact hcr) (first
          | (go_at_call 21; refine (lists_same vt vu _ _ (HF.out.2.2.2.2.2.2.2.1.below hcur) (HF.out.2.2.2.2.2.2.2.2.below hcur) eL_le.2 eL_le.1).mono ?_; rintro e w15 ⟨rfl, hb⟩; replace hcur := hcur.trans (hb.mono hcur.size); clear hb; replace hcr := (HF.out.2.1.below hcur).cell)
          | (go_at_call_of 12 vx; refine (sameInts_same vx vv _ _ (HF.out.2.2.2.1.below hcur) (HF.out.2.2.2.2.2.1.below hcur) lx).mono ?_; rintro e w16 ⟨rfl, hb⟩; replace hcur := hcur.trans (hb.mono hcur.size); clear hb; replace hcr := (HF.out.2.1.below hcur).cell)
          | (go_at_call_of 12 vy; refine (sameInts_same vy vw _ _ (HF.out.2.2.2.2.1.below hcur) (HF.out.2.2.2.2.2.2.1.below hcur) ly).mono ?_; rintro e w17 ⟨rfl, hb⟩; replace hcur := hcur.trans (hb.mono hcur.size); clear hb; replace hcr := (HF.out.2.1.below hcur).cell)
          | (go_at_call 14; refine (dstate_any _ s14 _ (HF.out.1.below hcur).cell).mono ?_; rintro e w18 ⟨rfl, rfl⟩)
          | (go_at_call 13; refine (rest_all N _ L _ (HF.out.2.2.1.below hcur) (by omega) (by omega)).mono ?_; rintro e w19 ⟨vr1, rfl, hs1, hb⟩; replace hcur := hcur.trans (hb.mono hcur.size); clear hb; replace hcr := (HF.out.2.1.below hcur).cell)
          | (go_at_call 24; refine (rrest_all N _ L _ (HF.out.2.2.1.below hcur) (by omega) (by omega)).mono ?_; rintro e w20 ⟨vr2, rfl, hs2, hb⟩; have hs1 := hs1.below hb; replace hcur := hcur.trans (hb.mono hcur.size); clear hb; replace hcr := (HF.out.2.1.below hcur).cell)
          | (go_at_call 12; refine (sameInts_same _ _ _ _ hs1 hs2 (by have := restL_le N.toNat L; omega)).mono ?_; rintro e w21 ⟨rfl, hb⟩; replace hcur := hcur.trans (hb.mono hcur.size); clear hb; replace hcr := (HF.out.2.1.below hcur).cell))
        go_wp2
        go_ret
        exact ⟨rfl, hk.trans (hcur.mono hk.size)⟩

end Go.Proofs.Ytiodofijcghpaaa
