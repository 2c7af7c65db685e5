/- Texts of ours in one: Re7, Re8, Rat, Ht, Wh1, Rf1, Wh2, Wh3, Rf2, Rf3, Gc1, Gc2, Tz, Gc3, Gc4, Gc5, GcdS, Fr1, Fr2, Fr3, Ha1, Ha2, Ls1, LsP, Ls2, Ls3, Fr4, NearP, NearQ, SimpP, SimpS, Lw1, Lw2, Str1, Lw3, Lw4, Simp, Simp2, Simp3, Simp4, Ls4, Ls5, Ls6, Gn1, GnP, Gn2, Gn3, Gn7, Ev22. -/
import Derived.Test.YtejljnlfgiifoaaGreatDoorF1
import Derived.Test.YtejljnlfgiifoaaGreatDoorF2
import Derived.Shelf.Spec.TrailingZeros
set_option linter.unusedVariables false
set_option linter.unusedSimpArgs false

namespace Go.Proofs.YtejljnlfgiifoaaGreatDoor
open Go.RowKit _root_.Go.Proofs.Tryz
theorem wi_at {m n : Nat} (h0 : 0 < m) (h : m + n ≤ 4000000000000) : IntKind.i64.wrap ((m : Int) - 1 + (n : Int)) = ((m - 1 + n : Nat) : Int) := by rw [IntKind.wrap_i64]; omega
theorem wi_at1 {m n : Nat} (h0 : 0 < m) (hn : 1 ≤ n) (h : m + n ≤ 4000000000000) : IntKind.i64.wrap (IntKind.i64.wrap ((m : Int) - 1 + (n : Int)) - 1) = ((m - 1 + (n - 1) : Nat) : Int) := by rw [IntKind.wrap_i64, IntKind.wrap_i64]; omega
theorem wi_at2 {m n : Nat} (h0 : 0 < m) (hn : 2 ≤ n) (h : m + n ≤ 4000000000000) : IntKind.i64.wrap (IntKind.i64.wrap ((m : Int) - 1 + (n : Int)) - 2) = ((m - 1 + (n - 2) : Nat) : Int) := by rw [IntKind.wrap_i64, IntKind.wrap_i64]; omega
theorem and_low (c : Nat) (h : c < W64) : IntKind.u64.wrap (((BitVec.ofInt IntKind.u64.bits (c : Int) &&& BitVec.ofInt IntKind.u64.bits 4294967295).toNat : Nat) : Int) = ((c % B32 : Nat) : Int) := by
 rw [W64_val] at h
 have e : (BitVec.ofInt 64 (c : Int) &&& BitVec.ofInt 64 4294967295).toNat = c % 4294967296 := by
  rw [BitVec.toNat_and]
  rw [show (BitVec.ofInt 64 (c : Int)).toNat = c by rw [BitVec.toNat_ofInt]; omega, show (BitVec.ofInt 64 4294967295).toNat = 2 ^ 32 - 1 by decide, Nat.and_two_pow_sub_one_eq_mod]
 rw [show IntKind.u64.bits = 64 from rfl, e, wrapU64_nat, B32_val]
 omega
theorem wi_s {n k s : Nat} (hs : 32 * n - k = s) (h : k ≤ 32 * n) (hn : n ≤ 100000000) : IntKind.i64.wrap (IntKind.i64.wrap (32 * (n : Int)) - (k : Int)) = (s : Int) := by rw [IntKind.wrap_i64, IntKind.wrap_i64]; omega
theorem wi_sub1 {m n : Nat} (h : n ≤ m) (hm : m ≤ 4000000000) : IntKind.i64.wrap (IntKind.i64.wrap ((m : Int) - (n : Int)) - 1) = ((m - n : Nat) : Int) - 1 := by rw [IntKind.wrap_i64, IntKind.wrap_i64]; omega
theorem wi_neg (s : Nat) (h : s ≤ 4000000000) : IntKind.i64.wrap (0 - (s : Int)) = -(s : Int) := by rw [IntKind.wrap_i64]; omega
theorem wu_dec (g : Nat) (h0 : 0 < g) (h : g < W64) : IntKind.u64.wrap ((g : Int) - 1) = ((g - 1 : Nat) : Int) := by rw [W64_val] at h; rw [wrapU64]; omega
theorem wi_dec1 {m : Nat} (h : 0 < m) (hm : m ≤ 4000000000) : IntKind.i64.wrap ((m : Int) - 1 - 1) = ((m - 1 : Nat) : Int) - 1 := by rw [IntKind.wrap_i64]; omega
theorem nil_sl {α : Type} (enc : α → Value) (H : Hp) : SlN enc H (.slice none 0 0) [] := ⟨rfl, .inl ⟨rfl, none, 0, rfl⟩⟩
theorem dig_len_shift (a : Nat) {s : Nat} (h : s < 32) : (dig B32 (a * 2 ^ s)).length ≤ (dig B32 a).length + 1 := by
 apply dig_len_le B32_two
 rw [Nat.pow_succ]
 exact Nat.lt_of_lt_of_le (Nat.mul_lt_mul_of_pos_right (dig_lt B32_two a) (Nat.two_pow_pos _)) (Nat.mul_le_mul_left _ (by rw [B32_pow]; exact Nat.pow_le_pow_right (by decide) (by omega)))
theorem oneB_n32 : ∀ l : List Nat, oneB (l.map n32) = true
 | [] => rfl
 | _ :: l => by rw [List.map_cons]; unfold oneB; rw [oneB_n32 l]; rfl
theorem shift_facts' {l : List Nat} {b n : Nat} (hl : Norm B32 l) (hv : val B32 l = b) (h0 : b ≠ 0) (hn : l.length = n) : bl b ≤ 32 * n ∧ b * 2 ^ (32 * n - bl b) < B32 ^ n ∧ B32 ^ n ≤ 2 * (b * 2 ^ (32 * n - bl b)) ∧ (dig B32 (b * 2 ^ (32 * n - bl b))).length = n ∧ 32 * n - bl b < 32 := by
 subst hv
 exact shift_facts h0 (by rw [dig_of B32_two hl]; exact hn)
set_option maxRecDepth 20000 in
set_option maxHeartbeats 8000000 in
theorem refDiv_big {u v : Value} {H : Hp} {a b : Nat} {la lb : List Nat} (hu : SlN n32 H u la) (hv : SlN n32 H v lb) (hla : la.length ≤ 50000000) (hlb : lb.length ≤ 50000000) (hna : Norm B32 la) (hnb : Norm B32 lb) (hva : val B32 la = a) (hvb : val B32 lb = b) (hab : b ≤ a) (h2 : 2 ≤ lb.length) :
  PC prog 161 #[u, v] H fun r H' => ∃ s t, r = .tuple #[s, t] ∧ SlN n32 H' s (dig B32 (a / b)) ∧ SlN n32 H' t (dig B32 (a % b)) := by
 have hb0 : b ≠ 0 := fun e => by rw [norm_zero (by decide) hnb (by rw [hvb]; exact e)] at h2; simp at h2
 obtain ⟨f1, f2, f3, f4, f5⟩ := shift_facts' hnb hvb hb0 rfl
 have hcmp := refCmpL_pc hu hv hna hnb (by omega)
 have hbits := refBits_pc hv hnb (by omega)
 have hshb := refShlL_pc (k := 32 * lb.length - bl b) hv hnb.1 (by omega) (by omega)
 rw [hva, hvb] at hcmp
 rw [hvb] at hbits hshb
 obtain ⟨aa, ca, rfl⟩ := SlC.val hu
 obtain ⟨ab, cb, rfl⟩ := SlC.val hv
 have ho : decide (ordN a b < 0) = false := by unfold ordN; rw [if_neg (by omega)]; split <;> rfl
 generalize ordN a b = oab at *
 generalize bl b = blb at *
 have hAV : b * 2 ^ (32 * lb.length - blb) ≤ a * 2 ^ (32 * lb.length - blb) := Nat.mul_le_mul_right _ hab
 have hst := long_start h2 f2 f3 hAV
 have hVnz : 0 < b * 2 ^ (32 * lb.length - blb) := Nat.mul_pos (Nat.pos_of_ne_zero hb0) (Nat.two_pow_pos _)
 have hlA : 0 < (dig B32 (a * 2 ^ (32 * lb.length - blb))).length := List.length_pos_iff.2 (dig_ne_nil B32_two (by omega))
 have hlA2 : (dig B32 (a * 2 ^ (32 * lb.length - blb))).length ≤ 50000001 := by
  have := dig_len_shift a f5
  rw [← hva, dig_of B32_two hna, hva] at this
  omega
 have hlV : lb.length ≤ (dig B32 (a * 2 ^ (32 * lb.length - blb))).length := by
  have := dig_len_mono B32_two hAV
  rw [f4] at this; exact this
 have hyD := dig_norm B32_two (b * 2 ^ (32 * lb.length - blb))
 have hyV := dig_val B32_two (b * 2 ^ (32 * lb.length - blb))
 generalize hs : 32 * lb.length - blb = s at *
 have hshl := fun G1 (hG1 : H.Le G1) => refShlL_pc (k := s) (hu.mono hG1) hna.1 (by omega) (by omega)
 rw [hva] at hshl
 generalize dig B32 (a * 2 ^ s) = A at *
 generalize dig B32 (b * 2 ^ s) = Y at *
 generalize hn : lb.length = n at *
 have ha : a * 2 ^ s / (b * 2 ^ s) = a / b := Nat.mul_div_mul_right _ _ (Nat.two_pow_pos s)
 have hr : a * 2 ^ s % (b * 2 ^ s) / 2 ^ s = a % b := by rw [Nat.mul_mod_mul_right, Nat.mul_div_cancel _ (Nat.two_pow_pos s)]
 rw [← ha, ← hr]
 generalize a * 2 ^ s = X at *
 generalize b * 2 ^ s = V at *
 clear ha hr hva hvb hab hnb hb0
 refine BD func161 ntmps161 ?_
 repeat (first | refine RUN ?_ | refine CV (hcmp) ?_ | refine CE (hcmp) ?_)
 rw [ho]
 try refine RUN ?_
 rw [show ((n : Int) == 1) = false by simp; omega]
 repeat (first | refine RUN ?_ | refine CV (hbits) ?_ | refine CE (hbits) ?_)
 rw [wi_s hs f1 (by omega)]
 refine EVL.call rfl rfl rfl rfl rfl (hshb) ?_
 rintro vy G1 hy hG1
 obtain ⟨ay, cy, rfl⟩ := SlC.val hy
 have hshl1 := hshl G1 hG1
 try refine RUN ?_
 refine EVL.lit0 tO rfl rfl rfl rfl rfl rfl rfl fun g0 => ?_
 try refine RUN ?_
 refine EVL.call rfl rfl rfl rfl rfl (hshl1) ?_
 rintro vx Gx hx hG2
 try refine RUN ?_
 refine EVL.append tO rfl rfl rfl rfl rfl rfl rfl rfl rfl rfl rfl rfl [] [(g0, 171, [])] [] rfl (OwnL.full (m := 0) rfl (by omega)) (SrcAt.ro hx hlA) (oneB_n32 _) (by omega) ?_
 intro v1 ow1 hown1
 try refine RUN ?_
 refine EVL.app1 tO rfl rfl rfl rfl rfl rfl rfl rfl rfl rfl rfl rfl rfl rfl rfl rfl rfl rfl rfl (fun _ => rfl) (ow1) ([]) (rfl) (hown1) (by omega) fun _ => ?_
 intro v2 ow2 hown2
 obtain ⟨gx, cx, sp, rfl, rfl, hl1, hl2, hl3⟩ := hown2.block (by omega)
 have hX : ∃ N X0, N = A.length + 2 ∧ X0 = A ++ [0, 0] ∧ X0.length = N ∧ 0 + A.length + 2 = N := ⟨_, _, rfl, rfl, by simp, by omega⟩
 obtain ⟨N, X0, hN, hX0, hXl, hNe⟩ := hX
 rw [hNe] at hl2 ⊢
 have hW0 : Wm ([] ++ A.map n32 ++ [n32 0, n32 0] ++ sp) X0 := by
  have := Wm.of X0 sp
  rw [hX0, List.map_append] at this
  simpa [hX0] using this
 have hst' : L32.Long X V n (N - n) X0 (List.replicate (N - n) 0) := by rw [hN, hX0]; exact hst
 generalize [] ++ A.map n32 ++ [n32 0, n32 0] ++ sp = cs0 at *
 have hy1 : Y.getD (n - 1) 0 < B32 := hyD.1.getD (by decide) _
 have hy2 : Y.getD (n - 2) 0 < B32 := hyD.1.getD (by decide) _
 have hyc1 := map_at (enc := n32) (l := Y) (i := n - 1) (by omega)
 have hyc2 := map_at (enc := n32) (l := Y) (i := n - 2) (by omega)
 have hNb : N ≤ 50000003 := by omega
 have hNn : n + 2 ≤ N := by omega
 have hyG2 := hy.mono hG2
 have hV1 : B32 ≤ 2 * Y.getD (n - 1) 0 := L32.top_half Y n hyD.1 f4 (by omega) (by rw [hyV]; exact f3)
 clear hst hX0 hlA hlA2 hlV hl1 hl3 hN
 try refine RUN ?_
 refine EVL.idxR tO rfl rfl rfl rfl rfl rfl rfl rfl rfl rfl (hyG2) (n - 1) ((by rw [f4]; exact wi_dec n (by omega) (by omega))) (by omega) (hyc1) ?_
 try refine RUN ?_
 refine EVL.idxR tO rfl rfl rfl rfl rfl rfl rfl rfl rfl rfl (hyG2) (n - 2) ((by rw [f4]; exact wi_sub n 2 (by omega) (by omega))) (by omega) (hyc2) ?_
 try refine RUN ?_
 rw [wu_id _ (w32 hy1), wu_id _ (w32 hy2), f4, wi_sub N n (by omega) (by omega)]
 refine EVL.make tO rfl rfl rfl rfl rfl rfl rfl rfl rfl (N - n) (rfl) (by omega) (by rfl) (by rfl) fun gq => ?_
 try refine RUN ?_
 rw [zeros32]
 generalize hv1 : Y.getD (n - 1) 0 = v1 at *
 generalize hv0 : Y.getD (n - 2) 0 = v0 at *
 have hv1p : 0 < v1 := by rw [B32_val] at hV1; omega
 refine EV.loopK (ι := Nat × List Nat × List Nat × List Value) [8, 9, 10, 11, 12, 13, 14] [] (fun q => [(15, .v (.int .i64 ((q.1 : Int) - 1)))]) (fun _ => []) (fun q => [(gq, 171, q.2.2.1.map n32), (gx, 171, q.2.2.2)]) (fun q G => q.1 ≤ N - n ∧ q.2.1.length = N ∧ q.2.2.1.length = N - n ∧ L32.Long X V n q.1 q.2.1 q.2.2.1 ∧ Wm q.2.2.2 q.2.1) (fun q => q.1) ((N - n, X0, List.replicate (N - n) 0, cs0)) rfl rfl ⟨?_, trivial⟩ trivial rfl (fun _ => rfl) (⟨Nat.le_refl _, hXl, by simp, hst', hW0⟩) ?_
 ·rw [wi_sub1 (by omega) (by omega)]; rfl
 rintro ⟨m, U, q, cx1⟩ G3 hG3 ⟨hm, hUl, hql, hL, hW⟩
 dsimp only at hm hUl hql hL hW
 have hyG3 := hyG2.mono hG3
 clear hW0 hst' hXl hcmp ho hbits hshb hshl hshl1 hx hy hyG2
 try refine RUN ?_
 by_cases hm0 : m = 0
 ·subst hm0
  rw [show decide ((((0 : Nat) : Int) - 1) ≥ 0) = false from rfl]
  try refine RUN ?_
  refine EVL.publish [] [(gx, 171, cx1)] rfl fun G4 hG4 hgq => ?_
  refine EVL.publish [] [] rfl fun G5 hG5 hgx => ?_
  have hvU : val B32 U < V := by have := hL.top; rwa [List.drop_zero] at this
  have hq : val B32 q = X / V := by rw [hL.sum, Nat.add_mul_div_left _ _ hVnz, Nat.div_eq_of_lt hvU, Nat.zero_add]
  have hU : val B32 U = X % V := by rw [hL.sum, Nat.add_mul_mod_self_left, Nat.mod_eq_of_lt hvU]
  have htq := refTrim_dig (l := q) (sl_new (enc := n32) (hG5 _ _ hgq) hql) hL.dq (by omega) hq
  refine EVL.call rfl rfl rfl rfl rfl (htq) ?_
  rintro vq G6 hq6 hG6
  try refine RUN ?_
  have htx := refTrim_dig (l := U) ((hW.sl hgx hUl hl2).mono hG6) hL.dU (by omega) hU
  refine EVL.call rfl rfl rfl rfl rfl (htx) ?_
  rintro vu G7 hu7 hG7
  try refine RUN ?_
  have hsh := refShr0_pc hu7 (digB_dig _) (Nat.le_trans (dig_len_le B32_two _ N (by rw [← hU, ← hUl]; exact val_lt hL.dU)) (by omega)) s (by omega)
  rw [dig_val B32_two, ← wi_neg s (by omega)] at hsh
  refine EVL.call rfl rfl rfl rfl rfl (hsh) ?_
  rintro vr G8 hr8 hG8
  try refine RUN ?_
  exact ⟨vq, vr, rfl, (hq6.mono hG7).mono hG8, hr8⟩
 ·rw [show decide (((m : Int) - 1) ≥ 0) = true by simp; omega]
  have hmp : 0 < m := Nat.pos_of_ne_zero hm0
  have hmN : m + n ≤ N := by omega
  have hmn : m + n ≤ 4000000000000 := by omega
  obtain ⟨j, hj⟩ : ∃ j, j = m - 1 := ⟨_, rfl⟩
  have hL' : L32.Long X V n (j + 1) U q := by rw [show j + 1 = m by omega]; exact hL
  have hjn : j + (n + 1) ≤ U.length := by omega
  have hlong := hL'.guess hjn h2 f2 f3 f4 hyD.1 hyV
  have htop := long_top hL' hjn h2 f2 f4 hyD.1 hyV
  have hnext := fun U' => hL'.next (U' := U') hjn f2 hVnz (by omega)
  rw [hv1, hv0] at hlong htop
  have hu2 : U.getD (j + n) 0 < B32 := hL.dU.getD (by decide) _
  have hu1 : U.getD (j + (n - 1)) 0 < B32 := hL.dU.getD (by decide) _
  have hu0 : U.getD (j + (n - 2)) 0 < B32 := hL.dU.getD (by decide) _
  have hc2 := hW.2 (j + n) (by omega)
  have hc1 := hW.2 (j + (n - 1)) (by omega)
  have hc0 := hW.2 (j + (n - 2)) (by omega)
  obtain ⟨u2, he2⟩ : ∃ x, x = U.getD (j + n) 0 := ⟨_, rfl⟩
  obtain ⟨u1, he1⟩ : ∃ x, x = U.getD (j + (n - 1)) 0 := ⟨_, rfl⟩
  obtain ⟨u0, he0⟩ : ∃ x, x = U.getD (j + (n - 2)) 0 := ⟨_, rfl⟩
  rw [← he2] at hlong htop hu2 hc2
  rw [← he1] at hlong htop hu1 hc1
  rw [← he0] at hlong hu0 hc0
  have htwo : u1 + u2 * 2 ^ 32 < W64 := by rw [B32_val] at hu1 hu2; rw [W64_val]; omega
  have e1 : u1 + u2 * 2 ^ 32 = u2 * B32 + u1 := by rw [← B32_pow, Nat.add_comm]
  try refine RUN ?_
  apply EV.drawn 18 (by kernel_rfl) (by kernel_rfl); intro xv yw
  (repeat (first | refine' DV ?_ | refine' DA ?_ | refine' DK0 ?_ | refine' DT ?_ | refine' DS ?_))
  refine' DJ.ofVal (ValOk.idxP1 tO rfl rfl rfl rfl rfl rfl rfl rfl (j + n) ((by rw [hj]; exact wi_at hmp hmn)) (by omega)) rfl rfl rfl ?_; rotate_left
  refine' DJ.ofVal (ValOk.load1 tO rfl rfl rfl rfl rfl rfl (1) rfl (hc2)) rfl rfl rfl ?_; rotate_left
  (repeat (first | refine' DV ?_ | refine' DA ?_ | refine' DK0 ?_ | refine' DT ?_ | refine' DS ?_))
  refine' DJ.ofVal (ValOk.idxP1 tO rfl rfl rfl rfl rfl rfl rfl rfl (j + (n - 1)) ((by rw [hj]; exact wi_at1 hmp (by omega) hmn)) (by omega)) rfl rfl rfl ?_; rotate_left
  refine' DJ.ofVal (ValOk.load1 tO rfl rfl rfl rfl rfl rfl (1) rfl (hc1)) rfl rfl rfl ?_; rotate_left
  (repeat (first | refine' DV ?_ | refine' DA ?_ | refine' DK0 ?_ | refine' DT ?_ | refine' DS ?_))
  (refine DJ.nil (fun G4 hG4 hF4 => ?_); (case hS => rfl); (case hS2 => rfl))
  try refine RUN ?_
  rw [wu_id _ (w32 hu2), wu_id _ (w32 hu1), show min 32 IntKind.u64.bits = 32 from rfl, wu_shl, Nat.mod_eq_of_lt (Nat.lt_of_le_of_lt (Nat.le_add_left _ _) htwo), or_word' (by rw [← B32_pow]; exact hu1) htwo, e1]
  rw [e1] at htwo
  have hst := G2.start (B := B32) (v0 := v0) (u := u2 * B32 + u1) (c := u0) hv1p hu0
  generalize hu : u2 * B32 + u1 = u at *
  try refine RUN ?_
  refine EVL.quoI rfl rfl rfl rfl rfl rfl (by omega) ?_
  rw [wu_quo _ _ htwo]
  (try refine RUNB ?_)
  refine EVL.remI rfl rfl rfl rfl rfl rfl (by omega) ?_
  rw [wi_rem]
  (try refine RUNB ?_)
  refine EV.meetK (ι := Nat) [8, 9, 10, 11, 12, 13, 14, 15] [] (fun g => [(17, .v (n64 g))]) (fun _ => []) (fun _ => [(gq, 171, q.map n32), (gx, 171, cx1)]) (fun g G => G4.Le G ∧ g < B32 ∧ g * (v1 * B32 + v0) ≤ u * B32 + u0 ∧ (u * B32 + u0 < (g + 1) * (v1 * B32 + v0) ∨ g = B32 - 1)) rfl rfl (fun _ => rfl) ?_ ?_
  ·(try refine RUN ?_)
   refine EV.loopK (ι := Nat × Nat) [8, 9, 10, 11, 12, 13, 14, 15] [] (fun p => [(17, .v (n64 p.1)), (18, .v (n64 p.2))]) (fun _ => []) (fun _ => [(gq, 171, q.map n32), (gx, 171, cx1)]) (fun p G => G2 B32 v1 v0 u u0 p.1 p.2 ∧ p.2 < B32) (fun p => p.1) ((u / v1, u % v1)) rfl rfl ⟨rfl, rfl, trivial⟩ trivial rfl (fun _ => rfl) (⟨hst, Nat.lt_trans (Nat.mod_lt _ hv1p) (by rw [← hv1]; exact hyD.1.getD (by decide) _)⟩) ?_
   rintro ⟨g, r⟩ G5 hG5 ⟨hg, hr⟩
   dsimp only at hg hr
   have hgs := hg.small htop hV1 hy2
   have hv1B : v1 < B32 := by rw [← hv1]; exact hyD.1.getD (by decide) _
   try refine RUN ?_
   by_cases hgB : B32 ≤ g
   ·rw [show decide ((g : Int) ≥ 4294967296) = true from decide_eq_true (by rw [B32_val] at hgB; omega)]
    have hgp : 0 < g := by rw [B32_val] at hgB; omega
    have hst1 := hg.high hv1p htop hu0 hgB
    try refine RUN ?_
    rw [wu_dec g hgp (by rw [B32_val] at hgs; rw [W64_val]; omega), wu_add r v1 (by rw [W64_val]; rw [B32_val] at hr hv1B; omega)]
    by_cases hov : B32 ≤ r + v1
    ·rw [show decide (((r + v1 : Nat) : Int) ≥ 4294967296) = true from decide_eq_true (by rw [B32_val] at hov; omega)]
     try refine RUN ?_
     have ho := hst1.over htop hy2 hov
     exact ⟨g - 1, ⟨rfl, trivial⟩, (by repeat (first | exact trivial | refine And.intro rfl ?_)), trivial, trivial, rfl, hG5, ho.1, hst1.done ho.2⟩
    ·rw [show decide (((r + v1 : Nat) : Int) ≥ 4294967296) = false from decide_eq_false (by rw [B32_val] at hov; omega)]
     try refine RUN ?_
     exact ⟨(g - 1, r + v1), ⟨rfl, rfl, trivial⟩, (by repeat (first | exact trivial | refine And.intro rfl ?_)), trivial, trivial, rfl, ⟨hst1, by dsimp only; omega⟩, Hp.Le.refl _, by dsimp only; omega⟩
   ·rw [show decide ((g : Int) ≥ 4294967296) = false from decide_eq_false (by rw [B32_val] at hgB; omega)]
    refine EVL.val tO rfl rfl rfl rfl rfl ?_
    refine EVL.val tO rfl rfl rfl rfl rfl ?_
    rw [show decide ((r : Int) < 4294967296) = true from decide_eq_true (by rw [B32_val] at hr; omega)]
    have hgv : g * v0 < W64 := by
     have : g * v0 ≤ (B32 - 1) * (B32 - 1) := Nat.mul_le_mul (by omega) (by omega)
     rw [B32_val] at this; rw [W64_val]; omega
    have e3 : u0 + r * 2 ^ 32 = r * B32 + u0 := by rw [← B32_pow, Nat.add_comm]
    have hrW : u0 + r * 2 ^ 32 < W64 := by rw [B32_val] at hr hu0; rw [W64_val]; omega
    try refine RUN ?_
    refine EVL.idx0 tO rfl rfl rfl rfl rfl rfl rfl rfl rfl rfl (j + (n - 2)) ((by rw [hj]; exact wi_at2 hmp h2 hmn)) (by omega) ?_
    refine EVL.load1 tO rfl rfl rfl rfl rfl rfl rfl rfl (1) rfl (hc0) ?_
    (try refine RUNL ?_)
    rw [wu_mul _ _ hgv, wu_id _ (w32 hu0), show min 32 IntKind.u64.bits = 32 from rfl, wu_shl, Nat.mod_eq_of_lt (Nat.lt_of_le_of_lt (Nat.le_add_left _ _) hrW), or_word' (by rw [← B32_pow]; exact hu0) hrW, e3]
    by_cases hd : r * B32 + u0 < g * v0
    ·rw [show decide (((g * v0 : Nat) : Int) > ((r * B32 + u0 : Nat) : Int)) = true from decide_eq_true (by omega)]
     have hgd := hg.down hd
     have hgp := hgd.1
     have hst1 := hgd.2
     try refine RUN ?_
     rw [wu_dec g hgp (by rw [B32_val] at hgs; rw [W64_val]; omega), wu_add r v1 (by rw [W64_val]; rw [B32_val] at hr hv1B; omega)]
     by_cases hov : B32 ≤ r + v1
     ·rw [show decide (((r + v1 : Nat) : Int) ≥ 4294967296) = true from decide_eq_true (by rw [B32_val] at hov; omega)]
      try refine RUN ?_
      have ho := hst1.over htop hy2 hov
      exact ⟨g - 1, ⟨rfl, trivial⟩, (by repeat (first | exact trivial | refine And.intro rfl ?_)), trivial, trivial, rfl, hG5, ho.1, hst1.done ho.2⟩
     ·rw [show decide (((r + v1 : Nat) : Int) ≥ 4294967296) = false from decide_eq_false (by rw [B32_val] at hov; omega)]
      try refine RUN ?_
      exact ⟨(g - 1, r + v1), ⟨rfl, rfl, trivial⟩, (by repeat (first | exact trivial | refine And.intro rfl ?_)), trivial, trivial, rfl, ⟨hst1, by dsimp only; omega⟩, Hp.Le.refl _, by dsimp only; omega⟩
    ·rw [show decide (((g * v0 : Nat) : Int) > ((r * B32 + u0 : Nat) : Int)) = false from decide_eq_false (by omega)]
     try refine RUN ?_
     exact ⟨g, ⟨rfl, trivial⟩, (by repeat (first | exact trivial | refine And.intro rfl ?_)), trivial, trivial, rfl, hG5, by omega, hg.done (by omega)⟩
  ·rintro g G5 ⟨hG5, hgB, hg1, hg2⟩
   have hgq := hlong.2 g hgB hg1 hg2
   have hyG5 := hyG3.mono (hG4.trans hG5)
   clear hlong htop hst hg1 hg2
   try refine RUN ?_
   refine EV.loopK (ι := Nat × Nat × Nat × List Nat × List Value) [8, 9, 10, 11, 12, 13, 14, 15, 17] [] (fun p => [(19, .v (n64 p.2.1)), (20, .v (n64 p.2.2.1)), (21, .v (.int .i64 (p.1 : Int)))]) (fun _ => []) (fun p => [(gq, 171, q.map n32), (gx, 171, p.2.2.2.2)]) (fun p G => p.1 ≤ n ∧ p.2.1 < B32 ∧ p.2.2.1 ≤ 1 ∧ L32.Alike p.2.2.2.1 U j (n + 1) ∧ Dig B32 p.2.2.2.1 ∧ val B32 p.2.2.2.1 + g * val B32 (Y.take p.1) * B32 ^ j = val B32 U + (p.2.2.1 + p.2.1) * B32 ^ (j + p.1) ∧ Wm p.2.2.2.2 p.2.2.2.1) (fun p => n - p.1) ((0, 0, 0, U, cx1)) rfl rfl ⟨rfl, rfl, rfl, trivial⟩ trivial rfl (fun _ => rfl) (⟨Nat.zero_le _, (show (0 : Nat) < B32 by decide), Nat.zero_le _, L32.Alike.refl _ _ _, hL'.dU, by simp [val], hW⟩) ?_
   rintro ⟨k, c, bo, U1, cx2⟩ G6 hG6 ⟨hk, hcB, hb1, hal, hD1, hval, hW1⟩
   dsimp only at hk hcB hb1 hal hD1 hval hW1
   have hU1l : U1.length = N := by rw [hal.1]; exact hUl
   have hyG6 := hyG5.mono hG6
   rw [f4] at hyG6
   try refine RUN ?_
   refine EV.cond rfl (fun hkn => ?_) (fun hkn => ?_)
   ·simp only [nN] at hkn
    have hyk : Y.getD k 0 < B32 := hyD.1.getD (by decide) _
    have hyc := map_at (enc := n32) (l := Y) (i := k) (by omega)
    have hxk : U1.getD (j + k) 0 < B32 := hD1.getD (by decide) _
    have hxc := hW1.2 (j + k) (by omega)
    have hmul : g * Y.getD k 0 ≤ (B32 - 1) * (B32 - 1) := Nat.mul_le_mul (by omega) (by omega)
    have hgW : g * Y.getD k 0 < W64 ∧ c + g * Y.getD k 0 < W64 ∧ g * Y.getD k 0 + c < B32 * B32 := by rw [B32_val] at *; rw [W64_val]; omega
    have hdm : g * Y.getD k 0 / B32 * B32 + g * Y.getD k 0 % B32 = g * Y.getD k 0 := by rw [Nat.mul_comm]; exact Nat.div_add_mod _ _
    have sr := L32.sub_round U1 U Y j k (j + k) g c bo (U1.getD (j + k) 0) (Y.getD k 0) (g * Y.getD k 0 / B32) (g * Y.getD k 0 % B32) rfl (by omega) hxk rfl rfl (Nat.mod_lt _ (by decide)) hdm hgW.2.2 hcB hb1 hval
    have el : L32.addLo (g * Y.getD k 0 % B32) c 0 = (c + g * Y.getD k 0) % B32 := by unfold L32.addLo; rw [Nat.add_zero, Nat.mod_add_mod, Nat.add_comm]
    have eh : g * Y.getD k 0 / B32 + L32.addHi (g * Y.getD k 0 % B32) c 0 = (c + g * Y.getD k 0) / B32 := by
     unfold L32.addHi
     rw [Nat.add_zero]
     generalize g * Y.getD k 0 = z
     rw [B32_val]; omega
    rw [el, eh] at sr
    obtain ⟨s1, s2, s3, s4⟩ := sr
    obtain ⟨w1, w2⟩ := sub_word' (y := (c + g * Y.getD k 0) % B32) hxk (Nat.mod_lt _ (by decide)) hb1
    try refine RUN ?_
    refine EVL.idxR tO rfl rfl rfl rfl rfl rfl rfl rfl rfl rfl (hyG6) (k) (rfl) ((by omega)) (hyc) ?_
    try refine RUN ?_
    rw [wu_id _ (w32 hyk), wu_mul _ _ hgW.1, wu_add _ _ hgW.2.1]
    try refine RUN ?_
    refine EVL.idx0 tO rfl rfl rfl rfl rfl rfl rfl rfl rfl rfl (j + k) ((by rw [hj]; exact wi_at hmp (by omega))) (by omega) ?_
    refine EVL.load1 tO rfl rfl rfl rfl rfl rfl rfl rfl (1) rfl (hxc) ?_
    try refine RUN ?_
    rw [and_low _ hgW.2.1, wu_id _ (w32 hxk)]
    rw [w1]
    refine EVL.idx0 tO rfl rfl rfl rfl rfl rfl rfl rfl rfl rfl (j + k) ((by rw [hj]; exact wi_at hmp (by omega))) (by omega) ?_
    refine EVL.setO tO rfl rfl rfl rfl rfl rfl rfl ([(gq, 171, q.map n32)]) rfl rfl rfl ((show j + k < cx2.length by have := hW1.1; omega)) ?_
    try refine RUN ?_
    refine ⟨(k + 1, (c + g * Y.getD k 0) / B32, L32.subHi (U1.getD (j + k) 0) ((c + g * Y.getD k 0) % B32) bo, U1.set (j + k) (L32.subLo (U1.getD (j + k) 0) ((c + g * Y.getD k 0) % B32) bo), cx2.set (j + k) (n32 (L32.subLo (U1.getD (j + k) 0) ((c + g * Y.getD k 0) % B32) bo))), ⟨?_, ?_, ?_, trivial⟩, (by repeat (first | exact trivial | refine And.intro rfl ?_)), trivial, trivial, rfl, ⟨by dsimp only; omega, s1, s2, hal.set _ _ (by omega) (by omega), hD1.set _ _ s3, s4, hW1.set _ _ (by omega)⟩, Hp.Le.refl _, by dsimp only; omega⟩
    ·rw [shr32]; rfl
    ·rw [w2]; rfl
    ·rw [wi_inc k (by omega)]; rfl
   ·simp only [nN] at hkn
    obtain rfl : k = n := by omega
    have hxk : U1.getD (j + k) 0 < B32 := hD1.getD (by decide) _
    have hxc := hW1.2 (j + k) (by omega)
    have hval' : val B32 U1 + g * V * B32 ^ j = val B32 U + (bo + c) * B32 ^ (j + k) := by rw [List.take_of_length_le (by omega), hyV] at hval; exact hval
    obtain ⟨a1, a2, a3, a4, a5⟩ := L32.sub_end U U1 V g c bo _ j k hjn hal hL'.dU hD1 rfl hcB hb1 hval' hVnz f2 hgq.1 hgq.2
    obtain ⟨w1, w2⟩ := sub_word' hxk hcB hb1
    try refine RUN ?_
    refine EVL.idx0 tO rfl rfl rfl rfl rfl rfl rfl rfl rfl rfl (j + k) ((by rw [hj]; exact wi_at hmp (by omega))) (by omega) ?_
    refine EVL.load1 tO rfl rfl rfl rfl rfl rfl rfl rfl (1) rfl (hxc) ?_
    try refine RUN ?_
    rw [wu_id _ (w32 hxk)]
    rw [w1]
    have hWx := hW1.set (j + k) (L32.subLo (U1.getD (j + k) 0) c bo) (by omega)
    have hU2l : (U1.set (j + k) (L32.subLo (U1.getD (j + k) 0) c bo)).length = N := by rw [List.length_set]; exact hU1l
    refine EVL.idx0 tO rfl rfl rfl rfl rfl rfl rfl rfl rfl rfl (j + k) ((by rw [hj]; exact wi_at hmp (by omega))) (by omega) ?_
    refine EVL.setO tO rfl rfl rfl rfl rfl rfl rfl ([(gq, 171, q.map n32)]) rfl rfl rfl ((show j + k < cx2.length by have := hW1.1; omega)) ?_
    generalize U1.set (j + k) (L32.subLo (U1.getD (j + k) 0) c bo) = U2 at *
    generalize cx2.set (j + k) (n32 (L32.subLo (U1.getD (j + k) 0) c bo)) = cx3 at *
    (try refine RUNB ?_)
    rw [w2]
    generalize L32.subHi (U1.getD (j + k) 0) c bo = hb at *
    clear hval hval' w1 w2 hW1 hal hD1 hxk hxc
    (try refine RUNB ?_)
    refine EV.meetK (ι := List Nat × List Value) [8, 9, 10, 11, 12, 13, 14, 15] [] (fun _ => [(17, .v (n64 (val B32 (L32.mid U j (k + 1)) / V)))]) (fun _ => []) (fun p => [(gq, 171, q.map n32), (gx, 171, p.2)]) (fun p G => G6.Le G ∧ Wm p.2 p.1 ∧ L32.Alike p.1 U j (k + 1) ∧ Dig B32 p.1 ∧ val B32 (L32.mid p.1 j (k + 1)) = val B32 (L32.mid U j (k + 1)) % V) rfl rfl (fun _ => rfl) ?_ ?_
    ·rcases (by omega : hb = 0 ∨ hb = 1) with h0 | h0
     ·subst h0
      obtain ⟨b1, b2⟩ := a4 rfl
      rw [show (((0 : Nat) : Int) == 1) = false from rfl]
      try refine RUN ?_
      exact ⟨(U2, cx3), ⟨by rw [← b1]; rfl, trivial⟩, (by repeat (first | exact trivial | refine And.intro rfl ?_)), trivial, trivial, rfl, Hp.Le.refl _, hWx, a1, a2, b2⟩
     ·subst h0
      obtain ⟨b1, b2⟩ := a5 rfl
      rw [show (((1 : Nat) : Int) == 1) = true from rfl]
      have hgp : 0 < g := by rw [b1]; exact Nat.succ_pos _
      have hgm : g - 1 = val B32 (L32.mid U j (k + 1)) / V := by rw [b1]; exact Nat.add_sub_cancel _ _
      have hmV := Nat.mod_lt (val B32 (L32.mid U j (k + 1))) hVnz
      have hmM : val B32 (L32.mid U j (k + 1)) % V < B32 ^ (k + 1) := by
       have : B32 ^ k ≤ B32 ^ (k + 1) := Nat.pow_le_pow_right (by decide) (by omega)
       exact Nat.lt_of_lt_of_le (Nat.lt_trans hmV f2) this
      try refine RUN ?_
      rw [wu_dec g hgp (w32 hgB), hgm]
      try refine RUN ?_
      refine EV.loopK (ι := Nat × Nat × List Nat × List Value) [8, 9, 10, 11, 12, 13, 14, 15, 17] [] (fun p => [(19, .v (n64 p.2.1)), (24, .v (.int .i64 (p.1 : Int)))]) (fun _ => []) (fun p => [(gq, 171, q.map n32), (gx, 171, p.2.2.2)]) (fun p G => p.1 ≤ k ∧ p.2.1 ≤ 1 ∧ L32.Alike p.2.2.1 U2 j k ∧ Dig B32 p.2.2.1 ∧ val B32 p.2.2.1 + p.2.1 * B32 ^ (j + p.1) = val B32 U2 + val B32 (Y.take p.1) * B32 ^ j ∧ Wm p.2.2.2 p.2.2.1) (fun p => k - p.1) ((0, 0, U2, cx3)) rfl rfl ⟨rfl, rfl, trivial⟩ trivial rfl (fun _ => rfl) (⟨Nat.zero_le _, Nat.zero_le _, L32.Alike.refl _ _ _, a2, by simp [val], hWx⟩) ?_
      rintro ⟨i, c', U3, cx4⟩ G7 hG7 ⟨hi, hc', hal3, hD3, hval3, hW3⟩
      dsimp only at hi hc' hal3 hD3 hval3 hW3
      have hU3l : U3.length = N := by rw [hal3.1]; exact hU2l
      have hyG7 := hyG6.mono hG7
      try refine RUN ?_
      refine EV.cond rfl (fun hik => ?_) (fun hik => ?_)
      ·simp only [nN] at hik
       have hyi : Y.getD i 0 < B32 := hyD.1.getD (by decide) _
       have hyc := map_at (enc := n32) (l := Y) (i := i) (by omega)
       have hxi : U3.getD (j + i) 0 < B32 := hD3.getD (by decide) _
       have hxc := hW3.2 (j + i) (by omega)
       obtain ⟨r1, r2, r3⟩ := L32.add_round U3 U2 Y j i (j + i) c' (U3.getD (j + i) 0) (Y.getD i 0) rfl (by omega) hxi rfl rfl hyi hc' hval3
       have el : L32.addLo (U3.getD (j + i) 0) (Y.getD i 0) c' = (c' + U3.getD (j + i) 0 + Y.getD i 0) % B32 := by unfold L32.addLo; congr 1; omega
       have eh : L32.addHi (U3.getD (j + i) 0) (Y.getD i 0) c' = (c' + U3.getD (j + i) 0 + Y.getD i 0) / B32 := by unfold L32.addHi; congr 1; omega
       rw [el] at r1 r3
       rw [eh] at r2 r3
       have hsW : c' + U3.getD (j + i) 0 < W64 ∧ c' + U3.getD (j + i) 0 + Y.getD i 0 < W64 := by rw [B32_val] at hxi hyi; rw [W64_val]; omega
       try refine RUN ?_
       apply EV.drawn 16 (by kernel_rfl) (by kernel_rfl); intro xv yw
       (repeat (first | refine' DV ?_ | refine' DA ?_ | refine' DK0 ?_ | refine' DT ?_ | refine' DS ?_))
       refine' DJ.ofVal (ValOk.idxP1 tO rfl rfl rfl rfl rfl rfl rfl rfl (j + i) ((by rw [hj]; exact wi_at hmp (by omega))) (by omega)) rfl rfl rfl ?_; rotate_left
       refine' DJ.ofVal (ValOk.load1 tO rfl rfl rfl rfl rfl rfl (1) rfl (hxc)) rfl rfl rfl ?_; rotate_left
       (repeat (first | refine' DV ?_ | refine' DA ?_ | refine' DK0 ?_ | refine' DT ?_ | refine' DS ?_))
       refine' DJ.ofVal (ValOk.idx1 tO rfl rfl rfl rfl rfl rfl rfl rfl (hyG7) (i) (rfl) ((by omega)) (hyc)) rfl rfl rfl ?_; rotate_left
       (repeat (first | refine' DV ?_ | refine' DA ?_ | refine' DK0 ?_ | refine' DT ?_ | refine' DS ?_))
       (refine DJ.nil (fun G8 hG8 hF8 => ?_); (case hS => rfl); (case hS2 => rfl))
       try refine RUN ?_
       rw [wu_id _ (w32 hxi), wu_id _ (w32 hyi), wu_add _ _ hsW.1, wu_add _ _ hsW.2]
       rw [wu32]
       refine EVL.idx0 tO rfl rfl rfl rfl rfl rfl rfl rfl rfl rfl (j + i) ((by rw [hj]; exact wi_at hmp (by omega))) (by omega) ?_
       refine EVL.setO tO rfl rfl rfl rfl rfl rfl rfl ([(gq, 171, q.map n32)]) rfl rfl rfl ((show j + i < cx4.length by have := hW3.1; omega)) ?_
       try refine RUN ?_
       refine ⟨(i + 1, (c' + U3.getD (j + i) 0 + Y.getD i 0) / B32, U3.set (j + i) ((c' + U3.getD (j + i) 0 + Y.getD i 0) % B32), cx4.set (j + i) (n32 ((c' + U3.getD (j + i) 0 + Y.getD i 0) % B32))), ⟨?_, ?_, trivial⟩, (by repeat (first | exact trivial | refine And.intro rfl ?_)), trivial, trivial, rfl, ⟨by dsimp only; omega, r2, hal3.set _ _ (by omega) (by omega), hD3.set _ _ r1, r3, hW3.set _ _ (by omega)⟩, hG8, by dsimp only; omega⟩
       ·rw [shr32]; rfl
       ·rw [wi_inc i (by omega)]; rfl
      ·simp only [nN] at hik
       obtain rfl : i = k := by omega
       have hxi : U3.getD (j + i) 0 < B32 := hD3.getD (by decide) _
       have hxc := hW3.2 (j + i) (by omega)
       rw [List.take_of_length_le (by omega), hyV] at hval3
       obtain ⟨e1, e2, e3⟩ := L32.add_end U2 U3 V c' _ j i _ (by omega) hal3 hD3 rfl hc' hval3 b2 hmM
       have hsW : U3.getD (j + i) 0 + c' < W64 := by rw [B32_val] at hxi; rw [W64_val]; omega
       try refine RUN ?_
       refine EVL.idx0 tO rfl rfl rfl rfl rfl rfl rfl rfl rfl rfl (j + i) ((by rw [hj]; exact wi_at hmp (by omega))) (by omega) ?_
       refine EVL.load1 tO rfl rfl rfl rfl rfl rfl rfl rfl (1) rfl (hxc) ?_
       try refine RUN ?_
       rw [wu_id _ (w32 hxi), wu_add _ _ hsW]
       rw [wu32]
       refine EVL.idx0 tO rfl rfl rfl rfl rfl rfl rfl rfl rfl rfl (j + i) ((by rw [hj]; exact wi_at hmp (by omega))) (by omega) ?_
       refine EVL.setO tO rfl rfl rfl rfl rfl rfl rfl ([(gq, 171, q.map n32)]) rfl rfl rfl ((show j + i < cx4.length by have := hW3.1; omega)) ?_
       try refine RUN ?_
       exact ⟨(U3.set (j + i) ((U3.getD (j + i) 0 + c') % B32), cx4.set (j + i) (n32 ((U3.getD (j + i) 0 + c') % B32))), ⟨rfl, trivial⟩, (by repeat (first | exact trivial | refine And.intro rfl ?_)), trivial, trivial, rfl, hG7, hW3.set _ _ (by omega), Alike_trans e1 a1, e2, e3⟩
    ·rintro ⟨U', cx'⟩ G7 ⟨hG7, hW', hal', hD', hm'⟩
     dsimp only at hW' hal' hD' hm'
     have hqB : val B32 (L32.mid U j (k + 1)) / V < B32 := Nat.lt_of_le_of_lt hgq.1 hgB
     have hfin := hnext U' hal' hD' hm'
     generalize val B32 (L32.mid U j (k + 1)) / V = qd at *
     try refine RUN ?_
     rw [wu32, Nat.mod_eq_of_lt hqB]
     refine EVL.idx0 tO rfl rfl rfl rfl rfl rfl rfl rfl rfl rfl (j) ((by omega)) (by omega) ?_
     refine EVL.set1 tO rfl rfl rfl rfl rfl rfl rfl rfl rfl rfl ((by rw [List.length_map]; omega)) ?_
     try refine RUN ?_
     refine ⟨(j, U', q.set j qd, cx'), ⟨?_, trivial⟩, (by repeat (first | exact trivial | refine And.intro rfl ?_)), trivial, trivial, ?_, ⟨by dsimp only; omega, by dsimp only; rw [hal'.1]; exact hUl, by dsimp only; rw [List.length_set]; exact hql, hfin, hW'⟩, ((hG4.trans hG5).trans hG6).trans hG7, by dsimp only; omega⟩
     ·rw [hj, wi_dec1 hmp (by omega)]; rfl
     ·dsimp only; rw [List.map_set]
theorem wi_b7 (b : Nat) (h : b ≤ 4000000000) : IntKind.i64.wrap ((IntKind.i64.wrap ((b : Int) + 7)).tdiv 8) = (((b + 7) / 8 : Nat) : Int) := by
 rw [show IntKind.i64.wrap ((b : Int) + 7) = ((b + 7 : Nat) : Int) by rw [IntKind.wrap_i64]; omega]
 exact wi_quo (b + 7) 8 (by omega)
theorem wi_b3 (b : Nat) (h : b ≤ 4000000000) : IntKind.i64.wrap ((IntKind.i64.wrap ((b : Int) + 3)).tdiv 4) = (((b + 3) / 4 : Nat) : Int) := by
 rw [show IntKind.i64.wrap ((b : Int) + 3) = ((b + 3 : Nat) : Int) by rw [IntKind.wrap_i64]; omega]
 exact wi_quo (b + 3) 4 (by omega)
theorem refDivL_pc {u v : Value} {H : Hp} {a b : Nat} {la lb : List Nat} (hu : SlN n32 H u la) (hv : SlN n32 H v lb) (hla : la.length ≤ 50000000) (hlb : lb.length ≤ 50000000) (hna : Norm B32 la) (hnb : Norm B32 lb) (hva : val B32 la = a) (hvb : val B32 lb = b) (h0 : b ≠ 0) :
  PC prog 161 #[u, v] H fun r H' => ∃ s t, r = .tuple #[s, t] ∧ SlN n32 H' s (dig B32 (a / b)) ∧ SlN n32 H' t (dig B32 (a % b)) := by
 by_cases hab : a < b
 ·have hcmp := refCmpL_pc hu hv hna hnb (by omega)
  rw [hva, hvb, ordN_lt hab] at hcmp
  rw [Nat.div_eq_of_lt hab, Nat.mod_eq_of_lt hab, dig_zero, ← hva, dig_of B32_two hna]
  refine BD func161 ntmps161 ?_
  repeat (first | refine RUN ?_ | refine CV (hcmp) ?_ | refine CE (hcmp) ?_)
  exact ⟨_, _, rfl, nil_sl _ _, hu⟩
 ·by_cases h2 : 2 ≤ lb.length
  ·exact refDiv_big hu hv hla hlb hna hnb hva hvb (by omega) h2
  ·have h1 : lb.length = 1 := by
    rcases Nat.eq_zero_or_pos lb.length with e | e
    ·rw [List.length_eq_zero_iff.1 e] at hvb; exact absurd hvb.symm h0
    ·omega
   obtain ⟨b0, rfl⟩ := List.length_eq_one_iff.1 h1
   have hb0 : b0 = b := by rw [← hvb]; simp [val]
   subst hb0
   have hbB : b0 < B32 := hnb.1 b0 (by simp)
   have hcmp := refCmpL_pc hu hv hna hnb (by omega)
   rw [hva, hvb] at hcmp
   have ho : decide (ordN a b0 < 0) = false := by unfold ordN; rw [if_neg hab]; split <;> rfl
   generalize ordN a b0 = oab at *
   have hone := refOne_pc hu hna.1 (by omega) b0 (Nat.pos_of_ne_zero h0) hbB
   rw [hva] at hone
   obtain ⟨ab, cb, rfl⟩ := SlC.val hv
   refine BD func161 ntmps161 ?_
   repeat (first | refine RUN ?_ | refine CV (hcmp) ?_ | refine CE (hcmp) ?_)
   rw [ho]
   try refine RUN ?_
   refine EVL.idxR tO rfl rfl rfl rfl rfl rfl rfl rfl rfl rfl (hv) (0) (rfl) (Nat.zero_lt_one) (rfl) ?_
   try refine RUN ?_
   refine EVL.call rfl rfl rfl rfl rfl (hone) ?_
   rintro r G1 ⟨s, rfl, hs⟩ hG1
   try refine RUN ?_
   have hm : a % b0 < W64 := w32 (Nat.lt_trans (Nat.mod_lt _ (Nat.pos_of_ne_zero h0)) hbB)
   rw [wu_id _ hm]
   refine EVL.call rfl rfl rfl rfl rfl (refNatOf_pc (a % b0) hm G1) ?_
   rintro t G2 ht hG2
   try refine RUN ?_
   exact ⟨s, t, rfl, hs.mono hG2, ht⟩
abbrev RN (H : Hp) (v : Value) (n : Nat) : Prop := SlN n32 H v (dig B32 n)
def rsm (n : Nat) : Prop := bl n ≤ 800000000
theorem dig_len_bl {n k : Nat} (h : bl n ≤ 32 * k) : (dig B32 n).length ≤ k := by
 apply dig_len_le B32_two
 rw [B32_pow, ← Nat.pow_mul]
 exact bl_lt_iff.1 h
theorem rsm.len {n : Nat} (h : rsm n) : (dig B32 n).length ≤ 25000000 := dig_len_bl h
theorem rsm.le {n m : Nat} (h : rsm n) (hm : m ≤ n) : rsm m := Nat.le_trans (bl_mono hm) h
theorem refDiv_pc {u v : Value} {H : Hp} {a b : Nat} (hu : RN H u a) (hv : RN H v b) (ha : rsm a) (hb : rsm b) (h0 : b ≠ 0) :
  PC prog 161 #[u, v] H fun r H' => ∃ s t, r = .tuple #[s, t] ∧ RN H' s (a / b) ∧ RN H' t (a % b) :=
 refDivL_pc hu hv (Nat.le_trans ha.len (by omega)) (Nat.le_trans hb.len (by omega)) (dig_norm B32_two a) (dig_norm B32_two b) (dig_val B32_two a) (dig_val B32_two b) h0
theorem refGcd_pc {u v : Value} {H : Hp} {a b : Nat} (hu : RN H u a) (hv : RN H v b) (ha : rsm a) (hb : rsm b) :
  PC prog 160 #[u, v] H fun r H' => RN H' r (Nat.gcd a b) := by
 refine BD func160 ntmps160 ?_
 try refine RUN ?_
 refine EV.loopK (ι := Nat × Nat × Value × Value) [] [] (fun q => [(0, .v q.2.2.1), (1, .v q.2.2.2)]) (fun _ => []) (fun _ => []) (fun q G => RN G q.2.2.1 q.1 ∧ RN G q.2.2.2 q.2.1 ∧ rsm q.1 ∧ rsm q.2.1 ∧ Nat.gcd q.1 q.2.1 = Nat.gcd a b) (fun q => q.2.1) ((a, b, u, v)) rfl rfl ⟨rfl, rfl, trivial⟩ trivial rfl (fun _ => rfl) (⟨hu, hv, ha, hb, rfl⟩) ?_
 rintro ⟨x, y, vx, vy⟩ G1 hG1 ⟨hx, hy, hxs, hys, hg⟩
 dsimp only at hx hy hxs hys hg
 obtain ⟨ay, cy, rfl⟩ := SlC.val hy
 have hl : (dig B32 y).length = 0 → y = 0 := dig_len_zero B32_two
 by_cases h0 : y = 0
 ·subst h0
  rw [dig_zero] at hy
  rw [dig_zero, Nat.gcd_zero_right] at *
  subst hg
  try refine RUN ?_
  exact hx
 ·have hdiv := refDiv_pc hx hy hxs hys h0
  have hmod : Nat.gcd y (x % y) = Nat.gcd a b := by rw [← hg, Nat.gcd_comm y, ← Nat.gcd_rec, Nat.gcd_comm]
  have hlt := Nat.mod_lt x (Nat.pos_of_ne_zero h0)
  generalize hn : (dig B32 y).length = n at *
  have hn0 : n ≠ 0 := fun e => h0 (hl e)
  try refine RUN ?_
  rw [show decide ((n : Int) > 0) = true by simp; omega]
  try refine RUN ?_
  refine EVL.call rfl rfl rfl rfl rfl (hdiv) ?_
  rintro r G2 ⟨s, t, rfl, hs, ht⟩ hG2
  try refine RUN ?_
  exact ⟨(y, x % y, _, t), ⟨rfl, rfl, trivial⟩, trivial, trivial, trivial, rfl, ⟨hy.mono hG2, ht, hys, hys.le (Nat.le_of_lt hlt), hmod⟩, hG2, hlt⟩
theorem r4 (i : Nat) : IntKind.u64.wrap (IntKind.i64.wrap (8 * (i : Int).tmod 4)) = ((8 * (i % 4) : Nat) : Int) := by
 rw [wrapU64, IntKind.wrap_i64, Int.tmod_eq_emod_of_nonneg (by omega)]; omega
theorem u8_shr (x p : Nat) : IntKind.u8.wrap ((x : Int).fdiv (2 ^ p)) = ((x / 2 ^ p % 256 : Nat) : Int) := by rw [wu_shr, wrapU8]; omega
theorem refBytes_pc {v : Value} {H : Hp} {n : Nat} (h : RN H v n) (hn : rsm n) : PC prog 137 #[v] H fun r H' => SlN n8 H' r (octs n) := by
 have hN : (dig 256 n).length = (bl n + 7) / 8 := by have := dig_len_bits 8 n (by omega); rw [show (2 : Nat) ^ 8 = 256 by decide] at this; rw [this]; omega
 have hL : (dig B32 n).length = (bl n + 31) / 32 := by have := dig_len_bits 32 n (by omega); rw [← B32_pow] at this; rw [this]; omega
 have hD := digB_dig n
 have hbits := refBits_pc h (dig_norm B32_two n) (Nat.le_trans hn.len (by omega))
 rw [dig_val B32_two] at hbits
 have hsub := fun i => val_subdigit (C := 256) (k := 4) (by decide) (by decide) (l := dig B32 n) (by rw [← B32_256]; exact hD) i
 rw [← B32_256, dig_val B32_two] at hsub
 have hlt32 := fun i => hD.getD (by decide) i
 have hmap := fun i => map_at (enc := n32) (l := dig B32 n) (i := i)
 have hoct := octs_of n ((bl n + 7) / 8) hN.symm
 have hb8 : bl n ≤ 800000000 := hn
 unfold RN at h
 obtain ⟨a, cap, rfl⟩ := SlC.val h
 generalize hDe : dig B32 n = D at *
 generalize bl n = b at *
 generalize hNe : (b + 7) / 8 = N at *
 refine BD func137 ntmps137 ?_
 repeat (first | refine RUN ?_ | refine CV (hbits) ?_ | refine CE (hbits) ?_)
 rw [wi_b7 b (by omega), hNe]
 try refine RUN ?_
 refine EVL.make tO rfl rfl rfl rfl rfl rfl rfl rfl rfl (N) (rfl) (by omega) (by rfl) (by rfl) fun g => ?_
 try refine RUN ?_
 have e0 : (List.replicate N (Tryz.te5.zero)).flatten = (List.replicate N 0).map n8 := by
  rw [List.map_replicate, show (Tryz.te5.zero) = [n8 0] from rfl]; simp
 rw [e0]
 refine EV.loopK (ι := Nat × List Nat) [0, 3, 4] [] (fun q => [(5, .v (.int .i64 (q.1 : Int)))]) (fun _ => []) (fun q => [(g, 5, q.2.map n8)]) (fun q G => q.1 ≤ N ∧ q.2.length = N ∧ (∀ j, j < q.1 → q.2.getD (N - 1 - j) 0 = n / 256 ^ j % 256)) (fun q => N - q.1) ((0, List.replicate N 0)) rfl rfl ⟨rfl, trivial⟩ trivial rfl (fun _ => rfl) (⟨Nat.zero_le _, by simp, fun j hj => absurd hj (Nat.not_lt_zero _)⟩) ?_
 rintro ⟨i, cur⟩ G1 hG1 ⟨hi, hlen, hcs⟩
 dsimp only at hi hlen hcs
 try refine RUN ?_
 refine EV.cond rfl (fun hlt => ?_) (fun hlt => ?_)
 ·simp only [nN] at hlt
  have hil : i / 4 < D.length := by omega
  try refine RUN ?_
  refine EVL.idxR tO rfl rfl rfl rfl rfl rfl rfl rfl rfl rfl (h.mono hG1) (i / 4) (wi_quo i 4 (by omega)) (hil) (hmap _ hil) ?_
  try refine RUN ?_
  refine EVL.shrI rfl rfl rfl rfl rfl rfl (r4 i) ((show 8 * (i % 4) ≤ 32 by omega)) ?_
  try refine RUN ?_
  rw [u8_shr, Nat.pow_mul, show (2 : Nat) ^ 8 = 256 by decide, hsub i]
  refine EVL.idx0 tO rfl rfl rfl rfl rfl rfl rfl rfl rfl rfl (N - 1 - i) (back N i hlt (by omega)) (by omega) ?_
  refine EVL.set1 tO rfl rfl rfl rfl rfl rfl rfl rfl rfl rfl ((by rw [List.length_map]; dsimp only; omega)) ?_
  try refine RUN ?_
  refine ⟨(i + 1, cur.set (N - 1 - i) (n / 256 ^ i % 256)), ⟨?_, trivial⟩, (by repeat (first | exact trivial | refine And.intro rfl ?_)), trivial, trivial, ?_, ⟨by dsimp only; omega, by dsimp only; rw [List.length_set]; exact hlen, fun j hj => ?_⟩, Hp.Le.refl _, by dsimp only; omega⟩
  ·rw [wi_inc i (by omega)]; rfl
  ·dsimp only; rw [List.map_set]
  ·dsimp only at hj ⊢
   by_cases e : j = i
   ·subst e
    rw [getD_set_eq _ _ _ (by omega)]
   ·rw [getD_set_ne _ _ _ _ (by omega)]
    exact hcs j (by omega)
 ·simp only [nN] at hlt
  obtain rfl : i = N := by omega
  have ho := hoct cur hlen hcs
  subst ho
  (first | refine EVL.publish [] [] rfl fun G2 hG2 hg => ?_ | refine EV.publish [] [] rfl fun G2 hG2 hg => ?_)
  try refine RUN ?_
  exact sl_new hg hlen
theorem pk_low0 {K B : Nat} (hK : 0 < K) (m k : Nat) (r : List Nat) (h : k + 1 + r.length ≤ K * m) : ∃ e, (pk K B (List.replicate (k + 1) 0 ++ r) m).getD (k / K) 0 = e * B ^ (k % K + 1) := by
 have hkm : k / K < m := Nat.div_lt_of_lt_mul (by omega)
 have hk2 := Nat.div_add_mod k K
 have hk3 := Nat.mod_lt k hK
 rw [pk_getD _ _ _ _ _ hkm, List.drop_append_of_le_length (by simp; omega), List.drop_replicate, show k + 1 - K * (k / K) = k % K + 1 by omega, List.take_append, List.length_replicate, List.take_of_length_le (by simp; omega), val_append, val_zeros, List.length_replicate, Nat.zero_add]
 exact ⟨_, Nat.mul_comm _ _⟩
theorem or_u32 {e x p : Nat} (hx : x < 256) (h : e * 2 ^ (p + 8) + x * 2 ^ p < B32) :
  IntKind.u32.wrap (((BitVec.ofInt IntKind.u32.bits ((e * 2 ^ (p + 8) : Nat) : Int) ||| BitVec.ofInt IntKind.u32.bits ((x * 2 ^ p : Nat) : Int)).toNat : Nat) : Int) = ((e * 2 ^ (p + 8) + x * 2 ^ p : Nat) : Int) := by
 rw [B32_val] at h
 refine (u32_or_nat _ _ (by omega) (by omega)).trans ?_
 rw [Nat.or_comm, or_mul _ _ (p + 8) (2 ^ (p + 8)) rfl (by rw [Nat.pow_add, Nat.mul_comm]; exact Nat.mul_lt_mul_of_pos_left hx (Nat.two_pow_pos p)), Nat.add_comm]
theorem refFrom_pc {v : Value} {l : List Nat} {H : Hp} (h : SlN n8 H v l) (hD : Dig 256 l) (hl : l.length ≤ 200000000) : PC prog 163 #[v] H fun r H' => RN H' r (val 256 l.reverse) := by
 obtain ⟨a, cap, rfl⟩ := SlC.val h
 obtain ⟨m, hm⟩ : ∃ m, m = (l.length + 3) / 4 := ⟨_, rfl⟩
 have hpd := fun i => pk_dig (K := 4) (B := 256) (by decide) (Dig.append (Dig.zeros (by decide) (l.length - i)) (hD.take i).rev) m
 refine BD func163 ntmps163 ?_
 try refine RUN ?_
 refine EVL.make tO rfl rfl rfl rfl rfl rfl rfl rfl rfl (m) ((by rw [hm]; exact wi_b3 _ (by omega))) (by omega) (by rfl) (by rfl) fun g => ?_
 try refine RUN ?_
 rw [zeros32, ← pk_nil 4 256 m]
 have e0 : pk 4 256 [] m = pk 4 256 (List.replicate (l.length - 0) 0 ++ (l.take 0).reverse) m := by
  refine list_ext (B := 256 ^ 4) (by decide) (pk_dig (by decide) (Dig.nil _) m) (hpd 0) (by rw [pk_length, pk_length]) ?_
  rw [pk_val 4 256 (by decide) m _ (Nat.zero_le _), pk_val 4 256 (by decide) m _ (by simp; omega)]
  simp [val_zeros, val]
 rw [e0]
 refine EV.loopK (ι := Nat) [0, 3] [] (fun i => [(4, .v (.int .i64 (i : Int)))]) (fun _ => []) (fun i => [(g, 171, (pk 4 256 (List.replicate (l.length - i) 0 ++ (l.take i).reverse) m).map n32)]) (fun i G => i ≤ l.length) (fun i => l.length - i) (0) rfl rfl ⟨rfl, trivial⟩ trivial rfl (fun _ => rfl) (Nat.zero_le _) ?_
 rintro i G1 hG1 hi
 try refine RUN ?_
 refine EV.cond rfl (fun hlt => ?_) (fun hlt => ?_)
 ·simp only [nN] at hlt
  obtain ⟨k, hk⟩ : ∃ k, k = l.length - 1 - i := ⟨_, rfl⟩
  have hk1 : l.length - i = k + 1 := by omega
  have hkm : k / 4 < m := by omega
  have hx : l.getD i 0 < 256 := hD.getD (by decide) i
  have hxs := map_at (enc := n8) hlt
  have hrl : (l.take i).reverse.length = i := by rw [List.length_reverse, List.length_take]; omega
  obtain ⟨e, he⟩ := pk_low0 (K := 4) (B := 256) (by decide) m k (l.take i).reverse (by rw [hrl]; omega)
  have hfst := pk_low_first (K := 4) (B := 256) (by decide) (by decide) m k (l.getD i 0) (l.take i).reverse hx (hD.take i).rev (by rw [hrl]; omega)
  have hcur := map_at (enc := n32) (l := pk 4 256 (List.replicate (k + 1) 0 ++ (l.take i).reverse) m) (i := k / 4) (by rw [pk_length]; exact hkm)
  have hpd1 := hpd (i + 1)
  have hnext : List.replicate (l.length - (i + 1)) 0 ++ (l.take (i + 1)).reverse = List.replicate k 0 ++ l.getD i 0 :: (l.take i).reverse := by
   rw [show l.length - (i + 1) = k by omega, List.take_succ_eq_append_getElem hlt, List.reverse_append, List.getD_eq_getElem?_getD, List.getElem?_eq_getElem hlt]; rfl
  rw [hnext, hfst] at hpd1
  have hsum : (pk 4 256 (List.replicate (k + 1) 0 ++ (l.take i).reverse) m).getD (k / 4) 0 + l.getD i 0 * 256 ^ (k % 4) < B32 := by
   have := hpd1.getD (by decide) (k / 4)
   rw [getD_set_eq _ _ _ (by rw [pk_length]; exact hkm)] at this
   rw [B32_256]; exact this
  rw [hk1]
  generalize hcu : pk 4 256 (List.replicate (k + 1) 0 ++ (l.take i).reverse) m = cur at *
  have hcl : cur.length = m := by rw [← hcu, pk_length]
  try refine RUN ?_
  rw [back _ _ hlt (by omega), ← hk]
  try refine RUN ?_
  apply EV.drawn 19 (by kernel_rfl) (by kernel_rfl); intro xv yw
  (repeat (first | refine' DV ?_ | refine' DA ?_ | refine' DK0 ?_ | refine' DT ?_ | refine' DS ?_))
  refine' DJ.ofVal (ValOk.idxP1 tO rfl rfl rfl rfl rfl rfl rfl rfl (k / 4) (wi_quo k 4 (by omega)) (hkm)) rfl rfl rfl ?_; rotate_left
  refine' DJ.ofVal (ValOk.load1 tO rfl rfl rfl rfl rfl rfl (0) rfl (hcur)) rfl rfl rfl ?_; rotate_left
  (repeat (first | refine' DV ?_ | refine' DA ?_ | refine' DK0 ?_ | refine' DT ?_ | refine' DS ?_))
  refine' DJ.ofVal (ValOk.idx1 tO rfl rfl rfl rfl rfl rfl rfl rfl (h.mono hG1) (i) (rfl) (hlt) (hxs)) rfl rfl rfl ?_; rotate_left
  (repeat (first | refine' DV ?_ | refine' DA ?_ | refine' DK0 ?_ | refine' DT ?_ | refine' DS ?_))
  refine' DJ.ofVal (ValOk.shl rfl rfl rfl rfl ((by rw [r4]; omega))) rfl rfl rfl ?_; rotate_left
  (repeat (first | refine' DV ?_ | refine' DA ?_ | refine' DK0 ?_ | refine' DT ?_ | refine' DS ?_))
  (refine DJ.nil (fun G2 hG2 hF2 => ?_); (case hS => rfl); (case hS2 => rfl))
  rw [r4, Int.toNat_natCast]
  rw [show IntKind.u32.wrap ((l.getD i 0 : Nat) : Int) = ((l.getD i 0 : Nat) : Int) by rw [wu32, Nat.mod_eq_of_lt (Nat.lt_trans hx (by decide))]]
  rw [show min (8 * (k % 4)) IntKind.u32.bits = 8 * (k % 4) from Nat.min_eq_left (by show 8 * (k % 4) ≤ 32; omega)]
  have e1 : (256 : Nat) ^ (k % 4) = 2 ^ (8 * (k % 4)) := by rw [Nat.pow_mul]
  have e2 : (256 : Nat) ^ (k % 4 + 1) = 2 ^ (8 * (k % 4) + 8) := by rw [show 8 * (k % 4) + 8 = 8 * (k % 4 + 1) by omega, Nat.pow_mul]
  rw [e1] at hsum hfst
  rw [e2] at he
  have hsh : IntKind.u32.wrap (((l.getD i 0 : Nat) : Int) * 2 ^ (8 * (k % 4))) = ((l.getD i 0 * 2 ^ (8 * (k % 4)) : Nat) : Int) := by
   rw [cast_pow2, ← Int.natCast_mul, wu32, Nat.mod_eq_of_lt (Nat.lt_of_le_of_lt (Nat.le_add_left _ _) hsum)]
  rw [hsh]
  have hor := or_u32 (e := e) hx (by rw [← he]; exact hsum)
  rw [← he] at hor
  rw [hor]
  refine EVL.idx0 tO rfl rfl rfl rfl rfl rfl rfl rfl rfl rfl (k / 4) (wi_quo k 4 (by omega)) (hkm) ?_
  refine EVL.set1 tO rfl rfl rfl rfl rfl rfl rfl rfl rfl rfl ((by rw [List.length_map, hcl]; exact hkm)) ?_
  try refine RUN ?_
  refine ⟨i + 1, ⟨?_, trivial⟩, (by repeat (first | exact trivial | refine And.intro rfl ?_)), trivial, trivial, ?_, by omega, hG2, by omega⟩
  ·rw [wi_inc i (by omega)]; rfl
  ·rw [hnext, hfst, List.map_set]
 ·simp only [nN] at hlt
  obtain rfl : i = l.length := by omega
  try refine RUN ?_
  (first | refine EVL.publish [] [] rfl fun G2 hG2 hg => ?_ | refine EV.publish [] [] rfl fun G2 hG2 hg => ?_)
  have hv : val B32 (pk 4 256 (List.replicate (l.length - l.length) 0 ++ (l.take l.length).reverse) m) = val 256 l.reverse := by
   rw [B32_256, pk_val 4 256 (by decide) m _ (by simp; omega), Nat.sub_self, List.take_length]; rfl
  have ht := refTrim_dig (sl_new (enc := n32) hg (pk_length _ _ _ _)) (by rw [B32_256]; exact hpd _) (by rw [pk_length]; omega) hv
  refine EVL.call rfl rfl rfl rfl rfl (ht) ?_
  rintro r H' hr hle
  try refine RUN ?_
  exact hr
end Go.Proofs.YtejljnlfgiifoaaGreatDoor
namespace Go.Proofs.YtejljnlfgiifoaaGreatDoor
theorem rat_lowest (n : Int) (d : Nat) (hd : d ≠ 0) : (mkRat n d).num = n / (Nat.gcd n.natAbs d : Nat) ∧ (mkRat n d).den = d / Nat.gcd n.natAbs d := by
 rw [Rat.num_mkRat, Rat.den_mkRat, if_neg hd, if_neg hd, Nat.gcd_comm]
 exact ⟨rfl, rfl⟩
theorem rat_add (a b : Rat) (g down other h : Nat) (up : Int) (hg : g = Nat.gcd a.den b.den) (hdown : down = a.den / g) (hother : other = b.den / g) (hup : up = a.num * other + b.num * down) (hh : h = Nat.gcd up.natAbs g) :
  (a + b).num = up / (h : Nat) ∧ (a + b).den = down * (b.den / h) := by
 have ae : down * g = a.den := by rw [hdown]; exact Nat.div_mul_cancel (hg ▸ Nat.gcd_dvd_left ..)
 have be : other * g = b.den := by rw [hother]; exact Nat.div_mul_cancel (hg ▸ Nat.gcd_dvd_right ..)
 have hg0 : g ≠ 0 := by rw [hg]; exact Nat.gcd_ne_zero_left a.den_nz
 have hd0 : down * b.den ≠ 0 := by
  refine Nat.mul_ne_zero (fun e => ?_) b.den_nz
  rw [e, Nat.zero_mul] at ae; exact a.den_nz ae.symm
 have e1 : a + b = mkRat up (down * b.den) := by
  rw [Rat.add_def', ← Rat.mkRat_mul_right (n := up) (d := down * b.den) hg0]
  congr 1
  ·rw [hup, ← ae, ← be]; simp only [Int.natCast_mul]; grind
  ·rw [← ae]; grind
 have e2 : Nat.gcd up.natAbs (down * b.den) = h := by rw [hh, hup]; exact (Rat.add.aux a b hg hdown hother).symm
 have h1 := rat_lowest up (down * b.den) hd0
 rw [e2] at h1
 rw [e1]
 refine ⟨h1.1, h1.2.trans ?_⟩
 refine Nat.mul_div_assoc _ ?_
 rw [hh]
 exact Nat.dvd_trans (Nat.gcd_dvd_right ..) (hg ▸ Nat.gcd_dvd_right ..)
theorem rat_mul (a b : Rat) (g h : Nat) (hg : g = Nat.gcd a.num.natAbs b.den) (hh : h = Nat.gcd b.num.natAbs a.den) :
  (a * b).num = (a.num / (g : Nat)) * (b.num / (h : Nat)) ∧ (a * b).den = (a.den / h) * (b.den / g) := by
 have : a * b = Rat.mul a b := rfl
 rw [this]
 delta Rat.mul
 dsimp only
 simp only [Int.divExact_eq_tdiv, Nat.divExact_eq_div]
 rw [Int.tdiv_eq_ediv_of_dvd (Int.ofNat_dvd_left.2 <| Nat.gcd_dvd_left ..), Int.tdiv_eq_ediv_of_dvd (Int.ofNat_dvd_left.2 <| Nat.gcd_dvd_left ..), hg, hh]
 exact ⟨rfl, rfl⟩
theorem part_eq (n : Int) (g : Nat) (h : g ∣ n.natAbs) : n / (g : Nat) = if n < 0 then -((n.natAbs / g : Nat) : Int) else ((n.natAbs / g : Nat) : Int) := by
 obtain ⟨k, hk⟩ := h
 by_cases h0 : g = 0
 ·subst h0
  have : n = 0 := by omega
  subst this; simp
 ·have hg : 0 < g := by omega
  rw [hk, Nat.mul_div_cancel_left k hg]
  by_cases hn : n < 0
  ·rw [if_pos hn]
   have : n = g * (-(k : Int)) := by rw [Int.mul_neg, ← Int.natCast_mul, ← hk]; omega
   rw [this, Int.mul_ediv_cancel_left _ (by omega)]
  ·rw [if_neg hn]
   have : n = g * (k : Int) := by rw [← Int.natCast_mul, ← hk]; omega
   rw [this, Int.mul_ediv_cancel_left _ (by omega)]
def ordR (a b : Rat) : Int := if a < b then -1 else if b < a then 1 else 0
def ordZ (a b : Int) : Int := if a < b then -1 else if b < a then 1 else 0
theorem ordR_eq (a b : Rat) : ordR a b = ordZ (a.num * b.den) (b.num * a.den) := by
 unfold ordR ordZ
 simp only [Rat.lt_iff]
end Go.Proofs.YtejljnlfgiifoaaGreatDoor
namespace Go.Proofs.YtejljnlfgiifoaaGreatDoor
def ht (q : Rat) : Nat := max (bl q.num.natAbs) (bl q.den)
theorem bl_num_le (q : Rat) : bl q.num.natAbs ≤ ht q := Nat.le_max_left ..
theorem bl_den_le (q : Rat) : bl q.den ≤ ht q := Nat.le_max_right ..
theorem natAbs_ediv_le (n : Int) (g : Nat) : (n / (g : Int)).natAbs ≤ n.natAbs := by
 exact Int.natAbs_ediv_le_natAbs n g
theorem ht_mk (n : Int) (d : Nat) (hd : d ≠ 0) : ht (mkRat n d) ≤ max (bl n.natAbs) (bl d) := by
 have := rat_lowest n d hd
 unfold ht
 rw [this.1, this.2]
 have h1 := bl_mono (natAbs_ediv_le n (Nat.gcd n.natAbs d))
 have h2 := bl_div d (Nat.gcd n.natAbs d)
 omega
theorem ht_neg (a : Rat) : ht (-a) = ht a := by simp [ht]
theorem bl_natAbs_add (a b : Int) : bl (a + b).natAbs ≤ max (bl a.natAbs) (bl b.natAbs) + 1 :=
 Nat.le_trans (bl_mono (Int.natAbs_add_le a b)) (bl_add _ _)
theorem ht_add (a b : Rat) : ht (a + b) ≤ ht a + ht b + 1 := by
 rw [Rat.add_def']
 refine Nat.le_trans (ht_mk _ _ (Nat.mul_ne_zero a.den_nz b.den_nz)) ?_
 have h1 := bl_natAbs_add (a.num * b.den) (b.num * a.den)
 rw [Int.natAbs_mul, Int.natAbs_mul, Int.natAbs_natCast, Int.natAbs_natCast] at h1
 have h2 := bl_mul a.num.natAbs b.den
 have h3 := bl_mul b.num.natAbs a.den
 have h4 := bl_mul a.den b.den
 have := bl_num_le a
 have := bl_num_le b
 have := bl_den_le a
 have := bl_den_le b
 omega
theorem ht_sub (a b : Rat) : ht (a - b) ≤ ht a + ht b + 1 := by
 rw [Rat.sub_eq_add_neg]
 have := ht_add a (-b)
 rwa [ht_neg] at this
theorem ht_mul (a b : Rat) : ht (a * b) ≤ ht a + ht b := by
 rw [Rat.mul_def']
 refine Nat.le_trans (ht_mk _ _ (Nat.mul_ne_zero a.den_nz b.den_nz)) ?_
 rw [Int.natAbs_mul]
 have h2 := bl_mul a.num.natAbs b.num.natAbs
 have h4 := bl_mul a.den b.den
 have := bl_num_le a
 have := bl_num_le b
 have := bl_den_le a
 have := bl_den_le b
 omega
theorem ht_int (n : Int) : ht (n : Rat) ≤ bl n.natAbs + 1 := by
 unfold ht
 have : bl 1 = 1 := bl_pow2 0
 simp only [Rat.num_intCast, Rat.den_intCast]
 omega
theorem ht_zero : ht 0 = 1 := by
 unfold ht
 have : bl 1 = 1 := bl_pow2 0
 simp only [Rat.zero_num, Rat.zero_den, Int.natAbs_zero, bl_zero]; omega
theorem ht_inv (a : Rat) : ht a⁻¹ ≤ ht a := by
 by_cases h : a = 0
 ·subst h; simp
 ·have h0 : a.num ≠ 0 := fun e => h (Rat.num_eq_zero.1 e)
  unfold ht
  rw [Rat.num_inv, Rat.den_inv, if_neg h0, Int.natAbs_mul, Int.natAbs_natCast, Int.natAbs_sign_of_ne_zero h0]
  simp only [Nat.one_mul]; omega
theorem ht_div (a b : Rat) : ht (a / b) ≤ ht a + ht b := by
 rw [Rat.div_def]
 have h1 := ht_mul a b⁻¹
 have h2 := ht_inv b
 omega
end Go.Proofs.YtejljnlfgiifoaaGreatDoor
namespace Go.Proofs.YtejljnlfgiifoaaGreatDoor
open Go.RowKit _root_.Go.Proofs.Tryz
def sg (b : Bool) (n : Nat) : Int := if b then -(n : Int) else n
abbrev intV (z : Int) : Value := .agg #[.bool (decide (z < 0)), .int .u64 (lo z.natAbs : Int), .string (moreB z.natAbs)]
abbrev bigI (z : Int) : Prop := big z.natAbs
theorem bl_pos_iff (n : Nat) : (0 < bl n) ↔ n ≠ 0 := by
 constructor
 ·intro h e; subst e; rw [bl_zero] at h; omega
 ·exact bl_pos
theorem bl_gt (n : Nat) : decide ((bl n : Int) > 0) = decide (n ≠ 0) := by rw [decide_eq_decide, ← bl_pos_iff]; omega
theorem sg_natAbs (b : Bool) (n : Nat) : (sg b n).natAbs = n := by unfold sg; cases b <;> simp
theorem sg_dec (z : Int) : sg (decide (z < 0)) z.natAbs = z := by
 unfold sg
 by_cases h : z < 0
 ·rw [decide_eq_true h, if_pos rfl]; omega
 ·rw [decide_eq_false h, if_neg (by simp)]; omega
theorem intV_mk (b : Bool) (n : Nat) : intV (sg b n) = .agg #[.bool (b && decide (n ≠ 0)), .int .u64 (lo n : Int), .string (moreB n)] := by
 unfold sg
 cases b
 ·simp
 ·have : (-(n : Int)).natAbs = n := by omega
  simp only [if_true, intV, this, Bool.true_and]
  have e : decide (-(n : Int) < 0) = decide (n ≠ 0) := by by_cases h : n = 0 <;> simp [h]; omega
  rw [e]
theorem from_pv (b : Bool) (n : Nat) (hn : big n) : PV prog 47 #[.bool b, natV n] (intV (sg b n)) := by
 rw [intV_mk]
 refine PV.of_pc ?_
 refine BD func47 ntmps47 ?_
 cases b
 ·(try refine RUN ?_)
  (apply EV.drawn 8 (by kernel_rfl) (by kernel_rfl); intro xv yw; (repeat (first | refine' DV ?_ | refine' DA ?_ | refine' DK0 ?_ | refine' DS ?_)); refine DJ.nil (fun G hG hF => ?_); (case hS => rfl); (case hS2 => rfl))
  try refine RUN ?_
  rfl
 ·(try refine RUN ?_)
  (apply EV.drawn 8 (by kernel_rfl) (by kernel_rfl); intro xv yw; (repeat (first | refine' DV ?_ | refine' DA ?_ | refine' DK0 ?_ | (refine' DC (bits_pv _ hn) (h := ?_); rotate_left) | refine' DS ?_)); refine DJ.nil (fun G hG hF => ?_); (case hS => rfl); (case hS2 => rfl))
  try refine RUN ?_
  rw [bl_gt]; rfl
theorem wholeAbs_pv (z : Int) : PV prog 48 #[intV z] (natV z.natAbs) := by
 refine PV.of_pc ?_
 refine BD func48 ntmps48 ?_
 try refine RUN ?_
 rfl
theorem wholeNeg_pv (z : Int) (hz : bigI z) : PV prog 120 #[intV z] (intV (-z)) := by
 have e : sg (!decide (z < 0)) z.natAbs = -z := by
  unfold sg
  by_cases h : z < 0
  ·simp only [h, decide_true, Bool.not_true, Bool.false_eq_true, if_false]; omega
  ·simp only [h, decide_false, Bool.not_false, if_true]; omega
 have hf := from_pv (!decide (z < 0)) z.natAbs hz
 rw [e] at hf
 refine PV.of_pc ?_
 refine BD func120 ntmps120 ?_
 repeat (first | refine RUN ?_ | refine CV (hf) ?_ | refine CE (hf) ?_)
 rfl
theorem wholeSign_pv (z : Int) (hz : bigI z) : PV prog 77 #[intV z] (.int .i64 z.sign) := by
 refine PV.of_pc ?_
 refine BD func77 ntmps77 ?_
 try refine RUN ?_
 by_cases h : z < 0
 ·rw [decide_eq_true h]
  try refine RUN ?_
  rw [Int.sign_eq_neg_one_of_neg h]
 ·rw [decide_eq_false h]
  repeat (first | refine RUN ?_ | refine CV (bits_pv _ hz) ?_ | refine CE (bits_pv _ hz) ?_)
  rw [bl_gt]
  by_cases h0 : z = 0
  ·subst h0
   rw [show decide ((0 : Int).natAbs ≠ 0) = false from rfl]
   try refine RUN ?_
   rfl
  ·rw [show decide (z.natAbs ≠ 0) = true by simp; omega]
   try refine RUN ?_
   rw [Int.sign_eq_one_of_pos (by omega)]
theorem wholeCmp_pv (a b : Int) (ha : bigI a) (hb : bigI b) : PV prog 70 #[intV a, intV b] (.int .i64 (ordZ a b)) := by
 refine PV.of_pc ?_
 refine BD func70 ntmps70 ?_
 try refine RUN ?_
 by_cases h : a < 0
 ·rw [decide_eq_true h]
  try refine RUN ?_
  by_cases h' : b < 0
  ·rw [decide_eq_true h']
   repeat (first | refine RUN ?_ | refine CV (natCmp_pv _ _ hb ha) ?_ | refine CE (natCmp_pv _ _ hb ha) ?_)
   have e : ordN b.natAbs a.natAbs = ordZ a b := by unfold ordN ordZ; repeat' split <;> omega
   rw [e]
  ·rw [decide_eq_false h']
   try refine RUN ?_
   rw [show ordZ a b = -1 by unfold ordZ; rw [if_pos (by omega)]]
 ·rw [decide_eq_false h]
  try refine RUN ?_
  by_cases h' : b < 0
  ·rw [decide_eq_true h']
   try refine RUN ?_
   rw [show ordZ a b = 1 by unfold ordZ; rw [if_neg (by omega), if_pos (by omega)]]
  ·rw [decide_eq_false h']
   repeat (first | refine RUN ?_ | refine CV (natCmp_pv _ _ ha hb) ?_ | refine CE (natCmp_pv _ _ ha hb) ?_)
   have e : ordN a.natAbs b.natAbs = ordZ a b := by unfold ordN ordZ; repeat' split <;> omega
   rw [e]
theorem wholeOf_pv (z : Int) (h1 : -9223372036854775808 ≤ z) (h2 : z < 9223372036854775808) : PV prog 58 #[.int .i64 z] (intV z) := by
 refine PV.of_pc ?_
 refine BD func58 ntmps58 ?_
 try refine RUN ?_
 have hn : z.natAbs < W64 := by rw [W64_val]; omega
 by_cases h : z < 0
 ·rw [decide_eq_true h]
  try refine RUN ?_
  rw [show IntKind.u64.wrap (0 - IntKind.u64.wrap z) = (z.natAbs : Int) by rw [wrapU64, wrapU64]; omega]
  repeat (first | refine RUN ?_ | refine CV (natOf_pv z.natAbs hn) ?_ | refine CE (natOf_pv z.natAbs hn) ?_)
  simp only [intV, decide_eq_true h]
 ·rw [decide_eq_false h]
  try refine RUN ?_
  rw [show IntKind.u64.wrap z = (z.natAbs : Int) by rw [wrapU64]; omega]
  repeat (first | refine RUN ?_ | refine CV (natOf_pv z.natAbs hn) ?_ | refine CE (natOf_pv z.natAbs hn) ?_)
  simp only [intV, decide_eq_false h]
def RI (H : Hp) (v : Value) (z : Int) : Prop := ∃ a l cap, v = .agg #[.bool (decide (z < 0)), .slice a l cap] ∧ RN H (.slice a l cap) z.natAbs
theorem RI.mono {H G : Hp} {v : Value} {z : Int} (h : RI H v z) (k : H.Le G) : RI G v z := by
 obtain ⟨a, l, c, e, hs⟩ := h; exact ⟨a, l, c, e, SlN.mono hs k⟩
theorem RN.mono {H G : Hp} {v : Value} {n : Nat} (h : RN H v n) (k : H.Le G) : RN G v n := SlN.mono h k
theorem sg_lt (b : Bool) (n : Nat) : decide (sg b n < 0) = (b && decide (n ≠ 0)) := by
 unfold sg; cases b
 ·simp
 ·simp only [if_true, Bool.true_and, decide_eq_decide]; omega
theorem RI.of {H : Hp} {s : Value} {b : Bool} {n : Nat} (h : RN H s n) : RI H (.agg #[.bool (b && decide (n ≠ 0)), s]) (sg b n) := by
 obtain ⟨a, c, rfl⟩ := SlC.val h
 exact ⟨a, _, c, by rw [sg_lt], by rw [sg_natAbs]; exact h⟩
theorem refI_pc {H : Hp} (b : Bool) {s : Value} {n : Nat} (h : RN H s n) : PC prog 130 #[.bool b, s] H fun r H' => RI H' r (sg b n) := by
 have hof := RI.of (b := b) h
 have hz : (dig B32 n).length = 0 ↔ n = 0 := ⟨dig_len_zero B32_two, fun e => by rw [e, dig_zero]; rfl⟩
 unfold RN at h
 obtain ⟨a, cap, rfl⟩ := SlC.val h
 generalize (dig B32 n).length = l at *
 have hd : decide ((l : Int) > 0) = decide (n ≠ 0) := by rw [decide_eq_decide]; omega
 refine BD func130 ntmps130 ?_
 cases b
 ·(try refine RUN ?_)
  exact hof
 ·(try refine RUN ?_)
  rw [hd]
  exact hof
theorem refIntSign_pc {H : Hp} {v : Value} {z : Int} (h : RI H v z) : PC prog 166 #[v] H fun r _ => r = .int .i64 z.sign := by
 obtain ⟨sa, sl, sc, rfl, hs⟩ := h
 have hz : (dig B32 z.natAbs).length = 0 ↔ z = 0 := ⟨fun e => Int.natAbs_eq_zero.1 (dig_len_zero B32_two e), fun e => by rw [e, Int.natAbs_zero, dig_zero]; rfl⟩
 unfold RN at hs
 obtain ⟨a, cap, e⟩ := SlC.val hs
 cases e
 generalize (dig B32 z.natAbs).length = l at *
 refine BD func166 ntmps166 ?_
 try refine RUN ?_
 by_cases h0 : z = 0
 ·subst h0
  rw [show ((l : Int) == 0) = true by simp; exact hz.2 rfl]
  try refine RUN ?_
  rfl
 ·rw [show ((l : Int) == 0) = false by simp; exact fun e => h0 (hz.1 e)]
  by_cases hn : z < 0
  ·rw [decide_eq_true hn]
   try refine RUN ?_
   rw [Int.sign_eq_neg_one_of_neg hn]
  ·rw [decide_eq_false hn]
   try refine RUN ?_
   rw [Int.sign_eq_one_of_pos (by omega)]
theorem refIntNeg_pc {H : Hp} {v : Value} {z : Int} (h : RI H v z) : PC prog 165 #[v] H fun r H' => RI H' r (-z) := by
 obtain ⟨sa, sl, sc, rfl, hs⟩ := h
 have hi := refI_pc (!(decide (z < 0))) hs
 rw [show sg (!(decide (z < 0))) z.natAbs = -z by unfold sg; by_cases hz : z < 0 <;> simp [hz] <;> omega] at hi
 refine BD func165 ntmps165 ?_
 try refine RUN ?_
 refine EVL.call rfl rfl rfl rfl rfl (hi) ?_
 rintro r G ⟨ta, tl, tc, rfl, ht⟩ hG
 try refine RUN ?_
 exact ⟨ta, tl, tc, rfl, ht⟩
theorem refIntOf_pc {H : Hp} (z : Int) (h1 : -9223372036854775808 ≤ z) (h2 : z < 9223372036854775808) : PC prog 94 #[.int .i64 z] H fun r H' => RI H' r z := by
 refine BD func94 ntmps94 ?_
 try refine RUN ?_
 by_cases hz : z < 0
 ·rw [decide_eq_true hz]
  try refine RUN ?_
  rw [show IntKind.u64.wrap (0 - IntKind.u64.wrap z) = ((z.natAbs : Nat) : Int) by rw [wrapU64, wrapU64]; omega]
  refine EVL.call rfl rfl rfl rfl rfl (refNatOf_pc z.natAbs (by rw [W64_val]; omega) H) ?_
  rintro r G hr hG
  try refine RUN ?_
  refine EVL.call rfl rfl rfl rfl rfl (refI_pc true hr) ?_
  rintro r2 G2 ⟨ta, tl, tc, rfl, ht⟩ hG2
  try refine RUN ?_
  refine ⟨ta, tl, tc, ?_, ?_⟩
  ·rw [show sg true z.natAbs = z by unfold sg; simp; omega]
  ·rw [show sg true z.natAbs = z by unfold sg; simp; omega] at ht; exact ht
 ·rw [decide_eq_false hz]
  try refine RUN ?_
  rw [show IntKind.u64.wrap z = ((z.natAbs : Nat) : Int) by rw [wrapU64]; omega]
  refine EVL.call rfl rfl rfl rfl rfl (refNatOf_pc z.natAbs (by rw [W64_val]; omega) H) ?_
  rintro r G hr hG
  try refine RUN ?_
  refine EVL.call rfl rfl rfl rfl rfl (refI_pc false hr) ?_
  rintro r2 G2 ⟨ta, tl, tc, rfl, ht⟩ hG2
  try refine RUN ?_
  refine ⟨ta, tl, tc, ?_, ?_⟩
  ·rw [show sg false z.natAbs = z by unfold sg; simp; omega]
  ·rw [show sg false z.natAbs = z by unfold sg; simp; omega] at ht; exact ht
theorem sg_same (a : Int) (n : Nat) : sg (decide (a < 0)) n = if a < 0 then -(n : Int) else n := by unfold sg; simp
theorem refIntAdd_pc {H : Hp} {u v : Value} {a b : Int} (hu : RI H u a) (hv : RI H v b) (ha : rsm a.natAbs) (hb : rsm b.natAbs) : PC prog 133 #[u, v] H fun r H' => RI H' r (a + b) := by
 obtain ⟨sa, sl, sc, rfl, hs⟩ := hu
 obtain ⟨ta, tl, tc, rfl, ht⟩ := hv
 have la := ha.len
 have lb := hb.len
 have hca : ∀ G, H.Le G → PC prog 168 #[.slice sa sl sc, .slice ta tl tc] G fun r H' => RN H' r (a.natAbs + b.natAbs) := fun G hG => by
  have := refAddL_pc (SlN.mono hs hG) (SlN.mono ht hG) (digB_dig _) (digB_dig _) (by omega) (by omega)
  rwa [dig_val B32_two, dig_val B32_two] at this
 have hcs : ∀ G, H.Le G → b.natAbs ≤ a.natAbs → PC prog 169 #[.slice sa sl sc, .slice ta tl tc] G fun r H' => RN H' r (a.natAbs - b.natAbs) := fun G hG hle => by
  have := refSubL_pc (SlN.mono hs hG) (SlN.mono ht hG) (digB_dig _) (dig_norm B32_two _) (by omega) (by omega) (by rw [dig_val B32_two, dig_val B32_two]; exact hle)
  rwa [dig_val B32_two, dig_val B32_two] at this
 have hcs' : ∀ G, H.Le G → a.natAbs ≤ b.natAbs → PC prog 169 #[.slice ta tl tc, .slice sa sl sc] G fun r H' => RN H' r (b.natAbs - a.natAbs) := fun G hG hle => by
  have := refSubL_pc (SlN.mono ht hG) (SlN.mono hs hG) (digB_dig _) (dig_norm B32_two _) (by omega) (by omega) (by rw [dig_val B32_two, dig_val B32_two]; exact hle)
  rwa [dig_val B32_two, dig_val B32_two] at this
 have hcmp := refCmpL_pc hs ht (dig_norm B32_two _) (dig_norm B32_two _) (by omega)
 rw [dig_val B32_two, dig_val B32_two] at hcmp
 have hlt1 : a + b = sg (decide (a < 0)) (a.natAbs + b.natAbs) ∨ decide (a < 0) ≠ decide (b < 0) := by
  rw [sg_same]; by_cases h1 : a < 0 <;> by_cases h2 : b < 0 <;> simp [h1, h2] <;> omega
 have hlt2 : decide (a < 0) ≠ decide (b < 0) → b.natAbs ≤ a.natAbs → a + b = sg (decide (a < 0)) (a.natAbs - b.natAbs) := by
  rw [sg_same]; by_cases h1 : a < 0 <;> by_cases h2 : b < 0 <;> simp [h1, h2] <;> omega
 have hlt3 : decide (a < 0) ≠ decide (b < 0) → a.natAbs ≤ b.natAbs → a + b = sg (decide (b < 0)) (b.natAbs - a.natAbs) := by
  rw [sg_same]; by_cases h1 : a < 0 <;> by_cases h2 : b < 0 <;> simp [h1, h2] <;> omega
 generalize decide (a < 0) = na at *
 generalize decide (b < 0) = nb at *
 generalize a.natAbs = x at *
 generalize b.natAbs = y at *
 refine BD func133 ntmps133 ?_
 try refine RUN ?_
 refine EVL.eqb rfl rfl rfl rfl rfl rfl (by kernel_rfl) ?_
 try refine RUN ?_
 by_cases he : na = nb
 ·rw [show (na == nb) = true by simp [he]]
  have hsum := hlt1.resolve_right (fun h => h he)
  rw [hsum]
  try refine RUN ?_
  apply EV.drawn 8 (by kernel_rfl) (by kernel_rfl); intro xv yw
  (repeat (first | refine' DV ?_ | refine' DA ?_ | refine' DK0 ?_ | refine' DT ?_ | refine' DS ?_))
  refine' DJ.call rfl rfl rfl rfl rfl (cO func168) (fun G hG hd => hca G hG) (fun _ _ _ h k => SlN.mono h k) ?_; rotate_left
  (repeat (first | refine' DV ?_ | refine' DA ?_ | refine' DK0 ?_ | refine' DT ?_ | refine' DS ?_))
  refine' DJ.call rfl rfl rfl rfl rfl (cO func130) (fun G hG hd => refI_pc na (hd.head (by kernel_rfl))) (fun _ _ _ h k => RI.mono h k) ?_; rotate_left
  (refine DJ.nil (fun G hG hF => ?_); (case hS => rfl); (case hS2 => rfl))
  obtain ⟨⟨ra, rl, rc, hr1, hr2⟩, _⟩ := hF
  rw [hr1]
  try refine RUN ?_
  exact ⟨ra, rl, rc, rfl, hr2⟩
 ·repeat (first | refine RUN ?_ | refine CV (hcmp) ?_ | refine CE (hcmp) ?_)
  rw [show (na == nb) = false by simpa using he]
  repeat (first | refine RUN ?_ | refine CV (hcmp) ?_ | refine CE (hcmp) ?_)
  by_cases hlt : x < y
  ·rw [show decide (ordN x y ≥ 0) = false by rw [ordN_lt hlt]; rfl, hlt3 he (by omega)]
   try refine RUN ?_
   apply EV.drawn 8 (by kernel_rfl) (by kernel_rfl); intro xv yw
   (repeat (first | refine' DV ?_ | refine' DA ?_ | refine' DK0 ?_ | refine' DT ?_ | refine' DS ?_))
   refine' DJ.call rfl rfl rfl rfl rfl (cO func169) (fun G hG hd => hcs' G hG (by omega)) (fun _ _ _ h k => SlN.mono h k) ?_; rotate_left
   (repeat (first | refine' DV ?_ | refine' DA ?_ | refine' DK0 ?_ | refine' DT ?_ | refine' DS ?_))
   refine' DJ.call rfl rfl rfl rfl rfl (cO func130) (fun G hG hd => refI_pc nb (hd.head (by kernel_rfl))) (fun _ _ _ h k => RI.mono h k) ?_; rotate_left
   (refine DJ.nil (fun G hG hF => ?_); (case hS => rfl); (case hS2 => rfl))
   obtain ⟨⟨ra, rl, rc, hr1, hr2⟩, _⟩ := hF
   rw [hr1]
   try refine RUN ?_
   exact ⟨ra, rl, rc, rfl, hr2⟩
  ·rw [show decide (ordN x y ≥ 0) = true by unfold ordN; rw [if_neg hlt]; split <;> rfl, hlt2 he (by omega)]
   try refine RUN ?_
   apply EV.drawn 8 (by kernel_rfl) (by kernel_rfl); intro xv yw
   (repeat (first | refine' DV ?_ | refine' DA ?_ | refine' DK0 ?_ | refine' DT ?_ | refine' DS ?_))
   refine' DJ.call rfl rfl rfl rfl rfl (cO func169) (fun G hG hd => hcs G hG (by omega)) (fun _ _ _ h k => SlN.mono h k) ?_; rotate_left
   (repeat (first | refine' DV ?_ | refine' DA ?_ | refine' DK0 ?_ | refine' DT ?_ | refine' DS ?_))
   refine' DJ.call rfl rfl rfl rfl rfl (cO func130) (fun G hG hd => refI_pc na (hd.head (by kernel_rfl))) (fun _ _ _ h k => RI.mono h k) ?_; rotate_left
   (refine DJ.nil (fun G hG hF => ?_); (case hS => rfl); (case hS2 => rfl))
   obtain ⟨⟨ra, rl, rc, hr1, hr2⟩, _⟩ := hF
   rw [hr1]
   try refine RUN ?_
   exact ⟨ra, rl, rc, rfl, hr2⟩
theorem sg_mul (a b : Int) : sg (!(decide (a < 0) == decide (b < 0))) (a.natAbs * b.natAbs) = a * b := by
 rw [← Int.natAbs_mul]
 unfold sg
 by_cases ha : a < 0 <;> by_cases hb : b < 0
 ·have := Int.mul_pos_of_neg_of_neg ha hb; simp [ha, hb]; omega
 ·have := Int.mul_nonpos_of_nonpos_of_nonneg (Int.le_of_lt ha) (Int.not_lt.1 hb); simp [ha, hb]; omega
 ·have := Int.mul_nonpos_of_nonneg_of_nonpos (Int.not_lt.1 ha) (Int.le_of_lt hb); simp [ha, hb]; omega
 ·have := Int.mul_nonneg (Int.not_lt.1 ha) (Int.not_lt.1 hb); simp [ha, hb]; omega
theorem wholeMul_pv (a b : Int) (ha : bigI a) (hb : bigI b) (hab : bigI (a * b)) : PV prog 59 #[intV a, intV b] (intV (a * b)) := by
 have hf := from_pv (!(decide (a < 0) == decide (b < 0))) (a.natAbs * b.natAbs) (by rw [← Int.natAbs_mul]; exact hab)
 rw [sg_mul] at hf
 refine PV.of_pc ?_
 refine BD func59 ntmps59 ?_
 try refine RUN ?_
 apply EV.drawn 10 (by kernel_rfl) (by kernel_rfl); intro xv yw
 (repeat (first | refine' DV ?_ | refine' DA ?_ | refine' DK0 ?_ | refine' DT ?_ | refine' DS ?_))
 refine' DJ.ofVal (ValOk.neb rfl rfl rfl rfl (by kernel_rfl)) rfl rfl rfl ?_; rotate_left
 (repeat (first | refine' DV ?_ | refine' DA ?_ | refine' DK0 ?_ | refine' DT ?_ | (refine' DC (natMul_pv _ _ ha hb) (h := ?_); rotate_left) | refine' DS ?_))
 (refine DJ.nil (fun G hG hF => ?_); (case hS => rfl); (case hS2 => rfl))
 repeat (first | refine RUN ?_ | refine CV (hf) ?_ | refine CE (hf) ?_)
 rfl
theorem wholeAdd_pv (a b : Int) (ha : bigI a) (hb : bigI b) (hs : big (a.natAbs + b.natAbs)) : PV prog 50 #[intV a, intV b] (intV (a + b)) := by
 have hm : big (a.natAbs - b.natAbs) := Nat.le_trans (bl_mono (Nat.sub_le _ _)) ha
 have hm' : big (b.natAbs - a.natAbs) := Nat.le_trans (bl_mono (Nat.sub_le _ _)) hb
 have f1 := from_pv (decide (a < 0)) _ hs
 have f2 := from_pv (decide (a < 0)) _ hm
 have f3 := from_pv (decide (b < 0)) _ hm'
 refine PV.of_pc ?_
 refine BD func50 ntmps50 ?_
 try refine RUN ?_
 refine EVL.eqb rfl rfl rfl rfl rfl rfl (by kernel_rfl) ?_
 try refine RUN ?_
 by_cases h : decide (a < 0) = decide (b < 0)
 ·have e : sg (decide (a < 0)) (a.natAbs + b.natAbs) = a + b := by
   rw [decide_eq_decide] at h; unfold sg; by_cases ha : a < 0 <;> simp [ha] <;> omega
  rw [e] at f1
  rw [beq_iff_eq.2 h]
  try refine RUN ?_
  apply EV.drawn 8 (by kernel_rfl) (by kernel_rfl); intro xv yw
  (repeat (first | refine' DV ?_ | refine' DA ?_ | refine' DK0 ?_ | refine' DT ?_ | (refine' DC (natAdd_pv _ _ ha hb) (h := ?_); rotate_left) | (refine' DC (f1) (h := ?_); rotate_left) | refine' DS ?_))
  (refine DJ.nil (fun G hG hF => ?_); (case hS => rfl); (case hS2 => rfl))
  try refine RUN ?_
  rfl
 ·rw [beq_eq_false_iff_ne.2 h]
  rw [decide_eq_decide] at h
  repeat (first | refine RUN ?_ | refine CV (natSub_pv _ _ ha hb) ?_ | refine CE (natSub_pv _ _ ha hb) ?_)
  by_cases hle : b.natAbs ≤ a.natAbs
  ·have e : sg (decide (a < 0)) (a.natAbs - b.natAbs) = a + b := by
    unfold sg; by_cases ha : a < 0 <;> simp [ha] <;> omega
   rw [e] at f2
   rw [decide_eq_true hle]
   repeat (first | refine RUN ?_ | refine CV (f2) ?_ | refine CE (f2) ?_)
   rfl
  ·have e : sg (decide (b < 0)) (b.natAbs - a.natAbs) = a + b := by
    unfold sg; by_cases ha : b < 0 <;> simp [ha] <;> omega
   rw [e] at f3
   rw [decide_eq_false hle]
   repeat (first | refine RUN ?_ | refine CV (natSub_pv _ _ hb ha) ?_ | refine CV (f3) ?_ | refine CE (natSub_pv _ _ hb ha) ?_ | refine CE (f3) ?_)
   rfl
theorem rsm_neg {a : Int} (h : rsm a.natAbs) : rsm (-a).natAbs := by rwa [Int.natAbs_neg]
theorem refIntSub_pc {H : Hp} {u v : Value} {a b : Int} (hu : RI H u a) (hv : RI H v b) (ha : rsm a.natAbs) (hb : rsm b.natAbs) : PC prog 167 #[u, v] H fun r H' => RI H' r (a - b) := by
 obtain ⟨sa, sl, sc, rfl, hs⟩ := id hu
 obtain ⟨ta, tl, tc, rfl, ht⟩ := id hv
 refine BD func167 ntmps167 ?_
 try refine RUN ?_
 apply EV.drawn 4 (by kernel_rfl) (by kernel_rfl); intro xv yw
 (repeat (first | refine' DV ?_ | refine' DA ?_ | refine' DK0 ?_ | refine' DT ?_ | refine' DS ?_))
 refine' DJ.call rfl rfl rfl rfl rfl (cO func165) (fun G hG hd => refIntNeg_pc (hv.mono hG)) (fun _ _ _ h k => RI.mono h k) ?_; rotate_left
 refine' DJ.call rfl rfl rfl rfl rfl (cO func133) (fun G hG hd => refIntAdd_pc (hu.mono hG) (hd.head (by kernel_rfl)) ha (rsm_neg hb)) (fun _ _ _ h k => RI.mono h k) ?_; rotate_left
 (refine DJ.nil (fun G hG hF => ?_); (case hS => rfl); (case hS2 => rfl))
 obtain ⟨⟨ra, rl, rc, hr1, hr2⟩, _⟩ := hF
 rw [hr1]
 try refine RUN ?_
 rw [← Int.sub_eq_add_neg] at *
 exact ⟨ra, rl, rc, rfl, hr2⟩
theorem refMul_pc {H : Hp} {u v : Value} {a b : Nat} (hu : RN H u a) (hv : RN H v b) (ha : rsm a) (hb : rsm b) : PC prog 131 #[u, v] H fun r H' => RN H' r (a * b) := by
 have la := ha.len
 have lb := hb.len
 have := refMulL_pc hu hv (digB_dig _) (digB_dig _) (by omega) (by omega)
 rwa [dig_val B32_two, dig_val B32_two] at this
theorem refIntMul_pc {H : Hp} {u v : Value} {a b : Int} (hu : RI H u a) (hv : RI H v b) (ha : rsm a.natAbs) (hb : rsm b.natAbs) : PC prog 128 #[u, v] H fun r H' => RI H' r (a * b) := by
 obtain ⟨sa, sl, sc, rfl, hs⟩ := id hu
 obtain ⟨ta, tl, tc, rfl, ht⟩ := id hv
 refine BD func128 ntmps128 ?_
 try refine RUN ?_
 apply EV.drawn 11 (by kernel_rfl) (by kernel_rfl); intro xv yw
 (repeat (first | refine' DV ?_ | refine' DA ?_ | refine' DK0 ?_ | refine' DT ?_ | refine' DS ?_))
 refine' DJ.ofVal (ValOk.neb rfl rfl rfl rfl (by kernel_rfl)) rfl rfl rfl ?_; rotate_left
 (repeat (first | refine' DV ?_ | refine' DA ?_ | refine' DK0 ?_ | refine' DT ?_ | refine' DS ?_))
 refine' DJ.call rfl rfl rfl rfl rfl (cO func131) (fun G hG hd => refMul_pc (RN.mono hs hG) (RN.mono ht hG) ha hb) (fun _ _ _ h k => SlN.mono h k) ?_; rotate_left
 refine' DJ.call rfl rfl rfl rfl rfl (cO func130) (fun G hG hd => refI_pc (!(decide (a < 0) == decide (b < 0))) (hd.head (by kernel_rfl))) (fun _ _ _ h k => RI.mono h k) ?_; rotate_left
 (refine DJ.nil (fun G hG hF => ?_); (case hS => rfl); (case hS2 => rfl))
 obtain ⟨⟨ra, rl, rc, hr1, hr2⟩, _⟩ := hF
 rw [sg_mul] at hr1 hr2
 rw [hr1]
 try refine RUN ?_
 exact ⟨ra, rl, rc, rfl, hr2⟩
theorem refIntCmp_pc {H : Hp} {u v : Value} {a b : Int} (hu : RI H u a) (hv : RI H v b) (ha : rsm a.natAbs) (hb : rsm b.natAbs) : PC prog 132 #[u, v] H fun r _ => r = .int .i64 (ordZ a b) := by
 obtain ⟨sa, sl, sc, rfl, hs⟩ := id hu
 obtain ⟨ta, tl, tc, rfl, ht⟩ := id hv
 refine BD func132 ntmps132 ?_
 try refine RUN ?_
 refine EVL.call rfl rfl rfl rfl rfl (refIntSub_pc hu hv ha hb) ?_
 rintro r G hr hG
 repeat (first | refine RUN ?_ | refine CV (refIntSign_pc hr) ?_ | refine CE (refIntSign_pc hr) ?_)
 congr 1
 unfold ordZ
 rcases Int.lt_trichotomy a b with h | h | h
 ·rw [if_pos h, Int.sign_eq_neg_one_of_neg (by omega)]
 ·rw [if_neg (by omega), if_neg (by omega), show a - b = 0 by omega]; rfl
 ·rw [if_neg (by omega), if_pos h, Int.sign_eq_one_of_pos (by omega)]
def RQ (H : Hp) (v : Value) (q : Rat) : Prop := ∃ a l c a' l' c', v = .agg #[.bool (decide (q.num < 0)), .slice a l c, .slice a' l' c'] ∧ RN H (.slice a l c) q.num.natAbs ∧ RN H (.slice a' l' c') q.den
theorem RQ.mono {H G : Hp} {v : Value} {q : Rat} (h : RQ H v q) (k : H.Le G) : RQ G v q := by
 obtain ⟨a, l, c, a', l', c', e, h1, h2⟩ := h; exact ⟨a, l, c, a', l', c', e, RN.mono h1 k, RN.mono h2 k⟩
def rq (q : Rat) : Prop := ht q ≤ 100000000
theorem rq.num {q : Rat} (h : rq q) : rsm q.num.natAbs := Nat.le_trans (bl_num_le q) (Nat.le_trans h (by omega))
theorem rq.den {q : Rat} (h : rq q) : rsm q.den := Nat.le_trans (bl_den_le q) (Nat.le_trans h (by omega))
theorem divInt_mk (n d : Int) (h : d ≠ 0) : Rat.divInt n d = mkRat (if d < 0 then -n else n) d.natAbs := by
 cases d with
 | ofNat m =>
  rw [if_neg (show ¬ Int.ofNat m < 0 from Int.not_lt.2 (Int.natCast_nonneg m))]
  rfl
 | negSucc m =>
  rw [if_pos (by omega)]
  show Rat.normalize (-n) (m + 1) (Nat.succ_ne_zero m) = _
  rw [Rat.normalize_eq_mkRat]; rfl
theorem make_eq (n d : Int) (h : d ≠ 0) : (Rat.divInt n d).num = sg (!(decide (n < 0) == decide (d < 0))) (n.natAbs / Nat.gcd n.natAbs d.natAbs) ∧ (Rat.divInt n d).den = d.natAbs / Nat.gcd n.natAbs d.natAbs := by
 rw [divInt_mk n d h]
 obtain ⟨h1, h2⟩ := rat_lowest (if d < 0 then -n else n) d.natAbs (by omega)
 have e : (if d < 0 then -n else n).natAbs = n.natAbs := by split <;> simp
 rw [e] at h1 h2
 refine ⟨?_, h2⟩
 rw [h1, part_eq _ _ (by rw [e]; exact Nat.gcd_dvd_left _ _), e]
 unfold sg
 rcases Int.lt_trichotomy n 0 with hn | hn | hn
 ·by_cases hd : d < 0
  ·rw [if_pos hd, if_neg (by omega), decide_eq_true hn, decide_eq_true hd]; rfl
  ·rw [if_neg hd, if_pos hn, decide_eq_true hn, decide_eq_false hd]; rfl
 ·subst hn
  by_cases hd : d < 0 <;> simp [hd]
 ·by_cases hd : d < 0
  ·rw [if_pos hd, if_pos (by omega), decide_eq_false (by omega), decide_eq_true hd]; rfl
  ·rw [if_neg hd, if_neg (by omega), decide_eq_false (by omega), decide_eq_false hd]; rfl
theorem refMake_pc {H : Hp} {u v : Value} {n d : Int} (hu : RI H u n) (hv : RI H v d) (hn : rsm n.natAbs) (hd : rsm d.natAbs) (h0 : d ≠ 0) : PC prog 118 #[u, v] H fun r H' => RQ H' r (Rat.divInt n d) := by
 obtain ⟨sa, sl, sc, rfl, hs⟩ := id hu
 obtain ⟨ta, tl, tc, rfl, ht⟩ := id hv
 obtain ⟨e1, e2⟩ := make_eq n d h0
 have hg : Nat.gcd n.natAbs d.natAbs ≠ 0 := fun e => h0 (by have := Nat.eq_zero_of_gcd_eq_zero_right e; omega)
 have hgs : rsm (Nat.gcd n.natAbs d.natAbs) := hd.le (Nat.gcd_le_right _ (by omega))
 refine BD func118 ntmps118 ?_
 try refine RUN ?_
 refine EVL.call rfl rfl rfl rfl rfl (refGcd_pc hs ht hn hd) ?_
 rintro g G1 hg1 hG1
 generalize Nat.gcd n.natAbs d.natAbs = gg at *
 try refine RUN ?_
 refine EVL.call rfl rfl rfl rfl rfl (refDiv_pc (RN.mono hs hG1) hg1 hn hgs hg) ?_
 rintro r G2 ⟨x, y, rfl, hx, hy⟩ hG2
 try refine RUN ?_
 refine EVL.call rfl rfl rfl rfl rfl (refDiv_pc (RN.mono ht (hG1.trans hG2)) (RN.mono hg1 hG2) hd hgs hg) ?_
 rintro r G3 ⟨x', y', rfl, hx', hy'⟩ hG3
 try refine RUN ?_
 refine EVL.neb rfl rfl rfl rfl rfl rfl (by kernel_rfl) ?_
 try refine RUN ?_
 refine EVL.call rfl rfl rfl rfl rfl (refI_pc (!(decide (n < 0) == decide (d < 0))) (RN.mono hx hG3)) ?_
 rintro r G4 ⟨ra, rl, rc, rfl, hr⟩ hG4
 obtain ⟨xa, xc, rfl⟩ := SlC.val hx'
 try refine RUN ?_
 rw [← e1] at *
 rw [← e2] at *
 exact ⟨ra, rl, rc, xa, _, xc, rfl, hr, RN.mono hx' hG4⟩
theorem refOf_pc {H : Hp} (z : Int) (h1 : -9223372036854775808 ≤ z) (h2 : z < 9223372036854775808) : PC prog 45 #[.int .i64 z] H fun r H' => RQ H' r (z : Rat) := by
 refine BD func45 ntmps45 ?_
 try refine RUN ?_
 refine EVL.call rfl rfl rfl rfl rfl (refIntOf_pc z h1 h2) ?_
 rintro r G ⟨ra, rl, rc, rfl, hr⟩ hG
 try refine RUN ?_
 refine EVL.call rfl rfl rfl rfl rfl (refNatOf_pc 1 (by decide) G) ?_
 rintro s G2 hs hG2
 obtain ⟨xa, xc, rfl⟩ := SlC.val hs
 try refine RUN ?_
 exact ⟨ra, rl, rc, xa, _, xc, rfl, RN.mono hr hG2, hs⟩
theorem refOver_pc {H : Hp} (n d : Int) (h1 : -9223372036854775808 ≤ n) (h2 : n < 9223372036854775808) (h3 : -9223372036854775808 ≤ d) (h4 : d < 9223372036854775808) (h0 : d ≠ 0) : PC prog 72 #[.int .i64 n, .int .i64 d] H fun r H' => RQ H' r (Rat.divInt n d) := by
 have hb : ∀ z : Int, -9223372036854775808 ≤ z → z < 9223372036854775808 → rsm z.natAbs := fun z h1 h2 => Nat.le_trans (bl_le (k := 64) (by omega)) (by omega)
 refine BD func72 ntmps72 ?_
 try refine RUN ?_
 refine EVL.call rfl rfl rfl rfl rfl (refIntOf_pc n h1 h2) ?_
 rintro r G hr hG
 try refine RUN ?_
 refine EVL.call rfl rfl rfl rfl rfl (refIntOf_pc d h3 h4) ?_
 rintro s G2 hs hG2
 try refine RUN ?_
 refine EVL.call rfl rfl rfl rfl rfl (refMake_pc (hr.mono hG2) hs (hb n h1 h2) (hb d h3 h4) h0) ?_
 rintro t G3 ⟨ra, rl, rc, xa, xl, xc, rfl, hn, hd⟩ hG3
 try refine RUN ?_
 exact ⟨ra, rl, rc, xa, xl, xc, rfl, hn, hd⟩
theorem refDen_pc {H : Hp} {v : Value} {q : Rat} (h : RQ H v q) : PC prog 129 #[v] H fun r H' => RI H' r (q.den : Int) := by
 obtain ⟨ra, rl, rc, xa, xl, xc, rfl, hn, hd⟩ := h
 have hi := refI_pc false hd
 rw [show sg false q.den = (q.den : Int) from rfl] at hi
 refine BD func129 ntmps129 ?_
 try refine RUN ?_
 refine EVL.call rfl rfl rfl rfl rfl (hi) ?_
 rintro r G ⟨ra, rl, rc, rfl, hr⟩ hG
 try refine RUN ?_
 exact ⟨ra, rl, rc, rfl, hr⟩
theorem RQ.rnum {H : Hp} {a : Option Addr} {l c : Nat} {q : Rat} (h : RN H (.slice a l c) q.num.natAbs) : RI H (.agg #[.bool (decide (q.num < 0)), .slice a l c]) q.num := ⟨a, l, c, rfl, h⟩
theorem rat_add_divInt (a b : Rat) : Rat.divInt (a.num * (b.den : Int) + b.num * (a.den : Int)) ((a.den * b.den : Nat) : Int) = a + b := by
 rw [Rat.add_def']; rfl
theorem rq_mul {a b : Rat} (ha : rq a) (hb : rq b) : rsm (a.num * (b.den : Int)).natAbs := by
 rw [Int.natAbs_mul, Int.natAbs_natCast]
 refine Nat.le_trans (bl_mul _ _) ?_
 have := bl_num_le a; have := bl_den_le b
 unfold rq at *; omega
theorem rq_mul2 {a b : Rat} (ha : rq a) (hb : rq b) : bl (a.num * (b.den : Int)).natAbs ≤ 200000000 := by
 rw [Int.natAbs_mul, Int.natAbs_natCast]
 refine Nat.le_trans (bl_mul _ _) ?_
 have := bl_num_le a; have := bl_den_le b
 unfold rq at *; omega
theorem refAdd_pc {H : Hp} {u v : Value} {a b : Rat} (hu : RQ H u a) (hv : RQ H v b) (ha : rq a) (hb : rq b) : PC prog 90 #[u, v] H fun r H' => RQ H' r (a + b) := by
 obtain ⟨sa, sl, sc, ta, tl, tc, rfl, hs, ht⟩ := id hu
 obtain ⟨sa', sl', sc', ta', tl', tc', rfl, hs', ht'⟩ := id hv
 have hdd : rsm (a.den * b.den) := by
  have := bl_den_le a; have := bl_den_le b; have := bl_mul a.den b.den
  unfold rq at ha hb; unfold rsm; omega
 have hsum : rsm (a.num * (b.den : Int) + b.num * (a.den : Int)).natAbs := by
  have := bl_natAbs_add (a.num * (b.den : Int)) (b.num * (a.den : Int)); have := rq_mul2 ha hb; have := rq_mul2 hb ha
  unfold rsm; omega
 have hne : ((a.den * b.den : Nat) : Int) ≠ 0 := by have := Nat.mul_ne_zero a.den_nz b.den_nz; omega
 have hres := rat_add_divInt a b
 refine BD func90 ntmps90 ?_
 try refine RUN ?_
 apply EV.drawn 18 (by kernel_rfl) (by kernel_rfl); intro xv yw
 (repeat (first | refine' DV ?_ | refine' DA ?_ | refine' DK0 ?_ | refine' DT ?_ | refine' DS ?_))
 refine' DJ.call rfl rfl rfl rfl rfl (cO func129) (fun G hG hd => refDen_pc (hv.mono hG)) (fun _ _ _ h k => RI.mono h k) ?_; rotate_left
 refine' DJ.call rfl rfl rfl rfl rfl (cO func128) (fun G hG hd => refIntMul_pc (RQ.rnum (RN.mono hs hG)) (hd.head (by kernel_rfl)) ha.num hb.den) (fun _ _ _ h k => RI.mono h k) ?_; rotate_left
 (repeat (first | refine' DV ?_ | refine' DA ?_ | refine' DK0 ?_ | refine' DT ?_ | refine' DS ?_))
 refine' DJ.call rfl rfl rfl rfl rfl (cO func129) (fun G hG hd => refDen_pc (hu.mono hG)) (fun _ _ _ h k => RI.mono h k) ?_; rotate_left
 refine' DJ.call rfl rfl rfl rfl rfl (cO func128) (fun G hG hd => refIntMul_pc (RQ.rnum (RN.mono hs' hG)) (hd.head (by kernel_rfl)) hb.num ha.den) (fun _ _ _ h k => RI.mono h k) ?_; rotate_left
 refine' DJ.call rfl rfl rfl rfl rfl (cO func133) (fun G hG hd => refIntAdd_pc (hd.tail.tail.head (by kernel_rfl)) (hd.head (by kernel_rfl)) (rq_mul ha hb) (rq_mul hb ha)) (fun _ _ _ h k => RI.mono h k) ?_; rotate_left
 (repeat (first | refine' DV ?_ | refine' DA ?_ | refine' DK0 ?_ | refine' DT ?_ | refine' DS ?_))
 refine' DJ.call rfl rfl rfl rfl rfl (cO func131) (fun G hG hd => refMul_pc (RN.mono ht hG) (RN.mono ht' hG) ha.den hb.den) (fun _ _ _ h k => RN.mono h k) ?_; rotate_left
 refine' DJ.call rfl rfl rfl rfl rfl (cO func130) (fun G hG hd => refI_pc false (hd.head (by kernel_rfl))) (fun _ _ _ h k => RI.mono h k) ?_; rotate_left
 refine' DJ.call rfl rfl rfl rfl rfl (cO func118) (fun G hG hd => refMake_pc (hd.tail.tail.head (by kernel_rfl)) (hd.head (by kernel_rfl)) hsum hdd hne) (fun _ _ _ h k => RQ.mono h k) ?_; rotate_left
 (refine DJ.nil (fun G hG hF => ?_); (case hS => rfl); (case hS2 => rfl))
 obtain ⟨⟨ra, rl, rc, xa, xl, xc, hr, h1, h2⟩, _⟩ := hF
 rw [hr]
 try refine RUN ?_
 rw [← hres]
 exact ⟨ra, rl, rc, xa, xl, xc, rfl, h1, h2⟩
theorem refNeg_pc {H : Hp} {u : Value} {a : Rat} (hu : RQ H u a) : PC prog 127 #[u] H fun r H' => RQ H' r (-a) := by
 obtain ⟨sa, sl, sc, ta, tl, tc, rfl, hs, ht⟩ := id hu
 refine BD func127 ntmps127 ?_
 try refine RUN ?_
 apply EV.drawn 5 (by kernel_rfl) (by kernel_rfl); intro xv yw
 (repeat (first | refine' DV ?_ | refine' DA ?_ | refine' DK0 ?_ | refine' DT ?_ | refine' DS ?_))
 refine' DJ.call rfl rfl rfl rfl rfl (cO func165) (fun G hG hd => refIntNeg_pc (RQ.rnum (RN.mono hs hG))) (fun _ _ _ h k => RI.mono h k) ?_; rotate_left
 (repeat (first | refine' DV ?_ | refine' DA ?_ | refine' DK0 ?_ | refine' DT ?_ | refine' DS ?_))
 (refine DJ.nil (fun G hG hF => ?_); (case hS => rfl); (case hS2 => rfl))
 obtain ⟨⟨ra, rl, rc, hr, h1⟩, _⟩ := hF
 rw [hr]
 try refine RUN ?_
 exact ⟨ra, rl, rc, ta, tl, tc, by rw [Rat.neg_num], by rw [Rat.neg_num]; exact h1, by rw [Rat.neg_den]; exact RN.mono ht hG⟩
theorem rq_neg {a : Rat} (h : rq a) : rq (-a) := by unfold rq; rw [ht_neg]; exact h
theorem refSub_pc {H : Hp} {u v : Value} {a b : Rat} (hu : RQ H u a) (hv : RQ H v b) (ha : rq a) (hb : rq b) : PC prog 83 #[u, v] H fun r H' => RQ H' r (a - b) := by
 obtain ⟨sa, sl, sc, ta, tl, tc, rfl, hs, ht⟩ := id hu
 obtain ⟨sa', sl', sc', ta', tl', tc', rfl, hs', ht'⟩ := id hv
 refine BD func83 ntmps83 ?_
 try refine RUN ?_
 apply EV.drawn 4 (by kernel_rfl) (by kernel_rfl); intro xv yw
 (repeat (first | refine' DV ?_ | refine' DA ?_ | refine' DK0 ?_ | refine' DT ?_ | refine' DS ?_))
 refine' DJ.call rfl rfl rfl rfl rfl (cO func127) (fun G hG hd => refNeg_pc (hv.mono hG)) (fun _ _ _ h k => RQ.mono h k) ?_; rotate_left
 refine' DJ.call rfl rfl rfl rfl rfl (cO func90) (fun G hG hd => refAdd_pc (hu.mono hG) (hd.head (by kernel_rfl)) ha (rq_neg hb)) (fun _ _ _ h k => RQ.mono h k) ?_; rotate_left
 (refine DJ.nil (fun G hG hF => ?_); (case hS => rfl); (case hS2 => rfl))
 obtain ⟨⟨ra, rl, rc, xa, xl, xc, hr, h1, h2⟩, _⟩ := hF
 rw [hr]
 try refine RUN ?_
 rw [Rat.sub_eq_add_neg]
 exact ⟨ra, rl, rc, xa, xl, xc, rfl, h1, h2⟩
theorem rq_dd {a b : Rat} (ha : rq a) (hb : rq b) : rsm (a.den * b.den) := by
 have := bl_den_le a; have := bl_den_le b; have := bl_mul a.den b.den
 unfold rq at ha hb; unfold rsm; omega
theorem rq_nn {a b : Rat} (ha : rq a) (hb : rq b) : rsm (a.num * b.num).natAbs := by
 rw [Int.natAbs_mul]
 have := bl_num_le a; have := bl_num_le b; have := bl_mul a.num.natAbs b.num.natAbs
 unfold rq at ha hb; unfold rsm; omega
theorem dd_ne (a b : Rat) : ((a.den * b.den : Nat) : Int) ≠ 0 := by have := Nat.mul_ne_zero a.den_nz b.den_nz; omega
theorem refMulQ_pc {H : Hp} {u v : Value} {a b : Rat} (hu : RQ H u a) (hv : RQ H v b) (ha : rq a) (hb : rq b) : PC prog 86 #[u, v] H fun r H' => RQ H' r (a * b) := by
 obtain ⟨sa, sl, sc, ta, tl, tc, rfl, hs, ht⟩ := id hu
 obtain ⟨sa', sl', sc', ta', tl', tc', rfl, hs', ht'⟩ := id hv
 have hres : Rat.divInt (a.num * b.num) ((a.den * b.den : Nat) : Int) = a * b := by rw [Rat.mul_def']; rfl
 refine BD func86 ntmps86 ?_
 try refine RUN ?_
 apply EV.drawn 12 (by kernel_rfl) (by kernel_rfl); intro xv yw
 (repeat (first | refine' DV ?_ | refine' DA ?_ | refine' DK0 ?_ | refine' DT ?_ | refine' DS ?_))
 refine' DJ.call rfl rfl rfl rfl rfl (cO func128) (fun G hG hd => refIntMul_pc (RQ.rnum (RN.mono hs hG)) (RQ.rnum (RN.mono hs' hG)) ha.num hb.num) (fun _ _ _ h k => RI.mono h k) ?_; rotate_left
 (repeat (first | refine' DV ?_ | refine' DA ?_ | refine' DK0 ?_ | refine' DT ?_ | refine' DS ?_))
 refine' DJ.call rfl rfl rfl rfl rfl (cO func131) (fun G hG hd => refMul_pc (RN.mono ht hG) (RN.mono ht' hG) ha.den hb.den) (fun _ _ _ h k => RN.mono h k) ?_; rotate_left
 refine' DJ.call rfl rfl rfl rfl rfl (cO func130) (fun G hG hd => refI_pc false (hd.head (by kernel_rfl))) (fun _ _ _ h k => RI.mono h k) ?_; rotate_left
 refine' DJ.call rfl rfl rfl rfl rfl (cO func118) (fun G hG hd => refMake_pc (hd.tail.tail.head (by kernel_rfl)) (hd.head (by kernel_rfl)) (rq_nn ha hb) (rq_dd ha hb) (dd_ne a b)) (fun _ _ _ h k => RQ.mono h k) ?_; rotate_left
 (refine DJ.nil (fun G hG hF => ?_); (case hS => rfl); (case hS2 => rfl))
 obtain ⟨⟨ra, rl, rc, xa, xl, xc, hr, h1, h2⟩, _⟩ := hF
 rw [hr]
 try refine RUN ?_
 rw [← hres]
 exact ⟨ra, rl, rc, xa, xl, xc, rfl, h1, h2⟩
theorem rat_div_divInt (a b : Rat) : Rat.divInt (a.num * (b.den : Int)) ((a.den : Int) * b.num) = a / b := by
 rw [← Rat.divInt_mul_divInt, Rat.num_divInt_den, Rat.div_def, Rat.inv_def]
theorem refDivQ_pc {H : Hp} {u v : Value} {a b : Rat} (hu : RQ H u a) (hv : RQ H v b) (ha : rq a) (hb : rq b) (h0 : b.num ≠ 0) : PC prog 85 #[u, v] H fun r H' => RQ H' r (a / b) := by
 obtain ⟨sa, sl, sc, ta, tl, tc, rfl, hs, ht⟩ := id hu
 obtain ⟨sa', sl', sc', ta', tl', tc', rfl, hs', ht'⟩ := id hv
 have hne : (a.den : Int) * b.num ≠ 0 := Int.mul_ne_zero (by have := a.den_nz; omega) h0
 have hdn : rsm ((a.den : Int) * b.num).natAbs := by rw [Int.mul_comm]; exact rq_mul hb ha
 refine BD func85 ntmps85 ?_
 try refine RUN ?_
 apply EV.drawn 11 (by kernel_rfl) (by kernel_rfl); intro xv yw
 (repeat (first | refine' DV ?_ | refine' DA ?_ | refine' DK0 ?_ | refine' DT ?_ | refine' DS ?_))
 refine' DJ.call rfl rfl rfl rfl rfl (cO func129) (fun G hG hd => refDen_pc (hv.mono hG)) (fun _ _ _ h k => RI.mono h k) ?_; rotate_left
 refine' DJ.call rfl rfl rfl rfl rfl (cO func128) (fun G hG hd => refIntMul_pc (RQ.rnum (RN.mono hs hG)) (hd.head (by kernel_rfl)) ha.num hb.den) (fun _ _ _ h k => RI.mono h k) ?_; rotate_left
 (repeat (first | refine' DV ?_ | refine' DA ?_ | refine' DK0 ?_ | refine' DT ?_ | refine' DS ?_))
 refine' DJ.call rfl rfl rfl rfl rfl (cO func129) (fun G hG hd => refDen_pc (hu.mono hG)) (fun _ _ _ h k => RI.mono h k) ?_; rotate_left
 (repeat (first | refine' DV ?_ | refine' DA ?_ | refine' DK0 ?_ | refine' DT ?_ | refine' DS ?_))
 refine' DJ.call rfl rfl rfl rfl rfl (cO func128) (fun G hG hd => refIntMul_pc (hd.head (by kernel_rfl)) (RQ.rnum (RN.mono hs' hG)) ha.den hb.num) (fun _ _ _ h k => RI.mono h k) ?_; rotate_left
 refine' DJ.call rfl rfl rfl rfl rfl (cO func118) (fun G hG hd => refMake_pc (hd.tail.tail.head (by kernel_rfl)) (hd.head (by kernel_rfl)) (rq_mul ha hb) hdn hne) (fun _ _ _ h k => RQ.mono h k) ?_; rotate_left
 (refine DJ.nil (fun G hG hF => ?_); (case hS => rfl); (case hS2 => rfl))
 obtain ⟨⟨ra, rl, rc, xa, xl, xc, hr, h1, h2⟩, _⟩ := hF
 rw [hr]
 try refine RUN ?_
 rw [← rat_div_divInt]
 exact ⟨ra, rl, rc, xa, xl, xc, rfl, h1, h2⟩
theorem refCmp_pc {H : Hp} {u v : Value} {a b : Rat} (hu : RQ H u a) (hv : RQ H v b) (ha : rq a) (hb : rq b) : PC prog 88 #[u, v] H fun r _ => r = .int .i64 (ordR a b) := by
 obtain ⟨sa, sl, sc, ta, tl, tc, rfl, hs, ht⟩ := id hu
 obtain ⟨sa', sl', sc', ta', tl', tc', rfl, hs', ht'⟩ := id hv
 refine BD func88 ntmps88 ?_
 try refine RUN ?_
 apply EV.drawn 11 (by kernel_rfl) (by kernel_rfl); intro xv yw
 (repeat (first | refine' DV ?_ | refine' DA ?_ | refine' DK0 ?_ | refine' DT ?_ | refine' DS ?_))
 refine' DJ.call rfl rfl rfl rfl rfl (cO func129) (fun G hG hd => refDen_pc (hv.mono hG)) (fun _ _ _ h k => RI.mono h k) ?_; rotate_left
 refine' DJ.call rfl rfl rfl rfl rfl (cO func128) (fun G hG hd => refIntMul_pc (RQ.rnum (RN.mono hs hG)) (hd.head (by kernel_rfl)) ha.num hb.den) (fun _ _ _ h k => RI.mono h k) ?_; rotate_left
 (repeat (first | refine' DV ?_ | refine' DA ?_ | refine' DK0 ?_ | refine' DT ?_ | refine' DS ?_))
 refine' DJ.call rfl rfl rfl rfl rfl (cO func129) (fun G hG hd => refDen_pc (hu.mono hG)) (fun _ _ _ h k => RI.mono h k) ?_; rotate_left
 refine' DJ.call rfl rfl rfl rfl rfl (cO func128) (fun G hG hd => refIntMul_pc (RQ.rnum (RN.mono hs' hG)) (hd.head (by kernel_rfl)) hb.num ha.den) (fun _ _ _ h k => RI.mono h k) ?_; rotate_left
 refine' DJ.callS rfl rfl rfl rfl rfl (cO func132) (fun G hG hd => refIntCmp_pc (hd.tail.tail.head (by kernel_rfl)) (hd.head (by kernel_rfl)) (rq_mul ha hb) (rq_mul hb ha)) ?_; rotate_left
 (refine DJ.nil (fun G hG hF => ?_); (case hS => rfl); (case hS2 => rfl))
 try refine RUN ?_
 rw [ordR_eq]
def Wn (cs : List Value) (off : Nat) (l : List Nat) : Prop := off + l.length ≤ cs.length ∧ ∀ j, j < l.length → cs[off + j]? = some (n64 (l.getD j 0))
theorem Wn.of (l : List Nat) : Wn (l.map n64) 0 l := ⟨by simp, fun j hj => by rw [Nat.zero_add]; exact map_at hj⟩
theorem Wn.take {cs : List Value} {off : Nat} {l : List Nat} (h : Wn cs off l) (k : Nat) : Wn cs off (l.take k) := by
 refine ⟨by have := h.1; rw [List.length_take]; omega, fun j hj => ?_⟩
 rw [List.length_take] at hj
 rw [h.2 j (by omega), getD_take, if_pos (by omega)]
theorem Wn.drop {cs : List Value} {off : Nat} {l : List Nat} (h : Wn cs off l) (k : Nat) (hk : k ≤ l.length) : Wn cs (off + k) (l.drop k) := by
 refine ⟨by have := h.1; rw [List.length_drop]; omega, fun j hj => ?_⟩
 rw [List.length_drop] at hj
 rw [Nat.add_assoc, h.2 (k + j) (by omega), getD_drop]
theorem Wn.set {cs : List Value} {off : Nat} {l : List Nat} (h : Wn cs off l) (k x : Nat) (hk : k < l.length) : Wn (cs.set (off + k) (n64 x)) off (l.set k x) := by
 refine ⟨by rw [List.length_set, List.length_set]; exact h.1, fun j hj => ?_⟩
 rw [List.length_set] at hj
 by_cases e : k = j
 ·subst e
  rw [List.getElem?_set_self (by have := h.1; omega), getD_set_eq _ _ _ hk]
 ·rw [List.getElem?_set_ne (by omega), getD_set_ne _ _ _ _ (Ne.symm e)]; exact h.2 j hj
theorem slc_pre (b off n cap : Nat) (hc : cap ≠ 0) : Value.slice (if cap = 0 then some ⟨b, off, none⟩ else (some (⟨b, off, none⟩ : Addr)).map (·.add (0 * 1))) (n - 0) (cap - 0) = .slice (some ⟨b, off, none⟩) n cap := by
 rw [if_neg hc]; simp [Addr.add_mid]
theorem slc_suf (b off k m cap : Nat) (hc : k < cap) : Value.slice (if cap = k then some ⟨b, off, none⟩ else (some (⟨b, off, none⟩ : Addr)).map (·.add (k * 1))) (m - k) (cap - k) = .slice (some ⟨b, off + k, none⟩) (m - k) (cap - k) := by
 rw [if_neg (by omega)]; simp [Addr.add_mid]
theorem wtrim_pw {H : Hp} {b off cap : Nat} {T : TypeId} {cs : List Value} {l : List Nat} (hw : Wn cs off l) (hc : l.length ≤ cap) (hl : l.length ≤ 1000000000) :
  PW prog 177 #[.slice (some ⟨b, off, none⟩) l.length cap] H [(b, T, cs)] fun v ow _ => ow = [(b, T, cs)] ∧ v = .slice (some ⟨b, off, none⟩) (trimL l).length cap := by
 refine PW.body tO func177 rfl (by kernel_rfl) ntmps177 rfl rfl ?_
 try refine RUN ?_
 refine EV.loop (ι := Nat) (fun n => [(0, .v (.slice (some ⟨b, off, none⟩) n cap))]) (fun _ => []) (fun _ => [(b, T, cs)])
  (fun n _ => n ≤ l.length ∧ trimL (l.take n) = trimL l) (fun n => n) l.length ⟨rfl, trivial⟩ trivial rfl (fun _ => rfl) ⟨Nat.le_refl _, by rw [List.take_length]⟩ ?_
 rintro n G hG ⟨hn, ht⟩
 have fin : trimL (l.take n) = l.take n → (trimL l).length = n := fun e => by rw [← ht, e, List.length_take]; omega
 try refine RUN ?_
 by_cases h0 : n = 0
 ·subst h0
  rw [show decide (((0 : Nat) : Int) > 0) = false from rfl]
  try refine RUN ?_
  rw [fin (by simp [trimL])]
  exact ⟨rfl, rfl⟩
 ·rw [show decide ((n : Int) > 0) = true by simp; omega]
  have hsnoc : l.take n = l.take (n - 1) ++ [l.getD (n - 1) 0] := by
   have := List.take_succ_eq_append_getElem (show n - 1 < l.length by omega)
   rw [show n - 1 + 1 = n by omega] at this
   rw [this, List.getD_eq_getElem?_getD, List.getElem?_eq_getElem (show n - 1 < l.length by omega)]; rfl
  try refine RUN ?_
  refine EVL.asI (((n - 1 : Nat) : Int)) (wi_dec n (by omega) (by omega)) ?_
  refine EVL.idxO tO rfl rfl rfl rfl rfl rfl rfl rfl rfl rfl (n - 1) (rfl) (by omega) ?_
  refine EVL.load1 tO rfl rfl rfl rfl rfl rfl rfl rfl (0) rfl (hw.2 (n - 1) (by omega)) ?_
  try refine RUN ?_
  by_cases hz : l.getD (n - 1) 0 = 0
  ·rw [hz, show (((0 : Nat) : Int) == 0) = true from rfl]
   try refine RUN ?_
   refine EVL.asI (((n - 1 : Nat) : Int)) (wi_dec n (by omega) (by omega)) ?_
   refine EVL.slc tO rfl rfl rfl rfl rfl rfl rfl rfl 0 (n - 1) (.inl ⟨rfl, rfl⟩) (.inr ⟨_, IntKind.i64, rfl, rfl⟩) (Nat.zero_le _) (by omega) (by omega) ?_
   refine EVL.as (congrArg SV.v (slc_pre b off (n - 1) cap (by omega))) ?_
   try refine RUN ?_
   exact ⟨n - 1, ⟨rfl, trivial⟩, trivial, rfl, ⟨by omega, by rw [← ht, hsnoc, hz, trimL_snoc_zero]⟩, Hp.Le.refl _, by omega⟩
  ·rw [show (((l.getD (n - 1) 0 : Nat) : Int) == 0) = false by simpa using hz]
   try refine RUN ?_
   rw [fin (by rw [hsnoc, trimL_snoc_ne _ _ hz])]
   exact ⟨rfl, rfl⟩
theorem wcompare_pw {H : Hp} {b off cap b' off' cap' : Nat} {T T' : TypeId} {cs cs' : List Value} {l m : List Nat} (hw : Wn cs off l) (hw' : Wn cs' off' m) (hl : Norm W64 l) (hm : Norm W64 m) (hll : l.length ≤ 1000000000) :
  PW prog 148 #[.slice (some ⟨b, off, none⟩) l.length cap, .slice (some ⟨b', off', none⟩) m.length cap'] H [(b, T, cs), (b', T', cs')] fun v ow _ => ow = [(b, T, cs), (b', T', cs')] ∧ v = .int .i64 (ordN (val W64 l) (val W64 m)) := by
 refine PW.body tO func148 rfl (by kernel_rfl) ntmps148 rfl rfl ?_
 try refine RUN ?_
 by_cases he : l.length = m.length
 ·rw [show (((l.length : Nat) : Int) != (m.length : Int)) = false by simp [he]]
  try refine RUN ?_
  refine EV.loop (ι := Nat) (fun n => [(0, .v (.slice (some ⟨b, off, none⟩) l.length cap)), (1, .v (.slice (some ⟨b', off', none⟩) m.length cap')), (5, .v (.int .i64 ((n : Int) - 1)))]) (fun _ => []) (fun _ => [(b, T, cs), (b', T', cs')])
   (fun n _ => n ≤ l.length ∧ l.drop n = m.drop n) (fun n => n) l.length ⟨rfl, rfl, ?_, trivial⟩ trivial rfl (fun _ => rfl) ⟨Nat.le_refl _, by rw [List.drop_of_length_le (Nat.le_refl _), List.drop_of_length_le (by omega)]⟩ ?_
  ·rw [show IntKind.i64.wrap ((l.length : Int) - 1) = (l.length : Int) - 1 by rw [IntKind.wrap_i64]; omega]; rfl
  rintro n G hG ⟨hn, hd⟩
  try refine RUN ?_
  by_cases h0 : n = 0
  ·subst h0
   rw [show decide ((((0 : Nat) : Int) - 1) ≥ 0) = false from rfl]
   try refine RUN ?_
   rw [List.drop_zero, List.drop_zero] at hd
   subst hd
   exact ⟨rfl, by rw [ordN_eq rfl]⟩
  ·rw [show decide (((n : Int) - 1) ≥ 0) = true by simp; omega]
   have hx := hw.2 (n - 1) (by omega)
   have hy := hw'.2 (n - 1) (by omega)
   have hvo := val_ord (l := l) (m := m) (n - 1) hl.1 hm.1 he (by omega) (by rw [show n - 1 + 1 = n by omega]; exact hd)
   have hdx := val_drop 0 l (n - 1)
   have hdl : l.drop (n - 1) = l.getD (n - 1) 0 :: l.drop n := by
    rw [List.drop_eq_getElem_cons (show n - 1 < l.length by omega), List.getD_eq_getElem?_getD, List.getElem?_eq_getElem (show n - 1 < l.length by omega), show n - 1 + 1 = n by omega]; rfl
   have hdm : m.drop (n - 1) = m.getD (n - 1) 0 :: m.drop n := by
    rw [List.drop_eq_getElem_cons (show n - 1 < m.length by omega), List.getD_eq_getElem?_getD, List.getElem?_eq_getElem (show n - 1 < m.length by omega), show n - 1 + 1 = n by omega]; rfl
   generalize l.getD (n - 1) 0 = u at *
   generalize m.getD (n - 1) 0 = w at *
   try refine RUN ?_
   apply EV.drawn 9 (by kernel_rfl) (by kernel_rfl); intro xv yw
   (repeat (first | refine' DV ?_ | refine' DA ?_ | refine' DK0 ?_ | refine' DT ?_ | refine' DS ?_))
   refine' DJ.ofVal (ValOk.idxO tO rfl rfl rfl rfl rfl rfl rfl rfl (n - 1) (by omega) (by omega)) rfl rfl rfl ?_; rotate_left
   refine' DJ.ofVal (ValOk.load1 tO rfl rfl rfl rfl rfl rfl (0) rfl (hx)) rfl rfl rfl ?_; rotate_left
   (repeat (first | refine' DV ?_ | refine' DA ?_ | refine' DK0 ?_ | refine' DT ?_ | refine' DS ?_))
   refine' DJ.ofVal (ValOk.idxO tO rfl rfl rfl rfl rfl rfl rfl rfl (n - 1) (by omega) (by omega)) rfl rfl rfl ?_; rotate_left
   refine' DJ.ofVal (ValOk.load1 tO rfl rfl rfl rfl rfl rfl (1) rfl (hy)) rfl rfl rfl ?_; rotate_left
   (repeat (first | refine' DV ?_ | refine' DA ?_ | refine' DK0 ?_ | refine' DT ?_ | refine' DS ?_))
   (refine DJ.nil (fun G hG hF => ?_); (case hS => rfl); (case hS2 => rfl))
   try refine RUN ?_
   by_cases hxy : u = w
   ·subst hxy
    rw [show (((u : Nat) : Int) != (u : Int)) = false by simp]
    try refine RUN ?_
    refine ⟨n - 1, ⟨rfl, rfl, ?_, trivial⟩, trivial, rfl, ⟨by omega, by rw [hdl, hdm, hd]⟩, hG, by omega⟩
    rw [show IntKind.i64.wrap ((n : Int) - 1 - 1) = ((n - 1 : Nat) : Int) - 1 by rw [IntKind.wrap_i64]; omega]; rfl
   ·rw [show (((u : Nat) : Int) != (w : Int)) = true by simp; omega]
    have ho := hvo hxy
    try refine RUN ?_
    apply EV.drawn 9 (by kernel_rfl) (by kernel_rfl); intro xv yw
    (repeat (first | refine' DV ?_ | refine' DA ?_ | refine' DK0 ?_ | refine' DT ?_ | refine' DS ?_))
    refine' DJ.ofVal (ValOk.idxO tO rfl rfl rfl rfl rfl rfl rfl rfl (n - 1) (by omega) (by omega)) rfl rfl rfl ?_; rotate_left
    refine' DJ.ofVal (ValOk.load1 tO rfl rfl rfl rfl rfl rfl (0) rfl (hx)) rfl rfl rfl ?_; rotate_left
    (repeat (first | refine' DV ?_ | refine' DA ?_ | refine' DK0 ?_ | refine' DT ?_ | refine' DS ?_))
    refine' DJ.ofVal (ValOk.idxO tO rfl rfl rfl rfl rfl rfl rfl rfl (n - 1) (by omega) (by omega)) rfl rfl rfl ?_; rotate_left
    refine' DJ.ofVal (ValOk.load1 tO rfl rfl rfl rfl rfl rfl (1) rfl (hy)) rfl rfl rfl ?_; rotate_left
    (repeat (first | refine' DV ?_ | refine' DA ?_ | refine' DK0 ?_ | refine' DT ?_ | refine' DS ?_))
    (refine DJ.nil (fun G hG hF => ?_); (case hS => rfl); (case hS2 => rfl))
    try refine RUN ?_
    rw [ho]
    by_cases hlt : u < w
    ·rw [lt_dec u w hlt, ordN_lt hlt]
     try refine RUN ?_
     exact ⟨rfl, rfl⟩
    ·rw [lt_dec' u w hlt, ordN_gt (by omega)]
     try refine RUN ?_
     exact ⟨rfl, rfl⟩
 ·rw [show (((l.length : Nat) : Int) != (m.length : Int)) = true by simp; omega]
  try refine RUN ?_
  by_cases hlt : l.length < m.length
  ·rw [lt_dec _ _ hlt, ordN_lt (len_less W64_two hl.1 hm hlt)]
   try refine RUN ?_
   exact ⟨rfl, rfl⟩
  ·rw [lt_dec' _ _ hlt, ordN_gt (len_less W64_two hm.1 hl (by omega))]
   try refine RUN ?_
   exact ⟨rfl, rfl⟩
theorem wsubtract_pw {H : Hp} {b off cap b' off' cap' : Nat} {T T' : TypeId} {cs cs' : List Value} {l m : List Nat} (hw : Wn cs off l) (hw' : Wn cs' off' m) (hl : Dig W64 l) (hm : Dig W64 m) (hll : l.length ≤ 1000000000) (hml : m.length ≤ l.length) (hc : l.length ≤ cap) (hge : val W64 m ≤ val W64 l) :
  PW prog 149 #[.slice (some ⟨b, off, none⟩) l.length cap, .slice (some ⟨b', off', none⟩) m.length cap'] H [(b, T, cs), (b', T', cs')] fun v ow _ => ∃ cs1 r, ow = [(b, T, cs1), (b', T', cs')] ∧ Wn cs1 off r ∧ Norm W64 r ∧ r.length ≤ l.length ∧ v = .slice (some ⟨b, off, none⟩) r.length cap ∧ val W64 r = val W64 l - val W64 m := by
 refine PW.body tO func149 rfl (by kernel_rfl) ntmps149 rfl rfl ?_
 try refine RUN ?_
 refine EV.loop (ι := Nat × Nat × List Nat × List Value) (fun q => [(0, .v (.slice (some ⟨b, off, none⟩) l.length cap)), (1, .v (.slice (some ⟨b', off', none⟩) m.length cap')), (5, .v (n64 q.2.1)), (9, .v (.int .i64 (l.length : Int))), (10, .v (.int .i64 (q.1 : Int)))]) (fun _ => []) (fun q => [(b, T, q.2.2.2), (b', T', cs')])
  (fun q _ => q.1 ≤ l.length ∧ SubInv l m q.2.2.1 q.1 q.2.1 ∧ Wn q.2.2.2 off q.2.2.1) (fun q => l.length - q.1) (0, 0, l, cs) ⟨rfl, rfl, rfl, rfl, rfl, trivial⟩ trivial rfl (fun _ => rfl) ⟨Nat.zero_le _, ⟨rfl, hl, fun _ _ => rfl, by simp [val], Nat.zero_le _⟩, hw⟩ ?_
 rintro ⟨i, c, cur, cu⟩ G hG ⟨hi, hinv, hcu⟩
 dsimp only at hi hinv hcu
 try refine RUN ?_
 by_cases hlt : i < l.length
 ·rw [lt_dec _ _ hlt]
  have hil : i < cur.length := by rw [hinv.len]; exact hlt
  have hcx := hcu.2 i hil
  try refine RUN ?_
  refine EV.meet (fun env' bx' H' => SubL env' [(0, .v (.slice (some ⟨b, off, none⟩) l.length cap)), (1, .v (.slice (some ⟨b', off', none⟩) m.length cap')), (5, .v (n64 c)), (6, .v (.int .i64 (i : Int))), (7, .v (n64 (m.getD i 0))), (9, .v (.int .i64 (l.length : Int))), (10, .v (.int .i64 (i : Int)))] ∧ H' = ⟨G, [(b, T, cu), (b', T', cs')], ⟨H, [b, b']⟩⟩) ?_ ?_
  ·rintro env' bx' H' _ ⟨he, rfl⟩
   refine EV.less _ [] he trivial rfl ?_
   try refine RUN ?_
   refine EVL.idxO tO rfl rfl rfl rfl rfl rfl rfl rfl rfl rfl (i) (rfl) (hlt) ?_
   refine EVL.load1 tO rfl rfl rfl rfl rfl rfl rfl rfl (0) rfl (hcx) ?_
   try refine RUN ?_
   refine EVL.ext rfl rfl rfl rfl rfl (fun W => sub64_run (cur.getD i 0) (m.getD i 0) c W hinv.carry) ?_
   try refine RUN ?_
   refine EVL.idxO tO rfl rfl rfl rfl rfl rfl rfl rfl rfl rfl (i) (rfl) (hlt) ?_
   refine EVL.setO tO rfl rfl rfl rfl rfl rfl rfl ([]) rfl rfl rfl ((by have := hcu.1; omega)) ?_
   try refine RUN ?_
   refine ⟨(i + 1, subHi (cur.getD i 0) (m.getD i 0) c, cur.set i (subLo (cur.getD i 0) (m.getD i 0) c), cu.set (off + i) (n64 (subLo (cur.getD i 0) (m.getD i 0) c))), ⟨rfl, rfl, rfl, rfl, ?_, trivial⟩, trivial, rfl, ⟨by dsimp only; omega, hinv.step hlt hm, hcu.set i _ hil⟩, Hp.Le.refl _, by dsimp only; omega⟩
   rw [wi_inc i (by omega)]; rfl
  ·by_cases hlm : i < m.length
   ·rw [lt_dec _ _ hlm]
    try refine RUN ?_
    refine EVL.idxO tO rfl rfl rfl rfl rfl rfl rfl rfl rfl rfl (i) (rfl) (hlm) ?_
    refine EVL.load1 tO rfl rfl rfl rfl rfl rfl rfl rfl (1) rfl (hw'.2 i hlm) ?_
    try refine RUN ?_
    exact ⟨⟨rfl, rfl, rfl, rfl, rfl, rfl, rfl, trivial⟩, rfl⟩
   ·rw [lt_dec' _ _ hlm]
    try refine RUN ?_
    refine ⟨⟨rfl, rfl, rfl, rfl, ?_, rfl, rfl, trivial⟩, rfl⟩
    rw [show m.getD i 0 = 0 by simp [Nat.not_lt.1 hlm]]
    rfl
 ·rw [lt_dec' _ _ hlt]
  obtain rfl : i = l.length := by omega
  have hfin := hinv.sum
  have hlen := hinv.len
  rw [List.take_of_length_le (by omega), List.take_of_length_le (Nat.le_refl _), List.take_of_length_le (by omega)] at hfin
  have hlt2 := val_lt hinv.dig
  rw [hlen] at hlt2
  have hc0 : c = 0 := by
   have := hinv.carry
   rcases Nat.eq_zero_or_pos c with e | e
   ·exact e
   ·exfalso
    have h1 : c = 1 := by omega
    rw [h1, Nat.one_mul] at hfin
    have h2 := val_lt hm
    have h3 : W64 ^ m.length ≤ W64 ^ l.length := Nat.pow_le_pow_right (by decide) hml
    omega
  rw [hc0, Nat.zero_mul, Nat.add_zero] at hfin
  try refine RUN ?_
  have ht := wtrim_pw (H := G) (b := b) (T := T) (cap := cap) hcu (by omega) (by omega)
  rw [hlen] at ht
  refine EVL.callW rfl rfl rfl rfl rfl ([(b, T, cu)]) ([(b', T', cs')]) rfl (ht) ?_
  rintro v ow H' ⟨rfl, rfl⟩ hle
  try refine RUN ?_
  refine ⟨cu, trimL cur, rfl, ?_, trimL_norm hinv.dig, ?_, rfl, ?_⟩
  ·have := hcu.take (trimL cur).length
   rwa [trimL_take] at this
  ·have := trimL_length_le cur; omega
  ·rw [trimL_val]; omega
end Go.Proofs.YtejljnlfgiifoaaGreatDoor
namespace Go.Proofs.YtejljnlfgiifoaaGreatDoor
open Go.RowKit
def Tryz.lays7n29_ren : Go.Shelf.Ren := ⟨fun | 29 => 176 | n => n, fun | 0 => 0 | 3 => 3 | 4 => 4 | 5 => 5 | 22 => 23 | 25 => 179 | 54 => 235 | n => n, fun | 1 => 2 | n => n⟩
theorem Tryz.lays7n29 : Go.Proofs.Lays7.n29 Tryz.prog Tryz.lays7n29_ren := {
 mixed := by kernel_rfl
 f29 := Tryz.func176.trans (congrArg some (by kernel_rfl))
 t0 := by kernel_rfl
 a0 := fun _ => by kernel_rfl
 z0 := fun _ => by kernel_rfl
 v0 := fun _ => by kernel_rfl
 i0 := by kernel_rfl
 t3 := by kernel_rfl
 a3 := fun _ => by kernel_rfl
 z3 := fun _ => by kernel_rfl
 v3 := fun _ => by kernel_rfl
 i3 := by kernel_rfl
 t4 := by kernel_rfl
 a4 := fun _ => by kernel_rfl
 z4 := fun _ => by kernel_rfl
 v4 := fun _ => by kernel_rfl
 i4 := by kernel_rfl
 t5 := by kernel_rfl
 a5 := fun _ => by kernel_rfl
 z5 := fun _ => by kernel_rfl
 v5 := fun _ => by kernel_rfl
 i5 := by kernel_rfl
 t22 := by kernel_rfl
 a22 := fun _ => by kernel_rfl
 z22 := fun _ => by kernel_rfl
 v22 := fun _ => by kernel_rfl
 i22 := by kernel_rfl
 t25 := by kernel_rfl
 a25 := fun _ => by kernel_rfl
 z25 := fun _ => by kernel_rfl
 v25 := fun _ => by kernel_rfl
 i25 := by kernel_rfl
 t54 := by kernel_rfl
 a54 := fun _ => by kernel_rfl
 z54 := fun _ => by kernel_rfl
 g1 := by kernel_rfl }
theorem tz_pv (x : Nat) (hx : x < W64) : PV Tryz.prog 176 #[n64 x] (.int .i64 (Lib.ctz 64 x : Int)) := by
 refine ⟨(cO Tryz.func176), fun W hg => ?_⟩
 refine (Any7.bits_TrailingZeros64 Tryz.lays7n29 x hx W (fun _ j hj => ?_)).mono fun e W' ⟨he, hW⟩ => ⟨he, by rw [hW]; exact Below.refl _ _⟩
 have hgH : gH 2 = some (Lib.deBruijn64tab.map fun (z : Nat) => Value.int .u8 (z : Int)).toArray := by unfold gH; rw [Nat.beq_refl]
 obtain ⟨T, fz, hc⟩ := hg _ _ hgH
 have := cell_of_row W 2 j _ T fz hc
 refine this.trans ?_
 simp only [List.getElem?_toArray, List.getElem?_map, List.getD_eq_getElem?_getD, List.getElem?_eq_getElem hj]
 rfl
end Go.Proofs.YtejljnlfgiifoaaGreatDoor
namespace Go.Proofs.YtejljnlfgiifoaaGreatDoor
open Go.RowKit _root_.Go.Proofs.Tryz
theorem wzeros_pw {H : Hp} {b off cap : Nat} {T : TypeId} {cs : List Value} {l : List Nat} (hw : Wn cs off l) (hl : Dig W64 l) (hll : l.length ≤ 100000000) (h0 : val W64 l ≠ 0) :
  PW prog 146 #[.slice (some ⟨b, off, none⟩) l.length cap] H [(b, T, cs)] fun v ow _ => ow = [(b, T, cs)] ∧ ∃ z m : Nat, v = .int .i64 (z : Int) ∧ val W64 l = 2 ^ z * m ∧ m % 2 = 1 ∧ z < 64 * l.length := by
 refine PW.body tO func146 rfl (by kernel_rfl) ntmps146 rfl rfl ?_
 try refine RUN ?_
 refine EV.loop (ι := Nat) (fun i => [(0, .v (.slice (some ⟨b, off, none⟩) l.length cap)), (3, .v (.int .i64 (i : Int)))]) (fun _ => []) (fun _ => [(b, T, cs)])
  (fun i _ => ∀ j, j < i → l.getD j 0 = 0) (fun i => l.length - i) 0 ⟨rfl, rfl, trivial⟩ trivial rfl (fun _ => rfl) (fun j hj => absurd hj (Nat.not_lt_zero _)) ?_
 rintro i G hG hz
 have hi : i < l.length := by
  refine Nat.lt_of_not_le fun h => h0 ?_
  have := val_take_zero (B := W64) i hz
  rwa [List.take_of_length_le h] at this
 have hx := hw.2 i hi
 try refine RUN ?_
 refine EVL.idxO tO rfl rfl rfl rfl rfl rfl rfl rfl rfl rfl (i) (rfl) (hi) ?_
 refine EVL.load1 tO rfl rfl rfl rfl rfl rfl rfl rfl (0) rfl (hx) ?_
 try refine RUN ?_
 by_cases hxz : l.getD i 0 = 0
 ·rw [hxz, show (((0 : Nat) : Int) == 0) = true from rfl]
  try refine RUN ?_
  refine ⟨i + 1, ⟨rfl, ?_, trivial⟩, trivial, rfl, fun j hj => ?_, Hp.Le.refl _, by omega⟩
  ·rw [wi_inc i (by omega)]; rfl
  ·by_cases e : j = i
   ·subst e; exact hxz
   ·exact hz j (by omega)
 ·rw [show (((l.getD i 0 : Nat) : Int) == 0) = false by simpa using hxz]
  obtain ⟨m, hv, hm, hc⟩ := zeros_val hl hz hxz
  have htz := tz_pv (l.getD i 0) (hl.getD (by decide) i)
  try refine RUN ?_
  refine EVL.idxO tO rfl rfl rfl rfl rfl rfl rfl rfl rfl rfl (i) (rfl) (hi) ?_
  refine EVL.load1 tO rfl rfl rfl rfl rfl rfl rfl rfl (0) rfl (hx) ?_
  repeat (first | refine RUN ?_ | refine CV (htz) ?_ | refine CE (htz) ?_)
  refine ⟨rfl, 64 * i + Lib.ctz 64 (l.getD i 0), m, ?_, hv, hm, by omega⟩
  rw [show IntKind.i64.wrap (64 * (i : Int)) = ((64 * i : Nat) : Int) from wi_mul 64 i (by omega), wi_add _ _ (by omega)]
theorem take_set_drop {α : Type} (s m : List α) (i : Nat) (h : i < s.length) (hl : s.length = m.length) : (s.take i ++ m.drop i).set i s[i] = s.take (i + 1) ++ m.drop (i + 1) := by
 have hm : i < m.length := by omega
 rw [List.set_append_right _ _ (by rw [List.length_take]; omega), List.length_take, Nat.min_eq_left (by omega), Nat.sub_self, List.drop_eq_getElem_cons hm, List.set_cons_zero, List.take_succ_eq_append_getElem h, List.append_assoc]; rfl
theorem mix_getD (s m : List Nat) (i j : Nat) (hl : s.length = m.length) (h : i ≤ j) : (s.take i ++ m.drop i).getD j 0 = m.getD j 0 := by
 by_cases hi : i ≤ s.length
 ·rw [List.getD_eq_getElem?_getD, List.getElem?_append_right (by rw [List.length_take]; omega), List.length_take, Nat.min_eq_left hi, List.getElem?_drop, show i + (j - i) = j by omega, ← List.getD_eq_getElem?_getD]
 ·rw [List.getD_eq_getElem?_getD, List.getElem?_eq_none (by simp; omega), List.getD_eq_getElem?_getD, List.getElem?_eq_none (by omega)]
theorem wdown_pw {H : Hp} {b off cap : Nat} {T : TypeId} {cs : List Value} {l : List Nat} (hw : Wn cs off l) (hl : Dig W64 l) (hll : l.length ≤ 100000000) (hc : l.length ≤ cap) (h0 : val W64 l ≠ 0) :
  PW prog 147 #[.slice (some ⟨b, off, none⟩) l.length cap] H [(b, T, cs)] fun v ow _ => ∃ cs1 off1 cap1 r z, ow = [(b, T, cs1)] ∧ Wn cs1 off1 r ∧ Norm W64 r ∧ r.length ≤ l.length ∧ r.length ≤ cap1 ∧ v = .slice (some ⟨b, off1, none⟩) r.length cap1 ∧ val W64 l = 2 ^ z * val W64 r ∧ val W64 r % 2 = 1 := by
 refine PW.body tO func147 rfl (by kernel_rfl) ntmps147 rfl rfl ?_
 try refine RUN ?_
 refine EVL.callW rfl rfl rfl rfl rfl ([(b, T, cs)]) ([]) rfl (wzeros_pw hw hl hll h0) ?_
 rintro v ow H' ⟨rfl, z, m, rfl, hv, hm, hz⟩ hle
 have hz0 : z / 64 < l.length := by omega
 try refine RUN ?_
 refine EVL.asI (((z / 64 : Nat) : Int)) (wi_quo z 64 (by omega)) ?_
 try refine RUN ?_
 refine EVL.slc tO rfl rfl rfl rfl rfl rfl rfl rfl (z / 64) l.length (.inr ⟨_, IntKind.i64, rfl, rfl⟩) (.inl ⟨rfl, rfl⟩) (by omega) hc hc ?_
 refine EVL.as (congrArg SV.v (slc_suf b off (z / 64) l.length cap (by omega))) ?_
 try refine RUN ?_
 rw [show (z : Int).tmod 64 = ((z % 64 : Nat) : Int) from wi_rem z 64]
 generalize hq : z / 64 = q at *
 generalize hp : z % 64 = p at *
 have hpz : z = 64 * q + p := by omega
 have hp64 : p < 64 := by omega
 have hlen : (l.drop q).length = l.length - q := List.length_drop ..
 have hwd := hw.drop q (by omega)
 have hld : Dig W64 (l.drop q) := hl.drop q
 have hvs := val_shr l q p hl hp64 (by omega)
 rw [← hpz] at hvs
 have hdiv : val W64 l / 2 ^ z = m := by rw [hv]; exact Nat.mul_div_cancel_left _ (Nat.pow_pos (by decide))
 rw [hdiv] at hvs
 rw [← hlen]
 generalize l.drop q = d at *
 have hsl := shrL_length p d
 have hsD := shrL_dig p hp64 hld
 refine EV.loop (ι := Nat × List Value) (fun s => [(0, .v (.slice (some ⟨b, off + q, none⟩) d.length (cap - q))), (4, .v (.int .i64 (p : Int))), (15, .v (.int .i64 (d.length : Int))), (16, .v (.int .i64 (s.1 : Int)))]) (fun _ => []) (fun s => [(b, T, s.2)])
  (fun s _ => s.1 ≤ d.length ∧ Wn s.2 (off + q) ((shrL p d).take s.1 ++ d.drop s.1)) (fun s => d.length - s.1) (0, cs) ⟨rfl, rfl, rfl, rfl, trivial⟩ trivial rfl (fun _ => rfl) ⟨Nat.zero_le _, by simpa using hwd⟩ ?_
 rintro ⟨i, cu⟩ G hG ⟨hi, hcu⟩
 dsimp only at hi hcu
 try refine RUN ?_
 by_cases hlt : i < d.length
 ·rw [lt_dec _ _ hlt]
  have hil : i < ((shrL p d).take i ++ d.drop i).length := by simp; omega
  have hcx := hcu.2 i hil
  rw [mix_getD _ _ i i hsl (Nat.le_refl _)] at hcx
  have hx := hld.getD (by decide) i
  have hnew := shrL_get p d i (by omega)
  have hset := take_set_drop (shrL p d) d i (by omega) hsl
  have hb1 : off + q + i < cu.length := by have := hcu.1; omega
  rw [hnew] at hset
  try refine RUN ?_
  refine EVL.idxO tO rfl rfl rfl rfl rfl rfl rfl rfl rfl rfl (i) (rfl) (hlt) ?_
  refine EVL.load1 tO rfl rfl rfl rfl rfl rfl rfl rfl (0) rfl (hcx) ?_
  try refine RUN ?_
  rw [show min p IntKind.u64.bits = p from Nat.min_eq_left (by show p ≤ 64; omega), wu_shr]
  refine EVL.idxO tO rfl rfl rfl rfl rfl rfl rfl rfl rfl rfl (i) (rfl) (hlt) ?_
  refine EVL.setO tO rfl rfl rfl rfl rfl rfl rfl ([]) rfl rfl rfl (hb1) ?_
  have hcu1 := hcu.set i (d.getD i 0 / 2 ^ p) hil
  try refine RUN ?_
  rw [wi_inc i (by omega)]
  by_cases hl1 : i + 1 < d.length
  ·rw [lt_dec _ _ hl1]
   have hy := hcu1.2 (i + 1) (by simp; omega)
   rw [getD_set_ne _ _ _ _ (by omega), mix_getD _ _ i (i + 1) hsl (by omega)] at hy
   have hx1 := hcu1.2 i (by simp; omega)
   rw [getD_set_eq _ _ _ hil] at hx1
   try refine RUN ?_
   apply EV.drawn 13 (by kernel_rfl) (by kernel_rfl); intro xv yw
   (repeat (first | refine' DV ?_ | refine' DA ?_ | refine' DK0 ?_ | refine' DT ?_ | refine' DS ?_))
   refine' DJ.ofVal (ValOk.idxO tO rfl rfl rfl rfl rfl rfl rfl rfl (i) (rfl) (hlt)) rfl rfl rfl ?_; rotate_left
   refine' DJ.ofVal (ValOk.load1 tO rfl rfl rfl rfl rfl rfl (0) rfl (hx1)) rfl rfl rfl ?_; rotate_left
   (repeat (first | refine' DV ?_ | refine' DA ?_ | refine' DK0 ?_ | refine' DT ?_ | refine' DS ?_))
   refine' DJ.ofVal (ValOk.idxO tO rfl rfl rfl rfl rfl rfl rfl rfl (i + 1) (wi_inc i (by omega)) (hl1)) rfl rfl rfl ?_; rotate_left
   refine' DJ.ofVal (ValOk.load1 tO rfl rfl rfl rfl rfl rfl (0) rfl (hy)) rfl rfl rfl ?_; rotate_left
   (repeat (first | refine' DV ?_ | refine' DA ?_ | refine' DK0 ?_ | refine' DT ?_ | refine' DS ?_))
   refine' DJ.ofVal (ValOk.shl rfl rfl rfl rfl (by rw [IntKind.wrap_i64]; omega)) rfl rfl rfl ?_; rotate_left
   (repeat (first | refine' DV ?_ | refine' DA ?_ | refine' DK0 ?_ | refine' DT ?_ | refine' DS ?_))
   (refine DJ.nil (fun G hG hF => ?_); (case hS => rfl); (case hS2 => rfl))
   try refine RUN ?_
   rw [show IntKind.i64.wrap (64 - (p : Int)) = ((64 - p : Nat) : Int) by rw [IntKind.wrap_i64]; omega, Int.toNat_natCast, show min (64 - p) IntKind.u64.bits = 64 - p from Nat.min_eq_left (by show _ ≤ 64; omega)]
   refine EVL.idxO tO rfl rfl rfl rfl rfl rfl rfl rfl rfl rfl (i) (rfl) (hlt) ?_
   refine EVL.setO tO rfl rfl rfl rfl rfl rfl rfl ([]) rfl rfl rfl ((by rw [List.length_set]; exact hb1)) ?_
   try refine RUN ?_
   have hw2 := (shr_word (d.getD i 0) (d.getD (i + 1) 0) p hp64 hx).1
   have hcu2 := hcu1.set i (d.getD i 0 / 2 ^ p + d.getD (i + 1) 0 * 2 ^ (64 - p) % W64) (by simpa using hil)
   rw [List.set_set, List.set_set, hset] at hcu2
   refine ⟨(i + 1, cu.set (off + q + i) (n64 (d.getD i 0 / 2 ^ p + d.getD (i + 1) 0 * 2 ^ (64 - p) % W64))), ⟨rfl, rfl, rfl, ?_, trivial⟩, trivial, ?_, ⟨by dsimp only; omega, hcu2⟩, hG, by dsimp only; omega⟩
   ·rw [wi_inc i (by omega)]; rfl
   ·dsimp only
    refine (congrArg (fun c => [(b, T, c)]) (List.set_set ..)).trans ?_
    exact congrArg (fun v => [(b, T, cu.set (off + q + i) v)]) (congrArg (Value.int .u64) hw2)
  ·rw [lt_dec' _ _ hl1]
   try refine RUN ?_
   rw [show d.getD (i + 1) 0 = 0 by simp [Nat.not_lt.1 hl1], Nat.zero_mul, Nat.zero_mod, Nat.add_zero] at hset
   rw [hset] at hcu1
   refine ⟨(i + 1, cu.set (off + q + i) (n64 (d.getD i 0 / 2 ^ p))), ⟨rfl, rfl, rfl, ?_, trivial⟩, trivial, rfl, ⟨by dsimp only; omega, hcu1⟩, Hp.Le.refl _, by dsimp only; omega⟩
   rw [wi_inc i (by omega)]; rfl
 ·rw [lt_dec' _ _ hlt]
  obtain rfl : i = d.length := by omega
  rw [List.take_of_length_le (by omega), List.drop_of_length_le (Nat.le_refl _), List.append_nil] at hcu
  have ht := wtrim_pw (H := G) (b := b) (T := T) (cap := cap - q) hcu (by omega) (by omega)
  rw [hsl] at ht
  try refine RUN ?_
  refine EVL.callW rfl rfl rfl rfl rfl ([(b, T, cu)]) ([]) rfl (ht) ?_
  rintro v ow H2 ⟨rfl, rfl⟩ hle2
  try refine RUN ?_
  have htl := trimL_length_le (shrL p d)
  refine ⟨cu, off + q, cap - q, trimL (shrL p d), z, rfl, ?_, trimL_norm hsD, by omega, by omega, rfl, ?_, ?_⟩
  ·have := hcu.take (trimL (shrL p d)).length
   rwa [trimL_take] at this
  ·rw [trimL_val, hvs, hv]
  ·rw [trimL_val, hvs, hm]
theorem wwords_pw (n : Nat) (hn : big n) (H : Hp) : PW prog 145 #[natV n] H [] fun v ow _ => ∃ g, v = .slice (some ⟨g, 0, none⟩) (dig W64 n).length (dig W64 n).length ∧ ow = [(g, 23, (dig W64 n).map n64)] := by
 have hol : (octs n).length = (bl n + 7) / 8 := by
  have := dig_len_bits 8 n (by omega); rw [show (2 : Nat) ^ 8 = 256 by decide] at this; rw [octs_length, this]; omega
 have hwl : (dig W64 n).length = ((octs n).length + 7) / 8 := by
  have := dig_len_bits 64 n (by omega)
  rw [← W64_pow] at this
  rw [this, hol]; omega
 have hD := octs_dig n
 have hfin : pk 8 256 (octs n).reverse (dig W64 n).length = dig W64 n := pk_octs n _ rfl (by rw [← octs_length]; omega)
 have hb := natBytes_pc n hn
 refine PW.body tO func145 rfl (by kernel_rfl) ntmps145 rfl rfl ?_
 try refine RUN ?_
 refine EVL.call rfl rfl rfl rfl rfl (hb _) ?_
 rintro v H1 hs hle
 generalize hm : (dig W64 n).length = m at *
 generalize dig W64 n = dn at *
 generalize octs n = l at *
 obtain ⟨a, cap, rfl⟩ := SlC.val hs
 try refine RUN ?_
 rw [show IntKind.i64.wrap ((l.length : Int) + 7) = ((l.length + 7 : Nat) : Int) from wi_add _ 7 (by omega)]
 refine EVL.asI ((m : Int)) ((by rw [hwl]; exact wi_quo _ 8 (by omega))) ?_
 refine EVL.make tO rfl rfl rfl rfl rfl rfl rfl rfl rfl (m) (rfl) (by omega) (by rfl) (by rfl) fun g => ?_
 try refine RUN ?_
 have e0 : (List.replicate m (Tryz.te23.zero)).flatten = (pk 8 256 (l.reverse.take 0) m).map n64 := by
  rw [List.take_zero, pk_nil, List.map_replicate]; rw [show (Tryz.te23.zero) = [n64 0] from rfl]; simp
 rw [e0]
 refine EV.loop (ι := Nat) (fun i => [(3, .v (.slice a l.length cap)), (4, .v (.slice (some ⟨g, 0, none⟩) m m)), (14, .v (.int .i64 (l.length : Int))), (15, .v (.int .i64 (i : Int)))]) (fun _ => []) (fun i => [(g, 23, (pk 8 256 (l.reverse.take i) m).map n64)])
  (fun i G => i ≤ l.length ∧ SlN n8 G (.slice a l.length cap) l) (fun i => l.length - i) 0 ⟨rfl, rfl, rfl, rfl, trivial⟩ trivial rfl (fun _ => rfl) ⟨Nat.zero_le _, hs⟩ ?_
 rintro i G hG ⟨hi, hs⟩
 try refine RUN ?_
 by_cases hlt : i < l.length
 ·have him : i / 8 < m := by omega
  have hrl : (l.reverse.take i).length = i := by rw [List.length_take, List.length_reverse]; omega
  have hx : l.getD (l.length - 1 - i) 0 < 256 := hD.getD (by decide) _
  have hxs : (l.map n8)[l.length - 1 - i]? = some (n8 (l.getD (l.length - 1 - i) 0)) := map_at (by omega)
  have hcur : ((pk 8 256 (l.reverse.take i) m).map n64)[i / 8]? = some (n64 ((pk 8 256 (l.reverse.take i) m).getD (i / 8) 0)) := map_at (by rw [pk_length]; exact him)
  have hlow := pk_low (K := 8) (B := 256) (by decide) ((hD.rev).take i) m (by rw [hrl]; omega)
  rw [hrl] at hlow
  have hsn := pk_snoc (K := 8) (B := 256) (l := l.reverse.take i) (by decide) m (l.getD (l.length - 1 - i) 0) (by rw [hrl]; omega)
  rw [hrl] at hsn
  rw [lt_dec _ _ hlt]
  try refine RUN ?_
  apply EV.drawn 18 (by kernel_rfl) (by kernel_rfl); intro xv yw
  (repeat (first | refine' DV ?_ | refine' DA ?_ | refine' DK0 ?_ | refine' DT ?_ | refine' DS ?_))
  refine' DJ.ofVal (ValOk.idxP1 tO rfl rfl rfl rfl rfl rfl rfl rfl (i / 8) (q8 i (by omega)) him) rfl rfl rfl ?_; rotate_left
  refine' DJ.ofVal (ValOk.load1 tO rfl rfl rfl rfl rfl rfl (0) rfl (hcur)) rfl rfl rfl ?_; rotate_left
  (repeat (first | refine' DV ?_ | refine' DA ?_ | refine' DK0 ?_ | refine' DT ?_ | refine' DS ?_))
  refine' DJ.ofVal (ValOk.idx1 tO rfl rfl rfl rfl rfl rfl rfl rfl (hs) (l.length - 1 - i) (back _ _ hlt (by omega)) (by omega) (hxs)) rfl rfl rfl ?_; rotate_left
  (repeat (first | refine' DV ?_ | refine' DA ?_ | refine' DK0 ?_ | refine' DT ?_ | refine' DS ?_))
  refine' DJ.ofVal (ValOk.shl rfl rfl rfl rfl (by rw [r8]; omega)) rfl rfl rfl ?_; rotate_left
  (refine DJ.nil (fun G hG hF => ?_); (case hS => rfl); (case hS2 => rfl))
  rw [r8, Int.toNat_natCast]
  try refine RUN ?_
  rw [byte_or _ _ _ (by rw [Nat.pow_mul]; exact hlow) hx (by omega)]
  refine EVL.idx0 tO rfl rfl rfl rfl rfl rfl rfl rfl rfl rfl (i / 8) (q8 i (by omega)) (him) ?_
  refine EVL.setO tO rfl rfl rfl rfl rfl rfl rfl ([]) rfl rfl rfl ((by rw [List.length_map, pk_length]; exact him)) ?_
  try refine RUN ?_
  have hnext : l.reverse.take (i + 1) = l.reverse.take i ++ [l.getD (l.length - 1 - i) 0] := by
   rw [List.take_succ_eq_append_getElem (by rw [List.length_reverse]; exact hlt), List.getElem_reverse, List.getD_eq_getElem?_getD, List.getElem?_eq_getElem (show l.length - 1 - i < l.length by omega)]; rfl
  refine ⟨i + 1, ⟨rfl, rfl, rfl, ?_, trivial⟩, trivial, ?_, ⟨by omega, hs.mono hG⟩, hG, by omega⟩
  ·rw [wi_inc i (by omega)]; rfl
  ·rw [hnext, hsn, List.map_set, show (256 : Nat) ^ (i % 8) = 2 ^ (8 * (i % 8)) by rw [Nat.pow_mul]]; rfl
 ·rw [lt_dec' _ _ hlt]
  obtain rfl : i = l.length := by omega
  rw [List.take_of_length_le (by rw [List.length_reverse]; exact Nat.le_refl _), hfin]
  try refine RUN ?_
  exact ⟨g, rfl, rfl⟩
theorem wnumber_pw {H : Hp} {b off cap : Nat} {T : TypeId} {cs : List Value} {l : List Nat} (hw : Wn cs off l) (hl : Dig W64 l) (hll : l.length ≤ 20000000) :
  PW prog 150 #[.slice (some ⟨b, off, none⟩) l.length cap] H [(b, T, cs)] fun v ow _ => ow = [(b, T, cs)] ∧ v = natV (val W64 l) := by
 refine PW.body tO func150 rfl (by kernel_rfl) ntmps150 rfl rfl ?_
 try refine RUN ?_
 rw [show IntKind.i64.wrap (8 * (l.length : Int)) = ((8 * l.length : Nat) : Int) from wi_mul 8 l.length (by omega)]
 generalize hN : 8 * l.length = N at *
 refine EVL.make tO rfl rfl rfl rfl rfl rfl rfl rfl rfl (N) (rfl) (by omega) (by rfl) (by rfl) fun g => ?_
 refine EVL.apart fun hdist => ?_
 have hgb : b ≠ g := fun e => by
  subst e
  have := hdist 0 1 b _ _ _ _ rfl rfl
  cases this
 try refine RUN ?_
 have e0 : (List.replicate N (Tryz.te5.zero)).flatten = (List.replicate N 0).map n8 := by
  rw [List.map_replicate, show (Tryz.te5.zero) = [n8 0] from rfl]; simp
 rw [e0]
 refine EV.loop (ι := Nat × List Nat) (fun q => [(2, .p 2 0), (0, .v (.slice (some ⟨b, off, none⟩) l.length cap)), (3, .v (.slice (some ⟨g, 0, none⟩) N N)), (10, .v (.int .i64 (N : Int))), (11, .v (.int .i64 (q.1 : Int)))]) (fun _ => [(2, 41, Tryz.te41.zero)]) (fun q => [(g, 5, q.2.map n8), (b, T, cs)])
  (fun q _ => q.1 ≤ N ∧ q.2.length = N ∧ Dig 256 q.2 ∧ ∀ j, j < q.1 → q.2.getD (N - 1 - j) 0 = val W64 l / 256 ^ j % 256) (fun q => N - q.1) (0, List.replicate N 0) ⟨rfl, rfl, rfl, rfl, rfl, trivial⟩ ⟨rfl, trivial⟩ rfl (fun _ => rfl) ⟨Nat.zero_le _, by simp, Dig.zeros (by decide) _, fun j hj => absurd hj (Nat.not_lt_zero _)⟩ ?_
 rintro ⟨i, cur⟩ G hG ⟨hi, hlen, hcD, hcs⟩
 dsimp only at hi hlen hcs hcD
 try refine RUN ?_
 by_cases hlt : i < N
 ·have hwl : i / 8 < l.length := by omega
  have hsub := val_subdigit (C := 256) (k := 8) (by decide) (by decide) (l := l) (by rw [← W64_256]; exact hl) i
  rw [← W64_256, show (256 : Nat) ^ (i % 8) = 2 ^ (8 * (i % 8)) by rw [Nat.pow_mul]] at hsub
  have hwd := hl.getD (by decide) (i / 8)
  rw [lt_dec _ _ hlt]
  try refine RUN ?_
  rw [back N i hlt (by omega)]
  refine EVL.asI (((i / 8 : Nat) : Int)) (q8 i (by omega)) ?_
  refine EVL.idxO tO rfl rfl rfl rfl rfl rfl rfl rfl rfl rfl (i / 8) (rfl) (hwl) ?_
  refine EVL.load1 tO rfl rfl rfl rfl rfl rfl rfl rfl (1) rfl (hw.2 (i / 8) hwl) ?_
  try refine RUN ?_
  rw [r8]
  try refine RUN ?_
  rw [sub_byte _ _ hwd (by omega), hsub]
  refine EVL.idx0 tO rfl rfl rfl rfl rfl rfl rfl rfl rfl rfl (N - 1 - i) (rfl) (by omega) ?_
  refine EVL.setO tO rfl rfl rfl rfl rfl rfl rfl ([]) rfl rfl rfl ((by rw [List.length_map, hlen]; omega)) ?_
  try refine RUN ?_
  refine ⟨(i + 1, cur.set (N - 1 - i) (val W64 l / 256 ^ i % 256)), ⟨rfl, rfl, rfl, rfl, ?_, trivial⟩, ⟨rfl, trivial⟩, ?_, ⟨by dsimp only; omega, by dsimp only; rw [List.length_set]; exact hlen, hcD.set _ _ (Nat.mod_lt _ (by decide)), fun j hj => ?_⟩, Hp.Le.refl _, by dsimp only; omega⟩
  ·rw [wi_inc i (by omega)]; rfl
  ·dsimp only
   rw [List.map_set]; rfl
  ·dsimp only at hj ⊢
   by_cases e : j = i
   ·subst e
    exact getD_set_eq _ _ _ (by omega)
   ·rw [getD_set_ne _ _ _ _ (by omega)]
    exact hcs j (by omega)
 ·rw [lt_dec' _ _ hlt]
  obtain rfl : i = N := by omega
  have hlv := val_lt hl
  have hb := bytes_back (val W64 l) i cur (by rw [← hN, Nat.pow_mul, ← W64_256]; exact hlv) hlen hcs
  try refine RUN ?_
  refine EVL.publish [] [(b, T, cs)] rfl (fun G2 hG2 hg => ?_) (fun k hk => by
   obtain rfl : k = b := by simpa [Ows.bs] using hk
   exact hgb)
  have hsl : SlN n8 G2 (.slice (some ⟨g, 0, none⟩) i i) cur := by
   unfold SlN
   rw [hlen]
   exact ⟨by simp [hlen], .inr ⟨g, 0, i, _, rfl, Nat.le_refl _, hg, fun j x hj => by simpa using hj⟩⟩
  have hf := natFromBytes_pc hsl hcD (by omega)
  rw [hb] at hf
  refine EVL.call rfl rfl rfl rfl rfl (hf) ?_
  rintro v H2 rfl hle
  try refine RUN ?_
  exact ⟨rfl, rfl⟩
structure OW (b off cap : Nat) (cs : List Value) (l : List Nat) : Prop where
 at_ : Wn cs off l
 norm : Norm W64 l
 cap : l.length ≤ cap
 len : l.length ≤ 20000000
 odd : val W64 l % 2 = 1
structure BSt where
 (bv ov cv : Nat) (lv : List Nat) (sv : List Value)
 (bw ow cw : Nat) (lw : List Nat) (sw : List Value)
def BSt.env (q : BSt) (t : Int) : Env := [(4, .p 4 0), (5, .v (.slice (some ⟨q.bv, q.ov, none⟩) q.lv.length q.cv)), (6, .v (.slice (some ⟨q.bw, q.ow, none⟩) q.lw.length q.cw)), (7, .v (.int .i64 t))]
def BSt.own (q : BSt) : Ows := [(q.bv, 23, q.sv), (q.bw, 23, q.sw)]
structure BSt.ok (q : BSt) (g : Nat) : Prop where
 v : OW q.bv q.ov q.cv q.sv q.lv
 w : OW q.bw q.ow q.cw q.sw q.lw
 gcd : Nat.gcd (val W64 q.lv) (val W64 q.lw) = g
theorem odd_pos {n : Nat} (h : n % 2 = 1) : n ≠ 0 := by omega
theorem two_swap {α : Type} (a b : α) : List.Perm [a, b] [b, a] := List.Perm.swap b a []
theorem ordN_zero {a b : Nat} (h : ordN a b = 0) : a = b := by
 unfold ordN at h; split at h
 ·cases h
 ·split at h
  ·cases h
  ·omega
theorem natV_cells (n : Nat) : natV n = .agg #[.int .u64 (lo n : Int), .string (moreB n)] := rfl
theorem wbinary_pv (x y : Nat) (hx : x ≠ 0) (hy : y ≠ 0) (hbx' : big x) (hby' : big y) : PV prog 106 #[natV x, natV y] (natV (Nat.gcd x y)) := by
 have lx : (dig W64 x).length ≤ 20000000 := Nat.le_trans (dig_len_big hbx') (by decide)
 have ly : (dig W64 y).length ≤ 20000000 := Nat.le_trans (dig_len_big hby') (by decide)
 have hpx := fun G => PO.of_pw ((wwords_pw x hbx' G).mono (Ψ := fun v ow _ => ow.length ≤ 1 ∧ ∃ g, v = .slice (some ⟨g, 0, none⟩) (dig W64 x).length (dig W64 x).length ∧ ow = [(g, 23, (dig W64 x).map n64)]) fun v ow H' _ ⟨g, h1, h2⟩ => ⟨by rw [h2]; simp, g, h1, h2⟩)
 have hpy := fun G => PO.of_pw ((wwords_pw y hby' G).mono (Ψ := fun v ow _ => ow.length ≤ 1 ∧ ∃ g, v = .slice (some ⟨g, 0, none⟩) (dig W64 y).length (dig W64 y).length ∧ ow = [(g, 23, (dig W64 y).map n64)]) fun v ow H' _ ⟨g, h1, h2⟩ => ⟨by rw [h2]; simp, g, h1, h2⟩)
 have dx := dig_norm W64_two x
 have dy := dig_norm W64_two y
 have vx := dig_val W64_two x
 have vy := dig_val W64_two y
 generalize dig W64 x = dgx at *
 generalize dig W64 y = dgy at *
 have hvx0 : val W64 dgx ≠ 0 := by rw [vx]; exact hx
 have hvy0 : val W64 dgy ≠ 0 := by rw [vy]; exact hy
 refine PV.of_pc ?_
 refine BD func106 ntmps106 ?_
 try refine RUN ?_
 apply EV.drawn 6 (by kernel_rfl) (by kernel_rfl); intro x1 y1
 (repeat (first | refine' DV ?_ | refine' DA ?_ | refine' DK0 ?_ | refine' DT ?_ | refine' DS ?_))
 refine' DJ.callO rfl rfl rfl rfl rfl (hpx gH).can (fun G _ _ => hpx G) ?_; rotate_left
 (repeat (first | refine' DV ?_ | refine' DA ?_ | refine' DK0 ?_ | refine' DT ?_ | refine' DS ?_))
 refine' DJ.callO rfl rfl rfl rfl rfl (hpy gH).can (fun G _ _ => hpy G) ?_; rotate_left
 refine' DJ.copy (0 + 1) (.inr rfl) rfl rfl rfl id rfl (by kernel_rfl) ?_; rotate_left
 refine' DJ.copy (0 + 1 + 1 + 1) (.inr rfl) rfl rfl rfl id rfl (by kernel_rfl) ?_; rotate_left
 (refine DJ.nil (fun G hG hF => ?_); (case hS => rfl); (case hS2 => rfl))
 obtain ⟨⟨gy, ey, oy⟩, ⟨gx, ex, ox⟩, _⟩ := hF
 simp only [ex, ey, ox, oy, id]
 clear hpx hpy ex ey ox oy
 try refine RUN ?_
 refine EVL.permOw [(gx, 23, dgx.map n64), (gy, 23, dgy.map n64)] (two_swap _ _) ?_
 refine EVL.callW rfl rfl rfl rfl rfl ([(gx, 23, dgx.map n64)]) ([(gy, 23, dgy.map n64)]) rfl (wzeros_pw (Wn.of dgx) dx.1 (by omega) hvx0) ?_
 rintro v ow H1 ⟨rfl, zx, mx, rfl, hzx, hmx, hzx2⟩ hle1
 try refine RUN ?_
 refine EVL.permOw [(gy, 23, dgy.map n64), (gx, 23, dgx.map n64)] (two_swap _ _) ?_
 refine EVL.callW rfl rfl rfl rfl rfl ([(gy, 23, dgy.map n64)]) ([(gx, 23, dgx.map n64)]) rfl (wzeros_pw (Wn.of dgy) dy.1 (by omega) hvy0) ?_
 rintro v ow H2 ⟨rfl, zy, my, rfl, hzy, hmy, hzy2⟩ hle2
 try refine RUN ?_
 rw [show (if (zy : Int) < (zx : Int) then (zy : Int) else (zx : Int)) = ((min zx zy : Nat) : Int) by split <;> omega]
 try refine RUN ?_
 refine EVL.permOw [(gx, 23, dgx.map n64), (gy, 23, dgy.map n64)] (two_swap _ _) ?_
 refine EVL.callW rfl rfl rfl rfl rfl ([(gx, 23, dgx.map n64)]) ([(gy, 23, dgy.map n64)]) rfl (wdown_pw (Wn.of dgx) dx.1 (by omega) (Nat.le_refl _) hvx0) ?_
 rintro v ow H3 ⟨sx, ox, cx, rx, zx', rfl, hwx, hnx, hlx, hcx, rfl, hdx, hox⟩ hle3
 try refine RUN ?_
 refine EVL.permOw [(gy, 23, dgy.map n64), (gx, 23, sx)] (two_swap _ _) ?_
 refine EVL.callW rfl rfl rfl rfl rfl ([(gy, 23, dgy.map n64)]) ([(gx, 23, sx)]) rfl (wdown_pw (Wn.of dgy) dy.1 (by omega) (Nat.le_refl _) hvy0) ?_
 rintro v ow H4 ⟨sy, oy, cy, ry, zy', rfl, hwy, hny, hly, hcy, rfl, hdy, hoy⟩ hle4
 refine EVL.permOw [(gx, 23, sx), (gy, 23, sy)] (two_swap _ _) ?_
 have hgcd : Nat.gcd x y = 2 ^ min zx zy * Nat.gcd (val W64 rx) (val W64 ry) := by
  have e1 : zx = zx' := odd_part (by rw [← hzx, hdx]) hmx hox
  have e2 : zy = zy' := odd_part (by rw [← hzy, hdy]) hmy hoy
  subst e1 e2
  rw [← vx, ← vy]
  exact gcd_binary _ _ zx zy _ _ hdx hdy hox hoy
 have htw : min zx zy ≤ 1300000000 := by omega
 generalize min zx zy = tw at *
 generalize hg : Nat.gcd (val W64 rx) (val W64 ry) = g at *
 have hbg : big (Nat.gcd x y) := Nat.le_trans (bl_gcd_left x y hx) hbx'
 generalize Nat.gcd x y = gg at *
 try refine RUN ?_
 refine EV.loop (ι := BSt) (fun q => q.env (tw : Int)) (fun _ => [(4, 41, Tryz.te41.zero)]) (fun q => q.own) (fun q _ => q.ok g) (fun q => val W64 q.lv + val W64 q.lw) ⟨gx, ox, cx, rx, sx, gy, oy, cy, ry, sy⟩
  ⟨rfl, rfl, rfl, rfl, trivial⟩ ⟨rfl, trivial⟩ rfl (fun _ => rfl) ⟨⟨hwx, hnx, hcx, Nat.le_trans hlx lx, hox⟩, ⟨hwy, hny, hcy, Nat.le_trans hly ly, hoy⟩, hg⟩ ?_
 clear hdx hdy hzx hzy hwx hnx hlx hcx hwy hny hly hcy hox hoy hle1 hle2 hle3 hle4 hg
 rintro ⟨bv, ov, cv, lv, sv, bw, ow, cw, lw, sw⟩ G hG ⟨⟨v1, v2, v3, v4, v5⟩, ⟨w1, w2, w3, w4, w5⟩, hgq⟩
 dsimp only at v1 v2 v3 v4 v5 w1 w2 w3 w4 w5 hgq
 unfold BSt.env BSt.own
 dsimp only
 try refine RUN ?_
 refine EVL.callW rfl rfl rfl rfl rfl ([(bv, 23, sv), (bw, 23, sw)]) ([]) rfl (wcompare_pw v1 w1 v2 w2 (by omega)) ?_
 rintro v ow1 H5 ⟨rfl, rfl⟩ hle5
 try refine RUN ?_
 by_cases hc0 : ordN (val W64 lv) (val W64 lw) = 0
 ·rw [show (ordN (val W64 lv) (val W64 lw) == 0) = true by rw [hc0]; rfl]
  have hvw := ordN_zero hc0
  rw [← hvw, Nat.gcd_self] at hgq
  try refine RUN ?_
  refine EVL.callW rfl rfl rfl rfl rfl ([(bv, 23, sv)]) ([(bw, 23, sw)]) rfl (wnumber_pw v1 v2.1 v4) ?_
  rintro v ow2 H6 ⟨rfl, rfl⟩ hle6
  rw [hgq, natV_cells]
  try refine RUN ?_
  refine EV.loop (ι := Int × Nat) (fun q => [(4, .p 4 0), (9, .p 9 0), (7, .v (.int .i64 q.1))]) (fun q => [(9, 41, [.int .u64 (lo q.2 : Int), .string (moreB q.2)]), (4, 41, Tryz.te41.zero)]) (fun _ => [(bv, 23, sv), (bw, 23, sw)])
   (fun q _ => q.2 * 2 ^ q.1.toNat = gg ∧ q.1 ≤ 1300000000 ∧ -100000 ≤ q.1) (fun q => q.1.toNat) ((tw : Int), g) ⟨rfl, rfl, rfl, trivial⟩ ⟨rfl, rfl, trivial⟩ rfl (fun _ => rfl) ⟨by dsimp only; rw [Int.toNat_natCast, hgcd, Nat.mul_comm], by dsimp only; omega, by dsimp only; omega⟩ ?_
  rintro ⟨t, o⟩ G2 hG2 ⟨ht, ht1, ht2⟩
  dsimp only at ht ht1 ht2
  try refine RUN ?_
  by_cases htp : t > 0
  ·rw [show decide (t > 0) = true by simpa using htp]
   obtain ⟨k, hk, hkt⟩ : ∃ k : Nat, (if (65536 : Int) < t then (65536 : Int) else t) = (k : Int) ∧ k = min t.toNat 65536 := ⟨min t.toNat 65536, by split <;> omega, rfl⟩
   have hbo : big o := by
    refine Nat.le_trans (bl_mono ?_) hbg
    rw [← ht]; exact Nat.le_mul_of_pos_right _ (Nat.pow_pos (by decide))
   have hsh := natShift_up o k (by omega) hbo
   try refine RUN ?_
   rw [hk]
   repeat (first | refine RUN ?_ | refine CV (hsh) ?_ | refine CE (hsh) ?_)
   refine ⟨(t - 65536, o * 2 ^ k), ⟨rfl, rfl, ?_, trivial⟩, ⟨rfl, rfl, trivial⟩, rfl, ⟨?_, by dsimp only; omega, by dsimp only; omega⟩, Hp.Le.refl _, by dsimp only; omega⟩
   ·rw [show IntKind.i64.wrap (t - 65536) = t - 65536 by rw [IntKind.wrap_i64]; omega]; rfl
   ·dsimp only
    rw [← ht, Nat.mul_assoc, ← Nat.pow_add]
    congr 2
    omega
  ·rw [show decide (t > 0) = false by simpa using htp]
   rw [show t.toNat = 0 by omega, Nat.pow_zero, Nat.mul_one] at ht
   subst ht
   try refine RUN ?_
   rfl
 ·rw [show (ordN (val W64 lv) (val W64 lw) == 0) = false by simpa using hc0]
  try refine RUN ?_
  refine EV.meet (fun env' bx' H' => ∃ q : BSt, SubL env' (q.env (tw : Int)) ∧ SubX bx' [(4, 41, Tryz.te41.zero)] ∧ H'.ow = q.own ∧ G.Le H'.ro ∧ q.ok g ∧ val W64 q.lw < val W64 q.lv ∧ val W64 q.lv + val W64 q.lw = val W64 lv + val W64 lw) ?_ ?_
  ·rintro env' bx' ⟨G6, ow6, base6⟩ _ ⟨⟨bv, ov, cv, lv, sv, bw, ow, cw, lw, sw⟩, he, hbx6, how, hleG, ⟨⟨v1, v2, v3, v4, v5⟩, ⟨w1, w2, w3, w4, w5⟩, hgq⟩, hlt, hsum⟩
   dsimp only at v1 v2 v3 v4 v5 w1 w2 w3 w4 w5 hgq hlt hsum
   refine EV.less _ _ he hbx6 rfl ?_
   unfold BSt.own at how
   dsimp only at how
   subst how
   unfold BSt.env
   dsimp only
   have hlen : lw.length ≤ lv.length := by
    refine Nat.le_of_not_lt fun h => ?_
    have := len_less W64_two v2.1 w2 h
    omega
   try refine RUN ?_
   refine EVL.callW rfl rfl rfl rfl rfl ([(bv, 23, sv), (bw, 23, sw)]) ([]) rfl (wsubtract_pw v1 w1 v2.1 w2.1 (by omega) hlen v3 (by omega)) ?_
   rintro v ow7 H7 ⟨s7, r7, rfl, hw7, hn7, hl7, rfl, hv7⟩ hle7
   try refine RUN ?_
   refine EVL.callW rfl rfl rfl rfl rfl ([(bv, 23, s7)]) ([(bw, 23, sw)]) rfl (wdown_pw hw7 hn7.1 (by omega) (by omega) (by omega)) ?_
   rintro v ow8 H8 ⟨s8, o8, c8, r8, z8, rfl, hw8, hn8, hl8, hc8, rfl, hd8, ho8⟩ hle8
   try refine RUN ?_
   have hr := gcd_round (val W64 lv) (val W64 lw) z8 (val W64 r8) w5 (by omega) (by rw [← hv7]; exact hd8)
   have hle9 : val W64 r8 ≤ val W64 r7 := by rw [hd8]; exact Nat.le_mul_of_pos_left _ (Nat.pow_pos (by decide))
   refine ⟨⟨bv, o8, c8, r8, s8, bw, ow, cw, lw, sw⟩, ⟨rfl, rfl, rfl, rfl, trivial⟩, ⟨rfl, trivial⟩, rfl, ⟨⟨hw8, hn8, hc8, by dsimp only; omega, ho8⟩, ⟨w1, w2, w3, w4, w5⟩, by dsimp only; rw [hr]; exact hgq⟩, (hleG.trans hle7).trans hle8, ?_⟩
   dsimp only
   have := odd_pos w5
   omega
  ·by_cases hlt : ordN (val W64 lv) (val W64 lw) < 0
   ·rw [show decide (ordN (val W64 lv) (val W64 lw) < 0) = true by simpa using hlt]
    have hvl : val W64 lv < val W64 lw := by
     unfold ordN at hlt
     split at hlt
     ·assumption
     ·split at hlt <;> simp at hlt
    refine EV.permOw [(bw, 23, sw), (bv, 23, sv)] (two_swap _ _) ?_
    try refine RUN ?_
    exact ⟨⟨bw, ow, cw, lw, sw, bv, ov, cv, lv, sv⟩, ⟨rfl, rfl, rfl, rfl, trivial⟩, ⟨rfl, trivial⟩, rfl, hle5, ⟨⟨w1, w2, w3, w4, w5⟩, ⟨v1, v2, v3, v4, v5⟩, by dsimp only; rw [Nat.gcd_comm]; exact hgq⟩, hvl, Nat.add_comm _ _⟩
   ·rw [show decide (ordN (val W64 lv) (val W64 lw) < 0) = false by simpa using hlt]
    have hvl : val W64 lw < val W64 lv := by
     unfold ordN at hlt hc0
     split at hlt
     ·simp at hlt
     ·rename_i h1
      rw [if_neg h1] at hc0
      split at hc0
      ·assumption
      ·simp at hc0
    try refine RUN ?_
    exact ⟨⟨bv, ov, cv, lv, sv, bw, ow, cw, lw, sw⟩, ⟨rfl, rfl, rfl, rfl, trivial⟩, ⟨rfl, trivial⟩, rfl, hle5, ⟨⟨v1, v2, v3, v4, v5⟩, ⟨w1, w2, w3, w4, w5⟩, hgq⟩, hvl, rfl⟩
theorem gcdN_pv (c1 c2 : Nat) (h1 : big c1) (h2 : big c2) (sx sy : Bool) (hsx : c1 = 0 → sx = false) (hsy : c2 = 0 → sy = false) :
  PV prog 51 #[.agg #[.bool sx, .int .u64 (lo c1 : Int), .string (moreB c1)], .agg #[.bool sy, .int .u64 (lo c2 : Int), .string (moreB c2)]] (natV (Nat.gcd c1 c2)) := by
 refine PV.of_pc ?_
 refine BD func51 ntmps51 ?_
 try refine RUN ?_
 (apply EV.drawn 7 (by kernel_rfl) (by kernel_rfl); intro xv yw; (repeat (first | refine' DV ?_ | refine' DA ?_ | refine' DK0 ?_ | refine' DS ?_)); refine DJ.nil (fun G hG hF => ?_); (case hS => rfl); (case hS2 => rfl))
 repeat (first | refine RUN ?_ | refine CV (natCmp_pv c1 c2 h1 h2) ?_ | refine CE (natCmp_pv c1 c2 h1 h2) ?_)
 refine EV.meet (fun env' bx' H' => ∃ u w : Nat, SubL env' [(4, .p 4 0), (5, .p 5 0), (6, .p 6 0)] ∧ SubX bx' [(4, 41, Tryz.te41.zero), (5, 41, [.int .u64 (lo u : Int), .string (moreB u)]), (6, 41, [.int .u64 (lo w : Int), .string (moreB w)])] ∧ H'.ow = [] ∧ w ≤ u ∧ big u ∧ big w ∧ Nat.gcd u w = Nat.gcd c1 c2) ?_ ?_
 ·rintro env' bx' ⟨G1, ow1, base1⟩ hb ⟨u, w, he, hbx, how, hwu, hu, hw, hg⟩
  obtain rfl : base1 = ⟨fun _ => none, []⟩ := hb
  obtain rfl : ow1 = [] := how
  refine EV.less _ _ he hbx rfl ?_
  clear h1 h2 hsx hsy hbx he
  generalize Nat.gcd c1 c2 = gg at *
  subst hg
  repeat (first | refine RUN ?_ | refine CV (bits_pv w hw) ?_ | refine CE (bits_pv w hw) ?_)
  rw [bl_zero_iff]
  by_cases hw0 : w = 0
  ·subst hw0
   rw [decide_eq_true rfl, Nat.gcd_zero_right]
   try refine RUN ?_
   rfl
  ·rw [decide_eq_false hw0]
   repeat (first | refine RUN ?_ | refine CV (natDiv_pv u w hw0 hu hw) ?_ | refine CE (natDiv_pv u w hw0 hu hw) ?_)
   have hm : u % w < w := Nat.mod_lt _ (by omega)
   have hgr : Nat.gcd u w = Nat.gcd w (u % w) := by rw [Nat.gcd_comm, Nat.gcd_rec, Nat.gcd_comm]
   have hbm : big (u % w) := Nat.le_trans (bl_mod u w) hu
   rw [hgr]
   generalize u % w = r at *
   generalize u / w = qq at *
   clear hgr hwu hu
   rw [natV_cells, natV_cells]
   try refine RUN ?_
   refine EV.less [(4, .p 4 0), (5, .p 5 0), (6, .p 6 0), (8, .p 8 0)] ([(5, 41, [.int .u64 (lo u : Int), .string (moreB u)]), (4, 41, Tryz.te41.zero), (6, 41, [.int .u64 (lo w : Int), .string (moreB w)]), (8, 41, [.int .u64 (lo r : Int), .string (moreB r)])]) ⟨rfl, rfl, rfl, rfl, trivial⟩ ⟨rfl, rfl, rfl, rfl, trivial⟩ rfl ?_
   apply EV.drawnS ([(5, 41, [.int .u64 (lo u : Int), .string (moreB u)])]) 3 (by kernel_rfl) (by kernel_rfl); intro xv yw
   (repeat (first | refine' DV ?_ | refine' DA ?_ | refine' DK0 ?_ | refine' DT ?_ | refine' DS ?_))
   (refine DJ.nil (fun G hG hF => ?_); (case hS => rfl); (case hS2 => rfl); (case hD => rfl))
   repeat (first | refine RUN ?_ | refine CV (bits_pv r hbm) ?_ | refine CE (bits_pv r hbm) ?_)
   rw [bl_zero_iff]
   by_cases hr0 : r = 0
   ·subst hr0
    rw [decide_eq_true rfl, Nat.gcd_zero_right]
    try refine RUN ?_
    rfl
   ·rw [decide_eq_false hr0]
    repeat (first | refine RUN ?_ | refine CV (natSmall_pv w) ?_ | refine CE (natSmall_pv w) ?_)
    by_cases hws : w < W64
    ·have hrs : r < W64 := by omega
     rw [decide_eq_true hws, if_pos hws]
     repeat (first | refine RUN ?_ | refine CV (natSmall_pv r) ?_ | refine CE (natSmall_pv r) ?_)
     rw [decide_eq_true hrs, if_pos hrs]
     try refine RUN ?_
     refine EV.loop (ι := Nat × Nat) (fun q => [(4, .p 4 0), (10, .v (n64 q.1)), (12, .v (n64 q.2))]) (fun _ => [(4, 41, Tryz.te41.zero)]) (fun _ => []) (fun q _ => q.1 < W64 ∧ q.2 < W64 ∧ Nat.gcd q.1 q.2 = Nat.gcd w r) (fun q => q.2) (w, r) ⟨rfl, rfl, rfl, trivial⟩ ⟨rfl, trivial⟩ rfl (fun _ => rfl) ⟨hws, hrs, rfl⟩ ?_
     rintro ⟨m, k⟩ G2 hG2 ⟨hms, hks, hgk⟩
     dsimp only at hms hks hgk
     try refine RUN ?_
     by_cases hk0 : k = 0
     ·subst hk0
      rw [show decide ((((m, 0) : Nat × Nat).2 : Int) > 0) = false from rfl]
      rw [Nat.gcd_zero_right] at hgk
      repeat (first | refine RUN ?_ | refine CV (natOf_pv m hms) ?_ | refine CE (natOf_pv m hms) ?_)
      rw [hgk]
     ·rw [show decide ((((m, k) : Nat × Nat).2 : Int) > 0) = true by simp; omega]
      try refine RUN ?_
      apply EV.drawn 6 (by kernel_rfl) (by kernel_rfl); intro xv yw
      (repeat (first | refine' DV ?_ | refine' DA ?_ | refine' DK0 ?_ | refine' DT ?_ | refine' DS ?_))
      refine' DJ.ofVal (ValOk.rem rfl rfl rfl rfl (show ((k : Nat) : Int) ≠ 0 by omega)) rfl rfl rfl ?_; rotate_left
      (repeat (first | refine' DV ?_ | refine' DA ?_ | refine' DK0 ?_ | refine' DT ?_ | refine' DS ?_))
      (refine DJ.nil (fun G hG hF => ?_); (case hS => rfl); (case hS2 => rfl))
      rw [show (((m, k) : Nat × Nat).1 : Int).tmod (((m, k) : Nat × Nat).2 : Int) = ((m % k : Nat) : Int) from wi_rem m k]
      try refine RUN ?_
      refine ⟨(k, m % k), ⟨rfl, rfl, rfl, trivial⟩, ⟨rfl, trivial⟩, rfl, ⟨hks, Nat.lt_of_le_of_lt (Nat.mod_le m k) hms, ?_⟩, hG, Nat.mod_lt _ (by omega)⟩
      ·dsimp only
       rw [← hgk, Nat.gcd_comm m k, Nat.gcd_rec k m, Nat.gcd_comm]
    ·rw [decide_eq_false hws]
     repeat (first | refine RUN ?_ | refine CV (wbinary_pv w r hw0 hr0 hw hbm) ?_ | refine CE (wbinary_pv w r hw0 hr0 hw hbm) ?_)
     rfl
 ·by_cases hlt : c1 < c2
  ·rw [ordN_lt hlt, show decide ((-1 : Int) < 0) = true from rfl]
   try refine RUN ?_
   exact ⟨c2, c1, ⟨rfl, rfl, rfl, trivial⟩, ⟨rfl, rfl, rfl, trivial⟩, rfl, by omega, h2, h1, Nat.gcd_comm _ _⟩
  ·rw [show decide (ordN c1 c2 < 0) = false by unfold ordN; rw [if_neg hlt]; split <;> rfl]
   try refine RUN ?_
   exact ⟨c1, c2, ⟨rfl, rfl, rfl, trivial⟩, ⟨rfl, rfl, rfl, trivial⟩, rfl, by omega, h1, h2, rfl⟩
theorem gcd_pv (a b : Int) (ha : bigI a) (hb : bigI b) : PV prog 51 #[intV a, intV b] (natV (Nat.gcd a.natAbs b.natAbs)) :=
 gcdN_pv a.natAbs b.natAbs ha hb _ _ (fun h => by simp; omega) (fun h => by simp; omega)
abbrev frV (n : Int) (d : Nat) : Value := .agg #[.bool (decide (n < 0)), .int .u64 (lo n.natAbs : Int), .string (moreB n.natAbs), .int .u64 (lo d : Int), .string (moreB d)]
def dk (d : Nat) : Nat := if d = 1 then 0 else d
abbrev fracV (q : Rat) : Value := frV q.num (dk q.den)
theorem dk_one : dk 1 = 0 := rfl
theorem dk_ne {d : Nat} (h : d ≠ 1) : dk d = d := if_neg h
theorem dk_bl (d : Nat) : bl (dk d) ≤ bl d := by
 unfold dk; split
 ·rw [bl_zero]; omega
 ·exact Nat.le_refl _
theorem dk_zero (q : Rat) : dk q.den = 0 ↔ q.den = 1 := by
 have := q.den_nz
 unfold dk; split <;> omega
theorem bl_one : bl 1 = 1 := by have := bl_pow2 0; simpa using this
theorem bl_eq_one {n : Nat} : bl n = 1 ↔ n = 1 := by
 constructor
 ·intro h
  have h1 := lt_bl n
  rw [h] at h1
  have : n ≠ 0 := fun e => by rw [e, bl_zero] at h; omega
  omega
 ·rintro rfl; exact bl_one
theorem beq_bl_one (n : Nat) : (((bl n : Nat) : Int) == 1) = decide (n = 1) := by
 by_cases h : n = 1
 ·rw [decide_eq_true h, bl_eq_one.2 h]; rfl
 ·rw [decide_eq_false h]
  have : bl n ≠ 1 := fun e => h (bl_eq_one.1 e)
  simp; omega
theorem frV_zero (n : Int) : frV n 0 = .agg #[.bool (decide (n < 0)), .int .u64 (lo n.natAbs : Int), .string (moreB n.natAbs), .int .u64 0, .string ⟨#[]⟩] := by
 unfold frV
 rw [moreB_empty (n := 0) (by decide)]; rfl
theorem pack_pv (n : Int) (d : Nat) (hd : big d) : PV prog 55 #[intV n, natV d] (frV n (dk d)) := by
 refine PV.of_pc ?_
 refine BD func55 ntmps55 ?_
 repeat (first | refine RUN ?_ | refine CV (bits_pv d hd) ?_ | refine CE (bits_pv d hd) ?_)
 rw [beq_bl_one]
 by_cases h : d = 1
 ·rw [decide_eq_true h]
  try refine RUN ?_
  rw [h, dk_one, frV_zero]
 ·rw [decide_eq_false h]
  try refine RUN ?_
  rw [dk_ne h]
theorem over_pv (a b : Nat) (ha : big a) (hb : big b) (h0 : b ≠ 0) : PV prog 53 #[natV a, natV b] (natV (a / b)) := by
 refine PV.of_pc ?_
 refine BD func53 ntmps53 ?_
 repeat (first | refine RUN ?_ | refine CV (bits_pv b hb) ?_ | refine CE (bits_pv b hb) ?_)
 rw [beq_bl_one]
 by_cases h : b = 1
 ·rw [decide_eq_true h]
  try refine RUN ?_
  rw [h, Nat.div_one]
 ·rw [decide_eq_false h]
  repeat (first | refine RUN ?_ | refine CV (natDiv_pv a b h0 ha hb) ?_ | refine CE (natDiv_pv a b h0 ha hb) ?_)
  rfl
theorem part_pv (n : Int) (b : Nat) (hn : bigI n) (hb : big b) (h0 : b ≠ 0) (hdv : b ∣ n.natAbs) : PV prog 56 #[intV n, natV b] (intV (n / (b : Int))) := by
 have hs : decide (n.sign < 0) = decide (n < 0) := by rw [decide_eq_decide]; exact Int.sign_neg_iff
 have hf := from_pv (decide (n < 0)) (n.natAbs / b) (Nat.le_trans (bl_div _ _) hn)
 have e : sg (decide (n < 0)) (n.natAbs / b) = n / (b : Int) := by
  rw [part_eq n b hdv]; unfold sg
  by_cases h : n < 0 <;> simp [h]
 rw [e] at hf
 refine PV.of_pc ?_
 refine BD func56 ntmps56 ?_
 try refine RUN ?_
 apply EV.drawn 7 (by kernel_rfl) (by kernel_rfl); intro xv yw
 (repeat (first | refine' DV ?_ | refine' DA ?_ | refine' DK0 ?_ | refine' DT ?_ | (refine' DC (wholeSign_pv n hn) (h := ?_); rotate_left) | refine' DS ?_))
 rw [hs]
 (repeat (first | refine' DV ?_ | refine' DA ?_ | refine' DK0 ?_ | refine' DT ?_ | (refine' DC (wholeAbs_pv n) (h := ?_); rotate_left) | (refine' DC (over_pv _ _ hn hb h0) (h := ?_); rotate_left) | refine' DS ?_))
 (refine DJ.nil (fun G hG hF => ?_); (case hS => rfl); (case hS2 => rfl))
 repeat (first | refine RUN ?_ | refine CV (hf) ?_ | refine CE (hf) ?_)
 rfl
theorem times_pv (n : Int) (d : Nat) (hn : bigI n) (hd : big d) (hnd : big (n.natAbs * d)) : PV prog 54 #[intV n, natV d] (intV (n * d)) := by
 have hm := wholeMul_pv n (d : Int) hn hd (by show big (n * (d : Int)).natAbs; rw [Int.natAbs_mul]; exact hnd)
 refine PV.of_pc ?_
 refine BD func54 ntmps54 ?_
 try refine RUN ?_
 apply EV.drawn 3 (by kernel_rfl) (by kernel_rfl); intro xv yw
 (repeat (first | refine' DV ?_ | refine' DA ?_ | refine' DK0 ?_ | refine' DT ?_ | (refine' DC (from_pv false d hd) (h := ?_); rotate_left) | refine' DS ?_))
 (refine DJ.nil (fun G hG hF => ?_); (case hS => rfl); (case hS2 => rfl))
 repeat (first | refine RUN ?_ | refine CV (hm) ?_ | refine CE (hm) ?_)
 rfl
theorem isWhole_pv (q : Rat) (h : big q.den) : PV prog 49 #[fracV q] (.bool (decide (q.den = 1))) := by
 refine PV.of_pc ?_
 refine BD func49 ntmps49 ?_
 repeat (first | refine RUN ?_ | refine CV (bits_pv (dk q.den) (Nat.le_trans (dk_bl _) h)) ?_ | refine CE (bits_pv (dk q.den) (Nat.le_trans (dk_bl _) h)) ?_)
 have e : (((bl (dk q.den) : Nat) : Int) == 0) = decide (q.den = 1) := by
  by_cases h1 : q.den = 1
  ·rw [decide_eq_true h1, (dk_zero q).2 h1, bl_zero]; rfl
  ·rw [decide_eq_false h1]
   have h2 : bl (dk q.den) ≠ 0 := fun e => h1 ((dk_zero q).1 (bl_eq_zero.1 e))
   simp; omega
 rw [e]
theorem den_pv (q : Rat) (h : big q.den) : PV prog 52 #[fracV q] (natV q.den) := by
 refine PV.of_pc ?_
 refine BD func52 ntmps52 ?_
 repeat (first | refine RUN ?_ | refine CV (isWhole_pv q h) ?_ | refine CE (isWhole_pv q h) ?_)
 by_cases h1 : q.den = 1
 ·rw [decide_eq_true h1]
  repeat (first | refine RUN ?_ | refine CV (natOf_pv 1 (by decide)) ?_ | refine CE (natOf_pv 1 (by decide)) ?_)
  rw [h1]
 ·rw [decide_eq_false h1]
  try refine RUN ?_
  rw [dk_ne h1]
theorem sign_pv (q : Rat) (h : bigI q.num) : PV prog 28 #[fracV q] (.int .i64 q.num.sign) := by
 refine PV.of_pc ?_
 refine BD func28 ntmps28 ?_
 repeat (first | refine RUN ?_ | refine CV (wholeSign_pv q.num h) ?_ | refine CE (wholeSign_pv q.num h) ?_)
 rfl
theorem num_pv (q : Rat) : PV prog 125 #[fracV q] (intV q.num) := by
 refine PV.of_pc ?_
 refine BD func125 ntmps125 ?_
 try refine RUN ?_
 rfl
theorem neg_pv (q : Rat) (h : bigI q.num) : PV prog 74 #[fracV q] (fracV (-q)) := by
 refine PV.of_pc ?_
 refine BD func74 ntmps74 ?_
 try refine RUN ?_
 (apply EV.drawn 5 (by kernel_rfl) (by kernel_rfl); intro xv yw; (repeat (first | refine' DV ?_ | refine' DA ?_ | refine' DK0 ?_ | (refine' DC (wholeNeg_pv q.num h) (h := ?_); rotate_left) | refine' DS ?_)); refine DJ.nil (fun G hG hF => ?_); (case hS => rfl); (case hS2 => rfl))
 try refine RUN ?_
 rfl
theorem of_pv (z : Int) (h1 : -9223372036854775808 ≤ z) (h2 : z < 9223372036854775808) : PV prog 17 #[.int .i64 z] (fracV (z : Rat)) := by
 refine PV.of_pc ?_
 refine BD func17 ntmps17 ?_
 repeat (first | refine RUN ?_ | refine CV (wholeOf_pv z h1 h2) ?_ | refine CE (wholeOf_pv z h1 h2) ?_)
 show _ = frV z 0
 rw [frV_zero]
theorem lowest_pv (n : Int) (d : Nat) (hn : bigI n) (hd : big d) (h0 : d ≠ 0) : PV prog 135 #[intV n, natV d] (fracV (mkRat n d)) := by
 have hl := rat_lowest n d h0
 have hg0 : Nat.gcd n.natAbs d ≠ 0 := Nat.gcd_ne_zero_right h0
 have hgb : big (Nat.gcd n.natAbs d) := Nat.le_trans (bl_gcd_right _ _ h0) hd
 have hg := gcd_pv n (d : Int) hn hd
 have f1 := part_pv n (Nat.gcd n.natAbs d) hn hgb hg0 (Nat.gcd_dvd_left ..)
 have f2 := over_pv d (Nat.gcd n.natAbs d) hd hgb hg0
 have f3 := pack_pv (n / (Nat.gcd n.natAbs d : Nat)) (d / Nat.gcd n.natAbs d) (Nat.le_trans (bl_div _ _) hd)
 rw [← hl.1] at f1
 rw [← hl.2] at f2
 rw [← hl.1, ← hl.2] at f3
 refine PV.of_pc ?_
 refine BD func135 ntmps135 ?_
 try refine RUN ?_
 (apply EV.drawn 5 (by kernel_rfl) (by kernel_rfl); intro xv yw; (repeat (first | refine' DV ?_ | refine' DA ?_ | refine' DK0 ?_ | (refine' DC (from_pv false d hd) (h := ?_); rotate_left) | (refine' DC (hg) (h := ?_); rotate_left) | refine' DS ?_)); refine DJ.nil (fun G hG hF => ?_); (case hS => rfl); (case hS2 => rfl))
 try refine RUN ?_
 (apply EV.drawn 7 (by kernel_rfl) (by kernel_rfl); intro xv yw; (repeat (first | refine' DV ?_ | refine' DA ?_ | refine' DK0 ?_ | (refine' DC (f1) (h := ?_); rotate_left) | (refine' DC (f2) (h := ?_); rotate_left) | (refine' DC (f3) (h := ?_); rotate_left) | refine' DS ?_)); refine DJ.nil (fun G hG hF => ?_); (case hS => rfl); (case hS2 => rfl))
 try refine RUN ?_
 rfl
theorem make_pv (n d : Int) (hn : bigI n) (hd : bigI d) (h0 : d ≠ 0) : PV prog 96 #[intV n, intV d] (.tuple #[fracV (mkRat (if d < 0 then -n else n) d.natAbs), .bool true]) := by
 have l1 := lowest_pv (-n) d.natAbs (by show big (-n).natAbs; rw [Int.natAbs_neg]; exact hn) hd (by omega)
 have l2 := lowest_pv n d.natAbs hn hd (by omega)
 refine PV.of_pc ?_
 refine BD func96 ntmps96 ?_
 repeat (first | refine RUN ?_ | refine CV (wholeSign_pv d hd) ?_ | refine CE (wholeSign_pv d hd) ?_)
 rw [show (d.sign == 0) = false by simp [Int.sign_eq_zero_iff_zero, h0]]
 repeat (first | refine RUN ?_ | refine CV (wholeSign_pv d hd) ?_ | refine CE (wholeSign_pv d hd) ?_)
 by_cases h : d < 0
 ·rw [decide_eq_true (Int.sign_neg_iff.2 h), if_pos h]
  repeat (first | refine RUN ?_ | refine CV (wholeNeg_pv n hn) ?_ | refine CE (wholeNeg_pv n hn) ?_)
  apply EV.drawn 3 (by kernel_rfl) (by kernel_rfl); intro xv yw
  (repeat (first | refine' DV ?_ | refine' DA ?_ | refine' DK0 ?_ | refine' DT ?_ | (refine' DC (wholeAbs_pv d) (h := ?_); rotate_left) | refine' DS ?_))
  (refine DJ.nil (fun G hG hF => ?_); (case hS => rfl); (case hS2 => rfl))
  repeat (first | refine RUN ?_ | refine CV (l1) ?_ | refine CE (l1) ?_)
  rfl
 ·rw [decide_eq_false (fun e => h (Int.sign_neg_iff.1 e)), if_neg h]
  try refine RUN ?_
  apply EV.drawn 3 (by kernel_rfl) (by kernel_rfl); intro xv yw
  (repeat (first | refine' DV ?_ | refine' DA ?_ | refine' DK0 ?_ | refine' DT ?_ | (refine' DC (wholeAbs_pv d) (h := ?_); rotate_left) | refine' DS ?_))
  (refine DJ.nil (fun G hG hF => ?_); (case hS => rfl); (case hS2 => rfl))
  repeat (first | refine RUN ?_ | refine CV (l2) ?_ | refine CE (l2) ?_)
  rfl
abbrev frL (n : Int) (d : Nat) : List Value := [.bool (decide (n < 0)), .int .u64 (lo n.natAbs : Int), .string (moreB n.natAbs), .int .u64 (lo d : Int), .string (moreB d)]
abbrev sm (q : Rat) : Prop := ht q ≤ 100000000
theorem sm.num {q : Rat} (h : sm q) : bl q.num.natAbs ≤ 100000000 := Nat.le_trans (bl_num_le q) h
theorem sm.den {q : Rat} (h : sm q) : bl q.den ≤ 100000000 := Nat.le_trans (bl_den_le q) h
theorem mul_pv (a b : Rat) (ha : sm a) (hb : sm b) : PV prog 18 #[fracV a, fracV b] (fracV (a * b)) := by
 have na := ha.num; have da := ha.den; have nb := hb.num; have db := hb.den
 have bna : bigI a.num := Nat.le_trans na (by omega)
 have bnb : bigI b.num := Nat.le_trans nb (by omega)
 have bda : big a.den := Nat.le_trans da (by omega)
 have bdb : big b.den := Nat.le_trans db (by omega)
 have hm := rat_mul a b _ _ rfl rfl
 generalize hg : Nat.gcd a.num.natAbs b.den = g at hm
 generalize hh : Nat.gcd b.num.natAbs a.den = h at hm
 have hg0 : g ≠ 0 := by rw [← hg]; exact Nat.gcd_ne_zero_right b.den_nz
 have hh0 : h ≠ 0 := by rw [← hh]; exact Nat.gcd_ne_zero_right a.den_nz
 have bg : big g := by rw [← hg]; exact Nat.le_trans (bl_gcd_right _ _ b.den_nz) bdb
 have bh : big h := by rw [← hh]; exact Nat.le_trans (bl_gcd_right _ _ a.den_nz) bda
 have g1 := gcd_pv a.num (b.den : Int) bna bdb
 have g2 := gcd_pv b.num (a.den : Int) bnb bda
 rw [Int.natAbs_natCast, hg] at g1
 rw [Int.natAbs_natCast, hh] at g2
 have p1 := part_pv a.num g bna bg hg0 (by rw [← hg]; exact Nat.gcd_dvd_left ..)
 have p2 := part_pv b.num h bnb bh hh0 (by rw [← hh]; exact Nat.gcd_dvd_left ..)
 have b1 : bl (a.num / (g : Int)).natAbs ≤ 100000000 := Nat.le_trans (bl_mono (natAbs_ediv_le _ _)) na
 have b2 : bl (b.num / (h : Int)).natAbs ≤ 100000000 := Nat.le_trans (bl_mono (natAbs_ediv_le _ _)) nb
 have b3 : bl (a.den / h) ≤ 100000000 := Nat.le_trans (bl_div _ _) da
 have b4 : bl (b.den / g) ≤ 100000000 := Nat.le_trans (bl_div _ _) db
 have m1 := wholeMul_pv (a.num / (g : Int)) (b.num / (h : Int)) (Nat.le_trans b1 (by omega)) (Nat.le_trans b2 (by omega)) (by
  show big (_ * _ : Int).natAbs
  rw [Int.natAbs_mul]; have := bl_mul (a.num / (g : Int)).natAbs (b.num / (h : Int)).natAbs; show bl _ ≤ _; omega)
 have m2 := natMul_pv (a.den / h) (b.den / g) (Nat.le_trans b3 (by omega)) (Nat.le_trans b4 (by omega))
 have pk := pack_pv (a * b).num (a * b).den (by rw [hm.2]; have := bl_mul (a.den / h) (b.den / g); show bl _ ≤ _; omega)
 have o1 := over_pv a.den h bda bh hh0
 have o2 := over_pv b.den g bdb bg hg0
 rw [← hm.1] at m1
 rw [← hm.2] at m2
 have w1 := isWhole_pv a bda
 have w2 := isWhole_pv b bdb
 refine PV.of_pc ?_
 refine BD func18 ntmps18 ?_
 repeat (first | refine RUN ?_ | refine CV (w1) ?_ | refine CE (w1) ?_)
 refine EVL.meet (fun env' bx' H' => SubL env' [(12, .v (.bool (decide (a.den = 1 ∧ b.den = 1)))), (4, .p 4 0), (3, .p 3 0), (2, .p 2 0)] ∧ SubX bx' [(4, 45, Tryz.te45.zero), (3, 45, frL b.num (dk b.den)), (2, 45, frL a.num (dk a.den))] ∧ H' = ⟨fun _ => none, [], ⟨fun _ => none, []⟩⟩) ?_ ?_
 ·rintro env' bx' H' _ ⟨he, hbx, rfl⟩
  refine EV.less _ _ he hbx rfl ?_
  by_cases hab : a.den = 1 ∧ b.den = 1
  ·rw [decide_eq_true hab]
   have e1 : g = 1 := by rw [← hg, hab.2, Nat.gcd_one_right]
   have e2 : h = 1 := by rw [← hh, hab.1, Nat.gcd_one_right]
   have e3 : (a * b).den = 1 := by rw [hm.2, hab.1, hab.2, e1, e2]
   rw [e1, e2] at m1
   simp only [Int.natCast_one, Int.ediv_one] at m1
   repeat (first | refine RUN ?_ | refine CV (m1) ?_ | refine CE (m1) ?_)
   show _ = frV (a * b).num (dk (a * b).den)
   rw [e3, dk_one, frV_zero]
  ·rw [decide_eq_false hab]
   try refine RUN ?_
   have d1 := den_pv a bda
   have d2 := den_pv b bdb
   have s1 := from_pv false a.den bda
   have s2 := from_pv false b.den bdb
   (apply EV.drawn 7 (by kernel_rfl) (by kernel_rfl); intro xv yw; (repeat (first | refine' DV ?_ | refine' DA ?_ | refine' DK0 ?_ | (refine' DC (d2) (h := ?_); rotate_left) | (refine' DC (s2) (h := ?_); rotate_left) | (refine' DC (g1) (h := ?_); rotate_left) | refine' DS ?_)); refine DJ.nil (fun G hG hF => ?_); (case hS => rfl); (case hS2 => rfl))
   try refine RUN ?_
   (apply EV.drawn 7 (by kernel_rfl) (by kernel_rfl); intro xv yw; (repeat (first | refine' DV ?_ | refine' DA ?_ | refine' DK0 ?_ | (refine' DC (d1) (h := ?_); rotate_left) | (refine' DC (s1) (h := ?_); rotate_left) | (refine' DC (g2) (h := ?_); rotate_left) | refine' DS ?_)); refine DJ.nil (fun G hG hF => ?_); (case hS => rfl); (case hS2 => rfl))
   try refine RUN ?_
   apply EV.drawn 16 (by kernel_rfl) (by kernel_rfl); intro xv yw
   (repeat (first | refine' DV ?_ | refine' DA ?_ | refine' DK0 ?_ | refine' DT ?_ | (refine' DC (p1) (h := ?_); rotate_left) | (refine' DC (p2) (h := ?_); rotate_left) | (refine' DC (m1) (h := ?_); rotate_left) | (refine' DC (d1) (h := ?_); rotate_left) | (refine' DC (d2) (h := ?_); rotate_left) | (refine' DC (o1) (h := ?_); rotate_left) | (refine' DC (o2) (h := ?_); rotate_left) | refine' DS ?_))
   (refine DJ.nil (fun G hG hF => ?_); (case hS => rfl); (case hS2 => rfl))
   repeat (first | refine RUN ?_ | refine CV (o2) ?_ | refine CV (m2) ?_ | refine CV (pk) ?_ | refine CE (o2) ?_ | refine CE (m2) ?_ | refine CE (pk) ?_)
   rfl
 ·by_cases ha1 : a.den = 1
  ·rw [decide_eq_true ha1]
   repeat (first | refine RUN ?_ | refine CV (w2) ?_ | refine CE (w2) ?_)
   refine ⟨⟨?_, rfl, rfl, rfl, trivial⟩, ⟨rfl, rfl, rfl, trivial⟩, rfl⟩
   simp [ha1]; rfl
  ·rw [decide_eq_false ha1]
   try refine RUN ?_
   refine ⟨⟨?_, rfl, rfl, rfl, trivial⟩, ⟨rfl, rfl, rfl, trivial⟩, rfl⟩
   simp [ha1]; rfl
theorem add_pv (a b : Rat) (ha : sm a) (hb : sm b) : PV prog 16 #[fracV a, fracV b] (fracV (a + b)) := by
 have na := ha.num; have da := ha.den; have nb := hb.num; have db := hb.den
 have bna : bigI a.num := Nat.le_trans na (by omega)
 have bnb : bigI b.num := Nat.le_trans nb (by omega)
 have bda : big a.den := Nat.le_trans da (by omega)
 have bdb : big b.den := Nat.le_trans db (by omega)
 have hm := rat_add a b _ _ _ _ _ rfl rfl rfl rfl rfl
 generalize hg : Nat.gcd a.den b.den = g at hm
 have hg0 : g ≠ 0 := by rw [← hg]; exact Nat.gcd_ne_zero_right b.den_nz
 have bgl : bl g ≤ 100000000 := by rw [← hg]; exact Nat.le_trans (bl_gcd_right _ _ b.den_nz) db
 have bg : big g := Nat.le_trans bgl (by omega)
 have g1 := gcd_pv (a.den : Int) (b.den : Int) bda bdb
 rw [Int.natAbs_natCast, Int.natAbs_natCast, hg] at g1
 have o1 := over_pv a.den g bda bg hg0
 have o2 := over_pv b.den g bdb bg hg0
 have b1 : bl (a.den / g) ≤ 100000000 := Nat.le_trans (bl_div _ _) da
 have b2 : bl (b.den / g) ≤ 100000000 := Nat.le_trans (bl_div _ _) db
 have hone : a.den = 1 ∧ b.den = 1 → g = 1 ∧ a.den / g = 1 ∧ b.den / g = 1 := fun h => by
  have : g = 1 := by rw [← hg, h.1, h.2]; rfl
  rw [this, h.1, h.2]; exact ⟨rfl, rfl, rfl⟩
 generalize hdown : a.den / g = down at *
 generalize hother : b.den / g = other at *
 have c1 := bl_mul a.num.natAbs other
 have c2 := bl_mul b.num.natAbs down
 have t1 := times_pv a.num other bna (Nat.le_trans b2 (by omega)) (by show bl _ ≤ _; omega)
 have t2 := times_pv b.num down bnb (Nat.le_trans b1 (by omega)) (by show bl _ ≤ _; omega)
 have c1' : bl (a.num * (other : Int)).natAbs ≤ 200000000 := by rw [Int.natAbs_mul]; simp; omega
 have c2' : bl (b.num * (down : Int)).natAbs ≤ 200000000 := by rw [Int.natAbs_mul]; simp; omega
 have c3 := bl_add (a.num * (other : Int)).natAbs (b.num * (down : Int)).natAbs
 have ad := wholeAdd_pv (a.num * (other : Int)) (b.num * (down : Int)) (Nat.le_trans c1' (by omega)) (Nat.le_trans c2' (by omega)) (by show bl _ ≤ _; omega)
 have bup : bl (a.num * (other : Int) + b.num * (down : Int)).natAbs ≤ 200000001 := by
  have := bl_natAbs_add (a.num * (other : Int)) (b.num * (down : Int)); omega
 generalize hup : a.num * (other : Int) + b.num * (down : Int) = up at *
 generalize hh : Nat.gcd up.natAbs g = h at hm
 have hh0 : h ≠ 0 := by rw [← hh]; exact Nat.gcd_ne_zero_right hg0
 have bh : big h := by rw [← hh]; exact Nat.le_trans (bl_gcd_right _ _ hg0) bg
 have g2 := gcd_pv up (g : Int) (Nat.le_trans bup (by omega)) bg
 rw [Int.natAbs_natCast, hh] at g2
 have p1 := part_pv up h (Nat.le_trans bup (by omega)) bh hh0 (by rw [← hh]; exact Nat.gcd_dvd_left ..)
 have o3 := over_pv b.den h bdb bh hh0
 have b4 : bl (b.den / h) ≤ 100000000 := Nat.le_trans (bl_div _ _) db
 have m2 := natMul_pv down (b.den / h) (Nat.le_trans b1 (by omega)) (Nat.le_trans b4 (by omega))
 have pk := pack_pv (a + b).num (a + b).den (by rw [hm.2]; have := bl_mul down (b.den / h); show bl _ ≤ _; omega)
 rw [← hm.1] at p1
 rw [← hm.2] at m2
 have w1 := isWhole_pv a bda
 have w2 := isWhole_pv b bdb
 refine PV.of_pc ?_
 refine BD func16 ntmps16 ?_
 repeat (first | refine RUN ?_ | refine CV (w1) ?_ | refine CE (w1) ?_)
 refine EVL.meet (fun env' bx' H' => SubL env' [(15, .v (.bool (decide (a.den = 1 ∧ b.den = 1)))), (4, .p 4 0), (3, .p 3 0), (2, .p 2 0)] ∧ SubX bx' [(4, 45, Tryz.te45.zero), (3, 45, frL b.num (dk b.den)), (2, 45, frL a.num (dk a.den))] ∧ H' = ⟨fun _ => none, [], ⟨fun _ => none, []⟩⟩) ?_ ?_
 ·rintro env' bx' H' _ ⟨he, hbx, rfl⟩
  refine EV.less _ _ he hbx rfl ?_
  by_cases hab : a.den = 1 ∧ b.den = 1
  ·rw [decide_eq_true hab]
   obtain ⟨e1, e2, e3⟩ := hone hab
   have e4 : h = 1 := by rw [← hh, e1, Nat.gcd_one_right]
   have e5 : (a + b).den = 1 := by rw [hm.2, e2, hab.2, e4]
   have e6 : (a + b).num = a.num + b.num := by rw [hm.1, e4, ← hup, e2, e3]; simp
   have c4 := bl_add a.num.natAbs b.num.natAbs
   have ad' := wholeAdd_pv a.num b.num bna bnb (by show bl _ ≤ _; omega)
   repeat (first | refine RUN ?_ | refine CV (ad') ?_ | refine CE (ad') ?_)
   show _ = frV (a + b).num (dk (a + b).den)
   rw [e5, dk_one, frV_zero, e6]
  ·rw [decide_eq_false hab]
   try refine RUN ?_
   have d1 := den_pv a bda
   have d2 := den_pv b bdb
   have s1 := from_pv false a.den bda
   have s2 := from_pv false b.den bdb
   have s3 := from_pv false g bg
   (apply EV.drawn 8 (by kernel_rfl) (by kernel_rfl); intro xv yw; (repeat (first | refine' DV ?_ | refine' DA ?_ | refine' DK0 ?_ | (refine' DC (d1) (h := ?_); rotate_left) | (refine' DC (s1) (h := ?_); rotate_left) | (refine' DC (d2) (h := ?_); rotate_left) | (refine' DC (s2) (h := ?_); rotate_left) | (refine' DC (g1) (h := ?_); rotate_left) | refine' DS ?_)); refine DJ.nil (fun G hG hF => ?_); (case hS => rfl); (case hS2 => rfl))
   try refine RUN ?_
   (apply EV.drawn 10 (by kernel_rfl) (by kernel_rfl); intro xv yw; (repeat (first | refine' DV ?_ | refine' DA ?_ | refine' DK0 ?_ | (refine' DC (d1) (h := ?_); rotate_left) | (refine' DC (d2) (h := ?_); rotate_left) | (refine' DC (o1) (h := ?_); rotate_left) | (refine' DC (o2) (h := ?_); rotate_left) | refine' DS ?_)); refine DJ.nil (fun G hG hF => ?_); (case hS => rfl); (case hS2 => rfl))
   try refine RUN ?_
   (apply EV.drawn 10 (by kernel_rfl) (by kernel_rfl); intro xv yw; (repeat (first | refine' DV ?_ | refine' DA ?_ | refine' DK0 ?_ | (refine' DC (t1) (h := ?_); rotate_left) | (refine' DC (t2) (h := ?_); rotate_left) | (refine' DC (ad) (h := ?_); rotate_left) | refine' DS ?_)); refine DJ.nil (fun G hG hF => ?_); (case hS => rfl); (case hS2 => rfl))
   try refine RUN ?_
   (apply EV.drawn 5 (by kernel_rfl) (by kernel_rfl); intro xv yw; (repeat (first | refine' DV ?_ | refine' DA ?_ | refine' DK0 ?_ | (refine' DC (s3) (h := ?_); rotate_left) | (refine' DC (g2) (h := ?_); rotate_left) | refine' DS ?_)); refine DJ.nil (fun G hG hF => ?_); (case hS => rfl); (case hS2 => rfl))
   try refine RUN ?_
   (apply EV.drawn 10 (by kernel_rfl) (by kernel_rfl); intro xv yw; (repeat (first | refine' DV ?_ | refine' DA ?_ | refine' DK0 ?_ | (refine' DC (p1) (h := ?_); rotate_left) | (refine' DC (d2) (h := ?_); rotate_left) | (refine' DC (o3) (h := ?_); rotate_left) | (refine' DC (m2) (h := ?_); rotate_left) | (refine' DC (pk) (h := ?_); rotate_left) | refine' DS ?_)); refine DJ.nil (fun G hG hF => ?_); (case hS => rfl); (case hS2 => rfl))
   try refine RUN ?_
   rfl
 ·by_cases ha1 : a.den = 1
  ·rw [decide_eq_true ha1]
   repeat (first | refine RUN ?_ | refine CV (w2) ?_ | refine CE (w2) ?_)
   refine ⟨⟨?_, rfl, rfl, rfl, trivial⟩, ⟨rfl, rfl, rfl, trivial⟩, rfl⟩
   simp [ha1]; rfl
  ·rw [decide_eq_false ha1]
   try refine RUN ?_
   refine ⟨⟨?_, rfl, rfl, rfl, trivial⟩, ⟨rfl, rfl, rfl, trivial⟩, rfl⟩
   simp [ha1]; rfl
theorem sub_pv (a b : Rat) (ha : sm a) (hb : sm b) : PV prog 25 #[fracV a, fracV b] (fracV (a - b)) := by
 have h1 := neg_pv b (Nat.le_trans hb.num (by omega))
 have h2 := add_pv a (-b) ha (by show ht (-b) ≤ _; rw [ht_neg]; exact hb)
 rw [← Rat.sub_eq_add_neg] at h2
 refine PV.of_pc ?_
 refine BD func25 ntmps25 ?_
 try refine RUN ?_
 (apply EV.drawn 4 (by kernel_rfl) (by kernel_rfl); intro xv yw; (repeat (first | refine' DV ?_ | refine' DA ?_ | refine' DK0 ?_ | (refine' DC (h1) (h := ?_); rotate_left) | (refine' DC (h2) (h := ?_); rotate_left) | refine' DS ?_)); refine DJ.nil (fun G hG hF => ?_); (case hS => rfl); (case hS2 => rfl))
 try refine RUN ?_
 rfl
theorem inv_frV (b : Rat) (h : b.num ≠ 0) : frV (sg (decide (b.num < 0)) b.den) (dk b.num.natAbs) = fracV b⁻¹ := by
 have e1 : b⁻¹.num = sg (decide (b.num < 0)) b.den := by
  rw [Rat.num_inv]; unfold sg
  rcases Int.lt_or_lt_of_ne h with h1 | h1
  ·simp [h1, Int.sign_eq_neg_one_of_neg h1]
  ·rw [Int.sign_eq_one_of_pos h1, decide_eq_false (by omega)]; simp
 have e2 : b⁻¹.den = b.num.natAbs := by
  rw [Rat.den_inv, if_neg]
  exact h
 rw [← e1, ← e2]
theorem div_pv (a b : Rat) (ha : sm a) (hb : sm b) (h0 : b ≠ 0) : PV prog 116 #[fracV a, fracV b] (.tuple #[fracV (a / b), .bool true]) := by
 have hn0 : b.num ≠ 0 := fun e => h0 (Rat.num_eq_zero.1 e)
 have bnb : bigI b.num := Nat.le_trans hb.num (by omega)
 have bdb : big b.den := Nat.le_trans hb.den (by omega)
 have hm := mul_pv a b⁻¹ ha (Nat.le_trans (ht_inv b) hb)
 rw [← Rat.div_def] at hm
 have hp := pack_pv (sg (decide (b.num < 0)) b.den) b.num.natAbs bnb
 rw [inv_frV b hn0] at hp
 have s1 := from_pv (decide (b.num < 0)) b.den bdb
 have sg1 := sign_pv b bnb
 have ab := wholeAbs_pv b.num
 have d2 := den_pv b bdb
 refine PV.of_pc ?_
 refine BD func116 ntmps116 ?_
 repeat (first | refine RUN ?_ | refine CV (sg1) ?_ | refine CE (sg1) ?_)
 rw [show (b.num.sign == 0) = false by simp [Int.sign_eq_zero_iff_zero, hn0]]
 try refine RUN ?_
 apply EV.drawn 11 (by kernel_rfl) (by kernel_rfl); intro xv yw
 (repeat (first | refine' DV ?_ | refine' DA ?_ | refine' DK0 ?_ | refine' DT ?_ | (refine' DC (sg1) (h := ?_); rotate_left) | refine' DS ?_))
 rw [show decide (b.num.sign < 0) = decide (b.num < 0) by rw [decide_eq_decide]; exact Int.sign_neg_iff]
 (repeat (first | refine' DV ?_ | refine' DA ?_ | refine' DK0 ?_ | refine' DT ?_ | (refine' DC (d2) (h := ?_); rotate_left) | (refine' DC (s1) (h := ?_); rotate_left) | (refine' DC (ab) (h := ?_); rotate_left) | (refine' DC (hp) (h := ?_); rotate_left) | refine' DS ?_))
 (refine DJ.nil (fun G hG hF => ?_); (case hS => rfl); (case hS2 => rfl))
 repeat (first | refine RUN ?_ | refine CV (hm) ?_ | refine CE (hm) ?_)
 rfl
theorem div_zero_pv (a : Rat) : PV prog 116 #[fracV a, fracV 0] (.tuple #[fracV 0, .bool false]) := by
 have sg1 := sign_pv 0 (by show bl 0 ≤ _; rw [bl_zero]; omega)
 refine PV.of_pc ?_
 refine BD func116 ntmps116 ?_
 repeat (first | refine RUN ?_ | refine CV (sg1) ?_ | refine CE (sg1) ?_)
 show _ = Value.tuple #[frV 0 0, .bool false]
 rw [frV_zero, show (0 : Int).natAbs = 0 from rfl, moreB_empty (n := 0) (by decide)]; rfl
theorem ordZ_scale (x y p q : Int) (hp : 0 < p) (hq : 0 < q) (h : x.sign ≠ y.sign) : ordZ x y = ordZ (x * p) (y * q) := by
 have f1 : x < 0 → x * p < 0 := fun h => Int.mul_neg_of_neg_of_pos h hp
 have f2 : 0 < x → 0 < x * p := fun h => Int.mul_pos h hp
 have f3 : y < 0 → y * q < 0 := fun h => Int.mul_neg_of_neg_of_pos h hq
 have f4 : 0 < y → 0 < y * q := fun h => Int.mul_pos h hq
 have f5 : x = 0 → x * p = 0 := fun h => by rw [h, Int.zero_mul]
 have f6 : y = 0 → y * q = 0 := fun h => by rw [h, Int.zero_mul]
 generalize x * p = u at *
 generalize y * q = v at *
 rcases Int.lt_trichotomy x 0 with hx | hx | hx <;> rcases Int.lt_trichotomy y 0 with hy | hy | hy
 ·exact absurd (by rw [Int.sign_eq_neg_one_of_neg hx, Int.sign_eq_neg_one_of_neg hy]) h
 ·unfold ordZ; rw [if_pos (by omega), if_pos (by have := f1 hx; have := f6 hy; omega)]
 ·unfold ordZ; rw [if_pos (by omega), if_pos (by have := f1 hx; have := f4 hy; omega)]
 ·unfold ordZ; rw [if_neg (by omega), if_pos (by omega), if_neg (by have := f5 hx; have := f3 hy; omega), if_pos (by have := f5 hx; have := f3 hy; omega)]
 ·exact absurd (by rw [hx, hy]) h
 ·unfold ordZ; rw [if_pos (by omega), if_pos (by have := f5 hx; have := f4 hy; omega)]
 ·unfold ordZ; rw [if_neg (by omega), if_pos (by omega), if_neg (by have := f2 hx; have := f3 hy; omega), if_pos (by have := f2 hx; have := f3 hy; omega)]
 ·unfold ordZ; rw [if_neg (by omega), if_pos (by omega), if_neg (by have := f2 hx; have := f6 hy; omega), if_pos (by have := f2 hx; have := f6 hy; omega)]
 ·exact absurd (by rw [Int.sign_eq_one_of_pos hx, Int.sign_eq_one_of_pos hy]) h
theorem sign_ne (a b : Rat) (h : a.num.sign ≠ b.num.sign) : ordZ a.num b.num = ordR a b := by
 have := Nat.pos_of_ne_zero a.den_nz
 have := Nat.pos_of_ne_zero b.den_nz
 rw [ordR_eq]; exact ordZ_scale _ _ _ _ (by omega) (by omega) h
theorem cmp_pv (a b : Rat) (ha : sm a) (hb : sm b) : PV prog 21 #[fracV a, fracV b] (.int .i64 (ordR a b)) := by
 have na := ha.num; have da := ha.den; have nb := hb.num; have db := hb.den
 have bna : bigI a.num := Nat.le_trans na (by omega)
 have bnb : bigI b.num := Nat.le_trans nb (by omega)
 have bda : big a.den := Nat.le_trans da (by omega)
 have bdb : big b.den := Nat.le_trans db (by omega)
 have w1 := isWhole_pv a bda
 have w2 := isWhole_pv b bdb
 have s1 := sign_pv a bna
 have s2 := sign_pv b bnb
 have d1 := den_pv a bda
 have d2 := den_pv b bdb
 have c1 := bl_mul a.num.natAbs b.den
 have c2 := bl_mul b.num.natAbs a.den
 have t1 := times_pv a.num b.den bna bdb (by show bl _ ≤ _; omega)
 have t2 := times_pv b.num a.den bnb bda (by show bl _ ≤ _; omega)
 have k1 := wholeCmp_pv a.num b.num bna bnb
 have k2 := wholeCmp_pv (a.num * (b.den : Int)) (b.num * (a.den : Int)) (by show bl _ ≤ _; rw [Int.natAbs_mul]; simp; omega) (by show bl _ ≤ _; rw [Int.natAbs_mul]; simp; omega)
 rw [← ordR_eq] at k2
 refine PV.of_pc ?_
 refine BD func21 ntmps21 ?_
 try refine RUN ?_
 by_cases ha1 : a.den = 1
 ·rw [decide_eq_true ha1] at w1
  by_cases hb1 : b.den = 1
  ·rw [decide_eq_true hb1] at w2
   have e : ordZ a.num b.num = ordR a b := by rw [ordR_eq, ha1, hb1]; simp
   rw [e] at k1
   apply EV.drawn 10 (by kernel_rfl) (by kernel_rfl); intro xv yw
   (repeat (first | refine' DV ?_ | refine' DA ?_ | refine' DK0 ?_ | refine' DT ?_ | (refine' DC (w1) (h := ?_); rotate_left) | (refine' DC (w2) (h := ?_); rotate_left) | (refine' DC (s1) (h := ?_); rotate_left) | (refine' DC (s2) (h := ?_); rotate_left) | refine' DS ?_))
   (refine DJ.nil (fun G hG hF => ?_); (case hS => rfl); (case hS2 => rfl))
   repeat (first | refine RUN ?_ | refine CV (k1) ?_ | refine CE (k1) ?_)
   rfl
  ·rw [decide_eq_false hb1] at w2
   apply EV.drawn 10 (by kernel_rfl) (by kernel_rfl); intro xv yw
   (repeat (first | refine' DV ?_ | refine' DA ?_ | refine' DK0 ?_ | refine' DT ?_ | (refine' DC (w1) (h := ?_); rotate_left) | (refine' DC (w2) (h := ?_); rotate_left) | (refine' DC (s1) (h := ?_); rotate_left) | (refine' DC (s2) (h := ?_); rotate_left) | refine' DS ?_))
   (refine DJ.nil (fun G hG hF => ?_); (case hS => rfl); (case hS2 => rfl))
   repeat (first | refine RUN ?_ | refine CV (s1) ?_ | refine CV (s2) ?_ | refine CE (s1) ?_ | refine CE (s2) ?_)
   by_cases hs : a.num.sign = b.num.sign
   ·rw [show (a.num.sign != b.num.sign) = false by simp [hs]]
    try refine RUN ?_
    apply EV.drawn 9 (by kernel_rfl) (by kernel_rfl); intro xv yw
    (repeat (first | refine' DV ?_ | refine' DA ?_ | refine' DK0 ?_ | refine' DT ?_ | (refine' DC (d2) (h := ?_); rotate_left) | (refine' DC (t1) (h := ?_); rotate_left) | (refine' DC (d1) (h := ?_); rotate_left) | refine' DS ?_))
    (refine DJ.nil (fun G hG hF => ?_); (case hS => rfl); (case hS2 => rfl))
    repeat (first | refine RUN ?_ | refine CV (t2) ?_ | refine CV (k2) ?_ | refine CE (t2) ?_ | refine CE (k2) ?_)
    rfl
   ·rw [show (a.num.sign != b.num.sign) = true by simp [hs]]
    repeat (first | refine RUN ?_ | refine CV (k1) ?_ | refine CE (k1) ?_)
    rw [sign_ne a b hs]
 ·rw [decide_eq_false ha1] at w1
  apply EV.drawn 10 (by kernel_rfl) (by kernel_rfl); intro xv yw
  (repeat (first | refine' DV ?_ | refine' DA ?_ | refine' DK0 ?_ | refine' DT ?_ | (refine' DC (w1) (h := ?_); rotate_left) | (refine' DC (w2) (h := ?_); rotate_left) | (refine' DC (s1) (h := ?_); rotate_left) | (refine' DC (s2) (h := ?_); rotate_left) | refine' DS ?_))
  (refine DJ.nil (fun G hG hF => ?_); (case hS => rfl); (case hS2 => rfl))
  repeat (first | refine RUN ?_ | refine CV (s1) ?_ | refine CV (s2) ?_ | refine CE (s1) ?_ | refine CE (s2) ?_)
  by_cases hs : a.num.sign = b.num.sign
  ·rw [show (a.num.sign != b.num.sign) = false by simp [hs]]
   try refine RUN ?_
   apply EV.drawn 9 (by kernel_rfl) (by kernel_rfl); intro xv yw
   (repeat (first | refine' DV ?_ | refine' DA ?_ | refine' DK0 ?_ | refine' DT ?_ | (refine' DC (d2) (h := ?_); rotate_left) | (refine' DC (t1) (h := ?_); rotate_left) | (refine' DC (d1) (h := ?_); rotate_left) | refine' DS ?_))
   (refine DJ.nil (fun G hG hF => ?_); (case hS => rfl); (case hS2 => rfl))
   repeat (first | refine RUN ?_ | refine CV (t2) ?_ | refine CV (k2) ?_ | refine CE (t2) ?_ | refine CE (k2) ?_)
   rfl
  ·rw [show (a.num.sign != b.num.sign) = true by simp [hs]]
   repeat (first | refine RUN ?_ | refine CV (k1) ?_ | refine CE (k1) ?_)
   rw [sign_ne a b hs]
theorem pick_pv (z m : Int) (hz : -9223372036854775808 ≤ z ∧ z < 9223372036854775808) (h0 : 0 < m) (hm : m < 4611686018427387904) : PV prog 7 #[.int .i64 z, .int .i64 m] (.int .i64 (z % m)) := by
 have h1 := Int.tmod_lt_of_pos z h0
 have h2 := Int.lt_tmod_of_pos z h0
 have e : z % m = if z.tmod m < 0 then z.tmod m + m else z.tmod m := by
  have hq := Int.mul_tdiv_add_tmod z m
  have e1 : z % m = z.tmod m % m := by
   conv => lhs; rw [← hq]
   rw [Int.mul_add_emod_self_left]
  rw [e1]
  by_cases ht : z.tmod m < 0
  ·rw [if_pos ht, ← Int.add_emod_right, Int.emod_eq_of_lt (by omega) (by omega)]
  ·rw [if_neg ht, Int.emod_eq_of_lt (by omega) h1]
 refine PV.of_pc ?_
 refine BD func7 ntmps7 ?_
 try refine RUN ?_
 refine EVL.remI rfl rfl rfl rfl rfl rfl (by omega) ?_
 generalize z.tmod m = t at *
 try refine RUN ?_
 by_cases ht : t < 0
 ·rw [if_pos ht] at e
  rw [decide_eq_true ht]
  try refine RUN ?_
  rw [e, IntKind.wrap_i64]; congr 1; omega
 ·rw [if_neg ht] at e
  rw [decide_eq_false ht]
  try refine RUN ?_
  rw [e]
theorem refNatH_pc {H : Hp} {v : Value} {n : Nat} (h : RN H v n) (hn : rsm n) : PC prog 98 #[v] H fun r _ => r = natV n := by
 have hol : (octs n).length ≤ 200000000 := by
  rw [octs_length]
  have := dig_len_bits 8 n (by omega); rw [show (2 : Nat) ^ 8 = 256 by decide] at this; rw [this]
  have : bl n ≤ 800000000 := hn
  omega
 refine BD func98 ntmps98 ?_
 try refine RUN ?_
 refine EVL.call rfl rfl rfl rfl rfl (refBytes_pc h hn) ?_
 rintro r G hr hG
 have hf := natFromBytes_pc hr (octs_dig n) hol
 rw [octs_val] at hf
 repeat (first | refine RUN ?_ | refine CV (hf) ?_ | refine CE (hf) ?_)
 rfl
theorem outNat_pc {H : Hp} (n : Nat) (hn : rsm n) : PC prog 126 #[natV n] H fun r H' => RN H' r n := by
 have hol : (octs n).length ≤ 200000000 := by
  rw [octs_length]
  have := dig_len_bits 8 n (by omega); rw [show (2 : Nat) ^ 8 = 256 by decide] at this; rw [this]
  have : bl n ≤ 800000000 := hn
  omega
 refine BD func126 ntmps126 ?_
 try refine RUN ?_
 refine EVL.call rfl rfl rfl rfl rfl (natBytes_pc n (Nat.le_trans hn (by omega)) H) ?_
 rintro r G hr hG
 have hf := refFrom_pc hr (octs_dig n) hol
 rw [octs_val] at hf
 try refine RUN ?_
 refine EVL.call rfl rfl rfl rfl rfl (hf) ?_
 rintro s G2 hs hG2
 try refine RUN ?_
 exact hs
theorem intH_pc {H : Hp} {v : Value} {z : Int} (h : RI H v z) (hz : rsm z.natAbs) : PC prog 97 #[v] H fun r _ => r = intV z := by
 obtain ⟨sa, sl, sc, rfl, hs⟩ := id h
 have hf := from_pv (decide (z < 0)) z.natAbs (Nat.le_trans hz (by omega))
 rw [sg_dec] at hf
 refine BD func97 ntmps97 ?_
 try refine RUN ?_
 apply EV.drawn 6 (by kernel_rfl) (by kernel_rfl); intro xv yw
 (repeat (first | refine' DV ?_ | refine' DA ?_ | refine' DK0 ?_ | refine' DT ?_ | refine' DS ?_))
 refine' DJ.callS rfl rfl rfl rfl rfl (cO func98) (fun G hG hd => refNatH_pc (RN.mono hs hG) hz) ?_; rotate_left
 (repeat (first | refine' DV ?_ | refine' DA ?_ | refine' DK0 ?_ | refine' DT ?_ | (refine' DC (hf) (h := ?_); rotate_left) | refine' DS ?_))
 (refine DJ.nil (fun G hG hF => ?_); (case hS => rfl); (case hS2 => rfl))
 try refine RUN ?_
 rfl
theorem outInt_pc {H : Hp} (z : Int) (hz : rsm z.natAbs) : PC prog 124 #[intV z] H fun r H' => RI H' r z := by
 have hb : bigI z := Nat.le_trans hz (by omega)
 have e1 : decide (z.sign < 0) = decide (z < 0) := by rw [decide_eq_decide, Int.sign_neg_iff]
 refine BD func124 ntmps124 ?_
 try refine RUN ?_
 apply EV.drawn 7 (by kernel_rfl) (by kernel_rfl); intro xv yw
 (repeat (first | refine' DV ?_ | refine' DA ?_ | refine' DK0 ?_ | refine' DT ?_ | (refine' DC (wholeSign_pv z hb) (h := ?_); rotate_left) | (refine' DC (wholeAbs_pv z) (h := ?_); rotate_left) | refine' DS ?_))
 refine' DJ.call rfl rfl rfl rfl rfl (cO func126) (fun G hG hd => outNat_pc z.natAbs hz) (fun _ _ _ h k => RN.mono h k) ?_; rotate_left
 rw [e1]
 refine' DJ.call rfl rfl rfl rfl rfl (cO func130) (fun G hG hd => refI_pc (decide (z < 0)) (hd.head (by kernel_rfl))) (fun _ _ _ h k => RI.mono h k) ?_; rotate_left
 (refine DJ.nil (fun G hG hF => ?_); (case hS => rfl); (case hS2 => rfl))
 obtain ⟨⟨ra, rl, rc, hr, h1⟩, _⟩ := hF
 rw [sg_dec] at hr h1
 rw [hr]
 try refine RUN ?_
 exact ⟨ra, rl, rc, rfl, h1⟩
theorem in_pc {H : Hp} {v : Value} {q : Rat} (h : RQ H v q) (hq : rq q) : PC prog 46 #[v] H fun r _ => r = fracV q := by
 obtain ⟨sa, sl, sc, ta, tl, tc, rfl, hs, ht⟩ := id h
 have hn := hq.num
 have hd' := hq.den
 have hf := from_pv false q.den (Nat.le_trans hd' (by omega))
 rw [show sg false q.den = (q.den : Int) from rfl] at hf
 have hm := make_pv q.num (q.den : Int) (Nat.le_trans hn (by omega)) (Nat.le_trans hd' (by omega)) (by have := q.den_nz; omega)
 rw [if_neg (by omega), Int.natAbs_natCast, Rat.mkRat_self] at hm
 refine BD func46 ntmps46 ?_
 try refine RUN ?_
 apply EV.drawn 14 (by kernel_rfl) (by kernel_rfl); intro xv yw
 (repeat (first | refine' DV ?_ | refine' DA ?_ | refine' DK0 ?_ | refine' DT ?_ | refine' DS ?_))
 refine' DJ.callS rfl rfl rfl rfl rfl (cO func97) (fun G hG hd => intH_pc (RQ.rnum (RN.mono hs hG)) hn) ?_; rotate_left
 (repeat (first | refine' DV ?_ | refine' DA ?_ | refine' DK0 ?_ | refine' DT ?_ | refine' DS ?_))
 refine' DJ.callS rfl rfl rfl rfl rfl (cO func98) (fun G hG hd => refNatH_pc (RN.mono ht hG) hd') ?_; rotate_left
 (repeat (first | refine' DV ?_ | refine' DA ?_ | refine' DK0 ?_ | refine' DT ?_ | (refine' DC (hf) (h := ?_); rotate_left) | (refine' DC (hm) (h := ?_); rotate_left) | refine' DS ?_))
 (refine DJ.nil (fun G hG hF => ?_); (case hS => rfl); (case hS2 => rfl))
 try refine RUN ?_
 rfl
theorem out_pc {H : Hp} (q : Rat) (hq : rq q) : PC prog 78 #[fracV q] H fun r H' => RQ H' r q := by
 have hn := hq.num
 have hd' := hq.den
 refine BD func78 ntmps78 ?_
 try refine RUN ?_
 apply EV.drawn 6 (by kernel_rfl) (by kernel_rfl); intro xv yw
 (repeat (first | refine' DV ?_ | refine' DA ?_ | refine' DK0 ?_ | refine' DT ?_ | (refine' DC (num_pv q) (h := ?_); rotate_left) | (refine' DC (den_pv q (Nat.le_trans hd' (by omega))) (h := ?_); rotate_left) | refine' DS ?_))
 refine' DJ.call rfl rfl rfl rfl rfl (cO func124) (fun G hG hd => outInt_pc q.num hn) (fun _ _ _ h k => RI.mono h k) ?_; rotate_left
 (repeat (first | refine' DV ?_ | refine' DA ?_ | refine' DK0 ?_ | refine' DT ?_ | (refine' DC (num_pv q) (h := ?_); rotate_left) | (refine' DC (den_pv q (Nat.le_trans hd' (by omega))) (h := ?_); rotate_left) | refine' DS ?_))
 refine' DJ.call rfl rfl rfl rfl rfl (cO func126) (fun G hG hd => outNat_pc q.den hd') (fun _ _ _ h k => RN.mono h k) ?_; rotate_left
 (refine DJ.nil (fun G hG hF => ?_); (case hS => rfl); (case hS2 => rfl))
 obtain ⟨hN, ⟨ra, rl, rc, hr, h1⟩, _⟩ := hF
 obtain ⟨xa, xc, hx⟩ := SlC.val hN
 rw [hx] at hN
 rw [hx, hr]
 try refine RUN ?_
 exact ⟨ra, rl, rc, xa, _, xc, rfl, h1, hN⟩
theorem refCmpN_pc {H : Hp} {u v : Value} {a b : Nat} (hu : RN H u a) (hv : RN H v b) (ha : rsm a) : PC prog 79 #[u, v] H fun r _ => r = .int .i64 (ordN a b) := by
 have la := ha.len
 have := refCmpL_pc hu hv (dig_norm B32_two _) (dig_norm B32_two _) (by omega)
 rwa [dig_val B32_two, dig_val B32_two] at this
theorem ordN_eqb (a b : Nat) : (ordN a b == 0) = decide (a = b) := by
 unfold ordN
 rcases Nat.lt_trichotomy a b with h | h | h
 ·rw [if_pos h, decide_eq_false (by omega)]; rfl
 ·rw [if_neg (by omega), if_neg (by omega), decide_eq_true h]; rfl
 ·rw [if_neg (by omega), if_pos h, decide_eq_false (by omega)]; rfl
theorem same_pc {H : Hp} {w : Value} {p q : Rat} (hw : RQ H w q) (hp : rq p) (hq : rq q) : PC prog 35 #[fracV p, w] H fun r _ => r = .bool (decide (p = q)) := by
 obtain ⟨sa, sl, sc, ta, tl, tc, rfl, hs, ht⟩ := id hw
 have hl : (tl : Int) ≠ 0 := by
  have h1 := SlN.cap ht
  have h2 := dig_ne_nil B32_two q.den_nz
  have h3 := List.length_pos_iff.2 h2
  omega
 refine BD func35 ntmps35 ?_
 try refine RUN ?_
 refine EVL.call rfl rfl rfl rfl rfl (out_pc p hp) ?_
 rintro r G ⟨sa', sl', sc', ta', tl', tc', rfl, hs', ht'⟩ hG
 have c1 := refCmpN_pc hs' (RN.mono hs hG) hp.num
 have c2 := refCmpN_pc ht' (RN.mono ht hG) hp.den
 try refine RUN ?_
 rw [show ((tl : Int) == 0) = false by simpa using hl]
 repeat (first | refine RUN ?_ | refine CV (c1) ?_ | refine CE (c1) ?_)
 rw [ordN_eqb]
 by_cases h1 : p.num.natAbs = q.num.natAbs
 ·rw [decide_eq_true h1]
  try refine RUN ?_
  refine EVL.eqb rfl rfl rfl rfl rfl rfl (by kernel_rfl) ?_
  by_cases h2 : decide (p.num < 0) = decide (q.num < 0)
  ·rw [show (decide (p.num < 0) == decide (q.num < 0)) = true by simp [h2]]
   repeat (first | refine RUN ?_ | refine CV (c2) ?_ | refine CE (c2) ?_)
   rw [ordN_eqb]
   congr 1
   have hn : p.num = q.num := by
    rw [decide_eq_decide] at h2; omega
   by_cases h3 : p.den = q.den
   ·rw [decide_eq_true h3, decide_eq_true (Rat.ext hn h3)]
   ·rw [decide_eq_false h3, decide_eq_false (fun e => h3 (by rw [e]))]
  ·rw [show (decide (p.num < 0) == decide (q.num < 0)) = false by simpa using h2]
   try refine RUN ?_
   rw [decide_eq_false (fun e => h2 (by rw [e]))]
 ·rw [decide_eq_false h1]
  try refine RUN ?_
  rw [decide_eq_false (fun e => h1 (by rw [e]))]
def rDen (j : Nat) : Int := [1, 1, 1, 2, 3, 4].getD j 1
def rNum (z : Int) : Rat := Rat.divInt (z % 41 - 20) (rDen (z.tdiv 41 % 6).toNat)
theorem rDen_range (j : Nat) : 1 ≤ rDen j ∧ rDen j ≤ 4 := by
 unfold rDen
 rcases j with _ | _ | _ | _ | _ | _ | j <;> simp [List.getD_eq_getElem?_getD]
theorem r_pc {H : Hp} (z : Int) (hz : -9223372036854775808 ≤ z ∧ z < 9223372036854775808) : PC prog 39 #[.int .i64 z] H fun r H' => RQ H' r (rNum z) := by
 have hq : -9223372036854775808 ≤ z.tdiv 41 ∧ z.tdiv 41 < 9223372036854775808 := by
  by_cases h : 0 ≤ z
  ·rw [Int.tdiv_eq_ediv_of_nonneg h]; omega
  ·have e : z.tdiv 41 = -((-z) / 41) := by rw [← Int.tdiv_eq_ediv_of_nonneg (by omega), Int.neg_tdiv, Int.neg_neg]
   rw [e]; omega
 have hqw : IntKind.i64.wrap (z.tdiv 41) = z.tdiv 41 := by rw [IntKind.wrap_i64]; omega
 have h1 := pick_pv z 41 hz (by omega) (by omega)
 have h2 := pick_pv (z.tdiv 41) 6 hq (by omega) (by omega)
 have m1 := Int.emod_nonneg z (show (41 : Int) ≠ 0 by omega)
 have m2 := Int.emod_lt_of_pos z (show (0 : Int) < 41 by omega)
 obtain ⟨j, hj⟩ := Int.eq_ofNat_of_zero_le (Int.emod_nonneg (z.tdiv 41) (show (6 : Int) ≠ 0 by omega))
 have m3 := Int.emod_lt_of_pos (z.tdiv 41) (show (0 : Int) < 6 by omega)
 have hsub : IntKind.i64.wrap (z % 41 - 20) = z % 41 - 20 := by rw [IntKind.wrap_i64]; omega
 have hrd := rDen_range j
 have hrn : rNum z = Rat.divInt (z % 41 - 20) (rDen j) := by unfold rNum; rw [hj]; rfl
 rw [hrn]
 have hidx : ([.int .i64 1, .int .i64 1, .int .i64 1, .int .i64 2, .int .i64 3, .int .i64 4] : List Value)[j]? = some (.int .i64 (rDen j)) := by
  have hj6 : j < 6 := by omega
  rcases j with _ | _ | _ | _ | _ | _ | j <;> first | rfl | omega
 have ho := fun G : Hp => refOver_pc (H := G) (z % 41 - 20) (rDen j) (by omega) (by omega) (by omega) (by omega) (by omega)
 rw [hj] at h2
 refine BD func39 ntmps39 ?_
 repeat (first | refine RUN ?_ | refine CV (h1) ?_ | refine CE (h1) ?_)
 rw [hsub]
 refine EVL.buildArr rfl rfl rfl rfl rfl (cs := [.int .i64 1, .int .i64 1, .int .i64 1, .int .i64 2, .int .i64 3, .int .i64 4]) (by kernel_rfl) ?_
 try refine RUN ?_
 rw [hqw]
 repeat (first | refine RUN ?_ | refine CV (h2) ?_ | refine CE (h2) ?_)
 refine EVL.indexArr (e := 2) (len := 6) tO rfl rfl rfl rfl (by kernel_rfl) rfl rfl rfl rfl rfl j rfl (show j < 6 by omega) hidx ?_
 refine EVL.call rfl rfl rfl rfl rfl (ho H) ?_
 rintro r G ⟨ra, rl, rc, xa, xl, xc, rfl, hn, hd⟩ hG
 try refine RUN ?_
 exact ⟨ra, rl, rc, xa, xl, xc, rfl, hn, hd⟩
def QL (H : Hp) (v : Value) (l : List Rat) : Prop := SlC H v l.length 5 (l.flatMap fun q => vlist (fracV q))
def RL (H : Hp) (v : Value) (l : List Rat) : Prop := ∃ vs : List Value, vs.length = l.length ∧ (∀ (j : Nat) (x : Value) (q : Rat), vs[j]? = some x → l[j]? = some q → RQ H x q) ∧ SlC H v l.length 3 (vs.flatMap vlist)
theorem QL.mono {H G : Hp} {v : Value} {l : List Rat} (h : QL H v l) (k : H.Le G) : QL G v l := SlC.mono h k
theorem RL.mono {H G : Hp} {v : Value} {l : List Rat} (h : RL H v l) (k : H.Le G) : RL G v l := by
 obtain ⟨vs, h1, h2, h3⟩ := h
 exact ⟨vs, h1, fun j x q e1 e2 => (h2 j x q e1 e2).mono k, h3.mono k⟩
theorem QL.at {H : Hp} {v : Value} {l : List Rat} {j : Nat} {q : Rat} (hj : l[j]? = some q) : ((l.flatMap fun q => vlist (fracV q)).drop (j * 5)).take 5 = vlist (fracV q) := flat_cut _ 5 l (fun _ _ => rfl) j q hj
theorem RQ.cells {H : Hp} {x : Value} {q : Rat} (h : RQ H x q) : (vlist x).length = 3 ∧ oneB (vlist x) = true := by
 obtain ⟨_, _, _, _, _, _, rfl, _, _⟩ := h
 exact ⟨rfl, rfl⟩
theorem RL.at {H : Hp} {v : Value} {l : List Rat} (h : RL H v l) {j : Nat} {q : Rat} (hj : l[j]? = some q) : ∃ (vs : List Value) (x : Value), SlC H v l.length 3 (vs.flatMap vlist) ∧ ((vs.flatMap vlist).drop (j * 3)).take 3 = vlist x ∧ RQ H x q := by
 obtain ⟨vs, h1, h2, h3⟩ := h
 obtain ⟨hl, rfl⟩ := List.getElem?_eq_some_iff.1 hj
 have hv : vs[j]? = some (vs[j]'(by omega)) := List.getElem?_eq_getElem (by omega)
 have hall : ∀ x, x ∈ vs → (vlist x).length = 3 := fun x hx => by
  obtain ⟨i, hi, rfl⟩ := List.getElem_of_mem hx
  exact (h2 i _ _ (List.getElem?_eq_getElem hi) (List.getElem?_eq_getElem (by omega))).cells.1
 exact ⟨vs, _, h3, flat_cut _ 3 vs hall j _ hv, h2 j _ _ hv hj⟩
theorem take_snoc {α : Type} {l : List α} {i : Nat} {x : α} (h : l[i]? = some x) : l.take (i + 1) = l.take i ++ [x] := by
 obtain ⟨hl, rfl⟩ := List.getElem?_eq_some_iff.1 h
 exact List.take_succ_eq_append_getElem hl
theorem same_yes {H : Hp} {w : Value} {p : Rat} (hw : RQ H w p) (hp : rq p) : PC prog 35 #[fracV p, w] H fun r _ => r = .bool true := by
 have := same_pc hw hp hp
 rwa [decide_eq_true rfl] at this
theorem RL.val {H : Hp} {v : Value} {l : List Rat} (h : RL H v l) : ∃ a cap, v = .slice a l.length cap := by
 obtain ⟨vs, _, _, h3⟩ := h
 exact SlC.val h3
theorem inRow_pc {H : Hp} {v : Value} {l : List Rat} (h : RL H v l) (hl : l.length ≤ 100000000) (hq : ∀ q, q ∈ l → rq q) : PC prog 43 #[v] H fun r H' => QL H' r l := by
 obtain ⟨a, cap, rfl⟩ := RL.val h
 refine BD func43 ntmps43 ?_
 try refine RUN ?_
 refine EV.loopK (ι := Nat × Value × Ows) [0] [] (fun q => [(3, .v q.2.1), (4, .v (.int .i64 (q.1 : Int)))]) (fun _ => []) (fun q => q.2.2) (fun q G => q.1 ≤ l.length ∧ OwnL 45 5 q.2.1 q.1 ((l.take q.1).flatMap fun q => vlist (fracV q)) q.2.2) (fun q => l.length - q.1) ((0, .slice none 0 0, [])) rfl rfl ⟨rfl, rfl, trivial⟩ trivial rfl (fun _ => rfl) (⟨Nat.zero_le _, OwnL.nil _ _⟩) ?_
 rintro ⟨i, w, ow⟩ G1 hG1 ⟨hi, hown⟩
 dsimp only at hi hown
 try refine RUN ?_
 refine EV.cond rfl (fun hlt => ?_) (fun hlt => ?_)
 ·simp only [nN] at hlt
  obtain ⟨q, hqi⟩ : ∃ q, l[i]? = some q := ⟨_, List.getElem?_eq_getElem hlt⟩
  obtain ⟨vs, x, hs, hc, hx⟩ := (h.mono hG1).at hqi
  obtain ⟨xa, xl, xc, ya, yl, yc, rfl, hx1, hx2⟩ := id hx
  try refine RUN ?_
  refine EVL.idxM tO rfl rfl rfl rfl rfl rfl rfl rfl rfl (hs) (i) (rfl) (hlt) (hc) ?_
  repeat (first | refine RUN ?_ | refine CV (in_pc hx (hq q (List.mem_of_getElem? hqi))) ?_ | refine CE (in_pc hx (hq q (List.mem_of_getElem? hqi))) ?_)
  refine EVL.app1 tO rfl rfl rfl rfl rfl rfl rfl rfl rfl rfl rfl rfl rfl rfl rfl rfl rfl rfl rfl (fun _ => rfl) (ow) ([]) ((List.append_nil _).symm) (hown) (by omega) fun _ => ?_
  intro v' ow' hown'
  try refine RUN ?_
  refine ⟨(i + 1, v', ow'), ⟨rfl, ?_, trivial⟩, (by repeat (first | exact trivial | refine And.intro rfl ?_)), trivial, trivial, List.append_nil _, ⟨by dsimp only; omega, ?_⟩, Hp.Le.refl _, by dsimp only; omega⟩
  ·rw [wi_inc i (by omega)]; rfl
  ·dsimp only
   rw [take_snoc hqi, List.flatMap_append]
   exact hown'
 ·simp only [nN] at hlt
  obtain rfl : i = l.length := by omega
  (first | refine EVL.publishL [] ow [] ((List.append_nil _).symm) hown fun G2 hG2 hs => ?_ | refine EV.publishL [] ow [] ((List.append_nil _).symm) hown fun G2 hG2 hs => ?_)
  try refine RUN ?_
  rw [List.take_length] at hs
  exact hs
theorem sameRow_pc {H : Hp} {u v : Value} {l : List Rat} (hu : QL H u l) (hv : RL H v l) (hl : l.length ≤ 100000000) (hq : ∀ q, q ∈ l → rq q) : PC prog 40 #[u, v] H fun r _ => r = .bool true := by
 obtain ⟨a, cap, rfl⟩ := RL.val hv
 obtain ⟨b, cap', rfl⟩ := SlC.val hu
 refine BD func40 ntmps40 ?_
 try refine RUN ?_
 rw [show ((l.length : Int) != (l.length : Int)) = false by simp]
 try refine RUN ?_
 refine EV.loopK (ι := Nat) [0, 1] [] (fun i => [(5, .v (.int .i64 (i : Int)))]) (fun _ => []) (fun _ => []) (fun i G => i ≤ l.length) (fun i => l.length - i) (0) rfl rfl ⟨rfl, trivial⟩ trivial rfl (fun _ => rfl) (Nat.zero_le _) ?_
 intro i G1 hG1 hi
 try refine RUN ?_
 refine EV.cond rfl (fun hlt => ?_) (fun hlt => ?_)
 ·simp only [nN] at hlt
  obtain ⟨q, hqi⟩ : ∃ q, l[i]? = some q := ⟨_, List.getElem?_eq_getElem hlt⟩
  obtain ⟨vs, x, hs, hc, hx⟩ := (hv.mono hG1).at hqi
  obtain ⟨xa, xl, xc, ya, yl, yc, rfl, hx1, hx2⟩ := id hx
  have hqq := hq q (List.mem_of_getElem? hqi)
  try refine RUN ?_
  apply EV.drawn 9 (by kernel_rfl) (by kernel_rfl); intro xv yw
  (repeat (first | refine' DV ?_ | refine' DA ?_ | refine' DK0 ?_ | refine' DT ?_ | refine' DS ?_))
  refine' DJ.idxM tO rfl rfl rfl rfl rfl rfl rfl rfl rfl ((SlC.mono (show SlC H (.slice b l.length cap') l.length 5 (l.flatMap fun q => vlist (fracV q)) from hu) hG1)) (i) (rfl) (hlt) ((QL.at (H := G1) (v := .slice b l.length cap') hqi)) ?_; rotate_left
  (repeat (first | refine' DV ?_ | refine' DA ?_ | refine' DK0 ?_ | refine' DT ?_ | refine' DS ?_))
  refine' DJ.idxM tO rfl rfl rfl rfl rfl rfl rfl rfl rfl (hs) (i) (rfl) (hlt) (hc) ?_; rotate_left
  (repeat (first | refine' DV ?_ | refine' DA ?_ | refine' DK0 ?_ | refine' DT ?_ | refine' DS ?_))
  refine' DJ.callS rfl rfl rfl rfl rfl (cO func35) (fun G hG hd => same_yes (hx.mono hG) hqq) ?_; rotate_left
  (refine DJ.nil (fun G2 hG2 hF2 => ?_); (case hS => rfl); (case hS2 => rfl))
  try refine RUN ?_
  refine ⟨i + 1, ⟨?_, trivial⟩, (by repeat (first | exact trivial | refine And.intro rfl ?_)), trivial, trivial, rfl, hlt, hG2, by omega⟩
  rw [wi_inc i (by omega)]; rfl
 ·(try refine RUN ?_)
  rfl
end Go.Proofs.YtejljnlfgiifoaaGreatDoor
namespace Go.Proofs.YtejljnlfgiifoaaGreatDoor
def sumQ (l : List Rat) : Rat := l.foldl (· + ·) 0
theorem sumQ_nil : sumQ [] = 0 := rfl
theorem sumQ_snoc (l : List Rat) (x : Rat) : sumQ (l ++ [x]) = sumQ l + x := by unfold sumQ; rw [List.foldl_append]; rfl
theorem ht_sumQ (B : Nat) : ∀ (l : List Rat), (∀ q, q ∈ l → ht q ≤ B) → ht (sumQ l.reverse) ≤ 1 + (B + 1) * l.length
 | [], _ => by rw [List.reverse_nil, sumQ_nil, ht_zero]; exact Nat.le_add_right ..
 | x :: l, h => by
  have h1 := ht_sumQ B l (fun q hq => h q (List.mem_cons_of_mem _ hq))
  have h2 := h x (List.mem_cons_self ..)
  have h3 := ht_add (sumQ l.reverse) x
  rw [List.reverse_cons, sumQ_snoc, List.length_cons, Nat.mul_succ]
  omega
theorem ht_sum (B : Nat) (l : List Rat) (h : ∀ q, q ∈ l → ht q ≤ B) : ht (sumQ l) ≤ 1 + (B + 1) * l.length := by
 have := ht_sumQ B l.reverse (fun q hq => h q (List.mem_reverse.1 hq))
 rwa [List.reverse_reverse, List.length_reverse] at this
def dotL (a b : List Rat) : List Rat := List.zipWith (· * ·) a b
theorem dotL_get {a b : List Rat} {i : Nat} {x y : Rat} (h1 : a[i]? = some x) (h2 : b[i]? = some y) : (dotL a b)[i]? = some (x * y) := by
 unfold dotL; rw [List.getElem?_zipWith, h1, h2]
theorem dotL_ht {B : Nat} : ∀ {a b : List Rat}, (∀ q, q ∈ a → ht q ≤ B) → (∀ q, q ∈ b → ht q ≤ B) → ∀ q, q ∈ dotL a b → ht q ≤ B + B
 | [], _, _, _, q, hq => by simp [dotL] at hq
 | _ :: _, [], _, _, q, hq => by simp [dotL] at hq
 | x :: a, y :: b, ha, hb, q, hq => by
  rcases List.mem_cons.1 (show q ∈ x * y :: dotL a b from hq) with rfl | h
  ·have := ht_mul x y
   have h1 := ha x (List.mem_cons_self ..)
   have h2 := hb y (List.mem_cons_self ..)
   omega
  ·exact dotL_ht (fun q h => ha q (List.mem_cons_of_mem _ h)) (fun q h => hb q (List.mem_cons_of_mem _ h)) q h
theorem drop_at {a : List Rat} {i : Nat} {x : Rat} (h : a[i]? = some x) : a.drop i = x :: a.drop (i + 1) := by
 obtain ⟨hl, rfl⟩ := List.getElem?_eq_some_iff.1 h
 exact List.drop_eq_getElem_cons hl
def Rising (l : List Rat) : Prop := l.Pairwise (· ≤ ·)
theorem rising_one {l m : List Rat} (h : Rising l) (k : Rising m) (p : l.Perm m) : l = m := List.Perm.eq_of_pairwise (fun a b _ _ h1 h2 => Rat.le_antisymm h1 h2) h k p
def putAt {α : Type} (l : List α) (k : Nat) (x : α) : List α := l.take k ++ x :: l.drop k
theorem putAt_perm {α : Type} (l : List α) (k : Nat) (x : α) : (putAt l k x).Perm (l ++ [x]) := by
 unfold putAt
 refine List.perm_middle.trans ?_
 rw [List.take_append_drop]
 exact (List.perm_append_comm (l₁ := [x]) (l₂ := l))
theorem putAt_rising {l : List Rat} {k : Nat} {x : Rat} (h : Rising l) (h1 : ∀ y, y ∈ l.take k → y ≤ x) (h2 : ∀ y, y ∈ l.drop k → x ≤ y) : Rising (putAt l k x) := by
 unfold putAt Rising
 rw [List.pairwise_append]
 refine ⟨h.sublist (List.take_sublist ..), List.pairwise_cons.2 ⟨fun y hy => h2 y hy, h.sublist (List.drop_sublist ..)⟩, fun a ha b hb => ?_⟩
 rcases List.mem_cons.1 hb with rfl | hb
 ·exact h1 a ha
 ·exact Rat.le_trans (h1 a ha) (h2 b hb)
theorem rising_take {l : List Rat} {k : Nat} {x y : Rat} (h : Rising l) (hk : l[k]? = some y) (hy : y ≤ x) : ∀ z, z ∈ l.take (k + 1) → z ≤ x := fun z hz => by
 obtain ⟨hl, rfl⟩ := List.getElem?_eq_some_iff.1 hk
 rw [List.take_succ_eq_append_getElem hl] at hz
 rcases List.mem_append.1 hz with hz | hz
 ·have hp : Rising (l.take (k + 1)) := h.sublist (List.take_sublist ..)
  unfold Rising at hp
  rw [List.take_succ_eq_append_getElem hl, List.pairwise_append] at hp
  exact Rat.le_trans (hp.2.2 z hz _ (List.mem_singleton.2 rfl)) hy
 ·rw [List.mem_singleton.1 hz]; exact hy
def sortQ (l : List Rat) : List Rat := l.mergeSort fun a b => decide (a ≤ b)
theorem sortQ_perm (l : List Rat) : (sortQ l).Perm l := List.mergeSort_perm l _
theorem sortQ_rising (l : List Rat) : Rising (sortQ l) := by
 have := List.pairwise_mergeSort (le := fun a b : Rat => decide (a ≤ b)) (fun a b c h1 h2 => by simp at h1 h2 ⊢; exact Rat.le_trans h1 h2) (fun a b => by simp; exact Rat.le_total) l
 exact this.imp fun h => by simpa using h
theorem sortQ_one {l m : List Rat} (h : m.Perm l) (k : Rising m) : m = sortQ l := rising_one k (sortQ_rising l) (h.trans (sortQ_perm l).symm)
end Go.Proofs.YtejljnlfgiifoaaGreatDoor
namespace Go.Proofs.YtejljnlfgiifoaaGreatDoor
open Go.RowKit _root_.Go.Proofs.Tryz
def RVs (H : Hp) (vs : List Value) (l : List Rat) : Prop := vs.length = l.length ∧ ∀ (j : Nat) (x : Value) (q : Rat), vs[j]? = some x → l[j]? = some q → RQ H x q
theorem RVs.mono {H G : Hp} {vs : List Value} {l : List Rat} (h : RVs H vs l) (k : H.Le G) : RVs G vs l := ⟨h.1, fun j x q e1 e2 => (h.2 j x q e1 e2).mono k⟩
theorem RVs.nil (H : Hp) : RVs H [] [] := ⟨rfl, fun j x q h => by simp at h⟩
theorem RVs.snoc {H : Hp} {vs : List Value} {l : List Rat} {x : Value} {q : Rat} (h : RVs H vs l) (k : RQ H x q) : RVs H (vs ++ [x]) (l ++ [q]) := by
 refine ⟨by simp [h.1], fun j y r e1 e2 => ?_⟩
 rw [List.getElem?_append] at e1 e2
 by_cases hj : j < vs.length
 ·rw [if_pos hj] at e1
  rw [if_pos (by rw [← h.1]; exact hj)] at e2
  exact h.2 j y r e1 e2
 ·rw [if_neg hj] at e1
  rw [if_neg (by rw [← h.1]; exact hj)] at e2
  have := h.1
  cases hk : j - vs.length with
  | zero =>
   rw [hk] at e1; rw [← h.1, hk] at e2
   simp at e1 e2; subst e1; subst e2; exact k
  | succ m => rw [hk] at e1; simp at e1
theorem RVs.rl {H : Hp} {vs : List Value} {l : List Rat} {v : Value} (h : RVs H vs l) (hs : SlC H v l.length 3 (vs.flatMap vlist)) : RL H v l := ⟨vs, h.1, h.2, hs⟩
abbrev IL (H : Hp) (v : Value) (l : List Int) : Prop := SlN (fun z : Int => Value.int .i64 z) H v l
def rowQ (l : List Int) (n : Nat) : List Rat := (List.range n).map fun i => match l[i]? with
 | some z => rNum z
 | none => 0
theorem rowQ_len (l : List Int) (n : Nat) : (rowQ l n).length = n := by simp [rowQ]
theorem rowQ_some {l : List Int} {n i : Nat} {z : Int} (hi : i < n) (h : l[i]? = some z) : (rowQ l n)[i]? = some (rNum z) := by
 unfold rowQ; rw [List.getElem?_map, List.getElem?_range hi]; simp [h]
theorem rowQ_none {l : List Int} {n i : Nat} (hi : i < n) (h : l[i]? = none) : (rowQ l n)[i]? = some 0 := by
 unfold rowQ; rw [List.getElem?_map, List.getElem?_range hi]; simp [h]
theorem row_pc {H : Hp} {v : Value} {l : List Int} (h : IL H v l) (hb : ∀ z, z ∈ l → -9223372036854775808 ≤ z ∧ z < 9223372036854775808) (n : Nat) (hn : n ≤ 1000000) : PC prog 44 #[v, .int .i64 (n : Int)] H fun r H' => RL H' r (rowQ l n) := by
 obtain ⟨a, cap, rfl⟩ := SlC.val h
 have hz0 := fun G : Hp => refOf_pc (H := G) 0 (by omega) (by omega)
 rw [show ((0 : Int) : Rat) = 0 from rfl] at hz0
 refine BD func44 ntmps44 ?_
 try refine RUN ?_
 refine EV.loopK (ι := Nat × List Value × Value × Ows) [0, 1] [] (fun q => [(5, .v q.2.2.1), (6, .v (.int .i64 (q.1 : Int)))]) (fun _ => []) (fun q => q.2.2.2) (fun q G => q.1 ≤ n ∧ RVs G q.2.1 ((rowQ l n).take q.1) ∧ OwnL 78 3 q.2.2.1 q.1 (q.2.1.flatMap vlist) q.2.2.2) (fun q => n - q.1) ((0, [], .slice none 0 0, [])) rfl rfl ⟨rfl, rfl, trivial⟩ trivial rfl (fun _ => rfl) (⟨Nat.zero_le _, RVs.nil _, OwnL.nil _ _⟩) ?_
 rintro ⟨i, vs, w, ow⟩ G1 hG1 ⟨hi, hvs, hown⟩
 dsimp only at hi hvs hown
 try refine RUN ?_
 refine EV.cond rfl (fun hlt => ?_) (fun hlt => ?_)
 ·simp only [nN] at hlt
  try refine RUN ?_
  refine EV.cond rfl (fun hll => ?_) (fun hll => ?_)
  ·simp only [nN] at hll
   obtain ⟨z, hzi⟩ : ∃ z, l[i]? = some z := ⟨_, List.getElem?_eq_getElem hll⟩
   have hzb := hb z (List.mem_of_getElem? hzi)
   have hq := rowQ_some hlt hzi
   try refine RUN ?_
   refine EVL.idxR tO rfl rfl rfl rfl rfl rfl rfl rfl rfl rfl ((h.mono hG1)) (i) (rfl) (hll) ((by rw [List.getElem?_map, hzi]; rfl)) ?_
   try refine RUN ?_
   refine EVL.call rfl rfl rfl rfl rfl (r_pc z hzb) ?_
   rintro r G2 hr hG2
   obtain ⟨xa, xl, xc, ya, yl, yc, rfl, hx1, hx2⟩ := id hr
   try refine RUN ?_
   refine EVL.app1 tO rfl rfl rfl rfl rfl rfl rfl rfl rfl rfl rfl rfl rfl rfl rfl rfl rfl rfl rfl (fun _ => rfl) (ow) ([]) ((List.append_nil _).symm) (hown) (by omega) fun _ => ?_
   intro v' ow' hown'
   try refine RUN ?_
   refine ⟨(i + 1, vs ++ [_], v', ow'), ⟨rfl, ?_, trivial⟩, (by repeat (first | exact trivial | refine And.intro rfl ?_)), trivial, trivial, List.append_nil _, ⟨hlt, by rw [take_snoc hq]; exact (hvs.mono hG2).snoc hr, ?_⟩, hG2, by dsimp only; omega⟩
   ·rw [wi_inc i (by omega)]; rfl
   ·dsimp only
    rw [List.flatMap_append]
    exact hown'
  ·simp only [nN] at hll
   have hzi : l[i]? = none := List.getElem?_eq_none (by omega)
   have hq := rowQ_none hlt hzi
   try refine RUN ?_
   refine EVL.call rfl rfl rfl rfl rfl (hz0 _) ?_
   rintro r G2 hr hG2
   obtain ⟨xa, xl, xc, ya, yl, yc, rfl, hx1, hx2⟩ := id hr
   try refine RUN ?_
   refine EVL.app1 tO rfl rfl rfl rfl rfl rfl rfl rfl rfl rfl rfl rfl rfl rfl rfl rfl rfl rfl rfl (fun _ => rfl) (ow) ([]) ((List.append_nil _).symm) (hown) (by omega) fun _ => ?_
   intro v' ow' hown'
   try refine RUN ?_
   refine ⟨(i + 1, vs ++ [_], v', ow'), ⟨rfl, ?_, trivial⟩, (by repeat (first | exact trivial | refine And.intro rfl ?_)), trivial, trivial, List.append_nil _, ⟨hlt, by rw [take_snoc hq]; exact (hvs.mono hG2).snoc hr, ?_⟩, hG2, by dsimp only; omega⟩
   ·rw [wi_inc i (by omega)]; rfl
   ·dsimp only
    rw [List.flatMap_append]
    exact hown'
 ·simp only [nN] at hlt
  obtain rfl : i = n := by omega
  (first | refine EVL.publishL [] ow [] ((List.append_nil _).symm) hown fun G2 hG2 hs => ?_ | refine EV.publishL [] ow [] ((List.append_nil _).symm) hown fun G2 hG2 hs => ?_)
  try refine RUN ?_
  have e : (rowQ l i).take i = rowQ l i := List.take_of_length_le (by rw [rowQ_len]; exact Nat.le_refl _)
  rw [e] at hvs
  exact (hvs.mono hG2).rl (by rw [rowQ_len]; exact hs)
theorem agg3 {a b c a' b' c' : Value} (e : Value.agg #[a, b, c] = .agg #[a', b', c']) : a = a' ∧ b = b' ∧ c = c' := by
 simp only [Value.agg.injEq, Array.mk.injEq, List.cons.injEq, and_true] at e
 exact e
theorem refTotal_pc {H : Hp} {v : Value} {l : List Rat} (h : RL H v l) (hl : l.length ≤ 100000) (hb : ∀ q, q ∈ l → ht q ≤ 100) : PC prog 82 #[v] H fun r H' => RQ H' r (sumQ l) := by
 obtain ⟨a, cap, rfl⟩ := RL.val h
 have hz0 := fun G : Hp => refOf_pc (H := G) 0 (by omega) (by omega)
 rw [show ((0 : Int) : Rat) = 0 from rfl] at hz0
 refine BD func82 ntmps82 ?_
 try refine RUN ?_
 refine EVL.call rfl rfl rfl rfl rfl (hz0 _) ?_
 rintro r G0 hr hG0
 obtain ⟨xa, xl, xc, ya, yl, yc, rfl, hx1, hx2⟩ := id hr
 try refine RUN ?_
 refine EV.loopK (ι := Nat × Value × Value × Value) [0, 2, 3] [2] (fun q => [(4, .v (.int .i64 (q.1 : Int)))]) (fun q => [(3, 78, [q.2.1, q.2.2.1, q.2.2.2])]) (fun _ => []) (fun q G => q.1 ≤ l.length ∧ G0.Le G ∧ RQ G (.agg #[q.2.1, q.2.2.1, q.2.2.2]) (sumQ (l.take q.1))) (fun q => l.length - q.1) ((0, _, _, _)) rfl rfl ⟨rfl, trivial⟩ ⟨rfl, trivial⟩ rfl (fun _ => rfl) (⟨Nat.zero_le _, Hp.Le.refl _, hr⟩) ?_
 rintro ⟨i, c1, c2, c3⟩ G1 hG1 ⟨hi, hG01, hs⟩
 dsimp only at hi hs hG01
 try refine RUN ?_
 refine EV.cond rfl (fun hlt => ?_) (fun hlt => ?_)
 ·simp only [nN] at hlt
  obtain ⟨q, hqi⟩ : ∃ q, l[i]? = some q := ⟨_, List.getElem?_eq_getElem hlt⟩
  obtain ⟨vs, x, hsl, hc, hx⟩ := (h.mono (hG0.trans hG01)).at hqi
  obtain ⟨xa', xl', xc', ya', yl', yc', rfl, hx1', hx2'⟩ := id hx
  have hqb := hb q (List.mem_of_getElem? hqi)
  have hsb := ht_sum 100 (l.take i) (fun q hq => hb q (List.mem_of_mem_take hq))
  rw [List.length_take, Nat.min_eq_left hi] at hsb
  have qs : rq (sumQ (l.take i)) := Nat.le_trans hsb (by omega)
  have qq : rq q := Nat.le_trans hqb (by omega)
  try refine RUN ?_
  apply EV.drawn 6 (by kernel_rfl) (by kernel_rfl); intro xv yw
  (repeat (first | refine' DV ?_ | refine' DA ?_ | refine' DK0 ?_ | refine' DT ?_ | refine' DS ?_))
  refine' DJ.idxM tO rfl rfl rfl rfl rfl rfl rfl rfl rfl (hsl) (i) (rfl) (hlt) (hc) ?_; rotate_left
  (repeat (first | refine' DV ?_ | refine' DA ?_ | refine' DK0 ?_ | refine' DT ?_ | refine' DS ?_))
  refine' DJ.call rfl rfl rfl rfl rfl (cO func90) (fun G hG hd => refAdd_pc (hs.mono hG) (hx.mono hG) qs qq) (fun _ _ _ h k => RQ.mono h k) ?_; rotate_left
  (refine DJ.nil (fun G2 hG2 hF2 => ?_); (case hS => rfl); (case hS2 => rfl))
  have hR := hF2.1
  rw [← sumQ_snoc, ← take_snoc hqi] at hR
  obtain ⟨_, _, _, _, _, _, e, _, _⟩ := id hR
  rw [e] at hR ⊢
  try refine RUN ?_
  refine ⟨(i + 1, _, _, _), ⟨?_, trivial⟩, (by repeat (first | exact trivial | refine And.intro rfl ?_)), ⟨rfl, trivial⟩, (by repeat (first | exact trivial | refine And.intro rfl ?_)), rfl, ⟨hlt, hG01.trans hG2, hR⟩, hG2, by dsimp only; omega⟩
  rw [wi_inc i (by omega)]; rfl
 ·simp only [nN] at hlt
  obtain rfl : i = l.length := by omega
  rw [List.take_length] at hs
  obtain ⟨_, _, _, _, _, _, e, _, _⟩ := id hs
  obtain ⟨rfl, rfl, rfl⟩ := agg3 e
  try refine RUN ?_
  exact hs
theorem ht_len {n : Nat} (h : n ≤ 100000) : ht ((n : Int) : Rat) ≤ 20 := by
 have := ht_int (n : Int)
 have h2 : bl (n : Int).natAbs ≤ 17 := bl_le (by omega)
 omega
theorem refMean_pc {H : Hp} {v : Value} {l : List Rat} (h : RL H v l) (hl : l.length ≤ 100000) (h0 : l.length ≠ 0) (hb : ∀ q, q ∈ l → ht q ≤ 100) : PC prog 81 #[v] H fun r H' => RQ H' r (sumQ l / ((l.length : Int) : Rat)) := by
 obtain ⟨a, cap, rfl⟩ := RL.val h
 have hs := ht_sum 100 l hb
 have hln := ht_len hl
 have hof := fun G : Hp => refOf_pc (H := G) (l.length : Int) (by omega) (by omega)
 refine BD func81 ntmps81 ?_
 try refine RUN ?_
 refine EVL.call rfl rfl rfl rfl rfl (refTotal_pc h hl hb) ?_
 rintro r1 G1 h1 hG1
 try refine RUN ?_
 refine EVL.call rfl rfl rfl rfl rfl (hof _) ?_
 rintro r2 G2 h2 hG2
 try refine RUN ?_
 refine EVL.call rfl rfl rfl rfl rfl (refDivQ_pc (h1.mono hG2) h2 (Nat.le_trans hs (by omega)) (Nat.le_trans hln (by omega)) (by show (l.length : Int) ≠ 0; omega)) ?_
 rintro r3 G3 ⟨_, _, _, _, _, _, rfl, d1, d2⟩ _
 try refine RUN ?_
 exact ⟨_, _, _, _, _, _, rfl, d1, d2⟩
theorem refDot_pc {H : Hp} {u v : Value} {l m : List Rat} (hu : RL H u l) (hv : RL H v m) (hlm : l.length = m.length) (hl : l.length ≤ 100000) (hb : ∀ q, q ∈ l → ht q ≤ 50) (hb' : ∀ q, q ∈ m → ht q ≤ 50) : PC prog 84 #[u, v] H fun r H' => RQ H' r (sumQ (dotL l m)) := by
 obtain ⟨a, cap, rfl⟩ := RL.val hu
 obtain ⟨b, cap', rfl⟩ := RL.val hv
 have hdl : (dotL l m).length = l.length := by unfold dotL; rw [List.length_zipWith]; omega
 have hdh := dotL_ht hb hb'
 have hz0 := fun G : Hp => refOf_pc (H := G) 0 (by omega) (by omega)
 rw [show ((0 : Int) : Rat) = 0 from rfl] at hz0
 refine BD func84 ntmps84 ?_
 try refine RUN ?_
 refine EVL.call rfl rfl rfl rfl rfl (hz0 _) ?_
 rintro r G0 hr hG0
 obtain ⟨xa, xl, xc, ya, yl, yc, rfl, hx1, hx2⟩ := id hr
 try refine RUN ?_
 refine EV.loopK (ι := Nat × Value × Value × Value) [0, 1, 4, 5] [4] (fun q => [(6, .v (.int .i64 (q.1 : Int)))]) (fun q => [(5, 78, [q.2.1, q.2.2.1, q.2.2.2])]) (fun _ => []) (fun q G => q.1 ≤ l.length ∧ G0.Le G ∧ RQ G (.agg #[q.2.1, q.2.2.1, q.2.2.2]) (sumQ ((dotL l m).take q.1))) (fun q => l.length - q.1) ((0, _, _, _)) rfl rfl ⟨rfl, trivial⟩ ⟨rfl, trivial⟩ rfl (fun _ => rfl) (⟨Nat.zero_le _, Hp.Le.refl _, hr⟩) ?_
 rintro ⟨i, c1, c2, c3⟩ G1 hG1 ⟨hi, hG01, hs⟩
 dsimp only at hi hs hG01
 try refine RUN ?_
 refine EV.cond rfl (fun hlt => ?_) (fun hlt => ?_)
 ·simp only [nN] at hlt
  obtain ⟨q, hqi⟩ : ∃ q, l[i]? = some q := ⟨_, List.getElem?_eq_getElem hlt⟩
  obtain ⟨q', hqi'⟩ : ∃ q, m[i]? = some q := ⟨_, List.getElem?_eq_getElem (hlm ▸ hlt)⟩
  obtain ⟨vs, x, hsl, hc, hx⟩ := (hu.mono (hG0.trans hG01)).at hqi
  obtain ⟨xa', xl', xc', ya', yl', yc', rfl, hx1', hx2'⟩ := id hx
  obtain ⟨vs2, x2, hsl2, hc2, hy⟩ := (hv.mono (hG0.trans hG01)).at hqi'
  obtain ⟨xa'', xl'', xc'', ya'', yl'', yc'', rfl, hy1', hy2'⟩ := id hy
  have hqb := hb q (List.mem_of_getElem? hqi)
  have hqb' := hb' q' (List.mem_of_getElem? hqi')
  have hqd := dotL_get hqi hqi'
  have hsb := ht_sum 100 ((dotL l m).take i) (fun q hq => hdh q (List.mem_of_mem_take hq))
  rw [List.length_take, Nat.min_eq_left (by omega)] at hsb
  have qs : rq (sumQ ((dotL l m).take i)) := Nat.le_trans hsb (by omega)
  have hm := ht_mul q q'
  have qq : rq (q * q') := Nat.le_trans hm (by omega)
  try refine RUN ?_
  apply EV.drawn 11 (by kernel_rfl) (by kernel_rfl); intro xv yw
  (repeat (first | refine' DV ?_ | refine' DA ?_ | refine' DK0 ?_ | refine' DT ?_ | refine' DS ?_))
  refine' DJ.idxM tO rfl rfl rfl rfl rfl rfl rfl rfl rfl (hsl) (i) (rfl) (hlt) (hc) ?_; rotate_left
  (repeat (first | refine' DV ?_ | refine' DA ?_ | refine' DK0 ?_ | refine' DT ?_ | refine' DS ?_))
  refine' DJ.idxM tO rfl rfl rfl rfl rfl rfl rfl rfl rfl (hsl2) (i) (rfl) ((hlm ▸ hlt)) (hc2) ?_; rotate_left
  (repeat (first | refine' DV ?_ | refine' DA ?_ | refine' DK0 ?_ | refine' DT ?_ | refine' DS ?_))
  refine' DJ.call rfl rfl rfl rfl rfl (cO func86) (fun G hG hd => refMulQ_pc (hx.mono hG) (hy.mono hG) (Nat.le_trans hqb (by omega)) (Nat.le_trans hqb' (by omega))) (fun _ _ _ h k => RQ.mono h k) ?_; rotate_left
  refine' DJ.call rfl rfl rfl rfl rfl (cO func90) (fun G hG hd => refAdd_pc (hs.mono hG) (hd.head (by kernel_rfl)) qs qq) (fun _ _ _ h k => RQ.mono h k) ?_; rotate_left
  (refine DJ.nil (fun G2 hG2 hF2 => ?_); (case hS => rfl); (case hS2 => rfl))
  have hR := hF2.1
  rw [← sumQ_snoc, ← take_snoc hqd] at hR
  obtain ⟨_, _, _, _, _, _, e, _, _⟩ := id hR
  rw [e] at hR ⊢
  try refine RUN ?_
  refine ⟨(i + 1, _, _, _), ⟨?_, trivial⟩, (by repeat (first | exact trivial | refine And.intro rfl ?_)), ⟨rfl, trivial⟩, (by repeat (first | exact trivial | refine And.intro rfl ?_)), rfl, ⟨hlt, hG01.trans hG2, hR⟩, hG2, by dsimp only; omega⟩
  rw [wi_inc i (by omega)]; rfl
 ·simp only [nN] at hlt
  obtain rfl : i = l.length := by omega
  rw [show (dotL l m).take l.length = dotL l m by rw [← hdl, List.take_length]] at hs
  obtain ⟨_, _, _, _, _, _, e, _, _⟩ := id hs
  obtain ⟨rfl, rfl, rfl⟩ := agg3 e
  try refine RUN ?_
  exact hs
def kb (z : Int) : Nat := (max 0 (min z 256)).toNat
structure Nrst (N n : Int) (d : Nat) : Prop where
 up : 2 * (N * d - n) ≤ d
 down : 2 * (n - N * d) ≤ d
 tieU : 2 * (N * d - n) = d → N % 2 = 0
 tieD : 2 * (n - N * d) = d → N % 2 = 0
theorem Nrst.le {N N' n n' : Int} {d d' : Nat} (h : Nrst N n d) (h' : Nrst N' n' d') (hd : 0 < d) (hd' : 0 < d') (hle : n * d' ≤ n' * d) : N ≤ N' := by
 rcases (by omega : N' < N ∨ N ≤ N') with hlt | hge
 ·exfalso
  have hdd : (0 : Int) < (d : Int) * d' := Int.mul_pos (by omega) (by omega)
  have a1 : (2 * N - 1) * d ≤ 2 * n := by have := h.up; rw [Int.sub_mul, Int.one_mul, Int.mul_assoc]; omega
  have a2 : 2 * n' ≤ (2 * N' + 1) * d' := by have := h'.down; rw [Int.add_mul, Int.one_mul, Int.mul_assoc]; omega
  have b1 : (2 * N - 1) * d * d' ≤ 2 * n * d' := Int.mul_le_mul_of_nonneg_right a1 (by omega)
  have b2 : 2 * n' * d ≤ (2 * N' + 1) * d' * d := Int.mul_le_mul_of_nonneg_right a2 (by omega)
  have b3 : 2 * n * d' ≤ 2 * n' * d := by rw [Int.mul_assoc, Int.mul_assoc]; omega
  have b4 : (2 * N' + 1) * d' * d = (2 * N' + 1) * (d * d') := by rw [Int.mul_assoc, Int.mul_comm (d' : Int)]
  have b5 : (2 * N - 1) * d * d' = (2 * N - 1) * (d * d') := by rw [Int.mul_assoc]
  have b6 : (2 * N' + 1) * ((d : Int) * d') ≤ (2 * N - 1) * (d * d') := Int.mul_le_mul_of_nonneg_right (by omega) (by omega)
  have t1 : (2 * N - 1) * d * d' = 2 * n * d' := by omega
  have t2 : 2 * n' * d = (2 * N' + 1) * d' * d := by omega
  have t3 : (2 * N - 1) * (d : Int) = 2 * n := Int.eq_of_mul_eq_mul_right (by omega) t1
  have t4 : 2 * n' = (2 * N' + 1) * (d' : Int) := Int.eq_of_mul_eq_mul_right (by omega) t2
  have t5 : (2 * N' + 1) * ((d : Int) * d') = (2 * N - 1) * (d * d') := by omega
  have t6 : 2 * N' + 1 = 2 * N - 1 := Int.eq_of_mul_eq_mul_right (by omega) t5
  have p1 := h.tieU (by rw [Int.sub_mul, Int.one_mul, Int.mul_assoc] at t3; omega)
  have p2 := h'.tieD (by rw [Int.add_mul, Int.one_mul, Int.mul_assoc] at t4; omega)
  omega
 ·exact hge
theorem ht_divInt (n d : Int) (h : d ≠ 0) : ht (Rat.divInt n d) ≤ max (bl n.natAbs) (bl d.natAbs) := by
 rw [divInt_mk n d h]
 refine Nat.le_trans (ht_mk _ _ (by omega)) ?_
 have : (if d < 0 then -n else n).natAbs = n.natAbs := by split <;> simp
 rw [this]; exact Nat.le_refl _
theorem ht_rNum (z : Int) : ht (rNum z) ≤ 5 := by
 unfold rNum
 have hrd := rDen_range (z.tdiv 41 % 6).toNat
 have m1 := Int.emod_nonneg z (show (41 : Int) ≠ 0 by omega)
 have m2 := Int.emod_lt_of_pos z (show (0 : Int) < 41 by omega)
 refine Nat.le_trans (ht_divInt _ _ (by omega)) (Nat.max_le.2 ⟨bl_le (by omega), bl_le (by omega)⟩)
theorem same_self {H : Hp} {w : Value} {p : Rat} (hw : RQ H w p) (hp : rq p) : PC prog 35 #[fracV p, w] H fun r _ => r = .bool true := by
 have := same_pc hw hp hp
 rwa [decide_eq_true rfl] at this
theorem rq_small {q : Rat} {k : Nat} (h : ht q ≤ k) (hk : k ≤ 100000000) : rq q := Nat.le_trans h hk
section
variable {P : Program} {n : Nat} {ops : Array Oper} {o : Oper} {rest : List Oper} {env : Env} {bx : Bxs} {H : Hs} {Q : EQ} {τ : Tab} {d : Nat}
end
theorem ordR_self (a : Rat) : ordR a a = 0 := by unfold ordR; rw [if_neg Rat.lt_irrefl, if_neg Rat.lt_irrefl]
theorem fracV_zero : fracV 0 = .agg #[.bool false, .int .u64 0, .string ⟨#[]⟩, .int .u64 0, .string ⟨#[]⟩] := by
 show frV 0 0 = _
 rw [frV_zero, show (0 : Int).natAbs = 0 from rfl, moreB_empty (n := 0) (by decide)]; rfl
theorem frac_zero_cells : vlist (fracV 0) = [.bool false, .int .u64 0, .string ⟨#[]⟩, .int .u64 0, .string ⟨#[]⟩] := by rw [fracV_zero]; rfl
theorem sm_of {q : Rat} {n : Nat} (h : ht q ≤ n) (hn : n ≤ 100000000) : sm q := Nat.le_trans h hn
theorem sum_pc {H : Hp} {v : Value} {l : List Rat} (h : QL H v l) (hl : l.length ≤ 100000) (hb : ∀ q, q ∈ l → ht q ≤ 100) : PC prog 119 #[v] H fun r _ => r = fracV (sumQ l) := by
 obtain ⟨a, cap, rfl⟩ := SlC.val h
 have hz : vlist (fracV (sumQ (l.take 0))) = [.bool false, .int .u64 0, .string ⟨#[]⟩, .int .u64 0, .string ⟨#[]⟩] := frac_zero_cells
 refine BD func119 ntmps119 ?_
 try refine RUN ?_
 refine EV.loopK (ι := Nat) [2, 3, 6, 7] [2] (fun i => [(8, .v (.int .i64 (i : Int)))]) (fun i => [(3, 45, vlist (fracV (sumQ (l.take i))))]) (fun _ => []) (fun i G => i ≤ l.length) (fun i => l.length - i) (0) rfl rfl ⟨rfl, trivial⟩ ⟨by rw [hz]; rfl, trivial⟩ rfl (fun _ => rfl) (Nat.zero_le _) ?_
 intro i G1 hG1 hi
 try refine RUN ?_
 refine EV.cond rfl (fun hlt => ?_) (fun hlt => ?_)
 ·simp only [nN] at hlt
  obtain ⟨q, hqi⟩ : ∃ q, l[i]? = some q := ⟨_, List.getElem?_eq_getElem hlt⟩
  have hqb := hb q (List.mem_of_getElem? hqi)
  have hsb := ht_sum 100 (l.take i) (fun q hq => hb q (List.mem_of_mem_take hq))
  rw [List.length_take, Nat.min_eq_left hi] at hsb
  have hadd := add_pv (sumQ (l.take i)) q (sm_of hsb (by omega)) (sm_of hqb (by omega))
  rw [← sumQ_snoc, ← take_snoc hqi] at hadd
  try refine RUN ?_
  refine EVL.idxM tO rfl rfl rfl rfl rfl rfl rfl rfl rfl ((SlC.mono (show SlC H (.slice a l.length cap) l.length 5 (l.flatMap fun q => vlist (fracV q)) from h) hG1)) (i) (rfl) (hlt) ((QL.at (H := H) (v := .slice a l.length cap) hqi)) ?_
  repeat (first | refine RUN ?_ | refine CV (hadd) ?_ | refine CE (hadd) ?_)
  refine ⟨i + 1, ⟨?_, trivial⟩, (by repeat (first | exact trivial | refine And.intro rfl ?_)), ⟨rfl, trivial⟩, (by repeat (first | exact trivial | refine And.intro rfl ?_)), rfl, hlt, Hp.Le.refl _, by omega⟩
  rw [wi_inc i (by omega)]; rfl
 ·simp only [nN] at hlt
  obtain rfl : i = l.length := by omega
  rw [List.take_length]
  try refine RUN ?_
  rfl
theorem mean_pc {H : Hp} {v : Value} {l : List Rat} (h : QL H v l) (hl : l.length ≤ 100000) (h0 : l.length ≠ 0) (hb : ∀ q, q ∈ l → ht q ≤ 100) : PC prog 73 #[v] H fun r _ => r = .tuple #[fracV (sumQ l / ((l.length : Int) : Rat)), .bool true] := by
 obtain ⟨a, cap, rfl⟩ := SlC.val h
 have hs := ht_sum 100 l hb
 have hln := ht_len hl
 have hsum := sum_pc h hl hb
 have hof := of_pv (l.length : Int) (by omega) (by omega)
 have hd := div_pv (sumQ l) ((l.length : Int) : Rat) (sm_of hs (by omega)) (sm_of hln (by omega)) (by intro e; have : ((l.length : Int) : Rat) = ((0 : Int) : Rat) := e; exact h0 (by have := Rat.intCast_inj.1 this; omega))
 refine BD func73 ntmps73 ?_
 repeat (first | refine RUN ?_ | refine CV (hsum) ?_ | refine CV (hof) ?_ | refine CV (hd) ?_ | refine CE (hsum) ?_ | refine CE (hof) ?_ | refine CE (hd) ?_)
 rfl
theorem mean_no {H : Hp} {v : Value} (h : QL H v []) : PC prog 73 #[v] H fun r _ => r = .tuple #[fracV 0, .bool false] := by
 obtain ⟨a, cap, rfl⟩ := SlC.val h
 have hsum := sum_pc h (Nat.zero_le _) (by intro q hq; cases hq)
 have hof := of_pv 0 (by omega) (by omega)
 rw [show ((0 : Int) : Rat) = 0 from rfl] at hof
 have hd := div_zero_pv 0
 refine BD func73 ntmps73 ?_
 repeat (first | refine RUN ?_ | refine CV (hsum) ?_ | refine CV (hof) ?_ | refine CV (hd) ?_ | refine CE (hsum) ?_ | refine CE (hof) ?_ | refine CE (hd) ?_)
 rfl
def sideC (n : Int) (cs : List Int) (sq : Int) (q : Rat) : List Value := .int .i64 n :: (cs.map (fun z => Value.int .i64 z) ++ (.int .i64 sq :: vlist (fracV q)))
theorem sideC_len {n : Int} {cs : List Int} {sq : Int} {q : Rat} (h : cs.length = 12) : (sideC n cs sq q).length = 19 := by
 unfold sideC; rw [List.length_cons, List.length_append, List.length_map, h]; rfl
theorem drop_mid {α : Type} {a b : List α} {k : Nat} (h : a.length = k) : (a ++ b).drop k = b := List.drop_left' h
theorem side_n {n : Int} {cs : List Int} {sq : Int} {q : Rat} : ((sideC n cs sq q).drop 0).take 1 = [.int .i64 n] := rfl
theorem side_n_set {n n' : Int} {cs : List Int} {sq : Int} {q : Rat} : (sideC n cs sq q).take 0 ++ [.int .i64 n'] ++ (sideC n cs sq q).drop (0 + 1) = sideC n' cs sq q := rfl
theorem side_split (n : Int) (cs : List Int) (sq : Int) (q : Rat) : sideC n cs sq q = (.int .i64 n :: cs.map (fun z => Value.int .i64 z)) ++ (.int .i64 sq :: vlist (fracV q)) := rfl
theorem side_sq {n : Int} {cs : List Int} {sq : Int} {q : Rat} (h : cs.length = 12) : ((sideC n cs sq q).drop 13).take 1 = [.int .i64 sq] := by
 rw [side_split, drop_mid (by rw [List.length_cons, List.length_map, h])]; rfl
theorem side_sq_set {n : Int} {cs : List Int} {sq sq' : Int} {q : Rat} (h : cs.length = 12) : (sideC n cs sq q).take 13 ++ [.int .i64 sq'] ++ (sideC n cs sq q).drop (13 + 1) = sideC n cs sq' q := by
 have e : (sideC n cs sq q).drop (13 + 1) = vlist (fracV q) := by
  rw [← List.drop_drop, side_split, drop_mid (by rw [List.length_cons, List.length_map, h])]; rfl
 rw [e, side_split, List.take_left' (by rw [List.length_cons, List.length_map, h]), side_split]
 simp
theorem side_sum {n : Int} {cs : List Int} {sq : Int} {q : Rat} (h : cs.length = 12) : ((sideC n cs sq q).drop 14).take 5 = vlist (fracV q) := by
 have e : (sideC n cs sq q).drop (13 + 1) = vlist (fracV q) := by
  rw [← List.drop_drop, side_split, drop_mid (by rw [List.length_cons, List.length_map, h])]; rfl
 rw [e]; rfl
theorem side_sum_set {n : Int} {cs : List Int} {sq : Int} {q q' : Rat} (h : cs.length = 12) : (sideC n cs sq q).take 14 ++ vlist (fracV q') ++ (sideC n cs sq q).drop (14 + 5) = sideC n cs sq q' := by
 have hl := sideC_len (n := n) (sq := sq) (q := q) h
 have e : sideC n cs sq q = (.int .i64 n :: cs.map (fun z => Value.int .i64 z) ++ [.int .i64 sq]) ++ vlist (fracV q) := by rw [side_split]; simp
 rw [List.drop_of_length_le (by omega), List.append_nil, e, List.take_left' (by simp [h]), side_split]
 simp
theorem side_at {n : Int} {cs : List Int} {sq : Int} {q : Rat} {j : Nat} {z : Int} (hj : cs[j]? = some z) : ((sideC n cs sq q).drop (1 + j)).take 1 = [.int .i64 z] := by
 obtain ⟨hl, hz⟩ := List.getElem?_eq_some_iff.1 hj
 unfold sideC
 rw [Nat.add_comm, List.drop_succ_cons, List.drop_append_of_le_length (by rw [List.length_map]; omega), List.take_append_of_le_length (by rw [List.length_drop, List.length_map]; omega), List.drop_eq_getElem_cons (by rw [List.length_map]; exact hl)]
 simp [hz]
theorem side_at_set {n : Int} {cs : List Int} {sq : Int} {q : Rat} {j : Nat} (z : Int) (hj : j < cs.length) : (sideC n cs sq q).take (1 + j) ++ [.int .i64 z] ++ (sideC n cs sq q).drop (1 + j + 1) = sideC n (cs.set j z) sq q := by
 unfold sideC
 rw [show 1 + j = j + 1 by omega, List.take_succ_cons, List.drop_succ_cons, List.take_append_of_le_length (by rw [List.length_map]; omega), List.drop_append_of_le_length (by rw [List.length_map]; omega), List.map_set]
 rw [List.set_eq_take_append_cons_drop, if_pos (by rw [List.length_map]; exact hj)]
 simp
theorem side_at' {n : Int} {cs : List Int} {sq : Int} {q : Rat} {j : Nat} {z : Int} (hj : cs[j]? = some z) : ((sideC n cs sq q).drop (0 + 1 + j)).take 1 = [.int .i64 z] := side_at hj
theorem side_at_set' {n : Int} {cs : List Int} {sq : Int} {q : Rat} {j : Nat} (z : Int) (hj : j < cs.length) : (sideC n cs sq q).take (0 + 1 + j) ++ [.int .i64 z] ++ (sideC n cs sq q).drop (0 + 1 + j + 1) = sideC n (cs.set j z) sq q := side_at_set z hj
theorem und_arr : Tryz.prog.underlying 114 = some (.array 12 3) := by kernel_rfl
theorem side_zero : Tryz.te116.zero = sideC 0 (List.replicate 12 0) 0 0 := by
 unfold sideC; rw [frac_zero_cells]; rfl
theorem side_all {n : Int} {cs : List Int} {sq : Int} {q : Rat} (h : cs.length = 12) : ((sideC n cs sq q).drop 0).take 19 = sideC n cs sq q := by
 rw [List.drop_zero, List.take_of_length_le (by rw [sideC_len h]; omega)]
abbrev goalV (kind classes : Int) (sl sv : Value) : Value := .agg #[.int .i64 kind, .int .i64 classes, sl, sv]
set_option maxHeartbeats 4000000 in
theorem addV_pw {H : Hp} {b : Nat} {cl : Int} {la : Option Addr} {ln lc : Nat} {va : Option Addr} {vc : Nat} {vals : List Rat} (hv : QL H (.slice va vals.length vc) vals) {r n : Nat} (hn : n ≤ 1000000) {x q : Rat} (hr : vals[r]? = some x) (hx : sm x) (hq : sm q) {cs : List Int} (hc : cs.length = 12) {sq : Int} :
  PW prog 115 #[.pointer (some ⟨b, 0, none⟩), goalV 2 cl (.slice la ln lc) (.slice va vals.length vc), .int .i64 (r : Int)] H [(b, 116, sideC n cs sq q)] fun v ow _ => v = .tuple #[] ∧ ow = [(b, 116, sideC ((n + 1 : Nat) : Int) cs sq (q + x))] := by
 have hadd := add_pv q x hq hx
 have hlen := sideC_len (n := (n : Int)) (cs := cs) (sq := sq) (q := q) hc
 obtain ⟨hrl, _⟩ := List.getElem?_eq_some_iff.1 hr
 have hs : SlC H (.slice va vals.length vc) vals.length 5 (vals.flatMap fun q => vlist (fracV q)) := hv
 refine PW.body tO func115 rfl (by kernel_rfl) ntmps115 rfl rfl ?_
 try refine RUN ?_
 (repeat (first | refine EVL.nilB rfl rfl rfl rfl rfl ?_ | refine EVL.fldB tO rfl rfl rfl rfl rfl rfl rfl ?_ | refine EVL.val tO rfl rfl rfl rfl rfl ?_))
 refine EVL.loadOwn tO rfl rfl rfl rfl rfl rfl (0) rfl (side_n) rfl rfl ?_
 (repeat (first | refine EVL.nilB rfl rfl rfl rfl rfl ?_ | refine EVL.fldB tO rfl rfl rfl rfl rfl rfl rfl ?_ | refine EVL.val tO rfl rfl rfl rfl rfl ?_))
 rw [show IntKind.i64.wrap ((n : Int) + 1) = ((n + 1 : Nat) : Int) by rw [IntKind.wrap_i64]; omega]
 refine EVL.storeOwn tO rfl rfl rfl rfl rfl rfl ([]) ([]) rfl rfl rfl rfl ((by rw [hlen]; show 0 + 1 ≤ 19; omega)) (side_n_set) ?_
 try refine RUN ?_
 apply EV.drawn 11 (by kernel_rfl) (by kernel_rfl); intro xv yw
 (repeat (first | refine' DV ?_ | refine' DA ?_ | refine' DK0 ?_ | refine' DT ?_ | refine' DS ?_ | (refine' DJ.nilB rfl rfl rfl rfl rfl ?_; rotate_left) | (refine' DJ.fldB tO rfl rfl rfl rfl rfl rfl rfl ?_; rotate_left)))
 refine' DJ.ofVal (ValOk.loadOwn tO rfl rfl rfl rfl (0) rfl (side_sum hc) rfl rfl) rfl rfl rfl ?_; rotate_left
 (repeat (first | refine' DV ?_ | refine' DA ?_ | refine' DK0 ?_ | refine' DT ?_ | refine' DS ?_ | (refine' DJ.nilB rfl rfl rfl rfl rfl ?_; rotate_left) | (refine' DJ.fldB tO rfl rfl rfl rfl rfl rfl rfl ?_; rotate_left)))
 refine' DJ.idxM tO rfl rfl rfl rfl rfl rfl rfl rfl rfl (hs) (r) (rfl) (hrl) (QL.at (H := H) (v := .bool true) hr) ?_; rotate_left
 (repeat (first | refine' DV ?_ | refine' DA ?_ | refine' DK0 ?_ | refine' DT ?_ | (refine' DC (hadd) (h := ?_); rotate_left) | refine' DS ?_))
 (refine DJ.nil (fun G1 hG1 hF1 => ?_); (case hS => rfl); (case hS2 => rfl))
 (repeat (first | refine EVL.nilB rfl rfl rfl rfl rfl ?_ | refine EVL.fldB tO rfl rfl rfl rfl rfl rfl rfl ?_ | refine EVL.val tO rfl rfl rfl rfl rfl ?_))
 refine EVL.storeOwn tO rfl rfl rfl rfl rfl rfl ([]) ([]) rfl rfl rfl rfl ((by rw [sideC_len hc]; show 14 + 5 ≤ 19; omega)) (side_sum_set hc) ?_
 try refine RUN ?_
 exact ⟨rfl, rfl⟩
set_option maxHeartbeats 4000000 in
theorem addC_pw {H : Hp} {b : Nat} {cl : Int} {va : Option Addr} {vn vc : Nat} {la : Option Addr} {lc : Nat} {ls : List Int} (hv : IL H (.slice la ls.length lc) ls) {r n : Nat} (hn : n ≤ 1000000) {k m sq : Nat} (hr : ls[r]? = some (k : Int)) (hk : k < 12) {cs : List Int} (hc : cs.length = 12) (hm : cs[k]? = some (m : Int)) (hmb : m ≤ 1000000) (hsb : sq ≤ 10000000000000) {q : Rat} :
  PW prog 115 #[.pointer (some ⟨b, 0, none⟩), goalV 1 cl (.slice la ls.length lc) (.slice va vn vc), .int .i64 (r : Int)] H [(b, 116, sideC n cs sq q)] fun v ow _ => v = .tuple #[] ∧ ow = [(b, 116, sideC ((n + 1 : Nat) : Int) (cs.set k ((m + 1 : Nat) : Int)) ((sq + 2 * m + 1 : Nat) : Int) q)] := by
 have hlen := sideC_len (n := (n : Int)) (cs := cs) (sq := (sq : Int)) (q := q) hc
 obtain ⟨hrl, _⟩ := List.getElem?_eq_some_iff.1 hr
 have w1 : IntKind.i64.wrap ((sq : Int) + IntKind.i64.wrap (IntKind.i64.wrap (2 * (m : Int)) + 1)) = ((sq + 2 * m + 1 : Nat) : Int) := by
  rw [show IntKind.i64.wrap (2 * (m : Int)) = 2 * (m : Int) by rw [IntKind.wrap_i64]; omega, show IntKind.i64.wrap (2 * (m : Int) + 1) = 2 * (m : Int) + 1 by rw [IntKind.wrap_i64]; omega, IntKind.wrap_i64]; omega
 have w2 : IntKind.i64.wrap ((m : Int) + 1) = ((m + 1 : Nat) : Int) := by rw [IntKind.wrap_i64]; omega
 refine PW.body tO func115 rfl (by kernel_rfl) ntmps115 rfl rfl ?_
 try refine RUN ?_
 (repeat (first | refine EVL.nilB rfl rfl rfl rfl rfl ?_ | refine EVL.fldB tO rfl rfl rfl rfl rfl rfl rfl ?_ | refine EVL.val tO rfl rfl rfl rfl rfl ?_))
 refine EVL.loadOwn tO rfl rfl rfl rfl rfl rfl (0) rfl (side_n) rfl rfl ?_
 (repeat (first | refine EVL.nilB rfl rfl rfl rfl rfl ?_ | refine EVL.fldB tO rfl rfl rfl rfl rfl rfl rfl ?_ | refine EVL.val tO rfl rfl rfl rfl rfl ?_))
 rw [show IntKind.i64.wrap ((n : Int) + 1) = ((n + 1 : Nat) : Int) by rw [IntKind.wrap_i64]; omega]
 refine EVL.storeOwn tO rfl rfl rfl rfl rfl rfl ([]) ([]) rfl rfl rfl rfl ((by rw [hlen]; show 0 + 1 ≤ 19; omega)) (side_n_set) ?_
 try refine RUN ?_
 refine EVL.idxR tO rfl rfl rfl rfl rfl rfl rfl rfl rfl rfl (hv) (r) (rfl) (hrl) ((by rw [List.getElem?_map, hr]; rfl)) ?_
 try refine RUN ?_
 apply EV.drawn 13 (by kernel_rfl) (by kernel_rfl); intro xv yw
 (repeat (first | refine' DV ?_ | refine' DA ?_ | refine' DK0 ?_ | refine' DT ?_ | refine' DS ?_ | (refine' DJ.nilB rfl rfl rfl rfl rfl ?_; rotate_left) | (refine' DJ.fldB tO rfl rfl rfl rfl rfl rfl rfl ?_; rotate_left)))
 refine' DJ.ofVal (ValOk.loadOwn tO rfl rfl rfl rfl (0) rfl (side_sq hc) rfl rfl) rfl rfl rfl ?_; rotate_left
 (repeat (first | refine' DV ?_ | refine' DA ?_ | refine' DK0 ?_ | refine' DT ?_ | refine' DS ?_ | (refine' DJ.nilB rfl rfl rfl rfl rfl ?_; rotate_left) | (refine' DJ.fldB tO rfl rfl rfl rfl rfl rfl rfl ?_; rotate_left)))
 refine' DJ.idxA tO rfl rfl rfl rfl (und_arr) rfl rfl rfl rfl (k) (rfl) (hk) ?_; rotate_left
 refine' DJ.ofVal (ValOk.loadOwn tO rfl rfl rfl rfl (0) rfl (side_at' hm) rfl rfl) rfl rfl rfl ?_; rotate_left
 (repeat (first | refine' DV ?_ | refine' DA ?_ | refine' DK0 ?_ | refine' DT ?_ | refine' DS ?_ | (refine' DJ.nilB rfl rfl rfl rfl rfl ?_; rotate_left) | (refine' DJ.fldB tO rfl rfl rfl rfl rfl rfl rfl ?_; rotate_left)))
 (refine DJ.nil (fun G1 hG1 hF1 => ?_); (case hS => rfl); (case hS2 => rfl))
 rw [w1]
 (repeat (first | refine EVL.nilB rfl rfl rfl rfl rfl ?_ | refine EVL.fldB tO rfl rfl rfl rfl rfl rfl rfl ?_ | refine EVL.val tO rfl rfl rfl rfl rfl ?_))
 refine EVL.storeOwn tO rfl rfl rfl rfl rfl rfl ([]) ([]) rfl rfl rfl rfl ((by rw [sideC_len hc]; show 13 + 1 ≤ 19; omega)) (side_sq_set hc) ?_
 try refine RUN ?_
 apply EV.drawn 10 (by kernel_rfl) (by kernel_rfl); intro xv yw
 (repeat (first | refine' DV ?_ | refine' DA ?_ | refine' DK0 ?_ | refine' DT ?_ | refine' DS ?_ | (refine' DJ.nilB rfl rfl rfl rfl rfl ?_; rotate_left) | (refine' DJ.fldB tO rfl rfl rfl rfl rfl rfl rfl ?_; rotate_left)))
 refine' DJ.idxA tO rfl rfl rfl rfl (und_arr) rfl rfl rfl rfl (k) (rfl) (hk) ?_; rotate_left
 refine' DJ.ofVal (ValOk.loadOwn tO rfl rfl rfl rfl (0) rfl (side_at' hm) rfl rfl) rfl rfl rfl ?_; rotate_left
 (repeat (first | refine' DV ?_ | refine' DA ?_ | refine' DK0 ?_ | refine' DT ?_ | refine' DS ?_ | (refine' DJ.nilB rfl rfl rfl rfl rfl ?_; rotate_left) | (refine' DJ.fldB tO rfl rfl rfl rfl rfl rfl rfl ?_; rotate_left)))
 refine' DJ.idxA tO rfl rfl rfl rfl (und_arr) rfl rfl rfl rfl (k) (rfl) (hk) ?_; rotate_left
 (refine DJ.nil (fun G2 hG2 hF2 => ?_); (case hS => rfl); (case hS2 => rfl))
 rw [w2]
 (repeat (first | refine EVL.nilB rfl rfl rfl rfl rfl ?_ | refine EVL.fldB tO rfl rfl rfl rfl rfl rfl rfl ?_ | refine EVL.val tO rfl rfl rfl rfl rfl ?_))
 refine EVL.storeOwn tO rfl rfl rfl rfl rfl rfl ([]) ([]) rfl rfl rfl rfl ((by rw [sideC_len hc]; show 0 + 1 + k + 1 ≤ 19; omega)) (side_at_set' _ (show k < cs.length by omega)) ?_
 try refine RUN ?_
 exact ⟨rfl, rfl⟩
theorem nat_rat_ne {n : Nat} (h0 : ¬ n = 0) : ((n : Int) : Rat) ≠ 0 := fun h => by
 have := congrArg Rat.num h
 rw [Rat.num_intCast] at this
 have h3 : (0 : Rat).num = 0 := rfl
 omega
theorem rat_div_zero (x : Rat) : x / 0 = 0 := by rw [Rat.div_def, Rat.inv_zero, Rat.mul_zero]
set_option maxHeartbeats 4000000 in
theorem worthC_pw {H : Hp} {b n : Nat} {cs : List Int} (hc : cs.length = 12) {sq : Nat} (hsq : sq ≤ 10000000000000) (hn : n ≤ 1000000) {q : Rat} :
  PW prog 68 #[.pointer (some ⟨b, 0, none⟩), .int .i64 1] H [(b, 116, sideC n cs sq q)] fun v ow _ => v = fracV (((sq : Int) : Rat) / ((n : Int) : Rat)) ∧ ow = [(b, 116, sideC n cs sq q)] := by
 have hof := of_pv (sq : Int) (by omega) (by omega)
 have hof2 := of_pv (n : Int) (by omega) (by omega)
 have hnh : ht ((n : Int) : Rat) ≤ 100 := by
  have := ht_int (n : Int)
  have h2 : bl (n : Int).natAbs ≤ 20 := bl_le (by omega)
  omega
 have hsh : ht ((sq : Int) : Rat) ≤ 100 := by
  have := ht_int (sq : Int)
  have h2 : bl (sq : Int).natAbs ≤ 50 := bl_le (by omega)
  omega
 refine PW.body tO func68 rfl (by kernel_rfl) ntmps68 rfl rfl ?_
 try refine RUN ?_
 (repeat (first | refine EVL.nilB rfl rfl rfl rfl rfl ?_ | refine EVL.fldB tO rfl rfl rfl rfl rfl rfl rfl ?_ | refine EVL.val tO rfl rfl rfl rfl rfl ?_))
 refine EVL.loadOwn tO rfl rfl rfl rfl rfl rfl (0) rfl (side_n) rfl rfl ?_
 try refine RUN ?_
 by_cases h0 : n = 0
 ·subst h0
  rw [show (((0 : Nat) : Int) == 0) = true from rfl]
  try refine RUN ?_
  rw [show (((0 : Nat) : Int) : Rat) = 0 from rfl, rat_div_zero]
  exact ⟨fracV_zero.symm, rfl⟩
 ·have hdiv := div_pv ((sq : Int) : Rat) ((n : Int) : Rat) (sm_of hsh (by omega)) (sm_of hnh (by omega)) (nat_rat_ne h0)
  rw [show ((n : Int) == 0) = false from beq_eq_false_iff_ne.2 (by omega)]
  try refine RUN ?_
  (repeat (first | refine EVL.nilB rfl rfl rfl rfl rfl ?_ | refine EVL.fldB tO rfl rfl rfl rfl rfl rfl rfl ?_ | refine EVL.val tO rfl rfl rfl rfl rfl ?_))
  refine EVL.loadOwn tO rfl rfl rfl rfl rfl rfl (0) rfl (side_sq hc) rfl rfl ?_
  repeat (first | refine RUN ?_ | refine CV (hof) ?_ | refine CE (hof) ?_)
  apply EV.drawn 12 (by kernel_rfl) (by kernel_rfl); intro xv yw
  (repeat (first | refine' DV ?_ | refine' DA ?_ | refine' DK0 ?_ | refine' DT ?_ | refine' DS ?_ | (refine' DJ.nilB rfl rfl rfl rfl rfl ?_; rotate_left) | (refine' DJ.fldB tO rfl rfl rfl rfl rfl rfl rfl ?_; rotate_left)))
  refine' DJ.ofVal (ValOk.loadOwn tO rfl rfl rfl rfl (0) rfl (side_n) rfl rfl) rfl rfl rfl ?_; rotate_left
  (repeat (first | refine' DV ?_ | refine' DA ?_ | refine' DK0 ?_ | refine' DT ?_ | (refine' DC (hof2) (h := ?_); rotate_left) | (refine' DC (hdiv) (h := ?_); rotate_left) | refine' DS ?_))
  (refine DJ.nil (fun G2 hG2 hF2 => ?_); (case hS => rfl); (case hS2 => rfl))
  try refine RUN ?_
  exact ⟨rfl, rfl⟩
end Go.Proofs.YtejljnlfgiifoaaGreatDoor
namespace Go.Proofs.YtejljnlfgiifoaaGreatDoor
def csL (l : List Int) : List Int := (List.range 12).map fun (k : Nat) => (l.count (k : Int) : Int)
def sqL (l : List Int) : Nat := (l.map fun x => l.count x).sum
theorem csL_len (l : List Int) : (csL l).length = 12 := by simp [csL]
theorem csL_at (l : List Int) {k : Nat} (hk : k < 12) : (csL l)[k]? = some (l.count (k : Int) : Int) := by
 unfold csL; rw [List.getElem?_map, List.getElem?_range hk]; rfl
theorem count_snoc (l : List Int) (x y : Int) : (l ++ [x]).count y = l.count y + if x = y then 1 else 0 := by
 rw [List.count_append, List.count_singleton]
 congr 1
 by_cases h : x = y
 ·rw [if_pos h, h]; simp
 ·rw [if_neg h]; simp [h]
theorem csL_snoc (l : List Int) {k : Nat} (hk : k < 12) : csL (l ++ [(k : Int)]) = (csL l).set k ((l.count (k : Int) + 1 : Nat) : Int) := by
 apply List.ext_getElem?
 intro j
 rw [List.getElem?_set]
 by_cases hj : j < 12
 ·rw [csL_at _ hj, csL_at _ hj, count_snoc, csL_len]
  by_cases e : k = j
  ·subst e; rw [if_pos rfl, if_pos rfl, if_pos hk]
  ·rw [if_neg e, if_neg (by omega), Nat.add_zero]
 ·rw [List.getElem?_eq_none (by rw [csL_len]; omega), List.getElem?_eq_none (by rw [csL_len]; omega), if_neg (by omega)]
theorem sum_count (l m : List Int) (x : Int) : (m.map fun y => l.count y + if x = y then 1 else 0).sum = (m.map fun y => l.count y).sum + m.count x := by
 induction m with
 | nil => rfl
 | cons a m ih =>
  rw [List.map_cons, List.sum_cons, List.map_cons, List.sum_cons, ih, List.count_cons]
  by_cases h : x = a
  ·rw [if_pos h, h]; simp; omega
  ·have h2 : ¬ (a == x) = true := by simp; omega
   rw [if_neg h, if_neg h2]; omega
theorem sqL_snoc (l : List Int) (x : Int) : sqL (l ++ [x]) = sqL l + 2 * l.count x + 1 := by
 unfold sqL
 rw [List.map_append, List.sum_append]
 have e : (l.map fun y => (l ++ [x]).count y) = l.map fun y => l.count y + if x = y then 1 else 0 := List.map_congr_left fun y _ => count_snoc l x y
 rw [e, sum_count]
 have : ([x].map fun y => (l ++ [x]).count y).sum = l.count x + 1 := by
  simp
 rw [this]; omega
theorem sum_le (l : List Int) (B : Nat) : ∀ m : List Int, (∀ y, y ∈ m → l.count y ≤ B) → (m.map fun y => l.count y).sum ≤ m.length * B
 | [], _ => by simp
 | a :: m, h => by
  have ih := sum_le l B m (fun y hy => h y (List.mem_cons_of_mem _ hy))
  have := h a (List.mem_cons_self ..)
  rw [List.map_cons, List.sum_cons, List.length_cons, Nat.succ_mul]; omega
theorem sqL_le (l : List Int) : sqL l ≤ l.length * l.length := sum_le l l.length l (fun y _ => List.count_le_length)
def atR (vals : List Rat) (rs : List Int) : List Rat := rs.map fun r => vals.getD r.toNat 0
def atI (ls : List Int) (rs : List Int) : List Int := rs.map fun r => ls.getD r.toNat 0
theorem atR_take (vals : List Rat) {rs : List Int} {i : Nat} {r : Int} {x : Rat} (h : rs[i]? = some r) (hx : vals[r.toNat]? = some x) : (atR vals rs).take (i + 1) = (atR vals rs).take i ++ [x] := by
 have : (atR vals rs)[i]? = some x := by unfold atR; rw [List.getElem?_map, h]; simp [hx]
 obtain ⟨hl, hh⟩ := List.getElem?_eq_some_iff.1 this
 rw [List.take_succ_eq_append_getElem hl, hh]
theorem atI_take (ls : List Int) {rs : List Int} {i : Nat} {r x : Int} (h : rs[i]? = some r) (hx : ls[r.toNat]? = some x) : (atI ls rs).take (i + 1) = (atI ls rs).take i ++ [x] := by
 have : (atI ls rs)[i]? = some x := by unfold atI; rw [List.getElem?_map, h]; simp [hx]
 obtain ⟨hl, hh⟩ := List.getElem?_eq_some_iff.1 this
 rw [List.take_succ_eq_append_getElem hl, hh]
theorem atR_len (vals : List Rat) (rs : List Int) : (atR vals rs).length = rs.length := by simp [atR]
theorem atI_len (ls rs : List Int) : (atI ls rs).length = rs.length := by simp [atI]
theorem atR_mem {vals : List Rat} {rs : List Int} (h : ∀ r, r ∈ rs → 0 ≤ r ∧ r < (vals.length : Int)) : ∀ q, q ∈ atR vals rs → q ∈ vals := fun q hq => by
 obtain ⟨r, hr, rfl⟩ := List.mem_map.1 hq
 have := h r hr
 have hl : r.toNat < vals.length := by omega
 rw [List.getD_eq_getElem?_getD, List.getElem?_eq_getElem hl]
 exact List.getElem_mem hl
def meanL (l : List Rat) : Rat := sumQ l / ((l.length : Int) : Rat)
def devL (m : Rat) (l : List Rat) : List Rat := l.map fun v => (v - m) * (v - m)
theorem devL_snoc (m : Rat) (l : List Rat) (x : Rat) : sumQ (devL m (l ++ [x])) = sumQ (devL m l) + (x - m) * (x - m) := by
 unfold devL; rw [List.map_append, List.map_singleton, sumQ_snoc]
end Go.Proofs.YtejljnlfgiifoaaGreatDoor
namespace Go.Proofs.YtejljnlfgiifoaaGreatDoor
open Go.RowKit _root_.Go.Proofs.Tryz
set_option maxHeartbeats 4000000 in
theorem wholeC_pc {H : Hp} {cl : Int} {va : Option Addr} {vn vc : Nat} {la : Option Addr} {lc : Nat} {ls : List Int} (hv : IL H (.slice la ls.length lc) ls) {ra : Option Addr} {rc : Nat} {rs : List Int} (hr : IL H (.slice ra rs.length rc) rs) (hn : rs.length ≤ 100000)
  (hrs : ∀ r, r ∈ rs → 0 ≤ r ∧ r < (ls.length : Int)) (hls : ∀ z, z ∈ ls → 0 ≤ z ∧ z < 12) :
  PC prog 67 #[goalV 1 cl (.slice la ls.length lc) (.slice va vn vc), .slice ra rs.length rc] H fun r _ => r = .agg (sideC (rs.length : Nat) (csL (atI ls rs)) (sqL (atI ls rs)) 0).toArray := by
 refine BD func67 ntmps67 ?_
 try refine RUN ?_
 (first | refine EVL.unbox (5) rfl fun b => ?_ | refine EV.unbox (5) rfl fun b => ?_)
 rw [side_zero]
 refine EV.loopK (ι := Nat) [2, 4, 5, 8, 9] [2, 4] (fun i => [(10, .v (.int .i64 (i : Int)))]) (fun _ => []) (fun i => [(b, 116, sideC (i : Nat) (csL ((atI ls rs).take i)) (sqL ((atI ls rs).take i)) 0)]) (fun i _ => i ≤ rs.length) (fun i => rs.length - i) (0) rfl rfl ⟨rfl, trivial⟩ trivial rfl (fun _ => rfl) (Nat.zero_le _) ?_
 rintro i G1 hG1 hi
 try refine RUN ?_
 refine EV.cond rfl (fun hlt => ?_) (fun hlt => ?_)
 ·simp only [nN] at hlt
  obtain ⟨r, hri⟩ : ∃ r, rs[i]? = some r := ⟨_, List.getElem?_eq_getElem hlt⟩
  have hb := hrs r (List.mem_of_getElem? hri)
  obtain ⟨R, rfl⟩ := Int.eq_ofNat_of_zero_le hb.1
  obtain ⟨x, hx⟩ : ∃ x, ls[R]? = some x := ⟨_, List.getElem?_eq_getElem (by omega)⟩
  have hxb := hls x (List.mem_of_getElem? hx)
  obtain ⟨k, rfl⟩ := Int.eq_ofNat_of_zero_le hxb.1
  have hk : k < 12 := by omega
  have ht := atI_take ls hri (by rw [Int.toNat_natCast]; exact hx)
  have hlen : ((atI ls rs).take i).length = i := by rw [List.length_take, atI_len]; omega
  have hcnt : ((atI ls rs).take i).count (k : Int) ≤ i := Nat.le_trans List.count_le_length (Nat.le_of_eq hlen)
  have hsq := sqL_le ((atI ls rs).take i)
  rw [hlen] at hsq
  have hsq2 : i * i ≤ 100000 * 100000 := Nat.mul_le_mul (by omega) (by omega)
  have hcs := csL_snoc ((atI ls rs).take i) hk
  have hsn := sqL_snoc ((atI ls rs).take i) (k : Int)
  rw [← ht] at hcs hsn
  try refine RUN ?_
  refine EVL.idxR tO rfl rfl rfl rfl rfl rfl rfl rfl rfl rfl ((hr.mono hG1)) (i) (rfl) (hlt) ((by rw [List.getElem?_map, hri]; rfl)) ?_
  try refine RUN ?_
  refine EVL.callW rfl rfl rfl rfl rfl ([(b, 116, sideC (i : Nat) (csL ((atI ls rs).take i)) (sqL ((atI ls rs).take i)) 0)]) ([]) rfl (addC_pw (n := i) (m := ((atI ls rs).take i).count (k : Int)) (sq := sqL ((atI ls rs).take i)) (hv.mono hG1) (by omega) hx hk (csL_len _) (csL_at _ hk) (by omega) (by omega)) ?_
  rintro v ow G2 ⟨rfl, rfl⟩ hG2
  rw [← hcs, ← hsn]
  try refine RUN ?_
  refine ⟨i + 1, ⟨?_, trivial⟩, (by repeat (first | exact trivial | refine And.intro rfl ?_)), trivial, (by repeat (first | exact trivial | refine And.intro rfl ?_)), rfl, hlt, hG2, by omega⟩
  rw [wi_inc i (by omega)]; rfl
 ·simp only [nN] at hlt
  obtain rfl : i = rs.length := by omega
  rw [show (atI ls rs).take rs.length = atI ls rs by rw [← atI_len ls rs, List.take_length]]
  have hall := side_all (n := (rs.length : Nat)) (cs := csL (atI ls rs)) (sq := sqL (atI ls rs)) (q := 0) (csL_len _)
  try refine RUN ?_
  refine EVL.loadOwn tO rfl rfl rfl rfl rfl rfl (0) rfl (hall) rfl rfl ?_
  try refine RUN ?_
  rfl
set_option maxHeartbeats 4000000 in
theorem wholeV_pc {H : Hp} {cl : Int} {va : Option Addr} {vc : Nat} {vals : List Rat} {la : Option Addr} {ln lc : Nat} (hv : QL H (.slice va vals.length vc) vals) {ra : Option Addr} {rc : Nat} {rs : List Int} (hr : IL H (.slice ra rs.length rc) rs) (hn : rs.length ≤ 10000)
  (hrs : ∀ r, r ∈ rs → 0 ≤ r ∧ r < (vals.length : Int)) (hls : ∀ q, q ∈ vals → ht q ≤ 100) :
  PC prog 67 #[goalV 2 cl (.slice la ln lc) (.slice va vals.length vc), .slice ra rs.length rc] H fun r _ => r = .agg (sideC (rs.length : Nat) (List.replicate 12 0) 0 (sumQ (atR vals rs))).toArray := by
 have hmem := fun q hq => hls q (atR_mem hrs q hq)
 refine BD func67 ntmps67 ?_
 try refine RUN ?_
 (first | refine EVL.unbox (5) rfl fun b => ?_ | refine EV.unbox (5) rfl fun b => ?_)
 rw [side_zero]
 refine EV.loopK (ι := Nat) [2, 4, 5, 8, 9] [2, 4] (fun i => [(10, .v (.int .i64 (i : Int)))]) (fun _ => []) (fun i => [(b, 116, sideC (i : Nat) (List.replicate 12 0) 0 (sumQ ((atR vals rs).take i)))]) (fun i _ => i ≤ rs.length) (fun i => rs.length - i) (0) rfl rfl ⟨rfl, trivial⟩ trivial rfl (fun _ => rfl) (Nat.zero_le _) ?_
 rintro i G1 hG1 hi
 try refine RUN ?_
 refine EV.cond rfl (fun hlt => ?_) (fun hlt => ?_)
 ·simp only [nN] at hlt
  obtain ⟨r, hri⟩ : ∃ r, rs[i]? = some r := ⟨_, List.getElem?_eq_getElem hlt⟩
  have hb := hrs r (List.mem_of_getElem? hri)
  obtain ⟨R, rfl⟩ := Int.eq_ofNat_of_zero_le hb.1
  obtain ⟨x, hx⟩ : ∃ x, vals[R]? = some x := ⟨_, List.getElem?_eq_getElem (by omega)⟩
  have hxb := hls x (List.mem_of_getElem? hx)
  have ht := atR_take vals hri (by rw [Int.toNat_natCast]; exact hx)
  have hlen : ((atR vals rs).take i).length = i := by rw [List.length_take, atR_len]; omega
  have hsb := ht_sum 100 ((atR vals rs).take i) (fun q hq => hmem q (List.mem_of_mem_take hq))
  rw [hlen] at hsb
  have hsn := sumQ_snoc ((atR vals rs).take i) x
  rw [← ht] at hsn
  try refine RUN ?_
  refine EVL.idxR tO rfl rfl rfl rfl rfl rfl rfl rfl rfl rfl ((hr.mono hG1)) (i) (rfl) (hlt) ((by rw [List.getElem?_map, hri]; rfl)) ?_
  try refine RUN ?_
  refine EVL.callW rfl rfl rfl rfl rfl ([(b, 116, sideC (i : Nat) (List.replicate 12 0) 0 (sumQ ((atR vals rs).take i)))]) ([]) rfl (addV_pw (n := i) (hv.mono hG1) (by omega) hx (sm_of hxb (by omega)) (sm_of hsb (by omega)) (by rfl)) ?_
  rintro v ow G2 ⟨rfl, rfl⟩ hG2
  rw [← hsn]
  try refine RUN ?_
  refine ⟨i + 1, ⟨?_, trivial⟩, (by repeat (first | exact trivial | refine And.intro rfl ?_)), trivial, (by repeat (first | exact trivial | refine And.intro rfl ?_)), rfl, hlt, hG2, by omega⟩
  rw [wi_inc i (by omega)]; rfl
 ·simp only [nN] at hlt
  obtain rfl : i = rs.length := by omega
  rw [show (atR vals rs).take rs.length = atR vals rs by rw [← atR_len vals rs, List.take_length]]
  have hall := side_all (n := (rs.length : Nat)) (cs := List.replicate 12 0) (sq := 0) (q := sumQ (atR vals rs)) (by rfl)
  try refine RUN ?_
  refine EVL.loadOwn tO rfl rfl rfl rfl rfl rfl (0) rfl (hall) rfl rfl ?_
  try refine RUN ?_
  rfl
theorem lenC_pv {cl : Int} {va : Option Addr} {vn vc : Nat} {la : Option Addr} {ln lc : Nat} : PV prog 61 #[goalV 1 cl (.slice la ln lc) (.slice va vn vc)] (.int .i64 (ln : Int)) := by
 refine PV.of_pc ?_
 refine BD func61 ntmps61 ?_
 try refine RUN ?_
 rfl
theorem lenV_pv {cl : Int} {va : Option Addr} {vn vc : Nat} {la : Option Addr} {ln lc : Nat} : PV prog 61 #[goalV 2 cl (.slice la ln lc) (.slice va vn vc)] (.int .i64 (vn : Int)) := by
 refine PV.of_pc ?_
 refine BD func61 ntmps61 ?_
 try refine RUN ?_
 rfl
theorem checkV_pv {va : Option Addr} {vn vc : Nat} {la : Option Addr} {lc : Nat} (h0 : 1 ≤ vn) (h1 : vn ≤ 300) : PV prog 60 #[goalV 2 0 (.slice la 0 lc) (.slice va vn vc)] (.int .i64 0) := by
 refine PV.of_pc ?_
 have hlen := lenV_pv (cl := 0) (va := va) (vn := vn) (vc := vc) (la := la) (ln := 0) (lc := lc)
 refine BD func60 ntmps60 ?_
 repeat (first | refine RUN ?_ | refine CV (hlen) ?_ | refine CE (hlen) ?_)
 rw [decide_eq_false (show ¬ (vn : Int) < 1 by omega)]
 try refine RUN ?_
 rw [decide_eq_false (show ¬ (vn : Int) > 300 by omega)]
 try refine RUN ?_
 rfl
set_option maxHeartbeats 4000000 in
theorem checkC_pc {H : Hp} {va : Option Addr} {vc : Nat} {la : Option Addr} {lc : Nat} {ls : List Int} (hv : IL H (.slice la ls.length lc) ls) {cl : Int} (hc : 1 ≤ cl ∧ cl ≤ 12) (h0 : 1 ≤ ls.length) (h1 : ls.length ≤ 300) (hls : ∀ z, z ∈ ls → 0 ≤ z ∧ z < cl) : PC prog 60 #[goalV 1 cl (.slice la ls.length lc) (.slice va 0 vc)] H fun r _ => r = .int .i64 0 := by
 have hlen := lenC_pv (cl := cl) (va := va) (vn := 0) (vc := vc) (la := la) (ln := ls.length) (lc := lc)
 refine BD func60 ntmps60 ?_
 repeat (first | refine RUN ?_ | refine CV (hlen) ?_ | refine CE (hlen) ?_)
 rw [decide_eq_false (show ¬ (ls.length : Int) < 1 by omega)]
 try refine RUN ?_
 rw [decide_eq_false (show ¬ (ls.length : Int) > 300 by omega)]
 try refine RUN ?_
 rw [decide_eq_false (show ¬ cl < 1 by omega)]
 try refine RUN ?_
 rw [decide_eq_false (show ¬ cl > 12 by omega)]
 try refine RUN ?_
 refine EV.loopK (ι := Nat) [1, 49, 50] [1] (fun i => [(51, .v (.int .i64 (i : Int)))]) (fun _ => []) (fun _ => []) (fun i _ => i ≤ ls.length) (fun i => ls.length - i) (0) rfl rfl ⟨rfl, trivial⟩ trivial rfl (fun _ => rfl) (Nat.zero_le _) ?_
 rintro i G1 hG1 hi
 try refine RUN ?_
 refine EV.cond rfl (fun hlt => ?_) (fun hlt => ?_)
 ·simp only [nN] at hlt
  obtain ⟨z, hz⟩ : ∃ r, ls[i]? = some r := ⟨_, List.getElem?_eq_getElem hlt⟩
  have hb := hls z (List.mem_of_getElem? hz)
  try refine RUN ?_
  refine EVL.idxR tO rfl rfl rfl rfl rfl rfl rfl rfl rfl rfl ((hv.mono hG1)) (i) (rfl) (hlt) ((by rw [List.getElem?_map, hz]; rfl)) ?_
  try refine RUN ?_
  rw [decide_eq_false (show ¬ z < 0 by omega)]
  try refine RUN ?_
  rw [decide_eq_false (show ¬ z ≥ cl by omega)]
  try refine RUN ?_
  refine ⟨i + 1, ⟨?_, trivial⟩, (by repeat (first | exact trivial | refine And.intro rfl ?_)), trivial, (by repeat (first | exact trivial | refine And.intro rfl ?_)), rfl, hlt, Hp.Le.refl _, by omega⟩
  rw [wi_inc i (by omega)]; rfl
 ·(try refine RUN ?_)
  rfl
abbrev iv : Int → Value := fun z => .int .i64 z
def inR (n : Nat) (r : Int) : Bool := decide (0 ≤ r) && decide (r < (n : Int))
def exL (rs : List Int) (n : Nat) : List Int := rs.filter (inR n)
theorem exL_mem {rs : List Int} {n : Nat} : ∀ r, r ∈ exL rs n → 0 ≤ r ∧ r < (n : Int) := fun r hr => by
 have := (List.mem_filter.1 hr).2
 unfold inR at this
 simpa using this
theorem exL_len (rs : List Int) (n : Nat) : (exL rs n).length ≤ rs.length := List.length_filter_le _ _
theorem exL_all {rs : List Int} {n : Nat} (h : ∀ r, r ∈ rs → 0 ≤ r ∧ r < (n : Int)) : exL rs n = rs := List.filter_eq_self.2 fun r hr => by
 have := h r hr
 unfold inR; simp [this.1, this.2]
theorem ex_take {rs : List Int} {n i : Nat} {r : Int} (h : rs[i]? = some r) : exL (rs.take (i + 1)) n = exL (rs.take i) n ++ if inR n r then [r] else [] := by
 rw [take_snoc h]; unfold exL
 rw [List.filter_append]
 cases hp : inR n r <;> simp [hp]
theorem OwnL.il {w : Value} {l : List Int} {ow : Ows} {T : TypeId} {x : Int} (h : OwnL T 1 w (l.length + 1) (l.map iv ++ [iv x]) ow) : OwnL T 1 w (l ++ [x]).length ((l ++ [x]).map iv) ow := by
 rw [List.length_append, List.map_append]; exact h
set_option maxHeartbeats 4000000 in
theorem existing_pc {H : Hp} {v : Value} {rs : List Int} (hr : IL H v rs) (hn : rs.length ≤ 1000000) (n : Nat) : PC prog 62 #[v, .int .i64 (n : Int)] H fun r H' => IL H' r (exL rs n) := by
 obtain ⟨a, cap, rfl⟩ := SlC.val hr
 refine BD func62 ntmps62 ?_
 try refine RUN ?_
 refine EV.loopK (ι := Nat × Value × Ows) [1, 8, 9] [] (fun q => [(5, .v q.2.1), (10, .v (.int .i64 (q.1 : Int)))]) (fun _ => []) (fun q => q.2.2) (fun q _ => q.1 ≤ rs.length ∧ OwnL 3 1 q.2.1 (exL (rs.take q.1) n).length ((exL (rs.take q.1) n).map iv) q.2.2) (fun q => rs.length - q.1) ((0, .slice none 0 0, [])) rfl rfl ⟨rfl, rfl, trivial⟩ trivial rfl (fun _ => rfl) (⟨Nat.zero_le _, OwnL.nil _ _⟩) ?_
 rintro ⟨i, w, ow⟩ G1 hG1 ⟨hi, hown⟩
 dsimp only at hi hown
 obtain ⟨wa, wc, rfl⟩ := hown.val
 try refine RUN ?_
 refine EV.cond rfl (fun hlt => ?_) (fun hlt => ?_)
 ·simp only [nN] at hlt
  obtain ⟨r, hri⟩ : ∃ r, rs[i]? = some r := ⟨_, List.getElem?_eq_getElem hlt⟩
  have hex := ex_take (n := n) hri
  have hle := exL_len (rs.take i) n
  rw [List.length_take] at hle
  try refine RUN ?_
  refine EVL.idxR tO rfl rfl rfl rfl rfl rfl rfl rfl rfl rfl ((hr.mono hG1)) (i) (rfl) (hlt) ((by rw [List.getElem?_map, hri]; rfl)) ?_
  try refine RUN ?_
  have wn : IntKind.i64.wrap ((i : Int) + 1) = ((i + 1 : Nat) : Int) := wi_inc i (by omega)
  by_cases h1 : r ≥ 0
  ·rw [decide_eq_true h1]
   try refine RUN ?_
   by_cases h2 : r < (n : Int)
   ·have hp : inR n r = true := by unfold inR; simp [h2]; omega
    rw [hp, if_pos rfl] at hex
    rw [decide_eq_true h2]
    try refine RUN ?_
    refine EVL.app1 tO rfl rfl rfl rfl rfl rfl rfl rfl rfl rfl rfl rfl rfl rfl rfl rfl rfl rfl rfl (fun _ => rfl) (ow) ([]) ((List.append_nil _).symm) (hown) (by omega) fun _ => ?_
    intro v' ow' hown'
    try refine RUN ?_
    refine ⟨(i + 1, v', ow'), ⟨rfl, ?_, trivial⟩, (by repeat (first | exact trivial | refine And.intro rfl ?_)), trivial, trivial, List.append_nil _, ⟨hlt, by rw [hex]; exact hown'.il⟩, Hp.Le.refl _, by dsimp only; omega⟩
    rw [wn]; rfl
   ·have hp : inR n r = false := by unfold inR; simp [h2]
    rw [hp, if_neg (by decide), List.append_nil] at hex
    rw [decide_eq_false h2]
    try refine RUN ?_
    refine ⟨(i + 1, _, ow), ⟨rfl, ?_, trivial⟩, (by repeat (first | exact trivial | refine And.intro rfl ?_)), trivial, trivial, rfl, ⟨hlt, by rw [hex]; exact hown⟩, Hp.Le.refl _, by dsimp only; omega⟩
    rw [wn]; rfl
  ·have hp : inR n r = false := by unfold inR; simp; omega
   rw [hp, if_neg (by decide), List.append_nil] at hex
   rw [decide_eq_false h1]
   try refine RUN ?_
   refine ⟨(i + 1, _, ow), ⟨rfl, ?_, trivial⟩, (by repeat (first | exact trivial | refine And.intro rfl ?_)), trivial, trivial, rfl, ⟨hlt, by rw [hex]; exact hown⟩, Hp.Le.refl _, by dsimp only; omega⟩
   rw [wn]; rfl
 ·simp only [nN] at hlt
  obtain rfl : i = rs.length := by omega
  rw [List.take_length] at hown ⊢
  (first | refine EVL.publishL [] ow [] ((List.append_nil _).symm) hown fun G2 hG2 hs => ?_ | refine EV.publishL [] ow [] ((List.append_nil _).symm) hown fun G2 hG2 hs => ?_)
  try refine RUN ?_
  exact hs
set_option maxHeartbeats 4000000 in
theorem values_pc {H : Hp} {v : Value} {rs : List Int} (hr : IL H v rs) (hn : rs.length ≤ 10000) {kd cl : Int} {va : Option Addr} {vc : Nat} {vals : List Rat} {la : Option Addr} {ln lc : Nat} (hv : QL H (.slice va vals.length vc) vals) :
  PC prog 71 #[goalV kd cl (.slice la ln lc) (.slice va vals.length vc), v] H fun r H' => QL H' r (atR vals (exL rs vals.length)) := by
 obtain ⟨a, cap, rfl⟩ := SlC.val hr
 refine BD func71 ntmps71 ?_
 try refine RUN ?_
 refine EVL.call rfl rfl rfl rfl rfl (existing_pc hr (by omega) vals.length) ?_
 intro r1 G0 he hG0
 have hel := exL_len rs vals.length
 have heb := exL_mem (rs := rs) (n := vals.length)
 generalize exL rs vals.length = es at *
 obtain ⟨a1, c1, rfl⟩ := SlC.val he
 try refine RUN ?_
 refine EV.loopK (ι := Nat × Value × Ows) [2, 12, 13] [2] (fun q => [(5, .v q.2.1), (14, .v (.int .i64 (q.1 : Int)))]) (fun _ => []) (fun q => q.2.2) (fun q _ => q.1 ≤ es.length ∧ OwnL 45 5 q.2.1 q.1 (((atR vals es).take q.1).flatMap fun q => vlist (fracV q)) q.2.2) (fun q => es.length - q.1) ((0, .slice none 0 0, [])) rfl rfl ⟨rfl, rfl, trivial⟩ trivial rfl (fun _ => rfl) (⟨Nat.zero_le _, OwnL.nil _ _⟩) ?_
 rintro ⟨i, w, ow⟩ G1 hG1 ⟨hi, hown⟩
 dsimp only at hi hown
 obtain ⟨wa, wc, rfl⟩ := hown.val
 try refine RUN ?_
 refine EV.cond rfl (fun hlt => ?_) (fun hlt => ?_)
 ·simp only [nN] at hlt
  obtain ⟨r, hri⟩ : ∃ r, es[i]? = some r := ⟨_, List.getElem?_eq_getElem hlt⟩
  have hb := heb r (List.mem_of_getElem? hri)
  obtain ⟨R, rfl⟩ := Int.eq_ofNat_of_zero_le hb.1
  obtain ⟨x, hx⟩ : ∃ x, vals[R]? = some x := ⟨_, List.getElem?_eq_getElem (by omega)⟩
  have hRl : R < vals.length := by omega
  have ht := atR_take vals hri (by rw [Int.toNat_natCast]; exact hx)
  have hs : SlC G1 (.slice va vals.length vc) vals.length 5 (vals.flatMap fun q => vlist (fracV q)) := hv.mono (hG0.trans hG1)
  try refine RUN ?_
  refine EVL.idxR tO rfl rfl rfl rfl rfl rfl rfl rfl rfl rfl ((he.mono hG1)) (i) (rfl) (hlt) ((by rw [List.getElem?_map, hri]; rfl)) ?_
  try refine RUN ?_
  refine EVL.idxM tO rfl rfl rfl rfl rfl rfl rfl rfl rfl (hs) (R) (rfl) (hRl) (QL.at (H := H) (v := .bool true) hx) ?_
  try refine RUN ?_
  refine EVL.app1 tO rfl rfl rfl rfl rfl rfl rfl rfl rfl rfl rfl rfl rfl rfl rfl rfl rfl rfl rfl (fun _ => rfl) (ow) ([]) ((List.append_nil _).symm) (hown) (by omega) fun _ => ?_
  intro v' ow' hown'
  try refine RUN ?_
  refine ⟨(i + 1, v', ow'), ⟨rfl, ?_, trivial⟩, (by repeat (first | exact trivial | refine And.intro rfl ?_)), trivial, (by repeat (first | exact trivial | refine And.intro rfl ?_)), List.append_nil _, ⟨hlt, by dsimp only; rw [ht, List.flatMap_append]; exact hown'⟩, Hp.Le.refl _, by dsimp only; omega⟩
  rw [wi_inc i (by omega)]; rfl
 ·simp only [nN] at hlt
  obtain rfl : i = es.length := by omega
  rw [show (atR vals es).take es.length = atR vals es by rw [← atR_len vals es, List.take_length]] at hown
  rw [← atR_len vals es] at hown
  (first | refine EVL.publishL [] ow [] ((List.append_nil _).symm) hown fun G2 hG2 hs => ?_ | refine EV.publishL [] ow [] ((List.append_nil _).symm) hown fun G2 hG2 hs => ?_)
  rw [← atR_len vals es]
  try refine RUN ?_
  exact hs
theorem ci_get {l : List Int} (sp : List Value) {j : Nat} {q : Int} (h : l[j]? = some q) : ((l.map iv ++ sp).drop (j * 1)).take 1 = [iv q] := by
 obtain ⟨hl, hq⟩ := List.getElem?_eq_some_iff.1 h
 rw [Nat.mul_one, List.drop_append_of_le_length (by rw [List.length_map]; omega), List.drop_eq_getElem_cons (by rw [List.length_map]; omega)]
 simp [hq]
theorem ci_set {l : List Int} (sp : List Value) {j : Nat} (q : Int) (h : j < l.length) : (l.map iv ++ sp).take (j * 1) ++ [iv q] ++ (l.map iv ++ sp).drop (j * 1 + 1) = (l.set j q).map iv ++ sp := by
 rw [Nat.mul_one, List.take_append_of_le_length (by rw [List.length_map]; omega), List.drop_append_of_le_length (by rw [List.length_map]; omega), List.map_set, List.set_eq_take_append_cons_drop, if_pos (by rw [List.length_map]; exact h)]
 simp
theorem putAt_map {α β : Type} (f : α → β) (l : List α) (k : Nat) (x : α) : (putAt l k x).map f = putAt (l.map f) k (f x) := by
 unfold putAt; rw [List.map_append, List.map_cons, List.map_take, List.map_drop]
theorem dropA_at {α : Type} {l : List α} {i : Nat} {x : α} (h : l[i]? = some x) : l.drop i = x :: l.drop (i + 1) := by
 obtain ⟨hl, rfl⟩ := List.getElem?_eq_some_iff.1 h
 exact List.drop_eq_getElem_cons hl
abbrev RisK (key : Int → Rat) (l : List Int) : Prop := Rising (l.map key)
theorem risK_put {key : Int → Rat} {l : List Int} {k : Nat} {x : Int} (h : RisK key l) (h1 : ∀ y, y ∈ l.take k → key y ≤ key x) (h2 : ∀ y, y ∈ l.drop k → key x ≤ key y) : RisK key (putAt l k x) := by
 unfold RisK
 rw [putAt_map]
 refine putAt_rising h (fun y hy => ?_) (fun y hy => ?_)
 ·rw [← List.map_take] at hy
  obtain ⟨z, hz, rfl⟩ := List.mem_map.1 hy
  exact h1 z hz
 ·rw [← List.map_drop] at hy
  obtain ⟨z, hz, rfl⟩ := List.mem_map.1 hy
  exact h2 z hz
theorem risK_take {key : Int → Rat} {l : List Int} {k : Nat} {x y : Int} (h : RisK key l) (hk : l[k]? = some y) (hy : key y ≤ key x) : ∀ z, z ∈ l.take (k + 1) → key z ≤ key x := fun z hz =>
 rising_take (k := k) (y := key y) h (by rw [List.getElem?_map, hk]; rfl) hy (key z) (by rw [← List.map_take]; exact List.mem_map_of_mem hz)
theorem puti_x {acc rest : List Int} {j : Nat} {x : Int} (h : j ≤ acc.length) : (putAt acc j x ++ rest)[j]? = some x := by
 unfold putAt
 rw [List.append_assoc, List.getElem?_append_right (by rw [List.length_take]; omega), List.length_take, Nat.min_eq_left h, Nat.sub_self]; rfl
theorem puti_y {acc rest : List Int} {j : Nat} {x y : Int} (h : acc[j]? = some y) : (putAt acc (j + 1) x ++ rest)[j]? = some y := by
 obtain ⟨hl, _⟩ := List.getElem?_eq_some_iff.1 h
 unfold putAt
 rw [List.append_assoc, List.getElem?_append_left (by rw [List.length_take]; omega), List.getElem?_take_of_lt (by omega), h]
theorem puti_len {acc rest : List Int} {j : Nat} {x : Int} : (putAt acc j x ++ rest).length = acc.length + 1 + rest.length := by
 have := (putAt_perm acc j x).length_eq
 rw [List.length_append, this, List.length_append]; rfl
theorem puti_swap {acc rest : List Int} {j : Nat} {x y : Int} (h : acc[j]? = some y) : ((putAt acc (j + 1) x ++ rest).set (j + 1) y).set j x = putAt acc j x ++ rest := by
 obtain ⟨hl, hy⟩ := List.getElem?_eq_some_iff.1 h
 have hlen : (acc.take j).length = j := by rw [List.length_take]; omega
 unfold putAt
 rw [List.take_succ_eq_append_getElem hl, hy, List.drop_eq_getElem_cons hl, hy]
 rw [show (acc.take j ++ [y] ++ x :: acc.drop (j + 1) ++ rest) = acc.take j ++ (y :: x :: (acc.drop (j + 1) ++ rest)) by simp,
  List.set_append_right (j + 1) y (by omega), hlen, show j + 1 - j = 1 by omega, List.set_cons_succ, List.set_cons_zero,
  List.set_append_right j x (by omega), hlen, Nat.sub_self, List.set_cons_zero]
 simp
theorem puti_start (acc rest : List Int) (x : Int) : putAt acc acc.length x ++ rest = acc ++ x :: rest := by
 unfold putAt; rw [List.take_length, List.drop_length]; simp
set_option maxHeartbeats 8000000 in
theorem insertionI_pw {H : Hp} {b cap : Nat} {l : List Int} {sp : List Value} (hl : l.length ≤ 1000) {f : FuncId} {cs : List Value} {key : Int → Rat} (hcan : Callable prog f) (hcmp : ∀ G, H.Le G → ∀ x y, x ∈ l → y ∈ l → PC prog f ([iv x, iv y] ++ cs).toArray G fun u _ => u = .int .i64 (ordR (key x) (key y))) :
  PW prog 192 #[.slice (some ⟨b, 0, none⟩) l.length cap, .int .i64 0, .int .i64 (l.length : Int), .func (.func f) #[] cs.toArray] H [(b, 3, l.map iv ++ sp)] fun v ow _ => v = .tuple #[] ∧ ∃ m, ow = [(b, 3, m.map iv ++ sp)] ∧ m.Perm l ∧ RisK key m := by
 refine PW.body tO func192 rfl (by kernel_rfl) ntmps192 rfl rfl ?_
 try refine RUN ?_
 refine EV.loopK (ι := Nat × List Int) [0, 1, 2, 3] [] (fun q => [(8, .v (.int .i64 (q.1 : Int)))]) (fun _ => []) (fun q => [(b, 3, q.2.map iv ++ sp)]) (fun q _ => 1 ≤ q.1 ∧ q.2.Perm l ∧ RisK key (q.2.take q.1)) (fun q => l.length - q.1) ((1, l)) rfl rfl ⟨rfl, trivial⟩ trivial rfl (fun _ => rfl) (⟨Nat.le_refl _, List.Perm.refl _, by cases l with | nil => exact List.Pairwise.nil | cons a l => exact List.pairwise_singleton _ _⟩) ?_
 rintro ⟨i, cur⟩ G1 hG1 ⟨h1, hperm, hris⟩
 dsimp only at h1 hperm hris
 have hcl := hperm.length_eq
 try refine RUN ?_
 refine EV.cond rfl (fun hlt => ?_) (fun hlt => ?_)
 ·simp only [nN] at hlt
  obtain ⟨x, hxi⟩ : ∃ x, cur[i]? = some x := ⟨_, List.getElem?_eq_getElem (by omega)⟩
  have hcut : cur = cur.take i ++ x :: cur.drop (i + 1) := by rw [← dropA_at hxi, List.take_append_drop]
  have hal : (cur.take i).length = i := by rw [List.length_take]; omega
  have hxm : x ∈ l := hperm.mem_iff.1 (List.mem_of_getElem? hxi)
  have hma : ∀ y, y ∈ cur.take i → y ∈ l := fun y hy => hperm.mem_iff.1 (List.mem_of_mem_take hy)
  have hrl : (cur.drop (i + 1)).length = l.length - (i + 1) := by rw [List.length_drop]; omega
  have hst := puti_start (cur.take i) (cur.drop (i + 1)) x
  rw [hal, ← hcut] at hst
  generalize hacc : cur.take i = acc at *
  generalize cur.drop (i + 1) = rest at *
  subst hal
  subst hst
  try refine RUN ?_
  refine EV.loopK (ι := Nat) [0, 1, 2, 3, 8] [] (fun j => [(9, .v (.int .i64 (j : Int)))]) (fun _ => []) (fun j => [(b, 3, (putAt acc j x ++ rest).map iv ++ sp)]) (fun j _ => j ≤ acc.length ∧ ∀ y, y ∈ acc.drop j → key x ≤ key y) (fun j => j) (acc.length) rfl rfl ⟨rfl, trivial⟩ trivial rfl (fun _ => rfl) (⟨Nat.le_refl _, by rw [List.drop_length]; intro y hy; cases hy⟩) ?_
  rintro j G2 hG2 ⟨hj, hgr⟩
  have hlen := puti_len (acc := acc) (rest := rest) (j := j) (x := x)
  have hx' := puti_x (rest := rest) (x := x) hj
  have hp' := putAt_perm acc j x
  have hsum : (putAt acc j x ++ rest).length = l.length := by rw [hlen]; omega
  rw [← hsum]
  have next : (putAt acc j x ++ rest).Perm l := by
   refine List.Perm.trans ?_ hperm
   exact (hp'.trans (putAt_perm acc acc.length x).symm).append_right rest
  have fin : RisK key (putAt acc j x) → RisK key ((putAt acc j x ++ rest).take (acc.length + 1)) := fun h => by
   rw [List.take_append_of_le_length (by rw [hp'.length_eq]; simp)]
   rwa [List.take_of_length_le (by rw [hp'.length_eq]; simp)]
  cases j with
  | zero =>
   have hr := fin (risK_put hris (by intro y hy; rw [List.take_zero] at hy; cases hy) hgr)
   try refine RUN ?_
   apply EV.drawn 17 (by kernel_rfl) (by kernel_rfl); intro xv yw
   (repeat (first | refine' DV ?_ | refine' DA ?_ | refine' DK0 ?_ | refine' DT ?_ | refine' DS ?_))
   (refine DJ.nil (fun G3 hG3 hF3 => ?_); (case hS => rfl); (case hS2 => rfl))
   try refine RUN ?_
   refine ⟨(acc.length + 1, putAt acc 0 x ++ rest), ⟨?_, trivial⟩, (by repeat (first | exact trivial | refine And.intro rfl ?_)), trivial, trivial, rfl, ⟨by omega, next, hr⟩, hG2.trans hG3, by dsimp only; omega⟩
   rw [wi_inc _ (by omega)]; rfl
  | succ j =>
   obtain ⟨y, hyj⟩ : ∃ y, acc[j]? = some y := ⟨_, List.getElem?_eq_getElem (by omega)⟩
   have hy' := puti_y (rest := rest) (x := x) hyj
   have hc := fun G (hG : H.Le G) => hcmp G hG x y hxm (hma y (List.mem_of_getElem? hyj))
   have hlo : ordR (key x) (key y) < 0 → key x ≤ key y := fun h => by
    unfold ordR at h; split at h
    ·exact Rat.le_of_lt (by assumption)
    ·split at h <;> omega
   have hge : ¬ ordR (key x) (key y) < 0 → key y ≤ key x := fun h => by
    unfold ordR at h; split at h
    ·omega
    ·rename_i k; exact Rat.not_lt.1 k
   generalize ordR (key x) (key y) = o at *
   try refine RUN ?_
   apply EV.drawn 17 (by kernel_rfl) (by kernel_rfl); intro xv yw
   (repeat (first | refine' DV ?_ | refine' DA ?_ | refine' DK0 ?_ | refine' DT ?_ | refine' DS ?_))
   rw [decide_eq_true (show ((j + 1 : Nat) : Int) > 0 by omega)]
   (repeat (first | refine' DV ?_ | refine' DA ?_ | refine' DK0 ?_ | refine' DT ?_ | refine' DS ?_))
   refine' DJ.idxB tO rfl rfl rfl rfl rfl rfl rfl rfl rfl (j + 1) ((j + 1) * 1) (rfl) ((by omega)) (rfl) ?_; rotate_left
   refine' DJ.ofVal (ValOk.loadOwn tO rfl rfl rfl rfl (0) rfl (ci_get sp hx') rfl rfl) rfl rfl rfl ?_; rotate_left
   (repeat (first | refine' DV ?_ | refine' DA ?_ | refine' DK0 ?_ | refine' DT ?_ | refine' DS ?_))
   refine' DJ.idxB tO rfl rfl rfl rfl rfl rfl rfl rfl rfl (j) (j * 1) ((by rw [IntKind.wrap_i64]; omega)) ((by omega)) (rfl) ?_; rotate_left
   refine' DJ.ofVal (ValOk.loadOwn tO rfl rfl rfl rfl (0) rfl (ci_get sp hy') rfl rfl) rfl rfl rfl ?_; rotate_left
   (refine' DJ.callC (f := f) (cs := cs) rfl rfl rfl rfl rfl rfl hcan (fun G hG => hc G (hG1.trans (hG2.trans hG))) ?_; rotate_left)
   (repeat (first | refine' DV ?_ | refine' DA ?_ | refine' DK0 ?_ | refine' DT ?_ | refine' DS ?_))
   (refine DJ.nil (fun G3 hG3 hF3 => ?_); (case hS => rfl); (case hS2 => rfl))
   try refine RUN ?_
   by_cases ho : o < 0
   ·rw [decide_eq_true ho]
    have hxy := hlo ho
    try refine RUN ?_
    refine EVA.start (by kernel_rfl) ?_
    refine EVA.val tO (0) rfl (by kernel_rfl) (by kernel_rfl) (by kernel_rfl) rfl rfl rfl rfl rfl ?_
    refine EVA.val tO (1) rfl (by kernel_rfl) (by kernel_rfl) (by kernel_rfl) rfl rfl rfl rfl rfl ?_
    refine EVA.val tO (5) rfl (by kernel_rfl) (by kernel_rfl) (by kernel_rfl) rfl rfl rfl rfl rfl ?_
    refine EVA.val tO (6) rfl (by kernel_rfl) (by kernel_rfl) (by kernel_rfl) rfl rfl rfl rfl rfl ?_
    refine EVA.val tO (7) rfl (by kernel_rfl) (by kernel_rfl) (by kernel_rfl) rfl rfl rfl rfl rfl ?_
    refine EVA.idxB tO (8) rfl (by kernel_rfl) (by kernel_rfl) (by kernel_rfl) rfl rfl rfl rfl rfl rfl rfl rfl rfl (j) (j * 1) ((by rw [IntKind.wrap_i64]; omega)) ((by omega)) (rfl) ?_
    refine EVA.val tO (10) rfl (by kernel_rfl) (by kernel_rfl) (by kernel_rfl) rfl rfl rfl rfl rfl ?_
    refine EVA.val tO (11) rfl (by kernel_rfl) (by kernel_rfl) (by kernel_rfl) rfl rfl rfl rfl rfl ?_
    refine EVA.idxB tO (12) rfl (by kernel_rfl) (by kernel_rfl) (by kernel_rfl) rfl rfl rfl rfl rfl rfl rfl rfl rfl (j + 1) ((j + 1) * 1) (rfl) ((by omega)) (rfl) ?_
    refine EVA.val tO (2) rfl (by kernel_rfl) (by kernel_rfl) (by kernel_rfl) rfl rfl rfl rfl rfl ?_
    refine EVA.val tO (3) rfl (by kernel_rfl) (by kernel_rfl) (by kernel_rfl) rfl rfl rfl rfl rfl ?_
    refine EVA.val tO (4) rfl (by kernel_rfl) (by kernel_rfl) (by kernel_rfl) rfl rfl rfl rfl rfl ?_
    refine EVA.two 9 13 (by kernel_rfl) rfl rfl ?_ ?_
    ·refine EVL.loadOwn tO rfl rfl rfl rfl rfl rfl (0) rfl (ci_get sp hy') rfl rfl ?_
     refine EVL.nil ⟨rfl, ?_⟩
     refine EVA.one 13 (by kernel_rfl) rfl ?_
     refine EVL.loadOwn tO rfl rfl rfl rfl rfl rfl (0) rfl (ci_get sp hx') rfl rfl ?_
     refine EVL.nil ⟨rfl, ?_⟩
     refine EVA.idxB tO (14) rfl (by kernel_rfl) (by kernel_rfl) (by kernel_rfl) rfl rfl rfl rfl rfl rfl rfl rfl rfl (j + 1) ((j + 1) * 1) (rfl) ((by omega)) (rfl) ?_
     refine EVA.one 15 (by kernel_rfl) rfl ?_
     refine EVL.storeOwn tO rfl rfl rfl rfl rfl rfl ([]) ([]) rfl rfl rfl rfl ((by rw [List.length_append, List.length_map]; show (j + 1) * 1 + 1 ≤ _; omega)) ((ci_set sp y (show j + 1 < (putAt acc (j + 1) x ++ rest).length by omega))) ?_
     refine EVL.nil ⟨rfl, ?_⟩
     refine EVA.idxB tO (16) rfl (by kernel_rfl) (by kernel_rfl) (by kernel_rfl) rfl rfl rfl rfl rfl rfl rfl rfl rfl (j) (j * 1) ((by rw [IntKind.wrap_i64]; omega)) ((by omega)) (rfl) ?_
     refine EVA.one 17 (by kernel_rfl) rfl ?_
     refine EVL.storeOwn tO rfl rfl rfl rfl rfl rfl ([]) ([]) rfl rfl rfl rfl ((by rw [List.length_append, List.length_map, List.length_set]; show j * 1 + 1 ≤ _; omega)) ((ci_set sp x (show j < ((putAt acc (j + 1) x ++ rest).set (j + 1) y).length by rw [List.length_set]; omega))) ?_
     refine EVL.nil ⟨rfl, ?_⟩
     refine EVA.nil (by kernel_rfl) ?_
     rw [puti_swap hyj]
     try refine RUN ?_
     refine ⟨j, ⟨?_, trivial⟩, (by repeat (first | exact trivial | refine And.intro rfl ?_)), trivial, trivial, rfl, ⟨by omega, ?_⟩, hG3, by omega⟩
     ·rw [show IntKind.i64.wrap (((j + 1 : Nat) : Int) - 1) = (j : Int) by rw [IntKind.wrap_i64]; omega]; rfl
     ·intro z hz
      rw [dropA_at hyj] at hz
      rcases List.mem_cons.1 hz with rfl | hz
      ·exact hxy
      ·exact hgr z hz
    ·refine EVL.loadOwn tO rfl rfl rfl rfl rfl rfl (0) rfl (ci_get sp hx') rfl rfl ?_
     refine EVL.nil ⟨rfl, ?_⟩
     refine EVA.one 9 (by kernel_rfl) rfl ?_
     refine EVL.loadOwn tO rfl rfl rfl rfl rfl rfl (0) rfl (ci_get sp hy') rfl rfl ?_
     refine EVL.nil ⟨rfl, ?_⟩
     refine EVA.idxB tO (14) rfl (by kernel_rfl) (by kernel_rfl) (by kernel_rfl) rfl rfl rfl rfl rfl rfl rfl rfl rfl (j + 1) ((j + 1) * 1) (rfl) ((by omega)) (rfl) ?_
     refine EVA.one 15 (by kernel_rfl) rfl ?_
     refine EVL.storeOwn tO rfl rfl rfl rfl rfl rfl ([]) ([]) rfl rfl rfl rfl ((by rw [List.length_append, List.length_map]; show (j + 1) * 1 + 1 ≤ _; omega)) ((ci_set sp y (show j + 1 < (putAt acc (j + 1) x ++ rest).length by omega))) ?_
     refine EVL.nil ⟨rfl, ?_⟩
     refine EVA.idxB tO (16) rfl (by kernel_rfl) (by kernel_rfl) (by kernel_rfl) rfl rfl rfl rfl rfl rfl rfl rfl rfl (j) (j * 1) ((by rw [IntKind.wrap_i64]; omega)) ((by omega)) (rfl) ?_
     refine EVA.one 17 (by kernel_rfl) rfl ?_
     refine EVL.storeOwn tO rfl rfl rfl rfl rfl rfl ([]) ([]) rfl rfl rfl rfl ((by rw [List.length_append, List.length_map, List.length_set]; show j * 1 + 1 ≤ _; omega)) ((ci_set sp x (show j < ((putAt acc (j + 1) x ++ rest).set (j + 1) y).length by rw [List.length_set]; omega))) ?_
     refine EVL.nil ⟨rfl, ?_⟩
     refine EVA.nil (by kernel_rfl) ?_
     rw [puti_swap hyj]
     try refine RUN ?_
     refine ⟨j, ⟨?_, trivial⟩, (by repeat (first | exact trivial | refine And.intro rfl ?_)), trivial, trivial, rfl, ⟨by omega, ?_⟩, hG3, by omega⟩
     ·rw [show IntKind.i64.wrap (((j + 1 : Nat) : Int) - 1) = (j : Int) by rw [IntKind.wrap_i64]; omega]; rfl
     ·intro z hz
      rw [dropA_at hyj] at hz
      rcases List.mem_cons.1 hz with rfl | hz
      ·exact hxy
      ·exact hgr z hz
   ·rw [decide_eq_false ho]
    have hr := fin (risK_put hris (risK_take hris hyj (hge ho)) hgr)
    try refine RUN ?_
    refine ⟨(acc.length + 1, putAt acc (j + 1) x ++ rest), ⟨?_, trivial⟩, (by repeat (first | exact trivial | refine And.intro rfl ?_)), trivial, trivial, rfl, ⟨by omega, next, hr⟩, hG2.trans hG3, by dsimp only; omega⟩
    rw [wi_inc _ (by omega)]; rfl
 ·simp only [nN] at hlt
  rw [List.take_of_length_le (by omega)] at hris
  try refine RUN ?_
  exact ⟨rfl, cur, rfl, hperm, hris⟩
section
variable {P : Program} {n : Nat} {ops : Array Oper} {rest : List Oper} {env : Env} {bx : Bxs} {H : Hs} {Q : EQ}
theorem Rel.asRo {W0 : World} {H0 : Bs} {β : Nat → Nat} {a : Act} {W : World} (r : Rel n W0 H0 β env bx H a W) {t b off : Nat} (ht : env.get t = some (.v (.pointer (some ⟨b, off, none⟩)))) {c : Array Value} (hc : H.ro b = some c) {cs : List Value} (hcs : ∀ j x, cs[j]? = some x → c[off + j]? = some x) :
  Rel n W0 H0 β ((t, .ro cs) :: env) bx H a W := by
 refine ⟨r.size, r.defers, fun t' s hs => ?_, r.box, r.low, r.inj, fun t' i off' hu => ?_, r.fits, r.le, r.new, r.bel, r.glob, r.own, r.one⟩
 ·rw [Env.get_cons] at hs
  by_cases e : t = t'
  ·subst e
   rw [if_pos rfl] at hs
   cases hs
   obtain ⟨x, hx, hr⟩ := r.slot t _ ht
   exact ⟨x, hx, b, off, c, hr, hc, hcs⟩
  ·rw [if_neg e] at hs
   exact r.slot t' s hs
 ·rw [Env.get_cons] at hu
  by_cases e : t = t'
  ·rw [if_pos e] at hu; cases hu
  ·rw [if_neg e] at hu; exact r.pin t' i off' hu
theorem EV.asRo {c : Code} (t : Nat) {b : Nat} (ht : env.get t = some (.v (.pointer (some ⟨b, 0, none⟩)))) {cs : List Value} (hc : H.ro b = some cs.toArray) (h : EV P n c ((t, .ro cs) :: env) bx H Q) : EV P n c env bx H Q :=
 fun W0 β a W r => h W0 β a W (r.asRo ht hc (fun j x hx => by rw [Nat.zero_add]; simpa using hx))
theorem EVL.swapOw (a b : Ows) (e : H.ow = a ++ b) (h : EVL P n ops rest env bx ⟨H.ro, b ++ a, H.base⟩ Q) : EVL P n ops rest env bx H Q :=
 fun W0 β x W r => h W0 β x W (r.permOw (by rw [e]; exact List.perm_append_comm))
theorem EV.swapOw {c : Code} (a b : Ows) (e : H.ow = a ++ b) (h : EV P n c env bx ⟨H.ro, b ++ a, H.base⟩ Q) : EV P n c env bx H Q :=
 fun W0 β x W r => h W0 β x W (r.permOw (by rw [e]; exact List.perm_append_comm))
end
def QVs (H : Hp) (vs : List Value) (X : List (List Rat)) : Prop := vs.length = X.length ∧ ∀ (j : Nat) (u : Value) (x : List Rat), vs[j]? = some u → X[j]? = some x → QL H u x
theorem QVs.mono {H G : Hp} {vs : List Value} {X : List (List Rat)} (h : QVs H vs X) (k : H.Le G) : QVs G vs X := ⟨h.1, fun j u x e1 e2 => (h.2 j u x e1 e2).mono k⟩
theorem QVs.nil (H : Hp) : QVs H [] [] := ⟨rfl, fun j u x h => by simp at h⟩
theorem vs_snoc {α : Type} {p : Value → α → Prop} {vs : List Value} {X : List α} {u : Value} {x : α} (h : vs.length = X.length ∧ ∀ (j : Nat) (u : Value) (x : α), vs[j]? = some u → X[j]? = some x → p u x) (k : p u x) :
  (vs ++ [u]).length = (X ++ [x]).length ∧ ∀ (j : Nat) (v : Value) (y : α), (vs ++ [u])[j]? = some v → (X ++ [x])[j]? = some y → p v y := by
 refine ⟨by simp [h.1], fun j y r e1 e2 => ?_⟩
 rw [List.getElem?_append] at e1 e2
 by_cases hj : j < vs.length
 ·rw [if_pos hj] at e1
  rw [if_pos (by rw [← h.1]; exact hj)] at e2
  exact h.2 j y r e1 e2
 ·rw [if_neg hj] at e1
  rw [if_neg (by rw [← h.1]; exact hj)] at e2
  have := h.1
  cases hk : j - vs.length with
  | zero =>
   rw [hk] at e1; rw [← h.1, hk] at e2
   simp at e1 e2; subst e1; subst e2; exact k
  | succ m => rw [hk] at e1; simp at e1
theorem QVs.snoc {H : Hp} {vs : List Value} {X : List (List Rat)} {u : Value} {x : List Rat} (h : QVs H vs X) (k : QL H u x) : QVs H (vs ++ [u]) (X ++ [x]) := vs_snoc h k
def QLL (H : Hp) (v : Value) (X : List (List Rat)) : Prop := ∃ vs : List Value, QVs H vs X ∧ SlC H v X.length 1 vs
theorem QLL.mono {H G : Hp} {v : Value} {X : List (List Rat)} (h : QLL H v X) (k : H.Le G) : QLL G v X := by
 obtain ⟨vs, h1, h2⟩ := h
 exact ⟨vs, h1.mono k, h2.mono k⟩
theorem QLL.val {H : Hp} {v : Value} {X : List (List Rat)} (h : QLL H v X) : ∃ a c, v = .slice a X.length c := by
 obtain ⟨vs, _, h2⟩ := h
 exact SlC.val h2
theorem QVs.at {H : Hp} {vs : List Value} {X : List (List Rat)} (h : QVs H vs X) {j : Nat} {x : List Rat} (hj : X[j]? = some x) : ∃ a c, vs[j]? = some (.slice a x.length c) ∧ QL H (.slice a x.length c) x := by
 obtain ⟨hl, _⟩ := List.getElem?_eq_some_iff.1 hj
 obtain ⟨u, hu⟩ : ∃ u, vs[j]? = some u := ⟨_, List.getElem?_eq_getElem (by rw [h.1]; exact hl)⟩
 have hq := h.2 j u x hu hj
 obtain ⟨a, c, rfl⟩ := SlC.val hq
 exact ⟨a, c, hu, hq⟩
end Go.Proofs.YtejljnlfgiifoaaGreatDoor
