/- slices.SortStableFunc at []int; contract. -/
import Derived.Test.YtiodofijcghpaaaSymG
namespace Go.Proofs.Ytiodofijcghpaaa
open Go.RowKit

set_option maxRecDepth 100000 in
set_option maxHeartbeats 4000000 in
theorem stable_any (B cap n : Nat) (T : TypeId) (g : Nat) (lb : Array Value) (lt : Int → Int → Bool) (l0 : List Int) (w : World) (hR : Rw i64 w B T cap l0) (hn : n = l0.length) (hn2 : n ≤ 100000)
    (hC : CmpOk Try.prog g lb B w lt l0) (hw : WeakOrd lt l0) :
    Calls Try.prog 39 #[.slice (some ⟨B, 0, none⟩) n cap, .int .i64 n, .func (.func g) #[] lb] w fun e w' => e = .returned (.tuple #[]) ∧ ∃ l', StableOf lt l0 l' ∧ Rw i64 w' B T cap l' ∧ Kept (· = B) w w' := by
  have HN := hid hn
  clear hn
  go_enter Try.func39, Try.ntmps39
  go_wp2
  go_loopg [7, 8] n (fun gg va vb wr => ∃ (a b : Nat) (cs : List (List Int)) (rest : List Int), n - a = gg ∧ a ≤ n ∧ b = a + 20 ∧ va = .int .i64 a ∧ vb = .int .i64 b ∧ cs.flatten.length = a ∧ Runs lt 20 cs ∧ Cls lt l0 (cs.flatten ++ rest) ∧ Rw i64 wr B T cap (cs.flatten ++ rest) ∧ Kept (· = B) w wr)
  case atStart => exact ⟨0, 20, [], l0, by omega, by omega, by omega, rfl, rfl, rfl, by intro c hc; simp at hc, by simpa using Cls.refl l0, by simpa using hR, Kept.refl _ _⟩
  case round =>
    obtain ⟨a, b, cs, rest, hg, han, hab, rfl, rfl, hca, hruns, hcls, hR1, hK⟩ := hrel
    have hlen : cs.flatten.length + rest.length = n := by have := hcls.perm.length_eq; rw [List.length_append] at this; rw [HN.out]; omega
    by_cases hbn : b ≤ n
    · have ht : rest = rest.take 20 ++ rest.drop 20 := (List.take_append_drop _ _).symm
      have l1 : (rest.take 20).length = 20 := by simp; omega
      have hc := insertion_any B cap n T a b g lb lt cs.flatten (rest.take 20) (rest.drop 20) wr (by simpa using hR1) (by rw [List.append_assoc, List.take_append_drop, List.length_append]; omega) (by omega) hca (by omega)
        ((hC.later hK).sub (fun x hx => hcls.perm.mem_iff.1 (by simpa using hx))) (hw.sub (fun x hx => hcls.perm.mem_iff.1 (by simpa using hx)))
      have HC := hid hc
      have H := hid (And.intro hg (And.intro hab (And.intro hca (And.intro hlen l1))))
      have ha2 : a ≤ 100000 := by omega
      have hb2 : b ≤ 100000 := by omega
      clear hc hg hca hlen l1 ht hab
      go_wp2_with fail
      refine HC.out.mono ?_
      rintro e w1 ⟨rfl, u', hu, hR2, hk2⟩
      go_wp2
      go_roundg (n - b)
      case measure => obtain ⟨hg, hab, _⟩ := H.out; omega
      case rel =>
        obtain ⟨hg, hab, hca, hlen, l1⟩ := H.out
        have hul : u'.length = 20 := by rw [hu.perm.length_eq]; exact l1
        refine ⟨b, b + 20, cs ++ [u'], rest.drop 20, rfl, hbn, rfl, rfl, by go_num, by rw [List.flatten_append, List.length_append]; simp only [List.flatten_cons, List.flatten_nil, List.append_nil]; omega, hruns.snoc hul hu.sorted, ?_, by simpa using hR2, hK.trans hk2⟩
        have hm := Cls.mid (S := l0) (p := cs.flatten) (u := rest.take 20) (u' := u') (q := rest.drop 20) hw (fun x hx => hcls.perm.mem_iff.1 (by simpa using hx)) hu
        rw [List.append_assoc cs.flatten, List.take_append_drop] at hm
        simpa using hcls.trans hm
    · have hc := insertion_any B cap n T a n g lb lt cs.flatten rest [] wr (by simpa using hR1) (by rw [List.append_nil, List.length_append]; omega) (by omega) hca (by omega)
        ((hC.later hK).sub (fun x hx => hcls.perm.mem_iff.1 (by simpa using hx))) (hw.sub (fun x hx => hcls.perm.mem_iff.1 (by simpa using hx)))
      have HC := hid hc
      have hrl : rest.length < 20 := by omega
      have H := hid (And.intro hab (And.intro hca hlen))
      clear hc hg hca hlen hab
      obtain ⟨wo, hwo⟩ : ∃ wo : World, wo = wr := ⟨_, rfl⟩
      rw [← hwo] at hR1 hK HC ⊢
      subst hwo
      go_wp2_with fail
      refine HC.out.mono ?_
      rintro e w1 ⟨rfl, u', hu, hR2, hk2⟩
      have hul : u'.length < 20 := by rw [hu.perm.length_eq]; exact hrl
      have hcls2 : Cls lt l0 (cs.flatten ++ u') := by
        have hm := Cls.mid (S := l0) (p := cs.flatten) (u := rest) (u' := u') (q := []) hw (fun x hx => hcls.perm.mem_iff.1 (by simpa using hx)) hu
        rw [List.append_nil, List.append_nil] at hm
        exact hcls.trans hm
      rw [List.append_nil] at hR2
      have hK2 := hK.trans hk2
      have hsu := hu.sorted
      clear hu hk2 hK hR1 HC hcls hrl
      go_wp2
      go_loopg [6, 7, 8, 9] (n - 20) (fun gg vs va vb vm wr => ∃ (s : Nat) (cs : List (List Int)) (last : List Int), n - s = gg ∧ 20 ≤ s ∧ s ≤ 200000 ∧ vs = .int .i64 s ∧ Runs lt s cs ∧ last.length < s ∧ SortedBy lt last ∧ Cls lt l0 (cs.flatten ++ last) ∧ Rw i64 wr B T cap (cs.flatten ++ last) ∧ Kept (· = B) w wr)
      case atStart => exact ⟨20, cs, u', by omega, by omega, by omega, rfl, hruns, hul, hsu, hcls2, hR2, hK2⟩
      case round =>
        obtain ⟨s, cs, last, hg, hs1, hs2, rfl, hruns, hll, hsl, hcls, hR3, hK3⟩ := hrel
        have hlen : cs.flatten.length + last.length = n := by have := hcls.perm.length_eq; rw [List.length_append] at this; rw [HN.out]; omega
        have hfl := hruns.length
        by_cases hsn : s < n
        · have HG := hid hg
          have HL := hid (And.intro hlen hfl)
          clear hg hlen hfl
          obtain ⟨wo, hwo⟩ : ∃ wo : World, wo = wr := ⟨_, rfl⟩
          rw [← hwo] at hR3 hK3 ⊢
          subst hwo
          go_wp2
          go_loopg [7, 8] n (fun gg va vb wr => ∃ (a b : Nat) (ds rem : List (List Int)), n - a = gg ∧ a ≤ n ∧ b = a + 2 * s ∧ va = .int .i64 a ∧ vb = .int .i64 b ∧ ds.flatten.length = a ∧ Runs lt (2 * s) ds ∧ Runs lt s rem ∧ Cls lt l0 (ds.flatten ++ (rem.flatten ++ last)) ∧ Rw i64 wr B T cap (ds.flatten ++ (rem.flatten ++ last)) ∧ Kept (· = B) w wr)
          case atStart => exact ⟨0, 2 * s, [], cs, by omega, by omega, by omega, rfl, by congr 1, rfl, by intro c hc; simp at hc, hruns, by simpa using hcls, by simpa using hR3, hK3⟩
          case round =>
            obtain ⟨a, b, ds, rem, hga, han, hab, rfl, rfl, hda, hds, hrem, hcl, hR4, hK4⟩ := hrel
            have hlen : ds.flatten.length + (rem.flatten.length + last.length) = n := by have := hcl.perm.length_eq; rw [List.length_append, List.length_append] at this; rw [HN.out]; omega
            have hrl := hrem.length
            have hsub : ∀ x ∈ ds.flatten ++ (rem.flatten ++ last), x ∈ l0 := fun x hx => hcl.perm.mem_iff.1 hx
            by_cases hbn : b ≤ n
            · obtain ⟨c, d, rem', rfl⟩ : ∃ c d rem', rem = c :: d :: rem' := by
                cases rem with
                | nil => simp only [List.flatten_nil, List.length_nil] at hlen; omega
                | cons c rem =>
                  cases rem with
                  | nil => have h1 := hrem c (by simp); simp only [List.flatten_cons, List.flatten_nil, List.append_nil] at hlen; omega
                  | cons d rem => exact ⟨c, d, rem, rfl⟩
              have h1 := hrem c (by simp)
              have h2 := hrem d (by simp)
              have hc := sym_any (c.length + d.length) B cap n T a (a + s) b g lb lt ds.flatten c d (rem'.flatten ++ last) l0 wr (Nat.le_refl _) (by simpa using hR4)
                (by simp only [List.flatten_cons, List.length_append] at hlen ⊢; omega) (by omega) hda (by omega) (by omega) (by omega) (by omega) (fun x hx => hsub x (by simpa using hx)) (hC.later hK4) hw h1.2 h2.2
              have HC := hid hc
              have H := hid (And.intro hga (And.intro hab (And.intro hda (And.intro h1.1 h2.1))))
              have ha2 : a ≤ 100000 := by omega
              have hb2 : b ≤ 100000 := by omega
              clear hc hga hda hlen hab h1 h2 hrl
              rw [show (((a + s : Nat)) : Int) = (a : Int) + (s : Int) by omega] at HC
              go_wp2_with fail
              refine HC.out.mono ?_
              rintro e w1 ⟨rfl, z, hz, hR5, hk5⟩
              go_wp2
              go_roundg (n - b)
              case measure => obtain ⟨hg, hab, _⟩ := H.out; omega
              case rel =>
                obtain ⟨hga, hab, hda, h1, h2⟩ := H.out
                have hzl : z.length = 2 * s := by rw [hz.perm.length_eq, List.length_append]; omega
                refine ⟨b, b + 2 * s, ds ++ [z], rem', rfl, hbn, rfl, rfl, by congr 1, by rw [List.flatten_append, List.length_append]; simp only [List.flatten_cons, List.flatten_nil, List.append_nil]; omega, hds.snoc hzl hz.sorted, fun x hx => hrem x (by simp [hx]), ?_, by simpa using hR5, hK4.trans hk5⟩
                have hm := Cls.mid (S := l0) (p := ds.flatten) (u := c ++ d) (u' := z) (q := rem'.flatten ++ last) hw (fun x hx => hsub x (by simpa using hx)) hz
                have e1 : ds.flatten ++ ((c :: d :: rem').flatten ++ last) = ds.flatten ++ (c ++ d) ++ (rem'.flatten ++ last) := by simp
                rw [e1] at hcl
                simpa using hcl.trans hm
            · by_cases hmn : a + s < n
              · obtain ⟨c, rfl⟩ : ∃ c, rem = [c] := by
                  cases rem with
                  | nil => simp only [List.flatten_nil, List.length_nil] at hlen; omega
                  | cons c rem =>
                    cases rem with
                    | nil => exact ⟨c, rfl⟩
                    | cons d rem =>
                      exfalso
                      simp only [List.length_cons] at hrl
                      have : 2 * s ≤ (rem.length + 1 + 1) * s := Nat.mul_le_mul_right _ (by omega)
                      omega
                have h1 := hrem c (by simp)
                simp only [List.flatten_cons, List.flatten_nil, List.append_nil] at hlen hR4 hcl hsub
                have hc := sym_any (c.length + last.length) B cap n T a (a + s) n g lb lt ds.flatten c last [] l0 wr (Nat.le_refl _) (by simpa using hR4)
                  (by simp only [List.length_append, List.append_nil] at hlen ⊢; omega) (by omega) hda (by omega) (by omega) (by omega) (by omega) (fun x hx => hsub x (by simpa using hx)) (hC.later hK4) hw h1.2 hsl
                have HC := hid hc
                have H := hid (And.intro hga (And.intro hab (And.intro hda (And.intro h1.1 hlen))))
                have ha2 : a ≤ 100000 := by omega
                have hmn' : (a : Int) + s < n := by omega
                clear hc hga hda hlen hab h1 hrl
                rw [show (((a + s : Nat)) : Int) = (a : Int) + (s : Int) by omega] at HC
                go_wp2_with fail
                refine HC.out.mono ?_
                rintro e w1 ⟨rfl, z, hz, hR5, hk5⟩
                go_wp2
                go_roundg (n - 2 * s)
                case measure => have := HG.out; omega
                case rel =>
                  obtain ⟨hga, hab, hda, h1, hlen⟩ := H.out
                  have hzl : z.length < 2 * s := by rw [hz.perm.length_eq, List.length_append]; omega
                  refine ⟨2 * s, ds, z, rfl, by omega, by omega, by congr 1; omega, hds, hzl, hz.sorted, ?_, by simpa using hR5, hK4.trans hk5⟩
                  have hm := Cls.mid (S := l0) (p := ds.flatten) (u := c ++ last) (u' := z) (q := []) hw (fun x hx => hsub x (by simpa using hx)) hz
                  rw [List.append_nil, List.append_nil] at hm
                  exact hcl.trans hm
              · have hlast : (rem.flatten ++ last).length < 2 * s ∧ SortedBy lt (rem.flatten ++ last) := by
                  cases rem with
                  | nil => simp; exact ⟨by omega, hsl⟩
                  | cons c rem =>
                    cases rem with
                    | nil =>
                      have h1 := hrem c (by simp)
                      simp only [List.flatten_cons, List.flatten_nil, List.append_nil] at hlen ⊢
                      have : last = [] := List.eq_nil_of_length_eq_zero (by omega)
                      subst this
                      rw [List.append_nil]
                      exact ⟨by omega, h1.2⟩
                    | cons d rem =>
                      exfalso
                      simp only [List.length_cons] at hrl
                      have : 2 * s ≤ (rem.length + 1 + 1) * s := Nat.mul_le_mul_right _ (by omega)
                      omega
                have ha2 : a ≤ 100000 := by omega
                have hmn' : (n : Int) ≤ (a : Int) + s := by omega
                clear hga hda hlen hab hrl
                go_wp2
                go_roundg (n - 2 * s)
                case measure => have := HG.out; omega
                case rel => exact ⟨2 * s, ds, rem.flatten ++ last, rfl, by omega, by omega, by congr 1; omega, hds, hlast.1, hlast.2, hcl, hR4, hK4⟩
        · have hend : SortedBy lt (cs.flatten ++ last) := by
            cases cs with
            | nil => simpa using hsl
            | cons c cs =>
              cases cs with
              | nil =>
                have h1 := hruns c (by simp)
                have : last = [] := by
                  simp at hlen
                  exact List.eq_nil_of_length_eq_zero (by omega)
                subst this
                simpa using h1.2
              | cons d cs =>
                exfalso
                simp only [List.length_cons] at hfl
                have : 2 * s ≤ (cs.length + 1 + 1) * s := Nat.mul_le_mul_right _ (by omega)
                omega
          clear hlen hfl hg
          go_wp2
          go_end0
          exact ⟨rfl, _, hcls.stable hend, hR3, hK3⟩

set_option maxHeartbeats 400000 in
theorem sortStable_any (B cap n : Nat) (T : TypeId) (g : Nat) (lb : Array Value) (lt : Int → Int → Bool) (l0 : List Int) (w : World) (hR : Rw i64 w B T cap l0) (hn : n = l0.length) (hn2 : n ≤ 100000)
    (hC : CmpOk Try.prog g lb B w lt l0) (hw : WeakOrd lt l0) :
    Calls Try.prog 29 #[.slice (some ⟨B, 0, none⟩) n cap, .func (.func g) #[] lb] w fun e w' => e = .returned (.tuple #[]) ∧ ∃ l', StableOf lt l0 l' ∧ Rw i64 w' B T cap l' ∧ Kept (· = B) w w' := by
  have HS := hid (stable_any B cap n T g lb lt l0 w hR hn hn2 hC hw)
  clear hn
  go_enter Try.func29, Try.ntmps29
  go_wp2_with fail
  refine HS.out.mono ?_
  rintro e w1 ⟨rfl, h⟩
  go_wp2
  go_end0
  exact ⟨rfl, h⟩

end Go.Proofs.Ytiodofijcghpaaa
