/- slices.symMergeCmpFunc at int; contract. -/
import Derived.Test.YtiodofijcghpaaaSymR
import Derived.Test.YtiodofijcghpaaaSymPlain
import Derived.Deep.DeepCutAuto
namespace Go.Proofs.Ytiodofijcghpaaa
open Go.RowKit

theorem CmpOk.sub {P : Program} {g : Nat} {lb : Array Value} {B : Nat} {w0 : World} {lt : Int → Int → Bool} {S S' : List Int} (h : CmpOk P g lb B w0 lt S) (hs : ∀ x ∈ S', x ∈ S) : CmpOk P g lb B w0 lt S' :=
  ⟨h.enters, fun W hW x hx y hy => h.call W hW x (hs x hx) y (hs y hy)⟩

/-- what symMerge is told, and what it does -/
def SymSaid (N : Nat) : Prop := ∀ (B cap n : Nat) (T : TypeId) (a m b g : Nat) (lb : Array Value) (lt : Int → Int → Bool) (p u v q S : List Int) (w : World), u.length + v.length ≤ N → Rw i64 w B T cap (p ++ u ++ v ++ q) → n = (p ++ u ++ v ++ q).length → n ≤ 500000 →
  p.length = a → a + u.length = m → m + v.length = b → 1 ≤ u.length → 1 ≤ v.length → (∀ x ∈ p ++ u ++ v ++ q, x ∈ S) → CmpOk Try.prog g lb B w lt S → WeakOrd lt S → SortedBy lt u → SortedBy lt v →
    Calls Try.prog 46 #[.slice (some ⟨B, 0, none⟩) n cap, .int .i64 a, .int .i64 m, .int .i64 b, .func (.func g) #[] lb] w fun e w' => e = .returned (.tuple #[]) ∧ ∃ s, StableOf lt (u ++ v) s ∧ Rw i64 w' B T cap (p ++ s ++ q) ∧ Kept (· = B) w w'

set_option maxRecDepth 100000 in
set_option maxHeartbeats 8000000 in
theorem sym_step (N : Nat) (ih : SymSaid N) (B cap n : Nat) (T : TypeId) (a m b g : Nat) (lb : Array Value) (lt : Int → Int → Bool) (p u v q S : List Int) (w : World) (hN : u.length + v.length ≤ N + 1) (hR : Rw i64 w B T cap (p ++ u ++ v ++ q)) (hn : n = (p ++ u ++ v ++ q).length) (hn2 : n ≤ 500000)
    (ha : p.length = a) (hm : a + u.length = m) (hb : m + v.length = b) (hu1 : 2 ≤ u.length) (hv1 : 2 ≤ v.length) (hS : ∀ x ∈ p ++ u ++ v ++ q, x ∈ S) (hC : CmpOk Try.prog g lb B w lt S) (hw : WeakOrd lt S) (hsu : SortedBy lt u) (hsv : SortedBy lt v) :
    Calls Try.prog 46 #[.slice (some ⟨B, 0, none⟩) n cap, .int .i64 a, .int .i64 m, .int .i64 b, .func (.func g) #[] lb] w fun e w' => e = .returned (.tuple #[]) ∧ ∃ s, StableOf lt (u ++ v) s ∧ Rw i64 w' B T cap (p ++ s ++ q) ∧ Kept (· = B) w w' := by
  have hbn : b ≤ n := by rw [hn]; simp; omega
  have ham : a + 2 ≤ m := by omega
  have hmb : m + 2 ≤ b := by omega
  have hen := hC.enters
  have hd1 : ((m : Int) - (a : Int) == 1) = false := by simp; omega
  have hd2 : ((b : Int) - (m : Int) == 1) = false := by simp; omega
  have H := hid (And.intro hn (And.intro ha (And.intro hm hb)))
  have IH := hid ih
  clear ih hn ha hm hb
  obtain ⟨mid, hmid⟩ : ∃ mid : Nat, mid = (a + b) / 2 := ⟨_, rfl⟩
  have hmi : ((a : Int) + (b : Int)) / 2 = (mid : Int) := by omega
  have hmid1 : 2 * mid ≤ a + b := by omega
  have hmid2 : a + b ≤ 2 * mid + 1 := by omega
  have HMI := hid hmi
  clear hmid hmi
  go_enter Try.func46, Try.ntmps46
  go_upto_if 140 with (fail)
  rw [HMI.out]
  go_cut [20, 21] (fun s r wx => ∃ lo hi : Nat, s = .int .i64 lo ∧ r = .int .i64 hi ∧ a ≤ lo ∧ lo ≤ hi ∧ hi ≤ m ∧ hi ≤ mid ∧ mid + m ≤ lo + b ∧ (lo = a ∨ mid + m = lo + b) ∧ (hi = m ∨ hi = mid) ∧ w = wx)
  case first => as_aux_lemma =>
    by_cases hc : mid < m
    · go_wp2
      go_meet
      refine ⟨mid + m - b, mid, by congr 1; omega, rfl, by omega, by omega, by omega, by omega, by omega, .inr (by omega), .inr rfl, rfl⟩
    · go_wp2
      go_meet
      refine ⟨a, m, rfl, rfl, by omega, by omega, by omega, by omega, by omega, .inl rfl, .inl rfl, rfl⟩
  case rest =>
    obtain ⟨lo, hi, rfl, rfl, l1, l2, l3, l4, l5, l6, l7, rfl⟩ := hcut
    go_wp2
    obtain ⟨pp, hpp⟩ : ∃ pp : Nat, pp + 1 = mid + m := ⟨mid + m - 1, by omega⟩
    rw [show (mid : Int) + (m : Int) - 1 = (pp : Int) by omega, show (mid : Int) + (m : Int) = ((pp + 1 : Nat) : Int) by omega]
    obtain ⟨nn, hnn⟩ : ∃ nn, nn = pp + 1 := ⟨_, rfl⟩
    rw [← hnn]
    have HN := hid (And.intro hnn hpp)
    have hppn : pp < n + m := by omega
    have hppm : m ≤ pp := by omega
    have hnm : nn = mid + m := by omega
    have HNM := hid hnm
    clear hnn hpp hnm
    go_loopg [20, 21, 23] (hi - lo) (fun gg vs vr vc wr => ∃ s r : Nat, r - s = gg ∧ lo ≤ s ∧ s ≤ r ∧ r ≤ hi ∧ vs = .int .i64 s ∧ vr = .int .i64 r ∧
      (s = lo ∨ ∃ (h : s - 1 - a < u.length) (h' : pp + 1 - s - m < v.length), lt v[pp + 1 - s - m] u[s - 1 - a] = false) ∧ (r = hi ∨ ∃ (h : r - a < u.length) (h' : pp - r - m < v.length), lt v[pp - r - m] u[r - a] = true) ∧ Rw i64 wr B T cap (p ++ u ++ v ++ q) ∧ Kept (· = B) w wr)
    case atStart => exact ⟨lo, hi, rfl, by omega, by omega, by omega, rfl, rfl, .inl rfl, .inl rfl, hR, Kept.refl _ _⟩
    case round =>
      obtain ⟨s, r, hg, h1, h2, h3, rfl, rfl, e1, e2, hR1, hK⟩ := hrel
      have HG := hid (And.intro hg (And.intro e1 e2))
      clear hg e1 e2
      by_cases hlt : s < r
      · obtain ⟨c, hc⟩ : ∃ c, c = (s + r) / 2 := ⟨_, rfl⟩
        have hc1 : s ≤ c := by omega
        have hc2 : c < r := by omega
        have hhd : ((s : Int) + (r : Int)) / 2 = (c : Int) := by omega
        have HH := hid hhd
        clear hc hhd
        go_wp2
        rw [HH.out]
        obtain ⟨hn, ha, hm, hb⟩ := H.out
        obtain ⟨hnn, hpp⟩ := HN.out
        have k1 : c - a < u.length := by omega
        have k2 : pp - c - m < v.length := by omega
        have g1 : (p ++ u ++ v ++ q).getD c 0 = u[c - a] := by
          rw [List.getD_eq_getElem?_getD, List.getElem?_append_left (by simp; omega), List.getElem?_append_left (by simp; omega), List.getElem?_append_right (by omega)]
          simp [show c - p.length = c - a by omega, k1]
        have g2 : (p ++ u ++ v ++ q).getD (pp - c) 0 = v[pp - c - m] := by
          rw [List.getD_eq_getElem?_getD, List.getElem?_append_left (by simp; omega), List.getElem?_append_right (by simp; omega)]
          simp [show pp - c - (p.length + u.length) = pp - c - m by omega, k2]
        have mx := hS u[c - a] (by simp)
        have my := hS v[pp - c - m] (by simp)
        have c1 := hR1.cellD c u[c - a] (by omega) g1
        have c2 := hR1.cellD (pp - c) v[pp - c - m] (by omega) g2
        have HX := hid (And.intro (Exists.intro (p := fun h : c - a < u.length => u[c - a] = u[c - a]) k1 rfl) (Exists.intro (p := fun h : pp - c - m < v.length => v[pp - c - m] = v[pp - c - m]) k2 rfl))
        obtain ⟨x, hx⟩ : ∃ x, x = u[c - a] := ⟨_, rfl⟩
        obtain ⟨y, hy⟩ : ∃ y, y = v[pp - c - m] := ⟨_, rfl⟩
        rw [← hx] at c1 mx
        rw [← hy] at c2 my
        have HXY := hid (And.intro hx hy)
        have z1 : (pp : Int) - (c : Int) = ((pp - c : Nat) : Int) := by omega
        have z2 : pp - c < n := by omega
        have z3 : c < n := by omega
        have z4 : c ≤ pp := by omega
        have z5 : ((pp : Int) - (c : Int)).toNat = pp - c := by omega
        have z6 : IntKind.i64.wrap ((pp : Int) - (c : Int)) = (pp : Int) - (c : Int) := by rw [IntKind.wrap_i64]; omega
        have z7 : (pp : Int) - (c : Int) < n := by omega
        have z8 : 0 ≤ (pp : Int) - (c : Int) := by omega
        have HC := hid (hC.call wr.drew hK.drew y my x mx)
        clear hn ha hm hb hnn hpp g1 g2 HX HH hx hy z1
        cases hxy : lt y x with
        | false => as_aux_lemma =>
          go_still_tail 11, (by kernel_rfl)
          change wpList _ _ _ _ _ wr.drew
          go_wp2_with fail
          refine HC.out.mono ?_
          rintro e w1 ⟨cc, rfl, hcc, hb1⟩
          rw [hxy] at hcc
          clear HC
          go_wp2
          go_roundg (r - (c + 1))
          case measure => have := HG.out.1; omega
          case rel =>
            obtain ⟨hg, e1, e2⟩ := HG.out
            refine ⟨c + 1, r, rfl, by omega, by omega, h3, by go_num, rfl, .inr ⟨by omega, by omega, ?_⟩, e2, hR1.drew.below hb1, hK.drew.trans (Kept.of_below hb1 _)⟩
            rw [HXY.out.1, HXY.out.2] at hxy
            simpa [show pp + 1 - (c + 1) = pp - c by omega] using hxy
        | true => as_aux_lemma =>
          go_still_tail 11, (by kernel_rfl)
          change wpList _ _ _ _ _ wr.drew
          go_wp2_with fail
          refine HC.out.mono ?_
          rintro e w1 ⟨cc, rfl, hcc, hb1⟩
          rw [hxy] at hcc
          clear HC
          go_wp2
          go_roundg (c - s)
          case measure => have := HG.out.1; omega
          case rel =>
            obtain ⟨hg, e1, e2⟩ := HG.out
            refine ⟨s, c, rfl, by omega, by omega, by omega, rfl, rfl, e1, .inr ⟨k1, k2, ?_⟩, hR1.drew.below hb1, hK.drew.trans (Kept.of_below hb1 _)⟩
            rw [HXY.out.1, HXY.out.2] at hxy
            exact hxy
      · obtain rfl : s = r := by omega
        obtain ⟨hg, e1, e2⟩ := HG.out
        obtain ⟨hn, ha, hm, hb⟩ := H.out
        obtain ⟨hnn, hpp⟩ := HN.out
        have hnm := HNM.out
        obtain ⟨ee, hee⟩ : ∃ ee : Nat, ee = mid + m - s := ⟨_, rfl⟩
        have hspl := sym_split hw (fun x hx => hS x (by simp [hx])) (fun x hx => hS x (by simp [hx])) hsu hsv (s - a) (ee - m)
          (by
            rcases e1 with e1 | ⟨q1, q2, q3⟩
            · rcases l6 with l6 | l6
              · left; omega
              · right; left; omega
            · by_cases z : s = a
              · left; omega
              · right; right
                refine ⟨by omega, by omega, ?_⟩
                simpa [show ee - m = pp + 1 - s - m by omega, show s - a - 1 = s - 1 - a by omega] using q3)
          (by
            rcases e2 with e2 | ⟨q1, q2, q3⟩
            · rcases l7 with l7 | l7
              · left; omega
              · right; left; omega
            · by_cases z : ee = m
              · right; left; omega
              · right; right
                refine ⟨by omega, by omega, ?_⟩
                simpa [show ee - m - 1 = pp - s - m by omega] using q3)
        have hut : u = u.take (s - a) ++ u.drop (s - a) := (List.take_append_drop _ _).symm
        have hvt : v = v.take (ee - m) ++ v.drop (ee - m) := (List.take_append_drop _ _).symm
        have lu1 : (u.take (s - a)).length = s - a := by simp; omega
        have lu2 : (u.drop (s - a)).length = m - s := by simp; omega
        have lv1 : (v.take (ee - m)).length = ee - m := by simp; omega
        have lv2 : (v.drop (ee - m)).length = b - ee := by simp; omega
        generalize u.take (s - a) = u1 at *
        generalize u.drop (s - a) = u2 at *
        generalize v.take (ee - m) = v1 at *
        generalize v.drop (ee - m) = v2 at *
        subst hut
        subst hvt
        have b1 : s ≤ m := by omega
        have b2 : s ≤ mid := by omega
        have b3 : a ≤ s := by omega
        have b4 : m ≤ ee := by omega
        have b5 : ee ≤ b := by omega
        have b6 : mid ≤ ee := by omega
        have b7 : nn ≤ 2000000 := by omega
        have b8 : ee ≤ n := by omega
        have hz : (nn : Int) - (s : Int) = (ee : Int) := by omega
        have HZ := hid (And.intro hz (And.intro lu1 (And.intro lu2 (And.intro lv1 (And.intro lv2 (And.intro hspl (And.intro hn (And.intro ha (And.intro hm (And.intro hb (And.intro hee hN)))))))))))
        clear hg e1 e2 hn ha hm hb hnn hpp hnm hee hspl lu1 lu2 lv1 lv2 hz HG HNM HN H HMI l1 l2 l3 l4 l5 l6 l7 hN
        obtain ⟨wo, hwo⟩ : ∃ wo : World, wo = wr := ⟨_, rfl⟩
        rw [← hwo] at hR1 hK
        subst hwo
        go_upto_region 39 with (fail)
        rw [HZ.out.1]
        go_cut [185] (fun sv wx => sv = .bool (decide (s < m ∧ m < ee)) ∧ wo = wx)
        case first => as_aux_lemma =>
          by_cases x1 : s < m
          · have d1 : decide (s < m) = true := by simpa using x1
            by_cases x2 : m < ee
            · have d2 : decide (m < ee) = true := by simpa using x2
              go_wp2
              go_meet
              exact ⟨by simp [x1, x2], rfl⟩
            · have d2 : decide (m < ee) = false := by simpa using x2
              go_wp2
              go_meet
              exact ⟨by simp [x2], rfl⟩
          · have d1 : decide (s < m) = false := by simpa using x1
            go_wp2
            go_meet
            exact ⟨by simp [x1], rfl⟩
        case rest =>
        obtain ⟨rfl, rfl⟩ := hcut
        go_upto_if 185 with (fail)
        go_cut [] (fun wx => Rw i64 wx B T cap (p ++ (u1 ++ v1) ++ (u2 ++ v2) ++ q) ∧ Kept (· = B) w wx)
        case first => as_aux_lemma =>
          obtain ⟨_, lu1, lu2, lv1, lv2, hspl, hn, ha, hm, hb, hee, hN⟩ := HZ.out
          by_cases hx : s < m ∧ m < ee
          · have hd : decide (s < m ∧ m < ee) = true := by simpa using hx
            obtain ⟨x1, x2⟩ := hx
            have hr := rotate_any B cap n T s m ee (.func (.func g) #[] lb) (p ++ u1) u2 v1 (v2 ++ q) wo (by simpa using hR1) (by rw [hn]; simp) (by omega) (by simp; omega) (by omega) (by omega) (by omega) (by omega)
            have HR := hid hr
            clear hr lu1 lu2 lv1 lv2 hspl hn ha hm hb hee hN
            rw [hd]
            clear hd
            go_wp2_with fail
            refine HR.out.mono ?_
            rintro e w2 ⟨rfl, hR2, hk2⟩
            go_wp2
            go_meet
            exact ⟨by simpa using hR2, hK.trans hk2⟩
          · have hd : decide (s < m ∧ m < ee) = false := by simpa using hx
            have he : u2 = [] ∨ v1 = [] := by
              by_cases x1 : s < m
              · right; exact List.eq_nil_of_length_eq_zero (by omega)
              · left; exact List.eq_nil_of_length_eq_zero (by omega)
            have HE := hid he
            clear he hx lu1 lu2 lv1 lv2 hspl hn ha hm hb hee hN
            rw [hd]
            clear hd
            go_wp2
            go_meet
            refine ⟨?_, hK⟩
            rcases HE.out with rfl | rfl
            · simpa using hR1
            · simpa using hR1
        case rest =>
          obtain ⟨hR2, hK2⟩ := hcut
          go_upto_region 41 with (fail)
          go_cut [199] (fun sv wx => sv = .bool (decide (a < s ∧ s < mid)) ∧ Rw i64 wx B T cap (p ++ (u1 ++ v1) ++ (u2 ++ v2) ++ q) ∧ Kept (· = B) w wx)
          case first => as_aux_lemma =>
            by_cases x1 : a < s
            · have d1 : decide (a < s) = true := by simpa using x1
              by_cases x2 : s < mid
              · have d2 : decide (s < mid) = true := by simpa using x2
                go_wp2
                go_meet
                exact ⟨by simp [x1, x2], hR2, hK2⟩
              · have d2 : decide (s < mid) = false := by simpa using x2
                go_wp2
                go_meet
                exact ⟨by simp [x2], hR2, hK2⟩
            · have d1 : decide (a < s) = false := by simpa using x1
              go_wp2
              go_meet
              exact ⟨by simp [x1], hR2, hK2⟩
          case rest =>
          obtain ⟨rfl, hR2, hK2⟩ := hcut
          go_upto_if 199 with (fail)
          go_cut [] (fun wx => ∃ w1, StableOf lt (u1 ++ v1) w1 ∧ Rw i64 wx B T cap (p ++ w1 ++ (u2 ++ v2) ++ q) ∧ Kept (· = B) w wx)
          case first => as_aux_lemma =>
            obtain ⟨_, lu1, lu2, lv1, lv2, hspl, hn, ha, hm, hb, hee, hN⟩ := HZ.out
            by_cases hx : a < s ∧ s < mid
            · have hd : decide (a < s ∧ s < mid) = true := by simpa using hx
              obtain ⟨x1, x2⟩ := hx
              have hr := IH.out B cap n T a s mid g lb lt p u1 v1 (u2 ++ v2 ++ q) S wc (by simp at hN; omega) (by simpa using hR2) (by rw [hn]; simp; omega) hn2 ha (by omega) (by omega) (by omega) (by omega)
                (fun x hx => hS x (by simp only [List.mem_append] at hx ⊢; rcases hx with ((h | h) | h) | (h | h) | h <;> simp [h])) (hC.later hK2) hw hsu.left hsv.left
              have HR := hid hr
              clear hr lu1 lu2 lv1 lv2 hspl hn ha hm hb hee hN
              rw [hd]
              clear hd
              go_wp2_with fail
              refine HR.out.mono ?_
              rintro e w2 ⟨rfl, z, hz, hR3, hk3⟩
              go_wp2
              go_meet
              exact ⟨z, hz, by simpa using hR3, hK2.trans hk3⟩
            · have hd : decide (a < s ∧ s < mid) = false := by simpa using hx
              have he : u1 = [] ∨ v1 = [] := by
                by_cases x1 : a < s
                · right; exact List.eq_nil_of_length_eq_zero (by omega)
                · left; exact List.eq_nil_of_length_eq_zero (by omega)
              have HE := hid he
              clear he hx lu1 lu2 lv1 lv2 hspl hn ha hm hb hee hN
              rw [hd]
              clear hd
              go_wp2
              go_meet
              refine ⟨u1 ++ v1, StableOf.refl ?_, hR2, hK2⟩
              rcases HE.out with rfl | rfl
              · simpa using hsv.left
              · simpa using hsu.left
          case rest =>
            obtain ⟨z1, hz1, hR3, hK3⟩ := hcut
            have hl1 : z1.length = u1.length + v1.length := by rw [hz1.perm.length_eq]; simp
            have HL1 := hid hl1
            clear hl1
            go_upto_region 43 with (fail)
            go_cut [213] (fun sv wx => sv = .bool (decide (mid < ee ∧ ee < b)) ∧ Rw i64 wx B T cap (p ++ z1 ++ (u2 ++ v2) ++ q) ∧ Kept (· = B) w wx)
            case first => as_aux_lemma =>
              by_cases x1 : mid < ee
              · have d1 : decide (mid < ee) = true := by simpa using x1
                by_cases x2 : ee < b
                · have d2 : decide (ee < b) = true := by simpa using x2
                  go_wp2
                  go_meet
                  exact ⟨by simp [x1, x2], hR3, hK3⟩
                · have d2 : decide (ee < b) = false := by simpa using x2
                  go_wp2
                  go_meet
                  exact ⟨by simp [x2], hR3, hK3⟩
              · have d1 : decide (mid < ee) = false := by simpa using x1
                go_wp2
                go_meet
                exact ⟨by simp [x1], hR3, hK3⟩
            case rest =>
            obtain ⟨rfl, hR3, hK3⟩ := hcut
            go_upto_if 213 with (fail)
            obtain ⟨_, lu1, lu2, lv1, lv2, hspl, hn, ha, hm, hb, hee, hN⟩ := HZ.out
            have hl1 := HL1.out
            have hfin : ∀ z2, StableOf lt (u2 ++ v2) z2 → StableOf lt (u1 ++ u2 ++ (v1 ++ v2)) (z1 ++ z2) := fun z2 hz2 =>
              merge_step (hw.sub (fun x hx => hS x (by simp only [List.mem_append] at hx ⊢; rcases hx with (h | h) | (h | h) <;> simp [h]))) hsu hsv hspl.1 hspl.2 hz1 hz2
            have HF := hid hfin
            clear hfin
            by_cases hx : mid < ee ∧ ee < b
            · as_aux_lemma =>
              have hd : decide (mid < ee ∧ ee < b) = true := by simpa using hx
              obtain ⟨x1, x2⟩ := hx
              have hr := IH.out B cap n T mid ee b g lb lt (p ++ z1) u2 v2 q S wc (by simp at hN; omega) (by simpa using hR3) (by rw [hn]; simp; omega) hn2 (by simp; omega) (by omega) (by omega) (by omega) (by omega)
                  (fun x hx => hS x (by
                    have hzm := fun h : x ∈ z1 => hz1.perm.mem_iff.1 h
                    simp only [List.mem_append] at hx hzm ⊢; rcases hx with (((h | h) | h) | h) | h
                    · simp [h]
                    · rcases hzm h with h | h <;> simp [h]
                    · simp [h]
                    · simp [h]
                    · simp [h])) (hC.later hK3) hw hsu.right hsv.right
              have HR := hid hr
              clear hr lu1 lu2 lv1 lv2 hspl hn ha hm hb hee hN hl1
              rw [hd]
              clear hd
              go_wp2_with fail
              refine HR.out.mono ?_
              rintro e w2 ⟨rfl, z, hz, hR4, hk4⟩
              go_wp2
              go_end0
              exact ⟨rfl, z1 ++ z, HF.out z hz, by simpa using hR4, hK3.trans hk4⟩
            · as_aux_lemma =>
              have hd : decide (mid < ee ∧ ee < b) = false := by simpa using hx
              have he : u2 = [] ∨ v2 = [] := by
                  by_cases x1 : mid < ee
                  · right; exact List.eq_nil_of_length_eq_zero (by omega)
                  · left; exact List.eq_nil_of_length_eq_zero (by omega)
              have HE := hid he
              clear he hx lu1 lu2 lv1 lv2 hspl hn ha hm hb hee hN hl1
              rw [hd]
              clear hd
              go_wp2
              go_end0
              refine ⟨rfl, z1 ++ (u2 ++ v2), HF.out _ (StableOf.refl ?_), by simpa using hR3, hK3⟩
              rcases HE.out with rfl | rfl
              · simpa using hsv.right
              · simpa using hsu.right

theorem sym_any : ∀ N, SymSaid N := by
  intro N
  induction N with
  | zero => intro B cap n T a m b g lb lt p u v q S w hN; intros; omega
  | succ N ih =>
    intro B cap n T a m b g lb lt p u v q S w hN hR hn hn2 ha hm hb hu1 hv1 hS hC hw hsu hsv
    by_cases h1 : u.length = 1
    · obtain ⟨x, rfl⟩ : ∃ x, u = [x] := List.length_eq_one_iff.1 h1
      have := sym_left B cap n T a b g lb lt p x v q w hR hn hn2 ha (by simp at hm; omega) (hC.sub hS) (hw.sub hS) hsv
      rw [show a + 1 = m by simp at hm; omega] at this
      exact this
    · by_cases h2 : v.length = 1
      · obtain ⟨y, rfl⟩ : ∃ y, v = [y] := List.length_eq_one_iff.1 h2
        have := sym_right B cap n T a m g lb lt p u y q w hR hn hn2 ha hm (by omega) (hC.sub hS) (hw.sub hS) hsu
        rw [show m + 1 = b by simp at hb; omega] at this
        exact this
      · exact sym_step N ih B cap n T a m b g lb lt p u v q S w hN hR hn hn2 ha hm hb (by omega) (by omega) hS hC hw hsu hsv

end Go.Proofs.Ytiodofijcghpaaa
