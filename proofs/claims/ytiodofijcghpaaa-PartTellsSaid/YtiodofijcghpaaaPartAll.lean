/- Halves, Folds, Even, Boot, Rest, the program's and the document's, at every argument: contracts with one plain answer; law8.lists. -/
import Derived.Test.YtiodofijcghpaaaRefEven
import Derived.Test.YtiodofijcghpaaaRefuse
import Derived.Test.YtiodofijcghpaaaOnce
namespace Go.Proofs.Ytiodofijcghpaaa
open Go.RowKit

/-- reads as l, in a block from base on -/
def SlB (base : Nat) (w : World) (v : Value) (l : List Int) : Prop := Sl i64 w v l ∧ ∀ b off len cap, v = .slice (some ⟨b, off, none⟩) len cap → base ≤ b
theorem SlB.nil (base : Nat) (w : World) : SlB base w (.slice none 0 0) [] := ⟨.inl ⟨rfl, none, 0, rfl⟩, fun b off len cap e => by cases e⟩
theorem SlB.of_owns {w : World} {base : Nat} {e : TypeId} {v : Value} {n : Nat} {l : List Int} (h : w.ownsRow base e 1 v n (l.map i64)) : SlB base w v l := ⟨Sl.of_owns h, owns_base h⟩
theorem SlB.kept {base : Nat} {w w' : World} {v : Value} {l : List Int} {X : Nat → Prop} (h : SlB base w v l) (k : Kept X w w') (hx : ∀ b, base ≤ b → ¬ X b) : SlB base w' v l :=
  ⟨h.1.kept k (fun b off len cap e => hx b (h.2 b off len cap e)), h.2⟩
theorem SlB.below {base : Nat} {w w' : World} {v : Value} {l : List Int} (h : SlB base w v l) (k : Below w.heap.size w w') : SlB base w' v l := ⟨h.1.below k, h.2⟩
theorem Sl2b.nil (base : Nat) (w : World) : Sl2b base w (.slice none 0 0) [] :=
  ⟨fun _ => .slice none 0 0, .inl ⟨rfl, none, 0, rfl⟩, (fun b off len cap e => by cases e), fun i h => absurd h (Nat.not_lt_zero _)⟩

def hBad (n k : Int) : Prop := k < 0 ∨ n < k ∨ 300 < n
instance (n k : Int) : Decidable (hBad n k) := by unfold hBad; infer_instance
def hErr (n k : Int) : Int := if hBad n k then 1 else 0
def hA (n k s : Int) : List Int := if hBad n k then [] else sortI ((orderL n.toNat s).1.drop k.toNat)
def hB (n k s : Int) : List Int := if hBad n k then [] else sortI ((orderL n.toNat s).1.take k.toNat)
def hS (n k s : Int) : Int := if hBad n k then s else (orderL n.toNat s).2
theorem orderL_none (s : Int) : orderL 0 s = ([], s) := by simp [orderL, orderGo, upTo]

/-- no rows at all -/
theorem halves_none2 (b : Nat) (w : World) :
    Calls Try.prog 15 #[.int .i64 0, .int .i64 0, .pointer (some ⟨b, 0, none⟩)] w fun e w' => ∃ va vb, e = .returned (.tuple #[va, vb, .int .i64 0]) ∧ SlB w.heap.size w' va [] ∧ SlB w.heap.size w' vb [] ∧ Below w.heap.size w w' := by
  go_enter Try.func15, Try.ntmps15
  go_wp2_with fail
  refine (dorder_zero b 0 w (by omega)).mono ?_
  rintro e w1 ⟨rfl, rfl⟩
  go_wp2_with fail
  have q1 : Below w.heap.size w w.drew := (Below.refl _ _).drew
  obtain ⟨ww, hww⟩ : ∃ ww, ww = w.drew := ⟨_, rfl⟩
  have tok : True := trivial
  go_region_with (first
      | (go_at_call 25; have _t := tok; refine (ascending_any _ [] (by simp) _ (.inl ⟨rfl, _, _, rfl⟩)).mono ?_; clear tok; rintro e w2 ⟨va, rfl, hoa, hb2⟩)
      | (go_at_call 25; refine (ascending_any _ [] (by simp) _ (.inl ⟨rfl, _, _, rfl⟩)).mono ?_; rintro e w3 ⟨vb, rfl, hob, hb3⟩))
  have hb2 : Below w.heap.size w w2 := q1.trans hb2
  have e0 : sortI [] = [] := by simp [sortI]
  rw [e0] at hoa hob
  clear e0
  go_wp2
  go_ret3
  exact ⟨va, vb, rfl, (SlB.of_owns (l := []) hoa).below hb3, (SlB.of_owns (l := []) (owns_lower hob hb2.size)), hb2.trans (hb3.mono hb2.size)⟩

/-- no rows at all -/
theorem rhalves_none2 (b : Nat) (w : World) :
    Calls Try.prog 19 #[.int .i64 0, .int .i64 0, .pointer (some ⟨b, 0, none⟩)] w fun e w' => ∃ va vb, e = .returned (.tuple #[va, vb, .int .i64 0]) ∧ SlB w.heap.size w' va [] ∧ SlB w.heap.size w' vb [] ∧ Below w.heap.size w w' := by
  go_enter Try.func19, Try.ntmps19
  go_wp2_with fail
  refine (rorder_zero b 0 w (by omega)).mono ?_
  rintro e w1 ⟨rfl, rfl⟩
  go_wp2_with fail
  have q1 : Below w.heap.size w w.drew := (Below.refl _ _).drew
  obtain ⟨ww, hww⟩ : ∃ ww, ww = w.drew := ⟨_, rfl⟩
  have tok : True := trivial
  go_region_with (first
      | (go_at_call 33; have _t := tok; refine (rising_at _ [] (by simp) _ (.inl ⟨rfl, _, _, rfl⟩)).mono ?_; clear tok; rintro e w2 ⟨va, rfl, hoa, hb2⟩)
      | (go_at_call 33; refine (rising_at _ [] (by simp) _ (.inl ⟨rfl, _, _, rfl⟩)).mono ?_; rintro e w3 ⟨vb, rfl, hob, hb3⟩))
  have hb2 : Below w.heap.size w w2 := q1.trans hb2
  have e0 : sortI [] = [] := by simp [sortI]
  rw [e0] at hoa hob
  clear e0
  go_wp2
  go_ret3
  exact ⟨va, vb, rfl, (SlB.of_owns (l := []) hoa).below hb3, (SlB.of_owns (l := []) (owns_lower hob hb2.size)), hb2.trans (hb3.mono hb2.size)⟩

theorem halves_all (b : Nat) (n k s : Int) (w : World) (h : Die w b s) :
    Calls Try.prog 15 #[.int .i64 n, .int .i64 k, .pointer (some ⟨b, 0, none⟩)] w fun e w' => ∃ va vb, e = .returned (.tuple #[va, vb, .int .i64 (hErr n k)]) ∧
      SlB w.heap.size w' va (hA n k s) ∧ SlB w.heap.size w' vb (hB n k s) ∧ Die w' b (hS n k s) ∧ Kept (· = b) w w' := by
  by_cases hb : hBad n k
  · simp only [hErr, hA, hB, hS, if_pos hb]
    refine (halves_err b n k w hb).mono ?_
    rintro e w' ⟨rfl, rfl⟩
    exact ⟨_, _, rfl, SlB.nil _ _, SlB.nil _ _, h, Kept.refl _ _⟩
  · simp only [hErr, hA, hB, hS, if_neg hb]
    unfold hBad at hb
    obtain ⟨n, rfl⟩ := Int.eq_ofNat_of_zero_le (show 0 ≤ n by omega)
    obtain ⟨k, rfl⟩ := Int.eq_ofNat_of_zero_le (show 0 ≤ k by omega)
    rw [Int.toNat_natCast, Int.toNat_natCast]
    by_cases hn : n = 0
    · obtain rfl : n = 0 := hn
      obtain rfl : k = 0 := by omega
      refine (halves_none2 b w).mono ?_
      rintro e w' ⟨va, vb, rfl, h1, h2, hb⟩
      rw [orderL_none]
      exact ⟨va, vb, rfl, by simpa [sortI] using h1, by simpa [sortI] using h2, h.below hb, Kept.of_below hb _⟩
    · refine (halves_ok b n k s w h (by omega) (by omega) (by omega)).mono ?_
      rintro e w' ⟨va, vb, rfl, h1, h2, h3, h4⟩
      exact ⟨va, vb, rfl, SlB.of_owns h1, SlB.of_owns h2, h3, h4⟩

theorem rhalves_all (b : Nat) (n k s : Int) (w : World) (h : Die w b s) :
    Calls Try.prog 19 #[.int .i64 n, .int .i64 k, .pointer (some ⟨b, 0, none⟩)] w fun e w' => ∃ va vb, e = .returned (.tuple #[va, vb, .int .i64 (hErr n k)]) ∧
      SlB w.heap.size w' va (hA n k s) ∧ SlB w.heap.size w' vb (hB n k s) ∧ Die w' b (hS n k s) ∧ Kept (· = b) w w' := by
  by_cases hb : hBad n k
  · simp only [hErr, hA, hB, hS, if_pos hb]
    refine (rhalves_err b n k w hb).mono ?_
    rintro e w' ⟨rfl, rfl⟩
    exact ⟨_, _, rfl, SlB.nil _ _, SlB.nil _ _, h, Kept.refl _ _⟩
  · simp only [hErr, hA, hB, hS, if_neg hb]
    unfold hBad at hb
    obtain ⟨n, rfl⟩ := Int.eq_ofNat_of_zero_le (show 0 ≤ n by omega)
    obtain ⟨k, rfl⟩ := Int.eq_ofNat_of_zero_le (show 0 ≤ k by omega)
    rw [Int.toNat_natCast, Int.toNat_natCast]
    by_cases hn : n = 0
    · obtain rfl : n = 0 := hn
      obtain rfl : k = 0 := by omega
      refine (rhalves_none2 b w).mono ?_
      rintro e w' ⟨va, vb, rfl, h1, h2, hb⟩
      rw [orderL_none]
      exact ⟨va, vb, rfl, by simpa [sortI] using h1, by simpa [sortI] using h2, h.below hb, Kept.of_below hb _⟩
    · refine (rhalves_ok b n k s w h (by omega) (by omega) (by omega)).mono ?_
      rintro e w' ⟨va, vb, rfl, h1, h2, h3, h4⟩
      exact ⟨va, vb, rfl, SlB.of_owns h1, SlB.of_owns h2, h3, h4⟩

def fBad (n k : Int) : Prop := k < 2 ∨ n < k ∨ 300 < n
instance (n k : Int) : Decidable (fBad n k) := by unfold fBad; infer_instance
def fErr (n k : Int) : Int := if fBad n k then 1 else 0
def fL (n k s : Int) : List (List Int) := if fBad n k then [] else dealL (orderL n.toNat s).1 k.toNat
def fS (n k s : Int) : Int := if fBad n k then s else (orderL n.toNat s).2

theorem folds_all (b : Nat) (n k s : Int) (w : World) (h : Die w b s) :
    Calls Try.prog 16 #[.int .i64 n, .int .i64 k, .pointer (some ⟨b, 0, none⟩)] w fun e w' => ∃ v, e = .returned (.tuple #[v, .int .i64 (fErr n k)]) ∧
      Sl2b w.heap.size w' v (fL n k s) ∧ Die w' b (fS n k s) ∧ Kept (· = b) w w' := by
  by_cases hb : fBad n k
  · simp only [fErr, fL, fS, if_pos hb]
    refine (folds_err b n k w hb).mono ?_
    rintro e w' ⟨rfl, rfl⟩
    exact ⟨_, rfl, Sl2b.nil _ _, h, Kept.refl _ _⟩
  · simp only [fErr, fL, fS, if_neg hb]
    unfold fBad at hb
    obtain ⟨n, rfl⟩ := Int.eq_ofNat_of_zero_le (show 0 ≤ n by omega)
    obtain ⟨k, rfl⟩ := Int.eq_ofNat_of_zero_le (show 0 ≤ k by omega)
    exact folds_ok b n k s w h (by omega) (by omega) (by omega)
theorem rfolds_all (b : Nat) (n k s : Int) (w : World) (h : Die w b s) :
    Calls Try.prog 20 #[.int .i64 n, .int .i64 k, .pointer (some ⟨b, 0, none⟩)] w fun e w' => ∃ v, e = .returned (.tuple #[v, .int .i64 (fErr n k)]) ∧
      Sl2b w.heap.size w' v (fL n k s) ∧ Die w' b (fS n k s) ∧ Kept (· = b) w w' := by
  by_cases hb : fBad n k
  · simp only [fErr, fL, fS, if_pos hb]
    refine (rfolds_err b n k w hb).mono ?_
    rintro e w' ⟨rfl, rfl⟩
    exact ⟨_, rfl, Sl2b.nil _ _, h, Kept.refl _ _⟩
  · simp only [fErr, fL, fS, if_neg hb]
    unfold fBad at hb
    obtain ⟨n, rfl⟩ := Int.eq_ofNat_of_zero_le (show 0 ≤ n by omega)
    obtain ⟨k, rfl⟩ := Int.eq_ofNat_of_zero_le (show 0 ≤ k by omega)
    exact rfolds_ok b n k s w h (by omega) (by omega) (by omega)

def labsOk (l : List Int) : Bool := l.all fun x => decide (0 ≤ x ∧ x < 12)
theorem labsOk_iff (l : List Int) : labsOk l = true ↔ ∀ x ∈ l, 0 ≤ x ∧ x < 12 := by simp [labsOk]
def eErr (l : List Int) (k : Int) : Int := if fBad l.length k then 1 else if labsOk l then 0 else 1
def eL (l : List Int) (k s : Int) : List (List Int) := if fBad l.length k then [] else if labsOk l then dealL (bucket l (orderL l.length s).1 12) k.toNat else []
def eS (l : List Int) (k s : Int) : Int := if fBad l.length k then s else if labsOk l then (orderL l.length s).2 else s
theorem labs_bad {l : List Int} (h : ¬ labsOk l = true) : ∃ x ∈ l, x < 0 ∨ 12 ≤ x := by
  rw [labsOk_iff] at h
  apply Classical.byContradiction
  intro hn
  apply h
  intro x hx
  apply Classical.byContradiction
  intro hc
  exact hn ⟨x, hx, by omega⟩

theorem even_all (b : Nat) (v : Value) (l : List Int) (k s : Int) (w : World) (hSl : Sl i64 w v l) (hl : l.length ≤ 1000000) (h : Die w b s) (hne : ∀ b' off len cap, v = .slice (some ⟨b', off, none⟩) len cap → b' ≠ b) :
    Calls Try.prog 17 #[v, .int .i64 k, .pointer (some ⟨b, 0, none⟩)] w fun e w' => ∃ v', e = .returned (.tuple #[v', .int .i64 (eErr l k)]) ∧
      Sl2b w.heap.size w' v' (eL l k s) ∧ Die w' b (eS l k s) ∧ Kept (· = b) w w' := by
  by_cases hb : fBad l.length k
  · simp only [eErr, eL, eS, if_pos hb]
    refine (even_err1 b v l k w hSl hl (by unfold fBad at hb; omega)).mono ?_
    rintro e w' ⟨rfl, hw⟩
    exact ⟨_, rfl, Sl2b.nil _ _, h.below hw, Kept.of_below hw _⟩
  · simp only [eErr, eL, eS, if_neg hb]
    unfold fBad at hb
    obtain ⟨k, rfl⟩ := Int.eq_ofNat_of_zero_le (show 0 ≤ k by omega)
    by_cases hx : labsOk l = true
    · simp only [if_pos hx]
      refine (even_ok b k v l s w hSl h (by omega) (by omega) (by omega) ((labsOk_iff l).1 hx) hne).mono ?_
      rintro e w' ⟨v', l', rfl, hst, hv, hd, hk⟩
      have : l' = bucket l (orderL l.length s).1 12 := by
        refine stable_bucket l _ l' 12 hst (fun x hx2 => ?_)
        have hx' := (upTo_mem _ _).1 ((orderL_perm l.length s (by omega)).mem_iff.1 hx2)
        obtain ⟨x, rfl⟩ := Int.eq_ofNat_of_zero_le hx'.1
        have hx3 : x < l.length := by omega
        have := (labsOk_iff l).1 hx l[x] (List.getElem_mem hx3)
        rw [Int.toNat_natCast]
        simp only [List.getD_eq_getElem?_getD, List.getElem?_eq_getElem hx3, Option.getD_some]
        exact this
      subst this
      exact ⟨v', rfl, hv, hd, hk⟩
    · simp only [if_neg hx]
      refine (even_err2 b v l k w hSl (by omega) (by omega) (by omega) (labs_bad hx)).mono ?_
      rintro e w' ⟨rfl, hw⟩
      exact ⟨_, rfl, Sl2b.nil _ _, h.below hw, Kept.of_below hw _⟩
theorem reven_all (b : Nat) (v : Value) (l : List Int) (k s : Int) (w : World) (hSl : Sl i64 w v l) (hl : l.length ≤ 1000000) (h : Die w b s) (hne : ∀ b' off len cap, v = .slice (some ⟨b', off, none⟩) len cap → b' ≠ b) :
    Calls Try.prog 22 #[v, .int .i64 k, .pointer (some ⟨b, 0, none⟩)] w fun e w' => ∃ v', e = .returned (.tuple #[v', .int .i64 (eErr l k)]) ∧
      Sl2b w.heap.size w' v' (eL l k s) ∧ Die w' b (eS l k s) ∧ Kept (· = b) w w' := by
  by_cases hb : fBad l.length k
  · simp only [eErr, eL, eS, if_pos hb]
    refine (reven_err1 b v l k w hSl hl (by unfold fBad at hb; omega)).mono ?_
    rintro e w' ⟨rfl, rfl⟩
    exact ⟨_, rfl, Sl2b.nil _ _, h, Kept.refl _ _⟩
  · simp only [eErr, eL, eS, if_neg hb]
    unfold fBad at hb
    obtain ⟨k, rfl⟩ := Int.eq_ofNat_of_zero_le (show 0 ≤ k by omega)
    by_cases hx : labsOk l = true
    · simp only [if_pos hx]
      exact reven_ok b k v l s w hSl h (by omega) (by omega) (by omega) ((labsOk_iff l).1 hx) hne
    · simp only [if_neg hx]
      refine (reven_err2 b v l k w hSl (by omega) (by omega) (by omega) (labs_bad hx)).mono ?_
      rintro e w' ⟨rfl, rfl⟩
      exact ⟨_, rfl, Sl2b.nil _ _, h, Kept.refl _ _⟩

def bBad (n : Int) : Prop := n < 1 ∨ 300 < n
instance (n : Int) : Decidable (bBad n) := by unfold bBad; infer_instance
def bA (n s : Int) : List Int := if bBad n then [] else bagL n.toNat s
def bB (n s : Int) : List Int := if bBad n then [] else restL n.toNat (bagL n.toNat s)
def bS (n s : Int) : Int := if bBad n then s else (drawL n n.toNat s).2
theorem boot_all (b : Nat) (n s : Int) (w : World) (h : Die w b s) :
    Calls Try.prog 10 #[.int .i64 n, .pointer (some ⟨b, 0, none⟩)] w fun e w' => ∃ va vb, e = .returned (.tuple #[va, vb]) ∧
      SlB w.heap.size w' va (bA n s) ∧ SlB w.heap.size w' vb (bB n s) ∧ Die w' b (bS n s) ∧ Kept (· = b) w w' := by
  by_cases hb : bBad n
  · simp only [bA, bB, bS, if_pos hb]
    refine (boot_none b n w hb).mono ?_
    rintro e w' ⟨rfl, rfl⟩
    exact ⟨_, _, rfl, SlB.nil _ _, SlB.nil _ _, h, Kept.refl _ _⟩
  · simp only [bA, bB, bS, if_neg hb]
    unfold bBad at hb
    obtain ⟨n, rfl⟩ := Int.eq_ofNat_of_zero_le (show 0 ≤ n by omega)
    refine (boot_any b n s w h (by omega) (by omega)).mono ?_
    rintro e w' ⟨va, vb, rfl, h1, h2, h3, h4⟩
    exact ⟨va, vb, rfl, SlB.of_owns h1, SlB.of_owns h2, h3, h4⟩
theorem rboot_all (b : Nat) (n s : Int) (w : World) (h : Die w b s) :
    Calls Try.prog 23 #[.int .i64 n, .pointer (some ⟨b, 0, none⟩)] w fun e w' => ∃ va vb, e = .returned (.tuple #[va, vb]) ∧
      SlB w.heap.size w' va (bA n s) ∧ SlB w.heap.size w' vb (bB n s) ∧ Die w' b (bS n s) ∧ Kept (· = b) w w' := by
  by_cases hb : bBad n
  · simp only [bA, bB, bS, if_pos hb]
    refine (rboot_none b n w hb).mono ?_
    rintro e w' ⟨rfl, rfl⟩
    exact ⟨_, _, rfl, SlB.nil _ _, SlB.nil _ _, h, Kept.refl _ _⟩
  · simp only [bA, bB, bS, if_neg hb]
    unfold bBad at hb
    obtain ⟨n, rfl⟩ := Int.eq_ofNat_of_zero_le (show 0 ≤ n by omega)
    refine (rboot_any b n s w h (by omega) (by omega)).mono ?_
    rintro e w' ⟨va, vb, rfl, h1, h2, h3, h4⟩
    exact ⟨va, vb, rfl, SlB.of_owns h1, SlB.of_owns h2, h3, h4⟩

theorem rest_all (n : Int) (v : Value) (l : List Int) (w : World) (hS : Sl i64 w v l) (hn2 : n ≤ 300) (hl : l.length ≤ 1000000) :
    Calls Try.prog 13 #[.int .i64 n, v] w fun e w' => ∃ v', e = .returned v' ∧ Sl i64 w' v' (restL n.toNat l) ∧ Below w.heap.size w w' := by
  by_cases hb : n < 1
  · obtain ⟨a, cap, rfl⟩ := hS.len
    refine (rest_none n a l.length cap w (.inl hb)).mono ?_
    rintro e w' ⟨rfl, rfl⟩
    rw [show n.toNat = 0 by omega]
    exact ⟨_, rfl, (SlB.nil 0 _).1, Below.refl _ _⟩
  · obtain ⟨n, rfl⟩ := Int.eq_ofNat_of_zero_le (show 0 ≤ n by omega)
    refine (rest_any n v l w hS (by omega) (by omega) hl).mono ?_
    rintro e w' ⟨v', rfl, h1, h2⟩
    exact ⟨v', rfl, Sl.of_owns h1, h2⟩
theorem rrest_all (n : Int) (v : Value) (l : List Int) (w : World) (hS : Sl i64 w v l) (hn2 : n ≤ 300) (hl : l.length ≤ 100000) :
    Calls Try.prog 24 #[.int .i64 n, v] w fun e w' => ∃ v', e = .returned v' ∧ Sl i64 w' v' (restL n.toNat l) ∧ Below w.heap.size w w' := by
  refine (rrest_any n v l w hS hn2 hl).mono ?_
  rintro e w' ⟨v', rfl, h1, h2⟩
  exact ⟨v', rfl, Sl.of_owns h1, h2⟩

theorem sameInts_same (va vb : Value) (l : List Int) (w : World) (ha : Sl i64 w va l) (hb : Sl i64 w vb l) (h1 : l.length ≤ 1000000) :
    Calls Try.prog 12 #[va, vb] w fun e w' => e = .returned (.bool true) ∧ Below w.heap.size w w' := by
  refine (sameInts_any va vb l l w ha hb h1 h1).mono ?_
  rintro e w' ⟨rfl, h⟩
  exact ⟨by simp, h⟩

set_option maxHeartbeats 800000 in
theorem lists_same (va vb : Value) (ll : List (List Int)) (w : World) (ha : Sl2 w va ll) (hb : Sl2 w vb ll) (h1 : ll.length ≤ 1000000) (h2 : ∀ l ∈ ll, l.length ≤ 1000000) :
    Calls Try.prog 21 #[va, vb] w fun e w' => e = .returned (.bool true) ∧ Below w.heap.size w w' := by
  obtain ⟨a, cap, rfl⟩ := ha.len
  obtain ⟨b, cap', rfl⟩ := hb.len
  have hne : ((ll.length : Int) != (ll.length : Int)) = false := by simp
  have H2 := hid h2
  clear h2
  go_enter Try.func21, Try.ntmps21
  go_wp2
  go_loopg [5] ll.length (fun g i wr => ∃ j : Nat, j + g = ll.length ∧ i = .int .i64 j ∧ Below w.heap.size w wr)
  case atStart => exact ⟨0, by omega, rfl, Below.refl _ _⟩
  case round =>
    obtain ⟨j, hj, rfl, hK⟩ := hrel
    by_cases hlt : j < ll.length
    · obtain ⟨b1, off1, a1, cap1, rfl, hb1, hc1, hs1⟩ := (ha.below hK).at j hlt
      obtain ⟨b2, off2, a2, cap2, rfl, hb2, hc2, hs2⟩ := (hb.below hK).at j hlt
      have hle := H2.out ll[j] (List.getElem_mem hlt)
      generalize ll[j] = l at *
      have HJ := hid hj
      clear hj
      go_wp2_with fail
      go_still_tail 8, (by kernel_rfl)
      change wpList _ _ _ _ _ wr.drew
      go_wp2_with fail
      refine (sameInts_same _ _ l wr.drew (hs1.below ((Below.refl _ _).drew)) (hs2.below ((Below.refl _ _).drew)) hle).mono ?_
      rintro e w1 ⟨rfl, hb1⟩
      go_wp2
      go_roundg (gk - 1)
      case measure => have := HJ.out; omega
      case rel => exact ⟨j + 1, by have := HJ.out; omega, by go_num, hK.drew.trans (hb1.mono hK.size)⟩
    · go_wp2
      go_ret
      exact ⟨rfl, hK⟩

end Go.Proofs.Ytiodofijcghpaaa
