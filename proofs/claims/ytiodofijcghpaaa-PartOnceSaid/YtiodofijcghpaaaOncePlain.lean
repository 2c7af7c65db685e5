/- What is dealt, plainly: each element once, parts of like size, labels spread evenly. -/
import Derived.Test.YtiodofijcghpaaaDealPlain
import Derived.Test.YtiodofijcghpaaaStable
namespace Go.Proofs.Ytiodofijcghpaaa

theorem flatten_upd {α : Type} (f : Nat → List α) (r : Nat) (x : α) : ∀ (is : List Nat), is.Nodup → r ∈ is → ((is.map fun i => if i = r then f i ++ [x] else f i).flatten).Perm ((is.map f).flatten ++ [x])
  | [], _, h => by simp at h
  | i :: is, hn, h => by
    obtain ⟨h1, h2⟩ := List.nodup_cons.1 hn
    simp only [List.map_cons, List.flatten_cons]
    by_cases e : i = r
    · subst e
      have hs : (is.map fun j => if j = i then f j ++ [x] else f j) = is.map f := by
        apply List.map_congr_left
        intro j hj
        rw [if_neg (fun e : j = i => h1 (e ▸ hj))]
      rw [if_pos rfl, hs, List.append_assoc, List.append_assoc]
      exact List.Perm.append_left _ List.perm_append_comm
    · have hr : r ∈ is := by
        rcases List.mem_cons.1 h with rfl | h
        · exact absurd rfl e
        · exact h
      rw [if_neg e, List.append_assoc]
      exact List.Perm.append_left _ (flatten_upd f r x is h2 hr)

theorem dealt_perm (l : List Int) (k : Nat) (hk : 1 ≤ k) : ∀ j, j ≤ l.length → (((List.range k).map fun i => dealt l k i j).flatten).Perm (l.take j) := by
  intro j
  induction j with
  | zero =>
    intro _
    have : ((List.range k).map fun i => dealt l k i 0) = List.replicate k [] := by
      apply List.ext_getElem
      · simp
      · intro i h1 h2; simp [dealt_zero]
    rw [this]; simp
  | succ j ih =>
    intro hj
    have e : ((List.range k).map fun i => dealt l k i (j + 1)) = (List.range k).map fun i => if i = j % k then dealt l k i j ++ [l.getD j 0] else dealt l k i j := by
      apply List.map_congr_left
      intro i _
      exact dealt_succ l k i j
    rw [e]
    refine (flatten_upd _ (j % k) (l.getD j 0) _ List.nodup_range (List.mem_range.2 (Nat.mod_lt _ (by omega)))).trans ?_
    rw [List.take_succ_eq_append_getElem (by omega), show l.getD j 0 = l[j] by simp [show j < l.length by omega]]
    exact (ih (by omega)).append_right _

theorem flatten_sort_perm (f : Nat → List Int) : ∀ is : List Nat, ((is.map fun i => sortI (f i)).flatten).Perm ((is.map f).flatten)
  | [] => List.Perm.refl _
  | i :: is => by
    simp only [List.map_cons, List.flatten_cons]
    exact (sortI_perm _).append (flatten_sort_perm f is)

theorem dealL_perm (l : List Int) (k : Nat) (hk : 1 ≤ k) : (dealL l k).flatten.Perm l := by
  unfold dealL
  refine (flatten_sort_perm _ _).trans ?_
  have := dealt_perm l k hk l.length (Nat.le_refl _)
  rwa [List.take_length] at this

theorem strict_of_sorted {l : List Int} (h : l.Pairwise (· ≤ ·)) (hn : l.Nodup) : l.Pairwise (· < ·) :=
  (h.and hn).imp (fun ⟨a, b⟩ => by omega)

theorem nodup_of_flatten {α : Type} : ∀ {ll : List (List α)}, ll.flatten.Nodup → ∀ p ∈ ll, p.Nodup
  | [], _, p, hp => by simp at hp
  | q :: ll, h, p, hp => by
    rw [List.flatten_cons] at h
    obtain ⟨h1, h2, _⟩ := List.nodup_append.1 h
    rcases List.mem_cons.1 hp with rfl | hp
    · exact h1
    · exact nodup_of_flatten h2 p hp

theorem dealL_strict (l : List Int) (k : Nat) (hk : 1 ≤ k) (hn : l.Nodup) : ∀ p ∈ dealL l k, p.Pairwise (· < ·) := by
  intro p hp
  have hnd : (dealL l k).flatten.Nodup := (dealL_perm l k hk).nodup_iff.2 hn
  refine strict_of_sorted ?_ (nodup_of_flatten hnd p hp)
  unfold dealL at hp
  obtain ⟨i, _, rfl⟩ := List.mem_map.1 hp
  exact sortI_sorted _

/-- how many of the first n places go to part i -/
theorem places (k i n : Nat) (hi : i < k) : ((List.range n).filter fun p => p % k == i).length = (n + k - 1 - i) / k := by
  induction n with
  | zero => simp; rw [Nat.div_eq_of_lt (by omega)]
  | succ n ih =>
    rw [List.range_succ, List.filter_append, List.length_append, ih]
    have hk : 0 < k := by omega
    by_cases h : n % k = i
    · have e : (n % k == i) = true := by simpa using h
      simp only [List.filter_cons, e, List.filter_nil, if_true, List.length_cons, List.length_nil]
      have hd := Nat.div_add_mod n k
      rw [h] at hd
      have e1 : n + k - 1 - i = k * (n / k) + (k - 1) := by omega
      have e2 : n + 1 + k - 1 - i = k * (n / k + 1) := by rw [Nat.mul_add]; omega
      rw [e1, e2, Nat.mul_add_div hk, Nat.mul_div_cancel_left _ hk, Nat.div_eq_of_lt (show k - 1 < k by omega)]
    · have e : (n % k == i) = false := by simpa using h
      simp only [List.filter_cons, e, List.filter_nil, Bool.false_eq_true, if_false, List.length_nil, Nat.add_zero]
      have hd := Nat.div_add_mod n k
      have hm := Nat.mod_lt n hk
      have e1 : n + k - 1 - i = k * (n / k) + (n % k + k - 1 - i) := by omega
      have e2 : n + 1 + k - 1 - i = k * (n / k) + (n % k + k - i) := by omega
      rw [e1, e2, Nat.mul_add_div hk, Nat.mul_add_div hk]
      congr 1
      by_cases h2 : n % k < i
      · rw [Nat.div_eq_of_lt (by omega), Nat.div_eq_of_lt (by omega)]
      · have e3 : n % k + k - 1 - i = k * 1 + (n % k - 1 - i) := by omega
        have e4 : n % k + k - i = k * 1 + (n % k - i) := by omega
        rw [e3, e4, Nat.mul_add_div hk, Nat.mul_add_div hk, Nat.div_eq_of_lt (by omega), Nat.div_eq_of_lt (by omega)]

theorem dealt_length (l : List Int) (k i n : Nat) (hi : i < k) : (dealt l k i n).length = (n + k - 1 - i) / k := by
  unfold dealt; rw [List.length_map, places k i n hi]

theorem dealt_size (l : List Int) (k i n : Nat) (hi : i < k) : n / k ≤ (dealt l k i n).length ∧ (dealt l k i n).length ≤ (n + k - 1) / k := by
  rw [dealt_length l k i n hi]
  exact ⟨Nat.div_le_div_right (by omega), Nat.div_le_div_right (by omega)⟩

theorem div_diff (k d x y : Nat) (hk : 0 < k) : (x + d) / k - x / k ≤ (y + d) / k - y / k + 1 := by
  have a1 := Nat.div_add_mod x k
  have a2 := Nat.div_add_mod y k
  have a3 := Nat.div_add_mod d k
  have b1 := Nat.mod_lt x hk
  have b2 := Nat.mod_lt y hk
  have b3 := Nat.mod_lt d hk
  have e1 : (x + d) / k = x / k + d / k + (x % k + d % k) / k := by
    have : x + d = k * (x / k + d / k) + (x % k + d % k) := by rw [Nat.mul_add]; omega
    conv => lhs; rw [this]
    rw [Nat.mul_add_div hk]
  have e2 : (y + d) / k = y / k + d / k + (y % k + d % k) / k := by
    have : y + d = k * (y / k + d / k) + (y % k + d % k) := by rw [Nat.mul_add]; omega
    conv => lhs; rw [this]
    rw [Nat.mul_add_div hk]
  have c1 : (x % k + d % k) / k ≤ 1 := by
    have : (x % k + d % k) / k < 2 := Nat.div_lt_of_lt_mul (by omega)
    omega
  rw [e1, e2]
  generalize (x % k + d % k) / k = A at *
  generalize (y % k + d % k) / k = B at *
  generalize x / k = X
  generalize y / k = Y
  generalize d / k = D
  omega

/-- In a list in the order of labels, the elements with one label stand behind one another: a stretch from s to e. -/
theorem stretch (g : Nat → Int) (c : Int) (n : Nat) (hm : ∀ i j, i < j → j < n → g i ≤ g j) : ∃ s e, s ≤ e ∧ e ≤ n ∧ ∀ p, p < n → (g p = c ↔ s ≤ p ∧ p < e) := by
  induction n with
  | zero => exact ⟨0, 0, by omega, by omega, by intro p hp; omega⟩
  | succ n ih =>
    obtain ⟨s, e, h1, h2, h3⟩ := ih (fun i j hi hj => hm i j hi (by omega))
    by_cases hc : g n = c
    · by_cases he : s = e
      · refine ⟨n, n + 1, by omega, by omega, fun p hp => ?_⟩
        by_cases hpn : p = n
        · subst hpn; exact ⟨fun _ => by omega, fun _ => hc⟩
        · have := h3 p (by omega)
          exact ⟨fun h => by have := this.1 h; omega, fun h => by omega⟩
      · have hen : e = n := by
          by_cases hlt : e < n
          · exfalso
            have a1 := (h3 s (by omega)).2 (by omega)
            have a2 : ¬ g e = c := fun h => by have := (h3 e hlt).1 h; omega
            have a3 := hm s e (by omega) (by omega)
            have a4 := hm e n hlt (by omega)
            omega
          · omega
        subst hen
        refine ⟨s, e + 1, by omega, by omega, fun p hp => ?_⟩
        by_cases hpn : p = e
        · subst hpn; exact ⟨fun _ => by omega, fun _ => hc⟩
        · have := h3 p (by omega)
          exact ⟨fun h => by have := this.1 h; omega, fun h => this.2 (by omega)⟩
    · refine ⟨s, e, h1, by omega, fun p hp => ?_⟩
      by_cases hpn : p = n
      · subst hpn; exact ⟨fun h => absurd h hc, fun h => by omega⟩
      · exact h3 p (by omega)

/-- how many elements of part i have the label c -/
theorem dealt_count (lab l : List Int) (k i : Nat) (c : Int) (s e n : Nat) (hi : i < k) (hse : s ≤ e) (hen : e ≤ n) (h : ∀ p, p < n → (lab.getD (l.getD p 0).toNat 0 = c ↔ s ≤ p ∧ p < e)) :
    ((dealt l k i n).filter fun x => lab.getD x.toNat 0 == c).length = (e + k - 1 - i) / k - (s + k - 1 - i) / k := by
  unfold dealt
  rw [List.filter_map, List.length_map, List.filter_filter]
  have e1 : ((List.range n).filter fun p => ((fun x : Int => lab.getD x.toNat 0 == c) ∘ fun p => l.getD p 0) p && (p % k == i)) = (List.range n).filter fun p => (decide (s ≤ p ∧ p < e)) && (p % k == i) := by
    apply List.filter_congr
    intro p hp
    have := h p (List.mem_range.1 hp)
    congr 1
    rw [Bool.eq_iff_iff]
    simp only [Function.comp_apply, beq_iff_eq, decide_eq_true_eq]
    exact this
  rw [e1]
  have key : ∀ m, s ≤ m → m ≤ e → ((List.range m).filter fun p => (decide (s ≤ p ∧ p < e)) && (p % k == i)).length + ((List.range s).filter fun p => p % k == i).length = ((List.range m).filter fun p => p % k == i).length := by
    intro m hm
    induction m with
    | zero =>
      intro _
      have : s = 0 := by omega
      subst this; simp
    | succ m ih =>
      intro hme
      rw [List.range_succ, List.filter_append, List.filter_append, List.length_append, List.length_append]
      by_cases hsm : s ≤ m
      · have := ih hsm (by omega)
        have e2 : (decide (s ≤ m ∧ m < e)) = true := by simp; omega
        simp only [List.filter_cons, e2, Bool.true_and, List.filter_nil]
        omega
      · have : s = m + 1 := by omega
        subst this
        have z : ((List.range m).filter fun p => (decide (m + 1 ≤ p ∧ p < e)) && (p % k == i)) = [] := by
          rw [List.filter_eq_nil_iff]; intro p hp; simp; have := List.mem_range.1 hp; omega
        have z2 : (decide (m + 1 ≤ m ∧ m < e)) = false := by simp; omega
        rw [z, List.range_succ, List.filter_append, List.length_append]
        simp only [List.filter_cons, z2, Bool.false_and, List.filter_nil, List.length_nil]
        simp
  have tail : ∀ m, e ≤ m → ((List.range m).filter fun p => (decide (s ≤ p ∧ p < e)) && (p % k == i)).length = ((List.range e).filter fun p => (decide (s ≤ p ∧ p < e)) && (p % k == i)).length := by
    intro m hm
    induction m with
    | zero => have : e = 0 := by omega
              subst this; rfl
    | succ m ih =>
      by_cases hem : e ≤ m
      · rw [List.range_succ, List.filter_append, List.length_append, ih hem]
        have e2 : (decide (s ≤ m ∧ m < e)) = false := by simp; omega
        simp only [List.filter_cons, e2, Bool.false_and, List.filter_nil, List.length_nil]
        simp
      · have : e = m + 1 := by omega
        subst this; rfl
  rw [tail n hen]
  have := key e hse (Nat.le_refl _)
  rw [places k i s hi, places k i e hi] at this
  omega

theorem labels_even (lab l : List Int) (k i j : Nat) (c : Int) (n : Nat) (hi : i < k) (hj : j < k) (hm : ∀ p q, p < q → q < n → lab.getD (l.getD p 0).toNat 0 ≤ lab.getD (l.getD q 0).toNat 0) :
    ((dealt l k i n).filter fun x => lab.getD x.toNat 0 == c).length ≤ ((dealt l k j n).filter fun x => lab.getD x.toNat 0 == c).length + 1 := by
  obtain ⟨s, e, h1, h2, h3⟩ := stretch (fun p => lab.getD (l.getD p 0).toNat 0) c n hm
  rw [dealt_count lab l k i c s e n hi h1 h2 h3, dealt_count lab l k j c s e n hj h1 h2 h3]
  have := div_diff k (e - s) (s + k - 1 - i) (s + k - 1 - j) (by omega)
  rw [show s + k - 1 - i + (e - s) = e + k - 1 - i by omega, show s + k - 1 - j + (e - s) = e + k - 1 - j by omega] at this
  exact this

end Go.Proofs.Ytiodofijcghpaaa
