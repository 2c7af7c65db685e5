/- Where SymMerge cuts its two runs. -/
import Derived.Test.YtiodofijcghpaaaStable
namespace Go.Proofs.Ytiodofijcghpaaa

theorem sym_split {α : Type} {lt : α → α → Bool} {S u v : List α} (hw : WeakOrd lt S) (hu : ∀ x ∈ u, x ∈ S) (hv : ∀ x ∈ v, x ∈ S) (su : SortedBy lt u) (sv : SortedBy lt v) (k e : Nat)
    (h1 : k = 0 ∨ v.length ≤ e ∨ ∃ (h : k - 1 < u.length) (h' : e < v.length), lt v[e] u[k - 1] = false)
    (h2 : u.length ≤ k ∨ e = 0 ∨ ∃ (h : k < u.length) (h' : e - 1 < v.length), lt v[e - 1] u[k] = true) :
    (∀ x ∈ u.drop k, ∀ y ∈ v.take e, lt y x = true) ∧ (∀ x ∈ u.take k, ∀ y ∈ v.drop e, lt y x = false) := by
  constructor
  · intro x hx y hy
    rcases h2 with h2 | rfl | ⟨hk, he, h2⟩
    · rw [List.drop_eq_nil_of_le h2] at hx; simp at hx
    · simp at hy
    · obtain ⟨i, hi, rfl⟩ := List.mem_drop_iff_getElem.1 hx
      obtain ⟨j, hj, rfl⟩ := List.mem_take_iff_getElem.1 hy
      have m1 := hv v[e - 1] (List.getElem_mem _)
      have m2 := hu u[k] (List.getElem_mem _)
      have m3 := hu u[k + i] (List.getElem_mem _)
      have m4 := hv v[j] (List.getElem_mem _)
      have a1 : lt v[e - 1] v[j] = false := by
        by_cases ej : j = e - 1
        · subst ej; exact hw.irrefl m4
        · exact sv.get j (e - 1) (by omega) he
      have a2 : lt u[k + i] u[k] = false := by
        by_cases ei : i = 0
        · subst ei; exact hw.irrefl m2
        · exact su.get k (k + i) (by omega) (by omega)
      exact hw.lt_trans' m4 m2 m3 (hw.lt_trans m4 m1 m2 a1 h2) a2
  · intro x hx y hy
    rcases h1 with rfl | h1 | ⟨hk, he, h1⟩
    · simp at hx
    · rw [List.drop_eq_nil_of_le h1] at hy; simp at hy
    · obtain ⟨i, hi, rfl⟩ := List.mem_take_iff_getElem.1 hx
      obtain ⟨j, hj, rfl⟩ := List.mem_drop_iff_getElem.1 hy
      have m1 := hu u[k - 1] (List.getElem_mem _)
      have m2 := hv v[e] (List.getElem_mem _)
      have m3 := hu u[i] (List.getElem_mem _)
      have m4 := hv v[e + j] (List.getElem_mem _)
      have a1 : lt v[e + j] v[e] = false := by
        by_cases ej : j = 0
        · subst ej; exact hw.irrefl m2
        · exact sv.get e (e + j) (by omega) (by omega)
      have a2 : lt u[k - 1] u[i] = false := by
        by_cases ei : i = k - 1
        · subst ei; exact hw.irrefl m3
        · exact su.get i (k - 1) (by omega) hk
      exact hw.trans _ m4 _ m2 _ m3 a1 (hw.trans _ m2 _ m1 _ m3 h1 a2)

end Go.Proofs.Ytiodofijcghpaaa
