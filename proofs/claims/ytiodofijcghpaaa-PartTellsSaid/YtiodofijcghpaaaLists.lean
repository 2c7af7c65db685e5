/- Plain lemmas on lists. -/
namespace Go.Proofs.Ytiodofijcghpaaa

theorem rev_ind {α : Type} {p : List α → Prop} (nil : p []) (snoc : ∀ l x, p l → p (l ++ [x])) : ∀ l, p l := by
  intro l
  suffices H : ∀ m : List α, p m.reverse by have := H l.reverse; rwa [List.reverse_reverse] at this
  intro m
  induction m with
  | nil => exact nil
  | cons x m ih => rw [List.reverse_cons]; exact snoc _ _ ih

theorem exists_snoc {α : Type} (l : List α) (h : 0 < l.length) : ∃ s y, l = s ++ [y] := by
  induction l using rev_ind with
  | nil => simp at h
  | snoc s y _ => exact ⟨s, y, rfl⟩

end Go.Proofs.Ytiodofijcghpaaa
