/- Buckets by label, plainly: they are the stable order by label. -/
import Derived.Test.YtiodofijcghpaaaFolds
namespace Go.Proofs.Ytiodofijcghpaaa

def cls (lab : List Int) (c : Int) (x : Int) : Bool := lab.getD x.toNat 0 == c
def bucket (lab L : List Int) (c : Nat) : List Int := (List.range c).flatMap fun (c : Nat) => L.filter (cls lab c)
theorem bucket_zero (lab L : List Int) : bucket lab L 0 = [] := rfl
theorem bucket_succ (lab L : List Int) (c : Nat) : bucket lab L (c + 1) = bucket lab L c ++ L.filter (cls lab c) := by simp [bucket, List.range_succ]
theorem bucket_mem (lab L : List Int) (c : Nat) (x : Int) : x ∈ bucket lab L c ↔ x ∈ L ∧ 0 ≤ lab.getD x.toNat 0 ∧ lab.getD x.toNat 0 < c := by
  simp only [bucket, List.mem_flatMap, List.mem_range, List.mem_filter, cls, beq_iff_eq]
  constructor
  · rintro ⟨d, h1, h2, h3⟩; exact ⟨h2, by omega, by omega⟩
  · rintro ⟨h1, h2, h3⟩; exact ⟨(lab.getD x.toNat 0).toNat, by omega, h1, by omega⟩
theorem bucket_sorted (lab L : List Int) (c : Nat) : SortedBy (labLt lab) (bucket lab L c) := by
  induction c with
  | zero => exact List.Pairwise.nil
  | succ c ih =>
    rw [bucket_succ]
    refine ih.append ?_ ?_
    · refine List.Pairwise.imp_of_mem (R := fun _ _ => True) ?_ (List.pairwise_of_forall (fun _ _ => trivial))
      intro x y hx hy _
      simp only [List.mem_filter, cls, beq_iff_eq] at hx hy
      simp only [labLt, decide_eq_false_iff_not]; omega
    · intro x hx y hy
      rw [bucket_mem] at hx
      simp only [List.mem_filter, cls, beq_iff_eq] at hy
      simp only [labLt, decide_eq_false_iff_not]; omega
theorem bucket_filter (lab L : List Int) (c : Nat) (p : Int → Bool) : (bucket lab L c).filter p = bucket lab (L.filter p) c := by
  induction c with
  | zero => rfl
  | succ c ih => rw [bucket_succ, bucket_succ, List.filter_append, ih, List.filter_filter, List.filter_filter]; congr 1; apply List.filter_congr; intro x _; exact Bool.and_comm _ _
/-- of one label alone, the bucket is the list -/
theorem bucket_one (lab L : List Int) (c : Nat) (d : Int) (h0 : 0 ≤ d) (h1 : d < c) (h : ∀ x ∈ L, lab.getD x.toNat 0 = d) : bucket lab L c = L := by
  induction c with
  | zero => omega
  | succ c ih =>
    rw [bucket_succ]
    by_cases e : d = c
    · have h2 : bucket lab L c = [] := List.eq_nil_iff_forall_not_mem.2 (fun x hx => by
        rw [bucket_mem] at hx
        have := h x hx.1; omega)
      rw [h2, List.nil_append, List.filter_eq_self]
      intro x hx
      simp only [cls, beq_iff_eq]; rw [h x hx]; exact e
    · rw [ih (by omega)]
      have : L.filter (cls lab c) = [] := by
        rw [List.filter_eq_nil_iff]
        intro x hx
        simp only [cls, beq_iff_eq]; rw [h x hx]; exact e
      rw [this, List.append_nil]
theorem bucket_count (lab L : List Int) (c : Nat) (x : Int) (h0 : 0 ≤ lab.getD x.toNat 0) (h1 : lab.getD x.toNat 0 < c) : (bucket lab L c).count x = L.count x := by
  rw [List.count_eq_length_filter, List.count_eq_length_filter, bucket_filter]
  rw [bucket_one lab _ c (lab.getD x.toNat 0) h0 h1]
  intro y hy
  simp only [List.mem_filter, beq_iff_eq] at hy
  rw [hy.2]
theorem bucket_perm (lab L : List Int) (c : Nat) (h : ∀ x ∈ L, 0 ≤ lab.getD x.toNat 0 ∧ lab.getD x.toNat 0 < c) : (bucket lab L c).Perm L := by
  rw [List.perm_iff_count]
  intro x
  by_cases hx : x ∈ L
  · exact bucket_count lab L c x (h x hx).1 (h x hx).2
  · rw [List.count_eq_zero_of_not_mem hx, List.count_eq_zero_of_not_mem]
    intro h2; rw [bucket_mem] at h2; exact hx h2.1
theorem stable_bucket (lab L l' : List Int) (c : Nat) (hst : StableOf (labLt lab) L l') (h : ∀ x ∈ L, 0 ≤ lab.getD x.toNat 0 ∧ lab.getD x.toNat 0 < c) : l' = bucket lab L c := by
  refine stable_unique (labLt_weak lab l') (hst.perm.trans (bucket_perm lab L c h).symm) hst.sorted (bucket_sorted lab L c) (fun x hx => ?_)
  have hxL := hst.perm.mem_iff.1 hx
  rw [hst.cls x hxL, bucket_filter]
  rw [bucket_one lab _ c (lab.getD x.toNat 0) (h x hxL).1 (h x hxL).2]
  intro y hy
  simp only [List.mem_filter, eqv, labLt, Bool.and_eq_true, Bool.not_eq_true', decide_eq_false_iff_not] at hy
  omega

end Go.Proofs.Ytiodofijcghpaaa
