/- slices.Collect, slices.Sorted at []int and part.ascending; contracts. -/
import Derived.Test.YtiodofijcghpaaaSorted
import Derived.Test.YtiodofijcghpaaaSortPlain
import Derived.Sort.OwnSortedInts
namespace Go.Proofs.Ytiodofijcghpaaa
open Go.RowKit Go.Shelf

set_option maxHeartbeats 400000 in
theorem collect_any (Bs : Nat) (sv : Value) (xs : List Int) (hbytes : xs.length * 8 ≤ 140737488351232) (w : World)
    (hBs : Bs < w.heap.size) (hc0 : w.cell? ⟨Bs, 0, none⟩ = some sv) (hI : Sl i64 w sv xs) :
    Calls Try.prog 42 #[.func (.func 44) #[] #[.pointer (some ⟨Bs, 0, none⟩)]] w fun e W' => ∃ v, e = .returned v ∧ W'.ownsRow w.heap.size 3 1 v xs.length (xs.map (Value.int .i64)) ∧ (v = .slice none 0 0 ↔ xs = []) ∧ Below w.heap.size w W' := by
  go_enter Try.func42, Try.ntmps42
  go_wp2_with fail
  refine ((callsIn_wide (n := 3)).1 (appendSeq_in Fence.wide 3 trivial trivial rfl (by omega) Bs sv xs hbytes w hBs hc0 hI)).mono ?_
  rintro e w1 ⟨v, rfl, hown, hnil, hb⟩
  go_wp2
  go_ret
  exact ⟨v, rfl, hown, hnil, hb⟩

set_option maxHeartbeats 400000 in
theorem sorted_any (Bs : Nat) (sv : Value) (xs : List Int) (hbytes : xs.length * 8 ≤ 140737488351232) (w : World)
    (hBs : Bs < w.heap.size) (hc0 : w.cell? ⟨Bs, 0, none⟩ = some sv) (hI : Sl i64 w sv xs) :
    Calls Try.prog 36 #[.func (.func 44) #[] #[.pointer (some ⟨Bs, 0, none⟩)]] w fun e W' => ∃ v, e = .returned v ∧ W'.ownsRow w.heap.size 3 1 v xs.length ((sortI xs).map (Value.int .i64)) ∧ Below w.heap.size w W' := by
  go_enter Try.func36, Try.ntmps36
  go_wp2_with fail
  refine (collect_any Bs sv xs hbytes w hBs hc0 hI).mono ?_
  rintro e w1 ⟨v, rfl, hown, hnil, hb⟩
  have HN := hid hnil
  clear hnil
  rcases hown.2 with ⟨rfl, h0⟩ | ⟨g, cap, cur, rfl, hbase, hh, h1, h2, h3, h4⟩
  · have hx : xs = [] := HN.out.1 rfl
    subst hx
    go_wp2_with fail
    refine (Try.slices_Sort_int_none _ _ _).mono ?_
    rintro e w2 ⟨rfl, rfl⟩
    go_wp2
    go_ret
    exact ⟨.slice none 0 0, rfl, by simpa [sortI] using hown, hb⟩
  · have hH := hid (holds_of_blockI hh (by simpa using h4))
    have H3 := hid h3
    have H4 := hid h4
    have HH := hid hh
    clear h3 h4 hh
    go_wp2_with fail
    refine (Try.slices_Sort_int g 0 cap xs w1 hH.out (lt_of_block HH.out) (by omega)).mono ?_
    rintro e w2 ⟨rfl, nn, os, rfl⟩
    have ho := ownsRow_sortedI (n := nn) (os := os) (ss := xs) (ts := sortI xs) (sortI_length xs) hbase HH.out h1 h2 H3.out
    have hg := grownBy_sortedI (w := w1) (g := g) (n := nn) (os := os) (sortI xs).toArray
    have hbb := hb.grown hg hb.size (fun k e => by cases e; exact hbase)
    have HO := hid ho
    clear ho
    go_wp2
    go_ret
    exact ⟨_, rfl, HO.out, hbb⟩

set_option maxHeartbeats 400000 in
theorem ascending_any (sv : Value) (xs : List Int) (hbytes : xs.length * 8 ≤ 140737488351232) (w : World) (hI : Sl i64 w sv xs) :
    Calls Try.prog 25 #[sv] w fun e W' => ∃ v, e = .returned v ∧ W'.ownsRow w.heap.size 3 1 v xs.length ((sortI xs).map (Value.int .i64)) ∧ Below w.heap.size w W' := by
  obtain ⟨a, cap, rfl⟩ := hI.len
  go_enter Try.func25, Try.ntmps25
  go_wp2_with fail
  refine ((callsIn_wide (n := 3)).1 (values_in Fence.wide 3 trivial rfl a xs.length cap w)).mono ?_
  rintro e w1 ⟨rfl, rfl⟩
  have hB0 : Below w.heap.size w (w.alloc (.cells #[.slice a xs.length cap] 27)) := (Below.refl _ w).alloc (Nat.le_refl _) _
  go_wp2_with fail
  refine (sorted_any w.heap.size _ xs hbytes _ (by simp) (World.cell?_alloc_new _ _ _ _) (hI.below hB0)).mono ?_
  rintro e w2 ⟨v, rfl, hown, hb⟩
  go_wp2
  go_ret
  exact ⟨v, rfl, owns_lower hown (by simp), hB0.trans (hb.mono (by simp))⟩

end Go.Proofs.Ytiodofijcghpaaa
