/- append of one element, with where the result lies; slices of slices. -/
import Derived.Test.YtiodofijcghpaaaBase
import Derived.Maps.AppendAt
namespace Go.Proofs.Ytiodofijcghpaaa
open Go.RowKit

theorem app1at {P : Program} {w0 : World} {ops : Array Oper} {rest : List Oper} {o : Oper} {a : Act} {Q : Exit → Act → World → Prop} (hgd : o.guard = none) (s x : Operand) (t : TypeId)
    (ho : o.op = .call { callee := .builtin .append, args := #[s, x], argTypes := #[t, t] })
    (base : Nat) (e : TypeId) (z : Value) (bytes : Nat) (hinfo : (P.info? e).map (fun i => (i.zero, i.size, i.bytes)) = some (some z, 1, bytes)) (ht : P.underlying t = some (.slice e)) (hzs : z.cells.size = 1)
    (v : Value) (n : Nat) (xs : List Value) (hs : a.eval s = v) (hown : w0.ownsRow base e 1 v n xs)
    (y : Value) (hx : a.eval x = .slice (some ⟨w0.heap.size, 0, none⟩) 1 1) (hy : y.oneCell' = true)
    (hb : (n + 1) * bytes ≤ 140737488355328) (h63 : n < 140737488355328) (hbase : base ≤ w0.heap.size)
    (h : ∀ g cap w', w'.ownsRow base e 1 (.slice (some ⟨g, 0, none⟩) (n + 1) cap) (n + 1) (xs ++ [y]) → Kept (fun k => v.ownBlock = some k) w0 w' → (v.ownBlock = some g ∨ w0.heap.size < g) → wpList P ops Q rest (a.put o.dst (.slice (some ⟨g, 0, none⟩) (n + 1) cap)) w') :
    wpList P ops Q (o :: rest) a (w0.alloc (.cells #[y] e)) := by
  obtain ⟨i0, hi, hz0, hz1, hz2⟩ := info_parts hinfo
  refine wpList_append_own_at _ hgd s x t ho base e i0 z 1 bytes ht hi hz0 hz1 hz2 hzs (by decide) v n xs hs (hown.alloc _) ⟨w0.heap.size, 0, none⟩ 1 1 [y] hx rfl (cell_one_new _ _ _) (by simpa using hy) (by unfold maxLen; omega) hb (by simp; omega) ?_
  intro v' w1 hown' hg _ hat
  rcases hown'.2 with ⟨_, h0⟩ | ⟨g, cap, cur, rfl, _⟩
  · omega
  · refine h g cap w1 hown' (((Kept.refl _ w0).alloc _).grown hg (fun k e _ => e)) ?_
    rcases hat with hat | hat
    · left; rw [← hat]; rfl
    · right; simp [Value.ownBlock] at hat; omega

/-- a table of values -/
def tab (k : Nat) (V : Nat → Value) : List Value := (List.range k).map V
theorem tab_length (k : Nat) (V : Nat → Value) : (tab k V).length = k := by simp [tab]
def upd (V : Nat → Value) (r : Nat) (v : Value) : Nat → Value := fun i => if i = r then v else V i
theorem tab_set (k : Nat) (V : Nat → Value) (r : Nat) (v : Value) : (tab k V).set r v = tab k (upd V r v) := by
  apply List.ext_getElem
  · simp [tab]
  · intro i h1 h2
    simp [tab, List.getElem_set, upd, eq_comm]
theorem tab_get (k : Nat) (V : Nat → Value) (i : Nat) (h : i < (tab k V).length) : (tab k V)[i] = V i := by simp [tab]
theorem Blk.tab_cell {w : World} {B k : Nat} {V : Nat → Value} (h : Blk id w B (tab k V)) (i : Nat) (hi : i < k) : w.cell? ⟨B, i, none⟩ = some (V i) := by
  have := h.cell i (by rw [tab_length]; exact hi)
  rw [tab_get] at this; exact this
theorem Blk.tab_set {w : World} {B k : Nat} {V : Nat → Value} (h : Blk id w B (tab k V)) (r : Nat) (v : Value) : Blk id (w.setCell ⟨B, r, none⟩ v) B (tab k (upd V r v)) := by
  have := h.set r v
  rw [Go.Proofs.Ytiodofijcghpaaa.tab_set] at this; exact this

/-- k slices of ints, each with a block of its own. -/
structure Owned (w : World) (base : Nat) (T : TypeId) (k : Nat) (V : Nat → Value) (P : Nat → List Int) : Prop where
  row : ∀ i, i < k → w.ownsRow base T 1 (V i) (P i).length ((P i).map i64)
  apart : ∀ i j, i < k → j < k → i ≠ j → ∀ b, (V i).ownBlock = some b → (V j).ownBlock ≠ some b
theorem Owned.kept {w w' : World} {base : Nat} {T : TypeId} {k : Nat} {V : Nat → Value} {P : Nat → List Int} {X : Nat → Prop} (h : Owned w base T k V P) (kk : Kept X w w') (hx : ∀ i, i < k → ∀ b, (V i).ownBlock = some b → ¬ X b) : Owned w' base T k V P := by
  refine ⟨fun i hi => ?_, h.apart⟩
  have hr := h.row i hi
  refine ⟨hr.1, ?_⟩
  rcases hr.2 with hn | ⟨g, cap, cur, hv, hb, hh, r⟩
  · exact .inl hn
  · exact .inr ⟨g, cap, cur, hv, hb, by rw [kk.block g (lt_of_block hh) (hx i hi g (by rw [hv]; rfl))]; exact hh, r⟩
theorem Owned.lt {w : World} {base : Nat} {T : TypeId} {k : Nat} {V : Nat → Value} {P : Nat → List Int} (h : Owned w base T k V P) (i : Nat) (hi : i < k) (b : Nat) (hb : (V i).ownBlock = some b) : base ≤ b ∧ b < w.heap.size := (h.row i hi).lt b hb
/-- one of them has grown -/
theorem Owned.grown {w w' : World} {base : Nat} {T : TypeId} {k : Nat} {V : Nat → Value} {P : Nat → List Int} (h : Owned w base T k V P) (r : Nat) (hr : r < k) (v : Value) (x : List Int) (g : Nat)
    (hown : w'.ownsRow base T 1 v x.length (x.map i64)) (hv : v.ownBlock = some g) (kk : Kept (fun b => (V r).ownBlock = some b) w w') (hg : (V r).ownBlock = some g ∨ w.heap.size < g) : Owned w' base T k (upd V r v) (fun i => if i = r then x else P i) := by
  refine ⟨fun i hi => ?_, fun i j hi hj hij b hb => ?_⟩
  · by_cases e : i = r
    · subst e; simpa [upd] using hown
    · simp only [upd, if_neg e]
      have hri := h.row i hi
      refine ⟨hri.1, ?_⟩
      rcases hri.2 with hn | ⟨g', cap, cur, hv', hb, hh, rr⟩
      · exact .inl hn
      · exact .inr ⟨g', cap, cur, hv', hb, by rw [kk.block g' (lt_of_block hh) (fun e' => h.apart i r hi hr e g' (by rw [hv']; rfl) e')]; exact hh, rr⟩
  · unfold upd at hb ⊢
    by_cases e : i = r
    · rw [if_pos e, hv] at hb
      cases hb
      rw [if_neg (by omega)]
      intro e'
      rcases hg with hg | hg
      · exact h.apart j r hj hr (by omega) g e' hg
      · have := h.lt j hj g e'; omega
    · rw [if_neg e] at hb
      by_cases e2 : j = r
      · rw [if_pos e2, hv]
        intro e'
        cases e'
        rcases hg with hg | hg
        · exact h.apart i r hi hr e g hb hg
        · have := h.lt i hi g hb; omega
      · rw [if_neg e2]; exact h.apart i j hi hj hij b hb

/-- A slice of slices of ints. -/
def Sl2 (w : World) (v : Value) (ll : List (List Int)) : Prop := ∃ V : Nat → Value, Sl id w v (tab ll.length V) ∧ ∀ i (h : i < ll.length), Sl i64 w (V i) ll[i]

/-- A slice of slices of ints, all of it in blocks from base on. -/
def Sl2b (base : Nat) (w : World) (v : Value) (ll : List (List Int)) : Prop := ∃ V : Nat → Value, Sl id w v (tab ll.length V) ∧ (∀ b off len cap, v = .slice (some ⟨b, off, none⟩) len cap → base ≤ b) ∧
  ∀ i (h : i < ll.length), Sl i64 w (V i) ll[i] ∧ ∀ b off len cap, V i = .slice (some ⟨b, off, none⟩) len cap → base ≤ b
theorem Sl2b.sl2 {base : Nat} {w : World} {v : Value} {ll : List (List Int)} (h : Sl2b base w v ll) : Sl2 w v ll := by
  obtain ⟨V, h1, _, h2⟩ := h
  exact ⟨V, h1, fun i hi => (h2 i hi).1⟩
theorem Sl2b.kept {base : Nat} {w w' : World} {v : Value} {ll : List (List Int)} {X : Nat → Prop} (h : Sl2b base w v ll) (k : Kept X w w') (hx : ∀ b, base ≤ b → ¬ X b) : Sl2b base w' v ll := by
  obtain ⟨V, h1, h0, h2⟩ := h
  exact ⟨V, h1.kept k (fun b off len cap e => hx b (h0 b off len cap e)), h0, fun i hi => ⟨(h2 i hi).1.kept k (fun b off len cap e => hx b ((h2 i hi).2 b off len cap e)), (h2 i hi).2⟩⟩
theorem Sl2b.below {base : Nat} {w w' : World} {v : Value} {ll : List (List Int)} (h : Sl2b base w v ll) (k : Below w.heap.size w w') : Sl2b base w' v ll := h.kept (Kept.of_below k (fun _ => False)) (fun _ _ x => x)
theorem Sl2b.lower {base base' : Nat} {w : World} {v : Value} {ll : List (List Int)} (h : Sl2b base w v ll) (hb : base' ≤ base) : Sl2b base' w v ll := by
  obtain ⟨V, h1, h0, h2⟩ := h
  exact ⟨V, h1, fun b off len cap e => Nat.le_trans hb (h0 b off len cap e), fun i hi => ⟨(h2 i hi).1, fun b off len cap e => Nat.le_trans hb ((h2 i hi).2 b off len cap e)⟩⟩

end Go.Proofs.Ytiodofijcghpaaa
