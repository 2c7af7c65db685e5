/- Texts of ours in one: Base, Box. -/
import Derived.WalkKit
import Derived.WalkSpells
import Derived.Deep.Draws
set_option linter.unusedVariables false
set_option linter.unusedSimpArgs false

namespace Go.Proofs.YtejljnlfgiifoaaGreatDoor
open Go.RowKit
theorem hid {p : Prop} (h : p) : Hid p := h
theorem ret_int {k : IntKind} {a b : Int} (h : a = b) : Ending.returned (.int k a) = .returned (.int k b) := by rw [h]
structure Kept (X : Nat → Prop) (w w' : World) : Prop where
 os : w'.os = w.os
 tape : w'.tape = w.tape
 output : w'.output = w.output
 size : w.heap.size ≤ w'.heap.size
 block : ∀ k, k < w.heap.size → ¬ X k → w'.heap[k]? = w.heap[k]?
theorem Kept.refl (X : Nat → Prop) (w : World) : Kept X w w := ⟨rfl, rfl, rfl, Nat.le_refl _, fun _ _ _ => rfl⟩
theorem Kept.trans {X : Nat → Prop} {a b c : World} (h : Kept X a b) (k : Kept X b c) : Kept X a c :=
 ⟨k.os.trans h.os, k.tape.trans h.tape, k.output.trans h.output, Nat.le_trans h.size k.size, fun i hi hx => (k.block i (Nat.lt_of_lt_of_le hi h.size) hx).trans (h.block i hi hx)⟩
theorem Kept.mono {X Y : Nat → Prop} {w w' : World} (h : Kept X w w') (hx : ∀ k, k < w.heap.size → X k → Y k) : Kept Y w w' :=
 ⟨h.os, h.tape, h.output, h.size, fun k hk hy => h.block k hk (fun x => hy (hx k hk x))⟩
theorem Kept.then {X Y : Nat → Prop} {a b c : World} (h : Kept X a b) (k : Kept Y b c) (hx : ∀ i, i < a.heap.size → Y i → X i) : Kept X a c :=
 ⟨k.os.trans h.os, k.tape.trans h.tape, k.output.trans h.output, Nat.le_trans h.size k.size, fun i hi hn => (k.block i (Nat.lt_of_lt_of_le hi h.size) (fun y => hn (hx i hi y))).trans (h.block i hi hn)⟩
theorem Kept.drew {X : Nat → Prop} {a w : World} (h : Kept X a w) : Kept X a w.drew := ⟨h.os, h.tape, h.output, h.size, h.block⟩
theorem Kept.alloc {X : Nat → Prop} {a w : World} (h : Kept X a w) (o : Obj) : Kept X a (w.alloc o) :=
 h.trans ⟨rfl, rfl, rfl, by simp, fun k hk _ => Below.heap_alloc _ _ _ (by omega)⟩
theorem Kept.setCell {X : Nat → Prop} {a w : World} (h : Kept X a w) {p : Addr} (hp : p.block < a.heap.size → X p.block) (u : Value) : Kept X a (w.setCell p u) :=
 h.then (Y := fun k => k = p.block) ⟨rfl, rfl, rfl, by simp [World.setCell], fun k _ hx => Below.heap_setCell _ _ _ _ hx⟩ (fun i hi e => by cases e; exact hp hi)
theorem Kept.of_below {w w' : World} (h : Below w.heap.size w w') (X : Nat → Prop) : Kept X w w' :=
 ⟨h.os, h.tape, h.output, h.size, fun k hk _ => h.block k hk⟩
theorem Kept.below {X : Nat → Prop} {w w' : World} (h : Kept X w w') (B : Nat) (hB : B ≤ w.heap.size) (hx : ∀ k, k < B → ¬ X k) : Below B w w' :=
 ⟨h.os, h.tape, h.output, h.size, fun k hk => h.block k (by omega) (hx k hk)⟩
theorem Kept.cell {X : Nat → Prop} {w w' : World} (h : Kept X w w') {p : Addr} (hp : p.block < w.heap.size) (hx : ¬ X p.block) : w'.cell? p = w.cell? p := World.cell?_of_block (w := w) (h.block p.block hp hx)
theorem Kept.grown {X : Nat → Prop} {a w w' : World} {row : Option Nat} (h : Kept X a w) (hg : w.grownBy w' row) (hr : ∀ k, row = some k → k < a.heap.size → X k) : Kept X a w' :=
 h.then (Y := fun k => row = some k) ⟨hg.os, hg.tape, hg.output, hg.size, fun k hk hx => hg.block k hk (fun e => hx e.symm)⟩ (fun i hi e => hr i e hi)
theorem below_drewN' {B : Nat} {a w : World} (h : Below B a w) (n : Nat) : Below B a (w.drewN n) := ⟨h.os, h.tape, h.output, h.size, h.block⟩
theorem Kept.drewN {X : Nat → Prop} {a w : World} (h : Kept X a w) (n : Nat) : Kept X a (w.drewN n) := ⟨h.os, h.tape, h.output, h.size, h.block⟩
theorem kept_set (w : World) (p : Addr) (u : Value) : Kept (fun k => k = p.block) w (w.setCell p u) := (Kept.refl (fun k => k = p.block) w).setCell (p := p) (fun _ => rfl) u
def Die (w : World) (b : Nat) (s : Int) : Prop := 0 ≤ s ∧ ∃ T, w.heap[b]? = some (.cells #[.int .u64 s] T (0, 0))
theorem Die.cell {w : World} {b : Nat} {s : Int} (h : Die w b s) : w.cell? ⟨b, 0, none⟩ = some (.int .u64 s) := by obtain ⟨_, T, h⟩ := h; exact cell_of_one h
theorem Die.free {w : World} {b : Nat} {s : Int} (h : Die w b s) : w.frozen? ⟨b, 0, none⟩ = false := by obtain ⟨_, T, h⟩ := h; exact free_of_one h
theorem Die.lt {w : World} {b : Nat} {s : Int} (h : Die w b s) : b < w.heap.size := by obtain ⟨_, T, h⟩ := h; exact lt_of_block h
theorem Die.set {w : World} {b : Nat} {s u : Int} (h : Die w b s) (hu : 0 ≤ u) : Die (w.setCell ⟨b, 0, none⟩ (.int .u64 u)) b u := by obtain ⟨_, T, h⟩ := h; exact ⟨hu, T, one_setCell h⟩
theorem Die.new (w : World) (s : Int) (T : TypeId) (h : 0 ≤ s) : Die (w.alloc (.cells #[.int .u64 s] T)) w.heap.size s := ⟨h, T, heap_alloc_new w _⟩
theorem Die.kept {X : Nat → Prop} {w w' : World} {b : Nat} {s : Int} (h : Die w b s) (k : Kept X w w') (hx : ¬ X b) : Die w' b s := by
 have := h.lt
 obtain ⟨hs, T, h⟩ := h
 exact ⟨hs, T, by rw [k.block b this hx]; exact h⟩
theorem Die.below {w w' : World} {b : Nat} {s : Int} (h : Die w b s) (k : Below w.heap.size w w') : Die w' b s :=
 h.kept (Kept.of_below k (fun _ => False)) (fun x => x)
theorem Die.other {w : World} {b : Nat} {s : Int} (h : Die w b s) (p : Addr) (u : Value) (hp : b ≠ p.block) : Die (w.setCell p u) b s := h.kept (kept_set w p u) hp
theorem Die.drew {w : World} {b : Nat} {s : Int} (h : Die w b s) : Die w.drew b s := h
def cellsOf {α : Type} (enc : α → Value) (l : List α) : Array Value := (l.map enc).toArray
theorem cellsOf_size {α : Type} (enc : α → Value) (l : List α) : (cellsOf enc l).size = l.length := by simp [cellsOf]
theorem cellsOf_get {α : Type} (enc : α → Value) (l : List α) (j : Nat) (h : j < l.length) : (cellsOf enc l)[j]? = some (enc l[j]) := by simp [cellsOf, h]
theorem cellsOf_set {α : Type} (enc : α → Value) (l : List α) (j : Nat) (x : α) : (cellsOf enc l).setIfInBounds j (enc x) = cellsOf enc (l.set j x) := by
 simp [cellsOf, List.map_set]
theorem madeCells_one (z : Value) (n : Nat) : madeCells #[z] n = Array.replicate n z := by
 apply Array.ext
 ·simp [madeCells]
 ·intro i h1 h2; simp [madeCells, Nat.mod_one]
theorem madeCells_of {α : Type} (enc : α → Value) (z : α) (n : Nat) : madeCells #[enc z] n = cellsOf enc (List.replicate n z) := by
 rw [madeCells_one]; simp [cellsOf]
def Blk {α : Type} (enc : α → Value) (w : World) (b : Nat) (l : List α) : Prop := ∃ T, w.heap[b]? = some (.cells (cellsOf enc l) T (0, 0))
theorem Blk.lt {α : Type} {enc : α → Value} {w : World} {b : Nat} {l : List α} (h : Blk enc w b l) : b < w.heap.size := by obtain ⟨T, h⟩ := h; exact lt_of_block h
theorem Blk.cell {α : Type} {enc : α → Value} {w : World} {b : Nat} {l : List α} (h : Blk enc w b l) (j : Nat) (hj : j < l.length) : w.cell? ⟨b, j, none⟩ = some (enc l[j]) := by
 obtain ⟨T, h⟩ := h
 rw [cell_of_row w b j _ T (0, 0) h, cellsOf_get enc l j hj]
theorem Blk.free {α : Type} {enc : α → Value} {w : World} {b : Nat} {l : List α} (h : Blk enc w b l) (j : Nat) : w.frozen? ⟨b, j, none⟩ = false := by
 obtain ⟨T, h⟩ := h
 simp [World.frozen?, h]
theorem Blk.set {α : Type} {enc : α → Value} {w : World} {b : Nat} {l : List α} (h : Blk enc w b l) (j : Nat) (x : α) : Blk enc (w.setCell ⟨b, j, none⟩ (enc x)) b (l.set j x) := by
 have hlt := h.lt
 obtain ⟨T, h⟩ := h
 refine ⟨T, ?_⟩
 have h' : w.heap[b] = .cells (cellsOf enc l) T (0, 0) := by simpa [Array.getElem?_eq_getElem hlt] using h
 show (w.heap.modify b _)[b]? = _
 rw [Array.getElem?_modify, if_pos rfl, h]
 simp [cellsOf_set]
theorem Blk.kept {α : Type} {enc : α → Value} {X : Nat → Prop} {w w' : World} {b : Nat} {l : List α} (h : Blk enc w b l) (k : Kept X w w') (hx : ¬ X b) : Blk enc w' b l := by
 have := h.lt
 obtain ⟨T, h⟩ := h
 exact ⟨T, by rw [k.block b this hx]; exact h⟩
theorem Blk.below {α : Type} {enc : α → Value} {w w' : World} {b : Nat} {l : List α} (h : Blk enc w b l) (k : Below w.heap.size w w') : Blk enc w' b l :=
 h.kept (Kept.of_below k (fun _ => False)) (fun x => x)
theorem Blk.new {α : Type} (enc : α → Value) (w : World) (l : List α) (T : TypeId) : Blk enc (w.alloc (.cells (cellsOf enc l) T)) w.heap.size l := ⟨T, heap_alloc_new w _⟩
theorem Blk.other {α : Type} {enc : α → Value} {w : World} {b : Nat} {l : List α} (h : Blk enc w b l) (p : Addr) (u : Value) (hp : b ≠ p.block) : Blk enc (w.setCell p u) b l := h.kept (kept_set w p u) hp
theorem Blk.drew {α : Type} {enc : α → Value} {w : World} {b : Nat} {l : List α} (h : Blk enc w b l) : Blk enc w.drew b l := h
theorem Blk.has {α : Type} {enc : α → Value} {w : World} {b : Nat} {l : List α} (h : Blk enc w b l) (j : Nat) (hj : j < l.length) : ∃ v, w.cell? ⟨b, j, none⟩ = some v := ⟨_, h.cell j hj⟩
def BlkT {α : Type} (enc : α → Value) (T : TypeId) (w : World) (b : Nat) (l : List α) : Prop := w.heap[b]? = some (.cells (cellsOf enc l) T (0, 0))
theorem BlkT.blk {α : Type} {enc : α → Value} {T : TypeId} {w : World} {b : Nat} {l : List α} (h : BlkT enc T w b l) : Blk enc w b l := ⟨T, h⟩
theorem BlkT.lt {α : Type} {enc : α → Value} {T : TypeId} {w : World} {b : Nat} {l : List α} (h : BlkT enc T w b l) : b < w.heap.size := h.blk.lt
theorem BlkT.cell {α : Type} {enc : α → Value} {T : TypeId} {w : World} {b : Nat} {l : List α} (h : BlkT enc T w b l) (j : Nat) (hj : j < l.length) : w.cell? ⟨b, j, none⟩ = some (enc l[j]) := h.blk.cell j hj
theorem BlkT.free {α : Type} {enc : α → Value} {T : TypeId} {w : World} {b : Nat} {l : List α} (h : BlkT enc T w b l) (j : Nat) : w.frozen? ⟨b, j, none⟩ = false := h.blk.free j
theorem BlkT.has {α : Type} {enc : α → Value} {T : TypeId} {w : World} {b : Nat} {l : List α} (h : BlkT enc T w b l) (j : Nat) (hj : j < l.length) : ∃ v, w.cell? ⟨b, j, none⟩ = some v := h.blk.has j hj
theorem BlkT.set {α : Type} {enc : α → Value} {T : TypeId} {w : World} {b : Nat} {l : List α} (h : BlkT enc T w b l) (j : Nat) (x : α) : BlkT enc T (w.setCell ⟨b, j, none⟩ (enc x)) b (l.set j x) := by
 unfold BlkT at *
 show (w.heap.modify b _)[b]? = _
 rw [Array.getElem?_modify, if_pos rfl, h]
 simp [cellsOf_set]
theorem BlkT.below {α : Type} {enc : α → Value} {T : TypeId} {w w' : World} {b : Nat} {l : List α} (h : BlkT enc T w b l) (k : Below w.heap.size w w') : BlkT enc T w' b l := by unfold BlkT; rw [k.block b h.lt]; exact h
theorem BlkT.new {α : Type} (enc : α → Value) (w : World) (l : List α) (T : TypeId) : BlkT enc T (w.alloc (.cells (cellsOf enc l) T)) w.heap.size l := heap_alloc_new w _
abbrev i64 : Int → Value := Value.int .i64
abbrev u64 : Int → Value := Value.int .u64
def Sl {α : Type} (enc : α → Value) (w : World) (v : Value) (l : List α) : Prop :=
 (l = [] ∧ ∃ a cap, v = .slice a 0 cap) ∨
 ∃ b off cap, v = .slice (some ⟨b, off, none⟩) l.length cap ∧ b < w.heap.size ∧ ∀ j (h : j < l.length), w.cell? ⟨b, off + j, none⟩ = some (enc l[j])
theorem Sl.kept {α : Type} {enc : α → Value} {X : Nat → Prop} {w w' : World} {v : Value} {l : List α} (h : Sl enc w v l) (k : Kept X w w') (hx : ∀ b off len cap, v = .slice (some ⟨b, off, none⟩) len cap → ¬ X b) : Sl enc w' v l := by
 rcases h with h | ⟨b, off, cap, hv, hb, hc⟩
 ·exact .inl h
 ·exact .inr ⟨b, off, cap, hv, Nat.lt_of_lt_of_le hb k.size, fun j hj => by rw [k.cell hb (hx _ _ _ _ hv)]; exact hc j hj⟩
theorem Sl.below {α : Type} {enc : α → Value} {w w' : World} {v : Value} {l : List α} (h : Sl enc w v l) (k : Below w.heap.size w w') : Sl enc w' v l :=
 h.kept (Kept.of_below k (fun _ => False)) (fun _ _ _ _ _ x => x)
theorem Blk.sl {α : Type} {enc : α → Value} {w : World} {b : Nat} {l : List α} (h : Blk enc w b l) (cap : Nat) : Sl enc w (.slice (some ⟨b, 0, none⟩) l.length cap) l :=
 .inr ⟨b, 0, cap, rfl, h.lt, fun j hj => by rw [Nat.zero_add]; exact h.cell j hj⟩
theorem Sl.len {α : Type} {enc : α → Value} {w : World} {v : Value} {l : List α} (h : Sl enc w v l) : ∃ a cap, v = .slice a l.length cap := by
 rcases h with ⟨rfl, a, cap, rfl⟩ | ⟨b, off, cap, rfl, _⟩
 ·exact ⟨_, _, rfl⟩
 ·exact ⟨_, _, rfl⟩
theorem Sl.at {α : Type} {enc : α → Value} {w : World} {a : Option Addr} {n cap : Nat} {l : List α} (h : Sl enc w (.slice a n cap) l) (j : Nat) (hj : j < l.length) :
  ∃ b off, a = some ⟨b, off, none⟩ ∧ b < w.heap.size ∧ w.cell? ⟨b, off + j, none⟩ = some (enc l[j]) := by
 rcases h with ⟨rfl, _⟩ | ⟨b, off, cap', hv, hb, hc⟩
 ·exact absurd hj (Nat.not_lt_zero _)
 ·cases hv; exact ⟨b, off, rfl, hb, hc j hj⟩
theorem Sl.low {α : Type} {enc : α → Value} {w : World} {v : Value} {l : List α} (h : Sl enc w v l) : ∀ b off len cap, v = .slice (some ⟨b, off, none⟩) len cap → l ≠ [] → b < w.heap.size := by
 intro b off len cap hv hl
 rcases h with ⟨rfl, _⟩ | ⟨b', off', cap', hv', hb, _⟩
 ·exact absurd rfl hl
 ·rw [hv'] at hv; cases hv; exact hb
theorem app1 {P : Program} {w0 : World} {ops : Array Oper} {rest : List Oper} {o : Oper} {a : Act} {Q : Exit → Act → World → Prop} (hgd : o.guard = none) (s x : Operand) (t : TypeId)
  (ho : o.op = .call { callee := .builtin .append, args := #[s, x], argTypes := #[t, t] })
  (base : Nat) (e : TypeId) (z : Value) (bytes : Nat) (hinfo : (P.info? e).map (fun i => (i.zero, i.size, i.bytes)) = some (some z, 1, bytes)) (ht : P.underlying t = some (.slice e)) (hzs : z.cells.size = 1)
  (v : Value) (n : Nat) (xs : List Value) (hs : a.eval s = v) (hown : w0.ownsRow base e 1 v n xs)
  (y : Value) (hx : a.eval x = .slice (some ⟨w0.heap.size, 0, none⟩) 1 1) (hy : y.oneCell' = true)
  (hb : (n + 1) * bytes ≤ 140737488355328) (h63 : n < 140737488355328) (hbase : base ≤ w0.heap.size)
  (h : ∀ g cap w', w'.ownsRow base e 1 (.slice (some ⟨g, 0, none⟩) (n + 1) cap) (n + 1) (xs ++ [y]) → Kept (fun k => v.ownBlock = some k) w0 w' → wpList P ops Q rest (a.put o.dst (.slice (some ⟨g, 0, none⟩) (n + 1) cap)) w') :
  wpList P ops Q (o :: rest) a (w0.alloc (.cells #[y] e)) := by
 obtain ⟨i0, hi, hz0, hz1, hz2⟩ := info_parts hinfo
 refine wpList_append_own _ hgd s x t ho base e i0 z 1 bytes ht hi hz0 hz1 hz2 hzs (by decide) v n xs hs (hown.alloc _) ⟨w0.heap.size, 0, none⟩ 1 1 [y] hx rfl (cell_one_new _ _ _) (by simpa using hy) (by unfold maxLen; omega) hb (by simp; omega) ?_
 intro v' w1 hown' hg _
 rcases hown'.2 with ⟨_, h0⟩ | ⟨g, cap, cur, rfl, _⟩
 ·omega
 ·exact h g cap w1 hown' (((Kept.refl _ w0).alloc _).grown hg (fun k e _ => e))
def Box (w : World) (B : Nat) (cs : Array Value) (T : TypeId) : Prop := w.heap[B]? = some (.cells cs T (0, 0))
theorem Box.at {w : World} {B : Nat} {cs : Array Value} {T : TypeId} (h : Box w B cs T) (j : Nat) {v : Value} (hv : cs[j]? = some v) : w.cell? ⟨B, j, none⟩ = some v := by
 rw [cell_of_row w B j cs T (0, 0) h, hv]
theorem Box.free {w : World} {B : Nat} {cs : Array Value} {T : TypeId} (h : Box w B cs T) (j : Nat) : w.frozen? ⟨B, j, none⟩ = false := by
 unfold Box at h; simp [World.frozen?, h]
theorem Box.lt {w : World} {B : Nat} {cs : Array Value} {T : TypeId} (h : Box w B cs T) : B < w.heap.size := lt_of_block h
theorem Box.below {w w' : World} {B K : Nat} {cs : Array Value} {T : TypeId} (h : Box w B cs T) (k : Below K w w') (hB : B < K) : Box w' B cs T := (k.block B hB).trans h
theorem Box.keep {w w' : World} {B : Nat} {cs : Array Value} {T : TypeId} (h : Box w B cs T) (k : Below w.heap.size w w') : Box w' B cs T := (k.block B h.lt).trans h
theorem Box.new (w : World) (cs : Array Value) (T : TypeId) : Box (w.alloc (.cells cs T)) w.heap.size cs T := heap_alloc_new w _
theorem Box.alloc {w : World} {B : Nat} {cs : Array Value} {T : TypeId} (h : Box w B cs T) (o : Obj) : Box (w.alloc o) B cs T := (Below.heap_alloc _ _ _ h.lt).trans h
theorem Box.set {w : World} {B : Nat} {cs : Array Value} {T : TypeId} (h : Box w B cs T) (j : Nat) (u : Value) : Box (w.setCell ⟨B, j, none⟩ u) B (cs.setIfInBounds j u) T := by
 have hlt := h.lt
 unfold Box at h ⊢
 show (w.heap.modify B _)[B]? = _
 rw [Array.getElem?_modify, if_pos rfl, h]
 simp
end Go.Proofs.YtejljnlfgiifoaaGreatDoor
