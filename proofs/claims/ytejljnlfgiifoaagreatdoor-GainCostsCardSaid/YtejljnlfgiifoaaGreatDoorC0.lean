/- Texts of ours in one: Base, Box, Region. -/
import Derived.WalkKit
import Derived.WalkSpells
import Derived.Deep.Draws
import Derived.StillTail
set_option linter.unusedVariables false
set_option linter.unusedSimpArgs false

namespace Go.Proofs.YtejljnlfgiifoaaGreatDoor
open Go.RowKit
theorem hid {p : Prop} (h : p) : Hid p := h
theorem ret_int {k : IntKind} {a b : Int} (h : a = b) : Ending.returned (.int k a) = .returned (.int k b) := by rw [h]
structure Kept (X : Nat → Prop) (w w' : World) : Prop where
 os : w'.os = w.os
 tape : w'.tape = w.tape
 output : w'.output = w.output
 size : w.heap.size ≤ w'.heap.size
 block : ∀ k, k < w.heap.size → ¬ X k → w'.heap[k]? = w.heap[k]?
theorem Kept.refl (X : Nat → Prop) (w : World) : Kept X w w := ⟨rfl, rfl, rfl, Nat.le_refl _, fun _ _ _ => rfl⟩
theorem Kept.trans {X : Nat → Prop} {a b c : World} (h : Kept X a b) (k : Kept X b c) : Kept X a c :=
 ⟨k.os.trans h.os, k.tape.trans h.tape, k.output.trans h.output, Nat.le_trans h.size k.size, fun i hi hx => (k.block i (Nat.lt_of_lt_of_le hi h.size) hx).trans (h.block i hi hx)⟩
theorem Kept.then {X Y : Nat → Prop} {a b c : World} (h : Kept X a b) (k : Kept Y b c) (hx : ∀ i, i < a.heap.size → Y i → X i) : Kept X a c :=
 ⟨k.os.trans h.os, k.tape.trans h.tape, k.output.trans h.output, Nat.le_trans h.size k.size, fun i hi hn => (k.block i (Nat.lt_of_lt_of_le hi h.size) (fun y => hn (hx i hi y))).trans (h.block i hi hn)⟩
theorem Kept.drew {X : Nat → Prop} {a w : World} (h : Kept X a w) : Kept X a w.drew := ⟨h.os, h.tape, h.output, h.size, h.block⟩
theorem Kept.alloc {X : Nat → Prop} {a w : World} (h : Kept X a w) (o : Obj) : Kept X a (w.alloc o) :=
 h.trans ⟨rfl, rfl, rfl, by simp, fun k hk _ => Below.heap_alloc _ _ _ (by omega)⟩
theorem Kept.setCell {X : Nat → Prop} {a w : World} (h : Kept X a w) {p : Addr} (hp : p.block < a.heap.size → X p.block) (u : Value) : Kept X a (w.setCell p u) :=
 h.then (Y := fun k => k = p.block) ⟨rfl, rfl, rfl, by simp [World.setCell], fun k _ hx => Below.heap_setCell _ _ _ _ hx⟩ (fun i hi e => by cases e; exact hp hi)
theorem Kept.of_below {w w' : World} (h : Below w.heap.size w w') (X : Nat → Prop) : Kept X w w' :=
 ⟨h.os, h.tape, h.output, h.size, fun k hk _ => h.block k hk⟩
theorem Kept.below {X : Nat → Prop} {w w' : World} (h : Kept X w w') (B : Nat) (hB : B ≤ w.heap.size) (hx : ∀ k, k < B → ¬ X k) : Below B w w' :=
 ⟨h.os, h.tape, h.output, h.size, fun k hk => h.block k (by omega) (hx k hk)⟩
theorem Kept.cell {X : Nat → Prop} {w w' : World} (h : Kept X w w') {p : Addr} (hp : p.block < w.heap.size) (hx : ¬ X p.block) : w'.cell? p = w.cell? p := World.cell?_of_block (w := w) (h.block p.block hp hx)
theorem Kept.grown {X : Nat → Prop} {a w w' : World} {row : Option Nat} (h : Kept X a w) (hg : w.grownBy w' row) (hr : ∀ k, row = some k → k < a.heap.size → X k) : Kept X a w' :=
 h.then (Y := fun k => row = some k) ⟨hg.os, hg.tape, hg.output, hg.size, fun k hk hx => hg.block k hk (fun e => hx e.symm)⟩ (fun i hi e => hr i e hi)
theorem below_drewN' {B : Nat} {a w : World} (h : Below B a w) (n : Nat) : Below B a (w.drewN n) := ⟨h.os, h.tape, h.output, h.size, h.block⟩
theorem kept_set (w : World) (p : Addr) (u : Value) : Kept (fun k => k = p.block) w (w.setCell p u) := (Kept.refl (fun k => k = p.block) w).setCell (p := p) (fun _ => rfl) u
def Die (w : World) (b : Nat) (s : Int) : Prop := 0 ≤ s ∧ ∃ T, w.heap[b]? = some (.cells #[.int .u64 s] T (0, 0))
theorem Die.free {w : World} {b : Nat} {s : Int} (h : Die w b s) : w.frozen? ⟨b, 0, none⟩ = false := by obtain ⟨_, T, h⟩ := h; exact free_of_one h
theorem Die.set {w : World} {b : Nat} {s u : Int} (h : Die w b s) (hu : 0 ≤ u) : Die (w.setCell ⟨b, 0, none⟩ (.int .u64 u)) b u := by obtain ⟨_, T, h⟩ := h; exact ⟨hu, T, one_setCell h⟩
def cellsOf {α : Type} (enc : α → Value) (l : List α) : Array Value := (l.map enc).toArray
theorem cellsOf_size {α : Type} (enc : α → Value) (l : List α) : (cellsOf enc l).size = l.length := by simp [cellsOf]
theorem cellsOf_get {α : Type} (enc : α → Value) (l : List α) (j : Nat) (h : j < l.length) : (cellsOf enc l)[j]? = some (enc l[j]) := by simp [cellsOf, h]
theorem cellsOf_set {α : Type} (enc : α → Value) (l : List α) (j : Nat) (x : α) : (cellsOf enc l).setIfInBounds j (enc x) = cellsOf enc (l.set j x) := by
 simp [cellsOf, List.map_set]
theorem madeCells_one (z : Value) (n : Nat) : madeCells #[z] n = Array.replicate n z := by
 apply Array.ext
 ·simp [madeCells]
 ·intro i h1 h2; simp [madeCells, Nat.mod_one]
theorem madeCells_of {α : Type} (enc : α → Value) (z : α) (n : Nat) : madeCells #[enc z] n = cellsOf enc (List.replicate n z) := by
 rw [madeCells_one]; simp [cellsOf]
def Blk {α : Type} (enc : α → Value) (w : World) (b : Nat) (l : List α) : Prop := ∃ T, w.heap[b]? = some (.cells (cellsOf enc l) T (0, 0))
theorem Blk.lt {α : Type} {enc : α → Value} {w : World} {b : Nat} {l : List α} (h : Blk enc w b l) : b < w.heap.size := by obtain ⟨T, h⟩ := h; exact lt_of_block h
theorem Blk.cell {α : Type} {enc : α → Value} {w : World} {b : Nat} {l : List α} (h : Blk enc w b l) (j : Nat) (hj : j < l.length) : w.cell? ⟨b, j, none⟩ = some (enc l[j]) := by
 obtain ⟨T, h⟩ := h
 rw [cell_of_row w b j _ T (0, 0) h, cellsOf_get enc l j hj]
theorem Blk.free {α : Type} {enc : α → Value} {w : World} {b : Nat} {l : List α} (h : Blk enc w b l) (j : Nat) : w.frozen? ⟨b, j, none⟩ = false := by
 obtain ⟨T, h⟩ := h
 simp [World.frozen?, h]
theorem Blk.set {α : Type} {enc : α → Value} {w : World} {b : Nat} {l : List α} (h : Blk enc w b l) (j : Nat) (x : α) : Blk enc (w.setCell ⟨b, j, none⟩ (enc x)) b (l.set j x) := by
 have hlt := h.lt
 obtain ⟨T, h⟩ := h
 refine ⟨T, ?_⟩
 have h' : w.heap[b] = .cells (cellsOf enc l) T (0, 0) := by simpa [Array.getElem?_eq_getElem hlt] using h
 show (w.heap.modify b _)[b]? = _
 rw [Array.getElem?_modify, if_pos rfl, h]
 simp [cellsOf_set]
theorem Blk.kept {α : Type} {enc : α → Value} {X : Nat → Prop} {w w' : World} {b : Nat} {l : List α} (h : Blk enc w b l) (k : Kept X w w') (hx : ¬ X b) : Blk enc w' b l := by
 have := h.lt
 obtain ⟨T, h⟩ := h
 exact ⟨T, by rw [k.block b this hx]; exact h⟩
theorem Blk.below {α : Type} {enc : α → Value} {w w' : World} {b : Nat} {l : List α} (h : Blk enc w b l) (k : Below w.heap.size w w') : Blk enc w' b l :=
 h.kept (Kept.of_below k (fun _ => False)) (fun x => x)
theorem Blk.new {α : Type} (enc : α → Value) (w : World) (l : List α) (T : TypeId) : Blk enc (w.alloc (.cells (cellsOf enc l) T)) w.heap.size l := ⟨T, heap_alloc_new w _⟩
theorem Blk.other {α : Type} {enc : α → Value} {w : World} {b : Nat} {l : List α} (h : Blk enc w b l) (p : Addr) (u : Value) (hp : b ≠ p.block) : Blk enc (w.setCell p u) b l := h.kept (kept_set w p u) hp
theorem Blk.drew {α : Type} {enc : α → Value} {w : World} {b : Nat} {l : List α} (h : Blk enc w b l) : Blk enc w.drew b l := h
theorem Blk.has {α : Type} {enc : α → Value} {w : World} {b : Nat} {l : List α} (h : Blk enc w b l) (j : Nat) (hj : j < l.length) : ∃ v, w.cell? ⟨b, j, none⟩ = some v := ⟨_, h.cell j hj⟩
def BlkT {α : Type} (enc : α → Value) (T : TypeId) (w : World) (b : Nat) (l : List α) : Prop := w.heap[b]? = some (.cells (cellsOf enc l) T (0, 0))
theorem BlkT.blk {α : Type} {enc : α → Value} {T : TypeId} {w : World} {b : Nat} {l : List α} (h : BlkT enc T w b l) : Blk enc w b l := ⟨T, h⟩
theorem BlkT.lt {α : Type} {enc : α → Value} {T : TypeId} {w : World} {b : Nat} {l : List α} (h : BlkT enc T w b l) : b < w.heap.size := h.blk.lt
theorem BlkT.cell {α : Type} {enc : α → Value} {T : TypeId} {w : World} {b : Nat} {l : List α} (h : BlkT enc T w b l) (j : Nat) (hj : j < l.length) : w.cell? ⟨b, j, none⟩ = some (enc l[j]) := h.blk.cell j hj
theorem BlkT.free {α : Type} {enc : α → Value} {T : TypeId} {w : World} {b : Nat} {l : List α} (h : BlkT enc T w b l) (j : Nat) : w.frozen? ⟨b, j, none⟩ = false := h.blk.free j
theorem BlkT.has {α : Type} {enc : α → Value} {T : TypeId} {w : World} {b : Nat} {l : List α} (h : BlkT enc T w b l) (j : Nat) (hj : j < l.length) : ∃ v, w.cell? ⟨b, j, none⟩ = some v := h.blk.has j hj
theorem BlkT.set {α : Type} {enc : α → Value} {T : TypeId} {w : World} {b : Nat} {l : List α} (h : BlkT enc T w b l) (j : Nat) (x : α) : BlkT enc T (w.setCell ⟨b, j, none⟩ (enc x)) b (l.set j x) := by
 unfold BlkT at *
 show (w.heap.modify b _)[b]? = _
 rw [Array.getElem?_modify, if_pos rfl, h]
 simp [cellsOf_set]
theorem BlkT.below {α : Type} {enc : α → Value} {T : TypeId} {w w' : World} {b : Nat} {l : List α} (h : BlkT enc T w b l) (k : Below w.heap.size w w') : BlkT enc T w' b l := by unfold BlkT; rw [k.block b h.lt]; exact h
theorem BlkT.new {α : Type} (enc : α → Value) (w : World) (l : List α) (T : TypeId) : BlkT enc T (w.alloc (.cells (cellsOf enc l) T)) w.heap.size l := heap_alloc_new w _
abbrev i64 : Int → Value := Value.int .i64
abbrev u64 : Int → Value := Value.int .u64
def Sl {α : Type} (enc : α → Value) (w : World) (v : Value) (l : List α) : Prop :=
 (l = [] ∧ ∃ a cap, v = .slice a 0 cap) ∨
 ∃ b off cap, v = .slice (some ⟨b, off, none⟩) l.length cap ∧ b < w.heap.size ∧ ∀ j (h : j < l.length), w.cell? ⟨b, off + j, none⟩ = some (enc l[j])
theorem Sl.kept {α : Type} {enc : α → Value} {X : Nat → Prop} {w w' : World} {v : Value} {l : List α} (h : Sl enc w v l) (k : Kept X w w') (hx : ∀ b off len cap, v = .slice (some ⟨b, off, none⟩) len cap → ¬ X b) : Sl enc w' v l := by
 rcases h with h | ⟨b, off, cap, hv, hb, hc⟩
 ·exact .inl h
 ·exact .inr ⟨b, off, cap, hv, Nat.lt_of_lt_of_le hb k.size, fun j hj => by rw [k.cell hb (hx _ _ _ _ hv)]; exact hc j hj⟩
theorem Sl.below {α : Type} {enc : α → Value} {w w' : World} {v : Value} {l : List α} (h : Sl enc w v l) (k : Below w.heap.size w w') : Sl enc w' v l :=
 h.kept (Kept.of_below k (fun _ => False)) (fun _ _ _ _ _ x => x)
theorem Blk.sl {α : Type} {enc : α → Value} {w : World} {b : Nat} {l : List α} (h : Blk enc w b l) (cap : Nat) : Sl enc w (.slice (some ⟨b, 0, none⟩) l.length cap) l :=
 .inr ⟨b, 0, cap, rfl, h.lt, fun j hj => by rw [Nat.zero_add]; exact h.cell j hj⟩
theorem Sl.at {α : Type} {enc : α → Value} {w : World} {a : Option Addr} {n cap : Nat} {l : List α} (h : Sl enc w (.slice a n cap) l) (j : Nat) (hj : j < l.length) :
  ∃ b off, a = some ⟨b, off, none⟩ ∧ b < w.heap.size ∧ w.cell? ⟨b, off + j, none⟩ = some (enc l[j]) := by
 rcases h with ⟨rfl, _⟩ | ⟨b, off, cap', hv, hb, hc⟩
 ·exact absurd hj (Nat.not_lt_zero _)
 ·cases hv; exact ⟨b, off, rfl, hb, hc j hj⟩
theorem app1 {P : Program} {w0 : World} {ops : Array Oper} {rest : List Oper} {o : Oper} {a : Act} {Q : Exit → Act → World → Prop} (hgd : o.guard = none) (s x : Operand) (t : TypeId)
  (ho : o.op = .call { callee := .builtin .append, args := #[s, x], argTypes := #[t, t] })
  (base : Nat) (e : TypeId) (z : Value) (bytes : Nat) (hinfo : (P.info? e).map (fun i => (i.zero, i.size, i.bytes)) = some (some z, 1, bytes)) (ht : P.underlying t = some (.slice e)) (hzs : z.cells.size = 1)
  (v : Value) (n : Nat) (xs : List Value) (hs : a.eval s = v) (hown : w0.ownsRow base e 1 v n xs)
  (y : Value) (hx : a.eval x = .slice (some ⟨w0.heap.size, 0, none⟩) 1 1) (hy : y.oneCell' = true)
  (hb : (n + 1) * bytes ≤ 140737488355328) (h63 : n < 140737488355328) (hbase : base ≤ w0.heap.size)
  (h : ∀ g cap w', w'.ownsRow base e 1 (.slice (some ⟨g, 0, none⟩) (n + 1) cap) (n + 1) (xs ++ [y]) → Kept (fun k => v.ownBlock = some k) w0 w' → wpList P ops Q rest (a.put o.dst (.slice (some ⟨g, 0, none⟩) (n + 1) cap)) w') :
  wpList P ops Q (o :: rest) a (w0.alloc (.cells #[y] e)) := by
 obtain ⟨i0, hi, hz0, hz1, hz2⟩ := info_parts hinfo
 refine wpList_append_own _ hgd s x t ho base e i0 z 1 bytes ht hi hz0 hz1 hz2 hzs (by decide) v n xs hs (hown.alloc _) ⟨w0.heap.size, 0, none⟩ 1 1 [y] hx rfl (cell_one_new _ _ _) (by simpa using hy) (by unfold maxLen; omega) hb (by simp; omega) ?_
 intro v' w1 hown' hg _
 rcases hown'.2 with ⟨_, h0⟩ | ⟨g, cap, cur, rfl, _⟩
 ·omega
 ·exact h g cap w1 hown' (((Kept.refl _ w0).alloc _).grown hg (fun k e _ => e))
def Box (w : World) (B : Nat) (cs : Array Value) (T : TypeId) : Prop := w.heap[B]? = some (.cells cs T (0, 0))
theorem Box.at {w : World} {B : Nat} {cs : Array Value} {T : TypeId} (h : Box w B cs T) (j : Nat) {v : Value} (hv : cs[j]? = some v) : w.cell? ⟨B, j, none⟩ = some v := by
 rw [cell_of_row w B j cs T (0, 0) h, hv]
theorem Box.free {w : World} {B : Nat} {cs : Array Value} {T : TypeId} (h : Box w B cs T) (j : Nat) : w.frozen? ⟨B, j, none⟩ = false := by
 unfold Box at h; simp [World.frozen?, h]
theorem Box.lt {w : World} {B : Nat} {cs : Array Value} {T : TypeId} (h : Box w B cs T) : B < w.heap.size := lt_of_block h
theorem Box.below {w w' : World} {B K : Nat} {cs : Array Value} {T : TypeId} (h : Box w B cs T) (k : Below K w w') (hB : B < K) : Box w' B cs T := (k.block B hB).trans h
theorem Box.keep {w w' : World} {B : Nat} {cs : Array Value} {T : TypeId} (h : Box w B cs T) (k : Below w.heap.size w w') : Box w' B cs T := (k.block B h.lt).trans h
theorem Box.new (w : World) (cs : Array Value) (T : TypeId) : Box (w.alloc (.cells cs T)) w.heap.size cs T := heap_alloc_new w _
theorem Box.alloc {w : World} {B : Nat} {cs : Array Value} {T : TypeId} (h : Box w B cs T) (o : Obj) : Box (w.alloc o) B cs T := (Below.heap_alloc _ _ _ h.lt).trans h
theorem Box.set {w : World} {B : Nat} {cs : Array Value} {T : TypeId} (h : Box w B cs T) (j : Nat) (u : Value) : Box (w.setCell ⟨B, j, none⟩ u) B (cs.setIfInBounds j u) T := by
 have hlt := h.lt
 unfold Box at h ⊢
 show (w.heap.modify B _)[B]? = _
 rw [Array.getElem?_modify, if_pos rfl, h]
 simp
inductive Kd where
 | val (Sp : Value → World → Prop)
 | fresh (T : TypeId) (z : Array Value) (st : Nat) (cs : Array Value)
 | store (al : Nat)
def KeptT (Ts : List TypeId) (w w' : World) : Prop := w.heap.size ≤ w'.heap.size ∧ ∀ (b : Nat) (o : Obj), w.heap[b]? = some o → (∀ cs T fz, o = Obj.cells cs T fz → T ∉ Ts) → w'.heap[b]? = some o
def ptrV (b : Nat) : Value := .pointer (some ⟨b, 0, none⟩)
def QF : Exit → Act → World → Prop := fun _ _ _ => False
section
variable (ops : Array Oper)
def dstOf (i : Nat) : Option Tmp := (ops[i]?).bind (·.dst)
def fillTo (x : Nat → Value) (a : Act) : Nat → Act
 | 0 => a
 | i + 1 => (fillTo x a i).put (dstOf ops i) (x i)
def upd (x : Nat → Value) (i : Nat) (v : Value) : Nat → Value := fun j => if j = i then v else x j
def seesB (i : Nat) : Bool :=
 match ops[i]? with
 | none => true
 | some o => (o.looksAt ops).all fun d => (List.range ops.size).all fun j => dstOf ops j != some d || (decide (j < i) && Region.waitsFor .any ops i j) || j == i || (decide (i < j) && Region.waitsFor .any ops j i)
def goodB (m n : Nat) : Bool :=
 (List.range m).all (fun i => seesB ops i) &&
 (List.range ops.size).all (fun i => (match dstOf ops i with | some d => decide (d < n) | none => true) && (List.range ops.size).all fun j => i == j || dstOf ops i == none || dstOf ops i != dstOf ops j) &&
 Region.noSelect ops
def edgesB : Bool := (List.range ops.size).all fun i => match ops[i]? with
 | none => true
 | some o => o.after.all fun e => !Region.binds .any e || decide (e.on < i)
end
structure Mid (ops : Array Oper) (a0 : Act) (m base : Nat) (ks : Nat → Kd) (C : World → Prop) (w0 : World) (L : Array Bool) (a : Act) (w : World) (x : Nat → Value) : Prop where
 inv : HeadInv .any ops m L
 size : a.tmps.size = a0.tmps.size
 defers : a.defers = a0.defers
 set : ∀ i d, dstOf ops i = some d → L.getD i false = true → a.tmps[d]? = some (x i)
 old : ∀ t, (∀ i, dstOf ops i = some t → L.getD i false = false) → a.tmps[t]? = a0.tmps[t]?
 cls : C w
 bel : Below base w0 w
 vals : ∀ i Sp, ks i = .val Sp → L.getD i false = true → Sp (x i) w
 fresh : ∀ i T z st cs, ks i = .fresh T z st cs → L.getD i false = true → ∃ b, x i = ptrV b ∧ base ≤ b ∧ Box w b (if L.getD st false then cs else z) T
 apart : ∀ i j T z st cs T' z' st' cs', i ≠ j → ks i = .fresh T z st cs → ks j = .fresh T' z' st' cs' → L.getD i false = true → L.getD j false = true → x i ≠ x j
theorem getD_set_self {L : Array Bool} {i : Nat} (h : i < L.size) : (L.setIfInBounds i true).getD i false = true := by simp [h]
theorem getD_set_or {L : Array Bool} {i j : Nat} (h : (L.setIfInBounds i true).getD j false = true) : j = i ∨ L.getD j false = true := by
 by_cases e : i = j
 ·exact .inl e.symm
 ·right; rw [getD_set_ne false e] at h; exact h
structure Deps (ops : Array Oper) (ks : Nat → Kd) (x : Nat → Value) (w : World) (i : Nat) : Prop where
 val : ∀ j Sp, Region.waitsFor .any ops i j = true → ks j = .val Sp → Sp (x j) w
def Obl (P : Program) (ops : Array Oper) (a0 : Act) (base : Nat) (ks : Nat → Kd) (C : World → Prop) (i : Nat) (o : Oper) : Prop :=
 match ks i with
 | .val Sp => (dstOf ops i).isSome = true ∧ ∀ (x : Nat → Value) (w : World), C w → base ≤ w.heap.size → Deps ops ks x w i → ∀ K : Act → World → Prop, (∀ v w', Sp v w' → Below w.heap.size w w' → K ((fillTo ops x a0 i).put o.dst v) w') →
   if Region.wanted o (yielded ops (fillTo ops x a0 i).tmps) = true then Oper.wp P o (fillTo ops x a0 i) w K QF else K ((fillTo ops x a0 i).put o.dst undef) w
 | .fresh T z st _ => (dstOf ops i).isSome = true ∧ Region.waitsFor .any ops st i = true ∧ ks st = .store i ∧ o.guard = none ∧ ∀ (x : Nat → Value) (w : World) (K : Act → World → Prop), K ((fillTo ops x a0 i).put o.dst (ptrV w.heap.size)) (w.alloc (.cells z T)) → Oper.wp P o (fillTo ops x a0 i) w K QF
 | .store al => o.guard = none ∧ o.dst = none ∧ Region.waitsFor .any ops i al = true ∧ al < i ∧ ∃ T z cs, ks al = .fresh T z i cs ∧ ∀ (x : Nat → Value) (w : World) (b : Nat), C w → base ≤ b → x al = ptrV b → Box w b z T → Deps ops ks x w i → ∀ K : Act → World → Prop, (∀ w', Box w' b cs T → Kept (fun k => k = b) w w' → K (fillTo ops x a0 i) w') → Oper.wp P o (fillTo ops x a0 i) w K QF
theorem waits_of {ops : Array Oper} {i j : Nat} {L : Array Bool} (h : Region.waitsFor .any ops i j = true) (hr : i ∈ Region.ready .any ops L) : L.getD j false = true := by
 obtain ⟨oi, hoi, e, he, hb, hon⟩ := Region.waitsFor_spec h
 obtain ⟨_, o, ho, hall⟩ := mem_ready.1 hr
 have : o = oi := Option.some.inj (ho.symm.trans hoi)
 subst this
 rw [← hon]; exact hall e he hb
theorem waits_not {md : Region.Mode} {ops : Array Oper} {m i j : Nat} {L : Array Bool} (inv : HeadInv md ops m L) (h : Region.waitsFor md ops j i = true) (hi : L.getD i false = false) : L.getD j false = false := by
 obtain ⟨oj, hoj, e, he, hb, hon⟩ := Region.waitsFor_spec h
 cases hl : L.getD j false with
 | false => rfl
 | true =>
  have := inv.closed j oj hoj hl e he hb
  rw [hon, hi] at this
  cases this
theorem dst_lt {ops : Array Oper} {m n i : Nat} {d : Tmp} (h : goodB ops m n = true) (hd : dstOf ops i = some d) : d < n := by
 simp only [goodB, Bool.and_eq_true] at h
 have hi : i < ops.size := by
  unfold dstOf at hd
  cases ho : ops[i]? with
  | none => rw [ho] at hd; cases hd
  | some o => exact (Array.getElem?_eq_some_iff.1 ho).1
 have := List.all_eq_true.1 h.1.2 i (List.mem_range.2 hi)
 simp only [hd, Bool.and_eq_true, decide_eq_true_eq] at this
 exact this.1
theorem dst_inj {ops : Array Oper} {m n i j : Nat} {d : Tmp} (h : goodB ops m n = true) (hi : dstOf ops i = some d) (hj : dstOf ops j = some d) : i = j := by
 have hlt : ∀ {k}, dstOf ops k = some d → k < ops.size := fun {k} hd => by
  unfold dstOf at hd
  cases ho : ops[k]? with
  | none => rw [ho] at hd; cases hd
  | some o => exact (Array.getElem?_eq_some_iff.1 ho).1
 simp only [goodB, Bool.and_eq_true] at h
 have h1 := List.all_eq_true.1 h.1.2 i (List.mem_range.2 (hlt hi))
 simp only [Bool.and_eq_true] at h1
 have h2 := List.all_eq_true.1 h1.2 j (List.mem_range.2 (hlt hj))
 rw [hi, hj] at h2
 simpa using h2
section
variable {P : Program} {ops : Array Oper} {a0 : Act} {m base : Nat} {ks : Nat → Kd} {C : World → Prop} {w0 : World} {L : Array Bool} {a : Act} {w : World} {x : Nat → Value}
theorem Mid.stay (h : Mid ops a0 m base ks C w0 L a w x) {i : Nat} (hr : i ∈ Region.ready .any ops L) (him : i < m) : HeadInv .any ops m (L.setIfInBounds i true) ∧ i < L.size ∧ L.getD i false = false := by
 refine ⟨h.inv.set hr him, ?_, getD_both (mem_ready.1 hr).1⟩
 obtain ⟨_, o, ho, _⟩ := mem_ready.1 hr
 rw [h.inv.size]; exact (Array.getElem?_eq_some_iff.1 ho).1
theorem Mid.put (h : Mid ops a0 m base ks C w0 L a w x) (hg : goodB ops m a0.tmps.size = true) {i : Nat} (hr : i ∈ Region.ready .any ops L) (him : i < m) (v : Value) :
  (a.put (dstOf ops i) v).tmps.size = a0.tmps.size ∧ (a.put (dstOf ops i) v).defers = a0.defers ∧
  (∀ j d, dstOf ops j = some d → (L.setIfInBounds i true).getD j false = true → (a.put (dstOf ops i) v).tmps[d]? = some (upd x i v j)) ∧
  (∀ t, (∀ j, dstOf ops j = some t → (L.setIfInBounds i true).getD j false = false) → (a.put (dstOf ops i) v).tmps[t]? = a0.tmps[t]?) := by
 obtain ⟨_, hlt, hun⟩ := h.stay hr him
 refine ⟨?_, ?_, fun j d hj hl => ?_, fun t ht => ?_⟩
 ·cases dstOf ops i <;> simp [Act.put, h.size]
 ·cases dstOf ops i <;> simp [Act.put, h.defers]
 ·by_cases e : j = i
  ·subst e
   rw [hj]
   have := dst_lt hg hj
   simp [Act.put, upd, h.size, this]
  ·have hl' := (getD_set_or hl).resolve_left e
   have h1 := h.set j d hj hl'
   simp only [upd, if_neg e]
   cases hd : dstOf ops i with
   | none => simpa [Act.put] using h1
   | some d' =>
    have : d' ≠ d := fun e' => e (dst_inj hg hj (by rw [hd, e']))
    simp only [Act.put]
    rw [Array.getElem?_setIfInBounds_ne this]; exact h1
 ·have h1 := h.old t (fun j hj => by
   have := ht j hj
   cases hl : L.getD j false with
   | false => rfl
   | true => rw [getD_set_true hl] at this; cases this)
  cases hd : dstOf ops i with
  | none => simpa [Act.put] using h1
  | some d =>
   have : d ≠ t := fun e => by
    subst e
    have := ht i hd
    rw [getD_set_self hlt] at this; cases this
   simp only [Act.put]
   rw [Array.getElem?_setIfInBounds_ne this]; exact h1
variable {Q : Exit → Act → World → Prop} {Ts : List TypeId}
def unl (L : Array Bool) (m : Nat) : Nat := ((List.range m).filter fun i => L.getD i false == false).length
theorem unl_set {L : Array Bool} {m i : Nat} (hi : i < m) (hl : i < L.size) (hun : L.getD i false = false) : unl (L.setIfInBounds i true) m + 1 = unl L m := by
 unfold unl
 induction m with
 | zero => omega
 | succ m ih =>
  rw [List.range_succ, List.filter_append, List.filter_append, List.length_append, List.length_append]
  by_cases e : i = m
  ·subst e
   have h1 : ((List.range i).filter fun j => (L.setIfInBounds i true).getD j false == false) = (List.range i).filter fun j => L.getD j false == false := by
    apply List.filter_congr
    intro j hj
    have := List.mem_range.1 hj
    rw [getD_set_ne false (by omega)]
   rw [h1]
   have h2 := getD_set_self (L := L) hl
   simp only [List.filter_cons, List.filter_nil, h2, hun]
   simp
  ·have := ih (by omega)
   simp only [List.filter_cons, List.filter_nil, getD_set_ne false e]
   omega
theorem unl_zero {L : Array Bool} {m : Nat} (h : unl L m = 0) : ∀ i, i < m → L.getD i false = true := by
 intro i hi
 unfold unl at h
 have := List.eq_nil_of_length_eq_zero h
 rw [List.filter_eq_nil_iff] at this
 have := this i (List.mem_range.2 hi)
 simpa using this
theorem ready_some (he : edgesB ops = true) (hs : L.size = ops.size) : ∀ (n i : Nat), i ≤ n → i < ops.size → L.getD i false = false → Region.ready .any ops L ≠ [] := by
 intro n
 induction n with
 | zero =>
  intro i hi hlt hun hnil
  obtain rfl : i = 0 := by omega
  exact here 0 hlt hun (fun j hj => by omega) hnil
 | succ n ih =>
  intro i hi hlt hun hnil
  by_cases hex : ∃ j, j < i ∧ L.getD j false = false
  ·obtain ⟨j, hj, hjun⟩ := hex
   exact ih j (by omega) (by omega) hjun hnil
  ·refine here i hlt hun (fun j hj => ?_) hnil
   cases hl : L.getD j false with
   | true => rfl
   | false => exact absurd ⟨j, hj, hl⟩ hex
where
 here (i : Nat) (hlt : i < ops.size) (hun : L.getD i false = false) (hall : ∀ j, j < i → L.getD j false = true) (hnil : Region.ready .any ops L = []) : False := by
  have : i ∈ Region.ready .any ops L := by
   refine mem_ready.2 ⟨getD_in (by rw [hs]; exact hlt) hun, ops[i], Array.getElem?_eq_getElem hlt, fun e hmem hb => hall _ ?_⟩
   have h1 := List.all_eq_true.1 he i (List.mem_range.2 hlt)
   simp only [Array.getElem?_eq_getElem hlt] at h1
   have h2 := Array.all_eq_true_iff_forall_mem.1 h1 e hmem
   simpa [hb] using h2
  rw [hnil] at this; cases this
def regB (ops : Array Oper) (m n : Nat) : Bool :=
 edgesB ops && goodB ops m n && decide (m ≤ ops.size) && (m == ops.size || (decide (m < ops.size) && Region.sinkB .any ops m && Region.chainB .any ops m)) &&
 Region.seqB .any ops (ops.size - m) m (Array.replicate m true ++ Array.replicate (ops.size - m) false)
def ksOf (kl : List Kd) (i : Nat) : Kd := kl.getD i (.val fun _ _ => True)
def Obls (P : Program) (ops : Array Oper) (a0 : Act) (base : Nat) (ks : Nat → Kd) (C : World → Prop) : Nat → List Oper → Prop
 | _, [] => True
 | i, o :: rest => Obl P ops a0 base ks C i o ∧ Obls P ops a0 base ks C (i + 1) rest
theorem Obls.get {P : Program} {ops : Array Oper} {a0 : Act} {base : Nat} {ks : Nat → Kd} {C : World → Prop} : ∀ (l : List Oper) (k : Nat), Obls P ops a0 base ks C k l → ∀ j o, l[j]? = some o → Obl P ops a0 base ks C (k + j) o
 | [], _, _, j, o, h => by simp at h
 | o :: l, k, h, j, o', hj => by
  cases j with
  | zero => simp at hj; subst hj; exact h.1
  | succ j => have := Obls.get l (k + 1) h.2 j o' (by simpa using hj); rwa [show k + 1 + j = k + (j + 1) by omega] at this
def Stab (Ts : List TypeId) : List Kd → Prop
 | [] => True
 | .val Sp :: l => (∀ v w w', Sp v w → KeptT Ts w w' → Sp v w') ∧ Stab Ts l
 | .fresh T _ _ _ :: l => T ∈ Ts ∧ Stab Ts l
 | .store _ :: l => Stab Ts l
theorem Stab.val {Ts : List TypeId} : ∀ (l : List Kd), Stab Ts l → ∀ i Sp, ksOf l i = .val Sp → ∀ v w w', Sp v w → KeptT Ts w w' → Sp v w'
 | [], _, i, Sp, h, v, w, w', h1, _ => by simp [ksOf] at h; subst h; trivial
 | k :: l, hs, i, Sp, h, v, w, w', h1, h2 => by
  cases i with
  | zero =>
   have : k = .val Sp := by simpa [ksOf] using h
   subst this
   exact hs.1 v w w' h1 h2
  | succ i =>
   have hs' : Stab Ts l := by cases k <;> first | exact hs.2 | exact hs
   exact Stab.val l hs' i Sp (by simpa [ksOf] using h) v w w' h1 h2
theorem Stab.fresh {Ts : List TypeId} : ∀ (l : List Kd), Stab Ts l → ∀ i T z st cs, ksOf l i = .fresh T z st cs → T ∈ Ts
 | [], _, i, T, z, st, cs, h => by simp [ksOf] at h
 | k :: l, hs, i, T, z, st, cs, h => by
  cases i with
  | zero =>
   have : k = .fresh T z st cs := by simpa [ksOf] using h
   subst this
   exact hs.1
  | succ i =>
   have hs' : Stab Ts l := by cases k <;> first | exact hs.2 | exact hs
   exact Stab.fresh l hs' i T z st cs (by simpa [ksOf] using h)
end
end Go.Proofs.YtejljnlfgiifoaaGreatDoor
