/- Blocks of variables: what they hold, kept; worlds made letters. -/
import Derived.Test.YtcimgilfogeebaaGreatDoorBase
set_option linter.unusedVariables false
set_option linter.unusedSimpArgs false
namespace Go.Proofs.YtcimgilfogeebaaGreatDoor
open Go.RowKit

/-- block B is a variable's block that holds these cells -/
def Box (w : World) (B : Nat) (cs : Array Value) (T : TypeId) : Prop := w.heap[B]? = some (.cells cs T (0, 0))
theorem Box.at {w : World} {B : Nat} {cs : Array Value} {T : TypeId} (h : Box w B cs T) (j : Nat) {v : Value} (hv : cs[j]? = some v) : w.cell? ⟨B, j, none⟩ = some v := by
  rw [cell_of_row w B j cs T (0, 0) h, hv]
theorem Box.free {w : World} {B : Nat} {cs : Array Value} {T : TypeId} (h : Box w B cs T) (j : Nat) : w.frozen? ⟨B, j, none⟩ = false := by
  unfold Box at h; simp [World.frozen?, h]
theorem Box.lt {w : World} {B : Nat} {cs : Array Value} {T : TypeId} (h : Box w B cs T) : B < w.heap.size := lt_of_block h
theorem Box.below {w w' : World} {B K : Nat} {cs : Array Value} {T : TypeId} (h : Box w B cs T) (k : Below K w w') (hB : B < K) : Box w' B cs T := (k.block B hB).trans h
theorem Box.keep {w w' : World} {B : Nat} {cs : Array Value} {T : TypeId} (h : Box w B cs T) (k : Below w.heap.size w w') : Box w' B cs T := (k.block B h.lt).trans h
theorem Box.new (w : World) (cs : Array Value) (T : TypeId) : Box (w.alloc (.cells cs T)) w.heap.size cs T := heap_alloc_new w _
theorem Box.alloc {w : World} {B : Nat} {cs : Array Value} {T : TypeId} (h : Box w B cs T) (o : Obj) : Box (w.alloc o) B cs T := (Below.heap_alloc _ _ _ h.lt).trans h
theorem Box.drew {w : World} {B : Nat} {cs : Array Value} {T : TypeId} (h : Box w B cs T) : Box w.drew B cs T := h
theorem Box.set {w : World} {B : Nat} {cs : Array Value} {T : TypeId} (h : Box w B cs T) (j : Nat) (u : Value) : Box (w.setCell ⟨B, j, none⟩ u) B (cs.setIfInBounds j u) T := by
  have hlt := h.lt
  unfold Box at h ⊢
  show (w.heap.modify B _)[B]? = _
  rw [Array.getElem?_modify, if_pos rfl, h]
  simp
theorem Box.other {w : World} {B : Nat} {cs : Array Value} {T : TypeId} (h : Box w B cs T) (p : Addr) (u : Value) (hp : B ≠ p.block) : Box (w.setCell p u) B cs T := (Below.heap_setCell _ _ _ _ hp).trans h

theorem cell_keep {K : Nat} {w w' : World} {p : Addr} {v : Value} (k : Below K w w') (hp : p.block < K) (h : w.cell? p = some v) : w'.cell? p = some v := by
  rw [← h]; exact k.cell hp

/-- the world is made a letter, of which R is known -/
theorem gen_world {P : Program} {c : Code} {Q : Exit → Act → World → Prop} {a : Act} {w : World} (R : World → Prop) (hw : R w) (h : ∀ w', R w' → Code.wp P c Q a w') : Code.wp P c Q a w := h w hw
theorem gen_worldL {P : Program} {ops : Array Oper} {Q : Exit → Act → World → Prop} {l : List Oper} {a : Act} {w : World} (R : World → Prop) (hw : R w) (h : ∀ w', R w' → wpList P ops Q l a w') : wpList P ops Q l a w := h w hw

end Go.Proofs.YtcimgilfogeebaaGreatDoor
