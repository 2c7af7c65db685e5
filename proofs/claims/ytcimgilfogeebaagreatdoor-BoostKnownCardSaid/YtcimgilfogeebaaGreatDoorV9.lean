/- VM, 9: operations on memory: loads, stores, new blocks. -/
import Derived.Test.YtcimgilfogeebaaGreatDoorV8
import Derived.Laws.IdiomCopy
set_option linter.unusedVariables false
set_option linter.unusedSimpArgs false
namespace Go.Proofs.YtcimgilfogeebaaGreatDoor.VM
open Go Go.RowKit Go.Proofs.YtcimgilfogeebaaGreatDoor

def OpSem (P : Program) (G : GlF) (op : Op) (env : Env) (h : HpF) (lo hi : Nat) (v : AV) (h' : HpF) (tl : List Nat) : Prop :=
  ∀ (β : Be) (W : World) (a : Act) (o : Oper), o.op = op → HR G β h W → Sees β env a op.operands → Fresh β lo →
    ∀ K : Act → World → Prop, (∀ β' W' y, Post G β h W lo hi tl β' h' W' → VR β' v y → K (a.put o.dst y) W') → Oper.wp P o a W K QF
theorem wp_value {P : Program} {o : Oper} {a : Act} {W W' : World} {K : Act → World → Prop} {y : Value} (h : (execOp a.eval o).run P W = .ok (.value y) W') (hk : K (a.put o.dst y) W') : Oper.wp P o a W K QF := by
  unfold Oper.wp; rw [h, Oper.upon_value]; exact hk
theorem wp_skipped {P : Program} {o : Oper} {a : Act} {W W' : World} {K : Act → World → Prop} (h : (execOp a.eval o).run P W = .ok .skip W') (hk : K (a.put o.dst undef) W') : Oper.wp P o a W K QF := by
  unfold Oper.wp; rw [h, Oper.upon_skip]; exact hk
theorem VR.undef (β : Be) : VR β (.tup []) undef := .tup [] [] rfl (fun j x y hx => by simp at hx)
def Dom (h : HpF) (n : Nat) : Prop := ∀ i, n ≤ i → h i = none
theorem Dom.lt {h : HpF} {n i : Nat} (d : Dom h n) (hi : (h i).isSome = true) : i < n := Nat.lt_of_not_le fun e => by rw [d i e] at hi; cases hi
theorem Facts.dom {h h' : HpF} {n n' : Nat} {tl : List Nat} (f : Facts h n h' n' tl) (d : Dom h n) : Dom h' n' := fun i hi => by
  rw [f.same i (.inr hi) (fun e => by have := (f.old i e).1; have := f.le; omega)]; exact d i (Nat.le_trans f.le hi)

theorem Block.range {W : World} {b : Nat} {c : Array Value} {U : TypeId} {fz : Nat × Nat} (h : W.heap[b]? = some (.cells c U fz)) (o n : Nat) : W.rangeAt b o ((c.toList.drop o).take n) := by
  intro j v hv
  have hj : ((c.toList.drop o).take n)[j]? = some v := hv
  rw [List.getElem?_take] at hj
  split at hj
  · rw [List.getElem?_drop] at hj
    rw [cell_of_row W b (o + j) c U fz h]
    simpa using hj
  · cases hj
/-- what an address reads -/
theorem run_load {P : Program} {U : TypeId} {t : TI} (ht : TIOk P U t) {β : Be} {W : World} {b o : Nat} {l : List AV} {l' : List Value} (hv : VL β l l') (hr : W.rangeAt b o l') (hl : l.length = t.size) {v : AV} (hx : (t.agg = true ∧ v = .agg l) ∨ (t.agg = false ∧ l = [v])) :
    ∃ y, (Instr.loadAt U (.pointer (some ⟨b, o, none⟩))).run P W = .ok y W ∧ VR β v y := by
  have hc : (loadCells ⟨b, o, none⟩ l'.length).run P W = .ok l'.toArray W :=
    run_loadCells_list (P := P) W ⟨b, o, none⟩ l' (fun j v hv => by rw [Addr.add_mid]; exact hr j v hv)
  rcases asVar_part hv hx with ⟨h1, h2⟩ | ⟨h1, y, h2, h3⟩
  · refine ⟨.agg l'.toArray, ?_, h2⟩
    simp [Instr.loadAt, Instr.sureAddr, loadVar, ht.agg, h1, ht.size, ← hl, hv.1, hc]
  · subst h2
    have := hr 0 y rfl
    simp only [Nat.add_zero] at this
    exact ⟨y, by simp [Instr.loadAt, Instr.sureAddr, loadVar, ht.agg, h1, this], h3⟩

section
variable {α : Type} {bad : α} {T : α → Prop} (hb : ¬ T bad)
include hb
theorem memK_spec {h : Mem} {i : Nat} {k : Blk → α} (hk : T (memK bad h i k)) : ∃ b, h.get i = some b ∧ T (k b) := by
  unfold memK at hk
  cases hg : h.get i with
  | none => rw [hg] at hk; exact absurd hk hb
  | some b => rw [hg] at hk; exact ⟨b, rfl, hk⟩
theorem newK_spec {h : Mem} {n : Nat} {b : Blk} {k : Mem → Nat → α} (hk : T (newK bad h n b k)) : ∃ h', T (k h' (n + 1)) ∧ ∀ j, h'.get j = if j = n then some b else h.get j := by
  have hk' : T (Tr.putK bad (some b) (n + 1) h n fun h => k h (Nat.succ n)) := hk
  obtain ⟨h', h1, h2⟩ := Tr.put hb (some b) (n + 1) h n _ hk'
  exact ⟨h', h1, h2⟩
theorem loadK_spec {Γ : Ctx} {h : Mem} {p : AV} {sz : Nat} {k : List AV → α} (hk : T (loadK bad Γ h p sz k)) :
    ∃ l, T (k l) ∧ l.length = sz ∧ ((∃ i off b, p = .ptr i off ∧ h.get i = some b ∧ off + sz ≤ b.cells.length ∧ l = (b.cells.drop off).take sz) ∨ (∃ g off cs, p = .glo g off ∧ Γ.gl g = some cs ∧ off + sz ≤ cs.length ∧ l = (cs.drop off).take sz)) := by
  unfold loadK at hk
  cases p <;> try exact absurd hk hb
  · rename_i i off
    obtain ⟨b, hg, h1⟩ := memK_spec hb hk
    obtain ⟨h2, hle⟩ := cutK_spec hb _ _ _ _ h1
    exact ⟨_, h2, by simp; omega, .inl ⟨i, off, b, rfl, hg, hle, rfl⟩⟩
  · rename_i g off
    simp only at hk
    split at hk
    · rename_i cs hg
      obtain ⟨h2, hle⟩ := cutK_spec hb _ _ _ _ hk
      exact ⟨_, h2, by simp; omega, .inr ⟨g, off, cs, rfl, hg, hle, rfl⟩⟩
    · exact absurd hk hb
omit hb in
theorem load_range {G : GlF} {β : Be} {h : HpF} {W : World} (r : HR G β h W) {p : AV} {y : Value} (hy : VR β p y) {l : List AV} {sz : Nat}
    (hl : (∃ i off b, p = .ptr i off ∧ h i = some b ∧ off + sz ≤ b.cells.length ∧ l = (b.cells.drop off).take sz) ∨ (∃ g off cs, p = .glo g off ∧ G g = some cs ∧ off + sz ≤ cs.length ∧ l = (cs.drop off).take sz)) :
    ∃ b o l', y = .pointer (some ⟨b, o, none⟩) ∧ VL β l l' ∧ W.rangeAt b o l' := by
  rcases hl with ⟨i, off, b, rfl, hg, hle, rfl⟩ | ⟨g, off, cs, rfl, hg, hle, rfl⟩
  · obtain ⟨p, hp, rfl⟩ := hy.ptr_inv
    obtain ⟨q, c, U, fz, hq, hi⟩ := r.at_ i b hg
    rw [hp] at hq; cases hq
    refine ⟨p.b, p.s + off, ((c.toList.drop (p.s + off)).take sz), rfl, ?_, Block.range hi.obj _ _⟩
    have := (hi.cells.drop off).take sz
    rw [List.drop_take, List.drop_drop, List.take_take, Nat.min_eq_left (by omega)] at this
    exact this
  · obtain rfl := hy.glo_inv
    obtain ⟨c, U, fz, h1, h2⟩ := r.glob g cs hg
    refine ⟨g, off, ((c.toList.drop off).take sz), rfl, ?_, Block.range h1 _ _⟩
    have := ((h2.drop off).take sz).mono (γ := β) (fun _ _ h => by cases h)
    rw [List.drop_take, List.take_take, Nat.min_eq_left (by omega)] at this
    exact this
theorem load_sem {P : Program} {Γ : Ctx} (hΓ : TyOk P Γ) {env : Env} {h : Mem} {n : Nat} {U : TypeId} {x : Operand} {k : AV → α}
    (hk : T (tyK bad Γ U fun t => oK bad env x fun p => loadK bad Γ h p t.size fun l => asVarK bad t.agg l k)) : ∃ v p, T (k v) ∧ opv env x p ∧
      (∀ g : HpF, (∀ i off, p = .ptr i off → g i = h.get i) → OpSem P Γ.gl (.load U x) env g n n v g []) := by
  obtain ⟨t, ht, h1⟩ := tyK_spec hb hk
  obtain ⟨p, hp, h2⟩ := oK_spec hb h1
  obtain ⟨l, h3, hl, hc⟩ := loadK_spec hb h2
  obtain ⟨v, h4, hv⟩ := asVarK_spec hb h3
  refine ⟨v, p, h4, hp, fun g hgm β W a o ho r hs hf K hK => ?_⟩
  have hc' : (∃ i off b, p = .ptr i off ∧ g i = some b ∧ off + t.size ≤ b.cells.length ∧ l = (b.cells.drop off).take t.size) ∨ (∃ g off cs, p = .glo g off ∧ Γ.gl g = some cs ∧ off + t.size ≤ cs.length ∧ l = (cs.drop off).take t.size) := by
    rcases hc with ⟨i, off, b, h5, h6, h7⟩ | h5
    · exact .inl ⟨i, off, b, h5, by rw [hgm i off h5]; exact h6, h7⟩
    · exact .inr h5
  obtain ⟨b, o', l', e, hvl, hrg⟩ := load_range r (hp.vr hs (x := x) (by simp [Op.operands])) hc'
  obtain ⟨y, hy, hr⟩ := run_load (hΓ.ty U t ht) hvl hrg hl hv
  refine wp_value (y := y) (W' := W) ?_ (hK β W y (Post.refl r n) hr)
  unfold execOp
  simp [ho, e, hy]
end

/-- cells put into a block -/
theorem kept_setCells (b : Nat) : ∀ (vs : List Value) (o : Nat) (w : World), Kept (fun k => k = b) w (w.setCells b o vs)
  | [], _, w => Kept.refl _ w
  | v :: r, o, w => (kept_set w ⟨b, o, none⟩ v).trans (kept_setCells b r (o + 1) _)
theorem heap_setCells {b : Nat} {U : TypeId} {fz : Nat × Nat} : ∀ (vs : List Value) (off : Nat) (w : World) (cs : List Value), w.heap[b]? = some (.cells cs.toArray U fz) → off + vs.length ≤ cs.length →
    (w.setCells b off vs).heap[b]? = some (.cells (cs.take off ++ vs ++ cs.drop (off + vs.length)).toArray U fz)
  | [], off, w, cs, h, hl => by simpa [World.setCells] using h
  | v :: r, off, w, cs, h, hl => by
    have h1 : (w.setCell ⟨b, off, none⟩ v).heap[b]? = some (.cells (cs.set off v).toArray U fz) := by
      show (w.heap.modify b _)[b]? = _
      rw [Array.getElem?_modify, if_pos rfl, h]
      simp
    have h2 := heap_setCells r (off + 1) _ (cs.set off v) h1 (by simp at hl ⊢; omega)
    have hl' : off < cs.length := by simp at hl; omega
    have e2 : (cs.set off v).take (off + 1) ++ r ++ (cs.set off v).drop (off + 1 + r.length) = cs.take off ++ v :: r ++ cs.drop (off + (v :: r).length) := by
      rw [List.drop_set_of_lt (by omega), List.take_set, List.take_succ_eq_append_getElem hl', List.set_append_right _ _ (by simp; omega)]
      simp [Nat.min_eq_left (Nat.le_of_lt hl'), Nat.add_assoc, Nat.add_comm 1]
    rw [e2] at h2
    exact h2
theorem frozen_block {W W' : World} {b : Nat} {c c' : Array Value} {U : TypeId} {fz : Nat × Nat} (h : W.heap[b]? = some (.cells c U fz)) (h' : W'.heap[b]? = some (.cells c' U fz)) (j : Nat) : W'.frozen? ⟨b, j, none⟩ = W.frozen? ⟨b, j, none⟩ := by
  simp [World.frozen?, h, h']
theorem write_list {β : Type} (L ws : List β) (s n off m N : Nat) (hm : ws.length = m) (h1 : off ≤ n) (h2 : s + n ≤ L.length) (h3 : s + off + m ≤ L.length) (hN : N = max n (off + m)) :
    ((L.take (s + off) ++ ws ++ L.drop (s + off + ws.length)).drop s).take N = ((L.drop s).take n).take off ++ ws ++ ((L.drop s).take n).drop (off + m) := by
  apply List.ext_getElem?
  intro j
  have e1 : (L.take (s + off)).length = s + off := by simp; omega
  have e2 : (((L.drop s).take n).take off).length = off := by simp; omega
  rw [List.getElem?_take, List.getElem?_drop]
  by_cases a : j < off
  · rw [if_pos (by omega), List.append_assoc, List.getElem?_append_left (by omega), List.append_assoc, List.getElem?_append_left (by omega), List.getElem?_take, List.getElem?_take, List.getElem?_take, List.getElem?_drop, if_pos (by omega), if_pos a, if_pos (by omega)]
  · by_cases b : j < off + m
    · rw [if_pos (by omega), List.append_assoc, List.getElem?_append_right (by omega), List.getElem?_append_left (by omega), List.append_assoc, List.getElem?_append_right (by omega), List.getElem?_append_left (by omega)]
      congr 1; omega
    · rw [List.append_assoc, List.getElem?_append_right (by omega), List.getElem?_append_right (by omega), List.append_assoc, List.getElem?_append_right (by omega), List.getElem?_append_right (by omega), List.getElem?_drop, List.getElem?_drop, List.getElem?_take, List.getElem?_drop]
      by_cases c : j < n
      · rw [if_pos (by omega), if_pos (by omega)]; congr 1; omega
      · rw [if_neg (by omega), if_neg (by omega)]
/-- a block whose cells from off on have been written -/
theorem BlkIs.write {β : Be} {W : World} {p : Pl} {b : Blk} {c : Array Value} {U : TypeId} {fz : Nat × Nat} (h : BlkIs β W p b c U fz) {off : Nat} {vs : List AV} {ws : List Value} (hv : VL β vs ws) (hle : off ≤ b.cells.length) (hz : p.s + off + vs.length ≤ p.z) (b' : Blk) (hr : b'.ro = false → b.ro = false)
    (hc : b'.cells = b.cells.take off ++ vs ++ b.cells.drop (off + vs.length)) (ht : ∀ V, b'.ty = some V → b.ty = some V) (hx : b'.bx = true → b.bx = true ∧ off + vs.length ≤ b.cells.length) :
    BlkIs β (W.setCells p.b (p.s + off) ws) p b' (c.toList.take (p.s + off) ++ ws ++ c.toList.drop (p.s + off + ws.length)).toArray U fz := by
  have hsz : c.toList.length = p.z := by simpa using h.size
  have hsz2 : c.size = p.z := h.size
  have hwl : ws.length = vs.length := hv.1.symm
  have hfit := h.fit
  have ho := heap_setCells ws (p.s + off) W c.toList (by simpa using h.obj) (by omega)
  have hlen : b'.cells.length = max b.cells.length (off + vs.length) := by
    rw [hc]; simp; omega
  refine ⟨ho, by simp; omega, fun hro j hj => ?_, fun V hV => h.ty V (ht V hV), fun hV => ?_, by omega, ?_⟩
  · rw [frozen_block h.obj ho]; exact h.free (hr hro) j hj
  · obtain ⟨h1, h2⟩ := hx hV
    obtain ⟨h4, h5⟩ := h.bx h1
    exact ⟨h4, by omega⟩
  · have h1 := (h.cells.take off).app hv
    have h2 := h1.app (h.cells.drop (off + vs.length))
    rw [hc]
    have hL : (b.cells.take off ++ vs ++ b.cells.drop (off + vs.length)).length = max b.cells.length (off + vs.length) := by simp; omega
    have e := write_list c.toList ws p.s b.cells.length off vs.length _ hwl hle (by omega) (by omega) hL
    simp only [List.toList_toArray]
    rw [e]; exact h2
end Go.Proofs.YtcimgilfogeebaaGreatDoor.VM
