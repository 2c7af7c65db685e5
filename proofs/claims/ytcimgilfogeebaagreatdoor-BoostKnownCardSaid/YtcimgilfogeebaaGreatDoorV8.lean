/- VM, 8: how the machine's memory stands for the world's; what turns. -/
import Derived.Test.YtcimgilfogeebaaGreatDoorV7
import Derived.Test.YtcimgilfogeebaaGreatDoorRegion
set_option linter.unusedVariables false
set_option linter.unusedSimpArgs false
namespace Go.Proofs.YtcimgilfogeebaaGreatDoor.VM
open Go Go.RowKit Go.Proofs.YtcimgilfogeebaaGreatDoor

abbrev HpF := Nat → Option Blk
abbrev GlF := Nat → Option (List AV)
/-- block i of the machine lies in the world, at p -/
structure BlkIs (β : Be) (W : World) (p : Pl) (b : Blk) (c : Array Value) (U : TypeId) (fz : Nat × Nat) : Prop where
  obj : W.heap[p.b]? = some (.cells c U fz)
  size : c.size = p.z
  free : b.ro = false → ∀ j, j < p.z → W.frozen? ⟨p.b, j, none⟩ = false
  ty : ∀ V, b.ty = some V → U = V
  bx : b.bx = true → p.s = 0 ∧ p.z = b.cells.length
  fit : p.s + b.cells.length ≤ p.z
  cells : VL β b.cells ((c.toList.drop p.s).take b.cells.length)
def BlkAt (β : Be) (W : World) (i : Nat) (b : Blk) : Prop := ∃ p c U fz, β i = some p ∧ BlkIs β W p b c U fz
structure HR (G : GlF) (β : Be) (h : HpF) (W : World) : Prop where
  at_ : ∀ i b, h i = some b → BlkAt β W i b
  inj : ∀ i j p q, (h i).isSome = true → (h j).isSome = true → β i = some p → β j = some q → p.b = q.b → i = j
  glob : ∀ g cs, G g = some cs → ∃ c U fz, W.heap[g]? = some (.cells c U fz) ∧ VL (fun _ => none) cs (c.toList.take cs.length)
  sep : ∀ i p, (h i).isSome = true → β i = some p → G p.b = none

theorem BlkIs.lt {β : Be} {W : World} {p : Pl} {b : Blk} {c : Array Value} {U : TypeId} {fz : Nat × Nat} (h : BlkIs β W p b c U fz) : p.b < W.heap.size := (Array.getElem?_eq_some_iff.1 h.obj).1
theorem BlkIs.mono {β γ : Be} {W W' : World} {p : Pl} {b : Blk} {c : Array Value} {U : TypeId} {fz : Nat × Nat} (h : BlkIs β W p b c U fz) (hle : BLe β γ) (hw : W'.heap[p.b]? = W.heap[p.b]?) : BlkIs γ W' p b c U fz :=
  ⟨hw.trans h.obj, h.size, fun hr j hj => by rw [← h.free hr j hj]; exact World.frozen?_of_block (w := W) (w' := W') (a := ⟨p.b, j, none⟩) hw, h.ty, h.bx, h.fit, h.cells.mono hle⟩
theorem BlkAt.place {β : Be} {W : World} {i : Nat} {b : Blk} (h : BlkAt β W i b) : ∃ p, β i = some p ∧ p.b < W.heap.size := by
  obtain ⟨p, c, U, fz, hp, hi⟩ := h
  exact ⟨p, hp, hi.lt⟩
theorem BlkAt.mono {β γ : Be} {W W' : World} {i : Nat} {b : Blk} (h : BlkAt β W i b) (hle : BLe β γ) (hw : ∀ p, β i = some p → W'.heap[p.b]? = W.heap[p.b]?) : BlkAt γ W' i b := by
  obtain ⟨p, c, U, fz, hp, hi⟩ := h
  exact ⟨p, c, U, fz, hle i p hp, hi.mono hle (hw p hp)⟩
/-- less memory -/
theorem HR.sub {G : GlF} {β : Be} {h g : HpF} {W : World} (r : HR G β h W) (hs : ∀ i b, g i = some b → h i = some b) : HR G β g W :=
  ⟨fun i b hb => r.at_ i b (hs i b hb), fun i j p q hi hj => r.inj i j p q (by obtain ⟨b, e⟩ := Option.isSome_iff_exists.1 hi; rw [hs i b e]; rfl) (by obtain ⟨b, e⟩ := Option.isSome_iff_exists.1 hj; rw [hs j b e]; rfl), r.glob,
    fun i p hi => r.sep i p (by obtain ⟨b, e⟩ := Option.isSome_iff_exists.1 hi; rw [hs i b e]; rfl)⟩
theorem HR.drew {G : GlF} {β : Be} {h : HpF} {W : World} (r : HR G β h W) : HR G β h W.drew :=
  ⟨fun i b hb => (r.at_ i b hb).mono (fun _ _ h => h) (fun _ _ => rfl), r.inj, r.glob, r.sep⟩
theorem HR.globLt {G : GlF} {β : Be} {h : HpF} {W : World} (r : HR G β h W) {g : Nat} (hg : G g ≠ none) : g < W.heap.size := by
  obtain ⟨cs, hc⟩ := Option.ne_none_iff_exists'.1 hg
  obtain ⟨c, U, fz, h1, _⟩ := r.glob g cs hc
  exact (Array.getElem?_eq_some_iff.1 h1).1

/-- the world W' behind a step, for the one ahead of it -/
structure Post (G : GlF) (β : Be) (h : HpF) (W : World) (lo hi : Nat) (tl : List Nat) (β' : Be) (h' : HpF) (W' : World) : Prop where
  ext : ∀ i, i < lo ∨ hi ≤ i → β' i = β i
  hr : HR G β' h' W'
  os : W'.os = W.os
  tape : W'.tape = W.tape
  output : W'.output = W.output
  size : W.heap.size ≤ W'.heap.size
  kept : ∀ k, k < W.heap.size → (∀ i ∈ tl, ∀ p, β i = some p → p.b ≠ k) → W'.heap[k]? = W.heap[k]?
  new : ∀ i, lo ≤ i → i < hi → ∀ p, β' i = some p → (h' i).isSome = true → W.heap.size ≤ p.b ∨ ∃ t, t ∈ tl ∧ h' t = none ∧ ∃ q, β t = some q ∧ q.b = p.b
/-- what is known of the machine's memory behind a step -/
structure Facts (h : HpF) (n : Nat) (h' : HpF) (n' : Nat) (tl : List Nat) : Prop where
  le : n ≤ n'
  same : ∀ i, i < n ∨ n' ≤ i → i ∉ tl → h' i = h i
  old : ∀ t, t ∈ tl → t < n ∧ (h t).isSome = true
def Fresh (β : Be) (lo : Nat) : Prop := ∀ i, lo ≤ i → β i = none

theorem Post.refl {G : GlF} {β : Be} {h : HpF} {W : World} (r : HR G β h W) (n : Nat) : Post G β h W n n [] β h W :=
  ⟨fun _ _ => rfl, r, rfl, rfl, rfl, Nat.le_refl _, fun _ _ _ => rfl, fun i h1 h2 => by omega⟩
theorem Facts.refl (h : HpF) (n : Nat) : Facts h n h n [] := ⟨Nat.le_refl _, fun _ _ _ => rfl, fun t ht => by cases ht⟩
theorem Post.le {G : GlF} {β : Be} {h : HpF} {W : World} {lo hi : Nat} {tl : List Nat} {β' : Be} {h' : HpF} {W' : World} (p : Post G β h W lo hi tl β' h' W') (hf : Fresh β lo) : BLe β β' := fun i q hq => by
  by_cases hi' : lo ≤ i ∧ i < hi
  · rw [hf i hi'.1] at hq; cases hq
  · rw [p.ext i (by omega)]; exact hq

/-- a block's contents have turned -/
theorem Post.upd {G : GlF} {β : Be} {h : HpF} {W W' : World} (r : HR G β h W) {i : Nat} {p : Pl} (hi : (h i).isSome = true) (hp : β i = some p) (k : Kept (fun k => k = p.b) W W') {b : Blk} (hb : BlkAt β W' i b) {h' : HpF} (hh : ∀ j, h' j = if j = i then some b else h j) (n : Nat) :
    Post G β h W n n [i] β h' W' := by
  have hlt : ∀ j, (h j).isSome = true → ∀ q, β j = some q → q.b < W.heap.size := fun j hj q hq => by
    obtain ⟨c, hc⟩ := Option.isSome_iff_exists.1 hj
    obtain ⟨q', hq', hl⟩ := (r.at_ j c hc).place
    rw [hq] at hq'; cases hq'; exact hl
  have isS : ∀ j, (h' j).isSome = true → (h j).isSome = true := fun j hj => by
    rw [hh] at hj
    by_cases e : j = i
    · subst e; exact hi
    · rw [if_neg e] at hj; exact hj
  refine ⟨fun _ _ => rfl, ⟨fun j c hc => ?_, fun j j' p q hj hj' => r.inj j j' p q (isS j hj) (isS j' hj'), fun g cs hg => ?_, fun j q hj => r.sep j q (isS j hj)⟩, k.os, k.tape, k.output, k.size, fun k' hk' hne => k.block k' hk' (fun e => hne i (List.mem_singleton.2 rfl) p hp e.symm), fun j h1 h2 => by omega⟩
  · rw [hh] at hc
    by_cases e : j = i
    · rw [if_pos e] at hc; cases hc; subst e; exact hb
    · rw [if_neg e] at hc
      have hj : (h j).isSome = true := by rw [hc]; rfl
      exact (r.at_ j c hc).mono (fun _ _ h => h) fun q hq => k.block q.b (hlt j hj q hq) (fun e' => e (r.inj j i q p hj hi hq hp e'))
  · obtain ⟨c, U, fz, h1, h2⟩ := r.glob g cs hg
    refine ⟨c, U, fz, ?_, h2⟩
    rw [k.block g (r.globLt (by rw [hg]; simp)) (fun e => by have := r.sep i p hi hp; rw [← e, hg] at this; cases this)]
    exact h1
theorem Facts.upd {h h' : HpF} {i n : Nat} {b : Blk} (hh : ∀ j, h' j = if j = i then some b else h j) (hi : (h i).isSome = true) (hn : i < n) : Facts h n h' n [i] :=
  ⟨Nat.le_refl _, fun j _ hj => by rw [hh, if_neg (fun e => hj (List.mem_singleton.2 e))], fun t ht => by rw [List.mem_singleton.1 ht]; exact ⟨hn, hi⟩⟩

/-- a new block, in new memory; the blocks dl are given up -/
theorem Post.make {G : GlF} {β : Be} {h : HpF} {W W' : World} (r : HR G β h W) {n : Nat} (hf : β n = none) (hn : h n = none) (hbl : Below W.heap.size W W') {p : Pl} (hp : W.heap.size ≤ p.b) {b : Blk} {β' : Be} (hβ : ∀ j, β' j = if j = n then some p else β j)
    (hb : BlkAt β' W' n b) (dl : List Nat) {h' : HpF} (hh : ∀ j, h' j = if j = n then some b else if j ∈ dl then none else h j) : Post G β h W n (n + 1) dl β' h' W' := by
  have hle : BLe β β' := fun j q hq => by
    rw [hβ]
    by_cases e : j = n
    · subst e; rw [hf] at hq; cases hq
    · rw [if_neg e]; exact hq
  have hlt : ∀ j, (h j).isSome = true → ∀ q, β j = some q → q.b < W.heap.size := fun j hj q hq => by
    obtain ⟨c, hc⟩ := Option.isSome_iff_exists.1 hj
    obtain ⟨q', hq', hl⟩ := (r.at_ j c hc).place
    rw [hq] at hq'; cases hq'; exact hl
  have isS : ∀ j, (h' j).isSome = true → j = n ∨ (j ≠ n ∧ j ∉ dl ∧ (h j).isSome = true) := fun j hj => by
    rw [hh] at hj
    by_cases e : j = n
    · exact .inl e
    · rw [if_neg e] at hj
      by_cases e2 : j ∈ dl
      · rw [if_pos e2] at hj; cases hj
      · rw [if_neg e2] at hj; exact .inr ⟨e, e2, hj⟩
  refine ⟨fun j hj => by rw [hβ, if_neg (by omega)], ⟨fun j c hc => ?_, fun j j' q q' hj hj' hq hq' e => ?_, fun g cs hg => ?_, fun j q hj hq => ?_⟩, hbl.os, hbl.tape, hbl.output, hbl.size, fun k hk _ => hbl.block k hk, fun j h1 h2 q hq _ => ?_⟩
  · rw [hh] at hc
    by_cases e : j = n
    · rw [if_pos e] at hc; cases hc; subst e; exact hb
    · rw [if_neg e] at hc
      by_cases e2 : j ∈ dl
      · rw [if_pos e2] at hc; cases hc
      · rw [if_neg e2] at hc
        have hj : (h j).isSome = true := by rw [hc]; rfl
        exact (r.at_ j c hc).mono hle fun q hq => hbl.block q.b (hlt j hj q hq)
  · rw [hβ] at hq hq'
    rcases isS j hj with rfl | ⟨h1, _, h2⟩
    · rcases isS j' hj' with rfl | ⟨h3, _, h4⟩
      · rfl
      · rw [if_pos rfl] at hq; cases hq
        rw [if_neg h3] at hq'
        have := hlt j' h4 q' hq'; omega
    · rw [if_neg h1] at hq
      rcases isS j' hj' with rfl | ⟨h3, _, h4⟩
      · rw [if_pos rfl] at hq'; cases hq'
        have := hlt j h2 q hq; omega
      · rw [if_neg h3] at hq'
        exact r.inj j j' q q' h2 h4 hq hq' e
  · obtain ⟨c, U, fz, h1, h2⟩ := r.glob g cs hg
    exact ⟨c, U, fz, (hbl.block g (r.globLt (by rw [hg]; simp))).trans h1, h2⟩
  · rw [hβ] at hq
    rcases isS j hj with rfl | ⟨h1, _, h2⟩
    · rw [if_pos rfl] at hq; cases hq
      cases hg : G p.b with
      | none => rfl
      | some cs => have := r.globLt (g := p.b) (by rw [hg]; simp); omega
    · rw [if_neg h1] at hq; exact r.sep j q h2 hq
  · have : j = n := by omega
    subst this
    rw [hβ, if_pos rfl] at hq; cases hq
    exact .inl hp
/-- block i lives on as the new block n -/
theorem Post.move {G : GlF} {β : Be} {h : HpF} {W W' : World} (r : HR G β h W) {n i : Nat} (hf : β n = none) (hn : h n = none) {p : Pl} (hi : (h i).isSome = true) (hp : β i = some p) (k : Kept (fun k => k = p.b) W W') {q : Pl} (hq : q.b = p.b) {b : Blk} {β' : Be}
    (hβ : ∀ j, β' j = if j = n then some q else β j) (hb : BlkAt β' W' n b) {h' : HpF} (hh : ∀ j, h' j = if j = n then some b else if j ∈ [i] then none else h j) : Post G β h W n (n + 1) [i] β' h' W' := by
  have hle : BLe β β' := fun j q hq => by
    rw [hβ]
    by_cases e : j = n
    · subst e; rw [hf] at hq; cases hq
    · rw [if_neg e]; exact hq
  have hlt : ∀ j, (h j).isSome = true → ∀ q, β j = some q → q.b < W.heap.size := fun j hj q hq => by
    obtain ⟨c, hc⟩ := Option.isSome_iff_exists.1 hj
    obtain ⟨q', hq', hl⟩ := (r.at_ j c hc).place
    rw [hq] at hq'; cases hq'; exact hl
  have hni : i ≠ n := fun e => by subst e; rw [hn] at hi; cases hi
  have isS : ∀ j, (h' j).isSome = true → j = n ∨ (j ≠ n ∧ j ≠ i ∧ (h j).isSome = true) := fun j hj => by
    rw [hh] at hj
    by_cases e : j = n
    · exact .inl e
    · rw [if_neg e] at hj
      by_cases e2 : j ∈ [i]
      · rw [if_pos e2] at hj; cases hj
      · rw [if_neg e2] at hj; exact .inr ⟨e, fun e3 => e2 (List.mem_singleton.2 e3), hj⟩
  refine ⟨fun j hj => by rw [hβ, if_neg (by omega)], ⟨fun j c hc => ?_, fun j j' u v hj hj' hu hv e => ?_, fun g cs hg => ?_, fun j u hj hu => ?_⟩, k.os, k.tape, k.output, k.size, fun k' hk' hne => k.block k' hk' (fun e => hne i (List.mem_singleton.2 rfl) p hp e.symm), fun j h1 h2 u hu _ => ?_⟩
  · rw [hh] at hc
    by_cases e : j = n
    · rw [if_pos e] at hc; cases hc; subst e; exact hb
    · rw [if_neg e] at hc
      by_cases e2 : j ∈ [i]
      · rw [if_pos e2] at hc; cases hc
      · rw [if_neg e2] at hc
        have hj : (h j).isSome = true := by rw [hc]; rfl
        exact (r.at_ j c hc).mono hle fun u hu => k.block u.b (hlt j hj u hu) (fun e' => e2 (List.mem_singleton.2 (r.inj j i u p hj hi hu hp e')))
  · rw [hβ] at hu hv
    rcases isS j hj with rfl | ⟨h1, h1', h2⟩
    · rcases isS j' hj' with rfl | ⟨h3, h3', h4⟩
      · rfl
      · rw [if_pos rfl] at hu; cases hu
        rw [if_neg h3] at hv
        exact absurd (r.inj i j' p v hi h4 hp hv (by rw [← hq]; exact e)).symm h3'
    · rw [if_neg h1] at hu
      rcases isS j' hj' with rfl | ⟨h3, h3', h4⟩
      · rw [if_pos rfl] at hv; cases hv
        exact absurd (r.inj j i u p h2 hi hu hp (by rw [e, hq])) h1'
      · rw [if_neg h3] at hv
        exact r.inj j j' u v h2 h4 hu hv e
  · obtain ⟨c, U, fz, h1, h2⟩ := r.glob g cs hg
    refine ⟨c, U, fz, ?_, h2⟩
    rw [k.block g (r.globLt (by rw [hg]; simp)) (fun e => by have := r.sep i p hi hp; rw [← e, hg] at this; cases this)]
    exact h1
  · rw [hβ] at hu
    rcases isS j hj with rfl | ⟨h1, _, h2⟩
    · rw [if_pos rfl] at hu; cases hu
      rw [hq]; exact r.sep i p hi hp
    · rw [if_neg h1] at hu; exact r.sep j u h2 hu
  · have : j = n := by omega
    subst this
    rw [hβ, if_pos rfl] at hu; cases hu
    exact .inr ⟨i, List.mem_singleton.2 rfl, by rw [hh, if_neg hni, if_pos (List.mem_singleton.2 rfl)], p, hp, hq.symm⟩
theorem Facts.make {h h' : HpF} {n : Nat} {b : Blk} (dl : List Nat) (hd : ∀ t, t ∈ dl → t < n ∧ (h t).isSome = true) (hh : ∀ j, h' j = if j = n then some b else if j ∈ dl then none else h j) : Facts h n h' (n + 1) dl :=
  ⟨Nat.le_succ _, fun j hj hd' => by rw [hh, if_neg (by omega), if_neg hd'], hd⟩
/-- a new block of cells -/
theorem BlkAt.new {β : Be} {W : World} {n : Nat} {p : Pl} {b : Blk} {c : List Value} {U : TypeId} (hp : β n = some p) (h0 : p.s = 0) (ho : W.heap[p.b]? = some (.cells c.toArray U (0, 0))) (hz : c.length = p.z) (ht : ∀ V, b.ty = some V → U = V) (hx : b.bx = true → p.z = b.cells.length) (hc : ∃ c1 c2 : List Value, c = c1 ++ c2 ∧ VL β b.cells c1) : BlkAt β W n b := by
  obtain ⟨c1, c2, rfl, hv⟩ := hc
  refine ⟨p, _, U, (0, 0), hp, ho, by simpa using hz, fun _ j _ => ?_, ht, fun hV => ⟨h0, hx hV⟩, ?_, ?_⟩
  · simp [World.frozen?, ho]
  · rw [h0, hv.1, ← hz]; simp
  · rw [h0, hv.1]; simpa using hv
end Go.Proofs.YtcimgilfogeebaaGreatDoor.VM
