/- VM, 10: stores, new blocks, slices of arrays, conversions. -/
import Derived.Test.YtcimgilfogeebaaGreatDoorV9
import Derived.Laws.MakeOwn
set_option linter.unusedVariables false
set_option linter.unusedSimpArgs false
namespace Go.Proofs.YtcimgilfogeebaaGreatDoor.VM
open Go Go.RowKit Go.Proofs.YtcimgilfogeebaaGreatDoor

theorem frozen_new (W : World) (cs : Array Value) (U : TypeId) (j : Nat) : (W.alloc (.cells cs U)).frozen? ⟨W.heap.size, j, none⟩ = false := by
  unfold World.frozen?
  simp only [heap_alloc_new]
  simp
/-- the outcome of an operation that reckons on memory -/
def Did1 {α : Type} (P : Program) (G : GlF) (T : α → Prop) (op : Op) (env : Env) (h : Mem) (n : Nat) (k : AV → Mem → Nat → List Nat → α) : Prop :=
  ∃ v h' n' tl, T (k v h' n' tl) ∧ Facts h.get n h'.get n' tl ∧ OpSem P G op env h.get n n' v h'.get tl
theorem Did1.pure {α : Type} {P : Program} {G : GlF} {T : α → Prop} {op : Op} {env : Env} {h : Mem} {n : Nat} {k : AV → Mem → Nat → List Nat → α} {v : AV} (hk : T (k v h n [])) (hp : PureSem P env op v) : Did1 P G T op env h n k :=
  ⟨v, h, n, [], hk, Facts.refl _ _, fun β W a o ho r hs hf K hK => by
    obtain ⟨y, hy, hr⟩ := hp β a W o ho hs
    exact wp_value hy (hK β W y (Post.refl r n) hr)⟩

theorem foldl_size (off : Nat) : ∀ (l : Array (Value × Nat)) (cs : Array Value) {n : Nat}, cs.size = n → (l.foldl (fun cs (x : Value × Nat) => match x with | (c, j) => cs.setIfInBounds (off + j) c) cs).size = n := fun l cs n h => by
  rw [← Array.foldl_toList]
  generalize l.toList = l
  induction l generalizing cs with
  | nil => exact h
  | cons x l ih => exact ih _ (by simpa using h)
theorem fill_size (place : Nat → Option (Nat × Nat)) : ∀ (ps : List (Nat × Value)) (cs ds : List Value), Instr.fill place cs.toArray ps = some ds.toArray → ds.length = cs.length
  | [], cs, ds, h => by
    unfold Instr.fill at h
    have := Option.some.inj h
    have := congrArg Array.size this
    simpa using this.symm
  | (f, v) :: ps, cs, ds, h => by
    unfold Instr.fill at h
    split at h
    · cases h
    · rename_i off sz hp
      split at h
      · cases h
      · generalize he : (v.cells.zipIdx.foldl (fun cs (x : Value × Nat) => match x with | (c, j) => cs.setIfInBounds (off + j) c) cs.toArray) = ar at h
        have hs : ar.size = cs.length := by
          rw [← he]
          exact foldl_size _ _ _ (by simp)
        have h' : Instr.fill place ar.toList.toArray ps = some ds.toArray := by simpa using h
        have := fill_size place ps ar.toList ds h'
        rw [this]; simpa using hs

section
variable {α : Type} {bad : α} {T : α → Prop} (hb : ¬ T bad)
include hb
theorem putM_spec {h : Mem} {i : Nat} {b : Option Blk} {k : Mem → α} (hk : T (putM bad h i b k)) : ∃ h', T (k h') ∧ ∀ j, h'.get j = if j = i then b else h.get j := Tr.put hb b (i + 1) h i k hk
theorem store_sem {P : Program} {Γ : Ctx} (hΓ : TyOk P Γ) {callK : CallK α} {env : Env} {h : Mem} {n : Nat} (hd : Dom h.get n) {U : TypeId} {x y : Operand} {k : AV → Mem → Nat → List Nat → α} (hk : T (heapK bad Γ callK env h n (.store U x y) k)) :
    Did1 P Γ.gl T (.store U x y) env h n k := by
  unfold heapK at hk
  simp only at hk
  obtain ⟨t, ht, h1⟩ := tyK_spec hb hk
  obtain ⟨p, hp, h2⟩ := oK_spec hb h1
  cases p <;> try exact absurd h2 hb
  rename_i i off
  obtain ⟨b, hg, h3⟩ := memK_spec hb h2
  obtain ⟨ro, bx, ty, cells⟩ := b
  simp only at h3
  cases ro with
  | true => exact absurd h3 hb
  | false =>
    obtain ⟨v, hv, h4⟩ := oK_spec hb h3
    split at h4
    · rename_i hlen hone
      have hlen := Nat.eq_of_beq_eq_true hlen
      obtain ⟨h5, hle⟩ := wrK_spec hb _ _ _ _ h4
      obtain ⟨h', h6, hh⟩ := putM_spec hb h5
      have his : (h.get i).isSome = true := by rw [hg]; rfl
      refine ⟨_, h', n, [i], h6, Facts.upd hh his (hd.lt his), fun β W a o ho r hs hf K hK => ?_⟩
      obtain ⟨q, hq, e1⟩ := (hp.vr hs (x := x) (by simp [Op.operands])).ptr_inv
      have hvr := hv.vr hs (x := y) (by simp [Op.operands])
      obtain ⟨q', c, V, fz, hq', hi⟩ := r.at_ i _ hg
      rw [hq] at hq'; cases hq'
      have hvl := hvr.cells
      have hwl : (a.eval y).cells.toList.length = (cellsOf v).length := hvl.1.symm
      have hle' : off + (cellsOf v).length ≤ cells.length := hle
      have hfit : q.s + cells.length ≤ q.z := hi.fit
      have hst : (storeCells ⟨q.b, q.s + off, none⟩ (a.eval y).cells.toList 0).run P W = .ok () (W.setCells q.b (q.s + off + 0) (a.eval y).cells.toList) :=
        run_storeCells_cells (P := P) q.b (q.s + off) _ 0 W (fun j hj => by
          rw [Nat.add_zero, cell_of_row W q.b (q.s + off + j) c V fz hi.obj, Array.getElem?_eq_getElem (by rw [hi.size]; omega)]; rfl) (fun j hj => by
          rw [Nat.add_zero]; exact hi.free rfl _ (by omega)) (hvl.ones hone)
      rw [Nat.add_zero] at hst
      have hw := hi.write hvl (off := off) (by show off ≤ cells.length; omega) (by omega) ⟨false, bx, ty, cells.take off ++ cellsOf v ++ cells.drop (off + (cellsOf v).length)⟩ (fun h => h) rfl (fun V hV => hV) (fun hV => ⟨hV, hle'⟩)
      refine wp_skipped (W' := W.setCells q.b (q.s + off) (a.eval y).cells.toList) ?_ (hK β _ undef (Post.upd r his hq (kept_setCells q.b _ _ W) ⟨q, _, _, _, hq, hw⟩ hh n) (VR.undef β))
      unfold execOp
      simp only [ho, e1, Instr.storeAt, Instr.sureAddr, storeVar, Sem.run_bind, Sem.run_pure, Result.andThen_ok, (hΓ.ty U t ht).size]
      have hsz : (a.eval y).cells.size = t.size := by rw [← hlen, ← hwl]; simp
      simp [hsz, hst]
    · exact absurd h4 hb
/-- a new block of a variable -/
theorem new_sem {P : Program} {G : GlF} {op : Op} {env : Env} {h : Mem} {n : Nat} (hd : Dom h.get n) {U : TypeId} {cs : List AV} {k : AV → Mem → Nat → List Nat → α} (hk : T (newK bad h n ⟨false, true, some U, cs⟩ fun h n' => k (.ptr n 0) h n' []))
    (hrun : ∀ β W a o, o.op = op → Sees β env a op.operands → ∃ ws : List Value, VL β cs ws ∧ (execOp a.eval o).run P W = .ok (.value (.pointer (some ⟨W.heap.size, 0, none⟩))) (W.alloc (.cells ws.toArray U))) : Did1 P G T op env h n k := by
  obtain ⟨h', h1, hh⟩ := newK_spec hb hk
  have hn : h.get n = none := hd n (Nat.le_refl _)
  refine ⟨_, h', n + 1, [], h1, Facts.make (b := ⟨false, true, some U, cs⟩) [] (fun t ht => by cases ht) (fun j => by rw [hh]; simp), fun β W a o ho r hs hf K hK => ?_⟩
  obtain ⟨ws, hv, hr⟩ := hrun β W a o ho hs
  have hfn : β n = none := hf n (Nat.le_refl _)
  let β' : Be := fun j => if j = n then some ⟨W.heap.size, 0, ws.length⟩ else β j
  have hle : BLe β β' := fun j q hq => by
    show (if j = n then _ else β j) = _
    by_cases e : j = n
    · subst e; rw [hfn] at hq; cases hq
    · rw [if_neg e]; exact hq
  have hnew : BlkAt β' (W.alloc (.cells ws.toArray U)) n ⟨false, true, some U, cs⟩ := BlkAt.new (p := ⟨W.heap.size, 0, ws.length⟩) (c := ws) (U := U) (by simp [β']) rfl (heap_alloc_new W _) rfl (fun V hV => by cases hV; rfl) (fun _ => hv.1.symm) ⟨ws, [], by simp, hv.mono hle⟩
  refine wp_value hr (hK β' _ _ (Post.make r hfn hn ((Below.refl _ _).alloc (Nat.le_refl _) _) (p := ⟨W.heap.size, 0, ws.length⟩) (Nat.le_refl _) (fun j => rfl) hnew [] (fun j => by rw [hh]; simp)) ?_)
  exact .ptr n 0 ⟨W.heap.size, 0, ws.length⟩ (by simp [β'])
theorem alloc_sem {P : Program} {Γ : Ctx} (hΓ : TyOk P Γ) {callK : CallK α} {env : Env} {h : Mem} {n : Nat} (hd : Dom h.get n) {U : TypeId} {k : AV → Mem → Nat → List Nat → α} (hk : T (heapK bad Γ callK env h n (.alloc U) k)) :
    Did1 P Γ.gl T (.alloc U) env h n k := by
  unfold heapK at hk
  simp only at hk
  obtain ⟨t, ht, h1⟩ := tyK_spec hb hk
  obtain ⟨z, zs, hz1, hz2, hz3, _⟩ := (hΓ.ty U t ht).zero
  refine new_sem hb hd h1 fun β W a o ho hs => ⟨zs, hz3.mono (fun _ _ h => by cases h), ?_⟩
  unfold execOp
  simp [ho, Instr.alloc, hz1, newVar, newRow, hz2]
theorem box_sem {P : Program} {Γ : Ctx} {callK : CallK α} {env : Env} {h : Mem} {n : Nat} (hd : Dom h.get n) {U : TypeId} {x : Operand} {k : AV → Mem → Nat → List Nat → α} (hk : T (heapK bad Γ callK env h n (.box U x) k)) :
    Did1 P Γ.gl T (.box U x) env h n k := by
  unfold heapK at hk
  simp only at hk
  obtain ⟨t, ht, h1⟩ := tyK_spec hb hk
  obtain ⟨v, hv, h2⟩ := oK_spec hb h1
  refine new_sem hb hd h2 fun β W a o ho hs => ⟨(a.eval x).cells.toList, (hv.vr hs (x := x) (by simp [Op.operands])).cells, ?_⟩
  unfold execOp
  simp [ho, Instr.box, newVar, newRow]
/-- a new block behind a slice; the world may have been drawn on, and the cells may go on -/
theorem newSl_sem {P : Program} {G : GlF} {op : Op} {env : Env} {h : Mem} {n : Nat} (hd : Dom h.get n) {cs : List AV} {ty : Option Nat} {len c es : Nat} (hl : len ≤ c / 2) {k : AV → Mem → Nat → List Nat → α} (dl : List Nat) {h0 : Mem} (hh0 : ∀ j, h0.get j = if j ∈ dl then none else h.get j) (hdl : ∀ t, t ∈ dl → t < n ∧ (h.get t).isSome = true) (hk : T (newK bad h0 n ⟨false, false, ty, cs⟩ fun h n' => k (.sl n 0 len c es) h n' dl))
    (hrun : ∀ β W a o, o.op = op → HR G β h.get W → Sees β env a op.operands → (∃ (ws sp : List Value) (U : TypeId) (W' : World) (c' : Nat), VL β cs ws ∧ (∀ V, ty = some V → U = V) ∧ (c = 2 * c' ∨ ∃ m, c = 2 * m + 1 ∧ m ≤ c') ∧ (ws ++ sp).length = c' * es ∧
      (execOp a.eval o).run P W = .ok (.value (.slice (some ⟨W.heap.size, 0, none⟩) len c')) W' ∧ Below W.heap.size W W' ∧ ∃ fz : Nat × Nat, W'.heap[W.heap.size]? = some (.cells (ws ++ sp).toArray U fz) ∧ ∀ j, j < c' * es → W'.frozen? ⟨W.heap.size, j, none⟩ = false) ∨
      (∃ (i : Nat) (p : Pl) (ws : List Value) (W' : World) (c' off : Nat) (q : Pl), dl = [i] ∧ β i = some p ∧ q.b = p.b ∧ q.s = p.s + off ∧ q.z = p.z ∧ (c = 2 * c' ∨ ∃ m, c = 2 * m + 1 ∧ m ≤ c') ∧ q.s + c' * es ≤ q.z ∧
        (execOp a.eval o).run P W = .ok (.value (.slice (some ⟨q.b, q.s, none⟩) len c')) W' ∧ Kept (fun k => k = p.b) W W' ∧ ∃ ca U fz, BlkIs β W' q ⟨false, false, ty, cs⟩ ca U fz)) : Did1 P G T op env h n k := by
  obtain ⟨h', h1, hh⟩ := newK_spec hb hk
  have hn : h.get n = none := hd n (Nat.le_refl _)
  have hh' : ∀ j, h'.get j = if j = n then some ⟨false, false, ty, cs⟩ else if j ∈ dl then none else h.get j := fun j => by rw [hh, hh0]
  refine ⟨_, h', n + 1, dl, h1, Facts.make dl hdl hh', fun β W a o ho r hs hf K hK => ?_⟩
  have hfn : β n = none := hf n (Nat.le_refl _)
  have ble : ∀ p, BLe β (fun j => if j = n then some p else β j) := fun p j q hq => by
    show (if j = n then _ else β j) = _
    by_cases e : j = n
    · subst e; rw [hfn] at hq; cases hq
    · rw [if_neg e]; exact hq
  rcases hrun β W a o ho r hs with ⟨ws, sp, U, W', c', hv, hty, hcc, hlen, hr, hbl, fz, hobj, hfz⟩ | ⟨i, p, ws, W', c', off, q, rfl, hp, hqb, hqs, hqz, hcc, hfit, hr, hkept, ca, U, fz, hi⟩
  · have hnew : BlkAt (fun j => if j = n then some ⟨W.heap.size, 0, c' * es⟩ else β j) W' n ⟨false, false, ty, cs⟩ := by
      refine ⟨⟨W.heap.size, 0, c' * es⟩, _, U, fz, by simp, hobj, by simpa using hlen, fun _ j hj => hfz j hj, hty, (fun hV => by cases hV), ?_, ?_⟩
      · have h3 := hv.1
        simp at hlen ⊢; omega
      · have h3 := hv.mono (ble ⟨W.heap.size, 0, c' * es⟩)
        simp only [List.drop_zero, List.toList_toArray]
        rw [hv.1, List.take_left]; exact h3
    refine wp_value hr (hK _ _ _ (Post.make r hfn hn hbl (p := ⟨W.heap.size, 0, c' * es⟩) (Nat.le_refl _) (fun j => rfl) hnew dl hh') ?_)
    exact .sl n 0 len c c' es ⟨W.heap.size, 0, c' * es⟩ (by simp) hl hcc (by simp)
  · have his : (h.get i).isSome = true := (hdl i (List.mem_singleton.2 rfl)).2
    have hnew : BlkAt (fun j => if j = n then some q else β j) W' n ⟨false, false, ty, cs⟩ := ⟨q, ca, U, fz, by simp, hi.mono (ble q) rfl⟩
    refine wp_value hr (hK _ _ _ (Post.move r hfn hn his hp hkept hqb (fun j => rfl) hnew hh') ?_)
    exact .sl n 0 len c c' es q (by simp) hl hcc (by simpa using hfit)
omit hb in
theorem flat_get (z : List Value) (size : Nat) (hl : z.length = size) : ∀ (q i : Nat), i < q * size → ((List.replicate q z).flatten)[i]? = z[i % size]? := by
  intro q
  induction q with
  | zero => intro i hi; omega
  | succ q ih =>
    intro i hi
    rw [List.replicate_succ, List.flatten_cons]
    by_cases hlt : i < size
    · rw [List.getElem?_append_left (by omega), Nat.mod_eq_of_lt hlt]
    · rw [List.getElem?_append_right (by omega), ih (i - z.length) (by rw [Nat.add_mul] at hi; omega), hl]
      congr 1
      exact (Nat.mod_eq_sub_mod (by omega)).symm
omit hb in
theorem made_flat (z : List Value) (size m : Nat) (hl : z.length = size) : ((Array.range (m * size)).map (z.toArray[· % z.toArray.size]!)) = ((List.replicate m z).flatten).toArray := by
  apply Array.ext
  · simp [hl]
  · intro i h1 h2
    have hi' : i < m * size := by simpa using h1
    have hpos : 0 < size := by rcases Nat.eq_zero_or_pos size with h | h; (rw [h] at hi'; omega); exact h
    have h3 := flat_get z size hl m i hi'
    have h4 : i % size < z.length := by rw [hl]; exact Nat.mod_lt _ hpos
    rw [List.getElem?_eq_getElem (by simpa using h2), List.getElem?_eq_getElem h4] at h3
    have h5 := Option.some.inj h3
    simp only [Array.getElem_map, Array.getElem_range, List.getElem_toArray, h5]
    simp [hl, getElem!_pos, Nat.mod_lt _ hpos]
theorem elK_spec {Γ : Ctx} {U : TypeId} {k : Nat → TI → α} (h : T (elK bad Γ U k)) : ∃ t e te, Γ.ty U = some t ∧ t.kind = .slice e ∧ Γ.ty e = some te ∧ T (k e te) := by
  obtain ⟨t, ht, h1⟩ := tyK_spec hb h
  split at h1
  · rename_i e hk
    obtain ⟨te, hte, h2⟩ := tyK_spec hb h1
    exact ⟨t, e, te, ht, hk, hte, h2⟩
  · exact absurd h1 hb
omit hb in
theorem small_lt {n m : Nat} (h : small n m = true) : n * m < 10000000000000 := by
  have : Nat.blt (n * m) 10000000000000 = true := h
  simpa [Nat.blt_eq] using this
omit hb in
theorem smallL_lt {n m : Nat} (h : smallL n m = true) : n * m < 1000000 := by
  have : Nat.blt (n * m) 1000000 = true := h
  simpa [Nat.blt_eq] using this
theorem makeSlice_sem {P : Program} {Γ : Ctx} (hΓ : TyOk P Γ) {callK : CallK α} {env : Env} {h : Mem} {n : Nat} (hd : Dom h.get n) {U : TypeId} {x y : Operand} {k : AV → Mem → Nat → List Nat → α} (hk : T (heapK bad Γ callK env h n (.makeSlice U x y) k)) :
    Did1 P Γ.gl T (.makeSlice U x y) env h n k := by
  unfold heapK at hk
  simp only at hk
  obtain ⟨t, e, te, ht, hkd, hte, h1⟩ := elK_spec hb hk
  obtain ⟨vl, hvl, h2⟩ := oK_spec hb h1
  obtain ⟨vc, hvc, h3⟩ := oK_spec hb h2
  have hke := (hΓ.ty U t ht).kind
  rw [hkd] at hke
  have hk' : P.underlying U = some (.slice e) := hke
  split at h3
  · rename_i kl l kc c
    split at h3
    · rename_i hlc hpos hs1 hs2
      have hlc := Nat.le_of_ble_eq_true hlc
      have hpos := Nat.le_of_ble_eq_true hpos
      have hs1 := small_lt hs1
      have hs2 := small_lt hs2
      rw [repK_eq] at h3
      obtain ⟨z, zs, hz1, hz2, hz3, _⟩ := (hΓ.ty e te hte).zero
      obtain ⟨i0, z0, hi0, hz0, hsz, hby⟩ := (hΓ.ty e te hte).info
      have hzz : z0 = z := by
        have := hz1 default
        simp [zeroValue, typeInfo, hi0, hz0] at this
        exact this
      subst hzz
      refine newSl_sem (P := P) (G := Γ.gl) (op := .makeSlice U x y) hb hd (len := l) (c := 2 * c) (es := te.size) (ty := some e) (cs := (List.replicate c te.zero).flatten) (by omega) [] (h0 := h) (fun j => by simp) (fun t ht => by cases ht) (by
        revert h3; simp only [frcN_eq]; intro h3; exact h3) fun β W a o ho r hs => .inl ?_
      have ex := (hvl.vr hs (x := x) (by simp [Op.operands])).int_inv
      have ey := (hvc.vr hs (x := y) (by simp [Op.operands])).int_inv
      have hzl : zs.length = te.size := by rw [← hz3.1]; exact (hΓ.ty e te hte).zlen
      have hL : ((List.replicate c zs).flatten).length = c * te.size := by simp [hzl]
      have hrun := run_make (P := P) W U e i0 z0 hk' hi0 hz0 kl kc (Int.ofNat l) (Int.ofNat c) (by simp) (by simp; omega) (by
        rw [hby]
        have : te.bytes * c = c * te.bytes := Nat.mul_comm _ _
        simp only [Int.ofNat_eq_natCast]
        omega) (by
        have : c ≤ c * te.size := Nat.le_mul_of_pos_right _ hpos
        simp only [Int.ofNat_eq_natCast]
        omega)
      have hmade : madeCells z0.cells ((Int.ofNat c).toNat * i0.size) = ((List.replicate c zs).flatten).toArray := by
        rw [hz2, hsz]
        exact made_flat zs te.size c hzl
      rw [hmade] at hrun
      refine ⟨(List.replicate c zs).flatten, [], e, W.alloc (.cells ((List.replicate c zs).flatten).toArray e), c, (hz3.mono (fun _ _ h => by cases h)).rep c, (fun V hV => by cases hV; rfl), .inl rfl, by simpa using hL, ?_, (Below.refl _ _).alloc (Nat.le_refl _) _, (0, 0), by rw [List.append_nil]; exact heap_alloc_new W _, fun j hj => ?_⟩
      · unfold execOp
        simp only [ho, ex, ey, Sem.run_bind, hrun, Result.andThen_ok, Sem.run_pure]
        simp
      · exact frozen_new _ _ _ _
    · exact absurd h3 hb
  · exact absurd h3 hb
theorem buildSlice_sem {P : Program} {Γ : Ctx} (hΓ : TyOk P Γ) {callK : CallK α} {env : Env} {h : Mem} {n : Nat} (hd : Dom h.get n) {U : TypeId} {len : Nat} {parts : Array (Nat × Operand)} {k : AV → Mem → Nat → List Nat → α} (hk : T (heapK bad Γ callK env h n (.buildSlice U len parts) k)) :
    Did1 P Γ.gl T (.buildSlice U len parts) env h n k := by
  unfold heapK at hk
  simp only at hk
  obtain ⟨t, e, te, ht, hkd, hte, h1⟩ := elK_spec hb hk
  have hke := (hΓ.ty U t ht).kind
  rw [hkd] at hke
  have hk' : P.underlying U = some (.slice e) := hke
  split at h1
  · rename_i hpos hs1
    have hpos := Nat.le_of_ble_eq_true hpos
    have hs1 := smallL_lt hs1
    rw [repK_eq] at h1
    obtain ⟨cs, h2, hf⟩ := litK_spec hb _ _ _ h1
    obtain ⟨z, zs, hz1, hz2, hz3, _⟩ := (hΓ.ty e te hte).zero
    have hzl : zs.length = te.size := by rw [← hz3.1]; exact (hΓ.ty e te hte).zlen
    refine newSl_sem (P := P) (G := Γ.gl) (op := .buildSlice U len parts) hb hd (len := len) (c := 2 * len) (es := te.size) (ty := some e) (cs := cs) (by omega) [] (h0 := h) (fun j => by simp) (fun t ht => by cases ht) (by
      revert h2; simp only [frcN_eq]; intro h2; exact h2) fun β W a o ho r hs => .inl ?_
    have hm : ∀ p ∈ parts.toList, p.2 ∈ (Op.buildSlice U len parts).operands := fun p hp => by simp only [Op.operands]; simp; exact ⟨p.1, by simpa using hp⟩
    obtain ⟨ds, hdv, he⟩ := hf β a _ hs hm ((List.replicate len zs).flatten) ((hz3.mono (fun _ _ h => by cases h)).rep len)
    have hL : ds.length = len * te.size := by
      have h3 := fill_size _ _ _ _ he
      simp [hzl] at h3
      exact h3
    have hfl : Instr.fill (fun i => some (i * te.size, te.size)) ((Array.range (len * te.size)).map (zs.toArray[· % zs.toArray.size]!)) (parts.map fun (i, x) => (i, a.eval x)).toList = some ds.toArray := by
      rw [made_flat zs te.size len hzl, ← he]
      congr 1
      simp
    refine ⟨ds, [], e, W.alloc (.cells ds.toArray e), len, hdv, (fun V hV => by cases hV; rfl), .inl rfl, by simpa using hL, ?_, (Below.refl _ _).alloc (Nat.le_refl _) _, (0, 0), by rw [List.append_nil]; exact heap_alloc_new W _, fun j hj => frozen_new _ _ _ _⟩
    unfold execOp
    by_cases h0 : len * te.size = 0
    · have er : Array.range 0 = #[] := by simp
      have hfl0 : Instr.fill (fun i => some (i * te.size, te.size)) #[] (parts.map fun (i, x) => (i, a.eval x)).toList = some ds.toArray := by
        rw [h0, er] at hfl
        rw [← hfl]
        congr 1
        simp
      simp only [ho, Instr.buildSlice, Sem.run_bind, run_underlying hk', Result.andThen_ok, (hΓ.ty e te hte).size]
      simp only [h0, if_true, if_neg (show ¬ 0 > 2 ^ 24 by omega), Sem.run_bind, Result.andThen_ok, Sem.run_pure, er, Array.map_empty, hfl0]
      simp [newRow]
    · simp only [ho, Instr.buildSlice, Sem.run_bind, run_underlying hk', Result.andThen_ok, (hΓ.ty e te hte).size]
      simp only [h0, if_false, if_neg (show ¬ len * te.size > 2 ^ 24 by omega), Sem.run_bind, hz1, Result.andThen_ok, Sem.run_pure, hz2, hfl]
      simp [newRow]
  · exact absurd h1 hb
end
end Go.Proofs.YtcimgilfogeebaaGreatDoor.VM
