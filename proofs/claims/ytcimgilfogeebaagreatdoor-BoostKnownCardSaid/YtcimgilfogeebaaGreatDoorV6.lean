/- VM, 6: plain operations, all of them. -/
import Derived.Test.YtcimgilfogeebaaGreatDoorV5
set_option linter.unusedVariables false
set_option linter.unusedSimpArgs false
namespace Go.Proofs.YtcimgilfogeebaaGreatDoor.VM
open Go Go.RowKit Go.Proofs.YtcimgilfogeebaaGreatDoor

def PureSem (P : Program) (env : Env) (op : Op) (v : AV) : Prop :=
  ∀ (β : Be) (a : Act) (W : World) (o : Oper), o.op = op → Sees β env a op.operands → ∃ y, (execOp a.eval o).run P W = .ok (.value y) W ∧ VR β v y

/-- the cells of an agg, and the part that a field is -/
theorem asVar_part {β : Be} {ag : Bool} {l : List AV} {l' : List Value} (h : VL β l l') {v : AV} (hv : (ag = true ∧ v = .agg l) ∨ (ag = false ∧ l = [v])) :
    (ag = true ∧ VR β v (.agg l'.toArray)) ∨ (ag = false ∧ ∃ y, l' = [y] ∧ VR β v y) := by
  rcases hv with ⟨h1, rfl⟩ | ⟨h1, rfl⟩
  · exact .inl ⟨h1, .agg l l' h.1 h.2⟩
  · obtain ⟨y, r, rfl, hy, hr⟩ := h.cons_inv
    have := hr.nil_inv
    subst this
    exact .inr ⟨h1, y, rfl, hy⟩
theorem cut_get {α : Type} {l : List α} {o : Nat} {x : α} (h : (l.drop o).take 1 = [x]) : l[o]? = some x := by
  have := congrArg (·[0]?) h
  simpa [List.getElem?_take, List.getElem?_drop] using this
theorem wr_neg (k : IntKind) (n : Int) : wr k (Int.sub (.ofNat 0) n) = k.wrap (0 - n) := wr_eq k _

section
variable {α : Type} {bad : α} {T : α → Prop} (hb : ¬ T bad)
include hb
theorem outB_spec {op : BinOp} {r : Bool} {c : AV → α} (h : T (outB bad op r c)) : (op = .eql ∧ T (c (.bool r))) ∨ (op = .neq ∧ T (c (.bool (not r)))) := by
  cases op <;> cases r <;> first | exact absurd h hb | exact .inl ⟨rfl, h⟩ | exact .inr ⟨rfl, h⟩
end
theorem eq_deep {P : Program} {U : TypeId} {x y : Value} {r : Bool} {W : World} (h : ∀ d, (Op.equalIn (d + 1) U x y).run P W = .ok r W) : (Op.equal U x y).run P W = .ok r W := h 9999
theorem nilB_spec {P : Program} {U : TypeId} {kd : TK} (hk : kd.ok P U) {a b : AV} {r : Bool} (h : nilB kd a b = some r) {β : Be} {x y : Value} (hx : VR β a x) (hy : VR β b y) (W : World) :
    (Op.equal U x y).run P W = .ok r W ∧ (∀ xo yo op, eqGuard op U xo yo x y = pure ()) ∧ binOp .eql U x y = (do pure (.bool (← Op.equal U x y))) ∧ binOp .neq U x y = (do pure (.bool (!(← Op.equal U x y)))) := by
  unfold nilB at h
  split at h <;> cases h
  case h_1 | h_2 | h_3 | h_4 =>
    have hk' : P.underlying U = some .bool := hk
    cases hx; cases hy
    exact ⟨eq_deep fun d => by simp [Op.equalIn, run_underlying hk'], fun xo yo op => by cases op <;> rfl, rfl, rfl⟩
  case h_5 | h_6 | h_7 =>
    have hk' : P.underlying U = some (.pointer _) := hk
    cases hx; cases hy
    exact ⟨eq_deep fun d => by simp [Op.equalIn, run_underlying hk'], fun xo yo op => by cases op <;> rfl, rfl, rfl⟩
  case h_8 | h_9 | h_10 =>
    have hk' : P.underlying U = some (.slice _) := hk
    cases hx; cases hy
    exact ⟨eq_deep fun d => by simp [Op.equalIn, run_underlying hk'], fun xo yo op => by cases op <;> rfl, rfl, rfl⟩
  case h_11 | h_12 | h_13 =>
    obtain ⟨_, _, _, hk'⟩ := hk
    cases hx; cases hy
    exact ⟨eq_deep fun d => by simp [Op.equalIn, run_underlying hk'], fun xo yo op => by cases op <;> rfl, rfl, rfl⟩
theorem allI64_spec : ∀ {l : List AV}, allI64 l = true → ∃ xs : List Int, l = xs.map (AV.int .i64)
  | [], _ => ⟨[], rfl⟩
  | .int .i64 z :: l, h => by
    obtain ⟨xs, rfl⟩ := allI64_spec (l := l) h
    exact ⟨z :: xs, rfl⟩
  | .bool _ :: _, h | .int .i8 _ :: _, h | .int .i16 _ :: _, h | .int .i32 _ :: _, h | .int .u8 _ :: _, h | .int .u16 _ :: _, h | .int .u32 _ :: _, h | .int .u64 _ :: _, h | .str _ :: _, h | .ptr .. :: _, h | .glo .. :: _, h | .nilp :: _, h | .sl .. :: _, h | .nils :: _, h | .agg _ :: _, h | .tup _ :: _, h | .fn .. :: _, h | .nilf :: _, h | .ifc .. :: _, h | .nili :: _, h => by cases h
theorem eqInts_eq : ∀ (xs ys : List Int), eqInts (xs.map (AV.int .i64)) (ys.map (AV.int .i64)) = decide (xs = ys)
  | [], [] => rfl
  | [], y :: ys => by simp [eqInts]
  | x :: xs, [] => by simp [eqInts]
  | x :: xs, y :: ys => by
    have e : eqInts ((x :: xs).map (AV.int .i64)) ((y :: ys).map (AV.int .i64)) = match eqI x y with | true => eqInts (xs.map (AV.int .i64)) (ys.map (AV.int .i64)) | false => false := rfl
    rw [e, eqInts_eq xs ys, eqI_eq]
    by_cases h : x = y
    · subst h; simp
    · have : decide (x = y) = false := by simpa using h
      rw [this]; simp [h]
theorem aggI_inv {β : Be} {xs : List Int} {y : Value} (h : VR β (.agg (xs.map (AV.int .i64))) y) : y = .agg (xs.map (Value.int .i64)).toArray := by
  obtain ⟨l', rfl, hl⟩ : ∃ l' : List Value, y = .agg l'.toArray ∧ VL β (xs.map (AV.int .i64)) l' := by cases h with | agg _ l' hl h => exact ⟨l', rfl, hl, h⟩
  have key : ∀ (xs : List Int) (l : List Value), VL β (xs.map (AV.int .i64)) l → l = xs.map (Value.int .i64) := fun xs => by
    induction xs with
    | nil => exact fun l h => h.nil_inv
    | cons x xs ih =>
      intro l h
      obtain ⟨y, r, rfl, hy, hr⟩ := VL.cons_inv (x := AV.int .i64 x) (l := xs.map (AV.int .i64)) h
      rw [hy.int_inv, ih r hr]; rfl
  rw [key xs l' hl]
section
variable {α : Type} {bad : α} {T : α → Prop} (hb : ¬ T bad)
include hb
theorem nilK_spec {P : Program} {U : TypeId} {t : TI} (ht : TIOk P U t) {op : BinOp} {a b : AV} {c : AV → α} (h : T (nilK bad op t.kind a b c)) :
    ∃ r, T (c (.bool r)) ∧ ∀ (β : Be) (x y : Value), VR β a x → VR β b y → ∀ (xo yo : Operand) (W : World), (do eqGuard op U xo yo x y; binOp op U x y : Sem Value).run P W = .ok (.bool r) W := by
  unfold nilK at h
  split at h
  · rename_i r hr
    rcases outB_spec hb h with ⟨rfl, hh⟩ | ⟨rfl, hh⟩
    · refine ⟨r, hh, fun β x y hx hy xo yo W => ?_⟩
      obtain ⟨h1, h2, h3, h4⟩ := nilB_spec ht.kind hr hx hy W
      simp only [h2, h3, Sem.run_bind, Sem.run_pure, Result.andThen_ok, h1]
    · refine ⟨not r, hh, fun β x y hx hy xo yo W => ?_⟩
      obtain ⟨h1, h2, h3, h4⟩ := nilB_spec ht.kind hr hx hy W
      simp only [h2, h4, Sem.run_bind, Sem.run_pure, Result.andThen_ok, h1]
  · exact absurd h hb

omit hb in
/-- parts put into the cells of a zero value -/
theorem fold_set : ∀ (vs cs : List Value) (off j0 : Nat), off + j0 + vs.length ≤ cs.length → (vs.zipIdx j0).foldl (fun (c : Array Value) (p : Value × Nat) => c.setIfInBounds (off + p.2) p.1) cs.toArray = (cs.take (off + j0) ++ vs ++ cs.drop (off + j0 + vs.length)).toArray
  | [], cs, off, j0, _ => by simp
  | v :: r, cs, off, j0, h => by
    have hl' : off + j0 < cs.length := by simp at h; omega
    rw [List.zipIdx_cons, List.foldl_cons]
    have := fold_set r (cs.set (off + j0) v) off (j0 + 1) (by simp at h ⊢; omega)
    simp only [List.setIfInBounds_toArray]
    rw [this]
    congr 1
    rw [List.drop_set_of_lt (by omega), show off + (j0 + 1) = off + j0 + 1 by omega, List.take_set, List.take_succ_eq_append_getElem hl', List.set_append_right _ _ (by simp; omega)]
    simp [Nat.min_eq_left (Nat.le_of_lt hl'), Nat.add_assoc, Nat.add_comm 1]
omit hb in
theorem fill_one {place : Nat → Option (Nat × Nat)} {f fo sz : Nat} {v : Value} {vs cs : List Value} {rest : List (Nat × Value)} (hp : place f = some (fo, sz)) (hv : v.cells = vs.toArray) (hl : vs.length = sz) (hle : fo + sz ≤ cs.length) :
    Instr.fill place cs.toArray ((f, v) :: rest) = Instr.fill place (cs.take fo ++ vs ++ cs.drop (fo + vs.length)).toArray rest := by
  conv => lhs; unfold Instr.fill
  simp only [hp, hv]
  rw [if_neg (by simp [hl]; omega)]
  have h1 := fold_set vs cs fo 0 (by omega)
  rw [Nat.add_zero] at h1
  have e : (vs.toArray.zipIdx.foldl (fun (cs : Array Value) (x : Value × Nat) => match x with | (c, j) => cs.setIfInBounds (fo + j) c) cs.toArray) = (vs.zipIdx.foldl (fun (c : Array Value) (p : Value × Nat) => c.setIfInBounds (fo + p.2) p.1) cs.toArray) := by
    simp
  rw [e, h1]
theorem fillK_spec {env : Env} {fields : List (Nat × Bool × Nat)} : ∀ (ps : List (Nat × Operand)) (cs : List AV) (k : List AV → α), T (fillK bad env fields ps cs k) →
    ∃ cs', T (k cs') ∧ ∀ β a (all : Array Operand), Sees β env a all → (∀ p ∈ ps, p.2 ∈ all) → ∀ ds : List Value, VL β cs ds → ∃ ds', VL β cs' ds' ∧ Instr.fill (fun i => ((fields.map fun x => (x.1, x.2.2)).toArray)[i]?) ds.toArray (ps.map fun p => (p.1, a.eval p.2)) = some ds'.toArray
  | [], cs, k, h => ⟨cs, h, fun β a all hs hm ds hd => ⟨ds, hd, rfl⟩⟩
  | (f, x) :: ps, cs, k, h => by
    unfold fillK at h
    split at h
    · rename_i fo ag sz hf
      obtain ⟨v, hv, h1⟩ := oK_spec hb h
      split at h1
      · rename_i hl
        have hl := Nat.eq_of_beq_eq_true hl
        obtain ⟨h2, hle⟩ := wrK_spec hb _ _ _ _ h1
        obtain ⟨cs', hk, hfill⟩ := fillK_spec ps _ k h2
        refine ⟨cs', hk, fun β a all hs hm ds hd => ?_⟩
        have hvr := hv.vr hs (hm (f, x) (List.mem_cons_self ..))
        have hc := hvr.cells
        obtain ⟨ds', hd', he⟩ := hfill β a all hs (fun p hp => hm p (List.mem_cons_of_mem _ hp)) (ds.take fo ++ (a.eval x).cells.toList ++ ds.drop (fo + (a.eval x).cells.toList.length)) (by
          rw [← hc.1]; exact ((hd.take fo).app hc).app (hd.drop _))
        refine ⟨ds', hd', ?_⟩
        rw [← he, List.map_cons]
        exact fill_one (vs := (a.eval x).cells.toList) (fo := fo) (sz := sz) (by simp [hf]) (by simp) (by rw [← hc.1]; exact hl) (by rw [← hd.1]; omega)
      · exact absurd h1 hb
    · exact absurd h hb
theorem litK_spec {env : Env} {sz : Nat} : ∀ (ps : List (Nat × Operand)) (cs : List AV) (k : List AV → α), T (litK bad env sz ps cs k) →
    ∃ cs', T (k cs') ∧ ∀ β a (all : Array Operand), Sees β env a all → (∀ p ∈ ps, p.2 ∈ all) → ∀ ds : List Value, VL β cs ds → ∃ ds', VL β cs' ds' ∧ Instr.fill (fun i => some (i * sz, sz)) ds.toArray (ps.map fun p => (p.1, a.eval p.2)) = some ds'.toArray
  | [], cs, k, h => ⟨cs, h, fun β a all hs hm ds hd => ⟨ds, hd, rfl⟩⟩
  | (f, x) :: ps, cs, k, h => by
    unfold litK at h
    obtain ⟨v, hv, h1⟩ := oK_spec hb h
    split at h1
    · rename_i hl
      have hl := Nat.eq_of_beq_eq_true hl
      obtain ⟨h2, hle⟩ := wrK_spec hb _ _ _ _ h1
      obtain ⟨cs', hk, hfill⟩ := litK_spec ps _ k h2
      refine ⟨cs', hk, fun β a all hs hm ds hd => ?_⟩
      have hvr := hv.vr hs (hm (f, x) (List.mem_cons_self ..))
      have hc := hvr.cells
      obtain ⟨ds', hd', he⟩ := hfill β a all hs (fun p hp => hm p (List.mem_cons_of_mem _ hp)) (ds.take (f * sz) ++ (a.eval x).cells.toList ++ ds.drop (f * sz + (a.eval x).cells.toList.length)) (by
        rw [← hc.1]; exact ((hd.take _).app hc).app (hd.drop _))
      refine ⟨ds', hd', ?_⟩
      rw [← he, List.map_cons]
      exact fill_one (vs := (a.eval x).cells.toList) rfl (by simp) (by rw [← hc.1]; exact hl) (by rw [← hd.1]; have : Nat.mul f sz = f * sz := rfl; omega)
    · exact absurd h1 hb
end
end Go.Proofs.YtcimgilfogeebaaGreatDoor.VM
