/- VM, 4: how the machine's values stand for the program's; types; operands. -/
import Derived.Test.YtcimgilfogeebaaGreatDoorV3
import Derived.Test.YtcimgilfogeebaaGreatDoorBox
import Derived.Great.BuildSlice
set_option linter.unusedVariables false
set_option linter.unusedSimpArgs false
namespace Go.Proofs.YtcimgilfogeebaaGreatDoor.VM
open Go Go.RowKit Go.Proofs.YtcimgilfogeebaaGreatDoor

/-- where a block lies: its number, how many cells ahead of it, its size -/
structure Pl where
  b : Nat
  s : Nat
  z : Nat
abbrev Be := Nat → Option Pl
inductive VR (β : Be) : AV → Value → Prop
  | bool (b : Bool) : VR β (.bool b) (.bool b)
  | int (k : IntKind) (n : Int) : VR β (.int k n) (.int k n)
  | str (l : List Nat) (a : ByteArray) (h : a.data.toList.map UInt8.toNat = l) : VR β (.str l) (.string a)
  | ptr (i off : Nat) (p : Pl) (h : β i = some p) : VR β (.ptr i off) (.pointer (some ⟨p.b, p.s + off, none⟩))
  | glo (g off : Nat) : VR β (.glo g off) (.pointer (some ⟨g, off, none⟩))
  | nilp : VR β .nilp (.pointer none)
  | sl (i off n c c' es : Nat) (p : Pl) (h : β i = some p) (hn : n ≤ c / 2) (hc : c = 2 * c' ∨ ∃ m, c = 2 * m + 1 ∧ m ≤ c') (hz : p.s + off + c' * es ≤ p.z) : VR β (.sl i off n c es) (.slice (some ⟨p.b, p.s + off, none⟩) n c')
  | nils : VR β .nils (.slice none 0 0)
  | agg (l : List AV) (l' : List Value) (hl : l.length = l'.length) (h : ∀ (j : Nat) (x : AV) (y : Value), l[j]? = some x → l'[j]? = some y → VR β x y) : VR β (.agg l) (.agg l'.toArray)
  | tup (l : List AV) (l' : List Value) (hl : l.length = l'.length) (h : ∀ (j : Nat) (x : AV) (y : Value), l[j]? = some x → l'[j]? = some y → VR β x y) : VR β (.tup l) (.tuple l'.toArray)
  | fn (f : Fn) (a b : List AV) (a' b' : List Value) (hl : a.length = a'.length) (h : ∀ (j : Nat) (x : AV) (y : Value), a[j]? = some x → a'[j]? = some y → VR β x y) (hl2 : b.length = b'.length) (h2 : ∀ (j : Nat) (x : AV) (y : Value), b[j]? = some x → b'[j]? = some y → VR β x y) :
      VR β (.fn f a b) (.func f a'.toArray b'.toArray)
  | nilf : VR β .nilf .nilFunc
  | ifc (t : TypeId) (v : AV) (v' : Value) (h : VR β v v') : VR β (.ifc t v) (.iface t v')
  | nili : VR β .nili .nilIface
def VL (β : Be) (l : List AV) (l' : List Value) : Prop := l.length = l'.length ∧ ∀ (j : Nat) (x : AV) (y : Value), l[j]? = some x → l'[j]? = some y → VR β x y
def BLe (β γ : Be) : Prop := ∀ i p, β i = some p → γ i = some p
theorem VR.mono {β γ : Be} (hle : BLe β γ) {v : AV} {y : Value} (h : VR β v y) : VR γ v y := by
  induction h with
  | bool b => exact .bool b
  | int k n => exact .int k n
  | str l a h => exact .str l a h
  | ptr i off p h => exact .ptr i off p (hle i p h)
  | glo g off => exact .glo g off
  | nilp => exact .nilp
  | sl i off n c c' es p h hn hc hz => exact .sl i off n c c' es p (hle i p h) hn hc hz
  | nils => exact .nils
  | agg l l' hl h ih => exact .agg l l' hl ih
  | tup l l' hl h ih => exact .tup l l' hl ih
  | fn f a b a' b' hl h hl2 h2 ih ih2 => exact .fn f a b a' b' hl ih hl2 ih2
  | nilf => exact .nilf
  | ifc t v v' h ih => exact .ifc t v v' ih
  | nili => exact .nili
theorem VL.mono {β γ : Be} (hle : BLe β γ) {l : List AV} {l' : List Value} (h : VL β l l') : VL γ l l' := ⟨h.1, fun j x y hx hy => (h.2 j x y hx hy).mono hle⟩
theorem VL.nil (β : Be) : VL β [] [] := ⟨rfl, fun j x y hx _ => by simp at hx⟩
theorem VL.cons {β : Be} {x : AV} {y : Value} {l : List AV} {l' : List Value} (h : VR β x y) (hl : VL β l l') : VL β (x :: l) (y :: l') :=
  ⟨by simp [hl.1], fun j u v hu hv => by cases j with
    | zero => simp at hu hv; subst hu; subst hv; exact h
    | succ j => exact hl.2 j u v (by simpa using hu) (by simpa using hv)⟩
theorem VL.head {β : Be} {x : AV} {y : Value} {l : List AV} {l' : List Value} (h : VL β (x :: l) (y :: l')) : VR β x y := h.2 0 x y rfl rfl
theorem VL.tail {β : Be} {x : AV} {y : Value} {l : List AV} {l' : List Value} (h : VL β (x :: l) (y :: l')) : VL β l l' := ⟨by have := h.1; simpa using this, fun j u v hu hv => h.2 (j + 1) u v (by simpa using hu) (by simpa using hv)⟩
theorem VL.nil_inv {β : Be} {l' : List Value} (h : VL β [] l') : l' = [] := List.eq_nil_of_length_eq_zero h.1.symm
theorem VL.cons_inv {β : Be} {x : AV} {l : List AV} {l' : List Value} (h : VL β (x :: l) l') : ∃ y r, l' = y :: r ∧ VR β x y ∧ VL β l r := by
  cases l' with
  | nil => have := h.1; simp at this
  | cons y r => exact ⟨y, r, rfl, h.head, h.tail⟩
theorem VL.get {β : Be} {l : List AV} {l' : List Value} (h : VL β l l') {j : Nat} {x : AV} (hx : l[j]? = some x) : ∃ y, l'[j]? = some y ∧ VR β x y := by
  have hj : j < l.length := (List.getElem?_eq_some_iff.1 hx).1
  have hj' : j < l'.length := by rw [← h.1]; exact hj
  exact ⟨l'[j], List.getElem?_eq_getElem hj', h.2 j x _ hx (List.getElem?_eq_getElem hj')⟩
theorem VL.app {β : Be} {l m : List AV} {l' m' : List Value} (h : VL β l l') (k : VL β m m') : VL β (l ++ m) (l' ++ m') :=
  ⟨by simp [h.1, k.1], fun j x y hx hy => by
    by_cases hj : j < l.length
    · rw [List.getElem?_append_left hj] at hx
      rw [List.getElem?_append_left (by rw [← h.1]; exact hj)] at hy
      exact h.2 j x y hx hy
    · rw [List.getElem?_append_right (by omega)] at hx
      rw [List.getElem?_append_right (by rw [← h.1]; omega), ← h.1] at hy
      exact k.2 _ x y hx hy⟩
theorem VL.drop {β : Be} {l : List AV} {l' : List Value} (h : VL β l l') (n : Nat) : VL β (l.drop n) (l'.drop n) :=
  ⟨by simp [h.1], fun j x y hx hy => by rw [List.getElem?_drop] at hx hy; exact h.2 _ x y hx hy⟩
theorem VL.take {β : Be} {l : List AV} {l' : List Value} (h : VL β l l') (n : Nat) : VL β (l.take n) (l'.take n) :=
  ⟨by simp [h.1], fun j x y hx hy => by
    rw [List.getElem?_take] at hx hy
    split at hx
    · rename_i hj; rw [if_pos hj] at hy; exact h.2 _ x y hx hy
    · cases hx⟩
theorem VL.rep {β : Be} {l : List AV} {l' : List Value} (h : VL β l l') : ∀ n, VL β ((List.replicate n l).flatten) ((List.replicate n l').flatten)
  | 0 => VL.nil β
  | n + 1 => by rw [List.replicate_succ, List.flatten_cons, List.replicate_succ, List.flatten_cons]; exact h.app (VL.rep h n)
theorem VR.cells {β : Be} {v : AV} {y : Value} (h : VR β v y) : VL β (cellsOf v) y.cells.toList := by
  cases h with
  | agg l l' hl h => exact ⟨hl, h⟩
  | bool b => exact (VL.nil β).cons (.bool b)
  | int k n => exact (VL.nil β).cons (.int k n)
  | str l a h => exact (VL.nil β).cons (.str l a h)
  | ptr i off p h => exact (VL.nil β).cons (.ptr i off p h)
  | glo g off => exact (VL.nil β).cons (.glo g off)
  | nilp => exact (VL.nil β).cons .nilp
  | sl i off n c c' es p h hn hc hz => exact (VL.nil β).cons (.sl i off n c c' es p h hn hc hz)
  | nils => exact (VL.nil β).cons .nils
  | tup l l' hl h => exact (VL.nil β).cons (.tup l l' hl h)
  | fn f a b a' b' hl h hl2 h2 => exact (VL.nil β).cons (.fn f a b a' b' hl h hl2 h2)
  | nilf => exact (VL.nil β).cons .nilf
  | ifc t v v' h => exact (VL.nil β).cons (.ifc t v v' h)
  | nili => exact (VL.nil β).cons .nili
theorem VR.one {β : Be} {v : AV} {y : Value} (h : VR β v y) (ho : oneCell v = true) : y.oneCell' = true := by
  cases h <;> first | rfl | cases ho
theorem allOne_mem : ∀ {l : List AV}, allOne l = true → ∀ v ∈ l, oneCell v = true
  | [], _, v, hv => by cases hv
  | u :: r, h, v, hv => by
    have h' : (Bool.rec (motive := fun _ => Bool) false (allOne r) (oneCell u) : Bool) = true := h
    cases hu : oneCell u with
    | false => rw [hu] at h'; cases h'
    | true =>
      rw [hu] at h'
      rcases List.mem_cons.1 hv with rfl | hv
      · exact hu
      · exact allOne_mem h' v hv
theorem VL.ones {β : Be} {l : List AV} {l' : List Value} (h : VL β l l') (ho : allOne l = true) : ∀ u ∈ l', u.oneCell' = true := fun u hu => by
  obtain ⟨j, hj⟩ := List.getElem?_of_mem hu
  have hl : j < l.length := by rw [h.1]; exact (List.getElem?_eq_some_iff.1 hj).1
  exact (h.2 j _ u (List.getElem?_eq_getElem hl) hj).one (allOne_mem ho _ (List.getElem_mem hl))

/-! ### Constants -/
theorem ofV1_ok {β : Be} {v : Value} {u : AV} (h : ofV1 v = some u) : VR β u v := by
  unfold ofV1 at h
  split at h <;> first | (cases h; done) | (cases h; first | exact .bool _ | exact .int _ _ | exact .str _ _ rfl | exact .nilp | exact .nils | exact .nilf | exact .nili | exact .fn _ [] [] [] [] rfl (fun j x y hx => by simp at hx) rfl (fun j x y hx => by simp at hx))
theorem ofVs_ok {β : Be} : ∀ {l : List Value} {r : List AV}, ofVs l = some r → VL β r l
  | [], r, h => by cases h; exact VL.nil β
  | v :: l, r, h => by
    unfold ofVs at h
    split at h
    · cases h
    · rename_i x hx
      split at h
      · cases h
      · rename_i m hm
        cases h
        exact (ofVs_ok hm).cons (ofV1_ok hx)
theorem ofV_ok {β : Be} {v : Value} {u : AV} (h : ofV v = some u) : VR β u v := by
  unfold ofV at h
  split at h
  · split at h
    · rename_i l hl
      cases h
      have := ofVs_ok (β := β) hl
      exact .agg _ _ this.1 this.2
    · cases h
  · cases h; exact .tup [] [] rfl (fun j x y hx => by simp at hx)
  · exact ofV1_ok h

/-! ### Types -/
def TK.ok (P : Program) (T : TypeId) : TK → Prop
  | .int k => P.underlying T = some (.int k)
  | .bool => P.underlying T = some .bool
  | .str => P.underlying T = some .string
  | .slice e => P.underlying T = some (.slice e)
  | .arr n e => P.underlying T = some (.array n e)
  | .ptr e => P.underlying T = some (.pointer e)
  | .fn => ∃ a b c, P.underlying T = some (.func a b c)
  | .strct => ∃ fs, P.underlying T = some (.struct fs)
  | .other => True
def fieldSem (ag : Bool) (fo sz : Nat) (cs : Array Value) : Sem Value := match ag with
  | true => pure (.agg (cs.extract fo (fo + sz)))
  | false => match cs[fo]? with
    | some v => pure v
    | none => stuck "part: no such cell"
def FOk (P : Program) (T : TypeId) : Nat → List (Nat × Bool × Nat) → Prop
  | _, [] => True
  | k, (fo, ag, sz) :: r => ((∀ (w : World) (a : Addr), (Instr.fieldAt T (.pointer (some a)) k).run P w = .ok (.pointer (some (a.add fo))) w) ∧
      (∀ (w : World) (cs : Array Value), (Instr.field T (.agg cs) k).run P w = (fieldSem ag fo sz cs).run P w)) ∧ FOk P T (k + 1) r
structure TIOk (P : Program) (T : TypeId) (t : TI) : Prop where
  agg : ∀ w : World, (isAgg T).run P w = .ok t.agg w
  size : ∀ w : World, (sizeOf T).run P w = .ok t.size w
  zero : ∃ (z : Value) (zs : List Value), (∀ w : World, (zeroValue T).run P w = .ok z w) ∧ z.cells = zs.toArray ∧ VL (fun _ => none) t.zero zs ∧
    (t.kind = .strct → ∀ parts, P.built T parts = Instr.fill (fun i => ((t.fields.map fun x => (x.1, x.2.2)).toArray)[i]?) zs.toArray parts)
  zlen : t.zero.length = t.size
  fields : FOk P T 0 t.fields
  kind : t.kind.ok P T
  info : ∃ i z, P.info? T = some i ∧ i.zero = some z ∧ i.size = t.size ∧ i.bytes = t.bytes
theorem TIOk.und {P : Program} {T : TypeId} {t : TI} (h : TIOk P T t) : ∃ d, P.underlying T = some d := by
  have h1 := h.agg default
  unfold isAgg underlying at h1
  cases hu : P.underlying T with
  | some d => exact ⟨d, rfl⟩
  | none => simp [hu, stuck] at h1
theorem FOk.get {P : Program} {T : TypeId} : ∀ {l : List (Nat × Bool × Nat)} {k : Nat}, FOk P T k l → ∀ {f fo : Nat} {ag : Bool} {sz : Nat}, l[f]? = some (fo, ag, sz) →
    ((∀ (w : World) (a : Addr), (Instr.fieldAt T (.pointer (some a)) (k + f)).run P w = .ok (.pointer (some (a.add fo))) w) ∧
      (∀ (w : World) (cs : Array Value), (Instr.field T (.agg cs) (k + f)).run P w = (fieldSem ag fo sz cs).run P w))
  | [], k, _, f, fo, ag, sz, h => by simp at h
  | (fo', ag', sz') :: r, k, hok, f, fo, ag, sz, h => by
    cases f with
    | zero => simp at h; obtain ⟨rfl, rfl, rfl⟩ := h; exact hok.1
    | succ f =>
      have := FOk.get hok.2 (f := f) (fo := fo) (ag := ag) (sz := sz) (by simpa using h)
      rwa [show k + 1 + f = k + (f + 1) by omega] at this
/-- values of the type are alike if their cells are: so many ints -/
def EqOk (P : Program) (T : TypeId) (q : Nat) : Prop := ∀ (xs ys : List Int), xs.length = q → ys.length = q → ∀ (xo yo : Operand) (W : World),
  (do eqGuard .eql T xo yo (.agg (xs.map (Value.int .i64)).toArray) (.agg (ys.map (Value.int .i64)).toArray); binOp .eql T (.agg (xs.map (Value.int .i64)).toArray) (.agg (ys.map (Value.int .i64)).toArray) : Sem Value).run P W = .ok (.bool (decide (xs = ys))) W ∧
  (do eqGuard .neq T xo yo (.agg (xs.map (Value.int .i64)).toArray) (.agg (ys.map (Value.int .i64)).toArray); binOp .neq T (.agg (xs.map (Value.int .i64)).toArray) (.agg (ys.map (Value.int .i64)).toArray) : Sem Value).run P W = .ok (.bool (!decide (xs = ys))) W
structure TyOk (P : Program) (Γ : Ctx) : Prop where
  ty : ∀ T t, Γ.ty T = some t → TIOk P T t
  eq : ∀ T q, Γ.eq T = some q → EqOk P T q

/-! ### Operands -/
def opv (env : Env) (x : Operand) (v : AV) : Prop := match x with
  | .tmp t => env.get t = some v
  | .const c => ofV c = some v
  | .global g => v = .glo g 0
  | .func f => v = .fn (.func f) [] []
/-- what the slots that are looked at hold -/
def Sees (β : Be) (env : Env) (a : Act) (xs : Array Operand) : Prop := ∀ t, Operand.tmp t ∈ xs → ∀ v, env.get t = some v → VR β v (a.eval (.tmp t))
theorem opv.vr {β : Be} {env : Env} {a : Act} {xs : Array Operand} (hs : Sees β env a xs) {x : Operand} (hx : x ∈ xs) {v : AV} (h : opv env x v) : VR β v (a.eval x) := by
  cases x with
  | tmp t => exact hs t hx v h
  | const c => exact ofV_ok h
  | global g => cases h; exact .glo g 0
  | func f => cases h; exact .fn (.func f) [] [] [] [] rfl (fun j x y hx => by simp at hx) rfl (fun j x y hx => by simp at hx)
section
variable {α : Type} {bad : α} {T : α → Prop} (hb : ¬ T bad)
include hb
theorem oK_spec {env : Env} {x : Operand} {k : AV → α} (h : T (oK bad env x k)) : ∃ v, opv env x v ∧ T (k v) := by
  unfold oK at h
  cases x with
  | tmp t =>
    simp only at h
    cases hg : env.get t with
    | none => rw [hg] at h; exact absurd h hb
    | some v => rw [hg] at h; exact ⟨v, hg, h⟩
  | const c =>
    simp only at h
    cases hg : ofV c with
    | none => rw [hg] at h; exact absurd h hb
    | some v => rw [hg] at h; exact ⟨v, hg, h⟩
  | global g => exact ⟨_, rfl, h⟩
  | func f => exact ⟨_, rfl, h⟩
theorem osK_spec {env : Env} : ∀ (xs : List Operand) (k : List AV → α), T (osK bad env xs k) → ∃ vs, T (k vs) ∧ ∀ β a (all : Array Operand), Sees β env a all → (∀ x ∈ xs, x ∈ all) → VL β vs (xs.map a.eval)
  | [], k, h => ⟨[], h, fun β _ _ _ _ => VL.nil β⟩
  | x :: xs, k, h => by
    obtain ⟨v, hv, h1⟩ := oK_spec hb h
    obtain ⟨vs, h2, h3⟩ := osK_spec xs _ h1
    exact ⟨v :: vs, h2, fun β a all hs hm => (h3 β a all hs fun y hy => hm y (List.mem_cons_of_mem _ hy)).cons (hv.vr hs (hm x (List.mem_cons_self ..)))⟩
theorem tyK_spec {Γ : Ctx} {U : TypeId} {k : TI → α} (h : T (tyK bad Γ U k)) : ∃ t, Γ.ty U = some t ∧ T (k t) := by
  unfold tyK at h
  cases hg : Γ.ty U with
  | none => rw [hg] at h; exact absurd h hb
  | some v => rw [hg] at h; exact ⟨v, rfl, h⟩
theorem asVarK_spec {ag : Bool} {l : List AV} {k : AV → α} (h : T (asVarK bad ag l k)) : ∃ v, T (k v) ∧ ((ag = true ∧ v = .agg l) ∨ (ag = false ∧ l = [v])) := by
  unfold asVarK at h
  cases ag with
  | true => exact ⟨_, h, .inl ⟨rfl, rfl⟩⟩
  | false =>
    cases l with
    | nil => exact absurd h hb
    | cons x r => cases r with
      | nil => exact ⟨x, h, .inr ⟨rfl, rfl⟩⟩
      | cons y r => exact absurd h hb
theorem bndK_spec {env : Env} {x : Option Operand} {d y : Nat} {k : Nat → α} (h : T (bndK bad env x d y k)) : (x = none ∧ T (k d)) ∨ ∃ x' kd n, x = some x' ∧ opv env x' (.int kd (.ofNat n)) ∧ n ≤ y ∧ T (k n) := by
  unfold bndK at h
  cases x with
  | none => exact .inl ⟨rfl, h⟩
  | some x =>
    obtain ⟨v, hv, h1⟩ := oK_spec hb h
    cases v <;> try exact absurd h1 hb
    rename_i kd n
    cases n <;> try exact absurd h1 hb
    rename_i n
    simp only at h1
    cases hn : Nat.ble n y with
    | false => rw [hn] at h1; exact absurd h1 hb
    | true => rw [hn] at h1; exact .inr ⟨x, kd, n, rfl, hv, Nat.le_of_ble_eq_true hn, h1⟩
theorem idxK_spec {env : Env} {x : Operand} {y : Nat} {k : Nat → α} (h : T (idxK bad env x y k)) : ∃ kd n, opv env x (.int kd (.ofNat n)) ∧ n < y ∧ T (k n) := by
  unfold idxK at h
  obtain ⟨v, hv, h1⟩ := oK_spec hb h
  cases v <;> try exact absurd h1 hb
  rename_i kd n
  cases n <;> try exact absurd h1 hb
  rename_i n
  simp only at h1
  cases hn : Nat.blt n y with
  | false => rw [hn] at h1; exact absurd h1 hb
  | true => rw [hn] at h1; exact ⟨kd, n, hv, by simpa [Nat.blt_eq] using hn, h1⟩
end
theorem VR.int_inv {β : Be} {k : IntKind} {n : Int} {y : Value} (h : VR β (.int k n) y) : y = .int k n := by cases h; rfl
theorem VR.bool_inv {β : Be} {b : Bool} {y : Value} (h : VR β (.bool b) y) : y = .bool b := by cases h; rfl
end Go.Proofs.YtcimgilfogeebaaGreatDoor.VM
