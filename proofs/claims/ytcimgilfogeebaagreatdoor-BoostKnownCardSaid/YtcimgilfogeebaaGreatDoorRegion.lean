/- A region that draws its order, whose operations each give a value of which something is known in every world that has grown from the first, or make a new variable, or fill such a variable: whatever order is drawn, at the end all of it is known. -/
import Derived.Test.YtcimgilfogeebaaGreatDoorBox
import Derived.StillTail
import Derived.WalkKit
set_option linter.unusedVariables false
set_option linter.unusedSimpArgs false
namespace Go.Proofs.YtcimgilfogeebaaGreatDoor
open Go.RowKit

/-- what an operation of a region does -/
inductive Kd where
  | val (Sp : Value → World → Prop)
  | fresh (T : TypeId) (z : Array Value) (st : Nat) (cs : Array Value)
  | store (al : Nat)

def KeptT (Ts : List TypeId) (w w' : World) : Prop := w.heap.size ≤ w'.heap.size ∧ ∀ (b : Nat) (o : Obj), w.heap[b]? = some o → (∀ cs T fz, o = Obj.cells cs T fz → T ∉ Ts) → w'.heap[b]? = some o
theorem KeptT.of_below {Ts : List TypeId} {w w' : World} (h : Below w.heap.size w w') : KeptT Ts w w' := ⟨h.size, fun b o hb _ => by rw [h.block b (lt_of_block' hb)]; exact hb⟩
where lt_of_block' {w : World} {b : Nat} {o : Obj} (h : w.heap[b]? = some o) : b < w.heap.size := (Array.getElem?_eq_some_iff.1 h).1
theorem KeptT.of_set {Ts : List TypeId} {w w' : World} {b : Nat} {cs : Array Value} {T : TypeId} (h : Kept (fun k => k = b) w w') (hb : Box w b cs T) (hT : T ∈ Ts) : KeptT Ts w w' :=
  ⟨h.size, fun k o hk hn => by
    have hlt : k < w.heap.size := (Array.getElem?_eq_some_iff.1 hk).1
    have hne : k ≠ b := fun e => by
      subst e
      unfold Box at hb
      rw [hb] at hk
      exact hn cs T (0, 0) (Option.some.inj hk).symm hT
    rw [h.block k hlt hne]; exact hk⟩

def ptrV (b : Nat) : Value := .pointer (some ⟨b, 0, none⟩)
def QF : Exit → Act → World → Prop := fun _ _ _ => False

section
variable (ops : Array Oper)
def dstOf (i : Nat) : Option Tmp := (ops[i]?).bind (·.dst)
def fillTo (x : Nat → Value) (a : Act) : Nat → Act
  | 0 => a
  | i + 1 => (fillTo x a i).put (dstOf ops i) (x i)
def upd (x : Nat → Value) (i : Nat) (v : Value) : Nat → Value := fun j => if j = i then v else x j
/-- the slots that operation i looks at are settled by its place in the text -/
def seesB (i : Nat) : Bool :=
  match ops[i]? with
  | none => true
  | some o => (o.looksAt ops).all fun d => (List.range ops.size).all fun j => dstOf ops j != some d || (decide (j < i) && Region.waitsFor .any ops i j) || j == i || (decide (i < j) && Region.waitsFor .any ops j i)
def goodB (m n : Nat) : Bool :=
  (List.range m).all (fun i => seesB ops i) &&
  (List.range ops.size).all (fun i => (match dstOf ops i with | some d => decide (d < n) | none => true) && (List.range ops.size).all fun j => i == j || dstOf ops i == none || dstOf ops i != dstOf ops j) &&
  Region.noSelect ops
/-- an operation waits for earlier ones alone -/
def edgesB : Bool := (List.range ops.size).all fun i => match ops[i]? with
  | none => true
  | some o => o.after.all fun e => !Region.binds .any e || decide (e.on < i)
end

theorem fillTo_size (ops : Array Oper) (x : Nat → Value) (a : Act) (i : Nat) : (fillTo ops x a i).tmps.size = a.tmps.size := by
  induction i with
  | zero => rfl
  | succ i ih => unfold fillTo; cases dstOf ops i <;> simp [Act.put, ih]
theorem fillTo_defers (ops : Array Oper) (x : Nat → Value) (a : Act) (i : Nat) : (fillTo ops x a i).defers = a.defers := by
  induction i with
  | zero => rfl
  | succ i ih => unfold fillTo; cases dstOf ops i <;> simp [Act.put, ih]
theorem fillTo_old (ops : Array Oper) (x : Nat → Value) (a : Act) (t : Tmp) (i : Nat) (h : ∀ j, j < i → dstOf ops j ≠ some t) : (fillTo ops x a i).tmps[t]? = a.tmps[t]? := by
  induction i with
  | zero => rfl
  | succ i ih =>
    have h1 := ih (fun j hj => h j (by omega))
    have h2 := h i (by omega)
    unfold fillTo
    cases hd : dstOf ops i with
    | none => simpa [Act.put] using h1
    | some d =>
      have : d ≠ t := fun e => h2 (by rw [hd, e])
      simp only [Act.put]
      rw [Array.getElem?_setIfInBounds_ne this]; exact h1
theorem fillTo_new (ops : Array Oper) (x : Nat → Value) (a : Act) (t : Tmp) (j i : Nat) (hj : j < i) (hd : dstOf ops j = some t) (hu : ∀ k, k ≠ j → dstOf ops k ≠ some t) (ht : t < a.tmps.size) : (fillTo ops x a i).tmps[t]? = some (x j) := by
  induction i with
  | zero => omega
  | succ i ih =>
    unfold fillTo
    by_cases e : j = i
    · subst e
      rw [hd]
      simp [Act.put, fillTo_size, ht]
    · have h1 := ih (by omega)
      have h2 := hu i (fun e' => e e'.symm)
      cases hd' : dstOf ops i with
      | none => simpa [Act.put] using h1
      | some d =>
        have : d ≠ t := fun e => h2 (by rw [hd', e])
        simp only [Act.put]
        rw [Array.getElem?_setIfInBounds_ne this]; exact h1

/-- in the middle of a region -/
structure Mid (ops : Array Oper) (a0 : Act) (m base : Nat) (ks : Nat → Kd) (C : World → Prop) (w0 : World) (L : Array Bool) (a : Act) (w : World) (x : Nat → Value) : Prop where
  inv : HeadInv .any ops m L
  size : a.tmps.size = a0.tmps.size
  defers : a.defers = a0.defers
  set : ∀ i d, dstOf ops i = some d → L.getD i false = true → a.tmps[d]? = some (x i)
  old : ∀ t, (∀ i, dstOf ops i = some t → L.getD i false = false) → a.tmps[t]? = a0.tmps[t]?
  cls : C w
  bel : Below base w0 w
  vals : ∀ i Sp, ks i = .val Sp → L.getD i false = true → Sp (x i) w
  fresh : ∀ i T z st cs, ks i = .fresh T z st cs → L.getD i false = true → ∃ b, x i = ptrV b ∧ base ≤ b ∧ Box w b (if L.getD st false then cs else z) T
  apart : ∀ i j T z st cs T' z' st' cs', i ≠ j → ks i = .fresh T z st cs → ks j = .fresh T' z' st' cs' → L.getD i false = true → L.getD j false = true → x i ≠ x j

theorem getD_set_self {L : Array Bool} {i : Nat} (h : i < L.size) : (L.setIfInBounds i true).getD i false = true := by simp [h]
theorem getD_set_or {L : Array Bool} {i j : Nat} (h : (L.setIfInBounds i true).getD j false = true) : j = i ∨ L.getD j false = true := by
  by_cases e : i = j
  · exact .inl e.symm
  · right; rw [getD_set_ne false e] at h; exact h

/-- what the walk knows at an operation -/
structure Deps (ops : Array Oper) (ks : Nat → Kd) (x : Nat → Value) (w : World) (i : Nat) : Prop where
  val : ∀ j Sp, Region.waitsFor .any ops i j = true → ks j = .val Sp → Sp (x j) w

/-- operation i, shown at its place in the text -/
def Obl (P : Program) (ops : Array Oper) (a0 : Act) (base : Nat) (ks : Nat → Kd) (C : World → Prop) (i : Nat) (o : Oper) : Prop :=
  match ks i with
  | .val Sp => (dstOf ops i).isSome = true ∧ ∀ (x : Nat → Value) (w : World), C w → base ≤ w.heap.size → Deps ops ks x w i → ∀ K : Act → World → Prop, (∀ v w', Sp v w' → Below w.heap.size w w' → K ((fillTo ops x a0 i).put o.dst v) w') →
      if Region.wanted o (yielded ops (fillTo ops x a0 i).tmps) = true then Oper.wp P o (fillTo ops x a0 i) w K QF else K ((fillTo ops x a0 i).put o.dst undef) w
  | .fresh T z st _ => (dstOf ops i).isSome = true ∧ Region.waitsFor .any ops st i = true ∧ ks st = .store i ∧ o.guard = none ∧ ∀ (x : Nat → Value) (w : World) (K : Act → World → Prop), K ((fillTo ops x a0 i).put o.dst (ptrV w.heap.size)) (w.alloc (.cells z T)) → Oper.wp P o (fillTo ops x a0 i) w K QF
  | .store al => o.guard = none ∧ o.dst = none ∧ Region.waitsFor .any ops i al = true ∧ al < i ∧ ∃ T z cs, ks al = .fresh T z i cs ∧ ∀ (x : Nat → Value) (w : World) (b : Nat), C w → base ≤ b → x al = ptrV b → Box w b z T → Deps ops ks x w i → ∀ K : Act → World → Prop, (∀ w', Box w' b cs T → Kept (fun k => k = b) w w' → K (fillTo ops x a0 i) w') → Oper.wp P o (fillTo ops x a0 i) w K QF

theorem wp_transfer {P : Program} {o : Oper} {a a1 : Act} {w : World} {K K2 : Act → World → Prop} {Q : Exit → Act → World → Prop} (hx : execOp a.eval o = execOp a1.eval o)
    (h : Oper.wp P o a1 w K QF) (hd : ∀ a' w', K a' w' → a'.defers = a1.defers) (hK : ∀ v w', K (a1.put o.dst v) w' → K2 (a.put o.dst v) w') : Oper.wp P o a w K2 Q := by
  unfold Oper.wp at *
  rw [hx]
  generalize (execOp a1.eval o).run P w = r at *
  cases r with
  | ok n w' =>
    cases n <;> simp only [Oper.upon] at h ⊢
    case value v => exact hK _ _ h
    case skip => exact hK _ _ h
    case defer d =>
      have := hd _ _ h
      cases ho : o.dst <;> simp [Act.put, ho] at this
    case enter f args =>
      refine h.mono fun e w'' he => ?_
      cases e with
      | returned v => exact hK _ _ he
      | panicked c => exact he.elim
      | outgrown => obtain ⟨_, _, h⟩ := he; exact h.elim
    case row r args => exact Rows.mono h fun v w'' he => hK _ _ he
  | halt x w' =>
    cases x <;> simp only [Oper.upon] at h ⊢
    case panic v => exact h.elim

theorem waits_of {ops : Array Oper} {i j : Nat} {L : Array Bool} (h : Region.waitsFor .any ops i j = true) (hr : i ∈ Region.ready .any ops L) : L.getD j false = true := by
  obtain ⟨oi, hoi, e, he, hb, hon⟩ := Region.waitsFor_spec h
  obtain ⟨_, o, ho, hall⟩ := mem_ready.1 hr
  have : o = oi := Option.some.inj (ho.symm.trans hoi)
  subst this
  rw [← hon]; exact hall e he hb
theorem waits_not {md : Region.Mode} {ops : Array Oper} {m i j : Nat} {L : Array Bool} (inv : HeadInv md ops m L) (h : Region.waitsFor md ops j i = true) (hi : L.getD i false = false) : L.getD j false = false := by
  obtain ⟨oj, hoj, e, he, hb, hon⟩ := Region.waitsFor_spec h
  cases hl : L.getD j false with
  | false => rfl
  | true =>
    have := inv.closed j oj hoj hl e he hb
    rw [hon, hi] at this
    cases this

theorem dst_lt {ops : Array Oper} {m n i : Nat} {d : Tmp} (h : goodB ops m n = true) (hd : dstOf ops i = some d) : d < n := by
  simp only [goodB, Bool.and_eq_true] at h
  have hi : i < ops.size := by
    unfold dstOf at hd
    cases ho : ops[i]? with
    | none => rw [ho] at hd; cases hd
    | some o => exact (Array.getElem?_eq_some_iff.1 ho).1
  have := List.all_eq_true.1 h.1.2 i (List.mem_range.2 hi)
  simp only [hd, Bool.and_eq_true, decide_eq_true_eq] at this
  exact this.1
theorem dst_inj {ops : Array Oper} {m n i j : Nat} {d : Tmp} (h : goodB ops m n = true) (hi : dstOf ops i = some d) (hj : dstOf ops j = some d) : i = j := by
  have hlt : ∀ {k}, dstOf ops k = some d → k < ops.size := fun {k} hd => by
    unfold dstOf at hd
    cases ho : ops[k]? with
    | none => rw [ho] at hd; cases hd
    | some o => exact (Array.getElem?_eq_some_iff.1 ho).1
  simp only [goodB, Bool.and_eq_true] at h
  have h1 := List.all_eq_true.1 h.1.2 i (List.mem_range.2 (hlt hi))
  simp only [Bool.and_eq_true] at h1
  have h2 := List.all_eq_true.1 h1.2 j (List.mem_range.2 (hlt hj))
  rw [hi, hj] at h2
  simpa using h2

section
variable {P : Program} {ops : Array Oper} {a0 : Act} {m base : Nat} {ks : Nat → Kd} {C : World → Prop} {w0 : World} {L : Array Bool} {a : Act} {w : World} {x : Nat → Value}

/-- the slots that a ready operation looks at hold what its place in the text says -/
theorem Mid.sees (h : Mid ops a0 m base ks C w0 L a w x) (hg : goodB ops m a0.tmps.size = true) {i : Nat} {o : Oper} (ho : ops[i]? = some o) (him : i < m) (hr : i ∈ Region.ready .any ops L) (d : Tmp) (hd : d ∈ o.looksAt ops) :
    a.tmps[d]? = (fillTo ops x a0 i).tmps[d]? := by
  have hg' := hg
  simp only [goodB, Bool.and_eq_true] at hg
  have h1 := List.all_eq_true.1 hg.1.1 i (List.mem_range.2 him)
  simp only [seesB, ho] at h1
  have h2 := List.all_eq_true.1 h1 d hd
  have hun : L.getD i false = false := getD_both (mem_ready.1 hr).1
  have cases3 : ∀ j, dstOf ops j = some d → (j < i ∧ Region.waitsFor .any ops i j = true) ∨ j = i ∨ (i < j ∧ Region.waitsFor .any ops j i = true) := fun j hj => by
    have hlt : j < ops.size := by
      unfold dstOf at hj
      cases hoj : ops[j]? with
      | none => rw [hoj] at hj; cases hj
      | some o => exact (Array.getElem?_eq_some_iff.1 hoj).1
    have h3 := List.all_eq_true.1 h2 j (List.mem_range.2 hlt)
    simp only [hj, bne_self_eq_false, Bool.false_or, Bool.or_eq_true, Bool.and_eq_true, decide_eq_true_eq, beq_iff_eq] at h3
    rcases h3 with (h3 | h3) | h3
    · exact .inl h3
    · exact .inr (.inl h3)
    · exact .inr (.inr h3)
  by_cases hex : ∃ j, j < i ∧ dstOf ops j = some d
  · obtain ⟨j, hji, hj⟩ := hex
    rcases cases3 j hj with h3 | h3 | h3
    · rw [h.set j d hj (waits_of h3.2 hr), fillTo_new ops x a0 d j i hji hj (fun k hk hkd => hk (dst_inj hg' hkd hj)) (dst_lt hg' hj)]
    · omega
    · omega
  · rw [fillTo_old ops x a0 d i (fun j hj hjd => hex ⟨j, hj, hjd⟩)]
    apply h.old
    intro j hj
    rcases cases3 j hj with h3 | h3 | h3
    · exact absurd ⟨j, h3.1, hj⟩ hex
    · rw [h3]; exact hun
    · exact waits_not h.inv h3.2 hun

theorem Mid.exec (h : Mid ops a0 m base ks C w0 L a w x) (hg : goodB ops m a0.tmps.size = true) {i : Nat} {o : Oper} (ho : ops[i]? = some o) (him : i < m) (hr : i ∈ Region.ready .any ops L) :
    execOp a.eval o = execOp (fillTo ops x a0 i).eval o ∧ Region.wanted o (yielded ops a.tmps) = Region.wanted o (yielded ops (fillTo ops x a0 i).tmps) := by
  have hs := h.sees hg ho him hr
  have hsel : Region.noSelect ops = true := by simp only [goodB, Bool.and_eq_true] at hg; exact hg.2
  refine ⟨execOp_congr o (fun cs b => Region.noSelect_spec hsel i o cs b ho) fun y hy => ?_, ?_⟩
  · cases y with
    | tmp t =>
      have := hs t (List.mem_append_left _ (List.mem_filterMap.2 ⟨.tmp t, by simpa using hy, rfl⟩))
      simp only [Act.eval, Array.getD_eq_getD_getElem?, this]
    | _ => rfl
  · unfold Region.wanted
    cases hgd : o.guard with
    | none => rfl
    | some gw =>
      obtain ⟨g, want⟩ := gw
      have hy : yielded ops a.tmps g = yielded ops (fillTo ops x a0 i).tmps g := by
        unfold yielded
        cases ht : (ops[g]?).bind (·.dst) with
        | none => rfl
        | some t =>
          have := hs t (by simp [Oper.looksAt, hgd, ht])
          simp [this]
      simp only [hy]

theorem Mid.stay (h : Mid ops a0 m base ks C w0 L a w x) {i : Nat} (hr : i ∈ Region.ready .any ops L) (him : i < m) : HeadInv .any ops m (L.setIfInBounds i true) ∧ i < L.size ∧ L.getD i false = false := by
  refine ⟨h.inv.set hr him, ?_, getD_both (mem_ready.1 hr).1⟩
  obtain ⟨_, o, ho, _⟩ := mem_ready.1 hr
  rw [h.inv.size]; exact (Array.getElem?_eq_some_iff.1 ho).1

/-- the frame behind operation i -/
theorem Mid.put (h : Mid ops a0 m base ks C w0 L a w x) (hg : goodB ops m a0.tmps.size = true) {i : Nat} (hr : i ∈ Region.ready .any ops L) (him : i < m) (v : Value) :
    (a.put (dstOf ops i) v).tmps.size = a0.tmps.size ∧ (a.put (dstOf ops i) v).defers = a0.defers ∧
    (∀ j d, dstOf ops j = some d → (L.setIfInBounds i true).getD j false = true → (a.put (dstOf ops i) v).tmps[d]? = some (upd x i v j)) ∧
    (∀ t, (∀ j, dstOf ops j = some t → (L.setIfInBounds i true).getD j false = false) → (a.put (dstOf ops i) v).tmps[t]? = a0.tmps[t]?) := by
  obtain ⟨_, hlt, hun⟩ := h.stay hr him
  refine ⟨?_, ?_, fun j d hj hl => ?_, fun t ht => ?_⟩
  · cases dstOf ops i <;> simp [Act.put, h.size]
  · cases dstOf ops i <;> simp [Act.put, h.defers]
  · by_cases e : j = i
    · subst e
      rw [hj]
      have := dst_lt hg hj
      simp [Act.put, upd, h.size, this]
    · have hl' := (getD_set_or hl).resolve_left e
      have h1 := h.set j d hj hl'
      simp only [upd, if_neg e]
      cases hd : dstOf ops i with
      | none => simpa [Act.put] using h1
      | some d' =>
        have : d' ≠ d := fun e' => e (dst_inj hg hj (by rw [hd, e']))
        simp only [Act.put]
        rw [Array.getElem?_setIfInBounds_ne this]; exact h1
  · have h1 := h.old t (fun j hj => by
      have := ht j hj
      cases hl : L.getD j false with
      | false => rfl
      | true => rw [getD_set_true hl] at this; cases this)
    cases hd : dstOf ops i with
    | none => simpa [Act.put] using h1
    | some d =>
      have : d ≠ t := fun e => by
        subst e
        have := ht i hd
        rw [getD_set_self hlt] at this; cases this
      simp only [Act.put]
      rw [Array.getElem?_setIfInBounds_ne this]; exact h1

variable {Q : Exit → Act → World → Prop} {Ts : List TypeId}

theorem Mid.step (h : Mid ops a0 m base ks C w0 L a w x) (hg : goodB ops m a0.tmps.size = true)
    (hC : ∀ w w', C w → Below base w w' → C w') (hst : ∀ i Sp, ks i = .val Sp → ∀ v w w', Sp v w → KeptT Ts w w' → Sp v w')
    (hT : ∀ i T z st cs, ks i = .fresh T z st cs → T ∈ Ts ∧ ks st = .store i) (hbase : base ≤ w.heap.size)
    {i : Nat} {o : Oper} (ho : ops[i]? = some o) (him : i < m) (hr : i ∈ Region.ready .any ops L) (hO : Obl P ops a0 base ks C i o) :
    wpOp P ops Q i (fun a' w' => ∃ x', Mid ops a0 m base ks C w0 (L.setIfInBounds i true) a' w' x' ∧ base ≤ w'.heap.size) a w := by
  obtain ⟨hex, hwant⟩ := h.exec hg ho him hr
  obtain ⟨hinv, hlt, hun⟩ := h.stay hr him
  have hdo : dstOf ops i = o.dst := by simp [dstOf, ho]
  have hdeps : Deps ops ks x w i := ⟨fun j Sp hw hk => h.vals j Sp hk (waits_of hw hr)⟩
  unfold wpOp
  simp only [ho]
  rw [hwant]
  unfold Obl at hO
  cases hk : ks i with
  | val Sp =>
    rw [hk] at hO
    obtain ⟨hsome, hO⟩ := hO
    obtain ⟨d, hd⟩ := Option.isSome_iff_exists.1 hsome
    have hdlt := dst_lt hg hd
    -- what is known of the new value gives the next state
    have next : ∀ v w', Sp v w' → Below w.heap.size w w' → ∃ x', Mid ops a0 m base ks C w0 (L.setIfInBounds i true) (a.put o.dst v) w' x' ∧ base ≤ w'.heap.size := by
      intro v w' hv hb
      have hb' : Below base w w' := hb.mono hbase
      obtain ⟨p1, p2, p3, p4⟩ := h.put hg hr him v
      rw [hdo] at p1 p2 p3 p4
      refine ⟨upd x i v, ⟨hinv, p1, p2, p3, p4, hC _ _ h.cls hb', h.bel.trans hb', ?_, ?_, ?_⟩, Nat.le_trans hbase hb.size⟩
      · intro j Spj hkj hl
        by_cases e : j = i
        · subst e
          rw [hk] at hkj; cases hkj
          simpa [upd] using hv
        · simp only [upd, if_neg e]
          exact hst j Spj hkj _ _ _ (h.vals j Spj hkj ((getD_set_or hl).resolve_left e)) (KeptT.of_below hb)
      · intro j T z st cs hkj hl
        have e : j ≠ i := fun e => by subst e; rw [hk] at hkj; cases hkj
        obtain ⟨b, hx, hbb, hB⟩ := h.fresh j T z st cs hkj ((getD_set_or hl).resolve_left e)
        refine ⟨b, by simp only [upd, if_neg e]; exact hx, hbb, ?_⟩
        by_cases est : st = i
        · subst est
          have := (hT j T z st cs hkj).2
          rw [hk] at this; cases this
        · rw [getD_set_ne false (Ne.symm est)]
          exact hB.keep hb
      · intro j k T z st cs T' z' st' cs' hjk hkj hkk hlj hlk
        have ej : j ≠ i := fun e => by subst e; rw [hk] at hkj; cases hkj
        have ek : k ≠ i := fun e => by subst e; rw [hk] at hkk; cases hkk
        simp only [upd, if_neg ej, if_neg ek]
        exact h.apart j k T z st cs T' z' st' cs' hjk hkj hkk ((getD_set_or hlj).resolve_left ej) ((getD_set_or hlk).resolve_left ek)
    have hO' := hO x w h.cls hbase hdeps (fun a' w' => ∃ v, a' = (fillTo ops x a0 i).put o.dst v ∧ Sp v w' ∧ Below w.heap.size w w') (fun v w' h1 h2 => ⟨v, rfl, h1, h2⟩)
    have inj : ∀ v v', (fillTo ops x a0 i).put o.dst v = (fillTo ops x a0 i).put o.dst v' → v = v' := fun v v' e => by
      rw [← hdo, hd] at e
      have := congrArg (fun a : Act => a.tmps[d]?) e
      simpa [Act.put, fillTo_size, hdlt] using this
    split
    · rename_i hw
      rw [if_pos hw] at hO'
      refine .inl (wp_transfer hex hO' ?_ ?_)
      · rintro a' w' ⟨v, rfl, _⟩
        cases o.dst <;> rfl
      · rintro v w' ⟨v', e, h1, h2⟩
        rw [inj _ _ e]
        exact next v' w' h1 h2
    · rename_i hw
      rw [if_neg hw] at hO'
      obtain ⟨v, e, h1, h2⟩ := hO'
      rw [inj _ _ e]
      exact next v w h1 h2
  | fresh T z st cs =>
    rw [hk] at hO
    obtain ⟨hsome, hws, hkst, hgd, hO⟩ := hO
    obtain ⟨d, hd⟩ := Option.isSome_iff_exists.1 hsome
    have hdlt := dst_lt hg hd
    have hstun : L.getD st false = false := waits_not h.inv hws hun
    have hsti : st ≠ i := fun e => by subst e; rw [hk] at hkst; cases hkst
    have hw : Region.wanted o (yielded ops (fillTo ops x a0 i).tmps) = true := by simp [Region.wanted, hgd]
    rw [if_pos hw]
    have hb : Below w.heap.size w (w.alloc (.cells z T)) := (Below.refl _ _).alloc (Nat.le_refl _) _
    have hb' : Below base w (w.alloc (.cells z T)) := hb.mono hbase
    have hnew : Box (w.alloc (.cells z T)) w.heap.size z T := Box.new _ _ _
    have hO' := hO x w (fun a' w' => a' = (fillTo ops x a0 i).put o.dst (ptrV w.heap.size) ∧ w' = w.alloc (.cells z T)) ⟨rfl, rfl⟩
    refine .inl (wp_transfer hex hO' ?_ ?_)
    · rintro a' w' ⟨rfl, _⟩
      cases o.dst <;> rfl
    · rintro v w' ⟨e, rfl⟩
      have ev : v = ptrV w.heap.size := by
        rw [← hdo, hd] at e
        have := congrArg (fun a : Act => a.tmps[d]?) e
        simpa [Act.put, fillTo_size, hdlt] using this
      subst ev
      obtain ⟨p1, p2, p3, p4⟩ := h.put hg hr him (ptrV w.heap.size)
      rw [hdo] at p1 p2 p3 p4
      refine ⟨upd x i (ptrV w.heap.size), ⟨hinv, p1, p2, p3, p4, hC _ _ h.cls hb', h.bel.trans hb', ?_, ?_, ?_⟩, Nat.le_trans hbase hb.size⟩
      · intro j Spj hkj hl
        have e : j ≠ i := fun e => by subst e; rw [hk] at hkj; cases hkj
        simp only [upd, if_neg e]
        exact hst j Spj hkj _ _ _ (h.vals j Spj hkj ((getD_set_or hl).resolve_left e)) (KeptT.of_below hb)
      · intro j T' z' st' cs' hkj hl
        by_cases e : j = i
        · subst e
          rw [hk] at hkj; cases hkj
          refine ⟨w.heap.size, by simp [upd], hbase, ?_⟩
          rw [getD_set_ne false (Ne.symm hsti), hstun]
          exact hnew
        · obtain ⟨b, hx, hbb, hB⟩ := h.fresh j T' z' st' cs' hkj ((getD_set_or hl).resolve_left e)
          refine ⟨b, by simp only [upd, if_neg e]; exact hx, hbb, ?_⟩
          have est : st' ≠ i := fun est => by
            subst est
            have := (hT j T' z' st' cs' hkj).2
            rw [hk] at this; cases this
          rw [getD_set_ne false (Ne.symm est)]
          exact hB.keep hb
      · intro j k T1 z1 st1 cs1 T2 z2 st2 cs2 hjk hkj hkk hlj hlk
        have oldlt : ∀ j T z st cs, ks j = .fresh T z st cs → L.getD j false = true → x j ≠ ptrV w.heap.size := fun j T z st cs hkj hl e => by
          obtain ⟨b, hx, hbb, hB⟩ := h.fresh j T z st cs hkj hl
          rw [hx] at e
          have : b = w.heap.size := by simpa [ptrV] using e
          have := hB.lt
          omega
        by_cases ej : j = i
        · have ek : k ≠ i := fun e => hjk (ej.trans e.symm)
          simp only [upd, if_pos ej, if_neg ek]
          exact (oldlt k _ _ _ _ hkk ((getD_set_or hlk).resolve_left ek)).symm
        · by_cases ek : k = i
          · simp only [upd, if_pos ek, if_neg ej]
            exact oldlt j _ _ _ _ hkj ((getD_set_or hlj).resolve_left ej)
          · simp only [upd, if_neg ej, if_neg ek]
            exact h.apart j k _ _ _ _ _ _ _ _ hjk hkj hkk ((getD_set_or hlj).resolve_left ej) ((getD_set_or hlk).resolve_left ek)
  | store al =>
    rw [hk] at hO
    obtain ⟨hgd, hdn, hwa, hali, T, z, cs, hkal, hO⟩ := hO
    have hlal := waits_of hwa hr
    obtain ⟨b, hx, hbb, hB⟩ := h.fresh al T z i cs hkal hlal
    rw [hun] at hB
    simp only [Bool.false_eq_true, if_false] at hB
    have hw : Region.wanted o (yielded ops (fillTo ops x a0 i).tmps) = true := by simp [Region.wanted, hgd]
    rw [if_pos hw]
    have hO' := hO x w b h.cls hbb hx hB hdeps (fun a' w' => a' = fillTo ops x a0 i ∧ Box w' b cs T ∧ Kept (fun k => k = b) w w') (fun w' h1 h2 => ⟨rfl, h1, h2⟩)
    refine .inl (wp_transfer hex hO' ?_ ?_)
    · rintro a' w' ⟨rfl, _⟩
      rfl
    · rintro v w' ⟨_, hB', hkp⟩
      rw [hdn]
      have hb' : Below base w w' := hkp.below base hbase (fun k hk e => by omega)
      obtain ⟨p1, p2, p3, p4⟩ := h.put hg hr him v
      rw [hdo, hdn] at p1 p2 p3 p4
      refine ⟨upd x i v, ⟨hinv, p1, p2, p3, p4, hC _ _ h.cls hb', h.bel.trans hb', ?_, ?_, ?_⟩, Nat.le_trans hbase hkp.size⟩
      · intro j Spj hkj hl
        have e : j ≠ i := fun e => by subst e; rw [hk] at hkj; cases hkj
        simp only [upd, if_neg e]
        exact hst j Spj hkj _ _ _ (h.vals j Spj hkj ((getD_set_or hl).resolve_left e)) (KeptT.of_set hkp hB (hT _ _ _ _ _ hkal).1)
      · intro j T' z' st' cs' hkj hl
        have e : j ≠ i := fun e => by subst e; rw [hk] at hkj; cases hkj
        have hlj := (getD_set_or hl).resolve_left e
        by_cases eal : j = al
        · subst eal
          rw [hkal] at hkj; cases hkj
          refine ⟨b, by simp only [upd, if_neg e]; exact hx, hbb, ?_⟩
          rw [getD_set_self hlt]
          exact hB'
        · obtain ⟨b2, hx2, hbb2, hB2⟩ := h.fresh j T' z' st' cs' hkj hlj
          have hne : b2 ≠ b := fun eb => h.apart j al _ _ _ _ _ _ _ _ eal hkj hkal hlj hlal (by rw [hx2, hx, eb])
          refine ⟨b2, by simp only [upd, if_neg e]; exact hx2, hbb2, ?_⟩
          have est : st' ≠ i := fun est => by
            subst est
            have := (hT j T' z' st' cs' hkj).2
            rw [hk] at this; cases this
            exact eal rfl
          rw [getD_set_ne false (Ne.symm est)]
          exact (hkp.block b2 hB2.lt hne).trans hB2
      · intro j k T1 z1 st1 cs1 T2 z2 st2 cs2 hjk hkj hkk hlj hlk
        have ej : j ≠ i := fun e => by subst e; rw [hk] at hkj; cases hkj
        have ek : k ≠ i := fun e => by subst e; rw [hk] at hkk; cases hkk
        simp only [upd, if_neg ej, if_neg ek]
        exact h.apart j k _ _ _ _ _ _ _ _ hjk hkj hkk ((getD_set_or hlj).resolve_left ej) ((getD_set_or hlk).resolve_left ek)

/-- how many of a region's operations are still to come -/
def unl (L : Array Bool) (m : Nat) : Nat := ((List.range m).filter fun i => L.getD i false == false).length
theorem unl_set {L : Array Bool} {m i : Nat} (hi : i < m) (hl : i < L.size) (hun : L.getD i false = false) : unl (L.setIfInBounds i true) m + 1 = unl L m := by
  unfold unl
  induction m with
  | zero => omega
  | succ m ih =>
    rw [List.range_succ, List.filter_append, List.filter_append, List.length_append, List.length_append]
    by_cases e : i = m
    · subst e
      have h1 : ((List.range i).filter fun j => (L.setIfInBounds i true).getD j false == false) = (List.range i).filter fun j => L.getD j false == false := by
        apply List.filter_congr
        intro j hj
        have := List.mem_range.1 hj
        rw [getD_set_ne false (by omega)]
      rw [h1]
      have h2 := getD_set_self (L := L) hl
      simp only [List.filter_cons, List.filter_nil, h2, hun]
      simp
    · have := ih (by omega)
      simp only [List.filter_cons, List.filter_nil, getD_set_ne false e]
      omega
theorem unl_zero {L : Array Bool} {m : Nat} (h : unl L m = 0) : ∀ i, i < m → L.getD i false = true := by
  intro i hi
  unfold unl at h
  have := List.eq_nil_of_length_eq_zero h
  rw [List.filter_eq_nil_iff] at this
  have := this i (List.mem_range.2 hi)
  simpa using this

theorem ready_some (he : edgesB ops = true) (hs : L.size = ops.size) : ∀ (n i : Nat), i ≤ n → i < ops.size → L.getD i false = false → Region.ready .any ops L ≠ [] := by
  intro n
  induction n with
  | zero =>
    intro i hi hlt hun hnil
    obtain rfl : i = 0 := by omega
    exact here 0 hlt hun (fun j hj => by omega) hnil
  | succ n ih =>
    intro i hi hlt hun hnil
    by_cases hex : ∃ j, j < i ∧ L.getD j false = false
    · obtain ⟨j, hj, hjun⟩ := hex
      exact ih j (by omega) (by omega) hjun hnil
    · refine here i hlt hun (fun j hj => ?_) hnil
      cases hl : L.getD j false with
      | true => rfl
      | false => exact absurd ⟨j, hj, hl⟩ hex
where
  here (i : Nat) (hlt : i < ops.size) (hun : L.getD i false = false) (hall : ∀ j, j < i → L.getD j false = true) (hnil : Region.ready .any ops L = []) : False := by
    have : i ∈ Region.ready .any ops L := by
      refine mem_ready.2 ⟨getD_in (by rw [hs]; exact hlt) hun, ops[i], Array.getElem?_eq_getElem hlt, fun e hmem hb => hall _ ?_⟩
      have h1 := List.all_eq_true.1 he i (List.mem_range.2 hlt)
      simp only [Array.getElem?_eq_getElem hlt] at h1
      have h2 := Array.all_eq_true_iff_forall_mem.1 h1 e hmem
      simpa [hb] using h2
    rw [hnil] at this; cases this

/-- whatever order is drawn -/
theorem Mid.all (hed : edgesB ops = true) (hg : goodB ops m a0.tmps.size = true) (hm : m ≤ ops.size) (htail : m = ops.size ∨ (m < ops.size ∧ Region.sinkB .any ops m = true ∧ Region.chainB .any ops m = true))
    (hC : ∀ w w', C w → Below base w w' → C w') (hst : ∀ i Sp, ks i = .val Sp → ∀ v w w', Sp v w → KeptT Ts w w' → Sp v w')
    (hT : ∀ i T z st cs, ks i = .fresh T z st cs → T ∈ Ts ∧ ks st = .store i)
    (hO : ∀ i o, i < m → ops[i]? = some o → Obl P ops a0 base ks C i o)
    (hend : ∀ L a w x, Mid ops a0 m base ks C w0 L a w x → base ≤ w.heap.size → (∀ i, i < m → L.getD i false = true) → wpAny P .any ops Q (ops.size - m) L a w) :
    ∀ (f : Nat) (L : Array Bool) (a : Act) (w : World) (x : Nat → Value), unl L m = f → Mid ops a0 m base ks C w0 L a w x → base ≤ w.heap.size → wpAny P .any ops Q (f + (ops.size - m)) L a w := by
  intro f
  induction f with
  | zero =>
    intro L a w x hf h hb
    rw [Nat.zero_add]
    exact hend L a w x h hb (unl_zero hf)
  | succ f ih =>
    intro L a w x hf h hb
    rw [show f + 1 + (ops.size - m) = (f + (ops.size - m)) + 1 by omega]
    -- some operation of the head is still to come
    obtain ⟨i0, hi0, hun0⟩ : ∃ i, i < m ∧ L.getD i false = false := by
      cases he : (List.range m).filter fun i => L.getD i false == false with
      | nil => unfold unl at hf; rw [he] at hf; cases hf
      | cons i l =>
        have := List.mem_filter.1 (he ▸ List.mem_cons_self (a := i) (l := l))
        exact ⟨i, List.mem_range.1 this.1, by simpa using this.2⟩
    have hin : ∀ i ∈ Region.ready .any ops L, i < m := fun i hi => by
      rcases htail with e | ⟨hlt, hs, hc⟩
      · obtain ⟨_, o, ho, _⟩ := mem_ready.1 hi
        rw [e]; exact (Array.getElem?_eq_some_iff.1 ho).1
      · rcases Nat.lt_or_ge i m with h' | h'
        · exact h'
        · exact absurd hi (tail_waits hs hc hlt h.inv _ i0 rfl hi0 (getD_in (by rw [h.inv.size]; omega) hun0) i h')
    refine ⟨fun hnil => ?_, fun i hi => ?_⟩
    · -- the least that is still to come is ready
      exact absurd hnil (ready_some hed h.inv.size i0 i0 (Nat.le_refl _) (by omega) hun0)
    · have him := hin i hi
      obtain ⟨_, o, ho, _⟩ := mem_ready.1 hi
      obtain ⟨_, hlt, hun⟩ := h.stay hi him
      refine wpOp_mono ?_ (h.step (Q := Q) hg hC hst hT hb ho him hi (hO i o him ho))
      rintro a' w' ⟨x', h', hb'⟩
      exact ih _ a' w' x' (by have := unl_set him hlt hun; omega) h' hb'

def regB (ops : Array Oper) (m n : Nat) : Bool :=
  edgesB ops && goodB ops m n && decide (m ≤ ops.size) && (m == ops.size || (decide (m < ops.size) && Region.sinkB .any ops m && Region.chainB .any ops m)) &&
  Region.seqB .any ops (ops.size - m) m (Array.replicate m true ++ Array.replicate (ops.size - m) false)

def ksOf (kl : List Kd) (i : Nat) : Kd := kl.getD i (.val fun _ _ => True)
def Obls (P : Program) (ops : Array Oper) (a0 : Act) (base : Nat) (ks : Nat → Kd) (C : World → Prop) : Nat → List Oper → Prop
  | _, [] => True
  | i, o :: rest => Obl P ops a0 base ks C i o ∧ Obls P ops a0 base ks C (i + 1) rest
theorem Obls.get {P : Program} {ops : Array Oper} {a0 : Act} {base : Nat} {ks : Nat → Kd} {C : World → Prop} : ∀ (l : List Oper) (k : Nat), Obls P ops a0 base ks C k l → ∀ j o, l[j]? = some o → Obl P ops a0 base ks C (k + j) o
  | [], _, _, j, o, h => by simp at h
  | o :: l, k, h, j, o', hj => by
    cases j with
    | zero => simp at hj; subst hj; exact h.1
    | succ j => have := Obls.get l (k + 1) h.2 j o' (by simpa using hj); rwa [show k + 1 + j = k + (j + 1) by omega] at this
/-- stable kinds: listed once -/
def Stab (Ts : List TypeId) : List Kd → Prop
  | [] => True
  | .val Sp :: l => (∀ v w w', Sp v w → KeptT Ts w w' → Sp v w') ∧ Stab Ts l
  | .fresh T _ _ _ :: l => T ∈ Ts ∧ Stab Ts l
  | .store _ :: l => Stab Ts l
theorem Stab.val {Ts : List TypeId} : ∀ (l : List Kd), Stab Ts l → ∀ i Sp, ksOf l i = .val Sp → ∀ v w w', Sp v w → KeptT Ts w w' → Sp v w'
  | [], _, i, Sp, h, v, w, w', h1, _ => by simp [ksOf] at h; subst h; trivial
  | k :: l, hs, i, Sp, h, v, w, w', h1, h2 => by
    cases i with
    | zero =>
      have : k = .val Sp := by simpa [ksOf] using h
      subst this
      exact hs.1 v w w' h1 h2
    | succ i =>
      have hs' : Stab Ts l := by cases k <;> first | exact hs.2 | exact hs
      exact Stab.val l hs' i Sp (by simpa [ksOf] using h) v w w' h1 h2
theorem Stab.fresh {Ts : List TypeId} : ∀ (l : List Kd), Stab Ts l → ∀ i T z st cs, ksOf l i = .fresh T z st cs → T ∈ Ts
  | [], _, i, T, z, st, cs, h => by simp [ksOf] at h
  | k :: l, hs, i, T, z, st, cs, h => by
    cases i with
    | zero =>
      have : k = .fresh T z st cs := by simpa [ksOf] using h
      subst this
      exact hs.1
    | succ i =>
      have hs' : Stab Ts l := by cases k <;> first | exact hs.2 | exact hs
      exact Stab.fresh l hs' i T z st cs (by simpa [ksOf] using h)
def freshB (m : Nat) (kl : List Kd) : Bool := (List.range kl.length).all fun i => match kl[i]? with
  | some (.fresh _ _ st _) => decide (st < m) && (match kl[st]? with | some (.store j) => j == i | _ => false)
  | _ => true
theorem freshB_spec {m : Nat} {kl : List Kd} (h : freshB m kl = true) {i : Nat} {T : TypeId} {z : Array Value} {st : Nat} {cs : Array Value} (hk : ksOf kl i = .fresh T z st cs) : st < m ∧ ksOf kl st = .store i := by
  have hi : i < kl.length := by
    rcases Nat.lt_or_ge i kl.length with h' | h'
    · exact h'
    · simp [ksOf, h'] at hk
  have h1 := List.all_eq_true.1 h i (List.mem_range.2 hi)
  have h2 : kl[i]? = some (.fresh T z st cs) := by simp [ksOf, hi] at hk; simp [hi, hk]
  simp only [h2, Bool.and_eq_true, decide_eq_true_eq] at h1
  refine ⟨h1.1, ?_⟩
  have h3 := h1.2
  cases hs : kl[st]? with
  | none => simp [hs] at h3
  | some k =>
    cases k <;> simp [hs] at h3
    subst h3
    simp [ksOf, hs]

/-- A REGION THAT DRAWS ITS ORDER. -/
theorem wp_region_known {id : Nat} {l : List Oper} (m : Nat) (kl : List Kd) (C : World → Prop) (Ts : List TypeId) (hm : P.follows .mixedOrders = true)
    (hB : regB l.toArray m a0.tmps.size = true) (hF : freshB m kl = true) (hC0 : C w.drew) (hC : ∀ w1 w', C w1 → Below w.heap.size w1 w' → C w') (hS : Stab Ts kl)
    (hO : Obls P l.toArray a0 w.heap.size (ksOf kl) C 0 (l.take m))
    (hend : ∀ (x : Nat → Value) (W : World), C W → Below w.heap.size w W → (∀ i Sp, i < m → ksOf kl i = .val Sp → Sp (x i) W) →
      (∀ i T z st cs, i < m → ksOf kl i = .fresh T z st cs → ∃ b, x i = ptrV b ∧ w.heap.size ≤ b ∧ Box W b cs T) →
      (∀ i j T z st cs T' z' st' cs', i < m → j < m → i ≠ j → ksOf kl i = .fresh T z st cs → ksOf kl j = .fresh T' z' st' cs' → x i ≠ x j) →
      wpList P l.toArray Q (l.drop m) (fillTo l.toArray x a0 m) W) : (Code.region id l.toArray true).wp P Q a0 w := by
  simp only [regB, Bool.and_eq_true, decide_eq_true_eq, Bool.or_eq_true, beq_iff_eq] at hB
  obtain ⟨⟨⟨⟨hed, hg⟩, hmle⟩, htail⟩, hseq⟩ := hB
  have htail' : m = l.toArray.size ∨ (m < l.toArray.size ∧ Region.sinkB .any l.toArray m = true ∧ Region.chainB .any l.toArray m = true) := by
    rcases htail with h | h
    · exact .inl h
    · exact .inr ⟨h.1.1, h.1.2, h.2⟩
  have hm' : m ≤ l.length := by simpa using hmle
  have inv0 : HeadInv .any l.toArray m (Array.replicate l.toArray.size false) :=
    ⟨by simp, fun j oj _ hl => (by rw [getD_replicate_false] at hl; cases hl), fun t _ ht => getD_in (by simpa using ht) (getD_replicate_false _ _)⟩
  have none : ∀ i, (Array.replicate l.toArray.size false).getD i false = false := getD_replicate_false _
  have mid0 : Mid l.toArray a0 m w.heap.size (ksOf kl) C w.drew (Array.replicate l.toArray.size false) a0 w.drew (fun _ => undef) :=
    ⟨inv0, rfl, rfl, fun i d _ h => (by rw [none] at h; cases h), fun t _ => rfl, hC0, Below.refl _ _, fun i Sp _ h => (by rw [none] at h; cases h), fun i T z st cs _ h => (by rw [none] at h; cases h), fun i j T z st cs T' z' st' cs' _ _ _ h => (by rw [none] at h; cases h)⟩
  have hunl : unl (Array.replicate l.toArray.size false) m = m := by
    unfold unl
    rw [List.filter_eq_self.2 (fun i _ => by simp only [none]; rfl)]
    simp
  refine wp_region_any hm ?_
  have := Mid.all (P := P) (Q := Q) (Ts := Ts) (base := w.heap.size) hed hg hmle htail' hC (Stab.val kl hS) (fun i T z st cs h => ⟨Stab.fresh kl hS i T z st cs h, (freshB_spec hF h).2⟩)
    (fun i o hi ho => by
      have := Obls.get (l.take m) 0 hO i o (by rw [List.getElem?_take_of_lt hi]; simpa using ho)
      rwa [Nat.zero_add] at this)
    (fun L a w' x h hb hall => ?_) m _ a0 w.drew (fun _ => undef) hunl mid0 (Nat.le_refl _)
  · rw [show m + (l.toArray.size - m) = l.toArray.size by omega] at this
    exact this
  · have hL : L = Array.replicate m true ++ Array.replicate (l.toArray.size - m) false := by
      apply Array.ext
      · simp [h.inv.size]; omega
      · intro i h1 h2
        by_cases him : i < m
        · have := hall i him
          rw [Array.getElem_append_left (by simpa using him)]
          simpa [h1] using this
        · rw [Array.getElem_append_right (by simp; omega)]
          have := h.inv.tail i (by omega) (by rw [← h.inv.size]; exact h1)
          simpa [h1] using this
    have ha : a = fillTo l.toArray x a0 m := by
      have e1 : a.tmps = (fillTo l.toArray x a0 m).tmps := by
        apply Array.ext_getElem?
        intro t
        by_cases hex : ∃ j, j < m ∧ dstOf l.toArray j = some t
        · obtain ⟨j, hj, hd⟩ := hex
          rw [h.set j t hd (hall j hj), fillTo_new l.toArray x a0 t j m hj hd (fun k hk hkd => hk (dst_inj hg hkd hd)) (dst_lt hg hd)]
        · rw [fillTo_old l.toArray x a0 t m (fun j hj hd => hex ⟨j, hj, hd⟩)]
          apply h.old
          intro j hj
          have : m ≤ j := by
            rcases Nat.lt_or_ge j m with h' | h'
            · exact absurd ⟨j, h', hj⟩ hex
            · exact h'
          have hlt : j < l.toArray.size := by
            unfold dstOf at hj
            cases hoj : l.toArray[j]? with
            | none => rw [hoj] at hj; cases hj
            | some o => exact (Array.getElem?_eq_some_iff.1 hoj).1
          exact getD_both (h.inv.tail j this hlt)
      have e2 : a.defers = (fillTo l.toArray x a0 m).defers := by rw [h.defers, fillTo_defers]
      cases a
      cases hf : fillTo l.toArray x a0 m
      rw [hf] at e1 e2
      simp only at e1 e2
      rw [e1, e2]
    have hw := hend x w' h.cls ⟨h.bel.os, h.bel.tape, h.bel.output, h.bel.size, h.bel.block⟩ (fun i Sp hi hk => h.vals i Sp hk (hall i hi))
      (fun i T z st cs hi hk => by
        obtain ⟨b, hx, hbb, hBx⟩ := h.fresh i T z st cs hk (hall i hi)
        rw [hall st (freshB_spec hF hk).1] at hBx
        exact ⟨b, hx, hbb, hBx⟩)
      (fun i j T z st cs T' z' st' cs' hi hj hij h1 h2 => h.apart i j T z st cs T' z' st' cs' hij h1 h2 (hall i hi) (hall j hj))
    have hd : (l.drop m).length = l.toArray.size - m := by simp
    have := wpAny_of_seq (P := P) (ops := l.toArray) (md := .any) (Q' := Q) (l.drop m) m L a w' (fun j => by simp [List.getElem?_drop]) (by rw [hd, hL]; exact hseq) (by rw [ha]; exact hw)
    rwa [hd] at this

theorem obl_val {P : Program} {ops : Array Oper} {a0 : Act} {base : Nat} {ks : Nat → Kd} {C : World → Prop} {i : Nat} {o : Oper} {Sp : Value → World → Prop} (hk : ks i = .val Sp) (hd : (dstOf ops i).isSome = true)
    (h : ∀ (x : Nat → Value) (w : World), C w → base ≤ w.heap.size → Deps ops ks x w i → ∀ K : Act → World → Prop, (∀ v w', Sp v w' → Below w.heap.size w w' → K ((fillTo ops x a0 i).put o.dst v) w') →
      if Region.wanted o (yielded ops (fillTo ops x a0 i).tmps) = true then Oper.wp P o (fillTo ops x a0 i) w K QF else K ((fillTo ops x a0 i).put o.dst undef) w) : Obl P ops a0 base ks C i o := by
  unfold Obl; rw [hk]; exact ⟨hd, h⟩
theorem obl_fresh {P : Program} {ops : Array Oper} {a0 : Act} {base : Nat} {ks : Nat → Kd} {C : World → Prop} {i : Nat} {o : Oper} {T : TypeId} {z : Array Value} {st : Nat} {cs : Array Value} (hk : ks i = .fresh T z st cs) (hd : (dstOf ops i).isSome = true)
    (hw : Region.waitsFor .any ops st i = true) (hks : ks st = .store i) (hgd : o.guard = none)
    (h : ∀ (x : Nat → Value) (w : World) (K : Act → World → Prop), K ((fillTo ops x a0 i).put o.dst (ptrV w.heap.size)) (w.alloc (.cells z T)) → Oper.wp P o (fillTo ops x a0 i) w K QF) : Obl P ops a0 base ks C i o := by
  unfold Obl; rw [hk]; exact ⟨hd, hw, hks, hgd, h⟩
theorem obl_store {P : Program} {ops : Array Oper} {a0 : Act} {base : Nat} {ks : Nat → Kd} {C : World → Prop} {i : Nat} {o : Oper} {al : Nat} {T : TypeId} {z cs : Array Value} (hk : ks i = .store al) (hka : ks al = .fresh T z i cs) (hgd : o.guard = none) (hdn : o.dst = none)
    (hw : Region.waitsFor .any ops i al = true) (hal : al < i)
    (h : ∀ (x : Nat → Value) (w : World) (b : Nat), C w → base ≤ b → x al = ptrV b → Box w b z T → Deps ops ks x w i → ∀ K : Act → World → Prop, (∀ w', Box w' b cs T → Kept (fun k => k = b) w w' → K (fillTo ops x a0 i) w') → Oper.wp P o (fillTo ops x a0 i) w K QF) : Obl P ops a0 base ks C i o := by
  unfold Obl; rw [hk]; exact ⟨hgd, hdn, hw, hal, T, z, cs, hka, h⟩

end

end Go.Proofs.YtcimgilfogeebaaGreatDoor
