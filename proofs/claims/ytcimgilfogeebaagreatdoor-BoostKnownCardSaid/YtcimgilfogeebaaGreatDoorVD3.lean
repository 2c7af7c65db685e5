/- VM, drawn regions, 3: the table; one more record. -/
import Derived.Test.YtcimgilfogeebaaGreatDoorVD2
set_option linter.unusedVariables false
set_option linter.unusedSimpArgs false
namespace Go.Proofs.YtcimgilfogeebaaGreatDoor.VM
open Go Go.RowKit Go.Proofs.YtcimgilfogeebaaGreatDoor

/-! ### The table -/
theorem memB_iff {x : Nat} : ∀ {l : List Nat}, memB x l = true ↔ x ∈ l
  | [] => ⟨fun h => (by cases h), fun h => (by cases h)⟩
  | y :: l => by
    have e : memB x (y :: l) = Bool.rec (motive := fun _ => Bool) (memB x l) true (Nat.beq x y) := rfl
    rw [e]
    cases h : Nat.beq x y with
    | true =>
      have : x = y := Nat.eq_of_beq_eq_true h
      subst this
      exact ⟨fun _ => List.mem_cons_self .., fun _ => rfl⟩
    | false =>
      have hne : x ≠ y := Nat.ne_of_beq_eq_false h
      have : (Bool.rec (motive := fun _ => Bool) (memB x l) true false) = memB x l := rfl
      rw [this, memB_iff, List.mem_cons]
      exact ⟨.inr, fun h => h.resolve_left hne⟩
theorem bindsB_eq (e : Edge) : bindsB e.ground = Region.binds .any e := by
  unfold bindsB Region.binds
  cases e.ground <;> rfl
theorem apartB_spec {all : List Oper} {x y : Oper} (h : apartB all x y = true) : (∀ t, x.dst = some t → t ∉ looks all y ∧ y.dst ≠ some t) ∧ (∀ t, y.dst = some t → t ∉ looks all x) := by
  unfold apartB at h
  rw [Bool.and_eq_true] at h
  obtain ⟨h1, h2⟩ := h
  refine ⟨fun t ht => ?_, fun t ht hm => ?_⟩
  · rw [ht] at h1
    simp only [Bool.and_eq_true] at h1
    obtain ⟨h3, h4⟩ := h1
    refine ⟨fun hm => ?_, fun e => ?_⟩
    · rw [memB_iff.2 hm] at h3; cases h3
    · rw [e] at h4
      simp only [Nat.beq_refl] at h4
      cases h4
  · rw [ht] at h2
    simp only [memB_iff.2 hm] at h2
    cases h2
theorem freeL_spec {all : List Oper} {o : Oper} {ws : List Nat} {j : Nat} : ∀ (prev : List Oper) (q : Nat) (fr : List Nat), freeL all o ws j prev q = some fr → ∀ m x, prev[m]? = some x → (j - (q + m + 1)) ∈ ws ∨ (apartB all x o = true ∧ q + m ∈ fr)
  | [], _, _, _, m, x, hx => by simp at hx
  | y :: r, q, fr, h, m, x, hx => by
    unfold freeL at h
    split at h
    · rename_i hm
      cases m with
      | zero => exact .inl (memB_iff.1 hm)
      | succ m =>
        have := freeL_spec r (q + 1) fr h m x (by simpa using hx)
        rw [show q + 1 + m = q + (m + 1) by omega] at this
        exact this
    · split at h
      · rename_i ha
        split at h
        · rename_i l hl
          cases h
          cases m with
          | zero => simp only [List.getElem?_cons_zero, Option.some.injEq] at hx; subst hx; exact .inr ⟨ha, List.mem_cons_self ..⟩
          | succ m =>
            have := freeL_spec r (q + 1) l hl m x (by simpa using hx)
            rw [show q + 1 + m = q + (m + 1) by omega] at this
            exact this.imp id fun ⟨h1, h2⟩ => ⟨h1, List.mem_cons_of_mem _ h2⟩
        · cases h
      · cases h
theorem waitsL_mem {tab : List (List Nat)} {i : Nat} : ∀ (es : List Edge), i ∈ waitsL tab es → ∃ e, e ∈ es ∧ Region.binds .any e = true ∧ (i = e.on ∨ ∃ ws, tab[e.on]? = some ws ∧ i ∈ ws)
  | [], h => by cases h
  | e :: es, h => by
    have h' : i ∈ (match bindsB e.ground with
      | true => e.on :: ((tab[e.on]?).getD [] ++ waitsL tab es)
      | false => waitsL tab es) := h
    have rest : i ∈ waitsL tab es → ∃ e', e' ∈ e :: es ∧ Region.binds .any e' = true ∧ (i = e'.on ∨ ∃ ws, tab[e'.on]? = some ws ∧ i ∈ ws) := fun h => by
      obtain ⟨e', h1, h2⟩ := waitsL_mem es h
      exact ⟨e', List.mem_cons_of_mem _ h1, h2⟩
    split at h'
    · rename_i hb
      rw [bindsB_eq] at hb
      rw [List.mem_cons, List.mem_append] at h'
      rcases h' with rfl | h' | h'
      · exact ⟨e, List.mem_cons_self .., hb, .inl rfl⟩
      · refine ⟨e, List.mem_cons_self .., hb, .inr ?_⟩
        cases ht : tab[e.on]? with
        | none => rw [ht] at h'; cases h'
        | some ws => rw [ht] at h'; exact ⟨ws, rfl, h'⟩
      · exact rest h'
    · exact rest h'
theorem waitsT_spec {all : List Oper} : ∀ (l : List Oper) (tab : List (List Nat)), (∀ m, l[m]? = all[tab.length + m]?) → (∀ j ws, tab[j]? = some ws → ∀ i, i ∈ ws → Wt all j i) → ∀ j ws, (waitsT l tab)[j]? = some ws → ∀ i, i ∈ ws → Wt all j i
  | [], tab, _, h, j, ws, hj => h j ws hj
  | o :: l, tab, hl, h, j, ws, hj => by
    unfold waitsT at hj
    refine waitsT_spec l _ (fun m => ?_) (fun j ws hj i hi => ?_) j ws hj
    · have := hl (m + 1)
      rw [List.getElem?_cons_succ] at this
      rw [this, List.length_append]
      congr 1
      show tab.length + (m + 1) = tab.length + 1 + m
      omega
    · rcases Nat.lt_trichotomy j tab.length with h1 | h1 | h1
      · rw [List.getElem?_append_left h1] at hj
        exact h j ws hj i hi
      · subst h1
        rw [List.getElem?_append_right (Nat.le_refl _)] at hj
        simp only [Nat.sub_self, List.getElem?_cons_zero, Option.some.injEq] at hj
        subst hj
        obtain ⟨e, h2, h3, h4⟩ := waitsL_mem _ hi
        have ho : all[tab.length]? = some o := by have := hl 0; simpa using this.symm
        have hw : Wt all tab.length e.on := .one ho (by simpa using h2) h3
        rcases h4 with rfl | ⟨ws, h4, h5⟩
        · exact hw
        · exact hw.more (h e.on ws h4 i h5)
      · rw [List.getElem?_eq_none (by simp; omega)] at hj; cases hj
theorem regT_spec {all : List Oper} {wt : List (List Nat)} : ∀ (l prev : List Oper) (j : Nat) (tab : List (Oper × List Nat)), regT all wt l prev j = some tab → (∀ m, l[m]? = all[j + m]?) → (∀ i, i < j → prev[j - 1 - i]? = all[i]?) →
    tab.length = l.length ∧ ∀ m o fr, tab[m]? = some (o, fr) → all[j + m]? = some o ∧ edgeB (j + m) o = true ∧ ∀ i x, i < j + m → all[i]? = some x → i ∈ (wt[j + m]?).getD [] ∨ (apartB all x o = true ∧ (j + m - 1 - i) ∈ fr)
  | [], prev, j, tab, h, _, _ => by
    unfold regT at h; cases h
    exact ⟨rfl, fun m o fr hm => by simp at hm⟩
  | o :: l, prev, j, tab, h, hl, hp => by
    unfold regT at h
    split at h
    · cases h
    · rename_i he
      split at h
      · cases h
      · rename_i fr hf
        split at h
        · cases h
        · rename_i t ht
          cases h
          have ho : all[j]? = some o := by have := hl 0; simpa using this.symm
          obtain ⟨h1, h2⟩ := regT_spec l (o :: prev) (j + 1) t ht (fun m => by
            have := hl (m + 1)
            rw [List.getElem?_cons_succ] at this
            rw [this]; congr 1; omega) (fun i hi => by
            by_cases e : i = j
            · subst e
              rw [show i + 1 - 1 - i = 0 by omega, ho]; rfl
            · rw [show j + 1 - 1 - i = (j - 1 - i) + 1 by omega, List.getElem?_cons_succ]
              exact hp i (by omega))
          refine ⟨by simp [h1], fun m o' fr' hm => ?_⟩
          cases m with
          | zero =>
            simp only [List.getElem?_cons_zero, Option.some.injEq, Prod.mk.injEq] at hm
            obtain ⟨rfl, rfl⟩ := hm
            refine ⟨ho, he, fun i x hi hx => ?_⟩
            have h3 := hp i hi
            rw [hx] at h3
            have := freeL_spec prev 0 fr hf (j - 1 - i) x h3
            rw [show j - (0 + (j - 1 - i) + 1) = i by omega, show 0 + (j - 1 - i) = j + 0 - 1 - i by omega] at this
            exact this
          | succ m =>
            have := h2 m o' fr' (by simpa using hm)
            rw [show j + 1 + m = j + (m + 1) by omega] at this
            exact this

structure TabOk (all : List Oper) (tab : List (Oper × List Nat)) : Prop where
  len : tab.length = all.length
  op : ∀ (j : Nat) (o : Oper) (fr : List Nat), tab[j]? = some (o, fr) → all[j]? = some o
  free : ∀ (j : Nat) (o : Oper) (fr : List Nat), tab[j]? = some (o, fr) → ∀ i x, i < j → all[i]? = some x → Wt all j i ∨ (apartB all x o = true ∧ (j - 1 - i) ∈ fr)
  low : ∀ j i, Wt all j i → i < j
theorem reg_ok {all : List Oper} {tab : List (Oper × List Nat)} (h : reg all = some tab) : TabOk all tab := by
  unfold reg at h
  obtain ⟨h1, h2⟩ := regT_spec all [] 0 tab h (fun m => by rw [Nat.zero_add]) (fun i hi => by omega)
  have hw := waitsT_spec (all := all) all [] (fun m => by simp) (fun j ws hj => by simp at hj)
  refine ⟨h1, fun j o fr hj => ?_, fun j o fr hj i x hi hx => ?_, fun j i hj => ?_⟩
  · have := (h2 j o fr hj).1
    rwa [Nat.zero_add] at this
  · have := (h2 j o fr hj).2.2 i x (by omega) hx
    rw [Nat.zero_add] at this
    refine this.imp (fun h3 => ?_) id
    cases hc : (waitsT all [])[j]? with
    | none => rw [hc] at h3; cases h3
    | some ws => rw [hc] at h3; exact hw j ws hc i h3
  · induction hj with
    | one hj he hb =>
      rename_i j o e
      have hjl : j < tab.length := by rw [h1]; exact (List.getElem?_eq_some_iff.1 hj).1
      obtain ⟨h3, h4, _⟩ := h2 j tab[j].1 tab[j].2 (List.getElem?_eq_getElem hjl)
      rw [Nat.zero_add, hj] at h3
      cases h3
      rw [Nat.zero_add] at h4
      unfold edgeB at h4
      rw [List.all_eq_true] at h4
      have := h4 e (by simpa using he)
      rw [bindsB_eq, hb] at this
      simpa [Nat.blt_eq] using this
    | more _ _ ih1 ih2 => omega

/-! ### One more record -/
def DidOk (d : Did) (r : Rc) : Prop := match d with
  | .none => (∀ k, r.hs k = none) ∧ r.lo = r.hi ∧ r.tl = []
  | .rd i => (∀ k, k ≠ i → r.hs k = none) ∧ r.lo = r.hi ∧ r.tl = []
  | .gen lo hi tl => r.lo = lo ∧ r.hi = hi ∧ r.tl = tl
structure Tk (P : Program) (G : GlF) (all : List Oper) (nt : Nat) (E0 : Env) (h0 : HpF) (N0 : Nat) (R : List Rc) (ds : List Did) (env : Env) (h : HpF) (n : Nat) : Prop where
  ok : RegOk P G all nt E0 h0 N0 R
  hi : ∀ (j : Nat) (r : Rc), R[j]? = some r → r.hi ≤ n
  le : N0 ≤ n
  dom : Dom h n
  did : ∀ (q : Nat) (d : Did) (r : Rc), ds[q]? = some d → q < R.length → R[R.length - 1 - q]? = some r → DidOk d r
  lastH : ∀ id j r, LastH (fun _ => True) R id j r → h id = r.h' id
  noneH : ∀ id, NoneH (fun _ => True) R id → h id = h0 id
  lastE : ∀ t j r, LastE (fun _ => True) R t j r → env.get t = some r.v
  noneE : ∀ t, NoneE (fun _ => True) R t → env.get t = E0.get t
theorem get_snoc {R : List Rc} {r x : Rc} {j : Nat} (h : (R ++ [r])[j]? = some x) : (j < R.length ∧ R[j]? = some x) ∨ (j = R.length ∧ x = r) := by
  rcases Nat.lt_trichotomy j R.length with h1 | h1 | h1
  · rw [List.getElem?_append_left h1] at h; exact .inl ⟨h1, h⟩
  · subst h1
    rw [List.getElem?_append_right (Nat.le_refl _)] at h
    simp at h
    exact .inr ⟨rfl, h.symm⟩
  · rw [List.getElem?_eq_none (by simp; omega)] at h; cases h
theorem snoc_lt {R : List Rc} {r : Rc} {j : Nat} (h : j < R.length) : (R ++ [r])[j]? = R[j]? := List.getElem?_append_left h
theorem snoc_at (R : List Rc) (r : Rc) : (R ++ [r])[R.length]? = some r := by rw [List.getElem?_append_right (Nat.le_refl _)]; simp
theorem LastH.snoc {L : Nat → Prop} {R : List Rc} {r : Rc} {i j : Nat} {x : Rc} (h : LastH L R i j x) (hL : ∀ k, L k → k < R.length) : LastH L (R ++ [r]) i j x := by
  obtain ⟨h1, h2, h3, h4⟩ := h
  refine ⟨by rw [snoc_lt (hL j h2)]; exact h1, h2, h3, fun j' r' h5 h6 h7 => ?_⟩
  rw [snoc_lt (hL j' h7)] at h6
  exact h4 j' r' h5 h6 h7
theorem NoneH.snoc {L : Nat → Prop} {R : List Rc} {r : Rc} {i : Nat} (h : NoneH L R i) (hL : ∀ k, L k → k < R.length) : NoneH L (R ++ [r]) i := fun j x h1 h2 => by
  rw [snoc_lt (hL j h2)] at h1
  exact h j x h1 h2
theorem LastE.snoc {L : Nat → Prop} {R : List Rc} {r : Rc} {i j : Nat} {x : Rc} (h : LastE L R i j x) (hL : ∀ k, L k → k < R.length) : LastE L (R ++ [r]) i j x := by
  obtain ⟨h1, h2, h3, h4⟩ := h
  refine ⟨by rw [snoc_lt (hL j h2)]; exact h1, h2, h3, fun j' r' h5 h6 h7 => ?_⟩
  rw [snoc_lt (hL j' h7)] at h6
  exact h4 j' r' h5 h6 h7
theorem NoneE.snoc {L : Nat → Prop} {R : List Rc} {r : Rc} {i : Nat} (h : NoneE L R i) (hL : ∀ k, L k → k < R.length) : NoneE L (R ++ [r]) i := fun j x h1 h2 => by
  rw [snoc_lt (hL j h2)] at h1
  exact h j x h1 h2
theorem LastH.cut {R : List Rc} {i j : Nat} {x : Rc} (h : LastH (fun _ => True) R i j x) : LastH (fun k => k < R.length) R i j x :=
  ⟨h.1, (List.getElem?_eq_some_iff.1 h.1).1, h.2.2.1, fun j' r' h1 h2 _ => h.2.2.2 j' r' h1 h2 trivial⟩
theorem NoneH.cut {R : List Rc} {i : Nat} (h : NoneH (fun _ => True) R i) : NoneH (fun k => k < R.length) R i := fun j x h1 _ => h j x h1 trivial
theorem LastE.cut {R : List Rc} {i j : Nat} {x : Rc} (h : LastE (fun _ => True) R i j x) : LastE (fun k => k < R.length) R i j x :=
  ⟨h.1, (List.getElem?_eq_some_iff.1 h.1).1, h.2.2.1, fun j' r' h1 h2 _ => h.2.2.2 j' r' h1 h2 trivial⟩
theorem NoneE.cut {R : List Rc} {i : Nat} (h : NoneE (fun _ => True) R i) : NoneE (fun k => k < R.length) R i := fun j x h1 _ => h j x h1 trivial
section
variable {P : Program} {G : GlF} {all : List Oper} {nt : Nat} {E0 : Env} {h0 : HpF} {N0 : Nat}
theorem Tk.start {h : HpF} {n : Nat} {env : Env} (low : ∀ j i, Wt all j i → i < j) (d : Dom h n) : Tk P G all nt env h n [] [] env h n :=
  have no : ∀ {j : Nat} {r : Rc}, ([] : List Rc)[j]? = some r → False := fun h => by simp at h
  ⟨⟨fun _ _ h => (no h).elim, fun _ _ h => (no h).elim, fun _ _ _ _ _ h => (no h).elim, d, fun _ _ h => (no h).elim, fun _ _ h => (no h).elim, fun _ _ _ _ _ h => (no h).elim, low, fun _ _ _ _ h => (no h).elim, fun _ _ _ _ h => (no h).elim, fun _ _ h => (no h).elim, fun _ _ h => (no h).elim, fun _ _ h => (no h).elim, fun _ _ _ h => (no h).elim⟩,
    fun _ _ h => (no h).elim, Nat.le_refl _, d, fun _ _ _ h => (by simp at h), fun _ _ _ h => (no h.1).elim, fun _ _ => rfl, fun _ _ _ h => (no h.1).elim, fun _ _ => rfl⟩
theorem Tk.snoc {tab : List (Oper × List Nat)} (tb : TabOk all tab) {R : List Rc} {ds : List Did} {env : Env} {h : HpF} {n : Nat} (k : Tk P G all nt E0 h0 N0 R ds env h n) {r : Rc} {fr : List Nat} (hp : tab[R.length]? = some (r.o, fr)) (hlo : r.lo = n) (hdom : Dom r.hs n) (hF : Facts r.hs n r.h' r.hi r.tl)
    (hsub : ∀ id b, r.hs id = some b → h id = some b) (henv : r.env = env) (hsem : r.want = true → OpSem P G r.o.op r.env r.hs r.lo r.hi r.v r.h' r.tl) (hunw : r.want = false → r.lo = r.hi ∧ r.tl = [] ∧ r.h' = r.hs ∧ r.v = .tup [])
    (hwsem : ∀ (β : Be) (a : Act), (∀ t v, t ∈ looks all r.o → r.env.get t = some v → ∃ y, a.tmps[t]? = some y ∧ VR β v y) → Region.wanted r.o (yielded all.toArray a.tmps) = r.want)
    {env' : Env} (hset : (r.o.dst = none ∧ env' = env) ∨ ∃ t, r.o.dst = some t ∧ t < nt ∧ ∀ j, env'.get j = if j = t then some r.v else env.get j)
    (hfree : ∀ q ri, q ∈ fr → q < R.length → R[R.length - 1 - q]? = some ri → (∀ id b, r.hs id = some b → ¬ ri.tch id) ∧ (∀ t, t ∈ r.tl → ri.hs t = none)) {d : Did} (hd : DidOk d r)
    {hN : HpF} (hH : ∀ id, r.tch id → hN id = r.h' id) (hH' : ∀ id, ¬ r.tch id → hN id = h id) : Tk P G all nt E0 h0 N0 (R ++ [r]) (d :: ds) env' hN r.hi := by
  have ho := tb.op _ _ _ hp
  have hle := hF.le
  refine ⟨⟨fun j x hj => ?_, fun j x hj => ?_, fun i j ri rj hij hi hj => ?_, k.ok.dom0, fun j x hj => ?_, fun j x hj => ?_, fun i j ri rj hij hi hj => ?_, k.ok.low, fun j x id b hj hb => ?_, fun j x t v hj hv => ?_, fun j x hj hw => ?_, fun j x hj hw => ?_, fun j x hj => ?_, fun j x t hj ht => ?_⟩,
    fun j x hj => ?_, ?_, fun id hid => ?_, fun q d' x hq hlt hx => ?_, fun id j x hl => ?_, fun id hn => ?_, fun t j x hl => ?_, fun t hn => ?_⟩
  · rcases get_snoc hj with ⟨_, hj⟩ | ⟨rfl, rfl⟩
    · exact k.ok.ops j x hj
    · exact ho
  · rcases get_snoc hj with ⟨_, hj⟩ | ⟨rfl, rfl⟩
    · exact k.ok.base j x hj
    · rw [hlo]; exact k.le
  · rcases get_snoc hj with ⟨hjl, hj⟩ | ⟨rfl, rfl⟩
    · rw [snoc_lt (by omega)] at hi
      exact k.ok.mono i j ri rj hij hi hj
    · rw [snoc_lt hij] at hi
      rw [hlo]; exact k.hi i ri hi
  · rcases get_snoc hj with ⟨_, hj⟩ | ⟨rfl, rfl⟩
    · exact k.ok.dom j x hj
    · rw [hlo]; exact hdom
  · rcases get_snoc hj with ⟨_, hj⟩ | ⟨rfl, rfl⟩
    · exact k.ok.facts j x hj
    · rw [hlo]; exact hF
  · rcases get_snoc hj with ⟨hjl, hj⟩ | ⟨rfl, rfl⟩
    · rw [snoc_lt (by omega)] at hi
      exact k.ok.free i j ri rj hij hi hj
    · rw [snoc_lt hij] at hi
      rcases tb.free _ _ _ hp i ri.o hij (k.ok.ops i ri hi) with h1 | ⟨h1, h2⟩
      · exact .inl h1
      · obtain ⟨h3, h4⟩ := apartB_spec h1
        obtain ⟨h5, h6⟩ := hfree _ ri h2 (by omega) (by rw [show R.length - 1 - (R.length - 1 - i) = i by omega]; exact hi)
        exact .inr ⟨h3, h4, h5, h6⟩
  · rcases get_snoc hj with ⟨hjl, hj⟩ | ⟨rfl, rfl⟩
    · rcases k.ok.canon j x id b hj hb with ⟨i, ri, h1, h2⟩ | ⟨h1, h2⟩
      · exact .inl ⟨i, ri, h1.snoc (fun k hk => by omega), h2⟩
      · exact .inr ⟨h1.snoc (fun k hk => by omega), h2⟩
    · have hb' := hsub id b hb
      rcases lastH_or (fun _ => True) R id with ⟨i, ri, h1⟩ | h1
      · exact .inl ⟨i, ri, h1.cut.snoc (fun k hk => hk), by rw [← k.lastH id i ri h1]; exact hb'⟩
      · exact .inr ⟨h1.cut.snoc (fun k hk => hk), by rw [← k.noneH id h1]; exact hb'⟩
  · rcases get_snoc hj with ⟨hjl, hj⟩ | ⟨rfl, rfl⟩
    · rcases k.ok.canonE j x t v hj hv with ⟨i, ri, h1, h2⟩ | ⟨h1, h2⟩
      · exact .inl ⟨i, ri, h1.snoc (fun k hk => by omega), h2⟩
      · exact .inr ⟨h1.snoc (fun k hk => by omega), h2⟩
    · rw [henv] at hv
      rcases lastE_or (fun _ => True) R t with ⟨i, ri, h1⟩ | h1
      · have := k.lastE t i ri h1
        rw [hv] at this
        exact .inl ⟨i, ri, h1.cut.snoc (fun k hk => hk), (Option.some.inj this).symm⟩
      · exact .inr ⟨h1.cut.snoc (fun k hk => hk), by rw [← k.noneE t h1]; exact hv⟩
  · rcases get_snoc hj with ⟨_, hj⟩ | ⟨rfl, rfl⟩
    · exact k.ok.sem j x hj hw
    · exact hsem hw
  · rcases get_snoc hj with ⟨_, hj⟩ | ⟨rfl, rfl⟩
    · exact k.ok.unw j x hj hw
    · exact hunw hw
  · rcases get_snoc hj with ⟨_, hj⟩ | ⟨rfl, rfl⟩
    · exact k.ok.wsem j x hj
    · exact hwsem
  · rcases get_snoc hj with ⟨_, hj⟩ | ⟨rfl, rfl⟩
    · exact k.ok.dst j x t hj ht
    · rcases hset with ⟨h1, _⟩ | ⟨u, h1, h2, _⟩
      · rw [h1] at ht; cases ht
      · rw [h1] at ht; cases ht; exact h2
  · rcases get_snoc hj with ⟨_, hj⟩ | ⟨rfl, rfl⟩
    · exact Nat.le_trans (k.hi j x hj) hle
    · exact Nat.le_refl _
  · exact Nat.le_trans k.le hle
  · rw [hH' id fun ht => ?_]
    · exact k.dom id (Nat.le_trans hle hid)
    · rcases ht with ⟨_, h1⟩ | h1
      · omega
      · have := (hF.old id h1).1; omega
  · cases q with
    | zero =>
      simp only [List.getElem?_cons_zero, Option.some.injEq] at hq
      subst hq
      rw [List.length_append, List.length_singleton, show R.length + 1 - 1 - 0 = R.length by omega, snoc_at] at hx
      cases hx; exact hd
    | succ q =>
      rw [List.getElem?_cons_succ] at hq
      rw [List.length_append, List.length_singleton] at hlt hx
      rw [show R.length + 1 - 1 - (q + 1) = R.length - 1 - q by omega, snoc_lt (by omega)] at hx
      exact k.did q d' x hq (by omega) hx
  · obtain ⟨h1, _, h3, h4⟩ := hl
    rcases get_snoc h1 with ⟨h5, h6⟩ | ⟨rfl, rfl⟩
    · have hnr : ¬ r.tch id := h4 R.length r h5 (snoc_at R r) trivial
      rw [hH' id hnr]
      exact k.lastH id j x ⟨h6, trivial, h3, fun j' r' h7 h8 _ => h4 j' r' h7 (by rw [snoc_lt (List.getElem?_eq_some_iff.1 h8).1]; exact h8) trivial⟩
    · exact hH id h3
  · rw [hH' id (hn R.length r (snoc_at R r) trivial)]
    exact k.noneH id fun j x h1 _ => hn j x (by rw [snoc_lt (List.getElem?_eq_some_iff.1 h1).1]; exact h1) trivial
  · obtain ⟨h1, _, h3, h4⟩ := hl
    rcases get_snoc h1 with ⟨h5, h6⟩ | ⟨rfl, rfl⟩
    · have hnr : r.o.dst ≠ some t := h4 R.length r h5 (snoc_at R r) trivial
      have hold := k.lastE t j x ⟨h6, trivial, h3, fun j' r' h7 h8 _ => h4 j' r' h7 (by rw [snoc_lt (List.getElem?_eq_some_iff.1 h8).1]; exact h8) trivial⟩
      rcases hset with ⟨_, rfl⟩ | ⟨u, h7, _, h8⟩
      · exact hold
      · rw [h8, if_neg (fun e => hnr (by rw [e]; exact h7))]; exact hold
    · rcases hset with ⟨h5, _⟩ | ⟨u, h5, _, h8⟩
      · rw [h5] at h3; cases h3
      · rw [h5] at h3; cases h3
        rw [h8, if_pos rfl]
  · have hnr : r.o.dst ≠ some t := hn R.length r (snoc_at R r) trivial
    have hold := k.noneE t fun j x h1 _ => hn j x (by rw [snoc_lt (List.getElem?_eq_some_iff.1 h1).1]; exact h1) trivial
    rcases hset with ⟨_, rfl⟩ | ⟨u, h7, _, h8⟩
    · exact hold
    · rw [h8, if_neg (fun e => hnr (by rw [e]; exact h7))]; exact hold
end
end Go.Proofs.YtcimgilfogeebaaGreatDoor.VM
