/- VM, 17: operations whose order is drawn. -/
import Derived.Test.YtcimgilfogeebaaGreatDoorVD3
set_option linter.unusedVariables false
set_option linter.unusedSimpArgs false
namespace Go.Proofs.YtcimgilfogeebaaGreatDoor.VM
open Go Go.RowKit Go.Proofs.YtcimgilfogeebaaGreatDoor

theorem quietB_spec {ds : List Did} {i : Nat} : ∀ (fr : List Nat), quietB ds i fr = true → ∀ q, q ∈ fr → ∃ d, ds[q]? = some d ∧ ∀ r, DidOk d r → ¬ r.tch i
  | [], _, q, hq => by cases hq
  | x :: fr, h, q, hq => by
    have h' : (match ds[x]? with
      | some (.gen lo hi tl) => (match (Nat.ble lo i && Nat.blt i hi) || memB i tl with
        | true => false
        | false => quietB ds i fr)
      | some _ => quietB ds i fr
      | none => false) = true := h
    have self : ∃ d, ds[x]? = some d ∧ (∀ r, DidOk d r → ¬ r.tch i) ∧ quietB ds i fr = true := by
      split at h'
      · rename_i lo hi tl hx
        split at h'
        · cases h'
        · rename_i hc
          refine ⟨_, hx, fun r hr ht => ?_, h'⟩
          obtain ⟨e1, e2, e3⟩ := hr
          rw [Bool.or_eq_false_iff, Bool.and_eq_false_iff] at hc
          rcases ht with ⟨h1, h2⟩ | h1
          · rcases hc.1 with h3 | h3
            · have : Nat.ble lo i = true := (by rw [Nat.ble_eq]; omega)
              rw [this] at h3; cases h3
            · have : Nat.blt i hi = true := (by rw [Nat.blt_eq]; omega)
              rw [this] at h3; cases h3
          · have := memB_iff.2 (by rw [← e3]; exact h1 : i ∈ tl)
            rw [hc.2] at this; cases this
      · rename_i d hng hx
        refine ⟨_, hx, fun r hr ht => ?_, h'⟩
        cases d with
        | none =>
          obtain ⟨_, e2, e3⟩ := hr
          rcases ht with ⟨h1, h2⟩ | h1
          · omega
          · rw [e3] at h1; cases h1
        | rd k =>
          obtain ⟨_, e2, e3⟩ := hr
          rcases ht with ⟨h1, h2⟩ | h1
          · omega
          · rw [e3] at h1; cases h1
        | gen lo hi tl => exact (hng lo hi tl rfl).elim
      · cases h'
    obtain ⟨d, h1, h2, h3⟩ := self
    rcases List.mem_cons.1 hq with rfl | hq
    · exact ⟨d, h1, h2⟩
    · exact quietB_spec fr h3 q hq
theorem unseenB_spec {ds : List Did} {tl : List Nat} (fr : List Nat) (h : unseenB ds tl fr = true) : ∀ q, q ∈ fr → ∀ t, t ∈ tl → ∃ d, ds[q]? = some d ∧ ∀ r, DidOk d r → r.hs t = none := by
  cases tl with
  | nil => intro q _ t ht; cases ht
  | cons y tl =>
    have key : ∀ fr, unseenB ds (y :: tl) fr = true → ∀ q, q ∈ fr → ∀ t, t ∈ y :: tl → ∃ d, ds[q]? = some d ∧ ∀ r, DidOk d r → r.hs t = none := by
      intro fr
      induction fr with
      | nil => intro _ q hq; cases hq
      | cons x fr ih =>
        intro h q hq t ht
        have h' : (match ds[x]? with
          | some .none => unseenB ds (y :: tl) fr
          | some (.rd i) => (match memB i (y :: tl) with
            | true => false
            | false => unseenB ds (y :: tl) fr)
          | _ => false) = true := h
        have self : (∃ d, ds[x]? = some d ∧ ∀ r, DidOk d r → r.hs t = none) ∧ unseenB ds (y :: tl) fr = true := by
          split at h'
          · rename_i hx
            exact ⟨⟨_, hx, fun r hr => hr.1 t⟩, h'⟩
          · rename_i i hx
            split at h'
            · cases h'
            · rename_i hc
              refine ⟨⟨_, hx, fun r hr => hr.1 t fun e => ?_⟩, h'⟩
              subst e
              rw [memB_iff.2 ht] at hc; cases hc
          · cases h'
        rcases List.mem_cons.1 hq with rfl | hq
        · exact self.1
        · exact ih self.2 q hq t ht
    exact key fr h
theorem Did1.zero_touch {r : Rc} (h1 : r.lo = r.hi) (h2 : r.tl = []) (i : Nat) : ¬ r.tch i := fun ht => by
  rcases ht with ⟨a, b⟩ | a
  · omega
  · rw [h2] at a; cases a

section
variable {α : Type} {bad : α} {T : α → Prop} (hb : ¬ T bad)
include hb
/-- what has been taken away -/
structure Dr (h : Mem) (g : Mem) (rm : List (Nat × Blk)) : Prop where
  ofRm : ∀ id b, (id, b) ∈ rm → g.get id = none ∧ h.get id = some b
  or : ∀ id, g.get id = h.get id ∨ ∃ b, (id, b) ∈ rm
theorem dropOneK_spec {h0 g : Mem} {i : Nat} {rm : List (Nat × Blk)} (d : Dr h0 g rm) {k : Mem → List (Nat × Blk) → α} (hk : T (dropOneK bad g i rm k)) : ∃ g' rm', T (k g' rm') ∧ Dr h0 g' rm' ∧ g'.get i = none ∧ ∀ j, g.get j = none → g'.get j = none := by
  unfold dropOneK at hk
  split at hk
  · rename_i b hg
    obtain ⟨g', h1, h2⟩ := putM_spec hb hk
    refine ⟨g', _, h1, ⟨fun id c hm => ?_, fun id => ?_⟩, by rw [h2, if_pos rfl], fun j hj => ?_⟩
    · rcases List.mem_cons.1 hm with hm | hm
      · cases hm
        refine ⟨by rw [h2, if_pos rfl], ?_⟩
        rcases d.or i with h3 | ⟨c, h3⟩
        · rw [← h3]; exact hg
        · have := (d.ofRm i c h3).1
          rw [hg] at this; cases this
      · obtain ⟨h3, h4⟩ := d.ofRm id c hm
        refine ⟨?_, h4⟩
        rw [h2]; split
        · rfl
        · exact h3
    · by_cases e : id = i
      · subst e; exact .inr ⟨b, List.mem_cons_self ..⟩
      · rw [h2, if_neg e]
        rcases d.or id with h3 | ⟨c, h3⟩
        · exact .inl h3
        · exact .inr ⟨c, List.mem_cons_of_mem _ h3⟩
    · rw [h2]; split
      · rfl
      · exact hj
  · rename_i hg
    exact ⟨g, rm, hk, d, hg, fun _ h => h⟩
theorem dropRangeK_spec {h0 : Mem} {lo : Nat} {k : Mem → List (Nat × Blk) → α} : ∀ (c : Nat) (g : Mem) (rm : List (Nat × Blk)), Dr h0 g rm → T (dropRangeK bad lo c g rm k) → ∃ g' rm', T (k g' rm') ∧ Dr h0 g' rm' ∧ (∀ i, lo ≤ i → i < lo + c → g'.get i = none) ∧ ∀ j, g.get j = none → g'.get j = none
  | 0, g, rm, d, hk => ⟨g, rm, hk, d, fun i h1 h2 => by omega, fun _ h => h⟩
  | c + 1, g, rm, d, hk => by
    have hk' : T (dropOneK bad g (Nat.add lo c) rm fun h rm => dropRangeK bad lo c h rm k) := hk
    obtain ⟨g1, rm1, h1, d1, h2, h3⟩ := dropOneK_spec hb d hk'
    obtain ⟨g2, rm2, h4, d2, h5, h6⟩ := dropRangeK_spec c g1 rm1 d1 h1
    refine ⟨g2, rm2, h4, d2, fun i h7 h8 => ?_, fun j hj => h6 j (h3 j hj)⟩
    by_cases e : i = lo + c
    · subst e; exact h6 _ h2
    · exact h5 i h7 (by omega)
theorem dropListK_spec {h0 : Mem} {k : Mem → List (Nat × Blk) → α} : ∀ (tl : List Nat) (g : Mem) (rm : List (Nat × Blk)), Dr h0 g rm → T (dropListK bad tl g rm k) → ∃ g' rm', T (k g' rm') ∧ Dr h0 g' rm' ∧ (∀ i, i ∈ tl → g'.get i = none) ∧ ∀ j, g.get j = none → g'.get j = none
  | [], g, rm, d, hk => ⟨g, rm, hk, d, fun i h => (by cases h), fun _ h => h⟩
  | t :: tl, g, rm, d, hk => by
    have hk' : T (dropOneK bad g t rm fun h rm => dropListK bad tl h rm k) := hk
    obtain ⟨g1, rm1, h1, d1, h2, h3⟩ := dropOneK_spec hb d hk'
    obtain ⟨g2, rm2, h4, d2, h5, h6⟩ := dropListK_spec tl g1 rm1 d1 h1
    refine ⟨g2, rm2, h4, d2, fun i h7 => ?_, fun j hj => h6 j (h3 j hj)⟩
    rcases List.mem_cons.1 h7 with rfl | h7
    · exact h6 _ h2
    · exact h5 i h7
theorem dropAllK_spec {h0 : Mem} {ds : List Did} {k : Mem → List (Nat × Blk) → α} : ∀ (fr : List Nat) (g : Mem) (rm : List (Nat × Blk)), Dr h0 g rm → T (dropAllK bad ds fr g rm k) →
    ∃ g' rm', T (k g' rm') ∧ Dr h0 g' rm' ∧ (∀ q, q ∈ fr → ∃ d, ds[q]? = some d ∧ ∀ r, DidOk d r → ∀ i, r.tch i → g'.get i = none) ∧ ∀ j, g.get j = none → g'.get j = none
  | [], g, rm, d, hk => ⟨g, rm, hk, d, fun i h => (by cases h), fun _ h => h⟩
  | x :: fr, g, rm, d, hk => by
    have hk' : T (match ds[x]? with
      | some (.gen lo hi tl) => dropRangeK bad lo (Nat.sub hi lo) g rm fun h rm => dropListK bad tl h rm fun h rm => dropAllK bad ds fr h rm k
      | some _ => dropAllK bad ds fr g rm k
      | none => bad) := hk
    split at hk'
    · rename_i lo hi tl hx
      obtain ⟨g1, rm1, h1, d1, h2, h3⟩ := dropRangeK_spec hb _ _ _ d hk'
      obtain ⟨g2, rm2, h4, d2, h5, h6⟩ := dropListK_spec hb _ _ _ d1 h1
      obtain ⟨g3, rm3, h7, d3, h8, h9⟩ := dropAllK_spec fr g2 rm2 d2 h4
      refine ⟨g3, rm3, h7, d3, fun q hq => ?_, fun j hj => h9 j (h6 j (h3 j hj))⟩
      rcases List.mem_cons.1 hq with rfl | hq
      · refine ⟨_, hx, fun r hr i ht => ?_⟩
        obtain ⟨e1, e2, e3⟩ := hr
        rcases ht with ⟨h10, h11⟩ | h10
        · exact h9 i (h6 i (h2 i (by omega) (by show i < lo + (hi - lo); omega)))
        · exact h9 i (h5 i (by rw [← e3]; exact h10))
      · exact h8 q hq
    · rename_i d' hng hx
      obtain ⟨g3, rm3, h7, d3, h8, h9⟩ := dropAllK_spec fr g rm d hk'
      refine ⟨g3, rm3, h7, d3, fun q hq => ?_, h9⟩
      rcases List.mem_cons.1 hq with rfl | hq
      · refine ⟨_, hx, fun r hr i ht => ?_⟩
        cases d' with
        | none => exact (Did1.zero_touch hr.2.1 hr.2.2 i ht).elim
        | rd k => exact (Did1.zero_touch hr.2.1 hr.2.2 i ht).elim
        | gen lo hi tl => exact (hng lo hi tl rfl).elim
      · exact h8 q hq
    · exact absurd hk' hb
theorem backK_spec {h0 : Mem} {k : Mem → α} : ∀ (rm : List (Nat × Blk)) (g : Mem), (∀ id b, (id, b) ∈ rm → h0.get id = some b) → T (backK bad rm g k) → ∃ g', T (k g') ∧ ∀ id, ((∃ b, (id, b) ∈ rm) → g'.get id = h0.get id) ∧ ((∀ b, (id, b) ∉ rm) → g'.get id = g.get id)
  | [], g, _, hk => ⟨g, hk, fun id => ⟨fun ⟨b, h⟩ => (by cases h), fun _ => rfl⟩⟩
  | (i, c) :: rm, g, hr, hk => by
    have hk' : T (putM bad g i (some c) fun h => backK bad rm h k) := hk
    obtain ⟨g1, h1, h2⟩ := putM_spec hb hk'
    obtain ⟨g2, h3, h4⟩ := backK_spec rm g1 (fun id b hm => hr id b (List.mem_cons_of_mem _ hm)) h1
    refine ⟨g2, h3, fun id => ⟨fun ⟨b, hm⟩ => ?_, fun hn => ?_⟩⟩
    · by_cases e : ∃ b, (id, b) ∈ rm
      · exact (h4 id).1 e
      · rw [(h4 id).2 fun b hm => e ⟨b, hm⟩]
        rcases List.mem_cons.1 hm with hm | hm
        · cases hm
          rw [h2, if_pos rfl, hr _ _ (List.mem_cons_self ..)]
        · exact (e ⟨b, hm⟩).elim
    · rw [(h4 id).2 fun b hb => hn b (List.mem_cons_of_mem _ hb), h2, if_neg fun e => hn c (by subst e; exact List.mem_cons_self ..)]
theorem load_sem2 {P : Program} {Γ : Ctx} (hΓ : TyOk P Γ) {env : Env} {h : Mem} {n : Nat} {U : TypeId} {x : Operand} {k : AV → AV → α}
    (hk : T (tyK bad Γ U fun t => oK bad env x fun p => loadK bad Γ h p t.size fun l => asVarK bad t.agg l (k p))) : ∃ v p, T (k p v) ∧
      (∀ g : HpF, (∀ i off, p = .ptr i off → g i = h.get i) → OpSem P Γ.gl (.load U x) env g n n v g []) := by
  obtain ⟨t, ht, h1⟩ := tyK_spec hb hk
  obtain ⟨p, hp, h2⟩ := oK_spec hb h1
  obtain ⟨l, h3, hl, hc⟩ := loadK_spec hb h2
  obtain ⟨v, h4, hv⟩ := asVarK_spec hb h3
  refine ⟨v, p, h4, fun g hgm β W a o ho r hs hf K hK => ?_⟩
  have hc' : (∃ i off b, p = .ptr i off ∧ g i = some b ∧ off + t.size ≤ b.cells.length ∧ l = (b.cells.drop off).take t.size) ∨ (∃ g off cs, p = .glo g off ∧ Γ.gl g = some cs ∧ off + t.size ≤ cs.length ∧ l = (cs.drop off).take t.size) := by
    rcases hc with ⟨i, off, b, h5, h6, h7⟩ | h5
    · exact .inl ⟨i, off, b, h5, by rw [hgm i off h5]; exact h6, h7⟩
    · exact .inr h5
  obtain ⟨b, o', l', e, hvl, hrg⟩ := load_range r (hp.vr hs (x := x) (by simp [Op.operands])) hc'
  obtain ⟨y, hy, hr⟩ := run_load (hΓ.ty U t ht) hvl hrg hl hv
  refine wp_value (y := y) (W' := W) ?_ (hK β W y (Post.refl r n) hr)
  unfold execOp
  simp [ho, e, hy]

/-- what the operations of the table have done -/
theorem drawK_trace {P : Program} {Γ : Ctx} (hΓ : TyOk P Γ) {callK : CallK α} (hc : CallOk P Γ.gl T callK) {fb nt : Nat} {all : List Oper} {tab : List (Oper × List Nat)} (tb : TabOk all tab) {E0 : Env} {h0 : HpF} {N0 : Nat} {lg0 : List Nat} {k : Env → Mem → Nat → List Nat → α} :
    ∀ (l : List (Oper × List Nat)) (R : List Rc) (ds : List Did) (env : Env) (h : Mem) (n : Nat) (lg : List Nat), (∀ m, l[m]? = tab[R.length + m]?) → R.length + l.length = tab.length → Tk P Γ.gl all nt E0 h0 N0 R ds env h.get n →
      (∀ t, t ∈ lg ↔ (t < fb ∧ ∃ (j : Nat) (r : Rc), R[j]? = some r ∧ t ∈ r.tl) ∨ t ∈ lg0) → T (drawK bad Γ callK fb nt all l ds env h n lg k) →
      ∃ R' ds' env' h' n' lg', T (k env' h' n' lg') ∧ R'.length = all.length ∧ Tk P Γ.gl all nt E0 h0 N0 R' ds' env' h'.get n' ∧ (∀ t, t ∈ lg' ↔ (t < fb ∧ ∃ (j : Nat) (r : Rc), R'[j]? = some r ∧ t ∈ r.tl) ∨ t ∈ lg0)
  | [], R, ds, env, h, n, lg, hl, hn, tk, hlg, hk => ⟨R, ds, env, h, n, lg, hk, by have := tb.len; simp at hn; omega, tk, hlg⟩
  | (o, fr) :: l, R, ds, env, h, n, lg, hl, hn, tk, hlg, hk => by
    have hk' : T (wantK bad all env o fun
        | false => setK bad nt env o.dst (.tup []) fun env => drawK bad Γ callK fb nt all l (.none :: ds) env h n lg k
        | true => match classOf o.op with
          | .pure => pureK bad Γ env o.op fun v => setK bad nt env o.dst v fun env => drawK bad Γ callK fb nt all l (.none :: ds) env h n lg k
          | .load => (match o.op with
            | .load T x => tyK bad Γ T fun t => oK bad env x fun p => loadK bad Γ h p t.size fun l' => asVarK bad t.agg l' fun v => setK bad nt env o.dst v fun env => (match p with
              | .ptr i _ => (match quietB ds i fr with
                | true => drawK bad Γ callK fb nt all l (.rd i :: ds) env h n lg k
                | false => bad)
              | .glo _ _ => drawK bad Γ callK fb nt all l (.none :: ds) env h n lg k
              | _ => bad)
            | _ => bad)
          | .gen => dropAllK bad ds fr h [] fun h rm => heapK bad Γ callK env h n o.op fun v h n' tl => (match unseenB ds tl fr with
            | true => backK bad rm h fun h => setK bad nt env o.dst v fun env => logK fb tl lg fun lg => drawK bad Γ callK fb nt all l (.gen n n' tl :: ds) env h n' lg k
            | false => bad)) := hk
    have hp : tab[R.length]? = some (o, fr) := by have := hl 0; simpa using this.symm
    have hl1 : ∀ r : Rc, ∀ m, l[m]? = tab[(R ++ [r]).length + m]? := fun r m => by
      have := hl (m + 1)
      rw [List.getElem?_cons_succ] at this
      rw [this, List.length_append, List.length_singleton]
      congr 1; omega
    have hn1 : ∀ r : Rc, (R ++ [r]).length + l.length = tab.length := fun r => by
      rw [List.length_append, List.length_singleton]; simp at hn; omega
    have lg1 : ∀ (r : Rc) (lg' : List Nat), (∀ t, t ∈ lg' ↔ (t ∈ r.tl ∧ t < fb) ∨ t ∈ lg) → ∀ t, t ∈ lg' ↔ (t < fb ∧ ∃ (j : Nat) (x : Rc), (R ++ [r])[j]? = some x ∧ t ∈ x.tl) ∨ t ∈ lg0 := fun r lg' h t => by
      rw [h, hlg]
      constructor
      · rintro (⟨h1, h2⟩ | ⟨h1, j, x, h2, h3⟩ | h1)
        · exact .inl ⟨h2, R.length, r, snoc_at R r, h1⟩
        · exact .inl ⟨h1, j, x, by rw [snoc_lt (List.getElem?_eq_some_iff.1 h2).1]; exact h2, h3⟩
        · exact .inr h1
      · rintro (⟨h1, j, x, h2, h3⟩ | h1)
        · rcases get_snoc h2 with ⟨_, h2⟩ | ⟨rfl, rfl⟩
          · exact .inr (.inl ⟨h1, j, x, h2, h3⟩)
          · exact .inl ⟨h3, h1⟩
        · exact .inr (.inr h1)
    obtain ⟨b, h1, _, hw⟩ := wantK_spec hb hk'
    have free0 : ∀ (r : Rc), (∀ i, r.hs i = none) → r.tl = [] → ∀ q ri, q ∈ fr → q < R.length → R[R.length - 1 - q]? = some ri → (∀ id b, r.hs id = some b → ¬ ri.tch id) ∧ (∀ t, t ∈ r.tl → ri.hs t = none) := fun r e1 e2 q ri _ _ _ =>
      ⟨fun id b hb => (by rw [e1] at hb; cases hb), fun t ht => (by rw [e2] at ht; cases ht)⟩
    -- an operation that has nothing to do with memory
    have quiet : ∀ (w : Bool) (v : AV) (env1 : Env), (w = true → OpSem P Γ.gl o.op env (fun _ => none) n n v (fun _ => none) []) → (w = false → v = .tup []) → (∀ (β : Be) (a : Act), (∀ t v, t ∈ looks all o → env.get t = some v → ∃ y, a.tmps[t]? = some y ∧ VR β v y) → Region.wanted o (yielded all.toArray a.tmps) = w) →
        ((o.dst = none ∧ env1 = env) ∨ ∃ t, o.dst = some t ∧ t < nt ∧ ∀ j, env1.get j = if j = t then some v else env.get j) → T (drawK bad Γ callK fb nt all l (.none :: ds) env1 h n lg k) →
        ∃ R' ds' env' h' n' lg', T (k env' h' n' lg') ∧ R'.length = all.length ∧ Tk P Γ.gl all nt E0 h0 N0 R' ds' env' h'.get n' ∧ (∀ t, t ∈ lg' ↔ (t < fb ∧ ∃ (j : Nat) (r : Rc), R'[j]? = some r ∧ t ∈ r.tl) ∨ t ∈ lg0) := fun w v env1 hsem hv hws hset hT => by
      let r : Rc := ⟨o, w, env, v, fun _ => none, n, n, fun _ => none, []⟩
      have nt' : ∀ i, ¬ r.tch i := Did1.zero_touch (r := r) rfl rfl
      have tk1 : Tk P Γ.gl all nt E0 h0 N0 (R ++ [r]) (.none :: ds) env1 h.get n := tk.snoc tb (r := r) hp rfl (fun _ _ => rfl) (Facts.refl _ _) (fun id b hb => by cases hb) rfl hsem (fun e => ⟨rfl, rfl, rfl, hv e⟩) hws hset (free0 r (fun _ => rfl) rfl) (d := .none) ⟨fun _ => rfl, rfl, rfl⟩ (fun id ht => (nt' id ht).elim) (fun _ _ => rfl)
      exact drawK_trace hΓ hc tb l (R ++ [r]) (.none :: ds) env1 h n lg (hl1 r) (hn1 r) tk1 (lg1 r lg fun t => by simp [r]) hT
    cases b with
    | false =>
      obtain ⟨env1, h3, he⟩ := setK_spec hb h1
      exact quiet false (.tup []) env1 (fun e => by cases e) (fun _ => rfl) hw he h3
    | true =>
      simp only at h1
      split at h1
      · obtain ⟨v, h2, hs⟩ := pureK_sound hb hΓ h1
        obtain ⟨env1, h3, he⟩ := setK_spec hb h2
        refine quiet true v env1 (fun _ β W a o' ho r hs' hf K hK => ?_) (fun e => by cases e) hw he h3
        obtain ⟨y, hy, hr⟩ := hs β a W o' ho hs'
        exact wp_value hy (hK β W y (Post.refl r n) hr)
      · split at h1
        · rename_i U x hop
          obtain ⟨v, p, h2, hs⟩ := load_sem2 (n := n) hb hΓ h1
          obtain ⟨env1, h3, he⟩ := setK_spec hb h2
          split at h3
          · rename_i i off
            split at h3
            · rename_i hq
              let g : HpF := fun j => if j = i then h.get i else none
              let r : Rc := ⟨o, true, env, v, g, n, n, g, []⟩
              have nt' : ∀ i, ¬ r.tch i := Did1.zero_touch (r := r) rfl rfl
              have hg : ∀ id b, g id = some b → id = i ∧ h.get id = some b := fun id b hb => by
                simp only [g] at hb
                split at hb
                · rename_i e; subst e; exact ⟨rfl, hb⟩
                · cases hb
              have tk1 : Tk P Γ.gl all nt E0 h0 N0 (R ++ [r]) (.rd i :: ds) env1 h.get n := by
                refine tk.snoc tb (r := r) hp rfl (fun id hid => ?_) (Facts.refl _ _) (fun id b hb => (hg id b hb).2) rfl (fun _ => ?_) (fun e => by cases e) hw he (fun q ri hqm hql hri => ⟨fun id b hb => ?_, fun t ht => by cases ht⟩) (d := .rd i) ⟨fun j hj => ?_, rfl, rfl⟩ (fun id ht => (nt' id ht).elim) (fun _ _ => rfl)
                · cases hc : g id with
                  | none => exact hc
                  | some b => exact absurd (hg id b hc).2 (by rw [tk.dom id hid]; simp)
                · show OpSem P Γ.gl o.op env g n n v g []
                  rw [hop]
                  exact hs g fun i' off' e => by cases e; simp [g]
                · obtain ⟨rfl, _⟩ := hg id b hb
                  obtain ⟨d, h4, h5⟩ := quietB_spec fr hq q hqm
                  exact h5 ri (tk.did q d ri h4 hql hri)
                · simp only [r, g]; rw [if_neg hj]
              exact drawK_trace hΓ hc tb l (R ++ [r]) (.rd i :: ds) env1 h n lg (hl1 r) (hn1 r) tk1 (lg1 r lg fun t => by simp [r]) h3
            · exact absurd h3 hb
          · refine quiet true v env1 (fun _ => ?_) (fun e => by cases e) hw he h3
            rw [hop]
            exact hs (fun _ => none) fun i off e => by cases e
          · exact absurd h3 hb
        · exact absurd h1 hb
      · obtain ⟨g, rm, h2, d, hdr, _⟩ := dropAllK_spec hb (h0 := h) (ds := ds) fr h [] ⟨fun id b hm => (by cases hm), fun id => .inl rfl⟩ h1
        have hgs : ∀ id b, g.get id = some b → h.get id = some b := fun id b hb => by
          rcases d.or id with h3 | ⟨c, h3⟩
          · rw [← h3]; exact hb
          · rw [(d.ofRm id c h3).1] at hb; cases hb
        have hgd : Dom g.get n := fun id hid => by
          cases hc : g.get id with
          | none => rfl
          | some b => have := hgs id b hc; rw [tk.dom id hid] at this; cases this
        obtain ⟨v, h', n', tl, h3, hF, hS⟩ := heapK_sound hb hΓ hc hgd h2
        simp only at h3
        split at h3
        · rename_i hun
          obtain ⟨hN, h4, hback⟩ := backK_spec hb (h0 := h) rm h' (fun id b hm => (d.ofRm id b hm).2) h3
          obtain ⟨env1, h5, he⟩ := setK_spec hb h4
          obtain ⟨lg', h6, hlg'⟩ := logK_go _ _ h5
          let r : Rc := ⟨o, true, env, v, g.get, n, n', h'.get, tl⟩
          have rmOld : ∀ id b, (id, b) ∈ rm → ¬ r.tch id := fun id b hm ht => by
            obtain ⟨h7, h8⟩ := d.ofRm id b hm
            rcases ht with ⟨h9, _⟩ | h9
            · rw [tk.dom id h9] at h8; cases h8
            · have := (hF.old id h9).2
              rw [h7] at this; cases this
          have tk1 : Tk P Γ.gl all nt E0 h0 N0 (R ++ [r]) (.gen n n' tl :: ds) env1 hN.get n' := by
            refine tk.snoc tb (r := r) hp rfl hgd hF hgs rfl (fun _ => hS) (fun e => by cases e) hw he (fun q ri hqm hql hri => ⟨fun id b hb ht => ?_, fun t ht => ?_⟩) (d := .gen n n' tl) ⟨rfl, rfl, rfl⟩ (fun id ht => ?_) (fun id ht => ?_)
            · obtain ⟨d', h7, h8⟩ := hdr q hqm
              have := h8 ri (tk.did q d' ri h7 hql hri) id ht
              have hb' : g.get id = some b := hb
              rw [this] at hb'; cases hb'
            · obtain ⟨d', h7, h8⟩ := unseenB_spec fr hun q hqm t ht
              exact h8 ri (tk.did q d' ri h7 hql hri)
            · exact (hback id).2 fun b hm => rmOld id b hm ht
            · by_cases e : ∃ b, (id, b) ∈ rm
              · exact (hback id).1 e
              · rw [(hback id).2 fun b hm => e ⟨b, hm⟩]
                have h7 : h'.get id = g.get id := hF.same id (by
                  by_cases h8 : id < n
                  · exact .inl h8
                  · exact .inr (Nat.le_of_not_lt fun h9 => ht (.inl ⟨by show n ≤ id; omega, h9⟩))) (fun h8 => ht (.inr h8))
                rw [h7]
                rcases d.or id with h8 | h8
                · exact h8
                · exact (e h8).elim
          exact drawK_trace hΓ hc tb l (R ++ [r]) (.gen n n' tl :: ds) env1 hN n' lg' (hl1 r) (hn1 r) tk1 (lg1 r lg' hlg') h6
        · exact absurd h3 hb

theorem drawK_sound {P : Program} (hm : P.follows .mixedOrders = true) {Γ : Ctx} (hΓ : TyOk P Γ) {callK : CallK α} (hc : CallOk P Γ.gl T callK) {fb nt : Nat} {all : List Oper} {tab : List (Oper × List Nat)} (ht : reg all = some tab) {h0 : HpF}
    (env : Env) (h : Mem) (n : Nat) (lg : List Nat) (k : Env → Mem → Nat → List Nat → α) (m : MF h0 fb lg h.get n) (hk : T (drawK bad Γ callK fb nt all tab [] env h n lg k)) :
    ∃ env' h' n' lg', T (k env' h' n' lg') ∧ MF h0 fb lg' h'.get n' ∧ ∀ (β0 : Be) (W0 : World) (β : Be) (W : World) (a : Act) (id : Nat), FI Γ.gl β0 W0 fb lg β h.get W n → SR β env nt a →
      (Code.region id all.toArray true).wp P (fun e a' W' => e = .normal ∧ ∃ β', FI Γ.gl β0 W0 fb lg' β' h'.get W' n' ∧ SR β' env' nt a') a W := by
  have tb := reg_ok ht
  obtain ⟨R, ds, env', h', n', lg', h1, hlen, tk, hlg⟩ := drawK_trace hb hΓ hc tb (E0 := env) (h0 := h.get) (N0 := n) (lg0 := lg) (fb := fb) (nt := nt) tab [] [] env h n lg (fun m => by simp) (by simp) (Tk.start tb.low m.dom) (fun t => by simp) hk
  have hTL : ∀ t, t ∈ ((R.flatMap Rc.tl).filter fun t => decide (t < n)) ↔ t < n ∧ ∃ (j : Nat) (r : Rc), R[j]? = some r ∧ t ∈ r.tl := fun t => by
    rw [List.mem_filter, List.mem_flatMap]
    constructor
    · rintro ⟨⟨r, h2, h3⟩, h4⟩
      obtain ⟨j, hj⟩ := List.mem_iff_getElem?.1 h2
      exact ⟨by simpa using h4, j, r, hj, h3⟩
    · rintro ⟨h2, j, r, h3, h4⟩
      exact ⟨⟨r, List.mem_iff_getElem?.2 ⟨j, h3⟩, h4⟩, by simpa using h2⟩
  have hl : ∀ t, t ∈ lg' ↔ (t ∈ ((R.flatMap Rc.tl).filter fun t => decide (t < n)) ∧ t < fb) ∨ t ∈ lg := fun t => by
    rw [hlg, hTL]
    have := m.le
    constructor
    · rintro (⟨h2, h3⟩ | h2)
      · exact .inl ⟨⟨by omega, h3⟩, h2⟩
      · exact .inr h2
    · rintro (⟨⟨_, h3⟩, h2⟩ | h2)
      · exact .inl ⟨h2, h3⟩
      · exact .inr h2
  have hF : Facts h.get n h'.get n' ((R.flatMap Rc.tl).filter fun t => decide (t < n)) := tk.ok.end_facts tk.hi tk.le hTL tk.noneH
  refine ⟨env', h', n', lg', h1, m.step hF hl, fun β0 W0 β W a id r s => ?_⟩
  have r' := r.drew
  have inv0 := RI.start (P := P) (R := R) (Ne := n') m.dom r'.hr r'.fresh s tk.le tk.ok
  have none : ∀ i, (Array.replicate all.toArray.size false).getD i false = false := getD_replicate_false _
  refine wp_region_any hm ?_
  have hunl : unl (Array.replicate all.toArray.size false) all.length = all.toArray.size := by
    unfold unl
    rw [List.filter_eq_self.2 (fun i _ => by simp only [none]; rfl)]
    simp
  refine RI.any (βs := β) (Ws := W.drew) tk.ok hlen tk.hi (fun L β1 a1 W1 hall inv => ?_) _ _ a W.drew β hunl (by simp) (fun j k hj => by rw [none] at hj; cases hj) ?_
  · obtain ⟨hp, hs⟩ := inv.fin tk.ok hlen hall tk.le hTL tk.lastH tk.noneH tk.lastE tk.noneE r'.fresh
    exact ⟨rfl, β1, r'.step m hF hp hl, hs⟩
  · have e : (fun j => (Array.replicate all.toArray.size false).getD j false = true) = fun _ => False := by
      funext j
      rw [none]; simp
    rw [e]; exact inv0
end
end Go.Proofs.YtcimgilfogeebaaGreatDoor.VM
