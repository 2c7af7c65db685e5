/- VM, 16: a function's run, told from its start; operations one behind the other. -/
import Derived.Test.YtcimgilfogeebaaGreatDoorV15
set_option linter.unusedVariables false
set_option linter.unusedSimpArgs false
namespace Go.Proofs.YtcimgilfogeebaaGreatDoor.VM
open Go Go.RowKit Go.Proofs.YtcimgilfogeebaaGreatDoor

/-- the slots -/
structure SR (β : Be) (env : Env) (nt : Nat) (a : Act) : Prop where
  size : a.tmps.size = nt
  defers : a.defers = []
  slot : ∀ t v, env.get t = some v → ∃ y, a.tmps[t]? = some y ∧ VR β v y
theorem SR.sees {β : Be} {env : Env} {nt : Nat} {a : Act} (s : SR β env nt a) (xs : Array Operand) : Sees β env a xs := fun t _ v hv => by
  obtain ⟨y, hy, hr⟩ := s.slot t v hv
  simp only [Act.eval, Array.getD_eq_getD_getElem?, hy, Option.getD_some]; exact hr
theorem SR.mono {β γ : Be} {env : Env} {nt : Nat} {a : Act} (s : SR β env nt a) (h : BLe β γ) : SR γ env nt a :=
  ⟨s.size, s.defers, fun t v hv => by obtain ⟨y, hy, hr⟩ := s.slot t v hv; exact ⟨y, hy, hr.mono h⟩⟩
theorem SR.put {β : Be} {env env' : Env} {nt : Nat} {a : Act} (s : SR β env nt a) {d : Option Tmp} {v : AV} {y : Value} (hv : VR β v y) (he : (d = none ∧ env' = env) ∨ ∃ t, d = some t ∧ t < nt ∧ ∀ j, env'.get j = if j = t then some v else env.get j) : SR β env' nt (a.put d y) := by
  rcases he with ⟨rfl, rfl⟩ | ⟨t, rfl, ht, he⟩
  · exact s
  · refine ⟨by simp [Act.put, s.size], by simp [Act.put, s.defers], fun j u hu => ?_⟩
    rw [he] at hu
    by_cases e : j = t
    · subst e
      rw [if_pos rfl] at hu; cases hu
      exact ⟨y, by simp [Act.put, s.size, ht], hv⟩
    · rw [if_neg e] at hu
      obtain ⟨z, hz, hr⟩ := s.slot j u hu
      exact ⟨z, by simp only [Act.put]; rw [Array.getElem?_setIfInBounds_ne (fun e' => e e'.symm)]; exact hz, hr⟩

/-- the machine's memory, told from a function's start -/
structure MF (h0 : HpF) (fb : Nat) (lg : List Nat) (h : HpF) (n : Nat) : Prop where
  dom : Dom h n
  le : fb ≤ n
  same : ∀ i, i < fb → i ∉ lg → h i = h0 i
  old : ∀ t, t ∈ lg → t < fb ∧ (h0 t).isSome = true
/-- the world, told from a function's start -/
structure FI (G : GlF) (β0 : Be) (W0 : World) (fb : Nat) (lg : List Nat) (β : Be) (h : HpF) (W : World) (n : Nat) : Prop where
  hr : HR G β h W
  fresh : Fresh β n
  ext : ∀ i, i < fb → β i = β0 i
  os : W.os = W0.os
  tape : W.tape = W0.tape
  output : W.output = W0.output
  size : W0.heap.size ≤ W.heap.size
  kept : ∀ k, k < W0.heap.size → (∀ i, i ∈ lg → ∀ p, β0 i = some p → p.b ≠ k) → W.heap[k]? = W0.heap[k]?
  own : ∀ i p, fb ≤ i → (h i).isSome = true → β i = some p → W0.heap.size ≤ p.b ∨ ∃ t, t ∈ lg ∧ h t = none ∧ ∃ q, β0 t = some q ∧ q.b = p.b
theorem MF.start {h : HpF} {n : Nat} (d : Dom h n) : MF h n [] h n := ⟨d, Nat.le_refl _, fun _ _ _ => rfl, fun t ht => by cases ht⟩
theorem FI.start {G : GlF} {β : Be} {h : HpF} {W : World} {n : Nat} (d : Dom h n) (r : HR G β h W) (hf : Fresh β n) : FI G β W n [] β h W n :=
  ⟨r, hf, fun _ _ => rfl, rfl, rfl, rfl, Nat.le_refl _, fun _ _ _ => rfl, fun i p hi hs _ => by rw [d i hi] at hs; cases hs⟩
theorem MF.step {h0 : HpF} {fb : Nat} {lg : List Nat} {h h' : HpF} {n n' : Nat} {tl lg' : List Nat} (m : MF h0 fb lg h n) (f : Facts h n h' n' tl) (hl : ∀ t, t ∈ lg' ↔ (t ∈ tl ∧ t < fb) ∨ t ∈ lg) : MF h0 fb lg' h' n' := by
  refine ⟨f.dom m.dom, Nat.le_trans m.le f.le, fun i hi hn => ?_, fun t ht => ?_⟩
  · have h1 : i ∉ tl := fun e => hn ((hl i).2 (.inl ⟨e, hi⟩))
    have h2 : i ∉ lg := fun e => hn ((hl i).2 (.inr e))
    rw [f.same i (.inl (Nat.lt_of_lt_of_le hi m.le)) h1, m.same i hi h2]
  · rcases (hl t).1 ht with ⟨h1, h2⟩ | h1
    · refine ⟨h2, ?_⟩
      by_cases e : t ∈ lg
      · exact (m.old t e).2
      · rw [← m.same t h2 e]; exact (f.old t h1).2
    · exact m.old t h1
theorem FI.step {G : GlF} {β0 : Be} {W0 : World} {fb : Nat} {lg : List Nat} {h0 : HpF} {β β' : Be} {h h' : HpF} {W W' : World} {n n' : Nat} {tl lg' : List Nat} (r : FI G β0 W0 fb lg β h W n) (m : MF h0 fb lg h n) (f : Facts h n h' n' tl) (p : Post G β h W n n' tl β' h' W')
    (hl : ∀ t, t ∈ lg' ↔ (t ∈ tl ∧ t < fb) ∨ t ∈ lg) : FI G β0 W0 fb lg' β' h' W' n' := by
  have hle := m.le
  have keepNone : ∀ t, t ∈ lg → h t = none → h' t = none := fun t h1 hn => by
    rw [f.same t (.inl (Nat.lt_of_lt_of_le (m.old t h1).1 hle)) (fun e => by have := (f.old t e).2; rw [hn] at this; cases this)]; exact hn
  have old : ∀ j q, fb ≤ j → (h j).isSome = true → β j = some q → W0.heap.size ≤ q.b ∨ ∃ t, t ∈ lg' ∧ h' t = none ∧ ∃ u, β0 t = some u ∧ u.b = q.b := fun j q h1 h2 h3 => by
    rcases r.own j q h1 h2 h3 with h4 | ⟨t, h4, h5, u, h6, h7⟩
    · exact .inl h4
    · exact .inr ⟨t, (hl t).2 (.inr h4), keepNone t h4 h5, u, h6, h7⟩
  refine ⟨p.hr, fun i hi => by rw [p.ext i (.inr hi)]; exact r.fresh i (Nat.le_trans f.le hi), fun i hi => by rw [p.ext i (.inl (Nat.lt_of_lt_of_le hi hle))]; exact r.ext i hi, p.os.trans r.os, p.tape.trans r.tape, p.output.trans r.output, Nat.le_trans r.size p.size, fun k hk hne => ?_, fun i q hi hs hq => ?_⟩
  · rw [p.kept k (Nat.lt_of_lt_of_le hk r.size) fun i hi q hq => ?_, r.kept k hk fun i hi => hne i ((hl i).2 (.inr hi))]
    rcases Nat.lt_or_ge i fb with h1 | h1
    · exact hne i ((hl i).2 (.inl ⟨hi, h1⟩)) q (by rw [← r.ext i h1]; exact hq)
    · rcases r.own i q h1 (f.old i hi).2 hq with h2 | ⟨t, h2, _, u, h3, h4⟩
      · omega
      · rw [← h4]; exact hne t ((hl t).2 (.inr h2)) u h3
  · by_cases hin : i < n
    · have hb : β i = some q := by rw [← p.ext i (.inl hin)]; exact hq
      by_cases e : i ∈ tl
      · exact old i q hi (f.old i e).2 hb
      · exact old i q hi (by rw [← f.same i (.inl hin) e]; exact hs) hb
    · have hin' : i < n' := (f.dom m.dom).lt hs
      rcases p.new i (by omega) hin' q hq hs with h1 | ⟨t, h1, h2, u, h3, h4⟩
      · exact .inl (Nat.le_trans r.size h1)
      · rcases Nat.lt_or_ge t fb with h5 | h5
        · exact .inr ⟨t, (hl t).2 (.inl ⟨h1, h5⟩), h2, u, by rw [← r.ext t h5]; exact h3, h4⟩
        · rw [← h4]; exact old t u h5 (f.old t h1).2 h3
theorem FI.drew {G : GlF} {β0 : Be} {W0 : World} {fb : Nat} {lg : List Nat} {β : Be} {h : HpF} {W : World} {n : Nat} (r : FI G β0 W0 fb lg β h W n) : FI G β0 W0 fb lg β h W.drew n :=
  ⟨r.hr.drew, r.fresh, r.ext, r.os, r.tape, r.output, r.size, r.kept, r.own⟩
/-- at a function's end -/
theorem FI.post {G : GlF} {β0 : Be} {h0 : HpF} {W0 : World} {fb : Nat} {lg : List Nat} {β : Be} {h : HpF} {W : World} {n : Nat} (r : FI G β0 W0 fb lg β h W n) (m : MF h0 fb lg h n) (hf : Fresh β0 fb) : Post G β0 h0 W0 fb n lg β h W := by
  refine ⟨fun i hi => ?_, r.hr, r.os, r.tape, r.output, r.size, r.kept, fun i h1 h2 p hp hs => r.own i p h1 hs hp⟩
  rcases hi with hi | hi
  · exact r.ext i hi
  · rw [r.fresh i hi, hf i (Nat.le_trans m.le hi)]
theorem MF.facts {h0 : HpF} {fb : Nat} {lg : List Nat} {h : HpF} {n : Nat} (m : MF h0 fb lg h n) (d : Dom h0 fb) : Facts h0 fb h n lg :=
  ⟨m.le, fun i hi hn => by
    rcases hi with hi | hi
    · exact m.same i hi hn
    · rw [m.dom i hi, d i (Nat.le_trans m.le hi)], m.old⟩

theorem oper_any {P : Program} {o : Oper} {a : Act} {w : World} {K : Act → World → Prop} {Q : Exit → Act → World → Prop} (h : Oper.wp P o a w K QF) : Oper.wp P o a w K Q := by
  unfold Oper.wp at *
  generalize (execOp a.eval o).run P w = r at *
  cases r with
  | ok m w' =>
    cases m <;> simp only [Oper.upon] at h ⊢ <;> try exact h
    case enter f args =>
      refine h.mono fun e w'' he => ?_
      cases e with
      | returned v => exact he
      | panicked c => exact he.elim
      | outgrown => obtain ⟨_, _, h⟩ := he; exact h.elim
  | halt y w' =>
    cases y <;> simp only [Oper.upon] at h ⊢
    case panic v => exact h.elim

section
variable {α : Type} {bad : α} {T : α → Prop} (hb : ¬ T bad)
include hb
theorem setK_spec {nt : Nat} {env : Env} {d : Option Tmp} {v : AV} {k : Env → α} (hk : T (setK bad nt env d v k)) : ∃ env', T (k env') ∧ ((d = none ∧ env' = env) ∨ ∃ t, d = some t ∧ t < nt ∧ ∀ j, env'.get j = if j = t then some v else env.get j) := by
  unfold setK at hk
  cases d with
  | none => exact ⟨env, hk, .inl ⟨rfl, rfl⟩⟩
  | some t =>
    simp only at hk
    split at hk
    · rename_i hlt
      obtain ⟨env', h1, h2⟩ := Tr.put hb _ _ _ _ _ hk
      exact ⟨env', h1, .inr ⟨t, rfl, by simpa [Nat.blt_eq] using hlt, h2⟩⟩
    · exact absurd hk hb
omit hb in
theorem logK_go {fb : Nat} {k : List Nat → α} : ∀ (tl lg : List Nat), T (logK fb tl lg k) → ∃ lg', T (k lg') ∧ ∀ t, t ∈ lg' ↔ (t ∈ tl ∧ t < fb) ∨ t ∈ lg
  | [], lg, h => ⟨lg, h, fun t => by simp⟩
  | x :: tl, lg, h => by
    have h' : T (match Nat.blt x fb with | true => logK fb tl (x :: lg) k | false => logK fb tl lg k) := h
    split at h'
    · rename_i hlt
      have hlt : x < fb := by simpa [Nat.blt_eq] using hlt
      obtain ⟨lg', h1, h2⟩ := logK_go tl (x :: lg) h'
      refine ⟨lg', h1, fun t => ?_⟩
      rw [h2]
      simp only [List.mem_cons]
      constructor
      · rintro (⟨h3, h4⟩ | rfl | h3)
        · exact .inl ⟨.inr h3, h4⟩
        · exact .inl ⟨.inl rfl, hlt⟩
        · exact .inr h3
      · rintro (⟨rfl | h3, h4⟩ | h3)
        · exact .inr (.inl rfl)
        · exact .inl ⟨h3, h4⟩
        · exact .inr (.inr h3)
    · rename_i hlt
      have hlt : ¬ x < fb := fun e => by
        have : Nat.blt x fb = true := by simpa [Nat.blt_eq] using e
        rw [this] at hlt; cases hlt
      obtain ⟨lg', h1, h2⟩ := logK_go tl lg h'
      refine ⟨lg', h1, fun t => ?_⟩
      rw [h2]
      simp only [List.mem_cons]
      constructor
      · rintro (⟨h3, h4⟩ | h3)
        · exact .inl ⟨.inr h3, h4⟩
        · exact .inr h3
      · rintro (⟨rfl | h3, h4⟩ | h3)
        · exact absurd h4 hlt
        · exact .inl ⟨h3, h4⟩
        · exact .inr h3
theorem wantK_spec {ops : List Oper} {env : Env} {o : Oper} {k : Bool → α} (hk : T (wantK bad ops env o k)) :
    ∃ b, T (k b) ∧ (o.guard = none → b = true) ∧ ∀ (β : Be) (a : Act), (∀ t v, t ∈ looks ops o → env.get t = some v → ∃ y, a.tmps[t]? = some y ∧ VR β v y) → Region.wanted o (yielded ops.toArray a.tmps) = b := by
  unfold wantK at hk
  split at hk
  · rename_i hg
    exact ⟨true, hk, fun _ => rfl, fun β a _ => by simp [Region.wanted, hg]⟩
  · rename_i j want hg
    split at hk
    · rename_i oj hj
      split at hk
      · rename_i t hd
        have hlook : t ∈ looks ops o := by
          unfold looks
          simp only [hg, hj, hd]
          exact List.mem_append.2 (.inr (by simp))
        have hy : ∀ tm : Array Value, yielded ops.toArray tm j = (match tm[t]? with | some (.bool b) => some b | _ => none) := fun tm => by
          unfold yielded
          simp only [List.getElem?_toArray, hj, Option.bind_some, hd]
          rcases tm[t]? with _ | y
          · rfl
          · cases y <;> rfl
        have fin : ∀ (v : AV) (b : Bool), env.get t = some v → (∀ y β, VR β v y → ((match y with | .bool b => some b | _ => none) == some want) = b) → T (k b) →
            ∃ b, T (k b) ∧ (o.guard = none → b = true) ∧ ∀ (β : Be) (a : Act), (∀ t v, t ∈ looks ops o → env.get t = some v → ∃ y, a.tmps[t]? = some y ∧ VR β v y) → Region.wanted o (yielded ops.toArray a.tmps) = b := fun v b hv hy2 hT =>
          ⟨b, hT, (fun e => (by rw [hg] at e; cases e)), fun β a hs => by
            obtain ⟨y, h1, h2⟩ := hs t v hlook hv
            have := hy2 y β h2
            simp only [Region.wanted, hg, hy, h1]
            rw [← this]
            cases y <;> rfl⟩
        split at hk
        · rename_i b hv
          split at hk
          · exact fin _ true hv (fun y β h => by rw [h.bool_inv]; rfl) hk
          · exact fin _ true hv (fun y β h => by rw [h.bool_inv]; rfl) hk
          · rename_i h1 h2
            refine fin _ false hv (fun y β h => ?_) hk
            rw [h.bool_inv]
            cases b <;> cases want <;> first | rfl | exact absurd rfl (h1 rfl) | exact absurd rfl (h2 rfl) | exact (h1 rfl rfl).elim | exact (h2 rfl rfl).elim
        · rename_i v hnb hv
          refine fin v false hv (fun y β h => ?_) hk
          cases h <;> first | rfl | exact absurd rfl (hnb _)
        · exact absurd hk hb
      · exact absurd hk hb
    · exact absurd hk hb
omit hb in
theorem SR.looks {β : Be} {env : Env} {nt : Nat} {a : Act} (s : SR β env nt a) (ops : List Oper) (o : Oper) : ∀ t v, t ∈ looks ops o → env.get t = some v → ∃ y, a.tmps[t]? = some y ∧ VR β v y := fun t v _ h => s.slot t v h

/-- operations in the text's order -/
theorem seqK_sound {P : Program} {Γ : Ctx} (hΓ : TyOk P Γ) {callK : CallK α} (hc : CallOk P Γ.gl T callK) {fb nt : Nat} {all : List Oper} {h0 : HpF} : ∀ (l : List Oper) (env : Env) (h : Mem) (n : Nat) (lg : List Nat) (k : Env → Mem → Nat → List Nat → α),
    MF h0 fb lg h.get n → T (seqK bad Γ callK fb nt all l env h n lg k) →
    ∃ env' h' n' lg', T (k env' h' n' lg') ∧ MF h0 fb lg' h'.get n' ∧ ∀ (β0 : Be) (W0 : World) (β : Be) (W : World) (a : Act), FI Γ.gl β0 W0 fb lg β h.get W n → SR β env nt a →
      wpList P all.toArray (fun e a' W' => e = .normal ∧ ∃ β', FI Γ.gl β0 W0 fb lg' β' h'.get W' n' ∧ SR β' env' nt a') l a W
  | [], env, h, n, lg, k, m, hk => ⟨env, h, n, lg, hk, m, fun β0 W0 β W a r s => wpList_nil ⟨rfl, β, r, s⟩⟩
  | o :: l, env, h, n, lg, k, m, hk => by
    have hk' : T (wantK bad all env o fun
      | true => heapK bad Γ callK env h n o.op fun v h n tl => setK bad nt env o.dst v fun env => logK fb tl lg fun lg => seqK bad Γ callK fb nt all l env h n lg k
      | false => setK bad nt env o.dst (.tup []) fun env => seqK bad Γ callK fb nt all l env h n lg k) := hk
    obtain ⟨b, h1, _, hw⟩ := wantK_spec hb hk'
    cases b with
    | true =>
      obtain ⟨v, h', n', tl, h2, hF, hS⟩ := heapK_sound hb hΓ hc m.dom h1
      obtain ⟨env1, h3, he⟩ := setK_spec hb h2
      obtain ⟨lg1, h4, hl⟩ := logK_go _ _ h3
      obtain ⟨env', h'', n'', lg', h5, m', hrest⟩ := seqK_sound hΓ hc l env1 h' n' lg1 k (m.step hF hl) h4
      refine ⟨env', h'', n'', lg', h5, m', fun β0 W0 β W a r s => ?_⟩
      unfold wpList
      rw [if_pos (hw β a (s.looks all o))]
      refine .inl (oper_any ?_)
      refine hS β W a o rfl r.hr (s.sees _) r.fresh _ fun β' W' y hp hv => ?_
      exact hrest β0 W0 β' W' _ (r.step m hF hp hl) ((s.mono (hp.le r.fresh)).put hv he)
    | false =>
      obtain ⟨env1, h3, he⟩ := setK_spec hb h1
      obtain ⟨env', h'', n'', lg', h5, m', hrest⟩ := seqK_sound hΓ hc l env1 h n lg k m h3
      refine ⟨env', h'', n'', lg', h5, m', fun β0 W0 β W a r s => ?_⟩
      unfold wpList
      rw [if_neg (by rw [hw β a (s.looks all o)]; simp)]
      exact hrest β0 W0 β W _ r (s.put (VR.undef β) he)
end
end Go.Proofs.YtcimgilfogeebaaGreatDoor.VM
