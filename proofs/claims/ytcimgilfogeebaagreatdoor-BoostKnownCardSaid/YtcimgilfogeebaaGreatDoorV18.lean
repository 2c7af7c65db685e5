/- VM, 18: code, functions, all of it. -/
import Derived.Test.YtcimgilfogeebaaGreatDoorV17
import Derived.Scope
set_option linter.unusedVariables false
set_option linter.unusedSimpArgs false
namespace Go.Proofs.YtcimgilfogeebaaGreatDoor.VM
open Go Go.RowKit Go.Proofs.YtcimgilfogeebaaGreatDoor

def LoopWp (P : Program) (c : Code) (Q : Exit → Act → World → Prop) (a : Act) (w : World) : Prop := ∀ (b : Frame) (k : List Item) (cs : List Frame),
  ∃ e a' w', Q e a' w' ∧ Arrives P (lone (b.at a (.code c :: .inLoop c :: k)) cs w) b k cs e a' w'
theorem loopWp_of {P : Program} {c : Code} {Q : Exit → Act → World → Prop} {a : Act} {w : World} (h : c.wp P (Exit.then (fun a w => LoopWp P c Q a w) Q) a w) : LoopWp P c Q a w := fun b k cs => by
  obtain ⟨e, a₁, w₁, hq, harr⟩ := h b (.inLoop c :: k) cs
  cases e with
  | normal =>
    obtain ⟨e₂, a₂, w₂, hq₂, harr₂⟩ := hq b k cs
    exact ⟨e₂, a₂, w₂, hq₂, .of_steps (Steps.trans harr (.one step_inLoop)) harr₂⟩
  | exit id => exact ⟨_, a₁, w₁, hq, .pass (x := .inLoop c) rfl (fun _ _ => .inl (by simp)) harr⟩
  | goto l => exact ⟨_, a₁, w₁, hq, .pass (x := .inLoop c) rfl (fun _ _ => .inl (by simp)) harr⟩
  | ret => exact ⟨_, a₁, w₁, hq, .pass (x := .inLoop c) rfl (fun _ _ => .inl (by simp)) harr⟩
  | panic ch => exact ⟨_, a₁, w₁, hq, .pass (x := .inLoop c) rfl (fun _ _ => .inl (by simp)) harr⟩
  | outgrown => exact ⟨_, a₁, w₁, hq, .pass (x := .inLoop c) rfl (fun _ _ => .inl (by simp)) harr⟩
theorem wp_of_loopWp {P : Program} {c : Code} {Q : Exit → Act → World → Prop} {a : Act} {w : World} (h : LoopWp P c Q a w) : (Code.loop c).wp P Q a w := fun b k cs => by
  obtain ⟨e, a', w', hq, harr⟩ := h b k cs
  exact ⟨e, a', w', hq, .of_steps (.one step_loop) harr⟩

def exOf : Ex → Exit
  | .nrm => .normal
  | .ext i => .exit i
  | .ret => .ret
def CodePost (G : GlF) (β0 : Be) (W0 : World) (fb nt : Nat) (e : Ex) (env : Env) (h : HpF) (n : Nat) (lg : List Nat) : Exit → Act → World → Prop := fun e' a W => e' = exOf e ∧ ∃ β, FI G β0 W0 fb lg β h W n ∧ SR β env nt a
def RunOk {α : Type} (P : Program) (Γ : Ctx) (T : α → Prop) (run : RunK α) : Prop := ∀ c fb nt (h0 : HpF) (env : Env) (h : Mem) (n : Nat) (lg : List Nat) (k : Ex → Env → Mem → Nat → List Nat → α),
  MF h0 fb lg h.get n → T (run c fb nt env h n lg k) → ∃ e env' h' n' lg', T (k e env' h' n' lg') ∧ MF h0 fb lg' h'.get n' ∧ ∀ (β0 : Be) (W0 : World) (β : Be) (W : World) (a : Act), FI Γ.gl β0 W0 fb lg β h.get W n → SR β env nt a →
    c.wp P (CodePost Γ.gl β0 W0 fb nt e env' h'.get n' lg') a W ∧ ∀ b, c = .loop b → LoopWp P b (CodePost Γ.gl β0 W0 fb nt e env' h'.get n' lg') a W
/-- the functions of the table are the program's -/
def FnOk (P : Program) (Γ : Ctx) : Prop := ∀ f b, Γ.fn f = some b → match b with
  | .ext x => ExtOk P f x
  | .body ⟨nt, rs, code⟩ => ∃ fn, P.funcs[f]? = some fn ∧ fn.body = some code ∧ (fn.name == "runtime.NumGoroutine") = false ∧ fn.ntmps = nt ∧ fn.results.toList = rs

def resF (tmps : Array Value) : ResultVar → Sem Value
  | .tmp t => pure (tmps.getD t undef)
  | .cell t T => do loadVar T (← asAddr (tmps.getD t undef))
theorem oneOf_vr {β : Be} {l : List AV} {l' : List Value} (h : VL β l l') : VR β (oneOf l) (if h : l'.toArray.size = 1 then l'.toArray[0] else .tuple l'.toArray) := by
  cases l with
  | nil => obtain rfl := h.nil_inv; exact .tup [] [] rfl (fun j x y hx => by simp at hx)
  | cons x r =>
    obtain ⟨y, r', rfl, hy, hr⟩ := h.cons_inv
    cases r with
    | nil => obtain rfl := hr.nil_inv; exact hy
    | cons z r =>
      obtain ⟨y2, r2, rfl, hy2, hr2⟩ := hr.cons_inv
      rw [dif_neg (by simp)]
      exact .tup _ _ h.1 h.2
section
variable {α : Type} {bad : α} {T : α → Prop} (hb : ¬ T bad)
include hb
theorem argEnvK_spec : ∀ (as : List AV) (i : Nat) (env : Env) (k : Env → α), T (argEnvK bad as i env k) → ∃ env', T (k env') ∧ ∀ j, env'.get j = if i ≤ j ∧ j < i + as.length then as[j - i]? else env.get j
  | [], i, env, k, h => ⟨env, h, fun j => by rw [if_neg (by simp)]⟩
  | v :: as, i, env, k, h => by
    obtain ⟨env1, h1, h2⟩ := Tr.put hb (some v) 40 env i (fun env => argEnvK bad as (Nat.succ i) env k) h
    obtain ⟨env', h3, h4⟩ := argEnvK_spec as (i + 1) env1 k h1
    refine ⟨env', h3, fun j => ?_⟩
    rw [h4, h2]
    simp only [List.length_cons]
    by_cases e : j = i
    · subst e
      rw [if_neg (by omega), if_pos rfl, if_pos (by omega), Nat.sub_self]; rfl
    · by_cases e2 : i + 1 ≤ j ∧ j < i + 1 + as.length
      · rw [if_pos e2, if_pos (by omega), show j - i = (j - (i + 1)) + 1 by omega]; rfl
      · rw [if_neg e2, if_neg e, if_neg (by omega)]
theorem resK_spec {P : Program} {Γ : Ctx} (hΓ : TyOk P Γ) {env : Env} {h : Mem} : ∀ (rs : List ResultVar) (k : List AV → α), T (resK bad Γ env h rs k) → ∃ vs, T (k vs) ∧ ∀ β W a nt, HR Γ.gl β h.get W → SR β env nt a → ∃ ws : List Value, VL β vs ws ∧ (rs.mapM (resF a.tmps)).run P W = .ok ws W
  | [], k, hk => ⟨[], hk, fun β W a nt _ _ => ⟨[], VL.nil β, by simp⟩⟩
  | .tmp t :: rs, k, hk => by
    unfold resK at hk
    split at hk
    · rename_i v hv
      obtain ⟨vs, h1, h2⟩ := resK_spec hΓ rs _ hk
      refine ⟨v :: vs, h1, fun β W a nt r s => ?_⟩
      obtain ⟨ws, h3, h4⟩ := h2 β W a nt r s
      obtain ⟨y, hy, hr⟩ := s.slot t v hv
      refine ⟨y :: ws, h3.cons hr, ?_⟩
      have h5 : (resF a.tmps (.tmp t)).run P W = .ok y W := by simp [resF, Array.getD_eq_getD_getElem?, hy]
      rw [List.mapM_cons]
      simp only [Sem.run_bind, Sem.run_pure, h5, h4, Result.andThen_ok]
    · exact absurd hk hb
  | .cell t U :: rs, k, hk => by
    unfold resK at hk
    split at hk
    · rename_i p hp
      obtain ⟨ti, hti, h1⟩ := tyK_spec hb hk
      obtain ⟨l, h2, hl, hcs⟩ := loadK_spec hb h1
      obtain ⟨v, h3, hv⟩ := asVarK_spec hb h2
      obtain ⟨vs, h4, h5⟩ := resK_spec hΓ rs _ h3
      refine ⟨v :: vs, h4, fun β W a nt r s => ?_⟩
      obtain ⟨ws, h6, h7⟩ := h5 β W a nt r s
      obtain ⟨y, hy, hr⟩ := s.slot t p hp
      obtain ⟨b, o, l', rfl, hvl, hrg⟩ := load_range r hr hcs
      obtain ⟨z, hz, hzr⟩ := run_load (hΓ.ty U ti hti) hvl hrg hl hv
      refine ⟨z :: ws, h6.cons hzr, ?_⟩
      have hld : (loadVar U ⟨b, o, none⟩).run P W = .ok z W := by simpa [Instr.loadAt, Instr.sureAddr] using hz
      have h8 : (resF a.tmps (.cell t U)).run P W = .ok z W := by simp [resF, Array.getD_eq_getD_getElem?, hy, asAddr, hld]
      rw [List.mapM_cons]
      simp only [Sem.run_bind, Sem.run_pure, h8, h7, Result.andThen_ok]
    · exact absurd hk hb
omit hb in
theorem results_of {P : Program} {fn : Func} {W : World} {tmps : Array Value} {ws : List Value} (h : (fn.results.toList.mapM (resF tmps)).run P W = .ok ws W) : (results fn tmps).run P W = .ok (if h : ws.toArray.size = 1 then ws.toArray[0] else .tuple ws.toArray) W := by
  have : (fn.results.mapM (resF tmps)).run P W = .ok ws.toArray W := by
    rw [← Array.toArray_toList (xs := fn.results), List.mapM_toArray]
    simp [h]
  have e : results fn tmps = (do let vs ← fn.results.mapM (resF tmps); pure (if h : vs.size = 1 then vs[0] else .tuple vs)) := by
    unfold results
    congr 1
  rw [e, Sem.run_bind, this]
  rfl
omit hb in
theorem plain1 {β γ : Be} {v : AV} {y : Value} (h : VR β v y) (hp : plainV1 v = true) : VR γ v y := by
  cases h <;> first | (cases hp; done) | exact .bool _ | exact .int _ _ | exact .str _ _ (by assumption) | exact .nilp | exact .nils | exact .nilf | exact .nili | exact .glo _ _
omit hb in
theorem plainL1_vl {β γ : Be} : ∀ {l : List AV} {l' : List Value}, VL β l l' → plainL1 l = true → VL γ l l'
  | [], l', h, _ => by obtain rfl := h.nil_inv; exact VL.nil γ
  | x :: l, l', h, hp => by
    obtain ⟨y, r, rfl, hy, hr⟩ := h.cons_inv
    have hp' : (Bool.rec (motive := fun _ => Bool) false (plainL1 l) (plainV1 x) : Bool) = true := hp
    cases hx : plainV1 x with
    | false => rw [hx] at hp'; cases hp'
    | true => rw [hx] at hp'; exact (plainL1_vl hr hp').cons (plain1 hy hx)
omit hb in
theorem plain2 {β γ : Be} {v : AV} {y : Value} (h : VR β v y) (hp : plainV2 v = true) : VR γ v y := by
  cases v with
  | agg l =>
    obtain ⟨l', rfl, hl⟩ := h.agg_inv
    have := plainL1_vl (γ := γ) hl hp
    exact .agg _ _ this.1 this.2
  | _ => exact plain1 h hp
omit hb in
theorem plainL2_vl {β γ : Be} : ∀ {l : List AV} {l' : List Value}, VL β l l' → plainL2 l = true → VL γ l l'
  | [], l', h, _ => by obtain rfl := h.nil_inv; exact VL.nil γ
  | x :: l, l', h, hp => by
    obtain ⟨y, r, rfl, hy, hr⟩ := h.cons_inv
    have hp' : (Bool.rec (motive := fun _ => Bool) false (plainL2 l) (plainV2 x) : Bool) = true := hp
    cases hx : plainV2 x with
    | false => rw [hx] at hp'; cases hp'
    | true => rw [hx] at hp'; exact (plainL2_vl hr hp').cons (plain2 hy hx)
omit hb in
theorem plain_vr {β γ : Be} {v : AV} {y : Value} (h : VR β v y) (hp : plainV v = true) : VR γ v y := by
  cases v with
  | tup l =>
    obtain ⟨l', rfl, hl⟩ := h.tup_inv
    have := plainL2_vl (γ := γ) hl hp
    exact .tup _ _ this.1 this.2
  | _ => exact plain2 h hp

theorem callF_sound {P : Program} {Γ : Ctx} (hΓ : TyOk P Γ) (hF : FnOk P Γ) {run : RunK α} (hr : RunOk P Γ T run) : CallOk P Γ.gl T (callF bad Γ run) := fun f as h n k hd hk => by
  unfold callF at hk
  split at hk
  · rename_i x hx
    exact extK_sound hb (hF f _ hx) hd hk
  · rename_i nt rs code hx
    obtain ⟨fn, hfn, hbody, hname, hnt, hrs⟩ := hF f _ hx
    rw [lenK_eq] at hk
    split at hk
    · exact absurd hk hb
    · rename_i hle
      have hle := Nat.le_of_ble_eq_true hle
      obtain ⟨env, h1, henv⟩ := argEnvK_spec hb as 0 .e _ hk
      obtain ⟨e, env', h', n', lg', h2, m', hw⟩ := hr code n nt h.get env h n [] _ (MF.start hd) h1
      have hcan : ∀ args w, (callFunc f args).run P w = .ok (.enter f args) w := fun args w => by
        have hn' : ¬ fn.name = "runtime.NumGoroutine" := by simpa using hname
        unfold callFunc
        simp [hfn, hn', hbody]
      have h3 : e ≠ .ext 0 ∧ (∀ i, e ≠ .ext i) ∧ T (resK bad Γ env' h' rs fun l => endK k h n h' n' lg' (oneOf l)) := by
        cases e with
        | ext i => exact absurd h2 hb
        | nrm => exact ⟨fun e => (by cases e), fun i e => (by cases e), h2⟩
        | ret => exact ⟨fun e => (by cases e), fun i e => (by cases e), h2⟩
      obtain ⟨vs, h4, hres⟩ := resK_spec hb hΓ rs _ h3.2.2
      have core : ∀ (β : Be) (W : World) (a : Act) (o : Oper) (ys : List Value) (K : Act → World → Prop), HR Γ.gl β h.get W → VL β as ys → Fresh β n → (∀ β' W' y, Post Γ.gl β h.get W n n' lg' β' h'.get W' → VR β' (oneOf vs) y → K (a.put o.dst y) W') → o.upon P a K QF ((callFunc f ys.toArray).run P W) := fun β W a o ys K r hv hf hK => by
        rw [hcan, Oper.upon_enter]
        have hlen : ys.length ≤ nt := by rw [← hv.1]; exact hle
        have hsr : SR β env nt { tmps := ys.toArray ++ Array.replicate (fn.ntmps - ys.toArray.size) undef, defers := [] } := by
          refine ⟨by simp [hnt]; omega, rfl, fun t v ht => ?_⟩
          rw [henv] at ht
          by_cases e : 0 ≤ t ∧ t < 0 + as.length
          · rw [if_pos e, Nat.sub_zero] at ht
            obtain ⟨y, hy, hr⟩ := hv.get ht
            have hlt : t < ys.length := (List.getElem?_eq_some_iff.1 hy).1
            exact ⟨y, by rw [Array.getElem?_append_left (by simpa using hlt)]; simpa using hy, hr⟩
          · rw [if_neg e] at ht; cases ht
        refine calls_of_wp hfn hbody (wp_mono ((hw β W β W _ (FI.start hd r hf) hsr).1) ?_)
        rintro e' a' W' ⟨rfl, β', fi, sr⟩
        obtain ⟨ws, hws, hrun⟩ := hres β' W' a' nt fi.hr sr
        have hro := results_of (fn := fn) (tmps := a'.tmps) (P := P) (W := W') (ws := ws) (by rw [hrs]; exact hrun)
        have fin : a'.defers = [] ∧ ∃ v, (results fn a'.tmps).run P W' = .ok v W' ∧ K (a.put o.dst v) W' :=
          ⟨sr.defers, _, hro, hK β' W' _ (fi.post m' hf) (oneOf_vr hws)⟩
        cases e with
        | ext i => exact absurd rfl (h3.2.1 i)
        | nrm => exact fin
        | ret => exact fin
      unfold endK at h4
      split at h4
      · rename_i hpl
        refine ⟨_, h, n, [], h4, Facts.refl _ _, fun β W a o ys r hv hf K hK => core β W a o ys K r hv hf fun β' W' y hp hv' => ?_⟩
        have hkept : ∀ k, k < W.heap.size → W'.heap[k]? = W.heap[k]? := fun k hk => hp.kept k hk (fun i hi => by cases hi)
        refine hK β W' y ⟨fun _ _ => rfl, ⟨fun i b hb => (r.at_ i b hb).mono (fun _ _ h => h) fun p hp' => hkept p.b ?_, r.inj, fun g cs hg => ?_, r.sep⟩, hp.os, hp.tape, hp.output, hp.size, fun k hk _ => hkept k hk, fun i h1 h2 => by omega⟩ (plain_vr hv' hpl)
        · obtain ⟨q, hq, hl⟩ := (r.at_ i b hb).place
          rw [hp'] at hq; cases hq; exact hl
        · obtain ⟨c, U, fz, h5, h6⟩ := r.glob g cs hg
          exact ⟨c, U, fz, (hkept g (r.globLt (by rw [hg]; simp))).trans h5, h6⟩
      · exact ⟨_, h', n', _, h4, m'.facts hd, fun β W a o ys r hv hf K hK => core β W a o ys K r hv hf hK⟩
  · exact absurd hk hb
theorem bodyK_sound {P : Program} (hm : P.follows .mixedOrders = true) {Γ : Ctx} (hΓ : TyOk P Γ) (hF : FnOk P Γ) {run : RunK α} (hr : RunOk P Γ T run) : RunOk P Γ T (bodyK bad Γ run) := fun c fb nt h0 env h n lg k m hk => by
  have hc := callF_sound hb hΓ hF hr
  have notLoop : ∀ {c : Code} {Q : Exit → Act → World → Prop} {a : Act} {W : World}, (∀ b, c ≠ .loop b) → c.wp P Q a W → c.wp P Q a W ∧ ∀ b, c = .loop b → LoopWp P b Q a W := fun h1 h2 => ⟨h2, fun b e => absurd e (h1 b)⟩
  unfold bodyK at hk
  split at hk
  · exact ⟨.nrm, env, h, n, lg, hk, m, fun β0 W0 β W a fi sr => notLoop (fun b e => by cases e) (wp_skip ⟨rfl, β, fi, sr⟩)⟩
  · exact ⟨.nrm, env, h, n, lg, hk, m, fun β0 W0 β W a fi sr => notLoop (fun b e => by cases e) (wp_label ⟨rfl, β, fi, sr⟩)⟩
  · rename_i id ops
    obtain ⟨env', h', n', lg', h1, m', hw⟩ := seqK_sound hb hΓ hc ops.toList env h n lg _ m hk
    refine ⟨.nrm, env', h', n', lg', h1, m', fun β0 W0 β W a fi sr => notLoop (fun b e => by cases e) ?_⟩
    have := wp_region_lit (id := id) (hw β0 W0 β W a fi sr)
    rw [Array.toArray_toList] at this
    exact this
  · rename_i id ops
    split at hk
    · rename_i t ht
      obtain ⟨env', h', n', lg', h1, m', hw⟩ := drawK_sound hb hm hΓ hc ht env h n lg _ m hk
      refine ⟨.nrm, env', h', n', lg', h1, m', fun β0 W0 β W a fi sr => notLoop (fun b e => by cases e) ?_⟩
      have := hw β0 W0 β W a id fi sr
      rw [Array.toArray_toList] at this
      exact this
    · exact absurd hk hb
  · rename_i x y
    obtain ⟨e, env1, h1, n1, lg1, hk1, m1, hw1⟩ := hr x fb nt h0 env h n lg _ m hk
    cases e with
    | nrm =>
      obtain ⟨e2, env2, h2, n2, lg2, hk2, m2, hw2⟩ := hr y fb nt h0 env1 h1 n1 lg1 _ m1 hk1
      refine ⟨e2, env2, h2, n2, lg2, hk2, m2, fun β0 W0 β W a fi sr => notLoop (fun b e => by cases e) (wp_seq (wp_mono (hw1 β0 W0 β W a fi sr).1 ?_))⟩
      rintro e' a' W' ⟨rfl, β', fi', sr'⟩
      exact (hw2 β0 W0 β' W' a' fi' sr').1
    | ext i =>
      refine ⟨.ext i, env1, h1, n1, lg1, hk1, m1, fun β0 W0 β W a fi sr => notLoop (fun b e => by cases e) (wp_seq (wp_mono (hw1 β0 W0 β W a fi sr).1 ?_))⟩
      rintro e' a' W' ⟨rfl, hp⟩
      exact ⟨rfl, hp⟩
    | ret =>
      refine ⟨.ret, env1, h1, n1, lg1, hk1, m1, fun β0 W0 β W a fi sr => notLoop (fun b e => by cases e) (wp_seq (wp_mono (hw1 β0 W0 β W a fi sr).1 ?_))⟩
      rintro e' a' W' ⟨rfl, hp⟩
      exact ⟨rfl, hp⟩
  · rename_i c x y
    obtain ⟨v, hv, h1⟩ := oK_spec hb hk
    cases v <;> try exact absurd h1 hb
    rename_i t
    have hev : ∀ β a, SR β env nt a → a.eval c = .bool t := fun β a sr => (hv.vr (sr.sees #[c]) (x := c) (by simp)).bool_inv
    cases t with
    | true =>
      obtain ⟨e, env1, h2, n1, lg1, hk1, m1, hw1⟩ := hr x fb nt h0 env h n lg _ m h1
      exact ⟨e, env1, h2, n1, lg1, hk1, m1, fun β0 W0 β W a fi sr => notLoop (fun b e => by cases e) (wp_cond_true (hev β a sr) (hw1 β0 W0 β W a fi sr).1)⟩
    | false =>
      obtain ⟨e, env1, h2, n1, lg1, hk1, m1, hw1⟩ := hr y fb nt h0 env h n lg _ m h1
      exact ⟨e, env1, h2, n1, lg1, hk1, m1, fun β0 W0 β W a fi sr => notLoop (fun b e => by cases e) (wp_cond_false (hev β a sr) (hw1 β0 W0 β W a fi sr).1)⟩
  · rename_i id x
    obtain ⟨e, env1, h1, n1, lg1, hk1, m1, hw1⟩ := hr x fb nt h0 env h n lg _ m hk
    cases e with
    | ext j =>
      simp only at hk1
      split at hk1
      · rename_i hj
        have hj := Nat.eq_of_beq_eq_true hj
        refine ⟨.nrm, env1, h1, n1, lg1, hk1, m1, fun β0 W0 β W a fi sr => notLoop (fun b e => by cases e) (wp_block (wp_mono (hw1 β0 W0 β W a fi sr).1 ?_))⟩
        rintro e' a' W' ⟨rfl, hp⟩
        simp only [exOf, Exit.inBlock, hj, if_true]
        exact ⟨rfl, hp⟩
      · rename_i hj
        have hj : j ≠ id := fun e => by rw [e, Nat.beq_refl] at hj; cases hj
        refine ⟨.ext j, env1, h1, n1, lg1, hk1, m1, fun β0 W0 β W a fi sr => notLoop (fun b e => by cases e) (wp_block (wp_mono (hw1 β0 W0 β W a fi sr).1 ?_))⟩
        rintro e' a' W' ⟨rfl, hp⟩
        simp only [exOf, Exit.inBlock, hj, if_false]
        exact ⟨rfl, hp⟩
    | nrm =>
      refine ⟨.nrm, env1, h1, n1, lg1, hk1, m1, fun β0 W0 β W a fi sr => notLoop (fun b e => by cases e) (wp_block (wp_mono (hw1 β0 W0 β W a fi sr).1 ?_))⟩
      rintro e' a' W' ⟨rfl, hp⟩
      exact ⟨rfl, hp⟩
    | ret =>
      refine ⟨.ret, env1, h1, n1, lg1, hk1, m1, fun β0 W0 β W a fi sr => notLoop (fun b e => by cases e) (wp_block (wp_mono (hw1 β0 W0 β W a fi sr).1 ?_))⟩
      rintro e' a' W' ⟨rfl, hp⟩
      exact ⟨rfl, hp⟩
  · rename_i x
    obtain ⟨e, env1, h1, n1, lg1, hk1, m1, hw1⟩ := hr x fb nt h0 env h n lg _ m hk
    cases e with
    | nrm =>
      obtain ⟨e2, env2, h2, n2, lg2, hk2, m2, hw2⟩ := hr (.loop x) fb nt h0 env1 h1 n1 lg1 _ m1 hk1
      have key : ∀ β0 W0 β W a, FI Γ.gl β0 W0 fb lg β h.get W n → SR β env nt a → LoopWp P x (CodePost Γ.gl β0 W0 fb nt e2 env2 h2.get n2 lg2) a W := fun β0 W0 β W a fi sr => by
        refine loopWp_of (wp_mono (hw1 β0 W0 β W a fi sr).1 ?_)
        rintro e' a' W' ⟨rfl, β', fi', sr'⟩
        exact (hw2 β0 W0 β' W' a' fi' sr').2 x rfl
      refine ⟨e2, env2, h2, n2, lg2, hk2, m2, fun β0 W0 β W a fi sr => ⟨wp_of_loopWp (key β0 W0 β W a fi sr), fun b hbe => ?_⟩⟩
      cases hbe
      exact key β0 W0 β W a fi sr
    | ext i =>
      have key : ∀ β0 W0 β W a, FI Γ.gl β0 W0 fb lg β h.get W n → SR β env nt a → LoopWp P x (CodePost Γ.gl β0 W0 fb nt (.ext i) env1 h1.get n1 lg1) a W := fun β0 W0 β W a fi sr => by
        refine loopWp_of (wp_mono (hw1 β0 W0 β W a fi sr).1 ?_)
        rintro e' a' W' ⟨rfl, hp⟩
        exact ⟨rfl, hp⟩
      refine ⟨.ext i, env1, h1, n1, lg1, hk1, m1, fun β0 W0 β W a fi sr => ⟨wp_of_loopWp (key β0 W0 β W a fi sr), fun b hbe => ?_⟩⟩
      cases hbe
      exact key β0 W0 β W a fi sr
    | ret =>
      have key : ∀ β0 W0 β W a, FI Γ.gl β0 W0 fb lg β h.get W n → SR β env nt a → LoopWp P x (CodePost Γ.gl β0 W0 fb nt .ret env1 h1.get n1 lg1) a W := fun β0 W0 β W a fi sr => by
        refine loopWp_of (wp_mono (hw1 β0 W0 β W a fi sr).1 ?_)
        rintro e' a' W' ⟨rfl, hp⟩
        exact ⟨rfl, hp⟩
      refine ⟨.ret, env1, h1, n1, lg1, hk1, m1, fun β0 W0 β W a fi sr => ⟨wp_of_loopWp (key β0 W0 β W a fi sr), fun b hbe => ?_⟩⟩
      cases hbe
      exact key β0 W0 β W a fi sr
  · rename_i x
    obtain ⟨e, env1, h1, n1, lg1, hk1, m1, hw1⟩ := hr x fb nt h0 env h n lg _ m hk
    refine ⟨e, env1, h1, n1, lg1, hk1, m1, fun β0 W0 β W a fi sr => notLoop (fun b e => by cases e) (wp_scope_straight (wp_mono (hw1 β0 W0 β W a fi sr).1 ?_))⟩
    rintro e' a' W' ⟨rfl, hp⟩
    cases e <;> exact ⟨rfl, hp⟩
  · rename_i id
    exact ⟨.ext id, env, h, n, lg, hk, m, fun β0 W0 β W a fi sr => notLoop (fun b e => by cases e) (wp_exit ⟨rfl, β, fi, sr⟩)⟩
  · exact ⟨.ret, env, h, n, lg, hk, m, fun β0 W0 β W a fi sr => notLoop (fun b e => by cases e) (wp_ret ⟨rfl, β, fi, sr⟩)⟩
  · exact absurd hk hb
theorem run_sound {P : Program} (hm : P.follows .mixedOrders = true) {Γ : Ctx} (hΓ : TyOk P Γ) (hF : FnOk P Γ) : ∀ fuel, RunOk P Γ T (run bad Γ fuel)
  | 0 => fun c fb nt h0 env h n lg k m hk => absurd hk hb
  | fuel + 1 => bodyK_sound hb hm hΓ hF (run_sound hm hΓ hF fuel)
end
/-- THE MACHINE TELLS THE TRUTH: a function, called with plain values, gives what the machine gives, in every world in which the tables lie. -/
theorem exec_sound {P : Program} (hm : P.follows .mixedOrders = true) {Γ : Ctx} (hΓ : TyOk P Γ) (hF : FnOk P Γ) {fuel : Nat} {f : FuncId} {fe : FE} (hf : Γ.fn f = some (.body fe)) {v : AV} {p : AV → Bool} (hp : ∀ u, p u = true → u = v) (hrun : exec false Γ fuel f [] p = true) {W : World}
    (hg : ∀ g cs, Γ.gl g = some cs → ∃ c U fz, W.heap[g]? = some (.cells c U fz) ∧ VL (fun _ => none) cs (c.toList.take cs.length)) :
    Calls P f #[] W fun e W' => (∃ β y, e = .returned y ∧ VR β v y) ∧ Below W.heap.size W W' := by
  obtain ⟨u, h', n', tl, h1, hF', hS⟩ := callF_sound (T := fun b : Bool => b = true) (bad := false) (by simp) hΓ hF (run_sound (by simp) hm hΓ hF fuel) f [] .e 0 _ (fun i _ => rfl) hrun
  have hu := hp u h1
  subst hu
  have hr : HR Γ.gl (fun _ => none) (Tr.e : Mem).get W := ⟨fun i b hb => (by cases hb), fun i j p q hi => (by cases hi), hg, fun i p hi => (by cases hi)⟩
  have htl : tl = [] := by
    cases tl with
    | nil => rfl
    | cons t r => have := (hF'.old t (List.mem_cons_self ..)).1; omega
  subst htl
  have := hS (fun _ => none) W { tmps := #[undef], defers := [] } { dst := some 0, op := .move (.const undef), type := 0, pos := "", after := #[], guard := none } [] hr (VL.nil _) (fun _ _ => rfl) (fun a' W' => ∃ β y, a'.tmps = #[y] ∧ VR β u y ∧ Below W.heap.size W W')
    (fun β' W' y hp hv => ⟨β', y, by simp [Act.put], hv, ⟨hp.os, hp.tape, hp.output, hp.size, fun k hk => hp.kept k hk (fun i hi => (by cases hi))⟩⟩)
  obtain ⟨fn, hfn, hbody, hname, _⟩ := hF f _ hf
  have hn' : ¬ fn.name = "runtime.NumGoroutine" := by simpa using hname
  rw [show (callFunc f ([] : List Value).toArray).run P W = .ok (.enter f #[]) W by unfold callFunc; simp [hfn, hn', hbody], Oper.upon_enter] at this
  refine this.mono fun e W' he => ?_
  cases e with
  | returned y =>
    obtain ⟨β, y', h1, h2, h3⟩ := he
    simp [Act.put] at h1
    subst h1
    exact ⟨⟨β, y, rfl, h2⟩, h3⟩
  | panicked c => exact he.elim
  | outgrown => obtain ⟨_, _, h⟩ := he; exact h.elim
end Go.Proofs.YtcimgilfogeebaaGreatDoor.VM
