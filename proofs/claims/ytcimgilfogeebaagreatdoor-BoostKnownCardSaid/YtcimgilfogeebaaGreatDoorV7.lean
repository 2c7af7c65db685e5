/- VM, 7: plain operations, one by one. -/
import Derived.Test.YtcimgilfogeebaaGreatDoorV6
set_option linter.unusedVariables false
set_option linter.unusedSimpArgs false
namespace Go.Proofs.YtcimgilfogeebaaGreatDoor.VM
open Go Go.RowKit Go.Proofs.YtcimgilfogeebaaGreatDoor

theorem VR.ptr_inv {β : Be} {i off : Nat} {y : Value} (h : VR β (.ptr i off) y) : ∃ p, β i = some p ∧ y = .pointer (some ⟨p.b, p.s + off, none⟩) := by cases h with | ptr _ _ p hp => exact ⟨p, hp, rfl⟩
theorem VR.glo_inv {β : Be} {g off : Nat} {y : Value} (h : VR β (.glo g off) y) : y = .pointer (some ⟨g, off, none⟩) := by cases h; rfl
theorem VR.str_inv {β : Be} {l : List Nat} {y : Value} (h : VR β (.str l) y) : ∃ s : ByteArray, y = .string s ∧ s.data.toList.map UInt8.toNat = l := by cases h with | str _ a h => exact ⟨a, rfl, h⟩
theorem VR.agg_inv {β : Be} {l : List AV} {y : Value} (h : VR β (.agg l) y) : ∃ l' : List Value, y = .agg l'.toArray ∧ VL β l l' := by cases h with | agg _ l' hl h => exact ⟨l', rfl, hl, h⟩
theorem VR.tup_inv {β : Be} {l : List AV} {y : Value} (h : VR β (.tup l) y) : ∃ l' : List Value, y = .tuple l'.toArray ∧ VL β l l' := by cases h with | tup _ l' hl h => exact ⟨l', rfl, hl, h⟩
theorem VR.sl_inv {β : Be} {i off n c es : Nat} {y : Value} (h : VR β (.sl i off n c es) y) : ∃ p c', β i = some p ∧ y = .slice (some ⟨p.b, p.s + off, none⟩) n c' ∧ n ≤ c / 2 ∧ (c = 2 * c' ∨ ∃ m, c = 2 * m + 1 ∧ m ≤ c') ∧ p.s + off + c' * es ≤ p.z := by
  cases h with | sl _ _ _ _ c' _ p hp hn hc hz => exact ⟨p, c', hp, rfl, hn, hc, hz⟩
theorem VR.nils_inv {β : Be} {y : Value} (h : VR β .nils y) : y = .slice none 0 0 := by cases h; rfl
theorem VR.nilp_inv {β : Be} {y : Value} (h : VR β .nilp y) : y = .pointer none := by cases h; rfl
theorem VR.fn_inv {β : Be} {f : Fn} {u v : List AV} {y : Value} (h : VR β (.fn f u v) y) : ∃ u' v' : List Value, y = .func f u'.toArray v'.toArray ∧ VL β u u' ∧ VL β v v' := by
  cases h with | fn _ _ _ u' v' h1 h2 h3 h4 => exact ⟨u', v', rfl, ⟨h1, h2⟩, h3, h4⟩
theorem usd_some (ts : Array TypeId) (ty : TypeId) (a : Addr) (n c : Nat) (hc : c ≠ 0) : Builtin.unsafeSliceData_ ts ty #[.slice (some a) n c] = pure (.pointer (some a)) := by
  show (if c ≠ 0 then _ else _) = _
  rw [if_pos hc]
theorem usd_none (ts : Array TypeId) (ty : TypeId) (n c : Nat) : Builtin.unsafeSliceData_ ts ty #[.slice none n c] = pure (.pointer none) := rfl
theorem part_run {P : Program} {U : TypeId} {t : TI} (ht : TIOk P U t) {β : Be} {cs : List AV} {ds : List Value} (hd : VL β cs ds) {off : Nat} (hle : off + t.size ≤ cs.length) {v : AV} (hv : (t.agg = true ∧ v = .agg ((cs.drop off).take t.size)) ∨ (t.agg = false ∧ (cs.drop off).take t.size = [v])) (W : World) :
    ∃ y, (part U ds.toArray off).run P W = .ok y W ∧ VR β v y := by
  have hl := (hd.drop off).take t.size
  rcases hv with ⟨h1, rfl⟩ | ⟨h1, h2⟩
  · exact ⟨.agg ((ds.drop off).take t.size).toArray, by simp [part, ht.agg, h1, ht.size, List.extract_eq_take_drop, show off + t.size - off = t.size by omega], .agg _ _ hl.1 hl.2⟩
  · rw [h2] at hl
    obtain ⟨y, r, e, hy, hr⟩ := hl.cons_inv
    have := hr.nil_inv
    subst this
    have hg : ds[off]? = some y := by
      have := congrArg (·[0]?) e
      simp only [List.getElem?_take, List.getElem?_drop, Nat.add_zero] at this
      split at this
      · simpa using this
      · simp at this
    exact ⟨y, by simp [part, ht.agg, h1, hg], hy⟩

section
variable {α : Type} {bad : α} {T : α → Prop} (hb : ¬ T bad)
include hb
theorem bndsK_spec {env : Env} {len cp : Nat} {lo hi mx : Option Operand} {k : Nat → Nat → Nat → α} (h : T (bndsK bad env len cp lo hi mx k)) :
    ∃ l hh m, T (k l hh m) ∧ l ≤ hh ∧ (mx = none → m = cp) ∧ m ≤ cp ∧ (hi = none → hh = len) ∧ (hh ≤ m ∨ hh = len) ∧ (mx ≠ none → hh ≤ m) ∧
      ∀ (P : Program) (b : Bool) (β : Be) (a : Act) (xs : Array Operand) (W : World) (c' : Nat), Sees β env a xs → (∀ x, lo = some x ∨ hi = some x ∨ mx = some x → x ∈ xs) → cp ≤ c' →
        (Instr.sliceBounds b len c' (lo.map a.eval) (hi.map a.eval) (mx.map a.eval)).run P W = .ok (l, hh, if mx = none then c' else m) W := by
  unfold bndsK at h
  split at h
  · exact absurd h hb
  · rename_i hne
    rcases bndK_spec hb h with ⟨rfl, h1⟩ | ⟨xm, km, m, rfl, hm, hml, h1⟩
    · rcases bndK_spec hb h1 with ⟨rfl, h2⟩ | ⟨xh, kh, hh, rfl, hh', hhl, h2⟩
      · rcases bndK_spec hb h2 with ⟨rfl, h3⟩ | ⟨xl, kl, l, rfl, hl, hll, h3⟩
        · exact ⟨0, len, cp, h3, Nat.zero_le _, fun _ => rfl, Nat.le_refl _, fun _ => rfl, .inr rfl, fun e => absurd rfl e, fun P b β a xs W c' hs hx hc => by simp [Instr.sliceBounds]⟩
        · refine ⟨l, len, cp, h3, hll, fun _ => rfl, Nat.le_refl _, fun _ => rfl, .inr rfl, fun e => absurd rfl e, fun P b β a xs W c' hs hx hc => ?_⟩
          have e := (hl.vr hs (hx xl (.inl rfl))).int_inv
          simp [Instr.sliceBounds, e, Instr.sliceBound, asIntOf, hll]
      · rcases bndK_spec hb h2 with ⟨rfl, h3⟩ | ⟨xl, kl, l, rfl, hl, hll, h3⟩
        · refine ⟨0, hh, cp, h3, Nat.zero_le _, fun _ => rfl, Nat.le_refl _, (fun e => (by cases e)), .inl hhl, fun e => absurd rfl e, fun P b β a xs W c' hs hx hc => ?_⟩
          have e := (hh'.vr hs (hx xh (.inr (.inl rfl)))).int_inv
          simp [Instr.sliceBounds, e, Instr.sliceBound, asIntOf, show hh ≤ c' by omega]
        · refine ⟨l, hh, cp, h3, hll, fun _ => rfl, Nat.le_refl _, (fun e => (by cases e)), .inl hhl, fun e => absurd rfl e, fun P b β a xs W c' hs hx hc => ?_⟩
          have e := (hh'.vr hs (hx xh (.inr (.inl rfl)))).int_inv
          have e2 := (hl.vr hs (hx xl (.inl rfl))).int_inv
          simp [Instr.sliceBounds, e, e2, Instr.sliceBound, asIntOf, show hh ≤ c' by omega, hll]
    · rcases bndK_spec hb h1 with ⟨rfl, h2⟩ | ⟨xh, kh, hh, rfl, hh', hhl, h2⟩
      · exact absurd rfl (hne xm rfl)
      · rcases bndK_spec hb h2 with ⟨rfl, h3⟩ | ⟨xl, kl, l, rfl, hl, hll, h3⟩
        · refine ⟨0, hh, m, h3, Nat.zero_le _, (fun e => (by cases e)), hml, (fun e => (by cases e)), .inl hhl, fun _ => hhl, fun P b β a xs W c' hs hx hc => ?_⟩
          have e := (hh'.vr hs (hx xh (.inr (.inl rfl)))).int_inv
          have e1 := (hm.vr hs (hx xm (.inr (.inr rfl)))).int_inv
          simp [Instr.sliceBounds, e, e1, Instr.sliceBound, asIntOf, show m ≤ c' by omega, hhl]
        · refine ⟨l, hh, m, h3, hll, (fun e => (by cases e)), hml, (fun e => (by cases e)), .inl hhl, fun _ => hhl, fun P b β a xs W c' hs hx hc => ?_⟩
          have e := (hh'.vr hs (hx xh (.inr (.inl rfl)))).int_inv
          have e1 := (hm.vr hs (hx xm (.inr (.inr rfl)))).int_inv
          have e2 := (hl.vr hs (hx xl (.inl rfl))).int_inv
          simp [Instr.sliceBounds, e, e1, e2, Instr.sliceBound, asIntOf, show m ≤ c' by omega, hhl, hll]
theorem slice_case {P : Program} {Γ : Ctx} (hΓ : TyOk P Γ) {env : Env} {U : TypeId} {x : Operand} {lo hi mx : Option Operand} {k : AV → α} (h : T (pureK bad Γ env (.slice U x lo hi mx) k)) : ∃ v, T (k v) ∧ PureSem P env (.slice U x lo hi mx) v := by
  unfold pureK at h
  simp only at h
  obtain ⟨t, ht, h1⟩ := tyK_spec hb h
  have hk := (hΓ.ty U t ht).kind
  obtain ⟨v, hv, h2⟩ := oK_spec hb h1
  have hx : x ∈ (Op.slice U x lo hi mx).operands := by simp [Op.operands]
  have hin : ∀ y, lo = some y ∨ hi = some y ∨ mx = some y → y ∈ (Op.slice U x lo hi mx).operands := fun y hy => by
    rcases hy with rfl | rfl | rfl <;> simp [Op.operands]
  cases v <;> try exact absurd h2 hb
  · rename_i l
    simp only at h2
    split at h2
    · rename_i hkd
      rw [hkd] at hk
      have hk' : P.underlying U = some .string := hk
      rw [lenK_eq] at h2
      obtain ⟨lw, hh, m, h3, hle, hm, _, hhn, hhm, _, hrun⟩ := bndsK_spec hb h2
      obtain ⟨h4, hle2⟩ := cutK_spec hb _ _ _ _ h3
      refine ⟨_, h4, fun β a W o ho hs => ?_⟩
      obtain ⟨s, e, hs'⟩ := (hv.vr hs hx).str_inv
      have hlen : l.length = s.size := by rw [← hs']; simp
      have hr := hrun P false β a _ W l.length hs hin (Nat.le_refl _)
      refine ⟨.string (s.extract lw hh), ?_, .str _ _ ?_⟩
      · unfold execOp
        rw [hlen] at hr
        simp only [Option.map_none, if_true] at hr
        simp [ho, e, Instr.sliceAt, Instr.slice, run_underlying hk', hr]
      · rw [← hs']
        simp [ByteArray.data_extract, List.map_take, List.map_drop, List.extract_eq_take_drop]
    · exact absurd h2 hb
  · rename_i i off n c es
    simp only at h2
    split at h2
    · rename_i e hkd
      rw [hkd] at hk
      have hk' : P.underlying U = some (.slice e) := hk
      obtain ⟨te, hte, h3⟩ := tyK_spec hb h2
      split at h3
      · exact absurd h3 hb
      · rename_i hes
        have hes := Nat.eq_of_beq_eq_true hes
        rw [frcN_eq] at h3
        obtain ⟨lw, hh, m, h4, hle, hm, hmc, hhn, hhm, hhmx, hrun⟩ := bndsK_spec hb h3
        have hm : mx = none → m = c / 2 := hm
        have hmc : m ≤ c / 2 := hmc
        have key : ∀ β a W o, o.op = Op.slice U x lo hi mx → Sees β env a (Op.slice U x lo hi mx).operands → ∃ p c', β i = some p ∧ n ≤ c / 2 ∧ (c = 2 * c' ∨ ∃ m, c = 2 * m + 1 ∧ m ≤ c') ∧ p.s + off + c' * es ≤ p.z ∧ c / 2 ≤ c' ∧
            (execOp a.eval o).run P W = .ok (.value (.slice (if (if mx = none then c' else m) = lw then some ⟨p.b, p.s + off, none⟩ else some ⟨p.b, p.s + off + lw * es, none⟩) (hh - lw) ((if mx = none then c' else m) - lw))) W := fun β a W o ho hs => by
          obtain ⟨p, c', hp, e1, hn, hcc, hz⟩ := (hv.vr hs hx).sl_inv
          have hcp : c / 2 ≤ c' := by rcases hcc with rfl | ⟨q, rfl, hq⟩ <;> omega
          refine ⟨p, c', hp, hn, hcc, hz, hcp, ?_⟩
          have hr := hrun P true β a _ W c' hs hin hcp
          unfold execOp
          simp only [ho, e1, Instr.sliceAt, Instr.slice, Sem.run_bind, run_underlying hk', Result.andThen_ok, hr, (hΓ.ty e te hte).size, Sem.run_pure, Option.map_some, Addr.add_mid, hes]
        have hhc : ∀ c', n ≤ c / 2 → c / 2 ≤ c' → hh ≤ (if mx = none then c' else m) := fun c' h1 h2 => by
          by_cases e : mx = none
          · rw [if_pos e]
            have := hm e
            rcases hhm with h | h
            · have : m = c / 2 := this
              omega
            · omega
          · rw [if_neg e]; exact hhmx e
        have hnb : noneB mx = decide (mx = none) := by cases mx <;> simp [noneB]
        split at h4
        · rename_i hlm
          have hlm := Nat.eq_of_beq_eq_true hlm
          have h5 : T (k (.sl i off (hh - lw) 0 es)) ∧ (mx = none → c % 2 = 0) := by
            split at h4
            · exact absurd h4 hb
            · rename_i hq
              rw [frcN_eq] at h4
              refine ⟨h4, fun e => ?_⟩
              cases hc : Nat.beq (Nat.mod c 2) 0 with
              | true => exact Nat.eq_of_beq_eq_true hc
              | false => exact (hq (by rw [hnb]; simp [e]) hc).elim
          refine ⟨_, h5.1, fun β a W o ho hs => ?_⟩
          obtain ⟨p, c', hp, hn, hcc, hz, hcp, hr⟩ := key β a W o ho hs
          have hM : (if mx = none then c' else m) = lw := by
            by_cases e : mx = none
            · rw [if_pos e]
              have h6 := h5.2 e
              have h7 : m = c / 2 := hm e
              rcases hcc with rfl | ⟨q, rfl, hq⟩
              · omega
              · omega
            · rw [if_neg e]; exact hlm.symm
          rw [hM, if_pos rfl, Nat.sub_self] at hr
          have := hhc c' hn hcp
          rw [hM] at this
          exact ⟨_, hr, .sl i off (hh - lw) 0 0 es p hp (by omega) (.inl rfl) (by omega)⟩
        · rename_i hlm
          have hlm : lw ≠ m := fun e => by rw [e, Nat.beq_refl] at hlm; cases hlm
          simp only [frcN_eq] at h4
          have hne : ∀ c', n ≤ c / 2 → c / 2 ≤ c' → (if mx = none then c' else m) ≠ lw ∧ lw < (if mx = none then c' else m) := fun c' h1 h2 => by
            have h3 := hhc c' h1 h2
            by_cases e : mx = none
            · rw [if_pos e] at h3 ⊢
              have h7 : m = c / 2 := hm e
              omega
            · rw [if_neg e] at h3 ⊢; omega
          have hmul : ∀ M, lw ≤ M → lw * es + (M - lw) * es = M * es := fun M hM => by rw [← Nat.add_mul]; congr 1; omega
          split at h4
          · rename_i hx0
            have emx : mx = none := by rw [hnb] at hx0; exact of_decide_eq_true hx0
            have h7 : m = c / 2 := hm emx
            refine ⟨_, h4, fun β a W o ho hs => ?_⟩
            obtain ⟨p, c', hp, hn, hcc, hz, hcp, hr⟩ := key β a W o ho hs
            obtain ⟨hn1, hn2⟩ := hne c' hn hcp
            have h8 := hhc c' hn hcp
            rw [if_pos emx] at hr hn1 hn2 h8
            rw [if_neg hn1] at hr
            refine ⟨_, hr, ?_⟩
            rw [Nat.add_assoc]
            have h9 : hh ≤ c / 2 := by rcases hhm with h | h <;> omega
            refine .sl i _ (hh - lw) _ (c' - lw) es p hp (show hh - lw ≤ (c - 2 * lw) / 2 by omega) ?_ ?_
            · show c - 2 * lw = 2 * (c' - lw) ∨ ∃ q, c - 2 * lw = 2 * q + 1 ∧ q ≤ c' - lw
              rcases hcc with rfl | ⟨q, rfl, hq⟩
              · exact .inl (by omega)
              · exact .inr ⟨q - lw, by omega, by omega⟩
            · have := hmul c' (by omega)
              show p.s + (off + lw * es) + (c' - lw) * es ≤ p.z
              omega
          · rename_i hx0
            have emx : mx ≠ none := by rw [hnb] at hx0; exact of_decide_eq_false hx0
            refine ⟨_, h4, fun β a W o ho hs => ?_⟩
            obtain ⟨p, c', hp, hn, hcc, hz, hcp, hr⟩ := key β a W o ho hs
            obtain ⟨hn1, hn2⟩ := hne c' hn hcp
            have h8 := hhc c' hn hcp
            rw [if_neg emx] at hr hn1 hn2 h8
            rw [if_neg hn1] at hr
            refine ⟨_, hr, ?_⟩
            rw [Nat.add_assoc]
            refine .sl i _ (hh - lw) _ (m - lw) es p hp (show hh - lw ≤ (2 * (m - lw)) / 2 by omega) (.inl rfl) ?_
            have := hmul m (by omega)
            have h9 : m * es ≤ c' * es := Nat.mul_le_mul_right _ (by omega)
            show p.s + (off + lw * es) + (m - lw) * es ≤ p.z
            omega
    · exact absurd h2 hb
  · simp only at h2
    split at h2
    · rename_i e hkd
      rw [hkd] at hk
      have hk' : P.underlying U = some (.slice e) := hk
      obtain ⟨te, hte, h3⟩ := tyK_spec hb h2
      obtain ⟨lw, hh, m, h4, hle, hm, hmc, hhn, hhm, hhmx, hrun⟩ := bndsK_spec hb h3
      refine ⟨_, h4, fun β a W o ho hs => ⟨.slice none 0 0, ?_, .nils⟩⟩
      have e1 := (hv.vr hs hx).nils_inv
      have hr := hrun P true β a _ W 0 hs hin (Nat.le_refl _)
      have h0 : hh = 0 := by rcases hhm with h | h <;> omega
      have h1 : lw = 0 := by omega
      have h5 : (if mx = none then 0 else m) = 0 := by split <;> omega
      rw [h0, h1, h5] at hr
      unfold execOp
      simp [ho, e1, Instr.sliceAt, Instr.slice, run_underlying hk', hr, (hΓ.ty e te hte).size]
    · exact absurd h2 hb
theorem pureK_sound {P : Program} {Γ : Ctx} (hΓ : TyOk P Γ) {env : Env} {op : Op} {k : AV → α} (h : T (pureK bad Γ env op k)) : ∃ v, T (k v) ∧ PureSem P env op v := by
  unfold pureK at h
  split at h
  case h_1 x =>
    obtain ⟨v, hv, h1⟩ := oK_spec hb h
    exact ⟨v, h1, fun β a W o ho hs => ⟨a.eval x, by unfold execOp; simp [ho], hv.vr hs (by simp [Op.operands])⟩⟩
  case h_2 x =>
    obtain ⟨v, hv, h1⟩ := oK_spec hb h
    exact ⟨v, h1, fun β a W o ho hs => ⟨a.eval x, by unfold execOp; simp [ho], hv.vr hs (by simp [Op.operands])⟩⟩
  case h_3 c x y =>
    obtain ⟨vc, hc, h1⟩ := oK_spec hb h
    cases vc <;> try exact absurd h1 hb
    rename_i b
    cases b with
    | true =>
      obtain ⟨v, hv, h2⟩ := oK_spec hb h1
      exact ⟨v, h2, fun β a W o ho hs => ⟨a.eval x, by unfold execOp; simp [ho, (hc.vr hs (x := c) (by simp [Op.operands])).bool_inv, asBool], hv.vr hs (by simp [Op.operands])⟩⟩
    | false =>
      obtain ⟨v, hv, h2⟩ := oK_spec hb h1
      exact ⟨v, h2, fun β a W o ho hs => ⟨a.eval y, by unfold execOp; simp [ho, (hc.vr hs (x := c) (by simp [Op.operands])).bool_inv, asBool], hv.vr hs (by simp [Op.operands])⟩⟩
  case h_4 U x f =>
    obtain ⟨t, ht, h1⟩ := tyK_spec hb h
    split at h1
    · rename_i fo ag sz hf
      obtain ⟨v, hv, h2⟩ := oK_spec hb h1
      have hok := ((hΓ.ty U t ht).fields.get hf).1
      rw [Nat.zero_add] at hok
      cases v <;> try exact absurd h2 hb
      · rename_i i off
        simp only [frcN_eq] at h2
        refine ⟨_, h2, fun β a W o ho hs => ?_⟩
        obtain ⟨p, hp, e⟩ := (hv.vr hs (x := x) (by simp [Op.operands])).ptr_inv
        refine ⟨_, by unfold execOp; simp [ho, e, hok, Addr.add_mid]; rfl, ?_⟩
        rw [show p.s + off + fo = p.s + (Nat.add off fo) from Nat.add_assoc _ _ _]
        exact .ptr i _ p hp
      · rename_i g off
        simp only [frcN_eq] at h2
        refine ⟨_, h2, fun β a W o ho hs => ?_⟩
        have e := (hv.vr hs (x := x) (by simp [Op.operands])).glo_inv
        exact ⟨_, by unfold execOp; simp [ho, e, hok, Addr.add_mid], .glo g _⟩
    · exact absurd h1 hb
  case h_5 U x f =>
    obtain ⟨t, ht, h1⟩ := tyK_spec hb h
    split at h1
    · rename_i fo ag sz hf
      obtain ⟨v, hv, h2⟩ := oK_spec hb h1
      have hok := ((hΓ.ty U t ht).fields.get hf).2
      rw [Nat.zero_add] at hok
      cases v <;> try exact absurd h2 hb
      rename_i cs
      obtain ⟨h3, hle⟩ := cutK_spec hb _ _ _ _ h2
      obtain ⟨v, h4, hvv⟩ := asVarK_spec hb h3
      refine ⟨v, h4, fun β a W o ho hs => ?_⟩
      obtain ⟨ds, e, hd⟩ := (hv.vr hs (x := x) (by simp [Op.operands])).agg_inv
      have hl := (hd.drop fo).take sz
      rcases asVar_part hl hvv with ⟨h5, h6⟩ | ⟨h5, y, h6, h7⟩
      · refine ⟨_, ?_, h6⟩
        unfold execOp
        simp [ho, e, hok, h5, fieldSem, List.extract_eq_take_drop, show fo + sz - fo = sz by omega]
      · have hg : ds[fo]? = some y := by
          have := congrArg (·[0]?) h6
          simp only [List.getElem?_take, List.getElem?_drop, Nat.add_zero] at this
          split at this
          · simpa using this
          · simp at this
        refine ⟨y, ?_, h7⟩
        unfold execOp
        simp [ho, e, hok, h5, fieldSem, hg]
    · exact absurd h1 hb
  case h_6 x i =>
    obtain ⟨v, hv, h1⟩ := oK_spec hb h
    cases v <;> try exact absurd h1 hb
    rename_i vs
    simp only at h1
    split at h1
    · rename_i u hu
      refine ⟨u, h1, fun β a W o ho hs => ?_⟩
      obtain ⟨ds, e, hd⟩ := (hv.vr hs (x := x) (by simp [Op.operands])).tup_inv
      obtain ⟨y, hy, hr⟩ := hd.get hu
      exact ⟨y, by unfold execOp; simp [ho, e, Instr.extract, hy], hr⟩
    · exact absurd h1 hb
  case h_7 bop U x y U' =>
    obtain ⟨u, hu, h1⟩ := oK_spec hb h
    obtain ⟨v, hv, h2⟩ := oK_spec hb h1
    split at h2
    · rename_i k1 n1 k2 n2
      obtain ⟨w, h3, hw⟩ := binK_int hb h2
      refine ⟨w, h3, fun β a W o ho hs => ?_⟩
      have e1 := (hu.vr hs (x := x) (by simp [Op.operands])).int_inv
      have e2 := (hv.vr hs (x := y) (by simp [Op.operands])).int_inv
      obtain ⟨z, hz, hr⟩ := hw P U x y W
      refine ⟨z, ?_, hr β⟩
      unfold execOp
      simp only [ho, e1, e2]
      rw [Sem.run_bind, hz]; rfl
    · rename_i l1 l2
      obtain ⟨w, h3, hw⟩ := binK_str hb h2
      refine ⟨w, h3, fun β a W o ho hs => ?_⟩
      obtain ⟨s1, e1, hs1⟩ := (hu.vr hs (x := x) (by simp [Op.operands])).str_inv
      obtain ⟨s2, e2, hs2⟩ := (hv.vr hs (x := y) (by simp [Op.operands])).str_inv
      obtain ⟨z, hz, hr⟩ := hw P U x y W s1 s2 hs1 hs2
      refine ⟨z, ?_, hr β⟩
      unfold execOp
      simp only [ho, e1, e2]
      rw [Sem.run_bind, hz]; rfl
    · rename_i l1 l2
      split at h2
      · rename_i q hq hl1 hl2
        obtain ⟨xs, rfl⟩ := allI64_spec hl1
        obtain ⟨ys, rfl⟩ := allI64_spec hl2
        split at h2
        · rename_i hn1 hn2
          have hn1 : xs.length = q := by have := Nat.eq_of_beq_eq_true hn1; simpa using this
          have hn2 : ys.length = q := by have := Nat.eq_of_beq_eq_true hn2; simpa using this
          have hE := hΓ.eq U q hq xs ys hn1 hn2
          rw [frcB_eq, eqInts_eq] at h2
          rcases outB_spec hb h2 with ⟨rfl, hh⟩ | ⟨rfl, hh⟩
          · refine ⟨_, hh, fun β a W o ho hs => ⟨_, ?_, .bool _⟩⟩
            have e1 := aggI_inv (hu.vr hs (x := x) (by simp [Op.operands]))
            have e2 := aggI_inv (hv.vr hs (x := y) (by simp [Op.operands]))
            unfold execOp
            simp only [ho, e1, e2]
            rw [Sem.run_bind, (hE x y W).1]; rfl
          · refine ⟨_, hh, fun β a W o ho hs => ⟨_, ?_, .bool _⟩⟩
            have e1 := aggI_inv (hu.vr hs (x := x) (by simp [Op.operands]))
            have e2 := aggI_inv (hv.vr hs (x := y) (by simp [Op.operands]))
            unfold execOp
            simp only [ho, e1, e2]
            rw [Sem.run_bind, (hE x y W).2]; rfl
        · exact absurd h2 hb
      · exact absurd h2 hb
    · obtain ⟨t, ht, h3⟩ := tyK_spec hb h2
      obtain ⟨r, h4, hr⟩ := nilK_spec hb (hΓ.ty U t ht) h3
      refine ⟨.bool r, h4, fun β a W o ho hs => ⟨.bool r, ?_, .bool r⟩⟩
      have := hr β _ _ (hu.vr hs (x := x) (by simp [Op.operands])) (hv.vr hs (x := y) (by simp [Op.operands])) x y W
      unfold execOp
      simp only [ho]
      rw [Sem.run_bind, this]; rfl
  case h_8 U x =>
    obtain ⟨v, hv, h1⟩ := oK_spec hb h
    cases v <;> try exact absurd h1 hb
    rename_i b
    have h2 : T (k (.bool (!b))) := by cases b <;> exact h1
    refine ⟨_, h2, fun β a W o ho hs => ⟨.bool (!b), ?_, .bool _⟩⟩
    unfold execOp
    simp [ho, (hv.vr hs (x := x) (by simp [Op.operands])).bool_inv, Op.unary]
  case h_9 U x =>
    obtain ⟨v, hv, h1⟩ := oK_spec hb h
    cases v <;> try exact absurd h1 hb
    rename_i kd n
    simp only [frcI_eq, wr_neg] at h1
    refine ⟨_, h1, fun β a W o ho hs => ⟨.int kd (kd.wrap (0 - n)), ?_, .int _ _⟩⟩
    unfold execOp
    simp [ho, (hv.vr hs (x := x) (by simp [Op.operands])).int_inv, Op.unary, Op.intArith]
  case h_10 U x =>
    obtain ⟨v, hv, h1⟩ := oK_spec hb h
    cases v <;> try exact absurd h1 hb
    rename_i kd n
    have e0 : onesI kd = if kd.signed then -1 else kd.max := by cases kd <;> rfl
    simp only [bitK, frcI_eq] at h1
    rw [sgnW_eq _ _ (xor_lt kd _ n), ← ofInt_xor, e0] at h1
    refine ⟨_, h1, fun β a W o ho hs => ⟨.int kd (kd.wrap (BitVec.ofInt kd.bits (if kd.signed then -1 else kd.max) ^^^ BitVec.ofInt kd.bits n).toNat), ?_, .int _ _⟩⟩
    unfold execOp
    simp [ho, (hv.vr hs (x := x) (by simp [Op.operands])).int_inv, Op.unary, Op.intBits]
  case h_11 src dst x =>
    obtain ⟨ts, hts, h0⟩ := tyK_spec hb h
    obtain ⟨t, ht, h1⟩ := tyK_spec hb h0
    obtain ⟨v, hv, h2⟩ := oK_spec hb h1
    obtain ⟨ds, hds⟩ := (hΓ.ty src ts hts).und
    have hk := (hΓ.ty dst t ht).kind
    cases v <;> try exact absurd h2 hb
    · rename_i kd n
      simp only at h2
      split at h2
      · rename_i kd' hkd
        rw [hkd] at hk
        have hk' : P.underlying dst = some (.int kd') := hk
        rw [frcI_eq, wr_eq] at h2
        refine ⟨_, h2, fun β a W o ho hs => ⟨.int kd' (kd'.wrap n), ?_, .int _ _⟩⟩
        unfold execOp
        simp [ho, (hv.vr hs (x := x) (by simp [Op.operands])).int_inv, convert, run_underlying hk', run_underlying hds, Conv.intToInt]
      · exact absurd h2 hb
    · rename_i l
      simp only at h2
      split at h2
      · rename_i hkd
        rw [hkd] at hk
        have hk' : P.underlying dst = some .string := hk
        refine ⟨_, h2, fun β a W o ho hs => ?_⟩
        obtain ⟨s, e, hs'⟩ := (hv.vr hs (x := x) (by simp [Op.operands])).str_inv
        refine ⟨.string s, ?_, .str _ _ hs'⟩
        unfold execOp
        simp [ho, e, convert, run_underlying hk', run_underlying hds]
      · exact absurd h2 hb
  case h_12 U parts =>
    obtain ⟨t, ht, h1⟩ := tyK_spec hb h
    obtain ⟨z, zs, hz1, hz2, hz3, hz4⟩ := (hΓ.ty U t ht).zero
    split at h1
    · rename_i hkd
      obtain ⟨cs, h2, hf⟩ := fillK_spec hb _ _ _ h1
      refine ⟨_, h2, fun β a W o ho hs => ?_⟩
      have hm : ∀ p ∈ parts.toList, p.2 ∈ (Op.build U parts).operands := fun p hp => by simp only [Op.operands]; simp; exact ⟨p.1, by simpa using hp⟩
      obtain ⟨ds, hd, he⟩ := hf β a _ hs hm zs (hz3.mono (fun i p h => by cases h))
      refine ⟨.agg ds.toArray, ?_, .agg _ _ hd.1 hd.2⟩
      have := run_build (P := P) W U (parts.map fun (i, x) => (i, a.eval x)) ds.toArray (by
          rw [hz4 hkd, ← he]
          congr 1
          simp)
      unfold execOp
      simp [ho, this]
    · rename_i n e hkd
      obtain ⟨te, hte, h2⟩ := tyK_spec hb h1
      obtain ⟨cs, h3, hf⟩ := litK_spec hb _ _ _ h2
      have hk := (hΓ.ty U t ht).kind
      rw [hkd] at hk
      have hk' : P.underlying U = some (.array n e) := hk
      refine ⟨_, h3, fun β a W o ho hs => ?_⟩
      have hm : ∀ p ∈ parts.toList, p.2 ∈ (Op.build U parts).operands := fun p hp => by simp only [Op.operands]; simp; exact ⟨p.1, by simpa using hp⟩
      obtain ⟨ds, hd, he⟩ := hf β a _ hs hm zs (hz3.mono (fun i p h => by cases h))
      refine ⟨.agg ds.toArray, ?_, .agg _ _ hd.1 hd.2⟩
      have hfl : Instr.fill (fun i => some (i * te.size, te.size)) zs.toArray (parts.map fun (i, x) => (i, a.eval x)).toList = some ds.toArray := by
        rw [← he]
        congr 1
        simp
      have : (Instr.build U (parts.map fun (i, x) => (i, a.eval x))).run P W = .ok (.agg ds.toArray) W := by
        simp only [Instr.build, Sem.run_bind, hz1, Result.andThen_ok, run_underlying hk', (hΓ.ty e te hte).size, hz2, hfl, Sem.run_pure]
      unfold execOp
      simp [ho, this]
    · exact absurd h1 hb
  case h_13 U x y =>
    obtain ⟨t, ht, h1⟩ := tyK_spec hb h
    have hk := (hΓ.ty U t ht).kind
    split at h1
    · rename_i e hkd
      rw [hkd] at hk
      have hk' : P.underlying U = some (.slice e) := hk
      obtain ⟨te, hte, h2⟩ := tyK_spec hb h1
      obtain ⟨v, hv, h3⟩ := oK_spec hb h2
      cases v <;> try exact absurd h3 hb
      rename_i i off n c es
      obtain ⟨kd, j, hj, hlt, h4⟩ := idxK_spec hb h3
      simp only [frcN_eq] at h4
      refine ⟨_, h4, fun β a W o ho hs => ?_⟩
      obtain ⟨p, c', hp, e1, _⟩ := (hv.vr hs (x := x) (by simp [Op.operands])).sl_inv
      have e2 := (hj.vr hs (x := y) (by simp [Op.operands])).int_inv
      refine ⟨.pointer (some ⟨p.b, p.s + (Nat.add off (Nat.mul j te.size)), none⟩), ?_, .ptr i _ p hp⟩
      unfold execOp
      simp [ho, e1, e2, Instr.indexAt, asIntOf, run_underlying hk', (hΓ.ty e te hte).size, Addr.add_mid, hlt]
    · rename_i n e hkd
      rw [hkd] at hk
      have hk' : P.underlying U = some (.array n e) := hk
      obtain ⟨te, hte, h2⟩ := tyK_spec hb h1
      obtain ⟨v, hv, h3⟩ := oK_spec hb h2
      cases v <;> try exact absurd h3 hb
      · rename_i i off
        obtain ⟨kd, j, hj, hlt, h4⟩ := idxK_spec hb h3
        simp only [frcN_eq] at h4
        refine ⟨_, h4, fun β a W o ho hs => ?_⟩
        obtain ⟨p, hp, e1⟩ := (hv.vr hs (x := x) (by simp [Op.operands])).ptr_inv
        have e2 := (hj.vr hs (x := y) (by simp [Op.operands])).int_inv
        refine ⟨.pointer (some ⟨p.b, p.s + (Nat.add off (Nat.mul j te.size)), none⟩), ?_, .ptr i _ p hp⟩
        unfold execOp
        simp [ho, e1, e2, Instr.indexAt, Instr.sureAddr, asIntOf, run_underlying hk', (hΓ.ty e te hte).size, Addr.add_mid, hlt]
      · rename_i g off
        obtain ⟨kd, j, hj, hlt, h4⟩ := idxK_spec hb h3
        simp only [frcN_eq] at h4
        refine ⟨_, h4, fun β a W o ho hs => ?_⟩
        have e1 := (hv.vr hs (x := x) (by simp [Op.operands])).glo_inv
        have e2 := (hj.vr hs (x := y) (by simp [Op.operands])).int_inv
        refine ⟨.pointer (some ⟨g, Nat.add off (Nat.mul j te.size), none⟩), ?_, .glo g _⟩
        unfold execOp
        simp [ho, e1, e2, Instr.indexAt, Instr.sureAddr, asIntOf, run_underlying hk', (hΓ.ty e te hte).size, Addr.add_mid, hlt]
    · exact absurd h1 hb
  case h_14 U x y =>
    obtain ⟨t, ht, h1⟩ := tyK_spec hb h
    have hk := (hΓ.ty U t ht).kind
    obtain ⟨v, hv, h2⟩ := oK_spec hb h1
    cases v <;> try exact absurd h2 hb
    · rename_i l
      simp only at h2
      split at h2
      · rename_i hkd
        rw [hkd] at hk
        have hk' : P.underlying U = some .string := hk
        rw [lenK_eq] at h2
        obtain ⟨kd, j, hj, hlt, h3⟩ := idxK_spec hb h2
        split at h3
        · rename_i b hbj
          refine ⟨_, h3, fun β a W o ho hs => ?_⟩
          obtain ⟨s, e1, hs'⟩ := (hv.vr hs (x := x) (by simp [Op.operands])).str_inv
          have e2 := (hj.vr hs (x := y) (by simp [Op.operands])).int_inv
          have hg : ∃ u : UInt8, s[j]? = some u ∧ u.toNat = b := by
            rw [← hs', List.getElem?_map] at hbj
            obtain ⟨u, hu, rfl⟩ := Option.map_eq_some_iff.1 hbj
            refine ⟨u, ?_, rfl⟩
            have hjl : j < s.data.toList.length := (List.getElem?_eq_some_iff.1 hu).1
            have hj2 : j < s.size := by simpa using hjl
            rw [getElem?_pos s j hj2]
            have := (List.getElem?_eq_some_iff.1 hu).2
            simp only [Array.getElem_toList] at this
            exact congrArg some this
          obtain ⟨u, hu, rfl⟩ := hg
          refine ⟨.int .u8 u.toNat, ?_, .int _ _⟩
          unfold execOp
          simp [ho, e1, e2, Instr.index, asIntOf, run_underlying hk', hu]
        · exact absurd h3 hb
      · exact absurd h2 hb
    · rename_i cs
      simp only at h2
      split at h2
      · rename_i n e hkd
        rw [hkd] at hk
        have hk' : P.underlying U = some (.array n e) := hk
        obtain ⟨te, hte, h3⟩ := tyK_spec hb h2
        obtain ⟨kd, j, hj, hlt, h4⟩ := idxK_spec hb h3
        obtain ⟨h5, hle⟩ := cutK_spec hb _ _ _ _ h4
        obtain ⟨u, h6, hu⟩ := asVarK_spec hb h5
        refine ⟨u, h6, fun β a W o ho hs => ?_⟩
        obtain ⟨ds, e1, hd⟩ := (hv.vr hs (x := x) (by simp [Op.operands])).agg_inv
        have e2 := (hj.vr hs (x := y) (by simp [Op.operands])).int_inv
        obtain ⟨z, hz, hr⟩ := part_run (hΓ.ty e te hte) hd hle hu W
        refine ⟨z, ?_, hr⟩
        unfold execOp
        simp only [ho, e1, e2, Instr.index, asIntOf, Sem.run_bind, Sem.run_pure, Result.andThen_ok, run_underlying hk', Int.ofNat_eq_natCast]
        rw [if_pos ⟨by omega, by omega⟩]
        simp only [Sem.run_bind, (hΓ.ty e te hte).size, Result.andThen_ok, Int.toNat_natCast]
        rw [show j * te.size = Nat.mul j te.size from rfl, hz]; rfl
      · exact absurd h2 hb
  case h_15 U x lo hi mx => exact slice_case hb hΓ (by unfold pureK; exact h)
  case h_16 x =>
    obtain ⟨v, hv, h1⟩ := oK_spec hb h
    cases v <;> try exact absurd h1 hb
    · rename_i i off
      refine ⟨_, h1, fun β a W o ho hs => ⟨a.eval x, ?_, hv.vr hs (by simp [Op.operands])⟩⟩
      obtain ⟨p, hp, e⟩ := (hv.vr hs (x := x) (by simp [Op.operands])).ptr_inv
      unfold execOp
      simp [ho, e]
    · rename_i g off
      refine ⟨_, h1, fun β a W o ho hs => ⟨a.eval x, ?_, hv.vr hs (by simp [Op.operands])⟩⟩
      have e := (hv.vr hs (x := x) (by simp [Op.operands])).glo_inv
      unfold execOp
      simp [ho, e]
    · rename_i f u w
      cases f <;> try exact absurd h1 hb
      refine ⟨_, h1, fun β a W o ho hs => ⟨a.eval x, ?_, hv.vr hs (by simp [Op.operands])⟩⟩
      obtain ⟨u', w', e, _⟩ := (hv.vr hs (x := x) (by simp [Op.operands])).fn_inv
      unfold execOp
      simp [ho, e]
  case h_17 f u w =>
    obtain ⟨us, h1, hus⟩ := osK_spec hb _ _ h
    obtain ⟨ws, h2, hws⟩ := osK_spec hb _ _ h1
    refine ⟨_, h2, fun β a W o ho hs => ⟨.func f (u.map a.eval) (w.map a.eval), by unfold execOp; simp [ho, Instr.makeFunc], ?_⟩⟩
    have h3 := hus β a _ hs (fun x hx => (show x ∈ u ++ w from Array.mem_append.2 (.inl (by simpa using hx))))
    have h4 := hws β a _ hs (fun x hx => (show x ∈ u ++ w from Array.mem_append.2 (.inr (by simpa using hx))))
    have e1 : u.map a.eval = (u.toList.map a.eval).toArray := Array.toList_inj.1 (by simp)
    have e2 : w.map a.eval = (w.toList.map a.eval).toArray := Array.toList_inj.1 (by simp)
    rw [e1, e2]
    exact .fn f _ _ _ _ h3.1 h3.2 h4.1 h4.2
  case h_18 x U =>
    obtain ⟨t, ht, h1⟩ := tyK_spec hb h
    have hk := (hΓ.ty U t ht).kind
    obtain ⟨v, hv, h2⟩ := oK_spec hb h1
    cases v <;> try exact absurd h2 hb
    · rename_i l
      simp only at h2
      split at h2
      · rename_i hkd
        rw [hkd] at hk
        have hk' : P.underlying U = some .string := hk
        rw [lenK_eq] at h2
        refine ⟨_, h2, fun β a W o ho hs => ?_⟩
        obtain ⟨s, e, hs'⟩ := (hv.vr hs (x := x) (by simp [Op.operands, Call.operands])).str_inv
        refine ⟨.int .i64 s.size, ?_, ?_⟩
        · unfold execOp
          simp [ho, resolve, invoke, builtin, Builtin.len_, e, run_underlying hk', goInt]
        · have : l.length = s.size := by rw [← hs']; simp
          rw [this]; exact .int _ _
      · exact absurd h2 hb
    · rename_i i off n c es
      simp only at h2
      split at h2
      · rename_i q hkd
        rw [hkd] at hk
        have hk' : P.underlying U = some (.slice q) := hk
        refine ⟨_, h2, fun β a W o ho hs => ?_⟩
        obtain ⟨p, c', hp, e, _⟩ := (hv.vr hs (x := x) (by simp [Op.operands, Call.operands])).sl_inv
        refine ⟨.int .i64 n, ?_, .int _ _⟩
        unfold execOp
        simp [ho, resolve, invoke, builtin, Builtin.len_, e, run_underlying hk', goInt]
      · exact absurd h2 hb
    · simp only at h2
      split at h2
      · rename_i q hkd
        rw [hkd] at hk
        have hk' : P.underlying U = some (.slice q) := hk
        refine ⟨_, h2, fun β a W o ho hs => ?_⟩
        have e := (hv.vr hs (x := x) (by simp [Op.operands, Call.operands])).nils_inv
        refine ⟨.int .i64 0, ?_, .int _ _⟩
        unfold execOp
        simp [ho, resolve, invoke, builtin, Builtin.len_, e, run_underlying hk', goInt]
      · exact absurd h2 hb
    · simp only at h2
      split at h2
      · rename_i n q hkd
        rw [hkd] at hk
        have hk' : P.underlying U = some (.array n q) := hk
        refine ⟨_, h2, fun β a W o ho hs => ?_⟩
        obtain ⟨ds, e, _⟩ := (hv.vr hs (x := x) (by simp [Op.operands, Call.operands])).agg_inv
        refine ⟨.int .i64 n, ?_, .int _ _⟩
        unfold execOp
        simp [ho, resolve, invoke, builtin, Builtin.len_, e, run_underlying hk', goInt]
      · exact absurd h2 hb
  case h_19 x U =>
    obtain ⟨t, ht, h1⟩ := tyK_spec hb h
    have hk := (hΓ.ty U t ht).kind
    obtain ⟨v, hv, h2⟩ := oK_spec hb h1
    cases v <;> try exact absurd h2 hb
    · rename_i i off n c es
      simp only at h2
      split at h2
      · rename_i q hkd
        rw [hkd] at hk
        have hk' : P.underlying U = some (.slice q) := hk
        split at h2
        · rename_i hc
          rw [frcN_eq] at h2
          refine ⟨_, h2, fun β a W o ho hs => ?_⟩
          obtain ⟨p, c', hp, e, _, hcc, _⟩ := (hv.vr hs (x := x) (by simp [Op.operands, Call.operands])).sl_inv
          refine ⟨.int .i64 c', ?_, ?_⟩
          · unfold execOp
            simp [ho, resolve, invoke, builtin, Builtin.cap_, e, run_underlying hk', goInt]
          · have h0 : c % 2 = 0 := Nat.eq_of_beq_eq_true hc
            have : Nat.div c 2 = c' := by
              show c / 2 = c'
              rcases hcc with rfl | ⟨m, rfl, _⟩ <;> omega
            rw [this]; exact .int _ _
        · exact absurd h2 hb
      · exact absurd h2 hb
    · simp only at h2
      split at h2
      · rename_i q hkd
        rw [hkd] at hk
        have hk' : P.underlying U = some (.slice q) := hk
        refine ⟨_, h2, fun β a W o ho hs => ?_⟩
        have e := (hv.vr hs (x := x) (by simp [Op.operands, Call.operands])).nils_inv
        refine ⟨.int .i64 0, ?_, .int _ _⟩
        unfold execOp
        simp [ho, resolve, invoke, builtin, Builtin.cap_, e, run_underlying hk', goInt]
      · exact absurd h2 hb
  case h_20 x y U =>
    obtain ⟨u, hu, h1⟩ := oK_spec hb h
    obtain ⟨v, hv, h2⟩ := oK_spec hb h1
    split at h2
    · rename_i kd m kd' n
      rw [ltI_eq] at h2
      have h3 : T (k (.int kd (if n < m then n else m))) := by
        by_cases hlt : n < m
        · rw [if_pos hlt]; rw [decide_eq_true hlt] at h2; exact h2
        · rw [if_neg hlt]; rw [decide_eq_false hlt] at h2; exact h2
      refine ⟨_, h3, fun β a W o ho hs => ⟨.int kd (if n < m then n else m), ?_, .int _ _⟩⟩
      have e1 := (hu.vr hs (x := x) (by simp [Op.operands, Call.operands])).int_inv
      have e2 := (hv.vr hs (x := y) (by simp [Op.operands, Call.operands])).int_inv
      unfold execOp
      simp [ho, resolve, invoke, builtin, Builtin.min_, Builtin.min2, e1, e2]
    · exact absurd h2 hb
  case h_21 x y U =>
    obtain ⟨u, hu, h1⟩ := oK_spec hb h
    obtain ⟨v, hv, h2⟩ := oK_spec hb h1
    split at h2
    · rename_i kd m kd' n
      rw [ltI_eq] at h2
      have h3 : T (k (.int kd (if n > m then n else m))) := by
        by_cases hlt : m < n
        · rw [if_pos hlt]; rw [decide_eq_true hlt] at h2; exact h2
        · rw [if_neg hlt]; rw [decide_eq_false hlt] at h2; exact h2
      refine ⟨_, h3, fun β a W o ho hs => ⟨.int kd (if n > m then n else m), ?_, .int _ _⟩⟩
      have e1 := (hu.vr hs (x := x) (by simp [Op.operands, Call.operands])).int_inv
      have e2 := (hv.vr hs (x := y) (by simp [Op.operands, Call.operands])).int_inv
      unfold execOp
      simp [ho, resolve, invoke, builtin, Builtin.max_, Builtin.max2, e1, e2]
    · exact absurd h2 hb
  case h_22 x U =>
    obtain ⟨v, hv, h1⟩ := oK_spec hb h
    cases v <;> try exact absurd h1 hb
    · rename_i i off n c es
      simp only at h1
      split at h1
      · rename_i hc
        have hc' : 2 ≤ c := Nat.le_of_ble_eq_true hc
        refine ⟨_, h1, fun β a W o ho hs => ?_⟩
        obtain ⟨p, c', hp, e, _, hcc, _⟩ := (hv.vr hs (x := x) (by simp [Op.operands, Call.operands])).sl_inv
        refine ⟨.pointer (some ⟨p.b, p.s + off, none⟩), ?_, .ptr i off p hp⟩
        have : c' ≠ 0 := by rcases hcc with rfl | ⟨m, rfl, hm⟩ <;> omega
        unfold execOp
        simp [ho, resolve, invoke, builtin, e, usd_some _ _ _ _ _ this]
      · exact absurd h1 hb
    · refine ⟨_, h1, fun β a W o ho hs => ?_⟩
      have e := (hv.vr hs (x := x) (by simp [Op.operands, Call.operands])).nils_inv
      refine ⟨.pointer none, ?_, .nilp⟩
      unfold execOp
      simp [ho, resolve, invoke, builtin, e, usd_none]
  case h_23 => exact absurd h hb
end
end Go.Proofs.YtcimgilfogeebaaGreatDoor.VM
