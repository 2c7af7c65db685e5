/- VM, 14: all operations. -/
import Derived.Test.YtcimgilfogeebaaGreatDoorV13
set_option linter.unusedVariables false
set_option linter.unusedSimpArgs false
namespace Go.Proofs.YtcimgilfogeebaaGreatDoor.VM
open Go Go.RowKit Go.Proofs.YtcimgilfogeebaaGreatDoor

theorem run_unsafeString_at {P : Program} {w : World} (pt it ty e : TypeId) (hp : P.underlying pt = some (.pointer e)) (hc : P.cellsOf e = 1) (g off cells : Nat) (hsh : w.shape? g = some (e, cells)) (l : List UInt8) (h0 : l ≠ []) (hn : off + l.length ≤ cells) (h63 : l.length ≤ 9223372036854775807)
    (hcell : ∀ j x, l[j]? = some x → w.cell? ((⟨g, off, none⟩ : Addr).add j) = some (.int .u8 x.toNat)) :
    (Builtin.unsafeString_ #[pt, it] ty #[.pointer (some ⟨g, off, none⟩), .int .i64 l.length]).run P w = .ok (.string ⟨l.toArray⟩) (w.freeze ⟨g, off, none⟩ l.length) := by
  have hl : l.length ≠ 0 := by simpa using h0
  have hlb := Lib.run_loadBytes (P := P) w l ⟨g, off, none⟩ .empty hcell
  have hlies := liesAt_bytes_at (P := P) hc (cells / P.cellsOf e) off l.length (by rw [hc]; simpa using hn)
  have h63' : ¬ (9223372036854775807 : Int) < (l.length : Int) := by omega
  have hdef : ∃ p q1 q2, Builtin.unsafeString_ #[pt, it] ty #[.pointer (some ⟨g, off, none⟩), .int .i64 l.length] =
      (do
        let n ← asInt (.int .i64 l.length)
        if n < 0 then runtimePanic p
        if n > IntKind.i64.max then unsupported q1
        if n = 0 then pure (.string .empty)
        else if ← variablesAt ⟨g, off, none⟩ (← elemOf pt) n.toNat then do
          let s ← loadBytes ⟨g, off, none⟩ .empty n.toNat
          freeze ⟨g, off, none⟩ n.toNat
          pure (.string s)
        else unsupported q2) := ⟨_, _, _, rfl⟩
  obtain ⟨p, q1, q2, hdef⟩ := hdef
  rw [hdef]
  have hmax : IntKind.i64.max = 9223372036854775807 := rfl
  have hneg : ¬ (l.length : Int) < 0 := by omega
  simp [asInt, asIntOf, hmax, h63', hneg, hl, variablesAt, hsh, elemOf, run_underlying hp, hlies, hlb]
theorem freeze_kept (W : World) (a : Addr) (n : Nat) : Kept (fun k => k = a.block) W (W.freeze a n) := by
  unfold World.freeze
  split
  · exact Kept.refl _ _
  · refine ⟨rfl, rfl, rfl, by simp, fun k hk hne => ?_⟩
    simp only [Array.getElem?_modify]
    rw [if_neg (fun e => hne e.symm)]
theorem freeze_obj {W : World} {a : Addr} {n : Nat} {c : Array Value} {U : TypeId} {fz : Nat × Nat} (h : W.heap[a.block]? = some (.cells c U fz)) : ∃ fz', (W.freeze a n).heap[a.block]? = some (.cells c U fz') := by
  unfold World.freeze
  split
  · exact ⟨fz, h⟩
  · obtain ⟨lo, hi⟩ := fz
    simp only [Array.getElem?_modify, if_true, h, Option.map_some]
    exact ⟨_, rfl⟩
section
variable {α : Type} {bad : α} {T : α → Prop} (hb : ¬ T bad)
include hb
theorem ustr_sem {P : Program} {Γ : Ctx} (hΓ : TyOk P Γ) {callK : CallK α} {env : Env} {h : Mem} {n : Nat} (hd : Dom h.get n) {x y : Operand} {U V : TypeId} {k : AV → Mem → Nat → List Nat → α} (hk : T (heapK bad Γ callK env h n (.call ⟨.builtin .unsafeString, #[x, y], #[U, V]⟩) k)) :
    Did1 P Γ.gl T (.call ⟨.builtin .unsafeString, #[x, y], #[U, V]⟩) env h n k := by
  have hexec : ∀ (a : Act) (o : Oper) (W : World), o.op = .call ⟨.builtin .unsafeString, #[x, y], #[U, V]⟩ → (execOp a.eval o).run P W = ((Builtin.unsafeString_ #[U, V] o.type #[a.eval x, a.eval y]).run P W).andThen fun y W' => .ok (.value y) W' := fun a o W ho => by
    unfold execOp
    simp only [ho, resolve, invoke, builtin, Sem.run_bind, Sem.run_pure, Result.andThen_ok, List.map_toArray, List.map_cons, List.map_nil]
  have hxm : x ∈ (Op.call ⟨.builtin .unsafeString, #[x, y], #[U, V]⟩).operands := by simp [Op.operands, Call.operands]
  have hym : y ∈ (Op.call ⟨.builtin .unsafeString, #[x, y], #[U, V]⟩).operands := by simp [Op.operands, Call.operands]
  unfold heapK at hk
  simp only at hk
  obtain ⟨p, hp, h1⟩ := oK_spec hb hk
  obtain ⟨m, hm, h2⟩ := oK_spec hb h1
  split at h2
  · refine ⟨_, h, n, [], h2, Facts.refl _ _, fun β W a o ho r hs hf K hK => ?_⟩
    have e1 := (hp.vr hs hxm).nilp_inv
    have e2 := (hm.vr hs hym).int_inv
    refine wp_value (y := .string .empty) (W' := W) ?_ (hK β W _ (Post.refl r n) (.str _ _ rfl))
    rw [hexec a o W ho, e1, e2]
    have := Lib.run_unsafeString_none (P := P) W U V o.type none
    simp only [Int.ofNat_eq_natCast]
    rw [show ((0 : Nat) : Int) = 0 from rfl, this]; rfl
  · rename_i i off
    refine ⟨_, h, n, [], h2, Facts.refl _ _, fun β W a o ho r hs hf K hK => ?_⟩
    obtain ⟨q, hq, e1⟩ := (hp.vr hs hxm).ptr_inv
    have e2 := (hm.vr hs hym).int_inv
    refine wp_value (y := .string .empty) (W' := W) ?_ (hK β W _ (Post.refl r n) (.str _ _ rfl))
    rw [hexec a o W ho, e1, e2]
    have := Lib.run_unsafeString_none (P := P) W U V o.type (some ⟨q.b, q.s + off, none⟩)
    simp only [Int.ofNat_eq_natCast]
    rw [show ((0 : Nat) : Int) = 0 from rfl, this]; rfl
  · rename_i i off m
    obtain ⟨u, hu, h3⟩ := tyK_spec hb h2
    have hku := (hΓ.ty U u hu).kind
    split at h3
    · rename_i e hkd
      rw [hkd] at hku
      have hU : P.underlying U = some (.pointer e) := hku
      obtain ⟨te, hte, h4⟩ := tyK_spec hb h3
      obtain ⟨b, hg, h5⟩ := memK_spec hb h4
      obtain ⟨ro, bx, ty, cells⟩ := b
      simp only at h5
      split at h5
      · rename_i V' hsame hsz hsmall
        have hsz := Nat.eq_of_beq_eq_true hsz
        have hsmall := small_lt hsmall
        obtain ⟨hVe, hty⟩ := sameTy_some hsame
        obtain ⟨h6, hle⟩ := cutK_spec hb _ _ _ _ h5
        obtain ⟨bs, h7, hbs, h256⟩ := cellBytes_spec hb _ _ h6
        obtain ⟨h', h8, hh⟩ := putM_spec hb h7
        have his : (h.get i).isSome = true := by rw [hg]; rfl
        refine ⟨_, h', n, [i], h8, Facts.upd hh his (hd.lt his), fun β W a o ho r hs hf K hK => ?_⟩
        obtain ⟨q, hq, e1⟩ := (hp.vr hs hxm).ptr_inv
        have e2 := (hm.vr hs hym).int_inv
        obtain ⟨q', ca, V2, fz, hq', hi⟩ := r.at_ i _ hg
        rw [hq] at hq'; cases hq'
        obtain ⟨i0, z0, hi0, hz0, hsz0, hby0⟩ := (hΓ.ty e te hte).info
        have hc1 : P.cellsOf e = 1 := by simp [Program.cellsOf, hi0, hsz0, hsz]
        have hel : V2 = e := hi.ty e hty
        have hle : off + (m + 1) ≤ cells.length := hle
        have hlen : bs.length = m + 1 := by
          have := congrArg List.length hbs
          simp at this
          omega
        have hv2 := (hi.cells.drop off).take (m + 1)
        rw [List.drop_take, List.drop_drop, List.take_take, Nat.min_eq_left (by show m + 1 ≤ cells.length - off; omega)] at hv2
        have hbs' : (cells.drop off).take (m + 1) = bs.map fun b => AV.int .u8 (.ofNat b) := hbs
        rw [show (⟨ro, bx, ty, cells⟩ : Blk).cells = cells from rfl, hbs'] at hv2
        have hcs := bytes_inv hv2 h256
        have hr := Block.range hi.obj (q.s + off) (m + 1)
        rw [hcs] at hr
        have hfit : q.s + cells.length ≤ q.z := hi.fit
        have hrun := run_unsafeString_at (P := P) (w := W) U V o.type e hU hc1 q.b (q.s + off) ca.size (by unfold World.shape?; rw [hi.obj, hel]) (bs.map UInt8.ofNat) (by intro e; have := congrArg List.length e; simp [hlen] at this) (by simp [hlen]; rw [hi.size]; omega) (by simp [hlen]; omega) (fun j x hx => by
          rw [Addr.add_mid]
          exact hr j _ (by rw [List.getElem?_map, hx]; rfl))
        obtain ⟨fz', ho'⟩ := freeze_obj (W := W) (a := ⟨q.b, q.s + off, none⟩) (n := (bs.map UInt8.ofNat).length) hi.obj
        have hnew : BlkIs β (W.freeze ⟨q.b, q.s + off, none⟩ (bs.map UInt8.ofNat).length) q ⟨true, bx, ty, cells⟩ ca V2 fz' := ⟨ho', hi.size, (fun e => by cases e), hi.ty, hi.bx, hi.fit, hi.cells⟩
        refine wp_value (y := .string ⟨(bs.map UInt8.ofNat).toArray⟩) (W' := W.freeze ⟨q.b, q.s + off, none⟩ (bs.map UInt8.ofNat).length) ?_ (hK β _ _ (Post.upd r his hq (freeze_kept W ⟨q.b, q.s + off, none⟩ _) ⟨q, _, _, _, hq, hnew⟩ hh n) (.str _ _ (by simpa using toNat_ofNat_map h256)))
        rw [hexec a o W ho, e1, e2]
        have hml : ((bs.map UInt8.ofNat).length : Int) = Int.ofNat (m + 1) := by simp [hlen]
        rw [hml] at hrun
        rw [hrun]; rfl
      · exact absurd h5 hb
    · exact absurd h3 hb
  · exact absurd h2 hb
theorem call_sem {P : Program} {Γ : Ctx} {callK : CallK α} (hc : CallOk P Γ.gl T callK) {env : Env} {h : Mem} {n : Nat} (hd : Dom h.get n) {f : Operand} {as : Array Operand} {ts : Array TypeId} {k : AV → Mem → Nat → List Nat → α} (hk : T (heapK bad Γ callK env h n (.call ⟨.value f, as, ts⟩) k)) :
    Did1 P Γ.gl T (.call ⟨.value f, as, ts⟩) env h n k := by
  unfold heapK at hk
  simp only at hk
  obtain ⟨v, hv, h1⟩ := oK_spec hb hk
  split at h1
  · rename_i g first cap
    obtain ⟨us, h2, hus⟩ := osK_spec hb _ _ h1
    rw [appK_eq, appK_eq] at h2
    obtain ⟨w, h', n', tl, h3, hF, hS⟩ := hc g _ h n k hd h2
    refine ⟨w, h', n', tl, h3, hF, fun β W a o ho r hs hf K hK => ?_⟩
    have hfm : f ∈ (Op.call ⟨.value f, as, ts⟩).operands := by simp [Op.operands, Call.operands]
    obtain ⟨u', c', e1, hu, hcp⟩ := (hv.vr hs hfm).fn_inv
    have ha := hus β a _ hs (fun x hx => by
      show x ∈ (#[f] ++ as : Array Operand)
      exact Array.mem_append.2 (.inr (by simpa using hx)))
    have hexec : (execOp a.eval o).run P W = (callFunc g ((u' ++ as.toList.map a.eval) ++ c').toArray).run P W := by
      unfold execOp
      simp only [ho, resolve, e1, Deferred.ofValue, Sem.run_bind, Sem.run_pure, Result.andThen_ok, invoke]
      congr 2
      apply Array.toList_inj.1
      simp
    unfold Oper.wp
    rw [hexec]
    exact hS β W a o _ r ((hu.app ha).app hcp) hf K hK
  · exact absurd h1 hb
theorem heapK_sound {P : Program} {Γ : Ctx} (hΓ : TyOk P Γ) {callK : CallK α} (hc : CallOk P Γ.gl T callK) {env : Env} {h : Mem} {n : Nat} (hd : Dom h.get n) {op : Op} {k : AV → Mem → Nat → List Nat → α} (hk : T (heapK bad Γ callK env h n op k)) :
    Did1 P Γ.gl T op env h n k := by
  have hk0 := hk
  unfold heapK at hk
  split at hk
  case h_1 U x =>
    have hk' : T (tyK bad Γ U fun t => oK bad env x fun p => loadK bad Γ h p t.size fun l => asVarK bad t.agg l fun v => k v h n []) := hk
    obtain ⟨v, p, h1, _, hs⟩ := load_sem hb hΓ (n := n) hk'
    exact ⟨v, h, n, [], h1, Facts.refl _ _, hs h.get (fun _ _ _ => rfl)⟩
  case h_2 => exact store_sem hb hΓ hd hk0
  case h_3 => exact alloc_sem hb hΓ hd hk0
  case h_4 => exact box_sem hb hd hk0
  case h_5 => exact makeSlice_sem hb hΓ hd hk0
  case h_6 => exact buildSlice_sem hb hΓ hd hk0
  case h_7 => exact arrSlice_sem hb hΓ hk0
  case h_8 => exact conv_sem hb hΓ hd hk0
  case h_9 => exact call_sem hb hc hd hk0
  case h_10 s x U V =>
    obtain ⟨t, e, te, ht, hkd, hte, h1⟩ := elK_spec hb hk
    obtain ⟨u, hu, h2⟩ := tyK_spec hb h1
    have hku := (hΓ.ty V u hu).kind
    have hkt := (hΓ.ty U t ht).kind
    rw [hkd] at hkt
    have hU : P.underlying U = some (.slice e) := hkt
    split at h2
    · rename_i q hq
      rw [hq] at hku
      have hV : P.underlying V = some (.slice q) := hku
      obtain ⟨sv, hsv, h3⟩ := oK_spec hb h2
      obtain ⟨xv, hxv, h4⟩ := oK_spec hb h3
      exact append_sem hb hΓ hd hU hV (fun k e => by cases e) hte hsv hxv h4
    · rename_i hq
      rw [hq] at hku
      have hV : P.underlying V = some .string := hku
      obtain ⟨sv, hsv, h3⟩ := oK_spec hb h2
      obtain ⟨xv, hxv, h4⟩ := oK_spec hb h3
      exact append_sem hb hΓ hd hU hV (fun k e => by cases e) hte hsv hxv h4
    · exact absurd h2 hb
  case h_11 s x U V =>
    obtain ⟨t, e, te, ht, hkd, hte, h1⟩ := elK_spec hb hk
    have hkt := (hΓ.ty U t ht).kind
    rw [hkd] at hkt
    have hU : P.underlying U = some (.slice e) := hkt
    obtain ⟨sv, hsv, h3⟩ := oK_spec hb h1
    obtain ⟨xv, hxv, h4⟩ := oK_spec hb h3
    exact copy_sem hb hΓ hd hU hte hsv hxv h4
  case h_12 => exact ustr_sem hb hΓ hd hk0
  case h_13 =>
    obtain ⟨w, h1, hw⟩ := pureK_sound hb hΓ hk
    exact Did1.pure h1 hw
end
end Go.Proofs.YtcimgilfogeebaaGreatDoor.VM
