/- VM, 12: append, copy, texts made of bytes. -/
import Derived.Test.YtcimgilfogeebaaGreatDoorV11
import Derived.Laws.IdiomStrings
import Derived.Lib.UnsafeStr
set_option linter.unusedVariables false
set_option linter.unusedSimpArgs false
namespace Go.Proofs.YtcimgilfogeebaaGreatDoor.VM
open Go Go.RowKit Go.Proofs.YtcimgilfogeebaaGreatDoor

/-- append where there is room -/
theorem run_append_in {P : Program} {W W' : World} {U V : TypeId} {e : TypeId} {te : TI} (hU : P.underlying U = some (.slice e)) {d : TypeDesc} (hV : P.underlying V = some d) (hd : ∀ k, d ≠ .int k) (hte : TIOk P e te) {a : Addr} {len c m : Nat} {y : Value} {ty : TypeId}
    (hl : (Builtin.lenOf y).run P W = .ok m W) {new : List Value} (hf : (Builtin.firstCells te.size m y).run P W = .ok new.toArray W) (hr : len + m ≤ c) (hs : (storeCells (a.add (len * te.size)) new).run P W = .ok () W') :
    (Builtin.append_ #[U, V] ty #[.slice (some a) len c, y]).run P W = .ok (.slice (some a) (len + m) c) W' := by
  have hz : (match d with | .int _ => true | _ => false) = false := by cases d <;> first | rfl | exact absurd rfl (hd _)
  unfold Builtin.append_
  simp only [List.getElem?_toArray, List.getElem?_cons_zero, List.getElem?_cons_succ, Sem.run_bind, run_underlying hU, run_underlying hV, Result.andThen_ok, hte.size, Sem.run_pure]
  simp [hz, hl, hr, hf, hs]
theorem run_append_nil0 {P : Program} {W : World} {U V : TypeId} {e : TypeId} {te : TI} (hU : P.underlying U = some (.slice e)) {d : TypeDesc} (hV : P.underlying V = some d) (hd : ∀ k, d ≠ .int k) (hte : TIOk P e te) {y : Value} {ty : TypeId}
    (hl : (Builtin.lenOf y).run P W = .ok 0 W) {new : List Value} (hf : (Builtin.firstCells te.size 0 y).run P W = .ok new.toArray W) :
    (Builtin.append_ #[U, V] ty #[.slice none 0 0, y]).run P W = .ok (.slice none 0 0) W := by
  have hz : (match d with | .int _ => true | _ => false) = false := by cases d <;> first | rfl | exact absurd rfl (hd _)
  unfold Builtin.append_
  simp only [List.getElem?_toArray, List.getElem?_cons_zero, List.getElem?_cons_succ, Sem.run_bind, run_underlying hU, run_underlying hV, Result.andThen_ok, hte.size, Sem.run_pure]
  simp [hz, hl, hf]
/-- append where there is none -/
theorem run_append_out {P : Program} {W : World} {U V : TypeId} {e : TypeId} {te : TI} (hU : P.underlying U = some (.slice e)) {d : TypeDesc} (hV : P.underlying V = some d) (hd : ∀ k, d ≠ .int k) (hte : TIOk P e te) {b : Option Addr} {len c m : Nat} {y : Value} {ty : TypeId}
    (hl : (Builtin.lenOf y).run P W = .ok m W) {old new : List Value} (hfo : (Builtin.firstCells te.size len (.slice b len c)).run P W.drew = .ok old.toArray W.drew) (hf : (Builtin.firstCells te.size m y).run P W.drew = .ok new.toArray W.drew) (hr : c < len + m)
    (h1 : len + m < 10000000000000) (h2 : (len + m) * te.bytes < 10000000000000) :
    ∃ (c' : Nat) (sp : List Value), len + m ≤ c' ∧ (te.size = 0 ∨ (old.length = len * te.size → new.length = m * te.size → (old ++ new ++ sp).length = c' * te.size)) ∧
      (Builtin.append_ #[U, V] ty #[.slice b len c, y]).run P W = .ok (.slice (some ⟨W.heap.size, 0, none⟩) (len + m) c') (W.drew.alloc (.cells (old ++ new ++ sp).toArray e)) := by
  have hz : (match d with | .int _ => true | _ => false) = false := by cases d <;> first | rfl | exact absurd rfl (hd _)
  obtain ⟨z, zs, hz1, hz2, hz3, _⟩ := hte.zero
  obtain ⟨i0, z0, hi0, hz0, hsz, hby⟩ := hte.info
  have hmax : IntKind.i64.max = 9223372036854775807 := rfl
  have hcap : len + m ≤ grownCap W (len + m) c e := by
    unfold grownCap Question.cut; exact Nat.le_add_right _ _
  have hg := growslice_fits (need := len + m) (old := c) (bytes := te.bytes) hr (by omega)
  refine ⟨grownCap W (len + m) c e, (Builtin.zeroCells z.cells (grownCap W (len + m) c e - (len + m))).toList, hcap, ?_, ?_⟩
  · rcases Nat.eq_zero_or_pos te.size with h0 | hpos
    · exact .inl h0
    · refine .inr fun ho hn => ?_
      have hzl : z.cells.size = te.size := by rw [hz2]; simp [← hz3.1, hte.zlen]
      have : (Builtin.zeroCells z.cells (grownCap W (len + m) c e - (len + m))).size = (grownCap W (len + m) c e - (len + m)) * te.size := by
        unfold Builtin.zeroCells; simp [hzl]
      simp only [List.length_append, ho, hn, Array.length_toList, this]
      rw [← Nat.add_mul, ← Nat.add_mul]
      congr 1; omega
  · have hlt : ¬ (len + m ≤ c) := by omega
    have hgc : ∀ (h : Nat), W.tape W.drawn (.appendCap (len + m) c e) = h → (Question.appendCap (len + m) c e).cut h = grownCap W (len + m) c e := fun h hh => by rw [← hh]; rfl
    unfold Builtin.append_
    simp only [List.getElem?_toArray, List.getElem?_cons_zero, List.getElem?_cons_succ, Sem.run_bind, run_underlying hU, run_underlying hV, Result.andThen_ok, hte.size, Sem.run_pure]
    have hbig : ¬ (((len + m : Nat) : Int) > IntKind.i64.max ∧ (false = true ∨ te.bytes = 0)) := by rw [hmax]; intro h; omega
    have hbig2 : ¬ (IntKind.i64.max < (len : Int) + (m : Int)) := by rw [hmax]; omega
    have hsp : (Builtin.zeroCells z.cells (grownCap W (len + m) c e - (len + m))) = (Builtin.zeroCells z.cells (grownCap W (len + m) c e - (len + m))).toList.toArray := by simp
    have hroom : ∀ (b : Nat) (w : World), (askRoom b).run P w = .ok () w := fun b w => by unfold askRoom mark; split <;> rfl
    simp [hz, hl, hlt, typeInfo, hi0, hby, hbig2, Nat.not_lt.2 hg, choose, Sem.run, Question.forced]
    rw [if_neg (by omega)]
    simp [hfo, hf, hz1, newRow, grownCap]
    congr 2
    apply Array.ext'
    simp

theorem part_write {β : Type} (cs new : List β) (off len : Nat) (h : off + len ≤ cs.length) : (cs.drop off).take len ++ new = ((cs.take (off + len) ++ new ++ cs.drop (off + len + new.length)).drop off).take (len + new.length) := by
  rw [List.append_assoc, List.drop_append_of_le_length (by simp; omega), List.drop_take, show off + len - off = len by omega]
  have hA : ((cs.drop off).take len).length = len := by simp; omega
  generalize (cs.drop off).take len = A at hA
  subst hA
  rw [List.take_append, List.take_of_length_le (by omega), show A.length + new.length - A.length = new.length by omega, List.take_left]
/-- a part of a block, seen as a block -/
theorem BlkIs.part {β : Be} {W : World} {p : Pl} {b : Blk} {c : Array Value} {U : TypeId} {fz : Nat × Nat} (h : BlkIs β W p b c U fz) (off len : Nat) (hle : off + len ≤ b.cells.length) (b' : Blk) (hr : b'.ro = false → b.ro = false) (hx : b'.bx = false) (ht : ∀ V, b'.ty = some V → b.ty = some V) (hc : b'.cells = (b.cells.drop off).take len) :
    BlkIs β W ⟨p.b, p.s + off, p.z⟩ b' c U fz := by
  have hf := h.fit
  have hlen : b'.cells.length = len := by rw [hc]; simp; omega
  refine ⟨h.obj, h.size, fun hro => h.free (hr hro), fun V hV => h.ty V (ht V hV), (fun hV => by rw [hx] at hV; cases hV), by rw [hlen]; show p.s + off + len ≤ p.z; omega, ?_⟩
  have h1 := (h.cells.drop off).take len
  rw [List.drop_take, List.drop_drop, List.take_take, Nat.min_eq_left (by omega)] at h1
  rw [hlen, hc]
  exact h1

section
variable {α : Type} {bad : α} {T : α → Prop} (hb : ¬ T bad)
include hb
omit hb in
theorem sameTy_some {ty : Option Nat} {e V : Nat} (h : sameTy ty e = some V) : V = e ∧ ty = some e := by
  unfold sameTy at h
  split at h
  · split at h
    · rename_i h1
      have := Nat.eq_of_beq_eq_true h1
      subst this
      cases h; exact ⟨rfl, rfl⟩
    · cases h
  · cases h
theorem append_sem {P : Program} {Γ : Ctx} (hΓ : TyOk P Γ) {env : Env} {h : Mem} {n : Nat} (hd : Dom h.get n) {U V : TypeId} {s x : Operand} {e : Nat} {te : TI} (hU : P.underlying U = some (.slice e)) {d : TypeDesc} (hV : P.underlying V = some d) (hdd : ∀ k, d ≠ .int k) (hte : Γ.ty e = some te)
    {sv xv : AV} (hsv : opv env s sv) (hxv : opv env x xv) {k : AV → Mem → Nat → List Nat → α} (hk : T (appendK bad h n e te sv xv k)) : Did1 P Γ.gl T (.call ⟨.builtin .append, #[s, x], #[U, V]⟩) env h n k := by
  unfold appendK at hk
  obtain ⟨new, m, h1, hnl, hsrc⟩ := srcK_spec hb hk
  have hT := hΓ.ty e te hte
  have hexec : ∀ (a : Act) (o : Oper) (W : World), o.op = .call ⟨.builtin .append, #[s, x], #[U, V]⟩ → (execOp a.eval o).run P W = ((Builtin.append_ #[U, V] o.type #[a.eval s, a.eval x]).run P W).andThen fun y W' => .ok (.value y) W' := fun a o W ho => by
    unfold execOp
    simp only [ho, resolve, invoke, builtin, Sem.run_bind, Sem.run_pure, Result.andThen_ok, List.map_toArray, List.map_cons, List.map_nil]
  have hsm : s ∈ (Op.call ⟨.builtin .append, #[s, x], #[U, V]⟩).operands := by simp [Op.operands, Call.operands]
  have hxm : x ∈ (Op.call ⟨.builtin .append, #[s, x], #[U, V]⟩).operands := by simp [Op.operands, Call.operands]
  split at h1
  · -- nothing was there
    rename_i hpos hone
    cases m with
    | zero =>
      refine ⟨_, h, n, [], h1, Facts.refl _ _, fun β W a o ho r hs hf K hK => ?_⟩
      obtain ⟨hl, l', hv, hfc⟩ := src_run (P := P) r (hxv.vr hs hxm) hnl hsrc
      have es := (hsv.vr hs hsm).nils_inv
      refine wp_value (y := .slice none 0 0) (W' := W) ?_ (hK β W _ (Post.refl r n) .nils)
      rw [hexec a o W ho, es, run_append_nil0 hU hV hdd hT hl (hfc 0 W (Nat.le_refl _) (fun _ _ => rfl))]; rfl
    | succ m' =>
      simp only at h1
      split at h1
      · rename_i hs1 hs2
        have hs1 : (m' + 1) * te.size < 10000000000000 := small_lt hs1
        have hs2 : (m' + 1) * te.bytes < 10000000000000 := small_lt hs2
        have hpos := Nat.le_of_ble_eq_true hpos
        refine newSl_sem (P := P) (G := Γ.gl) (op := .call ⟨.builtin .append, #[s, x], #[U, V]⟩) hb hd (len := m' + 1) (c := 2 * (m' + 1) + 1) (es := te.size) (ty := some e) (cs := new) (by omega) [] (h0 := h) (fun j => by simp) (fun t ht => by cases ht) (by
          revert h1; simp only [frcN_eq]; intro h1; exact h1) fun β W a o ho r hs => .inl ?_
        obtain ⟨hl, l', hv, hfc⟩ := src_run (P := P) r (hxv.vr hs hxm) hnl hsrc
        have es := (hsv.vr hs hsm).nils_inv
        have hm1 : m' + 1 < 10000000000000 := Nat.lt_of_le_of_lt (Nat.le_mul_of_pos_right _ hpos) hs1
        have htk : l'.take ((m' + 1) * te.size) = l' := List.take_of_length_le (by rw [← hv.1, hnl]; exact Nat.le_refl _)
        have hfn := hfc (m' + 1) W.drew (Nat.le_refl _) (fun _ _ => rfl)
        rw [htk] at hfn
        obtain ⟨c', sp, hc', hsp, hrun⟩ := run_append_out (b := none) (len := 0) (c := 0) (old := []) (ty := o.type) hU hV hdd hT hl (by simp [Builtin.firstCells]) hfn (by omega) (by omega) (by rw [Nat.zero_add]; exact hs2)
        rw [Nat.zero_add] at hc' hrun
        refine ⟨l', sp, e, W.drew.alloc (.cells (l' ++ sp).toArray e), c', hv, (fun V hV => by cases hV; rfl), .inr ⟨m' + 1, rfl, hc'⟩, ?_, ?_, ((Below.refl _ _).drew).alloc (Nat.le_refl _) _, (0, 0), heap_alloc_new W.drew _, fun j hj => frozen_new W.drew _ _ _⟩
        · rcases hsp with h0 | h2
          · omega
          · have := h2 (by simp) (by rw [← hv.1, hnl])
            simpa using this
        · rw [hexec a o W ho, es, hrun]; rfl
      · exact absurd h1 hb
  · -- a slice
    rename_i i off len c es hpos hone
    have hpos := Nat.le_of_ble_eq_true hpos
    split at h1
    · exact absurd h1 hb
    · rename_i hes
      have hes := Nat.eq_of_beq_eq_true hes
      subst hes
      obtain ⟨b, hg, h2⟩ := memK_spec hb h1
      obtain ⟨ro, bx, ty, cells⟩ := b
      simp only [frcN_eq] at h2
      have his : (h.get i).isSome = true := by rw [hg]; rfl
      have hadd : ∀ u, len * te.size + u * te.size = (len + u) * te.size := fun u => by rw [← Nat.add_mul]
      split at h2
      · -- there is room
        rename_i hroom
        have hroom : len + m ≤ c / 2 := Nat.le_of_ble_eq_true hroom
        cases ro with
        | true => exact absurd h2 hb
        | false =>
          rw [lenK_eq] at h2
          simp only at h2
          have fin : ∀ (bx' : Bool) (cs : List AV), off + len * te.size ≤ cells.length → cs = cells.take (off + len * te.size) ++ new ++ cells.drop (off + len * te.size + new.length) → (bx' = true → bx = true ∧ off + len * te.size + new.length ≤ cells.length) →
              T (putM bad h i (some ⟨false, bx', ty, cs⟩) fun h => k (.sl i off (len + m) c te.size) h n [i]) → Did1 P Γ.gl T (.call ⟨.builtin .append, #[s, x], #[U, V]⟩) env h n k := fun bx' cs hle hcs hbx h3 => by
            obtain ⟨h', h4, hh⟩ := putM_spec hb h3
            refine ⟨_, h', n, [i], h4, Facts.upd hh his (hd.lt his), fun β W a o ho r hs hf K hK => ?_⟩
            obtain ⟨hl, l', hv, hfc⟩ := src_run (P := P) r (hxv.vr hs hxm) hnl hsrc
            obtain ⟨p, c', hp, e1, hn, hcc, hz⟩ := (hsv.vr hs hsm).sl_inv
            obtain ⟨q', ca, V', fz, hq', hi⟩ := r.at_ i _ hg
            rw [hp] at hq'; cases hq'
            have hcap : len + m ≤ c' := by rcases hcc with rfl | ⟨q, rfl, hq⟩ <;> omega
            have hmul : (len + m) * te.size ≤ c' * te.size := Nat.mul_le_mul_right _ hcap
            have hz2 : p.s + (off + len * te.size) + new.length ≤ p.z := by rw [hnl]; have := hadd m; omega
            have htk : l'.take (m * te.size) = l' := List.take_of_length_le (by rw [← hv.1, hnl]; exact Nat.le_refl _)
            have hfn := hfc m W (Nat.le_refl _) (fun _ _ => rfl)
            rw [htk] at hfn
            have hll : l'.length = new.length := hv.1.symm
            have hst : (storeCells ⟨p.b, p.s + (off + len * te.size), none⟩ l' 0).run P W = .ok () (W.setCells p.b (p.s + (off + len * te.size) + 0) l') :=
              run_storeCells_cells (P := P) p.b _ _ 0 W (fun j hj => by
                rw [Nat.add_zero, cell_of_row W p.b _ ca V' fz hi.obj, Array.getElem?_eq_getElem (by rw [hi.size]; omega)]; rfl) (fun j hj => by
                rw [Nat.add_zero]; exact hi.free rfl _ (by omega)) (hv.ones hone)
            rw [Nat.add_zero] at hst
            have hw := hi.write hv (off := off + len * te.size) hle (by omega) ⟨false, bx', ty, cs⟩ (fun h => h) hcs (fun V hV => hV) hbx
            have hrun := run_append_in (ty := o.type) (a := ⟨p.b, p.s + off, none⟩) hU hV hdd hT hl hfn hcap (W' := W.setCells p.b (p.s + (off + len * te.size)) l') (by rw [Addr.add_mid, Nat.add_assoc]; exact hst)
            refine wp_value (y := .slice (some ⟨p.b, p.s + off, none⟩) (len + m) c') ?_ (hK β _ _ (Post.upd r his hp (kept_setCells p.b _ _ W) ⟨p, _, _, _, hp, hw⟩ hh n) (.sl i off (len + m) c c' te.size p hp hroom hcc hz))
            rw [hexec a o W ho, e1, hrun]; rfl
          split at h2
          · rename_i hz
            have hz : cells.length = off + len * te.size := Nat.eq_of_beq_eq_true hz
            rw [appK_eq] at h2
            exact fin false (cells ++ new) (by omega) (by rw [← hz, List.take_length, List.drop_eq_nil_of_le (by omega), List.append_nil]) (fun e => by cases e) h2
          · obtain ⟨h3, hle⟩ := wrK_spec hb _ _ _ _ h2
            have hle : off + len * te.size + new.length ≤ cells.length := hle
            exact fin bx _ (by omega) rfl (fun e => ⟨e, hle⟩) h3
      · rename_i hroom
        split at h2
        · rename_i hs1 hs2
          have hs1 : (len + m) * te.size < 10000000000000 := small_lt hs1
          have hs2 : (len + m) * te.bytes < 10000000000000 := small_lt hs2
          have hm1 : len + m < 10000000000000 := Nat.lt_of_le_of_lt (Nat.le_mul_of_pos_right _ hpos) hs1
          obtain ⟨h3, hle⟩ := cutK_spec hb _ _ _ _ h2
          have hle : off + len * te.size ≤ cells.length := hle
          rw [appK_eq] at h3
          have hroom : c / 2 < len + m := by
            have : ¬ (len + m ≤ c / 2) := fun e => by
              have : Nat.ble (Nat.add len m) (Nat.div c 2) = true := Nat.ble_eq_true_of_le e
              rw [this] at hroom; cases hroom
            omega
          have grow : ∀ β W a o, o.op = Op.call ⟨.builtin .append, #[s, x], #[U, V]⟩ → HR Γ.gl β h.get W → Sees β env a (Op.call ⟨.builtin .append, #[s, x], #[U, V]⟩).operands → ∀ p c', β i = some p → a.eval s = .slice (some ⟨p.b, p.s + off, none⟩) len c' → c' < len + m →
              ∃ (ws sp : List Value) (W' : World) (c'' : Nat), VL β ((cells.drop off).take (len * te.size) ++ new) ws ∧ len + m ≤ c'' ∧ (ws ++ sp).length = c'' * te.size ∧ (execOp a.eval o).run P W = .ok (.value (.slice (some ⟨W.heap.size, 0, none⟩) (len + m) c'')) W' ∧ Below W.heap.size W W' ∧
                W'.heap[W.heap.size]? = some (.cells (ws ++ sp).toArray e (0, 0)) ∧ ∀ j, W'.frozen? ⟨W.heap.size, j, none⟩ = false := fun β W a o ho r hs p c' hp e1 hlt => by
            obtain ⟨hl, l', hv, hfc⟩ := src_run (P := P) r (hxv.vr hs hxm) hnl hsrc
            have hol : ((cells.drop off).take (len * te.size)).length = len * te.size := by simp; omega
            obtain ⟨_, lo, hvo, hfo⟩ := src_run (P := P) r (hsv.vr hs hsm) hol (.inr (.inl ⟨i, off, c, _, rfl, hg, hle, rfl⟩))
            have htk : l'.take (m * te.size) = l' := List.take_of_length_le (by rw [← hv.1, hnl]; exact Nat.le_refl _)
            have htko : lo.take (len * te.size) = lo := List.take_of_length_le (by rw [← hvo.1, hol]; exact Nat.le_refl _)
            have hfn := hfc m W.drew (Nat.le_refl _) (fun _ _ => rfl)
            have hfo' := hfo len W.drew (Nat.le_refl _) (fun _ _ => rfl)
            rw [htk] at hfn
            rw [htko, e1] at hfo'
            obtain ⟨c'', sp, hc', hsp, hrun⟩ := run_append_out (ty := o.type) hU hV hdd hT hl hfo' hfn hlt hm1 hs2
            refine ⟨lo ++ l', sp, W.drew.alloc (.cells (lo ++ l' ++ sp).toArray e), c'', hvo.app hv, hc', ?_, ?_, ((Below.refl _ _).drew).alloc (Nat.le_refl _) _, heap_alloc_new W.drew _, fun j => frozen_new W.drew _ _ _⟩
            · rcases hsp with h0 | h4
              · omega
              · exact h4 (by rw [← hvo.1, hol]) (by rw [← hv.1, hnl])
            · rw [hexec a o W ho, e1, hrun]; rfl
          split at h3
          · rename_i hev
            have hev : c % 2 = 0 := Nat.eq_of_beq_eq_true hev
            refine newSl_sem (P := P) (G := Γ.gl) (op := .call ⟨.builtin .append, #[s, x], #[U, V]⟩) hb hd (len := len + m) (c := 2 * (len + m) + 1) (es := te.size) (ty := some e) (cs := (cells.drop off).take (len * te.size) ++ new) (by omega) [] (h0 := h) (fun j => by simp) (fun t ht => by cases ht) h3 fun β W a o ho r hs => .inl ?_
            obtain ⟨p, c', hp, e1, hn, hcc, hz⟩ := (hsv.vr hs hsm).sl_inv
            have hlt : c' < len + m := by rcases hcc with rfl | ⟨q, rfl, hq⟩ <;> omega
            obtain ⟨ws, sp, W', c'', g1, g2, g3, g4, g5, g6, g7⟩ := grow β W a o ho r hs p c' hp e1 hlt
            exact ⟨ws, sp, e, W', c'', g1, (fun V hV => by cases hV; rfl), .inr ⟨len + m, rfl, g2⟩, g3, g4, g5, (0, 0), g6, fun j _ => g7 j⟩
          · cases ro with
            | true => exact absurd h3 hb
            | false =>
              obtain ⟨h0, h4, hh0⟩ := putM_spec hb h3
              refine newSl_sem (P := P) (G := Γ.gl) (op := .call ⟨.builtin .append, #[s, x], #[U, V]⟩) hb hd (len := len + m) (c := 2 * (len + m) + 1) (es := te.size) (ty := sameTy ty e) (cs := (cells.drop off).take (len * te.size) ++ new) (by omega) [i] (h0 := h0)
                (fun j => by rw [hh0]; by_cases e : j = i <;> simp [e]) (fun t ht => by rw [List.mem_singleton.1 ht]; exact ⟨hd.lt his, his⟩) h4 fun β W a o ho r hs => ?_
              obtain ⟨p, c', hp, e1, hn, hcc, hz⟩ := (hsv.vr hs hsm).sl_inv
              by_cases hcap : len + m ≤ c'
              · -- it stays where it is
                refine .inr ?_
                obtain ⟨hl, l', hv, hfc⟩ := src_run (P := P) r (hxv.vr hs hxm) hnl hsrc
                obtain ⟨q', ca, V', fz, hq', hi⟩ := r.at_ i _ hg
                rw [hp] at hq'; cases hq'
                have hmul : (len + m) * te.size ≤ c' * te.size := Nat.mul_le_mul_right _ hcap
                have hz2 : p.s + (off + len * te.size) + new.length ≤ p.z := by rw [hnl]; have := hadd m; omega
                have htk : l'.take (m * te.size) = l' := List.take_of_length_le (by rw [← hv.1, hnl]; exact Nat.le_refl _)
                have hfn := hfc m W (Nat.le_refl _) (fun _ _ => rfl)
                rw [htk] at hfn
                have hll : l'.length = new.length := hv.1.symm
                have hst : (storeCells ⟨p.b, p.s + (off + len * te.size), none⟩ l' 0).run P W = .ok () (W.setCells p.b (p.s + (off + len * te.size) + 0) l') :=
                  run_storeCells_cells (P := P) p.b _ _ 0 W (fun j hj => by
                    rw [Nat.add_zero, cell_of_row W p.b _ ca V' fz hi.obj, Array.getElem?_eq_getElem (by rw [hi.size]; omega)]; rfl) (fun j hj => by
                    rw [Nat.add_zero]; exact hi.free rfl _ (by omega)) (hv.ones hone)
                rw [Nat.add_zero] at hst
                have hw := hi.write hv (off := off + len * te.size) hle (by omega) ⟨false, false, ty, cells.take (off + len * te.size) ++ new ++ cells.drop (off + len * te.size + new.length)⟩ (fun h => h) rfl (fun V hV => hV) (fun e => by cases e)
                have hwp := hw.part off (len * te.size + new.length) (by simp; omega) ⟨false, false, sameTy ty e, (cells.drop off).take (len * te.size) ++ new⟩ (fun h => h) rfl (fun V hV => by
                  obtain ⟨rfl, h5⟩ := sameTy_some hV; exact h5) (by
                  exact part_write cells new off (len * te.size) hle)
                have hrun := run_append_in (ty := o.type) (a := ⟨p.b, p.s + off, none⟩) hU hV hdd hT hl hfn hcap (W' := W.setCells p.b (p.s + (off + len * te.size)) l') (by rw [Addr.add_mid, Nat.add_assoc]; exact hst)
                exact ⟨i, p, l', _, c', off, ⟨p.b, p.s + off, p.z⟩, rfl, hp, rfl, rfl, rfl, .inr ⟨len + m, rfl, hcap⟩, by simpa using hz, by rw [hexec a o W ho, e1, hrun]; rfl, kept_setCells p.b _ _ W, _, _, _, hwp⟩
              · refine .inl ?_
                obtain ⟨ws, sp, W', c'', g1, g2, g3, g4, g5, g6, g7⟩ := grow β W a o ho r hs p c' hp e1 (by omega)
                exact ⟨ws, sp, e, W', c'', g1, (fun V hV => (sameTy_some hV).1.symm), .inr ⟨len + m, rfl, g2⟩, g3, g4, g5, (0, 0), g6, fun j _ => g7 j⟩
        · exact absurd h2 hb
  · exact absurd h1 hb
end
end Go.Proofs.YtcimgilfogeebaaGreatDoor.VM
