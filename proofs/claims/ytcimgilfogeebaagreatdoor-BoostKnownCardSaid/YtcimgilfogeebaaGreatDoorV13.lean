/- VM, 13: copy, texts made of bytes, calls. -/
import Derived.Test.YtcimgilfogeebaaGreatDoorV12
import Derived.Lib.ConvBytes
set_option linter.unusedVariables false
set_option linter.unusedSimpArgs false
namespace Go.Proofs.YtcimgilfogeebaaGreatDoor.VM
open Go Go.RowKit Go.Proofs.YtcimgilfogeebaaGreatDoor

/-- what a call does -/
def FnSem (P : Program) (G : GlF) (f : FuncId) (as : List AV) (h : HpF) (lo hi : Nat) (v : AV) (h' : HpF) (tl : List Nat) : Prop :=
  ∀ (β : Be) (W : World) (a : Act) (o : Oper) (ys : List Value), HR G β h W → VL β as ys → Fresh β lo →
    ∀ K : Act → World → Prop, (∀ β' W' y, Post G β h W lo hi tl β' h' W' → VR β' v y → K (a.put o.dst y) W') → o.upon P a K QF ((callFunc f ys.toArray).run P W)
def CallOk {α : Type} (P : Program) (G : GlF) (T : α → Prop) (callK : CallK α) : Prop :=
  ∀ f as (h : Mem) n k, Dom h.get n → T (callK f as h n k) → ∃ v h' n' tl, T (k v h' n' tl) ∧ Facts h.get n h'.get n' tl ∧ FnSem P G f as h.get n n' v h'.get tl

theorem bytes_inv {β : Be} : ∀ {bs : List Nat} {l' : List Value}, VL β (bs.map fun b => AV.int .u8 (.ofNat b)) l' → (∀ b ∈ bs, b < 256) → l' = (bs.map UInt8.ofNat).map fun u => Value.int .u8 u.toNat
  | [], l', h, _ => h.nil_inv
  | b :: bs, l', h, hb => by
    obtain ⟨y, r, rfl, hy, hr⟩ := VL.cons_inv (x := AV.int .u8 (.ofNat b)) (l := bs.map fun b => AV.int .u8 (.ofNat b)) h
    rw [hy.int_inv, bytes_inv hr (fun x hx => hb x (List.mem_cons_of_mem _ hx))]
    have : (UInt8.ofNat b).toNat = b := by
      rw [UInt8.toNat_ofNat']; exact Nat.mod_eq_of_lt (hb b (List.mem_cons_self ..))
    simp [this]
theorem toNat_ofNat_map : ∀ {bs : List Nat}, (∀ b ∈ bs, b < 256) → (bs.map UInt8.ofNat).map UInt8.toNat = bs
  | [], _ => rfl
  | b :: bs, h => by
    rw [List.map_cons, List.map_cons, toNat_ofNat_map (fun x hx => h x (List.mem_cons_of_mem _ hx)), UInt8.toNat_ofNat', Nat.mod_eq_of_lt (h b (List.mem_cons_self ..))]
theorem liesAt_bytes_at {P : Program} {e : TypeId} (hc : P.cellsOf e = 1) (count off n : Nat) (h : off + n ≤ count) : liesAt P P.depth e count off e n = true := by
  have hd : P.depth = (2 * (P.types.size + Made.depth) + 1) + 1 := rfl
  rw [hd]
  simp only [liesAt, Bool.or_eq_true]
  left
  rw [hd]
  simp [rowAt, hc, h, sameLayout, Nat.mod_one]
section
variable {α : Type} {bad : α} {T : α → Prop} (hb : ¬ T bad)
include hb
theorem conv_sem {P : Program} {Γ : Ctx} (hΓ : TyOk P Γ) {callK : CallK α} {env : Env} {h : Mem} {n : Nat} (hd : Dom h.get n) {S U : TypeId} {x : Operand} {k : AV → Mem → Nat → List Nat → α} (hk : T (heapK bad Γ callK env h n (.convert S U x) k)) :
    Did1 P Γ.gl T (.convert S U x) env h n k := by
  unfold heapK at hk
  simp only at hk
  obtain ⟨v, hv, h0⟩ := oK_spec hb hk
  obtain ⟨s, hs, h1⟩ := tyK_spec hb h0
  obtain ⟨t, ht, h2⟩ := tyK_spec hb h1
  have hks := (hΓ.ty S s hs).kind
  have hkt := (hΓ.ty U t ht).kind
  split at h2
  · rename_i e hkd1 hkd2
    rw [hkd1] at hks
    rw [hkd2] at hkt
    have hS : P.underlying S = some (.slice e) := hks
    have hU : P.underlying U = some .string := hkt
    obtain ⟨te, hte, h3⟩ := tyK_spec hb h2
    have hke := (hΓ.ty e te hte).kind
    split at h3
    · rename_i hkd
      rw [hkd] at hke
      have hE : P.underlying e = some (.int .u8) := hke
      refine Did1.pure h3 fun β a W o ho hsee => ⟨.string .empty, ?_, .str _ _ rfl⟩
      have e1 := (hv.vr hsee (x := x) (by simp [Op.operands])).nils_inv
      unfold execOp
      simp [ho, e1, run_convert_bytes_string W S U e none 0 0 hS hE hU, Conv.bytesToString]
    · rename_i i off m c es hkd
      rw [hkd] at hke
      have hE : P.underlying e = some (.int .u8) := hke
      obtain ⟨l, m', h4, hl, hsrc⟩ := srcK_spec hb h3
      obtain ⟨bs, h5, hbs, h256⟩ := cellBytes_spec hb _ _ h4
      refine ⟨_, h, n, [], h5, Facts.refl _ _, fun β W a o ho r hsee hf K hK => ?_⟩
      have hvr := hv.vr hsee (x := x) (by simp [Op.operands])
      rcases hsrc with ⟨h6, _⟩ | ⟨i', off', c', b, h6, hg, hle, rfl⟩ | ⟨_, h6, _⟩
      · cases h6
      · cases h6
        obtain ⟨p, cc, hp, e1, _⟩ := hvr.sl_inv
        obtain ⟨q, ca, V, fz, hq, hi⟩ := r.at_ i b hg
        rw [hp] at hq; cases hq
        have hv2 := (hi.cells.drop off).take (m * 1)
        rw [List.drop_take, List.drop_drop, List.take_take, Nat.min_eq_left (by omega), hbs] at hv2
        have hcs := bytes_inv hv2 h256
        have hr := Block.range hi.obj (p.s + off) (m * 1)
        rw [hcs] at hr
        have hlen : (bs.map UInt8.ofNat).length = m := by
          have := congrArg List.length hbs
          rw [hl] at this
          simpa using this.symm
        have hrun := run_convert_bytes_back (P := P) W S U e ⟨p.b, p.s + off, none⟩ cc (bs.map UInt8.ofNat) hS hE hU (fun j hj => by
          rw [Addr.add_mid]
          exact hr j _ (by rw [List.getElem?_map, List.getElem?_eq_getElem hj]; rfl))
        rw [hlen] at hrun
        refine wp_value (y := .string ⟨(bs.map UInt8.ofNat).toArray⟩) (W' := W) ?_ (hK β W _ (Post.refl r n) (.str _ _ (by simpa using toNat_ofNat_map h256)))
        unfold execOp
        simp only [ho, e1, Sem.run_bind, hrun, Result.andThen_ok, Sem.run_pure]
      · cases h6
    · exact absurd h3 hb
  · rename_i e hkd1 hkd2
    rw [hkd1] at hks
    rw [hkd2] at hkt
    have hS : P.underlying S = some .string := hks
    have hU : P.underlying U = some (.slice e) := hkt
    obtain ⟨te, hte, h3⟩ := tyK_spec hb h2
    have hke := (hΓ.ty e te hte).kind
    split at h3
    · rename_i l hkd
      rw [hkd] at hke
      have hE : P.underlying e = some (.int .u8) := hke
      rw [lenK_eq] at h3
      split at h3
      · rename_i hsm
        rw [byteCells_eq] at h3
        refine newSl_sem (P := P) (G := Γ.gl) (op := .convert S U x) hb hd (len := l.length) (c := 2 * l.length + 1) (es := 1) (ty := some e) (cs := l.map fun b => .int .u8 (.ofNat b)) (by omega) [] (h0 := h) (fun j => by simp) (fun t ht => by cases ht) (by
          revert h3; simp only [frcN_eq]; intro h3; exact h3) fun β W a o ho r hsee => .inl ?_
        obtain ⟨s, e1, hs⟩ := (hv.vr hsee (x := x) (by simp [Op.operands])).str_inv
        have hrun := Lib.run_convert_string_bytes (P := P) W S U e s hS hU hE
        have hlen : l.length = s.size := by rw [← hs, List.length_map]; rfl
        have hcap : s.size ≤ grownCap W s.size 0 e := grownCap_ge _ _ _ _
        have hvl : ∀ (bs : List UInt8), VL β ((bs.map UInt8.toNat).map fun b => AV.int .u8 (.ofNat b)) (bs.map fun u => Value.int .u8 u.toNat) := fun bs => by
          induction bs with
          | nil => exact VL.nil β
          | cons b bs ih => exact VL.cons (.int _ _) ih
        have hcells : Lib.bytesCells W e s = ((s.data.toList.map fun (u : UInt8) => Value.int .u8 u.toNat) ++ List.replicate (grownCap W s.size 0 e - s.size) (Value.int .u8 0)).toArray := by
          apply Array.toList_inj.1
          simp [Lib.bytesCells]
        have hcs : (Lib.bytesCells W e s).size = grownCap W s.size 0 e := by
          simp [Lib.bytesCells]; omega
        have hobj := Lib.bytesWorld_at_new W e s
        refine ⟨s.data.toList.map (fun (u : UInt8) => Value.int .u8 u.toNat), List.replicate (grownCap W s.size 0 e - s.size) (Value.int .u8 0), e, Lib.bytesWorld W e s, grownCap W s.size 0 e, by rw [← hs]; exact hvl _, (fun V hV => by cases hV; rfl), .inr ⟨l.length, rfl, by omega⟩, ?_, ?_, ?_, _, by rw [← hcells]; exact hobj, fun j hj => ?_⟩
        · have := congrArg Array.size hcells
          rw [hcs] at this
          simpa using this.symm
        · unfold execOp
          simp only [ho, e1, Sem.run_bind, hrun, Result.andThen_ok, Sem.run_pure, hlen]
        · refine ⟨?_, ?_, ?_, ?_, fun k hk => Lib.bytesWorld_at_old W e s k hk⟩
          all_goals simp [Lib.bytesWorld, World.freeze, World.alloc, World.drew, -World.alloc_eq, -World.drew_eq]
        · rw [World.frozen?, hobj]
          simp [hcs]
          omega
      · exact absurd h3 hb
    · exact absurd h3 hb
  · obtain ⟨w, h3, hw⟩ := pureK_sound hb hΓ h2
    exact Did1.pure h3 hw
theorem copy_sem {P : Program} {Γ : Ctx} (hΓ : TyOk P Γ) {env : Env} {h : Mem} {n : Nat} (hd : Dom h.get n) {U V : TypeId} {s x : Operand} {e : Nat} {te : TI} (hU : P.underlying U = some (.slice e)) (hte : Γ.ty e = some te)
    {sv xv : AV} (hsv : opv env s sv) (hxv : opv env x xv) {k : AV → Mem → Nat → List Nat → α} (hk : T (copyK bad h n te sv xv k)) : Did1 P Γ.gl T (.call ⟨.builtin .copy, #[s, x], #[U, V]⟩) env h n k := by
  have hT := hΓ.ty e te hte
  have hexec : ∀ (a : Act) (o : Oper) (W : World), o.op = .call ⟨.builtin .copy, #[s, x], #[U, V]⟩ → (execOp a.eval o).run P W = ((Builtin.copy_ #[U, V] o.type #[a.eval s, a.eval x]).run P W).andThen fun y W' => .ok (.value y) W' := fun a o W ho => by
    unfold execOp
    simp only [ho, resolve, invoke, builtin, Sem.run_bind, Sem.run_pure, Result.andThen_ok, List.map_toArray, List.map_cons, List.map_nil]
  have hsm : s ∈ (Op.call ⟨.builtin .copy, #[s, x], #[U, V]⟩).operands := by simp [Op.operands, Call.operands]
  have hxm : x ∈ (Op.call ⟨.builtin .copy, #[s, x], #[U, V]⟩).operands := by simp [Op.operands, Call.operands]
  unfold copyK at hk
  cases sv <;> try exact absurd hk hb
  · rename_i i off len c es
    obtain ⟨new, m, h1, hnl, hsrc⟩ := srcK_spec hb hk
    split at h1
    · rename_i hpos hone
      obtain ⟨b, hg, h2⟩ := memK_spec hb h1
      obtain ⟨ro, bx, ty, cells⟩ := b
      simp only at h2
      split at h2
      · rename_i hes
        have hes := Nat.eq_of_beq_eq_true hes
        subst hes
        rw [frcN_eq] at h2
        obtain ⟨h3, hq⟩ := takeK_spec hb _ _ _ h2
        obtain ⟨h4, hle⟩ := wrK_spec hb _ _ _ _ h3
        obtain ⟨h', h5, hh⟩ := putM_spec hb h4
        have his : (h.get i).isSome = true := by rw [hg]; rfl
        refine ⟨_, h', n, [i], h5, Facts.upd hh his (hd.lt his), fun β W a o ho r hs hf K hK => ?_⟩
        obtain ⟨hl, l', hv, hfc⟩ := src_run (P := P) r (hxv.vr hs hxm) hnl hsrc
        obtain ⟨p, c', hp, e1, _⟩ := (hsv.vr hs hsm).sl_inv
        obtain ⟨q', ca, V', fz, hq', hi⟩ := r.at_ i _ hg
        rw [hp] at hq'; cases hq'
        have hfit : p.s + cells.length ≤ p.z := hi.fit
        have hqm : Nat.min m len ≤ m := Nat.min_le_left _ _
        have hfn := hfc (Nat.min m len) W hqm (fun _ _ => rfl)
        have hv' := hv.take (Nat.min m len * te.size)
        have hle' : off + (new.take (Nat.min m len * te.size)).length ≤ cells.length := hle
        have hll : (l'.take (Nat.min m len * te.size)).length = (new.take (Nat.min m len * te.size)).length := hv'.1.symm
        have hone' : ∀ u ∈ l'.take (Nat.min m len * te.size), u.oneCell' = true := fun u hu => hv.ones hone u (List.mem_of_mem_take hu)
        have hst : (storeCells ⟨p.b, p.s + off, none⟩ (l'.take (Nat.min m len * te.size)) 0).run P W = .ok () (W.setCells p.b (p.s + off + 0) (l'.take (Nat.min m len * te.size))) :=
          run_storeCells_cells (P := P) p.b _ _ 0 W (fun j hj => by
            rw [Nat.add_zero, cell_of_row W p.b _ ca V' fz hi.obj, Array.getElem?_eq_getElem (by rw [hi.size]; omega)]; rfl) (fun j hj => by
            rw [Nat.add_zero]; exact hi.free rfl _ (by omega)) hone'
        rw [Nat.add_zero] at hst
        have hw := hi.write hv' (off := off) (by show off ≤ cells.length; omega) (by omega) ⟨false, bx, ty, cells.take off ++ new.take (Nat.min m len * te.size) ++ cells.drop (off + (new.take (Nat.min m len * te.size)).length)⟩ (fun h => h) rfl (fun V hV => hV) (fun hV => ⟨hV, hle'⟩)
        refine wp_value (y := .int .i64 (Nat.min m len)) (W' := W.setCells p.b (p.s + off) (l'.take (Nat.min m len * te.size))) ?_ (hK β _ _ (Post.upd r his hp (kept_setCells p.b _ _ W) ⟨p, _, _, _, hp, hw⟩ hh n) (.int _ _))
        rw [hexec a o W ho, e1]
        unfold Builtin.copy_
        simp only [List.getElem?_toArray, List.getElem?_cons_zero, List.getElem?_cons_succ, Sem.run_bind, run_underlying hU, Result.andThen_ok, hT.size, hl, hfn, List.toList_toArray, hst, Sem.run_pure, goInt]
      · exact absurd h2 hb
    · exact absurd h1 hb
  · obtain ⟨new, m, h1, hnl, hsrc⟩ := srcK_spec hb hk
    refine ⟨_, h, n, [], h1, Facts.refl _ _, fun β W a o ho r hs hf K hK => ?_⟩
    obtain ⟨hl, l', hv, hfc⟩ := src_run (P := P) r (hxv.vr hs hxm) hnl hsrc
    have e1 := (hsv.vr hs hsm).nils_inv
    have hfn := hfc 0 W (Nat.zero_le _) (fun _ _ => rfl)
    refine wp_value (y := .int .i64 0) (W' := W) ?_ (hK β W _ (Post.refl r n) (.int _ _))
    rw [hexec a o W ho, e1]
    unfold Builtin.copy_
    simp only [List.getElem?_toArray, List.getElem?_cons_zero, List.getElem?_cons_succ, Sem.run_bind, run_underlying hU, Result.andThen_ok, hT.size, hl, show Nat.min m 0 = 0 from Nat.min_zero m, hfn, Sem.run_pure, goInt]
    simp
end
end Go.Proofs.YtcimgilfogeebaaGreatDoor.VM
