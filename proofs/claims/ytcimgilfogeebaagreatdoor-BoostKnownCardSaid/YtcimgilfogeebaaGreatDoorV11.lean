/- VM, 11: slices of arrays, conversions, append, copy. -/
import Derived.Test.YtcimgilfogeebaaGreatDoorV10
import Derived.Laws.Append
import Derived.Laws.AppendOwn
set_option linter.unusedVariables false
set_option linter.unusedSimpArgs false
namespace Go.Proofs.YtcimgilfogeebaaGreatDoor.VM
open Go Go.RowKit Go.Proofs.YtcimgilfogeebaaGreatDoor

theorem u8_map (l : List UInt8) : l.map (fun b => AV.int .u8 (.ofNat b.toNat)) = (l.map UInt8.toNat).map fun b => AV.int .u8 (.ofNat b) := by simp
theorem byteCells_eq {α : Type} : ∀ (l : List Nat) (k : List AV → α), byteCells l k = k (l.map fun b => .int .u8 (.ofNat b))
  | [], _ => rfl
  | x :: l, k => by
    show byteCells l (fun r => k (.int .u8 (.ofNat x) :: r)) = _
    rw [byteCells_eq l]; rfl
theorem bytes_VL {β : Be} : ∀ (l : List UInt8), VL β ((l.map UInt8.toNat).map fun b => AV.int .u8 (.ofNat b)) (l.map fun b => Value.int .u8 b.toNat)
  | [] => VL.nil β
  | x :: l => (bytes_VL l).cons (.int _ _)
section
variable {α : Type} {bad : α} {T : α → Prop} (hb : ¬ T bad)
include hb
theorem cellBytes_spec : ∀ (l : List AV) (k : List Nat → α), T (cellBytes bad l k) → ∃ bs, T (k bs) ∧ (l = bs.map fun b => AV.int .u8 (.ofNat b)) ∧ ∀ b ∈ bs, b < 256
  | [], k, h => ⟨[], h, rfl, fun b hb => by cases hb⟩
  | x :: l, k, h => by
    cases x <;> try exact absurd h hb
    rename_i kd z
    cases kd <;> try exact absurd h hb
    cases z <;> try exact absurd h hb
    rename_i b
    have h' : T (match Nat.blt b 256 with | true => cellBytes bad l (fun r => k (b :: r)) | false => bad) := h
    split at h'
    · rename_i hlt
      obtain ⟨bs, h1, h2, h3⟩ := cellBytes_spec l _ h'
      refine ⟨b :: bs, h1, by rw [h2]; rfl, fun x hx => ?_⟩
      rcases List.mem_cons.1 hx with rfl | hx
      · simpa [Nat.blt_eq] using hlt
      · exact h3 x hx
    · exact absurd h' hb
/-- the cells that are taken from a slice or a text -/
theorem srcK_spec {h : Mem} {sz : Nat} {x : AV} {k : List AV → Nat → α} (hk : T (srcK bad h sz x k)) :
    ∃ l m, T (k l m) ∧ l.length = m * sz ∧ ((x = .nils ∧ l = [] ∧ m = 0) ∨ (∃ i off c b, x = .sl i off m c sz ∧ h.get i = some b ∧ off + m * sz ≤ b.cells.length ∧ l = (b.cells.drop off).take (m * sz)) ∨ (∃ bs, x = .str bs ∧ sz = 1 ∧ m = bs.length ∧ l = bs.map fun b => .int .u8 (.ofNat b))) := by
  unfold srcK at hk
  cases x <;> try exact absurd hk hb
  · rename_i bs
    simp only at hk
    split at hk
    · rename_i hs
      have hs := Nat.eq_of_beq_eq_true hs
      rw [lenK_eq, byteCells_eq] at hk
      exact ⟨_, _, hk, by simp [hs], .inr (.inr ⟨bs, rfl, hs, rfl, rfl⟩)⟩
    · exact absurd hk hb
  · rename_i i off n c es
    simp only at hk
    split at hk
    · rename_i hs
      have hs := Nat.eq_of_beq_eq_true hs
      subst hs
      obtain ⟨b, hg, h1⟩ := memK_spec hb hk
      obtain ⟨h2, hle⟩ := cutK_spec hb _ _ _ _ h1
      exact ⟨_, _, h2, by have : Nat.mul n es = n * es := rfl; simp; omega, .inr (.inl ⟨i, off, c, b, rfl, hg, hle, rfl⟩)⟩
    · exact absurd hk hb
  · exact ⟨[], 0, hk, by simp, .inl ⟨rfl, rfl, rfl⟩⟩
end
theorem src_run {P : Program} {G : GlF} {β : Be} {h : HpF} {W : World} (r : HR G β h W) {x : AV} {y : Value} (hy : VR β x y) {l : List AV} {m sz : Nat} (hl : l.length = m * sz)
    (hc : (x = .nils ∧ l = [] ∧ m = 0) ∨ (∃ i off c b, x = .sl i off m c sz ∧ h i = some b ∧ off + m * sz ≤ b.cells.length ∧ l = (b.cells.drop off).take (m * sz)) ∨ (∃ bs, x = .str bs ∧ sz = 1 ∧ m = bs.length ∧ l = bs.map fun b => .int .u8 (.ofNat b))) :
    (Builtin.lenOf y).run P W = .ok m W ∧ ∃ l' : List Value, VL β l l' ∧ ∀ q W', q ≤ m → (∀ k, k < W.heap.size → W'.heap[k]? = W.heap[k]?) → (Builtin.firstCells sz q y).run P W' = .ok (l'.take (q * sz)).toArray W' := by
  rcases hc with ⟨rfl, rfl, rfl⟩ | ⟨i, off, c, b, rfl, hg, hle, rfl⟩ | ⟨bs, rfl, rfl, rfl, rfl⟩
  · obtain rfl := hy.nils_inv
    exact ⟨rfl, [], VL.nil β, fun q W' hq _ => by simp [Builtin.firstCells]⟩
  · obtain ⟨p, c', hp, rfl, _⟩ := hy.sl_inv
    obtain ⟨q, ca, U, fz, hq, hi⟩ := r.at_ i b hg
    rw [hp] at hq; cases hq
    have hv := (hi.cells.drop off).take (m * sz)
    rw [List.drop_take, List.drop_drop, List.take_take, Nat.min_eq_left (by omega)] at hv
    refine ⟨rfl, _, hv, fun q W' hq hW => ?_⟩
    have ho : W'.heap[p.b]? = some (.cells ca U fz) := (hW p.b hi.lt).trans hi.obj
    have hr := Block.range ho (p.s + off) (q * sz)
    have hqs : q * sz ≤ m * sz := Nat.mul_le_mul_right _ hq
    have hlen : ((ca.toList.drop (p.s + off)).take (q * sz)).length = q * sz := by
      have h1 := hi.fit
      have h2 := hi.size
      simp; omega
    have hld := run_loadCells_list (P := P) W' ⟨p.b, p.s + off, none⟩ ((ca.toList.drop (p.s + off)).take (q * sz)) (fun j v hj => by rw [Addr.add_mid]; exact hr j v hj)
    rw [hlen] at hld
    rw [List.take_take, Nat.min_eq_left hqs]
    simp [Builtin.firstCells, hld]
  · obtain ⟨s, rfl, hs⟩ := hy.str_inv
    refine ⟨?_, s.data.toList.map (fun b => Value.int .u8 b.toNat), ?_, fun q W' hq _ => ?_⟩
    · have : bs.length = s.size := by rw [← hs]; simp
      simp [Builtin.lenOf, this]
    · rw [← hs]; exact bytes_VL _
    · simp only [Builtin.firstCells, Sem.run_pure, Nat.mul_one]
      congr 1
      apply Array.toList_inj.1
      simp [ByteArray.data_extract, List.map_take]
section
variable {α : Type} {bad : α} {T : α → Prop} (hb : ¬ T bad)
include hb
theorem arrSlice_sem {P : Program} {Γ : Ctx} (hΓ : TyOk P Γ) {callK : CallK α} {env : Env} {h : Mem} {n : Nat} {U : TypeId} {x : Operand} {lo hi mx : Option Operand} {k : AV → Mem → Nat → List Nat → α} (hk : T (heapK bad Γ callK env h n (.slice U x lo hi mx) k)) :
    Did1 P Γ.gl T (.slice U x lo hi mx) env h n k := by
  unfold heapK at hk
  simp only at hk
  obtain ⟨v, hv, h1⟩ := oK_spec hb hk
  split at h1
  · rename_i i off
    obtain ⟨t, ht, h2⟩ := tyK_spec hb h1
    have hke := (hΓ.ty U t ht).kind
    split at h2
    · rename_i q e hkd
      rw [hkd] at hke
      have hk' : P.underlying U = some (.array q e) := hke
      obtain ⟨te, hte, h3⟩ := tyK_spec hb h2
      obtain ⟨b, hg, h4⟩ := memK_spec hb h3
      obtain ⟨ro, bx, ty, cells⟩ := b
      simp only at h4
      rw [lenK_eq] at h4
      split at h4
      · rename_i hfit hpos
        have hfit := Nat.le_of_ble_eq_true hfit
        have hfit : off + q * te.size ≤ cells.length := hfit
        obtain ⟨lw, hh, m, h5, hle, hm, hmc, hhn, hhm, hhmx, hrun⟩ := bndsK_spec hb h4
        have hin : ∀ y, lo = some y ∨ hi = some y ∨ mx = some y → y ∈ (Op.slice U x lo hi mx).operands := fun y hy => by
          rcases hy with rfl | rfl | rfl <;> simp [Op.operands]
        have hM : (if mx = none then q else m) = m := by
          by_cases e : mx = none
          · rw [if_pos e]; exact (hm e).symm
          · rw [if_neg e]
        have hhm' : hh ≤ m := by
          rcases hhm with h | h
          · exact h
          · by_cases e : mx = none
            · have := hm e; omega
            · exact hhmx e
        have key : ∀ β a W o, o.op = Op.slice U x lo hi mx → HR Γ.gl β h.get W → Sees β env a (Op.slice U x lo hi mx).operands → ∃ p, β i = some p ∧ p.s + off + q * te.size ≤ p.z ∧
            (execOp a.eval o).run P W = .ok (.value (.slice (some (if m = lw then ⟨p.b, p.s + off, none⟩ else ⟨p.b, p.s + off + lw * te.size, none⟩)) (hh - lw) (m - lw))) W := fun β a W o ho r hs => by
          obtain ⟨p, hp, e1⟩ := (hv.vr hs (x := x) (by simp [Op.operands])).ptr_inv
          obtain ⟨p', c, V, fz, hp', hi'⟩ := r.at_ i _ hg
          rw [hp] at hp'; cases hp'
          have := hi'.fit
          refine ⟨p, hp, by simp only at this; omega, ?_⟩
          have hr := hrun P false β a _ W q hs hin (Nat.le_refl _)
          rw [hM] at hr
          unfold execOp
          simp only [ho, e1, Instr.sliceAt, Instr.sureAddr, Sem.run_bind, run_underlying hk', Result.andThen_ok, hr, (hΓ.ty e te hte).size, Sem.run_pure, Addr.add_mid]
        split at h5
        · rename_i hlm
          have hlm := Nat.eq_of_beq_eq_true hlm
          rw [frcN_eq] at h5
          refine ⟨_, h, n, [], h5, Facts.refl _ _, fun β W a o ho r hs hf K hK => ?_⟩
          obtain ⟨p, hp, hz, hr⟩ := key β a W o ho r hs
          rw [if_pos hlm.symm, hlm, Nat.sub_self] at hr
          refine wp_value hr (hK β W _ (Post.refl r n) ?_)
          have e0 : Nat.sub hh lw = 0 := by show hh - lw = 0; omega
          rw [e0, show hh - m = 0 by omega]
          exact .sl i off 0 0 0 te.size p hp (by omega) (.inl rfl) (by omega)
        · rename_i hlm
          have hlm : lw ≠ m := fun e => by rw [e, Nat.beq_refl] at hlm; cases hlm
          simp only [frcN_eq] at h5
          refine ⟨_, h, n, [], h5, Facts.refl _ _, fun β W a o ho r hs hf K hK => ?_⟩
          obtain ⟨p, hp, hz, hr⟩ := key β a W o ho r hs
          rw [if_neg (fun e => hlm e.symm), Nat.add_assoc] at hr
          refine wp_value hr (hK β W _ (Post.refl r n) ?_)
          refine .sl i _ (hh - lw) _ (m - lw) te.size p hp (show hh - lw ≤ (2 * (m - lw)) / 2 by omega) (.inl rfl) ?_
          have h6 : lw * te.size + (m - lw) * te.size = m * te.size := by rw [← Nat.add_mul]; congr 1; omega
          have h7 : m * te.size ≤ q * te.size := Nat.mul_le_mul_right _ hmc
          show p.s + (off + lw * te.size) + (m - lw) * te.size ≤ p.z
          omega
      · exact absurd h4 hb
    · exact absurd h2 hb
  · obtain ⟨w, h2, hw⟩ := pureK_sound hb hΓ h1
    exact Did1.pure h2 hw
end
end Go.Proofs.YtcimgilfogeebaaGreatDoor.VM
