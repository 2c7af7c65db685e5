/- internal/bytealg.CountString, in the machine's words. -/
import Derived.Test.YtfdhgdnonggmaaaGreatDoorVExt
set_option linter.unusedVariables false
set_option linter.unusedSimpArgs false
namespace Go.Proofs.YtfdhgdnonggmaaaGreatDoor.VM
open Go Go.RowKit Go.Proofs.YtfdhgdnonggmaaaGreatDoor

noncomputable def cntG (c : Nat) (l : List Nat) : Nat → Nat :=
  List.rec (motive := fun _ => Nat → Nat) (fun n => n) (fun x _ ih n => Bool.rec (motive := fun _ => Nat) (ih n) (ih (Nat.succ n)) (Nat.beq x c)) l
theorem cntG_eq (c : UInt8) : ∀ (l : List UInt8) (n : Nat), cntG c.toNat (l.map UInt8.toNat) n = n + Lib.countByte l c
  | [], n => rfl
  | x :: l, n => by
    show (Bool.rec (motive := fun _ => Nat) (cntG c.toNat (l.map UInt8.toNat) n) (cntG c.toNat (l.map UInt8.toNat) (Nat.succ n)) (Nat.beq x.toNat c.toNat) : Nat) = _
    unfold Lib.countByte
    rw [List.count_cons]
    cases h : Nat.beq x.toNat c.toNat with
    | true =>
      have : x = c := UInt8.toNat_inj.1 (Nat.eq_of_beq_eq_true h)
      simp only
      rw [cntG_eq c l]
      unfold Lib.countByte
      simp [this]; omega
    | false =>
      have : (x == c) = false := by
        cases hc : x == c with
        | false => rfl
        | true => have := eq_of_beq hc; subst this; rw [Nat.beq_refl] at h; cases h
      simp only
      rw [cntG_eq c l]
      unfold Lib.countByte
      simp [this]
noncomputable def countF (ags : List AV) (h : Tr Blk) (n : Nat) : Option (AV × Tr Blk × Nat × List Nat) := match ags with
  | [.str l, .int .u8 (.ofNat c)] => (match Nat.blt c 256 with
    | true => some (.int .i64 (.ofNat (cntG c l 0)), h, n, [])
    | false => none)
  | _ => none
set_option maxRecDepth 100000 in
theorem ext_count : ExtOk Tryz.prog 34 (.user countF) := fun G ags h n hd v h' n' tl hF => by
  unfold countF at hF
  split at hF
  · rename_i l c
    split at hF
    · rename_i hc
      have hc : c < 256 := by simpa [Nat.blt_eq] using hc
      cases hF
      refine ⟨Facts.refl _ _, fun β W a o ys r hv hf K hK => ?_⟩
      obtain ⟨y1, r1, rfl, h1, hv⟩ := hv.cons_inv
      obtain ⟨y2, r2, rfl, h2, hv⟩ := hv.cons_inv
      obtain rfl := hv.nil_inv
      obtain ⟨s, rfl, hs⟩ := h1.str_inv
      rw [h2.int_inv]
      have hrun := Lib.run_countString (P := Tryz.prog) s (Int.ofNat c) W
      have hcall : (callFunc 34 #[.string s, .int .u8 (Int.ofNat c)]).run Tryz.prog W = .ok (.value (.int .i64 (Lib.countByte s.data.toList (Int.ofNat c).toNat.toUInt8))) W := by
        rw [run_callFunc_extern Tryz.func34 (by kernel_rfl) (by kernel_rfl) (by kernel_rfl) (e := Extern.BytealgCount.count) (by kernel_rfl), hrun]
        rfl
      have e : cntG c l 0 = Lib.countByte s.data.toList (Int.ofNat c).toNat.toUInt8 := by
        have := cntG_eq (UInt8.ofNat c) s.data.toList 0
        rw [UInt8.toNat_ofNat', Nat.mod_eq_of_lt hc, hs] at this
        rw [this]
        simp
      rw [← e] at hcall
      exact upon_val hcall (hK β W _ (Post.refl r n) (.int _ _))
    · cases hF
  · cases hF
end Go.Proofs.YtfdhgdnonggmaaaGreatDoor.VM
