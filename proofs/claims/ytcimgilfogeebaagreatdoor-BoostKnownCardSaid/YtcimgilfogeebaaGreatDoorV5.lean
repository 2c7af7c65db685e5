/- VM, 5: plain operations do what the program's do. -/
import Derived.Test.YtcimgilfogeebaaGreatDoorV4
import Derived.Laws.Strings
set_option linter.unusedVariables false
set_option linter.unusedSimpArgs false
namespace Go.Proofs.YtcimgilfogeebaaGreatDoor.VM
open Go Go.RowKit Go.Proofs.YtcimgilfogeebaaGreatDoor

theorem ofInt_land (k : IntKind) (x y : Int) : (BitVec.ofInt k.bits x &&& BitVec.ofInt k.bits y).toNat = Nat.land (remP k x) (remP k y) := by
  rw [BitVec.toNat_and, remP_bv, remP_bv]; rfl
theorem ofInt_lor (k : IntKind) (x y : Int) : (BitVec.ofInt k.bits x ||| BitVec.ofInt k.bits y).toNat = Nat.lor (remP k x) (remP k y) := by
  rw [BitVec.toNat_or, remP_bv, remP_bv]; rfl
theorem ofInt_xor (k : IntKind) (x y : Int) : (BitVec.ofInt k.bits x ^^^ BitVec.ofInt k.bits y).toNat = Nat.xor (remP k x) (remP k y) := by
  rw [BitVec.toNat_xor, remP_bv, remP_bv]; rfl
theorem land_lt (k : IntKind) (x y : Int) : Nat.land (remP k x) (remP k y) < pow2 k := by
  rw [pow2_nat]; exact Nat.and_lt_two_pow _ (by rw [← pow2_nat]; exact remP_lt k y)
theorem lor_lt (k : IntKind) (x y : Int) : Nat.lor (remP k x) (remP k y) < pow2 k := by
  rw [pow2_nat]; exact Nat.or_lt_two_pow (by rw [← pow2_nat]; exact remP_lt k x) (by rw [← pow2_nat]; exact remP_lt k y)
theorem xor_lt (k : IntKind) (x y : Int) : Nat.xor (remP k x) (remP k y) < pow2 k := by
  rw [pow2_nat]; exact Nat.xor_lt_two_pow (by rw [← pow2_nat]; exact remP_lt k x) (by rw [← pow2_nat]; exact remP_lt k y)

theorem ba_eq {a b : ByteArray} : a.data.toList = b.data.toList ↔ a = b := by
  constructor
  · intro h
    cases a; cases b
    simp only [ByteArray.mk.injEq]
    exact Array.toList_inj.1 h
  · rintro rfl; rfl
theorem ba_list (a : ByteArray) : a.toList = a.data.toList := by
  exact ByteArray.toList_eq a
theorem map_toNat_inj : ∀ {l m : List UInt8}, l.map UInt8.toNat = m.map UInt8.toNat → l = m
  | [], [], _ => rfl
  | [], _ :: _, h => by simp at h
  | _ :: _, [], h => by simp at h
  | x :: l, y :: m, h => by
    simp only [List.map_cons, List.cons.injEq] at h
    rw [UInt8.toNat_inj.1 h.1, map_toNat_inj h.2]
theorem ltL_eq : ∀ l m : List UInt8, ltL (l.map UInt8.toNat) (m.map UInt8.toNat) = Op.bytesLess l m
  | [], [] => rfl
  | [], y :: m => rfl
  | x :: l, [] => rfl
  | x :: l, y :: m => by
    show (Bool.rec (motive := fun _ => Bool) (Bool.rec (motive := fun _ => Bool) false (ltL (l.map UInt8.toNat) (m.map UInt8.toNat)) (Nat.beq x.toNat y.toNat)) true (Nat.blt x.toNat y.toNat) : Bool) = _
    rw [ltL_eq l m, blt_dec, beq_dec]
    show _ = (decide (x < y) || (x == y && Op.bytesLess l m))
    by_cases h : x.toNat < y.toNat
    · have : x < y := UInt8.lt_iff_toNat_lt.2 h
      simp [h, this]
    · have h' : ¬ x < y := fun e => h (UInt8.lt_iff_toNat_lt.1 e)
      by_cases h2 : x.toNat = y.toNat
      · have := UInt8.toNat_inj.1 h2
        subst this
        simp only [Nat.lt_irrefl, decide_false, decide_true, show ¬ x < x from h', Bool.false_or, beq_self_eq_true, Bool.true_and]
      · have h3 : ¬ x = y := fun e => h2 (by rw [e])
        simp [h, h', h2, h3]

section
variable {α : Type} {bad : α} {T : α → Prop} (hb : ¬ T bad)
include hb
theorem binK_int {op : BinOp} {k k' : IntKind} {x y : Int} {c : AV → α} (h : T (binK bad op (.int k x) (.int k' y) c)) :
    ∃ v, T (c v) ∧ ∀ (P : Program) (U : TypeId) (a b : Operand) (W : World), ∃ u, (do eqGuard op U a b (.int k x) (.int k' y); binOp op U (.int k x) (.int k' y) : Sem Value).run P W = .ok u W ∧ ∀ β, VR β v u := by
  unfold binK at h
  simp only at h
  split at h
  · cases y with
    | ofNat m =>
      simp only [frcI_eq] at h
      refine ⟨_, h, fun P U a b W => ⟨.int k (k.wrap (x * 2 ^ (min m k.bits))), ?_, fun β => ?_⟩⟩
      · simp [eqGuard, binOp, Op.shift, show ¬ ((m : Int) < 0) by omega]
      · rw [wr_eq, bitsOf_eq]
        have : Int.mul x (Int.ofNat (Nat.pow 2 (Nat.min m k.bits))) = x * 2 ^ (min m k.bits) := by
          show x * ((2 ^ (min m k.bits) : Nat) : Int) = _
          push_cast; rfl
        rw [this]; exact .int _ _
    | negSucc m => exact absurd h hb
  · cases x with
    | negSucc n => exact absurd h hb
    | ofNat n =>
      cases y with
      | negSucc m => exact absurd h hb
      | ofNat m =>
        simp only [frcI_eq] at h
        refine ⟨_, h, fun P U a b W => ⟨.int k ((n : Int).fdiv (2 ^ (min m k.bits))), ?_, fun β => ?_⟩⟩
        · simp [eqGuard, binOp, Op.shift, show ¬ ((m : Int) < 0) by omega]
        · rw [bitsOf_eq]
          have : Int.ofNat (Nat.div n (Nat.pow 2 (Nat.min m k.bits))) = (n : Int).fdiv (2 ^ (min m k.bits)) := by
            have e : ((2 : Int) ^ (min m k.bits)) = ((2 ^ (min m k.bits) : Nat) : Int) := by push_cast; rfl
            rw [e]
            exact (Int.ofNat_fdiv n _)
          rw [this]; exact .int _ _
  · rename_i hshl hshr
    cases hk : kEq k k' with
    | false => rw [hk] at h; exact absurd h hb
    | true =>
      have hkk := (kEq_iff k k').1 hk
      subst hkk
      rw [hk] at h
      simp only [frcI_eq, frcB_eq, bitK, ltI_eq, eqI_eq, wr_eq] at h
      split at h
      case h_1 => exact ⟨_, h, fun P U a b W => ⟨.int k (k.wrap (x + y)), by simp [eqGuard, binOp, Op.intArith], fun β => .int _ _⟩⟩
      case h_2 => exact ⟨_, h, fun P U a b W => ⟨.int k (k.wrap (x - y)), by simp [eqGuard, binOp, Op.intArith], fun β => .int _ _⟩⟩
      case h_3 => exact ⟨_, h, fun P U a b W => ⟨.int k (k.wrap (x * y)), by simp [eqGuard, binOp, Op.intArith], fun β => .int _ _⟩⟩
      case h_4 =>
        split at h
        · exact absurd h hb
        · rename_i hy
          have hy' : ¬ y = 0 := of_decide_eq_false hy
          exact ⟨_, h, fun P U a b W => ⟨.int k (k.wrap (x.tdiv y)), by simp [eqGuard, binOp, Op.intDiv, hy'], fun β => .int _ _⟩⟩
      case h_5 =>
        split at h
        · exact absurd h hb
        · rename_i hy
          have hy' : ¬ y = 0 := of_decide_eq_false hy
          exact ⟨_, h, fun P U a b W => ⟨.int k (x.tmod y), by simp [eqGuard, binOp, Op.intDiv, hy'], fun β => .int _ _⟩⟩
      case h_6 =>
        rw [sgnW_eq _ _ (land_lt k x y), ← ofInt_land] at h
        exact ⟨_, h, fun P U a b W => ⟨.int k (k.wrap (BitVec.ofInt k.bits x &&& BitVec.ofInt k.bits y).toNat), by simp [eqGuard, binOp, Op.intBits], fun β => .int _ _⟩⟩
      case h_7 =>
        rw [sgnW_eq _ _ (lor_lt k x y), ← ofInt_lor] at h
        exact ⟨_, h, fun P U a b W => ⟨.int k (k.wrap (BitVec.ofInt k.bits x ||| BitVec.ofInt k.bits y).toNat), by simp [eqGuard, binOp, Op.intBits], fun β => .int _ _⟩⟩
      case h_8 =>
        rw [sgnW_eq _ _ (xor_lt k x y), ← ofInt_xor] at h
        exact ⟨_, h, fun P U a b W => ⟨.int k (k.wrap (BitVec.ofInt k.bits x ^^^ BitVec.ofInt k.bits y).toNat), by simp [eqGuard, binOp, Op.intBits], fun β => .int _ _⟩⟩
      case h_9 => exact ⟨_, h, fun P U a b W => ⟨.bool (x == y), by simp [eqGuard, binOp, Op.intCmp], fun β => by rw [show (x == y) = decide (x = y) from rfl]; exact .bool _⟩⟩
      case h_10 => exact ⟨_, h, fun P U a b W => ⟨.bool (x != y), by simp [eqGuard, binOp, Op.intCmp], fun β => by rw [show (x != y) = not (decide (x = y)) from rfl]; exact .bool _⟩⟩
      case h_11 => exact ⟨_, h, fun P U a b W => ⟨.bool (decide (x < y)), by simp [eqGuard, binOp, Op.intCmp], fun β => .bool _⟩⟩
      case h_12 => exact ⟨_, h, fun P U a b W => ⟨.bool (decide (x ≤ y)), by simp [eqGuard, binOp, Op.intCmp], fun β => by rw [show decide (x ≤ y) = not (decide (y < x)) by by_cases hh : x ≤ y <;> simp [hh] <;> omega]; exact .bool _⟩⟩
      case h_13 => exact ⟨_, h, fun P U a b W => ⟨.bool (decide (x > y)), by simp [eqGuard, binOp, Op.intCmp], fun β => .bool _⟩⟩
      case h_14 => exact ⟨_, h, fun P U a b W => ⟨.bool (decide (x ≥ y)), by simp [eqGuard, binOp, Op.intCmp], fun β => by rw [show decide (x ≥ y) = not (decide (x < y)) by by_cases hh : y ≤ x <;> simp [hh] <;> omega]; exact .bool _⟩⟩
      all_goals exact absurd h hb
theorem binK_str {op : BinOp} {x y : List Nat} {c : AV → α} (h : T (binK bad op (.str x) (.str y) c)) :
    ∃ v, T (c v) ∧ ∀ (P : Program) (U : TypeId) (a b : Operand) (W : World) (s t : ByteArray), s.data.toList.map UInt8.toNat = x → t.data.toList.map UInt8.toNat = y →
      ∃ u, (do eqGuard op U a b (.string s) (.string t); binOp op U (.string s) (.string t) : Sem Value).run P W = .ok u W ∧ ∀ β, VR β v u := by
  unfold binK at h
  simp only [lenK_eq, appK_eq, frcB_eq, eqL_eq] at h
  have hlt : ∀ s t : ByteArray, s.data.toList.map UInt8.toNat = x → t.data.toList.map UInt8.toNat = y → ltL x y = Op.bytesLess s.toList t.toList := fun s t hs ht => by rw [← hs, ← ht, ltL_eq, ba_list, ba_list]
  have hlt' : ∀ s t : ByteArray, s.data.toList.map UInt8.toNat = x → t.data.toList.map UInt8.toNat = y → ltL y x = Op.bytesLess t.toList s.toList := fun s t hs ht => by rw [← hs, ← ht, ltL_eq, ba_list, ba_list]
  have heq : ∀ s t : ByteArray, s.data.toList.map UInt8.toNat = x → t.data.toList.map UInt8.toNat = y → (s.toList == t.toList) = decide (x = y) := fun s t hs ht => by
    rw [ba_list, ba_list, ← hs, ← ht]
    by_cases e : s.data.toList = t.data.toList
    · rw [e]; simp
    · have : ¬ (s.data.toList.map UInt8.toNat = t.data.toList.map UInt8.toNat) := fun e' => e (map_toNat_inj e')
      rw [decide_eq_false this]; exact beq_eq_false_iff_ne.2 e
  split at h
  case h_1 =>
    split at h
    · rename_i hlen
      refine ⟨_, h, fun P U a b W s t hs ht => ⟨.string (s ++ t), ?_, fun β => ?_⟩⟩
      · have h1 : x.length = s.size := by rw [← hs]; simp
        have h2 : y.length = t.size := by rw [← ht]; simp
        have h3 : x.length + y.length < 1000000000 := by simpa [Nat.blt_eq] using hlen
        have hm : IntKind.i64.max = 9223372036854775807 := rfl
        have : ¬ (((s.size + t.size : Nat) : Int) > IntKind.i64.max) := by rw [hm]; omega
        simp only [eqGuard, binOp, Op.stringOp, if_neg this]; rfl
      · refine .str _ _ ?_
        rw [← hs, ← ht, ← List.map_append]
        simp
    · exact absurd h hb
  case h_2 => exact ⟨_, h, fun P U a b W s t hs ht => ⟨.bool (s.toList == t.toList), by simp [eqGuard, binOp, Op.stringOp], fun β => by rw [heq s t hs ht]; exact .bool _⟩⟩
  case h_3 => exact ⟨_, h, fun P U a b W s t hs ht => ⟨.bool (!(s.toList == t.toList)), by simp [eqGuard, binOp, Op.stringOp], fun β => by rw [heq s t hs ht]; exact .bool _⟩⟩
  case h_4 => exact ⟨_, h, fun P U a b W s t hs ht => ⟨.bool (Op.bytesLess s.toList t.toList), by simp [eqGuard, binOp, Op.stringOp], fun β => by rw [← hlt s t hs ht]; exact .bool _⟩⟩
  all_goals exact absurd h hb
end
end Go.Proofs.YtcimgilfogeebaaGreatDoor.VM
