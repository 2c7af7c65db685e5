/- VM, 15: functions without a text. -/
import Derived.Test.YtcimgilfogeebaaGreatDoorV14
set_option linter.unusedVariables false
set_option linter.unusedSimpArgs false
namespace Go.Proofs.YtcimgilfogeebaaGreatDoor.VM
open Go Go.RowKit Go.Proofs.YtcimgilfogeebaaGreatDoor

def idxOf (l : List Nat) (c : Nat) : Option Nat := l.findIdx? fun x => Nat.beq x c
/-- what such a function does -/
def ExtOk (P : Program) (f : FuncId) : Ext → Prop
  | .add64 => ∀ (x y c : Nat) (W : World), c ≤ 1 → (callFunc f #[.int .u64 (x : Int), .int .u64 (y : Int), .int .u64 (c : Int)]).run P W = .ok (.value (.tuple #[.int .u64 (((x + y + c) % 18446744073709551616 : Nat) : Int), .int .u64 (((x + y + c) / 18446744073709551616 : Nat) : Int)])) W
  | .sub64 => ∀ (x y c : Nat) (W : World), c ≤ 1 → (callFunc f #[.int .u64 (x : Int), .int .u64 (y : Int), .int .u64 (c : Int)]).run P W = .ok (.value (.tuple #[.int .u64 (((x + 18446744073709551616 - y - c) % 18446744073709551616 : Nat) : Int), .int .u64 ((if x < y + c then 1 else 0 : Nat) : Int)])) W
  | .same => ∀ (v : Value) (W : World), (callFunc f #[v]).run P W = .ok (.value v) W
  | .idxByte => ∀ (s : ByteArray) (c : UInt8) (W : World), (callFunc f #[.string s, .int .u8 c.toNat]).run P W = .ok (.value (.int .i64 (match idxOf (s.data.toList.map UInt8.toNat) c.toNat with | some i => (i : Int) | none => -1))) W
  | .mkNoZero e => ∀ (m : Nat) (W : World), m < 1000000 → ∃ (c' : Nat) (ws : List Value) (W' : World), m ≤ c' ∧ ws.length = c' ∧ (callFunc f #[.int .i64 (m : Int)]).run P W = .ok (.value (.slice (some ⟨W.heap.size, 0, none⟩) m c')) W' ∧ Below W.heap.size W W' ∧ W'.heap[W.heap.size]? = some (.cells ws.toArray e (0, 0))
  | .user F => ∀ (G : GlF) (as : List AV) (h : Mem) (n : Nat), Dom h.get n → ∀ v h' n' tl, F as h n = some (v, h', n', tl) → Facts h.get n h'.get n' tl ∧ FnSem P G f as h.get n n' v h'.get tl
  | .copyCheck U => (∀ args w, (callFunc f args).run P w = .ok (.enter f args) w) ∧
      (∀ (b : Nat) (w : World), w.cell? ⟨b, 0, none⟩ = some (.pointer (some ⟨b, 0, none⟩)) → Calls P f #[.pointer (some ⟨b, 0, none⟩)] w fun e w' => e = .returned (.tuple #[]) ∧ w = w') ∧
      (∀ (b : Nat) (w : World), w.cell? ⟨b, 0, none⟩ = some (.pointer none) → w.shape? b = some (U, 2) → w.frozen? ⟨b, 0, none⟩ = false → Calls P f #[.pointer (some ⟨b, 0, none⟩)] w fun e w' => e = .returned (.tuple #[]) ∧ w' = w.setCell ⟨b, 0, none⟩ (.pointer (some ⟨b, 0, none⟩)))
theorem findK_go {α : Type} (c : Nat) (k : Option Nat → α) : ∀ (l : List Nat) (i : Nat), findG c k l i = k ((idxOf l c).map (· + i))
  | [], i => rfl
  | x :: l, i => by
    show (Bool.rec (motive := fun _ => α) (findG c k l (Nat.succ i)) (k (some i)) (Nat.beq x c) : α) = _
    unfold idxOf
    rw [List.findIdx?_cons]
    cases h : Nat.beq x c with
    | true => simp
    | false =>
      simp only
      rw [findK_go c k l (Nat.succ i)]
      unfold idxOf
      cases l.findIdx? fun x => Nat.beq x c with
      | none => rfl
      | some j =>
        show k (some (j + Nat.succ i)) = k (some (j + 1 + i))
        congr 2; omega
theorem findK_eq {α : Type} (l : List Nat) (c : Nat) (k : Option Nat → α) : findK l c k = k (idxOf l c) := by
  have := findK_go c k l 0
  unfold findK
  rw [this]
  cases idxOf l c <;> simp

theorem upon_val {P : Program} {o : Oper} {a : Act} {W' : World} {K : Act → World → Prop} {r : Result Next} {y : Value} (h : r = .ok (.value y) W') (hk : K (a.put o.dst y) W') : o.upon P a K QF r := by
  rw [h, Oper.upon_value]; exact hk
section
variable {α : Type} {bad : α} {T : α → Prop} (hb : ¬ T bad)
include hb
theorem extK_sound {P : Program} {G : GlF} {f : FuncId} {x : Ext} (hx : ExtOk P f x) {as : List AV} {h : Mem} {n : Nat} (hd : Dom h.get n) {k : AV → Mem → Nat → List Nat → α} (hk : T (extK bad x as h n k)) :
    ∃ v h' n' tl, T (k v h' n' tl) ∧ Facts h.get n h'.get n' tl ∧ FnSem P G f as h.get n n' v h'.get tl := by
  unfold extK at hk
  split at hk
  · rename_i x y c
    split at hk
    · rename_i hc
      simp only [frcN_eq] at hk
      refine ⟨_, h, n, [], hk, Facts.refl _ _, fun β W a o ys r hv hf K hK => ?_⟩
      obtain ⟨y1, r1, rfl, h1, hv⟩ := hv.cons_inv
      obtain ⟨y2, r2, rfl, h2, hv⟩ := hv.cons_inv
      obtain ⟨y3, r3, rfl, h3, hv⟩ := hv.cons_inv
      obtain rfl := hv.nil_inv
      rw [h1.int_inv, h2.int_inv, h3.int_inv]
      exact upon_val (hx x y c W (Nat.le_of_ble_eq_true hc)) (hK β W _ (Post.refl r n) (.tup _ _ rfl ((VL.nil β).cons (.int _ _) |>.cons (.int _ _)).2))
    · exact absurd hk hb
  · rename_i x y c
    split at hk
    · rename_i hc hlx hly
      have hc := Nat.le_of_ble_eq_true hc
      have hlx : x < 18446744073709551616 := by simpa [Nat.blt_eq] using hlx
      have hly : y < 18446744073709551616 := by simpa [Nat.blt_eq] using hly
      split at hk
      · rename_i hle
        have hle : y + c ≤ x := Nat.le_of_ble_eq_true hle
        simp only [frcN_eq] at hk
        refine ⟨_, h, n, [], hk, Facts.refl _ _, fun β W a o ys r hv hf K hK => ?_⟩
        obtain ⟨y1, r1, rfl, h1, hv⟩ := hv.cons_inv
        obtain ⟨y2, r2, rfl, h2, hv⟩ := hv.cons_inv
        obtain ⟨y3, r3, rfl, h3, hv⟩ := hv.cons_inv
        obtain rfl := hv.nil_inv
        rw [h1.int_inv, h2.int_inv, h3.int_inv]
        have e1 : (x + 18446744073709551616 - y - c) % 18446744073709551616 = Nat.sub x (Nat.add y c) := by
          show _ = x - (y + c)
          omega
        have e2 : (if x < y + c then 1 else 0) = 0 := if_neg (by omega)
        have := hx x y c W hc
        rw [e1, e2] at this
        exact upon_val this (hK β W _ (Post.refl r n) (.tup _ _ rfl ((VL.nil β).cons (.int _ _) |>.cons (.int _ _)).2))
      · rename_i hle
        have hle : ¬ (y + c ≤ x) := fun e => by
          have : Nat.ble (Nat.add y c) x = true := Nat.ble_eq_true_of_le e
          rw [this] at hle; cases hle
        simp only [frcN_eq] at hk
        refine ⟨_, h, n, [], hk, Facts.refl _ _, fun β W a o ys r hv hf K hK => ?_⟩
        obtain ⟨y1, r1, rfl, h1, hv⟩ := hv.cons_inv
        obtain ⟨y2, r2, rfl, h2, hv⟩ := hv.cons_inv
        obtain ⟨y3, r3, rfl, h3, hv⟩ := hv.cons_inv
        obtain rfl := hv.nil_inv
        rw [h1.int_inv, h2.int_inv, h3.int_inv]
        have e1 : (x + 18446744073709551616 - y - c) % 18446744073709551616 = Nat.sub (Nat.add x 18446744073709551616) (Nat.add y c) := by
          show _ = x + 18446744073709551616 - (y + c)
          omega
        have e2 : (if x < y + c then 1 else 0) = 1 := if_pos (by omega)
        have := hx x y c W hc
        rw [e1, e2] at this
        exact upon_val this (hK β W _ (Post.refl r n) (.tup _ _ rfl ((VL.nil β).cons (.int _ _) |>.cons (.int _ _)).2))
    · exact absurd hk hb
  · rename_i v
    refine ⟨_, h, n, [], hk, Facts.refl _ _, fun β W a o ys r hv hf K hK => ?_⟩
    obtain ⟨y1, r1, rfl, h1, hv⟩ := hv.cons_inv
    obtain rfl := hv.nil_inv
    exact upon_val (hx y1 W) (hK β W _ (Post.refl r n) h1)
  · rename_i l c
    split at hk
    · exact absurd hk hb
    · rename_i hc
      have hc : c < 256 := by simpa [Nat.blt_eq] using hc
      rw [findK_eq] at hk
      have key : ∀ β W ys, VL β [.str l, .int .u8 (.ofNat c)] ys → (callFunc f ys.toArray).run P W = .ok (.value (.int .i64 (match idxOf l c with | some i => (i : Int) | none => -1))) W := fun β W ys hv => by
        obtain ⟨y1, r1, rfl, h1, hv⟩ := hv.cons_inv
        obtain ⟨y2, r2, rfl, h2, hv⟩ := hv.cons_inv
        obtain rfl := hv.nil_inv
        obtain ⟨s, rfl, hs⟩ := h1.str_inv
        rw [h2.int_inv]
        have := hx s (UInt8.ofNat c) W
        rw [UInt8.toNat_ofNat', Nat.mod_eq_of_lt hc, hs] at this
        exact this
      split at hk
      · rename_i i hi
        refine ⟨_, h, n, [], hk, Facts.refl _ _, fun β W a o ys r hv hf K hK => ?_⟩
        have := key β W ys hv
        rw [hi] at this
        exact upon_val this (hK β W _ (Post.refl r n) (.int _ _))
      · rename_i hi
        refine ⟨_, h, n, [], hk, Facts.refl _ _, fun β W a o ys r hv hf K hK => ?_⟩
        have := key β W ys hv
        rw [hi] at this
        exact upon_val this (hK β W _ (Post.refl r n) (.int _ _))
  · rename_i U i
    obtain ⟨b, hg, h1⟩ := memK_spec hb hk
    obtain ⟨ro, bx, ty, cells⟩ := b
    simp only at h1
    split at h1
    · rename_i V u c
      have his : (h.get i).isSome = true := by rw [hg]; rfl
      obtain ⟨hen, hused, hfresh⟩ := hx
      split at h1
      · rename_i hVU
        have hVU := Nat.eq_of_beq_eq_true hVU
        obtain ⟨h', h2, hh⟩ := putM_spec hb h1
        refine ⟨_, h', n, [i], h2, Facts.upd hh his (hd.lt his), fun β W a o ys r hv hf K hK => ?_⟩
        obtain ⟨y1, r1, rfl, h3, hv⟩ := hv.cons_inv
        obtain rfl := hv.nil_inv
        obtain ⟨p, hp, rfl⟩ := h3.ptr_inv
        obtain ⟨q, ca, U', fz, hq, hi⟩ := r.at_ i _ hg
        rw [hp] at hq; cases hq
        obtain ⟨hs0, hz⟩ := hi.bx rfl
        have hz : p.z = 2 := hz
        have hU' : U' = U := by have := hi.ty V rfl; rw [this, hVU]
        have hcv := hi.cells
        rw [hs0] at hcv
        have hsz := hi.size
        have hL : ca.toList.length = 2 := by simpa [hz] using hsz
        have hcv2 : VL β [.nilp, c] ca.toList := by
          have : ((ca.toList.drop 0).take 2) = ca.toList := by rw [List.drop_zero]; exact List.take_of_length_le (by omega)
          rw [show (⟨false, true, some V, [.nilp, c]⟩ : Blk).cells.length = 2 from rfl, this] at hcv
          exact hcv
        obtain ⟨c0, r1, e1, hc0, hr1⟩ := hcv2.cons_inv
        obtain ⟨c1, r2, rfl, hc1, hr2⟩ := hr1.cons_inv
        obtain rfl := hr2.nil_inv
        obtain rfl := hc0.nilp_inv
        have hca : ca = #[.pointer none, c1] := Array.toList_inj.1 (by rw [e1])
        rw [hs0, Nat.add_zero]
        have hcell : W.cell? ⟨p.b, 0, none⟩ = some (.pointer none) := by rw [cell_of_row W p.b 0 ca U' fz hi.obj, hca]; rfl
        have hcall := hfresh p.b W hcell (by unfold World.shape?; rw [hi.obj, hca, hU']; rfl) (hi.free rfl 0 (by omega))
        rw [hen, Oper.upon_enter]
        refine hcall.mono ?_
        rintro e w' ⟨rfl, rfl⟩
        have hk' := kept_set W ⟨p.b, 0, none⟩ (.pointer (some ⟨p.b, 0, none⟩))
        have hobj : (W.setCell ⟨p.b, 0, none⟩ (.pointer (some ⟨p.b, 0, none⟩))).heap[p.b]? = some (.cells #[.pointer (some ⟨p.b, 0, none⟩), c1] U' fz) := by
          show (W.heap.modify p.b _)[p.b]? = _
          rw [Array.getElem?_modify, if_pos rfl, hi.obj, hca]
          simp
        have hpr : VR β (.ptr i 0) (.pointer (some ⟨p.b, 0, none⟩)) := by
          have := VR.ptr (β := β) i 0 p hp
          rw [hs0] at this; exact this
        have hnew : BlkIs β (W.setCell ⟨p.b, 0, none⟩ (.pointer (some ⟨p.b, 0, none⟩))) p ⟨false, true, some V, [.ptr i 0, c]⟩ #[.pointer (some ⟨p.b, 0, none⟩), c1] U' fz := by
          refine ⟨hobj, by simp [hz], fun _ j hj => ?_, hi.ty, fun _ => ⟨hs0, hz⟩, by rw [hs0, hz]; exact Nat.le_refl _, ?_⟩
          · rw [frozen_block hi.obj hobj]; exact hi.free rfl j hj
          · rw [hs0]
            exact ((VL.nil β).cons hc1).cons hpr
        exact hK β _ _ (Post.upd r his hp hk' ⟨p, _, _, _, hp, hnew⟩ hh n) (VR.undef β)
      · rename_i j hVU
        split at h1
        · rename_i hji
          have hji := Nat.eq_of_beq_eq_true hji
          subst hji
          refine ⟨_, h, n, [], h1, Facts.refl _ _, fun β W a o ys r hv hf K hK => ?_⟩
          obtain ⟨y1, r1, rfl, h3, hv⟩ := hv.cons_inv
          obtain rfl := hv.nil_inv
          obtain ⟨p, hp, rfl⟩ := h3.ptr_inv
          obtain ⟨q, ca, U', fz, hq, hi⟩ := r.at_ _ _ hg
          rw [hp] at hq; cases hq
          obtain ⟨hs0, hz⟩ := hi.bx rfl
          have hcv := hi.cells
          rw [hs0] at hcv
          obtain ⟨c0, hc0, hr0⟩ := hcv.get (j := 0) rfl
          obtain ⟨p', hp', rfl⟩ := hr0.ptr_inv
          rw [hp] at hp'; cases hp'
          rw [hs0, Nat.add_zero]
          rw [hs0, Nat.add_zero] at hc0
          have hcell : W.cell? ⟨p.b, 0, none⟩ = some (.pointer (some ⟨p.b, 0, none⟩)) := by
            rw [cell_of_row W p.b 0 ca U' fz hi.obj]
            rw [List.getElem?_take] at hc0
            split at hc0
            · simpa using hc0
            · cases hc0
          rw [hen, Oper.upon_enter]
          refine (hused p.b W hcell).mono ?_
          rintro e w' ⟨rfl, rfl⟩
          exact hK β _ _ (Post.refl r n) (VR.undef β)
        · exact absurd h1 hb
      · exact absurd h1 hb
    · exact absurd h1 hb
  · rename_i e m
    split at hk
    · rename_i hm
      have hm : m < 1000000 := by simpa [Nat.blt_eq] using hm
      simp only [frcN_eq] at hk
      obtain ⟨h', h1, hh⟩ := newK_spec hb hk
      have hn : h.get n = none := hd n (Nat.le_refl _)
      have hh' : ∀ j, h'.get j = if j = n then some ⟨false, false, some e, []⟩ else if j ∈ ([] : List Nat) then none else h.get j := fun j => by rw [hh]; simp
      refine ⟨_, h', n + 1, [], h1, Facts.make [] (fun t ht => by cases ht) hh', fun β W a o ys r hv hf K hK => ?_⟩
      obtain ⟨y1, r1, rfl, h3, hv⟩ := hv.cons_inv
      obtain rfl := hv.nil_inv
      rw [h3.int_inv]
      obtain ⟨c', ws, W', hmc, hwl, hrun, hbl, hobj⟩ := hx m W hm
      have hfn : β n = none := hf n (Nat.le_refl _)
      have hnew : BlkAt (fun j => if j = n then some ⟨W.heap.size, 0, c'⟩ else β j) W' n ⟨false, false, some e, []⟩ :=
        BlkAt.new (p := ⟨W.heap.size, 0, c'⟩) (c := ws) (U := e) (by simp) rfl hobj hwl (fun V hV => by cases hV; rfl) (fun e => by cases e) ⟨[], ws, rfl, VL.nil _⟩
      refine upon_val hrun (hK _ _ _ (Post.make r hfn hn hbl (p := ⟨W.heap.size, 0, c'⟩) (Nat.le_refl _) (fun j => rfl) hnew [] hh') ?_)
      exact .sl n 0 m _ c' 1 ⟨W.heap.size, 0, c'⟩ (by simp) (show m ≤ (2 * m + 1) / 2 by omega) (.inr ⟨m, rfl, hmc⟩) (by simp)
    · exact absurd hk hb
  · split at hk
    · rename_i v h' n' tl hF
      exact ⟨v, h', n', tl, hk, hx G as h n hd v h' n' tl hF⟩
    · exact absurd hk hb
  · exact absurd hk hb
end
end Go.Proofs.YtcimgilfogeebaaGreatDoor.VM
