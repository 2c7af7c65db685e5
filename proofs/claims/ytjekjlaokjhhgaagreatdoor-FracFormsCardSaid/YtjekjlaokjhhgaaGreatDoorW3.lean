/- Texts of ours in one: Bd1, Bd2, Tx2, PaB, PaC, PaD, PaE, PaF, PaG, PaH, PaI, PaJ, Tx3, Tx4, Tx5, PaK, ThJ, ThK, Opn, LaidE, LaidP. -/
import Derived.Test.YtjekjlaokjhhgaaGreatDoorW0
import Derived.Test.YtjekjlaokjhhgaaGreatDoorW1
import Derived.Test.YtjekjlaokjhhgaaGreatDoorW2
import Derived.Lib.AppendStr
import Derived.Lib.UnsafeStr
import Derived.Laws.IdiomStrings
import Derived.WalkKit
import Derived.ProofKit
import Derived.OpenShut
import Derived.LaidMore
import Derived.Lay
import Derived.Stop.Joined
set_option linter.unusedVariables false
set_option linter.unusedSimpArgs false

namespace Go.Proofs.YtjekjlaokjhhgaaGreatDoor
open Go.RowKit
theorem run_appendS_place {P : Program} (w : World) (t u ty e : TypeId) (i : TypeInfo) (ht : P.underlying t = some (.slice e)) (hu : P.underlying u = some .string) (hi : P.info? e = some i) (hz : i.zero = some (.int .u8 0)) (hsize : i.size = 1) (hby : i.bytes = 1)
  (v : Value) (n : Nat) (xs : List Value) (hown : w.ownsRow 0 e 1 v n xs) (s : ByteArray) (hb : n + s.size ≤ 140737488355328) :
  ∃ v' w', (Builtin.append_ #[t, u] ty #[v, .string s]).run P w = .ok v' w' ∧ w'.ownsRow 0 e 1 v' (n + s.size) (xs ++ Lib.strCells s) ∧ w.grownBy w' v.ownBlock ∧ ∀ g, v'.ownBlock = some g → v.ownBlock = some g ∨ w.heap.size ≤ g := by
 obtain ⟨v', w', hr, h2, h3, h4⟩ := Lib.run_append_own_string (P := P) w 0 t u ty e i ht hu hi hz hsize hby v n xs hown s (by simp only [maxLen]; omega) hb (Nat.zero_le _)
 refine ⟨v', w', hr, h2, h3, fun g hg => ?_⟩
 have hxl : xs.length = n := by simpa using hown.1
 rcases hown.2 with ⟨rfl, rfl⟩ | ⟨g0, cap, cur, rfl, hbg, hgb, hnc, hcm, hcs, htake⟩
 ·have hx : xs = [] := List.eq_nil_of_length_eq_zero hxl
  subst hx
  obtain ⟨v2, w2, hr2, h22, _⟩ := Lib.run_append_own_string (P := P) w w.heap.size t u ty e i ht hu hi hz hsize hby (.slice none 0 0) 0 [] (World.ownsRow_nil w w.heap.size e 1) s (by simp only [maxLen]; omega) hb (Nat.le_refl _)
  rw [hr] at hr2
  cases hr2
  exact .inr ((h22.lt g hg).1)
 ·by_cases hroom : n + s.size ≤ cap
  ·have hr2 := Lib.run_append_room_string (P := P) w t u ty e i ht hu hi hsize g0 n cap cur hgb s hroom (by simp at hcs; omega)
   rw [hr] at hr2
   cases hr2
   left; exact hg
  ·have holds : ∀ j u, xs[j]? = some u → w.cell? ((⟨g0, 0, none⟩ : Addr).add j) = some u := hown.cells (g := g0) rfl
   have hr2 := Lib.run_append_grow_string (P := P) w t u ty e i (.int .u8 0) ht hu hi hz ⟨g0, 0, none⟩ n cap xs (by rw [hsize]; simpa using hxl) holds s (by omega) (by omega) (by rw [hby]; exact growslice_fits (by omega) (by omega))
   rw [hr] at hr2
   cases hr2
   right
   have : w.heap.size = g := by simpa [Value.ownBlock] using hg
   omega
theorem appS {P : Program} {w0 : World} {ops : Array Oper} {rest : List Oper} {o : Oper} {a : Act} {Q : Exit → Act → World → Prop} (hgd : o.guard = none) (s x : Operand) (t u : TypeId)
  (ho : o.op = .call { callee := .builtin .append, args := #[s, x], argTypes := #[t, u] })
  (e : TypeId) (hinfo : (P.info? e).map (fun i => (i.zero, i.size, i.bytes)) = some (some (.int .u8 0), 1, 1)) (ht : P.underlying t = some (.slice e)) (hu : P.underlying u = some .string)
  (v : Value) (n : Nat) (xs : List Value) (hs : a.eval s = v) (hown : w0.ownsRow 0 e 1 v n xs) (y : ByteArray) (hx : a.eval x = .string y) (hb : n + y.size ≤ 140737488355328)
  (h : ∀ v' w', w'.ownsRow 0 e 1 v' (n + y.size) (xs ++ Lib.strCells y) → Kept (fun k => v.ownBlock = some k) w0 w' → (∀ g, v'.ownBlock = some g → v.ownBlock = some g ∨ w0.heap.size ≤ g) → wpList P ops Q rest (a.put o.dst v') w') : wpList P ops Q (o :: rest) a w0 := by
 obtain ⟨i0, hi, hz0, hz1, hz2⟩ := info_parts hinfo
 refine wpList_plain hgd fun K hK => ?_
 obtain ⟨v', w', hr, h2, h3, h4⟩ := run_appendS_place (P := P) w0 t u o.type e i0 ht hu hi hz0 hz1 hz2 v n xs hown y hb
 unfold Oper.wp execOp
 simp only [ho, resolve, invoke, builtin, Sem.run_bind, Sem.run_pure, Result.andThen_ok, List.map_toArray, List.map_cons, List.map_nil, hs, hx, hr]
 exact hK _ _ (h v' w' h2 ((Kept.refl _ w0).grown h3 (fun k e _ => e)) h4)
def BldO (b : Nat) (l : List UInt8) (L : Ows) : Prop := ∃ p v ow, L = (b, 126, [p, v]) :: ow ∧ (p = .pointer none ∨ p = .pointer (some ⟨b, 0, none⟩)) ∧ OwnL 5 1 v l.length (Lib.byteCells l) ow
theorem BldO.new (b : Nat) : BldO b [] [(b, 126, [.pointer none, .slice none 0 0])] := ⟨_, _, [], rfl, .inl rfl, OwnL.nil _ _⟩
theorem bldCheck_box (b : Nat) (p v : Value) (w : World) (hp : p = .pointer none ∨ p = .pointer (some ⟨b, 0, none⟩)) (hB : Box w b #[p, v] 126) :
  Calls Tryz.prog 119 #[.pointer (some ⟨b, 0, none⟩)] w fun e w' => e = .returned (.tuple #[]) ∧ Box w' b #[.pointer (some ⟨b, 0, none⟩), v] 126 ∧ Kept (· = b) w w' := by
 have c0 : w.cell? ⟨b, 0, none⟩ = some p := by rw [Lib.cell_of_heap hB]; rfl
 rcases hp with rfl | rfl
 ·refine (bldCheck_fresh b w c0 (by have h := hB; unfold Box at h; simp [World.shape?, h]) (Lib.frozen_of_heap hB 0)).mono ?_
  rintro e w' ⟨rfl, rfl⟩
  refine ⟨rfl, ?_, Kept.setCell (X := (· = b)) (p := ⟨b, 0, none⟩) (Kept.refl _ w) (fun _ => rfl) _⟩
  have h := hB; unfold Box at h ⊢
  simp [World.setCell, Array.getElem?_modify, h]
 ·refine (bldCheck_used b w c0).mono ?_
  rintro e w' ⟨rfl, rfl⟩
  exact ⟨rfl, hB, Kept.refl _ _⟩
theorem row_of_ownL {H : Hp} {W : World} {L pre post : Ows} {e : TypeId} {v : Value} {m : Nat} {xs : List Value} {ow : Ows} (h : OwnL e 1 v m xs ow) (he : L = pre ++ (ow ++ post)) (hL : ∀ (j b : Nat) (T : TypeId) (cs : List Value), L[j]? = some (b, T, cs) → Box W b cs.toArray T ∧ H b = none ∧ gH b = none) : W.ownsRow 0 e 1 v m xs := by
 refine ⟨h.1, ?_⟩
 rcases h.2 with ⟨h2, h3, _⟩ | ⟨g, cap, sp, h2, h3, h4, h5, h6⟩
 ·exact .inl ⟨h2, h3⟩
 ·have hjg : L[pre.length]? = some (g, e, xs ++ sp) := by rw [he, h3]; simp
  exact .inr ⟨g, cap, (xs ++ sp).toArray, h2, Nat.zero_le _, (hL _ _ _ _ hjg).1, h5, h6, by simpa using h4, by simp only [List.toList_toArray]; rw [← h.1]; exact List.take_left⟩
set_option maxRecDepth 100000 in
set_option maxHeartbeats 800000 in
theorem bldWrite_any {H : Hp} {W : World} {b : Nat} {p v : Value} {l : List UInt8} {ow : Ows} (s : ByteArray) (hp : p = .pointer none ∨ p = .pointer (some ⟨b, 0, none⟩)) (hown : OwnL 5 1 v l.length (Lib.byteCells l) ow) (hlen : l.length + s.size ≤ 100000000000)
  (hL : ∀ (j k : Nat) (T : TypeId) (cs : List Value), ((b, 126, [p, v]) :: ow)[j]? = some (k, T, cs) → Box W k cs.toArray T ∧ H k = none ∧ gH k = none) :
  Calls Tryz.prog 87 #[.pointer (some ⟨b, 0, none⟩), .string s] W fun e W' => e = .returned (.tuple #[.int .i64 s.size, .nilIface]) ∧ ∃ v', Box W' b #[.pointer (some ⟨b, 0, none⟩), v'] 126 ∧ W'.ownsRow 0 5 1 v' (l.length + s.size) (Lib.byteCells l ++ Lib.strCells s) ∧ Kept (fun k => k = b ∨ v.ownBlock = some k) W W' ∧ ∀ g, v'.ownBlock = some g → v.ownBlock = some g ∨ W.heap.size ≤ g := by
 have hB := (hL 0 b _ _ rfl).1
 have hrow : W.ownsRow 0 5 1 v l.length (Lib.byteCells l) := row_of_ownL (pre := [(b, 126, [p, v])]) (post := []) hown (by simp) hL
 go_enter Tryz.func87, Tryz.ntmps87
 go_wp2_with fail
 refine (bldCheck_box b p v _ hp hB).mono ?_
 rintro e w1 ⟨rfl, hB1, hk1⟩
 have hbk : w1.heap[b]? = some (.cells #[.pointer (some ⟨b, 0, none⟩), v] 126 (0, 0)) := hB1
 have c1 : w1.cell? ⟨b, 1, none⟩ = some v := by rw [Lib.cell_of_heap hbk]; rfl
 have hne : v.ownBlock ≠ some b := Lib.ownBlock_ne hrow hB (by decide)
 have hrow1 : w1.ownsRow 0 5 1 v l.length (Lib.byteCells l) := by
  refine hrow.kept (row := some b) ⟨hk1.os, hk1.tape, hk1.output, hk1.size, fun k hk hne => hk1.block k hk (fun e => hne (by rw [e]))⟩ (.inr hne)
 have hs1 := hk1.size
 go_wp2_with (at_builtin; refine appS rfl _ _ _ _ rfl 5 Tryz.infoU8 Tryz.underlying22 Tryz.underlying9 _ _ _ rfl hrow1 s rfl (by omega) ?_)
 intro v' w2 hown2 hk2 hpl
 have hlt := hB.lt
 have hb2 : w2.heap[b]? = some (.cells #[.pointer (some ⟨b, 0, none⟩), v] 126 (0, 0)) := by rw [hk2.block b (by omega) hne]; exact hbk
 have d1 : w2.cell? ⟨b, 1, none⟩ = some v := by rw [Lib.cell_of_heap hb2]; rfl
 have f1 : w2.frozen? ⟨b, 1, none⟩ = false := Lib.frozen_of_heap hb2 1
 obtain ⟨ao, n', cap, rfl⟩ : ∃ ao n' cap, v' = .slice ao n' cap := by
  rcases hown2.2 with ⟨hv, _⟩ | ⟨g, cap, cur, hv, _⟩
  ·exact ⟨_, _, _, hv⟩
  ·exact ⟨_, _, _, hv⟩
 go_wp2
 go_ret2
 have hne2 : (Value.slice ao n' cap).ownBlock ≠ some b := Lib.ownBlock_ne hown2 hb2 (by decide)
 refine ⟨rfl, .slice ao n' cap, ?_, ?_, ?_, fun g hg => (hpl g hg).imp id fun h => by omega⟩
 ·unfold Box
  simp [World.setCell, Array.getElem?_modify, hb2]
 ·exact hown2.kept (row := some b) ⟨rfl, rfl, rfl, by simp [World.setCell], fun k _ hk => Below.heap_setCell _ _ _ _ (fun e => hk (by simp [e]))⟩ (.inr hne2)
 ·exact ((hk1.mono fun k _ e => .inl e).trans (hk2.mono fun k _ e => .inr e)).setCell (p := ⟨b, 1, none⟩) (fun _ => .inl rfl) _
theorem bldWrite_pw {H : Hp} {b : Nat} {l : List UInt8} {L : Ows} (s : List UInt8) (h : BldO b l L) (hlen : l.length + s.length ≤ 100000000000) :
  PW Tryz.prog 87 #[.pointer (some ⟨b, 0, none⟩), .string (sb s)] H L fun r ow _ => r = .tuple #[.int .i64 s.length, .nilIface] ∧ BldO b (l ++ s) ow := by
 obtain ⟨p, v, ow, rfl, hp, hown⟩ := h
 refine ⟨(cOf Tryz.func87 rfl (by kernel_rfl)), fun W hf hg hL hd => ?_⟩
 have hsz : (sb s).size = s.length := by simp [sb, ByteArray.size]
 refine (bldWrite_any (sb s) hp hown (by rw [hsz]; exact hlen) hL).mono ?_
 rw [hsz]
 rintro e W' ⟨rfl, v', hB', hrow', hk, hpl⟩
 obtain ⟨ow', how', hl1, hnew⟩ := ownL_of_row hrow'
 have vb : ∀ k, v.ownBlock = some k → ∃ xs, ow = [(k, 5, xs)] := fun k hk => by
  rcases hown.2 with ⟨h2, _, _⟩ | ⟨g, cap, sp, h2, h3, _⟩
  ·rw [h2] at hk; cases hk
  ·rw [h2] at hk; cases hk; exact ⟨_, h3⟩
 have vH : ∀ k, v.ownBlock = some k → H k = none ∧ k ∈ Ows.bs ((b, 126, [p, v]) :: ow) := fun k hk => by
  obtain ⟨xs, h2⟩ := vb k hk
  exact ⟨(hL 1 k _ xs (by rw [h2]; rfl)).2.1, Ows.bs_mem (j := 1) (T := 5) (cs := xs) (by rw [h2]; rfl)⟩
 obtain ⟨hB, hHb, _⟩ := hL 0 b _ _ rfl
 have hbt : Lib.strCells (sb s) = Lib.byteCells s := by rw [Lib.strCells_eq]
 rw [hbt, ← Lib.byteCells_append, show l.length + s.length = (l ++ s).length by simp] at how'
 have hob : ∀ k T cs, (k, T, cs) ∈ ow' → v'.ownBlock = some k := fun k T cs hm => by
  rcases how'.2 with ⟨_, _, h3⟩ | ⟨g, cap, sp, h2, h3, _⟩
  ·rw [h3] at hm; cases hm
  ·rw [h3] at hm
   rw [h2]
   simp at hm
   simp [Value.ownBlock, hm.1]
 have hneb : v'.ownBlock ≠ some b := Lib.ownBlock_ne hrow' hB' (by decide)
 refine ⟨_, (b, 126, [.pointer (some ⟨b, 0, none⟩), v']) :: ow', H, rfl, ⟨rfl, _, v', ow', rfl, .inr rfl, how'⟩, Hp.Le.refl _, fun k c hc => ?_, Nw.refl _ _ _, hk.mono (fun k _ e => ?_), fun j k T1 cs hj => ?_, ?_⟩
 ·obtain ⟨T3, fz, hW⟩ := hf k c hc
  refine ⟨T3, fz, ?_⟩
  rw [hk.block k (hf.lt (by rw [hc]; simp)) (fun e => ?_)]
  ·exact hW
  ·rcases e with e | e
   ·subst e; rw [hHb] at hc; cases hc
   ·rw [(vH k e).1] at hc; cases hc
 ·rcases e with e | e
  ·subst e; exact Ows.bs_mem (j := 0) rfl
  ·exact (vH k e).2
 ·cases j with
  | zero =>
   cases (show some (b, 126, [Value.pointer (some ⟨b, 0, none⟩), v']) = some (k, T1, cs) from hj)
   exact ⟨hB', .inr (Ows.bs_mem (j := 0) rfl), hHb⟩
  | succ j =>
   have hm : (k, T1, cs) ∈ ow' := List.mem_of_getElem? (by simpa using hj)
   refine ⟨(hnew _ _ _ hm).2, ?_, ?_⟩
   ·rcases hpl k (hob _ _ _ hm) with e | e
    ·exact .inr (vH k e).2
    ·exact .inl e
   ·rcases hpl k (hob _ _ _ hm) with e | e
    ·exact (vH k e).1
    ·cases hc : H k with
     | none => rfl
     | some c => have := hf.lt (b := k) (by rw [hc]; simp); omega
 ·intro j j' k T1 T2 c1 c2 h1 h2
  have nb : ∀ (j : Nat) (T : TypeId) (cs : List Value), ow'[j]? = some (b, T, cs) → False := fun j T cs hj => hneb (hob _ _ _ (List.mem_of_getElem? hj))
  cases j with
  | zero =>
   simp only [List.getElem?_cons_zero, Option.some.injEq, Prod.mk.injEq] at h1
   cases j' with
   | zero => rfl
   | succ j' => rw [← h1.1] at h2; exact (nb j' _ _ (by simpa using h2)).elim
  | succ j =>
   cases j' with
   | zero =>
    simp only [List.getElem?_cons_zero, Option.some.injEq, Prod.mk.injEq] at h2
    rw [← h2.1] at h1; exact (nb j _ _ (by simpa using h1)).elim
   | succ j' =>
    have e1 := (List.getElem?_eq_some_iff.1 (show ow'[j]? = some (k, T1, c1) by simpa using h1)).1
    have e2 := (List.getElem?_eq_some_iff.1 (show ow'[j']? = some (k, T2, c2) by simpa using h2)).1
    omega
theorem Kept.freeze {X : Nat → Prop} {a w : World} (h : Kept X a w) {p : Addr} (hp : p.block < a.heap.size → X p.block) (n : Nat) : Kept X a (w.freeze p n) := by
 unfold World.freeze
 split
 ·exact h
 ·refine ⟨h.os, h.tape, h.output, by simpa using h.size, fun k hk hx => ?_⟩
  simp only [Array.getElem?_modify]
  rw [if_neg (fun e => hx (by rw [← e]; exact hp (by rw [e]; exact hk)))]
  exact h.block k hk hx
theorem Tryz.cellsU8 : Tryz.prog.cellsOf 5 = 1 := by kernel_rfl
set_option maxHeartbeats 1000000 in
set_option maxRecDepth 100000 in
theorem bldString_any {W : World} {b g cap : Nat} {p : Value} {l : List UInt8} {cur : Array Value} (h0 : l ≠ []) (hB : Box W b #[p, .slice (some ⟨g, 0, none⟩) l.length cap] 126) (hg : Box W g cur 5) (hnc : l.length ≤ cap) (hcm : cap ≤ maxLen) (hcs : cur.size = cap) (htake : cur.toList.take l.length = Lib.byteCells l) :
  Calls Tryz.prog 89 #[.pointer (some ⟨b, 0, none⟩)] W fun e W' => e = .returned (.string ⟨l.toArray⟩) ∧ W' = W.drew.freeze ⟨g, 0, none⟩ l.length := by
 have hl0 : l.length ≠ 0 := by simpa using h0
 have hg' : W.drew.heap[g]? = some (.cells cur 5 (0, 0)) := hg
 have c1 : W.drew.cell? ⟨b, 1, none⟩ = some (.slice (some ⟨g, 0, none⟩) l.length cap) := by
  have : W.drew.heap[b]? = some (.cells #[p, .slice (some ⟨g, 0, none⟩) l.length cap] 126 (0, 0)) := hB
  rw [Lib.cell_of_heap this]; rfl
 have hSD : (Builtin.unsafeSliceData_ #[22] 164 #[.slice (some ⟨g, 0, none⟩) l.length cap]).run Tryz.prog W.drew = .ok (.pointer (some ⟨g, 0, none⟩)) W.drew :=
  Lib.run_unsafeSliceData_row _ _ _ _ _ _ (by omega)
 have hUS : (Builtin.unsafeString_ #[164, 3] 9 #[.pointer (some ⟨g, 0, none⟩), .int .i64 l.length]).run Tryz.prog W.drew = .ok (.string ⟨l.toArray⟩) (W.drew.freeze ⟨g, 0, none⟩ l.length) := by
  refine Lib.run_unsafeString_row W.drew 164 3 9 5 Tryz.underlying164 Tryz.cellsU8 g cur.size (by simp [World.shape?, hg']) l h0 (by omega) (by simp only [maxLen] at hcm; omega) ?_
  intro j x hx
  have hj := (List.getElem?_eq_some_iff.1 hx).1
  have e1 : cur.toList[j]? = some (.int .u8 x.toNat) := by
   have : (cur.toList.take l.length)[j]? = some (.int .u8 x.toNat) := by rw [htake]; simp [Lib.byteCells, hx]
   rwa [List.getElem?_take_of_lt hj] at this
  rw [Addr.add_mid, Nat.zero_add, Lib.cell_of_heap hg']
  simpa using e1
 have mixed : Tryz.prog.follows Departure.mixedOrders = true := by kernel_rfl
 go_enter Tryz.func89, Tryz.ntmps89
 go_wp2
 go_region_o
 all_goals (go_wp2; go_ret; exact ⟨rfl, rfl⟩)
theorem bldString_pw {H : Hp} {b : Nat} {l : List UInt8} {L : Ows} (h : BldO b l L) (h0 : l ≠ []) : PW Tryz.prog 89 #[.pointer (some ⟨b, 0, none⟩)] H L fun r ow _ => r = .string (sb l) ∧ ow = [] := by
 obtain ⟨p, v, ow, rfl, hp, hown⟩ := h
 have hl : 0 < l.length := List.length_pos_iff.2 h0
 refine ⟨(cOf Tryz.func89 rfl (by kernel_rfl)), fun W hf hg hL hd => ?_⟩
 obtain ⟨g, cap, sp, rfl, rfl, hsp, hnc, hcm⟩ := hown.block hl
 obtain ⟨hB, hHb, _⟩ := hL 0 b _ _ rfl
 obtain ⟨hG, hHg, _⟩ := hL 1 g _ _ rfl
 refine (bldString_any (cur := (Lib.byteCells l ++ sp).toArray) h0 hB hG hnc hcm (by simpa using hsp) (by simp only [List.toList_toArray]; rw [show l.length = (Lib.byteCells l).length by rw [Lib.byteCells_length]]; exact List.take_left)).mono ?_
 rintro e W' ⟨rfl, rfl⟩
 have hk : Kept (fun k => k ∈ Ows.bs [(b, 126, [p, .slice (some ⟨g, 0, none⟩) l.length cap]), (g, 5, Lib.byteCells l ++ sp)]) W (W.drew.freeze ⟨g, 0, none⟩ l.length) :=
  Kept.freeze (p := ⟨g, 0, none⟩) (Kept.refl _ W).drew (fun _ => Ows.bs_mem (j := 1) rfl) _
 refine ⟨_, [], H, rfl, ⟨rfl, rfl⟩, Hp.Le.refl _, fun k c hc => ?_, Nw.refl _ _ _, hk, fun j k T1 cs hj => (by simp at hj), fun j j' k T1 T2 c1 c2 h1 h2 => (by simp at h1)⟩
 obtain ⟨T3, fz, hW⟩ := hf k c hc
 refine ⟨T3, fz, ?_⟩
 rw [hk.block k (hf.lt (by rw [hc]; simp)) (fun e => ?_)]
 ·exact hW
 ·simp [Ows.bs] at e
  rcases e with e | e
  ·subst e; rw [hHb] at hc; cases hc
  ·subst e; rw [hHg] at hc; cases hc
theorem repeat_pv (s : List UInt8) (c : Nat) (hc : c ≤ 1000000) (hs : s.length ≤ 1000000) : PV Tryz.prog 88 #[.string (sb s), .int .i64 (c : Int)] (.string (sb (Lib.repeatL s c))) :=
 ⟨(cOf Tryz.func88 rfl (by kernel_rfl)), fun W _ => Tryz.strings_Repeat (sb s) c W (by omega) (by
  have e : (sb s).size = s.length := by simp [sb, ByteArray.size]
  rw [e]
  have := Nat.mul_le_mul hs hc
  omega)⟩
theorem ten64 : n64 Ten19 = .int .u64 10000000000000000000 := rfl
theorem sb_size (l : List UInt8) : (sb l).size = l.length := by simp [sb, ByteArray.size]
theorem rep48 (c : Nat) : Lib.repeatL [48] c = List.replicate c 48 := by
 induction c with
 | zero => rfl
 | succ c ih => rw [Lib.repeatL, ih, List.replicate_succ]; rfl
theorem trimL_split (q junk : List Nat) : q ++ junk = trimL q ++ (q.drop (trimL q).length ++ junk) := by
 rw [← List.append_assoc]
 congr 1
 exact (List.take_append_drop (trimL q).length q).symm.trans (by rw [trimL_take])
theorem textP_len : ∀ l : List Nat, (∀ x, x ∈ l → x < Ten19) → (textP l).length ≤ l.length * 19
 | [], _ => Nat.le_refl _
 | [x], h => by
  have := (padD_zeros 18 x (h x (List.mem_singleton.2 rfl))).2
  show (Lib.decDigits x).length ≤ 1 * 19
  omega
 | x :: y :: l, h => by
  have := textP_len (y :: l) fun z hz => h z (List.mem_cons_of_mem _ hz)
  show (textP (y :: l) ++ padD 19 x).length ≤ (l.length + 1 + 1) * 19
  rw [List.length_append, padD_len]
  rw [List.length_cons] at this
  omega
set_option maxRecDepth 100000 in
set_option maxHeartbeats 16000000 in
theorem natTextA_pc {H : Hp} (n : Nat) (hn : big n) (hT : PowT H) : PC Tryz.prog 51 #[natV n] H fun r _ => r = .string (decS n) := by
 by_cases h64 : n < 18446744073709551616
 ·exact natText_pc n h64 hT
 have hn0 : n ≠ 0 := by omega
 have hdl : 2 ≤ (dig W64 n).length := by
  have h1 : n / W64 ≠ 0 := Nat.pos_iff_ne_zero.1 (Nat.div_pos (show 18446744073709551616 ≤ n by omega) (by decide))
  rw [dig_pos W64_two hn0, dig_pos W64_two h1]
  simp
 have hlb := dig_len_big hn
 have hDn := dig_norm W64_two n
 have hvn : val W64 (dig W64 n) = n := dig_val W64_two n
 have hwf := fun G => words_full n hn0 hn G
 have hTl : (dig Ten19 n).length ≤ 1000000000 := Nat.le_trans (dig_len_le Ten_two n (bl n) (Nat.lt_of_lt_of_le (lt_bl n) (Nat.pow_le_pow_left Ten_two _))) hn
 generalize hLe : dig W64 n = L at *
 refine PC.body Tryz.tab_ok Tryz.func51 rfl (by kernel_rfl) Tryz.ntmps51 rfl rfl ?_
 (try refine RUN ?_)
 refine EVL.callO rfl rfl rfl rfl rfl (hwf _) ?_
 rintro _ _ ⟨g, rfl, rfl⟩
 (try refine RUN ?_)
 rw [decide_eq_false (show ¬ (L.length : Int) ≤ 1 by omega)]
 (first | refine EVL.swapOw ([(g, 39, (L ++ []).map n64)]) ([]) ((by rw [show (L ++ ([] : List Nat)) = L from List.append_nil L])) ?_ | refine EV.swapOw ([(g, 39, (L ++ []).map n64)]) ([]) ((by rw [show (L ++ ([] : List Nat)) = L from List.append_nil L])) ?_)
 (try refine RUN ?_)
 refine EV.loopK (ι := List Nat × List Nat × List Nat × Value × Ows) [] [] (fun s => [(3, .v (.slice (some ⟨g, 0, none⟩) s.1.length L.length)), (4, .v s.2.2.2.1)]) (fun _ => []) (fun s => (g, 39, (s.1 ++ s.2.1).map n64) :: s.2.2.2.2) (fun s _ => Norm W64 s.1 ∧ s.1.length ≤ L.length ∧ OwnL 39 1 s.2.2.2.1 s.2.2.1.length (s.2.2.1.map n64) s.2.2.2.2 ∧ s.2.2.1 ++ dig Ten19 (val W64 s.1) = dig Ten19 n ∧ ∀ x, x ∈ s.2.2.1 → x < Ten19) (fun s => val W64 s.1) ((L, [], [], .slice none 0 0, [])) rfl rfl ⟨rfl, rfl, trivial⟩ trivial rfl (fun _ => rfl) (⟨hDn, Nat.le_refl _, OwnL.nil _ _, by rw [List.nil_append, hvn], fun x hx => by cases hx⟩) ?_
 rintro ⟨w, junk, ps, vp, op⟩ G1 hG1 ⟨hw, hwl, hop, hps, hpb⟩
 dsimp only at hw hwl hop hps hpb
 obtain ⟨pa, pc, rfl⟩ := hop.val
 have hD := hw.1
 by_cases h0 : w = []
 ·subst h0
  have hpe : ps = dig Ten19 n := by
   rw [← hps]
   show ps = ps ++ dig Ten19 0
   rw [dig_zero, List.append_nil]
  have hpn : ps ≠ [] := fun e => by
   have := textP_dig n hn0
   rw [← hpe, e] at this
   exact decD_ne n this.symm
  have htx : textP ps = Lib.decDigits n := by rw [hpe]; exact textP_dig n hn0
  have hdn : (Lib.decDigits n).length ≤ 20000000000 := by
   rw [← htx, hpe]
   exact Nat.le_trans (textP_len _ fun x hx => by rw [← hpe] at hx; exact hpb x hx) (by omega)
  rw [← hpe] at hTl
  have hpl : 0 < ps.length := List.length_pos_iff.2 hpn
  clear hpe hps
  (try refine RUN ?_)
  (first | refine EVL.subOw [] [(g, _, _)] op rfl ?_ | refine EV.subOw [] [(g, _, _)] op rfl ?_)
  (first | refine EVL.publishL [] op [] ((List.append_nil _).symm) hop fun G2 hG2 hs2 => ?_ | refine EV.publishL [] op [] ((List.append_nil _).symm) hop fun G2 hG2 hs2 => ?_)
  (try refine RUN ?_)
  (first | refine EVL.unbox (6) rfl fun gb => ?_ | refine EV.unbox (6) rfl fun gb => ?_)
  (try refine RUN ?_)
  refine EV.loopK (ι := Nat × Ows) [4, 6] [] (fun s => [(7, .v (.int .i64 ((s.1 : Int) - 1)))]) (fun _ => []) (fun s => s.2) (fun s _ => s.1 ≤ ps.length ∧ BldO gb (textP (ps.drop s.1)) s.2) (fun s => s.1) ((ps.length, [(gb, 126, [.pointer none, .slice none 0 0])])) rfl rfl ⟨(by dsimp only; rw [show IntKind.i64.wrap ((ps.length : Int) - 1) = (ps.length : Int) - 1 by rw [IntKind.wrap_i64]; omega]; rfl), trivial⟩ trivial rfl (fun _ => rfl) (⟨Nat.le_refl _, by dsimp only; rw [List.drop_length]; exact BldO.new gb⟩) ?_
  rintro ⟨j, Lb⟩ G3 hG3 ⟨hj, hb⟩
  dsimp only at hj hb
  by_cases hj0 : j = 0
  ·subst hj0
   rw [List.drop_zero, htx] at hb
   (try refine RUN ?_)
   refine EVL.callW rfl rfl rfl rfl rfl Lb [] (List.append_nil _).symm (bldString_pw hb (decD_ne n)) ?_
   rintro _ _ G4 ⟨rfl, rfl⟩ hG4
   (try refine RUN ?_)
   rfl
  ·obtain ⟨i, rfl⟩ : ∃ i, j = i + 1 := ⟨j - 1, by omega⟩
   obtain ⟨x, hx⟩ : ∃ x, ps[i]? = some x := ⟨_, List.getElem?_eq_getElem (by omega)⟩
   have hxb := hpb x (List.mem_of_getElem? hx)
   have hxl : x < 10 ^ (18 + 1) := hxb
   obtain ⟨hp1, hp2⟩ := padD_zeros 18 x hxl
   have hdrop : ps.drop i = x :: ps.drop (i + 1) := by
    rw [List.drop_eq_getElem_cons (by omega)]
    congr 1
    exact (List.getElem?_eq_some_iff.1 hx).2
   have htl : (textP (ps.drop (i + 1))).length ≤ 20000000000 := Nat.le_trans (textP_len _ fun y hy => hpb y (List.mem_of_mem_drop hy)) (by rw [List.length_drop]; omega)
   have hfmt := fmt_pc (H := G3) x (Nat.lt_trans hxb (by decide)) ((hT.mono (hG1.trans hG2)).mono hG3)
   have hrep := repeat_pv [48] (19 - (Lib.decDigits x).length) (by omega) (by simp)
   have wi : IntKind.i64.wrap ((i : Int) - 1) = (i : Int) - 1 := by rw [IntKind.wrap_i64]; omega
   have wl : IntKind.i64.wrap ((ps.length : Int) - 1) = (ps.length : Int) - 1 := by rw [IntKind.wrap_i64]; omega
   rw [show ((i + 1 : Nat) : Int) - 1 = (i : Int) by omega]
   (try refine RUN ?_)
   rw [decide_eq_true (show (i : Int) ≥ 0 by omega)]
   (try refine RUN ?_)
   refine EVL.idxR Tryz.tab_ok rfl rfl rfl rfl rfl rfl rfl rfl rfl rfl ((SlC.mono hs2 hG3)) (i) (rfl) ((by omega)) ((by rw [List.getElem?_map, hx]; rfl)) ?_
   repeat (first | refine RUN ?_ | refine CV (hfmt) ?_ | refine CE (hfmt) ?_)
   rw [wl]
   refine EV.meetK (ι := Ows) [4, 6, 7, 8] [] (fun _ => []) (fun _ => []) (fun L => L) (fun L G => G3.Le G ∧ BldO gb (if i + 1 < ps.length then textP (ps.drop (i + 1)) ++ List.replicate (19 - (Lib.decDigits x).length) 48 else []) L) rfl rfl (fun _ => rfl) ?_ ?_
   ·by_cases hlast : i + 1 < ps.length
    ·rw [decide_eq_true (show (i : Int) < (ps.length : Int) - 1 by omega)]
     rw [if_pos hlast]
     rw [rep48] at hrep
     (try refine RUN ?_)
     rw [sb_size, show IntKind.i64.wrap (19 - ((Lib.decDigits x).length : Int)) = ((19 - (Lib.decDigits x).length : Nat) : Int) by rw [IntKind.wrap_i64]; omega]
     repeat (first | refine RUN ?_ | refine CV (hrep) ?_ | refine CE (hrep) ?_)
     refine EVL.callW rfl rfl rfl rfl rfl Lb [] (List.append_nil _).symm (bldWrite_pw (List.replicate (19 - (Lib.decDigits x).length) 48) hb (by rw [List.length_replicate]; omega)) ?_
     rintro _ ow1 G4 ⟨rfl, hb1⟩ hG4
     (try refine RUN ?_)
     exact ⟨ow1, trivial, (by repeat (first | exact trivial | refine And.intro rfl ?_)), trivial, trivial, List.append_nil _, hG4, hb1⟩
    ·rw [decide_eq_false (show ¬ (i : Int) < (ps.length : Int) - 1 by omega)]
     rw [if_neg hlast]
     have hbn : BldO gb [] Lb := by
      rw [List.drop_of_length_le (by omega)] at hb
      exact hb
     (try refine RUN ?_)
     exact ⟨Lb, trivial, (by repeat (first | exact trivial | refine And.intro rfl ?_)), trivial, trivial, rfl, Hp.Le.refl _, hbn⟩
   ·rintro Lc G5 ⟨hG5, hbc⟩
    (try refine RUN ?_)
    refine EVL.callW rfl rfl rfl rfl rfl Lc [] (List.append_nil _).symm (bldWrite_pw (Lib.decDigits x) hbc (by
     split
     ·rw [List.length_append, List.length_replicate]; omega
     ·rw [List.length_nil]; omega)) ?_
    rintro _ ow1 G6 ⟨rfl, hb1⟩ hG6
    (try refine RUN ?_)
    refine ⟨(i, ow1), ⟨by dsimp only; rw [wi]; rfl, trivial⟩, (by repeat (first | exact trivial | refine And.intro rfl ?_)), trivial, trivial, List.append_nil _, ⟨by dsimp only; omega, ?_⟩, hG5.trans hG6, by dsimp only; omega⟩
    dsimp only
    rw [hdrop]
    by_cases hlast : i + 1 < ps.length
    ·rw [if_pos hlast, List.append_assoc, ← hp1] at hb1
     rw [textP_cons (fun e => by have := congrArg List.length e; rw [List.length_drop, List.length_nil] at this; omega)]
     exact hb1
    ·rw [if_neg hlast, List.nil_append] at hb1
     rw [List.drop_of_length_le (by omega)]
     exact hb1
 ·have hwp := List.length_pos_iff.2 h0
  have hdv := fun (G : Hp) => divWordP_pw (H := G) (b := g) (cap := L.length) (T := 39) (l := w) (junk := junk) (d := Ten19) hD (by omega) hwl (by omega) (by decide) (by decide)
  rw [ten64] at hdv
  have hvp : 0 < val W64 w := Nat.lt_of_lt_of_le (Nat.pow_pos (by decide)) (norm_val_pos (by decide) hw h0)
  (try refine RUN ?_)
  rw [decide_eq_true (show (w.length : Int) > 0 by omega)]
  (try refine RUN ?_)
  refine EVL.callW rfl rfl rfl rfl rfl ([(g, 39, (w ++ junk).map n64)]) (op) rfl (hdv _) ?_
  rintro _ _ G2 ⟨q, rfl, rfl, hql, hqD, hqv⟩ hG2
  (first | refine EVL.swapOw ([(g, 39, (q ++ junk).map n64)]) (op) (rfl) ?_ | refine EV.swapOw ([(g, 39, (q ++ junk).map n64)]) (op) (rfl) ?_)
  (try refine RUN ?_)
  refine EVL.app1 Tryz.tab_ok rfl rfl rfl rfl rfl rfl rfl rfl rfl rfl rfl rfl rfl rfl rfl rfl rfl rfl rfl (fun _ => rfl) (op) ([(g, 39, (q ++ junk).map n64)]) (rfl) (hop) ((by have h1 := congrArg List.length hps; rw [List.length_append, dig_pos Ten_two (show val W64 w ≠ 0 by omega), List.length_cons] at h1; omega)) fun _ => ?_
  intro v' op' hop'
  (first | refine EVL.swapOw (op') ([(g, 39, (q ++ junk).map n64)]) (rfl) ?_ | refine EV.swapOw (op') ([(g, 39, (q ++ junk).map n64)]) (rfl) ?_)
  (try refine RUN ?_)
  have htl := trimL_length_le q
  refine ⟨(trimL q, q.drop (trimL q).length ++ junk, ps ++ [val W64 w % Ten19], v', op'), ⟨rfl, rfl, trivial⟩, trivial, trivial, trivial, ?_, ⟨trimL_norm hqD, ?_, ?_, ?_, ?_⟩, hG2, ?_⟩
  ·dsimp only; rw [trimL_split q junk]; rfl
  ·dsimp only; omega
  ·dsimp only; rw [List.length_append, List.map_append]; exact hop'
  ·dsimp only
   rw [trimL_val, hqv, ← hps, List.append_assoc, dig_pos Ten_two (show val W64 w ≠ 0 by omega)]; rfl
  ·intro x hx
   rcases List.mem_append.1 hx with h | h
   ·exact hpb x h
   ·rw [List.mem_singleton.1 h]; exact Nat.mod_lt _ (by decide)
  ·dsimp only
   rw [trimL_val, hqv]
   exact Nat.div_lt_self hvp (by decide)
theorem isDg_iff {c : UInt8} : isDg c = true ↔ 48 ≤ c.toNat ∧ c.toNat ≤ 57 := by
 unfold isDg
 rw [Bool.and_eq_true, decide_eq_true_eq, decide_eq_true_eq]
theorem dgv {c : UInt8} (h : isDg c = true) : IntKind.u64.wrap (IntKind.u8.wrap ((c.toNat : Int) - 48)) = (dV c : Int) := by
 obtain ⟨h1, h2⟩ := isDg_iff.1 h
 rw [IntKind.wrap_u8, IntKind.wrap_u64]
 unfold dV
 omega
structure ParInv (s : List UInt8) (i : Nat) (l : List Nat) (part unit : Nat) : Prop where
 le : i ≤ s.length
 dig : Dig W64 l
 len : l.length ≤ i
 pow : ∃ c, c ≤ 18 ∧ unit = 10 ^ c ∧ part < 10 ^ c
 sum : val W64 l * unit + part = valD (s.take i)
 all : (s.take i).all isDg = true
 last : i = s.length → 1 ≤ i → part = 0 ∧ unit = 1
def startOk (s : List UInt8) : Prop := 1 ≤ s.length ∧ s.length ≤ 200 ∧ ¬ (1 < s.length ∧ s.head? = some 48)
instance (s : List UInt8) : Decidable (startOk s) := by unfold startOk; exact inferInstance
theorem pow_le19 {c : Nat} (h : c ≤ 18) : 10 ^ c ≤ 1000000000000000000 := Nat.le_trans (Nat.pow_le_pow_right (by omega) h) (by decide)
theorem pow_19 {c : Nat} (h : c ≤ 18) : 10 ^ c * 10 = 10000000000000000000 ↔ c = 18 := by
 constructor
 ·intro e
  by_cases h2 : c ≤ 17
  ·have : 10 ^ c ≤ 10 ^ 17 := Nat.pow_le_pow_right (by omega) h2
   have h3 : (10 : Nat) ^ 17 = 100000000000000000 := by decide
   omega
  ·omega
 ·rintro rfl; decide
set_option maxRecDepth 100000 in
set_option maxHeartbeats 16000000 in
theorem natParse_pc {H : Hp} (s : List UInt8) : PC Tryz.prog 66 #[.string (sb s)] H fun r _ => r = .tuple #[natV ((pN s).getD 0), .bool (pN s).isSome] := by
 have hz : natV 0 = .agg #[.int .u64 0, .string ⟨#[]⟩] := natV_small (by decide)
 have bad : pN s = none → Value.tuple #[.agg #[.int .u64 0, .string ⟨#[]⟩], .bool false] = Value.tuple #[natV ((pN s).getD 0), .bool (pN s).isSome] := fun e => by rw [e, ← hz]; rfl
 have hsz := sb_size s
 generalize hB : (!decide (startOk s)) = B
 refine PC.body Tryz.tab_ok Tryz.func66 rfl (by kernel_rfl) Tryz.ntmps66 rfl rfl ?_
 (try refine RUN ?_)
 refine EVL.meetK (ι := Unit) [0, 2] [2] (fun _ => [(25, .v (.bool B))]) (fun _ => []) (fun _ => []) (fun _ G => H.Le G) rfl rfl (fun _ => rfl) ?_ ?_
 ·rw [hsz]
  by_cases c1 : s.length = 0
  ·rw [show ((s.length : Int) == 0) = true from beq_iff_eq.2 (by omega)]
   rw [decide_eq_false (fun k => by have := k.1; omega)] at hB
   subst hB
   (try refine RUN ?_)
   exact ⟨(), ⟨rfl, trivial⟩, (by repeat (first | exact trivial | refine And.intro rfl ?_)), trivial, (by repeat (first | exact trivial | refine And.intro rfl ?_)), rfl, Hp.Le.refl _⟩
  rw [show ((s.length : Int) == 0) = false from beq_eq_false_iff_ne.2 (by omega)]
  (try refine RUN ?_)
  rw [hsz]
  by_cases c2 : s.length > 200
  ·rw [decide_eq_true (show (s.length : Int) > 200 by omega)]
   rw [decide_eq_false (fun k => by have := k.2.1; omega)] at hB
   subst hB
   (try refine RUN ?_)
   exact ⟨(), ⟨rfl, trivial⟩, (by repeat (first | exact trivial | refine And.intro rfl ?_)), trivial, (by repeat (first | exact trivial | refine And.intro rfl ?_)), rfl, Hp.Le.refl _⟩
  rw [decide_eq_false (show ¬ (s.length : Int) > 200 by omega)]
  (try refine RUN ?_)
  rw [hsz]
  by_cases c3 : 1 < s.length
  ·rw [decide_eq_true (show (s.length : Int) > 1 by omega)]
   obtain ⟨c, hc⟩ : ∃ c, s[0]? = some c := ⟨_, List.getElem?_eq_getElem (by omega)⟩
   have hh : s.head? = some c := by rw [List.head?_eq_getElem?]; exact hc
   (try refine RUN ?_)
   refine EVL.strAt rfl rfl rfl rfl (by kernel_rfl) rfl rfl 0 rfl hc ?_
   (try refine RUN ?_)
   by_cases c4 : c = 48
   ·rw [show ((c.toNat : Int) == 48) = true by rw [c4]; rfl]
    rw [decide_eq_false (fun k => k.2.2 ⟨c3, by rw [hh, c4]⟩)] at hB
    subst hB
    (try refine RUN ?_)
    exact ⟨(), ⟨rfl, trivial⟩, (by repeat (first | exact trivial | refine And.intro rfl ?_)), trivial, (by repeat (first | exact trivial | refine And.intro rfl ?_)), rfl, Hp.Le.refl _⟩
   ·rw [show ((c.toNat : Int) == 48) = false from beq_eq_false_iff_ne.2 fun k => c4 (by
     have h48 : c.toNat = (48 : UInt8).toNat := by show c.toNat = 48; omega
     exact UInt8.toNat_inj.1 h48)]
    rw [decide_eq_true (show startOk s from ⟨by omega, by omega, fun k => c4 (Option.some.inj (hh.symm.trans k.2))⟩)] at hB
    subst hB
    (try refine RUN ?_)
    exact ⟨(), ⟨rfl, trivial⟩, (by repeat (first | exact trivial | refine And.intro rfl ?_)), trivial, (by repeat (first | exact trivial | refine And.intro rfl ?_)), rfl, Hp.Le.refl _⟩
  ·rw [decide_eq_false (show ¬ (s.length : Int) > 1 by omega)]
   rw [decide_eq_true (show startOk s from ⟨by omega, by omega, fun k => c3 k.1⟩)] at hB
   subst hB
   (try refine RUN ?_)
   exact ⟨(), ⟨rfl, trivial⟩, (by repeat (first | exact trivial | refine And.intro rfl ?_)), trivial, (by repeat (first | exact trivial | refine And.intro rfl ?_)), rfl, Hp.Le.refl _⟩
 rintro _ G0 hG0
 cases B with
 | true =>
  (try refine RUN ?_)
  refine bad ?_
  unfold pN
  rw [if_neg fun k => by
   have : startOk s := ⟨k.1, k.2.1, k.2.2.1⟩
   rw [decide_eq_true this] at hB
   cases hB]
 | false =>
 have hst : startOk s := by
  by_cases k : startOk s
  ·exact k
  ·rw [decide_eq_false k] at hB; cases hB
 obtain ⟨s1, s2, s3⟩ := hst
 (try refine RUN ?_)
 rw [hsz]
 refine EV.loopK (ι := Nat × List Nat × Value × Ows × Nat × Nat) [0, 2, 28] [2] (fun q => [(4, .v q.2.2.1), (5, .v (n64 q.2.2.2.2.1)), (6, .v (n64 q.2.2.2.2.2)), (29, .v (.int .i64 (q.1 : Int)))]) (fun _ => []) (fun q => q.2.2.2.1) (fun q G => G0.Le G ∧ OwnL 39 1 q.2.2.1 q.2.1.length (q.2.1.map n64) q.2.2.2.1 ∧ ParInv s q.1 q.2.1 q.2.2.2.2.1 q.2.2.2.2.2) (fun q => s.length - q.1) ((0, [], .slice none 0 0, [], 0, 1)) rfl rfl ⟨rfl, rfl, rfl, rfl, trivial⟩ trivial rfl (fun _ => rfl) (⟨Hp.Le.refl _, OwnL.nil _ _, ⟨Nat.zero_le _, Dig.nil _, Nat.le_refl _, ⟨0, by omega, rfl, by decide⟩, by rw [val_nil]; rfl, rfl, fun _ k => by omega⟩⟩) ?_
 rintro ⟨i, l, v, ow, part, unit⟩ G1 hG1 ⟨hG01, hown, hinv⟩
 dsimp only at hown hinv hG01
 (try refine RUN ?_)
 refine EV.cond rfl (fun hlt => ?_) (fun hlt => ?_)
 case refine_2 =>
  simp only [decide_eq_true_eq, decide_eq_false_iff_not, Int.not_lt, Int.not_le, beq_iff_eq, beq_eq_false_iff_ne, bne_iff_ne, bne_eq_false_iff_eq, ne_eq, Int.ofNat_lt, Int.ofNat_le, Int.natCast_inj, ge_iff_le, gt_iff_lt, Decidable.not_not, Bool.not_eq_true', Bool.not_eq_false', Bool.not_eq_eq_eq_not, Bool.not_true, Bool.not_false] at hlt
  have hi : i = s.length := by have := hinv.le; omega
  obtain ⟨e1, e2⟩ := hinv.last hi (by omega)
  have hv := hinv.sum
  have hall := hinv.all
  rw [e1, e2, hi, List.take_length, Nat.mul_one, Nat.add_zero] at hv
  rw [hi, List.take_length] at hall
  have hlen := hinv.len
  have hle := hinv.le
  (first | refine EVL.publishL [] ow [] ((List.append_nil _).symm) hown fun G2 hG2 hs2 => ?_ | refine EV.publishL [] ow [] ((List.append_nil _).symm) hown fun G2 hG2 hs2 => ?_)
  have hsN : SlN n64 G2 v l := hs2
  (try refine RUN ?_)
  refine EVL.call rfl rfl rfl rfl rfl (fromWords_pc hsN hinv.dig (by omega)) ?_
  rintro _ G3 rfl hG3
  (try refine RUN ?_)
  have hp : pN s = some (valD s) := if_pos ⟨s1, s2, s3, hall⟩
  rw [hp, hv]
  rfl
 simp only [decide_eq_true_eq, decide_eq_false_iff_not, Int.not_lt, Int.not_le, beq_iff_eq, beq_eq_false_iff_ne, bne_iff_ne, bne_eq_false_iff_eq, ne_eq, Int.ofNat_lt, Int.ofNat_le, Int.natCast_inj, ge_iff_le, gt_iff_lt, Decidable.not_not, Bool.not_eq_true', Bool.not_eq_false', Bool.not_eq_eq_eq_not, Bool.not_true, Bool.not_false] at hlt
 have hlt2 : i < s.length := by omega
 obtain ⟨c, hc⟩ : ∃ c, s[i]? = some c := ⟨_, List.getElem?_eq_getElem hlt2⟩
 obtain ⟨p1, p2, p3, ⟨k, p4, p5, p6⟩, p7, p8, _⟩ := hinv
 have hnone : isDg c = false → pN s = none := fun k => pN_bad (List.mem_of_getElem? hc) k
 have htk := take_snoc hc
 (try refine RUN ?_)
 refine EVL.strAt rfl rfl rfl rfl (by kernel_rfl) rfl rfl i rfl hc ?_
 (try refine RUN ?_)
 by_cases d1 : c.toNat < 48
 ·rw [decide_eq_true (show (c.toNat : Int) < 48 by omega)]
  (try refine RUN ?_)
  refine bad (hnone ?_)
  rw [← Bool.not_eq_true, isDg_iff]
  omega
 rw [decide_eq_false (show ¬ (c.toNat : Int) < 48 by omega)]
 (try refine RUN ?_)
 refine EVL.strAt rfl rfl rfl rfl (by kernel_rfl) rfl rfl i rfl hc ?_
 (try refine RUN ?_)
 by_cases d2 : c.toNat > 57
 ·rw [decide_eq_true (show (c.toNat : Int) > 57 by omega)]
  (try refine RUN ?_)
  refine bad (hnone ?_)
  rw [← Bool.not_eq_true, isDg_iff]
  omega
 rw [decide_eq_false (show ¬ (c.toNat : Int) > 57 by omega)]
 have hdg : isDg c = true := isDg_iff.2 ⟨by omega, by omega⟩
 have hdv := dgv hdg
 have hdl := dV_lt hdg
 have hpow := pow_le19 p4
 have h19 := pow_19 p4
 have hsum : val W64 l * (unit * 10) + (part * 10 + dV c) = valD (s.take (i + 1)) := by
  rw [htk, valD_snoc, ← p7, Nat.add_mul, Nat.mul_assoc]; omega
 have hall : (s.take (i + 1)).all isDg = true := by rw [htk, List.all_append, p8, List.all_cons, hdg]; rfl
 have w1 : IntKind.u64.wrap ((part : Int) * 10) = ((part * 10 : Nat) : Int) := by rw [IntKind.wrap_u64]; omega
 have w2 : IntKind.u64.wrap (((part * 10 : Nat) : Int) + (dV c : Int)) = ((part * 10 + dV c : Nat) : Int) := by rw [IntKind.wrap_u64]; omega
 have w3 : IntKind.u64.wrap ((unit : Int) * 10) = ((unit * 10 : Nat) : Int) := by rw [IntKind.wrap_u64]; omega
 have hu : unit * 10 < W64 := by rw [W64_val]; omega
 have hp : part * 10 + dV c < W64 := by rw [W64_val]; omega
 (try refine RUN ?_)
 refine EVL.strAt rfl rfl rfl rfl (by kernel_rfl) rfl rfl i rfl hc ?_
 (try refine RUN ?_)
 rw [hdv, w1, w2, w3]
 have hunit : unit * 10 = 10 ^ (k + 1) := by rw [p5, Nat.pow_succ]
 have hpart : part * 10 + dV c < 10 ^ (k + 1) := by rw [Nat.pow_succ]; omega
 generalize hU : unit * 10 = U at *
 generalize hP : part * 10 + dV c = Pt at *
 have hflush : (U = 10000000000000000000 ∨ i + 1 = s.length) → True := fun _ => trivial
 generalize hF : decide (U = 10000000000000000000 ∨ i + 1 = s.length) = F
 (try refine RUN ?_)
 refine EVL.meetK (ι := Unit) [0, 2, 4, 5, 6, 7, 28, 29] [2] (fun _ => [(61, .v (.bool F))]) (fun _ => []) (fun _ => ow) (fun _ G => G1.Le G) rfl rfl (fun _ => rfl) ?_ ?_
 ·by_cases f1 : U = 10000000000000000000
  ·rw [show ((U : Int) == 10000000000000000000) = true from beq_iff_eq.2 (by omega)]
   rw [decide_eq_true (Or.inl f1)] at hF
   subst hF
   (try refine RUN ?_)
   exact ⟨(), ⟨rfl, trivial⟩, (by repeat (first | exact trivial | refine And.intro rfl ?_)), trivial, (by repeat (first | exact trivial | refine And.intro rfl ?_)), rfl, Hp.Le.refl _⟩
  ·rw [show ((U : Int) == 10000000000000000000) = false from beq_eq_false_iff_ne.2 (by omega)]
   (try refine RUN ?_)
   rw [hsz, show IntKind.i64.wrap ((s.length : Int) - 1) = (s.length : Int) - 1 by rw [IntKind.wrap_i64]; omega]
   by_cases f2 : i + 1 = s.length
   ·rw [show ((i : Int) == (s.length : Int) - 1) = true from beq_iff_eq.2 (by omega)]
    rw [decide_eq_true (Or.inr f2)] at hF
    subst hF
    (try refine RUN ?_)
    exact ⟨(), ⟨rfl, trivial⟩, (by repeat (first | exact trivial | refine And.intro rfl ?_)), trivial, (by repeat (first | exact trivial | refine And.intro rfl ?_)), rfl, Hp.Le.refl _⟩
   ·rw [show ((i : Int) == (s.length : Int) - 1) = false from beq_eq_false_iff_ne.2 (by omega)]
    rw [decide_eq_false (fun k => k.elim f1 f2)] at hF
    subst hF
    (try refine RUN ?_)
    exact ⟨(), ⟨rfl, trivial⟩, (by repeat (first | exact trivial | refine And.intro rfl ?_)), trivial, (by repeat (first | exact trivial | refine And.intro rfl ?_)), rfl, Hp.Le.refl _⟩
 rintro _ G2 hG2
 cases F with
 | true =>
  (try refine RUN ?_)
  refine EVL.callW rfl rfl rfl rfl rfl ow [] (List.append_nil _).symm (mulAdd_pw hown p2 (by omega) hu hp) ?_
  rintro v' ow' G3 ⟨l', hown', hD', hv', hl'⟩ hG3
  (try refine RUN ?_)
  exact ⟨(i + 1, l', v', ow', 0, 1), ⟨rfl, rfl, rfl, by rw [wi_inc i (by omega)]; rfl, trivial⟩, (by repeat (first | exact trivial | refine And.intro rfl ?_)), trivial, (by repeat (first | exact trivial | refine And.intro rfl ?_)), List.append_nil _, ⟨hG01.trans (hG2.trans hG3), hown', ⟨hlt2, hD', by dsimp only; omega, ⟨0, by omega, rfl, (show 0 < 10 ^ 0 by decide)⟩, by dsimp only; rw [Nat.mul_one, Nat.add_zero, hv']; exact hsum, hall, fun _ _ => ⟨rfl, rfl⟩⟩⟩, hG2.trans hG3, by dsimp only; omega⟩
 | false =>
  have hF2 := of_decide_eq_false hF
  have hk : k + 1 ≤ 18 := by
   by_cases e : k = 18
   ·exact absurd (Or.inl (by rw [← hU, p5]; exact h19.2 e)) hF2
   ·omega
  (try refine RUN ?_)
  exact ⟨(i + 1, l, v, ow, Pt, U), ⟨rfl, rfl, rfl, by rw [wi_inc i (by omega)]; rfl, trivial⟩, (by repeat (first | exact trivial | refine And.intro rfl ?_)), trivial, (by repeat (first | exact trivial | refine And.intro rfl ?_)), rfl, ⟨hG01.trans hG2, hown, ⟨hlt2, p2, by dsimp only; omega, ⟨k + 1, hk, hunit, hpart⟩, hsum, hall, fun k => absurd (Or.inr k) hF2⟩⟩, hG2, by dsimp only; omega⟩
theorem sb_list (l : List UInt8) : (sb l).toList = l := by rw [Lib.toList_data]
theorem sb_cut (l : List UInt8) (a b : Nat) : (sb l).extract a b = sb ((l.drop a).take (b - a)) := Lib.extract_eq (sb l) a b
def hasMinus (l : List UInt8) : Prop := l.head? = some 45
instance (l : List UInt8) : Decidable (hasMinus l) := by unfold hasMinus; exact inferInstance
def unMinus (l : List UInt8) : List UInt8 := if l.head? = some 45 then l.tail else l
theorem unMinus_lib (l : List UInt8) : Lib.trimPrefix l [45] = unMinus l ∧ Lib.hasPrefix l [45] = decide (l.head? = some 45) := by
 cases l with
 | nil => exact ⟨rfl, rfl⟩
 | cons c l =>
  by_cases h : c = 45
  ·subst h; exact ⟨rfl, rfl⟩
  ·have hh : Lib.hasPrefix (c :: l) [45] = false := by
    show ((45 : UInt8) == c && _) = false
    rw [show ((45 : UInt8) == c) = false from beq_eq_false_iff_ne.2 fun k => h k.symm]; rfl
   have hn : ¬ (c :: l).head? = some 45 := fun k => h (Option.some.inj k)
   refine ⟨?_, by rw [hh, decide_eq_false hn]⟩
   unfold Lib.trimPrefix unMinus
   rw [hh, if_neg hn]
   rfl
theorem cutPrefix_pv (l : List UInt8) : PV Tryz.prog 67 #[.string (sb l), .string (sb [45])] (.tuple #[.string (sb (unMinus l)), .bool (decide (l.head? = some 45))]) :=
 ⟨(cOf Tryz.func67 rfl (by kernel_rfl)), fun W _ => (Tryz.strings_CutPrefix (sb l) (sb [45]) W).mono fun e W' ⟨h1, h2⟩ => ⟨by
  rw [h1, ← (unMinus_lib l).1, ← (unMinus_lib l).2], by rw [h2]; exact Below.refl _ _⟩⟩
theorem ten_16 (n : Nat) : 10 ^ n ≤ 2 ^ (4 * n) := by
 rw [Nat.pow_mul]
 exact Nat.pow_le_pow_left (by decide) n
theorem valD_bl {l : List UInt8} (h : l.all isDg = true) (hl : l.length ≤ 200) : bl (valD l) ≤ 800 :=
 Nat.le_trans (bl_le (Nat.lt_of_lt_of_le (valD_lt' h) (ten_16 _))) (by omega)
theorem pN_bl {l : List UInt8} {n : Nat} (h : pN l = some n) : bl n ≤ 800 := by
 unfold pN at h
 split at h
 ·rename_i k
  cases h
  exact valD_bl k.2.2.2 k.2.1
 ·cases h
theorem bl_eq0 {n : Nat} : bl n = 0 ↔ n = 0 := by
 constructor
 ·intro h
  have := lt_bl n
  rw [h] at this
  simpa using this
 ·rintro rfl; exact bl_zero
set_option maxHeartbeats 4000000 in
theorem wholeParse_pc {H : Hp} (l : List UInt8) : PC Tryz.prog 37 #[.string (sb l)] H fun r _ => r = .tuple #[intV ((pI l).getD 0), .bool (pI l).isSome] := by
 have hcp := cutPrefix_pv l
 have hnp := fun G : Hp => natParse_pc (H := G) (unMinus l)
 have hz : natV 0 = .agg #[.int .u64 0, .string ⟨#[]⟩] := natV_small (by decide)
 have hz2 : intV 0 = .agg #[.bool false, .int .u64 0, .string ⟨#[]⟩] := by
  show Value.agg #[.bool (decide ((0 : Int) < 0)), _, _] = _
  have e : natV 0 = .agg #[.int .u64 (lo 0 : Int), .string (moreB 0)] := rfl
  rw [hz] at e
  injection e with e
  have e1 : Value.int .u64 (0 : Int) = .int .u64 (lo 0 : Int) := by injection e with e; injection e with e1 e2
  have e2 : Value.string ⟨#[]⟩ = .string (moreB 0) := by injection e with e; injection e with e1 e2; injection e2 with e2 e3
  rw [show ((0 : Int)).natAbs = 0 from rfl, ← e1, ← e2]
  rfl
 have bad : pI l = none → Value.tuple #[.agg #[.bool false, .int .u64 0, .string ⟨#[]⟩], .bool false] = Value.tuple #[intV ((pI l).getD 0), .bool (pI l).isSome] := fun e => by rw [e, ← hz2]; rfl
 refine PC.body Tryz.tab_ok Tryz.func37 rfl (by kernel_rfl) Tryz.ntmps37 rfl rfl ?_
 repeat (first | refine RUN ?_ | refine CV (hcp) ?_ | refine CE (hcp) ?_)
 refine EVL.call rfl rfl rfl rfl rfl (hnp _) ?_
 rintro _ G1 rfl hG1
 (try refine RUN ?_)
 cases hpn : pN (unMinus l) with
 | none =>
  (try refine RUN ?_)
  refine bad ?_
  unfold pI unMinus at *
  split
  ·rename_i k; rw [if_pos k] at hpn; rw [hpn]
  ·rename_i k; rw [if_neg k] at hpn; rw [hpn]; rfl
 | some n =>
  have hbn := pN_bl hpn
  have hbits := bits_pv n (by omega)
  have hfr := from_pv (decide (l.head? = some 45)) n (by omega)
  by_cases h : l.head? = some 45
  ·rw [decide_eq_true h] at hfr ⊢
   have hpn' : pN l.tail = some n := by unfold unMinus at hpn; rwa [if_pos h] at hpn
   have hpI : pI l = if n = 0 then none else some (-(n : Int)) := by
    unfold pI
    rw [if_pos h, hpn']
   repeat (first | refine RUN ?_ | refine CV (hbits) ?_ | refine CE (hbits) ?_)
   by_cases h0 : n = 0
   ·rw [show (((bl n : Nat) : Int) == 0) = true from beq_iff_eq.2 (by rw [bl_eq0.2 h0]; rfl)]
    (try refine RUN ?_)
    exact bad (by rw [hpI, if_pos h0])
   ·rw [show (((bl n : Nat) : Int) == 0) = false from beq_eq_false_iff_ne.2 (fun k => h0 (bl_eq0.1 (by omega)))]
    repeat (first | refine RUN ?_ | refine CV (hfr) ?_ | refine CE (hfr) ?_)
    rw [hpI, if_neg h0]
    rfl
  ·rw [decide_eq_false h] at hfr ⊢
   have hpn' : pN l = some n := by unfold unMinus at hpn; rwa [if_neg h] at hpn
   have hpI : pI l = some (n : Int) := by
    unfold pI
    rw [if_neg h, hpn']; rfl
   repeat (first | refine RUN ?_ | refine CV (hfr) ?_ | refine CE (hfr) ?_)
   rw [hpI]
   rfl
theorem fracV_z : fracV 0 = .agg #[.bool false, .int .u64 0, .string ⟨#[]⟩, .int .u64 0, .string ⟨#[]⟩] := by
 show frV 0 0 = _
 rw [frV_zero, show (0 : Int).natAbs = 0 from rfl, moreB_empty (n := 0) (by decide)]; rfl
theorem make0_pv (n : Int) : PV Tryz.prog 46 #[intV n, intV 0] (.tuple #[fracV 0, .bool false]) := by
 have hs := wholeSign_pv 0 (by show bl 0 ≤ _; rw [bl_zero]; omega)
 refine PV.of_pc ?_
 refine PC.body Tryz.tab_ok Tryz.func46 rfl (by kernel_rfl) Tryz.ntmps46 rfl rfl ?_
 repeat (first | refine RUN ?_ | refine CV (hs) ?_ | refine CE (hs) ?_)
 rw [fracV_z]
section
variable {P : Program} {n : Nat} {ops : Array Oper} {o : Oper} {rest : List Oper} {env : Env} {bx : Bxs} {sb' : Bxs} {H : Hs} {Q : EQ} {d : Nat}
theorem run_strSlc {T : TypeId} {x : Operand} {lo hi : Option Operand} (ho : o.op = .slice T x lo hi none) (hT : P.underlying T = some .string)
  {s : ByteArray} (hx : env.op x = some (.v (.string s))) (l h : Nat) (hlo : lo = none ∧ l = 0 ∨ ∃ y k, lo = some y ∧ env.op y = some (.v (.int k (l : Int)))) (hhi : hi = none ∧ h = s.size ∨ ∃ y k, hi = some y ∧ env.op y = some (.v (.int k (h : Int)))) (hlh : l ≤ h) (hhs : h ≤ s.size)
  (ev : Operand → Value) (W : World) (he : ∀ y x, y ∈ o.op.operands → env.op y = some (.v x) → ev y = x) : (execOp ev o).run P W = .ok (.value (.string (s.extract l h))) W := by
 have h1 : ev x = .string s := he x _ (by simp [ho, Op.operands]) hx
 unfold execOp
 simp only [ho, Instr.sliceAt, h1, Option.map_none]
 rcases hlo with ⟨rfl, rfl⟩ | ⟨y, k, rfl, hy⟩
 ·rcases hhi with ⟨rfl, rfl⟩ | ⟨y', k', rfl, hy'⟩
  ·simp [run_underlying hT, Instr.slice, Instr.sliceBounds]
  ·have h2 : ev y' = .int k' h := he y' _ (by simp [ho, Op.operands]) hy'
   simp [run_underlying hT, Instr.slice, Instr.sliceBounds, Instr.sliceBound, h2, asIntOf, hhs]
 ·have h3 : ev y = .int k l := he y _ (by simp [ho, Op.operands]) hy
  rcases hhi with ⟨rfl, rfl⟩ | ⟨y', k', rfl, hy'⟩
  ·simp [run_underlying hT, Instr.slice, Instr.sliceBounds, Instr.sliceBound, h3, asIntOf, hlh]
  ·have h2 : ev y' = .int k' h := he y' _ (by simp [ho, Op.operands]) hy'
   simp [run_underlying hT, Instr.slice, Instr.sliceBounds, Instr.sliceBound, h2, h3, asIntOf, hhs, hlh]
theorem DJ.strSlc {tail l : List Oper} {x : Nat → Value} {y : Nat → Ows} {ow' : Ows} {kl ks : List DK} {i : Nat} {bx' : Bxs} {Γ : Fcts} {T : TypeId} {u : Operand} {lo hi : Option Operand} (ho : o.op = .slice T u lo hi none) (hw : wantB ops env o = some true) (hd : o.dst = some d) (hn : Nat.blt d n = true) (hT : P.underlying T = some .string)
  {s : ByteArray} (hx : env.op u = some (.v (.string s))) (a b : Nat) (hlo : lo = none ∧ a = 0 ∨ ∃ y k, lo = some y ∧ env.op y = some (.v (.int k (a : Int)))) (hhi : hi = none ∧ b = s.size ∨ ∃ y k, hi = some y ∧ env.op y = some (.v (.int k (b : Int)))) (hlh : a ≤ b) (hhs : b ≤ s.size)
  (h : DJ P n ops tail sb' bx H Q x y kl (i + 1) l ks ((d, .v (.string (s.extract a b))) :: env) bx' Γ ow') : DJ P n ops tail sb' bx H Q x y kl i (o :: l) (.sv (.v (.string (s.extract a b))) :: ks) env bx' Γ ow' :=
 DJ.ofVal (ValOk.gen hw (run_strSlc ho hT hx a b hlo hhi hlh hhs)) hd hn rfl h
end
theorem idxB : ∀ (l : List UInt8) (c : UInt8), (c ∉ l ∧ Lib.indexByte l c = -1) ∨ ∃ i : Nat, i < l.length ∧ Lib.indexByte l c = (i : Int) ∧ l[i]? = some c ∧ ∀ j, j < i → l[j]? ≠ some c
 | [], c => .inl ⟨List.not_mem_nil, rfl⟩
 | b :: l, c => by
  unfold Lib.indexByte
  by_cases h : b = c
  ·refine .inr ⟨0, by simp, ?_, by rw [h]; rfl, fun j hj => by omega⟩
   rw [if_pos (by simpa using h)]; rfl
  ·rw [if_neg (by simpa using h)]
   rcases idxB l c with ⟨h1, h2⟩ | ⟨i, h1, h2, h3, h4⟩
   ·refine .inl ⟨fun k => (List.mem_cons.1 k).elim (fun e => h e.symm) h1, ?_⟩
    rw [h2]; rfl
   ·refine .inr ⟨i + 1, by simp <;> omega, ?_, by simpa using h3, fun j hj => ?_⟩
    ·rw [h2, if_neg (by simp <;> omega)]; omega
    ·cases j with
     | zero => intro k; exact h (Option.some.inj (by simpa using k))
     | succ j =>
      have := h4 j (by omega)
      simpa using this
theorem not_cut {c : UInt8} {l : List UInt8} (h : c ∉ l) : bef c l = l ∧ aft c l = [] := by
 have h1 : ∀ m : List UInt8, c ∉ m → m.takeWhile (· != c) = m ∧ m.dropWhile (· != c) = [] := by
  intro m
  induction m with
  | nil => intro _; exact ⟨rfl, rfl⟩
  | cons x m ih =>
   intro hm
   have hx : x ≠ c := fun e => hm (by rw [e]; exact List.mem_cons_self ..)
   obtain ⟨e1, e2⟩ := ih fun k => hm (List.mem_cons_of_mem _ k)
   rw [List.takeWhile_cons, List.dropWhile_cons, if_pos (by simpa using hx), if_pos (by simpa using hx), e1, e2]
   exact ⟨rfl, rfl⟩
 obtain ⟨e1, e2⟩ := h1 l h
 exact ⟨e1, by unfold aft; rw [e2]; rfl⟩
theorem index_pv (l : List UInt8) (c : UInt8) : PV Tryz.prog 101 #[.string (sb l), .string (sb [c])] (.int .i64 (Lib.indexByte l c)) :=
 ⟨(cOf Tryz.func101 rfl (by kernel_rfl)), fun W _ => (Tryz.stringslite_Index_one (sb l) c W).mono fun e W' ⟨h1, h2⟩ => ⟨by rw [h1], by rw [h2]; exact Below.refl _ _⟩⟩
set_option maxHeartbeats 1000000 in
theorem cutS_pv (l : List UInt8) (c : UInt8) (hl : l.length ≤ 9223372036854775807) : PV Tryz.prog 65 #[.string (sb l), .string (sb [c])] (.tuple #[.string (sb (bef c l)), .string (sb (aft c l)), .bool (l.contains c)]) := by
 have hi := index_pv l c
 have hs1 : (sb [c]).size = 1 := rfl
 have hsz := sb_size l
 refine PV.of_pc ?_
 refine PC.body Tryz.tab_ok Tryz.func65 rfl (by kernel_rfl) Tryz.ntmps65 rfl rfl ?_
 rcases idxB l c with ⟨h1, h2⟩ | ⟨i, h1, h2, h3, h4⟩
 ·rw [h2] at hi
  obtain ⟨e1, e2⟩ := not_cut h1
  rw [e1, e2, show l.contains c = false from by rw [← Bool.not_eq_true, List.contains_iff_mem]; exact h1]
  repeat (first | refine RUN ?_ | refine CV (hi) ?_ | refine CE (hi) ?_)
  rfl
 ·rw [h2] at hi
  obtain ⟨e1, e2⟩ := cut_at h3 h4
  rw [e1, e2, show l.contains c = true from List.contains_iff_mem.2 (List.mem_of_getElem? h3)]
  repeat (first | refine RUN ?_ | refine CV (hi) ?_ | refine CE (hi) ?_)
  rw [decide_eq_true (show (i : Int) ≥ 0 by omega)]
  (try refine RUN ?_)
  apply EV.drawn 11 (by kernel_rfl) (by kernel_rfl); intro xv yw
  (repeat refine' DD ?_)
  refine' DJ.strSlc rfl rfl rfl rfl (by kernel_rfl) rfl 0 i (.inl ⟨rfl, rfl⟩) (.inr ⟨_, IntKind.i64, rfl, rfl⟩) (by omega) (by rw [hsz]; omega) ?_; rotate_left
  (repeat refine' DD ?_)
  rw [show IntKind.i64.wrap ((i : Int) + (((sb [c]).size : Nat) : Int)) = ((i + 1 : Nat) : Int) by rw [hs1, IntKind.wrap_i64]; omega]
  refine' DJ.strSlc rfl rfl rfl rfl (by kernel_rfl) rfl (i + 1) l.length (.inr ⟨_, IntKind.i64, rfl, rfl⟩) (.inl ⟨rfl, hsz.symm⟩) (by omega) (by rw [hsz]; omega) ?_; rotate_left
  rw [sb_cut, sb_cut]
  (repeat refine' DD ?_)
  (refine DJ.nil (fun G hG hF => ?_); (case hS => rfl); (case hS2 => rfl))
  (try refine RUN ?_)
  rw [Nat.sub_zero, List.drop_zero, List.take_of_length_le (l := l.drop (i + 1)) (by rw [List.length_drop]; omega)]
theorem cut_pv (l : List UInt8) (c : UInt8) (hl : l.length ≤ 9223372036854775807) : PV Tryz.prog 34 #[.string (sb l), .string (sb [c])] (.tuple #[.string (sb (bef c l)), .string (sb (aft c l)), .bool (l.contains c)]) := by
 have hc := cutS_pv l c hl
 refine PV.of_pc ?_
 refine PC.body Tryz.tab_ok Tryz.func34 rfl (by kernel_rfl) Tryz.ntmps34 rfl rfl ?_
 repeat (first | refine RUN ?_ | refine CV (hc) ?_ | refine CE (hc) ?_)
 rfl
theorem trimL_pv (l : List UInt8) (c : UInt8) (hc : c.toNat < 128) : PV Tryz.prog 69 #[.string (sb l), .string (sb [c])] (.string (sb (Lib.trimLeftB l c))) :=
 ⟨(cOf Tryz.func69 rfl (by kernel_rfl)), fun W _ => (Tryz.strings_TrimLeft_one (sb l) c hc W).mono fun e W' ⟨h1, h2⟩ => ⟨by rw [h1], by rw [h2]; exact Below.refl _ _⟩⟩
theorem ten_bl {e : Nat} (h : e ≤ 200) : bl (10 ^ e) ≤ 801 :=
 Nat.le_trans (bl_le (k := 4 * e + 1) (Nat.lt_of_le_of_lt (ten_16 e) (Nat.pow_lt_pow_right (by omega) (by omega)))) (by omega)
theorem bitsLenN_pv (n : Nat) (h : n < W64) : PV Tryz.prog 104 #[.int .u64 (n : Int)] (.int .i64 (bl n : Int)) :=
 ⟨(cOf Tryz.func104 rfl (by kernel_rfl)), fun W _ => (Tryz.bits_Len (n : Int) W (by omega) (by rw [W64_val] at h; omega)).mono fun e W' ⟨h1, h2⟩ => ⟨by rw [h1, ← bl_bitLen n h]; rfl, by rw [h2]; exact Below.refl _ _⟩⟩
theorem and_one (x : Nat) (h : x < 256) : IntKind.i64.wrap (((BitVec.ofInt IntKind.i64.bits (x : Int) &&& BitVec.ofInt IntKind.i64.bits 1).toNat : Nat) : Int) = ((x % 2 : Nat) : Int) := by
 have : ∀ y : Fin 256, IntKind.i64.wrap (((BitVec.ofInt IntKind.i64.bits ((y.val : Nat) : Int) &&& BitVec.ofInt IntKind.i64.bits 1).toNat : Nat) : Int) = ((y.val % 2 : Nat) : Int) := by decide +kernel
 exact this ⟨x, h⟩
theorem fdiv_two (k r : Nat) : ((k : Int)).fdiv (2 ^ r) = ((k / 2 ^ r : Nat) : Int) := by
 rw [Int.fdiv_eq_ediv_of_nonneg _ (by exact_mod_cast Nat.zero_le _)]
 norm_cast
theorem half_step (k r : Nat) : k / 2 ^ r = 2 * (k / 2 ^ (r + 1)) + (k / 2 ^ r) % 2 := by
 have h : k / 2 ^ (r + 1) = k / 2 ^ r / 2 := by rw [Nat.pow_succ, Nat.div_div_eq_div_mul]
 rw [h]
 generalize k / 2 ^ r = a
 omega
set_option maxHeartbeats 4000000 in
theorem pow10_pv (k : Nat) (hk : k ≤ 200) : PV Tryz.prog 68 #[natV 10, .int .i64 (k : Int)] (.tuple #[natV (10 ^ k), .bool true]) := by
 have hlen := bitsLenN_pv k (by rw [W64_val]; omega)
 have hb8 : bl k ≤ 8 := bl_le (by omega)
 have hlt := lt_bl k
 have hmul : ∀ a b : Nat, a ≤ 200 → b ≤ 200 → PV Tryz.prog 61 #[natV (10 ^ a), natV (10 ^ b)] (natV (10 ^ (a + b))) := fun a b ha hb => by
  rw [Nat.pow_add]
  exact natMul_pv _ _ (Nat.le_trans (ten_bl ha) (by omega)) (Nat.le_trans (ten_bl hb) (by omega))
 refine PV.of_pc ?_
 refine PC.body Tryz.tab_ok Tryz.func68 rfl (by kernel_rfl) Tryz.ntmps68 rfl rfl ?_
 (try refine RUN ?_)
 rw [decide_eq_false (show ¬ (k : Int) < 0 by omega)]
 (try refine RUN ?_)
 rw [decide_eq_false (show ¬ (k : Int) > 65536 by omega)]
 repeat (first | refine RUN ?_ | refine CV (natOf_pv 1 (by decide)) ?_ | refine CE (natOf_pv 1 (by decide)) ?_)
 rw [show IntKind.u64.wrap (k : Int) = (k : Int) by rw [IntKind.wrap_u64]; omega]
 repeat (first | refine RUN ?_ | refine CV (hlen) ?_ | refine CE (hlen) ?_)
 rw [show IntKind.i64.wrap ((bl k : Int) - 1) = (bl k : Int) - 1 by rw [IntKind.wrap_i64]; omega]
 refine EV.loopK (ι := Nat) [0, 1, 2, 4, 6] [2, 4] (fun r => [(7, .v (.int .i64 ((r : Int) - 1)))]) (fun r => [(6, 41, [.int .u64 (lo (10 ^ (k / 2 ^ r)) : Int), .string (moreB (10 ^ (k / 2 ^ r)))])]) (fun _ => []) (fun r _ => r ≤ 8) (fun r => r) (bl k) rfl rfl ⟨rfl, trivial⟩ ⟨by rw [Nat.div_eq_of_lt hlt]; rfl, trivial⟩ rfl (fun _ => rfl) (hb8) ?_
 rintro r G1 hG1 hr
 (try refine RUN ?_)
 cases r with
 | zero =>
  rw [show decide ((((0 : Nat) : Int)) - 1 ≥ 0) = false from rfl]
  (try refine RUN ?_)
  rw [Nat.pow_zero, Nat.div_one]
 | succ r =>
  have e1 : (((r + 1 : Nat) : Int)) - 1 = (r : Int) := by omega
  have hq : k / 2 ^ (r + 1) ≤ 100 := by
   have h2 : 2 ≤ 2 ^ (r + 1) := by rw [Nat.pow_succ]; have := Nat.one_le_two_pow (n := r); omega
   have := Nat.div_le_div_left (a := k) h2 (by omega)
   omega
  have hx : k / 2 ^ r ≤ 200 := Nat.le_trans (Nat.div_le_self _ _) hk
  have hs := half_step k r
  have hm1 := hmul (k / 2 ^ (r + 1)) (k / 2 ^ (r + 1)) (by omega) (by omega)
  have hm2 := hmul (k / 2 ^ (r + 1) + k / 2 ^ (r + 1)) 1 (by omega) (by omega)
  have hand := and_one (k / 2 ^ r) (by omega)
  have hf := fdiv_two k r
  have hw : IntKind.i64.wrap ((r : Int) - 1) = (r : Int) - 1 := by rw [IntKind.wrap_i64]; omega
  rw [e1]
  rw [decide_eq_true (show (r : Int) ≥ 0 by omega)]
  repeat (first | refine RUN ?_ | refine CV (hm1) ?_ | refine CE (hm1) ?_)
  rw [Nat.min_eq_left (show r ≤ IntKind.i64.bits by show r ≤ 64; omega), hf, hand]
  have hdone : ∀ t, k / 2 ^ r = t → 10 ^ (k / 2 ^ r) = 10 ^ t := fun t h => by rw [h]
  generalize hX : k / 2 ^ r = X at *
  generalize hY : k / 2 ^ (r + 1) = Y at *
  by_cases hodd : X % 2 = 1
  ·rw [show (((X % 2 : Nat) : Int) == 1) = true from beq_iff_eq.2 (by omega)]
   repeat (first | refine RUN ?_ | refine CV (hm2) ?_ | refine CE (hm2) ?_)
   refine ⟨r, ⟨by rw [hw]; rfl, trivial⟩, (by repeat (first | exact trivial | refine And.intro rfl ?_)), ⟨by rw [hX, show X = Y + Y + 1 by omega]; rfl, trivial⟩, (by repeat (first | exact trivial | refine And.intro rfl ?_)), rfl, by omega, Hp.Le.refl _, by omega⟩
  ·rw [show (((X % 2 : Nat) : Int) == 1) = false from beq_eq_false_iff_ne.2 (by omega)]
   (try refine RUN ?_)
   refine ⟨r, ⟨by rw [hw]; rfl, trivial⟩, (by repeat (first | exact trivial | refine And.intro rfl ?_)), ⟨by rw [hX, show X = Y + Y by omega]; rfl, trivial⟩, (by repeat (first | exact trivial | refine And.intro rfl ?_)), rfl, by omega, Hp.Le.refl _, by omega⟩
theorem trim_facts : ∀ t : List UInt8, t.all isDg = true → valD (Lib.trimLeftB t 48) = valD t ∧ (Lib.trimLeftB t 48).all isDg = true ∧ (Lib.trimLeftB t 48).length ≤ t.length ∧ (Lib.trimLeftB t 48).head? ≠ some 48
 | [], _ => ⟨rfl, rfl, Nat.le_refl _, by simp [Lib.trimLeftB]⟩
 | c :: t, h => by
  rw [List.all_cons, Bool.and_eq_true] at h
  by_cases e : c = 48
  ·subst e
   obtain ⟨a, b, c, d⟩ := trim_facts t h.2
   have e1 : Lib.trimLeftB (48 :: t) 48 = Lib.trimLeftB t 48 := by unfold Lib.trimLeftB; rw [List.dropWhile_cons, if_pos (by simp)]
   have e2 : valD (48 :: t) = valD t := by
    unfold valD
    rw [List.foldl_cons, show 0 * 10 + dV 48 = 0 by decide]
   rw [e1, e2]
   exact ⟨a, b, by rw [List.length_cons]; omega, d⟩
  ·have e1 : Lib.trimLeftB (c :: t) 48 = c :: t := by unfold Lib.trimLeftB; rw [List.dropWhile_cons, if_neg (by simpa using e)]
   rw [e1]
   exact ⟨rfl, by rw [List.all_cons, h.1, h.2]; rfl, Nat.le_refl _, fun k => e (Option.some.inj k)⟩
theorem trim_pN {t : List UInt8} (h : okD t) (hne : Lib.trimLeftB t 48 ≠ []) : pN (Lib.trimLeftB t 48) = some (valD t) := by
 obtain ⟨a, b, c, d⟩ := trim_facts t h.2.2
 have h0 : 1 ≤ (Lib.trimLeftB t 48).length := by
  rcases e : Lib.trimLeftB t 48 with _ | ⟨x, m⟩
  ·exact absurd e hne
  ·simp
 have h2 := h.2.1
 unfold pN
 rw [if_pos ⟨h0, by omega, fun k => d k.2, b⟩, a]
theorem pI_bl {l : List UInt8} {z : Int} (h : pI l = some z) : bl z.natAbs ≤ 800 := by
 unfold pI at h
 split at h
 ·cases hp : pN l.tail with
  | none => rw [hp] at h; cases h
  | some n =>
   have hb := pN_bl hp
   rw [hp] at h
   have h' : (if n = 0 then none else some (-(n : Int))) = some z := h
   by_cases h0 : n = 0
   ·rw [if_pos h0] at h'
    cases h'
   ·rw [if_neg h0] at h'
    cases h'
    rw [show (-(n : Int)).natAbs = n by omega]
    exact hb
 ·cases hp : pN l with
  | none => rw [hp] at h; cases h
  | some n =>
   have hb := pN_bl hp
   rw [hp] at h
   cases h
   exact hb
set_option maxHeartbeats 4000000 in
theorem parseOver_pc {H : Hp} (s t : List UInt8) : PC Tryz.prog 35 #[.string (sb s), .string (sb t)] H fun r _ => r = .tuple #[fracV ((pOver s t).getD 0), .bool (pOver s t).isSome] := by
 have hI := fun G : Hp => wholeParse_pc (H := G) s
 have hN := fun G : Hp => natParse_pc (H := G) t
 have bad : pOver s t = none → Value.tuple #[Value.agg #[.bool false, .int .u64 0, .string ⟨#[]⟩, .int .u64 0, .string ⟨#[]⟩], .bool false] = .tuple #[fracV ((pOver s t).getD 0), .bool (pOver s t).isSome] := fun e => by rw [e, ← fracV_z]; rfl
 refine PC.body Tryz.tab_ok Tryz.func35 rfl (by kernel_rfl) Tryz.ntmps35 rfl rfl ?_
 (try refine RUN ?_)
 refine EVL.call rfl rfl rfl rfl rfl (hI _) ?_
 rintro _ G1 rfl hG1
 cases hz : pI s with
 | none =>
  (try refine RUN ?_)
  exact bad (by unfold pOver; rw [hz])
 | some z =>
  have bz := pI_bl hz
  (try refine RUN ?_)
  refine EVL.call rfl rfl rfl rfl rfl (hN _) ?_
  rintro _ G2 rfl hG2
  cases hd : pN t with
  | none =>
   (try refine RUN ?_)
   exact bad (by unfold pOver; rw [hz, hd])
  | some n =>
   have bn := pN_bl hd
   have hfr := from_pv false n (by omega)
   have ho : pOver s t = if n = 0 then none else some (mkRat z n) := by unfold pOver; rw [hz, hd]
   (try refine RUN ?_)
   by_cases h0 : n = 0
   ·subst h0
    (apply EV.drawn 6 (by kernel_rfl) (by kernel_rfl); intro xv yw; (repeat (first | refine' DD ?_ | (refine' DC (hfr) (h := ?_); rotate_left) | (refine' DC (make0_pv z) (h := ?_); rotate_left))); refine DJ.nil (fun G hG hF => ?_); (case hS => rfl); (case hS2 => rfl))
    (try refine RUN ?_)
    rw [ho, if_pos rfl]
    rfl
   ·have hm := make_pv z (n : Int) (by show bl _ ≤ _; omega) (by show bl n ≤ _; omega) (by omega)
    rw [if_neg (show ¬ (n : Int) < 0 by omega), show ((n : Int)).natAbs = n from rfl] at hm
    (apply EV.drawn 6 (by kernel_rfl) (by kernel_rfl); intro xv yw; (repeat (first | refine' DD ?_ | (refine' DC (hfr) (h := ?_); rotate_left) | (refine' DC (hm) (h := ?_); rotate_left))); refine DJ.nil (fun G hG hF => ?_); (case hS => rfl); (case hS2 => rfl))
    (try refine RUN ?_)
    rw [ho, if_neg h0]
    rfl
theorem okD_any {t : List UInt8} (h1 : t ≠ []) (h2 : t.length ≤ 200) (h3 : t.all isDg = true) : okD t := ⟨by
 rcases t with _ | ⟨x, m⟩
 ·exact absurd rfl h1
 ·simp, h2, h3⟩
set_option maxHeartbeats 16000000 in
theorem parseDec_pc {H : Hp} (s t : List UInt8) : PC Tryz.prog 36 #[.string (sb s), .string (sb t)] H fun r _ => r = .tuple #[fracV ((pDec s t).getD 0), .bool (pDec s t).isSome] := by
 have hcp := cutPrefix_pv s
 have hN := fun G : Hp => natParse_pc (H := G) (unMinus s)
 have bad : pDec s t = none → Value.tuple #[Value.agg #[.bool false, .int .u64 0, .string ⟨#[]⟩, .int .u64 0, .string ⟨#[]⟩], .bool false] = .tuple #[fracV ((pDec s t).getD 0), .bool (pDec s t).isSome] := fun e => by rw [e, ← fracV_z]; rfl
 have hsz := sb_size t
 have hbad : ¬ okD t → pDec s t = none := fun k => by
  unfold pDec
  generalize pN _ = o
  cases o with
  | none => rfl
  | some n => show (if okD t then _ else _) = none; rw [if_neg k]
 refine PC.body Tryz.tab_ok Tryz.func36 rfl (by kernel_rfl) Tryz.ntmps36 rfl rfl ?_
 repeat (first | refine RUN ?_ | refine CV (hcp) ?_ | refine CE (hcp) ?_)
 refine EVL.call rfl rfl rfl rfl rfl (hN _) ?_
 rintro _ G1 rfl hG1
 cases hp : pN (unMinus s) with
 | none =>
  (try refine RUN ?_)
  exact bad (by
   unfold pDec
   rw [show pN (if s.head? = some 45 then s.tail else s) = none from hp])
 | some n =>
 have bn := pN_bl hp
 have hdec : okD t → pDec s t = some (mkRat (signZ (s.head? = some 45) (n * 10 ^ t.length + valD t)) (10 ^ t.length)) := fun k => by
  unfold pDec
  rw [show pN (if s.head? = some 45 then s.tail else s) = some n from hp]
  show (if okD t then _ else _) = _
  rw [if_pos k]
 (try refine RUN ?_)
 have hnil : (⟨#[]⟩ : ByteArray).toList = ([] : List UInt8) := sb_list []
 rw [sb_list, hnil]
 by_cases ht : t = []
 ·subst ht
  (try refine RUN ?_)
  exact bad (hbad fun k => by have := k.1; simp at this)
 rw [show (t == ([] : List UInt8)) = false from beq_eq_false_iff_ne.2 ht]
 (try refine RUN ?_)
 rw [hsz]
 by_cases hlen : t.length > 200
 ·rw [decide_eq_true (show (t.length : Int) > 200 by omega)]
  (try refine RUN ?_)
  exact bad (hbad fun k => by have := k.2.1; omega)
 rw [decide_eq_false (show ¬ (t.length : Int) > 200 by omega)]
 (try refine RUN ?_)
 rw [hsz]
 refine EV.loopK (ι := Nat) [0, 1, 4, 7, 8, 38] [4, 8] (fun i => [(39, .v (.int .i64 (i : Int)))]) (fun _ => []) (fun _ => []) (fun i _ => i ≤ t.length ∧ (t.take i).all isDg = true) (fun i => t.length - i) (0) rfl rfl ⟨rfl, trivial⟩ trivial rfl (fun _ => rfl) (⟨Nat.zero_le _, rfl⟩) ?_
 rintro i G2 hG2 ⟨hi, hall⟩
 (try refine RUN ?_)
 refine EV.cond rfl (fun hlt => ?_) (fun hlt => ?_)
 ·simp only [decide_eq_true_eq, decide_eq_false_iff_not, Int.not_lt, Int.not_le, beq_iff_eq, beq_eq_false_iff_ne, bne_iff_ne, bne_eq_false_iff_eq, ne_eq, Int.ofNat_lt, Int.ofNat_le, Int.natCast_inj, ge_iff_le, gt_iff_lt, Decidable.not_not, Bool.not_eq_true', Bool.not_eq_false', Bool.not_eq_eq_eq_not, Bool.not_true, Bool.not_false] at hlt
  obtain ⟨c, hc⟩ : ∃ c, t[i]? = some c := ⟨_, List.getElem?_eq_getElem (by omega)⟩
  have hnone : isDg c = false → pDec s t = none := fun k => hbad (okD_bad (List.mem_of_getElem? hc) k)
  have htk := take_snoc hc
  (try refine RUN ?_)
  refine EVL.strAt rfl rfl rfl rfl (by kernel_rfl) rfl rfl i rfl hc ?_
  (try refine RUN ?_)
  by_cases d1 : c.toNat < 48
  ·rw [decide_eq_true (show (c.toNat : Int) < 48 by omega)]
   (try refine RUN ?_)
   refine bad (hnone ?_)
   rw [← Bool.not_eq_true, isDg_iff]
   omega
  rw [decide_eq_false (show ¬ (c.toNat : Int) < 48 by omega)]
  (try refine RUN ?_)
  refine EVL.strAt rfl rfl rfl rfl (by kernel_rfl) rfl rfl i rfl hc ?_
  (try refine RUN ?_)
  by_cases d2 : c.toNat > 57
  ·rw [decide_eq_true (show (c.toNat : Int) > 57 by omega)]
   (try refine RUN ?_)
   refine bad (hnone ?_)
   rw [← Bool.not_eq_true, isDg_iff]
   omega
  rw [decide_eq_false (show ¬ (c.toNat : Int) > 57 by omega)]
  have hdg : isDg c = true := isDg_iff.2 ⟨by omega, by omega⟩
  (try refine RUN ?_)
  exact ⟨i + 1, ⟨by rw [wi_inc i (by omega)]; rfl, trivial⟩, (by repeat (first | exact trivial | refine And.intro rfl ?_)), trivial, (by repeat (first | exact trivial | refine And.intro rfl ?_)), rfl, ⟨by omega, by rw [htk, List.all_append, hall, List.all_cons, hdg]; rfl⟩, Hp.Le.refl _, by omega⟩
 ·simp only [decide_eq_true_eq, decide_eq_false_iff_not, Int.not_lt, Int.not_le, beq_iff_eq, beq_eq_false_iff_ne, bne_iff_ne, bne_eq_false_iff_eq, ne_eq, Int.ofNat_lt, Int.ofNat_le, Int.natCast_inj, ge_iff_le, gt_iff_lt, Decidable.not_not, Bool.not_eq_true', Bool.not_eq_false', Bool.not_eq_eq_eq_not, Bool.not_true, Bool.not_false] at hlt
  obtain rfl : i = t.length := by omega
  rw [List.take_length] at hall
  have hok : okD t := okD_any ht (by omega) hall
  have hpow := pow10_pv t.length (by omega)
  have htr := trimL_pv t 48 (by decide)
  have b10 := ten_bl (e := t.length) (by omega)
  have h10 : 10 ^ t.length ≠ 0 := Nat.ne_of_gt (Nat.pow_pos (by omega))
  have hm := natMul_pv n (10 ^ t.length) (by show bl n ≤ _; omega) (by show bl _ ≤ _; omega)
  have bm : bl (n * 10 ^ t.length) ≤ 1700 := Nat.le_trans (bl_mul _ _) (by omega)
  have bv : bl (valD t) ≤ 800 := valD_bl hall (by omega)
  have ha := natAdd_pv (n * 10 ^ t.length) (valD t) (by show bl _ ≤ _; omega) (by show bl _ ≤ _; omega)
  have bs : bl (n * 10 ^ t.length + valD t) ≤ 1701 := Nat.le_trans (bl_add _ _) (by omega)
  have hf := from_pv (decide (s.head? = some 45)) (n * 10 ^ t.length + valD t) (by omega)
  have hl := lowest_pv (sg (decide (s.head? = some 45)) (n * 10 ^ t.length + valD t)) (10 ^ t.length) (by show bl _ ≤ _; rw [sg_natAbs]; omega) (by show bl _ ≤ _; omega) h10
  have hsgn : sg (decide (s.head? = some 45)) (n * 10 ^ t.length + valD t) = signZ (s.head? = some 45) (n * 10 ^ t.length + valD t) := by
   unfold sg signZ
   by_cases k : s.head? = some 45
   ·rw [if_pos k, if_pos (decide_eq_true k)]
   ·rw [if_neg k, if_neg (by rw [decide_eq_false k]; decide)]
  have hr := hdec hok
  rw [← hsgn] at hr
  generalize sg (decide (s.head? = some 45)) (n * 10 ^ t.length + valD t) = Z at *
  generalize hS : n * 10 ^ t.length + valD t = S at *
  generalize hM : n * 10 ^ t.length = M at *
  generalize hT : 10 ^ t.length = T at *
  rw [hr]
  repeat (first | refine RUN ?_ | refine CV (natOf_pv 10 (by decide)) ?_ | refine CE (natOf_pv 10 (by decide)) ?_)
  rw [hsz]
  repeat (first | refine RUN ?_ | refine CV (hpow) ?_ | refine CV (htr) ?_ | refine CE (hpow) ?_ | refine CE (htr) ?_)
  refine EV.meetK (ι := Unit) [4, 7, 8, 11, 13] [4, 8, 11] (fun _ => []) (fun _ => [(13, 41, [.int .u64 (lo (valD t) : Int), .string (moreB (valD t))])]) (fun _ => []) (fun _ G => G2.Le G) rfl rfl (fun _ => rfl) ?_ ?_
  ·rw [sb_list, hnil]
   by_cases hne : Lib.trimLeftB t 48 = []
   ·have h0 : valD t = 0 := by rw [← (trim_facts t hall).1, hne]; rfl
    have hz : natV 0 = .agg #[.int .u64 0, .string ⟨#[]⟩] := natV_small (by decide)
    rw [hne]
    (try refine RUN ?_)
    refine ⟨(), trivial, (by repeat (first | exact trivial | refine And.intro rfl ?_)), ⟨?_, trivial⟩, (by repeat (first | exact trivial | refine And.intro rfl ?_)), rfl, Hp.Le.refl _⟩
    rw [h0]
    injection hz with hz
    injection hz with hz
    exact congrArg some (Prod.ext rfl hz.symm)
   ·have hpn := trim_pN hok hne
    have hN2 := fun G : Hp => natParse_pc (H := G) (Lib.trimLeftB t 48)
    rw [hpn] at hN2
    rw [show (Lib.trimLeftB t 48 == ([] : List UInt8)) = false from beq_eq_false_iff_ne.2 hne]
    (try refine RUN ?_)
    refine EVL.call rfl rfl rfl rfl rfl (hN2 _) ?_
    rintro _ G3 rfl hG3
    (try refine RUN ?_)
    exact ⟨(), trivial, (by repeat (first | exact trivial | refine And.intro rfl ?_)), ⟨rfl, trivial⟩, (by repeat (first | exact trivial | refine And.intro rfl ?_)), rfl, hG3⟩
  rintro _ G3 hG3
  (try refine RUN ?_)
  (apply EV.drawn 9 (by kernel_rfl) (by kernel_rfl); intro xv yw; (repeat (first | refine' DD ?_ | (refine' DC (hm) (h := ?_); rotate_left) | (refine' DC (ha) (h := ?_); rotate_left) | (refine' DC (hf) (h := ?_); rotate_left) | (refine' DC (hl) (h := ?_); rotate_left))); refine DJ.nil (fun G hG hF => ?_); (case hS => rfl); (case hS2 => rfl))
  (try refine RUN ?_)
  rfl
set_option maxHeartbeats 4000000 in
theorem fracParse_pc {H : Hp} (l : List UInt8) (hl : l.length ≤ 9223372036854775807) : PC Tryz.prog 13 #[.string (sb l)] H fun r _ => r = .tuple #[fracV ((pQ l).getD 0), .bool (pQ l).isSome] := by
 have c1 := cut_pv l 47 hl
 have c2 := cut_pv l 46 hl
 have hO := fun G : Hp => parseOver_pc (H := G) (bef 47 l) (aft 47 l)
 have hD := fun G : Hp => parseDec_pc (H := G) (bef 46 l) (aft 46 l)
 have hI := fun G : Hp => wholeParse_pc (H := G) l
 have hq : pQ l = if l.contains 47 then pOver (bef 47 l) (aft 47 l) else if l.contains 46 then pDec (bef 46 l) (aft 46 l) else Option.map (fun z : Int => (z : Rat)) (pI l) := rfl
 refine PC.body Tryz.tab_ok Tryz.func13 rfl (by kernel_rfl) Tryz.ntmps13 rfl rfl ?_
 cases h1 : l.contains 47 with
 | true =>
  rw [h1] at c1 hq
  rw [if_pos rfl] at hq
  rw [hq]
  repeat (first | refine RUN ?_ | refine CV (c1) ?_ | refine CE (c1) ?_)
  refine EVL.call rfl rfl rfl rfl rfl (hO _) ?_
  rintro _ G1 rfl hG1
  (try refine RUN ?_)
  rfl
 | false =>
 rw [h1] at c1 hq
 rw [if_neg (by decide)] at hq
 repeat (first | refine RUN ?_ | refine CV (c1) ?_ | refine CE (c1) ?_)
 cases h2 : l.contains 46 with
 | true =>
  rw [h2] at c2 hq
  rw [if_pos rfl] at hq
  rw [hq]
  repeat (first | refine RUN ?_ | refine CV (c2) ?_ | refine CE (c2) ?_)
  refine EVL.call rfl rfl rfl rfl rfl (hD _) ?_
  rintro _ G1 rfl hG1
  (try refine RUN ?_)
  rfl
 | false =>
 rw [h2] at c2 hq
 rw [if_neg (by decide)] at hq
 rw [hq]
 repeat (first | refine RUN ?_ | refine CV (c2) ?_ | refine CE (c2) ?_)
 refine EVL.call rfl rfl rfl rfl rfl (hI _) ?_
 rintro _ G1 rfl hG1
 (try refine RUN ?_)
 cases hz : pI l with
 | none =>
  show Value.tuple #[.agg #[.bool (decide ((0 : Int) < 0)), .int .u64 (lo (0 : Int).natAbs : Int), .string (moreB (0 : Int).natAbs), .int .u64 0, .string ⟨#[]⟩], .bool false] = .tuple #[frV 0 0, .bool false]
  rw [frV_zero]
 | some z =>
  show Value.tuple #[.agg #[.bool (decide (z < 0)), .int .u64 (lo z.natAbs : Int), .string (moreB z.natAbs), .int .u64 0, .string ⟨#[]⟩], .bool true] = .tuple #[frV z 0, .bool true]
  rw [frV_zero]
section
variable {P : Program} {n : Nat} {ops : Array Oper} {o : Oper} {rest : List Oper} {env : Env} {bx : Bxs} {sb' : Bxs} {H : Hs} {Q : EQ} {d : Nat}
end
theorem decD_bits : ∀ (k n : Nat), n < 2 ^ k → (Lib.decDigits n).length ≤ k + 1
 | 0, n, h => by
  have : n = 0 := by simpa using h
  rw [this, decD_low (by omega)]; simp
 | k + 1, n, h => by
  by_cases h10 : n < 10
  ·rw [decD_low h10]; simp
  ·rw [decD_step (by omega), List.length_append, List.length_singleton]
   rw [Nat.pow_succ] at h
   have := decD_bits k (n / 10) (by omega)
   omega
theorem decD_bl (n : Nat) : (Lib.decDigits n).length ≤ bl n + 1 := decD_bits _ _ (lt_bl n)
def fracT (q : Rat) : List UInt8 := if q.den = 1 then wtL q.num else wtL q.num ++ [47] ++ Lib.decDigits q.den
theorem wtL_bl (z : Int) : (wtL z).length ≤ bl z.natAbs + 2 := by
 have := decD_bl z.natAbs
 unfold wtL
 split
 ·rw [List.length_append, List.length_singleton]; omega
 ·rw [List.nil_append]; omega
section
variable {P : Program} {n : Nat} {ops : Array Oper} {o : Oper} {rest : List Oper} {env : Env} {bx : Bxs} {H : Hs} {Q : EQ} {d : Nat}
end
theorem wholeTextA_pc {H : Hp} (z : Int) (hz : bl z.natAbs ≤ 8000000) (hT : PowT H) : PC Tryz.prog 23 #[intV z] H fun r _ => r = .string (sb (wtL z)) := by
 have hl := decD_bl z.natAbs
 have hn := natTextA_pc z.natAbs (Nat.le_trans hz (by decide)) hT
 refine PC.body Tryz.tab_ok Tryz.func23 rfl (by kernel_rfl) Tryz.ntmps23 rfl rfl ?_
 (try refine RUN ?_)
 by_cases h : z < 0
 ·rw [decide_eq_true h]
  repeat (first | refine RUN ?_ | refine CV (hn) ?_ | refine CE (hn) ?_)
  refine EVL.cat [45] (Lib.decDigits z.natAbs) rfl rfl rfl rfl rfl rfl (by decide) (by omega) ?_
  (try refine RUN ?_)
  unfold wtL; rw [if_pos h]
 ·rw [decide_eq_false h]
  repeat (first | refine RUN ?_ | refine CV (hn) ?_ | refine CE (hn) ?_)
  unfold wtL; rw [if_neg h]; rfl
theorem fracTextA_pc {H : Hp} (q : Rat) (hq : ht q ≤ 8000) (hT : PowT H) : PC Tryz.prog 19 #[fracV q] H fun r _ => r = .string (sb (fracT q)) := by
 have h1 := bl_num_le q
 have h2 := bl_den_le q
 have hl1 := wtL_bl q.num
 have hl2 := decD_bl q.den
 have hn := fun G (h : H.Le G) => wholeTextA_pc (H := G) q.num (by omega) (hT.mono h)
 have hdt := fun G (h : H.Le G) => natTextA_pc (H := G) (dk q.den) (Nat.le_trans (show bl (dk q.den) ≤ 8000 by have := dk_bl q.den; omega) (by decide)) (hT.mono h)
 have hw := isWhole_pv q (Nat.le_trans (show bl q.den ≤ 8000 by omega) (by decide))
 refine PC.body Tryz.tab_ok Tryz.func19 rfl (by kernel_rfl) Tryz.ntmps19 rfl rfl ?_
 repeat (first | refine RUN ?_ | refine CV (hw) ?_ | refine CE (hw) ?_)
 by_cases h : q.den = 1
 ·rw [decide_eq_true h]
  (try refine RUN ?_)
  refine EVL.call rfl rfl rfl rfl rfl (hn _ (Hp.Le.refl _)) ?_
  rintro _ G rfl hG
  (try refine RUN ?_)
  unfold fracT; rw [if_pos h]
 ·rw [decide_eq_false h]
  (try refine RUN ?_)
  apply EV.drawn 8 (by kernel_rfl) (by kernel_rfl); intro xv yw
  (repeat refine' DD ?_)
  refine' DJ.callS rfl rfl rfl rfl rfl (cOf Tryz.func23 rfl (by kernel_rfl)) (fun G hG hd => hn G hG) ?_; rotate_left
  refine' DJ.cat (wtL q.num) [47] rfl rfl rfl rfl rfl rfl (by omega) (by decide) ?_; rotate_left
  (repeat refine' DD ?_)
  refine' DJ.callS rfl rfl rfl rfl rfl (cOf Tryz.func51 rfl (by kernel_rfl)) (fun G hG hd => hdt G hG) ?_; rotate_left
  refine' DJ.cat (wtL q.num ++ [47]) (Lib.decDigits (dk q.den)) rfl rfl rfl rfl rfl rfl (by rw [List.length_append, List.length_singleton]; omega) (by rw [dk_ne h]; omega) ?_; rotate_left
  (refine DJ.nil (fun G2 hG2 hF2 => ?_); (case hS => rfl); (case hS2 => rfl))
  (try refine RUN ?_)
  unfold fracT; rw [if_neg h, dk_ne h]
theorem decD_len10 : ∀ (k n : Nat), n < 10 ^ k → (Lib.decDigits n).length ≤ k + 1
 | 0, n, h => by rw [decD_low (by omega)]; exact Nat.le_refl _
 | k + 1, n, h => by
  by_cases h1 : n < 10
  ·rw [decD_low h1, List.length_singleton]; omega
  ·have := decD_len10 k (n / 10) (by rw [Nat.pow_succ] at h; omega)
   rw [decD_step (by omega), List.length_append, List.length_singleton]
   omega
theorem oct_ten (k : Nat) : 2 ^ (3 * k) ≤ 10 ^ k := by rw [Nat.pow_mul]; exact Nat.pow_le_pow_left (by decide) k
theorem decD_lt (k n : Nat) (h : bl n ≤ 3 * k) : n < 10 ^ (k + 1) :=
 Nat.lt_of_lt_of_le (lt_bl n) (Nat.le_trans (Nat.pow_le_pow_right (by omega) h) (Nat.le_trans (oct_ten k) (Nat.pow_le_pow_right (by omega) (by omega))))
theorem decD_bl200 {n : Nat} (h : bl n ≤ 594) : (Lib.decDigits n).length ≤ 200 := decD_len10 199 n (decD_lt 198 n (by omega))
theorem ht_mkRat (n : Int) (d k : Nat) (hd : d ≠ 0) (h1 : bl n.natAbs ≤ k) (h2 : bl d ≤ k) : ht (mkRat n d) ≤ k := Nat.le_trans (ht_mk n d hd) (Nat.max_le.2 ⟨h1, h2⟩)
theorem overZ_pv (a b : Int) (ha : -4611686018427387904 ≤ a ∧ a ≤ 4611686018427387904) (hb : -4611686018427387904 ≤ b ∧ b ≤ 4611686018427387904) (h0 : b ≠ 0) : PV Tryz.prog 21 #[.int .i64 a, .int .i64 b] (.tuple #[fracV (mkRat (if b < 0 then -a else a) b.natAbs), .bool true]) := by
 have h1 := wholeOf_pv a (by omega) (by omega)
 have h2 := wholeOf_pv b (by omega) (by omega)
 have b1 : bl a.natAbs ≤ 64 := bl_le (by omega)
 have b2 : bl b.natAbs ≤ 64 := bl_le (by omega)
 have h3 := make_pv a b (by show bl a.natAbs ≤ _; omega) (by show bl b.natAbs ≤ _; omega) h0
 refine PV.of_pc ?_
 refine PC.body Tryz.tab_ok Tryz.func21 rfl (by kernel_rfl) Tryz.ntmps21 rfl rfl ?_
 repeat (first | refine RUN ?_ | refine CV (h1) ?_ | refine CV (h2) ?_ | refine CV (h3) ?_ | refine CE (h1) ?_ | refine CE (h2) ?_ | refine CE (h3) ?_)
 rfl
theorem half_q : pQ [45, 48, 46, 53, 48] = some (Rat.divInt (-1) 2) := by
 show pDec [45, 48] [53, 48] = _
 unfold pDec
 have e : pN [48] = some 0 := by unfold pN; rw [if_pos (by decide)]; rfl
 rw [if_pos (by decide)]
 rw [show ([45, 48] : List UInt8).tail = [48] from rfl, e]
 show (if okD [53, 48] then _ else _) = _
 rw [if_pos (by decide)]
 congr 1
theorem half_t : fracT (Rat.divInt (-1) 2) = [45, 49, 47, 50] := by
 have e1 : (Rat.divInt (-1) 2).num = -1 := by decide +kernel
 have e2 : (Rat.divInt (-1) 2).den = 2 := by decide +kernel
 unfold fracT wtL
 rw [e1, e2, if_neg (by decide), if_pos (by decide), decD_low (by decide), decD_low (by decide)]
 rfl
theorem near_4 : mkRat (nearN ((mkRat 7 2).num * (2 ^ kb 0 : Nat)) (mkRat 7 2).den) (2 ^ kb 0) = 4 := by decide +kernel
theorem four_t : fracT 4 = [52] := by
 unfold fracT wtL
 rw [if_pos (by decide), if_neg (by decide), decD_low (by decide)]
 rfl
set_option maxHeartbeats 8000000 in
theorem known3_pc {H : Hp} (hT : PowT H) : PC Tryz.prog 15 #[] H fun r _ => r = .bool true := by
 have hP := fun G : Hp => fracParse_pc (H := G) [45, 48, 46, 53, 48] (by decide)
 rw [half_q] at hP
 have ho : PV Tryz.prog 21 #[.int .i64 7, .int .i64 2] (.tuple #[fracV (mkRat 7 2), .bool true]) := overZ_pv 7 2 (by omega) (by omega) (by omega)
 have hn := near_pv (mkRat 7 2) (Nat.le_trans (ht_mkRat 7 2 64 (by omega) (bl_le (by decide)) (bl_le (by decide))) (by omega)) 0 (by omega)
 rw [near_4] at hn
 have t1 := fun (G : Hp) (k : H.Le G) => fracTextA_pc (H := G) (Rat.divInt (-1) 2) (Nat.le_trans (ht_mkRat (-1) 2 64 (by omega) (bl_le (by decide)) (bl_le (by decide))) (by omega)) (hT.mono k)
 have t2 := fun (G : Hp) (k : H.Le G) => fracTextA_pc (H := G) 4 (Nat.le_trans (ht_int 4) (by have : bl (4 : Int).natAbs ≤ 64 := bl_le (by decide); omega)) (hT.mono k)
 rw [half_t] at t1
 rw [four_t] at t2
 generalize Rat.divInt (-1) 2 = q1 at *
 generalize mkRat 7 2 = q2 at *
 generalize (4 : Rat) = q3 at *
 refine PC.body Tryz.tab_ok Tryz.func15 rfl (by kernel_rfl) Tryz.ntmps15 rfl rfl ?_
 (try refine RUN ?_)
 refine EVL.call rfl rfl rfl rfl rfl (hP _) ?_
 rintro _ G1 rfl hG1
 repeat (first | refine RUN ?_ | refine CV (ho) ?_ | refine CE (ho) ?_)
 refine EVL.call rfl rfl rfl rfl rfl (t1 _ hG1) ?_
 rintro _ G2 rfl hG2
 (try refine RUN ?_)
 rw [sb_list]
 repeat (first | refine RUN ?_ | refine CV (hn) ?_ | refine CE (hn) ?_)
 refine EVL.call rfl rfl rfl rfl rfl (t2 _ (hG1.trans hG2)) ?_
 rintro _ G3 rfl hG3
 (try refine RUN ?_)
 rw [sb_list]
 rfl
section
variable {P : Program} {n : Nat} {ops : Array Oper} {o : Oper} {rest : List Oper} {env : Env} {bx : Bxs} {sb' : Bxs} {H : Hs} {Q : EQ} {d : Nat}
end
theorem wtL_len200 {z : Int} (h : bl z.natAbs ≤ 594) : (wtL z).length ≤ 201 := by
 have := decD_bl200 h
 unfold wtL
 rw [List.length_append]
 split
 ·rw [List.length_singleton]; omega
 ·rw [List.length_nil]; omega
theorem valD_zeros : ∀ p : Nat, valD (List.replicate p 48) = 0
 | 0 => rfl
 | p + 1 => by rw [List.replicate_succ', valD_snoc, valD_zeros p]; rfl
theorem signZ_mul (P : Prop) [Decidable P] (n T : Nat) : signZ P (n * T) = signZ P n * (T : Int) := by
 unfold signZ
 split
 ·rw [Int.natCast_mul, Int.neg_mul]
 ·rw [Int.natCast_mul]
theorem mkRat_same (z : Int) (T : Nat) (h : T ≠ 0) : mkRat (z * (T : Int)) T = (z : Rat) := by
 have := Rat.mkRat_mul_right (n := z) (d := 1) h
 rw [Nat.one_mul] at this
 rw [this, Rat.mkRat_one]
theorem pQ_zeros (z : Int) (p : Nat) (hz : bl z.natAbs ≤ 64) (hp : p ≤ 100) : pQ (wtL z ++ [46] ++ List.replicate (p + 1) 48) = some (z : Rat) := by
 rw [pQ_dec' fun c hc => wt_mem hc]
 have hok : okD (List.replicate (p + 1) 48) := ⟨by rw [List.length_replicate]; omega, by rw [List.length_replicate]; omega, List.all_eq_true.2 fun c hc => by rw [(List.mem_replicate.1 hc).2]; rfl⟩
 have hn := pN_dec (n := z.natAbs) (decD_bl200 (by omega))
 have hT : 10 ^ (p + 1) ≠ 0 := Nat.ne_of_gt (Nat.pow_pos (by omega))
 have key : ∀ (b : Bool), decide ((wtL z).head? = some 45) = b → (if b then (wtL z).tail else wtL z) = Lib.decDigits z.natAbs → signZ (b = true) z.natAbs = z → pDec (wtL z) (List.replicate (p + 1) 48) = some (z : Rat) := by
  intro b hb h1 h2
  unfold pDec
  have h3 : (if (wtL z).head? = some 45 then (wtL z).tail else wtL z) = Lib.decDigits z.natAbs := by
   cases b with
   | true => rw [if_pos (of_decide_eq_true hb)]; exact h1
   | false => rw [if_neg (of_decide_eq_false hb)]; exact h1
  have h4 : signZ ((wtL z).head? = some 45) z.natAbs = z := by
   cases b with
   | true => unfold signZ at h2 ⊢; rw [if_pos (of_decide_eq_true hb)]; exact h2
   | false => unfold signZ at h2 ⊢; rw [if_neg (of_decide_eq_false hb)]; exact h2
  rw [h3, hn]
  show (if okD (List.replicate (p + 1) 48) then _ else _) = _
  rw [if_pos hok, List.length_replicate, valD_zeros, Nat.add_zero, signZ_mul, h4, mkRat_same z _ hT]
 by_cases h : z < 0
 ·have e : wtL z = [45] ++ Lib.decDigits z.natAbs := by unfold wtL; rw [if_pos h]
  refine key true (by rw [e]; rfl) (by rw [e]; rfl) ?_
  unfold signZ
  rw [if_pos rfl]
  omega
 ·have e : wtL z = Lib.decDigits z.natAbs := by unfold wtL; rw [if_neg h, List.nil_append]
  obtain ⟨c, t, e2, _⟩ := decD_head z.natAbs
  have hc : ¬ (Lib.decDigits z.natAbs).head? = some 45 := fun k => by
   have := List.all_eq_true.1 (valD_dec z.natAbs).2 c (by rw [e2]; exact List.mem_cons_self ..)
   rw [e2] at k
   cases k
   revert this
   decide
  refine key false (by rw [e]; exact decide_eq_false hc) e ?_
  unfold signZ
  rw [if_neg (by decide)]
  omega
theorem str_eq (l : List UInt8) : ((sb l).toList == (sb l).toList) = true := beq_self_eq_true _
set_option maxRecDepth 100000 in
set_option maxHeartbeats 32000000 in
theorem fracForms_pc {H : Hp} (n d k places : Int) (h1 : -9223372036854775808 ≤ n ∧ n < 9223372036854775808) (h2 : -9223372036854775808 ≤ d ∧ d < 9223372036854775808) (h3 : -9223372036854775808 ≤ k ∧ k < 9223372036854775808) (h4 : -9223372036854775808 ≤ places ∧ places < 9223372036854775808) (hT : PowT H) :
  PC Tryz.prog 4 #[.int .i64 n, .int .i64 d, .int .i64 k, .int .i64 places] H fun r _ => r = .bool true := by
 have k1 := pick_pv n 20001 h1 (by decide) (by decide)
 have k2 := pick_pv d 200 h2 (by decide) (by decide)
 have k3 := pick_pv k 50 h3 (by decide) (by decide)
 have k4 := pick_pv places 5 h4 (by decide) (by decide)
 have g1 : 0 ≤ n % 20001 ∧ n % 20001 < 20001 := ⟨Int.emod_nonneg _ (by decide), Int.emod_lt_of_pos _ (by decide)⟩
 have g2 : 0 ≤ d % 200 ∧ d % 200 < 200 := ⟨Int.emod_nonneg _ (by decide), Int.emod_lt_of_pos _ (by decide)⟩
 have g3 : 0 ≤ k % 50 ∧ k % 50 < 50 := ⟨Int.emod_nonneg _ (by decide), Int.emod_lt_of_pos _ (by decide)⟩
 have g4 : 0 ≤ places % 5 ∧ places % 5 < 5 := ⟨Int.emod_nonneg _ (by decide), Int.emod_lt_of_pos _ (by decide)⟩
 obtain ⟨N, hN⟩ : ∃ N : Int, IntKind.i64.wrap (n % 20001 - 10000) = N ∧ -10000 ≤ N ∧ N ≤ 10000 := ⟨_, rfl, by rw [IntKind.wrap_i64]; omega, by rw [IntKind.wrap_i64]; omega⟩
 obtain ⟨D, hD⟩ : ∃ D : Nat, IntKind.i64.wrap (1 + d % 200) = (D : Int) ∧ 1 ≤ D ∧ D ≤ 200 := ⟨(1 + d % 200).toNat, by rw [IntKind.wrap_i64]; omega, by omega, by omega⟩
 obtain ⟨M, hM⟩ : ∃ M : Nat, IntKind.i64.wrap (1 + k % 50) = (M : Int) ∧ 1 ≤ M ∧ M ≤ 50 := ⟨(1 + k % 50).toNat, by rw [IntKind.wrap_i64]; omega, by omega, by omega⟩
 obtain ⟨p, hp⟩ : ∃ p : Nat, places % 5 = (p : Int) ∧ p ≤ 4 := ⟨(places % 5).toNat, by omega, by omega⟩
 obtain ⟨hN0, hN1, hN2⟩ := hN
 obtain ⟨hD0, hD1, hD2⟩ := hD
 obtain ⟨hM0, hM1, hM2⟩ := hM
 obtain ⟨hp0, hp1⟩ := hp
 rw [hp0] at k4
 have hNM : -500000 ≤ N * (M : Int) ∧ N * (M : Int) ≤ 500000 := ⟨by
  have : -10000 * (M : Int) ≤ N * (M : Int) := Int.mul_le_mul_of_nonneg_right hN1 (by omega)
  omega, by
  have : N * (M : Int) ≤ 10000 * (M : Int) := Int.mul_le_mul_of_nonneg_right hN2 (by omega)
  omega⟩
 have hDM : 1 ≤ D * M ∧ D * M ≤ 10000 := ⟨Nat.mul_pos (by omega) (by omega), Nat.le_trans (Nat.mul_le_mul hD2 hM2) (by decide)⟩
 have w1 : IntKind.i64.wrap (N * (M : Int)) = N * (M : Int) := by rw [IntKind.wrap_i64]; omega
 have w2 : IntKind.i64.wrap ((D : Int) * (M : Int)) = ((D * M : Nat) : Int) := by rw [← Int.natCast_mul, IntKind.wrap_i64]; omega
 have w3 : IntKind.i64.wrap (0 - N) = -N := by rw [IntKind.wrap_i64]; omega
 have w4 : IntKind.i64.wrap (0 - (D : Int)) = -(D : Int) := by rw [IntKind.wrap_i64]; omega
 have o1 := overZ_pv N (D : Int) (by omega) (by omega) (by omega)
 rw [if_neg (show ¬ (D : Int) < 0 by omega), show ((D : Int)).natAbs = D from rfl] at o1
 have o2 := overZ_pv (N * (M : Int)) ((D * M : Nat) : Int) (by omega) (by omega) (by omega)
 rw [if_neg (show ¬ ((D * M : Nat) : Int) < 0 by omega), show (((D * M : Nat) : Int)).natAbs = D * M from rfl, Rat.mkRat_mul_right (show M ≠ 0 by omega)] at o2
 have o3 := overZ_pv (-N) (-(D : Int)) (by omega) (by omega) (by omega)
 rw [if_pos (show -(D : Int) < 0 by omega), Int.neg_neg, show (-(D : Int)).natAbs = D by omega] at o3
 have ha : ht (mkRat N D) ≤ 64 := ht_mkRat N D 64 (by omega) (bl_le (by omega)) (bl_le (by omega))
 generalize mkRat N D = a at *
 have bN : bl N.natAbs ≤ 64 := bl_le (by omega)
 have hfN : ht (N : Rat) ≤ 65 := Nat.le_trans (ht_int N) (by omega)
 have hk3 := fun (G : Hp) (q : H.Le G) => known3_pc (H := G) (hT.mono q)
 have ta := fun (G : Hp) (q : H.Le G) => fracTextA_pc (H := G) a (by omega) (hT.mono q)
 have tN := fun (G : Hp) (q : H.Le G) => fracTextA_pc (H := G) (N : Rat) (by omega) (hT.mono q)
 have hcmp := cmp_pv a a (Nat.le_trans ha (by omega)) (Nat.le_trans ha (by omega))
 have hof := of_pv 0 (by omega) (by omega)
 have hadd := add_pv a ((0 : Int) : Rat) (Nat.le_trans ha (by omega)) (by rw [show ((0 : Int) : Rat) = 0 from rfl]; show ht 0 ≤ _; rw [ht_zero]; omega)
 rw [show a + ((0 : Int) : Rat) = a by rw [show ((0 : Int) : Rat) = 0 from rfl, Rat.add_zero]] at hadd
 refine PC.body Tryz.tab_ok Tryz.func4 rfl (by kernel_rfl) Tryz.ntmps4 rfl rfl ?_
 repeat (first | refine RUN ?_ | refine CV (k1) ?_ | refine CE (k1) ?_)
 rw [hN0]
 repeat (first | refine RUN ?_ | refine CV (k2) ?_ | refine CE (k2) ?_)
 rw [hD0]
 repeat (first | refine RUN ?_ | refine CV (k3) ?_ | refine CE (k3) ?_)
 rw [hM0]
 repeat (first | refine RUN ?_ | refine CV (o1) ?_ | refine CE (o1) ?_)
 rw [w1, w2]
 repeat (first | refine RUN ?_ | refine CV (o2) ?_ | refine CE (o2) ?_)
 rw [w3, w4]
 repeat (first | refine RUN ?_ | refine CV (o3) ?_ | refine CV (k4) ?_ | refine CE (o3) ?_ | refine CE (k4) ?_)
 refine EV.loopK (ι := Nat) [9, 12, 13, 14, 15, 16, 17, 18] [12, 14, 16] (fun i => [(19, .v (.int .i64 ((10 ^ i : Nat) : Int))), (20, .v (.string (sb (List.replicate i 48)))), (21, .v (.int .i64 (i : Int)))]) (fun _ => []) (fun _ => []) (fun i _ => i ≤ p) (fun i => p - i) (0) rfl rfl ⟨rfl, rfl, rfl, trivial⟩ trivial rfl (fun _ => rfl) (Nat.zero_le _) ?_
 rintro i G1 hG1 hi
 have hpw : 10 ^ i ≤ 10000 := Nat.le_trans (Nat.pow_le_pow_right (by omega) (show i ≤ 4 by omega)) (by decide)
 have hpw0 : 1 ≤ 10 ^ i := Nat.pow_pos (by omega)
 (try refine RUN ?_)
 refine EV.cond rfl (fun hlt => ?_) (fun hlt => ?_)
 ·simp only [decide_eq_true_eq, decide_eq_false_iff_not, Int.not_lt, Int.not_le, beq_iff_eq, beq_eq_false_iff_ne, bne_iff_ne, bne_eq_false_iff_eq, ne_eq, Int.ofNat_lt, Int.ofNat_le, Int.natCast_inj, ge_iff_le, gt_iff_lt, Decidable.not_not, Bool.not_eq_true', Bool.not_eq_false', Bool.not_eq_eq_eq_not, Bool.not_true, Bool.not_false] at hlt
  have wt : IntKind.i64.wrap (((10 ^ i : Nat) : Int) * 10) = ((10 ^ (i + 1) : Nat) : Int) := by
   rw [Nat.pow_succ]
   generalize 10 ^ i = T at *
   rw [IntKind.wrap_i64]; omega
  (try refine RUN ?_)
  refine EVL.cat (List.replicate i 48) [48] rfl rfl rfl rfl rfl rfl (by rw [List.length_replicate]; omega) (by decide) ?_
  (try refine RUN ?_)
  exact ⟨i + 1, ⟨by rw [wt]; rfl, by rw [← List.replicate_succ']; rfl, by rw [wi_inc i (by omega)]; rfl, trivial⟩, (by repeat (first | exact trivial | refine And.intro rfl ?_)), trivial, (by repeat (first | exact trivial | refine And.intro rfl ?_)), rfl, by omega, Hp.Le.refl _, by omega⟩
 ·simp only [decide_eq_true_eq, decide_eq_false_iff_not, Int.not_lt, Int.not_le, beq_iff_eq, beq_eq_false_iff_ne, bne_iff_ne, bne_eq_false_iff_eq, ne_eq, Int.ofNat_lt, Int.ofNat_le, Int.natCast_inj, ge_iff_le, gt_iff_lt, Decidable.not_not, Bool.not_eq_true', Bool.not_eq_false', Bool.not_eq_eq_eq_not, Bool.not_true, Bool.not_false] at hlt
  obtain rfl : i = p := by omega
  have hT10 : ((10 ^ i : Nat) : Int) ≠ 0 := by omega
  have hz := pQ_zeros N i (by omega) (by omega)
  have hP := fun G : Hp => fracParse_pc (H := G) (wtL N ++ [46] ++ List.replicate (i + 1) 48) (by
   rw [List.length_append, List.length_append, List.length_singleton, List.length_replicate]
   have := wtL_len200 (z := N) (by omega)
   omega)
  rw [hz] at hP
  have lwt := wtL_len200 (z := N) (by omega)
  have hNT : -100000000 ≤ N * ((10 ^ i : Nat) : Int) ∧ N * ((10 ^ i : Nat) : Int) ≤ 100000000 := ⟨by
   have : -10000 * ((10 ^ i : Nat) : Int) ≤ N * ((10 ^ i : Nat) : Int) := Int.mul_le_mul_of_nonneg_right hN1 (by omega)
   omega, by
   have : N * ((10 ^ i : Nat) : Int) ≤ 10000 * ((10 ^ i : Nat) : Int) := Int.mul_le_mul_of_nonneg_right hN2 (by omega)
   omega⟩
  have o4 := overZ_pv (N * ((10 ^ i : Nat) : Int)) ((10 ^ i : Nat) : Int) (by omega) (by omega) hT10
  rw [if_neg (show ¬ ((10 ^ i : Nat) : Int) < 0 by omega), show (((10 ^ i : Nat) : Int)).natAbs = 10 ^ i from rfl, mkRat_same N (10 ^ i) (by omega)] at o4
  have w5 : IntKind.i64.wrap (N * ((10 ^ i : Nat) : Int)) = N * ((10 ^ i : Nat) : Int) := by rw [IntKind.wrap_i64]; omega
  have hof2 := wholeOf_pv N (by omega) (by omega)
  have hwt := fun (G : Hp) (q : H.Le G) => wholeTextA_pc (H := G) N (by omega) (hT.mono q)
  clear hpw hpw0
  generalize hT0 : ((10 ^ i : Nat) : Int) = T at *
  repeat (first | refine RUN ?_ | refine CV (hof2) ?_ | refine CE (hof2) ?_)
  refine EVL.call rfl rfl rfl rfl rfl (hwt _ hG1) ?_
  rintro _ G2 rfl hG2
  (try refine RUN ?_)
  refine EVL.cat (wtL N) [46] rfl rfl rfl rfl rfl rfl (by omega) (by decide) ?_
  (try refine RUN ?_)
  refine EVL.cat (wtL N ++ [46]) (List.replicate i 48) rfl rfl rfl rfl rfl rfl (by rw [List.length_append, List.length_singleton]; omega) (by rw [List.length_replicate]; omega) ?_
  (try refine RUN ?_)
  refine EVL.cat (wtL N ++ [46] ++ List.replicate i 48) [48] rfl rfl rfl rfl rfl rfl (by rw [List.length_append, List.length_append, List.length_singleton, List.length_replicate]; omega) (by decide) ?_
  rw [List.append_assoc (wtL N ++ [46]), ← List.replicate_succ']
  (try refine RUN ?_)
  refine EVL.call rfl rfl rfl rfl rfl (hP _) ?_
  rintro _ G3 rfl hG3
  (try refine RUN ?_)
  rw [w5]
  repeat (first | refine RUN ?_ | refine CV (o4) ?_ | refine CE (o4) ?_)
  have hL : H.Le G3 := hG1.trans (hG2.trans hG3)
  have eord : (ordR a a == 0) = true := by unfold ordR; rw [if_neg Rat.lt_irrefl, if_neg Rat.lt_irrefl]; rfl
  apply EV.drawn 49 (by kernel_rfl) (by kernel_rfl); intro xv yw
  (repeat refine' DD ?_)
  refine' DJ.callS rfl rfl rfl rfl rfl (cOf Tryz.func15 rfl (by kernel_rfl)) (fun G hG hd => hk3 G (hL.trans hG)) ?_; rotate_left
  (repeat (first | refine' DD ?_ | (refine' DC (hcmp) (h := ?_); rotate_left)))
  rw [eord]
  (repeat refine' DD ?_)
  refine' DJ.callS rfl rfl rfl rfl rfl (cOf Tryz.func19 rfl (by kernel_rfl)) (fun G hG hd => ta G (hL.trans hG)) ?_; rotate_left
  (repeat refine' DD ?_)
  refine' DJ.callS rfl rfl rfl rfl rfl (cOf Tryz.func19 rfl (by kernel_rfl)) (fun G hG hd => ta G (hL.trans hG)) ?_; rotate_left
  (repeat refine' DD ?_)
  rw [str_eq]
  (repeat refine' DD ?_)
  refine' DJ.callS rfl rfl rfl rfl rfl (cOf Tryz.func19 rfl (by kernel_rfl)) (fun G hG hd => ta G (hL.trans hG)) ?_; rotate_left
  (repeat refine' DD ?_)
  refine' DJ.callS rfl rfl rfl rfl rfl (cOf Tryz.func19 rfl (by kernel_rfl)) (fun G hG hd => ta G (hL.trans hG)) ?_; rotate_left
  (repeat refine' DD ?_)
  rw [str_eq]
  (repeat refine' DD ?_)
  refine' DJ.callS rfl rfl rfl rfl rfl (cOf Tryz.func19 rfl (by kernel_rfl)) (fun G hG hd => tN G (hL.trans hG)) ?_; rotate_left
  (repeat refine' DD ?_)
  refine' DJ.callS rfl rfl rfl rfl rfl (cOf Tryz.func19 rfl (by kernel_rfl)) (fun G hG hd => tN G (hL.trans hG)) ?_; rotate_left
  (repeat refine' DD ?_)
  rw [str_eq]
  (repeat refine' DD ?_)
  refine' DJ.callS rfl rfl rfl rfl rfl (cOf Tryz.func19 rfl (by kernel_rfl)) (fun G hG hd => ta G (hL.trans hG)) ?_; rotate_left
  (repeat (first | refine' DD ?_ | (refine' DC (hof) (h := ?_); rotate_left) | (refine' DC (hadd) (h := ?_); rotate_left)))
  refine' DJ.callS rfl rfl rfl rfl rfl (cOf Tryz.func19 rfl (by kernel_rfl)) (fun G hG hd => ta G (hL.trans hG)) ?_; rotate_left
  (repeat refine' DD ?_)
  rw [str_eq]
  (repeat refine' DD ?_)
  (refine DJ.nil (fun G hG hF => ?_); (case hS => rfl); (case hS2 => rfl))
  (try refine RUN ?_)
  rfl
end Go.Proofs.YtjekjlaokjhhgaaGreatDoor
namespace Go.Proofs.YtjekjlaokjhhgaaGreatDoor
open Go.ChangeShapes Go.WideShapes Go.ChangeAt Go.RowKit
def hpOf (W : World) : Hp := fun b => match W.heap[b]? with
 | some (.cells c _ _) => some c
 | _ => none
theorem fits_hpOf (W : World) : Fits (hpOf W) W := fun b c h => by
 unfold hpOf at h
 split at h
 ·rename_i c' T fz hb; cases h; exact ⟨T, fz, hb⟩
 ·cases h
section
variable {H : Type} {enc : TypeId × Value → H} {P : Program} {w : World} {base : Nat} {spare : Nat → Bool} {held : Bool}
end
theorem i64_bounds {z : Int} (h : (Lit.int .i64 z).wf = true) : -9223372036854775808 ≤ z ∧ z < 9223372036854775808 := by
 have := bounds_i64 h; omega
end Go.Proofs.YtjekjlaokjhhgaaGreatDoor
namespace Go.Proofs.YtjekjlaokjhhgaaGreatDoor
open Go Go.RowKit
theorem laidE_find {P : Program} {W : World} {n : String} {d : DataW Unit} : ∀ {l : List (String × DataW Unit)} {ps : List MemPlace}, DataW.LaidVars P W l ps → (n, d) ∈ l →
  ∃ p, DataW.LaidVars P W [(n, d)] p
 | [], _, _, h => by cases h
 | (m, x) :: r, ps, h, hm => by
  obtain ⟨g, t, cs, fuel, p, q, h1, h2, h3, h4, h5, h6⟩ := h
  rcases List.mem_cons.1 hm with hm | hm
  ·cases hm
   exact ⟨_, g, t, cs, fuel, p, [], h1, h2, h3, h4, rfl, rfl⟩
  ·exact laidE_find h5 hm
theorem laid_gH {P : Program} {l : List (String × DataW Unit)} {W : World} {α : Type} (f : α → Int) (h : laidMet P l W) {n : String} {zs : List α} {kd : IntKind} {g : Nat} {T e : TypeId} (hmem : (n, .agg (zs.map fun z => .lit (.int kd (f z)))) ∈ l) (hg : P.globalNamed n = some g) (ht : (P.globals[g]?).map (·.type) = some T)
  (hT : P.underlying T = some (.array zs.length e)) (he : P.underlying e = some (.int kd)) (hc : P.cellsOf e = 1) (hcT : P.cellsOf T = zs.length) :
  ∃ U fz, W.heap[g]? = some (.cells (zs.map fun z => Value.int kd (f z)).toArray U fz) := by
 obtain ⟨ps, hl, _⟩ := h
 obtain ⟨p0, g', t, cs, fuel, p, q, hg', ht', hv, hd, _, _⟩ := laidE_find hl hmem
 obtain rfl := Option.some.inj (hg.symm.trans hg')
 obtain rfl := Option.some.inj (ht.symm.trans ht')
 obtain ⟨xs, m, _, ex, hcl, hlen, hel⟩ := DataW.trod_array hT hd
 have hb : ∃ U fz, W.heap[g]? = some (.cells cs U fz) := by
  simp only [World.var?, hg, Option.bind_some] at hv
  split at hv
  ·rename_i c U fz hc'; cases hv; exact ⟨U, fz, hc'⟩
  ·cases hv
 obtain ⟨U, fz, hb⟩ := hb
 refine ⟨U, fz, ?_⟩
 rw [hb]
 congr 2
 apply Array.ext'
 rw [hcT] at hcl
 have e3 : (xs.map (·.1)) = zs.map fun n => .lit (.int kd (f n)) := (DataW.agg.inj (Prod.mk.inj ex).1).symm
 apply List.ext_getElem?
 intro r
 rcases Nat.lt_or_ge r zs.length with hr | hr
 ·have hE := hel r hr
  rw [hc, Nat.mul_one, List.getElem?_eq_getElem (by omega)] at hE
  obtain ⟨z, e1, e2, _⟩ := DataW.trod_int he hE
  have e4 : (xs.map (·.1))[r]? = (zs.map fun n => (DataW.lit (.int kd (f n)) : DataW Unit))[r]? := by rw [e3]
  rw [List.getElem?_map, List.getElem?_map, List.getElem?_eq_getElem (by omega : r < xs.length), List.getElem?_eq_getElem hr, e2] at e4
  simp only [Option.map_some, Option.some.injEq, DataW.lit.injEq, Lit.int.injEq, true_and] at e4
  have h0 : ((cs.toList.drop r).take 1)[0]? = some (.int kd z) := by rw [e1]; rfl
  simp only [List.getElem?_take, List.getElem?_drop, Nat.add_zero] at h0
  rw [if_pos (by omega)] at h0
  rw [h0, e4]
  simp [hr]
 ·rw [List.getElem?_eq_none (by omega), List.getElem?_eq_none (by simpa using hr)]
theorem fits_gH {l : List (String × DataW Unit)} {W : World} (h : laidMet Tryz.prog l W) (hmem : ("math/bits.deBruijn64tab", .agg (Lib.deBruijn64tab.map fun (z : Nat) => .lit (.int .u8 z))) ∈ l) : Fits gH W := fun b c hb => by
 unfold gH at hb
 split at hb
 ·rename_i hbb
  cases hb
  obtain rfl := Nat.eq_of_beq_eq_true hbb
  exact laid_gH (fun z : Nat => (z : Int)) h hmem (by kernel_rfl) (by kernel_rfl) Tryz.underlying196 Tryz.underlying5 (by kernel_rfl) (by kernel_rfl)
 ·cases hb
theorem powT_of {l : List (String × DataW Unit)} {W : World} (h : laidMet Tryz.prog l W) (hmem : ("internal/strconv.uint64pow10", .agg (Lib.pow10Tab.map fun z => .lit (.int .u64 z))) ∈ l) : PowT (hpOf W) := by
 obtain ⟨U, fz, hb⟩ := laid_gH (fun z : Int => z) (g := 3) h hmem (by kernel_rfl) (by kernel_rfl) Tryz.underlying192 Tryz.underlying39 (by kernel_rfl) (by kernel_rfl)
 unfold PowT hpOf
 rw [hb]
 rfl
end Go.Proofs.YtjekjlaokjhhgaaGreatDoor
