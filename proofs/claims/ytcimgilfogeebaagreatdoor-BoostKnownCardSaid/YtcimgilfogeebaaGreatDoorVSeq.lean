/- slices.AppendSeq over slices.Values at []int: a contract; the machine's word for it. -/
import Derived.Test.YtcimgilfogeebaaGreatDoorBase
import Derived.Test.YtcimgilfogeebaaGreatDoorVExt
import Derived.RangeFuncBox
import Derived.RangeFuncLeaves
import Derived.Shelf.Abstract
import Derived.OwnWalkIn
import Derived.TacticsInMore
import Derived.LoopNIn
import Derived.LoopIn
import Derived.Maps.AppendAt
set_option linter.unusedVariables false
set_option linter.unusedSimpArgs false
namespace Go.Proofs.YtcimgilfogeebaaGreatDoor
open Go.RowKit Go.Shelf

attribute [local go_sem] Oper.semAt_some

def uptoF {α : Type} (f : Nat → α) (k : Nat) : List α := (List.range k).map f
theorem uptoF_succ {α : Type} (f : Nat → α) (k : Nat) : uptoF f (k + 1) = uptoF f k ++ [f k] := by simp [uptoF, List.range_succ]
theorem uptoF_length {α : Type} (f : Nat → α) (k : Nat) : (uptoF f k).length = k := by simp [uptoF]
theorem uptoF_all (zs : List Int) : uptoF (fun j => zs[j]?.getD 0) zs.length = zs := by
  apply List.ext_getElem
  · simp [uptoF]
  · intro i h1 h2
    simp [uptoF, h2]
theorem uptoF_take (zs : List Int) {k : Nat} (hk : k ≤ zs.length) : uptoF (fun j => zs[j]?.getD 0) k = zs.take k := by
  apply List.ext_getElem
  · simp [uptoF, hk]
  · intro i h1 h2
    have : i < zs.length := by simp [uptoF] at h1; omega
    simp [uptoF, this]

set_option maxRecDepth 100000 in
set_option maxHeartbeats 2000000 in
theorem values1_in (F : Fence) (n : Nat) (h7 : F.fn 176) (hro : F.round = none) (hn : 1 ≤ n) (l Bs n₀ b off len cap : Nat) (zs : List Int) (hreach : len * 8 ≤ 140737488351232) (hb : b < n₀) (J Jx : List Int → World → Prop)
    (hY : ∀ pre x W, J pre W → pre.length < len → YieldAt F (n - 1) Tryz.prog l #[.int .i64 x] W fun e W' =>
      (e = .returned (.bool true) ∧ J (pre ++ [x]) W' ∧ Below n₀ W W') ∨ (e = .returned (.bool false) ∧ Jx (pre ++ [x]) W'))
    (W : World) (hBs : W.cell? ⟨Bs, 0, none⟩ = some (.slice (some ⟨b, off, none⟩) len cap)) (hc : ∀ j, j < len → W.cell? ⟨b, off + j, none⟩ = some (.int .i64 (zs[j]?.getD 0))) (h0 : J [] W) :
    CallsIn F n Tryz.prog 176 #[.func (.yield l) #[] #[], .pointer (some ⟨Bs, 0, none⟩)] W fun e W' => (∃ v, e = .returned v) ∧
      ((∃ ys, ys = uptoF (fun j => zs[j]?.getD 0) len ∧ J ys W') ∨ (∃ pre, (∃ k, k ≤ len ∧ pre = uptoF (fun j => zs[j]?.getD 0) k) ∧ Jx pre W')) := by
  refine callsIn_of_wp Tryz.func176 rfl h7 ?_ hro
  simp only [Tryz.ntmps176, List.size_toArray, List.length_cons, List.length_nil, Nat.reduceAdd, Nat.reduceSub, Array.replicate_succ, Array.replicate_zero, List.push_toArray, List.append_toArray, List.nil_append, List.cons_append]
  gi_wp2
  gi_loopw [7] (fun i wr => ∃ k : Nat, k ≤ len ∧ i = .int .i64 k ∧ J (uptoF (fun j => zs[j]?.getD 0) k) wr ∧ Below n₀ W wr)
    (fun i _ => len - (intOf i).toNat)
  case atStart => exact ⟨0, Nat.zero_le _, rfl, h0, Below.refl _ _⟩
  case round =>
    obtain ⟨k, hk, rfl, hJs, hnx⟩ := hrel
    have hcx : k < len → wr.cell? ⟨b, off + k, none⟩ = some (.int .i64 (zs[k]?.getD 0)) := fun h => (hnx.cell (p := ⟨b, off + k, none⟩) hb).trans (hc k h)
    by_cases hlt : k < len
    · obtain ⟨fn, tmps, assign, body, hy, hR⟩ := hY _ (zs[k]?.getD 0) wr hJs (by rw [uptoF_length]; exact hlt)
      have hcx' := hcx hlt
      gi_wp2
      refine hR.mono ?_
      rintro e W3 (⟨rfl, hJ3, hk3⟩ | ⟨rfl, hJx3⟩)
      · gi_wp2
        go_roundw
        case rel => exact ⟨k + 1, by omega, by simp, by rw [uptoF_succ]; exact hJ3, hnx.trans hk3⟩
        case measure => simp [intOf]; omega
      · gi_wp2
        refine bodyPost_ret (results_none rfl _ _ _) rfl ?_
        exact ⟨⟨_, rfl⟩, .inr ⟨_, ⟨k + 1, by omega, (uptoF_succ _ _).symm⟩, hJx3⟩⟩
    · obtain rfl : k = len := by omega
      gi_wp2
      go_end0
      exact ⟨⟨_, rfl⟩, .inl ⟨_, rfl, hJs⟩⟩

set_option maxRecDepth 100000 in
set_option maxHeartbeats 1000000 in
theorem values1_nil_in (F : Fence) (n : Nat) (h7 : F.fn 176) (hro : F.round = none) (l Bs : Nat) (a : Option Addr) (cap : Nat) (J : List Int → World → Prop) (W : World) (hBs : W.cell? ⟨Bs, 0, none⟩ = some (.slice a 0 cap)) (h0 : J [] W) :
    CallsIn F n Tryz.prog 176 #[.func (.yield l) #[] #[], .pointer (some ⟨Bs, 0, none⟩)] W fun e W' => (∃ v, e = .returned v) ∧ J [] W' := by
  refine callsIn_of_wp Tryz.func176 rfl h7 ?_ hro
  simp only [Tryz.ntmps176, List.size_toArray, List.length_cons, List.length_nil, Nat.reduceAdd, Nat.reduceSub, Array.replicate_succ, Array.replicate_zero, List.push_toArray, List.append_toArray, List.nil_append, List.cons_append]
  gi_wp2
  gi_loopw [7] (fun i wr => i = .int .i64 0 ∧ J [] wr) (fun _ _ => 0)
  case atStart => exact ⟨rfl, h0⟩
  case round =>
    obtain ⟨rfl, hJs⟩ := hrel
    gi_wp2
    go_end0
    exact ⟨⟨_, rfl⟩, hJs⟩

theorem sl_cells {α : Type} {enc : α → Value} {w : World} {v : Value} {l : List α} (h : Sl enc w v l) :
    (l = [] ∧ ∃ a cap, v = .slice a 0 cap) ∨ ∃ b off cap, v = .slice (some ⟨b, off, none⟩) l.length cap ∧ b < w.heap.size ∧ ∀ j (h : j < l.length), w.cell? ⟨b, off + j, none⟩ = some (enc l[j]) := h

/-- slices.Values hands back a value that yields the slice's elements, for a body that keeps what lay below n₀. -/
theorem values_stops (F : Fence) (n : Nat) (h7 : F.fn 176) (hro : F.round = none) (hn : 1 ≤ n) (Bs n₀ : Nat) (sv : Value) (zs : List Int) (hreach : zs.length * 8 ≤ 140737488351232) (w : World) (hBs : Bs < w.heap.size) (hn₀ : n₀ ≤ w.heap.size)
    (hc : w.cell? ⟨Bs, 0, none⟩ = some sv) (hI : Sl i64 w sv zs) (hlow : ∀ b off len cap, sv = .slice (some ⟨b, off, none⟩) len cap → zs ≠ [] → b < n₀) :
    SeqStopsK F n Tryz.prog 176 #[.pointer (some ⟨Bs, 0, none⟩)] (fun x : Int => #[Value.int .i64 x]) (Below n₀) (fun ys => ys = zs) (fun pre => pre <+: zs) zs.length w := fun l J Jx W hW _ _ hY h0 => by
  have hc' := (hW.cell (p := ⟨Bs, 0, none⟩) hBs).trans hc
  rcases hI.below hW with ⟨rfl, a, cap, rfl⟩ | ⟨b, off, cap, rfl, hb, hcs⟩
  · exact (values1_nil_in F n h7 hro l Bs a cap J W hc' h0).mono fun e W' ⟨he, hj⟩ => ⟨he, .inl ⟨_, rfl, hj⟩⟩
  · by_cases hz : zs = []
    · subst hz
      exact (values1_nil_in F n h7 hro l Bs _ cap J W hc' h0).mono fun e W' ⟨he, hj⟩ => ⟨he, .inl ⟨_, rfl, hj⟩⟩
    · refine (values1_in F n h7 hro hn l Bs n₀ b off zs.length cap zs hreach (hlow _ _ _ _ rfl hz) J Jx hY W hc' (fun j hj => by rw [hcs j hj]; simp [hj]) h0).mono ?_
      rintro e W' ⟨he, ⟨ys, rfl, hj⟩ | ⟨pre, ⟨k, hk, rfl⟩, hj⟩⟩
      · exact ⟨he, .inl ⟨_, uptoF_all zs, hj⟩⟩
      · exact ⟨he, .inr ⟨_, by rw [uptoF_take zs hk]; exact List.take_prefix _ _, hj⟩⟩

theorem Tryz.infoInt' : (Tryz.prog.info? 3).map (fun i => (i.zero, i.size, i.bytes)) = some (some (.int .i64 0), 1, 8) := by kernel_rfl

set_option maxRecDepth 100000 in
set_option maxHeartbeats 2000000 in
/-- slices.AppendSeq at nil, over a boxed slice of ints -/
theorem appendSeq_in (F : Fence) (n : Nat) (h3 : F.fn 183) (h5 : F.fn 176) (hro : F.round = none) (hn : 3 ≤ n) (Bs : Nat) (sv : Value) (xs : List Int) (hbytes : xs.length * 8 ≤ 140737488351232) (w : World)
    (hBs : Bs < w.heap.size) (hc0 : w.cell? ⟨Bs, 0, none⟩ = some sv) (hI : Sl i64 w sv xs) :
    CallsIn F n Tryz.prog 183 #[.slice none 0 0, .func (.func 176) #[] #[.pointer (some ⟨Bs, 0, none⟩)]] w fun e W' => ∃ v, e = .returned v ∧ W'.ownsRow w.heap.size 3 1 v xs.length (xs.map (Value.int .i64)) ∧ (v = .slice none 0 0 ↔ xs = []) ∧ Below w.heap.size w W' := by
  have h1 : 1 ≤ n := by omega
  obtain ⟨i0, hi, hz0, hz1, hz2⟩ := info_parts Tryz.infoInt'
  refine callsIn_of_wp_marks Tryz.func183 rfl h3 ?_ hro
  simp only [Tryz.ntmps183, List.size_toArray, List.length_cons, List.length_nil, Nat.reduceAdd, Nat.reduceSub, Array.replicate_succ, Array.replicate_zero, List.push_toArray, List.append_toArray, List.nil_append, List.cons_append]
  gi_wp2
  have bO := Boxed.new w 72 (.slice none 0 0)
  have hB0 : Below w.heap.size w (w.alloc (.cells #[.slice none 0 0] 72)) := (Below.refl _ w).alloc (Nat.le_refl _) _
  have hmax : xs.length ≤ maxLen := by unfold maxLen; omega
  refine wpIn_rangeFunc_ownG hro h1 (gf := 176) (lb := #[.pointer (some ⟨Bs, 0, none⟩)]) rfl h5 (enters_of Tryz.func176 (by kernel_rfl) rfl)
    (values_stops F (n - 1) h5 hro (by omega) Bs w.heap.size sv xs hbytes _ (by simp; omega) (by simp) ((hB0.cell (p := ⟨Bs, 0, none⟩) hBs).trans hc0) (hI.below hB0) (fun b off len cap e hne => by
      rcases hI with ⟨hx, _⟩ | ⟨b', off', cap', e', hb', _⟩
      · exact absurd hx hne
      · rw [e'] at e; cases e; exact hb')) belowK_t (belowK_b (by simp)) (Below.refl _ _) (fun _ => rfl)
    (fun pre W => (∃ v, Boxed W w.heap.size 72 v ∧ W.ownsRow w.heap.size 3 1 v pre.length (pre.map (Value.int .i64)) ∧ (v = .slice none 0 0 ↔ pre = [])) ∧ Below w.heap.size w W)
    (fun _ _ _ => False)
    (OwnFrom.and (Own.from (holdsRow_own w.heap.size w.heap.size 72 3 1 (fun pre => pre.length) (fun pre => pre.map (Value.int .i64)) (fun pre v => v = .slice none 0 0 ↔ pre = [])) _) (ownFrom_below (Nat.le_refl _) (by simp)))
    (fun _ _ _ _ _ hs _ _ => hs)
    ⟨⟨_, bO, World.ownsRow_nil _ _ _ _, by simp⟩, hB0⟩
    (fun x => { tmps := #[.slice none 0 0, .func (.func 176) #[] #[.pointer (some ⟨Bs, 0, none⟩)], .pointer (some ⟨w.heap.size, 0, none⟩), undef, .slice none 0 0, .int .i64 x, .func (.func 176) #[] #[.pointer (some ⟨Bs, 0, none⟩)], .int .i64 x, undef, undef, undef, undef, undef], defers := [] }) ?assign ?body ?done ?stop
  case assign =>
    intro l x W K hK
    gi_wp2
    exact hK
  case body =>
    rintro l pre x W ⟨⟨v, hv, hrow, hnil⟩, hB⟩ hlt
    have hc := hv.cell
    gi_wp2_with (gi_at_builtin; refine wpListIn_append_own _ rfl _ _ 72 rfl w.heap.size 3 i0 (.int .i64 0) 1 8 Tryz.underlying72 hi hz0 hz1 hz2 rfl (by decide) _ _ _ rfl (hrow.alloc _) ⟨W.heap.size, 0, none⟩ 1 1 [.int .i64 x] rfl rfl (cell_one_new _ _ _) (by simp [Value.oneCell']) (by omega) (by omega) (by have := hB.size; simp; omega) ?_; intro v' w1 hown' hgrow _; obtain ⟨g', cap', rfl⟩ := ownsRow_succ hown'; obtain ⟨hv1, hv2, hr2, hk2, hb2⟩ := hv.appended (by decide) hrow hB.size (Nat.le_refl _) hown' hgrow; have hc1 := hv1.cell; have hf1 := hv1.frozen)
    exact ⟨hk2.from _, hb2, ⟨_, hv2, by simpa using hr2, by simp⟩, hB.trans hb2⟩
  case done =>
    rintro D ys W hD rfl ⟨⟨v, hv, hrow, hnil⟩, hB⟩ hK
    have hc := hv.cell
    gi_wp2
    refine ⟨by simp, .inl ⟨_, _, rfl, run_takeDeferred hK, ?_⟩⟩
    exact ⟨_, results_tmp rfl _ _ _, v, rfl, ownsRow_putObj hrow _ hK rfl, hnil, hB.trans (belowK_b (w := w) (Nat.le_refl _) W D _ _ (by simp at hD; omega) hK rfl rfl)⟩
  case stop =>
    rintro D c pre W _ _ h _
    exact h.elim


namespace VM
open Go Go.RowKit

noncomputable def allInt (l : List AV) : Bool := List.rec (motive := fun _ => Bool) true (fun x _ ih => match x with
  | .int .i64 _ => ih
  | _ => false) l
theorem allInt_spec : ∀ {l : List AV}, allInt l = true → ∃ xs : List Int, l = xs.map (AV.int .i64)
  | [], _ => ⟨[], rfl⟩
  | .int .i64 z :: l, h => by
    obtain ⟨xs, rfl⟩ := allInt_spec (l := l) h
    exact ⟨z :: xs, rfl⟩
  | .bool _ :: _, h | .int .i8 _ :: _, h | .int .i16 _ :: _, h | .int .i32 _ :: _, h | .int .u8 _ :: _, h | .int .u16 _ :: _, h | .int .u32 _ :: _, h | .int .u64 _ :: _, h | .str _ :: _, h | .ptr .. :: _, h | .glo .. :: _, h | .nilp :: _, h | .sl .. :: _, h | .nils :: _, h | .agg _ :: _, h | .tup _ :: _, h | .fn .. :: _, h | .nilf :: _, h | .ifc .. :: _, h | .nili :: _, h => by cases h
theorem ints_inv {β : Be} : ∀ {xs : List Int} {l : List Value}, VL β (xs.map (AV.int .i64)) l → l = xs.map (Value.int .i64)
  | [], l, h => h.nil_inv
  | x :: xs, l, h => by
    obtain ⟨y, r, rfl, hy, hr⟩ := VL.cons_inv (x := AV.int .i64 x) (l := xs.map (AV.int .i64)) h
    rw [hy.int_inv, ints_inv hr]; rfl
theorem ints_vl {β : Be} : ∀ (xs : List Int), VL β (xs.map (AV.int .i64)) (xs.map (Value.int .i64))
  | [] => VL.nil β
  | x :: xs => (ints_vl xs).cons (.int _ _)
def noStr : AV → Bool
  | .str _ => false
  | _ => true
/-- slices.AppendSeq at nil over slices.Values' inner function q; e: the type int -/
noncomputable def seqF (q e : Nat) (ags : List AV) (h : Tr Blk) (n : Nat) : Option (AV × Tr Blk × Nat × List Nat) := match ags with
  | [.nils, .fn (.func g) [] [.ptr i 0]] => (match Nat.beq g q with
    | true => memK none h i fun b => (match b with
      | ⟨_, true, _, [s]⟩ => (match noStr s with | false => none | true => srcK none h 1 s fun l m => (match allInt l, m with
        | true, 0 => some (.nils, h, n, [])
        | true, m + 1 => (match small (Nat.succ m) 8, Nat.beq l.length (Nat.succ m), s with
          | true, true, .sl .. => newK none h n ⟨false, false, some e, l⟩ fun h n' => frcN (Nat.succ (Nat.mul 2 (Nat.succ m))) fun c => some (.sl n 0 (Nat.succ m) c 1, h, n', [])
          | _, _, _ => none)
        | false, _ => none))
      | _ => none)
    | false => none)
  | _ => none
/-- nothing old was turned -/
theorem Post.below {G : GlF} {β : Be} {h : HpF} {W W' : World} (r : HR G β h W) (n : Nat) (hbl : Below W.heap.size W W') : Post G β h W n n [] β h W' :=
  have hkept : ∀ k, k < W.heap.size → W'.heap[k]? = W.heap[k]? := fun k hk => hbl.block k hk
  ⟨fun _ _ => rfl, ⟨fun i b hb => (r.at_ i b hb).mono (fun _ _ h => h) fun p hp' => hkept p.b (by
      obtain ⟨q, hq, hl⟩ := (r.at_ i b hb).place
      rw [hp'] at hq; cases hq; exact hl), r.inj, fun g cs hg => by
      obtain ⟨c, U, fz, h5, h6⟩ := r.glob g cs hg
      exact ⟨c, U, fz, (hkept g (r.globLt (by rw [hg]; simp))).trans h5, h6⟩, r.sep⟩, hbl.os, hbl.tape, hbl.output, hbl.size, fun k hk _ => hkept k hk, fun i h1 h2 => by omega⟩
theorem VR.fn_inv0 {β : Be} {f : Fn} {x : AV} {y : Value} (h : VR β (.fn f [] [x]) y) : ∃ z, y = .func f #[] #[z] ∧ VR β x z := by
  cases h with
  | fn f a b a' b' hl h hl2 h2 =>
    obtain rfl : a' = [] := List.eq_nil_of_length_eq_zero hl.symm
    obtain ⟨z, r, rfl, hz, hr⟩ := VL.cons_inv (l' := b') ⟨hl2, h2⟩
    obtain rfl := hr.nil_inv
    exact ⟨z, rfl, hz⟩
set_option maxRecDepth 100000 in
set_option maxHeartbeats 1000000 in
theorem ext_seq : ExtOk Tryz.prog 183 (.user (seqF 176 3)) := fun G ags h n hd v h' n' tl hF => by
  have hb : ¬ (fun o : Option (AV × Tr Blk × Nat × List Nat) => o = some (v, h', n', tl)) none := by simp
  unfold seqF at hF
  split at hF
  · rename_i g i
    split at hF
    · rename_i hg
      obtain rfl := Nat.eq_of_beq_eq_true hg
      obtain ⟨b, hgb, h1⟩ := memK_spec (T := fun o : Option (AV × Tr Blk × Nat × List Nat) => o = some (v, h', n', tl)) hb hF
      split at h1
      · rename_i ro ty s
        split at h1
        · cases h1
        rename_i hns
        obtain ⟨l, m, h2, hlen, hsrc⟩ := srcK_spec (T := fun o : Option (AV × Tr Blk × Nat × List Nat) => o = some (v, h', n', tl)) hb h1
        have key : ∀ xs : List Int, l = xs.map (AV.int .i64) → xs.length * 8 ≤ 140737488351232 → ∀ (β : Be) (W : World) (ys : List Value), HR G β h.get W → VL β [.nils, .fn (.func 176) [] [.ptr i 0]] ys →
            ∃ (p : Pl), ys = [.slice none 0 0, .func (.func 176) #[] #[.pointer (some ⟨p.b, 0, none⟩)]] ∧
            Calls Tryz.prog 183 #[.slice none 0 0, .func (.func 176) #[] #[.pointer (some ⟨p.b, 0, none⟩)]] W fun e W' => ∃ v, e = .returned v ∧ W'.ownsRow W.heap.size 3 1 v xs.length (xs.map (Value.int .i64)) ∧ (v = .slice none 0 0 ↔ xs = []) ∧ Below W.heap.size W W' := by
          intro xs hxs hby β W ys r hv
          obtain ⟨y1, r1, rfl, h3, hv⟩ := hv.cons_inv
          obtain ⟨y2, r2, rfl, h4, hv⟩ := hv.cons_inv
          obtain rfl := hv.nil_inv
          obtain ⟨z, rfl, hz⟩ := h4.fn_inv0
          obtain ⟨p, hp, rfl⟩ := hz.ptr_inv
          obtain ⟨q, ca, U, fz, hq, hi⟩ := r.at_ i _ hgb
          rw [hp] at hq; cases hq
          obtain ⟨hs0, hz0⟩ := hi.bx rfl
          rw [h3.nils_inv, hs0]
          refine ⟨p, rfl, ?_⟩
          have hcv := hi.cells
          rw [hs0] at hcv
          obtain ⟨c0, hc0, hr0⟩ := hcv.get (j := 0) rfl
          have hcell : W.cell? ⟨p.b, 0, none⟩ = some c0 := by
            rw [cell_of_row W p.b 0 ca U fz hi.obj]
            rw [List.getElem?_take] at hc0
            split at hc0
            · simpa using hc0
            · cases hc0
          refine (callsIn_wide (n := 3)).1 (appendSeq_in Fence.wide 3 trivial trivial rfl (by omega) p.b c0 xs hby W hi.lt hcell ?_)
          rcases hsrc with ⟨rfl, rfl, rfl⟩ | ⟨j, off, c, bj, rfl, hgj, hle, rfl⟩ | ⟨bs, rfl, _, _, rfl⟩
          · obtain rfl : xs = [] := by
              cases xs with
              | nil => rfl
              | cons _ _ => cases hxs
            rw [hr0.nils_inv]
            exact .inl ⟨rfl, none, 0, rfl⟩
          · obtain ⟨pj, cj, hpj, rfl⟩ : ∃ (pj : Pl) (cj : Nat), β j = some pj ∧ c0 = .slice (some ⟨pj.b, pj.s + off, none⟩) m cj := by
              cases hr0 with
              | sl i off n c c' es p h _ _ _ => exact ⟨p, c', h, rfl⟩
            obtain ⟨q', cj', Uj, fzj, hq', hij⟩ := r.at_ j _ hgj
            rw [hpj] at hq'; cases hq'
            have hm : m = xs.length := by
              have := congrArg List.length hxs
              rw [hlen] at this
              simpa using this
            subst hm
            refine .inr ⟨pj.b, pj.s + off, cj, rfl, hij.lt, fun k hk => ?_⟩
            have hcv2 := (hij.cells.drop off).take (xs.length * 1)
            rw [List.drop_take, List.drop_drop, List.take_take, Nat.min_eq_left (by omega), hxs] at hcv2
            have hx := ints_inv hcv2
            rw [cell_of_row W pj.b (pj.s + off + k) cj' Uj fzj hij.obj]
            have h9 : ((cj'.toList.drop (pj.s + off)).take (xs.length * 1))[k]? = some (Value.int .i64 xs[k]) := by rw [hx]; simp [hk]
            rw [List.getElem?_take_of_lt (by omega), List.getElem?_drop] at h9
            simpa using h9
          · cases hns
        have hcan : ∀ args w, (callFunc 183 args).run Tryz.prog w = .ok (.enter 183 args) w := fun args w => by
          unfold callFunc; simp [Tryz.func183, Tryz.f183]
        split at h2
        · rename_i hall
          obtain ⟨xs, hxs⟩ := allInt_spec hall
          cases h2
          refine ⟨Facts.refl _ _, fun β W a o ys r hv hf K hK => ?_⟩
          have hx0 : xs = [] := by
            have := congrArg List.length hxs
            rw [hlen] at this
            exact List.eq_nil_of_length_eq_zero (by simpa using this.symm)
          obtain ⟨p, rfl, hc⟩ := key xs hxs (by rw [hx0]; decide) β W ys r hv
          rw [hcan, Oper.upon_enter]
          refine hc.mono ?_
          rintro e W' ⟨v, rfl, _, hnil, hbl⟩
          rw [hnil.2 hx0]
          exact hK β W' _ (Post.below r n hbl) .nils
        · rename_i m hall
          obtain ⟨xs, hxs⟩ := allInt_spec hall
          split at h2
          · have hsm : (m + 1) * 8 < 10000000000000 := small_lt ‹small (Nat.succ m) 8 = true›
            have hll : l.length = m + 1 := Nat.eq_of_beq_eq_true ‹Nat.beq l.length (Nat.succ m) = true›
            obtain ⟨h'', h3, hh⟩ := newK_spec (T := fun o : Option (AV × Tr Blk × Nat × List Nat) => o = some (v, h', n', tl)) hb h2
            simp only [frcN_eq] at h3
            cases h3
            have hn : h.get n = none := hd n (Nat.le_refl _)
            have hh' : ∀ j, h'.get j = if j = n then some ⟨false, false, some 3, l⟩ else if j ∈ ([] : List Nat) then none else h.get j := fun j => by rw [hh]; simp
            refine ⟨Facts.make [] (fun t ht => by cases ht) hh', fun β W a o ys r hv hf K hK => ?_⟩
            have hxl : xs.length = m + 1 := by rw [← hll, hxs]; simp
            obtain ⟨p, rfl, hc⟩ := key xs hxs (by omega) β W ys r hv
            rw [hcan, Oper.upon_enter]
            refine hc.mono ?_
            rintro e W' ⟨v, rfl, hown, hnil, hbl⟩
            rcases hown.2 with ⟨rfl, h0⟩ | ⟨gb, cap, cur, rfl, hbase, hobj, hcp, hmax, hsz, htk⟩
            · omega
            · have hfn : β n = none := hf n (Nat.le_refl _)
              have hcur : cur.toList = xs.map (Value.int .i64) ++ cur.toList.drop (xs.length * 1) := by rw [← htk, List.take_append_drop]
              have hnew : BlkAt (fun j => if j = n then some ⟨gb, 0, cap⟩ else β j) W' n ⟨false, false, some 3, l⟩ :=
                BlkAt.new (p := ⟨gb, 0, cap⟩) (c := cur.toList) (U := 3) (by simp) rfl (by simpa using hobj) (by simpa using hsz) (fun V hV => by cases hV; rfl) (fun e => by cases e) ⟨_, _, hcur, by rw [hxs]; exact ints_vl xs⟩
              refine hK _ _ _ (Post.make r hfn hn hbl (p := ⟨gb, 0, cap⟩) hbase (fun j => rfl) hnew [] hh') ?_
              rw [hxl]
              exact .sl n 0 (m + 1) _ cap 1 ⟨gb, 0, cap⟩ (by simp) (show m + 1 ≤ (2 * (m + 1) + 1) / 2 by omega) (.inr ⟨m + 1, rfl, by omega⟩) (by simp)
          · cases h2
        · cases h2
      · cases h1
    · cases hF
  · cases hF
end VM
end Go.Proofs.YtcimgilfogeebaaGreatDoor
