/- part.deal; contract. -/
import Derived.Test.YtiodofijcghpaaaAppend
import Derived.Test.YtiodofijcghpaaaDealPlain
import Derived.Test.YtiodofijcghpaaaSame
import Derived.Deep.AppendLies
import Derived.Deep.RegionLaw
namespace Go.Proofs.Ytiodofijcghpaaa
open Go.RowKit

theorem Try.infoInts : (Try.prog.info? 27).map (fun i => (i.zero, i.size, i.bytes)) = some (some (.slice none 0 0), 1, 24) := by kernel_rfl
theorem make_slices (n : Nat) (w : World) (h : n ≤ 1000000) : (Instr.makeSlice 38 (.int .i64 n) (.int .i64 n)).run Try.prog w = .ok (.slice (some ⟨w.heap.size, 0, none⟩) n n) (w.alloc (.cells (cellsOf id (tab n fun _ => .slice none 0 0)) 27)) := by
  obtain ⟨i0, hi, hz0, hz1, hz2⟩ := info_parts Try.infoInts
  have := run_make (P := Try.prog) w 38 27 i0 (.slice none 0 0) Try.underlying38 hi hz0 .i64 .i64 n n (by omega) (by omega) (by rw [hz2]; omega) (by omega)
  rw [this, hz1]
  simp only [Int.toNat_natCast, Nat.mul_one, Value.cells]
  have e : cellsOf id (tab n fun _ => Value.slice none 0 0) = madeCells #[.slice none 0 0] n := by
    rw [show (#[Value.slice none 0 0]) = #[id (Value.slice none 0 0)] from rfl, madeCells_of]
    congr 1
    apply List.ext_getElem
    · simp [tab]
    · intro i h1 h2; simp [tab]
  rw [e]

set_option maxHeartbeats 1600000 in
theorem deal_any (k : Nat) (v : Value) (l : List Int) (w : World) (hS : Sl i64 w v l) (hk : 1 ≤ k) (hk2 : k ≤ 1000) (hl : l.length ≤ 1000) :
    Calls Try.prog 28 #[v, .int .i64 k] w fun e w' => ∃ v', e = .returned v' ∧ Sl2b w.heap.size w' v' (dealL l k) ∧ Below w.heap.size w w' := by
  obtain ⟨a, cap, rfl⟩ := hS.len
  obtain ⟨i0, hi, hz0, hz1, hz2⟩ := info_parts Try.infoInt
  have hmk := fun w => make_slices k w (by omega)
  go_enter Try.func28, Try.ntmps28
  go_wp2
  go_loopg [14] l.length (fun g i wr => ∃ (j : Nat) (V : Nat → Value), j + g = l.length ∧ i = .int .i64 j ∧ Blk id wr w.heap.size (tab k V) ∧ Owned wr (w.heap.size + 1) 3 k V (fun i => dealt l k i j) ∧ Below w.heap.size w wr)
  case atStart =>
    refine ⟨0, fun _ => .slice none 0 0, by omega, rfl, Blk.new _ _ _ _, ⟨fun i hi => ?_, fun i j hi hj hij b hb => by simp [Value.ownBlock] at hb⟩, (Below.refl _ _).alloc (Nat.le_refl _) _⟩
    rw [dealt_zero]; exact World.ownsRow_nil _ _ _ _
  case round =>
    obtain ⟨j, V, hj, rfl, hB, hO, hK⟩ := hrel
    by_cases hlt : j < l.length
    · obtain ⟨b, off, rfl, hb, hc⟩ := hS.at j hlt
      have hcr := (hK.cell (p := ⟨b, off + j, none⟩) hb).trans hc
      have hds := fun i => dealt_succ l k i j
      have hgd : l.getD j 0 = l[j] := by simp [hlt]
      rw [hgd] at hds
      generalize l[j] = x at *
      obtain ⟨r, hr⟩ : ∃ r, r = j % k := ⟨_, rfl⟩
      have hrk : r < k := by rw [hr]; exact Nat.mod_lt _ (by omega)
      rw [← hr] at hds
      have hrm : ((j : Int) % (k : Int)) = (r : Int) := by rw [hr]; omega
      have hcV := hB.tab_cell r hrk
      have hfV := hB.free r
      have hrow := hO.row r hrk
      have hsz : w.heap.size + 1 ≤ wr.heap.size := by have := hB.lt; omega
      have hdl := dealt_le l k r j
      have hz : ((j : Int) % (k : Int)).toNat = r := by omega
      have HD := hid hds
      have HJ := hid hj
      have HR := hid hr
      have HRM := hid hrm
      clear hds hj hr hgd hc hrm hz
      have q1 : (r : Int) < k := by omega
      have q2 : ¬ k = 0 := by omega
      have q3 : (j : Int).tmod (k : Int) = (r : Int) := by rw [Int.tmod_eq_emod_of_nonneg (by omega)]; exact HRM.out
      go_wp2
      have hA := hid (hrow.alloc (.cells #[.int .i64 x] 3))
      have hN := hid (cell_one_new wr (.int .i64 x) 3)
      have hne : some w.heap.size ≠ (V r).ownBlock := fun e => by have := (hrow.lt w.heap.size e.symm).1; omega
      have hlt1 : w.heap.size < wr.heap.size := by omega
      have HCL : Hid (∀ w1, ((wr.alloc (.cells #[.int .i64 x] 3)).drew).grownBy w1 (V r).ownBlock → w1.cell? ⟨w.heap.size, r, none⟩ = some (V r) ∧ w1.frozen? ⟨w.heap.size, r, none⟩ = false) := hid (fun w1 hg => by
        have hbk : w1.heap[w.heap.size]? = wr.heap[w.heap.size]? := by
          rw [hg.block w.heap.size (by simp; omega) hne]
          exact Below.heap_alloc wr _ _ hlt1
        exact ⟨(World.cell?_of_block (w := wr) (a := ⟨w.heap.size, r, none⟩) hbk).trans hcV, (World.frozen?_of_block (w := wr) (a := ⟨w.heap.size, r, none⟩) hbk).trans hfV⟩)
      have HROW := hid hrow
      clear hrow
      go_region_law (refine step_append_lies _ rfl (.tmp 28) (.tmp 30) 27 rfl (w.heap.size + 1) 3 i0 (.int .i64 0) 1 8 Try.underlying27 hi hz0 hz1 hz2 rfl (by decide) (V r) (dealt l k r j).length ((dealt l k r j).map i64) (by simp [Act.eval, Act.put]) hA.out ⟨wr.heap.size, 0, none⟩ 1 1 [.int .i64 x] (by simp [Act.eval, Act.put]) rfl hN.out (by simp [Value.oneCell']) (by decide) (by unfold maxLen; omega) (by omega) (by simp; omega) (wr.heap.size + 1) (by simp) ?_; intro g cap' w1 hown1 hgrow1 hat1 hltg; obtain ⟨hcw1, hfw1⟩ := HCL.out w1 hgrow1)
      all_goals
        go_wp2
        go_roundg (gk - 1)
        case measure => have := HJ.out; omega
        case rel =>
          have kk : Kept (fun b => (V r).ownBlock = some b) wr w1 := (((Kept.refl (fun b => (V r).ownBlock = some b) wr).alloc (.cells #[.int .i64 x] 3)).drew).grown hgrow1 (fun k e _ => e)
          have hown2 : w1.ownsRow (w.heap.size + 1) 3 1 (.slice (some ⟨g, 0, none⟩) ((dealt l k r j).length + 1) cap') (dealt l k r j ++ [x]).length ((dealt l k r j ++ [x]).map i64) := by simpa using hown1
          have hO1 := hO.grown r hrk _ _ g hown2 rfl kk (by rcases hat1 with h | h; exact .inl h; right; omega)
          have hO2 := hO1.kept (kept_set w1 ⟨w.heap.size, r, none⟩ (.slice (some ⟨g, 0, none⟩) ((dealt l k r j).length + 1) cap')) (fun i hi b hb e => by have := (hO1.lt i hi b hb).1; simp at e; omega)
          have hP : (fun i => if i = r then dealt l k r j ++ [x] else dealt l k i j) = fun i => dealt l k i (j + 1) := by
            funext i
            rw [HD.out i]
            by_cases e : i = r
            · rw [if_pos e, if_pos e, e]
            · rw [if_neg e, if_neg e]
          rw [hP] at hO2
          have hB1 : Blk id w1 w.heap.size (tab k V) := hB.kept kk (fun e => hne e.symm)
          refine ⟨j + 1, upd V r (.slice (some ⟨g, 0, none⟩) ((dealt l k r j).length + 1) cap'), by have := HJ.out; omega, by go_num, hB1.tab_set r _, hO2, ?_⟩
          have h1 : Below w.heap.size w w1 := hK.trans (kk.below w.heap.size (by omega) (fun k hk e => by have := (HROW.out.lt k e).1; omega))
          exact h1.setCell (p := ⟨w.heap.size, r, none⟩) (Nat.le_refl _) _
    · obtain rfl : j = l.length := by omega
      obtain ⟨wo, hwo⟩ : ∃ wo : World, wo = wr := ⟨_, rfl⟩
      rw [← hwo] at hB hO hK ⊢
      subst hwo
      have hsz0 := hB.lt
      go_wp2
      go_loopg [36] k (fun g i wr => ∃ (m : Nat) (V : Nat → Value), m + g = k ∧ i = .int .i64 m ∧ Blk id wr w.heap.size (tab k V) ∧ (∀ i, i < k → w.heap.size < wr.heap.size ∧ wr.ownsRow (w.heap.size + 1) 3 1 (V i) (dealt l k i l.length).length ((if i < m then sortI (dealt l k i l.length) else dealt l k i l.length).map i64)) ∧ Below w.heap.size w wr)
      case atStart => exact ⟨0, V, by omega, rfl, hB, fun i hi => ⟨hsz0, by simpa using hO.row i hi⟩, hK⟩
      case round =>
        obtain ⟨m, V', hm, rfl, hB2, hrows, hK2⟩ := hrel
        by_cases hmk2 : m < k
        · have hrow := (hrows m hmk2).2
          rw [if_neg (Nat.lt_irrefl _)] at hrow
          have hcV := hB2.tab_cell m hmk2
          have hfV := hB2.free m
          have hdl := dealt_le l k m l.length
          have HA := hid (ascending_any (V' m) (dealt l k m l.length) (by omega) wr (Sl.of_owns hrow))
          have HM := hid hm
          clear hm
          go_wp2_with fail
          refine HA.out.mono ?_
          rintro e w1 ⟨vs, rfl, hown1, hb1⟩
          have hcV1 := (hb1.cell (p := ⟨w.heap.size, m, none⟩) hB2.lt).trans hcV
          have hfV1 := (hb1.frozen (p := ⟨w.heap.size, m, none⟩) hB2.lt).trans hfV
          have HOW := hid hown1
          obtain ⟨aS, caps, rfl⟩ : ∃ a cap, vs = .slice a (dealt l k m l.length).length cap := by
            rcases hown1.2 with ⟨h, h0⟩ | ⟨g, cap, cur, h, _⟩
            · exact ⟨none, 0, by rw [h, h0]⟩
            · exact ⟨_, _, h⟩
          clear hown1
          go_wp2
          go_roundg (gk - 1)
          case measure => have := HM.out; omega
          case rel =>
            have hB3 := hB2.below hb1
            refine ⟨m + 1, upd V' m _, by have := HM.out; omega, by go_num, hB3.tab_set m _, fun i hi => ⟨?_, ?_⟩, (hK2.trans (hb1.mono hK2.size)).setCell (p := ⟨w.heap.size, m, none⟩) (Nat.le_refl _) _⟩
            · have := hB3.lt; simpa using this
            · have hset := kept_set w1 ⟨w.heap.size, m, none⟩ (.slice aS (dealt l k m l.length).length caps)
              have hkeep : ∀ (v : Value) (xs : List Value) (nn : Nat), w1.ownsRow (w.heap.size + 1) 3 1 v nn xs → (w1.setCell ⟨w.heap.size, m, none⟩ (.slice aS (dealt l k m l.length).length caps)).ownsRow (w.heap.size + 1) 3 1 v nn xs := fun v xs nn h =>
                ownsRow_setCell_other h (fun e => by have := (h.lt _ e).1; simp at this; omega) _
              by_cases e : i = m
              · subst e
                simp only [upd, if_true, Nat.lt_succ_self]
                exact hkeep _ _ _ (owns_lower HOW.out (by have := hB2.lt; omega))
              · simp only [upd, if_neg e]
                have := owns_below (hrows i hi).2 hb1
                have e2 : (i < m + 1) = (i < m) := by simp; omega
                simp only [e2]
                exact hkeep _ _ _ this
        · obtain rfl : k = m := by omega
          go_wp2
          go_ret
          refine ⟨_, rfl, ⟨V', ?_, fun b off len cap e => by cases e; exact Nat.le_refl _, fun i h => ?_⟩, hK2⟩
          · rw [dealL_length]
            have := hB2.sl k
            rwa [tab_length] at this
          · have hik : i < k := by rw [dealL_length] at h; exact h
            rw [dealL_get]
            have := (hrows i hik).2
            rw [if_pos hik] at this
            exact ⟨Sl.of_owns this, fun b off len cap e => by have := owns_base this b off len cap e; omega⟩

end Go.Proofs.Ytiodofijcghpaaa
