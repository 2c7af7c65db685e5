/- part.Rest, hand.SameInts, law8's known; contracts. -/
import Derived.Test.YtiodofijcghpaaaDraw
import Derived.Test.YtiodofijcghpaaaRestPlain
import Derived.Deep.QuietTactic
import Derived.BigQuiet
namespace Go.Proofs.Ytiodofijcghpaaa
open Go.RowKit

theorem Try.infoBool : (Try.prog.info? 4).map (fun i => (i.zero, i.size, i.bytes)) = some (some (.bool false), 1, 1) := by kernel_rfl
theorem make_bools (n : Nat) (w : World) (h : n ≤ 1000000) : (Instr.makeSlice 58 (.int .i64 n) (.int .i64 n)).run Try.prog w = .ok (.slice (some ⟨w.heap.size, 0, none⟩) n n) (w.alloc (.cells (cellsOf Value.bool (List.replicate n false)) 4)) := by
  obtain ⟨i0, hi, hz0, hz1, hz2⟩ := info_parts Try.infoBool
  have := run_make (P := Try.prog) w 58 4 i0 (.bool false) Try.underlying58 hi hz0 .i64 .i64 n n (by omega) (by omega) (by rw [hz2]; omega) (by omega)
  rw [this, hz1]
  simp only [Int.toNat_natCast, Nat.mul_one, Value.cells]
  rw [madeCells_of Value.bool]

set_option maxHeartbeats 800000 in
theorem rest_any (n : Nat) (v : Value) (l : List Int) (w : World) (hS : Sl i64 w v l) (hn : 1 ≤ n) (hn2 : n ≤ 300) (hl : l.length ≤ 1000000) :
    Calls Try.prog 13 #[.int .i64 n, v] w fun e w' => ∃ v', e = .returned v' ∧ w'.ownsRow w.heap.size 3 1 v' (restL n l).length ((restL n l).map i64) ∧ Below w.heap.size w w' := by
  obtain ⟨i0, hi, hz0, hz1, hz2⟩ := info_parts Try.infoInt
  obtain ⟨a, cap, rfl⟩ := hS.len
  have hmk := fun w => make_bools n w (by omega)
  go_enter Try.func13, Try.ntmps13
  go_wp2
  go_loopg [20] l.length (fun g i wr => ∃ j : Nat, j + g = l.length ∧ i = .int .i64 j ∧ Blk Value.bool wr w.heap.size (marks n (l.take j)) ∧ Below w.heap.size w wr)
  case atStart => exact ⟨0, by omega, rfl, Blk.new _ _ _ _, (Below.refl _ _).alloc (Nat.le_refl _) _⟩
  case round =>
    obtain ⟨j, hj, rfl, hB, hK⟩ := hrel
    by_cases hlt : j < l.length
    · obtain ⟨b, off, rfl, hb, hc⟩ := hS.at j hlt
      have hts : l.take (j + 1) = l.take j ++ [l[j]] := List.take_succ_eq_append_getElem hlt
      have hms := marks_snoc n (l.take j) l[j]
      rw [← hts] at hms
      have hcr := (hK.cell (p := ⟨b, off + j, none⟩) hb).trans hc
      generalize l[j] = x at *
      have HM := hid hms
      have HJ := hid hj
      clear hms hts hj hc
      have hml := marks_length n (l.take j)
      by_cases hx : 0 ≤ x ∧ x < n
      · obtain ⟨hx1, hx2⟩ := hx
        obtain ⟨y, rfl⟩ := Int.eq_ofNat_of_zero_le hx1
        obtain ⟨v0, hcc⟩ := hB.has y (by omega)
        have hf := hB.free y
        have hy : y < n := by omega
        have HL := hid hml
        clear hml
        go_wp2
        go_roundg (gk - 1)
        case measure => have := HJ.out; omega
        case rel =>
          refine ⟨j + 1, by have := HJ.out; omega, by go_num, ?_, hK.setCell (p := ⟨w.heap.size, y, none⟩) (Nat.le_refl _) _⟩
          rw [HM.out]
          have := hB.set y true
          unfold mark
          rw [if_pos ⟨hx1, hx2⟩]
          exact this
      · have HX := hid hx
        by_cases h1 : 0 ≤ x
        · have h2 : (n : Int) ≤ x := by omega
          clear hx hml
          go_wp2
          go_roundg (gk - 1)
          case measure => have := HJ.out; omega
          case rel =>
            refine ⟨j + 1, by have := HJ.out; omega, by go_num, ?_, hK⟩
            rw [HM.out]
            unfold mark
            rw [if_neg HX.out]
            exact hB
        · clear hx hml
          go_wp2
          go_roundg (gk - 1)
          case measure => have := HJ.out; omega
          case rel =>
            refine ⟨j + 1, by have := HJ.out; omega, by go_num, ?_, hK⟩
            rw [HM.out]
            unfold mark
            rw [if_neg HX.out]
            exact hB
    · obtain rfl : j = l.length := by omega
      rw [List.take_length] at hB
      obtain ⟨wo, hwo⟩ : ∃ wo : World, wo = wr := ⟨_, rfl⟩
      rw [← hwo] at hB hK
      subst hwo
      go_wp2
      go_loopg [8, 36] n (fun g v i wr => ∃ j : Nat, j + g = n ∧ i = .int .i64 j ∧ wr.ownsRow (w.heap.size + 1) 3 1 v (restL j l).length ((restL j l).map i64) ∧ Blk Value.bool wr w.heap.size (marks n l) ∧ Below w.heap.size w wr)
      case atStart => exact ⟨0, by omega, rfl, World.ownsRow_nil _ _ _ _, hB, hK⟩
      case round =>
        obtain ⟨j, hj, rfl, hown, hB, hK⟩ := hrel
        by_cases hlt : j < n
        · have hrs := restL_succ j l
          have hgt := marks_get n l j hlt
          have hrl := restL_le j l
          have hcell : wr.cell? ⟨w.heap.size, j, none⟩ = some (.bool (decide ((j : Int) ∈ l))) := by
            rw [hB.cell j (by rw [marks_length]; exact hlt)]
            have := marks_length n l
            rw [List.getElem?_eq_getElem (by omega)] at hgt
            simp only [Option.some.injEq] at hgt
            rw [hgt]
          have HR := hid hrs
          have HJ := hid hj
          clear hrs hgt hj
          have hsz : w.heap.size + 1 ≤ wr.heap.size := by have := hB.lt; omega
          by_cases hm : (j : Int) ∈ l
          · have hd : decide ((j : Int) ∈ l) = true := by simpa using hm
            rw [hd] at hcell
            clear hd
            have HM := hid hm
            clear hm
            go_wp2
            go_roundg (gk - 1)
            case measure => have := HJ.out; omega
            case rel =>
              refine ⟨j + 1, by have := HJ.out; omega, by go_num, ?_, hB, hK⟩
              rw [HR.out, if_pos HM.out, List.append_nil]
              exact hown
          · have hd : decide ((j : Int) ∈ l) = false := by simpa using hm
            rw [hd] at hcell
            clear hd
            have HM := hid hm
            clear hm
            go_wp2_with (at_builtin; refine app1 rfl _ _ 27 rfl (w.heap.size + 1) 3 (.int .i64 0) 8 Try.infoInt Try.underlying27 rfl _ _ _ rfl hown _ rfl rfl (by omega) (by omega) hsz ?_; intro g' cap' w1 hown1 hk1)
            have hne : ∀ k, u8.ownBlock = some k → w.heap.size + 1 ≤ k := fun k e => (hown.lt k e).1
            go_roundg (gk - 1)
            case measure => have := HJ.out; omega
            case rel =>
              refine ⟨j + 1, by have := HJ.out; omega, by go_num, ?_, hB.kept hk1 (fun e => by have := hne _ e; omega), ?_⟩
              · rw [HR.out, if_neg HM.out]
                simpa using hown1
              · exact hK.trans (hk1.below _ (by omega) (fun k hk e => by have := hne _ e; omega))
        · obtain rfl : j = n := by omega
          go_wp2
          go_ret
          exact ⟨_, rfl, owns_lower hown (by omega), hK⟩

end Go.Proofs.Ytiodofijcghpaaa
