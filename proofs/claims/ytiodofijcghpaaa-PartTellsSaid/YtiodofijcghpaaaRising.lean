/- ref6.rising; contract. -/
import Derived.Test.YtiodofijcghpaaaSwaps
import Derived.Test.YtiodofijcghpaaaSame
namespace Go.Proofs.Ytiodofijcghpaaa
open Go.RowKit

theorem Rw.of_owns {α : Type} {enc : α → Value} {w : World} {base : Nat} {T : TypeId} {g cap n : Nat} {l : List α} (h : w.ownsRow base T 1 (.slice (some ⟨g, 0, none⟩) n cap) n (l.map enc)) : Rw enc w g T cap l ∧ base ≤ g ∧ cap ≤ maxLen ∧ n = l.length := by
  have hn : n = l.length := by have := h.1; simp at this; omega
  rcases h.2 with ⟨h0, _⟩ | ⟨g', cap', cur, hv, hb, hh, h1, h2, h3, h4⟩
  · cases h0
  · cases hv
    subst hn
    exact ⟨⟨h1, cur, hh, by omega, by rw [Nat.mul_one] at h4; exact h4⟩, hb, h2, rfl⟩

/-- x is put into its place in a sorted list -/
theorem put_sorted (S : List Int) (x : Int) (k : Nat) (hS : S.Pairwise (· ≤ ·)) (h1 : ∀ y ∈ S.drop k, x < y) (h2 : ∀ y ∈ S.take k, y ≤ x) : (S.take k ++ x :: S.drop k).Pairwise (· ≤ ·) := by
  have hS' : (S.take k ++ S.drop k).Pairwise (· ≤ ·) := by rw [List.take_append_drop]; exact hS
  obtain ⟨a, b, c⟩ := List.pairwise_append.1 hS'
  refine List.pairwise_append.2 ⟨a, List.pairwise_cons.2 ⟨fun y hy => by have := h1 y hy; omega, b⟩, fun y hy z hz => ?_⟩
  rcases List.mem_cons.1 hz with rfl | hz
  · exact h2 y hy
  · exact c y hy z hz

theorem put_end (S T : List Int) (x : Int) (k : Nat) (hS : S.Pairwise (· ≤ ·)) (hp : S.Perm T) (h1 : ∀ y ∈ S.drop k, x < y) (h2 : ∀ y ∈ S.take k, y ≤ x) : sortI (T ++ [x]) = S.take k ++ x :: S.drop k := by
  refine sortI_of_perm ?_ (put_sorted S x k hS h1 h2)
  refine (List.perm_append_singleton _ _).trans ?_
  refine (List.Perm.cons x hp.symm).trans ?_
  refine List.Perm.trans ?_ List.perm_middle.symm
  rw [List.take_append_drop]
theorem put_rw {w : World} {g cap j n : Nat} {T : TypeId} (S l : List Int) (x d : Int) (k : Nat) (base : Nat) (hR : Rw i64 w g T cap (S.take k ++ d :: S.drop k)) (hk : k ≤ S.length) (hS : S.Pairwise (· ≤ ·)) (hp : S.Perm (l.take j)) (h1 : ∀ y ∈ S.drop k, x < y) (h2 : ∀ y ∈ S.take k, y ≤ x) (hts : l.take (j + 1) = l.take j ++ [x]) (hn : n = S.length + 1) (hb : base ≤ g) (hc : cap ≤ maxLen) :
    (w.setCell ⟨g, k, none⟩ (.int .i64 x)).ownsRow base T 1 (.slice (some ⟨g, 0, none⟩) n cap) n ((sortI (l.take (j + 1))).map i64) := by
  have h := hR.set k x
  rw [List.set_append_right _ _ (by simp; omega), show k - (S.take k).length = 0 by simp; omega, List.set_cons_zero] at h
  rw [hts, put_end S (l.take j) x k hS hp h1 h2]
  have := h.owns base hb hc
  rw [show (S.take k ++ x :: S.drop k).length = n by simp; omega] at this
  exact this

theorem getD_take_mid (S Q : List Int) (d : Int) (k : Nat) (h : k ≤ S.length) : (S.take k ++ d :: Q).getD k 0 = d := by
  rw [List.getD_eq_getElem?_getD, List.getElem?_append_right (by simp; omega)]
  simp [Nat.min_eq_left h]

set_option maxRecDepth 100000 in
set_option maxHeartbeats 1600000 in
theorem rising_any (v : Value) (l : List Int) (w : World) (hS : Sl i64 w v l) (hl : l.length ≤ 100000) :
    Calls Try.prog 33 #[v] w fun e w' => ∃ v', e = .returned v' ∧ w'.ownsRow w.heap.size 3 1 v' l.length ((sortI l).map i64) ∧ Below w.heap.size w w' := by
  obtain ⟨a, cap, rfl⟩ := hS.len
  go_enter Try.func33, Try.ntmps33
  go_wp2
  go_loopg [3, 4, 5] l.length (fun g v i _ wr => ∃ j : Nat, j + g = l.length ∧ i = .int .i64 j ∧ wr.ownsRow w.heap.size 3 1 v j ((sortI (l.take j)).map i64) ∧ Below w.heap.size w wr)
  case atStart => exact ⟨0, by omega, rfl, by simpa [sortI] using World.ownsRow_nil _ _ _ _, Below.refl _ _⟩
  case round =>
    obtain ⟨j, hj, rfl, hown, hB⟩ := hrel
    by_cases hlt : j < l.length
    · obtain ⟨b, off, rfl, hb, hc⟩ := hS.at j hlt
      have hcr := (hB.cell (p := ⟨b, off + j, none⟩) hb).trans hc
      have hts : l.take (j + 1) = l.take j ++ [l[j]] := List.take_succ_eq_append_getElem hlt
      generalize l[j] = x at *
      have HJ := hid (And.intro hj hts)
      clear hj hts
      have hsz := hB.size
      have hSs := sortI_sorted (l.take j)
      have hSp := sortI_perm (l.take j)
      have hSl : (sortI (l.take j)).length = j := by rw [sortI_length]; simp; omega
      obtain ⟨uv, hu3⟩ : ∃ a' cap', u3 = .slice a' j cap' := by
        rcases hown.2 with ⟨h, h0⟩ | ⟨g, cap, cur, h, _⟩
        · exact ⟨none, 0, by rw [h, h0]⟩
        · exact ⟨_, _, h⟩
      obtain ⟨cap0, rfl⟩ := hu3
      generalize sortI (l.take j) = S at *
      have HS := hid (And.intro hSs (And.intro hSp hSl))
      clear hSs hSp hSl
      go_wp2_with (at_builtin; refine app1 rfl _ _ 27 rfl w.heap.size 3 (.int .i64 0) 8 Try.infoInt Try.underlying27 rfl _ _ _ rfl hown _ rfl rfl (by omega) (by omega) hsz ?_; intro g' cap' w1 hown1 hk1)
      have hne : ∀ k, (Value.slice uv j cap0).ownBlock = some k → w.heap.size ≤ k := fun k e => (hown.lt k e).1
      have hB1 : Below w.heap.size w w1 := hB.trans (hk1.below _ hB.size (fun k hk e => by have := hne k e; omega))
      have hown2 : w1.ownsRow w.heap.size 3 1 (.slice (some ⟨g', 0, none⟩) (j + 1) cap') (j + 1) ((S ++ [x]).map i64) := by simpa using hown1
      obtain ⟨hR1, hbg, hcm, hnn⟩ := Rw.of_owns hown2
      clear hnn hown hown1 hown2 hne hk1 hB hcr
      go_loopg [5] j (fun g vk wr => ∃ (k : Nat) (d : Int), k = g ∧ k ≤ j ∧ vk = .int .i64 k ∧ (∀ y ∈ S.drop k, x < y) ∧ Rw i64 wr g' 3 cap' (S.take k ++ d :: S.drop k) ∧ Below w.heap.size w wr)
      case atStart =>
        obtain ⟨hSs, hSp, hSl⟩ := HS.out
        refine ⟨j, x, rfl, Nat.le_refl _, rfl, ?_, ?_, hB1⟩
        · rw [List.drop_eq_nil_of_le (by omega)]; simp
        · rw [List.drop_eq_nil_of_le (by omega), List.take_of_length_le (by omega)]; exact hR1
      case round =>
        obtain ⟨k, d, hkg, hkj, rfl, hall, hR2, hB2⟩ := hrel
        obtain ⟨hSs, hSp, hSl⟩ := HS.out
        have hcx := (hB2.cell (p := ⟨b, off + j, none⟩) hb).trans hc
        have hLl : (S.take k ++ d :: S.drop k).length = j + 1 := by simp; omega
        have hdk : (S.take k ++ d :: S.drop k).getD k 0 = d := getD_take_mid S _ d k (by omega)
        have hck := hR2.cellD k d (by omega) hdk
        have hfk := hR2.free k
        by_cases hk0 : 0 < k
        · obtain ⟨k', rfl⟩ : ∃ k', k = k' + 1 := ⟨k - 1, by omega⟩
          have hk'S : k' < S.length := by omega
          have et : S.take (k' + 1) = S.take k' ++ [S[k']] := List.take_succ_eq_append_getElem hk'S
          have ed : S.drop k' = S[k'] :: S.drop (k' + 1) := List.drop_eq_getElem_cons hk'S
          have hle : ∀ y ∈ S.take k', y ≤ S[k'] := by
            intro y hy
            obtain ⟨i, hi, rfl⟩ := List.mem_take_iff_getElem.1 hy
            exact List.pairwise_iff_getElem.1 hSs i k' (by omega) hk'S (by omega)
          have hpy : (S.take (k' + 1) ++ d :: S.drop (k' + 1)).getD k' 0 = S[k'] := by
            rw [et, List.append_assoc]
            exact getD_take_mid S _ _ k' (by omega)
          have hcy := hR2.cellD k' S[k'] (by omega) hpy
          have hset := hR2.set (k' + 1) S[k']
          have hsl2 : (S.take (k' + 1) ++ d :: S.drop (k' + 1)).set (k' + 1) S[k'] = S.take k' ++ S[k'] :: S.drop k' := by
            rw [List.set_append_right _ _ (by simp; omega), show k' + 1 - (S.take (k' + 1)).length = 0 by simp; omega, List.set_cons_zero, et, ed, List.append_assoc]
            rfl
          rw [hsl2] at hset
          have hlast : x ≥ S[k'] → ∀ y ∈ S.take (k' + 1), y ≤ x := fun h y hy => by
            rw [et, List.mem_append, List.mem_singleton] at hy
            rcases hy with hy | rfl
            · have := hle y hy; omega
            · exact h
          have hmore : x < S[k'] → ∀ y ∈ S.drop k', x < y := fun h y hy => by
            rw [ed] at hy
            rcases List.mem_cons.1 hy with rfl | hy
            · exact h
            · exact hall y hy
          generalize S[k'] = y at *
          have HX := hid (And.intro hset (And.intro hlast (And.intro hmore hkg)))
          clear hset hlast hmore hkg et ed hle hpy hsl2 hLl hdk hSs hSp hSl
          have t1 : decide (0 < k' + 1) = true := by simp
          have t2 : (((k' + 1 : Nat) : Int) - 1).toNat = k' := by omega
          have t3 : IntKind.i64.wrap (((k' + 1 : Nat) : Int) - 1) = (k' : Int) := by rw [IntKind.wrap_i64]; omega
          have t5 : k' < j + 1 := by omega
          by_cases hxy : x < y
          · have t4 : decide (x < y) = true := by simpa using hxy
            go_wp2
            go_quiet (fail)
            go_wp2
            go_roundg k'
            case measure => have := HX.out.2.2.2; omega
            case rel => exact ⟨k', y, rfl, by omega, by go_num, HX.out.2.2.1 hxy, HX.out.1, (below_drewN' hB2 _).setCell (p := ⟨g', k' + 1, none⟩) hbg _⟩
          · have t4 : decide (x < y) = false := by simpa using hxy
            go_wp2
            go_quiet (fail)
            go_wp2
            go_roundg (l.length - (j + 1))
            case measure => have := HJ.out.1; omega
            case rel =>
              obtain ⟨hSs, hSp, hSl⟩ := HS.out
              exact ⟨j + 1, by omega, by go_num, put_rw S l x d (k' + 1) w.heap.size hR2.drew (by omega) hSs hSp hall (HX.out.2.1 (by omega)) HJ.out.2 (by omega) hbg hcm, (below_drewN' hB2 _).setCell (p := ⟨g', k' + 1, none⟩) hbg _⟩
        · obtain rfl : k = 0 := by omega
          clear hSs hSp hSl hLl hdk hkg
          go_wp2
          go_quiet (fail)
          go_wp2
          go_roundg (l.length - (j + 1))
          case measure => have := HJ.out.1; omega
          case rel =>
            obtain ⟨hSs, hSp, hSl⟩ := HS.out
            exact ⟨j + 1, by omega, by go_num, put_rw S l x d 0 w.heap.size hR2.drew (by omega) hSs hSp hall (by simp) HJ.out.2 (by omega) hbg hcm, (below_drewN' hB2 _).setCell (p := ⟨g', 0, none⟩) hbg _⟩
    · obtain rfl : j = l.length := by omega
      rw [List.take_length] at hown
      go_wp2
      go_ret
      exact ⟨_, rfl, hown, hB⟩

end Go.Proofs.Ytiodofijcghpaaa
