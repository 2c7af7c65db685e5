/- Slices of ints that came in, as our walks read them. -/
import Derived.Test.YtiodofijcghpaaaBase
import Derived.OpenShut
namespace Go.Proofs.Ytiodofijcghpaaa
open Go.RowKit

theorem sl_of_row {w : World} {a : Option Addr} {len cap : Nat} {zs : List Int} (h : (a = none ∧ len = 0 ∧ cap = 0 ∧ zs = []) ∨
    ∃ x, a = some x ∧ len ≤ cap ∧ cap ≤ maxLen ∧ zs.length = cap ∧ (∀ i, i < zs.length → w.cell? (x.add i) = some (.int .i64 (zs.getD i 0))) ∧ ∀ n ∈ zs, (Lit.int .i64 n).wf = true) : Sl i64 w (.slice a len cap) (zs.take len) := by
  rcases h with ⟨rfl, rfl, rfl, rfl⟩ | ⟨x, rfl, h1, h2, h3, h4, _⟩
  · exact .inl ⟨by simp, none, 0, rfl⟩
  · by_cases h0 : len = 0
    · subst h0; exact .inl ⟨by simp, _, _, rfl⟩
    · obtain ⟨b, off, rfl, hc⟩ := ints_at h4 (by omega)
      have hl : (zs.take len).length = len := by simp; omega
      refine .inr ⟨b, off, cap, by rw [hl], World.block_lt_of_cell? w _ (hc 0 (by omega)), fun j hj => ?_⟩
      rw [hc j (by omega)]
      have : j < zs.length := by omega
      simp [this]

end Go.Proofs.Ytiodofijcghpaaa
