/- VM: a table of bytes that the row lists lies in the world as the machine has it. -/
import Derived.Test.YtcimgilfogeebaaGreatDoorV4
import Derived.ProofKit
import Derived.OpenShut
import Derived.LaidMore
import Derived.Lay
import Derived.Stop.Joined
set_option linter.unusedVariables false
set_option linter.unusedSimpArgs false
namespace Go.Proofs.YtcimgilfogeebaaGreatDoor.VM
open Go Go.RowKit Go.Proofs.YtcimgilfogeebaaGreatDoor

theorem laid_find {P : Program} {W : World} {n : String} {d : DataW Unit} : ∀ {l : List (String × DataW Unit)} {ps : List MemPlace}, DataW.LaidVars P W l ps → (n, d) ∈ l →
    ∃ p, DataW.LaidVars P W [(n, d)] p
  | [], _, _, h => by cases h
  | (m, x) :: r, ps, h, hm => by
    obtain ⟨g, t, cs, fuel, p, q, h1, h2, h3, h4, h5, h6⟩ := h
    rcases List.mem_cons.1 hm with hm | hm
    · cases hm
      exact ⟨_, g, t, cs, fuel, p, [], h1, h2, h3, h4, rfl, rfl⟩
    · exact laid_find h5 hm
theorem laid_tab {P : Program} {l : List (String × DataW Unit)} {W : World} (h : laidMet P l W) {n : String} {zs : List Nat} {g : Nat} {T e : TypeId} (hmem : (n, .agg (zs.map fun (z : Nat) => .lit (.int .u8 z))) ∈ l) (hg : P.globalNamed n = some g) (ht : (P.globals[g]?).map (·.type) = some T)
    (hT : P.underlying T = some (.array zs.length e)) (he : P.underlying e = some (.int .u8)) (hc : P.cellsOf e = 1) :
    ∃ c U fz, W.heap[g]? = some (.cells c U fz) ∧ VL (fun _ => none) (zs.map fun (z : Nat) => AV.int .u8 (.ofNat z)) (c.toList.take zs.length) := by
  obtain ⟨ps, hl, _⟩ := h
  obtain ⟨p0, g', t, cs, fuel, p, q, hg', ht', hv, hd, _, _⟩ := laid_find hl hmem
  obtain rfl := Option.some.inj (hg.symm.trans hg')
  obtain rfl := Option.some.inj (ht.symm.trans ht')
  obtain ⟨xs, m, _, ex, _, hlen, hel⟩ := DataW.trod_array hT hd
  have hb : ∃ U fz, W.heap[g]? = some (.cells cs U fz) := by
    simp only [World.var?, hg, Option.bind_some] at hv
    split at hv
    · rename_i c U fz hc'; cases hv; exact ⟨U, fz, hc'⟩
    · cases hv
  obtain ⟨U, fz, hb⟩ := hb
  have e3 : (xs.map (·.1)) = zs.map fun (n : Nat) => .lit (.int .u8 n) := (DataW.agg.inj (Prod.mk.inj ex).1).symm
  have key : ∀ r, r < zs.length → ∃ z, zs[r]? = some z ∧ cs.toList[r]? = some (.int .u8 z) := fun r hr => by
    have hE := hel r hr
    rw [hc, Nat.mul_one, List.getElem?_eq_getElem (by omega)] at hE
    obtain ⟨z, e1, e2, _⟩ := DataW.trod_int he hE
    have e4 : (xs.map (·.1))[r]? = (zs.map fun (n : Nat) => (DataW.lit (.int .u8 n) : DataW Unit))[r]? := by rw [e3]
    rw [List.getElem?_map, List.getElem?_map, List.getElem?_eq_getElem (by omega : r < xs.length), List.getElem?_eq_getElem hr, e2] at e4
    simp only [Option.map_some, Option.some.injEq, DataW.lit.injEq, Lit.int.injEq, true_and] at e4
    refine ⟨zs[r], List.getElem?_eq_getElem hr, ?_⟩
    have h0 : ((cs.toList.drop r).take 1)[0]? = some (.int .u8 z) := by rw [e1]; rfl
    rw [e4] at h0
    simpa using h0
  refine ⟨cs, U, fz, hb, ?_, fun j x y hx hy => ?_⟩
  · rw [List.length_map, List.length_take]
    by_cases h0 : zs.length = 0
    · omega
    · obtain ⟨z, _, h5⟩ := key (zs.length - 1) (by omega)
      have := (List.getElem?_eq_some_iff.1 h5).1
      omega
  · rw [List.getElem?_map] at hx
    have hj : j < zs.length := by
      rcases Nat.lt_or_ge j zs.length with h' | h'
      · exact h'
      · rw [List.getElem?_eq_none h'] at hx; cases hx
    obtain ⟨z, h5, h6⟩ := key j hj
    rw [h5] at hx
    rw [List.getElem?_take_of_lt hj, h6] at hy
    cases hx; cases hy
    exact .int _ _
end Go.Proofs.YtcimgilfogeebaaGreatDoor.VM
