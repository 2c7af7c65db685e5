/- The machine runs a closed law of this translation: it returns true. -/
import Derived.Test.YtcimgilfogeebaaGreatDoorVTab
import Derived.KernelRfl
namespace Go.Proofs.YtcimgilfogeebaaGreatDoor.VM
open Go Go.RowKit
noncomputable def isT : AV → Bool
  | .bool true => true
  | _ => false
theorem isT_eq : ∀ u, isT u = true → u = .bool true := fun u h => by
  unfold isT at h
  split at h
  · rfl
  · cases h
set_option maxRecDepth 100000000 in
theorem ran3 : exec false ctx 600000 3 [] isT = true := by kernel_rfl
theorem walk3 (W : World) (hg : ∀ g cs, ctx.gl g = some cs → ∃ c U fz, W.heap[g]? = some (.cells c U fz) ∧ VL (fun _ => none) cs (c.toList.take cs.length)) :
    Calls Tryz.prog 3 #[] W fun e W' => e = .returned (.bool true) ∧ Below W.heap.size W W' := by
  obtain ⟨fe, hf⟩ : ∃ fe, ctx.fn 3 = some (.body fe) := ⟨_, rfl⟩
  refine (exec_sound (by kernel_rfl) ty_ok fn_ok hf isT_eq ran3 hg).mono ?_
  rintro e W' ⟨⟨β, y, rfl, hv⟩, hb⟩
  rw [hv.bool_inv]
  exact ⟨rfl, hb⟩
end Go.Proofs.YtcimgilfogeebaaGreatDoor.VM
