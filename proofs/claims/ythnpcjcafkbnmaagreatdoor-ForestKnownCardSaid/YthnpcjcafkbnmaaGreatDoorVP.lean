/- VM: how the tables of a translation are proved. -/
import Derived.Test.YthnpcjcafkbnmaaGreatDoorVExt
set_option linter.unusedVariables false
set_option linter.unusedSimpArgs false
namespace Go.Proofs.YthnpcjcafkbnmaaGreatDoor.VM
open Go Go.RowKit Go.Proofs.YthnpcjcafkbnmaaGreatDoor

theorem info_of {P : Program} {T : TypeId} {z : Value} {s b : Nat} (h : (P.info? T).map (fun i => (i.zero, i.size, i.bytes)) = some (some z, s, b)) : ∃ i z, P.info? T = some i ∧ i.zero = some z ∧ i.size = s ∧ i.bytes = b := by
  obtain ⟨i, h1, h2⟩ := Option.map_eq_some_iff.1 h
  simp only [Prod.mk.injEq] at h2
  exact ⟨i, z, h1, h2.1, h2.2.1, h2.2.2⟩
theorem fn_of {P : Program} {T : TypeId} (h : (match P.underlying T with | some (.func ..) => true | _ => false) = true) : ∃ a b c, P.underlying T = some (.func a b c) := by
  split at h
  · rename_i a b c hu; exact ⟨a, b, c, hu⟩
  · cases h
theorem strct_of {P : Program} {T : TypeId} (h : (match P.underlying T with | some (.struct _) => true | _ => false) = true) : ∃ fs, P.underlying T = some (.struct fs) := by
  split at h
  · rename_i fs hu; exact ⟨fs, hu⟩
  · cases h
theorem body_of {fn : Func} (h : fn.body.isSome = true) : fn.body = some (fn.body.getD .skip) := by
  cases hb : fn.body with
  | none => rw [hb] at h; cases h
  | some b => rfl
def AllTy (P : Program) : List (Nat × TI) → Prop
  | [] => True
  | (T, t) :: r => TIOk P T t ∧ AllTy P r
theorem all_ty {P : Program} : ∀ {l : List (Nat × TI)}, AllTy P l → ∀ T t, (T, t) ∈ l → TIOk P T t
  | [], _, T, t, h => by cases h
  | (U, u) :: r, ⟨h1, h2⟩, T, t, h => by
    rcases List.mem_cons.1 h with h | h
    · cases h; exact h1
    · exact all_ty h2 T t h
def FbOk (P : Program) (f : FuncId) : FB → Prop
  | .ext x => ExtOk P f x
  | .body ⟨nt, rs, code⟩ => ∃ fn, P.funcs[f]? = some fn ∧ fn.body = some code ∧ (fn.name == "runtime.NumGoroutine") = false ∧ fn.ntmps = nt ∧ fn.results.toList = rs
def AllFn (P : Program) : List (Nat × FB) → Prop
  | [] => True
  | (f, b) :: r => FbOk P f b ∧ AllFn P r
theorem all_fn {P : Program} : ∀ {l : List (Nat × FB)}, AllFn P l → ∀ f b, (f, b) ∈ l → FbOk P f b
  | [], _, f, b, h => by cases h
  | (g, c) :: r, ⟨h1, h2⟩, f, b, h => by
    rcases List.mem_cons.1 h with h | h
    · cases h; exact h1
    · exact all_fn h2 f b h
end Go.Proofs.YthnpcjcafkbnmaaGreatDoor.VM
