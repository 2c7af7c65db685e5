/- VM: how the tables of a translation are proved. -/
import Derived.Test.YtcimgilfogeebaaGreatDoorVExt
import Derived.Laws.StructEq
set_option linter.unusedVariables false
set_option linter.unusedSimpArgs false
namespace Go.Proofs.YtcimgilfogeebaaGreatDoor.VM
open Go Go.RowKit Go.Proofs.YtcimgilfogeebaaGreatDoor

theorem info_of {P : Program} {T : TypeId} {z : Value} {s b : Nat} (h : (P.info? T).map (fun i => (i.zero, i.size, i.bytes)) = some (some z, s, b)) : ∃ i z, P.info? T = some i ∧ i.zero = some z ∧ i.size = s ∧ i.bytes = b := by
  obtain ⟨i, h1, h2⟩ := Option.map_eq_some_iff.1 h
  simp only [Prod.mk.injEq] at h2
  exact ⟨i, z, h1, h2.1, h2.2.1, h2.2.2⟩
theorem fn_of {P : Program} {T : TypeId} (h : (match P.underlying T with | some (.func ..) => true | _ => false) = true) : ∃ a b c, P.underlying T = some (.func a b c) := by
  split at h
  · rename_i a b c hu; exact ⟨a, b, c, hu⟩
  · cases h
theorem strct_of {P : Program} {T : TypeId} (h : (match P.underlying T with | some (.struct _) => true | _ => false) = true) : ∃ fs, P.underlying T = some (.struct fs) := by
  split at h
  · rename_i fs hu; exact ⟨fs, hu⟩
  · cases h
theorem body_of {fn : Func} (h : fn.body.isSome = true) : fn.body = some (fn.body.getD .skip) := by
  cases hb : fn.body with
  | none => rw [hb] at h; cases h
  | some b => rfl
/-- fields of the kind int, one behind the other -/
def FsOk (P : Program) : Nat → List Field → Prop
  | _, [] => True
  | j, f :: r => f.name ≠ "_" ∧ f.offset = j ∧ P.underlying f.type = some (.int .i64) ∧ FsOk P (j + 1) r
theorem eqFields_ints {P : Program} (d : Nat) (xs ys : List Int) (hl : xs.length = ys.length) (W : World) : ∀ (fs : List Field) (j : Nat), FsOk P j fs → j + fs.length = xs.length →
    (Op.eqFields (d + 1) (xs.map (Value.int .i64)).toArray (ys.map (Value.int .i64)).toArray fs).run P W = .ok (decide (xs.drop j = ys.drop j)) W
  | [], j, _, hj => by
    have h1 : xs.drop j = [] := List.drop_eq_nil_of_le (by simp at hj; omega)
    have h2 : ys.drop j = [] := List.drop_eq_nil_of_le (by simp at hj; omega)
    simp [Op.eqFields, h1, h2]
  | f :: r, j, ⟨h1, h2, h3, h4⟩, hj => by
    have hx : j < xs.length := by simp at hj; omega
    have hy : j < ys.length := by omega
    have p1 : (part f.type (xs.map (Value.int .i64)).toArray f.offset).run P W = .ok (.int .i64 xs[j]) W := by
      simp [part, isAgg, run_underlying h3, h2, hx]
    have p2 : (part f.type (ys.map (Value.int .i64)).toArray f.offset).run P W = .ok (.int .i64 ys[j]) W := by
      simp [part, isAgg, run_underlying h3, h2, hy]
    unfold Op.eqFields
    rw [if_pos h1]
    simp only [Sem.run_bind, p1, p2, Result.andThen_ok, run_equalIn_int W d f.type .i64 .i64 _ _ h3]
    rw [List.drop_eq_getElem_cons hx, List.drop_eq_getElem_cons hy]
    by_cases e : xs[j] = ys[j]
    · have e' : (xs[j] == ys[j]) = true := by simpa using e
      simp only [e', Bool.not_true, Bool.false_eq_true, if_false]
      rw [eqFields_ints d xs ys hl W r (j + 1) h4 (by simp at hj; omega)]
      simp only [List.cons.injEq, e, true_and]
    · have e' : (xs[j] == ys[j]) = false := by simpa using e
      simp only [e', Bool.not_false, if_true, Sem.run_pure, List.cons.injEq, e, false_and, decide_false]
theorem eq_ok_ints {P : Program} {T : TypeId} (q : Nat) (hm : P.eqGuardType P.depth T = false) (hp : P.stoodInHeld T = false) (ht : P.underlying T = some (.struct (P.fieldsOf T))) (hf : FsOk P 0 (P.fieldsOf T).toList) (hq : (P.fieldsOf T).toList.length = q) : EqOk P T q := fun xs ys hx hy xo yo W => by
  have h := eqFields_ints (P := P) 9998 xs ys (by omega) W (P.fieldsOf T).toList 0 hf (by omega)
  rw [List.drop_zero, List.drop_zero] at h
  constructor
  · simp only [Sem.run_bind, run_eqGuard_agg W .eql T xo yo _ _ hm, Result.andThen_ok, run_eql_struct, run_equalIn_struct W 9999 T _ _ ht hp, h]
  · simp only [Sem.run_bind, run_eqGuard_agg W .neq T xo yo _ _ hm, Result.andThen_ok, run_neq_struct, run_equalIn_struct W 9999 T _ _ ht hp, h]
def AllTy (P : Program) : List (Nat × TI) → Prop
  | [] => True
  | (T, t) :: r => TIOk P T t ∧ AllTy P r
theorem all_ty {P : Program} : ∀ {l : List (Nat × TI)}, AllTy P l → ∀ T t, (T, t) ∈ l → TIOk P T t
  | [], _, T, t, h => by cases h
  | (U, u) :: r, ⟨h1, h2⟩, T, t, h => by
    rcases List.mem_cons.1 h with h | h
    · cases h; exact h1
    · exact all_ty h2 T t h
def FbOk (P : Program) (f : FuncId) : FB → Prop
  | .ext x => ExtOk P f x
  | .body ⟨nt, rs, code⟩ => ∃ fn, P.funcs[f]? = some fn ∧ fn.body = some code ∧ (fn.name == "runtime.NumGoroutine") = false ∧ fn.ntmps = nt ∧ fn.results.toList = rs
def AllFn (P : Program) : List (Nat × FB) → Prop
  | [] => True
  | (f, b) :: r => FbOk P f b ∧ AllFn P r
theorem all_fn {P : Program} : ∀ {l : List (Nat × FB)}, AllFn P l → ∀ f b, (f, b) ∈ l → FbOk P f b
  | [], _, f, b, h => by cases h
  | (g, c) :: r, ⟨h1, h2⟩, f, b, h => by
    rcases List.mem_cons.1 h with h | h
    · cases h; exact h1
    · exact all_fn h2 f b h
end Go.Proofs.YtcimgilfogeebaaGreatDoor.VM
