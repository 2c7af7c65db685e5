/- VM, drawn regions, 2: every order; the region's start and end. -/
import Derived.Test.YtcimgilfogeebaaGreatDoorVD1
set_option linter.unusedVariables false
set_option linter.unusedSimpArgs false
namespace Go.Proofs.YtcimgilfogeebaaGreatDoor.VM
open Go Go.RowKit Go.Proofs.YtcimgilfogeebaaGreatDoor

theorem looks_op {all : List Oper} {o : Oper} {t : Nat} (h : Operand.tmp t ∈ o.op.operands) : t ∈ looks all o := by
  unfold looks
  refine List.mem_append.2 (.inl ?_)
  rw [List.mem_filterMap]
  exact ⟨.tmp t, by simpa using h, rfl⟩
section
variable {P : Program} {G : GlF} {all : List Oper} {nt : Nat} {E0 : Env} {h0 : HpF} {N0 Ne : Nat} {R : List Rc} {βs : Be} {Ws : World}

theorem RI.any (ok : RegOk P G all nt E0 h0 N0 R) (hlen : R.length = all.length) (hne : ∀ (j : Nat) (r : Rc), R[j]? = some r → r.hi ≤ Ne) {Q : Exit → Act → World → Prop}
    (hend : ∀ (L : Nat → Prop) β a W, (∀ j, j < all.length → L j) → RI G nt E0 h0 N0 Ne R βs Ws L β a W → Q .normal a W) :
    ∀ (f : Nat) (Ld : Array Bool) (a : Act) (W : World) (β : Be), unl Ld all.length = f → Ld.size = all.length → (∀ j k, Ld.getD j false = true → Wt all j k → Ld.getD k false = true) →
      RI G nt E0 h0 N0 Ne R βs Ws (fun j => Ld.getD j false = true) β a W → wpAny P .any all.toArray Q f Ld a W := by
  intro f
  induction f with
  | zero =>
    intro Ld a W β hf hsz hcl inv
    refine ⟨?_, hend _ β a W (unl_zero hf) inv⟩
    refine List.eq_nil_iff_forall_not_mem.2 fun j hj => ?_
    obtain ⟨h1, o, h2, _⟩ := mem_ready.1 hj
    have hjl : j < all.length := by simpa using (Array.getElem?_eq_some_iff.1 h2).1
    have := unl_zero hf j hjl
    simp only [Array.getD_eq_getD_getElem?] at h1 this
    rw [Array.getElem?_eq_getElem (by omega)] at h1 this
    simp at h1 this
    rw [h1] at this; cases this
  | succ f ih =>
    intro Ld a W β hf hsz hcl inv
    refine ⟨fun hr => ?_, fun i hi => ?_⟩
    · exfalso
      -- the least that has not been done is ready
      have hex : ∃ j, j < all.length ∧ Ld.getD j false = false := by
        unfold unl at hf
        cases he : (List.range all.length).filter fun i => Ld.getD i false == false with
        | nil => rw [he] at hf; cases hf
        | cons x r =>
          have hx : x ∈ (List.range all.length).filter fun i => Ld.getD i false == false := by rw [he]; exact List.mem_cons_self ..
          rw [List.mem_filter, List.mem_range] at hx
          exact ⟨x, hx.1, by simpa using hx.2⟩
      obtain ⟨j, hj⟩ := hex
      induction j using Nat.strongRecOn with
      | _ j ihj =>
        obtain ⟨h1, h2⟩ := hj
        have hmem : j ∈ Region.ready .any all.toArray Ld := by
          refine mem_ready.2 ⟨?_, all[j], by simp [h1], fun e he hb => ?_⟩
          · simp only [Array.getD_eq_getD_getElem?] at h2 ⊢
            rw [Array.getElem?_eq_getElem (by omega)] at h2 ⊢
            simpa using h2
          · cases hc : Ld.getD e.on false with
            | true => rfl
            | false =>
              have hw : Wt all j e.on := .one (by simp [h1]) he hb
              have hlt := ok.low j e.on hw
              exact (ihj e.on hlt ⟨by omega, hc⟩).elim
        rw [hr] at hmem; cases hmem
    · obtain ⟨h1, o, h2, h3⟩ := mem_ready.1 hi
      have h2' : all[i]? = some o := by simpa using h2
      have hil : i < all.length := (List.getElem?_eq_some_iff.1 h2').1
      have hrl : i < R.length := by omega
      have hri : R[i]? = some R[i] := List.getElem?_eq_getElem hrl
      generalize R[i] = r at hri
      have hro : r.o = o := by have := ok.ops i r hri; rw [h2'] at this; exact (Option.some.inj this).symm
      subst hro
      have hun : Ld.getD i false = false := by
        simp only [Array.getD_eq_getD_getElem?] at h1 ⊢
        rw [Array.getElem?_eq_getElem (by omega)] at h1 ⊢
        simpa using h1
      have hL : ¬ (Ld.getD i false = true) := by rw [hun]; simp
      have hw : ∀ k, Wt all i k → Ld.getD k false = true := fun k hk => by
        have gen : ∀ j k, Wt all j k → j = i → Ld.getD k false = true := fun j k hk => by
          induction hk with
          | one hj he hb => intro e; subst e; rw [h2'] at hj; cases hj; exact h3 _ he hb
          | more h h' ih1 _ => intro e; exact hcl _ _ (ih1 e) h'
        exact gen i k hk rfl
      have hsee := inv.sees ok hri hL hw hcl
      have hwant : Region.wanted r.o (yielded all.toArray a.tmps) = r.want := ok.wsem i r hri (res β r.lo) a hsee
      have next : ∀ β1 W' y, Post G (res β r.lo) r.hs W r.lo r.hi r.tl β1 r.h' W' → VR β1 r.v y → wpAny P .any all.toArray Q f (Ld.setIfInBounds i true) (a.put r.o.dst y) W' := fun β1 W' y hp hy => by
        obtain ⟨β', inv'⟩ := inv.advance ok hne hri hL hw hcl hp hy (L' := fun j => (Ld.setIfInBounds i true).getD j false = true) (fun j => by
          by_cases e : j = i
          · subst e
            simp only [Array.getD_eq_getD_getElem?]
            rw [Array.getElem?_setIfInBounds_self_of_lt (by omega)]
            simp
          · rw [getD_set_ne false (fun e' => e e'.symm)]
            constructor
            · exact .inl
            · rintro (h | h)
              · exact h
              · exact absurd h e)
        refine ih _ _ _ β' (by have := unl_set hil (by omega) hun; omega) (by simpa using hsz) (fun j k hj hk => ?_) inv'
        by_cases e : j = i
        · subst e; exact getD_set_true (hw k hk)
        · rw [getD_set_ne false (fun e' => e e'.symm)] at hj
          exact getD_set_true (hcl j k hj hk)
      unfold wpOp
      simp only [h2]
      cases hwr : r.want with
      | true =>
        rw [if_pos (by rw [hwant, hwr])]
        refine .inl (oper_any ?_)
        refine ok.sem i r hri hwr (res β r.lo) W a r.o rfl (inv.hr ok hri hL hw hcl) (fun t ht v hv => ?_) (res_fresh β r.lo) _ next
        obtain ⟨y, hy, hvr⟩ := hsee t v (looks_op ht) hv
        simp only [Act.eval, Array.getD_eq_getD_getElem?, hy, Option.getD_some]; exact hvr
      | false =>
        rw [if_neg (by rw [hwant, hwr]; simp)]
        obtain ⟨h4, h5, h6, h7⟩ := ok.unw i r hri hwr
        refine next (res β r.lo) W undef ?_ (by rw [h7]; exact VR.undef _)
        rw [← h4, h5, h6]
        exact Post.refl (inv.hr ok hri hL hw hcl) r.lo

/-- ahead of the region -/
theorem RI.start {β : Be} {a : Act} {W : World} (d : Dom h0 N0) (r : HR G β h0 W) (hf : Fresh β N0) (s : SR β E0 nt a) (hle : N0 ≤ Ne) (ok : RegOk P G all nt E0 h0 N0 R) : RI G nt E0 h0 N0 Ne R β W (fun _ => False) β a W := by
  have ble : BLe β (res β N0) := fun i p hp => by
    unfold res
    by_cases e : i < N0
    · rw [if_pos e]; exact hp
    · rw [hf i (by omega)] at hp; cases hp
  have alive : ∀ i, AliveH (fun _ => False) R h0 i → (h0 i).isSome = true := fun i h => by
    rcases h with ⟨_, _, _, ⟨_, h, _⟩, _⟩ | ⟨_, b, h⟩
    · exact h.elim
    · rw [h]; rfl
  exact ⟨s.size, s.defers, fun t j r h => h.2.1.elim, fun t v _ hv => by obtain ⟨y, hy, hr⟩ := s.slot t v hv; exact ⟨y, hy, hr.mono ble⟩, fun i j r b h => h.2.1.elim, fun i b _ hb => (r.at_ i b hb).mono ble (fun _ _ => rfl),
    fun i j p q hi hj => r.inj i j p q (alive i hi) (alive j hj), fun i p hi => r.sep i p (alive i hi), r.glob, fun j r i hj _ h1 _ => hf i (Nat.le_trans (ok.base j r hj) h1), fun i hi => hf i (Nat.le_trans hle hi), fun _ _ => rfl, rfl, rfl, rfl, Nat.le_refl _, fun _ _ _ => rfl,
    fun i p hi ha _ => by have := d.lt (alive i ha); omega⟩
/-- behind it -/
theorem RI.fin {β : Be} {a : Act} {W : World} {L : Nat → Prop} (inv : RI G nt E0 h0 N0 Ne R βs Ws L β a W) (ok : RegOk P G all nt E0 h0 N0 R) (hlen : R.length = all.length) (hall : ∀ j, j < all.length → L j) (hle : N0 ≤ Ne) {he : HpF} {ee : Env} {TL : List Nat} (hTL : ∀ t, t ∈ TL ↔ t < N0 ∧ ∃ (j : Nat) (r : Rc), R[j]? = some r ∧ t ∈ r.tl)
    (h1 : ∀ id j r, LastH (fun _ => True) R id j r → he id = r.h' id) (h2 : ∀ id, NoneH (fun _ => True) R id → he id = h0 id)
    (e1 : ∀ t j r, LastE (fun _ => True) R t j r → ee.get t = some r.v) (e2 : ∀ t, NoneE (fun _ => True) R t → ee.get t = E0.get t) (hfs : Fresh βs N0) :
    Post G βs h0 Ws N0 Ne TL β he W ∧ SR β ee nt a := by
  have lt : ∀ (j : Nat) (r : Rc), R[j]? = some r → L j := fun j r h => hall j (by rw [← hlen]; exact (List.getElem?_eq_some_iff.1 h).1)
  have lastL : ∀ id j r, LastH (fun _ => True) R id j r ↔ LastH L R id j r := fun id j r =>
    ⟨fun ⟨a1, _, a3, a4⟩ => ⟨a1, lt j r a1, a3, fun j' r' b1 b2 _ => a4 j' r' b1 b2 trivial⟩, fun ⟨a1, _, a3, a4⟩ => ⟨a1, trivial, a3, fun j' r' b1 b2 _ => a4 j' r' b1 b2 (lt j' r' b2)⟩⟩
  have noneL : ∀ id, NoneH (fun _ => True) R id ↔ NoneH L R id := fun id => ⟨fun h j r a1 _ => h j r a1 trivial, fun h j r a1 _ => h j r a1 (lt j r a1)⟩
  have heS : ∀ id b, he id = some b → (∃ j r, LastH L R id j r ∧ r.h' id = some b) ∨ (NoneH L R id ∧ h0 id = some b) := fun id b hb => by
    rcases lastH_or (fun _ => True) R id with ⟨j, r, h⟩ | h
    · exact .inl ⟨j, r, (lastL id j r).1 h, by rw [← h1 id j r h]; exact hb⟩
    · exact .inr ⟨(noneL id).1 h, by rw [← h2 id h]; exact hb⟩
  have alive : ∀ id, (he id).isSome = true → AliveH L R h0 id := fun id h => by
    obtain ⟨b, hb⟩ := Option.isSome_iff_exists.1 h
    rcases heS id b hb with ⟨j, r, a1, a2⟩ | ⟨a1, a2⟩
    · exact .inl ⟨j, r, b, a1, a2⟩
    · exact .inr ⟨a1, b, a2⟩
  have dead : ∀ id, ¬ AliveH L R h0 id → he id = none := fun id h => by
    cases hc : he id with
    | none => rfl
    | some b => exact absurd (alive id (by rw [hc]; rfl)) h
  refine ⟨⟨fun i hi => ?_, ⟨fun i b hb => ?_, fun i j p q hi hj => inv.inj i j p q (alive i hi) (alive j hj), inv.glob, fun i p hi => inv.sep i p (alive i hi)⟩, inv.os, inv.tape, inv.output, inv.size, fun k hk hne => ?_, fun i a1 a2 p hp hs => ?_⟩, inv.tsize, inv.defers, fun t v hv => ?_⟩
  · rcases hi with hi | hi
    · exact inv.ext i hi
    · rw [inv.freshE i hi, hfs i (Nat.le_trans hle hi)]
  · rcases heS i b hb with ⟨j, r, a1, a2⟩ | ⟨a1, a2⟩
    · exact (inv.heapW i j r b a1 a2).mono res_le' (fun _ _ => rfl)
    · exact (inv.heap0 i b a1 a2).mono res_le' (fun _ _ => rfl)
  · exact inv.kept k hk fun j r t a1 _ a3 a4 p hp => hne t ((hTL t).2 ⟨a4, j, r, a1, a3⟩) p hp
  · rcases inv.own i p a1 (alive i hs) hp with h | ⟨t, b1, ⟨j, r, b2, _, b3⟩, b4, b5⟩
    · exact .inl h
    · exact .inr ⟨t, (hTL t).2 ⟨b1, j, r, b2, b3⟩, dead t b4, b5⟩
  · rcases lastE_or (fun _ => True) R t with ⟨j, r, h⟩ | h
    · have := e1 t j r h
      rw [hv] at this; cases this
      obtain ⟨y, hy, hr⟩ := inv.slotW t j r ⟨h.1, lt j r h.1, h.2.2.1, fun j' r' b1 b2 _ => h.2.2.2 j' r' b1 b2 trivial⟩
      exact ⟨y, hy, hr.mono res_le'⟩
    · obtain ⟨y, hy, hr⟩ := inv.slot0 t v (fun j r a1 _ => h j r a1 trivial) (by rw [← e2 t h]; exact hv)
      exact ⟨y, hy, hr.mono res_le'⟩
/-- what the machine's memory has become -/
theorem RegOk.end_facts (ok : RegOk P G all nt E0 h0 N0 R) (hne : ∀ (j : Nat) (r : Rc), R[j]? = some r → r.hi ≤ Ne) (hle : N0 ≤ Ne) {he : HpF} {TL : List Nat} (hTL : ∀ t, t ∈ TL ↔ t < N0 ∧ ∃ (j : Nat) (r : Rc), R[j]? = some r ∧ t ∈ r.tl)
    (h2 : ∀ id, NoneH (fun _ => True) R id → he id = h0 id) : Facts h0 N0 he Ne TL := by
  refine ⟨hle, fun i hi hn => h2 i fun j r a1 _ ht => ?_, fun t ht => ?_⟩
  · rcases hi with hi | hi
    · rcases ht with ⟨h, _⟩ | h
      · have := ok.base j r a1; omega
      · exact hn ((hTL i).2 ⟨hi, j, r, a1, h⟩)
    · have := hne j r a1
      rcases ht with ⟨_, h⟩ | h
      · omega
      · have := ((ok.facts j r a1).old i h).1
        have := ok.lohi a1
        omega
  · obtain ⟨h3, j, r, h4, h5⟩ := (hTL t).1 ht
    refine ⟨h3, ?_⟩
    induction j using Nat.strongRecOn generalizing r with
    | _ j ih =>
      obtain ⟨b, hb⟩ := Option.isSome_iff_exists.1 ((ok.facts j r h4).old t h5).2
      rcases ok.canon j r t b h4 hb with ⟨i, ri, ⟨a1, a2, a3, _⟩, _⟩ | ⟨_, a2⟩
      · rcases a3 with ⟨a4, _⟩ | a4
        · have := ok.base i ri a1; omega
        · exact ih i a2 ri a1 a4
      · rw [a2]; rfl
end
end Go.Proofs.YtcimgilfogeebaaGreatDoor.VM
