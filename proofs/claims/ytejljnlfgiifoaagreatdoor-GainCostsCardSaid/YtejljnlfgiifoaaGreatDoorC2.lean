/- Texts of ours in one: VD2, VD3, V17, V18, VExt, VSeq, VP, VTab, VK, VLaid. -/
import Derived.Test.YtejljnlfgiifoaaGreatDoorC0
import Derived.Test.YtejljnlfgiifoaaGreatDoorC1
import Derived.Scope
import Derived.Test.YtejljnlfgiifoaaGreatDoorProg
import Derived.Lib.Builder
import Derived.Lib.Bytealg
import Derived.Lib.MakeNoZero
import Derived.Laws.Externs
import Derived.Shelf.Spec.BitsCarry
import Derived.Laws.AppendOwn
import Derived.WalkLawsBesides
import Derived.Laws.IdiomCopy
import Derived.RangeFuncBox
import Derived.RangeFuncLeaves
import Derived.Shelf.Abstract
import Derived.OwnWalkIn
import Derived.TacticsInMore
import Derived.LoopNIn
import Derived.LoopIn
import Derived.Maps.AppendAt
import Derived.Laws.StructEq
import Derived.KernelRfl
import Derived.ProofKit
import Derived.OpenShut
import Derived.LaidMore
import Derived.Lay
import Derived.Stop.Joined
set_option linter.unusedVariables false
set_option linter.unusedSimpArgs false

namespace Go.Proofs.YtejljnlfgiifoaaGreatDoor.VM
open Go Go.RowKit Go.Proofs.YtejljnlfgiifoaaGreatDoor
theorem looks_op {all : List Oper} {o : Oper} {t : Nat} (h : Operand.tmp t ∈ o.op.operands) : t ∈ looks all o := by
 unfold looks
 refine List.mem_append.2 (.inl ?_)
 rw [List.mem_filterMap]
 exact ⟨.tmp t, by simpa using h, rfl⟩
section
variable {P : Program} {G : GlF} {all : List Oper} {nt : Nat} {E0 : Env} {h0 : HpF} {N0 Ne : Nat} {R : List Rc} {βs : Be} {Ws : World}
theorem RI.any (ok : RegOk P G all nt E0 h0 N0 R) (hlen : R.length = all.length) (hne : ∀ (j : Nat) (r : Rc), R[j]? = some r → r.hi ≤ Ne) {Q : Exit → Act → World → Prop}
  (hend : ∀ (L : Nat → Prop) β a W, (∀ j, j < all.length → L j) → RI G nt E0 h0 N0 Ne R βs Ws L β a W → Q .normal a W) :
  ∀ (f : Nat) (Ld : Array Bool) (a : Act) (W : World) (β : Be), unl Ld all.length = f → Ld.size = all.length → (∀ j k, Ld.getD j false = true → Wt all j k → Ld.getD k false = true) →
   RI G nt E0 h0 N0 Ne R βs Ws (fun j => Ld.getD j false = true) β a W → wpAny P .any all.toArray Q f Ld a W := by
 intro f
 induction f with
 | zero =>
  intro Ld a W β hf hsz hcl inv
  refine ⟨?_, hend _ β a W (unl_zero hf) inv⟩
  refine List.eq_nil_iff_forall_not_mem.2 fun j hj => ?_
  obtain ⟨h1, o, h2, _⟩ := mem_ready.1 hj
  have hjl : j < all.length := by simpa using (Array.getElem?_eq_some_iff.1 h2).1
  have := unl_zero hf j hjl
  simp only [Array.getD_eq_getD_getElem?] at h1 this
  rw [Array.getElem?_eq_getElem (by omega)] at h1 this
  simp at h1 this
  rw [h1] at this; cases this
 | succ f ih =>
  intro Ld a W β hf hsz hcl inv
  refine ⟨fun hr => ?_, fun i hi => ?_⟩
  ·exfalso
   have hex : ∃ j, j < all.length ∧ Ld.getD j false = false := by
    unfold unl at hf
    cases he : (List.range all.length).filter fun i => Ld.getD i false == false with
    | nil => rw [he] at hf; cases hf
    | cons x r =>
     have hx : x ∈ (List.range all.length).filter fun i => Ld.getD i false == false := by rw [he]; exact List.mem_cons_self ..
     rw [List.mem_filter, List.mem_range] at hx
     exact ⟨x, hx.1, by simpa using hx.2⟩
   obtain ⟨j, hj⟩ := hex
   induction j using Nat.strongRecOn with
   | _ j ihj =>
    obtain ⟨h1, h2⟩ := hj
    have hmem : j ∈ Region.ready .any all.toArray Ld := by
     refine mem_ready.2 ⟨?_, all[j], by simp [h1], fun e he hb => ?_⟩
     ·simp only [Array.getD_eq_getD_getElem?] at h2 ⊢
      rw [Array.getElem?_eq_getElem (by omega)] at h2 ⊢
      simpa using h2
     ·cases hc : Ld.getD e.on false with
      | true => rfl
      | false =>
       have hw : Wt all j e.on := .one (by simp [h1]) he hb
       have hlt := ok.low j e.on hw
       exact (ihj e.on hlt ⟨by omega, hc⟩).elim
    rw [hr] at hmem; cases hmem
  ·obtain ⟨h1, o, h2, h3⟩ := mem_ready.1 hi
   have h2' : all[i]? = some o := by simpa using h2
   have hil : i < all.length := (List.getElem?_eq_some_iff.1 h2').1
   have hrl : i < R.length := by omega
   have hri : R[i]? = some R[i] := List.getElem?_eq_getElem hrl
   generalize R[i] = r at hri
   have hro : r.o = o := by have := ok.ops i r hri; rw [h2'] at this; exact (Option.some.inj this).symm
   subst hro
   have hun : Ld.getD i false = false := by
    simp only [Array.getD_eq_getD_getElem?] at h1 ⊢
    rw [Array.getElem?_eq_getElem (by omega)] at h1 ⊢
    simpa using h1
   have hL : ¬ (Ld.getD i false = true) := by rw [hun]; simp
   have hw : ∀ k, Wt all i k → Ld.getD k false = true := fun k hk => by
    have gen : ∀ j k, Wt all j k → j = i → Ld.getD k false = true := fun j k hk => by
     induction hk with
     | one hj he hb => intro e; subst e; rw [h2'] at hj; cases hj; exact h3 _ he hb
     | more h h' ih1 _ => intro e; exact hcl _ _ (ih1 e) h'
    exact gen i k hk rfl
   have hsee := inv.sees ok hri hL hw hcl
   have hwant : Region.wanted r.o (yielded all.toArray a.tmps) = r.want := ok.wsem i r hri (res β r.lo) a hsee
   have next : ∀ β1 W' y, Post G (res β r.lo) r.hs W r.lo r.hi r.tl β1 r.h' W' → VR β1 r.v y → wpAny P .any all.toArray Q f (Ld.setIfInBounds i true) (a.put r.o.dst y) W' := fun β1 W' y hp hy => by
    obtain ⟨β', inv'⟩ := inv.advance ok hne hri hL hw hcl hp hy (L' := fun j => (Ld.setIfInBounds i true).getD j false = true) (fun j => by
     by_cases e : j = i
     ·subst e
      simp only [Array.getD_eq_getD_getElem?]
      rw [Array.getElem?_setIfInBounds_self_of_lt (by omega)]
      simp
     ·rw [getD_set_ne false (fun e' => e e'.symm)]
      constructor
      ·exact .inl
      ·rintro (h | h)
       ·exact h
       ·exact absurd h e)
    refine ih _ _ _ β' (by have := unl_set hil (by omega) hun; omega) (by simpa using hsz) (fun j k hj hk => ?_) inv'
    by_cases e : j = i
    ·subst e; exact getD_set_true (hw k hk)
    ·rw [getD_set_ne false (fun e' => e e'.symm)] at hj
     exact getD_set_true (hcl j k hj hk)
   unfold wpOp
   simp only [h2]
   cases hwr : r.want with
   | true =>
    rw [if_pos (by rw [hwant, hwr])]
    refine .inl (oper_any ?_)
    refine ok.sem i r hri hwr (res β r.lo) W a r.o rfl (inv.hr ok hri hL hw hcl) (fun t ht v hv => ?_) (res_fresh β r.lo) _ next
    obtain ⟨y, hy, hvr⟩ := hsee t v (looks_op ht) hv
    simp only [Act.eval, Array.getD_eq_getD_getElem?, hy, Option.getD_some]; exact hvr
   | false =>
    rw [if_neg (by rw [hwant, hwr]; simp)]
    obtain ⟨h4, h5, h6, h7⟩ := ok.unw i r hri hwr
    refine next (res β r.lo) W undef ?_ (by rw [h7]; exact VR.undef _)
    rw [← h4, h5, h6]
    exact Post.refl (inv.hr ok hri hL hw hcl) r.lo
theorem RI.start {β : Be} {a : Act} {W : World} (d : Dom h0 N0) (r : HR G β h0 W) (hf : Fresh β N0) (s : SR β E0 nt a) (hle : N0 ≤ Ne) (ok : RegOk P G all nt E0 h0 N0 R) : RI G nt E0 h0 N0 Ne R β W (fun _ => False) β a W := by
 have ble : BLe β (res β N0) := fun i p hp => by
  unfold res
  by_cases e : i < N0
  ·rw [if_pos e]; exact hp
  ·rw [hf i (by omega)] at hp; cases hp
 have alive : ∀ i, AliveH (fun _ => False) R h0 i → (h0 i).isSome = true := fun i h => by
  rcases h with ⟨_, _, _, ⟨_, h, _⟩, _⟩ | ⟨_, b, h⟩
  ·exact h.elim
  ·rw [h]; rfl
 exact ⟨s.size, s.defers, fun t j r h => h.2.1.elim, fun t v _ hv => by obtain ⟨y, hy, hr⟩ := s.slot t v hv; exact ⟨y, hy, hr.mono ble⟩, fun i j r b h => h.2.1.elim, fun i b _ hb => (r.at_ i b hb).mono ble (fun _ _ => rfl),
  fun i j p q hi hj => r.inj i j p q (alive i hi) (alive j hj), fun i p hi => r.sep i p (alive i hi), r.glob, fun j r i hj _ h1 _ => hf i (Nat.le_trans (ok.base j r hj) h1), fun i hi => hf i (Nat.le_trans hle hi), fun _ _ => rfl, rfl, rfl, rfl, Nat.le_refl _, fun _ _ _ => rfl,
  fun i p hi ha _ => by have := d.lt (alive i ha); omega⟩
theorem RI.fin {β : Be} {a : Act} {W : World} {L : Nat → Prop} (inv : RI G nt E0 h0 N0 Ne R βs Ws L β a W) (ok : RegOk P G all nt E0 h0 N0 R) (hlen : R.length = all.length) (hall : ∀ j, j < all.length → L j) (hle : N0 ≤ Ne) {he : HpF} {ee : Env} {TL : List Nat} (hTL : ∀ t, t ∈ TL ↔ t < N0 ∧ ∃ (j : Nat) (r : Rc), R[j]? = some r ∧ t ∈ r.tl)
  (h1 : ∀ id j r, LastH (fun _ => True) R id j r → he id = r.h' id) (h2 : ∀ id, NoneH (fun _ => True) R id → he id = h0 id)
  (e1 : ∀ t j r, LastE (fun _ => True) R t j r → ee.get t = some r.v) (e2 : ∀ t, NoneE (fun _ => True) R t → ee.get t = E0.get t) (hfs : Fresh βs N0) :
  Post G βs h0 Ws N0 Ne TL β he W ∧ SR β ee nt a := by
 have lt : ∀ (j : Nat) (r : Rc), R[j]? = some r → L j := fun j r h => hall j (by rw [← hlen]; exact (List.getElem?_eq_some_iff.1 h).1)
 have lastL : ∀ id j r, LastH (fun _ => True) R id j r ↔ LastH L R id j r := fun id j r =>
  ⟨fun ⟨a1, _, a3, a4⟩ => ⟨a1, lt j r a1, a3, fun j' r' b1 b2 _ => a4 j' r' b1 b2 trivial⟩, fun ⟨a1, _, a3, a4⟩ => ⟨a1, trivial, a3, fun j' r' b1 b2 _ => a4 j' r' b1 b2 (lt j' r' b2)⟩⟩
 have noneL : ∀ id, NoneH (fun _ => True) R id ↔ NoneH L R id := fun id => ⟨fun h j r a1 _ => h j r a1 trivial, fun h j r a1 _ => h j r a1 (lt j r a1)⟩
 have heS : ∀ id b, he id = some b → (∃ j r, LastH L R id j r ∧ r.h' id = some b) ∨ (NoneH L R id ∧ h0 id = some b) := fun id b hb => by
  rcases lastH_or (fun _ => True) R id with ⟨j, r, h⟩ | h
  ·exact .inl ⟨j, r, (lastL id j r).1 h, by rw [← h1 id j r h]; exact hb⟩
  ·exact .inr ⟨(noneL id).1 h, by rw [← h2 id h]; exact hb⟩
 have alive : ∀ id, (he id).isSome = true → AliveH L R h0 id := fun id h => by
  obtain ⟨b, hb⟩ := Option.isSome_iff_exists.1 h
  rcases heS id b hb with ⟨j, r, a1, a2⟩ | ⟨a1, a2⟩
  ·exact .inl ⟨j, r, b, a1, a2⟩
  ·exact .inr ⟨a1, b, a2⟩
 have dead : ∀ id, ¬ AliveH L R h0 id → he id = none := fun id h => by
  cases hc : he id with
  | none => rfl
  | some b => exact absurd (alive id (by rw [hc]; rfl)) h
 refine ⟨⟨fun i hi => ?_, ⟨fun i b hb => ?_, fun i j p q hi hj => inv.inj i j p q (alive i hi) (alive j hj), inv.glob, fun i p hi => inv.sep i p (alive i hi)⟩, inv.os, inv.tape, inv.output, inv.size, fun k hk hne => ?_, fun i a1 a2 p hp hs => ?_⟩, inv.tsize, inv.defers, fun t v hv => ?_⟩
 ·rcases hi with hi | hi
  ·exact inv.ext i hi
  ·rw [inv.freshE i hi, hfs i (Nat.le_trans hle hi)]
 ·rcases heS i b hb with ⟨j, r, a1, a2⟩ | ⟨a1, a2⟩
  ·exact (inv.heapW i j r b a1 a2).mono res_le' (fun _ _ => rfl)
  ·exact (inv.heap0 i b a1 a2).mono res_le' (fun _ _ => rfl)
 ·exact inv.kept k hk fun j r t a1 _ a3 a4 p hp => hne t ((hTL t).2 ⟨a4, j, r, a1, a3⟩) p hp
 ·rcases inv.own i p a1 (alive i hs) hp with h | ⟨t, b1, ⟨j, r, b2, _, b3⟩, b4, b5⟩
  ·exact .inl h
  ·exact .inr ⟨t, (hTL t).2 ⟨b1, j, r, b2, b3⟩, dead t b4, b5⟩
 ·rcases lastE_or (fun _ => True) R t with ⟨j, r, h⟩ | h
  ·have := e1 t j r h
   rw [hv] at this; cases this
   obtain ⟨y, hy, hr⟩ := inv.slotW t j r ⟨h.1, lt j r h.1, h.2.2.1, fun j' r' b1 b2 _ => h.2.2.2 j' r' b1 b2 trivial⟩
   exact ⟨y, hy, hr.mono res_le'⟩
  ·obtain ⟨y, hy, hr⟩ := inv.slot0 t v (fun j r a1 _ => h j r a1 trivial) (by rw [← e2 t h]; exact hv)
   exact ⟨y, hy, hr.mono res_le'⟩
theorem RegOk.end_facts (ok : RegOk P G all nt E0 h0 N0 R) (hne : ∀ (j : Nat) (r : Rc), R[j]? = some r → r.hi ≤ Ne) (hle : N0 ≤ Ne) {he : HpF} {TL : List Nat} (hTL : ∀ t, t ∈ TL ↔ t < N0 ∧ ∃ (j : Nat) (r : Rc), R[j]? = some r ∧ t ∈ r.tl)
  (h2 : ∀ id, NoneH (fun _ => True) R id → he id = h0 id) : Facts h0 N0 he Ne TL := by
 refine ⟨hle, fun i hi hn => h2 i fun j r a1 _ ht => ?_, fun t ht => ?_⟩
 ·rcases hi with hi | hi
  ·rcases ht with ⟨h, _⟩ | h
   ·have := ok.base j r a1; omega
   ·exact hn ((hTL i).2 ⟨hi, j, r, a1, h⟩)
  ·have := hne j r a1
   rcases ht with ⟨_, h⟩ | h
   ·omega
   ·have := ((ok.facts j r a1).old i h).1
    have := ok.lohi a1
    omega
 ·obtain ⟨h3, j, r, h4, h5⟩ := (hTL t).1 ht
  refine ⟨h3, ?_⟩
  induction j using Nat.strongRecOn generalizing r with
  | _ j ih =>
   obtain ⟨b, hb⟩ := Option.isSome_iff_exists.1 ((ok.facts j r h4).old t h5).2
   rcases ok.canon j r t b h4 hb with ⟨i, ri, ⟨a1, a2, a3, _⟩, _⟩ | ⟨_, a2⟩
   ·rcases a3 with ⟨a4, _⟩ | a4
    ·have := ok.base i ri a1; omega
    ·exact ih i a2 ri a1 a4
   ·rw [a2]; rfl
end
theorem memB_iff {x : Nat} : ∀ {l : List Nat}, memB x l = true ↔ x ∈ l
 | [] => ⟨fun h => (by cases h), fun h => (by cases h)⟩
 | y :: l => by
  have e : memB x (y :: l) = Bool.rec (motive := fun _ => Bool) (memB x l) true (Nat.beq x y) := rfl
  rw [e]
  cases h : Nat.beq x y with
  | true =>
   have : x = y := Nat.eq_of_beq_eq_true h
   subst this
   exact ⟨fun _ => List.mem_cons_self .., fun _ => rfl⟩
  | false =>
   have hne : x ≠ y := Nat.ne_of_beq_eq_false h
   have : (Bool.rec (motive := fun _ => Bool) (memB x l) true false) = memB x l := rfl
   rw [this, memB_iff, List.mem_cons]
   exact ⟨.inr, fun h => h.resolve_left hne⟩
theorem bindsB_eq (e : Edge) : bindsB e.ground = Region.binds .any e := by
 unfold bindsB Region.binds
 cases e.ground <;> rfl
theorem apartB_spec {all : List Oper} {x y : Oper} (h : apartB all x y = true) : (∀ t, x.dst = some t → t ∉ looks all y ∧ y.dst ≠ some t) ∧ (∀ t, y.dst = some t → t ∉ looks all x) := by
 unfold apartB at h
 rw [Bool.and_eq_true] at h
 obtain ⟨h1, h2⟩ := h
 refine ⟨fun t ht => ?_, fun t ht hm => ?_⟩
 ·rw [ht] at h1
  simp only [Bool.and_eq_true] at h1
  obtain ⟨h3, h4⟩ := h1
  refine ⟨fun hm => ?_, fun e => ?_⟩
  ·rw [memB_iff.2 hm] at h3; cases h3
  ·rw [e] at h4
   simp only [Nat.beq_refl] at h4
   cases h4
 ·rw [ht] at h2
  simp only [memB_iff.2 hm] at h2
  cases h2
theorem freeL_spec {all : List Oper} {o : Oper} {ws : List Nat} {j : Nat} : ∀ (prev : List Oper) (q : Nat) (fr : List Nat), freeL all o ws j prev q = some fr → ∀ m x, prev[m]? = some x → (j - (q + m + 1)) ∈ ws ∨ (apartB all x o = true ∧ q + m ∈ fr)
 | [], _, _, _, m, x, hx => by simp at hx
 | y :: r, q, fr, h, m, x, hx => by
  unfold freeL at h
  split at h
  ·rename_i hm
   cases m with
   | zero => exact .inl (memB_iff.1 hm)
   | succ m =>
    have := freeL_spec r (q + 1) fr h m x (by simpa using hx)
    rw [show q + 1 + m = q + (m + 1) by omega] at this
    exact this
  ·split at h
   ·rename_i ha
    split at h
    ·rename_i l hl
     cases h
     cases m with
     | zero => simp only [List.getElem?_cons_zero, Option.some.injEq] at hx; subst hx; exact .inr ⟨ha, List.mem_cons_self ..⟩
     | succ m =>
      have := freeL_spec r (q + 1) l hl m x (by simpa using hx)
      rw [show q + 1 + m = q + (m + 1) by omega] at this
      exact this.imp id fun ⟨h1, h2⟩ => ⟨h1, List.mem_cons_of_mem _ h2⟩
    ·cases h
   ·cases h
theorem waitsL_mem {tab : List (List Nat)} {i : Nat} : ∀ (es : List Edge), i ∈ waitsL tab es → ∃ e, e ∈ es ∧ Region.binds .any e = true ∧ (i = e.on ∨ ∃ ws, tab[e.on]? = some ws ∧ i ∈ ws)
 | [], h => by cases h
 | e :: es, h => by
  have h' : i ∈ (match bindsB e.ground with
   | true => e.on :: ((tab[e.on]?).getD [] ++ waitsL tab es)
   | false => waitsL tab es) := h
  have rest : i ∈ waitsL tab es → ∃ e', e' ∈ e :: es ∧ Region.binds .any e' = true ∧ (i = e'.on ∨ ∃ ws, tab[e'.on]? = some ws ∧ i ∈ ws) := fun h => by
   obtain ⟨e', h1, h2⟩ := waitsL_mem es h
   exact ⟨e', List.mem_cons_of_mem _ h1, h2⟩
  split at h'
  ·rename_i hb
   rw [bindsB_eq] at hb
   rw [List.mem_cons, List.mem_append] at h'
   rcases h' with rfl | h' | h'
   ·exact ⟨e, List.mem_cons_self .., hb, .inl rfl⟩
   ·refine ⟨e, List.mem_cons_self .., hb, .inr ?_⟩
    cases ht : tab[e.on]? with
    | none => rw [ht] at h'; cases h'
    | some ws => rw [ht] at h'; exact ⟨ws, rfl, h'⟩
   ·exact rest h'
  ·exact rest h'
theorem waitsT_spec {all : List Oper} : ∀ (l : List Oper) (tab : List (List Nat)), (∀ m, l[m]? = all[tab.length + m]?) → (∀ j ws, tab[j]? = some ws → ∀ i, i ∈ ws → Wt all j i) → ∀ j ws, (waitsT l tab)[j]? = some ws → ∀ i, i ∈ ws → Wt all j i
 | [], tab, _, h, j, ws, hj => h j ws hj
 | o :: l, tab, hl, h, j, ws, hj => by
  unfold waitsT at hj
  refine waitsT_spec l _ (fun m => ?_) (fun j ws hj i hi => ?_) j ws hj
  ·have := hl (m + 1)
   rw [List.getElem?_cons_succ] at this
   rw [this, List.length_append]
   congr 1
   show tab.length + (m + 1) = tab.length + 1 + m
   omega
  ·rcases Nat.lt_trichotomy j tab.length with h1 | h1 | h1
   ·rw [List.getElem?_append_left h1] at hj
    exact h j ws hj i hi
   ·subst h1
    rw [List.getElem?_append_right (Nat.le_refl _)] at hj
    simp only [Nat.sub_self, List.getElem?_cons_zero, Option.some.injEq] at hj
    subst hj
    obtain ⟨e, h2, h3, h4⟩ := waitsL_mem _ hi
    have ho : all[tab.length]? = some o := by have := hl 0; simpa using this.symm
    have hw : Wt all tab.length e.on := .one ho (by simpa using h2) h3
    rcases h4 with rfl | ⟨ws, h4, h5⟩
    ·exact hw
    ·exact hw.more (h e.on ws h4 i h5)
   ·rw [List.getElem?_eq_none (by simp; omega)] at hj; cases hj
theorem regT_spec {all : List Oper} {wt : List (List Nat)} : ∀ (l prev : List Oper) (j : Nat) (tab : List (Oper × List Nat)), regT all wt l prev j = some tab → (∀ m, l[m]? = all[j + m]?) → (∀ i, i < j → prev[j - 1 - i]? = all[i]?) →
  tab.length = l.length ∧ ∀ m o fr, tab[m]? = some (o, fr) → all[j + m]? = some o ∧ edgeB (j + m) o = true ∧ ∀ i x, i < j + m → all[i]? = some x → i ∈ (wt[j + m]?).getD [] ∨ (apartB all x o = true ∧ (j + m - 1 - i) ∈ fr)
 | [], prev, j, tab, h, _, _ => by
  unfold regT at h; cases h
  exact ⟨rfl, fun m o fr hm => by simp at hm⟩
 | o :: l, prev, j, tab, h, hl, hp => by
  unfold regT at h
  split at h
  ·cases h
  ·rename_i he
   split at h
   ·cases h
   ·rename_i fr hf
    split at h
    ·cases h
    ·rename_i t ht
     cases h
     have ho : all[j]? = some o := by have := hl 0; simpa using this.symm
     obtain ⟨h1, h2⟩ := regT_spec l (o :: prev) (j + 1) t ht (fun m => by
      have := hl (m + 1)
      rw [List.getElem?_cons_succ] at this
      rw [this]; congr 1; omega) (fun i hi => by
      by_cases e : i = j
      ·subst e
       rw [show i + 1 - 1 - i = 0 by omega, ho]; rfl
      ·rw [show j + 1 - 1 - i = (j - 1 - i) + 1 by omega, List.getElem?_cons_succ]
       exact hp i (by omega))
     refine ⟨by simp [h1], fun m o' fr' hm => ?_⟩
     cases m with
     | zero =>
      simp only [List.getElem?_cons_zero, Option.some.injEq, Prod.mk.injEq] at hm
      obtain ⟨rfl, rfl⟩ := hm
      refine ⟨ho, he, fun i x hi hx => ?_⟩
      have h3 := hp i hi
      rw [hx] at h3
      have := freeL_spec prev 0 fr hf (j - 1 - i) x h3
      rw [show j - (0 + (j - 1 - i) + 1) = i by omega, show 0 + (j - 1 - i) = j + 0 - 1 - i by omega] at this
      exact this
     | succ m =>
      have := h2 m o' fr' (by simpa using hm)
      rw [show j + 1 + m = j + (m + 1) by omega] at this
      exact this
structure TabOk (all : List Oper) (tab : List (Oper × List Nat)) : Prop where
 len : tab.length = all.length
 op : ∀ (j : Nat) (o : Oper) (fr : List Nat), tab[j]? = some (o, fr) → all[j]? = some o
 free : ∀ (j : Nat) (o : Oper) (fr : List Nat), tab[j]? = some (o, fr) → ∀ i x, i < j → all[i]? = some x → Wt all j i ∨ (apartB all x o = true ∧ (j - 1 - i) ∈ fr)
 low : ∀ j i, Wt all j i → i < j
theorem reg_ok {all : List Oper} {tab : List (Oper × List Nat)} (h : reg all = some tab) : TabOk all tab := by
 unfold reg at h
 obtain ⟨h1, h2⟩ := regT_spec all [] 0 tab h (fun m => by rw [Nat.zero_add]) (fun i hi => by omega)
 have hw := waitsT_spec (all := all) all [] (fun m => by simp) (fun j ws hj => by simp at hj)
 refine ⟨h1, fun j o fr hj => ?_, fun j o fr hj i x hi hx => ?_, fun j i hj => ?_⟩
 ·have := (h2 j o fr hj).1
  rwa [Nat.zero_add] at this
 ·have := (h2 j o fr hj).2.2 i x (by omega) hx
  rw [Nat.zero_add] at this
  refine this.imp (fun h3 => ?_) id
  cases hc : (waitsT all [])[j]? with
  | none => rw [hc] at h3; cases h3
  | some ws => rw [hc] at h3; exact hw j ws hc i h3
 ·induction hj with
  | one hj he hb =>
   rename_i j o e
   have hjl : j < tab.length := by rw [h1]; exact (List.getElem?_eq_some_iff.1 hj).1
   obtain ⟨h3, h4, _⟩ := h2 j tab[j].1 tab[j].2 (List.getElem?_eq_getElem hjl)
   rw [Nat.zero_add, hj] at h3
   cases h3
   rw [Nat.zero_add] at h4
   unfold edgeB at h4
   rw [List.all_eq_true] at h4
   have := h4 e (by simpa using he)
   rw [bindsB_eq, hb] at this
   simpa [Nat.blt_eq] using this
  | more _ _ ih1 ih2 => omega
def DidOk (d : Did) (r : Rc) : Prop := match d with
 | .none => (∀ k, r.hs k = none) ∧ r.lo = r.hi ∧ r.tl = []
 | .rd i => (∀ k, k ≠ i → r.hs k = none) ∧ r.lo = r.hi ∧ r.tl = []
 | .gen lo hi tl => r.lo = lo ∧ r.hi = hi ∧ r.tl = tl
structure Tk (P : Program) (G : GlF) (all : List Oper) (nt : Nat) (E0 : Env) (h0 : HpF) (N0 : Nat) (R : List Rc) (ds : List Did) (env : Env) (h : HpF) (n : Nat) : Prop where
 ok : RegOk P G all nt E0 h0 N0 R
 hi : ∀ (j : Nat) (r : Rc), R[j]? = some r → r.hi ≤ n
 le : N0 ≤ n
 dom : Dom h n
 did : ∀ (q : Nat) (d : Did) (r : Rc), ds[q]? = some d → q < R.length → R[R.length - 1 - q]? = some r → DidOk d r
 lastH : ∀ id j r, LastH (fun _ => True) R id j r → h id = r.h' id
 noneH : ∀ id, NoneH (fun _ => True) R id → h id = h0 id
 lastE : ∀ t j r, LastE (fun _ => True) R t j r → env.get t = some r.v
 noneE : ∀ t, NoneE (fun _ => True) R t → env.get t = E0.get t
theorem get_snoc {R : List Rc} {r x : Rc} {j : Nat} (h : (R ++ [r])[j]? = some x) : (j < R.length ∧ R[j]? = some x) ∨ (j = R.length ∧ x = r) := by
 rcases Nat.lt_trichotomy j R.length with h1 | h1 | h1
 ·rw [List.getElem?_append_left h1] at h; exact .inl ⟨h1, h⟩
 ·subst h1
  rw [List.getElem?_append_right (Nat.le_refl _)] at h
  simp at h
  exact .inr ⟨rfl, h.symm⟩
 ·rw [List.getElem?_eq_none (by simp; omega)] at h; cases h
theorem snoc_lt {R : List Rc} {r : Rc} {j : Nat} (h : j < R.length) : (R ++ [r])[j]? = R[j]? := List.getElem?_append_left h
theorem snoc_at (R : List Rc) (r : Rc) : (R ++ [r])[R.length]? = some r := by rw [List.getElem?_append_right (Nat.le_refl _)]; simp
theorem LastH.snoc {L : Nat → Prop} {R : List Rc} {r : Rc} {i j : Nat} {x : Rc} (h : LastH L R i j x) (hL : ∀ k, L k → k < R.length) : LastH L (R ++ [r]) i j x := by
 obtain ⟨h1, h2, h3, h4⟩ := h
 refine ⟨by rw [snoc_lt (hL j h2)]; exact h1, h2, h3, fun j' r' h5 h6 h7 => ?_⟩
 rw [snoc_lt (hL j' h7)] at h6
 exact h4 j' r' h5 h6 h7
theorem NoneH.snoc {L : Nat → Prop} {R : List Rc} {r : Rc} {i : Nat} (h : NoneH L R i) (hL : ∀ k, L k → k < R.length) : NoneH L (R ++ [r]) i := fun j x h1 h2 => by
 rw [snoc_lt (hL j h2)] at h1
 exact h j x h1 h2
theorem LastE.snoc {L : Nat → Prop} {R : List Rc} {r : Rc} {i j : Nat} {x : Rc} (h : LastE L R i j x) (hL : ∀ k, L k → k < R.length) : LastE L (R ++ [r]) i j x := by
 obtain ⟨h1, h2, h3, h4⟩ := h
 refine ⟨by rw [snoc_lt (hL j h2)]; exact h1, h2, h3, fun j' r' h5 h6 h7 => ?_⟩
 rw [snoc_lt (hL j' h7)] at h6
 exact h4 j' r' h5 h6 h7
theorem NoneE.snoc {L : Nat → Prop} {R : List Rc} {r : Rc} {i : Nat} (h : NoneE L R i) (hL : ∀ k, L k → k < R.length) : NoneE L (R ++ [r]) i := fun j x h1 h2 => by
 rw [snoc_lt (hL j h2)] at h1
 exact h j x h1 h2
theorem LastH.cut {R : List Rc} {i j : Nat} {x : Rc} (h : LastH (fun _ => True) R i j x) : LastH (fun k => k < R.length) R i j x :=
 ⟨h.1, (List.getElem?_eq_some_iff.1 h.1).1, h.2.2.1, fun j' r' h1 h2 _ => h.2.2.2 j' r' h1 h2 trivial⟩
theorem NoneH.cut {R : List Rc} {i : Nat} (h : NoneH (fun _ => True) R i) : NoneH (fun k => k < R.length) R i := fun j x h1 _ => h j x h1 trivial
theorem LastE.cut {R : List Rc} {i j : Nat} {x : Rc} (h : LastE (fun _ => True) R i j x) : LastE (fun k => k < R.length) R i j x :=
 ⟨h.1, (List.getElem?_eq_some_iff.1 h.1).1, h.2.2.1, fun j' r' h1 h2 _ => h.2.2.2 j' r' h1 h2 trivial⟩
theorem NoneE.cut {R : List Rc} {i : Nat} (h : NoneE (fun _ => True) R i) : NoneE (fun k => k < R.length) R i := fun j x h1 _ => h j x h1 trivial
section
variable {P : Program} {G : GlF} {all : List Oper} {nt : Nat} {E0 : Env} {h0 : HpF} {N0 : Nat}
theorem Tk.start {h : HpF} {n : Nat} {env : Env} (low : ∀ j i, Wt all j i → i < j) (d : Dom h n) : Tk P G all nt env h n [] [] env h n :=
 have no : ∀ {j : Nat} {r : Rc}, ([] : List Rc)[j]? = some r → False := fun h => by simp at h
 ⟨⟨fun _ _ h => (no h).elim, fun _ _ h => (no h).elim, fun _ _ _ _ _ h => (no h).elim, d, fun _ _ h => (no h).elim, fun _ _ h => (no h).elim, fun _ _ _ _ _ h => (no h).elim, low, fun _ _ _ _ h => (no h).elim, fun _ _ _ _ h => (no h).elim, fun _ _ h => (no h).elim, fun _ _ h => (no h).elim, fun _ _ h => (no h).elim, fun _ _ _ h => (no h).elim⟩,
  fun _ _ h => (no h).elim, Nat.le_refl _, d, fun _ _ _ h => (by simp at h), fun _ _ _ h => (no h.1).elim, fun _ _ => rfl, fun _ _ _ h => (no h.1).elim, fun _ _ => rfl⟩
theorem Tk.snoc {tab : List (Oper × List Nat)} (tb : TabOk all tab) {R : List Rc} {ds : List Did} {env : Env} {h : HpF} {n : Nat} (k : Tk P G all nt E0 h0 N0 R ds env h n) {r : Rc} {fr : List Nat} (hp : tab[R.length]? = some (r.o, fr)) (hlo : r.lo = n) (hdom : Dom r.hs n) (hF : Facts r.hs n r.h' r.hi r.tl)
  (hsub : ∀ id b, r.hs id = some b → h id = some b) (henv : r.env = env) (hsem : r.want = true → OpSem P G r.o.op r.env r.hs r.lo r.hi r.v r.h' r.tl) (hunw : r.want = false → r.lo = r.hi ∧ r.tl = [] ∧ r.h' = r.hs ∧ r.v = .tup [])
  (hwsem : ∀ (β : Be) (a : Act), (∀ t v, t ∈ looks all r.o → r.env.get t = some v → ∃ y, a.tmps[t]? = some y ∧ VR β v y) → Region.wanted r.o (yielded all.toArray a.tmps) = r.want)
  {env' : Env} (hset : (r.o.dst = none ∧ env' = env) ∨ ∃ t, r.o.dst = some t ∧ t < nt ∧ ∀ j, env'.get j = if j = t then some r.v else env.get j)
  (hfree : ∀ q ri, q ∈ fr → q < R.length → R[R.length - 1 - q]? = some ri → (∀ id b, r.hs id = some b → ¬ ri.tch id) ∧ (∀ t, t ∈ r.tl → ri.hs t = none)) {d : Did} (hd : DidOk d r)
  {hN : HpF} (hH : ∀ id, r.tch id → hN id = r.h' id) (hH' : ∀ id, ¬ r.tch id → hN id = h id) : Tk P G all nt E0 h0 N0 (R ++ [r]) (d :: ds) env' hN r.hi := by
 have ho := tb.op _ _ _ hp
 have hle := hF.le
 refine ⟨⟨fun j x hj => ?_, fun j x hj => ?_, fun i j ri rj hij hi hj => ?_, k.ok.dom0, fun j x hj => ?_, fun j x hj => ?_, fun i j ri rj hij hi hj => ?_, k.ok.low, fun j x id b hj hb => ?_, fun j x t v hj hv => ?_, fun j x hj hw => ?_, fun j x hj hw => ?_, fun j x hj => ?_, fun j x t hj ht => ?_⟩,
  fun j x hj => ?_, ?_, fun id hid => ?_, fun q d' x hq hlt hx => ?_, fun id j x hl => ?_, fun id hn => ?_, fun t j x hl => ?_, fun t hn => ?_⟩
 ·rcases get_snoc hj with ⟨_, hj⟩ | ⟨rfl, rfl⟩
  ·exact k.ok.ops j x hj
  ·exact ho
 ·rcases get_snoc hj with ⟨_, hj⟩ | ⟨rfl, rfl⟩
  ·exact k.ok.base j x hj
  ·rw [hlo]; exact k.le
 ·rcases get_snoc hj with ⟨hjl, hj⟩ | ⟨rfl, rfl⟩
  ·rw [snoc_lt (by omega)] at hi
   exact k.ok.mono i j ri rj hij hi hj
  ·rw [snoc_lt hij] at hi
   rw [hlo]; exact k.hi i ri hi
 ·rcases get_snoc hj with ⟨_, hj⟩ | ⟨rfl, rfl⟩
  ·exact k.ok.dom j x hj
  ·rw [hlo]; exact hdom
 ·rcases get_snoc hj with ⟨_, hj⟩ | ⟨rfl, rfl⟩
  ·exact k.ok.facts j x hj
  ·rw [hlo]; exact hF
 ·rcases get_snoc hj with ⟨hjl, hj⟩ | ⟨rfl, rfl⟩
  ·rw [snoc_lt (by omega)] at hi
   exact k.ok.free i j ri rj hij hi hj
  ·rw [snoc_lt hij] at hi
   rcases tb.free _ _ _ hp i ri.o hij (k.ok.ops i ri hi) with h1 | ⟨h1, h2⟩
   ·exact .inl h1
   ·obtain ⟨h3, h4⟩ := apartB_spec h1
    obtain ⟨h5, h6⟩ := hfree _ ri h2 (by omega) (by rw [show R.length - 1 - (R.length - 1 - i) = i by omega]; exact hi)
    exact .inr ⟨h3, h4, h5, h6⟩
 ·rcases get_snoc hj with ⟨hjl, hj⟩ | ⟨rfl, rfl⟩
  ·rcases k.ok.canon j x id b hj hb with ⟨i, ri, h1, h2⟩ | ⟨h1, h2⟩
   ·exact .inl ⟨i, ri, h1.snoc (fun k hk => by omega), h2⟩
   ·exact .inr ⟨h1.snoc (fun k hk => by omega), h2⟩
  ·have hb' := hsub id b hb
   rcases lastH_or (fun _ => True) R id with ⟨i, ri, h1⟩ | h1
   ·exact .inl ⟨i, ri, h1.cut.snoc (fun k hk => hk), by rw [← k.lastH id i ri h1]; exact hb'⟩
   ·exact .inr ⟨h1.cut.snoc (fun k hk => hk), by rw [← k.noneH id h1]; exact hb'⟩
 ·rcases get_snoc hj with ⟨hjl, hj⟩ | ⟨rfl, rfl⟩
  ·rcases k.ok.canonE j x t v hj hv with ⟨i, ri, h1, h2⟩ | ⟨h1, h2⟩
   ·exact .inl ⟨i, ri, h1.snoc (fun k hk => by omega), h2⟩
   ·exact .inr ⟨h1.snoc (fun k hk => by omega), h2⟩
  ·rw [henv] at hv
   rcases lastE_or (fun _ => True) R t with ⟨i, ri, h1⟩ | h1
   ·have := k.lastE t i ri h1
    rw [hv] at this
    exact .inl ⟨i, ri, h1.cut.snoc (fun k hk => hk), (Option.some.inj this).symm⟩
   ·exact .inr ⟨h1.cut.snoc (fun k hk => hk), by rw [← k.noneE t h1]; exact hv⟩
 ·rcases get_snoc hj with ⟨_, hj⟩ | ⟨rfl, rfl⟩
  ·exact k.ok.sem j x hj hw
  ·exact hsem hw
 ·rcases get_snoc hj with ⟨_, hj⟩ | ⟨rfl, rfl⟩
  ·exact k.ok.unw j x hj hw
  ·exact hunw hw
 ·rcases get_snoc hj with ⟨_, hj⟩ | ⟨rfl, rfl⟩
  ·exact k.ok.wsem j x hj
  ·exact hwsem
 ·rcases get_snoc hj with ⟨_, hj⟩ | ⟨rfl, rfl⟩
  ·exact k.ok.dst j x t hj ht
  ·rcases hset with ⟨h1, _⟩ | ⟨u, h1, h2, _⟩
   ·rw [h1] at ht; cases ht
   ·rw [h1] at ht; cases ht; exact h2
 ·rcases get_snoc hj with ⟨_, hj⟩ | ⟨rfl, rfl⟩
  ·exact Nat.le_trans (k.hi j x hj) hle
  ·exact Nat.le_refl _
 ·exact Nat.le_trans k.le hle
 ·rw [hH' id fun ht => ?_]
  ·exact k.dom id (Nat.le_trans hle hid)
  ·rcases ht with ⟨_, h1⟩ | h1
   ·omega
   ·have := (hF.old id h1).1; omega
 ·cases q with
  | zero =>
   simp only [List.getElem?_cons_zero, Option.some.injEq] at hq
   subst hq
   rw [List.length_append, List.length_singleton, show R.length + 1 - 1 - 0 = R.length by omega, snoc_at] at hx
   cases hx; exact hd
  | succ q =>
   rw [List.getElem?_cons_succ] at hq
   rw [List.length_append, List.length_singleton] at hlt hx
   rw [show R.length + 1 - 1 - (q + 1) = R.length - 1 - q by omega, snoc_lt (by omega)] at hx
   exact k.did q d' x hq (by omega) hx
 ·obtain ⟨h1, _, h3, h4⟩ := hl
  rcases get_snoc h1 with ⟨h5, h6⟩ | ⟨rfl, rfl⟩
  ·have hnr : ¬ r.tch id := h4 R.length r h5 (snoc_at R r) trivial
   rw [hH' id hnr]
   exact k.lastH id j x ⟨h6, trivial, h3, fun j' r' h7 h8 _ => h4 j' r' h7 (by rw [snoc_lt (List.getElem?_eq_some_iff.1 h8).1]; exact h8) trivial⟩
  ·exact hH id h3
 ·rw [hH' id (hn R.length r (snoc_at R r) trivial)]
  exact k.noneH id fun j x h1 _ => hn j x (by rw [snoc_lt (List.getElem?_eq_some_iff.1 h1).1]; exact h1) trivial
 ·obtain ⟨h1, _, h3, h4⟩ := hl
  rcases get_snoc h1 with ⟨h5, h6⟩ | ⟨rfl, rfl⟩
  ·have hnr : r.o.dst ≠ some t := h4 R.length r h5 (snoc_at R r) trivial
   have hold := k.lastE t j x ⟨h6, trivial, h3, fun j' r' h7 h8 _ => h4 j' r' h7 (by rw [snoc_lt (List.getElem?_eq_some_iff.1 h8).1]; exact h8) trivial⟩
   rcases hset with ⟨_, rfl⟩ | ⟨u, h7, _, h8⟩
   ·exact hold
   ·rw [h8, if_neg (fun e => hnr (by rw [e]; exact h7))]; exact hold
  ·rcases hset with ⟨h5, _⟩ | ⟨u, h5, _, h8⟩
   ·rw [h5] at h3; cases h3
   ·rw [h5] at h3; cases h3
    rw [h8, if_pos rfl]
 ·have hnr : r.o.dst ≠ some t := hn R.length r (snoc_at R r) trivial
  have hold := k.noneE t fun j x h1 _ => hn j x (by rw [snoc_lt (List.getElem?_eq_some_iff.1 h1).1]; exact h1) trivial
  rcases hset with ⟨_, rfl⟩ | ⟨u, h7, _, h8⟩
  ·exact hold
  ·rw [h8, if_neg (fun e => hnr (by rw [e]; exact h7))]; exact hold
end
theorem quietB_spec {ds : List Did} {i : Nat} : ∀ (fr : List Nat), quietB ds i fr = true → ∀ q, q ∈ fr → ∃ d, ds[q]? = some d ∧ ∀ r, DidOk d r → ¬ r.tch i
 | [], _, q, hq => by cases hq
 | x :: fr, h, q, hq => by
  have h' : (match ds[x]? with
   | some (.gen lo hi tl) => (match (Nat.ble lo i && Nat.blt i hi) || memB i tl with
    | true => false
    | false => quietB ds i fr)
   | some _ => quietB ds i fr
   | none => false) = true := h
  have self : ∃ d, ds[x]? = some d ∧ (∀ r, DidOk d r → ¬ r.tch i) ∧ quietB ds i fr = true := by
   split at h'
   ·rename_i lo hi tl hx
    split at h'
    ·cases h'
    ·rename_i hc
     refine ⟨_, hx, fun r hr ht => ?_, h'⟩
     obtain ⟨e1, e2, e3⟩ := hr
     rw [Bool.or_eq_false_iff, Bool.and_eq_false_iff] at hc
     rcases ht with ⟨h1, h2⟩ | h1
     ·rcases hc.1 with h3 | h3
      ·have : Nat.ble lo i = true := (by rw [Nat.ble_eq]; omega)
       rw [this] at h3; cases h3
      ·have : Nat.blt i hi = true := (by rw [Nat.blt_eq]; omega)
       rw [this] at h3; cases h3
     ·have := memB_iff.2 (by rw [← e3]; exact h1 : i ∈ tl)
      rw [hc.2] at this; cases this
   ·rename_i d hng hx
    refine ⟨_, hx, fun r hr ht => ?_, h'⟩
    cases d with
    | none =>
     obtain ⟨_, e2, e3⟩ := hr
     rcases ht with ⟨h1, h2⟩ | h1
     ·omega
     ·rw [e3] at h1; cases h1
    | rd k =>
     obtain ⟨_, e2, e3⟩ := hr
     rcases ht with ⟨h1, h2⟩ | h1
     ·omega
     ·rw [e3] at h1; cases h1
    | gen lo hi tl => exact (hng lo hi tl rfl).elim
   ·cases h'
  obtain ⟨d, h1, h2, h3⟩ := self
  rcases List.mem_cons.1 hq with rfl | hq
  ·exact ⟨d, h1, h2⟩
  ·exact quietB_spec fr h3 q hq
theorem unseenB_spec {ds : List Did} {tl : List Nat} (fr : List Nat) (h : unseenB ds tl fr = true) : ∀ q, q ∈ fr → ∀ t, t ∈ tl → ∃ d, ds[q]? = some d ∧ ∀ r, DidOk d r → r.hs t = none := by
 cases tl with
 | nil => intro q _ t ht; cases ht
 | cons y tl =>
  have key : ∀ fr, unseenB ds (y :: tl) fr = true → ∀ q, q ∈ fr → ∀ t, t ∈ y :: tl → ∃ d, ds[q]? = some d ∧ ∀ r, DidOk d r → r.hs t = none := by
   intro fr
   induction fr with
   | nil => intro _ q hq; cases hq
   | cons x fr ih =>
    intro h q hq t ht
    have h' : (match ds[x]? with
     | some .none => unseenB ds (y :: tl) fr
     | some (.rd i) => (match memB i (y :: tl) with
      | true => false
      | false => unseenB ds (y :: tl) fr)
     | _ => false) = true := h
    have self : (∃ d, ds[x]? = some d ∧ ∀ r, DidOk d r → r.hs t = none) ∧ unseenB ds (y :: tl) fr = true := by
     split at h'
     ·rename_i hx
      exact ⟨⟨_, hx, fun r hr => hr.1 t⟩, h'⟩
     ·rename_i i hx
      split at h'
      ·cases h'
      ·rename_i hc
       refine ⟨⟨_, hx, fun r hr => hr.1 t fun e => ?_⟩, h'⟩
       subst e
       rw [memB_iff.2 ht] at hc; cases hc
     ·cases h'
    rcases List.mem_cons.1 hq with rfl | hq
    ·exact self.1
    ·exact ih self.2 q hq t ht
  exact key fr h
theorem Did1.zero_touch {r : Rc} (h1 : r.lo = r.hi) (h2 : r.tl = []) (i : Nat) : ¬ r.tch i := fun ht => by
 rcases ht with ⟨a, b⟩ | a
 ·omega
 ·rw [h2] at a; cases a
section
variable {α : Type} {bad : α} {T : α → Prop} (hb : ¬ T bad)
include hb
structure Dr (h : Mem) (g : Mem) (rm : List (Nat × Blk)) : Prop where
 ofRm : ∀ id b, (id, b) ∈ rm → g.get id = none ∧ h.get id = some b
 or : ∀ id, g.get id = h.get id ∨ ∃ b, (id, b) ∈ rm
theorem dropOneK_spec {h0 g : Mem} {i : Nat} {rm : List (Nat × Blk)} (d : Dr h0 g rm) {k : Mem → List (Nat × Blk) → α} (hk : T (dropOneK bad g i rm k)) : ∃ g' rm', T (k g' rm') ∧ Dr h0 g' rm' ∧ g'.get i = none ∧ ∀ j, g.get j = none → g'.get j = none := by
 unfold dropOneK at hk
 split at hk
 ·rename_i b hg
  obtain ⟨g', h1, h2⟩ := putM_spec hb hk
  refine ⟨g', _, h1, ⟨fun id c hm => ?_, fun id => ?_⟩, by rw [h2, if_pos rfl], fun j hj => ?_⟩
  ·rcases List.mem_cons.1 hm with hm | hm
   ·cases hm
    refine ⟨by rw [h2, if_pos rfl], ?_⟩
    rcases d.or i with h3 | ⟨c, h3⟩
    ·rw [← h3]; exact hg
    ·have := (d.ofRm i c h3).1
     rw [hg] at this; cases this
   ·obtain ⟨h3, h4⟩ := d.ofRm id c hm
    refine ⟨?_, h4⟩
    rw [h2]; split
    ·rfl
    ·exact h3
  ·by_cases e : id = i
   ·subst e; exact .inr ⟨b, List.mem_cons_self ..⟩
   ·rw [h2, if_neg e]
    rcases d.or id with h3 | ⟨c, h3⟩
    ·exact .inl h3
    ·exact .inr ⟨c, List.mem_cons_of_mem _ h3⟩
  ·rw [h2]; split
   ·rfl
   ·exact hj
 ·rename_i hg
  exact ⟨g, rm, hk, d, hg, fun _ h => h⟩
theorem dropRangeK_spec {h0 : Mem} {lo : Nat} {k : Mem → List (Nat × Blk) → α} : ∀ (c : Nat) (g : Mem) (rm : List (Nat × Blk)), Dr h0 g rm → T (dropRangeK bad lo c g rm k) → ∃ g' rm', T (k g' rm') ∧ Dr h0 g' rm' ∧ (∀ i, lo ≤ i → i < lo + c → g'.get i = none) ∧ ∀ j, g.get j = none → g'.get j = none
 | 0, g, rm, d, hk => ⟨g, rm, hk, d, fun i h1 h2 => by omega, fun _ h => h⟩
 | c + 1, g, rm, d, hk => by
  have hk' : T (dropOneK bad g (Nat.add lo c) rm fun h rm => dropRangeK bad lo c h rm k) := hk
  obtain ⟨g1, rm1, h1, d1, h2, h3⟩ := dropOneK_spec hb d hk'
  obtain ⟨g2, rm2, h4, d2, h5, h6⟩ := dropRangeK_spec c g1 rm1 d1 h1
  refine ⟨g2, rm2, h4, d2, fun i h7 h8 => ?_, fun j hj => h6 j (h3 j hj)⟩
  by_cases e : i = lo + c
  ·subst e; exact h6 _ h2
  ·exact h5 i h7 (by omega)
theorem dropListK_spec {h0 : Mem} {k : Mem → List (Nat × Blk) → α} : ∀ (tl : List Nat) (g : Mem) (rm : List (Nat × Blk)), Dr h0 g rm → T (dropListK bad tl g rm k) → ∃ g' rm', T (k g' rm') ∧ Dr h0 g' rm' ∧ (∀ i, i ∈ tl → g'.get i = none) ∧ ∀ j, g.get j = none → g'.get j = none
 | [], g, rm, d, hk => ⟨g, rm, hk, d, fun i h => (by cases h), fun _ h => h⟩
 | t :: tl, g, rm, d, hk => by
  have hk' : T (dropOneK bad g t rm fun h rm => dropListK bad tl h rm k) := hk
  obtain ⟨g1, rm1, h1, d1, h2, h3⟩ := dropOneK_spec hb d hk'
  obtain ⟨g2, rm2, h4, d2, h5, h6⟩ := dropListK_spec tl g1 rm1 d1 h1
  refine ⟨g2, rm2, h4, d2, fun i h7 => ?_, fun j hj => h6 j (h3 j hj)⟩
  rcases List.mem_cons.1 h7 with rfl | h7
  ·exact h6 _ h2
  ·exact h5 i h7
theorem dropAllK_spec {h0 : Mem} {ds : List Did} {k : Mem → List (Nat × Blk) → α} : ∀ (fr : List Nat) (g : Mem) (rm : List (Nat × Blk)), Dr h0 g rm → T (dropAllK bad ds fr g rm k) →
  ∃ g' rm', T (k g' rm') ∧ Dr h0 g' rm' ∧ (∀ q, q ∈ fr → ∃ d, ds[q]? = some d ∧ ∀ r, DidOk d r → ∀ i, r.tch i → g'.get i = none) ∧ ∀ j, g.get j = none → g'.get j = none
 | [], g, rm, d, hk => ⟨g, rm, hk, d, fun i h => (by cases h), fun _ h => h⟩
 | x :: fr, g, rm, d, hk => by
  have hk' : T (match ds[x]? with
   | some (.gen lo hi tl) => dropRangeK bad lo (Nat.sub hi lo) g rm fun h rm => dropListK bad tl h rm fun h rm => dropAllK bad ds fr h rm k
   | some _ => dropAllK bad ds fr g rm k
   | none => bad) := hk
  split at hk'
  ·rename_i lo hi tl hx
   obtain ⟨g1, rm1, h1, d1, h2, h3⟩ := dropRangeK_spec hb _ _ _ d hk'
   obtain ⟨g2, rm2, h4, d2, h5, h6⟩ := dropListK_spec hb _ _ _ d1 h1
   obtain ⟨g3, rm3, h7, d3, h8, h9⟩ := dropAllK_spec fr g2 rm2 d2 h4
   refine ⟨g3, rm3, h7, d3, fun q hq => ?_, fun j hj => h9 j (h6 j (h3 j hj))⟩
   rcases List.mem_cons.1 hq with rfl | hq
   ·refine ⟨_, hx, fun r hr i ht => ?_⟩
    obtain ⟨e1, e2, e3⟩ := hr
    rcases ht with ⟨h10, h11⟩ | h10
    ·exact h9 i (h6 i (h2 i (by omega) (by show i < lo + (hi - lo); omega)))
    ·exact h9 i (h5 i (by rw [← e3]; exact h10))
   ·exact h8 q hq
  ·rename_i d' hng hx
   obtain ⟨g3, rm3, h7, d3, h8, h9⟩ := dropAllK_spec fr g rm d hk'
   refine ⟨g3, rm3, h7, d3, fun q hq => ?_, h9⟩
   rcases List.mem_cons.1 hq with rfl | hq
   ·refine ⟨_, hx, fun r hr i ht => ?_⟩
    cases d' with
    | none => exact (Did1.zero_touch hr.2.1 hr.2.2 i ht).elim
    | rd k => exact (Did1.zero_touch hr.2.1 hr.2.2 i ht).elim
    | gen lo hi tl => exact (hng lo hi tl rfl).elim
   ·exact h8 q hq
  ·exact absurd hk' hb
theorem backK_spec {h0 : Mem} {k : Mem → α} : ∀ (rm : List (Nat × Blk)) (g : Mem), (∀ id b, (id, b) ∈ rm → h0.get id = some b) → T (backK bad rm g k) → ∃ g', T (k g') ∧ ∀ id, ((∃ b, (id, b) ∈ rm) → g'.get id = h0.get id) ∧ ((∀ b, (id, b) ∉ rm) → g'.get id = g.get id)
 | [], g, _, hk => ⟨g, hk, fun id => ⟨fun ⟨b, h⟩ => (by cases h), fun _ => rfl⟩⟩
 | (i, c) :: rm, g, hr, hk => by
  have hk' : T (putM bad g i (some c) fun h => backK bad rm h k) := hk
  obtain ⟨g1, h1, h2⟩ := putM_spec hb hk'
  obtain ⟨g2, h3, h4⟩ := backK_spec rm g1 (fun id b hm => hr id b (List.mem_cons_of_mem _ hm)) h1
  refine ⟨g2, h3, fun id => ⟨fun ⟨b, hm⟩ => ?_, fun hn => ?_⟩⟩
  ·by_cases e : ∃ b, (id, b) ∈ rm
   ·exact (h4 id).1 e
   ·rw [(h4 id).2 fun b hm => e ⟨b, hm⟩]
    rcases List.mem_cons.1 hm with hm | hm
    ·cases hm
     rw [h2, if_pos rfl, hr _ _ (List.mem_cons_self ..)]
    ·exact (e ⟨b, hm⟩).elim
  ·rw [(h4 id).2 fun b hb => hn b (List.mem_cons_of_mem _ hb), h2, if_neg fun e => hn c (by subst e; exact List.mem_cons_self ..)]
theorem load_sem2 {P : Program} {Γ : Ctx} (hΓ : TyOk P Γ) {env : Env} {h : Mem} {n : Nat} {U : TypeId} {x : Operand} {k : AV → AV → α}
  (hk : T (tyK bad Γ U fun t => oK bad env x fun p => loadK bad Γ h p t.size fun l => asVarK bad t.agg l (k p))) : ∃ v p, T (k p v) ∧
   (∀ g : HpF, (∀ i off, p = .ptr i off → g i = h.get i) → OpSem P Γ.gl (.load U x) env g n n v g []) := by
 obtain ⟨t, ht, h1⟩ := tyK_spec hb hk
 obtain ⟨p, hp, h2⟩ := oK_spec hb h1
 obtain ⟨l, h3, hl, hc⟩ := loadK_spec hb h2
 obtain ⟨v, h4, hv⟩ := asVarK_spec hb h3
 refine ⟨v, p, h4, fun g hgm β W a o ho r hs hf K hK => ?_⟩
 have hc' : (∃ i off b, p = .ptr i off ∧ g i = some b ∧ off + t.size ≤ b.cells.length ∧ l = (b.cells.drop off).take t.size) ∨ (∃ g off cs, p = .glo g off ∧ Γ.gl g = some cs ∧ off + t.size ≤ cs.length ∧ l = (cs.drop off).take t.size) := by
  rcases hc with ⟨i, off, b, h5, h6, h7⟩ | h5
  ·exact .inl ⟨i, off, b, h5, by rw [hgm i off h5]; exact h6, h7⟩
  ·exact .inr h5
 obtain ⟨b, o', l', e, hvl, hrg⟩ := load_range r (hp.vr hs (x := x) (by simp [Op.operands])) hc'
 obtain ⟨y, hy, hr⟩ := run_load (hΓ.ty U t ht) hvl hrg hl hv
 refine wp_value (y := y) (W' := W) ?_ (hK β W y (Post.refl r n) hr)
 unfold execOp
 simp [ho, e, hy]
theorem drawK_trace {P : Program} {Γ : Ctx} (hΓ : TyOk P Γ) {callK : CallK α} (hc : CallOk P Γ.gl T callK) {fb nt : Nat} {all : List Oper} {tab : List (Oper × List Nat)} (tb : TabOk all tab) {E0 : Env} {h0 : HpF} {N0 : Nat} {lg0 : List Nat} {k : Env → Mem → Nat → List Nat → α} :
  ∀ (l : List (Oper × List Nat)) (R : List Rc) (ds : List Did) (env : Env) (h : Mem) (n : Nat) (lg : List Nat), (∀ m, l[m]? = tab[R.length + m]?) → R.length + l.length = tab.length → Tk P Γ.gl all nt E0 h0 N0 R ds env h.get n →
   (∀ t, t ∈ lg ↔ (t < fb ∧ ∃ (j : Nat) (r : Rc), R[j]? = some r ∧ t ∈ r.tl) ∨ t ∈ lg0) → T (drawK bad Γ callK fb nt all l ds env h n lg k) →
   ∃ R' ds' env' h' n' lg', T (k env' h' n' lg') ∧ R'.length = all.length ∧ Tk P Γ.gl all nt E0 h0 N0 R' ds' env' h'.get n' ∧ (∀ t, t ∈ lg' ↔ (t < fb ∧ ∃ (j : Nat) (r : Rc), R'[j]? = some r ∧ t ∈ r.tl) ∨ t ∈ lg0)
 | [], R, ds, env, h, n, lg, hl, hn, tk, hlg, hk => ⟨R, ds, env, h, n, lg, hk, by have := tb.len; simp at hn; omega, tk, hlg⟩
 | (o, fr) :: l, R, ds, env, h, n, lg, hl, hn, tk, hlg, hk => by
  have hk' : T (wantK bad all env o fun
    | false => setK bad nt env o.dst (.tup []) fun env => drawK bad Γ callK fb nt all l (.none :: ds) env h n lg k
    | true => match classOf o.op with
     | .pure => pureK bad Γ env o.op fun v => setK bad nt env o.dst v fun env => drawK bad Γ callK fb nt all l (.none :: ds) env h n lg k
     | .load => (match o.op with
      | .load T x => tyK bad Γ T fun t => oK bad env x fun p => loadK bad Γ h p t.size fun l' => asVarK bad t.agg l' fun v => setK bad nt env o.dst v fun env => (match p with
       | .ptr i _ => (match quietB ds i fr with
        | true => drawK bad Γ callK fb nt all l (.rd i :: ds) env h n lg k
        | false => bad)
       | .glo _ _ => drawK bad Γ callK fb nt all l (.none :: ds) env h n lg k
       | _ => bad)
      | _ => bad)
     | .gen => dropAllK bad ds fr h [] fun h rm => heapK bad Γ callK env h n o.op fun v h n' tl => (match unseenB ds tl fr with
      | true => backK bad rm h fun h => setK bad nt env o.dst v fun env => logK fb tl lg fun lg => drawK bad Γ callK fb nt all l (.gen n n' tl :: ds) env h n' lg k
      | false => bad)) := hk
  have hp : tab[R.length]? = some (o, fr) := by have := hl 0; simpa using this.symm
  have hl1 : ∀ r : Rc, ∀ m, l[m]? = tab[(R ++ [r]).length + m]? := fun r m => by
   have := hl (m + 1)
   rw [List.getElem?_cons_succ] at this
   rw [this, List.length_append, List.length_singleton]
   congr 1; omega
  have hn1 : ∀ r : Rc, (R ++ [r]).length + l.length = tab.length := fun r => by
   rw [List.length_append, List.length_singleton]; simp at hn; omega
  have lg1 : ∀ (r : Rc) (lg' : List Nat), (∀ t, t ∈ lg' ↔ (t ∈ r.tl ∧ t < fb) ∨ t ∈ lg) → ∀ t, t ∈ lg' ↔ (t < fb ∧ ∃ (j : Nat) (x : Rc), (R ++ [r])[j]? = some x ∧ t ∈ x.tl) ∨ t ∈ lg0 := fun r lg' h t => by
   rw [h, hlg]
   constructor
   ·rintro (⟨h1, h2⟩ | ⟨h1, j, x, h2, h3⟩ | h1)
    ·exact .inl ⟨h2, R.length, r, snoc_at R r, h1⟩
    ·exact .inl ⟨h1, j, x, by rw [snoc_lt (List.getElem?_eq_some_iff.1 h2).1]; exact h2, h3⟩
    ·exact .inr h1
   ·rintro (⟨h1, j, x, h2, h3⟩ | h1)
    ·rcases get_snoc h2 with ⟨_, h2⟩ | ⟨rfl, rfl⟩
     ·exact .inr (.inl ⟨h1, j, x, h2, h3⟩)
     ·exact .inl ⟨h3, h1⟩
    ·exact .inr (.inr h1)
  obtain ⟨b, h1, _, hw⟩ := wantK_spec hb hk'
  have free0 : ∀ (r : Rc), (∀ i, r.hs i = none) → r.tl = [] → ∀ q ri, q ∈ fr → q < R.length → R[R.length - 1 - q]? = some ri → (∀ id b, r.hs id = some b → ¬ ri.tch id) ∧ (∀ t, t ∈ r.tl → ri.hs t = none) := fun r e1 e2 q ri _ _ _ =>
   ⟨fun id b hb => (by rw [e1] at hb; cases hb), fun t ht => (by rw [e2] at ht; cases ht)⟩
  have quiet : ∀ (w : Bool) (v : AV) (env1 : Env), (w = true → OpSem P Γ.gl o.op env (fun _ => none) n n v (fun _ => none) []) → (w = false → v = .tup []) → (∀ (β : Be) (a : Act), (∀ t v, t ∈ looks all o → env.get t = some v → ∃ y, a.tmps[t]? = some y ∧ VR β v y) → Region.wanted o (yielded all.toArray a.tmps) = w) →
    ((o.dst = none ∧ env1 = env) ∨ ∃ t, o.dst = some t ∧ t < nt ∧ ∀ j, env1.get j = if j = t then some v else env.get j) → T (drawK bad Γ callK fb nt all l (.none :: ds) env1 h n lg k) →
    ∃ R' ds' env' h' n' lg', T (k env' h' n' lg') ∧ R'.length = all.length ∧ Tk P Γ.gl all nt E0 h0 N0 R' ds' env' h'.get n' ∧ (∀ t, t ∈ lg' ↔ (t < fb ∧ ∃ (j : Nat) (r : Rc), R'[j]? = some r ∧ t ∈ r.tl) ∨ t ∈ lg0) := fun w v env1 hsem hv hws hset hT => by
   let r : Rc := ⟨o, w, env, v, fun _ => none, n, n, fun _ => none, []⟩
   have nt' : ∀ i, ¬ r.tch i := Did1.zero_touch (r := r) rfl rfl
   have tk1 : Tk P Γ.gl all nt E0 h0 N0 (R ++ [r]) (.none :: ds) env1 h.get n := tk.snoc tb (r := r) hp rfl (fun _ _ => rfl) (Facts.refl _ _) (fun id b hb => by cases hb) rfl hsem (fun e => ⟨rfl, rfl, rfl, hv e⟩) hws hset (free0 r (fun _ => rfl) rfl) (d := .none) ⟨fun _ => rfl, rfl, rfl⟩ (fun id ht => (nt' id ht).elim) (fun _ _ => rfl)
   exact drawK_trace hΓ hc tb l (R ++ [r]) (.none :: ds) env1 h n lg (hl1 r) (hn1 r) tk1 (lg1 r lg fun t => by simp [r]) hT
  cases b with
  | false =>
   obtain ⟨env1, h3, he⟩ := setK_spec hb h1
   exact quiet false (.tup []) env1 (fun e => by cases e) (fun _ => rfl) hw he h3
  | true =>
   simp only at h1
   split at h1
   ·obtain ⟨v, h2, hs⟩ := pureK_sound hb hΓ h1
    obtain ⟨env1, h3, he⟩ := setK_spec hb h2
    refine quiet true v env1 (fun _ β W a o' ho r hs' hf K hK => ?_) (fun e => by cases e) hw he h3
    obtain ⟨y, hy, hr⟩ := hs β a W o' ho hs'
    exact wp_value hy (hK β W y (Post.refl r n) hr)
   ·split at h1
    ·rename_i U x hop
     obtain ⟨v, p, h2, hs⟩ := load_sem2 (n := n) hb hΓ h1
     obtain ⟨env1, h3, he⟩ := setK_spec hb h2
     split at h3
     ·rename_i i off
      split at h3
      ·rename_i hq
       let g : HpF := fun j => if j = i then h.get i else none
       let r : Rc := ⟨o, true, env, v, g, n, n, g, []⟩
       have nt' : ∀ i, ¬ r.tch i := Did1.zero_touch (r := r) rfl rfl
       have hg : ∀ id b, g id = some b → id = i ∧ h.get id = some b := fun id b hb => by
        simp only [g] at hb
        split at hb
        ·rename_i e; subst e; exact ⟨rfl, hb⟩
        ·cases hb
       have tk1 : Tk P Γ.gl all nt E0 h0 N0 (R ++ [r]) (.rd i :: ds) env1 h.get n := by
        refine tk.snoc tb (r := r) hp rfl (fun id hid => ?_) (Facts.refl _ _) (fun id b hb => (hg id b hb).2) rfl (fun _ => ?_) (fun e => by cases e) hw he (fun q ri hqm hql hri => ⟨fun id b hb => ?_, fun t ht => by cases ht⟩) (d := .rd i) ⟨fun j hj => ?_, rfl, rfl⟩ (fun id ht => (nt' id ht).elim) (fun _ _ => rfl)
        ·cases hc : g id with
         | none => exact hc
         | some b => exact absurd (hg id b hc).2 (by rw [tk.dom id hid]; simp)
        ·show OpSem P Γ.gl o.op env g n n v g []
         rw [hop]
         exact hs g fun i' off' e => by cases e; simp [g]
        ·obtain ⟨rfl, _⟩ := hg id b hb
         obtain ⟨d, h4, h5⟩ := quietB_spec fr hq q hqm
         exact h5 ri (tk.did q d ri h4 hql hri)
        ·simp only [r, g]; rw [if_neg hj]
       exact drawK_trace hΓ hc tb l (R ++ [r]) (.rd i :: ds) env1 h n lg (hl1 r) (hn1 r) tk1 (lg1 r lg fun t => by simp [r]) h3
      ·exact absurd h3 hb
     ·refine quiet true v env1 (fun _ => ?_) (fun e => by cases e) hw he h3
      rw [hop]
      exact hs (fun _ => none) fun i off e => by cases e
     ·exact absurd h3 hb
    ·exact absurd h1 hb
   ·obtain ⟨g, rm, h2, d, hdr, _⟩ := dropAllK_spec hb (h0 := h) (ds := ds) fr h [] ⟨fun id b hm => (by cases hm), fun id => .inl rfl⟩ h1
    have hgs : ∀ id b, g.get id = some b → h.get id = some b := fun id b hb => by
     rcases d.or id with h3 | ⟨c, h3⟩
     ·rw [← h3]; exact hb
     ·rw [(d.ofRm id c h3).1] at hb; cases hb
    have hgd : Dom g.get n := fun id hid => by
     cases hc : g.get id with
     | none => rfl
     | some b => have := hgs id b hc; rw [tk.dom id hid] at this; cases this
    obtain ⟨v, h', n', tl, h3, hF, hS⟩ := heapK_sound hb hΓ hc hgd h2
    simp only at h3
    split at h3
    ·rename_i hun
     obtain ⟨hN, h4, hback⟩ := backK_spec hb (h0 := h) rm h' (fun id b hm => (d.ofRm id b hm).2) h3
     obtain ⟨env1, h5, he⟩ := setK_spec hb h4
     obtain ⟨lg', h6, hlg'⟩ := logK_go _ _ h5
     let r : Rc := ⟨o, true, env, v, g.get, n, n', h'.get, tl⟩
     have rmOld : ∀ id b, (id, b) ∈ rm → ¬ r.tch id := fun id b hm ht => by
      obtain ⟨h7, h8⟩ := d.ofRm id b hm
      rcases ht with ⟨h9, _⟩ | h9
      ·rw [tk.dom id h9] at h8; cases h8
      ·have := (hF.old id h9).2
       rw [h7] at this; cases this
     have tk1 : Tk P Γ.gl all nt E0 h0 N0 (R ++ [r]) (.gen n n' tl :: ds) env1 hN.get n' := by
      refine tk.snoc tb (r := r) hp rfl hgd hF hgs rfl (fun _ => hS) (fun e => by cases e) hw he (fun q ri hqm hql hri => ⟨fun id b hb ht => ?_, fun t ht => ?_⟩) (d := .gen n n' tl) ⟨rfl, rfl, rfl⟩ (fun id ht => ?_) (fun id ht => ?_)
      ·obtain ⟨d', h7, h8⟩ := hdr q hqm
       have := h8 ri (tk.did q d' ri h7 hql hri) id ht
       have hb' : g.get id = some b := hb
       rw [this] at hb'; cases hb'
      ·obtain ⟨d', h7, h8⟩ := unseenB_spec fr hun q hqm t ht
       exact h8 ri (tk.did q d' ri h7 hql hri)
      ·exact (hback id).2 fun b hm => rmOld id b hm ht
      ·by_cases e : ∃ b, (id, b) ∈ rm
       ·exact (hback id).1 e
       ·rw [(hback id).2 fun b hm => e ⟨b, hm⟩]
        have h7 : h'.get id = g.get id := hF.same id (by
         by_cases h8 : id < n
         ·exact .inl h8
         ·exact .inr (Nat.le_of_not_lt fun h9 => ht (.inl ⟨by show n ≤ id; omega, h9⟩))) (fun h8 => ht (.inr h8))
        rw [h7]
        rcases d.or id with h8 | h8
        ·exact h8
        ·exact (e h8).elim
     exact drawK_trace hΓ hc tb l (R ++ [r]) (.gen n n' tl :: ds) env1 hN n' lg' (hl1 r) (hn1 r) tk1 (lg1 r lg' hlg') h6
    ·exact absurd h3 hb
theorem drawK_sound {P : Program} (hm : P.follows .mixedOrders = true) {Γ : Ctx} (hΓ : TyOk P Γ) {callK : CallK α} (hc : CallOk P Γ.gl T callK) {fb nt : Nat} {all : List Oper} {tab : List (Oper × List Nat)} (ht : reg all = some tab) {h0 : HpF}
  (env : Env) (h : Mem) (n : Nat) (lg : List Nat) (k : Env → Mem → Nat → List Nat → α) (m : MF h0 fb lg h.get n) (hk : T (drawK bad Γ callK fb nt all tab [] env h n lg k)) :
  ∃ env' h' n' lg', T (k env' h' n' lg') ∧ MF h0 fb lg' h'.get n' ∧ ∀ (β0 : Be) (W0 : World) (β : Be) (W : World) (a : Act) (id : Nat), FI Γ.gl β0 W0 fb lg β h.get W n → SR β env nt a →
   (Code.region id all.toArray true).wp P (fun e a' W' => e = .normal ∧ ∃ β', FI Γ.gl β0 W0 fb lg' β' h'.get W' n' ∧ SR β' env' nt a') a W := by
 have tb := reg_ok ht
 obtain ⟨R, ds, env', h', n', lg', h1, hlen, tk, hlg⟩ := drawK_trace hb hΓ hc tb (E0 := env) (h0 := h.get) (N0 := n) (lg0 := lg) (fb := fb) (nt := nt) tab [] [] env h n lg (fun m => by simp) (by simp) (Tk.start tb.low m.dom) (fun t => by simp) hk
 have hTL : ∀ t, t ∈ ((R.flatMap Rc.tl).filter fun t => decide (t < n)) ↔ t < n ∧ ∃ (j : Nat) (r : Rc), R[j]? = some r ∧ t ∈ r.tl := fun t => by
  rw [List.mem_filter, List.mem_flatMap]
  constructor
  ·rintro ⟨⟨r, h2, h3⟩, h4⟩
   obtain ⟨j, hj⟩ := List.mem_iff_getElem?.1 h2
   exact ⟨by simpa using h4, j, r, hj, h3⟩
  ·rintro ⟨h2, j, r, h3, h4⟩
   exact ⟨⟨r, List.mem_iff_getElem?.2 ⟨j, h3⟩, h4⟩, by simpa using h2⟩
 have hl : ∀ t, t ∈ lg' ↔ (t ∈ ((R.flatMap Rc.tl).filter fun t => decide (t < n)) ∧ t < fb) ∨ t ∈ lg := fun t => by
  rw [hlg, hTL]
  have := m.le
  constructor
  ·rintro (⟨h2, h3⟩ | h2)
   ·exact .inl ⟨⟨by omega, h3⟩, h2⟩
   ·exact .inr h2
  ·rintro (⟨⟨_, h3⟩, h2⟩ | h2)
   ·exact .inl ⟨h2, h3⟩
   ·exact .inr h2
 have hF : Facts h.get n h'.get n' ((R.flatMap Rc.tl).filter fun t => decide (t < n)) := tk.ok.end_facts tk.hi tk.le hTL tk.noneH
 refine ⟨env', h', n', lg', h1, m.step hF hl, fun β0 W0 β W a id r s => ?_⟩
 have r' := r.drew
 have inv0 := RI.start (P := P) (R := R) (Ne := n') m.dom r'.hr r'.fresh s tk.le tk.ok
 have none : ∀ i, (Array.replicate all.toArray.size false).getD i false = false := getD_replicate_false _
 refine wp_region_any hm ?_
 have hunl : unl (Array.replicate all.toArray.size false) all.length = all.toArray.size := by
  unfold unl
  rw [List.filter_eq_self.2 (fun i _ => by simp only [none]; rfl)]
  simp
 refine RI.any (βs := β) (Ws := W.drew) tk.ok hlen tk.hi (fun L β1 a1 W1 hall inv => ?_) _ _ a W.drew β hunl (by simp) (fun j k hj => by rw [none] at hj; cases hj) ?_
 ·obtain ⟨hp, hs⟩ := inv.fin tk.ok hlen hall tk.le hTL tk.lastH tk.noneH tk.lastE tk.noneE r'.fresh
  exact ⟨rfl, β1, r'.step m hF hp hl, hs⟩
 ·have e : (fun j => (Array.replicate all.toArray.size false).getD j false = true) = fun _ => False := by
   funext j
   rw [none]; simp
  rw [e]; exact inv0
end
def LoopWp (P : Program) (c : Code) (Q : Exit → Act → World → Prop) (a : Act) (w : World) : Prop := ∀ (b : Frame) (k : List Item) (cs : List Frame),
 ∃ e a' w', Q e a' w' ∧ Arrives P (lone (b.at a (.code c :: .inLoop c :: k)) cs w) b k cs e a' w'
theorem loopWp_of {P : Program} {c : Code} {Q : Exit → Act → World → Prop} {a : Act} {w : World} (h : c.wp P (Exit.then (fun a w => LoopWp P c Q a w) Q) a w) : LoopWp P c Q a w := fun b k cs => by
 obtain ⟨e, a₁, w₁, hq, harr⟩ := h b (.inLoop c :: k) cs
 cases e with
 | normal =>
  obtain ⟨e₂, a₂, w₂, hq₂, harr₂⟩ := hq b k cs
  exact ⟨e₂, a₂, w₂, hq₂, .of_steps (Steps.trans harr (.one step_inLoop)) harr₂⟩
 | exit id => exact ⟨_, a₁, w₁, hq, .pass (x := .inLoop c) rfl (fun _ _ => .inl (by simp)) harr⟩
 | goto l => exact ⟨_, a₁, w₁, hq, .pass (x := .inLoop c) rfl (fun _ _ => .inl (by simp)) harr⟩
 | ret => exact ⟨_, a₁, w₁, hq, .pass (x := .inLoop c) rfl (fun _ _ => .inl (by simp)) harr⟩
 | panic ch => exact ⟨_, a₁, w₁, hq, .pass (x := .inLoop c) rfl (fun _ _ => .inl (by simp)) harr⟩
 | outgrown => exact ⟨_, a₁, w₁, hq, .pass (x := .inLoop c) rfl (fun _ _ => .inl (by simp)) harr⟩
theorem wp_of_loopWp {P : Program} {c : Code} {Q : Exit → Act → World → Prop} {a : Act} {w : World} (h : LoopWp P c Q a w) : (Code.loop c).wp P Q a w := fun b k cs => by
 obtain ⟨e, a', w', hq, harr⟩ := h b k cs
 exact ⟨e, a', w', hq, .of_steps (.one step_loop) harr⟩
def exOf : Ex → Exit
 | .nrm => .normal
 | .ext i => .exit i
 | .ret => .ret
def CodePost (G : GlF) (β0 : Be) (W0 : World) (fb nt : Nat) (e : Ex) (env : Env) (h : HpF) (n : Nat) (lg : List Nat) : Exit → Act → World → Prop := fun e' a W => e' = exOf e ∧ ∃ β, FI G β0 W0 fb lg β h W n ∧ SR β env nt a
def RunOk {α : Type} (P : Program) (Γ : Ctx) (T : α → Prop) (run : RunK α) : Prop := ∀ c fb nt (h0 : HpF) (env : Env) (h : Mem) (n : Nat) (lg : List Nat) (k : Ex → Env → Mem → Nat → List Nat → α),
 MF h0 fb lg h.get n → T (run c fb nt env h n lg k) → ∃ e env' h' n' lg', T (k e env' h' n' lg') ∧ MF h0 fb lg' h'.get n' ∧ ∀ (β0 : Be) (W0 : World) (β : Be) (W : World) (a : Act), FI Γ.gl β0 W0 fb lg β h.get W n → SR β env nt a →
  c.wp P (CodePost Γ.gl β0 W0 fb nt e env' h'.get n' lg') a W ∧ ∀ b, c = .loop b → LoopWp P b (CodePost Γ.gl β0 W0 fb nt e env' h'.get n' lg') a W
def FnOk (P : Program) (Γ : Ctx) : Prop := ∀ f b, Γ.fn f = some b → match b with
 | .ext x => ExtOk P f x
 | .body ⟨nt, rs, code⟩ => ∃ fn, P.funcs[f]? = some fn ∧ fn.body = some code ∧ (fn.name == "runtime.NumGoroutine") = false ∧ fn.ntmps = nt ∧ fn.results.toList = rs
def resF (tmps : Array Value) : ResultVar → Sem Value
 | .tmp t => pure (tmps.getD t undef)
 | .cell t T => do loadVar T (← asAddr (tmps.getD t undef))
theorem oneOf_vr {β : Be} {l : List AV} {l' : List Value} (h : VL β l l') : VR β (oneOf l) (if h : l'.toArray.size = 1 then l'.toArray[0] else .tuple l'.toArray) := by
 cases l with
 | nil => obtain rfl := h.nil_inv; exact .tup [] [] rfl (fun j x y hx => by simp at hx)
 | cons x r =>
  obtain ⟨y, r', rfl, hy, hr⟩ := h.cons_inv
  cases r with
  | nil => obtain rfl := hr.nil_inv; exact hy
  | cons z r =>
   obtain ⟨y2, r2, rfl, hy2, hr2⟩ := hr.cons_inv
   rw [dif_neg (by simp)]
   exact .tup _ _ h.1 h.2
section
variable {α : Type} {bad : α} {T : α → Prop} (hb : ¬ T bad)
include hb
theorem argEnvK_spec : ∀ (as_ : List AV) (i : Nat) (env : Env) (k : Env → α), T (argEnvK bad as_ i env k) → ∃ env', T (k env') ∧ ∀ j, env'.get j = if i ≤ j ∧ j < i + as_.length then as_[j - i]? else env.get j
 | [], i, env, k, h => ⟨env, h, fun j => by rw [if_neg (by simp)]⟩
 | v :: as_, i, env, k, h => by
  obtain ⟨env1, h1, h2⟩ := Tr.put hb (some v) 40 env i (fun env => argEnvK bad as_ (Nat.succ i) env k) h
  obtain ⟨env', h3, h4⟩ := argEnvK_spec as_ (i + 1) env1 k h1
  refine ⟨env', h3, fun j => ?_⟩
  rw [h4, h2]
  simp only [List.length_cons]
  by_cases e : j = i
  ·subst e
   rw [if_neg (by omega), if_pos rfl, if_pos (by omega), Nat.sub_self]; rfl
  ·by_cases e2 : i + 1 ≤ j ∧ j < i + 1 + as_.length
   ·rw [if_pos e2, if_pos (by omega), show j - i = (j - (i + 1)) + 1 by omega]; rfl
   ·rw [if_neg e2, if_neg e, if_neg (by omega)]
theorem resK_spec {P : Program} {Γ : Ctx} (hΓ : TyOk P Γ) {env : Env} {h : Mem} : ∀ (rs : List ResultVar) (k : List AV → α), T (resK bad Γ env h rs k) → ∃ vs, T (k vs) ∧ ∀ β W a nt, HR Γ.gl β h.get W → SR β env nt a → ∃ ws : List Value, VL β vs ws ∧ (rs.mapM (resF a.tmps)).run P W = .ok ws W
 | [], k, hk => ⟨[], hk, fun β W a nt _ _ => ⟨[], VL.nil β, by simp⟩⟩
 | .tmp t :: rs, k, hk => by
  unfold resK at hk
  split at hk
  ·rename_i v hv
   obtain ⟨vs, h1, h2⟩ := resK_spec hΓ rs _ hk
   refine ⟨v :: vs, h1, fun β W a nt r s => ?_⟩
   obtain ⟨ws, h3, h4⟩ := h2 β W a nt r s
   obtain ⟨y, hy, hr⟩ := s.slot t v hv
   refine ⟨y :: ws, h3.cons hr, ?_⟩
   have h5 : (resF a.tmps (.tmp t)).run P W = .ok y W := by simp [resF, Array.getD_eq_getD_getElem?, hy]
   rw [List.mapM_cons]
   simp only [Sem.run_bind, Sem.run_pure, h5, h4, Result.andThen_ok]
  ·exact absurd hk hb
 | .cell t U :: rs, k, hk => by
  unfold resK at hk
  split at hk
  ·rename_i p hp
   obtain ⟨ti, hti, h1⟩ := tyK_spec hb hk
   obtain ⟨l, h2, hl, hcs⟩ := loadK_spec hb h1
   obtain ⟨v, h3, hv⟩ := asVarK_spec hb h2
   obtain ⟨vs, h4, h5⟩ := resK_spec hΓ rs _ h3
   refine ⟨v :: vs, h4, fun β W a nt r s => ?_⟩
   obtain ⟨ws, h6, h7⟩ := h5 β W a nt r s
   obtain ⟨y, hy, hr⟩ := s.slot t p hp
   obtain ⟨b, o, l', rfl, hvl, hrg⟩ := load_range r hr hcs
   obtain ⟨z, hz, hzr⟩ := run_load (hΓ.ty U ti hti) hvl hrg hl hv
   refine ⟨z :: ws, h6.cons hzr, ?_⟩
   have hld : (loadVar U ⟨b, o, none⟩).run P W = .ok z W := by simpa [Instr.loadAt, Instr.sureAddr] using hz
   have h8 : (resF a.tmps (.cell t U)).run P W = .ok z W := by simp [resF, Array.getD_eq_getD_getElem?, hy, asAddr, hld]
   rw [List.mapM_cons]
   simp only [Sem.run_bind, Sem.run_pure, h8, h7, Result.andThen_ok]
  ·exact absurd hk hb
omit hb in
theorem results_of {P : Program} {fn : Func} {W : World} {tmps : Array Value} {ws : List Value} (h : (fn.results.toList.mapM (resF tmps)).run P W = .ok ws W) : (results fn tmps).run P W = .ok (if h : ws.toArray.size = 1 then ws.toArray[0] else .tuple ws.toArray) W := by
 have : (fn.results.mapM (resF tmps)).run P W = .ok ws.toArray W := by
  rw [← Array.toArray_toList (xs := fn.results), List.mapM_toArray]
  simp [h]
 have e : results fn tmps = (do let vs ← fn.results.mapM (resF tmps); pure (if h : vs.size = 1 then vs[0] else .tuple vs)) := by
  unfold results
  congr 1
 rw [e, Sem.run_bind, this]
 rfl
omit hb in
theorem plain1 {β γ : Be} {v : AV} {y : Value} (h : VR β v y) (hp : plainV1 v = true) : VR γ v y := by
 cases h <;> first | (cases hp; done) | exact .bool _ | exact .int _ _ | exact .str _ _ (by assumption) | exact .nilp | exact .nils | exact .nilf | exact .nili | exact .glo _ _
omit hb in
theorem plainL1_vl {β γ : Be} : ∀ {l : List AV} {l' : List Value}, VL β l l' → plainL1 l = true → VL γ l l'
 | [], l', h, _ => by obtain rfl := h.nil_inv; exact VL.nil γ
 | x :: l, l', h, hp => by
  obtain ⟨y, r, rfl, hy, hr⟩ := h.cons_inv
  have hp' : (Bool.rec (motive := fun _ => Bool) false (plainL1 l) (plainV1 x) : Bool) = true := hp
  cases hx : plainV1 x with
  | false => rw [hx] at hp'; cases hp'
  | true => rw [hx] at hp'; exact (plainL1_vl hr hp').cons (plain1 hy hx)
omit hb in
theorem plain2 {β γ : Be} {v : AV} {y : Value} (h : VR β v y) (hp : plainV2 v = true) : VR γ v y := by
 cases v with
 | agg l =>
  obtain ⟨l', rfl, hl⟩ := h.agg_inv
  have := plainL1_vl (γ := γ) hl hp
  exact .agg _ _ this.1 this.2
 | _ => exact plain1 h hp
omit hb in
theorem plainL2_vl {β γ : Be} : ∀ {l : List AV} {l' : List Value}, VL β l l' → plainL2 l = true → VL γ l l'
 | [], l', h, _ => by obtain rfl := h.nil_inv; exact VL.nil γ
 | x :: l, l', h, hp => by
  obtain ⟨y, r, rfl, hy, hr⟩ := h.cons_inv
  have hp' : (Bool.rec (motive := fun _ => Bool) false (plainL2 l) (plainV2 x) : Bool) = true := hp
  cases hx : plainV2 x with
  | false => rw [hx] at hp'; cases hp'
  | true => rw [hx] at hp'; exact (plainL2_vl hr hp').cons (plain2 hy hx)
omit hb in
theorem plain_vr {β γ : Be} {v : AV} {y : Value} (h : VR β v y) (hp : plainV v = true) : VR γ v y := by
 cases v with
 | tup l =>
  obtain ⟨l', rfl, hl⟩ := h.tup_inv
  have := plainL2_vl (γ := γ) hl hp
  exact .tup _ _ this.1 this.2
 | _ => exact plain2 h hp
theorem callF_sound {P : Program} {Γ : Ctx} (hΓ : TyOk P Γ) (hF : FnOk P Γ) {run : RunK α} (hr : RunOk P Γ T run) : CallOk P Γ.gl T (callF bad Γ run) := fun f as_ h n k hd hk => by
 unfold callF at hk
 split at hk
 ·rename_i x hx
  exact extK_sound hb (hF f _ hx) hd hk
 ·rename_i nt rs code hx
  obtain ⟨fn, hfn, hbody, hname, hnt, hrs⟩ := hF f _ hx
  rw [lenK_eq] at hk
  split at hk
  ·exact absurd hk hb
  ·rename_i hle
   have hle := Nat.le_of_ble_eq_true hle
   obtain ⟨env, h1, henv⟩ := argEnvK_spec hb as_ 0 .e _ hk
   obtain ⟨e, env', h', n', lg', h2, m', hw⟩ := hr code n nt h.get env h n [] _ (MF.start hd) h1
   have hcan : ∀ args w, (callFunc f args).run P w = .ok (.enter f args) w := fun args w => by
    have hn' : ¬ fn.name = "runtime.NumGoroutine" := by simpa using hname
    unfold callFunc
    simp [hfn, hn', hbody]
   have h3 : e ≠ .ext 0 ∧ (∀ i, e ≠ .ext i) ∧ T (resK bad Γ env' h' rs fun l => endK k h n h' n' lg' (oneOf l)) := by
    cases e with
    | ext i => exact absurd h2 hb
    | nrm => exact ⟨fun e => (by cases e), fun i e => (by cases e), h2⟩
    | ret => exact ⟨fun e => (by cases e), fun i e => (by cases e), h2⟩
   obtain ⟨vs, h4, hres⟩ := resK_spec hb hΓ rs _ h3.2.2
   have core : ∀ (β : Be) (W : World) (a : Act) (o : Oper) (ys : List Value) (K : Act → World → Prop), HR Γ.gl β h.get W → VL β as_ ys → Fresh β n → (∀ β' W' y, Post Γ.gl β h.get W n n' lg' β' h'.get W' → VR β' (oneOf vs) y → K (a.put o.dst y) W') → o.upon P a K QF ((callFunc f ys.toArray).run P W) := fun β W a o ys K r hv hf hK => by
    rw [hcan, Oper.upon_enter]
    have hlen : ys.length ≤ nt := by rw [← hv.1]; exact hle
    have hsr : SR β env nt { tmps := ys.toArray ++ Array.replicate (fn.ntmps - ys.toArray.size) undef, defers := [] } := by
     refine ⟨by simp [hnt]; omega, rfl, fun t v ht => ?_⟩
     rw [henv] at ht
     by_cases e : 0 ≤ t ∧ t < 0 + as_.length
     ·rw [if_pos e, Nat.sub_zero] at ht
      obtain ⟨y, hy, hr⟩ := hv.get ht
      have hlt : t < ys.length := (List.getElem?_eq_some_iff.1 hy).1
      exact ⟨y, by rw [Array.getElem?_append_left (by simpa using hlt)]; simpa using hy, hr⟩
     ·rw [if_neg e] at ht; cases ht
    refine calls_of_wp hfn hbody (wp_mono ((hw β W β W _ (FI.start hd r hf) hsr).1) ?_)
    rintro e' a' W' ⟨rfl, β', fi, sr⟩
    obtain ⟨ws, hws, hrun⟩ := hres β' W' a' nt fi.hr sr
    have hro := results_of (fn := fn) (tmps := a'.tmps) (P := P) (W := W') (ws := ws) (by rw [hrs]; exact hrun)
    have fin : a'.defers = [] ∧ ∃ v, (results fn a'.tmps).run P W' = .ok v W' ∧ K (a.put o.dst v) W' :=
     ⟨sr.defers, _, hro, hK β' W' _ (fi.post m' hf) (oneOf_vr hws)⟩
    cases e with
    | ext i => exact absurd rfl (h3.2.1 i)
    | nrm => exact fin
    | ret => exact fin
   unfold endK at h4
   split at h4
   ·rename_i hpl
    refine ⟨_, h, n, [], h4, Facts.refl _ _, fun β W a o ys r hv hf K hK => core β W a o ys K r hv hf fun β' W' y hp hv' => ?_⟩
    have hkept : ∀ k, k < W.heap.size → W'.heap[k]? = W.heap[k]? := fun k hk => hp.kept k hk (fun i hi => by cases hi)
    refine hK β W' y ⟨fun _ _ => rfl, ⟨fun i b hb => (r.at_ i b hb).mono (fun _ _ h => h) fun p hp' => hkept p.b ?_, r.inj, fun g cs hg => ?_, r.sep⟩, hp.os, hp.tape, hp.output, hp.size, fun k hk _ => hkept k hk, fun i h1 h2 => by omega⟩ (plain_vr hv' hpl)
    ·obtain ⟨q, hq, hl⟩ := (r.at_ i b hb).place
     rw [hp'] at hq; cases hq; exact hl
    ·obtain ⟨c, U, fz, h5, h6⟩ := r.glob g cs hg
     exact ⟨c, U, fz, (hkept g (r.globLt (by rw [hg]; simp))).trans h5, h6⟩
   ·exact ⟨_, h', n', _, h4, m'.facts hd, fun β W a o ys r hv hf K hK => core β W a o ys K r hv hf hK⟩
 ·exact absurd hk hb
theorem bodyK_sound {P : Program} (hm : P.follows .mixedOrders = true) {Γ : Ctx} (hΓ : TyOk P Γ) (hF : FnOk P Γ) {run : RunK α} (hr : RunOk P Γ T run) : RunOk P Γ T (bodyK bad Γ run) := fun c fb nt h0 env h n lg k m hk => by
 have hc := callF_sound hb hΓ hF hr
 have notLoop : ∀ {c : Code} {Q : Exit → Act → World → Prop} {a : Act} {W : World}, (∀ b, c ≠ .loop b) → c.wp P Q a W → c.wp P Q a W ∧ ∀ b, c = .loop b → LoopWp P b Q a W := fun h1 h2 => ⟨h2, fun b e => absurd e (h1 b)⟩
 unfold bodyK at hk
 split at hk
 ·exact ⟨.nrm, env, h, n, lg, hk, m, fun β0 W0 β W a fi sr => notLoop (fun b e => by cases e) (wp_skip ⟨rfl, β, fi, sr⟩)⟩
 ·exact ⟨.nrm, env, h, n, lg, hk, m, fun β0 W0 β W a fi sr => notLoop (fun b e => by cases e) (wp_label ⟨rfl, β, fi, sr⟩)⟩
 ·rename_i id ops
  obtain ⟨env', h', n', lg', h1, m', hw⟩ := seqK_sound hb hΓ hc ops.toList env h n lg _ m hk
  refine ⟨.nrm, env', h', n', lg', h1, m', fun β0 W0 β W a fi sr => notLoop (fun b e => by cases e) ?_⟩
  have := wp_region_lit (id := id) (hw β0 W0 β W a fi sr)
  rw [Array.toArray_toList] at this
  exact this
 ·rename_i id ops
  split at hk
  ·rename_i t ht
   obtain ⟨env', h', n', lg', h1, m', hw⟩ := drawK_sound hb hm hΓ hc ht env h n lg _ m hk
   refine ⟨.nrm, env', h', n', lg', h1, m', fun β0 W0 β W a fi sr => notLoop (fun b e => by cases e) ?_⟩
   have := hw β0 W0 β W a id fi sr
   rw [Array.toArray_toList] at this
   exact this
  ·exact absurd hk hb
 ·rename_i x y
  obtain ⟨e, env1, h1, n1, lg1, hk1, m1, hw1⟩ := hr x fb nt h0 env h n lg _ m hk
  cases e with
  | nrm =>
   obtain ⟨e2, env2, h2, n2, lg2, hk2, m2, hw2⟩ := hr y fb nt h0 env1 h1 n1 lg1 _ m1 hk1
   refine ⟨e2, env2, h2, n2, lg2, hk2, m2, fun β0 W0 β W a fi sr => notLoop (fun b e => by cases e) (wp_seq (wp_mono (hw1 β0 W0 β W a fi sr).1 ?_))⟩
   rintro e' a' W' ⟨rfl, β', fi', sr'⟩
   exact (hw2 β0 W0 β' W' a' fi' sr').1
  | ext i =>
   refine ⟨.ext i, env1, h1, n1, lg1, hk1, m1, fun β0 W0 β W a fi sr => notLoop (fun b e => by cases e) (wp_seq (wp_mono (hw1 β0 W0 β W a fi sr).1 ?_))⟩
   rintro e' a' W' ⟨rfl, hp⟩
   exact ⟨rfl, hp⟩
  | ret =>
   refine ⟨.ret, env1, h1, n1, lg1, hk1, m1, fun β0 W0 β W a fi sr => notLoop (fun b e => by cases e) (wp_seq (wp_mono (hw1 β0 W0 β W a fi sr).1 ?_))⟩
   rintro e' a' W' ⟨rfl, hp⟩
   exact ⟨rfl, hp⟩
 ·rename_i c x y
  obtain ⟨v, hv, h1⟩ := oK_spec hb hk
  cases v <;> try exact absurd h1 hb
  rename_i t
  have hev : ∀ β a, SR β env nt a → a.eval c = .bool t := fun β a sr => (hv.vr (sr.sees #[c]) (x := c) (by simp)).bool_inv
  cases t with
  | true =>
   obtain ⟨e, env1, h2, n1, lg1, hk1, m1, hw1⟩ := hr x fb nt h0 env h n lg _ m h1
   exact ⟨e, env1, h2, n1, lg1, hk1, m1, fun β0 W0 β W a fi sr => notLoop (fun b e => by cases e) (wp_cond_true (hev β a sr) (hw1 β0 W0 β W a fi sr).1)⟩
  | false =>
   obtain ⟨e, env1, h2, n1, lg1, hk1, m1, hw1⟩ := hr y fb nt h0 env h n lg _ m h1
   exact ⟨e, env1, h2, n1, lg1, hk1, m1, fun β0 W0 β W a fi sr => notLoop (fun b e => by cases e) (wp_cond_false (hev β a sr) (hw1 β0 W0 β W a fi sr).1)⟩
 ·rename_i id x
  obtain ⟨e, env1, h1, n1, lg1, hk1, m1, hw1⟩ := hr x fb nt h0 env h n lg _ m hk
  cases e with
  | ext j =>
   simp only at hk1
   split at hk1
   ·rename_i hj
    have hj := Nat.eq_of_beq_eq_true hj
    refine ⟨.nrm, env1, h1, n1, lg1, hk1, m1, fun β0 W0 β W a fi sr => notLoop (fun b e => by cases e) (wp_block (wp_mono (hw1 β0 W0 β W a fi sr).1 ?_))⟩
    rintro e' a' W' ⟨rfl, hp⟩
    simp only [exOf, Exit.inBlock, hj, if_true]
    exact ⟨rfl, hp⟩
   ·rename_i hj
    have hj : j ≠ id := fun e => by rw [e, Nat.beq_refl] at hj; cases hj
    refine ⟨.ext j, env1, h1, n1, lg1, hk1, m1, fun β0 W0 β W a fi sr => notLoop (fun b e => by cases e) (wp_block (wp_mono (hw1 β0 W0 β W a fi sr).1 ?_))⟩
    rintro e' a' W' ⟨rfl, hp⟩
    simp only [exOf, Exit.inBlock, hj, if_false]
    exact ⟨rfl, hp⟩
  | nrm =>
   refine ⟨.nrm, env1, h1, n1, lg1, hk1, m1, fun β0 W0 β W a fi sr => notLoop (fun b e => by cases e) (wp_block (wp_mono (hw1 β0 W0 β W a fi sr).1 ?_))⟩
   rintro e' a' W' ⟨rfl, hp⟩
   exact ⟨rfl, hp⟩
  | ret =>
   refine ⟨.ret, env1, h1, n1, lg1, hk1, m1, fun β0 W0 β W a fi sr => notLoop (fun b e => by cases e) (wp_block (wp_mono (hw1 β0 W0 β W a fi sr).1 ?_))⟩
   rintro e' a' W' ⟨rfl, hp⟩
   exact ⟨rfl, hp⟩
 ·rename_i x
  obtain ⟨e, env1, h1, n1, lg1, hk1, m1, hw1⟩ := hr x fb nt h0 env h n lg _ m hk
  cases e with
  | nrm =>
   obtain ⟨e2, env2, h2, n2, lg2, hk2, m2, hw2⟩ := hr (.loop x) fb nt h0 env1 h1 n1 lg1 _ m1 hk1
   have key : ∀ β0 W0 β W a, FI Γ.gl β0 W0 fb lg β h.get W n → SR β env nt a → LoopWp P x (CodePost Γ.gl β0 W0 fb nt e2 env2 h2.get n2 lg2) a W := fun β0 W0 β W a fi sr => by
    refine loopWp_of (wp_mono (hw1 β0 W0 β W a fi sr).1 ?_)
    rintro e' a' W' ⟨rfl, β', fi', sr'⟩
    exact (hw2 β0 W0 β' W' a' fi' sr').2 x rfl
   refine ⟨e2, env2, h2, n2, lg2, hk2, m2, fun β0 W0 β W a fi sr => ⟨wp_of_loopWp (key β0 W0 β W a fi sr), fun b hbe => ?_⟩⟩
   cases hbe
   exact key β0 W0 β W a fi sr
  | ext i =>
   have key : ∀ β0 W0 β W a, FI Γ.gl β0 W0 fb lg β h.get W n → SR β env nt a → LoopWp P x (CodePost Γ.gl β0 W0 fb nt (.ext i) env1 h1.get n1 lg1) a W := fun β0 W0 β W a fi sr => by
    refine loopWp_of (wp_mono (hw1 β0 W0 β W a fi sr).1 ?_)
    rintro e' a' W' ⟨rfl, hp⟩
    exact ⟨rfl, hp⟩
   refine ⟨.ext i, env1, h1, n1, lg1, hk1, m1, fun β0 W0 β W a fi sr => ⟨wp_of_loopWp (key β0 W0 β W a fi sr), fun b hbe => ?_⟩⟩
   cases hbe
   exact key β0 W0 β W a fi sr
  | ret =>
   have key : ∀ β0 W0 β W a, FI Γ.gl β0 W0 fb lg β h.get W n → SR β env nt a → LoopWp P x (CodePost Γ.gl β0 W0 fb nt .ret env1 h1.get n1 lg1) a W := fun β0 W0 β W a fi sr => by
    refine loopWp_of (wp_mono (hw1 β0 W0 β W a fi sr).1 ?_)
    rintro e' a' W' ⟨rfl, hp⟩
    exact ⟨rfl, hp⟩
   refine ⟨.ret, env1, h1, n1, lg1, hk1, m1, fun β0 W0 β W a fi sr => ⟨wp_of_loopWp (key β0 W0 β W a fi sr), fun b hbe => ?_⟩⟩
   cases hbe
   exact key β0 W0 β W a fi sr
 ·rename_i x
  obtain ⟨e, env1, h1, n1, lg1, hk1, m1, hw1⟩ := hr x fb nt h0 env h n lg _ m hk
  refine ⟨e, env1, h1, n1, lg1, hk1, m1, fun β0 W0 β W a fi sr => notLoop (fun b e => by cases e) (wp_scope_straight (wp_mono (hw1 β0 W0 β W a fi sr).1 ?_))⟩
  rintro e' a' W' ⟨rfl, hp⟩
  cases e <;> exact ⟨rfl, hp⟩
 ·rename_i id
  exact ⟨.ext id, env, h, n, lg, hk, m, fun β0 W0 β W a fi sr => notLoop (fun b e => by cases e) (wp_exit ⟨rfl, β, fi, sr⟩)⟩
 ·exact ⟨.ret, env, h, n, lg, hk, m, fun β0 W0 β W a fi sr => notLoop (fun b e => by cases e) (wp_ret ⟨rfl, β, fi, sr⟩)⟩
 ·exact absurd hk hb
theorem run_sound {P : Program} (hm : P.follows .mixedOrders = true) {Γ : Ctx} (hΓ : TyOk P Γ) (hF : FnOk P Γ) : ∀ fuel, RunOk P Γ T (run bad Γ fuel)
 | 0 => fun c fb nt h0 env h n lg k m hk => absurd hk hb
 | fuel + 1 => bodyK_sound hb hm hΓ hF (run_sound hm hΓ hF fuel)
end
theorem exec_sound {P : Program} (hm : P.follows .mixedOrders = true) {Γ : Ctx} (hΓ : TyOk P Γ) (hF : FnOk P Γ) {fuel : Nat} {f : FuncId} {fe : FE} (hf : Γ.fn f = some (.body fe)) {v : AV} {p : AV → Bool} (hp : ∀ u, p u = true → u = v) (hrun : exec false Γ fuel f [] p = true) {W : World}
  (hg : ∀ g cs, Γ.gl g = some cs → ∃ c U fz, W.heap[g]? = some (.cells c U fz) ∧ VL (fun _ => none) cs (c.toList.take cs.length)) :
  Calls P f #[] W fun e W' => (∃ β y, e = .returned y ∧ VR β v y) ∧ Below W.heap.size W W' := by
 obtain ⟨u, h', n', tl, h1, hF', hS⟩ := callF_sound (T := fun b : Bool => b = true) (bad := false) (by simp) hΓ hF (run_sound (by simp) hm hΓ hF fuel) f [] .e 0 _ (fun i _ => rfl) hrun
 have hu := hp u h1
 subst hu
 have hr : HR Γ.gl (fun _ => none) (Tr.e : Mem).get W := ⟨fun i b hb => (by cases hb), fun i j p q hi => (by cases hi), hg, fun i p hi => (by cases hi)⟩
 have htl : tl = [] := by
  cases tl with
  | nil => rfl
  | cons t r => have := (hF'.old t (List.mem_cons_self ..)).1; omega
 subst htl
 have := hS (fun _ => none) W { tmps := #[undef], defers := [] } { dst := some 0, op := .move (.const undef), type := 0, pos := "", after := #[], guard := none } [] hr (VL.nil _) (fun _ _ => rfl) (fun a' W' => ∃ β y, a'.tmps = #[y] ∧ VR β u y ∧ Below W.heap.size W W')
  (fun β' W' y hp hv => ⟨β', y, by simp [Act.put], hv, ⟨hp.os, hp.tape, hp.output, hp.size, fun k hk => hp.kept k hk (fun i hi => (by cases hi))⟩⟩)
 obtain ⟨fn, hfn, hbody, hname, _⟩ := hF f _ hf
 have hn' : ¬ fn.name = "runtime.NumGoroutine" := by simpa using hname
 rw [show (callFunc f ([] : List Value).toArray).run P W = .ok (.enter f #[]) W by unfold callFunc; simp [hfn, hn', hbody], Oper.upon_enter] at this
 refine this.mono fun e W' he => ?_
 cases e with
 | returned y =>
  obtain ⟨β, y', h1, h2, h3⟩ := he
  simp [Act.put] at h1
  subst h1
  exact ⟨⟨β, y, rfl, h2⟩, h3⟩
 | panicked c => exact he.elim
 | outgrown => obtain ⟨_, _, h⟩ := he; exact h.elim
theorem ext_add64 : ExtOk Tryz.prog 140 .add64 := fun x y c w hc => by
 rw [run_callFunc_extern Tryz.func140 (by kernel_rfl) (by kernel_rfl) (by kernel_rfl) (e := add64Entry) (by kernel_rfl), run_add64 x y c (by omega) (by omega) (by omega) (by omega)]
 simp only [Result.andThen]
 rfl
theorem ext_sub64 : ExtOk Tryz.prog 141 .sub64 := fun x y b w hb => by
 rw [run_callFunc_extern Tryz.func141 (by kernel_rfl) (by kernel_rfl) (by kernel_rfl) (e := sub64Entry) (by kernel_rfl), run_sub64 x y b hb]
 rfl
theorem ext_same : ExtOk Tryz.prog 195 .same := fun v w => by
 rw [run_callFunc_extern Tryz.func195 (by kernel_rfl) (by kernel_rfl) (by kernel_rfl) (e := Extern.AbiNoEscape.same) (by kernel_rfl), Lib.run_noEscape]
 rfl
theorem ext_mkNoZero : ExtOk Tryz.prog 196 (.mkNoZero 5) := fun m w hm => by
 obtain ⟨cs, hrun, hle, _⟩ := Lib.run_makeNoZero (P := Tryz.prog) w #[3] 181 5 Tryz.underlying181 m (by omega)
 refine ⟨cs.size, cs.toList, w.drew.drew.alloc (.cells cs 5), hle, by simp, ?_, ⟨rfl, rfl, rfl, (by show w.heap.size ≤ (w.heap.push _).size; simp), fun k hk => ?_⟩, ?_⟩
 ·rw [run_callFunc_extern Tryz.func196 (by kernel_rfl) (by kernel_rfl) (by kernel_rfl) (e := Extern.BytealgMakeNoZero.makeNoZero #[3] #[181]) (by kernel_rfl), hrun]
  rfl
 ·show (w.heap.push _)[k]? = _
  rw [Array.getElem?_push, if_neg (by omega)]
 ·show (w.heap.push _)[w.heap.size]? = _
  simp
theorem Tryz.sizeBuilder : (Tryz.prog.info? 198).map (·.size) = some 2 := by kernel_rfl
theorem Tryz.liesBuilder : liesAt Tryz.prog Tryz.prog.depth 198 (2 / Tryz.prog.cellsOf 198) 0 198 1 = true := by kernel_rfl
set_option maxRecDepth 100000 in
set_option maxHeartbeats 400000 in
theorem bldCheck_used (b : Nat) (w : World) (h0 : w.cell? ⟨b, 0, none⟩ = some (.pointer (some ⟨b, 0, none⟩))) :
  Calls Tryz.prog 178 #[.pointer (some ⟨b, 0, none⟩)] w fun e w' => e = .returned (.tuple #[]) ∧ w = w' := by
 obtain ⟨j, hj, _⟩ := Option.map_eq_some_iff.1 Tryz.sizeBuilder
 go_enter Tryz.func178, Tryz.ntmps178
 go_wp2
 rw [Lib.run_neq_ptr_same w _ Tryz.underlying196 hj]
 go_wp2
 go_end0
 exact ⟨rfl, rfl⟩
set_option maxRecDepth 100000 in
set_option maxHeartbeats 400000 in
theorem bldCheck_fresh (b : Nat) (w : World) (h0 : w.cell? ⟨b, 0, none⟩ = some (.pointer none)) (hsh : w.shape? b = some (198, 2)) (hfz : w.frozen? ⟨b, 0, none⟩ = false) :
  Calls Tryz.prog 178 #[.pointer (some ⟨b, 0, none⟩)] w fun e w' => e = .returned (.tuple #[]) ∧ w' = w.setCell ⟨b, 0, none⟩ (.pointer (some ⟨b, 0, none⟩)) := by
 obtain ⟨j, hj, hjs⟩ := Option.map_eq_some_iff.1 Tryz.sizeBuilder
 go_enter Tryz.func178, Tryz.ntmps178
 go_wp2
 rw [Lib.run_to_unsafe w ⟨b, 0, none⟩ Tryz.underlying196 Tryz.underlying236 hj (by rw [hjs]; decide) hsh (Nat.zero_lt_succ 1)]
 simp only [Result.andThen]
 rw [Oper.upon_value]
 go_wp2
 rw [run_callFunc_extern Tryz.func195 (by kernel_rfl) (by kernel_rfl) (by kernel_rfl) (e := Extern.AbiNoEscape.same) (by kernel_rfl), Lib.run_noEscape]
 simp only [Result.andThen]
 rw [Oper.upon_value]
 go_wp2
 rw [Lib.run_from_unsafe w ⟨b, 0, none⟩ Tryz.underlying236 Tryz.underlying196 hj hsh Tryz.liesBuilder]
 simp only [Result.andThen]
 rw [Oper.upon_value]
 go_wp2
 go_end0
 exact ⟨rfl, rfl⟩
theorem ext_copyCheck : ExtOk Tryz.prog 178 (.copyCheck 198) :=
 ⟨fun args w => by unfold callFunc; simp [Tryz.func178, Tryz.f178], fun b w h => bldCheck_used b w h, fun b w h1 h2 h3 => bldCheck_fresh b w h1 h2 h3⟩
end Go.Proofs.YtejljnlfgiifoaaGreatDoor.VM
namespace Go.Proofs.YtejljnlfgiifoaaGreatDoor
open Go.RowKit Go.Shelf
attribute [local go_sem] Oper.semAt_some
def uptoF {α : Type} (f : Nat → α) (k : Nat) : List α := (List.range k).map f
theorem uptoF_succ {α : Type} (f : Nat → α) (k : Nat) : uptoF f (k + 1) = uptoF f k ++ [f k] := by simp [uptoF, List.range_succ]
theorem uptoF_length {α : Type} (f : Nat → α) (k : Nat) : (uptoF f k).length = k := by simp [uptoF]
theorem uptoF_all (zs : List Int) : uptoF (fun j => zs[j]?.getD 0) zs.length = zs := by
 apply List.ext_getElem
 ·simp [uptoF]
 ·intro i h1 h2
  simp [uptoF, h2]
theorem uptoF_take (zs : List Int) {k : Nat} (hk : k ≤ zs.length) : uptoF (fun j => zs[j]?.getD 0) k = zs.take k := by
 apply List.ext_getElem
 ·simp [uptoF, hk]
 ·intro i h1 h2
  have : i < zs.length := by simp [uptoF] at h1; omega
  simp [uptoF, this]
set_option maxRecDepth 100000 in
set_option maxHeartbeats 2000000 in
theorem values1_in (F : Fence) (n : Nat) (h7 : F.fn 113) (hro : F.round = none) (hn : 1 ≤ n) (l Bs n₀ b off len cap : Nat) (zs : List Int) (hreach : len * 8 ≤ 140737488351232) (hb : b < n₀) (J Jx : List Int → World → Prop)
  (hY : ∀ pre x W, J pre W → pre.length < len → YieldAt F (n - 1) Tryz.prog l #[.int .i64 x] W fun e W' =>
   (e = .returned (.bool true) ∧ J (pre ++ [x]) W' ∧ Below n₀ W W') ∨ (e = .returned (.bool false) ∧ Jx (pre ++ [x]) W'))
  (W : World) (hBs : W.cell? ⟨Bs, 0, none⟩ = some (.slice (some ⟨b, off, none⟩) len cap)) (hc : ∀ j, j < len → W.cell? ⟨b, off + j, none⟩ = some (.int .i64 (zs[j]?.getD 0))) (h0 : J [] W) :
  CallsIn F n Tryz.prog 113 #[.func (.yield l) #[] #[], .pointer (some ⟨Bs, 0, none⟩)] W fun e W' => (∃ v, e = .returned v) ∧
   ((∃ ys, ys = uptoF (fun j => zs[j]?.getD 0) len ∧ J ys W') ∨ (∃ pre, (∃ k, k ≤ len ∧ pre = uptoF (fun j => zs[j]?.getD 0) k) ∧ Jx pre W')) := by
 refine callsIn_of_wp Tryz.func113 rfl h7 ?_ hro
 simp only [Tryz.ntmps113, List.size_toArray, List.length_cons, List.length_nil, Nat.reduceAdd, Nat.reduceSub, Array.replicate_succ, Array.replicate_zero, List.push_toArray, List.append_toArray, List.nil_append, List.cons_append]
 gi_wp2
 gi_loopw [7] (fun i wr => ∃ k : Nat, k ≤ len ∧ i = .int .i64 k ∧ J (uptoF (fun j => zs[j]?.getD 0) k) wr ∧ Below n₀ W wr)
  (fun i _ => len - (intOf i).toNat)
 case atStart => exact ⟨0, Nat.zero_le _, rfl, h0, Below.refl _ _⟩
 case round =>
  obtain ⟨k, hk, rfl, hJs, hnx⟩ := hrel
  have hcx : k < len → wr.cell? ⟨b, off + k, none⟩ = some (.int .i64 (zs[k]?.getD 0)) := fun h => (hnx.cell (p := ⟨b, off + k, none⟩) hb).trans (hc k h)
  by_cases hlt : k < len
  ·obtain ⟨fn, tmps, assign, body, hy, hR⟩ := hY _ (zs[k]?.getD 0) wr hJs (by rw [uptoF_length]; exact hlt)
   have hcx' := hcx hlt
   gi_wp2
   refine hR.mono ?_
   rintro e W3 (⟨rfl, hJ3, hk3⟩ | ⟨rfl, hJx3⟩)
   ·gi_wp2
    go_roundw
    case rel => exact ⟨k + 1, by omega, by simp, by rw [uptoF_succ]; exact hJ3, hnx.trans hk3⟩
    case measure => simp [intOf]; omega
   ·gi_wp2
    refine bodyPost_ret (results_none rfl _ _ _) rfl ?_
    exact ⟨⟨_, rfl⟩, .inr ⟨_, ⟨k + 1, by omega, (uptoF_succ _ _).symm⟩, hJx3⟩⟩
  ·obtain rfl : k = len := by omega
   gi_wp2
   go_end0
   exact ⟨⟨_, rfl⟩, .inl ⟨_, rfl, hJs⟩⟩
set_option maxRecDepth 100000 in
set_option maxHeartbeats 1000000 in
theorem values1_nil_in (F : Fence) (n : Nat) (h7 : F.fn 113) (hro : F.round = none) (l Bs : Nat) (a : Option Addr) (cap : Nat) (J : List Int → World → Prop) (W : World) (hBs : W.cell? ⟨Bs, 0, none⟩ = some (.slice a 0 cap)) (h0 : J [] W) :
  CallsIn F n Tryz.prog 113 #[.func (.yield l) #[] #[], .pointer (some ⟨Bs, 0, none⟩)] W fun e W' => (∃ v, e = .returned v) ∧ J [] W' := by
 refine callsIn_of_wp Tryz.func113 rfl h7 ?_ hro
 simp only [Tryz.ntmps113, List.size_toArray, List.length_cons, List.length_nil, Nat.reduceAdd, Nat.reduceSub, Array.replicate_succ, Array.replicate_zero, List.push_toArray, List.append_toArray, List.nil_append, List.cons_append]
 gi_wp2
 gi_loopw [7] (fun i wr => i = .int .i64 0 ∧ J [] wr) (fun _ _ => 0)
 case atStart => exact ⟨rfl, h0⟩
 case round =>
  obtain ⟨rfl, hJs⟩ := hrel
  gi_wp2
  go_end0
  exact ⟨⟨_, rfl⟩, hJs⟩
theorem values_stops (F : Fence) (n : Nat) (h7 : F.fn 113) (hro : F.round = none) (hn : 1 ≤ n) (Bs n₀ : Nat) (sv : Value) (zs : List Int) (hreach : zs.length * 8 ≤ 140737488351232) (w : World) (hBs : Bs < w.heap.size) (hn₀ : n₀ ≤ w.heap.size)
  (hc : w.cell? ⟨Bs, 0, none⟩ = some sv) (hI : Sl i64 w sv zs) (hlow : ∀ b off len cap, sv = .slice (some ⟨b, off, none⟩) len cap → zs ≠ [] → b < n₀) :
  SeqStopsK F n Tryz.prog 113 #[.pointer (some ⟨Bs, 0, none⟩)] (fun x : Int => #[Value.int .i64 x]) (Below n₀) (fun ys => ys = zs) (fun pre => pre <+: zs) zs.length w := fun l J Jx W hW _ _ hY h0 => by
 have hc' := (hW.cell (p := ⟨Bs, 0, none⟩) hBs).trans hc
 rcases hI.below hW with ⟨rfl, a, cap, rfl⟩ | ⟨b, off, cap, rfl, hb, hcs⟩
 ·exact (values1_nil_in F n h7 hro l Bs a cap J W hc' h0).mono fun e W' ⟨he, hj⟩ => ⟨he, .inl ⟨_, rfl, hj⟩⟩
 ·by_cases hz : zs = []
  ·subst hz
   exact (values1_nil_in F n h7 hro l Bs _ cap J W hc' h0).mono fun e W' ⟨he, hj⟩ => ⟨he, .inl ⟨_, rfl, hj⟩⟩
  ·refine (values1_in F n h7 hro hn l Bs n₀ b off zs.length cap zs hreach (hlow _ _ _ _ rfl hz) J Jx hY W hc' (fun j hj => by rw [hcs j hj]; simp [hj]) h0).mono ?_
   rintro e W' ⟨he, ⟨ys, rfl, hj⟩ | ⟨pre, ⟨k, hk, rfl⟩, hj⟩⟩
   ·exact ⟨he, .inl ⟨_, uptoF_all zs, hj⟩⟩
   ·exact ⟨he, .inr ⟨_, by rw [uptoF_take zs hk]; exact List.take_prefix _ _, hj⟩⟩
theorem Tryz.infoInt' : (Tryz.prog.info? 3).map (fun i => (i.zero, i.size, i.bytes)) = some (some (.int .i64 0), 1, 8) := by kernel_rfl
set_option maxRecDepth 100000 in
set_option maxHeartbeats 2000000 in
theorem appendSeq_in (F : Fence) (n : Nat) (h3 : F.fn 156) (h5 : F.fn 113) (hro : F.round = none) (hn : 3 ≤ n) (Bs : Nat) (sv : Value) (xs : List Int) (hbytes : xs.length * 8 ≤ 140737488351232) (w : World)
  (hBs : Bs < w.heap.size) (hc0 : w.cell? ⟨Bs, 0, none⟩ = some sv) (hI : Sl i64 w sv xs) :
  CallsIn F n Tryz.prog 156 #[.slice none 0 0, .func (.func 113) #[] #[.pointer (some ⟨Bs, 0, none⟩)]] w fun e W' => ∃ v, e = .returned v ∧ W'.ownsRow w.heap.size 3 1 v xs.length (xs.map (Value.int .i64)) ∧ (v = .slice none 0 0 ↔ xs = []) ∧ Below w.heap.size w W' := by
 have h1 : 1 ≤ n := by omega
 obtain ⟨i0, hi, hz0, hz1, hz2⟩ := info_parts Tryz.infoInt'
 refine callsIn_of_wp_marks Tryz.func156 rfl h3 ?_ hro
 simp only [Tryz.ntmps156, List.size_toArray, List.length_cons, List.length_nil, Nat.reduceAdd, Nat.reduceSub, Array.replicate_succ, Array.replicate_zero, List.push_toArray, List.append_toArray, List.nil_append, List.cons_append]
 gi_wp2
 have bO := Boxed.new w 22 (.slice none 0 0)
 have hB0 : Below w.heap.size w (w.alloc (.cells #[.slice none 0 0] 22)) := (Below.refl _ w).alloc (Nat.le_refl _) _
 have hmax : xs.length ≤ maxLen := by unfold maxLen; omega
 refine wpIn_rangeFunc_ownG hro h1 (gf := 113) (lb := #[.pointer (some ⟨Bs, 0, none⟩)]) rfl h5 (enters_of Tryz.func113 (by kernel_rfl) rfl)
  (values_stops F (n - 1) h5 hro (by omega) Bs w.heap.size sv xs hbytes _ (by simp; omega) (by simp) ((hB0.cell (p := ⟨Bs, 0, none⟩) hBs).trans hc0) (hI.below hB0) (fun b off len cap e hne => by
   rcases hI with ⟨hx, _⟩ | ⟨b', off', cap', e', hb', _⟩
   ·exact absurd hx hne
   ·rw [e'] at e; cases e; exact hb')) belowK_t (belowK_b (by simp)) (Below.refl _ _) (fun _ => rfl)
  (fun pre W => (∃ v, Boxed W w.heap.size 22 v ∧ W.ownsRow w.heap.size 3 1 v pre.length (pre.map (Value.int .i64)) ∧ (v = .slice none 0 0 ↔ pre = [])) ∧ Below w.heap.size w W)
  (fun _ _ _ => False)
  (OwnFrom.and (Own.from (holdsRow_own w.heap.size w.heap.size 22 3 1 (fun pre => pre.length) (fun pre => pre.map (Value.int .i64)) (fun pre v => v = .slice none 0 0 ↔ pre = [])) _) (ownFrom_below (Nat.le_refl _) (by simp)))
  (fun _ _ _ _ _ hs _ _ => hs)
  ⟨⟨_, bO, World.ownsRow_nil _ _ _ _, by simp⟩, hB0⟩
  (fun x => { tmps := #[.slice none 0 0, .func (.func 113) #[] #[.pointer (some ⟨Bs, 0, none⟩)], .pointer (some ⟨w.heap.size, 0, none⟩), undef, .slice none 0 0, .int .i64 x, .func (.func 113) #[] #[.pointer (some ⟨Bs, 0, none⟩)], .int .i64 x, undef, undef, undef, undef, undef], defers := [] }) ?assign ?body ?done ?stop
 case assign =>
  intro l x W K hK
  gi_wp2
  exact hK
 case body =>
  rintro l pre x W ⟨⟨v, hv, hrow, hnil⟩, hB⟩ hlt
  have hc := hv.cell
  gi_wp2_with (gi_at_builtin; refine wpListIn_append_own _ rfl _ _ 22 rfl w.heap.size 3 i0 (.int .i64 0) 1 8 Tryz.underlying22 hi hz0 hz1 hz2 rfl (by decide) _ _ _ rfl (hrow.alloc _) ⟨W.heap.size, 0, none⟩ 1 1 [.int .i64 x] rfl rfl (cell_one_new _ _ _) (by simp [Value.oneCell']) (by omega) (by omega) (by have := hB.size; simp; omega) ?_; intro v' w1 hown' hgrow _; obtain ⟨g', cap', rfl⟩ := ownsRow_succ hown'; obtain ⟨hv1, hv2, hr2, hk2, hb2⟩ := hv.appended (by decide) hrow hB.size (Nat.le_refl _) hown' hgrow; have hc1 := hv1.cell; have hf1 := hv1.frozen)
  exact ⟨hk2.from _, hb2, ⟨_, hv2, by simpa using hr2, by simp⟩, hB.trans hb2⟩
 case done =>
  rintro D ys W hD rfl ⟨⟨v, hv, hrow, hnil⟩, hB⟩ hK
  have hc := hv.cell
  gi_wp2
  refine ⟨by simp, .inl ⟨_, _, rfl, run_takeDeferred hK, ?_⟩⟩
  exact ⟨_, results_tmp rfl _ _ _, v, rfl, ownsRow_putObj hrow _ hK rfl, hnil, hB.trans (belowK_b (w := w) (Nat.le_refl _) W D _ _ (by simp at hD; omega) hK rfl rfl)⟩
 case stop =>
  rintro D c pre W _ _ h _
  exact h.elim
namespace VM
open Go Go.RowKit
noncomputable def allInt (l : List AV) : Bool := List.rec (motive := fun _ => Bool) true (fun x _ ih => match x with
 | .int .i64 _ => ih
 | _ => false) l
theorem allInt_spec : ∀ {l : List AV}, allInt l = true → ∃ xs : List Int, l = xs.map (AV.int .i64)
 | [], _ => ⟨[], rfl⟩
 | .int .i64 z :: l, h => by
  obtain ⟨xs, rfl⟩ := allInt_spec (l := l) h
  exact ⟨z :: xs, rfl⟩
 | .bool _ :: _, h | .int .i8 _ :: _, h | .int .i16 _ :: _, h | .int .i32 _ :: _, h | .int .u8 _ :: _, h | .int .u16 _ :: _, h | .int .u32 _ :: _, h | .int .u64 _ :: _, h | .str _ :: _, h | .ptr .. :: _, h | .glo .. :: _, h | .nilp :: _, h | .sl .. :: _, h | .nils :: _, h | .agg _ :: _, h | .tup _ :: _, h | .fn .. :: _, h | .nilf :: _, h | .ifc .. :: _, h | .nili :: _, h => by cases h
theorem ints_inv {β : Be} : ∀ {xs : List Int} {l : List Value}, VL β (xs.map (AV.int .i64)) l → l = xs.map (Value.int .i64)
 | [], l, h => h.nil_inv
 | x :: xs, l, h => by
  obtain ⟨y, r, rfl, hy, hr⟩ := VL.cons_inv (x := AV.int .i64 x) (l := xs.map (AV.int .i64)) h
  rw [hy.int_inv, ints_inv hr]; rfl
theorem ints_vl {β : Be} : ∀ (xs : List Int), VL β (xs.map (AV.int .i64)) (xs.map (Value.int .i64))
 | [] => VL.nil β
 | x :: xs => (ints_vl xs).cons (.int _ _)
def noStr : AV → Bool
 | .str _ => false
 | _ => true
noncomputable def seqF (q e : Nat) (ags : List AV) (h : Tr Blk) (n : Nat) : Option (AV × Tr Blk × Nat × List Nat) := match ags with
 | [.nils, .fn (.func g) [] [.ptr i 0]] => (match Nat.beq g q with
  | true => memK none h i fun b => (match b with
   | ⟨_, true, _, [s]⟩ => (match noStr s with | false => none | true => srcK none h 1 s fun l m => (match allInt l, m with
    | true, 0 => some (.nils, h, n, [])
    | true, m + 1 => (match small (Nat.succ m) 8, Nat.beq l.length (Nat.succ m), s with
     | true, true, .sl .. => newK none h n ⟨false, false, some e, l⟩ fun h n' => frcN (Nat.succ (Nat.mul 2 (Nat.succ m))) fun c => some (.sl n 0 (Nat.succ m) c 1, h, n', [])
     | _, _, _ => none)
    | false, _ => none))
   | _ => none)
  | false => none)
 | _ => none
theorem Post.below {G : GlF} {β : Be} {h : HpF} {W W' : World} (r : HR G β h W) (n : Nat) (hbl : Below W.heap.size W W') : Post G β h W n n [] β h W' :=
 have hkept : ∀ k, k < W.heap.size → W'.heap[k]? = W.heap[k]? := fun k hk => hbl.block k hk
 ⟨fun _ _ => rfl, ⟨fun i b hb => (r.at_ i b hb).mono (fun _ _ h => h) fun p hp' => hkept p.b (by
   obtain ⟨q, hq, hl⟩ := (r.at_ i b hb).place
   rw [hp'] at hq; cases hq; exact hl), r.inj, fun g cs hg => by
   obtain ⟨c, U, fz, h5, h6⟩ := r.glob g cs hg
   exact ⟨c, U, fz, (hkept g (r.globLt (by rw [hg]; simp))).trans h5, h6⟩, r.sep⟩, hbl.os, hbl.tape, hbl.output, hbl.size, fun k hk _ => hkept k hk, fun i h1 h2 => by omega⟩
theorem VR.fn_inv0 {β : Be} {f : Fn} {x : AV} {y : Value} (h : VR β (.fn f [] [x]) y) : ∃ z, y = .func f #[] #[z] ∧ VR β x z := by
 cases h with
 | fn f a b a' b' hl h hl2 h2 =>
  obtain rfl : a' = [] := List.eq_nil_of_length_eq_zero hl.symm
  obtain ⟨z, r, rfl, hz, hr⟩ := VL.cons_inv (l' := b') ⟨hl2, h2⟩
  obtain rfl := hr.nil_inv
  exact ⟨z, rfl, hz⟩
set_option maxRecDepth 100000 in
set_option maxHeartbeats 1000000 in
theorem ext_seq : ExtOk Tryz.prog 156 (.user (seqF 113 3)) := fun G ags h n hd v h' n' tl hF => by
 have hb : ¬ (fun o : Option (AV × Tr Blk × Nat × List Nat) => o = some (v, h', n', tl)) none := by simp
 unfold seqF at hF
 split at hF
 ·rename_i g i
  split at hF
  ·rename_i hg
   obtain rfl := Nat.eq_of_beq_eq_true hg
   obtain ⟨b, hgb, h1⟩ := memK_spec (T := fun o : Option (AV × Tr Blk × Nat × List Nat) => o = some (v, h', n', tl)) hb hF
   split at h1
   ·rename_i ro ty s
    split at h1
    ·cases h1
    rename_i hns
    obtain ⟨l, m, h2, hlen, hsrc⟩ := srcK_spec (T := fun o : Option (AV × Tr Blk × Nat × List Nat) => o = some (v, h', n', tl)) hb h1
    have key : ∀ xs : List Int, l = xs.map (AV.int .i64) → xs.length * 8 ≤ 140737488351232 → ∀ (β : Be) (W : World) (ys : List Value), HR G β h.get W → VL β [.nils, .fn (.func 113) [] [.ptr i 0]] ys →
      ∃ (p : Pl), ys = [.slice none 0 0, .func (.func 113) #[] #[.pointer (some ⟨p.b, 0, none⟩)]] ∧
      Calls Tryz.prog 156 #[.slice none 0 0, .func (.func 113) #[] #[.pointer (some ⟨p.b, 0, none⟩)]] W fun e W' => ∃ v, e = .returned v ∧ W'.ownsRow W.heap.size 3 1 v xs.length (xs.map (Value.int .i64)) ∧ (v = .slice none 0 0 ↔ xs = []) ∧ Below W.heap.size W W' := by
     intro xs hxs hby β W ys r hv
     obtain ⟨y1, r1, rfl, h3, hv⟩ := hv.cons_inv
     obtain ⟨y2, r2, rfl, h4, hv⟩ := hv.cons_inv
     obtain rfl := hv.nil_inv
     obtain ⟨z, rfl, hz⟩ := h4.fn_inv0
     obtain ⟨p, hp, rfl⟩ := hz.ptr_inv
     obtain ⟨q, ca, U, fz, hq, hi⟩ := r.at_ i _ hgb
     rw [hp] at hq; cases hq
     obtain ⟨hs0, hz0⟩ := hi.bx rfl
     rw [h3.nils_inv, hs0]
     refine ⟨p, rfl, ?_⟩
     have hcv := hi.cells
     rw [hs0] at hcv
     obtain ⟨c0, hc0, hr0⟩ := hcv.get (j := 0) rfl
     have hcell : W.cell? ⟨p.b, 0, none⟩ = some c0 := by
      rw [cell_of_row W p.b 0 ca U fz hi.obj]
      rw [List.getElem?_take] at hc0
      split at hc0
      ·simpa using hc0
      ·cases hc0
     refine (callsIn_wide (n := 3)).1 (appendSeq_in Fence.wide 3 trivial trivial rfl (by omega) p.b c0 xs hby W hi.lt hcell ?_)
     rcases hsrc with ⟨rfl, rfl, rfl⟩ | ⟨j, off, c, bj, rfl, hgj, hle, rfl⟩ | ⟨bs, rfl, _, _, rfl⟩
     ·obtain rfl : xs = [] := by
       cases xs with
       | nil => rfl
       | cons _ _ => cases hxs
      rw [hr0.nils_inv]
      exact .inl ⟨rfl, none, 0, rfl⟩
     ·obtain ⟨pj, cj, hpj, rfl⟩ : ∃ (pj : Pl) (cj : Nat), β j = some pj ∧ c0 = .slice (some ⟨pj.b, pj.s + off, none⟩) m cj := by
       cases hr0 with
       | sl i off n c c' es p h _ _ _ => exact ⟨p, c', h, rfl⟩
      obtain ⟨q', cj', Uj, fzj, hq', hij⟩ := r.at_ j _ hgj
      rw [hpj] at hq'; cases hq'
      have hm : m = xs.length := by
       have := congrArg List.length hxs
       rw [hlen] at this
       simpa using this
      subst hm
      refine .inr ⟨pj.b, pj.s + off, cj, rfl, hij.lt, fun k hk => ?_⟩
      have hcv2 := (hij.cells.drop off).take (xs.length * 1)
      rw [List.drop_take, List.drop_drop, List.take_take, Nat.min_eq_left (by omega), hxs] at hcv2
      have hx := ints_inv hcv2
      rw [cell_of_row W pj.b (pj.s + off + k) cj' Uj fzj hij.obj]
      have h9 : ((cj'.toList.drop (pj.s + off)).take (xs.length * 1))[k]? = some (Value.int .i64 xs[k]) := by rw [hx]; simp [hk]
      rw [List.getElem?_take_of_lt (by omega), List.getElem?_drop] at h9
      simpa using h9
     ·cases hns
    have hcan : ∀ args w, (callFunc 156 args).run Tryz.prog w = .ok (.enter 156 args) w := fun args w => by
     unfold callFunc; simp [Tryz.func156, Tryz.f156]
    split at h2
    ·rename_i hall
     obtain ⟨xs, hxs⟩ := allInt_spec hall
     cases h2
     refine ⟨Facts.refl _ _, fun β W a o ys r hv hf K hK => ?_⟩
     have hx0 : xs = [] := by
      have := congrArg List.length hxs
      rw [hlen] at this
      exact List.eq_nil_of_length_eq_zero (by simpa using this.symm)
     obtain ⟨p, rfl, hc⟩ := key xs hxs (by rw [hx0]; decide) β W ys r hv
     rw [hcan, Oper.upon_enter]
     refine hc.mono ?_
     rintro e W' ⟨v, rfl, _, hnil, hbl⟩
     rw [hnil.2 hx0]
     exact hK β W' _ (Post.below r n hbl) .nils
    ·rename_i m hall
     obtain ⟨xs, hxs⟩ := allInt_spec hall
     split at h2
     ·have hsm : (m + 1) * 8 < 10000000000000 := small_lt ‹small (Nat.succ m) 8 = true›
      have hll : l.length = m + 1 := Nat.eq_of_beq_eq_true ‹Nat.beq l.length (Nat.succ m) = true›
      obtain ⟨h'', h3, hh⟩ := newK_spec (T := fun o : Option (AV × Tr Blk × Nat × List Nat) => o = some (v, h', n', tl)) hb h2
      simp only [frcN_eq] at h3
      cases h3
      have hn : h.get n = none := hd n (Nat.le_refl _)
      have hh' : ∀ j, h'.get j = if j = n then some ⟨false, false, some 3, l⟩ else if j ∈ ([] : List Nat) then none else h.get j := fun j => by rw [hh]; simp
      refine ⟨Facts.make [] (fun t ht => by cases ht) hh', fun β W a o ys r hv hf K hK => ?_⟩
      have hxl : xs.length = m + 1 := by rw [← hll, hxs]; simp
      obtain ⟨p, rfl, hc⟩ := key xs hxs (by omega) β W ys r hv
      rw [hcan, Oper.upon_enter]
      refine hc.mono ?_
      rintro e W' ⟨v, rfl, hown, hnil, hbl⟩
      rcases hown.2 with ⟨rfl, h0⟩ | ⟨gb, cap, cur, rfl, hbase, hobj, hcp, hmax, hsz, htk⟩
      ·omega
      ·have hfn : β n = none := hf n (Nat.le_refl _)
       have hcur : cur.toList = xs.map (Value.int .i64) ++ cur.toList.drop (xs.length * 1) := by rw [← htk, List.take_append_drop]
       have hnew : BlkAt (fun j => if j = n then some ⟨gb, 0, cap⟩ else β j) W' n ⟨false, false, some 3, l⟩ :=
        BlkAt.new (p := ⟨gb, 0, cap⟩) (c := cur.toList) (U := 3) (by simp) rfl (by simpa using hobj) (by simpa using hsz) (fun V hV => by cases hV; rfl) (fun e => by cases e) ⟨_, _, hcur, by rw [hxs]; exact ints_vl xs⟩
       refine hK _ _ _ (Post.make r hfn hn hbl (p := ⟨gb, 0, cap⟩) hbase (fun j => rfl) hnew [] hh') ?_
       rw [hxl]
       exact .sl n 0 (m + 1) _ cap 1 ⟨gb, 0, cap⟩ (by simp) (show m + 1 ≤ (2 * (m + 1) + 1) / 2 by omega) (.inr ⟨m + 1, rfl, by omega⟩) (by simp)
     ·cases h2
    ·cases h2
   ·cases h1
  ·cases hF
 ·cases hF
end VM
end Go.Proofs.YtejljnlfgiifoaaGreatDoor
namespace Go.Proofs.YtejljnlfgiifoaaGreatDoor.VM
open Go Go.RowKit Go.Proofs.YtejljnlfgiifoaaGreatDoor
theorem info_of {P : Program} {T : TypeId} {z : Value} {s b : Nat} (h : (P.info? T).map (fun i => (i.zero, i.size, i.bytes)) = some (some z, s, b)) : ∃ i z, P.info? T = some i ∧ i.zero = some z ∧ i.size = s ∧ i.bytes = b := by
 obtain ⟨i, h1, h2⟩ := Option.map_eq_some_iff.1 h
 simp only [Prod.mk.injEq] at h2
 exact ⟨i, z, h1, h2.1, h2.2.1, h2.2.2⟩
theorem fn_of {P : Program} {T : TypeId} (h : (match P.underlying T with | some (.func ..) => true | _ => false) = true) : ∃ a b c, P.underlying T = some (.func a b c) := by
 split at h
 ·rename_i a b c hu; exact ⟨a, b, c, hu⟩
 ·cases h
theorem strct_of {P : Program} {T : TypeId} (h : (match P.underlying T with | some (.struct _) => true | _ => false) = true) : ∃ fs, P.underlying T = some (.struct fs) := by
 split at h
 ·rename_i fs hu; exact ⟨fs, hu⟩
 ·cases h
theorem bOf {fn : Func} (h : fn.body.isSome = true) : fn.body = some (fn.body.getD .skip) := by
 cases hb : fn.body with
 | none => rw [hb] at h; cases h
 | some b => rfl
def AllTy (P : Program) : List (Nat × TI) → Prop
 | [] => True
 | (T, t) :: r => TIOk P T t ∧ AllTy P r
theorem all_ty {P : Program} : ∀ {l : List (Nat × TI)}, AllTy P l → ∀ T t, (T, t) ∈ l → TIOk P T t
 | [], _, T, t, h => by cases h
 | (U, u) :: r, ⟨h1, h2⟩, T, t, h => by
  rcases List.mem_cons.1 h with h | h
  ·cases h; exact h1
  ·exact all_ty h2 T t h
def FbOk (P : Program) (f : FuncId) : FB → Prop
 | .ext x => ExtOk P f x
 | .body ⟨nt, rs, code⟩ => ∃ fn, P.funcs[f]? = some fn ∧ fn.body = some code ∧ (fn.name == "runtime.NumGoroutine") = false ∧ fn.ntmps = nt ∧ fn.results.toList = rs
def AllFn (P : Program) : List (Nat × FB) → Prop
 | [] => True
 | (f, b) :: r => FbOk P f b ∧ AllFn P r
theorem all_fn {P : Program} : ∀ {l : List (Nat × FB)}, AllFn P l → ∀ f b, (f, b) ∈ l → FbOk P f b
 | [], _, f, b, h => by cases h
 | (g, c) :: r, ⟨h1, h2⟩, f, b, h => by
  rcases List.mem_cons.1 h with h | h
  ·cases h; exact h1
  ·exact all_fn h2 f b h
set_option maxRecDepth 100000
def ti2 : TI := ⟨false, 1, [], [.int .i64 (.ofNat 0)], .int .i64, 8⟩
theorem tK {T : TypeId} {t : TI} (z : Value) (zs : List Value) (bu : t.kind = .strct → ∀ parts, Tryz.prog.built T parts = Instr.fill (fun i => ((t.fields.map fun x => (x.1, x.2.2)).toArray)[i]?) zs.toArray parts) (fo : FOk Tryz.prog T 0 t.fields) (kd : t.kind.ok Tryz.prog T) (h1 : ∀ w : World, (isAgg T).run Tryz.prog w = .ok t.agg w := by intro _; kernel_rfl) (h2 : ∀ w : World, (sizeOf T).run Tryz.prog w = .ok t.size w := by intro _; kernel_rfl) (h3 : ∀ w : World, (zeroValue T).run Tryz.prog w = .ok z w := by intro _; kernel_rfl) (h4 : z.cells = zs.toArray := by rfl) (h5 : ofVs zs = some t.zero := by kernel_rfl) (h6 : t.zero.length = t.size := by kernel_rfl) (h7 : (Tryz.prog.info? T).map (fun i => (i.zero, i.size, i.bytes)) = some (some z, t.size, t.bytes) := by kernel_rfl) : TIOk Tryz.prog T t := ⟨h1, h2, ⟨z, zs, h3, h4, ofVs_ok h5, bu⟩, h6, fo, kd, info_of h7⟩
theorem ti2_ok : TIOk Tryz.prog 2 ti2 := tK ((.int .i64 0)) [.int .i64 0] (fun e => by cases e) trivial (show Tryz.prog.underlying 2 = _ from by kernel_rfl)
def ti3 : TI := ⟨false, 1, [], [.int .i64 (.ofNat 0)], .int .i64, 8⟩
theorem ti3_ok : TIOk Tryz.prog 3 ti3 := tK ((.int .i64 0)) [.int .i64 0] (fun e => by cases e) trivial (show Tryz.prog.underlying 3 = _ from by kernel_rfl)
def ti4 : TI := ⟨false, 1, [], [.bool false], .bool, 1⟩
theorem ti4_ok : TIOk Tryz.prog 4 ti4 := tK ((.bool false)) [.bool false] (fun e => by cases e) trivial (show Tryz.prog.underlying 4 = _ from by kernel_rfl)
def ti5 : TI := ⟨false, 1, [], [.int .u8 (.ofNat 0)], .int .u8, 1⟩
theorem ti5_ok : TIOk Tryz.prog 5 ti5 := tK ((.int .u8 0)) [.int .u8 0] (fun e => by cases e) trivial (show Tryz.prog.underlying 5 = _ from by kernel_rfl)
def ti9 : TI := ⟨false, 1, [], [.str []], .str, 16⟩
theorem ti9_ok : TIOk Tryz.prog 9 ti9 := tK ((.string ⟨#[]⟩)) [.string ⟨#[]⟩] (fun e => by cases e) trivial (show Tryz.prog.underlying 9 = _ from by kernel_rfl)
def ti20 : TI := ⟨false, 1, [], [.nili], .other, 16⟩
theorem ti20_ok : TIOk Tryz.prog 20 ti20 := tK ((.nilIface)) [.nilIface] (fun e => by cases e) trivial (trivial)
def ti22 : TI := ⟨false, 1, [], [.nils], .slice 3, 24⟩
theorem ti22_ok : TIOk Tryz.prog 22 ti22 := tK ((.slice none 0 0)) [.slice none 0 0] (fun e => by cases e) trivial (show Tryz.prog.underlying 22 = _ from by kernel_rfl)
def ti23 : TI := ⟨false, 1, [], [.int .u64 (.ofNat 0)], .int .u64, 8⟩
theorem ti23_ok : TIOk Tryz.prog 23 ti23 := tK ((.int .u64 0)) [.int .u64 0] (fun e => by cases e) trivial (show Tryz.prog.underlying 23 = _ from by kernel_rfl)
def ti24 : TI := ⟨false, 1, [], [.nilf], .fn, 8⟩
theorem ti24_ok : TIOk Tryz.prog 24 ti24 := tK ((.nilFunc)) [.nilFunc] (fun e => by cases e) trivial (fn_of (by kernel_rfl))
def ti25 : TI := ⟨false, 1, [], [.nils], .slice 45, 24⟩
theorem ti25_ok : TIOk Tryz.prog 25 ti25 := tK ((.slice none 0 0)) [.slice none 0 0] (fun e => by cases e) trivial (show Tryz.prog.underlying 25 = _ from by kernel_rfl)
def ti27 : TI := ⟨true, 4, [(0, false, 1), (1, false, 1), (2, false, 1), (3, false, 1)], [.int .i64 (.ofNat 0), .int .i64 (.ofNat 0), .nils, .nils], .strct, 64⟩
theorem ti27_ok : TIOk Tryz.prog 27 ti27 := tK (.agg #[.int .i64 0, .int .i64 0, .slice none 0 0, .slice none 0 0]) [.int .i64 0, .int .i64 0, .slice none 0 0, .slice none 0 0] (fun _ _ => by kernel_rfl) (⟨⟨fun _ _ => by kernel_rfl, fun _ _ => by kernel_rfl⟩, ⟨⟨fun _ _ => by kernel_rfl, fun _ _ => by kernel_rfl⟩, ⟨⟨fun _ _ => by kernel_rfl, fun _ _ => by kernel_rfl⟩, ⟨⟨fun _ _ => by kernel_rfl, fun _ _ => by kernel_rfl⟩, trivial⟩⟩⟩⟩) (strct_of (by kernel_rfl))
def ti29 : TI := ⟨false, 1, [], [.nils], .slice 78, 24⟩
theorem ti29_ok : TIOk Tryz.prog 29 ti29 := tK ((.slice none 0 0)) [.slice none 0 0] (fun e => by cases e) trivial (show Tryz.prog.underlying 29 = _ from by kernel_rfl)
def ti33 : TI := ⟨false, 1, [], [.nils], .slice 25, 24⟩
theorem ti33_ok : TIOk Tryz.prog 33 ti33 := tK ((.slice none 0 0)) [.slice none 0 0] (fun e => by cases e) trivial (show Tryz.prog.underlying 33 = _ from by kernel_rfl)
def ti35 : TI := ⟨false, 1, [], [.nils], .slice 29, 24⟩
theorem ti35_ok : TIOk Tryz.prog 35 ti35 := tK ((.slice none 0 0)) [.slice none 0 0] (fun e => by cases e) trivial (show Tryz.prog.underlying 35 = _ from by kernel_rfl)
def ti41 : TI := ⟨true, 2, [(0, false, 1), (1, false, 1)], [.int .u64 (.ofNat 0), .str []], .strct, 24⟩
theorem ti41_ok : TIOk Tryz.prog 41 ti41 := tK (.agg #[.int .u64 0, .string ⟨#[]⟩]) [.int .u64 0, .string ⟨#[]⟩] (fun _ _ => by kernel_rfl) (⟨⟨fun _ _ => by kernel_rfl, fun _ _ => by kernel_rfl⟩, ⟨⟨fun _ _ => by kernel_rfl, fun _ _ => by kernel_rfl⟩, trivial⟩⟩) (strct_of (by kernel_rfl))
def ti43 : TI := ⟨true, 3, [(0, false, 1), (1, true, 2)], [.bool false, .int .u64 (.ofNat 0), .str []], .strct, 32⟩
theorem ti43_ok : TIOk Tryz.prog 43 ti43 := tK (.agg #[.bool false, .int .u64 0, .string ⟨#[]⟩]) [.bool false, .int .u64 0, .string ⟨#[]⟩] (fun _ _ => by kernel_rfl) (⟨⟨fun _ _ => by kernel_rfl, fun _ _ => by kernel_rfl⟩, ⟨⟨fun _ _ => by kernel_rfl, fun _ _ => by kernel_rfl⟩, trivial⟩⟩) (strct_of (by kernel_rfl))
def ti45 : TI := ⟨true, 5, [(0, true, 3), (3, true, 2)], [.bool false, .int .u64 (.ofNat 0), .str [], .int .u64 (.ofNat 0), .str []], .strct, 56⟩
theorem ti45_ok : TIOk Tryz.prog 45 ti45 := tK (.agg #[.bool false, .int .u64 0, .string ⟨#[]⟩, .int .u64 0, .string ⟨#[]⟩]) [.bool false, .int .u64 0, .string ⟨#[]⟩, .int .u64 0, .string ⟨#[]⟩] (fun _ _ => by kernel_rfl) (⟨⟨fun _ _ => by kernel_rfl, fun _ _ => by kernel_rfl⟩, ⟨⟨fun _ _ => by kernel_rfl, fun _ _ => by kernel_rfl⟩, trivial⟩⟩) (strct_of (by kernel_rfl))
def ti51 : TI := ⟨true, 11, [(0, false, 1), (1, true, 5), (6, true, 5)], [.int .i64 (.ofNat 0), .bool false, .int .u64 (.ofNat 0), .str [], .int .u64 (.ofNat 0), .str [], .bool false, .int .u64 (.ofNat 0), .str [], .int .u64 (.ofNat 0), .str []], .strct, 120⟩
theorem ti51_ok : TIOk Tryz.prog 51 ti51 := tK (.agg #[.int .i64 0, .bool false, .int .u64 0, .string ⟨#[]⟩, .int .u64 0, .string ⟨#[]⟩, .bool false, .int .u64 0, .string ⟨#[]⟩, .int .u64 0, .string ⟨#[]⟩]) [.int .i64 0, .bool false, .int .u64 0, .string ⟨#[]⟩, .int .u64 0, .string ⟨#[]⟩, .bool false, .int .u64 0, .string ⟨#[]⟩, .int .u64 0, .string ⟨#[]⟩] (fun _ _ => by kernel_rfl) (⟨⟨fun _ _ => by kernel_rfl, fun _ _ => by kernel_rfl⟩, ⟨⟨fun _ _ => by kernel_rfl, fun _ _ => by kernel_rfl⟩, ⟨⟨fun _ _ => by kernel_rfl, fun _ _ => by kernel_rfl⟩, trivial⟩⟩⟩) (strct_of (by kernel_rfl))
def ti74 : TI := ⟨false, 1, [], [.nils], .slice 171, 24⟩
theorem ti74_ok : TIOk Tryz.prog 74 ti74 := tK ((.slice none 0 0)) [.slice none 0 0] (fun e => by cases e) trivial (show Tryz.prog.underlying 74 = _ from by kernel_rfl)
def ti76 : TI := ⟨true, 2, [(0, false, 1), (1, false, 1)], [.bool false, .nils], .strct, 32⟩
theorem ti76_ok : TIOk Tryz.prog 76 ti76 := tK (.agg #[.bool false, .slice none 0 0]) [.bool false, .slice none 0 0] (fun _ _ => by kernel_rfl) (⟨⟨fun _ _ => by kernel_rfl, fun _ _ => by kernel_rfl⟩, ⟨⟨fun _ _ => by kernel_rfl, fun _ _ => by kernel_rfl⟩, trivial⟩⟩) (strct_of (by kernel_rfl))
def ti78 : TI := ⟨true, 3, [(0, true, 2), (2, false, 1)], [.bool false, .nils, .nils], .strct, 56⟩
theorem ti78_ok : TIOk Tryz.prog 78 ti78 := tK (.agg #[.bool false, .slice none 0 0, .slice none 0 0]) [.bool false, .slice none 0 0, .slice none 0 0] (fun _ _ => by kernel_rfl) (⟨⟨fun _ _ => by kernel_rfl, fun _ _ => by kernel_rfl⟩, ⟨⟨fun _ _ => by kernel_rfl, fun _ _ => by kernel_rfl⟩, trivial⟩⟩) (strct_of (by kernel_rfl))
def ti104 : TI := ⟨false, 1, [], [.int .i64 (.ofNat 0)], .int .i64, 8⟩
theorem ti104_ok : TIOk Tryz.prog 104 ti104 := tK ((.int .i64 0)) [.int .i64 0] (fun e => by cases e) trivial (show Tryz.prog.underlying 104 = _ from by kernel_rfl)
def ti109 : TI := ⟨false, 1, [], [.nilf], .fn, 8⟩
theorem ti109_ok : TIOk Tryz.prog 109 ti109 := tK ((.nilFunc)) [.nilFunc] (fun e => by cases e) trivial (fn_of (by kernel_rfl))
def ti110 : TI := ⟨false, 1, [], [.nilf], .fn, 8⟩
theorem ti110_ok : TIOk Tryz.prog 110 ti110 := tK ((.nilFunc)) [.nilFunc] (fun e => by cases e) trivial (fn_of (by kernel_rfl))
def ti114 : TI := ⟨true, 12, [], (List.replicate 12 (.int .i64 (.ofNat 0))), .arr 12 3, 96⟩
theorem ti114_ok : TIOk Tryz.prog 114 ti114 := tK (.agg (List.replicate 12 (.int .i64 0)).toArray) (List.replicate 12 (.int .i64 0)) (fun e => by cases e) trivial (show Tryz.prog.underlying 114 = _ from by kernel_rfl)
def ti116 : TI := ⟨true, 19, [(0, false, 1), (1, true, 12), (13, false, 1), (14, true, 5)], [.int .i64 (.ofNat 0), .int .i64 (.ofNat 0), .int .i64 (.ofNat 0), .int .i64 (.ofNat 0), .int .i64 (.ofNat 0), .int .i64 (.ofNat 0), .int .i64 (.ofNat 0), .int .i64 (.ofNat 0), .int .i64 (.ofNat 0), .int .i64 (.ofNat 0), .int .i64 (.ofNat 0), .int .i64 (.ofNat 0), .int .i64 (.ofNat 0), .int .i64 (.ofNat 0), .bool false, .int .u64 (.ofNat 0), .str [], .int .u64 (.ofNat 0), .str []], .strct, 168⟩
theorem ti116_ok : TIOk Tryz.prog 116 ti116 := tK (.agg #[.int .i64 0, .int .i64 0, .int .i64 0, .int .i64 0, .int .i64 0, .int .i64 0, .int .i64 0, .int .i64 0, .int .i64 0, .int .i64 0, .int .i64 0, .int .i64 0, .int .i64 0, .int .i64 0, .bool false, .int .u64 0, .string ⟨#[]⟩, .int .u64 0, .string ⟨#[]⟩]) [.int .i64 0, .int .i64 0, .int .i64 0, .int .i64 0, .int .i64 0, .int .i64 0, .int .i64 0, .int .i64 0, .int .i64 0, .int .i64 0, .int .i64 0, .int .i64 0, .int .i64 0, .int .i64 0, .bool false, .int .u64 0, .string ⟨#[]⟩, .int .u64 0, .string ⟨#[]⟩] (fun _ _ => by kernel_rfl) (⟨⟨fun _ _ => by kernel_rfl, fun _ _ => by kernel_rfl⟩, ⟨⟨fun _ _ => by kernel_rfl, fun _ _ => by kernel_rfl⟩, ⟨⟨fun _ _ => by kernel_rfl, fun _ _ => by kernel_rfl⟩, ⟨⟨fun _ _ => by kernel_rfl, fun _ _ => by kernel_rfl⟩, trivial⟩⟩⟩⟩) (strct_of (by kernel_rfl))
def ti154 : TI := ⟨false, 1, [], [.nils], .slice 23, 24⟩
theorem ti154_ok : TIOk Tryz.prog 154 ti154 := tK ((.slice none 0 0)) [.slice none 0 0] (fun e => by cases e) trivial (show Tryz.prog.underlying 154 = _ from by kernel_rfl)
def ti158 : TI := ⟨false, 1, [], [.nilf], .fn, 8⟩
theorem ti158_ok : TIOk Tryz.prog 158 ti158 := tK ((.nilFunc)) [.nilFunc] (fun e => by cases e) trivial (fn_of (by kernel_rfl))
def ti160 : TI := ⟨true, 38, [(0, true, 19), (19, true, 19)], [.int .i64 (.ofNat 0), .int .i64 (.ofNat 0), .int .i64 (.ofNat 0), .int .i64 (.ofNat 0), .int .i64 (.ofNat 0), .int .i64 (.ofNat 0), .int .i64 (.ofNat 0), .int .i64 (.ofNat 0), .int .i64 (.ofNat 0), .int .i64 (.ofNat 0), .int .i64 (.ofNat 0), .int .i64 (.ofNat 0), .int .i64 (.ofNat 0), .int .i64 (.ofNat 0), .bool false, .int .u64 (.ofNat 0), .str [], .int .u64 (.ofNat 0), .str [], .int .i64 (.ofNat 0), .int .i64 (.ofNat 0), .int .i64 (.ofNat 0), .int .i64 (.ofNat 0), .int .i64 (.ofNat 0), .int .i64 (.ofNat 0), .int .i64 (.ofNat 0), .int .i64 (.ofNat 0), .int .i64 (.ofNat 0), .int .i64 (.ofNat 0), .int .i64 (.ofNat 0), .int .i64 (.ofNat 0), .int .i64 (.ofNat 0), .int .i64 (.ofNat 0), .bool false, .int .u64 (.ofNat 0), .str [], .int .u64 (.ofNat 0), .str []], .strct, 336⟩
theorem ti160_ok : TIOk Tryz.prog 160 ti160 := tK (.agg #[.int .i64 0, .int .i64 0, .int .i64 0, .int .i64 0, .int .i64 0, .int .i64 0, .int .i64 0, .int .i64 0, .int .i64 0, .int .i64 0, .int .i64 0, .int .i64 0, .int .i64 0, .int .i64 0, .bool false, .int .u64 0, .string ⟨#[]⟩, .int .u64 0, .string ⟨#[]⟩, .int .i64 0, .int .i64 0, .int .i64 0, .int .i64 0, .int .i64 0, .int .i64 0, .int .i64 0, .int .i64 0, .int .i64 0, .int .i64 0, .int .i64 0, .int .i64 0, .int .i64 0, .int .i64 0, .bool false, .int .u64 0, .string ⟨#[]⟩, .int .u64 0, .string ⟨#[]⟩]) [.int .i64 0, .int .i64 0, .int .i64 0, .int .i64 0, .int .i64 0, .int .i64 0, .int .i64 0, .int .i64 0, .int .i64 0, .int .i64 0, .int .i64 0, .int .i64 0, .int .i64 0, .int .i64 0, .bool false, .int .u64 0, .string ⟨#[]⟩, .int .u64 0, .string ⟨#[]⟩, .int .i64 0, .int .i64 0, .int .i64 0, .int .i64 0, .int .i64 0, .int .i64 0, .int .i64 0, .int .i64 0, .int .i64 0, .int .i64 0, .int .i64 0, .int .i64 0, .int .i64 0, .int .i64 0, .bool false, .int .u64 0, .string ⟨#[]⟩, .int .u64 0, .string ⟨#[]⟩] (fun _ _ => by kernel_rfl) (⟨⟨fun _ _ => by kernel_rfl, fun _ _ => by kernel_rfl⟩, ⟨⟨fun _ _ => by kernel_rfl, fun _ _ => by kernel_rfl⟩, trivial⟩⟩) (strct_of (by kernel_rfl))
def ti162 : TI := ⟨false, 1, [], [.nilp], .ptr 116, 8⟩
theorem ti162_ok : TIOk Tryz.prog 162 ti162 := tK ((.pointer none)) [.pointer none] (fun e => by cases e) trivial (show Tryz.prog.underlying 162 = _ from by kernel_rfl)
def ti171 : TI := ⟨false, 1, [], [.int .u32 (.ofNat 0)], .int .u32, 4⟩
theorem ti171_ok : TIOk Tryz.prog 171 ti171 := tK ((.int .u32 0)) [.int .u32 0] (fun e => by cases e) trivial (show Tryz.prog.underlying 171 = _ from by kernel_rfl)
def ti179 : TI := ⟨false, 1, [], [.int .u64 (.ofNat 0)], .int .u64, 8⟩
theorem ti179_ok : TIOk Tryz.prog 179 ti179 := tK ((.int .u64 0)) [.int .u64 0] (fun e => by cases e) trivial (show Tryz.prog.underlying 179 = _ from by kernel_rfl)
def ti181 : TI := ⟨false, 1, [], [.nils], .slice 5, 24⟩
theorem ti181_ok : TIOk Tryz.prog 181 ti181 := tK ((.slice none 0 0)) [.slice none 0 0] (fun e => by cases e) trivial (show Tryz.prog.underlying 181 = _ from by kernel_rfl)
def ti196 : TI := ⟨false, 1, [], [.nilp], .ptr 198, 8⟩
theorem ti196_ok : TIOk Tryz.prog 196 ti196 := tK ((.pointer none)) [.pointer none] (fun e => by cases e) trivial (show Tryz.prog.underlying 196 = _ from by kernel_rfl)
def ti198 : TI := ⟨true, 2, [(0, false, 1), (1, false, 1)], [.nilp, .nils], .strct, 32⟩
theorem ti198_ok : TIOk Tryz.prog 198 ti198 := tK (.agg #[.pointer none, .slice none 0 0]) [.pointer none, .slice none 0 0] (fun _ _ => by kernel_rfl) (⟨⟨fun _ _ => by kernel_rfl, fun _ _ => by kernel_rfl⟩, ⟨⟨fun _ _ => by kernel_rfl, fun _ _ => by kernel_rfl⟩, trivial⟩⟩) (strct_of (by kernel_rfl))
def ti201 : TI := ⟨false, 1, [], [.nili], .other, 16⟩
theorem ti201_ok : TIOk Tryz.prog 201 ti201 := tK ((.nilIface)) [.nilIface] (fun e => by cases e) trivial (trivial)
def ti207 : TI := ⟨false, 1, [], [.nilp], .ptr 160, 8⟩
theorem ti207_ok : TIOk Tryz.prog 207 ti207 := tK ((.pointer none)) [.pointer none] (fun e => by cases e) trivial (show Tryz.prog.underlying 207 = _ from by kernel_rfl)
def ti218 : TI := ⟨false, 1, [], [.nilp], .ptr 5, 8⟩
theorem ti218_ok : TIOk Tryz.prog 218 ti218 := tK ((.pointer none)) [.pointer none] (fun e => by cases e) trivial (show Tryz.prog.underlying 218 = _ from by kernel_rfl)
def ti220 : TI := ⟨false, 1, [], [.int .i64 (.ofNat 0)], .int .i64, 8⟩
theorem ti220_ok : TIOk Tryz.prog 220 ti220 := tK ((.int .i64 0)) [.int .i64 0] (fun e => by cases e) trivial (show Tryz.prog.underlying 220 = _ from by kernel_rfl)
def ti235 : TI := ⟨true, 64, [], (List.replicate 64 (.int .u8 (.ofNat 0))), .arr 64 5, 64⟩
theorem ti235_ok : TIOk Tryz.prog 235 ti235 := tK (.agg (List.replicate 64 (.int .u8 0)).toArray) (List.replicate 64 (.int .u8 0)) (fun e => by cases e) trivial (show Tryz.prog.underlying 235 = _ from by kernel_rfl)
def ti236 : TI := ⟨false, 1, [], [.nilp], .other, 8⟩
theorem ti236_ok : TIOk Tryz.prog 236 ti236 := tK ((.pointer none)) [.pointer none] (fun e => by cases e) trivial (trivial)
def ti239 : TI := ⟨false, 1, [], [.int .u64 (.ofNat 0)], .int .u64, 8⟩
theorem ti239_ok : TIOk Tryz.prog 239 ti239 := tK ((.int .u64 0)) [.int .u64 0] (fun e => by cases e) trivial (show Tryz.prog.underlying 239 = _ from by kernel_rfl)
def ti242 : TI := ⟨false, 1, [], [.nilp], .ptr 3, 8⟩
theorem ti242_ok : TIOk Tryz.prog 242 ti242 := tK ((.pointer none)) [.pointer none] (fun e => by cases e) trivial (show Tryz.prog.underlying 242 = _ from by kernel_rfl)
def ti244 : TI := ⟨false, 1, [], [.nilp], .ptr 239, 8⟩
theorem ti244_ok : TIOk Tryz.prog 244 ti244 := tK ((.pointer none)) [.pointer none] (fun e => by cases e) trivial (show Tryz.prog.underlying 244 = _ from by kernel_rfl)
def tiL : List (Nat × TI) := [(2, ti2), (3, ti3), (4, ti4), (5, ti5), (9, ti9), (20, ti20), (22, ti22), (23, ti23), (24, ti24), (25, ti25), (27, ti27), (29, ti29), (33, ti33), (35, ti35), (41, ti41), (43, ti43), (45, ti45), (51, ti51), (74, ti74), (76, ti76), (78, ti78), (104, ti104), (109, ti109), (110, ti110), (114, ti114), (116, ti116), (154, ti154), (158, ti158), (160, ti160), (162, ti162), (171, ti171), (179, ti179), (181, ti181), (196, ti196), (198, ti198), (201, ti201), (207, ti207), (218, ti218), (220, ti220), (235, ti235), (236, ti236), (239, ti239), (242, ti242), (244, ti244)]
noncomputable abbrev fB (f : Func) : FB := .body ⟨f.ntmps, f.results.toList, f.body.getD .skip⟩
noncomputable def fnL : List (Nat × FB) := [(10, fB Tryz.f10), (13, fB Tryz.f13), (16, fB Tryz.f16), (17, fB Tryz.f17), (18, fB Tryz.f18), (19, fB Tryz.f19), (21, fB Tryz.f21), (23, fB Tryz.f23), (25, fB Tryz.f25), (28, fB Tryz.f28), (35, fB Tryz.f35), (43, fB Tryz.f43), (45, fB Tryz.f45), (46, fB Tryz.f46), (47, fB Tryz.f47), (48, fB Tryz.f48), (49, fB Tryz.f49), (50, fB Tryz.f50), (51, fB Tryz.f51), (52, fB Tryz.f52), (53, fB Tryz.f53), (54, fB Tryz.f54), (55, fB Tryz.f55), (56, fB Tryz.f56), (57, fB Tryz.f57), (58, fB Tryz.f58), (59, fB Tryz.f59), (60, fB Tryz.f60), (61, fB Tryz.f61), (62, fB Tryz.f62), (63, fB Tryz.f63), (64, fB Tryz.f64), (65, fB Tryz.f65), (66, fB Tryz.f66), (67, fB Tryz.f67), (68, fB Tryz.f68), (70, fB Tryz.f70), (72, fB Tryz.f72), (74, fB Tryz.f74), (75, fB Tryz.f75), (76, fB Tryz.f76), (77, fB Tryz.f77), (78, fB Tryz.f78), (79, fB Tryz.f79), (94, fB Tryz.f94), (95, fB Tryz.f95), (96, fB Tryz.f96), (97, fB Tryz.f97), (98, fB Tryz.f98), (99, fB Tryz.f99), (100, fB Tryz.f100), (101, fB Tryz.f101), (102, fB Tryz.f102), (103, fB Tryz.f103), (104, fB Tryz.f104), (105, fB Tryz.f105), (106, fB Tryz.f106), (107, fB Tryz.f107), (108, fB Tryz.f108), (109, fB Tryz.f109), (110, fB Tryz.f110), (111, fB Tryz.f111), (112, fB Tryz.f112), (113, fB Tryz.f113), (114, fB Tryz.f114), (115, fB Tryz.f115), (116, fB Tryz.f116), (118, fB Tryz.f118), (120, fB Tryz.f120), (121, fB Tryz.f121), (122, fB Tryz.f122), (123, fB Tryz.f123), (124, fB Tryz.f124), (125, fB Tryz.f125), (126, fB Tryz.f126), (130, fB Tryz.f130), (134, fB Tryz.f134), (135, fB Tryz.f135), (136, fB Tryz.f136), (137, fB Tryz.f137), (138, fB Tryz.f138), (139, fB Tryz.f139), (140, .ext .add64), (141, .ext .sub64), (142, fB Tryz.f142), (143, fB Tryz.f143), (144, fB Tryz.f144), (145, fB Tryz.f145), (146, fB Tryz.f146), (147, fB Tryz.f147), (148, fB Tryz.f148), (149, fB Tryz.f149), (150, fB Tryz.f150), (151, fB Tryz.f151), (152, fB Tryz.f152), (153, fB Tryz.f153), (154, fB Tryz.f154), (155, fB Tryz.f155), (156, .ext (.user (seqF 113 3))), (157, fB Tryz.f157), (158, fB Tryz.f158), (159, fB Tryz.f159), (160, fB Tryz.f160), (161, fB Tryz.f161), (162, fB Tryz.f162), (163, fB Tryz.f163), (164, fB Tryz.f164), (170, fB Tryz.f170), (171, fB Tryz.f171), (172, fB Tryz.f172), (173, fB Tryz.f173), (174, fB Tryz.f174), (175, fB Tryz.f175), (176, fB Tryz.f176), (177, fB Tryz.f177), (178, .ext (.copyCheck 198)), (179, fB Tryz.f179), (180, fB Tryz.f180), (181, fB Tryz.f181), (182, fB Tryz.f182), (183, fB Tryz.f183), (184, fB Tryz.f184), (185, fB Tryz.f185), (186, fB Tryz.f186), (187, fB Tryz.f187), (188, fB Tryz.f188), (189, fB Tryz.f189), (190, fB Tryz.f190), (191, fB Tryz.f191), (192, fB Tryz.f192), (193, fB Tryz.f193), (194, fB Tryz.f194), (195, .ext .same), (196, .ext (.mkNoZero 5)), (197, fB Tryz.f197), (198, fB Tryz.f198), (199, fB Tryz.f199), (200, fB Tryz.f200), (201, fB Tryz.f201), (202, fB Tryz.f202), (203, fB Tryz.f203), (204, fB Tryz.f204), (205, fB Tryz.f205)]
def glL : List (Nat × List AV) := [(2, [.int .u8 (.ofNat 0), .int .u8 (.ofNat 1), .int .u8 (.ofNat 56), .int .u8 (.ofNat 2), .int .u8 (.ofNat 57), .int .u8 (.ofNat 49), .int .u8 (.ofNat 28), .int .u8 (.ofNat 3), .int .u8 (.ofNat 61), .int .u8 (.ofNat 58), .int .u8 (.ofNat 42), .int .u8 (.ofNat 50), .int .u8 (.ofNat 38), .int .u8 (.ofNat 29), .int .u8 (.ofNat 17), .int .u8 (.ofNat 4), .int .u8 (.ofNat 62), .int .u8 (.ofNat 47), .int .u8 (.ofNat 59), .int .u8 (.ofNat 36), .int .u8 (.ofNat 45), .int .u8 (.ofNat 43), .int .u8 (.ofNat 51), .int .u8 (.ofNat 22), .int .u8 (.ofNat 53), .int .u8 (.ofNat 39), .int .u8 (.ofNat 33), .int .u8 (.ofNat 30), .int .u8 (.ofNat 24), .int .u8 (.ofNat 18), .int .u8 (.ofNat 12), .int .u8 (.ofNat 5), .int .u8 (.ofNat 63), .int .u8 (.ofNat 55), .int .u8 (.ofNat 48), .int .u8 (.ofNat 27), .int .u8 (.ofNat 60), .int .u8 (.ofNat 41), .int .u8 (.ofNat 37), .int .u8 (.ofNat 16), .int .u8 (.ofNat 46), .int .u8 (.ofNat 35), .int .u8 (.ofNat 44), .int .u8 (.ofNat 21), .int .u8 (.ofNat 52), .int .u8 (.ofNat 32), .int .u8 (.ofNat 23), .int .u8 (.ofNat 11), .int .u8 (.ofNat 54), .int .u8 (.ofNat 26), .int .u8 (.ofNat 40), .int .u8 (.ofNat 15), .int .u8 (.ofNat 34), .int .u8 (.ofNat 20), .int .u8 (.ofNat 31), .int .u8 (.ofNat 10), .int .u8 (.ofNat 25), .int .u8 (.ofNat 14), .int .u8 (.ofNat 19), .int .u8 (.ofNat 9), .int .u8 (.ofNat 13), .int .u8 (.ofNat 8), .int .u8 (.ofNat 7), .int .u8 (.ofNat 6)])]
def assoc {β : Type} : List (Nat × β) → Nat → Option β
 | [], _ => none
 | (i, x) :: r, j => match Nat.beq i j with
  | true => some x
  | false => assoc r j
theorem assoc_mem {β : Type} : ∀ {l : List (Nat × β)} {j : Nat} {x : β}, assoc l j = some x → (j, x) ∈ l
 | [], _, _, h => by cases h
 | (i, y) :: r, j, x, h => by
  unfold assoc at h
  split at h
  ·rename_i e; cases h; rw [Nat.eq_of_beq_eq_true e]; exact List.mem_cons_self ..
  ·exact List.mem_cons_of_mem _ (assoc_mem h)
def eqTL : List (Nat × Nat) := []
noncomputable def ctx : Ctx := ⟨assoc tiL, assoc fnL, assoc glL, assoc eqTL⟩
theorem ty_ok : TyOk Tryz.prog ctx := ⟨fun T t h => by
 have := assoc_mem h
 exact all_ty (P := Tryz.prog) (l := tiL) ⟨ti2_ok, ⟨ti3_ok, ⟨ti4_ok, ⟨ti5_ok, ⟨ti9_ok, ⟨ti20_ok, ⟨ti22_ok, ⟨ti23_ok, ⟨ti24_ok, ⟨ti25_ok, ⟨ti27_ok, ⟨ti29_ok, ⟨ti33_ok, ⟨ti35_ok, ⟨ti41_ok, ⟨ti43_ok, ⟨ti45_ok, ⟨ti51_ok, ⟨ti74_ok, ⟨ti76_ok, ⟨ti78_ok, ⟨ti104_ok, ⟨ti109_ok, ⟨ti110_ok, ⟨ti114_ok, ⟨ti116_ok, ⟨ti154_ok, ⟨ti158_ok, ⟨ti160_ok, ⟨ti162_ok, ⟨ti171_ok, ⟨ti179_ok, ⟨ti181_ok, ⟨ti196_ok, ⟨ti198_ok, ⟨ti201_ok, ⟨ti207_ok, ⟨ti218_ok, ⟨ti220_ok, ⟨ti235_ok, ⟨ti236_ok, ⟨ti239_ok, ⟨ti242_ok, ⟨ti244_ok, trivial⟩⟩⟩⟩⟩⟩⟩⟩⟩⟩⟩⟩⟩⟩⟩⟩⟩⟩⟩⟩⟩⟩⟩⟩⟩⟩⟩⟩⟩⟩⟩⟩⟩⟩⟩⟩⟩⟩⟩⟩⟩⟩⟩⟩ T t this, fun T q h => by
 have := assoc_mem h
 unfold eqTL at this
 simp only [List.mem_cons, List.mem_nil_iff, or_false, Prod.mk.injEq] at this⟩
theorem fK {i : FuncId} {f : Func} (h : Tryz.prog.funcs[i]? = some f) (hb : f.body.isSome = true := by kernel_rfl) (hn : (f.name == "runtime.NumGoroutine") = false := by kernel_rfl) : FbOk Tryz.prog i (fB f) := ⟨f, h, bOf hb, hn, rfl, rfl⟩
theorem fn_ok : FnOk Tryz.prog ctx := fun f b h => by
 have := assoc_mem h
 exact all_fn (P := Tryz.prog) (l := fnL) ⟨fK Tryz.func10, ⟨fK Tryz.func13, ⟨fK Tryz.func16, ⟨fK Tryz.func17, ⟨fK Tryz.func18, ⟨fK Tryz.func19, ⟨fK Tryz.func21, ⟨fK Tryz.func23, ⟨fK Tryz.func25, ⟨fK Tryz.func28, ⟨fK Tryz.func35, ⟨fK Tryz.func43, ⟨fK Tryz.func45, ⟨fK Tryz.func46, ⟨fK Tryz.func47, ⟨fK Tryz.func48, ⟨fK Tryz.func49, ⟨fK Tryz.func50, ⟨fK Tryz.func51, ⟨fK Tryz.func52, ⟨fK Tryz.func53, ⟨fK Tryz.func54, ⟨fK Tryz.func55, ⟨fK Tryz.func56, ⟨fK Tryz.func57, ⟨fK Tryz.func58, ⟨fK Tryz.func59, ⟨fK Tryz.func60, ⟨fK Tryz.func61, ⟨fK Tryz.func62, ⟨fK Tryz.func63, ⟨fK Tryz.func64, ⟨fK Tryz.func65, ⟨fK Tryz.func66, ⟨fK Tryz.func67, ⟨fK Tryz.func68, ⟨fK Tryz.func70, ⟨fK Tryz.func72, ⟨fK Tryz.func74, ⟨fK Tryz.func75, ⟨fK Tryz.func76, ⟨fK Tryz.func77, ⟨fK Tryz.func78, ⟨fK Tryz.func79, ⟨fK Tryz.func94, ⟨fK Tryz.func95, ⟨fK Tryz.func96, ⟨fK Tryz.func97, ⟨fK Tryz.func98, ⟨fK Tryz.func99, ⟨fK Tryz.func100, ⟨fK Tryz.func101, ⟨fK Tryz.func102, ⟨fK Tryz.func103, ⟨fK Tryz.func104, ⟨fK Tryz.func105, ⟨fK Tryz.func106, ⟨fK Tryz.func107, ⟨fK Tryz.func108, ⟨fK Tryz.func109, ⟨fK Tryz.func110, ⟨fK Tryz.func111, ⟨fK Tryz.func112, ⟨fK Tryz.func113, ⟨fK Tryz.func114, ⟨fK Tryz.func115, ⟨fK Tryz.func116, ⟨fK Tryz.func118, ⟨fK Tryz.func120, ⟨fK Tryz.func121, ⟨fK Tryz.func122, ⟨fK Tryz.func123, ⟨fK Tryz.func124, ⟨fK Tryz.func125, ⟨fK Tryz.func126, ⟨fK Tryz.func130, ⟨fK Tryz.func134, ⟨fK Tryz.func135, ⟨fK Tryz.func136, ⟨fK Tryz.func137, ⟨fK Tryz.func138, ⟨fK Tryz.func139, ⟨ext_add64, ⟨ext_sub64, ⟨fK Tryz.func142, ⟨fK Tryz.func143, ⟨fK Tryz.func144, ⟨fK Tryz.func145, ⟨fK Tryz.func146, ⟨fK Tryz.func147, ⟨fK Tryz.func148, ⟨fK Tryz.func149, ⟨fK Tryz.func150, ⟨fK Tryz.func151, ⟨fK Tryz.func152, ⟨fK Tryz.func153, ⟨fK Tryz.func154, ⟨fK Tryz.func155, ⟨ext_seq, ⟨fK Tryz.func157, ⟨fK Tryz.func158, ⟨fK Tryz.func159, ⟨fK Tryz.func160, ⟨fK Tryz.func161, ⟨fK Tryz.func162, ⟨fK Tryz.func163, ⟨fK Tryz.func164, ⟨fK Tryz.func170, ⟨fK Tryz.func171, ⟨fK Tryz.func172, ⟨fK Tryz.func173, ⟨fK Tryz.func174, ⟨fK Tryz.func175, ⟨fK Tryz.func176, ⟨fK Tryz.func177, ⟨ext_copyCheck, ⟨fK Tryz.func179, ⟨fK Tryz.func180, ⟨fK Tryz.func181, ⟨fK Tryz.func182, ⟨fK Tryz.func183, ⟨fK Tryz.func184, ⟨fK Tryz.func185, ⟨fK Tryz.func186, ⟨fK Tryz.func187, ⟨fK Tryz.func188, ⟨fK Tryz.func189, ⟨fK Tryz.func190, ⟨fK Tryz.func191, ⟨fK Tryz.func192, ⟨fK Tryz.func193, ⟨fK Tryz.func194, ⟨ext_same, ⟨ext_mkNoZero, ⟨fK Tryz.func197, ⟨fK Tryz.func198, ⟨fK Tryz.func199, ⟨fK Tryz.func200, ⟨fK Tryz.func201, ⟨fK Tryz.func202, ⟨fK Tryz.func203, ⟨fK Tryz.func204, ⟨fK Tryz.func205, trivial⟩⟩⟩⟩⟩⟩⟩⟩⟩⟩⟩⟩⟩⟩⟩⟩⟩⟩⟩⟩⟩⟩⟩⟩⟩⟩⟩⟩⟩⟩⟩⟩⟩⟩⟩⟩⟩⟩⟩⟩⟩⟩⟩⟩⟩⟩⟩⟩⟩⟩⟩⟩⟩⟩⟩⟩⟩⟩⟩⟩⟩⟩⟩⟩⟩⟩⟩⟩⟩⟩⟩⟩⟩⟩⟩⟩⟩⟩⟩⟩⟩⟩⟩⟩⟩⟩⟩⟩⟩⟩⟩⟩⟩⟩⟩⟩⟩⟩⟩⟩⟩⟩⟩⟩⟩⟩⟩⟩⟩⟩⟩⟩⟩⟩⟩⟩⟩⟩⟩⟩⟩⟩⟩⟩⟩⟩⟩⟩⟩⟩⟩⟩⟩⟩⟩⟩⟩⟩⟩⟩⟩⟩⟩ f b this
end Go.Proofs.YtejljnlfgiifoaaGreatDoor.VM
namespace Go.Proofs.YtejljnlfgiifoaaGreatDoor.VM
open Go Go.RowKit
noncomputable def isT : AV → Bool
 | .bool true => true
 | _ => false
theorem isT_eq : ∀ u, isT u = true → u = .bool true := fun u h => by
 unfold isT at h
 split at h
 ·rfl
 ·cases h
set_option maxRecDepth 100000000 in
theorem ran13 : exec false ctx 100000 13 [] isT = true := by kernel_rfl
theorem walk13 (W : World) (hg : ∀ g cs, ctx.gl g = some cs → ∃ c U fz, W.heap[g]? = some (.cells c U fz) ∧ VL (fun _ => none) cs (c.toList.take cs.length)) :
  Calls Tryz.prog 13 #[] W fun e W' => e = .returned (.bool true) ∧ Below W.heap.size W W' := by
 obtain ⟨fe, hf⟩ : ∃ fe, ctx.fn 13 = some (.body fe) := ⟨_, rfl⟩
 refine (exec_sound (by kernel_rfl) ty_ok fn_ok hf isT_eq ran13 hg).mono ?_
 rintro e W' ⟨⟨β, y, rfl, hv⟩, hb⟩
 rw [hv.bool_inv]
 exact ⟨rfl, hb⟩
end Go.Proofs.YtejljnlfgiifoaaGreatDoor.VM
namespace Go.Proofs.YtejljnlfgiifoaaGreatDoor.VM
open Go Go.RowKit Go.Proofs.YtejljnlfgiifoaaGreatDoor
theorem laid_find {P : Program} {W : World} {n : String} {d : DataW Unit} : ∀ {l : List (String × DataW Unit)} {ps : List MemPlace}, DataW.LaidVars P W l ps → (n, d) ∈ l →
  ∃ p, DataW.LaidVars P W [(n, d)] p
 | [], _, _, h => by cases h
 | (m, x) :: r, ps, h, hm => by
  obtain ⟨g, t, cs, fuel, p, q, h1, h2, h3, h4, h5, h6⟩ := h
  rcases List.mem_cons.1 hm with hm | hm
  ·cases hm
   exact ⟨_, g, t, cs, fuel, p, [], h1, h2, h3, h4, rfl, rfl⟩
  ·exact laid_find h5 hm
end Go.Proofs.YtejljnlfgiifoaaGreatDoor.VM
