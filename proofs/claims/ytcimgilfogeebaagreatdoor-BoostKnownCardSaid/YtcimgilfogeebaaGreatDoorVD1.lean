/- VM, drawn regions, 1: what stands when some of a region's operations have been done. -/
import Derived.Test.YtcimgilfogeebaaGreatDoorV16
set_option linter.unusedVariables false
set_option linter.unusedSimpArgs false
namespace Go.Proofs.YtcimgilfogeebaaGreatDoor.VM
open Go Go.RowKit Go.Proofs.YtcimgilfogeebaaGreatDoor

/-- one operation of the region, as the machine ran it -/
structure Rc where
  o : Oper
  want : Bool
  env : Env
  v : AV
  hs : HpF
  lo : Nat
  hi : Nat
  h' : HpF
  tl : List Nat
def Rc.tch (r : Rc) (i : Nat) : Prop := (r.lo ≤ i ∧ i < r.hi) ∨ i ∈ r.tl
def LastH (L : Nat → Prop) (R : List Rc) (i j : Nat) (r : Rc) : Prop := R[j]? = some r ∧ L j ∧ r.tch i ∧ ∀ j' r', j < j' → R[j']? = some r' → L j' → ¬ r'.tch i
def NoneH (L : Nat → Prop) (R : List Rc) (i : Nat) : Prop := ∀ (j : Nat) (r : Rc), R[j]? = some r → L j → ¬ r.tch i
def LastE (L : Nat → Prop) (R : List Rc) (t j : Nat) (r : Rc) : Prop := R[j]? = some r ∧ L j ∧ r.o.dst = some t ∧ ∀ j' r', j < j' → R[j']? = some r' → L j' → r'.o.dst ≠ some t
def NoneE (L : Nat → Prop) (R : List Rc) (t : Nat) : Prop := ∀ (j : Nat) (r : Rc), R[j]? = some r → L j → r.o.dst ≠ some t
def AliveH (L : Nat → Prop) (R : List Rc) (h0 : HpF) (i : Nat) : Prop := (∃ j r b, LastH L R i j r ∧ r.h' i = some b) ∨ (NoneH L R i ∧ ∃ b, h0 i = some b)
def res (β : Be) (n : Nat) : Be := fun i => if i < n then β i else none
theorem res_le {β : Be} {m n : Nat} (h : m ≤ n) : BLe (res β m) (res β n) := fun i p hp => by
  unfold res at *
  split at hp
  · rw [if_pos (by omega)]; exact hp
  · cases hp
theorem res_le' {β : Be} {n : Nat} : BLe (res β n) β := fun i p hp => by
  unfold res at hp
  split at hp
  · exact hp
  · cases hp
theorem res_mono {β γ : Be} (h : BLe β γ) (n : Nat) : BLe (res β n) (res γ n) := fun i p hp => by
  unfold res at *
  split at hp
  · rename_i hi; rw [if_pos hi]; exact h i p hp
  · cases hp
theorem res_fresh (β : Be) (n : Nat) : Fresh (res β n) n := fun i hi => by unfold res; rw [if_neg (by omega)]

theorem last_of {P : Nat → Prop} : ∀ (m : Nat), (∀ j, P j → j < m) → (∃ j, P j) → ∃ j, P j ∧ ∀ j', j < j' → ¬ P j'
  | 0, hb, ⟨j, hj⟩ => absurd (hb j hj) (Nat.not_lt_zero _)
  | m + 1, hb, ⟨j, hj⟩ => by
    by_cases h : P m
    · exact ⟨m, h, fun j' hj' hp => by have := hb j' hp; omega⟩
    · exact last_of m (fun j hj => by
        have := hb j hj
        rcases Nat.lt_or_ge j m with h1 | h1
        · exact h1
        · have : j = m := by omega
          subst this; exact absurd hj h) ⟨j, hj⟩
theorem lastH_or (L : Nat → Prop) (R : List Rc) (i : Nat) : (∃ j r, LastH L R i j r) ∨ NoneH L R i := by
  by_cases h : ∃ j, ∃ r, R[j]? = some r ∧ L j ∧ r.tch i
  · obtain ⟨j, ⟨r, h1, h2, h3⟩, h4⟩ := last_of (P := fun j => ∃ r, R[j]? = some r ∧ L j ∧ r.tch i) R.length (fun j ⟨r, hr, _⟩ => (List.getElem?_eq_some_iff.1 hr).1) h
    exact .inl ⟨j, r, h1, h2, h3, fun j' r' hj hr hL ht => h4 j' hj ⟨r', hr, hL, ht⟩⟩
  · exact .inr fun j r hr hL ht => h ⟨j, r, hr, hL, ht⟩
theorem lastE_or (L : Nat → Prop) (R : List Rc) (t : Nat) : (∃ j r, LastE L R t j r) ∨ NoneE L R t := by
  by_cases h : ∃ j, ∃ r, R[j]? = some r ∧ L j ∧ r.o.dst = some t
  · obtain ⟨j, ⟨r, h1, h2, h3⟩, h4⟩ := last_of (P := fun j => ∃ r, R[j]? = some r ∧ L j ∧ r.o.dst = some t) R.length (fun j ⟨r, hr, _⟩ => (List.getElem?_eq_some_iff.1 hr).1) h
    exact .inl ⟨j, r, h1, h2, h3, fun j' r' hj hr hL ht => h4 j' hj ⟨r', hr, hL, ht⟩⟩
  · exact .inr fun j r hr hL ht => h ⟨j, r, hr, hL, ht⟩

/-- j waits for i, through others -/
inductive Wt (all : List Oper) : Nat → Nat → Prop
  | one {j : Nat} {o : Oper} {e : Edge} (h : all[j]? = some o) (he : e ∈ o.after) (hb : Region.binds .any e = true) : Wt all j e.on
  | more {j k i : Nat} (h : Wt all j k) (h' : Wt all k i) : Wt all j i

/-- the machine's run of a region, whole -/
structure RegOk (P : Program) (G : GlF) (all : List Oper) (nt : Nat) (E0 : Env) (h0 : HpF) (N0 : Nat) (R : List Rc) : Prop where
  ops : ∀ (j : Nat) (r : Rc), R[j]? = some r → all[j]? = some r.o
  base : ∀ (j : Nat) (r : Rc), R[j]? = some r → N0 ≤ r.lo
  mono : ∀ (i j : Nat) (ri rj : Rc), i < j → R[i]? = some ri → R[j]? = some rj → ri.hi ≤ rj.lo
  dom0 : Dom h0 N0
  dom : ∀ (j : Nat) (r : Rc), R[j]? = some r → Dom r.hs r.lo
  facts : ∀ (j : Nat) (r : Rc), R[j]? = some r → Facts r.hs r.lo r.h' r.hi r.tl
  free : ∀ (i j : Nat) (ri rj : Rc), i < j → R[i]? = some ri → R[j]? = some rj → Wt all j i ∨
    ((∀ t, ri.o.dst = some t → t ∉ looks all rj.o ∧ rj.o.dst ≠ some t) ∧ (∀ t, rj.o.dst = some t → t ∉ looks all ri.o) ∧ (∀ id b, rj.hs id = some b → ¬ ri.tch id) ∧ (∀ t, t ∈ rj.tl → ri.hs t = none))
  low : ∀ (j i : Nat), Wt all j i → i < j
  canon : ∀ (j : Nat) (r : Rc) (id : Nat) (b : Blk), R[j]? = some r → r.hs id = some b → (∃ i ri, LastH (fun k => k < j) R id i ri ∧ ri.h' id = some b) ∨ (NoneH (fun k => k < j) R id ∧ h0 id = some b)
  canonE : ∀ (j : Nat) (r : Rc) (t : Nat) (v : AV), R[j]? = some r → r.env.get t = some v → (∃ i ri, LastE (fun k => k < j) R t i ri ∧ ri.v = v) ∨ (NoneE (fun k => k < j) R t ∧ E0.get t = some v)
  sem : ∀ (j : Nat) (r : Rc), R[j]? = some r → r.want = true → OpSem P G r.o.op r.env r.hs r.lo r.hi r.v r.h' r.tl
  unw : ∀ (j : Nat) (r : Rc), R[j]? = some r → r.want = false → r.lo = r.hi ∧ r.tl = [] ∧ r.h' = r.hs ∧ r.v = .tup []
  wsem : ∀ (j : Nat) (r : Rc), R[j]? = some r → ∀ (β : Be) (a : Act), (∀ t v, t ∈ looks all r.o → r.env.get t = some v → ∃ y, a.tmps[t]? = some y ∧ VR β v y) → Region.wanted r.o (yielded all.toArray a.tmps) = r.want
  dst : ∀ (j : Nat) (r : Rc) (t : Nat), R[j]? = some r → r.o.dst = some t → t < nt

/-- when those of L have been done -/
structure RI (G : GlF) (nt : Nat) (E0 : Env) (h0 : HpF) (N0 Ne : Nat) (R : List Rc) (βs : Be) (Ws : World) (L : Nat → Prop) (β : Be) (a : Act) (W : World) : Prop where
  tsize : a.tmps.size = nt
  defers : a.defers = []
  slotW : ∀ t j r, LastE L R t j r → ∃ y, a.tmps[t]? = some y ∧ VR (res β r.hi) r.v y
  slot0 : ∀ t v, NoneE L R t → E0.get t = some v → ∃ y, a.tmps[t]? = some y ∧ VR (res β N0) v y
  heapW : ∀ i j r b, LastH L R i j r → r.h' i = some b → BlkAt (res β r.hi) W i b
  heap0 : ∀ i b, NoneH L R i → h0 i = some b → BlkAt (res β N0) W i b
  inj : ∀ i j p q, AliveH L R h0 i → AliveH L R h0 j → β i = some p → β j = some q → p.b = q.b → i = j
  sep : ∀ i p, AliveH L R h0 i → β i = some p → G p.b = none
  glob : ∀ g cs, G g = some cs → ∃ c U fz, W.heap[g]? = some (.cells c U fz) ∧ VL (fun _ => none) cs (c.toList.take cs.length)
  fresh : ∀ (j : Nat) (r : Rc) (i : Nat), R[j]? = some r → ¬ L j → r.lo ≤ i → i < r.hi → β i = none
  freshE : ∀ i, Ne ≤ i → β i = none
  ext : ∀ i, i < N0 → β i = βs i
  os : W.os = Ws.os
  tape : W.tape = Ws.tape
  output : W.output = Ws.output
  size : Ws.heap.size ≤ W.heap.size
  kept : ∀ k, k < Ws.heap.size → (∀ (j : Nat) (r : Rc) (t : Nat), R[j]? = some r → L j → t ∈ r.tl → t < N0 → ∀ p, βs t = some p → p.b ≠ k) → W.heap[k]? = Ws.heap[k]?
  own : ∀ i p, N0 ≤ i → AliveH L R h0 i → β i = some p → Ws.heap.size ≤ p.b ∨ ∃ t, t < N0 ∧ (∃ (j : Nat) (r : Rc), R[j]? = some r ∧ L j ∧ t ∈ r.tl) ∧ ¬ AliveH L R h0 t ∧ ∃ q, βs t = some q ∧ q.b = p.b

section
variable {P : Program} {G : GlF} {all : List Oper} {nt : Nat} {E0 : Env} {h0 : HpF} {N0 Ne : Nat} {R : List Rc} {βs : Be} {Ws : World} {L : Nat → Prop} {β : Be} {a : Act} {W : World} {i : Nat} {r : Rc}

theorem RegOk.lohi (ok : RegOk P G all nt E0 h0 N0 R) {j : Nat} {r : Rc} (h : R[j]? = some r) : r.lo ≤ r.hi := (ok.facts j r h).le
/-- later ones that have been done ahead of i leave alone what i touches -/
theorem RegOk.later (ok : RegOk P G all nt E0 h0 N0 R) (hi : R[i]? = some r) (hL : ¬ L i) (hcl : ∀ j k, L j → Wt all j k → L k) {j : Nat} {rj : Rc} (hij : i < j) (hj : R[j]? = some rj) (hLj : L j) :
    (∀ t, r.o.dst = some t → t ∉ looks all rj.o ∧ rj.o.dst ≠ some t) ∧ (∀ t, rj.o.dst = some t → t ∉ looks all r.o) ∧ (∀ id b, rj.hs id = some b → ¬ r.tch id) ∧ (∀ t, t ∈ rj.tl → r.hs t = none) := by
  rcases ok.free i j r rj hij hi hj with h | h
  · exact absurd (hcl j i hLj h) hL
  · exact h
theorem RegOk.laterT (ok : RegOk P G all nt E0 h0 N0 R) (hi : R[i]? = some r) (hL : ¬ L i) (hcl : ∀ j k, L j → Wt all j k → L k) {j : Nat} {rj : Rc} (hij : i < j) (hj : R[j]? = some rj) (hLj : L j) {id : Nat} (ht : r.tch id) : ¬ rj.tch id := fun hj' => by
  obtain ⟨_, _, h3, h4⟩ := ok.later hi hL hcl hij hj hLj
  have hm := ok.mono i j r rj hij hi hj
  rcases hj' with ⟨h5, _⟩ | h5
  · rcases ht with ⟨_, h6⟩ | h6
    · omega
    · have := ((ok.facts i r hi).old id h6).1
      have := ok.lohi hi
      omega
  · obtain ⟨b, hb⟩ := Option.isSome_iff_exists.1 ((ok.facts j rj hj).old id h5).2
    exact h3 id b hb ht
/-- what i looks at in memory lies there -/
theorem RegOk.seesH (ok : RegOk P G all nt E0 h0 N0 R) (hi : R[i]? = some r) (hL : ¬ L i) (hw : ∀ k, Wt all i k → L k) (hcl : ∀ j k, L j → Wt all j k → L k) {id : Nat} {b : Blk} (hb : r.hs id = some b) :
    (∃ j rj, LastH L R id j rj ∧ rj.h' id = some b ∧ rj.hi ≤ r.lo) ∨ (NoneH L R id ∧ h0 id = some b) := by
  have hlt : id < r.lo := (ok.dom i r hi).lt (by rw [hb]; rfl)
  have noLater : ∀ j' r', i < j' → R[j']? = some r' → L j' → ¬ r'.tch id := fun j' r' h1 h2 h3 h4 => by
    obtain ⟨_, _, _, h5⟩ := ok.later hi hL hcl h1 h2 h3
    rcases h4 with ⟨h6, _⟩ | h6
    · have := ok.mono i j' r r' h1 hi h2; have := ok.lohi hi; omega
    · rw [h5 id h6] at hb; cases hb
  have inL : ∀ j' r', j' < i → R[j']? = some r' → r'.tch id → L j' := fun j' r' h1 h2 h3 => by
    rcases ok.free j' i r' r h1 h2 hi with h | ⟨_, _, h4, _⟩
    · exact hw j' h
    · exact absurd h3 (h4 id b hb)
  rcases ok.canon i r id b hi hb with ⟨j, rj, ⟨h1, h2, h3, h4⟩, h5⟩ | ⟨h1, h2⟩
  · refine .inl ⟨j, rj, ⟨h1, inL j rj h2 h1 h3, h3, fun j' r' h6 h7 h8 => ?_⟩, h5, ok.mono j i rj r h2 h1 hi⟩
    rcases Nat.lt_trichotomy j' i with h9 | h9 | h9
    · exact h4 j' r' h6 h7 h9
    · subst h9; exact absurd h8 hL
    · exact noLater j' r' h9 h7 h8
  · refine .inr ⟨fun j' r' h6 h7 => ?_, h2⟩
    rcases Nat.lt_trichotomy j' i with h9 | h9 | h9
    · exact h1 j' r' h6 h9
    · subst h9; exact absurd h7 hL
    · exact noLater j' r' h9 h6 h7
theorem RegOk.seesE (ok : RegOk P G all nt E0 h0 N0 R) (hi : R[i]? = some r) (hL : ¬ L i) (hw : ∀ k, Wt all i k → L k) (hcl : ∀ j k, L j → Wt all j k → L k) {t : Nat} {v : AV} (hlook : t ∈ looks all r.o) (hv : r.env.get t = some v) :
    (∃ j rj, LastE L R t j rj ∧ rj.v = v ∧ rj.hi ≤ r.lo) ∨ (NoneE L R t ∧ E0.get t = some v) := by
  have noLater : ∀ j' r', i < j' → R[j']? = some r' → L j' → r'.o.dst ≠ some t := fun j' r' h1 h2 h3 h4 => by
    obtain ⟨_, h5, _, _⟩ := ok.later hi hL hcl h1 h2 h3
    exact h5 t h4 hlook
  have inL : ∀ j' r', j' < i → R[j']? = some r' → r'.o.dst = some t → L j' := fun j' r' h1 h2 h3 => by
    rcases ok.free j' i r' r h1 h2 hi with h | ⟨h4, _⟩
    · exact hw j' h
    · exact absurd hlook (h4 t h3).1
  rcases ok.canonE i r t v hi hv with ⟨j, rj, ⟨h1, h2, h3, h4⟩, h5⟩ | ⟨h1, h2⟩
  · refine .inl ⟨j, rj, ⟨h1, inL j rj h2 h1 h3, h3, fun j' r' h6 h7 h8 => ?_⟩, h5, ok.mono j i rj r h2 h1 hi⟩
    rcases Nat.lt_trichotomy j' i with h9 | h9 | h9
    · exact h4 j' r' h6 h7 h9
    · subst h9; exact absurd h8 hL
    · exact noLater j' r' h9 h7 h8
  · refine .inr ⟨fun j' r' h6 h7 => ?_, h2⟩
    rcases Nat.lt_trichotomy j' i with h9 | h9 | h9
    · exact h1 j' r' h6 h9
    · subst h9; exact absurd h7 hL
    · exact noLater j' r' h9 h6 h7
theorem RI.sees (inv : RI G nt E0 h0 N0 Ne R βs Ws L β a W) (ok : RegOk P G all nt E0 h0 N0 R) (hi : R[i]? = some r) (hL : ¬ L i) (hw : ∀ k, Wt all i k → L k) (hcl : ∀ j k, L j → Wt all j k → L k) :
    ∀ t v, t ∈ looks all r.o → r.env.get t = some v → ∃ y, a.tmps[t]? = some y ∧ VR (res β r.lo) v y := fun t v hlook hv => by
  rcases ok.seesE hi hL hw hcl hlook hv with ⟨j, rj, h1, rfl, h2⟩ | ⟨h1, h2⟩
  · obtain ⟨y, hy, hr⟩ := inv.slotW t j rj h1
    exact ⟨y, hy, hr.mono (res_le h2)⟩
  · obtain ⟨y, hy, hr⟩ := inv.slot0 t v h1 h2
    exact ⟨y, hy, hr.mono (res_le (ok.base i r hi))⟩
theorem RI.aliveHs (ok : RegOk P G all nt E0 h0 N0 R) (hi : R[i]? = some r) (hL : ¬ L i) (hw : ∀ k, Wt all i k → L k) (hcl : ∀ j k, L j → Wt all j k → L k) {id : Nat} (h : (r.hs id).isSome = true) : AliveH L R h0 id := by
  obtain ⟨b, hb⟩ := Option.isSome_iff_exists.1 h
  rcases ok.seesH hi hL hw hcl hb with ⟨j, rj, h1, h2, _⟩ | ⟨h1, h2⟩
  · exact .inl ⟨j, rj, b, h1, h2⟩
  · exact .inr ⟨h1, b, h2⟩
theorem RI.hr (inv : RI G nt E0 h0 N0 Ne R βs Ws L β a W) (ok : RegOk P G all nt E0 h0 N0 R) (hi : R[i]? = some r) (hL : ¬ L i) (hw : ∀ k, Wt all i k → L k) (hcl : ∀ j k, L j → Wt all j k → L k) : HR G (res β r.lo) r.hs W := by
  refine ⟨fun id b hb => ?_, fun j k p q hj hk hp hq e => ?_, inv.glob, fun j p hj hp => ?_⟩
  · rcases ok.seesH hi hL hw hcl hb with ⟨j, rj, h1, h2, h3⟩ | ⟨h1, h2⟩
    · exact (inv.heapW id j rj b h1 h2).mono (res_le h3) (fun _ _ => rfl)
    · exact (inv.heap0 id b h1 h2).mono (res_le (ok.base i r hi)) (fun _ _ => rfl)
  · exact inv.inj j k p q (RI.aliveHs ok hi hL hw hcl hj) (RI.aliveHs ok hi hL hw hcl hk) (res_le' j p hp) (res_le' k q hq) e
  · exact inv.sep j p (RI.aliveHs ok hi hL hw hcl hj) (res_le' j p hp)
theorem RI.place (inv : RI G nt E0 h0 N0 Ne R βs Ws L β a W) {id : Nat} (h : AliveH L R h0 id) : ∃ p, β id = some p ∧ p.b < W.heap.size := by
  rcases h with ⟨j, rj, b, h1, h2⟩ | ⟨h1, b, h2⟩
  · obtain ⟨p, hp, hl⟩ := (inv.heapW id j rj b h1 h2).place
    exact ⟨p, res_le' id p hp, hl⟩
  · obtain ⟨p, hp, hl⟩ := (inv.heap0 id b h1 h2).place
    exact ⟨p, res_le' id p hp, hl⟩

/-- one more has been done -/
theorem RI.advance (inv : RI G nt E0 h0 N0 Ne R βs Ws L β a W) (ok : RegOk P G all nt E0 h0 N0 R) (hne : ∀ (j : Nat) (r : Rc), R[j]? = some r → r.hi ≤ Ne) (hi : R[i]? = some r) (hL : ¬ L i) (hw : ∀ k, Wt all i k → L k) (hcl : ∀ j k, L j → Wt all j k → L k)
    {β1 : Be} {W' : World} {y : Value} (hp : Post G (res β r.lo) r.hs W r.lo r.hi r.tl β1 r.h' W') (hy : VR β1 r.v y) {L' : Nat → Prop} (hL' : ∀ j, L' j ↔ L j ∨ j = i) :
    ∃ β', RI G nt E0 h0 N0 Ne R βs Ws L' β' (a.put r.o.dst y) W' := by
  have hlohi := ok.lohi hi
  have hbase := ok.base i r hi
  have hF := ok.facts i r hi
  let β' : Be := fun id => if r.lo ≤ id ∧ id < r.hi then β1 id else β id
  have hin : ∀ id, r.lo ≤ id → id < r.hi → β' id = β1 id := fun id h1 h2 => if_pos ⟨h1, h2⟩
  have hout : ∀ id, ¬ (r.lo ≤ id ∧ id < r.hi) → β' id = β id := fun id h => if_neg h
  have hlow : ∀ id, id < r.lo → β1 id = β id := fun id h => by rw [hp.ext id (.inl h)]; unfold res; rw [if_pos h]
  have ble : BLe β β' := fun id p h => by
    by_cases e : r.lo ≤ id ∧ id < r.hi
    · rw [inv.fresh i r id hi hL e.1 e.2] at h; cases h
    · rw [hout id e]; exact h
  have hres : ∀ id, id < r.hi → β' id = β1 id := fun id h => by
    by_cases e : r.lo ≤ id
    · exact hin id e h
    · rw [hout id (fun h => e h.1), hlow id (by omega)]
  have b1le : BLe β1 (res β' r.hi) := fun id p h => by
    unfold res
    by_cases e : id < r.hi
    · rw [if_pos e, hres id e]; exact h
    · rw [hp.ext id (.inr (by omega)), res_fresh β r.lo id (by omega)] at h; cases h
  have tlAlive : ∀ t, t ∈ r.tl → AliveH L R h0 t ∧ t < r.lo := fun t ht => ⟨RI.aliveHs ok hi hL hw hcl (hF.old t ht).2, (hF.old t ht).1⟩
  have lastI : ∀ id, r.tch id → LastH L' R id i r := fun id ht => ⟨hi, (hL' i).2 (.inr rfl), ht, fun j' r' h1 h2 h3 => by
    rcases (hL' j').1 h3 with h4 | h4
    · exact ok.laterT hi hL hcl h1 h2 h4 ht
    · omega⟩
  have lastT : ∀ id j rj, r.tch id → LastH L' R id j rj → j = i ∧ rj = r := fun id j rj ht ⟨h1, h2, h3, h4⟩ => by
    have key : j = i := by
      rcases Nat.lt_trichotomy j i with h | h | h
      · exact absurd ht (h4 i r h hi ((hL' i).2 (.inr rfl)))
      · exact h
      · rcases (hL' j).1 h2 with h5 | h5
        · exact absurd h3 (ok.laterT hi hL hcl h h1 h5 ht)
        · exact h5
    subst key
    rw [hi] at h1; cases h1; exact ⟨rfl, rfl⟩
  have lastO : ∀ id j rj, ¬ r.tch id → LastH L' R id j rj → LastH L R id j rj := fun id j rj ht ⟨h1, h2, h3, h4⟩ => by
    rcases (hL' j).1 h2 with h5 | h5
    · exact ⟨h1, h5, h3, fun j' r' h6 h7 h8 => h4 j' r' h6 h7 ((hL' j').2 (.inl h8))⟩
    · subst h5; rw [hi] at h1; cases h1; exact absurd h3 ht
  have noneO : ∀ id, NoneH L' R id → NoneH L R id ∧ ¬ r.tch id := fun id h => ⟨fun j rj h1 h2 => h j rj h1 ((hL' j).2 (.inl h2)), h i r hi ((hL' i).2 (.inr rfl))⟩
  have alive : ∀ id, AliveH L' R h0 id → (r.tch id ∧ (r.h' id).isSome = true) ∨ (¬ r.tch id ∧ AliveH L R h0 id) := fun id h => by
    by_cases ht : r.tch id
    · rcases h with ⟨j, rj, b, h1, h2⟩ | ⟨h1, _⟩
      · obtain ⟨_, rfl⟩ := lastT id j rj ht h1
        exact .inl ⟨ht, by rw [h2]; rfl⟩
      · exact absurd ht (noneO id h1).2
    · rcases h with ⟨j, rj, b, h1, h2⟩ | ⟨h1, b, h2⟩
      · exact .inr ⟨ht, .inl ⟨j, rj, b, lastO id j rj ht h1, h2⟩⟩
      · exact .inr ⟨ht, .inr ⟨(noneO id h1).1, b, h2⟩⟩
  have apartB : ∀ id p, ¬ r.tch id → AliveH L R h0 id → β id = some p → W'.heap[p.b]? = W.heap[p.b]? := fun id p ht ha hpb => by
    obtain ⟨q, hq, hl⟩ := inv.place ha
    rw [hpb] at hq; cases hq
    refine hp.kept p.b hl fun t hmem u hu e => ht (.inr ?_)
    have := inv.inj t id u p (tlAlive t hmem).1 ha (res_le' t u hu) hpb e
    rw [← this]; exact hmem
  have hbit : ∀ id, r.tch id → id < r.hi := fun id ht => by
    rcases ht with h | h
    · exact h.2
    · have := (tlAlive id h).2; omega
  refine ⟨β', ?_⟩
  refine ⟨by cases hd : r.o.dst <;> simp [Act.put, inv.tsize], by cases hd : r.o.dst <;> simp [Act.put, inv.defers], fun t j rj hl => ?_, fun t v hn hv => ?_, fun id j rj b hl hb => ?_, fun id b hn hb => ?_, fun u w p q hu hw' hpu hqw e => ?_, fun u p hu hpu => ?_, hp.hr.glob, fun j rj id hj hnL h1 h2 => ?_, fun id hid => ?_, fun id hid => by rw [hout id (fun h => by omega)]; exact inv.ext id hid,
    hp.os.trans inv.os, hp.tape.trans inv.tape, hp.output.trans inv.output, Nat.le_trans inv.size hp.size, fun k hk hcond => ?_, fun id p hid ha hpb => ?_⟩
  · -- slots written
    obtain ⟨h1, h2, h3, h4⟩ := hl
    by_cases hd : r.o.dst = some t
    · have hji : j = i := by
        rcases Nat.lt_trichotomy j i with h | h | h
        · exact absurd hd (h4 i r h hi ((hL' i).2 (.inr rfl)))
        · exact h
        · rcases (hL' j).1 h2 with h5 | h5
          · exact absurd h3 ((ok.later hi hL hcl h h1 h5).1 t hd).2
          · exact h5
      subst hji
      rw [hi] at h1; cases h1
      have htn := ok.dst _ _ t hi hd
      exact ⟨y, by rw [hd]; simp [Act.put, inv.tsize, htn], hy.mono b1le⟩
    · have hLj : L j := by
        rcases (hL' j).1 h2 with h5 | h5
        · exact h5
        · subst h5; rw [hi] at h1; cases h1; exact absurd h3 hd
      obtain ⟨z, hz, hr⟩ := inv.slotW t j rj ⟨h1, hLj, h3, fun j' r' h6 h7 h8 => h4 j' r' h6 h7 ((hL' j').2 (.inl h8))⟩
      refine ⟨z, ?_, hr.mono (res_mono ble _)⟩
      cases hd2 : r.o.dst with
      | none => exact hz
      | some u =>
        simp only [Act.put]
        rw [Array.getElem?_setIfInBounds_ne (fun e => hd (by rw [hd2, e]))]; exact hz
  · -- slots as they were
    have hd : r.o.dst ≠ some t := hn i r hi ((hL' i).2 (.inr rfl))
    obtain ⟨z, hz, hr⟩ := inv.slot0 t v (fun j rj h1 h2 => hn j rj h1 ((hL' j).2 (.inl h2))) hv
    refine ⟨z, ?_, hr.mono (res_mono ble _)⟩
    cases hd2 : r.o.dst with
    | none => exact hz
    | some u =>
      simp only [Act.put]
      rw [Array.getElem?_setIfInBounds_ne (fun e => hd (by rw [hd2, e]))]; exact hz
  · -- blocks written
    by_cases ht : r.tch id
    · obtain ⟨_, rfl⟩ := lastT id j rj ht hl
      exact (hp.hr.at_ id b hb).mono b1le (fun _ _ => rfl)
    · have hl2 := lastO id j rj ht hl
      exact (inv.heapW id j rj b hl2 hb).mono (res_mono ble _) fun p hpb => apartB id p ht (.inl ⟨j, rj, b, hl2, hb⟩) (res_le' id p hpb)
  · obtain ⟨h1, h2⟩ := noneO id hn
    exact (inv.heap0 id b h1 hb).mono (res_mono ble _) fun p hpb => apartB id p h2 (.inr ⟨h1, b, hb⟩) (res_le' id p hpb)
  · -- no two at one place
    have mixed : ∀ u w p q, r.tch u → (r.h' u).isSome = true → ¬ r.tch w → AliveH L R h0 w → β' u = some p → β' w = some q → p.b ≠ q.b := fun u w p q hu hs hw hwa hpu hqw e => by
      have hqw' : β w = some q := by rw [← hout w (fun h => hw (.inl h))]; exact hqw
      obtain ⟨q', hq', hl⟩ := inv.place hwa
      rw [hqw'] at hq'; cases hq'
      have tlcase : ∀ t u', t ∈ r.tl → (res β r.lo) t = some u' → u'.b = q.b → False := fun t u' hmem hu' e' => by
        have := inv.inj t w u' q (tlAlive t hmem).1 hwa (res_le' t u' hu') hqw' e'
        exact hw (.inr (by rw [← this]; exact hmem))
      rcases hu with h | h
      · rcases hp.new u h.1 h.2 p (by rw [← hin u h.1 h.2]; exact hpu) hs with h1 | ⟨t, h1, _, u', h2, h3⟩
        · omega
        · exact tlcase t u' h1 h2 (by rw [h3]; exact e)
      · have hlt := (tlAlive u h).2
        exact tlcase u p h (by unfold res; rw [if_pos hlt, ← hlow u hlt, ← hres u (by omega)]; exact hpu) e
    rcases alive u hu with ⟨h1, h2⟩ | ⟨h1, h2⟩
    · rcases alive w hw' with ⟨h3, h4⟩ | ⟨h3, h4⟩
      · exact hp.hr.inj u w p q h2 h4 (by rw [← hres u (hbit u h1)]; exact hpu) (by rw [← hres w (hbit w h3)]; exact hqw) e
      · exact absurd e (mixed u w p q h1 h2 h3 h4 hpu hqw)
    · rcases alive w hw' with ⟨h3, h4⟩ | ⟨h3, h4⟩
      · exact absurd e.symm (mixed w u q p h3 h4 h1 h2 hqw hpu)
      · exact inv.inj u w p q h2 h4 (by rw [← hout u (fun h => h1 (.inl h))]; exact hpu) (by rw [← hout w (fun h => h3 (.inl h))]; exact hqw) e
  · rcases alive u hu with ⟨h1, h2⟩ | ⟨h1, h2⟩
    · exact hp.hr.sep u p h2 (by rw [← hres u (hbit u h1)]; exact hpu)
    · exact inv.sep u p h2 (by rw [← hout u (fun h => h1 (.inl h))]; exact hpu)
  · have hji : j ≠ i := fun e => hnL ((hL' j).2 (.inr e))
    have hnLj : ¬ L j := fun e => hnL ((hL' j).2 (.inl e))
    have : ¬ (r.lo ≤ id ∧ id < r.hi) := fun h => by
      rcases Nat.lt_or_gt_of_ne hji with h3 | h3
      · have := ok.mono j i rj r h3 hj hi; omega
      · have := ok.mono i j r rj h3 hi hj; omega
    rw [hout id this]
    exact inv.fresh j rj id hj hnLj h1 h2
  · rw [hout id (fun h => by have := hne i r hi; omega)]
    exact inv.freshE id hid
  · rw [hp.kept k (Nat.lt_of_lt_of_le hk inv.size) fun t hmem q hq e => ?_, inv.kept k hk fun j rj t h1 h2 h3 h4 => hcond j rj t h1 ((hL' j).2 (.inl h2)) h3 h4]
    have hqβ := res_le' t q hq
    rcases Nat.lt_or_ge t N0 with h1 | h1
    · exact hcond i r t hi ((hL' i).2 (.inr rfl)) hmem h1 q (by rw [← inv.ext t h1]; exact hqβ) e
    · rcases inv.own t q h1 (tlAlive t hmem).1 hqβ with h2 | ⟨u, h2, ⟨j, rj, h3, h4, h5⟩, _, v, h6, h7⟩
      · omega
      · exact hcond j rj u h3 ((hL' j).2 (.inl h4)) h5 h2 v h6 (by rw [h7]; exact e)
  · -- whose blocks these are
    have logged : ∀ q : Pl, ∀ t, t < N0 → (∃ (j : Nat) (r : Rc), R[j]? = some r ∧ L j ∧ t ∈ r.tl) → ¬ AliveH L R h0 t → (∃ u, βs t = some u ∧ u.b = q.b) → ∃ t, t < N0 ∧ (∃ (j : Nat) (r : Rc), R[j]? = some r ∧ L' j ∧ t ∈ r.tl) ∧ ¬ AliveH L' R h0 t ∧ ∃ u, βs t = some u ∧ u.b = q.b := fun q t h1 ⟨j, rj, h2, h3, h4⟩ h5 h6 => by
      refine ⟨t, h1, ⟨j, rj, h2, (hL' j).2 (.inl h3), h4⟩, fun h7 => ?_, h6⟩
      rcases alive t h7 with ⟨h8, _⟩ | ⟨_, h8⟩
      · rcases h8 with h8 | h8
        · omega
        · exact h5 (tlAlive t h8).1
      · exact h5 h8
    have oldCase : ∀ u q, N0 ≤ u → AliveH L R h0 u → β u = some q → Ws.heap.size ≤ q.b ∨ ∃ t, t < N0 ∧ (∃ (j : Nat) (r : Rc), R[j]? = some r ∧ L' j ∧ t ∈ r.tl) ∧ ¬ AliveH L' R h0 t ∧ ∃ v, βs t = some v ∧ v.b = q.b := fun u q h1 h2 h3 => by
      rcases inv.own u q h1 h2 h3 with h4 | ⟨t, h4, h5, h6, h7⟩
      · exact .inl h4
      · exact .inr (logged q t h4 h5 h6 h7)
    rcases alive id ha with ⟨h1, h2⟩ | ⟨h1, h2⟩
    · rcases h1 with h3 | h3
      · rcases hp.new id h3.1 h3.2 p (by rw [← hin id h3.1 h3.2]; exact hpb) h2 with h4 | ⟨t, h4, h5, u, h6, h7⟩
        · exact .inl (Nat.le_trans inv.size h4)
        · have huβ := res_le' t u h6
          rcases Nat.lt_or_ge t N0 with h8 | h8
          · refine .inr ⟨t, h8, ⟨i, r, hi, (hL' i).2 (.inr rfl), h4⟩, fun h9 => ?_, u, by rw [← inv.ext t h8]; exact huβ, h7⟩
            rcases h9 with ⟨j, rj, b, h10, h11⟩ | ⟨h10, _⟩
            · obtain ⟨_, rfl⟩ := lastT t j rj (.inr h4) h10
              rw [h5] at h11; cases h11
            · exact (noneO t h10).2 (.inr h4)
          · rw [← h7]; exact oldCase t u h8 (tlAlive t h4).1 huβ
      · have hlt := (tlAlive id h3).2
        exact oldCase id p hid (tlAlive id h3).1 (by rw [← hlow id hlt, ← hres id (by omega)]; exact hpb)
    · exact oldCase id p hid h2 (by rw [← hout id (fun h => h1 (.inl h))]; exact hpb)
end
end Go.Proofs.YtcimgilfogeebaaGreatDoor.VM
