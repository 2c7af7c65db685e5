/- VM, 1: a small machine that runs a program's functions on values of its own. Here: the machine. -/
import Derived.Below
import Derived.RowKit
import Derived.WalkKit
import Derived.Deep.MidRow
set_option linter.unusedVariables false
set_option linter.unusedSimpArgs false
namespace Go.Proofs.YtcimgilfogeebaaGreatDoor.VM
open Go

/-! ### Values, places, memory -/
inductive AV where
  | bool (b : Bool)
  | int (k : IntKind) (n : Int)
  | str (l : List Nat)
  | ptr (i off : Nat)
  | glo (g off : Nat)
  | nilp
  | sl (i off len cap es : Nat)
  | nils
  | agg (l : List AV)
  | tup (l : List AV)
  | fn (f : Fn) (first cap : List AV)
  | nilf
  | ifc (t : TypeId) (v : AV)
  | nili
structure Blk where
  ro : Bool
  bx : Bool
  ty : Option Nat
  cells : List AV

/-- a map from numbers, as a tree -/
inductive Tr (α : Type) where
  | e
  | n (x : Option α) (l r : Tr α)
noncomputable def Tr.get {α : Type} (t : Tr α) : Nat → Option α :=
  Tr.rec (motive := fun _ => Nat → Option α) (fun _ => none)
    (fun x _ _ gl gr i => Nat.rec (motive := fun _ => Option α) x (fun j _ => Bool.rec (gr (Nat.div j 2)) (gl (Nat.div j 2)) (Nat.beq (Nat.mod j 2) 0)) i) t
noncomputable def Tr.putK {α β : Type} (bad : β) (y : Option α) (f : Nat) : Tr α → Nat → (Tr α → β) → β :=
  Nat.rec (motive := fun _ => Tr α → Nat → (Tr α → β) → β) (fun _ _ _ => bad) (fun _ ih t i k =>
    Tr.rec (motive := fun _ => β)
      (Nat.rec (motive := fun _ => β) (k (.n y .e .e)) (fun j _ => Bool.rec (ih .e (Nat.div j 2) fun r => k (.n none .e r)) (ih .e (Nat.div j 2) fun l => k (.n none l .e)) (Nat.beq (Nat.mod j 2) 0)) i)
      (fun x l r _ _ => Nat.rec (motive := fun _ => β) (k (.n y l r)) (fun j _ => Bool.rec (ih r (Nat.div j 2) fun r => k (.n x l r)) (ih l (Nat.div j 2) fun l => k (.n x l r)) (Nat.beq (Nat.mod j 2) 0)) i) t) f

/-! ### Numbers made plain; lists taken apart -/
noncomputable def frcN {α : Type} (n : Nat) (k : Nat → α) : α := Nat.rec (motive := fun _ => α) (k 0) (fun m _ => k (Nat.succ m)) n
noncomputable def frcI {α : Type} (z : Int) (k : Int → α) : α := Int.rec (motive := fun _ => α) (fun n => frcN n fun n => k (.ofNat n)) (fun n => frcN n fun n => k (.negSucc n)) z
noncomputable def frcB {α : Type} (b : Bool) (k : Bool → α) : α := Bool.rec (motive := fun _ => α) (k false) (k true) b
noncomputable def appK {α β : Type} (l m : List β) (k : List β → α) : α :=
  List.rec (motive := fun _ => (List β → α) → α) (fun k => k m) (fun x _ ih k => ih fun r => k (x :: r)) l k
noncomputable def dropK {α β : Type} (bad : α) (off : Nat) (cs : List β) (k : List β → α) : α :=
  Nat.rec (motive := fun _ => List β → α) (fun cs => k cs) (fun _ ih cs => List.rec (motive := fun _ => α) bad (fun _ t _ => ih t) cs) off cs
noncomputable def takeK {α β : Type} (bad : α) (n : Nat) (cs : List β) (k : List β → α) : α :=
  Nat.rec (motive := fun _ => List β → (List β → α) → α) (fun _ k => k []) (fun _ ih cs k => List.rec (motive := fun _ => α) bad (fun x t _ => ih t fun r => k (x :: r)) cs) n cs k
noncomputable def cutK {α β : Type} (bad : α) (off n : Nat) (cs : List β) (k : List β → α) : α := dropK bad off cs fun r => takeK bad n r k
noncomputable def ovrK {α β : Type} (bad : α) (vs cs : List β) (k : List β → α) : α :=
  List.rec (motive := fun _ => List β → (List β → α) → α) (fun cs k => k cs) (fun v _ ih cs k => List.rec (motive := fun _ => α) bad (fun _ t _ => ih t fun r => k (v :: r)) cs) vs cs k
noncomputable def wrK {α β : Type} (bad : α) (off : Nat) (vs cs : List β) (k : List β → α) : α :=
  Nat.rec (motive := fun _ => List β → (List β → α) → α) (fun cs k => ovrK bad vs cs k) (fun _ ih cs k => List.rec (motive := fun _ => α) bad (fun x t _ => ih t fun r => k (x :: r)) cs) off cs k
noncomputable def repK {α β : Type} (n : Nat) (z : List β) (k : List β → α) : α :=
  Nat.rec (motive := fun _ => (List β → α) → α) (fun k => k []) (fun _ ih k => ih fun r => appK z r k) n k
/-- the length, made plain -/
noncomputable def lenK {α β : Type} (l : List β) (k : Nat → α) : α :=
  List.rec (motive := fun _ => Nat → α) (fun n => k n) (fun _ _ ih n => ih (Nat.succ n)) l 0
noncomputable def eqL (l m : List Nat) : Bool :=
  List.rec (motive := fun _ => List Nat → Bool) (fun m => List.rec (motive := fun _ => Bool) true (fun _ _ _ => false) m)
    (fun x _ ih m => List.rec (motive := fun _ => Bool) false (fun y t _ => Bool.rec (motive := fun _ => Bool) false (ih t) (Nat.beq x y)) m) l m
noncomputable def ltL (l m : List Nat) : Bool :=
  List.rec (motive := fun _ => List Nat → Bool) (fun m => List.rec (motive := fun _ => Bool) false (fun _ _ _ => true) m)
    (fun x _ ih m => List.rec (motive := fun _ => Bool) false (fun y t _ => Bool.rec (motive := fun _ => Bool) (Bool.rec (motive := fun _ => Bool) false (ih t) (Nat.beq x y)) true (Nat.blt x y)) m) l m

/-! ### Whole numbers of the machine -/
def ltI : Int → Int → Bool
  | .ofNat m, .ofNat n => Nat.blt m n
  | .ofNat _, .negSucc _ => false
  | .negSucc _, .ofNat _ => true
  | .negSucc m, .negSucc n => Nat.blt n m
def eqI : Int → Int → Bool
  | .ofNat m, .ofNat n => Nat.beq m n
  | .negSucc m, .negSucc n => Nat.beq n m
  | _, _ => false
def natOf : Int → Nat
  | .ofNat m => m
  | .negSucc _ => 0
def bitsOf : IntKind → Nat
  | .i8 | .u8 => 8
  | .i16 | .u16 => 16
  | .i32 | .u32 => 32
  | .i64 | .u64 => 64
def pow2 : IntKind → Nat
  | .i8 | .u8 => 256
  | .i16 | .u16 => 65536
  | .i32 | .u32 => 4294967296
  | .i64 | .u64 => 18446744073709551616
def sgnK : IntKind → Bool
  | .i8 | .i16 | .i32 | .i64 => true
  | _ => false
/-- n, wrapped: its rest, as a number from 0 on -/
def remP (k : IntKind) : Int → Nat
  | .ofNat n => Nat.mod n (pow2 k)
  | .negSucc n => Nat.sub (Nat.sub (pow2 k) 1) (Nat.mod n (pow2 k))
def sgnW (k : IntKind) (m : Nat) : Int := match sgnK k with
  | false => .ofNat m
  | true => match Nat.blt m (Nat.div (pow2 k) 2) with
    | true => .ofNat m
    | false => .negSucc (Nat.sub (Nat.sub (pow2 k) 1) m)
def wr (k : IntKind) (z : Int) : Int := sgnW k (remP k z)
def onesI (k : IntKind) : Int := match sgnK k with
  | true => .negSucc 0
  | false => .ofNat (Nat.sub (pow2 k) 1)
def kEq : IntKind → IntKind → Bool
  | .i8, .i8 | .i16, .i16 | .i32, .i32 | .i64, .i64 | .u8, .u8 | .u16, .u16 | .u32, .u32 | .u64, .u64 => true
  | _, _ => false

/-! ### Types -/
inductive TK where
  | int (k : IntKind) | bool | str | slice (e : TypeId) | arr (n : Nat) (e : TypeId) | ptr (e : TypeId) | fn | strct | other
structure TI where
  agg : Bool
  size : Nat
  fields : List (Nat × Bool × Nat)
  zero : List AV
  kind : TK
  bytes : Nat
/-- functions of the library without a text -/
inductive Ext where
  | add64 | sub64 | same | idxByte | mkNoZero (e : Nat) | copyCheck (U : Nat)
  | user (F : List AV → Tr Blk → Nat → Option (AV × Tr Blk × Nat × List Nat))
structure FE where
  ntmps : Nat
  rs : List ResultVar
  code : Code
inductive FB where
  | body (e : FE) | ext (e : Ext)
structure Ctx where
  ty : Nat → Option TI
  fn : Nat → Option FB
  gl : Nat → Option (List AV)
  eq : Nat → Option Nat

abbrev Env := Tr AV
abbrev Mem := Tr Blk

/-! ### Values of constants -/
def ofV1 : Value → Option AV
  | .bool b => some (.bool b)
  | .int k n => some (.int k n)
  | .string s => some (.str (s.data.toList.map UInt8.toNat))
  | .pointer none => some .nilp
  | .slice none 0 0 => some .nils
  | .nilFunc => some .nilf
  | .func f ⟨[]⟩ ⟨[]⟩ => some (.fn f [] [])
  | .nilIface => some .nili
  | _ => none
def ofVs : List Value → Option (List AV)
  | [] => some []
  | v :: r => match ofV1 v with
    | none => none
    | some x => match ofVs r with
      | none => none
      | some l => some (x :: l)
def ofV : Value → Option AV
  | .agg ⟨l⟩ => match ofVs l with
    | some l => some (.agg l)
    | none => none
  | .tuple ⟨[]⟩ => some (.tup [])
  | v => ofV1 v

section
variable {α : Type} (bad : α)
noncomputable def oK (env : Env) (x : Operand) (k : AV → α) : α := match x with
  | .tmp t => match env.get t with
    | some v => k v
    | none => bad
  | .const v => match ofV v with
    | some v => k v
    | none => bad
  | .global g => k (.glo g 0)
  | .func f => k (.fn (.func f) [] [])
noncomputable def osK (env : Env) : List Operand → (List AV → α) → α
  | [], k => k []
  | x :: r, k => oK bad env x fun v => osK env r fun l => k (v :: l)

/-- the cells of a value -/
def cellsOf : AV → List AV
  | .agg l => l
  | v => [v]
def asVarK (ag : Bool) (l : List AV) (k : AV → α) : α := match ag with
  | true => k (.agg l)
  | false => match l with
    | [c] => k c
    | _ => bad
/-- one cell holds it -/
def oneCell : AV → Bool
  | .agg _ | .tup _ => false
  | _ => true
noncomputable def allOne (l : List AV) : Bool := List.rec (motive := fun _ => Bool) true (fun x _ ih => Bool.rec (motive := fun _ => Bool) false ih (oneCell x)) l

/-- all are of the kind int -/
noncomputable def allI64 (l : List AV) : Bool := List.rec (motive := fun _ => Bool) true (fun x _ ih => match x with
  | .int .i64 _ => ih
  | _ => false) l
noncomputable def eqInts (l m : List AV) : Bool :=
  List.rec (motive := fun _ => List AV → Bool) (fun m => List.rec (motive := fun _ => Bool) true (fun _ _ _ => false) m)
    (fun x _ ih m => List.rec (motive := fun _ => Bool) false (fun y t _ => match x, y with
      | .int _ a, .int _ b => (match eqI a b with | true => ih t | false => false)
      | _, _ => false) m) l m

/-! ### Plain operations -/
noncomputable def bitK (k : IntKind) (f : Nat → Nat → Nat) (x y : Int) (c : AV → α) : α := frcI (sgnW k (f (remP k x) (remP k y))) fun z => c (.int k z)
noncomputable def binK (op : BinOp) (a b : AV) (c : AV → α) : α := match a, b with
  | .int k x, .int k' y => match op with
    | .shl => (match y with | .ofNat m => frcI (wr k (Int.mul x (.ofNat (Nat.pow 2 (Nat.min m (bitsOf k)))))) fun z => c (.int k z) | .negSucc _ => bad)
    | .shr => (match x, y with | .ofNat n, .ofNat m => frcI (.ofNat (Nat.div n (Nat.pow 2 (Nat.min m (bitsOf k))))) fun z => c (.int k z) | _, _ => bad)
    | op => match kEq k k' with
      | false => bad
      | true => match op with
        | .add => frcI (wr k (Int.add x y)) fun z => c (.int k z)
        | .sub => frcI (wr k (Int.sub x y)) fun z => c (.int k z)
        | .mul => frcI (wr k (Int.mul x y)) fun z => c (.int k z)
        | .quo => (match eqI y (.ofNat 0) with | true => bad | false => frcI (wr k (Int.tdiv x y)) fun z => c (.int k z))
        | .rem => (match eqI y (.ofNat 0) with | true => bad | false => frcI (Int.tmod x y) fun z => c (.int k z))
        | .and => bitK k Nat.land x y c
        | .or => bitK k Nat.lor x y c
        | .xor => bitK k Nat.xor x y c
        | .eql => frcB (eqI x y) fun b => c (.bool b)
        | .neq => frcB (eqI x y) fun b => c (.bool (not b))
        | .lss => frcB (ltI x y) fun b => c (.bool b)
        | .leq => frcB (ltI y x) fun b => c (.bool (not b))
        | .gtr => frcB (ltI y x) fun b => c (.bool b)
        | .geq => frcB (ltI x y) fun b => c (.bool (not b))
        | _ => bad
  | .str x, .str y => match op with
    | .add => lenK x fun n => lenK y fun m => match Nat.blt (Nat.add n m) 1000000000 with
      | true => appK x y fun l => c (.str l)
      | false => bad
    | .eql => frcB (eqL x y) fun b => c (.bool b)
    | .neq => frcB (eqL x y) fun b => c (.bool (not b))
    | .lss => frcB (ltL x y) fun b => c (.bool b)
    | _ => bad
  | _, _ => bad
/-- what is held against nil, or Bools against each other -/
def nilB (kd : TK) (a b : AV) : Option Bool := match kd, a, b with
  | .bool, .bool true, .bool true => some true
  | .bool, .bool true, .bool false => some false
  | .bool, .bool false, .bool true => some false
  | .bool, .bool false, .bool false => some true
  | .ptr _, .nilp, .nilp => some true
  | .ptr _, .nilp, .ptr _ _ => some false
  | .ptr _, .ptr _ _, .nilp => some false
  | .slice _, .nils, .nils => some true
  | .slice _, .sl .., .nils => some false
  | .slice _, .nils, .sl .. => some false
  | .fn, .nilf, .nilf => some true
  | .fn, .fn .., .nilf => some false
  | .fn, .nilf, .fn .. => some false
  | _, _, _ => none
def outB (op : BinOp) (r : Bool) (c : AV → α) : α := match op, r with
  | .eql, r => c (.bool r)
  | .neq, true => c (.bool false)
  | .neq, false => c (.bool true)
  | _, _ => bad
def nilK (op : BinOp) (kd : TK) (a b : AV) (c : AV → α) : α := match nilB kd a b with
  | some r => outB bad op r c
  | none => bad
noncomputable def fillK (env : Env) (fields : List (Nat × Bool × Nat)) : List (Nat × Operand) → List AV → (List AV → α) → α
  | [], cs, k => k cs
  | (f, x) :: r, cs, k => match fields[f]? with
    | some (fo, _, sz) => oK bad env x fun v => match Nat.beq (cellsOf v).length sz with
      | true => wrK bad fo (cellsOf v) cs fun cs => fillK env fields r cs k
      | false => bad
    | none => bad
noncomputable def litK (env : Env) (sz : Nat) : List (Nat × Operand) → List AV → (List AV → α) → α
  | [], cs, k => k cs
  | (f, x) :: r, cs, k => oK bad env x fun v => match Nat.beq (cellsOf v).length sz with
      | true => wrK bad (Nat.mul f sz) (cellsOf v) cs fun cs => litK env sz r cs k
      | false => bad
def tyK (Γ : Ctx) (T : TypeId) (k : TI → α) : α := match Γ.ty T with
  | some t => k t
  | none => bad
/-- a bound of a slicing: a number from 0 to y -/
noncomputable def bndK (env : Env) (x : Option Operand) (dflt y : Nat) (k : Nat → α) : α := match x with
  | none => k dflt
  | some x => oK bad env x fun
    | .int _ (.ofNat n) => (match Nat.ble n y with | true => k n | false => bad)
    | _ => bad
/-- the three bounds of a slicing -/
noncomputable def bndsK (env : Env) (len cap : Nat) (lo hi mx : Option Operand) (k : Nat → Nat → Nat → α) : α := match mx, hi with
  | some _, none => bad
  | mx, hi => bndK bad env mx cap cap fun m => bndK bad env hi len m fun h => bndK bad env lo 0 h fun l => k l h m
def noneB (x : Option Operand) : Bool := match x with
  | none => true
  | some _ => false
/-- an index below y -/
noncomputable def idxK (env : Env) (x : Operand) (y : Nat) (k : Nat → α) : α := oK bad env x fun
    | .int _ (.ofNat n) => (match Nat.blt n y with | true => k n | false => bad)
    | _ => bad
noncomputable def pureK (Γ : Ctx) (env : Env) (op : Op) (k : AV → α) : α := match op with
  | .move x => oK bad env x k
  | .assign x => oK bad env x k
  | .pick c x y => oK bad env c fun
    | .bool b => (match b with | true => oK bad env x k | false => oK bad env y k)
    | _ => bad
  | .fieldAddr T x f => tyK bad Γ T fun t => match t.fields[f]? with
    | some (fo, _, _) => oK bad env x fun
      | .ptr i off => frcN (Nat.add off fo) fun o => k (.ptr i o)
      | .glo g off => frcN (Nat.add off fo) fun o => k (.glo g o)
      | _ => bad
    | none => bad
  | .field T x f => tyK bad Γ T fun t => match t.fields[f]? with
    | some (fo, ag, sz) => oK bad env x fun
      | .agg cs => cutK bad fo sz cs fun l => asVarK bad ag l k
      | _ => bad
    | none => bad
  | .extract x i => oK bad env x fun
    | .tup vs => (match vs[i]? with | some v => k v | none => bad)
    | _ => bad
  | .binOp op T x y _ => oK bad env x fun a => oK bad env y fun b => match a, b with
    | .int .., .int .. => binK bad op a b k
    | .str _, .str _ => binK bad op a b k
    | .agg l, .agg m => (match Γ.eq T, allI64 l, allI64 m with
      | some q, true, true => (match Nat.beq l.length q, Nat.beq m.length q with
        | true, true => frcB (eqInts l m) fun r => outB bad op r k
        | _, _ => bad)
      | _, _, _ => bad)
    | a, b => tyK bad Γ T fun t => nilK bad op t.kind a b k
  | .unOp .not _ x => oK bad env x fun
    | .bool b => (match b with | true => k (.bool false) | false => k (.bool true))
    | _ => bad
  | .unOp .neg _ x => oK bad env x fun
    | .int kd n => frcI (wr kd (Int.sub (.ofNat 0) n)) fun z => k (.int kd z)
    | _ => bad
  | .unOp .xor _ x => oK bad env x fun
    | .int kd n => bitK kd Nat.xor (onesI kd) n k
    | _ => bad
  | .convert src dst x => tyK bad Γ src fun _ => tyK bad Γ dst fun t => oK bad env x fun
    | .int _ n => (match t.kind with | .int kd => frcI (wr kd n) fun z => k (.int kd z) | _ => bad)
    | .str l => (match t.kind with | .str => k (.str l) | _ => bad)
    | _ => bad
  | .build T parts => tyK bad Γ T fun t => match t.kind with
    | .strct => fillK bad env t.fields parts.toList t.zero fun cs => k (.agg cs)
    | .arr n e => tyK bad Γ e fun te => litK bad env te.size parts.toList t.zero fun cs => k (.agg cs)
    | _ => bad
  | .indexAddr T x y => tyK bad Γ T fun t => match t.kind with
    | .slice e => tyK bad Γ e fun te => oK bad env x fun
      | .sl i off n _ _ => idxK bad env y n fun j => frcN (Nat.add off (Nat.mul j te.size)) fun o => k (.ptr i o)
      | _ => bad
    | .arr n e => tyK bad Γ e fun te => oK bad env x fun
      | .ptr i off => idxK bad env y n fun j => frcN (Nat.add off (Nat.mul j te.size)) fun o => k (.ptr i o)
      | .glo i off => idxK bad env y n fun j => frcN (Nat.add off (Nat.mul j te.size)) fun o => k (.glo i o)
      | _ => bad
    | _ => bad
  | .index T x y => tyK bad Γ T fun t => oK bad env x fun
    | .str l => (match t.kind with
      | .str => lenK l fun n => idxK bad env y n fun j => (match l[j]? with | some b => k (.int .u8 (.ofNat b)) | none => bad)
      | _ => bad)
    | .agg cs => (match t.kind with
      | .arr n e => tyK bad Γ e fun te => idxK bad env y n fun j => cutK bad (Nat.mul j te.size) te.size cs fun l => asVarK bad te.agg l k
      | _ => bad)
    | _ => bad
  | .slice T x lo hi mx => tyK bad Γ T fun t => oK bad env x fun
    | .str l => (match t.kind, mx with
      | .str, none => lenK l fun n => bndsK bad env n n lo hi none fun lw h _ => cutK bad lw (Nat.sub h lw) l fun r => k (.str r)
      | _, _ => bad)
    | .sl i off n c es => (match t.kind with
      | .slice e => tyK bad Γ e fun te => (match Nat.beq es te.size with
        | false => bad
        | true => frcN (Nat.div c 2) fun cp => bndsK bad env n cp lo hi mx fun lw h m => (match Nat.beq lw m with
          | true => (match noneB mx, Nat.beq (Nat.mod c 2) 0 with
            | true, false => bad
            | _, _ => frcN (Nat.sub h lw) fun n' => k (.sl i off n' 0 es))
          | false => frcN (Nat.add off (Nat.mul lw es)) fun o => frcN (Nat.sub h lw) fun n' => (match noneB mx with
            | true => frcN (Nat.sub c (Nat.mul 2 lw)) fun c' => k (.sl i o n' c' es)
            | false => frcN (Nat.mul 2 (Nat.sub m lw)) fun c' => k (.sl i o n' c' es))))
      | _ => bad)
    | .nils => (match t.kind with
      | .slice e => tyK bad Γ e fun _ => bndsK bad env 0 0 lo hi mx fun _ _ _ => k .nils
      | _ => bad)
    | _ => bad
  | .nilCheck x => oK bad env x fun
    | .ptr i off => k (.ptr i off)
    | .glo i off => k (.glo i off)
    | .fn (.func f) a b => k (.fn (.func f) a b)
    | _ => bad
  | .makeFunc f a b => osK bad env a.toList fun a => osK bad env b.toList fun b => k (.fn f a b)
  | .call ⟨.builtin .len, ⟨[x]⟩, ⟨[T]⟩⟩ => tyK bad Γ T fun t => oK bad env x fun
    | .str l => (match t.kind with | .str => lenK l fun n => k (.int .i64 (.ofNat n)) | _ => bad)
    | .sl _ _ n _ _ => (match t.kind with | .slice _ => k (.int .i64 (.ofNat n)) | _ => bad)
    | .nils => (match t.kind with | .slice _ => k (.int .i64 (.ofNat 0)) | _ => bad)
    | .agg _ => (match t.kind with | .arr n _ => k (.int .i64 (.ofNat n)) | _ => bad)
    | _ => bad
  | .call ⟨.builtin .cap, ⟨[x]⟩, ⟨[T]⟩⟩ => tyK bad Γ T fun t => oK bad env x fun
    | .sl _ _ _ c _ => (match t.kind with | .slice _ => (match Nat.beq (Nat.mod c 2) 0 with | true => frcN (Nat.div c 2) fun c => k (.int .i64 (.ofNat c)) | false => bad) | _ => bad)
    | .nils => (match t.kind with | .slice _ => k (.int .i64 (.ofNat 0)) | _ => bad)
    | _ => bad
  | .call ⟨.builtin .min, ⟨[x, y]⟩, _⟩ => oK bad env x fun a => oK bad env y fun b => (match a, b with
    | .int kd a, .int _ b => (match ltI b a with | true => k (.int kd b) | false => k (.int kd a))
    | _, _ => bad)
  | .call ⟨.builtin .max, ⟨[x, y]⟩, _⟩ => oK bad env x fun a => oK bad env y fun b => (match a, b with
    | .int kd a, .int _ b => (match ltI a b with | true => k (.int kd b) | false => k (.int kd a))
    | _, _ => bad)
  | .call ⟨.builtin .unsafeSliceData, ⟨[x]⟩, _⟩ => oK bad env x fun
    | .nils => k .nilp
    | .sl i off _ c _ => (match Nat.ble 2 c with | true => k (.ptr i off) | false => bad)
    | _ => bad
  | _ => bad
end
end Go.Proofs.YtcimgilfogeebaaGreatDoor.VM
