/- Texts of ours in one: V1, V2, V3, V4, VLaid. -/
import Derived.Test.YtejljnlfgiifoaaGreatDoorE0
import Derived.Below
import Derived.RowKit
import Derived.WalkKit
import Derived.Deep.MidRow
import Derived.Great.BuildSlice
import Derived.ProofKit
import Derived.OpenShut
import Derived.LaidMore
import Derived.Lay
import Derived.Stop.Joined
set_option linter.unusedVariables false
set_option linter.unusedSimpArgs false

namespace Go.Proofs.YtejljnlfgiifoaaGreatDoor.VM
open Go
inductive AV where
 | bool (b : Bool)
 | int (k : IntKind) (n : Int)
 | str (l : List Nat)
 | ptr (i off : Nat)
 | glo (g off : Nat)
 | nilp
 | sl (i off len cap es : Nat)
 | nils
 | agg (l : List AV)
 | tup (l : List AV)
 | fn (f : Fn) (first cap : List AV)
 | nilf
 | ifc (t : TypeId) (v : AV)
 | nili
structure Blk where
 ro : Bool
 bx : Bool
 ty : Option Nat
 cells : List AV
inductive Tr (α : Type) where
 | e
 | n (x : Option α) (l r : Tr α)
noncomputable def Tr.get {α : Type} (t : Tr α) : Nat → Option α :=
 Tr.rec (motive := fun _ => Nat → Option α) (fun _ => none)
  (fun x _ _ gl gr i => Nat.rec (motive := fun _ => Option α) x (fun j _ => Bool.rec (gr (Nat.div j 2)) (gl (Nat.div j 2)) (Nat.beq (Nat.mod j 2) 0)) i) t
noncomputable def Tr.putK {α β : Type} (bad : β) (y : Option α) (f : Nat) : Tr α → Nat → (Tr α → β) → β :=
 Nat.rec (motive := fun _ => Tr α → Nat → (Tr α → β) → β) (fun _ _ _ => bad) (fun _ ih t i k =>
  Tr.rec (motive := fun _ => β)
   (Nat.rec (motive := fun _ => β) (k (.n y .e .e)) (fun j _ => Bool.rec (ih .e (Nat.div j 2) fun r => k (.n none .e r)) (ih .e (Nat.div j 2) fun l => k (.n none l .e)) (Nat.beq (Nat.mod j 2) 0)) i)
   (fun x l r _ _ => Nat.rec (motive := fun _ => β) (k (.n y l r)) (fun j _ => Bool.rec (ih r (Nat.div j 2) fun r => k (.n x l r)) (ih l (Nat.div j 2) fun l => k (.n x l r)) (Nat.beq (Nat.mod j 2) 0)) i) t) f
noncomputable def frcN {α : Type} (n : Nat) (k : Nat → α) : α := Nat.rec (motive := fun _ => α) (k 0) (fun m _ => k (Nat.succ m)) n
noncomputable def frcI {α : Type} (z : Int) (k : Int → α) : α := Int.rec (motive := fun _ => α) (fun n => frcN n fun n => k (.ofNat n)) (fun n => frcN n fun n => k (.negSucc n)) z
noncomputable def frcB {α : Type} (b : Bool) (k : Bool → α) : α := Bool.rec (motive := fun _ => α) (k false) (k true) b
noncomputable def appK {α β : Type} (l m : List β) (k : List β → α) : α :=
 List.rec (motive := fun _ => (List β → α) → α) (fun k => k m) (fun x _ ih k => ih fun r => k (x :: r)) l k
noncomputable def dropK {α β : Type} (bad : α) (off : Nat) (cs : List β) (k : List β → α) : α :=
 Nat.rec (motive := fun _ => List β → α) (fun cs => k cs) (fun _ ih cs => List.rec (motive := fun _ => α) bad (fun _ t _ => ih t) cs) off cs
noncomputable def takeK {α β : Type} (bad : α) (n : Nat) (cs : List β) (k : List β → α) : α :=
 Nat.rec (motive := fun _ => List β → (List β → α) → α) (fun _ k => k []) (fun _ ih cs k => List.rec (motive := fun _ => α) bad (fun x t _ => ih t fun r => k (x :: r)) cs) n cs k
noncomputable def cutK {α β : Type} (bad : α) (off n : Nat) (cs : List β) (k : List β → α) : α := dropK bad off cs fun r => takeK bad n r k
noncomputable def ovrK {α β : Type} (bad : α) (vs cs : List β) (k : List β → α) : α :=
 List.rec (motive := fun _ => List β → (List β → α) → α) (fun cs k => k cs) (fun v _ ih cs k => List.rec (motive := fun _ => α) bad (fun _ t _ => ih t fun r => k (v :: r)) cs) vs cs k
noncomputable def wrK {α β : Type} (bad : α) (off : Nat) (vs cs : List β) (k : List β → α) : α :=
 Nat.rec (motive := fun _ => List β → (List β → α) → α) (fun cs k => ovrK bad vs cs k) (fun _ ih cs k => List.rec (motive := fun _ => α) bad (fun x t _ => ih t fun r => k (x :: r)) cs) off cs k
noncomputable def repK {α β : Type} (n : Nat) (z : List β) (k : List β → α) : α :=
 Nat.rec (motive := fun _ => (List β → α) → α) (fun k => k []) (fun _ ih k => ih fun r => appK z r k) n k
noncomputable def lenK {α β : Type} (l : List β) (k : Nat → α) : α :=
 List.rec (motive := fun _ => Nat → α) (fun n => k n) (fun _ _ ih n => ih (Nat.succ n)) l 0
noncomputable def eqL (l m : List Nat) : Bool :=
 List.rec (motive := fun _ => List Nat → Bool) (fun m => List.rec (motive := fun _ => Bool) true (fun _ _ _ => false) m)
  (fun x _ ih m => List.rec (motive := fun _ => Bool) false (fun y t _ => Bool.rec (motive := fun _ => Bool) false (ih t) (Nat.beq x y)) m) l m
noncomputable def ltL (l m : List Nat) : Bool :=
 List.rec (motive := fun _ => List Nat → Bool) (fun m => List.rec (motive := fun _ => Bool) false (fun _ _ _ => true) m)
  (fun x _ ih m => List.rec (motive := fun _ => Bool) false (fun y t _ => Bool.rec (motive := fun _ => Bool) (Bool.rec (motive := fun _ => Bool) false (ih t) (Nat.beq x y)) true (Nat.blt x y)) m) l m
def ltI : Int → Int → Bool
 | .ofNat m, .ofNat n => Nat.blt m n
 | .ofNat _, .negSucc _ => false
 | .negSucc _, .ofNat _ => true
 | .negSucc m, .negSucc n => Nat.blt n m
def eqI : Int → Int → Bool
 | .ofNat m, .ofNat n => Nat.beq m n
 | .negSucc m, .negSucc n => Nat.beq n m
 | _, _ => false
def bitsOf : IntKind → Nat
 | .i8 | .u8 => 8
 | .i16 | .u16 => 16
 | .i32 | .u32 => 32
 | .i64 | .u64 => 64
def pow2 : IntKind → Nat
 | .i8 | .u8 => 256
 | .i16 | .u16 => 65536
 | .i32 | .u32 => 4294967296
 | .i64 | .u64 => 18446744073709551616
def sgnK : IntKind → Bool
 | .i8 | .i16 | .i32 | .i64 => true
 | _ => false
def remP (k : IntKind) : Int → Nat
 | .ofNat n => Nat.mod n (pow2 k)
 | .negSucc n => Nat.sub (Nat.sub (pow2 k) 1) (Nat.mod n (pow2 k))
def sgnW (k : IntKind) (m : Nat) : Int := match sgnK k with
 | false => .ofNat m
 | true => match Nat.blt m (Nat.div (pow2 k) 2) with
  | true => .ofNat m
  | false => .negSucc (Nat.sub (Nat.sub (pow2 k) 1) m)
def wr (k : IntKind) (z : Int) : Int := sgnW k (remP k z)
def onesI (k : IntKind) : Int := match sgnK k with
 | true => .negSucc 0
 | false => .ofNat (Nat.sub (pow2 k) 1)
def kEq : IntKind → IntKind → Bool
 | .i8, .i8 | .i16, .i16 | .i32, .i32 | .i64, .i64 | .u8, .u8 | .u16, .u16 | .u32, .u32 | .u64, .u64 => true
 | _, _ => false
inductive TK where
 | int (k : IntKind) | bool | str | slice (e : TypeId) | arr (n : Nat) (e : TypeId) | ptr (e : TypeId) | fn | strct | other
structure TI where
 agg : Bool
 size : Nat
 fields : List (Nat × Bool × Nat)
 zero : List AV
 kind : TK
 bytes : Nat
inductive Ext where
 | add64 | sub64 | same | idxByte | mkNoZero (e : Nat) | copyCheck (U : Nat)
 | user (F : List AV → Tr Blk → Nat → Option (AV × Tr Blk × Nat × List Nat))
structure FE where
 ntmps : Nat
 rs : List ResultVar
 code : Code
inductive FB where
 | body (e : FE) | ext (e : Ext)
structure Ctx where
 ty : Nat → Option TI
 fn : Nat → Option FB
 gl : Nat → Option (List AV)
 eq : Nat → Option Nat
abbrev Env := Tr AV
abbrev Mem := Tr Blk
def ofV1 : Value → Option AV
 | .bool b => some (.bool b)
 | .int k n => some (.int k n)
 | .string s => some (.str (s.data.toList.map UInt8.toNat))
 | .pointer none => some .nilp
 | .slice none 0 0 => some .nils
 | .nilFunc => some .nilf
 | .func f ⟨[]⟩ ⟨[]⟩ => some (.fn f [] [])
 | .nilIface => some .nili
 | _ => none
def ofVs : List Value → Option (List AV)
 | [] => some []
 | v :: r => match ofV1 v with
  | none => none
  | some x => match ofVs r with
   | none => none
   | some l => some (x :: l)
def ofV : Value → Option AV
 | .agg ⟨l⟩ => match ofVs l with
  | some l => some (.agg l)
  | none => none
 | .tuple ⟨[]⟩ => some (.tup [])
 | v => ofV1 v
section
variable {α : Type} (bad : α)
noncomputable def oK (env : Env) (x : Operand) (k : AV → α) : α := match x with
 | .tmp t => match env.get t with
  | some v => k v
  | none => bad
 | .const v => match ofV v with
  | some v => k v
  | none => bad
 | .global g => k (.glo g 0)
 | .func f => k (.fn (.func f) [] [])
noncomputable def osK (env : Env) : List Operand → (List AV → α) → α
 | [], k => k []
 | x :: r, k => oK bad env x fun v => osK env r fun l => k (v :: l)
def cellsOf : AV → List AV
 | .agg l => l
 | v => [v]
def asVarK (ag : Bool) (l : List AV) (k : AV → α) : α := match ag with
 | true => k (.agg l)
 | false => match l with
  | [c] => k c
  | _ => bad
def oneCell : AV → Bool
 | .agg _ | .tup _ => false
 | _ => true
noncomputable def allOne (l : List AV) : Bool := List.rec (motive := fun _ => Bool) true (fun x _ ih => Bool.rec (motive := fun _ => Bool) false ih (oneCell x)) l
noncomputable def allI64 (l : List AV) : Bool := List.rec (motive := fun _ => Bool) true (fun x _ ih => match x with
 | .int .i64 _ => ih
 | _ => false) l
noncomputable def eqInts (l m : List AV) : Bool :=
 List.rec (motive := fun _ => List AV → Bool) (fun m => List.rec (motive := fun _ => Bool) true (fun _ _ _ => false) m)
  (fun x _ ih m => List.rec (motive := fun _ => Bool) false (fun y t _ => match x, y with
   | .int _ a, .int _ b => (match eqI a b with | true => ih t | false => false)
   | _, _ => false) m) l m
noncomputable def bitK (k : IntKind) (f : Nat → Nat → Nat) (x y : Int) (c : AV → α) : α := frcI (sgnW k (f (remP k x) (remP k y))) fun z => c (.int k z)
noncomputable def binK (op : BinOp) (a b : AV) (c : AV → α) : α := match a, b with
 | .int k x, .int k' y => match op with
  | .shl => (match y with | .ofNat m => frcI (wr k (Int.mul x (.ofNat (Nat.pow 2 (Nat.min m (bitsOf k)))))) fun z => c (.int k z) | .negSucc _ => bad)
  | .shr => (match x, y with | .ofNat n, .ofNat m => frcI (.ofNat (Nat.div n (Nat.pow 2 (Nat.min m (bitsOf k))))) fun z => c (.int k z) | _, _ => bad)
  | op => match kEq k k' with
   | false => bad
   | true => match op with
    | .add => frcI (wr k (Int.add x y)) fun z => c (.int k z)
    | .sub => frcI (wr k (Int.sub x y)) fun z => c (.int k z)
    | .mul => frcI (wr k (Int.mul x y)) fun z => c (.int k z)
    | .quo => (match eqI y (.ofNat 0) with | true => bad | false => frcI (wr k (Int.tdiv x y)) fun z => c (.int k z))
    | .rem => (match eqI y (.ofNat 0) with | true => bad | false => frcI (Int.tmod x y) fun z => c (.int k z))
    | .and => bitK k Nat.land x y c
    | .or => bitK k Nat.lor x y c
    | .xor => bitK k Nat.xor x y c
    | .eql => frcB (eqI x y) fun b => c (.bool b)
    | .neq => frcB (eqI x y) fun b => c (.bool (not b))
    | .lss => frcB (ltI x y) fun b => c (.bool b)
    | .leq => frcB (ltI y x) fun b => c (.bool (not b))
    | .gtr => frcB (ltI y x) fun b => c (.bool b)
    | .geq => frcB (ltI x y) fun b => c (.bool (not b))
    | _ => bad
 | .str x, .str y => match op with
  | .add => lenK x fun n => lenK y fun m => match Nat.blt (Nat.add n m) 1000000000 with
   | true => appK x y fun l => c (.str l)
   | false => bad
  | .eql => frcB (eqL x y) fun b => c (.bool b)
  | .neq => frcB (eqL x y) fun b => c (.bool (not b))
  | .lss => frcB (ltL x y) fun b => c (.bool b)
  | _ => bad
 | _, _ => bad
def nilB (kd : TK) (a b : AV) : Option Bool := match kd, a, b with
 | .bool, .bool true, .bool true => some true
 | .bool, .bool true, .bool false => some false
 | .bool, .bool false, .bool true => some false
 | .bool, .bool false, .bool false => some true
 | .ptr _, .nilp, .nilp => some true
 | .ptr _, .nilp, .ptr _ _ => some false
 | .ptr _, .ptr _ _, .nilp => some false
 | .slice _, .nils, .nils => some true
 | .slice _, .sl .., .nils => some false
 | .slice _, .nils, .sl .. => some false
 | .fn, .nilf, .nilf => some true
 | .fn, .fn .., .nilf => some false
 | .fn, .nilf, .fn .. => some false
 | _, _, _ => none
def outB (op : BinOp) (r : Bool) (c : AV → α) : α := match op, r with
 | .eql, r => c (.bool r)
 | .neq, true => c (.bool false)
 | .neq, false => c (.bool true)
 | _, _ => bad
def nilK (op : BinOp) (kd : TK) (a b : AV) (c : AV → α) : α := match nilB kd a b with
 | some r => outB bad op r c
 | none => bad
noncomputable def fillK (env : Env) (fields : List (Nat × Bool × Nat)) : List (Nat × Operand) → List AV → (List AV → α) → α
 | [], cs, k => k cs
 | (f, x) :: r, cs, k => match fields[f]? with
  | some (fo, _, sz) => oK bad env x fun v => match Nat.beq (cellsOf v).length sz with
   | true => wrK bad fo (cellsOf v) cs fun cs => fillK env fields r cs k
   | false => bad
  | none => bad
noncomputable def litK (env : Env) (sz : Nat) : List (Nat × Operand) → List AV → (List AV → α) → α
 | [], cs, k => k cs
 | (f, x) :: r, cs, k => oK bad env x fun v => match Nat.beq (cellsOf v).length sz with
   | true => wrK bad (Nat.mul f sz) (cellsOf v) cs fun cs => litK env sz r cs k
   | false => bad
def tyK (Γ : Ctx) (T : TypeId) (k : TI → α) : α := match Γ.ty T with
 | some t => k t
 | none => bad
noncomputable def bndK (env : Env) (x : Option Operand) (dflt y : Nat) (k : Nat → α) : α := match x with
 | none => k dflt
 | some x => oK bad env x fun
  | .int _ (.ofNat n) => (match Nat.ble n y with | true => k n | false => bad)
  | _ => bad
noncomputable def bndsK (env : Env) (len cap : Nat) (lo hi mx : Option Operand) (k : Nat → Nat → Nat → α) : α := match mx, hi with
 | some _, none => bad
 | mx, hi => bndK bad env mx cap cap fun m => bndK bad env hi len m fun h => bndK bad env lo 0 h fun l => k l h m
def noneB (x : Option Operand) : Bool := match x with
 | none => true
 | some _ => false
noncomputable def idxK (env : Env) (x : Operand) (y : Nat) (k : Nat → α) : α := oK bad env x fun
  | .int _ (.ofNat n) => (match Nat.blt n y with | true => k n | false => bad)
  | _ => bad
noncomputable def pureK (Γ : Ctx) (env : Env) (op : Op) (k : AV → α) : α := match op with
 | .move x => oK bad env x k
 | .assign x => oK bad env x k
 | .pick c x y => oK bad env c fun
  | .bool b => (match b with | true => oK bad env x k | false => oK bad env y k)
  | _ => bad
 | .fieldAddr T x f => tyK bad Γ T fun t => match t.fields[f]? with
  | some (fo, _, _) => oK bad env x fun
   | .ptr i off => frcN (Nat.add off fo) fun o => k (.ptr i o)
   | .glo g off => frcN (Nat.add off fo) fun o => k (.glo g o)
   | _ => bad
  | none => bad
 | .field T x f => tyK bad Γ T fun t => match t.fields[f]? with
  | some (fo, ag, sz) => oK bad env x fun
   | .agg cs => cutK bad fo sz cs fun l => asVarK bad ag l k
   | _ => bad
  | none => bad
 | .extract x i => oK bad env x fun
  | .tup vs => (match vs[i]? with | some v => k v | none => bad)
  | _ => bad
 | .binOp op T x y _ => oK bad env x fun a => oK bad env y fun b => match a, b with
  | .int .., .int .. => binK bad op a b k
  | .str _, .str _ => binK bad op a b k
  | .agg l, .agg m => (match Γ.eq T, allI64 l, allI64 m with
   | some q, true, true => (match Nat.beq l.length q, Nat.beq m.length q with
    | true, true => frcB (eqInts l m) fun r => outB bad op r k
    | _, _ => bad)
   | _, _, _ => bad)
  | a, b => tyK bad Γ T fun t => nilK bad op t.kind a b k
 | .unOp .not _ x => oK bad env x fun
  | .bool b => (match b with | true => k (.bool false) | false => k (.bool true))
  | _ => bad
 | .unOp .neg _ x => oK bad env x fun
  | .int kd n => frcI (wr kd (Int.sub (.ofNat 0) n)) fun z => k (.int kd z)
  | _ => bad
 | .unOp .xor _ x => oK bad env x fun
  | .int kd n => bitK kd Nat.xor (onesI kd) n k
  | _ => bad
 | .convert src dst x => tyK bad Γ src fun _ => tyK bad Γ dst fun t => oK bad env x fun
  | .int _ n => (match t.kind with | .int kd => frcI (wr kd n) fun z => k (.int kd z) | _ => bad)
  | .str l => (match t.kind with | .str => k (.str l) | _ => bad)
  | _ => bad
 | .build T parts => tyK bad Γ T fun t => match t.kind with
  | .strct => fillK bad env t.fields parts.toList t.zero fun cs => k (.agg cs)
  | .arr n e => tyK bad Γ e fun te => litK bad env te.size parts.toList t.zero fun cs => k (.agg cs)
  | _ => bad
 | .indexAddr T x y => tyK bad Γ T fun t => match t.kind with
  | .slice e => tyK bad Γ e fun te => oK bad env x fun
   | .sl i off n _ _ => idxK bad env y n fun j => frcN (Nat.add off (Nat.mul j te.size)) fun o => k (.ptr i o)
   | _ => bad
  | .arr n e => tyK bad Γ e fun te => oK bad env x fun
   | .ptr i off => idxK bad env y n fun j => frcN (Nat.add off (Nat.mul j te.size)) fun o => k (.ptr i o)
   | .glo i off => idxK bad env y n fun j => frcN (Nat.add off (Nat.mul j te.size)) fun o => k (.glo i o)
   | _ => bad
  | _ => bad
 | .index T x y => tyK bad Γ T fun t => oK bad env x fun
  | .str l => (match t.kind with
   | .str => lenK l fun n => idxK bad env y n fun j => (match l[j]? with | some b => k (.int .u8 (.ofNat b)) | none => bad)
   | _ => bad)
  | .agg cs => (match t.kind with
   | .arr n e => tyK bad Γ e fun te => idxK bad env y n fun j => cutK bad (Nat.mul j te.size) te.size cs fun l => asVarK bad te.agg l k
   | _ => bad)
  | _ => bad
 | .slice T x lo hi mx => tyK bad Γ T fun t => oK bad env x fun
  | .str l => (match t.kind, mx with
   | .str, none => lenK l fun n => bndsK bad env n n lo hi none fun lw h _ => cutK bad lw (Nat.sub h lw) l fun r => k (.str r)
   | _, _ => bad)
  | .sl i off n c es => (match t.kind with
   | .slice e => tyK bad Γ e fun te => (match Nat.beq es te.size with
    | false => bad
    | true => frcN (Nat.div c 2) fun cp => bndsK bad env n cp lo hi mx fun lw h m => (match Nat.beq lw m with
     | true => (match noneB mx, Nat.beq (Nat.mod c 2) 0 with
      | true, false => bad
      | _, _ => frcN (Nat.sub h lw) fun n' => k (.sl i off n' 0 es))
     | false => frcN (Nat.add off (Nat.mul lw es)) fun o => frcN (Nat.sub h lw) fun n' => (match noneB mx with
      | true => frcN (Nat.sub c (Nat.mul 2 lw)) fun c' => k (.sl i o n' c' es)
      | false => frcN (Nat.mul 2 (Nat.sub m lw)) fun c' => k (.sl i o n' c' es))))
   | _ => bad)
  | .nils => (match t.kind with
   | .slice e => tyK bad Γ e fun _ => bndsK bad env 0 0 lo hi mx fun _ _ _ => k .nils
   | _ => bad)
  | _ => bad
 | .nilCheck x => oK bad env x fun
  | .ptr i off => k (.ptr i off)
  | .glo i off => k (.glo i off)
  | .fn (.func f) a b => k (.fn (.func f) a b)
  | _ => bad
 | .makeFunc f a b => osK bad env a.toList fun a => osK bad env b.toList fun b => k (.fn f a b)
 | .call ⟨.builtin .len, ⟨[x]⟩, ⟨[T]⟩⟩ => tyK bad Γ T fun t => oK bad env x fun
  | .str l => (match t.kind with | .str => lenK l fun n => k (.int .i64 (.ofNat n)) | _ => bad)
  | .sl _ _ n _ _ => (match t.kind with | .slice _ => k (.int .i64 (.ofNat n)) | _ => bad)
  | .nils => (match t.kind with | .slice _ => k (.int .i64 (.ofNat 0)) | _ => bad)
  | .agg _ => (match t.kind with | .arr n _ => k (.int .i64 (.ofNat n)) | _ => bad)
  | _ => bad
 | .call ⟨.builtin .cap, ⟨[x]⟩, ⟨[T]⟩⟩ => tyK bad Γ T fun t => oK bad env x fun
  | .sl _ _ _ c _ => (match t.kind with | .slice _ => (match Nat.beq (Nat.mod c 2) 0 with | true => frcN (Nat.div c 2) fun c => k (.int .i64 (.ofNat c)) | false => bad) | _ => bad)
  | .nils => (match t.kind with | .slice _ => k (.int .i64 (.ofNat 0)) | _ => bad)
  | _ => bad
 | .call ⟨.builtin .min, ⟨[x, y]⟩, _⟩ => oK bad env x fun a => oK bad env y fun b => (match a, b with
  | .int kd a, .int _ b => (match ltI b a with | true => k (.int kd b) | false => k (.int kd a))
  | _, _ => bad)
 | .call ⟨.builtin .max, ⟨[x, y]⟩, _⟩ => oK bad env x fun a => oK bad env y fun b => (match a, b with
  | .int kd a, .int _ b => (match ltI a b with | true => k (.int kd b) | false => k (.int kd a))
  | _, _ => bad)
 | .call ⟨.builtin .unsafeSliceData, ⟨[x]⟩, _⟩ => oK bad env x fun
  | .nils => k .nilp
  | .sl i off _ c _ => (match Nat.ble 2 c with | true => k (.ptr i off) | false => bad)
  | _ => bad
 | _ => bad
end
end Go.Proofs.YtejljnlfgiifoaaGreatDoor.VM
namespace Go.Proofs.YtejljnlfgiifoaaGreatDoor.VM
open Go
section
variable {α : Type} (bad : α)
noncomputable def memK (h : Mem) (i : Nat) (k : Blk → α) : α := match h.get i with
 | some b => k b
 | none => bad
noncomputable def putM (h : Mem) (i : Nat) (b : Option Blk) (k : Mem → α) : α := Tr.putK bad b (Nat.succ i) h i k
noncomputable def newK (h : Mem) (n : Nat) (b : Blk) (k : Mem → Nat → α) : α := putM bad h n (some b) fun h => k h (Nat.succ n)
noncomputable def loadK (Γ : Ctx) (h : Mem) (p : AV) (sz : Nat) (k : List AV → α) : α := match p with
 | .ptr i off => memK bad h i fun b => cutK bad off sz b.cells k
 | .glo g off => match Γ.gl g with
  | some cs => cutK bad off sz cs k
  | none => bad
 | _ => bad
noncomputable def byteCells (l : List Nat) (k : List AV → α) : α :=
 List.rec (motive := fun _ => (List AV → α) → α) (fun k => k []) (fun x _ ih k => ih fun r => k (.int .u8 (.ofNat x) :: r)) l k
noncomputable def cellBytes (l : List AV) (k : List Nat → α) : α :=
 List.rec (motive := fun _ => (List Nat → α) → α) (fun k => k []) (fun x _ ih k => match x with
  | .int .u8 (.ofNat b) => (match Nat.blt b 256 with
   | true => ih fun r => k (b :: r)
   | false => bad)
  | _ => bad) l k
noncomputable def srcK (h : Mem) (sz : Nat) (x : AV) (k : List AV → Nat → α) : α := match x with
 | .nils => k [] 0
 | .sl i off n _ es => (match Nat.beq es sz with
  | true => memK bad h i fun b => cutK bad off (Nat.mul n sz) b.cells fun l => k l n
  | false => bad)
 | .str l => (match Nat.beq sz 1 with
  | true => lenK l fun n => byteCells l fun c => k c n
  | false => bad)
 | _ => bad
def elK (Γ : Ctx) (T : TypeId) (k : Nat → TI → α) : α := tyK bad Γ T fun t => match t.kind with
 | .slice e => tyK bad Γ e fun te => k e te
 | _ => bad
def small (n m : Nat) : Bool := Nat.blt (Nat.mul n m) 10000000000000
def smallL (n m : Nat) : Bool := Nat.blt (Nat.mul n m) 1000000
def sameTy (ty : Option Nat) (e : Nat) : Option Nat := match ty with
 | some V => (match Nat.beq V e with
  | true => some e
  | false => none)
 | none => none
noncomputable def appendK (h : Mem) (n : Nat) (e : Nat) (te : TI) (s x : AV) (k : AV → Mem → Nat → List Nat → α) : α :=
 srcK bad h te.size x fun new m => match Nat.ble 1 te.size, allOne new, s with
  | true, true, .nils => (match m with
   | 0 => k .nils h n []
   | m' + 1 => (match small (Nat.succ m') te.size, small (Nat.succ m') te.bytes with
    | true, true => newK bad h n ⟨false, false, some e, new⟩ fun h n' => frcN (Nat.succ (Nat.mul 2 (Nat.succ m'))) fun c => k (.sl n 0 (Nat.succ m') c te.size) h n' []
    | _, _ => bad))
  | true, true, .sl i off len c es => (match Nat.beq es te.size with
   | false => bad
   | true => memK bad h i fun b => match b with
    | ⟨ro, bx, ty, cells⟩ => frcN (Nat.add len m) fun need => frcN (Nat.mul len es) fun used => match Nat.ble need (Nat.div c 2) with
     | true => (match ro with
      | true => bad
      | false => lenK cells fun z => match Nat.beq z (Nat.add off used) with
       | true => appK cells new fun cs => putM bad h i (some ⟨false, false, ty, cs⟩) fun h => k (.sl i off need c es) h n [i]
       | false => wrK bad (Nat.add off used) new cells fun cs => putM bad h i (some ⟨false, bx, ty, cs⟩) fun h => k (.sl i off need c es) h n [i])
     | false => (match small need te.size, small need te.bytes with
      | true, true => cutK bad off used cells fun old => appK old new fun cs => frcN (Nat.succ (Nat.mul 2 need)) fun c' => (match Nat.beq (Nat.mod c 2) 0 with
       | true => newK bad h n ⟨false, false, some e, cs⟩ fun h n' => k (.sl n 0 need c' es) h n' []
       | false => (match ro with
        | true => bad
        | false => putM bad h i none fun h => newK bad h n ⟨false, false, sameTy ty e, cs⟩ fun h n' => k (.sl n 0 need c' es) h n' [i]))
      | _, _ => bad))
  | _, _, _ => bad
noncomputable def copyK (h : Mem) (n : Nat) (te : TI) (d x : AV) (k : AV → Mem → Nat → List Nat → α) : α := match d with
 | .nils => srcK bad h te.size x fun _ _ => k (.int .i64 (.ofNat 0)) h n []
 | .sl i off len _ es => srcK bad h te.size x fun new m => (match Nat.beq te.size 0, allOne new with
  | false, true => memK bad h i fun b => (match b with
   | ⟨ro, bx, ty, cells⟩ => (match ro, Nat.beq es te.size with
    | false, true => frcN (Nat.min m len) fun q => takeK bad (Nat.mul q te.size) new fun new => wrK bad off new cells fun cs => putM bad h i (some ⟨false, bx, ty, cs⟩) fun h => k (.int .i64 (.ofNat q)) h n [i]
    | _, _ => bad))
  | _, _ => bad)
 | _ => bad
abbrev CallK (α : Type) := FuncId → List AV → Mem → Nat → (AV → Mem → Nat → List Nat → α) → α
noncomputable def heapK (Γ : Ctx) (callK : CallK α) (env : Env) (h : Mem) (n : Nat) (op : Op) (k : AV → Mem → Nat → List Nat → α) : α := match op with
 | .load T x => tyK bad Γ T fun t => oK bad env x fun p => loadK bad Γ h p t.size fun l => asVarK bad t.agg l fun v => k v h n []
 | .store T x y => tyK bad Γ T fun t => oK bad env x fun
  | .ptr i off => memK bad h i fun b => (match b with
   | ⟨ro, bx, ty, cells⟩ => (match ro with
    | true => bad
    | false => oK bad env y fun v => match Nat.beq (cellsOf v).length t.size, allOne (cellsOf v) with
     | true, true => wrK bad off (cellsOf v) cells fun cs => putM bad h i (some ⟨false, bx, ty, cs⟩) fun h => k (.tup []) h n [i]
     | _, _ => bad))
  | _ => bad
 | .alloc T => tyK bad Γ T fun t => newK bad h n ⟨false, true, some T, t.zero⟩ fun h n' => k (.ptr n 0) h n' []
 | .box T x => tyK bad Γ T fun t => oK bad env x fun v => newK bad h n ⟨false, true, some T, cellsOf v⟩ fun h n' => k (.ptr n 0) h n' []
 | .makeSlice T l c => elK bad Γ T fun e te => oK bad env l fun l => oK bad env c fun c => (match l, c with
  | .int _ (.ofNat l), .int _ (.ofNat c) => (match Nat.ble l c, Nat.ble 1 te.size, small c te.size, small c te.bytes with
   | true, true, true, true => repK c te.zero fun cs => newK bad h n ⟨false, false, some e, cs⟩ fun h n' => frcN (Nat.mul 2 c) fun c => k (.sl n 0 l c te.size) h n' []
   | _, _, _, _ => bad)
  | _, _ => bad)
 | .buildSlice T len parts => elK bad Γ T fun e te => (match Nat.ble 1 te.size, smallL len te.size with
  | true, true => repK len te.zero fun zs => litK bad env te.size parts.toList zs fun cs => newK bad h n ⟨false, false, some e, cs⟩ fun h n' => frcN (Nat.mul 2 len) fun c => k (.sl n 0 len c te.size) h n' []
  | _, _ => bad)
 | .slice T x lo hi mx => oK bad env x fun
  | .ptr i off => tyK bad Γ T fun t => (match t.kind with
   | .arr q e => tyK bad Γ e fun te => memK bad h i fun b => (match b with
    | ⟨_, bx, ty, cells⟩ => lenK cells fun z => (match Nat.ble (Nat.add off (Nat.mul q te.size)) z, Nat.ble 1 te.size with
     | true, true => bndsK bad env q q lo hi mx fun lw hh m => (match Nat.beq lw m with
      | true => frcN (Nat.sub hh lw) fun n' => k (.sl i off n' 0 te.size) h n []
      | false => frcN (Nat.add off (Nat.mul lw te.size)) fun o => frcN (Nat.sub hh lw) fun n' => frcN (Nat.mul 2 (Nat.sub m lw)) fun c' => k (.sl i o n' c' te.size) h n [])
     | _, _ => bad))
   | _ => bad)
  | _ => pureK bad Γ env (.slice T x lo hi mx) fun v => k v h n []
 | .convert S T x => oK bad env x fun v => tyK bad Γ S fun s => tyK bad Γ T fun t => (match s.kind, t.kind with
  | .slice e, .str => tyK bad Γ e fun te => (match te.kind, v with
   | .int .u8, .nils => k (.str []) h n []
   | .int .u8, .sl i off m c es => srcK bad h 1 (.sl i off m c es) fun l _ => cellBytes bad l fun l => k (.str l) h n []
   | _, _ => bad)
  | .str, .slice e => tyK bad Γ e fun te => (match te.kind, v with
   | .int .u8, .str l => lenK l fun m => (match small m 1 with
    | true => byteCells l fun cs => newK bad h n ⟨false, false, some e, cs⟩ fun h n' => frcN (Nat.succ (Nat.mul 2 m)) fun c => k (.sl n 0 m c 1) h n' []
    | false => bad)
   | _, _ => bad)
  | _, _ => pureK bad Γ env (.convert S T x) fun v => k v h n [])
 | .call ⟨.value f, as_, _⟩ => oK bad env f fun
  | .fn (.func g) first cap => osK bad env as_.toList fun as_ => appK first as_ fun l => appK l cap fun l => callK g l h n k
  | _ => bad
 | .call ⟨.builtin .append, ⟨[s, x]⟩, ⟨[T, U]⟩⟩ => elK bad Γ T fun e te => tyK bad Γ U fun u => (match u.kind with
  | .slice _ => oK bad env s fun s => oK bad env x fun x => appendK bad h n e te s x k
  | .str => oK bad env s fun s => oK bad env x fun x => appendK bad h n e te s x k
  | _ => bad)
 | .call ⟨.builtin .copy, ⟨[s, x]⟩, ⟨[T, _]⟩⟩ => elK bad Γ T fun e te => oK bad env s fun s => oK bad env x fun x => copyK bad h n te s x k
 | .call ⟨.builtin .unsafeString, ⟨[p, m]⟩, ⟨[U, V]⟩⟩ => oK bad env p fun p => oK bad env m fun m => (match p, m with
  | .nilp, .int .i64 (.ofNat 0) => k (.str []) h n []
  | .ptr _ _, .int .i64 (.ofNat 0) => k (.str []) h n []
  | .ptr i off, .int .i64 (.ofNat (m + 1)) => tyK bad Γ U fun u => (match u.kind with
   | .ptr e => tyK bad Γ e fun te => memK bad h i fun b => (match b with
    | ⟨_, bx, ty, cells⟩ => (match sameTy ty e, Nat.beq te.size 1, small m 1 with
     | some _, true, true => cutK bad off (Nat.succ m) cells fun l => cellBytes bad l fun l => putM bad h i (some ⟨true, bx, ty, cells⟩) fun h => k (.str l) h n [i]
     | _, _, _ => bad))
   | _ => bad)
  | _, _ => bad)
 | op => pureK bad Γ env op fun v => k v h n []
noncomputable def findG (c : Nat) (k : Option Nat → α) (l : List Nat) : Nat → α :=
 List.rec (motive := fun _ => Nat → α) (fun _ => k none) (fun x _ ih i => Bool.rec (motive := fun _ => α) (ih (Nat.succ i)) (k (some i)) (Nat.beq x c)) l
noncomputable def findK (l : List Nat) (c : Nat) (k : Option Nat → α) : α := findG c k l 0
noncomputable def extK (e : Ext) (as_ : List AV) (h : Mem) (n : Nat) (k : AV → Mem → Nat → List Nat → α) : α := match e, as_ with
 | .add64, [.int .u64 (.ofNat x), .int .u64 (.ofNat y), .int .u64 (.ofNat c)] => (match Nat.ble c 1 with
  | true => frcN (Nat.add (Nat.add x y) c) fun s => frcN (Nat.mod s 18446744073709551616) fun lo => frcN (Nat.div s 18446744073709551616) fun hi => k (.tup [.int .u64 (.ofNat lo), .int .u64 (.ofNat hi)]) h n []
  | false => bad)
 | .sub64, [.int .u64 (.ofNat x), .int .u64 (.ofNat y), .int .u64 (.ofNat c)] => (match Nat.ble c 1, Nat.blt x 18446744073709551616, Nat.blt y 18446744073709551616 with
  | true, true, true => (match Nat.ble (Nat.add y c) x with
   | true => frcN (Nat.sub x (Nat.add y c)) fun d => k (.tup [.int .u64 (.ofNat d), .int .u64 (.ofNat 0)]) h n []
   | false => frcN (Nat.sub (Nat.add x 18446744073709551616) (Nat.add y c)) fun d => k (.tup [.int .u64 (.ofNat d), .int .u64 (.ofNat 1)]) h n [])
  | _, _, _ => bad)
 | .same, [v] => k v h n []
 | .idxByte, [.str l, .int .u8 (.ofNat c)] => match Nat.blt c 256 with
  | false => bad
  | true => findK l c fun
  | some i => k (.int .i64 (.ofNat i)) h n []
  | none => k (.int .i64 (.negSucc 0)) h n []
 | .copyCheck U, [.ptr i 0] => memK bad h i fun b => (match b with
  | ⟨ro, bx, ty, cells⟩ => (match ro, bx, ty, cells with
   | false, true, some T, [a, c] => (match Nat.beq T U, a with
    | true, .nilp => putM bad h i (some ⟨false, true, some T, [.ptr i 0, c]⟩) fun h => k (.tup []) h n [i]
    | true, .ptr j 0 => (match Nat.beq j i with
     | true => k (.tup []) h n []
     | false => bad)
    | _, _ => bad)
   | _, _, _, _ => bad))
 | .mkNoZero e, [.int .i64 (.ofNat m)] => (match Nat.blt m 1000000 with
  | true => newK bad h n ⟨false, false, some e, []⟩ fun h n' => frcN (Nat.succ (Nat.mul 2 m)) fun c => k (.sl n 0 m c 1) h n' []
  | false => bad)
 | .user F, as_ => (match F as_ h n with
  | some (v, h, n, tl) => k v h n tl
  | none => bad)
 | _, _ => bad
noncomputable def wantK (ops : List Oper) (env : Env) (o : Oper) (k : Bool → α) : α := match o.guard with
 | none => k true
 | some (j, want) => match ops[j]? with
  | some oj => (match oj.dst with
   | some t => (match env.get t with
    | some (.bool b) => (match b, want with
     | true, true => k true
     | false, false => k true
     | _, _ => k false)
    | some _ => k false
    | none => bad)
   | none => bad)
  | none => bad
noncomputable def setK (nt : Nat) (env : Env) (d : Option Tmp) (v : AV) (k : Env → α) : α := match d with
 | none => k env
 | some t => (match Nat.blt t nt with
  | true => Tr.putK bad (some v) 40 env t k
  | false => bad)
noncomputable def logK (fb : Nat) (tl lg : List Nat) (k : List Nat → α) : α :=
 List.rec (motive := fun _ => List Nat → α) (fun lg => k lg) (fun t _ ih lg => match Nat.blt t fb with
  | true => ih (t :: lg)
  | false => ih lg) tl lg
noncomputable def seqK (Γ : Ctx) (callK : CallK α) (fb nt : Nat) (all l : List Oper) : Env → Mem → Nat → List Nat → (Env → Mem → Nat → List Nat → α) → α :=
 List.rec (motive := fun _ => Env → Mem → Nat → List Nat → (Env → Mem → Nat → List Nat → α) → α) (fun env h n lg k => k env h n lg)
  (fun o _ ih env h n lg k => wantK bad all env o fun
   | true => heapK bad Γ callK env h n o.op fun v h n tl => setK bad nt env o.dst v fun env => logK fb tl lg fun lg => ih env h n lg k
   | false => setK bad nt env o.dst (.tup []) fun env => ih env h n lg k) l
inductive Did where
 | none
 | rd (i : Nat)
 | gen (lo hi : Nat) (tl : List Nat)
noncomputable def memB (x : Nat) (l : List Nat) : Bool := List.rec (motive := fun _ => Bool) false (fun y _ ih => Bool.rec (motive := fun _ => Bool) ih true (Nat.beq x y)) l
def bindsB (g : Ground) : Bool := match g with
 | .textOnly _ => false
 | .gcOnly _ => false
 | _ => true
noncomputable def waitsL (tab : List (List Nat)) (es : List Edge) : List Nat :=
 es.foldr (fun e acc => match bindsB e.ground with
  | true => e.on :: ((tab[e.on]?).getD [] ++ acc)
  | false => acc) []
noncomputable def waitsT : List Oper → List (List Nat) → List (List Nat)
 | [], tab => tab
 | o :: r, tab => waitsT r (tab ++ [(waitsL tab o.after.toList)])
def looks (all : List Oper) (o : Oper) : List Nat :=
 (o.op.operands.toList.filterMap fun | .tmp t => some t | _ => none) ++ (match o.guard with
  | none => []
  | some (j, _) => match all[j]? with
   | some oj => oj.dst.toList
   | none => [])
noncomputable def apartB (all : List Oper) (x y : Oper) : Bool :=
 (match x.dst with
  | some t => !memB t (looks all y) && (match y.dst with | some u => !Nat.beq t u | none => true)
  | none => true) &&
 (match y.dst with
  | some u => !memB u (looks all x)
  | none => true)
noncomputable def freeL (all : List Oper) (o : Oper) (ws : List Nat) (j : Nat) : List Oper → Nat → Option (List Nat)
 | [], _ => some []
 | x :: r, q => match memB (j - (q + 1)) ws with
  | true => freeL all o ws j r (q + 1)
  | false => match apartB all x o with
   | true => (match freeL all o ws j r (q + 1) with
    | some l => some (q :: l)
    | none => none)
   | false => none
noncomputable def edgeB (j : Nat) (o : Oper) : Bool := o.after.toList.all fun e => !bindsB e.ground || Nat.blt e.on j
noncomputable def regT (all : List Oper) (tab : List (List Nat)) : List Oper → List Oper → Nat → Option (List (Oper × List Nat))
 | [], _, _ => some []
 | o :: r, prev, j => match edgeB j o with
  | false => none
  | true => match freeL all o ((tab[j]?).getD []) j prev 0 with
   | none => none
   | some l => match regT all tab r (o :: prev) (j + 1) with
    | none => none
    | some t => some ((o, l) :: t)
noncomputable def reg (all : List Oper) : Option (List (Oper × List Nat)) := regT all (waitsT all []) all [] 0
inductive OpC where
 | pure | load | gen
def classOf : Op → OpC
 | .load .. => .load
 | .move _ | .assign _ | .pick .. | .fieldAddr .. | .field .. | .extract .. | .binOp .. | .unOp .. | .build .. | .indexAddr .. | .index .. | .nilCheck _ | .makeFunc .. => .pure
 | .call ⟨.builtin .len, _, _⟩ | .call ⟨.builtin .cap, _, _⟩ | .call ⟨.builtin .min, _, _⟩ | .call ⟨.builtin .max, _, _⟩ | .call ⟨.builtin .unsafeSliceData, _, _⟩ => .pure
 | _ => .gen
noncomputable def quietB (ds : List Did) (i : Nat) (fr : List Nat) : Bool :=
 List.rec (motive := fun _ => Bool) true (fun (q : Nat) _ ih => match ds[q]? with
  | some (.gen lo hi tl) => (match (Nat.ble lo i && Nat.blt i hi) || memB i tl with
   | true => false
   | false => ih)
  | some _ => ih
  | none => false) fr
noncomputable def dropOneK (h : Mem) (i : Nat) (rm : List (Nat × Blk)) (k : Mem → List (Nat × Blk) → α) : α := match h.get i with
 | some b => putM bad h i none fun h => k h ((i, b) :: rm)
 | none => k h rm
noncomputable def dropRangeK (lo c : Nat) : Mem → List (Nat × Blk) → (Mem → List (Nat × Blk) → α) → α :=
 Nat.rec (motive := fun _ => Mem → List (Nat × Blk) → (Mem → List (Nat × Blk) → α) → α) (fun h rm k => k h rm)
  (fun c ih h rm k => dropOneK bad h (Nat.add lo c) rm fun h rm => ih h rm k) c
noncomputable def dropListK (tl : List Nat) : Mem → List (Nat × Blk) → (Mem → List (Nat × Blk) → α) → α :=
 List.rec (motive := fun _ => Mem → List (Nat × Blk) → (Mem → List (Nat × Blk) → α) → α) (fun h rm k => k h rm)
  (fun t _ ih h rm k => dropOneK bad h t rm fun h rm => ih h rm k) tl
noncomputable def dropAllK (ds : List Did) (fr : List Nat) : Mem → List (Nat × Blk) → (Mem → List (Nat × Blk) → α) → α :=
 List.rec (motive := fun _ => Mem → List (Nat × Blk) → (Mem → List (Nat × Blk) → α) → α) (fun h rm k => k h rm)
  (fun (q : Nat) _ ih h rm k => match ds[q]? with
   | some (.gen lo hi tl) => dropRangeK bad lo (Nat.sub hi lo) h rm fun h rm => dropListK bad tl h rm fun h rm => ih h rm k
   | some _ => ih h rm k
   | none => bad) fr
noncomputable def backK (rm : List (Nat × Blk)) : Mem → (Mem → α) → α :=
 List.rec (motive := fun _ => Mem → (Mem → α) → α) (fun h k => k h) (fun p _ ih h k => putM bad h p.1 (some p.2) fun h => ih h k) rm
noncomputable def unseenB (ds : List Did) (tl fr : List Nat) : Bool := match tl with
 | [] => true
 | _ => List.rec (motive := fun _ => Bool) true (fun (q : Nat) _ ih => match ds[q]? with
  | some .none => ih
  | some (.rd i) => (match memB i tl with
   | true => false
   | false => ih)
  | _ => false) fr
noncomputable def drawK (Γ : Ctx) (callK : CallK α) (fb nt : Nat) (all : List Oper) (l : List (Oper × List Nat)) : List Did → Env → Mem → Nat → List Nat → (Env → Mem → Nat → List Nat → α) → α :=
 List.rec (motive := fun _ => List Did → Env → Mem → Nat → List Nat → (Env → Mem → Nat → List Nat → α) → α) (fun _ env h n lg k => k env h n lg)
  (fun p _ ih ds env h n lg k => match p with
   | (o, fr) => wantK bad all env o fun
    | false => setK bad nt env o.dst (.tup []) fun env => ih (.none :: ds) env h n lg k
    | true => match classOf o.op with
     | .pure => pureK bad Γ env o.op fun v => setK bad nt env o.dst v fun env => ih (.none :: ds) env h n lg k
     | .load => (match o.op with
      | .load T x => tyK bad Γ T fun t => oK bad env x fun p => loadK bad Γ h p t.size fun l => asVarK bad t.agg l fun v => setK bad nt env o.dst v fun env => (match p with
       | .ptr i _ => (match quietB ds i fr with
        | true => ih (.rd i :: ds) env h n lg k
        | false => bad)
       | .glo _ _ => ih (.none :: ds) env h n lg k
       | _ => bad)
      | _ => bad)
     | .gen => dropAllK bad ds fr h [] fun h rm => heapK bad Γ callK env h n o.op fun v h n' tl => (match unseenB ds tl fr with
      | true => backK bad rm h fun h => setK bad nt env o.dst v fun env => logK fb tl lg fun lg => ih (.gen n n' tl :: ds) env h n' lg k
      | false => bad)) l
inductive Ex where
 | nrm | ext (id : Nat) | ret
abbrev RunK (α : Type) := Code → Nat → Nat → Env → Mem → Nat → List Nat → (Ex → Env → Mem → Nat → List Nat → α) → α
noncomputable def argEnvK (as_ : List AV) : Nat → Env → (Env → α) → α :=
 List.rec (motive := fun _ => Nat → Env → (Env → α) → α) (fun _ env k => k env) (fun v _ ih i env k => Tr.putK bad (some v) 40 env i fun env => ih (Nat.succ i) env k) as_
noncomputable def resK (Γ : Ctx) (env : Env) (h : Mem) : List ResultVar → (List AV → α) → α
 | [], k => k []
 | .tmp t :: r, k => (match env.get t with
  | some v => resK Γ env h r fun l => k (v :: l)
  | none => bad)
 | .cell t T :: r, k => (match env.get t with
  | some p => tyK bad Γ T fun ti => loadK bad Γ h p ti.size fun l => asVarK bad ti.agg l fun v => resK Γ env h r fun l => k (v :: l)
  | none => bad)
def oneOf : List AV → AV
 | [v] => v
 | l => .tup l
def plainV1 : AV → Bool
 | .bool _ | .int .. | .str _ | .nilp | .nils | .nilf | .nili | .glo .. => true
 | _ => false
noncomputable def plainL1 (l : List AV) : Bool := List.rec (motive := fun _ => Bool) true (fun x _ ih => Bool.rec (motive := fun _ => Bool) false ih (plainV1 x)) l
noncomputable def plainV2 : AV → Bool
 | .agg l => plainL1 l
 | v => plainV1 v
noncomputable def plainL2 (l : List AV) : Bool := List.rec (motive := fun _ => Bool) true (fun x _ ih => Bool.rec (motive := fun _ => Bool) false ih (plainV2 x)) l
noncomputable def plainV : AV → Bool
 | .tup l => plainL2 l
 | v => plainV2 v
noncomputable def endK (k : AV → Mem → Nat → List Nat → α) (h : Mem) (n : Nat) (h' : Mem) (n' : Nat) (lg : List Nat) (v : AV) : α := match plainV v, lg with
 | true, [] => k v h n []
 | _, lg => k v h' n' lg
noncomputable def callF (Γ : Ctx) (run : RunK α) : CallK α := fun f as_ h n k => match Γ.fn f with
 | some (.ext x) => extK bad x as_ h n k
 | some (.body ⟨nt, rs, code⟩) => lenK as_ fun na => match Nat.ble na nt with
  | false => bad
  | true => argEnvK bad as_ 0 .e fun env => run code n nt env h n [] fun e env' h' n' lg => match e with
  | .ext _ => bad
  | _ => resK bad Γ env' h' rs fun l => endK k h n h' n' lg (oneOf l)
 | none => bad
noncomputable def bodyK (Γ : Ctx) (run : RunK α) : RunK α := fun c fb nt env h n lg k => match c with
 | .skip => k .nrm env h n lg
 | .label _ => k .nrm env h n lg
 | .region _ ops false => seqK bad Γ (callF bad Γ run) fb nt ops.toList ops.toList env h n lg fun env h n lg => k .nrm env h n lg
 | .region _ ops true => (match reg ops.toList with
  | some t => drawK bad Γ (callF bad Γ run) fb nt ops.toList t [] env h n lg fun env h n lg => k .nrm env h n lg
  | none => bad)
 | .seq a b => run a fb nt env h n lg fun e env h n lg => (match e with
  | .nrm => run b fb nt env h n lg k
  | e => k e env h n lg)
 | .cond c a b => oK bad env c fun
  | .bool t => (match t with
   | true => run a fb nt env h n lg k
   | false => run b fb nt env h n lg k)
  | _ => bad
 | .block id b => run b fb nt env h n lg fun e env h n lg => (match e with
  | .ext j => (match Nat.beq j id with
   | true => k .nrm env h n lg
   | false => k (.ext j) env h n lg)
  | e => k e env h n lg)
 | .loop b => run b fb nt env h n lg fun e env h n lg => (match e with
  | .nrm => run (.loop b) fb nt env h n lg k
  | e => k e env h n lg)
 | .scope b => run b fb nt env h n lg k
 | .exit id => k (.ext id) env h n lg
 | .ret => k .ret env h n lg
 | _ => bad
noncomputable def run (Γ : Ctx) (fuel : Nat) : RunK α := Nat.rec (motive := fun _ => RunK α) (fun _ _ _ _ _ _ _ _ => bad) (fun _ ih => bodyK bad Γ ih) fuel
noncomputable def exec (Γ : Ctx) (fuel : Nat) (f : FuncId) (as_ : List AV) (k : AV → α) : α := callF bad Γ (run bad Γ fuel) f as_ .e 0 fun v _ _ _ => k v
end
end Go.Proofs.YtejljnlfgiifoaaGreatDoor.VM
namespace Go.Proofs.YtejljnlfgiifoaaGreatDoor.VM
open Go
theorem Tr.get_e {α : Type} (i : Nat) : (Tr.e : Tr α).get i = none := rfl
theorem Tr.get_succ {α : Type} (x : Option α) (l r : Tr α) (j : Nat) : (Tr.n x l r).get (j + 1) = if j % 2 = 0 then l.get (j / 2) else r.get (j / 2) := by
 show (Bool.rec (motive := fun _ => Option α) (r.get (j / 2)) (l.get (j / 2)) (Nat.beq (j % 2) 0) : Option α) = _
 cases h : Nat.beq (j % 2) 0 with
 | true => rw [if_pos (Nat.eq_of_beq_eq_true h)]
 | false => rw [if_neg (fun e => by rw [e] at h; cases h)]
theorem Tr.put {α β : Type} {bad : β} {T : β → Prop} (hb : ¬ T bad) (y : Option α) : ∀ (f : Nat) (t : Tr α) (i : Nat) (k : Tr α → β), T (Tr.putK bad y f t i k) →
  ∃ t', T (k t') ∧ ∀ j, t'.get j = if j = i then y else t.get j := by
 intro f
 induction f with
 | zero => intro t i k h; exact absurd h hb
 | succ f ih =>
  intro t i k h
  cases t with
  | e =>
   cases i with
   | zero => refine ⟨_, h, fun j => ?_⟩; cases j with
    | zero => rfl
    | succ j => rw [Tr.get_succ]; simp [Tr.get_e]
   | succ i =>
    have h' : T (Bool.rec (Tr.putK bad y f .e (i / 2) fun r => k (.n none .e r)) (Tr.putK bad y f .e (i / 2) fun l => k (.n none l .e)) (Nat.beq (i % 2) 0)) := h
    cases hc : Nat.beq (i % 2) 0 with
    | true =>
     rw [hc] at h'
     obtain ⟨t', h1, h2⟩ := ih _ _ _ h'
     have := Nat.eq_of_beq_eq_true hc
     refine ⟨_, h1, fun j => ?_⟩
     cases j with
     | zero => rfl
     | succ j =>
      rw [Tr.get_succ, h2]
      by_cases e : j = i
      ·subst e; simp [this]
      ·by_cases e2 : j % 2 = 0
       ·rw [if_pos e2, if_neg (by omega), if_neg (by omega)]; rfl
       ·rw [if_neg e2, if_neg (by omega)]; rfl
    | false =>
     rw [hc] at h'
     obtain ⟨t', h1, h2⟩ := ih _ _ _ h'
     have : i % 2 ≠ 0 := fun e => by rw [e] at hc; cases hc
     refine ⟨_, h1, fun j => ?_⟩
     cases j with
     | zero => rfl
     | succ j =>
      rw [Tr.get_succ, h2]
      by_cases e : j = i
      ·subst e; simp [this]
      ·by_cases e2 : j % 2 = 0
       ·rw [if_pos e2, if_neg (by omega)]; rfl
       ·rw [if_neg e2, if_neg (by omega), if_neg (by omega)]; rfl
  | n x l r =>
   cases i with
   | zero => refine ⟨_, h, fun j => ?_⟩; cases j with
    | zero => rfl
    | succ j => rw [Tr.get_succ, Tr.get_succ]; simp
   | succ i =>
    have h' : T (Bool.rec (Tr.putK bad y f r (i / 2) fun r => k (.n x l r)) (Tr.putK bad y f l (i / 2) fun l => k (.n x l r)) (Nat.beq (i % 2) 0)) := h
    cases hc : Nat.beq (i % 2) 0 with
    | true =>
     rw [hc] at h'
     obtain ⟨t', h1, h2⟩ := ih _ _ _ h'
     have := Nat.eq_of_beq_eq_true hc
     refine ⟨_, h1, fun j => ?_⟩
     cases j with
     | zero => rfl
     | succ j =>
      rw [Tr.get_succ, Tr.get_succ, h2]
      by_cases e : j = i
      ·subst e; simp [this]
      ·by_cases e2 : j % 2 = 0
       ·rw [if_pos e2, if_pos e2, if_neg (by omega), if_neg (by omega)]
       ·rw [if_neg e2, if_neg e2, if_neg (by omega)]
    | false =>
     rw [hc] at h'
     obtain ⟨t', h1, h2⟩ := ih _ _ _ h'
     have : i % 2 ≠ 0 := fun e => by rw [e] at hc; cases hc
     refine ⟨_, h1, fun j => ?_⟩
     cases j with
     | zero => rfl
     | succ j =>
      rw [Tr.get_succ, Tr.get_succ, h2]
      by_cases e : j = i
      ·subst e; simp [this]
      ·by_cases e2 : j % 2 = 0
       ·rw [if_pos e2, if_pos e2, if_neg (by omega)]
       ·rw [if_neg e2, if_neg e2, if_neg (by omega), if_neg (by omega)]
section
variable {α β : Type} {bad : α} {T : α → Prop} (hb : ¬ T bad)
include hb
theorem dropK_spec : ∀ (off : Nat) (cs : List β) (k : List β → α), T (dropK bad off cs k) → T (k (cs.drop off)) ∧ off ≤ cs.length
 | 0, cs, k, h => ⟨h, Nat.zero_le _⟩
 | off + 1, [], k, h => absurd h hb
 | off + 1, x :: cs, k, h => by
  have := dropK_spec off cs k h
  exact ⟨this.1, by simp; exact this.2⟩
theorem takeK_spec : ∀ (n : Nat) (cs : List β) (k : List β → α), T (takeK bad n cs k) → T (k (cs.take n)) ∧ n ≤ cs.length
 | 0, cs, k, h => ⟨h, Nat.zero_le _⟩
 | n + 1, [], k, h => absurd h hb
 | n + 1, x :: cs, k, h => by
  have := takeK_spec n cs (fun r => k (x :: r)) h
  exact ⟨by simpa using this.1, by simp; exact this.2⟩
theorem cutK_spec (off n : Nat) (cs : List β) (k : List β → α) (h : T (cutK bad off n cs k)) : T (k ((cs.drop off).take n)) ∧ off + n ≤ cs.length := by
 obtain ⟨h1, h2⟩ := dropK_spec hb off cs _ h
 obtain ⟨h3, h4⟩ := takeK_spec hb n _ k h1
 exact ⟨h3, by simp at h4; omega⟩
theorem ovrK_spec : ∀ (vs cs : List β) (k : List β → α), T (ovrK bad vs cs k) → T (k (vs ++ cs.drop vs.length)) ∧ vs.length ≤ cs.length
 | [], cs, k, h => ⟨h, Nat.zero_le _⟩
 | v :: vs, [], k, h => absurd h hb
 | v :: vs, c :: cs, k, h => by
  have := ovrK_spec vs cs (fun r => k (v :: r)) h
  exact ⟨by simpa using this.1, by simp; exact this.2⟩
theorem wrK_spec : ∀ (off : Nat) (vs cs : List β) (k : List β → α), T (wrK bad off vs cs k) → T (k (cs.take off ++ vs ++ cs.drop (off + vs.length))) ∧ off + vs.length ≤ cs.length
 | 0, vs, cs, k, h => by
  have := ovrK_spec hb vs cs k h
  simpa using this
 | off + 1, vs, [], k, h => absurd h hb
 | off + 1, vs, c :: cs, k, h => by
  have := wrK_spec off vs cs (fun r => k (c :: r)) h
  simp [Nat.add_right_comm off 1] at this ⊢
  exact ⟨this.1, by omega⟩
end
end Go.Proofs.YtejljnlfgiifoaaGreatDoor.VM
namespace Go.Proofs.YtejljnlfgiifoaaGreatDoor.VM
open Go Go.RowKit Go.Proofs.YtejljnlfgiifoaaGreatDoor
structure Pl where
 b : Nat
 s : Nat
 z : Nat
abbrev Be := Nat → Option Pl
inductive VR (β : Be) : AV → Value → Prop
 | bool (b : Bool) : VR β (.bool b) (.bool b)
 | int (k : IntKind) (n : Int) : VR β (.int k n) (.int k n)
 | str (l : List Nat) (a : ByteArray) (h : a.data.toList.map UInt8.toNat = l) : VR β (.str l) (.string a)
 | ptr (i off : Nat) (p : Pl) (h : β i = some p) : VR β (.ptr i off) (.pointer (some ⟨p.b, p.s + off, none⟩))
 | glo (g off : Nat) : VR β (.glo g off) (.pointer (some ⟨g, off, none⟩))
 | nilp : VR β .nilp (.pointer none)
 | sl (i off n c c' es : Nat) (p : Pl) (h : β i = some p) (hn : n ≤ c / 2) (hc : c = 2 * c' ∨ ∃ m, c = 2 * m + 1 ∧ m ≤ c') (hz : p.s + off + c' * es ≤ p.z) : VR β (.sl i off n c es) (.slice (some ⟨p.b, p.s + off, none⟩) n c')
 | nils : VR β .nils (.slice none 0 0)
 | agg (l : List AV) (l' : List Value) (hl : l.length = l'.length) (h : ∀ (j : Nat) (x : AV) (y : Value), l[j]? = some x → l'[j]? = some y → VR β x y) : VR β (.agg l) (.agg l'.toArray)
 | tup (l : List AV) (l' : List Value) (hl : l.length = l'.length) (h : ∀ (j : Nat) (x : AV) (y : Value), l[j]? = some x → l'[j]? = some y → VR β x y) : VR β (.tup l) (.tuple l'.toArray)
 | fn (f : Fn) (a b : List AV) (a' b' : List Value) (hl : a.length = a'.length) (h : ∀ (j : Nat) (x : AV) (y : Value), a[j]? = some x → a'[j]? = some y → VR β x y) (hl2 : b.length = b'.length) (h2 : ∀ (j : Nat) (x : AV) (y : Value), b[j]? = some x → b'[j]? = some y → VR β x y) :
   VR β (.fn f a b) (.func f a'.toArray b'.toArray)
 | nilf : VR β .nilf .nilFunc
 | ifc (t : TypeId) (v : AV) (v' : Value) (h : VR β v v') : VR β (.ifc t v) (.iface t v')
 | nili : VR β .nili .nilIface
def VL (β : Be) (l : List AV) (l' : List Value) : Prop := l.length = l'.length ∧ ∀ (j : Nat) (x : AV) (y : Value), l[j]? = some x → l'[j]? = some y → VR β x y
def BLe (β γ : Be) : Prop := ∀ i p, β i = some p → γ i = some p
theorem VR.mono {β γ : Be} (hle : BLe β γ) {v : AV} {y : Value} (h : VR β v y) : VR γ v y := by
 induction h with
 | bool b => exact .bool b
 | int k n => exact .int k n
 | str l a h => exact .str l a h
 | ptr i off p h => exact .ptr i off p (hle i p h)
 | glo g off => exact .glo g off
 | nilp => exact .nilp
 | sl i off n c c' es p h hn hc hz => exact .sl i off n c c' es p (hle i p h) hn hc hz
 | nils => exact .nils
 | agg l l' hl h ih => exact .agg l l' hl ih
 | tup l l' hl h ih => exact .tup l l' hl ih
 | fn f a b a' b' hl h hl2 h2 ih ih2 => exact .fn f a b a' b' hl ih hl2 ih2
 | nilf => exact .nilf
 | ifc t v v' h ih => exact .ifc t v v' ih
 | nili => exact .nili
theorem VL.mono {β γ : Be} (hle : BLe β γ) {l : List AV} {l' : List Value} (h : VL β l l') : VL γ l l' := ⟨h.1, fun j x y hx hy => (h.2 j x y hx hy).mono hle⟩
theorem VL.nil (β : Be) : VL β [] [] := ⟨rfl, fun j x y hx _ => by simp at hx⟩
theorem VL.cons {β : Be} {x : AV} {y : Value} {l : List AV} {l' : List Value} (h : VR β x y) (hl : VL β l l') : VL β (x :: l) (y :: l') :=
 ⟨by simp [hl.1], fun j u v hu hv => by cases j with
  | zero => simp at hu hv; subst hu; subst hv; exact h
  | succ j => exact hl.2 j u v (by simpa using hu) (by simpa using hv)⟩
theorem VL.get {β : Be} {l : List AV} {l' : List Value} (h : VL β l l') {j : Nat} {x : AV} (hx : l[j]? = some x) : ∃ y, l'[j]? = some y ∧ VR β x y := by
 have hj : j < l.length := (List.getElem?_eq_some_iff.1 hx).1
 have hj' : j < l'.length := by rw [← h.1]; exact hj
 exact ⟨l'[j], List.getElem?_eq_getElem hj', h.2 j x _ hx (List.getElem?_eq_getElem hj')⟩
theorem VL.app {β : Be} {l m : List AV} {l' m' : List Value} (h : VL β l l') (k : VL β m m') : VL β (l ++ m) (l' ++ m') :=
 ⟨by simp [h.1, k.1], fun j x y hx hy => by
  by_cases hj : j < l.length
  ·rw [List.getElem?_append_left hj] at hx
   rw [List.getElem?_append_left (by rw [← h.1]; exact hj)] at hy
   exact h.2 j x y hx hy
  ·rw [List.getElem?_append_right (by omega)] at hx
   rw [List.getElem?_append_right (by rw [← h.1]; omega), ← h.1] at hy
   exact k.2 _ x y hx hy⟩
theorem VL.drop {β : Be} {l : List AV} {l' : List Value} (h : VL β l l') (n : Nat) : VL β (l.drop n) (l'.drop n) :=
 ⟨by simp [h.1], fun j x y hx hy => by rw [List.getElem?_drop] at hx hy; exact h.2 _ x y hx hy⟩
theorem VL.take {β : Be} {l : List AV} {l' : List Value} (h : VL β l l') (n : Nat) : VL β (l.take n) (l'.take n) :=
 ⟨by simp [h.1], fun j x y hx hy => by
  rw [List.getElem?_take] at hx hy
  split at hx
  ·rename_i hj; rw [if_pos hj] at hy; exact h.2 _ x y hx hy
  ·cases hx⟩
theorem VL.rep {β : Be} {l : List AV} {l' : List Value} (h : VL β l l') : ∀ n, VL β ((List.replicate n l).flatten) ((List.replicate n l').flatten)
 | 0 => VL.nil β
 | n + 1 => by rw [List.replicate_succ, List.flatten_cons, List.replicate_succ, List.flatten_cons]; exact h.app (VL.rep h n)
theorem VR.cells {β : Be} {v : AV} {y : Value} (h : VR β v y) : VL β (cellsOf v) y.cells.toList := by
 cases h with
 | agg l l' hl h => exact ⟨hl, h⟩
 | bool b => exact (VL.nil β).cons (.bool b)
 | int k n => exact (VL.nil β).cons (.int k n)
 | str l a h => exact (VL.nil β).cons (.str l a h)
 | ptr i off p h => exact (VL.nil β).cons (.ptr i off p h)
 | glo g off => exact (VL.nil β).cons (.glo g off)
 | nilp => exact (VL.nil β).cons .nilp
 | sl i off n c c' es p h hn hc hz => exact (VL.nil β).cons (.sl i off n c c' es p h hn hc hz)
 | nils => exact (VL.nil β).cons .nils
 | tup l l' hl h => exact (VL.nil β).cons (.tup l l' hl h)
 | fn f a b a' b' hl h hl2 h2 => exact (VL.nil β).cons (.fn f a b a' b' hl h hl2 h2)
 | nilf => exact (VL.nil β).cons .nilf
 | ifc t v v' h => exact (VL.nil β).cons (.ifc t v v' h)
 | nili => exact (VL.nil β).cons .nili
theorem VR.one {β : Be} {v : AV} {y : Value} (h : VR β v y) (ho : oneCell v = true) : y.oneCell' = true := by
 cases h <;> first | rfl | cases ho
def TK.ok (P : Program) (T : TypeId) : TK → Prop
 | .int k => P.underlying T = some (.int k)
 | .bool => P.underlying T = some .bool
 | .str => P.underlying T = some .string
 | .slice e => P.underlying T = some (.slice e)
 | .arr n e => P.underlying T = some (.array n e)
 | .ptr e => P.underlying T = some (.pointer e)
 | .fn => ∃ a b c, P.underlying T = some (.func a b c)
 | .strct => ∃ fs, P.underlying T = some (.struct fs)
 | .other => True
def fieldSem (ag : Bool) (fo sz : Nat) (cs : Array Value) : Sem Value := match ag with
 | true => pure (.agg (cs.extract fo (fo + sz)))
 | false => match cs[fo]? with
  | some v => pure v
  | none => stuck "part: no such cell"
def FOk (P : Program) (T : TypeId) : Nat → List (Nat × Bool × Nat) → Prop
 | _, [] => True
 | k, (fo, ag, sz) :: r => ((∀ (w : World) (a : Addr), (Instr.fieldAt T (.pointer (some a)) k).run P w = .ok (.pointer (some (a.add fo))) w) ∧
   (∀ (w : World) (cs : Array Value), (Instr.field T (.agg cs) k).run P w = (fieldSem ag fo sz cs).run P w)) ∧ FOk P T (k + 1) r
theorem FOk.get {P : Program} {T : TypeId} : ∀ {l : List (Nat × Bool × Nat)} {k : Nat}, FOk P T k l → ∀ {f fo : Nat} {ag : Bool} {sz : Nat}, l[f]? = some (fo, ag, sz) →
  ((∀ (w : World) (a : Addr), (Instr.fieldAt T (.pointer (some a)) (k + f)).run P w = .ok (.pointer (some (a.add fo))) w) ∧
   (∀ (w : World) (cs : Array Value), (Instr.field T (.agg cs) (k + f)).run P w = (fieldSem ag fo sz cs).run P w))
 | [], k, _, f, fo, ag, sz, h => by simp at h
 | (fo', ag', sz') :: r, k, hok, f, fo, ag, sz, h => by
  cases f with
  | zero => simp at h; obtain ⟨rfl, rfl, rfl⟩ := h; exact hok.1
  | succ f =>
   have := FOk.get hok.2 (f := f) (fo := fo) (ag := ag) (sz := sz) (by simpa using h)
   rwa [show k + 1 + f = k + (f + 1) by omega] at this
section
variable {α : Type} {bad : α} {T : α → Prop} (hb : ¬ T bad)
include hb
end
theorem laid_find {P : Program} {W : World} {n : String} {d : DataW Unit} : ∀ {l : List (String × DataW Unit)} {ps : List MemPlace}, DataW.LaidVars P W l ps → (n, d) ∈ l →
  ∃ p, DataW.LaidVars P W [(n, d)] p
 | [], _, _, h => by cases h
 | (m, x) :: r, ps, h, hm => by
  obtain ⟨g, t, cs, fuel, p, q, h1, h2, h3, h4, h5, h6⟩ := h
  rcases List.mem_cons.1 hm with hm | hm
  ·cases hm
   exact ⟨_, g, t, cs, fuel, p, [], h1, h2, h3, h4, rfl, rfl⟩
  ·exact laid_find h5 hm
end Go.Proofs.YtejljnlfgiifoaaGreatDoor.VM
