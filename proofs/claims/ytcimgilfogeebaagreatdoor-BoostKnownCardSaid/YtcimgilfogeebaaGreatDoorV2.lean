/- VM, 2: the machine: memory, calls, code. -/
import Derived.Test.YtcimgilfogeebaaGreatDoorV1
set_option linter.unusedVariables false
set_option linter.unusedSimpArgs false
namespace Go.Proofs.YtcimgilfogeebaaGreatDoor.VM
open Go

section
variable {α : Type} (bad : α)
noncomputable def memK (h : Mem) (i : Nat) (k : Blk → α) : α := match h.get i with
  | some b => k b
  | none => bad
noncomputable def putM (h : Mem) (i : Nat) (b : Option Blk) (k : Mem → α) : α := Tr.putK bad b (Nat.succ i) h i k
/-- a new block -/
noncomputable def newK (h : Mem) (n : Nat) (b : Blk) (k : Mem → Nat → α) : α := putM bad h n (some b) fun h => k h (Nat.succ n)
/-- the cells at an address -/
noncomputable def loadK (Γ : Ctx) (h : Mem) (p : AV) (sz : Nat) (k : List AV → α) : α := match p with
  | .ptr i off => memK bad h i fun b => cutK bad off sz b.cells k
  | .glo g off => match Γ.gl g with
    | some cs => cutK bad off sz cs k
    | none => bad
  | _ => bad
noncomputable def byteCells (l : List Nat) (k : List AV → α) : α :=
  List.rec (motive := fun _ => (List AV → α) → α) (fun k => k []) (fun x _ ih k => ih fun r => k (.int .u8 (.ofNat x) :: r)) l k
noncomputable def cellBytes (l : List AV) (k : List Nat → α) : α :=
  List.rec (motive := fun _ => (List Nat → α) → α) (fun k => k []) (fun x _ ih k => match x with
    | .int .u8 (.ofNat b) => (match Nat.blt b 256 with
      | true => ih fun r => k (b :: r)
      | false => bad)
    | _ => bad) l k
/-- the cells of the elements of a slice, or of a text's bytes; how many elements -/
noncomputable def srcK (h : Mem) (sz : Nat) (x : AV) (k : List AV → Nat → α) : α := match x with
  | .nils => k [] 0
  | .sl i off n _ es => (match Nat.beq es sz with
    | true => memK bad h i fun b => cutK bad off (Nat.mul n sz) b.cells fun l => k l n
    | false => bad)
  | .str l => (match Nat.beq sz 1 with
    | true => lenK l fun n => byteCells l fun c => k c n
    | false => bad)
  | _ => bad
def elK (Γ : Ctx) (T : TypeId) (k : Nat → TI → α) : α := tyK bad Γ T fun t => match t.kind with
  | .slice e => tyK bad Γ e fun te => k e te
  | _ => bad
def small (n m : Nat) : Bool := Nat.blt (Nat.mul n m) 10000000000000
def smallL (n m : Nat) : Bool := Nat.blt (Nat.mul n m) 1000000
def sameTy (ty : Option Nat) (e : Nat) : Option Nat := match ty with
  | some V => (match Nat.beq V e with
    | true => some e
    | false => none)
  | none => none
noncomputable def appendK (h : Mem) (n : Nat) (e : Nat) (te : TI) (s x : AV) (k : AV → Mem → Nat → List Nat → α) : α :=
  srcK bad h te.size x fun new m => match Nat.ble 1 te.size, allOne new, s with
    | true, true, .nils => (match m with
      | 0 => k .nils h n []
      | m' + 1 => (match small (Nat.succ m') te.size, small (Nat.succ m') te.bytes with
        | true, true => newK bad h n ⟨false, false, some e, new⟩ fun h n' => frcN (Nat.succ (Nat.mul 2 (Nat.succ m'))) fun c => k (.sl n 0 (Nat.succ m') c te.size) h n' []
        | _, _ => bad))
    | true, true, .sl i off len c es => (match Nat.beq es te.size with
      | false => bad
      | true => memK bad h i fun b => match b with
        | ⟨ro, bx, ty, cells⟩ => frcN (Nat.add len m) fun need => frcN (Nat.mul len es) fun used => match Nat.ble need (Nat.div c 2) with
          | true => (match ro with
            | true => bad
            | false => lenK cells fun z => match Nat.beq z (Nat.add off used) with
              | true => appK cells new fun cs => putM bad h i (some ⟨false, false, ty, cs⟩) fun h => k (.sl i off need c es) h n [i]
              | false => wrK bad (Nat.add off used) new cells fun cs => putM bad h i (some ⟨false, bx, ty, cs⟩) fun h => k (.sl i off need c es) h n [i])
          | false => (match small need te.size, small need te.bytes with
            | true, true => cutK bad off used cells fun old => appK old new fun cs => frcN (Nat.succ (Nat.mul 2 need)) fun c' => (match Nat.beq (Nat.mod c 2) 0 with
              | true => newK bad h n ⟨false, false, some e, cs⟩ fun h n' => k (.sl n 0 need c' es) h n' []
              | false => (match ro with
                | true => bad
                | false => putM bad h i none fun h => newK bad h n ⟨false, false, sameTy ty e, cs⟩ fun h n' => k (.sl n 0 need c' es) h n' [i]))
            | _, _ => bad))
    | _, _, _ => bad
noncomputable def copyK (h : Mem) (n : Nat) (te : TI) (d x : AV) (k : AV → Mem → Nat → List Nat → α) : α := match d with
  | .nils => srcK bad h te.size x fun _ _ => k (.int .i64 (.ofNat 0)) h n []
  | .sl i off len _ es => srcK bad h te.size x fun new m => (match Nat.beq te.size 0, allOne new with
    | false, true => memK bad h i fun b => (match b with
      | ⟨ro, bx, ty, cells⟩ => (match ro, Nat.beq es te.size with
        | false, true => frcN (Nat.min m len) fun q => takeK bad (Nat.mul q te.size) new fun new => wrK bad off new cells fun cs => putM bad h i (some ⟨false, bx, ty, cs⟩) fun h => k (.int .i64 (.ofNat q)) h n [i]
        | _, _ => bad))
    | _, _ => bad)
  | _ => bad

abbrev CallK (α : Type) := FuncId → List AV → Mem → Nat → (AV → Mem → Nat → List Nat → α) → α
noncomputable def heapK (Γ : Ctx) (callK : CallK α) (env : Env) (h : Mem) (n : Nat) (op : Op) (k : AV → Mem → Nat → List Nat → α) : α := match op with
  | .load T x => tyK bad Γ T fun t => oK bad env x fun p => loadK bad Γ h p t.size fun l => asVarK bad t.agg l fun v => k v h n []
  | .store T x y => tyK bad Γ T fun t => oK bad env x fun
    | .ptr i off => memK bad h i fun b => (match b with
      | ⟨ro, bx, ty, cells⟩ => (match ro with
        | true => bad
        | false => oK bad env y fun v => match Nat.beq (cellsOf v).length t.size, allOne (cellsOf v) with
          | true, true => wrK bad off (cellsOf v) cells fun cs => putM bad h i (some ⟨false, bx, ty, cs⟩) fun h => k (.tup []) h n [i]
          | _, _ => bad))
    | _ => bad
  | .alloc T => tyK bad Γ T fun t => newK bad h n ⟨false, true, some T, t.zero⟩ fun h n' => k (.ptr n 0) h n' []
  | .box T x => tyK bad Γ T fun t => oK bad env x fun v => newK bad h n ⟨false, true, some T, cellsOf v⟩ fun h n' => k (.ptr n 0) h n' []
  | .makeSlice T l c => elK bad Γ T fun e te => oK bad env l fun l => oK bad env c fun c => (match l, c with
    | .int _ (.ofNat l), .int _ (.ofNat c) => (match Nat.ble l c, Nat.ble 1 te.size, small c te.size, small c te.bytes with
      | true, true, true, true => repK c te.zero fun cs => newK bad h n ⟨false, false, some e, cs⟩ fun h n' => frcN (Nat.mul 2 c) fun c => k (.sl n 0 l c te.size) h n' []
      | _, _, _, _ => bad)
    | _, _ => bad)
  | .buildSlice T len parts => elK bad Γ T fun e te => (match Nat.ble 1 te.size, smallL len te.size with
    | true, true => repK len te.zero fun zs => litK bad env te.size parts.toList zs fun cs => newK bad h n ⟨false, false, some e, cs⟩ fun h n' => frcN (Nat.mul 2 len) fun c => k (.sl n 0 len c te.size) h n' []
    | _, _ => bad)
  | .slice T x lo hi mx => oK bad env x fun
    | .ptr i off => tyK bad Γ T fun t => (match t.kind with
      | .arr q e => tyK bad Γ e fun te => memK bad h i fun b => (match b with
        | ⟨_, bx, ty, cells⟩ => lenK cells fun z => (match Nat.ble (Nat.add off (Nat.mul q te.size)) z, Nat.ble 1 te.size with
          | true, true => bndsK bad env q q lo hi mx fun lw hh m => (match Nat.beq lw m with
            | true => frcN (Nat.sub hh lw) fun n' => k (.sl i off n' 0 te.size) h n []
            | false => frcN (Nat.add off (Nat.mul lw te.size)) fun o => frcN (Nat.sub hh lw) fun n' => frcN (Nat.mul 2 (Nat.sub m lw)) fun c' => k (.sl i o n' c' te.size) h n [])
          | _, _ => bad))
      | _ => bad)
    | _ => pureK bad Γ env (.slice T x lo hi mx) fun v => k v h n []
  | .convert S T x => oK bad env x fun v => tyK bad Γ S fun s => tyK bad Γ T fun t => (match s.kind, t.kind with
    | .slice e, .str => tyK bad Γ e fun te => (match te.kind, v with
      | .int .u8, .nils => k (.str []) h n []
      | .int .u8, .sl i off m c es => srcK bad h 1 (.sl i off m c es) fun l _ => cellBytes bad l fun l => k (.str l) h n []
      | _, _ => bad)
    | .str, .slice e => tyK bad Γ e fun te => (match te.kind, v with
      | .int .u8, .str l => lenK l fun m => (match small m 1 with
        | true => byteCells l fun cs => newK bad h n ⟨false, false, some e, cs⟩ fun h n' => frcN (Nat.succ (Nat.mul 2 m)) fun c => k (.sl n 0 m c 1) h n' []
        | false => bad)
      | _, _ => bad)
    | _, _ => pureK bad Γ env (.convert S T x) fun v => k v h n [])
  | .call ⟨.value f, as, _⟩ => oK bad env f fun
    | .fn (.func g) first cap => osK bad env as.toList fun as => appK first as fun l => appK l cap fun l => callK g l h n k
    | _ => bad
  | .call ⟨.builtin .append, ⟨[s, x]⟩, ⟨[T, U]⟩⟩ => elK bad Γ T fun e te => tyK bad Γ U fun u => (match u.kind with
    | .slice _ => oK bad env s fun s => oK bad env x fun x => appendK bad h n e te s x k
    | .str => oK bad env s fun s => oK bad env x fun x => appendK bad h n e te s x k
    | _ => bad)
  | .call ⟨.builtin .copy, ⟨[s, x]⟩, ⟨[T, _]⟩⟩ => elK bad Γ T fun e te => oK bad env s fun s => oK bad env x fun x => copyK bad h n te s x k
  | .call ⟨.builtin .unsafeString, ⟨[p, m]⟩, ⟨[U, V]⟩⟩ => oK bad env p fun p => oK bad env m fun m => (match p, m with
    | .nilp, .int .i64 (.ofNat 0) => k (.str []) h n []
    | .ptr _ _, .int .i64 (.ofNat 0) => k (.str []) h n []
    | .ptr i off, .int .i64 (.ofNat (m + 1)) => tyK bad Γ U fun u => (match u.kind with
      | .ptr e => tyK bad Γ e fun te => memK bad h i fun b => (match b with
        | ⟨_, bx, ty, cells⟩ => (match sameTy ty e, Nat.beq te.size 1, small m 1 with
          | some _, true, true => cutK bad off (Nat.succ m) cells fun l => cellBytes bad l fun l => putM bad h i (some ⟨true, bx, ty, cells⟩) fun h => k (.str l) h n [i]
          | _, _, _ => bad))
      | _ => bad)
    | _, _ => bad)
  | op => pureK bad Γ env op fun v => k v h n []

/-! ### Functions without a text -/
noncomputable def findG (c : Nat) (k : Option Nat → α) (l : List Nat) : Nat → α :=
  List.rec (motive := fun _ => Nat → α) (fun _ => k none) (fun x _ ih i => Bool.rec (motive := fun _ => α) (ih (Nat.succ i)) (k (some i)) (Nat.beq x c)) l
noncomputable def findK (l : List Nat) (c : Nat) (k : Option Nat → α) : α := findG c k l 0
noncomputable def extK (e : Ext) (as : List AV) (h : Mem) (n : Nat) (k : AV → Mem → Nat → List Nat → α) : α := match e, as with
  | .add64, [.int .u64 (.ofNat x), .int .u64 (.ofNat y), .int .u64 (.ofNat c)] => (match Nat.ble c 1 with
    | true => frcN (Nat.add (Nat.add x y) c) fun s => frcN (Nat.mod s 18446744073709551616) fun lo => frcN (Nat.div s 18446744073709551616) fun hi => k (.tup [.int .u64 (.ofNat lo), .int .u64 (.ofNat hi)]) h n []
    | false => bad)
  | .sub64, [.int .u64 (.ofNat x), .int .u64 (.ofNat y), .int .u64 (.ofNat c)] => (match Nat.ble c 1, Nat.blt x 18446744073709551616, Nat.blt y 18446744073709551616 with
    | true, true, true => (match Nat.ble (Nat.add y c) x with
      | true => frcN (Nat.sub x (Nat.add y c)) fun d => k (.tup [.int .u64 (.ofNat d), .int .u64 (.ofNat 0)]) h n []
      | false => frcN (Nat.sub (Nat.add x 18446744073709551616) (Nat.add y c)) fun d => k (.tup [.int .u64 (.ofNat d), .int .u64 (.ofNat 1)]) h n [])
    | _, _, _ => bad)
  | .same, [v] => k v h n []
  | .idxByte, [.str l, .int .u8 (.ofNat c)] => match Nat.blt c 256 with
    | false => bad
    | true => findK l c fun
    | some i => k (.int .i64 (.ofNat i)) h n []
    | none => k (.int .i64 (.negSucc 0)) h n []
  | .copyCheck U, [.ptr i 0] => memK bad h i fun b => (match b with
    | ⟨ro, bx, ty, cells⟩ => (match ro, bx, ty, cells with
      | false, true, some T, [a, c] => (match Nat.beq T U, a with
        | true, .nilp => putM bad h i (some ⟨false, true, some T, [.ptr i 0, c]⟩) fun h => k (.tup []) h n [i]
        | true, .ptr j 0 => (match Nat.beq j i with
          | true => k (.tup []) h n []
          | false => bad)
        | _, _ => bad)
      | _, _, _, _ => bad))
  | .mkNoZero e, [.int .i64 (.ofNat m)] => (match Nat.blt m 1000000 with
    | true => newK bad h n ⟨false, false, some e, []⟩ fun h n' => frcN (Nat.succ (Nat.mul 2 m)) fun c => k (.sl n 0 m c 1) h n' []
    | false => bad)
  | .user F, as => (match F as h n with
    | some (v, h, n, tl) => k v h n tl
    | none => bad)
  | _, _ => bad

/-! ### Regions -/
/-- is the operation wanted? -/
noncomputable def wantK (ops : List Oper) (env : Env) (o : Oper) (k : Bool → α) : α := match o.guard with
  | none => k true
  | some (j, want) => match ops[j]? with
    | some oj => (match oj.dst with
      | some t => (match env.get t with
        | some (.bool b) => (match b, want with
          | true, true => k true
          | false, false => k true
          | _, _ => k false)
        | some _ => k false
        | none => bad)
      | none => bad)
    | none => bad
noncomputable def setK (nt : Nat) (env : Env) (d : Option Tmp) (v : AV) (k : Env → α) : α := match d with
  | none => k env
  | some t => (match Nat.blt t nt with
    | true => Tr.putK bad (some v) 40 env t k
    | false => bad)
/-- what has been written of the memory below fb -/
noncomputable def logK (fb : Nat) (tl lg : List Nat) (k : List Nat → α) : α :=
  List.rec (motive := fun _ => List Nat → α) (fun lg => k lg) (fun t _ ih lg => match Nat.blt t fb with
    | true => ih (t :: lg)
    | false => ih lg) tl lg
/-- the operations in the text's order -/
noncomputable def seqK (Γ : Ctx) (callK : CallK α) (fb nt : Nat) (all l : List Oper) : Env → Mem → Nat → List Nat → (Env → Mem → Nat → List Nat → α) → α :=
  List.rec (motive := fun _ => Env → Mem → Nat → List Nat → (Env → Mem → Nat → List Nat → α) → α) (fun env h n lg k => k env h n lg)
    (fun o _ ih env h n lg k => wantK bad all env o fun
      | true => heapK bad Γ callK env h n o.op fun v h n tl => setK bad nt env o.dst v fun env => logK fb tl lg fun lg => ih env h n lg k
      | false => setK bad nt env o.dst (.tup []) fun env => ih env h n lg k) l

/-! ### Regions whose order is drawn -/
/-- what an operation of the region did: nothing with memory; read the block; all sorts: from lo to hi is new, of the old it has written those of the list -/
inductive Did where
  | none
  | rd (i : Nat)
  | gen (lo hi : Nat) (tl : List Nat)
noncomputable def memB (x : Nat) (l : List Nat) : Bool := List.rec (motive := fun _ => Bool) false (fun y _ ih => Bool.rec (motive := fun _ => Bool) ih true (Nat.beq x y)) l
def bindsB (g : Ground) : Bool := match g with
  | .textOnly _ => false
  | .gcOnly _ => false
  | _ => true
/-- the operations that o waits for, through others -/
noncomputable def waitsL (tab : List (List Nat)) (es : List Edge) : List Nat :=
  es.foldr (fun e acc => match bindsB e.ground with
    | true => e.on :: ((tab[e.on]?).getD [] ++ acc)
    | false => acc) []
noncomputable def waitsT : List Oper → List (List Nat) → List (List Nat)
  | [], tab => tab
  | o :: r, tab => waitsT r (tab ++ [(waitsL tab o.after.toList)])
def looks (all : List Oper) (o : Oper) : List Nat :=
  (o.op.operands.toList.filterMap fun | .tmp t => some t | _ => none) ++ (match o.guard with
    | none => []
    | some (j, _) => match all[j]? with
      | some oj => oj.dst.toList
      | none => [])
/-- may two operations, of which none waits for the other, be looked at apart? -/
noncomputable def apartB (all : List Oper) (x y : Oper) : Bool :=
  (match x.dst with
    | some t => !memB t (looks all y) && (match y.dst with | some u => !Nat.beq t u | none => true)
    | none => true) &&
  (match y.dst with
    | some u => !memB u (looks all x)
    | none => true)
/-- for the operation j: the earlier ones that it does not wait for, each by how far it lies back (0: the one just before); none: not all is well -/
noncomputable def freeL (all : List Oper) (o : Oper) (ws : List Nat) (j : Nat) : List Oper → Nat → Option (List Nat)
  | [], _ => some []
  | x :: r, q => match memB (j - (q + 1)) ws with
    | true => freeL all o ws j r (q + 1)
    | false => match apartB all x o with
      | true => (match freeL all o ws j r (q + 1) with
        | some l => some (q :: l)
        | none => none)
      | false => none
noncomputable def edgeB (j : Nat) (o : Oper) : Bool := o.after.toList.all fun e => !bindsB e.ground || Nat.blt e.on j
/-- the region's table: each operation with the earlier ones that it does not wait for -/
noncomputable def regT (all : List Oper) (tab : List (List Nat)) : List Oper → List Oper → Nat → Option (List (Oper × List Nat))
  | [], _, _ => some []
  | o :: r, prev, j => match edgeB j o with
    | false => none
    | true => match freeL all o ((tab[j]?).getD []) j prev 0 with
      | none => none
      | some l => match regT all tab r (o :: prev) (j + 1) with
        | none => none
        | some t => some ((o, l) :: t)
noncomputable def reg (all : List Oper) : Option (List (Oper × List Nat)) := regT all (waitsT all []) all [] 0
/-- an operation that has nothing to do with memory, or reads one block -/
inductive OpC where
  | pure | load | gen
def classOf : Op → OpC
  | .load .. => .load
  | .move _ | .assign _ | .pick .. | .fieldAddr .. | .field .. | .extract .. | .binOp .. | .unOp .. | .build .. | .indexAddr .. | .index .. | .nilCheck _ | .makeFunc .. => .pure
  | .call ⟨.builtin .len, _, _⟩ | .call ⟨.builtin .cap, _, _⟩ | .call ⟨.builtin .min, _, _⟩ | .call ⟨.builtin .max, _, _⟩ | .call ⟨.builtin .unsafeSliceData, _, _⟩ => .pure
  | _ => .gen
/-- block i has not been touched by those of the list -/
noncomputable def quietB (ds : List Did) (i : Nat) (fr : List Nat) : Bool :=
  List.rec (motive := fun _ => Bool) true (fun (q : Nat) _ ih => match ds[q]? with
    | some (.gen lo hi tl) => (match (Nat.ble lo i && Nat.blt i hi) || memB i tl with
      | true => false
      | false => ih)
    | some _ => ih
    | none => false) fr
/-- of the memory what those of the list have touched is taken away (and kept) -/
noncomputable def dropOneK (h : Mem) (i : Nat) (rm : List (Nat × Blk)) (k : Mem → List (Nat × Blk) → α) : α := match h.get i with
  | some b => putM bad h i none fun h => k h ((i, b) :: rm)
  | none => k h rm
noncomputable def dropRangeK (lo c : Nat) : Mem → List (Nat × Blk) → (Mem → List (Nat × Blk) → α) → α :=
  Nat.rec (motive := fun _ => Mem → List (Nat × Blk) → (Mem → List (Nat × Blk) → α) → α) (fun h rm k => k h rm)
    (fun c ih h rm k => dropOneK bad h (Nat.add lo c) rm fun h rm => ih h rm k) c
noncomputable def dropListK (tl : List Nat) : Mem → List (Nat × Blk) → (Mem → List (Nat × Blk) → α) → α :=
  List.rec (motive := fun _ => Mem → List (Nat × Blk) → (Mem → List (Nat × Blk) → α) → α) (fun h rm k => k h rm)
    (fun t _ ih h rm k => dropOneK bad h t rm fun h rm => ih h rm k) tl
noncomputable def dropAllK (ds : List Did) (fr : List Nat) : Mem → List (Nat × Blk) → (Mem → List (Nat × Blk) → α) → α :=
  List.rec (motive := fun _ => Mem → List (Nat × Blk) → (Mem → List (Nat × Blk) → α) → α) (fun h rm k => k h rm)
    (fun (q : Nat) _ ih h rm k => match ds[q]? with
      | some (.gen lo hi tl) => dropRangeK bad lo (Nat.sub hi lo) h rm fun h rm => dropListK bad tl h rm fun h rm => ih h rm k
      | some _ => ih h rm k
      | none => bad) fr
noncomputable def backK (rm : List (Nat × Blk)) : Mem → (Mem → α) → α :=
  List.rec (motive := fun _ => Mem → (Mem → α) → α) (fun h k => k h) (fun p _ ih h k => putM bad h p.1 (some p.2) fun h => ih h k) rm
/-- what has been written now was not looked at by those of the list -/
noncomputable def unseenB (ds : List Did) (tl fr : List Nat) : Bool := match tl with
  | [] => true
  | _ => List.rec (motive := fun _ => Bool) true (fun (q : Nat) _ ih => match ds[q]? with
    | some .none => ih
    | some (.rd i) => (match memB i tl with
      | true => false
      | false => ih)
    | _ => false) fr
noncomputable def drawK (Γ : Ctx) (callK : CallK α) (fb nt : Nat) (all : List Oper) (l : List (Oper × List Nat)) : List Did → Env → Mem → Nat → List Nat → (Env → Mem → Nat → List Nat → α) → α :=
  List.rec (motive := fun _ => List Did → Env → Mem → Nat → List Nat → (Env → Mem → Nat → List Nat → α) → α) (fun _ env h n lg k => k env h n lg)
    (fun p _ ih ds env h n lg k => match p with
      | (o, fr) => wantK bad all env o fun
        | false => setK bad nt env o.dst (.tup []) fun env => ih (.none :: ds) env h n lg k
        | true => match classOf o.op with
          | .pure => pureK bad Γ env o.op fun v => setK bad nt env o.dst v fun env => ih (.none :: ds) env h n lg k
          | .load => (match o.op with
            | .load T x => tyK bad Γ T fun t => oK bad env x fun p => loadK bad Γ h p t.size fun l => asVarK bad t.agg l fun v => setK bad nt env o.dst v fun env => (match p with
              | .ptr i _ => (match quietB ds i fr with
                | true => ih (.rd i :: ds) env h n lg k
                | false => bad)
              | .glo _ _ => ih (.none :: ds) env h n lg k
              | _ => bad)
            | _ => bad)
          | .gen => dropAllK bad ds fr h [] fun h rm => heapK bad Γ callK env h n o.op fun v h n' tl => (match unseenB ds tl fr with
            | true => backK bad rm h fun h => setK bad nt env o.dst v fun env => logK fb tl lg fun lg => ih (.gen n n' tl :: ds) env h n' lg k
            | false => bad)) l

/-! ### Code -/
inductive Ex where
  | nrm | ext (id : Nat) | ret
abbrev RunK (α : Type) := Code → Nat → Nat → Env → Mem → Nat → List Nat → (Ex → Env → Mem → Nat → List Nat → α) → α
noncomputable def argEnvK (as : List AV) : Nat → Env → (Env → α) → α :=
  List.rec (motive := fun _ => Nat → Env → (Env → α) → α) (fun _ env k => k env) (fun v _ ih i env k => Tr.putK bad (some v) 40 env i fun env => ih (Nat.succ i) env k) as
noncomputable def resK (Γ : Ctx) (env : Env) (h : Mem) : List ResultVar → (List AV → α) → α
  | [], k => k []
  | .tmp t :: r, k => (match env.get t with
    | some v => resK Γ env h r fun l => k (v :: l)
    | none => bad)
  | .cell t T :: r, k => (match env.get t with
    | some p => tyK bad Γ T fun ti => loadK bad Γ h p ti.size fun l => asVarK bad ti.agg l fun v => resK Γ env h r fun l => k (v :: l)
    | none => bad)
def oneOf : List AV → AV
  | [v] => v
  | l => .tup l
/-- a value without addresses in memory -/
def plainV1 : AV → Bool
  | .bool _ | .int .. | .str _ | .nilp | .nils | .nilf | .nili | .glo .. => true
  | _ => false
noncomputable def plainL1 (l : List AV) : Bool := List.rec (motive := fun _ => Bool) true (fun x _ ih => Bool.rec (motive := fun _ => Bool) false ih (plainV1 x)) l
noncomputable def plainV2 : AV → Bool
  | .agg l => plainL1 l
  | v => plainV1 v
noncomputable def plainL2 (l : List AV) : Bool := List.rec (motive := fun _ => Bool) true (fun x _ ih => Bool.rec (motive := fun _ => Bool) false ih (plainV2 x)) l
noncomputable def plainV : AV → Bool
  | .tup l => plainL2 l
  | v => plainV2 v
/-- at a call's end: where no address comes back and nothing old was written, all that the call made is forgotten -/
noncomputable def endK (k : AV → Mem → Nat → List Nat → α) (h : Mem) (n : Nat) (h' : Mem) (n' : Nat) (lg : List Nat) (v : AV) : α := match plainV v, lg with
  | true, [] => k v h n []
  | _, lg => k v h' n' lg
noncomputable def callF (Γ : Ctx) (run : RunK α) : CallK α := fun f as h n k => match Γ.fn f with
  | some (.ext x) => extK bad x as h n k
  | some (.body ⟨nt, rs, code⟩) => lenK as fun na => match Nat.ble na nt with
    | false => bad
    | true => argEnvK bad as 0 .e fun env => run code n nt env h n [] fun e env' h' n' lg => match e with
    | .ext _ => bad
    | _ => resK bad Γ env' h' rs fun l => endK k h n h' n' lg (oneOf l)
  | none => bad
noncomputable def bodyK (Γ : Ctx) (run : RunK α) : RunK α := fun c fb nt env h n lg k => match c with
  | .skip => k .nrm env h n lg
  | .label _ => k .nrm env h n lg
  | .region _ ops false => seqK bad Γ (callF bad Γ run) fb nt ops.toList ops.toList env h n lg fun env h n lg => k .nrm env h n lg
  | .region _ ops true => (match reg ops.toList with
    | some t => drawK bad Γ (callF bad Γ run) fb nt ops.toList t [] env h n lg fun env h n lg => k .nrm env h n lg
    | none => bad)
  | .seq a b => run a fb nt env h n lg fun e env h n lg => (match e with
    | .nrm => run b fb nt env h n lg k
    | e => k e env h n lg)
  | .cond c a b => oK bad env c fun
    | .bool t => (match t with
      | true => run a fb nt env h n lg k
      | false => run b fb nt env h n lg k)
    | _ => bad
  | .block id b => run b fb nt env h n lg fun e env h n lg => (match e with
    | .ext j => (match Nat.beq j id with
      | true => k .nrm env h n lg
      | false => k (.ext j) env h n lg)
    | e => k e env h n lg)
  | .loop b => run b fb nt env h n lg fun e env h n lg => (match e with
    | .nrm => run (.loop b) fb nt env h n lg k
    | e => k e env h n lg)
  | .scope b => run b fb nt env h n lg k
  | .exit id => k (.ext id) env h n lg
  | .ret => k .ret env h n lg
  | _ => bad
noncomputable def run (Γ : Ctx) (fuel : Nat) : RunK α := Nat.rec (motive := fun _ => RunK α) (fun _ _ _ _ _ _ _ _ => bad) (fun _ ih => bodyK bad Γ ih) fuel
/-- a function, called with values, in a memory of its own -/
noncomputable def exec (Γ : Ctx) (fuel : Nat) (f : FuncId) (as : List AV) (k : AV → α) : α := callF bad Γ (run bad Γ fuel) f as .e 0 fun v _ _ _ => k v
end
end Go.Proofs.YtcimgilfogeebaaGreatDoor.VM
