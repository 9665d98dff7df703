/-
  Part 1 of an abstract machine that answers as the model does.
  An abstract machine over the model's code: values, heap, operations, and their evaluation with stopping points. No theorem on the model here.
  The abstract machine's code: regions, calls, loops, ranges over functions. Its calls are an oracle; the oracle that is meant is the least one.
-/
import Derived.RangeFuncIn
set_option linter.all false
set_option linter.unusedVariables false
set_option linter.unusedSimpArgs false
set_option linter.unusedSectionVars false
namespace Go.VM
open Go

/-- What is known of a value slice's room. nil: it is the nil slice. exact: its capacity is its length. nnx, nn: the same as exact and unk, and it is not nil. -/
inductive Ext where
  | nil | exact | unk | nnx | nn

/-- Values without any reference into the machine's heap. A slice is the list of its cells. -/
inductive PV where
  | bool (b : Bool)
  | int (k : IntKind) (n : Int)
  | str (s : ByteArray)
  | nilp | nilm | nilf | nili
  | sl (x : Ext) (len : Nat) (cells : List PV)
  | agg (cells : List PV)
  | tup (vs : List PV)
  | fn (f : FuncId) (first captured : List PV)
  | iface (t : TypeId) (v : PV)

inductive AV where
  | pv (p : PV)
  | ptr (id off : Nat)
  | rptr (cells : List PV) (off : Nat)
  | tsl (t len : Nat) (cells : List PV)
  | zsl (t len : Nat)
  | hs (es id off len cap : Nat)
  | map (id : Nat)
  | yield (id : Nat)
  | fn (f : FuncId) (first captured : List AV)
  | iface (t : TypeId) (v : AV)
  | agg (cells : List AV)
  | tup (vs : List AV)
  | gs (id n : Nat)
  | gptr (id n off : Nat)
  | any

inductive Opd where
  | t (n : Nat)
  | c (p : PV)
  | f (id : FuncId)

/-- How a call is made: in the caller's heap; on an empty one, what it answers being made plain; the same, and the one slice that it answers may be appended to; the same, and that slice may be written; the same, slices that may be written being lent to it, and the one new slice that it answers being made plain or one that may be written. -/
inductive Mode where
  | shared | pure | own | thaw
  | lend (thaw : Bool)

inductive SK where
  | b | i | s
/-- A map's keys: one cell, or several. -/
inductive KT where
  | one (k : SK)
  | agg (sh : List SK)
/-- What two operands are. -/
inductive BK where
  | num | bool | agg (sh : List SK) | ptr | sl | map | fn

inductive VOp where
  | mov (x : Opd)
  | pick (c a b : Opd)
  | alloc (zero : List PV)
  | box (x : Opd)
  | build (zero : List PV) (parts : List (Nat × Nat × Opd))
  | buildSlice (mu : Bool) (es len : Nat) (zero : List PV) (parts : List (Nat × Nat × Opd))
  | load1 (p : Opd)
  | loadN (n : Nat) (p : Opd)
  | store1 (p v : Opd)
  | storeN (n : Nat) (p v : Opd)
  | nilCheck (x : Opd)
  | bin (k : BK) (op : BinOp) (x y : Opd)
  | un (op : UnOp) (x : Opd)
  | conv (k : IntKind) (x : Opd)
  | ident (x : Opd)
  | strOf (x : Opd)
  | strOfP (x : Opd)
  | bytesOf (x : Opd)
  | freeze (x : Opd)
  | settle (x : Opd)
  | fieldAddr (off : Nat) (x : Opd)
  | field1 (off : Nat) (x : Opd)
  | fieldN (off n : Nat) (x : Opd)
  | idxAddrA (len es : Nat) (x i : Opd)
  | idxAddrS (es : Nat) (x i : Opd)
  | idxA1 (len : Nat) (x i : Opd)
  | idxAN (len es : Nat) (x i : Opd)
  | idxStr (x i : Opd)
  | sliceStr (x : Opd) (lo hi : Option Opd)
  | sliceS (es : Nat) (x : Opd) (lo hi mx : Option Opd)
  | sliceA (len es : Nat) (x : Opd) (lo hi : Option Opd)
  | toArr (n : Nat) (x : Opd)
  | mkFn (f : FuncId) (first captured : List Opd)
  | mkSlice (mu : Bool) (es : Nat) (zero : List PV) (l c : Opd)
  | extract (i : Nat) (x : Opd)
  | lenS (x : Opd)
  | lenStr (x : Opd)
  | append (mu str : Bool) (es bytes : Nat) (s x : Opd)
  | copy (str : Bool) (es : Nat) (d s : Opd)
  | appendZ (mu : Bool) (es bytes : Nat) (zero : List PV) (s x : Opd)
  | capS (x : Opd)
  | buildG (es len : Nat) (zero : List PV) (parts : List (Nat × Nat × Opd))
  | mkMap
  | lookM (ok : Bool) (kk : KT) (z : PV) (x k : Opd)
  | updM (kk : KT) (x k v : Opd)
  | delM (kk : KT) (x k : Opd)
  | lenM (x : Opd)
  | rangeM (x : Opd)
  | entryM (x : Opd)
  | nextM (x : Opd)
  | appB (es bytes : Nat) (s x : Opd)
  | minmax (mx : Bool) (xs : List Opd)
  | call (m : Mode) (f : FuncId) (args : List Opd)
  | callV (f : Opd) (args : List Opd)
  | idle
  | idleX (x : Opd)
  | boxH (x : Opd)
  | mkSliceH (es : Nat) (zero : List PV) (x : Opd)
  | bad

structure VOper where
  dst : Option Nat
  guard : Option (Nat × Bool)
  op : VOp

/-- What a block that is made ahead holds: zeros, or what an operation's operand will be (its place, what computes it), or so many zeros as that operand will say. -/
inductive AlS where
  | z (l : List PV)
  | x (i : Nat) (pre : List VOper) (v : Opd)
  | m (i : Nat) (pre : List VOper) (es : Nat) (zero : List PV) (v : Opd)

inductive VCode where
  | skip
  | ops (l : List VOper)
  | draw (al : List (Nat × AlS)) (l : List VOper) (pairs : List (Nat × Nat))
  | seq (a b : VCode)
  | cond (c : Opd) (a b : VCode)
  | block (id : Nat) (c : VCode)
  | loop (c : VCode)
  | rangeFunc (f : Opd) (params : List Nat) (assign body : VCode)
  | exit (id : Nat)
  | ret
  | drawN (l : List VOper) (deps : List (List Nat))
  | loopM (it nx : Nat) (c : VCode)

inductive VResult where
  | tmp (t : Nat)
  | cell1 (t : Nat)
  | cellN (n t : Nat)

structure VFunc where
  ntmps : Nat
  results : List VResult
  code : VCode

inductive Ex where
  | normal | exit (id : Nat) | ret

abbrev Regs := Nat → AV

inductive LState where
  | ready | busy | done (e : Ex)

structure VLoop where
  state : LState
  regs : Regs
  params : List Nat
  assign : VCode
  body : VCode

inductive HObj where
  | dead
  | cells (cs : List AV)
  | pcells (cs : List PV)
  | tok (n es : Nat)
  | loop (l : VLoop)
  | map (clk : Nat) (es : List (Nat × PV × PV))
  | row (n es : Nat) (cs : List AV)
  | iter (m : Option Nat) (since : Nat) (seen : List Nat) (last : Nat)
  | bag (es : Nat) (l : List (List PV))

abbrev Heap := List HObj

def undefV : AV := .pv (.tup [])

def upd (r : Regs) (t : Nat) (v : AV) : Regs := fun i => bif Nat.beq i t then v else r i

def hget : Heap → Nat → HObj
  | [], _ => .dead
  | o :: _, 0 => o
  | _ :: l, n + 1 => hget l n

def hset : Heap → Nat → HObj → Heap
  | [], _, _ => []
  | _ :: l, 0, o => o :: l
  | a :: l, n + 1, o => a :: hset l n o

def lget {α : Type} : List α → Nat → Option α
  | [], _ => none
  | a :: _, 0 => some a
  | _ :: l, n + 1 => lget l n

def initRegs : List AV → Regs
  | l => fun i => (lget l i).getD undefV

/-! ### stopping points -/
/-- The identity, which no reduction sees through. -/
noncomputable def hold {α : Type} (x : α) : α :=
  (Classical.choice (⟨⟨fun _ x => x, fun _ _ => rfl⟩⟩ : Nonempty { f : (α : Type) → α → α // ∀ α x, f α x = x })).1 α x
theorem hold_eq {α : Type} (x : α) : hold x = x :=
  (Classical.choice (⟨⟨fun _ x => x, fun _ _ => rfl⟩⟩ : Nonempty { f : (α : Type) → α → α // ∀ α x, f α x = x })).2 α x

section stops
variable {R α : Type}
@[irreducible] noncomputable def needK (p : Bool) (x : Option R) : Option R := Bool.rec (motive := fun _ => Option R) none x (hold p)
@[irreducible] noncomputable def boolK (b : Bool) (F : Bool → Option R) : Option R := hold F b
@[irreducible] noncomputable def eqK (x : α) (F : α → Option R) : Option R := hold F x
@[irreducible] noncomputable def getK (l : List α) (i : Nat) (F : α → Option R) : Option R := (hold (l[i]?)).bind F
/-- n cells of a list from place i on -/
@[irreducible] noncomputable def secK (l : List α) (i n : Nat) (F : List α → Option R) : Option R := Bool.rec (motive := fun _ => Option R) none (F ((l.drop i).take n)) (hold (Nat.ble (i + n) l.length))
@[irreducible] noncomputable def bindK (x : Option α) (F : α → Option R) : Option R := (hold x).bind F

/- a stop, seen by whoever proves things on the machine itself -/
theorem needK_def (p : Bool) (x : Option R) : needK p x = bif p then x else none := by unfold needK; rw [hold_eq]; cases p <;> rfl
theorem boolK_def (b : Bool) (F : Bool → Option R) : boolK b F = F b := by unfold boolK; rw [hold_eq]
theorem eqK_def (x : α) (F : α → Option R) : eqK x F = F x := by unfold eqK; rw [hold_eq]
theorem getK_def (l : List α) (i : Nat) (F : α → Option R) : getK l i F = (l[i]?).bind F := by unfold getK; rw [hold_eq]
theorem secK_def (l : List α) (i n : Nat) (F : List α → Option R) : secK l i n F = bif Nat.ble (i + n) l.length then F ((l.drop i).take n) else none := by unfold secK; rw [hold_eq]; cases Nat.ble (i + n) l.length <;> rfl
theorem bindK_def (x : Option α) (F : α → Option R) : bindK x F = x.bind F := by unfold bindK; rw [hold_eq]

@[irreducible] noncomputable def hgetK (h : Heap) (id : Nat) (F : HObj → Option R) : Option R := hold F (hget h id)
theorem hgetK_def (h : Heap) (id : Nat) (F : HObj → Option R) : hgetK h id F = F (hget h id) := by unfold hgetK; rw [hold_eq]

end stops


/-! ### plain parts of operations -/
def Opd.ev (r : Regs) : Opd → AV
  | .t n => r n
  | .c p => .pv p
  | .f id => .pv (.fn id [] [])

def kindEq : IntKind → IntKind → Bool
  | .i8, .i8 | .i16, .i16 | .i32, .i32 | .i64, .i64 | .u8, .u8 | .u16, .u16 | .u32, .u32 | .u64, .u64 => true
  | _, _ => false

/-- A value of one cell. -/
def AV.one : AV → Bool
  | .agg _ | .tup _ | .pv (.agg _) | .pv (.tup _) | .any => false
  | _ => true

def PV.one : PV → Bool
  | .agg _ | .tup _ => false
  | _ => true

/-- A value that names nothing else. -/
def PV.flat : PV → Bool
  | .bool _ | .int _ _ | .str _ | .nilp | .nilm | .nilf | .nili => true
  | _ => false

/-- Plain, if all are. -/
def allPV : List AV → Option (List PV)
  | [] => some []
  | .pv p :: l => (allPV l).map (p :: ·)
  | _ :: _ => none

def mkAgg (l : List AV) : AV := match allPV l with | some ps => .pv (.agg ps) | none => .agg l
def mkTup (l : List AV) : AV := match allPV l with | some ps => .pv (.tup ps) | none => .tup l

/-- The cells of a value. -/
def AV.cellsOf : AV → List AV
  | .pv (.agg ps) => ps.map .pv
  | .agg l => l
  | v => [v]

def mkCells (l : List AV) : HObj := match allPV l with | some ps => .pcells ps | none => .cells l

/-- The cells of a plain value. -/
def cellsP : PV → Option (List PV)
  | .agg ps => some ps
  | .tup _ => none
  | p => some [p]
def boxOf : AV → Option HObj
  | .pv (.agg ps) => some (.pcells ps)
  | .pv (.tup _) => none
  | .pv p => some (.pcells [p])
  | .agg l => some (.cells l)
  | .tup _ | .any => none
  | v => some (.cells [v])

/-- As a plain value, its token let go (a slice that may be written is none). One level: the cells of a struct or an array; the parts of a tuple two. -/
def down1 : AV → Option PV
  | .pv p => some p
  | .tsl _ n cs => some (.sl .nn n cs)
  | _ => none
def downL : List AV → Option (List PV)
  | [] => some []
  | a :: l => match down1 a, downL l with | some p, some ps => some (p :: ps) | _, _ => none
def down2 : AV → Option PV
  | .pv p => some p
  | .tsl _ n cs => some (.sl .nn n cs)
  | .agg l => (downL l).map .agg
  | _ => none
def downs : List AV → Option (List PV)
  | [] => some []
  | a :: l => match down2 a, downs l with | some p, some ps => some (p :: ps) | _, _ => none

/-- What a call that was made by itself answers, out of its own heap. -/
def out1 (h : Heap) : AV → Option PV
  | .pv p => some p
  | .tsl _ n cs => some (.sl .nn n cs)
  | .hs es id off len _ => match hget h id with
    | .pcells cs => bif Nat.ble (off + len * es) cs.length then some (.sl .nn len ((cs.drop off).take (len * es))) else none
    | _ => none
  | _ => none
def outL (h : Heap) : List AV → Option (List PV)
  | [] => some []
  | a :: l => match out1 h a, outL h l with | some p, some ps => some (p :: ps) | _, _ => none
def out2 (h : Heap) : AV → Option PV
  | .agg l => (outL h l).map .agg
  | .fn f a b => match outL h a, outL h b with | some a, some b => some (.fn f a b) | _, _ => none
  | v => out1 h v
def outs (h : Heap) : List AV → Option (List PV)
  | [] => some []
  | a :: l => match out2 h a, outs h l with | some p, some ps => some (p :: ps) | _, _ => none
def out (h : Heap) : AV → Option PV
  | .tup l => (outs h l).map .tup
  | v => out2 h v

def fill : List PV → List (Nat × Nat × PV) → Option (List PV)
  | z, [] => some z
  | z, (off, n, p) :: l => match p with
    | .agg ps => bif Nat.beq ps.length n then fill (z.take off ++ ps ++ z.drop (off + n)) l else none
    | .tup _ => none
    | p => bif Nat.beq n 1 then fill (z.set off p) l else none
def AV.isTup : AV → Bool
  | .tup _ | .pv (.tup _) | .any => true
  | _ => false
def fillA : List AV → List (Nat × Nat × AV) → Option (List AV)
  | z, [] => some z
  | z, (off, n, p) :: l => bif !p.isTup && Nat.beq p.cellsOf.length n then fillA (z.take off ++ p.cellsOf ++ z.drop (off + n)) l else none
def partsPV : List (Nat × Nat × AV) → Option (List (Nat × Nat × PV))
  | [] => some []
  | (o, n, .pv p) :: l => (partsPV l).map ((o, n, p) :: ·)
  | _ :: _ => none

/-- Parts as plain values, their tokens let go. -/
def partsDown : List (Nat × Nat × AV) → Option (List (Nat × Nat × PV))
  | [] => some []
  | (o, n, a) :: l => match down2 a, partsDown l with | some p, some ps => some ((o, n, p) :: ps) | _, _ => none

section ops
variable {R : Type}

/-- Whole numbers. -/
noncomputable def intBinK (op : BinOp) (k : IntKind) (a b : Int) (F : PV → Option R) : Option R :=
  match op with
  | .add => eqK (k.wrap (a + b)) fun n => F (.int k n)
  | .sub => eqK (k.wrap (a - b)) fun n => F (.int k n)
  | .mul => eqK (k.wrap (a * b)) fun n => F (.int k n)
  | .quo => needK (!decide (b = 0)) (eqK (k.wrap (a.tdiv b)) fun n => F (.int k n))
  | .rem => needK (!decide (b = 0)) (eqK (a.tmod b) fun n => F (.int k n))
  | .and => eqK (k.wrap (BitVec.ofInt k.bits a &&& BitVec.ofInt k.bits b).toNat) fun n => F (.int k n)
  | .or => eqK (k.wrap (BitVec.ofInt k.bits a ||| BitVec.ofInt k.bits b).toNat) fun n => F (.int k n)
  | .xor => eqK (k.wrap (BitVec.ofInt k.bits a ^^^ BitVec.ofInt k.bits b).toNat) fun n => F (.int k n)
  | .andNot => eqK (k.wrap (BitVec.ofInt k.bits a &&& ~~~ BitVec.ofInt k.bits b).toNat) fun n => F (.int k n)
  | .eql => boolK (a == b) fun c => F (.bool c)
  | .neq => boolK (a != b) fun c => F (.bool c)
  | .lss => boolK (decide (a < b)) fun c => F (.bool c)
  | .leq => boolK (decide (a ≤ b)) fun c => F (.bool c)
  | .gtr => boolK (decide (a > b)) fun c => F (.bool c)
  | .geq => boolK (decide (a ≥ b)) fun c => F (.bool c)
  | _ => none

noncomputable def strBinK (op : BinOp) (a b : ByteArray) (F : PV → Option R) : Option R :=
  match op with
  | .add => needK (decide (a.size + b.size ≤ 9223372036854775807)) (eqK (a ++ b) fun s => F (.str s))
  | .eql => boolK (a.toList == b.toList) fun c => F (.bool c)
  | .neq => boolK (!(a.toList == b.toList)) fun c => F (.bool c)
  | .lss => boolK (Op.bytesLess a.toList b.toList) fun c => F (.bool c)
  | .leq => boolK (Op.bytesLess a.toList b.toList || a.toList == b.toList) fun c => F (.bool c)
  | .gtr => boolK (!(Op.bytesLess a.toList b.toList || a.toList == b.toList)) fun c => F (.bool c)
  | .geq => boolK (!Op.bytesLess a.toList b.toList) fun c => F (.bool c)
  | _ => none

noncomputable def boolBinK (op : BinOp) (a b : Bool) (F : PV → Option R) : Option R :=
  match op with
  | .eql => boolK (a == b) fun c => F (.bool c)
  | .neq => boolK (!(a == b)) fun c => F (.bool c)
  | _ => none

/-- Equality of plain scalars, as Go's '==' finds it; none: not told. -/
def scalarEq : SK → PV → PV → Option Bool
  | .b, .bool a, .bool b => some (a == b)
  | .i, .int k a, .int k' b => bif kindEq k k' then some (a == b) else none
  | .s, .str a, .str b => some (a.toList == b.toList)
  | _, _, _ => none
def aggEq : List SK → List PV → List PV → Option Bool
  | [], [], [] => some true
  | k :: ks, a :: l, b :: m => match scalarEq k a b, aggEq ks l m with | some x, some y => some (x && y) | _, _ => none
  | _, _, _ => none

def isNilLit : AV → Bool
  | .pv (.sl .nil 0 []) => true
  | _ => false
def nnB : Ext → Nat → Bool
  | .nn, _ | .nnx, _ => true
  | _, n => Nat.blt 0 n
def slNonNil : AV → Bool
  | .tsl .. | .hs .. => true
  | .pv (.sl e n _) => nnB e n
  | _ => false
def slEq (x y : AV) : Option Bool :=
  bif isNilLit y then (bif isNilLit x then some true else bif slNonNil x then some false else none)
  else bif isNilLit x then (bif slNonNil y then some false else none) else none
/-- 'x == y' where one of them is nil, or both are. -/
def nilEq : BK → AV → AV → Option Bool
  | .ptr, .pv .nilp, .pv .nilp => some true
  | .ptr, .ptr .., .pv .nilp | .ptr, .pv .nilp, .ptr .. | .ptr, .rptr .., .pv .nilp | .ptr, .pv .nilp, .rptr .. => some false
  | .map, .pv .nilm, .pv .nilm => some true
  | .map, .map _, .pv .nilm | .map, .pv .nilm, .map _ => some false
  | .fn, .pv .nilf, .pv .nilf => some true
  | .fn, .fn .., .pv .nilf | .fn, .pv (.fn ..), .pv .nilf | .fn, .yield _, .pv .nilf | .fn, .pv .nilf, .fn .. | .fn, .pv .nilf, .pv (.fn ..) | .fn, .pv .nilf, .yield _ => some false
  | .ptr, .ptr i o, .ptr j q => bif Nat.beq i j && Nat.beq o q then some true else none
  | .sl, x, y => slEq x y
  | _, _, _ => none

noncomputable def shiftK (op : BinOp) (k : IntKind) (a y : Int) (F : PV → Option R) : Option R :=
  match op with
  | .shl => needK (!decide (y < 0)) (eqK (k.wrap (a * 2 ^ (min y.toNat k.bits))) fun n => F (.int k n))
  | .shr => needK (!decide (y < 0)) (eqK (a.fdiv (2 ^ (min y.toNat k.bits))) fun n => F (.int k n))
  | _ => none

def isShift : BinOp → Bool
  | .shl | .shr => true
  | _ => false

noncomputable def nilBinK (k : BK) (op : BinOp) (x y : AV) (F : PV → Option R) : Option R :=
  match op with
  | .eql => match nilEq k x y with | some c => F (.bool c) | none => none
  | .neq => match nilEq k x y with | some c => F (.bool !c) | none => none
  | _ => none

noncomputable def binK (k : BK) (op : BinOp) (x y : AV) (F : PV → Option R) : Option R :=
  match k with
  | .num => match x with
    | .pv (.int k a) => match y with
      | .pv (.int k' b) => bif isShift op then shiftK op k a b F else bif kindEq k k' then intBinK op k a b F else none
      | _ => none
    | .pv (.str a) => match y with
      | .pv (.str b) => strBinK op a b F
      | _ => none
    | _ => none
  | .bool => match x with
    | .pv (.bool a) => match y with
      | .pv (.bool b) => boolBinK op a b F
      | _ => none
    | _ => none
  | .agg sh => match x with
    | .pv (.agg a) => match y with
      | .pv (.agg b) => match op with
        | .eql => bindK (aggEq sh a b) fun c => boolK c fun c => F (.bool c)
        | .neq => bindK (aggEq sh a b) fun c => boolK (!c) fun c => F (.bool c)
        | _ => none
      | _ => none
    | _ => none
  | k => nilBinK k op x y F

noncomputable def unK (op : UnOp) (x : AV) (F : PV → Option R) : Option R :=
  match op, x with
  | .neg, .pv (.int k n) => eqK (k.wrap (0 - n)) fun n => F (.int k n)
  | .xor, .pv (.int k n) => eqK (k.wrap (BitVec.ofInt k.bits (if k.signed then -1 else k.max) ^^^ BitVec.ofInt k.bits n).toNat) fun n => F (.int k n)
  | .not, .pv (.bool b) => F (.bool !b)
  | _, _ => none

def strOfCells : List PV → Option (List UInt8)
  | [] => some []
  | .int .u8 n :: l => (strOfCells l).map (UInt8.ofNat n.toNat :: ·)
  | _ :: _ => none
def bytesCells (s : ByteArray) : List PV := s.data.toList.map fun b => .int .u8 b.toNat

/-- The cells of a struct or an array. -/
def AV.isAgg : AV → Option (List AV)
  | .pv (.agg qs) => some (qs.map .pv)
  | .agg vs => some vs
  | _ => none
/-- What is read at a pointer. n: none: one cell. -/
def readObj (o : HObj) (off : Nat) : Option Nat → Option AV
  | none => match o with
    | .pcells cs => (cs[off]?).map .pv
    | .cells cs => lget cs off
    | _ => none
  | some n => match o with
    | .pcells cs => bif Nat.ble (off + n) cs.length then some (.pv (.agg ((cs.drop off).take n))) else none
    | .cells cs => bif Nat.ble (off + n) cs.length then some (mkAgg ((cs.drop off).take n)) else none
    | _ => none

/-- The same of a row that grows. -/
def readG (o : HObj) (n off : Nat) : Option Nat → Option AV
  | none => match o with
    | .row n' _ cs => bif Nat.beq n' n then cs[off]? else none
    | _ => none
  | some m => match o with
    | .row n' _ cs => bif Nat.beq n' n && Nat.ble (off + m) cs.length then some (mkAgg ((cs.drop off).take m)) else none
    | _ => none
/-- A row. -/
def rowK (o : HObj) (F : Nat → Nat → List AV → Option R) : Option R := match o with
  | .row n es cs => F n es cs
  | _ => none
noncomputable def load1K (p : AV) (h : Heap) (F : AV → Option R) : Option R :=
  match p with
  | .rptr cells off => getK cells off fun c => F (.pv c)
  | .ptr id off => hgetK h id fun o => match o with
    | .pcells cs => getK cs off fun c => F (.pv c)
    | .cells cs => match lget cs off with | some v => F v | none => none
    | _ => none
  | .gptr id n off => hgetK h id fun o => rowK o fun n' _ cs => needK (Nat.beq n' n) (getK cs off F)
  | _ => none

noncomputable def loadNK (n : Nat) (p : AV) (h : Heap) (F : AV → Option R) : Option R :=
  match p with
  | .rptr cells off => secK cells off n fun vs => F (.pv (.agg vs))
  | .ptr id off => hgetK h id fun o => match o with
    | .pcells cs => secK cs off n fun vs => F (.pv (.agg vs))
    | .cells cs => bif Nat.ble (off + n) cs.length then F (mkAgg ((cs.drop off).take n)) else none
    | _ => none
  | .gptr id m off => hgetK h id fun o => rowK o fun n' _ cs => needK (Nat.beq n' m) (secK cs off n fun q => F (mkAgg q))
  | _ => none

noncomputable def store1K (p v : AV) (h : Heap) (F : Heap → Option R) : Option R :=
  match p with
  | .ptr id off => hgetK h id fun o => match o with
    | .pcells cs => match v with
      | .pv q => bif q.one then needK (Nat.blt off cs.length) (eqK (cs.set off q) fun cs => F (hset h id (.pcells cs))) else none
      | v => bif v.one then bif Nat.blt off cs.length then F (hset h id (.cells ((cs.map .pv).set off v))) else none else none
    | .cells cs => bif v.one then bif Nat.blt off cs.length then F (hset h id (mkCells (cs.set off v))) else none else none
    | _ => none
  | .gptr id n off => hgetK h id fun o => rowK o fun n' es cs => needK (Nat.beq n' n && v.one && Nat.blt off cs.length) (eqK (cs.set off v) fun cs => F (hset h id (.row n es cs)))
  | _ => none

noncomputable def storeNK (n : Nat) (p v : AV) (h : Heap) (F : Heap → Option R) : Option R :=
  match p with
  | .ptr id off => hgetK h id fun o => match o with
    | .pcells cs => match v with
      | .pv (.agg qs) => needK (Nat.beq qs.length n && Nat.ble (off + n) cs.length) (eqK (cs.take off ++ qs ++ cs.drop (off + n)) fun cs => F (hset h id (.pcells cs)))
      | .agg vs => bif Nat.beq vs.length n && Nat.ble (off + n) cs.length then F (hset h id (.cells ((cs.map .pv).take off ++ vs ++ (cs.map .pv).drop (off + n)))) else none
      | _ => none
    | .cells cs => match v with
      | .pv (.agg qs) => bif Nat.beq qs.length n && Nat.ble (off + n) cs.length then F (hset h id (mkCells (cs.take off ++ qs.map .pv ++ cs.drop (off + n)))) else none
      | .agg vs => bif Nat.beq vs.length n && Nat.ble (off + n) cs.length then F (hset h id (.cells (cs.take off ++ vs ++ cs.drop (off + n)))) else none
      | _ => none
    | _ => none
  | .gptr id m off => match v.isAgg with
    | some vs => hgetK h id fun o => rowK o fun n' es cs => needK (Nat.beq n' m && Nat.beq vs.length n && Nat.ble (off + n) cs.length) (eqK (cs.take off ++ vs ++ cs.drop (off + n)) fun cs => F (hset h id (.row m es cs)))
    | none => none
  | _ => none

/-- The place that an index names: within a length. -/
noncomputable def idxK (i : AV) (len : Nat) (F : Nat → Option R) : Option R :=
  match i with
  | .pv (.int _ i) => needK (decide (0 ≤ i) && decide (i < (len : Int))) (F i.toNat)
  | _ => none

def mulE (i es : Nat) : Nat := bif Nat.beq es 1 then i else i * es
def addO (a b : Nat) : Nat := bif Nat.beq a 0 then b else bif Nat.beq b 0 then a else a + b

/-- A slice's length. -/
def lenOfS : AV → Option Nat
  | .pv (.sl _ n _) => some n
  | .tsl _ n _ => some n
  | .hs _ _ _ n _ => some n
  | .gs _ n => some n
  | _ => none

noncomputable def idxAddrSK (es : Nat) (x i : AV) (F : AV → Option R) : Option R :=
  match x with
  | .pv (.sl _ n cs) => idxK i n fun j => F (.rptr cs (mulE j es))
  | .tsl _ n cs => idxK i n fun j => F (.rptr cs (mulE j es))
  | .hs _ id off n _ => idxK i n fun j => F (.ptr id (addO off (mulE j es)))
  | .gs id n => idxK i n fun j => F (.gptr id n (mulE j es))
  | _ => none

/-- A bound of a slice: at most y; none: as given. -/
noncomputable def boundK (x : Option AV) (dflt y : Nat) (F : Nat → Option R) : Option R :=
  match x with
  | none => F dflt
  | some (.pv (.int _ i)) => needK (decide (0 ≤ i) && decide (i ≤ (y : Int))) (F i.toNat)
  | _ => none

noncomputable def sliceStrK (x : AV) (lo hi : Option AV) (F : AV → Option R) : Option R :=
  match x with
  | .pv (.str s) => boundK hi s.size s.size fun h => boundK lo 0 h fun l => eqK (s.extract l h) fun s => F (.pv (.str s))
  | _ => none

/-- What is known of the room of a part: 'full': it ends where the whole one does. -/
def Ext.part : Ext → (full cut : Bool) → Ext
  | .nn, _, _ => .nn
  | .nnx, true, _ | .nnx, _, true => .nnx
  | .nnx, _, _ => .nn
  | _, _, true => .exact
  | .nil, true, _ => .exact
  | .exact, true, _ => .exact
  | .nil, _, _ => .exact
  | _, _, _ => .unk

noncomputable def sliceSK (es : Nat) (x : AV) (lo hi mx : Option AV) (F : AV → Option R) : Option R :=
  match x with
  | .pv (.sl e n cs) =>
    match mx with
    | none => boundK hi n n fun h => boundK lo 0 h fun l =>
        eqK ((cs.drop (mulE l es)).take (mulE (h - l) es)) fun cs' => F (.pv (.sl (e.part (hi.isNone) false) (h - l) cs'))
    | some m => match m, hi with
      | .pv (.int _ m), some (.pv (.int _ h)) => needK (decide (m = h)) (boundK hi n n fun h => boundK lo 0 h fun l =>
          eqK ((cs.drop (mulE l es)).take (mulE (h - l) es)) fun cs' => F (.pv (.sl .exact (h - l) cs')))
      | _, _ => none
  | .tsl _ n cs =>
    match mx with
    | none => boundK hi n n fun h => boundK lo 0 h fun l =>
        eqK ((cs.drop (mulE l es)).take (mulE (h - l) es)) fun cs' => F (.pv (.sl .nn (h - l) cs'))
    | some m => match m, hi with
      | .pv (.int _ m), some (.pv (.int _ h)) => needK (decide (m = h)) (boundK hi n n fun h => boundK lo 0 h fun l =>
          eqK ((cs.drop (mulE l es)).take (mulE (h - l) es)) fun cs' => F (.pv (.sl .exact (h - l) cs')))
      | _, _ => none
  | .hs es' id off n cap =>
    match mx with
    | none => boundK hi n n fun h => boundK lo 0 h fun l => needK (Nat.blt l cap || Nat.beq l 0) (F (.hs es' id (addO off (mulE l es)) (h - l) (cap - l)))
    | some _ => none
  | .zsl t n =>
    match mx with
    | none => match lo with
      | none => boundK hi n n fun h => needK (Nat.beq h 0) (F (.tsl t 0 []))
      | some _ => none
    | some _ => none
  | _ => none

/-- The cells that an append, or a copy, takes. -/
noncomputable def srcK (h : Heap) (x : AV) (F : List PV → Option R) : Option R :=
  match x with
  | .pv (.sl _ _ cs) => F cs
  | .tsl _ _ cs => F cs
  | .hs es id off n _ => hgetK h id fun o => match o with
    | .pcells cs => secK cs off (n * es) F
    | _ => none
  | .pv (.str s) => F (bytesCells s)
  | _ => none
def srcLen : AV → Option Nat
  | .pv (.sl _ n _) => some n
  | .tsl _ n _ => some n
  | .hs _ _ _ n _ => some n
  | .pv (.str s) => some s.size
  | _ => none

/-- The most bytes that a slice of one's own may have. -/
def mostBytes : Nat := 140737488355328

/-- Is nothing known of its room? -/
def Ext.noApp : Ext → Bool
  | .unk | .nn => true
  | _ => false
/-- An append of so many elements. -/
noncomputable def appendTo (mu : Bool) (es bytes m : Nat) (new : List PV) (s : AV) (h : Heap) (F : AV → Heap → Option R) : Option R :=
    match s with
    | .pv (.sl e n cs) => bif e.noApp then boolK (Nat.beq m 0) fun z => bif z then F s h else none
      else boolK (Nat.beq m 0) fun z => bif z then F s h else
        needK (Nat.ble ((n + m) * bytes) mostBytes && Nat.beq cs.length (mulE n es) && Nat.beq new.length (mulE m es)) (eqK (cs ++ new) fun cs => eqK (n + m) fun k => bif mu then F (.hs es h.length 0 k k) (h ++ [.pcells cs]) else F (.tsl h.length k cs) (h ++ [.tok k es]))
    | .tsl t n cs => hgetK h t fun o => match o with
      | .tok n' es' => needK (Nat.beq n' n && Nat.beq es' es) (
        needK (Nat.ble ((n + m) * bytes) mostBytes && Nat.beq cs.length (mulE n es) && Nat.beq new.length (mulE m es)) (eqK (cs ++ new) fun cs => eqK (n + m) fun k => F (.tsl t k cs) (hset h t (.tok k es))))
      | _ => none
    | .hs es' id off n cap => needK (Nat.beq es' es && Nat.ble (n + m) cap) (hgetK h id fun o => match o with
      | .pcells cs => needK (Nat.ble (off + mulE (n + m) es) cs.length && Nat.beq new.length (mulE m es))
        (eqK (n + m) fun k => eqK (cs.take (off + mulE n es) ++ new ++ cs.drop (off + mulE (n + m) es)) fun cs' => F (.hs es id off k cap) (hset h id (.pcells cs')))
      | _ => none)
    | _ => none

/-- The cells that such an append takes, as they lie. -/
noncomputable def srcA (h : Heap) (x : AV) (F : List AV → Option R) : Option R :=
  match x with
  | .pv (.sl _ _ cs) => F (cs.map .pv)
  | .tsl _ _ cs => F (cs.map .pv)
  | .hs es id off n _ => hgetK h id fun o => match o with
    | .pcells cs => secK cs off (n * es) fun q => F (q.map .pv)
    | .cells cs => secK cs off (n * es) F
    | _ => none
  | _ => none
/-- A row that may be written grows. -/
noncomputable def growK (es bytes : Nat) (s x : AV) (h : Heap) (F : AV → Heap → Option R) : Option R :=
  match s with
  | .gs id n => match srcLen x with
    | some m => srcA h x fun new => hgetK h id fun o => rowK o fun n' es' cs => needK (Nat.beq n' n && Nat.beq es' es && Nat.blt 0 m && Nat.ble ((n + m) * bytes) mostBytes && Nat.beq cs.length (mulE n es) && Nat.beq new.length (mulE m es))
        (eqK (n + m) fun k => eqK (cs ++ new) fun cs => F (.gs id k) (hset h id (.row k es cs)))
    | none => none
  | _ => none

def AV.isGs : AV → Bool
  | .gs .. => true
  | _ => false
noncomputable def appendK (mu : Bool) (es bytes : Nat) (s x : AV) (h : Heap) (F : AV → Heap → Option R) : Option R :=
  bif s.isGs then growK es bytes s x h F else match srcLen x with
  | some m => srcK h x fun new => appendTo mu es bytes m new s h F
  | none => none

/-- An append, as a stop. -/
@[irreducible] noncomputable def appS (mu : Bool) (es bytes : Nat) (s x : AV) (h : Heap) (F : AV → Heap → Option R) : Option R := hold (appendK mu es bytes s x h F)
theorem appS_def (mu : Bool) (es bytes : Nat) (s x : AV) (h : Heap) (F : AV → Heap → Option R) : appS mu es bytes s x h F = appendK mu es bytes s x h F := by unfold appS; rw [hold_eq]

noncomputable def copyK (es : Nat) (d s : AV) (h : Heap) (F : AV → Heap → Option R) : Option R :=
  match d with
  | .hs _ id off n _ => match srcLen s with
    | some m => srcK h s fun new => hgetK h id fun o => match o with
      | .pcells cs => needK (Nat.ble (off + n * es) cs.length && Nat.beq new.length (mulE m es))
        (eqK (min m n) fun k => eqK (cs.take off ++ new.take (mulE k es) ++ cs.drop (off + mulE k es)) fun cs' => F (.pv (.int .i64 k)) (hset h id (.pcells cs')))
      | _ => none
    | none => none
  | .pv (.sl _ n _) => match srcLen s with
    | some m => srcK h s fun new => needK (Nat.beq n 0 && Nat.beq new.length (mulE m es)) (F (.pv (.int .i64 0)) h)
    | none => none
  | _ => none

/-- Keys of a map: whole numbers, strings, bools; several of them. -/
def keyEq : KT → PV → PV → Option Bool
  | .one .i, .int k a, .int k' b => bif kindEq k k' then some (a == b) else none
  | .one .s, .str a, .str b => some (a == b)
  | .one .b, .bool a, .bool b => some (a == b)
  | .agg sh, .agg a, .agg b => aggEq sh a b
  | _, _, _ => none
/-- Does a key have its cells? -/
def keyOK : KT → PV → Bool
  | .one _, _ => true
  | .agg sh, .agg cs => Nat.beq cs.length sh.length
  | _, _ => false
/-- Where a key stands. -/
def mapFind (kk : KT) (k : PV) : List (Nat × PV × PV) → Nat → Option (Option (Nat × PV))
  | [], _ => some none
  | e :: es, i => match keyEq kk k e.2.1 with
    | some true => some (some (i, e.2.2))
    | some false => mapFind kk k es (i + 1)
    | none => none
def lookV (ok : Bool) (z : PV) : Option (Nat × PV) → PV
  | some x => bif ok then .tup [x.2, .bool true] else x.2
  | none => bif ok then .tup [z, .bool false] else z
/-- An entry of that key. -/
def setKV (k v : PV) : List (Nat × PV × PV) → Nat → List (Nat × PV × PV)
  | [], _ => []
  | e :: es, 0 => (e.1, k, v) :: es
  | e :: es, i + 1 => e :: setKV k v es i
def mapPut (clk : Nat) (es : List (Nat × PV × PV)) (k v : PV) : Option (Nat × PV) → HObj
  | some x => .map clk (setKV k v es x.1)
  | none => .map (clk + 1) (es ++ [(clk, k, v)])
def mapDel (clk : Nat) (es : List (Nat × PV × PV)) : Option (Nat × PV) → HObj
  | some x => .map clk (es.eraseIdx x.1)
  | none => .map clk es
noncomputable def lookK (ok : Bool) (kk : KT) (z : PV) (x k : AV) (h : Heap) (F : PV → Option R) : Option R :=
  match x with
  | .map id => match k with
    | .pv k => hgetK h id fun o => match o with
      | .map _ es => bif keyOK kk k then bindK (mapFind kk k es 0) fun f => F (lookV ok z f) else none
      | _ => none
    | _ => none
  | .pv .nilm => match k with
    | .pv k => bif keyOK kk k then F (lookV ok z none) else none
    | _ => none
  | _ => none
noncomputable def updK (kk : KT) (x k v : AV) (h : Heap) (F : Heap → Option R) : Option R :=
  match x with
  | .map id => match k with
    | .pv k => match v with
      | .pv v => hgetK h id fun o => match o with
        | .map clk es => bif keyOK kk k then bindK (mapFind kk k es 0) fun f => F (hset h id (mapPut clk es k v f)) else none
        | _ => none
      | _ => none
    | _ => none
  | _ => none
noncomputable def delK (kk : KT) (x k : AV) (h : Heap) (F : Heap → Option R) : Option R :=
  match x with
  | .map id => match k with
    | .pv k => hgetK h id fun o => match o with
      | .map clk es => bif keyOK kk k then bindK (mapFind kk k es 0) fun f => F (hset h id (mapDel clk es f)) else none
      | _ => none
    | _ => none
  | _ => none
noncomputable def lenK (x : AV) (h : Heap) (F : PV → Option R) : Option R :=
  match x with
  | .map id => hgetK h id fun o => match o with
    | .map _ es => F (.int .i64 es.length)
    | _ => none
  | .pv .nilm => F (.int .i64 0)
  | _ => none
noncomputable def rangeMK (x : AV) (h : Heap) (F : AV → Heap → Option R) : Option R :=
  match x with
  | .map id => hgetK h id fun o => match o with
    | .map clk _ => F (.ptr h.length 0) (h ++ [.iter (some id) clk [] clk])
    | _ => none
  | .pv .nilm => F (.ptr h.length 0) (h ++ [.iter none 0 [] 0])
  | _ => none
/-- The entry that was stepped to. -/
noncomputable def entryK (x : AV) (h : Heap) (F : PV → Option R) : Option R :=
  match x with
  | .ptr id off => hgetK h id fun o => match o with
    | .iter m _ seen last => match m with
      | some m => hgetK h m fun o => match o with
        | .map clk es => needK (Nat.beq off 0 && Nat.beq clk last) (bindK seen.getLast? fun s => bindK (es.find? fun e => Nat.beq e.1 s) fun e => F (.tup [e.2.1, e.2.2]))
        | _ => none
      | none => none
    | _ => none
  | _ => none

/-- Elements in whatever order, by the one that stands for all orders. -/
noncomputable def canon (l : List (List PV)) : List (List PV) := (Quotient.exists_rep (Quotient.mk (List.isSetoid (List PV)) l)).choose
theorem canon_perm (l : List (List PV)) : (canon l).Perm l := Quotient.exact (s := List.isSetoid (List PV)) (Quotient.exists_rep (Quotient.mk (List.isSetoid (List PV)) l)).choose_spec
theorem canon_eq {l m : List (List PV)} (h : l.Perm m) : canon l = canon m := by
  unfold canon
  have : Quotient.mk (List.isSetoid (List PV)) l = Quotient.mk (List.isSetoid (List PV)) m := Quotient.sound (s := List.isSetoid (List PV)) h
  simp only [this]
/-- One element's cells. -/
def elemOf (es : Nat) : AV → Option (List PV)
  | .pv (.sl _ n cs) => bif Nat.beq n 1 && Nat.beq cs.length es then some cs else none
  | _ => none
/-- An append of one element to a bag. -/
noncomputable def appBK (es bytes : Nat) (s x : AV) (h : Heap) (F : AV → Heap → Option R) : Option R :=
  match elemOf es x with
  | some c => match s with
    | .pv (.sl e n cs) => needK (!e.noApp && Nat.beq n 0 && Nat.beq cs.length 0 && Nat.ble (1 * bytes) mostBytes) (F (.gs h.length 1) (h ++ [.bag es [c]]))
    | .gs id n => hgetK h id fun o => match o with
      | .bag es' l => needK (Nat.beq es' es && Nat.beq l.length n && Nat.ble ((n + 1) * bytes) mostBytes) (eqK (n + 1) fun k => eqK (canon (l ++ [c])) fun l => F (.gs id k) (hset h id (.bag es l)))
      | _ => none
    | _ => none
  | none => none

noncomputable def minmaxK (mx : Bool) : Int → IntKind → List AV → (PV → Option R) → Option R
  | a, k, [], F => F (.int k a)
  | a, k, .pv (.int _ b) :: l, F => eqK (bif mx then (if b > a then b else a) else (if b < a then b else a)) fun c => minmaxK mx c k l F
  | _, _, _, _ => none

def zerosOf (z : List PV) : Nat → List PV
  | 0 => []
  | n + 1 => z ++ zerosOf z n

/-- A string, as it is said to be. -/
def ofStr : Bool → AV → Bool
  | b, .pv (.str _) => b
  | b, _ => !b

/-- Operations that call nothing. -/
noncomputable def opK (o : VOp) (r : Regs) (h : Heap) (F : AV → Heap → Option R) : Option R :=
  match o with
  | .mov x => F (x.ev r) h
  | .pick c a b => match c.ev r with | .pv (.bool c) => bif c then F (a.ev r) h else F (b.ev r) h | _ => none
  | .alloc z => F (.ptr h.length 0) (h ++ [.pcells z])
  | .box x => match boxOf (x.ev r) with | some o => F (.ptr h.length 0) (h ++ [o]) | none => none
  | .build z parts => match partsPV (parts.map fun (o, n, x) => (o, n, x.ev r)) with
    | some ps => match fill z ps with | some l => F (.pv (.agg l)) h | none => none
    | none => match fillA (z.map .pv) (parts.map fun (o, n, x) => (o, n, x.ev r)) with | some l => F (.agg l) h | none => none
  | .buildSlice mu es len z parts => match mu with
    | true => match partsPV (parts.map fun (o, n, x) => (o, n, x.ev r)) with
      | some ps => match fill z ps with
        | some l => F (.hs es h.length 0 len len) (h ++ [.pcells l])
        | none => none
      | none => match fillA (z.map .pv) (parts.map fun (o, n, x) => (o, n, x.ev r)) with
        | some l => F (.hs es h.length 0 len len) (h ++ [.cells l])
        | none => none
    | false => match partsDown (parts.map fun (o, n, x) => (o, n, x.ev r)) with
      | some ps => match fill z ps with
        | some l => F (.pv (.sl .nnx len l)) h
        | none => none
      | none => none
  | .load1 p => load1K (p.ev r) h fun v => F v h
  | .loadN n p => loadNK n (p.ev r) h fun v => F v h
  | .store1 p v => store1K (p.ev r) (v.ev r) h fun h => F undefV h
  | .storeN n p v => storeNK n (p.ev r) (v.ev r) h fun h => F undefV h
  | .nilCheck x => match x.ev r with | .ptr id off => F (.ptr id off) h | .rptr cs off => F (.rptr cs off) h | .gptr id n off => F (.gptr id n off) h | _ => none
  | .bin k op x y => binK k op (x.ev r) (y.ev r) fun p => F (.pv p) h
  | .un op x => unK op (x.ev r) fun p => F (.pv p) h
  | .conv k x => match x.ev r with | .pv (.int _ n) => eqK (k.wrap n) fun n => F (.pv (.int k n)) h | _ => none
  | .ident x => match x.ev r with | .pv (.str s) => F (.pv (.str s)) h | _ => none
  | .strOf x => match x.ev r with
    | .pv (.str _) => none
    | v => match srcLen v with
      | some n => srcK h v fun cs => needK (Nat.beq cs.length n) (bindK (strOfCells cs) fun l => F (.pv (.str ⟨l.toArray⟩)) h)
      | none => none
  | .strOfP x => match x.ev r with
    | .pv (.sl _ n cs) => needK (Nat.beq cs.length n) (bindK (strOfCells cs) fun l => F (.pv (.str ⟨l.toArray⟩)) h)
    | .tsl _ n cs => needK (Nat.beq cs.length n) (bindK (strOfCells cs) fun l => F (.pv (.str ⟨l.toArray⟩)) h)
    | _ => none
  | .bytesOf x => match x.ev r with | .pv (.str s) => eqK (bytesCells s) fun cs => F (.pv (.sl .nn s.size cs)) h | _ => none
  | .freeze x => match x.ev r with
    | .hs es id off n _ => hgetK h id fun o => match o with
      | .pcells cs => needK (Nat.beq off 0 && Nat.beq cs.length (mulE n es)) (F (.pv (.sl .nn n cs)) (hset h id .dead))
      | _ => none
    | _ => none
  | .settle x => match x.ev r with
    | .pv p => F (.pv p) h
    | .tsl _ n cs => F (.pv (.sl .nn n cs)) h
    | .hs es id off n _ => hgetK h id fun o => match o with
      | .pcells cs => secK cs off (mulE n es) fun vs => F (.pv (.sl .nn n vs)) (hset h id .dead)
      | _ => none
    | _ => none
  | .fieldAddr off x => match x.ev r with | .ptr id o => F (.ptr id (addO o off)) h | .rptr cs o => F (.rptr cs (addO o off)) h | .gptr id n o => F (.gptr id n (addO o off)) h | _ => none
  | .field1 off x => match x.ev r with
    | .pv (.agg cs) => getK cs off fun c => F (.pv c) h
    | .agg cs => match lget cs off with | some v => F v h | none => none
    | _ => none
  | .fieldN off n x => match x.ev r with
    | .pv (.agg cs) => secK cs off n fun vs => F (.pv (.agg vs)) h
    | .agg cs => bif Nat.ble (off + n) cs.length then F (mkAgg ((cs.drop off).take n)) h else none
    | _ => none
  | .idxAddrA len es x i => match x.ev r with
    | .ptr id o => idxK (i.ev r) len fun j => F (.ptr id (addO o (mulE j es))) h
    | .rptr cs o => idxK (i.ev r) len fun j => F (.rptr cs (addO o (mulE j es))) h
    | _ => none
  | .idxAddrS es x i => idxAddrSK es (x.ev r) (i.ev r) fun v => F v h
  | .idxA1 len x i => match x.ev r with
    | .pv (.agg cs) => idxK (i.ev r) len fun j => getK cs j fun c => F (.pv c) h
    | .agg cs => idxK (i.ev r) len fun j => match lget cs j with | some v => F v h | none => none
    | _ => none
  | .idxAN len es x i => match x.ev r with
    | .pv (.agg cs) => idxK (i.ev r) len fun j => secK cs (j * es) es fun vs => F (.pv (.agg vs)) h
    | _ => none
  | .idxStr x i => match x.ev r with
    | .pv (.str s) => idxK (i.ev r) s.size fun j => getK s.data.toList j fun b => F (.pv (.int .u8 b.toNat)) h
    | _ => none
  | .sliceStr x lo hi => sliceStrK (x.ev r) (lo.map (Opd.ev r)) (hi.map (Opd.ev r)) fun v => F v h
  | .sliceS es x lo hi mx => sliceSK es (x.ev r) (lo.map (Opd.ev r)) (hi.map (Opd.ev r)) (mx.map (Opd.ev r)) fun v => F v h
  | .sliceA len es x lo hi => match x.ev r with
    | .ptr id o => boundK (hi.map (Opd.ev r)) len len fun hb => boundK (lo.map (Opd.ev r)) 0 hb fun l => needK (Nat.blt l len || Nat.beq l 0) (F (.hs es id (addO o (mulE l es)) (hb - l) (len - l)) h)
    | _ => none
  | .toArr n x => match x.ev r with
    | .pv (.sl e m cs) => match e with | .nil => none | _ => needK (Nat.ble n m && Nat.blt 0 n) (F (.rptr cs 0) h)
    | .tsl _ m cs => needK (Nat.ble n m) (F (.rptr cs 0) h)
    | .hs _ id off m _ => needK (Nat.ble n m) (F (.ptr id off) h)
    | _ => none
  | .mkFn f a b => match allPV (a.map (Opd.ev r)), allPV (b.map (Opd.ev r)) with
    | some a, some b => F (.pv (.fn f a b)) h
    | _, _ => F (.fn f (a.map (Opd.ev r)) (b.map (Opd.ev r))) h
  | .mkSlice mu es z l c => match l.ev r, c.ev r with
    | .pv (.int _ l), .pv (.int _ c) => needK (decide (0 ≤ l) && decide (l ≤ c) && decide (c ≤ 1099511627776)) (
        eqK (zerosOf z c.toNat) fun cs => bif mu then F (.hs es h.length 0 l.toNat c.toNat) (h ++ [.pcells cs])
          else needK (decide (l = c)) (F (.pv (.sl .nnx l.toNat cs)) h))
    | _, _ => none
  | .extract i x => match x.ev r with
    | .pv (.tup l) => match lget l i with | some p => F (.pv p) h | none => none
    | .tup l => match lget l i with | some v => F v h | none => none
    | _ => none
  | .lenS x => match lenOfS (x.ev r) with | some n => F (.pv (.int .i64 n)) h | none => none
  | .lenStr x => match x.ev r with | .pv (.str s) => F (.pv (.int .i64 s.size)) h | _ => none
  | .append mu str es bytes s x => bif ofStr str (x.ev r) then appS mu es bytes (s.ev r) (x.ev r) h F else none
  | .copy str es d s => bif ofStr str (s.ev r) then copyK es (d.ev r) (s.ev r) h F else none
  | .appendZ mu es bytes z s x => match x.ev r with
    | .pv (.int _ l) => match mu with
      | true => match s.ev r with
        | .pv (.sl e n cs) => needK (decide (0 < l) && decide (l ≤ 1099511627776) && !e.noApp && Nat.beq n 0 && Nat.beq cs.length 0 && Nat.ble ((0 + l.toNat) * bytes) mostBytes) (F (.zsl h.length l.toNat) (h ++ [.tok 0 es]))
        | _ => none
      | false => needK (decide (0 ≤ l) && decide (l ≤ 1099511627776)) (eqK (zerosOf z l.toNat) fun new => appS false es bytes (s.ev r) (.pv (.sl .nnx l.toNat new)) h F)
    | _ => none
  | .capS x => match x.ev r with
    | .pv (.sl e n _) => bif e.noApp then none else F (.pv (.int .i64 n)) h
    | _ => none
  | .mkMap => F (.map h.length) (h ++ [.map 0 []])
  | .lookM ok kk z x k => lookK ok kk z (x.ev r) (k.ev r) h fun p => F (.pv p) h
  | .updM kk x k v => updK kk (x.ev r) (k.ev r) (v.ev r) h fun h => F undefV h
  | .delM kk x k => delK kk (x.ev r) (k.ev r) h fun h => F undefV h
  | .lenM x => lenK (x.ev r) h fun p => F (.pv p) h
  | .rangeM x => rangeMK (x.ev r) h F
  | .entryM x => entryK (x.ev r) h fun p => F (.pv p) h
  | .appB es bytes s x => appBK es bytes (s.ev r) (x.ev r) h F
  | .minmax mx xs => match xs.map (Opd.ev r) with
    | .pv (.int k a) :: l => minmaxK mx a k l fun p => F (.pv p) h
    | _ => none
  | .buildG es len z parts => match fillA (z.map .pv) (parts.map fun (o, n, x) => (o, n, x.ev r)) with
    | some l => F (.gs h.length len) (h ++ [.row len es l])
    | none => none
  | .idle => F undefV h
  | .idleX _ => F undefV h
  | .call .. | .callV .. | .boxH _ | .mkSliceH .. | .nextM _ | .bad => none

end ops
end Go.VM

namespace Go.VM
open Go

inductive Tgt where
  | fn (f : FuncId)
  | yield (id : Nat)

abbrev Orc := Tgt → List AV → Heap → Option (AV × Heap)

/-- Functions of the library that are known by what they do: a map's copy; a sort, by a function that compares. -/
inductive PrimH where
  | clone
  | sort (es : Nat)
structure Env where
  ft : FuncId → Option VFunc
  md : FuncId → Mode
  /-- What is known of a function without its code. -/
  pr : FuncId → Option (List PV → Option PV)
  /-- The same of one that uses the heap, and calls others. -/
  prH : FuncId → Option PrimH

/-- A call by itself: on an empty heap, of plain values; plain again. -/
def EP (E : Orc) (f : FuncId) (ps : List PV) : Option PV := (E (.fn f) (ps.map .pv) []).bind fun p => out p.2 p.1

/-- Rising, as a function tells. -/
def OrdBy (E : Orc) (g : FuncId) (l : List (List PV)) : Prop := ∀ (i j : Nat) (a b : List PV), l[i]? = some a → l[j]? = some b → ∃ c : Int, EP E g [.agg a, .agg b] = some (.int .i64 c) ∧ (c < 0 ↔ i < j)
theorem OrdBy.unique {E : Orc} {g : FuncId} {l m : List (List PV)} (h : OrdBy E g l) (hm : OrdBy E g m) (hp : l.Perm m) : l = m := by
  refine List.Perm.eq_of_pairwise (le := fun a b => a = b ∨ ∃ c : Int, EP E g [.agg a, .agg b] = some (.int .i64 c) ∧ c < 0) ?_ ?_ ?_ hp
  · intro a b ha hb h1 h2
    rcases h1 with h1 | ⟨c, h1, h1'⟩
    · exact h1
    · rcases h2 with h2 | ⟨d, h2, h2'⟩
      · exact h2.symm
      · obtain ⟨i, hi⟩ := List.getElem?_of_mem ha
        obtain ⟨j, hj⟩ := List.getElem?_of_mem (hp.symm.mem_iff.1 hb)
        obtain ⟨c', g1, g2⟩ := h i j a b hi hj
        obtain ⟨d', g3, g4⟩ := h j i b a hj hi
        rw [g1] at h1; injection h1 with h1; injection h1 with _ h1
        rw [g3] at h2; injection h2 with h2; injection h2 with _ h2
        have := g2.1 (by omega)
        have := g4.1 (by omega)
        omega
  · rw [List.pairwise_iff_getElem]
    intro i j hi hj hij
    obtain ⟨c, g1, g2⟩ := h i j _ _ (List.getElem?_eq_getElem hi) (List.getElem?_eq_getElem hj)
    exact .inr ⟨c, g1, g2.2 hij⟩
  · rw [List.pairwise_iff_getElem]
    intro i j hi hj hij
    obtain ⟨c, g1, g2⟩ := hm i j _ _ (List.getElem?_eq_getElem hi) (List.getElem?_eq_getElem hj)
    exact .inr ⟨c, g1, g2.2 hij⟩
open Classical in
noncomputable def sortedK (E : Orc) (g : FuncId) (l : List (List PV)) : Option (List (List PV)) := if h : ∃ l', l'.Perm l ∧ OrdBy E g l' then some h.choose else none
theorem sortedK_intro {E : Orc} {g : FuncId} {l l' : List (List PV)} (hp : l'.Perm l) (ho : OrdBy E g l') : sortedK E g l = some l' := by
  have h : ∃ l', l'.Perm l ∧ OrdBy E g l' := ⟨l', hp, ho⟩
  unfold sortedK
  rw [dif_pos h]
  exact congrArg some (OrdBy.unique h.choose_spec.2 ho (h.choose_spec.1.trans hp.symm))
theorem sortedK_some {E : Orc} {g : FuncId} {l l' : List (List PV)} (h : sortedK E g l = some l') : l'.Perm l ∧ OrdBy E g l' := by
  unfold sortedK at h
  split at h
  · rename_i hx
    injection h with h
    rw [← h]; exact hx.choose_spec
  · cases h
def flatPV (l : List (List PV)) : Bool := l.all fun x => x.all PV.flat
noncomputable def primK (p : PrimH) (E : Orc) (args : List AV) (h : Heap) : Option (AV × Heap) :=
  match p with
  | .clone => match args with
    | [.map id] => match hget h id with
      | .map clk es => some (.map h.length, h ++ [.map clk es])
      | _ => none
    | [.pv .nilm] => some (.pv .nilm, h)
    | _ => none
  | .sort es => match args with
    | [s, .pv (.fn g [] [])] => match s with
      | .pv (.sl _ 0 []) => some (undefV, h)
      | .gs id n => match hget h id with
        | .bag es' l => bif Nat.beq es' es && Nat.beq l.length n && flatPV l && Nat.ble n 4611686018427387903 then (sortedK E g l).map fun l' => (undefV, hset h id (.row n es (l'.flatten.map .pv))) else none
        | _ => none
      | _ => none
    | _ => none
section
variable {R : Type}
@[irreducible] noncomputable def callPK (E : Orc) (f : FuncId) (ps : List PV) (F : PV → Option R) : Option R := (hold (EP E f ps)).bind F
@[irreducible] noncomputable def callSK (E : Orc) (t : Tgt) (args : List AV) (h : Heap) (F : AV → Heap → Option R) : Option R := (hold (E t args h)).bind fun p => F p.1 p.2
theorem callPK_def (E : Orc) (f : FuncId) (ps : List PV) (F : PV → Option R) : callPK E f ps F = (EP E f ps).bind F := by unfold callPK; rw [hold_eq]
theorem callSK_def (E : Orc) (t : Tgt) (args : List AV) (h : Heap) (F : AV → Heap → Option R) : callSK E t args h F = (E t args h).bind fun p => F p.1 p.2 := by unfold callSK; rw [hold_eq]
open Classical in
@[irreducible] noncomputable def sameK (a b : Option AV) (x : Option R) : Option R := Bool.rec (motive := fun _ => Option R) none x (hold (decide (a = b ∧ a.isSome)))
open Classical in
theorem sameK_def (a b : Option AV) (x : Option R) : sameK a b x = if a = b ∧ a.isSome then x else none := by
  unfold sameK
  rw [hold_eq]
  by_cases h : a = b ∧ a.isSome
  · rw [if_pos h, decide_eq_true h]
  · rw [if_neg h, decide_eq_false h]
/-- The slice that a call answered, which nobody else has, comes to the caller's heap. -/
noncomputable def adopt (thaw : Bool) (h' h : Heap) (v : AV) (F : AV → Heap → Option R) : Option R :=
  match v with
  | .pv p => F (.pv p) h
  | .tsl t n cs => match hget h' t with
    | .tok n' es => needK (Nat.beq n' n) (bif thaw then needK (cs.all PV.flat) (F (.hs es h.length 0 n n) (h ++ [.pcells cs])) else F (.tsl h.length n cs) (h ++ [.tok n es]))
    | _ => none
  | .hs es id off n cap => match hget h' id with
    | .pcells cs => needK (Nat.beq off 0) (F (.hs es h.length 0 n cap) (h ++ [.pcells cs]))
    | _ => none
  | _ => none

/-- Arguments as plain values; a slice that may be written, as it now is. -/
noncomputable def lendsK (h : Heap) : List AV → (List PV → Option R) → Option R
  | [], F => F []
  | a :: l, F => match down2 a with
    | some p => lendsK h l fun ps => F (p :: ps)
    | none => match a with
      | .hs es id off len _ => hgetK h id fun o => match o with
        | .pcells cs => secK cs off (len * es) fun q => lendsK h l fun ps => F (.sl .nn len q :: ps)
        | _ => none
      | _ => none
/-- The new slice that such a call answers. -/
noncomputable def adoptL (thaw : Bool) (h' h : Heap) (v : AV) (F : AV → Heap → Option R) : Option R :=
  match v with
  | .tsl t n cs => match hget h' t with
    | .tok n' es => needK (Nat.beq n' n) (needK (cs.all PV.flat) (bif thaw then F (.hs es h.length 0 n n) (h ++ [.pcells cs]) else F (.pv (.sl .nn n cs)) h))
    | _ => none
  | _ => none
noncomputable def callK (env : Env) (E : Orc) (t : Tgt) (args : List AV) (h : Heap) (F : AV → Heap → Option R) : Option R :=
  match t with
  | .yield _ => callSK E t args h F
  | .fn f => match env.md f with
    | .shared => callSK E t args h F
    | .pure => match downs args with | some ps => callPK E f ps fun p => F (.pv p) h | none => none
    | .own => match downs args with | some ps => callSK E (.fn f) (ps.map .pv) [] fun v h' => adopt false h' h v F | none => none
    | .thaw => match downs args with | some ps => callSK E (.fn f) (ps.map .pv) [] fun v h' => adopt true h' h v F | none => none
    | .lend th => lendsK h args fun ps => callSK E (.fn f) (ps.map .pv) [] fun v h' => adoptL th h' h v F

/-- One operation. -/
noncomputable def operK (env : Env) (E : Orc) (o : VOp) (r : Regs) (h : Heap) (F : AV → Heap → Option R) : Option R :=
  match o with
  | .call m f args => callK ⟨env.ft, fun _ => m, env.pr, env.prH⟩ E (.fn f) (args.map (Opd.ev r)) h F
  | .callV f args => match f.ev r with
    | .pv (.fn f a b) => callK env E (.fn f) (a.map .pv ++ args.map (Opd.ev r) ++ b.map .pv) h F
    | .fn f a b => callK env E (.fn f) (a ++ args.map (Opd.ev r) ++ b) h F
    | .yield id => callSK E (.yield id) (args.map (Opd.ev r)) h F
    | _ => none
  | o => opK o r h F

def put (r : Regs) : Option Nat → AV → Regs
  | none, _ => r
  | some t, v => upd r t v
def putK (r : Regs) (d : Option Nat) (v : AV) (F : Regs → Option R) : Option R :=
  match d with
  | none => F r
  | some t => F (upd r t v)
/-- A value, written out before it is handed on. -/
def forceK (v : AV) (F : AV → Option R) : Option R :=
  match v with
  | .pv p => match p with
    | .bool b => F (.pv (.bool b))
    | .int k n => F (.pv (.int k n))
    | .str s => F (.pv (.str s))
    | .nilp => F (.pv .nilp)
    | .nilm => F (.pv .nilm)
    | .nilf => F (.pv .nilf)
    | .nili => F (.pv .nili)
    | .sl x n cs => F (.pv (.sl x n cs))
    | .agg cs => F (.pv (.agg cs))
    | .tup vs => F (.pv (.tup vs))
    | .fn f a b => F (.pv (.fn f a b))
    | .iface t v => F (.pv (.iface t v))
  | .ptr id off => F (.ptr id off)
  | .rptr cs off => F (.rptr cs off)
  | .tsl t n cs => F (.tsl t n cs)
  | .zsl t n => F (.zsl t n)
  | .hs es id off n c => F (.hs es id off n c)
  | .map id => F (.map id)
  | .yield id => F (.yield id)
  | .fn f a b => F (.fn f a b)
  | .iface t v => F (.iface t v)
  | .agg cs => F (.agg cs)
  | .tup vs => F (.tup vs)
  | .gs id n => F (.gs id n)
  | .gptr id n off => F (.gptr id n off)
  | .any => F .any
theorem forceK_def (v : AV) (F : AV → Option R) : forceK v F = F v := by
  cases v with
  | pv p => cases p <;> rfl
  | _ => rfl
theorem putK_def (r : Regs) (d : Option Nat) (v : AV) (F : Regs → Option R) : putK r d v F = F (put r d v) := by cases d <;> rfl

/-- Is it carried out? -/
def wantedV (r : Regs) : Option (Nat × Bool) → Bool
  | none => true
  | some (t, w) => match r t with
    | .pv (.bool b) => bif w then b else !b
    | .any => true
    | _ => false
/-- A guard of which nothing is known. -/
def badG (r : Regs) : Option (Nat × Bool) → Bool
  | none => false
  | some (t, _) => match r t with
    | .any => true
    | _ => false
noncomputable def operG (env : Env) (E : Orc) (o : VOper) (r : Regs) (h : Heap) (F : AV → Heap → Option R) : Option R := bif badG r o.guard then none else operK env E o.op r h F

/-- An operation under its guard, and what comes then. -/
noncomputable def guardK (w : Bool) (A : (AV → Heap → Option R) → Option R) (d : Option Nat) (r : Regs) (h : Heap) (k : Regs → Heap → Option R) : Option R :=
  bif w then A (fun v h => forceK v fun v => putK r d v fun r => k r h) else putK r d undefV fun r => k r h

/- Written with the recursor, so that whoever steps through it and the kernel see the same terms. -/
noncomputable def evOps (env : Env) (E : Orc) (l : List VOper) : Regs → Heap → (Regs → Heap → Option R) → Option R :=
  List.rec (motive := fun _ => Regs → Heap → (Regs → Heap → Option R) → Option R) (fun r h k => k r h)
    (fun o _ ih r h k => guardK (wantedV r o.guard) (operG env E o r h) o.dst r h fun r h => ih r h k) l
theorem evOps_nil (env : Env) (E : Orc) (r : Regs) (h : Heap) (k : Regs → Heap → Option R) : evOps env E [] r h k = k r h := rfl
theorem evOps_cons (env : Env) (E : Orc) (o : VOper) (l : List VOper) (r : Regs) (h : Heap) (k : Regs → Heap → Option R) :
    evOps env E (o :: l) r h k = bif wantedV r o.guard then operG env E o r h fun v h => forceK v fun v => putK r o.dst v fun r => evOps env E l r h k else putK r o.dst undefV fun r => evOps env E l r h k := rfl
end

/-- A load that is logged: its pointer, how many cells. -/
def loadOf (o : VOp) (r : Regs) : Option (AV × Option Nat) :=
  match o with
  | .load1 p => some (p.ev r, none)
  | .loadN n p => some (p.ev r, some n)
  | .idleX x => some (x.ev r, none)
  | _ => none

def lfind {α : Type} : List (Nat × α) → Nat → Option α
  | [], _ => none
  | (i, x) :: l, j => bif Nat.beq i j then some x else lfind l j

def hasSnd : List (Nat × Nat) → Nat → Bool
  | [], _ => false
  | (_, j) :: l, i => Nat.beq i j || hasSnd l i

section
variable {R : Type}
noncomputable def guardDK (w : Bool) (A : (AV → Heap → Option R) → Option R) (o : VOper) (i : Nat) (snd : Bool) (r : Regs) (h : Heap) (ls : List (Nat × AV × Option Nat)) (es : List (Nat × Heap × Heap))
    (k : Regs → Heap → List (Nat × AV × Option Nat) → List (Nat × Heap × Heap) → Option R) : Option R :=
  bif w then A (fun v h' => forceK v fun v => putK r o.dst v fun r' => k r' h' (match loadOf o.op r with | some x => (i, x) :: ls | none => ls) (bif snd then (i, h, h') :: es else es))
  else putK r o.dst undefV fun r' => k r' h ls es
noncomputable def evDraw (env : Env) (E : Orc) (pairs : List (Nat × Nat)) (l : List VOper) : Nat → Regs → Heap → List (Nat × AV × Option Nat) → List (Nat × Heap × Heap) →
    (Regs → Heap → List (Nat × AV × Option Nat) → List (Nat × Heap × Heap) → Option R) → Option R :=
  List.rec (motive := fun _ => Nat → Regs → Heap → List (Nat × AV × Option Nat) → List (Nat × Heap × Heap) → (Regs → Heap → List (Nat × AV × Option Nat) → List (Nat × Heap × Heap) → Option R) → Option R)
    (fun _ r h ls es k => k r h ls es)
    (fun o _ ih i r h ls es k => guardDK (wantedV r o.guard) (operG env E o r h) o i (hasSnd pairs i) r h ls es fun r h ls es => ih (i + 1) r h ls es k) l
theorem evDraw_nil (env : Env) (E : Orc) (pairs : List (Nat × Nat)) (i : Nat) (r : Regs) (h : Heap) (ls : List (Nat × AV × Option Nat)) (es : List (Nat × Heap × Heap))
    (k : Regs → Heap → List (Nat × AV × Option Nat) → List (Nat × Heap × Heap) → Option R) : evDraw env E pairs [] i r h ls es k = k r h ls es := rfl
theorem evDraw_cons (env : Env) (E : Orc) (pairs : List (Nat × Nat)) (o : VOper) (l : List VOper) (i : Nat) (r : Regs) (h : Heap) (ls : List (Nat × AV × Option Nat)) (es : List (Nat × Heap × Heap))
    (k : Regs → Heap → List (Nat × AV × Option Nat) → List (Nat × Heap × Heap) → Option R) : evDraw env E pairs (o :: l) i r h ls es k =
    bif wantedV r o.guard then
      operG env E o r h fun v h' => forceK v fun v => putK r o.dst v fun r' =>
        evDraw env E pairs l (i + 1) r' h' (match loadOf o.op r with | some x => (i, x) :: ls | none => ls) (bif hasSnd pairs i then (i, h, h') :: es else es) k
    else putK r o.dst undefV fun r' => evDraw env E pairs l (i + 1) r' h ls es k := rfl

noncomputable def checkPairs (ls : List (Nat × AV × Option Nat)) (es : List (Nat × Heap × Heap)) : List (Nat × Nat) → Option R → Option R
  | [], x => x
  | (i, j) :: l, x => match lfind ls i, lfind es j with
    | some (p, n), some (hb, ha) => match p with
      | .ptr id off => sameK (readObj (hget hb id) off n) (readObj (hget ha id) off n) (checkPairs ls es l x)
      | .rptr .. => checkPairs ls es l x
      | .gptr id m off => sameK (readG (hget hb id) m off n) (readG (hget ha id) m off n) (checkPairs ls es l x)
      | _ => none
    | _, _ => checkPairs ls es l x

/-- What was told ahead of operands is so. -/
noncomputable def checkBox (ls : List (Nat × AV × Option Nat)) : List (Nat × PV) → Option R → Option R
  | [], x => x
  | (i, p) :: l, x => match lfind ls i with
    | some (v, _) => sameK (some v) (some (.pv p)) (checkBox ls l x)
    | none => none
/-- What a block that is made ahead is: one that a pointer names, or a slice's (its cells each, how many). -/
abbrev HSh := Option (Nat × Nat)
def hval (s : HSh) (id : Nat) : AV := match s with
  | none => .ptr id 0
  | some (es, n) => .hs es id 0 n n
/-- What the blocks hold that are made ahead. -/
noncomputable def conts (env : Env) (E : Orc) : List (Nat × AlS) → Regs → Heap → (List (Nat × HSh × List PV) → List (Nat × PV) → Option R) → Option R
  | [], _, _, k => k [] []
  | (t, .z z) :: l, r, h, k => conts env E l r h fun a zs => k ((t, none, z) :: a) zs
  | (t, .x i pre v) :: l, r, h, k => evOps env E pre r h fun r' _ => match v.ev r' with
    | .pv p => match cellsP p with
      | some c => conts env E l r h fun a zs => k ((t, none, c) :: a) ((i, p) :: zs)
      | none => none
    | _ => none
  | (t, .m i pre es z v) :: l, r, h, k => evOps env E pre r h fun r' _ => match v.ev r' with
    | .pv (.int kd n) => needK (decide (0 ≤ n) && decide (n ≤ 1099511627776)) (eqK (zerosOf z n.toNat) fun c => conts env E l r h fun a zs => k ((t, some (es, n.toNat), c) :: a) ((i, .int kd n) :: zs))
    | _ => none
noncomputable def hoist : List (Nat × HSh × List PV) → Regs → Heap → (Regs → Heap → Option R) → Option R
  | [], r, h, k => k r h
  | (t, s, z) :: l, r, h, k => hoist l (upd r t (hval s h.length)) (h ++ [.pcells z]) k
end

/-! ### a region all of whose orders end alike -/
def readyN (deps : List (List Nat)) (n : Nat) (S : Nat → Bool) : List Nat := (List.range n).filter fun i => !S i && ((lget deps i).getD []).all S
/-- One operation, by itself. -/
noncomputable def stepO (env : Env) (E : Orc) (o : VOper) (r : Regs) (h : Heap) : Option (Regs × Heap) := guardK (wantedV r o.guard) (operG env E o r h) o.dst r h fun r h => some (r, h)
/-- Whatever order is taken, it ends so. -/
def AllEnd (env : Env) (E : Orc) (l : List VOper) (deps : List (List Nat)) (p : Regs × Heap) : Nat → (Nat → Bool) → Regs → Heap → Prop
  | 0, S, r, h => readyN deps l.length S = [] ∧ (r, h) = p
  | m + 1, S, r, h => (readyN deps l.length S = [] → (r, h) = p) ∧ ∀ i ∈ readyN deps l.length S, ∃ o r' h', l[i]? = some o ∧ stepO env E o r h = some (r', h') ∧ AllEnd env E l deps p m (fun j => S j || Nat.beq j i) r' h'
open Classical in
noncomputable def endsN (env : Env) (E : Orc) (l : List VOper) (deps : List (List Nat)) (r : Regs) (h : Heap) : Option (Regs × Heap) :=
  if x : ∃ p, AllEnd env E l deps p l.length (fun _ => false) r h then some x.choose else none
theorem AllEnd.unique {env : Env} {E : Orc} {l : List VOper} {deps : List (List Nat)} {p q : Regs × Heap} : ∀ {m : Nat} {S : Nat → Bool} {r : Regs} {h : Heap}, AllEnd env E l deps p m S r h → AllEnd env E l deps q m S r h → p = q := by
  intro m
  induction m with
  | zero => intro S r h h1 h2; exact h1.2.symm.trans h2.2
  | succ m ih =>
    intro S r h h1 h2
    cases hr : readyN deps l.length S with
    | nil => exact (h1.1 hr).symm.trans (h2.1 hr)
    | cons i is =>
      obtain ⟨o, r1, g1, a1, a2, a3⟩ := h1.2 i (by rw [hr]; simp)
      obtain ⟨o', r2, g2, b1, b2, b3⟩ := h2.2 i (by rw [hr]; simp)
      rw [a1] at b1; injection b1 with b1; subst b1
      rw [a2] at b2; injection b2 with b2; injection b2 with e1 e2; subst e1; subst e2
      exact ih a3 b3
theorem endsN_intro {env : Env} {E : Orc} {l : List VOper} {deps : List (List Nat)} {r : Regs} {h : Heap} {p : Regs × Heap} (x : AllEnd env E l deps p l.length (fun _ => false) r h) : endsN env E l deps r h = some p := by
  unfold endsN
  rw [dif_pos ⟨p, x⟩]
  exact congrArg some ((Exists.choose_spec (⟨p, x⟩ : ∃ p, AllEnd env E l deps p l.length (fun _ => false) r h)).unique x)
theorem endsN_some {env : Env} {E : Orc} {l : List VOper} {deps : List (List Nat)} {r : Regs} {h : Heap} {p : Regs × Heap} (x : endsN env E l deps r h = some p) : AllEnd env E l deps p l.length (fun _ => false) r h := by
  unfold endsN at x
  split at x
  · rename_i hx
    injection x with x
    rw [← x]; exact hx.choose_spec
  · cases x

/-! ### loops and the least oracle -/
open Classical in
noncomputable def lim {α : Type} (f : Nat → Option α) : Option α := if h : ∃ x n, f n = some x then some h.choose else none

theorem lim_eq {α : Type} {f : Nat → Option α} (mono : ∀ n x, f n = some x → f (n + 1) = some x) {n : Nat} {x : α} (h : f n = some x) : lim f = some x := by
  have up : ∀ k m y, f m = some y → f (m + k) = some y := by
    intro k; induction k with
    | zero => intro m y h; exact h
    | succ k ih => intro m y h; exact mono _ _ (ih m y h)
  have hx : ∃ x n, f n = some x := ⟨x, n, h⟩
  unfold lim
  rw [dif_pos hx]
  obtain ⟨m, hm⟩ := hx.choose_spec
  have h1 := up m n x h
  have h2 := up n m _ hm
  rw [Nat.add_comm m n] at h2
  rw [← h2, h1]

theorem lim_some {α : Type} {f : Nat → Option α} {x : α} (h : lim f = some x) : ∃ n, f n = some x := by
  unfold lim at h
  split at h
  · rename_i hx
    obtain ⟨n, hn⟩ := hx.choose_spec
    exact ⟨n, by rw [hn]; exact h⟩
  · cases h

abbrev Res := Ex × Regs × Heap

def iterN : Nat → (Regs → Heap → Option Res) → Regs → Heap → Option Res
  | 0, _, _, _ => none
  | n + 1, b, r, h => (b r h).bind fun x => match x with
    | (.normal, r', h') => iterN n b r' h'
    | x => some x

noncomputable def iterE (b : Regs → Heap → Option Res) (r : Regs) (h : Heap) : Option Res := lim fun n => iterN n b r h

section
variable {R : Type}
@[irreducible] noncomputable def loopK (b : Regs → Heap → Option Res) (r : Regs) (h : Heap) (F : Ex → Regs → Heap → Option R) : Option R := (hold (iterE b r h)).bind fun x => F x.1 x.2.1 x.2.2
theorem loopK_def (b : Regs → Heap → Option Res) (r : Regs) (h : Heap) (F : Ex → Regs → Heap → Option R) : loopK b r h F = (iterE b r h).bind fun x => F x.1 x.2.1 x.2.2 := by unfold loopK; rw [hold_eq]
end

/-! ### a loop over a map, in whatever order -/
def oldM (since : Nat) (seen : List Nat) (es : List (Nat × PV × PV)) : List (Nat × PV × PV) := (es.filter fun e => !seen.contains e.1).filter fun e => Nat.blt e.1 since
def newM (since : Nat) (seen : List Nat) (es : List (Nat × PV × PV)) : List (Nat × PV × PV) := (es.filter fun e => !seen.contains e.1).filter fun e => Nat.ble since e.1
/-- Where the next step may lead. -/
def stepM (it nx : Nat) (r : Regs) (h : Heap) : Option (List (Regs × Heap)) :=
  match r it with
  | .ptr id off => bif Nat.beq off 0 then match hget h id with
      | .iter m since seen last => match m with
        | none => some [(upd r nx (.pv (.tup [.bool false])), h)]
        | some m => match hget h m with
          | .map clk es => bif !seen.isEmpty && !es.isEmpty && es.all (fun e => Nat.ble last e.1) then none else
              some ((bif (oldM since seen es).isEmpty then [(upd r nx (.pv (.tup [.bool false])), h)] else []) ++
                (oldM since seen es ++ newM since seen es).map fun e => (upd r nx (.pv (.tup [.bool true, e.2.1, e.2.2])), hset h id (.iter (some m) since (seen ++ [e.1]) clk)))
          | _ => none
      | _ => none
    else none
  | _ => none
def gatherM : List (Regs × Heap) → (Regs → Heap → Option (List Res)) → Option (List Res)
  | [], _ => some []
  | p :: l, f => (f p.1 p.2).bind fun a => (gatherM l f).bind fun b => some (a ++ b)
/-- All its ends. -/
def runM (b : Regs → Heap → Option Res) (it nx : Nat) : Nat → Regs → Heap → Option (List Res)
  | 0, _, _ => none
  | n + 1, r, h => (stepM it nx r h).bind fun l => gatherM l fun r h => (b r h).bind fun x => match x with
    | (.normal, r', h') => runM b it nx n r' h'
    | x => some [x]
open Classical in
/-- What is the same at all ends. -/
noncomputable def meetL (n0 id0 : Nat) : List Res → Option Res
  | [] => none
  | x :: xs => if (∀ y ∈ xs, y.1 = x.1) ∧ ∀ id, id < n0 → id ≠ id0 → ∀ y ∈ xs, hget y.2.2 id = hget x.2.2 id then
      some (x.1, fun t => if ∀ y ∈ xs, y.2.1 t = x.2.1 t then x.2.1 t else .any,
        (List.range ((x :: xs).foldl (fun n y => max n y.2.2.length) 0)).map fun id => if id ≠ id0 ∧ ∀ y ∈ xs, hget y.2.2 id = hget x.2.2 id then hget x.2.2 id else .dead)
    else none
noncomputable def endsM (b : Regs → Heap → Option Res) (it nx : Nat) (r : Regs) (h : Heap) : Option Res :=
  match r it with
  | .ptr id _ => (lim fun n => runM b it nx n r h).bind (meetL h.length id)
  | _ => none
section
variable {R : Type}
@[irreducible] noncomputable def loopMK (b : Regs → Heap → Option Res) (it nx : Nat) (r : Regs) (h : Heap) (F : Ex → Regs → Heap → Option R) : Option R := (hold (endsM b it nx r h)).bind fun x => F x.1 x.2.1 x.2.2
theorem loopMK_def (b : Regs → Heap → Option Res) (it nx : Nat) (r : Regs) (h : Heap) (F : Ex → Regs → Heap → Option R) : loopMK b it nx r h F = (endsM b it nx r h).bind fun x => F x.1 x.2.1 x.2.2 := by unfold loopMK; rw [hold_eq]
end

/-- What comes behind a part of a sequence, behind a block; the two ways on. -/
noncomputable def seqK {R : Type} (B : Regs → Heap → (Ex → Regs → Heap → Option R) → Option R) (k : Ex → Regs → Heap → Option R) (e : Ex) (r : Regs) (h : Heap) : Option R :=
  match e with
  | .normal => B r h k
  | e => k e r h
noncomputable def blockK {R : Type} (id : Nat) (k : Ex → Regs → Heap → Option R) (e : Ex) (r : Regs) (h : Heap) : Option R :=
  match e with
  | .exit j => bif Nat.beq j id then k .normal r h else k (.exit j) r h
  | e => k e r h
noncomputable def branchK {R : Type} (c : AV) (A B : Regs → Heap → (Ex → Regs → Heap → Option R) → Option R) (r : Regs) (h : Heap) (k : Ex → Regs → Heap → Option R) : Option R :=
  match c with
  | .pv (.bool c) => bif c then A r h k else B r h k
  | _ => none
def doneK (e : Ex) (r : Regs) (h : Heap) : Option Res := some (e, r, h)
noncomputable def rangeK {R : Type} (E : Orc) (f : AV) (ps : List Nat) (asg bo : VCode) (r : Regs) (h : Heap) (k : Ex → Regs → Heap → Option R) : Option R :=
  let go (g : FuncId) (a b : List AV) := callSK E (.fn g) (a ++ .yield h.length :: b) (h ++ [.loop ⟨.ready, r, ps, asg, bo⟩]) fun _ h2 =>
    hgetK h2 h.length fun o => match o with
    | .loop lo => match lo.state with
      | .ready => k .normal r (hset h2 h.length .dead)
      | .done e => k e r (hset h2 h.length .dead)
      | .busy => none
    | _ => none
  match f with
  | .pv (.fn g a b) => go g (a.map .pv) (b.map .pv)
  | .fn g a b => go g a b
  | _ => none

/-- Code. Written with the recursor, too. -/
noncomputable def evK (env : Env) (E : Orc) (c : VCode) : (R : Type) → Regs → Heap → (Ex → Regs → Heap → Option R) → Option R :=
  VCode.rec (motive := fun _ => (R : Type) → Regs → Heap → (Ex → Regs → Heap → Option R) → Option R)
    (fun _ r h k => k .normal r h)
    (fun l _ r h k => evOps env E l r h (k .normal))
    (fun al l pairs _ r h k => conts env E al r h fun al zs => hoist al r h fun r h => evDraw env E pairs l 0 r h [] [] fun r h ls es => checkPairs ls es pairs (checkBox ls zs (k .normal r h)))
    (fun _ _ ia ib R r h k => ia R r h (seqK (ib R) k))
    (fun c _ _ ia ib R r h k => branchK (c.ev r) (ia R) (ib R) r h k)
    (fun id _ ia R r h k => ia R r h (blockK id k))
    (fun _ ia _ r h k => loopK (fun r h => ia Res r h doneK) r h k)
    (fun f ps asg bo _ _ _ r h k => rangeK E (f.ev r) ps asg bo r h k)
    (fun id _ r h k => k (.exit id) r h)
    (fun _ r h k => k .ret r h)
    (fun l deps _ r h k => (endsN env E l deps r h).bind fun p => k .normal p.1 p.2)
    (fun it nx _ ia _ r h k => loopMK (fun r h => ia Res r h doneK) it nx r h k) c
section
variable (env : Env) (E : Orc) (R : Type) (r : Regs) (h : Heap) (k : Ex → Regs → Heap → Option R)
theorem evK_skip : evK env E .skip R r h k = k .normal r h := rfl
theorem evK_ops (l : List VOper) : evK env E (.ops l) R r h k = evOps env E l r h fun r h => k .normal r h := rfl
theorem evK_draw (al : List (Nat × AlS)) (l : List VOper) (pairs : List (Nat × Nat)) : evK env E (.draw al l pairs) R r h k =
    conts env E al r h fun al zs => hoist al r h fun r h => evDraw env E pairs l 0 r h [] [] fun r h ls es => checkPairs ls es pairs (checkBox ls zs (k .normal r h)) := rfl
theorem evK_seq (a b : VCode) : evK env E (.seq a b) R r h k = evK env E a R r h fun e r h => match e with
    | .normal => evK env E b R r h k
    | e => k e r h := rfl
theorem evK_cond (c : Opd) (a b : VCode) : evK env E (.cond c a b) R r h k = match c.ev r with
    | .pv (.bool c) => bif c then evK env E a R r h k else evK env E b R r h k
    | _ => none := rfl
theorem evK_block (id : Nat) (c : VCode) : evK env E (.block id c) R r h k = evK env E c R r h fun e r h => match e with
    | .exit j => bif Nat.beq j id then k .normal r h else k (.exit j) r h
    | e => k e r h := rfl
theorem evK_loop (c : VCode) : evK env E (.loop c) R r h k = loopK (fun r h => evK env E c Res r h fun e r h => some (e, r, h)) r h k := rfl
theorem evK_rangeFunc (f : Opd) (ps : List Nat) (asg bo : VCode) : evK env E (.rangeFunc f ps asg bo) R r h k =
    let go (g : FuncId) (a b : List AV) := callSK E (.fn g) (a ++ .yield h.length :: b) (h ++ [.loop ⟨.ready, r, ps, asg, bo⟩]) fun _ h2 =>
      hgetK h2 h.length fun o => match o with
      | .loop lo => match lo.state with
        | .ready => k .normal r (hset h2 h.length .dead)
        | .done e => k e r (hset h2 h.length .dead)
        | .busy => none
      | _ => none
    match f.ev r with
    | .pv (.fn g a b) => go g (a.map .pv) (b.map .pv)
    | .fn g a b => go g a b
    | _ => none := rfl
theorem evK_exit (id : Nat) : evK env E (.exit id) R r h k = k (.exit id) r h := rfl
theorem evK_ret : evK env E .ret R r h k = k .ret r h := rfl
theorem evK_loopM (it nx : Nat) (c : VCode) : evK env E (.loopM it nx c) R r h k = loopMK (fun r h => evK env E c Res r h fun e r h => some (e, r, h)) it nx r h k := rfl
theorem evK_drawN (l : List VOper) (deps : List (List Nat)) : evK env E (.drawN l deps) R r h k = (endsN env E l deps r h).bind fun p => k .normal p.1 p.2 := rfl
end

noncomputable def finishK {R : Type} : List VResult → Regs → Heap → List AV → (AV → Option R) → Option R
  | [], _, _, acc, F => match acc with
    | [v] => F v
    | l => F (mkTup l.reverse)
  | .tmp t :: l, r, h, acc, F => finishK l r h (r t :: acc) F
  | .cell1 t :: l, r, h, acc, F => load1K (r t) h fun v => finishK l r h (v :: acc) F
  | .cellN n t :: l, r, h, acc, F => loadNK n (r t) h fun v => finishK l r h (v :: acc) F

def updL : Regs → List Nat → List AV → Regs
  | r, t :: ts, v :: vs => updL (upd r t v) ts vs
  | r, _, _ => r

def isNormal : Ex → Bool
  | .normal => true
  | _ => false

/-- A call, its own calls being the oracle's. -/
noncomputable def evTgtK {R : Type} (env : Env) (E : Orc) (t : Tgt) (args : List AV) (h : Heap) (F : AV → Heap → Option R) : Option R :=
  match t with
  | .fn f => match env.ft f with
    | some vf => evK env E vf.code R (initRegs args) h fun e r h => match e with
      | .exit _ => none
      | _ => finishK vf.results r h [] fun v => F v h
    | none => match env.pr f with
      | some g => match allPV args with
        | some ps => bindK (g ps) fun p => F (.pv p) h
        | none => none
      | none => match env.prH f with
        | some p => bindK (primK p E args h) fun p => F p.1 p.2
        | none => none
  | .yield id => hgetK h id fun o => match o with
    | .loop lo => match lo.state with
      | .ready => bif Nat.beq args.length lo.params.length then
          evK env E lo.assign R (updL lo.regs lo.params args) h fun e r h1 => match e with
            | .normal => hgetK h1 id fun o => match o with
              | .loop lo1 => match lo1.state with
                | .ready => evK env E lo.body R r (hset h1 id (.loop { lo1 with state := .busy })) fun e _ h2 => hgetK h2 id fun o => match o with
                  | .loop lo2 => match lo2.state with
                    | .busy => F (.pv (.bool (isNormal e))) (hset h2 id (.loop { lo2 with state := match e with | .normal => .ready | e => .done e }))
                    | _ => none
                  | _ => none
                | _ => none
              | _ => none
            | _ => none
        else none
      | _ => none
    | _ => none

noncomputable def evN (env : Env) : Nat → Orc
  | 0 => fun _ _ _ => none
  | n + 1 => fun t args h => evTgtK env (evN env n) t args h fun v h => some (v, h)

/-- The least oracle. -/
noncomputable def EE (env : Env) : Orc := fun t args h => lim fun n => evN env n t args h

end Go.VM
