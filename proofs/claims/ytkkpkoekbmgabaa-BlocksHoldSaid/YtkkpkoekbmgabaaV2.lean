/-
  Part 2 of an abstract machine that answers as the model does.
  From the model's code to the abstract machine's.
  What the abstract machine's values and heap say of a world.
  How a world may turn under the abstract machine's heap: nothing of it, one object, a new one.
  Operations: what the abstract machine does is what the model does.
-/
import Derived.Test.YtkkpkoekbmgabaaV1
import Derived.Laws.AppendOwn
import Derived.Laws.Entries
import Derived.ChangeKeysEq
import Derived.Laws.CopyRow
set_option linter.all false
set_option linter.unusedVariables false
set_option linter.unusedSimpArgs false
set_option linter.unusedSectionVars false
namespace Go.VM
open Go

def scalarPV : Value → Option PV
  | .bool b => some (.bool b)
  | .int k n => some (.int k n)
  | .string s => some (.str s)
  | .pointer none => some .nilp
  | .map none => some .nilm
  | .nilFunc => some .nilf
  | .nilIface => some .nili
  | .slice none 0 0 => some (.sl .nil 0 [])
  | _ => none
def scalarsPV : List Value → Option (List PV)
  | [] => some []
  | v :: l => match scalarPV v, scalarsPV l with | some p, some ps => some (p :: ps) | _, _ => none
def constPV : Value → Option PV
  | .agg cs => (scalarsPV cs.toList).map .agg
  | .tuple vs => match vs.toList with | [] => some (.tup []) | _ => none
  | v => scalarPV v

def compOpd : Operand → Option Opd
  | .tmp t => some (.t t)
  | .const v => (constPV v).map .c
  | .func f => some (.f f)
  | .global _ => none
def compOpds : List Operand → Option (List Opd)
  | [] => some []
  | x :: l => match compOpd x, compOpds l with | some a, some b => some (a :: b) | _, _ => none
def compOpt : Option Operand → Option (Option Opd)
  | none => some none
  | some x => (compOpd x).map some

section
variable (P : Program)
def aggT (t : TypeId) : Option Bool := match P.underlying t with | some (.struct _) | some (.array _ _) => some true | some _ => some false | none => none
/-- The size of a type that is known, with its zero value's cells. -/
def zeroT (t : TypeId) : Option (List PV) := match P.info? t with
  | some i => match i.zero with
    | some z => match scalarsPV z.cells.toList with
      | some ps => bif Nat.beq ps.length i.size then some ps else none
      | none => none
    | none => none
  | none => none
def sizeT (t : TypeId) : Option Nat := (P.info? t).map (·.size)

/-- A type whose values' equality is that of their cells, one by one: whole numbers, bools, strings, arrays and structs of them: what its cells are. -/
def shapeFs (g : TypeId → Option (List SK)) : List Field → Nat → Option (List SK)
  | [], _ => some []
  | f :: fs, off => match g f.type, aggT P f.type, shapeFs g fs (off + (sizeT P f.type).getD 0) with
    | some s, some _, some r => bif f.name != "_" && Nat.beq f.offset off && (sizeT P f.type == some s.length) then some (s ++ r) else none
    | _, _, _ => none
def shapeT : Nat → TypeId → Option (List SK)
  | 0, _ => none
  | d + 1, t => match P.underlying t with
    | some .bool => some [.b]
    | some (.int _) => some [.i]
    | some .string => some [.s]
    | some (.struct fs) => bif P.stoodInHeld t then none else shapeFs P (shapeT d) fs.toList 0
    | some (.array n e) => match shapeT d e, aggT P e with
      | some s, some _ => bif sizeT P e == some s.length then some (List.replicate n s).flatten else none
      | _, _ => none
    | _ => none

def compParts (place : Nat → Option (Nat × Nat)) (most : Nat) : List (Nat × Operand) → Option (List (Nat × Nat × Opd))
  | [] => some []
  | (i, x) :: l => match place i, compOpd x, compParts place most l with
    | some (off, n), some y, some r => bif Nat.ble (off + n) most then some ((off, n, y) :: r) else none
    | _, _, _ => none

def structPlace (fs : List Field) (i : Nat) : Option (Nat × Nat) := match fs[i]? with
  | some f => (sizeT P f.type).map fun n => (f.offset, n)
  | none => none

/-- A type of one cell: whole numbers, strings, bools. -/
def basicT (t : TypeId) : Bool := match P.underlying t with
  | some (.int _) | some .string | some .bool => true
  | _ => false
/-- A map's keys. -/
def keyT (t : TypeId) : Option KT := match P.underlying t with
  | some (.int _) => some (.one .i)
  | some .string => some (.one .s)
  | some .bool => some (.one .b)
  | some (.struct fs) => match shapeT P 20 t with
    | some sh => bif fs.toList.all (fun f => basicT P f.type && Nat.blt f.offset sh.length) then some (.agg sh) else none
    | none => none
  | some (.array n e) => match shapeT P 20 t with
    | some sh => bif basicT P e && sizeT P e == some 1 && Nat.ble n sh.length then some (.agg sh) else none
    | none => none
  | _ => none
/-- A string type, or a slice type. -/
def strT : TypeDesc → Option Bool
  | .string => some true
  | .slice _ => some false
  | _ => none

def compBuiltin (mu g : Bool) (b : Builtin) (xs : List Opd) (ts : List TypeId) : Option VOp :=
  match b, xs, ts with
  | .len, [x], [t] => match P.underlying t with
    | some .string => some (.lenStr x)
    | some (.slice _) => some (.lenS x)
    | some (.array n _) => some (.mov (.c (.int .i64 n)))
    | some (.map _ _) => some (.lenM x)
    | some (.pointer a) => match P.underlying a with | some (.array n _) => some (.mov (.c (.int .i64 n))) | _ => none
    | _ => none
  | .append, [s, x], [t, u] => match P.underlying t, P.underlying u with
    | some (.slice e), some (.int _) => match P.info? e, zeroT P e with
      | some i, some z => bif Nat.blt 0 i.bytes && (Nat.blt 0 i.size && Nat.ble i.bytes 256) then some (.appendZ mu i.size i.bytes z s x) else none
      | _, _ => none
    | some (.slice e), some d => match P.info? e, zeroT P e, strT d with
      | some i, some _, some b => bif Nat.blt 0 i.bytes && (!b || Nat.beq i.size 1) then (bif g && !b then some (.appB i.size i.bytes s x) else some (.append mu b i.size i.bytes s x)) else none
      | _, _, _ => none
    | _, _ => none
  | .cap, [x], [t] => match P.underlying t with
    | some (.slice _) => some (.capS x)
    | _ => none
  | .copy, [d, s], [t, u] => match P.underlying t, P.underlying u with
    | some (.slice e), some d' => match sizeT P e, strT d' with
      | some n, some b => bif !b || Nat.beq n 1 then some (.copy b n d s) else none
      | _, _ => none
    | _, _ => none
  | .delete, [m, k], t :: _ => match P.underlying t with
    | some (.map kt _) => (keyT P kt).map fun kk => .delM kk m k
    | _ => none
  | .min, l, _ => match l with | _ :: _ => some (.minmax false l) | [] => none
  | .max, l, _ => match l with | _ :: _ => some (.minmax true l) | [] => none
  | _, _, _ => none

/-- How an operation's slice is made, and how its call is. -/
structure Mu where
  w : Bool
  md : FuncId → Mode
  g : Bool

def zeroPV (t : TypeId) : Option PV := match P.info? t with
  | some i => match i.zero with
    | some z => constPV z
    | none => none
  | none => none
def compUpd (t : TypeId) (m k v : Operand) : Option VOp := match compOpd m, compOpd k, compOpd v, P.underlying t with
  | some a, some b, some c, some (.map kt _) => (keyT P kt).map fun kk => .updM kk a b c
  | _, _, _, _ => none

def compOp (mu : Mu) (o : Op) : Option VOp :=
  match o with
  | .move x | .assign x => bif mu.w then (compOpd x).map .settle else (compOpd x).map .mov
  | .pick c a b => match compOpd c, compOpd a, compOpd b with | some c, some a, some b => some (.pick c a b) | _, _, _ => none
  | .alloc t => (zeroT P t).map .alloc
  | .box _ x => (compOpd x).map .box
  | .build t parts => match zeroT P t, P.underlying t with
    | some z, some (.struct fs) => bif fs.toList.all (fun f => (sizeT P f.type).isSome) then (compParts (structPlace P fs.toList) z.length parts.toList).map (.build z) else none
    | some z, some (.array _ e) => match sizeT P e with
      | some n => (compParts (fun i => some (i * n, n)) z.length parts.toList).map (.build z)
      | none => none
    | _, _ => none
  | .buildSlice t len parts => match P.underlying t with
    | some (.slice e) => match zeroT P e, sizeT P e with
      | some z, some n => bif Nat.ble (len * n) 16777216 && Nat.blt 0 n then (compParts (fun i => some (i * n, n)) (len * n) parts.toList).map (fun ps => bif mu.g then .buildG n len (zerosOf z len) ps else .buildSlice mu.w n len (zerosOf z len) ps) else none
      | _, _ => none
    | _ => none
  | .load t a => match compOpd a, sizeT P t, aggT P t with
    | some a, some n, some g => some (bif g then .loadN n a else .load1 a)
    | _, _, _ => none
  | .store t a v => match compOpd a, compOpd v, sizeT P t with
    | some a, some v, some n => match aggT P t with | some g => bif g then some (.storeN n a v) else bif Nat.beq n 1 then some (.store1 a v) else none | none => none
    | _, _, _ => none
  | .nilCheck x => (compOpd x).map .nilCheck
  | .binOp op t x y _ => match compOpd x, compOpd y with
    | some a, some b => match P.underlying t with
      | some (.struct _) | some (.array _ _) => match shapeT P 20 t with
        | some sh => bif P.eqGuardType P.depth t then none else some (.bin (.agg sh) op a b)
        | none => none
      | some (.int _) | some .string => some (.bin .num op a b)
      | some .bool => some (.bin .bool op a b)
      | some (.pointer e) => match P.info? e with | some _ => some (.bin .ptr op a b) | none => none
      | some (.slice _) => some (.bin .sl op a b)
      | some (.map _ _) => some (.bin .map op a b)
      | some (.func _ _ _) => some (.bin .fn op a b)
      | _ => none
    | _, _ => none
  | .unOp op _ x => (compOpd x).map (.un op)
  | .convert s d x => match compOpd x, P.underlying s, P.underlying d with
    | some a, some (.int _), some (.int k) => some (.conv k a)
    | some a, some .string, some .string => some (.ident a)
    | some a, some (.slice e), some .string => match P.underlying e with | some (.int .u8) => bif mu.w then some (.strOf a) else some (.strOfP a) | _ => none
    | some a, some .string, some (.slice e) => match P.underlying e with | some (.int .u8) => some (.bytesOf a) | _ => none
    | some a, some (.slice _), some (.slice e) => match P.underlying e with | some (.int .u8) => bif Nat.beq s d then some (.freeze a) else none | _ => none
    | _, _, _ => none
  | .sliceToArrayPointer t x => match compOpd x, P.underlying t with | some a, some (.array n _) => some (.toArr n a) | _, _ => none
  | .makeFunc (.func f) a b => match compOpds a.toList, compOpds b.toList with | some a, some b => some (.mkFn f a b) | _, _ => none
  | .makeSlice t l c => match P.underlying t, compOpd l, compOpd c with
    | some (.slice e), some l, some c => match zeroT P e, P.info? e with
      | some z, some i => bif Nat.blt 0 i.size && Nat.ble i.bytes 256 then some (.mkSlice mu.w i.size z l c) else none
      | _, _ => none
    | _, _, _ => none
  | .slice t x lo hi mx => match compOpd x, compOpt lo, compOpt hi, compOpt mx with
    | some a, some lo, some hi, some mx => match P.underlying t with
      | some .string => match mx with | none => some (.sliceStr a lo hi) | _ => none
      | some (.slice e) => match sizeT P e with | some n => some (.sliceS n a lo hi mx) | none => none
      | some (.array len e) => match mx, sizeT P e with | none, some n => some (.sliceA len n a lo hi) | _, _ => none
      | _ => none
    | _, _, _, _ => none
  | .fieldAddr t x i => match compOpd x, P.underlying t with
    | some a, some (.struct fs) => match fs.toList[i]? with
      | some f => match sizeT P f.type with | some n => bif Nat.beq n 0 then none else some (.fieldAddr f.offset a) | none => none
      | none => none
    | _, _ => none
  | .field t x i => match compOpd x, P.underlying t with
    | some a, some (.struct fs) => match fs.toList[i]? with
      | some f => match sizeT P f.type, aggT P f.type with
        | some n, some g => some (bif g then .fieldN f.offset n a else .field1 f.offset a)
        | _, _ => none
      | none => none
    | _, _ => none
  | .indexAddr t x i => match compOpd x, compOpd i, P.underlying t with
    | some a, some b, some (.array len e) => (sizeT P e).map fun n => .idxAddrA len n a b
    | some a, some b, some (.slice e) => (sizeT P e).map fun n => .idxAddrS n a b
    | _, _, _ => none
  | .index t x i => match compOpd x, compOpd i, P.underlying t with
    | some a, some b, some (.array len e) => match sizeT P e with
      | some n => match aggT P e with
        | some g => bif g then some (.idxAN len n a b) else bif Nat.beq n 1 then some (.idxA1 len a b) else none
        | none => none
      | none => none
    | some a, some b, some .string => some (.idxStr a b)
    | _, _, _ => none
  | .extract x i => (compOpd x).map (.extract i)
  | .call c => match compOpds c.args.toList with
    | some xs => match c.callee with
      | .value (.func f) => match P.funcs[f]? with
        | some fn => bif fn.body.isSome && fn.name != "runtime.NumGoroutine" then some (.call (bif mu.w then .thaw else mu.md f) f xs) else none
        | none => none
      | .value f => (compOpd f).map fun f => .callV f xs
      | .builtin b => compBuiltin P mu.w mu.g b xs c.argTypes.toList
      | _ => none
    | none => none
  | .makeMap t r => match r, P.underlying t with | none, some (.map _ _) => some .mkMap | _, _ => none
  | .lookup t x k ok => match compOpd x, compOpd k, P.underlying t with
    | some a, some b, some (.map kt et) => match keyT P kt, zeroPV P et with
      | some kk, some z => some (.lookM ok kk z a b)
      | _, _ => none
    | _, _, _ => none
  | .range t x => match compOpd x, P.underlying t with | some a, some (.map _ _) => some (.rangeM a) | _, _ => none
  | .entry x => (compOpd x).map .entryM
  | .next x s => bif s then none else (compOpd x).map .nextM
  | .mapUpdate t m k v => compUpd P t m k v
  | .insert t m k v => compUpd P t m k v
  | _ => none

/-- What an operation does to the machine's heap: nothing, and it does not look; it reads; anything. -/
inductive Cls where
  | none | rd | ef
def clsOf (md : FuncId → Mode) : VOp → Cls
  | .load1 _ | .loadN _ _ => .rd
  | .alloc _ | .box _ | .store1 .. | .storeN .. | .strOf _ | .freeze _ | .settle _ | .append .. | .appendZ .. | .mkMap | .lookM .. | .updM .. | .delM .. | .lenM _ | .rangeM _ | .entryM _ | .nextM _ | .appB .. | .copy .. | .callV .. | .boxH _ | .mkSliceH .. | .buildG .. | .bad => .ef
  | .mkSlice mu _ _ _ _ | .buildSlice mu _ _ _ _ => bif mu then .ef else .none
  | .call m _ _ => match m with | .pure => .none | _ => .ef
  | _ => .none

def Opd.tmps : Opd → List Nat
  | .t n => [n]
  | _ => []
def optTmps : Option Opd → List Nat
  | some x => x.tmps
  | none => []
/-- The temporaries that an operation looks at. -/
def VOp.tmps : VOp → List Nat
  | .mov x | .box x | .load1 x | .loadN _ x | .nilCheck x | .un _ x | .conv _ x | .ident x | .strOf x | .strOfP x | .bytesOf x | .freeze x | .settle x | .fieldAddr _ x | .field1 _ x | .fieldN _ _ x | .toArr _ x | .extract _ x | .lenS x | .lenStr x | .capS x | .lenM x | .rangeM x | .entryM x | .nextM x => x.tmps
  | .pick c a b | .updM _ c a b => c.tmps ++ a.tmps ++ b.tmps
  | .idleX x | .boxH x | .mkSliceH _ _ x => x.tmps
  | .alloc _ | .mkMap | .idle | .bad => []
  | .build _ ps | .buildSlice _ _ _ _ ps | .buildG _ _ _ ps => (ps.map fun (_, _, x) => x.tmps).flatten
  | .store1 x y | .storeN _ x y | .bin _ _ x y | .idxAddrA _ _ x y | .idxAddrS _ x y | .idxA1 _ x y | .idxAN _ _ x y | .idxStr x y | .mkSlice _ _ _ x y | .append _ _ _ _ x y | .appendZ _ _ _ _ x y | .lookM _ _ _ x y | .delM _ x y | .appB _ _ x y | .copy _ _ x y => x.tmps ++ y.tmps
  | .sliceStr x lo hi | .sliceA _ _ x lo hi => x.tmps ++ optTmps lo ++ optTmps hi
  | .sliceS _ x lo hi mx => x.tmps ++ optTmps lo ++ optTmps hi ++ optTmps mx
  | .mkFn _ a b => (a.map Opd.tmps).flatten ++ (b.map Opd.tmps).flatten
  | .minmax _ xs | .call _ _ xs => (xs.map Opd.tmps).flatten
  | .callV f xs => f.tmps ++ (xs.map Opd.tmps).flatten

def guardOf (ops : List Oper) (o : Oper) : Option (Option (Nat × Bool)) :=
  match o.guard with
  | none => some none
  | some (j, w) => match ops[j]? with
    | some p => match p.dst with | some t => some (some (t, w)) | none => none
    | none => none

def okDst (n : Nat) : Option Tmp → Bool
  | none => true
  | some t => Nat.blt t n

def compOpers (mu : Nat → Mu) (n : Nat) (all : List Oper) : List Oper → List VOper
  | [] => []
  | o :: l => (match guardOf all o, okDst n o.dst, compOp P (mu (o.dst.getD 0)) o.op with
    | some g, true, some v => ⟨o.dst, g, v⟩
    | _, _, _ => ⟨none, none, .bad⟩) :: compOpers mu n all l

/-! ### a region that draws its order -/
def depsOf (o : Oper) : List Nat := (o.after.toList.filter (Region.binds .any)).map (·.on)
def memN : List Nat → Nat → Bool
  | [], _ => false
  | a :: l, x => Nat.beq a x || memN l x
def memP : List (Nat × Nat) → Nat → Nat → Bool
  | [], _, _ => false
  | (a, b) :: l, x, y => (Nat.beq a x && Nat.beq b y) || memP l x y
def addN (l : List Nat) : List Nat → List Nat
  | [] => l
  | a :: m => bif memN l a then addN l m else addN (a :: l) m
def nth (l : List (List Nat)) (i : Nat) : List Nat := (lget l i).getD []
/-- What must come before each, by way of others too. -/
def predsOf : List (List Nat) → List (List Nat) → List (List Nat)
  | [], acc => acc
  | d :: l, acc => predsOf l (acc ++ [addN d (d.map (nth acc)).flatten])
def VOper.names (v : VOper) : List Nat :=
  (match v.dst with | some t => [t] | none => []) ++ (match v.guard with | some (t, _) => [t] | none => []) ++ v.op.tmps
/-- What a block that is made whatever comes holds. -/
inductive AlK where
  | z (l : List PV)
  | x (x : Opd)
  | m (es : Nat) (z : List PV) (x : Opd)
/-- A block that is made whatever comes. -/
def isAl (v : VOper) : Option (Nat × AlK) := match v.dst, v.guard, v.op with
  | some t, none, .alloc z => some (t, .z z)
  | some t, none, .boxH x => bif memN x.tmps t then none else some (t, .x x)
  | some t, none, .mkSliceH es z x => bif memN x.tmps t then none else some (t, .m es z x)
  | _, _, _ => none
/-- A box, made ahead. -/
def hboxed (v : VOper) : VOper := match v.dst, v.guard, v.op with
  | some t, none, .box x => bif memN x.tmps t then v else ⟨some t, none, .boxH x⟩
  | _, _, _ => v
/-- A slice, made ahead. -/
def hmade (v : VOper) : VOper := match v.dst, v.guard, v.op with
  | some t, none, .mkSlice mu es z (.t a) (.t b) => bif mu && Nat.beq a b && !Nat.beq a t then ⟨some t, none, .mkSliceH es z (.t a)⟩ else v
  | _, _, _ => v
/-- Boxes made ahead, or not; slices, or not. -/
def hb (bx ms : Bool) (v : VOper) : VOper := bif ms then hmade (bif bx then hboxed v else v) else bif bx then hboxed v else v
def isEf (md : FuncId → Mode) (v : VOper) : Bool := match isAl v with
  | some _ => false
  | none => match clsOf md v.op with | .ef => true | _ => false
def isRd (md : FuncId → Mode) (v : VOper) : Bool := match clsOf md v.op with | .rd => true | _ => false
def idled (v : VOper) : VOper := match isAl v with | some (_, .z _) => ⟨none, none, .idle⟩ | some (_, .x x) => ⟨none, none, .idleX x⟩ | some (_, .m _ _ x) => ⟨none, none, .idleX x⟩ | none => v
/-- What computes temporaries: ops (the last one first). -/
def preOf : List VOper → List Nat → List VOper → List VOper
  | [], _, acc => acc
  | o :: l, need, acc => match o.dst with
    | some t => bif memN need t then preOf l (o.names ++ need) (o :: acc) else preOf l need acc
    | none => preOf l need acc
/-- The blocks that are made ahead. -/
def mkAl (all : List VOper) : List VOper → Nat → List (Nat × AlS)
  | [], _ => []
  | v :: l, i => match isAl v with
    | some (t, .z z) => (t, .z z) :: mkAl all l (i + 1)
    | some (t, .x x) => (t, .x i (preOf (all.take i).reverse x.tmps []) x) :: mkAl all l (i + 1)
    | some (t, .m es z x) => (t, .m i (preOf (all.take i).reverse x.tmps []) es z x) :: mkAl all l (i + 1)
    | none => mkAl all l (i + 1)

def alone (deps preds : List (List Nat)) (i : Nat) : Bool :=
  (nth deps i).all (fun d => Nat.blt d i) && (nth preds i).all (fun p => memN (nth deps i) p || (nth deps i).any fun d => memN (nth preds d) p)
/-- j has its place before i, or i before j. -/
def ranged (preds : List (List Nat)) (i j : Nat) : Bool := (Nat.blt j i && memN (nth preds i) j) || (Nat.blt i j && memN (nth preds j) i)
def both (md : FuncId → Mode) (preds : List (List Nat)) (pairs : List (Nat × Nat)) (i : Nat) (vi : VOper) (j : Nat) (vj : VOper) : Bool :=
  (match vj.dst with | none => true | some t => !memN vi.names t || ranged preds i j) &&
  (match isAl vj with | none => true | some (t, _) => (!memN vi.names t || (Nat.blt j i && memN (nth preds i) j)) && (match vi.dst with | none => true | some u => !Nat.beq u t)) &&
  (!(isEf md vi && isEf md vj) || ranged preds i j) &&
  (!(isRd md vi && isEf md vj) || ranged preds i j || memP pairs i j)
def allFrom {α : Type} (f : Nat → α → Bool) : List α → Nat → Bool
  | [], _ => true
  | a :: l, i => f i a && allFrom f l (i + 1)
def drawOK (md : FuncId → Mode) (vs : List VOper) (deps preds : List (List Nat)) (pairs : List (Nat × Nat)) : Bool :=
  allFrom (fun i vi => alone deps preds i && allFrom (fun j vj => Nat.beq i j || both md preds pairs i vi j vj) vs 0) vs 0
def mkPairs (md : FuncId → Mode) (vs : List VOper) (preds : List (List Nat)) : List (Nat × Nat) :=
  (vs.zipIdx.map fun (vi, i) => (vs.zipIdx.filterMap fun (vj, j) => bif isRd md vi && isEf md vj && !ranged preds i j then some (i, j) else none)).flatten
def compDraw1 (md : FuncId → Mode) (vs : List VOper) (preds : List (List Nat)) : VCode :=
  match mkAl vs vs 0, mkPairs md vs preds with
  | [], [] => .ops vs
  | al, ps => .draw al (vs.map idled) ps
def tryDraw (md : FuncId → Mode) (vs : List VOper) (deps preds : List (List Nat)) (bx ms : Bool) (e : VCode) : VCode :=
  bif drawOK md (vs.map (hb bx ms)) deps preds (mkPairs md (vs.map (hb bx ms)) preds) then compDraw1 md (vs.map (hb bx ms)) preds else e
def compDraw (md : FuncId → Mode) (vs : List VOper) (deps : List (List Nat)) : VCode :=
  let preds := predsOf deps []
  tryDraw md vs deps preds false false <| tryDraw md vs deps preds true false <| tryDraw md vs deps preds false true <| tryDraw md vs deps preds true true <| .drawN vs deps

/-- A loop over a map. -/
def nextC : Code → Bool
  | .seq (.region _ _ draw) _ => !draw
  | _ => false
def mkLoop (c : VCode) : VCode := match c with
  | .seq (.ops (⟨some nx, none, .nextM (.t it)⟩ :: os)) b => .loopM it nx (.seq (.ops os) b)
  | c => .loop c
def compCode (md : FuncId → Mode) (mu : Nat → Mu) (top : Bool) (n : Nat) : Code → VCode
  | .skip => .skip
  | .region _ ops draw => bif draw then compDraw md (compOpers P mu n ops.toList ops.toList) (ops.toList.map depsOf) else .ops (compOpers P mu n ops.toList ops.toList)
  | .seq a b => .seq (compCode md mu top n a) (compCode md mu top n b)
  | .cond c a b => match compOpd c with | some c => .cond c (compCode md mu top n a) (compCode md mu top n b) | none => .ops [⟨none, none, .bad⟩]
  | .block id c => .block id (compCode md mu top n c)
  | .loop c => bif nextC c then mkLoop (compCode md mu top n c) else .loop (compCode md mu top n c)
  | .rangeFunc f ps a b => match compOpd f with
    | some f => bif top && ps.toList.all (fun t => Nat.blt t n) then .rangeFunc f ps.toList (compCode md mu false n a) (compCode md mu false n b) else .ops [⟨none, none, .bad⟩]
    | none => .ops [⟨none, none, .bad⟩]
  | .exit id => .exit id
  | .ret => .ret
  | .scope c => compCode md mu top n c
  | .label _ => .skip
  | _ => .ops [⟨none, none, .bad⟩]

def compRes : ResultVar → Option VResult
  | .tmp t => some (.tmp t)
  | .cell a t => match sizeT P t, aggT P t with | some n, some g => some (bif g then .cellN n a else .cell1 a) | _, _ => none
def compRess : List ResultVar → Option (List VResult)
  | [] => some []
  | x :: l => match compRes P x, compRess l with | some a, some b => some (a :: b) | _, _ => none
end
end Go.VM

namespace Go.VM
open Go

abbrev Imm := Addr → Option Value
/-- Values of one cell each. -/
def Ones (vs : List Value) : Prop := ∀ v ∈ vs, v.oneCell' = true
theorem Ones.append {a b : List Value} (h : Ones a) (g : Ones b) : Ones (a ++ b) := fun v hv => by
  rcases List.mem_append.1 hv with h1 | h1
  · exact h v h1
  · exact g v h1
theorem Ones.take {a : List Value} (h : Ones a) (n : Nat) : Ones (a.take n) := fun v hv => h v (List.mem_of_mem_take hv)
theorem Ones.drop {a : List Value} (h : Ones a) (n : Nat) : Ones (a.drop n) := fun v hv => h v (List.mem_of_mem_drop hv)
theorem Ones.nil : Ones [] := fun v hv => by cases hv
theorem Ones.cons {v : Value} {l : List Value} (h : v.oneCell' = true) (g : Ones l) : Ones (v :: l) := fun u hu => by
  rcases List.mem_cons.1 hu with h1 | h1
  · rw [h1]; exact h
  · exact g u h1
theorem Ones.set {a : List Value} (h : Ones a) (n : Nat) {v : Value} (hv : v.oneCell' = true) : Ones (a.set n v) := fun u hu => by
  rcases List.mem_or_eq_of_mem_set hu with h1 | h1
  · exact h u h1
  · rw [h1]; exact hv
theorem Ones.get {a : List Value} (h : Ones a) {i : Nat} {v : Value} (hv : a[i]? = some v) : v.oneCell' = true := h v (List.mem_of_getElem? hv)

mutual
inductive PRel (I : Imm) : PV → Value → Prop
  | bool (b) : PRel I (.bool b) (.bool b)
  | int (k n) : PRel I (.int k n) (.int k n)
  | str (s) : PRel I (.str s) (.string s)
  | nilp : PRel I .nilp (.pointer none)
  | nilm : PRel I .nilm (.map none)
  | nilf : PRel I .nilf .nilFunc
  | nili : PRel I .nili .nilIface
  | slNil (x) : x ≠ .nn → x ≠ .nnx → PRel I (.sl x 0 []) (.slice none 0 0)
  | sl (x) (n) (cs) (a : Addr) (cap) (vs : List Value) : x ≠ .nil → (x = .exact ∨ x = .nnx → cap = n) → n ≤ cap → PRels I cs vs → (∀ (j : Nat) (v : Value), vs[j]? = some v → I (a.add j) = some v) → Ones vs → PRel I (.sl x n cs) (.slice (some a) n cap)
  | agg (cs) (vs : List Value) : PRels I cs vs → Ones vs → PRel I (.agg cs) (.agg vs.toArray)
  | tup (cs) (vs : List Value) : PRels I cs vs → PRel I (.tup cs) (.tuple vs.toArray)
  | fn (f) (a b) (va vb : List Value) : PRels I a va → PRels I b vb → PRel I (.fn f a b) (.func (.func f) va.toArray vb.toArray)
  | iface (t p v) : PRel I p v → PRel I (.iface t p) (.iface t v)
inductive PRels (I : Imm) : List PV → List Value → Prop
  | nil : PRels I [] []
  | cons (p v ps vs) : PRel I p v → PRels I ps vs → PRels I (p :: ps) (v :: vs)
end

def Imm.le (I J : Imm) : Prop := ∀ a v, I a = some v → J a = some v

mutual
theorem PRel.mono {I J : Imm} (h : I.le J) {p : PV} {v : Value} (r : PRel I p v) : PRel J p v := by
  cases r with
  | bool => exact .bool _
  | int => exact .int _ _
  | str => exact .str _
  | nilp => exact .nilp
  | nilm => exact .nilm
  | nilf => exact .nilf
  | nili => exact .nili
  | slNil _ h1 h2 => exact .slNil _ h1 h2
  | sl x n cs a cap vs h1 h2 h3 h4 h5 h6 => exact .sl x n cs a cap vs h1 h2 h3 (h4.mono h) (fun j v hj => h _ _ (h5 j v hj)) h6
  | agg cs vs h1 h2 => exact .agg _ _ (h1.mono h) h2
  | tup cs vs h1 => exact .tup _ _ (h1.mono h)
  | fn f a b va vb h1 h2 => exact .fn _ _ _ _ _ (h1.mono h) (h2.mono h)
  | iface t p v h1 => exact .iface _ _ _ (h1.mono h)
theorem PRels.mono {I J : Imm} (h : I.le J) {p : List PV} {v : List Value} (r : PRels I p v) : PRels J p v := by
  cases r with
  | nil => exact .nil
  | cons p v ps vs h1 h2 => exact .cons _ _ _ _ (h1.mono h) (h2.mono h)
end

structure K where
  loc : Nat → Option Nat
  imm : Imm
  tl : Nat → Nat → Option (Nat × Nat)

structure K.le (κ κ' : K) : Prop where
  loc : ∀ id k, κ.loc id = some k → κ'.loc id = some k
  imm : κ.imm.le κ'.imm
  tl : ∀ t n p, κ.tl t n = some p → κ'.tl t n = some p

theorem K.le_refl (κ : K) : κ.le κ := ⟨fun _ _ h => h, fun _ _ h => h, fun _ _ _ h => h⟩
theorem K.le_trans {a b c : K} (h : a.le b) (g : b.le c) : a.le c := ⟨fun i k x => g.loc i k (h.loc i k x), fun i k x => g.imm i k (h.imm i k x), fun t n p x => g.tl t n p (h.tl t n p x)⟩

mutual
inductive VRel (κ : K) : AV → Value → Prop
  | pv (p v) : PRel κ.imm p v → VRel κ (.pv p) v
  | ptr (id off k) : κ.loc id = some k → VRel κ (.ptr id off) (.pointer (some ⟨k, off, none⟩))
  | rptr (cs off) (a : Addr) (vs : List Value) : PRels κ.imm cs vs → (∀ (j : Nat) (v : Value), vs[j]? = some v → κ.imm (a.add j) = some v) → Ones vs → VRel κ (.rptr cs off) (.pointer (some (a.add off)))
  | tsl (t n cs k cap) (vs : List Value) : κ.tl t n = some (k, cap) → n ≤ cap → PRels κ.imm cs vs → (∀ (j : Nat) (v : Value), vs[j]? = some v → κ.imm ⟨k, j, none⟩ = some v) → Ones vs → VRel κ (.tsl t n cs) (.slice (some ⟨k, 0, none⟩) n cap)
  | zsl (t m k cap) : κ.tl t 0 = some (k, cap) → m ≤ cap → VRel κ (.zsl t m) (.slice (some ⟨k, 0, none⟩) m cap)
  | hs (es id off n cap k cap') : κ.loc id = some k → n ≤ cap → cap ≤ cap' → VRel κ (.hs es id off n cap) (.slice (some ⟨k, off, none⟩) n cap')
  | map (id k) : κ.loc id = some k → VRel κ (.map id) (.map (some k))
  | yield (id k) : κ.loc id = some k → VRel κ (.yield id) (.func (.yield k) #[] #[])
  | fn (f) (a b) (va vb : List Value) : VRels κ a va → VRels κ b vb → VRel κ (.fn f a b) (.func (.func f) va.toArray vb.toArray)
  | iface (t a v) : VRel κ a v → VRel κ (.iface t a) (.iface t v)
  | agg (cs) (vs : List Value) : VRels κ cs vs → Ones vs → VRel κ (.agg cs) (.agg vs.toArray)
  | tup (cs) (vs : List Value) : VRels κ cs vs → VRel κ (.tup cs) (.tuple vs.toArray)
  | gs (id n k cap) : κ.tl id n = some (k, cap) → n ≤ cap → VRel κ (.gs id n) (.slice (some ⟨k, 0, none⟩) n cap)
  | gptr (id n off k cap) : κ.tl id n = some (k, cap) → VRel κ (.gptr id n off) (.pointer (some ⟨k, off, none⟩))
  | any (v) : VRel κ .any v
inductive VRels (κ : K) : List AV → List Value → Prop
  | nil : VRels κ [] []
  | cons (a v as vs) : VRel κ a v → VRels κ as vs → VRels κ (a :: as) (v :: vs)
end

mutual
theorem VRel.mono {κ κ' : K} (h : κ.le κ') {a : AV} {v : Value} (r : VRel κ a v) : VRel κ' a v := by
  cases r with
  | pv p v h1 => exact .pv _ _ (h1.mono h.imm)
  | ptr id off k h1 => exact .ptr _ _ _ (h.loc _ _ h1)
  | rptr cs off a vs h1 h2 h3 => exact .rptr _ _ _ vs (h1.mono h.imm) (fun j v hj => h.imm _ _ (h2 j v hj)) h3
  | tsl t n cs k cap vs h1 h2 h3 h4 h5 => exact .tsl _ _ _ _ _ vs (h.tl _ _ _ h1) h2 (h3.mono h.imm) (fun j v hj => h.imm _ _ (h4 j v hj)) h5
  | zsl t m k cap h1 h2 => exact .zsl _ _ _ _ (h.tl _ _ _ h1) h2
  | hs es id off n cap k cap' h1 h2 h3 => exact .hs _ _ _ _ _ _ _ (h.loc _ _ h1) h2 h3
  | map id k h1 => exact .map _ _ (h.loc _ _ h1)
  | yield id k h1 => exact .yield _ _ (h.loc _ _ h1)
  | fn f a b va vb h1 h2 => exact .fn _ _ _ _ _ (h1.mono h) (h2.mono h)
  | iface t a v h1 => exact .iface _ _ _ (h1.mono h)
  | agg cs vs h1 h2 => exact .agg _ _ (h1.mono h) h2
  | tup cs vs h1 => exact .tup _ _ (h1.mono h)
  | gs id n k cap h1 h2 => exact .gs _ _ _ _ (h.tl _ _ _ h1) h2
  | gptr id n off k cap h1 => exact .gptr _ _ _ _ _ (h.tl _ _ _ h1)
  | any v => exact .any _
theorem VRels.mono {κ κ' : K} (h : κ.le κ') {a : List AV} {v : List Value} (r : VRels κ a v) : VRels κ' a v := by
  cases r with
  | nil => exact .nil
  | cons a v as vs h1 h2 => exact .cons _ _ _ _ (h1.mono h) (h2.mono h)
end

/-! ### lists -/
theorem lget_eq {α : Type} (l : List α) (i : Nat) : lget l i = l[i]? := by
  induction l generalizing i with
  | nil => rfl
  | cons b l ih => cases i with
    | zero => rfl
    | succ i => simpa [lget] using ih i
theorem PRels.length {I : Imm} {ps : List PV} {vs : List Value} (h : PRels I ps vs) : ps.length = vs.length := by
  induction ps generalizing vs with
  | nil => cases h; rfl
  | cons p ps ih => cases h with | cons _ _ _ _ _ h2 => simp [ih h2]
theorem PRels.get {I : Imm} {ps : List PV} {vs : List Value} (h : PRels I ps vs) {i : Nat} {p : PV} (hp : ps[i]? = some p) : ∃ v, vs[i]? = some v ∧ PRel I p v := by
  induction ps generalizing vs i with
  | nil => simp at hp
  | cons q ps ih => cases h with
    | cons _ v _ vs h1 h2 =>
      cases i with
      | zero => simp at hp; subst hp; exact ⟨v, rfl, h1⟩
      | succ i => simp at hp; simpa using ih h2 hp
theorem PRels.append {I : Imm} {ps qs : List PV} {vs us : List Value} (h : PRels I ps vs) (g : PRels I qs us) : PRels I (ps ++ qs) (vs ++ us) := by
  induction ps generalizing vs with
  | nil => cases h; exact g
  | cons p ps ih => cases h with | cons _ _ _ _ h1 h2 => exact .cons _ _ _ _ h1 (ih h2)
theorem PRels.take {I : Imm} {ps : List PV} {vs : List Value} (h : PRels I ps vs) (n : Nat) : PRels I (ps.take n) (vs.take n) := by
  induction ps generalizing vs n with
  | nil => cases h; simp; exact .nil
  | cons p ps ih => cases h with
    | cons _ _ _ _ h1 h2 => cases n with
      | zero => simp; exact .nil
      | succ n => simp; exact .cons _ _ _ _ h1 (ih h2 n)
theorem PRels.drop {I : Imm} {ps : List PV} {vs : List Value} (h : PRels I ps vs) (n : Nat) : PRels I (ps.drop n) (vs.drop n) := by
  induction ps generalizing vs n with
  | nil => cases h; simp; exact .nil
  | cons p ps ih => cases h with
    | cons _ _ _ _ h1 h2 => cases n with
      | zero => simp; exact .cons _ _ _ _ h1 h2
      | succ n => simp; exact ih h2 n
theorem PRels.set {I : Imm} {ps : List PV} {vs : List Value} (h : PRels I ps vs) (n : Nat) {p : PV} {v : Value} (hp : PRel I p v) : PRels I (ps.set n p) (vs.set n v) := by
  induction ps generalizing vs n with
  | nil => cases h; simp; exact .nil
  | cons q ps ih => cases h with
    | cons _ _ _ _ h1 h2 => cases n with
      | zero => simp; exact .cons _ _ _ _ hp h2
      | succ n => simp; exact .cons _ _ _ _ h1 (ih h2 n)
theorem VRels.length {κ : K} {ps : List AV} {vs : List Value} (h : VRels κ ps vs) : ps.length = vs.length := by
  induction ps generalizing vs with
  | nil => cases h; rfl
  | cons p ps ih => cases h with | cons _ _ _ _ _ h2 => simp [ih h2]
theorem VRels.get {κ : K} {ps : List AV} {vs : List Value} (h : VRels κ ps vs) {i : Nat} {p : AV} (hp : lget ps i = some p) : ∃ v, vs[i]? = some v ∧ VRel κ p v := by
  induction ps generalizing vs i with
  | nil => simp [lget] at hp
  | cons q ps ih => cases h with
    | cons _ v _ vs h1 h2 =>
      cases i with
      | zero => simp [lget] at hp; subst hp; exact ⟨v, rfl, h1⟩
      | succ i => simp [lget] at hp; simpa using ih h2 hp
theorem VRels.append {κ : K} {ps qs : List AV} {vs us : List Value} (h : VRels κ ps vs) (g : VRels κ qs us) : VRels κ (ps ++ qs) (vs ++ us) := by
  induction ps generalizing vs with
  | nil => cases h; exact g
  | cons p ps ih => cases h with | cons _ _ _ _ h1 h2 => exact .cons _ _ _ _ h1 (ih h2)
theorem VRels.take {κ : K} {ps : List AV} {vs : List Value} (h : VRels κ ps vs) (n : Nat) : VRels κ (ps.take n) (vs.take n) := by
  induction ps generalizing vs n with
  | nil => cases h; simp; exact .nil
  | cons p ps ih => cases h with
    | cons _ _ _ _ h1 h2 => cases n with
      | zero => simp; exact .nil
      | succ n => simp; exact .cons _ _ _ _ h1 (ih h2 n)
theorem VRels.drop {κ : K} {ps : List AV} {vs : List Value} (h : VRels κ ps vs) (n : Nat) : VRels κ (ps.drop n) (vs.drop n) := by
  induction ps generalizing vs n with
  | nil => cases h; simp; exact .nil
  | cons p ps ih => cases h with
    | cons _ _ _ _ h1 h2 => cases n with
      | zero => simp; exact .cons _ _ _ _ h1 h2
      | succ n => simp; exact ih h2 n
theorem VRels.set {κ : K} {ps : List AV} {vs : List Value} (h : VRels κ ps vs) (n : Nat) {p : AV} {v : Value} (hp : VRel κ p v) : VRels κ (ps.set n p) (vs.set n v) := by
  induction ps generalizing vs n with
  | nil => cases h; simp; exact .nil
  | cons q ps ih => cases h with
    | cons _ _ _ _ h1 h2 => cases n with
      | zero => simp; exact .cons _ _ _ _ hp h2
      | succ n => simp; exact .cons _ _ _ _ h1 (ih h2 n)
theorem VRels.of_pv {κ : K} {ps : List PV} {vs : List Value} (h : PRels κ.imm ps vs) : VRels κ (ps.map .pv) vs := by
  induction ps generalizing vs with
  | nil => cases h; exact .nil
  | cons p ps ih => cases h with | cons _ _ _ _ h1 h2 => exact .cons _ _ _ _ (.pv _ _ h1) (ih h2)
theorem VRels.to_pv {κ : K} {ps : List PV} {vs : List Value} (h : VRels κ (ps.map .pv) vs) : PRels κ.imm ps vs := by
  induction ps generalizing vs with
  | nil => cases h; exact .nil
  | cons p ps ih => cases h with | cons _ _ _ _ h1 h2 => cases h1 with | pv _ _ h1 => exact .cons _ _ _ _ h1 (ih h2)
theorem allPV_eq {l : List AV} {ps : List PV} (h : allPV l = some ps) : l = ps.map .pv := by
  induction l generalizing ps with
  | nil => simp [allPV] at h; subst h; rfl
  | cons a l ih =>
    cases a with
    | pv p =>
      simp only [allPV, Option.map_eq_some_iff] at h
      obtain ⟨qs, h1, rfl⟩ := h
      simp [ih h1]
    | _ => simp [allPV] at h

/-! ### the heap -/
def place (κ : K) (id : Nat) : HObj → Option Nat
  | .dead => none
  | .tok n _ => (κ.tl id n).map (·.1)
  | .row n _ _ => (κ.tl id n).map (·.1)
  | .bag _ l => (κ.tl id l.length).map (·.1)
  | _ => κ.loc id

structure Ctx where
  P : Program
  md : FuncId → Mode
  /-- What package-level variables hold. -/
  gi : Imm
  /-- Where they end. -/
  gn : Addr → Bool

def jumpOf : Ex → Option Code
  | .normal => none
  | .exit id => some (.exit id)
  | .ret => some .ret

def StateRel : LState → LoopState → Option Code → Prop
  | .ready, s, j => s = .ready ∧ j = none
  | .busy, s, _ => s = .busy
  | .done e, s, j => s = .done ∧ j = jumpOf e ∧ e ≠ .normal

structure LoopRel (Γ : Ctx) (κ : K) (l : VLoop) (L : Loop) : Prop where
  state : StateRel l.state L.state L.pending
  regs : ∀ t, VRel κ (l.regs t) (L.tmps.getD t undef)
  params : l.params = L.params.toList
  bound : ∀ t ∈ l.params, t < L.tmps.size
  code : ∃ mu n, n ≤ L.tmps.size ∧ l.assign = compCode Γ.P Γ.md mu false n L.assign ∧ l.body = compCode Γ.P Γ.md mu false n L.body

inductive MRels (I : Imm) : List (Nat × PV × PV) → List MapEntry → Prop
  | nil : MRels I [] []
  | cons (k v : PV) (e : MapEntry) (es l) : PRel I k e.key → PRel I v e.val → MRels I es l → MRels I ((e.born, k, v) :: es) (e :: l)
theorem MRels.mono {I J : Imm} (h : I.le J) {es : List (Nat × PV × PV)} {l : List MapEntry} (r : MRels I es l) : MRels J es l := by
  induction r with
  | nil => exact .nil
  | cons k v e es l h1 h2 _ ih => exact .cons _ _ _ _ _ (h1.mono h) (h2.mono h) ih

/-- A row that grows. -/
def RowRel (κ : K) (w : World) (id k n es : Nat) (cs : List AV) : Prop :=
  ∃ (cap : Nat) (c rest : List Value) (e : TypeId), κ.tl id n = some (k, cap) ∧ w.heap[k]? = some (.cells (c ++ rest).toArray e (0, 0)) ∧ (c ++ rest).length = cap * es ∧ cap ≤ maxLen ∧ n ≤ cap ∧
      cs.length = n * es ∧ VRels κ cs c ∧ Ones c ∧ (∀ a : Addr, a.block = k → κ.imm a = none) ∧ ∀ m, n < m → κ.tl id m = none

def ObjRel (Γ : Ctx) (κ : K) (w : World) (id k : Nat) : HObj → Prop
  | .dead => True
  | .cells cs => ∃ (c rest : List Value) (e : TypeId), w.heap[k]? = some (.cells (c ++ rest).toArray e (0, 0)) ∧ VRels κ cs c ∧ (∀ a : Addr, a.block = k → κ.imm a = none) ∧ Ones c
  | .pcells cs => ∃ (c rest : List Value) (e : TypeId), w.heap[k]? = some (.cells (c ++ rest).toArray e (0, 0)) ∧ PRels κ.imm cs c ∧ (∀ a : Addr, a.block = k → κ.imm a = none) ∧ Ones c
  | .tok n es => ∃ (cap : Nat) (c : List Value) (e : TypeId), κ.tl id n = some (k, cap) ∧ w.heap[k]? = some (.cells c.toArray e (0, 0)) ∧ c.length = cap * es ∧ cap ≤ maxLen ∧ n ≤ cap ∧
      (∀ a : Addr, a.block = k → κ.imm a ≠ none → a.off < n * es) ∧ ∀ m, n < m → κ.tl id m = none
  | .loop l => ∃ L, w.heap[k]? = some (.loop L) ∧ LoopRel Γ κ l L
  | .map clk es => ∃ ents : Array MapEntry, w.heap[k]? = some (.map ents clk) ∧ MRels κ.imm es ents.toList
  | .row n es cs => RowRel κ w id k n es cs
  | .iter m since seen last => ∃ mk : Option Nat, w.heap[k]? = some (.mapIter mk since seen.toArray last) ∧ (m = none → mk = none) ∧ ∀ m', m = some m' → ∃ k', mk = some k' ∧ κ.loc m' = some k'
  | .bag es l => ∃ l' : List (List PV), l'.Perm l ∧ (∀ x ∈ l, x.length = es) ∧ RowRel κ w id k l.length es (l'.flatten.map .pv)

structure SRel (Γ : Ctx) (b0 : Nat) (κ : K) (H : Heap) (w : World) : Prop where
  imm : ∀ a v, κ.imm a = some v → w.cell? a = some v
  obj : ∀ id k, place κ id (hget H id) = some k → b0 ≤ k ∧ ObjRel Γ κ w id k (hget H id)
  inj : ∀ id id' k, place κ id (hget H id) = some k → place κ id' (hget H id') = some k → id = id'
  fresh : ∀ id, H.length ≤ id → κ.loc id = none ∧ ∀ n, κ.tl id n = none
  base : b0 ≤ w.heap.size
  gv : Γ.gi.le κ.imm
  gn : ∀ a, Γ.gn a = true → a.block < b0 ∧ w.cell? a = none

/-- Nothing in the world is this object. -/
def Idle (κ : K) (id : Nat) : Prop := κ.loc id = none ∧ ∀ n, κ.tl id n = none

structure Grow (κ : K) (H : Heap) (w : World) (κ' : K) (H' : Heap) (w' : World) : Prop where
  le : κ.le κ'
  size : w.heap.size ≤ w'.heap.size
  len : H.length ≤ H'.length
  os : w'.os = w.os
  tape : w'.tape = w.tape
  output : w'.output = w.output
  drawn : w.drawn ≤ w'.drawn
  frame : ∀ k, k < w.heap.size → (∀ id, place κ id (hget H id) ≠ some k) → w'.heap[k]? = w.heap[k]?
  places : ∀ id k, place κ' id (hget H' id) = some k → (∃ id', place κ id' (hget H id') = some k) ∨ w.heap.size ≤ k
  imm : ∀ a v, κ'.imm a = some v → κ.imm a = some v ∨ w.heap.size ≤ a.block ∨ ∃ id, place κ id (hget H id) = some a.block
  idle : ∀ id, id < H.length → Idle κ id → hget H' id = hget H id ∧ Idle κ' id

theorem Grow.refl (κ : K) (H : Heap) (w : World) : Grow κ H w κ H w :=
  ⟨κ.le_refl, Nat.le_refl _, Nat.le_refl _, rfl, rfl, rfl, Nat.le_refl _, fun _ _ _ => rfl, fun _ _ h => .inl ⟨_, h⟩, fun _ _ h => .inl h, fun _ _ h => ⟨rfl, h⟩⟩

theorem Grow.trans {κ κ1 κ2 : K} {H H1 H2 : Heap} {w w1 w2 : World} (h : Grow κ H w κ1 H1 w1) (g : Grow κ1 H1 w1 κ2 H2 w2) : Grow κ H w κ2 H2 w2 := by
  refine ⟨K.le_trans h.le g.le, Nat.le_trans h.size g.size, Nat.le_trans h.len g.len, g.os.trans h.os, g.tape.trans h.tape, g.output.trans h.output, Nat.le_trans h.drawn g.drawn, ?_, ?_, ?_, fun id hid hi => ?_⟩
  · intro k hk hn
    rw [g.frame k (Nat.lt_of_lt_of_le hk h.size) (fun id hp => ?_), h.frame k hk hn]
    rcases h.places id k hp with ⟨id', h'⟩ | h'
    · exact hn id' h'
    · omega
  · intro id k hp
    rcases g.places id k hp with ⟨id', h'⟩ | h'
    · exact h.places id' k h'
    · exact .inr (Nat.le_trans h.size h')
  · intro a v hv
    rcases g.imm a v hv with h' | h' | ⟨id, h'⟩
    · exact h.imm a v h'
    · exact .inr (.inl (Nat.le_trans h.size h'))
    · rcases h.places id _ h' with h'' | h''
      · exact .inr (.inr h'')
      · exact .inr (.inl h'')
  · obtain ⟨h1, h2⟩ := h.idle id hid hi
    obtain ⟨g1, g2⟩ := g.idle id (Nat.lt_of_lt_of_le hid h.len) h2
    exact ⟨g1.trans h1, g2⟩

theorem hget_ge {H : Heap} {id : Nat} (h : H.length ≤ id) : hget H id = .dead := by
  induction H generalizing id with
  | nil => cases id <;> rfl
  | cons o H ih => cases id with
    | zero => simp at h
    | succ id => exact ih (by simpa using h)
theorem hget_append_lt {H H2 : Heap} {id : Nat} (h : id < H.length) : hget (H ++ H2) id = hget H id := by
  induction H generalizing id with
  | nil => simp at h
  | cons o H ih => cases id with
    | zero => rfl
    | succ id => exact ih (by simpa using h)
theorem hget_append_same (H : Heap) (o : HObj) : hget (H ++ [o]) H.length = o := by
  induction H with
  | nil => rfl
  | cons a H ih => simpa [hget] using ih
theorem hset_length (H : Heap) (id : Nat) (o : HObj) : (hset H id o).length = H.length := by
  induction H generalizing id with
  | nil => rfl
  | cons a H ih => cases id <;> simp [hset, ih]
theorem hget_hset_same {H : Heap} {id : Nat} (o : HObj) (h : id < H.length) : hget (hset H id o) id = o := by
  induction H generalizing id with
  | nil => simp at h
  | cons a H ih => cases id with
    | zero => rfl
    | succ id => exact ih (by simpa using h)
theorem hget_hset_other {H : Heap} {id j : Nat} (o : HObj) (h : j ≠ id) : hget (hset H id o) j = hget H j := by
  induction H generalizing id j with
  | nil => rfl
  | cons a H ih => cases id with
    | zero => cases j with
      | zero => exact absurd rfl h
      | succ j => rfl
    | succ id => cases j with
      | zero => rfl
      | succ j => exact ih (by omega)
theorem lt_of_hget {H : Heap} {id : Nat} (h : hget H id ≠ .dead) : id < H.length := by
  rcases Nat.lt_or_ge id H.length with h' | h'
  · exact h'
  · exact absurd (hget_ge h') h
end Go.VM

namespace Go.VM
open Go

theorem block_lt {w : World} {a : Addr} {v : Value} (h : w.cell? a = some v) : a.block < w.heap.size := World.block_lt_of_cell? w a h

theorem place_lt {Γ : Ctx} {base : Nat} {κ : K} {H : Heap} {w : World} (h : SRel Γ base κ H w) {id k : Nat} (hp : place κ id (hget H id) = some k) : k < w.heap.size := by
  obtain ⟨_, ho⟩ := h.obj id k hp
  have lt : ∀ o, w.heap[k]? = some o → k < w.heap.size := fun o ho => (Array.getElem?_eq_some_iff.1 ho).1
  cases hg : hget H id with
  | dead => rw [hg] at hp; simp [place] at hp
  | cells cs => rw [hg] at ho; obtain ⟨c, rest, e, h1, _⟩ := ho; exact lt _ h1
  | pcells cs => rw [hg] at ho; obtain ⟨c, rest, e, h1, _⟩ := ho; exact lt _ h1
  | tok n es => rw [hg] at ho; obtain ⟨cap, c, e, _, h1, _⟩ := ho; exact lt _ h1
  | loop l => rw [hg] at ho; obtain ⟨L, h1, _⟩ := ho; exact lt _ h1
  | map clk es => rw [hg] at ho; obtain ⟨L, h1, _⟩ := ho; exact lt _ h1
  | iter m a b c => rw [hg] at ho; obtain ⟨L, h1, _⟩ := ho; exact lt _ h1
  | bag es l => rw [hg] at ho; obtain ⟨_, _, _, cap, c, rest, e, _, h1, _⟩ := ho; exact lt _ h1
  | row n es cs => rw [hg] at ho; obtain ⟨cap, c, rest, e, _, h1, _⟩ := ho; exact lt _ h1

theorem LoopRel.mono {Γ : Ctx} {κ κ' : K} (h : κ.le κ') {l : VLoop} {L : Loop} (r : LoopRel Γ κ l L) : LoopRel Γ κ' l L :=
  ⟨r.state, fun t => (r.regs t).mono h, r.params, r.bound, r.code⟩

theorem RowRel.mono {κ κ' : K} {w w' : World} {id k n es : Nat} {cs : List AV} (h : κ.le κ') (hk : w'.heap[k]? = w.heap[k]?)
    (hi : ∀ a : Addr, a.block = k → κ'.imm a = κ.imm a) (ht : ∀ m, κ'.tl id m = κ.tl id m) (r : RowRel κ w id k n es cs) : RowRel κ' w' id k n es cs := by
  obtain ⟨cap, c, rest, e, h1, h2, h3, h4, h5, h6, h7, h8, h9, h10⟩ := r
  exact ⟨cap, c, rest, e, (ht n).trans h1, hk.trans h2, h3, h4, h5, h6, h7.mono h, h8, fun a ha => (hi a ha).trans (h9 a ha), fun m hm => (ht m).trans (h10 m hm)⟩
theorem ObjRel.mono {Γ : Ctx} {κ κ' : K} {w w' : World} {id k : Nat} {o : HObj} (h : κ.le κ') (hk : w'.heap[k]? = w.heap[k]?)
    (hi : ∀ a : Addr, a.block = k → κ'.imm a = κ.imm a) (ht : ∀ m, κ'.tl id m = κ.tl id m) (r : ObjRel Γ κ w id k o) : ObjRel Γ κ' w' id k o := by
  cases o with
  | dead => trivial
  | cells cs =>
    obtain ⟨c, rest, e, h1, h2, h3, h4⟩ := r
    exact ⟨c, rest, e, hk.trans h1, h2.mono h, fun a ha => (hi a ha).trans (h3 a ha), h4⟩
  | pcells cs =>
    obtain ⟨c, rest, e, h1, h2, h3, h4⟩ := r
    exact ⟨c, rest, e, hk.trans h1, h2.mono h.imm, fun a ha => (hi a ha).trans (h3 a ha), h4⟩
  | tok n es =>
    obtain ⟨cap, c, e, h1, h2, h3, h4, h5, h6, h7⟩ := r
    exact ⟨cap, c, e, (ht n).trans h1, hk.trans h2, h3, h4, h5, fun a ha hn => h6 a ha (by rwa [hi a ha] at hn), fun m hm => (ht m).trans (h7 m hm)⟩
  | loop l =>
    obtain ⟨L, h1, h2⟩ := r
    exact ⟨L, hk.trans h1, h2.mono h⟩
  | map clk es =>
    obtain ⟨L, h1, h2⟩ := r
    exact ⟨L, hk.trans h1, h2.mono h.imm⟩
  | row n es cs => exact RowRel.mono h hk hi ht r
  | iter m a b c =>
    obtain ⟨mk, h1, h2, h3⟩ := r
    refine ⟨mk, hk.trans h1, h2, fun m' hm => ?_⟩
    obtain ⟨k', h4, h5⟩ := h3 m' hm
    exact ⟨k', h4, h.loc _ _ h5⟩
  | bag es l =>
    obtain ⟨l', h1, h2, h3⟩ := r
    exact ⟨l', h1, h2, h3.mono h hk hi ht⟩

/-- What is the same of two worlds but for the heap and the draws. -/
structure Same (w w' : World) : Prop where
  os : w'.os = w.os
  tape : w'.tape = w.tape
  output : w'.output = w.output
  drawn : w.drawn ≤ w'.drawn
  size : w.heap.size ≤ w'.heap.size

/-- Old blocks lie as they lay; what is new among the cells that stay is in new blocks. -/
theorem SRel.turnNone {Γ : Ctx} {base : Nat} {κ κ' : K} {H : Heap} {w w' : World} (h : SRel Γ base κ H w) (hs : Same w w') (hle : κ.le κ')
    (hloc : κ'.loc = κ.loc) (htl : κ'.tl = κ.tl) (hold : ∀ k, k < w.heap.size → w'.heap[k]? = w.heap[k]?)
    (himm : ∀ a v, κ'.imm a = some v → κ.imm a = some v ∨ (w.heap.size ≤ a.block ∧ w'.cell? a = some v)) :
    SRel Γ base κ' H w' ∧ Grow κ H w κ' H w' := by
  have hp : ∀ id o, place κ' id o = place κ id o := fun id o => by cases o <;> simp [place, hloc, htl]
  have hcell : ∀ a v, w.cell? a = some v → w'.cell? a = some v := fun a v hv => (World.cell?_of_block (hold _ (block_lt hv))).trans hv
  refine ⟨⟨?_, ?_, ?_, ?_, Nat.le_trans h.base hs.size, fun a v hv => hle.imm a v (h.gv a v hv), fun a ha => ⟨(h.gn a ha).1, (World.cell?_of_block (hold _ (Nat.lt_of_lt_of_le (h.gn a ha).1 h.base))).trans (h.gn a ha).2⟩⟩, ⟨hle, hs.size, Nat.le_refl _, hs.os, hs.tape, hs.output, hs.drawn, fun k hk _ => hold k hk, fun id k hk => .inl ⟨id, by rwa [hp] at hk⟩, ?_, fun id _ hi => ⟨rfl, by rw [hloc]; exact hi.1, by rw [htl]; exact hi.2⟩⟩⟩
  · intro a v hv
    rcases himm a v hv with h1 | ⟨_, h1⟩
    · exact hcell a v (h.imm a v h1)
    · exact h1
  · intro id k hk
    rw [hp] at hk
    have hlt := place_lt h hk
    obtain ⟨hb, ho⟩ := h.obj id k hk
    refine ⟨hb, ho.mono hle (hold k hlt) (fun a ha => ?_) (fun m => by rw [htl])⟩
    cases hv : κ'.imm a with
    | none => cases hv' : κ.imm a with
      | none => rfl
      | some u => rw [hle.imm a u hv'] at hv; cases hv
    | some v => rcases himm a v hv with h1 | ⟨h1, _⟩
                · exact h1.symm
                · omega
  · intro id id' k h1 h2
    rw [hp] at h1 h2
    exact h.inj id id' k h1 h2
  · intro id hid
    rw [hloc, htl]
    exact h.fresh id hid
  · intro a v hv
    rcases himm a v hv with h1 | ⟨h1, _⟩
    · exact .inl h1
    · exact .inr (.inl h1)

/-- A new object. -/
theorem SRel.turnNew {Γ : Ctx} {base : Nat} {κ κ' : K} {H : Heap} {w w' : World} (o : HObj) (k0 : Nat) (h : SRel Γ base κ H w) (hs : Same w w') (hle : κ.le κ')
    (hloc : ∀ i, i ≠ H.length → κ'.loc i = κ.loc i) (htl : ∀ i, i ≠ H.length → κ'.tl i = κ.tl i) (hold : ∀ k, k < w.heap.size → w'.heap[k]? = w.heap[k]?)
    (himm : ∀ a v, κ'.imm a = some v → κ.imm a = some v ∨ (w.heap.size ≤ a.block ∧ w'.cell? a = some v))
    (hk0 : place κ' H.length o = some k0) (hnew : w.heap.size ≤ k0) (ho : ObjRel Γ κ' w' H.length k0 o) :
    SRel Γ base κ' (H ++ [o]) w' ∧ Grow κ H w κ' (H ++ [o]) w' := by
  have hp : ∀ id o, id ≠ H.length → place κ' id o = place κ id o := fun id o hi => by cases o <;> simp [place, hloc id hi, htl id hi]
  have hcell : ∀ a v, w.cell? a = some v → w'.cell? a = some v := fun a v hv => (World.cell?_of_block (hold _ (block_lt hv))).trans hv
  have hpl : ∀ id k, place κ' id (hget (H ++ [o]) id) = some k → (id < H.length ∧ place κ id (hget H id) = some k) ∨ (id = H.length ∧ k = k0) := by
    intro id k hk
    rcases Nat.lt_trichotomy id H.length with hi | hi | hi
    · rw [hget_append_lt hi, hp _ _ (by omega)] at hk
      exact .inl ⟨hi, hk⟩
    · subst hi
      rw [hget_append_same, hk0] at hk
      exact .inr ⟨rfl, by simpa using hk.symm⟩
    · rw [hget_ge (by simp; omega)] at hk
      simp [place] at hk
  refine ⟨⟨?_, ?_, ?_, ?_, Nat.le_trans h.base hs.size, fun a v hv => hle.imm a v (h.gv a v hv), fun a ha => ⟨(h.gn a ha).1, (World.cell?_of_block (hold _ (Nat.lt_of_lt_of_le (h.gn a ha).1 h.base))).trans (h.gn a ha).2⟩⟩, ⟨hle, hs.size, by simp, hs.os, hs.tape, hs.output, hs.drawn, fun k hk _ => hold k hk, ?_, ?_,
    fun id hid hi => ⟨hget_append_lt hid, by rw [hloc id (by omega)]; exact hi.1, by rw [htl id (by omega)]; exact hi.2⟩⟩⟩
  · intro a v hv
    rcases himm a v hv with h1 | ⟨_, h1⟩
    · exact hcell a v (h.imm a v h1)
    · exact h1
  · intro id k hk
    rcases hpl id k hk with ⟨hi, hk⟩ | ⟨rfl, rfl⟩
    · have hlt := place_lt h hk
      obtain ⟨hb, hor⟩ := h.obj id k hk
      rw [hget_append_lt hi]
      refine ⟨hb, hor.mono hle (hold k hlt) (fun a ha => ?_) (fun m => by rw [htl id (by omega)])⟩
      cases hv : κ'.imm a with
      | none => cases hv' : κ.imm a with
        | none => rfl
        | some u => rw [hle.imm a u hv'] at hv; cases hv
      | some v => rcases himm a v hv with h1 | ⟨h1, _⟩
                  · exact h1.symm
                  · omega
    · rw [hget_append_same]
      exact ⟨Nat.le_trans h.base hnew, ho⟩
  · intro id id' k h1 h2
    rcases hpl id k h1 with ⟨hi, hk⟩ | ⟨hi, hk⟩ <;> rcases hpl id' k h2 with ⟨hi', hk'⟩ | ⟨hi', hk'⟩
    · exact h.inj id id' k hk hk'
    · have := place_lt h hk; omega
    · have := place_lt h hk'; omega
    · omega
  · intro id hid
    simp at hid
    rw [hloc id (by omega), htl id (by omega)]
    exact h.fresh id (by omega)
  · intro id k hk
    rcases hpl id k hk with ⟨hi, hk⟩ | ⟨_, hk⟩
    · exact .inl ⟨id, hk⟩
    · subst hk; exact .inr hnew
  · intro a v hv
    rcases himm a v hv with h1 | ⟨h1, _⟩
    · exact .inl h1
    · exact .inr (.inl h1)

/-- One object turns; it may move to a new block. -/
theorem SRel.turnOne {Γ : Ctx} {base : Nat} {κ κ' : K} {H : Heap} {w w' : World} (id0 : Nat) (o : HObj) (k0 k1 : Nat) (h : SRel Γ base κ H w) (hs : Same w w') (hle : κ.le κ')
    (h0 : place κ id0 (hget H id0) = some k0)
    (hloc : κ'.loc = κ.loc) (htl : ∀ i, i ≠ id0 → κ'.tl i = κ.tl i) (hold : ∀ k, k < w.heap.size → k ≠ k0 → w'.heap[k]? = w.heap[k]?)
    (himm : ∀ a v, κ'.imm a = some v → w'.cell? a = some v ∧ (κ.imm a = some v ∨ w.heap.size ≤ a.block ∨ a.block = k0))
    (hk1 : ∀ k, place κ' id0 o = some k → k = k1) (hnew : k1 = k0 ∨ w.heap.size ≤ k1) (ho : ObjRel Γ κ' w' id0 k1 o) :
    SRel Γ base κ' (hset H id0 o) w' ∧ Grow κ H w κ' (hset H id0 o) w' := by
  have hid0 : id0 < H.length := lt_of_hget (fun e => by rw [e] at h0; simp [place] at h0)
  have hp : ∀ id o, id ≠ id0 → place κ' id o = place κ id o := fun id o hi => by cases o <;> simp [place, hloc, htl id hi]
  have hb0 := (h.obj id0 k0 h0).1
  have hpl : ∀ id k, place κ' id (hget (hset H id0 o) id) = some k → (id ≠ id0 ∧ place κ id (hget H id) = some k) ∨ (id = id0 ∧ k = k1) := by
    intro id k hk
    by_cases hi : id = id0
    · subst hi
      rw [hget_hset_same o hid0] at hk
      exact .inr ⟨rfl, hk1 k hk⟩
    · rw [hget_hset_other o hi, hp _ _ hi] at hk
      exact .inl ⟨hi, hk⟩
  refine ⟨⟨fun a v hv => (himm a v hv).1, ?_, ?_, ?_, Nat.le_trans h.base hs.size, fun a v hv => hle.imm a v (h.gv a v hv), fun a ha => ⟨(h.gn a ha).1, (World.cell?_of_block (hold _ (Nat.lt_of_lt_of_le (h.gn a ha).1 h.base) (by have := (h.gn a ha).1; omega))).trans (h.gn a ha).2⟩⟩,
    ⟨hle, hs.size, by rw [hset_length]; exact Nat.le_refl _, hs.os, hs.tape, hs.output, hs.drawn, fun k hk hn => hold k hk (fun e => hn id0 (by rw [e]; exact h0)), ?_, ?_, fun id _ hi => ?_⟩⟩
  · intro id k hk
    rcases hpl id k hk with ⟨hi, hk⟩ | ⟨hi, hk⟩
    · have hlt := place_lt h hk
      have hne : k ≠ k0 := fun e => hi (h.inj id id0 k hk (by rw [e]; exact h0))
      obtain ⟨hb, hor⟩ := h.obj id k hk
      rw [hget_hset_other o hi]
      refine ⟨hb, hor.mono hle (hold k hlt hne) (fun a ha => ?_) (fun m => by rw [htl id hi])⟩
      cases hv : κ'.imm a with
      | none => cases hv' : κ.imm a with
        | none => rfl
        | some u => rw [hle.imm a u hv'] at hv; cases hv
      | some v => rcases (himm a v hv).2 with h1 | h1 | h1
                  · exact h1.symm
                  · omega
                  · omega
    · rw [hi, hk, hget_hset_same o hid0]
      exact ⟨by rcases hnew with e | e; · rw [e]; exact hb0
                · exact Nat.le_trans h.base e, ho⟩
  · intro id id' k h1 h2
    rcases hpl id k h1 with ⟨hi, hk⟩ | ⟨hi, hk⟩ <;> rcases hpl id' k h2 with ⟨hi', hk'⟩ | ⟨hi', hk'⟩
    · exact h.inj id id' k hk hk'
    · rcases hnew with e | e
      · exact absurd (h.inj id id0 k hk (by rw [hk', e]; exact h0)) hi
      · have := place_lt h hk; omega
    · rcases hnew with e | e
      · exact absurd (h.inj id' id0 k hk' (by rw [hk, e]; exact h0)) hi'
      · have := place_lt h hk'; omega
    · omega
  · intro id hid
    rw [hset_length] at hid
    rw [hloc, htl id (by omega)]
    exact h.fresh id hid
  · intro id k hk
    rcases hpl id k hk with ⟨hi, hk⟩ | ⟨_, hk⟩
    · exact .inl ⟨id, hk⟩
    · subst hk
      rcases hnew with e | e
      · exact .inl ⟨id0, by rw [e]; exact h0⟩
      · exact .inr e
  · intro a v hv
    rcases (himm a v hv).2 with h1 | h1 | h1
    · exact .inl h1
    · exact .inr (.inl h1)
    · exact .inr (.inr ⟨id0, by rw [h1]; exact h0⟩)
  · have hne : id ≠ id0 := fun e => by
      subst e
      have : place κ id (hget H id) = none := by cases hget H id <;> simp [place, hi.1, hi.2]
      rw [this] at h0; cases h0
    exact ⟨hget_hset_other o hne, by rw [hloc]; exact hi.1, by rw [htl id hne]; exact hi.2⟩

theorem Same.alloc (w : World) (o : Obj) : Same w (w.alloc o) := ⟨rfl, rfl, rfl, Nat.le_refl _, by simp⟩
theorem Same.refl (w : World) : Same w w := ⟨rfl, rfl, rfl, Nat.le_refl _, Nat.le_refl _⟩
theorem Same.trans {a b c : World} (h : Same a b) (g : Same b c) : Same a c := ⟨g.os.trans h.os, g.tape.trans h.tape, g.output.trans h.output, Nat.le_trans h.drawn g.drawn, Nat.le_trans h.size g.size⟩
theorem Same.drew (w : World) : Same w w.drew := ⟨rfl, rfl, rfl, Nat.le_succ _, Nat.le_refl _⟩

/-- A draw. -/
theorem SRel.drew {Γ : Ctx} {base : Nat} {κ : K} {H : Heap} {w : World} (h : SRel Γ base κ H w) : SRel Γ base κ H w.drew ∧ Grow κ H w κ H w.drew :=
  h.turnNone (Same.drew w) κ.le_refl rfl rfl (fun _ _ => rfl) (fun _ _ h => .inl h)

/-- An object that nobody of the abstract machine knows. -/
theorem SRel.allocOther {Γ : Ctx} {base : Nat} {κ : K} {H : Heap} {w : World} (h : SRel Γ base κ H w) (o : Obj) : SRel Γ base κ H (w.alloc o) ∧ Grow κ H w κ H (w.alloc o) :=
  h.turnNone (Same.alloc w o) κ.le_refl rfl rfl (fun k hk => heap_alloc_old w o k hk) (fun _ _ h => .inl h)

def K.at (κ : K) (id k : Nat) : K := { κ with loc := fun i => if i = id then some k else κ.loc i }
theorem K.le_at (κ : K) {id k : Nat} (h : κ.loc id = none) : κ.le (κ.at id k) :=
  ⟨fun i j hj => by
    show (if i = id then some k else κ.loc i) = some j
    split
    · rename_i e; subst e; rw [h] at hj; cases hj
    · exact hj, fun _ _ h => h, fun _ _ _ h => h⟩

theorem SRel.imm_none {Γ : Ctx} {base : Nat} {κ : K} {H : Heap} {w : World} (h : SRel Γ base κ H w) (a : Addr) (ha : w.heap.size ≤ a.block) : κ.imm a = none := by
  cases hv : κ.imm a with
  | none => rfl
  | some v => have := block_lt (h.imm a v hv); omega

/-- A new block of plain cells. -/
theorem SRel.newP {Γ : Ctx} {base : Nat} {κ : K} {H : Heap} {w : World} (h : SRel Γ base κ H w) (cs : List PV) (c rest : List Value) (e : TypeId) (hc : PRels κ.imm cs c) (h1 : Ones c) :
    SRel Γ base (κ.at H.length w.heap.size) (H ++ [.pcells cs]) (w.alloc (.cells (c ++ rest).toArray e)) ∧ Grow κ H w (κ.at H.length w.heap.size) (H ++ [.pcells cs]) (w.alloc (.cells (c ++ rest).toArray e)) := by
  refine h.turnNew (.pcells cs) w.heap.size (Same.alloc w _) (κ.le_at (h.fresh _ (Nat.le_refl _)).1) (fun i hi => by simp [K.at, hi]) (fun _ _ => rfl)
    (fun k hk => heap_alloc_old w _ k hk) (fun _ _ h => .inl h) (by simp [place, K.at]) (Nat.le_refl _) ⟨c, rest, e, heap_alloc_new w _, hc, fun a ha => h.imm_none a (by omega), h1⟩
/-- A new block of any cells. -/
theorem SRel.newC {Γ : Ctx} {base : Nat} {κ : K} {H : Heap} {w : World} (h : SRel Γ base κ H w) (cs : List AV) (c rest : List Value) (e : TypeId) (hc : VRels κ cs c) (h1 : Ones c) :
    SRel Γ base (κ.at H.length w.heap.size) (H ++ [.cells cs]) (w.alloc (.cells (c ++ rest).toArray e)) ∧ Grow κ H w (κ.at H.length w.heap.size) (H ++ [.cells cs]) (w.alloc (.cells (c ++ rest).toArray e)) := by
  have hle := κ.le_at (k := w.heap.size) (h.fresh H.length (Nat.le_refl _)).1
  refine h.turnNew (.cells cs) w.heap.size (Same.alloc w _) hle (fun i hi => by simp [K.at, hi]) (fun _ _ => rfl)
    (fun k hk => heap_alloc_old w _ k hk) (fun _ _ h => .inl h) (by simp [place, K.at]) (Nat.le_refl _) ⟨c, rest, e, heap_alloc_new w _, hc.mono hle, fun a ha => h.imm_none a (by omega), h1⟩
theorem K.at_same (κ : K) (id k : Nat) : (κ.at id k).loc id = some k := by simp [K.at]

/-- Cells of a block that stay as they are, from now on: the first n of block k. -/
def K.keep (κ : K) (k n : Nat) (c : List Value) : K :=
  { κ with imm := fun a => match κ.imm a with | some v => some v | none => if a.block = k ∧ a.spot = none ∧ a.off < n then c[a.off]? else none }
theorem K.le_keep (κ : K) (k n : Nat) (c : List Value) : κ.le (κ.keep k n c) := ⟨fun _ _ h => h, fun a v h => by simp [K.keep, h], fun _ _ _ h => h⟩
theorem K.keep_some {κ : K} {k n : Nat} {c : List Value} {a : Addr} {v : Value} (h : (κ.keep k n c).imm a = some v) : κ.imm a = some v ∨ (a.block = k ∧ a.spot = none ∧ a.off < n ∧ c[a.off]? = some v) := by
  simp only [K.keep] at h
  split at h
  · rename_i u hu; exact .inl (hu.trans h)
  · split at h
    · rename_i h1; exact .inr ⟨h1.1, h1.2.1, h1.2.2, h⟩
    · cases h
theorem K.keep_at {κ : K} {k n : Nat} {c : List Value} {j : Nat} {v : Value} (h0 : κ.imm ⟨k, j, none⟩ = none) (hj : j < n) (hv : c[j]? = some v) : (κ.keep k n c).imm ⟨k, j, none⟩ = some v := by
  simp [K.keep, h0, hj, hv]

theorem addr_add_lit (k i : Nat) : (⟨k, 0, none⟩ : Addr).add i = ⟨k, i, none⟩ := by unfold Addr.add; split <;> simp_all
theorem addr_add_lit' (k o i : Nat) : (⟨k, o, none⟩ : Addr).add i = ⟨k, o + i, none⟩ := by unfold Addr.add; split <;> simp_all
theorem addr_add_add (a : Addr) (i j : Nat) : (a.add i).add j = a.add (i + j) := by
  unfold Addr.add
  by_cases hi : i = 0
  · subst hi; simp
  · by_cases hj : j = 0
    · subst hj; simp [hi]
    · simp [hi, hj, Nat.add_assoc]
/-- A new row of cells that stay. -/
theorem SRel.newRow {Γ : Ctx} {base : Nat} {κ : K} {H : Heap} {w : World} (h : SRel Γ base κ H w) (c : List Value) (e : TypeId) (fr : Nat × Nat) :
    SRel Γ base (κ.keep w.heap.size c.length c) H (w.alloc (.cells c.toArray e fr)) ∧ Grow κ H w (κ.keep w.heap.size c.length c) H (w.alloc (.cells c.toArray e fr)) ∧
      ∀ (j : Nat) (v : Value), c[j]? = some v → (κ.keep w.heap.size c.length c).imm ((⟨w.heap.size, 0, none⟩ : Addr).add j) = some v := by
  have hnew : (w.alloc (.cells c.toArray e fr)).heap[w.heap.size]? = some (.cells c.toArray e fr) := heap_alloc_new w _
  have hg := h.turnNone (κ' := κ.keep w.heap.size c.length c) (Same.alloc w (.cells c.toArray e fr)) (κ.le_keep _ _ _) rfl rfl (fun k hk => heap_alloc_old w _ k hk) (fun a v hv => by
    rcases K.keep_some hv with h1 | ⟨h1, h2, _, h4⟩
    · exact .inl h1
    · refine .inr ⟨by omega, ?_⟩
      unfold World.cell?
      rw [h1, hnew]
      simp [h2, h4])
  refine ⟨hg.1, hg.2, fun j v hv => ?_⟩
  rw [addr_add_lit]
  exact K.keep_at (h.imm_none _ (by simp)) (List.getElem?_eq_some_iff.1 hv).1 hv
end Go.VM

namespace Go.VM
open Go

section runs
variable {P : Program}
theorem run_isAgg' {t : TypeId} {b : Bool} (h : aggT P t = some b) (w : World) : (isAgg t).run P w = .ok b w := by
  unfold aggT at h
  cases hu : P.underlying t with
  | none => rw [hu] at h; simp at h
  | some d =>
    rw [hu] at h
    simp only [isAgg, Sem.run_bind, run_underlying hu, Result.andThen_ok]
    cases d <;> simp at h <;> subst h <;> rfl
theorem run_sizeOf' {t : TypeId} {n : Nat} (h : sizeT P t = some n) (w : World) : (sizeOf t).run P w = .ok n w := by
  unfold sizeT at h
  cases hi : P.info? t with
  | none => rw [hi] at h; simp at h
  | some i =>
    rw [hi] at h; simp at h
    simp [sizeOf, typeInfo, hi, h]
end runs

theorem scalarPV_rel (I : Imm) {v : Value} {p : PV} (h : scalarPV v = some p) : PRel I p v ∧ v.oneCell' = true := by
  unfold scalarPV at h
  split at h <;> first | (injection h with h; subst h; first | exact ⟨.slNil _ (by simp) (by simp), rfl⟩ | exact ⟨by constructor, rfl⟩) | cases h
theorem scalarsPV_rel (I : Imm) {l : List Value} {ps : List PV} (h : scalarsPV l = some ps) : PRels I ps l ∧ Ones l := by
  induction l generalizing ps with
  | nil => simp [scalarsPV] at h; subst h; exact ⟨.nil, .nil⟩
  | cons v l ih =>
    simp only [scalarsPV] at h
    split at h
    · rename_i p qs h1 h2
      injection h with h; subst h
      obtain ⟨a, b⟩ := scalarPV_rel I h1
      obtain ⟨c, d⟩ := ih h2
      exact ⟨.cons _ _ _ _ a c, .cons b d⟩
    · cases h
theorem constPV_rel (I : Imm) {v : Value} {p : PV} (h : constPV v = some p) : PRel I p v := by
  unfold constPV at h
  split at h
  · rename_i cs
    simp only [Option.map_eq_some_iff] at h
    obtain ⟨ps, h1, rfl⟩ := h
    obtain ⟨a, b⟩ := scalarsPV_rel I h1
    have := PRel.agg ps cs.toList a b
    simpa using this
  · rename_i vs
    split at h
    · rename_i he
      injection h with h; subst h
      have : vs = ([] : List Value).toArray := by rw [← he]
      rw [this]
      exact .tup [] [] .nil
    · cases h
  · exact (scalarPV_rel I h).1

def RRel (κ : K) (r : Regs) (a : Act) : Prop := ∀ t, VRel κ (r t) (a.tmps.getD t undef)

theorem RRel.mono {κ κ' : K} (h : κ.le κ') {r : Regs} {a : Act} (g : RRel κ r a) : RRel κ' r a := fun t => (g t).mono h

theorem opd_rel {κ : K} {r : Regs} {a : Act} (hr : RRel κ r a) {x : Operand} {y : Opd} (h : compOpd x = some y) : VRel κ (y.ev r) (a.eval x) := by
  cases x with
  | tmp t => simp [compOpd] at h; subst h; exact hr t
  | const v =>
    simp only [compOpd, Option.map_eq_some_iff] at h
    obtain ⟨p, h1, rfl⟩ := h
    exact .pv _ _ (constPV_rel _ h1)
  | global g => simp [compOpd] at h
  | func f =>
    simp [compOpd] at h; subst h
    have := PRel.fn (I := κ.imm) f [] [] [] [] .nil .nil
    exact .pv _ _ this
theorem opds_rel {κ : K} {r : Regs} {a : Act} (hr : RRel κ r a) {xs : List Operand} {ys : List Opd} (h : compOpds xs = some ys) : VRels κ (ys.map (Opd.ev r)) (xs.map a.eval) := by
  induction xs generalizing ys with
  | nil => simp [compOpds] at h; subst h; exact .nil
  | cons x xs ih =>
    simp only [compOpds] at h
    split at h
    · rename_i u us h1 h2
      injection h with h; subst h
      exact .cons _ _ _ _ (opd_rel hr h1) (ih h2)
    · cases h
theorem opt_rel {κ : K} {r : Regs} {a : Act} (hr : RRel κ r a) {x : Option Operand} {y : Option Opd} (h : compOpt x = some y) :
    (x = none ∧ y = none) ∨ ∃ u v, x = some u ∧ y = some v ∧ VRel κ (v.ev r) (a.eval u) := by
  cases x with
  | none => simp [compOpt] at h; exact .inl ⟨rfl, h.symm⟩
  | some u =>
    simp only [compOpt, Option.map_eq_some_iff] at h
    obtain ⟨v, h1, rfl⟩ := h
    exact .inr ⟨u, v, rfl, rfl, opd_rel hr h1⟩

/-! ### reading -/
theorem app_get {c rest : List Value} {j : Nat} {v : Value} (h : c[j]? = some v) : (c ++ rest)[j]? = some v := by
  rw [List.getElem?_append_left (List.getElem?_eq_some_iff.1 h).1]; exact h
theorem cell_at {w : World} {k off : Nat} {c : List Value} {e : TypeId} {fr : Nat × Nat} {v : Value} (h : w.heap[k]? = some (.cells c.toArray e fr)) (hv : c[off]? = some v) : w.cell? ⟨k, off, none⟩ = some v := by
  simp [World.cell?, h, hv]

/-- What a pointer's cells are, if n of them can be read. -/
theorem ptr_cells {Γ : Ctx} {base : Nat} {κ : K} {H : Heap} {w : World} (hs : SRel Γ base κ H w) {id k : Nat} (hl : κ.loc id = some k) :
    (∀ cs, hget H id = .pcells cs → ∃ (c rest : List Value) (e : TypeId), w.heap[k]? = some (.cells (c ++ rest).toArray e (0, 0)) ∧ PRels κ.imm cs c ∧ Ones c ∧ base ≤ k) ∧
    (∀ cs, hget H id = .cells cs → ∃ (c rest : List Value) (e : TypeId), w.heap[k]? = some (.cells (c ++ rest).toArray e (0, 0)) ∧ VRels κ cs c ∧ Ones c ∧ base ≤ k) := by
  constructor
  · intro cs hg
    obtain ⟨hb, ho⟩ := hs.obj id k (by rw [hg]; exact hl)
    rw [hg] at ho
    obtain ⟨c, rest, e, h1, h2, _, h4⟩ := ho
    exact ⟨c, rest, e, h1, h2, h4, hb⟩
  · intro cs hg
    obtain ⟨hb, ho⟩ := hs.obj id k (by rw [hg]; exact hl)
    rw [hg] at ho
    obtain ⟨c, rest, e, h1, h2, _, h4⟩ := ho
    exact ⟨c, rest, e, h1, h2, h4, hb⟩

theorem PRel.one {I : Imm} {p : PV} {v : Value} (h : PRel I p v) (hp : p.one = true) : v.oneCell' = true := by
  cases h <;> first | rfl | simp [PV.one] at hp
theorem VRel.one {κ : K} {a : AV} {v : Value} (h : VRel κ a v) (ha : a.one = true) : v.oneCell' = true := by
  cases h with
  | pv p v h => cases h <;> first | rfl | simp [AV.one] at ha
  | agg => simp [AV.one] at ha
  | tup => simp [AV.one] at ha
  | any => simp [AV.one] at ha
  | _ => rfl

theorem mkAgg_rel {κ : K} {l : List AV} {vs : List Value} (h : VRels κ l vs) (h1 : Ones vs) : VRel κ (mkAgg l) (.agg vs.toArray) := by
  unfold mkAgg
  cases ha : allPV l with
  | some ps =>
    have := allPV_eq ha
    subst this
    exact .pv _ _ (.agg _ _ h.to_pv h1)
  | none => exact .agg _ _ h h1
theorem mkTup_rel {κ : K} {l : List AV} {vs : List Value} (h : VRels κ l vs) : VRel κ (mkTup l) (.tuple vs.toArray) := by
  unfold mkTup
  cases ha : allPV l with
  | some ps =>
    have := allPV_eq ha
    subst this
    exact .pv _ _ (.tup _ _ h.to_pv)
  | none => exact .tup _ _ h

/-- A row that may be written and grows, as it lies. -/
theorem row_cells {Γ : Ctx} {base : Nat} {κ : K} {H : Heap} {w : World} (hs : SRel Γ base κ H w) {id n es k cap : Nat} {cs : List AV} (hg : hget H id = .row n es cs) (htl : κ.tl id n = some (k, cap)) :
    place κ id (hget H id) = some k ∧ ∃ (c rest : List Value) (e : TypeId), w.heap[k]? = some (.cells (c ++ rest).toArray e (0, 0)) ∧ (c ++ rest).length = cap * es ∧ cap ≤ maxLen ∧ n ≤ cap ∧
      cs.length = n * es ∧ VRels κ cs c ∧ Ones c ∧ (∀ a : Addr, a.block = k → κ.imm a = none) ∧ ∀ m, n < m → κ.tl id m = none := by
  have hp : place κ id (hget H id) = some k := by rw [hg]; simp [place, htl]
  refine ⟨hp, ?_⟩
  obtain ⟨_, ho⟩ := hs.obj id k hp
  rw [hg] at ho
  obtain ⟨cap', c, rest, e, h1, h2, h3, h4, h5, h6, h7, h8, h9, h10⟩ := ho
  rw [htl] at h1; injection h1 with h1; injection h1 with _ h1; subst h1
  exact ⟨c, rest, e, h2, h3, h4, h5, h6, h7, h8, h9, h10⟩

section load
variable {Γ : Ctx} {base : Nat} {κ : K} {H : Heap} {w : World} {R : Type}

theorem load1_rel (hs : SRel Γ base κ H w) {p v : AV} {pv : Value} (hp : VRel κ p pv) (he : load1K p H (fun v => some v) = some v) {t : TypeId} (ht : aggT Γ.P t = some false) :
    ∃ v', (Instr.loadAt t pv).run Γ.P w = .ok v' w ∧ VRel κ v v' := by
  have key : ∀ (a : Addr) (v' : Value), pv = .pointer (some a) → w.cell? a = some v' → (Instr.loadAt t pv).run Γ.P w = .ok v' w := by
    intro a v' e hc
    subst e
    simp [Instr.loadAt, Instr.sureAddr, loadVar, run_isAgg' ht, hc]
  cases hp with
  | ptr id off k hl =>
    simp only [load1K, hgetK_def] at he
    obtain ⟨h1, h2⟩ := ptr_cells hs hl
    split at he
    · rename_i cs hg
      rw [getK_def] at he
      obtain ⟨c, rest, e, hw, hr, _, _⟩ := h1 cs hg
      cases hq : cs[off]? with
      | none => rw [hq] at he; simp at he
      | some q =>
        rw [hq] at he; simp at he; subst he
        obtain ⟨v', hv', hrel⟩ := hr.get hq
        exact ⟨v', key _ _ rfl (cell_at hw (app_get hv')), .pv _ _ hrel⟩
    · rename_i cs hg
      obtain ⟨c, rest, e, hw, hr, _, _⟩ := h2 cs hg
      cases hq : lget cs off with
      | none => rw [hq] at he; simp at he
      | some q =>
        rw [hq] at he; simp at he; subst he
        obtain ⟨v', hv', hrel⟩ := hr.get hq
        exact ⟨v', key _ _ rfl (cell_at hw (app_get hv')), hrel⟩
    · cases he
  | rptr cs off a vs hr hi _ =>
    simp only [load1K, getK_def] at he
    cases hq : cs[off]? with
    | none => rw [hq] at he; simp at he
    | some q =>
      rw [hq] at he; simp at he; subst he
      obtain ⟨v', hv', hrel⟩ := hr.get hq
      exact ⟨v', key _ _ rfl (hs.imm _ _ (hi _ _ hv')), .pv _ _ hrel⟩
  | gptr id n off k cap htl =>
    simp only [load1K, hgetK_def] at he
    cases hg : hget H id with
    | row n' es cs =>
      rw [hg] at he; dsimp only [rowK] at he
      rw [needK_def] at he
      cases hb : Nat.beq n' n with
      | false => rw [hb] at he; cases he
      | true =>
        rw [hb] at he; simp only [cond_true] at he
        have := Nat.eq_of_beq_eq_true hb; subst this
        rw [getK_def] at he
        obtain ⟨_, c, rest, e, hw, _, _, _, _, hr, _⟩ := row_cells hs hg htl
        cases hq : cs[off]? with
        | none => rw [hq] at he; simp at he
        | some q =>
          rw [hq] at he; simp at he; subst he
          obtain ⟨v', hv', hrel⟩ := hr.get (by rw [lget_eq]; exact hq)
          exact ⟨v', key _ _ rfl (cell_at hw (app_get hv')), hrel⟩
    | _ => rw [hg] at he; cases he
  | _ => simp [load1K] at he

theorem loadN_rel (hs : SRel Γ base κ H w) {n : Nat} {p v : AV} {pv : Value} (hp : VRel κ p pv) (he : loadNK n p H (fun v => some v) = some v) {t : TypeId} (ht : aggT Γ.P t = some true) (hn : sizeT Γ.P t = some n) :
    ∃ v', (Instr.loadAt t pv).run Γ.P w = .ok v' w ∧ VRel κ v v' := by
  have key : ∀ (a : Addr) (l : List Value), pv = .pointer (some a) → l.length = n → (∀ (j : Nat) (v : Value), l[j]? = some v → w.cell? (a.add j) = some v) → (Instr.loadAt t pv).run Γ.P w = .ok (.agg l.toArray) w := by
    intro a l e hl hc
    subst e
    have := run_loadCells_list (P := Γ.P) w a l hc
    rw [hl] at this
    simp [Instr.loadAt, Instr.sureAddr, loadVar, run_isAgg' ht, run_sizeOf' hn, this]
  have seg : ∀ (l : List Value) (off : Nat), off + n ≤ l.length → ((l.drop off).take n).length = n := by intro l off h; simp; omega
  have segget : ∀ (l : List Value) (off j : Nat) (v : Value), ((l.drop off).take n)[j]? = some v → l[off + j]? = some v := by
    intro l off j v h
    rw [List.getElem?_take] at h
    split at h
    · rwa [List.getElem?_drop] at h
    · cases h
  cases hp with
  | ptr id off k hl =>
    simp only [loadNK, hgetK_def] at he
    obtain ⟨h1, h2⟩ := ptr_cells hs hl
    split at he
    · rename_i cs hg
      rw [secK_def] at he
      obtain ⟨c, rest, e, hw, hr, hones, _⟩ := h1 cs hg
      cases hb : Nat.ble (off + n) cs.length with
      | false => rw [hb] at he; simp at he
      | true =>
        rw [hb] at he; simp at he; subst he
        have hle : off + n ≤ c.length := by rw [← hr.length]; exact Nat.le_of_ble_eq_true hb
        refine ⟨_, key _ ((c.drop off).take n) rfl (seg c off hle) (fun j v hv => ?_), .pv _ _ (.agg _ _ ((hr.drop off).take n) ((hones.drop off).take n))⟩
        rw [addr_add_lit']
        exact cell_at hw (app_get (segget c off j v hv))
    · rename_i cs hg
      obtain ⟨c, rest, e, hw, hr, hones, _⟩ := h2 cs hg
      cases hb : Nat.ble (off + n) cs.length with
      | false => rw [hb] at he; simp at he
      | true =>
        rw [hb] at he; simp at he; subst he
        have hle : off + n ≤ c.length := by rw [← hr.length]; exact Nat.le_of_ble_eq_true hb
        refine ⟨_, key _ ((c.drop off).take n) rfl (seg c off hle) (fun j v hv => ?_), mkAgg_rel ((hr.drop off).take n) ((hones.drop off).take n)⟩
        rw [addr_add_lit']
        exact cell_at hw (app_get (segget c off j v hv))
    · cases he
  | rptr cs off a vs hr hi hones =>
    simp only [loadNK, secK_def] at he
    cases hb : Nat.ble (off + n) cs.length with
    | false => rw [hb] at he; simp at he
    | true =>
      rw [hb] at he; simp at he; subst he
      have hle : off + n ≤ vs.length := by rw [← hr.length]; exact Nat.le_of_ble_eq_true hb
      refine ⟨_, key _ ((vs.drop off).take n) rfl (seg vs off hle) (fun j v hv => ?_), .pv _ _ (.agg _ _ ((hr.drop off).take n) ((hones.drop off).take n))⟩
      rw [addr_add_add]
      exact hs.imm _ _ (hi _ _ (segget vs off j v hv))
  | gptr id m off k cap htl =>
    simp only [loadNK, hgetK_def] at he
    cases hg : hget H id with
    | row n' es cs =>
      rw [hg] at he; dsimp only [rowK] at he
      rw [needK_def] at he
      cases hb : Nat.beq n' m with
      | false => rw [hb] at he; cases he
      | true =>
        rw [hb] at he; simp only [cond_true] at he
        have := Nat.eq_of_beq_eq_true hb; subst this
        rw [secK_def] at he
        obtain ⟨_, c, rest, e, hw, _, _, _, _, hr, hones, _⟩ := row_cells hs hg htl
        cases hb2 : Nat.ble (off + n) cs.length with
        | false => rw [hb2] at he; simp at he
        | true =>
          rw [hb2] at he; simp at he; subst he
          have hle : off + n ≤ c.length := by rw [← hr.length]; exact Nat.le_of_ble_eq_true hb2
          refine ⟨_, key _ ((c.drop off).take n) rfl (seg c off hle) (fun j v hv => ?_), mkAgg_rel ((hr.drop off).take n) ((hones.drop off).take n)⟩
          rw [addr_add_lit']
          exact cell_at hw (app_get (segget c off j v hv))
    | _ => rw [hg] at he; cases he
  | _ => simp [loadNK] at he
end load
end Go.VM
