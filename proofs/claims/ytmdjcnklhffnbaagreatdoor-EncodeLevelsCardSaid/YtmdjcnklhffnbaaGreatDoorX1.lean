/- The abstract machine: definitions alone. A deterministic evaluator over abstract values (slices as functional lists, local variables as keyed objects), to be proved sound against the model's run (AbsSound..). What stands behind a call may be handed to it: runs with a continuation. The relation between abstract values and the model's values in a world. The relation between abstract states and the model's frames. Keys, structs of scalars: compared by their cells. Soundness of the pure operations, first part: operands, numbers, strings. Soundness of the pure operations, second part: memory that is read. Soundness of the pure operations, third part: slices, conversions, tuples, functions. -/
import Derived.Calls
import Derived.Below
import Derived.Laws.Cells
import Derived.Laws.StructEq
import Derived.ChangeKeysEq
import Derived.WideKeyRuns
import Derived.Laws.Concat
import Derived.Laws.Cover1
import Derived.Laws.Tables
import Derived.Lib.Strings
import Derived.Laws.BytesArg
import Derived.Laws.BytesString
import Derived.Laws.Slices
import Derived.Laws.IdiomStrings
import Derived.Laws.Runes
namespace Go.Ab
open Go

/-- Who may grow a slice in place: nobody that is known (no); its capacity is its length (fit); the owner of key k, while its length is the frontier (key). -/
inductive Own where
  | no
  | fit
  | key (k : Nat)

/-- The kinds of a key's cells. -/
inductive KD where
  | bool
  | int (k : IntKind)
  | str
inductive AV : Type where
  | bool (b : Bool)
  | int (k : IntKind) (n : Int)
  | str (s : List UInt8)
  | nilp
  | nilf
  | nilm
  | nili
  /-- an interface value that is not nil -/
  | nni
  /-- some number of kind k -/
  | num (k : IntKind)
  | undef
  | sl (o : Own) (sz n : Nat) (get : Nat → List AV)
  | agg (cs : List AV)
  | arr (sz n : Nat) (get : Nat → List AV)
  | tup (vs : List AV)
  | ref (k off : Nat)
  | aref (k sz i off : Nat)
  | elt (cs : List AV) (off : Nat)
  | msl (k sz off len : Nat)
  /-- a slice that grows and whose elements may be stored into: all that key k holds -/
  | gsl (k sz n : Nat)
  /-- the address of a part of its i-th element, while it holds n -/
  | gref (k sz n i off : Nat)
  /-- a part of what key k holds, while it holds n: len elements from lo on -/
  | gsub (k sz n lo len : Nat)
  /-- a map: all that key k holds -/
  | mref (k : Nat)
  | fn (f : FuncId) (first caps : List AV)
  /-- a slot whose value is known only while slot t holds the bool w -/
  | grd (t : Nat) (w : Bool) (v : AV)

/-- An object: a variable of explicit cells; a row of n elements of sz cells; the frontier of a slice that grows; a frozen row; a string's iterator. -/
inductive AO where
  | cells (cs : List AV)
  | arr (sz n : Nat) (get : Nat → List AV)
  | frz (sz n : Nat) (get : Nat → List AV)
  | own (sz n : Nat)
  /-- a slice that grows, with its elements; q + 1: the first q of them are never written again, and a call that is handed it seals the rest -/
  | grw (q sz n : Nat) (get : Nat → List AV)
  | iter (s : List UInt8) (pos : Nat)
  /-- a map: its keys (of several cells or not, of which kinds), its elements -/
  | mp (ka : Bool) (ks : List KD) (dom : List AV → Bool) (get : List AV → AV)
  /-- nothing is known any more -/
  | gone

structure St where
  env : List (Nat × AV)
  objs : List (Nat × AO)

def alook {α : Type} : List (Nat × α) → Nat → Option α
  | [], _ => none
  | (k, v) :: r, i => cond (Nat.beq k i) (some v) (alook r i)

def aput {α : Type} : List (Nat × α) → Nat → α → List (Nat × α)
  | [], i, x => [(i, x)]
  | (k, v) :: r, i, x => cond (Nat.beq k i) ((k, x) :: r) ((k, v) :: aput r i x)

/-- May element i be written. -/
def sealOk : Nat → Nat → Bool
  | 0, _ => true
  | q + 1, i => Nat.ble q i
/-- What a slice that grows is once all its elements are frozen. -/
def frzO (q sz n : Nat) (get : Nat → List AV) : AO :=
  match q with
  | 0 => .own sz n
  | _ + 1 => .grw (n + 1) sz n get
def St.get (s : St) (t : Nat) : Option AV := alook s.env t
def St.put (s : St) (d : Option Nat) (v : AV) : St :=
  match d with
  | none => s
  | some d => { s with env := aput s.env d v }
def St.obj (s : St) (k : Nat) : Option AO := alook s.objs k
def St.setObj (s : St) (k : Nat) (o : AO) : St := { s with objs := aput s.objs k o }

mutual
/-- The keys that a value mentions. -/
def AV.keys : AV → List Nat
  | .sl (.key k) _ _ _ => [k]
  | .agg cs => keysL cs
  | .tup vs => keysL vs
  | .ref k _ => [k]
  | .aref k _ _ _ => [k]
  | .msl k _ _ _ => [k]
  | .gsl k _ _ => [k]
  | .gref k _ _ _ _ => [k]
  | .gsub k _ _ _ _ => [k]
  | .mref k => [k]
  | .fn _ a b => keysL a ++ keysL b
  | .grd _ _ v => v.keys
  | _ => []
def keysL : List AV → List Nat
  | [] => []
  | v :: r => v.keys ++ keysL r
end

mutual
/-- The value as somebody else may have it: nobody's to grow. -/
def AV.shed : AV → AV
  | .sl (.key _) sz n get => .sl .no sz n get
  | .agg cs => .agg (shedL cs)
  | .tup vs => .tup (shedL vs)
  | v => v
def shedL : List AV → List AV
  | [] => []
  | v :: r => v.shed :: shedL r
end

def shedP : List (Nat × AV) → List (Nat × AV)
  | [] => []
  | (i, v) :: r => (i, v.shed) :: shedP r

/-- A value of one cell. -/
def AV.one : AV → Bool
  | .agg _ | .arr .. | .tup _ | .undef | .grd .. => false
  | _ => true

def AV.isGrd : AV → Bool
  | .grd .. => true
  | _ => false

/-- The cells of a value. -/
def AV.cells : AV → List AV
  | .agg cs => cs
  | v => [v]

/-- The value of a model's plain value (constants, zero values). -/
def ofCell : Value → Option AV
  | .bool b => some (.bool b)
  | .int k n => some (.int k n)
  | .string s => some (.str s.data.toList)
  | .pointer none => some .nilp
  | .slice none 0 0 => some (.sl .fit 0 0 fun _ => [])
  | .map none => some .nilm
  | .nilFunc => some .nilf
  | .nilIface => some .nili
  | _ => none
def ofCells : List Value → Option (List AV)
  | [] => some []
  | v :: r => (ofCell v).bind fun a => (ofCells r).map fun l => a :: l
def ofValue : Value → Option AV
  | .agg cs => (ofCells cs.toList).map .agg
  | v => ofCell v

section
variable (P : Program)

def sizeOf? (t : TypeId) : Option Nat := (P.info? t).map (·.size)
def zeroCells (t : TypeId) : Option (List AV) := ((P.info? t).bind (·.zero)).bind fun v => ofCells v.cells.toList
def isAggD : TypeDesc → Bool
  | .struct _ | .array _ _ => true
  | _ => false
/-- The value of type t that these cells hold. -/
def ofPart (t : TypeId) (cs : List AV) (off : Nat) : Option AV :=
  match P.underlying t, sizeOf? P t with
  | some d, some n =>
    cond (isAggD d) (cond (Nat.ble (off + n) cs.length) (some (.agg ((cs.drop off).take n))) none)
      (match cs.drop off with | v :: _ => some v | [] => none)
  | _, _ => none

def setCells : List AV → Nat → List AV → Option (List AV)
  | cs, 0, [] => some cs
  | _ :: cs, 0, v :: vs => (setCells cs 0 vs).map fun l => v :: l
  | c :: cs, off + 1, vs => (setCells cs off vs).map fun l => c :: l
  | [], 0, _ :: _ => none
  | [], _ + 1, _ => none

/-- The guards under which an operation runs: slots and the bools that they hold. -/
abbrev Chain := List (Nat × Bool)
def Chain.has (ch : Chain) (t : Nat) (w : Bool) : Bool := ch.any fun p => Nat.beq p.1 t && p.2 == w

structure Ctx where
  s : St
  G : Nat → Option (List AV)
  ch : Chain

def evalO (c : Ctx) : Operand → Option AV
  | .tmp t => (match c.s.get t with
    | some (.grd tc w v) => cond (c.ch.has tc w && !v.isGrd) (some v) none
    | x => x)
  | .const v => ofValue v
  | .global g => (c.G g).map fun cs => .elt cs 0
  | .func f => some (.fn f [] [])

def evalL (c : Ctx) : List Operand → Option (List AV)
  | [] => some []
  | x :: r => (evalO c x).bind fun v => (evalL c r).map fun l => v :: l

def bytesLt (x y : List UInt8) : Bool := Op.bytesLess x y

/-- A pure operation answers: does it go through (else the program panics or leaves the model), and its value. -/
abbrev PV := Option (Bool × AV)
def ok1 (v : AV) : PV := some (true, v)

def intOp (op : BinOp) (k : IntKind) (x y : Int) : PV :=
  match op with
  | .add => ok1 (.int k (k.wrap (x + y)))
  | .sub => ok1 (.int k (k.wrap (x - y)))
  | .mul => ok1 (.int k (k.wrap (x * y)))
  | .quo => some (y != 0, .int k (k.wrap (x.tdiv y)))
  | .rem => some (y != 0, .int k (x.tmod y))
  | .and => ok1 (.int k (k.wrap (BitVec.ofInt k.bits x &&& BitVec.ofInt k.bits y).toNat))
  | .or => ok1 (.int k (k.wrap (BitVec.ofInt k.bits x ||| BitVec.ofInt k.bits y).toNat))
  | .xor => ok1 (.int k (k.wrap (BitVec.ofInt k.bits x ^^^ BitVec.ofInt k.bits y).toNat))
  | .andNot => ok1 (.int k (k.wrap (BitVec.ofInt k.bits x &&& ~~~(BitVec.ofInt k.bits y)).toNat))
  | .eql => ok1 (.bool (x == y))
  | .neq => ok1 (.bool (x != y))
  | .lss => ok1 (.bool (decide (x < y)))
  | .leq => ok1 (.bool (decide (x ≤ y)))
  | .gtr => ok1 (.bool (decide (x > y)))
  | .geq => ok1 (.bool (decide (x ≥ y)))
  | _ => none

def strOp (op : BinOp) (x y : List UInt8) : PV :=
  match op with
  | .add => some (Nat.ble (x.length + y.length) 4611686018427387904, .str (x ++ y))
  | .eql => ok1 (.bool (x == y))
  | .neq => ok1 (.bool (!(x == y)))
  | .lss => ok1 (.bool (bytesLt x y))
  | .leq => ok1 (.bool (bytesLt x y || x == y))
  | .gtr => ok1 (.bool (!(bytesLt x y || x == y)))
  | .geq => ok1 (.bool (!(bytesLt x y)))
  | _ => none

def shiftOp (op : BinOp) (k : IntKind) (x y : Int) : PV :=
  match op with
  | .shl => some (decide (0 ≤ y), .int k (k.wrap (x * 2 ^ (min y.toNat k.bits))))
  | .shr => some (decide (0 ≤ y), .int k (x.fdiv (2 ^ (min y.toNat k.bits))))
  | _ => none

def isShift : BinOp → Bool
  | .shl | .shr => true
  | _ => false

/-- Interface values, pointers: one is nil. -/
def nilEq : AV → AV → Option Bool
  | .nili, .nili => some true
  | .nili, .nni | .nni, .nili => some false
  | _, _ => none
/-- Comparison with nil; k: one of the two is a literal. -/
def isNilA (op : BinOp) (t : TypeId) (k : Bool) (x y : AV) : PV :=
  match P.underlying t with
  | some (.interface _) => (match nilEq x y with
    | some b => cond (b && !k) none (match op with | .eql => ok1 (.bool b) | .neq => ok1 (.bool (!b)) | _ => none)
    | none => none)
  | _ => none
def isConst : Operand → Bool
  | .const _ => true
  | _ => false

def guardO {α : Type} (b : Bool) (x : Option α) : Option α := cond b x none
def KD.fits : KD → AV → Bool
  | .bool, .bool _ => true
  | .int k, .int q _ => decide (k = q)
  | .str, .str _ => true
  | _, _ => false
def kdFits : List KD → List AV → Bool
  | [], [] => true
  | k :: r, v :: l => k.fits v && kdFits r l
  | _, _ => false
def eqC : AV → AV → Bool
  | .bool a, .bool b => a == b
  | .int k a, .int q b => decide (k = q) && a == b
  | .str a, .str b => a == b
  | _, _ => false
/-- Cells that are one for one the same. -/
def eqCs : List AV → List AV → Bool
  | [], [] => true
  | u :: l, v :: r => eqC u v && eqCs l r
  | _, _ => false
def kdOf (t : TypeId) : Option KD :=
  match P.underlying t with
  | some .bool => some .bool
  | some (.int k) => some (.int k)
  | some .string => some .str
  | _ => none
def kdsFields : Nat → List Field → Option (List KD)
  | _, [] => some []
  | i, f :: r => guardO (f.name != "_" && Nat.beq f.offset i) ((kdOf P f.type).bind fun k => (kdsFields (i + 1) r).map fun l => k :: l)
/-- A map's keys: are they of several cells; of which kinds. -/
def keyT (t : TypeId) : Option (Bool × List KD) :=
  match P.underlying t with
  | some (.struct fs) => guardO (!P.stoodInHeld t) ((kdsFields P 0 fs.toList).map fun l => (true, l))
  | some (.array n e) => (kdOf P e).bind fun k => guardO (sizeOf? P e == some 1) (some (true, List.replicate n k))
  | _ => (kdOf P t).map fun k => (false, [k])

def binA (op : BinOp) (t : TypeId) (k : Bool) (x y : AV) : PV :=
  match x, y with
  | .int k a, .int k' b => cond (isShift op) (shiftOp op k a b) (cond (decide (k = k')) (intOp op k a b) none)
  | .str a, .str b => strOp op a b
  | .bool a, .bool b => (match P.underlying t with
    | some .bool => (match op with | .eql => ok1 (.bool (a == b)) | .neq => ok1 (.bool (!(a == b))) | _ => none)
    | _ => none)
  | .agg a, .agg b => (match keyT P t with
    | some (true, ks) => guardO (kdFits ks a && (kdFits ks b && !P.eqGuardType P.depth t)) (match op with | .eql => ok1 (.bool (eqCs a b)) | .neq => ok1 (.bool (!(eqCs a b))) | _ => none)
    | _ => none)
  | x, y => isNilA P op t k x y

def unA (op : UnOp) (x : AV) : PV :=
  match op, x with
  | .neg, .int k n => ok1 (.int k (k.wrap (0 - n)))
  | .not, .bool b => ok1 (.bool (!b))
  | .xor, .int k n => ok1 (.int k (k.wrap (BitVec.ofInt k.bits (if k.signed then -1 else k.max) ^^^ BitVec.ofInt k.bits n).toNat))
  | _, _ => none

def byteOf : List AV → UInt8
  | [.int .u8 n] => UInt8.ofNat n.toNat
  | _ => 0
def isByte : List AV → Bool
  | [.int .u8 _] => true
  | _ => false
/-- A row of bytes as a string. -/
def bytesOf (n : Nat) (get : Nat → List AV) : List UInt8 := (List.range n).map fun j => byteOf (get j)
def allBytes (n : Nat) (get : Nat → List AV) : Bool := (List.range n).all fun j => isByte (get j)
/-- A string's bytes as a row. -/
def rowOf (s : List UInt8) : Nat → List AV := fun j => [.int .u8 (s.getD j 0).toNat]

/-- What is read of a slice: how many elements, and which cells. -/
def srcA (s : St) : AV → Option (Nat × Nat × (Nat → List AV))
  | .sl _ sz n get => some (sz, n, get)
  | .msl k sz off n =>
    (match s.obj k with
    | some (.arr sz' m get) => cond (Nat.beq sz sz' && Nat.ble (off + n) m) (some (sz, n, fun j => get (off + j))) none
    | some (.frz sz' m get) => cond (Nat.beq sz sz' && Nat.ble (off + n) m) (some (sz, n, fun j => get (off + j))) none
    | _ => none)
  | .gsl k sz n =>
    (match s.obj k with
    | some (.grw _ sz' m get) => cond (Nat.beq sz sz' && Nat.beq n m) (some (sz, n, get)) none
    | _ => none)
  | .gsub k sz n lo len =>
    (match s.obj k with
    | some (.grw _ sz' m get) => cond (Nat.beq sz sz' && (Nat.beq n m && Nat.ble (lo + len) n)) (some (sz, len, fun j => get (lo + j))) none
    | _ => none)
  | _ => none

def convA (s : St) (src dst : TypeId) (x : AV) : PV :=
  match P.underlying dst, x with
  | some (.int k), .int _ n => (match P.underlying src with | some (.int _) => ok1 (.int k (k.wrap n)) | _ => none)
  | some .string, .str s => (match P.underlying src with | some .string => ok1 (.str s) | _ => none)
  | some (.slice e), .str s => (match P.underlying e, P.underlying src with
    | some (.int .u8), some .string => some (Nat.ble s.length 140737488355328, .sl .no 1 s.length (rowOf s))
    | _, _ => none)
  | some .string, .int _ n => (match P.underlying src with | some (.int _) => ok1 (.str (Utf8.encode n).data.toList) | _ => none)
  | some .string, x => (match P.underlying src with
    | some (.slice e) => (match P.underlying e, srcA s x with
      | some (.int .u8), some (sz, n, get) => cond (Nat.beq sz 1 || Nat.beq n 0) (some (allBytes n get, .str (bytesOf n get))) none
      | _, _ => none)
    | _ => none)
  | _, _ => none

/-- A cap on every length: it keeps a row's bytes within the model's memory. -/
def roomy (bytes n : Nat) : Bool := Nat.ble (n * bytes) 140737488355328

def lenA (t : TypeId) (x : AV) : PV :=
  match P.underlying t, x with
  | some (.slice _), .sl _ _ n _ => ok1 (.int .i64 n)
  | some (.slice _), .msl _ _ _ n => ok1 (.int .i64 n)
  | some (.slice _), .gsl _ _ n => ok1 (.int .i64 n)
  | some (.slice _), .gsub _ _ _ _ n => ok1 (.int .i64 n)
  | some .string, .str s => ok1 (.int .i64 s.length)
  | some (.map _ _), .nilm => ok1 (.int .i64 0)
  | _, _ => none

/-- A part of a struct, by its field. -/
def fieldOf? (t : TypeId) (f : Nat) : Option Field :=
  match P.underlying t with
  | some (.struct fs) => fs[f]?
  | _ => none

/-- A type that takes up cells. -/
def solid (t : TypeId) : Bool :=
  match sizeOf? P t with
  | some (_ + 1) => true
  | _ => false

def fieldAddrA (t : TypeId) (f : Nat) (x : AV) : PV :=
  match fieldOf? P t f with
  | some fd => cond (solid P fd.type) (match x with
    | .ref k off => ok1 (.ref k (off + fd.offset))
    | .aref k sz i off => ok1 (.aref k sz i (off + fd.offset))
    | .gref k sz n i off => ok1 (.gref k sz n i (off + fd.offset))
    | .elt cs off => ok1 (.elt cs (off + fd.offset))
    | _ => none) none
  | none => none

/-- An index that lies within n, as a number. -/
def within (i : Int) (n : Nat) : Bool := decide (0 ≤ i) && decide (i < n)

def isNil {α : Type} : List α → Bool
  | [] => true
  | _ => false


def indexAddrA (s : St) (t : TypeId) (x i : AV) : PV :=
  match i with
  | .int _ i =>
    (match P.underlying t, x with
    | some (.slice e), .sl _ sz n get => guardO (sizeOf? P e == some sz) (some (within i n, .elt (get i.toNat) 0))
    | some (.slice e), .msl k sz off n => guardO (sizeOf? P e == some sz) (some (within i n, .aref k sz (off + i.toNat) 0))
    | some (.slice e), .gsl k sz n =>
      (match s.obj k with
      | some (.grw _ sz' m _) => guardO (sizeOf? P e == some sz && Nat.beq sz sz') (some (within i n && Nat.beq n m, .gref k sz n i.toNat 0))
      | _ => none)
    | some (.slice e), .gsub k sz n lo len =>
      (match s.obj k with
      | some (.grw _ sz' m _) => guardO (sizeOf? P e == some sz && Nat.beq sz sz') (some (within i len && (Nat.beq n m && Nat.ble (lo + len) n), .gref k sz n (lo + i.toNat) 0))
      | _ => none)
    | some (.array m e), .ref k 0 =>
      (match s.obj k with
      | some (.arr sz n _) => guardO (Nat.beq m n && (sizeOf? P e == some sz && Nat.blt 1 n)) (some (within i n, .aref k sz i.toNat 0))
      | _ => none)
    | some (.array m e), .elt cs off => (sizeOf? P e).map fun sz => (within i m, .elt cs (off + i.toNat * sz))
    | _, _ => none)
  | _ => none

def val1 (x : Option AV) : PV := x.map fun v => (true, v)

def loadA (s : St) (t : TypeId) (x : AV) : PV :=
  match x with
  | .elt cs off => val1 (ofPart P t cs off)
  | .ref k off =>
    (match s.obj k with
    | some (.cells cs) => val1 (ofPart P t cs off)
    | some (.arr sz n get) =>
      (match P.underlying t with
      | some (.array m e) => guardO (Nat.beq off 0 && (Nat.beq m n && (sizeOf? P e == some sz && sizeOf? P t == some (n * sz)))) (ok1 (.arr sz n get))
      | _ => none)
    | _ => none)
  | .aref k sz i off =>
    (match s.obj k with
    | some (.arr sz' n get) => guardO (Nat.beq sz sz') ((ofPart P t (get i) off).map fun v => (Nat.blt i n, v))
    | some (.frz sz' n get) => guardO (Nat.beq sz sz') ((ofPart P t (get i) off).map fun v => (Nat.blt i n, v))
    | _ => none)
  | .gref k sz m i off =>
    (match s.obj k with
    | some (.grw _ sz' n get) => guardO (Nat.beq sz sz') ((ofPart P t (get i) off).map fun v => (Nat.blt i n && Nat.beq m n, v))
    | _ => none)
  | _ => none

/-- Which values a cell may hold: those of one cell. -/
def allOne : List AV → Bool
  | [] => true
  | v :: r => v.one && allOne r

/-- A store: does it go through, and the object that it leaves. -/
def storeA (s : St) (t : TypeId) (x v : AV) : Option (Bool × Nat × AO) :=
  match x with
  | .ref k off =>
    (match s.obj k with
    | some (.cells cs) => guardO (allOne v.cells && (sizeOf? P t == some v.cells.length)) ((setCells cs off v.cells).map fun l => (true, k, .cells l))
    | some (.arr sz n _) =>
      (match v with
      | .arr sz' n' get' => guardO (Nat.beq off 0 && (Nat.beq sz sz' && (Nat.beq n n' && sizeOf? P t == some (n * sz)))) (some (true, k, .arr sz n get'))
      | _ => none)
    | _ => none)
  | .aref k sz' i off =>
    (match s.obj k with
    | some (.arr sz n get) =>
      guardO (Nat.beq sz sz' && (allOne v.shed.cells && (sizeOf? P t == some v.shed.cells.length && isNil (keysL v.shed.cells))))
        ((setCells (get i) off v.shed.cells).map fun l => (Nat.blt i n, k, .arr sz n fun j => cond (Nat.beq j i) l (get j)))
    | _ => none)
  | .gref k sz' m i off =>
    (match s.obj k with
    | some (.grw q sz n get) =>
      guardO (Nat.beq sz sz' && (allOne v.shed.cells && (sizeOf? P t == some v.shed.cells.length && isNil (keysL v.shed.cells))))
        ((setCells (get i) off v.shed.cells).map fun l => (Nat.ble q 1 && (Nat.blt i n && Nat.beq m n), k, .grw q sz n fun j => cond (Nat.beq j i) l (get j)))
    | _ => none)
  | _ => none

/-- Two plain cells that are one. -/
def sameZ : AV → AV → Bool
  | .bool x, .bool y => x == y
  | .int k m, .int q n => decide (k = q) && m == n
  | .str x, .str y => x == y
  | .nilp, .nilp | .nilf, .nilf | .nilm, .nilm | .nili, .nili => true
  | .sl .fit 0 0 _, .sl .fit 0 0 _ => true
  | _, _ => false
/-- Cells, cut off the front of a row. -/
def eatZ : List AV → List AV → Option (List AV)
  | [], r => some r
  | u :: z, v :: r => cond (sameZ u v) (eatZ z r) none
  | _ :: _, [] => none
def zeroRow (z : List AV) : Nat → List AV → Bool
  | 0, r => isNil r
  | n + 1, r => match eatZ z r with
    | some r => zeroRow z n r
    | none => false

/-- A new variable of type t. -/
def newA (t : TypeId) : Option AO :=
  match P.underlying t with
  | some (.array n e) => (zeroCells P e).bind fun z => (zeroCells P t).bind fun r => guardO (zeroRow z n r) (some (.arr z.length n fun _ => z))
  | some _ => (zeroCells P t).map fun z => .cells z
  | _ => none

def buildFill (P : Program) (fs : Array Field) : List AV → List (Nat × AV) → Option (List AV)
  | cs, [] => some cs
  | cs, (i, v) :: r =>
    match fs[i]? with
    | some f => guardO (allOne v.cells && (sizeOf? P f.type == some v.cells.length)) ((setCells cs f.offset v.cells).bind fun l => buildFill P fs l r)
    | none => none

/-- The elements of a slice's literal: those that are given, zero elsewhere. -/
def fillGet (z : List AV) : List (Nat × AV) → Nat → List AV
  | [], _ => z
  | (i, v) :: r, j => cond (Nat.beq i j) v.cells (fillGet z r j)

def fillOk (sz len : Nat) : List (Nat × AV) → Bool
  | [] => true
  | (i, v) :: r => allOne v.cells && (isNil (keysL v.cells) && (Nat.beq v.cells.length sz && (Nat.blt i len && fillOk sz len r)))

/-- no place is filled twice -/
def fillApart : List (Nat × AV) → Bool
  | [] => true
  | (i, _) :: r => r.all (fun p => !(Nat.beq p.1 i)) && fillApart r

def evalParts (c : Ctx) : List (Nat × Operand) → Option (List (Nat × AV))
  | [] => some []
  | (i, x) :: r => (evalO c x).bind fun v => (evalParts c r).map fun l => (i, v) :: l

def buildA (t : TypeId) (parts : List (Nat × AV)) : PV :=
  match P.underlying t with
  | some (.struct fs) => (zeroCells P t).bind fun z => cond (fs.toList.all fun f => (sizeOf? P f.type).isSome) ((buildFill P fs z parts).bind fun l => ok1 (.agg l)) none
  | some (.array n e) => (match parts with
    | [] => (zeroCells P e).bind fun z => (zeroCells P t).bind fun r => guardO (zeroRow z n r) (ok1 (.arr z.length n fun _ => z))
    | p :: ps => (zeroCells P e).bind fun z => (zeroCells P t).bind fun r => guardO (zeroRow z n r && (sizeOf? P e == some z.length && (fillOk z.length n (shedP (p :: ps)) && fillApart (p :: ps)))) (ok1 (.arr z.length n (fillGet z (shedP (p :: ps))))))
  | _ => none

def buildSliceA (t : TypeId) (len : Nat) (parts : List (Nat × AV)) : PV :=
  match P.underlying t with
  | some (.slice e) => (zeroCells P e).bind fun z =>
      guardO (sizeOf? P e == some z.length && (Nat.blt 0 z.length && (fillOk z.length len (shedP parts) && (fillApart parts && Nat.ble (len * z.length) 16777216)))) (ok1 (.sl .fit z.length len (fillGet z (shedP parts))))
  | _ => none

def extractA (x : AV) (i : Nat) : PV :=
  match x with
  | .tup vs => val1 vs[i]?
  | _ => none

def fieldA (t : TypeId) (f : Nat) (x : AV) : PV :=
  match fieldOf? P t f, x with
  | some fd, .agg cs => val1 (ofPart P fd.type cs fd.offset)
  | _, _ => none

def indexA (t : TypeId) (x i : AV) : PV :=
  match i with
  | .int _ i =>
    (match P.underlying t, x with
    | some (.array m e), .arr sz n get => guardO (Nat.beq m n && (sizeOf? P e == some sz)) ((ofPart P e (get i.toNat) 0).map fun v => (within i n, v))
    | some .string, .str s => some (within i s.length, .int .u8 (s.getD i.toNat 0).toNat)
    | _, _ => none)
  | _ => none

/-- A slice's bounds: low, high. -/
def bound (x : Option AV) (d : Nat) : Option Int :=
  match x with
  | none => some d
  | some (.int _ n) => some n
  | some _ => none

def sliceA (t : TypeId) (x : AV) (lo hi mx : Option AV) : PV :=
  match mx with
  | some (.int _ m) =>
    (match P.underlying t, x, hi with
    | some (.slice e), .sl _ sz n get, some (.int _ h) =>
      (bound lo 0).bind fun l => guardO (sizeOf? P e == some sz) (some (decide (0 ≤ l) && (decide (l ≤ h) && (decide (h = m) && decide (h ≤ n))),
        .sl .fit sz (h.toNat - l.toNat) fun j => get (l.toNat + j)))
    | _, _, _ => none)
  | some _ => none
  | none =>
    (match P.underlying t, x with
    | some .string, .str s =>
      (bound lo 0).bind fun l => (bound hi s.length).bind fun h => some (decide (0 ≤ l) && (decide (l ≤ h) && decide (h ≤ s.length)), .str ((s.drop l.toNat).take (h.toNat - l.toNat)))
    | some (.slice e), .sl _ sz n get =>
      (bound lo 0).bind fun l => (bound hi n).bind fun h => guardO (sizeOf? P e == some sz) (some (decide (0 ≤ l) && (decide (l ≤ h) && decide (h ≤ n)),
        .sl .no sz (h.toNat - l.toNat) fun j => get (l.toNat + j)))
    | some (.slice e), .msl k sz off n =>
      (bound lo 0).bind fun l => (bound hi n).bind fun h => guardO (sizeOf? P e == some sz) (some (decide (0 ≤ l) && (decide (l ≤ h) && decide (h ≤ n)),
        .msl k sz (off + l.toNat) (h.toNat - l.toNat)))
    | some (.slice e), .gsl k sz n =>
      (bound lo 0).bind fun l => (bound hi n).bind fun h => guardO (sizeOf? P e == some sz) (some (decide (0 ≤ l) && (decide (l ≤ h) && decide (h ≤ n)),
        .gsub k sz n l.toNat (h.toNat - l.toNat)))
    | some (.slice e), .gsub k sz n off len =>
      (bound lo 0).bind fun l => (bound hi len).bind fun h => guardO (sizeOf? P e == some sz) (some (decide (0 ≤ l) && (decide (l ≤ h) && decide (h ≤ len)),
        .gsub k sz n (off + l.toNat) (h.toNat - l.toNat)))
    | _, _ => none)

def max2A : AV → AV → Option AV
  | .int k x, .int k' y => guardO (decide (k = k')) (some (.int k (cond (decide (y > x)) y x)))
  | _, _ => none
def min2A : AV → AV → Option AV
  | .int k x, .int k' y => guardO (decide (k = k')) (some (.int k (cond (decide (y < x)) y x)))
  | _, _ => none
def foldA (f : AV → AV → Option AV) : AV → List AV → Option AV
  | x, [] => some x
  | x, y :: r => (f x y).bind fun z => foldA f z r
def fold1 (f : AV → AV → Option AV) : List AV → PV
  | [] => none
  | x :: r => val1 (foldA f x r)

def pickA (c a b : AV) : PV :=
  match c, a, b with
  | .bool c, .bool x, .bool y => ok1 (.bool (cond c x y))
  | .bool c, .undef, .bool y => cond c none (ok1 (.bool y))
  | .bool c, .bool x, .undef => cond c (ok1 (.bool x)) none
  | _, _, _ => none

/-- The appended elements. -/
def appGet (n m : Nat) (get get2 : Nat → List AV) : Nat → List AV :=
  fun j => cond (Nat.blt j n) (get j) (cond (Nat.blt j (n + m)) (get2 (j - n)) (get j))

/-- An append: does it go through, the key and the frontier that it leaves, the value. -/
def appendA (s : St) (d : Nat) (t : TypeId) (x y : AV) : Option (Bool × AV × Nat × AO) :=
  match P.underlying t with
  | some (.slice e) =>
    (match sizeOf? P e, zeroCells P e, P.info? e, x, srcA s y with
    | some sz, some z, some inf, .sl o sz0 n get, some (sz2, m, get2) =>
      guardO (Nat.blt 0 sz && (Nat.blt 0 inf.bytes && (Nat.beq z.length sz && ((Nat.beq sz0 sz || Nat.beq n 0) && (Nat.beq sz2 sz || Nat.beq m 0)))))
        (match o with
        | .no => none
        | .fit => (match s.obj d with
          | none => some (roomy inf.bytes (n + m), .sl (.key d) sz (n + m) (appGet n m get get2), d, .own sz (n + m))
          | some _ => none)
        | .key k => (match s.obj k with
          | some (.own sz1 fr) => guardO (Nat.beq sz1 sz) (some (roomy inf.bytes (n + m) && Nat.beq fr n, .sl (.key k) sz (n + m) (appGet n m get get2), k, .own sz (n + m)))
          | _ => none))
    | _, _, _, _, _ => none)
  | _ => none

/-- A type of strings. -/
def strT (t : TypeId) : Bool :=
  match P.underlying t with
  | some .string => true
  | _ => false
/-- A string appended to bytes. -/
def appendS (s : St) (d : Nat) (t : TypeId) (x : AV) (b : List UInt8) : Option (Bool × AV × Nat × AO) :=
  match P.underlying t with
  | some (.slice e) =>
    (match sizeOf? P e, zeroCells P e, P.info? e, P.underlying e, x with
    | some sz, some z, some inf, some (.int .u8), .sl o sz0 n get =>
      guardO (Nat.beq sz 1 && (Nat.blt 0 inf.bytes && (Nat.beq z.length sz && (Nat.beq sz0 sz || Nat.beq n 0))))
        (match o with
        | .no => none
        | .fit => (match s.obj d with
          | none => some (roomy inf.bytes (n + b.length), .sl (.key d) sz (n + b.length) (appGet n b.length get (rowOf b)), d, .own sz (n + b.length))
          | some _ => none)
        | .key k => (match s.obj k with
          | some (.own sz1 fr) => guardO (Nat.beq sz1 sz) (some (roomy inf.bytes (n + b.length) && Nat.beq fr n, .sl (.key k) sz (n + b.length) (appGet n b.length get (rowOf b)), k, .own sz (n + b.length)))
          | _ => none))
    | _, _, _, _, _ => none)
  | _ => none

def isGsl : AV → Bool
  | .gsl .. => true
  | _ => false
def isGsub : AV → Bool
  | .gsub .. => true
  | _ => false

/-- An append whose slice may be stored into. -/
def appendM (s : St) (d : Nat) (t : TypeId) (x y : AV) : Option (Bool × AV × Nat × AO) :=
  match P.underlying t with
  | some (.slice e) =>
    (match sizeOf? P e, zeroCells P e, P.info? e, srcA s y with
    | some sz, some z, some inf, some (sz2, m, get2) =>
      guardO (Nat.blt 0 sz && (Nat.blt 0 inf.bytes && (Nat.beq z.length sz && (Nat.beq sz2 sz || Nat.beq m 0))))
        (match x with
        | .sl .fit sz0 n get => guardO ((Nat.beq sz0 sz || Nat.beq n 0) && (cond (Nat.beq n 0) true (Nat.blt 0 m)))
          (match s.obj d with
          | none => some (roomy inf.bytes (n + m), .gsl d sz (n + m), d, .grw 0 sz (n + m) (appGet n m get get2))
          | some _ => none)
        | .gsl k sz0 n => guardO (Nat.beq sz0 sz)
          (match s.obj k with
          | some (.grw q sz1 fr get) => guardO (Nat.beq sz1 sz) (some (roomy inf.bytes (n + m) && Nat.beq fr n, .gsl k sz (n + m), k, .grw q sz (n + m) (appGet n m get get2)))
          | _ => none)
        | _ => none)
    | _, _, _, _ => none)
  | _ => none

/-- One operand, said twice. -/
def opSame : Operand → Operand → Bool
  | .tmp a, .tmp b => Nat.beq a b
  | .const (.int _ a), .const (.int _ b) => a == b
  | _, _ => false
def makeSliceA (s : St) (d : Nat) (t : TypeId) (same : Bool) (l c : AV) : Option (Bool × AV × Nat × AO) :=
  match P.underlying t, l, c with
  | some (.slice e), .int .i64 l, .int .i64 c =>
    (match zeroCells P e, P.info? e, s.obj d with
    | some z, some inf, none =>
      guardO (Nat.beq z.length inf.size && Nat.blt 0 inf.size)
        (cond same (some (decide (l = c) && (decide (0 ≤ c) && (roomy inf.bytes c.toNat && decide (c ≤ 140737488355328))), .msl d z.length 0 c.toNat, d, .arr z.length c.toNat fun _ => z))
          (some (decide (l = 0) && (decide (0 ≤ c) && (roomy inf.bytes c.toNat && decide (c ≤ 140737488355328))), .sl (.key d) z.length 0 (fun _ => z), d, .own z.length 0)))
    | _, _, _ => none)
  | _, _, _ => none
def kdEq : KD → KD → Bool
  | .bool, .bool => true
  | .int k, .int q => decide (k = q)
  | .str, .str => true
  | _, _ => false
def kdsEq : List KD → List KD → Bool
  | [], [] => true
  | k :: r, q :: l => kdEq k q && kdsEq r l
  | _, _ => false
/-- The cells of a row of one-celled elements. -/
def arrCells (get : Nat → List AV) : Nat → Nat → List AV
  | _, 0 => []
  | i, n + 1 => get i ++ arrCells get (i + 1) n
/-- A key's cells. -/
def keyCells : AV → Bool × List AV
  | .agg cs => (true, cs)
  | .arr 1 n get => (true, arrCells get 0 n)
  | v => (false, [v])
/-- Does a map hold keys like u. -/
def keyFit (kt : TypeId) (ka : Bool) (ks : List KD) (u : AV) : Bool :=
  match keyT P kt with
  | some (a, l) => (a == ka) && (kdsEq l ks && (((keyCells u).1 == ka) && kdFits ks (keyCells u).2))
  | none => false
def zeroA (t : TypeId) : Option AV := ((P.info? t).bind (·.zero)).bind ofValue
/-- A look-up: is it there; its value; the value if it is not. -/
def lookA (s : St) (t : TypeId) (x i : AV) : Option (Bool × AV × AV) :=
  match P.underlying t, x with
  | some (.map kt et), .mref k => (zeroA P et).bind fun z => (match s.obj k with
    | some (.mp ka ks dom get) => guardO (keyFit P kt ka ks i) (some (dom (keyCells i).2, get (keyCells i).2, z))
    | _ => none)
  | _, _ => none
def lookV (ok b : Bool) (v : AV) : AV := cond ok (.tup [v, .bool b]) v
/-- The map with one element more, or another one. -/
def mapPutA (s : St) (t : TypeId) (x i v : AV) : Option (Nat × AO) :=
  match P.underlying t, x with
  | some (.map kt _), .mref k => (match s.obj k with
    | some (.mp ka ks dom get) => guardO (keyFit P kt ka ks i && isNil v.shed.keys) (some (k, .mp ka ks (fun l => cond (eqCs l (keyCells i).2) true (dom l)) fun l => cond (eqCs l (keyCells i).2) v.shed (get l)))
    | _ => none)
  | _, _ => none
/-- A key that nobody has: the slot's own, or another one. -/
def freshK (objs : List (Nat × AO)) (d : Nat) : Option Nat :=
  match alook objs d with
  | none => some d
  | some _ => (match alook objs (d + 500000) with
    | none => some (d + 500000)
    | some _ => none)
/-- Objects laid one after the other. -/
def putU : List (Nat × AO) → List (Nat × AO) → List (Nat × AO)
  | objs, [] => objs
  | objs, (k, o) :: r => putU (aput objs k o) r
/-- An append to the front of a slice that may be stored into: a new key has it from here on. -/
def appendG (s : St) (d : Nat) (t : TypeId) (x y : AV) : Option (Bool × AV × List (Nat × AO)) :=
  match P.underlying t, x with
  | some (.slice e), .gsub k sz0 n 0 h =>
    (match sizeOf? P e, zeroCells P e, P.info? e, srcA s y, s.obj k, freshK s.objs d with
    | some sz, some z, some inf, some (sz2, m, get2), some (.grw q sz1 n1 get), some K =>
      guardO (Nat.blt 0 sz && (Nat.blt 0 inf.bytes && (Nat.beq z.length sz && ((Nat.beq sz2 sz || Nat.beq m 0) && (Nat.beq sz0 sz && Nat.beq sz1 sz)))))
        (some (sealOk q h && (roomy inf.bytes (h + m) && (Nat.beq n n1 && Nat.ble h n)), .gsl K sz (h + m), [(k, .gone), (K, .grw q sz (h + m) (appGet h m get get2))]))
    | _, _, _, _, _, _ => none)
  | _, _ => none
end

/-- What a call of function f with these arguments and objects comes to: the result, and the objects as it leaves them. The i-th object is known inside by the key base + i. -/
abbrev CallSem := FuncId → List AV → List AO → Option (AV × List AO)
def keyBase : Nat := 1000000

/-- Calls, handed what stands behind them. -/
structure CallP where
  callK : FuncId → List AV → List AO → ((AV × List AO) → Option (AV × List AO)) → Option (AV × List AO)
  nat : ∀ f l os k, callK f l os k = (callK f l os some).bind k
def CallP.call (c : CallP) : CallSem := fun f l os => c.callK f l os some

/-- Where a loop begins: the slots and objects that are kept; the slots (or an object's cells) whose slice is from here on the owner of a key. -/
structure Hint where
  keep : List Nat := []
  objs : List Nat := []
  promote : List (Nat × Nat × TypeId) := []
  promoteCell : List (Nat × Nat × Nat × TypeId) := []

inductive Ex where
  | nor
  | exit (id : Nat)
  | ret

structure Cfg where
  P : Program
  G : Nat → Option (List AV) := fun _ => none
  cp : CallP
  byRef : FuncId → Bool := fun _ => false
  hint : FuncId → Nat → Hint := fun _ _ => {}
  /-- may this call be asked -/
  pre : FuncId → List AV → List AO → Bool := fun _ _ _ => true
  /-- what lives on at the head of the code at this path -/
  trim : FuncId → List Nat → Option Hint := fun _ _ => none
  /-- what the code at this path is known to do, in place of a run of it -/
  cutO : FuncId → List Nat → Option (St → (Ex → St → Option (AV × List AO)) → Option (AV × List AO)) := fun _ _ => none
  /-- the state in another form at the head of the code at this path -/
  viewO : FuncId → List Nat → Option (St → (St → Option (AV × List AO)) → Option (AV × List AO)) := fun _ _ => none
  /-- the appends whose slices may be stored into -/
  grow : Oper → Bool := fun _ => false
  /-- the guarded operations at which the evaluator parts -/
  brk : Oper → Bool := fun _ => false
  /-- the calls that are handed nothing but to read, and answer a plain value -/
  lend : Oper → Bool := fun _ => false
  /-- the same for the loop at this path, from its head -/
  loopO : FuncId → List Nat → Option (St → (Ex → St → Option (AV × List AO)) → Option (AV × List AO)) := fun _ _ => none

def Cfg.call (X : Cfg) : CallSem := X.cp.call

/-- Freeze the row behind a slice that can be written: from here on it is only read. -/
def freezeA (objs : List (Nat × AO)) : AV → Option (AV × List (Nat × AO))
  | .msl k sz off n =>
    (match alook objs k with
    | some (.arr sz' m get) => guardO (Nat.beq sz sz' && Nat.ble (off + n) m) (some (.sl .no sz n fun j => get (off + j), aput objs k (.frz sz' m get)))
    | some (.frz sz' m get) => guardO (Nat.beq sz sz' && Nat.ble (off + n) m) (some (.sl .no sz n fun j => get (off + j), objs))
    | _ => none)
  | .gsl k sz n =>
    (match alook objs k with
    | some (.grw q sz' m get) => guardO (Nat.beq sz sz' && Nat.beq n m) (some (.sl .no sz n get, aput objs k (frzO q sz n get)))
    | _ => none)
  | v => some (v, objs)
def freezeL (objs : List (Nat × AO)) : List AV → Option (List AV × List (Nat × AO))
  | [] => some ([], objs)
  | v :: r => (freezeA objs v).bind fun a => (freezeL a.2 r).bind fun b => some (a.1 :: b.1, b.2)
def freezeV (objs : List (Nat × AO)) : AV → Option (AV × List (Nat × AO))
  | .agg cs => (freezeL objs cs).map fun a => (.agg a.1, a.2)
  | v => freezeA objs v
def freezeVs (objs : List (Nat × AO)) : List AV → Option (List AV × List (Nat × AO))
  | [] => some ([], objs)
  | v :: r => (freezeV objs v).bind fun a => (freezeVs a.2 r).bind fun b => some (a.1 :: b.1, b.2)

/-- The same, handed what stands behind: what is asked becomes a condition. -/
def freezeAK {β : Type} (objs : List (Nat × AO)) (v : AV) (k : AV × List (Nat × AO) → Option β) : Option β :=
  match v with
  | .msl q sz off n =>
    (match alook objs q with
    | some (.arr sz' m get) => cond (Nat.beq sz sz' && Nat.ble (off + n) m) (k (.sl .no sz n fun j => get (off + j), aput objs q (.frz sz' m get))) none
    | some (.frz sz' m get) => cond (Nat.beq sz sz' && Nat.ble (off + n) m) (k (.sl .no sz n fun j => get (off + j), objs)) none
    | _ => none)
  | .gsl q sz n =>
    (match alook objs q with
    | some (.grw g sz' m get) => cond (Nat.beq sz sz' && Nat.beq n m) (k (.sl .no sz n get, aput objs q (frzO g sz n get))) none
    | _ => none)
  | v => k (v, objs)
def freezeLK {β : Type} (objs : List (Nat × AO)) : List AV → (List AV × List (Nat × AO) → Option β) → Option β
  | [], k => k ([], objs)
  | v :: r, k => freezeAK objs v fun a => freezeLK a.2 r fun b => k (a.1 :: b.1, b.2)
def freezeVK {β : Type} (objs : List (Nat × AO)) (v : AV) (k : AV × List (Nat × AO) → Option β) : Option β :=
  match v with
  | .agg cs => freezeLK objs cs fun a => k (.agg a.1, a.2)
  | v => freezeAK objs v k
def freezeVsK {β : Type} (objs : List (Nat × AO)) : List AV → (List AV × List (Nat × AO) → Option β) → Option β
  | [], k => k ([], objs)
  | v :: r, k => freezeVK objs v fun a => freezeVsK a.2 r fun b => k (a.1 :: b.1, b.2)
def freezeCK {β : Type} (b : Bool) (objs : List (Nat × AO)) (args : List AV) (k : List AV × List (Nat × AO) → Option β) : Option β := cond b (k (args, objs)) (freezeVsK objs args k)

mutual
def AV.ren (m : Nat → Nat) : AV → AV
  | .sl (.key k) sz n get => .sl (.key (m k)) sz n get
  | .agg cs => .agg (renL m cs)
  | .tup vs => .tup (renL m vs)
  | .ref k off => .ref (m k) off
  | .aref k sz i off => .aref (m k) sz i off
  | .msl k sz off n => .msl (m k) sz off n
  | .gsl k sz n => .gsl (m k) sz n
  | .gref k sz n i off => .gref (m k) sz n i off
  | .gsub k sz n lo len => .gsub (m k) sz n lo len
  | .mref k => .mref (m k)
  | .fn f a b => .fn f (renL m a) (renL m b)
  | .grd t w v => .grd t w (v.ren m)
  | v => v
def renL (m : Nat → Nat) : List AV → List AV
  | [] => []
  | v :: r => v.ren m :: renL m r
end
def AO.ren (m : Nat → Nat) : AO → AO
  | .cells cs => .cells (renL m cs)
  | o => o
def AO.keys : AO → List Nat
  | .cells cs => keysL cs
  | _ => []

def addKeys : List Nat → List Nat → List Nat
  | acc, [] => acc
  | acc, k :: r => addKeys (cond (acc.any (Nat.beq k)) acc (acc ++ [k])) r
def objKeys (objs : List (Nat × AO)) : List Nat → List Nat
  | [] => []
  | k :: r => ((alook objs k).map AO.keys).getD [] ++ objKeys objs r
/-- The keys of objects that the arguments lead to, in two steps. -/
def reachK (objs : List (Nat × AO)) (ks : List Nat) : List Nat :=
  let a := addKeys [] ks
  let b := addKeys a (objKeys objs a)
  addKeys b (objKeys objs b)
/-- are these keys all among those -/
def subK : List Nat → List Nat → Bool
  | [], _ => true
  | k :: r, l => l.any (Nat.beq k) && subK r l

def idxOf : List Nat → Nat → Nat → Nat
  | [], _, d => d
  | k :: r, i, d => cond (Nat.beq k i) 0 (idxOf r i d + 1)
def nthD : List Nat → Nat → Nat
  | [], _ => 0
  | k :: _, 0 => k
  | _ :: r, i + 1 => nthD r i
def getObjs (objs : List (Nat × AO)) : List Nat → Option (List AO)
  | [] => some []
  | k :: r => (alook objs k).bind fun o => (getObjs objs r).map fun l => o :: l
def putObjs : List (Nat × AO) → List Nat → List AO → List (Nat × AO)
  | objs, k :: r, o :: l => putObjs (aput objs k o) r l
  | objs, _, _ => objs

/-- A call out of a state: its result, and the objects that it left. -/
def doCall (X : Cfg) (objs : List (Nat × AO)) (f : FuncId) (args : List AV) : Option (Bool × AV × List (Nat × AO)) :=
  (cond (X.byRef f) (some (args, objs)) (freezeVs objs args)).bind fun a =>
    let vs := shedL a.1
    let ks := reachK a.2 (keysL vs)
    cond (subK (objKeys a.2 ks) ks)
      ((getObjs a.2 ks).bind fun os =>
        let fwd := fun k => keyBase + idxOf ks k 0
        let bwd := fun k => nthD ks (k - keyBase)
        (X.call f (renL fwd vs) (os.map (AO.ren fwd))).bind fun r =>
          cond (Nat.beq r.2.length ks.length)
            (some (X.pre f (renL fwd vs) (os.map (AO.ren fwd)), r.1.ren bwd, putObjs a.2 ks (r.2.map (AO.ren bwd)))) none)
      none

def doCallK (X : Cfg) (objs : List (Nat × AO)) (f : FuncId) (args : List AV) (k : Bool → AV → List (Nat × AO) → Option (AV × List AO)) : Option (AV × List AO) :=
  freezeCK (X.byRef f) objs args fun a =>
    let vs := shedL a.1
    let ks := reachK a.2 (keysL vs)
    cond (subK (objKeys a.2 ks) ks)
      ((getObjs a.2 ks).bind fun os =>
        let fwd := fun k => keyBase + idxOf ks k 0
        let bwd := fun k => nthD ks (k - keyBase)
        X.cp.callK f (renL fwd vs) (os.map (AO.ren fwd)) fun r =>
          cond (Nat.beq r.2.length ks.length)
            (k (X.pre f (renL fwd vs) (os.map (AO.ren fwd))) (r.1.ren bwd) (putObjs a.2 ks (r.2.map (AO.ren bwd)))) none)
      none

/-- A value that rests on nothing. -/
def plainV : AV → Bool
  | .bool _ | .int .. | .str _ => true
  | _ => false
/-- A call that only reads, and answers a plain value: the objects stay as they are. -/
def doCallL (X : Cfg) (objs : List (Nat × AO)) (f : FuncId) (args : List AV) : Option (Bool × AV × List (Nat × AO)) :=
  (freezeVs objs args).bind fun a => cond (isNil (keysL (shedL a.1)))
    ((X.call f (shedL a.1) []).bind fun r => cond (plainV r.1 && Nat.beq r.2.length 0) (some (X.pre f (shedL a.1) [], r.1, objs)) none)
    none
def doCallR (X : Cfg) (objs : List (Nat × AO)) (f : FuncId) (args : List AV) (k : Bool → AV → List (Nat × AO) → Option (AV × List AO)) : Option (AV × List AO) :=
  freezeVsK objs args fun a => cond (isNil (keysL (shedL a.1)))
    (X.cp.callK f (shedL a.1) [] fun r => cond (plainV r.1 && Nat.beq r.2.length 0) (k (X.pre f (shedL a.1) []) r.1 objs) none)
    none
/-- Keys for new objects: the call's target, and others. -/
def newKs (d : Nat) : Nat → Nat → List Nat
  | _, 0 => []
  | i, m + 1 => (d + 100000 * i) :: newKs d (i + 1) m
def allFresh (objs : List (Nat × AO)) : List Nat → Bool
  | [] => true
  | k :: r => (match alook objs k with | some _ => false | none => allFresh objs r)
/-- A call that may hand back new objects besides: the first one's key is the call's target. -/
def doCallV (X : Cfg) (dst : Option Nat) (objs : List (Nat × AO)) (f : FuncId) (args : List AV) : Option (Bool × AV × List (Nat × AO)) :=
  (cond (X.byRef f) (some (args, objs)) (freezeVs objs args)).bind fun a =>
    let vs := shedL a.1
    let ks := reachK a.2 (keysL vs)
    cond (subK (objKeys a.2 ks) ks)
      ((getObjs a.2 ks).bind fun os =>
        let fwd := fun k => keyBase + idxOf ks k 0
        let bwd := fun k => nthD ks (k - keyBase)
        (X.call f (renL fwd vs) (os.map (AO.ren fwd))).bind fun r =>
          cond (Nat.beq r.2.length ks.length)
            (some (X.pre f (renL fwd vs) (os.map (AO.ren fwd)), r.1.ren bwd, putObjs a.2 ks (r.2.map (AO.ren bwd))))
            (match dst with
            | none => none
            | some d => cond (Nat.blt ks.length r.2.length && allFresh a.2 (newKs d 0 (r.2.length - ks.length)))
                (some (X.pre f (renL fwd vs) (os.map (AO.ren fwd)), r.1.ren (fun k => nthD (ks ++ newKs d 0 (r.2.length - ks.length)) (k - keyBase)), putObjs a.2 (ks ++ newKs d 0 (r.2.length - ks.length)) (r.2.map (AO.ren fun k => nthD (ks ++ newKs d 0 (r.2.length - ks.length)) (k - keyBase))))) none))
      none

def doCallN (X : Cfg) (dst : Option Nat) (objs : List (Nat × AO)) (f : FuncId) (args : List AV) (k : Bool → AV → List (Nat × AO) → Option (AV × List AO)) : Option (AV × List AO) :=
  freezeCK (X.byRef f) objs args fun a =>
    let vs := shedL a.1
    let ks := reachK a.2 (keysL vs)
    cond (subK (objKeys a.2 ks) ks)
      ((getObjs a.2 ks).bind fun os =>
        let fwd := fun k => keyBase + idxOf ks k 0
        let bwd := fun k => nthD ks (k - keyBase)
        X.cp.callK f (renL fwd vs) (os.map (AO.ren fwd)) fun r =>
          cond (Nat.beq r.2.length ks.length)
            (k (X.pre f (renL fwd vs) (os.map (AO.ren fwd))) (r.1.ren bwd) (putObjs a.2 ks (r.2.map (AO.ren bwd))))
            (match dst with
            | none => none
            | some d => cond (Nat.blt ks.length r.2.length && allFresh a.2 (newKs d 0 (r.2.length - ks.length)))
                (k (X.pre f (renL fwd vs) (os.map (AO.ren fwd))) (r.1.ren (fun k => nthD (ks ++ newKs d 0 (r.2.length - ks.length)) (k - keyBase))) (putObjs a.2 (ks ++ newKs d 0 (r.2.length - ks.length)) (r.2.map (AO.ren fun k => nthD (ks ++ newKs d 0 (r.2.length - ks.length)) (k - keyBase))))) none))
      none

/-- The function and the arguments of a call. -/
def calleeA (x : Ctx) (c : Call) : Option (FuncId × List AV) :=
  match c.callee with
  | .value f => (evalO x f).bind fun fv => (evalL x c.args.toList).bind fun vs =>
      (match fv with
      | .fn f first caps => some (f, first ++ vs ++ caps)
      | _ => none)
  | _ => none

def nilA (x : AV) : PV :=
  match x with
  | .ref .. | .aref .. | .elt .. | .fn .. => ok1 x
  | _ => none

/-- A slice of zeros that nobody stores into. -/
def makePureA (P : Program) (t : TypeId) (l c : AV) : PV :=
  match P.underlying t, l, c with
  | some (.slice e), .int .i64 l, .int .i64 c =>
    (match zeroCells P e, P.info? e with
    | some z, some inf => guardO (Nat.beq z.length inf.size && Nat.blt 0 inf.size) (some (decide (l = c) && (decide (0 ≤ c) && (roomy inf.bytes c.toNat && decide (c ≤ 140737488355328))), .sl .no z.length c.toNat fun _ => z))
    | _, _ => none)
  | _, _, _ => none
/-- A pure operation, of its operands. -/
def pureA (P : Program) (c : Ctx) (op : Op) : PV :=
  match op with
  | .move x | .assign x => val1 (evalO c x)
  | .pick q a b => (match q with
      | .tmp t => (evalO c q).bind fun q => (evalO { c with ch := (t, true) :: c.ch } a).bind fun a => (evalO { c with ch := (t, false) :: c.ch } b).bind fun b => pickA q a b
      | _ => none)
  | .build t ps => (evalParts c ps.toList).bind fun l => buildA P t l
  | .buildSlice t n ps => (evalParts c ps.toList).bind fun l => buildSliceA P t n l
  | .makeSlice t x y => (evalO c x).bind fun x => (evalO c y).bind fun y => makePureA P t x y
  | .load t x => (evalO c x).bind fun x => loadA P c.s t x
  | .nilCheck x => (evalO c x).bind fun x => nilA x
  | .binOp op t x y _ => (evalO c x).bind fun v => (evalO c y).bind fun w => binA P op t (isConst x || isConst y) v w
  | .unOp op _ x => (evalO c x).bind fun x => unA op x
  | .convert a b x => (evalO c x).bind fun x => convA P c.s a b x
  | .makeFunc (.func f) a b => (evalL c a.toList).bind fun a => (evalL c b.toList).bind fun b => ok1 (.fn f a b)
  | .slice t x l h m =>
      (evalO c x).bind fun x => (evalM c l).bind fun l => (evalM c h).bind fun h => (evalM c m).bind fun m => sliceA P t x l h m
  | .fieldAddr t x f => (evalO c x).bind fun x => fieldAddrA P t f x
  | .field t x f => (evalO c x).bind fun x => fieldA P t f x
  | .indexAddr t x i => (evalO c x).bind fun x => (evalO c i).bind fun i => indexAddrA P c.s t x i
  | .index t x i => (evalO c x).bind fun x => (evalO c i).bind fun i => indexA P t x i
  | .extract x i => (evalO c x).bind fun x => extractA x i
  | .call { callee := .builtin .len, args, argTypes } => (evalL c args.toList).bind fun l => (match l, argTypes.toList with | [x], [t] => lenA P t x | _, _ => none)
  | .call { callee := .builtin .max, args, .. } => (evalL c args.toList).bind fun l => fold1 max2A l
  | .call { callee := .builtin .min, args, .. } => (evalL c args.toList).bind fun l => fold1 min2A l
  | _ => none
  where evalM (c : Ctx) : Option Operand → Option (Option AV)
  | none => some none
  | some x => (evalO c x).map some

abbrev Res := Option (AV × List AO)

/-- The next rune of a string; the place behind it. -/
def nextV (b : List UInt8) (pos : Nat) : AV := .tup [.bool true, .int .i64 pos, .int .i32 (Utf8.decode ⟨b.toArray⟩ pos).1]
def nextP (b : List UInt8) (pos : Nat) : Nat := pos + (Utf8.decode ⟨b.toArray⟩ pos).2

/-- One unguarded operation: does it go through, its value, the objects that it leaves. -/
def effA (X : Cfg) (s : St) (o : Oper) : Option (Bool × AV × List (Nat × AO)) :=
  let c : Ctx := ⟨s, X.G, []⟩
  match o.op with
  | .alloc t => (match o.dst with
      | some d => (match s.obj d with
        | none => (newA X.P t).map fun ob => (true, .ref d 0, aput s.objs d ob)
        | some _ => none)
      | none => none)
  | .box t x => (match o.dst with
      | some d => (match s.obj d with
        | none => (evalO c x).bind fun v =>
            (match v with
            | .arr sz n get => guardO (sizeOf? X.P t == some (n * sz)) (some (true, .ref d 0, aput s.objs d (.arr sz n get)))
            | _ => guardO (allOne v.cells && (sizeOf? X.P t == some v.cells.length)) (some (true, .ref d 0, aput s.objs d (.cells v.cells))))
        | some _ => none)
      | none => none)
  | .store t x v => (evalO c x).bind fun x => (evalO c v).bind fun v => (storeA X.P s t x v).map fun r => (r.1, .undef, aput s.objs r.2.1 r.2.2)
  | .makeSlice t l n => (match o.dst with
      | some d => (evalO c l).bind fun u => (evalO c n).bind fun v => (makeSliceA X.P s d t (opSame l n) u v).map fun r => (r.1, r.2.1, aput s.objs r.2.2.1 r.2.2.2)
      | none => none)
  | .range t x => (match o.dst with
      | some d => (match s.obj d with
        | none => (evalO c x).bind fun v => (match X.P.underlying t, v with
          | some .string, .str b => some (true, .ref d 0, aput s.objs d (.iter b 0))
          | _, _ => none)
        | some _ => none)
      | none => none)
  | .next it isS => (evalO c it).bind fun v => (match v, isS with
      | .ref k 0, true => (match s.obj k with
        | some (.iter b pos) => some (true, cond (Nat.blt pos b.length) (nextV b pos) (.tup [.bool false]), aput s.objs k (.iter b (cond (Nat.blt pos b.length) (nextP b pos) pos)))
        | _ => none)
      | _, _ => none)
  | .makeMap t none => (match o.dst with
      | some d => (match s.obj d with
        | none => (match X.P.underlying t with
          | some (.map kt et) => (zeroA X.P et).bind fun z => (keyT X.P kt).map fun q => (true, .mref d, aput s.objs d (.mp q.1 q.2 (fun _ => false) fun _ => z))
          | _ => none)
        | some _ => none)
      | none => none)
  | .lookup t x i ok => (evalO c x).bind fun x => (evalO c i).bind fun i => (lookA X.P s t x i).map fun r => (true, cond r.1 (lookV ok true r.2.1) (lookV ok false r.2.2), s.objs)
  | .mapUpdate t x i v => (evalO c x).bind fun x => (evalO c i).bind fun i => (evalO c v).bind fun v => (mapPutA X.P s t x i v).map fun r => (true, .undef, aput s.objs r.1 r.2)
  | .call { callee := .builtin .append, args, argTypes } => (match o.dst, argTypes.toList with
      | some d, [t, t'] => guardO (Nat.beq t t' || strT X.P t') ((evalL c args.toList).bind fun l => (match l with
          | [x, .str b] => guardO (strT X.P t') ((appendS X.P s d t x b).map fun r => (r.1, r.2.1, aput s.objs r.2.2.1 r.2.2.2))
          | [x, y] => guardO (Nat.beq t t') (cond (isGsub x) ((appendG X.P s d t x y).map fun r => (r.1, r.2.1, putU s.objs r.2.2)) ((cond (isGsl x || X.grow o) (appendM X.P s d t x y) (appendA X.P s d t x y)).map fun r => (r.1, r.2.1, aput s.objs r.2.2.1 r.2.2.2)))
          | _ => none))
      | _, _ => none)
  | .call { callee := .value f, args, argTypes } => (calleeA c { callee := .value f, args, argTypes }).bind fun q =>
      doCall X s.objs q.1 q.2
  | op => (pureA X.P c op).map fun r => (r.1, r.2, s.objs)

/-- The state after it. -/
def St.after (s : St) (d : Option Nat) (v : AV) (objs : List (Nat × AO)) : St := St.put { env := s.env, objs := objs } d v

/-- One unguarded operation, run to the next state. -/
def stepA (X : Cfg) (s : St) (o : Oper) (k : St → Res) : Res :=
  match o.op with
  | .call { callee := .value f, args, argTypes } => (calleeA ⟨s, X.G, []⟩ { callee := .value f, args, argTypes }).bind fun q =>
      doCallK X s.objs q.1 q.2 fun b v objs => guardO b (k (s.after o.dst v objs))
  | .next it isS => (evalO ⟨s, X.G, []⟩ it).bind fun v => (match v, isS with
      | .ref q 0, true => (match s.obj q with
        | some (.iter b pos) => cond (Nat.blt pos b.length) (k (s.after o.dst (nextV b pos) (aput s.objs q (.iter b (nextP b pos))))) (k (s.after o.dst (.tup [.bool false]) (aput s.objs q (.iter b pos))))
        | _ => none)
      | _, _ => none)
  | .lookup t x i ok => (evalO ⟨s, X.G, []⟩ x).bind fun x => (evalO ⟨s, X.G, []⟩ i).bind fun i => (lookA X.P s t x i).bind fun r =>
      cond r.1 (k (s.after o.dst (lookV ok true r.2.1) s.objs)) (k (s.after o.dst (lookV ok false r.2.2) s.objs))
  | _ => (effA X s o).bind fun r => guardO r.1 (k (s.after o.dst r.2.1 r.2.2))

/-- In text order a literal may be stored into. -/
def isX : Op → Bool
  | .buildSlice .. => true
  | _ => false
def effX (X : Cfg) (s : St) (o : Oper) : Option (Bool × AV × List (Nat × AO)) :=
  match o.op with
  | .buildSlice t n ps => cond (X.grow o)
      (match o.dst with
      | some d => (match s.obj d with
        | none => (evalParts ⟨s, X.G, []⟩ ps.toList).bind fun l => (match buildSliceA X.P t n l with
          | some (b, .sl .fit sz m get) => guardO (Nat.blt 0 sz) (some (b, .gsl d sz m, aput s.objs d (.grw 0 sz m get)))
          | _ => none)
        | some _ => none)
      | none => none)
      (effA X s o)
  | _ => none
/-- The same in text order, where a call may hand back a new object. -/
def effN (X : Cfg) (s : St) (o : Oper) : Option (Bool × AV × List (Nat × AO)) :=
  match o.op with
  | .call { callee := .value f, args, argTypes } => (calleeA ⟨s, X.G, []⟩ { callee := .value f, args, argTypes }).bind fun q =>
      cond (X.lend o) (doCallL X s.objs q.1 q.2) (doCallV X o.dst s.objs q.1 q.2)
  | _ => cond (isX o.op) (effX X s o) (effA X s o)
def stepN (X : Cfg) (s : St) (o : Oper) (k : St → Res) : Res :=
  match o.op with
  | .call { callee := .value f, args, argTypes } => (calleeA ⟨s, X.G, []⟩ { callee := .value f, args, argTypes }).bind fun q =>
      cond (X.lend o) (doCallR X s.objs q.1 q.2 fun b v objs => guardO b (k (s.after o.dst v objs))) (doCallN X o.dst s.objs q.1 q.2 fun b v objs => guardO b (k (s.after o.dst v objs)))
  | _ => cond (isX o.op) ((effX X s o).bind fun r => guardO r.1 (k (s.after o.dst r.2.1 r.2.2))) (stepA X s o k)

/-- The guards behind a guard: a guarded slot's own. -/
def chainOf (s : St) : Nat → Nat → Bool → Chain
  | 0, t, w => [(t, w)]
  | n + 1, t, w => (t, w) :: (match s.get t with
    | some (.grd t' w' _) => chainOf s n t' w'
    | _ => [])
/-- Do all the guards hold. -/
def holdsA (s : St) : Chain → Option Bool
  | [] => some true
  | (t, w) :: r => (match s.get t with
    | some (.bool b) => (holdsA s r).map fun g => cond (b == w) g false
    | some (.grd _ _ (.bool b)) => (holdsA s r).map fun g => cond (b == w) g false
    | _ => none)

def domK : List (Nat × AO) → List Nat
  | [] => []
  | (k, _) :: r => k :: domK r
/-- A guarded operation: it must be pure, or a call that is handed no object. Does it go through, its value. -/
def effG (X : Cfg) (s : St) (o : Oper) (t : Nat) (w : Bool) : PV :=
  let ch := chainOf s 4 t w
  let c : Ctx := ⟨s, X.G, ch⟩
  match o.op with
  | .call { callee := .value f, args, argTypes } => (calleeA c { callee := .value f, args, argTypes }).bind fun q =>
      guardO (isNil (keysL q.2)) ((X.call q.1 q.2 []).bind fun r => (match r with
        | (v, []) => guardO (isNil v.keys && !v.isGrd) (some (X.pre q.1 q.2 [], v))
        | _ => none))
  | op => (holdsA s ch).bind fun g => (pureA X.P c op).bind fun r => guardO (subK r.2.keys (domK s.objs)) (some (cond r.1 true (!g), r.2))

def stepG (X : Cfg) (s : St) (o : Oper) (t : Nat) (w : Bool) (k : St → Res) : Res :=
  match o.dst with
  | none => none
  | some d => cond (Nat.beq d t) none (match o.op with
    | .call { callee := .value f, args, argTypes } => (calleeA ⟨s, X.G, chainOf s 4 t w⟩ { callee := .value f, args, argTypes }).bind fun q =>
        guardO (isNil (keysL q.2)) (X.cp.callK q.1 q.2 [] fun r => (match r with
          | (v, []) => guardO (isNil v.keys && !v.isGrd) (guardO (X.pre q.1 q.2 []) (k (s.put (some d) (.grd t w v))))
          | _ => none))
    | _ => (effG X s o t w).bind fun r => guardO r.1 (k (s.put (some d) (.grd t w r.2))))

/-- A guarded operation, in two ways: where its guard holds it is done, else it is not. -/
def stepB (X : Cfg) (s : St) (o : Oper) (t : Nat) (w : Bool) (k : St → Res) : Res :=
  match s.get t with
  | some (.bool b) => cond w (cond b (stepN X (s.put (some t) (.bool true)) o k) (k ((s.put (some t) (.bool false)).put o.dst .undef)))
      (cond b (k ((s.put (some t) (.bool true)).put o.dst .undef)) (stepN X (s.put (some t) (.bool false)) o k))
  | _ => none

/-- The slots that hold a value for certain. -/
def purge : List (Nat × AV) → List (Nat × AV)
  | [] => []
  | (t, v) :: r => (t, cond v.isGrd .undef v) :: purge r

def anyGuard : List Oper → Bool
  | [] => false
  | o :: r => (match o.guard with | some _ => true | none => anyGuard r)

/-- The operations of a region, in the order of the text. -/
def runOps (X : Cfg) (ops : Array Oper) : List Oper → St → (St → Res) → Res
  | [], s, k => k s
  | o :: r, s, k =>
    match o.guard with
    | none => stepN X s o (fun s' => runOps X ops r s' k)
    | some (j, want) => (match (ops[j]?).bind (·.dst) with
      | some t => cond (r.any fun q => q.dst == some t) none (cond (X.brk o) (stepB X s o t want (fun s' => runOps X ops r s' k)) (stepG X s o t want (fun s' => runOps X ops r s' k)))
      | none => none)

/-- In a region with guards each slot is written once, and a guard stands ahead of what it guards. -/
def dstsApart : List Oper → List Nat → Bool
  | [], _ => true
  | o :: r, seen => (match o.dst with
    | some d => !(seen.any (Nat.beq d)) && dstsApart r (d :: seen)
    | none => dstsApart r seen)

/-- Of one operation in a region: its place; its slot; the slots that it reads; the objects that it reads; those that it makes or turns; does it touch whatever there is. -/
structure Fp where
  i : Nat
  dst : List Nat
  tmps : List Nat
  rd : List Nat
  wr : List Nat
  all : Bool

def disjK (a b : List Nat) : Bool := a.all fun k => !(b.any (Nat.beq k))

def opTmps : List Operand → List Nat
  | [] => []
  | .tmp t :: r => t :: opTmps r
  | _ :: r => opTmps r

/-- An operation that makes or turns objects. -/
def isLoud : Op → Bool
  | .alloc _ | .box .. | .store .. | .makeSlice .. | .range .. | .next .. | .makeMap _ none | .mapUpdate .. | .lookup .. => true
  | .call { callee := .builtin .append, .. } => true
  | _ => false
/-- The keys that an operation may make. -/
def altK : List Nat → List Nat
  | [] => []
  | d :: r => d :: (d + 500000) :: altK r
def isCallV : Op → Bool
  | .call { callee := .value _, .. } => true
  | _ => false

/-- the keys that the operands mention -/
def opKeys (c : Ctx) : List Operand → List Nat
  | [] => []
  | x :: r => (match evalO c x with | some v => v.keys | none => [0]) ++ opKeys c r

/-- An operation that asks for the objects behind its operands. -/
def readsObj : Op → Bool
  | .load .. | .indexAddr .. | .convert .. => true
  | _ => false

def fpOf (X : Cfg) (s : St) (ops : Array Oper) (i : Nat) (o : Oper) : Fp :=
  match o.guard with
  | none =>
    let ks := opKeys ⟨s, X.G, []⟩ o.op.operands.toList
    { i := i, dst := o.dst.toList, tmps := opTmps o.op.operands.toList, rd := cond (readsObj o.op) ks [], wr := cond (isLoud o.op) (altK o.dst.toList ++ ks) (cond (isCallV o.op && isNil (objKeys s.objs ks)) ks []), all := isCallV o.op && !isNil (objKeys s.objs ks) }
  | some (j, want) =>
    (match (ops[j]?).bind (·.dst) with
    | some t => { i := i, dst := o.dst.toList, tmps := (chainOf s 4 t want).map (·.1) ++ opTmps o.op.operands.toList, rd := (cond (readsObj o.op) (opKeys ⟨s, X.G, chainOf s 4 t want⟩ o.op.operands.toList) []) ++ (cond (isCallV o.op) [] (match effG X s o t want with | some r => r.2.keys | none => [])), wr := [], all := false }
    | none => { i := i, dst := [], tmps := [], rd := [], wr := [], all := true })

def Fp.touches (a : Fp) : Bool := a.all || (!isNil a.rd || !isNil a.wr)

def apartF (a b : Fp) : Bool :=
  disjK a.dst b.tmps && (disjK b.dst a.tmps && (!(a.all && b.touches) && (!(b.all && a.touches) && (disjK a.wr b.wr && (disjK a.wr b.rd && disjK b.wr a.rd)))))

/-- The operations that stand before one of these edges. -/
def edgeBits (acc : List Nat) : List Edge → Nat
  | [] => 0
  | e :: r => cond (Region.binds .any e) (Nat.lor (Nat.lor (2 ^ e.on) (acc.getD e.on 0)) (edgeBits acc r)) (edgeBits acc r)
/-- For each operation those that stand before it in every order. -/
def befores : List Oper → List Nat → List Nat
  | [], acc => acc
  | o :: r, acc => (match edgeBits acc o.after.toList with
    | 0 => befores r (acc ++ [0])
    | n + 1 => befores r (acc ++ [n + 1]))

/-- Is each pair of operations ordered, or apart. bits: which operations stand before each one in every order. -/
def fpsOk (bits : List Nat) : List Fp → Bool
  | [] => true
  | a :: r => r.all (fun b => (bits.getD b.i 0).testBit a.i || apartF a b) && fpsOk bits r

def runOpsD (X : Cfg) (ops : Array Oper) : List Oper → Nat → List Fp → St → (List Fp → St → Res) → Res
  | [], _, acc, s, k => k acc s
  | o :: r, i, acc, s, k =>
    let acc' := acc ++ [fpOf X s ops i o]
    match o.guard with
    | none => stepA X s o (fun s' => runOpsD X ops r (i + 1) acc' s' k)
    | some (j, want) => (match (ops[j]?).bind (·.dst) with
      | some t => cond (r.any fun q => q.dst == some t) none (stepG X s o t want (fun s' => runOpsD X ops r (i + 1) acc' s' k))
      | none => none)

/-- Every operation waits for earlier ones alone. -/
def edgesOk : List Oper → Nat → Bool
  | [], _ => true
  | o :: r, i => o.after.all (fun e => cond (Region.binds .any e) (Nat.blt e.on i) true) && edgesOk r (i + 1)

def runDrawn (X : Cfg) (ops : Array Oper) (s : St) (k : St → Res) : Res :=
  cond (dstsApart ops.toList [] && edgesOk ops.toList 0)
    (runOpsD X ops ops.toList 0 [] s fun fps s' => cond (fpsOk (befores ops.toList []) fps) (k { s' with env := purge s'.env }) none) none

def runRegion (X : Cfg) (ops : Array Oper) (s : St) (k : St → Res) : Res :=
  cond (anyGuard ops.toList)
    (cond (dstsApart ops.toList []) (runOps X ops ops.toList s fun s' => k { s' with env := purge s'.env }) none)
    (runOps X ops ops.toList s k)

/-- The first region's number: the name of a loop's body. -/
def tagOf : Code → Nat
  | .region id _ _ => id
  | .seq a b => (match a with | .skip => tagOf b | _ => tagOf a)
  | .cond _ a _ => tagOf a
  | .block _ b => tagOf b
  | .loop b => tagOf b
  | .scope b => tagOf b
  | _ => 0

def keepEnv (env : List (Nat × AV)) : List Nat → List (Nat × AV)
  | [] => []
  | t :: r => (match alook env t with | some v => (t, v) :: keepEnv env r | none => keepEnv env r)
def keepObjs (objs : List (Nat × AO)) : List Nat → List (Nat × AO)
  | [] => []
  | k :: r => (match alook objs k with | some .gone => cond (Nat.ble keyBase k) ((k, .gone) :: keepObjs objs r) (keepObjs objs r) | some v => (k, v) :: keepObjs objs r | none => keepObjs objs r)
def envKeys : List (Nat × AV) → List Nat
  | [] => []
  | (_, v) :: r => v.keys ++ envKeys r
def allObjKeys : List (Nat × AO) → List Nat
  | [] => []
  | (_, v) :: r => v.keys ++ allObjKeys r
/-- The objects that were handed over. -/
def baseK : List (Nat × AO) → List Nat
  | [] => []
  | (k, _) :: r => cond (Nat.ble keyBase k) (k :: baseK r) (baseK r)


/-- The same slice as the owner of a key. -/
def ownAs (key : Nat) (z : List AV) (sz n : Nat) (get : Nat → List AV) : AV :=
  cond (Nat.beq n 0) (.sl (.key key) z.length 0 fun _ => z) (.sl (.key key) sz n get)

/-- The size of its elements. -/
def ownSz (z : List AV) (sz n : Nat) : Nat := cond (Nat.beq n 0) z.length sz

/-- From here on the slice in a slot owns the key. -/
def promoteEnv (P : Program) (s : St) : List (Nat × Nat × TypeId) → Option St
  | [] => some s
  | (t, key, e) :: r =>
    (match s.get t with
    | some (.sl .fit sz n get) => (match s.obj key, zeroCells P e with
        | none, some z => guardO (Nat.blt 0 (ownSz z sz n)) (promoteEnv P ((s.setObj key (.own (ownSz z sz n) n)).put (some t) (ownAs key z sz n get)) r)
        | _, _ => none)
    | _ => promoteEnv P s r)

/-- The same for a cell of a variable. -/
def promoteCells (P : Program) (s : St) : List (Nat × Nat × Nat × TypeId) → Option St
  | [] => some s
  | (ob, off, key, e) :: r =>
    (match s.obj ob with
    | some (.cells cs) => (match cs[off]? with
      | some (.sl .fit sz n get) => (match s.obj key, zeroCells P e with
        | none, some z => guardO (Nat.blt 0 (ownSz z sz n)) (promoteCells P ((s.setObj key (.own (ownSz z sz n) n)).setObj ob (.cells (cs.set off (ownAs key z sz n get)))) r)
        | _, _ => none)
      | _ => promoteCells P s r)
    | _ => promoteCells P s r)

/-- The state at the head of a loop: what the hint keeps. -/
def atHead (P : Program) (h : Hint) (s : St) : Option St :=
  let s1 : St := { env := keepEnv s.env h.keep, objs := keepObjs s.objs (h.objs ++ baseK s.objs) }
  cond (subK (envKeys s1.env) (domK s1.objs) && subK (allObjKeys s1.objs) (domK s1.objs)) ((promoteEnv P s1 h.promote).bind fun s2 => promoteCells P s2 h.promoteCell) none

def loopN (P : Program) (body : St → (Ex → St → Option (AV × List AO)) → Option (AV × List AO)) (h : Hint) : Nat → St → (Ex → St → Option (AV × List AO)) → Option (AV × List AO)
  | 0, _, _ => none
  | n + 1, s, k => (atHead P h s).bind fun s => body s fun e s' => match e with
    | .nor => loopN P body h n s' k
    | e => k e s'

/-- Every slot that is written is there. -/
def codeOk (N : Nat) : Code → Bool
  | .region _ ops _ => ops.toList.all fun o => match o.dst with
    | some d => Nat.blt d N
    | none => true
  | .seq a b => codeOk N a && codeOk N b
  | .cond _ a b => codeOk N a && codeOk N b
  | .block _ b => codeOk N b
  | .loop b => codeOk N b
  | .scope b => codeOk N b
  | _ => true

/-- Only this lives on. -/
def trimS (P : Program) (h : Option Hint) (s : St) : Option St :=
  match h with
  | none => some s
  | some h => atHead P h s

def viewS (h : Option (St → (St → Option (AV × List AO)) → Option (AV × List AO))) (s : St) (k : St → Option (AV × List AO)) : Option (AV × List AO) :=
  match h with
  | none => k s
  | some g => g s k

/-- A part of a code: 0 left or body or first branch, 1 right or second branch. -/
def subC : Code → List Nat → Code
  | c, [] => c
  | .seq a _, 0 :: r => subC a r
  | .seq _ b, _ :: r => subC b r
  | .cond _ a _, 0 :: r => subC a r
  | .cond _ _ b, _ :: r => subC b r
  | .block _ b, _ :: r => subC b r
  | .loop b, _ :: r => subC b r
  | .scope b, _ :: r => subC b r
  | c, _ => c
def bodyOf (P : Program) (f : FuncId) : Code := ((P.funcs[f]?).bind (·.body)).getD .skip

def runC (X : Cfg) (f : FuncId) (n : Nat) : Code → List Nat → St → (Ex → St → Option (AV × List AO)) → Option (AV × List AO)
  | .skip, _, s, k => k .nor s
  | .region _ ops draw, _, s, k => cond draw (runDrawn X ops s (k .nor)) (runRegion X ops s (k .nor))
  | .seq a b, p, s, k => runC X f n a (p ++ [0]) s fun e s' => match e with
    | .nor => (trimS X.P (X.trim f (p ++ [1])) s').bind fun s' => viewS (X.viewO f (p ++ [1])) s' fun s' => match X.cutO f (p ++ [1]) with
      | none => runC X f n b (p ++ [1]) s' k
      | some g => g s' k
    | e => k e s'
  | .cond c a b, p, s, k => (match evalO ⟨s, X.G, []⟩ c with
    | some (.bool t) => cond t (runC X f n a (p ++ [0]) s k) (runC X f n b (p ++ [1]) s k)
    | _ => none)
  | .block id b, p, s, k => runC X f n b (p ++ [0]) s fun e s' => match e with
    | .exit id' => cond (Nat.beq id' id) (k .nor s') (k e s')
    | e => k e s'
  | .loop b, p, s, k => match X.loopO f p with
    | none => loopN X.P (runC X f n b (p ++ [0])) (X.hint f (tagOf b)) n s k
    | some g => (atHead X.P (X.hint f (tagOf b)) s).bind fun s' => g s' k
  | .exit id, p, s, k => (trimS X.P (X.trim f p) s).bind fun s => k (.exit id) s
  | .ret, p, s, k => (trimS X.P (X.trim f p) s).bind fun s => k .ret s
  | .scope b, p, s, k => runC X f n b (p ++ [0]) s k
  | .label _, _, s, k => k .nor s
  | _, _, _, _ => none

def resultA (X : Cfg) (s : St) : ResultVar → Option AV
  | .tmp t => s.get t
  | .cell q t => (match s.get q with
    | some (.ref k off) => (loadA X.P s t (.ref k off)).bind fun r => guardO r.1 (some r.2)
    | _ => none)
def resultL (X : Cfg) (s : St) : List ResultVar → Option (List AV)
  | [] => some []
  | r :: l => (resultA X s r).bind fun v => (resultL X s l).map fun vs => v :: vs

/-- What the function hands back: its results, frozen; the first m objects. -/
def finish (X : Cfg) (fn : Func) (m : Nat) (s : St) : Option (AV × List AO) :=
  (resultL X s fn.results.toList).bind fun vs => freezeVsK s.objs vs fun a =>
    let vs := shedL a.1
    let ks := (List.range m).map (keyBase + ·)
    (getObjs a.2 ks).bind fun os =>
      cond (subK (keysL vs) ks && subK (objKeys a.2 ks) ks)
        (some (match vs with | [v] => v | vs => .tup vs, os)) none

def enterEnv : List AV → Nat → List (Nat × AV)
  | [], _ => []
  | v :: r, i => (i, v) :: enterEnv r (i + 1)
def enterObjs : List AO → Nat → List (Nat × AO)
  | [], _ => []
  | o :: r, i => (i, o) :: enterObjs r (i + 1)

/-- A call of function f, n the fuel of its loops, handed what stands behind it. -/
def runFK (X : Cfg) (n : Nat) (f : FuncId) (args : List AV) (objs : List AO) (k : (AV × List AO) → Res) : Res :=
  match X.P.funcs[f]? with
  | some fn => (match fn.body with
    | some c => runC X f n c [] { env := enterEnv args 0, objs := enterObjs objs keyBase } fun e s =>
        (match e with
        | .exit _ => none
        | _ => (finish X fn objs.length s).bind k)
    | none => none)
  | none => none

/-- A call of function f, n the fuel of its loops. -/
def runF (X : Cfg) (n : Nat) (f : FuncId) (args : List AV) (objs : List AO) : Option (AV × List AO) :=
  match X.P.funcs[f]? with
  | some fn => (match fn.body with
    | some c => runC X f n c [] { env := enterEnv args 0, objs := enterObjs objs keyBase } fun e s =>
        (match e with
        | .exit _ => none
        | _ => finish X fn objs.length s)
    | none => none)
  | none => none

end Go.Ab

namespace Go.Ab
open Go

theorem bind_ext {α β : Type} (x : Option α) {f g : α → Option β} (h : ∀ a, f a = g a) : x.bind f = x.bind g := by
  cases x with
  | none => rfl
  | some a => exact h a
theorem guardO_bind {α β : Type} (b : Bool) (x : Option α) (k : α → Option β) : (guardO b x).bind k = guardO b (x.bind k) := by cases b <;> rfl
theorem cond_bind {α β : Type} (b : Bool) (x y : Option α) (k : α → Option β) : (cond b x y).bind k = cond b (x.bind k) (y.bind k) := by cases b <;> rfl

theorem freezeAK_eq {β : Type} (objs : List (Nat × AO)) (v : AV) (k : AV × List (Nat × AO) → Option β) : freezeAK objs v k = (freezeA objs v).bind k := by
  cases v with
  | msl q sz off n =>
    simp only [freezeAK, freezeA]
    split
    · rename_i h; simp only [h, guardO_bind]; rfl
    · rename_i h; simp only [h, guardO_bind]; rfl
    · rfl
  | gsl q sz n =>
    simp only [freezeAK, freezeA]
    split
    · rename_i h; simp only [h, guardO_bind]; rfl
    · rfl
  | _ => rfl
theorem freezeLK_eq {β : Type} : ∀ (l : List AV) (objs : List (Nat × AO)) (k : List AV × List (Nat × AO) → Option β), freezeLK objs l k = (freezeL objs l).bind k
  | [], _, _ => rfl
  | v :: r, objs, k => by
    simp only [freezeLK, freezeL, freezeAK_eq, Option.bind_assoc]
    refine congrArg _ (funext fun a => ?_)
    rw [freezeLK_eq r]; rfl
theorem freezeVK_eq {β : Type} (objs : List (Nat × AO)) (v : AV) (k : AV × List (Nat × AO) → Option β) : freezeVK objs v k = (freezeV objs v).bind k := by
  cases v with
  | agg cs => simp only [freezeVK, freezeV, freezeLK_eq]; cases freezeL objs cs <;> rfl
  | _ => simp only [freezeVK, freezeV, freezeAK_eq]
theorem freezeVsK_eq {β : Type} : ∀ (l : List AV) (objs : List (Nat × AO)) (k : List AV × List (Nat × AO) → Option β), freezeVsK objs l k = (freezeVs objs l).bind k
  | [], _, _ => rfl
  | v :: r, objs, k => by
    simp only [freezeVsK, freezeVs, freezeVK_eq, Option.bind_assoc]
    refine congrArg _ (funext fun a => ?_)
    rw [freezeVsK_eq r]; rfl
theorem freezeCK_eq {β : Type} (b : Bool) (objs : List (Nat × AO)) (args : List AV) (k : List AV × List (Nat × AO) → Option β) : freezeCK b objs args k = (cond b (some (args, objs)) (freezeVs objs args)).bind k := by
  unfold freezeCK
  rw [freezeVsK_eq]
  cases b <;> rfl
theorem bind_self {α : Type} (x : Option α) : x.bind some = x := by cases x <;> rfl

theorem doCallK_eq (X : Cfg) (objs : List (Nat × AO)) (f : FuncId) (args : List AV) (k : Bool → AV → List (Nat × AO) → Res) :
    doCallK X objs f args k = (doCall X objs f args).bind fun r => k r.1 r.2.1 r.2.2 := by
  unfold doCallK doCall
  rw [freezeCK_eq, Option.bind_assoc]
  refine bind_ext _ fun a => ?_
  dsimp only
  rw [cond_bind]
  congr 1
  rw [Option.bind_assoc]
  refine bind_ext _ fun os => ?_
  rw [X.cp.nat, Option.bind_assoc]
  refine bind_ext _ fun r => ?_
  rw [cond_bind]
  rfl

theorem stepA_eq (X : Cfg) (s : St) (o : Oper) (k : St → Res) : stepA X s o k = (effA X s o).bind fun r => guardO r.1 (k (s.after o.dst r.2.1 r.2.2)) := by
  unfold stepA
  split
  · rename_i f args ts ho
    simp only [effA, ho]
    rw [Option.bind_assoc]
    exact bind_ext _ fun q => doCallK_eq X s.objs q.1 q.2 _
  · rename_i it isS ho
    simp only [effA, ho]
    rw [Option.bind_assoc]
    refine bind_ext _ fun v => ?_
    split
    · split
      · rename_i b pos _
        cases Nat.blt pos b.length <;> rfl
      · rfl
    · rfl
  · rename_i t x i ok ho
    simp only [effA, ho]
    rw [Option.bind_assoc]
    refine bind_ext _ fun x => ?_
    rw [Option.bind_assoc]
    refine bind_ext _ fun i => ?_
    cases lookA X.P s t x i with
    | none => rfl
    | some r =>
      obtain ⟨b, u, v⟩ := r
      cases b <;> rfl
  · rfl

theorem doCallN_eq (X : Cfg) (d : Option Nat) (objs : List (Nat × AO)) (f : FuncId) (args : List AV) (k : Bool → AV → List (Nat × AO) → Res) :
    doCallN X d objs f args k = (doCallV X d objs f args).bind fun r => k r.1 r.2.1 r.2.2 := by
  unfold doCallN doCallV
  rw [freezeCK_eq, Option.bind_assoc]
  refine bind_ext _ fun a => ?_
  dsimp only
  rw [cond_bind]
  congr 1
  rw [Option.bind_assoc]
  refine bind_ext _ fun os => ?_
  rw [X.cp.nat, Option.bind_assoc]
  refine bind_ext _ fun r => ?_
  rw [cond_bind]
  cases Nat.beq r.2.length (reachK a.2 (keysL (shedL a.1))).length with
  | true => rfl
  | false =>
    cases d with
    | none => rfl
    | some d =>
      dsimp only [cond_false, Option.bind_some]
      rw [cond_bind]
      rfl
theorem doCallR_eq (X : Cfg) (objs : List (Nat × AO)) (f : FuncId) (args : List AV) (k : Bool → AV → List (Nat × AO) → Res) :
    doCallR X objs f args k = (doCallL X objs f args).bind fun r => k r.1 r.2.1 r.2.2 := by
  unfold doCallR doCallL
  rw [freezeVsK_eq, Option.bind_assoc]
  refine bind_ext _ fun a => ?_
  rw [cond_bind]
  congr 1
  rw [X.cp.nat, Option.bind_assoc]
  refine bind_ext _ fun r => ?_
  rw [cond_bind]
  rfl
theorem stepN_eq (X : Cfg) (s : St) (o : Oper) (k : St → Res) : stepN X s o k = (effN X s o).bind fun r => guardO r.1 (k (s.after o.dst r.2.1 r.2.2)) := by
  unfold stepN effN
  split
  · rename_i f args ts ho
    rw [Option.bind_assoc]
    refine bind_ext _ fun q => ?_
    cases X.lend o with
    | true => simp only [cond_true]; exact doCallR_eq X s.objs q.1 q.2 _
    | false => simp only [cond_false]; exact doCallN_eq X o.dst s.objs q.1 q.2 _
  · cases isX o.op with
    | true => rfl
    | false => exact stepA_eq X s o k

theorem stepG_eq (X : Cfg) (s : St) (o : Oper) (t : Nat) (w : Bool) (k : St → Res) : stepG X s o t w k = (match o.dst with
  | none => none
  | some d => cond (Nat.beq d t) none ((effG X s o t w).bind fun r => guardO r.1 (k (s.put (some d) (.grd t w r.2))))) := by
  unfold stepG
  cases o.dst with
  | none => rfl
  | some d =>
    simp only
    congr 1
    split
    · rename_i f args ts ho
      simp only [effG, ho]
      rw [Option.bind_assoc]
      refine bind_ext _ fun q => ?_
      rw [guardO_bind, X.cp.nat, Option.bind_assoc]
      congr 1
      refine bind_ext _ fun r => ?_
      obtain ⟨v, os⟩ := r
      cases os with
      | nil => simp only [guardO_bind]; rfl
      | cons _ _ => rfl
    · rfl

section
variable (X : Cfg)
theorem stepA_nat (s : St) (o : Oper) (K : St → Res) (k : (AV × List AO) → Res) : stepA X s o (fun s => (K s).bind k) = (stepA X s o K).bind k := by
  rw [stepA_eq, stepA_eq, Option.bind_assoc]
  exact bind_ext _ fun r => (guardO_bind _ _ _).symm
theorem stepN_nat (s : St) (o : Oper) (K : St → Res) (k : (AV × List AO) → Res) : stepN X s o (fun s => (K s).bind k) = (stepN X s o K).bind k := by
  rw [stepN_eq, stepN_eq, Option.bind_assoc]
  exact bind_ext _ fun r => (guardO_bind _ _ _).symm
theorem stepG_nat (s : St) (o : Oper) (t : Nat) (w : Bool) (K : St → Res) (k : (AV × List AO) → Res) : stepG X s o t w (fun s => (K s).bind k) = (stepG X s o t w K).bind k := by
  rw [stepG_eq, stepG_eq]
  cases o.dst with
  | none => rfl
  | some d =>
    simp only
    rw [cond_bind, Option.bind_assoc]
    congr 1
    exact bind_ext _ fun r => (guardO_bind _ _ _).symm
theorem stepB_nat (s : St) (o : Oper) (t : Nat) (w : Bool) (K : St → Res) (k : (AV × List AO) → Res) : stepB X s o t w (fun s => (K s).bind k) = (stepB X s o t w K).bind k := by
  unfold stepB
  split
  · rw [cond_bind, cond_bind, cond_bind, stepN_nat, stepN_nat]
  · rfl
theorem runOps_nat (ops : Array Oper) (k : (AV × List AO) → Res) : ∀ (l : List Oper) (s : St) (K : St → Res), runOps X ops l s (fun s => (K s).bind k) = (runOps X ops l s K).bind k
  | [], s, K => rfl
  | o :: r, s, K => by
    have ih := fun s => runOps_nat ops k r s K
    simp only [runOps]
    split
    · rw [← stepN_nat]; congr 1; funext s'; exact ih s'
    · split
      · rw [cond_bind, cond_bind]
        congr 1
        have e : (fun s' => runOps X ops r s' fun s => (K s).bind k) = fun s' => (runOps X ops r s' K).bind k := funext ih
        rw [e, stepB_nat, stepG_nat]
      · rfl
theorem runOpsD_nat (ops : Array Oper) (k : (AV × List AO) → Res) : ∀ (l : List Oper) (i : Nat) (acc : List Fp) (s : St) (K : List Fp → St → Res), runOpsD X ops l i acc s (fun a s => (K a s).bind k) = (runOpsD X ops l i acc s K).bind k
  | [], i, acc, s, K => rfl
  | o :: r, i, acc, s, K => by
    have ih := fun i acc s => runOpsD_nat ops k r i acc s K
    simp only [runOpsD]
    split
    · rw [← stepA_nat]; congr 1; funext s'; exact ih _ _ s'
    · split
      · rw [cond_bind]
        congr 1
        rw [← stepG_nat]; congr 1; funext s'; exact ih _ _ s'
      · rfl
theorem runRegion_nat (ops : Array Oper) (s : St) (K : St → Res) (k : (AV × List AO) → Res) : runRegion X ops s (fun s => (K s).bind k) = (runRegion X ops s K).bind k := by
  unfold runRegion
  rw [cond_bind, cond_bind, ← runOps_nat, ← runOps_nat]
  rfl
theorem runDrawn_nat (ops : Array Oper) (s : St) (K : St → Res) (k : (AV × List AO) → Res) : runDrawn X ops s (fun s => (K s).bind k) = (runDrawn X ops s K).bind k := by
  unfold runDrawn
  rw [cond_bind, ← runOpsD_nat]
  congr 2
  funext a s'
  rw [cond_bind]; rfl

def ExNat (run : St → (Ex → St → Res) → Res) : Prop := ∀ (s : St) (K : Ex → St → Res) (k : (AV × List AO) → Res), run s (fun e s => (K e s).bind k) = (run s K).bind k
theorem loopN_nat {P : Program} {run : St → (Ex → St → Res) → Res} (h : ExNat run) (hint : Hint) : ∀ n, ExNat (loopN P run hint n)
  | 0 => fun s K k => rfl
  | n + 1 => fun s K k => by
    simp only [loopN]
    rw [Option.bind_assoc]
    refine bind_ext _ fun s1 => ?_
    rw [← h]
    congr 1
    funext e s'
    cases e with
    | nor => exact loopN_nat h hint n s' K k
    | exit _ => rfl
    | ret => rfl
theorem runC_nat (hc : ∀ f p, X.cutO f p = none) (hl : ∀ f p, X.loopO f p = none) (hv : ∀ f p, X.viewO f p = none) (f : FuncId) (n : Nat) : ∀ (c : Code) (p : List Nat), ExNat (runC X f n c p)
  | .skip, p => fun s K k => rfl
  | .region id ops draw, p => fun s K k => by
    simp only [runC]
    rw [cond_bind, runDrawn_nat, runRegion_nat]
  | .seq a b, p => fun s K k => by
    simp only [runC, hc, hv, viewS]
    rw [← runC_nat hc hl hv f n a]
    congr 1
    funext e s'
    cases e with
    | nor =>
      simp only
      rw [Option.bind_assoc]
      exact bind_ext _ fun s1 => runC_nat hc hl hv f n b _ s1 K k
    | exit _ => rfl
    | ret => rfl
  | .cond c a b, p => fun s K k => by
    simp only [runC]
    split
    · rw [cond_bind, runC_nat hc hl hv f n a, runC_nat hc hl hv f n b]
    · rfl
  | .block id b, p => fun s K k => by
    simp only [runC]
    rw [← runC_nat hc hl hv f n b]
    congr 1
    funext e s'
    cases e with
    | exit id' => exact (cond_bind _ _ _ _).symm
    | nor => rfl
    | ret => rfl
  | .loop b, p => fun s K k => by
    simp only [runC, hl]
    exact loopN_nat (runC_nat hc hl hv f n b _) _ n s K k
  | .exit id, p => fun s K k => by
    simp only [runC]
    rw [Option.bind_assoc]
  | .ret, p => fun s K k => by
    simp only [runC]
    rw [Option.bind_assoc]
  | .scope b, p => fun s K k => by
    simp only [runC]
    exact runC_nat hc hl hv f n b _ s K k
  | .goto _, _ | .label _, _ | .rangeFunc .., _ | .refuse _, _ => fun s K k => rfl
theorem runFK_nat (hc : ∀ f p, X.cutO f p = none) (hl : ∀ f p, X.loopO f p = none) (hv : ∀ f p, X.viewO f p = none) (n : Nat) (f : FuncId) (args : List AV) (objs : List AO) (k : (AV × List AO) → Res) :
    runFK X n f args objs k = (runFK X n f args objs some).bind k := by
  unfold runFK
  split
  · split
    · rw [← runC_nat X hc hl hv]
      congr 1
      funext e s
      cases e with
      | exit _ => rfl
      | nor => simp only [bind_self]
      | ret => simp only [bind_self]
    · rfl
  · rfl
theorem runFK_some (n : Nat) (f : FuncId) (args : List AV) (objs : List AO) : runFK X n f args objs some = runF X n f args objs := by
  unfold runFK runF
  simp only [bind_self]
end

/-- The evaluator: n bounds the depth of calls and the rounds of each loop; ext answers the calls of functions that it lists. -/
structure Env where
  P : Program
  G : Nat → Option (List AV) := fun _ => none
  ext : CallSem := fun _ _ _ => none
  isExt : FuncId → Bool := fun _ => false
  byRef : FuncId → Bool := fun _ => false
  hint : FuncId → Nat → Hint := fun _ _ => {}
  pre : FuncId → List AV → List AO → Bool := fun _ _ _ => true
  trim : FuncId → List Nat → Option Hint := fun _ _ => none
  grow : Oper → Bool := fun _ => false
  brk : Oper → Bool := fun _ => false
  lend : Oper → Bool := fun _ => false

/-- What the evaluator makes of a function's code, given its calls. -/
def Env.cfg (V : Env) (C : CallP) : Cfg := { P := V.P, G := V.G, cp := C, byRef := V.byRef, hint := V.hint, pre := fun f a o => cond (V.isExt f) (V.pre f a o) true, trim := V.trim, grow := V.grow, brk := V.brk, lend := V.lend }

/-- The evaluator, handed what stands behind the call. -/
def EP (V : Env) : Nat → CallP
  | 0 => ⟨fun _ _ _ _ => none, fun _ _ _ _ => rfl⟩
  | n + 1 => ⟨fun f l os k => cond (V.isExt f) ((V.ext f l os).bind k) (runFK (V.cfg (EP V n)) n f l os k), fun f l os k => by
      rw [cond_bind, bind_self, runFK_nat (V.cfg (EP V n)) (fun _ _ => rfl) (fun _ _ => rfl) (fun _ _ => rfl)]⟩
def E (V : Env) (n : Nat) : CallSem := (EP V n).call
theorem E_succ (V : Env) (n : Nat) (f : FuncId) (l : List AV) (os : List AO) : E V (n + 1) f l os = cond (V.isExt f) (V.ext f l os) (runF (V.cfg (EP V n)) n f l os) := by
  show cond (V.isExt f) ((V.ext f l os).bind some) (runFK (V.cfg (EP V n)) n f l os some) = _
  rw [bind_self, runFK_some]
end Go.Ab

namespace Go.Ab
open Go Go.RowKit

/-- What the relation knows of the memory: the world; the cells that are never written again; each key's block; an owner's base and capacity; an owner's frontier. -/
structure Cx where
  w : World
  I : Nat → Nat → Prop
  β : Nat → Nat
  κ : Nat → Option (Addr × Nat)
  fr : Nat → Option Nat

def slOf : Option (Addr × Nat) → Nat → Value
  | none, _ => .slice none 0 0
  | some (a, cap), n => .slice (some a) n cap

def OwnRep (c : Cx) (o : Own) (n : Nat) (v : Value) : Prop :=
  match o with
  | .no => True
  | .fit => match v with | .slice (some _) _ cap => cap = n | _ => True
  | .key k => ∃ m, c.fr k = some m ∧ n ≤ m ∧ (n = m → v = slOf (c.κ k) n)

inductive Rep (c : Cx) : AV → Value → Prop
  | bool (b) : Rep c (.bool b) (.bool b)
  | int (k n) : Rep c (.int k n) (.int k n)
  | str (s : List UInt8) : Rep c (.str s) (.string ⟨s.toArray⟩)
  | nilp : Rep c .nilp (.pointer none)
  | nilf : Rep c .nilf .nilFunc
  | nilm : Rep c .nilm (.map none)
  | nili : Rep c .nili .nilIface
  | nni (t v) : Rep c .nni (.iface t v)
  | num (k n) : Rep c (.num k) (.int k n)
  | undef (v) : Rep c .undef v
  | slNil (o : Own) (sz : Nat) (get : Nat → List AV) : OwnRep c o 0 (.slice none 0 0) → Rep c (.sl o sz 0 get) (.slice none 0 0)
  | sl (o : Own) (sz n : Nat) (get : Nat → List AV) (a : Addr) (cap : Nat) (vals : Nat → Nat → Value) : (0 < cap → a.spot = none) → n ≤ cap → OwnRep c o n (.slice (some a) n cap) →
      (∀ j, j < n → (get j).length = sz ∧ keysL (get j) = []) →
      (∀ (j i : Nat) (u : AV), j < n → (get j)[i]? = some u → u.one = true ∧ c.w.cell? ⟨a.block, a.off + (j * sz + i), none⟩ = some (vals j i) ∧ c.I a.block (a.off + (j * sz + i))) →
      (∀ (j i : Nat) (u : AV), j < n → (get j)[i]? = some u → Rep c u (vals j i)) → Rep c (.sl o sz n get) (.slice (some a) n cap)
  | agg (cs : List AV) (vs : Array Value) : vs.size = cs.length → (∀ (i : Nat) (u : AV), cs[i]? = some u → u.one = true) →
      (∀ (i : Nat) (u : AV), cs[i]? = some u → Rep c u (vs.getD i undef)) → Rep c (.agg cs) (.agg vs)
  | arr (sz n : Nat) (get : Nat → List AV) (vs : Array Value) : vs.size = n * sz → (∀ j, j < n → (get j).length = sz ∧ keysL (get j) = []) →
      (∀ (j i : Nat) (u : AV), j < n → (get j)[i]? = some u → u.one = true) →
      (∀ (j i : Nat) (u : AV), j < n → (get j)[i]? = some u → Rep c u (vs.getD (j * sz + i) undef)) → Rep c (.arr sz n get) (.agg vs)
  | tup (us : List AV) (vs : Array Value) : vs.size = us.length → (∀ (i : Nat) (u : AV), us[i]? = some u → Rep c u (vs.getD i undef)) → Rep c (.tup us) (.tuple vs)
  | ref (k off) : Rep c (.ref k off) (.pointer (some ⟨c.β k, off, none⟩))
  | aref (k sz i off) : Rep c (.aref k sz i off) (.pointer (some ⟨c.β k, i * sz + off, none⟩))
  | elt (cs : List AV) (off : Nat) (b o : Nat) (vals : Nat → Value) : keysL cs = [] →
      (∀ (i : Nat) (u : AV), cs[i]? = some u → u.one = true ∧ c.w.cell? ⟨b, o + i, none⟩ = some (vals i) ∧ c.I b (o + i)) →
      (∀ (i : Nat) (u : AV), cs[i]? = some u → Rep c u (vals i)) → Rep c (.elt cs off) (.pointer (some ⟨b, o + off, none⟩))
  | msl (k sz off len cap o) : len ≤ cap → (0 < len → o = off * sz) → Rep c (.msl k sz off len) (.slice (some ⟨c.β k, o, none⟩) len cap)
  | gslNil (k sz) : OwnRep c (.key k) 0 (.slice none 0 0) → Rep c (.gsl k sz 0) (.slice none 0 0)
  | gsl (k sz n a cap) : n ≤ cap → OwnRep c (.key k) n (.slice (some a) n cap) → Rep c (.gsl k sz n) (.slice (some a) n cap)
  | gref (k sz n i off b cap) : OwnRep c (.key k) n (.slice (some ⟨b, 0, none⟩) n cap) → Rep c (.gref k sz n i off) (.pointer (some ⟨b, i * sz + off, none⟩))
  | gsubNil (k sz) : OwnRep c (.key k) 0 (.slice none 0 0) → Rep c (.gsub k sz 0 0 0) (.slice none 0 0)
  | gsub (k sz n lo len a cap a' cap') : n ≤ cap → OwnRep c (.key k) n (.slice (some a) n cap) → lo + len ≤ n → cap' = cap - lo → (lo = 0 → a' = a) → (lo < cap → a' = a.add (lo * sz)) → Rep c (.gsub k sz n lo len) (.slice (some a') len cap')
  | mref (k) : Rep c (.mref k) (.map (some (c.β k)))
  | fn (f : FuncId) (a b : List AV) (va vb : Array Value) : va.size = a.length → vb.size = b.length →
      (∀ (i : Nat) (u : AV), a[i]? = some u → Rep c u (va.getD i undef)) → (∀ (i : Nat) (u : AV), b[i]? = some u → Rep c u (vb.getD i undef)) → Rep c (.fn f a b) (.func (.func f) va vb)

theorem keysL_append : ∀ a b, keysL (a ++ b) = keysL a ++ keysL b
  | [], b => by simp [keysL]
  | v :: r, b => by simp [keysL, keysL_append r b]
theorem keys_mem_of {l : List AV} {i : Nat} {u : AV} (h : l[i]? = some u) : ∀ k ∈ u.keys, k ∈ keysL l := by
  induction l generalizing i with
  | nil => simp at h
  | cons v r ih =>
    intro k hk
    simp only [keysL, List.mem_append]
    cases i with
    | zero => simp at h; subst h; exact .inl hk
    | succ i => exact .inr (ih (by simpa using h) k hk)
theorem keys_nil_of {l : List AV} (hl : keysL l = []) {i : Nat} {u : AV} (h : l[i]? = some u) : u.keys = [] := by
  cases hk : u.keys with
  | nil => rfl
  | cons k r => have := keys_mem_of h k (by simp [hk]); simp [hl] at this

/-- From c to c' nothing that a value rests on has turned; ks: the keys that count. -/
structure Ext (c c' : Cx) (ks : Nat → Prop) : Prop where
  cell : ∀ b o v, c.I b o → c.w.cell? ⟨b, o, none⟩ = some v → c'.w.cell? ⟨b, o, none⟩ = some v
  I : ∀ b o, c.I b o → c'.I b o
  β : ∀ k, ks k → c'.β k = c.β k
  own : ∀ k, ks k → ∀ n v, OwnRep c (.key k) n v → OwnRep c' (.key k) n v

theorem Ext.sub {c c' : Cx} {ks ks' : Nat → Prop} (h : Ext c c' ks) (hs : ∀ k, ks' k → ks k) : Ext c c' ks' :=
  ⟨h.cell, h.I, fun k hk => h.β k (hs k hk), fun k hk => h.own k (hs k hk)⟩
theorem Ext.refl (c : Cx) (ks : Nat → Prop) : Ext c c ks := ⟨fun _ _ _ _ h => h, fun _ _ h => h, fun _ _ => rfl, fun _ _ _ _ h => h⟩
theorem Ext.trans {a b c : Cx} {ks : Nat → Prop} (h : Ext a b ks) (h' : Ext b c ks) : Ext a c ks :=
  ⟨fun _ _ _ hi hv => h'.cell _ _ _ (h.I _ _ hi) (h.cell _ _ _ hi hv), fun _ _ hi => h'.I _ _ (h.I _ _ hi),
   fun k hk => (h'.β k hk).trans (h.β k hk), fun k hk n v hv => h'.own k hk n v (h.own k hk n v hv)⟩

theorem OwnRep.ext {c c' : Cx} {ks : Nat → Prop} (h : Ext c c' ks) {o : Own} {n : Nat} {v : Value} (hr : OwnRep c o n v) (hk : ∀ k, o = .key k → ks k) : OwnRep c' o n v := by
  cases o with
  | no => trivial
  | fit => exact hr
  | key k => exact h.own k (hk k rfl) n v hr

theorem Rep.ext {c c' : Cx} {v : AV} {x : Value} (hr : Rep c v x) : ∀ {ks : Nat → Prop}, Ext c c' ks → (∀ k ∈ v.keys, ks k) → Rep c' v x := by
  induction hr with
  | bool b => intros; exact .bool b
  | int k n => intros; exact .int k n
  | str s => intros; exact .str s
  | nilp => intros; exact .nilp
  | nilf => intros; exact .nilf
  | nilm => intros; exact .nilm
  | nili => intros; exact .nili
  | nni t v => intros; exact .nni t v
  | num k n => intros; exact .num k n
  | undef v => intros; exact .undef v
  | slNil o sz get ho => intro ks h hk; exact .slNil o sz get (ho.ext h fun k e => hk k (by subst e; simp [AV.keys]))
  | sl o sz n get a cap vals hsp hn ho hl hc hr ih =>
    intro ks h hk
    refine .sl o sz n get a cap vals hsp hn (ho.ext h fun k e => hk k (by subst e; simp [AV.keys])) hl
      (fun j i u hj hu => ⟨(hc j i u hj hu).1, h.cell _ _ _ (hc j i u hj hu).2.2 (hc j i u hj hu).2.1, h.I _ _ (hc j i u hj hu).2.2⟩)
      (fun j i u hj hu => ih j i u hj hu h fun k hk => ?_)
    rw [keys_nil_of (hl j hj).2 hu] at hk; simp at hk
  | agg cs vs hs h1 hr ih =>
    intro ks h hk
    exact .agg cs vs hs h1 fun i u hu => ih i u hu h fun k hk' => hk k (by simpa [AV.keys] using keys_mem_of hu k hk')
  | arr sz n get vs hs hl h1 hr ih =>
    intro ks h hk
    refine .arr sz n get vs hs hl h1 fun j i u hj hu => ih j i u hj hu h fun k hk' => ?_
    rw [keys_nil_of (hl j hj).2 hu] at hk'; simp at hk'
  | tup us vs hs hr ih =>
    intro ks h hk
    exact .tup us vs hs fun i u hu => ih i u hu h fun k hk' => hk k (by simpa [AV.keys] using keys_mem_of hu k hk')
  | ref k off => intro ks h hk; rw [← h.β k (hk k (by simp [AV.keys]))]; exact .ref k off
  | aref k sz i off => intro ks h hk; rw [← h.β k (hk k (by simp [AV.keys]))]; exact .aref k sz i off
  | elt cs off b o vals hl hc hr ih =>
    intro ks h hk
    refine .elt cs off b o vals hl (fun i u hu => ⟨(hc i u hu).1, h.cell _ _ _ (hc i u hu).2.2 (hc i u hu).2.1, h.I _ _ (hc i u hu).2.2⟩) fun i u hu => ih i u hu h fun k hk' => ?_
    rw [keys_nil_of hl hu] at hk'; simp at hk'
  | msl k sz off len cap o hlen ho => intro ks h hk; rw [← h.β k (hk k (by simp [AV.keys]))]; exact .msl k sz off len cap o hlen ho
  | gslNil k sz ho => intro ks h hk; exact .gslNil k sz (h.own k (hk k (by simp [AV.keys])) _ _ ho)
  | gsl k sz n a cap hn ho => intro ks h hk; exact .gsl k sz n a cap hn (h.own k (hk k (by simp [AV.keys])) _ _ ho)
  | gref k sz n i off b cap ho => intro ks h hk; exact .gref k sz n i off b cap (h.own k (hk k (by simp [AV.keys])) _ _ ho)
  | gsubNil k sz ho => intro ks h hk; exact .gsubNil k sz (h.own k (hk k (by simp [AV.keys])) _ _ ho)
  | gsub k sz n lo len a cap a' cap' h1 ho h2 h3 h4 h5 => intro ks h hk; exact .gsub k sz n lo len a cap a' cap' h1 (h.own k (hk k (by simp [AV.keys])) _ _ ho) h2 h3 h4 h5
  | mref k => intro ks h hk; rw [← h.β k (hk k (by simp [AV.keys]))]; exact .mref k
  | fn f a b va vb ha hb hra hrb iha ihb =>
    intro ks h hk
    exact .fn f a b va vb ha hb (fun i u hu => iha i u hu h fun k hk' => hk k (by simpa [AV.keys] using .inl (keys_mem_of hu k hk')))
      (fun i u hu => ihb i u hu h fun k hk' => hk k (by simpa [AV.keys] using .inr (keys_mem_of hu k hk')))

/-- The cells of a row of memory. -/
structure RowAt (c : Cx) (b : Nat) (cs : List AV) : Prop where
  row : ∃ (vs : Array Value) (t : TypeId), c.w.heap[b]? = some (.cells vs t (0, 0)) ∧ vs.size = cs.length ∧ ∀ (i : Nat) (u : AV), cs[i]? = some u → Rep c u (vs.getD i undef)
  one : ∀ (i : Nat) (u : AV), cs[i]? = some u → u.one = true

structure ArrAt (c : Cx) (b sz n : Nat) (get : Nat → List AV) : Prop where
  row : ∃ (vs : Array Value) (t : TypeId), c.w.heap[b]? = some (.cells vs t (0, 0)) ∧ vs.size = n * sz ∧ ∀ (j i : Nat) (u : AV), j < n → (get j)[i]? = some u → Rep c u (vs.getD (j * sz + i) undef)
  len : ∀ j, j < n → (get j).length = sz ∧ keysL (get j) = []
  one : ∀ (j i : Nat) (u : AV), j < n → (get j)[i]? = some u → u.one = true

/-- The room that an owner may fill: from the frontier to the capacity. -/
structure RoomAt (c : Cx) (a : Addr) (sz n cap : Nat) : Prop where
  row : ∃ (vs : Array Value) (t : TypeId), c.w.heap[a.block]? = some (.cells vs t (0, 0)) ∧ vs.size = cap * sz
  off : a.off = 0
  free : ∀ o, n * sz ≤ o → ¬ c.I a.block o

/-- A row that grows: its elements, and the room behind them. -/
structure GrwAt (c : Cx) (a : Addr) (q sz n cap : Nat) (get : Nat → List AV) : Prop where
  row : ∃ (vs : Array Value) (t : TypeId), c.w.heap[a.block]? = some (.cells vs t (0, 0)) ∧ vs.size = cap * sz ∧ ∀ (j i : Nat) (u : AV), j < n → (get j)[i]? = some u → Rep c u (vs.getD (j * sz + i) undef)
  addr : a.off = 0 ∧ a.spot = none
  len : ∀ j, j < n → (get j).length = sz ∧ keysL (get j) = []
  one : ∀ (j i : Nat) (u : AV), j < n → (get j)[i]? = some u → u.one = true
  free : ∀ o, (q - 1) * sz ≤ o → ¬ c.I a.block o

/-- The model's value of a plain cell. -/
def valC : AV → Value
  | .bool b => .bool b
  | .int k n => .int k n
  | .str s => .string ⟨s.toArray⟩
  | _ => undef
/-- The values of plain cells, in a row. -/
def valsC (l : List AV) : Array Value := (l.map valC).toArray
/-- A key's value, by its cells. -/
def keyV (ka : Bool) (l : List AV) : Value := cond ka (.agg (valsC l)) (match l with | [u] => valC u | _ => undef)
/-- A map in memory. -/
structure MapAt (c : Cx) (b : Nat) (ka : Bool) (ks : List KD) (dom : List AV → Bool) (get : List AV → AV) : Prop where
  row : ∃ (es : Array MapEntry) (clock : Nat) (ms : List (List AV × Value)), c.w.heap[b]? = some (.map es clock) ∧ es.toList.map (fun e => (e.key, e.val)) = ms.map (fun m => (keyV ka m.1, m.2)) ∧
    (∀ m ∈ ms, kdFits ks m.1 = true ∧ dom m.1 = true ∧ Rep c (get m.1) m.2) ∧ (∀ l, kdFits ks l = true → dom l = true → ∃ m ∈ ms, m.1 = l) ∧ (ms.map (·.1)).Nodup
  plain : ∀ l, kdFits ks l = true → dom l = true → (get l).keys = []

def ObjRep (c : Cx) (k : Nat) : AO → Prop
  | .cells cs => RowAt c (c.β k) cs ∧ (∀ o, ¬ c.I (c.β k) o) ∧ c.fr k = none
  | .arr sz n get => ArrAt c (c.β k) sz n get ∧ (∀ o, ¬ c.I (c.β k) o) ∧ c.fr k = none
  | .frz sz n get => ArrAt c (c.β k) sz n get ∧ (∀ o, o < n * sz → c.I (c.β k) o) ∧ c.fr k = none
  | .own sz n => 0 < sz ∧ c.fr k = some n ∧ (match c.κ k with
    | none => n = 0
    | some (a, cap) => (0 < cap → a.spot = none) ∧ n ≤ cap ∧ (n < cap → RoomAt c a sz n cap))
  | .grw q sz n get => (0 < sz ∧ q - 1 ≤ n) ∧ c.fr k = some n ∧ (match c.κ k with
    | none => n = 0
    | some (a, cap) => n ≤ cap ∧ (0 < cap → GrwAt c a q sz n cap get))
  | .iter s p => c.w.heap[c.β k]? = some (.stringIter ⟨s.toArray⟩ p) ∧ (∀ o, ¬ c.I (c.β k) o) ∧ c.fr k = none
  | .mp ka ks dom get => MapAt c (c.β k) ka ks dom get ∧ (∀ o, ¬ c.I (c.β k) o) ∧ c.fr k = none
  | .gone => True

/-- The block that belongs to a key alone. -/
def excl (c : Cx) (k : Nat) : AO → Option Nat
  | .cells _ | .arr .. | .frz .. | .iter .. | .mp .. => some (c.β k)
  | .gone => none
  | .own _ n => (match c.κ k with
    | some (a, cap) => if n < cap then some a.block else none
    | none => none)
  | .grw _ _ _ _ => (match c.κ k with
    | some (a, cap) => if 0 < cap then some a.block else none
    | none => none)

/-- Objects stand in memory, apart. -/
structure Objs (c : Cx) (objs : List (Nat × AO)) : Prop where
  rep : ∀ k o, alook objs k = some o → ObjRep c k o
  apart : ∀ k o k' o' b, alook objs k = some o → alook objs k' = some o' → k ≠ k' → excl c k o = some b → excl c k' o' ≠ some b
  closed : ∀ k o, alook objs k = some o → ∀ q ∈ o.keys, ∃ o', alook objs q = some o'

theorem beqF {a b : Nat} (h : ¬ a = b) : Nat.beq a b = false := by
  cases hb : Nat.beq a b with
  | false => rfl
  | true => exact absurd (Nat.eq_of_beq_eq_true hb) h
theorem beqT {a b : Nat} (h : Nat.beq a b = true) : a = b := Nat.eq_of_beq_eq_true h
theorem alook_aput {α : Type} (l : List (Nat × α)) (k : Nat) (x : α) (i : Nat) : alook (aput l k x) i = if k = i then some x else alook l i := by
  induction l with
  | nil => simp only [aput, alook]; by_cases h : k = i <;> simp [h, beqF]
  | cons p r ih =>
    obtain ⟨q, y⟩ := p
    by_cases hq : q = k
    · subst hq; simp only [aput, Nat.beq_refl, cond_true, alook]; by_cases h : q = i <;> simp [h, beqF]
    · have hq' : Nat.beq q k = false := beqF hq
      simp only [aput, hq', cond_false, alook, ih]
      by_cases h : q = i
      · subst h; simp; intro e; exact absurd e.symm hq
      · have : Nat.beq q i = false := beqF h
        simp [this]
theorem St.obj_setObj (s : St) (k : Nat) (o : AO) (i : Nat) : (s.setObj k o).obj i = if k = i then some o else s.obj i := alook_aput _ _ _ _
theorem St.get_put (s : St) (d : Nat) (v : AV) (i : Nat) : (s.put (some d) v).get i = if d = i then some v else s.get i := alook_aput _ _ _ _
@[simp] theorem St.obj_put (s : St) (d : Option Nat) (v : AV) (i : Nat) : (s.put d v).obj i = s.obj i := by cases d <;> rfl
@[simp] theorem St.get_setObj (s : St) (k : Nat) (o : AO) (i : Nat) : (s.setObj k o).get i = s.get i := rfl
@[simp] theorem St.objs_put (s : St) (d : Option Nat) (v : AV) : (s.put d v).objs = s.objs := by cases d <;> rfl

def live (objs : List (Nat × AO)) (k : Nat) : Prop := ∃ o, alook objs k = some o

/-- But for key k the objects stand as they stood. -/
structure KeepsBut (c c' : Cx) (objs : List (Nat × AO)) (k : Nat) : Prop where
  ext : Ext c c' (live objs)
  β : ∀ q, live objs q → q ≠ k → c'.β q = c.β q
  κ : ∀ q, live objs q → q ≠ k → c'.κ q = c.κ q
  fr : ∀ q, live objs q → q ≠ k → c'.fr q = c.fr q
  heap : ∀ q o b, alook objs q = some o → q ≠ k → excl c q o = some b → c'.w.heap[b]? = c.w.heap[b]? ∧ ∀ off, c'.I b off → c.I b off

theorem excl_same {c c' : Cx} {q : Nat} {o : AO} (hβ : c'.β q = c.β q) (hκ : c'.κ q = c.κ q) : excl c' q o = excl c q o := by
  cases o <;> simp [excl, hβ, hκ]

theorem Objs.rep_keep {c c' : Cx} {objs : List (Nat × AO)} {k : Nat} (h : Objs c objs) (hk : KeepsBut c c' objs k) {q : Nat} {o : AO} (hq : alook objs q = some o) (hne : q ≠ k) : ObjRep c' q o := by
  have hr := h.rep q o hq
  have hl : live objs q := ⟨o, hq⟩
  have hβ := hk.β q hl hne
  have hκ := hk.κ q hl hne
  have hf := hk.fr q hl hne
  cases o with
  | cells cs =>
    obtain ⟨⟨⟨vs, t, hh, hs, hv⟩, h1⟩, hI, hfr⟩ := hr
    have hh' := hk.heap q _ (c.β q) hq hne rfl
    refine ⟨⟨⟨vs, t, ?_, hs, fun i u hu => (hv i u hu).ext hk.ext fun r hr => h.closed q _ hq r (by simpa [AO.keys] using keys_mem_of hu r hr)⟩, h1⟩, ?_, hf.trans hfr⟩
    · rw [hβ, hh'.1]; exact hh
    · intro o ho; rw [hβ] at ho; exact hI o (hh'.2 o ho)
  | arr sz n get =>
    obtain ⟨⟨⟨vs, t, hh, hs, hv⟩, hl', h1⟩, hI, hfr⟩ := hr
    have hh' := hk.heap q _ (c.β q) hq hne rfl
    refine ⟨⟨⟨vs, t, ?_, hs, fun j i u hj hu => (hv j i u hj hu).ext hk.ext fun r hr => ?_⟩, hl', h1⟩, ?_, hf.trans hfr⟩
    · rw [hβ, hh'.1]; exact hh
    · rw [keys_nil_of (hl' j hj).2 hu] at hr; simp at hr
    · intro o ho; rw [hβ] at ho; exact hI o (hh'.2 o ho)
  | frz sz n get =>
    obtain ⟨⟨⟨vs, t, hh, hs, hv⟩, hl', h1⟩, hI, hfr⟩ := hr
    have hh' := hk.heap q _ (c.β q) hq hne rfl
    refine ⟨⟨⟨vs, t, ?_, hs, fun j i u hj hu => (hv j i u hj hu).ext hk.ext fun r hr => ?_⟩, hl', h1⟩, ?_, hf.trans hfr⟩
    · rw [hβ, hh'.1]; exact hh
    · rw [keys_nil_of (hl' j hj).2 hu] at hr; simp at hr
    · intro o ho; rw [hβ]; exact hk.ext.I _ _ (hI o ho)
  | own sz n =>
    obtain ⟨h0, hfr, hm⟩ := hr
    refine ⟨h0, hf.trans hfr, ?_⟩
    rw [hκ]
    cases hc : c.κ q with
    | none => simpa [hc] using hm
    | some p =>
      obtain ⟨a, cap⟩ := p
      simp only [hc] at hm ⊢
      obtain ⟨h1, h2, h3⟩ := hm
      refine ⟨h1, h2, fun hlt => ?_⟩
      obtain ⟨⟨vs, t, hh, hs⟩, hoff, hfree⟩ := h3 hlt
      have hh' := hk.heap q _ a.block hq hne (by simp [excl, hc, hlt])
      exact ⟨⟨vs, t, hh'.1.trans hh, hs⟩, hoff, fun o ho hi => hfree o ho (hh'.2 o hi)⟩
  | grw sq sz n get =>
    obtain ⟨h0, hfr, hm⟩ := hr
    refine ⟨h0, hf.trans hfr, ?_⟩
    rw [hκ]
    cases hc : c.κ q with
    | none => simpa [hc] using hm
    | some p =>
      obtain ⟨a, cap⟩ := p
      simp only [hc] at hm ⊢
      obtain ⟨h2, h3⟩ := hm
      refine ⟨h2, fun hlt => ?_⟩
      obtain ⟨⟨vs, t, hh, hs, hv⟩, had, hl', h1, hfree⟩ := h3 hlt
      have hh' := hk.heap q _ a.block hq hne (by simp [excl, hc, hlt])
      exact ⟨⟨vs, t, hh'.1.trans hh, hs, fun j i u hj hu => (hv j i u hj hu).ext hk.ext fun r hr => by rw [keys_nil_of (hl' j hj).2 hu] at hr; simp at hr⟩, had, hl', h1, fun o ho hi => hfree o ho (hh'.2 o hi)⟩
  | iter s p =>
    obtain ⟨hh, hI, hfr⟩ := hr
    have hh' := hk.heap q _ (c.β q) hq hne rfl
    exact ⟨by rw [hβ, hh'.1]; exact hh, fun o ho => by rw [hβ] at ho; exact hI o (hh'.2 o ho), hf.trans hfr⟩
  | mp ka ks dom get =>
    obtain ⟨⟨⟨es, clock, ms, hh, h1, h2, h3, h4⟩, hp⟩, hI, hfr⟩ := hr
    have hh' := hk.heap q _ (c.β q) hq hne rfl
    refine ⟨⟨⟨es, clock, ms, by rw [hβ, hh'.1]; exact hh, h1, fun m hm => ?_, h3, h4⟩, hp⟩, fun o ho => by rw [hβ] at ho; exact hI o (hh'.2 o ho), hf.trans hfr⟩
    obtain ⟨e1, e2, e3⟩ := h2 m hm
    exact ⟨e1, e2, e3.ext hk.ext fun r hr => by rw [hp _ e1 e2] at hr; simp at hr⟩
  | gone => trivial

/-- Key k is laid anew; all else stands as it stood. -/
theorem Objs.put {c c' : Cx} {objs : List (Nat × AO)} {k : Nat} {o : AO} (h : Objs c objs) (hk : KeepsBut c c' objs k)
    (hr : ObjRep c' k o) (ha : ∀ q o' b, alook objs q = some o' → q ≠ k → excl c q o' = some b → excl c' k o ≠ some b)
    (hc : ∀ r ∈ o.keys, r = k ∨ live objs r) : Objs c' (aput objs k o) := by
  refine ⟨fun q o' hq => ?_, fun q o' q' o'' b hq hq' hne hb => ?_, fun q o' hq r hr' => ?_⟩
  · rw [alook_aput] at hq
    by_cases e : k = q
    · subst e; simp at hq; subst hq; exact hr
    · simp [e] at hq; exact h.rep_keep hk hq (fun e' => e e'.symm)
  · rw [alook_aput] at hq hq'
    by_cases e : k = q
    · subst e; simp at hq; subst hq
      simp [hne] at hq'
      intro hb'
      have := excl_same (o := o'') (hk.β q' ⟨_, hq'⟩ (Ne.symm hne)) (hk.κ q' ⟨_, hq'⟩ (Ne.symm hne))
      exact ha q' o'' b hq' (Ne.symm hne) (this ▸ hb') hb
    · simp [e] at hq
      have e1 := excl_same (o := o') (hk.β q ⟨_, hq⟩ (fun e' => e e'.symm)) (hk.κ q ⟨_, hq⟩ (fun e' => e e'.symm))
      by_cases e' : k = q'
      · subst e'; simp at hq'; subst hq'; exact ha q o' b hq (fun x => e x.symm) (e1 ▸ hb)
      · simp [e'] at hq'
        have e2 := excl_same (o := o'') (hk.β q' ⟨_, hq'⟩ (fun x => e' x.symm)) (hk.κ q' ⟨_, hq'⟩ (fun x => e' x.symm))
        rw [e2]; exact h.apart q o' q' o'' b hq hq' hne (e1 ▸ hb)
  · rw [alook_aput] at hq
    by_cases e : k = q
    · subst e; simp at hq; subst hq
      rcases hc r hr' with rfl | ⟨o2, h2⟩
      · exact ⟨o, by simp [alook_aput]⟩
      · by_cases e2 : k = r
        · exact ⟨o, by simp [alook_aput, e2]⟩
        · exact ⟨o2, by simp [alook_aput, e2, h2]⟩
    · simp [e] at hq
      obtain ⟨o2, h2⟩ := h.closed q o' hq r hr'
      by_cases e2 : k = r
      · exact ⟨o, by simp [alook_aput, e2]⟩
      · exact ⟨o2, by simp [alook_aput, e2, h2]⟩

/-- Nothing of the objects has turned. -/
structure Keeps (c c' : Cx) (objs : List (Nat × AO)) : Prop where
  ext : Ext c c' (live objs)
  β : ∀ q, live objs q → c'.β q = c.β q
  κ : ∀ q, live objs q → c'.κ q = c.κ q
  fr : ∀ q, live objs q → c'.fr q = c.fr q
  heap : ∀ q o b, alook objs q = some o → excl c q o = some b → c'.w.heap[b]? = c.w.heap[b]? ∧ ∀ off, c'.I b off → c.I b off
theorem Keeps.but {c c' : Cx} {objs : List (Nat × AO)} (h : Keeps c c' objs) (k : Nat) : KeepsBut c c' objs k :=
  ⟨h.ext, fun q hq _ => h.β q hq, fun q hq _ => h.κ q hq, fun q hq _ => h.fr q hq, fun q o b hq _ => h.heap q o b hq⟩
theorem Objs.keep {c c' : Cx} {objs : List (Nat × AO)} (h : Objs c objs) (hk : Keeps c c' objs) : Objs c' objs := by
  refine ⟨fun q o hq => ?_, fun q o q' o' b hq hq' hne hb => ?_, h.closed⟩
  · exact h.rep_keep (hk.but (q + 1)) hq (by omega)
  · rw [excl_same (hk.β q' ⟨_, hq'⟩) (hk.κ q' ⟨_, hq'⟩)]
    rw [excl_same (hk.β q ⟨_, hq⟩) (hk.κ q ⟨_, hq⟩)] at hb
    exact h.apart q o q' o' b hq hq' hne hb

/-- What a whole context must be: immutable cells are there and not frozen out; the globals that are read stand in it. -/
structure Good (G : Nat → Option (List AV)) (c : Cx) : Prop where
  there : ∀ b o, c.I b o → ∃ v, c.w.cell? ⟨b, o, none⟩ = some v
  globs : ∀ g cs, G g = some cs → Rep c (.elt cs 0) (.pointer (some ⟨g, 0, none⟩))

end Go.Ab

namespace Go.Ab
open Go Go.RowKit

theorem World.cell?_block {w w' : World} {b : Nat} (h : w'.heap[b]? = w.heap[b]?) (o : Nat) : w'.cell? ⟨b, o, none⟩ = w.cell? ⟨b, o, none⟩ := by
  unfold World.cell?; simp only [h]
theorem heap_setCell_ne (w : World) (b o : Nat) (v : Value) (b' : Nat) (h : b' ≠ b) : (w.setCell ⟨b, o, none⟩ v).heap[b']? = w.heap[b']? := by
  simp only [World.setCell, Array.getElem?_modify]; rw [if_neg (fun e => h e.symm)]
theorem heap_setCell_eq (w : World) (b o : Nat) (v : Value) (cs : Array Value) (t : TypeId) (fz : Nat × Nat) (h : w.heap[b]? = some (.cells cs t fz)) :
    (w.setCell ⟨b, o, none⟩ v).heap[b]? = some (.cells (cs.setIfInBounds o v) t fz) := by
  simp [World.setCell, Array.getElem?_modify, h]
theorem cell?_cells {w : World} {b o : Nat} {cs : Array Value} {t : TypeId} {fz : Nat × Nat} (h : w.heap[b]? = some (.cells cs t fz)) : w.cell? ⟨b, o, none⟩ = cs[o]? := by
  simp [World.cell?, h]
theorem frozen?_cells {w : World} {b o : Nat} {cs : Array Value} {t : TypeId} (h : w.heap[b]? = some (.cells cs t (0, 0))) : w.frozen? ⟨b, o, none⟩ = false := by
  simp [World.frozen?, h]
theorem heap_alloc_lt (w : World) (o : Obj) (b : Nat) (h : b < w.heap.size) : (w.alloc o).heap[b]? = w.heap[b]? := by
  show (w.heap.push o)[b]? = _
  rw [Array.getElem?_push, if_neg (Nat.ne_of_lt h)]
theorem heap_alloc_eq (w : World) (o : Obj) : (w.alloc o).heap[w.heap.size]? = some o := by
  show (w.heap.push o)[w.heap.size]? = _
  simp
theorem lt_of_heap {w : World} {b : Nat} {o : Obj} (h : w.heap[b]? = some o) : b < w.heap.size := by
  rcases Nat.lt_or_ge b w.heap.size with h' | h'
  · exact h'
  · simp [Array.getElem?_eq_none h'] at h
theorem lt_of_cell {w : World} {b o : Nat} {v : Value} (h : w.cell? ⟨b, o, none⟩ = some v) : b < w.heap.size := World.block_lt_of_cell? (a := ⟨b, o, none⟩) w h

/-- Where a call began: its context, the blocks that were handed over, the keys that were, the globals that are read, the number of slots. -/
structure Base where
  c0 : Cx
  D : Nat → Prop
  K : Nat → Prop
  G : Nat → Option (List AV)
  N : Nat

structure Frame (B : Base) (c : Cx) : Prop where
  os : c.w.os = B.c0.w.os
  output : c.w.output = B.c0.w.output
  tape : c.w.tape = B.c0.w.tape
  size : B.c0.w.heap.size ≤ c.w.heap.size
  block : ∀ b, b < B.c0.w.heap.size → ¬ B.D b → c.w.heap[b]? = B.c0.w.heap[b]?
  ext : Ext B.c0 c B.K
  new : ∀ b o, b < B.c0.w.heap.size → ¬ B.D b → c.I b o → B.c0.I b o

/-- From c to c' the world has grown, and nothing else that was there when the call began has turned. -/
structure Grow (B : Base) (c c' : Cx) : Prop where
  os : c'.w.os = c.w.os
  output : c'.w.output = c.w.output
  tape : c'.w.tape = c.w.tape
  size : c.w.heap.size ≤ c'.w.heap.size
  block : ∀ b, b < B.c0.w.heap.size → ¬ B.D b → c'.w.heap[b]? = c.w.heap[b]?
  new : ∀ b o, b < B.c0.w.heap.size → ¬ B.D b → c'.I b o → c.I b o
  there : ∀ b o, c'.I b o → ∃ v, c'.w.cell? ⟨b, o, none⟩ = some v

theorem Frame.grow {B : Base} {c c' : Cx} {ks : Nat → Prop} (h : Frame B c) (e : Ext c c' ks) (g : Grow B c c') (hk : ∀ k, B.K k → ks k) : Frame B c' :=
  ⟨g.os.trans h.os, g.output.trans h.output, g.tape.trans h.tape, Nat.le_trans h.size g.size, fun b hb hd => (g.block b hb hd).trans (h.block b hb hd),
   h.ext.trans (e.sub hk), fun b o hb hd hi => h.new b o hb hd (g.new b o hb hd hi)⟩

theorem Good.grow {B : Base} {c c' : Cx} {ks : Nat → Prop} (h : Good B.G c) (e : Ext c c' ks) (g : Grow B c c') : Good B.G c' :=
  ⟨g.there, fun gl cs hg => (h.globs gl cs hg).ext (ks := ks) e (by simp [AV.keys])⟩

def EnvRep (c : Cx) (a : Act) (t : Nat) : AV → Prop
  | .grd tc w v => (a.tmps.getD tc undef = .bool w → Rep c v (a.tmps.getD t undef)) ∧ (a.tmps.getD tc undef ≠ .bool w → a.tmps.getD t undef = undef)
  | v => Rep c v (a.tmps.getD t undef)

theorem EnvRep.ext {c c' : Cx} {a : Act} {t : Nat} {v : AV} {ks : Nat → Prop} (h : EnvRep c a t v) (e : Ext c c' ks) (hk : ∀ k ∈ v.keys, ks k) : EnvRep c' a t v := by
  cases v with
  | grd tc w v => exact ⟨fun hw => (h.1 hw).ext e (by simpa [AV.keys] using hk), h.2⟩
  | _ => exact Rep.ext h e hk

structure Rel (B : Base) (c : Cx) (s : St) (a : Act) : Prop where
  good : Good B.G c
  frame : Frame B c
  objs : Objs c s.objs
  env : ∀ t v, s.get t = some v → EnvRep c a t v
  closed : ∀ t v, s.get t = some v → ∀ k ∈ v.keys, live s.objs k
  mine : ∀ k o b, s.obj k = some o → excl c k o = some b → B.c0.w.heap.size ≤ b ∨ B.D b
  tmps : a.tmps.size = B.N
  defers : a.defers = []
  kept : ∀ k, B.K k → live s.objs k

theorem Rel.keep {B : Base} {c c' : Cx} {s : St} {a : Act} (h : Rel B c s a) (k : Keeps c c' s.objs) (g : Grow B c c') : Rel B c' s a :=
  ⟨h.good.grow k.ext g, h.frame.grow k.ext g h.kept, h.objs.keep k, fun t v hv => (h.env t v hv).ext k.ext (h.closed t v hv), h.closed,
   fun q o b hq hb => h.mine q o b hq (by rwa [excl_same (k.β q ⟨o, hq⟩) (k.κ q ⟨o, hq⟩)] at hb), h.tmps, h.defers, h.kept⟩

theorem live_aput {objs : List (Nat × AO)} {k : Nat} {o : AO} {q : Nat} (h : live objs q) : live (aput objs k o) q := by
  obtain ⟨o', h⟩ := h
  by_cases e : k = q
  · exact ⟨o, by simp [alook_aput, e]⟩
  · exact ⟨o', by simp [alook_aput, e, h]⟩
theorem live_aput_self {objs : List (Nat × AO)} {k : Nat} {o : AO} : live (aput objs k o) k := ⟨o, by simp [alook_aput]⟩

theorem Rel.obj {B : Base} {c c' : Cx} {s : St} {a : Act} {k : Nat} {o : AO} (h : Rel B c s a) (kb : KeepsBut c c' s.objs k) (g : Grow B c c')
    (hr : ObjRep c' k o) (ha : ∀ q o' b, alook s.objs q = some o' → q ≠ k → excl c q o' = some b → excl c' k o ≠ some b)
    (hc : ∀ r ∈ o.keys, r = k ∨ live s.objs r) (hm : ∀ b, excl c' k o = some b → B.c0.w.heap.size ≤ b ∨ B.D b) : Rel B c' (s.setObj k o) a :=
  ⟨h.good.grow kb.ext g, h.frame.grow kb.ext g h.kept, h.objs.put kb hr ha hc, fun t v hv => (h.env t v hv).ext kb.ext (h.closed t v hv),
   fun t v hv q hq => live_aput (h.closed t v hv q hq),
   fun q o' b hq hb => by
     rw [St.obj_setObj] at hq
     by_cases e : k = q
     · subst e; simp at hq; subst hq; exact hm b hb
     · simp [e] at hq
       exact h.mine q o' b hq (by rwa [excl_same (kb.β q ⟨o', hq⟩ (fun x => e x.symm)) (kb.κ q ⟨o', hq⟩ (fun x => e x.symm))] at hb),
   h.tmps, h.defers, fun q hq => live_aput (h.kept q hq)⟩

theorem getD_set {xs : Array Value} {d : Nat} {x : Value} {t : Nat} (hd : d < xs.size) : (xs.setIfInBounds d x).getD t undef = if d = t then x else xs.getD t undef := by
  simp only [Array.getD_eq_getD_getElem?, Array.getElem?_setIfInBounds]
  by_cases e : d = t
  · subst e; simp [hd]
  · simp [e]

/-- No slot's value waits for slot d. -/
def FreeOf (s : St) (d : Nat) : Prop := ∀ t tc w v, s.get t = some (.grd tc w v) → tc ≠ d

theorem EnvRep.of_rep {c : Cx} {a : Act} {t : Nat} {v : AV} (hg : v.isGrd = false) (h : Rep c v (a.tmps.getD t undef)) : EnvRep c a t v := by
  cases v <;> first | exact h | simp [AV.isGrd] at hg

theorem EnvRep.other {c : Cx} {a : Act} {t d : Nat} {v : AV} {x : Value} (h : EnvRep c a t v) (hd : d < a.tmps.size) (hne : d ≠ t) (hf : ∀ tc w v', v = .grd tc w v' → tc ≠ d) :
    EnvRep c (a.put (some d) x) t v := by
  have e1 : (a.put (some d) x).tmps.getD t undef = a.tmps.getD t undef := by simp only [Act.put]; rw [getD_set hd, if_neg hne]
  cases v with
  | grd tc w v =>
    have e2 : (a.put (some d) x).tmps.getD tc undef = a.tmps.getD tc undef := by simp only [Act.put]; rw [getD_set hd, if_neg (fun e => hf tc w v rfl e.symm)]
    simp only [EnvRep, e1, e2]; exact h
  | _ => simp only [EnvRep, e1]; exact h

theorem Rel.put {B : Base} {c : Cx} {s : St} {a : Act} {d : Nat} {v : AV} {x : Value} (h : Rel B c s a) (hd : d < B.N) (hr : Rep c v x) (hg : v.isGrd = false)
    (hk : ∀ k ∈ v.keys, live s.objs k) (hf : FreeOf s d) : Rel B c (s.put (some d) v) (a.put (some d) x) := by
  refine ⟨h.good, h.frame, by rw [St.objs_put]; exact h.objs, fun t u hu => ?_, fun t u hu k hk' => ?_, fun k o b ho => h.mine k o b (by simpa using ho), ?_, h.defers, by rw [St.objs_put]; exact h.kept⟩
  · rw [St.get_put] at hu
    by_cases e : d = t
    · subst e; simp at hu; subst hu
      refine EnvRep.of_rep hg ?_
      simp only [Act.put]; rw [getD_set (by rw [h.tmps]; exact hd), if_pos rfl]; exact hr
    · simp [e] at hu
      exact (h.env t u hu).other (by rw [h.tmps]; exact hd) e (fun tc w v' e' => hf t tc w v' (e' ▸ hu))
  · rw [St.objs_put]
    rw [St.get_put] at hu
    by_cases e : d = t
    · subst e; simp at hu; subst hu; exact hk k hk'
    · simp [e] at hu; exact h.closed t u hu k hk'
  · simp only [Act.put, Array.size_setIfInBounds]; exact h.tmps

theorem Rel.putG {B : Base} {c : Cx} {s : St} {a : Act} {d t : Nat} {w : Bool} {v : AV} {x : Value} (h : Rel B c s a) (hd : d < B.N) (hdt : d ≠ t)
    (hr : a.tmps.getD t undef = .bool w → Rep c v x) (hu : a.tmps.getD t undef ≠ .bool w → x = undef)
    (hk : ∀ k ∈ v.keys, live s.objs k) (hf : FreeOf s d) : Rel B c (s.put (some d) (.grd t w v)) (a.put (some d) x) := by
  have hsz : d < a.tmps.size := by rw [h.tmps]; exact hd
  have e1 : (a.put (some d) x).tmps.getD d undef = x := by simp only [Act.put]; rw [getD_set hsz, if_pos rfl]
  have e2 : (a.put (some d) x).tmps.getD t undef = a.tmps.getD t undef := by simp only [Act.put]; rw [getD_set hsz, if_neg hdt]
  refine ⟨h.good, h.frame, by rw [St.objs_put]; exact h.objs, fun q u hu' => ?_, fun q u hu' k hk' => ?_, fun k o b ho => h.mine k o b (by simpa using ho), ?_, h.defers, by rw [St.objs_put]; exact h.kept⟩
  · rw [St.get_put] at hu'
    by_cases e : d = q
    · subst e; simp at hu'; subst hu'
      simp only [EnvRep, e1, e2]; exact ⟨hr, hu⟩
    · simp [e] at hu'
      exact (h.env q u hu').other hsz e (fun tc w v' e' => hf q tc w v' (e' ▸ hu'))
  · rw [St.objs_put]
    rw [St.get_put] at hu'
    by_cases e : d = q
    · subst e; simp at hu'; subst hu'; exact hk k (by simpa [AV.keys] using hk')
    · simp [e] at hu'; exact h.closed q u hu' k hk'
  · simp only [Act.put, Array.size_setIfInBounds]; exact h.tmps

/-- An abstract state that knows less. -/
theorem Rel.less {B : Base} {c : Cx} {s s' : St} {a : Act} (h : Rel B c s a) (hkept : ∀ k, B.K k → live s'.objs k) (he : ∀ t v, s'.get t = some v → s.get t = some v) (ho : ∀ k o, s'.obj k = some o → s.obj k = some o)
    (hc : ∀ t v, s'.get t = some v → ∀ k ∈ v.keys, live s'.objs k) (hoc : ∀ k o, s'.obj k = some o → ∀ q ∈ o.keys, live s'.objs q) : Rel B c s' a :=
  ⟨h.good, h.frame, ⟨fun k o hk => h.objs.rep k o (ho k o hk), fun k o k' o' b hk hk' => h.objs.apart k o k' o' b (ho k o hk) (ho k' o' hk'), hoc⟩,
   fun t v hv => h.env t v (he t v hv), hc, fun k o b hk => h.mine k o b (ho k o hk), h.tmps, h.defers, hkept⟩

/-! ### ways for the context to move -/

/-- A draw. -/
def Cx.drew (c : Cx) : Cx := { c with w := c.w.drew }
theorem Cx.drew_keeps (c : Cx) (objs : List (Nat × AO)) : Keeps c c.drew objs :=
  ⟨⟨fun _ _ _ _ h => h, fun _ _ h => h, fun _ _ => rfl, fun _ _ _ _ h => h⟩, fun _ _ => rfl, fun _ _ => rfl, fun _ _ => rfl, fun _ _ _ _ _ => ⟨rfl, fun _ h => h⟩⟩
theorem Cx.drew_grow {B : Base} {c : Cx} (h : Good B.G c) : Grow B c c.drew := ⟨rfl, rfl, rfl, Nat.le_refl _, fun _ _ _ => rfl, fun _ _ _ _ h => h, h.there⟩

/-- A new block, of which the first n cells are never written again. -/
def Cx.row (c : Cx) (vs : Array Value) (t : TypeId) (fz : Nat × Nat) (n : Nat) : Cx :=
  { c with w := c.w.alloc (.cells vs t fz), I := fun b o => c.I b o ∨ (b = c.w.heap.size ∧ o < n) }
theorem ext_alloc {G : Nat → Option (List AV)} {c c' : Cx} {ks : Nat → Prop} {o : Obj} (_hg : Good G c) (hw : c'.w = c.w.alloc o) (hI : ∀ b o, c.I b o → c'.I b o)
    (hβ : ∀ k, ks k → c'.β k = c.β k) (hκ : ∀ k, ks k → c'.κ k = c.κ k) (hf : ∀ k, ks k → c'.fr k = c.fr k) : Ext c c' ks := by
  refine ⟨fun b off v hi hv => ?_, hI, hβ, fun k hk n v => ?_⟩
  · rw [hw, World.cell?_block (heap_alloc_lt c.w o b (lt_of_cell hv))]; exact hv
  · simp only [OwnRep, hκ k hk, hf k hk]; exact id
theorem excl_lt {c : Cx} {k : Nat} {o : AO} {b : Nat} (h : ObjRep c k o) (hb : excl c k o = some b) : b < c.w.heap.size := by
  cases o with
  | cells cs => obtain ⟨⟨⟨vs, t, hh, _⟩, _⟩, _⟩ := h; simp [excl] at hb; subst hb; exact lt_of_heap hh
  | arr sz n get => obtain ⟨⟨⟨vs, t, hh, _⟩, _⟩, _⟩ := h; simp [excl] at hb; subst hb; exact lt_of_heap hh
  | frz sz n get => obtain ⟨⟨⟨vs, t, hh, _⟩, _⟩, _⟩ := h; simp [excl] at hb; subst hb; exact lt_of_heap hh
  | own sz n =>
    obtain ⟨_, _, hm⟩ := h
    cases hc : c.κ k with
    | none => simp [excl, hc] at hb
    | some p =>
      obtain ⟨a, cap⟩ := p
      simp [excl, hc] at hb
      simp only [hc] at hm
      obtain ⟨⟨vs, t, hh, _⟩, _⟩ := hm.2.2 hb.1
      rw [← hb.2]; exact lt_of_heap hh
  | grw sq sz n get =>
    obtain ⟨_, _, hm⟩ := h
    cases hc : c.κ k with
    | none => simp [excl, hc] at hb
    | some p =>
      obtain ⟨a, cap⟩ := p
      simp [excl, hc] at hb
      simp only [hc] at hm
      obtain ⟨⟨vs, t, hh, _⟩, _⟩ := hm.2 hb.1
      rw [← hb.2]; exact lt_of_heap hh
  | iter s p => obtain ⟨hh, _⟩ := h; simp [excl] at hb; subst hb; exact lt_of_heap hh
  | mp ka ks dom get => obtain ⟨⟨⟨es, clock, ms, hh, _⟩, _⟩, _⟩ := h; simp [excl] at hb; subst hb; exact lt_of_heap hh
  | gone => simp [excl] at hb
theorem Cx.row_keeps {G : Nat → Option (List AV)} {c : Cx} (hg : Good G c) {objs : List (Nat × AO)} (ho : Objs c objs) (vs : Array Value) (t : TypeId) (fz : Nat × Nat) (n : Nat) : Keeps c (c.row vs t fz n) objs := by
  refine ⟨ext_alloc hg rfl (fun _ _ h => .inl h) (fun _ _ => rfl) (fun _ _ => rfl) (fun _ _ => rfl), fun _ _ => rfl, fun _ _ => rfl, fun _ _ => rfl, fun q o b hq hb => ?_⟩
  have hlt := excl_lt (ho.rep q o hq) hb
  refine ⟨heap_alloc_lt _ _ _ hlt, fun off hi => ?_⟩
  rcases hi with hi | ⟨rfl, _⟩
  · exact hi
  · omega
theorem Cx.row_grow {B : Base} {c : Cx} (hg : Good B.G c) (hf : Frame B c) (vs : Array Value) (t : TypeId) (fz : Nat × Nat) (n : Nat) (hn : n ≤ vs.size) : Grow B c (c.row vs t fz n) := by
  refine ⟨rfl, rfl, rfl, by simp [Cx.row], fun b hb _ => heap_alloc_lt _ _ _ (Nat.lt_of_lt_of_le hb hf.size), fun b o hb _ hi => ?_, fun b o hi => ?_⟩
  · rcases hi with hi | ⟨rfl, _⟩
    · exact hi
    · have := hf.size; omega
  · rcases hi with hi | ⟨rfl, ho⟩
    · obtain ⟨v, hv⟩ := hg.there b o hi
      exact ⟨v, by show (c.w.alloc _).cell? _ = _; rw [World.cell?_block (heap_alloc_lt c.w _ b (lt_of_cell hv))]; exact hv⟩
    · exact ⟨vs[o], by show (c.w.alloc _).cell? _ = _; rw [cell?_cells (heap_alloc_eq c.w _)]; simp⟩

theorem Keeps.trans {a b c : Cx} {objs : List (Nat × AO)} (h : Keeps a b objs) (k : Keeps b c objs) : Keeps a c objs :=
  ⟨h.ext.trans k.ext, fun q hq => (k.β q hq).trans (h.β q hq), fun q hq => (k.κ q hq).trans (h.κ q hq), fun q hq => (k.fr q hq).trans (h.fr q hq),
   fun q o bl hq hb => by
     have h1 := h.heap q o bl hq hb
     have h2 := k.heap q o bl hq (by rw [excl_same (h.β q ⟨o, hq⟩) (h.κ q ⟨o, hq⟩)]; exact hb)
     exact ⟨h2.1.trans h1.1, fun off hi => h1.2 off (h2.2 off hi)⟩⟩
theorem Grow.trans {B : Base} {a b c : Cx} (h : Grow B a b) (k : Grow B b c) : Grow B a c :=
  ⟨k.os.trans h.os, k.output.trans h.output, k.tape.trans h.tape, Nat.le_trans h.size k.size, fun bl hb hd => (k.block bl hb hd).trans (h.block bl hb hd),
   fun bl o hb hd hi => h.new bl o hb hd (k.new bl o hb hd hi), k.there⟩

/-- A new variable, key k's. -/
def Cx.var (c : Cx) (k : Nat) (vs : Array Value) (t : TypeId) : Cx :=
  { c with w := c.w.alloc (.cells vs t), β := fun q => if q = k then c.w.heap.size else c.β q, fr := fun q => if q = k then none else c.fr q }
theorem live_ne {objs : List (Nat × AO)} {k q : Nat} (hk : alook objs k = none) (hq : live objs q) : q ≠ k := by
  rintro rfl; obtain ⟨o, h⟩ := hq; simp [hk] at h
theorem Cx.var_keeps {G : Nat → Option (List AV)} {c : Cx} (hg : Good G c) {objs : List (Nat × AO)} (ho : Objs c objs) {k : Nat} (hk : alook objs k = none) (vs : Array Value) (t : TypeId) : KeepsBut c (c.var k vs t) objs k := by
  refine ⟨ext_alloc hg rfl (fun _ _ h => h) (fun q hq => by simp [Cx.var, live_ne hk hq]) (fun _ _ => rfl) (fun q hq => by simp [Cx.var, live_ne hk hq]), fun q _ hne => by simp [Cx.var, hne], fun _ _ _ => rfl, fun q _ hne => by simp [Cx.var, hne], fun q o b hq _ hb => ?_⟩
  exact ⟨heap_alloc_lt _ _ _ (excl_lt (ho.rep q o hq) hb), fun _ h => h⟩
theorem Cx.var_grow {B : Base} {c : Cx} (hg : Good B.G c) (hf : Frame B c) (k : Nat) (vs : Array Value) (t : TypeId) : Grow B c (c.var k vs t) := by
  refine ⟨rfl, rfl, rfl, by simp [Cx.var], fun b hb _ => heap_alloc_lt _ _ _ (Nat.lt_of_lt_of_le hb hf.size), fun b o hb _ hi => hi, fun b o hi => ?_⟩
  obtain ⟨v, hv⟩ := hg.there b o hi
  exact ⟨v, by show (c.w.alloc _).cell? _ = _; rw [World.cell?_block (heap_alloc_lt c.w _ b (lt_of_cell hv))]; exact hv⟩

/-- Block b, which belongs to key k alone, holds other cells. -/
def Cx.write (c : Cx) (w' : World) : Cx := { c with w := w' }
structure Wrote (c : Cx) (b : Nat) (w' : World) : Prop where
  os : w'.os = c.w.os
  output : w'.output = c.w.output
  tape : w'.tape = c.w.tape
  size : w'.heap.size = c.w.heap.size
  other : ∀ b', b' ≠ b → w'.heap[b']? = c.w.heap[b']?
theorem Cx.write_keeps {c : Cx} {objs : List (Nat × AO)} (ho : Objs c objs) {k : Nat} {o : AO} {b : Nat} {w' : World} (hk : alook objs k = some o) (hb : excl c k o = some b) (hI : ∀ off, ¬ c.I b off) (hw : Wrote c b w') :
    KeepsBut c (c.write w') objs k := by
  refine ⟨⟨fun b' off v hi hv => ?_, fun _ _ h => h, fun _ _ => rfl, fun _ _ _ _ h => h⟩, fun _ _ _ => rfl, fun _ _ _ => rfl, fun _ _ _ => rfl, fun q o' b' hq hne hb' => ⟨hw.other b' ?_, fun _ h => h⟩⟩
  · show w'.cell? _ = _
    rw [World.cell?_block (hw.other b' (fun e => hI off (e ▸ hi)))]; exact hv
  · rintro rfl; exact ho.apart q o' k o b' hq hk hne hb' hb
theorem Cx.write_grow {B : Base} {c : Cx} (hg : Good B.G c) {b : Nat} {w' : World} (hI : ∀ off, ¬ c.I b off) (hw : Wrote c b w') (hm : B.c0.w.heap.size ≤ b ∨ B.D b) : Grow B c (c.write w') := by
  refine ⟨hw.os, hw.output, hw.tape, Nat.le_of_eq hw.size.symm, fun b' hb' hd => hw.other b' ?_, fun _ _ _ _ h => h, fun b' o hi => ?_⟩
  · rintro rfl; rcases hm with h | h
    · omega
    · exact hd h
  · obtain ⟨v, hv⟩ := hg.there b' o hi
    exact ⟨v, by show w'.cell? _ = _; rw [World.cell?_block (hw.other b' (fun e => hI o (e ▸ hi)))]; exact hv⟩

end Go.Ab

namespace Go.Ab
open Go
set_option linter.unusedVariables false
set_option linter.unusedSimpArgs false

section
variable {P : Program} (w : World)
theorem run_part_kd {t : TypeId} {k : KD} (h : kdOf P t = some k) {xs : Array Value} {off : Nat} {v : Value} (hv : xs[off]? = some v) : (part t xs off).run P w = .ok v w := by
  unfold kdOf at h
  cases hu : P.underlying t with
  | none => simp [hu] at h
  | some d =>
    cases d <;> simp [hu] at h
    all_goals simp [part, isAgg, run_underlying hu, hv]
theorem bytes_toList (s : List UInt8) : (⟨s.toArray⟩ : ByteArray).toList = s := by rw [ByteArray.toList_eq]
theorem run_equalIn_kd (d : Nat) {t : TypeId} {k : KD} (h : kdOf P t = some k) {u v : AV} (hu : k.fits u = true) (hv : k.fits v = true) : (Op.equalIn (d + 1) t (valC u) (valC v)).run P w = .ok (eqC u v) w := by
  unfold kdOf at h
  cases ht : P.underlying t with
  | none => simp [ht] at h
  | some e =>
    cases e <;> simp [ht] at h
    all_goals
      subst h
      cases u <;> simp [KD.fits] at hu
      all_goals
        cases v <;> simp [KD.fits] at hv
        first
        | exact run_equalIn_bool w d t _ _ ht
        | (subst hu; subst hv; simp only [valC, eqC, decide_true, Bool.true_and]; exact run_equalIn_int w d t _ _ _ _ ht)
        | (simp only [valC, eqC]; rw [run_equalIn_string w d t _ _ ht, bytes_toList, bytes_toList])
theorem sameNow_kd {t : TypeId} {k : KD} (h : kdOf P t = some k) {u v : AV} (hu : k.fits u = true) (hv : k.fits v = true) : ∃ e, P.underlying t = some e ∧ Instr.sameNow e (valC u) (valC v) = some (eqC u v) := by
  unfold kdOf at h
  cases ht : P.underlying t with
  | none => simp [ht] at h
  | some e =>
    refine ⟨e, rfl, ?_⟩
    cases e <;> simp [ht] at h
    all_goals
      subst h
      cases u <;> simp [KD.fits] at hu
      all_goals
        cases v <;> simp [KD.fits] at hv
        first
        | rfl
        | (subst hu; subst hv; simp [valC, eqC, Instr.sameNow])
        | (simp only [valC, eqC, Instr.sameNow]; rw [beq_toListBytes, bytes_toList, bytes_toList])
theorem valsC_get {l : List AV} {i : Nat} {u : AV} (h : l[i]? = some u) : (valsC l)[i]? = some (valC u) := by simp [valsC, h]
theorem run_eqFields_kd (d : Nat) : ∀ {fs : List Field} {i : Nat} {ks : List KD} {pre l l' : List AV} {pre' : List AV}, kdsFields P i fs = some ks → kdFits ks l = true → kdFits ks l' = true → pre.length = i → pre'.length = i →
    (Op.eqFields (d + 1) (valsC (pre ++ l)) (valsC (pre' ++ l')) fs).run P w = .ok (eqCs l l') w
  | [], i, ks, pre, l, l', pre', h, h1, h2, _, _ => by
    simp only [kdsFields, Option.some.injEq] at h
    subst h
    cases l <;> simp [kdFits] at h1
    cases l' <;> simp [kdFits] at h2
    simp [Op.eqFields, eqCs]
  | f :: fs, i, ks, pre, l, l', pre', h, h1, h2, e1, e2 => by
    simp only [kdsFields] at h
    cases hb : (f.name != "_" && Nat.beq f.offset i) with
    | false => simp [hb, guardO] at h
    | true =>
      rw [hb] at h
      simp only [guardO, cond_true] at h
      simp only [Bool.and_eq_true, bne_iff_ne, ne_eq] at hb
      have ho : f.offset = i := Nat.eq_of_beq_eq_true hb.2
      cases hk : kdOf P f.type with
      | none => simp [hk] at h
      | some k =>
        simp only [hk, Option.bind_some, Option.map_eq_some_iff] at h
        obtain ⟨r, hr, rfl⟩ := h
        cases l with
        | nil => simp [kdFits] at h1
        | cons u l =>
          cases l' with
          | nil => simp [kdFits] at h2
          | cons v l' =>
            simp only [kdFits, Bool.and_eq_true] at h1 h2
            have g1 : (valsC (pre ++ u :: l))[f.offset]? = some (valC u) := valsC_get (by rw [ho, List.getElem?_append_right (by omega)]; simp [e1])
            have g2 : (valsC (pre' ++ v :: l'))[f.offset]? = some (valC v) := valsC_get (by rw [ho, List.getElem?_append_right (by omega)]; simp [e2])
            have ih := run_eqFields_kd d (pre := pre ++ [u]) (pre' := pre' ++ [v]) hr h1.2 h2.2 (by simp [e1]) (by simp [e2])
            simp only [List.append_assoc, List.singleton_append] at ih
            have hq := run_equalIn_kd w d hk h1.1 h2.1
            simp only [Op.eqFields, hb.1, not_false_eq_true, ne_eq, if_true, Sem.run_bind, run_part_kd w hk g1, run_part_kd w hk g2, Result.andThen_ok, hq]
            cases hc : eqC u v with
            | true => simp [eqCs, hc, ih]
            | false => simp [eqCs, hc]
theorem run_eqItems_kd (d : Nat) {e : TypeId} {k : KD} (hk : kdOf P e = some k) : ∀ {n i : Nat} {pre l l' pre' : List AV}, kdFits (List.replicate n k) l = true → kdFits (List.replicate n k) l' = true → pre.length = i → pre'.length = i →
    (Op.eqItems (d + 1) e 1 (valsC (pre ++ l)) (valsC (pre' ++ l')) (List.range' i n)).run P w = .ok (eqCs l l') w
  | 0, i, pre, l, l', pre', h1, h2, _, _ => by
    cases l <;> simp [kdFits] at h1
    cases l' <;> simp [kdFits] at h2
    simp [Op.eqItems, eqCs]
  | n + 1, i, pre, l, l', pre', h1, h2, e1, e2 => by
    rw [List.replicate_succ] at h1 h2
    cases l with
    | nil => simp [kdFits] at h1
    | cons u l =>
      cases l' with
      | nil => simp [kdFits] at h2
      | cons v l' =>
        simp only [kdFits, Bool.and_eq_true] at h1 h2
        have g1 : (valsC (pre ++ u :: l))[i * 1]? = some (valC u) := valsC_get (by rw [Nat.mul_one, List.getElem?_append_right (by omega)]; simp [e1])
        have g2 : (valsC (pre' ++ v :: l'))[i * 1]? = some (valC v) := valsC_get (by rw [Nat.mul_one, List.getElem?_append_right (by omega)]; simp [e2])
        have ih := run_eqItems_kd d hk (n := n) (i := i + 1) (pre := pre ++ [u]) (pre' := pre' ++ [v]) h1.2 h2.2 (by simp [e1]) (by simp [e2])
        simp only [List.append_assoc, List.singleton_append] at ih
        have hq := run_equalIn_kd w d hk h1.1 h2.1
        simp only [List.range'_succ, Op.eqItems, Sem.run_bind, run_part_kd w hk g1, run_part_kd w hk g2, Result.andThen_ok, hq]
        cases hc : eqC u v with
        | true => simp [eqCs, hc, ih]
        | false => simp [eqCs, hc]
theorem run_equal_key {t : TypeId} {ka : Bool} {ks : List KD} (h : keyT P t = some (ka, ks)) {l l' : List AV} (h1 : kdFits ks l = true) (h2 : kdFits ks l' = true) : (Op.equal t (keyV ka l) (keyV ka l')).run P w = .ok (eqCs l l') w := by
  unfold keyT at h
  show (Op.equalIn (9999 + 1) t _ _).run P w = _
  split at h
  · rename_i fs hu
    obtain ⟨hb, h⟩ : (!P.stoodInHeld t) = true ∧ (kdsFields P 0 fs.toList).map (fun l => (true, l)) = some (ka, ks) := by
      cases hb : (!P.stoodInHeld t) with
      | false => rw [hb] at h; simp [guardO] at h
      | true => rw [hb] at h; exact ⟨rfl, by simpa [guardO] using h⟩
    obtain ⟨r, hr, h⟩ := Option.map_eq_some_iff.1 h
    simp only [Prod.mk.injEq] at h
    obtain ⟨rfl, rfl⟩ := h
    have hf : P.fieldsOf t = fs := by simp [Program.fieldsOf, hu]
    have := run_equalIn_struct w 9999 t (valsC l) (valsC l') (by rw [hf]; exact hu) (by simpa using hb)
    show (Op.equalIn (9999 + 1) t (.agg (valsC l)) (.agg (valsC l'))).run P w = _
    rw [this, hf]
    exact run_eqFields_kd w 9998 (pre := []) (pre' := []) hr h1 h2 rfl rfl
  · rename_i n e hu
    cases hk : kdOf P e with
    | none => simp [hk] at h
    | some k =>
      simp only [hk, Option.bind_some] at h
      cases hb : (sizeOf? P e == some 1) with
      | false => rw [hb] at h; simp [guardO] at h
      | true =>
        rw [hb] at h
        simp only [guardO, cond_true, Option.some.injEq, Prod.mk.injEq] at h
        obtain ⟨rfl, rfl⟩ := h
        have hb : (P.info? e).map (·.size) = some 1 := by simpa [sizeOf?] using hb
        obtain ⟨i, hi, hs⟩ := Option.map_eq_some_iff.1 hb
        have hc : P.cellsOf e = 1 := by simp [Program.cellsOf, hi, hs]
        have := run_equalIn_array w 9999 (valsC l) (valsC l') hu hi
        show (Op.equalIn (9999 + 1) t (.agg (valsC l)) (.agg (valsC l'))).run P w = _
        rw [this, hc, List.range_eq_range']
        exact run_eqItems_kd w 9998 hk (pre := []) (pre' := []) h1 h2 rfl rfl
  · obtain ⟨k, hk, h⟩ := Option.map_eq_some_iff.1 h
    simp only [Prod.mk.injEq] at h
    obtain ⟨rfl, rfl⟩ := h
    match l, l', h1, h2 with
    | [u], [v], h1, h2 =>
      simp only [kdFits, Bool.and_true] at h1 h2
      have := run_equalIn_kd w 9999 hk h1 h2
      simpa [keyV, eqCs] using this
    | [], _, h1, _ => simp [kdFits] at h1
    | _ :: _ :: _, _, h1, _ => simp [kdFits] at h1
    | [_], [], _, h2 => simp [kdFits] at h2
    | [_], _ :: _ :: _, _, h2 => simp [kdFits] at h2
end
section
variable {c : Cx}
theorem fits_rep {k : KD} {u : AV} (h : k.fits u = true) {x : Value} (hr : Rep c u x) : x = valC u := by
  cases k <;> cases u <;> simp [KD.fits] at h <;> cases hr <;> rfl
theorem kdFits_rep : ∀ {ks : List KD} {cs : List AV} {vs : List Value}, kdFits ks cs = true → vs.length = cs.length → (∀ (i : Nat) (u : AV), cs[i]? = some u → Rep c u (vs.getD i undef)) → vs = cs.map valC
  | [], cs, vs, h, hl, _ => by
    cases cs <;> simp [kdFits] at h
    cases vs <;> simp at hl
    rfl
  | k :: ks, cs, vs, h, hl, hr => by
    cases cs with
    | nil => simp [kdFits] at h
    | cons u cs =>
      cases vs with
      | nil => simp at hl
      | cons v vs =>
        simp only [kdFits, Bool.and_eq_true] at h
        have h0 := fits_rep h.1 (hr 0 u rfl)
        have h1 := kdFits_rep (vs := vs) h.2 (by simpa using hl) fun i w hw => by simpa using hr (i + 1) w (by simpa using hw)
        simp only [List.getD_cons_zero] at h0
        rw [h0, h1]; rfl
theorem agg_rep {ks : List KD} {cs : List AV} {x : Value} (hk : kdFits ks cs = true) (hr : Rep c (.agg cs) x) : x = keyV true cs := by
  cases hr with
  | agg _ vs h1 h2 h3 =>
    have := kdFits_rep (vs := vs.toList) hk (by simpa using h1) fun i u hu => by simpa [Array.getD_eq_getD_getElem?, List.getD_eq_getElem?_getD] using h3 i u hu
    show Value.agg vs = .agg (valsC cs)
    congr 1
    apply Array.ext'
    simpa [valsC] using this
theorem guardO_some {α : Type} {b : Bool} {x : Option α} {y : α} (h : guardO b x = some y) : b = true ∧ x = some y := by
  cases b
  · cases h
  · exact ⟨rfl, h⟩
end
end Go.Ab

namespace Go.Ab
open Go Go.RowKit
variable {P : Program} {B : Base} {c : Cx} {s : St} {a : Act}

theorem ofCell_rep {v : Value} {u : AV} (h : ofCell v = some u) : Rep c u v ∧ u.keys = [] ∧ u.isGrd = false ∧ u.one = true := by
  unfold ofCell at h
  split at h <;> simp at h <;> subst h
  · exact ⟨.bool _, rfl, rfl, rfl⟩
  · exact ⟨.int _ _, rfl, rfl, rfl⟩
  · exact ⟨.str _, rfl, rfl, rfl⟩
  · exact ⟨.nilp, rfl, rfl, rfl⟩
  · exact ⟨.slNil _ _ _ trivial, rfl, rfl, rfl⟩
  · exact ⟨.nilm, rfl, rfl, rfl⟩
  · exact ⟨.nilf, rfl, rfl, rfl⟩
  · exact ⟨.nili, rfl, rfl, rfl⟩

theorem ofCells_rep : ∀ {vs : List Value} {us : List AV}, ofCells vs = some us → us.length = vs.length ∧ keysL us = [] ∧
    ∀ (i : Nat) (u : AV), us[i]? = some u → u.one = true ∧ Rep c u (vs.getD i undef)
  | [], us, h => by simp [ofCells] at h; subst h; simp [keysL]
  | v :: r, us, h => by
    simp only [ofCells] at h
    cases hv : ofCell v with
    | none => simp [hv] at h
    | some x =>
      cases hr : ofCells r with
      | none => simp [hv, hr] at h
      | some l =>
        simp [hv, hr] at h
        subst h
        obtain ⟨h1, h2, h3⟩ := ofCells_rep hr
        have hx := ofCell_rep (c := c) hv
        refine ⟨by simp [h1], by simp [keysL, hx.2.1, h2], fun i u hu => ?_⟩
        cases i with
        | zero => simp at hu; subst hu; exact ⟨hx.2.2.2, by simpa using hx.1⟩
        | succ i => simpa using h3 i u (by simpa using hu)

theorem ofValue_rep {v : Value} {u : AV} (h : ofValue v = some u) : Rep c u v ∧ u.keys = [] ∧ u.isGrd = false := by
  unfold ofValue at h
  split at h
  · rename_i cs
    cases hc : ofCells cs.toList with
    | none => simp [hc] at h
    | some l =>
      simp [hc] at h; subst h
      obtain ⟨h1, h2, h3⟩ := ofCells_rep (c := c) hc
      refine ⟨.agg _ _ (by simpa using h1.symm) (fun i u hu => (h3 i u hu).1) (fun i u hu => ?_), by simpa [AV.keys] using h2, rfl⟩
      have := (h3 i u hu).2
      simpa [Array.getD_eq_getD_getElem?, List.getD_eq_getElem?_getD] using this
  · exact ⟨(ofCell_rep h).1, (ofCell_rep (c := c) h).2.1, (ofCell_rep (c := c) h).2.2.1⟩

/-- The guards hold. -/
def ChOk (a : Act) (ch : Chain) : Prop := ∀ t w, (t, w) ∈ ch → a.tmps.getD t undef = .bool w
theorem Chain.has_mem {ch : Chain} {t : Nat} {w : Bool} (h : ch.has t w = true) : (t, w) ∈ ch := by
  unfold Chain.has at h
  rw [List.any_eq_true] at h
  obtain ⟨⟨t', w'⟩, hm, hp⟩ := h
  simp only [Bool.and_eq_true, beq_iff_eq] at hp
  have := beqT hp.1
  subst this
  obtain ⟨_, rfl⟩ := hp
  exact hm

structure Sees (B : Base) (c : Cx) (s : St) (v : AV) (x : Value) : Prop where
  rep : Rep c v x
  live : ∀ k ∈ v.keys, live s.objs k
  plain : v.isGrd = false

theorem evalO_sound (h : Rel B c s a) {ch : Chain} (hc : ChOk a ch) {o : Operand} {v : AV} (he : evalO ⟨s, B.G, ch⟩ o = some v) : Sees B c s v (a.eval o) := by
  cases o with
  | tmp t =>
    simp only [evalO] at he
    cases hg : s.get t with
    | none => simp [hg] at he
    | some u =>
      have hr := h.env t u hg
      have hl := h.closed t u hg
      cases u with
      | grd tc w v' =>
        simp only [hg] at he
        cases hb : (Chain.has ch tc w && !v'.isGrd) with
        | false => simp [hb] at he
        | true =>
          simp only [hb, cond_true, Option.some.injEq] at he
          subst he
          simp only [Bool.and_eq_true, Bool.not_eq_true'] at hb
          exact ⟨hr.1 (hc _ _ (Chain.has_mem hb.1)), by simpa [AV.keys] using hl, hb.2⟩
      | _ => simp only [hg, Option.some.injEq] at he; subst he; exact ⟨hr, hl, rfl⟩
  | const v' => exact ⟨(ofValue_rep he).1, by rw [(ofValue_rep (c := c) he).2.1]; simp, (ofValue_rep (c := c) he).2.2⟩
  | global g =>
    simp only [evalO] at he
    cases hg : B.G g with
    | none => simp [hg] at he
    | some cs => simp [hg] at he; subst he; exact ⟨h.good.globs g cs hg, by simp [AV.keys], rfl⟩
  | func f =>
    simp only [evalO, Option.some.injEq] at he; subst he
    exact ⟨.fn f [] [] #[] #[] rfl rfl (by simp) (by simp), by simp [AV.keys, keysL], rfl⟩

/-- The result of a pure operation. -/
def Goes (P : Program) (B : Base) (c : Cx) (s : St) (m : Sem Value) (v : AV) : Prop :=
  ∃ x c', m.run P c.w = .ok x c'.w ∧ Keeps c c' s.objs ∧ Grow B c c' ∧ Sees B c' s v x

theorem Keeps.refl (c : Cx) (objs : List (Nat × AO)) : Keeps c c objs := ⟨Ext.refl _ _, fun _ _ => rfl, fun _ _ => rfl, fun _ _ => rfl, fun _ _ _ _ _ => ⟨rfl, fun _ h => h⟩⟩
theorem Grow.refl (h : Good B.G c) : Grow B c c := ⟨rfl, rfl, rfl, Nat.le_refl _, fun _ _ _ => rfl, fun _ _ _ _ h => h, h.there⟩

/-- An operation that turns nothing. -/
theorem Goes.still (h : Rel B c s a) {m : Sem Value} {v : AV} {x : Value} (hm : m.run P c.w = .ok x c.w) (hs : Sees B c s v x) : Goes P B c s m v :=
  ⟨x, c, hm, Keeps.refl _ _, Grow.refl h.good, hs⟩
theorem Sees.int {k : IntKind} {n : Int} : Sees B c s (.int k n) (.int k n) := ⟨.int _ _, by simp [AV.keys], rfl⟩
theorem Sees.bool {b : Bool} : Sees B c s (.bool b) (.bool b) := ⟨.bool _, by simp [AV.keys], rfl⟩
theorem Sees.str {l : List UInt8} : Sees B c s (.str l) (.string ⟨l.toArray⟩) := ⟨.str _, by simp [AV.keys], rfl⟩

theorem intOp_sound (h : Rel B c s a) {op : BinOp} {k : IntKind} {x y : Int} {v : AV} (he : intOp op k x y = some (true, v)) (hs : isShift op = false) {t : TypeId} : Goes P B c s (binOp op t (.int k x) (.int k y)) v := by
  cases op <;> simp only [intOp, ok1, isShift, Option.some.injEq, Prod.mk.injEq, true_and, reduceCtorEq, bne_iff_ne, ne_eq] at he hs
  case quo => obtain ⟨hy, rfl⟩ := he; exact Goes.still h (by rw [binOp_quo]; simp [Op.intDiv, hy]) Sees.int
  case rem => obtain ⟨hy, rfl⟩ := he; exact Goes.still h (by rw [binOp_rem]; simp [Op.intDiv, hy]) Sees.int
  all_goals (subst he)
  case add => exact Goes.still h (by rw [binOp_add]; rfl) Sees.int
  case sub => exact Goes.still h (by rw [binOp_sub]; rfl) Sees.int
  case mul => exact Goes.still h (by rw [binOp_mul]; rfl) Sees.int
  case and => exact Goes.still h (by rw [binOp_and]; rfl) Sees.int
  case or => exact Goes.still h (by rw [binOp_or]; rfl) Sees.int
  case xor => exact Goes.still h (by rw [binOp_xor]; rfl) Sees.int
  case andNot => exact Goes.still h (by rw [binOp_andNot]; rfl) Sees.int
  case eql => exact Goes.still h (by rw [binOp_eql]; rfl) Sees.bool
  case neq => exact Goes.still h (by rw [binOp_neq]; rfl) Sees.bool
  case lss => exact Goes.still h (by rw [binOp_lss]; rfl) Sees.bool
  case leq => exact Goes.still h (by rw [binOp_leq]; rfl) Sees.bool
  case gtr => exact Goes.still h (by rw [binOp_gtr]; rfl) Sees.bool
  case geq => exact Goes.still h (by rw [binOp_geq]; rfl) Sees.bool

theorem shiftOp_sound (h : Rel B c s a) {op : BinOp} {k k' : IntKind} {x y : Int} {v : AV} (he : shiftOp op k x y = some (true, v)) {t : TypeId} : Goes P B c s (binOp op t (.int k x) (.int k' y)) v := by
  cases op <;> simp [shiftOp] at he
  case shl =>
    obtain ⟨hy, rfl⟩ := he
    refine Goes.still h ?_ Sees.int
    rw [binOp_shl, Op.shift, if_neg (by omega)]; rfl
  case shr =>
    obtain ⟨hy, rfl⟩ := he
    refine Goes.still h ?_ Sees.int
    rw [binOp_shr, Op.shift, if_neg (by omega)]; rfl

theorem strOp_sound (h : Rel B c s a) {op : BinOp} {x y : List UInt8} {v : AV} (he : strOp op x y = some (true, v)) {t : TypeId} : Goes P B c s (binOp op t (.string ⟨x.toArray⟩) (.string ⟨y.toArray⟩)) v := by
  cases op <;> simp only [strOp, ok1, Option.some.injEq, Prod.mk.injEq, true_and, reduceCtorEq] at he
  case add =>
    obtain ⟨hy, rfl⟩ := he
    refine Goes.still h ?_ Sees.str
    have hle : x.length + y.length ≤ 4611686018427387904 := Nat.le_of_ble_eq_true hy
    have e : binOp .add t (.string ⟨x.toArray⟩) (.string ⟨y.toArray⟩) = Op.stringOp .add ⟨x.toArray⟩ ⟨y.toArray⟩ := by simp [binOp]
    rw [e, run_string_add_sum (P := P) (w := c.w) ⟨x.toArray⟩ ⟨y.toArray⟩ (by show x.toArray.size + y.toArray.size ≤ 9223372036854775807; simp; omega)]
    congr 2
  all_goals (subst he)
  case eql => exact Goes.still h (by rw [binOp_string_eql]; simp) Sees.bool
  case neq => exact Goes.still h (by rw [binOp_string_neq]; simp) Sees.bool
  case lss => exact Goes.still h (by rw [binOp_string_lss]; simp [bytesLt]) Sees.bool
  case leq => exact Goes.still h (by rw [binOp_string_leq]; simp [bytesLt]) Sees.bool
  case gtr => exact Goes.still h (by rw [binOp_string_gtr]; simp [bytesLt]) Sees.bool
  case geq => exact Goes.still h (by rw [binOp_string_geq]; simp [bytesLt]) Sees.bool

theorem isNilA_sound (h : Rel B c s a) {op : BinOp} {t : TypeId} {x y v : AV} {X Y : Value} (hx : Rep c x X) (hy : Rep c y Y) {xo yo : Operand} (he : isNilA P op t (isConst xo || isConst yo) x y = some (true, v)) :
    Goes P B c s (do eqGuard op t xo yo X Y; binOp op t X Y) v := by
  simp only [isNilA] at he
  split at he
  · rename_i ms hu
    split at he
    · rename_i b hb
      cases hk : (b && !(isConst xo || isConst yo)) with
      | true => rw [hk] at he; simp at he
      | false =>
        simp only [hk, cond_false] at he
        have key : ∀ X Y : Value, Rep c x X → Rep c y Y → (Op.equal t X Y).run P c.w = .ok b c.w ∧ ((do eqGuard op t xo yo X Y; binOp op t X Y) : Sem Value) = binOp op t X Y ∧ binOp .eql t X Y = (do pure (.bool (← Op.equal t X Y))) ∧ binOp .neq t X Y = (do pure (.bool (!(← Op.equal t X Y)))) := by
          intro X Y hx hy
          cases x <;> cases y <;> simp [nilEq] at hb <;> cases hx <;> cases hy
          · subst hb
            refine ⟨?_, ?_, rfl, rfl⟩
            · simp only [Op.equal, Op.maxDepth]; unfold Op.equalIn; simp [run_underlying hu]
            · have hc : (isConst xo || isConst yo) = true := by revert hk; cases (isConst xo || isConst yo) <;> simp
              cases op <;> (try rfl)
              all_goals
                cases xo <;> cases yo <;> simp [isConst] at hc <;> simp [eqGuard]
          all_goals
            subst hb
            refine ⟨?_, ?_, rfl, rfl⟩
            · simp only [Op.equal, Op.maxDepth]; unfold Op.equalIn; simp [run_underlying hu]
            · cases op <;> rfl
        obtain ⟨e1, e2, e3, e4⟩ := key X Y hx hy
        rw [e2]
        cases op <;> simp [ok1] at he
        · subst he
          refine Goes.still h (x := .bool b) ?_ Sees.bool
          rw [e3]; simp [e1]
        · subst he
          refine Goes.still h (x := .bool (!b)) ?_ Sees.bool
          rw [e4]; simp [e1]
    · simp at he
  · simp at he

theorem binA_sound (h : Rel B c s a) {op : BinOp} {t : TypeId} {x y v : AV} {X Y : Value} (hx : Rep c x X) (hy : Rep c y Y) {xo yo : Operand} (he : binA P op t (isConst xo || isConst yo) x y = some (true, v)) :
    Goes P B c s (do eqGuard op t xo yo X Y; binOp op t X Y) v := by
  cases x with
  | int k m =>
    cases y with
    | int k' n =>
      cases hx; cases hy
      rw [eqGuard_at_int]
      simp only [binA] at he
      cases hs : isShift op with
      | true => simp only [hs, cond_true] at he; exact shiftOp_sound h he
      | false =>
        simp only [hs, cond_false] at he
        by_cases hk : k = k'
        · subst hk; simp only [decide_true, cond_true] at he; exact intOp_sound h he hs
        · simp [hk] at he
    | _ => exact isNilA_sound h hx hy he
  | str m =>
    cases y with
    | str n => cases hx; cases hy; rw [eqGuard_at_string]; exact strOp_sound h he
    | _ => exact isNilA_sound h hx hy he
  | bool m =>
    cases y with
    | bool n =>
      cases hx; cases hy
      rw [eqGuard_at_bool]
      simp only [binA] at he
      split at he
      · rename_i hu
        have e1 : (Op.equal t (.bool m) (.bool n)).run P c.w = .ok (m == n) c.w := by
          simp only [Op.equal, Op.maxDepth]
          unfold Op.equalIn
          simp [run_underlying hu]
        cases op <;> simp [ok1] at he
        · subst he
          refine Goes.still h (x := .bool (m == n)) ?_ Sees.bool
          show (binOp .eql t (.bool m) (.bool n)).run P c.w = _
          simp [binOp, e1]
        · subst he
          refine Goes.still h (x := .bool (!(m == n))) ?_ Sees.bool
          show (binOp .neq t (.bool m) (.bool n)).run P c.w = _
          simp [binOp, e1]
      · simp at he
    | _ => exact isNilA_sound h hx hy he
  | agg l =>
    cases y with
    | agg m =>
      simp only [binA] at he
      split at he
      · rename_i ks hk
        obtain ⟨hb, he⟩ := guardO_some he
        simp only [Bool.and_eq_true] at hb
        obtain ⟨b1, b2, b3⟩ := hb
        obtain rfl : X = keyV true l := agg_rep b1 hx
        obtain rfl : Y = keyV true m := agg_rep b2 hy
        have e1 := run_equal_key c.w hk b1 b2
        have e2 : (Op.equalIn 10000 t (keyV true l) (keyV true m)).run P c.w = .ok (eqCs l m) c.w := e1
        have e3 : ∀ op, (eqGuard op t xo yo (keyV true l) (keyV true m)).run P c.w = .ok () c.w := fun op => run_eqGuard_agg c.w op t xo yo _ _ (by simpa using b3)
        cases op <;> simp [ok1] at he
        · subst he
          refine Goes.still h (x := .bool (eqCs l m)) ?_ Sees.bool
          rw [Sem.run_bind, e3, Result.andThen_ok]
          show (binOp .eql t (.agg (valsC l)) (.agg (valsC m))).run P c.w = _
          rw [run_eql_struct]
          show Result.andThen ((Op.equalIn 10000 t (keyV true l) (keyV true m)).run P c.w) _ = _
          rw [e2]; rfl
        · subst he
          refine Goes.still h (x := .bool (!(eqCs l m))) ?_ Sees.bool
          rw [Sem.run_bind, e3, Result.andThen_ok]
          show (binOp .neq t (.agg (valsC l)) (.agg (valsC m))).run P c.w = _
          rw [run_neq_struct]
          show Result.andThen ((Op.equalIn 10000 t (keyV true l) (keyV true m)).run P c.w) _ = _
          rw [e2]; rfl
      · simp at he
    | _ => exact isNilA_sound h hx hy he
  | _ => exact isNilA_sound h hx hy (by simpa only [binA] using he)

theorem unA_sound (h : Rel B c s a) {op : UnOp} {x v : AV} {X : Value} (hx : Rep c x X) (he : unA op x = some (true, v)) : Goes P B c s (Op.unary op X) v := by
  cases op <;> cases x <;> simp [unA, ok1] at he <;> subst he <;> cases hx
  · exact Goes.still h (by simp [Op.unary, Op.intArith]) Sees.int
  · exact Goes.still h (by simp only [Op.unary, Op.intBits]; rfl) Sees.int
  · exact Goes.still h (by simp [Op.unary]) Sees.bool

theorem lenA_sound (h : Rel B c s a) {x v : AV} {X : Value} {t ty : TypeId} (hx : Rep c x X) (he : lenA P t x = some (true, v)) : Goes P B c s (Builtin.len_ #[t] ty #[X]) v := by
  unfold lenA at he
  split at he <;> simp [ok1] at he <;> subst he
  · rename_i hu; cases hx <;> exact Goes.still h (by simp [Builtin.len_, run_underlying hu, goInt]) Sees.int
  · rename_i hu; cases hx; exact Goes.still h (by simp [Builtin.len_, run_underlying hu, goInt]) Sees.int
  · rename_i hu; cases hx <;> exact Goes.still h (by simp [Builtin.len_, run_underlying hu, goInt]) Sees.int
  · rename_i hu
    have hc : ∀ (a : Option Addr) (n cap : Nat), Goes P B c s (Builtin.len_ #[t] ty #[Value.slice a n cap]) (AV.int IntKind.i64 n) := fun a n cap => Goes.still h (by simp [Builtin.len_, run_underlying hu, goInt]) Sees.int
    cases hx with
    | gsubNil => exact hc _ _ _
    | gsub => exact hc _ _ _
  · rename_i hu; cases hx; exact Goes.still h (by simp [Builtin.len_, run_underlying hu, goInt]; rfl) Sees.int
  · rename_i hu; cases hx; exact Goes.still h (by simp [Builtin.len_, run_underlying hu, goInt]) Sees.int
end Go.Ab

namespace Go.Ab
open Go Go.RowKit
variable {P : Program} {B : Base} {c : Cx} {s : St} {a : Act}

theorem run_isAgg {t : TypeId} {d : TypeDesc} (h : P.underlying t = some d) (w : World) : (isAgg t).run P w = .ok (isAggD d) w := by
  unfold isAgg
  rw [Sem.run_bind, run_underlying h]
  cases d <;> rfl
theorem run_sizeOf {t : TypeId} {n : Nat} (h : sizeOf? P t = some n) (w : World) : (sizeOf t).run P w = .ok n w := by
  unfold sizeOf? at h
  cases hi : P.info? t with
  | none => simp [hi] at h
  | some i => simp [hi] at h; simp [sizeOf, typeInfo, hi, h]

/-- What a row of cells in memory is: readable, each cell as its abstract one. -/
def CellsAt (c : Cx) (b o : Nat) (cs : List AV) : Prop :=
  ∀ (i : Nat) (u : AV), cs[i]? = some u → u.one = true ∧ ∃ x, c.w.cell? ⟨b, o + i, none⟩ = some x ∧ Rep c u x

theorem one_plain {u : AV} (h : u.one = true) : u.isGrd = false := by cases u <;> simp_all [AV.one, AV.isGrd]

theorem ofPart_load {b o : Nat} {cs : List AV} (hc : CellsAt c b o cs) {t : TypeId} {off : Nat} {v : AV} (he : ofPart P t cs off = some v) :
    ∃ x, (loadVar t ⟨b, o + off, none⟩).run P c.w = .ok x c.w ∧ Rep c v x ∧ (∀ k ∈ v.keys, k ∈ keysL cs) ∧ v.isGrd = false := by
  unfold ofPart at he
  split at he
  · rename_i d n hu hn
    cases hd : isAggD d with
    | true =>
      simp only [hd, cond_true] at he
      cases hb : Nat.ble (off + n) cs.length with
      | false => simp [hb] at he
      | true =>
        simp only [hb, cond_true, Option.some.injEq] at he
        have hle := Nat.le_of_ble_eq_true hb
        subst he
        let f : Nat → Value := fun j => (c.w.cell? ⟨b, o + off + j, none⟩).getD undef
        have hf : ∀ j (hj : j < n), c.w.cell? ⟨b, o + off + j, none⟩ = some (f j) ∧ Rep c (cs[off + j]'(by omega)) (f j) ∧ (cs[off + j]'(by omega)).one = true := by
          intro j hj
          obtain ⟨h1, x, hx, hr⟩ := hc (off + j) _ (List.getElem?_eq_getElem (by omega))
          have : o + (off + j) = o + off + j := by omega
          rw [this] at hx
          refine ⟨by simp [f, hx], ?_, h1⟩
          simp only [f, hx, Option.getD_some]; exact hr
        refine ⟨.agg ((List.range n).map f).toArray, ?_, ?_, ?_, rfl⟩
        · unfold loadVar
          rw [Sem.run_bind, run_isAgg hu]
          simp only [Result.andThen_ok, hd, if_true, Sem.run_bind, run_sizeOf hn]
          rw [run_loadCells c.w ⟨b, o + off, none⟩ n f (fun j hj => by rw [Addr.add_lit]; exact (hf j hj).1)]
          rfl
        · refine .agg _ _ (by simp; omega) (fun i u hu => ?_) (fun i u hu => ?_)
          · have hi : i < n := by
              rcases Nat.lt_or_ge i n with h | h
              · exact h
              · simp [List.getElem?_take, Nat.not_lt.2 h] at hu
            have : u = cs[off + i]'(by omega) := by
              simp [hi, List.getElem?_drop] at hu
              rw [List.getElem?_eq_getElem (by omega)] at hu; simpa using hu.symm
            rw [this]; exact (hf i hi).2.2
          · have hi : i < n := by
              rcases Nat.lt_or_ge i n with h | h
              · exact h
              · simp [List.getElem?_take, Nat.not_lt.2 h] at hu
            have : u = cs[off + i]'(by omega) := by
              simp [hi, List.getElem?_drop] at hu
              rw [List.getElem?_eq_getElem (by omega)] at hu; simpa using hu.symm
            rw [this]
            have := (hf i hi).2.1
            simpa [Array.getD_eq_getD_getElem?, hi] using this
        · intro k hk
          simp only [AV.keys] at hk
          have hsub : ∀ (l : List AV) (m : Nat), (∀ k ∈ keysL (l.drop m), k ∈ keysL l) ∧ (∀ k ∈ keysL (l.take m), k ∈ keysL l) := by
            intro l m
            have e := keysL_append (l.take m) (l.drop m)
            rw [List.take_append_drop] at e
            exact ⟨fun k hk => by rw [e]; simp [hk], fun k hk => by rw [e]; simp [hk]⟩
          exact (hsub cs off).1 k ((hsub (cs.drop off) n).2 k hk)
    | false =>
      simp only [hd, cond_false] at he
      cases hcs : cs.drop off with
      | nil => simp [hcs] at he
      | cons u r =>
        simp [hcs] at he; subst he
        have hu' : cs[off]? = some u := by
          have := congrArg (fun l => l[0]?) hcs
          simpa [List.getElem?_drop] using this
        obtain ⟨h1, x, hx, hr⟩ := hc off u hu'
        refine ⟨x, ?_, hr, fun k hk => keys_mem_of hu' k hk, one_plain h1⟩
        unfold loadVar
        rw [Sem.run_bind, run_isAgg hu]
        simp [hd, hx]
  · simp at he

theorem RowAt.cellsAt {b : Nat} {cs : List AV} (h : RowAt c b cs) : CellsAt c b 0 cs := by
  obtain ⟨⟨vs, t, hh, hs, hr⟩, h1⟩ := h
  intro i u hu
  have hi : i < vs.size := by rw [hs]; exact (List.getElem?_eq_some_iff.1 hu).1
  refine ⟨h1 i u hu, vs.getD i undef, ?_, hr i u hu⟩
  rw [cell?_cells hh]
  simp [Array.getD_eq_getD_getElem?, hi]

theorem row_off_lt {i sz n j : Nat} (hi : i < n) (hj : j < sz) : i * sz + j < n * sz := by
  have : (i + 1) * sz ≤ n * sz := Nat.mul_le_mul_right _ hi
  rw [Nat.succ_mul] at this; omega

theorem ArrAt.cellsAt {b sz n : Nat} {get : Nat → List AV} (h : ArrAt c b sz n get) {i : Nat} (hi : i < n) : CellsAt c b (i * sz) (get i) := by
  obtain ⟨⟨vs, t, hh, hs, hr⟩, hl, h1⟩ := h
  intro j u hu
  have hj : j < sz := by rw [← (hl i hi).1]; exact (List.getElem?_eq_some_iff.1 hu).1
  have hlt : i * sz + j < vs.size := by rw [hs]; exact row_off_lt hi hj
  refine ⟨h1 i j u hi hu, vs.getD (i * sz + j) undef, ?_, hr i j u hi hu⟩
  rw [cell?_cells hh]
  simp [Array.getD_eq_getD_getElem?, hlt]

/-- What the owner of a growing row holds. -/
theorem grw_at (h : Rel B c s a) {k sz m n : Nat} {get : Nat → List AV} {sq : Nat} (ho : s.obj k = some (.grw sq sz n get)) {v0 : Value} (hv : OwnRep c (.key k) m v0) (hm : m = n) (hpos : 0 < n) :
    ∃ ad cap, c.κ k = some (ad, cap) ∧ v0 = .slice (some ad) n cap ∧ n ≤ cap ∧ GrwAt c ad sq sz n cap get := by
  subst hm
  obtain ⟨q, f1, f2, f3⟩ := hv
  have hr := h.objs.rep k _ ho
  obtain ⟨_, hfr, hr⟩ := hr
  rw [hfr] at f1
  have := Option.some.inj f1
  subst this
  have f3 := f3 rfl
  cases hκ : c.κ k with
  | none => simp only [hκ] at hr; omega
  | some p =>
    obtain ⟨ad, cap⟩ := p
    simp only [hκ] at hr
    rw [hκ] at f3
    exact ⟨ad, cap, rfl, f3, hr.1, hr.2 (by omega)⟩
theorem GrwAt.cellsAt {ad : Addr} {sq sz n cap : Nat} {get : Nat → List AV} (h : GrwAt c ad sq sz n cap get) (hc : n ≤ cap) {i : Nat} (hi : i < n) : CellsAt c ad.block (i * sz) (get i) := by
  obtain ⟨⟨vs, t, hh, hs, hr⟩, _, hl, h1, _⟩ := h
  intro j u hu
  have hj : j < sz := by rw [← (hl i hi).1]; exact (List.getElem?_eq_some_iff.1 hu).1
  have hlt : i * sz + j < vs.size := by rw [hs]; exact row_off_lt (Nat.lt_of_lt_of_le hi hc) hj
  refine ⟨h1 i j u hi hu, vs.getD (i * sz + j) undef, ?_, hr i j u hi hu⟩
  rw [cell?_cells hh]
  simp [Array.getD_eq_getD_getElem?, hlt]
theorem loadAt_addr (t : TypeId) (ad : Addr) (w : World) : (Instr.loadAt t (.pointer (some ad))).run P w = (loadVar t ad).run P w := by
  simp [Instr.loadAt, Instr.sureAddr]

theorem stillR {m : Sem Value} {v : AV} {x : Value} (hm : m.run P c.w = .ok x c.w) (hs : Sees B c s v x) : ∃ y, m.run P c.w = .ok y c.w ∧ Sees B c s v y := ⟨x, hm, hs⟩
theorem loadA_still (h : Rel B c s a) {t : TypeId} {x v : AV} {X : Value} (hx : Rep c x X) (he : loadA P s t x = some (true, v)) : ∃ y, (Instr.loadAt t X).run P c.w = .ok y c.w ∧ Sees B c s v y := by
  cases x with
  | elt cs off =>
    simp only [loadA, val1] at he
    cases hp : ofPart P t cs off with
    | none => simp [hp] at he
    | some u =>
      simp [hp] at he; subst he
      cases hx with
      | elt _ _ b o vals hk hc hr =>
        have hca : CellsAt c b o cs := fun i u hu => ⟨(hc i u hu).1, _, (hc i u hu).2.1, hr i u hu⟩
        obtain ⟨x, h1, h2, h3, h4⟩ := ofPart_load hca hp
        exact stillR (B := B) (s := s) (by rw [loadAt_addr]; exact h1) ⟨h2, fun k hk' => by have := h3 k hk'; simp [hk] at this, h4⟩
  | ref k off =>
    cases hx
    simp only [loadA] at he
    cases ho : s.obj k with
    | none => simp [ho] at he
    | some ob =>
      have hob := h.objs.rep k ob ho
      cases ob with
      | cells cs =>
        simp only [ho, val1] at he
        cases hp : ofPart P t cs off with
        | none => simp [hp] at he
        | some u =>
          simp [hp] at he; subst he
          obtain ⟨x, h1, h2, h3, h4⟩ := ofPart_load hob.1.cellsAt hp
          refine stillR (B := B) (s := s) (by rw [loadAt_addr]; simpa using h1) ⟨h2, fun q hq => ?_, h4⟩
          exact h.objs.closed k _ ho q (by simpa [AO.keys] using h3 q hq)
      | arr sz n get =>
        simp only [ho] at he
        split at he
        · rename_i m e hu
          simp only [guardO] at he
          cases hb : (Nat.beq off 0 && (Nat.beq m n && (sizeOf? P e == some sz && sizeOf? P t == some (n * sz)))) with
          | false => simp [hb] at he
          | true =>
            simp [hb, ok1] at he; subst he
            simp only [Bool.and_eq_true, beq_iff_eq] at hb
            obtain ⟨h0, _, _, hsz⟩ := hb
            have h0 := beqT h0
            subst h0
            obtain ⟨⟨vs, tt, hh, hs, hr⟩, hl, h1⟩ := hob.1
            refine stillR (B := B) (s := s) (x := .agg vs) ?_ ⟨.arr _ _ _ _ hs hl h1 hr, by simp [AV.keys], rfl⟩
            rw [loadAt_addr]
            have hfull := run_loadCells_list (P := P) c.w ⟨c.β k, 0, none⟩ vs.toList (fun j v hv => by
              rw [Addr.add_lit, cell?_cells hh]; simpa using hv)
            unfold loadVar
            rw [Sem.run_bind, run_isAgg hu]
            simp only [Result.andThen_ok, isAggD, if_true, Sem.run_bind, run_sizeOf hsz]
            have e1 : n * sz = vs.toList.length := by simpa using hs.symm
            rw [e1, hfull]
            rfl
        · simp at he
      | frz sz n get => simp [ho] at he
      | own sz n => simp [ho] at he
      | grw sq sz n get => simp [ho] at he
      | iter l p => simp [ho] at he
      | mp ka ks dom get => simp [ho] at he
      | gone => simp [ho] at he
  | gref k sz m i off =>
    simp only [loadA] at he
    cases ho : s.obj k with
    | none => simp [ho] at he
    | some ob =>
      cases ob with
      | grw sq sz' n get =>
        simp only [ho, guardO] at he
        cases hb : Nat.beq sz sz' with
        | false => simp [hb] at he
        | true =>
          simp only [hb, cond_true] at he
          have e1 := beqT hb
          subst e1
          cases hp : ofPart P t (get i) off with
          | none => simp [hp] at he
          | some u =>
            simp only [hp, Option.map_some, Option.some.injEq, Prod.mk.injEq, Bool.and_eq_true] at he
            obtain ⟨⟨hi, e2⟩, rfl⟩ := he
            have e2 := beqT e2
            subst e2
            have hi : i < m := Nat.le_of_ble_eq_true hi
            cases hx with
            | gref _ _ _ _ _ b cap hown =>
              obtain ⟨ad, cap', g1, g2, g3, g4⟩ := grw_at h ho hown rfl (by omega)
              simp only [Value.slice.injEq, Option.some.injEq] at g2
              obtain ⟨g2, _, _⟩ := g2
              subst g2
              obtain ⟨x, h1, h2, h3, h4⟩ := ofPart_load (g4.cellsAt g3 hi) hp
              refine stillR (B := B) (s := s) (by rw [loadAt_addr]; exact h1) ⟨h2, fun q hq => ?_, h4⟩
              have := h3 q hq
              simp [(g4.len i hi).2] at this
      | _ => simp [ho] at he
  | aref k sz i off =>
    cases hx
    simp only [loadA] at he
    cases ho : s.obj k with
    | none => simp [ho] at he
    | some ob =>
      have hob := h.objs.rep k ob ho
      have key : ∀ (sz' n : Nat) (get : Nat → List AV), ArrAt c (c.β k) sz' n get → guardO (Nat.beq sz sz') ((ofPart P t (get i) off).map fun v => (Nat.blt i n, v)) = some (true, v) → ∃ y, (Instr.loadAt t (.pointer (some ⟨c.β k, i * sz + off, none⟩))).run P c.w = .ok y c.w ∧ Sees B c s v y := by
        intro sz' n get ha he
        simp only [guardO] at he
        cases hb : Nat.beq sz sz' with
        | false => simp [hb] at he
        | true =>
          have := beqT hb
          subst this
          simp only [hb, cond_true] at he
          cases hp : ofPart P t (get i) off with
          | none => simp [hp] at he
          | some u =>
            simp [hp] at he
            obtain ⟨hi, rfl⟩ := he
            have hi : i < n := by simpa [Nat.blt] using hi
            obtain ⟨x, h1, h2, h3, h4⟩ := ofPart_load (ha.cellsAt hi) hp
            refine stillR (B := B) (s := s) (by rw [loadAt_addr]; exact h1) ⟨h2, fun q hq => ?_, h4⟩
            have := h3 q hq
            simp [(ha.len i hi).2] at this
      cases ob with
      | arr sz' n get => simp only [ho] at he; exact key sz' n get hob.1 he
      | frz sz' n get => simp only [ho] at he; exact key sz' n get hob.1 he
      | cells cs => simp [ho] at he
      | own sz n => simp [ho] at he
      | grw sq sz n get => simp [ho] at he
      | iter l p => simp [ho] at he
      | mp ka ks dom get => simp [ho] at he
      | gone => simp [ho] at he
  | _ => simp [loadA] at he
theorem loadA_sound (h : Rel B c s a) {t : TypeId} {x v : AV} {X : Value} (hx : Rep c x X) (he : loadA P s t x = some (true, v)) : Goes P B c s (Instr.loadAt t X) v := by
  obtain ⟨y, h1, h2⟩ := loadA_still h hx he
  exact Goes.still h h1 h2

theorem solid_run {t : TypeId} (h : solid P t = true) (w : World) : ∃ n, (sizeOf t).run P w = .ok (n + 1) w := by
  unfold solid at h
  split at h
  · rename_i n hn; exact ⟨n, run_sizeOf hn w⟩
  · simp at h

theorem fieldAt_run {t : TypeId} {f : Nat} {fd : Field} (hf : fieldOf? P t f = some fd) (hs : solid P fd.type = true) (b o : Nat) (w : World) :
    (Instr.fieldAt t (.pointer (some ⟨b, o, none⟩)) f).run P w = .ok (.pointer (some ⟨b, o + fd.offset, none⟩)) w := by
  unfold fieldOf? at hf
  obtain ⟨n, hn⟩ := solid_run hs w
  split at hf
  · rename_i fs hu
    simp [Instr.fieldAt, run_underlying hu, hf, Instr.sureAddr, fieldPlace, hn, Addr.add_lit]
  · simp at hf

theorem fieldAddrA_sound (h : Rel B c s a) {t : TypeId} {f : Nat} {x v : AV} {X : Value} (hx : Sees B c s x X) (he : fieldAddrA P t f x = some (true, v)) : Goes P B c s (Instr.fieldAt t X f) v := by
  unfold fieldAddrA at he
  split at he
  · rename_i fd hf
    cases hs : solid P fd.type with
    | false => simp [hs] at he
    | true =>
      simp only [hs, cond_true] at he
      obtain ⟨hr, hl, hpl⟩ := hx
      clear hpl
      cases x with
      | ref k off =>
        cases hr
        simp [ok1] at he; subst he
        exact Goes.still h (fieldAt_run hf hs _ _ _) ⟨.ref _ _, by simpa [AV.keys] using hl, rfl⟩
      | aref k sz i off =>
        cases hr
        simp [ok1] at he; subst he
        refine Goes.still h (fieldAt_run hf hs _ _ _) ⟨?_, by simpa [AV.keys] using hl, rfl⟩
        rw [Nat.add_assoc]; exact .aref _ _ _ _
      | gref k sz n i off =>
        simp [ok1] at he; subst he
        cases hr with
        | gref _ _ _ _ _ b cap hown =>
          refine Goes.still h (fieldAt_run hf hs _ _ _) ⟨?_, by simpa [AV.keys] using hl, rfl⟩
          rw [Nat.add_assoc]; exact .gref _ _ _ _ _ _ _ hown
      | elt cs off =>
        simp [ok1] at he; subst he
        cases hr with
        | elt _ _ b o vals hk hc hr =>
          refine Goes.still h (fieldAt_run hf hs _ _ _) ⟨?_, by simp [AV.keys], rfl⟩
          rw [Nat.add_assoc]; exact .elt _ _ _ _ vals hk hc hr
      | _ => simp at he
  · simp at he

theorem run_part {t : TypeId} {cs : List AV} {vs : Array Value} (hs : vs.size = cs.length) (hr : ∀ (i : Nat) (u : AV), cs[i]? = some u → u.one = true ∧ Rep c u (vs.getD i undef)) {off : Nat} {v : AV} (he : ofPart P t cs off = some v) (w : World) :
    ∃ x, (part t vs off).run P w = .ok x w ∧ Rep c v x ∧ (∀ k ∈ v.keys, k ∈ keysL cs) ∧ v.isGrd = false := by
  unfold ofPart at he
  split at he
  · rename_i d n hu hn
    cases hd : isAggD d with
    | true =>
      simp only [hd, cond_true] at he
      cases hb : Nat.ble (off + n) cs.length with
      | false => simp [hb] at he
      | true =>
        simp only [hb, cond_true, Option.some.injEq] at he
        have hle := Nat.le_of_ble_eq_true hb
        subst he
        refine ⟨.agg (vs.extract off (off + n)), ?_, ?_, ?_, rfl⟩
        · unfold part
          rw [Sem.run_bind, run_isAgg hu]
          simp [hd, run_sizeOf hn]
        · refine .agg _ _ (by simp; omega) (fun i u hu => ?_) (fun i u hu => ?_)
          · have hi : i < n := by
              rcases Nat.lt_or_ge i n with h | h
              · exact h
              · simp [List.getElem?_take, Nat.not_lt.2 h] at hu
            simp [hi, List.getElem?_drop] at hu
            exact (hr _ u hu).1
          · have hi : i < n := by
              rcases Nat.lt_or_ge i n with h | h
              · exact h
              · simp [List.getElem?_take, Nat.not_lt.2 h] at hu
            simp [hi, List.getElem?_drop] at hu
            have := (hr _ u hu).2
            have hlt : off + i < vs.size := by omega
            simp only [Array.getD_eq_getD_getElem?] at this ⊢
            rw [Array.getElem?_extract]
            rw [if_pos (by omega)]
            exact this
        · intro k hk
          simp only [AV.keys] at hk
          have hsub : ∀ (l : List AV) (m : Nat), (∀ k ∈ keysL (l.drop m), k ∈ keysL l) ∧ (∀ k ∈ keysL (l.take m), k ∈ keysL l) := by
            intro l m
            have e := keysL_append (l.take m) (l.drop m)
            rw [List.take_append_drop] at e
            exact ⟨fun k hk => by rw [e]; simp [hk], fun k hk => by rw [e]; simp [hk]⟩
          exact (hsub cs off).1 k ((hsub (cs.drop off) n).2 k hk)
    | false =>
      simp only [hd, cond_false] at he
      cases hcs : cs.drop off with
      | nil => simp [hcs] at he
      | cons u r =>
        simp [hcs] at he; subst he
        have hu' : cs[off]? = some u := by
          have := congrArg (fun l => l[0]?) hcs
          simpa [List.getElem?_drop] using this
        obtain ⟨h1, hr⟩ := hr off u hu'
        have hlt : off < vs.size := by rw [hs]; exact (List.getElem?_eq_some_iff.1 hu').1
        refine ⟨vs.getD off undef, ?_, hr, fun k hk => keys_mem_of hu' k hk, one_plain h1⟩
        unfold part
        rw [Sem.run_bind, run_isAgg hu]
        simp [hd, hlt, Array.getD_eq_getD_getElem?]
  · simp at he

theorem fieldA_sound (h : Rel B c s a) {t : TypeId} {f : Nat} {x v : AV} {X : Value} (hx : Sees B c s x X) (he : fieldA P t f x = some (true, v)) : Goes P B c s (Instr.field t X f) v := by
  unfold fieldA at he
  split at he
  · rename_i fd cs hf
    simp only [val1] at he
    cases hp : ofPart P fd.type cs fd.offset with
    | none => simp [hp] at he
    | some u =>
      simp [hp] at he; subst he
      obtain ⟨hr, hl, hpl⟩ := hx
      clear hpl
      cases hr with
      | agg _ vs hs h1 hr =>
        obtain ⟨x, e1, e2, e3, e4⟩ := run_part hs (fun i u hu => ⟨h1 i u hu, hr i u hu⟩) hp c.w
        refine Goes.still h ?_ ⟨e2, fun k hk => hl k (by simpa [AV.keys] using e3 k hk), e4⟩
        unfold fieldOf? at hf
        split at hf
        · rename_i fs hu
          simp [Instr.field, run_underlying hu, hf, asAgg, e1]
        · simp at hf
  · simp at he

theorem within_iff {i : Int} {n : Nat} (h : within i n = true) : 0 ≤ i ∧ i < n := by simpa [within] using h

theorem indexAddrA_sound (h : Rel B c s a) {t : TypeId} {x y v : AV} {X Y : Value} (hx : Sees B c s x X) (hy : Sees B c s y Y) (he : indexAddrA P s t x y = some (true, v)) : Goes P B c s (Instr.indexAt t X Y) v := by
  obtain ⟨hr, hl, hpl⟩ := hx
  clear hpl
  cases y with
  | int k i =>
    have hyr := hy.rep
    cases hyr
    clear hy
    simp only [indexAddrA] at he
    split at he
    · rename_i e o sz n get hu
      simp only [guardO] at he
      cases hb : (sizeOf? P e == some sz) with
      | false => simp [hb] at he
      | true =>
        simp only [hb, cond_true, Option.some.injEq, Prod.mk.injEq] at he
        obtain ⟨hw, rfl⟩ := he
        have hw := within_iff hw
        have hsz := beq_iff_eq.1 hb
        cases hr with
        | slNil => omega
        | sl _ _ _ _ ad cap vals hsp hn ho hlen hc hrr =>
          have hi : i.toNat < n := by omega
          have hsp := hsp (by omega)
          obtain ⟨b, of, sp⟩ := ad
          simp only at hsp
          subst hsp
          refine Goes.still h (x := .pointer (some ⟨b, of + i.toNat * sz, none⟩)) ?_ ⟨?_, by simp [AV.keys], rfl⟩
          · unfold Instr.indexAt
            simp [asIntOf, run_underlying hu, hw.1, hw.2, run_sizeOf hsz, Addr.add_lit]
          · have := Rep.elt (c := c) (get i.toNat) 0 b (of + i.toNat * sz) (fun q => vals i.toNat q) (hlen _ hi).2
              (fun q u hu => by rw [Nat.add_assoc]; exact hc _ _ _ hi hu) (fun q u hu => hrr _ _ _ hi hu)
            simpa using this
    · rename_i e k' sz off n hu
      simp only [guardO] at he
      cases hb : (sizeOf? P e == some sz) with
      | false => simp [hb] at he
      | true =>
        simp only [hb, cond_true, Option.some.injEq, Prod.mk.injEq] at he
        obtain ⟨hw, rfl⟩ := he
        have hw := within_iff hw
        have hsz := beq_iff_eq.1 hb
        cases hr with
        | msl _ _ _ _ cap o hcap ho =>
          have ho := ho (by omega)
          subst ho
          refine Goes.still h (x := .pointer (some ⟨c.β k', off * sz + i.toNat * sz, none⟩)) ?_ ⟨?_, by simpa [AV.keys] using hl, rfl⟩
          · unfold Instr.indexAt
            simp [asIntOf, run_underlying hu, hw.1, hw.2, run_sizeOf hsz, Addr.add_lit]
          · have e1 : off * sz + i.toNat * sz = (off + i.toNat) * sz + 0 := by rw [Nat.add_mul]; rfl
            rw [e1]; exact .aref _ _ _ _
    · rename_i e k' sz n hu
      split at he
      · rename_i sz' m get ho
        simp only [guardO] at he
        cases hb : (sizeOf? P e == some sz && Nat.beq sz sz') with
        | false => simp [hb] at he
        | true =>
          simp only [hb, cond_true, Option.some.injEq, Prod.mk.injEq, Bool.and_eq_true] at he
          obtain ⟨⟨hw, h3⟩, rfl⟩ := he
          have hw := within_iff hw
          simp only [Bool.and_eq_true, beq_iff_eq] at hb
          obtain ⟨hsz, h2⟩ := hb
          have h2 := beqT h2
          have h3 := beqT h3
          subst h2 h3
          cases hr with
          | gslNil => omega
          | gsl _ _ _ ad cap hn hown =>
            obtain ⟨ad', cap', g1, g2, g3, g4⟩ := grw_at h ho hown rfl (by omega)
            simp only [Value.slice.injEq, Option.some.injEq, true_and] at g2
            obtain ⟨rfl, rfl⟩ := g2
            obtain ⟨b, of, sp⟩ := ad
            obtain ⟨q1, q2⟩ := g4.addr
            simp only at q1 q2
            subst q1 q2
            refine Goes.still h (x := .pointer (some ⟨b, 0 + i.toNat * sz, none⟩)) ?_ ⟨?_, by simpa [AV.keys] using hl, rfl⟩
            · unfold Instr.indexAt
              simp [asIntOf, run_underlying hu, hw.1, hw.2, run_sizeOf hsz, Addr.add_lit]
            · have e1 : 0 + i.toNat * sz = i.toNat * sz + 0 := by omega
              rw [e1]; exact .gref _ _ _ _ _ _ cap hown
      · simp at he
    · rename_i e k' sz n lo len hu
      split at he
      · rename_i sz' m get ho
        simp only [guardO] at he
        cases hb : (sizeOf? P e == some sz && Nat.beq sz sz') with
        | false => simp [hb] at he
        | true =>
          simp only [hb, cond_true, Option.some.injEq, Prod.mk.injEq, Bool.and_eq_true] at he
          obtain ⟨⟨hw, h3, h4⟩, rfl⟩ := he
          have hw := within_iff hw
          simp only [Bool.and_eq_true, beq_iff_eq] at hb
          obtain ⟨hsz, h2⟩ := hb
          have h2 := beqT h2
          have h3 := beqT h3
          have h4 := Nat.le_of_ble_eq_true h4
          subst h2 h3
          cases hr with
          | gsubNil => omega
          | gsub _ _ _ _ _ ad cap a' cap' hn hown hle e1 e2 e3 =>
            obtain ⟨ad', cap'', g1, g2, g3, g4⟩ := grw_at h ho hown rfl (by omega)
            simp only [Value.slice.injEq, Option.some.injEq, true_and] at g2
            obtain ⟨rfl, rfl⟩ := g2
            obtain ⟨b, of, sp⟩ := ad
            obtain ⟨q1, q2⟩ := g4.addr
            simp only at q1 q2
            subst q1 q2
            obtain rfl := e3 (by omega)
            refine Goes.still h (x := .pointer (some ⟨b, 0 + lo * sz + i.toNat * sz, none⟩)) ?_ ⟨?_, by simpa [AV.keys] using hl, rfl⟩
            · unfold Instr.indexAt
              simp [asIntOf, run_underlying hu, hw.1, hw.2, run_sizeOf hsz, Addr.add_lit]
            · have e1 : 0 + lo * sz + i.toNat * sz = (lo + i.toNat) * sz + 0 := by rw [Nat.add_mul]; omega
              rw [e1]; exact .gref _ _ _ _ _ _ cap hown
      · simp at he
    · rename_i m e k' hu
      split at he
      · rename_i sz n get ho
        simp only [guardO] at he
        cases hb : (Nat.beq m n && (sizeOf? P e == some sz && Nat.blt 1 n)) with
        | false => simp [hb] at he
        | true =>
          simp only [hb, cond_true, Option.some.injEq, Prod.mk.injEq] at he
          obtain ⟨hw, rfl⟩ := he
          have hw := within_iff hw
          simp only [Bool.and_eq_true, beq_iff_eq] at hb
          obtain ⟨hm, hsz, _⟩ := hb
          have hm := beqT hm
          subst hm
          cases hr
          refine Goes.still h (x := .pointer (some ⟨c.β k', 0 + i.toNat * sz, none⟩)) ?_ ⟨?_, by simpa [AV.keys] using hl, rfl⟩
          · unfold Instr.indexAt
            simp [asIntOf, run_underlying hu, hw.1, hw.2, run_sizeOf hsz, Addr.add_lit, Instr.sureAddr]
          · have e1 : 0 + i.toNat * sz = i.toNat * sz + 0 := by omega
            rw [e1]; exact .aref _ _ _ _
      · simp at he
    · rename_i m e cs off hu
      cases hz : sizeOf? P e with
      | none => simp [hz] at he
      | some sz =>
        simp only [hz, Option.map_some, Option.some.injEq, Prod.mk.injEq] at he
        obtain ⟨hw, rfl⟩ := he
        have hw := within_iff hw
        cases hr with
        | elt _ _ b o vals h1 h2 h3 =>
          refine Goes.still h (x := .pointer (some ⟨b, o + off + i.toNat * sz, none⟩)) ?_ ⟨?_, by simp [AV.keys], rfl⟩
          · unfold Instr.indexAt
            simp [asIntOf, run_underlying hu, hw.1, hw.2, run_sizeOf hz, Addr.add_lit, Instr.sureAddr]
          · rw [Nat.add_assoc]; exact .elt cs (off + i.toNat * sz) b o vals h1 h2 h3
    · simp at he
  | _ => simp [indexAddrA] at he

theorem indexA_sound (h : Rel B c s a) {t : TypeId} {x y v : AV} {X Y : Value} (hx : Sees B c s x X) (hy : Sees B c s y Y) (he : indexA P t x y = some (true, v)) : Goes P B c s (Instr.index t X Y) v := by
  obtain ⟨hr, hl, hpl⟩ := hx
  clear hpl
  cases y with
  | int k i =>
    have hyr := hy.rep
    cases hyr
    clear hy
    simp only [indexA] at he
    split at he
    · rename_i m e sz n get hu
      simp only [guardO] at he
      cases hb : (Nat.beq m n && (sizeOf? P e == some sz)) with
      | false => simp [hb] at he
      | true =>
        simp only [Bool.and_eq_true, beq_iff_eq] at hb
        obtain ⟨hm, hsz⟩ := hb
        have hm := beqT hm
        subst hm
        simp only [hsz, Nat.beq_refl, beq_self_eq_true, Bool.and_self, cond_true] at he
        cases hp : ofPart P e (get i.toNat) 0 with
        | none => simp [hp] at he
        | some u =>
          simp [hp] at he
          obtain ⟨hw, rfl⟩ := he
          have hw := within_iff hw
          have hi : i.toNat < m := by omega
          cases hr with
          | arr _ _ _ vs hs hlen h1 hrr =>
            have hsub : (vs.extract (i.toNat * sz) (i.toNat * sz + sz)).size = (get i.toNat).length := by
              have h2 : (i.toNat + 1) * sz ≤ m * sz := Nat.mul_le_mul_right _ hi
              rw [Nat.succ_mul] at h2
              simp [(hlen _ hi).1]; omega
            -- the element's cells, read out of the whole
            obtain ⟨x, e1, e2, e3, e4⟩ := run_part (P := P) (c := c) (t := e) hsub (fun q u hu => by
              refine ⟨h1 _ _ _ hi hu, ?_⟩
              have hq : q < sz := by rw [← (hlen _ hi).1]; exact (List.getElem?_eq_some_iff.1 hu).1
              have := hrr _ _ _ hi hu
              have hlt := row_off_lt hi hq
              simp only [Array.getD_eq_getD_getElem?] at this ⊢
              rw [Array.getElem?_extract, if_pos (by omega)]; exact this) hp c.w
            have hpart : (part e vs (i.toNat * sz)).run P c.w = .ok x c.w := by
              rw [← e1]
              have h2 : (i.toNat + 1) * sz ≤ m * sz := Nat.mul_le_mul_right _ hi
              rw [Nat.succ_mul] at h2
              unfold ofPart at hp
              split at hp
              · rename_i d nn hue hne
                have : nn = sz := by rw [hsz] at hne; simpa using hne.symm
                subst this
                unfold part
                simp only [Sem.run_bind, run_isAgg hue, Result.andThen_ok]
                cases hd : isAggD d with
                | true => simp [run_sizeOf hne, Array.extract_extract]
                | false =>
                  simp only [hd, cond_false] at hp
                  have hne0 : 0 < nn := by
                    rcases Nat.eq_zero_or_pos nn with h0 | h0
                    · have := (hlen _ hi).1; rw [h0] at this
                      have := List.length_eq_zero_iff.1 this
                      simp [this] at hp
                    · exact h0
                  simp only [Bool.false_eq_true, if_false]
                  rw [Array.getElem?_extract, if_pos (by omega)]
                  simp
              · simp at hp
            refine Goes.still h ?_ ⟨e2, fun k hk => by have := e3 k hk; simp [(hlen _ hi).2] at this, e4⟩
            unfold Instr.index
            simp [asIntOf, run_underlying hu, hw.1, hw.2, run_sizeOf hsz, hpart]
    · rename_i l hu
      simp only [Option.some.injEq, Prod.mk.injEq] at he
      obtain ⟨hw, rfl⟩ := he
      have hw := within_iff hw
      cases hr
      refine Goes.still h ?_ Sees.int
      unfold Instr.index
      have hi : i.toNat < l.length := by omega
      have e1 : (ByteArray.mk l.toArray)[i.toNat]? = some (l.getD i.toNat 0) := by
        rw [ByteArray.getElem?_lt' _ _ (by show _ < l.toArray.size; simpa using hi)]
        show some (l.toArray[i.toNat]) = _
        simp [List.getD_eq_getElem?_getD, List.getElem?_eq_getElem hi]
      simp only [Sem.run_bind, asIntOf, Sem.run_pure, Result.andThen_ok, run_underlying hu, if_pos hw.1, e1]
    · simp at he
  | _ => simp [indexA] at he
end Go.Ab

namespace Go.Ab
open Go Go.RowKit
variable {P : Program} {B : Base} {c : Cx} {s : St} {a : Act}

/-- An operand that may be missing. -/
inductive OSees (B : Base) (c : Cx) (s : St) : Option AV → Option Value → Prop
  | none : OSees B c s none none
  | some {v x} : Sees B c s v x → OSees B c s (some v) (some x)

theorem bound_low {x : Option AV} {X : Option Value} (hx : OSees B c s x X) {l : Int} (hb : bound x 0 = some l) {h : Nat} (h0 : 0 ≤ l) (h1 : l ≤ h) (w : World) (cd : BoundsCode) :
    (match X with | some v => Instr.sliceBound v h cd | none => pure 0 : Sem Nat).run P w = .ok l.toNat w := by
  cases hx with
  | none => simp [bound] at hb; subst hb; rfl
  | some hs =>
    rename_i v x
    cases v <;> simp [bound] at hb
    subst hb
    cases hs.rep
    exact run_sliceBound w _ _ _ _ h0 h1
theorem bound_high {x : Option AV} {X : Option Value} (hx : OSees B c s x X) {n : Nat} {h : Int} (hb : bound x n = some h) {y : Nat} (h0 : 0 ≤ h) (h1 : h ≤ y) (w : World) (cd : BoundsCode) :
    (match X with | some v => Instr.sliceBound v y cd | none => pure n : Sem Nat).run P w = .ok h.toNat w := by
  cases hx with
  | none => simp [bound] at hb; subst hb; rfl
  | some hs =>
    rename_i v x
    cases v <;> simp [bound] at hb
    subst hb
    cases hs.rep
    exact run_sliceBound w _ _ _ _ h0 h1

theorem sliceBounds_run {lo hi : Option AV} {LO HI : Option Value} (hlo : OSees B c s lo LO) (hhi : OSees B c s hi HI) {isS : Bool} {n cap : Nat} {l h : Int}
    (bl : bound lo 0 = some l) (bh : bound hi n = some h) (h0 : 0 ≤ l) (h1 : l ≤ h) (h2 : h ≤ n) (hn : n ≤ cap) (w : World) :
    (Instr.sliceBounds isS n cap LO HI none).run P w = .ok (l.toNat, h.toNat, cap) w := by
  have e1 := fun cd => bound_high (P := P) hhi bh (y := cap) (by omega) (by omega) w cd
  have e2 := fun cd => bound_low (P := P) hlo bl (h := h.toNat) h0 (by omega) w cd
  unfold Instr.sliceBounds
  cases HI with
  | none =>
    cases LO with
    | none =>
      have a1 := e1 .index; have a2 := e2 .index
      simp at a1 a2
      simp [a1, a2]
    | some x =>
      have a1 := e1 .index
      simp at a1
      simp [e2, a1]
  | some y =>
    cases LO with
    | none =>
      have a2 := e2 .index
      simp at a2
      simp [e1, a2]
    | some x => simp [Sem.run_bind, e1, e2]

theorem sliceBounds_run3 {lo : Option AV} {LO : Option Value} {HI MX : Value} {kh km : IntKind} {l h : Int} (hlo : OSees B c s lo LO) (hhi : Sees B c s (.int kh h) HI) (hmx : Sees B c s (.int km h) MX) {n cap : Nat}
    (bl : bound lo 0 = some l) (h0 : 0 ≤ l) (h1 : l ≤ h) (h2 : h ≤ cap) (w : World) :
    (Instr.sliceBounds true n cap LO (some HI) (some MX)).run P w = .ok (l.toNat, h.toNat, h.toNat) w := by
  have e0 := bound_high (P := P) (.some hmx) (n := 0) (h := h) rfl (y := cap) (by omega) h2 w .slice3Acap
  have e1 := bound_high (P := P) (.some hhi) (n := 0) (h := h) rfl (y := h.toNat) (by omega) (by omega) w .slice3B
  have e2 := bound_low (P := P) hlo bl (h := h.toNat) h0 (by omega) w .slice3C
  simp only at e0 e1
  unfold Instr.sliceBounds
  cases LO with
  | none => simp at e2; simp [Sem.run_bind, e0, e1, e2]
  | some x => simp at e2; simp [Sem.run_bind, e0, e1, e2]

theorem addr_add (a : Addr) (n : Nat) : (a.add n).block = a.block ∧ (a.add n).off = a.off + n ∧ (a.spot = none → (a.add n).spot = none) := by
  unfold Addr.add
  by_cases h : n = 0
  · rw [if_pos h, h]; exact ⟨rfl, rfl, id⟩
  · rw [if_neg h]; exact ⟨rfl, rfl, fun _ => rfl⟩
theorem add_add (a : Addr) (m n : Nat) : (a.add m).add n = a.add (m + n) := by
  unfold Addr.add
  by_cases hm : m = 0
  · subst hm; simp
  · by_cases hn : n = 0
    · subst hn; simp
    · simp [hm, hn, Nat.add_assoc]
/-- A part of a slice that may be stored into. -/
theorem slice_sub (h : Rel B c s a) {t e : TypeId} {k sz n off len : Nat} {X : Value} {lo hi : Option AV} {LO HI : Option Value} (hlo : OSees B c s lo LO) (hhi : OSees B c s hi HI) (hu : P.underlying t = some (.slice e)) (hsz : sizeOf? P e = some sz)
    {lo' hi' : Int} (hbl : bound lo 0 = some lo') (hbh : bound hi len = some hi') (h0 : 0 ≤ lo') (h1 : lo' ≤ hi') (h2 : hi' ≤ len) (hr : Rep c (.gsub k sz n off len) X) (hl : live s.objs k) :
    Goes P B c s (Instr.sliceAt t X LO HI none) (.gsub k sz n (off + lo'.toNat) (hi'.toNat - lo'.toNat)) := by
  cases hr with
  | gsubNil _ _ ho =>
    have e1 := sliceBounds_run (P := P) hlo hhi (isS := true) (n := 0) (cap := 0) hbl hbh h0 h1 h2 (Nat.le_refl _) c.w
    have l0 : lo'.toNat = 0 := by omega
    have l1 : hi'.toNat = 0 := by omega
    refine Goes.still h (x := .slice none 0 0) ?_ ⟨?_, by simpa [AV.keys] using hl, rfl⟩
    · unfold Instr.sliceAt
      simp only [Sem.run_bind, run_underlying hu, Result.andThen_ok]
      unfold Instr.slice
      simp [Sem.run_bind, run_underlying hu, e1, run_sizeOf hsz, l0, l1]
    · rw [l0, l1]; exact .gsubNil _ _ ho
  | gsub _ _ _ _ _ ad cap a' cap' hn ho hle g1 g2 g3 =>
    have e1 := sliceBounds_run (P := P) hlo hhi (isS := true) (n := len) (cap := cap') hbl hbh h0 h1 h2 (by omega) c.w
    refine Goes.still h (x := .slice (if cap' = lo'.toNat then some a' else some (a'.add (lo'.toNat * sz))) (hi'.toNat - lo'.toNat) (cap' - lo'.toNat)) ?_ ⟨?_, by simpa [AV.keys] using hl, rfl⟩
    · unfold Instr.sliceAt
      simp only [Sem.run_bind, run_underlying hu, Result.andThen_ok]
      unfold Instr.slice
      simp [Sem.run_bind, run_underlying hu, e1, run_sizeOf hsz]
    · split
      · refine .gsub _ _ _ _ _ ad cap a' _ hn ho (by omega) (by omega) (fun hz => g2 (by omega)) (fun hz => by omega)
      · refine .gsub _ _ _ _ _ ad cap (a'.add (lo'.toNat * sz)) _ hn ho (by omega) (by omega) (fun hz => ?_) (fun hz => ?_)
        · have : lo'.toNat = 0 := by omega
          rw [this, Nat.zero_mul, g2 (by omega)]; simp [Addr.add]
        · rw [g3 (by omega), add_add, Nat.add_mul]
theorem sliceA_sound (h : Rel B c s a) {t : TypeId} {x v : AV} {X : Value} {lo hi mx : Option AV} {LO HI MX : Option Value} (hx : Sees B c s x X) (hlo : OSees B c s lo LO) (hhi : OSees B c s hi HI) (hmx : OSees B c s mx MX)
    (he : sliceA P t x lo hi mx = some (true, v)) : Goes P B c s (Instr.sliceAt t X LO HI MX) v := by
  unfold sliceA at he
  cases mx with
  | some m =>
    cases m with
    | int km m =>
      obtain ⟨hr, hl, hpl⟩ := hx
      clear hpl
      simp only at he
      split at he
      · rename_i e o sz n get kh h' hu
        cases hmx with
        | some hsm =>
        rename_i MX
        cases hhi with
        | some hsh =>
        rename_i HI
        cases hbl : bound lo 0 with
        | none => simp [hbl] at he
        | some lo' =>
          simp only [hbl, Option.bind_some, guardO] at he
          cases hb : (sizeOf? P e == some sz) with
          | false => simp [hb] at he
          | true =>
            simp [hb] at he
            obtain ⟨⟨h0, h1, rfl, h2⟩, rfl⟩ := he
            have hsz := beq_iff_eq.1 hb
            cases hr with
            | slNil _ _ _ ho =>
              have e1 := sliceBounds_run3 (P := P) hlo hsh hsm (n := 0) (cap := 0) hbl h0 h1 h2 c.w
              have l0 : lo'.toNat = 0 := by omega
              have l1 : h'.toNat = 0 := by omega
              refine Goes.still h (x := .slice none 0 0) ?_ ⟨?_, by simp [AV.keys], rfl⟩
              · unfold Instr.sliceAt
                simp only [Sem.run_bind, run_underlying hu, Result.andThen_ok]
                unfold Instr.slice
                simp [Sem.run_bind, run_underlying hu, e1, run_sizeOf hsz, l0, l1]
              · rw [l0, l1]; exact .slNil _ _ _ trivial
            | sl _ _ _ _ ad cap vals hsp hn ho hlen hc hrr =>
              have e1 := sliceBounds_run3 (P := P) hlo hsh hsm (n := n) (cap := cap) hbl h0 h1 (by omega) c.w
              obtain ⟨b, of, sp⟩ := ad
              simp only at hsp
              refine Goes.still h (x := .slice (if h'.toNat = lo'.toNat then some ⟨b, of, sp⟩ else some ((⟨b, of, sp⟩ : Addr).add (lo'.toNat * sz))) (h'.toNat - lo'.toNat) (h'.toNat - lo'.toNat)) ?_ ⟨?_, by simp [AV.keys], rfl⟩
              · unfold Instr.sliceAt
                simp only [Sem.run_bind, run_underlying hu, Result.andThen_ok]
                unfold Instr.slice
                simp [Sem.run_bind, run_underlying hu, e1, run_sizeOf hsz]
              · split
                · have hz : h'.toNat - lo'.toNat = 0 := by omega
                  rw [hz]
                  exact .sl _ _ _ _ _ _ (fun _ _ => undef) (fun h => by omega) (Nat.zero_le _) rfl (fun j hj => by omega) (fun j i u hj => by omega) (fun j i u hj => by omega)
                · obtain ⟨q1, q2, q3⟩ := addr_add ⟨b, of, sp⟩ (lo'.toNat * sz)
                  refine .sl _ _ _ _ ((⟨b, of, sp⟩ : Addr).add (lo'.toNat * sz)) _ (fun j i => vals (lo'.toNat + j) i) (fun h => q3 (hsp (by omega))) (Nat.le_refl _) rfl (fun j hj => hlen _ (by omega)) (fun j i u hj hu => ?_) (fun j i u hj hu => hrr _ _ _ (by omega) hu)
                  have := hc (lo'.toNat + j) i u (by omega) hu
                  have e2 : of + ((lo'.toNat + j) * sz + i) = of + lo'.toNat * sz + (j * sz + i) := by rw [Nat.add_mul]; omega
                  simp only [e2] at this
                  rw [q1, q2]
                  exact this
      · cases he
    | _ => simp at he
  | none =>
    cases hmx
    obtain ⟨hr, hl, hpl⟩ := hx
    clear hpl
    simp only at he
    split at he
    · rename_i l hu
      cases hbl : bound lo 0 with
      | none => simp [hbl] at he
      | some lo' =>
        cases hbh : bound hi l.length with
        | none => simp [hbl, hbh] at he
        | some hi' =>
          simp [hbl, hbh] at he
          obtain ⟨⟨h0, h1, h2⟩, rfl⟩ := he
          cases hr
          refine Goes.still h ?_ Sees.str
          have e1 := sliceBounds_run (P := P) hlo hhi (isS := false) (n := l.length) (cap := l.length) hbl hbh h0 h1 h2 (Nat.le_refl _) c.w
          have esz : (ByteArray.mk l.toArray).size = l.length := by simp [ByteArray.size]
          unfold Instr.sliceAt
          simp only [Sem.run_bind, run_underlying hu, Result.andThen_ok]
          unfold Instr.slice
          simp only [Sem.run_bind, run_underlying hu, Result.andThen_ok, Option.isSome_none, Bool.false_eq_true, if_false, Sem.run_pure, esz, e1]
          congr 2
          apply ByteArray.ext
          apply Array.ext'
          have := Lib.extract_toList ⟨l.toArray⟩ lo'.toNat hi'.toNat
          rw [ByteArray.toList_eq] at this
          simp
    · rename_i e o sz n get hu
      cases hbl : bound lo 0 with
      | none => simp [hbl] at he
      | some lo' =>
        cases hbh : bound hi n with
        | none => simp [hbl, hbh] at he
        | some hi' =>
          simp only [hbl, hbh, Option.bind_some, guardO] at he
          cases hb : (sizeOf? P e == some sz) with
          | false => simp [hb] at he
          | true =>
            simp [hb] at he
            obtain ⟨⟨h0, h1, h2⟩, rfl⟩ := he
            have hsz := beq_iff_eq.1 hb
            cases hr with
            | slNil _ _ _ ho =>
              have e1 := sliceBounds_run (P := P) hlo hhi (isS := true) (n := 0) (cap := 0) hbl hbh h0 h1 h2 (Nat.le_refl _) c.w
              have l0 : lo'.toNat = 0 := by omega
              have l1 : hi'.toNat = 0 := by omega
              refine Goes.still h (x := .slice none 0 0) ?_ ⟨?_, by simp [AV.keys], rfl⟩
              · unfold Instr.sliceAt
                simp only [Sem.run_bind, run_underlying hu, Result.andThen_ok]
                unfold Instr.slice
                simp [Sem.run_bind, run_underlying hu, e1, run_sizeOf hsz, l0, l1]
              · rw [l0, l1]; exact .slNil _ _ _ trivial
            | sl _ _ _ _ ad cap vals hsp hn ho hlen hc hrr =>
              have e1 := sliceBounds_run (P := P) hlo hhi (isS := true) (n := n) (cap := cap) hbl hbh h0 h1 h2 hn c.w
              obtain ⟨b, of, sp⟩ := ad
              simp only at hsp
              refine Goes.still h (x := .slice (if cap = lo'.toNat then some ⟨b, of, sp⟩ else some ((⟨b, of, sp⟩ : Addr).add (lo'.toNat * sz))) (hi'.toNat - lo'.toNat) (cap - lo'.toNat)) ?_ ⟨?_, by simp [AV.keys], rfl⟩
              · unfold Instr.sliceAt
                simp only [Sem.run_bind, run_underlying hu, Result.andThen_ok]
                unfold Instr.slice
                simp [Sem.run_bind, run_underlying hu, e1, run_sizeOf hsz]
              · split
                · have hz : hi'.toNat - lo'.toNat = 0 := by omega
                  rw [hz]
                  exact .sl _ _ _ _ _ _ (fun _ _ => undef) (fun h => hsp (by omega)) (Nat.zero_le _) trivial (fun j hj => by omega) (fun j i u hj => by omega) (fun j i u hj => by omega)
                · obtain ⟨q1, q2, q3⟩ := addr_add ⟨b, of, sp⟩ (lo'.toNat * sz)
                  refine .sl _ _ _ _ ((⟨b, of, sp⟩ : Addr).add (lo'.toNat * sz)) _ (fun j i => vals (lo'.toNat + j) i) (fun h => q3 (hsp (by omega))) (by omega) trivial (fun j hj => hlen _ (by omega)) (fun j i u hj hu => ?_) (fun j i u hj hu => hrr _ _ _ (by omega) hu)
                  have := hc (lo'.toNat + j) i u (by omega) hu
                  have e2 : of + ((lo'.toNat + j) * sz + i) = of + lo'.toNat * sz + (j * sz + i) := by rw [Nat.add_mul]; omega
                  simp only [e2] at this
                  rw [q1, q2]
                  exact this
    · rename_i e k sz off n hu
      cases hbl : bound lo 0 with
      | none => simp [hbl] at he
      | some lo' =>
        cases hbh : bound hi n with
        | none => simp [hbl, hbh] at he
        | some hi' =>
          simp only [hbl, hbh, Option.bind_some, guardO] at he
          cases hb : (sizeOf? P e == some sz) with
          | false => simp [hb] at he
          | true =>
            simp [hb] at he
            obtain ⟨⟨h0, h1, h2⟩, rfl⟩ := he
            have hsz := beq_iff_eq.1 hb
            cases hr with
            | msl _ _ _ _ cap o hn ho =>
              have e1 := sliceBounds_run (P := P) hlo hhi (isS := true) (n := n) (cap := cap) hbl hbh h0 h1 h2 hn c.w
              refine Goes.still h (x := .slice (if cap = lo'.toNat then some ⟨c.β k, o, none⟩ else some ⟨c.β k, o + lo'.toNat * sz, none⟩) (hi'.toNat - lo'.toNat) (cap - lo'.toNat)) ?_ ⟨?_, by simpa [AV.keys] using hl, rfl⟩
              · unfold Instr.sliceAt
                simp only [Sem.run_bind, run_underlying hu, Result.andThen_ok]
                unfold Instr.slice
                simp [Sem.run_bind, run_underlying hu, e1, run_sizeOf hsz, Addr.add_lit]
              · split
                · exact .msl _ _ _ _ _ _ (by omega) (by omega)
                · exact .msl _ _ _ _ _ _ (by omega) (fun hp => by rw [ho (by omega), Nat.add_mul])
    · rename_i e k sz n hu
      cases hbl : bound lo 0 with
      | none => simp [hbl] at he
      | some lo' =>
        cases hbh : bound hi n with
        | none => simp [hbl, hbh] at he
        | some hi' =>
          simp only [hbl, hbh, Option.bind_some, guardO] at he
          cases hb : (sizeOf? P e == some sz) with
          | false => simp [hb] at he
          | true =>
            simp [hb] at he
            obtain ⟨⟨h0, h1, h2⟩, rfl⟩ := he
            have hr' : Rep c (.gsub k sz n 0 n) X := by
              cases hr with
              | gslNil _ _ ho => exact .gsubNil _ _ ho
              | gsl _ _ _ ad cap hn ho => exact .gsub _ _ _ _ _ ad cap ad cap hn ho (by omega) rfl (fun _ => rfl) (fun _ => by simp [Addr.add])
            have := slice_sub h hlo hhi hu (beq_iff_eq.1 hb) hbl hbh h0 h1 h2 hr' (hl k (by simp [AV.keys]))
            rwa [Nat.zero_add] at this
    · rename_i e k sz n off len hu
      cases hbl : bound lo 0 with
      | none => simp [hbl] at he
      | some lo' =>
        cases hbh : bound hi len with
        | none => simp [hbl, hbh] at he
        | some hi' =>
          simp only [hbl, hbh, Option.bind_some, guardO] at he
          cases hb : (sizeOf? P e == some sz) with
          | false => simp [hb] at he
          | true =>
            simp [hb] at he
            obtain ⟨⟨h0, h1, h2⟩, rfl⟩ := he
            exact slice_sub h hlo hhi hu (beq_iff_eq.1 hb) hbl hbh h0 h1 h2 hr (hl k (by simp [AV.keys]))
    · simp at he

theorem Rep.plain {v : AV} {x : Value} (h : Rep c v x) : v.isGrd = false := by cases h <;> rfl

theorem extractA_sound (h : Rel B c s a) {x v : AV} {X : Value} {i : Nat} (hx : Sees B c s x X) (he : extractA x i = some (true, v)) : Goes P B c s (Instr.extract X i) v := by
  obtain ⟨hr, hl, _⟩ := hx
  cases x with
  | tup vs =>
    simp only [extractA, val1] at he
    cases hv : vs[i]? with
    | none => simp [hv] at he
    | some u =>
      simp [hv] at he; subst he
      cases hr with
      | tup _ xs hs hr =>
        have hi : i < xs.size := by rw [hs]; exact (List.getElem?_eq_some_iff.1 hv).1
        refine Goes.still h (x := xs.getD i undef) ?_ ⟨hr i u hv, fun k hk => hl k (by simpa [AV.keys] using keys_mem_of hv k hk), (hr i u hv).plain⟩
        simp [Instr.extract, Array.getElem?_eq_getElem hi, Array.getD_eq_getD_getElem?]
  | _ => simp [extractA] at he

theorem max2A_sound {x y v : AV} {X Y : Value} (hx : Rep c x X) (hy : Rep c y Y) (he : max2A x y = some v) (w : World) : ∃ V, (Builtin.max2 X Y).run P w = .ok V w ∧ Rep c v V := by
  cases x <;> cases y <;> simp [max2A, guardO] at he
  rename_i k m k' n
  by_cases hk : k = k'
  · subst hk
    simp at he; subst he
    cases hx; cases hy
    refine ⟨.int k (if n > m then n else m), rfl, ?_⟩
    by_cases hh : m < n <;> simp [hh] <;> exact .int _ _
  · simp [hk] at he
theorem min2A_sound {x y v : AV} {X Y : Value} (hx : Rep c x X) (hy : Rep c y Y) (he : min2A x y = some v) (w : World) : ∃ V, (Builtin.min2 X Y).run P w = .ok V w ∧ Rep c v V := by
  cases x <;> cases y <;> simp [min2A, guardO] at he
  rename_i k m k' n
  by_cases hk : k = k'
  · subst hk
    simp at he; subst he
    cases hx; cases hy
    refine ⟨.int k (if n < m then n else m), rfl, ?_⟩
    by_cases hh : n < m <;> simp [hh] <;> exact .int _ _
  · simp [hk] at he

/-- Operands in a row. -/
def SeesL (B : Base) (c : Cx) (s : St) (l : List AV) (xs : List Value) : Prop := xs.length = l.length ∧ ∀ (i : Nat) (u : AV), l[i]? = some u → Sees B c s u (xs.getD i undef)

theorem evalL_sound (h : Rel B c s a) {ch : Chain} (hc : ChOk a ch) : ∀ {os : List Operand} {l : List AV}, evalL ⟨s, B.G, ch⟩ os = some l → SeesL B c s l (os.map a.eval)
  | [], l, he => by simp [evalL] at he; subst he; exact ⟨rfl, fun i u hu => by simp at hu⟩
  | o :: r, l, he => by
    simp only [evalL] at he
    cases ho : evalO ⟨s, B.G, ch⟩ o with
    | none => simp [ho] at he
    | some v =>
      cases hr : evalL ⟨s, B.G, ch⟩ r with
      | none => simp [ho, hr] at he
      | some vs =>
        simp [ho, hr] at he; subst he
        obtain ⟨h1, h2⟩ := evalL_sound h hc hr
        refine ⟨by simpa using h1, fun i u hu => ?_⟩
        cases i with
        | zero => simp at hu; subst hu; simpa using evalO_sound h hc ho
        | succ i => simpa using h2 i u (by simpa using hu)

theorem SeesL.cons_inv {v : AV} {l : List AV} {xs : List Value} (h : SeesL B c s (v :: l) xs) : ∃ x r, xs = x :: r ∧ Sees B c s v x ∧ SeesL B c s l r := by
  obtain ⟨h1, h2⟩ := h
  cases xs with
  | nil => simp at h1
  | cons x r => exact ⟨x, r, rfl, by simpa using h2 0 v rfl, by simpa using h1, fun i u hu => by simpa using h2 (i + 1) u (by simpa using hu)⟩
theorem SeesL.nil_inv {xs : List Value} (h : SeesL B c s [] xs) : xs = [] := List.length_eq_zero_iff.1 h.1

theorem foldA_sound {f : AV → AV → Option AV} {F : Value → Value → Sem Value} (hf : ∀ {x y v : AV} {X Y : Value}, Rep c x X → Rep c y Y → f x y = some v → ∀ w, ∃ V, (F X Y).run P w = .ok V w ∧ Rep c v V) :
    ∀ {l : List AV} {xs : List Value} {x v : AV} {X : Value}, Rep c x X → SeesL B c s l xs → foldA f x l = some v → ∀ w, ∃ V, (xs.foldlM F X).run P w = .ok V w ∧ Rep c v V
  | [], xs, x, v, X, hx, hl, he, w => by
    rw [hl.nil_inv]; simp [foldA] at he; subst he; exact ⟨X, rfl, hx⟩
  | y :: r, xs, x, v, X, hx, hl, he, w => by
    obtain ⟨Y, R, rfl, hy, hr⟩ := hl.cons_inv
    simp only [foldA] at he
    cases hz : f x y with
    | none => simp [hz] at he
    | some z =>
      simp [hz] at he
      obtain ⟨Z, h1, h2⟩ := hf hx hy.rep hz w
      obtain ⟨V, h3, h4⟩ := foldA_sound (F := F) hf h2 hr he w
      exact ⟨V, by simp [List.foldlM_cons, h1, h3], h4⟩

theorem foldA_int {f : AV → AV → Option AV} (hf : ∀ x y v, f x y = some v → ∃ k n, v = .int k n) : ∀ {l : List AV} {x v : AV}, foldA f x l = some v → v = x ∨ ∃ k n, v = .int k n
  | [], x, v, he => by simp [foldA] at he; exact .inl he.symm
  | y :: r, x, v, he => by
    simp only [foldA] at he
    cases hz : f x y with
    | none => simp [hz] at he
    | some z =>
      simp [hz] at he
      rcases foldA_int hf he with rfl | h
      · exact .inr (hf _ _ _ hz)
      · exact .inr h
theorem max2A_int (x y v : AV) (h : max2A x y = some v) : ∃ k n, v = .int k n := by
  cases x <;> cases y <;> simp [max2A, guardO] at h
  rename_i k m k' n
  by_cases hk : k = k'
  · simp [hk] at h; exact ⟨_, _, h.symm⟩
  · simp [hk] at h
theorem min2A_int (x y v : AV) (h : min2A x y = some v) : ∃ k n, v = .int k n := by
  cases x <;> cases y <;> simp [min2A, guardO] at h
  rename_i k m k' n
  by_cases hk : k = k'
  · simp [hk] at h; exact ⟨_, _, h.symm⟩
  · simp [hk] at h

theorem max_sound (h : Rel B c s a) {l : List AV} {xs : List Value} {v : AV} {ts : Array TypeId} {ty : TypeId} (hl : SeesL B c s l xs) (he : fold1 max2A l = some (true, v)) : Goes P B c s (Builtin.max_ ts ty xs.toArray) v := by
  cases l with
  | nil => simp [fold1] at he
  | cons x r =>
    obtain ⟨X, R, rfl, hx, hr⟩ := hl.cons_inv
    simp only [fold1, val1] at he
    cases hz : foldA max2A x r with
    | none => simp [hz] at he
    | some z =>
      simp [hz] at he; subst he
      obtain ⟨V, h1, h2⟩ := foldA_sound (P := P) (F := Builtin.max2) (fun hx hy he w => max2A_sound hx hy he w) hx.rep hr hz c.w
      refine Goes.still h (by simp [Builtin.max_, h1]) ⟨h2, ?_, ?_⟩
      · rcases foldA_int max2A_int hz with rfl | ⟨k, n, rfl⟩
        · exact hx.live
        · simp [AV.keys]
      · rcases foldA_int max2A_int hz with rfl | ⟨k, n, rfl⟩
        · exact hx.plain
        · rfl
theorem min_sound (h : Rel B c s a) {l : List AV} {xs : List Value} {v : AV} {ts : Array TypeId} {ty : TypeId} (hl : SeesL B c s l xs) (he : fold1 min2A l = some (true, v)) : Goes P B c s (Builtin.min_ ts ty xs.toArray) v := by
  cases l with
  | nil => simp [fold1] at he
  | cons x r =>
    obtain ⟨X, R, rfl, hx, hr⟩ := hl.cons_inv
    simp only [fold1, val1] at he
    cases hz : foldA min2A x r with
    | none => simp [hz] at he
    | some z =>
      simp [hz] at he; subst he
      obtain ⟨V, h1, h2⟩ := foldA_sound (P := P) (F := Builtin.min2) (fun hx hy he w => min2A_sound hx hy he w) hx.rep hr hz c.w
      refine Goes.still h (by simp [Builtin.min_, h1]) ⟨h2, ?_, ?_⟩
      · rcases foldA_int min2A_int hz with rfl | ⟨k, n, rfl⟩
        · exact hx.live
        · simp [AV.keys]
      · rcases foldA_int min2A_int hz with rfl | ⟨k, n, rfl⟩
        · exact hx.plain
        · rfl

/-- A list of n bytes, out of a row that holds them. -/
theorem bytes_list {n : Nat} {get : Nat → List AV} (hb : allBytes n get = true) : ∃ ns : List Int, ns.length = n ∧ (∀ j, j < n → get j = [.int .u8 (ns.getD j 0)]) ∧ bytesOf n get = ns.map fun q => UInt8.ofNat q.toNat := by
  have h1 : ∀ j, j < n → ∃ q, get j = [.int .u8 q] := by
    intro j hj
    unfold allBytes at hb
    rw [List.all_eq_true] at hb
    have := hb j (List.mem_range.2 hj)
    unfold isByte at this
    split at this
    · rename_i q hq; exact ⟨q, hq⟩
    · simp at this
  refine ⟨(List.range n).map fun j => (match get j with | [.int _ q] => q | _ => 0), by simp, fun j hj => ?_, ?_⟩
  · obtain ⟨q, hq⟩ := h1 j hj
    simp [List.getD_eq_getElem?_getD, hj, hq]
  · unfold bytesOf
    rw [List.map_map]
    apply List.map_congr_left
    intro j hj
    obtain ⟨q, hq⟩ := h1 j (List.mem_range.1 hj)
    simp [hq, byteOf]

theorem srcA_sound (h : Rel B c s a) {x : AV} {X : Value} (hx : Rep c x X) {sz n : Nat} {get : Nat → List AV} (he : srcA s x = some (sz, n, get)) :
    (X = .slice none 0 0 ∧ n = 0) ∨ ∃ b o sp cap, (0 < n → sp = none) ∧ X = .slice (some ⟨b, o, sp⟩) n cap ∧ n ≤ cap ∧
      (∀ j, j < n → (get j).length = sz ∧ keysL (get j) = []) ∧ (∀ (j i : Nat) (u : AV), j < n → (get j)[i]? = some u → u.one = true ∧ ∃ y, c.w.cell? ⟨b, o + (j * sz + i), none⟩ = some y ∧ Rep c u y) := by
  cases x with
  | sl ow sz' n' get' =>
    simp [srcA] at he
    obtain ⟨rfl, rfl, rfl⟩ := he
    cases hx with
    | slNil => exact .inl ⟨rfl, rfl⟩
    | sl _ _ _ _ ad cap vals hsp hn ho hlen hc hrr =>
      obtain ⟨b, of, sp⟩ := ad
      simp only at hsp
      exact .inr ⟨b, of, sp, cap, fun h0 => hsp (by omega), rfl, hn, hlen, fun j i u hj hu => ⟨(hc j i u hj hu).1, _, (hc j i u hj hu).2.1, hrr j i u hj hu⟩⟩
  | msl k sz' off n' =>
    simp only [srcA] at he
    cases ho : s.obj k with
    | none => simp [ho] at he
    | some ob =>
      have hob := h.objs.rep k ob ho
      have key : ∀ (sz2 m : Nat) (get2 : Nat → List AV), ArrAt c (c.β k) sz2 m get2 → cond (Nat.beq sz' sz2 && Nat.ble (off + n') m) (some (sz', n', fun j => get2 (off + j))) none = some (sz, n, get) →
          ∃ b o sp cap, (0 < n → sp = none) ∧ X = .slice (some ⟨b, o, sp⟩) n cap ∧ n ≤ cap ∧
            (∀ j, j < n → (get j).length = sz ∧ keysL (get j) = []) ∧ (∀ (j i : Nat) (u : AV), j < n → (get j)[i]? = some u → u.one = true ∧ ∃ y, c.w.cell? ⟨b, o + (j * sz + i), none⟩ = some y ∧ Rep c u y) := by
        intro sz2 m get2 ha he
        cases hb : (Nat.beq sz' sz2 && Nat.ble (off + n') m) with
        | false => simp [hb] at he
        | true =>
          simp only [hb, cond_true, Option.some.injEq, Prod.mk.injEq] at he
          obtain ⟨rfl, rfl, rfl⟩ := he
          simp only [Bool.and_eq_true] at hb
          have h1 := beqT hb.1
          have h2 := Nat.le_of_ble_eq_true hb.2
          subst h1
          cases hx with
          | msl _ _ _ _ cap o hn ho =>
            refine ⟨_, _, _, cap, fun _ => rfl, rfl, hn, fun j hj => ha.len _ (by omega), fun j i u hj hu => ?_⟩
            obtain ⟨e1, y, e2, e3⟩ := ha.cellsAt (i := off + j) (by omega) i u hu
            refine ⟨e1, y, ?_, e3⟩
            rw [ho (by omega)]
            rw [← e2]; congr 2; rw [Nat.add_mul]; omega
      cases ob with
      | arr sz2 m get2 => simp only [ho] at he; exact .inr (key sz2 m get2 hob.1 he)
      | frz sz2 m get2 => simp only [ho] at he; exact .inr (key sz2 m get2 hob.1 he)
      | _ => simp [ho] at he
  | gsl k sz' n' =>
    simp only [srcA] at he
    cases ho : s.obj k with
    | none => simp [ho] at he
    | some ob =>
      cases ob with
      | grw sq sz2 m get2 =>
        simp only [ho] at he
        cases hb : (Nat.beq sz' sz2 && Nat.beq n' m) with
        | false => simp [hb] at he
        | true =>
          simp only [hb, cond_true, Option.some.injEq, Prod.mk.injEq] at he
          obtain ⟨rfl, rfl, rfl⟩ := he
          simp only [Bool.and_eq_true] at hb
          have h1 := beqT hb.1
          have h2 := beqT hb.2
          subst h1 h2
          cases hx with
          | gslNil => exact .inl ⟨rfl, rfl⟩
          | gsl _ _ _ ad cap hn hown =>
            obtain ⟨b, of, sp⟩ := ad
            by_cases h0 : 0 < n'
            · obtain ⟨ad', cap', g1, g2, g3, g4⟩ := grw_at h ho hown rfl h0
              simp only [Value.slice.injEq, Option.some.injEq, true_and] at g2
              obtain ⟨rfl, rfl⟩ := g2
              refine .inr ⟨b, of, sp, cap, fun _ => g4.addr.2, rfl, hn, fun j hj => g4.len j hj, fun j i u hj hu => ?_⟩
              obtain ⟨e1, y, e2, e3⟩ := g4.cellsAt g3 hj i u hu
              refine ⟨e1, y, ?_, e3⟩
              have := g4.addr.1
              simp only at this e2
              rw [← e2]; congr 2; omega
            · refine .inr ⟨b, of, sp, cap, fun h => absurd h h0, rfl, hn, fun j hj => by omega, fun j i u hj => by omega⟩
      | _ => simp [ho] at he
  | gsub k sz' n' lo len =>
    simp only [srcA] at he
    cases ho : s.obj k with
    | none => simp [ho] at he
    | some ob =>
      cases ob with
      | grw sq sz2 m get2 =>
        simp only [ho] at he
        cases hb : (Nat.beq sz' sz2 && (Nat.beq n' m && Nat.ble (lo + len) n')) with
        | false => simp [hb] at he
        | true =>
          simp only [hb, cond_true, Option.some.injEq, Prod.mk.injEq] at he
          obtain ⟨rfl, rfl, rfl⟩ := he
          simp only [Bool.and_eq_true] at hb
          have h1 := beqT hb.1
          have h2 := beqT hb.2.1
          subst h1 h2
          cases hx with
          | gsubNil => exact .inl ⟨rfl, rfl⟩
          | gsub _ _ _ _ _ ad cap a' cap' hn hown hle q1 q2 q3 =>
            by_cases h0 : 0 < len
            · obtain ⟨ad', cap'', g1, g2, g3, g4⟩ := grw_at h ho hown rfl (by omega)
              simp only [Value.slice.injEq, Option.some.injEq, true_and] at g2
              obtain ⟨rfl, rfl⟩ := g2
              obtain ⟨b, of, sp⟩ := ad
              have := g4.addr
              simp only at this
              obtain ⟨rfl, rfl⟩ := this
              obtain rfl := q3 (by omega)
              obtain ⟨w1, w2, w3⟩ := addr_add ⟨b, 0, none⟩ (lo * sz')
              have e0 : (⟨b, 0, none⟩ : Addr).add (lo * sz') = ⟨b, lo * sz', none⟩ := by simp [Addr.add_lit]
              rw [e0]
              refine .inr ⟨b, lo * sz', none, cap', fun _ => rfl, rfl, by omega, fun j hj => g4.len _ (by omega), fun j i u hj hu => ?_⟩
              obtain ⟨e1, y, e2, e3⟩ := g4.cellsAt g3 (i := lo + j) (by omega) i u hu
              refine ⟨e1, y, ?_, e3⟩
              simp only at e2
              rw [← e2]; congr 2; rw [Nat.add_mul]; omega
            · obtain ⟨b, of, sp⟩ := a'
              refine .inr ⟨b, of, sp, cap', fun h => absurd h h0, rfl, by omega, fun j hj => by omega, fun j i u hj => by omega⟩
      | _ => simp [ho] at he
  | _ => simp [srcA] at he

theorem convA_sound (h : Rel B c s a) {src dst : TypeId} {x v : AV} {X : Value} (hx : Sees B c s x X) (he : convA P s src dst x = some (true, v)) : Goes P B c s (convert src dst X) v := by
  have hr := hx.rep
  clear hx
  unfold convA at he
  split at he
  · rename_i k k' n hu
    split at he
    · rename_i ks hs
      simp [ok1] at he; subst he
      cases hr
      exact Goes.still h (by simp [convert, run_underlying hu, run_underlying hs, Conv.intToInt]) Sees.int
    · simp at he
  · rename_i l hu
    split at he
    · rename_i hs
      simp [ok1] at he; subst he
      cases hr
      exact Goes.still h (by simp [convert, run_underlying hu, run_underlying hs]) Sees.str
    · simp at he
  · rename_i e l hu
    split at he
    · rename_i hue hs
      simp only [Option.some.injEq, Prod.mk.injEq] at he
      obtain ⟨_, rfl⟩ := he
      cases hr
      have hrun := run_bytes_of_string c.w src dst e ⟨l.toArray⟩ hs hu hue
      have esz : (ByteArray.mk l.toArray).size = l.length := by simp [ByteArray.size]
      generalize hcap : grownCap c.w (ByteArray.mk l.toArray).size 0 e = cap at hrun
      have hle : l.length ≤ cap := by
        rw [← hcap, esz]; simp only [grownCap, Question.cut]; omega
      generalize hvs : bytesRow ⟨l.toArray⟩ cap = vs at hrun
      have hvsz : vs.size = cap := by rw [← hvs]; simp [bytesRow, esz]; omega
      have hg := h.good.grow (Cx.drew_keeps c s.objs).ext (Cx.drew_grow h.good)
      have ho := h.objs.keep (Cx.drew_keeps c _)
      have hf := h.frame.grow (Cx.drew_keeps c s.objs).ext (Cx.drew_grow h.good) h.kept
      refine ⟨.slice (some ⟨c.w.heap.size, 0, none⟩) l.length cap, c.drew.row vs e (vs.size, vs.size + 1) l.length, ?_, (Cx.drew_keeps c _).trans (Cx.row_keeps hg ho _ _ _ _), (Cx.drew_grow h.good).trans (Cx.row_grow hg hf _ _ _ _ (by omega)), ⟨?_, by simp [AV.keys], rfl⟩⟩
      · rw [hrun, esz]; rfl
      · refine .sl .no 1 l.length (rowOf l) ⟨c.w.heap.size, 0, none⟩ cap (fun j _ => .int .u8 (l.getD j 0).toNat) (fun _ => rfl) hle trivial (fun j hj => ⟨rfl, rfl⟩) (fun j i u hj hu => ?_) (fun j i u hj hu => ?_)
        · cases i with
          | succ i => simp [rowOf] at hu
          | zero =>
            simp [rowOf] at hu; subst hu
            refine ⟨rfl, ?_, .inr ⟨rfl, by simpa using hj⟩⟩
            show (c.w.drew.alloc _).cell? ⟨c.w.drew.heap.size, 0 + (j * 1 + 0), none⟩ = _
            rw [cell?_cells (heap_alloc_eq c.w.drew _)]
            have := bytesRow_at ⟨l.toArray⟩ cap j (by simpa using hj)
            rw [hvs] at this
            have e0 : 0 + (j * 1 + 0) = j := by omega
            rw [e0, this]
            simp [List.getD_eq_getElem?_getD, List.getElem?_eq_getElem hj]
        · cases i with
          | succ i => simp [rowOf] at hu
          | zero => simp [rowOf] at hu; subst hu; exact .int _ _
    · simp at he
  · rename_i k n hu
    split at he
    · rename_i ks hs
      simp [ok1] at he; subst he
      cases hr
      have hstr : Rep c (.str (Utf8.encode n).data.toList) (.string (Utf8.encode n)) := by
        have := Rep.str (c := c) (Utf8.encode n).data.toList
        rwa [Array.toArray_toList] at this
      exact Goes.still h (run_convert_int_string c.w src dst k n (by rw [hs]; rfl) hu) ⟨hstr, by simp [AV.keys], rfl⟩
    · simp at he
  · rename_i hu hne2 hne3
    split at he
    · rename_i e hs
      split at he
      · rename_i sz n get hue hsrc
        cases hb : (Nat.beq sz 1 || Nat.beq n 0) with
        | false => simp [hb] at he
        | true =>
          simp only [hb, cond_true, Option.some.injEq, Prod.mk.injEq] at he
          obtain ⟨hall, rfl⟩ := he
          obtain ⟨ns, hl, hget, hby⟩ := bytes_list hall
          rcases srcA_sound h hr hsrc with ⟨rfl, rfl⟩ | ⟨b, o, sp, cap, hsp, rfl, hle, hlen, hc⟩
          · have := run_convert_bytes_nil (P := P) (w := c.w) src e hs hue 0 0 dst hu
            have hz : ns = [] := List.length_eq_zero_iff.1 hl
            rw [hby, hz]
            exact Goes.still h this Sees.str
          · by_cases hn0 : n = 0
            · subst hn0
              have hz : ns = [] := List.length_eq_zero_iff.1 hl
              subst hz
              have hl0 : (loadCells ⟨b, o, sp⟩ 0).run P c.w = .ok (([] : List Int).map (Value.int .u8)).toArray c.w := by
                simpa using run_loadCells_list (P := P) c.w ⟨b, o, sp⟩ [] (fun j v hj => by simp at hj)
              have := run_convert_bytes_string c.w src dst e (some ⟨b, o, sp⟩) 0 cap hs hue hu
              rw [run_bytesToString c.w _ 0 cap [] hl0] at this
              rw [hby]
              exact Goes.still h this Sees.str
            obtain rfl := hsp (Nat.pos_of_ne_zero hn0)
            have := run_convert_bytes_arg (P := P) (w := c.w) src e hs hue b o n cap ns hl (fun i hi => by
              have hsz : sz = 1 := by
                rw [Bool.or_eq_true] at hb
                rcases hb with hb | hb
                · exact beqT hb
                · have := beqT hb; omega
              subst hsz
              obtain ⟨_, y, hy, hr⟩ := hc i 0 (.int .u8 (ns.getD i 0)) hi (by rw [hget i hi]; rfl)
              have e0 : i * 1 + 0 = i := by omega
              rw [e0] at hy
              rw [hy]
              cases hr; rfl) dst hu
            rw [hby]
            exact Goes.still h this Sees.str
      · simp at he
    · simp at he
  · simp at he

theorem nilCheck_sound (h : Rel B c s a) {x v : AV} {X : Value} (hx : Sees B c s x X) (he : nilA x = some (true, v)) {o : Oper} {q : Operand} (ho : o.op = .nilCheck q) (hq : a.eval q = X) :
    ∃ y c', (execOp a.eval o).run P c.w = .ok (.value y) c'.w ∧ Keeps c c' s.objs ∧ Grow B c c' ∧ Sees B c' s v y := by
  refine ⟨X, c, ?_, Keeps.refl _ _, Grow.refl h.good, ?_⟩
  · have hr := hx.rep
    unfold execOp
    cases x <;> simp [nilA, ok1] at he <;> cases hr <;> simp [ho, hq]
  · cases x <;> simp [nilA, ok1] at he <;> subst he <;> exact hx

theorem pickA_inv {z x y v : AV} (h : pickA z x y = some (true, v)) : ∃ zb, z = .bool zb ∧ (zb = true → ∃ xb, x = .bool xb ∧ v = .bool xb) ∧ (zb = false → ∃ yb, y = .bool yb ∧ v = .bool yb) := by
  unfold pickA at h
  split at h
  · rename_i c xb yb
    simp [ok1] at h
    subst h
    cases c with
    | true => exact ⟨true, rfl, fun _ => ⟨xb, rfl, rfl⟩, (fun h => by cases h)⟩
    | false => exact ⟨false, rfl, (fun h => by cases h), fun _ => ⟨yb, rfl, rfl⟩⟩
  · rename_i c yb
    cases c with
    | true => cases h
    | false => simp [ok1] at h; subst h; exact ⟨false, rfl, (fun h => by cases h), fun _ => ⟨yb, rfl, rfl⟩⟩
  · rename_i c xb
    cases c with
    | false => cases h
    | true => simp [ok1] at h; subst h; exact ⟨true, rfl, fun _ => ⟨xb, rfl, rfl⟩, (fun h => by cases h)⟩
  · cases h
theorem pickA_sound (h : Rel B c s a) {ch : Chain} (hc : ChOk a ch) {t : Nat} {p q : Operand} {v : AV}
    (he : ((evalO ⟨s, B.G, ch⟩ (.tmp t)).bind fun z => (evalO ⟨s, B.G, (t, true) :: ch⟩ p).bind fun x => (evalO ⟨s, B.G, (t, false) :: ch⟩ q).bind fun y => pickA z x y) = some (true, v)) {o : Oper} (ho : o.op = .pick (.tmp t) p q) :
    ∃ y, (execOp a.eval o).run P c.w = .ok (.value y) c.w ∧ Sees B c s v y := by
  cases hz : evalO ⟨s, B.G, ch⟩ (.tmp t) with
  | none => simp [hz] at he
  | some z =>
    cases hx : evalO ⟨s, B.G, (t, true) :: ch⟩ p with
    | none => simp [hz, hx] at he
    | some x =>
      cases hy : evalO ⟨s, B.G, (t, false) :: ch⟩ q with
      | none => simp [hz, hx, hy] at he
      | some y =>
        simp [hz, hx, hy] at he
        obtain ⟨zb, rfl, ht, hf⟩ := pickA_inv he
        have h1 := (evalO_sound h hc hz).rep
        have hzt : a.tmps.getD t undef = .bool zb := by
          generalize hq1 : a.eval (.tmp t) = Z at h1
          cases h1; exact hq1
        cases zb with
        | true =>
          obtain ⟨xb, rfl, rfl⟩ := ht rfl
          have h2 := (evalO_sound h (ch := (t, true) :: ch) (by
            intro t' w' hm
            rcases List.mem_cons.1 hm with e | hm
            · simp only [Prod.mk.injEq] at e; obtain ⟨rfl, rfl⟩ := e; exact hzt
            · exact hc _ _ hm) hx).rep
          refine ⟨.bool xb, ?_, Sees.bool⟩
          generalize hq1 : a.eval p = Z at h2
          cases h2
          unfold execOp
          have e1 : a.eval (.tmp t) = .bool true := hzt
          simp [ho, e1, asBool, hq1]
        | false =>
          obtain ⟨yb, rfl, rfl⟩ := hf rfl
          have h2 := (evalO_sound h (ch := (t, false) :: ch) (by
            intro t' w' hm
            rcases List.mem_cons.1 hm with e | hm
            · simp only [Prod.mk.injEq] at e; obtain ⟨rfl, rfl⟩ := e; exact hzt
            · exact hc _ _ hm) hy).rep
          refine ⟨.bool yb, ?_, Sees.bool⟩
          generalize hq1 : a.eval q = Z at h2
          cases h2
          unfold execOp
          have e1 : a.eval (.tmp t) = .bool false := hzt
          simp [ho, e1, asBool, hq1]
end Go.Ab
