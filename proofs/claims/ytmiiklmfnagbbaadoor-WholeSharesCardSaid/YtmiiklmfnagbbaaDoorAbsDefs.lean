/- The abstract machine: definitions alone. A deterministic evaluator over abstract values (slices as functional lists, local variables as keyed objects), to be proved sound against the model's run (AbsSound..). -/
import Derived.Calls
namespace Go.Ab
open Go

/-- Who may grow a slice in place: nobody that is known (no); its capacity is its length (fit); the owner of key k, while its length is the frontier (key). -/
inductive Own where
  | no
  | fit
  | key (k : Nat)

inductive AV : Type where
  | bool (b : Bool)
  | int (k : IntKind) (n : Int)
  | str (s : List UInt8)
  | nilp
  | nilf
  | nilm
  | nili
  | undef
  | sl (o : Own) (sz n : Nat) (get : Nat → List AV)
  | agg (cs : List AV)
  | arr (sz n : Nat) (get : Nat → List AV)
  | tup (vs : List AV)
  | ref (k off : Nat)
  | aref (k sz i off : Nat)
  | elt (cs : List AV) (off : Nat)
  | msl (k sz off len : Nat)
  | fn (f : FuncId) (first caps : List AV)
  /-- a slot whose value is known only while slot t holds the bool w -/
  | grd (t : Nat) (w : Bool) (v : AV)

/-- An object: a variable of explicit cells; a row of n elements of sz cells; the frontier of a slice that grows; a frozen row; a string's iterator. -/
inductive AO where
  | cells (cs : List AV)
  | arr (sz n : Nat) (get : Nat → List AV)
  | frz (sz n : Nat) (get : Nat → List AV)
  | own (sz n : Nat)
  | iter (s : List UInt8) (pos : Nat)

structure St where
  env : List (Nat × AV)
  objs : List (Nat × AO)

def alook {α : Type} : List (Nat × α) → Nat → Option α
  | [], _ => none
  | (k, v) :: r, i => cond (Nat.beq k i) (some v) (alook r i)

def aput {α : Type} : List (Nat × α) → Nat → α → List (Nat × α)
  | [], i, x => [(i, x)]
  | (k, v) :: r, i, x => cond (Nat.beq k i) ((k, x) :: r) ((k, v) :: aput r i x)

def St.get (s : St) (t : Nat) : Option AV := alook s.env t
def St.put (s : St) (d : Option Nat) (v : AV) : St :=
  match d with
  | none => s
  | some d => { s with env := aput s.env d v }
def St.obj (s : St) (k : Nat) : Option AO := alook s.objs k
def St.setObj (s : St) (k : Nat) (o : AO) : St := { s with objs := aput s.objs k o }

mutual
/-- The keys that a value mentions. -/
def AV.keys : AV → List Nat
  | .sl (.key k) _ _ _ => [k]
  | .agg cs => keysL cs
  | .tup vs => keysL vs
  | .ref k _ => [k]
  | .aref k _ _ _ => [k]
  | .msl k _ _ _ => [k]
  | .fn _ a b => keysL a ++ keysL b
  | .grd _ _ v => v.keys
  | _ => []
def keysL : List AV → List Nat
  | [] => []
  | v :: r => v.keys ++ keysL r
end

mutual
/-- The value as somebody else may have it: nobody's to grow. -/
def AV.shed : AV → AV
  | .sl (.key _) sz n get => .sl .no sz n get
  | .agg cs => .agg (shedL cs)
  | .tup vs => .tup (shedL vs)
  | v => v
def shedL : List AV → List AV
  | [] => []
  | v :: r => v.shed :: shedL r
end

def shedP : List (Nat × AV) → List (Nat × AV)
  | [] => []
  | (i, v) :: r => (i, v.shed) :: shedP r

/-- A value of one cell. -/
def AV.one : AV → Bool
  | .agg _ | .arr .. | .tup _ | .undef | .grd .. => false
  | _ => true

def AV.isGrd : AV → Bool
  | .grd .. => true
  | _ => false

/-- The cells of a value. -/
def AV.cells : AV → List AV
  | .agg cs => cs
  | v => [v]

/-- The value of a model's plain value (constants, zero values). -/
def ofCell : Value → Option AV
  | .bool b => some (.bool b)
  | .int k n => some (.int k n)
  | .string s => some (.str s.data.toList)
  | .pointer none => some .nilp
  | .slice none 0 0 => some (.sl .fit 0 0 fun _ => [])
  | .map none => some .nilm
  | .nilFunc => some .nilf
  | .nilIface => some .nili
  | _ => none
def ofCells : List Value → Option (List AV)
  | [] => some []
  | v :: r => (ofCell v).bind fun a => (ofCells r).map fun l => a :: l
def ofValue : Value → Option AV
  | .agg cs => (ofCells cs.toList).map .agg
  | v => ofCell v

section
variable (P : Program)

def sizeOf? (t : TypeId) : Option Nat := (P.info? t).map (·.size)
def zeroCells (t : TypeId) : Option (List AV) := ((P.info? t).bind (·.zero)).bind fun v => ofCells v.cells.toList
def isAggD : TypeDesc → Bool
  | .struct _ | .array _ _ => true
  | _ => false
/-- The value of type t that these cells hold. -/
def ofPart (t : TypeId) (cs : List AV) (off : Nat) : Option AV :=
  match P.underlying t, sizeOf? P t with
  | some d, some n =>
    cond (isAggD d) (cond (Nat.ble (off + n) cs.length) (some (.agg ((cs.drop off).take n))) none)
      (match cs.drop off with | v :: _ => some v | [] => none)
  | _, _ => none

def setCells : List AV → Nat → List AV → Option (List AV)
  | cs, 0, [] => some cs
  | _ :: cs, 0, v :: vs => (setCells cs 0 vs).map fun l => v :: l
  | c :: cs, off + 1, vs => (setCells cs off vs).map fun l => c :: l
  | [], 0, _ :: _ => none
  | [], _ + 1, _ => none

/-- The guards under which an operation runs: slots and the bools that they hold. -/
abbrev Chain := List (Nat × Bool)
def Chain.has (ch : Chain) (t : Nat) (w : Bool) : Bool := ch.any fun p => Nat.beq p.1 t && p.2 == w

structure Ctx where
  s : St
  G : Nat → Option (List AV)
  ch : Chain

def evalO (c : Ctx) : Operand → Option AV
  | .tmp t => (match c.s.get t with
    | some (.grd tc w v) => cond (c.ch.has tc w && !v.isGrd) (some v) none
    | x => x)
  | .const v => ofValue v
  | .global g => (c.G g).map fun cs => .elt cs 0
  | .func f => some (.fn f [] [])

def evalL (c : Ctx) : List Operand → Option (List AV)
  | [] => some []
  | x :: r => (evalO c x).bind fun v => (evalL c r).map fun l => v :: l

def bytesLt (x y : List UInt8) : Bool := Op.bytesLess x y

/-- A pure operation answers: does it go through (else the program panics or leaves the model), and its value. -/
abbrev PV := Option (Bool × AV)
def ok1 (v : AV) : PV := some (true, v)

def intOp (op : BinOp) (k : IntKind) (x y : Int) : PV :=
  match op with
  | .add => ok1 (.int k (k.wrap (x + y)))
  | .sub => ok1 (.int k (k.wrap (x - y)))
  | .mul => ok1 (.int k (k.wrap (x * y)))
  | .quo => some (y != 0, .int k (k.wrap (x.tdiv y)))
  | .rem => some (y != 0, .int k (x.tmod y))
  | .and => ok1 (.int k (k.wrap (BitVec.ofInt k.bits x &&& BitVec.ofInt k.bits y).toNat))
  | .or => ok1 (.int k (k.wrap (BitVec.ofInt k.bits x ||| BitVec.ofInt k.bits y).toNat))
  | .xor => ok1 (.int k (k.wrap (BitVec.ofInt k.bits x ^^^ BitVec.ofInt k.bits y).toNat))
  | .andNot => ok1 (.int k (k.wrap (BitVec.ofInt k.bits x &&& ~~~(BitVec.ofInt k.bits y)).toNat))
  | .eql => ok1 (.bool (x == y))
  | .neq => ok1 (.bool (x != y))
  | .lss => ok1 (.bool (decide (x < y)))
  | .leq => ok1 (.bool (decide (x ≤ y)))
  | .gtr => ok1 (.bool (decide (x > y)))
  | .geq => ok1 (.bool (decide (x ≥ y)))
  | _ => none

def strOp (op : BinOp) (x y : List UInt8) : PV :=
  match op with
  | .add => some (Nat.ble (x.length + y.length) 4611686018427387904, .str (x ++ y))
  | .eql => ok1 (.bool (x == y))
  | .neq => ok1 (.bool (!(x == y)))
  | .lss => ok1 (.bool (bytesLt x y))
  | .leq => ok1 (.bool (bytesLt x y || x == y))
  | .gtr => ok1 (.bool (!(bytesLt x y || x == y)))
  | .geq => ok1 (.bool (!(bytesLt x y)))
  | _ => none

def shiftOp (op : BinOp) (k : IntKind) (x y : Int) : PV :=
  match op with
  | .shl => some (decide (0 ≤ y), .int k (k.wrap (x * 2 ^ (min y.toNat k.bits))))
  | .shr => some (decide (0 ≤ y), .int k (x.fdiv (2 ^ (min y.toNat k.bits))))
  | _ => none

def isShift : BinOp → Bool
  | .shl | .shr => true
  | _ => false

def binA (op : BinOp) (t : TypeId) (x y : AV) : PV :=
  match x, y with
  | .int k a, .int k' b => cond (isShift op) (shiftOp op k a b) (cond (decide (k = k')) (intOp op k a b) none)
  | .str a, .str b => strOp op a b
  | .bool a, .bool b => (match P.underlying t with
    | some .bool => (match op with | .eql => ok1 (.bool (a == b)) | .neq => ok1 (.bool (!(a == b))) | _ => none)
    | _ => none)
  | _, _ => none

def unA (op : UnOp) (x : AV) : PV :=
  match op, x with
  | .neg, .int k n => ok1 (.int k (k.wrap (0 - n)))
  | .not, .bool b => ok1 (.bool (!b))
  | _, _ => none

def byteOf : List AV → UInt8
  | [.int .u8 n] => UInt8.ofNat n.toNat
  | _ => 0
def isByte : List AV → Bool
  | [.int .u8 _] => true
  | _ => false
/-- A row of bytes as a string. -/
def bytesOf (n : Nat) (get : Nat → List AV) : List UInt8 := (List.range n).map fun j => byteOf (get j)
def allBytes (n : Nat) (get : Nat → List AV) : Bool := (List.range n).all fun j => isByte (get j)
/-- A string's bytes as a row. -/
def rowOf (s : List UInt8) : Nat → List AV := fun j => [.int .u8 (s.getD j 0).toNat]

/-- What is read of a slice: how many elements, and which cells. -/
def srcA (s : St) : AV → Option (Nat × Nat × (Nat → List AV))
  | .sl _ sz n get => some (sz, n, get)
  | .msl k sz off n =>
    (match s.obj k with
    | some (.arr sz' m get) => cond (Nat.beq sz sz' && Nat.ble (off + n) m) (some (sz, n, fun j => get (off + j))) none
    | some (.frz sz' m get) => cond (Nat.beq sz sz' && Nat.ble (off + n) m) (some (sz, n, fun j => get (off + j))) none
    | _ => none)
  | _ => none

def convA (s : St) (src dst : TypeId) (x : AV) : PV :=
  match P.underlying dst, x with
  | some (.int k), .int _ n => (match P.underlying src with | some (.int _) => ok1 (.int k (k.wrap n)) | _ => none)
  | some .string, .str s => (match P.underlying src with | some .string => ok1 (.str s) | _ => none)
  | some (.slice e), .str s => (match P.underlying e, P.underlying src with
    | some (.int .u8), some .string => some (Nat.ble s.length 140737488355328, .sl .no 1 s.length (rowOf s))
    | _, _ => none)
  | some .string, x => (match P.underlying src with
    | some (.slice e) => (match P.underlying e, srcA s x with
      | some (.int .u8), some (sz, n, get) => cond (Nat.beq sz 1 || Nat.beq n 0) (some (allBytes n get, .str (bytesOf n get))) none
      | _, _ => none)
    | _ => none)
  | _, _ => none

/-- A cap on every length: it keeps a row's bytes within the model's memory. -/
def roomy (bytes n : Nat) : Bool := Nat.ble (n * bytes) 140737488355328

def lenA (t : TypeId) (x : AV) : PV :=
  match P.underlying t, x with
  | some (.slice _), .sl _ _ n _ => ok1 (.int .i64 n)
  | some (.slice _), .msl _ _ _ n => ok1 (.int .i64 n)
  | some .string, .str s => ok1 (.int .i64 s.length)
  | some (.map _ _), .nilm => ok1 (.int .i64 0)
  | _, _ => none

/-- A part of a struct, by its field. -/
def fieldOf? (t : TypeId) (f : Nat) : Option Field :=
  match P.underlying t with
  | some (.struct fs) => fs[f]?
  | _ => none

/-- A type that takes up cells. -/
def solid (t : TypeId) : Bool :=
  match sizeOf? P t with
  | some (_ + 1) => true
  | _ => false

def fieldAddrA (t : TypeId) (f : Nat) (x : AV) : PV :=
  match fieldOf? P t f with
  | some fd => cond (solid P fd.type) (match x with
    | .ref k off => ok1 (.ref k (off + fd.offset))
    | .aref k sz i off => ok1 (.aref k sz i (off + fd.offset))
    | .elt cs off => ok1 (.elt cs (off + fd.offset))
    | _ => none) none
  | none => none

/-- An index that lies within n, as a number. -/
def within (i : Int) (n : Nat) : Bool := decide (0 ≤ i) && decide (i < n)

def isNil {α : Type} : List α → Bool
  | [] => true
  | _ => false

def guardO {α : Type} (b : Bool) (x : Option α) : Option α := cond b x none

def indexAddrA (s : St) (t : TypeId) (x i : AV) : PV :=
  match i with
  | .int _ i =>
    (match P.underlying t, x with
    | some (.slice e), .sl _ sz n get => guardO (sizeOf? P e == some sz) (some (within i n, .elt (get i.toNat) 0))
    | some (.slice e), .msl k sz off n => guardO (sizeOf? P e == some sz) (some (within i n, .aref k sz (off + i.toNat) 0))
    | some (.array m e), .ref k 0 =>
      (match s.obj k with
      | some (.arr sz n _) => guardO (Nat.beq m n && (sizeOf? P e == some sz && Nat.blt 1 n)) (some (within i n, .aref k sz i.toNat 0))
      | _ => none)
    | _, _ => none)
  | _ => none

def val1 (x : Option AV) : PV := x.map fun v => (true, v)

def loadA (s : St) (t : TypeId) (x : AV) : PV :=
  match x with
  | .elt cs off => val1 (ofPart P t cs off)
  | .ref k off =>
    (match s.obj k with
    | some (.cells cs) => val1 (ofPart P t cs off)
    | some (.arr sz n get) =>
      (match P.underlying t with
      | some (.array m e) => guardO (Nat.beq off 0 && (Nat.beq m n && (sizeOf? P e == some sz && sizeOf? P t == some (n * sz)))) (ok1 (.arr sz n get))
      | _ => none)
    | _ => none)
  | .aref k sz i off =>
    (match s.obj k with
    | some (.arr sz' n get) => guardO (Nat.beq sz sz') ((ofPart P t (get i) off).map fun v => (Nat.blt i n, v))
    | some (.frz sz' n get) => guardO (Nat.beq sz sz') ((ofPart P t (get i) off).map fun v => (Nat.blt i n, v))
    | _ => none)
  | _ => none

/-- Which values a cell may hold: those of one cell. -/
def allOne : List AV → Bool
  | [] => true
  | v :: r => v.one && allOne r

/-- A store: does it go through, and the object that it leaves. -/
def storeA (s : St) (t : TypeId) (x v : AV) : Option (Bool × Nat × AO) :=
  match x with
  | .ref k off =>
    (match s.obj k with
    | some (.cells cs) => guardO (allOne v.cells && (sizeOf? P t == some v.cells.length)) ((setCells cs off v.cells).map fun l => (true, k, .cells l))
    | some (.arr sz n _) =>
      (match v with
      | .arr sz' n' get' => guardO (Nat.beq off 0 && (Nat.beq sz sz' && (Nat.beq n n' && sizeOf? P t == some (n * sz)))) (some (true, k, .arr sz n get'))
      | _ => none)
    | _ => none)
  | .aref k sz' i off =>
    (match s.obj k with
    | some (.arr sz n get) =>
      guardO (Nat.beq sz sz' && (allOne v.shed.cells && (sizeOf? P t == some v.shed.cells.length && isNil (keysL v.shed.cells))))
        ((setCells (get i) off v.shed.cells).map fun l => (Nat.blt i n, k, .arr sz n fun j => cond (Nat.beq j i) l (get j)))
    | _ => none)
  | _ => none

/-- Two plain cells that are one. -/
def sameZ : AV → AV → Bool
  | .bool x, .bool y => x == y
  | .int k m, .int q n => decide (k = q) && m == n
  | .str x, .str y => x == y
  | .nilp, .nilp | .nilf, .nilf | .nilm, .nilm | .nili, .nili => true
  | .sl .fit 0 0 _, .sl .fit 0 0 _ => true
  | _, _ => false
/-- Cells, cut off the front of a row. -/
def eatZ : List AV → List AV → Option (List AV)
  | [], r => some r
  | u :: z, v :: r => cond (sameZ u v) (eatZ z r) none
  | _ :: _, [] => none
def zeroRow (z : List AV) : Nat → List AV → Bool
  | 0, r => isNil r
  | n + 1, r => match eatZ z r with
    | some r => zeroRow z n r
    | none => false

/-- A new variable of type t. -/
def newA (t : TypeId) : Option AO :=
  match P.underlying t with
  | some (.array n e) => (zeroCells P e).bind fun z => (zeroCells P t).bind fun r => guardO (zeroRow z n r) (some (.arr z.length n fun _ => z))
  | some _ => (zeroCells P t).map fun z => .cells z
  | _ => none

def buildFill (P : Program) (fs : Array Field) : List AV → List (Nat × AV) → Option (List AV)
  | cs, [] => some cs
  | cs, (i, v) :: r =>
    match fs[i]? with
    | some f => guardO (allOne v.cells && (sizeOf? P f.type == some v.cells.length)) ((setCells cs f.offset v.cells).bind fun l => buildFill P fs l r)
    | none => none

/-- The elements of a slice's literal: those that are given, zero elsewhere. -/
def fillGet (z : List AV) : List (Nat × AV) → Nat → List AV
  | [], _ => z
  | (i, v) :: r, j => cond (Nat.beq i j) v.cells (fillGet z r j)

def fillOk (sz len : Nat) : List (Nat × AV) → Bool
  | [] => true
  | (i, v) :: r => allOne v.cells && (isNil (keysL v.cells) && (Nat.beq v.cells.length sz && (Nat.blt i len && fillOk sz len r)))

/-- no place is filled twice -/
def fillApart : List (Nat × AV) → Bool
  | [] => true
  | (i, _) :: r => r.all (fun p => !(Nat.beq p.1 i)) && fillApart r

def evalParts (c : Ctx) : List (Nat × Operand) → Option (List (Nat × AV))
  | [] => some []
  | (i, x) :: r => (evalO c x).bind fun v => (evalParts c r).map fun l => (i, v) :: l

def buildA (t : TypeId) (parts : List (Nat × AV)) : PV :=
  match P.underlying t with
  | some (.struct fs) => (zeroCells P t).bind fun z => cond (fs.toList.all fun f => (sizeOf? P f.type).isSome) ((buildFill P fs z parts).bind fun l => ok1 (.agg l)) none
  | _ => none

def buildSliceA (t : TypeId) (len : Nat) (parts : List (Nat × AV)) : PV :=
  match P.underlying t with
  | some (.slice e) => (zeroCells P e).bind fun z =>
      guardO (sizeOf? P e == some z.length && (Nat.blt 0 z.length && (fillOk z.length len (shedP parts) && (fillApart parts && Nat.ble (len * z.length) 16777216)))) (ok1 (.sl .fit z.length len (fillGet z (shedP parts))))
  | _ => none

def extractA (x : AV) (i : Nat) : PV :=
  match x with
  | .tup vs => val1 vs[i]?
  | _ => none

def fieldA (t : TypeId) (f : Nat) (x : AV) : PV :=
  match fieldOf? P t f, x with
  | some fd, .agg cs => val1 (ofPart P fd.type cs fd.offset)
  | _, _ => none

def indexA (t : TypeId) (x i : AV) : PV :=
  match i with
  | .int _ i =>
    (match P.underlying t, x with
    | some (.array m e), .arr sz n get => guardO (Nat.beq m n && (sizeOf? P e == some sz)) ((ofPart P e (get i.toNat) 0).map fun v => (within i n, v))
    | some .string, .str s => some (within i s.length, .int .u8 (s.getD i.toNat 0).toNat)
    | _, _ => none)
  | _ => none

/-- A slice's bounds: low, high. -/
def bound (x : Option AV) (d : Nat) : Option Int :=
  match x with
  | none => some d
  | some (.int _ n) => some n
  | some _ => none

def sliceA (t : TypeId) (x : AV) (lo hi mx : Option AV) : PV :=
  match mx with
  | some _ => none
  | none =>
    (match P.underlying t, x with
    | some .string, .str s =>
      (bound lo 0).bind fun l => (bound hi s.length).bind fun h => some (decide (0 ≤ l) && (decide (l ≤ h) && decide (h ≤ s.length)), .str ((s.drop l.toNat).take (h.toNat - l.toNat)))
    | some (.slice e), .sl _ sz n get =>
      (bound lo 0).bind fun l => (bound hi n).bind fun h => guardO (sizeOf? P e == some sz) (some (decide (0 ≤ l) && (decide (l ≤ h) && decide (h ≤ n)),
        .sl .no sz (h.toNat - l.toNat) fun j => get (l.toNat + j)))
    | some (.slice e), .msl k sz off n =>
      (bound lo 0).bind fun l => (bound hi n).bind fun h => guardO (sizeOf? P e == some sz) (some (decide (0 ≤ l) && (decide (l ≤ h) && decide (h ≤ n)),
        .msl k sz (off + l.toNat) (h.toNat - l.toNat)))
    | _, _ => none)

def max2A : AV → AV → Option AV
  | .int k x, .int k' y => guardO (decide (k = k')) (some (.int k (cond (decide (y > x)) y x)))
  | _, _ => none
def min2A : AV → AV → Option AV
  | .int k x, .int k' y => guardO (decide (k = k')) (some (.int k (cond (decide (y < x)) y x)))
  | _, _ => none
def foldA (f : AV → AV → Option AV) : AV → List AV → Option AV
  | x, [] => some x
  | x, y :: r => (f x y).bind fun z => foldA f z r
def fold1 (f : AV → AV → Option AV) : List AV → PV
  | [] => none
  | x :: r => val1 (foldA f x r)

def pickA (c a b : AV) : PV :=
  match c, a, b with
  | .bool c, .bool x, .bool y => ok1 (.bool (cond c x y))
  | _, _, _ => none

/-- The appended elements. -/
def appGet (n m : Nat) (get get2 : Nat → List AV) : Nat → List AV :=
  fun j => cond (Nat.blt j n) (get j) (cond (Nat.blt j (n + m)) (get2 (j - n)) (get j))

/-- An append: does it go through, the key and the frontier that it leaves, the value. -/
def appendA (s : St) (d : Nat) (t : TypeId) (x y : AV) : Option (Bool × AV × Nat × AO) :=
  match P.underlying t with
  | some (.slice e) =>
    (match sizeOf? P e, zeroCells P e, P.info? e, x, srcA s y with
    | some sz, some z, some inf, .sl o sz0 n get, some (sz2, m, get2) =>
      guardO (Nat.blt 0 sz && (Nat.blt 0 inf.bytes && (Nat.beq z.length sz && ((Nat.beq n 0 || Nat.beq sz0 sz) && (Nat.beq m 0 || Nat.beq sz2 sz)))))
        (match o with
        | .no => none
        | .fit => (match s.obj d with
          | none => some (roomy inf.bytes (n + m), .sl (.key d) sz (n + m) (appGet n m get get2), d, .own sz (n + m))
          | some _ => none)
        | .key k => (match s.obj k with
          | some (.own sz1 fr) => guardO (Nat.beq sz1 sz) (some (roomy inf.bytes (n + m) && Nat.beq fr n, .sl (.key k) sz (n + m) (appGet n m get get2), k, .own sz (n + m)))
          | _ => none))
    | _, _, _, _, _ => none)
  | _ => none

def makeSliceA (s : St) (d : Nat) (t : TypeId) (l c : AV) : Option (Bool × AV × Nat × AO) :=
  match P.underlying t, l, c with
  | some (.slice e), .int .i64 l, .int .i64 c =>
    (match zeroCells P e, P.info? e, s.obj d with
    | some z, some inf, none =>
      guardO (Nat.beq z.length inf.size && Nat.blt 0 inf.size)
        (cond (decide (l = c)) (some (decide (0 ≤ c) && (roomy inf.bytes c.toNat && decide (c ≤ 140737488355328)), .msl d z.length 0 c.toNat, d, .arr z.length c.toNat fun _ => z))
          (some (decide (l = 0) && (decide (0 ≤ c) && (roomy inf.bytes c.toNat && decide (c ≤ 140737488355328))), .sl (.key d) z.length 0 (fun _ => z), d, .own z.length 0)))
    | _, _, _ => none)
  | _, _, _ => none
end

/-- What a call of function f with these arguments and objects comes to: the result, and the objects as it leaves them. The i-th object is known inside by the key base + i. -/
abbrev CallSem := FuncId → List AV → List AO → Option (AV × List AO)
def keyBase : Nat := 1000000

/-- Where a loop begins: the slots and objects that are kept; the slots (or an object's cells) whose slice is from here on the owner of a key. -/
structure Hint where
  keep : List Nat := []
  objs : List Nat := []
  promote : List (Nat × Nat × TypeId) := []
  promoteCell : List (Nat × Nat × Nat × TypeId) := []

inductive Ex where
  | nor
  | exit (id : Nat)
  | ret

structure Cfg where
  P : Program
  G : Nat → Option (List AV) := fun _ => none
  call : CallSem
  byRef : FuncId → Bool := fun _ => false
  hint : FuncId → Nat → Hint := fun _ _ => {}
  /-- may this call be asked -/
  pre : FuncId → List AV → List AO → Bool := fun _ _ _ => true
  /-- what lives on at the head of the code at this path -/
  trim : FuncId → List Nat → Option Hint := fun _ _ => none
  /-- what the code at this path is known to do, in place of a run of it -/
  cutO : FuncId → List Nat → Option (St → (Ex → St → Option (AV × List AO)) → Option (AV × List AO)) := fun _ _ => none
  /-- the state in another form at the head of the code at this path -/
  viewO : FuncId → List Nat → Option (St → (St → Option (AV × List AO)) → Option (AV × List AO)) := fun _ _ => none
  /-- the same for the loop at this path, from its head -/
  loopO : FuncId → List Nat → Option (St → (Ex → St → Option (AV × List AO)) → Option (AV × List AO)) := fun _ _ => none

/-- Freeze the row behind a slice that can be written: from here on it is only read. -/
def freezeA (objs : List (Nat × AO)) : AV → Option (AV × List (Nat × AO))
  | .msl k sz off n =>
    (match alook objs k with
    | some (.arr sz' m get) => guardO (Nat.beq sz sz' && Nat.ble (off + n) m) (some (.sl .no sz n fun j => get (off + j), aput objs k (.frz sz' m get)))
    | some (.frz sz' m get) => guardO (Nat.beq sz sz' && Nat.ble (off + n) m) (some (.sl .no sz n fun j => get (off + j), objs))
    | _ => none)
  | v => some (v, objs)
def freezeL (objs : List (Nat × AO)) : List AV → Option (List AV × List (Nat × AO))
  | [] => some ([], objs)
  | v :: r => (freezeA objs v).bind fun a => (freezeL a.2 r).bind fun b => some (a.1 :: b.1, b.2)
def freezeV (objs : List (Nat × AO)) : AV → Option (AV × List (Nat × AO))
  | .agg cs => (freezeL objs cs).map fun a => (.agg a.1, a.2)
  | v => freezeA objs v
def freezeVs (objs : List (Nat × AO)) : List AV → Option (List AV × List (Nat × AO))
  | [] => some ([], objs)
  | v :: r => (freezeV objs v).bind fun a => (freezeVs a.2 r).bind fun b => some (a.1 :: b.1, b.2)

mutual
def AV.ren (m : Nat → Nat) : AV → AV
  | .sl (.key k) sz n get => .sl (.key (m k)) sz n get
  | .agg cs => .agg (renL m cs)
  | .tup vs => .tup (renL m vs)
  | .ref k off => .ref (m k) off
  | .aref k sz i off => .aref (m k) sz i off
  | .msl k sz off n => .msl (m k) sz off n
  | .fn f a b => .fn f (renL m a) (renL m b)
  | .grd t w v => .grd t w (v.ren m)
  | v => v
def renL (m : Nat → Nat) : List AV → List AV
  | [] => []
  | v :: r => v.ren m :: renL m r
end
def AO.ren (m : Nat → Nat) : AO → AO
  | .cells cs => .cells (renL m cs)
  | o => o
def AO.keys : AO → List Nat
  | .cells cs => keysL cs
  | _ => []

def addKeys : List Nat → List Nat → List Nat
  | acc, [] => acc
  | acc, k :: r => addKeys (cond (acc.any (Nat.beq k)) acc (acc ++ [k])) r
def objKeys (objs : List (Nat × AO)) : List Nat → List Nat
  | [] => []
  | k :: r => ((alook objs k).map AO.keys).getD [] ++ objKeys objs r
/-- The keys of objects that the arguments lead to, in two steps. -/
def reachK (objs : List (Nat × AO)) (ks : List Nat) : List Nat :=
  let a := addKeys [] ks
  let b := addKeys a (objKeys objs a)
  addKeys b (objKeys objs b)
/-- are these keys all among those -/
def subK : List Nat → List Nat → Bool
  | [], _ => true
  | k :: r, l => l.any (Nat.beq k) && subK r l

def idxOf : List Nat → Nat → Nat → Nat
  | [], _, d => d
  | k :: r, i, d => cond (Nat.beq k i) 0 (idxOf r i d + 1)
def nthD : List Nat → Nat → Nat
  | [], _ => 0
  | k :: _, 0 => k
  | _ :: r, i + 1 => nthD r i
def getObjs (objs : List (Nat × AO)) : List Nat → Option (List AO)
  | [] => some []
  | k :: r => (alook objs k).bind fun o => (getObjs objs r).map fun l => o :: l
def putObjs : List (Nat × AO) → List Nat → List AO → List (Nat × AO)
  | objs, k :: r, o :: l => putObjs (aput objs k o) r l
  | objs, _, _ => objs

/-- A call out of a state: its result, and the objects that it left. -/
def doCall (X : Cfg) (objs : List (Nat × AO)) (f : FuncId) (args : List AV) : Option (Bool × AV × List (Nat × AO)) :=
  (cond (X.byRef f) (some (args, objs)) (freezeVs objs args)).bind fun a =>
    let vs := shedL a.1
    let ks := reachK a.2 (keysL vs)
    cond (subK (objKeys a.2 ks) ks)
      ((getObjs a.2 ks).bind fun os =>
        let fwd := fun k => keyBase + idxOf ks k 0
        let bwd := fun k => nthD ks (k - keyBase)
        (X.call f (renL fwd vs) (os.map (AO.ren fwd))).bind fun r =>
          cond (Nat.beq r.2.length ks.length)
            (some (X.pre f (renL fwd vs) (os.map (AO.ren fwd)), r.1.ren bwd, putObjs a.2 ks (r.2.map (AO.ren bwd)))) none)
      none

/-- The function and the arguments of a call. -/
def calleeA (x : Ctx) (c : Call) : Option (FuncId × List AV) :=
  match c.callee with
  | .value f => (evalO x f).bind fun fv => (evalL x c.args.toList).bind fun vs =>
      (match fv with
      | .fn f first caps => some (f, first ++ vs ++ caps)
      | _ => none)
  | _ => none

def nilA (x : AV) : PV :=
  match x with
  | .ref .. | .aref .. | .elt .. | .fn .. => ok1 x
  | _ => none

/-- A pure operation, of its operands. -/
def pureA (P : Program) (c : Ctx) (op : Op) : PV :=
  match op with
  | .move x | .assign x => val1 (evalO c x)
  | .pick q a b => (match q with
      | .tmp t => (evalO c q).bind fun q => (evalO { c with ch := (t, true) :: c.ch } a).bind fun a => (evalO { c with ch := (t, false) :: c.ch } b).bind fun b => pickA q a b
      | _ => none)
  | .build t ps => (evalParts c ps.toList).bind fun l => buildA P t l
  | .buildSlice t n ps => (evalParts c ps.toList).bind fun l => buildSliceA P t n l
  | .load t x => (evalO c x).bind fun x => loadA P c.s t x
  | .nilCheck x => (evalO c x).bind fun x => nilA x
  | .binOp op t x y _ => (evalO c x).bind fun x => (evalO c y).bind fun y => binA P op t x y
  | .unOp op _ x => (evalO c x).bind fun x => unA op x
  | .convert a b x => (evalO c x).bind fun x => convA P c.s a b x
  | .makeFunc (.func f) a b => (evalL c a.toList).bind fun a => (evalL c b.toList).bind fun b => ok1 (.fn f a b)
  | .slice t x l h m =>
      (evalO c x).bind fun x => (evalM c l).bind fun l => (evalM c h).bind fun h => (evalM c m).bind fun m => sliceA P t x l h m
  | .fieldAddr t x f => (evalO c x).bind fun x => fieldAddrA P t f x
  | .field t x f => (evalO c x).bind fun x => fieldA P t f x
  | .indexAddr t x i => (evalO c x).bind fun x => (evalO c i).bind fun i => indexAddrA P c.s t x i
  | .index t x i => (evalO c x).bind fun x => (evalO c i).bind fun i => indexA P t x i
  | .extract x i => (evalO c x).bind fun x => extractA x i
  | .call { callee := .builtin .len, args, argTypes } => (evalL c args.toList).bind fun l => (match l, argTypes.toList with | [x], [t] => lenA P t x | _, _ => none)
  | .call { callee := .builtin .max, args, .. } => (evalL c args.toList).bind fun l => fold1 max2A l
  | .call { callee := .builtin .min, args, .. } => (evalL c args.toList).bind fun l => fold1 min2A l
  | _ => none
  where evalM (c : Ctx) : Option Operand → Option (Option AV)
  | none => some none
  | some x => (evalO c x).map some

abbrev Res := Option (AV × List AO)

/-- One unguarded operation: does it go through, its value, the objects that it leaves. -/
def effA (X : Cfg) (s : St) (o : Oper) : Option (Bool × AV × List (Nat × AO)) :=
  let c : Ctx := ⟨s, X.G, []⟩
  match o.op with
  | .alloc t => (match o.dst with
      | some d => (match s.obj d with
        | none => (newA X.P t).map fun ob => (true, .ref d 0, aput s.objs d ob)
        | some _ => none)
      | none => none)
  | .box t x => (match o.dst with
      | some d => (match s.obj d with
        | none => (evalO c x).bind fun v =>
            (match v with
            | .arr sz n get => guardO (sizeOf? X.P t == some (n * sz)) (some (true, .ref d 0, aput s.objs d (.arr sz n get)))
            | _ => guardO (allOne v.cells && (sizeOf? X.P t == some v.cells.length)) (some (true, .ref d 0, aput s.objs d (.cells v.cells))))
        | some _ => none)
      | none => none)
  | .store t x v => (evalO c x).bind fun x => (evalO c v).bind fun v => (storeA X.P s t x v).map fun r => (r.1, .undef, aput s.objs r.2.1 r.2.2)
  | .makeSlice t l n => (match o.dst with
      | some d => (evalO c l).bind fun l => (evalO c n).bind fun n => (makeSliceA X.P s d t l n).map fun r => (r.1, r.2.1, aput s.objs r.2.2.1 r.2.2.2)
      | none => none)
  | .call { callee := .builtin .append, args, argTypes } => (match o.dst, argTypes.toList with
      | some d, [t, t'] => guardO (Nat.beq t t') ((evalL c args.toList).bind fun l => (match l with
          | [x, y] => (appendA X.P s d t x y).map fun r => (r.1, r.2.1, aput s.objs r.2.2.1 r.2.2.2)
          | _ => none))
      | _, _ => none)
  | .call { callee := .value f, args, argTypes } => (calleeA c { callee := .value f, args, argTypes }).bind fun q =>
      doCall X s.objs q.1 q.2
  | op => (pureA X.P c op).map fun r => (r.1, r.2, s.objs)

/-- The state after it. -/
def St.after (s : St) (d : Option Nat) (v : AV) (objs : List (Nat × AO)) : St := St.put { env := s.env, objs := objs } d v

/-- One unguarded operation, run to the next state. -/
def stepA (X : Cfg) (s : St) (o : Oper) (k : St → Res) : Res :=
  (effA X s o).bind fun r => guardO r.1 (k (s.after o.dst r.2.1 r.2.2))

/-- The guards behind a guard: a guarded slot's own. -/
def chainOf (s : St) : Nat → Nat → Bool → Chain
  | 0, t, w => [(t, w)]
  | n + 1, t, w => (t, w) :: (match s.get t with
    | some (.grd t' w' _) => chainOf s n t' w'
    | _ => [])
/-- Do all the guards hold. -/
def holdsA (s : St) : Chain → Option Bool
  | [] => some true
  | (t, w) :: r => (match s.get t with
    | some (.bool b) => (holdsA s r).map fun g => cond (b == w) g false
    | some (.grd _ _ (.bool b)) => (holdsA s r).map fun g => cond (b == w) g false
    | _ => none)

def domK : List (Nat × AO) → List Nat
  | [] => []
  | (k, _) :: r => k :: domK r
/-- A guarded operation: it must be pure, or a call that is handed no object. Does it go through, its value. -/
def effG (X : Cfg) (s : St) (o : Oper) (t : Nat) (w : Bool) : PV :=
  let ch := chainOf s 4 t w
  let c : Ctx := ⟨s, X.G, ch⟩
  match o.op with
  | .call { callee := .value f, args, argTypes } => (calleeA c { callee := .value f, args, argTypes }).bind fun q =>
      guardO (isNil (keysL q.2)) ((X.call q.1 q.2 []).bind fun r => (match r with
        | (v, []) => guardO (isNil v.keys && !v.isGrd) (some (X.pre q.1 q.2 [], v))
        | _ => none))
  | op => (holdsA s ch).bind fun g => (pureA X.P c op).bind fun r => guardO (subK r.2.keys (domK s.objs)) (some (cond r.1 true (!g), r.2))

def stepG (X : Cfg) (s : St) (o : Oper) (t : Nat) (w : Bool) (k : St → Res) : Res :=
  match o.dst with
  | none => none
  | some d => cond (Nat.beq d t) none ((effG X s o t w).bind fun r => guardO r.1 (k (s.put (some d) (.grd t w r.2))))

/-- The slots that hold a value for certain. -/
def purge : List (Nat × AV) → List (Nat × AV)
  | [] => []
  | (t, v) :: r => (t, cond v.isGrd .undef v) :: purge r

def anyGuard : List Oper → Bool
  | [] => false
  | o :: r => (match o.guard with | some _ => true | none => anyGuard r)

/-- The operations of a region, in the order of the text. -/
def runOps (X : Cfg) (ops : Array Oper) : List Oper → St → (St → Res) → Res
  | [], s, k => k s
  | o :: r, s, k =>
    match o.guard with
    | none => stepA X s o (fun s' => runOps X ops r s' k)
    | some (j, want) => (match (ops[j]?).bind (·.dst) with
      | some t => cond (r.any fun q => q.dst == some t) none (stepG X s o t want (fun s' => runOps X ops r s' k))
      | none => none)

/-- In a region with guards each slot is written once, and a guard stands ahead of what it guards. -/
def dstsApart : List Oper → List Nat → Bool
  | [], _ => true
  | o :: r, seen => (match o.dst with
    | some d => !(seen.any (Nat.beq d)) && dstsApart r (d :: seen)
    | none => dstsApart r seen)

/-- Of one operation in a region: its place; its slot; the slots that it reads; the objects that it reads; those that it makes or turns; does it touch whatever there is. -/
structure Fp where
  i : Nat
  dst : List Nat
  tmps : List Nat
  rd : List Nat
  wr : List Nat
  all : Bool

def disjK (a b : List Nat) : Bool := a.all fun k => !(b.any (Nat.beq k))

def opTmps : List Operand → List Nat
  | [] => []
  | .tmp t :: r => t :: opTmps r
  | _ :: r => opTmps r

/-- An operation that makes or turns objects. -/
def isLoud : Op → Bool
  | .alloc _ | .box .. | .store .. | .makeSlice .. => true
  | .call { callee := .builtin .append, .. } => true
  | _ => false
def isCallV : Op → Bool
  | .call { callee := .value _, .. } => true
  | _ => false

/-- the keys that the operands mention -/
def opKeys (c : Ctx) : List Operand → List Nat
  | [] => []
  | x :: r => (match evalO c x with | some v => v.keys | none => [0]) ++ opKeys c r

/-- An operation that asks for the objects behind its operands. -/
def readsObj : Op → Bool
  | .load .. | .indexAddr .. | .convert .. => true
  | _ => false

def fpOf (X : Cfg) (s : St) (ops : Array Oper) (i : Nat) (o : Oper) : Fp :=
  match o.guard with
  | none =>
    let ks := opKeys ⟨s, X.G, []⟩ o.op.operands.toList
    { i := i, dst := o.dst.toList, tmps := opTmps o.op.operands.toList, rd := cond (readsObj o.op) ks [], wr := cond (isLoud o.op) (o.dst.toList ++ ks) [], all := isCallV o.op && !isNil ks }
  | some (j, want) =>
    (match (ops[j]?).bind (·.dst) with
    | some t => { i := i, dst := o.dst.toList, tmps := (chainOf s 4 t want).map (·.1) ++ opTmps o.op.operands.toList, rd := (cond (readsObj o.op) (opKeys ⟨s, X.G, chainOf s 4 t want⟩ o.op.operands.toList) []) ++ (match effG X s o t want with | some r => r.2.keys | none => []), wr := [], all := false }
    | none => { i := i, dst := [], tmps := [], rd := [], wr := [], all := true })

def Fp.touches (a : Fp) : Bool := a.all || (!isNil a.rd || !isNil a.wr)

def apartF (a b : Fp) : Bool :=
  disjK a.dst b.tmps && (disjK b.dst a.tmps && (!(a.all && b.touches) && (!(b.all && a.touches) && (disjK a.wr b.wr && (disjK a.wr b.rd && disjK b.wr a.rd)))))

/-- The operations that stand before one of these edges. -/
def edgeBits (acc : List Nat) : List Edge → Nat
  | [] => 0
  | e :: r => cond (Region.binds .any e) (Nat.lor (Nat.lor (2 ^ e.on) (acc.getD e.on 0)) (edgeBits acc r)) (edgeBits acc r)
/-- For each operation those that stand before it in every order. -/
def befores : List Oper → List Nat → List Nat
  | [], acc => acc
  | o :: r, acc => (match edgeBits acc o.after.toList with
    | 0 => befores r (acc ++ [0])
    | n + 1 => befores r (acc ++ [n + 1]))

/-- Is each pair of operations ordered, or apart. bits: which operations stand before each one in every order. -/
def fpsOk (bits : List Nat) : List Fp → Bool
  | [] => true
  | a :: r => r.all (fun b => (bits.getD b.i 0).testBit a.i || apartF a b) && fpsOk bits r

def runOpsD (X : Cfg) (ops : Array Oper) : List Oper → Nat → List Fp → St → (List Fp → St → Res) → Res
  | [], _, acc, s, k => k acc s
  | o :: r, i, acc, s, k =>
    let acc' := acc ++ [fpOf X s ops i o]
    match o.guard with
    | none => stepA X s o (fun s' => runOpsD X ops r (i + 1) acc' s' k)
    | some (j, want) => (match (ops[j]?).bind (·.dst) with
      | some t => cond (r.any fun q => q.dst == some t) none (stepG X s o t want (fun s' => runOpsD X ops r (i + 1) acc' s' k))
      | none => none)

/-- Every operation waits for earlier ones alone. -/
def edgesOk : List Oper → Nat → Bool
  | [], _ => true
  | o :: r, i => o.after.all (fun e => cond (Region.binds .any e) (Nat.blt e.on i) true) && edgesOk r (i + 1)

def runDrawn (X : Cfg) (ops : Array Oper) (s : St) (k : St → Res) : Res :=
  cond (dstsApart ops.toList [] && edgesOk ops.toList 0)
    (runOpsD X ops ops.toList 0 [] s fun fps s' => cond (fpsOk (befores ops.toList []) fps) (k { s' with env := purge s'.env }) none) none

def runRegion (X : Cfg) (ops : Array Oper) (s : St) (k : St → Res) : Res :=
  cond (anyGuard ops.toList)
    (cond (dstsApart ops.toList []) (runOps X ops ops.toList s fun s' => k { s' with env := purge s'.env }) none)
    (runOps X ops ops.toList s k)

/-- The first region's number: the name of a loop's body. -/
def tagOf : Code → Nat
  | .region id _ _ => id
  | .seq a b => (match a with | .skip => tagOf b | _ => tagOf a)
  | .cond _ a _ => tagOf a
  | .block _ b => tagOf b
  | .loop b => tagOf b
  | .scope b => tagOf b
  | _ => 0

def keepEnv (env : List (Nat × AV)) : List Nat → List (Nat × AV)
  | [] => []
  | t :: r => (match alook env t with | some v => (t, v) :: keepEnv env r | none => keepEnv env r)
def keepObjs (objs : List (Nat × AO)) : List Nat → List (Nat × AO)
  | [] => []
  | k :: r => (match alook objs k with | some v => (k, v) :: keepObjs objs r | none => keepObjs objs r)
def envKeys : List (Nat × AV) → List Nat
  | [] => []
  | (_, v) :: r => v.keys ++ envKeys r
def allObjKeys : List (Nat × AO) → List Nat
  | [] => []
  | (_, v) :: r => v.keys ++ allObjKeys r
/-- The objects that were handed over. -/
def baseK : List (Nat × AO) → List Nat
  | [] => []
  | (k, _) :: r => cond (Nat.ble keyBase k) (k :: baseK r) (baseK r)


/-- The same slice as the owner of a key. -/
def ownAs (key : Nat) (z : List AV) (sz n : Nat) (get : Nat → List AV) : AV :=
  cond (Nat.beq n 0) (.sl (.key key) z.length 0 fun _ => z) (.sl (.key key) sz n get)

/-- The size of its elements. -/
def ownSz (z : List AV) (sz n : Nat) : Nat := cond (Nat.beq n 0) z.length sz

/-- From here on the slice in a slot owns the key. -/
def promoteEnv (P : Program) (s : St) : List (Nat × Nat × TypeId) → Option St
  | [] => some s
  | (t, key, e) :: r =>
    (match s.get t with
    | some (.sl .fit sz n get) => (match s.obj key, zeroCells P e with
        | none, some z => guardO (Nat.blt 0 (ownSz z sz n)) (promoteEnv P ((s.setObj key (.own (ownSz z sz n) n)).put (some t) (ownAs key z sz n get)) r)
        | _, _ => none)
    | _ => promoteEnv P s r)

/-- The same for a cell of a variable. -/
def promoteCells (P : Program) (s : St) : List (Nat × Nat × Nat × TypeId) → Option St
  | [] => some s
  | (ob, off, key, e) :: r =>
    (match s.obj ob with
    | some (.cells cs) => (match cs[off]? with
      | some (.sl .fit sz n get) => (match s.obj key, zeroCells P e with
        | none, some z => guardO (Nat.blt 0 (ownSz z sz n)) (promoteCells P ((s.setObj key (.own (ownSz z sz n) n)).setObj ob (.cells (cs.set off (ownAs key z sz n get)))) r)
        | _, _ => none)
      | _ => promoteCells P s r)
    | _ => promoteCells P s r)

/-- The state at the head of a loop: what the hint keeps. -/
def atHead (P : Program) (h : Hint) (s : St) : Option St :=
  let s1 : St := { env := keepEnv s.env h.keep, objs := keepObjs s.objs (h.objs ++ baseK s.objs) }
  cond (subK (envKeys s1.env) (domK s1.objs) && subK (allObjKeys s1.objs) (domK s1.objs)) ((promoteEnv P s1 h.promote).bind fun s2 => promoteCells P s2 h.promoteCell) none

def loopN (P : Program) (body : St → (Ex → St → Option (AV × List AO)) → Option (AV × List AO)) (h : Hint) : Nat → St → (Ex → St → Option (AV × List AO)) → Option (AV × List AO)
  | 0, _, _ => none
  | n + 1, s, k => (atHead P h s).bind fun s => body s fun e s' => match e with
    | .nor => loopN P body h n s' k
    | e => k e s'

/-- Every slot that is written is there. -/
def codeOk (N : Nat) : Code → Bool
  | .region _ ops _ => ops.toList.all fun o => match o.dst with
    | some d => Nat.blt d N
    | none => true
  | .seq a b => codeOk N a && codeOk N b
  | .cond _ a b => codeOk N a && codeOk N b
  | .block _ b => codeOk N b
  | .loop b => codeOk N b
  | _ => true

/-- Only this lives on. -/
def trimS (P : Program) (h : Option Hint) (s : St) : Option St :=
  match h with
  | none => some s
  | some h => atHead P h s

def viewS (h : Option (St → (St → Option (AV × List AO)) → Option (AV × List AO))) (s : St) (k : St → Option (AV × List AO)) : Option (AV × List AO) :=
  match h with
  | none => k s
  | some g => g s k

/-- A part of a code: 0 left or body or first branch, 1 right or second branch. -/
def subC : Code → List Nat → Code
  | c, [] => c
  | .seq a _, 0 :: r => subC a r
  | .seq _ b, _ :: r => subC b r
  | .cond _ a _, 0 :: r => subC a r
  | .cond _ _ b, _ :: r => subC b r
  | .block _ b, _ :: r => subC b r
  | .loop b, _ :: r => subC b r
  | .scope b, _ :: r => subC b r
  | c, _ => c
def bodyOf (P : Program) (f : FuncId) : Code := ((P.funcs[f]?).bind (·.body)).getD .skip

def runC (X : Cfg) (f : FuncId) (n : Nat) : Code → List Nat → St → (Ex → St → Option (AV × List AO)) → Option (AV × List AO)
  | .skip, _, s, k => k .nor s
  | .region _ ops draw, _, s, k => cond draw (runDrawn X ops s (k .nor)) (runRegion X ops s (k .nor))
  | .seq a b, p, s, k => runC X f n a (p ++ [0]) s fun e s' => match e with
    | .nor => (trimS X.P (X.trim f (p ++ [1])) s').bind fun s' => viewS (X.viewO f (p ++ [1])) s' fun s' => match X.cutO f (p ++ [1]) with
      | none => runC X f n b (p ++ [1]) s' k
      | some g => g s' k
    | e => k e s'
  | .cond c a b, p, s, k => (match evalO ⟨s, X.G, []⟩ c with
    | some (.bool t) => cond t (runC X f n a (p ++ [0]) s k) (runC X f n b (p ++ [1]) s k)
    | _ => none)
  | .block id b, p, s, k => runC X f n b (p ++ [0]) s fun e s' => match e with
    | .exit id' => cond (Nat.beq id' id) (k .nor s') (k e s')
    | e => k e s'
  | .loop b, p, s, k => match X.loopO f p with
    | none => loopN X.P (runC X f n b (p ++ [0])) (X.hint f (tagOf b)) n s k
    | some g => (atHead X.P (X.hint f (tagOf b)) s).bind fun s' => g s' k
  | .exit id, p, s, k => (trimS X.P (X.trim f p) s).bind fun s => k (.exit id) s
  | .ret, p, s, k => (trimS X.P (X.trim f p) s).bind fun s => k .ret s
  | _, _, _, _ => none

def resultA (X : Cfg) (s : St) : ResultVar → Option AV
  | .tmp t => s.get t
  | .cell q t => (match s.get q with
    | some (.ref k off) => (loadA X.P s t (.ref k off)).bind fun r => guardO r.1 (some r.2)
    | _ => none)
def resultL (X : Cfg) (s : St) : List ResultVar → Option (List AV)
  | [] => some []
  | r :: l => (resultA X s r).bind fun v => (resultL X s l).map fun vs => v :: vs

/-- What the function hands back: its results, frozen; the first m objects. -/
def finish (X : Cfg) (fn : Func) (m : Nat) (s : St) : Option (AV × List AO) :=
  (resultL X s fn.results.toList).bind fun vs => (freezeVs s.objs vs).bind fun a =>
    let vs := shedL a.1
    let ks := (List.range m).map (keyBase + ·)
    (getObjs a.2 ks).bind fun os =>
      cond (subK (keysL vs) ks && subK (objKeys a.2 ks) ks)
        (some (match vs with | [v] => v | vs => .tup vs, os)) none

def enterEnv : List AV → Nat → List (Nat × AV)
  | [], _ => []
  | v :: r, i => (i, v) :: enterEnv r (i + 1)
def enterObjs : List AO → Nat → List (Nat × AO)
  | [], _ => []
  | o :: r, i => (i, o) :: enterObjs r (i + 1)

/-- A call of function f, n the fuel of its loops. -/
def runF (X : Cfg) (n : Nat) (f : FuncId) (args : List AV) (objs : List AO) : Option (AV × List AO) :=
  match X.P.funcs[f]? with
  | some fn => (match fn.body with
    | some c => runC X f n c [] { env := enterEnv args 0, objs := enterObjs objs keyBase } fun e s =>
        (match e with
        | .exit _ => none
        | _ => finish X fn objs.length s)
    | none => none)
  | none => none

/-- The evaluator: n bounds the depth of calls and the rounds of each loop; ext answers the calls of functions that it lists. -/
structure Env where
  P : Program
  G : Nat → Option (List AV) := fun _ => none
  ext : CallSem := fun _ _ _ => none
  isExt : FuncId → Bool := fun _ => false
  byRef : FuncId → Bool := fun _ => false
  hint : FuncId → Nat → Hint := fun _ _ => {}
  pre : FuncId → List AV → List AO → Bool := fun _ _ _ => true
  trim : FuncId → List Nat → Option Hint := fun _ _ => none

/-- What the evaluator makes of a function's code, given its calls. -/
def Env.cfg (V : Env) (C : CallSem) : Cfg := { P := V.P, G := V.G, call := C, byRef := V.byRef, hint := V.hint, pre := fun f a o => cond (V.isExt f) (V.pre f a o) true, trim := V.trim }

def E (V : Env) : Nat → CallSem
  | 0 => fun _ _ _ => none
  | n + 1 => fun f args objs => cond (V.isExt f) (V.ext f args objs) (runF (V.cfg (E V n)) n f args objs)
end Go.Ab
