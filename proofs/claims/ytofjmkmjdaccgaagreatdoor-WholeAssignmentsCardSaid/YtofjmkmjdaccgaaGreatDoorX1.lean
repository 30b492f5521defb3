/- The abstract machine: definitions alone. A deterministic evaluator over abstract values (slices as functional lists, local variables as keyed objects), to be proved sound against the model's run (AbsSound..). What stands behind a call may be handed to it: runs with a continuation. The relation between abstract values and the model's values in a world. The relation between abstract states and the model's frames. Keys, structs of scalars: compared by their cells. Soundness of the pure operations, first part: operands, numbers, strings. Soundness of the pure operations, second part: memory that is read. Soundness of the pure operations, third part: slices, conversions, tuples, functions. Soundness of what is built: structs, slices' literals; new variables; stores. -/
import Derived.Calls
import Derived.Below
import Derived.Laws.Cells
import Derived.Laws.StructEq
import Derived.ChangeKeysEq
import Derived.WideKeyRuns
import Derived.Laws.Concat
import Derived.Laws.Cover1
import Derived.Laws.Tables
import Derived.Lib.Strings
import Derived.Laws.BytesArg
import Derived.Laws.BytesString
import Derived.Laws.Slices
import Derived.Laws.IdiomStrings
import Derived.Laws.Runes
import Derived.Great.BuildSlice
import Derived.Laws.MakeOwn
set_option linter.unusedVariables false
set_option linter.unusedSimpArgs false
namespace Go.Ab
open Go
inductive Own where
 | no
 | fit
 | key (k:Nat)
 | nl
 | nn
inductive KD where
 | bool
 | int (k:IntKind)
 | str
inductive AV:Type where
 | bool (b:Bool)
 | int (k:IntKind) (n:Int)
 | str (s:List UInt8)
 | nilp
 | nilf
 | nilm
 | nili
 | nni
 | num (k:IntKind)
 | undef
 | sl (o:Own) (sz n:Nat) (get:Nat->List AV)
 | agg (cs:List AV)
 | arr (sz n:Nat) (get:Nat->List AV)
 | tup (vs:List AV)
 | ref (k off:Nat)
 | aref (k sz i off:Nat)
 | elt (cs:List AV) (off:Nat)
 | msl (k sz off len:Nat)
 | gsl (k sz n:Nat)
 | gref (k sz n i off:Nat)
 | gsub (k sz n lo len:Nat)
 | mref (k:Nat)
 | fms (g:List UInt8->Option (List UInt8))
 | fn (f:FuncId) (first caps:List AV)
 | raw (v:Value)
 | grd (t:Nat) (w:Bool) (v:AV)
inductive AO where
 | cells (cs:List AV)
 | arr (sz n:Nat) (get:Nat->List AV)
 | frz (sz n:Nat) (get:Nat->List AV)
 | own (sz n:Nat)
 | grw (q sz n:Nat) (get:Nat->List AV)
 | iter (s:List UInt8) (pos:Nat)
 | mp (ka:Bool) (ks:List KD) (dom:List AV->Bool) (get:List AV->AV)
 | mat (sz n:Nat) (g:Nat->Nat×(Nat->List AV)) (h:Option Nat)
 | gone
structure St where
 env:List (Nat×AV)
 objs:List (Nat×AO)
def alook {α:Type}:List (Nat×α)->Nat->Option α
 | [],_=>none
 | (k,v)::r,i=>cond (Nat.beq k i) (some v) (alook r i)
def aput {α:Type}:List (Nat×α)->Nat->α->List (Nat×α)
 | [],i,x=>[(i,x)]
 | (k,v)::r,i,x=>cond (Nat.beq k i) ((k,x)::r) ((k,v)::aput r i x)
def zS:Nat->Nat->Bool
 | 0,_=>true
 | q+1,i=>Nat.ble q i
def uu (q sz n:Nat) (get:Nat->List AV):AO:=
 match q with
 | 0=>.own sz n
 | _+1=>.grw (n+1) sz n get
def St.get (s:St) (t:Nat):Option AV:=alook s.env t
def St.put (s:St) (d:Option Nat) (v:AV):St:=
 match d with
 | none=>s
 | some d=>{s with env:=aput s.env d v}
def St.obj (s:St) (k:Nat):Option AO:=alook s.objs k
def St.setObj (s:St) (k:Nat) (o:AO):St:={s with objs:=aput s.objs k o}
mutual
def AV.keys:AV->List Nat
 | .sl (.key k) _ _ _=>[k]
 | .agg cs=>au cs
 | .tup vs=>au vs
 | .ref k _=>[k]
 | .aref k _ _ _=>[k]
 | .msl k _ _ _=>[k]
 | .gsl k _ _=>[k]
 | .gref k _ _ _ _=>[k]
 | .gsub k _ _ _ _=>[k]
 | .mref k=>[k]
 | .fn _ a b=>au a++au b
 | .grd _ _ v=>v.keys
 | _=>[]
def au:List AV->List Nat
 | []=>[]
 | v::r=>v.keys++au r
end
mutual
def AV.shed:AV->AV
 | .sl (.key _) sz n get=>.sl .no sz n get
 | .agg cs=>.agg (bS cs)
 | .tup vs=>.tup (bS vs)
 | v=>v
def bS:List AV->List AV
 | []=>[]
 | v::r=>v.shed::bS r
end
def cU:List (Nat×AV)->List (Nat×AV)
 | []=>[]
 | (i,v)::r=>(i,v.shed)::cU r
def AV.one:AV->Bool
 | .agg _ | .arr .. | .tup _ | .undef | .raw _ | .grd ..=>false
 | _=>true
def AV.cA:AV->Bool
 | .grd ..=>true
 | _=>false
def AV.cells:AV->List AV
 | .agg cs=>cs
 | v=>[v]
def qF:Value->Option AV
 | .bool b=>some (.bool b)
 | .int k n=>some (.int k n)
 | .string s=>some (.str s.data.toList)
 | .pointer none=>some .nilp
 | .slice none 0 0=>some (.sl .fit 0 0 λ_=>[])
 | .map none=>some .nilm
 | .nilFunc=>some .nilf
 | .nilIface=>some .nili
 | _=>none
def gH:List Value->Option (List AV)
 | []=>some []
 | v::r=>(qF v).bind λa=>(gH r).map λl=>a::l
def ofValue:Value->Option AV
 | .agg cs=>(gH cs.toList).map .agg
 | v=>qF v
section
variable (P:Program)
def aA (t:TypeId):Option Nat:=(P.info? t).map (·.size)
def zeroCells (t:TypeId):Option (List AV):=((P.info? t).bind (·.zero)).bind λv=>gH v.cells.toList
def kZ:TypeDesc->Bool
 | .struct _ | .array _ _=>true
 | _=>false
def er (t:TypeId) (cs:List AV) (off:Nat):Option AV:=
 match P.underlying t,aA P t with
 | some d,some n=>
  cond (kZ d) (cond (Nat.ble (off+n) cs.length) (some (.agg ((cs.drop off).take n))) none)
   (match cs.drop off with | v::_=>some v | []=>none)
 | _,_=>none
def pd (t:TypeId) (cs:List AV) (off:Nat):Option (Bool×AV):=
 match P.underlying t,aA P t with
 | some d,some n=>
  cond (kZ d) (some (Nat.ble (off+n) cs.length,.agg ((cs.drop off).take n)))
   (match cs.drop off with | v::_=>some (true,v) | []=>none)
 | _,_=>none
def setCells:List AV->Nat->List AV->Option (List AV)
 | cs,0,[]=>some cs
 | _::cs,0,v::vs=>(setCells cs 0 vs).map λl=>v::l
 | c::cs,off+1,vs=>(setCells cs off vs).map λl=>c::l
 | [],0,_::_=>none
 | [],_+1,_=>none
def Dh (cs:List AV) (off:Nat) (vs:List AV):List AV:=
 match setCells cs off vs with
 | some l=>l
 | none=>[]
abbrev fw:=List (Nat×Bool)
def fw.has (ch:fw) (t:Nat) (w:Bool):Bool:=ch.any λp=>Nat.beq p.1 t&&p.2==w
structure Ctx where
 s:St
 G:Nat->Option (List AV)
 ch:fw
def aP (c:Ctx):Operand->Option AV
 | .tmp t=>(match c.s.get t with
  | some (.grd tc w v)=>cond (c.ch.has tc w&&!v.cA) (some v) none
  | x=>x)
 | .const v=>ofValue v
 | .global g=>(c.G g).map λcs=>.elt cs 0
 | .func f=>some (.fn f [] [])
def cY (c:Ctx):List Operand->Option (List AV)
 | []=>some []
 | x::r=>(aP c x).bind λv=>(cY c r).map λl=>v::l
def aZ (x y:List UInt8):Bool:=Op.bytesLess x y
abbrev PV:=Option (Bool×AV)
def ok1 (v:AV):PV:=some (true,v)
def Bs (op:BinOp) (k:IntKind) (x y:Int):PV:=
 match op with
 | .add=>ok1 (.int k (k.wrap (x+y)))
 | .sub=>ok1 (.int k (k.wrap (x - y)))
 | .mul=>ok1 (.int k (k.wrap (x*y)))
 | .quo=>some (y !=0,.int k (k.wrap (x.tdiv y)))
 | .rem=>some (y !=0,.int k (x.tmod y))
 | .and=>ok1 (.int k (k.wrap (BitVec.ofInt k.bits x &&& BitVec.ofInt k.bits y).toNat))
 | .or=>ok1 (.int k (k.wrap (BitVec.ofInt k.bits x ||| BitVec.ofInt k.bits y).toNat))
 | .xor=>ok1 (.int k (k.wrap (BitVec.ofInt k.bits x ^^^ BitVec.ofInt k.bits y).toNat))
 | .andNot=>ok1 (.int k (k.wrap (BitVec.ofInt k.bits x &&& ~~~(BitVec.ofInt k.bits y)).toNat))
 | .eql=>ok1 (.bool (x==y))
 | .neq=>ok1 (.bool (x !=y))
 | .lss=>ok1 (.bool (decide (x < y)))
 | .leq=>ok1 (.bool (decide (x<=y)))
 | .gtr=>ok1 (.bool (decide (x > y)))
 | .geq=>ok1 (.bool (decide (x≥y)))
 | _=>none
def AD (op:BinOp) (x y:List UInt8):PV:=
 match op with
 | .add=>some (Nat.ble (x.length+y.length) 4611686018427387904,.str (x++y))
 | .eql=>ok1 (.bool (x==y))
 | .neq=>ok1 (.bool (!(x==y)))
 | .lss=>ok1 (.bool (aZ x y))
 | .leq=>ok1 (.bool (aZ x y||x==y))
 | .gtr=>ok1 (.bool (!(aZ x y||x==y)))
 | .geq=>ok1 (.bool (!(aZ x y)))
 | _=>none
def rM (op:BinOp) (k:IntKind) (x y:Int):PV:=
 match op with
 | .shl=>some (decide (0<=y),.int k (k.wrap (x*2 ^ (min y.toNat k.bits))))
 | .shr=>some (decide (0<=y),.int k (x.fdiv (2 ^ (min y.toNat k.bits))))
 | _=>none
def pr:BinOp->Bool
 | .shl | .shr=>true
 | _=>false
def Dv:AV->AV->Option Bool
 | .nili,.nili=>some true
 | .nili,.nni | .nni,.nili=>some false
 | _,_=>none
def xF (op:BinOp) (t:TypeId) (k:Bool) (x y:AV):PV:=
 match P.underlying t with
 | some (.interface _)=>(match Dv x y with
  | some b=>cond (b&&!k) none (match op with | .eql=>ok1 (.bool b) | .neq=>ok1 (.bool (!b)) | _=>none)
  | none=>none)
 | _=>none
def isConst:Operand->Bool
 | .const _=>true
 | _=>false
def aq {α:Type} (b:Bool) (x:Option α):Option α:=cond b x none
def KD.fits:KD->AV->Bool
 | .bool,.bool _=>true
 | .int k,.int q _=>decide (k=q)
 | .str,.str _=>true
 | _,_=>false
def aL:List KD->List AV->Bool
 | [],[]=>true
 | k::r,v::l=>k.fits v&&aL r l
 | _,_=>false
def eqC:AV->AV->Bool
 | .bool a,.bool b=>a==b
 | .int k a,.int q b=>decide (k=q)&&a==b
 | .str a,.str b=>a==b
 | _,_=>false
def bO:List AV->List AV->Bool
 | [],[]=>true
 | u::l,v::r=>eqC u v&&bO l r
 | _,_=>false
def oC (t:TypeId):Option KD:=
 match P.underlying t with
 | some .bool=>some .bool
 | some (.int k)=>some (.int k)
 | some .string=>some .str
 | _=>none
def eE:Nat->List Field->Option (List KD)
 | _,[]=>some []
 | i,f::r=>aq (f.name !="_"&&Nat.beq f.offset i) ((oC P f.type).bind λk=>(eE (i+1) r).map λl=>k::l)
def vN (t:TypeId):Option (Bool×List KD):=
 match P.underlying t with
 | some (.struct fs)=>aq (!P.stoodInHeld t) ((eE P 0 fs.toList).map λl=>(true,l))
 | some (.array n e)=>(oC P e).bind λk=>aq (aA P e==some 1) (some (true,List.replicate n k))
 | _=>(oC P t).map λk=>(false,[k])
def Cl (op:BinOp) (t:TypeId) (k:Bool) (x y:AV):PV:=
 match x,y with
 | .int k a,.int k' b=>cond (pr op) (rM op k a b) (cond (decide (k=k')) (Bs op k a b) none)
 | .str a,.str b=>AD op a b
 | .bool a,.bool b=>(match P.underlying t with
  | some .bool=>(match op with | .eql=>ok1 (.bool (a==b)) | .neq=>ok1 (.bool (!(a==b))) | _=>none)
  | _=>none)
 | .agg a,.agg b=>(match vN P t with
  | some (true,ks)=>aq (aL ks a&&(aL ks b&&!P.eqGuardType P.depth t)) (match op with | .eql=>ok1 (.bool (bO a b)) | .neq=>ok1 (.bool (!(bO a b))) | _=>none)
  | _=>none)
 | x,y=>xF P op t k x y
def unA (op:UnOp) (x:AV):PV:=
 match op,x with
 | .neg,.int k n=>ok1 (.int k (k.wrap (0 - n)))
 | .not,.bool b=>ok1 (.bool (!b))
 | .xor,.int k n=>ok1 (.int k (k.wrap (BitVec.ofInt k.bits (if k.signed then -1 else k.max) ^^^ BitVec.ofInt k.bits n).toNat))
 | _,_=>none
def byteOf:List AV->UInt8
 | [.int .u8 n]=>UInt8.ofNat n.toNat
 | _=>0
def isByte:List AV->Bool
 | [.int .u8 _]=>true
 | _=>false
def bytesOf (n:Nat) (get:Nat->List AV):List UInt8:=(List.range n).map λj=>byteOf (get j)
def pW (n:Nat) (get:Nat->List AV):Bool:=(List.range n).all λj=>isByte (get j)
def rowOf (s:List UInt8):Nat->List AV:=λj=>[.int .u8 (s.getD j 0).toNat]
def mG (s:St):AV->Option (Nat×Nat×(Nat->List AV))
 | .sl _ sz n get=>some (sz,n,get)
 | .msl k sz off n=>
  (match s.obj k with
  | some (.arr sz' m get)=>cond (Nat.beq sz sz'&&Nat.ble (off+n) m) (some (sz,n,λj=>get (off+j))) none
  | some (.frz sz' m get)=>cond (Nat.beq sz sz'&&Nat.ble (off+n) m) (some (sz,n,λj=>get (off+j))) none
  | _=>none)
 | .gsl k sz n=>
  (match s.obj k with
  | some (.grw _ sz' m get)=>cond (Nat.beq sz sz'&&Nat.beq n m) (some (sz,n,get)) none
  | _=>none)
 | .gsub k sz n lo len=>
  (match s.obj k with
  | some (.grw _ sz' m get)=>cond (Nat.beq sz sz'&&(Nat.beq n m&&Nat.ble (lo+len) n)) (some (sz,len,λj=>get (lo+j))) none
  | _=>none)
 | _=>none
def yi (s:St):AV->Option (Bool×Nat×Nat×(Nat->List AV))
 | .gsl k sz n=>
  (match s.obj k with
  | some (.grw _ sz' m get)=>cond (Nat.beq sz sz') (some (Nat.beq n m,sz,n,get)) none
  | _=>none)
 | .gsub k sz n lo len=>
  (match s.obj k with
  | some (.grw _ sz' m get)=>cond (Nat.beq sz sz') (some (Nat.beq n m&&Nat.ble (lo+len) n,sz,len,λj=>get (lo+j))) none
  | _=>none)
 | v=>(mG s v).map λr=>(true,r)
def vF (s:St) (src dst:TypeId) (x:AV):PV:=
 match P.underlying dst,x with
 | some (.int k),.int _ n=>(match P.underlying src with | some (.int _)=>ok1 (.int k (k.wrap n)) | _=>none)
 | some .string,.str s=>(match P.underlying src with | some .string=>ok1 (.str s) | _=>none)
 | some (.slice e),.str s=>(match P.underlying e,P.underlying src with
  | some (.int .u8),some .string=>some (Nat.ble s.length 140737488355328,.sl .no 1 s.length (rowOf s))
  | _,_=>none)
 | some .string,.int _ n=>(match P.underlying src with | some (.int _)=>ok1 (.str (Utf8.encode n).data.toList) | _=>none)
 | some .string,x=>(match P.underlying src with
  | some (.slice e)=>(match P.underlying e,mG s x with
   | some (.int .u8),some (sz,n,get)=>cond (Nat.beq sz 1||Nat.beq n 0) (some (pW n get,.str (bytesOf n get))) none
   | _,_=>none)
  | _=>none)
 | _,_=>none
def roomy (bytes n:Nat):Bool:=Nat.ble (n*bytes) 140737488355328
def Hp (t:TypeId) (x:AV):PV:=
 match P.underlying t,x with
 | some (.slice _),.sl _ _ n _=>ok1 (.int .i64 n)
 | some (.slice _),.msl _ _ _ n=>ok1 (.int .i64 n)
 | some (.slice _),.gsl _ _ n=>ok1 (.int .i64 n)
 | some (.slice _),.gsub _ _ _ _ n=>ok1 (.int .i64 n)
 | some .string,.str s=>ok1 (.int .i64 s.length)
 | some (.map _ _),.nilm=>ok1 (.int .i64 0)
 | _,_=>none
def ll (t:TypeId) (f:Nat):Option Field:=
 match P.underlying t with
 | some (.struct fs)=>fs[f]?
 | _=>none
def solid (t:TypeId):Bool:=
 match aA P t with
 | some (_+1)=>true
 | _=>false
def lY (t:TypeId) (f:Nat) (x:AV):PV:=
 match ll P t f with
 | some fd=>cond (solid P fd.type) (match x with
  | .ref k off=>ok1 (.ref k (off+fd.offset))
  | .aref k sz i off=>ok1 (.aref k sz i (off+fd.offset))
  | .gref k sz n i off=>ok1 (.gref k sz n i (off+fd.offset))
  | .elt cs off=>ok1 (.elt cs (off+fd.offset))
  | _=>none) none
 | none=>none
def within (i:Int) (n:Nat):Bool:=decide (0<=i)&&decide (i < n)
def isNil {α:Type}:List α->Bool
 | []=>true
 | _=>false
def eU (s:St) (t:TypeId) (x i:AV):PV:=
 match i with
 | .int _ i=>
  (match P.underlying t,x with
  | some (.slice e),.sl _ sz n get=>aq (aA P e==some sz) (some (within i n,.elt (get i.toNat) 0))
  | some (.slice e),.msl k sz off n=>aq (aA P e==some sz) (some (within i n,.aref k sz (off+i.toNat) 0))
  | some (.slice e),.gsl k sz n=>
   (match s.obj k with
   | some (.grw _ sz' m _)=>aq (aA P e==some sz&&Nat.beq sz sz') (some (within i n&&Nat.beq n m,.gref k sz n i.toNat 0))
   | _=>none)
  | some (.slice e),.gsub k sz n lo len=>
   (match s.obj k with
   | some (.grw _ sz' m _)=>aq (aA P e==some sz&&Nat.beq sz sz') (some (within i len&&(Nat.beq n m&&Nat.ble (lo+len) n),.gref k sz n (lo+i.toNat) 0))
   | _=>none)
  | some (.array m e),.ref k 0=>
   (match s.obj k with
   | some (.arr sz n _)=>aq (Nat.beq m n&&(aA P e==some sz&&Nat.blt 1 n)) (some (within i n,.aref k sz i.toNat 0))
   | _=>none)
  | some (.array m e),.elt cs off=>(aA P e).map λsz=>(within i m,.elt cs (off+i.toNat*sz))
  | _,_=>none)
 | _=>none
def tG (x:Option AV):PV:=x.map λv=>(true,v)
def jk (sz:Nat) (g:Nat->Nat×(Nat->List AV)) (i:Nat):List AV:=[.sl .no sz (g i).1 (g i).2]
def kS (s:St) (t:TypeId) (x:AV):PV:=
 match x with
 | .elt cs off=>tG (er P t cs off)
 | .ref k off=>
  (match s.obj k with
  | some (.cells cs)=>tG (er P t cs off)
  | some (.arr sz n get)=>
   (match P.underlying t with
   | some (.array m e)=>aq (Nat.beq off 0&&(Nat.beq m n&&(aA P e==some sz&&aA P t==some (n*sz)))) (ok1 (.arr sz n get))
   | _=>none)
  | _=>none)
 | .aref k sz i off=>
  (match s.obj k with
  | some (.arr sz' n get)=>aq (Nat.beq sz sz') ((er P t (get i) off).map λv=>(Nat.blt i n,v))
  | some (.frz sz' n get)=>aq (Nat.beq sz sz') ((er P t (get i) off).map λv=>(Nat.blt i n,v))
  | some (.mat sz' n g none)=>aq (Nat.beq sz 1) ((er P t (jk sz' g i) off).map λv=>(Nat.blt i n,v))
  | _=>none)
 | .gref k sz m i off=>
  (match s.obj k with
  | some (.grw _ sz' n get)=>aq (Nat.beq sz sz') ((pd P t (get i) off).map λv=>(v.1&&(Nat.blt i n&&Nat.beq m n),v.2))
  | _=>none)
 | _=>none
def eQ:List AV->Bool
 | []=>true
 | v::r=>v.one&&eQ r
def fU (s:St) (t:TypeId) (x v:AV):Option (Bool×Nat×AO):=
 match x with
 | .ref k off=>
  (match s.obj k with
  | some (.cells cs)=>aq (eQ v.cells&&(aA P t==some v.cells.length)) ((setCells cs off v.cells).map λl=>(true,k,.cells l))
  | some (.arr sz n _)=>
   (match v with
   | .arr sz' n' get'=>aq (Nat.beq off 0&&(Nat.beq sz sz'&&(Nat.beq n n'&&aA P t==some (n*sz)))) (some (true,k,.arr sz n get'))
   | _=>none)
  | _=>none)
 | .aref k sz' i off=>
  (match s.obj k with
  | some (.arr sz n get)=>
   aq (Nat.beq sz sz'&&(eQ v.shed.cells&&(aA P t==some v.shed.cells.length&&isNil (au v.shed.cells))))
    ((setCells (get i) off v.shed.cells).map λl=>(Nat.blt i n,k,.arr sz n λj=>cond (Nat.beq j i) l (get j)))
  | _=>none)
 | .gref k sz' m i off=>
  (match s.obj k with
  | some (.grw q sz n get)=>
   aq (Nat.beq sz sz'&&(eQ v.shed.cells&&(aA P t==some v.shed.cells.length&&isNil (au v.shed.cells))))
    (aq (Nat.ble (off+v.shed.cells.length) sz) (some (Nat.ble q 1&&(Nat.blt i n&&Nat.beq m n),k,.grw q sz n λj=>cond (Nat.beq j i) (Dh (get i) off v.shed.cells) (get j))))
  | _=>none)
 | _=>none
def u4:AV->AV->Bool
 | .bool x,.bool y=>x==y
 | .int k m,.int q n=>decide (k=q)&&m==n
 | .str x,.str y=>x==y
 | .nilp,.nilp | .nilf,.nilf | .nilm,.nilm | .nili,.nili=>true
 | .sl .fit 0 0 _,.sl .fit 0 0 _=>true
 | _,_=>false
def BT:List AV->List AV->Option (List AV)
 | [],r=>some r
 | u::z,v::r=>cond (u4 u v) (BT z r) none
 | _::_,[]=>none
def gF (z:List AV):Nat->List AV->Bool
 | 0,r=>isNil r
 | n+1,r=>match BT z r with
  | some r=>gF z n r
  | none=>false
def GM (t:TypeId):Option AO:=
 match P.underlying t with
 | some (.array n e)=>(zeroCells P e).bind λz=>(zeroCells P t).bind λr=>aq (gF z n r) (some (.arr z.length n λ_=>z))
 | some _=>(zeroCells P t).map λz=>.cells z
 | _=>none
def ig (P:Program) (fs:Array Field):List AV->List (Nat×AV)->Option (List AV)
 | cs,[]=>some cs
 | cs,(i,v)::r=>
  match fs[i]? with
  | some f=>aq (eQ v.cells&&(aA P f.type==some v.cells.length)) ((setCells cs f.offset v.cells).bind λl=>ig P fs l r)
  | none=>none
def ag (z:List AV):List (Nat×AV)->Nat->List AV
 | [],_=>z
 | (i,v)::r,j=>cond (Nat.beq i j) v.cells (ag z r j)
def fG (sz len:Nat):List (Nat×AV)->Bool
 | []=>true
 | (i,v)::r=>eQ v.cells&&(isNil (au v.cells)&&(Nat.beq v.cells.length sz&&(Nat.blt i len&&fG sz len r)))
def bT:List (Nat×AV)->Bool
 | []=>true
 | (i,_)::r=>r.all (λp=>!(Nat.beq p.1 i))&&bT r
def cX (c:Ctx):List (Nat×Operand)->Option (List (Nat×AV))
 | []=>some []
 | (i,x)::r=>(aP c x).bind λv=>(cX c r).map λl=>(i,v)::l
def x0 (t:TypeId) (parts:List (Nat×AV)):PV:=
 match P.underlying t with
 | some (.struct fs)=>(zeroCells P t).bind λz=>cond (fs.toList.all λf=>(aA P f.type).isSome) ((ig P fs z parts).bind λl=>ok1 (.agg l)) none
 | some (.array n e)=>(match parts with
  | []=>(zeroCells P e).bind λz=>(zeroCells P t).bind λr=>aq (gF z n r) (ok1 (.arr z.length n λ_=>z))
  | p::ps=>(zeroCells P e).bind λz=>(zeroCells P t).bind λr=>aq (gF z n r&&(aA P e==some z.length&&(fG z.length n (cU (p::ps))&&bT (p::ps)))) (ok1 (.arr z.length n (ag z (cU (p::ps))))))
 | _=>none
def ek (t:TypeId) (len:Nat) (parts:List (Nat×AV)):PV:=
 match P.underlying t with
 | some (.slice e)=>(zeroCells P e).bind λz=>
   aq (aA P e==some z.length&&(Nat.blt 0 z.length&&(fG z.length len (cU parts)&&(bT parts&&Nat.ble (len*z.length) 16777216)))) (ok1 (.sl .fit z.length len (ag z (cU parts))))
 | _=>none
def mY (x:AV) (i:Nat):PV:=
 match x with
 | .tup vs=>tG vs[i]?
 | _=>none
def xR (t:TypeId) (f:Nat) (x:AV):PV:=
 match ll P t f,x with
 | some fd,.agg cs=>tG (er P fd.type cs fd.offset)
 | _,_=>none
def uo (t:TypeId) (x i:AV):PV:=
 match i with
 | .int _ i=>
  (match P.underlying t,x with
  | some (.array m e),.arr sz n get=>aq (Nat.beq m n&&(aA P e==some sz)) ((er P e (get i.toNat) 0).map λv=>(within i n,v))
  | some .string,.str s=>some (within i s.length,.int .u8 (s.getD i.toNat 0).toNat)
  | _,_=>none)
 | _=>none
def bound (x:Option AV) (d:Nat):Option Int:=
 match x with
 | none=>some d
 | some (.int _ n)=>some n
 | some _=>none
def wz (t:TypeId) (x:AV) (lo hi mx:Option AV):PV:=
 match mx with
 | some (.int _ m)=>
  (match P.underlying t,x,hi with
  | some (.slice e),.sl _ sz n get,some (.int _ h)=>
   (bound lo 0).bind λl=>aq (aA P e==some sz) (some (decide (0<=l)&&(decide (l<=h)&&(decide (h=m)&&decide (h<=n))),
    .sl .fit sz (h.toNat - l.toNat) λj=>get (l.toNat+j)))
  | _,_,_=>none)
 | some _=>none
 | none=>
  (match P.underlying t,x with
  | some .string,.str s=>
   (bound lo 0).bind λl=>(bound hi s.length).bind λh=>some (decide (0<=l)&&(decide (l<=h)&&decide (h<=s.length)),.str ((s.drop l.toNat).take (h.toNat - l.toNat)))
  | some (.slice e),.sl _ sz n get=>
   (bound lo 0).bind λl=>(bound hi n).bind λh=>aq (aA P e==some sz) (some (decide (0<=l)&&(decide (l<=h)&&decide (h<=n)),
    .sl .no sz (h.toNat - l.toNat) λj=>get (l.toNat+j)))
  | some (.slice e),.msl k sz off n=>
   (bound lo 0).bind λl=>(bound hi n).bind λh=>aq (aA P e==some sz) (some (decide (0<=l)&&(decide (l<=h)&&decide (h<=n)),
    .msl k sz (off+l.toNat) (h.toNat - l.toNat)))
  | some (.slice e),.gsl k sz n=>
   (bound lo 0).bind λl=>(bound hi n).bind λh=>aq (aA P e==some sz) (some (decide (0<=l)&&(decide (l<=h)&&decide (h<=n)),
    .gsub k sz n l.toNat (h.toNat - l.toNat)))
  | some (.slice e),.gsub k sz n off len=>
   (bound lo 0).bind λl=>(bound hi len).bind λh=>aq (aA P e==some sz) (some (decide (0<=l)&&(decide (l<=h)&&decide (h<=len)),
    .gsub k sz n (off+l.toNat) (h.toNat - l.toNat)))
  | _,_=>none)
def su:AV->AV->Option AV
 | .int k x,.int k' y=>aq (decide (k=k')) (some (.int k (cond (decide (y > x)) y x)))
 | .str x,.str y=>some (.str (cond (aZ x y) y x))
 | _,_=>none
def sk:AV->AV->Option AV
 | .int k x,.int k' y=>aq (decide (k=k')) (some (.int k (cond (decide (y < x)) y x)))
 | .str x,.str y=>some (.str (cond (aZ x y||x==y) x y))
 | _,_=>none
def om (f:AV->AV->Option AV):AV->List AV->Option AV
 | x,[]=>some x
 | x,y::r=>(f x y).bind λz=>om f z r
def qZ (f:AV->AV->Option AV):List AV->PV
 | []=>none
 | x::r=>tG (om f x r)
def yM (c a b:AV):PV:=
 match c,a,b with
 | .bool c,.bool x,.bool y=>ok1 (.bool (cond c x y))
 | .bool c,.undef,.bool y=>cond c none (ok1 (.bool y))
 | .bool c,.bool x,.undef=>cond c (ok1 (.bool x)) none
 | _,_,_=>none
def ar (n m:Nat) (get get2:Nat->List AV):Nat->List AV:=
 λj=>cond (Nat.blt j n) (get j) (cond (Nat.blt j (n+m)) (get2 (j - n)) (get j))
def kz (s:St) (d:Nat) (t:TypeId) (x y:AV):Option (Bool×AV×Nat×AO):=
 match P.underlying t with
 | some (.slice e)=>
  (match aA P e,zeroCells P e,P.info? e,x,mG s y with
  | some sz,some z,some inf,.sl o sz0 n get,some (sz2,m,get2)=>
   aq (Nat.blt 0 sz&&(Nat.blt 0 inf.bytes&&(Nat.beq z.length sz&&((Nat.beq sz0 sz||Nat.beq n 0)&&(Nat.beq sz2 sz||Nat.beq m 0)))))
    (match o with
    | .no | .nl | .nn=>none
    | .fit=>(match s.obj d with
     | none=>some (roomy inf.bytes (n+m),.sl (.key d) sz (n+m) (ar n m get get2),d,.own sz (n+m))
     | some _=>none)
    | .key k=>(match s.obj k with
     | some (.own sz1 fr)=>aq (Nat.beq sz1 sz) (some (roomy inf.bytes (n+m)&&Nat.beq fr n,.sl (.key k) sz (n+m) (ar n m get get2),k,.own sz (n+m)))
     | _=>none))
  | _,_,_,_,_=>none)
 | _=>none
def EW (t:TypeId):Bool:=
 match P.underlying t with
 | some .string=>true
 | _=>false
def jF (s:St) (d:Nat) (t:TypeId) (x:AV) (b:List UInt8):Option (Bool×AV×Nat×AO):=
 match P.underlying t with
 | some (.slice e)=>
  (match aA P e,zeroCells P e,P.info? e,P.underlying e,x with
  | some sz,some z,some inf,some (.int .u8),.sl o sz0 n get=>
   aq (Nat.beq sz 1&&(Nat.blt 0 inf.bytes&&(Nat.beq z.length sz&&(Nat.beq sz0 sz||Nat.beq n 0))))
    (match o with
    | .no | .nl | .nn=>none
    | .fit=>(match s.obj d with
     | none=>some (roomy inf.bytes (n+b.length),.sl (.key d) sz (n+b.length) (ar n b.length get (rowOf b)),d,.own sz (n+b.length))
     | some _=>none)
    | .key k=>(match s.obj k with
     | some (.own sz1 fr)=>aq (Nat.beq sz1 sz) (some (roomy inf.bytes (n+b.length)&&Nat.beq fr n,.sl (.key k) sz (n+b.length) (ar n b.length get (rowOf b)),k,.own sz (n+b.length)))
     | _=>none))
  | _,_,_,_,_=>none)
 | _=>none
def Bp:AV->Bool
 | .gsl ..=>true
 | _=>false
def xG:AV->Bool
 | .gsub ..=>true
 | _=>false
def ky (s:St) (d:Nat) (t:TypeId) (x y:AV):Option (Bool×AV×Nat×AO):=
 match P.underlying t with
 | some (.slice e)=>
  (match aA P e,zeroCells P e,P.info? e,mG s y with
  | some sz,some z,some inf,some (sz2,m,get2)=>
   aq (Nat.blt 0 sz&&(Nat.blt 0 inf.bytes&&(Nat.beq z.length sz&&(Nat.beq sz2 sz||Nat.beq m 0))))
    (match x with
    | .sl .fit sz0 n get=>aq ((Nat.beq sz0 sz||Nat.beq n 0)&&(cond (Nat.beq n 0) true (Nat.blt 0 m)))
     (match s.obj d with
     | none=>some (roomy inf.bytes (n+m),.gsl d sz (n+m),d,.grw 0 sz (n+m) (ar n m get get2))
     | some _=>none)
    | .gsl k sz0 n=>aq (Nat.beq sz0 sz)
     (match s.obj k with
     | some (.grw q sz1 fr get)=>aq (Nat.beq sz1 sz) (some (roomy inf.bytes (n+m)&&Nat.beq fr n,.gsl k sz (n+m),k,.grw q sz (n+m) (ar n m get get2)))
     | _=>none)
    | _=>none)
  | _,_,_,_=>none)
 | _=>none
def w0:Operand->Operand->Bool
 | .tmp a,.tmp b=>Nat.beq a b
 | .const (.int _ a),.const (.int _ b)=>a==b
 | _,_=>false
def dk (s:St) (d:Nat) (t:TypeId) (same:Bool) (l c:AV):Option (Bool×AV×Nat×AO):=
 match P.underlying t,l,c with
 | some (.slice e),.int .i64 l,.int .i64 c=>
  (match zeroCells P e,P.info? e,s.obj d with
  | some z,some inf,none=>
   aq (Nat.beq z.length inf.size&&Nat.blt 0 inf.size)
    (cond same (some (decide (l=c)&&(decide (0<=c)&&(roomy inf.bytes c.toNat&&decide (c<=140737488355328))),.msl d z.length 0 c.toNat,d,.arr z.length c.toNat λ_=>z))
     (some (decide (l=0)&&(decide (0<=c)&&(roomy inf.bytes c.toNat&&decide (c<=140737488355328))),.sl (.key d) z.length 0 (λ_=>z),d,.own z.length 0)))
  | _,_,_=>none)
 | _,_,_=>none
def Hq:KD->KD->Bool
 | .bool,.bool=>true
 | .int k,.int q=>decide (k=q)
 | .str,.str=>true
 | _,_=>false
def vm:List KD->List KD->Bool
 | [],[]=>true
 | k::r,q::l=>Hq k q&&vm r l
 | _,_=>false
def e9 (get:Nat->List AV):Nat->Nat->List AV
 | _,0=>[]
 | i,n+1=>get i++e9 get (i+1) n
def bG:AV->Bool×List AV
 | .agg cs=>(true,cs)
 | .arr 1 n get=>(true,e9 get 0 n)
 | v=>(false,[v])
def jr (kt:TypeId) (ka:Bool) (ks:List KD) (u:AV):Bool:=
 match vN P kt with
 | some (a,l)=>(a==ka)&&(vm l ks&&(((bG u).1==ka)&&aL ks (bG u).2))
 | none=>false
def uO (t:TypeId):Option AV:=((P.info? t).bind (·.zero)).bind ofValue
def fmD (g:List UInt8->Option (List UInt8)):List AV->Bool
 | [.str s]=>(g s).isSome
 | _=>false
def fmG (g:List UInt8->Option (List UInt8)):List AV->AV
 | [.str s]=>.str ((g s).getD [])
 | _=>.undef
def oh (s:St) (t:TypeId) (x i:AV):Option (Bool×AV×AV):=
 match P.underlying t,x with
 | some (.map kt et),.mref k=>(uO P et).bind λz=>(match s.obj k with
  | some (.mp ka ks dom get)=>aq (jr P kt ka ks i) (some (dom (bG i).2,get (bG i).2,z))
  | _=>none)
 | some (.map kt et),.fms g=>(uO P et).bind λz=>aq (jr P kt false [.str] i) (some (fmD g (bG i).2,fmG g (bG i).2,z))
 | _,_=>none
def og (ok b:Bool) (v:AV):AV:=cond ok (.tup [v,.bool b]) v
def iB (s:St) (t:TypeId) (x i v:AV):Option (Nat×AO):=
 match P.underlying t,x with
 | some (.map kt _),.mref k=>(match s.obj k with
  | some (.mp ka ks dom get)=>aq (jr P kt ka ks i&&isNil v.shed.keys) (some (k,.mp ka ks (λl=>cond (bO l (bG i).2) true (dom l)) λl=>cond (bO l (bG i).2) v.shed (get l)))
  | _=>none)
 | _,_=>none
def jl (s:St) (t:TypeId) (x i:AV):Option (Nat×AO):=
 match P.underlying t,x with
 | some (.map kt _),.mref k=>(match s.obj k with
  | some (.mp ka ks dom get)=>aq (jr P kt ka ks i) (some (k,.mp ka ks (λl=>cond (bO l (bG i).2) false (dom l)) get))
  | _=>none)
 | _,_=>none
def nF (objs:List (Nat×AO)) (d:Nat):Option Nat:=
 match alook objs d with
 | none=>some d
 | some _=>(match alook objs (d+500000) with
  | none=>some (d+500000)
  | some _=>none)
def pc:List (Nat×AO)->List (Nat×AO)->List (Nat×AO)
 | objs,[]=>objs
 | objs,(k,o)::r=>pc (aput objs k o) r
def jG (s:St) (d:Nat) (t:TypeId) (x y:AV):Option (Bool×AV×List (Nat×AO)):=
 match P.underlying t,x with
 | some (.slice e),.gsub k sz0 n 0 h=>
  (match aA P e,zeroCells P e,P.info? e,yi s y,s.obj k,nF s.objs d with
  | some sz,some z,some inf,some (g,sz2,m,get2),some (.grw q sz1 n1 get),some K=>
   aq (Nat.blt 0 sz&&(Nat.blt 0 inf.bytes&&(Nat.beq z.length sz&&((Nat.beq sz2 sz||Nat.beq m 0)&&(Nat.beq sz0 sz&&Nat.beq sz1 sz)))))
    (some (g&&(zS q h&&(roomy inf.bytes (h+m)&&(Nat.beq n n1&&Nat.ble h n))),.gsl K sz (h+m),[(k,.gone),(K,.grw q sz (h+m) (ar h m get get2))]))
  | _,_,_,_,_,_=>none)
 | _,_=>none
def qp (t:TypeId):Bool:=
 match P.underlying t with
 | some (.slice _)=>true
 | _=>false
def vn (s:St):AV->Bool
 | .aref k _ _ _=>(match s.obj k with
  | some (.mat ..)=>true
  | _=>false)
 | _=>false
def p9 (s:St) (d:Nat) (t:TypeId) (x:AV):Option (Bool×AV×List (Nat×AO)):=
 match x with
 | .aref k sz1 i off=>(match s.obj k,s.obj d with
  | some (.mat sz n g none),none=>cond (qp P t&&(Nat.beq sz1 1&&Nat.beq off 0)) (some (Nat.blt i n,.sl (.key d) sz (g i).1 (g i).2,[(k,.mat sz n g (some i)),(d,.own sz (g i).1)])) none
  | _,_=>none)
 | _=>none
def qV (s:St) (t:TypeId) (x v:AV):Option (Bool×List (Nat×AO)):=
 match x,v with
 | .aref k sz1 i off,.sl (.key d) sz m row=>(match s.obj k,s.obj d with
  | some (.mat sz' n g (some j)),some (.own sz2 m2)=>cond (aA P t==some 1&&(Nat.beq sz1 1&&(Nat.beq off 0&&(Nat.beq sz sz'&&Nat.beq sz2 sz'))))
    (some (Nat.blt i n&&(Nat.beq i j&&Nat.beq m m2),[(d,.gone),(k,.mat sz' n (λq=>cond (Nat.beq q i) (m,row) (g q)) none)])) none
  | _,_=>none)
 | _,_=>none
def gw (s:St) (d:Nat) (t:TypeId) (same:Bool) (l c:AV):Option (Bool×AV×Nat×AO):=
 match P.underlying t with
 | some (.slice e)=>(match P.underlying e with
  | some (.slice e2)=>(match aA P e2,zeroCells P e2,zeroCells P e with
   | some sz,some z,some [.sl .fit _ 0 _]=>cond (same&&Nat.blt 0 sz) ((dk P s d t true l c).bind λr=>match r.2.2.2 with
     | .arr 1 n _=>some (r.1,r.2.1,r.2.2.1,.mat sz n (λ_=>(0,λ_=>z)) none)
     | _=>none) none
   | _,_,_=>none)
  | _=>none)
 | _=>none
end
abbrev pZ:=FuncId->List AV->List AO->Option (AV×List AO)
def ae:Nat:=1000000
structure CallP where
 ja:FuncId->List AV->List AO->((AV×List AO)->Option (AV×List AO))->Option (AV×List AO)
 nat:∀f l os k,ja f l os k=(ja f l os some).bind k
def CallP.call (c:CallP):pZ:=λf l os=>c.ja f l os some
structure Hint where
 keep:List Nat:=[]
 objs:List Nat:=[]
 promote:List (Nat×Nat×TypeId):=[]
 promoteCell:List (Nat×Nat×Nat×TypeId):=[]
inductive Ex where
 | nor
 | exit (id:Nat)
 | ret
structure Cfg where
 P:Program
 G:Nat->Option (List AV):=λ_=>none
 cp:CallP
 byRef:FuncId->Bool:=λ_=>false
 hint:FuncId->Nat->Hint:=λ_ _=>{}
 pre:FuncId->List AV->List AO->Bool:=λ_ _ _=>true
 trim:FuncId->List Nat->Option Hint:=λ_ _=>none
 cutO:FuncId->List Nat->Option (St->(Ex->St->Option (AV×List AO))->Option (AV×List AO)):=λ_ _=>none
 viewO:FuncId->List Nat->Option (St->(St->Option (AV×List AO))->Option (AV×List AO)):=λ_ _=>none
 grow:Oper->Bool:=λ_=>false
 brk:Oper->Bool:=λ_=>false
 lend:Oper->Bool:=λ_=>false
 born:Oper->Bool:=λ_=>false
 loopO:FuncId->List Nat->Option (St->(Ex->St->Option (AV×List AO))->Option (AV×List AO)):=λ_ _=>none
 rngO:FuncId->List Nat->Option (St->(Ex->St->Option (AV×List AO))->Option (AV×List AO)):=λ_ _=>none
def Cfg.call (X:Cfg):pZ:=X.cp.call
def cg (objs:List (Nat×AO)):AV->Option (AV×List (Nat×AO))
 | .msl k sz off n=>
  (match alook objs k with
  | some (.arr sz' m get)=>aq (Nat.beq sz sz'&&Nat.ble (off+n) m) (some (.sl .no sz n λj=>get (off+j),aput objs k (.frz sz' m get)))
  | some (.frz sz' m get)=>aq (Nat.beq sz sz'&&Nat.ble (off+n) m) (some (.sl .no sz n λj=>get (off+j),objs))
  | _=>none)
 | .gsl k sz n=>
  (match alook objs k with
  | some (.grw q sz' m get)=>aq (Nat.beq sz sz'&&Nat.beq n m) (some (.sl .no sz n get,aput objs k (uu q sz n get)))
  | _=>none)
 | v=>some (v,objs)
def cC (objs:List (Nat×AO)):List AV->Option (List AV×List (Nat×AO))
 | []=>some ([],objs)
 | v::r=>(cg objs v).bind λa=>(cC a.2 r).bind λb=>some (a.1::b.1,b.2)
def dE (objs:List (Nat×AO)):AV->Option (AV×List (Nat×AO))
 | .agg cs=>(cC objs cs).map λa=>(.agg a.1,a.2)
 | v=>cg objs v
def bK (objs:List (Nat×AO)):List AV->Option (List AV×List (Nat×AO))
 | []=>some ([],objs)
 | v::r=>(dE objs v).bind λa=>(bK a.2 r).bind λb=>some (a.1::b.1,b.2)
def lj {β:Type} (objs:List (Nat×AO)) (v:AV) (k:AV×List (Nat×AO)->Option β):Option β:=
 match v with
 | .msl q sz off n=>
  (match alook objs q with
  | some (.arr sz' m get)=>cond (Nat.beq sz sz'&&Nat.ble (off+n) m) (k (.sl .no sz n λj=>get (off+j),aput objs q (.frz sz' m get))) none
  | some (.frz sz' m get)=>cond (Nat.beq sz sz'&&Nat.ble (off+n) m) (k (.sl .no sz n λj=>get (off+j),objs)) none
  | _=>none)
 | .gsl q sz n=>
  (match alook objs q with
  | some (.grw g sz' m get)=>cond (Nat.beq sz sz'&&Nat.beq n m) (k (.sl .no sz n get,aput objs q (uu g sz n get))) none
  | _=>none)
 | v=>k (v,objs)
def mV {β:Type} (objs:List (Nat×AO)):List AV->(List AV×List (Nat×AO)->Option β)->Option β
 | [],k=>k ([],objs)
 | v::r,k=>lj objs v λa=>mV a.2 r λb=>k (a.1::b.1,b.2)
def mU {β:Type} (objs:List (Nat×AO)) (v:AV) (k:AV×List (Nat×AO)->Option β):Option β:=
 match v with
 | .agg cs=>mV objs cs λa=>k (.agg a.1,a.2)
 | v=>lj objs v k
def gX {β:Type} (objs:List (Nat×AO)):List AV->(List AV×List (Nat×AO)->Option β)->Option β
 | [],k=>k ([],objs)
 | v::r,k=>mU objs v λa=>gX a.2 r λb=>k (a.1::b.1,b.2)
def mW {β:Type} (b:Bool) (objs:List (Nat×AO)) (args:List AV) (k:List AV×List (Nat×AO)->Option β):Option β:=cond b (k (args,objs)) (gX objs args k)
mutual
def AV.ren (m:Nat->Nat):AV->AV
 | .sl (.key k) sz n get=>.sl (.key (m k)) sz n get
 | .agg cs=>.agg (lC m cs)
 | .tup vs=>.tup (lC m vs)
 | .ref k off=>.ref (m k) off
 | .aref k sz i off=>.aref (m k) sz i off
 | .msl k sz off n=>.msl (m k) sz off n
 | .gsl k sz n=>.gsl (m k) sz n
 | .gref k sz n i off=>.gref (m k) sz n i off
 | .gsub k sz n lo len=>.gsub (m k) sz n lo len
 | .mref k=>.mref (m k)
 | .fn f a b=>.fn f (lC m a) (lC m b)
 | .grd t w v=>.grd t w (v.ren m)
 | v=>v
def lC (m:Nat->Nat):List AV->List AV
 | []=>[]
 | v::r=>v.ren m::lC m r
end
def AO.ren (m:Nat->Nat):AO->AO
 | .cells cs=>.cells (lC m cs)
 | o=>o
def AO.keys:AO->List Nat
 | .cells cs=>au cs
 | _=>[]
def dJ:List Nat->List Nat->List Nat
 | acc,[]=>acc
 | acc,k::r=>dJ (cond (acc.any (Nat.beq k)) acc (acc++[k])) r
def bM (objs:List (Nat×AO)):List Nat->List Nat
 | []=>[]
 | k::r=>((alook objs k).map AO.keys).getD []++bM objs r
def bp (objs:List (Nat×AO)) (ks:List Nat):List Nat:=
 let a:=dJ [] ks
 let b:=dJ a (bM objs a)
 dJ b (bM objs b)
def kB:List Nat->List Nat->Bool
 | [],_=>true
 | k::r,l=>l.any (Nat.beq k)&&kB r l
def idxOf:List Nat->Nat->Nat->Nat
 | [],_,d=>d
 | k::r,i,d=>cond (Nat.beq k i) 0 (idxOf r i d+1)
def eP:List Nat->Nat->Nat
 | [],_=>0
 | k::_,0=>k
 | _::r,i+1=>eP r i
def cG (objs:List (Nat×AO)):List Nat->Option (List AO)
 | []=>some []
 | k::r=>(alook objs k).bind λo=>(cG objs r).map λl=>o::l
def bJ:List (Nat×AO)->List Nat->List AO->List (Nat×AO)
 | objs,k::r,o::l=>bJ (aput objs k o) r l
 | objs,_,_=>objs
def jy (X:Cfg) (objs:List (Nat×AO)) (f:FuncId) (args:List AV):Option (Bool×AV×List (Nat×AO)):=
 (cond (X.byRef f) (some (args,objs)) (bK objs args)).bind λa=>
  let vs:=bS a.1
  let ks:=bp a.2 (au vs)
  cond (kB (bM a.2 ks) ks)
   ((cG a.2 ks).bind λos=>
    let fwd:=λk=>ae+idxOf ks k 0
    let bwd:=λk=>eP ks (k - ae)
    (X.call f (lC fwd vs) (os.map (AO.ren fwd))).bind λr=>
     cond (Nat.beq r.2.length ks.length)
      (some (X.pre f (lC fwd vs) (os.map (AO.ren fwd)),r.1.ren bwd,bJ a.2 ks (r.2.map (AO.ren bwd)))) none)
   none
def tb (X:Cfg) (objs:List (Nat×AO)) (f:FuncId) (args:List AV) (k:Bool->AV->List (Nat×AO)->Option (AV×List AO)):Option (AV×List AO):=
 mW (X.byRef f) objs args λa=>
  let vs:=bS a.1
  let ks:=bp a.2 (au vs)
  cond (kB (bM a.2 ks) ks)
   ((cG a.2 ks).bind λos=>
    let fwd:=λk=>ae+idxOf ks k 0
    let bwd:=λk=>eP ks (k - ae)
    X.cp.ja f (lC fwd vs) (os.map (AO.ren fwd)) λr=>
     cond (Nat.beq r.2.length ks.length)
      (k (X.pre f (lC fwd vs) (os.map (AO.ren fwd))) (r.1.ren bwd) (bJ a.2 ks (r.2.map (AO.ren bwd)))) none)
   none
def wV:AV->Bool
 | .bool _ | .int .. | .str _=>true
 | _=>false
def nQ (X:Cfg) (objs:List (Nat×AO)) (f:FuncId) (args:List AV):Option (Bool×AV×List (Nat×AO)):=
 (bK objs args).bind λa=>cond (isNil (au (bS a.1)))
  ((X.call f (bS a.1) []).bind λr=>cond (wV r.1&&Nat.beq r.2.length 0) (some (X.pre f (bS a.1) [],r.1,objs)) none)
  none
def s9 (X:Cfg) (objs:List (Nat×AO)) (f:FuncId) (args:List AV) (k:Bool->AV->List (Nat×AO)->Option (AV×List AO)):Option (AV×List AO):=
 gX objs args λa=>cond (isNil (au (bS a.1)))
  (X.cp.ja f (bS a.1) [] λr=>cond (wV r.1&&Nat.beq r.2.length 0) (k (X.pre f (bS a.1) []) r.1 objs) none)
  none
def dn (d:Nat):Nat->Nat->List Nat
 | _,0=>[]
 | i,m+1=>(d+100000*i)::dn d (i+1) m
def dW (objs:List (Nat×AO)):List Nat->Bool
 | []=>true
 | k::r=>(match alook objs k with | some _=>false | none=>dW objs r)
def l5 (X:Cfg) (dst:Option Nat) (objs:List (Nat×AO)) (f:FuncId) (args:List AV):Option (Bool×AV×List (Nat×AO)):=
 (cond (X.byRef f) (some (args,objs)) (bK objs args)).bind λa=>
  let vs:=bS a.1
  let ks:=bp a.2 (au vs)
  cond (kB (bM a.2 ks) ks)
   ((cG a.2 ks).bind λos=>
    let fwd:=λk=>ae+idxOf ks k 0
    let bwd:=λk=>eP ks (k - ae)
    (X.call f (lC fwd vs) (os.map (AO.ren fwd))).bind λr=>
     cond (Nat.beq r.2.length ks.length)
      (some (X.pre f (lC fwd vs) (os.map (AO.ren fwd)),r.1.ren bwd,bJ a.2 ks (r.2.map (AO.ren bwd))))
      (match dst with
      | none=>none
      | some d=>cond (Nat.blt ks.length r.2.length&&dW a.2 (dn d 0 (r.2.length - ks.length)))
        (some (X.pre f (lC fwd vs) (os.map (AO.ren fwd)),r.1.ren (λk=>eP (ks++dn d 0 (r.2.length - ks.length)) (k - ae)),bJ a.2 (ks++dn d 0 (r.2.length - ks.length)) (r.2.map (AO.ren λk=>eP (ks++dn d 0 (r.2.length - ks.length)) (k - ae))))) none))
   none
def ta (X:Cfg) (dst:Option Nat) (objs:List (Nat×AO)) (f:FuncId) (args:List AV) (k:Bool->AV->List (Nat×AO)->Option (AV×List AO)):Option (AV×List AO):=
 mW (X.byRef f) objs args λa=>
  let vs:=bS a.1
  let ks:=bp a.2 (au vs)
  cond (kB (bM a.2 ks) ks)
   ((cG a.2 ks).bind λos=>
    let fwd:=λk=>ae+idxOf ks k 0
    let bwd:=λk=>eP ks (k - ae)
    X.cp.ja f (lC fwd vs) (os.map (AO.ren fwd)) λr=>
     cond (Nat.beq r.2.length ks.length)
      (k (X.pre f (lC fwd vs) (os.map (AO.ren fwd))) (r.1.ren bwd) (bJ a.2 ks (r.2.map (AO.ren bwd))))
      (match dst with
      | none=>none
      | some d=>cond (Nat.blt ks.length r.2.length&&dW a.2 (dn d 0 (r.2.length - ks.length)))
        (k (X.pre f (lC fwd vs) (os.map (AO.ren fwd))) (r.1.ren (λk=>eP (ks++dn d 0 (r.2.length - ks.length)) (k - ae))) (bJ a.2 (ks++dn d 0 (r.2.length - ks.length)) (r.2.map (AO.ren λk=>eP (ks++dn d 0 (r.2.length - ks.length)) (k - ae))))) none))
   none
def dF (x:Ctx) (c:Call):Option (FuncId×List AV):=
 match c.callee with
 | .value f=>(aP x f).bind λfv=>(cY x c.args.toList).bind λvs=>
   (match fv with
   | .fn f first caps=>some (f,first++vs++caps)
   | _=>none)
 | _=>none
def E0 (x:AV):PV:=
 match x with
 | .ref .. | .aref .. | .elt .. | .gref .. | .fn ..=>ok1 x
 | _=>none
def kR (P:Program) (f:Bool) (t:TypeId) (l c:AV):PV:=
 match P.underlying t,l,c with
 | some (.slice e),.int .i64 l,.int .i64 c=>
  (match zeroCells P e,P.info? e with
  | some z,some inf=>aq (Nat.beq z.length inf.size&&Nat.blt 0 inf.size) (some (decide (l=c)&&(decide (0<=c)&&(roomy inf.bytes c.toNat&&decide (c<=140737488355328))),.sl (cond f .fit .no) z.length c.toNat λ_=>z))
  | _,_=>none)
 | _,_,_=>none
def Aa:Operand->Bool
 | .const (.slice none 0 0)=>true
 | .const (.map none)=>true
 | _=>false
def GL (P:Program) (op:BinOp) (t:TypeId) (x:AV) (y:Operand):PV:=
 match P.underlying t,x,y with
 | some (.slice _),.sl .nl _ _ _,.const (.slice none 0 0)=>(match op with | .eql=>ok1 (.bool true) | .neq=>ok1 (.bool false) | _=>none)
 | some (.slice _),.sl .nn _ _ _,.const (.slice none 0 0)=>(match op with | .eql=>ok1 (.bool false) | .neq=>ok1 (.bool true) | _=>none)
 | some (.slice _),.sl _ _ n _,.const (.slice none 0 0)=>(match op with | .eql=>some (Nat.blt 0 n,.bool false) | .neq=>some (Nat.blt 0 n,.bool true) | _=>none)
 | some (.map _ _),.mref _,.const (.map none)=>(match op with | .eql=>ok1 (.bool false) | .neq=>ok1 (.bool true) | _=>none)
 | some (.map _ _),.fms _,.const (.map none)=>(match op with | .eql=>ok1 (.bool false) | .neq=>ok1 (.bool true) | _=>none)
 | some (.map _ _),.nilm,.const (.map none)=>(match op with | .eql=>ok1 (.bool true) | .neq=>ok1 (.bool false) | _=>none)
 | _,_,_=>none
def bW (P:Program) (c:Ctx) (op:Op):PV:=
 match op with
 | .move x | .assign x=>tG (aP c x)
 | .pick q a b=>(match q with
   | .tmp t=>(aP c q).bind λq=>(aP {c with ch:=(t,true)::c.ch} a).bind λa=>(aP {c with ch:=(t,false)::c.ch} b).bind λb=>yM q a b
   | _=>none)
 | .build t ps=>(cX c ps.toList).bind λl=>x0 P t l
 | .buildSlice t n ps=>(cX c ps.toList).bind λl=>ek P t n l
 | .makeSlice t x y=>(aP c x).bind λx=>(aP c y).bind λy=>kR P false t x y
 | .load t x=>(aP c x).bind λx=>kS P c.s t x
 | .nilCheck x=>(aP c x).bind λx=>E0 x
 | .binOp op t x y _=>cond (Aa y) ((aP c x).bind λv=>GL P op t v y) ((aP c x).bind λv=>(aP c y).bind λw=>Cl P op t (isConst x||isConst y) v w)
 | .unOp op _ x=>(aP c x).bind λx=>unA op x
 | .convert a b x=>(aP c x).bind λx=>vF P c.s a b x
 | .makeFunc (.func f) a b=>(cY c a.toList).bind λa=>(cY c b.toList).bind λb=>ok1 (.fn f a b)
 | .slice t x l h m=>
   (aP c x).bind λx=>(evalM c l).bind λl=>(evalM c h).bind λh=>(evalM c m).bind λm=>wz P t x l h m
 | .fieldAddr t x f=>(aP c x).bind λx=>lY P t f x
 | .field t x f=>(aP c x).bind λx=>xR P t f x
 | .indexAddr t x i=>(aP c x).bind λx=>(aP c i).bind λi=>eU P c.s t x i
 | .index t x i=>(aP c x).bind λx=>(aP c i).bind λi=>uo P t x i
 | .extract x i=>(aP c x).bind λx=>mY x i
 | .call {callee:=.builtin .len,args,argTypes}=>(cY c args.toList).bind λl=>(match l,argTypes.toList with | [x],[t]=>Hp P t x | _,_=>none)
 | .call {callee:=.builtin .max,args,..}=>(cY c args.toList).bind λl=>qZ su l
 | .call {callee:=.builtin .min,args,..}=>(cY c args.toList).bind λl=>qZ sk l
 | _=>none
 where evalM (c:Ctx):Option Operand->Option (Option AV)
 | none=>some none
 | some x=>(aP c x).map some
abbrev Res:=Option (AV×List AO)
def yQ (b:List UInt8) (pos:Nat):AV:=.tup [.bool true,.int .i64 pos,.int .i32 (Utf8.decode ⟨b.toArray⟩ pos).1]
def jW (b:List UInt8) (pos:Nat):Nat:=pos+(Utf8.decode ⟨b.toArray⟩ pos).2
def ey (X:Cfg) (s:St) (o:Oper):Option (Bool×AV×List (Nat×AO)):=
 let c:Ctx:=⟨s,X.G,[]⟩
 match o.op with
 | .alloc t=>(match o.dst with
   | some d=>(match s.obj d with
    | none=>(GM X.P t).map λob=>(true,.ref d 0,aput s.objs d ob)
    | some _=>none)
   | none=>none)
 | .box t x=>(match o.dst with
   | some d=>(match s.obj d with
    | none=>(aP c x).bind λv=>
      (match v with
      | .arr sz n get=>aq (aA X.P t==some (n*sz)) (some (true,.ref d 0,aput s.objs d (.arr sz n get)))
      | _=>aq (eQ v.cells&&(aA X.P t==some v.cells.length)) (some (true,.ref d 0,aput s.objs d (.cells v.cells))))
    | some _=>none)
   | none=>none)
 | .store t x v=>(aP c x).bind λx=>(aP c v).bind λv=>cond (vn s x) ((qV X.P s t x v).map λr=>(r.1,.undef,pc s.objs r.2)) ((fU X.P s t x v).map λr=>(r.1,.undef,aput s.objs r.2.1 r.2.2))
 | .makeSlice t l n=>(match o.dst with
   | some d=>(aP c l).bind λu=>(aP c n).bind λv=>(cond (X.lend o) (gw X.P s d t (w0 l n) u v) (dk X.P s d t (w0 l n) u v)).map λr=>(r.1,r.2.1,aput s.objs r.2.2.1 r.2.2.2)
   | none=>none)
 | .load t x=>cond (X.grow o) (match o.dst with
   | some d=>(aP c x).bind λx=>(p9 X.P s d t x).map λr=>(r.1,r.2.1,pc s.objs r.2.2)
   | none=>none) ((bW X.P c (.load t x)).map λr=>(r.1,r.2,s.objs))
 | .range t x=>(match o.dst with
   | some d=>(match s.obj d with
    | none=>(aP c x).bind λv=>(match X.P.underlying t,v with
     | some .string,.str b=>some (true,.ref d 0,aput s.objs d (.iter b 0))
     | _,_=>none)
    | some _=>none)
   | none=>none)
 | .next it isS=>(aP c it).bind λv=>(match v,isS with
   | .ref k 0,true=>(match s.obj k with
    | some (.iter b pos)=>some (true,cond (Nat.blt pos b.length) (yQ b pos) (.tup [.bool false]),aput s.objs k (.iter b (cond (Nat.blt pos b.length) (jW b pos) pos)))
    | _=>none)
   | _,_=>none)
 | .makeMap t none=>(match o.dst with
   | some d=>(match s.obj d with
    | none=>(match X.P.underlying t with
     | some (.map kt et)=>(uO X.P et).bind λz=>(vN X.P kt).map λq=>(true,.mref d,aput s.objs d (.mp q.1 q.2 (λ_=>false) λ_=>z))
     | _=>none)
    | some _=>none)
   | none=>none)
 | .lookup t x i ok=>(aP c x).bind λx=>(aP c i).bind λi=>(oh X.P s t x i).map λr=>(true,cond r.1 (og ok true r.2.1) (og ok false r.2.2),s.objs)
 | .mapUpdate t x i v=>(aP c x).bind λx=>(aP c i).bind λi=>(aP c v).bind λv=>(iB X.P s t x i v).map λr=>(true,.undef,aput s.objs r.1 r.2)
 | .insert t x i v=>(aP c x).bind λx=>(aP c i).bind λi=>(aP c v).bind λv=>(iB X.P s t x i v).map λr=>(true,.undef,aput s.objs r.1 r.2)
 | .call {callee:=.builtin .append,args,argTypes}=>(match o.dst,argTypes.toList with
   | some d,[t,t']=>aq (Nat.beq t t'||EW X.P t') ((cY c args.toList).bind λl=>(match l with
     | [x,.str b]=>aq (EW X.P t') ((jF X.P s d t x b).map λr=>(r.1,r.2.1,aput s.objs r.2.2.1 r.2.2.2))
     | [x,y]=>aq (Nat.beq t t') (cond (xG x) ((jG X.P s d t x y).map λr=>(r.1,r.2.1,pc s.objs r.2.2)) ((cond (Bp x||X.grow o) (ky X.P s d t x y) (kz X.P s d t x y)).map λr=>(r.1,r.2.1,aput s.objs r.2.2.1 r.2.2.2)))
     | _=>none))
   | _,_=>none)
 | .call {callee:=.builtin .delete,args,argTypes}=>(match argTypes.toList with
   | [t,_]=>(cY c args.toList).bind λl=>(match l with
     | [x,i]=>(jl X.P s t x i).map λr=>(true,.tup [],aput s.objs r.1 r.2)
     | _=>none)
   | _=>none)
 | .call {callee:=.value f,args,argTypes}=>(dF c {callee:=.value f,args,argTypes}).bind λq=>
   jy X s.objs q.1 q.2
 | op=>(bW X.P c op).map λr=>(r.1,r.2,s.objs)
def St.after (s:St) (d:Option Nat) (v:AV) (objs:List (Nat×AO)):St:=St.put {env:=s.env,objs:=objs} d v
def ql (X:Cfg) (s:St) (o:Oper) (k:St->Res):Res:=
 match o.op with
 | .call {callee:=.value f,args,argTypes}=>(dF ⟨s,X.G,[]⟩ {callee:=.value f,args,argTypes}).bind λq=>
   tb X s.objs q.1 q.2 λb v objs=>aq b (k (s.after o.dst v objs))
 | .next it isS=>(aP ⟨s,X.G,[]⟩ it).bind λv=>(match v,isS with
   | .ref q 0,true=>(match s.obj q with
    | some (.iter b pos)=>cond (Nat.blt pos b.length) (k (s.after o.dst (yQ b pos) (aput s.objs q (.iter b (jW b pos))))) (k (s.after o.dst (.tup [.bool false]) (aput s.objs q (.iter b pos))))
    | _=>none)
   | _,_=>none)
 | .lookup t x i ok=>(aP ⟨s,X.G,[]⟩ x).bind λx=>(aP ⟨s,X.G,[]⟩ i).bind λi=>(oh X.P s t x i).bind λr=>
   cond r.1 (k (s.after o.dst (og ok true r.2.1) s.objs)) (k (s.after o.dst (og ok false r.2.2) s.objs))
 | _=>(ey X s o).bind λr=>aq r.1 (k (s.after o.dst r.2.1 r.2.2))
def vu (v:AV) (K:AV->Res):Res:=
 match v with
 | .int kd i=>cond (decide (i=0)) (K (.int kd 0)) (cond (decide (i=1)) (K (.int kd 1)) none)
 | v=>K v
def uU (X:Cfg) (s:St) (o:Oper) (k:St->Res):Res:=
 match o.op with
 | .binOp .rem _ _ _ _=>cond (X.brk o) ((ey X s o).bind λr=>aq r.1 (vu r.2.1 λv=>k (s.after o.dst v r.2.2))) (ql X s o k)
 | _=>ql X s o k
def isX:Op->Bool
 | .buildSlice ..=>true
 | .makeSlice ..=>true
 | _=>false
def Ck (X:Cfg) (s:St) (o:Oper):Option (Bool×AV×List (Nat×AO)):=
 match o.op with
 | .buildSlice t n ps=>cond (X.grow o)
   (match o.dst with
   | some d=>(match s.obj d with
    | none=>(cX ⟨s,X.G,[]⟩ ps.toList).bind λl=>(match ek X.P t n l with
     | some (b,.sl .fit sz m get)=>aq (Nat.blt 0 sz) (some (b,.gsl d sz m,aput s.objs d (.grw 0 sz m get)))
     | _=>none)
    | some _=>none)
   | none=>none)
   (ey X s o)
 | .makeSlice t l n=>cond (X.grow o)
   ((aP ⟨s,X.G,[]⟩ l).bind λu=>(aP ⟨s,X.G,[]⟩ n).bind λv=>(kR X.P true t u v).map λr=>(r.1,r.2,s.objs))
   (ey X s o)
 | _=>none
def BS (X:Cfg) (s:St) (o:Oper):Option (Bool×AV×List (Nat×AO)):=
 match o.op with
 | .call {callee:=.value f,args,argTypes}=>(dF ⟨s,X.G,[]⟩ {callee:=.value f,args,argTypes}).bind λq=>
   cond (X.lend o) (nQ X s.objs q.1 q.2) (l5 X o.dst s.objs q.1 q.2)
 | _=>cond (isX o.op) (Ck X s o) (ey X s o)
def oW (X:Cfg) (s:St) (o:Oper) (k:St->Res):Res:=
 match o.op with
 | .call {callee:=.value f,args,argTypes}=>(dF ⟨s,X.G,[]⟩ {callee:=.value f,args,argTypes}).bind λq=>
   cond (X.lend o) (s9 X s.objs q.1 q.2 λb v objs=>aq b (k (s.after o.dst v objs))) (ta X o.dst s.objs q.1 q.2 λb v objs=>aq b (k (s.after o.dst v objs)))
 | _=>cond (isX o.op) ((Ck X s o).bind λr=>aq r.1 (k (s.after o.dst r.2.1 r.2.2))) (ql X s o k)
def b9 (s:St):Nat->Nat->Bool->fw
 | 0,t,w=>[(t,w)]
 | n+1,t,w=>(t,w)::(match s.get t with
  | some (.grd t' w' _)=>b9 s n t' w'
  | _=>[])
def gW (s:St):fw->Option Bool
 | []=>some true
 | (t,w)::r=>(match s.get t with
  | some (.bool b)=>(gW s r).map λg=>cond (b==w) g false
  | some (.grd _ _ (.bool b))=>(gW s r).map λg=>cond (b==w) g false
  | _=>none)
def p3:List (Nat×AO)->List Nat
 | []=>[]
 | (k,_)::r=>k::p3 r
def oJ (X:Cfg) (s:St) (o:Oper) (t:Nat) (w:Bool):PV:=
 let ch:=b9 s 4 t w
 let c:Ctx:=⟨s,X.G,ch⟩
 match o.op with
 | .call {callee:=.value f,args,argTypes}=>(dF c {callee:=.value f,args,argTypes}).bind λq=>
   aq (isNil (au q.2)) ((X.call q.1 q.2 []).bind λr=>(match r with
    | (v,[])=>aq (isNil v.keys&&!v.cA) (some (X.pre q.1 q.2 [],v))
    | _=>none))
 | op=>(gW s ch).bind λg=>(bW X.P c op).bind λr=>aq (kB r.2.keys (p3 s.objs)) (some (cond r.1 true (!g),r.2))
def stepG (X:Cfg) (s:St) (o:Oper) (t:Nat) (w:Bool) (k:St->Res):Res:=
 match o.dst with
 | none=>none
 | some d=>cond (Nat.beq d t) none (match o.op with
  | .call {callee:=.value f,args,argTypes}=>(dF ⟨s,X.G,b9 s 4 t w⟩ {callee:=.value f,args,argTypes}).bind λq=>
    aq (isNil (au q.2)) (X.cp.ja q.1 q.2 [] λr=>(match r with
     | (v,[])=>aq (isNil v.keys&&!v.cA) (aq (X.pre q.1 q.2 []) (k (s.put (some d) (.grd t w v))))
     | _=>none))
  | _=>(oJ X s o t w).bind λr=>aq r.1 (k (s.put (some d) (.grd t w r.2))))
def uW (X:Cfg) (s:St) (o:Oper) (t:Nat) (w:Bool) (k:St->Res):Res:=
 match s.get t with
 | some (.bool b)=>cond w (cond b (oW X (s.put (some t) (.bool true)) o k) (k ((s.put (some t) (.bool false)).put o.dst .undef)))
   (cond b (k ((s.put (some t) (.bool true)).put o.dst .undef)) (oW X (s.put (some t) (.bool false)) o k))
 | _=>none
def purge:List (Nat×AV)->List (Nat×AV)
 | []=>[]
 | (t,v)::r=>(t,cond v.cA .undef v)::purge r
def gD:List Oper->Bool
 | []=>false
 | o::r=>(match o.guard with | some _=>true | none=>gD r)
def fE (X:Cfg) (ops:Array Oper):List Oper->St->(St->Res)->Res
 | [],s,k=>k s
 | o::r,s,k=>
  match o.guard with
  | none=>oW X s o (λs'=>fE X ops r s' k)
  | some (j,want)=>(match (ops[j]?).bind (·.dst) with
   | some t=>cond (r.any λq=>q.dst==some t) none (cond (X.brk o) (uW X s o t want (λs'=>fE X ops r s' k)) (stepG X s o t want (λs'=>fE X ops r s' k)))
   | none=>none)
def gZ:List Oper->List Nat->Bool
 | [],_=>true
 | o::r,seen=>(match o.dst with
  | some d=>!(seen.any (Nat.beq d))&&gZ r (d::seen)
  | none=>gZ r seen)
structure Fp where
 i:Nat
 dst:List Nat
 tmps:List Nat
 rd:List Nat
 wr:List Nat
 all:Bool
def vD (a b:List Nat):Bool:=a.all λk=>!(b.any (Nat.beq k))
def cQ:List Operand->List Nat
 | []=>[]
 | .tmp t::r=>t::cQ r
 | _::r=>cQ r
def c8:Op->Bool
 | .alloc _ | .box .. | .store .. | .makeSlice .. | .range .. | .next .. | .makeMap _ none | .mapUpdate .. | .insert .. | .lookup ..=>true
 | .call {callee:=.builtin .append,..}=>true
 | .call {callee:=.builtin .delete,..}=>true
 | _=>false
def fF (X:Cfg) (o:Oper):Bool:=
 match o.op with
 | .load ..=>X.grow o
 | _=>false
def jZ:List Nat->List Nat
 | []=>[]
 | d::r=>d::(d+500000)::jZ r
def cm:Op->Bool
 | .call {callee:=.value _,..}=>true
 | _=>false
def aU (c:Ctx):List Operand->List Nat
 | []=>[]
 | x::r=>(match aP c x with | some v=>v.keys | none=>[0])++aU c r
def iu:Op->Bool
 | .load .. | .indexAddr .. | .convert ..=>true
 | _=>false
def B6:Bool->Option Nat->List Nat
 | true,some d=>dn d 0 4
 | _,_=>[]
def oZ (objs:List (Nat×AO)) (ks:List Nat):Bool:=kB (bM objs ks) ks
def dw (X:Cfg) (s:St) (ops:Array Oper) (i:Nat) (o:Oper):Fp:=
 match o.guard with
 | none=>
  let ks:=aU ⟨s,X.G,[]⟩ o.op.operands.toList
  {i:=i,dst:=o.dst.toList,tmps:=cQ o.op.operands.toList,rd:=cond (iu o.op) ks [],wr:=cond (c8 o.op||fF X o) (jZ o.dst.toList++ks) (cond (cm o.op&&oZ s.objs (bp s.objs ks)) (bp s.objs ks++B6 (X.born o) o.dst) []),all:=cm o.op&&!oZ s.objs (bp s.objs ks)}
 | some (j,want)=>
  (match (ops[j]?).bind (·.dst) with
  | some t=>{i:=i,dst:=o.dst.toList,tmps:=(b9 s 4 t want).map (·.1)++cQ o.op.operands.toList,rd:=(cond (iu o.op) (aU ⟨s,X.G,b9 s 4 t want⟩ o.op.operands.toList) [])++(cond (cm o.op) [] (match oJ X s o t want with | some r=>r.2.keys | none=>[])),wr:=[],all:=false}
  | none=>{i:=i,dst:=[],tmps:=[],rd:=[],wr:=[],all:=true})
def Fp.lG (a:Fp):Bool:=a.all||(!isNil a.rd||!isNil a.wr)
def j8 (a b:Fp):Bool:=
 vD a.dst b.tmps&&(vD b.dst a.tmps&&(!(a.all&&b.lG)&&(!(b.all&&a.lG)&&(vD a.wr b.wr&&(vD a.wr b.rd&&vD b.wr a.rd)))))
def eZ (acc:List Nat):List Edge->Nat
 | []=>0
 | e::r=>cond (Region.binds .any e) (Nat.lor (Nat.lor (2 ^ e.on) (acc.getD e.on 0)) (eZ acc r)) (eZ acc r)
def iL:List Oper->List Nat->List Nat
 | [],acc=>acc
 | o::r,acc=>(match eZ acc o.after.toList with
  | 0=>iL r (acc++[0])
  | n+1=>iL r (acc++[n+1]))
def zd (bits:List Nat):List Fp->Bool
 | []=>true
 | a::r=>r.all (λb=>(bits.getD b.i 0).testBit a.i||j8 a b)&&zd bits r
def yj (X:Cfg) (s:St) (o:Oper):Option (Bool×AV×List (Nat×AO)):=
 match o.op,o.dst with
 | .call {callee:=.value f,args,argTypes},some d=>(dF ⟨s,X.G,[]⟩ {callee:=.value f,args,argTypes}).bind λq=>
   aq (isNil (aU ⟨s,X.G,[]⟩ o.op.operands.toList)&&!X.lend o) ((X.call q.1 q.2 []).bind λr=>
    aq (Nat.blt 0 r.2.length&&(Nat.ble r.2.length 4&&dW s.objs (dn d 0 r.2.length)))
     (some (X.pre q.1 q.2 [],r.1.ren (λk=>eP (dn d 0 r.2.length) (k - ae)),bJ s.objs (dn d 0 r.2.length) (r.2.map (AO.ren λk=>eP (dn d 0 r.2.length) (k - ae))))))
 | _,_=>none
def uV (X:Cfg) (s:St) (o:Oper) (k:St->Res):Res:=
 match o.op,o.dst with
 | .call {callee:=.value f,args,argTypes},some d=>(dF ⟨s,X.G,[]⟩ {callee:=.value f,args,argTypes}).bind λq=>
   aq (isNil (aU ⟨s,X.G,[]⟩ o.op.operands.toList)&&!X.lend o) (X.cp.ja q.1 q.2 [] λr=>
    aq (Nat.blt 0 r.2.length&&(Nat.ble r.2.length 4&&dW s.objs (dn d 0 r.2.length)))
     (aq (X.pre q.1 q.2 []) (k (s.after o.dst (r.1.ren (λk=>eP (dn d 0 r.2.length) (k - ae))) (bJ s.objs (dn d 0 r.2.length) (r.2.map (AO.ren λk=>eP (dn d 0 r.2.length) (k - ae))))))))
 | _,_=>none
def eT (X:Cfg) (ops:Array Oper):List Oper->Nat->List Fp->St->(List Fp->St->Res)->Res
 | [],_,acc,s,k=>k acc s
 | o::r,i,acc,s,k=>
  let acc':=acc++[dw X s ops i o]
  match o.guard with
  | none=>cond (X.born o) (uV X s o (λs'=>eT X ops r (i+1) acc' s' k)) (uU X s o (λs'=>eT X ops r (i+1) acc' s' k))
  | some (j,want)=>(match (ops[j]?).bind (·.dst) with
   | some t=>cond (r.any λq=>q.dst==some t) none (stepG X s o t want (λs'=>eT X ops r (i+1) acc' s' k))
   | none=>none)
def pG:List Oper->Nat->Bool
 | [],_=>true
 | o::r,i=>o.after.all (λe=>cond (Region.binds .any e) (Nat.blt e.on i) true)&&pG r (i+1)
def gp (X:Cfg) (ops:Array Oper) (s:St) (k:St->Res):Res:=
 cond (gZ ops.toList []&&pG ops.toList 0)
  (eT X ops ops.toList 0 [] s λfps s'=>cond (zd (iL ops.toList []) fps) (k {s' with env:=purge s'.env}) none) none
def fh (X:Cfg) (ops:Array Oper) (s:St) (k:St->Res):Res:=
 cond (gD ops.toList)
  (cond (gZ ops.toList []) (fE X ops ops.toList s λs'=>k {s' with env:=purge s'.env}) none)
  (fE X ops ops.toList s k)
def lH:Code->Nat
 | .region id _ _=>id
 | .seq a b=>(match a with | .skip=>lH b | _=>lH a)
 | .cond _ a _=>lH a
 | .block _ b=>lH b
 | .loop b=>lH b
 | .scope b=>lH b
 | _=>0
def dB (env:List (Nat×AV)):List Nat->List (Nat×AV)
 | []=>[]
 | t::r=>(match alook env t with | some v=>(t,v)::dB env r | none=>dB env r)
def cF (objs:List (Nat×AO)):List Nat->List (Nat×AO)
 | []=>[]
 | k::r=>(match alook objs k with | some .gone=>cond (Nat.ble ae k) ((k,.gone)::cF objs r) (cF objs r) | some v=>(k,v)::cF objs r | none=>cF objs r)
def lZ:List (Nat×AV)->List Nat
 | []=>[]
 | (_,v)::r=>v.keys++lZ r
def jV:List (Nat×AO)->List Nat
 | []=>[]
 | (_,v)::r=>v.keys++jV r
def tl:List (Nat×AO)->List Nat
 | []=>[]
 | (k,_)::r=>cond (Nat.ble ae k) (k::tl r) (tl r)
def mJ (key:Nat) (z:List AV) (sz n:Nat) (get:Nat->List AV):AV:=
 cond (Nat.beq n 0) (.sl (.key key) z.length 0 λ_=>z) (.sl (.key key) sz n get)
def mI (z:List AV) (sz n:Nat):Nat:=cond (Nat.beq n 0) z.length sz
def fQ (P:Program) (s:St):List (Nat×Nat×TypeId)->Option St
 | []=>some s
 | (t,key,e)::r=>
  (match s.get t with
  | some (.sl .fit sz n get)=>(match s.obj key,zeroCells P e with
    | none,some z=>aq (Nat.blt 0 (mI z sz n)) (fQ P ((s.setObj key (.own (mI z sz n) n)).put (some t) (mJ key z sz n get)) r)
    | _,_=>none)
  | _=>fQ P s r)
def dz (P:Program) (s:St):List (Nat×Nat×Nat×TypeId)->Option St
 | []=>some s
 | (ob,off,key,e)::r=>
  (match s.obj ob with
  | some (.cells cs)=>(match cs[off]? with
   | some (.sl .fit sz n get)=>(match s.obj key,zeroCells P e with
    | none,some z=>aq (Nat.blt 0 (mI z sz n)) (dz P ((s.setObj key (.own (mI z sz n) n)).setObj ob (.cells (cs.set off (mJ key z sz n get)))) r)
    | _,_=>none)
   | _=>dz P s r)
  | _=>dz P s r)
def j7 (P:Program) (h:Hint) (s:St):Option St:=
 let s1:St:={env:=dB s.env h.keep,objs:=cF s.objs (h.objs++tl s.objs)}
 cond (kB (lZ s1.env) (p3 s1.objs)&&kB (jV s1.objs) (p3 s1.objs)) ((fQ P s1 h.promote).bind λs2=>dz P s2 h.promoteCell) none
def oe (P:Program) (body:St->(Ex->St->Option (AV×List AO))->Option (AV×List AO)) (h:Hint):Nat->St->(Ex->St->Option (AV×List AO))->Option (AV×List AO)
 | 0,_,_=>none
 | n+1,s,k=>(j7 P h s).bind λs=>body s λe s'=>match e with
  | .nor=>oe P body h n s' k
  | e=>k e s'
def codeOk (N:Nat):Code->Bool
 | .region _ ops _=>ops.toList.all λo=>match o.dst with
  | some d=>Nat.blt d N
  | none=>true
 | .seq a b=>codeOk N a&&codeOk N b
 | .cond _ a b=>codeOk N a&&codeOk N b
 | .block _ b=>codeOk N b
 | .loop b=>codeOk N b
 | .scope b=>codeOk N b
 | .rangeFunc _ ps a b=>ps.toList.all (λp=>Nat.blt p N)&&(codeOk N a&&codeOk N b)
 | _=>true
def we (P:Program) (h:Option Hint) (s:St):Option St:=
 match h with
 | none=>some s
 | some h=>j7 P h s
def yr (h:Option (St->(St->Option (AV×List AO))->Option (AV×List AO))) (s:St) (k:St->Option (AV×List AO)):Option (AV×List AO):=
 match h with
 | none=>k s
 | some g=>g s k
def dL:Code->List Nat->Code
 | c,[]=>c
 | .seq a _,0::r=>dL a r
 | .seq _ b,_::r=>dL b r
 | .cond _ a _,0::r=>dL a r
 | .cond _ _ b,_::r=>dL b r
 | .block _ b,_::r=>dL b r
 | .loop b,_::r=>dL b r
 | .scope b,_::r=>dL b r
 | c,_=>c
def bE (P:Program) (f:FuncId):Code:=((P.funcs[f]?).bind (·.body)).getD .skip
def gP (X:Cfg) (f:FuncId) (n:Nat):Code->List Nat->St->(Ex->St->Option (AV×List AO))->Option (AV×List AO)
 | .skip,_,s,k=>k .nor s
 | .region _ ops draw,_,s,k=>cond draw (gp X ops s (k .nor)) (fh X ops s (k .nor))
 | .seq a b,p,s,k=>gP X f n a (p++[0]) s λe s'=>match e with
  | .nor=>(we X.P (X.trim f (p++[1])) s').bind λs'=>yr (X.viewO f (p++[1])) s' λs'=>match X.cutO f (p++[1]) with
   | none=>gP X f n b (p++[1]) s' k
   | some g=>g s' k
  | e=>k e s'
 | .cond c a b,p,s,k=>(match aP ⟨s,X.G,[]⟩ c with
  | some (.bool t)=>cond t (gP X f n a (p++[0]) s k) (gP X f n b (p++[1]) s k)
  | _=>none)
 | .block id b,p,s,k=>gP X f n b (p++[0]) s λe s'=>match e with
  | .exit id'=>cond (Nat.beq id' id) (k .nor s') (k e s')
  | e=>k e s'
 | .loop b,p,s,k=>match X.loopO f p with
  | none=>oe X.P (gP X f n b (p++[0])) (X.hint f (lH b)) n s k
  | some g=>(j7 X.P (X.hint f (lH b)) s).bind λs'=>g s' k
 | .exit id,p,s,k=>(we X.P (X.trim f p) s).bind λs=>k (.exit id) s
 | .ret,p,s,k=>(we X.P (X.trim f p) s).bind λs=>k .ret s
 | .scope b,p,s,k=>gP X f n b (p++[0]) s k
 | .label _,_,s,k=>k .nor s
 | .rangeFunc ..,p,s,k=>match X.rngO f p with
  | none=>none
  | some g=>g s k
 | _,_,_,_=>none
def rQ (X:Cfg) (s:St):ResultVar->Option AV
 | .tmp t=>s.get t
 | .cell q t=>(match s.get q with
  | some (.ref k off)=>(kS X.P s t (.ref k off)).bind λr=>aq r.1 (some r.2)
  | _=>none)
def kf (X:Cfg) (s:St):List ResultVar->Option (List AV)
 | []=>some []
 | r::l=>(rQ X s r).bind λv=>(kf X s l).map λvs=>v::vs
def finish (X:Cfg) (fn:Func) (m:Nat) (s:St):Option (AV×List AO):=
 (kf X s fn.results.toList).bind λvs=>gX s.objs vs λa=>
  let vs:=bS a.1
  let ks:=(List.range m).map (ae+·)
  (cG a.2 ks).bind λos=>
   cond (kB (au vs) ks&&kB (bM a.2 ks) ks)
    (some (match vs with | [v]=>v | vs=>.tup vs,os)) none
def dt:List AV->Nat->List (Nat×AV)
 | [],_=>[]
 | v::r,i=>(i,v)::dt r (i+1)
def af:List AO->Nat->List (Nat×AO)
 | [],_=>[]
 | o::r,i=>(i,o)::af r (i+1)
def rP (X:Cfg) (n:Nat) (f:FuncId) (args:List AV) (objs:List AO) (k:(AV×List AO)->Res):Res:=
 match X.P.funcs[f]? with
 | some fn=>(match fn.body with
  | some c=>gP X f n c [] {env:=dt args 0,objs:=af objs ae} λe s=>
    (match e with
    | .exit _=>none
    | _=>(finish X fn objs.length s).bind k)
  | none=>none)
 | none=>none
def yJ (X:Cfg) (n:Nat) (f:FuncId) (args:List AV) (objs:List AO):Option (AV×List AO):=
 match X.P.funcs[f]? with
 | some fn=>(match fn.body with
  | some c=>gP X f n c [] {env:=dt args 0,objs:=af objs ae} λe s=>
    (match e with
    | .exit _=>none
    | _=>finish X fn objs.length s)
  | none=>none)
 | none=>none
end Go.Ab

namespace Go.Ab
open Go
theorem bR {α β:Type} (x:Option α) {f g:α->Option β} (h:∀a,f a=g a):x.bind f=x.bind g:=by
 cases x with
 | none=>rfl
 | some a=>exact h a
theorem cn {α β:Type} (b:Bool) (x:Option α) (k:α->Option β):(aq b x).bind k=aq b (x.bind k):=by cases b <;> rfl
theorem bf {α β:Type} (b:Bool) (x y:Option α) (k:α->Option β):(cond b x y).bind k=cond b (x.bind k) (y.bind k):=by cases b <;> rfl
theorem nM {β:Type} (objs:List (Nat×AO)) (v:AV) (k:AV×List (Nat×AO)->Option β):lj objs v k=(cg objs v).bind k:=by
 cases v with
 | msl q sz off n=>
  simp only [lj,cg]
  split
  ·rename_i h;simp only [h,cn];rfl
  ·rename_i h;simp only [h,cn];rfl
  ·rfl
 | gsl q sz n=>
  simp only [lj,cg]
  split
  ·rename_i h;simp only [h,cn];rfl
  ·rfl
 | _=>rfl
theorem nI {β:Type}:∀ (l:List AV) (objs:List (Nat×AO)) (k:List AV×List (Nat×AO)->Option β),mV objs l k=(cC objs l).bind k
 | [],_,_=>rfl
 | v::r,objs,k=>by
  simp only [mV,cC,nM,Option.bind_assoc]
  refine congrArg _ (funext λa=>?_)
  rw [nI r];rfl
theorem sU {β:Type} (objs:List (Nat×AO)) (v:AV) (k:AV×List (Nat×AO)->Option β):mU objs v k=(dE objs v).bind k:=by
 cases v with
 | agg cs=>simp only [mU,dE,nI];cases cC objs cs <;> rfl
 | _=>simp only [mU,dE,nM]
theorem gA {β:Type}:∀ (l:List AV) (objs:List (Nat×AO)) (k:List AV×List (Nat×AO)->Option β),gX objs l k=(bK objs l).bind k
 | [],_,_=>rfl
 | v::r,objs,k=>by
  simp only [gX,bK,sU,Option.bind_assoc]
  refine congrArg _ (funext λa=>?_)
  rw [gA r];rfl
theorem nJ {β:Type} (b:Bool) (objs:List (Nat×AO)) (args:List AV) (k:List AV×List (Nat×AO)->Option β):mW b objs args k=(cond b (some (args,objs)) (bK objs args)).bind k:=by
 unfold mW
 rw [gA]
 cases b <;> rfl
theorem jB {α:Type} (x:Option α):x.bind some=x:=by cases x <;> rfl
theorem vC (X:Cfg) (objs:List (Nat×AO)) (f:FuncId) (args:List AV) (k:Bool->AV->List (Nat×AO)->Res) :
  tb X objs f args k=(jy X objs f args).bind λr=>k r.1 r.2.1 r.2.2:=by
 unfold tb jy
 rw [nJ,Option.bind_assoc]
 refine bR _ λa=>?_
 dsimp only
 rw [bf]
 congr 1
 rw [Option.bind_assoc]
 refine bR _ λos=>?_
 rw [X.cp.nat,Option.bind_assoc]
 refine bR _ λr=>?_
 rw [bf]
 rfl
theorem mR (X:Cfg) (s:St) (o:Oper) (k:St->Res):ql X s o k=(ey X s o).bind λr=>aq r.1 (k (s.after o.dst r.2.1 r.2.2)):=by
 unfold ql
 split
 ·rename_i f args ts ho
  simp only [ey,ho]
  rw [Option.bind_assoc]
  exact bR _ λq=>vC X s.objs q.1 q.2 _
 ·rename_i it isS ho
  simp only [ey,ho]
  rw [Option.bind_assoc]
  refine bR _ λv=>?_
  split
  ·split
   ·rename_i b pos _
    cases Nat.blt pos b.length <;> rfl
   ·rfl
  ·rfl
 ·rename_i t x i ok ho
  simp only [ey,ho]
  rw [Option.bind_assoc]
  refine bR _ λx=>?_
  rw [Option.bind_assoc]
  refine bR _ λi=>?_
  cases oh X.P s t x i with
  | none=>rfl
  | some r=>
   obtain ⟨b,u,v⟩:=r
   cases b <;> rfl
 ·rfl
theorem vB (X:Cfg) (d:Option Nat) (objs:List (Nat×AO)) (f:FuncId) (args:List AV) (k:Bool->AV->List (Nat×AO)->Res) :
  ta X d objs f args k=(l5 X d objs f args).bind λr=>k r.1 r.2.1 r.2.2:=by
 unfold ta l5
 rw [nJ,Option.bind_assoc]
 refine bR _ λa=>?_
 dsimp only
 rw [bf]
 congr 1
 rw [Option.bind_assoc]
 refine bR _ λos=>?_
 rw [X.cp.nat,Option.bind_assoc]
 refine bR _ λr=>?_
 rw [bf]
 cases Nat.beq r.2.length (bp a.2 (au (bS a.1))).length with
 | true=>rfl
 | false=>
  cases d with
  | none=>rfl
  | some d=>
   dsimp only [cond_false,Option.bind_some]
   rw [bf]
   rfl
theorem vA (X:Cfg) (objs:List (Nat×AO)) (f:FuncId) (args:List AV) (k:Bool->AV->List (Nat×AO)->Res) :
  s9 X objs f args k=(nQ X objs f args).bind λr=>k r.1 r.2.1 r.2.2:=by
 unfold s9 nQ
 rw [gA,Option.bind_assoc]
 refine bR _ λa=>?_
 rw [bf]
 congr 1
 rw [X.cp.nat,Option.bind_assoc]
 refine bR _ λr=>?_
 rw [bf]
 rfl
theorem oV (X:Cfg) (s:St) (o:Oper) (k:St->Res):oW X s o k=(BS X s o).bind λr=>aq r.1 (k (s.after o.dst r.2.1 r.2.2)):=by
 unfold oW BS
 split
 ·rename_i f args ts ho
  rw [Option.bind_assoc]
  refine bR _ λq=>?_
  cases X.lend o with
  | true=>simp only [cond_true];exact vA X s.objs q.1 q.2 _
  | false=>simp only [cond_false];exact vB X o.dst s.objs q.1 q.2 _
 ·cases isX o.op with
  | true=>rfl
  | false=>exact mR X s o k
theorem oX (X:Cfg) (s:St) (o:Oper) (t:Nat) (w:Bool) (k:St->Res):stepG X s o t w k=(match o.dst with
 | none=>none
 | some d=>cond (Nat.beq d t) none ((oJ X s o t w).bind λr=>aq r.1 (k (s.put (some d) (.grd t w r.2))))):=by
 unfold stepG
 cases o.dst with
 | none=>rfl
 | some d=>
  simp only
  congr 1
  split
  ·rename_i f args ts ho
   simp only [oJ,ho]
   rw [Option.bind_assoc]
   refine bR _ λq=>?_
   rw [cn,X.cp.nat,Option.bind_assoc]
   congr 1
   refine bR _ λr=>?_
   obtain ⟨v,os⟩:=r
   cases os with
   | nil=>simp only [cn];rfl
   | cons _ _=>rfl
  ·rfl
section
variable (X:Cfg)
theorem qj (s:St) (o:Oper) (K:St->Res) (k:(AV×List AO)->Res):ql X s o (λs=>(K s).bind k)=(ql X s o K).bind k:=by
 rw [mR,mR,Option.bind_assoc]
 exact bR _ λr=>(cn _ _ _).symm
theorem xK (v:AV) (K:AV->Res) (k:(AV×List AO)->Res):vu v (λv=>(K v).bind k)=(vu v K).bind k:=by
 unfold vu
 split
 ·rw [bf,bf];rfl
 ·rfl
theorem xL {v:AV} {K:AV->Res} {r:AV×List AO} (h:vu v K=some r):K v=some r:=by
 unfold vu at h
 split at h
 ·rename_i kd i
  by_cases h0:i=0
  ·subst h0;exact h
  ·rw [decide_eq_false h0,cond_false] at h
   by_cases h1:i=1
   ·subst h1;exact h
   ·rw [decide_eq_false h1,cond_false] at h;cases h
 ·exact h
theorem wk (s:St) (o:Oper) (K:St->Res) (k:(AV×List AO)->Res):uU X s o (λs=>(K s).bind k)=(uU X s o K).bind k:=by
 unfold uU
 split
 ·rw [bf,qj,Option.bind_assoc]
  congr 1
  exact bR _ λr=>by rw [cn,<-xK]
 ·exact qj X s o K k
theorem m0 (s:St) (o:Oper) (K:St->Res) (k:(AV×List AO)->Res):oW X s o (λs=>(K s).bind k)=(oW X s o K).bind k:=by
 rw [oV,oV,Option.bind_assoc]
 exact bR _ λr=>(cn _ _ _).symm
theorem qg (s:St) (o:Oper) (t:Nat) (w:Bool) (K:St->Res) (k:(AV×List AO)->Res):stepG X s o t w (λs=>(K s).bind k)=(stepG X s o t w K).bind k:=by
 rw [oX,oX]
 cases o.dst with
 | none=>rfl
 | some d=>
  simp only
  rw [bf,Option.bind_assoc]
  congr 1
  exact bR _ λr=>(cn _ _ _).symm
theorem wu (s:St) (o:Oper) (t:Nat) (w:Bool) (K:St->Res) (k:(AV×List AO)->Res):uW X s o t w (λs=>(K s).bind k)=(uW X s o t w K).bind k:=by
 unfold uW
 split
 ·rw [bf,bf,bf,m0,m0]
 ·rfl
theorem lJ (ops:Array Oper) (k:(AV×List AO)->Res):∀ (l:List Oper) (s:St) (K:St->Res),fE X ops l s (λs=>(K s).bind k)=(fE X ops l s K).bind k
 | [],s,K=>rfl
 | o::r,s,K=>by
  have ih:=λs=>lJ ops k r s K
  simp only [fE]
  split
  ·rw [<-m0];congr 1;funext s';exact ih s'
  ·split
   ·rw [bf,bf]
    congr 1
    have e:(λs'=>fE X ops r s' λs=>(K s).bind k)=λs'=>(fE X ops r s' K).bind k:=funext ih
    rw [e,wu,qg]
   ·rfl
theorem oY (X:Cfg) (s:St) (o:Oper) (k:St->Res):uV X s o k=(yj X s o).bind λr=>aq r.1 (k (s.after o.dst r.2.1 r.2.2)):=by
 unfold uV yj
 split
 ·rename_i f args ts d ho hd
  rw [Option.bind_assoc]
  refine bR _ λq=>?_
  rw [cn,X.cp.nat,Option.bind_assoc]
  congr 1
  refine bR _ λr=>?_
  rw [cn]
  rfl
 ·rfl
theorem wo (s:St) (o:Oper) (K:St->Res) (k:(AV×List AO)->Res):uV X s o (λs=>(K s).bind k)=(uV X s o K).bind k:=by
 rw [oY,oY,Option.bind_assoc]
 refine bR _ λr=>?_
 rw [cn]
theorem nf (ops:Array Oper) (k:(AV×List AO)->Res):∀ (l:List Oper) (i:Nat) (acc:List Fp) (s:St) (K:List Fp->St->Res),eT X ops l i acc s (λa s=>(K a s).bind k)=(eT X ops l i acc s K).bind k
 | [],i,acc,s,K=>rfl
 | o::r,i,acc,s,K=>by
  have ih:=λi acc s=>nf ops k r i acc s K
  simp only [eT]
  split
  ·rw [bf,<-wk,<-wo]
   have e:(λs'=>eT X ops r (i+1) (acc++[dw X s ops i o]) s' λa s=>(K a s).bind k)=λs'=>(eT X ops r (i+1) (acc++[dw X s ops i o]) s' K).bind k:=funext λs'=>ih _ _ s'
   rw [e]
  ·split
   ·rw [bf]
    congr 1
    rw [<-qg];congr 1;funext s';exact ih _ _ s'
   ·rfl
theorem o8 (ops:Array Oper) (s:St) (K:St->Res) (k:(AV×List AO)->Res):fh X ops s (λs=>(K s).bind k)=(fh X ops s K).bind k:=by
 unfold fh
 rw [bf,bf,<-lJ,<-lJ]
 rfl
theorem qy (ops:Array Oper) (s:St) (K:St->Res) (k:(AV×List AO)->Res):gp X ops s (λs=>(K s).bind k)=(gp X ops s K).bind k:=by
 unfold gp
 rw [bf,<-nf]
 congr 2
 funext a s'
 rw [bf];rfl
def Ce (run:St->(Ex->St->Res)->Res):Prop:=∀ (s:St) (K:Ex->St->Res) (k:(AV×List AO)->Res),run s (λe s=>(K e s).bind k)=(run s K).bind k
theorem qN {P:Program} {run:St->(Ex->St->Res)->Res} (h:Ce run) (hint:Hint):∀n,Ce (oe P run hint n)
 | 0=>λs K k=>rfl
 | n+1=>λs K k=>by
  simp only [oe]
  rw [Option.bind_assoc]
  refine bR _ λs1=>?_
  rw [<-h]
  congr 1
  funext e s'
  cases e with
  | nor=>exact qN h hint n s' K k
  | exit _=>rfl
  | ret=>rfl
theorem gq (hc:∀f p,X.cutO f p=none) (hl:∀f p,X.loopO f p=none) (hv:∀f p,X.viewO f p=none) (hg:∀f p,X.rngO f p=none) (f:FuncId) (n:Nat):∀ (c:Code) (p:List Nat),Ce (gP X f n c p)
 | .skip,p=>λs K k=>rfl
 | .region id ops draw,p=>λs K k=>by
  simp only [gP]
  rw [bf,qy,o8]
 | .seq a b,p=>λs K k=>by
  simp only [gP,hc,hv,yr]
  rw [<-gq hc hl hv hg f n a]
  congr 1
  funext e s'
  cases e with
  | nor=>
   simp only
   rw [Option.bind_assoc]
   exact bR _ λs1=>gq hc hl hv hg f n b _ s1 K k
  | exit _=>rfl
  | ret=>rfl
 | .cond c a b,p=>λs K k=>by
  simp only [gP]
  split
  ·rw [bf,gq hc hl hv hg f n a,gq hc hl hv hg f n b]
  ·rfl
 | .block id b,p=>λs K k=>by
  simp only [gP]
  rw [<-gq hc hl hv hg f n b]
  congr 1
  funext e s'
  cases e with
  | exit id'=>exact (bf _ _ _ _).symm
  | nor=>rfl
  | ret=>rfl
 | .loop b,p=>λs K k=>by
  simp only [gP,hl]
  exact qN (gq hc hl hv hg f n b _) _ n s K k
 | .exit id,p=>λs K k=>by
  simp only [gP]
  rw [Option.bind_assoc]
 | .ret,p=>λs K k=>by
  simp only [gP]
  rw [Option.bind_assoc]
 | .scope b,p=>λs K k=>by
  simp only [gP]
  exact gq hc hl hv hg f n b _ s K k
 | .rangeFunc ..,p=>λs K k=>by
  simp only [gP,hg]
  rfl
 | .goto _,_ | .label _,_ | .refuse _,_=>λs K k=>rfl
theorem wI (hc:∀f p,X.cutO f p=none) (hl:∀f p,X.loopO f p=none) (hv:∀f p,X.viewO f p=none) (hg:∀f p,X.rngO f p=none) (n:Nat) (f:FuncId) (args:List AV) (objs:List AO) (k:(AV×List AO)->Res) :
  rP X n f args objs k=(rP X n f args objs some).bind k:=by
 unfold rP
 split
 ·split
  ·rw [<-gq X hc hl hv hg]
   congr 1
   funext e s
   cases e with
   | exit _=>rfl
   | nor=>simp only [jB]
   | ret=>simp only [jB]
  ·rfl
 ·rfl
theorem u5 (n:Nat) (f:FuncId) (args:List AV) (objs:List AO):rP X n f args objs some=yJ X n f args objs:=by
 unfold rP yJ
 simp only [jB]
end
structure Env where
 P:Program
 G:Nat->Option (List AV):=λ_=>none
 ext:pZ:=λ_ _ _=>none
 isExt:FuncId->Bool:=λ_=>false
 byRef:FuncId->Bool:=λ_=>false
 hint:FuncId->Nat->Hint:=λ_ _=>{}
 pre:FuncId->List AV->List AO->Bool:=λ_ _ _=>true
 trim:FuncId->List Nat->Option Hint:=λ_ _=>none
 grow:Oper->Bool:=λ_=>false
 brk:Oper->Bool:=λ_=>false
 lend:Oper->Bool:=λ_=>false
 born:Oper->Bool:=λ_=>false
def Env.cfg (V:Env) (C:CallP):Cfg:={P:=V.P,G:=V.G,cp:=C,byRef:=V.byRef,hint:=V.hint,pre:=λf a o=>cond (V.isExt f) (V.pre f a o) true,trim:=V.trim,grow:=V.grow,brk:=V.brk,lend:=V.lend,born:=V.born}
def EP (V:Env):Nat->CallP
 | 0=>⟨λ_ _ _ _=>none,λ_ _ _ _=>rfl⟩
 | n+1=>⟨λf l os k=>cond (V.isExt f) ((V.ext f l os).bind k) (rP (V.cfg (EP V n)) n f l os k),λf l os k=>by
   rw [bf,jB,wI (V.cfg (EP V n)) (λ_ _=>rfl) (λ_ _=>rfl) (λ_ _=>rfl) (λ_ _=>rfl)]⟩
def E (V:Env) (n:Nat):pZ:=(EP V n).call
theorem EO (V:Env) (n:Nat) (f:FuncId) (l:List AV) (os:List AO):E V (n+1) f l os=cond (V.isExt f) (V.ext f l os) (yJ (V.cfg (EP V n)) n f l os):=by
 show cond (V.isExt f) ((V.ext f l os).bind some) (rP (V.cfg (EP V n)) n f l os some)=_
 rw [jB,u5]
end Go.Ab

namespace Go.Ab
open Go Go.RowKit
structure Cx where
 w:World
 I:Nat->Nat->Prop
 β:Nat->Nat
 κ:Nat->Option (Addr×Nat)
 fr:Nat->Option Nat
def kF:Option (Addr×Nat)->Nat->Value
 | none,_=>.slice none 0 0
 | some (a,cap),n=>.slice (some a) n cap
def aG (c:Cx) (o:Own) (n:Nat) (v:Value):Prop:=
 match o with
 | .no=>True
 | .fit=>match v with | .slice (some _) _ cap=>cap=n | _=>True
 | .key k=>∃m,c.fr k=some m/\n<=m/\(n=m->v=kF (c.κ k) n)
 | .nl=>match v with | .slice (some _) _ _=>False | _=>True
 | .nn=>match v with | .slice none _ _=>False | _=>True
inductive Rep (c:Cx):AV->Value->Prop
 | bool (b):Rep c (.bool b) (.bool b)
 | int (k n):Rep c (.int k n) (.int k n)
 | str (s:List UInt8):Rep c (.str s) (.string ⟨s.toArray⟩)
 | nilp:Rep c .nilp (.pointer none)
 | nilf:Rep c .nilf .nilFunc
 | nilm:Rep c .nilm (.map none)
 | nili:Rep c .nili .nilIface
 | nni (t v):Rep c .nni (.iface t v)
 | num (k n):Rep c (.num k) (.int k n)
 | undef (v):Rep c .undef v
 | raw (v):Rep c (.raw v) v
 | slNil (o:Own) (sz:Nat) (get:Nat->List AV):aG c o 0 (.slice none 0 0)->Rep c (.sl o sz 0 get) (.slice none 0 0)
 | sl (o:Own) (sz n:Nat) (get:Nat->List AV) (a:Addr) (cap:Nat) (vals:Nat->Nat->Value):(0 < cap->a.spot=none)->n<=cap->aG c o n (.slice (some a) n cap)->
   (∀j,j < n->(get j).length=sz/\au (get j)=[])->
   (∀ (j i:Nat) (u:AV),j < n->(get j)[i]?=some u->u.one=true/\c.w.cell? ⟨a.block,a.off+(j*sz+i),none⟩=some (vals j i)/\c.I a.block (a.off+(j*sz+i)))->
   (∀ (j i:Nat) (u:AV),j < n->(get j)[i]?=some u->Rep c u (vals j i))->Rep c (.sl o sz n get) (.slice (some a) n cap)
 | agg (cs:List AV) (vs:Array Value):vs.size=cs.length->(∀ (i:Nat) (u:AV),cs[i]?=some u->u.one=true)->
   (∀ (i:Nat) (u:AV),cs[i]?=some u->Rep c u (vs.getD i undef))->Rep c (.agg cs) (.agg vs)
 | arr (sz n:Nat) (get:Nat->List AV) (vs:Array Value):vs.size=n*sz->(∀j,j < n->(get j).length=sz/\au (get j)=[])->
   (∀ (j i:Nat) (u:AV),j < n->(get j)[i]?=some u->u.one=true)->
   (∀ (j i:Nat) (u:AV),j < n->(get j)[i]?=some u->Rep c u (vs.getD (j*sz+i) undef))->Rep c (.arr sz n get) (.agg vs)
 | tup (us:List AV) (vs:Array Value):vs.size=us.length->(∀ (i:Nat) (u:AV),us[i]?=some u->Rep c u (vs.getD i undef))->Rep c (.tup us) (.tuple vs)
 | ref (k off):Rep c (.ref k off) (.pointer (some ⟨c.β k,off,none⟩))
 | aref (k sz i off):Rep c (.aref k sz i off) (.pointer (some ⟨c.β k,i*sz+off,none⟩))
 | elt (cs:List AV) (off:Nat) (b o:Nat) (vals:Nat->Value):au cs=[]->
   (∀ (i:Nat) (u:AV),cs[i]?=some u->u.one=true/\c.w.cell? ⟨b,o+i,none⟩=some (vals i)/\c.I b (o+i))->
   (∀ (i:Nat) (u:AV),cs[i]?=some u->Rep c u (vals i))->Rep c (.elt cs off) (.pointer (some ⟨b,o+off,none⟩))
 | msl (k sz off len cap o):len<=cap->(0 < len->o=off*sz)->Rep c (.msl k sz off len) (.slice (some ⟨c.β k,o,none⟩) len cap)
 | gslNil (k sz):aG c (.key k) 0 (.slice none 0 0)->Rep c (.gsl k sz 0) (.slice none 0 0)
 | gsl (k sz n a cap):n<=cap->aG c (.key k) n (.slice (some a) n cap)->Rep c (.gsl k sz n) (.slice (some a) n cap)
 | gref (k sz n i off b cap):aG c (.key k) n (.slice (some ⟨b,0,none⟩) n cap)->Rep c (.gref k sz n i off) (.pointer (some ⟨b,i*sz+off,none⟩))
 | gsubNil (k sz):aG c (.key k) 0 (.slice none 0 0)->Rep c (.gsub k sz 0 0 0) (.slice none 0 0)
 | gsub (k sz n lo len a cap a' cap'):n<=cap->aG c (.key k) n (.slice (some a) n cap)->lo+len<=n->cap'=cap - lo->(lo=0->a'=a)->(lo < cap->a'=a.add (lo*sz))->Rep c (.gsub k sz n lo len) (.slice (some a') len cap')
 | mref (k):Rep c (.mref k) (.map (some (c.β k)))
 | fms (g:List UInt8->Option (List UInt8)) (b:Nat) (es:Array MapEntry) (clock:Nat) (ms:List (List UInt8×List UInt8)):c.I b 0->c.w.heap[b]?=some (.map es clock)->
   es.toList.map (λe=>(e.key,e.val))=ms.map (λm=>(.string ⟨m.1.toArray⟩,.string ⟨m.2.toArray⟩))->(∀m∈ms,g m.1=some m.2)->(∀s v,g s=some v->(s,v)∈ms)->(ms.map (·.1)).Nodup->Rep c (.fms g) (.map (some b))
 | fn (f:FuncId) (a b:List AV) (va vb:Array Value):va.size=a.length->vb.size=b.length->
   (∀ (i:Nat) (u:AV),a[i]?=some u->Rep c u (va.getD i undef))->(∀ (i:Nat) (u:AV),b[i]?=some u->Rep c u (vb.getD i undef))->Rep c (.fn f a b) (.func (.func f) va vb)
def fL:Obj->Bool
 | .cells ..=>true
 | _=>false
theorem fo:∀a b,au (a++b)=au a++au b
 | [],b=>by simp [au]
 | v::r,b=>by simp [au,fo r b]
theorem aR {l:List AV} {i:Nat} {u:AV} (h:l[i]?=some u):∀k∈u.keys,k∈au l:=by
 induction l generalizing i with
 | nil=>simp at h
 | cons v r ih=>
  intro k hk
  simp only [au,List.mem_append]
  cases i with
  | zero=>simp at h;subst h;exact .inl hk
  | succ i=>exact .inr (ih (by simpa using h) k hk)
theorem aM {l:List AV} (hl:au l=[]) {i:Nat} {u:AV} (h:l[i]?=some u):u.keys=[]:=by
 cases hk:u.keys with
 | nil=>rfl
 | cons k r=>have:=aR h k (by simp [hk]);simp [hl] at this
structure Ext (c c':Cx) (ks:Nat->Prop):Prop where
 cell:∀b o v,c.I b o->c.w.cell? ⟨b,o,none⟩=some v->c'.w.cell? ⟨b,o,none⟩=some v
 I:∀b o,c.I b o->c'.I b o
 β:∀k,ks k->c'.β k=c.β k
 own:∀k,ks k->∀n v,aG c (.key k) n v->aG c' (.key k) n v
 map:∀b o ob,c.I b o->c.w.heap[b]?=some ob->fL ob=false->c'.w.heap[b]?=some ob
structure ExtR (c c':Cx) (ks:Nat->Prop):Prop where
 cell:∀b o v,c.I b o->c.w.cell? ⟨b,o,none⟩=some v->c'.w.cell? ⟨b,o,none⟩=some v/\c'.I b o
 β:∀k,ks k->c'.β k=c.β k
 own:∀k,ks k->∀n v,aG c (.key k) n v->aG c' (.key k) n v
 map:∀b o es clock,c.I b o->c.w.heap[b]?=some (.map es clock)->c'.w.heap[b]?=some (.map es clock)/\c'.I b o
theorem Ext.toR {c c':Cx} {ks:Nat->Prop} (h:Ext c c' ks):ExtR c c' ks:=⟨λb o v hi hv=>⟨h.cell b o v hi hv,h.I b o hi⟩,h.β,h.own,λb o es cl hi he=>⟨h.map b o _ hi he rfl,h.I b o hi⟩⟩
theorem Ext.sub {c c':Cx} {ks ks':Nat->Prop} (h:Ext c c' ks) (hs:∀k,ks' k->ks k):Ext c c' ks':=
 ⟨h.cell,h.I,λk hk=>h.β k (hs k hk),λk hk=>h.own k (hs k hk),h.map⟩
theorem Ext.refl (c:Cx) (ks:Nat->Prop):Ext c c ks:=⟨λ_ _ _ _ h=>h,λ_ _ h=>h,λ_ _=>rfl,λ_ _ _ _ h=>h,λ_ _ _ _ h _=>h⟩
theorem Ext.trans {a b c:Cx} {ks:Nat->Prop} (h:Ext a b ks) (h':Ext b c ks):Ext a c ks:=
 ⟨λ_ _ _ hi hv=>h'.cell _ _ _ (h.I _ _ hi) (h.cell _ _ _ hi hv),λ_ _ hi=>h'.I _ _ (h.I _ _ hi),
  λk hk=>(h'.β k hk).trans (h.β k hk),λk hk n v hv=>h'.own k hk n v (h.own k hk n v hv),λb o ob hi he hc=>h'.map b o ob (h.I _ _ hi) (h.map b o ob hi he hc) hc⟩
theorem aG.nN {c c':Cx} {ks:Nat->Prop} (h:ExtR c c' ks) {o:Own} {n:Nat} {v:Value} (hr:aG c o n v) (hk:∀k,o=.key k->ks k):aG c' o n v:=by
 cases o with
 | no=>trivial
 | fit=>exact hr
 | nl=>exact hr
 | nn=>exact hr
 | key k=>exact h.own k (hk k rfl) n v hr
theorem Rep.nN {c c':Cx} {v:AV} {x:Value} (hr:Rep c v x):∀ {ks:Nat->Prop},ExtR c c' ks->(∀k∈v.keys,ks k)->Rep c' v x:=by
 induction hr with
 | bool b=>intros;exact .bool b
 | int k n=>intros;exact .int k n
 | str s=>intros;exact .str s
 | nilp=>intros;exact .nilp
 | nilf=>intros;exact .nilf
 | nilm=>intros;exact .nilm
 | nili=>intros;exact .nili
 | nni t v=>intros;exact .nni t v
 | num k n=>intros;exact .num k n
 | undef v=>intros;exact .undef v
 | raw v=>intros;exact .raw v
 | slNil o sz get ho=>intro ks h hk;exact .slNil o sz get (ho.nN h λk e=>hk k (by subst e;simp [AV.keys]))
 | sl o sz n get a cap vals hsp hn ho hl hc hr ih=>
  intro ks h hk
  refine .sl o sz n get a cap vals hsp hn (ho.nN h λk e=>hk k (by subst e;simp [AV.keys])) hl
   (λj i u hj hu=>⟨(hc j i u hj hu).1,h.cell _ _ _ (hc j i u hj hu).2.2 (hc j i u hj hu).2.1⟩)
   (λj i u hj hu=>ih j i u hj hu h λk hk=>?_)
  rw [aM (hl j hj).2 hu] at hk;simp at hk
 | agg cs vs hs h1 hr ih=>
  intro ks h hk
  exact .agg cs vs hs h1 λi u hu=>ih i u hu h λk hk'=>hk k (by simpa [AV.keys] using aR hu k hk')
 | arr sz n get vs hs hl h1 hr ih=>
  intro ks h hk
  refine .arr sz n get vs hs hl h1 λj i u hj hu=>ih j i u hj hu h λk hk'=>?_
  rw [aM (hl j hj).2 hu] at hk';simp at hk'
 | tup us vs hs hr ih=>
  intro ks h hk
  exact .tup us vs hs λi u hu=>ih i u hu h λk hk'=>hk k (by simpa [AV.keys] using aR hu k hk')
 | ref k off=>intro ks h hk;rw [<-h.β k (hk k (by simp [AV.keys]))];exact .ref k off
 | aref k sz i off=>intro ks h hk;rw [<-h.β k (hk k (by simp [AV.keys]))];exact .aref k sz i off
 | elt cs off b o vals hl hc hr ih=>
  intro ks h hk
  refine .elt cs off b o vals hl (λi u hu=>⟨(hc i u hu).1,h.cell _ _ _ (hc i u hu).2.2 (hc i u hu).2.1⟩) λi u hu=>ih i u hu h λk hk'=>?_
  rw [aM hl hu] at hk';simp at hk'
 | msl k sz off len cap o hlen ho=>intro ks h hk;rw [<-h.β k (hk k (by simp [AV.keys]))];exact .msl k sz off len cap o hlen ho
 | gslNil k sz ho=>intro ks h hk;exact .gslNil k sz (h.own k (hk k (by simp [AV.keys])) _ _ ho)
 | gsl k sz n a cap hn ho=>intro ks h hk;exact .gsl k sz n a cap hn (h.own k (hk k (by simp [AV.keys])) _ _ ho)
 | gref k sz n i off b cap ho=>intro ks h hk;exact .gref k sz n i off b cap (h.own k (hk k (by simp [AV.keys])) _ _ ho)
 | gsubNil k sz ho=>intro ks h hk;exact .gsubNil k sz (h.own k (hk k (by simp [AV.keys])) _ _ ho)
 | gsub k sz n lo len a cap a' cap' h1 ho h2 h3 h4 h5=>intro ks h hk;exact .gsub k sz n lo len a cap a' cap' h1 (h.own k (hk k (by simp [AV.keys])) _ _ ho) h2 h3 h4 h5
 | mref k=>intro ks h hk;rw [<-h.β k (hk k (by simp [AV.keys]))];exact .mref k
 | fms g b es clock ms hm hh h1 h2 h3 h4=>intro ks h hk;exact .fms g b es clock ms (h.map b 0 es clock hm hh).2 (h.map b 0 es clock hm hh).1 h1 h2 h3 h4
 | fn f a b va vb ha hb hra hrb iha ihb=>
  intro ks h hk
  exact .fn f a b va vb ha hb (λi u hu=>iha i u hu h λk hk'=>hk k (by simpa [AV.keys] using .inl (aR hu k hk')))
   (λi u hu=>ihb i u hu h λk hk'=>hk k (by simpa [AV.keys] using .inr (aR hu k hk')))
theorem aG.ext {c c':Cx} {ks:Nat->Prop} (h:Ext c c' ks) {o:Own} {n:Nat} {v:Value} (hr:aG c o n v) (hk:∀k,o=.key k->ks k):aG c' o n v:=hr.nN h.toR hk
theorem Rep.ext {c c':Cx} {v:AV} {x:Value} (hr:Rep c v x) {ks:Nat->Prop} (h:Ext c c' ks) (hk:∀k∈v.keys,ks k):Rep c' v x:=hr.nN h.toR hk
structure RowAt (c:Cx) (b:Nat) (cs:List AV):Prop where
 row:∃ (vs:Array Value) (t:TypeId),c.w.heap[b]?=some (.cells vs t (0,0))/\vs.size=cs.length/\∀ (i:Nat) (u:AV),cs[i]?=some u->Rep c u (vs.getD i undef)
 one:∀ (i:Nat) (u:AV),cs[i]?=some u->u.one=true
structure ArrAt (c:Cx) (b sz n:Nat) (get:Nat->List AV):Prop where
 row:∃ (vs:Array Value) (t:TypeId),c.w.heap[b]?=some (.cells vs t (0,0))/\vs.size=n*sz/\∀ (j i:Nat) (u:AV),j < n->(get j)[i]?=some u->Rep c u (vs.getD (j*sz+i) undef)
 len:∀j,j < n->(get j).length=sz/\au (get j)=[]
 one:∀ (j i:Nat) (u:AV),j < n->(get j)[i]?=some u->u.one=true
structure RoomAt (c:Cx) (a:Addr) (sz n cap:Nat):Prop where
 row:∃ (vs:Array Value) (t:TypeId),c.w.heap[a.block]?=some (.cells vs t (0,0))/\vs.size=cap*sz
 off:a.off=0
 free:∀o,n*sz<=o->¬ c.I a.block o
structure GrwAt (c:Cx) (a:Addr) (q sz n cap:Nat) (get:Nat->List AV):Prop where
 row:∃ (vs:Array Value) (t:TypeId),c.w.heap[a.block]?=some (.cells vs t (0,0))/\vs.size=cap*sz/\∀ (j i:Nat) (u:AV),j < n->(get j)[i]?=some u->Rep c u (vs.getD (j*sz+i) undef)
 addr:a.off=0/\a.spot=none
 len:∀j,j < n->(get j).length=sz/\au (get j)=[]
 one:∀ (j i:Nat) (u:AV),j < n->(get j)[i]?=some u->u.one=true
 free:∀o,(q - 1)*sz<=o->¬ c.I a.block o
def lB:AV->Value
 | .bool b=>.bool b
 | .int k n=>.int k n
 | .str s=>.string ⟨s.toArray⟩
 | _=>undef
def dv (l:List AV):Array Value:=(l.map lB).toArray
def iX (ka:Bool) (l:List AV):Value:=cond ka (.agg (dv l)) (match l with | [u]=>lB u | _=>undef)
structure MapAt (c:Cx) (b:Nat) (ka:Bool) (ks:List KD) (dom:List AV->Bool) (get:List AV->AV):Prop where
 row:∃ (es:Array MapEntry) (clock:Nat) (ms:List (List AV×Value)),c.w.heap[b]?=some (.map es clock)/\es.toList.map (λe=>(e.key,e.val))=ms.map (λm=>(iX ka m.1,m.2)) /\
  (∀m∈ms,aL ks m.1=true/\dom m.1=true/\Rep c (get m.1) m.2)/\(∀l,aL ks l=true->dom l=true->∃m∈ms,m.1=l)/\(ms.map (·.1)).Nodup
 plain:∀l,aL ks l=true->dom l=true->(get l).keys=[]
structure MatAt (c:Cx) (b sz n:Nat) (g:Nat->Nat×(Nat->List AV)) (h:Option Nat):Prop where
 row:∃ (vs:Array Value) (t:TypeId),c.w.heap[b]?=some (.cells vs t (0,0))/\vs.size=n/\(∀i,i < n->Rep c (.sl .no sz (g i).1 (g i).2) (vs.getD i undef)) /\
  (∀i,i < n->h≠some i->∀a l cap,vs.getD i undef=.slice (some a) l cap->l < cap->RoomAt c a sz l cap/\a.block≠b) /\
  ∀i j,i < n->j < n->i≠j->h≠some i->h≠some j->∀a l cap a' l' cap',vs.getD i undef=.slice (some a) l cap->vs.getD j undef=.slice (some a') l' cap'->l < cap->l' < cap'->a.block≠a'.block
 pos:0 < sz
theorem MatAt.arr {c:Cx} {b sz n:Nat} {g:Nat->Nat×(Nat->List AV)} {h:Option Nat} (m:MatAt c b sz n g h):ArrAt c b 1 n (jk sz g):=by
 obtain ⟨⟨vs,t,hh,hs,hr,_⟩,_⟩:=m
 refine ⟨⟨vs,t,hh,by omega,λj i u hj hu=>?_⟩,λj hj=>⟨rfl,by simp [jk,au,AV.keys]⟩,λj i u hj hu=>?_⟩
 ·match i,hu with
  | 0,hu=>simp only [jk,List.getElem?_cons_zero,Option.some.injEq] at hu;subst hu;simpa using hr j hj
  | i+1,hu=>simp [jk] at hu
 ·match i,hu with
  | 0,hu=>simp only [jk,List.getElem?_cons_zero,Option.some.injEq] at hu;subst hu;rfl
  | i+1,hu=>simp [jk] at hu
def dh (c:Cx) (k:Nat):AO->Prop
 | .cells cs=>RowAt c (c.β k) cs/\(∀o,¬ c.I (c.β k) o)/\c.fr k=none
 | .arr sz n get=>ArrAt c (c.β k) sz n get/\(∀o,¬ c.I (c.β k) o)/\c.fr k=none
 | .frz sz n get=>ArrAt c (c.β k) sz n get/\(∀o,o < n*sz->c.I (c.β k) o)/\c.fr k=none
 | .own sz n=>0 < sz/\c.fr k=some n/\(match c.κ k with
  | none=>n=0
  | some (a,cap)=>(0 < cap->a.spot=none)/\n<=cap/\(n < cap->RoomAt c a sz n cap))
 | .grw q sz n get=>(0 < sz/\q - 1<=n)/\c.fr k=some n/\(match c.κ k with
  | none=>n=0
  | some (a,cap)=>n<=cap/\(0 < cap->GrwAt c a q sz n cap get))
 | .iter s p=>c.w.heap[c.β k]?=some (.stringIter ⟨s.toArray⟩ p)/\(∀o,¬ c.I (c.β k) o)/\c.fr k=none
 | .mp ka ks dom get=>MapAt c (c.β k) ka ks dom get/\(∀o,¬ c.I (c.β k) o)/\c.fr k=none
 | .mat sz n g h=>MatAt c (c.β k) sz n g h/\(∀o,¬ c.I (c.β k) o)/\c.fr k=none
 | .gone=>True
def excl (c:Cx) (k:Nat):AO->Nat->Prop
 | .cells _ | .arr .. | .frz .. | .iter .. | .mp ..=>λb=>c.β k=b
 | .gone=>λ_=>False
 | .own _ n=>λb=>(match c.κ k with
  | some (a,cap)=>n < cap/\a.block=b
  | none=>False)
 | .grw _ _ _ _=>λb=>(match c.κ k with
  | some (a,cap)=>0 < cap/\a.block=b
  | none=>False)
 | .mat _ n _ h=>λb=>c.β k=b∨∃ (vs:Array Value) (t:TypeId) (i:Nat) (a:Addr) (l cap:Nat),c.w.heap[c.β k]?=some (.cells vs t (0,0))/\i < n/\h≠some i/\vs.getD i undef=.slice (some a) l cap/\l < cap/\a.block=b
structure Objs (c:Cx) (objs:List (Nat×AO)):Prop where
 rep:∀k o,alook objs k=some o->dh c k o
 apart:∀k o k' o' b,alook objs k=some o->alook objs k'=some o'->k≠k'->excl c k o b->¬ excl c k' o' b
 closed:∀k o,alook objs k=some o->∀q∈o.keys,∃o',alook objs q=some o'
theorem il {a b:Nat} (h:¬ a=b):Nat.beq a b=false:=by
 cases hb:Nat.beq a b with
 | false=>rfl
 | true=>exact absurd (Nat.eq_of_beq_eq_true hb) h
theorem du {a b:Nat} (h:Nat.beq a b=true):a=b:=Nat.eq_of_beq_eq_true h
theorem aV {α:Type} (l:List (Nat×α)) (k:Nat) (x:α) (i:Nat):alook (aput l k x) i=if k=i then some x else alook l i:=by
 induction l with
 | nil=>simp only [aput,alook];by_cases h:k=i <;> simp [h,il]
 | cons p r ih=>
  obtain ⟨q,y⟩:=p
  by_cases hq:q=k
  ·subst hq;simp only [aput,Nat.beq_refl,cond_true,alook];by_cases h:q=i <;> simp [h,il]
  ·have hq':Nat.beq q k=false:=il hq
   simp only [aput,hq',cond_false,alook,ih]
   by_cases h:q=i
   ·subst h;simp;intro e;exact absurd e.symm hq
   ·have:Nat.beq q i=false:=il h
    simp [this]
theorem St.jM (s:St) (k:Nat) (o:AO) (i:Nat):(s.setObj k o).obj i=if k=i then some o else s.obj i:=aV _ _ _ _
theorem St.dD (s:St) (d:Nat) (v:AV) (i:Nat):(s.put (some d) v).get i=if d=i then some v else s.get i:=aV _ _ _ _
@[simp] theorem St.GJ (s:St) (d:Option Nat) (v:AV) (i:Nat):(s.put d v).obj i=s.obj i:=by cases d <;> rfl
@[simp] theorem St.Cj (s:St) (k:Nat) (o:AO) (i:Nat):(s.setObj k o).get i=s.get i:=rfl
@[simp] theorem St.dU (s:St) (d:Option Nat) (v:AV):(s.put d v).objs=s.objs:=by cases d <;> rfl
def live (objs:List (Nat×AO)) (k:Nat):Prop:=∃o,alook objs k=some o
structure KeepsBut (c c':Cx) (objs:List (Nat×AO)) (k:Nat):Prop where
 ext:Ext c c' (live objs)
 β:∀q,live objs q->q≠k->c'.β q=c.β q
 κ:∀q,live objs q->q≠k->c'.κ q=c.κ q
 fr:∀q,live objs q->q≠k->c'.fr q=c.fr q
 heap:∀q o b,alook objs q=some o->q≠k->excl c q o b->c'.w.heap[b]?=c.w.heap[b]?/\∀off,c'.I b off->c.I b off
structure KeepsButR (c c':Cx) (objs:List (Nat×AO)) (p:Nat->Prop):Prop where
 ext:ExtR c c' (live objs)
 β:∀q,live objs q->p q->c'.β q=c.β q
 κ:∀q,live objs q->p q->c'.κ q=c.κ q
 fr:∀q,live objs q->p q->c'.fr q=c.fr q
 heap:∀q o b,alook objs q=some o->p q->excl c q o b->c'.w.heap[b]?=c.w.heap[b]?/\∀off,c'.I b off->c.I b off
theorem KeepsBut.toR {c c':Cx} {objs:List (Nat×AO)} {k:Nat} (h:KeepsBut c c' objs k):KeepsButR c c' objs (·≠k):=⟨h.ext.toR,h.β,h.κ,h.fr,h.heap⟩
theorem cW {c c':Cx} {q:Nat} {o:AO} (hβ:c'.β q=c.β q) (hκ:c'.κ q=c.κ q) (hh:∀b,excl c q o b->c'.w.heap[b]?=c.w.heap[b]?):excl c' q o=excl c q o:=by
 cases o with
 | mat sz n g h=>
  have:=hh (c.β q) (.inl rfl)
  funext b
  simp only [excl,hβ,this]
 | _=>funext b;simp only [excl,hβ,hκ]
theorem Objs.nh {c c':Cx} {objs:List (Nat×AO)} {p:Nat->Prop} (h:Objs c objs) (hk:KeepsButR c c' objs p) {q:Nat} {o:AO} (hq:alook objs q=some o) (hne:p q):dh c' q o:=by
 have hr:=h.rep q o hq
 have hl:live objs q:=⟨o,hq⟩
 have hβ:=hk.β q hl hne
 have hκ:=hk.κ q hl hne
 have hf:=hk.fr q hl hne
 cases o with
 | cells cs=>
  obtain ⟨⟨⟨vs,t,hh,hs,hv⟩,h1⟩,hI,hfr⟩:=hr
  have hh':=hk.heap q _ (c.β q) hq hne rfl
  refine ⟨⟨⟨vs,t,?_,hs,λi u hu=>(hv i u hu).nN hk.ext λr hr=>h.closed q _ hq r (by simpa [AO.keys] using aR hu r hr)⟩,h1⟩,?_,hf.trans hfr⟩
  ·rw [hβ,hh'.1];exact hh
  ·intro o ho;rw [hβ] at ho;exact hI o (hh'.2 o ho)
 | arr sz n get=>
  obtain ⟨⟨⟨vs,t,hh,hs,hv⟩,hl',h1⟩,hI,hfr⟩:=hr
  have hh':=hk.heap q _ (c.β q) hq hne rfl
  refine ⟨⟨⟨vs,t,?_,hs,λj i u hj hu=>(hv j i u hj hu).nN hk.ext λr hr=>?_⟩,hl',h1⟩,?_,hf.trans hfr⟩
  ·rw [hβ,hh'.1];exact hh
  ·rw [aM (hl' j hj).2 hu] at hr;simp at hr
  ·intro o ho;rw [hβ] at ho;exact hI o (hh'.2 o ho)
 | frz sz n get=>
  obtain ⟨⟨⟨vs,t,hh,hs,hv⟩,hl',h1⟩,hI,hfr⟩:=hr
  have hh':=hk.heap q _ (c.β q) hq hne rfl
  refine ⟨⟨⟨vs,t,?_,hs,λj i u hj hu=>(hv j i u hj hu).nN hk.ext λr hr=>?_⟩,hl',h1⟩,?_,hf.trans hfr⟩
  ·rw [hβ,hh'.1];exact hh
  ·rw [aM (hl' j hj).2 hu] at hr;simp at hr
  ·intro o ho;rw [hβ];exact (hk.ext.cell _ _ (vs[o]'(by omega)) (hI o ho) (by simp [World.cell?,hh])).2
 | own sz n=>
  obtain ⟨h0,hfr,hm⟩:=hr
  refine ⟨h0,hf.trans hfr,?_⟩
  rw [hκ]
  cases hc:c.κ q with
  | none=>simpa [hc] using hm
  | some p=>
   obtain ⟨a,cap⟩:=p
   simp only [hc] at hm ⊢
   obtain ⟨h1,h2,h3⟩:=hm
   refine ⟨h1,h2,λhlt=>?_⟩
   obtain ⟨⟨vs,t,hh,hs⟩,hoff,hfree⟩:=h3 hlt
   have hh':=hk.heap q _ a.block hq hne (by simp [excl,hc,hlt])
   exact ⟨⟨vs,t,hh'.1.trans hh,hs⟩,hoff,λo ho hi=>hfree o ho (hh'.2 o hi)⟩
 | grw sq sz n get=>
  obtain ⟨h0,hfr,hm⟩:=hr
  refine ⟨h0,hf.trans hfr,?_⟩
  rw [hκ]
  cases hc:c.κ q with
  | none=>simpa [hc] using hm
  | some p=>
   obtain ⟨a,cap⟩:=p
   simp only [hc] at hm ⊢
   obtain ⟨h2,h3⟩:=hm
   refine ⟨h2,λhlt=>?_⟩
   obtain ⟨⟨vs,t,hh,hs,hv⟩,had,hl',h1,hfree⟩:=h3 hlt
   have hh':=hk.heap q _ a.block hq hne (by simp [excl,hc,hlt])
   exact ⟨⟨vs,t,hh'.1.trans hh,hs,λj i u hj hu=>(hv j i u hj hu).nN hk.ext λr hr=>by rw [aM (hl' j hj).2 hu] at hr;simp at hr⟩,had,hl',h1,λo ho hi=>hfree o ho (hh'.2 o hi)⟩
 | iter s p=>
  obtain ⟨hh,hI,hfr⟩:=hr
  have hh':=hk.heap q _ (c.β q) hq hne rfl
  exact ⟨by rw [hβ,hh'.1];exact hh,λo ho=>by rw [hβ] at ho;exact hI o (hh'.2 o ho),hf.trans hfr⟩
 | mp ka ks dom get=>
  obtain ⟨⟨⟨es,clock,ms,hh,h1,h2,h3,h4⟩,hp⟩,hI,hfr⟩:=hr
  have hh':=hk.heap q _ (c.β q) hq hne rfl
  refine ⟨⟨⟨es,clock,ms,by rw [hβ,hh'.1];exact hh,h1,λm hm=>?_,h3,h4⟩,hp⟩,λo ho=>by rw [hβ] at ho;exact hI o (hh'.2 o ho),hf.trans hfr⟩
  obtain ⟨e1,e2,e3⟩:=h2 m hm
  exact ⟨e1,e2,e3.nN hk.ext λr hr=>by rw [hp _ e1 e2] at hr;simp at hr⟩
 | mat sz n g h=>
  obtain ⟨⟨⟨vs,t,hh,hs,h1,h2,h3⟩,h0⟩,hI,hfr⟩:=hr
  have hh':=hk.heap q _ (c.β q) hq hne (.inl rfl)
  refine ⟨⟨⟨vs,t,by rw [hβ,hh'.1];exact hh,hs,λi hi=>(h1 i hi).nN hk.ext λr hr=>by simp [AV.keys] at hr,λi hi hn a l cap hv hl=>?_,h3⟩,h0⟩,λo ho=>by rw [hβ] at ho;exact hI o (hh'.2 o ho),hf.trans hfr⟩
  obtain ⟨⟨⟨vs',t',g1,g2⟩,g3,g4⟩,g5⟩:=h2 i hi hn a l cap hv hl
  have hb:=hk.heap q _ a.block hq hne (.inr ⟨vs,t,i,a,l,cap,hh,hi,hn,hv,hl,rfl⟩)
  exact ⟨⟨⟨vs',t',hb.1.trans g1,g2⟩,g3,λo ho hi'=>g4 o ho (hb.2 o hi')⟩,by rw [hβ];exact g5⟩
 | gone=>trivial
theorem Objs.ua {c c':Cx} {objs:List (Nat×AO)} {k:Nat} (h:Objs c objs) (hk:KeepsBut c c' objs k) {q:Nat} {o:AO} (hq:alook objs q=some o) (hne:q≠k):dh c' q o:=h.nh hk.toR hq hne
theorem Objs.put {c c':Cx} {objs:List (Nat×AO)} {k:Nat} {o:AO} (h:Objs c objs) (hk:KeepsBut c c' objs k)
  (hr:dh c' k o) (ha:∀q o' b,alook objs q=some o'->q≠k->excl c q o' b->¬ excl c' k o b)
  (hc:∀r∈o.keys,r=k∨live objs r):Objs c' (aput objs k o):=by
 refine ⟨λq o' hq=>?_,λq o' q' o'' b hq hq' hne hb=>?_,λq o' hq r hr'=>?_⟩
 ·rw [aV] at hq
  by_cases e:k=q
  ·subst e;simp at hq;subst hq;exact hr
  ·simp [e] at hq;exact h.ua hk hq (λe'=>e e'.symm)
 ·rw [aV] at hq hq'
  by_cases e:k=q
  ·subst e;simp at hq;subst hq
   simp [hne] at hq'
   intro hb'
   have:=cW (o:=o'') (hk.β q' ⟨_,hq'⟩ (Ne.symm hne)) (hk.κ q' ⟨_,hq'⟩ (Ne.symm hne)) λb hb=>(hk.heap q' o'' b hq' (Ne.symm hne) hb).1
   exact ha q' o'' b hq' (Ne.symm hne) (this ▸ hb') hb
  ·simp [e] at hq
   have e1:=cW (o:=o') (hk.β q ⟨_,hq⟩ (λe'=>e e'.symm)) (hk.κ q ⟨_,hq⟩ (λe'=>e e'.symm)) λb hb=>(hk.heap q o' b hq (λe'=>e e'.symm) hb).1
   by_cases e':k=q'
   ·subst e';simp at hq';subst hq';exact ha q o' b hq (λx=>e x.symm) (e1 ▸ hb)
   ·simp [e'] at hq'
    have e2:=cW (o:=o'') (hk.β q' ⟨_,hq'⟩ (λx=>e' x.symm)) (hk.κ q' ⟨_,hq'⟩ (λx=>e' x.symm)) λb hb=>(hk.heap q' o'' b hq' (λx=>e' x.symm) hb).1
    rw [e2];exact h.apart q o' q' o'' b hq hq' hne (e1 ▸ hb)
 ·rw [aV] at hq
  by_cases e:k=q
  ·subst e;simp at hq;subst hq
   rcases hc r hr' with rfl | ⟨o2,h2⟩
   ·exact ⟨o,by simp [aV]⟩
   ·by_cases e2:k=r
    ·exact ⟨o,by simp [aV,e2]⟩
    ·exact ⟨o2,by simp [aV,e2,h2]⟩
  ·simp [e] at hq
   obtain ⟨o2,h2⟩:=h.closed q o' hq r hr'
   by_cases e2:k=r
   ·exact ⟨o,by simp [aV,e2]⟩
   ·exact ⟨o2,by simp [aV,e2,h2]⟩
structure Keeps (c c':Cx) (objs:List (Nat×AO)):Prop where
 ext:Ext c c' (live objs)
 β:∀q,live objs q->c'.β q=c.β q
 κ:∀q,live objs q->c'.κ q=c.κ q
 fr:∀q,live objs q->c'.fr q=c.fr q
 heap:∀q o b,alook objs q=some o->excl c q o b->c'.w.heap[b]?=c.w.heap[b]?/\∀off,c'.I b off->c.I b off
theorem Keeps.but {c c':Cx} {objs:List (Nat×AO)} (h:Keeps c c' objs) (k:Nat):KeepsBut c c' objs k:=
 ⟨h.ext,λq hq _=>h.β q hq,λq hq _=>h.κ q hq,λq hq _=>h.fr q hq,λq o b hq _=>h.heap q o b hq⟩
theorem Objs.keep {c c':Cx} {objs:List (Nat×AO)} (h:Objs c objs) (hk:Keeps c c' objs):Objs c' objs:=by
 refine ⟨λq o hq=>?_,λq o q' o' b hq hq' hne hb=>?_,h.closed⟩
 ·exact h.ua (hk.but (q+1)) hq (by omega)
 ·rw [cW (hk.β q' ⟨_,hq'⟩) (hk.κ q' ⟨_,hq'⟩) λb hb=>(hk.heap q' o' b hq' hb).1]
  rw [cW (hk.β q ⟨_,hq⟩) (hk.κ q ⟨_,hq⟩) λb hb=>(hk.heap q o b hq hb).1] at hb
  exact h.apart q o q' o' b hq hq' hne hb
structure Good (G:Nat->Option (List AV)) (c:Cx):Prop where
 there:∀b o,c.I b o->(∃v,c.w.cell? ⟨b,o,none⟩=some v)∨∃ob,c.w.heap[b]?=some ob/\fL ob=false
 globs:∀g cs,G g=some cs->Rep c (.elt cs 0) (.pointer (some ⟨g,0,none⟩))
end Go.Ab

namespace Go.Ab
open Go Go.RowKit
theorem World.bN {w w':World} {b:Nat} (h:w'.heap[b]?=w.heap[b]?) (o:Nat):w'.cell? ⟨b,o,none⟩=w.cell? ⟨b,o,none⟩:=by
 unfold World.cell?;simp only [h]
theorem aY {w:World} {b o:Nat} {cs:Array Value} {t:TypeId} {fz:Nat×Nat} (h:w.heap[b]?=some (.cells cs t fz)):w.cell? ⟨b,o,none⟩=cs[o]?:=by
 simp [World.cell?,h]
theorem pC {w:World} {b o:Nat} {cs:Array Value} {t:TypeId} (h:w.heap[b]?=some (.cells cs t (0,0))):w.frozen? ⟨b,o,none⟩=false:=by
 simp [World.frozen?,h]
theorem aB (w:World) (o:Obj) (b:Nat) (h:b < w.heap.size):(w.alloc o).heap[b]?=w.heap[b]?:=by
 show (w.heap.push o)[b]?=_
 rw [Array.getElem?_push,if_neg (Nat.ne_of_lt h)]
theorem bc (w:World) (o:Obj):(w.alloc o).heap[w.heap.size]?=some o:=by
 show (w.heap.push o)[w.heap.size]?=_
 simp
theorem aQ {w:World} {b:Nat} {o:Obj} (h:w.heap[b]?=some o):b < w.heap.size:=by
 rcases Nat.lt_or_ge b w.heap.size with h' | h'
 ·exact h'
 ·simp [Array.getElem?_eq_none h'] at h
theorem dN {w:World} {b o:Nat} {v:Value} (h:w.cell? ⟨b,o,none⟩=some v):b < w.heap.size:=World.block_lt_of_cell? (a:=⟨b,o,none⟩) w h
structure Base where
 c0:Cx
 D:Nat->Prop
 K:Nat->Prop
 G:Nat->Option (List AV)
 N:Nat
 low:Option Nat:=some c0.w.heap.size
structure Frame (B:Base) (c:Cx):Prop where
 os:c.w.os=B.c0.w.os
 output:c.w.output=B.c0.w.output
 tape:c.w.tape=B.c0.w.tape
 size:B.c0.w.heap.size<=c.w.heap.size
 block:∀b,b < B.c0.w.heap.size->¬ B.D b->c.w.heap[b]?=B.c0.w.heap[b]?
 ext:Ext B.c0 c B.K
 new:∀b o,b < B.c0.w.heap.size->¬ B.D b->c.I b o->B.c0.I b o
structure Grow (B:Base) (c c':Cx):Prop where
 os:c'.w.os=c.w.os
 output:c'.w.output=c.w.output
 tape:c'.w.tape=c.w.tape
 size:c.w.heap.size<=c'.w.heap.size
 block:∀b,b < B.c0.w.heap.size->¬ B.D b->c'.w.heap[b]?=c.w.heap[b]?
 new:∀b o,b < B.c0.w.heap.size->¬ B.D b->c'.I b o->c.I b o
 there:∀b o,c'.I b o->(∃v,c'.w.cell? ⟨b,o,none⟩=some v)∨∃ob,c'.w.heap[b]?=some ob/\fL ob=false
theorem Good.lt {G:Nat->Option (List AV)} {c:Cx} (h:Good G c) {b o:Nat} (hi:c.I b o):b < c.w.heap.size:=by
 rcases h.there b o hi with ⟨v,hv⟩ | ⟨ob,he,_⟩
 ·exact dN hv
 ·exact aQ he
theorem Good.block {G:Nat->Option (List AV)} {c:Cx} (h:Good G c) {w':World} {b o:Nat} (hi:c.I b o) (hb:w'.heap[b]?=c.w.heap[b]?):(∃v,w'.cell? ⟨b,o,none⟩=some v)∨∃ob,w'.heap[b]?=some ob/\fL ob=false:=by
 rcases h.there b o hi with ⟨v,hv⟩ | ⟨ob,he,hc⟩
 ·exact .inl ⟨v,by rw [World.bN hb];exact hv⟩
 ·exact .inr ⟨ob,hb.trans he,hc⟩
theorem Ext.there {G:Nat->Option (List AV)} {c c':Cx} {ks:Nat->Prop} (e:Ext c c' ks) (h:Good G c) {b o:Nat} (hi:c.I b o):(∃v,c'.w.cell? ⟨b,o,none⟩=some v)∨∃ob,c'.w.heap[b]?=some ob/\fL ob=false:=by
 rcases h.there b o hi with ⟨v,hv⟩ | ⟨ob,he,hc⟩
 ·exact .inl ⟨v,e.cell b o v hi hv⟩
 ·exact .inr ⟨ob,e.map b o ob hi he hc,hc⟩
theorem Frame.grow {B:Base} {c c':Cx} {ks:Nat->Prop} (h:Frame B c) (e:Ext c c' ks) (g:Grow B c c') (hk:∀k,B.K k->ks k):Frame B c':=
 ⟨g.os.trans h.os,g.output.trans h.output,g.tape.trans h.tape,Nat.le_trans h.size g.size,λb hb hd=>(g.block b hb hd).trans (h.block b hb hd),
  h.ext.trans (e.sub hk),λb o hb hd hi=>h.new b o hb hd (g.new b o hb hd hi)⟩
theorem Good.grow {B:Base} {c c':Cx} {ks:Nat->Prop} (h:Good B.G c) (e:Ext c c' ks) (g:Grow B c c'):Good B.G c':=
 ⟨g.there,λgl cs hg=>(h.globs gl cs hg).ext (ks:=ks) e (by simp [AV.keys])⟩
def dQ (c:Cx) (a:Act) (t:Nat):AV->Prop
 | .grd tc w v=>(a.tmps.getD tc undef=.bool w->Rep c v (a.tmps.getD t undef))/\(a.tmps.getD tc undef≠.bool w->a.tmps.getD t undef=undef)
 | v=>Rep c v (a.tmps.getD t undef)
theorem dQ.ext {c c':Cx} {a:Act} {t:Nat} {v:AV} {ks:Nat->Prop} (h:dQ c a t v) (e:Ext c c' ks) (hk:∀k∈v.keys,ks k):dQ c' a t v:=by
 cases v with
 | grd tc w v=>exact ⟨λhw=>(h.1 hw).ext e (by simpa [AV.keys] using hk),h.2⟩
 | _=>exact Rep.ext h e hk
def Defs (B:Base) (c:Cx):List Deferred->Prop
 | []=>True
 | d::r=>(∃D,d={target:=.collected D,args:=#[]}/\(∃m,B.low=some m/\m<=D)/\c.I D 0/\c.w.heap[D]?=some (.deferred (some []))/\∀d'∈r,d'.target≠.collected D)/\Defs B c r
theorem Defs.ext {B:Base} {c c':Cx} {ks:Nat->Prop} (e:Ext c c' ks):∀ {l:List Deferred},Defs B c l->Defs B c' l
 | [],_=>trivial
 | _::_,⟨⟨D,h1,h2,h3,h4,h5⟩,h6⟩=>⟨⟨D,h1,h2,e.I D 0 h3,e.map D 0 _ h3 h4 rfl,h5⟩,Defs.ext e h6⟩
structure Rel (B:Base) (c:Cx) (s:St) (a:Act):Prop where
 good:Good B.G c
 frame:Frame B c
 objs:Objs c s.objs
 env:∀t v,s.get t=some v->dQ c a t v
 closed:∀t v,s.get t=some v->∀k∈v.keys,live s.objs k
 mine:∀k o b,s.obj k=some o->excl c k o b->B.c0.w.heap.size<=b∨B.D b
 tmps:a.tmps.size=B.N
 defers:Defs B c a.defers
 kept:∀k,B.K k->live s.objs k
theorem Rel.keep {B:Base} {c c':Cx} {s:St} {a:Act} (h:Rel B c s a) (k:Keeps c c' s.objs) (g:Grow B c c'):Rel B c' s a:=
 ⟨h.good.grow k.ext g,h.frame.grow k.ext g h.kept,h.objs.keep k,λt v hv=>(h.env t v hv).ext k.ext (h.closed t v hv),h.closed,
  λq o b hq hb=>h.mine q o b hq (by rwa [cW (k.β q ⟨o,hq⟩) (k.κ q ⟨o,hq⟩) λb hb=>(k.heap q o b hq hb).1] at hb),h.tmps,h.defers.ext k.ext,h.kept⟩
theorem jn {objs:List (Nat×AO)} {k:Nat} {o:AO} {q:Nat} (h:live objs q):live (aput objs k o) q:=by
 obtain ⟨o',h⟩:=h
 by_cases e:k=q
 ·exact ⟨o,by simp [aV,e]⟩
 ·exact ⟨o',by simp [aV,e,h]⟩
theorem a7 {objs:List (Nat×AO)} {k:Nat} {o:AO}:live (aput objs k o) k:=⟨o,by simp [aV]⟩
theorem Rel.obj {B:Base} {c c':Cx} {s:St} {a:Act} {k:Nat} {o:AO} (h:Rel B c s a) (kb:KeepsBut c c' s.objs k) (g:Grow B c c')
  (hr:dh c' k o) (ha:∀q o' b,alook s.objs q=some o'->q≠k->excl c q o' b->¬ excl c' k o b)
  (hc:∀r∈o.keys,r=k∨live s.objs r) (hm:∀b,excl c' k o b->B.c0.w.heap.size<=b∨B.D b):Rel B c' (s.setObj k o) a:=
 ⟨h.good.grow kb.ext g,h.frame.grow kb.ext g h.kept,h.objs.put kb hr ha hc,λt v hv=>(h.env t v hv).ext kb.ext (h.closed t v hv),
  λt v hv q hq=>jn (h.closed t v hv q hq),
  λq o' b hq hb=>by
   rw [St.jM] at hq
   by_cases e:k=q
   ·subst e;simp at hq;subst hq;exact hm b hb
   ·simp [e] at hq
    exact h.mine q o' b hq (by rwa [cW (kb.β q ⟨o',hq⟩ (λx=>e x.symm)) (kb.κ q ⟨o',hq⟩ (λx=>e x.symm)) λb hb=>(kb.heap q o' b hq (λx=>e x.symm) hb).1] at hb),
  h.tmps,h.defers.ext kb.ext,λq hq=>jn (h.kept q hq)⟩
theorem gz {xs:Array Value} {d:Nat} {x:Value} {t:Nat} (hd:d < xs.size):(xs.setIfInBounds d x).getD t undef=if d=t then x else xs.getD t undef:=by
 simp only [Array.getD_eq_getD_getElem?,Array.getElem?_setIfInBounds]
 by_cases e:d=t
 ·subst e;simp [hd]
 ·simp [e]
def gE (s:St) (d:Nat):Prop:=∀t tc w v,s.get t=some (.grd tc w v)->tc≠d
theorem dQ.nr {c:Cx} {a:Act} {t:Nat} {v:AV} (hg:v.cA=false) (h:Rep c v (a.tmps.getD t undef)):dQ c a t v:=by
 cases v <;> first | exact h | simp [AV.cA] at hg
theorem dQ.other {c:Cx} {a:Act} {t d:Nat} {v:AV} {x:Value} (h:dQ c a t v) (hd:d < a.tmps.size) (hne:d≠t) (hf:∀tc w v',v=.grd tc w v'->tc≠d) :
  dQ c (a.put (some d) x) t v:=by
 have e1:(a.put (some d) x).tmps.getD t undef=a.tmps.getD t undef:=by simp only [Act.put];rw [gz hd,if_neg hne]
 cases v with
 | grd tc w v=>
  have e2:(a.put (some d) x).tmps.getD tc undef=a.tmps.getD tc undef:=by simp only [Act.put];rw [gz hd,if_neg (λe=>hf tc w v rfl e.symm)]
  simp only [dQ,e1,e2];exact h
 | _=>simp only [dQ,e1];exact h
theorem Rel.put {B:Base} {c:Cx} {s:St} {a:Act} {d:Nat} {v:AV} {x:Value} (h:Rel B c s a) (hd:d < B.N) (hr:Rep c v x) (hg:v.cA=false)
  (hk:∀k∈v.keys,live s.objs k) (hf:gE s d):Rel B c (s.put (some d) v) (a.put (some d) x):=by
 refine ⟨h.good,h.frame,by rw [St.dU];exact h.objs,λt u hu=>?_,λt u hu k hk'=>?_,λk o b ho=>h.mine k o b (by simpa using ho),?_,h.defers,by rw [St.dU];exact h.kept⟩
 ·rw [St.dD] at hu
  by_cases e:d=t
  ·subst e;simp at hu;subst hu
   refine dQ.nr hg ?_
   simp only [Act.put];rw [gz (by rw [h.tmps];exact hd),if_pos rfl];exact hr
  ·simp [e] at hu
   exact (h.env t u hu).other (by rw [h.tmps];exact hd) e (λtc w v' e'=>hf t tc w v' (e' ▸ hu))
 ·rw [St.dU]
  rw [St.dD] at hu
  by_cases e:d=t
  ·subst e;simp at hu;subst hu;exact hk k hk'
  ·simp [e] at hu;exact h.closed t u hu k hk'
 ·simp only [Act.put,Array.size_setIfInBounds];exact h.tmps
theorem Rel.Dg {B:Base} {c:Cx} {s:St} {a:Act} {d t:Nat} {w:Bool} {v:AV} {x:Value} (h:Rel B c s a) (hd:d < B.N) (hdt:d≠t)
  (hr:a.tmps.getD t undef=.bool w->Rep c v x) (hu:a.tmps.getD t undef≠.bool w->x=undef)
  (hk:∀k∈v.keys,live s.objs k) (hf:gE s d):Rel B c (s.put (some d) (.grd t w v)) (a.put (some d) x):=by
 have hsz:d < a.tmps.size:=by rw [h.tmps];exact hd
 have e1:(a.put (some d) x).tmps.getD d undef=x:=by simp only [Act.put];rw [gz hsz,if_pos rfl]
 have e2:(a.put (some d) x).tmps.getD t undef=a.tmps.getD t undef:=by simp only [Act.put];rw [gz hsz,if_neg hdt]
 refine ⟨h.good,h.frame,by rw [St.dU];exact h.objs,λq u hu'=>?_,λq u hu' k hk'=>?_,λk o b ho=>h.mine k o b (by simpa using ho),?_,h.defers,by rw [St.dU];exact h.kept⟩
 ·rw [St.dD] at hu'
  by_cases e:d=q
  ·subst e;simp at hu';subst hu'
   simp only [dQ,e1,e2];exact ⟨hr,hu⟩
  ·simp [e] at hu'
   exact (h.env q u hu').other hsz e (λtc w v' e'=>hf q tc w v' (e' ▸ hu'))
 ·rw [St.dU]
  rw [St.dD] at hu'
  by_cases e:d=q
  ·subst e;simp at hu';subst hu';exact hk k (by simpa [AV.keys] using hk')
  ·simp [e] at hu';exact h.closed q u hu' k hk'
 ·simp only [Act.put,Array.size_setIfInBounds];exact h.tmps
theorem Rel.less {B:Base} {c:Cx} {s s':St} {a:Act} (h:Rel B c s a) (hkept:∀k,B.K k->live s'.objs k) (he:∀t v,s'.get t=some v->s.get t=some v) (ho:∀k o,s'.obj k=some o->s.obj k=some o)
  (hc:∀t v,s'.get t=some v->∀k∈v.keys,live s'.objs k) (hoc:∀k o,s'.obj k=some o->∀q∈o.keys,live s'.objs q):Rel B c s' a:=
 ⟨h.good,h.frame,⟨λk o hk=>h.objs.rep k o (ho k o hk),λk o k' o' b hk hk'=>h.objs.apart k o k' o' b (ho k o hk) (ho k' o' hk'),hoc⟩,
  λt v hv=>h.env t v (he t v hv),hc,λk o b hk=>h.mine k o b (ho k o hk),h.tmps,h.defers,hkept⟩
def Cx.drew (c:Cx):Cx:={c with w:=c.w.drew}
theorem Cx.hZ (c:Cx) (objs:List (Nat×AO)):Keeps c c.drew objs:=
 ⟨⟨λ_ _ _ _ h=>h,λ_ _ h=>h,λ_ _=>rfl,λ_ _ _ _ h=>h,λ_ _ _ _ h _=>h⟩,λ_ _=>rfl,λ_ _=>rfl,λ_ _=>rfl,λ_ _ _ _ _=>⟨rfl,λ_ h=>h⟩⟩
theorem Cx.drew_grow {B:Base} {c:Cx} (h:Good B.G c):Grow B c c.drew:=⟨rfl,rfl,rfl,Nat.le_refl _,λ_ _ _=>rfl,λ_ _ _ _ h=>h,h.there⟩
def Cx.row (c:Cx) (vs:Array Value) (t:TypeId) (fz:Nat×Nat) (n:Nat):Cx:=
 {c with w:=c.w.alloc (.cells vs t fz),I:=λb o=>c.I b o∨(b=c.w.heap.size/\o < n)}
theorem ln {G:Nat->Option (List AV)} {c c':Cx} {ks:Nat->Prop} {o:Obj} (_hg:Good G c) (hw:c'.w=c.w.alloc o) (hI:∀b o,c.I b o->c'.I b o)
  (hβ:∀k,ks k->c'.β k=c.β k) (hκ:∀k,ks k->c'.κ k=c.κ k) (hf:∀k,ks k->c'.fr k=c.fr k):Ext c c' ks:=by
 refine ⟨λb off v hi hv=>?_,hI,hβ,λk hk n v=>?_,λb off ob hi he _=>?_⟩
 ·rw [hw,World.bN (aB c.w o b (dN hv))];exact hv
 ·simp only [aG,hκ k hk,hf k hk];exact id
 ·rw [hw,aB c.w o b (aQ he)];exact he
theorem cq {c:Cx} {k:Nat} {o:AO} {b:Nat} (h:dh c k o) (hb:excl c k o b):b < c.w.heap.size:=by
 cases o with
 | cells cs=>obtain ⟨⟨⟨vs,t,hh,_⟩,_⟩,_⟩:=h;simp [excl] at hb;subst hb;exact aQ hh
 | arr sz n get=>obtain ⟨⟨⟨vs,t,hh,_⟩,_⟩,_⟩:=h;simp [excl] at hb;subst hb;exact aQ hh
 | frz sz n get=>obtain ⟨⟨⟨vs,t,hh,_⟩,_⟩,_⟩:=h;simp [excl] at hb;subst hb;exact aQ hh
 | own sz n=>
  obtain ⟨_,_,hm⟩:=h
  cases hc:c.κ k with
  | none=>simp [excl,hc] at hb
  | some p=>
   obtain ⟨a,cap⟩:=p
   simp [excl,hc] at hb
   simp only [hc] at hm
   obtain ⟨⟨vs,t,hh,_⟩,_⟩:=hm.2.2 hb.1
   rw [<-hb.2];exact aQ hh
 | grw sq sz n get=>
  obtain ⟨_,_,hm⟩:=h
  cases hc:c.κ k with
  | none=>simp [excl,hc] at hb
  | some p=>
   obtain ⟨a,cap⟩:=p
   simp [excl,hc] at hb
   simp only [hc] at hm
   obtain ⟨⟨vs,t,hh,_⟩,_⟩:=hm.2 hb.1
   rw [<-hb.2];exact aQ hh
 | iter s p=>obtain ⟨hh,_⟩:=h;simp [excl] at hb;subst hb;exact aQ hh
 | mp ka ks dom get=>obtain ⟨⟨⟨es,clock,ms,hh,_⟩,_⟩,_⟩:=h;simp [excl] at hb;subst hb;exact aQ hh
 | mat sz n g o=>
  obtain ⟨⟨⟨vs,t,hh,_,_,h2,_⟩,_⟩,_⟩:=h
  rcases hb with hb | ⟨vs',t',i,a,l,cap,e,hi,hn,hv,hl,hb⟩
  ·rw [<-hb];exact aQ hh
  ·rw [hh] at e;injection e with e;injection e with e;subst e
   obtain ⟨⟨⟨vs',t',g1,_⟩,_⟩,_⟩:=h2 i hi hn a l cap hv hl
   rw [<-hb];exact aQ g1
 | gone=>simp [excl] at hb
theorem Cx.kJ {G:Nat->Option (List AV)} {c:Cx} (hg:Good G c) {objs:List (Nat×AO)} (ho:Objs c objs) (vs:Array Value) (t:TypeId) (fz:Nat×Nat) (n:Nat):Keeps c (c.row vs t fz n) objs:=by
 refine ⟨ln hg rfl (λ_ _ h=>.inl h) (λ_ _=>rfl) (λ_ _=>rfl) (λ_ _=>rfl),λ_ _=>rfl,λ_ _=>rfl,λ_ _=>rfl,λq o b hq hb=>?_⟩
 have hlt:=cq (ho.rep q o hq) hb
 refine ⟨aB _ _ _ hlt,λoff hi=>?_⟩
 rcases hi with hi | ⟨rfl,_⟩
 ·exact hi
 ·omega
theorem Cx.mS {B:Base} {c:Cx} (hg:Good B.G c) (hf:Frame B c) (vs:Array Value) (t:TypeId) (fz:Nat×Nat) (n:Nat) (hn:n<=vs.size):Grow B c (c.row vs t fz n):=by
 refine ⟨rfl,rfl,rfl,by simp [Cx.row],λb hb _=>aB _ _ _ (Nat.lt_of_lt_of_le hb hf.size),λb o hb _ hi=>?_,λb o hi=>?_⟩
 ·rcases hi with hi | ⟨rfl,_⟩
  ·exact hi
  ·have:=hf.size;omega
 ·rcases hi with hi | ⟨rfl,ho⟩
  ·exact hg.block hi (aB c.w _ b (hg.lt hi))
  ·exact .inl ⟨vs[o],by show (c.w.alloc _).cell? _=_;rw [aY (bc c.w _)];simp⟩
theorem Keeps.trans {a b c:Cx} {objs:List (Nat×AO)} (h:Keeps a b objs) (k:Keeps b c objs):Keeps a c objs:=
 ⟨h.ext.trans k.ext,λq hq=>(k.β q hq).trans (h.β q hq),λq hq=>(k.κ q hq).trans (h.κ q hq),λq hq=>(k.fr q hq).trans (h.fr q hq),
  λq o bl hq hb=>by
   have h1:=h.heap q o bl hq hb
   have h2:=k.heap q o bl hq (by rw [cW (h.β q ⟨o,hq⟩) (h.κ q ⟨o,hq⟩) λb hb=>(h.heap q o b hq hb).1];exact hb)
   exact ⟨h2.1.trans h1.1,λoff hi=>h1.2 off (h2.2 off hi)⟩⟩
theorem Grow.trans {B:Base} {a b c:Cx} (h:Grow B a b) (k:Grow B b c):Grow B a c:=
 ⟨k.os.trans h.os,k.output.trans h.output,k.tape.trans h.tape,Nat.le_trans h.size k.size,λbl hb hd=>(k.block bl hb hd).trans (h.block bl hb hd),
  λbl o hb hd hi=>h.new bl o hb hd (k.new bl o hb hd hi),k.there⟩
def Cx.var (c:Cx) (k:Nat) (vs:Array Value) (t:TypeId):Cx:=
 {c with w:=c.w.alloc (.cells vs t),β:=λq=>if q=k then c.w.heap.size else c.β q,fr:=λq=>if q=k then none else c.fr q}
theorem fA {objs:List (Nat×AO)} {k q:Nat} (hk:alook objs k=none) (hq:live objs q):q≠k:=by
 rintro rfl;obtain ⟨o,h⟩:=hq;simp [hk] at h
theorem Cx.p6 {G:Nat->Option (List AV)} {c:Cx} (hg:Good G c) {objs:List (Nat×AO)} (ho:Objs c objs) {k:Nat} (hk:alook objs k=none) (vs:Array Value) (t:TypeId):KeepsBut c (c.var k vs t) objs k:=by
 refine ⟨ln hg rfl (λ_ _ h=>h) (λq hq=>by simp [Cx.var,fA hk hq]) (λ_ _=>rfl) (λq hq=>by simp [Cx.var,fA hk hq]),λq _ hne=>by simp [Cx.var,hne],λ_ _ _=>rfl,λq _ hne=>by simp [Cx.var,hne],λq o b hq _ hb=>?_⟩
 exact ⟨aB _ _ _ (cq (ho.rep q o hq) hb),λ_ h=>h⟩
theorem Cx.yw {B:Base} {c:Cx} (hg:Good B.G c) (hf:Frame B c) (k:Nat) (vs:Array Value) (t:TypeId):Grow B c (c.var k vs t):=by
 refine ⟨rfl,rfl,rfl,by simp [Cx.var],λb hb _=>aB _ _ _ (Nat.lt_of_lt_of_le hb hf.size),λb o hb _ hi=>hi,λb o hi=>?_⟩
 exact hg.block hi (aB c.w _ b (hg.lt hi))
def Cx.write (c:Cx) (w':World):Cx:={c with w:=w'}
structure Wrote (c:Cx) (b:Nat) (w':World):Prop where
 os:w'.os=c.w.os
 output:w'.output=c.w.output
 tape:w'.tape=c.w.tape
 size:w'.heap.size=c.w.heap.size
 other:∀b',b'≠b->w'.heap[b']?=c.w.heap[b']?
theorem Cx.dy {c:Cx} {objs:List (Nat×AO)} (ho:Objs c objs) {k:Nat} {o:AO} {b:Nat} {w':World} (hk:alook objs k=some o) (hb:excl c k o b) (hI:∀off,¬ c.I b off) (hw:Wrote c b w') :
  KeepsBut c (c.write w') objs k:=by
 refine ⟨⟨λb' off v hi hv=>?_,λ_ _ h=>h,λ_ _=>rfl,λ_ _ _ _ h=>h,λb' off ob hi he _=>(hw.other b' (λe=>hI off (e ▸ hi))).trans he⟩,λ_ _ _=>rfl,λ_ _ _=>rfl,λ_ _ _=>rfl,λq o' b' hq hne hb'=>⟨hw.other b' ?_,λ_ h=>h⟩⟩
 ·show w'.cell? _=_
  rw [World.bN (hw.other b' (λe=>hI off (e ▸ hi)))];exact hv
 ·rintro rfl;exact ho.apart q o' k o b' hq hk hne hb' hb
theorem Cx.eo {B:Base} {c:Cx} (hg:Good B.G c) {b:Nat} {w':World} (hI:∀off,¬ c.I b off) (hw:Wrote c b w') (hm:B.c0.w.heap.size<=b∨B.D b):Grow B c (c.write w'):=by
 refine ⟨hw.os,hw.output,hw.tape,Nat.le_of_eq hw.size.symm,λb' hb' hd=>hw.other b' ?_,λ_ _ _ _ h=>h,λb' o hi=>?_⟩
 ·rintro rfl;rcases hm with h | h
  ·omega
  ·exact hd h
 ·exact hg.block hi (hw.other b' (λe=>hI o (e ▸ hi)))
end Go.Ab

namespace Go.Ab
open Go
section
variable {P:Program} (w:World)
theorem eS {t:TypeId} {k:KD} (h:oC P t=some k) {xs:Array Value} {off:Nat} {v:Value} (hv:xs[off]?=some v):(part t xs off).run P w=.ok v w:=by
 unfold oC at h
 cases hu:P.underlying t with
 | none=>simp [hu] at h
 | some d=>
  cases d <;> simp [hu] at h
  all_goals simp [part,isAgg,run_underlying hu,hv]
theorem gC (s:List UInt8):(⟨s.toArray⟩:ByteArray).toList=s:=by rw [ByteArray.toList_eq]
theorem gG (d:Nat) {t:TypeId} {k:KD} (h:oC P t=some k) {u v:AV} (hu:k.fits u=true) (hv:k.fits v=true):(Op.equalIn (d+1) t (lB u) (lB v)).run P w=.ok (eqC u v) w:=by
 unfold oC at h
 cases ht:P.underlying t with
 | none=>simp [ht] at h
 | some e=>
  cases e <;> simp [ht] at h
  all_goals
   subst h
   cases u <;> simp [KD.fits] at hu
   all_goals
    cases v <;> simp [KD.fits] at hv
    first
    | exact run_equalIn_bool w d t _ _ ht
    | (subst hu;subst hv;simp only [lB,eqC,decide_true,Bool.true_and];exact run_equalIn_int w d t _ _ _ _ ht)
    | (simp only [lB,eqC];rw [run_equalIn_string w d t _ _ ht,gC,gC])
theorem ou {t:TypeId} {k:KD} (h:oC P t=some k) {u v:AV} (hu:k.fits u=true) (hv:k.fits v=true):∃e,P.underlying t=some e/\Instr.sameNow e (lB u) (lB v)=some (eqC u v):=by
 unfold oC at h
 cases ht:P.underlying t with
 | none=>simp [ht] at h
 | some e=>
  refine ⟨e,rfl,?_⟩
  cases e <;> simp [ht] at h
  all_goals
   subst h
   cases u <;> simp [KD.fits] at hu
   all_goals
    cases v <;> simp [KD.fits] at hv
    first
    | rfl
    | (subst hu;subst hv;simp [lB,eqC,Instr.sameNow])
    | (simp only [lB,eqC,Instr.sameNow];rw [beq_toListBytes,gC,gC])
theorem gL {l:List AV} {i:Nat} {u:AV} (h:l[i]?=some u):(dv l)[i]?=some (lB u):=by simp [dv,h]
theorem jg (d:Nat):∀ {fs:List Field} {i:Nat} {ks:List KD} {pre l l':List AV} {pre':List AV},eE P i fs=some ks->aL ks l=true->aL ks l'=true->pre.length=i->pre'.length=i->
  (Op.eqFields (d+1) (dv (pre++l)) (dv (pre'++l')) fs).run P w=.ok (bO l l') w
 | [],i,ks,pre,l,l',pre',h,h1,h2,_,_=>by
  simp only [eE,Option.some.injEq] at h
  subst h
  cases l <;> simp [aL] at h1
  cases l' <;> simp [aL] at h2
  simp [Op.eqFields,bO]
 | f::fs,i,ks,pre,l,l',pre',h,h1,h2,e1,e2=>by
  simp only [eE] at h
  cases hb:(f.name !="_"&&Nat.beq f.offset i) with
  | false=>simp [hb,aq] at h
  | true=>
   rw [hb] at h
   simp only [aq,cond_true] at h
   simp only [Bool.and_eq_true,bne_iff_ne,ne_eq] at hb
   have ho:f.offset=i:=Nat.eq_of_beq_eq_true hb.2
   cases hk:oC P f.type with
   | none=>simp [hk] at h
   | some k=>
    simp only [hk,Option.bind_some,Option.map_eq_some_iff] at h
    obtain ⟨r,hr,rfl⟩:=h
    cases l with
    | nil=>simp [aL] at h1
    | cons u l=>
     cases l' with
     | nil=>simp [aL] at h2
     | cons v l'=>
      simp only [aL,Bool.and_eq_true] at h1 h2
      have g1:(dv (pre++u::l))[f.offset]?=some (lB u):=gL (by rw [ho,List.getElem?_append_right (by omega)];simp [e1])
      have g2:(dv (pre'++v::l'))[f.offset]?=some (lB v):=gL (by rw [ho,List.getElem?_append_right (by omega)];simp [e2])
      have ih:=jg d (pre:=pre++[u]) (pre':=pre'++[v]) hr h1.2 h2.2 (by simp [e1]) (by simp [e2])
      simp only [List.append_assoc,List.singleton_append] at ih
      have hq:=gG w d hk h1.1 h2.1
      simp only [Op.eqFields,hb.1,not_false_eq_true,ne_eq,if_true,Sem.run_bind,eS w hk g1,eS w hk g2,Result.andThen_ok,hq]
      cases hc:eqC u v with
      | true=>simp [bO,hc,ih]
      | false=>simp [bO,hc]
theorem j2 (d:Nat) {e:TypeId} {k:KD} (hk:oC P e=some k):∀ {n i:Nat} {pre l l' pre':List AV},aL (List.replicate n k) l=true->aL (List.replicate n k) l'=true->pre.length=i->pre'.length=i->
  (Op.eqItems (d+1) e 1 (dv (pre++l)) (dv (pre'++l')) (List.range' i n)).run P w=.ok (bO l l') w
 | 0,i,pre,l,l',pre',h1,h2,_,_=>by
  cases l <;> simp [aL] at h1
  cases l' <;> simp [aL] at h2
  simp [Op.eqItems,bO]
 | n+1,i,pre,l,l',pre',h1,h2,e1,e2=>by
  rw [List.replicate_succ] at h1 h2
  cases l with
  | nil=>simp [aL] at h1
  | cons u l=>
   cases l' with
   | nil=>simp [aL] at h2
   | cons v l'=>
    simp only [aL,Bool.and_eq_true] at h1 h2
    have g1:(dv (pre++u::l))[i*1]?=some (lB u):=gL (by rw [Nat.mul_one,List.getElem?_append_right (by omega)];simp [e1])
    have g2:(dv (pre'++v::l'))[i*1]?=some (lB v):=gL (by rw [Nat.mul_one,List.getElem?_append_right (by omega)];simp [e2])
    have ih:=j2 d hk (n:=n) (i:=i+1) (pre:=pre++[u]) (pre':=pre'++[v]) h1.2 h2.2 (by simp [e1]) (by simp [e2])
    simp only [List.append_assoc,List.singleton_append] at ih
    have hq:=gG w d hk h1.1 h2.1
    simp only [List.range'_succ,Op.eqItems,Sem.run_bind,eS w hk g1,eS w hk g2,Result.andThen_ok,hq]
    cases hc:eqC u v with
    | true=>simp [bO,hc,ih]
    | false=>simp [bO,hc]
theorem kH {t:TypeId} {ka:Bool} {ks:List KD} (h:vN P t=some (ka,ks)) {l l':List AV} (h1:aL ks l=true) (h2:aL ks l'=true):(Op.equal t (iX ka l) (iX ka l')).run P w=.ok (bO l l') w:=by
 unfold vN at h
 show (Op.equalIn (9999+1) t _ _).run P w=_
 split at h
 ·rename_i fs hu
  obtain ⟨hb,h⟩:(!P.stoodInHeld t)=true/\(eE P 0 fs.toList).map (λl=>(true,l))=some (ka,ks):=by
   cases hb:(!P.stoodInHeld t) with
   | false=>rw [hb] at h;simp [aq] at h
   | true=>rw [hb] at h;exact ⟨rfl,by simpa [aq] using h⟩
  obtain ⟨r,hr,h⟩:=Option.map_eq_some_iff.1 h
  simp only [Prod.mk.injEq] at h
  obtain ⟨rfl,rfl⟩:=h
  have hf:P.fieldsOf t=fs:=by simp [Program.fieldsOf,hu]
  have:=run_equalIn_struct w 9999 t (dv l) (dv l') (by rw [hf];exact hu) (by simpa using hb)
  show (Op.equalIn (9999+1) t (.agg (dv l)) (.agg (dv l'))).run P w=_
  rw [this,hf]
  exact jg w 9998 (pre:=[]) (pre':=[]) hr h1 h2 rfl rfl
 ·rename_i n e hu
  cases hk:oC P e with
  | none=>simp [hk] at h
  | some k=>
   simp only [hk,Option.bind_some] at h
   cases hb:(aA P e==some 1) with
   | false=>rw [hb] at h;simp [aq] at h
   | true=>
    rw [hb] at h
    simp only [aq,cond_true,Option.some.injEq,Prod.mk.injEq] at h
    obtain ⟨rfl,rfl⟩:=h
    have hb:(P.info? e).map (·.size)=some 1:=by simpa [aA] using hb
    obtain ⟨i,hi,hs⟩:=Option.map_eq_some_iff.1 hb
    have hc:P.cellsOf e=1:=by simp [Program.cellsOf,hi,hs]
    have:=run_equalIn_array w 9999 (dv l) (dv l') hu hi
    show (Op.equalIn (9999+1) t (.agg (dv l)) (.agg (dv l'))).run P w=_
    rw [this,hc,List.range_eq_range']
    exact j2 w 9998 hk (pre:=[]) (pre':=[]) h1 h2 rfl rfl
 ·obtain ⟨k,hk,h⟩:=Option.map_eq_some_iff.1 h
  simp only [Prod.mk.injEq] at h
  obtain ⟨rfl,rfl⟩:=h
  match l,l',h1,h2 with
  | [u],[v],h1,h2=>
   simp only [aL,Bool.and_true] at h1 h2
   have:=gG w 9999 hk h1 h2
   simpa [iX,bO] using this
  | [],_,h1,_=>simp [aL] at h1
  | _::_::_,_,h1,_=>simp [aL] at h1
  | [_],[],_,h2=>simp [aL] at h2
  | [_],_::_::_,_,h2=>simp [aL] at h2
end
section
variable {c:Cx}
theorem ux {k:KD} {u:AV} (h:k.fits u=true) {x:Value} (hr:Rep c u x):x=lB u:=by
 cases k <;> cases u <;> simp [KD.fits] at h <;> cases hr <;> rfl
theorem lU:∀ {ks:List KD} {cs:List AV} {vs:List Value},aL ks cs=true->vs.length=cs.length->(∀ (i:Nat) (u:AV),cs[i]?=some u->Rep c u (vs.getD i undef))->vs=cs.map lB
 | [],cs,vs,h,hl,_=>by
  cases cs <;> simp [aL] at h
  cases vs <;> simp at hl
  rfl
 | k::ks,cs,vs,h,hl,hr=>by
  cases cs with
  | nil=>simp [aL] at h
  | cons u cs=>
   cases vs with
   | nil=>simp at hl
   | cons v vs=>
    simp only [aL,Bool.and_eq_true] at h
    have h0:=ux h.1 (hr 0 u rfl)
    have h1:=lU (vs:=vs) h.2 (by simpa using hl) λi w hw=>by simpa using hr (i+1) w (by simpa using hw)
    simp only [List.getD_cons_zero] at h0
    rw [h0,h1];rfl
theorem tv {ks:List KD} {cs:List AV} {x:Value} (hk:aL ks cs=true) (hr:Rep c (.agg cs) x):x=iX true cs:=by
 cases hr with
 | agg _ vs h1 h2 h3=>
  have:=lU (vs:=vs.toList) hk (by simpa using h1) λi u hu=>by simpa [Array.getD_eq_getD_getElem?,List.getD_eq_getElem?_getD] using h3 i u hu
  show Value.agg vs=.agg (dv cs)
  congr 1
  apply Array.ext'
  simpa [dv] using this
theorem sN {α:Type} {b:Bool} {x:Option α} {y:α} (h:aq b x=some y):b=true/\x=some y:=by
 cases b
 ·cases h
 ·exact ⟨rfl,h⟩
end
end Go.Ab

namespace Go.Ab
open Go Go.RowKit
variable {P:Program} {B:Base} {c:Cx} {s:St} {a:Act}
theorem gT {v:Value} {u:AV} (h:qF v=some u):Rep c u v/\u.keys=[]/\u.cA=false/\u.one=true:=by
 unfold qF at h
 split at h <;> simp at h <;> subst h
 ·exact ⟨.bool _,rfl,rfl,rfl⟩
 ·exact ⟨.int _ _,rfl,rfl,rfl⟩
 ·exact ⟨.str _,rfl,rfl,rfl⟩
 ·exact ⟨.nilp,rfl,rfl,rfl⟩
 ·exact ⟨.slNil _ _ _ trivial,rfl,rfl,rfl⟩
 ·exact ⟨.nilm,rfl,rfl,rfl⟩
 ·exact ⟨.nilf,rfl,rfl,rfl⟩
 ·exact ⟨.nili,rfl,rfl,rfl⟩
theorem ix:∀ {vs:List Value} {us:List AV},gH vs=some us->us.length=vs.length/\au us=[] /\
  ∀ (i:Nat) (u:AV),us[i]?=some u->u.one=true/\Rep c u (vs.getD i undef)
 | [],us,h=>by simp [gH] at h;subst h;simp [au]
 | v::r,us,h=>by
  simp only [gH] at h
  cases hv:qF v with
  | none=>simp [hv] at h
  | some x=>
   cases hr:gH r with
   | none=>simp [hv,hr] at h
   | some l=>
    simp [hv,hr] at h
    subst h
    obtain ⟨h1,h2,h3⟩:=ix hr
    have hx:=gT (c:=c) hv
    refine ⟨by simp [h1],by simp [au,hx.2.1,h2],λi u hu=>?_⟩
    cases i with
    | zero=>simp at hu;subst hu;exact ⟨hx.2.2.2,by simpa using hx.1⟩
    | succ i=>simpa using h3 i u (by simpa using hu)
theorem kj {v:Value} {u:AV} (h:ofValue v=some u):Rep c u v/\u.keys=[]/\u.cA=false:=by
 unfold ofValue at h
 split at h
 ·rename_i cs
  cases hc:gH cs.toList with
  | none=>simp [hc] at h
  | some l=>
   simp [hc] at h;subst h
   obtain ⟨h1,h2,h3⟩:=ix (c:=c) hc
   refine ⟨.agg _ _ (by simpa using h1.symm) (λi u hu=>(h3 i u hu).1) (λi u hu=>?_),by simpa [AV.keys] using h2,rfl⟩
   have:=(h3 i u hu).2
   simpa [Array.getD_eq_getD_getElem?,List.getD_eq_getElem?_getD] using this
 ·exact ⟨(gT h).1,(gT (c:=c) h).2.1,(gT (c:=c) h).2.2.1⟩
def vM (a:Act) (ch:fw):Prop:=∀t w,(t,w)∈ch->a.tmps.getD t undef=.bool w
theorem fw.Bv {ch:fw} {t:Nat} {w:Bool} (h:ch.has t w=true):(t,w)∈ch:=by
 unfold fw.has at h
 rw [List.any_eq_true] at h
 obtain ⟨⟨t',w'⟩,hm,hp⟩:=h
 simp only [Bool.and_eq_true,beq_iff_eq] at hp
 have:=du hp.1
 subst this
 obtain ⟨_,rfl⟩:=hp
 exact hm
structure Sees (B:Base) (c:Cx) (s:St) (v:AV) (x:Value):Prop where
 rep:Rep c v x
 live:∀k∈v.keys,live s.objs k
 plain:v.cA=false
theorem av (h:Rel B c s a) {ch:fw} (hc:vM a ch) {o:Operand} {v:AV} (he:aP ⟨s,B.G,ch⟩ o=some v):Sees B c s v (a.eval o):=by
 cases o with
 | tmp t=>
  simp only [aP] at he
  cases hg:s.get t with
  | none=>simp [hg] at he
  | some u=>
   have hr:=h.env t u hg
   have hl:=h.closed t u hg
   cases u with
   | grd tc w v'=>
    simp only [hg] at he
    cases hb:(fw.has ch tc w&&!v'.cA) with
    | false=>simp [hb] at he
    | true=>
     simp only [hb,cond_true,Option.some.injEq] at he
     subst he
     simp only [Bool.and_eq_true,Bool.not_eq_true'] at hb
     exact ⟨hr.1 (hc _ _ (fw.Bv hb.1)),by simpa [AV.keys] using hl,hb.2⟩
   | _=>simp only [hg,Option.some.injEq] at he;subst he;exact ⟨hr,hl,rfl⟩
 | const v'=>exact ⟨(kj he).1,by rw [(kj (c:=c) he).2.1];simp,(kj (c:=c) he).2.2⟩
 | global g=>
  simp only [aP] at he
  cases hg:B.G g with
  | none=>simp [hg] at he
  | some cs=>simp [hg] at he;subst he;exact ⟨h.good.globs g cs hg,by simp [AV.keys],rfl⟩
 | func f=>
  simp only [aP,Option.some.injEq] at he;subst he
  exact ⟨.fn f [] [] #[] #[] rfl rfl (by simp) (by simp),by simp [AV.keys,au],rfl⟩
def cy (P:Program) (B:Base) (c:Cx) (s:St) (m:Sem Value) (v:AV):Prop:=
 ∃x c',m.run P c.w=.ok x c'.w/\Keeps c c' s.objs/\Grow B c c'/\Sees B c' s v x
theorem Keeps.refl (c:Cx) (objs:List (Nat×AO)):Keeps c c objs:=⟨Ext.refl _ _,λ_ _=>rfl,λ_ _=>rfl,λ_ _=>rfl,λ_ _ _ _ _=>⟨rfl,λ_ h=>h⟩⟩
theorem Grow.refl (h:Good B.G c):Grow B c c:=⟨rfl,rfl,rfl,Nat.le_refl _,λ_ _ _=>rfl,λ_ _ _ _ h=>h,h.there⟩
theorem cy.still (h:Rel B c s a) {m:Sem Value} {v:AV} {x:Value} (hm:m.run P c.w=.ok x c.w) (hs:Sees B c s v x):cy P B c s m v:=
 ⟨x,c,hm,Keeps.refl _ _,Grow.refl h.good,hs⟩
theorem Sees.int {k:IntKind} {n:Int}:Sees B c s (.int k n) (.int k n):=⟨.int _ _,by simp [AV.keys],rfl⟩
theorem Sees.bool {b:Bool}:Sees B c s (.bool b) (.bool b):=⟨.bool _,by simp [AV.keys],rfl⟩
theorem Sees.str {l:List UInt8}:Sees B c s (.str l) (.string ⟨l.toArray⟩):=⟨.str _,by simp [AV.keys],rfl⟩
theorem sM (h:Rel B c s a) {op:BinOp} {k:IntKind} {x y:Int} {v:AV} (he:Bs op k x y=some (true,v)) (hs:pr op=false) {t:TypeId}:cy P B c s (binOp op t (.int k x) (.int k y)) v:=by
 cases op <;> simp only [Bs,ok1,pr,Option.some.injEq,Prod.mk.injEq,true_and,reduceCtorEq,bne_iff_ne,ne_eq] at he hs
 case quo=>obtain ⟨hy,rfl⟩:=he;exact cy.still h (by rw [binOp_quo];simp [Op.intDiv,hy]) Sees.int
 case rem=>obtain ⟨hy,rfl⟩:=he;exact cy.still h (by rw [binOp_rem];simp [Op.intDiv,hy]) Sees.int
 all_goals (subst he)
 case add=>exact cy.still h (by rw [binOp_add];rfl) Sees.int
 case sub=>exact cy.still h (by rw [binOp_sub];rfl) Sees.int
 case mul=>exact cy.still h (by rw [binOp_mul];rfl) Sees.int
 case and=>exact cy.still h (by rw [binOp_and];rfl) Sees.int
 case or=>exact cy.still h (by rw [binOp_or];rfl) Sees.int
 case xor=>exact cy.still h (by rw [binOp_xor];rfl) Sees.int
 case andNot=>exact cy.still h (by rw [binOp_andNot];rfl) Sees.int
 case eql=>exact cy.still h (by rw [binOp_eql];rfl) Sees.bool
 case neq=>exact cy.still h (by rw [binOp_neq];rfl) Sees.bool
 case lss=>exact cy.still h (by rw [binOp_lss];rfl) Sees.bool
 case leq=>exact cy.still h (by rw [binOp_leq];rfl) Sees.bool
 case gtr=>exact cy.still h (by rw [binOp_gtr];rfl) Sees.bool
 case geq=>exact cy.still h (by rw [binOp_geq];rfl) Sees.bool
theorem o7 (h:Rel B c s a) {op:BinOp} {k k':IntKind} {x y:Int} {v:AV} (he:rM op k x y=some (true,v)) {t:TypeId}:cy P B c s (binOp op t (.int k x) (.int k' y)) v:=by
 cases op <;> simp [rM] at he
 case shl=>
  obtain ⟨hy,rfl⟩:=he
  refine cy.still h ?_ Sees.int
  rw [binOp_shl,Op.shift,if_neg (by omega)];rfl
 case shr=>
  obtain ⟨hy,rfl⟩:=he
  refine cy.still h ?_ Sees.int
  rw [binOp_shr,Op.shift,if_neg (by omega)];rfl
theorem rK (h:Rel B c s a) {op:BinOp} {x y:List UInt8} {v:AV} (he:AD op x y=some (true,v)) {t:TypeId}:cy P B c s (binOp op t (.string ⟨x.toArray⟩) (.string ⟨y.toArray⟩)) v:=by
 cases op <;> simp only [AD,ok1,Option.some.injEq,Prod.mk.injEq,true_and,reduceCtorEq] at he
 case add=>
  obtain ⟨hy,rfl⟩:=he
  refine cy.still h ?_ Sees.str
  have hle:x.length+y.length<=4611686018427387904:=Nat.le_of_ble_eq_true hy
  have e:binOp .add t (.string ⟨x.toArray⟩) (.string ⟨y.toArray⟩)=Op.stringOp .add ⟨x.toArray⟩ ⟨y.toArray⟩:=by simp [binOp]
  rw [e,run_string_add_sum (P:=P) (w:=c.w) ⟨x.toArray⟩ ⟨y.toArray⟩ (by show x.toArray.size+y.toArray.size<=9223372036854775807;simp;omega)]
  congr 2
 all_goals (subst he)
 case eql=>exact cy.still h (by rw [binOp_string_eql];simp) Sees.bool
 case neq=>exact cy.still h (by rw [binOp_string_neq];simp) Sees.bool
 case lss=>exact cy.still h (by rw [binOp_string_lss];simp [aZ]) Sees.bool
 case leq=>exact cy.still h (by rw [binOp_string_leq];simp [aZ]) Sees.bool
 case gtr=>exact cy.still h (by rw [binOp_string_gtr];simp [aZ]) Sees.bool
 case geq=>exact cy.still h (by rw [binOp_string_geq];simp [aZ]) Sees.bool
theorem fp (h:Rel B c s a) {op:BinOp} {t:TypeId} {x y v:AV} {X Y:Value} (hx:Rep c x X) (hy:Rep c y Y) {xo yo:Operand} (he:xF P op t (isConst xo||isConst yo) x y=some (true,v)) :
  cy P B c s (do eqGuard op t xo yo X Y;binOp op t X Y) v:=by
 simp only [xF] at he
 split at he
 ·rename_i ms hu
  split at he
  ·rename_i b hb
   cases hk:(b&&!(isConst xo||isConst yo)) with
   | true=>rw [hk] at he;simp at he
   | false=>
    simp only [hk,cond_false] at he
    have key:∀X Y:Value,Rep c x X->Rep c y Y->(Op.equal t X Y).run P c.w=.ok b c.w/\((do eqGuard op t xo yo X Y;binOp op t X Y):Sem Value)=binOp op t X Y/\binOp .eql t X Y=(do pure (.bool (<-Op.equal t X Y)))/\binOp .neq t X Y=(do pure (.bool (!(<-Op.equal t X Y)))):=by
     intro X Y hx hy
     cases x <;> cases y <;> simp [Dv] at hb <;> cases hx <;> cases hy
     ·subst hb
      refine ⟨?_,?_,rfl,rfl⟩
      ·simp only [Op.equal,Op.maxDepth];unfold Op.equalIn;simp [run_underlying hu]
      ·have hc:(isConst xo||isConst yo)=true:=by revert hk;cases (isConst xo||isConst yo) <;> simp
       cases op <;> (try rfl)
       all_goals
        cases xo <;> cases yo <;> simp [isConst] at hc <;> simp [eqGuard]
     all_goals
      subst hb
      refine ⟨?_,?_,rfl,rfl⟩
      ·simp only [Op.equal,Op.maxDepth];unfold Op.equalIn;simp [run_underlying hu]
      ·cases op <;> rfl
    obtain ⟨e1,e2,e3,e4⟩:=key X Y hx hy
    rw [e2]
    cases op <;> simp [ok1] at he
    ·subst he
     refine cy.still h (x:=.bool b) ?_ Sees.bool
     rw [e3];simp [e1]
    ·subst he
     refine cy.still h (x:=.bool (!b)) ?_ Sees.bool
     rw [e4];simp [e1]
  ·simp at he
 ·simp at he
theorem vI (h:Rel B c s a) {op:BinOp} {t:TypeId} {x y v:AV} {X Y:Value} (hx:Rep c x X) (hy:Rep c y Y) {xo yo:Operand} (he:Cl P op t (isConst xo||isConst yo) x y=some (true,v)) :
  cy P B c s (do eqGuard op t xo yo X Y;binOp op t X Y) v:=by
 cases x with
 | int k m=>
  cases y with
  | int k' n=>
   cases hx;cases hy
   rw [eqGuard_at_int]
   simp only [Cl] at he
   cases hs:pr op with
   | true=>simp only [hs,cond_true] at he;exact o7 h he
   | false=>
    simp only [hs,cond_false] at he
    by_cases hk:k=k'
    ·subst hk;simp only [decide_true,cond_true] at he;exact sM h he hs
    ·simp [hk] at he
  | _=>exact fp h hx hy he
 | str m=>
  cases y with
  | str n=>cases hx;cases hy;rw [eqGuard_at_string];exact rK h he
  | _=>exact fp h hx hy he
 | bool m=>
  cases y with
  | bool n=>
   cases hx;cases hy
   rw [eqGuard_at_bool]
   simp only [Cl] at he
   split at he
   ·rename_i hu
    have e1:(Op.equal t (.bool m) (.bool n)).run P c.w=.ok (m==n) c.w:=by
     simp only [Op.equal,Op.maxDepth]
     unfold Op.equalIn
     simp [run_underlying hu]
    cases op <;> simp [ok1] at he
    ·subst he
     refine cy.still h (x:=.bool (m==n)) ?_ Sees.bool
     show (binOp .eql t (.bool m) (.bool n)).run P c.w=_
     simp [binOp,e1]
    ·subst he
     refine cy.still h (x:=.bool (!(m==n))) ?_ Sees.bool
     show (binOp .neq t (.bool m) (.bool n)).run P c.w=_
     simp [binOp,e1]
   ·simp at he
  | _=>exact fp h hx hy he
 | agg l=>
  cases y with
  | agg m=>
   simp only [Cl] at he
   split at he
   ·rename_i ks hk
    obtain ⟨hb,he⟩:=sN he
    simp only [Bool.and_eq_true] at hb
    obtain ⟨b1,b2,b3⟩:=hb
    obtain rfl:X=iX true l:=tv b1 hx
    obtain rfl:Y=iX true m:=tv b2 hy
    have e1:=kH c.w hk b1 b2
    have e2:(Op.equalIn 10000 t (iX true l) (iX true m)).run P c.w=.ok (bO l m) c.w:=e1
    have e3:∀op,(eqGuard op t xo yo (iX true l) (iX true m)).run P c.w=.ok () c.w:=λop=>run_eqGuard_agg c.w op t xo yo _ _ (by simpa using b3)
    cases op <;> simp [ok1] at he
    ·subst he
     refine cy.still h (x:=.bool (bO l m)) ?_ Sees.bool
     rw [Sem.run_bind,e3,Result.andThen_ok]
     show (binOp .eql t (.agg (dv l)) (.agg (dv m))).run P c.w=_
     rw [run_eql_struct]
     show Result.andThen ((Op.equalIn 10000 t (iX true l) (iX true m)).run P c.w) _=_
     rw [e2];rfl
    ·subst he
     refine cy.still h (x:=.bool (!(bO l m))) ?_ Sees.bool
     rw [Sem.run_bind,e3,Result.andThen_ok]
     show (binOp .neq t (.agg (dv l)) (.agg (dv m))).run P c.w=_
     rw [run_neq_struct]
     show Result.andThen ((Op.equalIn 10000 t (iX true l) (iX true m)).run P c.w) _=_
     rw [e2];rfl
   ·simp at he
  | _=>exact fp h hx hy he
 | _=>exact fp h hx hy (by simpa only [Cl] using he)
theorem vi (h:Rel B c s a) {op:BinOp} {t:TypeId} {x v:AV} {X:Value} (hx:Rep c x X) {xo yo:Operand} (he:GL P op t x yo=some (true,v)) :
  cy P B c s (do eqGuard op t xo yo X (a.eval yo);binOp op t X (a.eval yo)) v:=by
 have key:∀ (Y:Value) (b:Bool),(∀op,(do eqGuard op t xo yo X Y;binOp op t X Y:Sem Value)=binOp op t X Y)->(Op.equal t X Y).run P c.w=.ok b c.w->(binOp .eql t X Y=(do pure (.bool (<-Op.equal t X Y))))->(binOp .neq t X Y=(do pure (.bool (!(<-Op.equal t X Y)))))->(op=.eql/\v=.bool b∨op=.neq/\v=.bool (!b))->cy P B c s (do eqGuard op t xo yo X Y;binOp op t X Y) v:=λY b h1 h2 h3 h4 h5=>by
  rw [h1]
  rcases h5 with ⟨rfl,rfl⟩ | ⟨rfl,rfl⟩
  ·exact cy.still h (by rw [h3];simp [h2]) Sees.bool
  ·exact cy.still h (by rw [h4];simp [h2]) Sees.bool
 unfold GL at he
 split at he
 ·rename_i e sz n get hu
  have hv:op=.eql/\v=.bool true∨op=.neq/\v=.bool (!true):=by cases op <;> simp [ok1] at he <;> simp [he]
  cases hx with
  | slNil=>exact key _ true (λop=>by cases op <;> rfl) (by show (Op.equal t (.slice none 0 0) (.slice none 0 0)).run P c.w=_;simp only [Op.equal,Op.maxDepth];unfold Op.equalIn;simp [run_underlying hu]) rfl rfl hv
  | sl _ _ _ _ ad cap _ _ _ ho=>exact ho.elim
 ·rename_i e sz n get hu
  have hv:op=.eql/\v=.bool false∨op=.neq/\v=.bool (!false):=by cases op <;> simp [ok1] at he <;> simp [he]
  cases hx with
  | slNil _ _ _ ho=>exact ho.elim
  | sl _ _ _ _ ad cap=>exact key _ false (λop=>by cases op <;> rfl) (by show (Op.equal t (.slice (some ad) n cap) (.slice none 0 0)).run P c.w=_;simp only [Op.equal,Op.maxDepth];unfold Op.equalIn;simp [run_underlying hu]) rfl rfl hv
 ·rename_i e o sz n get _ _ hu
  have hn:0 < n/\(op=.eql/\v=.bool false∨op=.neq/\v=.bool (!false)):=by
   cases op <;> simp at he
   ·exact ⟨he.1,.inl ⟨rfl,he.2.symm⟩⟩
   ·exact ⟨he.1,.inr ⟨rfl,he.2.symm⟩⟩
  cases hx with
  | slNil=>exact absurd hn.1 (Nat.lt_irrefl _)
  | sl _ _ _ _ ad cap=>exact key _ false (λop=>by cases op <;> rfl) (by show (Op.equal t (.slice (some ad) n cap) (.slice none 0 0)).run P c.w=_;simp only [Op.equal,Op.maxDepth];unfold Op.equalIn;simp [run_underlying hu]) rfl rfl hn.2
 ·rename_i e1 e2 k hu
  cases hx
  exact key _ false (λop=>by cases op <;> rfl) (by show (Op.equal t (.map (some _)) (.map none)).run P c.w=_;simp only [Op.equal,Op.maxDepth];unfold Op.equalIn;simp [run_underlying hu]) rfl rfl (by cases op <;> simp [ok1] at he <;> simp [he])
 ·rename_i e1 e2 k hu
  cases hx
  exact key _ false (λop=>by cases op <;> rfl) (by show (Op.equal t (.map (some _)) (.map none)).run P c.w=_;simp only [Op.equal,Op.maxDepth];unfold Op.equalIn;simp [run_underlying hu]) rfl rfl (by cases op <;> simp [ok1] at he <;> simp [he])
 ·rename_i e1 e2 hu
  cases hx
  exact key _ true (λop=>by cases op <;> rfl) (by show (Op.equal t (.map none) (.map none)).run P c.w=_;simp only [Op.equal,Op.maxDepth];unfold Op.equalIn;simp [run_underlying hu]) rfl rfl (by cases op <;> simp [ok1] at he <;> simp [he])
 ·cases he
theorem v7 (h:Rel B c s a) {op:UnOp} {x v:AV} {X:Value} (hx:Rep c x X) (he:unA op x=some (true,v)):cy P B c s (Op.unary op X) v:=by
 cases op <;> cases x <;> simp [unA,ok1] at he <;> subst he <;> cases hx
 ·exact cy.still h (by simp [Op.unary,Op.intArith]) Sees.int
 ·exact cy.still h (by simp only [Op.unary,Op.intBits];rfl) Sees.int
 ·exact cy.still h (by simp [Op.unary]) Sees.bool
theorem vk (h:Rel B c s a) {x v:AV} {X:Value} {t ty:TypeId} (hx:Rep c x X) (he:Hp P t x=some (true,v)):cy P B c s (Builtin.len_ #[t] ty #[X]) v:=by
 unfold Hp at he
 split at he <;> simp [ok1] at he <;> subst he
 ·rename_i hu;cases hx <;> exact cy.still h (by simp [Builtin.len_,run_underlying hu,goInt]) Sees.int
 ·rename_i hu;cases hx;exact cy.still h (by simp [Builtin.len_,run_underlying hu,goInt]) Sees.int
 ·rename_i hu;cases hx <;> exact cy.still h (by simp [Builtin.len_,run_underlying hu,goInt]) Sees.int
 ·rename_i hu
  have hc:∀ (a:Option Addr) (n cap:Nat),cy P B c s (Builtin.len_ #[t] ty #[Value.slice a n cap]) (AV.int IntKind.i64 n):=λa n cap=>cy.still h (by simp [Builtin.len_,run_underlying hu,goInt]) Sees.int
  cases hx with
  | gsubNil=>exact hc _ _ _
  | gsub=>exact hc _ _ _
 ·rename_i hu;cases hx;exact cy.still h (by simp [Builtin.len_,run_underlying hu,goInt];rfl) Sees.int
 ·rename_i hu;cases hx;exact cy.still h (by simp [Builtin.len_,run_underlying hu,goInt]) Sees.int
end Go.Ab

namespace Go.Ab
open Go Go.RowKit
variable {P:Program} {B:Base} {c:Cx} {s:St} {a:Act}
theorem fW {t:TypeId} {d:TypeDesc} (h:P.underlying t=some d) (w:World):(isAgg t).run P w=.ok (kZ d) w:=by
 unfold isAgg
 rw [Sem.run_bind,run_underlying h]
 cases d <;> rfl
theorem run_sizeOf {t:TypeId} {n:Nat} (h:aA P t=some n) (w:World):(sizeOf t).run P w=.ok n w:=by
 unfold aA at h
 cases hi:P.info? t with
 | none=>simp [hi] at h
 | some i=>simp [hi] at h;simp [sizeOf,typeInfo,hi,h]
def n4 (c:Cx) (b o:Nat) (cs:List AV):Prop:=
 ∀ (i:Nat) (u:AV),cs[i]?=some u->u.one=true/\∃x,c.w.cell? ⟨b,o+i,none⟩=some x/\Rep c u x
theorem qE {u:AV} (h:u.one=true):u.cA=false:=by cases u <;> simp_all [AV.one,AV.cA]
theorem iw {b o:Nat} {cs:List AV} (hc:n4 c b o cs) {t:TypeId} {off:Nat} {v:AV} (he:er P t cs off=some v) :
  ∃x,(loadVar t ⟨b,o+off,none⟩).run P c.w=.ok x c.w/\Rep c v x/\(∀k∈v.keys,k∈au cs)/\v.cA=false:=by
 unfold er at he
 split at he
 ·rename_i d n hu hn
  cases hd:kZ d with
  | true=>
   simp only [hd,cond_true] at he
   cases hb:Nat.ble (off+n) cs.length with
   | false=>simp [hb] at he
   | true=>
    simp only [hb,cond_true,Option.some.injEq] at he
    have hle:=Nat.le_of_ble_eq_true hb
    subst he
    let f:Nat->Value:=λj=>(c.w.cell? ⟨b,o+off+j,none⟩).getD undef
    have hf:∀j (hj:j < n),c.w.cell? ⟨b,o+off+j,none⟩=some (f j)/\Rep c (cs[off+j]'(by omega)) (f j)/\(cs[off+j]'(by omega)).one=true:=by
     intro j hj
     obtain ⟨h1,x,hx,hr⟩:=hc (off+j) _ (List.getElem?_eq_getElem (by omega))
     have:o+(off+j)=o+off+j:=by omega
     rw [this] at hx
     refine ⟨by simp [f,hx],?_,h1⟩
     simp only [f,hx,Option.getD_some];exact hr
    refine ⟨.agg ((List.range n).map f).toArray,?_,?_,?_,rfl⟩
    ·unfold loadVar
     rw [Sem.run_bind,fW hu]
     simp only [Result.andThen_ok,hd,if_true,Sem.run_bind,run_sizeOf hn]
     rw [run_loadCells c.w ⟨b,o+off,none⟩ n f (λj hj=>by rw [Addr.add_lit];exact (hf j hj).1)]
     rfl
    ·refine .agg _ _ (by simp;omega) (λi u hu=>?_) (λi u hu=>?_)
     ·have hi:i < n:=by
       rcases Nat.lt_or_ge i n with h | h
       ·exact h
       ·simp [List.getElem?_take,Nat.not_lt.2 h] at hu
      have:u=cs[off+i]'(by omega):=by
       simp [hi,List.getElem?_drop] at hu
       rw [List.getElem?_eq_getElem (by omega)] at hu;simpa using hu.symm
      rw [this];exact (hf i hi).2.2
     ·have hi:i < n:=by
       rcases Nat.lt_or_ge i n with h | h
       ·exact h
       ·simp [List.getElem?_take,Nat.not_lt.2 h] at hu
      have:u=cs[off+i]'(by omega):=by
       simp [hi,List.getElem?_drop] at hu
       rw [List.getElem?_eq_getElem (by omega)] at hu;simpa using hu.symm
      rw [this]
      have:=(hf i hi).2.1
      simpa [Array.getD_eq_getD_getElem?,hi] using this
    ·intro k hk
     simp only [AV.keys] at hk
     have hsub:∀ (l:List AV) (m:Nat),(∀k∈au (l.drop m),k∈au l)/\(∀k∈au (l.take m),k∈au l):=by
      intro l m
      have e:=fo (l.take m) (l.drop m)
      rw [List.take_append_drop] at e
      exact ⟨λk hk=>by rw [e];simp [hk],λk hk=>by rw [e];simp [hk]⟩
     exact (hsub cs off).1 k ((hsub (cs.drop off) n).2 k hk)
  | false=>
   simp only [hd,cond_false] at he
   cases hcs:cs.drop off with
   | nil=>simp [hcs] at he
   | cons u r=>
    simp [hcs] at he;subst he
    have hu':cs[off]?=some u:=by
     have:=congrArg (λl=>l[0]?) hcs
     simpa [List.getElem?_drop] using this
    obtain ⟨h1,x,hx,hr⟩:=hc off u hu'
    refine ⟨x,?_,hr,λk hk=>aR hu' k hk,qE h1⟩
    unfold loadVar
    rw [Sem.run_bind,fW hu]
    simp [hd,hx]
 ·simp at he
theorem RowAt.fC {b:Nat} {cs:List AV} (h:RowAt c b cs):n4 c b 0 cs:=by
 obtain ⟨⟨vs,t,hh,hs,hr⟩,h1⟩:=h
 intro i u hu
 have hi:i < vs.size:=by rw [hs];exact (List.getElem?_eq_some_iff.1 hu).1
 refine ⟨h1 i u hu,vs.getD i undef,?_,hr i u hu⟩
 rw [aY hh]
 simp [Array.getD_eq_getD_getElem?,hi]
theorem br {i sz n j:Nat} (hi:i < n) (hj:j < sz):i*sz+j < n*sz:=by
 have:(i+1)*sz<=n*sz:=Nat.mul_le_mul_right _ hi
 rw [Nat.succ_mul] at this;omega
theorem ArrAt.fC {b sz n:Nat} {get:Nat->List AV} (h:ArrAt c b sz n get) {i:Nat} (hi:i < n):n4 c b (i*sz) (get i):=by
 obtain ⟨⟨vs,t,hh,hs,hr⟩,hl,h1⟩:=h
 intro j u hu
 have hj:j < sz:=by rw [<-(hl i hi).1];exact (List.getElem?_eq_some_iff.1 hu).1
 have hlt:i*sz+j < vs.size:=by rw [hs];exact br hi hj
 refine ⟨h1 i j u hi hu,vs.getD (i*sz+j) undef,?_,hr i j u hi hu⟩
 rw [aY hh]
 simp [Array.getD_eq_getD_getElem?,hlt]
theorem nC (h:Rel B c s a) {k sz m n:Nat} {get:Nat->List AV} {sq:Nat} (ho:s.obj k=some (.grw sq sz n get)) {v0:Value} (hv:aG c (.key k) m v0) (hm:m=n) (hpos:0 < n) :
  ∃ad cap,c.κ k=some (ad,cap)/\v0=.slice (some ad) n cap/\n<=cap/\GrwAt c ad sq sz n cap get:=by
 subst hm
 obtain ⟨q,f1,f2,f3⟩:=hv
 have hr:=h.objs.rep k _ ho
 obtain ⟨_,hfr,hr⟩:=hr
 rw [hfr] at f1
 have:=Option.some.inj f1
 subst this
 have f3:=f3 rfl
 cases hκ:c.κ k with
 | none=>simp only [hκ] at hr;omega
 | some p=>
  obtain ⟨ad,cap⟩:=p
  simp only [hκ] at hr
  rw [hκ] at f3
  exact ⟨ad,cap,rfl,f3,hr.1,hr.2 (by omega)⟩
theorem GrwAt.fC {ad:Addr} {sq sz n cap:Nat} {get:Nat->List AV} (h:GrwAt c ad sq sz n cap get) (hc:n<=cap) {i:Nat} (hi:i < n):n4 c ad.block (i*sz) (get i):=by
 obtain ⟨⟨vs,t,hh,hs,hr⟩,_,hl,h1,_⟩:=h
 intro j u hu
 have hj:j < sz:=by rw [<-(hl i hi).1];exact (List.getElem?_eq_some_iff.1 hu).1
 have hlt:i*sz+j < vs.size:=by rw [hs];exact br (Nat.lt_of_lt_of_le hi hc) hj
 refine ⟨h1 i j u hi hu,vs.getD (i*sz+j) undef,?_,hr i j u hi hu⟩
 rw [aY hh]
 simp [Array.getD_eq_getD_getElem?,hlt]
theorem vg {t:TypeId} {cs:List AV} {off:Nat} {u:Bool×AV} (h:pd P t cs off=some u) (hb:u.1=true):er P t cs off=some u.2:=by
 unfold pd at h
 unfold er
 split at h
 ·rename_i d n hu hn
  cases hd:kZ d with
  | true=>
   rw [hd,cond_true,Option.some.injEq] at h
   subst h
   have hb:Nat.ble (off+n) cs.length=true:=hb
   rw [cond_true,hb];rfl
  | false=>
   rw [hd,cond_false] at h
   rw [cond_false]
   split at h
   ·rename_i v r hv
    rw [Option.some.injEq] at h
    subst h
    rfl
   ·cases h
 ·cases h
theorem ec (t:TypeId) (ad:Addr) (w:World):(Instr.loadAt t (.pointer (some ad))).run P w=(loadVar t ad).run P w:=by
 simp [Instr.loadAt,Instr.sureAddr]
theorem qe {m:Sem Value} {v:AV} {x:Value} (hm:m.run P c.w=.ok x c.w) (hs:Sees B c s v x):∃y,m.run P c.w=.ok y c.w/\Sees B c s v y:=⟨x,hm,hs⟩
theorem nz (h:Rel B c s a) {t:TypeId} {x v:AV} {X:Value} (hx:Rep c x X) (he:kS P s t x=some (true,v)):∃y,(Instr.loadAt t X).run P c.w=.ok y c.w/\Sees B c s v y:=by
 cases x with
 | elt cs off=>
  simp only [kS,tG] at he
  cases hp:er P t cs off with
  | none=>simp [hp] at he
  | some u=>
   simp [hp] at he;subst he
   cases hx with
   | elt _ _ b o vals hk hc hr=>
    have hca:n4 c b o cs:=λi u hu=>⟨(hc i u hu).1,_,(hc i u hu).2.1,hr i u hu⟩
    obtain ⟨x,h1,h2,h3,h4⟩:=iw hca hp
    exact qe (B:=B) (s:=s) (by rw [ec];exact h1) ⟨h2,λk hk'=>by have:=h3 k hk';simp [hk] at this,h4⟩
 | ref k off=>
  cases hx
  simp only [kS] at he
  cases ho:s.obj k with
  | none=>simp [ho] at he
  | some ob=>
   have hob:=h.objs.rep k ob ho
   cases ob with
   | cells cs=>
    simp only [ho,tG] at he
    cases hp:er P t cs off with
    | none=>simp [hp] at he
    | some u=>
     simp [hp] at he;subst he
     obtain ⟨x,h1,h2,h3,h4⟩:=iw hob.1.fC hp
     refine qe (B:=B) (s:=s) (by rw [ec];simpa using h1) ⟨h2,λq hq=>?_,h4⟩
     exact h.objs.closed k _ ho q (by simpa [AO.keys] using h3 q hq)
   | arr sz n get=>
    simp only [ho] at he
    split at he
    ·rename_i m e hu
     simp only [aq] at he
     cases hb:(Nat.beq off 0&&(Nat.beq m n&&(aA P e==some sz&&aA P t==some (n*sz)))) with
     | false=>simp [hb] at he
     | true=>
      simp [hb,ok1] at he;subst he
      simp only [Bool.and_eq_true,beq_iff_eq] at hb
      obtain ⟨h0,_,_,hsz⟩:=hb
      have h0:=du h0
      subst h0
      obtain ⟨⟨vs,tt,hh,hs,hr⟩,hl,h1⟩:=hob.1
      refine qe (B:=B) (s:=s) (x:=.agg vs) ?_ ⟨.arr _ _ _ _ hs hl h1 hr,by simp [AV.keys],rfl⟩
      rw [ec]
      have hfull:=run_loadCells_list (P:=P) c.w ⟨c.β k,0,none⟩ vs.toList (λj v hv=>by
       rw [Addr.add_lit,aY hh];simpa using hv)
      unfold loadVar
      rw [Sem.run_bind,fW hu]
      simp only [Result.andThen_ok,kZ,if_true,Sem.run_bind,run_sizeOf hsz]
      have e1:n*sz=vs.toList.length:=by simpa using hs.symm
      rw [e1,hfull]
      rfl
    ·simp at he
   | frz sz n get=>simp [ho] at he
   | own sz n=>simp [ho] at he
   | grw sq sz n get=>simp [ho] at he
   | iter l p=>simp [ho] at he
   | mp ka ks dom get=>simp [ho] at he
   | mat sz n g o=>simp [ho] at he
   | gone=>simp [ho] at he
 | gref k sz m i off=>
  simp only [kS] at he
  cases ho:s.obj k with
  | none=>simp [ho] at he
  | some ob=>
   cases ob with
   | grw sq sz' n get=>
    simp only [ho,aq] at he
    cases hb:Nat.beq sz sz' with
    | false=>simp [hb] at he
    | true=>
     simp only [hb,cond_true] at he
     have e1:=du hb
     subst e1
     cases hp:pd P t (get i) off with
     | none=>simp [hp] at he
     | some u=>
      simp only [hp,Option.map_some,Option.some.injEq,Prod.mk.injEq,Bool.and_eq_true] at he
      obtain ⟨⟨hf,hi,e2⟩,rfl⟩:=he
      have e2:=du e2
      subst e2
      have hi:i < m:=Nat.le_of_ble_eq_true hi
      cases hx with
      | gref _ _ _ _ _ b cap hown=>
       obtain ⟨ad,cap',g1,g2,g3,g4⟩:=nC h ho hown rfl (by omega)
       simp only [Value.slice.injEq,Option.some.injEq] at g2
       obtain ⟨g2,_,_⟩:=g2
       subst g2
       obtain ⟨x,h1,h2,h3,h4⟩:=iw (g4.fC g3 hi) (vg hp hf)
       refine qe (B:=B) (s:=s) (by rw [ec];exact h1) ⟨h2,λq hq=>?_,h4⟩
       have:=h3 q hq
       simp [(g4.len i hi).2] at this
   | _=>simp [ho] at he
 | aref k sz i off=>
  cases hx
  simp only [kS] at he
  cases ho:s.obj k with
  | none=>simp [ho] at he
  | some ob=>
   have hob:=h.objs.rep k ob ho
   have key:∀ (sz' n:Nat) (get:Nat->List AV),ArrAt c (c.β k) sz' n get->aq (Nat.beq sz sz') ((er P t (get i) off).map λv=>(Nat.blt i n,v))=some (true,v)->∃y,(Instr.loadAt t (.pointer (some ⟨c.β k,i*sz+off,none⟩))).run P c.w=.ok y c.w/\Sees B c s v y:=by
    intro sz' n get ha he
    simp only [aq] at he
    cases hb:Nat.beq sz sz' with
    | false=>simp [hb] at he
    | true=>
     have:=du hb
     subst this
     simp only [hb,cond_true] at he
     cases hp:er P t (get i) off with
     | none=>simp [hp] at he
     | some u=>
      simp [hp] at he
      obtain ⟨hi,rfl⟩:=he
      have hi:i < n:=by simpa [Nat.blt] using hi
      obtain ⟨x,h1,h2,h3,h4⟩:=iw (ha.fC hi) hp
      refine qe (B:=B) (s:=s) (by rw [ec];exact h1) ⟨h2,λq hq=>?_,h4⟩
      have:=h3 q hq
      simp [(ha.len i hi).2] at this
   cases ob with
   | arr sz' n get=>simp only [ho] at he;exact key sz' n get hob.1 he
   | frz sz' n get=>simp only [ho] at he;exact key sz' n get hob.1 he
   | cells cs=>simp [ho] at he
   | own sz n=>simp [ho] at he
   | grw sq sz n get=>simp [ho] at he
   | iter l p=>simp [ho] at he
   | mat sz' n g o=>
    cases o with
    | none=>simp only [ho] at he;exact key 1 n (jk sz' g) hob.1.arr he
    | some j=>simp [ho] at he
   | mp ka ks dom get=>simp [ho] at he
   | gone=>simp [ho] at he
 | _=>simp [kS] at he
theorem sD (h:Rel B c s a) {t:TypeId} {x v:AV} {X:Value} (hx:Rep c x X) (he:kS P s t x=some (true,v)):cy P B c s (Instr.loadAt t X) v:=by
 obtain ⟨y,h1,h2⟩:=nz h hx he
 exact cy.still h h1 h2
theorem wx {t:TypeId} (h:solid P t=true) (w:World):∃n,(sizeOf t).run P w=.ok (n+1) w:=by
 unfold solid at h
 split at h
 ·rename_i n hn;exact ⟨n,run_sizeOf hn w⟩
 ·simp at h
theorem iI {t:TypeId} {f:Nat} {fd:Field} (hf:ll P t f=some fd) (hs:solid P fd.type=true) (b o:Nat) (w:World) :
  (Instr.fieldAt t (.pointer (some ⟨b,o,none⟩)) f).run P w=.ok (.pointer (some ⟨b,o+fd.offset,none⟩)) w:=by
 unfold ll at hf
 obtain ⟨n,hn⟩:=wx hs w
 split at hf
 ·rename_i fs hu
  simp [Instr.fieldAt,run_underlying hu,hf,Instr.sureAddr,fieldPlace,hn,Addr.add_lit]
 ·simp at hf
theorem mN (h:Rel B c s a) {t:TypeId} {f:Nat} {x v:AV} {X:Value} (hx:Sees B c s x X) (he:lY P t f x=some (true,v)):cy P B c s (Instr.fieldAt t X f) v:=by
 unfold lY at he
 split at he
 ·rename_i fd hf
  cases hs:solid P fd.type with
  | false=>simp [hs] at he
  | true=>
   simp only [hs,cond_true] at he
   obtain ⟨hr,hl,hpl⟩:=hx
   clear hpl
   cases x with
   | ref k off=>
    cases hr
    simp [ok1] at he;subst he
    exact cy.still h (iI hf hs _ _ _) ⟨.ref _ _,by simpa [AV.keys] using hl,rfl⟩
   | aref k sz i off=>
    cases hr
    simp [ok1] at he;subst he
    refine cy.still h (iI hf hs _ _ _) ⟨?_,by simpa [AV.keys] using hl,rfl⟩
    rw [Nat.add_assoc];exact .aref _ _ _ _
   | gref k sz n i off=>
    simp [ok1] at he;subst he
    cases hr with
    | gref _ _ _ _ _ b cap hown=>
     refine cy.still h (iI hf hs _ _ _) ⟨?_,by simpa [AV.keys] using hl,rfl⟩
     rw [Nat.add_assoc];exact .gref _ _ _ _ _ _ _ hown
   | elt cs off=>
    simp [ok1] at he;subst he
    cases hr with
    | elt _ _ b o vals hk hc hr=>
     refine cy.still h (iI hf hs _ _ _) ⟨?_,by simp [AV.keys],rfl⟩
     rw [Nat.add_assoc];exact .elt _ _ _ _ vals hk hc hr
   | _=>simp at he
 ·simp at he
theorem tQ {t:TypeId} {cs:List AV} {vs:Array Value} (hs:vs.size=cs.length) (hr:∀ (i:Nat) (u:AV),cs[i]?=some u->u.one=true/\Rep c u (vs.getD i undef)) {off:Nat} {v:AV} (he:er P t cs off=some v) (w:World) :
  ∃x,(part t vs off).run P w=.ok x w/\Rep c v x/\(∀k∈v.keys,k∈au cs)/\v.cA=false:=by
 unfold er at he
 split at he
 ·rename_i d n hu hn
  cases hd:kZ d with
  | true=>
   simp only [hd,cond_true] at he
   cases hb:Nat.ble (off+n) cs.length with
   | false=>simp [hb] at he
   | true=>
    simp only [hb,cond_true,Option.some.injEq] at he
    have hle:=Nat.le_of_ble_eq_true hb
    subst he
    refine ⟨.agg (vs.extract off (off+n)),?_,?_,?_,rfl⟩
    ·unfold part
     rw [Sem.run_bind,fW hu]
     simp [hd,run_sizeOf hn]
    ·refine .agg _ _ (by simp;omega) (λi u hu=>?_) (λi u hu=>?_)
     ·have hi:i < n:=by
       rcases Nat.lt_or_ge i n with h | h
       ·exact h
       ·simp [List.getElem?_take,Nat.not_lt.2 h] at hu
      simp [hi,List.getElem?_drop] at hu
      exact (hr _ u hu).1
     ·have hi:i < n:=by
       rcases Nat.lt_or_ge i n with h | h
       ·exact h
       ·simp [List.getElem?_take,Nat.not_lt.2 h] at hu
      simp [hi,List.getElem?_drop] at hu
      have:=(hr _ u hu).2
      have hlt:off+i < vs.size:=by omega
      simp only [Array.getD_eq_getD_getElem?] at this ⊢
      rw [Array.getElem?_extract]
      rw [if_pos (by omega)]
      exact this
    ·intro k hk
     simp only [AV.keys] at hk
     have hsub:∀ (l:List AV) (m:Nat),(∀k∈au (l.drop m),k∈au l)/\(∀k∈au (l.take m),k∈au l):=by
      intro l m
      have e:=fo (l.take m) (l.drop m)
      rw [List.take_append_drop] at e
      exact ⟨λk hk=>by rw [e];simp [hk],λk hk=>by rw [e];simp [hk]⟩
     exact (hsub cs off).1 k ((hsub (cs.drop off) n).2 k hk)
  | false=>
   simp only [hd,cond_false] at he
   cases hcs:cs.drop off with
   | nil=>simp [hcs] at he
   | cons u r=>
    simp [hcs] at he;subst he
    have hu':cs[off]?=some u:=by
     have:=congrArg (λl=>l[0]?) hcs
     simpa [List.getElem?_drop] using this
    obtain ⟨h1,hr⟩:=hr off u hu'
    have hlt:off < vs.size:=by rw [hs];exact (List.getElem?_eq_some_iff.1 hu').1
    refine ⟨vs.getD off undef,?_,hr,λk hk=>aR hu' k hk,qE h1⟩
    unfold part
    rw [Sem.run_bind,fW hu]
    simp [hd,hlt,Array.getD_eq_getD_getElem?]
 ·simp at he
theorem ra (h:Rel B c s a) {t:TypeId} {f:Nat} {x v:AV} {X:Value} (hx:Sees B c s x X) (he:xR P t f x=some (true,v)):cy P B c s (Instr.field t X f) v:=by
 unfold xR at he
 split at he
 ·rename_i fd cs hf
  simp only [tG] at he
  cases hp:er P fd.type cs fd.offset with
  | none=>simp [hp] at he
  | some u=>
   simp [hp] at he;subst he
   obtain ⟨hr,hl,hpl⟩:=hx
   clear hpl
   cases hr with
   | agg _ vs hs h1 hr=>
    obtain ⟨x,e1,e2,e3,e4⟩:=tQ hs (λi u hu=>⟨h1 i u hu,hr i u hu⟩) hp c.w
    refine cy.still h ?_ ⟨e2,λk hk=>hl k (by simpa [AV.keys] using e3 k hk),e4⟩
    unfold ll at hf
    split at hf
    ·rename_i fs hu
     simp [Instr.field,run_underlying hu,hf,asAgg,e1]
    ·simp at hf
 ·simp at he
theorem within_iff {i:Int} {n:Nat} (h:within i n=true):0<=i/\i < n:=by simpa [within] using h
theorem mK (h:Rel B c s a) {t:TypeId} {x y v:AV} {X Y:Value} (hx:Sees B c s x X) (hy:Sees B c s y Y) (he:eU P s t x y=some (true,v)):cy P B c s (Instr.indexAt t X Y) v:=by
 obtain ⟨hr,hl,hpl⟩:=hx
 clear hpl
 cases y with
 | int k i=>
  have hyr:=hy.rep
  cases hyr
  clear hy
  simp only [eU] at he
  split at he
  ·rename_i e o sz n get hu
   simp only [aq] at he
   cases hb:(aA P e==some sz) with
   | false=>simp [hb] at he
   | true=>
    simp only [hb,cond_true,Option.some.injEq,Prod.mk.injEq] at he
    obtain ⟨hw,rfl⟩:=he
    have hw:=within_iff hw
    have hsz:=beq_iff_eq.1 hb
    cases hr with
    | slNil=>omega
    | sl _ _ _ _ ad cap vals hsp hn ho hlen hc hrr=>
     have hi:i.toNat < n:=by omega
     have hsp:=hsp (by omega)
     obtain ⟨b,of,sp⟩:=ad
     simp only at hsp
     subst hsp
     refine cy.still h (x:=.pointer (some ⟨b,of+i.toNat*sz,none⟩)) ?_ ⟨?_,by simp [AV.keys],rfl⟩
     ·unfold Instr.indexAt
      simp [asIntOf,run_underlying hu,hw.1,hw.2,run_sizeOf hsz,Addr.add_lit]
     ·have:=Rep.elt (c:=c) (get i.toNat) 0 b (of+i.toNat*sz) (λq=>vals i.toNat q) (hlen _ hi).2
       (λq u hu=>by rw [Nat.add_assoc];exact hc _ _ _ hi hu) (λq u hu=>hrr _ _ _ hi hu)
      simpa using this
  ·rename_i e k' sz off n hu
   simp only [aq] at he
   cases hb:(aA P e==some sz) with
   | false=>simp [hb] at he
   | true=>
    simp only [hb,cond_true,Option.some.injEq,Prod.mk.injEq] at he
    obtain ⟨hw,rfl⟩:=he
    have hw:=within_iff hw
    have hsz:=beq_iff_eq.1 hb
    cases hr with
    | msl _ _ _ _ cap o hcap ho=>
     have ho:=ho (by omega)
     subst ho
     refine cy.still h (x:=.pointer (some ⟨c.β k',off*sz+i.toNat*sz,none⟩)) ?_ ⟨?_,by simpa [AV.keys] using hl,rfl⟩
     ·unfold Instr.indexAt
      simp [asIntOf,run_underlying hu,hw.1,hw.2,run_sizeOf hsz,Addr.add_lit]
     ·have e1:off*sz+i.toNat*sz=(off+i.toNat)*sz+0:=by rw [Nat.add_mul];rfl
      rw [e1];exact .aref _ _ _ _
  ·rename_i e k' sz n hu
   split at he
   ·rename_i sz' m get ho
    simp only [aq] at he
    cases hb:(aA P e==some sz&&Nat.beq sz sz') with
    | false=>simp [hb] at he
    | true=>
     simp only [hb,cond_true,Option.some.injEq,Prod.mk.injEq,Bool.and_eq_true] at he
     obtain ⟨⟨hw,h3⟩,rfl⟩:=he
     have hw:=within_iff hw
     simp only [Bool.and_eq_true,beq_iff_eq] at hb
     obtain ⟨hsz,h2⟩:=hb
     have h2:=du h2
     have h3:=du h3
     subst h2 h3
     cases hr with
     | gslNil=>omega
     | gsl _ _ _ ad cap hn hown=>
      obtain ⟨ad',cap',g1,g2,g3,g4⟩:=nC h ho hown rfl (by omega)
      simp only [Value.slice.injEq,Option.some.injEq,true_and] at g2
      obtain ⟨rfl,rfl⟩:=g2
      obtain ⟨b,of,sp⟩:=ad
      obtain ⟨q1,q2⟩:=g4.addr
      simp only at q1 q2
      subst q1 q2
      refine cy.still h (x:=.pointer (some ⟨b,0+i.toNat*sz,none⟩)) ?_ ⟨?_,by simpa [AV.keys] using hl,rfl⟩
      ·unfold Instr.indexAt
       simp [asIntOf,run_underlying hu,hw.1,hw.2,run_sizeOf hsz,Addr.add_lit]
      ·have e1:0+i.toNat*sz=i.toNat*sz+0:=by omega
       rw [e1];exact .gref _ _ _ _ _ _ cap hown
   ·simp at he
  ·rename_i e k' sz n lo len hu
   split at he
   ·rename_i sz' m get ho
    simp only [aq] at he
    cases hb:(aA P e==some sz&&Nat.beq sz sz') with
    | false=>simp [hb] at he
    | true=>
     simp only [hb,cond_true,Option.some.injEq,Prod.mk.injEq,Bool.and_eq_true] at he
     obtain ⟨⟨hw,h3,h4⟩,rfl⟩:=he
     have hw:=within_iff hw
     simp only [Bool.and_eq_true,beq_iff_eq] at hb
     obtain ⟨hsz,h2⟩:=hb
     have h2:=du h2
     have h3:=du h3
     have h4:=Nat.le_of_ble_eq_true h4
     subst h2 h3
     cases hr with
     | gsubNil=>omega
     | gsub _ _ _ _ _ ad cap a' cap' hn hown hle e1 e2 e3=>
      obtain ⟨ad',cap'',g1,g2,g3,g4⟩:=nC h ho hown rfl (by omega)
      simp only [Value.slice.injEq,Option.some.injEq,true_and] at g2
      obtain ⟨rfl,rfl⟩:=g2
      obtain ⟨b,of,sp⟩:=ad
      obtain ⟨q1,q2⟩:=g4.addr
      simp only at q1 q2
      subst q1 q2
      obtain rfl:=e3 (by omega)
      refine cy.still h (x:=.pointer (some ⟨b,0+lo*sz+i.toNat*sz,none⟩)) ?_ ⟨?_,by simpa [AV.keys] using hl,rfl⟩
      ·unfold Instr.indexAt
       simp [asIntOf,run_underlying hu,hw.1,hw.2,run_sizeOf hsz,Addr.add_lit]
      ·have e1:0+lo*sz+i.toNat*sz=(lo+i.toNat)*sz+0:=by rw [Nat.add_mul];omega
       rw [e1];exact .gref _ _ _ _ _ _ cap hown
   ·simp at he
  ·rename_i m e k' hu
   split at he
   ·rename_i sz n get ho
    simp only [aq] at he
    cases hb:(Nat.beq m n&&(aA P e==some sz&&Nat.blt 1 n)) with
    | false=>simp [hb] at he
    | true=>
     simp only [hb,cond_true,Option.some.injEq,Prod.mk.injEq] at he
     obtain ⟨hw,rfl⟩:=he
     have hw:=within_iff hw
     simp only [Bool.and_eq_true,beq_iff_eq] at hb
     obtain ⟨hm,hsz,_⟩:=hb
     have hm:=du hm
     subst hm
     cases hr
     refine cy.still h (x:=.pointer (some ⟨c.β k',0+i.toNat*sz,none⟩)) ?_ ⟨?_,by simpa [AV.keys] using hl,rfl⟩
     ·unfold Instr.indexAt
      simp [asIntOf,run_underlying hu,hw.1,hw.2,run_sizeOf hsz,Addr.add_lit,Instr.sureAddr]
     ·have e1:0+i.toNat*sz=i.toNat*sz+0:=by omega
      rw [e1];exact .aref _ _ _ _
   ·simp at he
  ·rename_i m e cs off hu
   cases hz:aA P e with
   | none=>simp [hz] at he
   | some sz=>
    simp only [hz,Option.map_some,Option.some.injEq,Prod.mk.injEq] at he
    obtain ⟨hw,rfl⟩:=he
    have hw:=within_iff hw
    cases hr with
    | elt _ _ b o vals h1 h2 h3=>
     refine cy.still h (x:=.pointer (some ⟨b,o+off+i.toNat*sz,none⟩)) ?_ ⟨?_,by simp [AV.keys],rfl⟩
     ·unfold Instr.indexAt
      simp [asIntOf,run_underlying hu,hw.1,hw.2,run_sizeOf hz,Addr.add_lit,Instr.sureAddr]
     ·rw [Nat.add_assoc];exact .elt cs (off+i.toNat*sz) b o vals h1 h2 h3
  ·simp at he
 | _=>simp [eU] at he
theorem qT (h:Rel B c s a) {t:TypeId} {x y v:AV} {X Y:Value} (hx:Sees B c s x X) (hy:Sees B c s y Y) (he:uo P t x y=some (true,v)):cy P B c s (Instr.index t X Y) v:=by
 obtain ⟨hr,hl,hpl⟩:=hx
 clear hpl
 cases y with
 | int k i=>
  have hyr:=hy.rep
  cases hyr
  clear hy
  simp only [uo] at he
  split at he
  ·rename_i m e sz n get hu
   simp only [aq] at he
   cases hb:(Nat.beq m n&&(aA P e==some sz)) with
   | false=>simp [hb] at he
   | true=>
    simp only [Bool.and_eq_true,beq_iff_eq] at hb
    obtain ⟨hm,hsz⟩:=hb
    have hm:=du hm
    subst hm
    simp only [hsz,Nat.beq_refl,beq_self_eq_true,Bool.and_self,cond_true] at he
    cases hp:er P e (get i.toNat) 0 with
    | none=>simp [hp] at he
    | some u=>
     simp [hp] at he
     obtain ⟨hw,rfl⟩:=he
     have hw:=within_iff hw
     have hi:i.toNat < m:=by omega
     cases hr with
     | arr _ _ _ vs hs hlen h1 hrr=>
      have hsub:(vs.extract (i.toNat*sz) (i.toNat*sz+sz)).size=(get i.toNat).length:=by
       have h2:(i.toNat+1)*sz<=m*sz:=Nat.mul_le_mul_right _ hi
       rw [Nat.succ_mul] at h2
       simp [(hlen _ hi).1];omega
      obtain ⟨x,e1,e2,e3,e4⟩:=tQ (P:=P) (c:=c) (t:=e) hsub (λq u hu=>by
       refine ⟨h1 _ _ _ hi hu,?_⟩
       have hq:q < sz:=by rw [<-(hlen _ hi).1];exact (List.getElem?_eq_some_iff.1 hu).1
       have:=hrr _ _ _ hi hu
       have hlt:=br hi hq
       simp only [Array.getD_eq_getD_getElem?] at this ⊢
       rw [Array.getElem?_extract,if_pos (by omega)];exact this) hp c.w
      have hpart:(part e vs (i.toNat*sz)).run P c.w=.ok x c.w:=by
       rw [<-e1]
       have h2:(i.toNat+1)*sz<=m*sz:=Nat.mul_le_mul_right _ hi
       rw [Nat.succ_mul] at h2
       unfold er at hp
       split at hp
       ·rename_i d nn hue hne
        have:nn=sz:=by rw [hsz] at hne;simpa using hne.symm
        subst this
        unfold part
        simp only [Sem.run_bind,fW hue,Result.andThen_ok]
        cases hd:kZ d with
        | true=>simp [run_sizeOf hne,Array.extract_extract]
        | false=>
         simp only [hd,cond_false] at hp
         have hne0:0 < nn:=by
          rcases Nat.eq_zero_or_pos nn with h0 | h0
          ·have:=(hlen _ hi).1;rw [h0] at this
           have:=List.length_eq_zero_iff.1 this
           simp [this] at hp
          ·exact h0
         simp only [Bool.false_eq_true,if_false]
         rw [Array.getElem?_extract,if_pos (by omega)]
         simp
       ·simp at hp
      refine cy.still h ?_ ⟨e2,λk hk=>by have:=e3 k hk;simp [(hlen _ hi).2] at this,e4⟩
      unfold Instr.index
      simp [asIntOf,run_underlying hu,hw.1,hw.2,run_sizeOf hsz,hpart]
  ·rename_i l hu
   simp only [Option.some.injEq,Prod.mk.injEq] at he
   obtain ⟨hw,rfl⟩:=he
   have hw:=within_iff hw
   cases hr
   refine cy.still h ?_ Sees.int
   unfold Instr.index
   have hi:i.toNat < l.length:=by omega
   have e1:(ByteArray.mk l.toArray)[i.toNat]?=some (l.getD i.toNat 0):=by
    rw [ByteArray.getElem?_lt' _ _ (by show _ < l.toArray.size;simpa using hi)]
    show some (l.toArray[i.toNat])=_
    simp [List.getD_eq_getElem?_getD,List.getElem?_eq_getElem hi]
   simp only [Sem.run_bind,asIntOf,Sem.run_pure,Result.andThen_ok,run_underlying hu,if_pos hw.1,e1]
  ·simp at he
 | _=>simp [uo] at he
end Go.Ab

namespace Go.Ab
open Go Go.RowKit
variable {P:Program} {B:Base} {c:Cx} {s:St} {a:Act}
inductive OSees (B:Base) (c:Cx) (s:St):Option AV->Option Value->Prop
 | none:OSees B c s none none
 | some {v x}:Sees B c s v x->OSees B c s (some v) (some x)
theorem rz {x:Option AV} {X:Option Value} (hx:OSees B c s x X) {l:Int} (hb:bound x 0=some l) {h:Nat} (h0:0<=l) (h1:l<=h) (w:World) (cd:BoundsCode) :
  (match X with | some v=>Instr.sliceBound v h cd | none=>pure 0:Sem Nat).run P w=.ok l.toNat w:=by
 cases hx with
 | none=>simp [bound] at hb;subst hb;rfl
 | some hs=>
  rename_i v x
  cases v <;> simp [bound] at hb
  subst hb
  cases hs.rep
  exact run_sliceBound w _ _ _ _ h0 h1
theorem l8 {x:Option AV} {X:Option Value} (hx:OSees B c s x X) {n:Nat} {h:Int} (hb:bound x n=some h) {y:Nat} (h0:0<=h) (h1:h<=y) (w:World) (cd:BoundsCode) :
  (match X with | some v=>Instr.sliceBound v y cd | none=>pure n:Sem Nat).run P w=.ok h.toNat w:=by
 cases hx with
 | none=>simp [bound] at hb;subst hb;rfl
 | some hs=>
  rename_i v x
  cases v <;> simp [bound] at hb
  subst hb
  cases hs.rep
  exact run_sliceBound w _ _ _ _ h0 h1
theorem cT {lo hi:Option AV} {LO HI:Option Value} (hlo:OSees B c s lo LO) (hhi:OSees B c s hi HI) {isS:Bool} {n cap:Nat} {l h:Int}
  (bl:bound lo 0=some l) (bh:bound hi n=some h) (h0:0<=l) (h1:l<=h) (h2:h<=n) (hn:n<=cap) (w:World) :
  (Instr.sliceBounds isS n cap LO HI none).run P w=.ok (l.toNat,h.toNat,cap) w:=by
 have e1:=λcd=>l8 (P:=P) hhi bh (y:=cap) (by omega) (by omega) w cd
 have e2:=λcd=>rz (P:=P) hlo bl (h:=h.toNat) h0 (by omega) w cd
 unfold Instr.sliceBounds
 cases HI with
 | none=>
  cases LO with
  | none=>
   have a1:=e1 .index;have a2:=e2 .index
   simp at a1 a2
   simp [a1,a2]
  | some x=>
   have a1:=e1 .index
   simp at a1
   simp [e2,a1]
 | some y=>
  cases LO with
  | none=>
   have a2:=e2 .index
   simp at a2
   simp [e1,a2]
  | some x=>simp [Sem.run_bind,e1,e2]
theorem iR {lo:Option AV} {LO:Option Value} {HI MX:Value} {kh km:IntKind} {l h:Int} (hlo:OSees B c s lo LO) (hhi:Sees B c s (.int kh h) HI) (hmx:Sees B c s (.int km h) MX) {n cap:Nat}
  (bl:bound lo 0=some l) (h0:0<=l) (h1:l<=h) (h2:h<=cap) (w:World) :
  (Instr.sliceBounds true n cap LO (some HI) (some MX)).run P w=.ok (l.toNat,h.toNat,h.toNat) w:=by
 have e0:=l8 (P:=P) (.some hmx) (n:=0) (h:=h) rfl (y:=cap) (by omega) h2 w .slice3Acap
 have e1:=l8 (P:=P) (.some hhi) (n:=0) (h:=h) rfl (y:=h.toNat) (by omega) (by omega) w .slice3B
 have e2:=rz (P:=P) hlo bl (h:=h.toNat) h0 (by omega) w .slice3C
 simp only at e0 e1
 unfold Instr.sliceBounds
 cases LO with
 | none=>simp at e2;simp [Sem.run_bind,e0,e1,e2]
 | some x=>simp at e2;simp [Sem.run_bind,e0,e1,e2]
theorem pY (a:Addr) (n:Nat):(a.add n).block=a.block/\(a.add n).off=a.off+n/\(a.spot=none->(a.add n).spot=none):=by
 unfold Addr.add
 by_cases h:n=0
 ·rw [if_pos h,h];exact ⟨rfl,rfl,id⟩
 ·rw [if_neg h];exact ⟨rfl,rfl,λ_=>rfl⟩
theorem add_add (a:Addr) (m n:Nat):(a.add m).add n=a.add (m+n):=by
 unfold Addr.add
 by_cases hm:m=0
 ·subst hm;simp
 ·by_cases hn:n=0
  ·subst hn;simp
  ·simp [hm,hn,Nat.add_assoc]
theorem qo (h:Rel B c s a) {t e:TypeId} {k sz n off len:Nat} {X:Value} {lo hi:Option AV} {LO HI:Option Value} (hlo:OSees B c s lo LO) (hhi:OSees B c s hi HI) (hu:P.underlying t=some (.slice e)) (hsz:aA P e=some sz)
  {lo' hi':Int} (hbl:bound lo 0=some lo') (hbh:bound hi len=some hi') (h0:0<=lo') (h1:lo'<=hi') (h2:hi'<=len) (hr:Rep c (.gsub k sz n off len) X) (hl:live s.objs k) :
  cy P B c s (Instr.sliceAt t X LO HI none) (.gsub k sz n (off+lo'.toNat) (hi'.toNat - lo'.toNat)):=by
 cases hr with
 | gsubNil _ _ ho=>
  have e1:=cT (P:=P) hlo hhi (isS:=true) (n:=0) (cap:=0) hbl hbh h0 h1 h2 (Nat.le_refl _) c.w
  have l0:lo'.toNat=0:=by omega
  have l1:hi'.toNat=0:=by omega
  refine cy.still h (x:=.slice none 0 0) ?_ ⟨?_,by simpa [AV.keys] using hl,rfl⟩
  ·unfold Instr.sliceAt
   simp only [Sem.run_bind,run_underlying hu,Result.andThen_ok]
   unfold Instr.slice
   simp [Sem.run_bind,run_underlying hu,e1,run_sizeOf hsz,l0,l1]
  ·rw [l0,l1];exact .gsubNil _ _ ho
 | gsub _ _ _ _ _ ad cap a' cap' hn ho hle g1 g2 g3=>
  have e1:=cT (P:=P) hlo hhi (isS:=true) (n:=len) (cap:=cap') hbl hbh h0 h1 h2 (by omega) c.w
  refine cy.still h (x:=.slice (if cap'=lo'.toNat then some a' else some (a'.add (lo'.toNat*sz))) (hi'.toNat - lo'.toNat) (cap' - lo'.toNat)) ?_ ⟨?_,by simpa [AV.keys] using hl,rfl⟩
  ·unfold Instr.sliceAt
   simp only [Sem.run_bind,run_underlying hu,Result.andThen_ok]
   unfold Instr.slice
   simp [Sem.run_bind,run_underlying hu,e1,run_sizeOf hsz]
  ·split
   ·refine .gsub _ _ _ _ _ ad cap a' _ hn ho (by omega) (by omega) (λhz=>g2 (by omega)) (λhz=>by omega)
   ·refine .gsub _ _ _ _ _ ad cap (a'.add (lo'.toNat*sz)) _ hn ho (by omega) (by omega) (λhz=>?_) (λhz=>?_)
    ·have:lo'.toNat=0:=by omega
     rw [this,Nat.zero_mul,g2 (by omega)];simp [Addr.add]
    ·rw [g3 (by omega),add_add,Nat.add_mul]
theorem qq (h:Rel B c s a) {t:TypeId} {x v:AV} {X:Value} {lo hi mx:Option AV} {LO HI MX:Option Value} (hx:Sees B c s x X) (hlo:OSees B c s lo LO) (hhi:OSees B c s hi HI) (hmx:OSees B c s mx MX)
  (he:wz P t x lo hi mx=some (true,v)):cy P B c s (Instr.sliceAt t X LO HI MX) v:=by
 unfold wz at he
 cases mx with
 | some m=>
  cases m with
  | int km m=>
   obtain ⟨hr,hl,hpl⟩:=hx
   clear hpl
   simp only at he
   split at he
   ·rename_i e o sz n get kh h' hu
    cases hmx with
    | some hsm=>
    rename_i MX
    cases hhi with
    | some hsh=>
    rename_i HI
    cases hbl:bound lo 0 with
    | none=>simp [hbl] at he
    | some lo'=>
     simp only [hbl,Option.bind_some,aq] at he
     cases hb:(aA P e==some sz) with
     | false=>simp [hb] at he
     | true=>
      simp [hb] at he
      obtain ⟨⟨h0,h1,rfl,h2⟩,rfl⟩:=he
      have hsz:=beq_iff_eq.1 hb
      cases hr with
      | slNil _ _ _ ho=>
       have e1:=iR (P:=P) hlo hsh hsm (n:=0) (cap:=0) hbl h0 h1 h2 c.w
       have l0:lo'.toNat=0:=by omega
       have l1:h'.toNat=0:=by omega
       refine cy.still h (x:=.slice none 0 0) ?_ ⟨?_,by simp [AV.keys],rfl⟩
       ·unfold Instr.sliceAt
        simp only [Sem.run_bind,run_underlying hu,Result.andThen_ok]
        unfold Instr.slice
        simp [Sem.run_bind,run_underlying hu,e1,run_sizeOf hsz,l0,l1]
       ·rw [l0,l1];exact .slNil _ _ _ trivial
      | sl _ _ _ _ ad cap vals hsp hn ho hlen hc hrr=>
       have e1:=iR (P:=P) hlo hsh hsm (n:=n) (cap:=cap) hbl h0 h1 (by omega) c.w
       obtain ⟨b,of,sp⟩:=ad
       simp only at hsp
       refine cy.still h (x:=.slice (if h'.toNat=lo'.toNat then some ⟨b,of,sp⟩ else some ((⟨b,of,sp⟩:Addr).add (lo'.toNat*sz))) (h'.toNat - lo'.toNat) (h'.toNat - lo'.toNat)) ?_ ⟨?_,by simp [AV.keys],rfl⟩
       ·unfold Instr.sliceAt
        simp only [Sem.run_bind,run_underlying hu,Result.andThen_ok]
        unfold Instr.slice
        simp [Sem.run_bind,run_underlying hu,e1,run_sizeOf hsz]
       ·split
        ·have hz:h'.toNat - lo'.toNat=0:=by omega
         rw [hz]
         exact .sl _ _ _ _ _ _ (λ_ _=>undef) (λh=>by omega) (Nat.zero_le _) rfl (λj hj=>by omega) (λj i u hj=>by omega) (λj i u hj=>by omega)
        ·obtain ⟨q1,q2,q3⟩:=pY ⟨b,of,sp⟩ (lo'.toNat*sz)
         refine .sl _ _ _ _ ((⟨b,of,sp⟩:Addr).add (lo'.toNat*sz)) _ (λj i=>vals (lo'.toNat+j) i) (λh=>q3 (hsp (by omega))) (Nat.le_refl _) rfl (λj hj=>hlen _ (by omega)) (λj i u hj hu=>?_) (λj i u hj hu=>hrr _ _ _ (by omega) hu)
         have:=hc (lo'.toNat+j) i u (by omega) hu
         have e2:of+((lo'.toNat+j)*sz+i)=of+lo'.toNat*sz+(j*sz+i):=by rw [Nat.add_mul];omega
         simp only [e2] at this
         rw [q1,q2]
         exact this
   ·cases he
  | _=>simp at he
 | none=>
  cases hmx
  obtain ⟨hr,hl,hpl⟩:=hx
  clear hpl
  simp only at he
  split at he
  ·rename_i l hu
   cases hbl:bound lo 0 with
   | none=>simp [hbl] at he
   | some lo'=>
    cases hbh:bound hi l.length with
    | none=>simp [hbl,hbh] at he
    | some hi'=>
     simp [hbl,hbh] at he
     obtain ⟨⟨h0,h1,h2⟩,rfl⟩:=he
     cases hr
     refine cy.still h ?_ Sees.str
     have e1:=cT (P:=P) hlo hhi (isS:=false) (n:=l.length) (cap:=l.length) hbl hbh h0 h1 h2 (Nat.le_refl _) c.w
     have esz:(ByteArray.mk l.toArray).size=l.length:=by simp [ByteArray.size]
     unfold Instr.sliceAt
     simp only [Sem.run_bind,run_underlying hu,Result.andThen_ok]
     unfold Instr.slice
     simp only [Sem.run_bind,run_underlying hu,Result.andThen_ok,Option.isSome_none,Bool.false_eq_true,if_false,Sem.run_pure,esz,e1]
     congr 2
     apply ByteArray.ext
     apply Array.ext'
     have:=Lib.extract_toList ⟨l.toArray⟩ lo'.toNat hi'.toNat
     rw [ByteArray.toList_eq] at this
     simp
  ·rename_i e o sz n get hu
   cases hbl:bound lo 0 with
   | none=>simp [hbl] at he
   | some lo'=>
    cases hbh:bound hi n with
    | none=>simp [hbl,hbh] at he
    | some hi'=>
     simp only [hbl,hbh,Option.bind_some,aq] at he
     cases hb:(aA P e==some sz) with
     | false=>simp [hb] at he
     | true=>
      simp [hb] at he
      obtain ⟨⟨h0,h1,h2⟩,rfl⟩:=he
      have hsz:=beq_iff_eq.1 hb
      cases hr with
      | slNil _ _ _ ho=>
       have e1:=cT (P:=P) hlo hhi (isS:=true) (n:=0) (cap:=0) hbl hbh h0 h1 h2 (Nat.le_refl _) c.w
       have l0:lo'.toNat=0:=by omega
       have l1:hi'.toNat=0:=by omega
       refine cy.still h (x:=.slice none 0 0) ?_ ⟨?_,by simp [AV.keys],rfl⟩
       ·unfold Instr.sliceAt
        simp only [Sem.run_bind,run_underlying hu,Result.andThen_ok]
        unfold Instr.slice
        simp [Sem.run_bind,run_underlying hu,e1,run_sizeOf hsz,l0,l1]
       ·rw [l0,l1];exact .slNil _ _ _ trivial
      | sl _ _ _ _ ad cap vals hsp hn ho hlen hc hrr=>
       have e1:=cT (P:=P) hlo hhi (isS:=true) (n:=n) (cap:=cap) hbl hbh h0 h1 h2 hn c.w
       obtain ⟨b,of,sp⟩:=ad
       simp only at hsp
       refine cy.still h (x:=.slice (if cap=lo'.toNat then some ⟨b,of,sp⟩ else some ((⟨b,of,sp⟩:Addr).add (lo'.toNat*sz))) (hi'.toNat - lo'.toNat) (cap - lo'.toNat)) ?_ ⟨?_,by simp [AV.keys],rfl⟩
       ·unfold Instr.sliceAt
        simp only [Sem.run_bind,run_underlying hu,Result.andThen_ok]
        unfold Instr.slice
        simp [Sem.run_bind,run_underlying hu,e1,run_sizeOf hsz]
       ·split
        ·have hz:hi'.toNat - lo'.toNat=0:=by omega
         rw [hz]
         exact .sl _ _ _ _ _ _ (λ_ _=>undef) (λh=>hsp (by omega)) (Nat.zero_le _) trivial (λj hj=>by omega) (λj i u hj=>by omega) (λj i u hj=>by omega)
        ·obtain ⟨q1,q2,q3⟩:=pY ⟨b,of,sp⟩ (lo'.toNat*sz)
         refine .sl _ _ _ _ ((⟨b,of,sp⟩:Addr).add (lo'.toNat*sz)) _ (λj i=>vals (lo'.toNat+j) i) (λh=>q3 (hsp (by omega))) (by omega) trivial (λj hj=>hlen _ (by omega)) (λj i u hj hu=>?_) (λj i u hj hu=>hrr _ _ _ (by omega) hu)
         have:=hc (lo'.toNat+j) i u (by omega) hu
         have e2:of+((lo'.toNat+j)*sz+i)=of+lo'.toNat*sz+(j*sz+i):=by rw [Nat.add_mul];omega
         simp only [e2] at this
         rw [q1,q2]
         exact this
  ·rename_i e k sz off n hu
   cases hbl:bound lo 0 with
   | none=>simp [hbl] at he
   | some lo'=>
    cases hbh:bound hi n with
    | none=>simp [hbl,hbh] at he
    | some hi'=>
     simp only [hbl,hbh,Option.bind_some,aq] at he
     cases hb:(aA P e==some sz) with
     | false=>simp [hb] at he
     | true=>
      simp [hb] at he
      obtain ⟨⟨h0,h1,h2⟩,rfl⟩:=he
      have hsz:=beq_iff_eq.1 hb
      cases hr with
      | msl _ _ _ _ cap o hn ho=>
       have e1:=cT (P:=P) hlo hhi (isS:=true) (n:=n) (cap:=cap) hbl hbh h0 h1 h2 hn c.w
       refine cy.still h (x:=.slice (if cap=lo'.toNat then some ⟨c.β k,o,none⟩ else some ⟨c.β k,o+lo'.toNat*sz,none⟩) (hi'.toNat - lo'.toNat) (cap - lo'.toNat)) ?_ ⟨?_,by simpa [AV.keys] using hl,rfl⟩
       ·unfold Instr.sliceAt
        simp only [Sem.run_bind,run_underlying hu,Result.andThen_ok]
        unfold Instr.slice
        simp [Sem.run_bind,run_underlying hu,e1,run_sizeOf hsz,Addr.add_lit]
       ·split
        ·exact .msl _ _ _ _ _ _ (by omega) (by omega)
        ·exact .msl _ _ _ _ _ _ (by omega) (λhp=>by rw [ho (by omega),Nat.add_mul])
  ·rename_i e k sz n hu
   cases hbl:bound lo 0 with
   | none=>simp [hbl] at he
   | some lo'=>
    cases hbh:bound hi n with
    | none=>simp [hbl,hbh] at he
    | some hi'=>
     simp only [hbl,hbh,Option.bind_some,aq] at he
     cases hb:(aA P e==some sz) with
     | false=>simp [hb] at he
     | true=>
      simp [hb] at he
      obtain ⟨⟨h0,h1,h2⟩,rfl⟩:=he
      have hr':Rep c (.gsub k sz n 0 n) X:=by
       cases hr with
       | gslNil _ _ ho=>exact .gsubNil _ _ ho
       | gsl _ _ _ ad cap hn ho=>exact .gsub _ _ _ _ _ ad cap ad cap hn ho (by omega) rfl (λ_=>rfl) (λ_=>by simp [Addr.add])
      have:=qo h hlo hhi hu (beq_iff_eq.1 hb) hbl hbh h0 h1 h2 hr' (hl k (by simp [AV.keys]))
      rwa [Nat.zero_add] at this
  ·rename_i e k sz n off len hu
   cases hbl:bound lo 0 with
   | none=>simp [hbl] at he
   | some lo'=>
    cases hbh:bound hi len with
    | none=>simp [hbl,hbh] at he
    | some hi'=>
     simp only [hbl,hbh,Option.bind_some,aq] at he
     cases hb:(aA P e==some sz) with
     | false=>simp [hb] at he
     | true=>
      simp [hb] at he
      obtain ⟨⟨h0,h1,h2⟩,rfl⟩:=he
      exact qo h hlo hhi hu (beq_iff_eq.1 hb) hbl hbh h0 h1 h2 hr (hl k (by simp [AV.keys]))
  ·simp at he
theorem Rep.plain {v:AV} {x:Value} (h:Rep c v x):v.cA=false:=by cases h <;> rfl
theorem oo (h:Rel B c s a) {x v:AV} {X:Value} {i:Nat} (hx:Sees B c s x X) (he:mY x i=some (true,v)):cy P B c s (Instr.extract X i) v:=by
 obtain ⟨hr,hl,_⟩:=hx
 cases x with
 | tup vs=>
  simp only [mY,tG] at he
  cases hv:vs[i]? with
  | none=>simp [hv] at he
  | some u=>
   simp [hv] at he;subst he
   cases hr with
   | tup _ xs hs hr=>
    have hi:i < xs.size:=by rw [hs];exact (List.getElem?_eq_some_iff.1 hv).1
    refine cy.still h (x:=xs.getD i undef) ?_ ⟨hr i u hv,λk hk=>hl k (by simpa [AV.keys] using aR hv k hk),(hr i u hv).plain⟩
    simp [Instr.extract,Array.getElem?_eq_getElem hi,Array.getD_eq_getD_getElem?]
 | _=>simp [mY] at he
theorem sr {x y v:AV} {X Y:Value} (hx:Rep c x X) (hy:Rep c y Y) (he:su x y=some v) (w:World):∃V,(Builtin.max2 X Y).run P w=.ok V w/\Rep c v V:=by
 cases x <;> cases y <;> simp [su,aq] at he
 case str.str x y=>
  subst he
  cases hx;cases hy
  refine ⟨.string (if Op.bytesLess x y=false then ⟨x.toArray⟩ else ⟨y.toArray⟩),by simp [Builtin.max2,Op.stringOp,asBool,Sem.run_bind,Result.andThen],?_⟩
  cases hl:Op.bytesLess x y <;> simp [aZ,hl] <;> exact .str _
 rename_i k m k' n
 by_cases hk:k=k'
 ·subst hk
  simp at he;subst he
  cases hx;cases hy
  refine ⟨.int k (if n > m then n else m),rfl,?_⟩
  by_cases hh:m < n <;> simp [hh] <;> exact .int _ _
 ·simp [hk] at he
theorem sj {x y v:AV} {X Y:Value} (hx:Rep c x X) (hy:Rep c y Y) (he:sk x y=some v) (w:World):∃V,(Builtin.min2 X Y).run P w=.ok V w/\Rep c v V:=by
 cases x <;> cases y <;> simp [sk,aq] at he
 case str.str x y=>
  subst he
  cases hx;cases hy
  refine ⟨.string (if Op.bytesLess x y=true∨x=y then ⟨x.toArray⟩ else ⟨y.toArray⟩),by simp [Builtin.min2,Op.stringOp,asBool,Sem.run_bind,Result.andThen],?_⟩
  by_cases hl:Op.bytesLess x y=true∨x=y
  ·rw [if_pos hl,show (aZ x y||x==y)=true by simp [aZ,hl]];exact .str _
  ·rw [if_neg hl,show (aZ x y||x==y)=false by simpa [aZ] using hl];exact .str _
 rename_i k m k' n
 by_cases hk:k=k'
 ·subst hk
  simp at he;subst he
  cases hx;cases hy
  refine ⟨.int k (if n < m then n else m),rfl,?_⟩
  by_cases hh:n < m <;> simp [hh] <;> exact .int _ _
 ·simp [hk] at he
def dg (B:Base) (c:Cx) (s:St) (l:List AV) (xs:List Value):Prop:=xs.length=l.length/\∀ (i:Nat) (u:AV),l[i]?=some u->Sees B c s u (xs.getD i undef)
theorem cO (h:Rel B c s a) {ch:fw} (hc:vM a ch):∀ {os:List Operand} {l:List AV},cY ⟨s,B.G,ch⟩ os=some l->dg B c s l (os.map a.eval)
 | [],l,he=>by simp [cY] at he;subst he;exact ⟨rfl,λi u hu=>by simp at hu⟩
 | o::r,l,he=>by
  simp only [cY] at he
  cases ho:aP ⟨s,B.G,ch⟩ o with
  | none=>simp [ho] at he
  | some v=>
   cases hr:cY ⟨s,B.G,ch⟩ r with
   | none=>simp [ho,hr] at he
   | some vs=>
    simp [ho,hr] at he;subst he
    obtain ⟨h1,h2⟩:=cO h hc hr
    refine ⟨by simpa using h1,λi u hu=>?_⟩
    cases i with
    | zero=>simp at hu;subst hu;simpa using av h hc ho
    | succ i=>simpa using h2 i u (by simpa using hu)
theorem dg.cons_inv {v:AV} {l:List AV} {xs:List Value} (h:dg B c s (v::l) xs):∃x r,xs=x::r/\Sees B c s v x/\dg B c s l r:=by
 obtain ⟨h1,h2⟩:=h
 cases xs with
 | nil=>simp at h1
 | cons x r=>exact ⟨x,r,rfl,by simpa using h2 0 v rfl,by simpa using h1,λi u hu=>by simpa using h2 (i+1) u (by simpa using hu)⟩
theorem dg.nv {xs:List Value} (h:dg B c s [] xs):xs=[]:=List.length_eq_zero_iff.1 h.1
theorem kq {f:AV->AV->Option AV} {F:Value->Value->Sem Value} (hf:∀ {x y v:AV} {X Y:Value},Rep c x X->Rep c y Y->f x y=some v->∀w,∃V,(F X Y).run P w=.ok V w/\Rep c v V) :
  ∀ {l:List AV} {xs:List Value} {x v:AV} {X:Value},Rep c x X->dg B c s l xs->om f x l=some v->∀w,∃V,(xs.foldlM F X).run P w=.ok V w/\Rep c v V
 | [],xs,x,v,X,hx,hl,he,w=>by
  rw [hl.nv];simp [om] at he;subst he;exact ⟨X,rfl,hx⟩
 | y::r,xs,x,v,X,hx,hl,he,w=>by
  obtain ⟨Y,R,rfl,hy,hr⟩:=hl.cons_inv
  simp only [om] at he
  cases hz:f x y with
  | none=>simp [hz] at he
  | some z=>
   simp [hz] at he
   obtain ⟨Z,h1,h2⟩:=hf hx hy.rep hz w
   obtain ⟨V,h3,h4⟩:=kq (F:=F) hf h2 hr he w
   exact ⟨V,by simp [List.foldlM_cons,h1,h3],h4⟩
theorem js {f:AV->AV->Option AV} (hf:∀x y v,f x y=some v->v.keys=[]/\v.cA=false):∀ {l:List AV} {x v:AV},om f x l=some v->v=x∨v.keys=[]/\v.cA=false
 | [],x,v,he=>by simp [om] at he;exact .inl he.symm
 | y::r,x,v,he=>by
  simp only [om] at he
  cases hz:f x y with
  | none=>simp [hz] at he
  | some z=>
   simp [hz] at he
   rcases js hf he with rfl | h
   ·exact .inr (hf _ _ _ hz)
   ·exact .inr h
theorem qK (x y v:AV) (h:su x y=some v):v.keys=[]/\v.cA=false:=by
 cases x <;> cases y <;> simp [su,aq] at h
 case str.str x y=>subst h;exact ⟨rfl,rfl⟩
 rename_i k m k' n
 by_cases hk:k=k'
 ·simp [hk] at h;subst h;exact ⟨rfl,rfl⟩
 ·simp [hk] at h
theorem qI (x y v:AV) (h:sk x y=some v):v.keys=[]/\v.cA=false:=by
 cases x <;> cases y <;> simp [sk,aq] at h
 case str.str x y=>subst h;exact ⟨rfl,rfl⟩
 rename_i k m k' n
 by_cases hk:k=k'
 ·simp [hk] at h;subst h;exact ⟨rfl,rfl⟩
 ·simp [hk] at h
theorem xh (h:Rel B c s a) {l:List AV} {xs:List Value} {v:AV} {ts:Array TypeId} {ty:TypeId} (hl:dg B c s l xs) (he:qZ su l=some (true,v)):cy P B c s (Builtin.max_ ts ty xs.toArray) v:=by
 cases l with
 | nil=>simp [qZ] at he
 | cons x r=>
  obtain ⟨X,R,rfl,hx,hr⟩:=hl.cons_inv
  simp only [qZ,tG] at he
  cases hz:om su x r with
  | none=>simp [hz] at he
  | some z=>
   simp [hz] at he;subst he
   obtain ⟨V,h1,h2⟩:=kq (P:=P) (F:=Builtin.max2) (λhx hy he w=>sr hx hy he w) hx.rep hr hz c.w
   refine cy.still h (by simp [Builtin.max_,h1]) ⟨h2,?_,?_⟩
   ·rcases js qK hz with rfl | ⟨h0,_⟩
    ·exact hx.live
    ·rw [h0];intro k hk;cases hk
   ·rcases js qK hz with rfl | ⟨_,h0⟩
    ·exact hx.plain
    ·exact h0
theorem w7 (h:Rel B c s a) {l:List AV} {xs:List Value} {v:AV} {ts:Array TypeId} {ty:TypeId} (hl:dg B c s l xs) (he:qZ sk l=some (true,v)):cy P B c s (Builtin.min_ ts ty xs.toArray) v:=by
 cases l with
 | nil=>simp [qZ] at he
 | cons x r=>
  obtain ⟨X,R,rfl,hx,hr⟩:=hl.cons_inv
  simp only [qZ,tG] at he
  cases hz:om sk x r with
  | none=>simp [hz] at he
  | some z=>
   simp [hz] at he;subst he
   obtain ⟨V,h1,h2⟩:=kq (P:=P) (F:=Builtin.min2) (λhx hy he w=>sj hx hy he w) hx.rep hr hz c.w
   refine cy.still h (by simp [Builtin.min_,h1]) ⟨h2,?_,?_⟩
   ·rcases js qI hz with rfl | ⟨h0,_⟩
    ·exact hx.live
    ·rw [h0];intro k hk;cases hk
   ·rcases js qI hz with rfl | ⟨_,h0⟩
    ·exact hx.plain
    ·exact h0
theorem vH {n:Nat} {get:Nat->List AV} (hb:pW n get=true):∃ns:List Int,ns.length=n/\(∀j,j < n->get j=[.int .u8 (ns.getD j 0)])/\bytesOf n get=ns.map λq=>UInt8.ofNat q.toNat:=by
 have h1:∀j,j < n->∃q,get j=[.int .u8 q]:=by
  intro j hj
  unfold pW at hb
  rw [List.all_eq_true] at hb
  have:=hb j (List.mem_range.2 hj)
  unfold isByte at this
  split at this
  ·rename_i q hq;exact ⟨q,hq⟩
  ·simp at this
 refine ⟨(List.range n).map λj=>(match get j with | [.int _ q]=>q | _=>0),by simp,λj hj=>?_,?_⟩
 ·obtain ⟨q,hq⟩:=h1 j hj
  simp [List.getD_eq_getElem?_getD,hj,hq]
 ·unfold bytesOf
  rw [List.map_map]
  apply List.map_congr_left
  intro j hj
  obtain ⟨q,hq⟩:=h1 j (List.mem_range.1 hj)
  simp [hq,byteOf]
theorem eR (h:Rel B c s a) {x:AV} {X:Value} (hx:Rep c x X) {sz n:Nat} {get:Nat->List AV} (he:mG s x=some (sz,n,get)) :
  (X=.slice none 0 0/\n=0)∨∃b o sp cap,(0 < n->sp=none)/\X=.slice (some ⟨b,o,sp⟩) n cap/\n<=cap /\
   (∀j,j < n->(get j).length=sz/\au (get j)=[])/\(∀ (j i:Nat) (u:AV),j < n->(get j)[i]?=some u->u.one=true/\∃y,c.w.cell? ⟨b,o+(j*sz+i),none⟩=some y/\Rep c u y):=by
 cases x with
 | sl ow sz' n' get'=>
  simp [mG] at he
  obtain ⟨rfl,rfl,rfl⟩:=he
  cases hx with
  | slNil=>exact .inl ⟨rfl,rfl⟩
  | sl _ _ _ _ ad cap vals hsp hn ho hlen hc hrr=>
   obtain ⟨b,of,sp⟩:=ad
   simp only at hsp
   exact .inr ⟨b,of,sp,cap,λh0=>hsp (by omega),rfl,hn,hlen,λj i u hj hu=>⟨(hc j i u hj hu).1,_,(hc j i u hj hu).2.1,hrr j i u hj hu⟩⟩
 | msl k sz' off n'=>
  simp only [mG] at he
  cases ho:s.obj k with
  | none=>simp [ho] at he
  | some ob=>
   have hob:=h.objs.rep k ob ho
   have key:∀ (sz2 m:Nat) (get2:Nat->List AV),ArrAt c (c.β k) sz2 m get2->cond (Nat.beq sz' sz2&&Nat.ble (off+n') m) (some (sz',n',λj=>get2 (off+j))) none=some (sz,n,get)->
     ∃b o sp cap,(0 < n->sp=none)/\X=.slice (some ⟨b,o,sp⟩) n cap/\n<=cap /\
      (∀j,j < n->(get j).length=sz/\au (get j)=[])/\(∀ (j i:Nat) (u:AV),j < n->(get j)[i]?=some u->u.one=true/\∃y,c.w.cell? ⟨b,o+(j*sz+i),none⟩=some y/\Rep c u y):=by
    intro sz2 m get2 ha he
    cases hb:(Nat.beq sz' sz2&&Nat.ble (off+n') m) with
    | false=>simp [hb] at he
    | true=>
     simp only [hb,cond_true,Option.some.injEq,Prod.mk.injEq] at he
     obtain ⟨rfl,rfl,rfl⟩:=he
     simp only [Bool.and_eq_true] at hb
     have h1:=du hb.1
     have h2:=Nat.le_of_ble_eq_true hb.2
     subst h1
     cases hx with
     | msl _ _ _ _ cap o hn ho=>
      refine ⟨_,_,_,cap,λ_=>rfl,rfl,hn,λj hj=>ha.len _ (by omega),λj i u hj hu=>?_⟩
      obtain ⟨e1,y,e2,e3⟩:=ha.fC (i:=off+j) (by omega) i u hu
      refine ⟨e1,y,?_,e3⟩
      rw [ho (by omega)]
      rw [<-e2];congr 2;rw [Nat.add_mul];omega
   cases ob with
   | arr sz2 m get2=>simp only [ho] at he;exact .inr (key sz2 m get2 hob.1 he)
   | frz sz2 m get2=>simp only [ho] at he;exact .inr (key sz2 m get2 hob.1 he)
   | _=>simp [ho] at he
 | gsl k sz' n'=>
  simp only [mG] at he
  cases ho:s.obj k with
  | none=>simp [ho] at he
  | some ob=>
   cases ob with
   | grw sq sz2 m get2=>
    simp only [ho] at he
    cases hb:(Nat.beq sz' sz2&&Nat.beq n' m) with
    | false=>simp [hb] at he
    | true=>
     simp only [hb,cond_true,Option.some.injEq,Prod.mk.injEq] at he
     obtain ⟨rfl,rfl,rfl⟩:=he
     simp only [Bool.and_eq_true] at hb
     have h1:=du hb.1
     have h2:=du hb.2
     subst h1 h2
     cases hx with
     | gslNil=>exact .inl ⟨rfl,rfl⟩
     | gsl _ _ _ ad cap hn hown=>
      obtain ⟨b,of,sp⟩:=ad
      by_cases h0:0 < n'
      ·obtain ⟨ad',cap',g1,g2,g3,g4⟩:=nC h ho hown rfl h0
       simp only [Value.slice.injEq,Option.some.injEq,true_and] at g2
       obtain ⟨rfl,rfl⟩:=g2
       refine .inr ⟨b,of,sp,cap,λ_=>g4.addr.2,rfl,hn,λj hj=>g4.len j hj,λj i u hj hu=>?_⟩
       obtain ⟨e1,y,e2,e3⟩:=g4.fC g3 hj i u hu
       refine ⟨e1,y,?_,e3⟩
       have:=g4.addr.1
       simp only at this e2
       rw [<-e2];congr 2;omega
      ·refine .inr ⟨b,of,sp,cap,λh=>absurd h h0,rfl,hn,λj hj=>by omega,λj i u hj=>by omega⟩
   | _=>simp [ho] at he
 | gsub k sz' n' lo len=>
  simp only [mG] at he
  cases ho:s.obj k with
  | none=>simp [ho] at he
  | some ob=>
   cases ob with
   | grw sq sz2 m get2=>
    simp only [ho] at he
    cases hb:(Nat.beq sz' sz2&&(Nat.beq n' m&&Nat.ble (lo+len) n')) with
    | false=>simp [hb] at he
    | true=>
     simp only [hb,cond_true,Option.some.injEq,Prod.mk.injEq] at he
     obtain ⟨rfl,rfl,rfl⟩:=he
     simp only [Bool.and_eq_true] at hb
     have h1:=du hb.1
     have h2:=du hb.2.1
     subst h1 h2
     cases hx with
     | gsubNil=>exact .inl ⟨rfl,rfl⟩
     | gsub _ _ _ _ _ ad cap a' cap' hn hown hle q1 q2 q3=>
      by_cases h0:0 < len
      ·obtain ⟨ad',cap'',g1,g2,g3,g4⟩:=nC h ho hown rfl (by omega)
       simp only [Value.slice.injEq,Option.some.injEq,true_and] at g2
       obtain ⟨rfl,rfl⟩:=g2
       obtain ⟨b,of,sp⟩:=ad
       have:=g4.addr
       simp only at this
       obtain ⟨rfl,rfl⟩:=this
       obtain rfl:=q3 (by omega)
       obtain ⟨w1,w2,w3⟩:=pY ⟨b,0,none⟩ (lo*sz')
       have e0:(⟨b,0,none⟩:Addr).add (lo*sz')=⟨b,lo*sz',none⟩:=by simp [Addr.add_lit]
       rw [e0]
       refine .inr ⟨b,lo*sz',none,cap',λ_=>rfl,rfl,by omega,λj hj=>g4.len _ (by omega),λj i u hj hu=>?_⟩
       obtain ⟨e1,y,e2,e3⟩:=g4.fC g3 (i:=lo+j) (by omega) i u hu
       refine ⟨e1,y,?_,e3⟩
       simp only at e2
       rw [<-e2];congr 2;rw [Nat.add_mul];omega
      ·obtain ⟨b,of,sp⟩:=a'
       refine .inr ⟨b,of,sp,cap',λh=>absurd h h0,rfl,by omega,λj hj=>by omega,λj i u hj=>by omega⟩
   | _=>simp [ho] at he
 | _=>simp [mG] at he
theorem te (h:Rel B c s a) {src dst:TypeId} {x v:AV} {X:Value} (hx:Sees B c s x X) (he:vF P s src dst x=some (true,v)):cy P B c s (convert src dst X) v:=by
 have hr:=hx.rep
 clear hx
 unfold vF at he
 split at he
 ·rename_i k k' n hu
  split at he
  ·rename_i ks hs
   simp [ok1] at he;subst he
   cases hr
   exact cy.still h (by simp [convert,run_underlying hu,run_underlying hs,Conv.intToInt]) Sees.int
  ·simp at he
 ·rename_i l hu
  split at he
  ·rename_i hs
   simp [ok1] at he;subst he
   cases hr
   exact cy.still h (by simp [convert,run_underlying hu,run_underlying hs]) Sees.str
  ·simp at he
 ·rename_i e l hu
  split at he
  ·rename_i hue hs
   simp only [Option.some.injEq,Prod.mk.injEq] at he
   obtain ⟨_,rfl⟩:=he
   cases hr
   have hrun:=run_bytes_of_string c.w src dst e ⟨l.toArray⟩ hs hu hue
   have esz:(ByteArray.mk l.toArray).size=l.length:=by simp [ByteArray.size]
   generalize hcap:grownCap c.w (ByteArray.mk l.toArray).size 0 e=cap at hrun
   have hle:l.length<=cap:=by
    rw [<-hcap,esz];simp only [grownCap,Question.cut];omega
   generalize hvs:bytesRow ⟨l.toArray⟩ cap=vs at hrun
   have hvsz:vs.size=cap:=by rw [<-hvs];simp [bytesRow,esz];omega
   have hg:=h.good.grow (Cx.hZ c s.objs).ext (Cx.drew_grow h.good)
   have ho:=h.objs.keep (Cx.hZ c _)
   have hf:=h.frame.grow (Cx.hZ c s.objs).ext (Cx.drew_grow h.good) h.kept
   refine ⟨.slice (some ⟨c.w.heap.size,0,none⟩) l.length cap,c.drew.row vs e (vs.size,vs.size+1) l.length,?_,(Cx.hZ c _).trans (Cx.kJ hg ho _ _ _ _),(Cx.drew_grow h.good).trans (Cx.mS hg hf _ _ _ _ (by omega)),⟨?_,by simp [AV.keys],rfl⟩⟩
   ·rw [hrun,esz];rfl
   ·refine .sl .no 1 l.length (rowOf l) ⟨c.w.heap.size,0,none⟩ cap (λj _=>.int .u8 (l.getD j 0).toNat) (λ_=>rfl) hle trivial (λj hj=>⟨rfl,rfl⟩) (λj i u hj hu=>?_) (λj i u hj hu=>?_)
    ·cases i with
     | succ i=>simp [rowOf] at hu
     | zero=>
      simp [rowOf] at hu;subst hu
      refine ⟨rfl,?_,.inr ⟨rfl,by simpa using hj⟩⟩
      show (c.w.drew.alloc _).cell? ⟨c.w.drew.heap.size,0+(j*1+0),none⟩=_
      rw [aY (bc c.w.drew _)]
      have:=bytesRow_at ⟨l.toArray⟩ cap j (by simpa using hj)
      rw [hvs] at this
      have e0:0+(j*1+0)=j:=by omega
      rw [e0,this]
      simp [List.getD_eq_getElem?_getD,List.getElem?_eq_getElem hj]
    ·cases i with
     | succ i=>simp [rowOf] at hu
     | zero=>simp [rowOf] at hu;subst hu;exact .int _ _
  ·simp at he
 ·rename_i k n hu
  split at he
  ·rename_i ks hs
   simp [ok1] at he;subst he
   cases hr
   have hstr:Rep c (.str (Utf8.encode n).data.toList) (.string (Utf8.encode n)):=by
    have:=Rep.str (c:=c) (Utf8.encode n).data.toList
    rwa [Array.toArray_toList] at this
   exact cy.still h (run_convert_int_string c.w src dst k n (by rw [hs];rfl) hu) ⟨hstr,by simp [AV.keys],rfl⟩
  ·simp at he
 ·rename_i hu hne2 hne3
  split at he
  ·rename_i e hs
   split at he
   ·rename_i sz n get hue hsrc
    cases hb:(Nat.beq sz 1||Nat.beq n 0) with
    | false=>simp [hb] at he
    | true=>
     simp only [hb,cond_true,Option.some.injEq,Prod.mk.injEq] at he
     obtain ⟨hall,rfl⟩:=he
     obtain ⟨ns,hl,hget,hby⟩:=vH hall
     rcases eR h hr hsrc with ⟨rfl,rfl⟩ | ⟨b,o,sp,cap,hsp,rfl,hle,hlen,hc⟩
     ·have:=run_convert_bytes_nil (P:=P) (w:=c.w) src e hs hue 0 0 dst hu
      have hz:ns=[]:=List.length_eq_zero_iff.1 hl
      rw [hby,hz]
      exact cy.still h this Sees.str
     ·by_cases hn0:n=0
      ·subst hn0
       have hz:ns=[]:=List.length_eq_zero_iff.1 hl
       subst hz
       have hl0:(loadCells ⟨b,o,sp⟩ 0).run P c.w=.ok (([]:List Int).map (Value.int .u8)).toArray c.w:=by
        simpa using run_loadCells_list (P:=P) c.w ⟨b,o,sp⟩ [] (λj v hj=>by simp at hj)
       have:=run_convert_bytes_string c.w src dst e (some ⟨b,o,sp⟩) 0 cap hs hue hu
       rw [run_bytesToString c.w _ 0 cap [] hl0] at this
       rw [hby]
       exact cy.still h this Sees.str
      obtain rfl:=hsp (Nat.pos_of_ne_zero hn0)
      have:=run_convert_bytes_arg (P:=P) (w:=c.w) src e hs hue b o n cap ns hl (λi hi=>by
       have hsz:sz=1:=by
        rw [Bool.or_eq_true] at hb
        rcases hb with hb | hb
        ·exact du hb
        ·have:=du hb;omega
       subst hsz
       obtain ⟨_,y,hy,hr⟩:=hc i 0 (.int .u8 (ns.getD i 0)) hi (by rw [hget i hi];rfl)
       have e0:i*1+0=i:=by omega
       rw [e0] at hy
       rw [hy]
       cases hr;rfl) dst hu
      rw [hby]
      exact cy.still h this Sees.str
   ·simp at he
  ·simp at he
 ·simp at he
theorem n7 (h:Rel B c s a) {x v:AV} {X:Value} (hx:Sees B c s x X) (he:E0 x=some (true,v)) {o:Oper} {q:Operand} (ho:o.op=.nilCheck q) (hq:a.eval q=X) :
  ∃y c',(execOp a.eval o).run P c.w=.ok (.value y) c'.w/\Keeps c c' s.objs/\Grow B c c'/\Sees B c' s v y:=by
 refine ⟨X,c,?_,Keeps.refl _ _,Grow.refl h.good,?_⟩
 ·have hr:=hx.rep
  unfold execOp
  cases x <;> simp [E0,ok1] at he <;> cases hr <;> simp [ho,hq]
 ·cases x <;> simp [E0,ok1] at he <;> subst he <;> exact hx
theorem wW {z x y v:AV} (h:yM z x y=some (true,v)):∃zb,z=.bool zb/\(zb=true->∃xb,x=.bool xb/\v=.bool xb)/\(zb=false->∃yb,y=.bool yb/\v=.bool yb):=by
 unfold yM at h
 split at h
 ·rename_i c xb yb
  simp [ok1] at h
  subst h
  cases c with
  | true=>exact ⟨true,rfl,λ_=>⟨xb,rfl,rfl⟩,(λh=>by cases h)⟩
  | false=>exact ⟨false,rfl,(λh=>by cases h),λ_=>⟨yb,rfl,rfl⟩⟩
 ·rename_i c yb
  cases c with
  | true=>cases h
  | false=>simp [ok1] at h;subst h;exact ⟨false,rfl,(λh=>by cases h),λ_=>⟨yb,rfl,rfl⟩⟩
 ·rename_i c xb
  cases c with
  | false=>cases h
  | true=>simp [ok1] at h;subst h;exact ⟨true,rfl,λ_=>⟨xb,rfl,rfl⟩,(λh=>by cases h)⟩
 ·cases h
theorem sc (h:Rel B c s a) {ch:fw} (hc:vM a ch) {t:Nat} {p q:Operand} {v:AV}
  (he:((aP ⟨s,B.G,ch⟩ (.tmp t)).bind λz=>(aP ⟨s,B.G,(t,true)::ch⟩ p).bind λx=>(aP ⟨s,B.G,(t,false)::ch⟩ q).bind λy=>yM z x y)=some (true,v)) {o:Oper} (ho:o.op=.pick (.tmp t) p q) :
  ∃y,(execOp a.eval o).run P c.w=.ok (.value y) c.w/\Sees B c s v y:=by
 cases hz:aP ⟨s,B.G,ch⟩ (.tmp t) with
 | none=>simp [hz] at he
 | some z=>
  cases hx:aP ⟨s,B.G,(t,true)::ch⟩ p with
  | none=>simp [hz,hx] at he
  | some x=>
   cases hy:aP ⟨s,B.G,(t,false)::ch⟩ q with
   | none=>simp [hz,hx,hy] at he
   | some y=>
    simp [hz,hx,hy] at he
    obtain ⟨zb,rfl,ht,hf⟩:=wW he
    have h1:=(av h hc hz).rep
    have hzt:a.tmps.getD t undef=.bool zb:=by
     generalize hq1:a.eval (.tmp t)=Z at h1
     cases h1;exact hq1
    cases zb with
    | true=>
     obtain ⟨xb,rfl,rfl⟩:=ht rfl
     have h2:=(av h (ch:=(t,true)::ch) (by
      intro t' w' hm
      rcases List.mem_cons.1 hm with e | hm
      ·simp only [Prod.mk.injEq] at e;obtain ⟨rfl,rfl⟩:=e;exact hzt
      ·exact hc _ _ hm) hx).rep
     refine ⟨.bool xb,?_,Sees.bool⟩
     generalize hq1:a.eval p=Z at h2
     cases h2
     unfold execOp
     have e1:a.eval (.tmp t)=.bool true:=hzt
     simp [ho,e1,asBool,hq1]
    | false=>
     obtain ⟨yb,rfl,rfl⟩:=hf rfl
     have h2:=(av h (ch:=(t,false)::ch) (by
      intro t' w' hm
      rcases List.mem_cons.1 hm with e | hm
      ·simp only [Prod.mk.injEq] at e;obtain ⟨rfl,rfl⟩:=e;exact hzt
      ·exact hc _ _ hm) hy).rep
     refine ⟨.bool yb,?_,Sees.bool⟩
     generalize hq1:a.eval q=Z at h2
     cases h2
     unfold execOp
     have e1:a.eval (.tmp t)=.bool false:=hzt
     simp [ho,e1,asBool,hq1]
end Go.Ab

namespace Go.Ab
open Go Go.RowKit
variable {P:Program} {B:Base} {c:Cx} {s:St} {a:Act}
theorem kg {u:AV} {y:Value} (h:Rep c u y) (h1:u.one=true):y.oneCell'=true:=by
 cases h <;> first | rfl | simp [AV.one] at h1
def CR (c:Cx) (cs:List AV) (vs:Array Value):Prop:=vs.size=cs.length/\∀ (i:Nat) (u:AV),cs[i]?=some u->u.one=true/\Rep c u (vs.getD i undef)
theorem ib {v:AV} {x:Value} (hx:Rep c v x) (ho:eQ v.cells=true):CR c v.cells x.cells:=by
 have A5:v.one=true->v.cells=[v]->x.cells=#[x]->CR c v.cells x.cells:=by
  intro h1 h2 h3
  rw [h2,h3]
  refine ⟨rfl,λi u hu=>?_⟩
  cases i with
  | zero=>simp at hu;subst hu;exact ⟨h1,hx⟩
  | succ i=>simp at hu
 cases hx with
 | agg cs vs hs h1 hr=>exact ⟨hs,λi u hu=>⟨h1 i u hu,hr i u hu⟩⟩
 | arr=>simp [AV.cells,eQ,AV.one] at ho
 | tup=>simp [AV.cells,eQ,AV.one] at ho
 | undef=>simp [AV.cells,eQ,AV.one] at ho
 | raw=>simp [AV.cells,eQ,AV.one] at ho
 | _=>exact A5 rfl rfl rfl
theorem jO {v:AV} (h:v.cA=false):au v.cells=v.keys:=by
 cases v <;> simp_all [AV.cells,AV.keys,au,AV.cA]
theorem im:∀ {cs vs:List AV} {off:Nat},off+vs.length<=cs.length->∃l,setCells cs off vs=some l
 | cs,[],0,_=>⟨cs,by cases cs <;> rfl⟩
 | [],v::vs,0,h=>by simp at h
 | [],vs,off+1,h=>by simp at h
 | c::cs,v::vs,0,h=>by
  obtain ⟨l,hl⟩:=im (cs:=cs) (vs:=vs) (off:=0) (by simp at h;omega)
  exact ⟨v::l,by simp [setCells,hl]⟩
 | c::cs,vs,off+1,h=>by
  obtain ⟨l,hl⟩:=im (cs:=cs) (vs:=vs) (off:=off) (by simp at h;omega)
  exact ⟨c::l,by cases vs <;> simp [setCells,hl]⟩
theorem AX {cs vs:List AV} {off:Nat} (h:off+vs.length<=cs.length):setCells cs off vs=some (Dh cs off vs):=by
 obtain ⟨l,hl⟩:=im h
 unfold Dh;rw [hl]
theorem dc:∀ {cs:List AV} {off:Nat} {l cs':List AV},setCells cs off l=some cs'->
  cs'.length=cs.length/\off+l.length<=cs.length/\∀ (i:Nat),cs'[i]?=if off<=i/\i < off+l.length then l[i - off]? else cs[i]?
 | cs,0,[],cs',h=>by simp [setCells] at h;subst h;simp
 | [],0,v::l,cs',h=>by simp [setCells] at h
 | [],off+1,l,cs',h=>by cases l <;> simp [setCells] at h
 | q::cs,0,v::l,cs',h=>by
  simp only [setCells] at h
  cases hr:setCells cs 0 l with
  | none=>simp [hr] at h
  | some r=>
   simp [hr] at h;subst h
   obtain ⟨h1,h2,h3⟩:=dc hr
   refine ⟨by simp [h1],by simp at h2 ⊢;omega,λi=>?_⟩
   cases i with
   | zero=>simp
   | succ i=>
    have:=h3 i
    simp only [List.getElem?_cons_succ,this,Nat.zero_le,true_and,Nat.zero_add,Nat.sub_zero,List.length_cons,Nat.add_lt_add_iff_right]
 | q::cs,off+1,l,cs',h=>by
  have e:setCells (q::cs) (off+1) l=(setCells cs off l).map λr=>q::r:=by cases l <;> simp [setCells]
  rw [e] at h
  cases hr:setCells cs off l with
  | none=>simp [hr] at h
  | some r=>
   simp [hr] at h;subst h
   obtain ⟨h1,h2,h3⟩:=dc hr
   refine ⟨by simp [h1],by simp;omega,λi=>?_⟩
   cases i with
   | zero=>simp
   | succ i=>
    have:=h3 i
    simp only [List.getElem?_cons_succ,this]
    by_cases hc:off<=i/\i < off+l.length
    ·rw [if_pos hc,if_pos (by omega)];congr 1;omega
    ·rw [if_neg hc,if_neg (by omega)]
theorem foldl_set:∀ (xs:List Value) (k off:Nat) (vs:Array Value),((xs.zipIdx k).foldl (λcs (p:Value×Nat)=>cs.setIfInBounds (off+p.2) p.1) vs).size=vs.size /\
  ∀i,i < vs.size->((xs.zipIdx k).foldl (λcs (p:Value×Nat)=>cs.setIfInBounds (off+p.2) p.1) vs).getD i undef=if off+k<=i/\i < off+k+xs.length then xs.getD (i - (off+k)) undef else vs.getD i undef
 | [],k,off,vs=>by simp;intro i _ h1 h2;omega
 | x::r,k,off,vs=>by
  have ih:=foldl_set r (k+1) off (vs.setIfInBounds (off+k) x)
  simp only [List.zipIdx_cons,List.foldl_cons]
  refine ⟨by simpa using ih.1,λi hi=>?_⟩
  rw [ih.2 i (by simpa using hi)]
  by_cases h1:off+(k+1)<=i/\i < off+(k+1)+r.length
  ·rw [if_pos h1,if_pos (by simp;omega)]
   have:i - (off+k)=(i - (off+(k+1)))+1:=by omega
   rw [this];simp
  ·rw [if_neg h1]
   by_cases h2:off+k=i
   ·subst h2;rw [gz hi,if_pos rfl,if_pos (by simp)];simp
   ·have:(vs.setIfInBounds (off+k) x).getD i undef=vs.getD i undef:=by
     simp only [Array.getD_eq_getD_getElem?,Array.getElem?_setIfInBounds];simp [h2]
    rw [this,if_neg (by simp;omega)]
theorem l9 (xs:Array Value) (off:Nat) (vs:Array Value) :
  xs.zipIdx.foldl (λcs (p:Value×Nat)=>cs.setIfInBounds (off+p.2) p.1) vs=(xs.toList.zipIdx 0).foldl (λcs (p:Value×Nat)=>cs.setIfInBounds (off+p.2) p.1) vs:=by
 rw [<-Array.foldl_toList];simp
theorem CR.set {cs cs' l:List AV} {vs xs:Array Value} {off:Nat} (h:CR c cs vs) (hl:CR c l xs) (hs:setCells cs off l=some cs') :
  CR c cs' (xs.zipIdx.foldl (λcs (p:Value×Nat)=>cs.setIfInBounds (off+p.2) p.1) vs)/\off+xs.size<=vs.size:=by
 obtain ⟨h1,h2,h3⟩:=dc hs
 rw [l9]
 obtain ⟨f1,f2⟩:=foldl_set xs.toList 0 off vs
 refine ⟨⟨by rw [f1,h.1,h1],λi u hu=>?_⟩,by rw [hl.1,h.1];exact h2⟩
 have hi:i < vs.size:=by rw [h.1,<-h1];exact (List.getElem?_eq_some_iff.1 hu).1
 rw [f2 i hi]
 rw [h3 i] at hu
 have e1:xs.toList.length=l.length:=by simpa using hl.1
 simp only [Nat.add_zero,e1]
 split at hu
 ·rename_i hc
  rw [if_pos hc]
  have:=hl.2 _ u hu
  simpa [Array.getD_eq_getD_getElem?,List.getD_eq_getElem?_getD] using this
 ·rename_i hc
  rw [if_neg hc]
  exact h.2 i u hu
def jH (B:Base) (c:Cx) (s:St):List (Nat×AV)->List (Nat×Value)->Prop
 | [],[]=>True
 | (i,v)::r,(j,x)::q=>i=j/\Sees B c s v x/\jH B c s r q
 | _,_=>False
theorem eJ (h:Rel B c s a) {ch:fw} (hc:vM a ch):∀ {ps:List (Nat×Operand)} {l:List (Nat×AV)},cX ⟨s,B.G,ch⟩ ps=some l->jH B c s l (ps.map λp=>(p.1,a.eval p.2))
 | [],l,he=>by simp [cX] at he;subst he;trivial
 | (i,o)::r,l,he=>by
  simp only [cX] at he
  cases ho:aP ⟨s,B.G,ch⟩ o with
  | none=>simp [ho] at he
  | some v=>
   cases hr:cX ⟨s,B.G,ch⟩ r with
   | none=>simp [ho,hr] at he
   | some vs=>
    simp [ho,hr] at he;subst he
    exact ⟨rfl,av h hc ho,eJ h hc hr⟩
theorem bj {t:TypeId} {z:List AV} (h:zeroCells P t=some z):∃i v,P.info? t=some i/\i.zero=some v/\gH v.cells.toList=some z:=by
 unfold zeroCells at h
 cases hi:P.info? t with
 | none=>simp [hi] at h
 | some i=>
  cases hz:i.zero with
  | none=>simp [hi,hz] at h
  | some v=>exact ⟨i,v,rfl,hz,by simpa [hi,hz] using h⟩
theorem dX {z:List AV} {v:Value} (h:gH v.cells.toList=some z):CR c z v.cells/\au z=[]:=by
 obtain ⟨h1,h2,h3⟩:=ix (c:=c) h
 refine ⟨⟨by simpa using h1.symm,λi u hu=>?_⟩,h2⟩
 have:=h3 i u hu
 simpa [Array.getD_eq_getD_getElem?,List.getD_eq_getElem?_getD] using this
theorem kV {cs cs' l:List AV} {off:Nat} (h:setCells cs off l=some cs'):∀k∈au cs',k∈au cs∨k∈au l:=by
 intro k hk
 obtain ⟨_,_,h3⟩:=dc h
 have mem_of:∀ (m:List AV),k∈au m->∃ (i:Nat) (u:AV),m[i]?=some u/\k∈u.keys:=by
  intro m
  induction m with
  | nil=>simp [au]
  | cons v r ih=>
   simp only [au,List.mem_append]
   rintro (hv | hr)
   ·exact ⟨0,v,rfl,hv⟩
   ·obtain ⟨i,u,h1,h2⟩:=ih hr;exact ⟨i+1,u,by simpa using h1,h2⟩
 obtain ⟨i,u,h1,h2⟩:=mem_of cs' hk
 rw [h3 i] at h1
 split at h1
 ·exact .inr (aR h1 k h2)
 ·exact .inl (aR h1 k h2)
theorem jA {fs:Array Field} {places:List (Nat×Nat)} (hp:fs.toList.mapM (λf=>(P.info? f.type).map λi=>(f.offset,i.size))=some places) :
  ∀ {parts:List (Nat×AV)} {xs:List (Nat×Value)} {cs cs':List AV} {vs:Array Value},jH B c s parts xs->CR c cs vs->ig P fs cs parts=some cs'->
   (∀k∈au cs,live s.objs k)->∃vs',Instr.fill (places.toArray[·]?) vs xs=some vs'/\CR c cs' vs'/\∀k∈au cs',live s.objs k
 | [],xs,cs,cs',vs,hs,hc,he,hk=>by
  cases xs with
  | cons=>simp [jH] at hs
  | nil=>simp [ig] at he;subst he;exact ⟨vs,rfl,hc,hk⟩
 | (i,v)::r,xs,cs,cs',vs,hs,hc,he,hk=>by
  cases xs with
  | nil=>simp [jH] at hs
  | cons p q=>
   obtain ⟨j,x⟩:=p
   obtain ⟨rfl,hv,hr⟩:=hs
   simp only [ig] at he
   cases hf:fs[i]? with
   | none=>simp [hf] at he
   | some f=>
    simp only [hf,aq] at he
    cases hb:(eQ v.cells&&(aA P f.type==some v.cells.length)) with
    | false=>simp [hb] at he
    | true=>
     simp only [hb,cond_true] at he
     simp only [Bool.and_eq_true,beq_iff_eq] at hb
     cases hst:setCells cs f.offset v.cells with
     | none=>simp [hst] at he
     | some l=>
      simp only [hst,Option.bind_some] at he
      have hcv:=ib hv.rep hb.1
      obtain ⟨h1,h2⟩:=hc.set hcv hst
      have hkl:∀k∈au l,live s.objs k:=by
       intro k hkk
       rcases kV hst k hkk with h | h
       ·exact hk k h
       ·rw [jO hv.plain] at h;exact hv.live k h
      obtain ⟨vs',e1,e2,e3⟩:=jA hp hr h1 he hkl
      refine ⟨vs',?_,e2,e3⟩
      have hplace:places[i]?=some (f.offset,v.cells.length):=by
       have hsz:=hb.2
       unfold aA at hsz
       cases hi:P.info? f.type with
       | none=>simp [hi] at hsz
       | some inf=>
        simp [hi] at hsz
        have hmap:∀ (l:List Field) (ps:List (Nat×Nat)),l.mapM (λf=>(P.info? f.type).map λi=>(f.offset,i.size))=some ps->∀ (i:Nat) (f:Field),l[i]?=some f->ps[i]?=(P.info? f.type).map λq=>(f.offset,q.size):=by
         intro l
         induction l with
         | nil=>intro ps _ i f hf;simp at hf
         | cons f0 r0 ih=>
          intro ps hps i f hf
          simp only [List.mapM_cons,Option.bind_eq_bind,Option.pure_def] at hps
          cases h0:P.info? f0.type with
          | none=>simp [h0] at hps
          | some i0=>
           cases h1:r0.mapM (λf=>(P.info? f.type).map λi=>(f.offset,i.size)) with
           | none=>simp [h0,h1] at hps
           | some rest=>
            simp [h0,h1] at hps
            subst hps
            cases i with
            | zero=>simp at hf;subst hf;simp [h0]
            | succ i=>simpa using ih rest h1 i f (by simpa using hf)
        have:=hmap fs.toList places hp i f (by simpa using hf)
        rw [this,hi,Option.map_some,hsz]
      simp only [Instr.fill]
      have hpl:(places.toArray[i]?)=some (f.offset,v.cells.length):=by simpa using hplace
      rw [hpl]
      simp only
      rw [if_neg (by have:=hcv.1;simp [hcv.1];omega)]
      exact e1
theorem m4 {u v:AV} (h:u4 u v=true) {x:Value} (hr:Rep c v x):Rep c u x:=by
 unfold u4 at h
 split at h
 ·have:_=_:=beq_iff_eq.1 h;subst this;exact hr
 ·simp only [Bool.and_eq_true,decide_eq_true_eq,beq_iff_eq] at h
  obtain ⟨rfl,rfl⟩:=h;exact hr
 ·have:_=_:=beq_iff_eq.1 h;subst this;exact hr
 ·exact hr
 ·exact hr
 ·exact hr
 ·exact hr
 ·cases hr with
  | slNil _ _ _ ho=>exact .slNil _ _ _ ho
  | sl _ _ _ _ ad cap vals h1 h2 h3 h4 h5 h6=>exact .sl _ _ _ _ ad cap vals h1 h2 h3 (λj hj=>by omega) (λj i u hj=>by omega) (λj i u hj=>by omega)
 ·simp at h
theorem ri:∀ {z r r':List AV},BT z r=some r'->r.length=z.length+r'.length/\(∀ (i:Nat) (u:AV),z[i]?=some u->∃v,r[i]?=some v/\u4 u v=true)/\∀i,r'[i]?=r[z.length+i]?
 | [],r,r',h=>by simp [BT] at h;subst h;simp
 | u::z,[],r',h=>by simp [BT] at h
 | u::z,v::r,r',h=>by
  simp only [BT] at h
  cases hs:u4 u v with
  | false=>simp [hs] at h
  | true=>
   simp only [hs,cond_true] at h
   obtain ⟨h1,h2,h3⟩:=ri h
   refine ⟨by simp [h1];omega,λi w hw=>?_,λi=>?_⟩
   ·cases i with
    | zero=>simp at hw;subst hw;exact ⟨v,rfl,hs⟩
    | succ i=>simpa using h2 i w (by simpa using hw)
   ·rw [h3 i];simp only [List.length_cons];rw [show z.length+1+i=(z.length+i)+1 by omega];simp
theorem gn {z:List AV}:∀ {n:Nat} {r:List AV},gF z n r=true->r.length=n*z.length/\∀j,j < n->∀ (i:Nat) (u:AV),z[i]?=some u->∃v,r[j*z.length+i]?=some v/\u4 u v=true
 | 0,r,h=>by
  cases r with
  | nil=>simp
  | cons=>simp [gF,isNil] at h
 | n+1,r,h=>by
  simp only [gF] at h
  cases he:BT z r with
  | none=>simp [he] at h
  | some r'=>
   simp only [he] at h
   obtain ⟨h1,h2,h3⟩:=ri he
   obtain ⟨h4,h5⟩:=gn h
   refine ⟨by rw [h1,h4,Nat.succ_mul];omega,λj hj i u hu=>?_⟩
   cases j with
   | zero=>simpa using h2 i u hu
   | succ j=>
    obtain ⟨v,hv,hs⟩:=h5 j (by omega) i u hu
    refine ⟨v,?_,hs⟩
    rw [h3] at hv
    rw [<-hv];congr 1;rw [Nat.succ_mul];omega
theorem fill_flat {sz n:Nat} {z:List AV}:∀ {parts:List (Nat×AV)} {xs:List (Nat×Value)} {vs:Array Value},jH B c s parts xs->
  fG sz n parts=true->bT parts=true->vs.size=n*sz->
  ∃vs',Instr.fill (λi=>some (i*sz,sz)) vs xs=some vs'/\vs'.size=n*sz /\
   (∀j,j < n->(∀p∈parts,p.1≠j)->∀i,i < sz->vs'.getD (j*sz+i) undef=vs.getD (j*sz+i) undef) /\
   (∀p∈parts,p.1 < n/\p.2.cells.length=sz/\∀ (i:Nat) (u:AV),p.2.cells[i]?=some u->u.one=true/\Rep c u (vs'.getD (p.1*sz+i) undef))
 | [],xs,vs,hs,_,_,hv=>by
  cases xs with
  | cons=>simp [jH] at hs
  | nil=>exact ⟨vs,rfl,hv,λ_ _ _ _ _=>rfl,λp hp=>by simp at hp⟩
 | (i,v)::r,xs,vs,hs,hok,hap,hv=>by
  cases xs with
  | nil=>simp [jH] at hs
  | cons p q=>
   obtain ⟨j,x⟩:=p
   obtain ⟨rfl,hsv,hr⟩:=hs
   simp only [fG,Bool.and_eq_true] at hok
   obtain ⟨o1,o2,o3,o4,o5⟩:=hok
   simp only [bT,Bool.and_eq_true,List.all_eq_true] at hap
   obtain ⟨a1,a2⟩:=hap
   have o3:=du o3
   have o4:i < n:=Nat.lt_of_succ_le (Nat.le_of_ble_eq_true o4)
   have hcv:=ib hsv.rep o1
   have hlt:i*sz+x.cells.size<=vs.size:=by
    rw [hcv.1,o3,hv]
    have:=Nat.mul_le_mul_right sz o4
    rw [Nat.succ_mul] at this;exact this
   obtain ⟨f1,f2⟩:=foldl_set x.cells.toList 0 (i*sz) vs
   rw [<-l9] at f1 f2
   obtain ⟨vs',e1,e2,e3,e4⟩:=fill_flat (z:=z) hr o5 a2 (f1.trans hv)
   have hne:∀p∈r,p.1≠i:=λp hp e=>by
    have:=a1 p hp
    simp [e] at this
   refine ⟨vs',?_,e2,λj hj hp k hk=>?_,λp hp=>?_⟩
   ·simp only [Instr.fill]
    rw [if_neg (by have:=hcv.1;simp;omega)]
    exact e1
   ·rw [e3 j hj (λp hp'=>hp p (List.mem_cons_of_mem _ hp')) k hk]
    have hij:i≠j:=hp (i,v) List.mem_cons_self
    have hjk:j*sz+k < vs.size:=by rw [hv];exact br hj hk
    rw [f2 _ hjk,if_neg]
    simp only [Nat.add_zero,Array.length_toList]
    rw [hcv.1,o3]
    rintro ⟨h1,h2⟩
    rcases Nat.lt_or_gt_of_ne hij with h | h
    ·have:=Nat.mul_le_mul_right sz h
     rw [Nat.succ_mul] at this;omega
    ·have:=Nat.mul_le_mul_right sz h
     rw [Nat.succ_mul] at this;omega
   ·rcases List.mem_cons.1 hp with rfl | hp
    ·refine ⟨o4,o3,λk u hu=>?_⟩
     have hk:k < sz:=by rw [<-o3];exact (List.getElem?_eq_some_iff.1 hu).1
     refine ⟨(hcv.2 k u hu).1,?_⟩
     rw [e3 i o4 hne k hk]
     have hjk:i*sz+k < vs.size:=by rw [hv];exact br o4 hk
     rw [f2 _ hjk,if_pos (by simp only [Nat.add_zero,Array.length_toList];rw [hcv.1,o3];omega)]
     have:=(hcv.2 k u hu).2
     have e5:i*sz+k - (i*sz+0)=k:=by omega
     rw [e5]
     simpa [Array.getD_eq_getD_getElem?,List.getD_eq_getElem?_getD] using this
    ·exact e4 p hp
theorem iH (z:List AV):∀ (parts:List (Nat×AV)) (j:Nat),(∃p∈parts,p.1=j/\ag z parts j=p.2.cells)∨((∀p∈parts,p.1≠j)/\ag z parts j=z)
 | [],j=>.inr ⟨by simp,rfl⟩
 | (i,v)::r,j=>by
  by_cases h:i=j
  ·subst h;exact .inl ⟨(i,v),List.mem_cons_self,rfl,by simp [ag]⟩
  ·rcases iH z r j with ⟨p,hp,h1,h2⟩ | ⟨h1,h2⟩
   ·exact .inl ⟨p,List.mem_cons_of_mem _ hp,h1,by simp [ag,il h,h2]⟩
   ·refine .inr ⟨λp hp=>?_,by simp [ag,il h,h2]⟩
    rcases List.mem_cons.1 hp with rfl | hp
    ·exact h
    ·exact h1 p hp
theorem fK (z:Array Value) (m:Nat) (i:Nat) (hi:i < m) (hz:0 < z.size):(madeCells z m).getD i undef=z.getD (i % z.size) undef:=by
 have h1:i % z.size < z.size:=Nat.mod_lt _ hz
 simp [madeCells,Array.getD_eq_getD_getElem?,hi,h1]
theorem jf:∀ (l:List AV) (i:Nat),(bS l)[i]?=l[i]?.map AV.shed
 | [],i=>by simp [bS]
 | v::r,i=>by cases i <;> simp [bS,jf r]
theorem yD (v:AV):v.shed.one=v.one:=by
 cases v with
 | sl o=>cases o <;> rfl
 | _=>rfl
theorem je (l:List AV):(bS l).length=l.length:=by induction l <;> simp [bS, *]
theorem Rep.shed {v:AV} {x:Value} (h:Rep c v x):Rep c v.shed x:=by
 induction h with
 | slNil o sz get ho=>
  cases o with
  | key k=>exact .slNil _ _ _ trivial
  | _=>exact .slNil _ _ _ ho
 | sl o sz n get a cap vals h1 h2 h3 h4 h5 h6 _=>
  cases o with
  | key k=>exact .sl _ _ _ _ a cap vals h1 h2 trivial h4 h5 h6
  | _=>exact .sl _ _ _ _ a cap vals h1 h2 h3 h4 h5 h6
 | agg cs vs h1 h2 h3 ih=>
  refine .agg _ _ (by rw [h1,je]) (λi u hu=>?_) (λi u hu=>?_)
  ·rw [jf] at hu
   cases hi:cs[i]? with
   | none=>simp [hi] at hu
   | some u'=>simp [hi] at hu;subst hu;rw [yD];exact h2 i u' hi
  ·rw [jf] at hu
   cases hi:cs[i]? with
   | none=>simp [hi] at hu
   | some u'=>simp [hi] at hu;subst hu;exact ih i u' hi
 | tup us vs h1 h3 ih=>
  refine .tup _ _ (by rw [h1,je]) (λi u hu=>?_)
  rw [jf] at hu
  cases hi:us[i]? with
  | none=>simp [hi] at hu
  | some u'=>simp [hi] at hu;subst hu;exact ih i u' hi
 | bool b=>exact .bool b
 | int k n=>exact .int k n
 | str l=>exact .str l
 | nilp=>exact .nilp
 | nilf=>exact .nilf
 | nilm=>exact .nilm
 | nili=>exact .nili
 | nni t v=>exact .nni t v
 | num k n=>exact .num k n
 | undef v=>exact .undef v
 | raw v=>exact .raw v
 | arr sz n get vs h1 h2 h3 h4 _=>exact .arr sz n get vs h1 h2 h3 h4
 | ref k off=>exact .ref k off
 | aref k sz i off=>exact .aref k sz i off
 | elt cs off b o vals h1 h2 h3 _=>exact .elt cs off b o vals h1 h2 h3
 | msl k sz off len cap o h1 h2=>exact .msl k sz off len cap o h1 h2
 | gslNil k sz h=>exact .gslNil k sz h
 | gsl k sz n a cap h1 h2=>exact .gsl k sz n a cap h1 h2
 | gref k sz n i off b cap h=>exact .gref k sz n i off b cap h
 | gsubNil k sz h=>exact .gsubNil k sz h
 | gsub k sz n lo len a cap a' cap' h1 h2 h3 h4 h5 h6=>exact .gsub k sz n lo len a cap a' cap' h1 h2 h3 h4 h5 h6
 | mref k=>exact .mref k
 | fms g b es clock ms h1 h2 h3 h4 h5 h6=>exact .fms g b es clock ms h1 h2 h3 h4 h5 h6
 | fn f a b va vb h1 h2 h3 h4 _ _=>exact .fn f a b va vb h1 h2 h3 h4
mutual
theorem qs:∀ (v:AV),∀k∈v.shed.keys,k∈v.keys
 | .sl o sz n get=>by cases o <;> simp [AV.shed,AV.keys]
 | .agg cs=>by simp only [AV.shed,AV.keys];exact jK cs
 | .tup vs=>by simp only [AV.shed,AV.keys];exact jK vs
 | .bool _ | .int .. | .str _ | .nilp | .nilf | .nilm | .nili | .nni | .num _ | .undef | .raw _ | .arr .. | .ref .. | .aref .. | .elt .. | .msl .. | .gsl .. | .gref .. | .gsub .. | .mref .. | .fms .. | .fn .. | .grd ..=>by simp [AV.shed]
theorem jK:∀ (l:List AV),∀k∈au (bS l),k∈au l
 | []=>by simp [bS,au]
 | v::r=>by
  intro k hk
  simp only [bS,au,List.mem_append] at hk ⊢
  exact hk.imp (qs v k) (jK r k)
end
theorem Sees.shed {v:AV} {x:Value} (h:Sees B c s v x):Sees B c s v.shed x:=⟨h.rep.shed,λk hk=>h.live k (qs v k hk),h.rep.shed.plain⟩
theorem jH.shed:∀ {l:List (Nat×AV)} {xs:List (Nat×Value)},jH B c s l xs->jH B c s (cU l) xs
 | [],[],_=>trivial
 | (_,_)::_,(_,_)::_,h=>⟨h.1,h.2.1.shed,h.2.2.shed⟩
 | [],_::_,h=>h.elim
 | _::_,[],h=>h.elim
theorem l7 (h:Rel B c s a) {t:TypeId} {len:Nat} {parts:List (Nat×AV)} {xs:List (Nat×Value)} {v:AV} (hs:jH B c s parts xs) (he:ek P t len parts=some (true,v)):cy P B c s (Instr.buildSlice t len xs.toArray) v:=by
 unfold ek at he
 split at he
 ·rename_i e hu
  cases hz:zeroCells P e with
  | none=>simp [hz] at he
  | some z=>
   simp only [hz,Option.bind_some,aq] at he
   cases hb:(aA P e==some z.length&&(Nat.blt 0 z.length&&(fG z.length len (cU parts)&&(bT parts&&Nat.ble (len*z.length) 16777216)))) with
   | false=>simp [hb] at he
   | true=>
    simp [hb,ok1] at he;subst he
    simp only [Bool.and_eq_true,beq_iff_eq] at hb
    obtain ⟨b1,b2,b3,b4,b5⟩:=hb
    have b2:0 < z.length:=Nat.lt_of_succ_le (Nat.le_of_ble_eq_true b2)
    have b5:=Nat.le_of_ble_eq_true b5
    obtain ⟨i,zv,hi,hzv,hcz⟩:=bj hz
    obtain ⟨hcr,hkz⟩:=dX (c:=c) hcz
    have hsz:i.size=z.length:=by
     unfold aA at b1;simp [hi] at b1;exact b1
    have hzs:zv.cells.size=z.length:=hcr.1
    have hap:bT (cU parts)=true:=by
     have e1:∀ (l:List (Nat×AV)),(cU l).map (·.1)=l.map (·.1):=by
      intro l;induction l with
      | nil=>rfl
      | cons p r ih=>obtain ⟨q,w⟩:=p;simp [cU,ih]
     have e2:∀ (l:List (Nat×AV)) (q:Nat),(cU l).all (λp=>!(Nat.beq p.1 q))=l.all (λp=>!(Nat.beq p.1 q)):=by
      intro l q;induction l with
      | nil=>rfl
      | cons p r ih=>obtain ⟨q',w⟩:=p;simp [cU,ih]
     have e3:∀ (l:List (Nat×AV)),bT (cU l)=bT l:=by
      intro l;induction l with
      | nil=>rfl
      | cons p r ih=>obtain ⟨q,w⟩:=p;simp [cU,bT,ih,e2]
     rw [e3];exact b4
    obtain ⟨vs',f1,f2,f3,f4⟩:=fill_flat (z:=z) hs.shed b3 hap (vs:=madeCells zv.cells (len*z.length)) (size_madeCells _ _)
    have hreps:∀j,j < len->(ag z (cU parts) j).length=z.length/\au (ag z (cU parts) j)=[]/\∀ (q:Nat) (u:AV),(ag z (cU parts) j)[q]?=some u->u.one=true/\Rep c u (vs'.getD (j*z.length+q) undef):=by
     intro j hj
     rcases iH z (cU parts) j with ⟨p,hp,rfl,e2⟩ | ⟨e1,e2⟩
     ·obtain ⟨g1,g2,g3⟩:=f4 p hp
      rw [e2]
      refine ⟨g2,?_,g3⟩
      have hkk:∀ (l:List (Nat×AV)),fG z.length len l=true->∀p∈l,au p.2.cells=[]:=by
       intro l
       induction l with
       | nil=>intro _ p hp;simp at hp
       | cons q r ih=>
        obtain ⟨qi,qv⟩:=q
        intro ho p hp
        simp only [fG,Bool.and_eq_true] at ho
        rcases List.mem_cons.1 hp with rfl | hp
        ·have:=ho.2.1
         cases hk:au qv.cells with
         | nil=>rfl
         | cons=>simp [hk,isNil] at this
        ·exact ih ho.2.2.2.2 p hp
      exact hkk _ b3 p hp
     ·rw [e2]
      refine ⟨rfl,hkz,λq u hu=>?_⟩
      have hq:q < z.length:=(List.getElem?_eq_some_iff.1 hu).1
      refine ⟨(hcr.2 q u hu).1,?_⟩
      rw [f3 j hj e1 q hq,fK _ _ _ (br hj hq) (by omega)]
      have e5:(j*z.length+q) % zv.cells.size=q:=by rw [hzs,Nat.add_comm,Nat.add_mul_mod_self_right,Nat.mod_eq_of_lt hq]
      rw [e5];exact (hcr.2 q u hu).2
    by_cases hl:len=0
    ·subst hl
     refine ⟨.slice (some ⟨c.w.heap.size,0,none⟩) 0 0,c.row #[] e (0,0) 0,?_,Cx.kJ h.good h.objs _ _ _ _,Cx.mS h.good h.frame _ _ _ _ (Nat.le_refl _),⟨?_,by simp [AV.keys],rfl⟩⟩
     ·have hxs:xs=[]:=by
       cases xs with
       | nil=>rfl
       | cons p q=>
        cases parts with
        | nil=>simp [jH] at hs
        | cons p' q'=>
         obtain ⟨pi,pv⟩:=p'
         simp only [cU,fG,Bool.and_eq_true] at b3
         have:=Nat.le_of_ble_eq_true b3.2.2.2.1
         omega
      subst hxs
      simp [Instr.buildSlice,run_underlying hu,sizeOf,typeInfo,hi,Instr.fill,newRow,Array.range_zero',Cx.row]
     ·exact .sl _ _ _ _ _ _ (λ_ _=>undef) (λ_=>rfl) (Nat.le_refl _) (by simp [aG]) (λj hj=>by omega) (λj i u hj=>by omega) (λj i u hj=>by omega)
    ·have hrun:=run_buildSlice (P:=P) c.w t e len xs.toArray vs' i zv hu hi hzv (by rw [hsz];omega) (by rw [hsz];exact Nat.mul_ne_zero hl (by omega)) (by rw [hsz];exact f1)
     have hk:=Cx.kJ h.good h.objs vs' e (0,0) (len*z.length)
     refine ⟨_,c.row vs' e (0,0) (len*z.length),hrun,hk,Cx.mS h.good h.frame _ _ _ _ (by omega),⟨?_,by simp [AV.keys],rfl⟩⟩
     refine .sl _ _ _ _ ⟨c.w.heap.size,0,none⟩ len (λj q=>vs'.getD (j*z.length+q) undef) (λ_=>rfl) (Nat.le_refl _) (by simp [aG]) (λj hj=>⟨(hreps j hj).1,(hreps j hj).2.1⟩) (λj q u hj hu=>?_) (λj q u hj hu=>?_)
     ·have hq:q < z.length:=by rw [<-(hreps j hj).1];exact (List.getElem?_eq_some_iff.1 hu).1
      have hlt:=br hj hq
      refine ⟨((hreps j hj).2.2 q u hu).1,?_,.inr ⟨rfl,by simpa using hlt⟩⟩
      show (c.w.alloc _).cell? ⟨c.w.heap.size,0+(j*z.length+q),none⟩=_
      rw [aY (bc c.w _)]
      have:0+(j*z.length+q) < vs'.size:=by omega
      simp [Array.getD_eq_getD_getElem?,show j*z.length+q < vs'.size by omega]
     ·refine ((hreps j hj).2.2 q u hu).2.ext (ks:=live s.objs) hk.ext λk hk'=>?_
      rw [aM (hreps j hj).2.1 hu] at hk';simp at hk'
 ·simp at he
theorem jm (h:Rel B c s a) {f:Bool} {t:TypeId} {x y v:AV} {X Y:Value} (hx:Rep c x X) (hy:Rep c y Y) (he:kR P f t x y=some (true,v)):cy P B c s (Instr.makeSlice t X Y) v:=by
 unfold kR at he
 split at he
 ·rename_i e l m hu
  split at he
  ·rename_i z inf hz hinf
   simp only [aq] at he
   cases hb:(Nat.beq z.length inf.size&&Nat.blt 0 inf.size) with
   | false=>simp [hb] at he
   | true=>
    simp only [hb,cond_true,Option.some.injEq,Prod.mk.injEq,Bool.and_eq_true,decide_eq_true_eq] at he
    obtain ⟨⟨hlc,h0,hr,hle⟩,rfl⟩:=he
    simp only [Bool.and_eq_true] at hb
    have b1:=du hb.1
    have b2:0 < inf.size:=Nat.lt_of_succ_le (Nat.le_of_ble_eq_true hb.2)
    obtain ⟨i,zv,hi,hzv,hcz⟩:=bj hz
    obtain ⟨hzc,hzk⟩:=dX (c:=c) hcz
    have:i=inf:=by rw [hinf] at hi;exact (Option.some.inj hi).symm
    subst this
    cases hx;cases hy
    subst hlc
    have hr:=Nat.le_of_ble_eq_true hr
    have hmade:(madeCells zv.cells (l.toNat*i.size)).size=l.toNat*z.length:=by rw [size_madeCells,b1]
    have hrun:=run_make (P:=P) c.w t e i zv hu hinf hzv .i64 .i64 l l h0 (Int.le_refl _) (by
     have e1:((l.toNat*i.bytes:Nat):Int)<=140737488355328:=by omega
     have e2:(l.toNat:Int)=l:=Int.toNat_of_nonneg h0
     rw [Int.natCast_mul,e2] at e1
     rw [Int.mul_comm];omega) (by omega)
    have hk:=Cx.kJ h.good h.objs (madeCells zv.cells (l.toNat*i.size)) e (0,0) (l.toNat*z.length)
    refine ⟨_,c.row (madeCells zv.cells (l.toNat*i.size)) e (0,0) (l.toNat*z.length),hrun,hk,Cx.mS h.good h.frame _ _ _ _ (by omega),⟨?_,by cases f <;> simp [AV.keys],rfl⟩⟩
    refine .sl _ _ _ _ ⟨c.w.heap.size,0,none⟩ l.toNat (λj q=>(madeCells zv.cells (l.toNat*i.size)).getD (j*z.length+q) undef) (λ_=>rfl) (Nat.le_refl _) (by cases f <;> simp [aG]) (λj hj=>⟨rfl,hzk⟩) (λj q u hj hu'=>?_) (λj q u hj hu'=>?_)
    ·have hq:q < z.length:=(List.getElem?_eq_some_iff.1 hu').1
     have hlt:=br hj hq
     refine ⟨(hzc.2 q u hu').1,?_,.inr ⟨rfl,by simpa using hlt⟩⟩
     show (c.w.alloc _).cell? ⟨c.w.heap.size,0+(j*z.length+q),none⟩=_
     rw [aY (bc c.w _)]
     have:0+(j*z.length+q) < (madeCells zv.cells (l.toNat*i.size)).size:=by omega
     simp [Array.getD_eq_getD_getElem?,show j*z.length+q < (madeCells zv.cells (l.toNat*i.size)).size by omega]
    ·have hq:q < z.length:=(List.getElem?_eq_some_iff.1 hu').1
     have hzs:zv.cells.size=z.length:=hzc.1
     rw [fK _ _ _ (by rw [<-b1];exact br hj hq) (by omega)]
     have e5:(j*z.length+q) % zv.cells.size=q:=by rw [hzs,Nat.add_comm,Nat.add_mul_mod_self_right,Nat.mod_eq_of_lt hq]
     rw [e5]
     refine ((hzc.2 q u hu').2).ext (ks:=live s.objs) hk.ext λk hk'=>?_
     rw [aM hzk hu'] at hk';simp at hk'
  ·simp at he
 ·simp at he
theorem vJ:∀ (l:List (Nat×AV)),bT (cU l)=bT l:=by
 have e2:∀ (l:List (Nat×AV)) (q:Nat),(cU l).all (λp=>!(Nat.beq p.1 q))=l.all (λp=>!(Nat.beq p.1 q)):=by
  intro l q;induction l with
  | nil=>rfl
  | cons p r ih=>obtain ⟨q',w⟩:=p;simp [cU,ih]
 intro l;induction l with
 | nil=>rfl
 | cons p r ih=>obtain ⟨q,w⟩:=p;simp [cU,bT,ih,e2]
theorem sZ {sz len:Nat}:∀ {l:List (Nat×AV)},fG sz len l=true->∀p∈l,au p.2.cells=[]:=by
 intro l
 induction l with
 | nil=>intro _ p hp;simp at hp
 | cons q r ih=>
  obtain ⟨qi,qv⟩:=q
  intro ho p hp
  simp only [fG,Bool.and_eq_true] at ho
  rcases List.mem_cons.1 hp with rfl | hp
  ·have:=ho.2.1
   cases hk:au qv.cells with
   | nil=>rfl
   | cons=>simp [hk,isNil] at this
  ·exact ih ho.2.2.2.2 p hp
theorem ry (h:Rel B c s a) {t:TypeId} {parts:List (Nat×AV)} {xs:List (Nat×Value)} {v:AV} (hs:jH B c s parts xs) (he:x0 P t parts=some (true,v)):cy P B c s (Instr.build t xs.toArray) v:=by
 unfold x0 at he
 split at he
 ·rename_i fs hu
  cases hz:zeroCells P t with
  | none=>simp [hz] at he
  | some z=>
   simp only [hz,Option.bind_some] at he
   cases hall:fs.toList.all λf=>(aA P f.type).isSome with
   | false=>simp [hall] at he
   | true=>
    simp only [hall,cond_true] at he
    cases hb:ig P fs z parts with
    | none=>simp [hb] at he
    | some l=>
     simp [hb,ok1] at he;subst he
     obtain ⟨i,zv,hi,hzv,hcz⟩:=bj hz
     obtain ⟨hcr,hkz⟩:=dX (c:=c) hcz
     have hpl:∃places,fs.toList.mapM (λf=>(P.info? f.type).map λi=>(f.offset,i.size))=some places:=by
      generalize fs.toList=L at hall
      induction L with
      | nil=>exact ⟨[],rfl⟩
      | cons f r ih=>
       simp only [List.all_cons,Bool.and_eq_true] at hall
       obtain ⟨ps,hps⟩:=ih hall.2
       have h1:=hall.1
       unfold aA at h1
       cases hf:P.info? f.type with
       | none=>simp [hf] at h1
       | some q=>exact ⟨(f.offset,q.size)::ps,by simp [List.mapM_cons,hf,hps]⟩
     obtain ⟨places,hp⟩:=hpl
     obtain ⟨vs',e1,e2,e3⟩:=jA hp hs hcr hb (by rw [hkz];simp)
     refine cy.still h (x:=.agg vs') ?_ ⟨.agg _ _ e2.1 (λi u hu=>(e2.2 i u hu).1) (λi u hu=>(e2.2 i u hu).2),by simpa [AV.keys] using e3,rfl⟩
     refine run_build c.w t xs.toArray vs' ?_
     unfold Program.built
     simp only [hi,hu,hzv,hp]
     exact e1
 ·rename_i n e hu
  cases parts with
  | cons p ps=>
   dsimp only at he
   generalize p::ps=parts at hs he
   cases hz:zeroCells P e with
   | none=>simp [hz] at he
   | some z=>
    cases hr:zeroCells P t with
    | none=>simp [hz,hr] at he
    | some r=>
     simp only [hz,hr,Option.bind_some,aq] at he
     cases hb:(gF z n r&&(aA P e==some z.length&&(fG z.length n (cU parts)&&bT parts))) with
     | false=>simp [hb] at he
     | true=>
      simp [hb,ok1] at he;subst he
      simp only [Bool.and_eq_true,beq_iff_eq] at hb
      obtain ⟨b0,b1,b3,b4⟩:=hb
      obtain ⟨i,v,hi,hv,hc⟩:=bj hr
      obtain ⟨ie,_,hie,_,hcz⟩:=bj hz
      obtain ⟨hcr,_⟩:=dX (c:=c) hc
      obtain ⟨hzc,hzk⟩:=dX (c:=c) hcz
      obtain ⟨h1,h2⟩:=gn b0
      have hsz:ie.size=z.length:=by
       unfold aA at b1;simp [hie] at b1;exact b1
      obtain ⟨vs',f1,f2,f3,f4⟩:=fill_flat (z:=z) hs.shed b3 (by rw [vJ];exact b4) (vs:=v.cells) (by rw [hcr.1,h1])
      have hreps:∀j,j < n->(ag z (cU parts) j).length=z.length/\au (ag z (cU parts) j)=[]/\∀ (q:Nat) (u:AV),(ag z (cU parts) j)[q]?=some u->u.one=true/\Rep c u (vs'.getD (j*z.length+q) undef):=by
       intro j hj
       rcases iH z (cU parts) j with ⟨p,hp,rfl,e2⟩ | ⟨e1,e2⟩
       ·obtain ⟨g1,g2,g3⟩:=f4 p hp
        rw [e2]
        exact ⟨g2,sZ b3 p hp,g3⟩
       ·rw [e2]
        refine ⟨rfl,hzk,λq u hu=>?_⟩
        have hq:q < z.length:=(List.getElem?_eq_some_iff.1 hu).1
        refine ⟨(hzc.2 q u hu).1,?_⟩
        rw [f3 j hj e1 q hq]
        obtain ⟨w,hw,hsame⟩:=h2 j hj q u hu
        exact m4 hsame (hcr.2 _ w hw).2
      refine cy.still h (x:=.agg vs') ?_ ⟨.arr _ _ _ _ f2 (λj hj=>⟨(hreps j hj).1,(hreps j hj).2.1⟩) (λj q u hj hu=>((hreps j hj).2.2 q u hu).1) (λj q u hj hu=>((hreps j hj).2.2 q u hu).2),by simp [AV.keys],rfl⟩
      refine run_build c.w t xs.toArray vs' ?_
      unfold Program.built
      simp only [hi,hu,hv,hie,hsz]
      exact f1
  | nil=>
   cases xs with
   | cons=>exact hs.elim
   | nil=>
    simp only at he
    cases hz:zeroCells P e with
    | none=>simp [hz] at he
    | some z=>
     cases hr:zeroCells P t with
     | none=>simp [hz,hr] at he
     | some r=>
      simp only [hz,hr,Option.bind_some,aq] at he
      cases hb:gF z n r with
      | false=>simp [hb] at he
      | true=>
       simp [hb,ok1] at he;subst he
       obtain ⟨i,v,hi,hv,hc⟩:=bj hr
       obtain ⟨ie,_,hie,_,hcz⟩:=bj hz
       obtain ⟨hcr,_⟩:=dX (c:=c) hc
       obtain ⟨hzc,hzk⟩:=dX (c:=c) hcz
       obtain ⟨h1,h2⟩:=gn hb
       refine cy.still h (x:=.agg v.cells) ?_ ⟨.arr _ _ _ _ (by rw [hcr.1,h1]) (λj hj=>⟨rfl,hzk⟩) (λj q u hj hu=>(hzc.2 q u hu).1) (λj q u hj hu=>?_),by simp [AV.keys],rfl⟩
       ·refine run_build c.w t #[] v.cells ?_
        unfold Program.built
        simp only [hi,hu,hv,hie]
        rfl
       ·obtain ⟨w,hw,hsame⟩:=h2 j hj q u hu
        exact m4 hsame (hcr.2 _ w hw).2
 ·simp at he
theorem mO {t:TypeId} {len:Nat} {parts:List (Nat×AV)} {xs:List (Nat×Value)} {sz m:Nat} {get:Nat->List AV} (hs:jH B c s parts xs) (he:ek P t len parts=some (true,.sl .fit sz m get)) :
  0 < sz/\∃ (vs:Array Value) (e:TypeId),vs.size=m*sz/\(Instr.buildSlice t len xs.toArray).run P c.w=.ok (.slice (some ⟨c.w.heap.size,0,none⟩) m m) (c.w.alloc (.cells vs e)) /\
   ∀j,j < m->(get j).length=sz/\au (get j)=[]/\∀ (q:Nat) (u:AV),(get j)[q]?=some u->u.one=true/\Rep c u (vs.getD (j*sz+q) undef):=by
 unfold ek at he
 split at he
 ·rename_i e hu
  cases hz:zeroCells P e with
  | none=>simp [hz] at he
  | some z=>
   simp only [hz,Option.bind_some,aq] at he
   cases hb:(aA P e==some z.length&&(Nat.blt 0 z.length&&(fG z.length len (cU parts)&&(bT parts&&Nat.ble (len*z.length) 16777216)))) with
   | false=>simp [hb] at he
   | true=>
    simp [hb,ok1] at he;obtain ⟨rfl,rfl,rfl⟩:=he
    simp only [Bool.and_eq_true,beq_iff_eq] at hb
    obtain ⟨b1,b2,b3,b4,b5⟩:=hb
    have b2:0 < z.length:=Nat.lt_of_succ_le (Nat.le_of_ble_eq_true b2)
    have b5:=Nat.le_of_ble_eq_true b5
    obtain ⟨i,zv,hi,hzv,hcz⟩:=bj hz
    obtain ⟨hcr,hkz⟩:=dX (c:=c) hcz
    have hsz:i.size=z.length:=by
     unfold aA at b1;simp [hi] at b1;exact b1
    have hzs:zv.cells.size=z.length:=hcr.1
    have hap:bT (cU parts)=true:=by
     have e1:∀ (l:List (Nat×AV)),(cU l).map (·.1)=l.map (·.1):=by
      intro l;induction l with
      | nil=>rfl
      | cons p r ih=>obtain ⟨q,w⟩:=p;simp [cU,ih]
     have e2:∀ (l:List (Nat×AV)) (q:Nat),(cU l).all (λp=>!(Nat.beq p.1 q))=l.all (λp=>!(Nat.beq p.1 q)):=by
      intro l q;induction l with
      | nil=>rfl
      | cons p r ih=>obtain ⟨q',w⟩:=p;simp [cU,ih]
     have e3:∀ (l:List (Nat×AV)),bT (cU l)=bT l:=by
      intro l;induction l with
      | nil=>rfl
      | cons p r ih=>obtain ⟨q,w⟩:=p;simp [cU,bT,ih,e2]
     rw [e3];exact b4
    obtain ⟨vs',f1,f2,f3,f4⟩:=fill_flat (z:=z) hs.shed b3 hap (vs:=madeCells zv.cells (len*z.length)) (size_madeCells _ _)
    have hreps:∀j,j < len->(ag z (cU parts) j).length=z.length/\au (ag z (cU parts) j)=[]/\∀ (q:Nat) (u:AV),(ag z (cU parts) j)[q]?=some u->u.one=true/\Rep c u (vs'.getD (j*z.length+q) undef):=by
     intro j hj
     rcases iH z (cU parts) j with ⟨p,hp,rfl,e2⟩ | ⟨e1,e2⟩
     ·obtain ⟨g1,g2,g3⟩:=f4 p hp
      rw [e2]
      refine ⟨g2,?_,g3⟩
      have hkk:∀ (l:List (Nat×AV)),fG z.length len l=true->∀p∈l,au p.2.cells=[]:=by
       intro l
       induction l with
       | nil=>intro _ p hp;simp at hp
       | cons q r ih=>
        obtain ⟨qi,qv⟩:=q
        intro ho p hp
        simp only [fG,Bool.and_eq_true] at ho
        rcases List.mem_cons.1 hp with rfl | hp
        ·have:=ho.2.1
         cases hk:au qv.cells with
         | nil=>rfl
         | cons=>simp [hk,isNil] at this
        ·exact ih ho.2.2.2.2 p hp
      exact hkk _ b3 p hp
     ·rw [e2]
      refine ⟨rfl,hkz,λq u hu=>?_⟩
      have hq:q < z.length:=(List.getElem?_eq_some_iff.1 hu).1
      refine ⟨(hcr.2 q u hu).1,?_⟩
      rw [f3 j hj e1 q hq,fK _ _ _ (br hj hq) (by omega)]
      have e5:(j*z.length+q) % zv.cells.size=q:=by rw [hzs,Nat.add_comm,Nat.add_mul_mod_self_right,Nat.mod_eq_of_lt hq]
      rw [e5];exact (hcr.2 q u hu).2
    by_cases hl:len=0
    ·subst hl
     refine ⟨b2,#[],e,by simp,?_,λj hj=>by omega⟩
     have hxs:xs=[]:=by
      cases xs with
      | nil=>rfl
      | cons p q=>
       cases parts with
       | nil=>simp [jH] at hs
       | cons p' q'=>
        obtain ⟨pi,pv⟩:=p'
        simp only [cU,fG,Bool.and_eq_true] at b3
        have:=Nat.le_of_ble_eq_true b3.2.2.2.1
        omega
     subst hxs
     simp [Instr.buildSlice,run_underlying hu,sizeOf,typeInfo,hi,Instr.fill,newRow,Array.range_zero']
    ·have hrun:=run_buildSlice (P:=P) c.w t e len xs.toArray vs' i zv hu hi hzv (by rw [hsz];omega) (by rw [hsz];exact Nat.mul_ne_zero hl (by omega)) (by rw [hsz];exact f1)
     exact ⟨b2,vs',e,f2,hrun,hreps⟩
 ·simp at he
end Go.Ab
