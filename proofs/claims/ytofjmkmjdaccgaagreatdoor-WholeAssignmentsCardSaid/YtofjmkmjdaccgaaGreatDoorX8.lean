/- The library contracts of slices.Sort and slices.Compact at this seat, laid by lay-shelf and lay-plain. slices.Sort and slices.Compact of texts. A view: an empty slice in a slot, a slice that grows and may be stored into from here on. The forced assignments of a register: any answer. digest.Sum, bucket.Of: any answers. bucket.Of: any answer. The members of no segments. assign.Layer at a made environment: any answer of the layer. Made users and environments. The exposures agree with the register's slots: kept by merges and assignments. Visits: the register and the events agree. Reading a row's data as abstract values: numbers, texts, bools, slices, structs, to any depth. The package variables that a row lists, as the evaluator's globals. Listed variables that hold slices of texts. The globals of the seat out of a row's list; the law's arguments as they came in. identity.Members of an id that a link has: not empty, all of one root. A view in which a map of texts is read alone from here on. people.root: an id of the same root; the maps that it keeps stay such. people.owner: the place of an exposure of the same subject. -/
import Derived.Test.YtofjmkmjdaccgaaGreatDoorX7
import Derived.Shelf.Sort.Plain
import Derived.Shelf.Slices.CompactS
import Derived.Shelf.Slices.In.SortNone
import Derived.Test.YtofjmkmjdaccgaaGreatDoorProg
import Derived.ChangeArms
import Derived.ChangeShapes
import Derived.FnData
import Derived.MakeChecks
import Derived.OpenShut
import Derived.Test.YtofjmkmjdaccgaaGreatDoorCards
import Derived.Test.YtofjmkmjdaccgaaGreatDoorTie
set_option linter.unusedVariables false
set_option linter.unusedSimpArgs false
namespace Go.Proofs
open Go.Shelf
def Tryz.sH:Go.Shelf.Ren:=⟨fun | 190=>63 | 125=>98 | 258=>97 | 128=>132 | 129=>133 | 302=>123 | 303=>124 | 304=>125 | 305=>126 | 306=>127 | 307=>128 | 308=>129 | 309=>130 | 310=>131 | 333=>155 | 329=>156 | 330=>157 | 334=>158 | 335=>159 | 336=>160 | 344=>183 | n=>n,fun | 31=>55 | 9=>9 | 3=>3 | 46=>131 | 0=>0 | 51=>270 | 53=>216 | 4=>4 | 183=>264 | 182=>263 | 131=>214 | 5=>5 | 218=>306 | 222=>310 | 228=>344 | 229=>149 | n=>n,fun | n=>n⟩
theorem Tryz.xw:Go.Proofs.Lays.n190 Tryz.prog Tryz.sH:={
 mixed:=by kernel_rfl
 f125:=Tryz.func98.trans (congrArg some (by kernel_rfl))
 f128:=Tryz.func132.trans (congrArg some (by kernel_rfl))
 f129:=Tryz.func133.trans (congrArg some (by kernel_rfl))
 f190:=Tryz.func63.trans (congrArg some (by kernel_rfl))
 f258:=Tryz.func97.trans (congrArg some (by kernel_rfl))
 f302:=Tryz.func123.trans (congrArg some (by kernel_rfl))
 f303:=Tryz.func124.trans (congrArg some (by kernel_rfl))
 f304:=Tryz.func125.trans (congrArg some (by kernel_rfl))
 f305:=Tryz.func126.trans (congrArg some (by kernel_rfl))
 f306:=Tryz.func127.trans (congrArg some (by kernel_rfl))
 f307:=Tryz.func128.trans (congrArg some (by kernel_rfl))
 f308:=Tryz.func129.trans (congrArg some (by kernel_rfl))
 f309:=Tryz.func130.trans (congrArg some (by kernel_rfl))
 f310:=Tryz.func131.trans (congrArg some (by kernel_rfl))
 f329:=Tryz.func156.trans (congrArg some (by kernel_rfl))
 f330:=Tryz.func157.trans (congrArg some (by kernel_rfl))
 f333:=Tryz.func155.trans (congrArg some (by kernel_rfl))
 f334:=Tryz.func158.trans (congrArg some (by kernel_rfl))
 f335:=Tryz.func159.trans (congrArg some (by kernel_rfl))
 f336:=Tryz.func160.trans (congrArg some (by kernel_rfl))
 f344:=Tryz.func183.trans (congrArg some (by kernel_rfl))
 t0:=Tryz.underlying0
 a0:=Tryz.isAgg0
 z0:=Tryz.sizeOf0
 v0:=Tryz.zeroValue0
 t3:=Tryz.underlying3
 a3:=Tryz.isAgg3
 z3:=Tryz.sizeOf3
 v3:=Tryz.zeroValue3
 t4:=Tryz.underlying4
 a4:=Tryz.isAgg4
 z4:=Tryz.sizeOf4
 v4:=Tryz.zeroValue4
 t5:=Tryz.underlying5
 a5:=Tryz.isAgg5
 z5:=Tryz.sizeOf5
 v5:=Tryz.zeroValue5
 t9:=Tryz.underlying9
 a9:=Tryz.isAgg9
 z9:=Tryz.sizeOf9
 v9:=Tryz.zeroValue9
 t31:=Tryz.underlying55
 a31:=Tryz.isAgg55
 z31:=Tryz.sizeOf55
 v31:=Tryz.zeroValue55
 t46:=Tryz.underlying131
 a46:=Tryz.isAgg131
 z46:=Tryz.sizeOf131
 v46:=Tryz.zeroValue131
 t51:=Tryz.underlying270
 a51:=Tryz.isAgg270
 z51:=Tryz.sizeOf270
 v51:=Tryz.zeroValue270
 t53:=Tryz.underlying216
 a53:=Tryz.isAgg216
 z53:=Tryz.sizeOf216
 v53:=Tryz.zeroValue216
 t131:=Tryz.underlying214
 a131:=Tryz.isAgg214
 z131:=Tryz.sizeOf214
 v131:=Tryz.zeroValue214
 t182:=Tryz.underlying263
 a182:=Tryz.isAgg263
 z182:=Tryz.sizeOf263
 v182:=Tryz.zeroValue263
 t183:=Tryz.underlying264
 a183:=Tryz.isAgg264
 z183:=Tryz.sizeOf264
 v183:=Tryz.zeroValue264
 t218:=Tryz.underlying306
 a218:=Tryz.isAgg306
 z218:=Tryz.sizeOf306
 v218:=Tryz.zeroValue306
 t222:=Tryz.underlying310
 a222:=Tryz.isAgg310
 z222:=Tryz.sizeOf310
 v222:=Tryz.zeroValue310
 t228:=Tryz.underlying344
 a228:=Tryz.isAgg344
 z228:=Tryz.sizeOf344
 v228:=Tryz.zeroValue344
 t229:=Tryz.underlying149
 a229:=Tryz.isAgg149
 z229:=Tryz.sizeOf149
 v229:=Tryz.zeroValue149}
open Go.Sort Go.RowKit in
theorem Tryz.slices_Sort_string (blk off cap:Nat) (ss:List (List UInt8)) (w:World) (hH:Holds encStr w blk off ss.toArray) (hblk:blk < w.heap.size) (hsz:ss.length < 4611686018427387904) :
  Calls Tryz.prog 63 #[.slice (some ⟨blk,off,none⟩) ss.length cap] w λe w'=>
   e=.returned (.tuple #[])/\∃n os,w'=grow (putRow encStr (Sort.ahead w n) blk off (ss.mergeSort λx y=>decide (x<=y)).toArray) os:=Any.slices_Sort_string Tryz.xw blk off cap ss w hH hblk hsz
def Tryz.sG:Go.Shelf.Ren:=⟨fun | 194=>64 | n=>n,fun | 31=>55 | 9=>9 | 3=>3 | 4=>4 | 0=>0 | n=>n,fun | n=>n⟩
theorem Tryz.xu:Go.Proofs.Lays.n194 Tryz.prog Tryz.sG:={
 mixed:=by kernel_rfl
 f194:=Tryz.func64.trans (congrArg some (by kernel_rfl))
 t0:=Tryz.underlying0
 a0:=Tryz.isAgg0
 z0:=Tryz.sizeOf0
 v0:=Tryz.zeroValue0
 t3:=Tryz.underlying3
 a3:=Tryz.isAgg3
 z3:=Tryz.sizeOf3
 v3:=Tryz.zeroValue3
 t4:=Tryz.underlying4
 a4:=Tryz.isAgg4
 z4:=Tryz.sizeOf4
 v4:=Tryz.zeroValue4
 t9:=Tryz.underlying9
 a9:=Tryz.isAgg9
 z9:=Tryz.sizeOf9
 v9:=Tryz.zeroValue9
 t31:=Tryz.underlying55
 a31:=Tryz.isAgg55
 z31:=Tryz.sizeOf55
 v31:=Tryz.zeroValue55}
open Go.RowKit Go.Lib Go.Sort in
theorem Tryz.slices_Compact_string (blk off cap:Nat) (zs:List (List UInt8)) (w:World) (hH:Holds encStr w blk off zs.toArray) (hsz:zs.length<=9223372036854775807) (hcap:zs.length<=cap) :
  Calls Tryz.prog 64 #[.slice (some ⟨blk,off,none⟩) zs.length cap] w λe w'=>e=.returned (.slice (some ⟨blk,off,none⟩) (Lib.compact zs).length cap)/\∃q,w'=putRow encStr (Sort.ahead w q) blk off (Lib.compact zs++List.replicate (zs.length - (Lib.compact zs).length) []).toArray:=Any.slices_Compact_string Tryz.xu blk off cap zs w hH hsz hcap
open Go.RowKit Go.Lib Go.Sort in
theorem Tryz.slices_Compact_string_empty (a:Option Addr) (cap:Nat) (w:World) :
  Calls Tryz.prog 64 #[.slice a 0 cap] w λe w'=>e=.returned (.slice a 0 cap)/\w'=w:=Any.slices_Compact_string_empty Tryz.xu a cap w
open Go.RowKit Go.Sort in
theorem Tryz.slices_Sort_string_none (p:Option Addr) (cap:Nat) (w:World) :
  Calls Tryz.prog 63 #[.slice p 0 cap] w λe w'=>e=.returned (.tuple #[])/\w'=w:=Any.slices_Sort_string_none Tryz.xw p cap w
end Go.Proofs

namespace Go.WF
open Go Go.Ab Go.Proofs
abbrev TXL:Type:=List (List UInt8)
theorem oS {l x:TXL} (h:l.length=x.length) (e:txR l=txR x):l=x:=by
 apply List.ext_getElem h
 intro i h1 h2
 have e:txR l i=txR x i:=congrFun e i
 simp only [txR,List.getD_eq_getElem?_getD,List.getElem?_eq_getElem h1,List.getElem?_eq_getElem h2,Option.getD_some,List.cons.injEq,AV.str.injEq,and_true] at e
 exact e
theorem px {l x:TXL} (e:[AO.grw 0 1 l.length (txR l)]=[AO.grw 0 1 x.length (txR x)]):l=x:=by
 injection e with e _
 injection e with _ _ e1 e2
 exact oS e1 e2
def φSo (x:TXL):AV×List AO:=(.tup [],[.grw 0 1 x.length (txR x)])
def rSo (A:List AV) (O:List AO) (x:TXL):Prop:=∀l:TXL,O=[.grw 0 1 l.length (txR l)]->x.length=l.length/\∀z,(∀u∈l,u=z)->∀u∈x,u=z
theorem F6 (l:TXL) (hl:l.length<=1000000):bz wd bF φSo rSo [.gsl ae 1 l.length] [.grw 0 1 l.length (txR l)]:=
 ⟨l.mergeSort λx y=>decide (x<=y),λl' e=>by
  rw [<-px e]
  exact ⟨List.length_mergeSort _,λz hz u hu=>hz u (((List.mergeSort_perm l _).mem_iff).1 hu)⟩,
  oM ⟨_,Tryz.func63,by kernel_rfl,by kernel_rfl⟩ (List.length_mergeSort _) (λblk cap w hH hb=>Tryz.slices_Sort_string blk 0 cap l w hH hb (by omega)) (λp cap w h=>Tryz.slices_Sort_string_none p cap w)⟩
noncomputable abbrev eSo:Ent:=dK wd bF φSo rSo
abbrev CMX:Type:=Nat×TXL
def φCm (x:CMX):AV×List AO:=(.sl .no 1 x.1 (txR x.2),[.gone])
def rCm (A:List AV) (O:List AO) (x:CMX):Prop:=∀l:TXL,O=[.grw 0 1 l.length (txR l)]->x.1<=l.length/\∀z,(∀u∈l,u=z)->l≠[]->x.1=1/\x.2.getD 0 []=z
theorem oN (l:TXL):(Lib.compact l).length<=l.length:=by
 unfold Lib.compact Lib.compactUpTo
 rw [List.length_map]
 exact Nat.le_trans (List.length_filter_le _ _) (by rw [List.length_range];exact Nat.le_refl _)
theorem x8 {l:TXL} {z:List UInt8} (hz:∀u∈l,u=z) {i:Nat} (hi:i < l.length):l.toArray[i]! = z:=by
 rw [getElem!_pos _ i (by simpa using hi)]
 simpa using hz _ (List.getElem_mem hi)
theorem mA {l:TXL} {z:List UInt8} (hz:∀u∈l,u=z):∀m,m+1<=l.length->Lib.compactUpTo l.toArray (m+1)=[z]
 | 0,h=>by
  show (([0].filter _).map _)=[z]
  have:Lib.keeps l.toArray 0=true:=by simp [Lib.keeps]
  rw [List.filter_cons_of_pos this,List.filter_nil,List.map_cons,List.map_nil,x8 hz (by omega)]
 | m+1,h=>by
  have ih:=mA hz m (by omega)
  unfold Lib.compactUpTo at ih ⊢
  have hk:Lib.keeps l.toArray (m+1)=false:=by
   simp [Lib.keeps,x8 hz (show m+1 < l.length by omega),x8 hz (show m < l.length by omega)]
  rw [List.range_succ,List.filter_append,List.map_append,ih,List.filter_cons_of_neg (by rw [hk];decide),List.filter_nil]
  rfl
theorem rl {l:TXL} {z:List UInt8} (hz:∀u∈l,u=z) (hne:l≠[]):Lib.compact l=[z]:=by
 cases l with
 | nil=>exact absurd rfl hne
 | cons a r=>exact mA hz r.length (Nat.le_refl _)
theorem Ip (l:TXL) (hl:l.length<=1000000):bz wd aX φCm rCm [.gsl ae 1 l.length] [.grw 0 1 l.length (txR l)]:=
 have hc:=oN l
 ⟨((Lib.compact l).length,Lib.compact l++List.replicate (l.length - (Lib.compact l).length) []),λl' e=>by
  rw [<-px e]
  refine ⟨hc,λz hz hne=>?_⟩
  rw [rl hz hne]
  exact ⟨rfl,rfl⟩,
  oL ⟨_,Tryz.func64,by kernel_rfl,by kernel_rfl⟩ (by rw [List.length_append,List.length_replicate];omega) hc (λblk cap w hH hcap=>Tryz.slices_Compact_string blk 0 cap l w hH (by omega) hcap) (λp cap w h=>Tryz.slices_Compact_string_empty p cap w)⟩
noncomputable abbrev eCm:Ent:=dK wd aX φCm rCm
end Go.WF

namespace Go.Ab
open Go Go.RowKit
def oy (t K sz:Nat) (get:Nat->List AV):Vw:=λs f=>
 match s.get t,s.obj K with
 | some (.sl .fit _ 0 _),none=>cond (Nat.blt 0 sz) (f ((s.setObj K (.grw 0 sz 0 get)).put (some t) (.gsl K sz 0))) (f s)
 | _,_=>f s
theorem wZ (t K sz:Nat) (get:Nat->List AV):gm (oy t K sz get):=by
 intro s f r h
 unfold oy at h
 split at h
 ·rename_i sz0 g0 ht hK
  cases hb:Nat.blt 0 sz with
  | false=>rw [hb] at h;exact ⟨s,h,λB c a hr hn=>⟨c,rfl,hr,hn⟩⟩
  | true=>
   rw [hb] at h
   refine ⟨_,h,λB c a hr hn=>?_⟩
   have hsz:0 < sz:=Nat.le_of_ble_eq_true hb
   have hX:a.tmps.getD t undef=.slice none 0 0∨∃ad,a.tmps.getD t undef=.slice (some ad) 0 0:=by
    have h0:Rep c (.sl .fit sz0 0 g0) (a.tmps.getD t undef):=hr.env t _ ht
    generalize a.tmps.getD t undef=X at h0
    cases h0 with
    | slNil _ _ _ _=>exact .inl rfl
    | sl _ _ _ _ ad cap _ _ _ ho _ _ _=>exact .inr ⟨ad,by have:cap=0:=ho;rw [this]⟩
   obtain ⟨c',e1,e2,e3,e4,e5⟩:=qU hr hsz hK hX get
   refine ⟨c',e1,⟨e2.good,e2.frame,e2.objs,λq v hq=>?_,λq v hq=>?_,e2.mine,e2.tmps,e2.defers,e2.kept⟩,λq v hq=>?_⟩
   ·rw [St.dD] at hq
    by_cases e:t=q
    ·subst e;rw [if_pos rfl] at hq;cases hq;exact e3
    ·rw [if_neg e] at hq;exact e2.env q v hq
   ·rw [St.dD] at hq
    by_cases e:t=q
    ·subst e;rw [if_pos rfl] at hq;cases hq;exact e4
    ·rw [if_neg e] at hq;exact e2.closed q v hq
   ·rw [St.dD] at hq
    by_cases e:t=q
    ·subst e;rw [if_pos rfl] at hq;cases hq;rfl
    ·rw [if_neg e] at hq;exact hn q v hq
 ·exact ⟨s,h,λB c a hr hn=>⟨c,rfl,hr,hn⟩⟩
end Go.Ab

namespace Go.WF
open Go Go.Ab Go.Proofs
noncomputable def VFd:Env:={Vb [] [29] [] with byRef:=λf=>cond (Nat.beq f 63) true (Nat.beq f 64)}
noncomputable instance envFd:EnvOk VFd wd:=⟨rfl,rfl,eu,eH⟩
def φFd (x:List FD):AV×List AO:=(fdA x,[])
def E6 (r:RG):Prop:=∀u∈r.ss.map SL.layer,u=aI
noncomputable def fdO (r:RG) (a:TX) (n:Int):List FD:=cond (atF r a aI n).2 [⟨aI,(atF r a aI n).1.exp,(atF r a aI n).1.arm⟩] []
noncomputable def fdF (r:RG) (a:TX) (n:Int):List FD:=match r.ss with
 | []=>[]
 | _=>fdO r a n
def FdP (r:RG) (a:TX) (n:Int) (x:List FD):Prop:=x.length<=1000000/\(E6 r->x=fdF r a n)
def rFd (A:List AV) (_:List AO) (x:List FD):Prop:=∀r a n,A=[rgA r,.str a,.int .i64 n]->FdP r a n x
theorem tj {a b:Nat} (h:a < b):Nat.blt a b=true:=Nat.ble_eq_true_of_le h
theorem Js {a b:Nat} (h:¬ a < b):Nat.blt a b=false:=by
 cases e:Nat.blt a b with
 | false=>rfl
 | true=>exact absurd (Nat.le_of_ble_eq_true e) h
theorem gk {α:Type} [Inhabited α] (f:α->List AV) (l:List α) (x:α) (g:Nat->List AV) (hg:g 0=f x):ar l.length 1 (λj=>f (l.getD j default)) g=λj=>f ((l++[x]).getD j default):=by
 funext j
 unfold ar
 by_cases h:j < l.length
 ·rw [tj h,cond_true,eY h]
 ·rw [Js h,cond_false]
  by_cases e:j=l.length
  ·subst e
   rw [tj (Nat.lt_succ_self _),cond_true,Nat.sub_self,hg,eG]
  ·rw [Js (by omega),cond_false]
   show f (l.getD j default)=_
   rw [List.getD_eq_getElem?_getD,List.getD_eq_getElem?_getD,List.getElem?_eq_none (by omega),List.getElem?_eq_none (by simp;omega)]
section
variable {r:RG} {a:TX} {n:Int}
def Ap (r:RG) (v:Nat×TXL):Prop:=v.1<=r.ss.length/\v.2=(r.ss.take v.1).map SL.layer
structure FdI2 (r:RG) (a:TX) (n:Int) (v:(Nat×TXL)×Nat×List FD):Prop where
 m:v.1.1<=1000000
 i:v.2.1<=v.1.1
 k:v.2.2.length<=v.2.1
 one:E6 r->(r.ss≠[]->v.1.1=1/\v.1.2.getD 0 []=aI)/\(r.ss=[]->v.1.1=0)/\v.2.2=cond (Nat.beq v.2.1 0) [] (fdO r a n)
theorem HN {v:Nat×TXL} (hv:Ap r v):v.2.length=v.1:=by
 rw [hv.2,List.length_map,List.length_take,Nat.min_eq_left hv.1]
theorem LW (r:RG):Ap r (0,[]):=⟨Nat.zero_le _,rfl⟩
theorem HS {v:Nat×TXL} (hv:Ap r v) (h:v.1 < r.ss.length):Ap r (v.1+1,v.2++[(r.ss.getD v.1 default).layer]):=⟨h,by
 show v.2++[(r.ss.getD v.1 default).layer]=(r.ss.take (v.1+1)).map SL.layer
 rw [hv.2,List.take_add_one,List.map_append,List.getD_eq_getElem?_getD,List.getElem?_eq_getElem h]
 rfl⟩
theorem HU {v:Nat×TXL} (hv:Ap r v) (h:decide ((v.1:Int) < (r.ss.length:Int))=false):v.2=r.ss.map SL.layer:=by
 have:=of_decide_eq_false h
 have:=hv.1
 rw [hv.2,List.take_of_length_le (by omega)]
theorem BE {x:TXL} (hs:r.ss.length<=1000000) (q:x=r.ss.map SL.layer):x.length<=1000000:=by rw [q,List.length_map];exact hs
theorem HR {v:(Nat×TXL)×Nat×List FD} {x:ATX} (hv:FdI2 r a n v) (h:v.2.1 < v.1.1) (q:x=atF r a (v.1.2.getD v.2.1 []) n) (h3:x.2=true):FdI2 r a n (v.1,v.2.1+1,v.2.2++[FD.mk (v.1.2.getD v.2.1 []) x.1.exp x.1.arm]):=⟨hv.m,h,by show (v.2.2++[_]).length<=v.2.1+1;rw [List.length_append];have:=hv.k;simp;omega,λha=>by
 obtain ⟨h1,h2,h4⟩:=hv.one ha
 refine ⟨h1,h2,?_⟩
 have hne:r.ss≠[]:=λe=>by have:=h2 e;omega
 obtain ⟨e1,e2⟩:=h1 hne
 have e0:v.2.1=0:=by omega
 rw [e0] at h4 q ⊢
 show v.2.2++_=fdO r a n
 rw [h4]
 show [FD.mk (v.1.2.getD 0 []) x.1.exp x.1.arm]=_
 rw [e2] at q ⊢
 unfold fdO
 rw [<-q,h3]
 rfl⟩
theorem HQ {v:(Nat×TXL)×Nat×List FD} {x:ATX} (hv:FdI2 r a n v) (h:v.2.1 < v.1.1) (q:x=atF r a (v.1.2.getD v.2.1 []) n) (h3:x.2=false):FdI2 r a n (v.1,v.2.1+1,v.2.2):=⟨hv.m,h,Nat.le_succ_of_le hv.k,λha=>by
 obtain ⟨h1,h2,h4⟩:=hv.one ha
 refine ⟨h1,h2,?_⟩
 have hne:r.ss≠[]:=λe=>by have:=h2 e;omega
 obtain ⟨e1,e2⟩:=h1 hne
 have e0:v.2.1=0:=by omega
 rw [e0] at h4 q ⊢
 show v.2.2=fdO r a n
 rw [e2] at q
 rw [h4]
 show []=fdO r a n
 unfold fdO
 rw [<-q,h3]
 rfl⟩
theorem HT {v:(Nat×TXL)×Nat×List FD} (hv:FdI2 r a n v) (h:decide ((v.2.1:Int) < (v.1.1:Int))=false):FdP r a n v.2.2:=by
 have:=of_decide_eq_false h
 have h0:=hv.i
 have h1:=hv.k
 have h2:=hv.m
 refine ⟨by omega,λha=>?_⟩
 obtain ⟨g1,g2,g3⟩:=hv.one ha
 have e:v.2.1=v.1.1:=by omega
 rw [g3,e]
 unfold fdF
 split
 ·rename_i hn;rw [g2 hn];rfl
 ·rename_i hn;rw [(g1 (λe=>hn e)).1];rfl
theorem LS {os:List AO} {x:List FD} (h:FdP r a n x):rFd [rgA r,.str a,.int .i64 n] os x:=by
 intro r' a' n' e
 simp only [List.cons.injEq,AV.str.injEq,AV.int.injEq,true_and,and_true] at e
 obtain ⟨e1,e2,e3⟩:=e
 rw [<-jh e1,<-e2,<-e3];exact h
theorem LV {x:Bool} {A:List AV} {os:List AO} (q:rE true A os x):(!x)=false:=by have q:x=true:=q;rw [q];rfl
theorem HM {v:Nat×TXL} (hs:r.ss.length<=1000000) (hv:Ap r v) (h:v.1 < r.ss.length):{env:=[(1,.str a),(2,.int .i64 n),(3,.ref 3 0),(7,AV.gsl 29 1 (List.length v.2+1)),(19,slA (RG.ss r)),(20,.int .i64 (↑(List.length (RG.ss r)):Int)),(21,.int .i64 (IntKind.wrap .i64 ((↑v.1:Int)+1)))],objs:=[(3,.cells (RG.c r)),(29,AO.grw 0 1 (List.length v.2+1) (ar (List.length v.2) 1 (txR v.2) (ag [.str []] [(0,.str (SL.layer (List.getD (RG.ss r) v.1 default)))])))]}=(λv:Nat×TXL=>({env:=[(1,.str a),(2,.int .i64 n),(3,.ref 3 0),(7,.gsl 29 1 v.2.length),(19,slA r.ss),(20,.int .i64 r.ss.length),(21,.int .i64 (v.1:Int))],objs:=[(3,.cells r.c),(29,.grw 0 1 v.2.length (txR v.2))]}:St)) (v.1+1,v.2++[(r.ss.getD v.1 default).layer]):=by
 rw [bC (by omega),show ar (List.length v.2) 1 (txR v.2) (ag [.str []] [(0,.str (SL.layer (List.getD (RG.ss r) v.1 default)))])=txR (v.2++[(r.ss.getD v.1 default).layer]) from gk (λs:TX=>[.str s]) v.2 _ _ rfl,show v.2.length+1=(v.2++[(r.ss.getD v.1 default).layer]).length by simp]
theorem HL {v:(Nat×TXL)×Nat×List FD} {r2:ATX} (hv:FdI2 r a n v) (h:v.2.1 < v.1.1):{env:=[(1,.str a),(2,.int .i64 n),(3,.ref 3 0),(10,.sl (.key 57) 3 (List.length v.2.2+1) (ar (List.length v.2.2) 1 (λj=>[.str (FD.layer (List.getD v.2.2 j default)),.str (FD.exp (List.getD v.2.2 j default)),.int .i64 (FD.arm (List.getD v.2.2 j default))]) (ag [.str [],.str [],.int .i64 0] [(0,.agg [.str (List.getD v.1.2 v.2.1 []),.str (SL.exp r2.1),.int .i64 (SL.arm r2.1)])]))),(34,.sl .no 1 v.1.1 (txR v.1.2)),(35,.int .i64 (↑v.1.1:Int)),(36,.int .i64 (IntKind.wrap .i64 ((↑v.2.1:Int)+1)))],objs:=[(3,.cells (RG.c r)),(57,.own 3 (List.length v.2.2+1))]}=(λv:(Nat×TXL)×Nat×List FD=>({env:=[(1,.str a),(2,.int .i64 n),(3,.ref 3 0),(10,.sl (.key 57) 3 v.2.2.length λj=>(v.2.2.getD j default).c),(34,.sl .no 1 v.1.1 (txR v.1.2)),(35,.int .i64 (v.1.1:Int)),(36,.int .i64 (v.2.1:Int))],objs:=[(3,.cells r.c),(57,.own 3 v.2.2.length)]}:St)) (v.1,v.2.1+1,v.2.2++[FD.mk (v.1.2.getD v.2.1 []) r2.1.exp r2.1.arm]):=by
 have:=hv.m
 rw [bC (by omega)]
 show _=({env:=[(1,.str a),(2,.int .i64 n),(3,.ref 3 0),(10,.sl (.key 57) 3 (v.2.2++[FD.mk (v.1.2.getD v.2.1 []) r2.1.exp r2.1.arm]).length λj=>((v.2.2++[FD.mk (v.1.2.getD v.2.1 []) r2.1.exp r2.1.arm]).getD j default).c),(34,.sl .no 1 v.1.1 (txR v.1.2)),(35,.int .i64 (v.1.1:Int)),(36,.int .i64 ((v.2.1+1:Nat):Int))],objs:=[(3,.cells r.c),(57,.own 3 (v.2.2++[FD.mk (v.1.2.getD v.2.1 []) r2.1.exp r2.1.arm]).length)]}:St)
 rw [<-gk FD.c v.2.2 _ (ag [.str [],.str [],.int .i64 0] [(0,.agg [.str (List.getD v.1.2 v.2.1 []),.str (SL.exp r2.1),.int .i64 (SL.arm r2.1)])]) rfl,show (v.2.2++[FD.mk (v.1.2.getD v.2.1 []) r2.1.exp r2.1.arm]).length=v.2.2.length+1 by simp]
 rfl
theorem HK {v:(Nat×TXL)×Nat×List FD} (hv:FdI2 r a n v) (h:v.2.1 < v.1.1):{env:=[(1,.str a),(2,.int .i64 n),(3,.ref 3 0),(10,.sl (.key 57) 3 (List.length v.2.2) λj=>[.str (FD.layer (List.getD v.2.2 j default)),.str (FD.exp (List.getD v.2.2 j default)),.int .i64 (FD.arm (List.getD v.2.2 j default))]),(34,.sl .no 1 v.1.1 (txR v.1.2)),(35,.int .i64 (↑v.1.1:Int)),(36,.int .i64 (IntKind.wrap .i64 ((↑v.2.1:Int)+1)))],objs:=[(3,.cells (RG.c r)),(57,.own 3 (List.length v.2.2))]}=(λv:(Nat×TXL)×Nat×List FD=>({env:=[(1,.str a),(2,.int .i64 n),(3,.ref 3 0),(10,.sl (.key 57) 3 v.2.2.length λj=>(v.2.2.getD j default).c),(34,.sl .no 1 v.1.1 (txR v.1.2)),(35,.int .i64 (v.1.1:Int)),(36,.int .i64 (v.2.1:Int))],objs:=[(3,.cells r.c),(57,.own 3 v.2.2.length)]}:St)) (v.1,v.2.1+1,v.2.2):=by
 have:=hv.m
 rw [bC (by omega)]
 rfl
theorem HW {x y:TXL} (hs:r.ss.length<=1000000) (hx:x=r.ss.map SL.layer) (q:rSo [.gsl 1000000 1 x.length] [.grw 0 1 x.length (txR x)] y):bz wd aX φCm rCm [.gsl 1000000 1 x.length] [.grw 0 1 y.length (txR y)]:=by
 have e:=(q x rfl).1
 rw [<-e]
 exact Ip y (by rw [e];exact BE hs hx)
theorem LU {x y:TXL} {z:CMX} (hs:r.ss.length<=1000000) (hx:x=r.ss.map SL.layer) (q:rSo [.gsl 1000000 1 x.length] [.grw 0 1 x.length (txR x)] y) (h:z.1<=y.length/\∀t,(∀u∈y,u=t)->y≠[]->z.1=1/\z.2.getD 0 []=t):FdI2 r a n (z,0,[]):=by
 obtain ⟨e1,e2⟩:=q x rfl
 have hx1:=BE hs hx
 have hlen:x.length=r.ss.length:=by rw [hx,List.length_map]
 refine ⟨by have:=h.1;show z.1<=_;omega,Nat.zero_le _,Nat.zero_le _,λha=>⟨λhne=>h.2 _ (e2 _ (by rw [hx];exact ha)) (λe=>?_),λe=>?_,rfl⟩⟩
 ·have e:y.length=0:=by rw [e];rfl
  have:0 < r.ss.length:=List.length_pos_iff.2 hne
  omega
 ·have e:r.ss.length=0:=by rw [e];rfl
  have:=h.1
  show z.1=0
  omega
end
theorem HP (r:RG) (a:TX) (n:Int) (hs:r.ss.length<=1000000):∃ (u:St->Bool) (w:St->TXL),(∀v:Nat×TXL,Ap r v->aW u w ((λv:Nat×TXL=>({env:=[(1,.str a),(2,.int .i64 n),(3,.ref 3 0),(7,.gsl 29 1 v.2.length),(19,slA r.ss),(20,.int .i64 r.ss.length),(21,.int .i64 (v.1:Int))],objs:=[(3,.cells r.c),(29,.grw 0 1 v.2.length (txR v.2))]}:St)) v) λx=>x=r.ss.map SL.layer)/\∀C:List (List Nat×Orc),bq (VFd.run [eVa,eSo,eCm,eAt] 1 [] C [([1,1,1],oy 7 29 1 (txR []))] cH) cH [1,1,1,0,1,0] (mkO u w (λ(t:TXL) k=>k (.exit 0) {env:=[(1,.str a),(2,.int .i64 n),(3,.ref 3 0),(7,AV.gsl 29 1 t.length)],objs:=[(3,.cells r.c),(29,AO.grw 0 1 t.length (txR t))]})):=
 bX (V:=VFd) (T:=[eVa,eSo,eCm,eAt]) (d:=1) (W:=[([1,1,1],oy 7 29 1 (txR []))]) (f:=cH) (p:=[1,1,1,0,1,0]) (Lf:=λL=>L) (λv:Nat×TXL=>{env:=[(1,.str a),(2,.int .i64 n),(3,.ref 3 0),(7,.gsl 29 1 v.2.length),(19,slA r.ss),(20,.int .i64 r.ss.length),(21,.int .i64 (v.1:Int))],objs:=[(3,.cells r.c),(29,.grw 0 1 v.2.length (txR v.2))]}) (Ap r) (λv=>r.ss.length - v.1) (λ(t:TXL) k=>k (.exit 0) {env:=[(1,.str a),(2,.int .i64 n),(3,.ref 3 0),(7,AV.gsl 29 1 t.length)],objs:=[(3,.cells r.c),(29,AO.grw 0 1 t.length (txR t))]}) (λx=>x=r.ss.map SL.layer) (by kernel_rfl) (λv hv=>.b (decide ((↑v.1:Int) < (↑(List.length (RG.ss r)):Int))) (λh1=>
   .n (c:=within (↑v.1:Int) (List.length (RG.ss r))) (aO (aN h1)) (
   .n (c:=roomy 16 (List.length v.2+1)&&Nat.beq (List.length v.2) (List.length v.2)) (bd (by have:=HN hv;have:=aN h1;omega)) (
   .go {env:=[(1,.str a),(2,.int .i64 n),(3,.ref 3 0),(7,AV.gsl 29 1 (List.length v.2+1)),(19,slA (RG.ss r)),(20,.int .i64 (↑(List.length (RG.ss r)):Int)),(21,.int .i64 (IntKind.wrap .i64 ((↑v.1:Int)+1)))],objs:=[(3,.cells (RG.c r)),(29,AO.grw 0 1 (List.length v.2+1) (ar (List.length v.2) 1 (txR v.2) (ag [.str []] [(0,.str (SL.layer (List.getD (RG.ss r) v.1 default)))])))]} (v.1+1,v.2++[(r.ss.getD v.1 default).layer]) (HS hv (aN h1)) (iz (aN h1)) (HM hs hv (aN h1))))) λh1=>
  .fi v.2 (HU hv h1)) (λv L k kn=>by kernel_rfl)
theorem HO (r:RG) (a:TX) (n:Int) (hl:r.ls.length<=1000000) (hs:r.ss.length<=1000000):∃ (u:St->Bool) (w:St->List FD),(∀v:(Nat×TXL)×Nat×List FD,FdI2 r a n v->aW u w ((λv:(Nat×TXL)×Nat×List FD=>({env:=[(1,.str a),(2,.int .i64 n),(3,.ref 3 0),(10,.sl (.key 57) 3 v.2.2.length λj=>(v.2.2.getD j default).c),(34,.sl .no 1 v.1.1 (txR v.1.2)),(35,.int .i64 (v.1.1:Int)),(36,.int .i64 (v.2.1:Int))],objs:=[(3,.cells r.c),(57,.own 3 v.2.2.length)]}:St)) v) (FdP r a n))/\∀C:List (List Nat×Orc),bq (VFd.run [eVa,eSo,eCm,eAt] 1 [] C [([1,1,1],oy 7 29 1 (txR []))] cH) cH [1,1,1,1,1,1,0,1,0] (mkO u w (λ(t:List FD) k=>k (.exit 2) {env:=[(10,.sl (.key 57) 3 t.length λj=>(t.getD j default).c)],objs:=[(57,.own 3 t.length)]})):=
 bX (V:=VFd) (T:=[eVa,eSo,eCm,eAt]) (d:=1) (W:=[([1,1,1],oy 7 29 1 (txR []))]) (f:=cH) (p:=[1,1,1,1,1,1,0,1,0]) (Lf:=λL=>L) (λv:(Nat×TXL)×Nat×List FD=>{env:=[(1,.str a),(2,.int .i64 n),(3,.ref 3 0),(10,.sl (.key 57) 3 v.2.2.length λj=>(v.2.2.getD j default).c),(34,.sl .no 1 v.1.1 (txR v.1.2)),(35,.int .i64 (v.1.1:Int)),(36,.int .i64 (v.2.1:Int))],objs:=[(3,.cells r.c),(57,.own 3 v.2.2.length)]}) (FdI2 r a n) (λv=>v.1.1 - v.2.1) (λ(t:List FD) k=>k (.exit 2) {env:=[(10,.sl (.key 57) 3 t.length λj=>(t.getD j default).c)],objs:=[(57,.own 3 t.length)]}) (FdP r a n) (by kernel_rfl) (λv hv=>.b (decide ((↑v.2.1:Int) < (↑v.1.1:Int))) (λh1=>
   .n (c:=within (↑v.2.1:Int) v.1.1) (aO (aN h1)) (
   .call (zN r a (v.1.2.getD v.2.1 []) n hl hs) λr2 q2=>
   .b (r2.2) (λh3=>
    .n (c:=roomy 40 (List.length v.2.2+1)&&Nat.beq (List.length v.2.2) (List.length v.2.2)) (bd (by have:=hv.m;have:=hv.k;have:=aN h1;omega)) (
    .go {env:=[(1,.str a),(2,.int .i64 n),(3,.ref 3 0),(10,.sl (.key 57) 3 (List.length v.2.2+1) (ar (List.length v.2.2) 1 (λj=>[.str (FD.layer (List.getD v.2.2 j default)),.str (FD.exp (List.getD v.2.2 j default)),.int .i64 (FD.arm (List.getD v.2.2 j default))]) (ag [.str [],.str [],.int .i64 0] [(0,.agg [.str (List.getD v.1.2 v.2.1 []),.str (SL.exp r2.1),.int .i64 (SL.arm r2.1)])]))),(34,.sl .no 1 v.1.1 (txR v.1.2)),(35,.int .i64 (↑v.1.1:Int)),(36,.int .i64 (IntKind.wrap .i64 ((↑v.2.1:Int)+1)))],objs:=[(3,.cells (RG.c r)),(57,.own 3 (List.length v.2.2+1))]} (v.1,v.2.1+1,v.2.2++[FD.mk (v.1.2.getD v.2.1 []) r2.1.exp r2.1.arm]) (HR hv (aN h1) (q2 _ _ _ _ rfl) h3) (iz (aN h1)) (HL hv (aN h1)))) λh3=>
   .go {env:=[(1,.str a),(2,.int .i64 n),(3,.ref 3 0),(10,.sl (.key 57) 3 (List.length v.2.2) λj=>[.str (FD.layer (List.getD v.2.2 j default)),.str (FD.exp (List.getD v.2.2 j default)),.int .i64 (FD.arm (List.getD v.2.2 j default))]),(34,.sl .no 1 v.1.1 (txR v.1.2)),(35,.int .i64 (↑v.1.1:Int)),(36,.int .i64 (IntKind.wrap .i64 ((↑v.2.1:Int)+1)))],objs:=[(3,.cells (RG.c r)),(57,.own 3 (List.length v.2.2))]} (v.1,v.2.1+1,v.2.2) (HQ hv (aN h1) (q2 _ _ _ _ rfl) h3) (iz (aN h1)) (HK hv (aN h1)))) λh1=>
  .fi v.2.2 (HT hv h1)) (λv L k kn=>by kernel_rfl)
theorem HV (r:RG) (a:TX) (n:Int) (hr:VR r) (hl:r.ls.length<=1000000) (hs:r.ss.length<=1000000):bz wd cH φFd rFd [rgA r,.str a,.int .i64 n] []:=by
 obtain ⟨u1,w1,hu1,hc1⟩:=HP r a n hs
 obtain ⟨u2,w2,hu2,hc2⟩:=HO r a n hl hs
 exact bn (V:=VFd) (T:=[eVa,eSo,eCm,eAt]) (d:=1) 0 (aE (hc1 _) (aE (hc2 _) ao)) (fP (wZ 7 29 1 (txR [])) ak) (.call (rH hr) λr1 q1=>
  .no (c:=!r1) (a:=some ((.sl .fit 0 0 λx=>[],[]))) (LV q1) (
  .lp (hu1 (0,[]) (LW r)) λr3 q3=>
  .call (F6 r3 (BE hs q3)) λr4 q4=>
  .call (HW hs q3 q4) λr5 q5=>
  .lp (hu2 (r5,0,[]) (LU hs q3 q4 (q5 _ rfl))) λr6 q6=>
  .r r6 (LS q6))) (by kernel_rfl)
noncomputable abbrev eFd:Ent:=dK wd cH φFd rFd
end Go.WF

namespace Go.WF
open Go Go.Ab Go.Proofs
def φU6 (x:Int):AV×List AO:=(.int .u64 x,[])
structure U4 where
 a:Int
 b:Int
 c:Int
 d:Int
instance:Inhabited U4:=⟨⟨0,0,0,0⟩⟩
def U4.g (x:U4) (j:Nat):List AV:=cond (Nat.beq j 0) [.int .u64 x.a] (cond (Nat.beq j 1) [.int .u64 x.b] (cond (Nat.beq j 2) [.int .u64 x.c] (cond (Nat.beq j 3) [.int .u64 x.d] [.int .u64 0])))
def φU4 (x:U4):AV×List AO:=(.tup [],[.arr 1 4 x.g])
def exI:List AV->Int
 | [.int _ x]=>x
 | _=>0
def U4.of (r:Nat->List AV):U4:=⟨exI (r 0),exI (r 1),exI (r 2),exI (r 3)⟩
theorem v8 {r:Nat->List AV} (h0:r 0=[.int .u64 (exI (r 0))]) (h1:r 1=[.int .u64 (exI (r 1))]) (h2:r 2=[.int .u64 (exI (r 2))]) (h3:r 3=[.int .u64 (exI (r 3))]) (h4:∀j,r (j+4)=[.int .u64 0]):r=(U4.of r).g:=by
 funext j
 match j with
 | 0=>exact h0
 | 1=>exact h1
 | 2=>exact h2
 | 3=>exact h3
 | j+4=>exact h4 j
theorem J3 {r:Nat->List AV} (h:r=(U4.of r).g):Tr (.tup [],[.arr 1 4 r]) (φU4 (U4.of r)):=by
 unfold φU4
 rw [<-h]
 exact ⟨.inl rfl,.inl rfl⟩
theorem vU {x:Int}:decide (0<=IntKind.wrap .u64 x)=true:=by
 apply decide_eq_true
 unfold IntKind.wrap
 simp only [IntKind.signed,Bool.false_and]
 exact Int.emod_nonneg _ (by decide)
theorem Cu {x:Int}:0<=IntKind.wrap .u64 x:=of_decide_eq_true vU
def De (_:List AV) (_:List AO) (x:Int):Prop:=0<=x
theorem vd (x k:Int):bz wd cj φU6 gS [.int .u64 x,.int .i64 k] []:=
 bn (V:=V0) (T:=[]) (d:=2) 0 ao ak (.n (c:=decide (0<=IntKind.wrap IntKind.u64 (64 - IntKind.wrap IntKind.u64 (↑(BitVec.toNat (BitVec.ofInt (IntKind.bits IntKind.u64) (IntKind.wrap IntKind.u64 k) &&& BitVec.ofInt (IntKind.bits IntKind.u64) 63)):Int)))) (vU) (
  .r ((IntKind.wrap IntKind.u64 (↑(BitVec.toNat (BitVec.ofInt (IntKind.bits IntKind.u64) (IntKind.wrap IntKind.u64 (x*2 ^ min (Int.toNat (IntKind.wrap IntKind.u64 (↑(BitVec.toNat (BitVec.ofInt (IntKind.bits IntKind.u64) (IntKind.wrap IntKind.u64 k) &&& BitVec.ofInt (IntKind.bits IntKind.u64) 63)):Int))) (IntKind.bits IntKind.u64))) ||| BitVec.ofInt (IntKind.bits IntKind.u64) (Int.fdiv x (2 ^ min (Int.toNat (IntKind.wrap IntKind.u64 (64 - IntKind.wrap IntKind.u64 (↑(BitVec.toNat (BitVec.ofInt (IntKind.bits IntKind.u64) (IntKind.wrap IntKind.u64 k) &&& BitVec.ofInt (IntKind.bits IntKind.u64) 63)):Int)))) (IntKind.bits IntKind.u64))))):Int))) trivial)) (by kernel_rfl)
noncomputable abbrev eRl:Ent:=dK wd cj φU6 gS
theorem Kl {n:Nat} {v:Nat×U4} {row:Nat->List AV} (hn:n<=1000000) (h:v.1 < n) (hr:row=(U4.of row).g):{env:=[(0,.ref 1000000 0),(4,.int .i64 (↑n:Int)),(5,.int .i64 (IntKind.wrap .i64 ((↑v.1:Int)+1)))],objs:=[(1000000,.arr 1 4 row)]}=(λv:Nat×U4=>({env:=[(0,.ref 1000000 0),(4,.int .i64 n),(5,.int .i64 (v.1:Int))],objs:=[(1000000,.arr 1 4 v.2.g)]}:St)) (v.1+1,U4.of row):=by
 rw [bC (by omega)]
 show _=({env:=[(0,.ref 1000000 0),(4,.int .i64 n),(5,.int .i64 ((v.1+1:Nat):Int))],objs:=[(1000000,.arr 1 4 (U4.of row).g)]}:St)
 rw [<-hr]
theorem Km (n:Nat) (hn:n<=1000000):∃ (u:St->Bool) (w:St->U4),(∀v:Nat×U4,True->aW u w ((λv:Nat×U4=>({env:=[(0,.ref 1000000 0),(4,.int .i64 n),(5,.int .i64 (v.1:Int))],objs:=[(1000000,.arr 1 4 v.2.g)]}:St)) v) λ_=>True)/\∀C:List (List Nat×Orc),bq (V0.run [eRl] 1 [] C [] gf) gf [1,0] (mkO u w (λ(t:U4) k=>k (.exit 0) {env:=[],objs:=[(1000000,.arr 1 4 t.g)]})):=
 bX (V:=V0) (T:=[eRl]) (d:=1) (W:=[]) (f:=gf) (p:=[1,0]) (Lf:=λL=>L) (λv:Nat×U4=>{env:=[(0,.ref 1000000 0),(4,.int .i64 n),(5,.int .i64 (v.1:Int))],objs:=[(1000000,.arr 1 4 v.2.g)]}) (λ_=>True) (λv=>n - v.1) (λ(t:U4) k=>k (.exit 0) {env:=[],objs:=[(1000000,.arr 1 4 t.g)]}) (λ_=>True) (by kernel_rfl) (λv hv=>.b (decide ((↑v.1:Int) < (↑n:Int))) (λh1=>
   .call (vd _ _:bz wd cj φU6 (gS) [.int .u64 (U4.b v.2),.int .i64 13] []) λr2 q2=>
   .call (vd _ _:bz wd cj φU6 (gS) [.int .u64 (IntKind.wrap IntKind.u64 (U4.a v.2+U4.b v.2)),.int .i64 32] []) λr3 q3=>
   .call (vd _ _:bz wd cj φU6 (gS) [.int .u64 (U4.d v.2),.int .i64 16] []) λr4 q4=>
   .call (vd _ _:bz wd cj φU6 (gS) [.int .u64 (IntKind.wrap IntKind.u64 (↑(BitVec.toNat (BitVec.ofInt (IntKind.bits IntKind.u64) r4 ^^^ BitVec.ofInt (IntKind.bits IntKind.u64) (IntKind.wrap IntKind.u64 (U4.c v.2+U4.d v.2)))):Int)),.int .i64 21] []) λr5 q5=>
   .call (vd _ _:bz wd cj φU6 (gS) [.int .u64 (IntKind.wrap IntKind.u64 (↑(BitVec.toNat (BitVec.ofInt (IntKind.bits IntKind.u64) r2 ^^^ BitVec.ofInt (IntKind.bits IntKind.u64) (IntKind.wrap IntKind.u64 (U4.a v.2+U4.b v.2)))):Int)),.int .i64 17] []) λr6 q6=>
   .call (vd _ _:bz wd cj φU6 (gS) [.int .u64 (IntKind.wrap IntKind.u64 (IntKind.wrap IntKind.u64 (U4.c v.2+U4.d v.2)+IntKind.wrap IntKind.u64 (↑(BitVec.toNat (BitVec.ofInt (IntKind.bits IntKind.u64) r2 ^^^ BitVec.ofInt (IntKind.bits IntKind.u64) (IntKind.wrap IntKind.u64 (U4.a v.2+U4.b v.2)))):Int))),.int .i64 32] []) λr7 q7=>
   .go {env:=[(0,.ref 1000000 0),(4,.int .i64 (↑n:Int)),(5,.int .i64 (IntKind.wrap .i64 ((↑v.1:Int)+1)))],objs:=[(1000000,.arr 1 4 λj=>bif Nat.beq j (Int.toNat 2) then [.int .u64 r7] else bif Nat.beq j (Int.toNat 1) then [.int .u64 (IntKind.wrap IntKind.u64 (↑(BitVec.toNat (BitVec.ofInt (IntKind.bits IntKind.u64) r6 ^^^ BitVec.ofInt (IntKind.bits IntKind.u64) (IntKind.wrap IntKind.u64 (IntKind.wrap IntKind.u64 (U4.c v.2+U4.d v.2)+IntKind.wrap IntKind.u64 (↑(BitVec.toNat (BitVec.ofInt (IntKind.bits IntKind.u64) r2 ^^^ BitVec.ofInt (IntKind.bits IntKind.u64) (IntKind.wrap IntKind.u64 (U4.a v.2+U4.b v.2)))):Int))))):Int))] else bif Nat.beq j (Int.toNat 2) then [.int .u64 (IntKind.wrap IntKind.u64 (IntKind.wrap IntKind.u64 (U4.c v.2+U4.d v.2)+IntKind.wrap IntKind.u64 (↑(BitVec.toNat (BitVec.ofInt (IntKind.bits IntKind.u64) r2 ^^^ BitVec.ofInt (IntKind.bits IntKind.u64) (IntKind.wrap IntKind.u64 (U4.a v.2+U4.b v.2)))):Int)))] else bif Nat.beq j (Int.toNat 3) then [.int .u64 (IntKind.wrap IntKind.u64 (↑(BitVec.toNat (BitVec.ofInt (IntKind.bits IntKind.u64) r5 ^^^ BitVec.ofInt (IntKind.bits IntKind.u64) (IntKind.wrap IntKind.u64 (r3+IntKind.wrap IntKind.u64 (↑(BitVec.toNat (BitVec.ofInt (IntKind.bits IntKind.u64) r4 ^^^ BitVec.ofInt (IntKind.bits IntKind.u64) (IntKind.wrap IntKind.u64 (U4.c v.2+U4.d v.2)))):Int))))):Int))] else bif Nat.beq j (Int.toNat 0) then [.int .u64 (IntKind.wrap IntKind.u64 (r3+IntKind.wrap IntKind.u64 (↑(BitVec.toNat (BitVec.ofInt (IntKind.bits IntKind.u64) r4 ^^^ BitVec.ofInt (IntKind.bits IntKind.u64) (IntKind.wrap IntKind.u64 (U4.c v.2+U4.d v.2)))):Int)))] else bif Nat.beq j (Int.toNat 3) then [.int .u64 (IntKind.wrap IntKind.u64 (↑(BitVec.toNat (BitVec.ofInt (IntKind.bits IntKind.u64) r4 ^^^ BitVec.ofInt (IntKind.bits IntKind.u64) (IntKind.wrap IntKind.u64 (U4.c v.2+U4.d v.2)))):Int))] else bif Nat.beq j (Int.toNat 2) then [.int .u64 (IntKind.wrap IntKind.u64 (U4.c v.2+U4.d v.2))] else bif Nat.beq j (Int.toNat 0) then [.int .u64 r3] else bif Nat.beq j (Int.toNat 1) then [.int .u64 (IntKind.wrap IntKind.u64 (↑(BitVec.toNat (BitVec.ofInt (IntKind.bits IntKind.u64) r2 ^^^ BitVec.ofInt (IntKind.bits IntKind.u64) (IntKind.wrap IntKind.u64 (U4.a v.2+U4.b v.2)))):Int))] else bif Nat.beq j (Int.toNat 0) then [.int .u64 (IntKind.wrap IntKind.u64 (U4.a v.2+U4.b v.2))] else U4.g v.2 j)]} (v.1+1,U4.of _) trivial (iz (aN h1)) (Kl hn (aN h1) (v8 rfl rfl rfl rfl λ_=>rfl))) λh1=>
  .fi v.2 trivial) (λv L k kn=>by kernel_rfl)
theorem Db {r:Nat->List AV} (h:r=(U4.of r).g) (n:Nat) (hn:n<=1000000):bz wd gf φU4 gS [.ref ae 0,.int .i64 (n:Int)] [.arr 1 4 r]:=by
 rw [h]
 generalize U4.of r=x
 obtain ⟨u,w,hu,hc⟩:=Km n hn
 exact bn (V:=V0) (T:=[eRl]) (d:=1) 1 (aE (hc _) ao) ak (.lp (hu (0,x) trivial) λr1 q1=>
  .r r1 trivial) (by kernel_rfl)
noncomputable abbrev Ai:Ent:=dK wd gf φU4 gS
theorem Cv {r:Nat->List AV} (m:Int) (h:∃x:U4,r=x.g):bz wd pJ φU4 gS [.ref ae 0,.int .u64 m] [.arr 1 4 r]:=by
 obtain ⟨x,rfl⟩:=h
 exact bn (V:=V0) (T:=[Ai]) (d:=1) 1 ao ak (.call (Db (v8 rfl rfl rfl rfl λ_=>rfl) 2 (by decide):bz wd gf φU4 (gS) [.ref 1000000 0,.int .i64 2] [.arr 1 4 λj=>bif Nat.beq j (Int.toNat 3) then [.int .u64 (IntKind.wrap IntKind.u64 (↑(BitVec.toNat (BitVec.ofInt (IntKind.bits IntKind.u64) (U4.d x) ^^^ BitVec.ofInt (IntKind.bits IntKind.u64) m)):Int))] else U4.g x j]) λr1 q1=>
  .t (U4.of _) trivial (J3 (v8 rfl rfl rfl rfl λ_=>rfl):Tr (.tup [],[.arr 1 4 λj=>bif Nat.beq j (Int.toNat 0) then [.int .u64 (IntKind.wrap IntKind.u64 (↑(BitVec.toNat (BitVec.ofInt (IntKind.bits IntKind.u64) (U4.a r1) ^^^ BitVec.ofInt (IntKind.bits IntKind.u64) m)):Int))] else U4.g r1 j]) _)) (by kernel_rfl)
noncomputable abbrev eWo:Ent:=dK wd pJ φU4 gS
section
variable {n:Nat} {g:Nat->Int} {i:Nat}
theorem EU (hn:n<=1000000) (h:decide (IntKind.wrap .i64 ((i:Int)+8)<=(n:Int))=true) (hi:i<=n):i+8<=n:=by
 have:=of_decide_eq_true h
 rw [wrap_i64 (by omega) (by omega)] at this
 omega
theorem J4 {k:Nat} (hn:n<=1000000) (h:i+8<=n) (h8:decide ((k:Int) < 8)=true):within (IntKind.wrap .i64 ((i:Int)+(k:Int))) n=true:=by
 have:=of_decide_eq_true h8
 rw [wrap_i64 (by omega) (by omega)]
 exact kC (by omega) (by omega)
theorem Ho {k:Nat} (h:decide ((k:Int) < 8)=true):k < 8:=by have:=of_decide_eq_true h;omega
theorem CT {k:Nat} (h:k < 8):decide (0<=IntKind.wrap .i64 (8*(k:Int)))=true:=by
 rw [wrap_i64 (by omega) (by omega)]
 exact decide_eq_true (by omega)
theorem FW {v:Nat×Nat×Int×Int×U4} {y:Int} (h:v.2.1 < 8):{env:=[(2,.sl .no 1 n λj=>[.int .u8 (g j)]),(7,.ref 7 0),(8,.int .u64 v.2.2.1),(9,.int .i64 (↑v.1:Int)),(10,.int .u64 y),(33,.int .i64 (IntKind.wrap .i64 ((↑v.2.1:Int)+1)))],objs:=[(7,.arr 1 4 (U4.g v.2.2.2.2))]}=(λv:Nat×Nat×Int×Int×U4=>({env:=[(2,.sl .no 1 n λj=>[.int .u8 (g j)]),(7,.ref 7 0),(8,.int .u64 v.2.2.1),(9,.int .i64 (v.1:Int)),(10,.int .u64 v.2.2.2.1),(33,.int .i64 (v.2.1:Int))],objs:=[(7,.arr 1 4 v.2.2.2.2.g)]}:St)) (v.1,v.2.1+1,v.2.2.1,y,v.2.2.2.2):=by
 rw [bC (by omega)]
theorem J7 {a b:Nat×Nat×Int×Int×U4} (h:(λv:Nat×Nat×Int×Int×U4=>({env:=[(2,.sl .no 1 n λj=>[.int .u8 (g j)]),(7,.ref 7 0),(8,.int .u64 v.2.2.1),(9,.int .i64 (v.1:Int)),(10,.int .u64 v.2.2.2.1),(33,.int .i64 (v.2.1:Int))],objs:=[(7,.arr 1 4 v.2.2.2.2.g)]}:St)) a=(λv:Nat×Nat×Int×Int×U4=>({env:=[(2,.sl .no 1 n λj=>[.int .u8 (g j)]),(7,.ref 7 0),(8,.int .u64 v.2.2.1),(9,.int .i64 (v.1:Int)),(10,.int .u64 v.2.2.2.1),(33,.int .i64 (v.2.1:Int))],objs:=[(7,.arr 1 4 v.2.2.2.2.g)]}:St)) b):a.1=b.1:=by
 have h:=congrArg (λs:St=>alook s.env 9) h
 have h:some (AV.int .i64 (a.1:Int))=some (AV.int .i64 (b.1:Int)):=h
 injection h with h
 injection h with _ h
 omega
theorem F4 {z:Nat} (hn:n<=1000000) (h:decide (IntKind.wrap .i64 ((i:Int)+8)<=(n:Int))=true) (hi:i<=n) (q:z=i):z+8<=n:=q ▸ EU hn h hi
theorem J6 {z:Nat} (hn:n<=1000000) (hi:i<=n) (h:decide (IntKind.wrap .i64 ((i:Int)+8)<=(n:Int))=true) (q:z=i):n - (z+8) < n - i:=by
 have:=EU hn h hi
 omega
theorem J5 {t:Nat×Int×Int×U4} {x:U4} (hn:n<=1000000) (hi:i<=n) (h:decide (IntKind.wrap .i64 ((i:Int)+8)<=(n:Int))=true) (q:t.1=i):{env:=[(2,.sl .no 1 n λj=>[.int .u8 (g j)]),(7,.ref 7 0),(8,.int .u64 t.2.1),(9,.int .i64 (IntKind.wrap .i64 ((↑t.1:Int)+8)))],objs:=[(7,.arr 1 4 (U4.g x))]}=(λv:Nat×Int×U4=>({env:=[(2,.sl .no 1 n λj=>[.int .u8 (g j)]),(7,.ref 7 0),(8,.int .u64 v.2.1),(9,.int .i64 (v.1:Int))],objs:=[(7,.arr 1 4 v.2.2.g)]}:St)) (t.1+8,t.2.1,x):=by
 have:=EU hn h hi
 rw [wrap_i64 (by omega) (by omega)]
 rfl
theorem IT:Int.tmod (n:Int) 8=((n % 8:Nat):Int):=by rw [Int.tmod_eq_emod_of_nonneg (by omega)];omega
theorem yz (h:decide ((i:Int) < Int.tmod (n:Int) 8)=true):i < n % 8:=by
 have:=of_decide_eq_true h
 rw [IT] at this
 omega
theorem FV (hn:n<=1000000) (h:decide ((i:Int) < Int.tmod (n:Int) 8)=true):within (IntKind.wrap .i64 (IntKind.wrap .i64 ((n:Int) - Int.tmod (n:Int) 8)+(i:Int))) n=true:=by
 have:=yz h
 have h8:n % 8<=n:=Nat.mod_le _ _
 rw [IT,wrap_i64 (x:=(n:Int) - ((n % 8:Nat):Int)) (by omega) (by omega),wrap_i64 (by omega) (by omega)]
 exact kC (by omega) (by omega)
theorem F3:n % 8<=8:=Nat.le_of_lt (Nat.mod_lt _ (by decide))
theorem FY (hn:n<=1000000) (h:decide ((i:Int) < Int.tmod (n:Int) 8)=true):n - (i+1) < n - i:=by
 have:=yz h
 have h8:n % 8<=n:=Nat.mod_le _ _
 omega
theorem FX {v:Nat×Int×U4} {y:Int} (hn:n<=1000000) (h:decide ((v.1:Int) < Int.tmod (n:Int) 8)=true):{env:=[(2,.sl .no 1 n λj=>[.int .u8 (g j)]),(7,.ref 7 0),(8,.int .u64 y),(53,.int .i64 (Int.tmod (↑n:Int) 8)),(54,.int .i64 (IntKind.wrap .i64 ((↑v.1:Int)+1)))],objs:=[(7,.arr 1 4 (U4.g v.2.2))]}=(λv:Nat×Int×U4=>({env:=[(2,.sl .no 1 n λj=>[.int .u8 (g j)]),(7,.ref 7 0),(8,.int .u64 v.2.1),(53,.int .i64 (Int.tmod n 8)),(54,.int .i64 (v.1:Int))],objs:=[(7,.arr 1 4 v.2.2.g)]}:St)) (v.1+1,y,v.2.2):=by
 have:=yz h
 have h8:n % 8<=n:=Nat.mod_le _ _
 rw [bC (by omega)]
theorem J8 {u:St->Bool} {w:St->Int×U4} {row:Nat->List AV} (h:row=(U4.of row).g) (hu:∀v:Nat×Int×U4,v.1<=n->aW u w ((λv:Nat×Int×U4=>({env:=[(2,.sl .no 1 n λj=>[.int .u8 (g j)]),(7,.ref 7 0),(8,.int .u64 v.2.1),(9,.int .i64 (v.1:Int))],objs:=[(7,.arr 1 4 v.2.2.g)]}:St)) v) λ_=>True) (L:Int):aW u w {env:=[(2,.sl .no 1 n λj=>[.int .u8 (g j)]),(7,.ref 7 0),(8,.int .u64 L),(9,.int .i64 0)],objs:=[(7,.arr 1 4 row)]} λ_=>True:=by
 rw [h]
 exact hu (0,L,U4.of row) (Nat.zero_le _)
end
theorem FZ (n:Nat) (g:Nat->Int) (hn:n<=1000000):∃ (u:St->Bool) (w:St->Nat×Int×Int×U4),(∀v:Nat×Nat×Int×Int×U4,v.1+8<=n->aW u w ((λv:Nat×Nat×Int×Int×U4=>({env:=[(2,.sl .no 1 n λj=>[.int .u8 (g j)]),(7,.ref 7 0),(8,.int .u64 v.2.2.1),(9,.int .i64 (v.1:Int)),(10,.int .u64 v.2.2.2.1),(33,.int .i64 (v.2.1:Int))],objs:=[(7,.arr 1 4 v.2.2.2.2.g)]}:St)) v) λt=>t.1=v.1)/\∀C:List (List Nat×Orc),bq (V0.run [eWo,Ai] 1 [] C [] ia) ia [1,1,1,0,1,0,0,1,0,0,1,0,1,0] (mkO u w (λ(t:Nat×Int×Int×U4) k=>k (.exit 2) {env:=[(2,.sl .no 1 n λj=>[.int .u8 (g j)]),(7,.ref 7 0),(8,.int .u64 t.2.1),(9,.int .i64 (t.1:Int)),(10,.int .u64 t.2.2.1)],objs:=[(7,.arr 1 4 t.2.2.2.g)]})):=
 gx (V:=V0) (T:=[eWo,Ai]) (d:=1) (W:=[]) (f:=ia) (p:=[1,1,1,0,1,0,0,1,0,0,1,0,1,0]) (Lf:=λL=>L) (λv:Nat×Nat×Int×Int×U4=>{env:=[(2,.sl .no 1 n λj=>[.int .u8 (g j)]),(7,.ref 7 0),(8,.int .u64 v.2.2.1),(9,.int .i64 (v.1:Int)),(10,.int .u64 v.2.2.2.1),(33,.int .i64 (v.2.1:Int))],objs:=[(7,.arr 1 4 v.2.2.2.2.g)]}) (λv=>v.1+8<=n) (λv=>8 - v.2.1) (λ(t:Nat×Int×Int×U4) k=>k (.exit 2) {env:=[(2,.sl .no 1 n λj=>[.int .u8 (g j)]),(7,.ref 7 0),(8,.int .u64 t.2.1),(9,.int .i64 (t.1:Int)),(10,.int .u64 t.2.2.1)],objs:=[(7,.arr 1 4 t.2.2.2.g)]}) (λv t=>t.1=v.1) (by kernel_rfl) (λa b x h hp=>hp.trans (J7 h)) (λv hv=>.b (decide ((↑v.2.1:Int) < 8)) (λh1=>
   .n (c:=within (IntKind.wrap .i64 ((↑v.1:Int)+(↑v.2.1:Int))) n) (J4 hn hv h1) (
   .n (c:=decide (0<=IntKind.wrap .i64 (8*(↑v.2.1:Int)))) (CT (Ho h1)) (
   .nx {env:=[(2,.sl .no 1 n λj=>[.int .u8 (g j)]),(7,.ref 7 0),(8,.int .u64 v.2.2.1),(9,.int .i64 (↑v.1:Int)),(10,.int .u64 (IntKind.wrap IntKind.u64 (↑(BitVec.toNat (BitVec.ofInt (IntKind.bits IntKind.u64) v.2.2.2.1 ||| BitVec.ofInt (IntKind.bits IntKind.u64) (IntKind.wrap IntKind.u64 (IntKind.wrap IntKind.u64 (g (Int.toNat (IntKind.wrap .i64 ((↑v.1:Int)+(↑v.2.1:Int)))))*2 ^ min (Int.toNat (IntKind.wrap .i64 (8*(↑v.2.1:Int)))) (IntKind.bits IntKind.u64))))):Int))),(33,.int .i64 (IntKind.wrap .i64 ((↑v.2.1:Int)+1)))],objs:=[(7,.arr 1 4 (U4.g v.2.2.2.2))]} (v.1,v.2.1+1,v.2.2.1,_,v.2.2.2.2) hv (iz (Ho h1)) (λ_ h=>h) (FW (Ho h1))))) λh1=>
  .fi (v.1,v.2.2.1,v.2.2.2.1,v.2.2.2.2) rfl) (λv L k kn=>by kernel_rfl)
theorem F1 (n:Nat) (g:Nat->Int) (hn:n<=1000000) {z:St->Bool} {y:St->Nat×Int×Int×U4} (hi:∀v:Nat×Nat×Int×Int×U4,v.1+8<=n->aW z y ((λv:Nat×Nat×Int×Int×U4=>({env:=[(2,.sl .no 1 n λj=>[.int .u8 (g j)]),(7,.ref 7 0),(8,.int .u64 v.2.2.1),(9,.int .i64 (v.1:Int)),(10,.int .u64 v.2.2.2.1),(33,.int .i64 (v.2.1:Int))],objs:=[(7,.arr 1 4 v.2.2.2.2.g)]}:St)) v) λt=>t.1=v.1):∃ (u:St->Bool) (w:St->Int×U4),(∀v:Nat×Int×U4,v.1<=n->aW u w ((λv:Nat×Int×U4=>({env:=[(2,.sl .no 1 n λj=>[.int .u8 (g j)]),(7,.ref 7 0),(8,.int .u64 v.2.1),(9,.int .i64 (v.1:Int))],objs:=[(7,.arr 1 4 v.2.2.g)]}:St)) v) λ_=>True)/\∀C:List (List Nat×Orc),bq (V0.run [eWo,Ai] 1 [] (([1,1,1,0,1,0,0,1,0,0,1,0,1,0],mkO z y (λ(t:Nat×Int×Int×U4) k=>k (.exit 2) {env:=[(2,.sl .no 1 n λj=>[.int .u8 (g j)]),(7,.ref 7 0),(8,.int .u64 t.2.1),(9,.int .i64 (t.1:Int)),(10,.int .u64 t.2.2.1)],objs:=[(7,.arr 1 4 t.2.2.2.g)]}))::C) [] ia) ia [1,1,1,0,1,0] (mkO u w (λ(t:Int×U4) k=>k (.exit 0) {env:=[(2,.sl .no 1 n λj=>[.int .u8 (g j)]),(7,.ref 7 0),(8,.int .u64 t.1)],objs:=[(7,.arr 1 4 t.2.g)]})):=
 bX (V:=V0) (T:=[eWo,Ai]) (d:=1) (W:=[]) (f:=ia) (p:=[1,1,1,0,1,0]) (Lf:=λL=>([1,1,1,0,1,0,0,1,0,0,1,0,1,0],mkO z y (λ(t:Nat×Int×Int×U4) k=>k (.exit 2) {env:=[(2,.sl .no 1 n λj=>[.int .u8 (g j)]),(7,.ref 7 0),(8,.int .u64 t.2.1),(9,.int .i64 (t.1:Int)),(10,.int .u64 t.2.2.1)],objs:=[(7,.arr 1 4 t.2.2.2.g)]}))::L) (λv:Nat×Int×U4=>{env:=[(2,.sl .no 1 n λj=>[.int .u8 (g j)]),(7,.ref 7 0),(8,.int .u64 v.2.1),(9,.int .i64 (v.1:Int))],objs:=[(7,.arr 1 4 v.2.2.g)]}) (λv=>v.1<=n) (λv=>n - v.1) (λ(t:Int×U4) k=>k (.exit 0) {env:=[(2,.sl .no 1 n λj=>[.int .u8 (g j)]),(7,.ref 7 0),(8,.int .u64 t.1)],objs:=[(7,.arr 1 4 t.2.g)]}) (λ_=>True) (by kernel_rfl) (λv hv=>.b (decide (IntKind.wrap .i64 ((↑v.1:Int)+8)<=(↑n:Int))) (λh1=>
   .lp (hi (v.1,0,v.2.1,0,v.2.2) (EU hn h1 hv)) λr2 q2=>
   .call (Cv _ (⟨_,rfl⟩):bz wd pJ φU4 (gS) [.ref 1000000 0,.int .u64 r2.2.2.1] [.arr 1 4 (U4.g r2.2.2.2)]) λr3 q3=>
   .go {env:=[(2,.sl .no 1 n λj=>[.int .u8 (g j)]),(7,.ref 7 0),(8,.int .u64 r2.2.1),(9,.int .i64 (IntKind.wrap .i64 ((↑r2.1:Int)+8)))],objs:=[(7,.arr 1 4 (U4.g r3))]} (r2.1+8,r2.2.1,r3) (F4 hn h1 hv q2) (J6 hn hv h1 q2) (J5 hn hv h1 q2)) λh1=>
  .fi v.2 trivial) (λv L k kn=>by kernel_rfl)
theorem F0 (n:Nat) (g:Nat->Int) (hn:n<=1000000):∃ (u:St->Bool) (w:St->Int×U4),(∀v:Nat×Int×U4,True->aW u w ((λv:Nat×Int×U4=>({env:=[(2,.sl .no 1 n λj=>[.int .u8 (g j)]),(7,.ref 7 0),(8,.int .u64 v.2.1),(53,.int .i64 (Int.tmod n 8)),(54,.int .i64 (v.1:Int))],objs:=[(7,.arr 1 4 v.2.2.g)]}:St)) v) λ_=>True)/\∀C:List (List Nat×Orc),bq (V0.run [eWo,Ai] 1 [] C [] ia) ia [1,1,1,1,0,1,0] (mkO u w (λ(t:Int×U4) k=>k (.exit 4) {env:=[(7,.ref 7 0),(8,.int .u64 t.1)],objs:=[(7,.arr 1 4 t.2.g)]})):=
 bX (V:=V0) (T:=[eWo,Ai]) (d:=1) (W:=[]) (f:=ia) (p:=[1,1,1,1,0,1,0]) (Lf:=λL=>L) (λv:Nat×Int×U4=>{env:=[(2,.sl .no 1 n λj=>[.int .u8 (g j)]),(7,.ref 7 0),(8,.int .u64 v.2.1),(53,.int .i64 (Int.tmod n 8)),(54,.int .i64 (v.1:Int))],objs:=[(7,.arr 1 4 v.2.2.g)]}) (λ_=>True) (λv=>n - v.1) (λ(t:Int×U4) k=>k (.exit 4) {env:=[(7,.ref 7 0),(8,.int .u64 t.1)],objs:=[(7,.arr 1 4 t.2.g)]}) (λ_=>True) (by kernel_rfl) (λv hv=>.b (decide ((↑v.1:Int) < Int.tmod (↑n:Int) 8)) (λh1=>
   .n (c:=within (IntKind.wrap .i64 (IntKind.wrap .i64 ((↑n:Int) - Int.tmod (↑n:Int) 8)+(↑v.1:Int))) n) (FV hn h1) (
   .n (c:=decide (0<=IntKind.wrap .i64 (8*(↑v.1:Int)))) (CT (Nat.lt_of_lt_of_le (yz h1) (F3))) (
   .go {env:=[(2,.sl .no 1 n λj=>[.int .u8 (g j)]),(7,.ref 7 0),(8,.int .u64 (IntKind.wrap IntKind.u64 (↑(BitVec.toNat (BitVec.ofInt (IntKind.bits IntKind.u64) v.2.1 ||| BitVec.ofInt (IntKind.bits IntKind.u64) (IntKind.wrap IntKind.u64 (IntKind.wrap IntKind.u64 (g (Int.toNat (IntKind.wrap .i64 (IntKind.wrap .i64 ((↑n:Int) - Int.tmod (↑n:Int) 8)+(↑v.1:Int)))))*2 ^ min (Int.toNat (IntKind.wrap .i64 (8*(↑v.1:Int)))) (IntKind.bits IntKind.u64))))):Int))),(53,.int .i64 (Int.tmod (↑n:Int) 8)),(54,.int .i64 (IntKind.wrap .i64 ((↑v.1:Int)+1)))],objs:=[(7,.arr 1 4 (U4.g v.2.2))]} (v.1+1,_,v.2.2) trivial (FY hn h1) (FX hn h1)))) λh1=>
  .fi (v.2.1,v.2.2) trivial) (λv L k kn=>by kernel_rfl)
theorem CU (a b:Int) (n:Nat) (g:Nat->Int) (hn:n<=1000000):bz wd ia φU6 De [.int .u64 a,.int .u64 b,.sl .no 1 n λj=>[.int .u8 (g j)]] []:=by
 obtain ⟨ui,wi,hui,hci⟩:=FZ n g hn
 obtain ⟨u1,w1,hu1,hc1⟩:=F1 n g hn hui
 obtain ⟨u2,w2,hu2,hc2⟩:=F0 n g hn
 exact bn (V:=V0) (T:=[eWo,Ai]) (d:=1) 0 (aE (hci _) (aE (hc1 _) (aE (hc2 _) ao))) ak (.lp (s:={env:=[(2,.sl .no 1 n λj=>[.int .u8 (g j)]),(7,.ref 7 0),(8,.int .u64 (IntKind.wrap IntKind.u64 (IntKind.wrap IntKind.u64 (↑n:Int)*2 ^ min (Int.toNat 56) (IntKind.bits IntKind.u64)))),(9,.int .i64 0)],objs:=[(7,.arr 1 4 (ag [.int .u64 0] [(0,.int .u64 (IntKind.wrap IntKind.u64 (↑(BitVec.toNat (BitVec.ofInt (IntKind.bits IntKind.u64) a ^^^ BitVec.ofInt (IntKind.bits IntKind.u64) 8317987319222330741)):Int))),(1,.int .u64 (IntKind.wrap IntKind.u64 (↑(BitVec.toNat (BitVec.ofInt (IntKind.bits IntKind.u64) b ^^^ BitVec.ofInt (IntKind.bits IntKind.u64) 7237128888997146477)):Int))),(2,.int .u64 (IntKind.wrap IntKind.u64 (↑(BitVec.toNat (BitVec.ofInt (IntKind.bits IntKind.u64) a ^^^ BitVec.ofInt (IntKind.bits IntKind.u64) 7816392313619706465)):Int))),(3,.int .u64 (IntKind.wrap IntKind.u64 (↑(BitVec.toNat (BitVec.ofInt (IntKind.bits IntKind.u64) b ^^^ BitVec.ofInt (IntKind.bits IntKind.u64) 8387220255154660723)):Int)))]))]}) (J8 (v8 rfl rfl rfl rfl λ_=>rfl) hu1 _) λr1 q1=>
  .lp (hu2 (0,r1.1,r1.2) trivial) λr2 q2=>
  .call (Cv _ (⟨_,rfl⟩):bz wd pJ φU4 (gS) [.ref 1000000 0,.int .u64 r2.1] [.arr 1 4 (U4.g r2.2)]) λr3 q3=>
  .call (Db (v8 rfl rfl rfl rfl λ_=>rfl) 4 (by decide):bz wd gf φU4 (gS) [.ref 1000000 0,.int .i64 4] [.arr 1 4 λj=>bif Nat.beq j (Int.toNat 2) then [.int .u64 (IntKind.wrap IntKind.u64 (↑(BitVec.toNat (BitVec.ofInt (IntKind.bits IntKind.u64) (U4.c r3) ^^^ BitVec.ofInt (IntKind.bits IntKind.u64) 255)):Int))] else U4.g r3 j]) λr4 q4=>
  .r ((IntKind.wrap IntKind.u64 (↑(BitVec.toNat (BitVec.ofInt (IntKind.bits IntKind.u64) (IntKind.wrap IntKind.u64 (↑(BitVec.toNat (BitVec.ofInt (IntKind.bits IntKind.u64) (IntKind.wrap IntKind.u64 (↑(BitVec.toNat (BitVec.ofInt (IntKind.bits IntKind.u64) (U4.a r4) ^^^ BitVec.ofInt (IntKind.bits IntKind.u64) (U4.b r4))):Int)) ^^^ BitVec.ofInt (IntKind.bits IntKind.u64) (U4.c r4))):Int)) ^^^ BitVec.ofInt (IntKind.bits IntKind.u64) (U4.d r4))):Int))) Cu) (by kernel_rfl)
noncomputable abbrev eSu:Ent:=dK wd ia φU6 De
end Go.WF

namespace Go.WF
open Go Go.Ab Go.Proofs
def ByR (n:Nat) (row:Nat->List AV):Prop:=∀j,j < n->∃x:Int,row j=[.int .u8 x]
theorem Ew {row:Nat->List AV}:ByR 0 row:=λj h=>absurd h (Nat.not_lt_zero _)
theorem Ev (x:Int):ByR 1 (ag [.int .u8 0] [(0,.int .u8 x)]):=λj h=>by
 have:j=0:=by omega
 subst this
 exact ⟨x,rfl⟩
theorem Eu (s:List UInt8):ByR s.length (rowOf s):=λj h=>⟨_,rfl⟩
theorem Ey {n m:Nat} {g g2:Nat->List AV} (h1:ByR n g) (h2:ByR m g2):ByR (n+m) (ar n m g g2):=λj h=>by
 by_cases e:j < n
 ·rw [df e];exact h1 j e
 ·rw [dS (by omega) h];exact h2 _ (by omega)
theorem F2 (a b:Int) {n:Nat} {row:Nat->List AV} (hn:n<=1000000) (h:ByR n row):bz wd ia φU6 De [.int .u64 a,.int .u64 b,.sl .no 1 n row] []:=by
 obtain ⟨x,hx,hc⟩:=CU a b n (λj=>exI (row j)) hn
 refine ⟨x,hx,hc.args rfl rfl λi u u' hu hu' c v hr=>?_⟩
 match i,hu,hu' with
 | 0,hu,hu'=>injection hu with hu;injection hu' with hu';subst hu hu';exact hr
 | 1,hu,hu'=>injection hu with hu;injection hu' with hu';subst hu hu';exact hr
 | 2,hu,hu'=>
  injection hu with hu;injection hu' with hu'
  subst hu hu'
  refine kM hr λj hj=>?_
  obtain ⟨y,hy⟩:=h j hj
  rw [hy];rfl
theorem IZ {n:Nat} (h:n<=400000):Nat.ble n 140737488355328=true:=Nat.ble_eq_true_of_le (by omega)
def rBr (_:List AV) (_:List AO) (x:Int):Prop:=0<=x/\x < 10000
theorem Iv {A:List AV} {os:List AO} {x:Int} (q:De A os x):rBr A os (IntKind.wrap .i64 (Int.tmod x 10000)):=by
 have q:0<=x:=q
 have h1:Int.tmod x 10000=x % 10000:=Int.tmod_eq_emod_of_nonneg q
 have h2:=Int.emod_nonneg x (show (10000:Int)≠0 by decide)
 have h3:=Int.emod_lt_of_pos x (show (0:Int) < 10000 by decide)
 rw [h1]
 show 0<=IntKind.wrap .i64 (x % 10000)/\IntKind.wrap .i64 (x % 10000) < 10000
 rw [wrap_i64 (by omega) (by omega)]
 exact ⟨h2,h3⟩
theorem B8 (a b:TX) (ha:a.length<=400000) (hb:b.length<=400000):bz wd nT φIn rBr [.str a,.str b] []:=
 bn (V:=V0) (T:=[eSu]) (d:=12) 0 ao ak (.n (c:=Nat.ble (List.length a) 140737488355328) (IZ ha) (
  .n (c:=Nat.ble (List.length b) 140737488355328) (IZ hb) (
  .n (c:=roomy 1 (0+1+1+1+1+1+1+1+1+List.length a)&&Nat.beq (0+1+1+1+1+1+1+1+1) (0+1+1+1+1+1+1+1+1)) (bd (by omega)) (
  .n (c:=roomy 1 (0+1+1+1+1+1+1+1+1+List.length a+1)&&Nat.beq (0+1+1+1+1+1+1+1+1+List.length a) (0+1+1+1+1+1+1+1+1+List.length a)) (bd (by omega)) (
  .n (c:=roomy 1 (0+1+1+1+1+1+1+1+1+List.length a+1+1)&&Nat.beq (0+1+1+1+1+1+1+1+1+List.length a+1) (0+1+1+1+1+1+1+1+1+List.length a+1)) (bd (by omega)) (
  .n (c:=roomy 1 (0+1+1+1+1+1+1+1+1+List.length a+1+1+1)&&Nat.beq (0+1+1+1+1+1+1+1+1+List.length a+1+1) (0+1+1+1+1+1+1+1+1+List.length a+1+1)) (bd (by omega)) (
  .n (c:=roomy 1 (0+1+1+1+1+1+1+1+1+List.length a+1+1+1+1)&&Nat.beq (0+1+1+1+1+1+1+1+1+List.length a+1+1+1) (0+1+1+1+1+1+1+1+1+List.length a+1+1+1)) (bd (by omega)) (
  .n (c:=roomy 1 (0+1+1+1+1+1+1+1+1+List.length a+1+1+1+1+1)&&Nat.beq (0+1+1+1+1+1+1+1+1+List.length a+1+1+1+1) (0+1+1+1+1+1+1+1+1+List.length a+1+1+1+1)) (bd (by omega)) (
  .n (c:=roomy 1 (0+1+1+1+1+1+1+1+1+List.length a+1+1+1+1+1+1)&&Nat.beq (0+1+1+1+1+1+1+1+1+List.length a+1+1+1+1+1) (0+1+1+1+1+1+1+1+1+List.length a+1+1+1+1+1)) (bd (by omega)) (
  .n (c:=roomy 1 (0+1+1+1+1+1+1+1+1+List.length a+1+1+1+1+1+1+1)&&Nat.beq (0+1+1+1+1+1+1+1+1+List.length a+1+1+1+1+1+1) (0+1+1+1+1+1+1+1+1+List.length a+1+1+1+1+1+1)) (bd (by omega)) (
  .n (c:=roomy 1 (0+1+1+1+1+1+1+1+1+List.length a+1+1+1+1+1+1+1+1)&&Nat.beq (0+1+1+1+1+1+1+1+1+List.length a+1+1+1+1+1+1+1) (0+1+1+1+1+1+1+1+1+List.length a+1+1+1+1+1+1+1)) (bd (by omega)) (
  .n (c:=roomy 1 (0+1+1+1+1+1+1+1+1+List.length a+1+1+1+1+1+1+1+1+List.length b)&&Nat.beq (0+1+1+1+1+1+1+1+1+List.length a+1+1+1+1+1+1+1+1) (0+1+1+1+1+1+1+1+1+List.length a+1+1+1+1+1+1+1+1)) (bd (by omega)) (
  .call (F2 _ _ (by omega) (by repeat (first | exact Eu _ | exact Ev _ | exact Ew | apply Ey)):bz wd ia φU6 (De) [.int .u64 1,.int .u64 0,.sl .no 1 (0+1+1+1+1+1+1+1+1+List.length a+1+1+1+1+1+1+1+1+List.length b) (ar (0+1+1+1+1+1+1+1+1+List.length a+1+1+1+1+1+1+1+1) (List.length b) (ar (0+1+1+1+1+1+1+1+1+List.length a+1+1+1+1+1+1+1) 1 (ar (0+1+1+1+1+1+1+1+1+List.length a+1+1+1+1+1+1) 1 (ar (0+1+1+1+1+1+1+1+1+List.length a+1+1+1+1+1) 1 (ar (0+1+1+1+1+1+1+1+1+List.length a+1+1+1+1) 1 (ar (0+1+1+1+1+1+1+1+1+List.length a+1+1+1) 1 (ar (0+1+1+1+1+1+1+1+1+List.length a+1+1) 1 (ar (0+1+1+1+1+1+1+1+1+List.length a+1) 1 (ar (0+1+1+1+1+1+1+1+1+List.length a) 1 (ar (0+1+1+1+1+1+1+1+1) (List.length a) (ar (0+1+1+1+1+1+1+1) 1 (ar (0+1+1+1+1+1+1) 1 (ar (0+1+1+1+1+1) 1 (ar (0+1+1+1+1) 1 (ar (0+1+1+1) 1 (ar (0+1+1) 1 (ar (0+1) 1 (ar 0 1 (λx=>[.int .u8 0]) (ag [.int .u8 0] [(0,.int .u8 (IntKind.wrap IntKind.u8 (Int.fdiv (IntKind.wrap IntKind.u64 (↑(List.length a):Int)) (2 ^ min (Int.toNat (IntKind.wrap .i64 (8*7))) (IntKind.bits IntKind.u64)))))])) (ag [.int .u8 0] [(0,.int .u8 (IntKind.wrap IntKind.u8 (Int.fdiv (IntKind.wrap IntKind.u64 (↑(List.length a):Int)) (2 ^ min (Int.toNat (IntKind.wrap .i64 (8*IntKind.wrap .i64 (7 - 1)))) (IntKind.bits IntKind.u64)))))])) (ag [.int .u8 0] [(0,.int .u8 (IntKind.wrap IntKind.u8 (Int.fdiv (IntKind.wrap IntKind.u64 (↑(List.length a):Int)) (2 ^ min (Int.toNat (IntKind.wrap .i64 (8*IntKind.wrap .i64 (IntKind.wrap .i64 (7 - 1) - 1)))) (IntKind.bits IntKind.u64)))))])) (ag [.int .u8 0] [(0,.int .u8 (IntKind.wrap IntKind.u8 (Int.fdiv (IntKind.wrap IntKind.u64 (↑(List.length a):Int)) (2 ^ min (Int.toNat (IntKind.wrap .i64 (8*IntKind.wrap .i64 (IntKind.wrap .i64 (IntKind.wrap .i64 (7 - 1) - 1) - 1)))) (IntKind.bits IntKind.u64)))))])) (ag [.int .u8 0] [(0,.int .u8 (IntKind.wrap IntKind.u8 (Int.fdiv (IntKind.wrap IntKind.u64 (↑(List.length a):Int)) (2 ^ min (Int.toNat (IntKind.wrap .i64 (8*IntKind.wrap .i64 (IntKind.wrap .i64 (IntKind.wrap .i64 (IntKind.wrap .i64 (7 - 1) - 1) - 1) - 1)))) (IntKind.bits IntKind.u64)))))])) (ag [.int .u8 0] [(0,.int .u8 (IntKind.wrap IntKind.u8 (Int.fdiv (IntKind.wrap IntKind.u64 (↑(List.length a):Int)) (2 ^ min (Int.toNat (IntKind.wrap .i64 (8*IntKind.wrap .i64 (IntKind.wrap .i64 (IntKind.wrap .i64 (IntKind.wrap .i64 (IntKind.wrap .i64 (7 - 1) - 1) - 1) - 1) - 1)))) (IntKind.bits IntKind.u64)))))])) (ag [.int .u8 0] [(0,.int .u8 (IntKind.wrap IntKind.u8 (Int.fdiv (IntKind.wrap IntKind.u64 (↑(List.length a):Int)) (2 ^ min (Int.toNat (IntKind.wrap .i64 (8*IntKind.wrap .i64 (IntKind.wrap .i64 (IntKind.wrap .i64 (IntKind.wrap .i64 (IntKind.wrap .i64 (IntKind.wrap .i64 (7 - 1) - 1) - 1) - 1) - 1) - 1)))) (IntKind.bits IntKind.u64)))))])) (ag [.int .u8 0] [(0,.int .u8 (IntKind.wrap IntKind.u8 (Int.fdiv (IntKind.wrap IntKind.u64 (↑(List.length a):Int)) (2 ^ min (Int.toNat (IntKind.wrap .i64 (8*IntKind.wrap .i64 (IntKind.wrap .i64 (IntKind.wrap .i64 (IntKind.wrap .i64 (IntKind.wrap .i64 (IntKind.wrap .i64 (IntKind.wrap .i64 (7 - 1) - 1) - 1) - 1) - 1) - 1) - 1)))) (IntKind.bits IntKind.u64)))))])) (rowOf a)) (ag [.int .u8 0] [(0,.int .u8 (IntKind.wrap IntKind.u8 (Int.fdiv (IntKind.wrap IntKind.u64 (↑(List.length b):Int)) (2 ^ min (Int.toNat (IntKind.wrap .i64 (8*7))) (IntKind.bits IntKind.u64)))))])) (ag [.int .u8 0] [(0,.int .u8 (IntKind.wrap IntKind.u8 (Int.fdiv (IntKind.wrap IntKind.u64 (↑(List.length b):Int)) (2 ^ min (Int.toNat (IntKind.wrap .i64 (8*IntKind.wrap .i64 (7 - 1)))) (IntKind.bits IntKind.u64)))))])) (ag [.int .u8 0] [(0,.int .u8 (IntKind.wrap IntKind.u8 (Int.fdiv (IntKind.wrap IntKind.u64 (↑(List.length b):Int)) (2 ^ min (Int.toNat (IntKind.wrap .i64 (8*IntKind.wrap .i64 (IntKind.wrap .i64 (7 - 1) - 1)))) (IntKind.bits IntKind.u64)))))])) (ag [.int .u8 0] [(0,.int .u8 (IntKind.wrap IntKind.u8 (Int.fdiv (IntKind.wrap IntKind.u64 (↑(List.length b):Int)) (2 ^ min (Int.toNat (IntKind.wrap .i64 (8*IntKind.wrap .i64 (IntKind.wrap .i64 (IntKind.wrap .i64 (7 - 1) - 1) - 1)))) (IntKind.bits IntKind.u64)))))])) (ag [.int .u8 0] [(0,.int .u8 (IntKind.wrap IntKind.u8 (Int.fdiv (IntKind.wrap IntKind.u64 (↑(List.length b):Int)) (2 ^ min (Int.toNat (IntKind.wrap .i64 (8*IntKind.wrap .i64 (IntKind.wrap .i64 (IntKind.wrap .i64 (IntKind.wrap .i64 (7 - 1) - 1) - 1) - 1)))) (IntKind.bits IntKind.u64)))))])) (ag [.int .u8 0] [(0,.int .u8 (IntKind.wrap IntKind.u8 (Int.fdiv (IntKind.wrap IntKind.u64 (↑(List.length b):Int)) (2 ^ min (Int.toNat (IntKind.wrap .i64 (8*IntKind.wrap .i64 (IntKind.wrap .i64 (IntKind.wrap .i64 (IntKind.wrap .i64 (IntKind.wrap .i64 (7 - 1) - 1) - 1) - 1) - 1)))) (IntKind.bits IntKind.u64)))))])) (ag [.int .u8 0] [(0,.int .u8 (IntKind.wrap IntKind.u8 (Int.fdiv (IntKind.wrap IntKind.u64 (↑(List.length b):Int)) (2 ^ min (Int.toNat (IntKind.wrap .i64 (8*IntKind.wrap .i64 (IntKind.wrap .i64 (IntKind.wrap .i64 (IntKind.wrap .i64 (IntKind.wrap .i64 (IntKind.wrap .i64 (7 - 1) - 1) - 1) - 1) - 1) - 1)))) (IntKind.bits IntKind.u64)))))])) (ag [.int .u8 0] [(0,.int .u8 (IntKind.wrap IntKind.u8 (Int.fdiv (IntKind.wrap IntKind.u64 (↑(List.length b):Int)) (2 ^ min (Int.toNat (IntKind.wrap .i64 (8*IntKind.wrap .i64 (IntKind.wrap .i64 (IntKind.wrap .i64 (IntKind.wrap .i64 (IntKind.wrap .i64 (IntKind.wrap .i64 (IntKind.wrap .i64 (7 - 1) - 1) - 1) - 1) - 1) - 1) - 1)))) (IntKind.bits IntKind.u64)))))])) (rowOf b))] []) λr1 q1=>
  .r (IntKind.wrap .i64 (Int.tmod r1 10000)) (Iv q1)))))))))))))) (by kernel_rfl)
open Classical in
noncomputable def bkF (a b:TX):Int:=if h:a.length<=400000/\b.length<=400000 then (B8 a b h.1 h.2).choose else 0
theorem uK (a b:TX):0<=bkF a b/\bkF a b < 10000:=by
 unfold bkF
 split
 ·rename_i h;exact (B8 a b h.1 h.2).choose_spec.1
 ·exact ⟨Int.le_refl _,by decide⟩
def rBk (A:List AV) (_:List AO) (x:Int):Prop:=∀a b,A=[.str a,.str b]->x=bkF a b
theorem eA (a b:TX) (ha:a.length<=400000) (hb:b.length<=400000):bz wd nT φIn rBk [.str a,.str b] []:=by
 refine ⟨bkF a b,λa' b' e=>?_,?_⟩
 ·simp only [List.cons.injEq,AV.str.injEq,and_true] at e
  rw [e.1,e.2]
 ·unfold bkF
  rw [dif_pos ⟨ha,hb⟩]
  exact (B8 a b ha hb).choose_spec.2
noncomputable abbrev BV:Ent:=dK wd nT φIn rBk
end Go.WF

namespace Go.Ab
open Go Go.RowKit
theorem y5 {P:Program} {G:Nat->Option (List AV)} {hf:FuncId} {caps:List AV} {os:List AO} {row:Nat->List AV} (hv:Ao (af os ae)) (h:∀y:Value,lA P G hf (.raw y::caps) os (.tup []) os) (hk:∀k∈au caps,live (af os ae) k):rD P G hf caps (af os ae) 0 row:=by
 intro l vs J hJ hst _ c hj
 obtain ⟨hg,ho,hs,hr⟩:=hJ 0 c hj
 have e0:(#[Value.func (.yield l) #[] #[]]++vs).getD 0 undef=.func (.yield l) #[] #[]:=by simp [Array.getD_eq_getD_getElem?,Array.getElem?_append]
 have e1:∀i,(#[Value.func (.yield l) #[] #[]]++vs).getD (i+1) undef=vs.getD i undef:=λi=>by simp [Array.getD_eq_getD_getElem?,Array.getElem?_append]
 have hsz:(#[Value.func (.yield l) #[] #[]]++vs).size=(AV.raw (.func (.yield l) #[] #[])::caps).length:=by simp [hs];omega
 have hreps:∀ (i:Nat) (u:AV),(AV.raw (.func (.yield l) #[] #[])::caps)[i]?=some u->Rep c u ((#[Value.func (.yield l) #[] #[]]++vs).getD i undef):=λi u hu=>by
  cases i with
  | zero=>
   have hu:some (AV.raw (.func (.yield l) #[] #[]))=some u:=hu
   rw [<-Option.some.inj hu,e0];exact .raw _
  | succ i=>rw [e1];exact hr i u hu
 have hkeys:∀k∈au (AV.raw (.func (.yield l) #[] #[])::caps),live (af os ae) k:=λk hk'=>hk k (by simpa only [au,AV.keys,List.nil_append] using hk')
 have h1:=h (.func (.yield l) #[] #[]) c _ hg ho hsz hreps hkeys
 refine callsIn_wide.2 (h1.mono ?_)
 generalize af os ae=ol at *
 rintro e w' ⟨c',x,rfl,rfl,g,f,o,_,_,m⟩
 have hrel:Rel (itB G 0 c ol) c' ⟨[],ol⟩ {tmps:=#[],defers:=[]}:=⟨g,⟨f.os,f.output,f.tape,f.size,f.block,f.ext,f.new⟩,o,(λt v ht=>by cases ht),(λt v ht=>by cases ht),m,rfl,trivial,λk hk=>hk⟩
 exact ⟨⟨x,rfl⟩,{c with w:=c'.w,I:=c'.I},rfl,hst 0 c _ hj (quiet_of ho hv hrel λ_ _ h=>h).1⟩
end Go.Ab
namespace Go.WF
open Go Go.Ab Go.Proofs
def φAq (_:Unit):AV×List AO:=(.sl .no 1 0 λx=>[.str [] ],[.cells [.sl .no 1 0 λx=>[.str [] ] ] ])
def φVs (_:Unit):AV×List AO:=(.fn az [] [.ref ae 0],[.cells [.sl .no 1 0 λx=>[.str [] ] ] ])
def φVo (_:Unit):AV×List AO:=(.tup [],[])
def φNl (_:Unit):AV×List AO:=(.sl .no 1 0 λx=>[.str [] ],[])
def φOr (_:Unit):AV×List AO:=(.tup [.sl .no 1 0 λx=>[.str [] ],.int .i64 0],[])
theorem Ct.IH {P:Program} {G:Nat->Option (List AV)} {f:FuncId} {l l':List AV} {os:List AO} {r:AV×List AO} (h:Ct P G f l os r) (hl:l'.length=l.length) (hk:∀k∈au l,k∈au l')
  (hw:∀ (i:Nat) (u u':AV),l[i]?=some u->l'[i]?=some u'->∀c v,Rep c u' v->Rep c u v):Ct P G f l' os r:=by
 refine ⟨λc0 vs hg ho hs hr hlv=>h.1 c0 vs hg ho (by rw [hs,hl]) (λi u hu=>?_) (λk hk'=>hlv k (hk k hk')),h.2⟩
 have hlt:=(List.getElem?_eq_some_iff.1 hu).1
 have hu':l'[i]?=some (l'[i]'(by omega)):=List.getElem?_eq_getElem _
 exact hw i u _ hu hu' c0 _ (hr i _ hu')
theorem uF {P:Program} {G:Nat->Option (List AV)} {f:FuncId} {g:Nat->List AV} {r:AV} {res:Option Addr->Nat->Value} (hf:∃fn,P.funcs[f]?=some fn/\(fn.name=="runtime.NumGoroutine")=false/\fn.body.isSome=true) (h:∀p cap w,Calls P f #[.slice p 0 cap] w λe w'=>e=.returned (res p cap)/\w'=w) (hr:∀c p cap,Rep c (.sl .no 1 0 g) (.slice p 0 cap)->Rep c r (res p cap)) (hk:r.keys=[]):Ct P G f [.sl .no 1 0 g] [] (r,[]):=by
 refine ⟨λc vs hg ho hs hv _=>?_,hf⟩
 have hx:Rep c (.sl .no 1 0 g) (vs.getD 0 undef):=hv 0 _ rfl
 have hvs:vs=#[vs.getD 0 undef]:=by
  have hs:vs.size=1:=hs
  apply Array.ext (by simpa using hs)
  intro i h1 h2
  have hi:i=0:=by omega
  subst hi
  simp [Array.getD_eq_getD_getElem?,h1]
 obtain ⟨p,cap,e⟩:∃p cap,vs.getD 0 undef=.slice p 0 cap:=by
  generalize vs.getD 0 undef=x at hx
  cases hx with
  | slNil=>exact ⟨none,0,rfl⟩
  | sl _ _ _ _ a cap=>exact ⟨some a,cap,rfl⟩
 rw [e] at hx hvs
 rw [hvs]
 refine (h p cap c.w).mono ?_
 rintro e w' ⟨rfl,rfl⟩
 exact ⟨c,_,rfl,rfl,hg,⟨rfl,rfl,rfl,Nat.le_refl _,λ_ _ _=>rfl,Ext.refl _ _,λ_ _ _ _ h=>h⟩,ho,hr c p cap hx,(λk h=>by rw [hk] at h;cases h),λk o b hk _=>by simp [af,alook] at hk⟩
theorem CW:bz wd bF φVo gS [.sl .no 1 0 λx=>[.str [] ]] []:=⟨(),trivial,uF (res:=λ_ _=>.tuple #[]) ⟨_,Tryz.func63,by kernel_rfl,by kernel_rfl⟩ (λp cap w=>Tryz.slices_Sort_string_none p cap w) (λc p cap _=>.tup _ _ rfl (by simp)) rfl⟩
theorem Eo:bz wd aX φNl gS [.sl .no 1 0 λx=>[.str [] ]] []:=⟨(),trivial,uF (res:=λp cap=>.slice p 0 cap) ⟨_,Tryz.func64,by kernel_rfl,by kernel_rfl⟩ (λp cap w=>Tryz.slices_Compact_string_empty p cap w) (λc p cap h=>h) rfl⟩
theorem Im:Tr (.sl .fit 0 0 λx=>[],[]) (φNl ()):=.one cz
theorem Il:Tr (.sl .no 1 0 (ar 0 0 (ag [.str []] []) λx=>[.str [] ]),[]) (φNl ()):=.one cz
theorem Io:bz wd cJ φNl gS [.sl .no 1 0 λx=>[.str [] ]] []:=by
 have h1:bz wd cJ φNl (rE ()) [.sl .nl 1 0 λx=>[.str [] ] ] []:=bn (V:=V0) (T:=[]) (d:=1) 0 ao ak (.t () rfl Im) (by kernel_rfl)
 have h2:bz wd cJ φNl (rE ()) [.sl .nn 1 0 λx=>[.str [] ] ] []:=bn (V:=V0) (T:=[]) (d:=1) 0 ao ak (.t () rfl Il) (by kernel_rfl)
 exact ⟨(),trivial,uE (λ_=>h1.ctE) h2.ctE⟩
def φVc (_:Unit):AV×List AO:=(.tup [],[.cells [.sl .no 1 0 λx=>[.str [] ]] ])
theorem FA (y:Value):bz wd az φVc gS [.raw y,.ref ae 0] [.cells [.sl .no 1 0 λx=>[.str [] ]] ]:=
 bn (V:=V0) (T:=[]) (d:=2) 0 ao ak (.r () trivial) (by kernel_rfl)
theorem CF (y:Value):Ct wd.P wd.G az [.raw y,.ref ae 0] [.cells [.sl .no 1 0 λx=>[.str [] ]] ] (.tup [],[.cells [.sl .no 1 0 λx=>[.str [] ]] ]):=by
 obtain ⟨_,_,h⟩:=FA y
 exact h
theorem IP:Ao (af [.cells [.sl .no 1 0 λx=>[.str [] ]] ] ae):=λk o hk=>by
 simp only [af,alook] at hk
 cases e:Nat.beq ae k with
 | true=>rw [e] at hk;cases Option.some.inj hk;exact ⟨_,rfl,rfl⟩
 | false=>rw [e] at hk;cases hk
theorem EM:∃ (u:St->Bool) (w:St->Unit),(∀v:Unit,True->(0:Nat)=0->aW u w {env:=[(0,.sl .no 1 0 λx=>[.str [] ]),(1,.fn az [] [.ref 1000000 0]),(2,.ref 2 0),(4,.sl .fit 0 0 λx=>[]),(6,.fn az [] [.ref 1000000 0])],objs:=[(1000000,.cells [.sl .no 1 0 λx=>[.str [] ]]),(2,.cells [.sl .no 1 0 λx=>[.str [] ]])]} λ_=>True)/\∀C:List (List Nat×Orc),mP (V0.run [] 1 C [] [] bI) bI [1,0,1,0] (mkO u w (λ(t:Unit) k=>k .nor {env:=[(0,.sl .no 1 0 λx=>[.str [] ]),(1,.fn az [] [.ref 1000000 0]),(2,.ref 2 0),(4,.sl .fit 0 0 λx=>[]),(6,.fn az [] [.ref 1000000 0])],objs:=[(1000000,.cells [.sl .no 1 0 λx=>[.str [] ]]),(2,.cells [.sl .no 1 0 λx=>[.str [] ]])]})):=
 zV (D:=wd) (V:=V0) (T:=[]) (d:=1) (Cf:=λC=>C) (Lf:=λ_=>[]) (W:=[]) (by kernel_rfl) (N:=0) (row:=λ_=>[.str [] ]) (y5 (os:=[.cells [.sl .no 1 0 λx=>[.str [] ]] ]) IP (λy=>(CF y).1) (λk hk=>by
  have hk:k=ae:=by simpa [au,AV.keys] using hk
  subst hk;exact ⟨_,rfl⟩)) (CF default).2 (λj h=>absurd h (Nat.not_lt_zero _)) IP (hn [2,6] [1000000,2] [] []) (λ_:Unit=>{env:=[(0,.sl .no 1 0 λx=>[.str [] ]),(1,.fn az [] [.ref 1000000 0]),(2,.ref 2 0),(4,.sl .fit 0 0 λx=>[]),(6,.fn az [] [.ref 1000000 0])],objs:=[(1000000,.cells [.sl .no 1 0 λx=>[.str [] ]]),(2,.cells [.sl .no 1 0 λx=>[.str [] ]])]}) (λ_=>0) (λ_=>True) (λ_=>0) (λ(t:Unit) k=>k .nor {env:=[(0,.sl .no 1 0 λx=>[.str [] ]),(1,.fn az [] [.ref 1000000 0]),(2,.ref 2 0),(4,.sl .fit 0 0 λx=>[]),(6,.fn az [] [.ref 1000000 0])],objs:=[(1000000,.cells [.sl .no 1 0 λx=>[.str [] ]]),(2,.cells [.sl .no 1 0 λx=>[.str [] ]])]}) (λ_=>True) (λv _=>⟨by kernel_rfl,λq hq=>by
   have hq:q=(ae,.cells [.sl .no 1 0 λx=>[.str [] ]] ):=by simpa [af] using hq
   subst hq;rfl⟩) (λv hv=>.fi () trivial) (λv i k kn=>by kernel_rfl)
theorem II:bz wd bI φAq gS [.sl .no 1 0 λx=>[.str [] ],.fn az [] [.ref ae 0] ] [.cells [.sl .no 1 0 λx=>[.str [] ]] ]:=by
 obtain ⟨u,w,hu,hc⟩:=EM
 exact vE (V:=V0) (T:=[]) (d:=1) 0 (C:=[([1,0,1,0],mkO u w (λ(t:Unit) k=>k .nor {env:=[(0,.sl .no 1 0 λx=>[.str [] ]),(1,.fn az [] [.ref 1000000 0]),(2,.ref 2 0),(4,.sl .fit 0 0 λx=>[]),(6,.fn az [] [.ref 1000000 0])],objs:=[(1000000,.cells [.sl .no 1 0 λx=>[.str [] ]]),(2,.cells [.sl .no 1 0 λx=>[.str [] ]])]}))]) (L:=[]) (W:=[]) (λe he=>by rw [List.mem_singleton.1 he];exact hc _) ao ak (.lp (hu () trivial rfl) λr1 q1=>
  .r () trivial) (by kernel_rfl)
theorem EN:bz wd bI φAq gS [.sl .fit 0 0 λx=>[],.fn az [] [.ref ae 0] ] [.cells [.sl .no 1 0 λx=>[.str [] ]] ]:=by
 obtain ⟨x,hx,hc⟩:=II
 refine ⟨x,hx,Ct.IH hc rfl (λk hk=>hk) λi u u' hu hu' c v hr=>?_⟩
 match i,hu,hu' with
 | 0,hu,hu'=>injection hu with hu;injection hu' with hu';subst hu hu';exact cz.2 c v hr
 | 1,hu,hu'=>injection hu with hu;injection hu' with hu';subst hu hu';exact hr
noncomputable abbrev eAq:Ent:=dK wd bI φAq gS
theorem Ik:bz wd gN φAq gS [.fn az [] [.ref ae 0] ] [.cells [.sl .no 1 0 λx=>[.str [] ]] ]:=
 bn (V:=V0) (T:=[eAq]) (d:=3) 0 ao ak (.call (EN) λr1 q1=>
  .r () trivial) (by kernel_rfl)
noncomputable abbrev eCo:Ent:=dK wd gN φAq gS
noncomputable abbrev eSn:Ent:=dK wd bF φVo gS
theorem Gd:bz wd iT φAq gS [.fn az [] [.ref ae 0] ] [.cells [.sl .no 1 0 λx=>[.str [] ]] ]:=
 bn (V:=V0) (T:=[eCo,eSn]) (d:=2) 0 ao ak (.call (Ik) λr1 q1=>
  .call (CW) λr2 q2=>
  .r () trivial) (by kernel_rfl)
noncomputable abbrev eSd:Ent:=dK wd iT φAq gS
theorem Fy:bz wd eN φVs gS [.sl .no 1 0 λx=>[.str [] ]] []:=
 bn (V:=V0) (T:=[]) (d:=2) 1 ao ak (.r () trivial) (by kernel_rfl)
noncomputable abbrev eVs:Ent:=dK wd eN φVs gS
noncomputable abbrev eCn:Ent:=dK wd cJ φNl gS
noncomputable abbrev eC0:Ent:=dK wd aX φNl gS
theorem Ds:bz wd kp φOr gS [.sl .no 1 0 λx=>[.str [] ],.sl .no 1 0 λx=>[.str [] ]] []:=
 bn (V:=V0) (T:=[eVs,eSd,eCn,eC0]) (d:=8) 0 ao ak (.call (Fy) λr1 q1=>
  .call (Gd) λr2 q2=>
  .call (Io) λr3 q3=>
  .call (Eo) λr4 q4=>
  .r () trivial) (by kernel_rfl)
theorem GI:bz wd kp φOr gS [.sl .no 1 0 λx=>[.str [] ],.sl .no 2 0 λx=>[.str [],.str [] ] ] []:=by
 obtain ⟨x,hx,hc⟩:=Ds
 refine ⟨x,hx,hc.args rfl rfl λi u u' hu hu' c v hr=>?_⟩
 match i,hu,hu' with
 | 0,hu,hu'=>injection hu with hu;injection hu' with hu';subst hu hu';exact hr
 | 1,hu,hu'=>injection hu with hu;injection hu' with hu';subst hu hu';exact cz.2 c v hr
noncomputable abbrev eOr:Ent:=dK wd kp φOr gS
theorem Hk (g:Nat->List AV):bz wd fV φNl gS [.sl .no 1 0 λx=>[.str [] ],.agg [.sl .no 3 1 g] ] []:=
 bn (V:=V0) (T:=[eOr,eSn]) (d:=8) 0 ao ak (.call (GI) λr1 q1=>
  .call (CW) λr2 q2=>
  .r () trivial) (by kernel_rfl)
noncomputable abbrev eMb:Ent:=dK wd fV φNl gS
end Go.WF

namespace Go.WF
open Go Go.Ab Go.Proofs
structure AG where
 exp:TX
 bk:Int
 arm:Int
 held:Bool
instance:Inhabited AG:=⟨⟨[],0,0,false⟩⟩
def φLy (x:AG):AV×List AO:=(.tup [.agg [.str aI,.str x.exp,.int .i64 x.bk,.int .i64 x.arm,.bool x.held],.int .i64 0],[])
def usR (a:TX) (_:Nat):List AV:=[.str [117,115,101,114],.str a,.sl .fit 0 0 λx=>[] ]
def usA (a:TX):AV:=.agg [.sl .no 3 1 (usR a)]
structure EVP.Ok (p:EVP):Prop where
 s1:p.s1.length<=400000
 s3:p.s3.length<=400000
 s5:p.s5.length<=400000
theorem iU (g:Nat->List AV):bz wd fV φNl gS [.sl .fit 0 0 λx=>[],.agg [.sl .no 3 1 g] ] []:=by
 obtain ⟨x,hx,hc⟩:=Hk g
 refine ⟨x,hx,hc.args rfl rfl λi u u' hu hu' c v hr=>?_⟩
 match i,hu,hu' with
 | 0,hu,hu'=>injection hu with hu;injection hu' with hu';subst hu hu';exact cz.2 c v hr
 | 1,hu,hu'=>injection hu with hu;injection hu' with hu';subst hu hu';exact hr
def arms (p:EVP):List SPN:=[⟨0,p.a1,1⟩,⟨p.a1,p.a2,2⟩,⟨p.a2,10000,3⟩]
def EL (p:EVP):Nat->List AV:=ag [.int .i64 0,.int .i64 0,.int .i64 0] [(0,.agg [.int .i64 0,.int .i64 p.a1,.int .i64 1]),(1,.agg [.int .i64 p.a1,.int .i64 p.a2,.int .i64 2]),(2,.agg [.int .i64 p.a2,.int .i64 10000,.int .i64 3])]
theorem uL {p q:EVP} (h:EL p=EL q):arms p=arms q:=by
 have h0:[AV.int .i64 0,.int .i64 p.a1,.int .i64 1]=[AV.int .i64 0,.int .i64 q.a1,.int .i64 1]:=congrFun h 0
 have h1:[AV.int .i64 p.a1,.int .i64 p.a2,.int .i64 2]=[AV.int .i64 q.a1,.int .i64 q.a2,.int .i64 2]:=congrFun h 1
 simp only [List.cons.injEq,AV.int.injEq,true_and,and_true] at h0 h1
 unfold arms
 rw [h0,h1.2]
def GA (A:List AV) (_:List AO) (x:Int):Prop:=∀p b,A=[.sl .fit 3 3 (EL p),.int .i64 b]->x=pkF (arms p) b
theorem fY (p:EVP) (b:Int):bz wd gg φIn GA [.sl .fit 3 3 (EL p),.int .i64 b] []:=by
 obtain ⟨x,hx,hc⟩:=GG (arms p) b (by show (3:Nat)<=_;decide)
 refine ⟨x,λp' b' e=>?_,hc.args rfl rfl λi u u' hu hu' c v hr=>?_⟩
 ·simp only [List.cons.injEq,AV.sl.injEq,AV.int.injEq,true_and,and_true] at e
  rw [hx _ _ rfl,uL e.1,e.2]
 match i,hu,hu' with
 | 0,hu,hu'=>
  injection hu with hu;injection hu' with hu'
  subst hu hu'
  exact kM hr λj hj=>by
   match j,hj with
   | 0,_=>rfl
   | 1,_=>rfl
   | 2,_=>rfl
 | 1,hu,hu'=>injection hu with hu;injection hu' with hu';subst hu hu';exact hr
def lyG (b:Int) (f:FOX) (ru:Bool) (ho c k3 k5:Int):AG:=
 cond (bif f.2 then bif f.1.exp==[] then true else ru else false)
  (cond (!f.1.exp==[]) (AG.mk f.1.exp b f.1.arm false) (AG.mk [] b 0 false))
  (cond (decide (b < ho)) (AG.mk [] b 0 true)
   (cond (bif decide (ho<=b) then decide (b < c) else false) (AG.mk lu b k3 false)
    (cond (bif decide (c<=b) then decide (b < 10000) else false) (AG.mk gy b k5 false) (AG.mk [] b 0 false))))
def LyR (p:EVP) (a:TX) (l:List FD) (x:AG):Prop:=∃ru:Bool,(FdG (foF l aI).1->ru=true)/\x=lyG (bkF p.s1 a) (foF l aI) ru p.ho p.c (pkF (arms p) (bkF p.s3 a)) (pkF (arms p) (bkF p.s5 a))
def rLy (R:AG->Prop) (_:List AV) (_:List AO) (x:AG):Prop:=R x
theorem od {p:EVP} {a:TX} {l:List FD} {r1:Int} {r2:FOX} {r3:Bool} {x:AG} {A:List AV} {os:List AO} (q1:r1=bkF p.s1 a) (q2:r2=foF l aI) (q3:FdG r2.1->r3=true) (h:x=lyG r1 r2 r3 p.ho p.c (pkF (arms p) (bkF p.s3 a)) (pkF (arms p) (bkF p.s5 a))):rLy (LyR p a l) A os x:=by
 subst q1 q2
 exact ⟨r3,q3,h⟩
noncomputable abbrev Ej:Ent:=dK wd gg φIn GA
theorem z6 (p:EVP) (a:TX) (l:List FD) (hp:p.Ok) (ha:a.length<=400000) (hl:l.length<=1000000):bz wd dH φLy (rLy (LyR p a l)) [ik p,usA a,fdA l,.str aI] []:=
 bn (V:=Vb [22,23,24,25] [] []) (T:=[BV,eMb,L3,Ej,eRu]) (d:=16) 0 ao ak (.call (eA p.s1 a hp.s1 ha) λr1 q1=>
  .call (HH l aI hl) λr2 q2=>
  .call (Gu p r2.1) λr3 q3=>
  .b (bif r2.2 then bif FD.exp r2.1==[] then true else r3 else false) (λh4=>
   .b (!FD.exp r2.1==[]) (λh5=>
    .r (AG.mk (FD.exp r2.1) r1 (FD.arm r2.1) false) (od (q1 _ _ rfl) (q2 _ _ rfl) (q3 _ rfl) (by first | (rw [h7] at h12;exact absurd h12 (by decide)) | (rw [h14] at h19;exact absurd h19 (by decide)) | (rw [h23] at h28;exact absurd h28 (by decide)) | (have h6:decide (r1 < EVP.ho p)=true:=h6;unfold lyG;simp only [*,cond_true,cond_false]) | (have h6:decide (r1 < EVP.ho p)=false:=h6;unfold lyG;simp only [*,cond_true,cond_false]) | (unfold lyG;simp only [*,cond_true,cond_false])))) λh5=>
   .r (AG.mk [] r1 0 false) (od (q1 _ _ rfl) (q2 _ _ rfl) (q3 _ rfl) (by first | (rw [h7] at h12;exact absurd h12 (by decide)) | (rw [h14] at h19;exact absurd h19 (by decide)) | (rw [h23] at h28;exact absurd h28 (by decide)) | (have h6:decide (r1 < EVP.ho p)=true:=h6;unfold lyG;simp only [*,cond_true,cond_false]) | (have h6:decide (r1 < EVP.ho p)=false:=h6;unfold lyG;simp only [*,cond_true,cond_false]) | (unfold lyG;simp only [*,cond_true,cond_false])))) λh4=>
  .b (bif false then true else bif true then decide (r1 < EVP.ho p) else false) (λh6=>
   .r (AG.mk [] r1 0 true) (od (q1 _ _ rfl) (q2 _ _ rfl) (q3 _ rfl) (by first | (rw [h7] at h12;exact absurd h12 (by decide)) | (rw [h14] at h19;exact absurd h19 (by decide)) | (rw [h23] at h28;exact absurd h28 (by decide)) | (have h6:decide (r1 < EVP.ho p)=true:=h6;unfold lyG;simp only [*,cond_true,cond_false]) | (have h6:decide (r1 < EVP.ho p)=false:=h6;unfold lyG;simp only [*,cond_true,cond_false]) | (unfold lyG;simp only [*,cond_true,cond_false])))) λh6=>
  .b (bif decide (EVP.ho p<=r1) then decide (r1 < EVP.c p) else false) (λh7=>
   .call (iU (usR a)) λr8 q8=>
   .call (eA p.s3 a hp.s3 ha) λr9 q9=>
   .call (fY p r9) λr10 q10=>
   .r (AG.mk [98,108,117,101] r1 r10 false) (od (q1 _ _ rfl) (q2 _ _ rfl) (q3 _ rfl) (by rw [q10 _ _ rfl,q9 _ _ rfl];first | (rw [h7] at h12;exact absurd h12 (by decide)) | (rw [h14] at h19;exact absurd h19 (by decide)) | (rw [h23] at h28;exact absurd h28 (by decide)) | (have h6:decide (r1 < EVP.ho p)=true:=h6;unfold lyG;simp only [*,cond_true,cond_false]) | (have h6:decide (r1 < EVP.ho p)=false:=h6;unfold lyG;simp only [*,cond_true,cond_false]) | (unfold lyG;simp only [*,cond_true,cond_false])))) λh7=>
  .call (iU (usR a)) λr11 q11=>
  .b (bif decide (EVP.ho p<=r1) then decide (r1 < EVP.c p) else false) (λh12=>
   .call (iU (usR a)) λr13 q13=>
   .b (bif decide (EVP.c p<=r1) then decide (r1 < 10000) else false) (λh14=>
    .call (iU (usR a)) λr15 q15=>
    .call (eA p.s5 a hp.s5 ha) λr16 q16=>
    .call (fY p r16) λr17 q17=>
    .r (AG.mk [103,114,101,101,110] r1 r17 false) (od (q1 _ _ rfl) (q2 _ _ rfl) (q3 _ rfl) (by rw [q17 _ _ rfl,q16 _ _ rfl];first | (rw [h7] at h12;exact absurd h12 (by decide)) | (rw [h14] at h19;exact absurd h19 (by decide)) | (rw [h23] at h28;exact absurd h28 (by decide)) | (have h6:decide (r1 < EVP.ho p)=true:=h6;unfold lyG;simp only [*,cond_true,cond_false]) | (have h6:decide (r1 < EVP.ho p)=false:=h6;unfold lyG;simp only [*,cond_true,cond_false]) | (unfold lyG;simp only [*,cond_true,cond_false])))) λh14=>
   .call (iU (usR a)) λr18 q18=>
   .b (bif decide (EVP.c p<=r1) then decide (r1 < 10000) else false) (λh19=>
    .call (iU (usR a)) λr20 q20=>
    .r (AG.mk [] r1 0 false) (od (q1 _ _ rfl) (q2 _ _ rfl) (q3 _ rfl) (by first | (rw [h7] at h12;exact absurd h12 (by decide)) | (rw [h14] at h19;exact absurd h19 (by decide)) | (rw [h23] at h28;exact absurd h28 (by decide)) | (have h6:decide (r1 < EVP.ho p)=true:=h6;unfold lyG;simp only [*,cond_true,cond_false]) | (have h6:decide (r1 < EVP.ho p)=false:=h6;unfold lyG;simp only [*,cond_true,cond_false]) | (unfold lyG;simp only [*,cond_true,cond_false])))) λh19=>
   .call (iU (usR a)) λr21 q21=>
   .r (AG.mk [] r1 0 false) (od (q1 _ _ rfl) (q2 _ _ rfl) (q3 _ rfl) (by first | (rw [h7] at h12;exact absurd h12 (by decide)) | (rw [h14] at h19;exact absurd h19 (by decide)) | (rw [h23] at h28;exact absurd h28 (by decide)) | (have h6:decide (r1 < EVP.ho p)=true:=h6;unfold lyG;simp only [*,cond_true,cond_false]) | (have h6:decide (r1 < EVP.ho p)=false:=h6;unfold lyG;simp only [*,cond_true,cond_false]) | (unfold lyG;simp only [*,cond_true,cond_false])))) λh12=>
  .call (iU (usR a)) λr22 q22=>
  .b (bif decide (EVP.c p<=r1) then decide (r1 < 10000) else false) (λh23=>
   .call (iU (usR a)) λr24 q24=>
   .call (eA p.s5 a hp.s5 ha) λr25 q25=>
   .call (fY p r25) λr26 q26=>
   .r (AG.mk [103,114,101,101,110] r1 r26 false) (od (q1 _ _ rfl) (q2 _ _ rfl) (q3 _ rfl) (by rw [q26 _ _ rfl,q25 _ _ rfl];first | (rw [h7] at h12;exact absurd h12 (by decide)) | (rw [h14] at h19;exact absurd h19 (by decide)) | (rw [h23] at h28;exact absurd h28 (by decide)) | (have h6:decide (r1 < EVP.ho p)=true:=h6;unfold lyG;simp only [*,cond_true,cond_false]) | (have h6:decide (r1 < EVP.ho p)=false:=h6;unfold lyG;simp only [*,cond_true,cond_false]) | (unfold lyG;simp only [*,cond_true,cond_false])))) λh23=>
  .call (iU (usR a)) λr27 q27=>
  .b (bif decide (EVP.c p<=r1) then decide (r1 < 10000) else false) (λh28=>
   .call (iU (usR a)) λr29 q29=>
   .r (AG.mk [] r1 0 false) (od (q1 _ _ rfl) (q2 _ _ rfl) (q3 _ rfl) (by first | (rw [h7] at h12;exact absurd h12 (by decide)) | (rw [h14] at h19;exact absurd h19 (by decide)) | (rw [h23] at h28;exact absurd h28 (by decide)) | (have h6:decide (r1 < EVP.ho p)=true:=h6;unfold lyG;simp only [*,cond_true,cond_false]) | (have h6:decide (r1 < EVP.ho p)=false:=h6;unfold lyG;simp only [*,cond_true,cond_false]) | (unfold lyG;simp only [*,cond_true,cond_false])))) λh28=>
  .call (iU (usR a)) λr30 q30=>
  .r (AG.mk [] r1 0 false) (od (q1 _ _ rfl) (q2 _ _ rfl) (q3 _ rfl) (by first | (rw [h7] at h12;exact absurd h12 (by decide)) | (rw [h14] at h19;exact absurd h19 (by decide)) | (rw [h23] at h28;exact absurd h28 (by decide)) | (have h6:decide (r1 < EVP.ho p)=true:=h6;unfold lyG;simp only [*,cond_true,cond_false]) | (have h6:decide (r1 < EVP.ho p)=false:=h6;unfold lyG;simp only [*,cond_true,cond_false]) | (unfold lyG;simp only [*,cond_true,cond_false])))) (by kernel_rfl)
theorem Ay {a b:TX} (h:usA a=usA b):a=b:=by
 injection h with h
 injection h with h _
 injection h with _ _ _ h
 have h:usR a 0=usR b 0:=congrFun h 0
 injection h with _ h
 injection h with h _
 injection h
theorem zF {p q:EVP} (h:ik p=ik q):p.s1=q.s1/\p.ho=q.ho/\p.c=q.c/\p.s3=q.s3/\p.s5=q.s5/\arms p=arms q:=by
 unfold ik at h
 simp only [AV.agg.injEq,List.cons.injEq,AV.sl.injEq,true_and,and_true] at h
 obtain ⟨_,h6,h12⟩:=h
 have a0:=congrFun h6 0
 have b0:=congrFun h12 0
 have b2:=congrFun h12 2
 simp only [Nat.beq,cond_true,cond_false,List.cons.injEq,AV.str.injEq,AV.int.injEq,AV.sl.injEq,true_and,and_true] at a0 b0 b2
 obtain ⟨e1,e2⟩:=a0
 obtain ⟨_,e3,e4,e5⟩:=b0
 obtain ⟨_,e6,_,_⟩:=b2
 have c0:=congrFun e4 0
 simp only [ag,AV.cells,Nat.beq,cond_true,List.cons.injEq,AV.int.injEq,true_and,and_true] at c0
 exact ⟨e1,e2,c0.2,e3,e6,uL e5⟩
def rLz (A:List AV) (_:List AO) (x:AG):Prop:=∀p a l,A=[ik p,usA a,fdA l,.str aI]->LyR p a l x
theorem Hm (p:EVP) (a:TX) (l:List FD) (hp:p.Ok) (ha:a.length<=400000) (hl:l.length<=1000000):bz wd dH φLy rLz [ik p,usA a,fdA l,.str aI] []:=
 (z6 p a l hp ha hl).mono λx hx p' a' l' e=>by
  simp only [List.cons.injEq,true_and,and_true] at e
  obtain ⟨e1,e2,e3⟩:=e
  obtain ⟨k1,k2,k3,k4,k5,k6⟩:=zF e1
  have hx:LyR p a l x:=hx
  unfold LyR at hx ⊢
  rw [<-k1,<-k2,<-k3,<-k4,<-k5,<-k6,<-Ay e2,<-xS e3]
  exact hx
noncomputable abbrev eLy:Ent:=dK wd dH φLy rLz
end Go.WF

namespace Go.WF
open Go Go.Ab Go.Proofs
def φUs (a:TX):AV×List AO:=(usA a,[])
theorem J1 {a:TX}:Tr (.agg [.sl .fit 3 1 (ag [.str [],.str [],.sl .fit 0 0 λx=>[] ] [(0,.agg [.str [117,115,101,114],.str a,.sl .fit 0 0 λx=>[] ])])],[]) (φUs a):=
 ⟨.inr ⟨rfl,λc v hr=>iP (.cons (ff λj hj=>by
  match j,hj with
  | 0,_=>rfl) .nil) hr⟩,.inl rfl⟩
def rUs (l:List AV) (_:List AO) (x:TX):Prop:=∀a,l=[.str a]->x=a
theorem J2 (a:TX):rUs [.str a] [] a:=λb e=>by injection e with e _;injection e
theorem CM (a:TX):bz wd cL φUs rUs [.str a] []:=
 bn (V:=V0) (T:=[]) (d:=2) 0 ao ak (.t a (J2 a) J1) (by kernel_rfl)
def FP:Nat->List AV:=(ar (0+1+1) 1 (ar (0+1) 1 (ar 0 1 (λx=>[.int .i64 0,.int .i64 0,.str [],.sl .fit 0 0 λx=>[] ]) (ag [.int .i64 0,.int .i64 0,.str [],.sl .fit 0 0 λx=>[] ] [(0,.agg [.int .i64 2,.int .i64 (IntKind.wrap .i64 (1*10)),.str [],.sl .fit 0 0 λx=>[] ])])) (ag [.int .i64 0,.int .i64 0,.str [],.sl .fit 0 0 λx=>[] ] [(0,.agg [.int .i64 2,.int .i64 (IntKind.wrap .i64 (IntKind.wrap .i64 (1+1)*10)),.str [],.sl .fit 0 0 λx=>[] ])])) (ag [.int .i64 0,.int .i64 0,.str [],.sl .fit 0 0 λx=>[] ] [(0,.agg [.int .i64 2,.int .i64 (IntKind.wrap .i64 (IntKind.wrap .i64 (IntKind.wrap .i64 (1+1)+1)*10)),.str [],.sl .fit 0 0 λx=>[] ])]))
def flC (k:TX) (d:Int):List AV:=[.str k,.int .i64 2,.sl .no 4 3 FP,.bool true,.int .i64 3,.sl .fit 0 0 λx=>[],.sl .fit 0 0 λx=>[],.sl .fit 0 0 λx=>[],.int .i64 d,.str [],.str [],.str [],.sl .fit 0 0 λx=>[] ]
def flR (d0 d1 d2 d3:Int) (j:Nat):List AV:=cond (Nat.beq j 0) (flC [102,97,115,116,45,102,108,97,103] d0) (cond (Nat.beq j 1) (flC [115,104,111,112,45,102,108,97,103] d1) (cond (Nat.beq j 2) (flC [115,108,111,119,45,102,108,97,103] d2) (flC [116,111,112,45,102,108,97,103] d3)))
def enP (sa ho cu on tw:Int):EVP where
 s1:=([115]++bytesOf 1 (ag [.int .u8 0] [(0,.int .u8 (IntKind.wrap IntKind.u8 (97+Int.tmod sa 26)))])++[104,111,109,101])
 s2:=([115]++bytesOf 1 (ag [.int .u8 0] [(0,.int .u8 (IntKind.wrap IntKind.u8 (97+Int.tmod sa 26)))])++[115,104,111,112])
 s3:=([115]++bytesOf 1 (ag [.int .u8 0] [(0,.int .u8 (IntKind.wrap IntKind.u8 (97+Int.tmod sa 26)))])++bytesOf 1 (ag [.int .u8 0] [(0,.int .u8 (IntKind.wrap IntKind.u8 (48+IntKind.wrap IntKind.u8 0)))]))
 s4:=([115]++bytesOf 1 (ag [.int .u8 0] [(0,.int .u8 (IntKind.wrap IntKind.u8 (97+Int.tmod sa 26)))])++bytesOf 1 (ag [.int .u8 0] [(0,.int .u8 (IntKind.wrap IntKind.u8 (48+IntKind.wrap IntKind.u8 (IntKind.wrap .i64 (0+1)))))]))
 s5:=([115]++bytesOf 1 (ag [.int .u8 0] [(0,.int .u8 (IntKind.wrap IntKind.u8 (97+Int.tmod sa 26)))])++bytesOf 1 (ag [.int .u8 0] [(0,.int .u8 (IntKind.wrap IntKind.u8 (48+IntKind.wrap IntKind.u8 (IntKind.wrap .i64 (IntKind.wrap .i64 (0+1)+1)))))]))
 s6:=([115]++bytesOf 1 (ag [.int .u8 0] [(0,.int .u8 (IntKind.wrap IntKind.u8 (97+Int.tmod sa 26)))])++bytesOf 1 (ag [.int .u8 0] [(0,.int .u8 (IntKind.wrap IntKind.u8 (48+IntKind.wrap IntKind.u8 (IntKind.wrap .i64 (IntKind.wrap .i64 (IntKind.wrap .i64 (0+1)+1)+1)))))]))
 g1:=[102,97,115,116,45,102,108,97,103]
 g2:=[115,104,111,112,45,102,108,97,103]
 g3:=[115,108,111,119,45,102,108,97,103]
 g4:=[116,111,112,45,102,108,97,103]
 ho:=(IntKind.wrap .i64 (Int.tmod (IntKind.wrap .i64 ho) 50*20))
 c:=(IntKind.wrap .i64 (IntKind.wrap .i64 (IntKind.wrap .i64 (Int.tmod (IntKind.wrap .i64 ho) 50*20)+1)+Int.tmod (IntKind.wrap .i64 cu) (IntKind.wrap .i64 (IntKind.wrap .i64 (10000 - IntKind.wrap .i64 (Int.tmod (IntKind.wrap .i64 ho) 50*20)) - 1))))
 a1:=(IntKind.wrap .i64 (1+Int.tmod (IntKind.wrap .i64 on) 9998))
 a2:=(IntKind.wrap .i64 (IntKind.wrap .i64 (IntKind.wrap .i64 (1+Int.tmod (IntKind.wrap .i64 on) 9998)+1)+Int.tmod (IntKind.wrap .i64 tw) (IntKind.wrap .i64 (9999 - IntKind.wrap .i64 (1+Int.tmod (IntKind.wrap .i64 on) 9998)))))
 fl:=flR 3 3 3 3
theorem Ah (sa ho cu on tw:Int):(enP sa ho cu on tw).Ok:=⟨Nat.le_of_ble_eq_true (by kernel_rfl),Nat.le_of_ble_eq_true (by kernel_rfl),Nat.le_of_ble_eq_true (by kernel_rfl)⟩
instance:Inhabited EVP:=⟨enP 0 0 0 0 0⟩
def φEn (p:EVP):AV×List AO:=(ik p,[])
def rEn (A:List AV) (_:List AO) (p:EVP):Prop:=∀sa ho cu on tw,A=[.int .u8 sa,.int .u8 ho,.int .u16 cu,.int .u16 on,.int .u16 tw]->p=enP sa ho cu on tw
theorem LZ (sa ho cu on tw:Int) {os:List AO}:rEn [.int .u8 sa,.int .u8 ho,.int .u16 cu,.int .u16 on,.int .u16 tw] os (enP sa ho cu on tw):=λa b c d e h=>by
 simp only [List.cons.injEq,AV.int.injEq,true_and,and_true] at h
 obtain ⟨h1,h2,h3,h4,h5⟩:=h
 rw [h1,h2,h3,h4,h5]
theorem L1 {on:Int} (h0:0<=on) (h1:on < 65536):(IntKind.wrap .i64 (9999 - IntKind.wrap .i64 (1+Int.tmod (IntKind.wrap .i64 on) 9998)) !=0)=true:=by
 have e:Int.tmod on 9998=on % 9998:=Int.tmod_eq_emod_of_nonneg h0
 rw [wrap_i64 (x:=on) (by omega) (by omega),e,wrap_i64 (x:=1+on % 9998) (by omega) (by omega),wrap_i64 (by omega) (by omega)]
 exact bne_iff_ne.2 (by omega)
theorem L0 {ho:Int} (h0:0<=ho) (h1:ho < 256):(IntKind.wrap .i64 (IntKind.wrap .i64 (10000 - IntKind.wrap .i64 (Int.tmod (IntKind.wrap .i64 ho) 50*20)) - 1) !=0)=true:=by
 have e:Int.tmod ho 50=ho % 50:=Int.tmod_eq_emod_of_nonneg h0
 rw [wrap_i64 (x:=ho) (by omega) (by omega),e,wrap_i64 (x:=ho % 50*20) (by omega) (by omega),wrap_i64 (x:=10000 - ho % 50*20) (by omega) (by omega),wrap_i64 (by omega) (by omega)]
 exact bne_iff_ne.2 (by omega)
theorem LY (sa ho cu on tw:Int):Tr ((.agg [.str [],.str [],.int .i64 0,.sl .fit 0 0 λx=>[],.sl .fit 0 0 λx=>[],.sl .no 13 4 (ar (0+1+1+1) 1 (ar (0+1+1) 1 (ar (0+1) 1 (ar 0 1 (λx=>[.str [],.int .i64 0,.sl .fit 0 0 λx=>[],.bool false,.int .i64 0,.sl .fit 0 0 λx=>[],.sl .fit 0 0 λx=>[],.sl .fit 0 0 λx=>[],.int .i64 0,.str [],.str [],.str [],.sl .fit 0 0 λx=>[] ]) (ag [.str [],.int .i64 0,.sl .fit 0 0 λx=>[],.bool false,.int .i64 0,.sl .fit 0 0 λx=>[],.sl .fit 0 0 λx=>[],.sl .fit 0 0 λx=>[],.int .i64 0,.str [],.str [],.str [],.sl .fit 0 0 λx=>[] ] [(0,.agg [.str [102,97,115,116,45,102,108,97,103],.int .i64 2,.sl .no 4 3 (ar (0+1+1) 1 (ar (0+1) 1 (ar 0 1 (λx=>[.int .i64 0,.int .i64 0,.str [],.sl .fit 0 0 λx=>[] ]) (ag [.int .i64 0,.int .i64 0,.str [],.sl .fit 0 0 λx=>[] ] [(0,.agg [.int .i64 2,.int .i64 (IntKind.wrap .i64 (1*10)),.str [],.sl .fit 0 0 λx=>[] ])])) (ag [.int .i64 0,.int .i64 0,.str [],.sl .fit 0 0 λx=>[] ] [(0,.agg [.int .i64 2,.int .i64 (IntKind.wrap .i64 (IntKind.wrap .i64 (1+1)*10)),.str [],.sl .fit 0 0 λx=>[] ])])) (ag [.int .i64 0,.int .i64 0,.str [],.sl .fit 0 0 λx=>[] ] [(0,.agg [.int .i64 2,.int .i64 (IntKind.wrap .i64 (IntKind.wrap .i64 (IntKind.wrap .i64 (1+1)+1)*10)),.str [],.sl .fit 0 0 λx=>[] ])])),.bool true,.int .i64 3,.sl .fit 0 0 λx=>[],.sl .fit 0 0 λx=>[],.sl .fit 0 0 λx=>[],.int .i64 3,.str [],.str [],.str [],.sl .fit 0 0 λx=>[] ])])) (ag [.str [],.int .i64 0,.sl .fit 0 0 λx=>[],.bool false,.int .i64 0,.sl .fit 0 0 λx=>[],.sl .fit 0 0 λx=>[],.sl .fit 0 0 λx=>[],.int .i64 0,.str [],.str [],.str [],.sl .fit 0 0 λx=>[] ] [(0,.agg [.str [115,104,111,112,45,102,108,97,103],.int .i64 2,.sl .no 4 3 (ar (0+1+1) 1 (ar (0+1) 1 (ar 0 1 (λx=>[.int .i64 0,.int .i64 0,.str [],.sl .fit 0 0 λx=>[] ]) (ag [.int .i64 0,.int .i64 0,.str [],.sl .fit 0 0 λx=>[] ] [(0,.agg [.int .i64 2,.int .i64 (IntKind.wrap .i64 (1*10)),.str [],.sl .fit 0 0 λx=>[] ])])) (ag [.int .i64 0,.int .i64 0,.str [],.sl .fit 0 0 λx=>[] ] [(0,.agg [.int .i64 2,.int .i64 (IntKind.wrap .i64 (IntKind.wrap .i64 (1+1)*10)),.str [],.sl .fit 0 0 λx=>[] ])])) (ag [.int .i64 0,.int .i64 0,.str [],.sl .fit 0 0 λx=>[] ] [(0,.agg [.int .i64 2,.int .i64 (IntKind.wrap .i64 (IntKind.wrap .i64 (IntKind.wrap .i64 (1+1)+1)*10)),.str [],.sl .fit 0 0 λx=>[] ])])),.bool true,.int .i64 3,.sl .fit 0 0 λx=>[],.sl .fit 0 0 λx=>[],.sl .fit 0 0 λx=>[],.int .i64 3,.str [],.str [],.str [],.sl .fit 0 0 λx=>[] ])])) (ag [.str [],.int .i64 0,.sl .fit 0 0 λx=>[],.bool false,.int .i64 0,.sl .fit 0 0 λx=>[],.sl .fit 0 0 λx=>[],.sl .fit 0 0 λx=>[],.int .i64 0,.str [],.str [],.str [],.sl .fit 0 0 λx=>[] ] [(0,.agg [.str [115,108,111,119,45,102,108,97,103],.int .i64 2,.sl .no 4 3 (ar (0+1+1) 1 (ar (0+1) 1 (ar 0 1 (λx=>[.int .i64 0,.int .i64 0,.str [],.sl .fit 0 0 λx=>[] ]) (ag [.int .i64 0,.int .i64 0,.str [],.sl .fit 0 0 λx=>[] ] [(0,.agg [.int .i64 2,.int .i64 (IntKind.wrap .i64 (1*10)),.str [],.sl .fit 0 0 λx=>[] ])])) (ag [.int .i64 0,.int .i64 0,.str [],.sl .fit 0 0 λx=>[] ] [(0,.agg [.int .i64 2,.int .i64 (IntKind.wrap .i64 (IntKind.wrap .i64 (1+1)*10)),.str [],.sl .fit 0 0 λx=>[] ])])) (ag [.int .i64 0,.int .i64 0,.str [],.sl .fit 0 0 λx=>[] ] [(0,.agg [.int .i64 2,.int .i64 (IntKind.wrap .i64 (IntKind.wrap .i64 (IntKind.wrap .i64 (1+1)+1)*10)),.str [],.sl .fit 0 0 λx=>[] ])])),.bool true,.int .i64 3,.sl .fit 0 0 λx=>[],.sl .fit 0 0 λx=>[],.sl .fit 0 0 λx=>[],.int .i64 3,.str [],.str [],.str [],.sl .fit 0 0 λx=>[] ])])) (ag [.str [],.int .i64 0,.sl .fit 0 0 λx=>[],.bool false,.int .i64 0,.sl .fit 0 0 λx=>[],.sl .fit 0 0 λx=>[],.sl .fit 0 0 λx=>[],.int .i64 0,.str [],.str [],.str [],.sl .fit 0 0 λx=>[] ] [(0,.agg [.str [116,111,112,45,102,108,97,103],.int .i64 2,.sl .no 4 3 (ar (0+1+1) 1 (ar (0+1) 1 (ar 0 1 (λx=>[.int .i64 0,.int .i64 0,.str [],.sl .fit 0 0 λx=>[] ]) (ag [.int .i64 0,.int .i64 0,.str [],.sl .fit 0 0 λx=>[] ] [(0,.agg [.int .i64 2,.int .i64 (IntKind.wrap .i64 (1*10)),.str [],.sl .fit 0 0 λx=>[] ])])) (ag [.int .i64 0,.int .i64 0,.str [],.sl .fit 0 0 λx=>[] ] [(0,.agg [.int .i64 2,.int .i64 (IntKind.wrap .i64 (IntKind.wrap .i64 (1+1)*10)),.str [],.sl .fit 0 0 λx=>[] ])])) (ag [.int .i64 0,.int .i64 0,.str [],.sl .fit 0 0 λx=>[] ] [(0,.agg [.int .i64 2,.int .i64 (IntKind.wrap .i64 (IntKind.wrap .i64 (IntKind.wrap .i64 (1+1)+1)*10)),.str [],.sl .fit 0 0 λx=>[] ])])),.bool true,.int .i64 3,.sl .fit 0 0 λx=>[],.sl .fit 0 0 λx=>[],.sl .fit 0 0 λx=>[],.int .i64 3,.str [],.str [],.str [],.sl .fit 0 0 λx=>[] ])])),.sl .no 6 2 (ar (0+1) 1 (ar 0 1 (λx=>[.str [],.str [],.str [],.int .i64 0,.int .i64 0,.sl .fit 0 0 λx=>[] ]) (ag [.str [],.str [],.str [],.int .i64 0,.int .i64 0,.sl .fit 0 0 λx=>[] ] [(0,.agg [.str [104,111,109,101],.str [117,115,101,114],.str ([115]++bytesOf 1 (ag [.int .u8 0] [(0,.int .u8 (IntKind.wrap IntKind.u8 (97+Int.tmod sa 26)))])++[104,111,109,101]),.int .i64 (IntKind.wrap .i64 (Int.tmod (IntKind.wrap .i64 ho) 50*20)),.int .i64 0,.sl .fit 0 0 λx=>[] ])])) (ag [.str [],.str [],.str [],.int .i64 0,.int .i64 0,.sl .fit 0 0 λx=>[] ] [(0,.agg [.str [115,104,111,112],.str [117,115,101,114],.str ([115]++bytesOf 1 (ag [.int .u8 0] [(0,.int .u8 (IntKind.wrap IntKind.u8 (97+Int.tmod sa 26)))])++[115,104,111,112]),.int .i64 (IntKind.wrap .i64 (Int.tmod (IntKind.wrap .i64 ho) 50*20)),.int .i64 0,.sl .fit 0 0 λx=>[] ])])),.sl .no 12 4 (ar (0+1+1+1) 1 (ar (0+1+1) 1 (ar (0+1) 1 (ar 0 1 (λx=>[.str [],.str [],.str [],.str [],.int .i64 0,.sl .fit 0 0 λx=>[],.sl .fit 0 0 λx=>[],.int .i64 0,.str [],.str [],.sl .fit 0 0 λx=>[],.sl .fit 0 0 λx=>[] ]) (ag [.str [],.str [],.str [],.str [],.int .i64 0,.sl .fit 0 0 λx=>[],.sl .fit 0 0 λx=>[],.int .i64 0,.str [],.str [],.sl .fit 0 0 λx=>[],.sl .fit 0 0 λx=>[] ] [(0,.agg [.str [98,108,117,101],.str [104,111,109,101],.str [102,97,115,116,45,102,108,97,103],.str ([115]++bytesOf 1 (ag [.int .u8 0] [(0,.int .u8 (IntKind.wrap IntKind.u8 (97+Int.tmod sa 26)))])++bytesOf 1 (ag [.int .u8 0] [(0,.int .u8 (IntKind.wrap IntKind.u8 (48+IntKind.wrap IntKind.u8 0)))])),.int .i64 2,.sl .fit 2 1 (ag [.int .i64 0,.int .i64 0] [(0,.agg [.int .i64 (IntKind.wrap .i64 (Int.tmod (IntKind.wrap .i64 ho) 50*20)),.int .i64 (IntKind.wrap .i64 (IntKind.wrap .i64 (IntKind.wrap .i64 (Int.tmod (IntKind.wrap .i64 ho) 50*20)+1)+Int.tmod (IntKind.wrap .i64 cu) (IntKind.wrap .i64 (IntKind.wrap .i64 (10000 - IntKind.wrap .i64 (Int.tmod (IntKind.wrap .i64 ho) 50*20)) - 1))))])]),.sl .fit 3 3 (ag [.int .i64 0,.int .i64 0,.int .i64 0] [(0,.agg [.int .i64 0,.int .i64 (IntKind.wrap .i64 (1+Int.tmod (IntKind.wrap .i64 on) 9998)),.int .i64 1]),(1,.agg [.int .i64 (IntKind.wrap .i64 (1+Int.tmod (IntKind.wrap .i64 on) 9998)),.int .i64 (IntKind.wrap .i64 (IntKind.wrap .i64 (IntKind.wrap .i64 (1+Int.tmod (IntKind.wrap .i64 on) 9998)+1)+Int.tmod (IntKind.wrap .i64 tw) (IntKind.wrap .i64 (9999 - IntKind.wrap .i64 (1+Int.tmod (IntKind.wrap .i64 on) 9998))))),.int .i64 2]),(2,.agg [.int .i64 (IntKind.wrap .i64 (IntKind.wrap .i64 (IntKind.wrap .i64 (1+Int.tmod (IntKind.wrap .i64 on) 9998)+1)+Int.tmod (IntKind.wrap .i64 tw) (IntKind.wrap .i64 (9999 - IntKind.wrap .i64 (1+Int.tmod (IntKind.wrap .i64 on) 9998))))),.int .i64 10000,.int .i64 3])]),.int .i64 1,.str [],.str [],.sl .fit 0 0 λx=>[],.sl .fit 0 0 λx=>[] ])])) (ag [.str [],.str [],.str [],.str [],.int .i64 0,.sl .fit 0 0 λx=>[],.sl .fit 0 0 λx=>[],.int .i64 0,.str [],.str [],.sl .fit 0 0 λx=>[],.sl .fit 0 0 λx=>[] ] [(0,.agg [.str [102,97,115,116],.str [115,104,111,112],.str [115,104,111,112,45,102,108,97,103],.str ([115]++bytesOf 1 (ag [.int .u8 0] [(0,.int .u8 (IntKind.wrap IntKind.u8 (97+Int.tmod sa 26)))])++bytesOf 1 (ag [.int .u8 0] [(0,.int .u8 (IntKind.wrap IntKind.u8 (48+IntKind.wrap IntKind.u8 (IntKind.wrap .i64 (0+1)))))])),.int .i64 2,.sl .fit 2 1 (ag [.int .i64 0,.int .i64 0] [(0,.agg [.int .i64 (IntKind.wrap .i64 (Int.tmod (IntKind.wrap .i64 ho) 50*20)),.int .i64 (IntKind.wrap .i64 (IntKind.wrap .i64 (IntKind.wrap .i64 (Int.tmod (IntKind.wrap .i64 ho) 50*20)+1)+Int.tmod (IntKind.wrap .i64 cu) (IntKind.wrap .i64 (IntKind.wrap .i64 (10000 - IntKind.wrap .i64 (Int.tmod (IntKind.wrap .i64 ho) 50*20)) - 1))))])]),.sl .fit 3 3 (ag [.int .i64 0,.int .i64 0,.int .i64 0] [(0,.agg [.int .i64 0,.int .i64 (IntKind.wrap .i64 (1+Int.tmod (IntKind.wrap .i64 on) 9998)),.int .i64 1]),(1,.agg [.int .i64 (IntKind.wrap .i64 (1+Int.tmod (IntKind.wrap .i64 on) 9998)),.int .i64 (IntKind.wrap .i64 (IntKind.wrap .i64 (IntKind.wrap .i64 (1+Int.tmod (IntKind.wrap .i64 on) 9998)+1)+Int.tmod (IntKind.wrap .i64 tw) (IntKind.wrap .i64 (9999 - IntKind.wrap .i64 (1+Int.tmod (IntKind.wrap .i64 on) 9998))))),.int .i64 2]),(2,.agg [.int .i64 (IntKind.wrap .i64 (IntKind.wrap .i64 (IntKind.wrap .i64 (1+Int.tmod (IntKind.wrap .i64 on) 9998)+1)+Int.tmod (IntKind.wrap .i64 tw) (IntKind.wrap .i64 (9999 - IntKind.wrap .i64 (1+Int.tmod (IntKind.wrap .i64 on) 9998))))),.int .i64 10000,.int .i64 3])]),.int .i64 1,.str [],.str [],.sl .fit 0 0 λx=>[],.sl .fit 0 0 λx=>[] ])])) (ag [.str [],.str [],.str [],.str [],.int .i64 0,.sl .fit 0 0 λx=>[],.sl .fit 0 0 λx=>[],.int .i64 0,.str [],.str [],.sl .fit 0 0 λx=>[],.sl .fit 0 0 λx=>[] ] [(0,.agg [.str [103,114,101,101,110],.str [104,111,109,101],.str [115,108,111,119,45,102,108,97,103],.str ([115]++bytesOf 1 (ag [.int .u8 0] [(0,.int .u8 (IntKind.wrap IntKind.u8 (97+Int.tmod sa 26)))])++bytesOf 1 (ag [.int .u8 0] [(0,.int .u8 (IntKind.wrap IntKind.u8 (48+IntKind.wrap IntKind.u8 (IntKind.wrap .i64 (IntKind.wrap .i64 (0+1)+1)))))])),.int .i64 2,.sl .fit 2 1 (ag [.int .i64 0,.int .i64 0] [(0,.agg [.int .i64 (IntKind.wrap .i64 (IntKind.wrap .i64 (IntKind.wrap .i64 (Int.tmod (IntKind.wrap .i64 ho) 50*20)+1)+Int.tmod (IntKind.wrap .i64 cu) (IntKind.wrap .i64 (IntKind.wrap .i64 (10000 - IntKind.wrap .i64 (Int.tmod (IntKind.wrap .i64 ho) 50*20)) - 1)))),.int .i64 10000])]),.sl .fit 3 3 (ag [.int .i64 0,.int .i64 0,.int .i64 0] [(0,.agg [.int .i64 0,.int .i64 (IntKind.wrap .i64 (1+Int.tmod (IntKind.wrap .i64 on) 9998)),.int .i64 1]),(1,.agg [.int .i64 (IntKind.wrap .i64 (1+Int.tmod (IntKind.wrap .i64 on) 9998)),.int .i64 (IntKind.wrap .i64 (IntKind.wrap .i64 (IntKind.wrap .i64 (1+Int.tmod (IntKind.wrap .i64 on) 9998)+1)+Int.tmod (IntKind.wrap .i64 tw) (IntKind.wrap .i64 (9999 - IntKind.wrap .i64 (1+Int.tmod (IntKind.wrap .i64 on) 9998))))),.int .i64 2]),(2,.agg [.int .i64 (IntKind.wrap .i64 (IntKind.wrap .i64 (IntKind.wrap .i64 (1+Int.tmod (IntKind.wrap .i64 on) 9998)+1)+Int.tmod (IntKind.wrap .i64 tw) (IntKind.wrap .i64 (9999 - IntKind.wrap .i64 (1+Int.tmod (IntKind.wrap .i64 on) 9998))))),.int .i64 10000,.int .i64 3])]),.int .i64 1,.str [],.str [],.sl .fit 0 0 λx=>[],.sl .fit 0 0 λx=>[] ])])) (ag [.str [],.str [],.str [],.str [],.int .i64 0,.sl .fit 0 0 λx=>[],.sl .fit 0 0 λx=>[],.int .i64 0,.str [],.str [],.sl .fit 0 0 λx=>[],.sl .fit 0 0 λx=>[] ] [(0,.agg [.str [115,108,111,119],.str [115,104,111,112],.str [116,111,112,45,102,108,97,103],.str ([115]++bytesOf 1 (ag [.int .u8 0] [(0,.int .u8 (IntKind.wrap IntKind.u8 (97+Int.tmod sa 26)))])++bytesOf 1 (ag [.int .u8 0] [(0,.int .u8 (IntKind.wrap IntKind.u8 (48+IntKind.wrap IntKind.u8 (IntKind.wrap .i64 (IntKind.wrap .i64 (IntKind.wrap .i64 (0+1)+1)+1)))))])),.int .i64 2,.sl .fit 2 1 (ag [.int .i64 0,.int .i64 0] [(0,.agg [.int .i64 (IntKind.wrap .i64 (IntKind.wrap .i64 (IntKind.wrap .i64 (Int.tmod (IntKind.wrap .i64 ho) 50*20)+1)+Int.tmod (IntKind.wrap .i64 cu) (IntKind.wrap .i64 (IntKind.wrap .i64 (10000 - IntKind.wrap .i64 (Int.tmod (IntKind.wrap .i64 ho) 50*20)) - 1)))),.int .i64 10000])]),.sl .fit 3 3 (ag [.int .i64 0,.int .i64 0,.int .i64 0] [(0,.agg [.int .i64 0,.int .i64 (IntKind.wrap .i64 (1+Int.tmod (IntKind.wrap .i64 on) 9998)),.int .i64 1]),(1,.agg [.int .i64 (IntKind.wrap .i64 (1+Int.tmod (IntKind.wrap .i64 on) 9998)),.int .i64 (IntKind.wrap .i64 (IntKind.wrap .i64 (IntKind.wrap .i64 (1+Int.tmod (IntKind.wrap .i64 on) 9998)+1)+Int.tmod (IntKind.wrap .i64 tw) (IntKind.wrap .i64 (9999 - IntKind.wrap .i64 (1+Int.tmod (IntKind.wrap .i64 on) 9998))))),.int .i64 2]),(2,.agg [.int .i64 (IntKind.wrap .i64 (IntKind.wrap .i64 (IntKind.wrap .i64 (1+Int.tmod (IntKind.wrap .i64 on) 9998)+1)+Int.tmod (IntKind.wrap .i64 tw) (IntKind.wrap .i64 (9999 - IntKind.wrap .i64 (1+Int.tmod (IntKind.wrap .i64 on) 9998))))),.int .i64 10000,.int .i64 3])]),.int .i64 1,.str [],.str [],.sl .fit 0 0 λx=>[],.sl .fit 0 0 λx=>[] ])]))],[])) (φEn (enP sa ho cu on tw)):=
 ⟨.inr ⟨rfl,λc v hr=>iP (.cons (.same rfl) (.cons (.same rfl) (.cons (.same rfl) (.cons (.same rfl) (.cons (.same rfl) (.cons (ff λj hj=>by
  match j,hj with
  | 0,_=>rfl
  | 1,_=>rfl
  | 2,_=>rfl
  | 3,_=>rfl) (.cons (ff λj hj=>by
  match j,hj with
  | 0,_=>rfl
  | 1,_=>rfl) (.cons (ff λj hj=>by
  match j,hj with
  | 0,_=>rfl
  | 1,_=>rfl
  | 2,_=>rfl
  | 3,_=>rfl) .nil)))))))) hr⟩,.inl rfl⟩
theorem Eh (sa ho cu on tw:Int) (h1:0<=ho) (h2:ho < 256) (h3:0<=on) (h4:on < 65536):bz wd cf φEn rEn [.int .u8 sa,.int .u8 ho,.int .u16 cu,.int .u16 on,.int .u16 tw] []:=
 bn (V:=V0) (T:=[]) (d:=16) 0 ao ak (.n (c:=IntKind.wrap .i64 (9999 - IntKind.wrap .i64 (1+Int.tmod (IntKind.wrap .i64 on) 9998)) !=0) (L1 h3 h4) (
  .n (c:=IntKind.wrap .i64 (IntKind.wrap .i64 (10000 - IntKind.wrap .i64 (Int.tmod (IntKind.wrap .i64 ho) 50*20)) - 1) !=0) (L0 h1 h2) (
  .t (enP sa ho cu on tw) (LZ sa ho cu on tw) (LY sa ho cu on tw)))) (by kernel_rfl)
noncomputable abbrev eEn:Ent:=dK wd cf φEn rEn
noncomputable abbrev eUs:Ent:=dK wd cL φUs rUs
end Go.WF

namespace Go.WF
open Go Go.Ab Go.Proofs
theorem lW {α:Type} {p:α->Bool} {d:α}:∀ {l:List α} {i:Nat},i < l.length->p (l.getD i d)=true->(∀j,j < i->p (l.getD j d)=false)->l.find? p=some (l.getD i d)
 | [],i,hi,_,_=>absurd hi (Nat.not_lt_zero _)
 | x::l,0,_,hp,_=>List.find?_cons_of_pos hp
 | x::l,i+1,hi,hp,hn=>by
  rw [List.find?_cons_of_neg (by have h0:p x=false:=hn 0 (Nat.succ_pos _);rw [h0];decide)]
  exact lW (l:=l) (i:=i) (by simpa using hi) hp λj hj=>hn (j+1) (by omega)
theorem p8 {r:RG} (h:VR r):aD r.ls r.now=r.ls:=by
 unfold aD
 rw [List.filter_eq_self]
 intro k hk
 obtain ⟨i,hi,e⟩:=List.mem_iff_getElem.1 hk
 have:=(h.lk i hi).2.2.2.2
 rw [List.getD_eq_getElem?_getD,List.getElem?_eq_getElem hi] at this
 rw [<-e]
 exact decide_eq_true this
theorem x6 {r:RG} (h:VR r) (z:TX) {j:Nat} (hj:j < r.ss.length):atB r.ls aI z r.now (r.ss.getD j default)=pIx r aI z r.ss j:=by
 have hv:=h.sv hj
 show atB _ _ _ _ _=xW _ _ _ _
 generalize r.ss.getD j default=s at hv
 unfold atB xW
 rw [decide_eq_true hv.fr.2]
 rcases hv.fin with ⟨f,_⟩ | ⟨f,f1,f2⟩
 ·rw [f,beq_self_eq_true,cond_true,cond_true]
  cases s.layer==aI <;> rfl
 ·have f0:(s.fin==0)=false:=beq_eq_false_iff_ne.2 (by rcases f with f | f <;> omega)
  rw [f0,decide_eq_false (show ¬ s.to > r.now by omega)]
  cases s.layer==aI <;> rfl
theorem Am {r:RG} (h:VR r) {a:TX} {x:ATX} (hx:CcR r a aI x) (ho:x.2=true):atF r a aI r.now=x:=by
 rcases hx with ⟨_,i,hi,p,n,e⟩ | ⟨e,_⟩
 ·unfold atF
  rw [p8 h]
  unfold atG
  rw [lW (d:=default) hi (by rw [x6 h _ hi];exact p) λj hj=>by rw [x6 h _ (Nat.lt_trans hj hi)];exact n j hj]
  exact Prod.ext e.symm ho.symm
 ·rw [e] at ho;cases ho
theorem Ca {r:RG} (h:VR r) {a:TX} (hn:∀j,j < r.ss.length->pIx r aI (aj (ofF r.ls) a) r.ss j=false):(atF r a aI r.now).2=false:=by
 unfold atF
 rw [p8 h]
 unfold atG
 rw [List.find?_eq_none.2 λs hs=>?_]
 obtain ⟨j,hj,e⟩:=List.getElem_of_mem hs
 have e:s=r.ss.getD j default:=by rw [List.getD_eq_getElem?_getD,List.getElem?_eq_getElem hj,<-e];rfl
 rw [e,x6 h _ hj,hn j hj];simp
structure SlG (p:EVP) (s:SL):Prop where
 l:s.layer=aI
 e:(s.exp=lu/\(bif decide (p.ho<=bkF p.s1 s.id) then decide (bkF p.s1 s.id < p.c) else false)=true/\s.arm=pkF (arms p) (bkF p.s3 s.id))∨(s.exp=gy/\(bif decide (p.c<=bkF p.s1 s.id) then decide (bkF p.s1 s.id < 10000) else false)=true/\s.arm=pkF (arms p) (bkF p.s5 s.id))
def vQ (r:RG) (e:EV):Prop:=cw e.id=true/\(atF r e.id aI e.time).2=true/\(atF r e.id aI e.time).1.exp=e.name/\(atF r e.id aI e.time).1.arm=e.arm
structure XvI (p:EVP) (r:RG) (ev:List EV) (n:Int):Prop where
 sl:∀s∈r.ss,SlG p s
 fin:∀s∈r.ss,s.fin=0∨s.fin=2
 xe:∀e∈ev,e.kind=1->vQ r e/\e.time<=n
theorem Jy (p:EVP) (n:Int):XvI p rg0 [] n:=⟨λ_ h=>absurd h List.not_mem_nil,λ_ h=>absurd h List.not_mem_nil,λ_ h=>absurd h List.not_mem_nil⟩
theorem Cp {p:EVP} {r:RG} {ev:List EV} {n:Int} {e:EV} (h:XvI p r ev n) (he:e.kind≠1):XvI p r (ev++[e]) n:=⟨h.sl,h.fin,λz hz hk=>by
 rcases List.mem_append.1 hz with hz | hz
 ·exact h.xe z hz hk
 ·rw [List.mem_singleton.1 hz] at hk;exact absurd hk he⟩
theorem vS {p:EVP} {r:RG} {ev:List EV} {n m k:Int} (h:XvI p r ev n) (hm:n<=m):XvI p ⟨k,r.ls,r.ss⟩ ev m:=⟨h.sl,h.fin,λe he hk=>⟨(h.xe e he hk).1,Int.le_trans (h.xe e he hk).2 hm⟩⟩
theorem xO {α:Type} [Inhabited α] {p:α->Bool} {l l':List α} (hn:l'.length=l.length) (hp:∀j,j < l.length->p (l'.getD j default)=p (l.getD j default)) {s:α} (h:l.find? p=some s):∃j,j < l.length/\s=l.getD j default/\l'.find? p=some (l'.getD j default):=by
 obtain ⟨h1,i,hi,e,hj⟩:=List.find?_eq_some_iff_getElem.1 h
 have g:∀k (hk:k < l.length),l.getD k default=l[k]:=λk hk=>by rw [List.getD_eq_getElem?_getD,List.getElem?_eq_getElem hk];rfl
 refine ⟨i,hi,by rw [g i hi,e],lW (by omega) (by rw [hp i hi,g i hi,e];exact h1) λj hj'=>?_⟩
 rw [hp j (by omega),g j (by omega)]
 simpa using hj j hj'
theorem vZ {l:List LK} {k:LK} {t:Int} (h:t < k.t):aD (l++[k]) t=aD l t:=by
 rw [jI,if_neg (by omega),List.append_nil]
theorem EG {l:List LK} {y z:TX} {t n:Int} {s:SL} (h:t < n) (h0:s.fin=0):atB l y z t (l3 s n)=atB l y z t s:=by
 unfold atB l3
 rw [h0,decide_eq_true (show n > t by omega)]
 rfl
theorem E9 {r:RG} {a b:TX} {n:Int} {f:FR} {z:TX} {e:EV} (h:vQ r e) (ht:e.time < n):vQ ⟨n,r.ls++[⟨a,b,n⟩],(mgF f z n r.ss r.ss.length).1⟩ e:=by
 obtain ⟨h1,h2,h3,h4⟩:=h
 have I:=xa f z n r.ss r.ss.length (Nat.le_refl _)
 have hu:aD (r.ls++[⟨a,b,n⟩]) e.time=aD r.ls e.time:=vZ ht
 unfold vQ atF at *
 rw [show (⟨n,r.ls++[⟨a,b,n⟩],(mgF f z n r.ss r.ss.length).1⟩:RG).ls=r.ls++[⟨a,b,n⟩] from rfl,hu]
 refine ⟨h1,?_⟩
 unfold atG at h2 h3 h4 ⊢
 cases hf:r.ss.find? (atB (aD r.ls e.time) aI (aj (ofF (aD r.ls e.time)) e.id) e.time) with
 | none=>rw [hf] at h2;cases h2
 | some s=>
  rw [hf] at h3 h4
  obtain ⟨j,hj,es,hf'⟩:=xO (l':=(mgF f z n r.ss r.ss.length).1) I.len (λj hj=>by
   rcases I.slot j with e1 | ⟨e1,e2⟩
   ·rw [e1]
   ·rw [e1,EG ht e2]) hf
  show (match (mgF f z n r.ss r.ss.length).1.find? _ with | some s=>(s,true) | none=>(default,false)).2=true/\(match (mgF f z n r.ss r.ss.length).1.find? _ with | some s=>(s,true) | none=>(default,false)).1.exp=e.name/\(match (mgF f z n r.ss r.ss.length).1.find? _ with | some s=>(s,true) | none=>(default,false)).1.arm=e.arm
  rw [hf']
  have h3:s.exp=e.name:=h3
  have h4:s.arm=e.arm:=h4
  rw [es] at h3 h4
  refine ⟨rfl,?_,?_⟩
  ·show ((mgF f z n r.ss r.ss.length).1.getD j default).exp=_
   rcases I.slot j with e1 | ⟨e1,_⟩ <;> rw [e1] <;> exact h3
  ·show ((mgF f z n r.ss r.ss.length).1.getD j default).arm=_
   rcases I.slot j with e1 | ⟨e1,_⟩ <;> rw [e1] <;> exact h4
theorem w8 {f:FR} {z:TX} {n:Int} {ss:List SL} {s:SL} (h:s∈(mgF f z n ss ss.length).1):∃s'∈ss,s=s'∨s=l3 s' n:=by
 have I:=xa f z n ss ss.length (Nat.le_refl _)
 obtain ⟨j,hj,e⟩:=List.getElem_of_mem h
 have hj':j < ss.length:=by rw [<-I.len];exact hj
 have e':(mgF f z n ss ss.length).1.getD j default=s:=by rw [List.getD_eq_getElem?_getD,List.getElem?_eq_getElem hj,e];rfl
 have hm:ss.getD j default∈ss:=by rw [List.getD_eq_getElem?_getD,List.getElem?_eq_getElem hj'];exact List.getElem_mem hj'
 rcases I.slot j with h1 | ⟨h1,_⟩
 ·exact ⟨_,hm,.inl (e'.symm.trans h1)⟩
 ·exact ⟨_,hm,.inr (e'.symm.trans h1)⟩
theorem E7 {p:EVP} {r:RG} {ev:List EV} {a b:TX} {n m:Int} {x:MEX} {e:EV} (h:XvI p r ev n) (hm:n < m) (q:MeR r a b m x) (h0:x.2.2=0) (he:e.kind≠1):XvI p x.1 (ev++[e]) m:=by
 rcases q with ⟨e,_⟩ | ⟨e,_⟩ | ⟨_,_,e⟩ | ⟨_,_,_,_,_,e⟩
 ·omega
 ·omega
 ·rw [e];exact Cp (vS h (Int.le_of_lt hm)) he
 ·rw [e]
  refine Cp ⟨λs hs=>?_,λs hs=>?_,λz hz hk=>⟨E9 (h.xe z hz hk).1 (Int.lt_of_le_of_lt (h.xe z hz hk).2 hm),Int.le_of_lt (Int.lt_of_le_of_lt (h.xe z hz hk).2 hm)⟩⟩ he
  ·obtain ⟨s',h1,e1 | e1⟩:=w8 hs
   ·rw [e1];exact h.sl s' h1
   ·rw [e1];exact ⟨(h.sl s' h1).l,(h.sl s' h1).e⟩
  ·obtain ⟨s',h1,e1 | e1⟩:=w8 hs
   ·rw [e1];exact h.fin s' h1
   ·rw [e1];exact .inr rfl
theorem Cq {r:RG} {s:SL} {n:Int} {e:EV} (h:vQ r e) (ht:e.time < s.fr):vQ ⟨n,r.ls,r.ss++[s]⟩ e:=by
 obtain ⟨h1,h2,h3,h4⟩:=h
 unfold vQ atF at *
 refine ⟨h1,?_⟩
 unfold atG at h2 h3 h4 ⊢
 show (match (r.ss++[s]).find? (atB (aD r.ls e.time) aI (aj (ofF (aD r.ls e.time)) e.id) e.time) with | some s=>(s,true) | none=>(default,false)).2=true/\(match (r.ss++[s]).find? (atB (aD r.ls e.time) aI (aj (ofF (aD r.ls e.time)) e.id) e.time) with | some s=>(s,true) | none=>(default,false)).1.exp=e.name/\(match (r.ss++[s]).find? (atB (aD r.ls e.time) aI (aj (ofF (aD r.ls e.time)) e.id) e.time) with | some s=>(s,true) | none=>(default,false)).1.arm=e.arm
 rw [List.find?_append]
 cases hf:r.ss.find? (atB (aD r.ls e.time) aI (aj (ofF (aD r.ls e.time)) e.id) e.time) with
 | none=>rw [hf] at h2;cases h2
 | some u=>
  rw [hf] at h3 h4
  exact ⟨rfl,h3,h4⟩
theorem yX:cw []=false:=by kernel_rfl
theorem DT {p:EVP} {a:TX} {x:AG} (q:LyR p a [] x) (h1:cw x.exp=true):(x.exp=lu/\(bif decide (p.ho<=bkF p.s1 a) then decide (bkF p.s1 a < p.c) else false)=true/\x.arm=pkF (arms p) (bkF p.s3 a))∨(x.exp=gy/\(bif decide (p.c<=bkF p.s1 a) then decide (bkF p.s1 a < 10000) else false)=true/\x.arm=pkF (arms p) (bkF p.s5 a)):=by
 obtain ⟨ru,_,e⟩:=q
 have nil:∀ {b:Int} {h:Bool} {P:Prop},x=AG.mk [] b 0 h->P:=λe=>by
  rw [e] at h1
  rw [show cw (AG.mk [] _ 0 _).exp=cw [] from rfl,yX] at h1;cases h1
 unfold lyG at e
 rw [show (foF [] aI).2=false from rfl] at e
 simp only [cond_false] at e
 cases c2:decide (bkF p.s1 a < p.ho) with
 | true=>rw [c2,cond_true] at e;exact nil e
 | false=>
  rw [c2,cond_false] at e
  cases c3:(bif decide (p.ho<=bkF p.s1 a) then decide (bkF p.s1 a < p.c) else false) with
  | true=>rw [c3,cond_true] at e;rw [e];exact .inl ⟨rfl,rfl,rfl⟩
  | false=>
   rw [c3,cond_false] at e
   cases c4:(bif decide (p.c<=bkF p.s1 a) then decide (bkF p.s1 a < 10000) else false) with
   | true=>rw [c4,cond_true] at e;rw [e];exact .inr ⟨rfl,rfl,rfl⟩
   | false=>rw [c4,cond_false] at e;exact nil e
theorem E8 {p:EVP} {r:RG} {ev:List EV} {id:TX} {n m:Int} {y:AG} {x:ASX} {e:EV} {ah:Bool} (h:XvI p r ev n) (hv:VR r) (hall:E6 r) (hn:r.now<=m/\m<=1099511627776) (hb:r.ss.length < 128) (hm:n < m) (hid:cw id=true) (hl:LyR p id (fdF r id m) y) (q:AsR r id aI y.exp y.arm ah m x) (h0:x.2.2=0) (e1:e.id=id) (e2:e.time=m) (e3:e.name=x.2.1.exp) (e4:e.arm=x.2.1.arm):XvI p x.1 (ev++[e]) m:=by
 obtain ⟨hv',hnow,_,_⟩:=EH hv hn hb q h0
 have new:CcR x.1 id aI (x.2.1,true)->vQ x.1 e:=λhc=>by
  have:=Am hv' hc rfl
  rw [hnow] at this
  unfold vQ
  rw [e1,e2,this]
  exact ⟨hid,rfl,e3.symm,e4.symm⟩
 rcases q with ⟨e,_⟩ | ⟨e,_⟩ | ⟨_,ex,i,hi,hp,es⟩ | ⟨_,k1,k2,k3,k4,k5,hno,ex,es⟩
 ·omega
 ·omega
 ·have hx:vQ x.1 e:=new (by
   rw [ex]
   refine .inl ⟨rfl,i,hi,hp,λj hj=>?_,es⟩
   cases hj':pIx ⟨m,r.ls,r.ss⟩ aI (aj (ofF r.ls) id) r.ss j with
   | false=>rfl
   | true=>
    have g:∀ {k},pIx r aI (aj (ofF r.ls) id) r.ss k=true->(r.ss.getD k default).fin=0/\(r.ss.getD k default).layer=aI/\aj (ofF r.ls) (r.ss.getD k default).id=aj (ofF r.ls) id:=fun {k} hk=>by
     have hk:xW r aI (aj (ofF r.ls) id) (r.ss.getD k default)=true:=hk
     unfold xW at hk
     exact ⟨by simpa using n3 (n3 hk),by simpa using vK (n3 hk),by simpa using vK hk⟩
    obtain ⟨a1,a2,a3⟩:=g hp
    obtain ⟨b1,b2,b3⟩:=g (k:=j) hj'
    exact (hv.one i j hj hi a1 b1 (b2.trans a2.symm) (b3.trans a3.symm)).elim)
  rw [ex] at hx ⊢
  have hk:=vS (k:=m) h (Int.le_of_lt hm)
  exact ⟨hk.sl,hk.fin,λz hz hzk=>by
   rcases List.mem_append.1 hz with hz | hz
   ·exact hk.xe z hz hzk
   ·rw [List.mem_singleton.1 hz];exact ⟨hx,by omega⟩⟩
 ·have hx:vQ x.1 e:=new (by
   rw [ex,es]
   refine .inl ⟨rfl,r.ss.length,by simp,?_,λj hj=>?_,eG.symm⟩
   ·show xW _ _ _ ((r.ss++[lR id aI y.exp y.arm m]).getD r.ss.length default)=true
    rw [eG]
    unfold xW lR
    simp
   ·show xW _ _ _ ((r.ss++[lR id aI y.exp y.arm m]).getD j default)=false
    rw [eY hj];exact hno j hj)
  have hat:=Ca (p5 hv hn) (a:=id) hno
  have hfd:fdF r id m=[]:=by
   unfold fdF fdO
   split
   ·rfl
   ·rw [show (atF r id aI m).2=false from hat];rfl
  rw [hfd] at hl
  have hnew:=DT hl k3
  rw [ex] at hx ⊢
  refine ⟨λs hs=>?_,λs hs=>?_,λz hz hzk=>?_⟩
  ·rcases List.mem_append.1 hs with hs | hs
   ·exact h.sl s hs
   ·rw [List.mem_singleton.1 hs];exact ⟨rfl,hnew⟩
  ·rcases List.mem_append.1 hs with hs | hs
   ·exact h.fin s hs
   ·rw [List.mem_singleton.1 hs];exact .inl rfl
  ·rcases List.mem_append.1 hz with hz | hz
   ·have:=(h.xe z hz hzk).2
    exact ⟨Cq (h.xe z hz hzk).1 (by show z.time < m;omega),by omega⟩
   ·rw [List.mem_singleton.1 hz];exact ⟨hx,by omega⟩
end Go.WF

namespace Go.Ab
open Go Go.RowKit
def yP (oi ci sz2:Nat) (g2:Nat->List AV):Vw:=λs f=>
 match s.obj oi with
 | some (.cells cs)=>
  (match cs[ci]? with
  | some (.sl _ _ 0 _)=>f {env:=s.env,objs:=aput s.objs oi (.cells (cs.set ci (.sl .no sz2 0 g2)))}
  | _=>f s)
 | _=>f s
def vw2 (a b:Vw):Vw:=λs f=>a s λs'=>b s' f
theorem CD {a b:Vw} (ha:gm a) (hb:gm b):gm (vw2 a b):=by
 intro s f r h
 obtain ⟨s1,h1,k1⟩:=ha s (λs'=>b s' f) r h
 obtain ⟨s2,h2,k2⟩:=hb s1 f r h1
 refine ⟨s2,h2,λB c x hr hn=>?_⟩
 obtain ⟨c1,e1,r1,n1⟩:=k1 B c x hr hn
 obtain ⟨c2,e2,r2,n2⟩:=k2 B c1 x r1 n1
 exact ⟨c2,e2.trans e1,r2,n2⟩
theorem ud (oi ci sz2:Nat) (g2:Nat->List AV):gm (yP oi ci sz2 g2):=by
 intro s f r h
 unfold yP at h
 split at h
 ·rename_i cs ho
  split at h
  ·rename_i o sz g hc
   refine ⟨_,h,λB c a hr hn=>⟨c,rfl,?_,λt v ht=>hn t v ht⟩⟩
   obtain ⟨⟨⟨vs,t,hh,hvs,hv⟩,hone⟩,hI,hfr⟩:=hr.objs.rep oi _ ho
   have hci:ci < cs.length:=(List.getElem?_eq_some_iff.1 hc).1
   have hX:Rep c (.sl .no sz2 0 g2) (vs.getD ci undef):=wP (hv ci _ hc)
   have hrow:RowAt c (c.β oi) (cs.set ci (.sl .no sz2 0 g2)):=by
    refine ⟨⟨vs,t,hh,by rw [List.length_set];exact hvs,λi u hu=>?_⟩,λi u hu=>?_⟩
    ·rw [List.getElem?_set] at hu
     by_cases e:ci=i
     ·subst e;rw [if_pos rfl,if_pos hci] at hu;cases hu;exact hX
     ·rw [if_neg e] at hu;exact hv i u hu
    ·rw [List.getElem?_set] at hu
     by_cases e:ci=i
     ·subst e;rw [if_pos rfl,if_pos hci] at hu;cases hu;rfl
     ·rw [if_neg e] at hu;exact hone i u hu
   refine hr.obj (k:=oi) (o:=.cells (cs.set ci (.sl .no sz2 0 g2))) ((Keeps.refl c _).but oi) (Grow.refl hr.good) ⟨hrow,hI,hfr⟩ (λp o' b hp hne hb e=>?_) (λq hq=>?_) (λb hb=>hr.mine oi _ b ho hb)
   ·exact hr.objs.apart p o' oi _ b hp ho hne hb e
   ·have hq:q∈au (cs.set ci (.sl .no sz2 0 g2)):=hq
    rcases nA q hq with hq | hq
    ·simp [AV.keys] at hq
    ·exact .inr (hr.objs.closed oi _ ho q hq)
  ·exact ⟨s,h,λB c a hr hn=>⟨c,rfl,hr,hn⟩⟩
 ·exact ⟨s,h,λB c a hr hn=>⟨c,rfl,hr,hn⟩⟩
end Go.Ab
namespace Go.WF
open Go Go.Ab Go.Proofs
structure VSX where
 k:Nat
 a:Nat
 b:Nat
 t:Nat
instance:Inhabited VSX:=⟨⟨0,0,0,0⟩⟩
def VSX.c (x:VSX):List AV:=[.int .u8 (x.k:Int),.int .u8 (x.a:Int),.int .u8 (x.b:Int),.int .u8 (x.t:Int)]
def vsA (l:List VSX):AV:=.sl .no 4 l.length λj=>(l.getD j default).c
def gB (p:EVP):List AV:=(ik p).cells
def nxT (n:Int) (t:Nat):Int:=IntKind.wrap .i64 (n+IntKind.wrap .i64 (1+Int.tmod (IntKind.wrap .i64 (t:Int)) 4))
structure VV where
 i:Nat
 n:Int
 r:RG
 ev:List EV
abbrev FB:List (List Nat×Vw):=[([1,1,1,1],vw2 (yP 6 1 3 λj=>(([]:List LK).getD j default).c) (yP 6 2 7 λj=>(([]:List SL).getD j default).c))]
theorem Aq:tz FB:=fP (CD (ud _ _ _ _) (ud _ _ _ _)) ak
def HG (r:RG):Prop:=∀s∈r.ss,FdG ⟨s.layer,s.exp,s.arm⟩
theorem HG.all {r:RG} (h:HG r):E6 r:=λu hu=>by
 obtain ⟨s,hs,rfl⟩:=List.mem_map.1 hu
 exact (h s hs).1
theorem at_mem {l:List LK} {y z:TX} {n:Int} {ss:List SL} (h:(atG l y z n ss).2=true):(atG l y z n ss).1∈ss:=by
 unfold atG at h ⊢
 split at h
 ·rename_i s hs;exact List.mem_of_find?_eq_some hs
 ·cases h
theorem BF {r:RG} {a:TX} {n:Int} (h:HG r):∀f∈fdF r a n,FdG f:=λf hf=>by
 unfold fdF at hf
 split at hf
 ·cases hf
 ·unfold fdO at hf
  cases e:(atF r a aI n).2 with
  | false=>rw [e] at hf;cases hf
  | true=>
   rw [e] at hf
   have hf:f=_:=List.mem_singleton.1 hf
   have:=h _ (at_mem e)
   rw [hf]
   exact ⟨rfl,this.2.1,this.2.2⟩
theorem Kx (l:List SPN) (b:Int):pkF l b=0∨∃r∈l,pkF l b=r.v:=by
 unfold pkF
 split
 ·rename_i r hr;exact .inr ⟨r,List.mem_of_find?_eq_some hr,rfl⟩
 ·exact .inl rfl
theorem IG (p:EVP) (b:Int):pkF (arms p) b=0∨pkF (arms p) b=1∨pkF (arms p) b=2∨pkF (arms p) b=3:=by
 rcases Kx (arms p) b with h | ⟨r,hr,h⟩
 ·exact .inl h
 ·unfold arms at hr
  simp only [List.mem_cons,List.not_mem_nil,or_false] at hr
  rcases hr with rfl | rfl | rfl
  ·exact .inr (.inl h)
  ·exact .inr (.inr (.inl h))
  ·exact .inr (.inr (.inr h))
theorem D9 {l:List FD} {y:TX} (h:(foF l y).2=true):(foF l y).1∈l:=by
 unfold foF at h ⊢
 split at h
 ·rename_i s hs;exact List.mem_of_find?_eq_some hs
 ·cases h
theorem Bh:cw []=false:=by kernel_rfl
theorem Bb {p:EVP} {a:TX} {l:List FD} {x:AG} (hl:∀f∈l,FdG f) (q:LyR p a l x) (h1:cw x.exp=true) (h2:1<=x.arm):FdG ⟨aI,x.exp,x.arm⟩:=by
 obtain ⟨ru,_,e⟩:=q
 have arm:∀b,1<=pkF (arms p) b->pkF (arms p) b=1∨pkF (arms p) b=2∨pkF (arms p) b=3:=λb hb=>by
  rcases IG p b with h | h
  ·omega
  ·exact h
 have nil:∀ {b:Int} {h:Bool},x=AG.mk [] b 0 h->FdG ⟨aI,x.exp,x.arm⟩:=λe=>by
  rw [e] at h1
  rw [show cw (AG.mk [] _ 0 _).exp=cw [] from rfl,Bh] at h1;cases h1
 unfold lyG at e
 cases c1:(bif (foF l aI).2 then bif (foF l aI).1.exp==[] then true else ru else false) with
 | true=>
  rw [c1,cond_true] at e
  have hf:(foF l aI).2=true:=by
   cases hh:(foF l aI).2 with
   | true=>rfl
   | false=>rw [hh] at c1;cases c1
  have hg:=hl _ (D9 hf)
  cases c2:(!(foF l aI).1.exp==[]) with
  | true=>rw [c2,cond_true] at e;rw [e];exact ⟨rfl,hg.2.1,hg.2.2⟩
  | false=>rw [c2,cond_false] at e;exact nil e
 | false=>
  rw [c1,cond_false] at e
  cases c2:decide (bkF p.s1 a < p.ho) with
  | true=>rw [c2,cond_true] at e;exact nil e
  | false=>
   rw [c2,cond_false] at e
   cases c3:(bif decide (p.ho<=bkF p.s1 a) then decide (bkF p.s1 a < p.c) else false) with
   | true=>
    rw [c3,cond_true] at e
    rw [e] at h2 ⊢
    exact ⟨rfl,.inl rfl,arm _ h2⟩
   | false=>
    rw [c3,cond_false] at e
    cases c4:(bif decide (p.c<=bkF p.s1 a) then decide (bkF p.s1 a < 10000) else false) with
    | true=>
     rw [c4,cond_true] at e
     rw [e] at h2 ⊢
     exact ⟨rfl,.inr rfl,arm _ h2⟩
    | false=>rw [c4,cond_false] at e;exact nil e
theorem DC {f:FR} {z:TX} {n:Int} {ss:List SL} {s:SL} (h:s∈(mgF f z n ss ss.length).1):∃s'∈ss,s.layer=s'.layer/\s.exp=s'.exp/\s.arm=s'.arm:=by
 have I:=xa f z n ss ss.length (Nat.le_refl _)
 obtain ⟨j,hj,e⟩:=List.getElem_of_mem h
 have hj':j < ss.length:=by rw [<-I.len];exact hj
 have e':(mgF f z n ss ss.length).1.getD j default=s:=by rw [List.getD_eq_getElem?_getD,List.getElem?_eq_getElem hj,e];rfl
 have hm:ss.getD j default∈ss:=by rw [List.getD_eq_getElem?_getD,List.getElem?_eq_getElem hj'];exact List.getElem_mem hj'
 rcases I.slot j with h1 | ⟨h1,_⟩
 ·rw [e'] at h1;exact ⟨_,hm,by rw [h1],by rw [h1],by rw [h1]⟩
 ·rw [e'] at h1;exact ⟨_,hm,by rw [h1];rfl,by rw [h1];rfl,by rw [h1];rfl⟩
theorem Ha {r:RG} {a b:TX} {n:Int} {x:MEX} (h:HG r) (q:MeR r a b n x) (h0:x.2.2=0):HG x.1:=by
 rcases q with ⟨e,_⟩ | ⟨e,_⟩ | ⟨_,_,e⟩ | ⟨_,_,_,_,_,e⟩
 ·omega
 ·omega
 ·rw [e];exact h
 ·rw [e]
  intro s hs
  obtain ⟨s',h1,h2,h3,h4⟩:=DC hs
  rw [h2,h3,h4];exact h s' h1
theorem IE {r:RG} {id ax:TX} {aa:Int} {ah:Bool} {n:Int} {x:ASX} (h:HG r) (q:AsR r id aI ax aa ah n x) (h0:x.2.2=0) (hg:cw ax=true->1<=aa->FdG ⟨aI,ax,aa⟩):HG x.1:=by
 rcases q with ⟨e,_⟩ | ⟨e,_⟩ | ⟨_,e,_⟩ | ⟨_,_,_,k3,k4,_,_,e,_⟩
 ·omega
 ·omega
 ·rw [e];exact h
 ·rw [e]
  intro s hs
  rcases List.mem_append.1 hs with hs | hs
  ·exact h s hs
  ·rw [List.mem_singleton.1 hs];exact hg k3 k4
structure VvI (p:EVP) (l:List VSX) (v:VV):Prop where
 i:v.i<=l.length
 vr:VR v.r
 now:v.r.now<=v.n
 n0:0<=v.n
 n1:v.n<=4*v.i
 ss:v.r.ss.length<=v.i
 ls:v.r.ls.length<=v.i
 ev:v.ev.length<=v.i
 lin:Lin v.r.ls (bx v.ev) v.n
 hg:HG v.r
 xv:XvI p v.r v.ev v.n
structure VvP (p:EVP) (l:List VSX) (o:RG×List EV):Prop where
 lin:∃n,Lin o.1.ls (bx o.2) n
 ls:o.1.ls.length<=l.length
 ev:o.2.length<=l.length
 ss:o.1.ss.length<=l.length
 vr:VR o.1
 hg:HG o.1
 now:o.1.now<=4*l.length
 xv:∃n,XvI p o.1 o.2 n
def VsD (l:List VSX):Prop:=∀j,(l.getD j default).a < 256/\(l.getD j default).b < 256/\(l.getD j default).t < 256
theorem GK {n:Int} {t:Nat} (h0:0<=n) (h1:n<=1000) (ht:t < 256):nxT n t=n+1+t % 4:=by
 unfold nxT
 have e:Int.tmod (t:Int) 4=(t:Int) % 4:=Int.tmod_eq_emod_of_nonneg (by omega)
 rw [wrap_i64 (x:=(t:Int)) (by omega) (by omega),e,wrap_i64 (x:=1+(t:Int) % 4) (by omega) (by omega),wrap_i64 (by omega) (by omega)]
 omega
theorem Ae {a:Nat} (h:a < 256):bz wd fB φTX rId [.int .i64 (IntKind.wrap .i64 (a:Int))] []:=by
 rw [wrap_i64 (by omega) (by omega)];exact HD a
theorem idq {a:Nat} {os:List AO} {x:TX} (h:a < 256) (q:rId [.int .i64 (IntKind.wrap .i64 (a:Int))] os x):cw x=true:=by
 rw [wrap_i64 (by omega) (by omega)] at q
 rw [q a rfl];exact Bu a
theorem LC {a:Nat} {os:List AO} {x:TX} (h:a < 256) (q:rId [.int .i64 (IntKind.wrap .i64 (a:Int))] os x):x.length<=400000:=by
 rw [wrap_i64 (by omega) (by omega)] at q
 rw [q a rfl]
 have:=xH a
 simp only [pw,List.mem_cons,List.not_mem_nil,or_false] at this
 rcases this with e | e | e | e | e | e <;> rw [e] <;> decide
theorem CK {r:RG} {a b:TX} {n:Int} {x:MEX} {k:Bool} (ka:cw a=true) (kb:cw b=true) (h:(bif k then !a==b else false)=true) (q:MeR r a b n x):x.2.2=0:=by
 have hab:a≠b:=λe=>by
  subst e
  rw [beq_self_eq_true] at h
  cases k <;> cases h
 rcases q with ⟨_,e⟩ | ⟨_,e⟩ | ⟨e,_⟩ | ⟨e,_⟩
 ·rw [ka,kb] at e;cases e
 ·exact absurd e hab
 ·exact e
 ·exact e
theorem FK {r:RG} {a b:TX} {n:Int} {x:MEX} {k:Bool} (ka:cw a=true) (kb:cw b=true) (h:(bif k then !a==b else false)=true) (q:MeR r a b n x):(x.2.2==0)=true:=beq_iff_eq.2 (CK ka kb h q)
section
variable {p:EVP} {l:List VSX} {v:VV}
theorem ET (hl:l.length<=50) (hd:VsD l) (hv:VvI p l v) (h:v.i < l.length):v.n < (nxT v.n (l.getD v.i default).t)/\(nxT v.n (l.getD v.i default).t)<=4*((v.i+1:Nat):Int)/\(nxT v.n (l.getD v.i default).t)<=1000:=by
 have h0:=hv.n0
 have h1:=hv.n1
 rw [GK h0 (by omega) (hd v.i).2.2]
 have:(((l.getD v.i default).t:Nat):Int) % 4 < 4:=Int.emod_lt_of_pos _ (by decide)
 have:0<=(((l.getD v.i default).t:Nat):Int) % 4:=Int.emod_nonneg _ (by decide)
 omega
theorem CJ (hl:l.length<=50) (hd:VsD l) (hv:VvI p l v) (h:v.i < l.length):v.r.now<=(nxT v.n (l.getD v.i default).t)/\(nxT v.n (l.getD v.i default).t)<=1099511627776:=by
 have:=ET hl hd hv h
 have:=hv.now
 omega
theorem CL (hl:l.length<=50) (hd:VsD l) (hv:VvI p l v) (h:v.i < l.length):v.r.ls.length < 64:=by have:=hv.ls;omega
theorem FE (hl:l.length<=50) (hd:VsD l) (hv:VvI p l v) (h:v.i < l.length):v.r.ss.length<=51:=by have:=hv.ss;omega
theorem Av (hl:l.length<=50) (hd:VsD l) (hv:VvI p l v) (h:v.i < l.length):v.r.ss.length < 128:=by have:=hv.ss;omega
theorem FM (hl:l.length<=50) (hd:VsD l) (hv:VvI p l v) (h:v.i < l.length):v.r.ls.length<=1000000:=by have:=hv.ls;omega
theorem FF (hl:l.length<=50) (hd:VsD l) (hv:VvI p l v) (h:v.i < l.length):v.r.ss.length<=1000000:=by have:=hv.ss;omega
theorem CH (hl:l.length<=50) (hd:VsD l) (hv:VvI p l v) (h:v.i < l.length):(roomy 112 (List.length v.ev+1)&&Nat.beq (List.length v.ev) (List.length v.ev))=true:=bd (by have:=hv.ev;omega)
theorem JQ (p:EVP) (l:List VSX):VvI p l ⟨0,0,rg0,[]⟩:=⟨Nat.zero_le _,Fz,Int.le_refl _,Int.le_refl _,by show (0:Int)<=4*((0:Nat):Int);omega,Nat.le_refl _,Nat.le_refl _,Nat.le_refl _,Be 0,λ_ h=>(List.not_mem_nil h).elim,Jy p 0⟩
theorem JM (hl:l.length<=50) (hv:VvI p l v):VvP p l (v.r,v.ev):=⟨⟨_,hv.lin⟩,by have:=hv.ls;have:=hv.i;show v.r.ls.length<=l.length;omega,by have:=hv.ev;have:=hv.i;show v.ev.length<=l.length;omega,by have:=hv.ss;have:=hv.i;show v.r.ss.length<=l.length;omega,hv.vr,hv.hg,by have:=hv.now;have:=hv.n1;have:=hv.i;show v.r.now<=4*(l.length:Int);omega,⟨_,hv.xv⟩⟩
theorem JP (hl:l.length<=50) (hd:VsD l) (hv:VvI p l v) (h:v.i < l.length) {a b:TX} {x:MEX} {c:TX} {s:Int} (q:MeR v.r a b (nxT v.n (l.getD v.i default).t) x) (h0:x.2.2=0):VvI p l ⟨v.i+1,(nxT v.n (l.getD v.i default).t),x.1,v.ev++[⟨c,s,3,(nxT v.n (l.getD v.i default).t),a,[],b,0,0,0⟩]⟩:=by
 obtain ⟨x1,x2,x3⟩:=ET hl hd hv h
 obtain ⟨y1,y2,y3,y4⟩:=GZ hv.vr (CJ hl hd hv h) (CL hl hd hv h) q h0
 have n0:=hv.n0
 have g1:=hv.ss
 have g2:=hv.ls
 have g3:=hv.ev
 refine ⟨h,y1,Int.le_of_eq y2,by show 0<=(nxT v.n (l.getD v.i default).t);omega,x2,by show x.1.ss.length<=v.i+1;omega,?_,by show (v.ev++[_]).length<=v.i+1;simp;omega,?_,Ha hv.hg q h0,E7 hv.xv x1 q h0 (show (3:Int)≠1 by decide)⟩
 ·show x.1.ls.length<=v.i+1
  rcases y4 with ⟨_,e⟩ | ⟨_,e⟩
  ·rw [e];omega
  ·rw [e];simp;omega
 ·show Lin x.1.ls (bx (v.ev++[_])) _
  rw [qO _ _ rfl]
  rcases y4 with ⟨he,e⟩ | ⟨_,e⟩
  ·rw [e];exact hv.lin.skip (Int.le_of_lt x1) he
  ·rw [e];exact hv.lin.both (Int.le_of_lt x1) a b
theorem JO (hl:l.length<=50) (hd:VsD l) (hv:VvI p l v) (h:v.i < l.length):VvI p l ⟨v.i+1,(nxT v.n (l.getD v.i default).t),v.r,v.ev⟩:=by
 obtain ⟨x1,x2,x3⟩:=ET hl hd hv h
 have n0:=hv.n0
 have g1:=hv.ss
 have g2:=hv.ls
 have g3:=hv.ev
 have g4:=hv.now
 exact ⟨h,hv.vr,by show v.r.now<=(nxT v.n (l.getD v.i default).t);omega,by show 0<=(nxT v.n (l.getD v.i default).t);omega,x2,Nat.le_succ_of_le g1,Nat.le_succ_of_le g2,Nat.le_succ_of_le g3,hv.lin.mono (Int.le_of_lt x1),hv.hg,vS (k:=v.r.now) hv.xv (Int.le_of_lt x1)⟩
theorem JN (hl:l.length<=50) (hd:VsD l) (hv:VvI p l v) (h:v.i < l.length) {id:TX} {y:AG} {ah:Bool} {x:ASX} {e:EV} (q:AsR v.r id aI y.exp y.arm ah (nxT v.n (l.getD v.i default).t) x) (h0:(x.2.2 !=0)=false) (hg:cw y.exp=true->1<=y.arm->FdG ⟨aI,y.exp,y.arm⟩) (hid:cw id=true) (hly:LyR p id (fdF v.r id (nxT v.n (l.getD v.i default).t)) y) (he:e.kind=1:=by rfl) (e1:e.id=id:=by rfl) (e2:e.time=(nxT v.n (l.getD v.i default).t):=by rfl) (e3:e.name=x.2.1.exp:=by rfl) (e4:e.arm=x.2.1.arm:=by rfl):VvI p l ⟨v.i+1,(nxT v.n (l.getD v.i default).t),x.1,v.ev++[e]⟩:=by
 obtain ⟨x1,x2,x3⟩:=ET hl hd hv h
 obtain ⟨y1,y2,y3,y4⟩:=EH hv.vr (CJ hl hd hv h) (Av hl hd hv h) q (by simpa using h0)
 have n0:=hv.n0
 have g1:=hv.ss
 have g2:=hv.ls
 have g3:=hv.ev
 refine ⟨h,y1,Int.le_of_eq y2,by show 0<=(nxT v.n (l.getD v.i default).t);omega,x2,by show x.1.ss.length<=v.i+1;omega,by show x.1.ls.length<=v.i+1;rw [y3];omega,by show (v.ev++[_]).length<=v.i+1;simp;omega,?_,IE hv.hg q (by simpa using h0) hg,E8 hv.xv hv.vr hv.hg.all (CJ hl hd hv h) (Av hl hd hv h) x1 hid hly q (by simpa using h0) e1 e2 e3 e4⟩
 show Lin x.1.ls (bx (v.ev++[_])) _
 rw [pj _ _ (by rw [he];decide),y3]
 exact hv.lin.mono (Int.le_of_lt x1)
theorem FN {r:RG} {a:TX} {n:Int} {x:List FD} (h:HG r) (q:FdP r a n x):∀f∈x,FdG f:=by
 rw [q.2 h.all];exact BF h
theorem FL {r:RG} {a y:TX} {n:Int} {x:List FD} {g:AG} {os:List AO} (hh:HG r) (q:rUs [.str a] os y) (q2:FdP r a n x) (h:LyR p y x g):LyR p a (fdF r a n) g:=by
 rw [q a rfl,q2.2 hh.all] at h;exact h
theorem FC {a y:TX} {os:List AO} (h:a.length<=400000) (q:rUs [.str a] os y):y.length<=400000:=by
 rw [q a rfl];exact h
theorem FJ (hl:l.length<=50) (hd:VsD l) (hv:VvI p l v) (h:v.i < l.length) {r2 r3:TX} {r5:MEX}:{env:=[(1,vsA l),(2,.ref 2 0),(4,.ref 4 0),(6,.ref 6 0),(7,.sl (.key 79) 10 (List.length (VV.ev v)+1) (ar (List.length (VV.ev v)) 1 (λj=>(List.getD (VV.ev v) j default).c) (ag [.str [],.int .i64 0,.int .i64 0,.int .i64 0,.str [],.str [],.str [],.int .i64 0,.int .i64 0,.int .i64 0] [(0,.agg [.str [119,101,98],.int .i64 (IntKind.wrap .i64 ((↑(VV.i v):Int)+1)),.int .i64 3,.int .i64 (IntKind.wrap .i64 (VV.n v+IntKind.wrap .i64 (1+Int.tmod (IntKind.wrap .i64 (↑(VSX.t (List.getD l (VV.i v) default)):Int)) 4))),.str r2,.str [],.str r3,.int .i64 0,.int .i64 0,.int .i64 0])]))),(8,.int .i64 (IntKind.wrap .i64 (VV.n v+IntKind.wrap .i64 (1+Int.tmod (IntKind.wrap .i64 (↑(VSX.t (List.getD l (VV.i v) default)):Int)) 4)))),(9,.int .i64 (IntKind.wrap .i64 ((↑(VV.i v):Int)+1)))],objs:=[(2,.cells (gB p)),(4,.cells [.int .i64 0,.sl .fit 0 0 λx=>[],.sl .fit 0 0 λx=>[] ]),(6,.cells (RG.c r5.1)),(79,.own 10 (List.length (VV.ev v)+1))]}=(λv:VV=>({env:=[(1,vsA l),(2,.ref 2 0),(4,.ref 4 0),(6,.ref 6 0),(7,.sl (.key 79) 10 v.ev.length λj=>(v.ev.getD j default).c),(8,.int .i64 v.n),(9,.int .i64 (v.i:Int))],objs:=[(2,.cells (gB p)),(4,.cells [.int .i64 0,.sl .fit 0 0 λx=>[],.sl .fit 0 0 λx=>[] ]),(6,.cells v.r.c),(79,.own 10 v.ev.length)]}:St)) ⟨v.i+1,(nxT v.n (l.getD v.i default).t),r5.1,v.ev++[(⟨[119,101,98],IntKind.wrap .i64 ((v.i:Int)+1),3,(nxT v.n (l.getD v.i default).t),r2,[],r3,0,0,0⟩)]⟩:=by
 rw [gk EV.c v.ev (⟨[119,101,98],IntKind.wrap .i64 ((v.i:Int)+1),3,(nxT v.n (l.getD v.i default).t),r2,[],r3,0,0,0⟩) (ag [.str [],.int .i64 0,.int .i64 0,.int .i64 0,.str [],.str [],.str [],.int .i64 0,.int .i64 0,.int .i64 0] [(0,.agg [.str [119,101,98],.int .i64 (IntKind.wrap .i64 ((↑(VV.i v):Int)+1)),.int .i64 3,.int .i64 (IntKind.wrap .i64 (VV.n v+IntKind.wrap .i64 (1+Int.tmod (IntKind.wrap .i64 (↑(VSX.t (List.getD l (VV.i v) default)):Int)) 4))),.str r2,.str [],.str r3,.int .i64 0,.int .i64 0,.int .i64 0])]) rfl]
 show _=({env:=[(1,vsA l),(2,.ref 2 0),(4,.ref 4 0),(6,.ref 6 0),(7,.sl (.key 79) 10 (v.ev++[(⟨[119,101,98],IntKind.wrap .i64 ((v.i:Int)+1),3,(nxT v.n (l.getD v.i default).t),r2,[],r3,0,0,0⟩:EV)]).length λj=>((v.ev++[(⟨[119,101,98],IntKind.wrap .i64 ((v.i:Int)+1),3,(nxT v.n (l.getD v.i default).t),r2,[],r3,0,0,0⟩:EV)]).getD j default).c),(8,.int .i64 (nxT v.n (l.getD v.i default).t)),(9,.int .i64 ((v.i+1:Nat):Int))],objs:=[(2,.cells (gB p)),(4,.cells [.int .i64 0,.sl .fit 0 0 λx=>[],.sl .fit 0 0 λx=>[] ]),(6,.cells r5.1.c),(79,.own 10 (v.ev++[(⟨[119,101,98],IntKind.wrap .i64 ((v.i:Int)+1),3,(nxT v.n (l.getD v.i default).t),r2,[],r3,0,0,0⟩:EV)]).length)]}:St)
 rw [show (v.ev++[((⟨[119,101,98],IntKind.wrap .i64 ((v.i:Int)+1),3,(nxT v.n (l.getD v.i default).t),r2,[],r3,0,0,0⟩):EV)]).length=v.ev.length+1 by simp,bC (by omega)]
 rfl
theorem FH (hl:l.length<=50) (hd:VsD l) (hv:VvI p l v) (h:v.i < l.length):{env:=[(1,vsA l),(2,.ref 2 0),(4,.ref 4 0),(6,.ref 6 0),(7,.sl (.key 79) 10 (List.length (VV.ev v)) λj=>(List.getD (VV.ev v) j default).c),(8,.int .i64 (IntKind.wrap .i64 (VV.n v+IntKind.wrap .i64 (1+Int.tmod (IntKind.wrap .i64 (↑(VSX.t (List.getD l (VV.i v) default)):Int)) 4)))),(9,.int .i64 (IntKind.wrap .i64 ((↑(VV.i v):Int)+1)))],objs:=[(2,.cells (gB p)),(4,.cells [.int .i64 0,.sl .fit 0 0 λx=>[],.sl .fit 0 0 λx=>[] ]),(6,.cells (RG.c (VV.r v))),(79,.own 10 (List.length (VV.ev v)))]}=(λv:VV=>({env:=[(1,vsA l),(2,.ref 2 0),(4,.ref 4 0),(6,.ref 6 0),(7,.sl (.key 79) 10 v.ev.length λj=>(v.ev.getD j default).c),(8,.int .i64 v.n),(9,.int .i64 (v.i:Int))],objs:=[(2,.cells (gB p)),(4,.cells [.int .i64 0,.sl .fit 0 0 λx=>[],.sl .fit 0 0 λx=>[] ]),(6,.cells v.r.c),(79,.own 10 v.ev.length)]}:St)) ⟨v.i+1,(nxT v.n (l.getD v.i default).t),v.r,v.ev⟩:=by
 rw [bC (by omega)]
 rfl
theorem FG (hl:l.length<=50) (hd:VsD l) (hv:VvI p l v) (h:v.i < l.length) {r2:TX} {r10:ASX}:{env:=[(1,vsA l),(2,.ref 2 0),(4,.ref 4 0),(6,.ref 6 0),(7,.sl (.key 79) 10 (List.length (VV.ev v)+1) (ar (List.length (VV.ev v)) 1 (λj=>(List.getD (VV.ev v) j default).c) (ag [.str [],.int .i64 0,.int .i64 0,.int .i64 0,.str [],.str [],.str [],.int .i64 0,.int .i64 0,.int .i64 0] [(0,.agg [.str [119,101,98],.int .i64 (IntKind.wrap .i64 ((↑(VV.i v):Int)+1)),.int .i64 1,.int .i64 (IntKind.wrap .i64 (VV.n v+IntKind.wrap .i64 (1+Int.tmod (IntKind.wrap .i64 (↑(VSX.t (List.getD l (VV.i v) default)):Int)) 4))),.str r2,.str (SL.exp r10.2.1),.str [],.int .i64 1,.int .i64 (SL.arm r10.2.1),.int .i64 0])]))),(8,.int .i64 (IntKind.wrap .i64 (VV.n v+IntKind.wrap .i64 (1+Int.tmod (IntKind.wrap .i64 (↑(VSX.t (List.getD l (VV.i v) default)):Int)) 4)))),(9,.int .i64 (IntKind.wrap .i64 ((↑(VV.i v):Int)+1)))],objs:=[(2,.cells (gB p)),(4,.cells [.int .i64 0,.sl .fit 0 0 λx=>[],.sl .fit 0 0 λx=>[] ]),(6,.cells (RG.c r10.1)),(79,.own 10 (List.length (VV.ev v)+1))]}=(λv:VV=>({env:=[(1,vsA l),(2,.ref 2 0),(4,.ref 4 0),(6,.ref 6 0),(7,.sl (.key 79) 10 v.ev.length λj=>(v.ev.getD j default).c),(8,.int .i64 v.n),(9,.int .i64 (v.i:Int))],objs:=[(2,.cells (gB p)),(4,.cells [.int .i64 0,.sl .fit 0 0 λx=>[],.sl .fit 0 0 λx=>[] ]),(6,.cells v.r.c),(79,.own 10 v.ev.length)]}:St)) ⟨v.i+1,(nxT v.n (l.getD v.i default).t),r10.1,v.ev++[(⟨[119,101,98],IntKind.wrap .i64 ((v.i:Int)+1),1,(nxT v.n (l.getD v.i default).t),r2,r10.2.1.exp,[],1,r10.2.1.arm,0⟩)]⟩:=by
 rw [gk EV.c v.ev (⟨[119,101,98],IntKind.wrap .i64 ((v.i:Int)+1),1,(nxT v.n (l.getD v.i default).t),r2,r10.2.1.exp,[],1,r10.2.1.arm,0⟩) (ag [.str [],.int .i64 0,.int .i64 0,.int .i64 0,.str [],.str [],.str [],.int .i64 0,.int .i64 0,.int .i64 0] [(0,.agg [.str [119,101,98],.int .i64 (IntKind.wrap .i64 ((↑(VV.i v):Int)+1)),.int .i64 1,.int .i64 (IntKind.wrap .i64 (VV.n v+IntKind.wrap .i64 (1+Int.tmod (IntKind.wrap .i64 (↑(VSX.t (List.getD l (VV.i v) default)):Int)) 4))),.str r2,.str (SL.exp r10.2.1),.str [],.int .i64 1,.int .i64 (SL.arm r10.2.1),.int .i64 0])]) rfl]
 show _=({env:=[(1,vsA l),(2,.ref 2 0),(4,.ref 4 0),(6,.ref 6 0),(7,.sl (.key 79) 10 (v.ev++[(⟨[119,101,98],IntKind.wrap .i64 ((v.i:Int)+1),1,(nxT v.n (l.getD v.i default).t),r2,r10.2.1.exp,[],1,r10.2.1.arm,0⟩:EV)]).length λj=>((v.ev++[(⟨[119,101,98],IntKind.wrap .i64 ((v.i:Int)+1),1,(nxT v.n (l.getD v.i default).t),r2,r10.2.1.exp,[],1,r10.2.1.arm,0⟩:EV)]).getD j default).c),(8,.int .i64 (nxT v.n (l.getD v.i default).t)),(9,.int .i64 ((v.i+1:Nat):Int))],objs:=[(2,.cells (gB p)),(4,.cells [.int .i64 0,.sl .fit 0 0 λx=>[],.sl .fit 0 0 λx=>[] ]),(6,.cells r10.1.c),(79,.own 10 (v.ev++[(⟨[119,101,98],IntKind.wrap .i64 ((v.i:Int)+1),1,(nxT v.n (l.getD v.i default).t),r2,r10.2.1.exp,[],1,r10.2.1.arm,0⟩:EV)]).length)]}:St)
 rw [show (v.ev++[((⟨[119,101,98],IntKind.wrap .i64 ((v.i:Int)+1),1,(nxT v.n (l.getD v.i default).t),r2,r10.2.1.exp,[],1,r10.2.1.arm,0⟩):EV)]).length=v.ev.length+1 by simp,bC (by omega)]
 rfl
end
theorem Aw (p:EVP) (l:List VSX) (hp:p.Ok) (hl:l.length<=50) (hd:VsD l):∃ (u:St->Bool) (w:St->RG×List EV),(∀v:VV,VvI p l v->aW u w ((λv:VV=>({env:=[(1,vsA l),(2,.ref 2 0),(4,.ref 4 0),(6,.ref 6 0),(7,.sl (.key 79) 10 v.ev.length λj=>(v.ev.getD j default).c),(8,.int .i64 v.n),(9,.int .i64 (v.i:Int))],objs:=[(2,.cells (gB p)),(4,.cells [.int .i64 0,.sl .fit 0 0 λx=>[],.sl .fit 0 0 λx=>[] ]),(6,.cells v.r.c),(79,.own 10 v.ev.length)]}:St)) v) (VvP p l))/\∀C:List (List Nat×Orc),bq (V0.run [eId,eUs,eMe,eFd,eLy,eAs] 1 [] C FB bQ) bQ [1,1,1,1,0,1,0] (mkO u w (λ(t:RG×List EV) k=>k (.exit 0) {env:=[(4,.ref 4 0),(6,.ref 6 0),(7,.sl (.key 79) 10 t.2.length λj=>(t.2.getD j default).c)],objs:=[(4,.cells [.int .i64 0,.sl .fit 0 0 λx=>[],.sl .fit 0 0 λx=>[] ]),(6,.cells t.1.c),(79,.own 10 t.2.length)]})):=
 bX (V:=V0) (T:=[eId,eUs,eMe,eFd,eLy,eAs]) (d:=1) (W:=FB) (f:=bQ) (p:=[1,1,1,1,0,1,0]) (Lf:=λL=>L) (λv:VV=>{env:=[(1,vsA l),(2,.ref 2 0),(4,.ref 4 0),(6,.ref 6 0),(7,.sl (.key 79) 10 v.ev.length λj=>(v.ev.getD j default).c),(8,.int .i64 v.n),(9,.int .i64 (v.i:Int))],objs:=[(2,.cells (gB p)),(4,.cells [.int .i64 0,.sl .fit 0 0 λx=>[],.sl .fit 0 0 λx=>[] ]),(6,.cells v.r.c),(79,.own 10 v.ev.length)]}) (VvI p l) (λv=>l.length - v.i) (λ(t:RG×List EV) k=>k (.exit 0) {env:=[(4,.ref 4 0),(6,.ref 6 0),(7,.sl (.key 79) 10 t.2.length λj=>(t.2.getD j default).c)],objs:=[(4,.cells [.int .i64 0,.sl .fit 0 0 λx=>[],.sl .fit 0 0 λx=>[] ]),(6,.cells t.1.c),(79,.own 10 t.2.length)]}) (VvP p l) (by kernel_rfl) (λv hv=>.b (decide ((↑(VV.i v):Int) < (↑(List.length l):Int))) (λh1=>
   .n (c:=within (↑(VV.i v):Int) (List.length l)) (aO (aN h1)) (
   .call (Ae (hd v.i).1) λr2 q2=>
   .call (Ae (hd v.i).2.1) λr3 q3=>
   .b (bif Int.tmod (↑(VSX.k (List.getD l (VV.i v) default)):Int) 4==0 then !r2==r3 else false) (λh4=>
    .call (Hb v.r r2 r3 (nxT v.n (l.getD v.i default).t) hv.vr (CJ hl hd hv (aN h1)) (CL hl hd hv (aN h1)) (FE hl hd hv (aN h1))) λr5 q5=>
    .yea (c:=r5.2.2==0) (B:=λ_ k kn=>cond (roomy 112 (List.length (VV.ev v)+1)&&Nat.beq (List.length (VV.ev v)) (List.length (VV.ev v))) (kn ({env:=[(1,vsA l),(2,.ref 2 0),(4,.ref 4 0),(6,.ref 6 0),(7,.sl (.key 79) 10 (List.length (VV.ev v)+1) (ar (List.length (VV.ev v)) 1 (λj=>(List.getD (VV.ev v) j default).c) (ag [.str [],.int .i64 0,.int .i64 0,.int .i64 0,.str [],.str [],.str [],.int .i64 0,.int .i64 0,.int .i64 0] [(0,.agg [.str [119,101,98],.int .i64 (IntKind.wrap .i64 ((↑(VV.i v):Int)+1)),.int .i64 3,.int .i64 (IntKind.wrap .i64 (VV.n v+IntKind.wrap .i64 (1+Int.tmod (IntKind.wrap .i64 (↑(VSX.t (List.getD l (VV.i v) default)):Int)) 4))),.str r2,.str [],.str r3,.int .i64 0,.int .i64 0,.int .i64 0])]))),(8,.int .i64 (IntKind.wrap .i64 (VV.n v+IntKind.wrap .i64 (1+Int.tmod (IntKind.wrap .i64 (↑(VSX.t (List.getD l (VV.i v) default)):Int)) 4)))),(9,.int .i64 (IntKind.wrap .i64 ((↑(VV.i v):Int)+1)))],objs:=[(2,.cells (gB p)),(4,.cells [.int .i64 0,.sl .fit 0 0 λx=>[],.sl .fit 0 0 λx=>[] ]),(6,.cells (RG.c (VV.r v))),(79,.own 10 (List.length (VV.ev v)+1))]})) (none)) (FK (idq (hd v.i).1 q2) (idq (hd v.i).2.1 q3) h4 (q5 _ _ _ _ rfl)) (
    .n (c:=roomy 112 (List.length (VV.ev v)+1)&&Nat.beq (List.length (VV.ev v)) (List.length (VV.ev v))) (CH hl hd hv (aN h1)) (
    .go {env:=[(1,vsA l),(2,.ref 2 0),(4,.ref 4 0),(6,.ref 6 0),(7,.sl (.key 79) 10 (List.length (VV.ev v)+1) (ar (List.length (VV.ev v)) 1 (λj=>(List.getD (VV.ev v) j default).c) (ag [.str [],.int .i64 0,.int .i64 0,.int .i64 0,.str [],.str [],.str [],.int .i64 0,.int .i64 0,.int .i64 0] [(0,.agg [.str [119,101,98],.int .i64 (IntKind.wrap .i64 ((↑(VV.i v):Int)+1)),.int .i64 3,.int .i64 (IntKind.wrap .i64 (VV.n v+IntKind.wrap .i64 (1+Int.tmod (IntKind.wrap .i64 (↑(VSX.t (List.getD l (VV.i v) default)):Int)) 4))),.str r2,.str [],.str r3,.int .i64 0,.int .i64 0,.int .i64 0])]))),(8,.int .i64 (IntKind.wrap .i64 (VV.n v+IntKind.wrap .i64 (1+Int.tmod (IntKind.wrap .i64 (↑(VSX.t (List.getD l (VV.i v) default)):Int)) 4)))),(9,.int .i64 (IntKind.wrap .i64 ((↑(VV.i v):Int)+1)))],objs:=[(2,.cells (gB p)),(4,.cells [.int .i64 0,.sl .fit 0 0 λx=>[],.sl .fit 0 0 λx=>[] ]),(6,.cells (RG.c r5.1)),(79,.own 10 (List.length (VV.ev v)+1))]} ⟨v.i+1,(nxT v.n (l.getD v.i default).t),r5.1,v.ev++[⟨[119,101,98],IntKind.wrap .i64 ((v.i:Int)+1),3,(nxT v.n (l.getD v.i default).t),r2,[],r3,0,0,0⟩]⟩ (JP hl hd hv (aN h1) (q5 _ _ _ _ rfl) (CK (idq (hd v.i).1 q2) (idq (hd v.i).2.1 q3) h4 (q5 _ _ _ _ rfl))) (iz (aN h1)) (FJ hl hd hv (aN h1))))) λh4=>
   .call (CM r2) λr7 q7=>
   .call (HV v.r r2 (nxT v.n (l.getD v.i default).t) hv.vr (FM hl hd hv (aN h1)) (FF hl hd hv (aN h1))) λr8 q8=>
   .call (Hm p r7 r8 hp (FC (LC (hd v.i).1 q2) q7) (q8 _ _ _ rfl).1) λr9 q9=>
   .call (EK v.r r2 aI r9.exp r9.bk r9.arm r9.held (nxT v.n (l.getD v.i default).t) hv.vr (CJ hl hd hv (aN h1)) (Av hl hd hv (aN h1))) λr10 q10=>
   .b (r10.2.2 !=0) (λh11=>
    .go {env:=[(1,vsA l),(2,.ref 2 0),(4,.ref 4 0),(6,.ref 6 0),(7,.sl (.key 79) 10 (List.length (VV.ev v)) λj=>(List.getD (VV.ev v) j default).c),(8,.int .i64 (IntKind.wrap .i64 (VV.n v+IntKind.wrap .i64 (1+Int.tmod (IntKind.wrap .i64 (↑(VSX.t (List.getD l (VV.i v) default)):Int)) 4)))),(9,.int .i64 (IntKind.wrap .i64 ((↑(VV.i v):Int)+1)))],objs:=[(2,.cells (gB p)),(4,.cells [.int .i64 0,.sl .fit 0 0 λx=>[],.sl .fit 0 0 λx=>[] ]),(6,.cells (RG.c (VV.r v))),(79,.own 10 (List.length (VV.ev v)))]} ⟨v.i+1,(nxT v.n (l.getD v.i default).t),v.r,v.ev⟩ (JO hl hd hv (aN h1)) (iz (aN h1)) (FH hl hd hv (aN h1))) λh11=>
   .n (c:=roomy 112 (List.length (VV.ev v)+1)&&Nat.beq (List.length (VV.ev v)) (List.length (VV.ev v))) (CH hl hd hv (aN h1)) (
   .go {env:=[(1,vsA l),(2,.ref 2 0),(4,.ref 4 0),(6,.ref 6 0),(7,.sl (.key 79) 10 (List.length (VV.ev v)+1) (ar (List.length (VV.ev v)) 1 (λj=>(List.getD (VV.ev v) j default).c) (ag [.str [],.int .i64 0,.int .i64 0,.int .i64 0,.str [],.str [],.str [],.int .i64 0,.int .i64 0,.int .i64 0] [(0,.agg [.str [119,101,98],.int .i64 (IntKind.wrap .i64 ((↑(VV.i v):Int)+1)),.int .i64 1,.int .i64 (IntKind.wrap .i64 (VV.n v+IntKind.wrap .i64 (1+Int.tmod (IntKind.wrap .i64 (↑(VSX.t (List.getD l (VV.i v) default)):Int)) 4))),.str r2,.str (SL.exp r10.2.1),.str [],.int .i64 1,.int .i64 (SL.arm r10.2.1),.int .i64 0])]))),(8,.int .i64 (IntKind.wrap .i64 (VV.n v+IntKind.wrap .i64 (1+Int.tmod (IntKind.wrap .i64 (↑(VSX.t (List.getD l (VV.i v) default)):Int)) 4)))),(9,.int .i64 (IntKind.wrap .i64 ((↑(VV.i v):Int)+1)))],objs:=[(2,.cells (gB p)),(4,.cells [.int .i64 0,.sl .fit 0 0 λx=>[],.sl .fit 0 0 λx=>[] ]),(6,.cells (RG.c r10.1)),(79,.own 10 (List.length (VV.ev v)+1))]} ⟨v.i+1,(nxT v.n (l.getD v.i default).t),r10.1,v.ev++[⟨[119,101,98],IntKind.wrap .i64 ((v.i:Int)+1),1,(nxT v.n (l.getD v.i default).t),r2,r10.2.1.exp,[],1,r10.2.1.arm,0⟩]⟩ (JN hl hd hv (aN h1) (q10 _ _ _ _ _ _ _ _ rfl) h11 (Bb (FN hv.hg (q8 _ _ _ rfl)) (q9 p r7 r8 rfl)) (idq (hd v.i).1 q2) (FL hv.hg q7 (q8 _ _ _ rfl) (q9 p r7 r8 rfl))) (iz (aN h1)) (FG hl hd hv (aN h1))))) λh1=>
  .fi (v.r,v.ev) (JM hl hv)) (λv L k kn=>by kernel_rfl)
def φVi (x:RG×List EV):AV×List AO:=(.tup [rgA x.1,evA x.2],[])
def rVi (p:EVP) (A:List AV) (_:List AO) (x:RG×List EV):Prop:=∃e l,A=[e,vsA l]/\VvP p l x
theorem FO (p:EVP) (l:List VSX) (hp:p.Ok) (hl:l.length<=50) (hd:VsD l):bz wd bQ φVi (rVi p) [ik p,vsA l] []:=by
 obtain ⟨u,w,hu,hc⟩:=Aw p l hp hl hd
 exact bn (V:=V0) (T:=[eId,eUs,eMe,eFd,eLy,eAs]) (d:=1) 0 (aE (hc _) ao) Aq (.lp (hu ⟨0,0,rg0,[]⟩ (JQ p l)) λr1 q1=>
  .r r1 ⟨_,_,rfl,q1⟩) (by kernel_rfl)
noncomputable abbrev eVi (p:EVP):Ent:=dK wd bQ φVi (rVi p)
end Go.WF

namespace Go.Ab
open Go Go.RowKit Go.ChangeShapes
mutual
def jY {H:Type}:DataW H->Nat
 | .lit (.string bytes)=>bytes.length+1
 | .lit _=>1
 | .nil=>1
 | .ptr d=>jY d+1
 | .slice elems spare=>lr elems+lr spare+1
 | .agg parts=>lr parts+1
 | .iface _ d=>jY d+1
 | .map entries=>Ez entries+1
 | .held _=>1
def lr {H:Type}:List (DataW H)->Nat
 | []=>0
 | d::r=>jY d+lr r
def Ez {H:Type}:List (Lit×DataW H)->Nat
 | []=>0
 | x::r=>Iu x+Ez r
def Iu {H:Type}:Lit×DataW H->Nat
 | (.string bytes,d)=>bytes.length+jY d+1
 | (_,d)=>jY d+1
end
theorem xZ {H:Type} (d:DataW H):1<=jY d:=by
 cases d with
 | lit l=>cases l <;> simp [jY]
 | _=>simp [jY]
theorem rq {H:Type}:∀l:List (DataW H),l.length<=lr l
 | []=>by simp [lr]
 | d::r=>by have:=xZ d;have:=rq r;simp only [List.length_cons,lr];omega
theorem uJ {H:Type}:∀ {l:List (DataW H)} {i:Nat} {d:DataW H},l[i]?=some d->jY d<=lr l
 | [],_,_,h=>by simp at h
 | e::r,0,d,h=>by simp at h;subst h;simp only [lr];omega
 | e::r,i+1,d,h=>by have:=uJ (l:=r) (i:=i) (by simpa using h);simp only [lr];omega
structure CellsR (c:Cx) (us:List AV) (vs:List Value):Prop where
 len:vs.length=us.length
 one:∀u∈us,u.one=true/\u.keys=[]
 rep:∀ (i:Nat) (u:AV),us[i]?=some u->Rep c u (vs.getD i undef)
theorem kW:∀ {us:List AV},(∀u∈us,u.keys=[])->au us=[]
 | [],_=>rfl
 | u::r,h=>by rw [au,h u (by simp),kW λv hv=>h v (List.mem_cons_of_mem _ hv)];rfl
theorem CellsR.nil (c:Cx):CellsR c [] []:=⟨rfl,λ_ h=>by simp at h,λi u h=>by simp at h⟩
theorem CellsR.append {c:Cx} {us us':List AV} {vs vs':List Value} (h:CellsR c us vs) (h':CellsR c us' vs'):CellsR c (us++us') (vs++vs'):=by
 refine ⟨by simp [h.len,h'.len],λu hu=>?_,λi u hu=>?_⟩
 ·rcases List.mem_append.1 hu with hu | hu
  ·exact h.one u hu
  ·exact h'.one u hu
 ·by_cases hi:i < us.length
  ·rw [List.getElem?_append_left hi] at hu
   have:=h.rep i u hu
   rw [List.getD_eq_getElem?_getD] at this ⊢
   rwa [List.getElem?_append_left (by rw [h.len];exact hi)]
  ·rw [List.getElem?_append_right (by omega)] at hu
   have:=h'.rep _ u hu
   rw [List.getD_eq_getElem?_getD] at this ⊢
   rw [List.getElem?_append_right (by rw [h.len];omega),h.len]
   exact this
theorem CellsR.A5 {c:Cx} {u:AV} {v:Value} (h1:u.one=true) (h2:u.keys=[]) (h:Rep c u v):CellsR c [u] [v]:=
 ⟨rfl,λx hx=>by simp at hx;subst hx;exact ⟨h1,h2⟩,λi x hx=>by
  cases i with
  | zero=>simp at hx;subst hx;exact h
  | succ i=>simp at hx⟩
theorem CellsR.agg {c:Cx} {us:List AV} {vs:Array Value} (h:CellsR c us vs.toList):Rep c (.agg us) (.agg vs)/\(AV.agg us).keys=[]:=by
 refine ⟨.agg _ _ (by simpa using h.len) (λi u hu=>(h.one u (List.mem_of_getElem? hu)).1) (λi u hu=>?_),?_⟩
 ·have:=h.rep i u hu
  rw [List.getD_eq_getElem?_getD] at this
  rw [Array.getD_eq_getD_getElem?]
  simpa using this
 ·simp only [AV.keys]
  exact kW λu hu=>(h.one u hu).2
section
variable {H:Type} (enc:TypeId×Value->H) (P:Program) (w:World) (N:Nat)
variable {α β:Type}
def Reads (n:Nat) (t:TypeId) (cl:α->List AV) (Ok:α->Prop):Prop:=
 ∀cs x,DataW.trod enc P w 0 (λ_=>true) true n t cs=some x->jY x.1<=N->∃a,CellsR (db w) (cl a) cs/\Ok a
def uN (n:Nat) (fs:List Field) (off len:Nat) (cl:α->List AV) (Ok:α->Prop):Prop:=
 ∀ (cs:List Value) (xs:List (DataW H×List MemPlace)),xs.length=fs.length->off+len<=cs.length->
  (∀ (i:Nat) (f:Field),fs[i]?=some f->DataW.trod enc P w 0 (λ_=>true) true n f.type ((cs.drop f.offset).take (P.cellsOf f.type))=xs[i]?)->
  lr (xs.map (·.1))<=N->∃a,CellsR (db w) (cl a) ((cs.drop off).take len)/\Ok a
variable {enc P w N}
theorem Reads.map {n:Nat} {t:TypeId} {cl:α->List AV} {Ok:α->Prop} {cl':β->List AV} {Ok':β->Prop} (h:Reads enc P w N n t cl Ok) (g:α->β) (hc:∀a,cl' (g a)=cl a) (ho:∀a,Ok a->Ok' (g a)):Reads enc P w N n t cl' Ok':=λcs x hx hb=>by
 obtain ⟨a,h1,h2⟩:=h cs x hx hb
 exact ⟨g a,by rw [hc];exact h1,ho a h2⟩
theorem wT {n:Nat} {t:TypeId} {k:IntKind} (ht:P.underlying t=some (.int k)):Reads enc P w N n t (λz:Int=>[.int k z]) (λz=>(Lit.int k z).wf=true):=λcs x hx hb=>by
 obtain ⟨z,rfl,rfl,hw⟩:=DataW.trod_int ht hx
 exact ⟨z,.A5 rfl rfl (.int _ _),hw⟩
theorem ve {n off:Nat}:uN enc P w N n [] off 0 (λ_:Unit=>[]) (λ_=>True):=λcs xs _ _ _ _=>⟨(),by rw [List.take_zero];exact .nil _,trivial⟩
theorem iv {n off n1 n2:Nat} {f:Field} {fs:List Field} {cl1:α->List AV} {Ok1:α->Prop} {cl2:β->List AV} {Ok2:β->Prop} (h1:Reads enc P w N n f.type cl1 Ok1) (ho:f.offset=off) (hn:P.cellsOf f.type=n1)
  (h2:uN enc P w N n fs (off+n1) n2 cl2 Ok2):uN enc P w N n (f::fs) off (n1+n2) (λp:α×β=>cl1 p.1++cl2 p.2) (λp=>Ok1 p.1/\Ok2 p.2):=λcs xs hl hlen hx hb=>by
 cases xs with
 | nil=>simp at hl
 | cons x xs=>
  simp only [List.map_cons,lr] at hb
  have hx0:=hx 0 f rfl
  rw [ho,hn] at hx0
  obtain ⟨a,e1,e2⟩:=h1 _ x (by simpa using hx0) (by omega)
  obtain ⟨b,g1,g2⟩:=h2 cs xs (by simpa using hl) (by omega) (λi f' hf=>by simpa using hx (i+1) f' (by simpa using hf)) (by omega)
  refine ⟨(a,b),?_,e2,g2⟩
  rw [List.take_add,List.drop_drop]
  exact e1.append g1
theorem qC {n:Nat} {t:TypeId} {fs:Array Field} {sz:Nat} {cl:α->List AV} {Ok:α->Prop} (ht:P.underlying t=some (.struct fs)) (hz:P.cellsOf t=sz) (h:∀m,n=m+1->uN enc P w N m fs.toList 0 sz cl Ok):Reads enc P w N n t cl Ok:=λcs x hx hb=>by
 obtain ⟨xs,m,rfl,rfl,hl,hxl,hf⟩:=DataW.trod_struct ht hx
 simp only [jY] at hb
 obtain ⟨a,h1,h2⟩:=h m rfl cs xs (by simpa using hxl) (by omega) (λi f hi=>hf i f (by simpa using hi)) (by omega)
 refine ⟨a,?_,h2⟩
 rw [List.drop_zero,List.take_of_length_le (by omega)] at h1
 exact h1
theorem sw {γ δ:Type} {f:γ->Option δ}:∀ {l:List γ} {r:List δ},l.mapM f=some r->r.length=l.length/\∀ (i:Nat) (a:γ),l[i]?=some a->f a=r[i]?
 | [],r,h=>by simp at h;subst h;simp
 | x::l,r,h=>by
  simp only [List.mapM_cons,Option.bind_eq_bind,Option.bind_eq_some_iff,Option.pure_def,Option.some.injEq] at h
  obtain ⟨y,hy,ys,hys,rfl⟩:=h
  obtain ⟨h1,h2⟩:=sw hys
  refine ⟨by simp [h1],λi a ha=>?_⟩
  cases i with
  | zero=>simp at ha;subst ha;simpa using hy
  | succ i=>simpa using h2 i a (by simpa using ha)
theorem rm {a:Addr} {n:Nat} {cs:List Value} (h:w.cells? 0 a n=some cs):cs.length=n/\∀i,i < n->w.cell? (a.add i)=cs[i]?:=by
 unfold World.cells? at h
 rw [if_pos (Nat.zero_le _)] at h
 obtain ⟨h1,h2⟩:=sw h
 refine ⟨by simpa using h1,λi hi=>?_⟩
 exact h2 i i (by simp [hi])
open Classical in
theorem rY {n:Nat} {t e:TypeId} {sz:Nat} [Inhabited α] {cl:α->List AV} {Ok:α->Prop} (get:List α->Nat->List AV) (ht:P.underlying t=some (.slice e)) (hz:P.cellsOf e=sz) (hp:0 < sz) (hlen:∀a,(cl a).length=sz)
  (hget:∀ (l:List α) j,j < l.length->get l j=cl (l.getD j default)) (h:∀m,n=m+1->Reads enc P w N m e cl Ok) :
  Reads enc P w N n t (λl:List α=>[.sl .no sz l.length (get l)]) (λl=>l.length<=maxLen/\l.length+1<=N/\∀a∈l,Ok a):=λcs x hx hb=>by
 rcases DataW.trod_slice ht hx with ⟨rfl,rfl⟩ | ⟨ad,len,cap,elems,rest,m,rfl,rfl,rfl,_,hle,hcap,hel,hat,hsp,_⟩
 ·refine ⟨[],.A5 rfl rfl ?_,by simp,by simpa [jY] using hb,by simp⟩
  exact .slNil .no sz _ trivial
 ·simp only [jY] at hb
  rw [hz] at hat hsp
  have hb1:elems.length<=lr (elems.map (·.1)):=by have:=rq (elems.map (·.1));simpa using this
  have hel1:∀i,i < len->∃vs y a,elems[i]?=some y/\w.cells? 0 (ad.add (i*sz)) sz=some vs/\CellsR (db w) (cl a) vs/\Ok a:=by
   intro i hi
   have hi':i < elems.length:=by omega
   have:=hat i hi
   rw [List.getElem?_eq_getElem hi',Option.bind_eq_some_iff] at this
   obtain ⟨vs,h1,h2⟩:=this
   have hbi:jY (elems[i]).1<=lr (elems.map (·.1)):=uJ (i:=i) (by simp [List.getElem?_eq_getElem hi'])
   obtain ⟨a,h3,h4⟩:=h m rfl vs _ h2 (by omega)
   exact ⟨vs,_,a,List.getElem?_eq_getElem hi',h1,h3,h4⟩
  have hspot:0 < cap->ad.spot=none:=by
   intro hc
   have:∃vs,w.cells? 0 (ad.add (0*sz)) sz=some vs:=by
    by_cases h0:0 < len
    ·obtain ⟨vs,_,_,_,h2,_⟩:=hel1 0 h0
     exact ⟨vs,h2⟩
    ·obtain rfl:len=0:=by omega
     have h1:=(hsp rfl).2 0 (by omega)
     have h2:=(hsp rfl).1
     cases hr:rest with
     | nil=>rw [hr] at h2;simp at h2;omega
     | cons y r=>
      rw [hr] at h1
      simp only [List.getElem?_cons_zero,Option.bind_eq_some_iff] at h1
      obtain ⟨vs,h3,_⟩:=h1
      exact ⟨vs,by simpa using h3⟩
   obtain ⟨vs,h2⟩:=this
   obtain ⟨h3,h4⟩:=rm h2
   have h5:=h4 0 hp
   rw [Nat.zero_mul] at h5
   have e0:((ad.add 0).add 0)=ad:=by unfold Addr.add;simp
   rw [e0,List.getElem?_eq_getElem (by omega)] at h5
   exact World.cell?_spot h5
  let l:List α:=(List.range len).map λi=>if hi:i < len then (hel1 i hi).choose_spec.choose_spec.choose else default
  have hl:l.length=len:=by simp [l]
  have hli:∀i (hi:i < len),∃vs,w.cells? 0 (ad.add (i*sz)) sz=some vs/\CellsR (db w) (cl (l.getD i default)) vs/\Ok (l.getD i default):=by
   intro i hi
   have e:l.getD i default=(hel1 i hi).choose_spec.choose_spec.choose:=by
    simp [l,List.getD,hi]
   rw [e]
   exact ⟨_,(hel1 i hi).choose_spec.choose_spec.choose_spec.2⟩
  have hadd:∀i,i < len->∀q,q < sz->(ad.add (i*sz)).add q=⟨ad.block,ad.off+(i*sz+q),none⟩:=by
   intro i hi q _
   have hs:=hspot (by omega)
   obtain ⟨b,o,sp⟩:=ad
   simp only at hs
   subst hs
   unfold Addr.add
   by_cases c1:i*sz=0
   ·by_cases c2:q=0 <;> simp [c1,c2]
   ·by_cases c2:q=0 <;> simp [c1,c2,Nat.add_assoc]
  refine ⟨l,.A5 rfl rfl ?_,by omega,by omega,λa ha=>?_⟩
  ·rw [hl]
   have hgl:∀j,j < len->get l j=cl (l.getD j default):=λj hj=>hget l j (by omega)
   have hcell:∀ (j i:Nat) (u:AV),j < len->(get l j)[i]?=some u->∃v,w.cell? ⟨ad.block,ad.off+(j*sz+i),none⟩=some v/\Rep (db w) u v:=by
    intro j i u hj hu
    rw [hgl j hj] at hu
    obtain ⟨vs,h1,h2,_⟩:=hli j hj
    obtain ⟨g1,g2⟩:=rm h1
    have hi:i < sz:=by have:=(List.getElem?_eq_some_iff.1 hu).1;rw [hlen] at this;exact this
    have g3:=g2 i hi
    rw [hadd j hj i hi,List.getElem?_eq_getElem (by omega)] at g3
    refine ⟨_,g3,?_⟩
    have:=h2.rep i u hu
    rwa [List.getD_eq_getElem?_getD,List.getElem?_eq_getElem (by omega)] at this
   refine .sl .no sz len (get l) ad cap (λj i=>(w.cell? ⟨ad.block,ad.off+(j*sz+i),none⟩).getD undef) hspot hle trivial (λj hj=>?_) (λj i u hj hu=>?_) (λj i u hj hu=>?_)
   ·rw [hgl j hj]
    obtain ⟨vs,_,h2,_⟩:=hli j hj
    exact ⟨hlen _,kW λu hu=>(h2.one u hu).2⟩
   ·obtain ⟨v,h1,_⟩:=hcell j i u hj hu
    have hone:u.one=true:=by
     rw [hgl j hj] at hu
     obtain ⟨vs,_,h2,_⟩:=hli j hj
     exact (h2.one u (List.mem_of_getElem? hu)).1
    refine ⟨hone,?_,v,h1⟩
    show w.cell? _=_
    rw [h1];rfl
   ·obtain ⟨v,h1,h2⟩:=hcell j i u hj hu
    rw [h1];exact h2
  ·obtain ⟨i,hi,rfl⟩:=List.getElem_of_mem ha
   obtain ⟨_,_,_,h4⟩:=hli i (by omega)
   rwa [List.getD_eq_getElem?_getD,List.getElem?_eq_getElem hi] at h4
end
end Go.Ab

namespace Go.Ab
open Go Go.RowKit
section
variable {H:Type} (enc:TypeId×Value->H) (P:Program) (w:World) (held:Bool)
def RX (t:TypeId) (d:DataW H) (us:List AV):Prop:=
 us.length=P.cellsOf t/\∀n cs p,DataW.trod enc P w 0 (λ_=>true) held n t cs=some (d,p)->CellsR (db w) us cs
variable {enc P w held}
theorem wE {t:TypeId} {k:IntKind} {z:Int} (ht:P.underlying t=some (.int k)) (hc:P.cellsOf t=1):RX enc P w held t (.lit (.int k z)) [.int k z]:=⟨hc.symm,λn cs p h=>by
 obtain ⟨z',rfl,hx,_⟩:=DataW.trod_int ht h
 simp only [Prod.mk.injEq,DataW.lit.injEq,Lit.int.injEq,true_and] at hx
 obtain ⟨rfl,_⟩:=hx
 exact .A5 rfl rfl (.int _ _)⟩
theorem tN {t:TypeId} {ms:Array (String×TypeId)} {nm:String} {d:DataW H} (ht:P.underlying t=some (.interface ms)) (hc:P.cellsOf t=1):RX enc P w held t (.iface nm d) [.nni]:=⟨hc.symm,λn cs p h=>by
 cases n with
 | zero=>simp [DataW.trod] at h
 | succ n=>
  unfold DataW.trod at h
  rw [ht] at h
  split at h <;> simp_all
  exact .A5 rfl rfl (.nni _ _)⟩
theorem wF {c:Cx} {cs:List Value} {sz:Nat}:∀ (us:List (List AV)) (k:Nat),(∀ (i:Nat) (u:List AV),us[i]?=some u->CellsR c u ((cs.drop ((k+i)*sz)).take sz)/\u.length=sz)->cs.length=(k+us.length)*sz->CellsR c us.flatten (cs.drop (k*sz))
 | [],k,_,hl=>by
  rw [List.drop_eq_nil_of_le (by simp at hl;omega)]
  exact .nil _
 | u::us,k,h,hl=>by
  have h0:=h 0 u rfl
  have ih:=wF us (k+1) (λi v hv=>by
   have:=h (i+1) v (by simpa using hv)
   rwa [show k+(i+1)=k+1+i by omega] at this) (by rw [hl];simp only [List.length_cons];congr 1;omega)
  have e:cs.drop (k*sz)=(cs.drop (k*sz)).take sz++cs.drop ((k+1)*sz):=by
   rw [show (k+1)*sz=k*sz+sz by rw [Nat.add_mul,Nat.one_mul],<-List.drop_drop,List.take_append_drop]
  rw [e,List.flatten_cons]
  exact h0.1.append ih
theorem tO {t e:TypeId} {m sz:Nat} {ds:List (DataW H)} {us:List (List AV)} (ht:P.underlying t=some (.array m e)) (he:P.cellsOf e=sz) (hc:P.cellsOf t=m*sz) (hl:us.length=m)
  (h:∀ (i:Nat) (d:DataW H) (u:List AV),ds[i]?=some d->us[i]?=some u->RX enc P w held e d u) (hd:ds.length=m):RX enc P w held t (.agg ds) us.flatten:=by
 have hu:∀ (i:Nat) (u:List AV),us[i]?=some u->u.length=sz:=λi u hi=>by
  have hlt:=(List.getElem?_eq_some_iff.1 hi).1
  rw [(h i (ds[i]'(by omega)) u (List.getElem?_eq_getElem _) hi).1,he]
 refine ⟨?_,λn cs p hx=>?_⟩
 ·rw [hc,List.length_flatten,<-hl]
  have:∀l:List (List AV),(∀ (i:Nat) (u:List AV),l[i]?=some u->u.length=sz)->(l.map List.length).sum=l.length*sz:=by
   intro l
   induction l with
   | nil=>intro _;simp
   | cons a r ih=>
    intro h
    have h0:=h 0 a rfl
    have h1:=ih λi u hi=>h (i+1) u (by simpa using hi)
    simp only [List.map_cons,List.sum_cons,h1,h0,List.length_cons,Nat.add_mul,Nat.one_mul];omega
  exact this us hu
 ·cases n with
  | zero=>simp [DataW.trod] at hx
  | succ n=>
   simp only [DataW.trod,ht,he,hc] at hx
   split at hx
   ·rename_i hcl
    obtain ⟨xs,hm,hxe⟩:=Option.map_eq_some_iff.1 hx
    have hxs:xs.map (·.1)=ds:=by
     have:=congrArg Prod.fst hxe
     simpa using this
    obtain ⟨hxl,hat⟩:=sw hm
    have hxl:xs.length=m:=by simpa using hxl
    have:=wF (c:=db w) (cs:=cs) (sz:=sz) us 0 (λi u hi=>by
     have hlt:=(List.getElem?_eq_some_iff.1 hi).1
     have hlt2:i < xs.length:=by omega
     have hf:=hat i i (List.getElem?_range (by omega))
     rw [List.getElem?_eq_getElem hlt2] at hf
     have hdi:ds[i]?=some (xs[i]'hlt2).1:=by
      have:=congrArg (·[i]?) hxs
      simp only [List.getElem?_map,List.getElem?_eq_getElem hlt2,Option.map_some] at this
      exact this.symm
     refine ⟨?_,hu i u hi⟩
     rw [Nat.zero_add]
     exact (h i _ u hdi hi).2 n _ (xs[i]'hlt2).2 hf) (by rw [hcl,Nat.zero_add,hl])
    simpa using this
   ·cases hx
theorem C7 {t:TypeId} {f0 f1:Field} {d0 d1:DataW H} {u0 u1:List AV} (ht:P.underlying t=some (.struct #[f0,f1])) (h0:RX enc P w held f0.type d0 u0) (h1:RX enc P w held f1.type d1 u1) (o0:f0.offset=0) (o1:f1.offset=P.cellsOf f0.type) (hc:P.cellsOf t=P.cellsOf f0.type+P.cellsOf f1.type) :
  RX enc P w held t (.agg [d0,d1]) (u0++u1):=by
 refine ⟨by rw [List.length_append,h0.1,h1.1,hc],λn cs p hx=>?_⟩
 obtain ⟨xs,m,rfl,hxe,hl,hxl,hf⟩:=DataW.trod_struct ht hx
 match xs,hxl with
 | [y0,y1],_=>
  simp only [List.map_cons,List.map_nil,Prod.mk.injEq,DataW.agg.injEq,List.cons.injEq,and_true] at hxe
  obtain ⟨⟨rfl,rfl⟩,_⟩:=hxe
  have a0:=hf 0 f0 rfl
  have a1:=hf 1 f1 rfl
  rw [o0,List.drop_zero] at a0
  rw [o1] at a1
  have b0:=h0.2 m _ y0.2 a0
  have b1:=h1.2 m _ y1.2 a1
  have e:cs=cs.take (P.cellsOf f0.type)++(cs.drop (P.cellsOf f0.type)).take (P.cellsOf f1.type):=by
   rw [List.take_of_length_le (l:=cs.drop (P.cellsOf f0.type)) (by rw [List.length_drop];omega),List.take_append_drop]
  rw [e]
  exact b0.append b1
theorem AM {t e:TypeId} {m:Nat} {k:IntKind} {zs:List Int} (ht:P.underlying t=some (.array m e)) (he:P.underlying e=some (.int k)) (hc:P.cellsOf e=1) (hct:P.cellsOf t=m) (hl:zs.length=m) :
  RX enc P w held t (.agg (zs.map λz=>.lit (.int k z))) (zs.map λz=>.int k z):=by
 have:=tO (enc:=enc) (P:=P) (w:=w) (held:=held) (ds:=zs.map λz=>(.lit (.int k z):DataW H)) (us:=zs.map λz=>[AV.int k z]) ht hc (by rw [hct,Nat.mul_one]) (by simpa using hl) (λi d u hd hu=>by
  rw [List.getElem?_map,Option.map_eq_some_iff] at hd hu
  obtain ⟨z,hz,rfl⟩:=hd
  obtain ⟨z',hz',rfl⟩:=hu
  obtain rfl:z=z':=by rw [hz] at hz';exact Option.some.inj hz'
  exact wE he hc) (by simpa using hl)
 rwa [show (zs.map λz=>[AV.int k z]).flatten=zs.map λz=>AV.int k z by induction zs with
  | nil=>rfl
  | cons a r ih=>rw [List.map_cons,List.flatten_cons,List.map_cons,List.singleton_append];congr 1;clear hl this ih;induction r with
   | nil=>rfl
   | cons b q ih=>rw [List.map_cons,List.flatten_cons,ih];rfl] at this
end
theorem xy {P:Program} {w:World}:∀ {laid:List (String×DataW Unit)} {ps:List MemPlace},DataW.LaidVars P w laid ps->∀ {nm:String} {d:DataW Unit},(nm,d)∈laid->
  ∃g t cs fuel p,P.globalNamed nm=some g/\(P.globals[g]?).map (·.type)=some t/\w.var? P nm=some cs/\DataW.trod (λ_=>()) P w 0 (λ_=>true) false fuel t cs.toList=some (d,p)
 | [],_,_,_,_,hm=>by simp at hm
 | (n0,d0)::r,ps,h,nm,d,hm=>by
  obtain ⟨g,t,cs,fuel,p,q,h1,h2,h3,h4,h5,_⟩:=h
  rcases List.mem_cons.1 hm with e | hm
  ·simp only [Prod.mk.injEq] at e
   obtain ⟨rfl,rfl⟩:=e
   exact ⟨g,t,cs,fuel,p,h1,h2,h3,h4⟩
  ·exact xy h5 hm
theorem qB {w:World} {g:Nat} {us:List AV} {cs:Array Value} (hv:∀i,w.cell? ⟨g,i,none⟩=cs[i]?) (h:CellsR (db w) us cs.toList):Rep (db w) (.elt us 0) (.pointer (some ⟨g,0,none⟩)):=by
 have hi:∀ (i:Nat) (u:AV),us[i]?=some u->∃v,cs[i]?=some v/\Rep (db w) u v:=λi u hu=>by
  have hlt:=(List.getElem?_eq_some_iff.1 hu).1
  have hlt':i < cs.size:=by have:=h.len;simp at this;omega
  refine ⟨cs[i],Array.getElem?_eq_getElem hlt',?_⟩
  have:=h.rep i u hu
  rwa [List.getD_eq_getElem?_getD,Array.getElem?_toList,Array.getElem?_eq_getElem hlt'] at this
 refine .elt us 0 g 0 (λi=>(cs[i]?).getD undef) (kW λu hu=>(h.one u hu).2) (λi u hu=>?_) (λi u hu=>?_)
 ·obtain ⟨v,h1,h2⟩:=hi i u hu
  rw [Nat.zero_add]
  refine ⟨(h.one u (List.mem_of_getElem? hu)).1,?_,v,?_⟩
  ·show w.cell? _=_
   rw [hv,h1];rfl
  ·rw [hv,h1]
 ·obtain ⟨v,h1,h2⟩:=hi i u hu
  rw [h1];exact h2
theorem iq {P:Program} {w:World} {laid:List (String×DataW Unit)} (h:laidMet P laid w) {nm:String} {d:DataW Unit} {g:Nat} {t:TypeId} {us:List AV} (hm:(nm,d)∈laid) (hg:P.globalNamed nm=some g) (ht:(P.globals[g]?).map (·.type)=some t)
  (hr:RX (λ_=>()) P w false t d us):Rep (db w) (.elt us 0) (.pointer (some ⟨g,0,none⟩)):=by
 obtain ⟨ps,hl,_⟩:=h
 obtain ⟨g',t',cs,fuel,p,h1,h2,h3,h4⟩:=xy hl hm
 obtain rfl:=Option.some.inj (hg.symm.trans h1)
 obtain rfl:=Option.some.inj (ht.symm.trans h2)
 exact qB (λi=>World.var?_cell h1 h3 i) (hr.2 fuel _ p h4)
theorem pL {P:Program} {G:Nat->Option (List AV)} {f:FuncId} {l:List AV} {os:List AO} {xs:List Value} {w:World} (hg:∀g cs,G g=some cs->Rep (db w) (.elt cs 0) (.pointer (some ⟨g,0,none⟩))) (h:Ct P G f l [] (.bool true,os)) (hs:yd w l xs) :
  Calls P f xs.toArray w λe w'=>e=.returned (.bool true)/\Below w.heap.size w w':=by
 obtain ⟨h1,h2,h3⟩:=hs.spec
 refine (h.1 (db w) xs.toArray ⟨λ_ _ h=>.inl h,hg⟩ (qm w) (by simpa using h1) (λi u hu=>?_) (by rw [h2];simp)).mono ?_
 ·have:=h3 i u hu
  simpa [Array.getD_eq_getD_getElem?,List.getD_eq_getElem?_getD] using this
 ·rintro e w' ⟨c',x,rfl,rfl,_,hF,_,hr,_,_⟩
  cases hr
  refine ⟨rfl,hF.os,hF.tape,hF.output,hF.size,λb hb=>hF.block b hb ?_⟩
  rintro ⟨k,o,ho,_⟩
  simp [af,alook] at ho
end Go.Ab

namespace Go.Ab
open Go Go.RowKit
section
variable {H:Type} {enc:TypeId×Value->H} {P:Program} {w:World} {held:Bool}
end
end Go.Ab

namespace Go.WF
open Go Go.Ab Go.Proofs Go.RowKit Go.Proofs.YtofjmkmjdaccgaaGreatDoor
def dints:List (DataW Unit)->List Int
 | .lit (.int _ z)::r=>z::dints r
 | _=>[]
def dpairs:List (DataW Unit)->List (Int×Int)
 | .agg [.lit (.int _ y),.lit (.int _ z)]::r=>(y,z)::dpairs r
 | _=>[]
def parts:DataW Unit->List (DataW Unit)
 | .agg ds=>ds
 | _=>[]
theorem tP {w:World} {t e:TypeId} {m:Nat} {k:IntKind} {d:DataW Unit} (ht:Tryz.prog.underlying t=some (.array m e)) (he:Tryz.prog.underlying e=some (.int k)) (h1:Tryz.prog.cellsOf e=1) (h2:Tryz.prog.cellsOf t=m) (hd:d=.agg ((dints (parts d)).map λz=>.lit (.int k z))) (hl:(dints (parts d)).length=m) (hc:dcells d=(dints (parts d)).map λz=>.int k z):Go.Ab.RX (λ_=>()) Tryz.prog w false t d (dcells d):=by
 rw [hc]
 have:=AM (enc:=λ_=>()) (P:=Tryz.prog) (w:=w) (held:=false) (zs:=dints (parts d)) ht he h1 h2 hl
 rwa [<-hd] at this
theorem yH {w:World} {d:DataW Unit} (hd:d=.agg ((dpairs (parts d)).map λp=>.agg [.lit (.int .u8 p.1),.lit (.int .u8 p.2)])) (hl:(dpairs (parts d)).length=16) (hc:dcells d=((dpairs (parts d)).map λp=>[AV.int .u8 p.1]++[AV.int .u8 p.2]).flatten):Go.Ab.RX (λ_=>()) Tryz.prog w false 370 d (dcells d):=by
 rw [hc]
 have:=tO (enc:=λ_=>()) (P:=Tryz.prog) (w:=w) (held:=false) (t:=370) (e:=369) (m:=16) (sz:=2) (ds:=(dpairs (parts d)).map λp=>.agg [.lit (.int .u8 p.1),.lit (.int .u8 p.2)]) (us:=(dpairs (parts d)).map λp=>[AV.int .u8 p.1]++[AV.int .u8 p.2]) Tryz.underlying370 (by kernel_rfl) (by kernel_rfl) (by simpa using hl) (λi d u hd hu=>by
  rw [List.getElem?_map,Option.map_eq_some_iff] at hd hu
  obtain ⟨z,hz,rfl⟩:=hd
  obtain ⟨z',hz',rfl⟩:=hu
  obtain rfl:z=z':=by rw [hz] at hz';exact Option.some.inj hz'
  exact C7 Tryz.underlying369 (wE Tryz.underlying5 (by kernel_rfl)) (wE Tryz.underlying5 (by kernel_rfl)) rfl (by kernel_rfl) (by kernel_rfl)) (by simpa using hl)
 rwa [<-hd] at this
set_option maxRecDepth 100000 in
theorem sn {w:World} (h:w.ShapedOpen Tryz.prog):Rep (db w) (.elt [.num .i64] 0) (.pointer (some ⟨2,0,none⟩)):=by
 obtain ⟨cs,h1,h2,h3⟩:=h.1 2 #[.int .i64 0] 3 (of_decide_eq_true (by kernel_rfl)) (by kernel_rfl)
 obtain ⟨ts,e1,e2,e3⟩:=h3 (by kernel_rfl)
 have e0:Tryz.prog.cellTypes Tryz.prog.depth 3=some [3]:=by kernel_rfl
 rw [e0] at e1
 obtain rfl:=Option.some.inj e1
 have hlt:0 < cs.size:=by rw [h2];decide
 obtain ⟨u,hu,hok⟩:=e3 0 cs[0] (Array.getElem?_eq_getElem hlt)
 simp only [List.length_singleton,Nat.mod_one,List.getElem?_cons_zero,Option.some.injEq] at hu
 subst hu
 unfold Cell.ok at hok
 rw [show Tryz.prog.underlying 3=some (.int .i64) from Tryz.underlying3] at hok
 have hcell:∀i,w.cell? ⟨2,i,none⟩=cs[i]?:=λi=>by
  unfold World.cell?
  simp [h1]
 refine qB hcell ⟨by simpa using h2,λu hu=>by simp at hu;subst hu;exact ⟨rfl,rfl⟩,λi u hu=>?_⟩
 cases i with
 | succ i=>simp at hu
 | zero=>
  simp at hu;subst hu
  rw [List.getD_eq_getElem?_getD,Array.getElem?_toList,Array.getElem?_eq_getElem hlt]
  show Rep _ _ cs[0]
  generalize cs[0]=v at hok ⊢
  cases v with
  | int k n=>obtain ⟨rfl,_⟩:=hok;exact .num _ _
  | _=>simp at hok
theorem za {w:World} {laid:List (String×DataW Unit)} (h:laidMet Tryz.prog laid w) (ho:w.ShapedOpen Tryz.prog)
  (m11:("math/bits.deBruijn64tab",Rows.laid_math_bits_deBruijn64tab)∈laid)
  (m9:("internal/strconv.uint64pow10",Rows.laid_internal_strconv_uint64pow10)∈laid)
  (m5:("unicode/utf8.first",Rows.laid_unicode_utf8_first)∈laid)
  (m6:("unicode/utf8.acceptRanges",Rows.laid_unicode_utf8_acceptRanges)∈laid)
  (m2:("strings.asciiSpace",Rows.laid_strings_asciiSpace)∈laid)
  (m7:("strconv.ErrSyntax",Rows.laid_strconv_ErrSyntax)∈laid)
  (m8:("strconv.ErrRange",Rows.laid_strconv_ErrRange)∈laid) :
  ∀g cs,glb g=some cs->Rep (db w) (.elt cs 0) (.pointer (some ⟨g,0,none⟩)):=by
 intro g cs hg
 unfold glb at hg
 by_cases h11:g=9
 ·subst h11
  obtain rfl:=Option.some.inj hg
  exact iq h m11 (by kernel_rfl) (by kernel_rfl) (tP (k:=.u8) Tryz.underlying403 Tryz.underlying5 (by kernel_rfl) (by kernel_rfl) (by kernel_rfl) (by kernel_rfl) (by kernel_rfl))
 rw [il h11,cond_false] at hg
 by_cases h9:g=7
 ·subst h9
  obtain rfl:=Option.some.inj hg
  exact iq h m9 (by kernel_rfl) (by kernel_rfl) (tP (k:=.u64) Tryz.underlying400 Tryz.underlying216 (by kernel_rfl) (by kernel_rfl) (by kernel_rfl) (by kernel_rfl) (by kernel_rfl))
 rw [il h9,cond_false] at hg
 by_cases h5:g=3
 ·subst h5
  obtain rfl:=Option.some.inj hg
  exact iq h m5 (by kernel_rfl) (by kernel_rfl) (tP (k:=.u8) Tryz.underlying228 Tryz.underlying5 (by kernel_rfl) (by kernel_rfl) (by kernel_rfl) (by kernel_rfl) (by kernel_rfl))
 rw [il h5,cond_false] at hg
 by_cases h6:g=4
 ·subst h6
  obtain rfl:=Option.some.inj hg
  exact iq h m6 (by kernel_rfl) (by kernel_rfl) (yH (by kernel_rfl) (by kernel_rfl) (by kernel_rfl))
 rw [il h6,cond_false] at hg
 by_cases h2:g=0
 ·subst h2
  obtain rfl:=Option.some.inj hg
  exact iq h m2 (by kernel_rfl) (by kernel_rfl) (tP (k:=.u8) Tryz.underlying228 Tryz.underlying5 (by kernel_rfl) (by kernel_rfl) (by kernel_rfl) (by kernel_rfl) (by kernel_rfl))
 rw [il h2,cond_false] at hg
 by_cases h4:g=2
 ·subst h4
  obtain rfl:=Option.some.inj hg
  exact sn ho
 rw [il h4,cond_false] at hg
 by_cases h7:g=5
 ·subst h7
  obtain rfl:=Option.some.inj hg
  exact iq h m7 (by kernel_rfl) (by kernel_rfl) (tN Tryz.underlying359 (by kernel_rfl))
 rw [il h7,cond_false] at hg
 by_cases h8:g=6
 ·subst h8
  obtain rfl:=Option.some.inj hg
  exact iq h m8 (by kernel_rfl) (by kernel_rfl) (tN Tryz.underlying359 (by kernel_rfl))
 rw [il h8,cond_false] at hg
 cases hg
section
variable {H:Type} {enc:TypeId×Value->H} {w:World} {N:Nat}
def nS (z:Int):Prop:=0<=z/\z < 256
theorem ub (n:Nat):Reads enc Tryz.prog w N n 5 (λz:Int=>[.int .u8 z]) nS:=(wT Tryz.underlying5).map id (λ_=>rfl) λz h=>by
 simp [Lit.wf,IntKind.min,IntKind.max,IntKind.signed,IntKind.bits] at h
 exact ⟨h.1,by show z < 256;omega⟩
abbrev VI:Type:=Int×Int×Int×Int
def viC (p:VI):List AV:=[.int .u8 p.1,.int .u8 p.2.1,.int .u8 p.2.2.1,.int .u8 p.2.2.2]
def yv (p:VI):Prop:=nS p.1/\nS p.2.1/\nS p.2.2.1/\nS p.2.2.2
theorem Kq (n:Nat):Reads enc Tryz.prog w N n 115 viC yv:=
 (qC (sz:=1+(1+(1+(1+0)))) Tryz.underlying115 (by kernel_rfl) λm _=>iv (ub m) rfl (by kernel_rfl) (iv (ub m) rfl (by kernel_rfl) (iv (ub m) rfl (by kernel_rfl) (iv (ub m) rfl (by kernel_rfl) ve)))).map (λp=>((p.1,p.2.1,p.2.2.1,p.2.2.2.1):VI)) (λ_=>rfl) λp h=>⟨h.1,h.2.1,h.2.2.1,h.2.2.2.1⟩
def CG (l:List VI):AV:=.sl .no 4 l.length λj=>viC (l.getD j (0,0,0,0))
theorem Gy (n:Nat):Reads enc Tryz.prog w N n 25 (λl:List VI=>[CG l]) (λl=>∀p∈l,yv p):=
 (rY (e:=115) (sz:=4) (α:=VI) (cl:=viC) (Ok:=yv) (λl j=>viC (l.getD j (0,0,0,0))) Tryz.underlying25 (by kernel_rfl) (by omega) (λ_=>rfl) (λl j h=>by rw [List.getD_eq_getElem?_getD,List.getD_eq_getElem?_getD,List.getElem?_eq_getElem h];rfl) (λm _=>Kq m)).map id (λ_=>rfl) λl h=>h.2.2
end
def toV (p:VI):VSX:=⟨p.1.toNat,p.2.1.toNat,p.2.2.1.toNat,p.2.2.2.toNat⟩
theorem FU {p:VI} (h:yv p):(toV p).c=viC p:=by
 obtain ⟨h1,h2,h3,h4⟩:=h
 unfold nS at h1 h2 h3 h4
 show [AV.int .u8 ((p.1.toNat:Nat):Int),AV.int .u8 ((p.2.1.toNat:Nat):Int),AV.int .u8 ((p.2.2.1.toNat:Nat):Int),AV.int .u8 ((p.2.2.2.toNat:Nat):Int)]=_
 rw [Int.toNat_of_nonneg h1.1,Int.toNat_of_nonneg h2.1,Int.toNat_of_nonneg h3.1,Int.toNat_of_nonneg h4.1]
 rfl
theorem CI:yv (0,0,0,0):=⟨⟨Int.le_refl 0,by decide⟩,⟨Int.le_refl 0,by decide⟩,⟨Int.le_refl 0,by decide⟩,⟨Int.le_refl 0,by decide⟩⟩
theorem yu {l:List VI} (h:∀p∈l,yv p) (j:Nat):yv (l.getD j (0,0,0,0))/\(l.map toV).getD j default=toV (l.getD j (0,0,0,0)):=by
 by_cases hj:j < l.length
 ·rw [List.getD_eq_getElem?_getD,List.getD_eq_getElem?_getD,List.getElem?_map,List.getElem?_eq_getElem hj]
  exact ⟨h _ (List.getElem_mem hj),rfl⟩
 ·rw [List.getD_eq_getElem?_getD,List.getD_eq_getElem?_getD,List.getElem?_map,List.getElem?_eq_none (by omega)]
  exact ⟨CI,rfl⟩
theorem Ar {l:List VI} (h:∀p∈l,yv p):CG l=vsA (l.map toV):=by
 unfold CG vsA
 rw [List.length_map]
 congr 1
 funext j
 rw [(yu h j).2,FU (yu h j).1]
theorem wy {P:Program} {H:Type} {enc:TypeId×Value->H} {W:World} {base:Nat} {t e:TypeId} {v:Value} {d:DataW H} {p:List MemPlace} {α:Type} {cl:α->AV} {Ok:α->Prop} (hs:P.underlying t=some (.slice e))
  (hv:Value.okWide P W .any base t v) (h:DataW.Trod enc P W 0 (λ_=>true) true t v d p) {N:Nat} (hr:∀n,Reads enc P W N n t (λa=>[cl a]) Ok) (hb:jY d<=N) :
  ∃a,Ok a/\Rep (db W) (cl a) v/\(cl a).keys=[]:=by
 obtain ⟨a,len,cap,rfl⟩:=Go.WideShapes.okWide_slice hs hv
 obtain ⟨n,hn⟩:=h
 obtain ⟨x,h1,h2⟩:=hr n (Value.slice a len cap).cells.toList (d,p) hn hb
 refine ⟨x,h2,?_,(h1.one _ (by simp)).2⟩
 simpa [Value.cells] using h1.rep 0 _ rfl
end Go.WF

namespace Go.WF
open Go Go.Ab Go.Proofs
def zQ (h:Hint):Hint:={h with promote:=[],promoteCell:=[]}
noncomputable def VMb:Env:={V0 with grow:=onD [43],hint:=λf t=>cond (Nat.beq f bB) (uM [13] (zQ (V0.hint f t))) (V0.hint f t),trim:=λf p=>cond (Nat.beq f bB) ((V0.trim f p).map λh=>uM [13] (zQ h)) (V0.trim f p),byRef:=λf=>cond (Nat.beq f bF) true (Nat.beq f aX)}
noncomputable instance envMb:EnvOk VMb wd:=⟨rfl,rfl,eu,eH⟩
def Gz (A:List AV) (O:List AO) (x:TXL):Prop:=∀l:TXL,O=[.grw 0 1 l.length (txR l)]->x.length=l.length/\∀u∈x,u∈l
theorem CV (l:TXL) (hl:l.length<=1000000):bz wd bF φSo Gz [.gsl ae 1 l.length] [.grw 0 1 l.length (txR l)]:=
 ⟨l.mergeSort λx y=>decide (x<=y),λl' e=>by
  rw [<-px e]
  exact ⟨List.length_mergeSort _,λu hu=>((List.mergeSort_perm l _).mem_iff).1 hu⟩,
  oM ⟨_,Tryz.func63,by kernel_rfl,by kernel_rfl⟩ (List.length_mergeSort _) (λblk cap w hH hb=>Tryz.slices_Sort_string blk 0 cap l w hH hb (by omega)) (λp cap w h=>Tryz.slices_Sort_string_none p cap w)⟩
noncomputable abbrev E2:Ent:=dK wd bF φSo Gz
def EZ (A:List AV) (O:List AO) (x:CMX):Prop:=∀l:TXL,O=[.grw 0 1 l.length (txR l)]->x.1<=l.length/\(l≠[]->0 < x.1)/\∀j,j < x.1->x.2.getD j []∈l
theorem th {l:TXL} {u:List UInt8} (h:u∈Lib.compact l):u∈l:=by
 unfold Lib.compact Lib.compactUpTo at h
 obtain ⟨i,hi,rfl⟩:=List.mem_map.1 h
 have hi:=List.mem_range.1 (List.mem_filter.1 hi).1
 have hi:i < l.length:=by simpa using hi
 rw [getElem!_pos _ i (by simpa using hi)]
 simp
theorem tg {l:TXL} (h:l≠[]):0 < (Lib.compact l).length:=by
 cases l with
 | nil=>exact absurd rfl h
 | cons a r=>
  unfold Lib.compact Lib.compactUpTo
  rw [List.length_map]
  refine List.length_pos_of_mem (a:=0) (List.mem_filter.2 ⟨List.mem_range.2 (by simp),by simp [Lib.keeps]⟩)
theorem Ep (l:TXL) (hl:l.length<=1000000):bz wd aX φCm EZ [.gsl ae 1 l.length] [.grw 0 1 l.length (txR l)]:=
 have hc:=oN l
 ⟨((Lib.compact l).length,Lib.compact l++List.replicate (l.length - (Lib.compact l).length) []),λl' e=>by
  rw [<-px e]
  refine ⟨hc,tg,λj hj=>?_⟩
  have hj:j < (Lib.compact l).length:=hj
  show (Lib.compact l++_).getD j []∈l
  rw [List.getD_eq_getElem?_getD,List.getElem?_append_left hj,List.getElem?_eq_getElem hj]
  exact th (List.getElem_mem hj),
  oL ⟨_,Tryz.func64,by kernel_rfl,by kernel_rfl⟩ (by rw [List.length_append,List.length_replicate];omega) hc (λblk cap w hH hcap=>Tryz.slices_Compact_string blk 0 cap l w hH (by omega) hcap) (λp cap w h=>Tryz.slices_Compact_string_empty p cap w)⟩
noncomputable abbrev E4:Ent:=dK wd aX φCm EZ
theorem xk {α τ ι:Type} [Inhabited τ] {V:Env} {D:Wd} [hE:EnvOk V D] {T:List Ent} [TabI D T] {d:Nat} {Lf:ι->List (List Nat×Orc)} {W:List (List Nat×Vw)} {f:FuncId} {p:List Nat} (S:α->St) (Inv:α->Prop) (μ:α->Nat) (out:τ->(Ex->St->Res)->Res) (Post:τ->Prop) (hb:qS (dL (bE V.P f) p)=true)
  (h:∀v,Inv v->∃e:ι->(Ex->St->Res)->(St->Res)->Res,RT S Inv μ out (λ_ o=>Post o) v e/\∀i k kn,eO (V.run T d [] (Lf i) W f) f 9 p (S v) kn k=e i k kn) :
  ∃ (u:St->Bool) (w:St->τ),(∀v,Inv v->aW u w (S v) Post)/\∀i,bq (V.run T d [] (Lf i) W f) f p (mkO u w out):=by
 obtain ⟨b,hb⟩:∃b,dL (bE V.P f) p=.loop b:=by
  cases hc:dL (bE V.P f) p with
  | loop b=>exact ⟨b,rfl⟩
  | _=>rw [hc] at hb;cases hb
 obtain ⟨w,hw,hl⟩:=sy (Xf:=λi=>V.run T d [] (Lf i) W f) (f:=f) (p:=p) (b:=b) S Inv μ out (λ_ o=>Post o) (λ_=>hb) 9 λv hv=>by
  obtain ⟨e,h1,h2⟩:=h v hv
  exact RT.eq h2 h1
 exact ⟨pz S Inv,uQ S Inv w,λv hv=>⟨k8 hv,jc (Post:=λ_ o=>Post o) hw (λ_ _ _ _ h=>h) hv⟩,hl⟩
theorem _root_.Go.Ab.RT.fq {α τ ι:Type} {S:α->St} {Inv:α->Prop} {μ:α->Nat} {out:τ->(Ex->St->Res)->Res} {Post:α->τ->Prop} {v:α} {e:Ex} {s:St} (o:τ) (h:Post v o) (hs:∀k,out o k=k e s):RT S Inv μ out Post v (λ(_:ι) (k:Ex->St->Res) (_:St->Res)=>k e s):=RT.fin o h λ_ k _=>(hs k).symm
abbrev MBX:Type:=Nat×Option TXL
noncomputable def mbS (l:List LK) (a z:TX) (v:MBX):St:=match v with
 | (v,none)=>{env:=[(5,.mref 13),(6,.str z),(7,.sl .fit 1 1 (ag [.str [] ] [(0,.str a)])),(19,lkA l),(20,.int .i64 l.length),(21,.int .i64 (v:Int))],objs:=[(13,mpO (ofF l))]}
 | (v,some t)=>{env:=[(5,.mref 13),(6,.str z),(7,.gsl 43 1 t.length),(19,lkA l),(20,.int .i64 l.length),(21,.int .i64 (v:Int))],objs:=[(43,.grw 0 1 (t.length) (txR t)),(13,mpO (ofF l))]}
def MbI (l:List LK) (a z:TX) (v:MBX):Prop:=v.1<=l.length/\match v.2 with
 | none=>∀j,j < v.1->aj (ofF l) (l.getD j default).a≠z/\aj (ofF l) (l.getD j default).b≠z
 | some t=>t≠[]/\t.length<=1+2*v.1/\∀y∈t,aj (ofF l) y=z
section
variable {l:List LK} {a z:TX} {v:Nat} {t:TXL}
theorem zZ {x y:Option TXL} (h:v < l.length):l.length - ((v+1,x):MBX).1 < l.length - ((v,y):MBX).1:=by show l.length - (v+1) < l.length - v;omega
theorem sm {n:Nat} {g:Nat->List AV} {t:TXL} {r:FR} (hl:l.length<=400000) (h:v < l.length) (h1:n=t.length) (h2:g=txR t) (h3:r=ofF l):({env:=[(5,.mref 13),(6,.str z),(7,.gsl 43 1 n),(19,lkA l),(20,.int .i64 (List.length l:Int)),(21,.int .i64 (IntKind.wrap .i64 ((v:Int)+1)))],objs:=[(43,.grw 0 1 (n) g),(13,mpO r)]}:St)=mbS l a z (v+1,some t):=by
 subst h1 h2 h3
 show _=({env:=_,objs:=_}:St)
 rw [bC (by omega)]
theorem DQ {r:FR} (hl:l.length<=400000) (h:v < l.length) (h3:r=ofF l):({env:=[(5,.mref 13),(6,.str z),(7,.sl .fit 1 1 (ag [.str [] ] [(0,.str a)])),(19,lkA l),(20,.int .i64 (List.length l:Int)),(21,.int .i64 (IntKind.wrap .i64 ((v:Int)+1)))],objs:=[(13,mpO r)]}:St)=mbS l a z (v+1,none):=by
 subst h3
 show _=({env:=_,objs:=_}:St)
 rw [bC (by omega)]
theorem xP:ag [.str [] ] [(0,.str a)]=txR [a]:=by
 funext j
 match j with
 | 0=>rfl
 | j+1=>rfl
theorem xg {x:TX}:ar t.length 1 (txR t) (ag [.str [] ] [(0,.str x)])=txR (t++[x]):=gk (λs=>[.str s]) t x _ rfl
theorem DM {x y:TX}:ar (t.length+1) 1 (ar t.length 1 (txR t) (ag [.str [] ] [(0,.str x)])) (ag [.str [] ] [(0,.str y)])=txR ((t++[x])++[y]):=by
 rw [xg]
 have:=xg (t:=t++[x]) (x:=y)
 rw [List.length_append] at this
 exact this
theorem DK {x:TX}:t.length+1=(t++[x]).length:=by simp
theorem Hi {x y:TX}:t.length+1+1=((t++[x])++[y]).length:=by simp
theorem DN {x:TX}:ar 1 1 (ag [.str [] ] [(0,.str a)]) (ag [.str [] ] [(0,.str x)])=txR [a,x]:=by
 rw [xP];exact xg (t:=[a])
theorem Hj {x y:TX}:ar 2 1 (ar 1 1 (ag [.str [] ] [(0,.str a)]) (ag [.str [] ] [(0,.str x)])) (ag [.str [] ] [(0,.str y)])=txR [a,x,y]:=by
 rw [xP];exact DM (t:=[a])
abbrev RTQ (l:List LK) (x:TX) (f:FR) (r:RTX):Prop:=rRt [.mref ae,.str x] [mpO f] r
theorem qJ {x y:TX} {r s:RTX} (q:RTQ l x (ofF l) r) (q2:RTQ l y r.2 s):s.2=ofF l:=by
 rw [q2.eq,q.eq]
theorem DS {x:TX} {r:RTX} (q:RTQ l x (ofF l) r):r.1=aj (ofF l) x:=by rw [q.eq]
theorem DR {x y:TX} {r s:RTX} (q:RTQ l x (ofF l) r) (q2:RTQ l y r.2 s):s.1=aj (ofF l) y:=by rw [q2.eq,q.eq]
theorem Al {x y:TX} (h:(x==y)=true):x=y:=beq_iff_eq.1 h
theorem Jt {x y:TX} (h:(x==y)=false):x≠y:=λe=>by rw [e,beq_self_eq_true] at h;cases h
variable {r s:RTX}
theorem KT (hv:MbI l a z (v,none)) (h:v < l.length) (q:RTQ l (l.getD v default).a (ofF l) r) (h3:(r.1==z)=false) (q2:RTQ l (l.getD v default).b r.2 s) (h5:(s.1==z)=false):MbI l a z (v+1,none):=by
 refine ⟨h,λj hj=>?_⟩
 by_cases e:j < v
 ·exact hv.2 j e
 ·obtain rfl:j=v:=by have hj:j < v+1:=hj;omega
  exact ⟨by rw [<-DS q];exact Jt h3,by rw [<-DR q q2];exact Jt h5⟩
theorem I3 (hz:z=aj (ofF l) a) (hx:∃j,j < l.length/\((l.getD j default).a=a∨(l.getD j default).b=a)) (hv:MbI l a z (v,none)) (h1:decide ((v:Int) < (l.length:Int))=false) {P:Prop}:P:=by
 obtain ⟨j,hj,h⟩:=hx
 have h1:=of_decide_eq_false h1
 have:=hv.2 j (by show j < v;omega)
 rcases h with h | h <;> rw [h] at this
 ·exact absurd hz.symm this.1
 ·exact absurd hz.symm this.2
theorem KS (hz:z=aj (ofF l) a) (h:v < l.length) (q:RTQ l (l.getD v default).a (ofF l) r) (h3:(r.1==z)=true):MbI l a z (v+1,some [a,(l.getD v default).a]):=
 ⟨h,by simp,by simp;omega,λy hy=>by
  simp only [List.mem_cons,List.not_mem_nil,or_false] at hy
  rcases hy with rfl | rfl
  ·exact hz.symm
  ·rw [<-DS q];exact Al h3⟩
theorem Hl (hz:z=aj (ofF l) a) (h:v < l.length) (q:RTQ l (l.getD v default).a (ofF l) r) (q2:RTQ l (l.getD v default).b r.2 s) (h5:(s.1==z)=true):MbI l a z (v+1,some [a,(l.getD v default).b]):=
 ⟨h,by simp,by simp;omega,λy hy=>by
  simp only [List.mem_cons,List.not_mem_nil,or_false] at hy
  rcases hy with rfl | rfl
  ·exact hz.symm
  ·rw [<-DR q q2];exact Al h5⟩
theorem KR (hz:z=aj (ofF l) a) (h:v < l.length) (q:RTQ l (l.getD v default).a (ofF l) r) (h3:(r.1==z)=true) (q2:RTQ l (l.getD v default).b r.2 s) (h5:(s.1==z)=true):MbI l a z (v+1,some [a,(l.getD v default).a,(l.getD v default).b]):=
 ⟨h,by simp,by simp;omega,λy hy=>by
  simp only [List.mem_cons,List.not_mem_nil,or_false] at hy
  rcases hy with rfl | rfl | rfl
  ·exact hz.symm
  ·rw [<-DS q];exact Al h3
  ·rw [<-DR q q2];exact Al h5⟩
theorem Hf (hv:MbI l a z (v,some t)) (h:v < l.length):MbI l a z (v+1,some t):=⟨h,hv.2.1,by have:=hv.2.2.1;show t.length<=1+2*(v+1);have:t.length<=1+2*v:=this;omega,hv.2.2.2⟩
theorem Hh {x:TX} (hv:MbI l a z (v,some t)) (hx:aj (ofF l) x=z):(t++[x])≠[]/\(t++[x]).length<=2+2*v/\∀y∈t++[x],aj (ofF l) y=z:=by
 refine ⟨by simp,by have:t.length<=1+2*v:=hv.2.2.1;simp;omega,λy hy=>?_⟩
 rcases List.mem_append.1 hy with hy | hy
 ·exact hv.2.2.2 y hy
 ·rw [List.mem_singleton.1 hy];exact hx
theorem He (hv:MbI l a z (v,some t)) (h:v < l.length) (q:RTQ l (l.getD v default).a (ofF l) r) (h3:(r.1==z)=true):MbI l a z (v+1,some (t++[(l.getD v default).a])):=by
 obtain ⟨h1,h2,h4⟩:=Hh hv (x:=(l.getD v default).a) (by rw [<-DS q];exact Al h3)
 exact ⟨h,h1,by show _<=1+2*(v+1);omega,h4⟩
theorem DH (hv:MbI l a z (v,some t)) (h:v < l.length) (q:RTQ l (l.getD v default).a (ofF l) r) (q2:RTQ l (l.getD v default).b r.2 s) (h5:(s.1==z)=true):MbI l a z (v+1,some (t++[(l.getD v default).b])):=by
 obtain ⟨h1,h2,h4⟩:=Hh hv (x:=(l.getD v default).b) (by rw [<-DR q q2];exact Al h5)
 exact ⟨h,h1,by show _<=1+2*(v+1);omega,h4⟩
theorem Hd (hv:MbI l a z (v,some t)) (h:v < l.length) (q:RTQ l (l.getD v default).a (ofF l) r) (h3:(r.1==z)=true) (q2:RTQ l (l.getD v default).b r.2 s) (h5:(s.1==z)=true):MbI l a z (v+1,some ((t++[(l.getD v default).a])++[(l.getD v default).b])):=by
 obtain ⟨h1,h2,h4⟩:=Hh hv (x:=(l.getD v default).a) (by rw [<-DS q];exact Al h3)
 refine ⟨h,by simp,by show _<=1+2*(v+1);have:t.length<=1+2*v:=hv.2.2.1;simp;omega,λy hy=>?_⟩
 rcases List.mem_append.1 hy with hy | hy
 ·exact h4 y hy
 ·rw [List.mem_singleton.1 hy,<-DR q q2];exact Al h5
theorem I2 (hl:l.length<=400000) (hv:MbI l a z (v,some t)) (h:v < l.length):(roomy 16 (t.length+1)&&Nat.beq t.length t.length)=true:=bd (by have:t.length<=1+2*v:=hv.2.2.1;omega)
theorem Hg (hl:l.length<=400000) (hv:MbI l a z (v,some t)) (h:v < l.length):(roomy 16 (t.length+1+1)&&Nat.beq (t.length+1) (t.length+1))=true:=bd (by have:t.length<=1+2*v:=hv.2.2.1;omega)
def MbP (l:List LK) (z:TX) (t:TXL):Prop:=t≠[]/\t.length<=1+2*l.length/\∀y∈t,aj (ofF l) y=z
theorem KP (hv:MbI l a z (v,some t)):MbP l z t:=⟨hv.2.1,by have:t.length<=1+2*v:=hv.2.2.1;have:v<=l.length:=hv.1;omega,hv.2.2.2⟩
end
section
variable (l:List LK) (a z:TX)
noncomputable abbrev mbO (l:List LK) (t:TXL) (k:Ex->St->Res):Res:=k (.exit 0) {env:=[(7,AV.gsl 43 1 t.length)],objs:=[(43,AO.grw 0 1 t.length (txR t)),(13,mpO (ofF l))]}
theorem DJ (hz:z=aj (ofF l) a) (hx:∃j,j < l.length/\((l.getD j default).a=a∨(l.getD j default).b=a)) (hl:l.length<=400000) (v:Nat) (hv:MbI l a z (v,none)):∃e:Orc->(Ex->St->Res)->(St->Res)->Res,RT (mbS l a z) (MbI l a z) (λv=>l.length - v.1) (mbO l) (λ_ o=>MbP l z o) (v,none) e/\∀o k kn,eO (VMb.run [eIo,eRt,E2,E4] 1 [] [([1,1,1,1,0,1,0],o)] [] bB) bB 9 [1,1,1,1,0,1,0] ({env:=[(5,.mref 13),(6,.str z),(7,.sl .fit 1 1 (ag [.str [] ] [(0,.str a)])),(19,lkA l),(20,.int .i64 l.length),(21,.int .i64 (v:Int))],objs:=[(13,mpO (ofF l))]}) kn k=e o k kn:=
 ⟨_,.b (decide ((↑v:Int) < (↑(List.length l):Int))) (λh1=>
   .n (c:=within (↑v:Int) (List.length l)) (aO (aN h1)) (
   .call (u6 rfl (l.getD v default).a) λr2 q2=>
   .b (r2.1==z) (λh3=>
    .call (qz rfl q2 (l.getD v default).b) λr4 q4=>
    .b (r4.1==z) (λh5=>
     .go {env:=[(5,.mref 13),(6,.str z),(7,AV.gsl 43 1 3),(19,lkA l),(20,.int .i64 (↑(List.length l):Int)),(21,.int .i64 (IntKind.wrap .i64 ((↑v:Int)+1)))],objs:=[(43,AO.grw 0 1 3 (ar 2 1 (ar 1 1 (ag [.str [] ] [(0,.str a)]) (ag [.str []] [(0,.str (LK.a (List.getD l v default)))])) (ag [.str []] [(0,.str (LK.b (List.getD l v default)))]))),(13,mpO r4.2)]} (v+1,some [a,(l.getD v default).a,(l.getD v default).b]) (KR hz (aN h1) q2 h3 q4 h5) (zZ (aN h1)) (sm hl (aN h1) rfl Hj (qJ q2 q4))) λh5=>
    .go {env:=[(5,.mref 13),(6,.str z),(7,AV.gsl 43 1 2),(19,lkA l),(20,.int .i64 (↑(List.length l):Int)),(21,.int .i64 (IntKind.wrap .i64 ((↑v:Int)+1)))],objs:=[(43,AO.grw 0 1 2 (ar 1 1 (ag [.str [] ] [(0,.str a)]) (ag [.str []] [(0,.str (LK.a (List.getD l v default)))]))),(13,mpO r4.2)]} (v+1,some [a,(l.getD v default).a]) (KS hz (aN h1) q2 h3) (zZ (aN h1)) (sm hl (aN h1) rfl DN (qJ q2 q4))) λh3=>
   .call (qz rfl q2 (l.getD v default).b) λr6 q6=>
   .b (r6.1==z) (λh7=>
    .go {env:=[(5,.mref 13),(6,.str z),(7,AV.gsl 43 1 2),(19,lkA l),(20,.int .i64 (↑(List.length l):Int)),(21,.int .i64 (IntKind.wrap .i64 ((↑v:Int)+1)))],objs:=[(43,AO.grw 0 1 2 (ar 1 1 (ag [.str [] ] [(0,.str a)]) (ag [.str []] [(0,.str (LK.b (List.getD l v default)))]))),(13,mpO r6.2)]} (v+1,some [a,(l.getD v default).b]) (Hl hz (aN h1) q2 q6 h7) (zZ (aN h1)) (sm hl (aN h1) rfl DN (qJ q2 q6))) λh7=>
   .go {env:=[(5,.mref 13),(6,.str z),(7,.sl .fit 1 1 (ag [.str [] ] [(0,.str a)])),(19,lkA l),(20,.int .i64 (↑(List.length l):Int)),(21,.int .i64 (IntKind.wrap .i64 ((↑v:Int)+1)))],objs:=[(13,mpO r6.2)]} (v+1,none) (KT hv (aN h1) q2 h3 q6 h7) (zZ (aN h1)) (DQ hl (aN h1) (qJ q2 q6)))) λh1=>
  .fq (e:=.exit 0) (s:={env:=[(7,.sl .fit 1 1 (ag [.str [] ] [(0,.str a)]))],objs:=[(13,mpO (ofF l))]}) default (I3 hz hx hv h1) (I3 hz hx hv h1),λo k kn=>by kernel_rfl⟩
theorem DI (hl:l.length<=400000) (v:Nat) (t:TXL) (hv:MbI l a z (v,some t)):∃e:Orc->(Ex->St->Res)->(St->Res)->Res,RT (mbS l a z) (MbI l a z) (λv=>l.length - v.1) (mbO l) (λ_ o=>MbP l z o) (v,some t) e/\∀o k kn,eO (VMb.run [eIo,eRt,E2,E4] 1 [] [([1,1,1,1,0,1,0],o)] [] bB) bB 9 [1,1,1,1,0,1,0] ({env:=[(5,.mref 13),(6,.str z),(7,.gsl 43 1 t.length),(19,lkA l),(20,.int .i64 l.length),(21,.int .i64 (v:Int))],objs:=[(43,.grw 0 1 (t.length) (txR t)),(13,mpO (ofF l))]}) kn k=e o k kn:=
 ⟨_,.b (decide ((↑v:Int) < (↑(List.length l):Int))) (λh1=>
   .n (c:=within (↑v:Int) (List.length l)) (aO (aN h1)) (
   .call (u6 rfl (l.getD v default).a) λr2 q2=>
   .b (r2.1==z) (λh3=>
    .n (c:=roomy 16 (List.length t+1)&&Nat.beq (List.length t) (List.length t)) (I2 hl hv (aN h1)) (
    .call (qz rfl q2 (l.getD v default).b) λr4 q4=>
    .b (r4.1==z) (λh5=>
     .n (c:=roomy 16 (List.length t+1+1)&&Nat.beq (List.length t+1) (List.length t+1)) (Hg hl hv (aN h1)) (
     .go {env:=[(5,.mref 13),(6,.str z),(7,AV.gsl 43 1 (List.length t+1+1)),(19,lkA l),(20,.int .i64 (↑(List.length l):Int)),(21,.int .i64 (IntKind.wrap .i64 ((↑v:Int)+1)))],objs:=[(43,AO.grw 0 1 (List.length t+1+1) (ar (List.length t+1) 1 (ar (List.length t) 1 (txR t) (ag [.str []] [(0,.str (LK.a (List.getD l v default)))])) (ag [.str []] [(0,.str (LK.b (List.getD l v default)))]))),(13,mpO r4.2)]} (v+1,some ((t++[(l.getD v default).a])++[(l.getD v default).b])) (Hd hv (aN h1) q2 h3 q4 h5) (zZ (aN h1)) (sm hl (aN h1) Hi DM (qJ q2 q4)))) λh5=>
    .go {env:=[(5,.mref 13),(6,.str z),(7,AV.gsl 43 1 (List.length t+1)),(19,lkA l),(20,.int .i64 (↑(List.length l):Int)),(21,.int .i64 (IntKind.wrap .i64 ((↑v:Int)+1)))],objs:=[(43,AO.grw 0 1 (List.length t+1) (ar (List.length t) 1 (txR t) (ag [.str []] [(0,.str (LK.a (List.getD l v default)))]))),(13,mpO r4.2)]} (v+1,some (t++[(l.getD v default).a])) (He hv (aN h1) q2 h3) (zZ (aN h1)) (sm hl (aN h1) DK xg (qJ q2 q4)))) λh3=>
   .call (qz rfl q2 (l.getD v default).b) λr6 q6=>
   .b (r6.1==z) (λh7=>
    .n (c:=roomy 16 (List.length t+1)&&Nat.beq (List.length t) (List.length t)) (I2 hl hv (aN h1)) (
    .go {env:=[(5,.mref 13),(6,.str z),(7,AV.gsl 43 1 (List.length t+1)),(19,lkA l),(20,.int .i64 (↑(List.length l):Int)),(21,.int .i64 (IntKind.wrap .i64 ((↑v:Int)+1)))],objs:=[(43,AO.grw 0 1 (List.length t+1) (ar (List.length t) 1 (txR t) (ag [.str []] [(0,.str (LK.b (List.getD l v default)))]))),(13,mpO r6.2)]} (v+1,some (t++[(l.getD v default).b])) (DH hv (aN h1) q2 q6 h7) (zZ (aN h1)) (sm hl (aN h1) DK xg (qJ q2 q6)))) λh7=>
   .go {env:=[(5,.mref 13),(6,.str z),(7,AV.gsl 43 1 (List.length t)),(19,lkA l),(20,.int .i64 (↑(List.length l):Int)),(21,.int .i64 (IntKind.wrap .i64 ((↑v:Int)+1)))],objs:=[(43,AO.grw 0 1 (List.length t) (txR t)),(13,mpO r6.2)]} (v+1,some t) (Hf hv (aN h1)) (zZ (aN h1)) (sm hl (aN h1) rfl rfl (qJ q2 q6)))) λh1=>
  .fi t (KP hv),λo k kn=>by kernel_rfl⟩
end
theorem Ba (l:List LK) (a z:TX) (hz:z=aj (ofF l) a) (hx:∃j,j < l.length/\((l.getD j default).a=a∨(l.getD j default).b=a)) (hl:l.length<=400000):∃ (u:St->Bool) (w:St->TXL),(∀v:MBX,MbI l a z v->aW u w (mbS l a z v) (MbP l z))/\∀o:Orc,bq (VMb.run [eIo,eRt,E2,E4] 1 [] [([1,1,1,1,0,1,0],o)] [] bB) bB [1,1,1,1,0,1,0] (mkO u w (mbO l)):=
 xk (D:=wd) (Lf:=λo:Orc=>[([1,1,1,1,0,1,0],o)]) (mbS l a z) (MbI l a z) (λv=>l.length - v.1) (mbO l) (MbP l z) (by kernel_rfl) λv hv=>match v,hv with
  | (v,none),hv=>DJ l a z hz hx hl v hv
  | (v,some t),hv=>DI l a z hl v t hv
theorem KO {l:List LK} {a:TX} {f:FR} {r:RTX} {u:St->Bool} {w:St->TXL} {Q:TXL->Prop} (hu:∀v:MBX,MbI l a (aj (ofF l) a) v->aW u w (mbS l a (aj (ofF l) a) v) Q) (q:f=ofF l) (q2:rRt [.mref ae,.str a] [mpO f] r):aW u w {env:=[(5,.mref 13),(6,.str r.1),(7,.sl .fit 1 1 (ag [.str [] ] [(0,.str a)])),(19,lkA l),(20,.int .i64 (List.length l:Int)),(21,.int .i64 0)],objs:=[(13,mpO r.2)]} Q:=by
 have h:=q2.eq
 subst h
 rw [q]
 exact hu (0,none) ⟨Nat.zero_le _,λj hj=>absurd hj (Nat.not_lt_zero _)⟩
theorem DL {l:List LK} {z:TX} {t:TXL} (hl:l.length<=400000) (q:MbP l z t):t.length<=1000000:=by have:=q.2.1;omega
abbrev SOQ (t x:TXL):Prop:=Gz [.gsl ae 1 t.length] [.grw 0 1 t.length (txR t)] x
theorem KQ {l:List LK} {z:TX} {t x:TXL} (hl:l.length<=400000) (q:MbP l z t) (q2:SOQ t x):bz wd aX φCm EZ [.gsl ae 1 t.length] [.grw 0 1 x.length (txR x)]:=by
 have e:=(q2 t rfl).1
 rw [<-e]
 exact Ep x (by rw [e];exact DL hl q)
def φMb (x:CMX):AV×List AO:=(.sl .no 1 x.1 (txR x.2),[])
def rMb (A:List AV) (_:List AO) (x:CMX):Prop:=∀l a,A=[lkA l,.str a]->0 < x.1/\x.1<=1+2*l.length/\∀j,j < x.1->aj (ofF l) (x.2.getD j [])=aj (ofF l) a
theorem DP {l:List LK} {a:TX} {t x:TXL} {y:CMX} {os:List AO} {A:List AV} (q:MbP l (aj (ofF l) a) t) (q2:SOQ t x) (q3:EZ A [.grw 0 1 x.length (txR x)] y):rMb [lkA l,.str a] os y:=λl' a' e=>by
 injection e with e1 e
 injection e with e2 _
 injection e2 with e2
 rw [<-ee e1,<-e2]
 obtain ⟨g1,g2⟩:=q2 t rfl
 obtain ⟨f1,f2,f3⟩:=q3 x rfl
 refine ⟨f2 λh=>?_,by have:=q.2.1;omega,λj hj=>q.2.2 _ (g2 _ (f3 j hj))⟩
 rw [h] at g1
 exact q.1 (List.length_eq_zero_iff.1 g1.symm)
theorem DA (l:List LK) (a:TX) (hx:∃j,j < l.length/\((l.getD j default).a=a∨(l.getD j default).b=a)) (hl:l.length<=400000):bz wd bB φMb rMb [lkA l,.str a] []:=by
 obtain ⟨u,w,hu,hc⟩:=Ba l a (aj (ofF l) a) rfl hx hl
 exact bn (V:=VMb) (T:=[eIo,eRt,E2,E4]) (d:=1) 0 (aE (hc _) ao) ak (.call (Br l (Nat.le_trans hl (by decide))) λr1 q1=>
  .call (u6 q1.eqI a) λr2 q2=>
  .lp (KO hu q1.eqI q2) λr3 q3=>
  .call (CV r3 (DL hl q3)) λr4 q4=>
  .call (KQ hl q3 q4) λr5 q5=>
  .r r5 (DP q3 q4 q5)) (by kernel_rfl)
noncomputable abbrev BU:Ent:=dK wd bB φMb rMb
end Go.WF

namespace Go.Ab
open Go Go.RowKit
variable {B:Base} {c:Cx} {s:St} {a:Act}
theorem zg {l:List AV} (h:aL [.str] l=true):∃x,l=[.str x]:=by
 match l,h with
 | [.str x],_=>exact ⟨x,rfl⟩
theorem xi {b:Nat} {dom:List AV->Bool} {get:List AV->AV} {g:List UInt8->Option (List UInt8)} (h:MapAt c b false [.str] dom get) (h1:∀x,dom [.str x]=(g x).isSome) (h2:∀x v,g x=some v->get [.str x]=.str v) :
  ∃ (es:Array MapEntry) (clock:Nat) (ms:List (List UInt8×List UInt8)),c.w.heap[b]?=some (.map es clock)/\es.toList.map (λe=>(e.key,e.val))=ms.map (λm=>(.string ⟨m.1.toArray⟩,.string ⟨m.2.toArray⟩))/\(∀m∈ms,g m.1=some m.2)/\(∀s v,g s=some v->(s,v)∈ms)/\(ms.map (·.1)).Nodup:=by
 obtain ⟨⟨es,clock,ms,hh,e1,e2,e3,e4⟩,_⟩:=h
 let f:List AV×Value->List UInt8×List UInt8:=λm=>match m.1 with
  | [.str x]=>(x,(g x).getD [])
  | _=>([],[])
 have key:∀m∈ms,∃x v,m=([.str x],.string ⟨v.toArray⟩)/\g x=some v/\f m=(x,v):=λm hm=>by
  obtain ⟨k1,k2,k3⟩:=e2 m hm
  obtain ⟨l,y⟩:=m
  obtain ⟨x,rfl⟩:=zg k1
  have k2:(g x).isSome=true:=(h1 x).symm.trans k2
  obtain ⟨v,hv⟩:=Option.isSome_iff_exists.1 k2
  have k3:Rep c (get [.str x]) y:=k3
  rw [h2 x v hv] at k3
  cases k3
  exact ⟨x,v,rfl,hv,by show (x,(g x).getD [])=_;rw [hv];rfl⟩
 refine ⟨es,clock,ms.map f,hh,?_,?_,?_,?_⟩
 ·rw [e1,List.map_map]
  refine List.map_congr_left λm hm=>?_
  obtain ⟨x,v,rfl,_,hf⟩:=key m hm
  show (Value.string ⟨x.toArray⟩,Value.string ⟨v.toArray⟩)=(Value.string ⟨(f ([.str x],.string ⟨v.toArray⟩)).1.toArray⟩,Value.string ⟨(f ([.str x],.string ⟨v.toArray⟩)).2.toArray⟩)
  rw [hf]
 ·intro m hm
  obtain ⟨q,hq,rfl⟩:=List.mem_map.1 hm
  obtain ⟨x,v,_,hg,hf⟩:=key q hq
  rw [hf];exact hg
 ·intro x v hg
  obtain ⟨m,hm,hl⟩:=e3 [.str x] rfl ((h1 x).trans (by rw [hg];rfl))
  obtain ⟨x',v',rfl,hg',hf⟩:=key m hm
  have hx:x'=x:=by
   have hl:[AV.str x']=[.str x]:=hl
   injection hl with hl _
   injection hl
  subst hx
  rw [hg] at hg'
  obtain rfl:=Option.some.inj hg'
  exact List.mem_map.2 ⟨_,hm,hf⟩
 ·unfold List.Nodup at e4 ⊢
  rw [List.pairwise_map] at e4 ⊢
  rw [List.pairwise_map]
  refine e4.imp_of_mem fun {p q} hp hq hne e=>?_
  obtain ⟨x,v,rfl,_,hf⟩:=key p hp
  obtain ⟨x',v',rfl,_,hf'⟩:=key q hq
  rw [hf,hf'] at e
  exact hne (by show [AV.str x]=[.str x'];rw [show x=x' from e])
def fmS (s:St) (t k:Nat) (g:List UInt8->Option (List UInt8)):St:=(s.setObj k .gone).put (some t) (.fms g)
theorem zf {t k:Nat} {dom:List AV->Bool} {get:List AV->AV} {g:List UInt8->Option (List UInt8)} (h:Rel B c s a) (hn:bg s) (hv:s.get t=some (.mref k)) (ho:s.obj k=some (.mp false [.str] dom get)) (h1:∀x,dom [.str x]=(g x).isSome) (h2:∀x v,g x=some v->get [.str x]=.str v) :
  ∃c',c'.w=c.w/\Rel B c' (fmS s t k g) a/\bg (fmS s t k g):=by
 have hob:=h.objs.rep k _ ho
 obtain ⟨hm,hI,hfr⟩:=hob
 obtain ⟨es,clock,ms,hh,e1,e2,e3,e4⟩:=xi hm h1 h2
 let c':Cx:={c with I:=λb o=>c.I b o∨(b=c.β k/\o=0)}
 have hext:Ext c c' (live s.objs):=⟨λ_ _ _ _ hv=>hv,λ_ _ hi=>.inl hi,λ_ _=>rfl,λ_ _ _ _ hv=>hv,λ_ _ _ _ hv _=>hv⟩
 have hkb:KeepsBut c c' s.objs k:=⟨hext,λ_ _ _=>rfl,λ_ _ _=>rfl,λ_ _ _=>rfl,λq o' b hq hne hb'=>⟨rfl,λoff' hi=>by
  rcases hi with hi | ⟨rfl,_⟩
  ·exact hi
  ·exact (h.objs.apart q o' k _ _ hq ho hne hb' rfl).elim⟩⟩
 have hgr:Grow B c c':=⟨rfl,rfl,rfl,Nat.le_refl _,λ_ _ _=>rfl,λb o hb' hd hi=>by
  rcases hi with hi | ⟨rfl,_⟩
  ·exact hi
  ·rcases h.mine k _ _ ho rfl with h' | h'
   ·omega
   ·exact absurd h' hd,λb o hi=>by
  rcases hi with hi | ⟨rfl,_⟩
  ·exact h.good.there b o hi
  ·exact .inr ⟨_,hh,rfl⟩⟩
 have hrel:=h.obj (k:=k) (o:=.gone) hkb hgr trivial (λq o' b hq hne hb' e=>by simp [excl] at e) (by simp [AO.keys]) (λb hb'=>by simp [excl] at hb')
 have hr:Rep c (.mref k) (a.tmps.getD t undef):=h.env t _ hv
 have hsee:Sees B c' (s.setObj k .gone) (.fms g) (a.tmps.getD t undef):=by
  generalize a.tmps.getD t undef=y at hr
  cases hr
  exact ⟨.fms g (c.β k) es clock ms (.inr ⟨rfl,rfl⟩) hh e1 e2 e3 e4,by simp [AV.keys],rfl⟩
 have hn':bg (s.setObj k .gone):=λq u hu=>hn q u hu
 exact ⟨c',rfl,hrel.reslot hsee hn',hn'.put hsee.plain⟩
end Go.Ab

namespace Go.WF
open Go Go.Ab Go.Proofs
def fgA (K:Int->FR):List AV->AV
 | [.int .i64 n]=>.fms (K n)
 | _=>.nilm
def atO (d:List AV->Bool) (K:Int->FR):AO:=.mp false [.int .i64] d (fgA K)
abbrev JRX:Type:=TX×List LK×(List AV->Bool)×(Int->FR)
def φJr (x:JRX):AV×List AO:=(.str x.1,[.cells [lkA x.2.1,.mref (ae+1)],atO x.2.2.1 x.2.2.2])
def pkL (F:List LK) (v j:Nat):TX:=cond (Nat.beq 0 j) (F.getD v default).a (cond (Nat.beq 1 j) (F.getD v default).b [])
def pk2 (F:List LK) (v:Nat):Nat->List AV:=λj=>[.str (pkL F v j)]
structure J3X where
 k:FR
 v:Nat
 i:Nat
 y:CMX
 j:Nat
instance:Inhabited J3X:=⟨⟨λ_=>none,0,0,(0,[]),0⟩⟩
def H6 (k:Nat) (h:Hint):Hint:={h with objs:=h.objs.filter λq=>!Nat.beq q k}
noncomputable def VRo:Env:={V0 with hint:=λf t=>cond (Nat.beq f eF) (H6 10 (V0.hint f t)) (V0.hint f t)}
noncomputable instance envRo:EnvOk VRo wd:=⟨rfl,rfl,eu,eH⟩
noncomputable abbrev eFs:Ent:=dK wd dC φLk rFs
theorem BA (l:List LK):ofF (bu l).1=ofF l:=by
 have key:∀ (l:List LK) (x:List LK×FR),ofF x.1=x.2->ofF (l.foldl vO x).1=(l.foldl vO x).2:=by
  intro l
  induction l with
  | nil=>exact λx h=>h
  | cons k l ih=>
   intro x h
   refine ih (vO x k) ?_
   unfold vO
   cases hb:lV x.2 k.a k.b with
   | true=>simp only [cond_true];rw [nu,h]
   | false=>
    simp only [cond_false]
    unfold lV at hb
    have hb:(aj x.2 k.a==aj x.2 k.b)=true:=by simpa using hb
    unfold cB
    rw [hb,cond_true,h]
 exact (key l ([],λ_=>none) rfl).trans (BB l _)
theorem D6 (l:List LK):(bu l).1.length<=l.length:=by
 have:=sW l ([],λ_=>none)
 rw [show (([],λ_=>none):List LK×FR).1.length=0 from rfl,Nat.zero_add] at this
 exact this
def KnP (f k:FR):Prop:=∀y r,k y=some r->aj f y=aj f r
theorem KnP.up {f k:FR} {y r:TX} (h:KnP f k) (e:aj f y=aj f r):KnP f (Go.WF.up k y r):=λx s hx=>by
 unfold Go.WF.up at hx
 cases hb:x==y with
 | true=>
  rw [hb,cond_true] at hx
  injection hx with hx
  rw [beq_iff_eq.1 hb,<-hx];exact e
 | false=>rw [hb,cond_false] at hx;exact h x s hx
theorem KnP.nil (f:FR):KnP f λ_=>none:=λ_ _ h=>by cases h
structure J3I (F:List LK) (x:J3X):Prop where
 j:x.j<=x.y.1
 kn:KnP (ofF F) x.k
 gr:∀i,i < x.y.1->aj (ofF F) (x.y.2.getD i [])=aj (ofF F) (x.y.2.getD 0 [])
 len:x.y.1<=900000
section
variable {ls F:List LK} {a:TX} {t:Int} {d:List AV->Bool} {K:Int->FR} {x:J3X} {k:FR} {v i:Nat}
theorem Lm (h:x.j < x.y.1):within 0 x.y.1=true:=aO (i:=0) (by omega)
theorem Ll (hv:J3I F x) (h:x.j < x.y.1):J3I F {x with k:=up x.k (x.y.2.getD x.j []) (x.y.2.getD 0 []),j:=x.j+1}:=⟨h,hv.kn.up (hv.gr _ h),hv.gr,hv.len⟩
theorem Lk (hv:J3I F x) (h:x.j < x.y.1):({env:=[(0,.ref 1000000 0),(1,.str a),(2,.int .i64 t),(7,.mref 28),(8,lkA F),(15,.sl .no 1 (Prod.fst (J3X.y x)) (txR (Prod.snd (J3X.y x)))),(36,lkA F),(37,.int .i64 (↑(List.length F):Int)),(38,.int .i64 (↑(J3X.v x):Int)),(46,.sl .fit 1 2 (pk2 F (J3X.v x))),(47,.int .i64 2),(48,.int .i64 (↑(J3X.i x):Int)),(62,.sl .no 1 (Prod.fst (J3X.y x)) (txR (Prod.snd (J3X.y x)))),(63,.int .i64 (↑(Prod.fst (J3X.y x)):Int)),(64,.int .i64 (IntKind.wrap .i64 ((↑(J3X.j x):Int)+1)))],objs:=[(28,AO.mp false [KD.str] (λl=>bif bO l [.str (List.getD (Prod.snd (J3X.y x)) (Int.toNat (↑(J3X.j x):Int)) [])] then true else fdm (J3X.k x) l) λl=>bif bO l [.str (List.getD (Prod.snd (J3X.y x)) (Int.toNat (↑(J3X.j x):Int)) [])] then .str (List.getD (Prod.snd (J3X.y x)) (Int.toNat 0) []) else fgt (J3X.k x) l),(1000000,.cells [lkA ls,.mref 1000001]),(1000001,atO d K)]}:St)=(λx:J3X=>({env:=[(0,.ref 1000000 0),(1,.str a),(2,.int .i64 t),(7,.mref 28),(8,lkA F),(15,.sl .no 1 x.y.1 (txR x.y.2)),(36,lkA F),(37,.int .i64 F.length),(38,.int .i64 (x.v:Int)),(46,.sl .fit 1 2 (pk2 F x.v)),(47,.int .i64 2),(48,.int .i64 (x.i:Int)),(62,.sl .no 1 x.y.1 (txR x.y.2)),(63,.int .i64 (x.y.1:Int)),(64,.int .i64 (x.j:Int))],objs:=[(28,mpO x.k),(1000000,.cells [lkA ls,.mref 1000001]),(1000001,atO d K)]}:St)) {x with k:=up x.k (x.y.2.getD x.j []) (x.y.2.getD 0 []),j:=x.j+1}:=by
 have:=hv.len
 rw [Dz,bC (by omega)];rfl
theorem qR (h:decide ((i:Int) < 2)=true):i < 2:=by have:=of_decide_eq_true h;omega
theorem I9 {w q:Nat} {k k':FR} (h:i < 2) (hk:k'=k) (h1:w=v) (h2:q=i):({env:=[(0,.ref 1000000 0),(1,.str a),(2,.int .i64 t),(7,.mref 28),(8,lkA F),(36,lkA F),(37,.int .i64 (List.length F:Int)),(38,.int .i64 (w:Int)),(46,.sl .fit 1 2 (pk2 F w)),(47,.int .i64 2),(48,.int .i64 (IntKind.wrap .i64 ((q:Int)+1)))],objs:=[(28,mpO k'),(1000000,.cells [lkA ls,.mref 1000001]),(1000001,atO d K)]}:St)=(λx:FR×Nat×Nat=>({env:=[(0,.ref 1000000 0),(1,.str a),(2,.int .i64 t),(7,.mref 28),(8,lkA F),(36,lkA F),(37,.int .i64 F.length),(38,.int .i64 (x.2.1:Int)),(46,.sl .fit 1 2 (pk2 F x.2.1)),(47,.int .i64 2),(48,.int .i64 (x.2.2:Int))],objs:=[(28,mpO x.1),(1000000,.cells [lkA ls,.mref 1000001]),(1000001,atO d K)]}:St)) (k,v,i+1):=by
 subst hk h1 h2
 rw [bC (by omega)]
theorem Ln (hv:v < F.length) (h:i < 2):∃j,j < F.length/\((F.getD j default).a=pkL F v i∨(F.getD j default).b=pkL F v i):=by
 refine ⟨v,hv,?_⟩
 match i,h with
 | 0,_=>exact .inl rfl
 | 1,_=>exact .inr rfl
theorem Lo {y:CMX} (hF:F.length<=400000) (hk:KnP (ofF F) k) (q:0 < y.1/\y.1<=1+2*F.length/\∀j,j < y.1->aj (ofF F) (y.2.getD j [])=aj (ofF F) (pkL F v i)):J3I F ⟨k,v,i,y,0⟩:=
 ⟨Nat.zero_le _,hk,λj hj=>(q.2.2 j hj).trans (q.2.2 0 q.1).symm,by show y.1<=900000;have:=q.2.1;omega⟩
theorem BD:ag [.str [] ] [(0,.str (LK.a (List.getD F v default))),(1,.str (LK.b (List.getD F v default)))]=pk2 F v:=by
 funext j
 match j with
 | 0=>rfl
 | 1=>rfl
 | j+2=>rfl
theorem Lq {u:St->Bool} {w:St->FR×Nat} {Q:FR×Nat->Prop} (h:aW u w ({env:=[(0,.ref 1000000 0),(1,.str a),(2,.int .i64 t),(7,.mref 28),(8,lkA F),(36,lkA F),(37,.int .i64 F.length),(38,.int .i64 (v:Int)),(46,.sl .fit 1 2 (pk2 F v)),(47,.int .i64 2),(48,.int .i64 0)],objs:=[(28,mpO k),(1000000,.cells [lkA ls,.mref 1000001]),(1000001,atO d K)]}) Q):aW u w ({env:=[(0,.ref 1000000 0),(1,.str a),(2,.int .i64 t),(7,.mref 28),(8,lkA F),(36,lkA F),(37,.int .i64 (List.length F:Int)),(38,.int .i64 (v:Int)),(46,.sl .fit 1 2 (ag [.str [] ] [(0,.str (LK.a (List.getD F v default))),(1,.str (LK.b (List.getD F v default)))])),(47,.int .i64 2),(48,.int .i64 0)],objs:=[(28,mpO k),(1000000,.cells [lkA ls,.mref 1000001]),(1000001,atO d K)]}) Q:=by
 rw [BD];exact h
theorem Lp {w:Nat} (hF:F.length<=400000) (h:v < F.length) (e:w=v):({env:=[(0,.ref 1000000 0),(1,.str a),(2,.int .i64 t),(7,.mref 28),(8,lkA F),(36,lkA F),(37,.int .i64 (List.length F:Int)),(38,.int .i64 (IntKind.wrap .i64 ((w:Int)+1)))],objs:=[(28,mpO k),(1000000,.cells [lkA ls,.mref 1000001]),(1000001,atO d K)]}:St)=(λx:Nat×FR=>({env:=[(0,.ref 1000000 0),(1,.str a),(2,.int .i64 t),(7,.mref 28),(8,lkA F),(36,lkA F),(37,.int .i64 F.length),(38,.int .i64 (x.1:Int))],objs:=[(28,mpO x.2),(1000000,.cells [lkA ls,.mref 1000001]),(1000001,atO d K)]}:St)) (v+1,k):=by
 subst e
 rw [bC (by omega)]
end
section
variable (ls F:List LK) (a:TX) (t:Int) (d:List AV->Bool) (K:Int->FR)
abbrev j3O (x:FR×Nat×Nat) (k:Ex->St->Res):Res:=k (.exit 4) {env:=[(0,.ref 1000000 0),(1,.str a),(2,.int .i64 t),(7,.mref 28),(8,lkA F),(36,lkA F),(37,.int .i64 F.length),(38,.int .i64 (x.2.1:Int)),(46,.sl .fit 1 2 (pk2 F x.2.1)),(47,.int .i64 2),(48,.int .i64 (x.2.2:Int))],objs:=[(28,mpO x.1),(1000000,.cells [lkA ls,.mref 1000001]),(1000001,atO d K)]}
abbrev j2O (x:FR×Nat) (k:Ex->St->Res):Res:=k (.exit 2) {env:=[(0,.ref 1000000 0),(1,.str a),(2,.int .i64 t),(7,.mref 28),(8,lkA F),(36,lkA F),(37,.int .i64 F.length),(38,.int .i64 (x.2:Int))],objs:=[(28,mpO x.1),(1000000,.cells [lkA ls,.mref 1000001]),(1000001,atO d K)]}
abbrev j1O (k:FR) (kk:Ex->St->Res):Res:=kk (.exit 0) {env:=[(0,.ref 1000000 0),(1,.str a),(2,.int .i64 t),(7,.mref 28)],objs:=[(28,mpO k),(1000000,.cells [lkA ls,.mref 1000001]),(1000001,atO d K)]}
theorem Bl (g:Vw):∃ (u:St->Bool) (w:St->FR×Nat×Nat),(∀x:J3X,J3I F x->aW u w ((λx:J3X=>({env:=[(0,.ref 1000000 0),(1,.str a),(2,.int .i64 t),(7,.mref 28),(8,lkA F),(15,.sl .no 1 x.y.1 (txR x.y.2)),(36,lkA F),(37,.int .i64 F.length),(38,.int .i64 (x.v:Int)),(46,.sl .fit 1 2 (pk2 F x.v)),(47,.int .i64 2),(48,.int .i64 (x.i:Int)),(62,.sl .no 1 x.y.1 (txR x.y.2)),(63,.int .i64 (x.y.1:Int)),(64,.int .i64 (x.j:Int))],objs:=[(28,mpO x.k),(1000000,.cells [lkA ls,.mref 1000001]),(1000001,atO d K)]}:St)) x) λo=>o.2.1=x.v/\o.2.2=x.i/\KnP (ofF F) o.1)/\∀L:List (List Nat×Orc),bq (VRo.run [eUt,eFs,BU] 1 [] L [([1,1,0,1,0,1,1,1],g)] eF) eF [1,1,0,1,0,1,1,0,1,0,0,1,1,0,0,1,1,0,0,1,1,0,0,1,1,1,1,0] (mkO u w (j3O ls F a t d K)):=
 gx (V:=VRo) (T:=[eUt,eFs,BU]) (d:=1) (W:=[([1,1,0,1,0,1,1,1],g)]) (Lf:=λL=>L) (λx:J3X=>({env:=[(0,.ref 1000000 0),(1,.str a),(2,.int .i64 t),(7,.mref 28),(8,lkA F),(15,.sl .no 1 x.y.1 (txR x.y.2)),(36,lkA F),(37,.int .i64 F.length),(38,.int .i64 (x.v:Int)),(46,.sl .fit 1 2 (pk2 F x.v)),(47,.int .i64 2),(48,.int .i64 (x.i:Int)),(62,.sl .no 1 x.y.1 (txR x.y.2)),(63,.int .i64 (x.y.1:Int)),(64,.int .i64 (x.j:Int))],objs:=[(28,mpO x.k),(1000000,.cells [lkA ls,.mref 1000001]),(1000001,atO d K)]}:St)) (J3I F) (λx=>x.y.1 - x.j) (j3O ls F a t d K) (λx o=>o.2.1=x.v/\o.2.2=x.i/\KnP (ofF F) o.1) (by kernel_rfl) (λp q o h hp=>by
  have e1:some (AV.int .i64 (p.v:Int))=some (AV.int .i64 (q.v:Int)):=congrArg (λs:St=>s.get 38) h
  have e2:some (AV.int .i64 (p.i:Int))=some (AV.int .i64 (q.i:Int)):=congrArg (λs:St=>s.get 48) h
  injection e1 with e1;injection e1 with _ e1
  injection e2 with e2;injection e2 with _ e2
  exact ⟨hp.1.trans (by omega),hp.2.1.trans (by omega),hp.2.2⟩) (λx hv=>.b (decide ((↑(J3X.j x):Int) < (↑(Prod.fst (J3X.y x)):Int))) (λh1=>
   .n (c:=within (↑(J3X.j x):Int) (Prod.fst (J3X.y x))) (aO (aN h1)) (
   .n (c:=within 0 (Prod.fst (J3X.y x))) (Lm (aN h1)) (
   .nx {env:=[(0,.ref 1000000 0),(1,.str a),(2,.int .i64 t),(7,.mref 28),(8,lkA F),(15,.sl .no 1 (Prod.fst (J3X.y x)) (txR (Prod.snd (J3X.y x)))),(36,lkA F),(37,.int .i64 (↑(List.length F):Int)),(38,.int .i64 (↑(J3X.v x):Int)),(46,.sl .fit 1 2 (pk2 F (J3X.v x))),(47,.int .i64 2),(48,.int .i64 (↑(J3X.i x):Int)),(62,.sl .no 1 (Prod.fst (J3X.y x)) (txR (Prod.snd (J3X.y x)))),(63,.int .i64 (↑(Prod.fst (J3X.y x)):Int)),(64,.int .i64 (IntKind.wrap .i64 ((↑(J3X.j x):Int)+1)))],objs:=[(28,AO.mp false [KD.str] (λl=>bif bO l [.str (List.getD (Prod.snd (J3X.y x)) (Int.toNat (↑(J3X.j x):Int)) [])] then true else fdm (J3X.k x) l) λl=>bif bO l [.str (List.getD (Prod.snd (J3X.y x)) (Int.toNat (↑(J3X.j x):Int)) [])] then .str (List.getD (Prod.snd (J3X.y x)) (Int.toNat 0) []) else fgt (J3X.k x) l),(1000000,.cells [lkA ls,.mref 1000001]),(1000001,AO.mp false [KD.int .i64] d (fgA K))]} {x with k:=up x.k (x.y.2.getD x.j []) (x.y.2.getD 0 []),j:=x.j+1} (Ll hv (aN h1)) (iz (aN h1)) (λ_ h=>h) (Lk hv (aN h1))))) λh1=>
  .fi (x.k,x.v,x.i) ⟨rfl,rfl,hv.kn⟩) (λx L k kn=>by kernel_rfl)
theorem Bm (hF:F.length<=400000) (g:Vw) {u3:St->Bool} {w3:St->FR×Nat×Nat} (hu:∀x:J3X,J3I F x->aW u3 w3 ((λx:J3X=>({env:=[(0,.ref 1000000 0),(1,.str a),(2,.int .i64 t),(7,.mref 28),(8,lkA F),(15,.sl .no 1 x.y.1 (txR x.y.2)),(36,lkA F),(37,.int .i64 F.length),(38,.int .i64 (x.v:Int)),(46,.sl .fit 1 2 (pk2 F x.v)),(47,.int .i64 2),(48,.int .i64 (x.i:Int)),(62,.sl .no 1 x.y.1 (txR x.y.2)),(63,.int .i64 (x.y.1:Int)),(64,.int .i64 (x.j:Int))],objs:=[(28,mpO x.k),(1000000,.cells [lkA ls,.mref 1000001]),(1000001,atO d K)]}:St)) x) λo=>o.2.1=x.v/\o.2.2=x.i/\KnP (ofF F) o.1):∃ (u:St->Bool) (w:St->FR×Nat),(∀x:FR×Nat×Nat,(x.2.2<=2/\x.2.1 < F.length/\KnP (ofF F) x.1)->aW u w ((λx:FR×Nat×Nat=>({env:=[(0,.ref 1000000 0),(1,.str a),(2,.int .i64 t),(7,.mref 28),(8,lkA F),(36,lkA F),(37,.int .i64 F.length),(38,.int .i64 (x.2.1:Int)),(46,.sl .fit 1 2 (pk2 F x.2.1)),(47,.int .i64 2),(48,.int .i64 (x.2.2:Int))],objs:=[(28,mpO x.1),(1000000,.cells [lkA ls,.mref 1000001]),(1000001,atO d K)]}:St)) x) λo=>o.2=x.2.1/\KnP (ofF F) o.1) /\
  ∀i:Orc×Orc,bq (VRo.run [eUt,eFs,BU] 1 [] [([1,1,0,1,0,1,1,0,1,0],i.1),([1,1,0,1,0,1,1,0,1,0,0,1,1,0,0,1,1,0],i.2),([1,1,0,1,0,1,1,0,1,0,0,1,1,0,0,1,1,0,0,1,1,0,0,1,1,1,1,0],mkO u3 w3 (j3O ls F a t d K))] [([1,1,0,1,0,1,1,1],g)] eF) eF [1,1,0,1,0,1,1,0,1,0,0,1,1,0,0,1,1,0] (mkO u w (j2O ls F a t d K)):=
 gx (V:=VRo) (T:=[eUt,eFs,BU]) (d:=1) (W:=[([1,1,0,1,0,1,1,1],g)]) (Lf:=λi:Orc×Orc=>[([1,1,0,1,0,1,1,0,1,0],i.1),([1,1,0,1,0,1,1,0,1,0,0,1,1,0,0,1,1,0],i.2),([1,1,0,1,0,1,1,0,1,0,0,1,1,0,0,1,1,0,0,1,1,0,0,1,1,1,1,0],mkO u3 w3 (j3O ls F a t d K))]) (λx:FR×Nat×Nat=>({env:=[(0,.ref 1000000 0),(1,.str a),(2,.int .i64 t),(7,.mref 28),(8,lkA F),(36,lkA F),(37,.int .i64 F.length),(38,.int .i64 (x.2.1:Int)),(46,.sl .fit 1 2 (pk2 F x.2.1)),(47,.int .i64 2),(48,.int .i64 (x.2.2:Int))],objs:=[(28,mpO x.1),(1000000,.cells [lkA ls,.mref 1000001]),(1000001,atO d K)]}:St)) (λx=>x.2.2<=2/\x.2.1 < F.length/\KnP (ofF F) x.1) (λx=>2 - x.2.2) (j2O ls F a t d K) (λx o=>o.2=x.2.1/\KnP (ofF F) o.1) (by kernel_rfl) (λp q o h hp=>by
  have e1:some (AV.int .i64 (p.2.1:Int))=some (AV.int .i64 (q.2.1:Int)):=congrArg (λs:St=>s.get 38) h
  injection e1 with e1;injection e1 with _ e1
  exact ⟨hp.1.trans (by omega),hp.2⟩) (λx hv=>.b (decide ((↑x.2.2:Int) < 2)) (λh1=>
   .n (c:=within (↑x.2.2:Int) 2) (aO (qR h1)) (
   .b (fdm x.1 [.str (pkL F x.2.1 x.2.2)]) (λh2=>
    .nx {env:=[(0,.ref 1000000 0),(1,.str a),(2,.int .i64 t),(7,.mref 28),(8,lkA F),(36,lkA F),(37,.int .i64 (↑(List.length F):Int)),(38,.int .i64 (↑x.2.1:Int)),(46,.sl .fit 1 2 (pk2 F x.2.1)),(47,.int .i64 2),(48,.int .i64 (IntKind.wrap .i64 ((↑x.2.2:Int)+1)))],objs:=[(28,mpO x.1),(1000000,.cells [lkA ls,.mref 1000001]),(1000001,AO.mp false [KD.int .i64] d (fgA K))]} (x.1,x.2.1,x.2.2+1) ⟨qR h1,hv.2⟩ (iz (qR h1)) (λ_ h=>h) (I9 (qR h1) rfl rfl rfl)) λh2=>
   .call (DA F _ (Ln hv.2.1 (qR h1)) hF) λr3 q3=>
   .lp (hu ⟨x.1,x.2.1,x.2.2,r3,0⟩ (Lo hF hv.2.2 (q3 _ _ rfl))) λr4 q4=>
   .nx {env:=[(0,.ref 1000000 0),(1,.str a),(2,.int .i64 t),(7,.mref 28),(8,lkA F),(36,lkA F),(37,.int .i64 (↑(List.length F):Int)),(38,.int .i64 (↑r4.2.1:Int)),(46,.sl .fit 1 2 (pk2 F r4.2.1)),(47,.int .i64 2),(48,.int .i64 (IntKind.wrap .i64 ((↑r4.2.2:Int)+1)))],objs:=[(28,mpO r4.1),(1000000,.cells [lkA ls,.mref 1000001]),(1000001,AO.mp false [KD.int .i64] d (fgA K))]} (r4.1,x.2.1,x.2.2+1) ⟨qR h1,hv.2.1,q4.2.2⟩ (iz (qR h1)) (λ_ h=>h) (I9 (qR h1) rfl q4.1 q4.2.1))) λh1=>
  .fi (x.1,x.2.1) ⟨rfl,hv.2.2⟩) (λx L k kn=>by kernel_rfl)
theorem Bn (hF:F.length<=400000) (g:Vw) (i3:Orc) {u2:St->Bool} {w2:St->FR×Nat} (hu:∀x:FR×Nat×Nat,(x.2.2<=2/\x.2.1 < F.length/\KnP (ofF F) x.1)->aW u2 w2 ((λx:FR×Nat×Nat=>({env:=[(0,.ref 1000000 0),(1,.str a),(2,.int .i64 t),(7,.mref 28),(8,lkA F),(36,lkA F),(37,.int .i64 F.length),(38,.int .i64 (x.2.1:Int)),(46,.sl .fit 1 2 (pk2 F x.2.1)),(47,.int .i64 2),(48,.int .i64 (x.2.2:Int))],objs:=[(28,mpO x.1),(1000000,.cells [lkA ls,.mref 1000001]),(1000001,atO d K)]}:St)) x) λo=>o.2=x.2.1/\KnP (ofF F) o.1):∃ (u:St->Bool) (w:St->FR),(∀x:Nat×FR,(x.1<=F.length/\KnP (ofF F) x.2)->aW u w ((λx:Nat×FR=>({env:=[(0,.ref 1000000 0),(1,.str a),(2,.int .i64 t),(7,.mref 28),(8,lkA F),(36,lkA F),(37,.int .i64 F.length),(38,.int .i64 (x.1:Int))],objs:=[(28,mpO x.2),(1000000,.cells [lkA ls,.mref 1000001]),(1000001,atO d K)]}:St)) x) (KnP (ofF F))) /\
  ∀i:Orc,bq (VRo.run [eUt,eFs,BU] 1 [] [([1,1,0,1,0,1,1,0,1,0],i),([1,1,0,1,0,1,1,0,1,0,0,1,1,0,0,1,1,0],mkO u2 w2 (j2O ls F a t d K)),([1,1,0,1,0,1,1,0,1,0,0,1,1,0,0,1,1,0,0,1,1,0,0,1,1,1,1,0],i3)] [([1,1,0,1,0,1,1,1],g)] eF) eF [1,1,0,1,0,1,1,0,1,0] (mkO u w (j1O ls a t d K)):=
 bX (V:=VRo) (T:=[eUt,eFs,BU]) (d:=1) (W:=[([1,1,0,1,0,1,1,1],g)]) (Lf:=λi:Orc=>[([1,1,0,1,0,1,1,0,1,0],i),([1,1,0,1,0,1,1,0,1,0,0,1,1,0,0,1,1,0],mkO u2 w2 (j2O ls F a t d K)),([1,1,0,1,0,1,1,0,1,0,0,1,1,0,0,1,1,0,0,1,1,0,0,1,1,1,1,0],i3)]) (λx:Nat×FR=>({env:=[(0,.ref 1000000 0),(1,.str a),(2,.int .i64 t),(7,.mref 28),(8,lkA F),(36,lkA F),(37,.int .i64 F.length),(38,.int .i64 (x.1:Int))],objs:=[(28,mpO x.2),(1000000,.cells [lkA ls,.mref 1000001]),(1000001,atO d K)]}:St)) (λx=>x.1<=F.length/\KnP (ofF F) x.2) (λx=>F.length - x.1) (j1O ls a t d K) (KnP (ofF F)) (by kernel_rfl) (λx hv=>.b (decide ((↑x.1:Int) < (↑(List.length F):Int))) (λh1=>
   .n (c:=within (↑x.1:Int) (List.length F)) (aO (aN h1)) (
   .lp (Lq (hu (x.2,x.1,0) ⟨Nat.zero_le _,aN h1,hv.2⟩)) λr2 q2=>
   .go {env:=[(0,.ref 1000000 0),(1,.str a),(2,.int .i64 t),(7,.mref 28),(8,lkA F),(36,lkA F),(37,.int .i64 (↑(List.length F):Int)),(38,.int .i64 (IntKind.wrap .i64 ((↑r2.2:Int)+1)))],objs:=[(28,mpO r2.1),(1000000,.cells [lkA ls,.mref 1000001]),(1000001,AO.mp false [KD.int .i64] d (fgA K))]} (x.1+1,r2.1) ⟨aN h1,q2.2⟩ (iz (aN h1)) (Lp hF (aN h1) q2.1))) λh1=>
  .fi x.2 hv.2) (λx L k kn=>by kernel_rfl)
end
theorem Au {α:Type} [Inhabited α] (S S':α->St) (hi:∀a b,S a=S b->a=b) (hS:∀v,∀ (B:Base) (c:Cx) (a:Act),Rel B c (S v) a->bg (S v)->∃c',c'.w=c.w/\Rel B c' (S' v) a/\bg (S' v)):∃ (u:St->Bool) (w:St->α),(∀v,True->aW u w (S v) λx=>x=v)/\gm (mkV u w S'):=
 ⟨pz S λ_=>True,uQ S (λ_=>True) id,λv _=>⟨k8 trivial,jc (Post:=λa x=>x=a) (λv _=>rfl) (λa b x h hx=>hx.trans (hi a b h)) trivial⟩,rG S S' (λ_=>True) λv _=>hS v⟩
theorem Hr (ls:List LK) (a:TX) (t:Int) (d:List AV->Bool) (K:Int->FR):∃ (u:St->Bool) (w:St->FR),(∀k,True->aW u w ((λk:FR=>({env:=[(0,.ref 1000000 0),(1,.str a),(2,.int .i64 t),(7,.mref 28)],objs:=[(28,mpO k),(1000000,.cells [lkA ls,.mref 1000001]),(1000001,atO d K)]}:St)) k) λx=>x=k)/\gm (mkV u w λk=>{env:=[(0,.ref 1000000 0),(1,.str a),(2,.int .i64 t),(7,.fms k)],objs:=[(28,.gone),(1000000,.cells [lkA ls,.mref 1000001]),(1000001,atO d K)]}):=
 Au (λk:FR=>({env:=[(0,.ref 1000000 0),(1,.str a),(2,.int .i64 t),(7,.mref 28)],objs:=[(28,mpO k),(1000000,.cells [lkA ls,.mref 1000001]),(1000001,atO d K)]}:St)) (λk=>{env:=[(0,.ref 1000000 0),(1,.str a),(2,.int .i64 t),(7,.fms k)],objs:=[(28,.gone),(1000000,.cells [lkA ls,.mref 1000001]),(1000001,atO d K)]}) (λk q h=>by
  have e:some (mpO k)=some (mpO q):=congrArg (λs:St=>s.obj 28) h
  injection e with e
  exact sh e) λk B c act hr hn=>zf (t:=7) (k:=28) (g:=k) hr hn rfl rfl (λx=>rfl) λx v h=>by show AV.str ((k x).getD [])=_;rw [h];rfl
def gJ (ls:List LK) (d:List AV->Bool) (K:Int->FR):Prop:=∀t,d [.int .i64 t]=true->KnP (ofF (aD ls t)) (K t)
section
variable {ls:List LK} {a:TX} {t:Int} {d:List AV->Bool} {K:Int->FR}
theorem AA (k:FR):AO.mp false [KD.int .i64] (λl=>bif bO l [.int .i64 t] then true else d l) (λl=>bif bO l [.int .i64 t] then AV.fms k else fgA K l)=atO (λl=>bif bO l [.int .i64 t] then true else d l) λs=>cond (s==t) k (K s):=by
 unfold atO
 congr 1
 funext l
 by_cases h:∃n,l=[.int .i64 n]
 ·obtain ⟨n,rfl⟩:=h
  have e:bO [AV.int .i64 n] [.int .i64 t]=(n==t):=by simp [bO,eqC]
  rw [e]
  show cond (n==t) (AV.fms k) (AV.fms (K n))=AV.fms (cond (n==t) k (K n))
  cases n==t <;> rfl
 ·have e:bO l [.int .i64 t]=false:=by
   match l,h with
   | [],_=>rfl
   | [.int q n],h=>
             by_cases hq:q=.i64
             ·subst hq;exact absurd ⟨n,rfl⟩ h
             ·simp [bO,eqC,hq]
   | [.bool _],_ | [.str _],_ | [.nilp],_ | [.nilf],_ | [.nilm],_ | [.nili],_ | [.nni],_ | [.num _],_ | [.undef],_ | [.sl ..],_ | [.agg _],_ | [.arr ..],_ | [.tup _],_ | [.ref ..],_ | [.aref ..],_ | [.elt ..],_ | [.msl ..],_ | [.gsl ..],_ | [.gref ..],_ | [.gsub ..],_ | [.mref _],_ | [.fms _],_ | [.fn ..],_ | [.raw _],_ | [.grd ..],_=>rfl
   | u::w::r,_=>simp only [bO,Bool.and_false]
  rw [e,cond_false]
  have f:∀K':Int->FR,fgA K' l=.nilm:=λK'=>by
   unfold fgA
   split
   ·rename_i n;exact absurd ⟨n,rfl⟩ h
   ·rfl
  rw [f,f]
theorem gJ.up {k:FR} (hk:gJ ls d K) (h:KnP (ofF (aD ls t)) k):gJ ls (λl=>bif bO l [.int .i64 t] then true else d l) λs=>cond (s==t) k (K s):=λs hs=>by
 have e:bO [AV.int .i64 s] [.int .i64 t]=(s==t):=by simp [bO,eqC]
 show KnP (ofF (aD ls s)) (cond (s==t) k (K s))
 cases hb:s==t with
 | true=>
  rw [cond_true,show s=t from by simpa using hb];exact h
 | false=>
  rw [cond_false]
  have hs:(bif bO [AV.int .i64 s] [.int .i64 t] then true else d [.int .i64 s])=true:=hs
  rw [e,hb,cond_false] at hs
  exact hk s hs
theorem I7 {k:FR} (hk:KnP (ofF (aD ls t)) k) (h2:fmD k [.str a]=true):aj (ofF (aD ls t)) ((k a).getD [])=aj (ofF (aD ls t)) a:=by
 have h2:(k a).isSome=true:=h2
 obtain ⟨r,hr⟩:=Option.isSome_iff_exists.1 h2
 rw [hr];exact (hk a r hr).symm
def JrP (ls:List LK) (a:TX) (t:Int) (x:JRX):Prop:=x.2.1=ls/\gJ ls x.2.2.1 x.2.2.2/\aj (ofF (aD ls t)) x.1=aj (ofF (aD ls t)) a
theorem K3 {x:List LK} (hl:ls.length<=300000) (q:rUt [lkA ls,.int .i64 t] [] x):bz wd dC φLk rFs [lkA x] []:=by
 rw [q ls t rfl];exact HE _ (Nat.le_trans (fS ls t) (Nat.le_trans hl (by decide)))
theorem Hs (hl:ls.length<=300000):(bu (aD ls t)).1.length<=400000:=Nat.le_trans (D6 _) (Nat.le_trans (fS ls t) (Nat.le_trans hl (by decide)))
theorem K2 {x y:List LK} {u:St->Bool} {w:St->FR} (hu:∀x:Nat×FR,(x.1<=(bu (aD ls t)).1.length/\KnP (ofF (bu (aD ls t)).1) x.2)->aW u w ((λx:Nat×FR=>({env:=[(0,.ref 1000000 0),(1,.str a),(2,.int .i64 t),(7,.mref 28),(8,lkA (bu (aD ls t)).1),(36,lkA (bu (aD ls t)).1),(37,.int .i64 (bu (aD ls t)).1.length),(38,.int .i64 (x.1:Int))],objs:=[(28,mpO x.2),(1000000,.cells [lkA ls,.mref 1000001]),(1000001,atO d K)]}:St)) x) (KnP (ofF (bu (aD ls t)).1))) (q:rUt [lkA ls,.int .i64 t] [] x) (q2:rFs [lkA x] [] y):aW u w ({env:=[(0,.ref 1000000 0),(1,.str a),(2,.int .i64 t),(7,.mref 28),(8,lkA y),(36,lkA y),(37,.int .i64 (List.length y:Int)),(38,.int .i64 0)],objs:=[(28,mp0),(1000000,.cells [lkA ls,.mref 1000001]),(1000001,atO d K)]}) (KnP (ofF (aD ls t))):=by
 have e1:=q ls t rfl
 subst e1
 have e2:=q2 _ rfl
 subst e2
 have:=hu (0,λ_=>none) ⟨Nat.zero_le _,KnP.nil _⟩
 rw [BA] at this
 rw [show mp0=mpO λ_=>none from GR]
 exact this
theorem K5 {k x:FR} (hk:gJ ls d K) (q:KnP (ofF (aD ls t)) k) (q2:x=k) (h:fmD x [.str a]=true):JrP ls a t ((x a).getD [],ls,(λl=>bif bO l [.int .i64 t] then true else d l),λs=>cond (s==t) x (K s)):=by
 subst q2;exact ⟨rfl,hk.up q,I7 q h⟩
theorem K4 {k x:FR} (hk:gJ ls d K) (q:KnP (ofF (aD ls t)) k) (q2:x=k):JrP ls a t (a,ls,(λl=>bif bO l [.int .i64 t] then true else d l),λs=>cond (s==t) x (K s)):=by
 subst q2;exact ⟨rfl,hk.up q,rfl⟩
theorem I6 (ls:List LK) {x:TX} {k:FR}:Tr (.str x,[.cells [lkA ls,.mref 1000001],AO.mp false [KD.int .i64] (λl=>bif bO l [.int .i64 t] then true else d l) λl=>bif bO l [.int .i64 t] then AV.fms k else fgA K l]) (φJr (x,ls,(λl=>bif bO l [.int .i64 t] then true else d l),λs=>cond (s==t) k (K s))):=by
 rw [AA];exact Tr.refl _
end
def rJr (A:List AV) (O:List AO) (x:JRX):Prop:=∀ls a t d K,A=[.ref ae 0,.str a,.int .i64 t]->O=[.cells [lkA ls,.mref (ae+1)],atO d K]->gJ ls d K->JrP ls a t x
theorem DZ (ls:List LK) (a:TX) (t:Int) (d:List AV->Bool) (K:Int->FR) (hk:gJ ls d K) (hl:ls.length<=300000):bz wd eF φJr rJr [.ref ae 0,.str a,.int .i64 t] [.cells [lkA ls,.mref (ae+1)],atO d K]:=by
 obtain ⟨u9,w9,hw,hV⟩:=Hr ls a t d K
 have hF:=Hs (t:=t) hl
 obtain ⟨u3,w3,hu3,hc3⟩:=Bl ls (bu (aD ls t)).1 a t d K (mkV u9 w9 λk=>{env:=[(0,.ref 1000000 0),(1,.str a),(2,.int .i64 t),(7,.fms k)],objs:=[(28,.gone),(1000000,.cells [lkA ls,.mref 1000001]),(1000001,atO d K)]})
 obtain ⟨u2,w2,hu2,hc2⟩:=Bm ls (bu (aD ls t)).1 a t d K hF (mkV u9 w9 λk=>{env:=[(0,.ref 1000000 0),(1,.str a),(2,.int .i64 t),(7,.fms k)],objs:=[(28,.gone),(1000000,.cells [lkA ls,.mref 1000001]),(1000001,atO d K)]}) hu3
 obtain ⟨u1,w1,hu,hc1⟩:=Bn ls (bu (aD ls t)).1 a t d K hF (mkV u9 w9 λk=>{env:=[(0,.ref 1000000 0),(1,.str a),(2,.int .i64 t),(7,.fms k)],objs:=[(28,.gone),(1000000,.cells [lkA ls,.mref 1000001]),(1000001,atO d K)]}) (mkO u3 w3 (j3O ls (bu (aD ls t)).1 a t d K)) hu2
 refine (bn (V:=VRo) (T:=[eUt,eFs,BU]) (d:=1) (R:=λ_ _ x=>JrP ls a t x) 1 (aE (hc1 _) (aE (hc2 (_,_)) (aE (hc3 _) ao))) (fP hV ak) (.b (d [.int .i64 t]) (λh1=>
   .b (fmD (K t) [.str a]) (λh2=>
    .r (Option.getD (K t a) [],ls,d,K) ⟨rfl,hk,I7 (hk t h1) h2⟩) λh2=>
   .r (a,ls,d,K) ⟨rfl,hk,rfl⟩) λh1=>
  .call (yx ls t (Nat.le_trans hl (by decide))) λr3 q3=>
  .call (K3 hl q3) λr4 q4=>
  .lp (K2 hu q3 q4) λr5 q5=>
  .lp (hw r5 trivial) λr6 q6=>
  .b (fmD r6 [.str a]) (λh7=>
   .t (Option.getD (r6 a) [],ls,(λl=>bif bO l [.int .i64 t] then true else d l),λs=>cond (s==t) r6 (K s)) (K5 hk q5 q6 h7) (I6 ls)) λh7=>
  .t (a,ls,(λl=>bif bO l [.int .i64 t] then true else d l),λs=>cond (s==t) r6 (K s)) (K4 hk q5 q6) (I6 ls)) (by kernel_rfl)).mono λx hx ls' a' t' d' K' h1 h2 _=>?_
 simp only [List.cons.injEq,AV.str.injEq,AV.int.injEq,true_and,and_true] at h1
 obtain ⟨e1,e2⟩:=h1
 injection h2 with h2 h3
 injection h3 with h3 _
 injection h2 with h2
 injection h2 with h2 _
 rw [<-e1,<-e2,<-ee h2];exact hx
noncomputable abbrev eJr:Ent:=dK wd eF φJr rJr
end Go.WF

namespace Go.WF
open Go Go.Ab Go.Proofs
structure XPO where
 id:TX
 cl:TX
 sq:Int
 tm:Int
 arm:Int
 ver:Int
instance:Inhabited XPO:=⟨⟨[],[],0,0,0,0⟩⟩
def XPO.c (x:XPO):List AV:=[.str x.id,.str x.cl,.int .i64 x.sq,.int .i64 x.tm,.int .i64 x.arm,.int .i64 x.ver]
def xpA (l:List XPO):AV:=.sl .no 6 l.length λj=>(l.getD j default).c
abbrev JOX:Type:=Int×List LK×(List AV->Bool)×(Int->FR)
def φJo (x:JOX):AV×List AO:=(.int .i64 x.1,[.cells [lkA x.2.1,.mref (ae+1)],atO x.2.2.1 x.2.2.2])
theorem XPO.jb {x y:XPO} (h:x.c=y.c):x=y:=by
 cases x;cases y
 simp only [XPO.c,List.cons.injEq,AV.str.injEq,AV.int.injEq,true_and,and_true] at h
 obtain ⟨h1,h2,h3,h4,h5,h6⟩:=h
 subst h1 h2 h3 h4 h5 h6;rfl
theorem vT {x y:List XPO} (h:xpA x=xpA y):x=y:=by
 injection h with _ _ h1 h2
 exact jN (f:=XPO.c) (λ_ _=>XPO.jb) h1 h2
def OwA (ls:List LK) (l:List XPO) (a:TX) (t:Int) (x:Int):Prop:=∃i:Nat,x=i/\i < l.length/\(l.getD i default).tm<=t/\aj (ofF (aD ls t)) (l.getD i default).id=aj (ofF (aD ls t)) a
abbrev JOS:Type:=Nat×(List AV->Bool)×(Int->FR)×TX
def JoI (ls:List LK) (l:List XPO) (a:TX) (t:Int) (x:JOS):Prop:=x.1<=l.length/\gJ ls x.2.1 x.2.2.1/\aj (ofF (aD ls t)) x.2.2.2=aj (ofF (aD ls t)) a
def JoP (ls:List LK) (l:List XPO) (a:TX) (t:Int) (x:Bool×JOX):Prop:=x.2.2.1=ls/\gJ ls x.2.2.2.1 x.2.2.2.2/\(x.1=false/\x.2.1 = -1∨x.1=true/\OwA ls l a t x.2.1)
section
variable {ls:List LK} {l:List XPO} {a z:TX} {t:Int} {x:JOS}
abbrev JRQ (ls:List LK) (a:TX) (t:Int) (d:List AV->Bool) (K:Int->FR) (r:JRX):Prop:=rJr [.ref ae 0,.str a,.int .i64 t] [.cells [lkA ls,.mref (ae+1)],atO d K] r
theorem JRQ.p {d:List AV->Bool} {K:Int->FR} {r:JRX} (q:JRQ ls a t d K r) (hk:gJ ls d K):JrP ls a t r:=q ls a t d K rfl rfl hk
theorem K6 {r:JRX} (hv:JoI ls l a t x) (h:x.1 < l.length) (h2:decide ((l.getD x.1 default).tm<=t)=true) (q:JRQ ls (l.getD x.1 default).id t x.2.1 x.2.2.1 r) (h4:(bif true then r.1==x.2.2.2 else false)=true):JoP ls l a t (true,(x.1:Int),r.2):=by
 obtain ⟨e1,e2,e3⟩:=q.p hv.2.1
 have h4:(r.1==x.2.2.2)=true:=h4
 exact ⟨e1,e2,.inr ⟨rfl,x.1,rfl,h,of_decide_eq_true h2,by rw [<-e3,beq_iff_eq.1 h4,hv.2.2]⟩⟩
theorem K7 {r:JRX} (hv:JoI ls l a t x) (h:x.1 < l.length) (q:JRQ ls (l.getD x.1 default).id t x.2.1 x.2.2.1 r):JoI ls l a t (x.1+1,r.2.2.1,r.2.2.2,x.2.2.2):=⟨h,(q.p hv.2.1).2.1,hv.2.2⟩
theorem K9 {r:JRX} {b:TX} (hv:JoI ls l a t x) (q:JRQ ls b t x.2.1 x.2.2.1 r):r.2.1=ls:=(q.p hv.2.1).1
theorem I8 {v:Nat} {d:List AV->Bool} {K:Int->FR} {ls':List LK} (hx:l.length<=1000000) (h:v < l.length) (e:ls'=ls):({env:=[(0,.ref 1000000 0),(3,.int .i64 t),(9,.str z),(16,xpA l),(17,.int .i64 (List.length l:Int)),(18,.int .i64 (IntKind.wrap .i64 ((v:Int)+1)))],objs:=[(1000000,.cells [lkA ls',.mref 1000001]),(1000001,atO d K)]}:St)=(λx:JOS=>({env:=[(0,.ref 1000000 0),(3,.int .i64 t),(9,.str x.2.2.2),(16,xpA l),(17,.int .i64 l.length),(18,.int .i64 (x.1:Int))],objs:=[(1000000,.cells [lkA ls,.mref 1000001]),(1000001,atO x.2.1 x.2.2.1)]}:St)) (v+1,d,K,z):=by
 subst e
 rw [bC (by omega)]
theorem Lb {x:Bool×JOX} (q:JoP ls l a t x) (h:x.1=true):x.2.2.1=ls/\gJ ls x.2.2.2.1 x.2.2.2.2/\(x.2.1 = -1∨OwA ls l a t x.2.1):=by
 obtain ⟨e1,e2,e3 | e3⟩:=q
 ·rw [h] at e3;cases e3.1
 ·exact ⟨e1,e2,.inr e3.2⟩
theorem La {x:Bool×JOX} (q:JoP ls l a t x) (h:x.1=false):x.2.2.1=ls/\gJ ls x.2.2.2.1 x.2.2.2.2/\((-1:Int) = -1∨OwA ls l a t (-1)):=⟨q.1,q.2.1,.inl rfl⟩
end
theorem Bj (ls:List LK) (l:List XPO) (a:TX) (t:Int) (hl:ls.length<=300000) (hx:l.length<=1000000):∃ (u:St->Bool) (w:St->Bool×JOX),(∀x:JOS,JoI ls l a t x->aW u w ((λx:JOS=>({env:=[(0,.ref 1000000 0),(3,.int .i64 t),(9,.str x.2.2.2),(16,xpA l),(17,.int .i64 l.length),(18,.int .i64 (x.1:Int))],objs:=[(1000000,.cells [lkA ls,.mref 1000001]),(1000001,atO x.2.1 x.2.2.1)]}:St)) x) (JoP ls l a t))/\∀L:List (List Nat×Orc),bq ((Vb [28,29,30,31,32,33,34] [] []).run [eJr] 1 [] L [] jP) jP [1,1,0,1,0] (mkO u w (λ(x:Bool×JOX) k=>cond x.1 (k .ret {env:=[(8,.int .i64 x.2.1)],objs:=[(1000000,.cells [lkA x.2.2.1,.mref 1000001]),(1000001,atO x.2.2.2.1 x.2.2.2.2)]}) (k (.exit 0) {env:=[],objs:=[(1000000,.cells [lkA x.2.2.1,.mref 1000001]),(1000001,atO x.2.2.2.1 x.2.2.2.2)]}))):=
 bX (Lf:=λL=>L) (λx:JOS=>{env:=[(0,.ref 1000000 0),(3,.int .i64 t),(9,.str x.2.2.2),(16,xpA l),(17,.int .i64 l.length),(18,.int .i64 (x.1:Int))],objs:=[(1000000,.cells [lkA ls,.mref 1000001]),(1000001,atO x.2.1 x.2.2.1)]}) (JoI ls l a t) (λx=>l.length - x.1) (λ(x:Bool×JOX) k=>cond x.1 (k .ret {env:=[(8,.int .i64 x.2.1)],objs:=[(1000000,.cells [lkA x.2.2.1,.mref 1000001]),(1000001,atO x.2.2.2.1 x.2.2.2.2)]}) (k (.exit 0) {env:=[],objs:=[(1000000,.cells [lkA x.2.2.1,.mref 1000001]),(1000001,atO x.2.2.2.1 x.2.2.2.2)]})) (JoP ls l a t) (by kernel_rfl) (λx hv=>.b (decide ((↑x.1:Int) < (↑(List.length l):Int))) (λh1=>
   .n (c:=within (↑x.1:Int) (List.length l)) (aO (aN h1)) (
   .b (decide (XPO.tm (List.getD l x.1 default)<=t)) (λh2=>
    .call (DZ ls _ t x.2.1 x.2.2.1 hv.2.1 hl) λr3 q3=>
    .b (bif true then r3.1==x.2.2.2 else false) (λh4=>
     .fi (true,(x.1:Int),r3.2) (K6 hv (aN h1) h2 q3 h4)) λh4=>
    .go {env:=[(0,.ref 1000000 0),(3,.int .i64 t),(9,.str x.2.2.2),(16,.sl .no 6 (List.length l) λj=>[.str (XPO.id (List.getD l j default)),.str (XPO.cl (List.getD l j default)),.int .i64 (XPO.sq (List.getD l j default)),.int .i64 (XPO.tm (List.getD l j default)),.int .i64 (XPO.arm (List.getD l j default)),.int .i64 (XPO.ver (List.getD l j default))]),(17,.int .i64 (↑(List.length l):Int)),(18,.int .i64 (IntKind.wrap .i64 ((↑x.1:Int)+1)))],objs:=[(1000000,.cells [lkA r3.2.1,.mref 1000001]),(1000001,AO.mp false [KD.int .i64] r3.2.2.1 (fgA r3.2.2.2))]} (x.1+1,r3.2.2.1,r3.2.2.2,x.2.2.2) (K7 hv (aN h1) q3) (iz (aN h1)) (I8 hx (aN h1) (K9 hv q3))) λh2=>
   .go {env:=[(0,.ref 1000000 0),(3,.int .i64 t),(9,.str x.2.2.2),(16,.sl .no 6 (List.length l) λj=>[.str (XPO.id (List.getD l j default)),.str (XPO.cl (List.getD l j default)),.int .i64 (XPO.sq (List.getD l j default)),.int .i64 (XPO.tm (List.getD l j default)),.int .i64 (XPO.arm (List.getD l j default)),.int .i64 (XPO.ver (List.getD l j default))]),(17,.int .i64 (↑(List.length l):Int)),(18,.int .i64 (IntKind.wrap .i64 ((↑x.1:Int)+1)))],objs:=[(1000000,.cells [lkA ls,.mref 1000001]),(1000001,AO.mp false [KD.int .i64] x.2.1 (fgA x.2.2.1))]} (x.1+1,x.2) ⟨aN h1,hv.2⟩ (iz (aN h1)) (I8 hx (aN h1) rfl))) λh1=>
  .fi (false,-1,ls,x.2.1,x.2.2.1) ⟨rfl,hv.2.1,.inl ⟨rfl,rfl⟩⟩) (λx L k kn=>by kernel_rfl)
def rJo (A:List AV) (O:List AO) (x:JOX):Prop:=∀ls l a t d K,A=[.ref ae 0,xpA l,.str a,.int .i64 t]->O=[.cells [lkA ls,.mref (ae+1)],atO d K]->gJ ls d K->x.2.1=ls/\gJ ls x.2.2.1 x.2.2.2/\(x.1 = -1∨OwA ls l a t x.1)
theorem K8 {ls:List LK} {l:List XPO} {a:TX} {t:Int} {d:List AV->Bool} {K:Int->FR} {r:JRX} {u:St->Bool} {w:St->Bool×JOX} (hu:∀x:JOS,JoI ls l a t x->aW u w ((λx:JOS=>({env:=[(0,.ref 1000000 0),(3,.int .i64 t),(9,.str x.2.2.2),(16,xpA l),(17,.int .i64 l.length),(18,.int .i64 (x.1:Int))],objs:=[(1000000,.cells [lkA ls,.mref 1000001]),(1000001,atO x.2.1 x.2.2.1)]}:St)) x) (JoP ls l a t)) (hk:gJ ls d K) (q:JRQ ls a t d K r):aW u w ({env:=[(0,.ref 1000000 0),(3,.int .i64 t),(9,.str r.1),(16,xpA l),(17,.int .i64 (List.length l:Int)),(18,.int .i64 0)],objs:=[(1000000,.cells [lkA r.2.1,.mref 1000001]),(1000001,atO r.2.2.1 r.2.2.2)]}) (JoP ls l a t):=by
 obtain ⟨e1,e2,e3⟩:=q.p hk
 have:=hu (0,r.2.2.1,r.2.2.2,r.1) ⟨Nat.zero_le _,e2,e3⟩
 rw [e1]
 exact this
theorem Bk (ls:List LK) (l:List XPO) (a:TX) (t:Int) (d:List AV->Bool) (K:Int->FR) (hk:gJ ls d K) (hl:ls.length<=300000) (hx:l.length<=1000000):bz wd jP φJo rJo [.ref ae 0,xpA l,.str a,.int .i64 t] [.cells [lkA ls,.mref (ae+1)],atO d K]:=by
 obtain ⟨u,w,hu,hc⟩:=Bj ls l a t hl hx
 refine (bn (V:=(Vb [28,29,30,31,32,33,34] [] [])) (T:=[eJr]) (d:=1) (R:=λ_ _ x=>x.2.1=ls/\gJ ls x.2.2.1 x.2.2.2/\(x.1 = -1∨OwA ls l a t x.1)) 1 (aE (hc _) ao) ak (.call (DZ ls a t d K hk hl) λr1 q1=>
  .lp (K8 hu hk q1) λr2 q2=>
  .b (r2.1) (λh3=>
   .r r2.2 (Lb q2 h3)) λh3=>
  .r (-1,r2.2.2) (La q2 h3)) (by kernel_rfl)).mono λx hx ls' l' a' t' d' K' h1 h2 _=>?_
 simp only [List.cons.injEq,AV.str.injEq,AV.int.injEq,true_and,and_true] at h1
 obtain ⟨e0,e1,e2⟩:=h1
 injection h2 with h2 h3
 injection h2 with h2
 injection h2 with h2 _
 rw [<-e1,<-e2,<-ee h2,<-vT e0];exact hx
noncomputable abbrev eJo:Ent:=dK wd jP φJo rJo
end Go.WF
