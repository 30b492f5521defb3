/- The library contracts of slices.Sort and slices.Compact at this seat, laid by lay-shelf and lay-plain. slices.Sort and slices.Compact of texts. A view: an empty slice in a slot, a slice that grows and may be stored into from here on. The forced assignments of a register: any answer. digest.Sum, bucket.Of: any answers. bucket.Of: any answer. The members of no segments. assign.Layer at a made environment: any answer of the layer. Made users and environments. Visits: the register and the events agree. Reading a row's data as abstract values: numbers, texts, bools, slices, structs, to any depth. The package variables that a row lists, as the evaluator's globals. Listed variables that hold slices of texts. The globals of the seat out of a row's list; the law's arguments as they came in. The start of an evaluation; an assignment that is forced. The flag of an experiment, for an assignment that is forced. Two ids that were merged have one open slot, which is forced for both. A changed environment; the flag of an experiment; the decision of an audit. identity.Path without links; audit.Explain at a register of one slot. audit.Check of a record of one slot. The sanity check of explanations.  -/
import Derived.Test.YtofjmkmjdaccgaaGreatDoorX6
import Derived.Shelf.Sort.Plain
import Derived.Shelf.Slices.CompactS
import Derived.Shelf.Slices.In.SortNone
import Derived.Test.YtofjmkmjdaccgaaGreatDoorProg
import Derived.ChangeArms
import Derived.ChangeShapes
import Derived.FnData
import Derived.MakeChecks
import Derived.OpenShut
import Derived.Test.YtofjmkmjdaccgaaGreatDoorCards
import Derived.Test.YtofjmkmjdaccgaaGreatDoorTie
set_option linter.unusedVariables false
set_option linter.unusedSimpArgs false
namespace Go.Proofs
open Go.Shelf
def Tryz.qs:Go.Shelf.Ren:=⟨fun | 190=>63 | 125=>98 | 258=>97 | 128=>132 | 129=>133 | 302=>123 | 303=>124 | 304=>125 | 305=>126 | 306=>127 | 307=>128 | 308=>129 | 309=>130 | 310=>131 | 333=>155 | 329=>156 | 330=>157 | 334=>158 | 335=>159 | 336=>160 | 344=>183 | n=>n,fun | 31=>55 | 9=>9 | 3=>3 | 46=>131 | 0=>0 | 51=>270 | 53=>216 | 4=>4 | 183=>264 | 182=>263 | 131=>214 | 5=>5 | 218=>306 | 222=>310 | 228=>344 | 229=>149 | n=>n,fun | n=>n⟩
theorem Tryz.uR:Go.Proofs.Lays.n190 Tryz.prog Tryz.qs:={
 mixed:=by kernel_rfl
 f125:=Tryz.func98.trans (congrArg some (by kernel_rfl))
 f128:=Tryz.func132.trans (congrArg some (by kernel_rfl))
 f129:=Tryz.func133.trans (congrArg some (by kernel_rfl))
 f190:=Tryz.func63.trans (congrArg some (by kernel_rfl))
 f258:=Tryz.func97.trans (congrArg some (by kernel_rfl))
 f302:=Tryz.func123.trans (congrArg some (by kernel_rfl))
 f303:=Tryz.func124.trans (congrArg some (by kernel_rfl))
 f304:=Tryz.func125.trans (congrArg some (by kernel_rfl))
 f305:=Tryz.func126.trans (congrArg some (by kernel_rfl))
 f306:=Tryz.func127.trans (congrArg some (by kernel_rfl))
 f307:=Tryz.func128.trans (congrArg some (by kernel_rfl))
 f308:=Tryz.func129.trans (congrArg some (by kernel_rfl))
 f309:=Tryz.func130.trans (congrArg some (by kernel_rfl))
 f310:=Tryz.func131.trans (congrArg some (by kernel_rfl))
 f329:=Tryz.func156.trans (congrArg some (by kernel_rfl))
 f330:=Tryz.func157.trans (congrArg some (by kernel_rfl))
 f333:=Tryz.func155.trans (congrArg some (by kernel_rfl))
 f334:=Tryz.func158.trans (congrArg some (by kernel_rfl))
 f335:=Tryz.func159.trans (congrArg some (by kernel_rfl))
 f336:=Tryz.func160.trans (congrArg some (by kernel_rfl))
 f344:=Tryz.func183.trans (congrArg some (by kernel_rfl))
 t0:=Tryz.underlying0
 a0:=Tryz.isAgg0
 z0:=Tryz.sizeOf0
 v0:=Tryz.zeroValue0
 t3:=Tryz.underlying3
 a3:=Tryz.isAgg3
 z3:=Tryz.sizeOf3
 v3:=Tryz.zeroValue3
 t4:=Tryz.underlying4
 a4:=Tryz.isAgg4
 z4:=Tryz.sizeOf4
 v4:=Tryz.zeroValue4
 t5:=Tryz.underlying5
 a5:=Tryz.isAgg5
 z5:=Tryz.sizeOf5
 v5:=Tryz.zeroValue5
 t9:=Tryz.underlying9
 a9:=Tryz.isAgg9
 z9:=Tryz.sizeOf9
 v9:=Tryz.zeroValue9
 t31:=Tryz.underlying55
 a31:=Tryz.isAgg55
 z31:=Tryz.sizeOf55
 v31:=Tryz.zeroValue55
 t46:=Tryz.underlying131
 a46:=Tryz.isAgg131
 z46:=Tryz.sizeOf131
 v46:=Tryz.zeroValue131
 t51:=Tryz.underlying270
 a51:=Tryz.isAgg270
 z51:=Tryz.sizeOf270
 v51:=Tryz.zeroValue270
 t53:=Tryz.underlying216
 a53:=Tryz.isAgg216
 z53:=Tryz.sizeOf216
 v53:=Tryz.zeroValue216
 t131:=Tryz.underlying214
 a131:=Tryz.isAgg214
 z131:=Tryz.sizeOf214
 v131:=Tryz.zeroValue214
 t182:=Tryz.underlying263
 a182:=Tryz.isAgg263
 z182:=Tryz.sizeOf263
 v182:=Tryz.zeroValue263
 t183:=Tryz.underlying264
 a183:=Tryz.isAgg264
 z183:=Tryz.sizeOf264
 v183:=Tryz.zeroValue264
 t218:=Tryz.underlying306
 a218:=Tryz.isAgg306
 z218:=Tryz.sizeOf306
 v218:=Tryz.zeroValue306
 t222:=Tryz.underlying310
 a222:=Tryz.isAgg310
 z222:=Tryz.sizeOf310
 v222:=Tryz.zeroValue310
 t228:=Tryz.underlying344
 a228:=Tryz.isAgg344
 z228:=Tryz.sizeOf344
 v228:=Tryz.zeroValue344
 t229:=Tryz.underlying149
 a229:=Tryz.isAgg149
 z229:=Tryz.sizeOf149
 v229:=Tryz.zeroValue149}
open Go.Sort Go.RowKit in
theorem Tryz.slices_Sort_string (blk off cap:Nat) (ss:List (List UInt8)) (w:World) (hH:Holds encStr w blk off ss.toArray) (hblk:blk < w.heap.size) (hsz:ss.length < 4611686018427387904) :
  Calls Tryz.prog 63 #[.slice (some ⟨blk,off,none⟩) ss.length cap] w λe w'=>
   e=.returned (.tuple #[])/\∃n os,w'=grow (putRow encStr (Sort.ahead w n) blk off (ss.mergeSort λx y=>decide (x<=y)).toArray) os:=Any.slices_Sort_string Tryz.uR blk off cap ss w hH hblk hsz
def Tryz.qq:Go.Shelf.Ren:=⟨fun | 194=>64 | n=>n,fun | 31=>55 | 9=>9 | 3=>3 | 4=>4 | 0=>0 | n=>n,fun | n=>n⟩
theorem Tryz.uQ:Go.Proofs.Lays.n194 Tryz.prog Tryz.qq:={
 mixed:=by kernel_rfl
 f194:=Tryz.func64.trans (congrArg some (by kernel_rfl))
 t0:=Tryz.underlying0
 a0:=Tryz.isAgg0
 z0:=Tryz.sizeOf0
 v0:=Tryz.zeroValue0
 t3:=Tryz.underlying3
 a3:=Tryz.isAgg3
 z3:=Tryz.sizeOf3
 v3:=Tryz.zeroValue3
 t4:=Tryz.underlying4
 a4:=Tryz.isAgg4
 z4:=Tryz.sizeOf4
 v4:=Tryz.zeroValue4
 t9:=Tryz.underlying9
 a9:=Tryz.isAgg9
 z9:=Tryz.sizeOf9
 v9:=Tryz.zeroValue9
 t31:=Tryz.underlying55
 a31:=Tryz.isAgg55
 z31:=Tryz.sizeOf55
 v31:=Tryz.zeroValue55}
open Go.RowKit Go.Lib Go.Sort in
theorem Tryz.slices_Compact_string (blk off cap:Nat) (zs:List (List UInt8)) (w:World) (hH:Holds encStr w blk off zs.toArray) (hsz:zs.length<=9223372036854775807) (hcap:zs.length<=cap) :
  Calls Tryz.prog 64 #[.slice (some ⟨blk,off,none⟩) zs.length cap] w λe w'=>e=.returned (.slice (some ⟨blk,off,none⟩) (Lib.compact zs).length cap)/\∃q,w'=putRow encStr (Sort.ahead w q) blk off (Lib.compact zs++List.replicate (zs.length - (Lib.compact zs).length) []).toArray:=Any.slices_Compact_string Tryz.uQ blk off cap zs w hH hsz hcap
open Go.RowKit Go.Lib Go.Sort in
theorem Tryz.slices_Compact_string_empty (a:Option Addr) (cap:Nat) (w:World) :
  Calls Tryz.prog 64 #[.slice a 0 cap] w λe w'=>e=.returned (.slice a 0 cap)/\w'=w:=Any.slices_Compact_string_empty Tryz.uQ a cap w
open Go.RowKit Go.Sort in
theorem Tryz.slices_Sort_string_none (p:Option Addr) (cap:Nat) (w:World) :
  Calls Tryz.prog 63 #[.slice p 0 cap] w λe w'=>e=.returned (.tuple #[])/\w'=w:=Any.slices_Sort_string_none Tryz.uR p cap w
end Go.Proofs

namespace Go.WF
open Go Go.Ab Go.Proofs
abbrev TXL:Type:=List (List UInt8)
theorem xB {l x:TXL} (h:l.length=x.length) (e:txR l=txR x):l=x:=by
 apply List.ext_getElem h
 intro i h1 h2
 have e:txR l i=txR x i:=congrFun e i
 simp only [txR,List.getD_eq_getElem?_getD,List.getElem?_eq_getElem h1,List.getElem?_eq_getElem h2,Option.getD_some,List.cons.injEq,AV.str.injEq,and_true] at e
 exact e
theorem u4 {l x:TXL} (e:[AO.grw 0 1 l.length (txR l)]=[AO.grw 0 1 x.length (txR x)]):l=x:=by
 injection e with e _
 injection e with _ _ e1 e2
 exact xB e1 e2
def φSo (x:TXL):AV×List AO:=(.tup [],[.grw 0 1 x.length (txR x)])
def rSo (A:List AV) (O:List AO) (x:TXL):Prop:=∀l:TXL,O=[.grw 0 1 l.length (txR l)]->x.length=l.length/\∀z,(∀u∈l,u=z)->∀u∈x,u=z
theorem BK (l:TXL) (hl:l.length<=1000000):bo wd cB φSo rSo [.gsl ae 1 l.length] [.grw 0 1 l.length (txR l)]:=
 ⟨l.mergeSort λx y=>decide (x<=y),λl' e=>by
  rw [<-u4 e]
  exact ⟨List.length_mergeSort _,λz hz u hu=>hz u (((List.mergeSort_perm l _).mem_iff).1 hu)⟩,
  tg ⟨_,Tryz.func63,by kernel_rfl,by kernel_rfl⟩ (List.length_mergeSort _) (λblk cap w hH hb=>Tryz.slices_Sort_string blk 0 cap l w hH hb (by omega)) (λp cap w h=>Tryz.slices_Sort_string_none p cap w)⟩
noncomputable abbrev eSo:Ent:=du wd cB φSo rSo
abbrev CMX:Type:=Nat×TXL
def φCm (x:CMX):AV×List AO:=(.sl .no 1 x.1 (txR x.2),[.gone])
def rCm (A:List AV) (O:List AO) (x:CMX):Prop:=∀l:TXL,O=[.grw 0 1 l.length (txR l)]->x.1<=l.length/\∀z,(∀u∈l,u=z)->l≠[]->x.1=1/\x.2.getD 0 []=z
theorem ti (l:TXL):(Lib.compact l).length<=l.length:=by
 unfold Lib.compact Lib.compactUpTo
 rw [List.length_map]
 exact Nat.le_trans (List.length_filter_le _ _) (by rw [List.length_range];exact Nat.le_refl _)
theorem vz {l:TXL} {z:List UInt8} (hz:∀u∈l,u=z) {i:Nat} (hi:i < l.length):l.toArray[i]! = z:=by
 rw [getElem!_pos _ i (by simpa using hi)]
 simpa using hz _ (List.getElem_mem hi)
theorem lg {l:TXL} {z:List UInt8} (hz:∀u∈l,u=z):∀m,m+1<=l.length->Lib.compactUpTo l.toArray (m+1)=[z]
 | 0,h=>by
  show (([0].filter _).map _)=[z]
  have:Lib.keeps l.toArray 0=true:=by simp [Lib.keeps]
  rw [List.filter_cons_of_pos this,List.filter_nil,List.map_cons,List.map_nil,vz hz (by omega)]
 | m+1,h=>by
  have ih:=lg hz m (by omega)
  unfold Lib.compactUpTo at ih ⊢
  have hk:Lib.keeps l.toArray (m+1)=false:=by
   simp [Lib.keeps,vz hz (show m+1 < l.length by omega),vz hz (show m < l.length by omega)]
  rw [List.range_succ,List.filter_append,List.map_append,ih,List.filter_cons_of_neg (by rw [hk];decide),List.filter_nil]
  rfl
theorem pF {l:TXL} {z:List UInt8} (hz:∀u∈l,u=z) (hne:l≠[]):Lib.compact l=[z]:=by
 cases l with
 | nil=>exact absurd rfl hne
 | cons a r=>exact lg hz r.length (Nat.le_refl _)
theorem Di (l:TXL) (hl:l.length<=1000000):bo wd br φCm rCm [.gsl ae 1 l.length] [.grw 0 1 l.length (txR l)]:=
 have hc:=ti l
 ⟨((Lib.compact l).length,Lib.compact l++List.replicate (l.length - (Lib.compact l).length) []),λl' e=>by
  rw [<-u4 e]
  refine ⟨hc,λz hz hne=>?_⟩
  rw [pF hz hne]
  exact ⟨rfl,rfl⟩,
  tf ⟨_,Tryz.func64,by kernel_rfl,by kernel_rfl⟩ (by rw [List.length_append,List.length_replicate];omega) hc (λblk cap w hH hcap=>Tryz.slices_Compact_string blk 0 cap l w hH (by omega) hcap) (λp cap w h=>Tryz.slices_Compact_string_empty p cap w)⟩
noncomputable abbrev eCm:Ent:=du wd br φCm rCm
end Go.WF

namespace Go.Ab
open Go Go.RowKit
def na (t K sz:Nat) (get:Nat->List AV):Vw:=λs f=>
 match s.get t,s.obj K with
 | some (.sl .fit _ 0 _),none=>cond (Nat.blt 0 sz) (f ((s.setObj K (.grw 0 sz 0 get)).put (some t) (.gsl K sz 0))) (f s)
 | _,_=>f s
theorem uA (t K sz:Nat) (get:Nat->List AV):iB (na t K sz get):=by
 intro s f r h
 unfold na at h
 split at h
 ·rename_i sz0 g0 ht hK
  cases hb:Nat.blt 0 sz with
  | false=>rw [hb] at h;exact ⟨s,h,λB c a hr hn=>⟨c,rfl,hr,hn⟩⟩
  | true=>
   rw [hb] at h
   refine ⟨_,h,λB c a hr hn=>?_⟩
   have hsz:0 < sz:=Nat.le_of_ble_eq_true hb
   have hX:a.tmps.getD t undef=.slice none 0 0∨∃ad,a.tmps.getD t undef=.slice (some ad) 0 0:=by
    have h0:Rep c (.sl .fit sz0 0 g0) (a.tmps.getD t undef):=hr.env t _ ht
    generalize a.tmps.getD t undef=X at h0
    cases h0 with
    | slNil _ _ _ _=>exact .inl rfl
    | sl _ _ _ _ ad cap _ _ _ ho _ _ _=>exact .inr ⟨ad,by have:cap=0:=ho;rw [this]⟩
   obtain ⟨c',e1,e2,e3,e4,e5⟩:=pj hr hsz hK hX get
   refine ⟨c',e1,⟨e2.good,e2.frame,e2.objs,λq v hq=>?_,λq v hq=>?_,e2.mine,e2.tmps,e2.defers,e2.kept⟩,λq v hq=>?_⟩
   ·rw [St.dh] at hq
    by_cases e:t=q
    ·subst e;rw [if_pos rfl] at hq;cases hq;exact e3
    ·rw [if_neg e] at hq;exact e2.env q v hq
   ·rw [St.dh] at hq
    by_cases e:t=q
    ·subst e;rw [if_pos rfl] at hq;cases hq;exact e4
    ·rw [if_neg e] at hq;exact e2.closed q v hq
   ·rw [St.dh] at hq
    by_cases e:t=q
    ·subst e;rw [if_pos rfl] at hq;cases hq;rfl
    ·rw [if_neg e] at hq;exact hn q v hq
 ·exact ⟨s,h,λB c a hr hn=>⟨c,rfl,hr,hn⟩⟩
end Go.Ab

namespace Go.WF
open Go Go.Ab Go.Proofs
noncomputable def VFd:Env:={Vb [] [29] [] with byRef:=λf=>cond (Nat.beq f 63) true (Nat.beq f 64)}
noncomputable instance envFd:EnvOk VFd wd:=⟨rfl,rfl,gX,ig⟩
def φFd (x:List FD):AV×List AO:=(fdA x,[])
def Be (r:RG):Prop:=∀u∈r.ss.map SL.layer,u=aB
noncomputable def fdO (r:RG) (a:TX) (n:Int):List FD:=cond (atF r a aB n).2 [⟨aB,(atF r a aB n).1.exp,(atF r a aB n).1.arm⟩] []
noncomputable def fdF (r:RG) (a:TX) (n:Int):List FD:=match r.ss with
 | []=>[]
 | _=>fdO r a n
def FdP (r:RG) (a:TX) (n:Int) (x:List FD):Prop:=x.length<=1000000/\(Be r->x=fdF r a n)
def rFd (A:List AV) (_:List AO) (x:List FD):Prop:=∀r a n,A=[rgA r,.str a,.int .i64 n]->FdP r a n x
theorem tA {a b:Nat} (h:a < b):Nat.blt a b=true:=Nat.ble_eq_true_of_le h
theorem D3 {a b:Nat} (h:¬ a < b):Nat.blt a b=false:=by
 cases e:Nat.blt a b with
 | false=>rfl
 | true=>exact absurd (Nat.le_of_ble_eq_true e) h
theorem mJ {α:Type} [Inhabited α] (f:α->List AV) (l:List α) (x:α) (g:Nat->List AV) (hg:g 0=f x):ay l.length 1 (λj=>f (l.getD j default)) g=λj=>f ((l++[x]).getD j default):=by
 funext j
 unfold ay
 by_cases h:j < l.length
 ·rw [tA h,cond_true,e9 h]
 ·rw [D3 h,cond_false]
  by_cases e:j=l.length
  ·subst e
   rw [tA (Nat.lt_succ_self _),cond_true,Nat.sub_self,hg,fw]
  ·rw [D3 (by omega),cond_false]
   show f (l.getD j default)=_
   rw [List.getD_eq_getElem?_getD,List.getD_eq_getElem?_getD,List.getElem?_eq_none (by omega),List.getElem?_eq_none (by simp;omega)]
section
variable {r:RG} {a:TX} {n:Int}
def xu (r:RG) (v:Nat×TXL):Prop:=v.1<=r.ss.length/\v.2=(r.ss.take v.1).map SL.layer
structure FdI2 (r:RG) (a:TX) (n:Int) (v:(Nat×TXL)×Nat×List FD):Prop where
 m:v.1.1<=1000000
 i:v.2.1<=v.1.1
 k:v.2.2.length<=v.2.1
 one:Be r->(r.ss≠[]->v.1.1=1/\v.1.2.getD 0 []=aB)/\(r.ss=[]->v.1.1=0)/\v.2.2=cond (Nat.beq v.2.1 0) [] (fdO r a n)
theorem CU {v:Nat×TXL} (hv:xu r v):v.2.length=v.1:=by
 rw [hv.2,List.length_map,List.length_take,Nat.min_eq_left hv.1]
theorem Fu (r:RG):xu r (0,[]):=⟨Nat.zero_le _,rfl⟩
theorem CZ {v:Nat×TXL} (hv:xu r v) (h:v.1 < r.ss.length):xu r (v.1+1,v.2++[(r.ss.getD v.1 default).layer]):=⟨h,by
 show v.2++[(r.ss.getD v.1 default).layer]=(r.ss.take (v.1+1)).map SL.layer
 rw [hv.2,List.take_add_one,List.map_append,List.getD_eq_getElem?_getD,List.getElem?_eq_getElem h]
 rfl⟩
theorem C1 {v:Nat×TXL} (hv:xu r v) (h:decide ((v.1:Int) < (r.ss.length:Int))=false):v.2=r.ss.map SL.layer:=by
 have:=of_decide_eq_false h
 have:=hv.1
 rw [hv.2,List.take_of_length_le (by omega)]
theorem yn {x:TXL} (hs:r.ss.length<=1000000) (q:x=r.ss.map SL.layer):x.length<=1000000:=by rw [q,List.length_map];exact hs
theorem CY {v:(Nat×TXL)×Nat×List FD} {x:ATX} (hv:FdI2 r a n v) (h:v.2.1 < v.1.1) (q:x=atF r a (v.1.2.getD v.2.1 []) n) (h3:x.2=true):FdI2 r a n (v.1,v.2.1+1,v.2.2++[FD.mk (v.1.2.getD v.2.1 []) x.1.exp x.1.arm]):=⟨hv.m,h,by show (v.2.2++[_]).length<=v.2.1+1;rw [List.length_append];have:=hv.k;simp;omega,λha=>by
 obtain ⟨h1,h2,h4⟩:=hv.one ha
 refine ⟨h1,h2,?_⟩
 have hne:r.ss≠[]:=λe=>by have:=h2 e;omega
 obtain ⟨e1,e2⟩:=h1 hne
 have e0:v.2.1=0:=by omega
 rw [e0] at h4 q ⊢
 show v.2.2++_=fdO r a n
 rw [h4]
 show [FD.mk (v.1.2.getD 0 []) x.1.exp x.1.arm]=_
 rw [e2] at q ⊢
 unfold fdO
 rw [<-q,h3]
 rfl⟩
theorem CX {v:(Nat×TXL)×Nat×List FD} {x:ATX} (hv:FdI2 r a n v) (h:v.2.1 < v.1.1) (q:x=atF r a (v.1.2.getD v.2.1 []) n) (h3:x.2=false):FdI2 r a n (v.1,v.2.1+1,v.2.2):=⟨hv.m,h,Nat.le_succ_of_le hv.k,λha=>by
 obtain ⟨h1,h2,h4⟩:=hv.one ha
 refine ⟨h1,h2,?_⟩
 have hne:r.ss≠[]:=λe=>by have:=h2 e;omega
 obtain ⟨e1,e2⟩:=h1 hne
 have e0:v.2.1=0:=by omega
 rw [e0] at h4 q ⊢
 show v.2.2=fdO r a n
 rw [e2] at q
 rw [h4]
 show []=fdO r a n
 unfold fdO
 rw [<-q,h3]
 rfl⟩
theorem C0 {v:(Nat×TXL)×Nat×List FD} (hv:FdI2 r a n v) (h:decide ((v.2.1:Int) < (v.1.1:Int))=false):FdP r a n v.2.2:=by
 have:=of_decide_eq_false h
 have h0:=hv.i
 have h1:=hv.k
 have h2:=hv.m
 refine ⟨by omega,λha=>?_⟩
 obtain ⟨g1,g2,g3⟩:=hv.one ha
 have e:v.2.1=v.1.1:=by omega
 rw [g3,e]
 unfold fdF
 split
 ·rename_i hn;rw [g2 hn];rfl
 ·rename_i hn;rw [(g1 (λe=>hn e)).1];rfl
theorem Fq {os:List AO} {x:List FD} (h:FdP r a n x):rFd [rgA r,.str a,.int .i64 n] os x:=by
 intro r' a' n' e
 simp only [List.cons.injEq,AV.str.injEq,AV.int.injEq,true_and,and_true] at e
 obtain ⟨e1,e2,e3⟩:=e
 rw [<-gT e1,<-e2,<-e3];exact h
theorem Ft {x:Bool} {A:List AV} {os:List AO} (q:rE true A os x):(!x)=false:=by have q:x=true:=q;rw [q];rfl
theorem CT {v:Nat×TXL} (hs:r.ss.length<=1000000) (hv:xu r v) (h:v.1 < r.ss.length):{env:=[(1,.str a),(2,.int .i64 n),(3,.ref 3 0),(7,AV.gsl 29 1 (List.length v.2+1)),(19,slA (RG.ss r)),(20,.int .i64 (↑(List.length (RG.ss r)):Int)),(21,.int .i64 (IntKind.wrap .i64 ((↑v.1:Int)+1)))],objs:=[(3,.cells (RG.c r)),(29,AO.grw 0 1 (List.length v.2+1) (ay (List.length v.2) 1 (txR v.2) (ai [.str []] [(0,.str (SL.layer (List.getD (RG.ss r) v.1 default)))])))]}=(λv:Nat×TXL=>({env:=[(1,.str a),(2,.int .i64 n),(3,.ref 3 0),(7,.gsl 29 1 v.2.length),(19,slA r.ss),(20,.int .i64 r.ss.length),(21,.int .i64 (v.1:Int))],objs:=[(3,.cells r.c),(29,.grw 0 1 v.2.length (txR v.2))]}:St)) (v.1+1,v.2++[(r.ss.getD v.1 default).layer]):=by
 rw [c8 (by omega),show ay (List.length v.2) 1 (txR v.2) (ai [.str []] [(0,.str (SL.layer (List.getD (RG.ss r) v.1 default)))])=txR (v.2++[(r.ss.getD v.1 default).layer]) from mJ (λs:TX=>[.str s]) v.2 _ _ rfl,show v.2.length+1=(v.2++[(r.ss.getD v.1 default).layer]).length by simp]
theorem CS {v:(Nat×TXL)×Nat×List FD} {r2:ATX} (hv:FdI2 r a n v) (h:v.2.1 < v.1.1):{env:=[(1,.str a),(2,.int .i64 n),(3,.ref 3 0),(10,.sl (.key 57) 3 (List.length v.2.2+1) (ay (List.length v.2.2) 1 (λj=>[.str (FD.layer (List.getD v.2.2 j default)),.str (FD.exp (List.getD v.2.2 j default)),.int .i64 (FD.arm (List.getD v.2.2 j default))]) (ai [.str [],.str [],.int .i64 0] [(0,.agg [.str (List.getD v.1.2 v.2.1 []),.str (SL.exp r2.1),.int .i64 (SL.arm r2.1)])]))),(34,.sl .no 1 v.1.1 (txR v.1.2)),(35,.int .i64 (↑v.1.1:Int)),(36,.int .i64 (IntKind.wrap .i64 ((↑v.2.1:Int)+1)))],objs:=[(3,.cells (RG.c r)),(57,.own 3 (List.length v.2.2+1))]}=(λv:(Nat×TXL)×Nat×List FD=>({env:=[(1,.str a),(2,.int .i64 n),(3,.ref 3 0),(10,.sl (.key 57) 3 v.2.2.length λj=>(v.2.2.getD j default).c),(34,.sl .no 1 v.1.1 (txR v.1.2)),(35,.int .i64 (v.1.1:Int)),(36,.int .i64 (v.2.1:Int))],objs:=[(3,.cells r.c),(57,.own 3 v.2.2.length)]}:St)) (v.1,v.2.1+1,v.2.2++[FD.mk (v.1.2.getD v.2.1 []) r2.1.exp r2.1.arm]):=by
 have:=hv.m
 rw [c8 (by omega)]
 show _=({env:=[(1,.str a),(2,.int .i64 n),(3,.ref 3 0),(10,.sl (.key 57) 3 (v.2.2++[FD.mk (v.1.2.getD v.2.1 []) r2.1.exp r2.1.arm]).length λj=>((v.2.2++[FD.mk (v.1.2.getD v.2.1 []) r2.1.exp r2.1.arm]).getD j default).c),(34,.sl .no 1 v.1.1 (txR v.1.2)),(35,.int .i64 (v.1.1:Int)),(36,.int .i64 ((v.2.1+1:Nat):Int))],objs:=[(3,.cells r.c),(57,.own 3 (v.2.2++[FD.mk (v.1.2.getD v.2.1 []) r2.1.exp r2.1.arm]).length)]}:St)
 rw [<-mJ FD.c v.2.2 _ (ai [.str [],.str [],.int .i64 0] [(0,.agg [.str (List.getD v.1.2 v.2.1 []),.str (SL.exp r2.1),.int .i64 (SL.arm r2.1)])]) rfl,show (v.2.2++[FD.mk (v.1.2.getD v.2.1 []) r2.1.exp r2.1.arm]).length=v.2.2.length+1 by simp]
 rfl
theorem CQ {v:(Nat×TXL)×Nat×List FD} (hv:FdI2 r a n v) (h:v.2.1 < v.1.1):{env:=[(1,.str a),(2,.int .i64 n),(3,.ref 3 0),(10,.sl (.key 57) 3 (List.length v.2.2) λj=>[.str (FD.layer (List.getD v.2.2 j default)),.str (FD.exp (List.getD v.2.2 j default)),.int .i64 (FD.arm (List.getD v.2.2 j default))]),(34,.sl .no 1 v.1.1 (txR v.1.2)),(35,.int .i64 (↑v.1.1:Int)),(36,.int .i64 (IntKind.wrap .i64 ((↑v.2.1:Int)+1)))],objs:=[(3,.cells (RG.c r)),(57,.own 3 (List.length v.2.2))]}=(λv:(Nat×TXL)×Nat×List FD=>({env:=[(1,.str a),(2,.int .i64 n),(3,.ref 3 0),(10,.sl (.key 57) 3 v.2.2.length λj=>(v.2.2.getD j default).c),(34,.sl .no 1 v.1.1 (txR v.1.2)),(35,.int .i64 (v.1.1:Int)),(36,.int .i64 (v.2.1:Int))],objs:=[(3,.cells r.c),(57,.own 3 v.2.2.length)]}:St)) (v.1,v.2.1+1,v.2.2):=by
 have:=hv.m
 rw [c8 (by omega)]
 rfl
theorem C2 {x y:TXL} (hs:r.ss.length<=1000000) (hx:x=r.ss.map SL.layer) (q:rSo [.gsl 1000000 1 x.length] [.grw 0 1 x.length (txR x)] y):bo wd br φCm rCm [.gsl 1000000 1 x.length] [.grw 0 1 y.length (txR y)]:=by
 have e:=(q x rfl).1
 rw [<-e]
 exact Di y (by rw [e];exact yn hs hx)
theorem Fs {x y:TXL} {z:CMX} (hs:r.ss.length<=1000000) (hx:x=r.ss.map SL.layer) (q:rSo [.gsl 1000000 1 x.length] [.grw 0 1 x.length (txR x)] y) (h:z.1<=y.length/\∀t,(∀u∈y,u=t)->y≠[]->z.1=1/\z.2.getD 0 []=t):FdI2 r a n (z,0,[]):=by
 obtain ⟨e1,e2⟩:=q x rfl
 have hx1:=yn hs hx
 have hlen:x.length=r.ss.length:=by rw [hx,List.length_map]
 refine ⟨by have:=h.1;show z.1<=_;omega,Nat.zero_le _,Nat.zero_le _,λha=>⟨λhne=>h.2 _ (e2 _ (by rw [hx];exact ha)) (λe=>?_),λe=>?_,rfl⟩⟩
 ·have e:y.length=0:=by rw [e];rfl
  have:0 < r.ss.length:=List.length_pos_iff.2 hne
  omega
 ·have e:r.ss.length=0:=by rw [e];rfl
  have:=h.1
  show z.1=0
  omega
end
theorem CW (r:RG) (a:TX) (n:Int) (hs:r.ss.length<=1000000):∃ (u:St->Bool) (w:St->TXL),(∀v:Nat×TXL,xu r v->cg u w ((λv:Nat×TXL=>({env:=[(1,.str a),(2,.int .i64 n),(3,.ref 3 0),(7,.gsl 29 1 v.2.length),(19,slA r.ss),(20,.int .i64 r.ss.length),(21,.int .i64 (v.1:Int))],objs:=[(3,.cells r.c),(29,.grw 0 1 v.2.length (txR v.2))]}:St)) v) λx=>x=r.ss.map SL.layer)/\∀C:List (List Nat×Orc),bW (VFd.run [eVa,eSo,eCm,eAt] 1 [] C [([1,1,1],na 7 29 1 (txR []))] ck) ck [1,1,1,0,1,0] (mkO u w (λ(t:TXL) k=>k (.exit 0) {env:=[(1,.str a),(2,.int .i64 n),(3,.ref 3 0),(7,AV.gsl 29 1 t.length)],objs:=[(3,.cells r.c),(29,AO.grw 0 1 t.length (txR t))]})):=
 c6 (V:=VFd) (T:=[eVa,eSo,eCm,eAt]) (d:=1) (W:=[([1,1,1],na 7 29 1 (txR []))]) (f:=ck) (p:=[1,1,1,0,1,0]) (Lf:=λL=>L) (λv:Nat×TXL=>{env:=[(1,.str a),(2,.int .i64 n),(3,.ref 3 0),(7,.gsl 29 1 v.2.length),(19,slA r.ss),(20,.int .i64 r.ss.length),(21,.int .i64 (v.1:Int))],objs:=[(3,.cells r.c),(29,.grw 0 1 v.2.length (txR v.2))]}) (xu r) (λv=>r.ss.length - v.1) (λ(t:TXL) k=>k (.exit 0) {env:=[(1,.str a),(2,.int .i64 n),(3,.ref 3 0),(7,AV.gsl 29 1 t.length)],objs:=[(3,.cells r.c),(29,AO.grw 0 1 t.length (txR t))]}) (λx=>x=r.ss.map SL.layer) (by kernel_rfl) (λv hv=>.b (decide ((↑v.1:Int) < (↑(List.length (RG.ss r)):Int))) (λh1=>
   .n (c:=within (↑v.1:Int) (List.length (RG.ss r))) (bJ (bF h1)) (
   .n (c:=roomy 16 (List.length v.2+1)&&Nat.beq (List.length v.2) (List.length v.2)) (bL (by have:=CU hv;have:=bF h1;omega)) (
   .go {env:=[(1,.str a),(2,.int .i64 n),(3,.ref 3 0),(7,AV.gsl 29 1 (List.length v.2+1)),(19,slA (RG.ss r)),(20,.int .i64 (↑(List.length (RG.ss r)):Int)),(21,.int .i64 (IntKind.wrap .i64 ((↑v.1:Int)+1)))],objs:=[(3,.cells (RG.c r)),(29,AO.grw 0 1 (List.length v.2+1) (ay (List.length v.2) 1 (txR v.2) (ai [.str []] [(0,.str (SL.layer (List.getD (RG.ss r) v.1 default)))])))]} (v.1+1,v.2++[(r.ss.getD v.1 default).layer]) (CZ hv (bF h1)) (o9 (bF h1)) (CT hs hv (bF h1))))) λh1=>
  .fi v.2 (C1 hv h1)) (λv L k kn=>by kernel_rfl)
theorem CV (r:RG) (a:TX) (n:Int) (hl:r.ls.length<=1000000) (hs:r.ss.length<=1000000):∃ (u:St->Bool) (w:St->List FD),(∀v:(Nat×TXL)×Nat×List FD,FdI2 r a n v->cg u w ((λv:(Nat×TXL)×Nat×List FD=>({env:=[(1,.str a),(2,.int .i64 n),(3,.ref 3 0),(10,.sl (.key 57) 3 v.2.2.length λj=>(v.2.2.getD j default).c),(34,.sl .no 1 v.1.1 (txR v.1.2)),(35,.int .i64 (v.1.1:Int)),(36,.int .i64 (v.2.1:Int))],objs:=[(3,.cells r.c),(57,.own 3 v.2.2.length)]}:St)) v) (FdP r a n))/\∀C:List (List Nat×Orc),bW (VFd.run [eVa,eSo,eCm,eAt] 1 [] C [([1,1,1],na 7 29 1 (txR []))] ck) ck [1,1,1,1,1,1,0,1,0] (mkO u w (λ(t:List FD) k=>k (.exit 2) {env:=[(10,.sl (.key 57) 3 t.length λj=>(t.getD j default).c)],objs:=[(57,.own 3 t.length)]})):=
 c6 (V:=VFd) (T:=[eVa,eSo,eCm,eAt]) (d:=1) (W:=[([1,1,1],na 7 29 1 (txR []))]) (f:=ck) (p:=[1,1,1,1,1,1,0,1,0]) (Lf:=λL=>L) (λv:(Nat×TXL)×Nat×List FD=>{env:=[(1,.str a),(2,.int .i64 n),(3,.ref 3 0),(10,.sl (.key 57) 3 v.2.2.length λj=>(v.2.2.getD j default).c),(34,.sl .no 1 v.1.1 (txR v.1.2)),(35,.int .i64 (v.1.1:Int)),(36,.int .i64 (v.2.1:Int))],objs:=[(3,.cells r.c),(57,.own 3 v.2.2.length)]}) (FdI2 r a n) (λv=>v.1.1 - v.2.1) (λ(t:List FD) k=>k (.exit 2) {env:=[(10,.sl (.key 57) 3 t.length λj=>(t.getD j default).c)],objs:=[(57,.own 3 t.length)]}) (FdP r a n) (by kernel_rfl) (λv hv=>.b (decide ((↑v.2.1:Int) < (↑v.1.1:Int))) (λh1=>
   .n (c:=within (↑v.2.1:Int) v.1.1) (bJ (bF h1)) (
   .call (AX r a (v.1.2.getD v.2.1 []) n hl hs) λr2 q2=>
   .b (r2.2) (λh3=>
    .n (c:=roomy 40 (List.length v.2.2+1)&&Nat.beq (List.length v.2.2) (List.length v.2.2)) (bL (by have:=hv.m;have:=hv.k;have:=bF h1;omega)) (
    .go {env:=[(1,.str a),(2,.int .i64 n),(3,.ref 3 0),(10,.sl (.key 57) 3 (List.length v.2.2+1) (ay (List.length v.2.2) 1 (λj=>[.str (FD.layer (List.getD v.2.2 j default)),.str (FD.exp (List.getD v.2.2 j default)),.int .i64 (FD.arm (List.getD v.2.2 j default))]) (ai [.str [],.str [],.int .i64 0] [(0,.agg [.str (List.getD v.1.2 v.2.1 []),.str (SL.exp r2.1),.int .i64 (SL.arm r2.1)])]))),(34,.sl .no 1 v.1.1 (txR v.1.2)),(35,.int .i64 (↑v.1.1:Int)),(36,.int .i64 (IntKind.wrap .i64 ((↑v.2.1:Int)+1)))],objs:=[(3,.cells (RG.c r)),(57,.own 3 (List.length v.2.2+1))]} (v.1,v.2.1+1,v.2.2++[FD.mk (v.1.2.getD v.2.1 []) r2.1.exp r2.1.arm]) (CY hv (bF h1) (q2 _ _ _ _ rfl) h3) (o9 (bF h1)) (CS hv (bF h1)))) λh3=>
   .go {env:=[(1,.str a),(2,.int .i64 n),(3,.ref 3 0),(10,.sl (.key 57) 3 (List.length v.2.2) λj=>[.str (FD.layer (List.getD v.2.2 j default)),.str (FD.exp (List.getD v.2.2 j default)),.int .i64 (FD.arm (List.getD v.2.2 j default))]),(34,.sl .no 1 v.1.1 (txR v.1.2)),(35,.int .i64 (↑v.1.1:Int)),(36,.int .i64 (IntKind.wrap .i64 ((↑v.2.1:Int)+1)))],objs:=[(3,.cells (RG.c r)),(57,.own 3 (List.length v.2.2))]} (v.1,v.2.1+1,v.2.2) (CX hv (bF h1) (q2 _ _ _ _ rfl) h3) (o9 (bF h1)) (CQ hv (bF h1)))) λh1=>
  .fi v.2.2 (C0 hv h1)) (λv L k kn=>by kernel_rfl)
theorem Al (r:RG) (a:TX) (n:Int) (hr:VR r) (hl:r.ls.length<=1000000) (hs:r.ss.length<=1000000):bo wd ck φFd rFd [rgA r,.str a,.int .i64 n] []:=by
 obtain ⟨u1,w1,hu1,hc1⟩:=CW r a n hs
 obtain ⟨u2,w2,hu2,hc2⟩:=CV r a n hl hs
 exact a7 (V:=VFd) (T:=[eVa,eSo,eCm,eAt]) (d:=1) 0 (aZ (hc1 _) (aZ (hc2 _) aq)) (kg (uA 7 29 1 (txR [])) ao) (.call (tH hr) λr1 q1=>
  .no (c:=!r1) (a:=some ((.sl .fit 0 0 λx=>[],[]))) (Ft q1) (
  .lp (hu1 (0,[]) (Fu r)) λr3 q3=>
  .call (BK r3 (yn hs q3)) λr4 q4=>
  .call (C2 hs q3 q4) λr5 q5=>
  .lp (hu2 (r5,0,[]) (Fs hs q3 q4 (q5 _ rfl))) λr6 q6=>
  .r r6 (Fq q6))) (by kernel_rfl)
noncomputable abbrev eFd:Ent:=du wd ck φFd rFd
end Go.WF

namespace Go.WF
open Go Go.Ab Go.Proofs
def φU6 (x:Int):AV×List AO:=(.int .u64 x,[])
structure U4 where
 a:Int
 b:Int
 c:Int
 d:Int
instance:Inhabited U4:=⟨⟨0,0,0,0⟩⟩
def U4.g (x:U4) (j:Nat):List AV:=cond (Nat.beq j 0) [.int .u64 x.a] (cond (Nat.beq j 1) [.int .u64 x.b] (cond (Nat.beq j 2) [.int .u64 x.c] (cond (Nat.beq j 3) [.int .u64 x.d] [.int .u64 0])))
def φU4 (x:U4):AV×List AO:=(.tup [],[.arr 1 4 x.g])
def exI:List AV->Int
 | [.int _ x]=>x
 | _=>0
def U4.of (r:Nat->List AV):U4:=⟨exI (r 0),exI (r 1),exI (r 2),exI (r 3)⟩
theorem tK {r:Nat->List AV} (h0:r 0=[.int .u64 (exI (r 0))]) (h1:r 1=[.int .u64 (exI (r 1))]) (h2:r 2=[.int .u64 (exI (r 2))]) (h3:r 3=[.int .u64 (exI (r 3))]) (h4:∀j,r (j+4)=[.int .u64 0]):r=(U4.of r).g:=by
 funext j
 match j with
 | 0=>exact h0
 | 1=>exact h1
 | 2=>exact h2
 | 3=>exact h3
 | j+4=>exact h4 j
theorem Ew {r:Nat->List AV} (h:r=(U4.of r).g):Tr (.tup [],[.arr 1 4 r]) (φU4 (U4.of r)):=by
 unfold φU4
 rw [<-h]
 exact ⟨.inl rfl,.inl rfl⟩
theorem tC {x:Int}:decide (0<=IntKind.wrap .u64 x)=true:=by
 apply decide_eq_true
 unfold IntKind.wrap
 simp only [IntKind.signed,Bool.false_and]
 exact Int.emod_nonneg _ (by decide)
theorem ze {x:Int}:0<=IntKind.wrap .u64 x:=of_decide_eq_true tC
def zI (_:List AV) (_:List AO) (x:Int):Prop:=0<=x
theorem sK (x k:Int):bo wd bO φU6 ec [.int .u64 x,.int .i64 k] []:=
 a7 (V:=V0) (T:=[]) (d:=2) 0 aq ao (.n (c:=decide (0<=IntKind.wrap IntKind.u64 (64 - IntKind.wrap IntKind.u64 (↑(BitVec.toNat (BitVec.ofInt (IntKind.bits IntKind.u64) (IntKind.wrap IntKind.u64 k) &&& BitVec.ofInt (IntKind.bits IntKind.u64) 63)):Int)))) (tC) (
  .r ((IntKind.wrap IntKind.u64 (↑(BitVec.toNat (BitVec.ofInt (IntKind.bits IntKind.u64) (IntKind.wrap IntKind.u64 (x*2 ^ min (Int.toNat (IntKind.wrap IntKind.u64 (↑(BitVec.toNat (BitVec.ofInt (IntKind.bits IntKind.u64) (IntKind.wrap IntKind.u64 k) &&& BitVec.ofInt (IntKind.bits IntKind.u64) 63)):Int))) (IntKind.bits IntKind.u64))) ||| BitVec.ofInt (IntKind.bits IntKind.u64) (Int.fdiv x (2 ^ min (Int.toNat (IntKind.wrap IntKind.u64 (64 - IntKind.wrap IntKind.u64 (↑(BitVec.toNat (BitVec.ofInt (IntKind.bits IntKind.u64) (IntKind.wrap IntKind.u64 k) &&& BitVec.ofInt (IntKind.bits IntKind.u64) 63)):Int)))) (IntKind.bits IntKind.u64))))):Int))) trivial)) (by kernel_rfl)
noncomputable abbrev eRl:Ent:=du wd bO φU6 ec
theorem EH {n:Nat} {v:Nat×U4} {row:Nat->List AV} (hn:n<=1000000) (h:v.1 < n) (hr:row=(U4.of row).g):{env:=[(0,.ref 1000000 0),(4,.int .i64 (↑n:Int)),(5,.int .i64 (IntKind.wrap .i64 ((↑v.1:Int)+1)))],objs:=[(1000000,.arr 1 4 row)]}=(λv:Nat×U4=>({env:=[(0,.ref 1000000 0),(4,.int .i64 n),(5,.int .i64 (v.1:Int))],objs:=[(1000000,.arr 1 4 v.2.g)]}:St)) (v.1+1,U4.of row):=by
 rw [c8 (by omega)]
 show _=({env:=[(0,.ref 1000000 0),(4,.int .i64 n),(5,.int .i64 ((v.1+1:Nat):Int))],objs:=[(1000000,.arr 1 4 (U4.of row).g)]}:St)
 rw [<-hr]
theorem EI (n:Nat) (hn:n<=1000000):∃ (u:St->Bool) (w:St->U4),(∀v:Nat×U4,True->cg u w ((λv:Nat×U4=>({env:=[(0,.ref 1000000 0),(4,.int .i64 n),(5,.int .i64 (v.1:Int))],objs:=[(1000000,.arr 1 4 v.2.g)]}:St)) v) λ_=>True)/\∀C:List (List Nat×Orc),bW (V0.run [eRl] 1 [] C [] fx) fx [1,0] (mkO u w (λ(t:U4) k=>k (.exit 0) {env:=[],objs:=[(1000000,.arr 1 4 t.g)]})):=
 c6 (V:=V0) (T:=[eRl]) (d:=1) (W:=[]) (f:=fx) (p:=[1,0]) (Lf:=λL=>L) (λv:Nat×U4=>{env:=[(0,.ref 1000000 0),(4,.int .i64 n),(5,.int .i64 (v.1:Int))],objs:=[(1000000,.arr 1 4 v.2.g)]}) (λ_=>True) (λv=>n - v.1) (λ(t:U4) k=>k (.exit 0) {env:=[],objs:=[(1000000,.arr 1 4 t.g)]}) (λ_=>True) (by kernel_rfl) (λv hv=>.b (decide ((↑v.1:Int) < (↑n:Int))) (λh1=>
   .call (sK _ _:bo wd bO φU6 (ec) [.int .u64 (U4.b v.2),.int .i64 13] []) λr2 q2=>
   .call (sK _ _:bo wd bO φU6 (ec) [.int .u64 (IntKind.wrap IntKind.u64 (U4.a v.2+U4.b v.2)),.int .i64 32] []) λr3 q3=>
   .call (sK _ _:bo wd bO φU6 (ec) [.int .u64 (U4.d v.2),.int .i64 16] []) λr4 q4=>
   .call (sK _ _:bo wd bO φU6 (ec) [.int .u64 (IntKind.wrap IntKind.u64 (↑(BitVec.toNat (BitVec.ofInt (IntKind.bits IntKind.u64) r4 ^^^ BitVec.ofInt (IntKind.bits IntKind.u64) (IntKind.wrap IntKind.u64 (U4.c v.2+U4.d v.2)))):Int)),.int .i64 21] []) λr5 q5=>
   .call (sK _ _:bo wd bO φU6 (ec) [.int .u64 (IntKind.wrap IntKind.u64 (↑(BitVec.toNat (BitVec.ofInt (IntKind.bits IntKind.u64) r2 ^^^ BitVec.ofInt (IntKind.bits IntKind.u64) (IntKind.wrap IntKind.u64 (U4.a v.2+U4.b v.2)))):Int)),.int .i64 17] []) λr6 q6=>
   .call (sK _ _:bo wd bO φU6 (ec) [.int .u64 (IntKind.wrap IntKind.u64 (IntKind.wrap IntKind.u64 (U4.c v.2+U4.d v.2)+IntKind.wrap IntKind.u64 (↑(BitVec.toNat (BitVec.ofInt (IntKind.bits IntKind.u64) r2 ^^^ BitVec.ofInt (IntKind.bits IntKind.u64) (IntKind.wrap IntKind.u64 (U4.a v.2+U4.b v.2)))):Int))),.int .i64 32] []) λr7 q7=>
   .go {env:=[(0,.ref 1000000 0),(4,.int .i64 (↑n:Int)),(5,.int .i64 (IntKind.wrap .i64 ((↑v.1:Int)+1)))],objs:=[(1000000,.arr 1 4 λj=>bif Nat.beq j (Int.toNat 2) then [.int .u64 r7] else bif Nat.beq j (Int.toNat 1) then [.int .u64 (IntKind.wrap IntKind.u64 (↑(BitVec.toNat (BitVec.ofInt (IntKind.bits IntKind.u64) r6 ^^^ BitVec.ofInt (IntKind.bits IntKind.u64) (IntKind.wrap IntKind.u64 (IntKind.wrap IntKind.u64 (U4.c v.2+U4.d v.2)+IntKind.wrap IntKind.u64 (↑(BitVec.toNat (BitVec.ofInt (IntKind.bits IntKind.u64) r2 ^^^ BitVec.ofInt (IntKind.bits IntKind.u64) (IntKind.wrap IntKind.u64 (U4.a v.2+U4.b v.2)))):Int))))):Int))] else bif Nat.beq j (Int.toNat 2) then [.int .u64 (IntKind.wrap IntKind.u64 (IntKind.wrap IntKind.u64 (U4.c v.2+U4.d v.2)+IntKind.wrap IntKind.u64 (↑(BitVec.toNat (BitVec.ofInt (IntKind.bits IntKind.u64) r2 ^^^ BitVec.ofInt (IntKind.bits IntKind.u64) (IntKind.wrap IntKind.u64 (U4.a v.2+U4.b v.2)))):Int)))] else bif Nat.beq j (Int.toNat 3) then [.int .u64 (IntKind.wrap IntKind.u64 (↑(BitVec.toNat (BitVec.ofInt (IntKind.bits IntKind.u64) r5 ^^^ BitVec.ofInt (IntKind.bits IntKind.u64) (IntKind.wrap IntKind.u64 (r3+IntKind.wrap IntKind.u64 (↑(BitVec.toNat (BitVec.ofInt (IntKind.bits IntKind.u64) r4 ^^^ BitVec.ofInt (IntKind.bits IntKind.u64) (IntKind.wrap IntKind.u64 (U4.c v.2+U4.d v.2)))):Int))))):Int))] else bif Nat.beq j (Int.toNat 0) then [.int .u64 (IntKind.wrap IntKind.u64 (r3+IntKind.wrap IntKind.u64 (↑(BitVec.toNat (BitVec.ofInt (IntKind.bits IntKind.u64) r4 ^^^ BitVec.ofInt (IntKind.bits IntKind.u64) (IntKind.wrap IntKind.u64 (U4.c v.2+U4.d v.2)))):Int)))] else bif Nat.beq j (Int.toNat 3) then [.int .u64 (IntKind.wrap IntKind.u64 (↑(BitVec.toNat (BitVec.ofInt (IntKind.bits IntKind.u64) r4 ^^^ BitVec.ofInt (IntKind.bits IntKind.u64) (IntKind.wrap IntKind.u64 (U4.c v.2+U4.d v.2)))):Int))] else bif Nat.beq j (Int.toNat 2) then [.int .u64 (IntKind.wrap IntKind.u64 (U4.c v.2+U4.d v.2))] else bif Nat.beq j (Int.toNat 0) then [.int .u64 r3] else bif Nat.beq j (Int.toNat 1) then [.int .u64 (IntKind.wrap IntKind.u64 (↑(BitVec.toNat (BitVec.ofInt (IntKind.bits IntKind.u64) r2 ^^^ BitVec.ofInt (IntKind.bits IntKind.u64) (IntKind.wrap IntKind.u64 (U4.a v.2+U4.b v.2)))):Int))] else bif Nat.beq j (Int.toNat 0) then [.int .u64 (IntKind.wrap IntKind.u64 (U4.a v.2+U4.b v.2))] else U4.g v.2 j)]} (v.1+1,U4.of _) trivial (o9 (bF h1)) (EH hn (bF h1) (tK rfl rfl rfl rfl λ_=>rfl))) λh1=>
  .fi v.2 trivial) (λv L k kn=>by kernel_rfl)
theorem zF {r:Nat->List AV} (h:r=(U4.of r).g) (n:Nat) (hn:n<=1000000):bo wd fx φU4 ec [.ref ae 0,.int .i64 (n:Int)] [.arr 1 4 r]:=by
 rw [h]
 generalize U4.of r=x
 obtain ⟨u,w,hu,hc⟩:=EI n hn
 exact a7 (V:=V0) (T:=[eRl]) (d:=1) 1 (aZ (hc _) aq) ao (.lp (hu (0,x) trivial) λr1 q1=>
  .r r1 trivial) (by kernel_rfl)
noncomputable abbrev xp:Ent:=du wd fx φU4 ec
theorem zf {r:Nat->List AV} (m:Int) (h:∃x:U4,r=x.g):bo wd n4 φU4 ec [.ref ae 0,.int .u64 m] [.arr 1 4 r]:=by
 obtain ⟨x,rfl⟩:=h
 exact a7 (V:=V0) (T:=[xp]) (d:=1) 1 aq ao (.call (zF (tK rfl rfl rfl rfl λ_=>rfl) 2 (by decide):bo wd fx φU4 (ec) [.ref 1000000 0,.int .i64 2] [.arr 1 4 λj=>bif Nat.beq j (Int.toNat 3) then [.int .u64 (IntKind.wrap IntKind.u64 (↑(BitVec.toNat (BitVec.ofInt (IntKind.bits IntKind.u64) (U4.d x) ^^^ BitVec.ofInt (IntKind.bits IntKind.u64) m)):Int))] else U4.g x j]) λr1 q1=>
  .t (U4.of _) trivial (Ew (tK rfl rfl rfl rfl λ_=>rfl):Tr (.tup [],[.arr 1 4 λj=>bif Nat.beq j (Int.toNat 0) then [.int .u64 (IntKind.wrap IntKind.u64 (↑(BitVec.toNat (BitVec.ofInt (IntKind.bits IntKind.u64) (U4.a r1) ^^^ BitVec.ofInt (IntKind.bits IntKind.u64) m)):Int))] else U4.g r1 j]) _)) (by kernel_rfl)
noncomputable abbrev eWo:Ent:=du wd n4 φU4 ec
section
variable {n:Nat} {g:Nat->Int} {i:Nat}
theorem A7 (hn:n<=1000000) (h:decide (IntKind.wrap .i64 ((i:Int)+8)<=(n:Int))=true) (hi:i<=n):i+8<=n:=by
 have:=of_decide_eq_true h
 rw [wrap_i64 (by omega) (by omega)] at this
 omega
theorem Ey {k:Nat} (hn:n<=1000000) (h:i+8<=n) (h8:decide ((k:Int) < 8)=true):within (IntKind.wrap .i64 ((i:Int)+(k:Int))) n=true:=by
 have:=of_decide_eq_true h8
 rw [wrap_i64 (by omega) (by omega)]
 exact lQ (by omega) (by omega)
theorem Cs {k:Nat} (h:decide ((k:Int) < 8)=true):k < 8:=by have:=of_decide_eq_true h;omega
theorem zu {k:Nat} (h:k < 8):decide (0<=IntKind.wrap .i64 (8*(k:Int)))=true:=by
 rw [wrap_i64 (by omega) (by omega)]
 exact decide_eq_true (by omega)
theorem Bz {v:Nat×Nat×Int×Int×U4} {y:Int} (h:v.2.1 < 8):{env:=[(2,.sl .no 1 n λj=>[.int .u8 (g j)]),(7,.ref 7 0),(8,.int .u64 v.2.2.1),(9,.int .i64 (↑v.1:Int)),(10,.int .u64 y),(33,.int .i64 (IntKind.wrap .i64 ((↑v.2.1:Int)+1)))],objs:=[(7,.arr 1 4 (U4.g v.2.2.2.2))]}=(λv:Nat×Nat×Int×Int×U4=>({env:=[(2,.sl .no 1 n λj=>[.int .u8 (g j)]),(7,.ref 7 0),(8,.int .u64 v.2.2.1),(9,.int .i64 (v.1:Int)),(10,.int .u64 v.2.2.2.1),(33,.int .i64 (v.2.1:Int))],objs:=[(7,.arr 1 4 v.2.2.2.2.g)]}:St)) (v.1,v.2.1+1,v.2.2.1,y,v.2.2.2.2):=by
 rw [c8 (by omega)]
theorem EB {a b:Nat×Nat×Int×Int×U4} (h:(λv:Nat×Nat×Int×Int×U4=>({env:=[(2,.sl .no 1 n λj=>[.int .u8 (g j)]),(7,.ref 7 0),(8,.int .u64 v.2.2.1),(9,.int .i64 (v.1:Int)),(10,.int .u64 v.2.2.2.1),(33,.int .i64 (v.2.1:Int))],objs:=[(7,.arr 1 4 v.2.2.2.2.g)]}:St)) a=(λv:Nat×Nat×Int×Int×U4=>({env:=[(2,.sl .no 1 n λj=>[.int .u8 (g j)]),(7,.ref 7 0),(8,.int .u64 v.2.2.1),(9,.int .i64 (v.1:Int)),(10,.int .u64 v.2.2.2.1),(33,.int .i64 (v.2.1:Int))],objs:=[(7,.arr 1 4 v.2.2.2.2.g)]}:St)) b):a.1=b.1:=by
 have h:=congrArg (λs:St=>alook s.env 9) h
 have h:some (AV.int .i64 (a.1:Int))=some (AV.int .i64 (b.1:Int)):=h
 injection h with h
 injection h with _ h
 omega
theorem BH {z:Nat} (hn:n<=1000000) (h:decide (IntKind.wrap .i64 ((i:Int)+8)<=(n:Int))=true) (hi:i<=n) (q:z=i):z+8<=n:=q ▸ A7 hn h hi
theorem EA {z:Nat} (hn:n<=1000000) (hi:i<=n) (h:decide (IntKind.wrap .i64 ((i:Int)+8)<=(n:Int))=true) (q:z=i):n - (z+8) < n - i:=by
 have:=A7 hn h hi
 omega
theorem Ez {t:Nat×Int×Int×U4} {x:U4} (hn:n<=1000000) (hi:i<=n) (h:decide (IntKind.wrap .i64 ((i:Int)+8)<=(n:Int))=true) (q:t.1=i):{env:=[(2,.sl .no 1 n λj=>[.int .u8 (g j)]),(7,.ref 7 0),(8,.int .u64 t.2.1),(9,.int .i64 (IntKind.wrap .i64 ((↑t.1:Int)+8)))],objs:=[(7,.arr 1 4 (U4.g x))]}=(λv:Nat×Int×U4=>({env:=[(2,.sl .no 1 n λj=>[.int .u8 (g j)]),(7,.ref 7 0),(8,.int .u64 v.2.1),(9,.int .i64 (v.1:Int))],objs:=[(7,.arr 1 4 v.2.2.g)]}:St)) (t.1+8,t.2.1,x):=by
 have:=A7 hn h hi
 rw [wrap_i64 (by omega) (by omega)]
 rfl
theorem DD:Int.tmod (n:Int) 8=((n % 8:Nat):Int):=by rw [Int.tmod_eq_emod_of_nonneg (by omega)];omega
theorem vU (h:decide ((i:Int) < Int.tmod (n:Int) 8)=true):i < n % 8:=by
 have:=of_decide_eq_true h
 rw [DD] at this
 omega
theorem Bx (hn:n<=1000000) (h:decide ((i:Int) < Int.tmod (n:Int) 8)=true):within (IntKind.wrap .i64 (IntKind.wrap .i64 ((n:Int) - Int.tmod (n:Int) 8)+(i:Int))) n=true:=by
 have:=vU h
 have h8:n % 8<=n:=Nat.mod_le _ _
 rw [DD,wrap_i64 (x:=(n:Int) - ((n % 8:Nat):Int)) (by omega) (by omega),wrap_i64 (by omega) (by omega)]
 exact lQ (by omega) (by omega)
theorem BG:n % 8<=8:=Nat.le_of_lt (Nat.mod_lt _ (by decide))
theorem BB (hn:n<=1000000) (h:decide ((i:Int) < Int.tmod (n:Int) 8)=true):n - (i+1) < n - i:=by
 have:=vU h
 have h8:n % 8<=n:=Nat.mod_le _ _
 omega
theorem BA {v:Nat×Int×U4} {y:Int} (hn:n<=1000000) (h:decide ((v.1:Int) < Int.tmod (n:Int) 8)=true):{env:=[(2,.sl .no 1 n λj=>[.int .u8 (g j)]),(7,.ref 7 0),(8,.int .u64 y),(53,.int .i64 (Int.tmod (↑n:Int) 8)),(54,.int .i64 (IntKind.wrap .i64 ((↑v.1:Int)+1)))],objs:=[(7,.arr 1 4 (U4.g v.2.2))]}=(λv:Nat×Int×U4=>({env:=[(2,.sl .no 1 n λj=>[.int .u8 (g j)]),(7,.ref 7 0),(8,.int .u64 v.2.1),(53,.int .i64 (Int.tmod n 8)),(54,.int .i64 (v.1:Int))],objs:=[(7,.arr 1 4 v.2.2.g)]}:St)) (v.1+1,y,v.2.2):=by
 have:=vU h
 have h8:n % 8<=n:=Nat.mod_le _ _
 rw [c8 (by omega)]
theorem EC {u:St->Bool} {w:St->Int×U4} {row:Nat->List AV} (h:row=(U4.of row).g) (hu:∀v:Nat×Int×U4,v.1<=n->cg u w ((λv:Nat×Int×U4=>({env:=[(2,.sl .no 1 n λj=>[.int .u8 (g j)]),(7,.ref 7 0),(8,.int .u64 v.2.1),(9,.int .i64 (v.1:Int))],objs:=[(7,.arr 1 4 v.2.2.g)]}:St)) v) λ_=>True) (L:Int):cg u w {env:=[(2,.sl .no 1 n λj=>[.int .u8 (g j)]),(7,.ref 7 0),(8,.int .u64 L),(9,.int .i64 0)],objs:=[(7,.arr 1 4 row)]} λ_=>True:=by
 rw [h]
 exact hu (0,L,U4.of row) (Nat.zero_le _)
end
theorem BC (n:Nat) (g:Nat->Int) (hn:n<=1000000):∃ (u:St->Bool) (w:St->Nat×Int×Int×U4),(∀v:Nat×Nat×Int×Int×U4,v.1+8<=n->cg u w ((λv:Nat×Nat×Int×Int×U4=>({env:=[(2,.sl .no 1 n λj=>[.int .u8 (g j)]),(7,.ref 7 0),(8,.int .u64 v.2.2.1),(9,.int .i64 (v.1:Int)),(10,.int .u64 v.2.2.2.1),(33,.int .i64 (v.2.1:Int))],objs:=[(7,.arr 1 4 v.2.2.2.2.g)]}:St)) v) λt=>t.1=v.1)/\∀C:List (List Nat×Orc),bW (V0.run [eWo,xp] 1 [] C [] ga) ga [1,1,1,0,1,0,0,1,0,0,1,0,1,0] (mkO u w (λ(t:Nat×Int×Int×U4) k=>k (.exit 2) {env:=[(2,.sl .no 1 n λj=>[.int .u8 (g j)]),(7,.ref 7 0),(8,.int .u64 t.2.1),(9,.int .i64 (t.1:Int)),(10,.int .u64 t.2.2.1)],objs:=[(7,.arr 1 4 t.2.2.2.g)]})):=
 rK (V:=V0) (T:=[eWo,xp]) (d:=1) (W:=[]) (f:=ga) (p:=[1,1,1,0,1,0,0,1,0,0,1,0,1,0]) (Lf:=λL=>L) (λv:Nat×Nat×Int×Int×U4=>{env:=[(2,.sl .no 1 n λj=>[.int .u8 (g j)]),(7,.ref 7 0),(8,.int .u64 v.2.2.1),(9,.int .i64 (v.1:Int)),(10,.int .u64 v.2.2.2.1),(33,.int .i64 (v.2.1:Int))],objs:=[(7,.arr 1 4 v.2.2.2.2.g)]}) (λv=>v.1+8<=n) (λv=>8 - v.2.1) (λ(t:Nat×Int×Int×U4) k=>k (.exit 2) {env:=[(2,.sl .no 1 n λj=>[.int .u8 (g j)]),(7,.ref 7 0),(8,.int .u64 t.2.1),(9,.int .i64 (t.1:Int)),(10,.int .u64 t.2.2.1)],objs:=[(7,.arr 1 4 t.2.2.2.g)]}) (λv t=>t.1=v.1) (by kernel_rfl) (λa b x h hp=>hp.trans (EB h)) (λv hv=>.b (decide ((↑v.2.1:Int) < 8)) (λh1=>
   .n (c:=within (IntKind.wrap .i64 ((↑v.1:Int)+(↑v.2.1:Int))) n) (Ey hn hv h1) (
   .n (c:=decide (0<=IntKind.wrap .i64 (8*(↑v.2.1:Int)))) (zu (Cs h1)) (
   .nx {env:=[(2,.sl .no 1 n λj=>[.int .u8 (g j)]),(7,.ref 7 0),(8,.int .u64 v.2.2.1),(9,.int .i64 (↑v.1:Int)),(10,.int .u64 (IntKind.wrap IntKind.u64 (↑(BitVec.toNat (BitVec.ofInt (IntKind.bits IntKind.u64) v.2.2.2.1 ||| BitVec.ofInt (IntKind.bits IntKind.u64) (IntKind.wrap IntKind.u64 (IntKind.wrap IntKind.u64 (g (Int.toNat (IntKind.wrap .i64 ((↑v.1:Int)+(↑v.2.1:Int)))))*2 ^ min (Int.toNat (IntKind.wrap .i64 (8*(↑v.2.1:Int)))) (IntKind.bits IntKind.u64))))):Int))),(33,.int .i64 (IntKind.wrap .i64 ((↑v.2.1:Int)+1)))],objs:=[(7,.arr 1 4 (U4.g v.2.2.2.2))]} (v.1,v.2.1+1,v.2.2.1,_,v.2.2.2.2) hv (o9 (Cs h1)) (λ_ h=>h) (Bz (Cs h1))))) λh1=>
  .fi (v.1,v.2.2.1,v.2.2.2.1,v.2.2.2.2) rfl) (λv L k kn=>by kernel_rfl)
theorem BE (n:Nat) (g:Nat->Int) (hn:n<=1000000) {z:St->Bool} {y:St->Nat×Int×Int×U4} (hi:∀v:Nat×Nat×Int×Int×U4,v.1+8<=n->cg z y ((λv:Nat×Nat×Int×Int×U4=>({env:=[(2,.sl .no 1 n λj=>[.int .u8 (g j)]),(7,.ref 7 0),(8,.int .u64 v.2.2.1),(9,.int .i64 (v.1:Int)),(10,.int .u64 v.2.2.2.1),(33,.int .i64 (v.2.1:Int))],objs:=[(7,.arr 1 4 v.2.2.2.2.g)]}:St)) v) λt=>t.1=v.1):∃ (u:St->Bool) (w:St->Int×U4),(∀v:Nat×Int×U4,v.1<=n->cg u w ((λv:Nat×Int×U4=>({env:=[(2,.sl .no 1 n λj=>[.int .u8 (g j)]),(7,.ref 7 0),(8,.int .u64 v.2.1),(9,.int .i64 (v.1:Int))],objs:=[(7,.arr 1 4 v.2.2.g)]}:St)) v) λ_=>True)/\∀C:List (List Nat×Orc),bW (V0.run [eWo,xp] 1 [] (([1,1,1,0,1,0,0,1,0,0,1,0,1,0],mkO z y (λ(t:Nat×Int×Int×U4) k=>k (.exit 2) {env:=[(2,.sl .no 1 n λj=>[.int .u8 (g j)]),(7,.ref 7 0),(8,.int .u64 t.2.1),(9,.int .i64 (t.1:Int)),(10,.int .u64 t.2.2.1)],objs:=[(7,.arr 1 4 t.2.2.2.g)]}))::C) [] ga) ga [1,1,1,0,1,0] (mkO u w (λ(t:Int×U4) k=>k (.exit 0) {env:=[(2,.sl .no 1 n λj=>[.int .u8 (g j)]),(7,.ref 7 0),(8,.int .u64 t.1)],objs:=[(7,.arr 1 4 t.2.g)]})):=
 c6 (V:=V0) (T:=[eWo,xp]) (d:=1) (W:=[]) (f:=ga) (p:=[1,1,1,0,1,0]) (Lf:=λL=>([1,1,1,0,1,0,0,1,0,0,1,0,1,0],mkO z y (λ(t:Nat×Int×Int×U4) k=>k (.exit 2) {env:=[(2,.sl .no 1 n λj=>[.int .u8 (g j)]),(7,.ref 7 0),(8,.int .u64 t.2.1),(9,.int .i64 (t.1:Int)),(10,.int .u64 t.2.2.1)],objs:=[(7,.arr 1 4 t.2.2.2.g)]}))::L) (λv:Nat×Int×U4=>{env:=[(2,.sl .no 1 n λj=>[.int .u8 (g j)]),(7,.ref 7 0),(8,.int .u64 v.2.1),(9,.int .i64 (v.1:Int))],objs:=[(7,.arr 1 4 v.2.2.g)]}) (λv=>v.1<=n) (λv=>n - v.1) (λ(t:Int×U4) k=>k (.exit 0) {env:=[(2,.sl .no 1 n λj=>[.int .u8 (g j)]),(7,.ref 7 0),(8,.int .u64 t.1)],objs:=[(7,.arr 1 4 t.2.g)]}) (λ_=>True) (by kernel_rfl) (λv hv=>.b (decide (IntKind.wrap .i64 ((↑v.1:Int)+8)<=(↑n:Int))) (λh1=>
   .lp (hi (v.1,0,v.2.1,0,v.2.2) (A7 hn h1 hv)) λr2 q2=>
   .call (zf _ (⟨_,rfl⟩):bo wd n4 φU4 (ec) [.ref 1000000 0,.int .u64 r2.2.2.1] [.arr 1 4 (U4.g r2.2.2.2)]) λr3 q3=>
   .go {env:=[(2,.sl .no 1 n λj=>[.int .u8 (g j)]),(7,.ref 7 0),(8,.int .u64 r2.2.1),(9,.int .i64 (IntKind.wrap .i64 ((↑r2.1:Int)+8)))],objs:=[(7,.arr 1 4 (U4.g r3))]} (r2.1+8,r2.2.1,r3) (BH hn h1 hv q2) (EA hn hv h1 q2) (Ez hn hv h1 q2)) λh1=>
  .fi v.2 trivial) (λv L k kn=>by kernel_rfl)
theorem BD (n:Nat) (g:Nat->Int) (hn:n<=1000000):∃ (u:St->Bool) (w:St->Int×U4),(∀v:Nat×Int×U4,True->cg u w ((λv:Nat×Int×U4=>({env:=[(2,.sl .no 1 n λj=>[.int .u8 (g j)]),(7,.ref 7 0),(8,.int .u64 v.2.1),(53,.int .i64 (Int.tmod n 8)),(54,.int .i64 (v.1:Int))],objs:=[(7,.arr 1 4 v.2.2.g)]}:St)) v) λ_=>True)/\∀C:List (List Nat×Orc),bW (V0.run [eWo,xp] 1 [] C [] ga) ga [1,1,1,1,0,1,0] (mkO u w (λ(t:Int×U4) k=>k (.exit 4) {env:=[(7,.ref 7 0),(8,.int .u64 t.1)],objs:=[(7,.arr 1 4 t.2.g)]})):=
 c6 (V:=V0) (T:=[eWo,xp]) (d:=1) (W:=[]) (f:=ga) (p:=[1,1,1,1,0,1,0]) (Lf:=λL=>L) (λv:Nat×Int×U4=>{env:=[(2,.sl .no 1 n λj=>[.int .u8 (g j)]),(7,.ref 7 0),(8,.int .u64 v.2.1),(53,.int .i64 (Int.tmod n 8)),(54,.int .i64 (v.1:Int))],objs:=[(7,.arr 1 4 v.2.2.g)]}) (λ_=>True) (λv=>n - v.1) (λ(t:Int×U4) k=>k (.exit 4) {env:=[(7,.ref 7 0),(8,.int .u64 t.1)],objs:=[(7,.arr 1 4 t.2.g)]}) (λ_=>True) (by kernel_rfl) (λv hv=>.b (decide ((↑v.1:Int) < Int.tmod (↑n:Int) 8)) (λh1=>
   .n (c:=within (IntKind.wrap .i64 (IntKind.wrap .i64 ((↑n:Int) - Int.tmod (↑n:Int) 8)+(↑v.1:Int))) n) (Bx hn h1) (
   .n (c:=decide (0<=IntKind.wrap .i64 (8*(↑v.1:Int)))) (zu (Nat.lt_of_lt_of_le (vU h1) (BG))) (
   .go {env:=[(2,.sl .no 1 n λj=>[.int .u8 (g j)]),(7,.ref 7 0),(8,.int .u64 (IntKind.wrap IntKind.u64 (↑(BitVec.toNat (BitVec.ofInt (IntKind.bits IntKind.u64) v.2.1 ||| BitVec.ofInt (IntKind.bits IntKind.u64) (IntKind.wrap IntKind.u64 (IntKind.wrap IntKind.u64 (g (Int.toNat (IntKind.wrap .i64 (IntKind.wrap .i64 ((↑n:Int) - Int.tmod (↑n:Int) 8)+(↑v.1:Int)))))*2 ^ min (Int.toNat (IntKind.wrap .i64 (8*(↑v.1:Int)))) (IntKind.bits IntKind.u64))))):Int))),(53,.int .i64 (Int.tmod (↑n:Int) 8)),(54,.int .i64 (IntKind.wrap .i64 ((↑v.1:Int)+1)))],objs:=[(7,.arr 1 4 (U4.g v.2.2))]} (v.1+1,_,v.2.2) trivial (BB hn h1) (BA hn h1)))) λh1=>
  .fi (v.2.1,v.2.2) trivial) (λv L k kn=>by kernel_rfl)
theorem zw (a b:Int) (n:Nat) (g:Nat->Int) (hn:n<=1000000):bo wd ga φU6 zI [.int .u64 a,.int .u64 b,.sl .no 1 n λj=>[.int .u8 (g j)]] []:=by
 obtain ⟨ui,wi,hui,hci⟩:=BC n g hn
 obtain ⟨u1,w1,hu1,hc1⟩:=BE n g hn hui
 obtain ⟨u2,w2,hu2,hc2⟩:=BD n g hn
 exact a7 (V:=V0) (T:=[eWo,xp]) (d:=1) 0 (aZ (hci _) (aZ (hc1 _) (aZ (hc2 _) aq))) ao (.lp (s:={env:=[(2,.sl .no 1 n λj=>[.int .u8 (g j)]),(7,.ref 7 0),(8,.int .u64 (IntKind.wrap IntKind.u64 (IntKind.wrap IntKind.u64 (↑n:Int)*2 ^ min (Int.toNat 56) (IntKind.bits IntKind.u64)))),(9,.int .i64 0)],objs:=[(7,.arr 1 4 (ai [.int .u64 0] [(0,.int .u64 (IntKind.wrap IntKind.u64 (↑(BitVec.toNat (BitVec.ofInt (IntKind.bits IntKind.u64) a ^^^ BitVec.ofInt (IntKind.bits IntKind.u64) 8317987319222330741)):Int))),(1,.int .u64 (IntKind.wrap IntKind.u64 (↑(BitVec.toNat (BitVec.ofInt (IntKind.bits IntKind.u64) b ^^^ BitVec.ofInt (IntKind.bits IntKind.u64) 7237128888997146477)):Int))),(2,.int .u64 (IntKind.wrap IntKind.u64 (↑(BitVec.toNat (BitVec.ofInt (IntKind.bits IntKind.u64) a ^^^ BitVec.ofInt (IntKind.bits IntKind.u64) 7816392313619706465)):Int))),(3,.int .u64 (IntKind.wrap IntKind.u64 (↑(BitVec.toNat (BitVec.ofInt (IntKind.bits IntKind.u64) b ^^^ BitVec.ofInt (IntKind.bits IntKind.u64) 8387220255154660723)):Int)))]))]}) (EC (tK rfl rfl rfl rfl λ_=>rfl) hu1 _) λr1 q1=>
  .lp (hu2 (0,r1.1,r1.2) trivial) λr2 q2=>
  .call (zf _ (⟨_,rfl⟩):bo wd n4 φU4 (ec) [.ref 1000000 0,.int .u64 r2.1] [.arr 1 4 (U4.g r2.2)]) λr3 q3=>
  .call (zF (tK rfl rfl rfl rfl λ_=>rfl) 4 (by decide):bo wd fx φU4 (ec) [.ref 1000000 0,.int .i64 4] [.arr 1 4 λj=>bif Nat.beq j (Int.toNat 2) then [.int .u64 (IntKind.wrap IntKind.u64 (↑(BitVec.toNat (BitVec.ofInt (IntKind.bits IntKind.u64) (U4.c r3) ^^^ BitVec.ofInt (IntKind.bits IntKind.u64) 255)):Int))] else U4.g r3 j]) λr4 q4=>
  .r ((IntKind.wrap IntKind.u64 (↑(BitVec.toNat (BitVec.ofInt (IntKind.bits IntKind.u64) (IntKind.wrap IntKind.u64 (↑(BitVec.toNat (BitVec.ofInt (IntKind.bits IntKind.u64) (IntKind.wrap IntKind.u64 (↑(BitVec.toNat (BitVec.ofInt (IntKind.bits IntKind.u64) (U4.a r4) ^^^ BitVec.ofInt (IntKind.bits IntKind.u64) (U4.b r4))):Int)) ^^^ BitVec.ofInt (IntKind.bits IntKind.u64) (U4.c r4))):Int)) ^^^ BitVec.ofInt (IntKind.bits IntKind.u64) (U4.d r4))):Int))) ze) (by kernel_rfl)
noncomputable abbrev eSu:Ent:=du wd ga φU6 zI
end Go.WF

namespace Go.WF
open Go Go.Ab Go.Proofs
def ByR (n:Nat) (row:Nat->List AV):Prop:=∀j,j < n->∃x:Int,row j=[.int .u8 x]
theorem AM {row:Nat->List AV}:ByR 0 row:=λj h=>absurd h (Nat.not_lt_zero _)
theorem AL (x:Int):ByR 1 (ai [.int .u8 0] [(0,.int .u8 x)]):=λj h=>by
 have:j=0:=by omega
 subst this
 exact ⟨x,rfl⟩
theorem AK (s:List UInt8):ByR s.length (rowOf s):=λj h=>⟨_,rfl⟩
theorem AN {n m:Nat} {g g2:Nat->List AV} (h1:ByR n g) (h2:ByR m g2):ByR (n+m) (ay n m g g2):=λj h=>by
 by_cases e:j < n
 ·rw [cU e];exact h1 j e
 ·rw [dy (by omega) h];exact h2 _ (by omega)
theorem BF (a b:Int) {n:Nat} {row:Nat->List AV} (hn:n<=1000000) (h:ByR n row):bo wd ga φU6 zI [.int .u64 a,.int .u64 b,.sl .no 1 n row] []:=by
 obtain ⟨x,hx,hc⟩:=zw a b n (λj=>exI (row j)) hn
 refine ⟨x,hx,hc.args rfl rfl λi u u' hu hu' c v hr=>?_⟩
 match i,hu,hu' with
 | 0,hu,hu'=>injection hu with hu;injection hu' with hu';subst hu hu';exact hr
 | 1,hu,hu'=>injection hu with hu;injection hu' with hu';subst hu hu';exact hr
 | 2,hu,hu'=>
  injection hu with hu;injection hu' with hu'
  subst hu hu'
  refine lI hr λj hj=>?_
  obtain ⟨y,hy⟩:=h j hj
  rw [hy];rfl
theorem DI {n:Nat} (h:n<=400000):Nat.ble n 140737488355328=true:=Nat.ble_eq_true_of_le (by omega)
def rBr (_:List AV) (_:List AO) (x:Int):Prop:=0<=x/\x < 10000
theorem Dm {A:List AV} {os:List AO} {x:Int} (q:zI A os x):rBr A os (IntKind.wrap .i64 (Int.tmod x 10000)):=by
 have q:0<=x:=q
 have h1:Int.tmod x 10000=x % 10000:=Int.tmod_eq_emod_of_nonneg q
 have h2:=Int.emod_nonneg x (show (10000:Int)≠0 by decide)
 have h3:=Int.emod_lt_of_pos x (show (0:Int) < 10000 by decide)
 rw [h1]
 show 0<=IntKind.wrap .i64 (x % 10000)/\IntKind.wrap .i64 (x % 10000) < 10000
 rw [wrap_i64 (by omega) (by omega)]
 exact ⟨h2,h3⟩
theorem yP (a b:TX) (ha:a.length<=400000) (hb:b.length<=400000):bo wd mC φIn rBr [.str a,.str b] []:=
 a7 (V:=V0) (T:=[eSu]) (d:=12) 0 aq ao (.n (c:=Nat.ble (List.length a) 140737488355328) (DI ha) (
  .n (c:=Nat.ble (List.length b) 140737488355328) (DI hb) (
  .n (c:=roomy 1 (0+1+1+1+1+1+1+1+1+List.length a)&&Nat.beq (0+1+1+1+1+1+1+1+1) (0+1+1+1+1+1+1+1+1)) (bL (by omega)) (
  .n (c:=roomy 1 (0+1+1+1+1+1+1+1+1+List.length a+1)&&Nat.beq (0+1+1+1+1+1+1+1+1+List.length a) (0+1+1+1+1+1+1+1+1+List.length a)) (bL (by omega)) (
  .n (c:=roomy 1 (0+1+1+1+1+1+1+1+1+List.length a+1+1)&&Nat.beq (0+1+1+1+1+1+1+1+1+List.length a+1) (0+1+1+1+1+1+1+1+1+List.length a+1)) (bL (by omega)) (
  .n (c:=roomy 1 (0+1+1+1+1+1+1+1+1+List.length a+1+1+1)&&Nat.beq (0+1+1+1+1+1+1+1+1+List.length a+1+1) (0+1+1+1+1+1+1+1+1+List.length a+1+1)) (bL (by omega)) (
  .n (c:=roomy 1 (0+1+1+1+1+1+1+1+1+List.length a+1+1+1+1)&&Nat.beq (0+1+1+1+1+1+1+1+1+List.length a+1+1+1) (0+1+1+1+1+1+1+1+1+List.length a+1+1+1)) (bL (by omega)) (
  .n (c:=roomy 1 (0+1+1+1+1+1+1+1+1+List.length a+1+1+1+1+1)&&Nat.beq (0+1+1+1+1+1+1+1+1+List.length a+1+1+1+1) (0+1+1+1+1+1+1+1+1+List.length a+1+1+1+1)) (bL (by omega)) (
  .n (c:=roomy 1 (0+1+1+1+1+1+1+1+1+List.length a+1+1+1+1+1+1)&&Nat.beq (0+1+1+1+1+1+1+1+1+List.length a+1+1+1+1+1) (0+1+1+1+1+1+1+1+1+List.length a+1+1+1+1+1)) (bL (by omega)) (
  .n (c:=roomy 1 (0+1+1+1+1+1+1+1+1+List.length a+1+1+1+1+1+1+1)&&Nat.beq (0+1+1+1+1+1+1+1+1+List.length a+1+1+1+1+1+1) (0+1+1+1+1+1+1+1+1+List.length a+1+1+1+1+1+1)) (bL (by omega)) (
  .n (c:=roomy 1 (0+1+1+1+1+1+1+1+1+List.length a+1+1+1+1+1+1+1+1)&&Nat.beq (0+1+1+1+1+1+1+1+1+List.length a+1+1+1+1+1+1+1) (0+1+1+1+1+1+1+1+1+List.length a+1+1+1+1+1+1+1)) (bL (by omega)) (
  .n (c:=roomy 1 (0+1+1+1+1+1+1+1+1+List.length a+1+1+1+1+1+1+1+1+List.length b)&&Nat.beq (0+1+1+1+1+1+1+1+1+List.length a+1+1+1+1+1+1+1+1) (0+1+1+1+1+1+1+1+1+List.length a+1+1+1+1+1+1+1+1)) (bL (by omega)) (
  .call (BF _ _ (by omega) (by repeat (first | exact AK _ | exact AL _ | exact AM | apply AN)):bo wd ga φU6 (zI) [.int .u64 1,.int .u64 0,.sl .no 1 (0+1+1+1+1+1+1+1+1+List.length a+1+1+1+1+1+1+1+1+List.length b) (ay (0+1+1+1+1+1+1+1+1+List.length a+1+1+1+1+1+1+1+1) (List.length b) (ay (0+1+1+1+1+1+1+1+1+List.length a+1+1+1+1+1+1+1) 1 (ay (0+1+1+1+1+1+1+1+1+List.length a+1+1+1+1+1+1) 1 (ay (0+1+1+1+1+1+1+1+1+List.length a+1+1+1+1+1) 1 (ay (0+1+1+1+1+1+1+1+1+List.length a+1+1+1+1) 1 (ay (0+1+1+1+1+1+1+1+1+List.length a+1+1+1) 1 (ay (0+1+1+1+1+1+1+1+1+List.length a+1+1) 1 (ay (0+1+1+1+1+1+1+1+1+List.length a+1) 1 (ay (0+1+1+1+1+1+1+1+1+List.length a) 1 (ay (0+1+1+1+1+1+1+1+1) (List.length a) (ay (0+1+1+1+1+1+1+1) 1 (ay (0+1+1+1+1+1+1) 1 (ay (0+1+1+1+1+1) 1 (ay (0+1+1+1+1) 1 (ay (0+1+1+1) 1 (ay (0+1+1) 1 (ay (0+1) 1 (ay 0 1 (λx=>[.int .u8 0]) (ai [.int .u8 0] [(0,.int .u8 (IntKind.wrap IntKind.u8 (Int.fdiv (IntKind.wrap IntKind.u64 (↑(List.length a):Int)) (2 ^ min (Int.toNat (IntKind.wrap .i64 (8*7))) (IntKind.bits IntKind.u64)))))])) (ai [.int .u8 0] [(0,.int .u8 (IntKind.wrap IntKind.u8 (Int.fdiv (IntKind.wrap IntKind.u64 (↑(List.length a):Int)) (2 ^ min (Int.toNat (IntKind.wrap .i64 (8*IntKind.wrap .i64 (7 - 1)))) (IntKind.bits IntKind.u64)))))])) (ai [.int .u8 0] [(0,.int .u8 (IntKind.wrap IntKind.u8 (Int.fdiv (IntKind.wrap IntKind.u64 (↑(List.length a):Int)) (2 ^ min (Int.toNat (IntKind.wrap .i64 (8*IntKind.wrap .i64 (IntKind.wrap .i64 (7 - 1) - 1)))) (IntKind.bits IntKind.u64)))))])) (ai [.int .u8 0] [(0,.int .u8 (IntKind.wrap IntKind.u8 (Int.fdiv (IntKind.wrap IntKind.u64 (↑(List.length a):Int)) (2 ^ min (Int.toNat (IntKind.wrap .i64 (8*IntKind.wrap .i64 (IntKind.wrap .i64 (IntKind.wrap .i64 (7 - 1) - 1) - 1)))) (IntKind.bits IntKind.u64)))))])) (ai [.int .u8 0] [(0,.int .u8 (IntKind.wrap IntKind.u8 (Int.fdiv (IntKind.wrap IntKind.u64 (↑(List.length a):Int)) (2 ^ min (Int.toNat (IntKind.wrap .i64 (8*IntKind.wrap .i64 (IntKind.wrap .i64 (IntKind.wrap .i64 (IntKind.wrap .i64 (7 - 1) - 1) - 1) - 1)))) (IntKind.bits IntKind.u64)))))])) (ai [.int .u8 0] [(0,.int .u8 (IntKind.wrap IntKind.u8 (Int.fdiv (IntKind.wrap IntKind.u64 (↑(List.length a):Int)) (2 ^ min (Int.toNat (IntKind.wrap .i64 (8*IntKind.wrap .i64 (IntKind.wrap .i64 (IntKind.wrap .i64 (IntKind.wrap .i64 (IntKind.wrap .i64 (7 - 1) - 1) - 1) - 1) - 1)))) (IntKind.bits IntKind.u64)))))])) (ai [.int .u8 0] [(0,.int .u8 (IntKind.wrap IntKind.u8 (Int.fdiv (IntKind.wrap IntKind.u64 (↑(List.length a):Int)) (2 ^ min (Int.toNat (IntKind.wrap .i64 (8*IntKind.wrap .i64 (IntKind.wrap .i64 (IntKind.wrap .i64 (IntKind.wrap .i64 (IntKind.wrap .i64 (IntKind.wrap .i64 (7 - 1) - 1) - 1) - 1) - 1) - 1)))) (IntKind.bits IntKind.u64)))))])) (ai [.int .u8 0] [(0,.int .u8 (IntKind.wrap IntKind.u8 (Int.fdiv (IntKind.wrap IntKind.u64 (↑(List.length a):Int)) (2 ^ min (Int.toNat (IntKind.wrap .i64 (8*IntKind.wrap .i64 (IntKind.wrap .i64 (IntKind.wrap .i64 (IntKind.wrap .i64 (IntKind.wrap .i64 (IntKind.wrap .i64 (IntKind.wrap .i64 (7 - 1) - 1) - 1) - 1) - 1) - 1) - 1)))) (IntKind.bits IntKind.u64)))))])) (rowOf a)) (ai [.int .u8 0] [(0,.int .u8 (IntKind.wrap IntKind.u8 (Int.fdiv (IntKind.wrap IntKind.u64 (↑(List.length b):Int)) (2 ^ min (Int.toNat (IntKind.wrap .i64 (8*7))) (IntKind.bits IntKind.u64)))))])) (ai [.int .u8 0] [(0,.int .u8 (IntKind.wrap IntKind.u8 (Int.fdiv (IntKind.wrap IntKind.u64 (↑(List.length b):Int)) (2 ^ min (Int.toNat (IntKind.wrap .i64 (8*IntKind.wrap .i64 (7 - 1)))) (IntKind.bits IntKind.u64)))))])) (ai [.int .u8 0] [(0,.int .u8 (IntKind.wrap IntKind.u8 (Int.fdiv (IntKind.wrap IntKind.u64 (↑(List.length b):Int)) (2 ^ min (Int.toNat (IntKind.wrap .i64 (8*IntKind.wrap .i64 (IntKind.wrap .i64 (7 - 1) - 1)))) (IntKind.bits IntKind.u64)))))])) (ai [.int .u8 0] [(0,.int .u8 (IntKind.wrap IntKind.u8 (Int.fdiv (IntKind.wrap IntKind.u64 (↑(List.length b):Int)) (2 ^ min (Int.toNat (IntKind.wrap .i64 (8*IntKind.wrap .i64 (IntKind.wrap .i64 (IntKind.wrap .i64 (7 - 1) - 1) - 1)))) (IntKind.bits IntKind.u64)))))])) (ai [.int .u8 0] [(0,.int .u8 (IntKind.wrap IntKind.u8 (Int.fdiv (IntKind.wrap IntKind.u64 (↑(List.length b):Int)) (2 ^ min (Int.toNat (IntKind.wrap .i64 (8*IntKind.wrap .i64 (IntKind.wrap .i64 (IntKind.wrap .i64 (IntKind.wrap .i64 (7 - 1) - 1) - 1) - 1)))) (IntKind.bits IntKind.u64)))))])) (ai [.int .u8 0] [(0,.int .u8 (IntKind.wrap IntKind.u8 (Int.fdiv (IntKind.wrap IntKind.u64 (↑(List.length b):Int)) (2 ^ min (Int.toNat (IntKind.wrap .i64 (8*IntKind.wrap .i64 (IntKind.wrap .i64 (IntKind.wrap .i64 (IntKind.wrap .i64 (IntKind.wrap .i64 (7 - 1) - 1) - 1) - 1) - 1)))) (IntKind.bits IntKind.u64)))))])) (ai [.int .u8 0] [(0,.int .u8 (IntKind.wrap IntKind.u8 (Int.fdiv (IntKind.wrap IntKind.u64 (↑(List.length b):Int)) (2 ^ min (Int.toNat (IntKind.wrap .i64 (8*IntKind.wrap .i64 (IntKind.wrap .i64 (IntKind.wrap .i64 (IntKind.wrap .i64 (IntKind.wrap .i64 (IntKind.wrap .i64 (7 - 1) - 1) - 1) - 1) - 1) - 1)))) (IntKind.bits IntKind.u64)))))])) (ai [.int .u8 0] [(0,.int .u8 (IntKind.wrap IntKind.u8 (Int.fdiv (IntKind.wrap IntKind.u64 (↑(List.length b):Int)) (2 ^ min (Int.toNat (IntKind.wrap .i64 (8*IntKind.wrap .i64 (IntKind.wrap .i64 (IntKind.wrap .i64 (IntKind.wrap .i64 (IntKind.wrap .i64 (IntKind.wrap .i64 (IntKind.wrap .i64 (7 - 1) - 1) - 1) - 1) - 1) - 1) - 1)))) (IntKind.bits IntKind.u64)))))])) (rowOf b))] []) λr1 q1=>
  .r (IntKind.wrap .i64 (Int.tmod r1 10000)) (Dm q1)))))))))))))) (by kernel_rfl)
open Classical in
noncomputable def bkF (a b:TX):Int:=if h:a.length<=400000/\b.length<=400000 then (yP a b h.1 h.2).choose else 0
theorem sj (a b:TX):0<=bkF a b/\bkF a b < 10000:=by
 unfold bkF
 split
 ·rename_i h;exact (yP a b h.1 h.2).choose_spec.1
 ·exact ⟨Int.le_refl _,by decide⟩
def rBk (A:List AV) (_:List AO) (x:Int):Prop:=∀a b,A=[.str a,.str b]->x=bkF a b
theorem gr (a b:TX) (ha:a.length<=400000) (hb:b.length<=400000):bo wd mC φIn rBk [.str a,.str b] []:=by
 refine ⟨bkF a b,λa' b' e=>?_,?_⟩
 ·simp only [List.cons.injEq,AV.str.injEq,and_true] at e
  rw [e.1,e.2]
 ·unfold bkF
  rw [dif_pos ⟨ha,hb⟩]
  exact (yP a b ha hb).choose_spec.2
noncomputable abbrev pO:Ent:=du wd mC φIn rBk
end Go.WF

namespace Go.Ab
open Go Go.RowKit
theorem wA {P:Program} {G:Nat->Option (List AV)} {hf:FuncId} {caps:List AV} {os:List AO} {row:Nat->List AV} (hv:zc (af os ae)) (h:∀y:Value,j8 P G hf (.raw y::caps) os (.tup []) os) (hk:∀k∈ak caps,live (af os ae) k):sn P G hf caps (af os ae) 0 row:=by
 intro l vs J hJ hst _ c hj
 obtain ⟨hg,ho,hs,hr⟩:=hJ 0 c hj
 have e0:(#[Value.func (.yield l) #[] #[]]++vs).getD 0 undef=.func (.yield l) #[] #[]:=by simp [Array.getD_eq_getD_getElem?,Array.getElem?_append]
 have e1:∀i,(#[Value.func (.yield l) #[] #[]]++vs).getD (i+1) undef=vs.getD i undef:=λi=>by simp [Array.getD_eq_getD_getElem?,Array.getElem?_append]
 have hsz:(#[Value.func (.yield l) #[] #[]]++vs).size=(AV.raw (.func (.yield l) #[] #[])::caps).length:=by simp [hs];omega
 have hreps:∀ (i:Nat) (u:AV),(AV.raw (.func (.yield l) #[] #[])::caps)[i]?=some u->Rep c u ((#[Value.func (.yield l) #[] #[]]++vs).getD i undef):=λi u hu=>by
  cases i with
  | zero=>
   have hu:some (AV.raw (.func (.yield l) #[] #[]))=some u:=hu
   rw [<-Option.some.inj hu,e0];exact .raw _
  | succ i=>rw [e1];exact hr i u hu
 have hkeys:∀k∈ak (AV.raw (.func (.yield l) #[] #[])::caps),live (af os ae) k:=λk hk'=>hk k (by simpa only [ak,AV.keys,List.nil_append] using hk')
 have h1:=h (.func (.yield l) #[] #[]) c _ hg ho hsz hreps hkeys
 refine callsIn_wide.2 (h1.mono ?_)
 generalize af os ae=ol at *
 rintro e w' ⟨c',x,rfl,rfl,g,f,o,_,_,m⟩
 have hrel:Rel (itB G 0 c ol) c' ⟨[],ol⟩ {tmps:=#[],defers:=[]}:=⟨g,⟨f.os,f.output,f.tape,f.size,f.block,f.ext,f.new⟩,o,(λt v ht=>by cases ht),(λt v ht=>by cases ht),m,rfl,trivial,λk hk=>hk⟩
 exact ⟨⟨x,rfl⟩,{c with w:=c'.w,I:=c'.I},rfl,hst 0 c _ hj (quiet_of ho hv hrel λ_ _ h=>h).1⟩
end Go.Ab
namespace Go.WF
open Go Go.Ab Go.Proofs
def φAq (_:Unit):AV×List AO:=(.sl .no 1 0 λx=>[.str [] ],[.cells [.sl .no 1 0 λx=>[.str [] ] ] ])
def φVs (_:Unit):AV×List AO:=(.fn aw [] [.ref ae 0],[.cells [.sl .no 1 0 λx=>[.str [] ] ] ])
def φVo (_:Unit):AV×List AO:=(.tup [],[])
def φNl (_:Unit):AV×List AO:=(.sl .no 1 0 λx=>[.str [] ],[])
def φOr (_:Unit):AV×List AO:=(.tup [.sl .no 1 0 λx=>[.str [] ],.int .i64 0],[])
theorem Ct.Dz {P:Program} {G:Nat->Option (List AV)} {f:FuncId} {l l':List AV} {os:List AO} {r:AV×List AO} (h:Ct P G f l os r) (hl:l'.length=l.length) (hk:∀k∈ak l,k∈ak l')
  (hw:∀ (i:Nat) (u u':AV),l[i]?=some u->l'[i]?=some u'->∀c v,Rep c u' v->Rep c u v):Ct P G f l' os r:=by
 refine ⟨λc0 vs hg ho hs hr hlv=>h.1 c0 vs hg ho (by rw [hs,hl]) (λi u hu=>?_) (λk hk'=>hlv k (hk k hk')),h.2⟩
 have hlt:=(List.getElem?_eq_some_iff.1 hu).1
 have hu':l'[i]?=some (l'[i]'(by omega)):=List.getElem?_eq_getElem _
 exact hw i u _ hu hu' c0 _ (hr i _ hu')
theorem sg {P:Program} {G:Nat->Option (List AV)} {f:FuncId} {g:Nat->List AV} {r:AV} {res:Option Addr->Nat->Value} (hf:∃fn,P.funcs[f]?=some fn/\(fn.name=="runtime.NumGoroutine")=false/\fn.body.isSome=true) (h:∀p cap w,Calls P f #[.slice p 0 cap] w λe w'=>e=.returned (res p cap)/\w'=w) (hr:∀c p cap,Rep c (.sl .no 1 0 g) (.slice p 0 cap)->Rep c r (res p cap)) (hk:r.keys=[]):Ct P G f [.sl .no 1 0 g] [] (r,[]):=by
 refine ⟨λc vs hg ho hs hv _=>?_,hf⟩
 have hx:Rep c (.sl .no 1 0 g) (vs.getD 0 undef):=hv 0 _ rfl
 have hvs:vs=#[vs.getD 0 undef]:=by
  have hs:vs.size=1:=hs
  apply Array.ext (by simpa using hs)
  intro i h1 h2
  have hi:i=0:=by omega
  subst hi
  simp [Array.getD_eq_getD_getElem?,h1]
 obtain ⟨p,cap,e⟩:∃p cap,vs.getD 0 undef=.slice p 0 cap:=by
  generalize vs.getD 0 undef=x at hx
  cases hx with
  | slNil=>exact ⟨none,0,rfl⟩
  | sl _ _ _ _ a cap=>exact ⟨some a,cap,rfl⟩
 rw [e] at hx hvs
 rw [hvs]
 refine (h p cap c.w).mono ?_
 rintro e w' ⟨rfl,rfl⟩
 exact ⟨c,_,rfl,rfl,hg,⟨rfl,rfl,rfl,Nat.le_refl _,λ_ _ _=>rfl,Ext.refl _ _,λ_ _ _ _ h=>h⟩,ho,hr c p cap hx,(λk h=>by rw [hk] at h;cases h),λk o b hk _=>by simp [af,alook] at hk⟩
theorem zx:bo wd cB φVo ec [.sl .no 1 0 λx=>[.str [] ]] []:=⟨(),trivial,sg (res:=λ_ _=>.tuple #[]) ⟨_,Tryz.func63,by kernel_rfl,by kernel_rfl⟩ (λp cap w=>Tryz.slices_Sort_string_none p cap w) (λc p cap _=>.tup _ _ rfl (by simp)) rfl⟩
theorem AD:bo wd br φNl ec [.sl .no 1 0 λx=>[.str [] ]] []:=⟨(),trivial,sg (res:=λp cap=>.slice p 0 cap) ⟨_,Tryz.func64,by kernel_rfl,by kernel_rfl⟩ (λp cap w=>Tryz.slices_Compact_string_empty p cap w) (λc p cap h=>h) rfl⟩
theorem Dh:Tr (.sl .fit 0 0 λx=>[],[]) (φNl ()):=.one bZ
theorem Dg:Tr (.sl .no 1 0 (ay 0 0 (ai [.str []] []) λx=>[.str [] ]),[]) (φNl ()):=.one bZ
theorem AE:bo wd bK φNl ec [.sl .no 1 0 λx=>[.str [] ]] []:=by
 have h1:bo wd bK φNl (rE ()) [.sl .nl 1 0 λx=>[.str [] ] ] []:=a7 (V:=V0) (T:=[]) (d:=1) 0 aq ao (.t () rfl Dh) (by kernel_rfl)
 have h2:bo wd bK φNl (rE ()) [.sl .nn 1 0 λx=>[.str [] ] ] []:=a7 (V:=V0) (T:=[]) (d:=1) 0 aq ao (.t () rfl Dg) (by kernel_rfl)
 exact ⟨(),trivial,vo (λ_=>h1.ctE) h2.ctE⟩
def φVc (_:Unit):AV×List AO:=(.tup [],[.cells [.sl .no 1 0 λx=>[.str [] ]] ])
theorem Bj (y:Value):bo wd aw φVc ec [.raw y,.ref ae 0] [.cells [.sl .no 1 0 λx=>[.str [] ]] ]:=
 a7 (V:=V0) (T:=[]) (d:=2) 0 aq ao (.r () trivial) (by kernel_rfl)
theorem zh (y:Value):Ct wd.P wd.G aw [.raw y,.ref ae 0] [.cells [.sl .no 1 0 λx=>[.str [] ]] ] (.tup [],[.cells [.sl .no 1 0 λx=>[.str [] ]] ]):=by
 obtain ⟨_,_,h⟩:=Bj y
 exact h
theorem DB:zc (af [.cells [.sl .no 1 0 λx=>[.str [] ]] ] ae):=λk o hk=>by
 simp only [af,alook] at hk
 cases e:Nat.beq ae k with
 | true=>rw [e] at hk;cases Option.some.inj hk;exact ⟨_,rfl,rfl⟩
 | false=>rw [e] at hk;cases hk
theorem A1:∃ (u:St->Bool) (w:St->Unit),(∀v:Unit,True->(0:Nat)=0->cg u w {env:=[(0,.sl .no 1 0 λx=>[.str [] ]),(1,.fn aw [] [.ref 1000000 0]),(2,.ref 2 0),(4,.sl .fit 0 0 λx=>[]),(6,.fn aw [] [.ref 1000000 0])],objs:=[(1000000,.cells [.sl .no 1 0 λx=>[.str [] ]]),(2,.cells [.sl .no 1 0 λx=>[.str [] ]])]} λ_=>True)/\∀C:List (List Nat×Orc),qX (V0.run [] 1 C [] [] ba) ba [1,0,1,0] (mkO u w (λ(t:Unit) k=>k .nor {env:=[(0,.sl .no 1 0 λx=>[.str [] ]),(1,.fn aw [] [.ref 1000000 0]),(2,.ref 2 0),(4,.sl .fit 0 0 λx=>[]),(6,.fn aw [] [.ref 1000000 0])],objs:=[(1000000,.cells [.sl .no 1 0 λx=>[.str [] ]]),(2,.cells [.sl .no 1 0 λx=>[.str [] ]])]})):=
 zD (D:=wd) (V:=V0) (T:=[]) (d:=1) (Cf:=λC=>C) (Lf:=λ_=>[]) (W:=[]) (by kernel_rfl) (N:=0) (row:=λ_=>[.str [] ]) (wA (os:=[.cells [.sl .no 1 0 λx=>[.str [] ]] ]) DB (λy=>(zh y).1) (λk hk=>by
  have hk:k=ae:=by simpa [ak,AV.keys] using hk
  subst hk;exact ⟨_,rfl⟩)) (zh default).2 (λj h=>absurd h (Nat.not_lt_zero _)) DB (hn [2,6] [1000000,2] [] []) (λ_:Unit=>{env:=[(0,.sl .no 1 0 λx=>[.str [] ]),(1,.fn aw [] [.ref 1000000 0]),(2,.ref 2 0),(4,.sl .fit 0 0 λx=>[]),(6,.fn aw [] [.ref 1000000 0])],objs:=[(1000000,.cells [.sl .no 1 0 λx=>[.str [] ]]),(2,.cells [.sl .no 1 0 λx=>[.str [] ]])]}) (λ_=>0) (λ_=>True) (λ_=>0) (λ(t:Unit) k=>k .nor {env:=[(0,.sl .no 1 0 λx=>[.str [] ]),(1,.fn aw [] [.ref 1000000 0]),(2,.ref 2 0),(4,.sl .fit 0 0 λx=>[]),(6,.fn aw [] [.ref 1000000 0])],objs:=[(1000000,.cells [.sl .no 1 0 λx=>[.str [] ]]),(2,.cells [.sl .no 1 0 λx=>[.str [] ]])]}) (λ_=>True) (λv _=>⟨by kernel_rfl,λq hq=>by
   have hq:q=(ae,.cells [.sl .no 1 0 λx=>[.str [] ]] ):=by simpa [af] using hq
   subst hq;rfl⟩) (λv hv=>.fi () trivial) (λv i k kn=>by kernel_rfl)
theorem DA:bo wd ba φAq ec [.sl .no 1 0 λx=>[.str [] ],.fn aw [] [.ref ae 0] ] [.cells [.sl .no 1 0 λx=>[.str [] ]] ]:=by
 obtain ⟨u,w,hu,hc⟩:=A1
 exact AA (V:=V0) (T:=[]) (d:=1) 0 (C:=[([1,0,1,0],mkO u w (λ(t:Unit) k=>k .nor {env:=[(0,.sl .no 1 0 λx=>[.str [] ]),(1,.fn aw [] [.ref 1000000 0]),(2,.ref 2 0),(4,.sl .fit 0 0 λx=>[]),(6,.fn aw [] [.ref 1000000 0])],objs:=[(1000000,.cells [.sl .no 1 0 λx=>[.str [] ]]),(2,.cells [.sl .no 1 0 λx=>[.str [] ]])]}))]) (L:=[]) (W:=[]) (λe he=>by rw [List.mem_singleton.1 he];exact hc _) aq ao (.lp (hu () trivial rfl) λr1 q1=>
  .r () trivial) (by kernel_rfl)
theorem A2:bo wd ba φAq ec [.sl .fit 0 0 λx=>[],.fn aw [] [.ref ae 0] ] [.cells [.sl .no 1 0 λx=>[.str [] ]] ]:=by
 obtain ⟨x,hx,hc⟩:=DA
 refine ⟨x,hx,Ct.Dz hc rfl (λk hk=>hk) λi u u' hu hu' c v hr=>?_⟩
 match i,hu,hu' with
 | 0,hu,hu'=>injection hu with hu;injection hu' with hu';subst hu hu';exact bZ.2 c v hr
 | 1,hu,hu'=>injection hu with hu;injection hu' with hu';subst hu hu';exact hr
noncomputable abbrev eAq:Ent:=du wd ba φAq ec
theorem Df:bo wd fQ φAq ec [.fn aw [] [.ref ae 0] ] [.cells [.sl .no 1 0 λx=>[.str [] ]] ]:=
 a7 (V:=V0) (T:=[eAq]) (d:=3) 0 aq ao (.call (A2) λr1 q1=>
  .r () trivial) (by kernel_rfl)
noncomputable abbrev eCo:Ent:=du wd fQ φAq ec
noncomputable abbrev eSn:Ent:=du wd cB φVo ec
theorem BM:bo wd gL φAq ec [.fn aw [] [.ref ae 0] ] [.cells [.sl .no 1 0 λx=>[.str [] ]] ]:=
 a7 (V:=V0) (T:=[eCo,eSn]) (d:=2) 0 aq ao (.call (Df) λr1 q1=>
  .call (zx) λr2 q2=>
  .r () trivial) (by kernel_rfl)
noncomputable abbrev eSd:Ent:=du wd gL φAq ec
theorem Bh:bo wd eb φVs ec [.sl .no 1 0 λx=>[.str [] ]] []:=
 a7 (V:=V0) (T:=[]) (d:=2) 1 aq ao (.r () trivial) (by kernel_rfl)
noncomputable abbrev eVs:Ent:=du wd eb φVs ec
noncomputable abbrev eCn:Ent:=du wd bK φNl ec
noncomputable abbrev eC0:Ent:=du wd br φNl ec
theorem zS:bo wd jn φOr ec [.sl .no 1 0 λx=>[.str [] ],.sl .no 1 0 λx=>[.str [] ]] []:=
 a7 (V:=V0) (T:=[eVs,eSd,eCn,eC0]) (d:=8) 0 aq ao (.call (Bh) λr1 q1=>
  .call (BM) λr2 q2=>
  .call (AE) λr3 q3=>
  .call (AD) λr4 q4=>
  .r () trivial) (by kernel_rfl)
theorem B0:bo wd jn φOr ec [.sl .no 1 0 λx=>[.str [] ],.sl .no 2 0 λx=>[.str [],.str [] ] ] []:=by
 obtain ⟨x,hx,hc⟩:=zS
 refine ⟨x,hx,hc.args rfl rfl λi u u' hu hu' c v hr=>?_⟩
 match i,hu,hu' with
 | 0,hu,hu'=>injection hu with hu;injection hu' with hu';subst hu hu';exact hr
 | 1,hu,hu'=>injection hu with hu;injection hu' with hu';subst hu hu';exact bZ.2 c v hr
noncomputable abbrev eOr:Ent:=du wd jn φOr ec
theorem Cp (g:Nat->List AV):bo wd fm φNl ec [.sl .no 1 0 λx=>[.str [] ],.agg [.sl .no 3 1 g] ] []:=
 a7 (V:=V0) (T:=[eOr,eSn]) (d:=8) 0 aq ao (.call (B0) λr1 q1=>
  .call (zx) λr2 q2=>
  .r () trivial) (by kernel_rfl)
noncomputable abbrev eMb:Ent:=du wd fm φNl ec
end Go.WF

namespace Go.WF
open Go Go.Ab Go.Proofs
structure AG where
 exp:TX
 bk:Int
 arm:Int
 held:Bool
instance:Inhabited AG:=⟨⟨[],0,0,false⟩⟩
def φLy (x:AG):AV×List AO:=(.tup [.agg [.str aB,.str x.exp,.int .i64 x.bk,.int .i64 x.arm,.bool x.held],.int .i64 0],[])
def usR (a:TX) (_:Nat):List AV:=[.str [117,115,101,114],.str a,.sl .fit 0 0 λx=>[] ]
def usA (a:TX):AV:=.agg [.sl .no 3 1 (usR a)]
structure EVP.Ok (p:EVP):Prop where
 s1:p.s1.length<=400000
 s3:p.s3.length<=400000
 s5:p.s5.length<=400000
theorem fU (g:Nat->List AV):bo wd fm φNl ec [.sl .fit 0 0 λx=>[],.agg [.sl .no 3 1 g] ] []:=by
 obtain ⟨x,hx,hc⟩:=Cp g
 refine ⟨x,hx,hc.args rfl rfl λi u u' hu hu' c v hr=>?_⟩
 match i,hu,hu' with
 | 0,hu,hu'=>injection hu with hu;injection hu' with hu';subst hu hu';exact bZ.2 c v hr
 | 1,hu,hu'=>injection hu with hu;injection hu' with hu';subst hu hu';exact hr
def arms (p:EVP):List SPN:=[⟨0,p.a1,1⟩,⟨p.a1,p.a2,2⟩,⟨p.a2,10000,3⟩]
def Bd (p:EVP):Nat->List AV:=ai [.int .i64 0,.int .i64 0,.int .i64 0] [(0,.agg [.int .i64 0,.int .i64 p.a1,.int .i64 1]),(1,.agg [.int .i64 p.a1,.int .i64 p.a2,.int .i64 2]),(2,.agg [.int .i64 p.a2,.int .i64 10000,.int .i64 3])]
theorem sk {p q:EVP} (h:Bd p=Bd q):arms p=arms q:=by
 have h0:[AV.int .i64 0,.int .i64 p.a1,.int .i64 1]=[AV.int .i64 0,.int .i64 q.a1,.int .i64 1]:=congrFun h 0
 have h1:[AV.int .i64 p.a1,.int .i64 p.a2,.int .i64 2]=[AV.int .i64 q.a1,.int .i64 q.a2,.int .i64 2]:=congrFun h 1
 simp only [List.cons.injEq,AV.int.injEq,true_and,and_true] at h0 h1
 unfold arms
 rw [h0,h1.2]
def DG (A:List AV) (_:List AO) (x:Int):Prop:=∀p b,A=[.sl .fit 3 3 (Bd p),.int .i64 b]->x=pkF (arms p) b
theorem l8 (p:EVP) (b:Int):bo wd fy φIn DG [.sl .fit 3 3 (Bd p),.int .i64 b] []:=by
 obtain ⟨x,hx,hc⟩:=BZ (arms p) b (by show (3:Nat)<=_;decide)
 refine ⟨x,λp' b' e=>?_,hc.args rfl rfl λi u u' hu hu' c v hr=>?_⟩
 ·simp only [List.cons.injEq,AV.sl.injEq,AV.int.injEq,true_and,and_true] at e
  rw [hx _ _ rfl,sk e.1,e.2]
 match i,hu,hu' with
 | 0,hu,hu'=>
  injection hu with hu;injection hu' with hu'
  subst hu hu'
  exact lI hr λj hj=>by
   match j,hj with
   | 0,_=>rfl
   | 1,_=>rfl
   | 2,_=>rfl
 | 1,hu,hu'=>injection hu with hu;injection hu' with hu';subst hu hu';exact hr
def lyG (b:Int) (f:FOX) (ru:Bool) (ho c k3 k5:Int):AG:=
 cond (bif f.2 then bif f.1.exp==[] then true else ru else false)
  (cond (!f.1.exp==[]) (AG.mk f.1.exp b f.1.arm false) (AG.mk [] b 0 false))
  (cond (decide (b < ho)) (AG.mk [] b 0 true)
   (cond (bif decide (ho<=b) then decide (b < c) else false) (AG.mk cR b k3 false)
    (cond (bif decide (c<=b) then decide (b < 10000) else false) (AG.mk bz b k5 false) (AG.mk [] b 0 false))))
def LyR (p:EVP) (a:TX) (l:List FD) (x:AG):Prop:=∃ru:Bool,(FdG (foF l aB).1->ru=true)/\x=lyG (bkF p.s1 a) (foF l aB) ru p.ho p.c (pkF (arms p) (bkF p.s3 a)) (pkF (arms p) (bkF p.s5 a))
def rLy (R:AG->Prop) (_:List AV) (_:List AO) (x:AG):Prop:=R x
theorem mR {p:EVP} {a:TX} {l:List FD} {r1:Int} {r2:FOX} {r3:Bool} {x:AG} {A:List AV} {os:List AO} (q1:r1=bkF p.s1 a) (q2:r2=foF l aB) (q3:FdG r2.1->r3=true) (h:x=lyG r1 r2 r3 p.ho p.c (pkF (arms p) (bkF p.s3 a)) (pkF (arms p) (bkF p.s5 a))):rLy (LyR p a l) A os x:=by
 subst q1 q2
 exact ⟨r3,q3,h⟩
noncomputable abbrev C7:Ent:=du wd fy φIn DG
theorem uI (p:EVP) (a:TX) (l:List FD) (hp:p.Ok) (ha:a.length<=400000) (hl:l.length<=1000000):bo wd aM φLy (rLy (LyR p a l)) [dt p,usA a,fdA l,.str aB] []:=
 a7 (V:=Vb [22,23,24,25] [] []) (T:=[pO,eMb,FE,C7,eRu]) (d:=16) 0 aq ao (.call (gr p.s1 a hp.s1 ha) λr1 q1=>
  .call (CI l aB hl) λr2 q2=>
  .call (BR p r2.1) λr3 q3=>
  .b (bif r2.2 then bif FD.exp r2.1==[] then true else r3 else false) (λh4=>
   .b (!FD.exp r2.1==[]) (λh5=>
    .r (AG.mk (FD.exp r2.1) r1 (FD.arm r2.1) false) (mR (q1 _ _ rfl) (q2 _ _ rfl) (q3 _ rfl) (by first | (rw [h7] at h12;exact absurd h12 (by decide)) | (rw [h14] at h19;exact absurd h19 (by decide)) | (rw [h23] at h28;exact absurd h28 (by decide)) | (have h6:decide (r1 < EVP.ho p)=true:=h6;unfold lyG;simp only [*,cond_true,cond_false]) | (have h6:decide (r1 < EVP.ho p)=false:=h6;unfold lyG;simp only [*,cond_true,cond_false]) | (unfold lyG;simp only [*,cond_true,cond_false])))) λh5=>
   .r (AG.mk [] r1 0 false) (mR (q1 _ _ rfl) (q2 _ _ rfl) (q3 _ rfl) (by first | (rw [h7] at h12;exact absurd h12 (by decide)) | (rw [h14] at h19;exact absurd h19 (by decide)) | (rw [h23] at h28;exact absurd h28 (by decide)) | (have h6:decide (r1 < EVP.ho p)=true:=h6;unfold lyG;simp only [*,cond_true,cond_false]) | (have h6:decide (r1 < EVP.ho p)=false:=h6;unfold lyG;simp only [*,cond_true,cond_false]) | (unfold lyG;simp only [*,cond_true,cond_false])))) λh4=>
  .b (bif false then true else bif true then decide (r1 < EVP.ho p) else false) (λh6=>
   .r (AG.mk [] r1 0 true) (mR (q1 _ _ rfl) (q2 _ _ rfl) (q3 _ rfl) (by first | (rw [h7] at h12;exact absurd h12 (by decide)) | (rw [h14] at h19;exact absurd h19 (by decide)) | (rw [h23] at h28;exact absurd h28 (by decide)) | (have h6:decide (r1 < EVP.ho p)=true:=h6;unfold lyG;simp only [*,cond_true,cond_false]) | (have h6:decide (r1 < EVP.ho p)=false:=h6;unfold lyG;simp only [*,cond_true,cond_false]) | (unfold lyG;simp only [*,cond_true,cond_false])))) λh6=>
  .b (bif decide (EVP.ho p<=r1) then decide (r1 < EVP.c p) else false) (λh7=>
   .call (fU (usR a)) λr8 q8=>
   .call (gr p.s3 a hp.s3 ha) λr9 q9=>
   .call (l8 p r9) λr10 q10=>
   .r (AG.mk [98,108,117,101] r1 r10 false) (mR (q1 _ _ rfl) (q2 _ _ rfl) (q3 _ rfl) (by rw [q10 _ _ rfl,q9 _ _ rfl];first | (rw [h7] at h12;exact absurd h12 (by decide)) | (rw [h14] at h19;exact absurd h19 (by decide)) | (rw [h23] at h28;exact absurd h28 (by decide)) | (have h6:decide (r1 < EVP.ho p)=true:=h6;unfold lyG;simp only [*,cond_true,cond_false]) | (have h6:decide (r1 < EVP.ho p)=false:=h6;unfold lyG;simp only [*,cond_true,cond_false]) | (unfold lyG;simp only [*,cond_true,cond_false])))) λh7=>
  .call (fU (usR a)) λr11 q11=>
  .b (bif decide (EVP.ho p<=r1) then decide (r1 < EVP.c p) else false) (λh12=>
   .call (fU (usR a)) λr13 q13=>
   .b (bif decide (EVP.c p<=r1) then decide (r1 < 10000) else false) (λh14=>
    .call (fU (usR a)) λr15 q15=>
    .call (gr p.s5 a hp.s5 ha) λr16 q16=>
    .call (l8 p r16) λr17 q17=>
    .r (AG.mk [103,114,101,101,110] r1 r17 false) (mR (q1 _ _ rfl) (q2 _ _ rfl) (q3 _ rfl) (by rw [q17 _ _ rfl,q16 _ _ rfl];first | (rw [h7] at h12;exact absurd h12 (by decide)) | (rw [h14] at h19;exact absurd h19 (by decide)) | (rw [h23] at h28;exact absurd h28 (by decide)) | (have h6:decide (r1 < EVP.ho p)=true:=h6;unfold lyG;simp only [*,cond_true,cond_false]) | (have h6:decide (r1 < EVP.ho p)=false:=h6;unfold lyG;simp only [*,cond_true,cond_false]) | (unfold lyG;simp only [*,cond_true,cond_false])))) λh14=>
   .call (fU (usR a)) λr18 q18=>
   .b (bif decide (EVP.c p<=r1) then decide (r1 < 10000) else false) (λh19=>
    .call (fU (usR a)) λr20 q20=>
    .r (AG.mk [] r1 0 false) (mR (q1 _ _ rfl) (q2 _ _ rfl) (q3 _ rfl) (by first | (rw [h7] at h12;exact absurd h12 (by decide)) | (rw [h14] at h19;exact absurd h19 (by decide)) | (rw [h23] at h28;exact absurd h28 (by decide)) | (have h6:decide (r1 < EVP.ho p)=true:=h6;unfold lyG;simp only [*,cond_true,cond_false]) | (have h6:decide (r1 < EVP.ho p)=false:=h6;unfold lyG;simp only [*,cond_true,cond_false]) | (unfold lyG;simp only [*,cond_true,cond_false])))) λh19=>
   .call (fU (usR a)) λr21 q21=>
   .r (AG.mk [] r1 0 false) (mR (q1 _ _ rfl) (q2 _ _ rfl) (q3 _ rfl) (by first | (rw [h7] at h12;exact absurd h12 (by decide)) | (rw [h14] at h19;exact absurd h19 (by decide)) | (rw [h23] at h28;exact absurd h28 (by decide)) | (have h6:decide (r1 < EVP.ho p)=true:=h6;unfold lyG;simp only [*,cond_true,cond_false]) | (have h6:decide (r1 < EVP.ho p)=false:=h6;unfold lyG;simp only [*,cond_true,cond_false]) | (unfold lyG;simp only [*,cond_true,cond_false])))) λh12=>
  .call (fU (usR a)) λr22 q22=>
  .b (bif decide (EVP.c p<=r1) then decide (r1 < 10000) else false) (λh23=>
   .call (fU (usR a)) λr24 q24=>
   .call (gr p.s5 a hp.s5 ha) λr25 q25=>
   .call (l8 p r25) λr26 q26=>
   .r (AG.mk [103,114,101,101,110] r1 r26 false) (mR (q1 _ _ rfl) (q2 _ _ rfl) (q3 _ rfl) (by rw [q26 _ _ rfl,q25 _ _ rfl];first | (rw [h7] at h12;exact absurd h12 (by decide)) | (rw [h14] at h19;exact absurd h19 (by decide)) | (rw [h23] at h28;exact absurd h28 (by decide)) | (have h6:decide (r1 < EVP.ho p)=true:=h6;unfold lyG;simp only [*,cond_true,cond_false]) | (have h6:decide (r1 < EVP.ho p)=false:=h6;unfold lyG;simp only [*,cond_true,cond_false]) | (unfold lyG;simp only [*,cond_true,cond_false])))) λh23=>
  .call (fU (usR a)) λr27 q27=>
  .b (bif decide (EVP.c p<=r1) then decide (r1 < 10000) else false) (λh28=>
   .call (fU (usR a)) λr29 q29=>
   .r (AG.mk [] r1 0 false) (mR (q1 _ _ rfl) (q2 _ _ rfl) (q3 _ rfl) (by first | (rw [h7] at h12;exact absurd h12 (by decide)) | (rw [h14] at h19;exact absurd h19 (by decide)) | (rw [h23] at h28;exact absurd h28 (by decide)) | (have h6:decide (r1 < EVP.ho p)=true:=h6;unfold lyG;simp only [*,cond_true,cond_false]) | (have h6:decide (r1 < EVP.ho p)=false:=h6;unfold lyG;simp only [*,cond_true,cond_false]) | (unfold lyG;simp only [*,cond_true,cond_false])))) λh28=>
  .call (fU (usR a)) λr30 q30=>
  .r (AG.mk [] r1 0 false) (mR (q1 _ _ rfl) (q2 _ _ rfl) (q3 _ rfl) (by first | (rw [h7] at h12;exact absurd h12 (by decide)) | (rw [h14] at h19;exact absurd h19 (by decide)) | (rw [h23] at h28;exact absurd h28 (by decide)) | (have h6:decide (r1 < EVP.ho p)=true:=h6;unfold lyG;simp only [*,cond_true,cond_false]) | (have h6:decide (r1 < EVP.ho p)=false:=h6;unfold lyG;simp only [*,cond_true,cond_false]) | (unfold lyG;simp only [*,cond_true,cond_false])))) (by kernel_rfl)
theorem xz {a b:TX} (h:usA a=usA b):a=b:=by
 injection h with h
 injection h with h _
 injection h with _ _ _ h
 have h:usR a 0=usR b 0:=congrFun h 0
 injection h with _ h
 injection h with h _
 injection h
theorem w6 {p q:EVP} (h:dt p=dt q):p.s1=q.s1/\p.ho=q.ho/\p.c=q.c/\p.s3=q.s3/\p.s5=q.s5/\arms p=arms q:=by
 unfold dt at h
 simp only [AV.agg.injEq,List.cons.injEq,AV.sl.injEq,true_and,and_true] at h
 obtain ⟨_,h6,h12⟩:=h
 have a0:=congrFun h6 0
 have b0:=congrFun h12 0
 have b2:=congrFun h12 2
 simp only [Nat.beq,cond_true,cond_false,List.cons.injEq,AV.str.injEq,AV.int.injEq,AV.sl.injEq,true_and,and_true] at a0 b0 b2
 obtain ⟨e1,e2⟩:=a0
 obtain ⟨_,e3,e4,e5⟩:=b0
 obtain ⟨_,e6,_,_⟩:=b2
 have c0:=congrFun e4 0
 simp only [ai,AV.cells,Nat.beq,cond_true,List.cons.injEq,AV.int.injEq,true_and,and_true] at c0
 exact ⟨e1,e2,c0.2,e3,e6,sk e5⟩
def rLz (A:List AV) (_:List AO) (x:AG):Prop:=∀p a l,A=[dt p,usA a,fdA l,.str aB]->LyR p a l x
theorem Cq (p:EVP) (a:TX) (l:List FD) (hp:p.Ok) (ha:a.length<=400000) (hl:l.length<=1000000):bo wd aM φLy rLz [dt p,usA a,fdA l,.str aB] []:=
 (uI p a l hp ha hl).mono λx hx p' a' l' e=>by
  simp only [List.cons.injEq,true_and,and_true] at e
  obtain ⟨e1,e2,e3⟩:=e
  obtain ⟨k1,k2,k3,k4,k5,k6⟩:=w6 e1
  have hx:LyR p a l x:=hx
  unfold LyR at hx ⊢
  rw [<-k1,<-k2,<-k3,<-k4,<-k5,<-k6,<-xz e2,<-vh e3]
  exact hx
noncomputable abbrev eLy:Ent:=du wd aM φLy rLz
end Go.WF

namespace Go.WF
open Go Go.Ab Go.Proofs
def φUs (a:TX):AV×List AO:=(usA a,[])
theorem Eu {a:TX}:Tr (.agg [.sl .fit 3 1 (ai [.str [],.str [],.sl .fit 0 0 λx=>[] ] [(0,.agg [.str [117,115,101,114],.str a,.sl .fit 0 0 λx=>[] ])])],[]) (φUs a):=
 ⟨.inr ⟨rfl,λc v hr=>fH (.cons (eE λj hj=>by
  match j,hj with
  | 0,_=>rfl) .nil) hr⟩,.inl rfl⟩
def rUs (l:List AV) (_:List AO) (x:TX):Prop:=∀a,l=[.str a]->x=a
theorem Ev (a:TX):rUs [.str a] [] a:=λb e=>by injection e with e _;injection e
theorem su (a:TX):bo wd cn φUs rUs [.str a] []:=
 a7 (V:=V0) (T:=[]) (d:=2) 0 aq ao (.t a (Ev a) Eu) (by kernel_rfl)
def Bu:Nat->List AV:=(ay (0+1+1) 1 (ay (0+1) 1 (ay 0 1 (λx=>[.int .i64 0,.int .i64 0,.str [],.sl .fit 0 0 λx=>[] ]) (ai [.int .i64 0,.int .i64 0,.str [],.sl .fit 0 0 λx=>[] ] [(0,.agg [.int .i64 2,.int .i64 (IntKind.wrap .i64 (1*10)),.str [],.sl .fit 0 0 λx=>[] ])])) (ai [.int .i64 0,.int .i64 0,.str [],.sl .fit 0 0 λx=>[] ] [(0,.agg [.int .i64 2,.int .i64 (IntKind.wrap .i64 (IntKind.wrap .i64 (1+1)*10)),.str [],.sl .fit 0 0 λx=>[] ])])) (ai [.int .i64 0,.int .i64 0,.str [],.sl .fit 0 0 λx=>[] ] [(0,.agg [.int .i64 2,.int .i64 (IntKind.wrap .i64 (IntKind.wrap .i64 (IntKind.wrap .i64 (1+1)+1)*10)),.str [],.sl .fit 0 0 λx=>[] ])]))
def flC (k:TX) (d:Int):List AV:=[.str k,.int .i64 2,.sl .no 4 3 Bu,.bool true,.int .i64 3,.sl .fit 0 0 λx=>[],.sl .fit 0 0 λx=>[],.sl .fit 0 0 λx=>[],.int .i64 d,.str [],.str [],.str [],.sl .fit 0 0 λx=>[] ]
def flR (d0 d1 d2 d3:Int) (j:Nat):List AV:=cond (Nat.beq j 0) (flC [102,97,115,116,45,102,108,97,103] d0) (cond (Nat.beq j 1) (flC [115,104,111,112,45,102,108,97,103] d1) (cond (Nat.beq j 2) (flC [115,108,111,119,45,102,108,97,103] d2) (flC [116,111,112,45,102,108,97,103] d3)))
def enP (sa ho cu on tw:Int):EVP where
 s1:=([115]++bytesOf 1 (ai [.int .u8 0] [(0,.int .u8 (IntKind.wrap IntKind.u8 (97+Int.tmod sa 26)))])++[104,111,109,101])
 s2:=([115]++bytesOf 1 (ai [.int .u8 0] [(0,.int .u8 (IntKind.wrap IntKind.u8 (97+Int.tmod sa 26)))])++[115,104,111,112])
 s3:=([115]++bytesOf 1 (ai [.int .u8 0] [(0,.int .u8 (IntKind.wrap IntKind.u8 (97+Int.tmod sa 26)))])++bytesOf 1 (ai [.int .u8 0] [(0,.int .u8 (IntKind.wrap IntKind.u8 (48+IntKind.wrap IntKind.u8 0)))]))
 s4:=([115]++bytesOf 1 (ai [.int .u8 0] [(0,.int .u8 (IntKind.wrap IntKind.u8 (97+Int.tmod sa 26)))])++bytesOf 1 (ai [.int .u8 0] [(0,.int .u8 (IntKind.wrap IntKind.u8 (48+IntKind.wrap IntKind.u8 (IntKind.wrap .i64 (0+1)))))]))
 s5:=([115]++bytesOf 1 (ai [.int .u8 0] [(0,.int .u8 (IntKind.wrap IntKind.u8 (97+Int.tmod sa 26)))])++bytesOf 1 (ai [.int .u8 0] [(0,.int .u8 (IntKind.wrap IntKind.u8 (48+IntKind.wrap IntKind.u8 (IntKind.wrap .i64 (IntKind.wrap .i64 (0+1)+1)))))]))
 s6:=([115]++bytesOf 1 (ai [.int .u8 0] [(0,.int .u8 (IntKind.wrap IntKind.u8 (97+Int.tmod sa 26)))])++bytesOf 1 (ai [.int .u8 0] [(0,.int .u8 (IntKind.wrap IntKind.u8 (48+IntKind.wrap IntKind.u8 (IntKind.wrap .i64 (IntKind.wrap .i64 (IntKind.wrap .i64 (0+1)+1)+1)))))]))
 g1:=[102,97,115,116,45,102,108,97,103]
 g2:=[115,104,111,112,45,102,108,97,103]
 g3:=[115,108,111,119,45,102,108,97,103]
 g4:=[116,111,112,45,102,108,97,103]
 ho:=(IntKind.wrap .i64 (Int.tmod (IntKind.wrap .i64 ho) 50*20))
 c:=(IntKind.wrap .i64 (IntKind.wrap .i64 (IntKind.wrap .i64 (Int.tmod (IntKind.wrap .i64 ho) 50*20)+1)+Int.tmod (IntKind.wrap .i64 cu) (IntKind.wrap .i64 (IntKind.wrap .i64 (10000 - IntKind.wrap .i64 (Int.tmod (IntKind.wrap .i64 ho) 50*20)) - 1))))
 a1:=(IntKind.wrap .i64 (1+Int.tmod (IntKind.wrap .i64 on) 9998))
 a2:=(IntKind.wrap .i64 (IntKind.wrap .i64 (IntKind.wrap .i64 (1+Int.tmod (IntKind.wrap .i64 on) 9998)+1)+Int.tmod (IntKind.wrap .i64 tw) (IntKind.wrap .i64 (9999 - IntKind.wrap .i64 (1+Int.tmod (IntKind.wrap .i64 on) 9998)))))
 fl:=flR 3 3 3 3
theorem pz (sa ho cu on tw:Int):(enP sa ho cu on tw).Ok:=⟨Nat.le_of_ble_eq_true (by kernel_rfl),Nat.le_of_ble_eq_true (by kernel_rfl),Nat.le_of_ble_eq_true (by kernel_rfl)⟩
instance:Inhabited EVP:=⟨enP 0 0 0 0 0⟩
def φEn (p:EVP):AV×List AO:=(dt p,[])
def rEn (A:List AV) (_:List AO) (p:EVP):Prop:=∀sa ho cu on tw,A=[.int .u8 sa,.int .u8 ho,.int .u16 cu,.int .u16 on,.int .u16 tw]->p=enP sa ho cu on tw
theorem Fy (sa ho cu on tw:Int) {os:List AO}:rEn [.int .u8 sa,.int .u8 ho,.int .u16 cu,.int .u16 on,.int .u16 tw] os (enP sa ho cu on tw):=λa b c d e h=>by
 simp only [List.cons.injEq,AV.int.injEq,true_and,and_true] at h
 obtain ⟨h1,h2,h3,h4,h5⟩:=h
 rw [h1,h2,h3,h4,h5]
theorem FB {on:Int} (h0:0<=on) (h1:on < 65536):(IntKind.wrap .i64 (9999 - IntKind.wrap .i64 (1+Int.tmod (IntKind.wrap .i64 on) 9998)) !=0)=true:=by
 have e:Int.tmod on 9998=on % 9998:=Int.tmod_eq_emod_of_nonneg h0
 rw [wrap_i64 (x:=on) (by omega) (by omega),e,wrap_i64 (x:=1+on % 9998) (by omega) (by omega),wrap_i64 (by omega) (by omega)]
 exact bne_iff_ne.2 (by omega)
theorem FA {ho:Int} (h0:0<=ho) (h1:ho < 256):(IntKind.wrap .i64 (IntKind.wrap .i64 (10000 - IntKind.wrap .i64 (Int.tmod (IntKind.wrap .i64 ho) 50*20)) - 1) !=0)=true:=by
 have e:Int.tmod ho 50=ho % 50:=Int.tmod_eq_emod_of_nonneg h0
 rw [wrap_i64 (x:=ho) (by omega) (by omega),e,wrap_i64 (x:=ho % 50*20) (by omega) (by omega),wrap_i64 (x:=10000 - ho % 50*20) (by omega) (by omega),wrap_i64 (by omega) (by omega)]
 exact bne_iff_ne.2 (by omega)
theorem Fx (sa ho cu on tw:Int):Tr ((.agg [.str [],.str [],.int .i64 0,.sl .fit 0 0 λx=>[],.sl .fit 0 0 λx=>[],.sl .no 13 4 (ay (0+1+1+1) 1 (ay (0+1+1) 1 (ay (0+1) 1 (ay 0 1 (λx=>[.str [],.int .i64 0,.sl .fit 0 0 λx=>[],.bool false,.int .i64 0,.sl .fit 0 0 λx=>[],.sl .fit 0 0 λx=>[],.sl .fit 0 0 λx=>[],.int .i64 0,.str [],.str [],.str [],.sl .fit 0 0 λx=>[] ]) (ai [.str [],.int .i64 0,.sl .fit 0 0 λx=>[],.bool false,.int .i64 0,.sl .fit 0 0 λx=>[],.sl .fit 0 0 λx=>[],.sl .fit 0 0 λx=>[],.int .i64 0,.str [],.str [],.str [],.sl .fit 0 0 λx=>[] ] [(0,.agg [.str [102,97,115,116,45,102,108,97,103],.int .i64 2,.sl .no 4 3 (ay (0+1+1) 1 (ay (0+1) 1 (ay 0 1 (λx=>[.int .i64 0,.int .i64 0,.str [],.sl .fit 0 0 λx=>[] ]) (ai [.int .i64 0,.int .i64 0,.str [],.sl .fit 0 0 λx=>[] ] [(0,.agg [.int .i64 2,.int .i64 (IntKind.wrap .i64 (1*10)),.str [],.sl .fit 0 0 λx=>[] ])])) (ai [.int .i64 0,.int .i64 0,.str [],.sl .fit 0 0 λx=>[] ] [(0,.agg [.int .i64 2,.int .i64 (IntKind.wrap .i64 (IntKind.wrap .i64 (1+1)*10)),.str [],.sl .fit 0 0 λx=>[] ])])) (ai [.int .i64 0,.int .i64 0,.str [],.sl .fit 0 0 λx=>[] ] [(0,.agg [.int .i64 2,.int .i64 (IntKind.wrap .i64 (IntKind.wrap .i64 (IntKind.wrap .i64 (1+1)+1)*10)),.str [],.sl .fit 0 0 λx=>[] ])])),.bool true,.int .i64 3,.sl .fit 0 0 λx=>[],.sl .fit 0 0 λx=>[],.sl .fit 0 0 λx=>[],.int .i64 3,.str [],.str [],.str [],.sl .fit 0 0 λx=>[] ])])) (ai [.str [],.int .i64 0,.sl .fit 0 0 λx=>[],.bool false,.int .i64 0,.sl .fit 0 0 λx=>[],.sl .fit 0 0 λx=>[],.sl .fit 0 0 λx=>[],.int .i64 0,.str [],.str [],.str [],.sl .fit 0 0 λx=>[] ] [(0,.agg [.str [115,104,111,112,45,102,108,97,103],.int .i64 2,.sl .no 4 3 (ay (0+1+1) 1 (ay (0+1) 1 (ay 0 1 (λx=>[.int .i64 0,.int .i64 0,.str [],.sl .fit 0 0 λx=>[] ]) (ai [.int .i64 0,.int .i64 0,.str [],.sl .fit 0 0 λx=>[] ] [(0,.agg [.int .i64 2,.int .i64 (IntKind.wrap .i64 (1*10)),.str [],.sl .fit 0 0 λx=>[] ])])) (ai [.int .i64 0,.int .i64 0,.str [],.sl .fit 0 0 λx=>[] ] [(0,.agg [.int .i64 2,.int .i64 (IntKind.wrap .i64 (IntKind.wrap .i64 (1+1)*10)),.str [],.sl .fit 0 0 λx=>[] ])])) (ai [.int .i64 0,.int .i64 0,.str [],.sl .fit 0 0 λx=>[] ] [(0,.agg [.int .i64 2,.int .i64 (IntKind.wrap .i64 (IntKind.wrap .i64 (IntKind.wrap .i64 (1+1)+1)*10)),.str [],.sl .fit 0 0 λx=>[] ])])),.bool true,.int .i64 3,.sl .fit 0 0 λx=>[],.sl .fit 0 0 λx=>[],.sl .fit 0 0 λx=>[],.int .i64 3,.str [],.str [],.str [],.sl .fit 0 0 λx=>[] ])])) (ai [.str [],.int .i64 0,.sl .fit 0 0 λx=>[],.bool false,.int .i64 0,.sl .fit 0 0 λx=>[],.sl .fit 0 0 λx=>[],.sl .fit 0 0 λx=>[],.int .i64 0,.str [],.str [],.str [],.sl .fit 0 0 λx=>[] ] [(0,.agg [.str [115,108,111,119,45,102,108,97,103],.int .i64 2,.sl .no 4 3 (ay (0+1+1) 1 (ay (0+1) 1 (ay 0 1 (λx=>[.int .i64 0,.int .i64 0,.str [],.sl .fit 0 0 λx=>[] ]) (ai [.int .i64 0,.int .i64 0,.str [],.sl .fit 0 0 λx=>[] ] [(0,.agg [.int .i64 2,.int .i64 (IntKind.wrap .i64 (1*10)),.str [],.sl .fit 0 0 λx=>[] ])])) (ai [.int .i64 0,.int .i64 0,.str [],.sl .fit 0 0 λx=>[] ] [(0,.agg [.int .i64 2,.int .i64 (IntKind.wrap .i64 (IntKind.wrap .i64 (1+1)*10)),.str [],.sl .fit 0 0 λx=>[] ])])) (ai [.int .i64 0,.int .i64 0,.str [],.sl .fit 0 0 λx=>[] ] [(0,.agg [.int .i64 2,.int .i64 (IntKind.wrap .i64 (IntKind.wrap .i64 (IntKind.wrap .i64 (1+1)+1)*10)),.str [],.sl .fit 0 0 λx=>[] ])])),.bool true,.int .i64 3,.sl .fit 0 0 λx=>[],.sl .fit 0 0 λx=>[],.sl .fit 0 0 λx=>[],.int .i64 3,.str [],.str [],.str [],.sl .fit 0 0 λx=>[] ])])) (ai [.str [],.int .i64 0,.sl .fit 0 0 λx=>[],.bool false,.int .i64 0,.sl .fit 0 0 λx=>[],.sl .fit 0 0 λx=>[],.sl .fit 0 0 λx=>[],.int .i64 0,.str [],.str [],.str [],.sl .fit 0 0 λx=>[] ] [(0,.agg [.str [116,111,112,45,102,108,97,103],.int .i64 2,.sl .no 4 3 (ay (0+1+1) 1 (ay (0+1) 1 (ay 0 1 (λx=>[.int .i64 0,.int .i64 0,.str [],.sl .fit 0 0 λx=>[] ]) (ai [.int .i64 0,.int .i64 0,.str [],.sl .fit 0 0 λx=>[] ] [(0,.agg [.int .i64 2,.int .i64 (IntKind.wrap .i64 (1*10)),.str [],.sl .fit 0 0 λx=>[] ])])) (ai [.int .i64 0,.int .i64 0,.str [],.sl .fit 0 0 λx=>[] ] [(0,.agg [.int .i64 2,.int .i64 (IntKind.wrap .i64 (IntKind.wrap .i64 (1+1)*10)),.str [],.sl .fit 0 0 λx=>[] ])])) (ai [.int .i64 0,.int .i64 0,.str [],.sl .fit 0 0 λx=>[] ] [(0,.agg [.int .i64 2,.int .i64 (IntKind.wrap .i64 (IntKind.wrap .i64 (IntKind.wrap .i64 (1+1)+1)*10)),.str [],.sl .fit 0 0 λx=>[] ])])),.bool true,.int .i64 3,.sl .fit 0 0 λx=>[],.sl .fit 0 0 λx=>[],.sl .fit 0 0 λx=>[],.int .i64 3,.str [],.str [],.str [],.sl .fit 0 0 λx=>[] ])])),.sl .no 6 2 (ay (0+1) 1 (ay 0 1 (λx=>[.str [],.str [],.str [],.int .i64 0,.int .i64 0,.sl .fit 0 0 λx=>[] ]) (ai [.str [],.str [],.str [],.int .i64 0,.int .i64 0,.sl .fit 0 0 λx=>[] ] [(0,.agg [.str [104,111,109,101],.str [117,115,101,114],.str ([115]++bytesOf 1 (ai [.int .u8 0] [(0,.int .u8 (IntKind.wrap IntKind.u8 (97+Int.tmod sa 26)))])++[104,111,109,101]),.int .i64 (IntKind.wrap .i64 (Int.tmod (IntKind.wrap .i64 ho) 50*20)),.int .i64 0,.sl .fit 0 0 λx=>[] ])])) (ai [.str [],.str [],.str [],.int .i64 0,.int .i64 0,.sl .fit 0 0 λx=>[] ] [(0,.agg [.str [115,104,111,112],.str [117,115,101,114],.str ([115]++bytesOf 1 (ai [.int .u8 0] [(0,.int .u8 (IntKind.wrap IntKind.u8 (97+Int.tmod sa 26)))])++[115,104,111,112]),.int .i64 (IntKind.wrap .i64 (Int.tmod (IntKind.wrap .i64 ho) 50*20)),.int .i64 0,.sl .fit 0 0 λx=>[] ])])),.sl .no 12 4 (ay (0+1+1+1) 1 (ay (0+1+1) 1 (ay (0+1) 1 (ay 0 1 (λx=>[.str [],.str [],.str [],.str [],.int .i64 0,.sl .fit 0 0 λx=>[],.sl .fit 0 0 λx=>[],.int .i64 0,.str [],.str [],.sl .fit 0 0 λx=>[],.sl .fit 0 0 λx=>[] ]) (ai [.str [],.str [],.str [],.str [],.int .i64 0,.sl .fit 0 0 λx=>[],.sl .fit 0 0 λx=>[],.int .i64 0,.str [],.str [],.sl .fit 0 0 λx=>[],.sl .fit 0 0 λx=>[] ] [(0,.agg [.str [98,108,117,101],.str [104,111,109,101],.str [102,97,115,116,45,102,108,97,103],.str ([115]++bytesOf 1 (ai [.int .u8 0] [(0,.int .u8 (IntKind.wrap IntKind.u8 (97+Int.tmod sa 26)))])++bytesOf 1 (ai [.int .u8 0] [(0,.int .u8 (IntKind.wrap IntKind.u8 (48+IntKind.wrap IntKind.u8 0)))])),.int .i64 2,.sl .fit 2 1 (ai [.int .i64 0,.int .i64 0] [(0,.agg [.int .i64 (IntKind.wrap .i64 (Int.tmod (IntKind.wrap .i64 ho) 50*20)),.int .i64 (IntKind.wrap .i64 (IntKind.wrap .i64 (IntKind.wrap .i64 (Int.tmod (IntKind.wrap .i64 ho) 50*20)+1)+Int.tmod (IntKind.wrap .i64 cu) (IntKind.wrap .i64 (IntKind.wrap .i64 (10000 - IntKind.wrap .i64 (Int.tmod (IntKind.wrap .i64 ho) 50*20)) - 1))))])]),.sl .fit 3 3 (ai [.int .i64 0,.int .i64 0,.int .i64 0] [(0,.agg [.int .i64 0,.int .i64 (IntKind.wrap .i64 (1+Int.tmod (IntKind.wrap .i64 on) 9998)),.int .i64 1]),(1,.agg [.int .i64 (IntKind.wrap .i64 (1+Int.tmod (IntKind.wrap .i64 on) 9998)),.int .i64 (IntKind.wrap .i64 (IntKind.wrap .i64 (IntKind.wrap .i64 (1+Int.tmod (IntKind.wrap .i64 on) 9998)+1)+Int.tmod (IntKind.wrap .i64 tw) (IntKind.wrap .i64 (9999 - IntKind.wrap .i64 (1+Int.tmod (IntKind.wrap .i64 on) 9998))))),.int .i64 2]),(2,.agg [.int .i64 (IntKind.wrap .i64 (IntKind.wrap .i64 (IntKind.wrap .i64 (1+Int.tmod (IntKind.wrap .i64 on) 9998)+1)+Int.tmod (IntKind.wrap .i64 tw) (IntKind.wrap .i64 (9999 - IntKind.wrap .i64 (1+Int.tmod (IntKind.wrap .i64 on) 9998))))),.int .i64 10000,.int .i64 3])]),.int .i64 1,.str [],.str [],.sl .fit 0 0 λx=>[],.sl .fit 0 0 λx=>[] ])])) (ai [.str [],.str [],.str [],.str [],.int .i64 0,.sl .fit 0 0 λx=>[],.sl .fit 0 0 λx=>[],.int .i64 0,.str [],.str [],.sl .fit 0 0 λx=>[],.sl .fit 0 0 λx=>[] ] [(0,.agg [.str [102,97,115,116],.str [115,104,111,112],.str [115,104,111,112,45,102,108,97,103],.str ([115]++bytesOf 1 (ai [.int .u8 0] [(0,.int .u8 (IntKind.wrap IntKind.u8 (97+Int.tmod sa 26)))])++bytesOf 1 (ai [.int .u8 0] [(0,.int .u8 (IntKind.wrap IntKind.u8 (48+IntKind.wrap IntKind.u8 (IntKind.wrap .i64 (0+1)))))])),.int .i64 2,.sl .fit 2 1 (ai [.int .i64 0,.int .i64 0] [(0,.agg [.int .i64 (IntKind.wrap .i64 (Int.tmod (IntKind.wrap .i64 ho) 50*20)),.int .i64 (IntKind.wrap .i64 (IntKind.wrap .i64 (IntKind.wrap .i64 (Int.tmod (IntKind.wrap .i64 ho) 50*20)+1)+Int.tmod (IntKind.wrap .i64 cu) (IntKind.wrap .i64 (IntKind.wrap .i64 (10000 - IntKind.wrap .i64 (Int.tmod (IntKind.wrap .i64 ho) 50*20)) - 1))))])]),.sl .fit 3 3 (ai [.int .i64 0,.int .i64 0,.int .i64 0] [(0,.agg [.int .i64 0,.int .i64 (IntKind.wrap .i64 (1+Int.tmod (IntKind.wrap .i64 on) 9998)),.int .i64 1]),(1,.agg [.int .i64 (IntKind.wrap .i64 (1+Int.tmod (IntKind.wrap .i64 on) 9998)),.int .i64 (IntKind.wrap .i64 (IntKind.wrap .i64 (IntKind.wrap .i64 (1+Int.tmod (IntKind.wrap .i64 on) 9998)+1)+Int.tmod (IntKind.wrap .i64 tw) (IntKind.wrap .i64 (9999 - IntKind.wrap .i64 (1+Int.tmod (IntKind.wrap .i64 on) 9998))))),.int .i64 2]),(2,.agg [.int .i64 (IntKind.wrap .i64 (IntKind.wrap .i64 (IntKind.wrap .i64 (1+Int.tmod (IntKind.wrap .i64 on) 9998)+1)+Int.tmod (IntKind.wrap .i64 tw) (IntKind.wrap .i64 (9999 - IntKind.wrap .i64 (1+Int.tmod (IntKind.wrap .i64 on) 9998))))),.int .i64 10000,.int .i64 3])]),.int .i64 1,.str [],.str [],.sl .fit 0 0 λx=>[],.sl .fit 0 0 λx=>[] ])])) (ai [.str [],.str [],.str [],.str [],.int .i64 0,.sl .fit 0 0 λx=>[],.sl .fit 0 0 λx=>[],.int .i64 0,.str [],.str [],.sl .fit 0 0 λx=>[],.sl .fit 0 0 λx=>[] ] [(0,.agg [.str [103,114,101,101,110],.str [104,111,109,101],.str [115,108,111,119,45,102,108,97,103],.str ([115]++bytesOf 1 (ai [.int .u8 0] [(0,.int .u8 (IntKind.wrap IntKind.u8 (97+Int.tmod sa 26)))])++bytesOf 1 (ai [.int .u8 0] [(0,.int .u8 (IntKind.wrap IntKind.u8 (48+IntKind.wrap IntKind.u8 (IntKind.wrap .i64 (IntKind.wrap .i64 (0+1)+1)))))])),.int .i64 2,.sl .fit 2 1 (ai [.int .i64 0,.int .i64 0] [(0,.agg [.int .i64 (IntKind.wrap .i64 (IntKind.wrap .i64 (IntKind.wrap .i64 (Int.tmod (IntKind.wrap .i64 ho) 50*20)+1)+Int.tmod (IntKind.wrap .i64 cu) (IntKind.wrap .i64 (IntKind.wrap .i64 (10000 - IntKind.wrap .i64 (Int.tmod (IntKind.wrap .i64 ho) 50*20)) - 1)))),.int .i64 10000])]),.sl .fit 3 3 (ai [.int .i64 0,.int .i64 0,.int .i64 0] [(0,.agg [.int .i64 0,.int .i64 (IntKind.wrap .i64 (1+Int.tmod (IntKind.wrap .i64 on) 9998)),.int .i64 1]),(1,.agg [.int .i64 (IntKind.wrap .i64 (1+Int.tmod (IntKind.wrap .i64 on) 9998)),.int .i64 (IntKind.wrap .i64 (IntKind.wrap .i64 (IntKind.wrap .i64 (1+Int.tmod (IntKind.wrap .i64 on) 9998)+1)+Int.tmod (IntKind.wrap .i64 tw) (IntKind.wrap .i64 (9999 - IntKind.wrap .i64 (1+Int.tmod (IntKind.wrap .i64 on) 9998))))),.int .i64 2]),(2,.agg [.int .i64 (IntKind.wrap .i64 (IntKind.wrap .i64 (IntKind.wrap .i64 (1+Int.tmod (IntKind.wrap .i64 on) 9998)+1)+Int.tmod (IntKind.wrap .i64 tw) (IntKind.wrap .i64 (9999 - IntKind.wrap .i64 (1+Int.tmod (IntKind.wrap .i64 on) 9998))))),.int .i64 10000,.int .i64 3])]),.int .i64 1,.str [],.str [],.sl .fit 0 0 λx=>[],.sl .fit 0 0 λx=>[] ])])) (ai [.str [],.str [],.str [],.str [],.int .i64 0,.sl .fit 0 0 λx=>[],.sl .fit 0 0 λx=>[],.int .i64 0,.str [],.str [],.sl .fit 0 0 λx=>[],.sl .fit 0 0 λx=>[] ] [(0,.agg [.str [115,108,111,119],.str [115,104,111,112],.str [116,111,112,45,102,108,97,103],.str ([115]++bytesOf 1 (ai [.int .u8 0] [(0,.int .u8 (IntKind.wrap IntKind.u8 (97+Int.tmod sa 26)))])++bytesOf 1 (ai [.int .u8 0] [(0,.int .u8 (IntKind.wrap IntKind.u8 (48+IntKind.wrap IntKind.u8 (IntKind.wrap .i64 (IntKind.wrap .i64 (IntKind.wrap .i64 (0+1)+1)+1)))))])),.int .i64 2,.sl .fit 2 1 (ai [.int .i64 0,.int .i64 0] [(0,.agg [.int .i64 (IntKind.wrap .i64 (IntKind.wrap .i64 (IntKind.wrap .i64 (Int.tmod (IntKind.wrap .i64 ho) 50*20)+1)+Int.tmod (IntKind.wrap .i64 cu) (IntKind.wrap .i64 (IntKind.wrap .i64 (10000 - IntKind.wrap .i64 (Int.tmod (IntKind.wrap .i64 ho) 50*20)) - 1)))),.int .i64 10000])]),.sl .fit 3 3 (ai [.int .i64 0,.int .i64 0,.int .i64 0] [(0,.agg [.int .i64 0,.int .i64 (IntKind.wrap .i64 (1+Int.tmod (IntKind.wrap .i64 on) 9998)),.int .i64 1]),(1,.agg [.int .i64 (IntKind.wrap .i64 (1+Int.tmod (IntKind.wrap .i64 on) 9998)),.int .i64 (IntKind.wrap .i64 (IntKind.wrap .i64 (IntKind.wrap .i64 (1+Int.tmod (IntKind.wrap .i64 on) 9998)+1)+Int.tmod (IntKind.wrap .i64 tw) (IntKind.wrap .i64 (9999 - IntKind.wrap .i64 (1+Int.tmod (IntKind.wrap .i64 on) 9998))))),.int .i64 2]),(2,.agg [.int .i64 (IntKind.wrap .i64 (IntKind.wrap .i64 (IntKind.wrap .i64 (1+Int.tmod (IntKind.wrap .i64 on) 9998)+1)+Int.tmod (IntKind.wrap .i64 tw) (IntKind.wrap .i64 (9999 - IntKind.wrap .i64 (1+Int.tmod (IntKind.wrap .i64 on) 9998))))),.int .i64 10000,.int .i64 3])]),.int .i64 1,.str [],.str [],.sl .fit 0 0 λx=>[],.sl .fit 0 0 λx=>[] ])]))],[])) (φEn (enP sa ho cu on tw)):=
 ⟨.inr ⟨rfl,λc v hr=>fH (.cons (.same rfl) (.cons (.same rfl) (.cons (.same rfl) (.cons (.same rfl) (.cons (.same rfl) (.cons (eE λj hj=>by
  match j,hj with
  | 0,_=>rfl
  | 1,_=>rfl
  | 2,_=>rfl
  | 3,_=>rfl) (.cons (eE λj hj=>by
  match j,hj with
  | 0,_=>rfl
  | 1,_=>rfl) (.cons (eE λj hj=>by
  match j,hj with
  | 0,_=>rfl
  | 1,_=>rfl
  | 2,_=>rfl
  | 3,_=>rfl) .nil)))))))) hr⟩,.inl rfl⟩
theorem Au (sa ho cu on tw:Int) (h1:0<=ho) (h2:ho < 256) (h3:0<=on) (h4:on < 65536):bo wd bH φEn rEn [.int .u8 sa,.int .u8 ho,.int .u16 cu,.int .u16 on,.int .u16 tw] []:=
 a7 (V:=V0) (T:=[]) (d:=16) 0 aq ao (.n (c:=IntKind.wrap .i64 (9999 - IntKind.wrap .i64 (1+Int.tmod (IntKind.wrap .i64 on) 9998)) !=0) (FB h3 h4) (
  .n (c:=IntKind.wrap .i64 (IntKind.wrap .i64 (10000 - IntKind.wrap .i64 (Int.tmod (IntKind.wrap .i64 ho) 50*20)) - 1) !=0) (FA h1 h2) (
  .t (enP sa ho cu on tw) (Fy sa ho cu on tw) (Fx sa ho cu on tw)))) (by kernel_rfl)
noncomputable abbrev eEn:Ent:=du wd bH φEn rEn
noncomputable abbrev eUs:Ent:=du wd cn φUs rUs
end Go.WF

namespace Go.Ab
open Go Go.RowKit
def wh (oi ci sz2:Nat) (g2:Nat->List AV):Vw:=λs f=>
 match s.obj oi with
 | some (.cells cs)=>
  (match cs[ci]? with
  | some (.sl _ _ 0 _)=>f {env:=s.env,objs:=aput s.objs oi (.cells (cs.set ci (.sl .no sz2 0 g2)))}
  | _=>f s)
 | _=>f s
def vw2 (a b:Vw):Vw:=λs f=>a s λs'=>b s' f
theorem zg {a b:Vw} (ha:iB a) (hb:iB b):iB (vw2 a b):=by
 intro s f r h
 obtain ⟨s1,h1,k1⟩:=ha s (λs'=>b s' f) r h
 obtain ⟨s2,h2,k2⟩:=hb s1 f r h1
 refine ⟨s2,h2,λB c x hr hn=>?_⟩
 obtain ⟨c1,e1,r1,n1⟩:=k1 B c x hr hn
 obtain ⟨c2,e2,r2,n2⟩:=k2 B c1 x r1 n1
 exact ⟨c2,e2.trans e1,r2,n2⟩
theorem rI (oi ci sz2:Nat) (g2:Nat->List AV):iB (wh oi ci sz2 g2):=by
 intro s f r h
 unfold wh at h
 split at h
 ·rename_i cs ho
  split at h
  ·rename_i o sz g hc
   refine ⟨_,h,λB c a hr hn=>⟨c,rfl,?_,λt v ht=>hn t v ht⟩⟩
   obtain ⟨⟨⟨vs,t,hh,hvs,hv⟩,hone⟩,hI,hfr⟩:=hr.objs.rep oi _ ho
   have hci:ci < cs.length:=(List.getElem?_eq_some_iff.1 hc).1
   have hX:Rep c (.sl .no sz2 0 g2) (vs.getD ci undef):=uq (hv ci _ hc)
   have hrow:RowAt c (c.β oi) (cs.set ci (.sl .no sz2 0 g2)):=by
    refine ⟨⟨vs,t,hh,by rw [List.length_set];exact hvs,λi u hu=>?_⟩,λi u hu=>?_⟩
    ·rw [List.getElem?_set] at hu
     by_cases e:ci=i
     ·subst e;rw [if_pos rfl,if_pos hci] at hu;cases hu;exact hX
     ·rw [if_neg e] at hu;exact hv i u hu
    ·rw [List.getElem?_set] at hu
     by_cases e:ci=i
     ·subst e;rw [if_pos rfl,if_pos hci] at hu;cases hu;rfl
     ·rw [if_neg e] at hu;exact hone i u hu
   refine hr.obj (k:=oi) (o:=.cells (cs.set ci (.sl .no sz2 0 g2))) ((Keeps.refl c _).but oi) (Grow.refl hr.good) ⟨hrow,hI,hfr⟩ (λp o' b hp hne hb e=>?_) (λq hq=>?_) (λb hb=>hr.mine oi _ b ho hb)
   ·exact hr.objs.apart p o' oi _ b hp ho hne hb e
   ·have hq:q∈ak (cs.set ci (.sl .no sz2 0 g2)):=hq
    rcases mg q hq with hq | hq
    ·simp [AV.keys] at hq
    ·exact .inr (hr.objs.closed oi _ ho q hq)
  ·exact ⟨s,h,λB c a hr hn=>⟨c,rfl,hr,hn⟩⟩
 ·exact ⟨s,h,λB c a hr hn=>⟨c,rfl,hr,hn⟩⟩
end Go.Ab
namespace Go.WF
open Go Go.Ab Go.Proofs
structure VSX where
 k:Nat
 a:Nat
 b:Nat
 t:Nat
instance:Inhabited VSX:=⟨⟨0,0,0,0⟩⟩
def VSX.c (x:VSX):List AV:=[.int .u8 (x.k:Int),.int .u8 (x.a:Int),.int .u8 (x.b:Int),.int .u8 (x.t:Int)]
def vsA (l:List VSX):AV:=.sl .no 4 l.length λj=>(l.getD j default).c
def sd (p:EVP):List AV:=(dt p).cells
def nxT (n:Int) (t:Nat):Int:=IntKind.wrap .i64 (n+IntKind.wrap .i64 (1+Int.tmod (IntKind.wrap .i64 (t:Int)) 4))
structure VV where
 i:Nat
 n:Int
 r:RG
 ev:List EV
abbrev Bk:List (List Nat×Vw):=[([1,1,1,1],vw2 (wh 6 1 3 λj=>(([]:List LK).getD j default).c) (wh 6 2 7 λj=>(([]:List SL).getD j default).c))]
theorem xv:tq Bk:=kg (zg (rI _ _ _ _) (rI _ _ _ _)) ao
def HG (r:RG):Prop:=∀s∈r.ss,FdG ⟨s.layer,s.exp,s.arm⟩
theorem HG.all {r:RG} (h:HG r):Be r:=λu hu=>by
 obtain ⟨s,hs,rfl⟩:=List.mem_map.1 hu
 exact (h s hs).1
theorem at_mem {l:List LK} {y z:TX} {n:Int} {ss:List SL} (h:(atG l y z n ss).2=true):(atG l y z n ss).1∈ss:=by
 unfold atG at h ⊢
 split at h
 ·rename_i s hs;exact List.mem_of_find?_eq_some hs
 ·cases h
theorem yp {r:RG} {a:TX} {n:Int} (h:HG r):∀f∈fdF r a n,FdG f:=λf hf=>by
 unfold fdF at hf
 split at hf
 ·cases hf
 ·unfold fdO at hf
  cases e:(atF r a aB n).2 with
  | false=>rw [e] at hf;cases hf
  | true=>
   rw [e] at hf
   have hf:f=_:=List.mem_singleton.1 hf
   have:=h _ (at_mem e)
   rw [hf]
   exact ⟨rfl,this.2.1,this.2.2⟩
theorem EM (l:List SPN) (b:Int):pkF l b=0∨∃r∈l,pkF l b=r.v:=by
 unfold pkF
 split
 ·rename_i r hr;exact .inr ⟨r,List.mem_of_find?_eq_some hr,rfl⟩
 ·exact .inl rfl
theorem Dy (p:EVP) (b:Int):pkF (arms p) b=0∨pkF (arms p) b=1∨pkF (arms p) b=2∨pkF (arms p) b=3:=by
 rcases EM (arms p) b with h | ⟨r,hr,h⟩
 ·exact .inl h
 ·unfold arms at hr
  simp only [List.mem_cons,List.not_mem_nil,or_false] at hr
  rcases hr with rfl | rfl | rfl
  ·exact .inr (.inl h)
  ·exact .inr (.inr (.inl h))
  ·exact .inr (.inr (.inr h))
theorem Ah {l:List FD} {y:TX} (h:(foF l y).2=true):(foF l y).1∈l:=by
 unfold foF at h ⊢
 split at h
 ·rename_i s hs;exact List.mem_of_find?_eq_some hs
 ·cases h
theorem ya:cC []=false:=by kernel_rfl
theorem x5 {p:EVP} {a:TX} {l:List FD} {x:AG} (hl:∀f∈l,FdG f) (q:LyR p a l x) (h1:cC x.exp=true) (h2:1<=x.arm):FdG ⟨aB,x.exp,x.arm⟩:=by
 obtain ⟨ru,_,e⟩:=q
 have arm:∀b,1<=pkF (arms p) b->pkF (arms p) b=1∨pkF (arms p) b=2∨pkF (arms p) b=3:=λb hb=>by
  rcases Dy p b with h | h
  ·omega
  ·exact h
 have nil:∀ {b:Int} {h:Bool},x=AG.mk [] b 0 h->FdG ⟨aB,x.exp,x.arm⟩:=λe=>by
  rw [e] at h1
  rw [show cC (AG.mk [] _ 0 _).exp=cC [] from rfl,ya] at h1;cases h1
 unfold lyG at e
 cases c1:(bif (foF l aB).2 then bif (foF l aB).1.exp==[] then true else ru else false) with
 | true=>
  rw [c1,cond_true] at e
  have hf:(foF l aB).2=true:=by
   cases hh:(foF l aB).2 with
   | true=>rfl
   | false=>rw [hh] at c1;cases c1
  have hg:=hl _ (Ah hf)
  cases c2:(!(foF l aB).1.exp==[]) with
  | true=>rw [c2,cond_true] at e;rw [e];exact ⟨rfl,hg.2.1,hg.2.2⟩
  | false=>rw [c2,cond_false] at e;exact nil e
 | false=>
  rw [c1,cond_false] at e
  cases c2:decide (bkF p.s1 a < p.ho) with
  | true=>rw [c2,cond_true] at e;exact nil e
  | false=>
   rw [c2,cond_false] at e
   cases c3:(bif decide (p.ho<=bkF p.s1 a) then decide (bkF p.s1 a < p.c) else false) with
   | true=>
    rw [c3,cond_true] at e
    rw [e] at h2 ⊢
    exact ⟨rfl,.inl rfl,arm _ h2⟩
   | false=>
    rw [c3,cond_false] at e
    cases c4:(bif decide (p.c<=bkF p.s1 a) then decide (bkF p.s1 a < 10000) else false) with
    | true=>
     rw [c4,cond_true] at e
     rw [e] at h2 ⊢
     exact ⟨rfl,.inr rfl,arm _ h2⟩
    | false=>rw [c4,cond_false] at e;exact nil e
theorem zX {f:FR} {z:TX} {n:Int} {ss:List SL} {s:SL} (h:s∈(mgF f z n ss ss.length).1):∃s'∈ss,s.layer=s'.layer/\s.exp=s'.exp/\s.arm=s'.arm:=by
 have I:=xY f z n ss ss.length (Nat.le_refl _)
 obtain ⟨j,hj,e⟩:=List.getElem_of_mem h
 have hj':j < ss.length:=by rw [<-I.len];exact hj
 have e':(mgF f z n ss ss.length).1.getD j default=s:=by rw [List.getD_eq_getElem?_getD,List.getElem?_eq_getElem hj,e];rfl
 have hm:ss.getD j default∈ss:=by rw [List.getD_eq_getElem?_getD,List.getElem?_eq_getElem hj'];exact List.getElem_mem hj'
 rcases I.slot j with h1 | ⟨h1,_⟩
 ·rw [e'] at h1;exact ⟨_,hm,by rw [h1],by rw [h1],by rw [h1]⟩
 ·rw [e'] at h1;exact ⟨_,hm,by rw [h1];rfl,by rw [h1];rfl,by rw [h1];rfl⟩
theorem x4 {r:RG} {a b:TX} {n:Int} {x:MEX} (h:HG r) (q:MeR r a b n x) (h0:x.2.2=0):HG x.1:=by
 rcases q with ⟨e,_⟩ | ⟨e,_⟩ | ⟨_,_,e⟩ | ⟨_,_,_,_,_,e⟩
 ·omega
 ·omega
 ·rw [e];exact h
 ·rw [e]
  intro s hs
  obtain ⟨s',h1,h2,h3,h4⟩:=zX hs
  rw [h2,h3,h4];exact h s' h1
theorem Dx {r:RG} {id ax:TX} {aa:Int} {ah:Bool} {n:Int} {x:ASX} (h:HG r) (q:AsR r id aB ax aa ah n x) (h0:x.2.2=0) (hg:cC ax=true->1<=aa->FdG ⟨aB,ax,aa⟩):HG x.1:=by
 rcases q with ⟨e,_⟩ | ⟨e,_⟩ | ⟨_,e,_⟩ | ⟨_,_,_,k3,k4,_,_,e,_⟩
 ·omega
 ·omega
 ·rw [e];exact h
 ·rw [e]
  intro s hs
  rcases List.mem_append.1 hs with hs | hs
  ·exact h s hs
  ·rw [List.mem_singleton.1 hs];exact hg k3 k4
structure VvI (l:List VSX) (v:VV):Prop where
 i:v.i<=l.length
 vr:VR v.r
 now:v.r.now<=v.n
 n0:0<=v.n
 n1:v.n<=4*v.i
 ss:v.r.ss.length<=v.i
 ls:v.r.ls.length<=v.i
 ev:v.ev.length<=v.i
 lin:Lin v.r.ls (eP v.ev) v.n
 hg:HG v.r
structure VvP (l:List VSX) (o:RG×List EV):Prop where
 lin:∃n,Lin o.1.ls (eP o.2) n
 ls:o.1.ls.length<=l.length
 ev:o.2.length<=l.length
 ss:o.1.ss.length<=l.length
 vr:VR o.1
 hg:HG o.1
 now:o.1.now<=4*l.length
def VsD (l:List VSX):Prop:=∀j,(l.getD j default).a < 256/\(l.getD j default).b < 256/\(l.getD j default).t < 256
theorem B2 {n:Int} {t:Nat} (h0:0<=n) (h1:n<=1000) (ht:t < 256):nxT n t=n+1+t % 4:=by
 unfold nxT
 have e:Int.tmod (t:Int) 4=(t:Int) % 4:=Int.tmod_eq_emod_of_nonneg (by omega)
 rw [wrap_i64 (x:=(t:Int)) (by omega) (by omega),e,wrap_i64 (x:=1+(t:Int) % 4) (by omega) (by omega),wrap_i64 (by omega) (by omega)]
 omega
theorem rR {a:Nat} (h:a < 256):bo wd eQ φTX rId [.int .i64 (IntKind.wrap .i64 (a:Int))] []:=by
 rw [wrap_i64 (by omega) (by omega)];exact CG a
theorem idq {a:Nat} {os:List AO} {x:TX} (h:a < 256) (q:rId [.int .i64 (IntKind.wrap .i64 (a:Int))] os x):cC x=true:=by
 rw [wrap_i64 (by omega) (by omega)] at q
 rw [q a rfl];exact uZ a
theorem Aa {a:Nat} {os:List AO} {x:TX} (h:a < 256) (q:rId [.int .i64 (IntKind.wrap .i64 (a:Int))] os x):x.length<=400000:=by
 rw [wrap_i64 (by omega) (by omega)] at q
 rw [q a rfl]
 have:=uY a
 simp only [nQ,List.mem_cons,List.not_mem_nil,or_false] at this
 rcases this with e | e | e | e | e | e <;> rw [e] <;> decide
theorem zm {r:RG} {a b:TX} {n:Int} {x:MEX} {k:Bool} (ka:cC a=true) (kb:cC b=true) (h:(bif k then !a==b else false)=true) (q:MeR r a b n x):x.2.2=0:=by
 have hab:a≠b:=λe=>by
  subst e
  rw [beq_self_eq_true] at h
  cases k <;> cases h
 rcases q with ⟨_,e⟩ | ⟨_,e⟩ | ⟨e,_⟩ | ⟨e,_⟩
 ·rw [ka,kb] at e;cases e
 ·exact absurd e hab
 ·exact e
 ·exact e
theorem Bq {r:RG} {a b:TX} {n:Int} {x:MEX} {k:Bool} (ka:cC a=true) (kb:cC b=true) (h:(bif k then !a==b else false)=true) (q:MeR r a b n x):(x.2.2==0)=true:=beq_iff_eq.2 (zm ka kb h q)
section
variable {p:EVP} {l:List VSX} {v:VV}
theorem A5 (hl:l.length<=50) (hd:VsD l) (hv:VvI l v) (h:v.i < l.length):v.n < (nxT v.n (l.getD v.i default).t)/\(nxT v.n (l.getD v.i default).t)<=4*((v.i+1:Nat):Int)/\(nxT v.n (l.getD v.i default).t)<=1000:=by
 have h0:=hv.n0
 have h1:=hv.n1
 rw [B2 h0 (by omega) (hd v.i).2.2]
 have:(((l.getD v.i default).t:Nat):Int) % 4 < 4:=Int.emod_lt_of_pos _ (by decide)
 have:0<=(((l.getD v.i default).t:Nat):Int) % 4:=Int.emod_nonneg _ (by decide)
 omega
theorem A6 (hl:l.length<=50) (hd:VsD l) (hv:VvI l v) (h:v.i < l.length):v.r.now<=(nxT v.n (l.getD v.i default).t)/\(nxT v.n (l.getD v.i default).t)<=1099511627776:=by
 have:=A5 hl hd hv h
 have:=hv.now
 omega
theorem zn (hl:l.length<=50) (hd:VsD l) (hv:VvI l v) (h:v.i < l.length):v.r.ls.length < 64:=by have:=hv.ls;omega
theorem Bl (hl:l.length<=50) (hd:VsD l) (hv:VvI l v) (h:v.i < l.length):v.r.ss.length<=51:=by have:=hv.ss;omega
theorem zj (hl:l.length<=50) (hd:VsD l) (hv:VvI l v) (h:v.i < l.length):v.r.ss.length < 128:=by have:=hv.ss;omega
theorem Br (hl:l.length<=50) (hd:VsD l) (hv:VvI l v) (h:v.i < l.length):v.r.ls.length<=1000000:=by have:=hv.ls;omega
theorem Bm (hl:l.length<=50) (hd:VsD l) (hv:VvI l v) (h:v.i < l.length):v.r.ss.length<=1000000:=by have:=hv.ss;omega
theorem zk (hl:l.length<=50) (hd:VsD l) (hv:VvI l v) (h:v.i < l.length):(roomy 112 (List.length v.ev+1)&&Nat.beq (List.length v.ev) (List.length v.ev))=true:=bL (by have:=hv.ev;omega)
theorem Ei (l:List VSX):VvI l ⟨0,0,rg0,[]⟩:=⟨Nat.zero_le _,Bi,Int.le_refl _,Int.le_refl _,by show (0:Int)<=4*((0:Nat):Int);omega,Nat.le_refl _,Nat.le_refl _,Nat.le_refl _,x8 0,λ_ h=>(List.not_mem_nil h).elim⟩
theorem Ee (hl:l.length<=50) (hv:VvI l v):VvP l (v.r,v.ev):=⟨⟨_,hv.lin⟩,by have:=hv.ls;have:=hv.i;show v.r.ls.length<=l.length;omega,by have:=hv.ev;have:=hv.i;show v.ev.length<=l.length;omega,by have:=hv.ss;have:=hv.i;show v.r.ss.length<=l.length;omega,hv.vr,hv.hg,by have:=hv.now;have:=hv.n1;have:=hv.i;show v.r.now<=4*(l.length:Int);omega⟩
theorem Eh (hl:l.length<=50) (hd:VsD l) (hv:VvI l v) (h:v.i < l.length) {a b:TX} {x:MEX} {c:TX} {s:Int} (q:MeR v.r a b (nxT v.n (l.getD v.i default).t) x) (h0:x.2.2=0):VvI l ⟨v.i+1,(nxT v.n (l.getD v.i default).t),x.1,v.ev++[⟨c,s,3,(nxT v.n (l.getD v.i default).t),a,[],b,0,0,0⟩]⟩:=by
 obtain ⟨x1,x2,x3⟩:=A5 hl hd hv h
 obtain ⟨y1,y2,y3,y4⟩:=wm hv.vr (A6 hl hd hv h) (zn hl hd hv h) q h0
 have n0:=hv.n0
 have g1:=hv.ss
 have g2:=hv.ls
 have g3:=hv.ev
 refine ⟨h,y1,Int.le_of_eq y2,by show 0<=(nxT v.n (l.getD v.i default).t);omega,x2,by show x.1.ss.length<=v.i+1;omega,?_,by show (v.ev++[_]).length<=v.i+1;simp;omega,?_,x4 hv.hg q h0⟩
 ·show x.1.ls.length<=v.i+1
  rcases y4 with ⟨_,e⟩ | ⟨_,e⟩
  ·rw [e];omega
  ·rw [e];simp;omega
 ·show Lin x.1.ls (eP (v.ev++[_])) _
  rw [pf _ _ rfl]
  rcases y4 with ⟨he,e⟩ | ⟨_,e⟩
  ·rw [e];exact hv.lin.skip (Int.le_of_lt x1) he
  ·rw [e];exact hv.lin.both (Int.le_of_lt x1) a b
theorem Eg (hl:l.length<=50) (hd:VsD l) (hv:VvI l v) (h:v.i < l.length):VvI l ⟨v.i+1,(nxT v.n (l.getD v.i default).t),v.r,v.ev⟩:=by
 obtain ⟨x1,x2,x3⟩:=A5 hl hd hv h
 have n0:=hv.n0
 have g1:=hv.ss
 have g2:=hv.ls
 have g3:=hv.ev
 have g4:=hv.now
 exact ⟨h,hv.vr,by show v.r.now<=(nxT v.n (l.getD v.i default).t);omega,by show 0<=(nxT v.n (l.getD v.i default).t);omega,x2,Nat.le_succ_of_le g1,Nat.le_succ_of_le g2,Nat.le_succ_of_le g3,hv.lin.mono (Int.le_of_lt x1),hv.hg⟩
theorem Ef (hl:l.length<=50) (hd:VsD l) (hv:VvI l v) (h:v.i < l.length) {id ax:TX} {aa:Int} {ah:Bool} {x:ASX} {e:EV} (q:AsR v.r id aB ax aa ah (nxT v.n (l.getD v.i default).t) x) (h0:(x.2.2 !=0)=false) (hg:cC ax=true->1<=aa->FdG ⟨aB,ax,aa⟩) (he:e.kind=1:=by rfl):VvI l ⟨v.i+1,(nxT v.n (l.getD v.i default).t),x.1,v.ev++[e]⟩:=by
 obtain ⟨x1,x2,x3⟩:=A5 hl hd hv h
 obtain ⟨y1,y2,y3,y4⟩:=Du hv.vr (A6 hl hd hv h) (zj hl hd hv h) q (by simpa using h0)
 have n0:=hv.n0
 have g1:=hv.ss
 have g2:=hv.ls
 have g3:=hv.ev
 refine ⟨h,y1,Int.le_of_eq y2,by show 0<=(nxT v.n (l.getD v.i default).t);omega,x2,by show x.1.ss.length<=v.i+1;omega,by show x.1.ls.length<=v.i+1;rw [y3];omega,by show (v.ev++[_]).length<=v.i+1;simp;omega,?_,Dx hv.hg q (by simpa using h0) hg⟩
 show Lin x.1.ls (eP (v.ev++[_])) _
 rw [nN _ _ (by rw [he];decide),y3]
 exact hv.lin.mono (Int.le_of_lt x1)
theorem Bs {r:RG} {a:TX} {n:Int} {x:List FD} (h:HG r) (q:FdP r a n x):∀f∈x,FdG f:=by
 rw [q.2 h.all];exact yp h
theorem tF {a y:TX} {os:List AO} (h:a.length<=400000) (q:rUs [.str a] os y):y.length<=400000:=by
 rw [q a rfl];exact h
theorem Bp (hl:l.length<=50) (hd:VsD l) (hv:VvI l v) (h:v.i < l.length) {r2 r3:TX} {r5:MEX}:{env:=[(1,vsA l),(2,.ref 2 0),(4,.ref 4 0),(6,.ref 6 0),(7,.sl (.key 79) 10 (List.length (VV.ev v)+1) (ay (List.length (VV.ev v)) 1 (λj=>(List.getD (VV.ev v) j default).c) (ai [.str [],.int .i64 0,.int .i64 0,.int .i64 0,.str [],.str [],.str [],.int .i64 0,.int .i64 0,.int .i64 0] [(0,.agg [.str [119,101,98],.int .i64 (IntKind.wrap .i64 ((↑(VV.i v):Int)+1)),.int .i64 3,.int .i64 (IntKind.wrap .i64 (VV.n v+IntKind.wrap .i64 (1+Int.tmod (IntKind.wrap .i64 (↑(VSX.t (List.getD l (VV.i v) default)):Int)) 4))),.str r2,.str [],.str r3,.int .i64 0,.int .i64 0,.int .i64 0])]))),(8,.int .i64 (IntKind.wrap .i64 (VV.n v+IntKind.wrap .i64 (1+Int.tmod (IntKind.wrap .i64 (↑(VSX.t (List.getD l (VV.i v) default)):Int)) 4)))),(9,.int .i64 (IntKind.wrap .i64 ((↑(VV.i v):Int)+1)))],objs:=[(2,.cells (sd p)),(4,.cells [.int .i64 0,.sl .fit 0 0 λx=>[],.sl .fit 0 0 λx=>[] ]),(6,.cells (RG.c r5.1)),(79,.own 10 (List.length (VV.ev v)+1))]}=(λv:VV=>({env:=[(1,vsA l),(2,.ref 2 0),(4,.ref 4 0),(6,.ref 6 0),(7,.sl (.key 79) 10 v.ev.length λj=>(v.ev.getD j default).c),(8,.int .i64 v.n),(9,.int .i64 (v.i:Int))],objs:=[(2,.cells (sd p)),(4,.cells [.int .i64 0,.sl .fit 0 0 λx=>[],.sl .fit 0 0 λx=>[] ]),(6,.cells v.r.c),(79,.own 10 v.ev.length)]}:St)) ⟨v.i+1,(nxT v.n (l.getD v.i default).t),r5.1,v.ev++[(⟨[119,101,98],IntKind.wrap .i64 ((v.i:Int)+1),3,(nxT v.n (l.getD v.i default).t),r2,[],r3,0,0,0⟩)]⟩:=by
 rw [mJ EV.c v.ev (⟨[119,101,98],IntKind.wrap .i64 ((v.i:Int)+1),3,(nxT v.n (l.getD v.i default).t),r2,[],r3,0,0,0⟩) (ai [.str [],.int .i64 0,.int .i64 0,.int .i64 0,.str [],.str [],.str [],.int .i64 0,.int .i64 0,.int .i64 0] [(0,.agg [.str [119,101,98],.int .i64 (IntKind.wrap .i64 ((↑(VV.i v):Int)+1)),.int .i64 3,.int .i64 (IntKind.wrap .i64 (VV.n v+IntKind.wrap .i64 (1+Int.tmod (IntKind.wrap .i64 (↑(VSX.t (List.getD l (VV.i v) default)):Int)) 4))),.str r2,.str [],.str r3,.int .i64 0,.int .i64 0,.int .i64 0])]) rfl]
 show _=({env:=[(1,vsA l),(2,.ref 2 0),(4,.ref 4 0),(6,.ref 6 0),(7,.sl (.key 79) 10 (v.ev++[(⟨[119,101,98],IntKind.wrap .i64 ((v.i:Int)+1),3,(nxT v.n (l.getD v.i default).t),r2,[],r3,0,0,0⟩:EV)]).length λj=>((v.ev++[(⟨[119,101,98],IntKind.wrap .i64 ((v.i:Int)+1),3,(nxT v.n (l.getD v.i default).t),r2,[],r3,0,0,0⟩:EV)]).getD j default).c),(8,.int .i64 (nxT v.n (l.getD v.i default).t)),(9,.int .i64 ((v.i+1:Nat):Int))],objs:=[(2,.cells (sd p)),(4,.cells [.int .i64 0,.sl .fit 0 0 λx=>[],.sl .fit 0 0 λx=>[] ]),(6,.cells r5.1.c),(79,.own 10 (v.ev++[(⟨[119,101,98],IntKind.wrap .i64 ((v.i:Int)+1),3,(nxT v.n (l.getD v.i default).t),r2,[],r3,0,0,0⟩:EV)]).length)]}:St)
 rw [show (v.ev++[((⟨[119,101,98],IntKind.wrap .i64 ((v.i:Int)+1),3,(nxT v.n (l.getD v.i default).t),r2,[],r3,0,0,0⟩):EV)]).length=v.ev.length+1 by simp,c8 (by omega)]
 rfl
theorem Bo (hl:l.length<=50) (hd:VsD l) (hv:VvI l v) (h:v.i < l.length):{env:=[(1,vsA l),(2,.ref 2 0),(4,.ref 4 0),(6,.ref 6 0),(7,.sl (.key 79) 10 (List.length (VV.ev v)) λj=>(List.getD (VV.ev v) j default).c),(8,.int .i64 (IntKind.wrap .i64 (VV.n v+IntKind.wrap .i64 (1+Int.tmod (IntKind.wrap .i64 (↑(VSX.t (List.getD l (VV.i v) default)):Int)) 4)))),(9,.int .i64 (IntKind.wrap .i64 ((↑(VV.i v):Int)+1)))],objs:=[(2,.cells (sd p)),(4,.cells [.int .i64 0,.sl .fit 0 0 λx=>[],.sl .fit 0 0 λx=>[] ]),(6,.cells (RG.c (VV.r v))),(79,.own 10 (List.length (VV.ev v)))]}=(λv:VV=>({env:=[(1,vsA l),(2,.ref 2 0),(4,.ref 4 0),(6,.ref 6 0),(7,.sl (.key 79) 10 v.ev.length λj=>(v.ev.getD j default).c),(8,.int .i64 v.n),(9,.int .i64 (v.i:Int))],objs:=[(2,.cells (sd p)),(4,.cells [.int .i64 0,.sl .fit 0 0 λx=>[],.sl .fit 0 0 λx=>[] ]),(6,.cells v.r.c),(79,.own 10 v.ev.length)]}:St)) ⟨v.i+1,(nxT v.n (l.getD v.i default).t),v.r,v.ev⟩:=by
 rw [c8 (by omega)]
 rfl
theorem Bn (hl:l.length<=50) (hd:VsD l) (hv:VvI l v) (h:v.i < l.length) {r2:TX} {r10:ASX}:{env:=[(1,vsA l),(2,.ref 2 0),(4,.ref 4 0),(6,.ref 6 0),(7,.sl (.key 79) 10 (List.length (VV.ev v)+1) (ay (List.length (VV.ev v)) 1 (λj=>(List.getD (VV.ev v) j default).c) (ai [.str [],.int .i64 0,.int .i64 0,.int .i64 0,.str [],.str [],.str [],.int .i64 0,.int .i64 0,.int .i64 0] [(0,.agg [.str [119,101,98],.int .i64 (IntKind.wrap .i64 ((↑(VV.i v):Int)+1)),.int .i64 1,.int .i64 (IntKind.wrap .i64 (VV.n v+IntKind.wrap .i64 (1+Int.tmod (IntKind.wrap .i64 (↑(VSX.t (List.getD l (VV.i v) default)):Int)) 4))),.str r2,.str (SL.exp r10.2.1),.str [],.int .i64 1,.int .i64 (SL.arm r10.2.1),.int .i64 0])]))),(8,.int .i64 (IntKind.wrap .i64 (VV.n v+IntKind.wrap .i64 (1+Int.tmod (IntKind.wrap .i64 (↑(VSX.t (List.getD l (VV.i v) default)):Int)) 4)))),(9,.int .i64 (IntKind.wrap .i64 ((↑(VV.i v):Int)+1)))],objs:=[(2,.cells (sd p)),(4,.cells [.int .i64 0,.sl .fit 0 0 λx=>[],.sl .fit 0 0 λx=>[] ]),(6,.cells (RG.c r10.1)),(79,.own 10 (List.length (VV.ev v)+1))]}=(λv:VV=>({env:=[(1,vsA l),(2,.ref 2 0),(4,.ref 4 0),(6,.ref 6 0),(7,.sl (.key 79) 10 v.ev.length λj=>(v.ev.getD j default).c),(8,.int .i64 v.n),(9,.int .i64 (v.i:Int))],objs:=[(2,.cells (sd p)),(4,.cells [.int .i64 0,.sl .fit 0 0 λx=>[],.sl .fit 0 0 λx=>[] ]),(6,.cells v.r.c),(79,.own 10 v.ev.length)]}:St)) ⟨v.i+1,(nxT v.n (l.getD v.i default).t),r10.1,v.ev++[(⟨[119,101,98],IntKind.wrap .i64 ((v.i:Int)+1),1,(nxT v.n (l.getD v.i default).t),r2,r10.2.1.exp,[],1,r10.2.1.arm,0⟩)]⟩:=by
 rw [mJ EV.c v.ev (⟨[119,101,98],IntKind.wrap .i64 ((v.i:Int)+1),1,(nxT v.n (l.getD v.i default).t),r2,r10.2.1.exp,[],1,r10.2.1.arm,0⟩) (ai [.str [],.int .i64 0,.int .i64 0,.int .i64 0,.str [],.str [],.str [],.int .i64 0,.int .i64 0,.int .i64 0] [(0,.agg [.str [119,101,98],.int .i64 (IntKind.wrap .i64 ((↑(VV.i v):Int)+1)),.int .i64 1,.int .i64 (IntKind.wrap .i64 (VV.n v+IntKind.wrap .i64 (1+Int.tmod (IntKind.wrap .i64 (↑(VSX.t (List.getD l (VV.i v) default)):Int)) 4))),.str r2,.str (SL.exp r10.2.1),.str [],.int .i64 1,.int .i64 (SL.arm r10.2.1),.int .i64 0])]) rfl]
 show _=({env:=[(1,vsA l),(2,.ref 2 0),(4,.ref 4 0),(6,.ref 6 0),(7,.sl (.key 79) 10 (v.ev++[(⟨[119,101,98],IntKind.wrap .i64 ((v.i:Int)+1),1,(nxT v.n (l.getD v.i default).t),r2,r10.2.1.exp,[],1,r10.2.1.arm,0⟩:EV)]).length λj=>((v.ev++[(⟨[119,101,98],IntKind.wrap .i64 ((v.i:Int)+1),1,(nxT v.n (l.getD v.i default).t),r2,r10.2.1.exp,[],1,r10.2.1.arm,0⟩:EV)]).getD j default).c),(8,.int .i64 (nxT v.n (l.getD v.i default).t)),(9,.int .i64 ((v.i+1:Nat):Int))],objs:=[(2,.cells (sd p)),(4,.cells [.int .i64 0,.sl .fit 0 0 λx=>[],.sl .fit 0 0 λx=>[] ]),(6,.cells r10.1.c),(79,.own 10 (v.ev++[(⟨[119,101,98],IntKind.wrap .i64 ((v.i:Int)+1),1,(nxT v.n (l.getD v.i default).t),r2,r10.2.1.exp,[],1,r10.2.1.arm,0⟩:EV)]).length)]}:St)
 rw [show (v.ev++[((⟨[119,101,98],IntKind.wrap .i64 ((v.i:Int)+1),1,(nxT v.n (l.getD v.i default).t),r2,r10.2.1.exp,[],1,r10.2.1.arm,0⟩):EV)]).length=v.ev.length+1 by simp,c8 (by omega)]
 rfl
end
theorem xx (p:EVP) (l:List VSX) (hp:p.Ok) (hl:l.length<=50) (hd:VsD l):∃ (u:St->Bool) (w:St->RG×List EV),(∀v:VV,VvI l v->cg u w ((λv:VV=>({env:=[(1,vsA l),(2,.ref 2 0),(4,.ref 4 0),(6,.ref 6 0),(7,.sl (.key 79) 10 v.ev.length λj=>(v.ev.getD j default).c),(8,.int .i64 v.n),(9,.int .i64 (v.i:Int))],objs:=[(2,.cells (sd p)),(4,.cells [.int .i64 0,.sl .fit 0 0 λx=>[],.sl .fit 0 0 λx=>[] ]),(6,.cells v.r.c),(79,.own 10 v.ev.length)]}:St)) v) (VvP l))/\∀C:List (List Nat×Orc),bW (V0.run [eId,eUs,eMe,eFd,eLy,eAs] 1 [] C Bk bN) bN [1,1,1,1,0,1,0] (mkO u w (λ(t:RG×List EV) k=>k (.exit 0) {env:=[(4,.ref 4 0),(6,.ref 6 0),(7,.sl (.key 79) 10 t.2.length λj=>(t.2.getD j default).c)],objs:=[(4,.cells [.int .i64 0,.sl .fit 0 0 λx=>[],.sl .fit 0 0 λx=>[] ]),(6,.cells t.1.c),(79,.own 10 t.2.length)]})):=
 c6 (V:=V0) (T:=[eId,eUs,eMe,eFd,eLy,eAs]) (d:=1) (W:=Bk) (f:=bN) (p:=[1,1,1,1,0,1,0]) (Lf:=λL=>L) (λv:VV=>{env:=[(1,vsA l),(2,.ref 2 0),(4,.ref 4 0),(6,.ref 6 0),(7,.sl (.key 79) 10 v.ev.length λj=>(v.ev.getD j default).c),(8,.int .i64 v.n),(9,.int .i64 (v.i:Int))],objs:=[(2,.cells (sd p)),(4,.cells [.int .i64 0,.sl .fit 0 0 λx=>[],.sl .fit 0 0 λx=>[] ]),(6,.cells v.r.c),(79,.own 10 v.ev.length)]}) (VvI l) (λv=>l.length - v.i) (λ(t:RG×List EV) k=>k (.exit 0) {env:=[(4,.ref 4 0),(6,.ref 6 0),(7,.sl (.key 79) 10 t.2.length λj=>(t.2.getD j default).c)],objs:=[(4,.cells [.int .i64 0,.sl .fit 0 0 λx=>[],.sl .fit 0 0 λx=>[] ]),(6,.cells t.1.c),(79,.own 10 t.2.length)]}) (VvP l) (by kernel_rfl) (λv hv=>.b (decide ((↑(VV.i v):Int) < (↑(List.length l):Int))) (λh1=>
   .n (c:=within (↑(VV.i v):Int) (List.length l)) (bJ (bF h1)) (
   .call (rR (hd v.i).1) λr2 q2=>
   .call (rR (hd v.i).2.1) λr3 q3=>
   .b (bif Int.tmod (↑(VSX.k (List.getD l (VV.i v) default)):Int) 4==0 then !r2==r3 else false) (λh4=>
    .call (zZ v.r r2 r3 (nxT v.n (l.getD v.i default).t) hv.vr (A6 hl hd hv (bF h1)) (zn hl hd hv (bF h1)) (Bl hl hd hv (bF h1))) λr5 q5=>
    .yea (c:=r5.2.2==0) (B:=λ_ k kn=>cond (roomy 112 (List.length (VV.ev v)+1)&&Nat.beq (List.length (VV.ev v)) (List.length (VV.ev v))) (kn ({env:=[(1,vsA l),(2,.ref 2 0),(4,.ref 4 0),(6,.ref 6 0),(7,.sl (.key 79) 10 (List.length (VV.ev v)+1) (ay (List.length (VV.ev v)) 1 (λj=>(List.getD (VV.ev v) j default).c) (ai [.str [],.int .i64 0,.int .i64 0,.int .i64 0,.str [],.str [],.str [],.int .i64 0,.int .i64 0,.int .i64 0] [(0,.agg [.str [119,101,98],.int .i64 (IntKind.wrap .i64 ((↑(VV.i v):Int)+1)),.int .i64 3,.int .i64 (IntKind.wrap .i64 (VV.n v+IntKind.wrap .i64 (1+Int.tmod (IntKind.wrap .i64 (↑(VSX.t (List.getD l (VV.i v) default)):Int)) 4))),.str r2,.str [],.str r3,.int .i64 0,.int .i64 0,.int .i64 0])]))),(8,.int .i64 (IntKind.wrap .i64 (VV.n v+IntKind.wrap .i64 (1+Int.tmod (IntKind.wrap .i64 (↑(VSX.t (List.getD l (VV.i v) default)):Int)) 4)))),(9,.int .i64 (IntKind.wrap .i64 ((↑(VV.i v):Int)+1)))],objs:=[(2,.cells (sd p)),(4,.cells [.int .i64 0,.sl .fit 0 0 λx=>[],.sl .fit 0 0 λx=>[] ]),(6,.cells (RG.c (VV.r v))),(79,.own 10 (List.length (VV.ev v)+1))]})) (none)) (Bq (idq (hd v.i).1 q2) (idq (hd v.i).2.1 q3) h4 (q5 _ _ _ _ rfl)) (
    .n (c:=roomy 112 (List.length (VV.ev v)+1)&&Nat.beq (List.length (VV.ev v)) (List.length (VV.ev v))) (zk hl hd hv (bF h1)) (
    .go {env:=[(1,vsA l),(2,.ref 2 0),(4,.ref 4 0),(6,.ref 6 0),(7,.sl (.key 79) 10 (List.length (VV.ev v)+1) (ay (List.length (VV.ev v)) 1 (λj=>(List.getD (VV.ev v) j default).c) (ai [.str [],.int .i64 0,.int .i64 0,.int .i64 0,.str [],.str [],.str [],.int .i64 0,.int .i64 0,.int .i64 0] [(0,.agg [.str [119,101,98],.int .i64 (IntKind.wrap .i64 ((↑(VV.i v):Int)+1)),.int .i64 3,.int .i64 (IntKind.wrap .i64 (VV.n v+IntKind.wrap .i64 (1+Int.tmod (IntKind.wrap .i64 (↑(VSX.t (List.getD l (VV.i v) default)):Int)) 4))),.str r2,.str [],.str r3,.int .i64 0,.int .i64 0,.int .i64 0])]))),(8,.int .i64 (IntKind.wrap .i64 (VV.n v+IntKind.wrap .i64 (1+Int.tmod (IntKind.wrap .i64 (↑(VSX.t (List.getD l (VV.i v) default)):Int)) 4)))),(9,.int .i64 (IntKind.wrap .i64 ((↑(VV.i v):Int)+1)))],objs:=[(2,.cells (sd p)),(4,.cells [.int .i64 0,.sl .fit 0 0 λx=>[],.sl .fit 0 0 λx=>[] ]),(6,.cells (RG.c r5.1)),(79,.own 10 (List.length (VV.ev v)+1))]} ⟨v.i+1,(nxT v.n (l.getD v.i default).t),r5.1,v.ev++[⟨[119,101,98],IntKind.wrap .i64 ((v.i:Int)+1),3,(nxT v.n (l.getD v.i default).t),r2,[],r3,0,0,0⟩]⟩ (Eh hl hd hv (bF h1) (q5 _ _ _ _ rfl) (zm (idq (hd v.i).1 q2) (idq (hd v.i).2.1 q3) h4 (q5 _ _ _ _ rfl))) (o9 (bF h1)) (Bp hl hd hv (bF h1))))) λh4=>
   .call (su r2) λr7 q7=>
   .call (Al v.r r2 (nxT v.n (l.getD v.i default).t) hv.vr (Br hl hd hv (bF h1)) (Bm hl hd hv (bF h1))) λr8 q8=>
   .call (Cq p r7 r8 hp (tF (Aa (hd v.i).1 q2) q7) (q8 _ _ _ rfl).1) λr9 q9=>
   .call (A0 v.r r2 aB r9.exp r9.bk r9.arm r9.held (nxT v.n (l.getD v.i default).t) hv.vr (A6 hl hd hv (bF h1)) (zj hl hd hv (bF h1))) λr10 q10=>
   .b (r10.2.2 !=0) (λh11=>
    .go {env:=[(1,vsA l),(2,.ref 2 0),(4,.ref 4 0),(6,.ref 6 0),(7,.sl (.key 79) 10 (List.length (VV.ev v)) λj=>(List.getD (VV.ev v) j default).c),(8,.int .i64 (IntKind.wrap .i64 (VV.n v+IntKind.wrap .i64 (1+Int.tmod (IntKind.wrap .i64 (↑(VSX.t (List.getD l (VV.i v) default)):Int)) 4)))),(9,.int .i64 (IntKind.wrap .i64 ((↑(VV.i v):Int)+1)))],objs:=[(2,.cells (sd p)),(4,.cells [.int .i64 0,.sl .fit 0 0 λx=>[],.sl .fit 0 0 λx=>[] ]),(6,.cells (RG.c (VV.r v))),(79,.own 10 (List.length (VV.ev v)))]} ⟨v.i+1,(nxT v.n (l.getD v.i default).t),v.r,v.ev⟩ (Eg hl hd hv (bF h1)) (o9 (bF h1)) (Bo hl hd hv (bF h1))) λh11=>
   .n (c:=roomy 112 (List.length (VV.ev v)+1)&&Nat.beq (List.length (VV.ev v)) (List.length (VV.ev v))) (zk hl hd hv (bF h1)) (
   .go {env:=[(1,vsA l),(2,.ref 2 0),(4,.ref 4 0),(6,.ref 6 0),(7,.sl (.key 79) 10 (List.length (VV.ev v)+1) (ay (List.length (VV.ev v)) 1 (λj=>(List.getD (VV.ev v) j default).c) (ai [.str [],.int .i64 0,.int .i64 0,.int .i64 0,.str [],.str [],.str [],.int .i64 0,.int .i64 0,.int .i64 0] [(0,.agg [.str [119,101,98],.int .i64 (IntKind.wrap .i64 ((↑(VV.i v):Int)+1)),.int .i64 1,.int .i64 (IntKind.wrap .i64 (VV.n v+IntKind.wrap .i64 (1+Int.tmod (IntKind.wrap .i64 (↑(VSX.t (List.getD l (VV.i v) default)):Int)) 4))),.str r2,.str (SL.exp r10.2.1),.str [],.int .i64 1,.int .i64 (SL.arm r10.2.1),.int .i64 0])]))),(8,.int .i64 (IntKind.wrap .i64 (VV.n v+IntKind.wrap .i64 (1+Int.tmod (IntKind.wrap .i64 (↑(VSX.t (List.getD l (VV.i v) default)):Int)) 4)))),(9,.int .i64 (IntKind.wrap .i64 ((↑(VV.i v):Int)+1)))],objs:=[(2,.cells (sd p)),(4,.cells [.int .i64 0,.sl .fit 0 0 λx=>[],.sl .fit 0 0 λx=>[] ]),(6,.cells (RG.c r10.1)),(79,.own 10 (List.length (VV.ev v)+1))]} ⟨v.i+1,(nxT v.n (l.getD v.i default).t),r10.1,v.ev++[⟨[119,101,98],IntKind.wrap .i64 ((v.i:Int)+1),1,(nxT v.n (l.getD v.i default).t),r2,r10.2.1.exp,[],1,r10.2.1.arm,0⟩]⟩ (Ef hl hd hv (bF h1) (q10 _ _ _ _ _ _ _ _ rfl) h11 (x5 (Bs hv.hg (q8 _ _ _ rfl)) (q9 p r7 r8 rfl))) (o9 (bF h1)) (Bn hl hd hv (bF h1))))) λh1=>
  .fi (v.r,v.ev) (Ee hl hv)) (λv L k kn=>by kernel_rfl)
def φVi (x:RG×List EV):AV×List AO:=(.tup [rgA x.1,evA x.2],[])
def rVi (A:List AV) (_:List AO) (x:RG×List EV):Prop:=∃e l,A=[e,vsA l]/\VvP l x
theorem Bt (p:EVP) (l:List VSX) (hp:p.Ok) (hl:l.length<=50) (hd:VsD l):bo wd bN φVi rVi [dt p,vsA l] []:=by
 obtain ⟨u,w,hu,hc⟩:=xx p l hp hl hd
 exact a7 (V:=V0) (T:=[eId,eUs,eMe,eFd,eLy,eAs]) (d:=1) 0 (aZ (hc _) aq) xv (.lp (hu ⟨0,0,rg0,[]⟩ (Ei l)) λr1 q1=>
  .r r1 ⟨_,_,rfl,q1⟩) (by kernel_rfl)
noncomputable abbrev eVi:Ent:=du wd bN φVi rVi
end Go.WF

namespace Go.Ab
open Go Go.RowKit Go.ChangeShapes
mutual
def iV {H:Type}:DataW H->Nat
 | .lit (.string bytes)=>bytes.length+1
 | .lit _=>1
 | .nil=>1
 | .ptr d=>iV d+1
 | .slice elems spare=>j4 elems+j4 spare+1
 | .agg parts=>j4 parts+1
 | .iface _ d=>iV d+1
 | .map entries=>AP entries+1
 | .held _=>1
def j4 {H:Type}:List (DataW H)->Nat
 | []=>0
 | d::r=>iV d+j4 r
def AP {H:Type}:List (Lit×DataW H)->Nat
 | []=>0
 | x::r=>Dl x+AP r
def Dl {H:Type}:Lit×DataW H->Nat
 | (.string bytes,d)=>bytes.length+iV d+1
 | (_,d)=>iV d+1
end
theorem vu {H:Type} (d:DataW H):1<=iV d:=by
 cases d with
 | lit l=>cases l <;> simp [iV]
 | _=>simp [iV]
theorem pI {H:Type}:∀l:List (DataW H),l.length<=j4 l
 | []=>by simp [j4]
 | d::r=>by have:=vu d;have:=pI r;simp only [List.length_cons,j4];omega
theorem si {H:Type}:∀ {l:List (DataW H)} {i:Nat} {d:DataW H},l[i]?=some d->iV d<=j4 l
 | [],_,_,h=>by simp at h
 | e::r,0,d,h=>by simp at h;subst h;simp only [j4];omega
 | e::r,i+1,d,h=>by have:=si (l:=r) (i:=i) (by simpa using h);simp only [j4];omega
structure CellsR (c:Cx) (us:List AV) (vs:List Value):Prop where
 len:vs.length=us.length
 one:∀u∈us,u.one=true/\u.keys=[]
 rep:∀ (i:Nat) (u:AV),us[i]?=some u->Rep c u (vs.getD i undef)
theorem jR:∀ {us:List AV},(∀u∈us,u.keys=[])->ak us=[]
 | [],_=>rfl
 | u::r,h=>by rw [ak,h u (by simp),jR λv hv=>h v (List.mem_cons_of_mem _ hv)];rfl
theorem CellsR.nil (c:Cx):CellsR c [] []:=⟨rfl,λ_ h=>by simp at h,λi u h=>by simp at h⟩
theorem CellsR.append {c:Cx} {us us':List AV} {vs vs':List Value} (h:CellsR c us vs) (h':CellsR c us' vs'):CellsR c (us++us') (vs++vs'):=by
 refine ⟨by simp [h.len,h'.len],λu hu=>?_,λi u hu=>?_⟩
 ·rcases List.mem_append.1 hu with hu | hu
  ·exact h.one u hu
  ·exact h'.one u hu
 ·by_cases hi:i < us.length
  ·rw [List.getElem?_append_left hi] at hu
   have:=h.rep i u hu
   rw [List.getD_eq_getElem?_getD] at this ⊢
   rwa [List.getElem?_append_left (by rw [h.len];exact hi)]
  ·rw [List.getElem?_append_right (by omega)] at hu
   have:=h'.rep _ u hu
   rw [List.getD_eq_getElem?_getD] at this ⊢
   rw [List.getElem?_append_right (by rw [h.len];omega),h.len]
   exact this
theorem CellsR.xV {c:Cx} {u:AV} {v:Value} (h1:u.one=true) (h2:u.keys=[]) (h:Rep c u v):CellsR c [u] [v]:=
 ⟨rfl,λx hx=>by simp at hx;subst hx;exact ⟨h1,h2⟩,λi x hx=>by
  cases i with
  | zero=>simp at hx;subst hx;exact h
  | succ i=>simp at hx⟩
theorem CellsR.agg {c:Cx} {us:List AV} {vs:Array Value} (h:CellsR c us vs.toList):Rep c (.agg us) (.agg vs)/\(AV.agg us).keys=[]:=by
 refine ⟨.agg _ _ (by simpa using h.len) (λi u hu=>(h.one u (List.mem_of_getElem? hu)).1) (λi u hu=>?_),?_⟩
 ·have:=h.rep i u hu
  rw [List.getD_eq_getElem?_getD] at this
  rw [Array.getD_eq_getD_getElem?]
  simpa using this
 ·simp only [AV.keys]
  exact jR λu hu=>(h.one u hu).2
section
variable {H:Type} (enc:TypeId×Value->H) (P:Program) (w:World) (N:Nat)
variable {α β:Type}
def Reads (n:Nat) (t:TypeId) (cl:α->List AV) (Ok:α->Prop):Prop:=
 ∀cs x,DataW.trod enc P w 0 (λ_=>true) true n t cs=some x->iV x.1<=N->∃a,CellsR (cN w) (cl a) cs/\Ok a
def sm (n:Nat) (fs:List Field) (off len:Nat) (cl:α->List AV) (Ok:α->Prop):Prop:=
 ∀ (cs:List Value) (xs:List (DataW H×List MemPlace)),xs.length=fs.length->off+len<=cs.length->
  (∀ (i:Nat) (f:Field),fs[i]?=some f->DataW.trod enc P w 0 (λ_=>true) true n f.type ((cs.drop f.offset).take (P.cellsOf f.type))=xs[i]?)->
  j4 (xs.map (·.1))<=N->∃a,CellsR (cN w) (cl a) ((cs.drop off).take len)/\Ok a
variable {enc P w N}
theorem Reads.map {n:Nat} {t:TypeId} {cl:α->List AV} {Ok:α->Prop} {cl':β->List AV} {Ok':β->Prop} (h:Reads enc P w N n t cl Ok) (g:α->β) (hc:∀a,cl' (g a)=cl a) (ho:∀a,Ok a->Ok' (g a)):Reads enc P w N n t cl' Ok':=λcs x hx hb=>by
 obtain ⟨a,h1,h2⟩:=h cs x hx hb
 exact ⟨g a,by rw [hc];exact h1,ho a h2⟩
theorem uv {n:Nat} {t:TypeId} {k:IntKind} (ht:P.underlying t=some (.int k)):Reads enc P w N n t (λz:Int=>[.int k z]) (λz=>(Lit.int k z).wf=true):=λcs x hx hb=>by
 obtain ⟨z,rfl,rfl,hw⟩:=DataW.trod_int ht hx
 exact ⟨z,.xV rfl rfl (.int _ _),hw⟩
theorem sL {n off:Nat}:sm enc P w N n [] off 0 (λ_:Unit=>[]) (λ_=>True):=λcs xs _ _ _ _=>⟨(),by rw [List.take_zero];exact .nil _,trivial⟩
theorem gq {n off n1 n2:Nat} {f:Field} {fs:List Field} {cl1:α->List AV} {Ok1:α->Prop} {cl2:β->List AV} {Ok2:β->Prop} (h1:Reads enc P w N n f.type cl1 Ok1) (ho:f.offset=off) (hn:P.cellsOf f.type=n1)
  (h2:sm enc P w N n fs (off+n1) n2 cl2 Ok2):sm enc P w N n (f::fs) off (n1+n2) (λp:α×β=>cl1 p.1++cl2 p.2) (λp=>Ok1 p.1/\Ok2 p.2):=λcs xs hl hlen hx hb=>by
 cases xs with
 | nil=>simp at hl
 | cons x xs=>
  simp only [List.map_cons,j4] at hb
  have hx0:=hx 0 f rfl
  rw [ho,hn] at hx0
  obtain ⟨a,e1,e2⟩:=h1 _ x (by simpa using hx0) (by omega)
  obtain ⟨b,g1,g2⟩:=h2 cs xs (by simpa using hl) (by omega) (λi f' hf=>by simpa using hx (i+1) f' (by simpa using hf)) (by omega)
  refine ⟨(a,b),?_,e2,g2⟩
  rw [List.take_add,List.drop_drop]
  exact e1.append g1
theorem oV {n:Nat} {t:TypeId} {fs:Array Field} {sz:Nat} {cl:α->List AV} {Ok:α->Prop} (ht:P.underlying t=some (.struct fs)) (hz:P.cellsOf t=sz) (h:∀m,n=m+1->sm enc P w N m fs.toList 0 sz cl Ok):Reads enc P w N n t cl Ok:=λcs x hx hb=>by
 obtain ⟨xs,m,rfl,rfl,hl,hxl,hf⟩:=DataW.trod_struct ht hx
 simp only [iV] at hb
 obtain ⟨a,h1,h2⟩:=h m rfl cs xs (by simpa using hxl) (by omega) (λi f hi=>hf i f (by simpa using hi)) (by omega)
 refine ⟨a,?_,h2⟩
 rw [List.drop_zero,List.take_of_length_le (by omega)] at h1
 exact h1
theorem qk {γ δ:Type} {f:γ->Option δ}:∀ {l:List γ} {r:List δ},l.mapM f=some r->r.length=l.length/\∀ (i:Nat) (a:γ),l[i]?=some a->f a=r[i]?
 | [],r,h=>by simp at h;subst h;simp
 | x::l,r,h=>by
  simp only [List.mapM_cons,Option.bind_eq_bind,Option.bind_eq_some_iff,Option.pure_def,Option.some.injEq] at h
  obtain ⟨y,hy,ys,hys,rfl⟩:=h
  obtain ⟨h1,h2⟩:=qk hys
  refine ⟨by simp [h1],λi a ha=>?_⟩
  cases i with
  | zero=>simp at ha;subst ha;simpa using hy
  | succ i=>simpa using h2 i a (by simpa using ha)
theorem pG {a:Addr} {n:Nat} {cs:List Value} (h:w.cells? 0 a n=some cs):cs.length=n/\∀i,i < n->w.cell? (a.add i)=cs[i]?:=by
 unfold World.cells? at h
 rw [if_pos (Nat.zero_le _)] at h
 obtain ⟨h1,h2⟩:=qk h
 refine ⟨by simpa using h1,λi hi=>?_⟩
 exact h2 i i (by simp [hi])
open Classical in
theorem p6 {n:Nat} {t e:TypeId} {sz:Nat} [Inhabited α] {cl:α->List AV} {Ok:α->Prop} (get:List α->Nat->List AV) (ht:P.underlying t=some (.slice e)) (hz:P.cellsOf e=sz) (hp:0 < sz) (hlen:∀a,(cl a).length=sz)
  (hget:∀ (l:List α) j,j < l.length->get l j=cl (l.getD j default)) (h:∀m,n=m+1->Reads enc P w N m e cl Ok) :
  Reads enc P w N n t (λl:List α=>[.sl .no sz l.length (get l)]) (λl=>l.length<=maxLen/\l.length+1<=N/\∀a∈l,Ok a):=λcs x hx hb=>by
 rcases DataW.trod_slice ht hx with ⟨rfl,rfl⟩ | ⟨ad,len,cap,elems,rest,m,rfl,rfl,rfl,_,hle,hcap,hel,hat,hsp,_⟩
 ·refine ⟨[],.xV rfl rfl ?_,by simp,by simpa [iV] using hb,by simp⟩
  exact .slNil .no sz _ trivial
 ·simp only [iV] at hb
  rw [hz] at hat hsp
  have hb1:elems.length<=j4 (elems.map (·.1)):=by have:=pI (elems.map (·.1));simpa using this
  have hel1:∀i,i < len->∃vs y a,elems[i]?=some y/\w.cells? 0 (ad.add (i*sz)) sz=some vs/\CellsR (cN w) (cl a) vs/\Ok a:=by
   intro i hi
   have hi':i < elems.length:=by omega
   have:=hat i hi
   rw [List.getElem?_eq_getElem hi',Option.bind_eq_some_iff] at this
   obtain ⟨vs,h1,h2⟩:=this
   have hbi:iV (elems[i]).1<=j4 (elems.map (·.1)):=si (i:=i) (by simp [List.getElem?_eq_getElem hi'])
   obtain ⟨a,h3,h4⟩:=h m rfl vs _ h2 (by omega)
   exact ⟨vs,_,a,List.getElem?_eq_getElem hi',h1,h3,h4⟩
  have hspot:0 < cap->ad.spot=none:=by
   intro hc
   have:∃vs,w.cells? 0 (ad.add (0*sz)) sz=some vs:=by
    by_cases h0:0 < len
    ·obtain ⟨vs,_,_,_,h2,_⟩:=hel1 0 h0
     exact ⟨vs,h2⟩
    ·obtain rfl:len=0:=by omega
     have h1:=(hsp rfl).2 0 (by omega)
     have h2:=(hsp rfl).1
     cases hr:rest with
     | nil=>rw [hr] at h2;simp at h2;omega
     | cons y r=>
      rw [hr] at h1
      simp only [List.getElem?_cons_zero,Option.bind_eq_some_iff] at h1
      obtain ⟨vs,h3,_⟩:=h1
      exact ⟨vs,by simpa using h3⟩
   obtain ⟨vs,h2⟩:=this
   obtain ⟨h3,h4⟩:=pG h2
   have h5:=h4 0 hp
   rw [Nat.zero_mul] at h5
   have e0:((ad.add 0).add 0)=ad:=by unfold Addr.add;simp
   rw [e0,List.getElem?_eq_getElem (by omega)] at h5
   exact World.cell?_spot h5
  let l:List α:=(List.range len).map λi=>if hi:i < len then (hel1 i hi).choose_spec.choose_spec.choose else default
  have hl:l.length=len:=by simp [l]
  have hli:∀i (hi:i < len),∃vs,w.cells? 0 (ad.add (i*sz)) sz=some vs/\CellsR (cN w) (cl (l.getD i default)) vs/\Ok (l.getD i default):=by
   intro i hi
   have e:l.getD i default=(hel1 i hi).choose_spec.choose_spec.choose:=by
    simp [l,List.getD,hi]
   rw [e]
   exact ⟨_,(hel1 i hi).choose_spec.choose_spec.choose_spec.2⟩
  have hadd:∀i,i < len->∀q,q < sz->(ad.add (i*sz)).add q=⟨ad.block,ad.off+(i*sz+q),none⟩:=by
   intro i hi q _
   have hs:=hspot (by omega)
   obtain ⟨b,o,sp⟩:=ad
   simp only at hs
   subst hs
   unfold Addr.add
   by_cases c1:i*sz=0
   ·by_cases c2:q=0 <;> simp [c1,c2]
   ·by_cases c2:q=0 <;> simp [c1,c2,Nat.add_assoc]
  refine ⟨l,.xV rfl rfl ?_,by omega,by omega,λa ha=>?_⟩
  ·rw [hl]
   have hgl:∀j,j < len->get l j=cl (l.getD j default):=λj hj=>hget l j (by omega)
   have hcell:∀ (j i:Nat) (u:AV),j < len->(get l j)[i]?=some u->∃v,w.cell? ⟨ad.block,ad.off+(j*sz+i),none⟩=some v/\Rep (cN w) u v:=by
    intro j i u hj hu
    rw [hgl j hj] at hu
    obtain ⟨vs,h1,h2,_⟩:=hli j hj
    obtain ⟨g1,g2⟩:=pG h1
    have hi:i < sz:=by have:=(List.getElem?_eq_some_iff.1 hu).1;rw [hlen] at this;exact this
    have g3:=g2 i hi
    rw [hadd j hj i hi,List.getElem?_eq_getElem (by omega)] at g3
    refine ⟨_,g3,?_⟩
    have:=h2.rep i u hu
    rwa [List.getD_eq_getElem?_getD,List.getElem?_eq_getElem (by omega)] at this
   refine .sl .no sz len (get l) ad cap (λj i=>(w.cell? ⟨ad.block,ad.off+(j*sz+i),none⟩).getD undef) hspot hle trivial (λj hj=>?_) (λj i u hj hu=>?_) (λj i u hj hu=>?_)
   ·rw [hgl j hj]
    obtain ⟨vs,_,h2,_⟩:=hli j hj
    exact ⟨hlen _,jR λu hu=>(h2.one u hu).2⟩
   ·obtain ⟨v,h1,_⟩:=hcell j i u hj hu
    have hone:u.one=true:=by
     rw [hgl j hj] at hu
     obtain ⟨vs,_,h2,_⟩:=hli j hj
     exact (h2.one u (List.mem_of_getElem? hu)).1
    refine ⟨hone,?_,v,h1⟩
    show w.cell? _=_
    rw [h1];rfl
   ·obtain ⟨v,h1,h2⟩:=hcell j i u hj hu
    rw [h1];exact h2
  ·obtain ⟨i,hi,rfl⟩:=List.getElem_of_mem ha
   obtain ⟨_,_,_,h4⟩:=hli i (by omega)
   rwa [List.getD_eq_getElem?_getD,List.getElem?_eq_getElem hi] at h4
end
end Go.Ab

namespace Go.Ab
open Go Go.RowKit
section
variable {H:Type} (enc:TypeId×Value->H) (P:Program) (w:World) (held:Bool)
def RX (t:TypeId) (d:DataW H) (us:List AV):Prop:=
 us.length=P.cellsOf t/\∀n cs p,DataW.trod enc P w 0 (λ_=>true) held n t cs=some (d,p)->CellsR (cN w) us cs
variable {enc P w held}
theorem ub {t:TypeId} {k:IntKind} {z:Int} (ht:P.underlying t=some (.int k)) (hc:P.cellsOf t=1):RX enc P w held t (.lit (.int k z)) [.int k z]:=⟨hc.symm,λn cs p h=>by
 obtain ⟨z',rfl,hx,_⟩:=DataW.trod_int ht h
 simp only [Prod.mk.injEq,DataW.lit.injEq,Lit.int.injEq,true_and] at hx
 obtain ⟨rfl,_⟩:=hx
 exact .xV rfl rfl (.int _ _)⟩
theorem rm {t:TypeId} {ms:Array (String×TypeId)} {nm:String} {d:DataW H} (ht:P.underlying t=some (.interface ms)) (hc:P.cellsOf t=1):RX enc P w held t (.iface nm d) [.nni]:=⟨hc.symm,λn cs p h=>by
 cases n with
 | zero=>simp [DataW.trod] at h
 | succ n=>
  unfold DataW.trod at h
  rw [ht] at h
  split at h <;> simp_all
  exact .xV rfl rfl (.nni _ _)⟩
theorem uc {c:Cx} {cs:List Value} {sz:Nat}:∀ (us:List (List AV)) (k:Nat),(∀ (i:Nat) (u:List AV),us[i]?=some u->CellsR c u ((cs.drop ((k+i)*sz)).take sz)/\u.length=sz)->cs.length=(k+us.length)*sz->CellsR c us.flatten (cs.drop (k*sz))
 | [],k,_,hl=>by
  rw [List.drop_eq_nil_of_le (by simp at hl;omega)]
  exact .nil _
 | u::us,k,h,hl=>by
  have h0:=h 0 u rfl
  have ih:=uc us (k+1) (λi v hv=>by
   have:=h (i+1) v (by simpa using hv)
   rwa [show k+(i+1)=k+1+i by omega] at this) (by rw [hl];simp only [List.length_cons];congr 1;omega)
  have e:cs.drop (k*sz)=(cs.drop (k*sz)).take sz++cs.drop ((k+1)*sz):=by
   rw [show (k+1)*sz=k*sz+sz by rw [Nat.add_mul,Nat.one_mul],<-List.drop_drop,List.take_append_drop]
  rw [e,List.flatten_cons]
  exact h0.1.append ih
theorem rn {t e:TypeId} {m sz:Nat} {ds:List (DataW H)} {us:List (List AV)} (ht:P.underlying t=some (.array m e)) (he:P.cellsOf e=sz) (hc:P.cellsOf t=m*sz) (hl:us.length=m)
  (h:∀ (i:Nat) (d:DataW H) (u:List AV),ds[i]?=some d->us[i]?=some u->RX enc P w held e d u) (hd:ds.length=m):RX enc P w held t (.agg ds) us.flatten:=by
 have hu:∀ (i:Nat) (u:List AV),us[i]?=some u->u.length=sz:=λi u hi=>by
  have hlt:=(List.getElem?_eq_some_iff.1 hi).1
  rw [(h i (ds[i]'(by omega)) u (List.getElem?_eq_getElem _) hi).1,he]
 refine ⟨?_,λn cs p hx=>?_⟩
 ·rw [hc,List.length_flatten,<-hl]
  have:∀l:List (List AV),(∀ (i:Nat) (u:List AV),l[i]?=some u->u.length=sz)->(l.map List.length).sum=l.length*sz:=by
   intro l
   induction l with
   | nil=>intro _;simp
   | cons a r ih=>
    intro h
    have h0:=h 0 a rfl
    have h1:=ih λi u hi=>h (i+1) u (by simpa using hi)
    simp only [List.map_cons,List.sum_cons,h1,h0,List.length_cons,Nat.add_mul,Nat.one_mul];omega
  exact this us hu
 ·cases n with
  | zero=>simp [DataW.trod] at hx
  | succ n=>
   simp only [DataW.trod,ht,he,hc] at hx
   split at hx
   ·rename_i hcl
    obtain ⟨xs,hm,hxe⟩:=Option.map_eq_some_iff.1 hx
    have hxs:xs.map (·.1)=ds:=by
     have:=congrArg Prod.fst hxe
     simpa using this
    obtain ⟨hxl,hat⟩:=qk hm
    have hxl:xs.length=m:=by simpa using hxl
    have:=uc (c:=cN w) (cs:=cs) (sz:=sz) us 0 (λi u hi=>by
     have hlt:=(List.getElem?_eq_some_iff.1 hi).1
     have hlt2:i < xs.length:=by omega
     have hf:=hat i i (List.getElem?_range (by omega))
     rw [List.getElem?_eq_getElem hlt2] at hf
     have hdi:ds[i]?=some (xs[i]'hlt2).1:=by
      have:=congrArg (·[i]?) hxs
      simp only [List.getElem?_map,List.getElem?_eq_getElem hlt2,Option.map_some] at this
      exact this.symm
     refine ⟨?_,hu i u hi⟩
     rw [Nat.zero_add]
     exact (h i _ u hdi hi).2 n _ (xs[i]'hlt2).2 hf) (by rw [hcl,Nat.zero_add,hl])
    simpa using this
   ·cases hx
theorem zA {t:TypeId} {f0 f1:Field} {d0 d1:DataW H} {u0 u1:List AV} (ht:P.underlying t=some (.struct #[f0,f1])) (h0:RX enc P w held f0.type d0 u0) (h1:RX enc P w held f1.type d1 u1) (o0:f0.offset=0) (o1:f1.offset=P.cellsOf f0.type) (hc:P.cellsOf t=P.cellsOf f0.type+P.cellsOf f1.type) :
  RX enc P w held t (.agg [d0,d1]) (u0++u1):=by
 refine ⟨by rw [List.length_append,h0.1,h1.1,hc],λn cs p hx=>?_⟩
 obtain ⟨xs,m,rfl,hxe,hl,hxl,hf⟩:=DataW.trod_struct ht hx
 match xs,hxl with
 | [y0,y1],_=>
  simp only [List.map_cons,List.map_nil,Prod.mk.injEq,DataW.agg.injEq,List.cons.injEq,and_true] at hxe
  obtain ⟨⟨rfl,rfl⟩,_⟩:=hxe
  have a0:=hf 0 f0 rfl
  have a1:=hf 1 f1 rfl
  rw [o0,List.drop_zero] at a0
  rw [o1] at a1
  have b0:=h0.2 m _ y0.2 a0
  have b1:=h1.2 m _ y1.2 a1
  have e:cs=cs.take (P.cellsOf f0.type)++(cs.drop (P.cellsOf f0.type)).take (P.cellsOf f1.type):=by
   rw [List.take_of_length_le (l:=cs.drop (P.cellsOf f0.type)) (by rw [List.length_drop];omega),List.take_append_drop]
  rw [e]
  exact b0.append b1
theorem xI {t e:TypeId} {m:Nat} {k:IntKind} {zs:List Int} (ht:P.underlying t=some (.array m e)) (he:P.underlying e=some (.int k)) (hc:P.cellsOf e=1) (hct:P.cellsOf t=m) (hl:zs.length=m) :
  RX enc P w held t (.agg (zs.map λz=>.lit (.int k z))) (zs.map λz=>.int k z):=by
 have:=rn (enc:=enc) (P:=P) (w:=w) (held:=held) (ds:=zs.map λz=>(.lit (.int k z):DataW H)) (us:=zs.map λz=>[AV.int k z]) ht hc (by rw [hct,Nat.mul_one]) (by simpa using hl) (λi d u hd hu=>by
  rw [List.getElem?_map,Option.map_eq_some_iff] at hd hu
  obtain ⟨z,hz,rfl⟩:=hd
  obtain ⟨z',hz',rfl⟩:=hu
  obtain rfl:z=z':=by rw [hz] at hz';exact Option.some.inj hz'
  exact ub he hc) (by simpa using hl)
 rwa [show (zs.map λz=>[AV.int k z]).flatten=zs.map λz=>AV.int k z by induction zs with
  | nil=>rfl
  | cons a r ih=>rw [List.map_cons,List.flatten_cons,List.map_cons,List.singleton_append];congr 1;clear hl this ih;induction r with
   | nil=>rfl
   | cons b q ih=>rw [List.map_cons,List.flatten_cons,ih];rfl] at this
end
theorem uT {P:Program} {w:World}:∀ {laid:List (String×DataW Unit)} {ps:List MemPlace},DataW.LaidVars P w laid ps->∀ {nm:String} {d:DataW Unit},(nm,d)∈laid->
  ∃g t cs fuel p,P.globalNamed nm=some g/\(P.globals[g]?).map (·.type)=some t/\w.var? P nm=some cs/\DataW.trod (λ_=>()) P w 0 (λ_=>true) false fuel t cs.toList=some (d,p)
 | [],_,_,_,_,hm=>by simp at hm
 | (n0,d0)::r,ps,h,nm,d,hm=>by
  obtain ⟨g,t,cs,fuel,p,q,h1,h2,h3,h4,h5,_⟩:=h
  rcases List.mem_cons.1 hm with e | hm
  ·simp only [Prod.mk.injEq] at e
   obtain ⟨rfl,rfl⟩:=e
   exact ⟨g,t,cs,fuel,p,h1,h2,h3,h4⟩
  ·exact uT h5 hm
theorem oU {w:World} {g:Nat} {us:List AV} {cs:Array Value} (hv:∀i,w.cell? ⟨g,i,none⟩=cs[i]?) (h:CellsR (cN w) us cs.toList):Rep (cN w) (.elt us 0) (.pointer (some ⟨g,0,none⟩)):=by
 have hi:∀ (i:Nat) (u:AV),us[i]?=some u->∃v,cs[i]?=some v/\Rep (cN w) u v:=λi u hu=>by
  have hlt:=(List.getElem?_eq_some_iff.1 hu).1
  have hlt':i < cs.size:=by have:=h.len;simp at this;omega
  refine ⟨cs[i],Array.getElem?_eq_getElem hlt',?_⟩
  have:=h.rep i u hu
  rwa [List.getD_eq_getElem?_getD,Array.getElem?_toList,Array.getElem?_eq_getElem hlt'] at this
 refine .elt us 0 g 0 (λi=>(cs[i]?).getD undef) (jR λu hu=>(h.one u hu).2) (λi u hu=>?_) (λi u hu=>?_)
 ·obtain ⟨v,h1,h2⟩:=hi i u hu
  rw [Nat.zero_add]
  refine ⟨(h.one u (List.mem_of_getElem? hu)).1,?_,v,?_⟩
  ·show w.cell? _=_
   rw [hv,h1];rfl
  ·rw [hv,h1]
 ·obtain ⟨v,h1,h2⟩:=hi i u hu
  rw [h1];exact h2
theorem gm {P:Program} {w:World} {laid:List (String×DataW Unit)} (h:laidMet P laid w) {nm:String} {d:DataW Unit} {g:Nat} {t:TypeId} {us:List AV} (hm:(nm,d)∈laid) (hg:P.globalNamed nm=some g) (ht:(P.globals[g]?).map (·.type)=some t)
  (hr:RX (λ_=>()) P w false t d us):Rep (cN w) (.elt us 0) (.pointer (some ⟨g,0,none⟩)):=by
 obtain ⟨ps,hl,_⟩:=h
 obtain ⟨g',t',cs,fuel,p,h1,h2,h3,h4⟩:=uT hl hm
 obtain rfl:=Option.some.inj (hg.symm.trans h1)
 obtain rfl:=Option.some.inj (ht.symm.trans h2)
 exact oU (λi=>World.var?_cell h1 h3 i) (hr.2 fuel _ p h4)
theorem n5 {P:Program} {G:Nat->Option (List AV)} {f:FuncId} {l:List AV} {os:List AO} {xs:List Value} {w:World} (hg:∀g cs,G g=some cs->Rep (cN w) (.elt cs 0) (.pointer (some ⟨g,0,none⟩))) (h:Ct P G f l [] (.bool true,os)) (hs:vC w l xs) :
  Calls P f xs.toArray w λe w'=>e=.returned (.bool true)/\Below w.heap.size w w':=by
 obtain ⟨h1,h2,h3⟩:=hs.spec
 refine (h.1 (cN w) xs.toArray ⟨λ_ _ h=>.inl h,hg⟩ (oJ w) (by simpa using h1) (λi u hu=>?_) (by rw [h2];simp)).mono ?_
 ·have:=h3 i u hu
  simpa [Array.getD_eq_getD_getElem?,List.getD_eq_getElem?_getD] using this
 ·rintro e w' ⟨c',x,rfl,rfl,_,hF,_,hr,_,_⟩
  cases hr
  refine ⟨rfl,hF.os,hF.tape,hF.output,hF.size,λb hb=>hF.block b hb ?_⟩
  rintro ⟨k,o,ho,_⟩
  simp [af,alook] at ho
end Go.Ab

namespace Go.Ab
open Go Go.RowKit
section
variable {H:Type} {enc:TypeId×Value->H} {P:Program} {w:World} {held:Bool}
end
end Go.Ab

namespace Go.WF
open Go Go.Ab Go.Proofs Go.RowKit Go.Proofs.YtofjmkmjdaccgaaGreatDoor
def dints:List (DataW Unit)->List Int
 | .lit (.int _ z)::r=>z::dints r
 | _=>[]
def dpairs:List (DataW Unit)->List (Int×Int)
 | .agg [.lit (.int _ y),.lit (.int _ z)]::r=>(y,z)::dpairs r
 | _=>[]
def parts:DataW Unit->List (DataW Unit)
 | .agg ds=>ds
 | _=>[]
theorem rp {w:World} {t e:TypeId} {m:Nat} {k:IntKind} {d:DataW Unit} (ht:Tryz.prog.underlying t=some (.array m e)) (he:Tryz.prog.underlying e=some (.int k)) (h1:Tryz.prog.cellsOf e=1) (h2:Tryz.prog.cellsOf t=m) (hd:d=.agg ((dints (parts d)).map λz=>.lit (.int k z))) (hl:(dints (parts d)).length=m) (hc:dcells d=(dints (parts d)).map λz=>.int k z):Go.Ab.RX (λ_=>()) Tryz.prog w false t d (dcells d):=by
 rw [hc]
 have:=xI (enc:=λ_=>()) (P:=Tryz.prog) (w:=w) (held:=false) (zs:=dints (parts d)) ht he h1 h2 hl
 rwa [<-hd] at this
theorem vZ {w:World} {d:DataW Unit} (hd:d=.agg ((dpairs (parts d)).map λp=>.agg [.lit (.int .u8 p.1),.lit (.int .u8 p.2)])) (hl:(dpairs (parts d)).length=16) (hc:dcells d=((dpairs (parts d)).map λp=>[AV.int .u8 p.1]++[AV.int .u8 p.2]).flatten):Go.Ab.RX (λ_=>()) Tryz.prog w false 370 d (dcells d):=by
 rw [hc]
 have:=rn (enc:=λ_=>()) (P:=Tryz.prog) (w:=w) (held:=false) (t:=370) (e:=369) (m:=16) (sz:=2) (ds:=(dpairs (parts d)).map λp=>.agg [.lit (.int .u8 p.1),.lit (.int .u8 p.2)]) (us:=(dpairs (parts d)).map λp=>[AV.int .u8 p.1]++[AV.int .u8 p.2]) Tryz.underlying370 (by kernel_rfl) (by kernel_rfl) (by simpa using hl) (λi d u hd hu=>by
  rw [List.getElem?_map,Option.map_eq_some_iff] at hd hu
  obtain ⟨z,hz,rfl⟩:=hd
  obtain ⟨z',hz',rfl⟩:=hu
  obtain rfl:z=z':=by rw [hz] at hz';exact Option.some.inj hz'
  exact zA Tryz.underlying369 (ub Tryz.underlying5 (by kernel_rfl)) (ub Tryz.underlying5 (by kernel_rfl)) rfl (by kernel_rfl) (by kernel_rfl)) (by simpa using hl)
 rwa [<-hd] at this
set_option maxRecDepth 100000 in
theorem qg {w:World} (h:w.ShapedOpen Tryz.prog):Rep (cN w) (.elt [.num .i64] 0) (.pointer (some ⟨2,0,none⟩)):=by
 obtain ⟨cs,h1,h2,h3⟩:=h.1 2 #[.int .i64 0] 3 (of_decide_eq_true (by kernel_rfl)) (by kernel_rfl)
 obtain ⟨ts,e1,e2,e3⟩:=h3 (by kernel_rfl)
 have e0:Tryz.prog.cellTypes Tryz.prog.depth 3=some [3]:=by kernel_rfl
 rw [e0] at e1
 obtain rfl:=Option.some.inj e1
 have hlt:0 < cs.size:=by rw [h2];decide
 obtain ⟨u,hu,hok⟩:=e3 0 cs[0] (Array.getElem?_eq_getElem hlt)
 simp only [List.length_singleton,Nat.mod_one,List.getElem?_cons_zero,Option.some.injEq] at hu
 subst hu
 unfold Cell.ok at hok
 rw [show Tryz.prog.underlying 3=some (.int .i64) from Tryz.underlying3] at hok
 have hcell:∀i,w.cell? ⟨2,i,none⟩=cs[i]?:=λi=>by
  unfold World.cell?
  simp [h1]
 refine oU hcell ⟨by simpa using h2,λu hu=>by simp at hu;subst hu;exact ⟨rfl,rfl⟩,λi u hu=>?_⟩
 cases i with
 | succ i=>simp at hu
 | zero=>
  simp at hu;subst hu
  rw [List.getD_eq_getElem?_getD,Array.getElem?_toList,Array.getElem?_eq_getElem hlt]
  show Rep _ _ cs[0]
  generalize cs[0]=v at hok ⊢
  cases v with
  | int k n=>obtain ⟨rfl,_⟩:=hok;exact .num _ _
  | _=>simp at hok
theorem wD {w:World} {laid:List (String×DataW Unit)} (h:laidMet Tryz.prog laid w) (ho:w.ShapedOpen Tryz.prog)
  (m11:("math/bits.deBruijn64tab",Rows.laid_math_bits_deBruijn64tab)∈laid)
  (m9:("internal/strconv.uint64pow10",Rows.laid_internal_strconv_uint64pow10)∈laid)
  (m5:("unicode/utf8.first",Rows.laid_unicode_utf8_first)∈laid)
  (m6:("unicode/utf8.acceptRanges",Rows.laid_unicode_utf8_acceptRanges)∈laid)
  (m2:("strings.asciiSpace",Rows.laid_strings_asciiSpace)∈laid)
  (m7:("strconv.ErrSyntax",Rows.laid_strconv_ErrSyntax)∈laid)
  (m8:("strconv.ErrRange",Rows.laid_strconv_ErrRange)∈laid) :
  ∀g cs,glb g=some cs->Rep (cN w) (.elt cs 0) (.pointer (some ⟨g,0,none⟩)):=by
 intro g cs hg
 unfold glb at hg
 by_cases h11:g=9
 ·subst h11
  obtain rfl:=Option.some.inj hg
  exact gm h m11 (by kernel_rfl) (by kernel_rfl) (rp (k:=.u8) Tryz.underlying403 Tryz.underlying5 (by kernel_rfl) (by kernel_rfl) (by kernel_rfl) (by kernel_rfl) (by kernel_rfl))
 rw [gN h11,cond_false] at hg
 by_cases h9:g=7
 ·subst h9
  obtain rfl:=Option.some.inj hg
  exact gm h m9 (by kernel_rfl) (by kernel_rfl) (rp (k:=.u64) Tryz.underlying400 Tryz.underlying216 (by kernel_rfl) (by kernel_rfl) (by kernel_rfl) (by kernel_rfl) (by kernel_rfl))
 rw [gN h9,cond_false] at hg
 by_cases h5:g=3
 ·subst h5
  obtain rfl:=Option.some.inj hg
  exact gm h m5 (by kernel_rfl) (by kernel_rfl) (rp (k:=.u8) Tryz.underlying228 Tryz.underlying5 (by kernel_rfl) (by kernel_rfl) (by kernel_rfl) (by kernel_rfl) (by kernel_rfl))
 rw [gN h5,cond_false] at hg
 by_cases h6:g=4
 ·subst h6
  obtain rfl:=Option.some.inj hg
  exact gm h m6 (by kernel_rfl) (by kernel_rfl) (vZ (by kernel_rfl) (by kernel_rfl) (by kernel_rfl))
 rw [gN h6,cond_false] at hg
 by_cases h2:g=0
 ·subst h2
  obtain rfl:=Option.some.inj hg
  exact gm h m2 (by kernel_rfl) (by kernel_rfl) (rp (k:=.u8) Tryz.underlying228 Tryz.underlying5 (by kernel_rfl) (by kernel_rfl) (by kernel_rfl) (by kernel_rfl) (by kernel_rfl))
 rw [gN h2,cond_false] at hg
 by_cases h4:g=2
 ·subst h4
  obtain rfl:=Option.some.inj hg
  exact qg ho
 rw [gN h4,cond_false] at hg
 by_cases h7:g=5
 ·subst h7
  obtain rfl:=Option.some.inj hg
  exact gm h m7 (by kernel_rfl) (by kernel_rfl) (rm Tryz.underlying359 (by kernel_rfl))
 rw [gN h7,cond_false] at hg
 by_cases h8:g=6
 ·subst h8
  obtain rfl:=Option.some.inj hg
  exact gm h m8 (by kernel_rfl) (by kernel_rfl) (rm Tryz.underlying359 (by kernel_rfl))
 rw [gN h8,cond_false] at hg
 cases hg
section
variable {H:Type} {enc:TypeId×Value->H} {w:World} {N:Nat}
def gf (z:Int):Prop:=0<=z/\z < 256
theorem rF (n:Nat):Reads enc Tryz.prog w N n 5 (λz:Int=>[.int .u8 z]) gf:=(uv Tryz.underlying5).map id (λ_=>rfl) λz h=>by
 simp [Lit.wf,IntKind.min,IntKind.max,IntKind.signed,IntKind.bits] at h
 exact ⟨h.1,by show z < 256;omega⟩
abbrev VI:Type:=Int×Int×Int×Int
def viC (p:VI):List AV:=[.int .u8 p.1,.int .u8 p.2.1,.int .u8 p.2.2.1,.int .u8 p.2.2.2]
def vQ (p:VI):Prop:=gf p.1/\gf p.2.1/\gf p.2.2.1/\gf p.2.2.2
theorem EL (n:Nat):Reads enc Tryz.prog w N n 115 viC vQ:=
 (oV (sz:=1+(1+(1+(1+0)))) Tryz.underlying115 (by kernel_rfl) λm _=>gq (rF m) rfl (by kernel_rfl) (gq (rF m) rfl (by kernel_rfl) (gq (rF m) rfl (by kernel_rfl) (gq (rF m) rfl (by kernel_rfl) sL)))).map (λp=>((p.1,p.2.1,p.2.2.1,p.2.2.2.1):VI)) (λ_=>rfl) λp h=>⟨h.1,h.2.1,h.2.2.1,h.2.2.2.1⟩
def zi (l:List VI):AV:=.sl .no 4 l.length λj=>viC (l.getD j (0,0,0,0))
theorem BV (n:Nat):Reads enc Tryz.prog w N n 25 (λl:List VI=>[zi l]) (λl=>∀p∈l,vQ p):=
 (p6 (e:=115) (sz:=4) (α:=VI) (cl:=viC) (Ok:=vQ) (λl j=>viC (l.getD j (0,0,0,0))) Tryz.underlying25 (by kernel_rfl) (by omega) (λ_=>rfl) (λl j h=>by rw [List.getD_eq_getElem?_getD,List.getD_eq_getElem?_getD,List.getElem?_eq_getElem h];rfl) (λm _=>EL m)).map id (λ_=>rfl) λl h=>h.2.2
end
def toV (p:VI):VSX:=⟨p.1.toNat,p.2.1.toNat,p.2.2.1.toNat,p.2.2.2.toNat⟩
theorem Bw {p:VI} (h:vQ p):(toV p).c=viC p:=by
 obtain ⟨h1,h2,h3,h4⟩:=h
 unfold gf at h1 h2 h3 h4
 show [AV.int .u8 ((p.1.toNat:Nat):Int),AV.int .u8 ((p.2.1.toNat:Nat):Int),AV.int .u8 ((p.2.2.1.toNat:Nat):Int),AV.int .u8 ((p.2.2.2.toNat:Nat):Int)]=_
 rw [Int.toNat_of_nonneg h1.1,Int.toNat_of_nonneg h2.1,Int.toNat_of_nonneg h3.1,Int.toNat_of_nonneg h4.1]
 rfl
theorem zl:vQ (0,0,0,0):=⟨⟨Int.le_refl 0,by decide⟩,⟨Int.le_refl 0,by decide⟩,⟨Int.le_refl 0,by decide⟩,⟨Int.le_refl 0,by decide⟩⟩
theorem vP {l:List VI} (h:∀p∈l,vQ p) (j:Nat):vQ (l.getD j (0,0,0,0))/\(l.map toV).getD j default=toV (l.getD j (0,0,0,0)):=by
 by_cases hj:j < l.length
 ·rw [List.getD_eq_getElem?_getD,List.getD_eq_getElem?_getD,List.getElem?_map,List.getElem?_eq_getElem hj]
  exact ⟨h _ (List.getElem_mem hj),rfl⟩
 ·rw [List.getD_eq_getElem?_getD,List.getD_eq_getElem?_getD,List.getElem?_map,List.getElem?_eq_none (by omega)]
  exact ⟨zl,rfl⟩
theorem xw {l:List VI} (h:∀p∈l,vQ p):zi l=vsA (l.map toV):=by
 unfold zi vsA
 rw [List.length_map]
 congr 1
 funext j
 rw [(vP h j).2,Bw (vP h j).1]
theorem tW {P:Program} {H:Type} {enc:TypeId×Value->H} {W:World} {base:Nat} {t e:TypeId} {v:Value} {d:DataW H} {p:List MemPlace} {α:Type} {cl:α->AV} {Ok:α->Prop} (hs:P.underlying t=some (.slice e))
  (hv:Value.okWide P W .any base t v) (h:DataW.Trod enc P W 0 (λ_=>true) true t v d p) {N:Nat} (hr:∀n,Reads enc P W N n t (λa=>[cl a]) Ok) (hb:iV d<=N) :
  ∃a,Ok a/\Rep (cN W) (cl a) v/\(cl a).keys=[]:=by
 obtain ⟨a,len,cap,rfl⟩:=Go.WideShapes.okWide_slice hs hv
 obtain ⟨n,hn⟩:=h
 obtain ⟨x,h1,h2⟩:=hr n (Value.slice a len cap).cells.toList (d,p) hn hb
 refine ⟨x,h2,?_,(h1.one _ (by simp)).2⟩
 simpa [Value.cells] using h1.rep 0 _ rfl
end Go.WF

namespace Go.WF
open Go Go.Ab Go.Proofs
def FJ:AV:=.agg [.str [],.int .i64 0,.int .i64 0,.int .i64 0,.str [],.sl .fit 0 0 λx=>[],.int .i64 0,.int .i64 0,.str [],.int .i64 0,.int .i64 0]
def mpD:AO:=AO.mp false [KD.str] (λx=>false) λx=>FJ
def mpB:AO:=AO.mp false [KD.str] (λx=>false) λx=>.bool false
def fN (p:EVP) (a:TX) (f:FD):AO:=.cells ((dt p).cells++[.sl .no 3 1 (usR a),fdA [f],.sl .no 1 0 λx=>[.str [] ],.mref 1000001,.mref 1000002])
def φSt (p:EVP) (a:TX) (f:FD) (_:Unit):AV×List AO:=(.ref ae 0,[fN p a f,mpD,mpB])
theorem BJ (p:EVP) (a:TX) (f:FD):bo wd bV (φSt p a f) ec [dt p,usA a,fdA [f] ] []:=
 a7 (V:=V0) (T:=[eMb]) (d:=14) 1 aq ao (.call (fU (usR a)) λr1 q1=>
  .r () trivial) (by kernel_rfl)
theorem sC (p:EVP) (a:TX) (f:FD):Ct wd.P wd.G bV [dt p,usA a,fdA [f] ] [] (φSt p a f ()):=by
 obtain ⟨_,_,h⟩:=BJ p a f
 exact h
open Classical in
theorem jf {τ:Type} {f:FuncId} {A:List AV} {O:List AO} {x:τ} {φ:τ->AV×List AO} {T:List Ent} [t:TabI wd T] (h:Ct wd.P wd.G f A O (φ x)):TabI wd (j0 f A O x φ::T):=⟨λe he l os hp=>by
 rcases List.mem_cons.1 he with rfl | he
 ·obtain ⟨_,_,h1,h2⟩:∃v:Unit,True/\A=l/\O=os:=of_decide_eq_true hp
  subst h1 h2
  exact h
 ·exact t.ok e he l os hp⟩
theorem _root_.Go.Ab.Run.fe {τ:Type} {Post:τ->Prop} {φ:τ->AV×List AO} {g:Bool} {T:Res} (h:g=true) (k:∀ (_:Unit) (_:Unit),Run Post φ T):Run Post φ (cond g T none):=Run.n h (k () ())
def φLx (f:FD) (b:Int):AV×List AO:=(.tup [.agg [.str aB,.str f.exp,.int .i64 b,.int .i64 f.arm,.bool false],.int .i64 0],[])
theorem sR (p:EVP) (a:TX) (f:FD) (hf:FdG f) (hp:p.Ok) (ha:a.length<=400000):bo wd aM (φLx f) ec [dt p,usA a,fdA [f],.str aB] []:=by
 obtain ⟨x,hx,hc⟩:=uI p a [f] hp ha (by show (1:Nat)<=_;decide)
 obtain ⟨ru,h1,h2⟩:LyR p a [f] x:=hx
 have e1:foF [f] aB=(f,true):=by
  unfold foF
  rw [List.find?_cons_of_pos (by unfold foB;rw [hf.1];exact beq_self_eq_true _)]
 have e2:(f.exp==[])=false:=by
  rcases hf.2.1 with h | h <;> rw [h] <;> rfl
 rw [h1 (by rw [e1];exact hf),e1] at h2
 have e3:x=AG.mk f.exp (bkF p.s1 a) f.arm false:=by
  rw [h2];unfold lyG;simp only [e2,cond_true,cond_false,Bool.not_false]
 refine ⟨x.bk,trivial,?_⟩
 rw [e3] at hc ⊢
 exact hc
end Go.WF

namespace Go.WF
open Go Go.Ab Go.Proofs
def enD (sa ho cu on tw d0 d1 d2 d3:Int):EVP:={enP sa ho cu on tw with fl:=flR d0 d1 d2 d3}
theorem Av (sa ho cu on tw d0 d1 d2 d3:Int):(enD sa ho cu on tw d0 d1 d2 d3).Ok:=⟨(pz sa ho cu on tw).s1,(pz sa ho cu on tw).s3,(pz sa ho cu on tw).s5⟩
abbrev kE:TX:=[102,97,115,116,45,102,108,97,103]
abbrev kp:TX:=[115,108,111,119,45,102,108,97,103]
noncomputable def VFl:Env:={V0 with hint:=λf t=>cond (Nat.beq f 32) (vM [16,100016,200016] (V0.hint f t)) (V0.hint f t),trim:=λf p=>cond (Nat.beq f 32) ((V0.trim f p).map (vM [16,100016,200016])) (V0.trim f p)}
noncomputable instance envFl:EnvOk VFl wd:=⟨rfl,rfl,gX,ig⟩
structure DCX where
 fl:TX
 arm:Int
 vi:Int
 nm:TX
 bk:Int
instance:Inhabited DCX:=⟨⟨[],0,0,[],0⟩⟩
def φDc (x:DCX):AV×List AO:=(.tup [.agg [.str x.fl,.int .i64 x.arm,.int .i64 2,.int .i64 x.vi,.str [],.sl .no 1 0 λx=>[.str [] ],.int .i64 4,.int .i64 0,.str x.nm,.int .i64 x.bk,.int .i64 0],.int .i64 0],[])
def rDc (m:Int) (_:List AV) (_:List AO) (x:DCX):Prop:=x.arm=m
theorem te (m:Int) {A:List AV} {os:List AO} (f:TX) (vi:Int) (nm:TX) (bk:Int):rDc m A os ⟨f,m,vi,nm,bk⟩:=rfl
theorem nv:bo wd bK φNl ec [.sl .fit 0 0 λx=>[] ] []:=by
 obtain ⟨x,hx,hc⟩:=AE
 refine ⟨x,hx,hc.args rfl rfl λi u u' hu hu' c v hr=>?_⟩
 match i,hu,hu' with
 | 0,hu,hu'=>injection hu with hu;injection hu' with hu';subst hu hu';exact bZ.2 c v hr
section
variable {sa ho cu on tw d0 d1 d2 d3:Int} {a:TX}
theorem CO (h:EVP.Ok (enD sa ho cu on tw d0 d1 d2 d3)) (ha:a.length<=400000):bo wd cq φDc (rDc 1) [dt (enD sa ho cu on tw d0 d1 d2 d3),usA a,fdA [⟨aB,cR,1⟩],.str kE] []:=
 haveI:=jf (T:=[du wd aM (φLx ⟨aB,cR,1⟩) ec,pO,eMb,eCn]) (sC (enD sa ho cu on tw d0 d1 d2 d3) a ⟨aB,cR,1⟩)
 a7 (V:=VFl) (T:=[j0 bV [dt (enD sa ho cu on tw d0 d1 d2 d3),usA a,fdA [⟨aB,cR,1⟩] ] [] () (φSt (enD sa ho cu on tw d0 d1 d2 d3) a ⟨aB,cR,1⟩),du wd aM (φLx ⟨aB,cR,1⟩) ec,pO,eMb,eCn]) (d:=14) 0 aq ao (.fe (jo [dt (enD sa ho cu on tw d0 d1 d2 d3),usA a,fdA [⟨aB,cR,1⟩] ] []) λ_ _=>
  .call (sR (enD sa ho cu on tw d0 d1 d2 d3) a ⟨aB,cR,1⟩ ⟨rfl,.inl rfl,.inl rfl⟩ h ha) λr2 q2=>
  .call (gr (enD sa ho cu on tw d0 d1 d2 d3).s3 a h.s3 ha) λr3 q3=>
  .call nv λr4 q4=>
  .r (DCX.mk kE 1 10 cR r3) (te 1 _ _ _ _)) (by kernel_rfl)
theorem CN (h:EVP.Ok (enD sa ho cu on tw d0 d1 d2 d3)) (ha:a.length<=400000):bo wd cq φDc (rDc 2) [dt (enD sa ho cu on tw d0 d1 d2 d3),usA a,fdA [⟨aB,cR,2⟩],.str kE] []:=
 haveI:=jf (T:=[du wd aM (φLx ⟨aB,cR,2⟩) ec,pO,eMb,eCn]) (sC (enD sa ho cu on tw d0 d1 d2 d3) a ⟨aB,cR,2⟩)
 a7 (V:=VFl) (T:=[j0 bV [dt (enD sa ho cu on tw d0 d1 d2 d3),usA a,fdA [⟨aB,cR,2⟩] ] [] () (φSt (enD sa ho cu on tw d0 d1 d2 d3) a ⟨aB,cR,2⟩),du wd aM (φLx ⟨aB,cR,2⟩) ec,pO,eMb,eCn]) (d:=14) 0 aq ao (.fe (jo [dt (enD sa ho cu on tw d0 d1 d2 d3),usA a,fdA [⟨aB,cR,2⟩] ] []) λ_ _=>
  .call (sR (enD sa ho cu on tw d0 d1 d2 d3) a ⟨aB,cR,2⟩ ⟨rfl,.inl rfl,.inr (.inl rfl)⟩ h ha) λr2 q2=>
  .call (gr (enD sa ho cu on tw d0 d1 d2 d3).s3 a h.s3 ha) λr3 q3=>
  .call nv λr4 q4=>
  .r (DCX.mk kE 2 20 cR r3) (te 2 _ _ _ _)) (by kernel_rfl)
theorem CM (h:EVP.Ok (enD sa ho cu on tw d0 d1 d2 d3)) (ha:a.length<=400000):bo wd cq φDc (rDc 3) [dt (enD sa ho cu on tw d0 d1 d2 d3),usA a,fdA [⟨aB,cR,3⟩],.str kE] []:=
 haveI:=jf (T:=[du wd aM (φLx ⟨aB,cR,3⟩) ec,pO,eMb,eCn]) (sC (enD sa ho cu on tw d0 d1 d2 d3) a ⟨aB,cR,3⟩)
 a7 (V:=VFl) (T:=[j0 bV [dt (enD sa ho cu on tw d0 d1 d2 d3),usA a,fdA [⟨aB,cR,3⟩] ] [] () (φSt (enD sa ho cu on tw d0 d1 d2 d3) a ⟨aB,cR,3⟩),du wd aM (φLx ⟨aB,cR,3⟩) ec,pO,eMb,eCn]) (d:=14) 0 aq ao (.fe (jo [dt (enD sa ho cu on tw d0 d1 d2 d3),usA a,fdA [⟨aB,cR,3⟩] ] []) λ_ _=>
  .call (sR (enD sa ho cu on tw d0 d1 d2 d3) a ⟨aB,cR,3⟩ ⟨rfl,.inl rfl,.inr (.inr rfl)⟩ h ha) λr2 q2=>
  .call (gr (enD sa ho cu on tw d0 d1 d2 d3).s3 a h.s3 ha) λr3 q3=>
  .call nv λr4 q4=>
  .r (DCX.mk kE 3 30 cR r3) (te 3 _ _ _ _)) (by kernel_rfl)
theorem CL (h:EVP.Ok (enD sa ho cu on tw d0 d1 d2 d3)) (ha:a.length<=400000):bo wd cq φDc (rDc 1) [dt (enD sa ho cu on tw d0 d1 d2 d3),usA a,fdA [⟨aB,bz,1⟩],.str kp] []:=
 haveI:=jf (T:=[du wd aM (φLx ⟨aB,bz,1⟩) ec,pO,eMb,eCn]) (sC (enD sa ho cu on tw d0 d1 d2 d3) a ⟨aB,bz,1⟩)
 a7 (V:=VFl) (T:=[j0 bV [dt (enD sa ho cu on tw d0 d1 d2 d3),usA a,fdA [⟨aB,bz,1⟩] ] [] () (φSt (enD sa ho cu on tw d0 d1 d2 d3) a ⟨aB,bz,1⟩),du wd aM (φLx ⟨aB,bz,1⟩) ec,pO,eMb,eCn]) (d:=14) 0 aq ao (.fe (jo [dt (enD sa ho cu on tw d0 d1 d2 d3),usA a,fdA [⟨aB,bz,1⟩] ] []) λ_ _=>
  .call (sR (enD sa ho cu on tw d0 d1 d2 d3) a ⟨aB,bz,1⟩ ⟨rfl,.inr rfl,.inl rfl⟩ h ha) λr2 q2=>
  .call (gr (enD sa ho cu on tw d0 d1 d2 d3).s5 a h.s5 ha) λr3 q3=>
  .call nv λr4 q4=>
  .r (DCX.mk kp 1 10 bz r3) (te 1 _ _ _ _)) (by kernel_rfl)
theorem CK (h:EVP.Ok (enD sa ho cu on tw d0 d1 d2 d3)) (ha:a.length<=400000):bo wd cq φDc (rDc 2) [dt (enD sa ho cu on tw d0 d1 d2 d3),usA a,fdA [⟨aB,bz,2⟩],.str kp] []:=
 haveI:=jf (T:=[du wd aM (φLx ⟨aB,bz,2⟩) ec,pO,eMb,eCn]) (sC (enD sa ho cu on tw d0 d1 d2 d3) a ⟨aB,bz,2⟩)
 a7 (V:=VFl) (T:=[j0 bV [dt (enD sa ho cu on tw d0 d1 d2 d3),usA a,fdA [⟨aB,bz,2⟩] ] [] () (φSt (enD sa ho cu on tw d0 d1 d2 d3) a ⟨aB,bz,2⟩),du wd aM (φLx ⟨aB,bz,2⟩) ec,pO,eMb,eCn]) (d:=14) 0 aq ao (.fe (jo [dt (enD sa ho cu on tw d0 d1 d2 d3),usA a,fdA [⟨aB,bz,2⟩] ] []) λ_ _=>
  .call (sR (enD sa ho cu on tw d0 d1 d2 d3) a ⟨aB,bz,2⟩ ⟨rfl,.inr rfl,.inr (.inl rfl)⟩ h ha) λr2 q2=>
  .call (gr (enD sa ho cu on tw d0 d1 d2 d3).s5 a h.s5 ha) λr3 q3=>
  .call nv λr4 q4=>
  .r (DCX.mk kp 2 20 bz r3) (te 2 _ _ _ _)) (by kernel_rfl)
theorem CJ (h:EVP.Ok (enD sa ho cu on tw d0 d1 d2 d3)) (ha:a.length<=400000):bo wd cq φDc (rDc 3) [dt (enD sa ho cu on tw d0 d1 d2 d3),usA a,fdA [⟨aB,bz,3⟩],.str kp] []:=
 haveI:=jf (T:=[du wd aM (φLx ⟨aB,bz,3⟩) ec,pO,eMb,eCn]) (sC (enD sa ho cu on tw d0 d1 d2 d3) a ⟨aB,bz,3⟩)
 a7 (V:=VFl) (T:=[j0 bV [dt (enD sa ho cu on tw d0 d1 d2 d3),usA a,fdA [⟨aB,bz,3⟩] ] [] () (φSt (enD sa ho cu on tw d0 d1 d2 d3) a ⟨aB,bz,3⟩),du wd aM (φLx ⟨aB,bz,3⟩) ec,pO,eMb,eCn]) (d:=14) 0 aq ao (.fe (jo [dt (enD sa ho cu on tw d0 d1 d2 d3),usA a,fdA [⟨aB,bz,3⟩] ] []) λ_ _=>
  .call (sR (enD sa ho cu on tw d0 d1 d2 d3) a ⟨aB,bz,3⟩ ⟨rfl,.inr rfl,.inr (.inr rfl)⟩ h ha) λr2 q2=>
  .call (gr (enD sa ho cu on tw d0 d1 d2 d3).s5 a h.s5 ha) λr3 q3=>
  .call nv λr4 q4=>
  .r (DCX.mk kp 3 30 bz r3) (te 3 _ _ _ _)) (by kernel_rfl)
end
end Go.WF

namespace Go.WF
open Go Go.Ab Go.Proofs
theorem yM {r:RG} {a b y:TX} {x z:ATX} (e:ar (ofF r.ls) a=ar (ofF r.ls) b) (h1:CcR r a y x) (h2:CcR r b y z):x=z:=by
 unfold CcR at h1 h2
 rw [e] at h1
 rcases h1 with ⟨o1,i,hi,p1,n1,s1⟩ | ⟨o1,n1⟩ <;> rcases h2 with ⟨o2,j,hj,p2,n2,s2⟩ | ⟨o2,n2⟩
 ·have hij:i=j:=by
   rcases Nat.lt_trichotomy i j with h | h | h
   ·rw [n2 i h] at p1;cases p1
   ·exact h
   ·rw [n1 j h] at p2;cases p2
  subst hij
  exact Prod.ext (s1.trans s2.symm) (o1.trans o2.symm)
 ·rw [n2 i hi] at p1;cases p1
 ·rw [n1 j hj] at p2;cases p2
 ·rw [o1,o2]
theorem np {α:Type} {p:α->Bool} {d:α}:∀ {l:List α} {i:Nat},i < l.length->p (l.getD i d)=true->(∀j,j < i->p (l.getD j d)=false)->l.find? p=some (l.getD i d)
 | [],i,hi,_,_=>absurd hi (Nat.not_lt_zero _)
 | x::l,0,_,hp,_=>List.find?_cons_of_pos hp
 | x::l,i+1,hi,hp,hn=>by
  rw [List.find?_cons_of_neg (by have h0:p x=false:=hn 0 (Nat.succ_pos _);rw [h0];decide)]
  exact np (l:=l) (i:=i) (by simpa using hi) hp λj hj=>hn (j+1) (by omega)
theorem tI {r:RG} (h:VR r):bq r.ls r.now=r.ls:=by
 unfold bq
 rw [List.filter_eq_self]
 intro k hk
 obtain ⟨i,hi,e⟩:=List.mem_iff_getElem.1 hk
 have:=(h.lk i hi).2.2.2.2
 rw [List.getD_eq_getElem?_getD,List.getElem?_eq_getElem hi] at this
 rw [<-e]
 exact decide_eq_true this
theorem xt {r:RG} (h:VR r) {a:TX} {x:ATX} (hx:CcR r a aB x) (ho:x.2=true):atF r a aB r.now=x:=by
 rcases hx with ⟨_,i,hi,p,n,e⟩ | ⟨e,_⟩
 ·unfold atF
  rw [tI h]
  have hb:∀j,j < r.ss.length->atB r.ls aB (ar (ofF r.ls) a) r.now (r.ss.getD j default)=pIx r aB (ar (ofF r.ls) a) r.ss j:=by
   intro j hj
   have hv:=h.sv hj
   show atB _ _ _ _ _=y9 _ _ _ _
   generalize r.ss.getD j default=s at hv
   unfold atB y9
   rw [decide_eq_true hv.fr.2]
   rcases hv.fin with ⟨f,_⟩ | ⟨f,f1,f2⟩
   ·rw [f,beq_self_eq_true,cond_true,cond_true]
    cases s.layer==aB <;> rfl
   ·have f0:(s.fin==0)=false:=beq_eq_false_iff_ne.2 (by rcases f with f | f <;> omega)
    rw [f0,decide_eq_false (show ¬ s.to > r.now by omega)]
    cases s.layer==aB <;> rfl
  unfold atG
  rw [np (d:=default) hi (by rw [hb i hi];exact p) λj hj=>by rw [hb j (by omega)];exact n j hj]
  exact Prod.ext e.symm ho.symm
 ·rw [e] at ho;cases ho
theorem xZ {r:RG} {a b:TX} {n:Int} {x:MEX} (h:VR r) (hn:r.now<=n/\n<=1099511627776) (hb:r.ls.length < 64) (q:MeR r a b n x) (h0:x.2.2=0):ar (ofF x.1.ls) a=ar (ofF x.1.ls) b:=by
 obtain ⟨_,_,_,⟨e,e1⟩ | ⟨e,e1⟩⟩:=wm h hn hb q h0
 ·rw [e1];exact e
 ·obtain ⟨D,hD⟩:=rY r.ls
  rw [e1,ma]
  show ar (dg (ofF r.ls) a b) a=ar (dg (ofF r.ls) a b) b
  rw [xg hD e,l3 hD e]
  cases hl:aN (ar (ofF r.ls) a) (ar (ofF r.ls) b) with
  | true=>
   have e1:tmax (ar (ofF r.ls) a) (ar (ofF r.ls) b)=ar (ofF r.ls) b:=by unfold tmax;rw [hl];rfl
   rw [e1,if_pos rfl]
  | false=>
   have e1:tmax (ar (ofF r.ls) a) (ar (ofF r.ls) b)=ar (ofF r.ls) a:=by unfold tmax;rw [hl];rfl
   have e2:tmin (ar (ofF r.ls) a) (ar (ofF r.ls) b)=ar (ofF r.ls) b:=by unfold tmin;rw [hl,beq_eq_false_iff_ne.2 e];rfl
   rw [e1,e2,if_neg λh=>e h.symm]
theorem xn {r:RG} (h:VR r) {a:TX} {x:ATX} (hx:CcR r a aB x) (ho:x.2=true):fdF r a r.now=[⟨aB,x.1.exp,x.1.arm⟩]:=by
 have hne:r.ss≠[]:=by
  rcases hx with ⟨_,i,hi,_⟩ | ⟨e,_⟩
  ·intro e;rw [e] at hi;exact absurd hi (Nat.not_lt_zero _)
  ·rw [e] at ho;cases ho
 unfold fdF
 split
 ·contradiction
 ·unfold fdO
  rw [xt h hx ho,ho];rfl
theorem AI {r:RG} {a:TX} {x:ATX} (hx:CcR r a aB x) (ho:x.2=true):x.1∈r.ss:=by
 rcases hx with ⟨_,i,hi,_,_,e⟩ | ⟨e,_⟩
 ·rw [e,List.getD_eq_getElem?_getD,List.getElem?_eq_getElem hi]
  exact List.getElem_mem hi
 ·rw [e] at ho;cases ho
structure DvP (x:RG) (a b:TX) (s t:ATX):Prop where
 eq:s=t
 good:s.2=true->FdG ⟨s.1.layer,s.1.exp,s.1.arm⟩
 fa:s.2=true->fdF x a x.now=[⟨aB,s.1.exp,s.1.arm⟩]
 fb:s.2=true->fdF x b x.now=[⟨aB,s.1.exp,s.1.arm⟩]
theorem Ax {r:RG} {a b:TX} {n:Int} {x:MEX} (h:VR r) (hg:HG r) (hn:r.now<=n/\n<=1099511627776) (hb:r.ls.length < 64) (q:MeR r a b n x) (h0:x.2.2=0) {s t:ATX} (hs:CcR x.1 a aB s) (ht:CcR x.1 b aB t):DvP x.1 a b s t:=by
 have hv:=(wm h hn hb q h0).1
 have e:=yM (xZ h hn hb q h0) hs ht
 refine ⟨e,λho=>x4 hg q h0 _ (AI hs ho),λho=>xn hv hs ho,λho=>?_⟩
 rw [e]
 exact xn hv ht (e ▸ ho)
end Go.WF

namespace Go.WF
open Go Go.Ab Go.Proofs
noncomputable def VCh:Env:={V0 with grow:=onD [11]}
noncomputable instance envCh:EnvOk VCh wd:=⟨rfl,rfl,gX,ig⟩
def chD (w:Int):Int:=IntKind.wrap .i64 (1+Int.tmod (IntKind.wrap .i64 (IntKind.wrap IntKind.u8 (Int.tdiv w 16))) 2)
def upg (g:Nat->List AV) (i:Nat) (d:Int) (j:Nat):List AV:=bif Nat.beq j i then flC (match i with | 0=>kE | 1=>[115,104,111,112,45,102,108,97,103] | 2=>kp | _=>[116,111,112,45,102,108,97,103]) d else g j
def chB:Nat->List AV:=ay 0 4 (ai [.str [],.int .i64 0,.sl .fit 0 0 λx=>[],.bool false,.int .i64 0,.sl .fit 0 0 λx=>[],.sl .fit 0 0 λx=>[],.sl .fit 0 0 λx=>[],.int .i64 0,.str [],.str [],.str [],.sl .fit 0 0 λx=>[] ] []) (flR 3 3 3 3)
theorem xr (p:EVP) (g:Nat->List AV) (d0 d1 d2 d3:Int) (h:∀j,j < 4->g j=flR d0 d1 d2 d3 j):Tr (φEn {p with fl:=g}) (φEn {p with fl:=flR d0 d1 d2 d3}):=
 ⟨.inr ⟨rfl,λc v hr=>fH (.cons (.same rfl) (.cons (.same rfl) (.cons (.same rfl) (.cons (.same rfl) (.cons (.same rfl) (.cons (eE λj hj=>(h j hj).symm) (.cons (.same rfl) (.cons (.same rfl) .nil)))))))) hr⟩,.inl rfl⟩
def rCh (sa ho cu on tw:Int) (_:List AV) (_:List AO) (x:EVP):Prop:=∃d0 d1 d2 d3,x=enD sa ho cu on tw d0 d1 d2 d3
theorem Dj (sa ho cu on tw w:Int):bo wd c7 φEn (rCh sa ho cu on tw) [dt (enP sa ho cu on tw),.int .u8 w] []:=
 a7 (V:=VCh) (T:=[]) (d:=6) 0 aq ao (.b (bif IntKind.wrap .i64 (0+1)==0 then true else IntKind.wrap IntKind.u8 (↑(BitVec.toNat (BitVec.ofInt (IntKind.bits IntKind.u8) (Int.fdiv w (2 ^ min (Int.toNat (IntKind.wrap IntKind.u64 (IntKind.wrap .i64 (0+1)))) (IntKind.bits IntKind.u8))) &&& BitVec.ofInt (IntKind.bits IntKind.u8) 1)):Int)==1) (λh1=>
   .b (bif IntKind.wrap .i64 (IntKind.wrap .i64 (0+1)+1)==0 then true else IntKind.wrap IntKind.u8 (↑(BitVec.toNat (BitVec.ofInt (IntKind.bits IntKind.u8) (Int.fdiv w (2 ^ min (Int.toNat (IntKind.wrap IntKind.u64 (IntKind.wrap .i64 (IntKind.wrap .i64 (0+1)+1)))) (IntKind.bits IntKind.u8))) &&& BitVec.ofInt (IntKind.bits IntKind.u8) 1)):Int)==1) (λh2=>
    .b (bif IntKind.wrap .i64 (IntKind.wrap .i64 (IntKind.wrap .i64 (0+1)+1)+1)==0 then true else IntKind.wrap IntKind.u8 (↑(BitVec.toNat (BitVec.ofInt (IntKind.bits IntKind.u8) (Int.fdiv w (2 ^ min (Int.toNat (IntKind.wrap IntKind.u64 (IntKind.wrap .i64 (IntKind.wrap .i64 (IntKind.wrap .i64 (0+1)+1)+1)))) (IntKind.bits IntKind.u8))) &&& BitVec.ofInt (IntKind.bits IntKind.u8) 1)):Int)==1) (λh3=>
     .t (enD sa ho cu on tw (chD w) (chD w) (chD w) (chD w)) ⟨(chD w),(chD w),(chD w),(chD w),rfl⟩ (xr _ (upg (upg (upg (upg chB 0 (chD w)) 1 (chD w)) 2 (chD w)) 3 (chD w)) (chD w) (chD w) (chD w) (chD w) λj hj=>by
   match j,hj with
   | 0,_=>rfl
   | 1,_=>rfl
   | 2,_=>rfl
   | 3,_=>rfl)) λh3=>
    .t (enD sa ho cu on tw (chD w) (chD w) (chD w) 3) ⟨(chD w),(chD w),(chD w),3,rfl⟩ (xr _ (upg (upg (upg chB 0 (chD w)) 1 (chD w)) 2 (chD w)) (chD w) (chD w) (chD w) 3 λj hj=>by
   match j,hj with
   | 0,_=>rfl
   | 1,_=>rfl
   | 2,_=>rfl
   | 3,_=>rfl)) λh2=>
   .b (bif IntKind.wrap .i64 (IntKind.wrap .i64 (IntKind.wrap .i64 (0+1)+1)+1)==0 then true else IntKind.wrap IntKind.u8 (↑(BitVec.toNat (BitVec.ofInt (IntKind.bits IntKind.u8) (Int.fdiv w (2 ^ min (Int.toNat (IntKind.wrap IntKind.u64 (IntKind.wrap .i64 (IntKind.wrap .i64 (IntKind.wrap .i64 (0+1)+1)+1)))) (IntKind.bits IntKind.u8))) &&& BitVec.ofInt (IntKind.bits IntKind.u8) 1)):Int)==1) (λh4=>
    .t (enD sa ho cu on tw (chD w) (chD w) 3 (chD w)) ⟨(chD w),(chD w),3,(chD w),rfl⟩ (xr _ (upg (upg (upg chB 0 (chD w)) 1 (chD w)) 3 (chD w)) (chD w) (chD w) 3 (chD w) λj hj=>by
   match j,hj with
   | 0,_=>rfl
   | 1,_=>rfl
   | 2,_=>rfl
   | 3,_=>rfl)) λh4=>
   .t (enD sa ho cu on tw (chD w) (chD w) 3 3) ⟨(chD w),(chD w),3,3,rfl⟩ (xr _ (upg (upg chB 0 (chD w)) 1 (chD w)) (chD w) (chD w) 3 3 λj hj=>by
   match j,hj with
   | 0,_=>rfl
   | 1,_=>rfl
   | 2,_=>rfl
   | 3,_=>rfl)) λh1=>
  .b (bif IntKind.wrap .i64 (IntKind.wrap .i64 (0+1)+1)==0 then true else IntKind.wrap IntKind.u8 (↑(BitVec.toNat (BitVec.ofInt (IntKind.bits IntKind.u8) (Int.fdiv w (2 ^ min (Int.toNat (IntKind.wrap IntKind.u64 (IntKind.wrap .i64 (IntKind.wrap .i64 (0+1)+1)))) (IntKind.bits IntKind.u8))) &&& BitVec.ofInt (IntKind.bits IntKind.u8) 1)):Int)==1) (λh5=>
   .b (bif IntKind.wrap .i64 (IntKind.wrap .i64 (IntKind.wrap .i64 (0+1)+1)+1)==0 then true else IntKind.wrap IntKind.u8 (↑(BitVec.toNat (BitVec.ofInt (IntKind.bits IntKind.u8) (Int.fdiv w (2 ^ min (Int.toNat (IntKind.wrap IntKind.u64 (IntKind.wrap .i64 (IntKind.wrap .i64 (IntKind.wrap .i64 (0+1)+1)+1)))) (IntKind.bits IntKind.u8))) &&& BitVec.ofInt (IntKind.bits IntKind.u8) 1)):Int)==1) (λh6=>
    .t (enD sa ho cu on tw (chD w) 3 (chD w) (chD w)) ⟨(chD w),3,(chD w),(chD w),rfl⟩ (xr _ (upg (upg (upg chB 0 (chD w)) 2 (chD w)) 3 (chD w)) (chD w) 3 (chD w) (chD w) λj hj=>by
   match j,hj with
   | 0,_=>rfl
   | 1,_=>rfl
   | 2,_=>rfl
   | 3,_=>rfl)) λh6=>
   .t (enD sa ho cu on tw (chD w) 3 (chD w) 3) ⟨(chD w),3,(chD w),3,rfl⟩ (xr _ (upg (upg chB 0 (chD w)) 2 (chD w)) (chD w) 3 (chD w) 3 λj hj=>by
   match j,hj with
   | 0,_=>rfl
   | 1,_=>rfl
   | 2,_=>rfl
   | 3,_=>rfl)) λh5=>
  .b (bif IntKind.wrap .i64 (IntKind.wrap .i64 (IntKind.wrap .i64 (0+1)+1)+1)==0 then true else IntKind.wrap IntKind.u8 (↑(BitVec.toNat (BitVec.ofInt (IntKind.bits IntKind.u8) (Int.fdiv w (2 ^ min (Int.toNat (IntKind.wrap IntKind.u64 (IntKind.wrap .i64 (IntKind.wrap .i64 (IntKind.wrap .i64 (0+1)+1)+1)))) (IntKind.bits IntKind.u8))) &&& BitVec.ofInt (IntKind.bits IntKind.u8) 1)):Int)==1) (λh7=>
   .t (enD sa ho cu on tw (chD w) 3 3 (chD w)) ⟨(chD w),3,3,(chD w),rfl⟩ (xr _ (upg (upg chB 0 (chD w)) 3 (chD w)) (chD w) 3 3 (chD w) λj hj=>by
   match j,hj with
   | 0,_=>rfl
   | 1,_=>rfl
   | 2,_=>rfl
   | 3,_=>rfl)) λh7=>
  .t (enD sa ho cu on tw (chD w) 3 3 3) ⟨(chD w),3,3,3,rfl⟩ (xr _ (upg chB 0 (chD w)) (chD w) 3 3 3 λj hj=>by
   match j,hj with
   | 0,_=>rfl
   | 1,_=>rfl
   | 2,_=>rfl
   | 3,_=>rfl)) (by kernel_rfl)
def rFg (A:List AV) (_:List AO) (x:TX):Prop:=(∀v,A=[v,.str cR]->x=kE)/\∀v,A=[v,.str bz]->x=kp
theorem vg {v:AV} {e x:TX} {os:List AO} (h:(e=cR->x=kE)/\(e=bz->x=kp)):rFg [v,.str e] os x:=⟨λv' q=>by
 injection q with _ q;injection q with q;injection q with q;exact h.1 q,λv' q=>by
 injection q with _ q;injection q with q;injection q with q;exact h.2 q⟩
theorem Ak (p:EVP) (e:TX) (k1:p.g1=kE) (k3:p.g3=kp):bo wd eU φTX rFg [dt p,.str e] []:=
 a7 (V:=V0) (T:=[]) (d:=6) 0 aq ao (.b ([98,108,117,101]==e) (λh1=>
   .r p.g1 (vg ⟨λ_=>k1,λh=>by subst h;exact absurd h1 (by decide)⟩)) λh1=>
  .b ([102,97,115,116]==e) (λh2=>
   .r p.g2 (vg ⟨λh=>by subst h;exact absurd h1 (by decide),λh=>by subst h;exact absurd h2 (by decide)⟩)) λh2=>
  .b ([103,114,101,101,110]==e) (λh3=>
   .r p.g3 (vg ⟨λh=>by subst h;exact absurd h1 (by decide),λ_=>k3⟩)) λh3=>
  .b ([115,108,111,119]==e) (λh4=>
   .r p.g4 (vg ⟨λh=>by subst h;exact absurd h1 (by decide),λh=>by subst h;exact absurd h3 (by decide)⟩)) λh4=>
  .r [] (vg ⟨λh=>by subst h;exact absurd h1 (by decide),λh=>by subst h;exact absurd h3 (by decide)⟩)) (by kernel_rfl)
def kfO (e:TX):TX:=bif e==cR then kE else kp
theorem CP {sa ho cu on tw d0 d1 d2 d3:Int} {a:TX} (ha:a.length<=400000) (f:FD) (hf:FdG f) {l:List FD} (hl:l=[f]):bo wd cq φDc (rDc f.arm) [dt (enD sa ho cu on tw d0 d1 d2 d3),usA a,fdA l,.str (kfO f.exp)] []:=by
 subst hl
 obtain ⟨y,e,m⟩:=f
 obtain ⟨h1,h2,h3⟩:=hf
 dsimp only at h1 h2 h3 ⊢
 subst h1
 have hp:=Av sa ho cu on tw d0 d1 d2 d3
 rcases h2 with rfl | rfl <;> rcases h3 with rfl | rfl | rfl
 ·exact CO hp ha
 ·exact CN hp ha
 ·exact CM hp ha
 ·exact CL hp ha
 ·exact CK hp ha
 ·exact CJ hp ha
def rDd (A:List AV) (_:List AO) (x:DCX):Prop:=∀r v u a k n f,A=[rgA r,v,u,.str a,.str k,.int .i64 n]->fdF r a n=[f]->x.arm=f.arm
theorem Az {sa ho cu on tw d0 d1 d2 d3:Int} {r:RG} {a b:TX} {n:Int} (hr:VR r) (hg:Be r) (ha:a.length<=400000) (f:FD) (hf:FdG f) (h:fdF r b n=[f]) {k:TX} (hk:k=kfO f.exp):bo wd fF φDc rDd [rgA r,dt (enD sa ho cu on tw d0 d1 d2 d3),usA a,.str b,.str k,.int .i64 n] []:=by
 subst hk
 refine (a7 (V:=V0) (T:=[eFd,du wd cq φDc (rDc f.arm)]) (d:=2) (R:=rDc f.arm) 0 aq ao (.call (Al r b n hr (by have:=hr.nls;omega) (by have:=hr.nss;omega)) λr1 q1=>
  .call (CP (sa:=sa) (ho:=ho) (cu:=cu) (on:=on) (tw:=tw) (d0:=d0) (d1:=d1) (d2:=d2) (d3:=d3) ha f hf (((q1 r b n rfl).2 hg).trans h)) λr2 q2=>
  .r r2 q2) (by kernel_rfl)).mono λx hx r' v' u' a' k' n' f' e h'=>?_
 simp only [List.cons.injEq,AV.str.injEq,AV.int.injEq,true_and,and_true] at e
 obtain ⟨e1,_,_,e2,_,e3⟩:=e
 rw [<-gT e1,<-e2,<-e3,h] at h'
 injection h' with h'
 rw [<-h'];exact hx
noncomputable abbrev eDd:Ent:=du wd fF φDc rDd
noncomputable abbrev eFg:Ent:=du wd eU φTX rFg
end Go.WF

namespace Go.WF
open Go Go.Ab Go.Proofs
noncomputable def VPa:Env:={V0 with hint:=λf t=>cond (Nat.beq f 85) (vM [61] (V0.hint f t)) (cond (Nat.beq f 45) (vM [20] (V0.hint f t)) (V0.hint f t)),trim:=λf p=>cond (Nat.beq f 85) ((V0.trim f p).map (vM [61])) (cond (Nat.beq f 45) ((V0.trim f p).map (vM [20])) (V0.trim f p))}
def mpA:AO:=AO.mp false [KD.str] (λl=>bif cD l [.str bB] then true else false) λl=>bif cD l [.str bB] then .int .i64 0 else .int .i64 0
def φDi (_:Unit):AV×List AO:=(.mref ae,[mpA])
def zT:AV:=.sl .no 3 0 λx=>[.str [],.str [],.int .i64 0]
def φPt (_:Unit):AV×List AO:=(.tup [zT,.bool true],[])
abbrev exS (e:TX) (m:Int):SL:=⟨bB,aB,e,m,1,0,0⟩
abbrev exR (e:TX) (m:Int):RG:=⟨1,[],[exS e m]⟩
def xrL (e:TX) (m b:Int):List AV:=[.str bB,.int .i64 1,.str bB,.str aB,.str e,.int .i64 m,.int .i64 1,.int .i64 0,.int .i64 0,.int .i64 b,zT]
def φXp (e:TX) (m:Int) (b:Int):AV×List AO:=(.tup [.agg (xrL e m b),.int .i64 0],[])
noncomputable instance envPa:EnvOk VPa wd:=⟨rfl,rfl,gX,ig⟩
theorem Db:Ct wd.P wd.G dV [lkA [],.str bB] [] (φDi ()):=by
 obtain ⟨_,_,h⟩:bo wd dV φDi ec [lkA [],.str bB] []:=a7 (V:=VPa) (T:=[]) (d:=16) 1 aq ao (.r () trivial) (by kernel_rfl)
 exact h
theorem BW:Ct wd.P wd.G dW [lkA [],.str bB,.str bB] [] (φPt ()):=by
 haveI:=jf (T:=[]) Db
 obtain ⟨_,_,h⟩:bo wd dW φPt ec [lkA [],.str bB,.str bB] []:=a7 (V:=VPa) (T:=[j0 dV [lkA [],.str bB] [] () φDi]) (d:=16) 0 aq ao (.fe (jo [lkA [],.str bB] []) λ_ _=>
  .r () trivial) (by kernel_rfl)
 exact h
theorem yC {e:TX} {m:Int} (he:cC e=true) (hm:1<=m/\m<=8):VR (exR e m):=xe Bi ⟨by decide,by decide⟩ (by decide) nO rN he hm λj h=>absurd h (Nat.not_lt_zero _)
theorem DN {l:List AV} {os:List AO} {x:Bool} (q:rE true l os x):(!x)=false:=by have q:x=true:=q;rw [q];rfl
theorem C4 {e:TX} {m:Int} (he:cC e=true) (hm:1<=m/\m<=8):Ct wd.P wd.G fP [rgA (exR e m),.str bB,.str aB,.int .i64 1] [] (φAt (exS e m,true)):=by
 obtain ⟨x,hx,h⟩:=AX (exR e m) bB aB 1 (by show (0:Nat)<=_;decide) (by show (1:Nat)<=_;decide)
 have hx:x=_:=hx _ _ _ _ rfl
 have hc:CcR (exR e m) bB aB (exS e m,true):=.inl ⟨rfl,0,Nat.zero_lt_one,by
  show (bif bif ((0:Int)==0) then aB==aB else false then ar (ofF []) bB==ar (ofF []) bB else false)=true
  simp only [beq_self_eq_true,cond_true],λj h=>absurd h (Nat.not_lt_zero _),rfl⟩
 rw [hx,xt (yC he hm) hc rfl] at h
 exact h
theorem C3:Ct wd.P wd.G cv [lkA [],.int .i64 1] [] (φLk []):=by
 obtain ⟨x,hx,h⟩:=zo [] 1 (by show (0:Nat)<=_;decide)
 have hx:x=_:=hx _ _ rfl
 rw [hx] at h;exact h
theorem Bf (p:EVP) (hp:p.Ok) {e:TX} {m:Int} (he:cC e=true) (hm:1<=m/\m<=8):Ct wd.P wd.G cS [rgA (exR e m),dt p,.str bB,.str aB,.int .i64 1] [] (φXp e m (bkF p.s1 bB)):=by
 haveI:=jf (T:=[]) BW
 haveI:=jf (T:=[j0 dW [lkA [],.str bB,.str bB] [] () φPt]) C3
 haveI:=jf (T:=[j0 cv [lkA [],.int .i64 1] [] [] φLk,j0 dW [lkA [],.str bB,.str bB] [] () φPt]) (C4 he hm)
 obtain ⟨x,hx,h⟩:bo wd cS (φXp e m) (rE (bkF p.s1 bB)) [rgA (exR e m),dt p,.str bB,.str aB,.int .i64 1] []:=a7 (V:=V0) (T:=[eVa,pO,j0 fP [rgA (exR e m),.str bB,.str aB,.int .i64 1] [] (exS e m,true) φAt,j0 cv [lkA [],.int .i64 1] [] [] φLk,j0 dW [lkA [],.str bB,.str bB] [] () φPt]) (d:=3) 0 aq ao (.call (tH (yC he hm)) λr1 q1=>
  .no (c:=!r1) (a:=some ((.tup [.agg [.str [],.int .i64 0,.str [],.str [],.str [],.int .i64 0,.int .i64 0,.int .i64 0,.int .i64 0,.int .i64 0,.sl .fit 0 0 λx=>[] ],.int .i64 25],[]))) (DN q1) (
  .call (tH (yC he hm)) λr3 q3=>
  .no (c:=!r1) (a:=some ((.tup [.agg [.str [],.int .i64 0,.str [],.str [],.str [],.int .i64 0,.int .i64 0,.int .i64 0,.int .i64 0,.int .i64 0,.sl .fit 0 0 λx=>[] ],.int .i64 11],[]))) (DN q1) (
  .fe (jo [rgA (exR e m),.str bB,.str aB,.int .i64 1] []) λ_ _=>
  .fe (jo [lkA [],.int .i64 1] []) λ_ _=>
  .fe (jo [lkA [],.str bB,.str bB] []) λ_ _=>
  .call (gr p.s1 bB hp.s1 (by decide)) λr5 q5=>
  .r r5 (q5 _ _ rfl)))) (by kernel_rfl)
 have hx:x=_:=hx
 rw [hx] at h;exact h
end Go.WF

namespace Go.WF
open Go Go.Ab Go.Proofs
def rCk (p:EVP) (A:List AV) (_:List AO) (x:Int):Prop:=∀e m b v,A=[.agg (xrL e m b),v]->(b=bkF p.s1 bB->x=0)/\(b≠bkF p.s1 bB->x=3)
theorem zd {e e':TX} {m m' b b':Int} (h:AV.agg (xrL e m b)=.agg (xrL e' m' b')):b=b':=by
 simp only [xrL,AV.agg.injEq,List.cons.injEq,AV.int.injEq,true_and,and_true] at h
 exact h.2.2
section
variable {p:EVP} {e:TX} {m b r r':Int} {v:AV} {os:List AO}
theorem DY {x:Bool} (q:rS cC [.str bB] os x):(!x)=false:=by rw [q bB rfl,nO];rfl
theorem vK {x:Bool} {P:Prop} (q:rS cC [.str bB] os x) (h:(!x)=true):P:=by rw [q bB rfl,nO] at h;cases h
theorem D0 (q:r=bkF p.s1 bB) (h:(b !=r)=true):rCk p [.agg (xrL e m b),v] os 3:=λe' m' b' v' h'=>by
 injection h' with h' _
 rw [<-zd h']
 rw [q] at h
 exact ⟨λh2=>by rw [h2] at h;simp at h,λ_=>rfl⟩
theorem D1 (q:r=bkF p.s1 bB) (h:(b !=r)=false):rCk p [.agg (xrL e m b),v] os 0:=λe' m' b' v' h'=>by
 injection h' with h' _
 rw [<-zd h']
 rw [q] at h
 exact ⟨λ_=>rfl,λh2=>absurd (by simpa using h) h2⟩
theorem DZ {c:Bool} (hc:b=bkF p.s1 bB->c=true) (q:r=bkF p.s1 bB) (h:(b !=r)=false):c=true:=hc (by rw [q] at h;simpa using h)
theorem DX {k:Int} (hm:m=pkF (arms p) k) (q:r=k) (q2:r'=pkF (arms p) r):(m !=r')=false:=by rw [q2,q,hm];simp
end
theorem FM (p:EVP) (hp:p.Ok) (m b:Int) (hc:b=bkF p.s1 bB->(bif decide (p.ho<=b) then decide (b < p.c) else false)=true) (hm:m=pkF (arms p) (bkF p.s3 bB)):bo wd gI φIn (rCk p) [.agg (xrL cR m b),dt p] []:=
 a7 (V:=V0) (T:=[kG,pO,C7]) (d:=16) 0 aq ao (.call (dP bB) λr1 q1=>
  .b (!r1) (λh2=>
   .b (!r1) (λh3=>
    .r 6 (vK q1 h2)) λh3=>
   .call (gr p.s1 bB hp.s1 (by decide)) λr4 q4=>
   .b (b !=r4) (λh5=>
    .r 3 (vK q1 h2)) λh5=>
   .b (bif decide (EVP.ho p<=b) then decide (b < EVP.c p) else false) (λh6=>
    .call (gr p.s3 bB hp.s3 (by decide)) λr7 q7=>
    .call (l8 p r7) λr8 q8=>
    .b (m !=r8) (λh9=>
     .r 23 (vK q1 h2)) λh9=>
    .r 0 (vK q1 h2)) λh6=>
   .r 25 (vK q1 h2)) λh2=>
  .call (dP bB) λr10 q10=>
  .no (c:=!r1) (a:=some ((.int .i64 6,[]))) (DY q1) (
  .call (gr p.s1 bB hp.s1 (by decide)) λr12 q12=>
  .b (b !=r12) (λh13=>
   .r 3 (D0 (q12 _ _ rfl) h13)) λh13=>
  .yea (c:=bif decide (EVP.ho p<=b) then decide (b < EVP.c p) else false) (b:=some ((.int .i64 25,[]))) (DZ hc (q12 _ _ rfl) h13) (
  .call (gr p.s3 bB hp.s3 (by decide)) λr15 q15=>
  .call (l8 p r15) λr16 q16=>
  .no (c:=m !=r16) (a:=some ((.int .i64 23,[]))) (DX hm (q15 _ _ rfl) (q16 _ _ rfl)) (
  .r 0 (D1 (q12 _ _ rfl) h13))))) (by kernel_rfl)
theorem FL (p:EVP) (hp:p.Ok) (m b:Int) (hc:b=bkF p.s1 bB->(bif decide (p.c<=b) then decide (b < 10000) else false)=true) (hm:m=pkF (arms p) (bkF p.s5 bB)):bo wd gI φIn (rCk p) [.agg (xrL bz m b),dt p] []:=
 a7 (V:=V0) (T:=[kG,pO,C7]) (d:=16) 0 aq ao (.call (dP bB) λr1 q1=>
  .b (!r1) (λh2=>
   .b (!r1) (λh3=>
    .r 6 (vK q1 h2)) λh3=>
   .call (gr p.s1 bB hp.s1 (by decide)) λr4 q4=>
   .b (b !=r4) (λh5=>
    .r 3 (vK q1 h2)) λh5=>
   .b (bif decide (EVP.c p<=b) then decide (b < 10000) else false) (λh6=>
    .call (gr p.s5 bB hp.s5 (by decide)) λr7 q7=>
    .call (l8 p r7) λr8 q8=>
    .b (m !=r8) (λh9=>
     .r 23 (vK q1 h2)) λh9=>
    .r 0 (vK q1 h2)) λh6=>
   .r 25 (vK q1 h2)) λh2=>
  .call (dP bB) λr10 q10=>
  .no (c:=!r1) (a:=some ((.int .i64 6,[]))) (DY q1) (
  .call (gr p.s1 bB hp.s1 (by decide)) λr12 q12=>
  .b (b !=r12) (λh13=>
   .r 3 (D0 (q12 _ _ rfl) h13)) λh13=>
  .yea (c:=bif decide (EVP.c p<=b) then decide (b < 10000) else false) (b:=some ((.int .i64 25,[]))) (DZ hc (q12 _ _ rfl) h13) (
  .call (gr p.s5 bB hp.s5 (by decide)) λr15 q15=>
  .call (l8 p r15) λr16 q16=>
  .no (c:=m !=r16) (a:=some ((.int .i64 23,[]))) (DX hm (q15 _ _ rfl) (q16 _ _ rfl)) (
  .r 0 (D1 (q12 _ _ rfl) h13))))) (by kernel_rfl)
noncomputable abbrev eCk (p:EVP):Ent:=du wd gI φIn (rCk p)
end Go.WF

namespace Go.WF
open Go Go.Ab Go.Proofs
def pX:EVP:=enP 0 0 9998 4000 3000
theorem wg:pX.Ok:=pz 0 0 9998 4000 3000
theorem zR:pX.ho=0:=by kernel_rfl
theorem DH:pX.c=9999:=by kernel_rfl
theorem xT:arms pX=[⟨0,4001,1⟩,⟨4001,7002,2⟩,⟨7002,10000,3⟩]:=by kernel_rfl
theorem zQ {k:Int} (h:0<=k/\k < 10000):1<=pkF (arms pX) k/\pkF (arms pX) k<=8:=by
 have hp:∀ {a b v:Int} {l:List SPN},pkF (⟨a,b,v⟩::l) k=if a<=k/\k < b then v else pkF l k:=fun {a b v l}=>by
  unfold pkF
  by_cases h:a<=k/\k < b
  ·rw [if_pos h,List.find?_cons_of_pos (by unfold pkB;simp [h.1,h.2])]
  ·rw [if_neg h,List.find?_cons_of_neg (by
    unfold pkB
    by_cases h1:a<=k
    ·have h2:¬ k < b:=λh2=>h ⟨h1,h2⟩
     simp [h1,h2]
    ·simp [h1])]
 rw [xT,hp,hp,hp]
 split
 ·decide
 ·split
  ·decide
  ·split
   ·decide
   ·omega
structure ExG (g:AG):Prop where
 held:g.held=false
 key:cC g.exp=true
 arm:1<=g.arm/\g.arm<=8
 chk:∀b,bo wd gI φIn (rCk pX) [.agg (xrL g.exp g.arm b),dt pX] []
theorem uU:cC bz=true:=by kernel_rfl
theorem Ao {g:AG} (h:LyR pX bB [] g):ExG g:=by
 obtain ⟨ru,_,h⟩:=h
 obtain ⟨b0,b1⟩:=sj pX.s1 bB
 have hc:=DH
 have h3:=zQ (sj pX.s3 bB)
 have h5:=zQ (sj pX.s5 bB)
 have e:(foF [] aB).2=false:=rfl
 unfold lyG at h
 rw [e,zR,DH,decide_eq_false (show ¬ bkF pX.s1 bB < 0 by omega),decide_eq_true b0,decide_eq_true b1] at h
 simp only [cond_false,cond_true] at h
 by_cases hb:bkF pX.s1 bB < 9999
 ·rw [decide_eq_true hb] at h
  simp only [cond_true] at h
  rw [h]
  exact ⟨rfl,wx,h3,λb=>FM pX wg _ b (λh2=>by rw [h2,zR,hc,decide_eq_true b0,decide_eq_true hb];rfl) rfl⟩
 ·rw [decide_eq_false hb,decide_eq_true (show 9999<=bkF pX.s1 bB by omega)] at h
  simp only [cond_true,cond_false] at h
  rw [h]
  exact ⟨rfl,uU,h5,λb=>FL pX wg _ b (λh2=>by rw [h2,hc,decide_eq_true b1,decide_eq_true (show 9999<=bkF pX.s1 bB by omega)];rfl) rfl⟩
theorem E0:∃g,ExG g/\Ct wd.P wd.G aM [dt pX,usA bB,.sl .fit 0 0 λx=>[],.str aB] [] (φLy g):=by
 obtain ⟨g,hg,hc⟩:=uI pX bB [] wg (by decide) (by decide)
 refine ⟨g,Ao hg,hc.args rfl rfl λi u u' hu hu' c v hr=>?_⟩
 match i,hu,hu' with
 | 0,hu,hu'=>injection hu with hu;injection hu' with hu';subst hu hu';exact hr
 | 1,hu,hu'=>injection hu with hu;injection hu' with hu';subst hu hu';exact hr
 | 2,hu,hu'=>injection hu with hu;injection hu' with hu';subst hu hu';exact bZ.2 c v hr
 | 3,hu,hu'=>injection hu with hu;injection hu' with hu';subst hu hu';exact hr
theorem FV {g:AG} (h:ExG g):Ct wd.P wd.G bG [.agg [.int .i64 0,.sl .fit 0 0 λx=>[],.sl .fit 0 0 λx=>[] ],.str bB,.agg [.str aB,.str g.exp,.int .i64 g.bk,.int .i64 g.arm,.bool g.held],.int .i64 0,.int .i64 1] [] (φAs (exR g.exp g.arm,exS g.exp g.arm,0)):=by
 obtain ⟨x,hx,hc⟩:=A0 rg0 bB aB g.exp g.bk g.arm g.held 1 Bi ⟨by decide,by decide⟩ (by decide)
 have hx:=hx rg0 bB aB g.exp g.bk g.arm g.held 1 rfl
 have e:x=(exR g.exp g.arm,exS g.exp g.arm,0):=by
  rcases hx with ⟨_,e⟩ | ⟨_,e⟩ | ⟨_,_,i,e,_⟩ | ⟨e0,_,_,_,_,_,_,e1,e2⟩
  ·rw [nO,rN] at e;cases e
  ·rw [h.held,h.key,decide_eq_false (show ¬ g.arm < 1 by have:=h.arm;omega),decide_eq_false (show ¬ g.arm > 8 by have:=h.arm;omega)] at e;cases e
  ·exact absurd e (Nat.not_lt_zero _)
  ·obtain ⟨x1,x2,x3⟩:=x
   have e0:x3=0:=e0
   have e1:x1=_:=e1
   have e2:x2=_:=e2
   rw [e0,e1,e2];rfl
 rw [e] at hc
 refine hc.args rfl rfl λi u u' hu hu' c v hr=>?_
 match i,hu,hu' with
 | 0,hu,hu'=>
  injection hu with hu;injection hu' with hu'
  subst hu hu'
  exact fH (.cons (.same rfl) (.cons bZ (.cons bZ .nil))) hr
 | 1,hu,hu'=>injection hu with hu;injection hu' with hu';subst hu hu';exact hr
 | 2,hu,hu'=>injection hu with hu;injection hu' with hu';subst hu hu';exact hr
 | 3,hu,hu'=>injection hu with hu;injection hu' with hu';subst hu hu';exact hr
 | 4,hu,hu'=>injection hu with hu;injection hu' with hu';subst hu hu';exact hr
theorem C6:Ct wd.P wd.G bH [.int .u8 0,.int .u8 0,.int .u16 9998,.int .u16 4000,.int .u16 3000] [] (φEn pX):=by
 obtain ⟨x,hx,hc⟩:=Au 0 0 9998 4000 3000 (by decide) (by decide) (by decide) (by decide)
 have hx:x=pX:=hx _ _ _ _ _ rfl
 rw [hx] at hc;exact hc
theorem Et:Ct wd.P wd.G cn [.str bB] [] (φUs bB):=by
 obtain ⟨x,hx,hc⟩:=su bB
 have hx:x=bB:=hx _ rfl
 rw [hx] at hc;exact hc
theorem Fv:Int.tmod (IntKind.wrap .i64 (bkF pX.s1 bB+1)) 10000≠bkF pX.s1 bB:=by
 obtain ⟨h0,h1⟩:=sj pX.s1 bB
 rw [wrap_i64 (by omega) (by omega),Int.tmod_eq_emod_of_nonneg (by omega)]
 omega
theorem Ap {g:AG} (hg:ExG g) {x y:Int} {A:List AV} {os:List AO} (h1:(bkF pX.s1 bB=bkF pX.s1 bB->x=0)/\(bkF pX.s1 bB≠bkF pX.s1 bB->x=3)) (h2:(Int.tmod (IntKind.wrap .i64 (bkF pX.s1 bB+1)) 10000=bkF pX.s1 bB->y=0)/\(Int.tmod (IntKind.wrap .i64 (bkF pX.s1 bB+1)) 10000≠bkF pX.s1 bB->y=3)):rE true A os (bif bif bif bif bif bif bif (0:Int)==0 then (0:Int)==0 else false then (0:Int)==0 else false then decide (AG.arm g > 0) else false then AG.arm g==AG.arm g else false then bB==[97,110,110] else false then x==0 else false then y==3 else false):=by
 rw [h1.1 rfl,h2.2 Fv,decide_eq_true (show g.arm > 0 by have:=hg.arm;omega)]
 show _=true
 simp only [beq_self_eq_true,cond_true]
theorem Aq:bo wd dX φBo (rE true) [] []:=by
 obtain ⟨g,hg,hl⟩:=E0
 haveI:=jf (T:=[eCk pX]) (Bf pX wg hg.key hg.arm)
 haveI:=jf (T:=[j0 cS [rgA (exR g.exp g.arm),dt pX,.str bB,.str aB,.int .i64 1] [] (bkF pX.s1 bB) (φXp g.exp g.arm),eCk pX]) (FV hg)
 haveI:=jf (T:=[j0 bG [.agg [.int .i64 0,.sl .fit 0 0 λx=>[],.sl .fit 0 0 λx=>[] ],.str bB,.agg [.str aB,.str g.exp,.int .i64 g.bk,.int .i64 g.arm,.bool g.held],.int .i64 0,.int .i64 1] [] (exR g.exp g.arm,exS g.exp g.arm,0) φAs,j0 cS [rgA (exR g.exp g.arm),dt pX,.str bB,.str aB,.int .i64 1] [] (bkF pX.s1 bB) (φXp g.exp g.arm),eCk pX]) hl
 haveI:=jf (T:=[j0 aM [dt pX,usA bB,.sl .fit 0 0 λx=>[],.str aB] [] g φLy,j0 bG [.agg [.int .i64 0,.sl .fit 0 0 λx=>[],.sl .fit 0 0 λx=>[] ],.str bB,.agg [.str aB,.str g.exp,.int .i64 g.bk,.int .i64 g.arm,.bool g.held],.int .i64 0,.int .i64 1] [] (exR g.exp g.arm,exS g.exp g.arm,0) φAs,j0 cS [rgA (exR g.exp g.arm),dt pX,.str bB,.str aB,.int .i64 1] [] (bkF pX.s1 bB) (φXp g.exp g.arm),eCk pX]) Et
 haveI:=jf (T:=[j0 cn [.str bB] [] bB φUs,j0 aM [dt pX,usA bB,.sl .fit 0 0 λx=>[],.str aB] [] g φLy,j0 bG [.agg [.int .i64 0,.sl .fit 0 0 λx=>[],.sl .fit 0 0 λx=>[] ],.str bB,.agg [.str aB,.str g.exp,.int .i64 g.bk,.int .i64 g.arm,.bool g.held],.int .i64 0,.int .i64 1] [] (exR g.exp g.arm,exS g.exp g.arm,0) φAs,j0 cS [rgA (exR g.exp g.arm),dt pX,.str bB,.str aB,.int .i64 1] [] (bkF pX.s1 bB) (φXp g.exp g.arm),eCk pX]) C6
 exact a7 (V:=V0) (T:=[j0 bH [.int .u8 0,.int .u8 0,.int .u16 9998,.int .u16 4000,.int .u16 3000] [] pX φEn,j0 cn [.str bB] [] bB φUs,j0 aM [dt pX,usA bB,.sl .fit 0 0 λx=>[],.str aB] [] g φLy,j0 bG [.agg [.int .i64 0,.sl .fit 0 0 λx=>[],.sl .fit 0 0 λx=>[] ],.str bB,.agg [.str aB,.str g.exp,.int .i64 g.bk,.int .i64 g.arm,.bool g.held],.int .i64 0,.int .i64 1] [] (exR g.exp g.arm,exS g.exp g.arm,0) φAs,j0 cS [rgA (exR g.exp g.arm),dt pX,.str bB,.str aB,.int .i64 1] [] (bkF pX.s1 bB) (φXp g.exp g.arm),eCk pX]) (d:=1) 0 aq ao (.fe (jo [.int .u8 0,.int .u8 0,.int .u16 9998,.int .u16 4000,.int .u16 3000] []) λ_ _=>
  .fe (jo [.str bB] []) λ_ _=>
  .fe (jo [dt pX,usA bB,.sl .fit 0 0 λx=>[],.str aB] []) λ_ _=>
  .fe (jo [.agg [.int .i64 0,.sl .fit 0 0 λx=>[],.sl .fit 0 0 λx=>[] ],.str bB,.agg [.str aB,.str g.exp,.int .i64 g.bk,.int .i64 g.arm,.bool g.held],.int .i64 0,.int .i64 1] []) λ_ _=>
  .fe (jo [rgA (exR g.exp g.arm),dt pX,.str bB,.str aB,.int .i64 1] []) λ_ _=>
  .call (hg.chk _) λr1 q1=>
  .call (hg.chk _) λr2 q2=>
  .r (bif bif bif bif bif bif bif 0==0 then 0==0 else false then 0==0 else false then decide (AG.arm g > 0) else false then AG.arm g==AG.arm g else false then bB==[97,110,110] else false then r1==0 else false then r2==3 else false) (Ap hg (q1 _ _ _ _ rfl) (q2 _ _ _ _ rfl))) (by kernel_rfl)
noncomputable abbrev eEx:Ent:=du wd dX φBo (rE true)
end Go.WF

namespace Go.WF
open Go Go.Ab Go.Proofs
section
variable {sa ho cu on tw w:Int} {l:List VSX} {a b:Nat} {os o1 o2 o3 o4 o5 o6 o7:List AO} {A A':List AV} {r4 r14:EVP} {r5:RG×List EV} {r6 r7 k u:TX} {r8:MEX} {r10 r11:ATX} {x y:DCX}
theorem FH {x:Bool} (q:rE true A os x):(!x)=false:=by have q:x=true:=q;rw [q];rfl
theorem oq (h:decide ((List.length l:Int) > 40)=false):l.length<=40:=by have:=of_decide_eq_false h;omega
theorem Ba (q:rEn [.int .u8 sa,.int .u8 ho,.int .u16 cu,.int .u16 on,.int .u16 tw] os r4):r4=enP sa ho cu on tw:=q _ _ _ _ _ rfl
theorem Fz (q:rEn [.int .u8 sa,.int .u8 ho,.int .u16 cu,.int .u16 on,.int .u16 tw] os r4):r4.Ok:=by rw [Ba q];exact pz _ _ _ _ _
theorem DP (q:rEn [.int .u8 sa,.int .u8 ho,.int .u16 cu,.int .u16 on,.int .u16 tw] os r4):∃d0 d1 d2 d3,r4=enD sa ho cu on tw d0 d1 d2 d3:=⟨3,3,3,3,(Ba q).trans rfl⟩
theorem DQ (q:rEn [.int .u8 sa,.int .u8 ho,.int .u16 cu,.int .u16 on,.int .u16 tw] os r4):r4.g1=kE/\r4.g3=kp:=by rw [Ba q];exact ⟨rfl,rfl⟩
theorem D2 (q:rCh sa ho cu on tw A os r14):r14.g1=kE/\r14.g3=kp:=by
 obtain ⟨d0,d1,d2,d3,e⟩:=q
 rw [e];exact ⟨rfl,rfl⟩
theorem Dk (q:rEn [.int .u8 sa,.int .u8 ho,.int .u16 cu,.int .u16 on,.int .u16 tw] os r4):bo wd c7 φEn (rCh sa ho cu on tw) [dt r4,.int .u8 w] []:=by rw [Ba q];exact Dj _ _ _ _ _ _
theorem y8 (hl:l.length<=40) (q5:rVi [dt r4,vsA l] o1 r5):VR r5.1/\(r5.1.now<=IntKind.wrap .i64 (r5.1.now+1)/\IntKind.wrap .i64 (r5.1.now+1)<=1099511627776)/\r5.1.ls.length < 64/\r5.1.ss.length<=51/\HG r5.1:=by
 obtain ⟨e,l',h,hv⟩:=q5
 simp only [List.cons.injEq,and_true] at h
 have hl':l'.length<=40:=by
  have h2:=h.2
  unfold vsA at h2
  injection h2 with _ _ h3
  omega
 have h1:=hv.ls
 have h2:=hv.ss
 have h3:=hv.now
 have h4:=hv.vr.now
 rw [wrap_i64 (x:=r5.1.now+1) (by omega) (by omega)]
 exact ⟨hv.vr,⟨by omega,by omega⟩,by omega,by omega,hv.hg⟩
theorem idk (h:a < 256) (q:rId [.int .i64 (IntKind.wrap .i64 (a:Int))] os r6):cC r6=true:=by
 rw [wrap_i64 (by omega) (by omega)] at q
 rw [q a rfl];exact uZ a
theorem FG (ha:a < 256) (hb:b < 256) (q6:rId [.int .i64 (IntKind.wrap .i64 (a:Int))] o1 r6) (q7:rId [.int .i64 (IntKind.wrap .i64 (b:Int))] o2 r7) {n:Int} (q8:rMe [rgA r5.1,.str r6,.str r7,.int .i64 n] o3 r8) (h9:(r8.2.2 !=0)=true):(r6==r7)=true:=by
 rcases q8 _ _ _ _ rfl with ⟨_,h⟩ | ⟨_,h⟩ | ⟨h,_⟩ | ⟨h,_⟩
 ·rw [idk ha q6,idk hb q7] at h;cases h
 ·exact beq_iff_eq.2 h
 ·rw [h] at h9;cases h9
 ·rw [h] at h9;cases h9
theorem C9 (h9:(r8.2.2 !=0)=false):r8.2.2=0:=by simpa using h9
theorem y7 (hl:l.length<=40) (q5:rVi [dt r4,vsA l] o1 r5) (q8:rMe [rgA r5.1,.str r6,.str r7,.int .i64 (IntKind.wrap .i64 (r5.1.now+1))] o3 r8) (h9:(r8.2.2 !=0)=false):VR r8.1/\HG r8.1:=by
 obtain ⟨h1,h2,h3,h4,h5⟩:=y8 hl q5
 exact ⟨(wm h1 h2 h3 (q8 _ _ _ _ rfl) (C9 h9)).1,x4 h5 (q8 _ _ _ _ rfl) (C9 h9)⟩
theorem yF (hl:l.length<=40) (ha:a < 256) (hb:b < 256) (q5:rVi [dt r4,vsA l] o1 r5) (q6:rId [.int .i64 (IntKind.wrap .i64 (a:Int))] o4 r6) (q7:rId [.int .i64 (IntKind.wrap .i64 (b:Int))] o2 r7) (q8:rMe [rgA r5.1,.str r6,.str r7,.int .i64 (IntKind.wrap .i64 (r5.1.now+1))] o3 r8) (h9:(r8.2.2 !=0)=false)
  (q10:rCc [rgA r8.1,.str r6,.str aB] o5 r10) (q11:rCc [rgA r8.1,.str r7,.str aB] o6 r11):DvP r8.1 r6 r7 r10 r11:=by
 obtain ⟨h1,h2,h3,h4,h5⟩:=y8 hl q5
 exact Ax h1 h5 h2 h3 (q8 _ _ _ _ rfl) (C9 h9) (q10 _ _ _ rfl) (q11 _ _ _ rfl)
theorem Fw (s:SL):cD s.c s.c=true:=by simp [SL.c,cD,eqC]
theorem Da {p:RG} (d:DvP p r6 r7 r10 r11):(bif !(r10.2==r11.2) then true else !cD (SL.c r10.1) (SL.c r11.1))=false:=by
 rw [d.eq,beq_self_eq_true,Fw];rfl
theorem yG (h13:(!r10.2)=false):r10.2=true:=by simpa using h13
theorem DT {p:RG} {e:AV} (d:DvP p r6 r7 r10 r11) (h13:(!r10.2)=false) (q:rFg [e,.str r10.1.exp] os k):k=kfO r10.1.exp:=by
 rcases (d.good (yG h13)).2.1 with h | h
 ·have h:r10.1.exp=cR:=h
  rw [h] at q ⊢
  exact q.1 e rfl
 ·have h:r10.1.exp=bz:=h
  rw [h] at q ⊢
  exact q.2 e rfl
theorem DU {p:RG} (d:DvP p r6 r7 r10 r11) (hg:HG p) (h13:(!r10.2)=false):FdG ⟨aB,r10.1.exp,r10.1.arm⟩:=⟨rfl,(d.good (yG h13)).2.1,(d.good (yG h13)).2.2⟩
theorem DW {p:RG} {e:AV} (hp:∃d0 d1 d2 d3,r4=enD sa ho cu on tw d0 d1 d2 d3) (d:DvP p r6 r7 r10 r11) (hv:VR p/\HG p) (h13:(!r10.2)=false) (q:rFg [e,.str r10.1.exp] os k) (hu:u.length<=400000):bo wd fF φDc rDd [rgA p,dt r4,usA u,.str r6,.str k,.int .i64 p.now] []:=by
 obtain ⟨d0,d1,d2,d3,e⟩:=hp
 rw [e]
 exact Az hv.1 hv.2.all hu ⟨aB,r10.1.exp,r10.1.arm⟩ (DU d hv.2 h13) (d.fa (yG h13)) (DT d h13 q)
theorem DV {p:RG} {e:AV} (hp:∃d0 d1 d2 d3,r4=enD sa ho cu on tw d0 d1 d2 d3) (d:DvP p r6 r7 r10 r11) (hv:VR p/\HG p) (h13:(!r10.2)=false) (q:rFg [e,.str r10.1.exp] os k) (hu:u.length<=400000):bo wd fF φDc rDd [rgA p,dt r4,usA u,.str r7,.str k,.int .i64 p.now] []:=by
 obtain ⟨d0,d1,d2,d3,e⟩:=hp
 rw [e]
 exact Az hv.1 hv.2.all hu ⟨aB,r10.1.exp,r10.1.arm⟩ (DU d hv.2 h13) (d.fb (yG h13)) (DT d h13 q)
theorem DS {p:RG} {v v' u u':AV} {k':TX} (d:DvP p r6 r7 r10 r11) (h13:(!r10.2)=false) (q:rDd [rgA p,v,u,.str r6,.str k,.int .i64 p.now] os x) (q':rDd [rgA p,v',u',.str r7,.str k',.int .i64 p.now] o1 y):rE true A o2 (bif bif bif (0:Int)==0 then (0:Int)==0 else false then x.arm==r10.1.arm else false then y.arm==r10.1.arm else false):=by
 rw [q _ _ _ _ _ _ _ rfl (d.fa (yG h13)),q' _ _ _ _ _ _ _ rfl (d.fb (yG h13)),beq_self_eq_true,beq_self_eq_true];rfl
theorem FF (hw:0<=w) (h:decide (Int.tmod w 2=0)=false):decide (Int.tmod w 2=1)=true:=by
 have h:=of_decide_eq_false h
 rw [Int.tmod_eq_emod_of_nonneg hw] at h ⊢
 exact decide_eq_true (by omega)
end
theorem Ay (sa ho cu on tw w:Int) (l:List VSX) (a b:Nat) (h0:0<=ho) (h0':ho < 256) (h4:0<=on) (h5:on < 65536) (hw:0<=w) (hd:VsD l) (ha:a < 256) (hb:b < 256):bo wd dj φBo (rE true) [.agg [.int .u8 sa,.int .u8 ho,.int .u16 cu,.int .u16 on,.int .u16 tw],.int .u8 w,vsA l,.int .u8 (a:Int),.int .u8 (b:Int)] []:=
 a7 (V:=Vb [100] [] []) (T:=[eEx,eEn,eVi,eId,eMe,eCc,du wd c7 φEn (rCh sa ho cu on tw),eFg,eDd,eUs]) (d:=1) 0 aq ao (.call (Aq) λr1 q1=>
  .no (c:=!r1) (a:=some ((.bool false,[]))) (FH q1) (
  .b (decide ((↑(List.length l):Int) > 40)) (λh3=>
   .r true rfl) λh3=>
  .call (Au sa ho cu on tw h0 h0' h4 h5) λr4 q4=>
  .call (Bt r4 l (Fz q4) (Nat.le_trans (oq h3) (by decide)) hd) λr5 q5=>
  .call (rR ha) λr6 q6=>
  .call (rR hb) λr7 q7=>
  .call (zZ r5.1 r6 r7 (IntKind.wrap .i64 (r5.1.now+1)) (y8 (oq h3) q5).1 (y8 (oq h3) q5).2.1 (y8 (oq h3) q5).2.2.1 (y8 (oq h3) q5).2.2.2.1) λr8 q8=>
  .b (r8.2.2 !=0) (λh9=>
   .r (r6==r7) (FG ha hb q6 q7 q8 h9)) λh9=>
  .call (AJ r8.1 r6 aB (y7 (oq h3) q5 q8 h9).1) λr10 q10=>
  .call (AJ r8.1 r7 aB (y7 (oq h3) q5 q8 h9).1) λr11 q11=>
  .no (c:=bif !r10.2==r11.2 then true else !cD (SL.c r10.1) (SL.c r11.1)) (a:=some ((.bool false,[]))) (Da (yF (oq h3) ha hb q5 q6 q7 q8 h9 q10 q11)) (
  .b (!r10.2) (λh13=>
   .r true rfl) λh13=>
  .call (Dk (w:=w) q4) λr14 q14=>
  .b (decide (Int.tmod w 2=0)) (λh15=>
   .call (Ak r4 r10.1.exp (DQ q4).1 (DQ q4).2) λr16 q16=>
   .call (su r6) λr17 q17=>
   .call (DW (DP q4) (yF (oq h3) ha hb q5 q6 q7 q8 h9 q10 q11) (y7 (oq h3) q5 q8 h9) h13 q16 (tF (Aa ha q6) q17)) λr18 q18=>
   .call (su r7) λr19 q19=>
   .call (DV (DP q4) (yF (oq h3) ha hb q5 q6 q7 q8 h9 q10 q11) (y7 (oq h3) q5 q8 h9) h13 q16 (tF (Aa hb q7) q19)) λr20 q20=>
   .r _ (DS (yF (oq h3) ha hb q5 q6 q7 q8 h9 q10 q11) h13 q18 q20)) λh15=>
  .n (c:=decide (Int.tmod w 2=1)) (FF hw h15) (
  .call (Ak r14 r10.1.exp (D2 q14).1 (D2 q14).2) λr21 q21=>
  .call (su r6) λr22 q22=>
  .call (DW (q14) (yF (oq h3) ha hb q5 q6 q7 q8 h9 q10 q11) (y7 (oq h3) q5 q8 h9) h13 q21 (tF (Aa ha q6) q22)) λr23 q23=>
  .call (su r7) λr24 q24=>
  .call (DV (q14) (yF (oq h3) ha hb q5 q6 q7 q8 h9 q10 q11) (y7 (oq h3) q5 q8 h9) h13 q21 (tF (Aa hb q7) q24)) λr25 q25=>
  .r _ (DS (yF (oq h3) ha hb q5 q6 q7 q8 h9 q10 q11) h13 q23 q25))))) (by kernel_rfl)
theorem wv {sa ho cu on tw w:Int} {l:List VI} {a b:Int} (h1:gf ho) (h2:0<=on/\on < 65536) (hw:gf w) (h:∀p∈l,vQ p) (ha:gf a) (hb:gf b):Ct prog glb dj [.agg [.int .u8 sa,.int .u8 ho,.int .u16 cu,.int .u16 on,.int .u16 tw],.int .u8 w,zi l,.int .u8 a,.int .u8 b] [] (.bool true,[]):=by
 unfold gf at h1 ha hb hw
 rw [xw h]
 have:=Ay sa ho cu on tw w (l.map toV) a.toNat b.toNat h1.1 h1.2 h2.1 h2.2 hw.1 (λj=>by
  rw [(vP h j).2]
  obtain ⟨g1,g2,g3,g4⟩:=(vP h j).1
  unfold gf at g1 g2 g3 g4
  exact ⟨by show (l.getD j (0,0,0,0)).2.1.toNat < 256;omega,by show (l.getD j (0,0,0,0)).2.2.1.toNat < 256;omega,by show (l.getD j (0,0,0,0)).2.2.2.toNat < 256;omega⟩) (by omega) (by omega)
 rw [Int.toNat_of_nonneg ha.1,Int.toNat_of_nonneg hb.1] at this
 exact this.ctE
end Go.WF
