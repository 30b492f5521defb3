/- The library contracts of slices.Sort and slices.Compact at this seat, laid by lay-shelf and lay-plain.
 DERIVED: THE SHELF's CONTRACTS AT THIS DUMP,IN PLAIN WORDS (tools/lay-plain.mjs out of 'TryzShelf.lean',which tools/lay-shelf.mjs wrote): THE SAME DECLARATIONS UNDER THE SAME NAMES: 'import','namespace','open','def','theorem' AND NOTHING ELSE: no command of the shelf's: FOR A HAND-IN. Each laying: the table of numbers ('.._ren') and one theorem,a field a fact of the dump's own or the kernel's comparison;each contract: ONE APPLICATION. slices.Sort and slices.Compact of texts: any answer of the same length; any shorter slice. A view: an empty slice in a slot, a slice that grows and may be stored into from here on. The forced assignments of a register: any answer. digest.Sum, bucket.Of: any answers. bucket.Of: any answer. The members of no segments. assign.Layer at a made environment: any answer of the layer. Made users and environments. Visits: the register and the events agree. WholeSubjects: the register and the events agree about who is who. Reading a row's data as abstract values: numbers, texts, bools, slices, structs, to any depth. The package variables that a row lists, as t -/
import Derived.Test.YtmaledpldlbfmaaGreatDoorX6
import Derived.Shelf.Sort.Plain
import Derived.Shelf.Slices.CompactS
import Derived.Shelf.Slices.In.SortNone
import Derived.Test.YtmaledpldlbfmaaGreatDoorProg
import Derived.ChangeArms
import Derived.ChangeShapes
import Derived.FnData
import Derived.MakeChecks
import Derived.OpenShut
import Derived.Test.YtmaledpldlbfmaaGreatDoorCards
import Derived.Test.YtmaledpldlbfmaaGreatDoorTie
set_option linter.unusedVariables false
set_option linter.unusedSimpArgs false
namespace Go.Proofs
open Go.Shelf
def Tryz.pQ:Go.Shelf.Ren:=⟨fun | 190=>101 | 125=>137 | 258=>136 | 128=>170 | 129=>142 | 302=>161 | 303=>162 | 304=>163 | 305=>164 | 306=>165 | 307=>166 | 308=>167 | 309=>168 | 310=>169 | 333=>194 | 329=>195 | 330=>196 | 334=>197 | 335=>198 | 336=>199 | 344=>227 | n=>n,fun | 31=>91 | 9=>9 | 3=>3 | 46=>250 | 0=>0 | 51=>322 | 53=>178 | 4=>4 | 183=>316 | 182=>315 | 131=>254 | 5=>5 | 218=>357 | 222=>361 | 228=>396 | 229=>115 | n=>n,fun | n=>n⟩
theorem Tryz.tT:Go.Proofs.Lays.n190 Tryz.prog Tryz.pQ:={
 mixed:=by kernel_rfl
 f125:=Tryz.func137.trans (congrArg some (by kernel_rfl))
 f128:=Tryz.func170.trans (congrArg some (by kernel_rfl))
 f129:=Tryz.func142.trans (congrArg some (by kernel_rfl))
 f190:=Tryz.func101.trans (congrArg some (by kernel_rfl))
 f258:=Tryz.func136.trans (congrArg some (by kernel_rfl))
 f302:=Tryz.func161.trans (congrArg some (by kernel_rfl))
 f303:=Tryz.func162.trans (congrArg some (by kernel_rfl))
 f304:=Tryz.func163.trans (congrArg some (by kernel_rfl))
 f305:=Tryz.func164.trans (congrArg some (by kernel_rfl))
 f306:=Tryz.func165.trans (congrArg some (by kernel_rfl))
 f307:=Tryz.func166.trans (congrArg some (by kernel_rfl))
 f308:=Tryz.func167.trans (congrArg some (by kernel_rfl))
 f309:=Tryz.func168.trans (congrArg some (by kernel_rfl))
 f310:=Tryz.func169.trans (congrArg some (by kernel_rfl))
 f329:=Tryz.func195.trans (congrArg some (by kernel_rfl))
 f330:=Tryz.func196.trans (congrArg some (by kernel_rfl))
 f333:=Tryz.func194.trans (congrArg some (by kernel_rfl))
 f334:=Tryz.func197.trans (congrArg some (by kernel_rfl))
 f335:=Tryz.func198.trans (congrArg some (by kernel_rfl))
 f336:=Tryz.func199.trans (congrArg some (by kernel_rfl))
 f344:=Tryz.func227.trans (congrArg some (by kernel_rfl))
 t0:=Tryz.underlying0
 a0:=Tryz.isAgg0
 z0:=Tryz.sizeOf0
 v0:=Tryz.zeroValue0
 t3:=Tryz.underlying3
 a3:=Tryz.isAgg3
 z3:=Tryz.sizeOf3
 v3:=Tryz.zeroValue3
 t4:=Tryz.underlying4
 a4:=Tryz.isAgg4
 z4:=Tryz.sizeOf4
 v4:=Tryz.zeroValue4
 t5:=Tryz.underlying5
 a5:=Tryz.isAgg5
 z5:=Tryz.sizeOf5
 v5:=Tryz.zeroValue5
 t9:=Tryz.underlying9
 a9:=Tryz.isAgg9
 z9:=Tryz.sizeOf9
 v9:=Tryz.zeroValue9
 t31:=Tryz.underlying91
 a31:=Tryz.isAgg91
 z31:=Tryz.sizeOf91
 v31:=Tryz.zeroValue91
 t46:=Tryz.underlying250
 a46:=Tryz.isAgg250
 z46:=Tryz.sizeOf250
 v46:=Tryz.zeroValue250
 t51:=Tryz.underlying322
 a51:=Tryz.isAgg322
 z51:=Tryz.sizeOf322
 v51:=Tryz.zeroValue322
 t53:=Tryz.underlying178
 a53:=Tryz.isAgg178
 z53:=Tryz.sizeOf178
 v53:=Tryz.zeroValue178
 t131:=Tryz.underlying254
 a131:=Tryz.isAgg254
 z131:=Tryz.sizeOf254
 v131:=Tryz.zeroValue254
 t182:=Tryz.underlying315
 a182:=Tryz.isAgg315
 z182:=Tryz.sizeOf315
 v182:=Tryz.zeroValue315
 t183:=Tryz.underlying316
 a183:=Tryz.isAgg316
 z183:=Tryz.sizeOf316
 v183:=Tryz.zeroValue316
 t218:=Tryz.underlying357
 a218:=Tryz.isAgg357
 z218:=Tryz.sizeOf357
 v218:=Tryz.zeroValue357
 t222:=Tryz.underlying361
 a222:=Tryz.isAgg361
 z222:=Tryz.sizeOf361
 v222:=Tryz.zeroValue361
 t228:=Tryz.underlying396
 a228:=Tryz.isAgg396
 z228:=Tryz.sizeOf396
 v228:=Tryz.zeroValue396
 t229:=Tryz.underlying115
 a229:=Tryz.isAgg115
 z229:=Tryz.sizeOf115
 v229:=Tryz.zeroValue115}
open Go.Sort Go.RowKit in
theorem Tryz.slices_Sort_string (blk off cap:Nat) (ss:List (List UInt8)) (w:World) (hH:Holds encStr w blk off ss.toArray) (hblk:blk < w.heap.size) (hsz:ss.length < 4611686018427387904) :
  Calls Tryz.prog 101 #[.slice (some ⟨blk,off,none⟩) ss.length cap] w λe w'=>
   e=.returned (.tuple #[])/\∃n os,w'=grow (putRow encStr (Sort.ahead w n) blk off (ss.mergeSort λx y=>decide (x<=y)).toArray) os:=Any.slices_Sort_string Tryz.tT blk off cap ss w hH hblk hsz
def Tryz.pP:Go.Shelf.Ren:=⟨fun | 194=>102 | n=>n,fun | 31=>91 | 9=>9 | 3=>3 | 4=>4 | 0=>0 | n=>n,fun | n=>n⟩
theorem Tryz.tS:Go.Proofs.Lays.n194 Tryz.prog Tryz.pP:={
 mixed:=by kernel_rfl
 f194:=Tryz.func102.trans (congrArg some (by kernel_rfl))
 t0:=Tryz.underlying0
 a0:=Tryz.isAgg0
 z0:=Tryz.sizeOf0
 v0:=Tryz.zeroValue0
 t3:=Tryz.underlying3
 a3:=Tryz.isAgg3
 z3:=Tryz.sizeOf3
 v3:=Tryz.zeroValue3
 t4:=Tryz.underlying4
 a4:=Tryz.isAgg4
 z4:=Tryz.sizeOf4
 v4:=Tryz.zeroValue4
 t9:=Tryz.underlying9
 a9:=Tryz.isAgg9
 z9:=Tryz.sizeOf9
 v9:=Tryz.zeroValue9
 t31:=Tryz.underlying91
 a31:=Tryz.isAgg91
 z31:=Tryz.sizeOf91
 v31:=Tryz.zeroValue91}
open Go.RowKit Go.Lib Go.Sort in
theorem Tryz.slices_Compact_string (blk off cap:Nat) (zs:List (List UInt8)) (w:World) (hH:Holds encStr w blk off zs.toArray) (hsz:zs.length<=9223372036854775807) (hcap:zs.length<=cap) :
  Calls Tryz.prog 102 #[.slice (some ⟨blk,off,none⟩) zs.length cap] w λe w'=>e=.returned (.slice (some ⟨blk,off,none⟩) (Lib.compact zs).length cap)/\∃q,w'=putRow encStr (Sort.ahead w q) blk off (Lib.compact zs++List.replicate (zs.length - (Lib.compact zs).length) []).toArray:=Any.slices_Compact_string Tryz.tS blk off cap zs w hH hsz hcap
open Go.RowKit Go.Lib Go.Sort in
theorem Tryz.slices_Compact_string_empty (a:Option Addr) (cap:Nat) (w:World) :
  Calls Tryz.prog 102 #[.slice a 0 cap] w λe w'=>e=.returned (.slice a 0 cap)/\w'=w:=Any.slices_Compact_string_empty Tryz.tS a cap w
open Go.RowKit Go.Sort in
theorem Tryz.slices_Sort_string_none (p:Option Addr) (cap:Nat) (w:World) :
  Calls Tryz.prog 101 #[.slice p 0 cap] w λe w'=>e=.returned (.tuple #[])/\w'=w:=Any.slices_Sort_string_none Tryz.tT p cap w
end Go.Proofs

namespace Go.WF
open Go Go.Ab Go.Proofs
abbrev TXL:Type:=List (List UInt8)
def φSo (x:TXL):AV×List AO:=(.tup [],[.grw 0 1 x.length (txR x)])
def rSo (A:List AV) (O:List AO) (x:TXL):Prop:=∀l:TXL,O=[.grw 0 1 l.length (txR l)]->x.length=l.length
theorem zW (l:TXL) (hl:l.length<=1000000):bQ wd ck φSo rSo [.gsl ae 1 l.length] [.grw 0 1 l.length (txR l)]:=
 ⟨l.mergeSort λx y=>decide (x<=y),λl' e=>by
  rw [List.length_mergeSort]
  injection e with e _;injection e,
  sm ⟨_,Tryz.func101,by kernel_rfl,by kernel_rfl⟩ (List.length_mergeSort _) (λblk cap w hH hb=>Tryz.slices_Sort_string blk 0 cap l w hH hb (by omega)) (λp cap w h=>Tryz.slices_Sort_string_none p cap w)⟩
noncomputable abbrev eSo:Ent:=eA wd ck φSo rSo
abbrev CMX:Type:=Nat×TXL
def φCm (x:CMX):AV×List AO:=(.sl .no 1 x.1 (txR x.2),[.gone])
def rCm (A:List AV) (O:List AO) (x:CMX):Prop:=∀n:Nat,A=[.gsl ae 1 n]->x.1<=n
theorem Bs (l:TXL) (hl:l.length<=1000000):bQ wd bo φCm rCm [.gsl ae 1 l.length] [.grw 0 1 l.length (txR l)]:=
 have hc:(Lib.compact l).length<=l.length:=by
  unfold Lib.compact Lib.compactUpTo
  rw [List.length_map]
  exact Nat.le_trans (List.length_filter_le _ _) (by rw [List.length_range];exact Nat.le_refl _)
 ⟨((Lib.compact l).length,Lib.compact l++List.replicate (l.length - (Lib.compact l).length) []),λn e=>by injection e with e _;injection e with _ _ e;omega,
  sk ⟨_,Tryz.func102,by kernel_rfl,by kernel_rfl⟩ (by rw [List.length_append,List.length_replicate];omega) hc (λblk cap w hH hcap=>Tryz.slices_Compact_string blk 0 cap l w hH (by omega) hcap) (λp cap w h=>Tryz.slices_Compact_string_empty p cap w)⟩
noncomputable abbrev eCm:Ent:=eA wd bo φCm rCm
end Go.WF

namespace Go.Ab
open Go Go.RowKit
def mF (t K sz:Nat) (get:Nat->List AV):Vw:=λs f=>
 match s.get t,s.obj K with
 | some (.sl .fit _ 0 _),none=>cond (Nat.blt 0 sz) (f ((s.setObj K (.grw 0 sz 0 get)).put (some t) (.gsl K sz 0))) (f s)
 | _,_=>f s
theorem tC (t K sz:Nat) (get:Nat->List AV):hZ (mF t K sz get):=by
 intro s f r h
 unfold mF at h
 split at h
 ·rename_i sz0 g0 ht hK
  cases hb:Nat.blt 0 sz with
  | false=>rw [hb] at h;exact ⟨s,h,λB c a hr hn=>⟨c,rfl,hr,hn⟩⟩
  | true=>
   rw [hb] at h
   refine ⟨_,h,λB c a hr hn=>?_⟩
   have hsz:0 < sz:=Nat.le_of_ble_eq_true hb
   have hX:a.tmps.getD t undef=.slice none 0 0∨∃ad,a.tmps.getD t undef=.slice (some ad) 0 0:=by
    have h0:Rep c (.sl .fit sz0 0 g0) (a.tmps.getD t undef):=hr.env t _ ht
    generalize a.tmps.getD t undef=X at h0
    cases h0 with
    | slNil _ _ _ _=>exact .inl rfl
    | sl _ _ _ _ ad cap _ _ _ ho _ _ _=>exact .inr ⟨ad,by have:cap=0:=ho;rw [this]⟩
   obtain ⟨c',e1,e2,e3,e4,e5⟩:=oH hr hsz hK hX get
   refine ⟨c',e1,⟨e2.good,e2.frame,e2.objs,λq v hq=>?_,λq v hq=>?_,e2.mine,e2.tmps,e2.defers,e2.kept⟩,λq v hq=>?_⟩
   ·rw [St.cZ] at hq
    by_cases e:t=q
    ·subst e;rw [if_pos rfl] at hq;cases hq;exact e3
    ·rw [if_neg e] at hq;exact e2.env q v hq
   ·rw [St.cZ] at hq
    by_cases e:t=q
    ·subst e;rw [if_pos rfl] at hq;cases hq;exact e4
    ·rw [if_neg e] at hq;exact e2.closed q v hq
   ·rw [St.cZ] at hq
    by_cases e:t=q
    ·subst e;rw [if_pos rfl] at hq;cases hq;rfl
    ·rw [if_neg e] at hq;exact hn q v hq
 ·exact ⟨s,h,λB c a hr hn=>⟨c,rfl,hr,hn⟩⟩
end Go.Ab

namespace Go.WF
open Go Go.Ab Go.Proofs
noncomputable def VFd:Env:={Vb [] [29] [] with byRef:=λf=>cond (Nat.beq f 101) true (Nat.beq f 102)}
noncomputable instance envFd:EnvOk VFd wd:=⟨rfl,rfl,iz,jy⟩
def φFd (x:List FD):AV×List AO:=(fdA x,[])
def rFd (_:List AV) (_:List AO) (x:List FD):Prop:=x.length<=1000000
theorem sw {a b:Nat} (h:a < b):Nat.blt a b=true:=Nat.ble_eq_true_of_le h
theorem BT {a b:Nat} (h:¬ a < b):Nat.blt a b=false:=by
 cases e:Nat.blt a b with
 | false=>rfl
 | true=>exact absurd (Nat.le_of_ble_eq_true e) h
theorem mf {α:Type} [Inhabited α] (f:α->List AV) (l:List α) (x:α) (g:Nat->List AV) (hg:g 0=f x):ao l.length 1 (λj=>f (l.getD j default)) g=λj=>f ((l++[x]).getD j default):=by
 funext j
 unfold ao
 by_cases h:j < l.length
 ·rw [sw h,cond_true,eO h]
 ·rw [BT h,cond_false]
  by_cases e:j=l.length
  ·subst e
   rw [sw (Nat.lt_succ_self _),cond_true,Nat.sub_self,hg,fa]
  ·rw [BT (by omega),cond_false]
   show f (l.getD j default)=_
   rw [List.getD_eq_getElem?_getD,List.getD_eq_getElem?_getD,List.getElem?_eq_none (by omega),List.getElem?_eq_none (by simp;omega)]
section
variable {r:RG} {a:TX} {n:Int}
def xU (r:RG) (v:Nat×TXL):Prop:=v.1<=r.ss.length/\v.2.length=v.1
def wa (v:(Nat×TXL)×Nat×List FD):Prop:=v.1.1<=1000000/\v.2.1<=v.1.1/\v.2.2.length<=v.2.1
theorem Bb {v:Nat×TXL} {x:TX} (hv:xU r v) (h:v.1 < r.ss.length):xU r (v.1+1,v.2++[x]):=⟨h,by show (v.2++[x]).length=v.1+1;rw [List.length_append,hv.2];rfl⟩
theorem Ba {v:(Nat×TXL)×Nat×List FD} {x:FD} (hv:wa v) (h:v.2.1 < v.1.1):wa (v.1,v.2.1+1,v.2.2++[x]):=⟨hv.1,h,by show (v.2.2++[x]).length<=v.2.1+1;rw [List.length_append];have:=hv.2.2;simp;omega⟩
theorem A9 {v:(Nat×TXL)×Nat×List FD} (hv:wa v) (h:v.2.1 < v.1.1):wa (v.1,v.2.1+1,v.2.2):=⟨hv.1,h,Nat.le_succ_of_le hv.2.2⟩
theorem Bd {v:Nat×TXL} (hs:r.ss.length<=1000000) (hv:xU r v):v.2.length<=1000000:=by rw [hv.2];exact Nat.le_trans hv.1 hs
theorem Bc {v:(Nat×TXL)×Nat×List FD} (hv:wa v):v.2.2.length<=1000000:=Nat.le_trans hv.2.2 (Nat.le_trans hv.2.1 hv.1)
theorem A6 {v:Nat×TXL} (hs:r.ss.length<=1000000) (hv:xU r v) (h:v.1 < r.ss.length):{env:=[(1,.str a),(2,.int .i64 n),(3,.ref 3 0),(7,AV.gsl 29 1 (List.length v.2+1)),(19,slA (RG.ss r)),(20,.int .i64 (↑(List.length (RG.ss r)):Int)),(21,.int .i64 (IntKind.wrap .i64 ((↑v.1:Int)+1)))],objs:=[(3,.cells (RG.c r)),(29,AO.grw 0 1 (List.length v.2+1) (ao (List.length v.2) 1 (txR v.2) (ag [.str []] [(0,.str (SL.layer (List.getD (RG.ss r) v.1 default)))])))]}=(λv:Nat×TXL=>({env:=[(1,.str a),(2,.int .i64 n),(3,.ref 3 0),(7,.gsl 29 1 v.2.length),(19,slA r.ss),(20,.int .i64 r.ss.length),(21,.int .i64 (v.1:Int))],objs:=[(3,.cells r.c),(29,.grw 0 1 v.2.length (txR v.2))]}:St)) (v.1+1,v.2++[(r.ss.getD v.1 default).layer]):=by
 rw [cP (by omega),show ao (List.length v.2) 1 (txR v.2) (ag [.str []] [(0,.str (SL.layer (List.getD (RG.ss r) v.1 default)))])=txR (v.2++[(r.ss.getD v.1 default).layer]) from mf (λs:TX=>[.str s]) v.2 _ _ rfl,show v.2.length+1=(v.2++[(r.ss.getD v.1 default).layer]).length by simp]
theorem A5 {v:(Nat×TXL)×Nat×List FD} {r2:ATX} (hv:wa v) (h:v.2.1 < v.1.1):{env:=[(1,.str a),(2,.int .i64 n),(3,.ref 3 0),(10,.sl (.key 57) 3 (List.length v.2.2+1) (ao (List.length v.2.2) 1 (λj=>[.str (FD.layer (List.getD v.2.2 j default)),.str (FD.exp (List.getD v.2.2 j default)),.int .i64 (FD.arm (List.getD v.2.2 j default))]) (ag [.str [],.str [],.int .i64 0] [(0,.agg [.str (List.getD v.1.2 v.2.1 []),.str (SL.exp r2.1),.int .i64 (SL.arm r2.1)])]))),(34,.sl .no 1 v.1.1 (txR v.1.2)),(35,.int .i64 (↑v.1.1:Int)),(36,.int .i64 (IntKind.wrap .i64 ((↑v.2.1:Int)+1)))],objs:=[(3,.cells (RG.c r)),(57,.own 3 (List.length v.2.2+1))]}=(λv:(Nat×TXL)×Nat×List FD=>({env:=[(1,.str a),(2,.int .i64 n),(3,.ref 3 0),(10,.sl (.key 57) 3 v.2.2.length λj=>(v.2.2.getD j default).c),(34,.sl .no 1 v.1.1 (txR v.1.2)),(35,.int .i64 (v.1.1:Int)),(36,.int .i64 (v.2.1:Int))],objs:=[(3,.cells r.c),(57,.own 3 v.2.2.length)]}:St)) (v.1,v.2.1+1,v.2.2++[FD.mk (v.1.2.getD v.2.1 []) r2.1.exp r2.1.arm]):=by
 have:=hv.1
 rw [cP (by omega)]
 show _=({env:=[(1,.str a),(2,.int .i64 n),(3,.ref 3 0),(10,.sl (.key 57) 3 (v.2.2++[FD.mk (v.1.2.getD v.2.1 []) r2.1.exp r2.1.arm]).length λj=>((v.2.2++[FD.mk (v.1.2.getD v.2.1 []) r2.1.exp r2.1.arm]).getD j default).c),(34,.sl .no 1 v.1.1 (txR v.1.2)),(35,.int .i64 (v.1.1:Int)),(36,.int .i64 ((v.2.1+1:Nat):Int))],objs:=[(3,.cells r.c),(57,.own 3 (v.2.2++[FD.mk (v.1.2.getD v.2.1 []) r2.1.exp r2.1.arm]).length)]}:St)
 rw [<-mf FD.c v.2.2 _ (ag [.str [],.str [],.int .i64 0] [(0,.agg [.str (List.getD v.1.2 v.2.1 []),.str (SL.exp r2.1),.int .i64 (SL.arm r2.1)])]) rfl,show (v.2.2++[FD.mk (v.1.2.getD v.2.1 []) r2.1.exp r2.1.arm]).length=v.2.2.length+1 by simp]
 rfl
theorem A4 {v:(Nat×TXL)×Nat×List FD} (hv:wa v) (h:v.2.1 < v.1.1):{env:=[(1,.str a),(2,.int .i64 n),(3,.ref 3 0),(10,.sl (.key 57) 3 (List.length v.2.2) λj=>[.str (FD.layer (List.getD v.2.2 j default)),.str (FD.exp (List.getD v.2.2 j default)),.int .i64 (FD.arm (List.getD v.2.2 j default))]),(34,.sl .no 1 v.1.1 (txR v.1.2)),(35,.int .i64 (↑v.1.1:Int)),(36,.int .i64 (IntKind.wrap .i64 ((↑v.2.1:Int)+1)))],objs:=[(3,.cells (RG.c r)),(57,.own 3 (List.length v.2.2))]}=(λv:(Nat×TXL)×Nat×List FD=>({env:=[(1,.str a),(2,.int .i64 n),(3,.ref 3 0),(10,.sl (.key 57) 3 v.2.2.length λj=>(v.2.2.getD j default).c),(34,.sl .no 1 v.1.1 (txR v.1.2)),(35,.int .i64 (v.1.1:Int)),(36,.int .i64 (v.2.1:Int))],objs:=[(3,.cells r.c),(57,.own 3 v.2.2.length)]}:St)) (v.1,v.2.1+1,v.2.2):=by
 have:=hv.1
 rw [cP (by omega)]
 rfl
theorem Bf {x y:TXL} (hx:x.length<=1000000) (q:rSo [.gsl 1000000 1 x.length] [.grw 0 1 x.length (txR x)] y):bQ wd bo φCm rCm [.gsl 1000000 1 x.length] [.grw 0 1 y.length (txR y)]:=by
 have e:=q x rfl
 rw [<-e]
 exact Bs y (by omega)
theorem Dn {x y:TXL} {z:CMX} (hx:x.length<=1000000) (q:rCm [.gsl 1000000 1 x.length] [.grw 0 1 y.length (txR y)] z):z.1<=1000000:=Nat.le_trans (q _ rfl) hx
end
theorem Dm:Tr (.sl .fit 0 0 λx=>[],[]) (φFd []):=.one bZ
theorem A8 (r:RG) (a:TX) (n:Int) (hs:r.ss.length<=1000000):∃ (u:St->Bool) (w:St->TXL),(∀v:Nat×TXL,xU r v->bN u w ((λv:Nat×TXL=>({env:=[(1,.str a),(2,.int .i64 n),(3,.ref 3 0),(7,.gsl 29 1 v.2.length),(19,slA r.ss),(20,.int .i64 r.ss.length),(21,.int .i64 (v.1:Int))],objs:=[(3,.cells r.c),(29,.grw 0 1 v.2.length (txR v.2))]}:St)) v) λx=>x.length<=1000000)/\∀C:List (List Nat×Orc),bO (VFd.run [eVa,eSo,eCm,eAt] 1 [] C [([1,1,1],mF 7 29 1 (txR []))] b8) b8 [1,1,1,0,1,0] (mkO u w (λ(t:TXL) k=>k (.exit 0) {env:=[(1,.str a),(2,.int .i64 n),(3,.ref 3 0),(7,AV.gsl 29 1 t.length)],objs:=[(3,.cells r.c),(29,AO.grw 0 1 t.length (txR t))]})):=
 cO (V:=VFd) (T:=[eVa,eSo,eCm,eAt]) (d:=1) (W:=[([1,1,1],mF 7 29 1 (txR []))]) (f:=b8) (p:=[1,1,1,0,1,0]) (Lf:=λL=>L) (λv:Nat×TXL=>{env:=[(1,.str a),(2,.int .i64 n),(3,.ref 3 0),(7,.gsl 29 1 v.2.length),(19,slA r.ss),(20,.int .i64 r.ss.length),(21,.int .i64 (v.1:Int))],objs:=[(3,.cells r.c),(29,.grw 0 1 v.2.length (txR v.2))]}) (xU r) (λv=>r.ss.length - v.1) (λ(t:TXL) k=>k (.exit 0) {env:=[(1,.str a),(2,.int .i64 n),(3,.ref 3 0),(7,AV.gsl 29 1 t.length)],objs:=[(3,.cells r.c),(29,AO.grw 0 1 t.length (txR t))]}) (λx=>x.length<=1000000) (by kernel_rfl) (λv hv=>.b (decide ((↑v.1:Int) < (↑(List.length (RG.ss r)):Int))) (λh1=>
   .n (c:=within (↑v.1:Int) (List.length (RG.ss r))) (bC (bD h1)) (
   .n (c:=roomy 16 (List.length v.2+1)&&Nat.beq (List.length v.2) (List.length v.2)) (bz (by have:=hv.2;have:=bD h1;omega)) (
   .go {env:=[(1,.str a),(2,.int .i64 n),(3,.ref 3 0),(7,AV.gsl 29 1 (List.length v.2+1)),(19,slA (RG.ss r)),(20,.int .i64 (↑(List.length (RG.ss r)):Int)),(21,.int .i64 (IntKind.wrap .i64 ((↑v.1:Int)+1)))],objs:=[(3,.cells (RG.c r)),(29,AO.grw 0 1 (List.length v.2+1) (ao (List.length v.2) 1 (txR v.2) (ag [.str []] [(0,.str (SL.layer (List.getD (RG.ss r) v.1 default)))])))]} (v.1+1,v.2++[(r.ss.getD v.1 default).layer]) (Bb hv (bD h1)) (oy (bD h1)) (A6 hs hv (bD h1))))) λh1=>
  .fi v.2 (Bd hs hv)) (λv L k kn=>by kernel_rfl)
theorem A7 (r:RG) (a:TX) (n:Int) (hl:r.ls.length<=1000000) (hs:r.ss.length<=1000000):∃ (u:St->Bool) (w:St->List FD),(∀v:(Nat×TXL)×Nat×List FD,wa v->bN u w ((λv:(Nat×TXL)×Nat×List FD=>({env:=[(1,.str a),(2,.int .i64 n),(3,.ref 3 0),(10,.sl (.key 57) 3 v.2.2.length λj=>(v.2.2.getD j default).c),(34,.sl .no 1 v.1.1 (txR v.1.2)),(35,.int .i64 (v.1.1:Int)),(36,.int .i64 (v.2.1:Int))],objs:=[(3,.cells r.c),(57,.own 3 v.2.2.length)]}:St)) v) λx=>x.length<=1000000)/\∀C:List (List Nat×Orc),bO (VFd.run [eVa,eSo,eCm,eAt] 1 [] C [([1,1,1],mF 7 29 1 (txR []))] b8) b8 [1,1,1,1,1,1,0,1,0] (mkO u w (λ(t:List FD) k=>k (.exit 2) {env:=[(10,.sl (.key 57) 3 t.length λj=>(t.getD j default).c)],objs:=[(57,.own 3 t.length)]})):=
 cO (V:=VFd) (T:=[eVa,eSo,eCm,eAt]) (d:=1) (W:=[([1,1,1],mF 7 29 1 (txR []))]) (f:=b8) (p:=[1,1,1,1,1,1,0,1,0]) (Lf:=λL=>L) (λv:(Nat×TXL)×Nat×List FD=>{env:=[(1,.str a),(2,.int .i64 n),(3,.ref 3 0),(10,.sl (.key 57) 3 v.2.2.length λj=>(v.2.2.getD j default).c),(34,.sl .no 1 v.1.1 (txR v.1.2)),(35,.int .i64 (v.1.1:Int)),(36,.int .i64 (v.2.1:Int))],objs:=[(3,.cells r.c),(57,.own 3 v.2.2.length)]}) wa (λv=>v.1.1 - v.2.1) (λ(t:List FD) k=>k (.exit 2) {env:=[(10,.sl (.key 57) 3 t.length λj=>(t.getD j default).c)],objs:=[(57,.own 3 t.length)]}) (λx=>x.length<=1000000) (by kernel_rfl) (λv hv=>.b (decide ((↑v.2.1:Int) < (↑v.1.1:Int))) (λh1=>
   .n (c:=within (↑v.2.1:Int) v.1.1) (bC (bD h1)) (
   .call (Bv r a (v.1.2.getD v.2.1 []) n hl hs) λr2 q2=>
   .b (r2.2) (λh3=>
    .n (c:=roomy 40 (List.length v.2.2+1)&&Nat.beq (List.length v.2.2) (List.length v.2.2)) (bz (by have:=hv.1;have:=hv.2.2;have:=bD h1;omega)) (
    .go {env:=[(1,.str a),(2,.int .i64 n),(3,.ref 3 0),(10,.sl (.key 57) 3 (List.length v.2.2+1) (ao (List.length v.2.2) 1 (λj=>[.str (FD.layer (List.getD v.2.2 j default)),.str (FD.exp (List.getD v.2.2 j default)),.int .i64 (FD.arm (List.getD v.2.2 j default))]) (ag [.str [],.str [],.int .i64 0] [(0,.agg [.str (List.getD v.1.2 v.2.1 []),.str (SL.exp r2.1),.int .i64 (SL.arm r2.1)])]))),(34,.sl .no 1 v.1.1 (txR v.1.2)),(35,.int .i64 (↑v.1.1:Int)),(36,.int .i64 (IntKind.wrap .i64 ((↑v.2.1:Int)+1)))],objs:=[(3,.cells (RG.c r)),(57,.own 3 (List.length v.2.2+1))]} (v.1,v.2.1+1,v.2.2++[FD.mk (v.1.2.getD v.2.1 []) r2.1.exp r2.1.arm]) (Ba hv (bD h1)) (oy (bD h1)) (A5 hv (bD h1)))) λh3=>
   .go {env:=[(1,.str a),(2,.int .i64 n),(3,.ref 3 0),(10,.sl (.key 57) 3 (List.length v.2.2) λj=>[.str (FD.layer (List.getD v.2.2 j default)),.str (FD.exp (List.getD v.2.2 j default)),.int .i64 (FD.arm (List.getD v.2.2 j default))]),(34,.sl .no 1 v.1.1 (txR v.1.2)),(35,.int .i64 (↑v.1.1:Int)),(36,.int .i64 (IntKind.wrap .i64 ((↑v.2.1:Int)+1)))],objs:=[(3,.cells (RG.c r)),(57,.own 3 (List.length v.2.2))]} (v.1,v.2.1+1,v.2.2) (A9 hv (bD h1)) (oy (bD h1)) (A4 hv (bD h1)))) λh1=>
  .fi v.2.2 (Bc hv)) (λv L k kn=>by kernel_rfl)
theorem Be (r:RG) (a:TX) (n:Int) (hr:VR r) (hl:r.ls.length<=1000000) (hs:r.ss.length<=1000000):bQ wd b8 φFd rFd [rgA r,.str a,.int .i64 n] []:=by
 obtain ⟨u1,w1,hu1,hc1⟩:=A8 r a n hs
 obtain ⟨u2,w2,hu2,hc2⟩:=A7 r a n hl hs
 exact bP (V:=VFd) (T:=[eVa,eSo,eCm,eAt]) (d:=1) 0 (aU (hc1 _) (aU (hc2 _) aA)) (jP (tC 7 29 1 (txR [])) az) (.call (wA hr) λr1 q1=>
  .b (!r1) (λh2=>
   .t [] (Nat.zero_le _) Dm) λh2=>
  .lp (hu1 (0,[]) ⟨Nat.zero_le _,rfl⟩) λr3 q3=>
  .call (zW r3 q3) λr4 q4=>
  .call (Bf q3 q4) λr5 q5=>
  .lp (hu2 (r5,0,[]) ⟨Dn q3 q5,Nat.zero_le _,Nat.zero_le _⟩) λr6 q6=>
  .r r6 q6) (by kernel_rfl)
noncomputable abbrev eFd:Ent:=eA wd b8 φFd rFd
end Go.WF

namespace Go.WF
open Go Go.Ab Go.Proofs
def φU6 (x:Int):AV×List AO:=(.int .u64 x,[])
structure U4 where
 a:Int
 b:Int
 c:Int
 d:Int
instance:Inhabited U4:=⟨⟨0,0,0,0⟩⟩
def U4.g (x:U4) (j:Nat):List AV:=cond (Nat.beq j 0) [.int .u64 x.a] (cond (Nat.beq j 1) [.int .u64 x.b] (cond (Nat.beq j 2) [.int .u64 x.c] (cond (Nat.beq j 3) [.int .u64 x.d] [.int .u64 0])))
def φU4 (x:U4):AV×List AO:=(.tup [],[.arr 1 4 x.g])
def exI:List AV->Int
 | [.int _ x]=>x
 | _=>0
def U4.of (r:Nat->List AV):U4:=⟨exI (r 0),exI (r 1),exI (r 2),exI (r 3)⟩
theorem sK {r:Nat->List AV} (h0:r 0=[.int .u64 (exI (r 0))]) (h1:r 1=[.int .u64 (exI (r 1))]) (h2:r 2=[.int .u64 (exI (r 2))]) (h3:r 3=[.int .u64 (exI (r 3))]) (h4:∀j,r (j+4)=[.int .u64 0]):r=(U4.of r).g:=by
 funext j
 match j with
 | 0=>exact h0
 | 1=>exact h1
 | 2=>exact h2
 | 3=>exact h3
 | j+4=>exact h4 j
theorem Cn {r:Nat->List AV} (h:r=(U4.of r).g):Tr (.tup [],[.arr 1 4 r]) (φU4 (U4.of r)):=by
 unfold φU4
 rw [<-h]
 exact ⟨.inl rfl,.inl rfl⟩
theorem wv {x:Int}:decide (0<=IntKind.wrap .u64 x)=true:=by
 apply decide_eq_true
 unfold IntKind.wrap
 simp only [IntKind.signed,Bool.false_and]
 exact Int.emod_nonneg _ (by decide)
theorem rM (x k:Int):bQ wd bG φU6 dT [.int .u64 x,.int .i64 k] []:=
 bP (V:=V0) (T:=[]) (d:=2) 0 aA az (.n (c:=decide (0<=IntKind.wrap IntKind.u64 (64 - IntKind.wrap IntKind.u64 (↑(BitVec.toNat (BitVec.ofInt (IntKind.bits IntKind.u64) (IntKind.wrap IntKind.u64 k) &&& BitVec.ofInt (IntKind.bits IntKind.u64) 63)):Int)))) (wv) (
  .r ((IntKind.wrap IntKind.u64 (↑(BitVec.toNat (BitVec.ofInt (IntKind.bits IntKind.u64) (IntKind.wrap IntKind.u64 (x*2 ^ min (Int.toNat (IntKind.wrap IntKind.u64 (↑(BitVec.toNat (BitVec.ofInt (IntKind.bits IntKind.u64) (IntKind.wrap IntKind.u64 k) &&& BitVec.ofInt (IntKind.bits IntKind.u64) 63)):Int))) (IntKind.bits IntKind.u64))) ||| BitVec.ofInt (IntKind.bits IntKind.u64) (Int.fdiv x (2 ^ min (Int.toNat (IntKind.wrap IntKind.u64 (64 - IntKind.wrap IntKind.u64 (↑(BitVec.toNat (BitVec.ofInt (IntKind.bits IntKind.u64) (IntKind.wrap IntKind.u64 k) &&& BitVec.ofInt (IntKind.bits IntKind.u64) 63)):Int)))) (IntKind.bits IntKind.u64))))):Int))) trivial)) (by kernel_rfl)
noncomputable abbrev eRl:Ent:=eA wd bG φU6 dT
theorem CE {n:Nat} {v:Nat×U4} {row:Nat->List AV} (hn:n<=1000000) (h:v.1 < n) (hr:row=(U4.of row).g):{env:=[(0,.ref 1000000 0),(4,.int .i64 (↑n:Int)),(5,.int .i64 (IntKind.wrap .i64 ((↑v.1:Int)+1)))],objs:=[(1000000,.arr 1 4 row)]}=(λv:Nat×U4=>({env:=[(0,.ref 1000000 0),(4,.int .i64 n),(5,.int .i64 (v.1:Int))],objs:=[(1000000,.arr 1 4 v.2.g)]}:St)) (v.1+1,U4.of row):=by
 rw [cP (by omega)]
 show _=({env:=[(0,.ref 1000000 0),(4,.int .i64 n),(5,.int .i64 ((v.1+1:Nat):Int))],objs:=[(1000000,.arr 1 4 (U4.of row).g)]}:St)
 rw [<-hr]
theorem CF (n:Nat) (hn:n<=1000000):∃ (u:St->Bool) (w:St->U4),(∀v:Nat×U4,True->bN u w ((λv:Nat×U4=>({env:=[(0,.ref 1000000 0),(4,.int .i64 n),(5,.int .i64 (v.1:Int))],objs:=[(1000000,.arr 1 4 v.2.g)]}:St)) v) λ_=>True)/\∀C:List (List Nat×Orc),bO (V0.run [eRl] 1 [] C [] fb) fb [1,0] (mkO u w (λ(t:U4) k=>k (.exit 0) {env:=[],objs:=[(1000000,.arr 1 4 t.g)]})):=
 cO (V:=V0) (T:=[eRl]) (d:=1) (W:=[]) (f:=fb) (p:=[1,0]) (Lf:=λL=>L) (λv:Nat×U4=>{env:=[(0,.ref 1000000 0),(4,.int .i64 n),(5,.int .i64 (v.1:Int))],objs:=[(1000000,.arr 1 4 v.2.g)]}) (λ_=>True) (λv=>n - v.1) (λ(t:U4) k=>k (.exit 0) {env:=[],objs:=[(1000000,.arr 1 4 t.g)]}) (λ_=>True) (by kernel_rfl) (λv hv=>.b (decide ((↑v.1:Int) < (↑n:Int))) (λh1=>
   .call (rM _ _:bQ wd bG φU6 (dT) [.int .u64 (U4.b v.2),.int .i64 13] []) λr2 q2=>
   .call (rM _ _:bQ wd bG φU6 (dT) [.int .u64 (IntKind.wrap IntKind.u64 (U4.a v.2+U4.b v.2)),.int .i64 32] []) λr3 q3=>
   .call (rM _ _:bQ wd bG φU6 (dT) [.int .u64 (U4.d v.2),.int .i64 16] []) λr4 q4=>
   .call (rM _ _:bQ wd bG φU6 (dT) [.int .u64 (IntKind.wrap IntKind.u64 (↑(BitVec.toNat (BitVec.ofInt (IntKind.bits IntKind.u64) r4 ^^^ BitVec.ofInt (IntKind.bits IntKind.u64) (IntKind.wrap IntKind.u64 (U4.c v.2+U4.d v.2)))):Int)),.int .i64 21] []) λr5 q5=>
   .call (rM _ _:bQ wd bG φU6 (dT) [.int .u64 (IntKind.wrap IntKind.u64 (↑(BitVec.toNat (BitVec.ofInt (IntKind.bits IntKind.u64) r2 ^^^ BitVec.ofInt (IntKind.bits IntKind.u64) (IntKind.wrap IntKind.u64 (U4.a v.2+U4.b v.2)))):Int)),.int .i64 17] []) λr6 q6=>
   .call (rM _ _:bQ wd bG φU6 (dT) [.int .u64 (IntKind.wrap IntKind.u64 (IntKind.wrap IntKind.u64 (U4.c v.2+U4.d v.2)+IntKind.wrap IntKind.u64 (↑(BitVec.toNat (BitVec.ofInt (IntKind.bits IntKind.u64) r2 ^^^ BitVec.ofInt (IntKind.bits IntKind.u64) (IntKind.wrap IntKind.u64 (U4.a v.2+U4.b v.2)))):Int))),.int .i64 32] []) λr7 q7=>
   .go {env:=[(0,.ref 1000000 0),(4,.int .i64 (↑n:Int)),(5,.int .i64 (IntKind.wrap .i64 ((↑v.1:Int)+1)))],objs:=[(1000000,.arr 1 4 λj=>bif Nat.beq j (Int.toNat 2) then [.int .u64 r7] else bif Nat.beq j (Int.toNat 1) then [.int .u64 (IntKind.wrap IntKind.u64 (↑(BitVec.toNat (BitVec.ofInt (IntKind.bits IntKind.u64) r6 ^^^ BitVec.ofInt (IntKind.bits IntKind.u64) (IntKind.wrap IntKind.u64 (IntKind.wrap IntKind.u64 (U4.c v.2+U4.d v.2)+IntKind.wrap IntKind.u64 (↑(BitVec.toNat (BitVec.ofInt (IntKind.bits IntKind.u64) r2 ^^^ BitVec.ofInt (IntKind.bits IntKind.u64) (IntKind.wrap IntKind.u64 (U4.a v.2+U4.b v.2)))):Int))))):Int))] else bif Nat.beq j (Int.toNat 2) then [.int .u64 (IntKind.wrap IntKind.u64 (IntKind.wrap IntKind.u64 (U4.c v.2+U4.d v.2)+IntKind.wrap IntKind.u64 (↑(BitVec.toNat (BitVec.ofInt (IntKind.bits IntKind.u64) r2 ^^^ BitVec.ofInt (IntKind.bits IntKind.u64) (IntKind.wrap IntKind.u64 (U4.a v.2+U4.b v.2)))):Int)))] else bif Nat.beq j (Int.toNat 3) then [.int .u64 (IntKind.wrap IntKind.u64 (↑(BitVec.toNat (BitVec.ofInt (IntKind.bits IntKind.u64) r5 ^^^ BitVec.ofInt (IntKind.bits IntKind.u64) (IntKind.wrap IntKind.u64 (r3+IntKind.wrap IntKind.u64 (↑(BitVec.toNat (BitVec.ofInt (IntKind.bits IntKind.u64) r4 ^^^ BitVec.ofInt (IntKind.bits IntKind.u64) (IntKind.wrap IntKind.u64 (U4.c v.2+U4.d v.2)))):Int))))):Int))] else bif Nat.beq j (Int.toNat 0) then [.int .u64 (IntKind.wrap IntKind.u64 (r3+IntKind.wrap IntKind.u64 (↑(BitVec.toNat (BitVec.ofInt (IntKind.bits IntKind.u64) r4 ^^^ BitVec.ofInt (IntKind.bits IntKind.u64) (IntKind.wrap IntKind.u64 (U4.c v.2+U4.d v.2)))):Int)))] else bif Nat.beq j (Int.toNat 3) then [.int .u64 (IntKind.wrap IntKind.u64 (↑(BitVec.toNat (BitVec.ofInt (IntKind.bits IntKind.u64) r4 ^^^ BitVec.ofInt (IntKind.bits IntKind.u64) (IntKind.wrap IntKind.u64 (U4.c v.2+U4.d v.2)))):Int))] else bif Nat.beq j (Int.toNat 2) then [.int .u64 (IntKind.wrap IntKind.u64 (U4.c v.2+U4.d v.2))] else bif Nat.beq j (Int.toNat 0) then [.int .u64 r3] else bif Nat.beq j (Int.toNat 1) then [.int .u64 (IntKind.wrap IntKind.u64 (↑(BitVec.toNat (BitVec.ofInt (IntKind.bits IntKind.u64) r2 ^^^ BitVec.ofInt (IntKind.bits IntKind.u64) (IntKind.wrap IntKind.u64 (U4.a v.2+U4.b v.2)))):Int))] else bif Nat.beq j (Int.toNat 0) then [.int .u64 (IntKind.wrap IntKind.u64 (U4.a v.2+U4.b v.2))] else U4.g v.2 j)]} (v.1+1,U4.of _) trivial (oy (bD h1)) (CE hn (bD h1) (sK rfl rfl rfl rfl λ_=>rfl))) λh1=>
  .fi v.2 trivial) (λv L k kn=>by kernel_rfl)
theorem yn {r:Nat->List AV} (h:r=(U4.of r).g) (n:Nat) (hn:n<=1000000):bQ wd fb φU4 dT [.ref ae 0,.int .i64 (n:Int)] [.arr 1 4 r]:=by
 rw [h]
 generalize U4.of r=x
 obtain ⟨u,w,hu,hc⟩:=CF n hn
 exact bP (V:=V0) (T:=[eRl]) (d:=1) 1 (aU (hc _) aA) az (.lp (hu (0,x) trivial) λr1 q1=>
  .r r1 trivial) (by kernel_rfl)
noncomputable abbrev wo:Ent:=eA wd fb φU4 dT
theorem xW {r:Nat->List AV} (m:Int) (h:∃x:U4,r=x.g):bQ wd nB φU4 dT [.ref ae 0,.int .u64 m] [.arr 1 4 r]:=by
 obtain ⟨x,rfl⟩:=h
 exact bP (V:=V0) (T:=[wo]) (d:=1) 1 aA az (.call (yn (sK rfl rfl rfl rfl λ_=>rfl) 2 (by decide):bQ wd fb φU4 (dT) [.ref 1000000 0,.int .i64 2] [.arr 1 4 λj=>bif Nat.beq j (Int.toNat 3) then [.int .u64 (IntKind.wrap IntKind.u64 (↑(BitVec.toNat (BitVec.ofInt (IntKind.bits IntKind.u64) (U4.d x) ^^^ BitVec.ofInt (IntKind.bits IntKind.u64) m)):Int))] else U4.g x j]) λr1 q1=>
  .t (U4.of _) trivial (Cn (sK rfl rfl rfl rfl λ_=>rfl):Tr (.tup [],[.arr 1 4 λj=>bif Nat.beq j (Int.toNat 0) then [.int .u64 (IntKind.wrap IntKind.u64 (↑(BitVec.toNat (BitVec.ofInt (IntKind.bits IntKind.u64) (U4.a r1) ^^^ BitVec.ofInt (IntKind.bits IntKind.u64) m)):Int))] else U4.g r1 j]) _)) (by kernel_rfl)
noncomputable abbrev eWo:Ent:=eA wd nB φU4 dT
section
variable {n:Nat} {g:Nat->Int} {i:Nat}
theorem zl (hn:n<=1000000) (h:decide (IntKind.wrap .i64 ((i:Int)+8)<=(n:Int))=true) (hi:i<=n):i+8<=n:=by
 have:=of_decide_eq_true h
 rw [wrap_i64 (by omega) (by omega)] at this
 omega
theorem Co {k:Nat} (hn:n<=1000000) (h:i+8<=n) (h8:decide ((k:Int) < 8)=true):within (IntKind.wrap .i64 ((i:Int)+(k:Int))) n=true:=by
 have:=of_decide_eq_true h8
 rw [wrap_i64 (by omega) (by omega)]
 exact jb (by omega) (by omega)
theorem AJ {k:Nat} (h:decide ((k:Int) < 8)=true):k < 8:=by have:=of_decide_eq_true h;omega
theorem yd {k:Nat} (h:k < 8):decide (0<=IntKind.wrap .i64 (8*(k:Int)))=true:=by
 rw [wrap_i64 (by omega) (by omega)]
 exact decide_eq_true (by omega)
theorem zM {v:Nat×Nat×Int×Int×U4} {y:Int} (h:v.2.1 < 8):{env:=[(2,.sl .no 1 n λj=>[.int .u8 (g j)]),(7,.ref 7 0),(8,.int .u64 v.2.2.1),(9,.int .i64 (↑v.1:Int)),(10,.int .u64 y),(33,.int .i64 (IntKind.wrap .i64 ((↑v.2.1:Int)+1)))],objs:=[(7,.arr 1 4 (U4.g v.2.2.2.2))]}=(λv:Nat×Nat×Int×Int×U4=>({env:=[(2,.sl .no 1 n λj=>[.int .u8 (g j)]),(7,.ref 7 0),(8,.int .u64 v.2.2.1),(9,.int .i64 (v.1:Int)),(10,.int .u64 v.2.2.2.1),(33,.int .i64 (v.2.1:Int))],objs:=[(7,.arr 1 4 v.2.2.2.2.g)]}:St)) (v.1,v.2.1+1,v.2.2.1,y,v.2.2.2.2):=by
 rw [cP (by omega)]
theorem Cr {a b:Nat×Nat×Int×Int×U4} (h:(λv:Nat×Nat×Int×Int×U4=>({env:=[(2,.sl .no 1 n λj=>[.int .u8 (g j)]),(7,.ref 7 0),(8,.int .u64 v.2.2.1),(9,.int .i64 (v.1:Int)),(10,.int .u64 v.2.2.2.1),(33,.int .i64 (v.2.1:Int))],objs:=[(7,.arr 1 4 v.2.2.2.2.g)]}:St)) a=(λv:Nat×Nat×Int×Int×U4=>({env:=[(2,.sl .no 1 n λj=>[.int .u8 (g j)]),(7,.ref 7 0),(8,.int .u64 v.2.2.1),(9,.int .i64 (v.1:Int)),(10,.int .u64 v.2.2.2.1),(33,.int .i64 (v.2.1:Int))],objs:=[(7,.arr 1 4 v.2.2.2.2.g)]}:St)) b):a.1=b.1:=by
 have h:=congrArg (λs:St=>alook s.env 9) h
 have h:some (AV.int .i64 (a.1:Int))=some (AV.int .i64 (b.1:Int)):=h
 injection h with h
 injection h with _ h
 omega
theorem zU {z:Nat} (hn:n<=1000000) (h:decide (IntKind.wrap .i64 ((i:Int)+8)<=(n:Int))=true) (hi:i<=n) (q:z=i):z+8<=n:=q ▸ zl hn h hi
theorem Cq {z:Nat} (hn:n<=1000000) (hi:i<=n) (h:decide (IntKind.wrap .i64 ((i:Int)+8)<=(n:Int))=true) (q:z=i):n - (z+8) < n - i:=by
 have:=zl hn h hi
 omega
theorem Cp {t:Nat×Int×Int×U4} {x:U4} (hn:n<=1000000) (hi:i<=n) (h:decide (IntKind.wrap .i64 ((i:Int)+8)<=(n:Int))=true) (q:t.1=i):{env:=[(2,.sl .no 1 n λj=>[.int .u8 (g j)]),(7,.ref 7 0),(8,.int .u64 t.2.1),(9,.int .i64 (IntKind.wrap .i64 ((↑t.1:Int)+8)))],objs:=[(7,.arr 1 4 (U4.g x))]}=(λv:Nat×Int×U4=>({env:=[(2,.sl .no 1 n λj=>[.int .u8 (g j)]),(7,.ref 7 0),(8,.int .u64 v.2.1),(9,.int .i64 (v.1:Int))],objs:=[(7,.arr 1 4 v.2.2.g)]}:St)) (t.1+8,t.2.1,x):=by
 have:=zl hn h hi
 rw [wrap_i64 (by omega) (by omega)]
 rfl
theorem BI:Int.tmod (n:Int) 8=((n % 8:Nat):Int):=by rw [Int.tmod_eq_emod_of_nonneg (by omega)];omega
theorem uY (h:decide ((i:Int) < Int.tmod (n:Int) 8)=true):i < n % 8:=by
 have:=of_decide_eq_true h
 rw [BI] at this
 omega
theorem zL (hn:n<=1000000) (h:decide ((i:Int) < Int.tmod (n:Int) 8)=true):within (IntKind.wrap .i64 (IntKind.wrap .i64 ((n:Int) - Int.tmod (n:Int) 8)+(i:Int))) n=true:=by
 have:=uY h
 have h8:n % 8<=n:=Nat.mod_le _ _
 rw [BI,wrap_i64 (x:=(n:Int) - ((n % 8:Nat):Int)) (by omega) (by omega),wrap_i64 (by omega) (by omega)]
 exact jb (by omega) (by omega)
theorem zT:n % 8<=8:=Nat.le_of_lt (Nat.mod_lt _ (by decide))
theorem zO (hn:n<=1000000) (h:decide ((i:Int) < Int.tmod (n:Int) 8)=true):n - (i+1) < n - i:=by
 have:=uY h
 have h8:n % 8<=n:=Nat.mod_le _ _
 omega
theorem zN {v:Nat×Int×U4} {y:Int} (hn:n<=1000000) (h:decide ((v.1:Int) < Int.tmod (n:Int) 8)=true):{env:=[(2,.sl .no 1 n λj=>[.int .u8 (g j)]),(7,.ref 7 0),(8,.int .u64 y),(53,.int .i64 (Int.tmod (↑n:Int) 8)),(54,.int .i64 (IntKind.wrap .i64 ((↑v.1:Int)+1)))],objs:=[(7,.arr 1 4 (U4.g v.2.2))]}=(λv:Nat×Int×U4=>({env:=[(2,.sl .no 1 n λj=>[.int .u8 (g j)]),(7,.ref 7 0),(8,.int .u64 v.2.1),(53,.int .i64 (Int.tmod n 8)),(54,.int .i64 (v.1:Int))],objs:=[(7,.arr 1 4 v.2.2.g)]}:St)) (v.1+1,y,v.2.2):=by
 have:=uY h
 have h8:n % 8<=n:=Nat.mod_le _ _
 rw [cP (by omega)]
theorem Cs {u:St->Bool} {w:St->Int×U4} {row:Nat->List AV} (h:row=(U4.of row).g) (hu:∀v:Nat×Int×U4,v.1<=n->bN u w ((λv:Nat×Int×U4=>({env:=[(2,.sl .no 1 n λj=>[.int .u8 (g j)]),(7,.ref 7 0),(8,.int .u64 v.2.1),(9,.int .i64 (v.1:Int))],objs:=[(7,.arr 1 4 v.2.2.g)]}:St)) v) λ_=>True) (L:Int):bN u w {env:=[(2,.sl .no 1 n λj=>[.int .u8 (g j)]),(7,.ref 7 0),(8,.int .u64 L),(9,.int .i64 0)],objs:=[(7,.arr 1 4 row)]} λ_=>True:=by
 rw [h]
 exact hu (0,L,U4.of row) (Nat.zero_le _)
end
theorem zP (n:Nat) (g:Nat->Int) (hn:n<=1000000):∃ (u:St->Bool) (w:St->Nat×Int×Int×U4),(∀v:Nat×Nat×Int×Int×U4,v.1+8<=n->bN u w ((λv:Nat×Nat×Int×Int×U4=>({env:=[(2,.sl .no 1 n λj=>[.int .u8 (g j)]),(7,.ref 7 0),(8,.int .u64 v.2.2.1),(9,.int .i64 (v.1:Int)),(10,.int .u64 v.2.2.2.1),(33,.int .i64 (v.2.1:Int))],objs:=[(7,.arr 1 4 v.2.2.2.2.g)]}:St)) v) λt=>t.1=v.1)/\∀C:List (List Nat×Orc),bO (V0.run [eWo,wo] 1 [] C [] fN) fN [1,1,1,0,1,0,0,1,0,0,1,0,1,0] (mkO u w (λ(t:Nat×Int×Int×U4) k=>k (.exit 2) {env:=[(2,.sl .no 1 n λj=>[.int .u8 (g j)]),(7,.ref 7 0),(8,.int .u64 t.2.1),(9,.int .i64 (t.1:Int)),(10,.int .u64 t.2.2.1)],objs:=[(7,.arr 1 4 t.2.2.2.g)]})):=
 qT (V:=V0) (T:=[eWo,wo]) (d:=1) (W:=[]) (f:=fN) (p:=[1,1,1,0,1,0,0,1,0,0,1,0,1,0]) (Lf:=λL=>L) (λv:Nat×Nat×Int×Int×U4=>{env:=[(2,.sl .no 1 n λj=>[.int .u8 (g j)]),(7,.ref 7 0),(8,.int .u64 v.2.2.1),(9,.int .i64 (v.1:Int)),(10,.int .u64 v.2.2.2.1),(33,.int .i64 (v.2.1:Int))],objs:=[(7,.arr 1 4 v.2.2.2.2.g)]}) (λv=>v.1+8<=n) (λv=>8 - v.2.1) (λ(t:Nat×Int×Int×U4) k=>k (.exit 2) {env:=[(2,.sl .no 1 n λj=>[.int .u8 (g j)]),(7,.ref 7 0),(8,.int .u64 t.2.1),(9,.int .i64 (t.1:Int)),(10,.int .u64 t.2.2.1)],objs:=[(7,.arr 1 4 t.2.2.2.g)]}) (λv t=>t.1=v.1) (by kernel_rfl) (λa b x h hp=>hp.trans (Cr h)) (λv hv=>.b (decide ((↑v.2.1:Int) < 8)) (λh1=>
   .n (c:=within (IntKind.wrap .i64 ((↑v.1:Int)+(↑v.2.1:Int))) n) (Co hn hv h1) (
   .n (c:=decide (0<=IntKind.wrap .i64 (8*(↑v.2.1:Int)))) (yd (AJ h1)) (
   .nx {env:=[(2,.sl .no 1 n λj=>[.int .u8 (g j)]),(7,.ref 7 0),(8,.int .u64 v.2.2.1),(9,.int .i64 (↑v.1:Int)),(10,.int .u64 (IntKind.wrap IntKind.u64 (↑(BitVec.toNat (BitVec.ofInt (IntKind.bits IntKind.u64) v.2.2.2.1 ||| BitVec.ofInt (IntKind.bits IntKind.u64) (IntKind.wrap IntKind.u64 (IntKind.wrap IntKind.u64 (g (Int.toNat (IntKind.wrap .i64 ((↑v.1:Int)+(↑v.2.1:Int)))))*2 ^ min (Int.toNat (IntKind.wrap .i64 (8*(↑v.2.1:Int)))) (IntKind.bits IntKind.u64))))):Int))),(33,.int .i64 (IntKind.wrap .i64 ((↑v.2.1:Int)+1)))],objs:=[(7,.arr 1 4 (U4.g v.2.2.2.2))]} (v.1,v.2.1+1,v.2.2.1,_,v.2.2.2.2) hv (oy (AJ h1)) (λ_ h=>h) (zM (AJ h1))))) λh1=>
  .fi (v.1,v.2.2.1,v.2.2.2.1,v.2.2.2.2) rfl) (λv L k kn=>by kernel_rfl)
theorem zR (n:Nat) (g:Nat->Int) (hn:n<=1000000) {z:St->Bool} {y:St->Nat×Int×Int×U4} (hi:∀v:Nat×Nat×Int×Int×U4,v.1+8<=n->bN z y ((λv:Nat×Nat×Int×Int×U4=>({env:=[(2,.sl .no 1 n λj=>[.int .u8 (g j)]),(7,.ref 7 0),(8,.int .u64 v.2.2.1),(9,.int .i64 (v.1:Int)),(10,.int .u64 v.2.2.2.1),(33,.int .i64 (v.2.1:Int))],objs:=[(7,.arr 1 4 v.2.2.2.2.g)]}:St)) v) λt=>t.1=v.1):∃ (u:St->Bool) (w:St->Int×U4),(∀v:Nat×Int×U4,v.1<=n->bN u w ((λv:Nat×Int×U4=>({env:=[(2,.sl .no 1 n λj=>[.int .u8 (g j)]),(7,.ref 7 0),(8,.int .u64 v.2.1),(9,.int .i64 (v.1:Int))],objs:=[(7,.arr 1 4 v.2.2.g)]}:St)) v) λ_=>True)/\∀C:List (List Nat×Orc),bO (V0.run [eWo,wo] 1 [] (([1,1,1,0,1,0,0,1,0,0,1,0,1,0],mkO z y (λ(t:Nat×Int×Int×U4) k=>k (.exit 2) {env:=[(2,.sl .no 1 n λj=>[.int .u8 (g j)]),(7,.ref 7 0),(8,.int .u64 t.2.1),(9,.int .i64 (t.1:Int)),(10,.int .u64 t.2.2.1)],objs:=[(7,.arr 1 4 t.2.2.2.g)]}))::C) [] fN) fN [1,1,1,0,1,0] (mkO u w (λ(t:Int×U4) k=>k (.exit 0) {env:=[(2,.sl .no 1 n λj=>[.int .u8 (g j)]),(7,.ref 7 0),(8,.int .u64 t.1)],objs:=[(7,.arr 1 4 t.2.g)]})):=
 cO (V:=V0) (T:=[eWo,wo]) (d:=1) (W:=[]) (f:=fN) (p:=[1,1,1,0,1,0]) (Lf:=λL=>([1,1,1,0,1,0,0,1,0,0,1,0,1,0],mkO z y (λ(t:Nat×Int×Int×U4) k=>k (.exit 2) {env:=[(2,.sl .no 1 n λj=>[.int .u8 (g j)]),(7,.ref 7 0),(8,.int .u64 t.2.1),(9,.int .i64 (t.1:Int)),(10,.int .u64 t.2.2.1)],objs:=[(7,.arr 1 4 t.2.2.2.g)]}))::L) (λv:Nat×Int×U4=>{env:=[(2,.sl .no 1 n λj=>[.int .u8 (g j)]),(7,.ref 7 0),(8,.int .u64 v.2.1),(9,.int .i64 (v.1:Int))],objs:=[(7,.arr 1 4 v.2.2.g)]}) (λv=>v.1<=n) (λv=>n - v.1) (λ(t:Int×U4) k=>k (.exit 0) {env:=[(2,.sl .no 1 n λj=>[.int .u8 (g j)]),(7,.ref 7 0),(8,.int .u64 t.1)],objs:=[(7,.arr 1 4 t.2.g)]}) (λ_=>True) (by kernel_rfl) (λv hv=>.b (decide (IntKind.wrap .i64 ((↑v.1:Int)+8)<=(↑n:Int))) (λh1=>
   .lp (hi (v.1,0,v.2.1,0,v.2.2) (zl hn h1 hv)) λr2 q2=>
   .call (xW _ (⟨_,rfl⟩):bQ wd nB φU4 (dT) [.ref 1000000 0,.int .u64 r2.2.2.1] [.arr 1 4 (U4.g r2.2.2.2)]) λr3 q3=>
   .go {env:=[(2,.sl .no 1 n λj=>[.int .u8 (g j)]),(7,.ref 7 0),(8,.int .u64 r2.2.1),(9,.int .i64 (IntKind.wrap .i64 ((↑r2.1:Int)+8)))],objs:=[(7,.arr 1 4 (U4.g r3))]} (r2.1+8,r2.2.1,r3) (zU hn h1 hv q2) (Cq hn hv h1 q2) (Cp hn hv h1 q2)) λh1=>
  .fi v.2 trivial) (λv L k kn=>by kernel_rfl)
theorem zQ (n:Nat) (g:Nat->Int) (hn:n<=1000000):∃ (u:St->Bool) (w:St->Int×U4),(∀v:Nat×Int×U4,True->bN u w ((λv:Nat×Int×U4=>({env:=[(2,.sl .no 1 n λj=>[.int .u8 (g j)]),(7,.ref 7 0),(8,.int .u64 v.2.1),(53,.int .i64 (Int.tmod n 8)),(54,.int .i64 (v.1:Int))],objs:=[(7,.arr 1 4 v.2.2.g)]}:St)) v) λ_=>True)/\∀C:List (List Nat×Orc),bO (V0.run [eWo,wo] 1 [] C [] fN) fN [1,1,1,1,0,1,0] (mkO u w (λ(t:Int×U4) k=>k (.exit 4) {env:=[(7,.ref 7 0),(8,.int .u64 t.1)],objs:=[(7,.arr 1 4 t.2.g)]})):=
 cO (V:=V0) (T:=[eWo,wo]) (d:=1) (W:=[]) (f:=fN) (p:=[1,1,1,1,0,1,0]) (Lf:=λL=>L) (λv:Nat×Int×U4=>{env:=[(2,.sl .no 1 n λj=>[.int .u8 (g j)]),(7,.ref 7 0),(8,.int .u64 v.2.1),(53,.int .i64 (Int.tmod n 8)),(54,.int .i64 (v.1:Int))],objs:=[(7,.arr 1 4 v.2.2.g)]}) (λ_=>True) (λv=>n - v.1) (λ(t:Int×U4) k=>k (.exit 4) {env:=[(7,.ref 7 0),(8,.int .u64 t.1)],objs:=[(7,.arr 1 4 t.2.g)]}) (λ_=>True) (by kernel_rfl) (λv hv=>.b (decide ((↑v.1:Int) < Int.tmod (↑n:Int) 8)) (λh1=>
   .n (c:=within (IntKind.wrap .i64 (IntKind.wrap .i64 ((↑n:Int) - Int.tmod (↑n:Int) 8)+(↑v.1:Int))) n) (zL hn h1) (
   .n (c:=decide (0<=IntKind.wrap .i64 (8*(↑v.1:Int)))) (yd (Nat.lt_of_lt_of_le (uY h1) (zT))) (
   .go {env:=[(2,.sl .no 1 n λj=>[.int .u8 (g j)]),(7,.ref 7 0),(8,.int .u64 (IntKind.wrap IntKind.u64 (↑(BitVec.toNat (BitVec.ofInt (IntKind.bits IntKind.u64) v.2.1 ||| BitVec.ofInt (IntKind.bits IntKind.u64) (IntKind.wrap IntKind.u64 (IntKind.wrap IntKind.u64 (g (Int.toNat (IntKind.wrap .i64 (IntKind.wrap .i64 ((↑n:Int) - Int.tmod (↑n:Int) 8)+(↑v.1:Int)))))*2 ^ min (Int.toNat (IntKind.wrap .i64 (8*(↑v.1:Int)))) (IntKind.bits IntKind.u64))))):Int))),(53,.int .i64 (Int.tmod (↑n:Int) 8)),(54,.int .i64 (IntKind.wrap .i64 ((↑v.1:Int)+1)))],objs:=[(7,.arr 1 4 (U4.g v.2.2))]} (v.1+1,_,v.2.2) trivial (zO hn h1) (zN hn h1)))) λh1=>
  .fi (v.2.1,v.2.2) trivial) (λv L k kn=>by kernel_rfl)
theorem ye (a b:Int) (n:Nat) (g:Nat->Int) (hn:n<=1000000):bQ wd fN φU6 dT [.int .u64 a,.int .u64 b,.sl .no 1 n λj=>[.int .u8 (g j)]] []:=by
 obtain ⟨ui,wi,hui,hci⟩:=zP n g hn
 obtain ⟨u1,w1,hu1,hc1⟩:=zR n g hn hui
 obtain ⟨u2,w2,hu2,hc2⟩:=zQ n g hn
 exact bP (V:=V0) (T:=[eWo,wo]) (d:=1) 0 (aU (hci _) (aU (hc1 _) (aU (hc2 _) aA))) az (.lp (s:={env:=[(2,.sl .no 1 n λj=>[.int .u8 (g j)]),(7,.ref 7 0),(8,.int .u64 (IntKind.wrap IntKind.u64 (IntKind.wrap IntKind.u64 (↑n:Int)*2 ^ min (Int.toNat 56) (IntKind.bits IntKind.u64)))),(9,.int .i64 0)],objs:=[(7,.arr 1 4 (ag [.int .u64 0] [(0,.int .u64 (IntKind.wrap IntKind.u64 (↑(BitVec.toNat (BitVec.ofInt (IntKind.bits IntKind.u64) a ^^^ BitVec.ofInt (IntKind.bits IntKind.u64) 8317987319222330741)):Int))),(1,.int .u64 (IntKind.wrap IntKind.u64 (↑(BitVec.toNat (BitVec.ofInt (IntKind.bits IntKind.u64) b ^^^ BitVec.ofInt (IntKind.bits IntKind.u64) 7237128888997146477)):Int))),(2,.int .u64 (IntKind.wrap IntKind.u64 (↑(BitVec.toNat (BitVec.ofInt (IntKind.bits IntKind.u64) a ^^^ BitVec.ofInt (IntKind.bits IntKind.u64) 7816392313619706465)):Int))),(3,.int .u64 (IntKind.wrap IntKind.u64 (↑(BitVec.toNat (BitVec.ofInt (IntKind.bits IntKind.u64) b ^^^ BitVec.ofInt (IntKind.bits IntKind.u64) 8387220255154660723)):Int)))]))]}) (Cs (sK rfl rfl rfl rfl λ_=>rfl) hu1 _) λr1 q1=>
  .lp (hu2 (0,r1.1,r1.2) trivial) λr2 q2=>
  .call (xW _ (⟨_,rfl⟩):bQ wd nB φU4 (dT) [.ref 1000000 0,.int .u64 r2.1] [.arr 1 4 (U4.g r2.2)]) λr3 q3=>
  .call (yn (sK rfl rfl rfl rfl λ_=>rfl) 4 (by decide):bQ wd fb φU4 (dT) [.ref 1000000 0,.int .i64 4] [.arr 1 4 λj=>bif Nat.beq j (Int.toNat 2) then [.int .u64 (IntKind.wrap IntKind.u64 (↑(BitVec.toNat (BitVec.ofInt (IntKind.bits IntKind.u64) (U4.c r3) ^^^ BitVec.ofInt (IntKind.bits IntKind.u64) 255)):Int))] else U4.g r3 j]) λr4 q4=>
  .r ((IntKind.wrap IntKind.u64 (↑(BitVec.toNat (BitVec.ofInt (IntKind.bits IntKind.u64) (IntKind.wrap IntKind.u64 (↑(BitVec.toNat (BitVec.ofInt (IntKind.bits IntKind.u64) (IntKind.wrap IntKind.u64 (↑(BitVec.toNat (BitVec.ofInt (IntKind.bits IntKind.u64) (U4.a r4) ^^^ BitVec.ofInt (IntKind.bits IntKind.u64) (U4.b r4))):Int)) ^^^ BitVec.ofInt (IntKind.bits IntKind.u64) (U4.c r4))):Int)) ^^^ BitVec.ofInt (IntKind.bits IntKind.u64) (U4.d r4))):Int))) trivial) (by kernel_rfl)
noncomputable abbrev eSu:Ent:=eA wd fN φU6 dT
end Go.WF

namespace Go.WF
open Go Go.Ab Go.Proofs
def ByR (n:Nat) (row:Nat->List AV):Prop:=∀j,j < n->∃x:Int,row j=[.int .u8 x]
theorem y5 {row:Nat->List AV}:ByR 0 row:=λj h=>absurd h (Nat.not_lt_zero _)
theorem yZ (x:Int):ByR 1 (ag [.int .u8 0] [(0,.int .u8 x)]):=λj h=>by
 have:j=0:=by omega
 subst this
 exact ⟨x,rfl⟩
theorem yY (s:List UInt8):ByR s.length (rowOf s):=λj h=>⟨_,rfl⟩
theorem y6 {n m:Nat} {g g2:Nat->List AV} (h1:ByR n g) (h2:ByR m g2):ByR (n+m) (ao n m g g2):=λj h=>by
 by_cases e:j < n
 ·rw [cH e];exact h1 j e
 ·rw [dn (by omega) h];exact h2 _ (by omega)
theorem zS (a b:Int) {n:Nat} {row:Nat->List AV} (hn:n<=1000000) (h:ByR n row):bQ wd fN φU6 dT [.int .u64 a,.int .u64 b,.sl .no 1 n row] []:=by
 obtain ⟨x,hx,hc⟩:=ye a b n (λj=>exI (row j)) hn
 refine ⟨x,trivial,hc.args rfl rfl λi u u' hu hu' c v hr=>?_⟩
 match i,hu,hu' with
 | 0,hu,hu'=>injection hu with hu;injection hu' with hu';subst hu hu';exact hr
 | 1,hu,hu'=>injection hu with hu;injection hu' with hu';subst hu hu';exact hr
 | 2,hu,hu'=>
  injection hu with hu;injection hu' with hu'
  subst hu hu'
  refine lf hr λj hj=>?_
  obtain ⟨y,hy⟩:=h j hj
  rw [hy];rfl
theorem BO {n:Nat} (h:n<=400000):Nat.ble n 140737488355328=true:=Nat.ble_eq_true_of_le (by omega)
theorem vg (a b:TX) (ha:a.length<=400000) (hb:b.length<=400000):bQ wd oY φIn dT [.str a,.str b] []:=
 bP (V:=V0) (T:=[eSu]) (d:=12) 0 aA az (.n (c:=Nat.ble (List.length a) 140737488355328) (BO ha) (
  .n (c:=Nat.ble (List.length b) 140737488355328) (BO hb) (
  .n (c:=roomy 1 (0+1+1+1+1+1+1+1+1+List.length a)&&Nat.beq (0+1+1+1+1+1+1+1+1) (0+1+1+1+1+1+1+1+1)) (bz (by omega)) (
  .n (c:=roomy 1 (0+1+1+1+1+1+1+1+1+List.length a+1)&&Nat.beq (0+1+1+1+1+1+1+1+1+List.length a) (0+1+1+1+1+1+1+1+1+List.length a)) (bz (by omega)) (
  .n (c:=roomy 1 (0+1+1+1+1+1+1+1+1+List.length a+1+1)&&Nat.beq (0+1+1+1+1+1+1+1+1+List.length a+1) (0+1+1+1+1+1+1+1+1+List.length a+1)) (bz (by omega)) (
  .n (c:=roomy 1 (0+1+1+1+1+1+1+1+1+List.length a+1+1+1)&&Nat.beq (0+1+1+1+1+1+1+1+1+List.length a+1+1) (0+1+1+1+1+1+1+1+1+List.length a+1+1)) (bz (by omega)) (
  .n (c:=roomy 1 (0+1+1+1+1+1+1+1+1+List.length a+1+1+1+1)&&Nat.beq (0+1+1+1+1+1+1+1+1+List.length a+1+1+1) (0+1+1+1+1+1+1+1+1+List.length a+1+1+1)) (bz (by omega)) (
  .n (c:=roomy 1 (0+1+1+1+1+1+1+1+1+List.length a+1+1+1+1+1)&&Nat.beq (0+1+1+1+1+1+1+1+1+List.length a+1+1+1+1) (0+1+1+1+1+1+1+1+1+List.length a+1+1+1+1)) (bz (by omega)) (
  .n (c:=roomy 1 (0+1+1+1+1+1+1+1+1+List.length a+1+1+1+1+1+1)&&Nat.beq (0+1+1+1+1+1+1+1+1+List.length a+1+1+1+1+1) (0+1+1+1+1+1+1+1+1+List.length a+1+1+1+1+1)) (bz (by omega)) (
  .n (c:=roomy 1 (0+1+1+1+1+1+1+1+1+List.length a+1+1+1+1+1+1+1)&&Nat.beq (0+1+1+1+1+1+1+1+1+List.length a+1+1+1+1+1+1) (0+1+1+1+1+1+1+1+1+List.length a+1+1+1+1+1+1)) (bz (by omega)) (
  .n (c:=roomy 1 (0+1+1+1+1+1+1+1+1+List.length a+1+1+1+1+1+1+1+1)&&Nat.beq (0+1+1+1+1+1+1+1+1+List.length a+1+1+1+1+1+1+1) (0+1+1+1+1+1+1+1+1+List.length a+1+1+1+1+1+1+1)) (bz (by omega)) (
  .n (c:=roomy 1 (0+1+1+1+1+1+1+1+1+List.length a+1+1+1+1+1+1+1+1+List.length b)&&Nat.beq (0+1+1+1+1+1+1+1+1+List.length a+1+1+1+1+1+1+1+1) (0+1+1+1+1+1+1+1+1+List.length a+1+1+1+1+1+1+1+1)) (bz (by omega)) (
  .call (zS _ _ (by omega) (by repeat (first | exact yY _ | exact yZ _ | exact y5 | apply y6)):bQ wd fN φU6 (dT) [.int .u64 1,.int .u64 0,.sl .no 1 (0+1+1+1+1+1+1+1+1+List.length a+1+1+1+1+1+1+1+1+List.length b) (ao (0+1+1+1+1+1+1+1+1+List.length a+1+1+1+1+1+1+1+1) (List.length b) (ao (0+1+1+1+1+1+1+1+1+List.length a+1+1+1+1+1+1+1) 1 (ao (0+1+1+1+1+1+1+1+1+List.length a+1+1+1+1+1+1) 1 (ao (0+1+1+1+1+1+1+1+1+List.length a+1+1+1+1+1) 1 (ao (0+1+1+1+1+1+1+1+1+List.length a+1+1+1+1) 1 (ao (0+1+1+1+1+1+1+1+1+List.length a+1+1+1) 1 (ao (0+1+1+1+1+1+1+1+1+List.length a+1+1) 1 (ao (0+1+1+1+1+1+1+1+1+List.length a+1) 1 (ao (0+1+1+1+1+1+1+1+1+List.length a) 1 (ao (0+1+1+1+1+1+1+1+1) (List.length a) (ao (0+1+1+1+1+1+1+1) 1 (ao (0+1+1+1+1+1+1) 1 (ao (0+1+1+1+1+1) 1 (ao (0+1+1+1+1) 1 (ao (0+1+1+1) 1 (ao (0+1+1) 1 (ao (0+1) 1 (ao 0 1 (λx=>[.int .u8 0]) (ag [.int .u8 0] [(0,.int .u8 (IntKind.wrap IntKind.u8 (Int.fdiv (IntKind.wrap IntKind.u64 (↑(List.length a):Int)) (2 ^ min (Int.toNat (IntKind.wrap .i64 (8*7))) (IntKind.bits IntKind.u64)))))])) (ag [.int .u8 0] [(0,.int .u8 (IntKind.wrap IntKind.u8 (Int.fdiv (IntKind.wrap IntKind.u64 (↑(List.length a):Int)) (2 ^ min (Int.toNat (IntKind.wrap .i64 (8*IntKind.wrap .i64 (7 - 1)))) (IntKind.bits IntKind.u64)))))])) (ag [.int .u8 0] [(0,.int .u8 (IntKind.wrap IntKind.u8 (Int.fdiv (IntKind.wrap IntKind.u64 (↑(List.length a):Int)) (2 ^ min (Int.toNat (IntKind.wrap .i64 (8*IntKind.wrap .i64 (IntKind.wrap .i64 (7 - 1) - 1)))) (IntKind.bits IntKind.u64)))))])) (ag [.int .u8 0] [(0,.int .u8 (IntKind.wrap IntKind.u8 (Int.fdiv (IntKind.wrap IntKind.u64 (↑(List.length a):Int)) (2 ^ min (Int.toNat (IntKind.wrap .i64 (8*IntKind.wrap .i64 (IntKind.wrap .i64 (IntKind.wrap .i64 (7 - 1) - 1) - 1)))) (IntKind.bits IntKind.u64)))))])) (ag [.int .u8 0] [(0,.int .u8 (IntKind.wrap IntKind.u8 (Int.fdiv (IntKind.wrap IntKind.u64 (↑(List.length a):Int)) (2 ^ min (Int.toNat (IntKind.wrap .i64 (8*IntKind.wrap .i64 (IntKind.wrap .i64 (IntKind.wrap .i64 (IntKind.wrap .i64 (7 - 1) - 1) - 1) - 1)))) (IntKind.bits IntKind.u64)))))])) (ag [.int .u8 0] [(0,.int .u8 (IntKind.wrap IntKind.u8 (Int.fdiv (IntKind.wrap IntKind.u64 (↑(List.length a):Int)) (2 ^ min (Int.toNat (IntKind.wrap .i64 (8*IntKind.wrap .i64 (IntKind.wrap .i64 (IntKind.wrap .i64 (IntKind.wrap .i64 (IntKind.wrap .i64 (7 - 1) - 1) - 1) - 1) - 1)))) (IntKind.bits IntKind.u64)))))])) (ag [.int .u8 0] [(0,.int .u8 (IntKind.wrap IntKind.u8 (Int.fdiv (IntKind.wrap IntKind.u64 (↑(List.length a):Int)) (2 ^ min (Int.toNat (IntKind.wrap .i64 (8*IntKind.wrap .i64 (IntKind.wrap .i64 (IntKind.wrap .i64 (IntKind.wrap .i64 (IntKind.wrap .i64 (IntKind.wrap .i64 (7 - 1) - 1) - 1) - 1) - 1) - 1)))) (IntKind.bits IntKind.u64)))))])) (ag [.int .u8 0] [(0,.int .u8 (IntKind.wrap IntKind.u8 (Int.fdiv (IntKind.wrap IntKind.u64 (↑(List.length a):Int)) (2 ^ min (Int.toNat (IntKind.wrap .i64 (8*IntKind.wrap .i64 (IntKind.wrap .i64 (IntKind.wrap .i64 (IntKind.wrap .i64 (IntKind.wrap .i64 (IntKind.wrap .i64 (IntKind.wrap .i64 (7 - 1) - 1) - 1) - 1) - 1) - 1) - 1)))) (IntKind.bits IntKind.u64)))))])) (rowOf a)) (ag [.int .u8 0] [(0,.int .u8 (IntKind.wrap IntKind.u8 (Int.fdiv (IntKind.wrap IntKind.u64 (↑(List.length b):Int)) (2 ^ min (Int.toNat (IntKind.wrap .i64 (8*7))) (IntKind.bits IntKind.u64)))))])) (ag [.int .u8 0] [(0,.int .u8 (IntKind.wrap IntKind.u8 (Int.fdiv (IntKind.wrap IntKind.u64 (↑(List.length b):Int)) (2 ^ min (Int.toNat (IntKind.wrap .i64 (8*IntKind.wrap .i64 (7 - 1)))) (IntKind.bits IntKind.u64)))))])) (ag [.int .u8 0] [(0,.int .u8 (IntKind.wrap IntKind.u8 (Int.fdiv (IntKind.wrap IntKind.u64 (↑(List.length b):Int)) (2 ^ min (Int.toNat (IntKind.wrap .i64 (8*IntKind.wrap .i64 (IntKind.wrap .i64 (7 - 1) - 1)))) (IntKind.bits IntKind.u64)))))])) (ag [.int .u8 0] [(0,.int .u8 (IntKind.wrap IntKind.u8 (Int.fdiv (IntKind.wrap IntKind.u64 (↑(List.length b):Int)) (2 ^ min (Int.toNat (IntKind.wrap .i64 (8*IntKind.wrap .i64 (IntKind.wrap .i64 (IntKind.wrap .i64 (7 - 1) - 1) - 1)))) (IntKind.bits IntKind.u64)))))])) (ag [.int .u8 0] [(0,.int .u8 (IntKind.wrap IntKind.u8 (Int.fdiv (IntKind.wrap IntKind.u64 (↑(List.length b):Int)) (2 ^ min (Int.toNat (IntKind.wrap .i64 (8*IntKind.wrap .i64 (IntKind.wrap .i64 (IntKind.wrap .i64 (IntKind.wrap .i64 (7 - 1) - 1) - 1) - 1)))) (IntKind.bits IntKind.u64)))))])) (ag [.int .u8 0] [(0,.int .u8 (IntKind.wrap IntKind.u8 (Int.fdiv (IntKind.wrap IntKind.u64 (↑(List.length b):Int)) (2 ^ min (Int.toNat (IntKind.wrap .i64 (8*IntKind.wrap .i64 (IntKind.wrap .i64 (IntKind.wrap .i64 (IntKind.wrap .i64 (IntKind.wrap .i64 (7 - 1) - 1) - 1) - 1) - 1)))) (IntKind.bits IntKind.u64)))))])) (ag [.int .u8 0] [(0,.int .u8 (IntKind.wrap IntKind.u8 (Int.fdiv (IntKind.wrap IntKind.u64 (↑(List.length b):Int)) (2 ^ min (Int.toNat (IntKind.wrap .i64 (8*IntKind.wrap .i64 (IntKind.wrap .i64 (IntKind.wrap .i64 (IntKind.wrap .i64 (IntKind.wrap .i64 (IntKind.wrap .i64 (7 - 1) - 1) - 1) - 1) - 1) - 1)))) (IntKind.bits IntKind.u64)))))])) (ag [.int .u8 0] [(0,.int .u8 (IntKind.wrap IntKind.u8 (Int.fdiv (IntKind.wrap IntKind.u64 (↑(List.length b):Int)) (2 ^ min (Int.toNat (IntKind.wrap .i64 (8*IntKind.wrap .i64 (IntKind.wrap .i64 (IntKind.wrap .i64 (IntKind.wrap .i64 (IntKind.wrap .i64 (IntKind.wrap .i64 (IntKind.wrap .i64 (7 - 1) - 1) - 1) - 1) - 1) - 1) - 1)))) (IntKind.bits IntKind.u64)))))])) (rowOf b))] []) λr1 q1=>
  .r (IntKind.wrap .i64 (Int.tmod r1 10000)) trivial))))))))))))) (by kernel_rfl)
noncomputable abbrev Dv:Ent:=eA wd oY φIn dT
end Go.WF

namespace Go.Ab
open Go Go.RowKit
theorem vv {P:Program} {G:Nat->Option (List AV)} {hf:FuncId} {caps:List AV} {os:List AO} {row:Nat->List AV} (hv:wu (af os ae)) (h:∀y:Value,jK P G hf (.raw y::caps) os (.tup []) os) (hk:∀k∈ak caps,live (af os ae) k):o9 P G hf caps (af os ae) 0 row:=by
 intro l vs J hJ hst _ c hj
 obtain ⟨hg,ho,hs,hr⟩:=hJ 0 c hj
 have e0:(#[Value.func (.yield l) #[] #[]]++vs).getD 0 undef=.func (.yield l) #[] #[]:=by simp [Array.getD_eq_getD_getElem?,Array.getElem?_append]
 have e1:∀i,(#[Value.func (.yield l) #[] #[]]++vs).getD (i+1) undef=vs.getD i undef:=λi=>by simp [Array.getD_eq_getD_getElem?,Array.getElem?_append]
 have hsz:(#[Value.func (.yield l) #[] #[]]++vs).size=(AV.raw (.func (.yield l) #[] #[])::caps).length:=by simp [hs];omega
 have hreps:∀ (i:Nat) (u:AV),(AV.raw (.func (.yield l) #[] #[])::caps)[i]?=some u->Rep c u ((#[Value.func (.yield l) #[] #[]]++vs).getD i undef):=λi u hu=>by
  cases i with
  | zero=>
   have hu:some (AV.raw (.func (.yield l) #[] #[]))=some u:=hu
   rw [<-Option.some.inj hu,e0];exact .raw _
  | succ i=>rw [e1];exact hr i u hu
 have hkeys:∀k∈ak (AV.raw (.func (.yield l) #[] #[])::caps),live (af os ae) k:=λk hk'=>hk k (by simpa only [ak,AV.keys,List.nil_append] using hk')
 have h1:=h (.func (.yield l) #[] #[]) c _ hg ho hsz hreps hkeys
 refine callsIn_wide.2 (h1.mono ?_)
 generalize af os ae=ol at *
 rintro e w' ⟨c',x,rfl,rfl,g,f,o,_,_,m⟩
 have hrel:Rel (itB G 0 c ol) c' ⟨[],ol⟩ {tmps:=#[],defers:=[]}:=⟨g,⟨f.os,f.output,f.tape,f.size,f.block,f.ext,f.new⟩,o,(λt v ht=>by cases ht),(λt v ht=>by cases ht),m,rfl,trivial,λk hk=>hk⟩
 exact ⟨⟨x,rfl⟩,{c with w:=c'.w,I:=c'.I},rfl,hst 0 c _ hj (quiet_of ho hv hrel λ_ _ h=>h).1⟩
end Go.Ab
namespace Go.WF
open Go Go.Ab Go.Proofs
def φAq (_:Unit):AV×List AO:=(.sl .no 1 0 λx=>[.str [] ],[.cells [.sl .no 1 0 λx=>[.str [] ] ] ])
def φVs (_:Unit):AV×List AO:=(.fn aq [] [.ref ae 0],[.cells [.sl .no 1 0 λx=>[.str [] ] ] ])
def φVo (_:Unit):AV×List AO:=(.tup [],[])
def φNl (_:Unit):AV×List AO:=(.sl .no 1 0 λx=>[.str [] ],[])
def φOr (_:Unit):AV×List AO:=(.tup [.sl .no 1 0 λx=>[.str [] ],.int .i64 0],[])
theorem Ct.BE {P:Program} {G:Nat->Option (List AV)} {f:FuncId} {l l':List AV} {os:List AO} {r:AV×List AO} (h:Ct P G f l os r) (hl:l'.length=l.length) (hk:∀k∈ak l,k∈ak l')
  (hw:∀ (i:Nat) (u u':AV),l[i]?=some u->l'[i]?=some u'->∀c v,Rep c u' v->Rep c u v):Ct P G f l' os r:=by
 refine ⟨λc0 vs hg ho hs hr hlv=>h.1 c0 vs hg ho (by rw [hs,hl]) (λi u hu=>?_) (λk hk'=>hlv k (hk k hk')),h.2⟩
 have hlt:=(List.getElem?_eq_some_iff.1 hu).1
 have hu':l'[i]?=some (l'[i]'(by omega)):=List.getElem?_eq_getElem _
 exact hw i u _ hu hu' c0 _ (hr i _ hu')
theorem ru {P:Program} {G:Nat->Option (List AV)} {f:FuncId} {g:Nat->List AV} {r:AV} {res:Option Addr->Nat->Value} (hf:∃fn,P.funcs[f]?=some fn/\(fn.name=="runtime.NumGoroutine")=false/\fn.body.isSome=true) (h:∀p cap w,Calls P f #[.slice p 0 cap] w λe w'=>e=.returned (res p cap)/\w'=w) (hr:∀c p cap,Rep c (.sl .no 1 0 g) (.slice p 0 cap)->Rep c r (res p cap)) (hk:r.keys=[]):Ct P G f [.sl .no 1 0 g] [] (r,[]):=by
 refine ⟨λc vs hg ho hs hv _=>?_,hf⟩
 have hx:Rep c (.sl .no 1 0 g) (vs.getD 0 undef):=hv 0 _ rfl
 have hvs:vs=#[vs.getD 0 undef]:=by
  have hs:vs.size=1:=hs
  apply Array.ext (by simpa using hs)
  intro i h1 h2
  have hi:i=0:=by omega
  subst hi
  simp [Array.getD_eq_getD_getElem?,h1]
 obtain ⟨p,cap,e⟩:∃p cap,vs.getD 0 undef=.slice p 0 cap:=by
  generalize vs.getD 0 undef=x at hx
  cases hx with
  | slNil=>exact ⟨none,0,rfl⟩
  | sl _ _ _ _ a cap=>exact ⟨some a,cap,rfl⟩
 rw [e] at hx hvs
 rw [hvs]
 refine (h p cap c.w).mono ?_
 rintro e w' ⟨rfl,rfl⟩
 exact ⟨c,_,rfl,rfl,hg,⟨rfl,rfl,rfl,Nat.le_refl _,λ_ _ _=>rfl,Ext.refl _ _,λ_ _ _ _ h=>h⟩,ho,hr c p cap hx,(λk h=>by rw [hk] at h;cases h),λk o b hk _=>by simp [af,alook] at hk⟩
theorem yf:bQ wd ck φVo dT [.sl .no 1 0 λx=>[.str [] ]] []:=⟨(),trivial,ru (res:=λ_ _=>.tuple #[]) ⟨_,Tryz.func101,by kernel_rfl,by kernel_rfl⟩ (λp cap w=>Tryz.slices_Sort_string_none p cap w) (λc p cap _=>.tup _ _ rfl (by simp)) rfl⟩
theorem yV:bQ wd bo φNl dT [.sl .no 1 0 λx=>[.str [] ]] []:=⟨(),trivial,ru (res:=λp cap=>.slice p 0 cap) ⟨_,Tryz.func102,by kernel_rfl,by kernel_rfl⟩ (λp cap w=>Tryz.slices_Compact_string_empty p cap w) (λc p cap h=>h) rfl⟩
theorem Bq:Tr (.sl .fit 0 0 λx=>[],[]) (φNl ()):=.one bZ
theorem Bp:Tr (.sl .no 1 0 (ao 0 0 (ag [.str []] []) λx=>[.str [] ]),[]) (φNl ()):=.one bZ
theorem Br:bQ wd b9 φNl dT [.sl .no 1 0 λx=>[.str [] ]] []:=by
 have h1:bQ wd b9 φNl (rE ()) [.sl .nl 1 0 λx=>[.str [] ] ] []:=bP (V:=V0) (T:=[]) (d:=1) 0 aA az (.t () rfl Bq) (by kernel_rfl)
 have h2:bQ wd b9 φNl (rE ()) [.sl .nn 1 0 λx=>[.str [] ] ] []:=bP (V:=V0) (T:=[]) (d:=1) 0 aA az (.t () rfl Bp) (by kernel_rfl)
 exact ⟨(),trivial,uw (λ_=>h1.ctE) h2.ctE⟩
def φVc (_:Unit):AV×List AO:=(.tup [],[.cells [.sl .no 1 0 λx=>[.str [] ]] ])
theorem zx (y:Value):bQ wd aq φVc dT [.raw y,.ref ae 0] [.cells [.sl .no 1 0 λx=>[.str [] ]] ]:=
 bP (V:=V0) (T:=[]) (d:=2) 0 aA az (.r () trivial) (by kernel_rfl)
theorem xY (y:Value):Ct wd.P wd.G aq [.raw y,.ref ae 0] [.cells [.sl .no 1 0 λx=>[.str [] ]] ] (.tup [],[.cells [.sl .no 1 0 λx=>[.str [] ]] ]):=by
 obtain ⟨_,_,h⟩:=zx y
 exact h
theorem BG:wu (af [.cells [.sl .no 1 0 λx=>[.str [] ]] ] ae):=λk o hk=>by
 simp only [af,alook] at hk
 cases e:Nat.beq ae k with
 | true=>rw [e] at hk;cases Option.some.inj hk;exact ⟨_,rfl,rfl⟩
 | false=>rw [e] at hk;cases hk
theorem zf:∃ (u:St->Bool) (w:St->Unit),(∀v:Unit,True->(0:Nat)=0->bN u w {env:=[(0,.sl .no 1 0 λx=>[.str [] ]),(1,.fn aq [] [.ref 1000000 0]),(2,.ref 2 0),(4,.sl .fit 0 0 λx=>[]),(6,.fn aq [] [.ref 1000000 0])],objs:=[(1000000,.cells [.sl .no 1 0 λx=>[.str [] ]]),(2,.cells [.sl .no 1 0 λx=>[.str [] ]])]} λ_=>True)/\∀C:List (List Nat×Orc),nP (V0.run [] 1 C [] [] aZ) aZ [1,0,1,0] (mkO u w (λ(t:Unit) k=>k .nor {env:=[(0,.sl .no 1 0 λx=>[.str [] ]),(1,.fn aq [] [.ref 1000000 0]),(2,.ref 2 0),(4,.sl .fit 0 0 λx=>[]),(6,.fn aq [] [.ref 1000000 0])],objs:=[(1000000,.cells [.sl .no 1 0 λx=>[.str [] ]]),(2,.cells [.sl .no 1 0 λx=>[.str [] ]])]})):=
 wh (D:=wd) (V:=V0) (T:=[]) (d:=1) (Cf:=λC=>C) (Lf:=λ_=>[]) (W:=[]) (by kernel_rfl) (N:=0) (row:=λ_=>[.str [] ]) (vv (os:=[.cells [.sl .no 1 0 λx=>[.str [] ]] ]) BG (λy=>(xY y).1) (λk hk=>by
  have hk:k=ae:=by simpa [ak,AV.keys] using hk
  subst hk;exact ⟨_,rfl⟩)) (xY default).2 (λj h=>absurd h (Nat.not_lt_zero _)) BG (hn [2,6] [1000000,2] [] []) (λ_:Unit=>{env:=[(0,.sl .no 1 0 λx=>[.str [] ]),(1,.fn aq [] [.ref 1000000 0]),(2,.ref 2 0),(4,.sl .fit 0 0 λx=>[]),(6,.fn aq [] [.ref 1000000 0])],objs:=[(1000000,.cells [.sl .no 1 0 λx=>[.str [] ]]),(2,.cells [.sl .no 1 0 λx=>[.str [] ]])]}) (λ_=>0) (λ_=>True) (λ_=>0) (λ(t:Unit) k=>k .nor {env:=[(0,.sl .no 1 0 λx=>[.str [] ]),(1,.fn aq [] [.ref 1000000 0]),(2,.ref 2 0),(4,.sl .fit 0 0 λx=>[]),(6,.fn aq [] [.ref 1000000 0])],objs:=[(1000000,.cells [.sl .no 1 0 λx=>[.str [] ]]),(2,.cells [.sl .no 1 0 λx=>[.str [] ]])]}) (λ_=>True) (λv _=>⟨by kernel_rfl,λq hq=>by
   have hq:q=(ae,.cells [.sl .no 1 0 λx=>[.str [] ]] ):=by simpa [af] using hq
   subst hq;rfl⟩) (λv hv=>.fi () trivial) (λv i k kn=>by kernel_rfl)
theorem BF:bQ wd aZ φAq dT [.sl .no 1 0 λx=>[.str [] ],.fn aq [] [.ref ae 0] ] [.cells [.sl .no 1 0 λx=>[.str [] ]] ]:=by
 obtain ⟨u,w,hu,hc⟩:=zf
 exact xF (V:=V0) (T:=[]) (d:=1) 0 (C:=[([1,0,1,0],mkO u w (λ(t:Unit) k=>k .nor {env:=[(0,.sl .no 1 0 λx=>[.str [] ]),(1,.fn aq [] [.ref 1000000 0]),(2,.ref 2 0),(4,.sl .fit 0 0 λx=>[]),(6,.fn aq [] [.ref 1000000 0])],objs:=[(1000000,.cells [.sl .no 1 0 λx=>[.str [] ]]),(2,.cells [.sl .no 1 0 λx=>[.str [] ]])]}))]) (L:=[]) (W:=[]) (λe he=>by rw [List.mem_singleton.1 he];exact hc _) aA az (.lp (hu () trivial rfl) λr1 q1=>
  .r () trivial) (by kernel_rfl)
theorem zg:bQ wd aZ φAq dT [.sl .fit 0 0 λx=>[],.fn aq [] [.ref ae 0] ] [.cells [.sl .no 1 0 λx=>[.str [] ]] ]:=by
 obtain ⟨x,hx,hc⟩:=BF
 refine ⟨x,hx,Ct.BE hc rfl (λk hk=>hk) λi u u' hu hu' c v hr=>?_⟩
 match i,hu,hu' with
 | 0,hu,hu'=>injection hu with hu;injection hu' with hu';subst hu hu';exact bZ.2 c v hr
 | 1,hu,hu'=>injection hu with hu;injection hu' with hu';subst hu hu';exact hr
noncomputable abbrev eAq:Ent:=eA wd aZ φAq dT
theorem Bo:bQ wd fD φAq dT [.fn aq [] [.ref ae 0] ] [.cells [.sl .no 1 0 λx=>[.str [] ]] ]:=
 bP (V:=V0) (T:=[eAq]) (d:=3) 0 aA az (.call (zg) λr1 q1=>
  .r () trivial) (by kernel_rfl)
noncomputable abbrev eCo:Ent:=eA wd fD φAq dT
noncomputable abbrev eSn:Ent:=eA wd ck φVo dT
theorem zY:bQ wd gx φAq dT [.fn aq [] [.ref ae 0] ] [.cells [.sl .no 1 0 λx=>[.str [] ]] ]:=
 bP (V:=V0) (T:=[eCo,eSn]) (d:=2) 0 aA az (.call (Bo) λr1 q1=>
  .call (yf) λr2 q2=>
  .r () trivial) (by kernel_rfl)
noncomputable abbrev eSd:Ent:=eA wd gx φAq dT
theorem zu:bQ wd dK φVs dT [.sl .no 1 0 λx=>[.str [] ]] []:=
 bP (V:=V0) (T:=[]) (d:=2) 1 aA az (.r () trivial) (by kernel_rfl)
noncomputable abbrev eVs:Ent:=eA wd dK φVs dT
noncomputable abbrev eCn:Ent:=eA wd b9 φNl dT
noncomputable abbrev eC0:Ent:=eA wd bo φNl dT
theorem yy:bQ wd iQ φOr dT [.sl .no 1 0 λx=>[.str [] ],.sl .no 1 0 λx=>[.str [] ]] []:=
 bP (V:=V0) (T:=[eVs,eSd,eCn,eC0]) (d:=8) 0 aA az (.call (zu) λr1 q1=>
  .call (zY) λr2 q2=>
  .call (Br) λr3 q3=>
  .call (yV) λr4 q4=>
  .r () trivial) (by kernel_rfl)
theorem z7:bQ wd iQ φOr dT [.sl .no 1 0 λx=>[.str [] ],.sl .no 2 0 λx=>[.str [],.str [] ] ] []:=by
 obtain ⟨x,hx,hc⟩:=yy
 refine ⟨x,hx,hc.args rfl rfl λi u u' hu hu' c v hr=>?_⟩
 match i,hu,hu' with
 | 0,hu,hu'=>injection hu with hu;injection hu' with hu';subst hu hu';exact hr
 | 1,hu,hu'=>injection hu with hu;injection hu' with hu';subst hu hu';exact bZ.2 c v hr
noncomputable abbrev eOr:Ent:=eA wd iQ φOr dT
theorem AF (g:Nat->List AV):bQ wd eX φNl dT [.sl .no 1 0 λx=>[.str [] ],.agg [.sl .no 3 1 g] ] []:=
 bP (V:=V0) (T:=[eOr,eSn]) (d:=8) 0 aA az (.call (z7) λr1 q1=>
  .call (yf) λr2 q2=>
  .r () trivial) (by kernel_rfl)
noncomputable abbrev eMb:Ent:=eA wd eX φNl dT
end Go.WF

namespace Go.WF
open Go Go.Ab Go.Proofs
structure AG where
 exp:TX
 bk:Int
 arm:Int
 held:Bool
instance:Inhabited AG:=⟨⟨[],0,0,false⟩⟩
def φLy (x:AG):AV×List AO:=(.tup [.agg [.str jv,.str x.exp,.int .i64 x.bk,.int .i64 x.arm,.bool x.held],.int .i64 0],[])
def usR (a:TX) (_:Nat):List AV:=[.str [117,115,101,114],.str a,.sl .fit 0 0 λx=>[] ]
def usA (a:TX):AV:=.agg [.sl .no 3 1 (usR a)]
structure EVP.Ok (p:EVP):Prop where
 s1:p.s1.length<=400000
 s3:p.s3.length<=400000
 s5:p.s5.length<=400000
theorem gz (g:Nat->List AV):bQ wd eX φNl dT [.sl .fit 0 0 λx=>[],.agg [.sl .no 3 1 g] ] []:=by
 obtain ⟨x,hx,hc⟩:=AF g
 refine ⟨x,hx,hc.args rfl rfl λi u u' hu hu' c v hr=>?_⟩
 match i,hu,hu' with
 | 0,hu,hu'=>injection hu with hu;injection hu' with hu';subst hu hu';exact bZ.2 c v hr
 | 1,hu,hu'=>injection hu with hu;injection hu' with hu';subst hu hu';exact hr
def arms (p:EVP):List SPN:=[⟨0,p.a1,1⟩,⟨p.a1,p.a2,2⟩,⟨p.a2,10000,3⟩]
def DI (p:EVP):Nat->List AV:=ag [.int .i64 0,.int .i64 0,.int .i64 0] [(0,.agg [.int .i64 0,.int .i64 p.a1,.int .i64 1]),(1,.agg [.int .i64 p.a1,.int .i64 p.a2,.int .i64 2]),(2,.agg [.int .i64 p.a2,.int .i64 10000,.int .i64 3])]
theorem tz (p:EVP) (b:Int):bQ wd fc φIn dT [.sl .fit 3 3 (DI p),.int .i64 b] []:=by
 obtain ⟨x,hx,hc⟩:=z6 (arms p) b (by show (3:Nat)<=_;decide)
 refine ⟨x,hx,hc.args rfl rfl λi u u' hu hu' c v hr=>?_⟩
 match i,hu,hu' with
 | 0,hu,hu'=>
  injection hu with hu;injection hu' with hu'
  subst hu hu'
  exact lf hr λj hj=>by
   match j,hj with
   | 0,_=>rfl
   | 1,_=>rfl
   | 2,_=>rfl
 | 1,hu,hu'=>injection hu with hu;injection hu' with hu';subst hu hu';exact hr
theorem AH (p:EVP) (a:TX) (l:List FD) (hp:p.Ok) (ha:a.length<=400000) (hl:l.length<=1000000):bQ wd kK φLy dT [yR p,usA a,fdA l,.str jv] []:=
 bP (V:=Vb [22,23,24,25] [] []) (T:=[Dv,eMb,Dw,ePk,eRu]) (d:=16) 0 aA az (.call (vg p.s1 a hp.s1 ha) λr1 q1=>
  .call (A2 l jv hl) λr2 q2=>
  .call (zZ p r2.1) λr3 q3=>
  .b (bif r2.2 then bif FD.exp r2.1==[] then true else r3 else false) (λh4=>
   .b (!FD.exp r2.1==[]) (λh5=>
    .r (AG.mk (FD.exp r2.1) r1 (FD.arm r2.1) false) trivial) λh5=>
   .r (AG.mk [] r1 0 false) trivial) λh4=>
  .b (bif false then true else bif true then decide (r1 < EVP.ho p) else false) (λh6=>
   .r (AG.mk [] r1 0 true) trivial) λh6=>
  .b (bif decide (EVP.ho p<=r1) then decide (r1 < EVP.c p) else false) (λh7=>
   .call (gz (usR a)) λr8 q8=>
   .call (vg p.s3 a hp.s3 ha) λr9 q9=>
   .call (tz p r9) λr10 q10=>
   .r (AG.mk [98,108,117,101] r1 r10 false) trivial) λh7=>
  .call (gz (usR a)) λr11 q11=>
  .b (bif decide (EVP.ho p<=r1) then decide (r1 < EVP.c p) else false) (λh12=>
   .call (gz (usR a)) λr13 q13=>
   .b (bif decide (EVP.c p<=r1) then decide (r1 < 10000) else false) (λh14=>
    .call (gz (usR a)) λr15 q15=>
    .call (vg p.s5 a hp.s5 ha) λr16 q16=>
    .call (tz p r16) λr17 q17=>
    .r (AG.mk [103,114,101,101,110] r1 r17 false) trivial) λh14=>
   .call (gz (usR a)) λr18 q18=>
   .b (bif decide (EVP.c p<=r1) then decide (r1 < 10000) else false) (λh19=>
    .call (gz (usR a)) λr20 q20=>
    .r (AG.mk [] r1 0 false) trivial) λh19=>
   .call (gz (usR a)) λr21 q21=>
   .r (AG.mk [] r1 0 false) trivial) λh12=>
  .call (gz (usR a)) λr22 q22=>
  .b (bif decide (EVP.c p<=r1) then decide (r1 < 10000) else false) (λh23=>
   .call (gz (usR a)) λr24 q24=>
   .call (vg p.s5 a hp.s5 ha) λr25 q25=>
   .call (tz p r25) λr26 q26=>
   .r (AG.mk [103,114,101,101,110] r1 r26 false) trivial) λh23=>
  .call (gz (usR a)) λr27 q27=>
  .b (bif decide (EVP.c p<=r1) then decide (r1 < 10000) else false) (λh28=>
   .call (gz (usR a)) λr29 q29=>
   .r (AG.mk [] r1 0 false) trivial) λh28=>
  .call (gz (usR a)) λr30 q30=>
  .r (AG.mk [] r1 0 false) trivial) (by kernel_rfl)
noncomputable abbrev eLy:Ent:=eA wd kK φLy dT
end Go.WF

namespace Go.WF
open Go Go.Ab Go.Proofs
def φUs (a:TX):AV×List AO:=(usA a,[])
theorem Cl {a:TX}:Tr (.agg [.sl .fit 3 1 (ag [.str [],.str [],.sl .fit 0 0 λx=>[] ] [(0,.agg [.str [117,115,101,114],.str a,.sl .fit 0 0 λx=>[] ])])],[]) (φUs a):=
 ⟨.inr ⟨rfl,λc v hr=>gu (.cons (eV λj hj=>by
  match j,hj with
  | 0,_=>rfl) .nil) hr⟩,.inl rfl⟩
def rUs (l:List AV) (_:List AO) (x:TX):Prop:=∀a,l=[.str a]->x=a
theorem Cm (a:TX):rUs [.str a] [] a:=λb e=>by injection e with e _;injection e
theorem zI (a:TX):bQ wd fm φUs rUs [.str a] []:=
 bP (V:=V0) (T:=[]) (d:=2) 0 aA az (.t a (Cm a) Cl) (by kernel_rfl)
def enP (sa ho cu on tw:Int):EVP where
 s1:=([115]++bytesOf 1 (ag [.int .u8 0] [(0,.int .u8 (IntKind.wrap IntKind.u8 (97+Int.tmod sa 26)))])++[104,111,109,101])
 s2:=([115]++bytesOf 1 (ag [.int .u8 0] [(0,.int .u8 (IntKind.wrap IntKind.u8 (97+Int.tmod sa 26)))])++[115,104,111,112])
 s3:=([115]++bytesOf 1 (ag [.int .u8 0] [(0,.int .u8 (IntKind.wrap IntKind.u8 (97+Int.tmod sa 26)))])++bytesOf 1 (ag [.int .u8 0] [(0,.int .u8 (IntKind.wrap IntKind.u8 (48+IntKind.wrap IntKind.u8 0)))]))
 s4:=([115]++bytesOf 1 (ag [.int .u8 0] [(0,.int .u8 (IntKind.wrap IntKind.u8 (97+Int.tmod sa 26)))])++bytesOf 1 (ag [.int .u8 0] [(0,.int .u8 (IntKind.wrap IntKind.u8 (48+IntKind.wrap IntKind.u8 (IntKind.wrap .i64 (0+1)))))]))
 s5:=([115]++bytesOf 1 (ag [.int .u8 0] [(0,.int .u8 (IntKind.wrap IntKind.u8 (97+Int.tmod sa 26)))])++bytesOf 1 (ag [.int .u8 0] [(0,.int .u8 (IntKind.wrap IntKind.u8 (48+IntKind.wrap IntKind.u8 (IntKind.wrap .i64 (IntKind.wrap .i64 (0+1)+1)))))]))
 s6:=([115]++bytesOf 1 (ag [.int .u8 0] [(0,.int .u8 (IntKind.wrap IntKind.u8 (97+Int.tmod sa 26)))])++bytesOf 1 (ag [.int .u8 0] [(0,.int .u8 (IntKind.wrap IntKind.u8 (48+IntKind.wrap IntKind.u8 (IntKind.wrap .i64 (IntKind.wrap .i64 (IntKind.wrap .i64 (0+1)+1)+1)))))]))
 g1:=[102,97,115,116,45,102,108,97,103]
 g2:=[115,104,111,112,45,102,108,97,103]
 g3:=[115,108,111,119,45,102,108,97,103]
 g4:=[116,111,112,45,102,108,97,103]
 ho:=(IntKind.wrap .i64 (Int.tmod (IntKind.wrap .i64 ho) 50*20))
 c:=(IntKind.wrap .i64 (IntKind.wrap .i64 (IntKind.wrap .i64 (Int.tmod (IntKind.wrap .i64 ho) 50*20)+1)+Int.tmod (IntKind.wrap .i64 cu) (IntKind.wrap .i64 (IntKind.wrap .i64 (10000 - IntKind.wrap .i64 (Int.tmod (IntKind.wrap .i64 ho) 50*20)) - 1))))
 a1:=(IntKind.wrap .i64 (1+Int.tmod (IntKind.wrap .i64 on) 9998))
 a2:=(IntKind.wrap .i64 (IntKind.wrap .i64 (IntKind.wrap .i64 (1+Int.tmod (IntKind.wrap .i64 on) 9998)+1)+Int.tmod (IntKind.wrap .i64 tw) (IntKind.wrap .i64 (9999 - IntKind.wrap .i64 (1+Int.tmod (IntKind.wrap .i64 on) 9998)))))
 fl:=(ao (0+1+1+1) 1 (ao (0+1+1) 1 (ao (0+1) 1 (ao 0 1 (λx=>[.str [],.int .i64 0,.sl .fit 0 0 λx=>[],.bool false,.int .i64 0,.sl .fit 0 0 λx=>[],.sl .fit 0 0 λx=>[],.sl .fit 0 0 λx=>[],.int .i64 0,.str [],.str [],.str [],.sl .fit 0 0 λx=>[] ]) (ag [.str [],.int .i64 0,.sl .fit 0 0 λx=>[],.bool false,.int .i64 0,.sl .fit 0 0 λx=>[],.sl .fit 0 0 λx=>[],.sl .fit 0 0 λx=>[],.int .i64 0,.str [],.str [],.str [],.sl .fit 0 0 λx=>[] ] [(0,.agg [.str [102,97,115,116,45,102,108,97,103],.int .i64 2,.sl .no 4 3 (ao (0+1+1) 1 (ao (0+1) 1 (ao 0 1 (λx=>[.int .i64 0,.int .i64 0,.str [],.sl .fit 0 0 λx=>[] ]) (ag [.int .i64 0,.int .i64 0,.str [],.sl .fit 0 0 λx=>[] ] [(0,.agg [.int .i64 2,.int .i64 (IntKind.wrap .i64 (1*10)),.str [],.sl .fit 0 0 λx=>[] ])])) (ag [.int .i64 0,.int .i64 0,.str [],.sl .fit 0 0 λx=>[] ] [(0,.agg [.int .i64 2,.int .i64 (IntKind.wrap .i64 (IntKind.wrap .i64 (1+1)*10)),.str [],.sl .fit 0 0 λx=>[] ])])) (ag [.int .i64 0,.int .i64 0,.str [],.sl .fit 0 0 λx=>[] ] [(0,.agg [.int .i64 2,.int .i64 (IntKind.wrap .i64 (IntKind.wrap .i64 (IntKind.wrap .i64 (1+1)+1)*10)),.str [],.sl .fit 0 0 λx=>[] ])])),.bool true,.int .i64 3,.sl .fit 0 0 λx=>[],.sl .fit 0 0 λx=>[],.sl .fit 0 0 λx=>[],.int .i64 3,.str [],.str [],.str [],.sl .fit 0 0 λx=>[] ])])) (ag [.str [],.int .i64 0,.sl .fit 0 0 λx=>[],.bool false,.int .i64 0,.sl .fit 0 0 λx=>[],.sl .fit 0 0 λx=>[],.sl .fit 0 0 λx=>[],.int .i64 0,.str [],.str [],.str [],.sl .fit 0 0 λx=>[] ] [(0,.agg [.str [115,104,111,112,45,102,108,97,103],.int .i64 2,.sl .no 4 3 (ao (0+1+1) 1 (ao (0+1) 1 (ao 0 1 (λx=>[.int .i64 0,.int .i64 0,.str [],.sl .fit 0 0 λx=>[] ]) (ag [.int .i64 0,.int .i64 0,.str [],.sl .fit 0 0 λx=>[] ] [(0,.agg [.int .i64 2,.int .i64 (IntKind.wrap .i64 (1*10)),.str [],.sl .fit 0 0 λx=>[] ])])) (ag [.int .i64 0,.int .i64 0,.str [],.sl .fit 0 0 λx=>[] ] [(0,.agg [.int .i64 2,.int .i64 (IntKind.wrap .i64 (IntKind.wrap .i64 (1+1)*10)),.str [],.sl .fit 0 0 λx=>[] ])])) (ag [.int .i64 0,.int .i64 0,.str [],.sl .fit 0 0 λx=>[] ] [(0,.agg [.int .i64 2,.int .i64 (IntKind.wrap .i64 (IntKind.wrap .i64 (IntKind.wrap .i64 (1+1)+1)*10)),.str [],.sl .fit 0 0 λx=>[] ])])),.bool true,.int .i64 3,.sl .fit 0 0 λx=>[],.sl .fit 0 0 λx=>[],.sl .fit 0 0 λx=>[],.int .i64 3,.str [],.str [],.str [],.sl .fit 0 0 λx=>[] ])])) (ag [.str [],.int .i64 0,.sl .fit 0 0 λx=>[],.bool false,.int .i64 0,.sl .fit 0 0 λx=>[],.sl .fit 0 0 λx=>[],.sl .fit 0 0 λx=>[],.int .i64 0,.str [],.str [],.str [],.sl .fit 0 0 λx=>[] ] [(0,.agg [.str [115,108,111,119,45,102,108,97,103],.int .i64 2,.sl .no 4 3 (ao (0+1+1) 1 (ao (0+1) 1 (ao 0 1 (λx=>[.int .i64 0,.int .i64 0,.str [],.sl .fit 0 0 λx=>[] ]) (ag [.int .i64 0,.int .i64 0,.str [],.sl .fit 0 0 λx=>[] ] [(0,.agg [.int .i64 2,.int .i64 (IntKind.wrap .i64 (1*10)),.str [],.sl .fit 0 0 λx=>[] ])])) (ag [.int .i64 0,.int .i64 0,.str [],.sl .fit 0 0 λx=>[] ] [(0,.agg [.int .i64 2,.int .i64 (IntKind.wrap .i64 (IntKind.wrap .i64 (1+1)*10)),.str [],.sl .fit 0 0 λx=>[] ])])) (ag [.int .i64 0,.int .i64 0,.str [],.sl .fit 0 0 λx=>[] ] [(0,.agg [.int .i64 2,.int .i64 (IntKind.wrap .i64 (IntKind.wrap .i64 (IntKind.wrap .i64 (1+1)+1)*10)),.str [],.sl .fit 0 0 λx=>[] ])])),.bool true,.int .i64 3,.sl .fit 0 0 λx=>[],.sl .fit 0 0 λx=>[],.sl .fit 0 0 λx=>[],.int .i64 3,.str [],.str [],.str [],.sl .fit 0 0 λx=>[] ])])) (ag [.str [],.int .i64 0,.sl .fit 0 0 λx=>[],.bool false,.int .i64 0,.sl .fit 0 0 λx=>[],.sl .fit 0 0 λx=>[],.sl .fit 0 0 λx=>[],.int .i64 0,.str [],.str [],.str [],.sl .fit 0 0 λx=>[] ] [(0,.agg [.str [116,111,112,45,102,108,97,103],.int .i64 2,.sl .no 4 3 (ao (0+1+1) 1 (ao (0+1) 1 (ao 0 1 (λx=>[.int .i64 0,.int .i64 0,.str [],.sl .fit 0 0 λx=>[] ]) (ag [.int .i64 0,.int .i64 0,.str [],.sl .fit 0 0 λx=>[] ] [(0,.agg [.int .i64 2,.int .i64 (IntKind.wrap .i64 (1*10)),.str [],.sl .fit 0 0 λx=>[] ])])) (ag [.int .i64 0,.int .i64 0,.str [],.sl .fit 0 0 λx=>[] ] [(0,.agg [.int .i64 2,.int .i64 (IntKind.wrap .i64 (IntKind.wrap .i64 (1+1)*10)),.str [],.sl .fit 0 0 λx=>[] ])])) (ag [.int .i64 0,.int .i64 0,.str [],.sl .fit 0 0 λx=>[] ] [(0,.agg [.int .i64 2,.int .i64 (IntKind.wrap .i64 (IntKind.wrap .i64 (IntKind.wrap .i64 (1+1)+1)*10)),.str [],.sl .fit 0 0 λx=>[] ])])),.bool true,.int .i64 3,.sl .fit 0 0 λx=>[],.sl .fit 0 0 λx=>[],.sl .fit 0 0 λx=>[],.int .i64 3,.str [],.str [],.str [],.sl .fit 0 0 λx=>[] ])]))
theorem yS (sa ho cu on tw:Int):(enP sa ho cu on tw).Ok:=⟨Nat.le_of_ble_eq_true (by kernel_rfl),Nat.le_of_ble_eq_true (by kernel_rfl),Nat.le_of_ble_eq_true (by kernel_rfl)⟩
instance:Inhabited EVP:=⟨enP 0 0 0 0 0⟩
def φEn (p:EVP):AV×List AO:=(yR p,[])
def rEn (_:List AV) (_:List AO) (p:EVP):Prop:=p.Ok
theorem Dr {on:Int} (h0:0<=on) (h1:on < 65536):(IntKind.wrap .i64 (9999 - IntKind.wrap .i64 (1+Int.tmod (IntKind.wrap .i64 on) 9998)) !=0)=true:=by
 have e:Int.tmod on 9998=on % 9998:=Int.tmod_eq_emod_of_nonneg h0
 rw [wrap_i64 (x:=on) (by omega) (by omega),e,wrap_i64 (x:=1+on % 9998) (by omega) (by omega),wrap_i64 (by omega) (by omega)]
 exact bne_iff_ne.2 (by omega)
theorem Dq {ho:Int} (h0:0<=ho) (h1:ho < 256):(IntKind.wrap .i64 (IntKind.wrap .i64 (10000 - IntKind.wrap .i64 (Int.tmod (IntKind.wrap .i64 ho) 50*20)) - 1) !=0)=true:=by
 have e:Int.tmod ho 50=ho % 50:=Int.tmod_eq_emod_of_nonneg h0
 rw [wrap_i64 (x:=ho) (by omega) (by omega),e,wrap_i64 (x:=ho % 50*20) (by omega) (by omega),wrap_i64 (x:=10000 - ho % 50*20) (by omega) (by omega),wrap_i64 (by omega) (by omega)]
 exact bne_iff_ne.2 (by omega)
theorem Dp (sa ho cu on tw:Int):Tr ((.agg [.str [],.str [],.int .i64 0,.sl .fit 0 0 λx=>[],.sl .fit 0 0 λx=>[],.sl .no 13 4 (ao (0+1+1+1) 1 (ao (0+1+1) 1 (ao (0+1) 1 (ao 0 1 (λx=>[.str [],.int .i64 0,.sl .fit 0 0 λx=>[],.bool false,.int .i64 0,.sl .fit 0 0 λx=>[],.sl .fit 0 0 λx=>[],.sl .fit 0 0 λx=>[],.int .i64 0,.str [],.str [],.str [],.sl .fit 0 0 λx=>[] ]) (ag [.str [],.int .i64 0,.sl .fit 0 0 λx=>[],.bool false,.int .i64 0,.sl .fit 0 0 λx=>[],.sl .fit 0 0 λx=>[],.sl .fit 0 0 λx=>[],.int .i64 0,.str [],.str [],.str [],.sl .fit 0 0 λx=>[] ] [(0,.agg [.str [102,97,115,116,45,102,108,97,103],.int .i64 2,.sl .no 4 3 (ao (0+1+1) 1 (ao (0+1) 1 (ao 0 1 (λx=>[.int .i64 0,.int .i64 0,.str [],.sl .fit 0 0 λx=>[] ]) (ag [.int .i64 0,.int .i64 0,.str [],.sl .fit 0 0 λx=>[] ] [(0,.agg [.int .i64 2,.int .i64 (IntKind.wrap .i64 (1*10)),.str [],.sl .fit 0 0 λx=>[] ])])) (ag [.int .i64 0,.int .i64 0,.str [],.sl .fit 0 0 λx=>[] ] [(0,.agg [.int .i64 2,.int .i64 (IntKind.wrap .i64 (IntKind.wrap .i64 (1+1)*10)),.str [],.sl .fit 0 0 λx=>[] ])])) (ag [.int .i64 0,.int .i64 0,.str [],.sl .fit 0 0 λx=>[] ] [(0,.agg [.int .i64 2,.int .i64 (IntKind.wrap .i64 (IntKind.wrap .i64 (IntKind.wrap .i64 (1+1)+1)*10)),.str [],.sl .fit 0 0 λx=>[] ])])),.bool true,.int .i64 3,.sl .fit 0 0 λx=>[],.sl .fit 0 0 λx=>[],.sl .fit 0 0 λx=>[],.int .i64 3,.str [],.str [],.str [],.sl .fit 0 0 λx=>[] ])])) (ag [.str [],.int .i64 0,.sl .fit 0 0 λx=>[],.bool false,.int .i64 0,.sl .fit 0 0 λx=>[],.sl .fit 0 0 λx=>[],.sl .fit 0 0 λx=>[],.int .i64 0,.str [],.str [],.str [],.sl .fit 0 0 λx=>[] ] [(0,.agg [.str [115,104,111,112,45,102,108,97,103],.int .i64 2,.sl .no 4 3 (ao (0+1+1) 1 (ao (0+1) 1 (ao 0 1 (λx=>[.int .i64 0,.int .i64 0,.str [],.sl .fit 0 0 λx=>[] ]) (ag [.int .i64 0,.int .i64 0,.str [],.sl .fit 0 0 λx=>[] ] [(0,.agg [.int .i64 2,.int .i64 (IntKind.wrap .i64 (1*10)),.str [],.sl .fit 0 0 λx=>[] ])])) (ag [.int .i64 0,.int .i64 0,.str [],.sl .fit 0 0 λx=>[] ] [(0,.agg [.int .i64 2,.int .i64 (IntKind.wrap .i64 (IntKind.wrap .i64 (1+1)*10)),.str [],.sl .fit 0 0 λx=>[] ])])) (ag [.int .i64 0,.int .i64 0,.str [],.sl .fit 0 0 λx=>[] ] [(0,.agg [.int .i64 2,.int .i64 (IntKind.wrap .i64 (IntKind.wrap .i64 (IntKind.wrap .i64 (1+1)+1)*10)),.str [],.sl .fit 0 0 λx=>[] ])])),.bool true,.int .i64 3,.sl .fit 0 0 λx=>[],.sl .fit 0 0 λx=>[],.sl .fit 0 0 λx=>[],.int .i64 3,.str [],.str [],.str [],.sl .fit 0 0 λx=>[] ])])) (ag [.str [],.int .i64 0,.sl .fit 0 0 λx=>[],.bool false,.int .i64 0,.sl .fit 0 0 λx=>[],.sl .fit 0 0 λx=>[],.sl .fit 0 0 λx=>[],.int .i64 0,.str [],.str [],.str [],.sl .fit 0 0 λx=>[] ] [(0,.agg [.str [115,108,111,119,45,102,108,97,103],.int .i64 2,.sl .no 4 3 (ao (0+1+1) 1 (ao (0+1) 1 (ao 0 1 (λx=>[.int .i64 0,.int .i64 0,.str [],.sl .fit 0 0 λx=>[] ]) (ag [.int .i64 0,.int .i64 0,.str [],.sl .fit 0 0 λx=>[] ] [(0,.agg [.int .i64 2,.int .i64 (IntKind.wrap .i64 (1*10)),.str [],.sl .fit 0 0 λx=>[] ])])) (ag [.int .i64 0,.int .i64 0,.str [],.sl .fit 0 0 λx=>[] ] [(0,.agg [.int .i64 2,.int .i64 (IntKind.wrap .i64 (IntKind.wrap .i64 (1+1)*10)),.str [],.sl .fit 0 0 λx=>[] ])])) (ag [.int .i64 0,.int .i64 0,.str [],.sl .fit 0 0 λx=>[] ] [(0,.agg [.int .i64 2,.int .i64 (IntKind.wrap .i64 (IntKind.wrap .i64 (IntKind.wrap .i64 (1+1)+1)*10)),.str [],.sl .fit 0 0 λx=>[] ])])),.bool true,.int .i64 3,.sl .fit 0 0 λx=>[],.sl .fit 0 0 λx=>[],.sl .fit 0 0 λx=>[],.int .i64 3,.str [],.str [],.str [],.sl .fit 0 0 λx=>[] ])])) (ag [.str [],.int .i64 0,.sl .fit 0 0 λx=>[],.bool false,.int .i64 0,.sl .fit 0 0 λx=>[],.sl .fit 0 0 λx=>[],.sl .fit 0 0 λx=>[],.int .i64 0,.str [],.str [],.str [],.sl .fit 0 0 λx=>[] ] [(0,.agg [.str [116,111,112,45,102,108,97,103],.int .i64 2,.sl .no 4 3 (ao (0+1+1) 1 (ao (0+1) 1 (ao 0 1 (λx=>[.int .i64 0,.int .i64 0,.str [],.sl .fit 0 0 λx=>[] ]) (ag [.int .i64 0,.int .i64 0,.str [],.sl .fit 0 0 λx=>[] ] [(0,.agg [.int .i64 2,.int .i64 (IntKind.wrap .i64 (1*10)),.str [],.sl .fit 0 0 λx=>[] ])])) (ag [.int .i64 0,.int .i64 0,.str [],.sl .fit 0 0 λx=>[] ] [(0,.agg [.int .i64 2,.int .i64 (IntKind.wrap .i64 (IntKind.wrap .i64 (1+1)*10)),.str [],.sl .fit 0 0 λx=>[] ])])) (ag [.int .i64 0,.int .i64 0,.str [],.sl .fit 0 0 λx=>[] ] [(0,.agg [.int .i64 2,.int .i64 (IntKind.wrap .i64 (IntKind.wrap .i64 (IntKind.wrap .i64 (1+1)+1)*10)),.str [],.sl .fit 0 0 λx=>[] ])])),.bool true,.int .i64 3,.sl .fit 0 0 λx=>[],.sl .fit 0 0 λx=>[],.sl .fit 0 0 λx=>[],.int .i64 3,.str [],.str [],.str [],.sl .fit 0 0 λx=>[] ])])),.sl .no 6 2 (ao (0+1) 1 (ao 0 1 (λx=>[.str [],.str [],.str [],.int .i64 0,.int .i64 0,.sl .fit 0 0 λx=>[] ]) (ag [.str [],.str [],.str [],.int .i64 0,.int .i64 0,.sl .fit 0 0 λx=>[] ] [(0,.agg [.str [104,111,109,101],.str [117,115,101,114],.str ([115]++bytesOf 1 (ag [.int .u8 0] [(0,.int .u8 (IntKind.wrap IntKind.u8 (97+Int.tmod sa 26)))])++[104,111,109,101]),.int .i64 (IntKind.wrap .i64 (Int.tmod (IntKind.wrap .i64 ho) 50*20)),.int .i64 0,.sl .fit 0 0 λx=>[] ])])) (ag [.str [],.str [],.str [],.int .i64 0,.int .i64 0,.sl .fit 0 0 λx=>[] ] [(0,.agg [.str [115,104,111,112],.str [117,115,101,114],.str ([115]++bytesOf 1 (ag [.int .u8 0] [(0,.int .u8 (IntKind.wrap IntKind.u8 (97+Int.tmod sa 26)))])++[115,104,111,112]),.int .i64 (IntKind.wrap .i64 (Int.tmod (IntKind.wrap .i64 ho) 50*20)),.int .i64 0,.sl .fit 0 0 λx=>[] ])])),.sl .no 12 4 (ao (0+1+1+1) 1 (ao (0+1+1) 1 (ao (0+1) 1 (ao 0 1 (λx=>[.str [],.str [],.str [],.str [],.int .i64 0,.sl .fit 0 0 λx=>[],.sl .fit 0 0 λx=>[],.int .i64 0,.str [],.str [],.sl .fit 0 0 λx=>[],.sl .fit 0 0 λx=>[] ]) (ag [.str [],.str [],.str [],.str [],.int .i64 0,.sl .fit 0 0 λx=>[],.sl .fit 0 0 λx=>[],.int .i64 0,.str [],.str [],.sl .fit 0 0 λx=>[],.sl .fit 0 0 λx=>[] ] [(0,.agg [.str [98,108,117,101],.str [104,111,109,101],.str [102,97,115,116,45,102,108,97,103],.str ([115]++bytesOf 1 (ag [.int .u8 0] [(0,.int .u8 (IntKind.wrap IntKind.u8 (97+Int.tmod sa 26)))])++bytesOf 1 (ag [.int .u8 0] [(0,.int .u8 (IntKind.wrap IntKind.u8 (48+IntKind.wrap IntKind.u8 0)))])),.int .i64 2,.sl .fit 2 1 (ag [.int .i64 0,.int .i64 0] [(0,.agg [.int .i64 (IntKind.wrap .i64 (Int.tmod (IntKind.wrap .i64 ho) 50*20)),.int .i64 (IntKind.wrap .i64 (IntKind.wrap .i64 (IntKind.wrap .i64 (Int.tmod (IntKind.wrap .i64 ho) 50*20)+1)+Int.tmod (IntKind.wrap .i64 cu) (IntKind.wrap .i64 (IntKind.wrap .i64 (10000 - IntKind.wrap .i64 (Int.tmod (IntKind.wrap .i64 ho) 50*20)) - 1))))])]),.sl .fit 3 3 (ag [.int .i64 0,.int .i64 0,.int .i64 0] [(0,.agg [.int .i64 0,.int .i64 (IntKind.wrap .i64 (1+Int.tmod (IntKind.wrap .i64 on) 9998)),.int .i64 1]),(1,.agg [.int .i64 (IntKind.wrap .i64 (1+Int.tmod (IntKind.wrap .i64 on) 9998)),.int .i64 (IntKind.wrap .i64 (IntKind.wrap .i64 (IntKind.wrap .i64 (1+Int.tmod (IntKind.wrap .i64 on) 9998)+1)+Int.tmod (IntKind.wrap .i64 tw) (IntKind.wrap .i64 (9999 - IntKind.wrap .i64 (1+Int.tmod (IntKind.wrap .i64 on) 9998))))),.int .i64 2]),(2,.agg [.int .i64 (IntKind.wrap .i64 (IntKind.wrap .i64 (IntKind.wrap .i64 (1+Int.tmod (IntKind.wrap .i64 on) 9998)+1)+Int.tmod (IntKind.wrap .i64 tw) (IntKind.wrap .i64 (9999 - IntKind.wrap .i64 (1+Int.tmod (IntKind.wrap .i64 on) 9998))))),.int .i64 10000,.int .i64 3])]),.int .i64 1,.str [],.str [],.sl .fit 0 0 λx=>[],.sl .fit 0 0 λx=>[] ])])) (ag [.str [],.str [],.str [],.str [],.int .i64 0,.sl .fit 0 0 λx=>[],.sl .fit 0 0 λx=>[],.int .i64 0,.str [],.str [],.sl .fit 0 0 λx=>[],.sl .fit 0 0 λx=>[] ] [(0,.agg [.str [102,97,115,116],.str [115,104,111,112],.str [115,104,111,112,45,102,108,97,103],.str ([115]++bytesOf 1 (ag [.int .u8 0] [(0,.int .u8 (IntKind.wrap IntKind.u8 (97+Int.tmod sa 26)))])++bytesOf 1 (ag [.int .u8 0] [(0,.int .u8 (IntKind.wrap IntKind.u8 (48+IntKind.wrap IntKind.u8 (IntKind.wrap .i64 (0+1)))))])),.int .i64 2,.sl .fit 2 1 (ag [.int .i64 0,.int .i64 0] [(0,.agg [.int .i64 (IntKind.wrap .i64 (Int.tmod (IntKind.wrap .i64 ho) 50*20)),.int .i64 (IntKind.wrap .i64 (IntKind.wrap .i64 (IntKind.wrap .i64 (Int.tmod (IntKind.wrap .i64 ho) 50*20)+1)+Int.tmod (IntKind.wrap .i64 cu) (IntKind.wrap .i64 (IntKind.wrap .i64 (10000 - IntKind.wrap .i64 (Int.tmod (IntKind.wrap .i64 ho) 50*20)) - 1))))])]),.sl .fit 3 3 (ag [.int .i64 0,.int .i64 0,.int .i64 0] [(0,.agg [.int .i64 0,.int .i64 (IntKind.wrap .i64 (1+Int.tmod (IntKind.wrap .i64 on) 9998)),.int .i64 1]),(1,.agg [.int .i64 (IntKind.wrap .i64 (1+Int.tmod (IntKind.wrap .i64 on) 9998)),.int .i64 (IntKind.wrap .i64 (IntKind.wrap .i64 (IntKind.wrap .i64 (1+Int.tmod (IntKind.wrap .i64 on) 9998)+1)+Int.tmod (IntKind.wrap .i64 tw) (IntKind.wrap .i64 (9999 - IntKind.wrap .i64 (1+Int.tmod (IntKind.wrap .i64 on) 9998))))),.int .i64 2]),(2,.agg [.int .i64 (IntKind.wrap .i64 (IntKind.wrap .i64 (IntKind.wrap .i64 (1+Int.tmod (IntKind.wrap .i64 on) 9998)+1)+Int.tmod (IntKind.wrap .i64 tw) (IntKind.wrap .i64 (9999 - IntKind.wrap .i64 (1+Int.tmod (IntKind.wrap .i64 on) 9998))))),.int .i64 10000,.int .i64 3])]),.int .i64 1,.str [],.str [],.sl .fit 0 0 λx=>[],.sl .fit 0 0 λx=>[] ])])) (ag [.str [],.str [],.str [],.str [],.int .i64 0,.sl .fit 0 0 λx=>[],.sl .fit 0 0 λx=>[],.int .i64 0,.str [],.str [],.sl .fit 0 0 λx=>[],.sl .fit 0 0 λx=>[] ] [(0,.agg [.str [103,114,101,101,110],.str [104,111,109,101],.str [115,108,111,119,45,102,108,97,103],.str ([115]++bytesOf 1 (ag [.int .u8 0] [(0,.int .u8 (IntKind.wrap IntKind.u8 (97+Int.tmod sa 26)))])++bytesOf 1 (ag [.int .u8 0] [(0,.int .u8 (IntKind.wrap IntKind.u8 (48+IntKind.wrap IntKind.u8 (IntKind.wrap .i64 (IntKind.wrap .i64 (0+1)+1)))))])),.int .i64 2,.sl .fit 2 1 (ag [.int .i64 0,.int .i64 0] [(0,.agg [.int .i64 (IntKind.wrap .i64 (IntKind.wrap .i64 (IntKind.wrap .i64 (Int.tmod (IntKind.wrap .i64 ho) 50*20)+1)+Int.tmod (IntKind.wrap .i64 cu) (IntKind.wrap .i64 (IntKind.wrap .i64 (10000 - IntKind.wrap .i64 (Int.tmod (IntKind.wrap .i64 ho) 50*20)) - 1)))),.int .i64 10000])]),.sl .fit 3 3 (ag [.int .i64 0,.int .i64 0,.int .i64 0] [(0,.agg [.int .i64 0,.int .i64 (IntKind.wrap .i64 (1+Int.tmod (IntKind.wrap .i64 on) 9998)),.int .i64 1]),(1,.agg [.int .i64 (IntKind.wrap .i64 (1+Int.tmod (IntKind.wrap .i64 on) 9998)),.int .i64 (IntKind.wrap .i64 (IntKind.wrap .i64 (IntKind.wrap .i64 (1+Int.tmod (IntKind.wrap .i64 on) 9998)+1)+Int.tmod (IntKind.wrap .i64 tw) (IntKind.wrap .i64 (9999 - IntKind.wrap .i64 (1+Int.tmod (IntKind.wrap .i64 on) 9998))))),.int .i64 2]),(2,.agg [.int .i64 (IntKind.wrap .i64 (IntKind.wrap .i64 (IntKind.wrap .i64 (1+Int.tmod (IntKind.wrap .i64 on) 9998)+1)+Int.tmod (IntKind.wrap .i64 tw) (IntKind.wrap .i64 (9999 - IntKind.wrap .i64 (1+Int.tmod (IntKind.wrap .i64 on) 9998))))),.int .i64 10000,.int .i64 3])]),.int .i64 1,.str [],.str [],.sl .fit 0 0 λx=>[],.sl .fit 0 0 λx=>[] ])])) (ag [.str [],.str [],.str [],.str [],.int .i64 0,.sl .fit 0 0 λx=>[],.sl .fit 0 0 λx=>[],.int .i64 0,.str [],.str [],.sl .fit 0 0 λx=>[],.sl .fit 0 0 λx=>[] ] [(0,.agg [.str [115,108,111,119],.str [115,104,111,112],.str [116,111,112,45,102,108,97,103],.str ([115]++bytesOf 1 (ag [.int .u8 0] [(0,.int .u8 (IntKind.wrap IntKind.u8 (97+Int.tmod sa 26)))])++bytesOf 1 (ag [.int .u8 0] [(0,.int .u8 (IntKind.wrap IntKind.u8 (48+IntKind.wrap IntKind.u8 (IntKind.wrap .i64 (IntKind.wrap .i64 (IntKind.wrap .i64 (0+1)+1)+1)))))])),.int .i64 2,.sl .fit 2 1 (ag [.int .i64 0,.int .i64 0] [(0,.agg [.int .i64 (IntKind.wrap .i64 (IntKind.wrap .i64 (IntKind.wrap .i64 (Int.tmod (IntKind.wrap .i64 ho) 50*20)+1)+Int.tmod (IntKind.wrap .i64 cu) (IntKind.wrap .i64 (IntKind.wrap .i64 (10000 - IntKind.wrap .i64 (Int.tmod (IntKind.wrap .i64 ho) 50*20)) - 1)))),.int .i64 10000])]),.sl .fit 3 3 (ag [.int .i64 0,.int .i64 0,.int .i64 0] [(0,.agg [.int .i64 0,.int .i64 (IntKind.wrap .i64 (1+Int.tmod (IntKind.wrap .i64 on) 9998)),.int .i64 1]),(1,.agg [.int .i64 (IntKind.wrap .i64 (1+Int.tmod (IntKind.wrap .i64 on) 9998)),.int .i64 (IntKind.wrap .i64 (IntKind.wrap .i64 (IntKind.wrap .i64 (1+Int.tmod (IntKind.wrap .i64 on) 9998)+1)+Int.tmod (IntKind.wrap .i64 tw) (IntKind.wrap .i64 (9999 - IntKind.wrap .i64 (1+Int.tmod (IntKind.wrap .i64 on) 9998))))),.int .i64 2]),(2,.agg [.int .i64 (IntKind.wrap .i64 (IntKind.wrap .i64 (IntKind.wrap .i64 (1+Int.tmod (IntKind.wrap .i64 on) 9998)+1)+Int.tmod (IntKind.wrap .i64 tw) (IntKind.wrap .i64 (9999 - IntKind.wrap .i64 (1+Int.tmod (IntKind.wrap .i64 on) 9998))))),.int .i64 10000,.int .i64 3])]),.int .i64 1,.str [],.str [],.sl .fit 0 0 λx=>[],.sl .fit 0 0 λx=>[] ])]))],[])) (φEn (enP sa ho cu on tw)):=
 ⟨.inr ⟨rfl,λc v hr=>gu (.cons (.same rfl) (.cons (.same rfl) (.cons (.same rfl) (.cons (.same rfl) (.cons (.same rfl) (.cons (.same rfl) (.cons (eV λj hj=>by
  match j,hj with
  | 0,_=>rfl
  | 1,_=>rfl) (.cons (eV λj hj=>by
  match j,hj with
  | 0,_=>rfl
  | 1,_=>rfl
  | 2,_=>rfl
  | 3,_=>rfl) .nil)))))))) hr⟩,.inl rfl⟩
theorem Bh (sa ho cu on tw:Int) (h1:0<=ho) (h2:ho < 256) (h3:0<=on) (h4:on < 65536):bQ wd dm φEn rEn [.int .u8 sa,.int .u8 ho,.int .u16 cu,.int .u16 on,.int .u16 tw] []:=
 bP (V:=V0) (T:=[]) (d:=16) 0 aA az (.n (c:=IntKind.wrap .i64 (9999 - IntKind.wrap .i64 (1+Int.tmod (IntKind.wrap .i64 on) 9998)) !=0) (Dr h3 h4) (
  .n (c:=IntKind.wrap .i64 (IntKind.wrap .i64 (10000 - IntKind.wrap .i64 (Int.tmod (IntKind.wrap .i64 ho) 50*20)) - 1) !=0) (Dq h1 h2) (
  .t (enP sa ho cu on tw) (yS sa ho cu on tw) (Dp sa ho cu on tw)))) (by kernel_rfl)
noncomputable abbrev eEn:Ent:=eA wd dm φEn rEn
noncomputable abbrev eUs:Ent:=eA wd fm φUs rUs
end Go.WF

namespace Go.Ab
open Go Go.RowKit
def vh (oi ci sz2:Nat) (g2:Nat->List AV):Vw:=λs f=>
 match s.obj oi with
 | some (.cells cs)=>
  (match cs[ci]? with
  | some (.sl _ _ 0 _)=>f {env:=s.env,objs:=aput s.objs oi (.cells (cs.set ci (.sl .no sz2 0 g2)))}
  | _=>f s)
 | _=>f s
def vw2 (a b:Vw):Vw:=λs f=>a s λs'=>b s' f
theorem xX {a b:Vw} (ha:hZ a) (hb:hZ b):hZ (vw2 a b):=by
 intro s f r h
 obtain ⟨s1,h1,k1⟩:=ha s (λs'=>b s' f) r h
 obtain ⟨s2,h2,k2⟩:=hb s1 f r h1
 refine ⟨s2,h2,λB c x hr hn=>?_⟩
 obtain ⟨c1,e1,r1,n1⟩:=k1 B c x hr hn
 obtain ⟨c2,e2,r2,n2⟩:=k2 B c1 x r1 n1
 exact ⟨c2,e2.trans e1,r2,n2⟩
theorem qR (oi ci sz2:Nat) (g2:Nat->List AV):hZ (vh oi ci sz2 g2):=by
 intro s f r h
 unfold vh at h
 split at h
 ·rename_i cs ho
  split at h
  ·rename_i o sz g hc
   refine ⟨_,h,λB c a hr hn=>⟨c,rfl,?_,λt v ht=>hn t v ht⟩⟩
   obtain ⟨⟨⟨vs,t,hh,hvs,hv⟩,hone⟩,hI,hfr⟩:=hr.objs.rep oi _ ho
   have hci:ci < cs.length:=(List.getElem?_eq_some_iff.1 hc).1
   have hX:Rep c (.sl .no sz2 0 g2) (vs.getD ci undef):=tl (hv ci _ hc)
   have hrow:RowAt c (c.β oi) (cs.set ci (.sl .no sz2 0 g2)):=by
    refine ⟨⟨vs,t,hh,by rw [List.length_set];exact hvs,λi u hu=>?_⟩,λi u hu=>?_⟩
    ·rw [List.getElem?_set] at hu
     by_cases e:ci=i
     ·subst e;rw [if_pos rfl,if_pos hci] at hu;cases hu;exact hX
     ·rw [if_neg e] at hu;exact hv i u hu
    ·rw [List.getElem?_set] at hu
     by_cases e:ci=i
     ·subst e;rw [if_pos rfl,if_pos hci] at hu;cases hu;rfl
     ·rw [if_neg e] at hu;exact hone i u hu
   refine hr.obj (k:=oi) (o:=.cells (cs.set ci (.sl .no sz2 0 g2))) ((Keeps.refl c _).but oi) (Grow.refl hr.good) ⟨hrow,hI,hfr⟩ (λp o' b hp hne hb e=>?_) (λq hq=>?_) (λb hb=>hr.mine oi _ b ho hb)
   ·exact hr.objs.apart p o' oi _ b hp ho hne hb e
   ·have hq:q∈ak (cs.set ci (.sl .no sz2 0 g2)):=hq
    rcases lN q hq with hq | hq
    ·simp [AV.keys] at hq
    ·exact .inr (hr.objs.closed oi _ ho q hq)
  ·exact ⟨s,h,λB c a hr hn=>⟨c,rfl,hr,hn⟩⟩
 ·exact ⟨s,h,λB c a hr hn=>⟨c,rfl,hr,hn⟩⟩
end Go.Ab
namespace Go.WF
open Go Go.Ab Go.Proofs
structure VSX where
 k:Nat
 a:Nat
 b:Nat
 t:Nat
instance:Inhabited VSX:=⟨⟨0,0,0,0⟩⟩
def VSX.c (x:VSX):List AV:=[.int .u8 (x.k:Int),.int .u8 (x.a:Int),.int .u8 (x.b:Int),.int .u8 (x.t:Int)]
def vsA (l:List VSX):AV:=.sl .no 4 l.length λj=>(l.getD j default).c
def rn (p:EVP):List AV:=(yR p).cells
def nxT (n:Int) (t:Nat):Int:=IntKind.wrap .i64 (n+IntKind.wrap .i64 (1+Int.tmod (IntKind.wrap .i64 (t:Int)) 4))
structure VV where
 i:Nat
 n:Int
 r:RG
 ev:List EV
abbrev zy:List (List Nat×Vw):=[([1,1,1,1],vw2 (vh 6 1 3 λj=>(([]:List LK).getD j default).c) (vh 6 2 7 λj=>(([]:List SL).getD j default).c))]
theorem wx:sA zy:=jP (xX (qR _ _ _ _) (qR _ _ _ _)) az
structure VvI (l:List VSX) (v:VV):Prop where
 i:v.i<=l.length
 vr:VR v.r
 now:v.r.now<=v.n
 n0:0<=v.n
 n1:v.n<=4*v.i
 ss:v.r.ss.length<=v.i
 ls:v.r.ls.length<=v.i
 ev:v.ev.length<=v.i
 lin:Lin v.r.ls (cD v.ev) v.n
def VvP (o:RG×List EV):Prop:=(∃n,Lin o.1.ls (cD o.2) n)/\o.1.ls.length<=50/\o.2.length<=50
def VsD (l:List VSX):Prop:=∀j,(l.getD j default).a < 256/\(l.getD j default).b < 256/\(l.getD j default).t < 256
theorem Ad {n:Int} {t:Nat} (h0:0<=n) (h1:n<=1000) (ht:t < 256):nxT n t=n+1+t % 4:=by
 unfold nxT
 have e:Int.tmod (t:Int) 4=(t:Int) % 4:=Int.tmod_eq_emod_of_nonneg (by omega)
 rw [wrap_i64 (x:=(t:Int)) (by omega) (by omega),e,wrap_i64 (x:=1+(t:Int) % 4) (by omega) (by omega),wrap_i64 (by omega) (by omega)]
 omega
theorem rb {a:Nat} (h:a < 256):bQ wd eD φTX rId [.int .i64 (IntKind.wrap .i64 (a:Int))] []:=by
 rw [wrap_i64 (by omega) (by omega)];exact A0 a
theorem idq {a:Nat} {os:List AO} {x:TX} (h:a < 256) (q:rId [.int .i64 (IntKind.wrap .i64 (a:Int))] os x):db x=true:=by
 rw [wrap_i64 (by omega) (by omega)] at q
 rw [q a rfl];exact xg a
theorem Df {a:Nat} {os:List AO} {x:TX} (h:a < 256) (q:rId [.int .i64 (IntKind.wrap .i64 (a:Int))] os x):x.length<=400000:=by
 rw [wrap_i64 (by omega) (by omega)] at q
 rw [q a rfl]
 have:=ud a
 simp only [np,List.mem_cons,List.not_mem_nil,or_false] at this
 rcases this with e | e | e | e | e | e <;> rw [e] <;> decide
theorem x6 {r:RG} {a b:TX} {n:Int} {x:MEX} {k:Bool} (ka:db a=true) (kb:db b=true) (h:(bif k then !a==b else false)=true) (q:MeR r a b n x):x.2.2=0:=by
 have hab:a≠b:=λe=>by
  subst e
  rw [beq_self_eq_true] at h
  cases k <;> cases h
 rcases q with ⟨_,e⟩ | ⟨_,e⟩ | ⟨e,_⟩ | ⟨e,_⟩
 ·rw [ka,kb] at e;cases e
 ·exact absurd e hab
 ·exact e
 ·exact e
theorem zF {r:RG} {a b:TX} {n:Int} {x:MEX} {k:Bool} (ka:db a=true) (kb:db b=true) (h:(bif k then !a==b else false)=true) (q:MeR r a b n x):(x.2.2==0)=true:=beq_iff_eq.2 (x6 ka kb h q)
section
variable {p:EVP} {l:List VSX} {v:VV}
theorem zj (hl:l.length<=50) (hd:VsD l) (hv:VvI l v) (h:v.i < l.length):v.n < (nxT v.n (l.getD v.i default).t)/\(nxT v.n (l.getD v.i default).t)<=4*((v.i+1:Nat):Int)/\(nxT v.n (l.getD v.i default).t)<=1000:=by
 have h0:=hv.n0
 have h1:=hv.n1
 rw [Ad h0 (by omega) (hd v.i).2.2]
 have:(((l.getD v.i default).t:Nat):Int) % 4 < 4:=Int.emod_lt_of_pos _ (by decide)
 have:0<=(((l.getD v.i default).t:Nat):Int) % 4:=Int.emod_nonneg _ (by decide)
 omega
theorem zk (hl:l.length<=50) (hd:VsD l) (hv:VvI l v) (h:v.i < l.length):v.r.now<=(nxT v.n (l.getD v.i default).t)/\(nxT v.n (l.getD v.i default).t)<=1099511627776:=by
 have:=zj hl hd hv h
 have:=hv.now
 omega
theorem x7 (hl:l.length<=50) (hd:VsD l) (hv:VvI l v) (h:v.i < l.length):v.r.ls.length < 64:=by have:=hv.ls;omega
theorem zA (hl:l.length<=50) (hd:VsD l) (hv:VvI l v) (h:v.i < l.length):v.r.ss.length<=51:=by have:=hv.ss;omega
theorem x0 (hl:l.length<=50) (hd:VsD l) (hv:VvI l v) (h:v.i < l.length):v.r.ss.length < 128:=by have:=hv.ss;omega
theorem zG (hl:l.length<=50) (hd:VsD l) (hv:VvI l v) (h:v.i < l.length):v.r.ls.length<=1000000:=by have:=hv.ls;omega
theorem zB (hl:l.length<=50) (hd:VsD l) (hv:VvI l v) (h:v.i < l.length):v.r.ss.length<=1000000:=by have:=hv.ss;omega
theorem x4 (hl:l.length<=50) (hd:VsD l) (hv:VvI l v) (h:v.i < l.length):(roomy 112 (List.length v.ev+1)&&Nat.beq (List.length v.ev) (List.length v.ev))=true:=bz (by have:=hv.ev;omega)
theorem Ca (l:List VSX):VvI l ⟨0,0,rg0,[]⟩:=⟨Nat.zero_le _,zw,Int.le_refl _,Int.le_refl _,by show (0:Int)<=4*((0:Nat):Int);omega,Nat.le_refl _,Nat.le_refl _,Nat.le_refl _,w7 0⟩
theorem B6 (hl:l.length<=50) (hv:VvI l v):VvP (v.r,v.ev):=⟨⟨_,hv.lin⟩,by have:=hv.ls;have:=hv.i;show v.r.ls.length<=50;omega,by have:=hv.ev;have:=hv.i;show v.ev.length<=50;omega⟩
theorem B9 (hl:l.length<=50) (hd:VsD l) (hv:VvI l v) (h:v.i < l.length) {a b:TX} {x:MEX} {c:TX} {s:Int} (q:MeR v.r a b (nxT v.n (l.getD v.i default).t) x) (h0:x.2.2=0):VvI l ⟨v.i+1,(nxT v.n (l.getD v.i default).t),x.1,v.ev++[⟨c,s,3,(nxT v.n (l.getD v.i default).t),a,[],b,0,0,0⟩]⟩:=by
 obtain ⟨x1,x2,x3⟩:=zj hl hd hv h
 obtain ⟨y1,y2,y3,y4⟩:=Ap hv.vr (zk hl hd hv h) (x7 hl hd hv h) q h0
 have n0:=hv.n0
 have g1:=hv.ss
 have g2:=hv.ls
 have g3:=hv.ev
 refine ⟨h,y1,Int.le_of_eq y2,by show 0<=(nxT v.n (l.getD v.i default).t);omega,x2,by show x.1.ss.length<=v.i+1;omega,?_,by show (v.ev++[_]).length<=v.i+1;simp;omega,?_⟩
 ·show x.1.ls.length<=v.i+1
  rcases y4 with ⟨_,e⟩ | ⟨_,e⟩
  ·rw [e];omega
  ·rw [e];simp;omega
 ·show Lin x.1.ls (cD (v.ev++[_])) _
  rw [oE _ _ rfl]
  rcases y4 with ⟨he,e⟩ | ⟨_,e⟩
  ·rw [e];exact hv.lin.skip (Int.le_of_lt x1) he
  ·rw [e];exact hv.lin.both (Int.le_of_lt x1) a b
theorem B8 (hl:l.length<=50) (hd:VsD l) (hv:VvI l v) (h:v.i < l.length):VvI l ⟨v.i+1,(nxT v.n (l.getD v.i default).t),v.r,v.ev⟩:=by
 obtain ⟨x1,x2,x3⟩:=zj hl hd hv h
 have n0:=hv.n0
 have g1:=hv.ss
 have g2:=hv.ls
 have g3:=hv.ev
 have g4:=hv.now
 exact ⟨h,hv.vr,by show v.r.now<=(nxT v.n (l.getD v.i default).t);omega,by show 0<=(nxT v.n (l.getD v.i default).t);omega,x2,Nat.le_succ_of_le g1,Nat.le_succ_of_le g2,Nat.le_succ_of_le g3,hv.lin.mono (Int.le_of_lt x1)⟩
theorem B7 (hl:l.length<=50) (hd:VsD l) (hv:VvI l v) (h:v.i < l.length) {id al ax:TX} {aa:Int} {ah:Bool} {x:ASX} {e:EV} (q:AsR v.r id al ax aa ah (nxT v.n (l.getD v.i default).t) x) (h0:(x.2.2 !=0)=false) (he:e.kind=1:=by rfl):VvI l ⟨v.i+1,(nxT v.n (l.getD v.i default).t),x.1,v.ev++[e]⟩:=by
 obtain ⟨x1,x2,x3⟩:=zj hl hd hv h
 obtain ⟨y1,y2,y3,y4⟩:=BB hv.vr (zk hl hd hv h) (x0 hl hd hv h) q (by simpa using h0)
 have n0:=hv.n0
 have g1:=hv.ss
 have g2:=hv.ls
 have g3:=hv.ev
 refine ⟨h,y1,Int.le_of_eq y2,by show 0<=(nxT v.n (l.getD v.i default).t);omega,x2,by show x.1.ss.length<=v.i+1;omega,by show x.1.ls.length<=v.i+1;rw [y3];omega,by show (v.ev++[_]).length<=v.i+1;simp;omega,?_⟩
 show Lin x.1.ls (cD (v.ev++[_])) _
 rw [nj _ _ (by rw [he];decide),y3]
 exact hv.lin.mono (Int.le_of_lt x1)
theorem zz {a y:TX} {os:List AO} (h:a.length<=400000) (q:rUs [.str a] os y):y.length<=400000:=by
 rw [q a rfl];exact h
theorem zE (hl:l.length<=50) (hd:VsD l) (hv:VvI l v) (h:v.i < l.length) {r2 r3:TX} {r5:MEX}:{env:=[(1,vsA l),(2,.ref 2 0),(4,.ref 4 0),(6,.ref 6 0),(7,.sl (.key 79) 10 (List.length (VV.ev v)+1) (ao (List.length (VV.ev v)) 1 (λj=>(List.getD (VV.ev v) j default).c) (ag [.str [],.int .i64 0,.int .i64 0,.int .i64 0,.str [],.str [],.str [],.int .i64 0,.int .i64 0,.int .i64 0] [(0,.agg [.str [119,101,98],.int .i64 (IntKind.wrap .i64 ((↑(VV.i v):Int)+1)),.int .i64 3,.int .i64 (IntKind.wrap .i64 (VV.n v+IntKind.wrap .i64 (1+Int.tmod (IntKind.wrap .i64 (↑(VSX.t (List.getD l (VV.i v) default)):Int)) 4))),.str r2,.str [],.str r3,.int .i64 0,.int .i64 0,.int .i64 0])]))),(8,.int .i64 (IntKind.wrap .i64 (VV.n v+IntKind.wrap .i64 (1+Int.tmod (IntKind.wrap .i64 (↑(VSX.t (List.getD l (VV.i v) default)):Int)) 4)))),(9,.int .i64 (IntKind.wrap .i64 ((↑(VV.i v):Int)+1)))],objs:=[(2,.cells (rn p)),(4,.cells [.int .i64 0,.sl .fit 0 0 λx=>[],.sl .fit 0 0 λx=>[] ]),(6,.cells (RG.c r5.1)),(79,.own 10 (List.length (VV.ev v)+1))]}=(λv:VV=>({env:=[(1,vsA l),(2,.ref 2 0),(4,.ref 4 0),(6,.ref 6 0),(7,.sl (.key 79) 10 v.ev.length λj=>(v.ev.getD j default).c),(8,.int .i64 v.n),(9,.int .i64 (v.i:Int))],objs:=[(2,.cells (rn p)),(4,.cells [.int .i64 0,.sl .fit 0 0 λx=>[],.sl .fit 0 0 λx=>[] ]),(6,.cells v.r.c),(79,.own 10 v.ev.length)]}:St)) ⟨v.i+1,(nxT v.n (l.getD v.i default).t),r5.1,v.ev++[(⟨[119,101,98],IntKind.wrap .i64 ((v.i:Int)+1),3,(nxT v.n (l.getD v.i default).t),r2,[],r3,0,0,0⟩)]⟩:=by
 rw [mf EV.c v.ev (⟨[119,101,98],IntKind.wrap .i64 ((v.i:Int)+1),3,(nxT v.n (l.getD v.i default).t),r2,[],r3,0,0,0⟩) (ag [.str [],.int .i64 0,.int .i64 0,.int .i64 0,.str [],.str [],.str [],.int .i64 0,.int .i64 0,.int .i64 0] [(0,.agg [.str [119,101,98],.int .i64 (IntKind.wrap .i64 ((↑(VV.i v):Int)+1)),.int .i64 3,.int .i64 (IntKind.wrap .i64 (VV.n v+IntKind.wrap .i64 (1+Int.tmod (IntKind.wrap .i64 (↑(VSX.t (List.getD l (VV.i v) default)):Int)) 4))),.str r2,.str [],.str r3,.int .i64 0,.int .i64 0,.int .i64 0])]) rfl]
 show _=({env:=[(1,vsA l),(2,.ref 2 0),(4,.ref 4 0),(6,.ref 6 0),(7,.sl (.key 79) 10 (v.ev++[(⟨[119,101,98],IntKind.wrap .i64 ((v.i:Int)+1),3,(nxT v.n (l.getD v.i default).t),r2,[],r3,0,0,0⟩:EV)]).length λj=>((v.ev++[(⟨[119,101,98],IntKind.wrap .i64 ((v.i:Int)+1),3,(nxT v.n (l.getD v.i default).t),r2,[],r3,0,0,0⟩:EV)]).getD j default).c),(8,.int .i64 (nxT v.n (l.getD v.i default).t)),(9,.int .i64 ((v.i+1:Nat):Int))],objs:=[(2,.cells (rn p)),(4,.cells [.int .i64 0,.sl .fit 0 0 λx=>[],.sl .fit 0 0 λx=>[] ]),(6,.cells r5.1.c),(79,.own 10 (v.ev++[(⟨[119,101,98],IntKind.wrap .i64 ((v.i:Int)+1),3,(nxT v.n (l.getD v.i default).t),r2,[],r3,0,0,0⟩:EV)]).length)]}:St)
 rw [show (v.ev++[((⟨[119,101,98],IntKind.wrap .i64 ((v.i:Int)+1),3,(nxT v.n (l.getD v.i default).t),r2,[],r3,0,0,0⟩):EV)]).length=v.ev.length+1 by simp,cP (by omega)]
 rfl
theorem zD (hl:l.length<=50) (hd:VsD l) (hv:VvI l v) (h:v.i < l.length):{env:=[(1,vsA l),(2,.ref 2 0),(4,.ref 4 0),(6,.ref 6 0),(7,.sl (.key 79) 10 (List.length (VV.ev v)) λj=>(List.getD (VV.ev v) j default).c),(8,.int .i64 (IntKind.wrap .i64 (VV.n v+IntKind.wrap .i64 (1+Int.tmod (IntKind.wrap .i64 (↑(VSX.t (List.getD l (VV.i v) default)):Int)) 4)))),(9,.int .i64 (IntKind.wrap .i64 ((↑(VV.i v):Int)+1)))],objs:=[(2,.cells (rn p)),(4,.cells [.int .i64 0,.sl .fit 0 0 λx=>[],.sl .fit 0 0 λx=>[] ]),(6,.cells (RG.c (VV.r v))),(79,.own 10 (List.length (VV.ev v)))]}=(λv:VV=>({env:=[(1,vsA l),(2,.ref 2 0),(4,.ref 4 0),(6,.ref 6 0),(7,.sl (.key 79) 10 v.ev.length λj=>(v.ev.getD j default).c),(8,.int .i64 v.n),(9,.int .i64 (v.i:Int))],objs:=[(2,.cells (rn p)),(4,.cells [.int .i64 0,.sl .fit 0 0 λx=>[],.sl .fit 0 0 λx=>[] ]),(6,.cells v.r.c),(79,.own 10 v.ev.length)]}:St)) ⟨v.i+1,(nxT v.n (l.getD v.i default).t),v.r,v.ev⟩:=by
 rw [cP (by omega)]
 rfl
theorem zC (hl:l.length<=50) (hd:VsD l) (hv:VvI l v) (h:v.i < l.length) {r2:TX} {r10:ASX}:{env:=[(1,vsA l),(2,.ref 2 0),(4,.ref 4 0),(6,.ref 6 0),(7,.sl (.key 79) 10 (List.length (VV.ev v)+1) (ao (List.length (VV.ev v)) 1 (λj=>(List.getD (VV.ev v) j default).c) (ag [.str [],.int .i64 0,.int .i64 0,.int .i64 0,.str [],.str [],.str [],.int .i64 0,.int .i64 0,.int .i64 0] [(0,.agg [.str [119,101,98],.int .i64 (IntKind.wrap .i64 ((↑(VV.i v):Int)+1)),.int .i64 1,.int .i64 (IntKind.wrap .i64 (VV.n v+IntKind.wrap .i64 (1+Int.tmod (IntKind.wrap .i64 (↑(VSX.t (List.getD l (VV.i v) default)):Int)) 4))),.str r2,.str (SL.exp r10.2.1),.str [],.int .i64 1,.int .i64 (SL.arm r10.2.1),.int .i64 0])]))),(8,.int .i64 (IntKind.wrap .i64 (VV.n v+IntKind.wrap .i64 (1+Int.tmod (IntKind.wrap .i64 (↑(VSX.t (List.getD l (VV.i v) default)):Int)) 4)))),(9,.int .i64 (IntKind.wrap .i64 ((↑(VV.i v):Int)+1)))],objs:=[(2,.cells (rn p)),(4,.cells [.int .i64 0,.sl .fit 0 0 λx=>[],.sl .fit 0 0 λx=>[] ]),(6,.cells (RG.c r10.1)),(79,.own 10 (List.length (VV.ev v)+1))]}=(λv:VV=>({env:=[(1,vsA l),(2,.ref 2 0),(4,.ref 4 0),(6,.ref 6 0),(7,.sl (.key 79) 10 v.ev.length λj=>(v.ev.getD j default).c),(8,.int .i64 v.n),(9,.int .i64 (v.i:Int))],objs:=[(2,.cells (rn p)),(4,.cells [.int .i64 0,.sl .fit 0 0 λx=>[],.sl .fit 0 0 λx=>[] ]),(6,.cells v.r.c),(79,.own 10 v.ev.length)]}:St)) ⟨v.i+1,(nxT v.n (l.getD v.i default).t),r10.1,v.ev++[(⟨[119,101,98],IntKind.wrap .i64 ((v.i:Int)+1),1,(nxT v.n (l.getD v.i default).t),r2,r10.2.1.exp,[],1,r10.2.1.arm,0⟩)]⟩:=by
 rw [mf EV.c v.ev (⟨[119,101,98],IntKind.wrap .i64 ((v.i:Int)+1),1,(nxT v.n (l.getD v.i default).t),r2,r10.2.1.exp,[],1,r10.2.1.arm,0⟩) (ag [.str [],.int .i64 0,.int .i64 0,.int .i64 0,.str [],.str [],.str [],.int .i64 0,.int .i64 0,.int .i64 0] [(0,.agg [.str [119,101,98],.int .i64 (IntKind.wrap .i64 ((↑(VV.i v):Int)+1)),.int .i64 1,.int .i64 (IntKind.wrap .i64 (VV.n v+IntKind.wrap .i64 (1+Int.tmod (IntKind.wrap .i64 (↑(VSX.t (List.getD l (VV.i v) default)):Int)) 4))),.str r2,.str (SL.exp r10.2.1),.str [],.int .i64 1,.int .i64 (SL.arm r10.2.1),.int .i64 0])]) rfl]
 show _=({env:=[(1,vsA l),(2,.ref 2 0),(4,.ref 4 0),(6,.ref 6 0),(7,.sl (.key 79) 10 (v.ev++[(⟨[119,101,98],IntKind.wrap .i64 ((v.i:Int)+1),1,(nxT v.n (l.getD v.i default).t),r2,r10.2.1.exp,[],1,r10.2.1.arm,0⟩:EV)]).length λj=>((v.ev++[(⟨[119,101,98],IntKind.wrap .i64 ((v.i:Int)+1),1,(nxT v.n (l.getD v.i default).t),r2,r10.2.1.exp,[],1,r10.2.1.arm,0⟩:EV)]).getD j default).c),(8,.int .i64 (nxT v.n (l.getD v.i default).t)),(9,.int .i64 ((v.i+1:Nat):Int))],objs:=[(2,.cells (rn p)),(4,.cells [.int .i64 0,.sl .fit 0 0 λx=>[],.sl .fit 0 0 λx=>[] ]),(6,.cells r10.1.c),(79,.own 10 (v.ev++[(⟨[119,101,98],IntKind.wrap .i64 ((v.i:Int)+1),1,(nxT v.n (l.getD v.i default).t),r2,r10.2.1.exp,[],1,r10.2.1.arm,0⟩:EV)]).length)]}:St)
 rw [show (v.ev++[((⟨[119,101,98],IntKind.wrap .i64 ((v.i:Int)+1),1,(nxT v.n (l.getD v.i default).t),r2,r10.2.1.exp,[],1,r10.2.1.arm,0⟩):EV)]).length=v.ev.length+1 by simp,cP (by omega)]
 rfl
end
theorem wz (p:EVP) (l:List VSX) (hp:p.Ok) (hl:l.length<=50) (hd:VsD l):∃ (u:St->Bool) (w:St->RG×List EV),(∀v:VV,VvI l v->bN u w ((λv:VV=>({env:=[(1,vsA l),(2,.ref 2 0),(4,.ref 4 0),(6,.ref 6 0),(7,.sl (.key 79) 10 v.ev.length λj=>(v.ev.getD j default).c),(8,.int .i64 v.n),(9,.int .i64 (v.i:Int))],objs:=[(2,.cells (rn p)),(4,.cells [.int .i64 0,.sl .fit 0 0 λx=>[],.sl .fit 0 0 λx=>[] ]),(6,.cells v.r.c),(79,.own 10 v.ev.length)]}:St)) v) VvP)/\∀C:List (List Nat×Orc),bO (V0.run [eId,eUs,eMe,eFd,eLy,eAs] 1 [] C zy bF) bF [1,1,1,1,0,1,0] (mkO u w (λ(t:RG×List EV) k=>k (.exit 0) {env:=[(4,.ref 4 0),(6,.ref 6 0),(7,.sl (.key 79) 10 t.2.length λj=>(t.2.getD j default).c)],objs:=[(4,.cells [.int .i64 0,.sl .fit 0 0 λx=>[],.sl .fit 0 0 λx=>[] ]),(6,.cells t.1.c),(79,.own 10 t.2.length)]})):=
 cO (V:=V0) (T:=[eId,eUs,eMe,eFd,eLy,eAs]) (d:=1) (W:=zy) (f:=bF) (p:=[1,1,1,1,0,1,0]) (Lf:=λL=>L) (λv:VV=>{env:=[(1,vsA l),(2,.ref 2 0),(4,.ref 4 0),(6,.ref 6 0),(7,.sl (.key 79) 10 v.ev.length λj=>(v.ev.getD j default).c),(8,.int .i64 v.n),(9,.int .i64 (v.i:Int))],objs:=[(2,.cells (rn p)),(4,.cells [.int .i64 0,.sl .fit 0 0 λx=>[],.sl .fit 0 0 λx=>[] ]),(6,.cells v.r.c),(79,.own 10 v.ev.length)]}) (VvI l) (λv=>l.length - v.i) (λ(t:RG×List EV) k=>k (.exit 0) {env:=[(4,.ref 4 0),(6,.ref 6 0),(7,.sl (.key 79) 10 t.2.length λj=>(t.2.getD j default).c)],objs:=[(4,.cells [.int .i64 0,.sl .fit 0 0 λx=>[],.sl .fit 0 0 λx=>[] ]),(6,.cells t.1.c),(79,.own 10 t.2.length)]}) VvP (by kernel_rfl) (λv hv=>.b (decide ((↑(VV.i v):Int) < (↑(List.length l):Int))) (λh1=>
   .n (c:=within (↑(VV.i v):Int) (List.length l)) (bC (bD h1)) (
   .call (rb (hd v.i).1) λr2 q2=>
   .call (rb (hd v.i).2.1) λr3 q3=>
   .b (bif Int.tmod (↑(VSX.k (List.getD l (VV.i v) default)):Int) 4==0 then !r2==r3 else false) (λh4=>
    .call (AD v.r r2 r3 (nxT v.n (l.getD v.i default).t) hv.vr (zk hl hd hv (bD h1)) (x7 hl hd hv (bD h1)) (zA hl hd hv (bD h1))) λr5 q5=>
    .yea (c:=r5.2.2==0) (B:=λ_ k kn=>cond (roomy 112 (List.length (VV.ev v)+1)&&Nat.beq (List.length (VV.ev v)) (List.length (VV.ev v))) (kn ({env:=[(1,vsA l),(2,.ref 2 0),(4,.ref 4 0),(6,.ref 6 0),(7,.sl (.key 79) 10 (List.length (VV.ev v)+1) (ao (List.length (VV.ev v)) 1 (λj=>(List.getD (VV.ev v) j default).c) (ag [.str [],.int .i64 0,.int .i64 0,.int .i64 0,.str [],.str [],.str [],.int .i64 0,.int .i64 0,.int .i64 0] [(0,.agg [.str [119,101,98],.int .i64 (IntKind.wrap .i64 ((↑(VV.i v):Int)+1)),.int .i64 3,.int .i64 (IntKind.wrap .i64 (VV.n v+IntKind.wrap .i64 (1+Int.tmod (IntKind.wrap .i64 (↑(VSX.t (List.getD l (VV.i v) default)):Int)) 4))),.str r2,.str [],.str r3,.int .i64 0,.int .i64 0,.int .i64 0])]))),(8,.int .i64 (IntKind.wrap .i64 (VV.n v+IntKind.wrap .i64 (1+Int.tmod (IntKind.wrap .i64 (↑(VSX.t (List.getD l (VV.i v) default)):Int)) 4)))),(9,.int .i64 (IntKind.wrap .i64 ((↑(VV.i v):Int)+1)))],objs:=[(2,.cells (rn p)),(4,.cells [.int .i64 0,.sl .fit 0 0 λx=>[],.sl .fit 0 0 λx=>[] ]),(6,.cells (RG.c (VV.r v))),(79,.own 10 (List.length (VV.ev v)+1))]})) (none)) (zF (idq (hd v.i).1 q2) (idq (hd v.i).2.1 q3) h4 (q5 _ _ _ _ rfl)) (
    .n (c:=roomy 112 (List.length (VV.ev v)+1)&&Nat.beq (List.length (VV.ev v)) (List.length (VV.ev v))) (x4 hl hd hv (bD h1)) (
    .go {env:=[(1,vsA l),(2,.ref 2 0),(4,.ref 4 0),(6,.ref 6 0),(7,.sl (.key 79) 10 (List.length (VV.ev v)+1) (ao (List.length (VV.ev v)) 1 (λj=>(List.getD (VV.ev v) j default).c) (ag [.str [],.int .i64 0,.int .i64 0,.int .i64 0,.str [],.str [],.str [],.int .i64 0,.int .i64 0,.int .i64 0] [(0,.agg [.str [119,101,98],.int .i64 (IntKind.wrap .i64 ((↑(VV.i v):Int)+1)),.int .i64 3,.int .i64 (IntKind.wrap .i64 (VV.n v+IntKind.wrap .i64 (1+Int.tmod (IntKind.wrap .i64 (↑(VSX.t (List.getD l (VV.i v) default)):Int)) 4))),.str r2,.str [],.str r3,.int .i64 0,.int .i64 0,.int .i64 0])]))),(8,.int .i64 (IntKind.wrap .i64 (VV.n v+IntKind.wrap .i64 (1+Int.tmod (IntKind.wrap .i64 (↑(VSX.t (List.getD l (VV.i v) default)):Int)) 4)))),(9,.int .i64 (IntKind.wrap .i64 ((↑(VV.i v):Int)+1)))],objs:=[(2,.cells (rn p)),(4,.cells [.int .i64 0,.sl .fit 0 0 λx=>[],.sl .fit 0 0 λx=>[] ]),(6,.cells (RG.c r5.1)),(79,.own 10 (List.length (VV.ev v)+1))]} ⟨v.i+1,(nxT v.n (l.getD v.i default).t),r5.1,v.ev++[⟨[119,101,98],IntKind.wrap .i64 ((v.i:Int)+1),3,(nxT v.n (l.getD v.i default).t),r2,[],r3,0,0,0⟩]⟩ (B9 hl hd hv (bD h1) (q5 _ _ _ _ rfl) (x6 (idq (hd v.i).1 q2) (idq (hd v.i).2.1 q3) h4 (q5 _ _ _ _ rfl))) (oy (bD h1)) (zE hl hd hv (bD h1))))) λh4=>
   .call (zI r2) λr7 q7=>
   .call (Be v.r r2 (nxT v.n (l.getD v.i default).t) hv.vr (zG hl hd hv (bD h1)) (zB hl hd hv (bD h1))) λr8 q8=>
   .call (AH p r7 r8 hp (zz (Df (hd v.i).1 q2) q7) q8) λr9 q9=>
   .call (ze v.r r2 jv r9.exp r9.bk r9.arm r9.held (nxT v.n (l.getD v.i default).t) hv.vr (zk hl hd hv (bD h1)) (x0 hl hd hv (bD h1))) λr10 q10=>
   .b (r10.2.2 !=0) (λh11=>
    .go {env:=[(1,vsA l),(2,.ref 2 0),(4,.ref 4 0),(6,.ref 6 0),(7,.sl (.key 79) 10 (List.length (VV.ev v)) λj=>(List.getD (VV.ev v) j default).c),(8,.int .i64 (IntKind.wrap .i64 (VV.n v+IntKind.wrap .i64 (1+Int.tmod (IntKind.wrap .i64 (↑(VSX.t (List.getD l (VV.i v) default)):Int)) 4)))),(9,.int .i64 (IntKind.wrap .i64 ((↑(VV.i v):Int)+1)))],objs:=[(2,.cells (rn p)),(4,.cells [.int .i64 0,.sl .fit 0 0 λx=>[],.sl .fit 0 0 λx=>[] ]),(6,.cells (RG.c (VV.r v))),(79,.own 10 (List.length (VV.ev v)))]} ⟨v.i+1,(nxT v.n (l.getD v.i default).t),v.r,v.ev⟩ (B8 hl hd hv (bD h1)) (oy (bD h1)) (zD hl hd hv (bD h1))) λh11=>
   .n (c:=roomy 112 (List.length (VV.ev v)+1)&&Nat.beq (List.length (VV.ev v)) (List.length (VV.ev v))) (x4 hl hd hv (bD h1)) (
   .go {env:=[(1,vsA l),(2,.ref 2 0),(4,.ref 4 0),(6,.ref 6 0),(7,.sl (.key 79) 10 (List.length (VV.ev v)+1) (ao (List.length (VV.ev v)) 1 (λj=>(List.getD (VV.ev v) j default).c) (ag [.str [],.int .i64 0,.int .i64 0,.int .i64 0,.str [],.str [],.str [],.int .i64 0,.int .i64 0,.int .i64 0] [(0,.agg [.str [119,101,98],.int .i64 (IntKind.wrap .i64 ((↑(VV.i v):Int)+1)),.int .i64 1,.int .i64 (IntKind.wrap .i64 (VV.n v+IntKind.wrap .i64 (1+Int.tmod (IntKind.wrap .i64 (↑(VSX.t (List.getD l (VV.i v) default)):Int)) 4))),.str r2,.str (SL.exp r10.2.1),.str [],.int .i64 1,.int .i64 (SL.arm r10.2.1),.int .i64 0])]))),(8,.int .i64 (IntKind.wrap .i64 (VV.n v+IntKind.wrap .i64 (1+Int.tmod (IntKind.wrap .i64 (↑(VSX.t (List.getD l (VV.i v) default)):Int)) 4)))),(9,.int .i64 (IntKind.wrap .i64 ((↑(VV.i v):Int)+1)))],objs:=[(2,.cells (rn p)),(4,.cells [.int .i64 0,.sl .fit 0 0 λx=>[],.sl .fit 0 0 λx=>[] ]),(6,.cells (RG.c r10.1)),(79,.own 10 (List.length (VV.ev v)+1))]} ⟨v.i+1,(nxT v.n (l.getD v.i default).t),r10.1,v.ev++[⟨[119,101,98],IntKind.wrap .i64 ((v.i:Int)+1),1,(nxT v.n (l.getD v.i default).t),r2,r10.2.1.exp,[],1,r10.2.1.arm,0⟩]⟩ (B7 hl hd hv (bD h1) (q10 _ _ _ _ _ _ _ _ rfl) h11) (oy (bD h1)) (zC hl hd hv (bD h1))))) λh1=>
  .fi (v.r,v.ev) (B6 hl hv)) (λv L k kn=>by kernel_rfl)
def φVi (x:RG×List EV):AV×List AO:=(.tup [rgA x.1,evA x.2],[])
def rVi (_:List AV) (_:List AO) (x:RG×List EV):Prop:=VvP x
theorem zH (p:EVP) (l:List VSX) (hp:p.Ok) (hl:l.length<=50) (hd:VsD l):bQ wd bF φVi rVi [yR p,vsA l] []:=by
 obtain ⟨u,w,hu,hc⟩:=wz p l hp hl hd
 exact bP (V:=V0) (T:=[eId,eUs,eMe,eFd,eLy,eAs]) (d:=1) 0 (aU (hc _) aA) wx (.lp (hu ⟨0,0,rg0,[]⟩ (Ca l)) λr1 q1=>
  .r r1 q1) (by kernel_rfl)
noncomputable abbrev eVi:Ent:=eA wd bF φVi rVi
end Go.WF

namespace Go.WF
open Go Go.Ab Go.Proofs
section
variable {l:List VSX} {os o1 o2 o3 o4 o5:List AO} {A:List AV} {r5:RG×List EV} {r8 r10 r11:List LK} {r6 r7:TX} {r9 r12:Bool} {tt:Int}
theorem Cz {x:Bool} (q:rE true A os x):(!x)=false:=by have q:x=true:=q;rw [q];rfl
theorem Cu (h:decide ((List.length l:Int) > 50)=false):l.length<=50:=by have:=of_decide_eq_false h;omega
theorem BL (q:rVi A os r5):r5.1.ls.length<=1000000:=Nat.le_trans q.2.1 (by decide)
theorem BK (q:rVi A os r5):r5.2.length<=1000000:=Nat.le_trans q.2.2 (by decide)
theorem Cy (q:rVi A os r5) (q8:rUt [lkA r5.1.ls,.int .i64 tt] o1 r8):r8.length<=1000000:=by
 rw [q8 _ _ rfl];exact Nat.le_trans (gC _ _) (BL q)
theorem BJ (q:rVi A os r5) (q10:rLk [evA r5.2] o1 r10):r10.length<=1000000:=by
 rw [q10 _ rfl,oD];exact Nat.le_trans (uo _ _) (BK q)
theorem Cw (q:rVi A os r5) (q10:rLk [evA r5.2] o1 r10) (q11:rUt [lkA r10,.int .i64 tt] o2 r11):r11.length<=1000000:=by
 rw [q11 _ _ rfl];exact Nat.le_trans (gC _ _) (BJ q q10)
theorem Cv (q:rVi A os r5) (q8:rUt [lkA r5.1.ls,.int .i64 tt] o1 r8) (q9:rSa [lkA r8,.str r6,.str r7] [] r9) (q10:rLk [evA r5.2] o3 r10) (q11:rUt [lkA r10,.int .i64 tt] o4 r11) (q12:rSa [lkA r11,.str r6,.str r7] [] r12):(r9==r12)=true:=by
 obtain ⟨⟨n,hn⟩,_,_⟩:=q
 rw [rSa.eq q9,rSa.eq q12,q8 _ _ rfl,q11 _ _ rfl,q10 _ rfl,hn.law]
 exact beq_self_eq_true _
end
noncomputable abbrev Dt:Ent:=eA wd eH φBo (rE true)
noncomputable abbrev Ds:Ent:=eA wd il φLk rLk
theorem wE (sa ho cu on tw:Int) (l:List VSX) (a b t:Nat) (h0:0<=ho) (h0':ho < 256) (h4:0<=on) (h5:on < 65536) (hd:VsD l) (ha:a < 256) (hb:b < 256):bQ wd cR φBo (rE true) [.agg [.int .u8 sa,.int .u8 ho,.int .u16 cu,.int .u16 on,.int .u16 tw],vsA l,.int .u8 (a:Int),.int .u8 (b:Int),.int .u8 (t:Int)] []:=
 bP (V:=V0) (T:=[Dt,eEn,eVi,eId,eUt,eSa,Ds]) (d:=1) 0 aA az (.call (AM) λr1 q1=>
  .no (c:=!r1) (a:=some ((.bool false,[]))) (Cz q1) (
  .b (decide ((↑(List.length l):Int) > 50)) (λh3=>
   .r true rfl) λh3=>
  .call (Bh sa ho cu on tw h0 h0' h4 h5) λr4 q4=>
  .call (zH r4 l q4 (Cu h3) hd) λr5 q5=>
  .call (rb ha) λr6 q6=>
  .call (rb hb) λr7 q7=>
  .call (wC r5.1.ls (Int.tmod (IntKind.wrap .i64 (t:Int)) 200) (BL q5)) λr8 q8=>
  .call (wK r8 r6 r7 (Cy q5 q8)) λr9 q9=>
  .call (vn r5.2 (BK q5)) λr10 q10=>
  .call (wC r10 (Int.tmod (IntKind.wrap .i64 (t:Int)) 200) (BJ q5 q10)) λr11 q11=>
  .call (wK r11 r6 r7 (Cw q5 q10 q11)) λr12 q12=>
  .r (r9==r12) (Cv q5 q8 q9 q10 q11 q12))) (by kernel_rfl)
end Go.WF

namespace Go.Ab
open Go Go.RowKit Go.ChangeShapes
mutual
def iv {H:Type}:DataW H->Nat
 | .lit (.string bytes)=>bytes.length+1
 | .lit _=>1
 | .nil=>1
 | .ptr d=>iv d+1
 | .slice elems spare=>jG elems+jG spare+1
 | .agg parts=>jG parts+1
 | .iface _ d=>iv d+1
 | .map entries=>y7 entries+1
 | .held _=>1
def jG {H:Type}:List (DataW H)->Nat
 | []=>0
 | d::r=>iv d+jG r
def y7 {H:Type}:List (Lit×DataW H)->Nat
 | []=>0
 | x::r=>Bu x+y7 r
def Bu {H:Type}:Lit×DataW H->Nat
 | (.string bytes,d)=>bytes.length+iv d+1
 | (_,d)=>iv d+1
end
theorem uy {H:Type} (d:DataW H):1<=iv d:=by
 cases d with
 | lit l=>cases l <;> simp [iv]
 | _=>simp [iv]
theorem oV {H:Type}:∀l:List (DataW H),l.length<=jG l
 | []=>by simp [jG]
 | d::r=>by have:=uy d;have:=oV r;simp only [List.length_cons,jG];omega
theorem ry {H:Type}:∀ {l:List (DataW H)} {i:Nat} {d:DataW H},l[i]?=some d->iv d<=jG l
 | [],_,_,h=>by simp at h
 | e::r,0,d,h=>by simp at h;subst h;simp only [jG];omega
 | e::r,i+1,d,h=>by have:=ry (l:=r) (i:=i) (by simpa using h);simp only [jG];omega
structure CellsR (c:Cx) (us:List AV) (vs:List Value):Prop where
 len:vs.length=us.length
 one:∀u∈us,u.one=true/\u.keys=[]
 rep:∀ (i:Nat) (u:AV),us[i]?=some u->Rep c u (vs.getD i undef)
theorem jr:∀ {us:List AV},(∀u∈us,u.keys=[])->ak us=[]
 | [],_=>rfl
 | u::r,h=>by rw [ak,h u (by simp),jr λv hv=>h v (List.mem_cons_of_mem _ hv)];rfl
theorem CellsR.nil (c:Cx):CellsR c [] []:=⟨rfl,λ_ h=>by simp at h,λi u h=>by simp at h⟩
theorem CellsR.append {c:Cx} {us us':List AV} {vs vs':List Value} (h:CellsR c us vs) (h':CellsR c us' vs'):CellsR c (us++us') (vs++vs'):=by
 refine ⟨by simp [h.len,h'.len],λu hu=>?_,λi u hu=>?_⟩
 ·rcases List.mem_append.1 hu with hu | hu
  ·exact h.one u hu
  ·exact h'.one u hu
 ·by_cases hi:i < us.length
  ·rw [List.getElem?_append_left hi] at hu
   have:=h.rep i u hu
   rw [List.getD_eq_getElem?_getD] at this ⊢
   rwa [List.getElem?_append_left (by rw [h.len];exact hi)]
  ·rw [List.getElem?_append_right (by omega)] at hu
   have:=h'.rep _ u hu
   rw [List.getD_eq_getElem?_getD] at this ⊢
   rw [List.getElem?_append_right (by rw [h.len];omega),h.len]
   exact this
theorem CellsR.wY {c:Cx} {u:AV} {v:Value} (h1:u.one=true) (h2:u.keys=[]) (h:Rep c u v):CellsR c [u] [v]:=
 ⟨rfl,λx hx=>by simp at hx;subst hx;exact ⟨h1,h2⟩,λi x hx=>by
  cases i with
  | zero=>simp at hx;subst hx;exact h
  | succ i=>simp at hx⟩
theorem CellsR.agg {c:Cx} {us:List AV} {vs:Array Value} (h:CellsR c us vs.toList):Rep c (.agg us) (.agg vs)/\(AV.agg us).keys=[]:=by
 refine ⟨.agg _ _ (by simpa using h.len) (λi u hu=>(h.one u (List.mem_of_getElem? hu)).1) (λi u hu=>?_),?_⟩
 ·have:=h.rep i u hu
  rw [List.getD_eq_getElem?_getD] at this
  rw [Array.getD_eq_getD_getElem?]
  simpa using this
 ·simp only [AV.keys]
  exact jr λu hu=>(h.one u hu).2
section
variable {H:Type} (enc:TypeId×Value->H) (P:Program) (w:World) (N:Nat)
variable {α β:Type}
def Reads (n:Nat) (t:TypeId) (cl:α->List AV) (Ok:α->Prop):Prop:=
 ∀cs x,DataW.trod enc P w 0 (λ_=>true) true n t cs=some x->iv x.1<=N->∃a,CellsR (cA w) (cl a) cs/\Ok a
def rz (n:Nat) (fs:List Field) (off len:Nat) (cl:α->List AV) (Ok:α->Prop):Prop:=
 ∀ (cs:List Value) (xs:List (DataW H×List MemPlace)),xs.length=fs.length->off+len<=cs.length->
  (∀ (i:Nat) (f:Field),fs[i]?=some f->DataW.trod enc P w 0 (λ_=>true) true n f.type ((cs.drop f.offset).take (P.cellsOf f.type))=xs[i]?)->
  jG (xs.map (·.1))<=N->∃a,CellsR (cA w) (cl a) ((cs.drop off).take len)/\Ok a
variable {enc P w N}
theorem Reads.map {n:Nat} {t:TypeId} {cl:α->List AV} {Ok:α->Prop} {cl':β->List AV} {Ok':β->Prop} (h:Reads enc P w N n t cl Ok) (g:α->β) (hc:∀a,cl' (g a)=cl a) (ho:∀a,Ok a->Ok' (g a)):Reads enc P w N n t cl' Ok':=λcs x hx hb=>by
 obtain ⟨a,h1,h2⟩:=h cs x hx hb
 exact ⟨g a,by rw [hc];exact h1,ho a h2⟩
theorem tu {n:Nat} {t:TypeId} {k:IntKind} (ht:P.underlying t=some (.int k)):Reads enc P w N n t (λz:Int=>[.int k z]) (λz=>(Lit.int k z).wf=true):=λcs x hx hb=>by
 obtain ⟨z,rfl,rfl,hw⟩:=DataW.trod_int ht hx
 exact ⟨z,.wY rfl rfl (.int _ _),hw⟩
theorem rN {n off:Nat}:rz enc P w N n [] off 0 (λ_:Unit=>[]) (λ_=>True):=λcs xs _ _ _ _=>⟨(),by rw [List.take_zero];exact .nil _,trivial⟩
theorem fY {n off n1 n2:Nat} {f:Field} {fs:List Field} {cl1:α->List AV} {Ok1:α->Prop} {cl2:β->List AV} {Ok2:β->Prop} (h1:Reads enc P w N n f.type cl1 Ok1) (ho:f.offset=off) (hn:P.cellsOf f.type=n1)
  (h2:rz enc P w N n fs (off+n1) n2 cl2 Ok2):rz enc P w N n (f::fs) off (n1+n2) (λp:α×β=>cl1 p.1++cl2 p.2) (λp=>Ok1 p.1/\Ok2 p.2):=λcs xs hl hlen hx hb=>by
 cases xs with
 | nil=>simp at hl
 | cons x xs=>
  simp only [List.map_cons,jG] at hb
  have hx0:=hx 0 f rfl
  rw [ho,hn] at hx0
  obtain ⟨a,e1,e2⟩:=h1 _ x (by simpa using hx0) (by omega)
  obtain ⟨b,g1,g2⟩:=h2 cs xs (by simpa using hl) (by omega) (λi f' hf=>by simpa using hx (i+1) f' (by simpa using hf)) (by omega)
  refine ⟨(a,b),?_,e2,g2⟩
  rw [List.take_add,List.drop_drop]
  exact e1.append g1
theorem oo {n:Nat} {t:TypeId} {fs:Array Field} {sz:Nat} {cl:α->List AV} {Ok:α->Prop} (ht:P.underlying t=some (.struct fs)) (hz:P.cellsOf t=sz) (h:∀m,n=m+1->rz enc P w N m fs.toList 0 sz cl Ok):Reads enc P w N n t cl Ok:=λcs x hx hb=>by
 obtain ⟨xs,m,rfl,rfl,hl,hxl,hf⟩:=DataW.trod_struct ht hx
 simp only [iv] at hb
 obtain ⟨a,h1,h2⟩:=h m rfl cs xs (by simpa using hxl) (by omega) (λi f hi=>hf i f (by simpa using hi)) (by omega)
 refine ⟨a,?_,h2⟩
 rw [List.drop_zero,List.take_of_length_le (by omega)] at h1
 exact h1
theorem pK {γ δ:Type} {f:γ->Option δ}:∀ {l:List γ} {r:List δ},l.mapM f=some r->r.length=l.length/\∀ (i:Nat) (a:γ),l[i]?=some a->f a=r[i]?
 | [],r,h=>by simp at h;subst h;simp
 | x::l,r,h=>by
  simp only [List.mapM_cons,Option.bind_eq_bind,Option.bind_eq_some_iff,Option.pure_def,Option.some.injEq] at h
  obtain ⟨y,hy,ys,hys,rfl⟩:=h
  obtain ⟨h1,h2⟩:=pK hys
  refine ⟨by simp [h1],λi a ha=>?_⟩
  cases i with
  | zero=>simp at ha;subst ha;simpa using hy
  | succ i=>simpa using h2 i a (by simpa using ha)
theorem oT {a:Addr} {n:Nat} {cs:List Value} (h:w.cells? 0 a n=some cs):cs.length=n/\∀i,i < n->w.cell? (a.add i)=cs[i]?:=by
 unfold World.cells? at h
 rw [if_pos (Nat.zero_le _)] at h
 obtain ⟨h1,h2⟩:=pK h
 refine ⟨by simpa using h1,λi hi=>?_⟩
 exact h2 i i (by simp [hi])
open Classical in
theorem pw {n:Nat} {t e:TypeId} {sz:Nat} [Inhabited α] {cl:α->List AV} {Ok:α->Prop} (get:List α->Nat->List AV) (ht:P.underlying t=some (.slice e)) (hz:P.cellsOf e=sz) (hp:0 < sz) (hlen:∀a,(cl a).length=sz)
  (hget:∀ (l:List α) j,j < l.length->get l j=cl (l.getD j default)) (h:∀m,n=m+1->Reads enc P w N m e cl Ok) :
  Reads enc P w N n t (λl:List α=>[.sl .no sz l.length (get l)]) (λl=>l.length<=maxLen/\l.length+1<=N/\∀a∈l,Ok a):=λcs x hx hb=>by
 rcases DataW.trod_slice ht hx with ⟨rfl,rfl⟩ | ⟨ad,len,cap,elems,rest,m,rfl,rfl,rfl,_,hle,hcap,hel,hat,hsp,_⟩
 ·refine ⟨[],.wY rfl rfl ?_,by simp,by simpa [iv] using hb,by simp⟩
  exact .slNil .no sz _ trivial
 ·simp only [iv] at hb
  rw [hz] at hat hsp
  have hb1:elems.length<=jG (elems.map (·.1)):=by have:=oV (elems.map (·.1));simpa using this
  have hel1:∀i,i < len->∃vs y a,elems[i]?=some y/\w.cells? 0 (ad.add (i*sz)) sz=some vs/\CellsR (cA w) (cl a) vs/\Ok a:=by
   intro i hi
   have hi':i < elems.length:=by omega
   have:=hat i hi
   rw [List.getElem?_eq_getElem hi',Option.bind_eq_some_iff] at this
   obtain ⟨vs,h1,h2⟩:=this
   have hbi:iv (elems[i]).1<=jG (elems.map (·.1)):=ry (i:=i) (by simp [List.getElem?_eq_getElem hi'])
   obtain ⟨a,h3,h4⟩:=h m rfl vs _ h2 (by omega)
   exact ⟨vs,_,a,List.getElem?_eq_getElem hi',h1,h3,h4⟩
  have hspot:0 < cap->ad.spot=none:=by
   intro hc
   have:∃vs,w.cells? 0 (ad.add (0*sz)) sz=some vs:=by
    by_cases h0:0 < len
    ·obtain ⟨vs,_,_,_,h2,_⟩:=hel1 0 h0
     exact ⟨vs,h2⟩
    ·obtain rfl:len=0:=by omega
     have h1:=(hsp rfl).2 0 (by omega)
     have h2:=(hsp rfl).1
     cases hr:rest with
     | nil=>rw [hr] at h2;simp at h2;omega
     | cons y r=>
      rw [hr] at h1
      simp only [List.getElem?_cons_zero,Option.bind_eq_some_iff] at h1
      obtain ⟨vs,h3,_⟩:=h1
      exact ⟨vs,by simpa using h3⟩
   obtain ⟨vs,h2⟩:=this
   obtain ⟨h3,h4⟩:=oT h2
   have h5:=h4 0 hp
   rw [Nat.zero_mul] at h5
   have e0:((ad.add 0).add 0)=ad:=by unfold Addr.add;simp
   rw [e0,List.getElem?_eq_getElem (by omega)] at h5
   exact World.cell?_spot h5
  let l:List α:=(List.range len).map λi=>if hi:i < len then (hel1 i hi).choose_spec.choose_spec.choose else default
  have hl:l.length=len:=by simp [l]
  have hli:∀i (hi:i < len),∃vs,w.cells? 0 (ad.add (i*sz)) sz=some vs/\CellsR (cA w) (cl (l.getD i default)) vs/\Ok (l.getD i default):=by
   intro i hi
   have e:l.getD i default=(hel1 i hi).choose_spec.choose_spec.choose:=by
    simp [l,List.getD,hi]
   rw [e]
   exact ⟨_,(hel1 i hi).choose_spec.choose_spec.choose_spec.2⟩
  have hadd:∀i,i < len->∀q,q < sz->(ad.add (i*sz)).add q=⟨ad.block,ad.off+(i*sz+q),none⟩:=by
   intro i hi q _
   have hs:=hspot (by omega)
   obtain ⟨b,o,sp⟩:=ad
   simp only at hs
   subst hs
   unfold Addr.add
   by_cases c1:i*sz=0
   ·by_cases c2:q=0 <;> simp [c1,c2]
   ·by_cases c2:q=0 <;> simp [c1,c2,Nat.add_assoc]
  refine ⟨l,.wY rfl rfl ?_,by omega,by omega,λa ha=>?_⟩
  ·rw [hl]
   have hgl:∀j,j < len->get l j=cl (l.getD j default):=λj hj=>hget l j (by omega)
   have hcell:∀ (j i:Nat) (u:AV),j < len->(get l j)[i]?=some u->∃v,w.cell? ⟨ad.block,ad.off+(j*sz+i),none⟩=some v/\Rep (cA w) u v:=by
    intro j i u hj hu
    rw [hgl j hj] at hu
    obtain ⟨vs,h1,h2,_⟩:=hli j hj
    obtain ⟨g1,g2⟩:=oT h1
    have hi:i < sz:=by have:=(List.getElem?_eq_some_iff.1 hu).1;rw [hlen] at this;exact this
    have g3:=g2 i hi
    rw [hadd j hj i hi,List.getElem?_eq_getElem (by omega)] at g3
    refine ⟨_,g3,?_⟩
    have:=h2.rep i u hu
    rwa [List.getD_eq_getElem?_getD,List.getElem?_eq_getElem (by omega)] at this
   refine .sl .no sz len (get l) ad cap (λj i=>(w.cell? ⟨ad.block,ad.off+(j*sz+i),none⟩).getD undef) hspot hle trivial (λj hj=>?_) (λj i u hj hu=>?_) (λj i u hj hu=>?_)
   ·rw [hgl j hj]
    obtain ⟨vs,_,h2,_⟩:=hli j hj
    exact ⟨hlen _,jr λu hu=>(h2.one u hu).2⟩
   ·obtain ⟨v,h1,_⟩:=hcell j i u hj hu
    have hone:u.one=true:=by
     rw [hgl j hj] at hu
     obtain ⟨vs,_,h2,_⟩:=hli j hj
     exact (h2.one u (List.mem_of_getElem? hu)).1
    refine ⟨hone,?_,v,h1⟩
    show w.cell? _=_
    rw [h1];rfl
   ·obtain ⟨v,h1,h2⟩:=hcell j i u hj hu
    rw [h1];exact h2
  ·obtain ⟨i,hi,rfl⟩:=List.getElem_of_mem ha
   obtain ⟨_,_,_,h4⟩:=hli i (by omega)
   rwa [List.getD_eq_getElem?_getD,List.getElem?_eq_getElem hi] at h4
end
end Go.Ab

namespace Go.Ab
open Go Go.RowKit
section
variable {H:Type} (enc:TypeId×Value->H) (P:Program) (w:World) (held:Bool)
def RX (t:TypeId) (d:DataW H) (us:List AV):Prop:=
 us.length=P.cellsOf t/\∀n cs p,DataW.trod enc P w 0 (λ_=>true) held n t cs=some (d,p)->CellsR (cA w) us cs
variable {enc P w held}
theorem s9 {t:TypeId} {k:IntKind} {z:Int} (ht:P.underlying t=some (.int k)) (hc:P.cellsOf t=1):RX enc P w held t (.lit (.int k z)) [.int k z]:=⟨hc.symm,λn cs p h=>by
 obtain ⟨z',rfl,hx,_⟩:=DataW.trod_int ht h
 simp only [Prod.mk.injEq,DataW.lit.injEq,Lit.int.injEq,true_and] at hx
 obtain ⟨rfl,_⟩:=hx
 exact .wY rfl rfl (.int _ _)⟩
theorem qC {t:TypeId} {ms:Array (String×TypeId)} {nm:String} {d:DataW H} (ht:P.underlying t=some (.interface ms)) (hc:P.cellsOf t=1):RX enc P w held t (.iface nm d) [.nni]:=⟨hc.symm,λn cs p h=>by
 cases n with
 | zero=>simp [DataW.trod] at h
 | succ n=>
  unfold DataW.trod at h
  rw [ht] at h
  split at h <;> simp_all
  exact .wY rfl rfl (.nni _ _)⟩
theorem ta {c:Cx} {cs:List Value} {sz:Nat}:∀ (us:List (List AV)) (k:Nat),(∀ (i:Nat) (u:List AV),us[i]?=some u->CellsR c u ((cs.drop ((k+i)*sz)).take sz)/\u.length=sz)->cs.length=(k+us.length)*sz->CellsR c us.flatten (cs.drop (k*sz))
 | [],k,_,hl=>by
  rw [List.drop_eq_nil_of_le (by simp at hl;omega)]
  exact .nil _
 | u::us,k,h,hl=>by
  have h0:=h 0 u rfl
  have ih:=ta us (k+1) (λi v hv=>by
   have:=h (i+1) v (by simpa using hv)
   rwa [show k+(i+1)=k+1+i by omega] at this) (by rw [hl];simp only [List.length_cons];congr 1;omega)
  have e:cs.drop (k*sz)=(cs.drop (k*sz)).take sz++cs.drop ((k+1)*sz):=by
   rw [show (k+1)*sz=k*sz+sz by rw [Nat.add_mul,Nat.one_mul],<-List.drop_drop,List.take_append_drop]
  rw [e,List.flatten_cons]
  exact h0.1.append ih
theorem qD {t e:TypeId} {m sz:Nat} {ds:List (DataW H)} {us:List (List AV)} (ht:P.underlying t=some (.array m e)) (he:P.cellsOf e=sz) (hc:P.cellsOf t=m*sz) (hl:us.length=m)
  (h:∀ (i:Nat) (d:DataW H) (u:List AV),ds[i]?=some d->us[i]?=some u->RX enc P w held e d u) (hd:ds.length=m):RX enc P w held t (.agg ds) us.flatten:=by
 have hu:∀ (i:Nat) (u:List AV),us[i]?=some u->u.length=sz:=λi u hi=>by
  have hlt:=(List.getElem?_eq_some_iff.1 hi).1
  rw [(h i (ds[i]'(by omega)) u (List.getElem?_eq_getElem _) hi).1,he]
 refine ⟨?_,λn cs p hx=>?_⟩
 ·rw [hc,List.length_flatten,<-hl]
  have:∀l:List (List AV),(∀ (i:Nat) (u:List AV),l[i]?=some u->u.length=sz)->(l.map List.length).sum=l.length*sz:=by
   intro l
   induction l with
   | nil=>intro _;simp
   | cons a r ih=>
    intro h
    have h0:=h 0 a rfl
    have h1:=ih λi u hi=>h (i+1) u (by simpa using hi)
    simp only [List.map_cons,List.sum_cons,h1,h0,List.length_cons,Nat.add_mul,Nat.one_mul];omega
  exact this us hu
 ·cases n with
  | zero=>simp [DataW.trod] at hx
  | succ n=>
   simp only [DataW.trod,ht,he,hc] at hx
   split at hx
   ·rename_i hcl
    obtain ⟨xs,hm,hxe⟩:=Option.map_eq_some_iff.1 hx
    have hxs:xs.map (·.1)=ds:=by
     have:=congrArg Prod.fst hxe
     simpa using this
    obtain ⟨hxl,hat⟩:=pK hm
    have hxl:xs.length=m:=by simpa using hxl
    have:=ta (c:=cA w) (cs:=cs) (sz:=sz) us 0 (λi u hi=>by
     have hlt:=(List.getElem?_eq_some_iff.1 hi).1
     have hlt2:i < xs.length:=by omega
     have hf:=hat i i (List.getElem?_range (by omega))
     rw [List.getElem?_eq_getElem hlt2] at hf
     have hdi:ds[i]?=some (xs[i]'hlt2).1:=by
      have:=congrArg (·[i]?) hxs
      simp only [List.getElem?_map,List.getElem?_eq_getElem hlt2,Option.map_some] at this
      exact this.symm
     refine ⟨?_,hu i u hi⟩
     rw [Nat.zero_add]
     exact (h i _ u hdi hi).2 n _ (xs[i]'hlt2).2 hf) (by rw [hcl,Nat.zero_add,hl])
    simpa using this
   ·cases hx
theorem yi {t:TypeId} {f0 f1:Field} {d0 d1:DataW H} {u0 u1:List AV} (ht:P.underlying t=some (.struct #[f0,f1])) (h0:RX enc P w held f0.type d0 u0) (h1:RX enc P w held f1.type d1 u1) (o0:f0.offset=0) (o1:f1.offset=P.cellsOf f0.type) (hc:P.cellsOf t=P.cellsOf f0.type+P.cellsOf f1.type) :
  RX enc P w held t (.agg [d0,d1]) (u0++u1):=by
 refine ⟨by rw [List.length_append,h0.1,h1.1,hc],λn cs p hx=>?_⟩
 obtain ⟨xs,m,rfl,hxe,hl,hxl,hf⟩:=DataW.trod_struct ht hx
 match xs,hxl with
 | [y0,y1],_=>
  simp only [List.map_cons,List.map_nil,Prod.mk.injEq,DataW.agg.injEq,List.cons.injEq,and_true] at hxe
  obtain ⟨⟨rfl,rfl⟩,_⟩:=hxe
  have a0:=hf 0 f0 rfl
  have a1:=hf 1 f1 rfl
  rw [o0,List.drop_zero] at a0
  rw [o1] at a1
  have b0:=h0.2 m _ y0.2 a0
  have b1:=h1.2 m _ y1.2 a1
  have e:cs=cs.take (P.cellsOf f0.type)++(cs.drop (P.cellsOf f0.type)).take (P.cellsOf f1.type):=by
   rw [List.take_of_length_le (l:=cs.drop (P.cellsOf f0.type)) (by rw [List.length_drop];omega),List.take_append_drop]
  rw [e]
  exact b0.append b1
theorem wL {t e:TypeId} {m:Nat} {k:IntKind} {zs:List Int} (ht:P.underlying t=some (.array m e)) (he:P.underlying e=some (.int k)) (hc:P.cellsOf e=1) (hct:P.cellsOf t=m) (hl:zs.length=m) :
  RX enc P w held t (.agg (zs.map λz=>.lit (.int k z))) (zs.map λz=>.int k z):=by
 have:=qD (enc:=enc) (P:=P) (w:=w) (held:=held) (ds:=zs.map λz=>(.lit (.int k z):DataW H)) (us:=zs.map λz=>[AV.int k z]) ht hc (by rw [hct,Nat.mul_one]) (by simpa using hl) (λi d u hd hu=>by
  rw [List.getElem?_map,Option.map_eq_some_iff] at hd hu
  obtain ⟨z,hz,rfl⟩:=hd
  obtain ⟨z',hz',rfl⟩:=hu
  obtain rfl:z=z':=by rw [hz] at hz';exact Option.some.inj hz'
  exact s9 he hc) (by simpa using hl)
 rwa [show (zs.map λz=>[AV.int k z]).flatten=zs.map λz=>AV.int k z by induction zs with
  | nil=>rfl
  | cons a r ih=>rw [List.map_cons,List.flatten_cons,List.map_cons,List.singleton_append];congr 1;clear hl this ih;induction r with
   | nil=>rfl
   | cons b q ih=>rw [List.map_cons,List.flatten_cons,ih];rfl] at this
end
theorem tV {P:Program} {w:World}:∀ {laid:List (String×DataW Unit)} {ps:List MemPlace},DataW.LaidVars P w laid ps->∀ {nm:String} {d:DataW Unit},(nm,d)∈laid->
  ∃g t cs fuel p,P.globalNamed nm=some g/\(P.globals[g]?).map (·.type)=some t/\w.var? P nm=some cs/\DataW.trod (λ_=>()) P w 0 (λ_=>true) false fuel t cs.toList=some (d,p)
 | [],_,_,_,_,hm=>by simp at hm
 | (n0,d0)::r,ps,h,nm,d,hm=>by
  obtain ⟨g,t,cs,fuel,p,q,h1,h2,h3,h4,h5,_⟩:=h
  rcases List.mem_cons.1 hm with e | hm
  ·simp only [Prod.mk.injEq] at e
   obtain ⟨rfl,rfl⟩:=e
   exact ⟨g,t,cs,fuel,p,h1,h2,h3,h4⟩
  ·exact tV h5 hm
theorem om {w:World} {g:Nat} {us:List AV} {cs:Array Value} (hv:∀i,w.cell? ⟨g,i,none⟩=cs[i]?) (h:CellsR (cA w) us cs.toList):Rep (cA w) (.elt us 0) (.pointer (some ⟨g,0,none⟩)):=by
 have hi:∀ (i:Nat) (u:AV),us[i]?=some u->∃v,cs[i]?=some v/\Rep (cA w) u v:=λi u hu=>by
  have hlt:=(List.getElem?_eq_some_iff.1 hu).1
  have hlt':i < cs.size:=by have:=h.len;simp at this;omega
  refine ⟨cs[i],Array.getElem?_eq_getElem hlt',?_⟩
  have:=h.rep i u hu
  rwa [List.getD_eq_getElem?_getD,Array.getElem?_toList,Array.getElem?_eq_getElem hlt'] at this
 refine .elt us 0 g 0 (λi=>(cs[i]?).getD undef) (jr λu hu=>(h.one u hu).2) (λi u hu=>?_) (λi u hu=>?_)
 ·obtain ⟨v,h1,h2⟩:=hi i u hu
  rw [Nat.zero_add]
  refine ⟨(h.one u (List.mem_of_getElem? hu)).1,?_,v,?_⟩
  ·show w.cell? _=_
   rw [hv,h1];rfl
  ·rw [hv,h1]
 ·obtain ⟨v,h1,h2⟩:=hi i u hu
  rw [h1];exact h2
theorem fV {P:Program} {w:World} {laid:List (String×DataW Unit)} (h:laidMet P laid w) {nm:String} {d:DataW Unit} {g:Nat} {t:TypeId} {us:List AV} (hm:(nm,d)∈laid) (hg:P.globalNamed nm=some g) (ht:(P.globals[g]?).map (·.type)=some t)
  (hr:RX (λ_=>()) P w false t d us):Rep (cA w) (.elt us 0) (.pointer (some ⟨g,0,none⟩)):=by
 obtain ⟨ps,hl,_⟩:=h
 obtain ⟨g',t',cs,fuel,p,h1,h2,h3,h4⟩:=tV hl hm
 obtain rfl:=Option.some.inj (hg.symm.trans h1)
 obtain rfl:=Option.some.inj (ht.symm.trans h2)
 exact om (λi=>World.var?_cell h1 h3 i) (hr.2 fuel _ p h4)
theorem nC {P:Program} {G:Nat->Option (List AV)} {f:FuncId} {l:List AV} {os:List AO} {xs:List Value} {w:World} (hg:∀g cs,G g=some cs->Rep (cA w) (.elt cs 0) (.pointer (some ⟨g,0,none⟩))) (h:Ct P G f l [] (.bool true,os)) (hs:uH w l xs) :
  Calls P f xs.toArray w λe w'=>e=.returned (.bool true)/\Below w.heap.size w w':=by
 obtain ⟨h1,h2,h3⟩:=hs.spec
 refine (h.1 (cA w) xs.toArray ⟨λ_ _ h=>.inl h,hg⟩ (n6 w) (by simpa using h1) (λi u hu=>?_) (by rw [h2];simp)).mono ?_
 ·have:=h3 i u hu
  simpa [Array.getD_eq_getD_getElem?,List.getD_eq_getElem?_getD] using this
 ·rintro e w' ⟨c',x,rfl,rfl,_,hF,_,hr,_,_⟩
  cases hr
  refine ⟨rfl,hF.os,hF.tape,hF.output,hF.size,λb hb=>hF.block b hb ?_⟩
  rintro ⟨k,o,ho,_⟩
  simp [af,alook] at ho
end Go.Ab

namespace Go.Ab
open Go Go.RowKit
section
variable {H:Type} {enc:TypeId×Value->H} {P:Program} {w:World} {held:Bool}
end
end Go.Ab

namespace Go.WF
open Go Go.Ab Go.Proofs Go.RowKit Go.Proofs.YtmaledpldlbfmaaGreatDoor
def dints:List (DataW Unit)->List Int
 | .lit (.int _ z)::r=>z::dints r
 | _=>[]
def dpairs:List (DataW Unit)->List (Int×Int)
 | .agg [.lit (.int _ y),.lit (.int _ z)]::r=>(y,z)::dpairs r
 | _=>[]
def parts:DataW Unit->List (DataW Unit)
 | .agg ds=>ds
 | _=>[]
theorem qE {w:World} {t e:TypeId} {m:Nat} {k:IntKind} {d:DataW Unit} (ht:Tryz.prog.underlying t=some (.array m e)) (he:Tryz.prog.underlying e=some (.int k)) (h1:Tryz.prog.cellsOf e=1) (h2:Tryz.prog.cellsOf t=m) (hd:d=.agg ((dints (parts d)).map λz=>.lit (.int k z))) (hl:(dints (parts d)).length=m) (hc:dcells d=(dints (parts d)).map λz=>.int k z):Go.Ab.RX (λ_=>()) Tryz.prog w false t d (dcells d):=by
 rw [hc]
 have:=wL (enc:=λ_=>()) (P:=Tryz.prog) (w:=w) (held:=false) (zs:=dints (parts d)) ht he h1 h2 hl
 rwa [<-hd] at this
theorem u7 {w:World} {d:DataW Unit} (hd:d=.agg ((dpairs (parts d)).map λp=>.agg [.lit (.int .u8 p.1),.lit (.int .u8 p.2)])) (hl:(dpairs (parts d)).length=16) (hc:dcells d=((dpairs (parts d)).map λp=>[AV.int .u8 p.1]++[AV.int .u8 p.2]).flatten):Go.Ab.RX (λ_=>()) Tryz.prog w false 435 d (dcells d):=by
 rw [hc]
 have:=qD (enc:=λ_=>()) (P:=Tryz.prog) (w:=w) (held:=false) (t:=435) (e:=434) (m:=16) (sz:=2) (ds:=(dpairs (parts d)).map λp=>.agg [.lit (.int .u8 p.1),.lit (.int .u8 p.2)]) (us:=(dpairs (parts d)).map λp=>[AV.int .u8 p.1]++[AV.int .u8 p.2]) Tryz.underlying435 (by kernel_rfl) (by kernel_rfl) (by simpa using hl) (λi d u hd hu=>by
  rw [List.getElem?_map,Option.map_eq_some_iff] at hd hu
  obtain ⟨z,hz,rfl⟩:=hd
  obtain ⟨z',hz',rfl⟩:=hu
  obtain rfl:z=z':=by rw [hz] at hz';exact Option.some.inj hz'
  exact yi Tryz.underlying434 (s9 Tryz.underlying5 (by kernel_rfl)) (s9 Tryz.underlying5 (by kernel_rfl)) rfl (by kernel_rfl) (by kernel_rfl)) (by simpa using hl)
 rwa [<-hd] at this
set_option maxRecDepth 100000 in
theorem pG {w:World} (h:w.ShapedOpen Tryz.prog):Rep (cA w) (.elt [.num .i64] 0) (.pointer (some ⟨4,0,none⟩)):=by
 obtain ⟨cs,h1,h2,h3⟩:=h.1 4 #[.int .i64 0] 3 (of_decide_eq_true (by kernel_rfl)) (by kernel_rfl)
 obtain ⟨ts,e1,e2,e3⟩:=h3 (by kernel_rfl)
 have e0:Tryz.prog.cellTypes Tryz.prog.depth 3=some [3]:=by kernel_rfl
 rw [e0] at e1
 obtain rfl:=Option.some.inj e1
 have hlt:0 < cs.size:=by rw [h2];decide
 obtain ⟨u,hu,hok⟩:=e3 0 cs[0] (Array.getElem?_eq_getElem hlt)
 simp only [List.length_singleton,Nat.mod_one,List.getElem?_cons_zero,Option.some.injEq] at hu
 subst hu
 unfold Cell.ok at hok
 rw [show Tryz.prog.underlying 3=some (.int .i64) from Tryz.underlying3] at hok
 have hcell:∀i,w.cell? ⟨4,i,none⟩=cs[i]?:=λi=>by
  unfold World.cell?
  simp [h1]
 refine om hcell ⟨by simpa using h2,λu hu=>by simp at hu;subst hu;exact ⟨rfl,rfl⟩,λi u hu=>?_⟩
 cases i with
 | succ i=>simp at hu
 | zero=>
  simp at hu;subst hu
  rw [List.getD_eq_getElem?_getD,Array.getElem?_toList,Array.getElem?_eq_getElem hlt]
  show Rep _ _ cs[0]
  generalize cs[0]=v at hok ⊢
  cases v with
  | int k n=>obtain ⟨rfl,_⟩:=hok;exact .num _ _
  | _=>simp at hok
theorem vx {w:World} {laid:List (String×DataW Unit)} (h:laidMet Tryz.prog laid w) (ho:w.ShapedOpen Tryz.prog)
  (m11:("math/bits.deBruijn64tab",Rows.laid_math_bits_deBruijn64tab)∈laid)
  (m9:("internal/strconv.uint64pow10",Rows.laid_internal_strconv_uint64pow10)∈laid)
  (m5:("unicode/utf8.first",Rows.laid_unicode_utf8_first)∈laid)
  (m6:("unicode/utf8.acceptRanges",Rows.laid_unicode_utf8_acceptRanges)∈laid)
  (m2:("strings.asciiSpace",Rows.laid_strings_asciiSpace)∈laid)
  (m7:("strconv.ErrSyntax",Rows.laid_strconv_ErrSyntax)∈laid)
  (m8:("strconv.ErrRange",Rows.laid_strconv_ErrRange)∈laid) :
  ∀g cs,glb g=some cs->Rep (cA w) (.elt cs 0) (.pointer (some ⟨g,0,none⟩)):=by
 intro g cs hg
 unfold glb at hg
 by_cases h11:g=11
 ·subst h11
  obtain rfl:=Option.some.inj hg
  exact fV h m11 (by kernel_rfl) (by kernel_rfl) (qE (k:=.u8) Tryz.underlying467 Tryz.underlying5 (by kernel_rfl) (by kernel_rfl) (by kernel_rfl) (by kernel_rfl) (by kernel_rfl))
 rw [gA h11,cond_false] at hg
 by_cases h9:g=9
 ·subst h9
  obtain rfl:=Option.some.inj hg
  exact fV h m9 (by kernel_rfl) (by kernel_rfl) (qE (k:=.u64) Tryz.underlying464 Tryz.underlying178 (by kernel_rfl) (by kernel_rfl) (by kernel_rfl) (by kernel_rfl) (by kernel_rfl))
 rw [gA h9,cond_false] at hg
 by_cases h5:g=5
 ·subst h5
  obtain rfl:=Option.some.inj hg
  exact fV h m5 (by kernel_rfl) (by kernel_rfl) (qE (k:=.u8) Tryz.underlying282 Tryz.underlying5 (by kernel_rfl) (by kernel_rfl) (by kernel_rfl) (by kernel_rfl) (by kernel_rfl))
 rw [gA h5,cond_false] at hg
 by_cases h6:g=6
 ·subst h6
  obtain rfl:=Option.some.inj hg
  exact fV h m6 (by kernel_rfl) (by kernel_rfl) (u7 (by kernel_rfl) (by kernel_rfl) (by kernel_rfl))
 rw [gA h6,cond_false] at hg
 by_cases h2:g=2
 ·subst h2
  obtain rfl:=Option.some.inj hg
  exact fV h m2 (by kernel_rfl) (by kernel_rfl) (qE (k:=.u8) Tryz.underlying282 Tryz.underlying5 (by kernel_rfl) (by kernel_rfl) (by kernel_rfl) (by kernel_rfl) (by kernel_rfl))
 rw [gA h2,cond_false] at hg
 by_cases h4:g=4
 ·subst h4
  obtain rfl:=Option.some.inj hg
  exact pG ho
 rw [gA h4,cond_false] at hg
 by_cases h7:g=7
 ·subst h7
  obtain rfl:=Option.some.inj hg
  exact fV h m7 (by kernel_rfl) (by kernel_rfl) (qC Tryz.underlying252 (by kernel_rfl))
 rw [gA h7,cond_false] at hg
 by_cases h8:g=8
 ·subst h8
  obtain rfl:=Option.some.inj hg
  exact fV h m8 (by kernel_rfl) (by kernel_rfl) (qC Tryz.underlying252 (by kernel_rfl))
 rw [gA h8,cond_false] at hg
 cases hg
section
variable {H:Type} {enc:TypeId×Value->H} {w:World} {N:Nat}
def fP (z:Int):Prop:=0<=z/\z < 256
theorem qO (n:Nat):Reads enc Tryz.prog w N n 5 (λz:Int=>[.int .u8 z]) fP:=(tu Tryz.underlying5).map id (λ_=>rfl) λz h=>by
 simp [Lit.wf,IntKind.min,IntKind.max,IntKind.signed,IntKind.bits] at h
 exact ⟨h.1,by show z < 256;omega⟩
abbrev VI:Type:=Int×Int×Int×Int
def viC (p:VI):List AV:=[.int .u8 p.1,.int .u8 p.2.1,.int .u8 p.2.2.1,.int .u8 p.2.2.2]
def uU (p:VI):Prop:=fP p.1/\fP p.2.1/\fP p.2.2.1/\fP p.2.2.2
theorem CI (n:Nat):Reads enc Tryz.prog w N n 136 viC uU:=
 (oo (sz:=1+(1+(1+(1+0)))) Tryz.underlying136 (by kernel_rfl) λm _=>fY (qO m) rfl (by kernel_rfl) (fY (qO m) rfl (by kernel_rfl) (fY (qO m) rfl (by kernel_rfl) (fY (qO m) rfl (by kernel_rfl) rN)))).map (λp=>((p.1,p.2.1,p.2.2.1,p.2.2.2.1):VI)) (λ_=>rfl) λp h=>⟨h.1,h.2.1,h.2.2.1,h.2.2.2.1⟩
def xZ (l:List VI):AV:=.sl .no 4 l.length λj=>viC (l.getD j (0,0,0,0))
theorem z1 (n:Nat):Reads enc Tryz.prog w N n 67 (λl:List VI=>[xZ l]) (λl=>∀p∈l,uU p):=
 (pw (e:=136) (sz:=4) (α:=VI) (cl:=viC) (Ok:=uU) (λl j=>viC (l.getD j (0,0,0,0))) Tryz.underlying67 (by kernel_rfl) (by omega) (λ_=>rfl) (λl j h=>by rw [List.getD_eq_getElem?_getD,List.getD_eq_getElem?_getD,List.getElem?_eq_getElem h];rfl) (λm _=>CI m)).map id (λ_=>rfl) λl h=>h.2.2
end
def toV (p:VI):VSX:=⟨p.1.toNat,p.2.1.toNat,p.2.2.1.toNat,p.2.2.2.toNat⟩
theorem zK {p:VI} (h:uU p):(toV p).c=viC p:=by
 obtain ⟨h1,h2,h3,h4⟩:=h
 unfold fP at h1 h2 h3 h4
 show [AV.int .u8 ((p.1.toNat:Nat):Int),AV.int .u8 ((p.2.1.toNat:Nat):Int),AV.int .u8 ((p.2.2.1.toNat:Nat):Int),AV.int .u8 ((p.2.2.2.toNat:Nat):Int)]=_
 rw [Int.toNat_of_nonneg h1.1,Int.toNat_of_nonneg h2.1,Int.toNat_of_nonneg h3.1,Int.toNat_of_nonneg h4.1]
 rfl
theorem x5:uU (0,0,0,0):=⟨⟨Int.le_refl 0,by decide⟩,⟨Int.le_refl 0,by decide⟩,⟨Int.le_refl 0,by decide⟩,⟨Int.le_refl 0,by decide⟩⟩
theorem uT {l:List VI} (h:∀p∈l,uU p) (j:Nat):uU (l.getD j (0,0,0,0))/\(l.map toV).getD j default=toV (l.getD j (0,0,0,0)):=by
 by_cases hj:j < l.length
 ·rw [List.getD_eq_getElem?_getD,List.getD_eq_getElem?_getD,List.getElem?_map,List.getElem?_eq_getElem hj]
  exact ⟨h _ (List.getElem_mem hj),rfl⟩
 ·rw [List.getD_eq_getElem?_getD,List.getD_eq_getElem?_getD,List.getElem?_map,List.getElem?_eq_none (by omega)]
  exact ⟨x5,rfl⟩
theorem wy {l:List VI} (h:∀p∈l,uU p):xZ l=vsA (l.map toV):=by
 unfold xZ vsA
 rw [List.length_map]
 congr 1
 funext j
 rw [(uT h j).2,zK (uT h j).1]
theorem vo {sa ho cu on tw:Int} {l:List VI} {a b t:Int} (h1:fP ho) (h2:0<=on/\on < 65536) (h:∀p∈l,uU p) (ha:fP a) (hb:fP b) (ht:fP t):Ct prog glb cR [.agg [.int .u8 sa,.int .u8 ho,.int .u16 cu,.int .u16 on,.int .u16 tw],xZ l,.int .u8 a,.int .u8 b,.int .u8 t] [] (.bool true,[]):=by
 unfold fP at h1 ha hb ht
 rw [wy h]
 have:=wE sa ho cu on tw (l.map toV) a.toNat b.toNat t.toNat h1.1 h1.2 h2.1 h2.2 (λj=>by
  rw [(uT h j).2]
  obtain ⟨g1,g2,g3,g4⟩:=(uT h j).1
  unfold fP at g1 g2 g3 g4
  exact ⟨by show (l.getD j (0,0,0,0)).2.1.toNat < 256;omega,by show (l.getD j (0,0,0,0)).2.2.1.toNat < 256;omega,by show (l.getD j (0,0,0,0)).2.2.2.toNat < 256;omega⟩) (by omega) (by omega)
 rw [Int.toNat_of_nonneg ha.1,Int.toNat_of_nonneg hb.1,Int.toNat_of_nonneg ht.1] at this
 exact this.ctE
theorem sX {P:Program} {H:Type} {enc:TypeId×Value->H} {W:World} {base:Nat} {t e:TypeId} {v:Value} {d:DataW H} {p:List MemPlace} {α:Type} {cl:α->AV} {Ok:α->Prop} (hs:P.underlying t=some (.slice e))
  (hv:Value.okWide P W .any base t v) (h:DataW.Trod enc P W 0 (λ_=>true) true t v d p) {N:Nat} (hr:∀n,Reads enc P W N n t (λa=>[cl a]) Ok) (hb:iv d<=N) :
  ∃a,Ok a/\Rep (cA W) (cl a) v/\(cl a).keys=[]:=by
 obtain ⟨a,len,cap,rfl⟩:=Go.WideShapes.okWide_slice hs hv
 obtain ⟨n,hn⟩:=h
 obtain ⟨x,h1,h2⟩:=hr n (Value.slice a len cap).cells.toList (d,p) hn hb
 refine ⟨x,h2,?_,(h1.one _ (by simp)).2⟩
 simpa [Value.cells] using h1.rep 0 _ rfl
end Go.WF
