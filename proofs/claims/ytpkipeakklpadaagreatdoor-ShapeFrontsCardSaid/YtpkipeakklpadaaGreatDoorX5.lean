/- Plain data and plain laws of the trunk (SPh .. SPq): taken out of the older texts by plain.py, repair.py, joinp.py. The draws: values, keys. The draws: keys. The draws: one number known, others not. The draws: conditions. The draws: splits, Serves. A store of nodes: tops, sides. A store of nodes: Node. A store of nodes: what a diagram contains. A store of nodes: reach, Leaves, condition. A store of nodes: reach, Leaves. A store of nodes: condition, choose, Choose, And, Or, Not. A store of nodes: Choose, And, Or, Not. Conditions compared: some answer. Index. Condition. AddAtoms. RuleAtoms, New. Unreachable. Sets of buckets: Set. Sets of buckets: Spans. Sets of buckets: Union, Minus, Common. Sets of buckets: later, Protected. Has; LayerOf, FlagOf; lists of spans, however they are given. Lists of texts: Has, Add. Keys; Type, fits, Serve. refers, Refers; Edges, FlagNeeds. FlagNeeds. flagstoneref9: Needs, Cyclic; least. flagstoneref9.Expr. flagstoneref14: First, Taken, Free. Loops that look at one place after another and stop at the first that says so. flagstoneref1: Word, Key, Valid. flagstoneref1.ParseNumber. -/
import Derived.Test.YtpkipeakklpadaaGreatDoorX4
import Derived.ProofKit
import Derived.Lay
import Derived.LaidOnce
import Derived.OpenShut
import Derived.Below
import Derived.ChangeOld
import Derived.SevenTiedAt
import Derived.Deep.DeepHandedRow
import Derived.Deep.DeepWitnessRowRef
set_option linter.unusedVariables false
set_option linter.unusedSimpArgs false
namespace Go.SO
open Go Go.Ab Go.Proofs Go.SH
open Go.SM hiding K1 LO NV PV QI QS S1 S2 S3 XS cF ew cT dI eA gK1 kA kI kO kP bB mA eo nA nO nP ek rZ sA sP spA svI vA vK1 wA xA zA φC φD φI φN φP φR φS φT φX
structure G5V where
 F:Option RW
 C:CODES
 i:Nat
end Go.SO
namespace Go.SO
open Go Go.Ab Go.Proofs Go.SH
open Go.SM hiding K1 LO NV PV QI QS S1 S2 S3 XS cF ew cT dI eA gK1 kA kI kO kP bB mA eo nA nO nP ek rZ sA sP spA svI vA vK1 wA xA zA φC φD φI φN φP φR φS φT φX
def zX:List AV:=[.str [],.str [],.str [],.str [],.int .i64 0,lY,lY,.int .i64 0,.str [],.str [],lY,lY]
def xcX (x:EXPT) (a:AV):List AV:=[.str x.key,.str x.layer,.str x.flag,.str x.salt,.int .i64 x.status,a,mP x.arms,.int .i64 x.when.op,.str x.when.kind,.str x.when.name,iP x.when.vals,exL x.when.kids]
def LL (x:EXPT) (y:YO) (k:Ex->St->Res):Res:=k (.exit 1) {env:=[(3,.ref 3 0),(4,.ref 4 0)],objs:=[(3,.cells (xcX x (.sl (.key 64) 2 y.r.n y.r.g))),(4,.cells zX),(64,.own 2 y.r.n),(aa,aO y.C)]}
end Go.SO
namespace Go.SO
open Go Go.Ab Go.Proofs Go.SH
open Go.SM hiding K1 LO NV PV QI QS S1 S2 S3 XS cF ew cT dI eA gK1 kA kI kO kP bB mA eo nA nO nP ek rZ sA sP spA svI vA vK1 wA xA zA φC φD φI φN φP φR φS φT φX
end Go.SO
namespace Go.SO
open Go Go.Ab Go.Proofs Go.SH
open Go.SM hiding K1 LO NV PV QI QS S1 S2 S3 XS cF ew cT dI eA gK1 kA kI kO kP bB mA eo nA nO nP ek rZ sA sP spA svI vA vK1 wA xA zA φC φD φI φN φP φR φS φT φX
end Go.SO
namespace Go.SO
open Go Go.Ab Go.Proofs Go.SH
open Go.SM hiding K1 LO NV PV QI QS S1 S2 S3 XS cF ew cT dI eA gK1 kA kI kO kP bB mA eo nA nO nP ek rZ sA sP spA svI vA vK1 wA xA zA φC φD φI φN φP φR φS φT φX
structure F5V where
 r:RW
 C:CODES
end Go.SO
namespace Go.SO
open Go Go.Ab Go.Proofs Go.SH
open Go.SM hiding K1 LO NV PV QI QS S1 S2 S3 XS cF ew cT dI eA gK1 kA kI kO kP bB mA eo nA nO nP ek rZ sA sP spA svI vA vK1 wA xA zA φC φD φI φN φP φR φS φT φX
end Go.SO
namespace Go.SO
open Go Go.Ab Go.Proofs Go.SH
open Go.SM hiding K1 LO NV PV QI QS S1 S2 S3 XS cF ew cT dI eA gK1 kA kI kO kP bB mA eo nA nO nP ek rZ sA sP spA svI vA vK1 wA xA zA φC φD φI φN φP φR φS φT φX
end Go.SO
namespace Go.SO
open Go Go.Ab Go.Proofs Go.SH
open Go.SM hiding K1 LO NV PV QI QS S1 S2 S3 XS cF ew cT dI eA gK1 kA kI kO kP bB mA eo nA nO nP ek rZ sA sP spA svI vA vK1 wA xA zA φC φD φI φN φP φR φS φT φX
end Go.SO
namespace Go.SH
open Go Go.Ab Go.Proofs Go.RowKit
section
variable {H:Type} {enc:TypeId×Value->H} {w:World}
def txt (s:List UInt8):Prop:=s.length<=1048575
theorem txt.len {s:List UInt8} (h:txt s):hJ s:=by unfold txt at h;unfold hJ Eu;omega
end
end Go.SH
namespace Go.SH
end Go.SH
namespace Go.SH
section
variable {H:Type} {enc:TypeId×Value->H} {w:World} {N:Nat}
def Ia (z:Int):Prop:=0<=z/\z < 256
end
end Go.SH
namespace Go.Proofs.YtnldpiohcmgkdaaGreatDoor
end Go.Proofs.YtnldpiohcmgkdaaGreatDoor
namespace Go.Proofs.YtnldpiohcmgkdaaGreatDoor
end Go.Proofs.YtnldpiohcmgkdaaGreatDoor

namespace Go.T
open Go Go.Ab Go.Proofs Go.SH
def φV (x:VAL×CODES):AV×List AO:=(.agg x.1.c,[aO x.2])
instance:Inhabited (VAL×CODES):=⟨(default,default)⟩
def Lx (l:List AV) (_:List AO) (x:VAL×CODES):Prop:=(x.1.Ok/\x.1.kind=mOf l)/\x.2.Ok
noncomputable abbrev zo:Ent:=aY wd Bk φT Hn
theorem Ai:∀s∈s6,s.length<=10:=by decide
theorem vW (k n:Int) (s:List UInt8):TellL [.int .i64 k,.int .i64 n,.str s,.sl .fit 0 0 λ_=>[]] (VAL.c ⟨k,n,s,[]⟩):=.cons (.same rfl) (.cons (.same rfl) (.cons (.same rfl) (.cons aW .nil)))
theorem C4:im []:=⟨by decide,λs h=>(List.not_mem_nil h).elim⟩
def L3:List Int:=[0,1,17,18,19,-5,64,1099511627776,-1099511627776]
def Ji:List (List UInt8):=[[49,46,48,46,48],[49,46,50,46,51],[49,46,49,48,46,48],[50,46,48,46,49],[48,46,48,46,48],[57,57,57,57,57,57,46,48,46,57,57,57,57,57,57]]
def oP:List (List (List UInt8)):=[[],[[112,114,111]],[[100,101],[115,101]],[[],[102,114,101,101],[117,115]],[[120,32,121]]]
theorem Gf:∀n,n < 6->(Ji.getD n []).length<=1048576:=by decide
theorem HF:∀n,n < 5->im (oP.getD n []):=by
 have h:∀n:Fin 5,(oP.getD n.val []).length<=3/\∀s∈oP.getD n.val [],s.length<=4:=by decide
 intro n hn
 have h:=h ⟨n,hn⟩
 exact ⟨Nat.le_trans h.1 (by decide),λs hs=>Nat.le_trans (h.2 s hs) (by decide)⟩
theorem pK {C:CODES} (h:C.Ok) (k:Int) (hk:1<=k/\k<=5):aG wd r8 φV Lx [cR,.int .i64 k] [aO C]:=by
 rcases (by omega:k=1∨k=2∨k=3∨k=4∨k=5) with rfl | rfl | rfl | rfl | rfl
 ·exact ef (V:=V0) [kJ] 3 (.call (aq h 2 (by decide)) λt q=>.t (VAL.mk 1 t.1 [] [],t.2) ⟨⟨⟨Nat.zero_le _,C4⟩,rfl⟩,q.2⟩ (.agg (vW _ _ _))) (by kernel_rfl)
 ·obtain ⟨n,D,hn,hD,hc⟩:=drawn h 9 (by decide)
  haveI:=il (T:=[]) hc
  exact ef (V:=V0) [lE dj [cR,.int .i64 9] [aO C] ((n:Int),D) φX] 3 (.n (eX [cR,.int .i64 9] [aO C]) (.t (VAL.mk 2 (L3.getD n 0) [] [],D) ⟨⟨⟨Nat.zero_le _,C4⟩,rfl⟩,hD⟩ (.agg (vW _ _ _))))
   (by
     match n,hn with
     | 0,_ | 1,_ | 2,_ | 3,_ | 4,_ | 5,_ | 6,_ | 7,_ | 8,_=>show _=_;kernel_rfl
     | n+9,h=>exact absurd h (by omega))
 ·exact ef (V:=V0) [zo] 3 (.call (l8 h) λt q=>.t (VAL.mk 3 0 t.1 [],t.2) ⟨⟨⟨Nat.le_trans (Ai _ q.1) (by decide),C4⟩,rfl⟩,q.2⟩ (.agg (vW _ _ _))) (by kernel_rfl)
 ·obtain ⟨n,D,hn,hD,hc⟩:=drawn h 6 (by decide)
  haveI:=il (T:=[]) hc
  exact ef (V:=V0) [lE dj [cR,.int .i64 6] [aO C] ((n:Int),D) φX] 3 (.n (eX [cR,.int .i64 6] [aO C]) (.t (VAL.mk 4 0 (Ji.getD n []) [],D) ⟨⟨⟨Gf n hn,C4⟩,rfl⟩,hD⟩ (.agg (vW _ _ _))))
   (by
     match n,hn with
     | 0,_ | 1,_ | 2,_ | 3,_ | 4,_ | 5,_=>show _=_;kernel_rfl
     | n+6,h=>exact absurd h (by omega))
 ·obtain ⟨n,D,hn,hD,hc⟩:=drawn h 5 (by decide)
  haveI:=il (T:=[]) hc
  exact ef (V:=V0) [lE dj [cR,.int .i64 5] [aO C] ((n:Int),D) φX] 3 (.n (eX [cR,.int .i64 5] [aO C]) (.t (VAL.mk 5 0 [] (oP.getD n []),D) ⟨⟨⟨Nat.zero_le _,HF n hn⟩,rfl⟩,hD⟩ (.agg (.cons (.same rfl) (.cons (.same rfl) (.cons (.same rfl) (.cons (j3 (o:=.no) (get:=ag 0 (oP.getD n []).length (λ_=>[]) λj=>[.str ((oP.getD n []).getD j [])]) λj hj=>by have hj:j < (oP.getD n []).length:=hj;rw [fY (Nat.zero_le _) (by omega)];rfl) .nil)))))))
   (by
     match n,hn with
     | 0,_ | 1,_ | 2,_ | 3,_ | 4,_=>show _=_;kernel_rfl
     | n+5,h=>exact absurd h (by omega))
end Go.T

namespace Go.T
open Go Go.Ab Go.Proofs Go.SH
def kk (r:Int):List UInt8:=[107]++Array.toList (ByteArray.data (Utf8.encode r))
theorem II (r:Int):(kk r).length<=8:=by
 have:=E8 r
 unfold kk
 rw [List.length_append]
 show 1+_<=8
 omega
theorem IJ (r:Int):Nat.ble (List.length [107]+List.length (Array.toList (ByteArray.data (Utf8.encode r)))) 4611686018427387904=true:=Kx (s:=[107]) (by decide)
def O4 (_:List AV) (_:List AO) (x:List UInt8×CODES):Prop:=x.1.length<=8/\x.2.Ok
noncomputable abbrev Lc:Ent:=aY wd MJ φT O4
theorem Mf {C:CODES} (h:C.Ok):aG wd MJ φT O4 [cR] [aO C]:=
 ef (V:=V0) [kJ] 3 (.call (aq h 10 (by decide)) λt q=>.n (IJ (IntKind.wrap .i32 (IntKind.wrap .i64 (48+t.1)))) (.r (kk (IntKind.wrap .i32 (IntKind.wrap .i64 (48+t.1))),t.2) ⟨II _,q.2⟩)) (by kernel_rfl)
structure KS where
 n:Nat
 g:Nat->List UInt8
 C:CODES
instance:Inhabited KS:=⟨⟨0,λ_=>[],default⟩⟩
def KS.Ok (x:KS):Prop:=(x.n<=3/\∀j,j < x.n->(x.g j).length<=8)/\x.C.Ok
def ksO (x:KS):List (Nat×AO):=[(25,.own 1 x.n),(aa,aO x.C)]
def ksV (x:KS):AV:=.sl (.key 25) 1 x.n λj=>[.str (x.g j)]
def φKs (x:List (List UInt8)×CODES):AV×List AO:=(bO x.1,[aO x.2])
def JF (_:List AV) (_:List AO) (x:List (List UInt8)×CODES):Prop:=(x.1.length<=3/\∀s∈x.1,s.length<=8)/\x.2.Ok
def kd (d:Int) (n:Nat):List UInt8:=kk (IntKind.wrap .i32 (IntKind.wrap .i64 (48+Int.tmod (IntKind.wrap .i64 (d+(n:Int))) 10)))
def k1S (v:Int×KS):St:={env:=[(0,cR),(3,.int .i64 v.1),(4,ksV v.2),(5,.int .i64 v.2.n)],objs:=ksO v.2}
def k1O (x:KS) (k:Ex->St->Res):Res:=k (.exit 0) {env:=[(4,ksV x)],objs:=ksO x}
theorem Oe:∃ (u:St->Bool) (w:St->KS),(∀v,v.2.Ok->bT u w (k1S v) KS.Ok)/\∀L:List (List Nat×Orc),bw (V0.run [kJ] 3 [] L [] tQ) tQ [1,1,1,0,1,0] (mkO u w k1O):=
 ay (Lf:=λL=>L) k1S (λv=>v.2.Ok) (λv=>4 - v.2.n) k1O KS.Ok (by kernel_rfl)
  (λv hv=>.call (aq hv.2 4 (by decide)) λt q=>.b (decide ((v.2.n:Int) < t.1))
   (λh=>.n (IJ (IntKind.wrap .i32 (IntKind.wrap .i64 (48+Int.tmod (IntKind.wrap .i64 (v.1+v.2.n)) 10)))) (.n (aH (b:=16) (n:=v.2.n+1) (m:=v.2.n) (by have:=hv.1.1;omega))
    (.go {env:=[(0,cR),(3,.int .i64 v.1),(4,.sl (.key 25) 1 (v.2.n+1) (ag v.2.n 1 (λj=>[.str (v.2.g j)]) (ae [.str []] [(0,.str (kd v.1 v.2.n))]))),(5,.int .i64 (IntKind.wrap .i64 ((v.2.n:Int)+1)))],objs:=[(25,.own 1 (v.2.n+1)),(aa,aO t.2)]}
     (v.1,KS.mk (v.2.n+1) (jU v.2.g v.2.n (kd v.1 v.2.n)) t.2)
     ⟨⟨by have h:=of_decide_eq_true h;have q1:0<=t.1/\t.1 < 4:=q.1;show v.2.n+1<=3;omega,GM (P:=λs:List UInt8=>s.length<=8) hv.1.2 (II _)⟩,q.2⟩
     (by show 4 - (v.2.n+1) < 4 - v.2.n;have:=hv.1.1;omega)
     (by rw [ba (by have:=hv.1.1;omega),vJ (λs:List UInt8=>[AV.str s]) v.2.n v.2.g _ (kd v.1 v.2.n) rfl];rfl))))
   λ_=>.fi (KS.mk v.2.n v.2.g t.2) ⟨hv.1,q.2⟩) (λv L k kn=>by kernel_rfl)
def k2S (v:Nat×KS):St:={env:=[(4,ksV v.2),(6,.int .i64 v.1)],objs:=ksO v.2}
def k2O (x:Bool×Nat×KS) (k:Ex->St->Res):Res:=cond x.1 (k .ret {env:=[(2,.sl .no 1 (x.2.1 - 0) λj=>[.str (x.2.2.g (0+j))])],objs:=ksO x.2.2}) (k (.exit 2) {env:=[(4,ksV x.2.2)],objs:=ksO x.2.2})
def k2P (x:Bool×Nat×KS):Prop:=x.2.1<=x.2.2.n/\x.2.2.Ok
instance:Inhabited (Bool×Nat×KS):=⟨(false,0,default)⟩
theorem Od:∃ (u:St->Bool) (w:St->Bool×Nat×KS),(∀v:Nat×KS,v.2.Ok/\1<=v.1->bT u w (k2S v) k2P)/\∀L:List (List Nat×Orc),bw (V0.run [kJ] 3 [] L [] tQ) tQ [1,1,1,1,0,1,0] (mkO u w k2O):=
 ay (Lf:=λL=>L) k2S (λv=>v.2.Ok/\1<=v.1) (λv=>v.2.n - v.1) k2O k2P (by kernel_rfl)
  (λv hv=>.b (decide ((v.1:Int) < (v.2.n:Int)))
   (λh=>.n (c6 (od h)) (.n (c:=within (IntKind.wrap .i64 ((v.1:Int) - 1)) v.2.n) (by have:=hv.1.1.1;have:=hv.2;have:=od h;rw [wrap_i64 (by omega) (by omega)];exact ax (by omega) (by omega))
    (.b (aA (v.2.g v.1) (v.2.g (Int.toNat (IntKind.wrap .i64 ((v.1:Int) - 1))))||v.2.g v.1==v.2.g (Int.toNat (IntKind.wrap .i64 ((v.1:Int) - 1))))
     (λ_=>.n (c:=decide (0<=((0:Nat):Int))&&(decide (((0:Nat):Int)<=(v.1:Int))&&decide ((v.1:Int)<=(v.2.n:Int)))) (by have:=od h;simp;omega) (.fi (true,v.1,v.2) ⟨Nat.le_of_lt (od h),hv.1⟩))
     λ_=>.go {env:=[(4,ksV v.2),(6,.int .i64 (IntKind.wrap .i64 ((v.1:Int)+1)))],objs:=ksO v.2} (v.1+1,v.2) ⟨hv.1,by show 1<=v.1+1;omega⟩ (by have:=od h;show v.2.n - (v.1+1) < v.2.n - v.1;omega) (by have:=od h;have:=hv.1.1.1;rw [ba (by omega)];rfl))))
   λ_=>.fi (false,v.2.n,v.2) ⟨Nat.le_refl _,hv.1⟩) (λv L k kn=>by kernel_rfl)
theorem Hf {n:Nat} {g:Nat->List UInt8} {P:List UInt8->Prop} (h:∀j,j < n->P (g j)):∀s∈(List.range n).map g,P s:=λs hs=>by
 obtain ⟨j,hj,rfl⟩:=List.mem_map.1 hs
 exact h j (List.mem_range.1 hj)
theorem Lv {n:Nat} {g:Nat->List UInt8} {j:Nat} (hj:j < n):((List.range n).map g).getD j []=g j:=by
 rw [List.getD_eq_getElem?_getD,List.getElem?_map,List.getElem?_range hj];rfl
theorem vX {o:Own} {n:Nat} {get:Nat->List AV} (g:Nat->List UInt8) (h:∀j,j < n->get j=[.str (g j)]):di (.sl o 1 n get) (bO ((List.range n).map g)):=by
 unfold bO
 rw [List.length_map,List.length_range]
 exact j3 λj hj=>by rw [Lv hj,h j hj]
theorem rB {C:CODES} (h:C.Ok):aG wd tQ φKs JF [cR] [aO C]:=by
 obtain ⟨u1,w1,h1,l1⟩:=Oe
 obtain ⟨u2,w2,h2,l2⟩:=Od
 have rk:∀ (n:Nat) (g:Nat->List UInt8) (D:CODES),n<=3->(∀j,j < n->(g j).length<=8)->D.Ok->JF [cR] [aO C] ((List.range n).map g,D):=λn g D a b c=>⟨⟨by show ((List.range n).map g).length<=3;rw [List.length_map,List.length_range];exact a,Hf b⟩,c⟩
 exact de (V:=V0) (T:=[kJ]) (d:=3) 0 (ah (l1 _) (ah (l2 _) aE)) aD
  (.call (aq h 10 (by decide)) λt q=>.lp (h1 (t.1,KS.mk 0 (λ_=>[]) t.2) ⟨⟨Nat.zero_le _,λj hj=>absurd hj (Nat.not_lt_zero _)⟩,q.2⟩) λx hx=>.lp (h2 (1,x) ⟨hx,Nat.le_refl _⟩) λy hy=>.b y.1
   (λ_=>.t ((List.range y.2.1).map y.2.2.g,y.2.2.C) (rk _ _ _ (Nat.le_trans hy.1 hy.2.1.1) (λj hj=>hy.2.1.2 j (Nat.lt_of_lt_of_le hj hy.1)) hy.2.2) (.one (vX (o:=.no) (n:=y.2.1) (get:=λj=>[.str (y.2.2.g (0+j))]) y.2.2.g λj _=>by rw [Nat.zero_add])))
   λ_=>.t ((List.range y.2.2.n).map y.2.2.g,y.2.2.C) (rk _ _ _ hy.2.1.1 hy.2.1.2 hy.2.2) (.one (vX (o:=.no) (n:=y.2.2.n) (get:=λj=>[.str (y.2.2.g j)]) y.2.2.g λj _=>rfl))) (by kernel_rfl)
theorem TellL.one {l l':List AV} (h:TellL l l'):∀ (i:Nat) (u:AV),l'[i]?=some u->u.one=true:=λi u hu=>by
 have hl:=h.len
 have hlt:i < l.length:=by rw [<-hl];exact (List.getElem?_eq_some_iff.1 hu).1
 exact (h.at i _ u (List.getElem?_eq_getElem hlt) hu).1
theorem pN {o:Own} {sz n:Nat} {get get':Nat->List AV} (h:∀j,j < n->TellL (get j) (get' j)) (hk:∀j,j < n->(get' j).length=sz/\ak (get' j)=[]:=by intro j hj;exact ⟨rfl,rfl⟩):di (.sl o sz n get) (.sl .no sz n get'):=
 ⟨rfl,λc x hx=>Go.Ab.Io hk (λj i u u' hj hu hu'=>⟨((h j hj).at i u u' hu hu').1,λx hx=>((h j hj).at i u u' hu hu').2 c x hx⟩) x hx⟩
theorem bR {T:Type} [Inhabited T] {Q:T->Prop} {R:T->List AV} {n:Nat} {get:Nat->List AV} (h:∀j,j < n->∃x,Q x/\TellL (get j) (R x)) :
  ∃l:List T,l.length=n/\(∀x∈l,Q x)/\∀ (o:Own) (sz:Nat),(∀x,(R x).length=sz/\ak (R x)=[])->di (.sl o sz n get) (.sl .no sz l.length λj=>R (l.getD j default)):=by
 have hc:∃f:Nat->T,∀j,j < n->Q (f j)/\TellL (get j) (R (f j)):=by
  refine ⟨λj=>if hj:j < n then (h j hj).choose else default,λj hj=>?_⟩
  simp only [dif_pos hj]
  exact (h j hj).choose_spec
 obtain ⟨f,hf⟩:=hc
 refine ⟨(List.range n).map f,by rw [List.length_map,List.length_range],λx hx=>?_,λo sz hs=>?_⟩
 ·obtain ⟨j,hj,rfl⟩:=List.mem_map.1 hx
  exact (hf j (List.mem_range.1 hj)).1
 ·rw [List.length_map,List.length_range]
  refine pN (λj hj=>?_) λj hj=>hs _
  rw [show ((List.range n).map f).getD j default=f j by rw [List.getD_eq_getElem?_getD,List.getElem?_map,List.getElem?_range hj];rfl]
  exact (hf j hj).2
theorem bU {P:List AV->Prop} {n:Nat} {g:Nat->List AV} {h:Nat->List AV} (hg:∀j,j < n->P (g j)) (h0:P (h 0)):∀j,j < n+1->P (ag n 1 g h j):=λj hj=>by
 by_cases e:j < n
 ·rw [eU e];exact hg j e
 ·obtain rfl:j=n:=by omega
  rw [fY (Nat.le_refl _) (by omega),Nat.sub_self];exact h0
theorem TellL.refl {l:List AV} (h:(l.all AV.one)=true):TellL l l:=by
 induction l with
 | nil=>exact .nil
 | cons u l ih=>
  simp only [List.all_cons,Bool.and_eq_true] at h
  exact .cons (.same h.1) (ih h.2)
end Go.T

namespace Go.T
open Go Go.Ab Go.Proofs Go.SH
noncomputable def kH {τ:Type} [Inhabited τ] (f:FuncId) (m:Int) (A:List AV) (O:List AO) (x:τ) (φ:τ->AV×List AO) (R:List AV->List AO->τ->Prop):Ent:=
 mkE f (λl os=>bif decide (mOf l=m) then vd (λ_:Unit=>A) (λ_=>O) (λ_=>True) l os else gR wd f φ R l os) (λl os=>bif decide (mOf l=m) then x else wR wd f φ R l os) φ
theorem uf {τ:Type} [Inhabited τ] {f:FuncId} {m:Int} {A:List AV} {O:List AO} {x:τ} {φ:τ->AV×List AO} {R:List AV->List AO->τ->Prop} {T:List Ent} [t:TabI wd T] (h:Ct wd.P wd.G f A O (φ x)):TabI wd (kH f m A O x φ R::T):=⟨λe he l os hp=>by
 rcases List.mem_cons.1 he with rfl | he
 ·have hp:(bif decide (mOf l=m) then vd (λ_:Unit=>A) (λ_=>O) (λ_=>True) l os else gR wd f φ R l os)=true:=hp
  show Ct wd.P wd.G f l os (φ (bif decide (mOf l=m) then x else wR wd f φ R l os))
  cases hb:decide (mOf l=m) with
  | true=>
   rw [hb,cond_true] at hp
   exact E7 (V:=V0) h l os hp
  | false=>
   rw [hb,cond_false] at hp
   exact (tabI_cons (D:=wd) (f:=f) (ψ:=φ) (R:=R) (T:=[])).ok _ List.mem_cons_self l os hp
 ·exact t.ok e he l os hp⟩
theorem Run.sr {τ σ:Type} [Inhabited σ] {f:FuncId} {φ:τ->AV×List AO} {ψ:σ->AV×List AO} {R:List AV->List AO->σ->Prop} {Post:τ->Prop} {l:List AV} {os:List AO} {m:Int} {A:List AV} {O:List AO} {x:σ} {T:σ->Res} (h:aG wd f ψ R l os) (hm:mOf l≠m) (k:∀t,R l os t->Run Post φ (T t)) :
  Run Post φ (cond (bif decide (mOf l=m) then vd (λ_:Unit=>A) (λ_=>O) (λ_=>True) l os else gR wd f ψ R l os) (T (bif decide (mOf l=m) then x else wR wd f ψ R l os)) none):=by
 rw [decide_eq_false hm]
 exact Run.call h k
noncomputable abbrev IU:Ent:=aY wd r8 φV Lx
def φE (x:EXP×CODES):AV×List AO:=(.agg (eC x.1),[aO x.2])
instance:Inhabited (EXP×CODES):=⟨(default,default)⟩
def DE (b:Nat) (e:EXP):Prop:=(Fit 20 e/\SM.KOk e)/\e.size<=b
def wN (_:List AV) (_:List AO) (x:EXP×CODES):Prop:=DE 1 x.1/\x.2.Ok
abbrev nA:AV:=.sl .fit 0 0 λ_=>[]
abbrev z4:List AV:=[.int .i64 0,.int .i64 0,.str [],nA]
abbrev z5:List AV:=[.int .i64 0,.str [],.str [],nA,nA]
theorem EA {s:List UInt8} (h:s.length<=40):hJ s:=by unfold hJ Eu;omega
theorem mn {op:Int} {kd nm:List UInt8} {vs:List VAL} (ho:op < 2∨4 < op) (hk:kd.length<=40) (hn:nm.length<=40) (hv:vs.length<=20/\∀v∈vs,v.Ok):DE 1 (.mk op kd nm vs []):=
 ⟨⟨.mk _ (EA hk) (EA hn) hv.1 hv.2 (Nat.zero_le _) λk hk=>(List.not_mem_nil hk).elim,.mk _ (λh=>by have h:op=2∨op=3∨op=4:=h;omega) (Nat.zero_le _) λk hk=>(List.not_mem_nil hk).elim⟩,by rw [EXP.size_eq];show 1+cu []<=1;rw [cu];decide⟩
theorem s7 {op:Int} {kd nm:List UInt8} {a:AV} {vs:List VAL} (h:di a (iP vs)):TellL [.int .i64 op,.str kd,.str nm,a,nA] (eC (.mk op kd nm vs [])):=.cons (.same rfl) (.cons (.same rfl) (.cons (.same rfl) (.cons h (.cons aW .nil))))
theorem CU {sz:Nat} {g:Nat->List AV}:di nA (.sl .no sz 0 g):=aW
theorem x4 (op:Int) (kd nm:List UInt8):TellL [.int .i64 op,.str kd,.str nm,nA,nA] (eC (.mk op kd nm [] [])):=s7 CU
theorem Jm (v:VAL):di (.sl .fit 4 1 (ae z4 [(0,.agg v.c)])) (iP [v]):=j3 (n:=1) λj hj=>by
 obtain rfl:j=0:=by omega
 rfl
def rVl (cs:List AV):Prop:=∃v:VAL,v.Ok/\TellL cs v.c
theorem xX {n:Nat} {get:Nat->List AV} (h:∀j,j < n->rVl (get j)):∃l:List VAL,l.length=n/\(∀v∈l,v.Ok)/\∀o:Own,di (.sl o 4 n get) (iP l):=by
 obtain ⟨l,h1,h2,h3⟩:=bR (R:=VAL.c) h
 exact ⟨l,h1,h2,λo=>h3 o 4 λ_=>⟨rfl,rfl⟩⟩
theorem CD {v:VAL} (h:v.Ok):rVl v.c:=⟨v,h,TellL.refl rfl⟩
theorem CT (s:List UInt8):di (.sl .fit 4 1 (ae z4 [(0,.agg [.int .i64 3,.int .i64 0,.str s,nA])])) (iP [VAL.mk 3 0 s []]):=pN (n:=1) λj hj=>by
 obtain rfl:j=0:=by omega
 exact vW 3 0 s
theorem G5 {op:Int} {kd nm:List UInt8} {D:CODES} {l:List AV} {os:List AO} (ho:op < 2∨4 < op) (hk:kd.length<=40) (hn:nm.length<=40) (hD:D.Ok):Run (wN l os) φE (some (.agg [.int .i64 op,.str kd,.str nm,nA,nA],[aO D])):=
 .t (EXP.mk op kd nm [] [],D) ⟨mn ho hk hn ⟨Nat.zero_le _,λv hv=>(List.not_mem_nil hv).elim⟩,hD⟩ (.agg (s7 aW))
theorem kl {op ty:Int} {kd nm:List UInt8} {D:CODES} {l:List AV} {os:List AO} (ho:op < 2∨4 < op) (hk:kd.length<=40) (hn:nm.length<=40) (ht:1<=ty/\ty<=5) (hD:D.Ok) :
  Run (wN l os) φE (cond (gR wd r8 φV Lx [cR,.int .i64 ty] [aO D]) (some (.agg [.int .i64 op,.str kd,.str nm,.sl .fit 4 1 (ae z4 [(0,.agg (wR wd r8 φV Lx [cR,.int .i64 ty] [aO D]).1.c)]),nA],[aO (wR wd r8 φV Lx [cR,.int .i64 ty] [aO D]).2])) none):=
 .call (T:=λv=>some (.agg [.int .i64 op,.str kd,.str nm,.sl .fit 4 1 (ae z4 [(0,.agg v.1.c)]),nA],[aO v.2])) (pK hD ty ht) λv q=>.t (EXP.mk op kd nm [v.1] [],v.2) ⟨mn ho hk hn ⟨by show 1<=20;decide,λx hx=>by rw [List.mem_singleton.1 hx];exact q.1.1⟩,q.2⟩ (.agg (s7 (Jm v.1)))
structure TS where
 kd:List UInt8
 nm:List UInt8
 ty:Int
 n:Nat
 g:Nat->List AV
 C:CODES
instance:Inhabited TS:=⟨⟨[],[],0,0,λ_=>[],default⟩⟩
def TS.Ok (x:TS):Prop:=((x.kd.length<=40/\x.nm.length<=40)/\(1<=x.ty/\x.ty<=5))/\(x.n<=3/\∀j,j < x.n->rVl (x.g j))/\x.C.Ok
def tsV (x:TS):AV:=.sl (.key 63) 4 x.n x.g
def tsS (x:TS):St:={env:=[(0,cR),(2,.ref 2 0),(5,.ref 5 0),(6,.ref 6 0),(7,.int .i64 x.n)],objs:=[(2,.cells z5),(5,.cells [.str x.kd,.str x.nm,.int .i64 x.ty]),(6,.cells [.int .i64 8,.str x.kd,.str x.nm,tsV x,nA]),(63,.own 4 x.n),(aa,aO x.C)]}
def tsO (x:TS) (k:Ex->St->Res):Res:=k (.exit 6) {env:=[(2,.ref 2 0),(6,.ref 6 0)],objs:=[(2,.cells z5),(6,.cells [.int .i64 8,.str x.kd,.str x.nm,tsV x,nA]),(63,.own 4 x.n),(aa,aO x.C)]}
abbrev pIn:List Nat:=[1,1,1,1,1,1,0,1,0,0,0,0,0,0,0,1,0,1,0,1,0,1,0]
theorem CQ (A:List AV) (O:List AO) (x:Int×CODES):∃ (u:St->Bool) (w:St->TS),(∀v,TS.Ok v->bT u w (tsS v) TS.Ok)/\∀L:List (List Nat×Orc),bw (V0.run [IU,Lc,kH dj 9 A O x φX fQ] 3 [] L [] r9) r9 pIn (mkO u w tsO):=
 ay (Lf:=λL=>L) tsS TS.Ok (λv=>4 - v.n) tsO TS.Ok (by kernel_rfl)
  (λv hv=>.call (aq hv.2.2 3 (by decide)) λt q=>.b (decide ((v.n:Int)<=t.1))
   (λh=>.call (pK q.2 v.ty hv.1.2) λs p=>.n (aH (b:=56) (n:=v.n+1) (m:=v.n) (by have:=hv.2.1.1;omega))
    (.go {env:=[(0,cR),(2,.ref 2 0),(5,.ref 5 0),(6,.ref 6 0),(7,.int .i64 (IntKind.wrap .i64 ((v.n:Int)+1)))],objs:=[(2,.cells z5),(5,.cells [.str v.kd,.str v.nm,.int .i64 v.ty]),(6,.cells [.int .i64 8,.str v.kd,.str v.nm,.sl (.key 63) 4 (v.n+1) (ag v.n 1 v.g (ae z4 [(0,.agg s.1.c)])),nA]),(63,.own 4 (v.n+1)),(aa,aO s.2)]}
     (TS.mk v.kd v.nm v.ty (v.n+1) (ag v.n 1 v.g (ae z4 [(0,.agg s.1.c)])) s.2)
     ⟨hv.1,⟨by have h:=of_decide_eq_true h;have q1:0<=t.1/\t.1 < 3:=q.1;show v.n+1<=3;omega,bU (P:=rVl) hv.2.1.2 (CD p.1.1)⟩,p.2⟩
     (by show 4 - (v.n+1) < 4 - v.n;have:=hv.2.1.1;omega)
     (by rw [ba (by have:=hv.2.1.1;omega)];rfl)))
   λ_=>.fi (TS.mk v.kd v.nm v.ty v.n v.g t.2) ⟨hv.1,hv.2.1,q.2⟩) (λv L k kn=>by kernel_rfl)
def kdL:List (List UInt8):=[[100,101,118,105,99,101],[100,101,118,105,99,101],[117,115,101,114],[117,115,101,114],[117,115,101,114],[117,115,101,114],[117,115,101,114],[117,115,101,114]]
def nmL:List (List UInt8):=[[99,111,114,101,115],[111,115],[97,103,101],[97,112,112],[98,101,116,97],[99,111,117,110,116,114,121],[112,108,97,110],[116,97,103,115]]
def tyL:List Int:=[2,3,2,4,1,3,3,5]
theorem Mg:∀n:Nat,n < 8->(kdL.getD n []).length<=40/\(nmL.getD n []).length<=40/\1<=tyL.getD n 0/\tyL.getD n 0<=5:=by decide
theorem rge {a b:Int} (h:0<=a/\a < b) (hb:b<=4) {c:Int} (hc:5<=c/\c<=100):IntKind.wrap .i64 (c+a) < 2∨4 < IntKind.wrap .i64 (c+a):=by rw [wrap_i64 (by omega) (by omega)];omega
theorem Jk {C:CODES} (h:C.Ok):aG wd r9 φE wN [cR] [aO C]:=by
 obtain ⟨n,D,hn,hD,hc⟩:=drawn h 9 (by decide)
 haveI:=uf (T:=[]) (R:=fQ) (m:=9) hc
 obtain ⟨u,w,hu,hl⟩:=CQ [cR,.int .i64 9] [aO C] ((n:Int),D)
 by_cases h8:n < 8
 ·obtain ⟨k1,k2,k3⟩:=Mg n h8
  have hs:∀D':CODES,D'.Ok->TS.Ok (TS.mk (kdL.getD n []) (nmL.getD n []) (tyL.getD n 0) 0 (λ_=>z4) D'):=λD' hD'=>⟨⟨⟨k1,k2⟩,k3⟩,⟨Nat.zero_le _,λj hj=>absurd hj (Nat.not_lt_zero _)⟩,hD'⟩
  have fin:∀x:TS,x.Ok->Run (wN [cR] [aO C]) φE (some (.agg [.int .i64 8,.str x.kd,.str x.nm,.sl .no 4 x.n x.g,nA],[aO x.C])):=λx hx=>by
   obtain ⟨l,h1,h2,h3⟩:=xX hx.2.1.2
   exact .t (EXP.mk 8 x.kd x.nm l [],x.C) ⟨mn (by decide) hx.1.1.1 hx.1.1.2 ⟨by have:=hx.2.1.1;omega,h2⟩,hx.2.2⟩ (.agg (s7 (h3 .no)))
  rcases (by omega:(n=0∨n=2∨n=3)∨(n=1∨n=5∨n=6)∨n=4∨n=7) with hg | hg | hg | hg
  ·exact de (V:=V0) (T:=[IU,Lc,kH dj 9 [cR,.int .i64 9] [aO C] ((n:Int),D) φX fQ]) (d:=3) 0 (ah (hl _) aE) aD
    (.n (eX [cR,.int .i64 9] [aO C]) (.call (aq hD 5 (by decide)) λt q=>.b (t.1==0) (λ_=>G5 (op:=6) (by decide) k1 k2 q.2) λ_=>
     .b (t.1==1) (λ_=>.lp (hu (TS.mk (kdL.getD n []) (nmL.getD n []) (tyL.getD n 0) 0 (λ_=>z4) t.2) (hs _ q.2)) λx hx=>fin x hx) λ_=>
     .b (t.1==2) (λ_=>kl (op:=7) (by decide) k1 k2 k3 q.2) λ_=>.b (t.1==3) (λ_=>.call (aq q.2 4 (by decide)) λa p=>kl (op:=IntKind.wrap .i64 (12+a.1)) (rge p.1 (by decide) (by decide)) k1 k2 k3 p.2) λ_=>
     .b (t.1==4) (λ_=>.call (aq q.2 4 (by decide)) λa p=>kl (op:=IntKind.wrap .i64 (12+a.1)) (rge p.1 (by decide) (by decide)) k1 k2 k3 p.2) λ_=>kl (op:=7) (by decide) k1 k2 k3 q.2))
    (by rcases hg with rfl | rfl | rfl <;> kernel_rfl)
  ·exact de (V:=V0) (T:=[IU,Lc,kH dj 9 [cR,.int .i64 9] [aO C] ((n:Int),D) φX fQ]) (d:=3) 0 (ah (hl _) aE) aD
    (.n (eX [cR,.int .i64 9] [aO C]) (.call (aq hD 5 (by decide)) λt q=>.b (t.1==0) (λ_=>G5 (op:=6) (by decide) k1 k2 q.2) λ_=>
     .b (t.1==1) (λ_=>.lp (hu (TS.mk (kdL.getD n []) (nmL.getD n []) (tyL.getD n 0) 0 (λ_=>z4) t.2) (hs _ q.2)) λx hx=>fin x hx) λ_=>
     .b (t.1==2) (λ_=>kl (op:=11) (ty:=3) (by decide) k1 k2 (by decide) q.2) λ_=>.b (t.1==3) (λ_=>.call (aq q.2 2 (by decide)) λa p=>kl (op:=IntKind.wrap .i64 (9+a.1)) (ty:=3) (rge p.1 (by decide) (by decide)) k1 k2 (by decide) p.2) λ_=>
     .b (t.1==4) (λ_=>.call (aq q.2 4 (by decide)) λa p=>kl (op:=IntKind.wrap .i64 (12+a.1)) (rge p.1 (by decide) (by decide)) k1 k2 k3 p.2) λ_=>kl (op:=7) (by decide) k1 k2 k3 q.2))
    (by rcases hg with rfl | rfl | rfl <;> kernel_rfl)
  ·exact de (V:=V0) (T:=[IU,Lc,kH dj 9 [cR,.int .i64 9] [aO C] ((n:Int),D) φX fQ]) (d:=3) 0 (ah (hl _) aE) aD
    (.n (eX [cR,.int .i64 9] [aO C]) (.call (aq hD 5 (by decide)) λt q=>.b (t.1==0) (λ_=>G5 (op:=6) (by decide) k1 k2 q.2) λ_=>
     .b (t.1==1) (λ_=>.lp (hu (TS.mk (kdL.getD n []) (nmL.getD n []) (tyL.getD n 0) 0 (λ_=>z4) t.2) (hs _ q.2)) λx hx=>fin x hx) λ_=>
     .b (t.1==2) (λ_=>kl (op:=7) (by decide) k1 k2 k3 q.2) λ_=>.b (t.1==3) (λ_=>kl (op:=7) (by decide) k1 k2 k3 q.2) λ_=>.b (t.1==4) (λ_=>kl (op:=7) (by decide) k1 k2 k3 q.2) λ_=>kl (op:=7) (by decide) k1 k2 k3 q.2))
    (by subst hg;kernel_rfl)
  ·exact de (V:=V0) (T:=[IU,Lc,kH dj 9 [cR,.int .i64 9] [aO C] ((n:Int),D) φX fQ]) (d:=3) 0 (ah (hl _) aE) aD
    (.n (eX [cR,.int .i64 9] [aO C]) (.call (aq hD 5 (by decide)) λt q=>.b (t.1==0) (λ_=>G5 (op:=6) (by decide) k1 k2 q.2) λ_=>
     .b (t.1==1) (λ_=>kl (op:=7) (by decide) k1 k2 k3 q.2) λ_=>.b (t.1==2) (λ_=>kl (op:=11) (ty:=3) (by decide) k1 k2 (by decide) q.2) λ_=>.b (t.1==3) (λ_=>kl (op:=7) (by decide) k1 k2 k3 q.2) λ_=>.b (t.1==4) (λ_=>kl (op:=7) (by decide) k1 k2 k3 q.2) λ_=>kl (op:=7) (by decide) k1 k2 k3 q.2))
    (by subst hg;kernel_rfl)
 ·obtain rfl:n=8:=by omega
  exact ef (V:=V0) [IU,Lc,kH dj 9 [cR,.int .i64 9] [aO C] (((8:Nat):Int),D) φX fQ] 3 (.n (eX [cR,.int .i64 9] [aO C]) (.call (Mf hD) λt q=>.t (EXP.mk 7 [117,115,101,114] [107,101,121] [VAL.mk 3 0 t.1 []] [],t.2)
   ⟨mn (by decide) (by decide) (by decide) ⟨by show 1<=20;decide,λx hx=>by rw [List.mem_singleton.1 hx];exact ⟨Nat.le_trans q.1 (by decide),C4⟩⟩,q.2⟩
   (.agg (s7 (a:=.sl .fit 4 1 (ae z4 [(0,.agg [.int .i64 3,.int .i64 0,.str t.1,nA])])) (CT t.1))))) (by kernel_rfl)
end Go.T

namespace Go.T
open Go Go.Ab Go.Proofs Go.SH
theorem di.trans {a b c:AV} (h:di a b) (g:di b c):di a c:=⟨g.1,λx v hv=>g.2 x v (h.2 x v hv)⟩
def txV (n:Nat) (g:Nat->List UInt8):AV:=.sl .no 1 n λj=>[.str (g j)]
def Nd (b:Nat) (cs:List AV):Prop:=∃e:EXP,DE b e/\TellL cs (eC e)
theorem Mz (e:EXP):((eC e).all AV.one)=true:=rfl
theorem Iv {l:List EXP} {j:Nat} (h:j < l.length):EXP.row l j=eC (l.getD j default):=by rw [EXP.th h,EXP.Cj];rfl
theorem Ku {b n:Nat} {get:Nat->List AV} (h:∀j,j < n->Nd b (get j)):∃l:List EXP,l.length=n/\(∀e∈l,DE b e)/\∀o:Own,di (.sl o 5 n get) (.sl .no 5 l.length (EXP.row l)):=by
 obtain ⟨l,h1,h2,h3⟩:=bR (R:=eC) h
 exact ⟨l,h1,h2,λo=>di.trans (h3 o 5 λ_=>⟨rfl,rfl⟩) (j3 λj hj=>Iv hj)⟩
theorem pT {b:Nat}:∀ {l:List EXP},(∀e∈l,DE b e)->cu l<=l.length*b
 | [],_=>by rw [cu];exact Nat.zero_le _
 | e::r,h=>by
  have h1:=(h e List.mem_cons_self).2
  have h2:=pT (l:=r) λx hx=>h x (List.mem_cons_of_mem _ hx)
  rw [cu,List.length_cons,Nat.add_mul];omega
theorem yI {b m:Nat} {op:Int} {l:List EXP} (hl:0 < l.length/\l.length<=20) (h:∀e∈l,DE b e) (hm:1+l.length*b<=m):DE m (.mk op [] [] [] l):=
 ⟨⟨.mk _ (Nat.zero_le _) (Nat.zero_le _) (Nat.zero_le _) (λv hv=>(List.not_mem_nil hv).elim) hl.2 λk hk=>(h k hk).1.1,.mk _ (λ_=>hl.1) (Nat.le_trans hl.2 (by decide)) λk hk=>(h k hk).1.2⟩,
  by rw [EXP.size_eq];show 1+cu l<=m;have:=pT h;omega⟩
theorem DE.mono {b m:Nat} {e:EXP} (h:DE b e) (hm:b<=m):DE m e:=⟨h.1,Nat.le_trans h.2 hm⟩
theorem CY {op:Int} {a:AV} {l:List EXP} (h:di a (.sl .no 5 l.length (EXP.row l))):TellL [.int .i64 op,.str [],.str [],nA,a] (eC (.mk op [] [] [] l)):=.cons (.same rfl) (.cons (.same rfl) (.cons (.same rfl) (.cons aW (.cons h .nil))))
theorem CZ (e:EXP):di (.sl .fit 5 1 (ae z5 [(0,.agg (eC e))])) (.sl .no 5 [e].length (EXP.row [e])):=j3 (n:=1) λj hj=>by
 obtain rfl:j=0:=by omega
 exact (Iv (l:=[e]) Nat.one_pos).trans rfl
def Pe (e:EXP):List AV:=[.int .i64 4,.str [],.str [],nA,.sl .fit 5 1 (ae z5 [(0,.agg (eC e))])]
def rEx (b:Nat) (_:List AV) (_:List AO) (x:EXP×CODES):Prop:=DE b x.1/\x.2.Ok
structure XL where
 op:Int
 cnt:Int
 m:Nat
 get:Nat->List AV
 C:CODES
instance:Inhabited XL:=⟨⟨0,0,0,λ_=>[],default⟩⟩
def XL.Ok (b:Nat) (x:XL):Prop:=(x.cnt<=3/\x.m<=3)/\(∀j,j < x.m->Nd (b+1) (x.get j))/\x.C.Ok
def xlA (x:XL):AV:=.sl (.key 81) 5 x.m x.get
def xlS (lv:Int) (n:Nat) (g:Nat->List UInt8) (v:XL):St:={env:=[(0,cR),(1,txV n g),(2,.int .i64 lv),(6,.ref 6 0),(8,.int .i64 v.op),(9,.ref 9 0),(10,.int .i64 v.cnt),(11,.int .i64 v.m)],objs:=[(6,.cells z5),(9,.cells [.int .i64 v.op,.str [],.str [],nA,xlA v]),(81,.own 5 v.m),(aa,aO v.C)]}
def xlO (v:XL) (k:Ex->St->Res):Res:=k (.exit 1) {env:=[(6,.ref 6 0),(9,.ref 9 0)],objs:=[(6,.cells z5),(9,.cells [.int .i64 v.op,.str [],.str [],nA,xlA v]),(81,.own 5 v.m),(aa,aO v.C)]}
noncomputable abbrev vm:Ent:=aY wd r9 φE wN
theorem E5 (b:Nat) (lv:Int) (n:Nat) (g:Nat->List UInt8) (E:Ent) (ih:∀C:CODES,C.Ok->aG wd eT φE (rEx b) [cR,txV n g,.int .i64 (IntKind.wrap .i64 (lv - 1))] [aO C]) :
  ∃ (u:St->Bool) (w:St->XL),(∀v,XL.Ok b v/\(1<=v.cnt)->bT u w (xlS lv n g v) (λo=>XL.Ok b o/\1<=o.m))/\∀L:List (List Nat×Orc),bw (V0.run [vm,aY wd eT φE (rEx b),E] 3 [] L [] eT) eT [1,1,1,0,1,0,1,1,1,1,1,1,1,0,1,1,1,0,1,0] (mkO u w xlO):=
 ay (Lf:=λL=>L) (xlS lv n g) (λv=>XL.Ok b v/\1<=v.cnt) (λv=>4 - v.m) xlO (λo=>XL.Ok b o/\1<=o.m) (by kernel_rfl)
  (λv hv=>.b (decide ((v.m:Int) < v.cnt))
   (λh=>
    have h:=of_decide_eq_true h
    have hm:v.m+1<=3:=by have:=hv.1.1.1;omega
    .call (ih v.C hv.1.2.2) λt q=>.b (t.1.op==v.op)
    (λ_=>.n (aH (b:=88) (n:=v.m+1) (m:=v.m) (by omega))
     (.go {env:=[(0,cR),(1,txV n g),(2,.int .i64 lv),(6,.ref 6 0),(8,.int .i64 v.op),(9,.ref 9 0),(10,.int .i64 v.cnt),(11,.int .i64 (IntKind.wrap .i64 ((v.m:Int)+1)))],objs:=[(6,.cells z5),(9,.cells [.int .i64 v.op,.str [],.str [],nA,.sl (.key 81) 5 (v.m+1) (ag v.m 1 v.get (ae z5 [(0,.agg (Pe t.1))]))]),(81,.own 5 (v.m+1)),(aa,aO t.2)]} (XL.mk v.op v.cnt (v.m+1) (ag v.m 1 v.get (ae z5 [(0,.agg (Pe t.1))])) t.2)
      ⟨⟨⟨hv.1.1.1,hm⟩,bU (P:=Nd (b+1)) hv.1.2.1 ⟨.mk 4 [] [] [] [t.1],yI ⟨Nat.one_pos,by show 1<=20;decide⟩ (λe he=>by rw [List.mem_singleton.1 he];exact q.1) (by show 1+1*b<=b+1;omega),CY (CZ t.1)⟩,q.2⟩,hv.2⟩
      (by show 4 - (v.m+1) < 4 - v.m;omega) (by rw [ba (by omega)];rfl)))
    λ_=>.n (aH (b:=88) (n:=v.m+1) (m:=v.m) (by omega))
     (.go {env:=[(0,cR),(1,txV n g),(2,.int .i64 lv),(6,.ref 6 0),(8,.int .i64 v.op),(9,.ref 9 0),(10,.int .i64 v.cnt),(11,.int .i64 (IntKind.wrap .i64 ((v.m:Int)+1)))],objs:=[(6,.cells z5),(9,.cells [.int .i64 v.op,.str [],.str [],nA,.sl (.key 81) 5 (v.m+1) (ag v.m 1 v.get (ae z5 [(0,.agg (eC t.1))]))]),(81,.own 5 (v.m+1)),(aa,aO t.2)]} (XL.mk v.op v.cnt (v.m+1) (ag v.m 1 v.get (ae z5 [(0,.agg (eC t.1))])) t.2)
      ⟨⟨⟨hv.1.1.1,hm⟩,bU (P:=Nd (b+1)) hv.1.2.1 ⟨t.1,q.1.mono (Nat.le_succ _),TellL.refl (Mz _)⟩,q.2⟩,hv.2⟩
      (by show 4 - (v.m+1) < 4 - v.m;omega) (by rw [ba (by omega)];rfl)))
   λh=>.fi v ⟨hv.1,by have h:=of_decide_eq_false h;have:=hv.2;omega⟩) (λv L k kn=>by kernel_rfl)
theorem AA {b:Nat} {D:CODES} {l:List AV} {os:List AO} (hD:D.Ok) (hb:1<=b):Run (rEx b l os) φE (some (.agg [.int .i64 1,.str [],.str [],nA,nA],[aO D])):=
 .t (EXP.mk 1 [] [] [] [],D) ⟨(mn (by decide) (by decide) (by decide) ⟨Nat.zero_le _,λv hv=>(List.not_mem_nil hv).elim⟩).mono hb,hD⟩ (.agg (s7 aW))
theorem pX {b:Nat} {D:CODES} {l:List AV} {os:List AO} (hD:D.Ok) (hb:1<=b):Run (rEx b l os) φE (cond (gR wd r9 φE wN [cR] [aO D]) (some (.agg (eC (wR wd r9 φE wN [cR] [aO D]).1),[aO (wR wd r9 φE wN [cR] [aO D]).2])) none):=
 .call (T:=λt=>some (.agg (eC t.1),[aO t.2])) (Jk hD) λt q=>.r t ⟨q.1.mono hb,q.2⟩
theorem Ms (n:Nat) (g:Nat->List UInt8) (hn:n<=7/\∀j,j < n->(g j).length<=40) {C:CODES} (h:C.Ok):aG wd eT φE (rEx 1) [cR,txV n g,.int .i64 1] [aO C]:=by
 obtain ⟨k,D,hk,hD,hc⟩:=drawn h 8 (by decide)
 haveI:=uf (T:=[]) (R:=fQ) (m:=8) hc
 rcases (by omega:(k=0∨k=4)∨(k=3∨k=7)∨(k=1∨k=2∨k=5∨k=6)) with hg | hg | hg
 ·exact ef (V:=V0) [vm,aY wd eT φE (rEx 1),kH dj 8 [cR,.int .i64 8] [aO C] ((k:Int),D) φX fQ] 3 (.n (eX [cR,.int .i64 8] [aO C]) (AA hD (by decide))) (by rcases hg with rfl | rfl <;> kernel_rfl)
 ·exact ef (V:=V0) [vm,aY wd eT φE (rEx 1),kH dj 8 [cR,.int .i64 8] [aO C] ((k:Int),D) φX fQ] 3 (.n (eX [cR,.int .i64 8] [aO C]) (.b (decide ((n:Int) > 0)) (λh=>Run.sr (m:=8) (A:=[cR,.int .i64 8]) (O:=[aO C]) (x:=((k:Int),D)) (aq hD n (by have h:=of_decide_eq_true h;omega)) (by show (n:Int)≠8;omega) λt q=>
    have q1:0<=t.1/\t.1 < (n:Int):=q.1
    .n (ax q1.1 q1.2) (.t (EXP.mk 5 [] (g (Int.toNat t.1)) [] [],t.2) ⟨(mn (by decide) (Nat.zero_le _) (hn.2 _ (by omega)) ⟨Nat.zero_le _,λv hv=>(List.not_mem_nil hv).elim⟩).mono (by decide),q.2⟩ (.agg (x4 _ _ _)))) λ_=>pX hD (by decide))) (by rcases hg with rfl | rfl <;> kernel_rfl)
 ·exact ef (V:=V0) [vm,aY wd eT φE (rEx 1),kH dj 8 [cR,.int .i64 8] [aO C] ((k:Int),D) φX fQ] 3 (.n (eX [cR,.int .i64 8] [aO C]) (pX hD (by decide))) (by rcases hg with rfl | rfl | rfl | rfl <;> kernel_rfl)
theorem IT (b:Nat) (lv:Int) (hl:lv=2∨lv=3) (n:Nat) (g:Nat->List UInt8) (hn:n<=7/\∀j,j < n->(g j).length<=40) (ih:∀C:CODES,C.Ok->aG wd eT φE (rEx b) [cR,txV n g,.int .i64 (IntKind.wrap .i64 (lv - 1))] [aO C]) {C:CODES} (h:C.Ok) :
  aG wd eT φE (rEx (1+3*(b+1))) [cR,txV n g,.int .i64 lv] [aO C]:=by
 obtain ⟨k,D,hk,hD,hc⟩:=drawn h 8 (by decide)
 haveI:=uf (T:=[]) (R:=fQ) (m:=8) hc
 have hb:1<=1+3*(b+1):=Nat.le_add_right _ _
 rcases (by omega:k=0∨k=3∨(k=1∨k=2∨k=7)∨k=4∨(k=5∨k=6)) with hg | hg | hg | hg | hg
 ·exact ef (V:=V0) [vm,aY wd eT φE (rEx b),kH dj 8 [cR,.int .i64 8] [aO C] ((k:Int),D) φX fQ] 3 (.n (eX [cR,.int .i64 8] [aO C]) (AA hD hb)) (by subst hg;rcases hl with rfl | rfl <;> kernel_rfl)
 ·exact ef (V:=V0) [vm,aY wd eT φE (rEx b),kH dj 8 [cR,.int .i64 8] [aO C] ((k:Int),D) φX fQ] 3 (.n (eX [cR,.int .i64 8] [aO C]) (.b (decide ((n:Int) > 0)) (λh=>Run.sr (m:=8) (A:=[cR,.int .i64 8]) (O:=[aO C]) (x:=((k:Int),D)) (aq hD n (by have h:=of_decide_eq_true h;omega)) (by show (n:Int)≠8;omega) λt q=>
    have q1:0<=t.1/\t.1 < (n:Int):=q.1
    .n (ax q1.1 q1.2) (.t (EXP.mk 5 [] (g (Int.toNat t.1)) [] [],t.2) ⟨(mn (by decide) (Nat.zero_le _) (hn.2 _ (by omega)) ⟨Nat.zero_le _,λv hv=>(List.not_mem_nil hv).elim⟩).mono (hb),q.2⟩ (.agg (x4 _ _ _)))) λ_=>pX hD (hb))) (by subst hg;rcases hl with rfl | rfl <;> kernel_rfl)
 ·exact ef (V:=V0) [vm,aY wd eT φE (rEx b),kH dj 8 [cR,.int .i64 8] [aO C] ((k:Int),D) φX fQ] 3 (.n (eX [cR,.int .i64 8] [aO C]) (pX hD hb)) (by rcases hl with rfl | rfl <;> (rcases hg with rfl | rfl | rfl <;> kernel_rfl))
 ·exact ef (V:=V0) [vm,aY wd eT φE (rEx b),kH dj 8 [cR,.int .i64 8] [aO C] ((k:Int),D) φX fQ] 3 (.n (eX [cR,.int .i64 8] [aO C]) (.call (ih D hD) λt q=>.t (EXP.mk 4 [] [] [] [t.1],t.2) ⟨yI ⟨Nat.one_pos,by show 1<=20;decide⟩ (λe he=>by rw [List.mem_singleton.1 he];exact q.1) (by show 1+1*b<=_;omega),q.2⟩ (.agg (CY (CZ t.1))))) (by subst hg;rcases hl with rfl | rfl <;> kernel_rfl)
 ·obtain ⟨u,w,hu,hw⟩:=E5 b lv n g (kH dj 8 [cR,.int .i64 8] [aO C] ((k:Int),D) φX fQ) ih
  have fin:∀x:XL,XL.Ok b x/\1<=x.m->Run (rEx (1+3*(b+1)) [cR,txV n g,.int .i64 lv] [aO C]) φE (some (.agg [.int .i64 x.op,.str [],.str [],nA,.sl .no 5 x.m x.get],[aO x.C])):=λx hx=>by
   obtain ⟨l,h1,h2,h3⟩:=Ku hx.1.2.1
   have hm:=hx.1.1.2
   exact .t (EXP.mk x.op [] [] [] l,x.C) ⟨yI ⟨by have:=hx.2;omega,by omega⟩ h2 (by have:l.length*(b+1)<=3*(b+1):=Nat.mul_le_mul_right _ (by omega);omega),hx.1.2.2⟩ (.agg (CY (h3 .no)))
  exact de (V:=V0) (T:=[vm,aY wd eT φE (rEx b),kH dj 8 [cR,.int .i64 8] [aO C] ((k:Int),D) φX fQ]) (d:=3) 0 (ah (hw _) aE) aD
   (.n (eX [cR,.int .i64 8] [aO C]) (.call (aq hD 2 (by decide)) λt q=>.call (aq q.2 2 (by decide)) λs p=>
    have p1:0<=s.1/\s.1 < 2:=p.1
    have e:IntKind.wrap .i64 (2+s.1)=2+s.1:=wrap_i64 (by omega) (by omega)
    .lp (hu (XL.mk (IntKind.wrap .i64 (2+t.1)) (IntKind.wrap .i64 (2+s.1)) 0 (λ_=>z5) s.2) ⟨⟨⟨by show IntKind.wrap .i64 (2+s.1)<=3;omega,Nat.zero_le _⟩,λj hj=>absurd hj (Nat.not_lt_zero _),p.2⟩,by show 1<=IntKind.wrap .i64 (2+s.1);omega⟩) λx hx=>fin x hx))
   (by rcases hl with rfl | rfl <;> (rcases hg with rfl | rfl <;> kernel_rfl))
theorem ou (lv:Nat) (hl:lv=2∨lv=3) (n:Nat) (g:Nat->List UInt8) (hn:n<=7/\∀j,j < n->(g j).length<=40) {C:CODES} (h:C.Ok):aG wd eT φE (rEx 25) [cR,txV n g,.int .i64 lv] [aO C]:=by
 have h2:∀C:CODES,C.Ok->aG wd eT φE (rEx 7) [cR,txV n g,.int .i64 2] [aO C]:=λC hC=>IT 1 2 (.inl rfl) n g hn (λC hC=>Ms n g hn hC) hC
 rcases hl with rfl | rfl
 ·exact (h2 C h).mono λx hx=>⟨hx.1.mono (by decide),hx.2⟩
 ·exact IT 7 3 (.inr rfl) n g hn (λC hC=>h2 C hC) h
end Go.T

namespace Go.T
open Go Go.Ab Go.Proofs Go.SH
def φRg (x:List RG×CODES):AV×List AO:=(mP x.1,[aO x.2])
def Ly (_:List AV) (_:List AO) (x:List RG×CODES):Prop:=x.1.length<=4/\x.2.Ok
structure SPL where
 a:Int
 la:Int
 i:Int
 m:Nat
 get:Nat->List AV
 C:CODES
instance:Inhabited SPL:=⟨⟨0,0,0,0,λ_=>[],default⟩⟩
def rRg (cs:List AV):Prop:=∃r:RG,True/\TellL cs (DN r)
def SPL.Ok (v:SPL):Prop:=(v.m<=3/\v.i=v.m)/\(∀j,j < v.m->rRg (v.get j))/\v.C.Ok
def spS (n:Int) (v:SPL):St:={env:=[(0,cR),(1,.int .i64 n),(5,.sl (.key 46) 3 v.m v.get),(6,.int .i64 v.a),(7,.int .i64 v.la),(8,.int .i64 v.i)],objs:=[(46,.own 3 v.m),(aa,aO v.C)]}
def spO (n:Int) (v:SPL) (k:Ex->St->Res):Res:=k (.exit 0) {env:=[(0,cR),(1,.int .i64 n),(5,.sl (.key 46) 3 v.m v.get),(6,.int .i64 v.a),(7,.int .i64 v.la)],objs:=[(46,.own 3 v.m),(aa,aO v.C)]}
abbrev z3:List AV:=[.int .i64 0,.int .i64 0,.int .i64 0]
def OT (v:SPL) (t w:Int) (D:CODES):SPL:=⟨t,w,IntKind.wrap .i64 (v.i+1),v.m+1,ag v.m 1 v.get (ae z3 [(0,.agg [.int .i64 v.a,.int .i64 t,.int .i64 w])]),D⟩
theorem FQ {v:SPL} (h:v.Ok) {k:Int} (hk:v.i < k/\k<=3) {t w:Int} {D:CODES} (hD:D.Ok):(OT v t w D).Ok:=
 ⟨⟨by show v.m+1<=3;have:=h.1.2;omega,by show IntKind.wrap .i64 (v.i+1)=((v.m+1:Nat):Int);rw [h.1.2];exact ba (by have:=h.1.1;omega)⟩,bU (P:=rRg) h.2.1 ⟨(v.a,t,w),trivial,TellL.refl rfl⟩,hD⟩
noncomputable abbrev zn:Ent:=aY wd I3 φX fQ
theorem BC (n:Int) (hn:1<=n/\n<=100):∃ (u:St->Bool) (w:St->SPL),(∀v:SPL,v.Ok->bT u w (spS n v) SPL.Ok)/\∀L:List (List Nat×Orc),bw (V0.run [kJ,zn] 3 [] L [] oz) oz [1,1,1,0,1,0] (mkO u w (spO n)):=
 ay (Lf:=λL=>L) (spS n) SPL.Ok (λv=>4 - v.m) (spO n) SPL.Ok (by kernel_rfl)
  (λv hv=>.call (aq hv.2.2 4 (by decide)) λt q=>.b (bif decide (v.i < t.1) then decide (n > 1) else false)
   (λh=>
    have hi:v.i < t.1/\t.1<=3:=⟨of_decide_eq_true (FM h),by have q1:0<=t.1/\t.1 < 4:=q.1;omega⟩
    have hm:4 - (v.m+1) < 4 - v.m:=by have:=hv.1.1;omega
    .call (gS q.2 5000 (by decide)) λs p=>.call (aq p.2 n (by omega)) λr o=>.b (IntKind.wrap .i64 (1+r.1)==v.la)
     (λ_=>.n (c:=n !=0) (by simp;omega) (.b (decide (IntKind.wrap .i64 (IntKind.wrap .i64 (v.a+1)+s.1)≥10000)) (λ_=>.fi (SPL.mk v.a v.la v.i v.m v.get r.2) ⟨hv.1,hv.2.1,o.2⟩)
      λ_=>.n (aH (b:=24) (n:=v.m+1) (m:=v.m) (by have:=hv.1.1;omega)) (.to (OT v (IntKind.wrap .i64 (IntKind.wrap .i64 (v.a+1)+s.1)) (IntKind.wrap .i64 (1+Int.tmod (IntKind.wrap .i64 (1+r.1)) n)) r.2) (FQ hv hi o.2) hm)))
     λ_=>.b (decide (IntKind.wrap .i64 (IntKind.wrap .i64 (v.a+1)+s.1)≥10000)) (λ_=>.fi (SPL.mk v.a v.la v.i v.m v.get r.2) ⟨hv.1,hv.2.1,o.2⟩)
      λ_=>.n (aH (b:=24) (n:=v.m+1) (m:=v.m) (by have:=hv.1.1;omega)) (.to (OT v (IntKind.wrap .i64 (IntKind.wrap .i64 (v.a+1)+s.1)) (IntKind.wrap .i64 (1+r.1)) r.2) (FQ hv hi o.2) hm))
   λ_=>.fi (SPL.mk v.a v.la v.i v.m v.get t.2) ⟨hv.1,hv.2.1,q.2⟩) (λv L k kn=>by kernel_rfl)
theorem DR {n:Nat} {get:Nat->List AV} (h:∀j,j < n->rRg (get j)):∃l:List RG,l.length=n/\∀o:Own,di (.sl o 3 n get) (mP l):=by
 obtain ⟨l,h1,h2,h3⟩:=bR (R:=DN) (Q:=λ_=>True) h
 exact ⟨l,h1,λo=>h3 o 3 λ_=>⟨rfl,rfl⟩⟩
theorem um {C:CODES} (h:C.Ok) (n:Int) (hn:1<=n/\n<=100):aG wd oz φRg Ly [cR,.int .i64 n] [aO C]:=by
 obtain ⟨u,w,hu,hl⟩:=BC n hn
 have fin:∀ (v:SPL) (b:Int) (D:CODES),v.Ok->D.Ok->Run (Ly [cR,.int .i64 n] [aO C]) φRg (some (.sl .no 3 (v.m+1) (ag v.m 1 v.get (ae z3 [(0,.agg [.int .i64 v.a,.int .i64 10000,.int .i64 b])])),[aO D])):=λv b D hv hD=>by
  obtain ⟨l,h1,h2⟩:=DR (bU (P:=rRg) hv.2.1 (h:=ae z3 [(0,.agg [.int .i64 v.a,.int .i64 10000,.int .i64 b])]) ⟨(v.a,10000,b),trivial,TellL.refl rfl⟩)
  exact .t (l,D) ⟨by show l.length<=4;have:=hv.1.1;omega,hD⟩ (.one (h2 .no))
 exact fJ (V:=V0) [kJ,zn] 3 hl (.lp (hu ⟨0,0,0,0,λ_=>z3,C⟩ ⟨⟨Nat.zero_le _,rfl⟩,λj hj=>absurd hj (Nat.not_lt_zero _),h⟩) λv hv=>.call (aq hv.2.2 n (by omega)) λt q=>.b (IntKind.wrap .i64 (1+t.1)==v.la)
  (λ_=>.n (c:=n !=0) (by simp;omega) (.n (aH (b:=24) (n:=v.m+1) (m:=v.m) (by have:=hv.1.1;omega)) (fin v (IntKind.wrap .i64 (1+Int.tmod (IntKind.wrap .i64 (1+t.1)) n)) t.2 hv q.2)))
  λ_=>.n (aH (b:=24) (n:=v.m+1) (m:=v.m) (by have:=hv.1.1;omega)) (fin v (IntKind.wrap .i64 (1+t.1)) t.2 hv q.2)) (by kernel_rfl)
def φSv (x:SERVE×CODES):AV×List AO:=(.agg x.1.c,[aO x.2])
instance:Inhabited (SERVE×CODES):=⟨(default,default)⟩
def SmV (v:SERVE):Prop:=(v.kind.length<=40/\v.by'.length<=40/\v.salt.length<=40)/\v.split.length<=4
def rSv (_:List AV) (_:List AO) (x:SERVE×CODES):Prop:=SmV x.1/\x.2.Ok
noncomputable abbrev IV:Ent:=aY wd oz φRg Ly
def pg:List UInt8:=[117,115,101,114]
def Pg:List UInt8:=[107,101,121]
theorem IK:∀n:Nat,n < 12->((kdL.take 7).getD n pg).length<=40/\((nmL.take 7).getD n Pg).length<=40:=by decide
theorem mM {C:CODES} (h:C.Ok) (n:Int) (hn:1<=n/\n<=8):aG wd Fl φSv rSv [cR,.int .i64 n] [aO C]:=by
 have h1:=(aq h 2 (by decide)).at.2.1.2
 have h2:=(l8 h1).at.2.1.2
 have h3:=(um h2 n (by omega)).at.2.1.2
 obtain ⟨k,D,hk,hD,hc⟩:=drawn h3 12 (by decide)
 haveI:=uf (T:=[]) (R:=fQ) (m:=12) hc
 exact ef (V:=V0) [zo,IV,kH dj 12 [cR,.int .i64 12] [aO (wR wd oz φRg Ly [cR,.int .i64 n] [aO (wR wd Bk φT Hn [cR] [aO (wR wd dj φX fQ [cR,.int .i64 2] [aO C]).2]).2]).2] ((k:Int),D) φX fQ] 3
  (.call (aq h 2 (by decide)) λt q=>.b (t.1==0) (λ_=>Run.sr (m:=12) (A:=[cR,.int .i64 12]) (O:=[aO (wR wd oz φRg Ly [cR,.int .i64 n] [aO (wR wd Bk φT Hn [cR] [aO (wR wd dj φX fQ [cR,.int .i64 2] [aO C]).2]).2]).2]) (x:=((k:Int),D)) (aq q.2 n (by omega)) (by show n≠12;omega) λs p=>
   .t (SERVE.mk (IntKind.wrap .i64 (1+s.1)) [] [] [] [],s.2) ⟨⟨⟨Nat.zero_le _,Nat.zero_le _,Nat.zero_le _⟩,Nat.zero_le _⟩,p.2⟩ (.agg (.cons (.same rfl) (.cons (.same rfl) (.cons (.same rfl) (.cons (.same rfl) (.cons CU .nil)))))))
   λ_=>.call (l8 q.2) λs p=>.call (um p.2 n (by omega)) λr o=>.n (eX [cR,.int .i64 12] [aO r.2])
    (.r (SERVE.mk 0 ((kdL.take 7).getD k pg) ((nmL.take 7).getD k Pg) s.1 r.1,D) ⟨⟨⟨(IK k hk).1,(IK k hk).2,Nat.le_trans (Ai _ p.1) (by decide)⟩,o.1⟩,hD⟩))
  (by
    match k,hk with
    | 0,_ | 1,_ | 2,_ | 3,_ | 4,_ | 5,_ | 6,_ | 7,_ | 8,_ | 9,_ | 10,_ | 11,_=>show _=_;kernel_rfl
    | k+12,h=>exact absurd h (by omega))
end Go.T

namespace Go.T
open Go Go.Ab Go.Proofs Go.SH
open Go.SM (STO vId eF jn jo stC stM ND IG)
theorem _root_.Go.Ab.Run.e {τ:Type} {Post:τ->Prop} {φ:τ->AV×List AO} (x:τ) {r:AV×List AO} (h:Post x) (he:r=φ x):Run Post φ (some r):=by subst he;exact .r x h
noncomputable def K9 (f:FuncId) (F:List AV->List AO->AV×List AO):Ent:=by
 classical exact ⟨f,λl os=>decide (Ct wd.P wd.G f l os (F l os)),F⟩
theorem eS {f:FuncId} {F:List AV->List AO->AV×List AO} {l:List AV} {os:List AO} (h:Ct wd.P wd.G f l os (F l os)):(K9 f F).pre l os=true:=by
 classical exact decide_eq_true h
instance tabI_f {f:FuncId} {F:List AV->List AO->AV×List AO} {T:List Ent} [t:TabI wd T]:TabI wd (K9 f F::T):=⟨λe he l os hp=>by
 rcases List.mem_cons.1 he with rfl | he
 ·classical exact of_decide_eq_true hp
 ·exact t.ok e he l os hp⟩
theorem aG.ct {f:FuncId} {r:AV×List AO} {l:List AV} {os:List AO} (h:aG wd f (λ_:Unit=>r) (λ_ _ _=>True) l os):Ct wd.P wd.G f l os r:=by
 obtain ⟨_,_,h⟩:=h
 exact h
def L1:List AO->Nat->List AV
 | .cells (.sl _ _ _ g::_)::_=>g
 | _=>λ_=>[]
def cI (i:Nat) (l:List AV):Int:=match i,l with
 | 0,.int _ a::_=>a
 | 1,_::.int _ a::_=>a
 | 2,_::_::.int _ a::_=>a
 | _,_=>0
def PS (l:List AV) (os:List AO):AV×List AO:=(.int .i64 (bif decide (cI 1 l < 0) then 1001 else cI 0 (L1 os (cI 1 l).toNat)),os)
def Bs (l:List AV) (os:List AO):AV×List AO:=(.tup [.int .i64 (bif decide (cI 1 l < 0) then cI 1 l else bif decide (cI 0 (L1 os (cI 1 l).toNat)=cI 2 l) then cI 1 (L1 os (cI 1 l).toNat) else cI 1 l),
 .int .i64 (bif decide (cI 1 l < 0) then cI 1 l else bif decide (cI 0 (L1 os (cI 1 l).toNat)=cI 2 l) then cI 2 (L1 os (cI 1 l).toNat) else cI 1 l)],os)
noncomputable abbrev OA:Ent:=K9 D7 PS
noncomputable abbrev MB:Ent:=K9 wQ Bs
theorem s5 {s:STO} {x:Int} (h:vId s x):Ct wd.P wd.G D7 [cR,.int .i64 x] s.objs (PS [cR,.int .i64 x] s.objs):=
 aG.ct (ef (V:=V0) [] 3 (.b (decide (x < 0)) (λh=>.e () trivial (r:=(.int .i64 1001,s.objs)) (by show _=((AV.int .i64 (bif decide (x < 0) then 1001 else s.T x.toNat),s.objs):AV×List AO);rw [h];rfl))
  λh0=>.n (c:=within x s.n) (ax (by have:=of_decide_eq_false h0;omega) h.2) (.e () trivial (r:=(.int .i64 (s.T x.toNat),s.objs)) (by show _=((AV.int .i64 (bif decide (x < 0) then 1001 else s.T x.toNat),s.objs):AV×List AO);rw [h0];rfl))) (by kernel_rfl))
theorem uq {s:STO} {x t:Int} (h:vId s x) (ht:t<=1000):Ct wd.P wd.G wQ [cR,.int .i64 x,.int .i64 t] s.objs (.tup [.int .i64 (jn s x t),.int .i64 (jo s x t)],s.objs):=by
 have hw:(eF s x !=t)=false->within x s.n=true:=λh1=>by
  have h1:eF s x=t:=by simpa using h1
  refine ax ?_ h.2
  by_cases h0:x < 0
  ·unfold eF at h1;rw [decide_eq_true h0] at h1;have h1:(1001:Int)=t:=h1;omega
  ·omega
 exact aG.ct (ef (V:=V0) [OA] 3 (.n (eS (s5 h)) (.b (eF s x !=t) (λh1=>.e () trivial (r:=(.tup [.int .i64 x,.int .i64 x],s.objs)) (by
   have h1:eF s x≠t:=by simpa using h1
   unfold eF at h1
   unfold jn jo
   by_cases h0:x < 0
   ·rw [decide_eq_true h0];rfl
   ·rw [decide_eq_false h0] at h1 ⊢
    rw [decide_eq_false (show ¬ s.T x.toNat=t from h1)];rfl))
  λh1=>.n (c:=within x s.n) (hw h1) (.n (c:=within x s.n) (hw h1) (.e () trivial (r:=(.tup [.int .i64 (s.Y x.toNat),.int .i64 (s.N x.toNat)],s.objs)) (by
   have h1:eF s x=t:=by simpa using h1
   unfold eF at h1
   unfold jn jo
   by_cases h0:x < 0
   ·rw [decide_eq_true h0] at h1;have h1:(1001:Int)=t:=h1;omega
   ·rw [decide_eq_false h0] at h1 ⊢
    rw [decide_eq_true (show s.T x.toNat=t from h1)];rfl))))) (by kernel_rfl))
end Go.T

namespace Go.T
open Go Go.Ab Go.Proofs Go.SH
open Go.SM (STO vId eF jn jo stC ND IG)
theorem Cl {a b:Bool} (h:(bif a then true else b)=false):a=false/\b=false:=by cases a <;> simp_all
def φN (x:Int×STO):AV×List AO:=(.int .i64 x.1,x.2.objs)
instance:Inhabited (Int×STO):=⟨(0,default)⟩
def gX (_:List AV) (os:List AO) (x:Int×STO):Prop:=x.2.Ok/\∀s:STO,os=s.objs->SM.Ext s x.2
theorem gX.mk {s:STO} {l:List AV} {x:Int×STO} (h:x.2.Ok) (he:SM.Ext s x.2):gX l s.objs x:=⟨h,λs' hs=>by rw [<-SM.iz hs];exact he⟩
noncomputable abbrev KG:Ent:=aY wd AK φN gX
noncomputable abbrev VN:Env:=Vb [19,20,21,22,23,24,25,26,27,28,29,30,31,32,33,34,35,36,37,38,39,40,41,42] [] []
theorem El {s:STO} (hs:s.Ok) (t y n:Int):aG wd AK φN gX [cR,.int .i64 t,.int .i64 y,.int .i64 n] s.objs:=by
 have no:Run (gX [cR,.int .i64 t,.int .i64 y,.int .i64 n] s.objs) φN (some (.int .i64 (-1002),s.objs)):=.r ((-1002:Int),s) (.mk hs (SM.Ext.refl s))
 have nt:∀ {b:Bool},(bif false then true else !b)=false->b=true:=fun {b} h=>by cases b with | true=>rfl | false=>exact absurd h (by decide)
 exact ef (V:=VN) [OA] 3 (.b (bif decide (t < 0) then true else decide (t > 1000)) (λ_=>no) λh1=>
  .b (bif false then true else !bif decide (y > -1002) then decide (y < (s.n:Int)) else false) (λ_=>no) λh2=>
  .b (bif false then true else !bif decide (n > -1002) then decide (n < (s.n:Int)) else false) (λ_=>no) λh3=>
  have hy:=SM.isT (nt h2)
  have hn:=SM.isT (nt h3)
  .n (eS (s5 hy)) (.b (bif false then true else decide (eF s y<=t)) (λ_=>no) λh4=>
  .n (eS (s5 hn)) (.b (bif false then true else decide (eF s n<=t)) (λ_=>no) λh5=>
  .b (y==n) (λ_=>.r (y,s) (.mk hs (SM.Ext.refl s))) λ_=>
  .b (s.dom [.int .i64 t,.int .i64 y,.int .i64 n]) (λ_=>.r (s.ids [.int .i64 t,.int .i64 y,.int .i64 n],s) (.mk hs (SM.Ext.refl s))) λ_=>
  .b (decide ((s.n:Int)≥4000)) (λ_=>.r ((-1002:Int),{s with full:=true}) (.mk (SM.Kl hs) ⟨Nat.le_refl _,λ_ _=>rfl,λ_ _=>rfl,λ_ _=>rfl⟩)) λh6=>
  .n (aH (b:=24) (n:=s.n+1) (m:=s.n) (by have:=hs.n_le;omega)) (.e (IntKind.wrap .i64 (((s.n+1:Nat):Int) - 1),s.add t y n)
   (r:=(.int .i64 (IntKind.wrap .i64 (((s.n+1:Nat):Int) - 1)),[.cells [.sl (.key 1000001) 3 (s.n+1) (ag s.n 1 (ND s.T s.Y s.N) (ae (ND Int.ofNat Int.ofNat Int.ofNat 0) [(0,.agg [.int .i64 t,.int .i64 y,.int .i64 n])])),.mref 1000002,.bool s.full],.own 3 (s.n+1),
    .mp true [.int .i64,.int .i64,.int .i64] (λl=>bif dV l [.int .i64 t,.int .i64 y,.int .i64 n] then true else s.dom l) (λl=>bif dV l [.int .i64 t,.int .i64 y,.int .i64 n] then .int .i64 (s.n:Int) else .int .i64 (s.ids l))]))
   (.mk (SM.MT hs (by have h6:=of_decide_eq_false h6;omega) (by
     have:=Cl h1
     exact ⟨by have:=of_decide_eq_false this.1;omega,by have:=of_decide_eq_false this.2;omega⟩) hy hn (by have h4:=of_decide_eq_false (SM.Ph h4);omega) (by have h5:=of_decide_eq_false (SM.Ph h5);omega)) (SM.FO s t y n))
   (by rw [SM.FP,SM.K4];rfl))))) (by kernel_rfl)
end Go.T

namespace Go.T
open Go Go.Ab Go.Proofs Go.SH
open Go.SM (STO vId eF jn jo stC ND IG RQ RQV rqS rqI rqM rqP rZ RO' uN vM px kI qE oB Bl gW uM yB yA dK Clo)
theorem yS {α τ ι:Type} [Inhabited τ] {V:Env} {T:List Ent} {d:Nat} {Lf:ι->List (List Nat×Orc)} {W:List (List Nat×Vw)} {f:FuncId} {p:List Nat} (S:α->St) (Inv:α->Prop) (μ:α->Nat) (out:τ->(Ex->St->Res)->Res) (Post:τ->Prop) (hb:kC (dM (bu V.P f) p)=true)
  (h:∀v,Inv v->∃e:ι->(Ex->St->Res)->(St->Res)->Res,RT S Inv μ out (λ_ o=>Post o) v e/\∀i k kn,dS (V.run T d [] (Lf i) W f) f 9 p (S v) kn k=e i k kn) :
  ∃ (u:St->Bool) (w:St->τ),(∀v,Inv v->bT u w (S v) Post)/\∀i,bw (V.run T d [] (Lf i) W f) f p (mkO u w out):=by
 obtain ⟨b,hb⟩:∃b,dM (bu V.P f) p=.loop b:=by
  cases hc:dM (bu V.P f) p with
  | loop b=>exact ⟨b,rfl⟩
  | _=>rw [hc] at hb;cases hb
 obtain ⟨w,hw,hl⟩:=uU (Xf:=λi=>V.run T d [] (Lf i) W f) (f:=f) (p:=p) (b:=b) S Inv μ out (λ_ o=>Post o) (λ_=>hb) 9 λv hv=>by
  obtain ⟨e,h1,h2⟩:=h v hv
  exact RT.eq h2 h1
 exact ⟨db S Inv,fO S Inv w,λv hv=>⟨gG hv,fN (Post:=λ_ o=>Post o) hw (λ_ _ _ _ h=>h) hv⟩,hl⟩
section
variable {s:STO} (hs:s.Ok) {x0:Int} {v:RQV} (hv:rqI s x0 v) {m:Nat} (hm:v.len=m+1)
include hs hv hm
theorem AQ (hd:v.d (kI (v.w m))=true):rqI s x0 (v.pop v.d v.b m)/\rqM s (v.pop v.d v.b m) < rqM s v:=by
 have hc:=oB (λj=>v.d (kI j)) s.n
 have hn:=hs.n_le
 have hl:=hv.len
 have hvn:=hv.h
 have hh:∀z,v.has z->(v.pop v.d v.b m).has z:=λz hz=>by
  rcases hz with hz | ⟨j,hj,hz⟩
  ·exact Or.inl hz
  ·by_cases h:j=m
   ·subst h;subst hz;exact Or.inl hd
   ·exact Or.inr ⟨j,by show j < m;omega,hz⟩
 refine ⟨⟨hv.k,by show m<=v.n;omega,by show m<=1+qE (λj=>v.d (kI j)) s.n;omega,λj hj=>hv.id j (by have:j < m:=hj;omega),hv.b,hv.seen,λy hy h0=>⟨hh _ (hv.clo y hy h0).1,hh _ (hv.clo y hy h0).2⟩,hh _ hv.at0⟩,?_⟩
 show 2*(s.n - qE (λj=>v.d (kI j)) s.n)+m < 2*(s.n - qE (λj=>v.d (kI j)) s.n)+v.len
 omega
theorem AN (hd:v.d (kI (v.w m))=false) (h0:v.w m≥0) {k2:Nat} (hk2:k2=10∨k2=50∨k2=500050):rqI s x0 (RQV.push s v k2 m)/\rqM s (RQV.push s v k2 m) < rqM s v:=by
 have hc:=oB (λj=>v.d (kI j)) s.n
 have hn:=hs.n_le
 have hl:=hv.len
 have hvn:=hv.h
 have hid:=hv.id m (by omega)
 have hb':∀l,rqP v.d (v.w m) l=true->rqP v.b (v.w m) l=true:=λl h=>by
  unfold rqP at h ⊢
  cases he:dV l [.int .i64 (v.w m)] with
  | true=>rfl
  | false=>rw [he] at h;exact hv.b l h
 have hseen:∀y,rqP v.d (v.w m) (kI y)=true->vId s y:=λy h=>by
  rw [gW] at h
  rcases Bool.or_eq_true _ _ ▸ h with h | h
  ·rw [of_decide_eq_true h];exact hid
  ·exact hv.seen y h
 have hc2:qE (λj=>rqP v.d (v.w m) (kI j)) s.n=qE (λj=>v.d (kI j)) s.n+1:=by
  have hj:((v.w m).toNat:Int)=v.w m:=Int.toNat_of_nonneg h0
  rw [Bl (p:=λj=>v.d (kI j)) (x:=(v.w m).toNat) (λj=>?_) (by show v.d (kI _)=false;rw [hj];exact hd) s.n,jM (by have:=hid.2;omega)];rfl
  show rqP v.d (v.w m) (kI j)=_
  rw [gW]
  by_cases h:j=(v.w m).toNat
  ·subst h;rw [Nat.beq_refl,decide_eq_true hj]
  ·rw [dK h,decide_eq_false (by omega)]
 have hc3:=oB (λj=>rqP v.d (v.w m) (kI j)) s.n
 have hjn:(v.w m).toNat < s.n:=by have:=hid.2;omega
 have hh:∀z,v.has z->(RQV.push s v k2 m).has z:=λz hz=>by
  rcases hz with hz | ⟨j,hj,hz⟩
  ·refine Or.inl ?_
   show rqP v.d (v.w m) (kI z)=true
   rw [gW,hz,Bool.or_true]
  ·by_cases h:j=m
   ·subst h;subst hz
    refine Or.inl ?_
    show rqP v.d (v.w j) (kI _)=true
    rw [gW,decide_eq_true rfl];rfl
   ·exact Or.inr ⟨j,by show j < m+2;omega,by show px s v.w m j=z;rw [uM s v.w (by omega)];exact hz⟩
 refine ⟨⟨hk2,Nat.le_refl _,?_,λj hj=>?_,hb',hseen,λy hy hy0=>?_,hh _ hv.at0⟩,?_⟩
 ·show m+2<=1+qE (λj=>rqP v.d (v.w m) (kI j)) s.n
  omega
 ·have hj:j < m+2:=hj
  show vId s (px s v.w m j)
  by_cases h1:j < m
  ·rw [uM s v.w h1];exact hv.id j (by omega)
  ·by_cases h2:j=m
   ·subst h2;rw [yB];exact (hs.y _ hjn).1
   ·rw [show j=m+1 by omega,yA];exact (hs.k _ hjn).1
 ·have hy:rqP v.d (v.w m) (kI y)=true:=hy
  rw [gW] at hy
  rcases Bool.or_eq_true _ _ ▸ hy with hy | hy
  ·rw [of_decide_eq_true hy]
   exact ⟨Or.inr ⟨m,by show m < m+2;omega,yB s v.w m⟩,Or.inr ⟨m+1,by show m+1 < m+2;omega,yA s v.w m⟩⟩
  ·exact ⟨hh _ (hv.clo y hy hy0).1,hh _ (hv.clo y hy hy0).2⟩
 ·show 2*(s.n - qE (λj=>rqP v.d (v.w m) (kI j)) s.n)+(m+2) < 2*(s.n - qE (λj=>v.d (kI j)) s.n)+v.len
  omega
theorem Ed (hd:v.d (kI (v.w m))=false) (h0:¬ v.w m≥0):rqI s x0 (v.pop (rqP v.d (v.w m)) (rqP v.b (v.w m)) m)/\rqM s (v.pop (rqP v.d (v.w m)) (rqP v.b (v.w m)) m) < rqM s v:=by
 have hc:=oB (λj=>v.d (kI j)) s.n
 have hn:=hs.n_le
 have hl:=hv.len
 have hvn:=hv.h
 have hid:=hv.id m (by omega)
 have hb':∀l,rqP v.d (v.w m) l=true->rqP v.b (v.w m) l=true:=λl h=>by
  unfold rqP at h ⊢
  cases he:dV l [.int .i64 (v.w m)] with
  | true=>rfl
  | false=>rw [he] at h;exact hv.b l h
 have hseen:∀y,rqP v.d (v.w m) (kI y)=true->vId s y:=λy h=>by
  rw [gW] at h
  rcases Bool.or_eq_true _ _ ▸ h with h | h
  ·rw [of_decide_eq_true h];exact hid
  ·exact hv.seen y h
 have hc2:qE (λj=>rqP v.d (v.w m) (kI j)) s.n=qE (λj=>v.d (kI j)) s.n:=by
  congr 1
  funext j
  rw [gW,decide_eq_false (by omega)];rfl
 have hh:∀z,v.has z->(v.pop (rqP v.d (v.w m)) (rqP v.b (v.w m)) m).has z:=λz hz=>by
  rcases hz with hz | ⟨j,hj,hz⟩
  ·refine Or.inl ?_
   show rqP v.d (v.w m) (kI z)=true
   rw [gW,hz,Bool.or_true]
  ·by_cases h:j=m
   ·subst h;subst hz
    refine Or.inl ?_
    show rqP v.d (v.w j) (kI _)=true
    rw [gW,decide_eq_true rfl];rfl
   ·exact Or.inr ⟨j,by show j < m;omega,hz⟩
 refine ⟨⟨hv.k,by show m<=v.n;omega,?_,λj hj=>hv.id j (by have:j < m:=hj;omega),hb',hseen,λy hy hy0=>?_,hh _ hv.at0⟩,?_⟩
 ·show m<=1+qE (λj=>rqP v.d (v.w m) (kI j)) s.n
  omega
 ·have hy:rqP v.d (v.w m) (kI y)=true:=hy
  rw [gW,decide_eq_false (by omega),Bool.false_or] at hy
  exact ⟨hh _ (hv.clo y hy hy0).1,hh _ (hv.clo y hy hy0).2⟩
 ·show 2*(s.n - qE (λj=>rqP v.d (v.w m) (kI j)) s.n)+m < 2*(s.n - qE (λj=>v.d (kI j)) s.n)+v.len
  omega
end
end Go.T

namespace Go.T
open Go Go.Ab Go.Proofs Go.SH
open Go.SM (STO vId eF jn jo stC ND IG RQ RQV rqS rqI rqM rqP rZ RO' uN vM px kI qE Clo)
def rqA (m:Nat):Int:=IntKind.wrap .i64 (((m+1:Nat):Int) - 1)
def sPp (s:STO) (K n:Nat) (w:Nat->Int) (p:Nat) (M:AO):St:={env:=[(0,cR),(5,.mref 8),(6,.gsub K 1 n 0 p)],objs:=[(8,M),(K,.grw 0 1 n (IG w)),(1000000,stC s),(1000001,.own 3 s.n),(1000002,SM.stM s)]}
def sQq (s:STO) (k2 p j:Nat) (w:Nat->Int) (M:AO):St:={env:=[(0,cR),(5,.mref 8),(6,.gsl k2 1 (p+2))],objs:=[(8,M),(k2,.grw 0 1 (p+2) (ag p 2 (IG w) (ae (IG Int.ofNat 0) [(0,.int .i64 (s.Y (w j).toNat)),(1,.int .i64 (s.N (w j).toNat))]))),(1000000,stC s),(1000001,.own 3 s.n),(1000002,SM.stM s)]}
def Oa (d b:List AV->Bool) (l0:List AV):AO:=.mp false [.int .i64] (λl=>bif dV l l0 then true else d l) λl=>bif dV l l0 then .bool true else .bool (b l)
def rqR (s:STO) (d b:List AV->Bool) (w:Nat->Int) (j:Nat) (c:Bool) (P Q:AO->St) (kn:St->Res):Res:=
 cond (decide (w j≥0)) (cond (within (w j) s.n) (cond (within (w j) s.n) (cond c (kn (Q (Oa d b (IG w j)))) none) none) none) (kn (P (Oa d b (IG w j))))
theorem Jy {ι:Type} {s:STO} (hs:s.Ok) {x0:Int} {v:RQV} (hv:rqI s x0 v) {m:Nat} (hm:v.len=m+1) (hd:v.d (kI (v.w m))=false) {c:Bool} (hc:c=true) {k2:Nat} (hk2:k2=10∨k2=50∨k2=500050) {P Q:AO->St} (hP:∀d b,P (vM d b)=rqS s (v.pop d b m)) (hQ:Q (vM (rqP v.d (v.w m)) (rqP v.b (v.w m)))=rqS s (RQV.push s v k2 m)) :
  RT (rqS s) (rqI s x0) (rqM s) (uN s) (λ_ o=>rZ s x0 o) v (λ(_:ι) (_:Ex->St->Res) (kn:St->Res)=>rqR s v.d v.b v.w m c P Q kn):=by
 have hid:=hv.id m (by omega)
 have e:Oa v.d v.b (IG v.w m)=vM (rqP v.d (v.w m)) (rqP v.b (v.w m)):=SM.Ev v.d v.b v.w m
 refine RT.b (decide (v.w m≥0)) (λh0=>?_) λh0=>?_
 ·have h0:=of_decide_eq_true h0
  have hw:within (v.w m) s.n=true:=ax h0 hid.2
  rw [e,hQ]
  exact RT.n hw (RT.n hw (RT.n hc (.to _ (AN hs hv hm hd h0 hk2).1 (AN hs hv hm hd h0 hk2).2)))
 ·have h0:=of_decide_eq_false h0
  rw [e,hP]
  exact .to _ (Ed hs hv hm hd h0).1 (Ed hs hv hm hd h0).2
theorem DI {ι:Type} {s:STO} (hs:s.Ok) {x0:Int} {v:RQV} (hv:rqI s x0 v) {m:Nat} (hm:v.len=m+1) {c1 c2 c3 c:Bool} (h1:c1=true) (h2:c2=true) (h3:c3=true) (hc:c=true) {j:Nat} (hj:j=m) {k2:Nat} (hk2:k2=10∨k2=50∨k2=500050) {P Q:AO->St}
  (hP:∀d b,P (vM d b)=rqS s (v.pop d b m)) (hQ:Q (vM (rqP v.d (v.w m)) (rqP v.b (v.w m)))=rqS s (RQV.push s v k2 m)) {E:(Ex->St->Res)->Res} :
  RT (rqS s) (rqI s x0) (rqM s) (uN s) (λ_ o=>rZ s x0 o) v (λ(_:ι) (k:Ex->St->Res) (kn:St->Res)=>cond (decide (((m+1:Nat):Int) > 0)) (cond c1 (cond c2 (cond c3
   (cond (v.d (IG v.w j)) (cond (v.b (IG v.w j)) (kn (P (vM v.d v.b))) (rqR s v.d v.b v.w j c P Q kn)) (rqR s v.d v.b v.w j c P Q kn)) none) none) none) (E k)):=by
 subst hj
 refine RT.t (SM.dgt j) (RT.n h1 (RT.n h2 (RT.n h3 (RT.b (v.d (IG v.w j)) (λhd=>RT.b (v.b (IG v.w j)) (λ_=>?_) λhb=>?_) λhd=>Jy hs hv hm hd hc hk2 hP hQ))))
 ·rw [hP];exact .to _ (AQ hs hv hm hd).1 (AQ hs hv hm hd).2
 ·exact absurd (hv.b _ hd) (by rw [hb];decide)
theorem Iu {m:Nat} (h:m<=8000):rqA m=(m:Int):=SM.Ec h
theorem BR (s:STO) (hs:s.Ok) (x0:Int):∃ (u:St->Bool) (w:St->RO'),(∀v,rqI s x0 v->bT u w (rqS s v) (rZ s x0))/\∀i:List (List Nat×Orc),bw ((Vb [] [10] []).run [] 3 [] i [] dX) dX [1,1,1,0,0] (mkO u w (uN s)):=by
 refine yS (Lf:=λL=>L) (rqS s) (rqI s x0) (rqM s) (uN s) (rZ s x0) (by kernel_rfl) λv hv=>?_
 have hk:=hv.k
 have hvn:=hv.h
 have hl:=hv.len
 have hc:=SM.oB (λj=>v.d (kI j)) s.n
 have hn:=hs.n_le
 have hend:v.len=0->rZ s x0 ⟨v.d,v.b⟩:=λhm=>⟨hv.b,hv.at0.resolve_right λ⟨j,hj,_⟩=>by omega,λy hy=>⟨hv.seen y hy,λh0=>
  have:=hv.clo y hy h0
  ⟨this.1.resolve_right λ⟨j,hj,_⟩=>by omega,this.2.resolve_right λ⟨j,hj,_⟩=>by omega⟩⟩⟩
 obtain ⟨d,b,K,sub,n,h,w⟩:=v
 have hk:K=10∨K=50∨K=500050:=hk
 cases sub with
 | false=>
  have hl:n<=1+_:=hl
  cases n with
  | zero=>exact ⟨_,.fi ⟨d,b⟩ (hend rfl),λi k kn=>by rcases hk with rfl | rfl | rfl <;> kernel_rfl⟩
  | succ m=>
   have hA:rqA m=(m:Int):=Iu (by omega)
   have hp:(rqA m).toNat - Int.toNat 0=m:=by rw [hA];simp
   refine ⟨_,DI hs hv (m:=m) rfl (c1:=within (rqA m) (m+1)&&Nat.beq (m+1) (m+1)) (c2:=Nat.blt (rqA m).toNat (m+1)&&Nat.beq (m+1) (m+1)) (c3:=decide (0<=((0:Nat):Int))&&(decide (((0:Nat):Int)<=rqA m)&&decide (rqA m<=((m+1:Nat):Int))))
    (c:=jR 0 ((rqA m).toNat - Int.toNat 0)&&(roomy 8 ((rqA m).toNat - Int.toNat 0+2)&&(Nat.beq (m+1) (m+1)&&Nat.ble ((rqA m).toNat - Int.toNat 0) (m+1)))) ?_ ?_ ?_ ?_ (j:=(rqA m).toNat) ?_ (k2:=bif Nat.beq K 50 then 500050 else 50) ?_
    (P:=sPp s K (m+1) w ((rqA m).toNat - Int.toNat 0)) (Q:=sQq s (bif Nat.beq K 50 then 500050 else 50) ((rqA m).toNat - Int.toNat 0) (rqA m).toNat w) ?_ ?_ (E:=λk=>uN s ⟨d,b⟩ k),λi k kn=>by rcases hk with rfl | rfl | rfl <;> kernel_rfl⟩
   ·rw [hA,Nat.beq_refl,SM.win];rfl
   ·rw [hA,Int.toNat_natCast,Nat.beq_refl,su (by omega)];rfl
   ·rw [hA,SM.d0m,SM.dms];rfl
   ·rw [hp,SM.Lu (by omega),Nat.beq_refl,SM.OS (by omega)];rfl
   ·rw [hA,Int.toNat_natCast]
   ·rcases hk with rfl | rfl | rfl <;> decide
   ·intro d' b';unfold sPp;rw [hp];rfl
   ·unfold sQq;rw [hp,hA,Int.toNat_natCast,SM.tl];rfl
 | true=>
  have hl:h<=1+_:=hl
  have hvn:h<=n:=hvn
  cases h with
  | zero=>exact ⟨_,.fi ⟨d,b⟩ (hend rfl),λi k kn=>by rcases hk with rfl | rfl | rfl <;> kernel_rfl⟩
  | succ m=>
   have hA:rqA m=(m:Int):=Iu (by omega)
   have hp:(rqA m).toNat - Int.toNat 0=m:=by rw [hA];simp
   refine ⟨_,DI hs hv (m:=m) rfl (c1:=within (rqA m) (m+1)&&(Nat.beq n n&&Nat.ble (0+(m+1)) n)) (c2:=Nat.blt (0+(rqA m).toNat) n&&Nat.beq n n) (c3:=decide (0<=((0:Nat):Int))&&(decide (((0:Nat):Int)<=rqA m)&&decide (rqA m<=((m+1:Nat):Int))))
    (c:=jR 0 ((rqA m).toNat - Int.toNat 0)&&(roomy 8 ((rqA m).toNat - Int.toNat 0+2)&&(Nat.beq n n&&Nat.ble ((rqA m).toNat - Int.toNat 0) n))) ?_ ?_ ?_ ?_ (j:=0+(rqA m).toNat) ?_ (k2:=bif Nat.beq K 50 then 500050 else 50) ?_
    (P:=sPp s K n w ((rqA m).toNat - Int.toNat 0)) (Q:=sQq s (bif Nat.beq K 50 then 500050 else 50) ((rqA m).toNat - Int.toNat 0) (0+(rqA m).toNat) w) ?_ ?_ (E:=λk=>uN s ⟨d,b⟩ k),λi k kn=>by rcases hk with rfl | rfl | rfl <;> kernel_rfl⟩
   ·rw [hA,Nat.beq_refl,SM.win,SM.OS (by omega)];rfl
   ·rw [hA,Int.toNat_natCast,Nat.beq_refl,su (by omega)];rfl
   ·rw [hA,SM.d0m,SM.dms];rfl
   ·rw [hp,SM.Lu (by omega),Nat.beq_refl,SM.OS (by omega)];rfl
   ·rw [hA,Int.toNat_natCast];omega
   ·rcases hk with rfl | rfl | rfl <;> decide
   ·intro d' b';unfold sPp;rw [hp];rfl
   ·unfold sQq;rw [hp,hA,Int.toNat_natCast,Nat.zero_add,SM.tl];rfl
end Go.T

namespace Go.T
open Go Go.Ab Go.Proofs Go.SH
open Go.SM (STO vId eF stC ND IG RQ RQV rqS rqI rZ RO' uN vM kI Clo LB lvZ)
def oM (s:STO) (x:Int) (_:List AV) (_:List AO) (y:STO×RO'):Prop:=y.1=s/\rZ s x y.2
instance:Inhabited (STO×RO'):=⟨(default,default)⟩
theorem Hl {s:STO} (hs:s.Ok) {x:Int} (hx:vId s x):aG wd dX SM.φR (oM s x) [cR,.int .i64 x] s.objs:=by
 obtain ⟨u,w,hu,hl⟩:=BR s hs x
 let v0:RQV:=⟨λ_=>false,λ_=>false,10,false,1,0,λj=>bif Nat.beq 0 j then x else 0⟩
 have e0:({env:=[(0,cR),(5,.mref 8),(6,.gsl 10 1 1)],objs:=[(8,vM (λ_=>false) λ_=>false),(10,.grw 0 1 1 (ae (IG Int.ofNat 0) [(0,.int .i64 x)])),(1000000,stC s),(1000001,.own 3 s.n),(1000002,SM.stM s)]}:St)=rqS s v0:=by
  have:ae (IG Int.ofNat 0) [(0,.int .i64 x)]=IG v0.w:=by
   funext j
   show cond (Nat.beq 0 j) [AV.int .i64 x] (IG Int.ofNat 0)=[AV.int .i64 (bif Nat.beq 0 j then x else 0)]
   cases Nat.beq 0 j <;> rfl
  rw [this];rfl
 have hI:rqI s x v0:=by
  refine ⟨Or.inl rfl,Nat.le_refl _,Nat.le_add_right _ _,λj hj=>?_,λ_ h=>(by cases h),λ_ h=>(by cases h),λ_ h _=>(by cases h),Or.inr ⟨0,Nat.zero_lt_one,rfl⟩⟩
  have hj:j < 1:=hj
  have:j=0:=by omega
  subst this;exact hx
 exact de (V:=Vb [] [10] []) (T:=[]) (d:=3) 1 (ah (hl _) aE) aD (.lp (s:={env:=[(0,cR),(5,.mref 8),(6,.gsl 10 1 1)],objs:=[(8,vM (λ_=>false) λ_=>false),(10,.grw 0 1 1 (ae (IG Int.ofNat 0) [(0,.int .i64 x)])),(1000000,stC s),(1000001,.own 3 s.n),(1000002,SM.stM s)]}) (by rw [e0];exact hu v0 hI) λr hr=>.r (s,r) ⟨rfl,hr⟩) (by kernel_rfl)
structure LV where
 n:Nat
 w:Nat->Int
 x:Int
structure lvJ (r:RO') (v:LV):Prop where
 x:0<=v.x/\v.x<=1001
 n:(v.n:Int)<=v.x
 a:∀m:Nat,(m:Int) < v.x->r.d (kI (-1 - m))=true->∃j,j < v.n/\v.w j=m
def lvT (s:STO) (r:RO') (v:LV):St:={env:=[(5,.mref 14),(6,.sl (.key 26) 1 v.n (IG v.w)),(7,.int .i64 v.x)],objs:=[(14,vM r.d r.b),(26,.own 1 v.n),(1000000,stC s),(1000001,.own 3 s.n),(1000002,SM.stM s)]}
def lvO (s:STO) (o:SM.LO) (k:Ex->St->Res):Res:=k (.exit 0) {env:=[(6,.sl (.key 26) 1 o.n (IG o.w))],objs:=[(26,.own 1 o.n),(1000000,stC s),(1000001,.own 3 s.n),(1000002,SM.stM s)]}
theorem yZ (E:Ent) (s:STO) (r:RO') (hb:∀l,r.d l=true->r.b l=true):∃ (u:St->Bool) (w:St->SM.LO),(∀v,lvJ r v->bT u w (lvT s r v) (lvZ r))/\∀L:List (List Nat×Orc),bw (V0.run [E] 3 [] L [] cP) cP [1,1,1,1,0,1,0] (mkO u w (lvO s)):=
 ay (Lf:=λL=>L) (lvT s r) (lvJ r) (λv=>(1001 - v.x).toNat) (lvO s) (lvZ r) (by kernel_rfl)
  (λv hv=>
   have hx:=hv.x
   have w1:IntKind.wrap .i64 (-1 - v.x) = -1 - v.x:=wrap_i64 (by omega) (by omega)
   have w2:IntKind.wrap .i64 (v.x+1)=v.x+1:=wrap_i64 (by omega) (by omega)
   have skip:r.d (kI (IntKind.wrap .i64 (-1 - v.x)))=false->v.x<=1000->lvJ r ⟨v.n,v.w,IntKind.wrap .i64 (v.x+1)⟩:=λhd h=>⟨by show 0<=IntKind.wrap .i64 (v.x+1)/\IntKind.wrap .i64 (v.x+1)<=1001;omega,by show (v.n:Int)<=IntKind.wrap .i64 (v.x+1);have:=hv.n;omega,λm hm hd'=>by
    have hm:(m:Int) < IntKind.wrap .i64 (v.x+1):=hm
    by_cases e:(m:Int)=v.x
    ·rw [e,<-w1,hd] at hd';cases hd'
    ·exact hv.a m (by omega) hd'⟩
   have mu:v.x<=1000->(1001 - IntKind.wrap .i64 (v.x+1)).toNat < (1001 - v.x).toNat:=λh=>by omega
   .b (decide (v.x<=1000)) (λh=>.b (r.d (kI (IntKind.wrap .i64 (-1 - v.x)))) (λhd=>.b (r.b (kI (IntKind.wrap .i64 (-1 - v.x))))
    (λ_=>.n (aH (b:=8) (n:=v.n+1) (m:=v.n) (by have:=hv.n;omega)) (.go {env:=[(5,.mref 14),(6,.sl (.key 26) 1 (v.n+1) (ag v.n 1 (IG v.w) (ae (IG Int.ofNat 0) [(0,.int .i64 v.x)]))),(7,.int .i64 (IntKind.wrap .i64 (v.x+1)))],objs:=[(14,vM r.d r.b),(26,.own 1 (v.n+1)),(1000000,stC s),(1000001,.own 3 s.n),(1000002,SM.stM s)]}
     ⟨v.n+1,LB v.w v.n v.x,IntKind.wrap .i64 (v.x+1)⟩
     (by
      have h:=of_decide_eq_true h
      refine ⟨by show 0<=IntKind.wrap .i64 (v.x+1)/\IntKind.wrap .i64 (v.x+1)<=1001;omega,by show ((v.n+1:Nat):Int)<=IntKind.wrap .i64 (v.x+1);have:=hv.n;omega,λm hm hd'=>?_⟩
      have hm:(m:Int) < IntKind.wrap .i64 (v.x+1):=hm
      by_cases e:(m:Int)=v.x
      ·refine ⟨v.n,Nat.lt_succ_self _,?_⟩
       show (bif Nat.beq v.n v.n then v.x else v.w v.n)=m
       rw [Nat.beq_refl,e];rfl
      ·obtain ⟨j,hj,hw⟩:=hv.a m (by omega) hd'
       refine ⟨j,by show j < v.n+1;omega,?_⟩
       show (bif Nat.beq j v.n then v.x else v.w j)=m
       rw [SM.dK (by omega)];exact hw)
     (mu (of_decide_eq_true h)) (by rw [SM.wS];rfl)))
    λhb'=>.to (LV.mk v.n v.w (IntKind.wrap .i64 (v.x+1))) (absurd (hb _ hd) (by rw [hb'];decide)) (mu (of_decide_eq_true h)))
    λhd=>.to (LV.mk v.n v.w (IntKind.wrap .i64 (v.x+1))) (skip hd (of_decide_eq_true h)) (mu (of_decide_eq_true h)))
   λh=>.fi (SM.LO.mk v.n v.w) (by have h:=of_decide_eq_false h;have hn:=hv.n;exact ⟨by show v.n<=1001;omega,λm hm hd=>hv.a m (by omega) hd⟩)) (λv L k kn=>by kernel_rfl)
def φLv (y:SM.LO×STO):AV×List AO:=(.sl .no 1 y.1.n (IG y.1.w),y.2.objs)
def jt (s:STO) (x:Int) (_:List AV) (_:List AO) (y:SM.LO×STO):Prop:=y.2=s/\y.1.n<=1001/\∃D,Clo s D x/\∀m:Nat,m<=1000->D (-1 - m)->∃j,j < y.1.n/\y.1.w j=m
theorem EB {s:STO} (hs:s.Ok) {x:Int} (hx:vId s x):aG wd cP φLv (jt s x) [cR,.int .i64 x] s.objs:=by
 have hr:=(Hl hs hx).at
 obtain ⟨t,ht⟩:∃t,t=wR wd dX SM.φR (oM s x) [cR,.int .i64 x] s.objs:=⟨_,rfl⟩
 have hq:t.1=s/\rZ s x t.2:=by rw [ht];exact hr.2.1
 obtain ⟨u,w,hu,hl⟩:=yZ (aY wd dX SM.φR (oM s x)) t.1 t.2 hq.2.1
 have h0:=hu ⟨0,λ_=>Int.ofNat 0,0⟩ ⟨by decide,by decide,λm hm=>absurd hm (by show ¬ ((m:Int) < 0);omega)⟩
 subst ht
 exact fJ (V:=V0) [aY wd dX SM.φR (oM s x)] 3 hl (.b (!bif decide (x > -1002) then decide (x < (s.n:Int)) else false) (λh=>.t (SM.LO.mk 0 λ_=>0,s) (r:=(nA,s.objs)) (absurd h (by rw [SM.isB hx];decide)) (absurd h (by rw [SM.isB hx];decide))) λ_=>(.n hr.1 (.n h0.1 (.r (w (lvT (wR wd dX SM.φR (oM s x) [cR,.int .i64 x] s.objs).1 (wR wd dX SM.φR (oM s x) [cR,.int .i64 x] s.objs).2 ⟨0,λ_=>Int.ofNat 0,0⟩),(wR wd dX SM.φR (oM s x) [cR,.int .i64 x] s.objs).1)
  ⟨hq.1,h0.2.1,λy=>(wR wd dX SM.φR (oM s x) [cR,.int .i64 x] s.objs).2.d (kI y)=true,hq.2.2,h0.2.2⟩)))) (by kernel_rfl)
end Go.T

namespace Go.T
open Go Go.Ab Go.Proofs Go.SH
open Go.SM (STO vId eF jn jo stC ND IG Clo Cnd)
def φB2 (y:Bool×STO):AV×List AO:=(.bool y.1,y.2.objs)
instance:Inhabited (Bool×STO):=⟨(false,default)⟩
def O6 (l:List AV) (os:List AO) (y:Bool×STO):Prop:=os=y.2.objs/\(y.1=true->Cnd y.2 (cI 1 l))
theorem J4 {τ:Type} {X:Cfg} {f:FuncId} {p:List Nat} {w:St->τ} {out:τ->(Ex->St->Res)->Res}:bw X f p (mkO (λ_=>false) w out):=λs k r h=>by cases h
noncomputable abbrev zp (s:STO) (x:Int):Ent:=aY wd cP φLv (jt s x)
theorem Fw (E:Ent) (s:STO) (n:Nat) (hn:n<=2000) (w:Nat->Int):∃ (u:St->Bool) (o:St->Bool),(∀i:Int,(0<=i/\i<=n)/\(∀j:Nat,(j:Int) < i->w j<=1)->bT u o (SM.CV s n w i) (λb=>b=true->∀j,j < n->w j<=1))/\∀L:List (List Nat×Orc),bw (V0.run [E] 3 [] L [] gB) gB [1,1,1,0,1,0] (mkO u o (SM.N5 s)):=
 ay (Lf:=λL=>L) (SM.CV s n w) (λi:Int=>(0<=i/\i<=n)/\∀j:Nat,(j:Int) < i->w j<=1) (λi=>(n - i).toNat) (SM.N5 s) (λb=>b=true->∀j,j < n->w j<=1) (by kernel_rfl)
  (λi hi=>
   have w2:i < n->IntKind.wrap .i64 (i+1)=i+1:=λh=>wrap_i64 (by omega) (by omega)
   .b (decide (i < (n:Int))) (λh=>.n (ax hi.1.1 (of_decide_eq_true h)) (.b (decide (w i.toNat > 1)) (λ_=>.fi false (λh=>by cases h))
    λhw=>.to (IntKind.wrap .i64 (i+1)) (by
      have h:=of_decide_eq_true h
      have hw:=of_decide_eq_false hw
      rw [w2 h]
      refine ⟨by omega,λj hj=>?_⟩
      by_cases e:(j:Int)=i
      ·have:j=i.toNat:=by omega
       rw [this];omega
      ·exact hi.2 j (by omega)) (by have h:=of_decide_eq_true h;rw [w2 h];omega)))
   λh=>.fi true λ_ j hj=>hi.2 j (by have h:=of_decide_eq_false h;omega)) (λv L k kn=>by kernel_rfl)
theorem kN {s:STO} (hs:s.Ok) (x:Int):aG wd gB φB2 O6 [cR,.int .i64 x] s.objs:=by
 by_cases hx:vId s x
 ·have hr:=(EB hs hx).at
  obtain ⟨t,ht⟩:∃t,t=wR wd cP φLv (jt s x) [cR,.int .i64 x] s.objs:=⟨_,rfl⟩
  have hq:t.2=s/\t.1.n<=1001/\∃D,Clo s D x/\∀m:Nat,m<=1000->D (-1 - m)->∃j,j < t.1.n/\t.1.w j=m:=by rw [ht];exact hr.2.1
  obtain ⟨h2,hn,D,hD,hm⟩:=hq
  obtain ⟨u,o,hu,hl⟩:=Fw (zp s x) t.2 t.1.n (by omega) t.1.w
  have h0:=hu 0 ⟨⟨Int.le_refl _,by omega⟩,λj hj=>by omega⟩
  have hc:o (SM.CV t.2 t.1.n t.1.w 0)=true->Cnd s x:=λhb=>⟨D,hD,λy hy=>by
   have hv:=(hD.2 y hy).1
   rcases Int.lt_or_le y (-2) with h | h
   ·obtain ⟨j,hj,hw⟩:=hm (-1 - y).toNat (by have:=hv.1;omega) (by rw [show (-1 - ((-1 - y).toNat:Int))=y by omega];exact hy)
    have:=h0.2 hb j hj
    omega
   ·exact h⟩
  rw [<-h2] at hc
  subst ht
  exact fJ (V:=V0) [zp s x] 3 hl (.b (!bif decide (x > -1002) then decide (x < (s.n:Int)) else false) (λh=>.t (false,s) (r:=(.bool false,s.objs)) (absurd h (by rw [SM.isB hx];decide)) (absurd h (by rw [SM.isB hx];decide)))
   λ_=>.n hr.1 (.n h0.1 (.b (o (SM.CV (wR wd cP φLv (jt s x) [cR,.int .i64 x] s.objs).2 (wR wd cP φLv (jt s x) [cR,.int .i64 x] s.objs).1.n (wR wd cP φLv (jt s x) [cR,.int .i64 x] s.objs).1.w 0))
    (λhb=>.r (true,(wR wd cP φLv (jt s x) [cR,.int .i64 x] s.objs).2) ⟨by rw [h2],λ_=>hc hb⟩)
    λ_=>.r (false,(wR wd cP φLv (jt s x) [cR,.int .i64 x] s.objs).2) ⟨by rw [h2],λh=>by cases h⟩))) (by kernel_rfl)
 ·have hv:(!bif decide (x > -1002) then decide (x < (s.n:Int)) else false)=false->vId s x:=λh=>SM.isT (by cases hb:(bif decide (x > -1002) then decide (x < (s.n:Int)) else false) with | true=>rfl | false=>rw [hb] at h;cases h)
  exact fJ (V:=V0) (p:=[1,1,1,0,1,0]) (g:=mkO (λ_=>false) (λ_=>true) (SM.N5 s)) [zp s x] 3 (λL=>J4) (.b (!bif decide (x > -1002) then decide (x < (s.n:Int)) else false) (λ_=>.r (false,s) ⟨rfl,λh=>by cases h⟩)
   λh=>.n (c:=gR wd cP φLv (jt s x) [cR,.int .i64 x] s.objs) (a:=none) (absurd (hv h) hx) (absurd (hv h) hx)) (by kernel_rfl)
theorem xJ {s:STO} {f t:Int} (h:Cnd s f):Cnd s (jn s f t)/\Cnd s (jo s f t):=by
 obtain ⟨D,h1,h2⟩:=h
 unfold jn jo
 by_cases h0:f < 0
 ·rw [decide_eq_true h0];exact ⟨⟨D,h1,h2⟩,⟨D,h1,h2⟩⟩
 ·rw [decide_eq_false h0]
  have:=(h1.2 f h1.1).2 (by omega)
  by_cases h3:s.T f.toNat=t
  ·rw [decide_eq_true h3];exact ⟨⟨D,⟨this.1,h1.2⟩,h2⟩,⟨D,⟨this.2,h1.2⟩,h2⟩⟩
  ·rw [decide_eq_false h3];exact ⟨⟨D,h1,h2⟩,⟨D,h1,h2⟩⟩
def rCh (_:List AV) (os:List AO) (y:SM.CH):Prop:=y.s.Ok/\∀s d i,os=SM.KO s d i->SM.Ext s y.s
noncomputable abbrev Ff:Ent:=aY wd tj SM.φC rCh
theorem Me {s s':STO} {d d':List AV->Bool} {i i':List AV->Int} (h:SM.KO s d i=SM.KO s' d' i'):s=s':=by
 have:=@SM.Oh ⟨s,d,i,0,0,0⟩ ⟨s',d',i',0,0,0⟩ rfl h
 exact congrArg SM.KA.s this
theorem rCh.mk {s:STO} {d:List AV->Bool} {i:List AV->Int} {l:List AV} {y:SM.CH} (h:y.s.Ok) (he:SM.Ext s y.s):rCh l (SM.KO s d i) y:=⟨h,λs' d' i' hs=>by rw [<-Me hs];exact he⟩
theorem IH (d:List AV->Bool) (i:List AV->Int) (l0:List AV) (z:Int):AO.mp true [KD.int .i64,KD.int .i64,KD.int .i64] (λl=>bif dV l l0 then true else d l) (λl=>bif dV l l0 then .int .i64 z else .int .i64 (i l))=SM.kM (λl=>bif dV l l0 then true else d l) (λl=>bif dV l l0 then z else i l):=by
 unfold SM.kM
 congr 1
 funext l
 show (bif dV l l0 then AV.int .i64 z else .int .i64 (i l))=.int .i64 (bif dV l l0 then z else i l)
 cases dV l l0 <;> rfl
def tt (s:STO) (f g h:Int):Int:=SM.T3 (eF s f) (eF s g) (eF s h)
noncomputable abbrev VCh:Env:=Vb [14,15,16,17,18,19,20,21,22,23,24] [] []
theorem Fz:∀ (m:Nat) (s:STO) (d:List AV->Bool) (i:List AV->Int) (f g h:Int),s.Ok->Cnd s f->vId s g->vId s h->1002 - SM.T3 (eF s f) (eF s g) (eF s h)<=m->aG wd tj SM.φC rCh [cR,.int .i64 f,.int .i64 g,.int .i64 h,.mref 1000001] (SM.KO s d i):=by
 intro m
 induction m with
 | zero=>
  intro s d i f g h hs hf hg hh hm
  exfalso
  have h1:=(SM.MW (eF s f) (eF s g) (eF s h)).1
  have h2:eF s f<=1001:=by
   by_cases h0:f < 0
   ·rw [SM.ud h0];omega
   ·rw [SM.qH h0];have:=(hs.t f.toNat (by have:=hf.id.2;omega)).2;omega
  omega
 | succ m ih=>
  intro s d i f g h hs hf hg hh hm
  have hle:tt s f g h<=eF s f/\tt s f g h<=eF s g/\tt s f g h<=eF s h:=SM.MW (eF s f) (eF s g) (eF s h)
  have hm:1002 - tt s f g h<=(m:Int)+1:=by have hm:1002 - tt s f g h<=((m+1:Nat):Int):=hm;omega
  have ht1:(bif f==-2 then true else g==h)=false->(f==-1)=false->tt s f g h<=1000:=λh1 h2=>by
   have h1:f≠-2:=by
    intro e;subst e;simp at h1
   have h2:f≠-1:=by simpa using h2
   have:=hf.ge
   have h0:¬ f < 0:=by omega
   have:=(hs.t f.toNat (by have:=hf.id.2;omega)).2
   rw [SM.qH h0] at hle
   omega
  have sd:∀ {x},vId s x->tt s f g h<=eF s x->tt s f g h<=1000->(vId s (jn s x (tt s f g h))/\tt s f g h < eF s (jn s x (tt s f g h)))/\vId s (jo s x (tt s f g h))/\tt s f g h < eF s (jo s x (tt s f g h)):=λhx h1 h2=>SM.GD hs hx h1 h2
  have T3gt:∀ {a b c:Int},tt s f g h < a->tt s f g h < b->tt s f g h < c->tt s f g h < SM.T3 a b c:=fun {a b c} h1 h2 h3=>by
   have aux:∀ (p:Bool) (x y:Int),tt s f g h < x->tt s f g h < y->tt s f g h < (bif p then x else y):=λp x y hx hy=>by
    cases p
    ·exact hy
    ·exact hx
   exact aux _ _ _ h3 (aux _ _ _ h2 h1)
  have same:∀z:Int,Run (rCh [cR,.int .i64 f,.int .i64 g,.int .i64 h,.mref 1000001] (SM.KO s d i)) SM.φC (some (.int .i64 z,SM.KO s d i)):=λz=>.r (SM.CH.mk z s d i) (.mk hs (SM.Ext.refl s))
  exact ef (V:=VCh) [KG,Ff,OA,MB] 3 (.b (bif f==-2 then true else g==h) (λ_=>same g) λh1=>.b (f==-1) (λ_=>same h) λh2=>.b (d [.int .i64 f,.int .i64 g,.int .i64 h]) (λ_=>same (i [.int .i64 f,.int .i64 g,.int .i64 h])) λ_=>
   have h4:=ht1 h1 h2
   have sf:=sd hf.id hle.1 h4
   have sg:=sd hg hle.2.1 h4
   have sh:=sd hh hle.2.2 h4
   .n (eS (s5 hf.id)) (.n (eS (s5 hg)) (.n (eS (s5 hh)) (.n (eS (F:=Bs) (uq (t:=tt s f g h) hf.id h4)) (.n (eS (F:=Bs) (uq (t:=tt s f g h) hg h4)) (.n (eS (F:=Bs) (uq (t:=tt s f g h) hh h4))
   (.call (ih s d i (jn s f (tt s f g h)) (jn s g (tt s f g h)) (jn s h (tt s f g h)) hs (xJ hf).1 sg.1.1 sh.1.1 (by have:=T3gt sf.1.2 sg.1.2 sh.1.2;omega)) λy1 q1=>
   have e1:=q1.2 _ _ _ rfl
   .call (ih y1.s y1.d y1.i (jo s f (tt s f g h)) (jo s g (tt s f g h)) (jo s h (tt s f g h)) q1.1 (SM.Ext.cnd e1 (xJ hf).2) (e1.valid sg.2.1) (e1.valid sh.2.1) (by rw [e1.top sf.2.1,e1.top sg.2.1,e1.top sh.2.1];have:=T3gt sf.2.2 sg.2.2 sh.2.2;omega)) λy2 q2=>
   have e2:=e1.trans (q2.2 _ _ _ rfl)
   .b (bif y1.z !=-1002 then y2.z !=-1002 else false)
    (λ_=>.call (El q2.1 (tt s f g h) y1.z y2.z) λn q=>.e (SM.CH.mk n.1 n.2 (λl=>bif dV l [.int .i64 f,.int .i64 g,.int .i64 h] then true else y2.d l) (λl=>bif dV l [.int .i64 f,.int .i64 g,.int .i64 h] then n.1 else y2.i l))
     (r:=(.int .i64 n.1,[SM.M7 n.2,.mp true [.int .i64,.int .i64,.int .i64] (λl=>bif dV l [.int .i64 f,.int .i64 g,.int .i64 h] then true else y2.d l) (λl=>bif dV l [.int .i64 f,.int .i64 g,.int .i64 h] then .int .i64 n.1 else .int .i64 (y2.i l)),.own 3 n.2.n,SM.stM n.2])) (.mk q.1 (e2.trans (q.2 _ rfl))) (by rw [IH];rfl))
    λ_=>.e (SM.CH.mk (-1002) y2.s (λl=>bif dV l [.int .i64 f,.int .i64 g,.int .i64 h] then true else y2.d l) (λl=>bif dV l [.int .i64 f,.int .i64 g,.int .i64 h] then -1002 else y2.i l))
     (r:=(.int .i64 (-1002),[SM.M7 y2.s,.mp true [.int .i64,.int .i64,.int .i64] (λl=>bif dV l [.int .i64 f,.int .i64 g,.int .i64 h] then true else y2.d l) (λl=>bif dV l [.int .i64 f,.int .i64 g,.int .i64 h] then .int .i64 (-1002) else .int .i64 (y2.i l)),.own 3 y2.s.n,SM.stM y2.s])) (.mk q2.1 e2) (by rw [IH];rfl)))))))) (by kernel_rfl)
end Go.T

namespace Go.T
open Go Go.Ab Go.Proofs Go.SH
open Go.SM (STO vId eF jn jo stC stM ND IG Cnd)
def Qd:List AO->Nat
 | .cells (.sl _ _ n _::_)::_=>n
 | _=>0
def Fis (l:List AV) (os:List AO):AV×List AO:=(.bool (bif decide (cI 1 l > -1002) then decide (cI 1 l < (Qd os:Int)) else false),os)
noncomputable abbrev eIs:Ent:=K9 Ix Fis
theorem Mh (s:STO) (x:Int):Ct wd.P wd.G Ix [cR,.int .i64 x] s.objs (Fis [cR,.int .i64 x] s.objs):=
 aG.ct (ef (V:=V0) [] 3 (.r () trivial) (by kernel_rfl))
noncomputable abbrev KH:Ent:=aY wd gB φB2 O6
noncomputable abbrev OJ:Ent:=aY wd tk φN gX
theorem Ah {s:STO} (hs:s.Ok) {x:Int} (hx:vId s x) : -1 < eF s x:=by
 by_cases h:x < 0
 ·rw [SM.ud h];decide
 ·rw [SM.qH h];have:=(hs.t x.toNat (by have:=hx.2;omega)).1;omega
noncomputable abbrev VCo:Env:=Vb [0,1,2,3,4,5,6,7,8,9,10,11,12,13,14,15,16,17,18,19,20,21,22,23,24] [] []
theorem sD {s:STO} (hs:s.Ok) (f g h:Int):aG wd tk φN gX [cR,.int .i64 f,.int .i64 g,.int .i64 h] s.objs:=by
 have nt:∀ {b:Bool},(bif false then true else !b)=false->b=true:=fun {b} h=>by cases b with | true=>rfl | false=>exact absurd h (by decide)
 exact ef (V:=VCo) [KH,eIs,Ff] 1 (.call (kN hs f) λt q=>
  have e:s=t.2:=SM.iz q.1
  have hs':t.2.Ok:=e ▸ hs
  have no:Run (gX [cR,.int .i64 f,.int .i64 g,.int .i64 h] s.objs) φN (some (.int .i64 (-1002),t.2.objs)):=.r ((-1002:Int),t.2) (e ▸ .mk hs (SM.Ext.refl s))
  .b (!t.1) (λ_=>no) λh1=>.n (eS (Mh t.2 g)) (.b (bif false then true else !bif decide (g > -1002) then decide (g < (t.2.n:Int)) else false) (λ_=>no) λh2=>
   .n (eS (Mh t.2 h)) (.b (bif false then true else !bif decide (h > -1002) then decide (h < (t.2.n:Int)) else false) (λ_=>no) λh3=>
   have cf:Cnd t.2 f:=q.2 (by simpa using h1)
   have vg:=SM.isT (nt h2)
   have vh:=SM.isT (nt h3)
   .call (Fz 1002 t.2 (λ_=>false) (λ_=>0) f g h hs' cf vg vh (by have:=SM.OU (Ah hs' cf.id) (Ah hs' vg) (Ah hs' vh);omega)) λc qc=>
   .r (c.z,c.s) ⟨qc.1,λs' h'=>by rw [<-SM.iz h'];exact e ▸ qc.2 _ _ _ rfl⟩))) (by kernel_rfl)
theorem MZ {s:STO} (hs:s.Ok) (f:Int):aG wd D8 φN gX [cR,.int .i64 f] s.objs:=
 ef (V:=V0) [OJ] 1 (.call (sD hs f (-1) (-2)) λc q=>.r (c.1,c.2) q) (by kernel_rfl)
theorem M3 {s:STO} (hs:s.Ok) (f g:Int):aG wd Ea φN gX [cR,.int .i64 f,.int .i64 g] s.objs:=
 ef (V:=V0) [KH,OJ] 1 (.call (kN hs g) λt q=>
  have e:s=t.2:=SM.iz q.1
  .b (!t.1) (λ_=>.r ((-1002:Int),t.2) (e ▸ .mk hs (SM.Ext.refl s))) λ_=>.call (sD (e ▸ hs) f g (-1)) λc qc=>.r (c.1,c.2) ⟨qc.1,λs' h'=>by rw [<-SM.iz h',e];exact qc.2 _ rfl⟩) (by kernel_rfl)
theorem MY {s:STO} (hs:s.Ok) (f g:Int):aG wd Iy φN gX [cR,.int .i64 f,.int .i64 g] s.objs:=
 ef (V:=V0) [KH,OJ] 1 (.call (kN hs g) λt q=>
  have e:s=t.2:=SM.iz q.1
  .b (!t.1) (λ_=>.r ((-1002:Int),t.2) (e ▸ .mk hs (SM.Ext.refl s))) λ_=>.call (sD (e ▸ hs) f (-2) g) λc qc=>.r (c.1,c.2) ⟨qc.1,λs' h'=>by rw [<-SM.iz h',e];exact qc.2 _ rfl⟩) (by kernel_rfl)
noncomputable abbrev PG:Ent:=aY wd Ea φN gX
noncomputable abbrev eOr:Ent:=aY wd Iy φN gX
noncomputable abbrev Pv:Ent:=aY wd D8 φN gX
end Go.T

namespace Go.T
open Go Go.Ab Go.Proofs Go.SH
open Go.SM (exL Ng Qb lp pP BZ B0 dx)
abbrev iD {τ:Type} (_:List AV) (_:List AO) (_:τ):Prop:=True
def SQ (x y:AV) (i:Int):St:={env:=[(0,x),(1,y),(5,.int .i64 i)],objs:=[]}
abbrev ix (n:Nat) (i:Int):Prop:=0<=i/\i<=n
theorem av {n:Nat} {i:Int} (h:ix n i) (hn:n<=4611686018427387904) (hi:i < n):ix n (IntKind.wrap .i64 (i+1))/\(n - IntKind.wrap .i64 (i+1)).toNat < (n - i).toNat:=by
 have h1:=h.1
 rw [wrap_i64 (by omega) (by omega)]
 exact ⟨⟨by omega,by omega⟩,by omega⟩
theorem bA {n:Nat} {i:Int} (h:ix n i) (hi:decide (i < (n:Int))=true):within i n=true:=ax h.1 (of_decide_eq_true hi)
noncomputable abbrev OE:Ent:=aY wd yz φB iD
noncomputable abbrev IW:Ent:=aY wd AJ φB iD
noncomputable abbrev MC:Ent:=aY wd jv φB iD
noncomputable abbrev Bg:Ent:=aY wd gY φB iD
noncomputable abbrev KC:Ent:=aY wd kp φB iD
theorem Jt (l r:List (List UInt8)) (hl:l.length<=4611686018427387904):aG wd yz φB iD [bO l,bO r] []:=by
 obtain ⟨u,o,hu,h⟩:=ay (V:=V0) (T:=[]) (d:=1) (W:=[]) (f:=yz) (p:=pP) (Lf:=λL=>L) (SQ (bO l) (bO r)) (λi=>ix l.length i/\l.length=r.length) (λi=>(l.length - i).toNat) Ng (λ_=>True) (by kernel_rfl)
  (λi hi=>.b (decide (i < (l.length:Int))) (λh=>.n (bA hi.1 h) (.n (bA (n:=r.length) (hi.2 ▸ hi.1) (hi.2 ▸ h)) (.b (!(l.getD i.toNat []==r.getD i.toNat [])) (λ_=>.fi false trivial) λ_=>.to (IntKind.wrap .i64 (i+1)) ⟨(av hi.1 hl (of_decide_eq_true h)).1,hi.2⟩ (av hi.1 hl (of_decide_eq_true h)).2)))
   λ_=>.fi true trivial) (λv L k kn=>by kernel_rfl)
 exact fJ (V:=V0) [] 1 h (.b ((l.length:Int) !=r.length) (λ_=>.r false trivial) λh=>.lp (hu 0 ⟨⟨Int.le_refl _,by omega⟩,SM.Ob _ _ h⟩) λt _=>.b t (λ_=>.r true trivial) λ_=>.r false trivial) (by kernel_rfl)
theorem H3 (a b:VAL) (h:a.Ok):aG wd AJ φB iD [.agg a.c,.agg b.c] []:=
 ef (V:=V0) [OE] 1 (.call (Jt a.list b.list h.2.1) λt _=>.r (bif bif bif a.kind==b.kind then a.num==b.num else false then a.text==b.text else false then t else false) trivial) (by kernel_rfl)
theorem GU (l r:List VAL) (hl:sZ l):aG wd jv φB iD [iP l,iP r] []:=by
 obtain ⟨u,o,hu,h⟩:=ay (V:=V0) (T:=[IW]) (d:=1) (W:=[]) (f:=jv) (p:=pP) (Lf:=λL=>L) (SQ (iP l) (iP r)) (λi=>ix l.length i/\l.length=r.length) (λi=>(l.length - i).toNat) Ng (λ_=>True) (by kernel_rfl)
  (λi hi=>.b (decide (i < (l.length:Int))) (λh=>.n (bA hi.1 h) (.n (bA (n:=r.length) (hi.2 ▸ hi.1) (hi.2 ▸ h)) (.call (H3 (l.getD i.toNat default) (r.getD i.toNat default) (hl.at (by have:=of_decide_eq_true h;have:=hi.1.1;omega))) λt _=>.b (!t) (λ_=>.fi false trivial) λ_=>.to (IntKind.wrap .i64 (i+1)) ⟨(av hi.1 hl.1 (of_decide_eq_true h)).1,hi.2⟩ (av hi.1 hl.1 (of_decide_eq_true h)).2)))
   λ_=>.fi true trivial) (λv L k kn=>by kernel_rfl)
 exact fJ (V:=V0) [IW] 1 h (.b ((l.length:Int) !=r.length) (λ_=>.r false trivial) λh=>.lp (hu 0 ⟨⟨Int.le_refl _,by omega⟩,SM.Ob _ _ h⟩) λt _=>.b t (λ_=>.r true trivial) λ_=>.r false trivial) (by kernel_rfl)
theorem Dt (l r:List EXP) (H:∀a∈l,∀b:EXP,aG wd gY φB iD [.agg a.c,.agg b.c] []) (hl:l.length<=4611686018427387904):aG wd kp φB iD [exL l,exL r] []:=by
 have hp:(lp l).n=l.length:=rfl
 have hq:(lp r).n=r.length:=rfl
 obtain ⟨u,o,hu,h⟩:=ay (V:=V0) (T:=[Bg]) (d:=1) (W:=[]) (f:=kp) (p:=pP) (Lf:=λL=>L) (SQ (uY (lp l)) (uY (lp r))) (λi=>ix (lp l).n i/\(lp l).n=(lp r).n) (λi=>((lp l).n - i).toNat) Ng (λ_=>True) (by kernel_rfl)
  (λi hi=>.b (decide (i < ((lp l).n:Int))) (λh=>.n (bA hi.1 h) (.n (bA (n:=(lp r).n) (hi.2 ▸ hi.1) (hi.2 ▸ h)) (.call (f:=gY) (R:=iD) (ψ:=φB) (l:=[.agg (Cv (lp l) i.toNat),.agg (Cv (lp r) i.toNat)]) (os:=[])
    (by
     have h:=of_decide_eq_true h
     have h1:=hi.1.1
     have hm:=hi.2
     rw [hp] at h hm
     rw [hq] at hm
     rw [B0 (by omega),B0 (by omega)]
     exact H _ (dx (by omega)) _)
    λt _=>.b (!t) (λ_=>.fi false trivial) λ_=>.to (IntKind.wrap .i64 (i+1)) ⟨(av hi.1 hl (of_decide_eq_true h)).1,hi.2⟩ (av hi.1 hl (of_decide_eq_true h)).2)))
   λ_=>.fi true trivial) (λv L k kn=>by kernel_rfl)
 rw [BZ,BZ] at hu
 exact fJ (V:=V0) [Bg] 1 h (.b ((l.length:Int) !=r.length) (λ_=>.r false trivial) λh=>.lp (hu 0 ⟨⟨Int.le_refl _,by omega⟩,SM.Ob _ _ h⟩) λt _=>.b t (λ_=>.r true trivial) λ_=>.r false trivial) (by kernel_rfl)
theorem GX {a:EXP} (ha:a.Ok):∀b:EXP,aG wd gY φB iD [.agg a.c,.agg b.c] []:=by
 induction ha with
 | mk a h1 h2 h3 h4 h5 ih=>
  intro b
  rw [EXP.Cj a,EXP.Cj b]
  exact ef (V:=V0) [MC,KC] 1 (.call (GU a.vals b.vals h3) λt _=>.call (Dt a.kids b.kids ih (by omega)) λt' _=>
   .r (bif bif bif bif a.op==b.op then a.kind==b.kind else false then a.name==b.name else false then t else false then t' else false) trivial) (by kernel_rfl)
def SI (x:AV) (c:List AV) (i:Int):St:={env:=[(0,x),(3,.ref 3 0),(5,.int .i64 i)],objs:=[(3,.cells c)]}
def Pa (b:Bool×Int) (k:Ex->St->Res):Res:=cond b.1 (k (.exit 0) {env:=[],objs:=[]}) (k .ret {env:=[(4,.int .i64 b.2)],objs:=[]})
def JG (n:Nat) (_:List AV) (_:List AO) (y:Int):Prop:=-1<=y/\y < n
theorem A4 (l:List EXP) (e:EXP) (hl:l.length<=4611686018427387904) (H:∀a∈l,a.Ok):aG wd rq SM.φI' (JG l.length) [exL l,.agg e.c] []:=by
 have hp:(lp l).n=l.length:=rfl
 obtain ⟨u,o,hu,h⟩:=ay (V:=V0) (T:=[Bg]) (d:=1) (W:=[]) (f:=rq) (p:=[1,0,1,0]) (Lf:=λL=>L) (SI (uY (lp l)) e.part.c) (λi=>ix (lp l).n i) (λi=>((lp l).n - i).toNat) Pa (λb=>b.1=false->0<=b.2/\b.2 < l.length) (by kernel_rfl)
  (λi hi=>.b (decide (i < ((lp l).n:Int))) (λh=>.n (bA hi h) (.call (f:=gY) (R:=iD) (ψ:=φB) (l:=[.agg (Cv (lp l) i.toNat),.agg e.part.c]) (os:=[])
    (by
     have h:=of_decide_eq_true h
     have h1:=hi.1
     rw [hp] at h
     rw [B0 (by omega),EXP.bI]
     exact GX (H _ (dx (by omega))) _)
    λt _=>.b t (λ_=>.fi (false,i) (λ_=>⟨hi.1,of_decide_eq_true h⟩)) λ_=>.to (IntKind.wrap .i64 (i+1)) (av hi hl (of_decide_eq_true h)).1 (av hi hl (of_decide_eq_true h)).2))
   λ_=>.fi (true,0) (λh=>by cases h)) (λv L k kn=>by kernel_rfl)
 rw [<-EXP.bI e]
 rw [BZ] at hu
 exact fJ (V:=V0) [Bg] 1 h (.lp (hu 0 ⟨Int.le_refl _,by omega⟩) λt q=>.b t.1 (λ_=>.r (-1:Int) ⟨Int.le_refl _,by omega⟩) λh=>.r t.2 ⟨by have:=(q h).1;omega,(q h).2⟩) (by kernel_rfl)
end Go.T

namespace Go.T
open Go Go.Ab Go.Proofs Go.SH
open Go.SM (STO stC stM exL lp BZ B0 dx KOk)
def DSI (x:AV) (p:PART) (v:Int×STO×Int):St:={env:=[(0,.ref aa 0),(1,x),(5,.ref 5 0),(7,.int .i64 v.1),(8,.int .i64 v.2.2)],objs:=[(5,.cells p.c),(1000000,stC v.2.1),(1000001,.own 3 v.2.1.n),(1000002,stM v.2.1)]}
def Pc (x:Int×STO) (k:Ex->St->Res):Res:=k (.exit 1) {env:=[(7,.int .i64 x.1)],objs:=[(1000000,stC x.2),(1000001,.own 3 x.2.n),(1000002,stM x.2)]}
noncomputable abbrev MG:Ent:=aY wd eI φN gX
noncomputable abbrev ME (n:Nat):Ent:=aY wd rq SM.φI' (JG n)
theorem j0 {i:Int} {n:Nat} (h:within i n=true):0<=i/\i < n:=by unfold within at h;simpa using h
theorem gX.to {s:STO} {l:List AV} {x:Int×STO} (h:gX l s.objs x):SM.Ext s x.2:=h.2 s rfl
theorem ML (l:List EXP) (hl:l.length<=4611686018427387904) (hk:∀a∈l,a.Ok) {e:EXP} (he:KOk e):∀s:STO,s.Ok->aG wd eI φN gX [cR,exL l,.agg e.c] s.objs:=by
 induction he with
 | mk e h1 h2 h3 ih=>
  intro s hs
  have pn:e.part.n=e.kids.length:=rfl
  have call:∀ (s:STO) (i:Int),s.Ok->within i e.part.n=true->aG wd eI φN gX [cR,exL l,.agg (Cv e.part i.toNat)] s.objs:=λs i hs hi=>by
   have hi:=j0 hi
   rw [pn] at hi
   rw [hM (by omega)]
   exact ih _ (dx (by omega)) s hs
  obtain ⟨u,o,hu,hlo⟩:=ay (V:=V0) (T:=[MG,PG,eOr,Pv,ME l.length,KG]) (d:=1) (W:=[]) (f:=eI) (p:=[1,0,1,0,1,1,1,1,1,0,1,0,1,0]) (Lf:=λL=>L) (DSI (exL l) e.part) (λv=>(v.2.1.Ok/\SM.Ext s v.2.1)/\ix e.part.n v.2.2) (λv=>(e.part.n - v.2.2).toNat) Pc (λx=>x.2.Ok/\SM.Ext s x.2) (by kernel_rfl)
   (λv hv=>.b (decide (v.2.2 < (e.part.n:Int))) (λh=>.n (bA hv.2 h) (.call (call v.2.1 v.2.2 hv.1.1 (bA hv.2 h)) λt1 q1=>
    .b (e.part.op==2) (λ_=>.call (M3 q1.1 v.1 t1.1) λt2 q2=>.to (t2.1,t2.2,IntKind.wrap .i64 (v.2.2+1)) ⟨⟨q2.1,hv.1.2.trans (q1.to.trans q2.to)⟩,(av hv.2 (by rw [pn];omega) (of_decide_eq_true h)).1⟩ (av hv.2 (by rw [pn];omega) (of_decide_eq_true h)).2)
     λ_=>.call (MY q1.1 v.1 t1.1) λt2 q2=>.to (t2.1,t2.2,IntKind.wrap .i64 (v.2.2+1)) ⟨⟨q2.1,hv.1.2.trans (q1.to.trans q2.to)⟩,(av hv.2 (by rw [pn];omega) (of_decide_eq_true h)).1⟩ (av hv.2 (by rw [pn];omega) (of_decide_eq_true h)).2))
    λ_=>.fi (v.1,v.2.1) hv.1) (λv L k kn=>by kernel_rfl)
  have at0:(e.part.op==2)=true∨(e.part.op==3)=true∨(e.part.op==4)=true->within 0 e.part.n=true:=λh=>ax (Int.le_refl _) (by
   have h:e.part.op=2∨e.part.op=3∨e.part.op=4:=by simpa using h
   have:=h1 h
   rw [pn];omega)
  have hix:=A4 l e hl hk
  rw [<-EXP.bI e] at hix ⊢
  have fin:∀x:Int×STO,x.2.Ok/\SM.Ext s x.2->gX [cR,exL l,.agg e.part.c] s.objs x:=λx h=>.mk h.1 h.2
  have first:=λ(h:(e.part.op==2)=true∨(e.part.op==3)=true∨(e.part.op==4)=true)=>(.n (at0 h) (.call (call s 0 hs (at0 h)) λt q=>.lp (hu (t.1,t.2,1) ⟨⟨q.1,q.to⟩,by show (0:Int)<=1;decide,by have:=(j0 (at0 h)).2;show (1:Int)<=_;omega⟩) λy qy=>.r (y.1,y.2) (fin y qy)):Run (gX [cR,exL l,.agg e.part.c] s.objs) φN _)
  have atom:=(.call hix λt4 _=>.b (decide (t4 < 0)) (λ_=>.r ((-1002:Int),s) (.mk hs (SM.Ext.refl s))) λ_=>.call (El hs t4 (-2) (-1)) λy qy=>.r (y.1,y.2) (fin y ⟨qy.1,qy.to⟩):Run (gX [cR,exL l,.agg e.part.c] s.objs) φN _)
  exact fJ (V:=V0) [MG,PG,eOr,Pv,ME l.length,KG] 1 hlo (.b (e.part.op==1) (λ_=>.r ((-2:Int),s) (.mk hs (SM.Ext.refl s))) λ_=>
   .b (e.part.op==4) (λh=>.n (at0 (.inr (.inr h))) (.call (call s 0 hs (at0 (.inr (.inr h)))) λt q=>.call (MZ q.1 t.1) λy qy=>.r (y.1,y.2) (fin y ⟨qy.1,q.to.trans qy.to⟩))) λ_=>
   .b (e.part.op==2) (λh=>.b (e.part.op==2) (λh=>first (.inl h)) λ_=>atom) λ_=>.b (e.part.op==3) (λh=>first (.inr (.inl h))) λ_=>atom) (by kernel_rfl)
end Go.T

namespace Go.T
open Go Go.Ab Go.Proofs Go.SH
open Go.SM (exL lp BZ B0 dx jW WL A0 DL fW Mc)
def ASI (x:AV) (cs:List AV) (i:Int):St:={env:=[(0,x),(3,.ref 3 0),(5,.int .i64 i)],objs:=[(3,.cells cs)]}
theorem z6 (l:List EXP) (e:EXP):eY (mkU (db SM.KS (λx=>x=(l,e))) (fO SM.KS (λx=>x=(l,e)) id) WL):=by
 refine l6 SM.KS WL _ λv _ B c a hr hn=>?_
 have:=vY (t:=0) (get':=EXP.row (v.1++[v.2])) hr hn rfl λj hj=>DL v.1 v.2 hj
 have e:((SM.KS v).put (some 0) (.sl .no 5 (0+v.1.length+1) (EXP.row (v.1++[v.2]))))=WL v:=by
  unfold WL A0 exL
  rw [show (v.1++[v.2]).length=0+v.1.length+1 by simp]
  rfl
 rw [e] at this
 exact this
def JH (a:List AV) (_:List AO) (r:List EXP):Prop:=jW r/\∀x,a=SM.mA x->r.length<=x.1.length+x.2.size
noncomputable abbrev MH:Ent:=aY wd fR SM.φA JH
theorem K3 {e:EXP} (he:e.Ok):∀l:List EXP,jW l->l.length+e.size<=100000->aG wd fR SM.φA JH (SM.mA (l,e)) []:=by
 induction he with
 | mk e h1 h2 h3 h4 h5 ih=>
  intro l hl hB
  have pn:e.part.n=e.kids.length:=rfl
  have sz:e.size=1+cu e.kids:=e.size_eq
  obtain ⟨u,o,hu,hlo⟩:=ay (V:=V0) (T:=[MH,ME l.length]) (d:=3) (W:=[([1,1],mkU (db SM.KS (λx=>x=(l,e))) (fO SM.KS (λx=>x=(l,e)) id) WL)]) (f:=fR) (p:=[1,1,0,1,0]) (Lf:=λL=>L) (λv:List EXP×Int=>ASI (exL v.1) e.part.c v.2)
   (λv=>(jW v.1/\ix e.part.n v.2)/\v.1.length+cu (e.kids.drop v.2.toNat)<=l.length+e.size) (λv=>(e.part.n - v.2).toNat) SM.Qc (λr=>jW r/\r.length<=l.length+e.size) (by kernel_rfl)
   (λv hv=>.b (decide (v.2 < (e.part.n:Int))) (λh=>.n (bA hv.1.2 h) (
     have hi:v.2.toNat < e.kids.length:=by have:=of_decide_eq_true h;have:=hv.1.2.1;rw [pn] at *;omega
     .call (f:=fR) (R:=JH) (ψ:=SM.φA) (l:=[exL v.1,.agg (Cv e.part v.2.toNat)]) (os:=[])
     (by
      rw [hM hi]
      have:=fW hi
      exact ih _ (dx hi) v.1 hv.1.1 (by have:=hv.2;omega)) λt q=>
     .to (t,IntKind.wrap .i64 (v.2+1)) (by
      have hx:=av hv.1.2 (by rw [pn];omega) (of_decide_eq_true h)
      have hd:=fW hi
      have hq:=q.2 (v.1,e.kid v.2.toNat) (by unfold SM.mA;rw [hM hi])
      have h0:=hv.1.2.1
      refine ⟨⟨q.1,hx.1⟩,?_⟩
      show t.length+cu (e.kids.drop (IntKind.wrap .i64 (v.2+1)).toNat)<=_
      rw [wrap_i64 (by omega) (by omega),show (v.2+1).toNat=v.2.toNat+1 by omega]
      have hq:t.length<=v.1.length+(e.kids.getD v.2.toNat default).size:=hq
      have:=hv.2
      omega) (av hv.1.2 (by rw [pn];omega) (of_decide_eq_true h)).2))
    λ_=>.fi v.1 ⟨hv.1.1,by have:=hv.2;omega⟩) (λv L k kn=>by kernel_rfl)
  have hK:bT (db SM.KS (λx=>x=(l,e))) (fO SM.KS (λx=>x=(l,e)) id) (SM.KS (l,e)) (λy=>y=(l,e)):=
   ⟨gG (S:=SM.KS) rfl,fN (S:=SM.KS) (Inv:=λx=>x=(l,e)) (w:=id) (Post:=λ_ y=>y=(l,e)) (λa h=>h) (λ_ _ _ _ h=>h) rfl⟩
  have gN:∀ (c:List AV),db SM.KS (λx=>x=(l,e)) {env:=[(0,exL l),(3,.ref 3 0)],objs:=[(3,.cells c)]}=false:=λc=>nh λv _ h=>by
   simp [SM.KS,A0,exL] at h
  have hal:jW (l++[e]):=λa ha=>by
   rcases List.mem_append.1 ha with h | h
   ·exact hl a h
   ·rw [List.mem_singleton.1 h];exact .mk e h1 h2 h3 h4 h5
  have hix:=A4 l e (by omega) hl
  have fin:∀r:List EXP,jW r/\r.length<=l.length+e.size->JH (SM.mA (l,e)) [] r:=λr h=>⟨h.1,λx hx=>by rw [<-Mc hx];exact h.2⟩
  have go:∀l':List EXP,jW l'->l'.length+cu e.kids<=l.length+e.size->bT u o (ASI (exL l') e.part.c 0) (λr=>jW r/\r.length<=l.length+e.size):=λl' h h'=>hu (l',0) ⟨⟨h,Int.le_refl _,by show (0:Int)<=_;omega⟩,h'⟩
  have g1:=go (l++[e]) hal (by simp;omega)
  have g0:=go l hl (by omega)
  have bad:∀ {c:Bool} {P:Prop},c=true->c=false->P:=λh h'=>by rw [h] at h';cases h'
  have hmA:SM.mA (l,e)=[exL l,.agg e.part.c]:=by unfold SM.mA;rw [EXP.bI]
  rw [hmA] at fin ⊢
  rw [<-EXP.bI e] at hix
  have r1:roomy 88 (0+l.length)=true:=by unfold roomy;exact Nat.ble_eq_true_of_le (by omega)
  have r2:(roomy 88 (0+l.length+1)&&Nat.beq (0+l.length) (0+l.length))=true:=by
   rw [Nat.beq_refl,Bool.and_true];unfold roomy;exact Nat.ble_eq_true_of_le (by omega)
  cases l with
  | nil=>exact de (V:=V0) (T:=[MH,ME ([]).length]) (d:=3) 0 (ah (hlo _) aE) (cw (z6 ([]) e) aD) (.call hix λt1 _=>.b (bif bif e.part.op==5 then true else bif decide (e.part.op≥6) then decide (e.part.op<=15) else false then decide (t1 < 0) else false)
    (λ_=>.lp hK λt q=>.lp (s:=ASI (exL (t.1++[t.2])) t.2.part.c 0) (by rw [q];exact g1) λr qr=>.r r (fin r qr))
    λ_=>.b (db SM.KS (λx=>x=([],e)) {env:=[(0,exL ([])),(3,.ref 3 0)],objs:=[(3,.cells e.part.c)]}) (λh=>(bad h (gN _):Run (JH [exL ([]),.agg e.part.c] []) SM.φA (cond (u (ASI (exL ((fO SM.KS (λx=>x=([],e)) id {env:=[(0,exL ([])),(3,.ref 3 0)],objs:=[(3,.cells e.part.c)]}).1++[(fO SM.KS (λx=>x=([],e)) id {env:=[(0,exL ([])),(3,.ref 3 0)],objs:=[(3,.cells e.part.c)]}).2])) (fO SM.KS (λx=>x=([],e)) id {env:=[(0,exL ([])),(3,.ref 3 0)],objs:=[(3,.cells e.part.c)]}).2.part.c 0)) (some (SM.φA (o (ASI (exL ((fO SM.KS (λx=>x=([],e)) id {env:=[(0,exL ([])),(3,.ref 3 0)],objs:=[(3,.cells e.part.c)]}).1++[(fO SM.KS (λx=>x=([],e)) id {env:=[(0,exL ([])),(3,.ref 3 0)],objs:=[(3,.cells e.part.c)]}).2])) (fO SM.KS (λx=>x=([],e)) id {env:=[(0,exL ([])),(3,.ref 3 0)],objs:=[(3,.cells e.part.c)]}).2.part.c 0)))) none)))
     λ_=>.lp g0 λr qr=>.r r (fin r qr)) (by kernel_rfl)
  | cons a l=>exact de (V:=V0) (T:=[MH,ME (a::l).length]) (d:=3) 0 (ah (hlo _) aE) (cw (z6 (a::l) e) aD) (.call hix λt1 _=>.b (bif bif e.part.op==5 then true else bif decide (e.part.op≥6) then decide (e.part.op<=15) else false then decide (t1 < 0) else false)
    (λ_=>.n r1 (.n r2 (.lp hK λt q=>.lp (s:=ASI (exL (t.1++[t.2])) t.2.part.c 0) (by rw [q];exact g1) λr qr=>.r r (fin r qr))))
    λ_=>.b (db SM.KS (λx=>x=(a::l,e)) {env:=[(0,exL (a::l)),(3,.ref 3 0)],objs:=[(3,.cells e.part.c)]}) (λh=>(bad h (gN _):Run (JH [exL (a::l),.agg e.part.c] []) SM.φA (cond (u (ASI (exL ((fO SM.KS (λx=>x=(a::l,e)) id {env:=[(0,exL (a::l)),(3,.ref 3 0)],objs:=[(3,.cells e.part.c)]}).1++[(fO SM.KS (λx=>x=(a::l,e)) id {env:=[(0,exL (a::l)),(3,.ref 3 0)],objs:=[(3,.cells e.part.c)]}).2])) (fO SM.KS (λx=>x=(a::l,e)) id {env:=[(0,exL (a::l)),(3,.ref 3 0)],objs:=[(3,.cells e.part.c)]}).2.part.c 0)) (some (SM.φA (o (ASI (exL ((fO SM.KS (λx=>x=(a::l,e)) id {env:=[(0,exL (a::l)),(3,.ref 3 0)],objs:=[(3,.cells e.part.c)]}).1++[(fO SM.KS (λx=>x=(a::l,e)) id {env:=[(0,exL (a::l)),(3,.ref 3 0)],objs:=[(3,.cells e.part.c)]}).2])) (fO SM.KS (λx=>x=(a::l,e)) id {env:=[(0,exL (a::l)),(3,.ref 3 0)],objs:=[(3,.cells e.part.c)]}).2.part.c 0)))) none)))
     λ_=>.lp g0 λr qr=>.r r (fin r qr)) (by kernel_rfl)
end Go.T

namespace Go.T
open Go Go.Ab Go.Proofs Go.SH
open Go.SM (exL dx jW NB RB whens tY uD rlP fW)
theorem Gd (l:List RULE):eY (mkU (db NB (λx=>x=l)) (fO NB (λx=>x=l) id) RB):=by
 refine l6 NB RB _ λv _ B c a hr hn=>?_
 exact Aj (t:=3) (sz':=5) (get':=EXP.row []) hr hn rfl
def RAI (l:List RULE) (v:List EXP×Int):St:={env:=[(0,mc l),(3,exL v.1),(4,.int .i64 v.2)],objs:=[]}
def rRA (_:List AV) (_:List AO) (t:List EXP):Prop:=jW t/\t.length<=100000
theorem Ic {l:List RULE} (h:rlP l):aG wd jx SM.φA rRA [mc l] []:=by
 obtain ⟨hok,hsz,hlen⟩:=h
 have hwl:(whens l).length=l.length:=by unfold whens;simp
 obtain ⟨u,o,hu,hlo⟩:=ay (V:=V0) (T:=[MH]) (d:=1) (W:=[([1,1],mkU (db NB (λx=>x=l)) (fO NB (λx=>x=l) id) RB)]) (f:=jx) (p:=[1,1,0,1,0]) (Lf:=λL=>L) (RAI l)
  (λv=>(jW v.1/\ix l.length v.2)/\v.1.length+cu ((whens l).drop v.2.toNat)<=cu (whens l)) (λv=>(l.length - v.2).toNat) SM.NR (λr=>jW r/\r.length<=100000) (by kernel_rfl)
  (λv hv=>.b (decide (v.2 < (l.length:Int))) (λh=>.n (bA hv.1.2 h) (
    have hi:v.2.toNat < l.length:=by have:=of_decide_eq_true h;have:=hv.1.2.1;omega
    have hd:=fW (l:=whens l) (i:=v.2.toNat) (by omega)
    .call (f:=fR) (R:=JH) (ψ:=SM.φA) (l:=[exL v.1,.agg [.int .i64 (l.getD v.2.toNat default).when.op,.str (l.getD v.2.toNat default).when.kind,.str (l.getD v.2.toNat default).when.name,iP (l.getD v.2.toNat default).when.vals,exL (l.getD v.2.toNat default).when.kids] ]) (os:=[])
    (by
     rw [SM.tZ]
     rw [tY hi] at hd
     exact K3 (hok _ (uD hi)) v.1 hv.1.1 (by have:=hv.2;omega)) λt q=>
    .to (t,IntKind.wrap .i64 (v.2+1)) (by
     have hx:=av hv.1.2 (by omega) (of_decide_eq_true h)
     have hq:=q.2 (v.1,(l.getD v.2.toNat default).when) (by unfold SM.mA;rw [SM.tZ])
     have h0:=hv.1.2.1
     refine ⟨⟨q.1,hx.1⟩,?_⟩
     show t.length+cu ((whens l).drop (IntKind.wrap .i64 (v.2+1)).toNat)<=_
     rw [wrap_i64 (by omega) (by omega),show (v.2+1).toNat=v.2.toNat+1 by omega]
     have hq:t.length<=v.1.length+(l.getD v.2.toNat default).when.size:=hq
     rw [tY hi] at hd
     have:=hv.2
     omega) (av hv.1.2 (by omega) (of_decide_eq_true h)).2))
   λ_=>.fi v.1 ⟨hv.1.1,by have:=hv.2;omega⟩) (λv L k kn=>by kernel_rfl)
 have hK:bT (db NB (λx=>x=l)) (fO NB (λx=>x=l) id) (NB l) (λy=>y=l):=
  ⟨gG (S:=NB) rfl,fN (S:=NB) (Inv:=λx=>x=l) (w:=id) (Post:=λ_ y=>y=l) (λa h=>h) (λ_ _ _ _ h=>h) rfl⟩
 have g:=hu ([],0) ⟨⟨λa ha=>(List.not_mem_nil ha).elim,Int.le_refl _,by show (0:Int)<=_;omega⟩,by show 0+cu (whens l)<=cu (whens l);omega⟩
 have bad:∀ {c:Bool} {P:Prop},c=true->c=false->P:=λh h'=>by rw [h] at h';cases h'
 have g':∀x,x=l->bT u o (RAI x ([],0)) (λr=>jW r/\r.length<=100000):=λx h=>h ▸ g
 exact de (V:=V0) (T:=[MH]) (d:=1) 0 (ah (hlo _) aE) (cw (Gd l) aD) (.b (db NB (λx=>x=l) (NB l))
  (λ_=>.lp (s:=RAI (fO NB (λx=>x=l) id (NB l)) ([],0)) (g' _ hK.2) λr q=>.r r q)
  λh=>(bad hK.1 h:Run (rRA [mc l] []) SM.φA (cond (u {env:=[(0,mc l),(3,.sl .fit 0 0 λ_=>[]),(4,.int .i64 0)],objs:=[]}) (some (SM.φA (o {env:=[(0,mc l),(3,.sl .fit 0 0 λ_=>[]),(4,.int .i64 0)],objs:=[]}))) none))) (by kernel_rfl)
theorem L6:aG wd D9 SM.φN iD [] []:=de (V:=V0) (T:=[]) (d:=1) 1 aE aD (.r () trivial) (by kernel_rfl)
noncomputable abbrev eRA:Ent:=aY wd jx SM.φA rRA
noncomputable abbrev eNew:Ent:=aY wd D9 SM.φN iD
end Go.T

namespace Go.T
open Go Go.Ab Go.Proofs Go.SH
open Go.SM (STO stC stM exL dx jW KOk whens tY uD rlP IG LB NK UO stU φQ' UQ s00 Ir)
structure UV where
 s:STO
 sm:Int
 n:Nat
 w:Nat->Int
 i:Int
def US (l:List RULE) (t:List EXP) (v:UV):St:={env:=[(0,mc l),(5,.ref 12 0),(6,exL t),(7,.int .i64 v.sm),(8,.sl (.key 47) 1 v.n (IG v.w)),(9,.int .i64 v.i)],objs:=[(12,stU v.s),(100012,stM v.s),(47,.own 1 v.n),(600012,.own 3 v.s.n)]}
def whC (l:List RULE) (i:Int):List AV:=[.int .i64 (l.getD i.toNat default).when.op,.str (l.getD i.toNat default).when.kind,.str (l.getD i.toNat default).when.name,iP (l.getD i.toNat default).when.vals,exL (l.getD i.toNat default).when.kids]
theorem s4 {l:List RULE} (h:rlP l) (hk:∀r∈l,KOk r.when):aG wd cN φQ' iD [mc l] []:=by
 have hlen:=h.2.2
 obtain ⟨u,o,hu,hlo⟩:∃ (u:St->Bool) (o:St->UO),(∀ (t:List EXP) (v:UV),(jW t/\t.length<=100000)/\(v.s.Ok/\ix l.length v.i)/\(v.n:Int)<=v.i->bT u o (US l t v) (λ_=>True))/\∀L,bw (V0.run [MG,eOr,eRA,eNew] 1 [] L [] cN) cN [1,1,1,1,1,0,1,0] (mkO u o NK):=by
  obtain ⟨u,o,hu,hlo⟩:=ay (V:=V0) (T:=[MG,eOr,eRA,eNew]) (d:=1) (W:=[]) (f:=cN) (p:=[1,1,1,1,1,0,1,0]) (Lf:=λL=>L) (λv:List EXP×UV=>US l v.1 v.2)
   (λv=>(jW v.1/\v.1.length<=100000)/\(v.2.s.Ok/\ix l.length v.2.i)/\(v.2.n:Int)<=v.2.i) (λv=>(l.length - v.2.i).toNat) NK (λ_=>True) (by kernel_rfl)
   (λv hv=>.b (decide (v.2.i < (l.length:Int))) (λh=>.n (bA hv.2.1.2 h) (
     have hi:v.2.i.toNat < l.length:=by have:=of_decide_eq_true h;have:=hv.2.1.2.1;omega
     have hx:=av hv.2.1.2 (by omega) (of_decide_eq_true h)
     have hw:IntKind.wrap .i64 (v.2.i+1)=v.2.i+1:=wrap_i64 (by have:=of_decide_eq_true h;have:=hv.2.1.2.1;omega) (by have:=of_decide_eq_true h;omega)
     .call (f:=eI) (R:=gX) (ψ:=φN) (l:=[cR,exL v.1,.agg (whC l v.2.i)]) (os:=v.2.s.objs) (by
      unfold whC
      rw [SM.tZ]
      exact ML v.1 (by have:=hv.1.2;omega) hv.1.1 (hk _ (uD hi)) v.2.s hv.2.1.1) λt1 q1=>
     .call (MY q1.1 v.2.sm t1.1) λt2 q2=>.b (t2.1==-1002) (λ_=>.fi (UO.mk true t2.2 v.2.n v.2.w) trivial) λ_=>
     .b (t2.1==v.2.sm) (λ_=>.n (aH (b:=8) (n:=v.2.n+1) (m:=v.2.n) (by have:=hv.2.2;have:=hv.2.1.2.2;omega)) (.go
      {env:=[(0,mc l),(5,.ref 12 0),(6,exL v.1),(7,.int .i64 t2.1),(8,.sl (.key 47) 1 (v.2.n+1) (ag v.2.n 1 (IG v.2.w) (ae [.int .i64 0] [(0,.int .i64 (IntKind.wrap .i64 (v.2.i+1)))]))),(9,.int .i64 (IntKind.wrap .i64 (v.2.i+1)))],objs:=[(12,stU t2.2),(100012,stM t2.2),(47,.own 1 (v.2.n+1)),(600012,.own 3 t2.2.n)]}
      (v.1,UV.mk t2.2 t2.1 (v.2.n+1) (LB v.2.w v.2.n (IntKind.wrap .i64 (v.2.i+1))) (IntKind.wrap .i64 (v.2.i+1))) ⟨hv.1,⟨q2.1,hx.1⟩,by show ((v.2.n+1:Nat):Int)<=IntKind.wrap .i64 (v.2.i+1);rw [hw];have:=hv.2.2;omega⟩ hx.2 (by
       rw [show ae [AV.int .i64 0] [(0,AV.int .i64 (IntKind.wrap .i64 (v.2.i+1)))]=ae (IG Int.ofNat 0) [(0,AV.int .i64 (IntKind.wrap .i64 (v.2.i+1)))] from rfl,SM.wS];rfl)))
     λ_=>.to (v.1,UV.mk t2.2 t2.1 v.2.n v.2.w (IntKind.wrap .i64 (v.2.i+1))) ⟨hv.1,⟨q2.1,hx.1⟩,by show (v.2.n:Int)<=IntKind.wrap .i64 (v.2.i+1);rw [hw];have:=hv.2.2;omega⟩ hx.2))
    λ_=>.fi (UO.mk false v.2.s v.2.n v.2.w) trivial) (λv L k kn=>by kernel_rfl)
  exact ⟨u,o,λt v h=>hu (t,v) h,hlo⟩
 exact fJ (V:=V0) [MG,eOr,eRA,eNew] 1 hlo (.call L6 λ_ _=>.call (Ic h) λt q=>.lp (hu t ⟨s00,-1,0,λ_=>0,0⟩ ⟨q,⟨Ir,Int.le_refl _,by show (0:Int)<=_;omega⟩,Int.le_refl _⟩) λx _=>
  .b x.bad (λ_=>.t (r:=(.tup [.sl .fit 0 0 λ_=>[],.int .i64 x.s.n,.bool false],[])) (UQ.mk 0 (λ_=>0) x.s.n false) trivial (.tup (.cons aW (TellL.refl rfl))))
   λ_=>.r (UQ.mk x.n x.w x.s.n true) trivial) (by kernel_rfl)
end Go.T

namespace Go.T
open Go Go.Ab Go.Proofs Go.SH
open Go.SM (SP BL NF IA)
theorem oe {α τ ι:Type} [Inhabited τ] {V:Env} {T:List Ent} {d:Nat} {Lf:ι->List (List Nat×Orc)} {W:List (List Nat×Vw)} {f:FuncId} {p:List Nat} (S:α->St) (Inv:α->Prop) (μ:α->Nat) (out:τ->(Ex->St->Res)->Res) (Post:St->τ->Prop) (hb:kC (dM (bu V.P f) p)=true)
  {e:α->ι->(Ex->St->Res)->(St->Res)->Res} (h1:∀v,Inv v->RT S Inv μ out (λv o=>Post (S v) o) v (e v)) (he:∀v i k kn,dS (V.run T d [] (Lf i) W f) f 9 p (S v) kn k=e v i k kn) :
  ∃ (u:St->Bool) (w:St->τ),(∀v,Inv v->bT u w (S v) (Post (S v)))/\∀i,bw (V.run T d [] (Lf i) W f) f p (mkO u w out):=by
 obtain ⟨b,hb⟩:∃b,dM (bu V.P f) p=.loop b:=by
  cases hc:dM (bu V.P f) p with
  | loop b=>exact ⟨b,rfl⟩
  | _=>rw [hc] at hb;cases hb
 obtain ⟨w,hw,hl⟩:=uU (Xf:=λi=>V.run T d [] (Lf i) W f) (f:=f) (p:=p) (b:=b) S Inv μ out (λv o=>Post (S v) o) (λ_=>hb) 9 λv hv=>RT.eq (λi k kn=>he v i k kn) (h1 v hv)
 exact ⟨db S Inv,fO S Inv w,λv hv=>⟨gG hv,fN (S:=S) (Post:=λv o=>Post (S v) o) hw (λa b o hs hp=>by rw [<-hs];exact hp) hv⟩,hl⟩
def slI (t:Nat) (s:St):Int:=match alook s.env t with
 | some (.int _ x)=>x
 | _=>0
def S1 (n:Nat) (F T:Nat->Int) (v:Int×Int×(Nat->Bool)):St:={env:=[(0,.sl .no 2 n (SP F T)),(3,.msl 6 1 0 10000),(4,.int .i64 v.1),(5,.int .i64 v.2.1)],objs:=[(6,.arr 1 10000 (BL v.2.2))]}
def S2 (n:Nat) (F T:Nat->Int) (v:Int×(Nat->Bool)):St:={env:=[(0,.sl .no 2 n (SP F T)),(3,.msl 6 1 0 10000),(4,.int .i64 v.1)],objs:=[(6,.arr 1 10000 (BL v.2))]}
def JR (n:Nat) (F T:Nat->Int) (o:Int×(Nat->Bool)) (k:Ex->St->Res):Res:=k (.exit 2) (S2 n F T o)
theorem Dl (n:Nat) (F T:Nat->Int):∃ (u:St->Bool) (w:St->Int×(Nat->Bool)),(∀v:Int×Int×(Nat->Bool),within v.1 n=true/\0<=v.2.1->bT u w (S1 n F T v) (λo=>o.1=v.1))/\∀L,bw (V0.run [] 1 [] L [] eJ) eJ [1,1,0,1,0,0,1,0,0,1,0] (mkO u w (JR n F T)):=
 oe (V:=V0) (T:=[]) (d:=1) (W:=[]) (f:=eJ) (Lf:=λL=>L) (S1 n F T) (λv=>within v.1 n=true/\0<=v.2.1) (λv=>(10000 - v.2.1).toNat) (JR n F T) (λs o=>o.1=slI 4 s) (by kernel_rfl)
  (λv hv=>
   have lt:v.2.1 < (bif decide (10000 < T v.1.toNat) then 10000 else T v.1.toNat)->v.2.1 < 10000:=λh=>by
    by_cases h1:10000 < T v.1.toNat
    ·rw [decide_eq_true h1] at h;exact h
    ·rw [decide_eq_false h1] at h;have h:v.2.1 < T v.1.toNat:=h;omega
   .n hv.1 (.b (decide (v.2.1 < bif decide (10000 < T v.1.toNat) then 10000 else T v.1.toNat)) (λh=>
    have h:=lt (of_decide_eq_true h)
    .n (ax hv.2 h) (.n (c:=Nat.blt (0+v.2.1.toNat) 10000) (jM (by have:=hv.2;omega))
     (.nx {env:=[(0,.sl .no 2 n (SP F T)),(3,.msl 6 1 0 10000),(4,.int .i64 v.1),(5,.int .i64 (IntKind.wrap .i64 (v.2.1+1)))],objs:=[(6,.arr 1 10000 λj=>bif Nat.beq j (0+v.2.1.toNat) then [.bool true] else BL v.2.2 j)]}
      (v.1,IntKind.wrap .i64 (v.2.1+1),NF v.2.2 v.2.1) ⟨hv.1,by have:=hv.2;show 0<=IntKind.wrap .i64 (v.2.1+1);rw [wrap_i64 (by omega) (by omega)];omega⟩
      (by have:=hv.2;show (10000 - IntKind.wrap .i64 (v.2.1+1)).toNat < (10000 - v.2.1).toNat;rw [wrap_i64 (by omega) (by omega)];omega) (λ_ h=>h) (by rw [IA];rfl))))
    λ_=>.fi (v.1,v.2.2) rfl)) (λv L k kn=>by kernel_rfl)
theorem Dm {n:Nat} (F T:Nat->Int) (hn:n<=1000000):aG wd eJ SM.φS iD [.sl .no 2 n (SP F T)] []:=by
 obtain ⟨ui,wi,hi,hli⟩:=Dl n F T
 obtain ⟨u,w,hu,hl⟩:=ay (V:=V0) (T:=[]) (d:=1) (W:=[]) (f:=eJ) (p:=[1,1,0,1,0]) (Lf:=λo:Orc=>[([1,1,0,1,0],o),([1,1,0,1,0,0,1,0,0,1,0],mkO ui wi (JR n F T))]) (S2 n F T) (λv=>ix n v.1) (λv=>(n - v.1).toNat) SM.Pb (λ_=>True) (by kernel_rfl)
  (λv hv=>.b (decide (v.1 < (n:Int))) (λh=>.n (bA hv h) (.lp (hi (v.1,bif decide (0 > F v.1.toNat) then 0 else F v.1.toNat,v.2) ⟨bA hv h,by
    show 0<=(bif decide (0 > F v.1.toNat) then 0 else F v.1.toNat)
    by_cases h0:0 > F v.1.toNat
    ·rw [decide_eq_true h0];exact Int.le_refl _
    ·rw [decide_eq_false h0];show 0<=F v.1.toNat;omega⟩) λt q=>
   .to (IntKind.wrap .i64 (t.1+1),t.2) (by have q:t.1=v.1:=q;rw [q];exact (av hv (by omega) (of_decide_eq_true h)).1) (by have q:t.1=v.1:=q;rw [q];exact (av hv (by omega) (of_decide_eq_true h)).2)))
   λ_=>.fi v.2 trivial) (λv L k kn=>by kernel_rfl)
 exact de (V:=V0) (T:=[]) (d:=1) 2 (ah (hl (mkO u w SM.Pb)) (ah (hli _) aE)) aD (.lp (hu (0,λ_=>false) ⟨Int.le_refl _,by omega⟩) λt _=>.r t trivial) (by kernel_rfl)
end Go.T

namespace Go.T
open Go Go.Ab Go.Proofs Go.SH
open Go.SM (SP BL bsA SO JO F3 Iq I9)
structure PW where
 c:Bool
 q:Nat
 F:Nat->Int
 T:Nat->Int
 i:Int
def N1 (g:Nat->Bool) (i:Int):St:={env:=[(0,bsA g),(3,.sl .fit 0 0 λ_=>[]),(4,.int .i64 i)],objs:=[]}
def N2 (g:Nat->Bool) (n:Nat) (F T:Nat->Int) (i:Int):St:={env:=[(0,bsA g),(3,.gsl 17 2 n),(4,.int .i64 i)],objs:=[(17,.grw 0 2 n (SP F T))]}
theorem Qv {α τ ι:Type} {S:α->St} {Inv:α->Prop} {μ:α->Nat} {out:τ->(Ex->St->Res)->Res} {Post:α->τ->Prop} {v:α} {c:Bool} {a:ι->(Ex->St->Res)->(St->Res)->Res} (h:c=false) (h1:RT S Inv μ out Post v a):RT S Inv μ out Post v (λi k kn=>cond c none (a i k kn)):=by subst h;exact h1
def nx1 (i:Int):Int:=IntKind.wrap .i64 (i+1)
def K1 (g:Nat->Bool) (i:Int):St:={env:=[(0,bsA g),(3,.gsl 17 2 1),(4,.int .i64 i)],objs:=[(17,.grw 0 2 1 (ag 0 1 (λ_=>[]) (ae (SP Int.ofNat Int.ofNat 0) [(0,.agg [.int .i64 i,.int .i64 (nx1 i)])])))]}
def K2 (g:Nat->Bool) (i:Int):St:=N2 g 1 (λ_=>i) (λ_=>nx1 i) i
abbrev kI (i:Int):Prop:=True
theorem Lk (g:Nat->Bool):eY (mkU (db (K1 g) kI) (fO (K1 g) kI id) (K2 g)):=by
 refine l6 (K1 g) (K2 g) _ λi hi B c a hr hn=>⟨?_,λq u hu=>hn q u hu⟩
 refine hr.weak (objs':=(K2 g i).objs) (.cons _ _ _ _ _ (.grw _ _ _ _ _ λj hj=>?_) .nil)
 have:j=0:=by omega
 subst this
 rfl
theorem gK1 (g:Nat->Bool) (i:Int):db (K1 g) kI (K1 g i)=true:=gG (S:=K1 g) (Inv:=kI) trivial
theorem vK1 (g:Nat->Bool) (i:Int):fO (K1 g) kI id (K1 g i)=i:=fN (S:=K1 g) (Inv:=kI) (w:=id) (Post:=λi o=>o=i) (λ_ _=>rfl) (λa b x hs hp=>by
 have:a=b:=by
  simp only [K1,St.mk.injEq,List.cons.injEq,Prod.mk.injEq,AV.int.injEq,true_and,and_true] at hs
  exact hs.1
 rw [<-this];exact hp) trivial
theorem gKn (g:Nat->Bool) (i:Int):db (K1 g) kI (N1 g i)=false:=nh λv _ h=>by simp [K1,N1] at h
theorem gKs (g:Nat->Bool) (n:Nat) (F T:Nat->Int) (i:Int):db (K1 g) kI (N2 g n F T i)=false:=nh λv _ h=>by
 simp only [K1,N2,St.mk.injEq,List.cons.injEq,Prod.mk.injEq,AO.grw.injEq,true_and,and_true] at h
 have:=congrFun h.2.2 1
 simp [ag,SP,Nat.blt,Nat.ble] at this
def pS (g:Nat->Bool) (v:PW):St:=bif v.c then N1 g v.i else N2 g (v.q+1) v.F v.T v.i
structure pI (g:Nat->Bool) (v:PW):Prop where
 i:ix 10000 v.i
 q:v.c=false->(v.q:Int)+1<=v.i
 z:v.c=true->∀j:Nat,(j:Int) < v.i->g j=false
noncomputable abbrev VSp:Env:=Vb [] [17] []
theorem bad' {c:Bool} {P:Prop} (h:c=true) (h':c=false):P:=by rw [h] at h';cases h'
theorem BD (g:Nat->Bool):∃ (u:St->Bool) (w:St->Bool×SO),(∀v,pI g v->bT u w (pS g v) (λo=>o.1=false->o.2.n+1<=10000))/\∀L,bw (VSp.run [] 1 [] L [([1,1,0,1,0,0,1,1],mkU (db (K1 g) kI) (fO (K1 g) kI id) (K2 g))] iV) iV [1,1,0,1,0] (mkO u w JO):=
 yS (Lf:=λL=>L) (pS g) (pI g) (λv=>(10000 - v.i).toNat) JO (λo=>o.1=false->o.2.n+1<=10000) (by kernel_rfl) λv hv=>by
  obtain ⟨c,q,F,T,i⟩:=v
  have hi:ix 10000 i:=hv.i
  have nx:decide (i < ((10000:Nat):Int))=true->ix 10000 (IntKind.wrap .i64 (i+1))/\(10000 - IntKind.wrap .i64 (i+1)).toNat < (10000 - i).toNat:=λh=>av (n:=10000) hi (by decide) (of_decide_eq_true h)
  have wi:decide (i < ((10000:Nat):Int))=true->IntKind.wrap .i64 (i+1)=i+1:=λh=>by have:=of_decide_eq_true h;have:=hi.1;exact wrap_i64 (by omega) (by omega)
  have d3:(bif within (IntKind.wrap .i64 (i - 1)) 10000 then true else !bif decide (i > 0)==true then true else false)=true:=by
   have h1:=hi.1
   have h2:=hi.2
   by_cases h0:i > 0
   ·rw [wrap_i64 (by omega) (by omega),ax (by omega) (by omega)];rfl
   ·rw [decide_eq_false h0];cases within (IntKind.wrap .i64 (i - 1)) 10000 <;> rfl
  have prev:(bif decide (i > 0) then g (Int.toNat (IntKind.wrap .i64 (i - 1))) else false)=true->0 < i/\g (i - 1).toNat=true:=λh=>by
   have h0:=of_decide_eq_true (FM h)
   have h1:=K0 h
   have:=hi.2
   rw [wrap_i64 (by omega) (by omega)] at h1
   exact ⟨h0,h1⟩
  cases c with
  | true=>
   have hz:∀j:Nat,(j:Int) < i->g j=false:=hv.z rfl
   exact ⟨_,.b (decide (i < ((10000:Nat):Int))) (λh=>.n (bA hi h) (.b (!g i.toNat)
     (λhg=>.b (db (K1 g) kI (N1 g i)) (λhb=>.go {env:=[(0,bsA g),(3,.gsl 17 2 1),(4,.int .i64 (IntKind.wrap .i64 (fO (K1 g) kI id (N1 g i)+1)))],objs:=[(17,.grw 0 2 1 (SP (λ_=>fO (K1 g) kI id (N1 g i)) λ_=>nx1 (fO (K1 g) kI id (N1 g i))))]} (PW.mk true 0 F T 0) (bad' hb (gKn g i)) (bad' hb (gKn g i)) (bad' hb (gKn g i)))
      λ_=>.go (N1 g (IntKind.wrap .i64 (i+1))) (PW.mk true q F T (IntKind.wrap .i64 (i+1))) ⟨(nx h).1,λh=>(by cases h),λ_ j hj=>by
       have hj:(j:Int) < IntKind.wrap .i64 (i+1):=hj
       rw [wi h] at hj
       by_cases e:(j:Int)=i
       ·have:j=i.toNat:=by omega
        rw [this];simpa using hg
       ·exact hz j (by omega)⟩ (nx h).2 rfl)
     λhg=>.n d3 (Qv (c:=bif decide (i > 0) then g (Int.toNat (IntKind.wrap .i64 (i - 1))) else false) (by
       cases hp:(bif decide (i > 0) then g (Int.toNat (IntKind.wrap .i64 (i - 1))) else false) with
       | false=>rfl
       | true=>
        have hp:=prev hp
        exact bad' hp.2 (hz (i - 1).toNat (by omega)))
      (.b (db (K1 g) kI (K1 g i)) (λ_=>.go {env:=[(0,bsA g),(3,.gsl 17 2 1),(4,.int .i64 (IntKind.wrap .i64 (fO (K1 g) kI id (K1 g i)+1)))],objs:=[(17,.grw 0 2 1 (SP (λ_=>fO (K1 g) kI id (K1 g i)) λ_=>nx1 (fO (K1 g) kI id (K1 g i))))]}
        (PW.mk false 0 (λ_=>i) (λ_=>nx1 i) (IntKind.wrap .i64 (i+1))) ⟨(nx h).1,λ_=>by show ((0:Nat):Int)+1<=IntKind.wrap .i64 (i+1);rw [wi h];have:=hi.1;omega,λh=>(by cases h)⟩ (nx h).2 (by rw [vK1];rfl))
       λhb=>.go {env:=[(0,bsA g),(3,.gsl 17 2 1),(4,.int .i64 (IntKind.wrap .i64 (i+1)))],objs:=[(17,.grw 0 2 1 (ag 0 1 (λ_=>[]) (ae (SP Int.ofNat Int.ofNat 0) [(0,.agg [.int .i64 i,.int .i64 (nx1 i)])])))]} (PW.mk true 0 F T 0) (bad' (gK1 g i) hb) (bad' (gK1 g i) hb) (bad' (gK1 g i) hb)))))
    λ_=>.fi (true,default) (λh=>by cases h),λL k kn=>by kernel_rfl⟩
  | false=>
   have hq:(q:Int)+1<=i:=hv.q rfl
   have hq1:=hi.2
   have wq:IntKind.wrap .i64 (((q+1:Nat):Int) - 1)=q:=by rw [wrap_i64 (by omega) (by omega)];omega
   have wj:(Int.toNat (IntKind.wrap .i64 (((q+1:Nat):Int) - 1)))=q:=by rw [wq];rfl
   have e1:(λj=>bif Nat.beq j (Int.toNat (IntKind.wrap .i64 (((q+1:Nat):Int) - 1))) then [AV.int .i64 (F (Int.toNat (IntKind.wrap .i64 (((q+1:Nat):Int) - 1)))),.int .i64 (nx1 i)] else SP F T j)=SP F (F3 T q (nx1 i)):=by rw [wj];exact Iq F T q (nx1 i)
   have e2:(ag (q+1) 1 (SP F T) (ae (SP Int.ofNat Int.ofNat 0) [(0,.agg [.int .i64 i,.int .i64 (nx1 i)])]))=SP (F3 F (q+1) i) (F3 T (q+1) (nx1 i)):=I9 F T (q+1) i (nx1 i)
   have n1:db (K1 g) kI {env:=[(0,bsA g),(3,.gsl 17 2 (q+1)),(4,.int .i64 i)],objs:=[(17,.grw 0 2 (q+1) (λj=>bif Nat.beq j (Int.toNat (IntKind.wrap .i64 (((q+1:Nat):Int) - 1))) then [AV.int .i64 (F (Int.toNat (IntKind.wrap .i64 (((q+1:Nat):Int) - 1)))),.int .i64 (nx1 i)] else SP F T j))]}=false:=by rw [e1];exact gKs g _ _ _ i
   have n2:db (K1 g) kI {env:=[(0,bsA g),(3,.gsl 17 2 (q+1+1)),(4,.int .i64 i)],objs:=[(17,.grw 0 2 (q+1+1) (ag (q+1) 1 (SP F T) (ae (SP Int.ofNat Int.ofNat 0) [(0,.agg [.int .i64 i,.int .i64 (nx1 i)])])))]}=false:=by rw [e2];exact gKs g _ _ _ i
   have st:∀ (F' T':Nat->Int),decide (i < ((10000:Nat):Int))=true->pI g (PW.mk false q F' T' (IntKind.wrap .i64 (i+1))):=λF' T' h=>⟨(nx h).1,λ_=>by show (q:Int)+1<=IntKind.wrap .i64 (i+1);rw [wi h];omega,λh=>(by cases h)⟩
   exact ⟨_,.b (decide (i < ((10000:Nat):Int))) (λh=>.n (bA hi h) (.b (!g i.toNat)
     (λhg=>.b (db (K1 g) kI (N2 g (q+1) F T i)) (λhb=>.go {env:=[(0,bsA g),(3,.gsl 17 2 1),(4,.int .i64 (IntKind.wrap .i64 ((fO (K1 g) kI id (N2 g (q+1) F T i))+1)))],objs:=[(17,.grw 0 2 1 (SP (λ_=>(fO (K1 g) kI id (N2 g (q+1) F T i))) λ_=>nx1 (fO (K1 g) kI id (N2 g (q+1) F T i))))]} (PW.mk true 0 F T 0) (bad' hb (gKs g (q+1) F T i)) (bad' hb (gKs g (q+1) F T i)) (bad' hb (gKs g (q+1) F T i)))
      λ_=>.go (N2 g (q+1) F T (IntKind.wrap .i64 (i+1))) (PW.mk false q F T (IntKind.wrap .i64 (i+1))) (st _ _ h) (nx h).2 rfl)
     λhg=>.n d3 (.b (bif decide (i > 0) then g (Int.toNat (IntKind.wrap .i64 (i - 1))) else false)
      (λhp=>.n (c:=within (IntKind.wrap .i64 (((q+1:Nat):Int) - 1)) (q+1)&&Nat.beq (q+1) (q+1)) (by rw [wq,ax (by omega) (by omega),Nat.beq_refl];rfl)
       (.n (c:=Nat.ble 0 1&&(Nat.blt (Int.toNat (IntKind.wrap .i64 (((q+1:Nat):Int) - 1))) (q+1)&&Nat.beq (q+1) (q+1))) (by rw [wj,jM (Nat.lt_succ_self q),Nat.beq_refl];rfl)
       (.b (db (K1 g) kI {env:=[(0,bsA g),(3,.gsl 17 2 (q+1)),(4,.int .i64 i)],objs:=[(17,.grw 0 2 (q+1) (λj=>bif Nat.beq j (Int.toNat (IntKind.wrap .i64 (((q+1:Nat):Int) - 1))) then [AV.int .i64 (F (Int.toNat (IntKind.wrap .i64 (((q+1:Nat):Int) - 1)))),.int .i64 (nx1 i)] else SP F T j))]}) (λhb=>.go {env:=[(0,bsA g),(3,.gsl 17 2 1),(4,.int .i64 (IntKind.wrap .i64 ((fO (K1 g) kI id {env:=[(0,bsA g),(3,.gsl 17 2 (q+1)),(4,.int .i64 i)],objs:=[(17,.grw 0 2 (q+1) (λj=>bif Nat.beq j (Int.toNat (IntKind.wrap .i64 (((q+1:Nat):Int) - 1))) then [AV.int .i64 (F (Int.toNat (IntKind.wrap .i64 (((q+1:Nat):Int) - 1)))),.int .i64 (nx1 i)] else SP F T j))]})+1)))],objs:=[(17,.grw 0 2 1 (SP (λ_=>(fO (K1 g) kI id {env:=[(0,bsA g),(3,.gsl 17 2 (q+1)),(4,.int .i64 i)],objs:=[(17,.grw 0 2 (q+1) (λj=>bif Nat.beq j (Int.toNat (IntKind.wrap .i64 (((q+1:Nat):Int) - 1))) then [AV.int .i64 (F (Int.toNat (IntKind.wrap .i64 (((q+1:Nat):Int) - 1)))),.int .i64 (nx1 i)] else SP F T j))]})) λ_=>nx1 (fO (K1 g) kI id {env:=[(0,bsA g),(3,.gsl 17 2 (q+1)),(4,.int .i64 i)],objs:=[(17,.grw 0 2 (q+1) (λj=>bif Nat.beq j (Int.toNat (IntKind.wrap .i64 (((q+1:Nat):Int) - 1))) then [AV.int .i64 (F (Int.toNat (IntKind.wrap .i64 (((q+1:Nat):Int) - 1)))),.int .i64 (nx1 i)] else SP F T j))]})))]} (PW.mk true 0 F T 0) (bad' hb n1) (bad' hb n1) (bad' hb n1))
      λ_=>.go {env:=[(0,bsA g),(3,.gsl 17 2 (q+1)),(4,.int .i64 (IntKind.wrap .i64 (i+1)))],objs:=[(17,.grw 0 2 (q+1) (λj=>bif Nat.beq j (Int.toNat (IntKind.wrap .i64 (((q+1:Nat):Int) - 1))) then [AV.int .i64 (F (Int.toNat (IntKind.wrap .i64 (((q+1:Nat):Int) - 1)))),.int .i64 (nx1 i)] else SP F T j))]} (PW.mk false q F (F3 T q (nx1 i)) (IntKind.wrap .i64 (i+1))) (st _ _ h) (nx h).2 (by rw [e1];rfl))))
      λhp=>.n (aH (b:=16) (n:=q+1+1) (m:=q+1) (by omega)) (.b (db (K1 g) kI {env:=[(0,bsA g),(3,.gsl 17 2 (q+1+1)),(4,.int .i64 i)],objs:=[(17,.grw 0 2 (q+1+1) (ag (q+1) 1 (SP F T) (ae (SP Int.ofNat Int.ofNat 0) [(0,.agg [.int .i64 i,.int .i64 (nx1 i)])])))]}) (λhb=>.go {env:=[(0,bsA g),(3,.gsl 17 2 1),(4,.int .i64 (IntKind.wrap .i64 ((fO (K1 g) kI id {env:=[(0,bsA g),(3,.gsl 17 2 (q+1+1)),(4,.int .i64 i)],objs:=[(17,.grw 0 2 (q+1+1) (ag (q+1) 1 (SP F T) (ae (SP Int.ofNat Int.ofNat 0) [(0,.agg [.int .i64 i,.int .i64 (nx1 i)])])))]})+1)))],objs:=[(17,.grw 0 2 1 (SP (λ_=>(fO (K1 g) kI id {env:=[(0,bsA g),(3,.gsl 17 2 (q+1+1)),(4,.int .i64 i)],objs:=[(17,.grw 0 2 (q+1+1) (ag (q+1) 1 (SP F T) (ae (SP Int.ofNat Int.ofNat 0) [(0,.agg [.int .i64 i,.int .i64 (nx1 i)])])))]})) λ_=>nx1 (fO (K1 g) kI id {env:=[(0,bsA g),(3,.gsl 17 2 (q+1+1)),(4,.int .i64 i)],objs:=[(17,.grw 0 2 (q+1+1) (ag (q+1) 1 (SP F T) (ae (SP Int.ofNat Int.ofNat 0) [(0,.agg [.int .i64 i,.int .i64 (nx1 i)])])))]})))]} (PW.mk true 0 F T 0) (bad' hb n2) (bad' hb n2) (bad' hb n2))
      λ_=>.go {env:=[(0,bsA g),(3,.gsl 17 2 (q+1+1)),(4,.int .i64 (IntKind.wrap .i64 (i+1)))],objs:=[(17,.grw 0 2 (q+1+1) (ag (q+1) 1 (SP F T) (ae (SP Int.ofNat Int.ofNat 0) [(0,.agg [.int .i64 i,.int .i64 (nx1 i)])])))]} (PW.mk false (q+1) (F3 F (q+1) i) (F3 T (q+1) (nx1 i)) (IntKind.wrap .i64 (i+1))) ⟨(nx h).1,λ_=>by show ((q+1:Nat):Int)+1<=IntKind.wrap .i64 (i+1);rw [wi h];omega,λh=>(by cases h)⟩ (nx h).2 (by rw [e2];rfl)))))
    λ_=>.fi (false,SO.mk q F T) (λ_=>by show q+1<=10000;omega),λL k kn=>by kernel_rfl⟩
def φSp (x:SO):AV×List AO:=(.sl .no 2 x.n (SP x.F x.T),[])
def rSp (_:List AV) (_:List AO) (x:SO):Prop:=x.n<=10000
theorem uo (g:Nat->Bool):aG wd iV φSp rSp [bsA g] []:=by
 obtain ⟨u,w,hu,hl⟩:=BD g
 exact de (V:=VSp) (T:=[]) (d:=1) 0 (ah (hl _) aE) (cw (Lk g) aD) (.lp (hu (PW.mk true 0 (λ_=>0) (λ_=>0) 0) ⟨⟨Int.le_refl _,by decide⟩,λh=>(by cases h),λ_ j hj=>by have hj:(j:Int) < 0:=hj;omega⟩) λt q=>
  .b t.1 (λ_=>.t (r:=(.sl .fit 0 0 λ_=>[],[])) (SO.mk 0 (λ_=>0) λ_=>0) (Nat.zero_le _) (.one aW))
   λh=>.n (c:=Nat.beq 2 2&&Nat.beq (t.2.n+1) (t.2.n+1)) (by rw [Nat.beq_refl,Nat.beq_refl];rfl) (.r (SO.mk (t.2.n+1) t.2.F t.2.T) (q h))) (by kernel_rfl)
end Go.T

namespace Go.T
open Go Go.Ab Go.Proofs Go.SH
open Go.SM (SP BL bsA SO spA Hs)
noncomputable abbrev Lb:Ent:=aY wd eJ SM.φS iD
noncomputable abbrev eSp:Ent:=aY wd iV φSp rSp
abbrev P3:List Nat:=[1,1,0,1,0]
def UU (v:(Nat->Bool)×(Nat->Bool)×Int):St:={env:=[(5,.msl 9 1 0 10000),(6,.msl 11 1 0 10000),(7,.int .i64 v.2.2)],objs:=[(9,.arr 1 10000 (BL v.1)),(11,.arr 1 10000 (BL v.2.1))]}
def opE (c:Bool) (op:Bool->Bool->Bool) (v:(Nat->Bool)×(Nat->Bool)×Int) (k:Ex->St->Res) (kn:St->Res):Res:=
 cond (decide (v.2.2 < ((10000:Nat):Int))) (cond (within v.2.2 10000) (cond (Nat.blt (0+v.2.2.toNat) 10000)
  (cond (bif within v.2.2 10000 then true else !bif v.1 (0+v.2.2.toNat)==c then true else false) (cond (bif Nat.blt (0+v.2.2.toNat) 10000 then true else !bif v.1 (0+v.2.2.toNat)==c then true else false)
  (cond (within v.2.2 10000) (cond (Nat.blt (0+v.2.2.toNat) 10000)
   (kn {env:=[(5,.msl 9 1 0 10000),(6,.msl 11 1 0 10000),(7,.int .i64 (IntKind.wrap .i64 (v.2.2+1)))],objs:=[(9,.arr 1 10000 λj=>bif Nat.beq j (0+v.2.2.toNat) then [.bool (op (v.1 (0+v.2.2.toNat)) (v.2.1 (0+v.2.2.toNat)))] else BL v.1 j),(11,.arr 1 10000 (BL v.2.1))]})
   none) none) none) none) none) none) (Hs (v.1,v.2.1) k)
noncomputable def opR (u:St->Bool) (w:St->(Nat->Bool)×(Nat->Bool)) (a b:SO):Res:=
 cond (gR wd eJ SM.φS iD [spA a] []) (cond (gR wd eJ SM.φS iD [spA b] []) (cond (u (UU (wR wd eJ SM.φS iD [spA a] [],wR wd eJ SM.φS iD [spA b] [],0)))
  (cond (gR wd iV φSp rSp [bsA λj=>(w (UU (wR wd eJ SM.φS iD [spA a] [],wR wd eJ SM.φS iD [spA b] [],0))).1 (0+j)] []) (some (φSp (wR wd iV φSp rSp [bsA λj=>(w (UU (wR wd eJ SM.φS iD [spA a] [],wR wd eJ SM.φS iD [spA b] [],0))).1 (0+j)] []))) none) none) none) none
theorem JU {f:FuncId} (c:Bool) (op:Bool->Bool->Bool) (hb:kC (dM (bu V0.P f) P3)=true)
  (he:∀v (L:List (List Nat×Orc)) k kn,dS (V0.run [Lb,eSp] 1 [] L [] f) f 9 P3 (UU v) kn k=opE c op v k kn)
  (hr:∀u w a b,yj (V0.run [Lb,eSp] 1 [] [(P3,mkO u w Hs)] [] f) 9 f [spA a,spA b] []=opR u w a b)
  (a b:SO) (ha:a.n<=1000000) (hb':b.n<=1000000):aG wd f φSp rSp [spA a,spA b] []:=by
 obtain ⟨u,w,hu,hl⟩:=ay (V:=V0) (T:=[Lb,eSp]) (d:=1) (W:=[]) (f:=f) (p:=P3) (Lf:=λL=>L) UU (λv=>ix 10000 v.2.2) (λv=>(10000 - v.2.2).toNat) Hs (λ_=>True) hb (e:=λv _ k kn=>opE c op v k kn)
  (λv hv=>by
   by_cases h:v.2.2 < ((10000:Nat):Int)
   ·have h1:=ax hv.1 h
    have h2:Nat.blt (0+v.2.2.toNat) 10000=true:=jM (by have:=hv.1;omega)
    refine RT.by (RT.go {env:=[(5,.msl 9 1 0 10000),(6,.msl 11 1 0 10000),(7,.int .i64 (IntKind.wrap .i64 (v.2.2+1)))],objs:=[(9,.arr 1 10000 λj=>bif Nat.beq j (0+v.2.2.toNat) then [.bool (op (v.1 (0+v.2.2.toNat)) (v.2.1 (0+v.2.2.toNat)))] else BL v.1 j),(11,.arr 1 10000 (BL v.2.1))]}
     ((λj=>bif Nat.beq j (0+v.2.2.toNat) then op (v.1 (0+v.2.2.toNat)) (v.2.1 (0+v.2.2.toNat)) else v.1 j),v.2.1,IntKind.wrap .i64 (v.2.2+1)) (av (n:=10000) hv (by decide) h).1 (av (n:=10000) hv (by decide) h).2 ?_) λ_ k kn=>?_
    ·have e:(λj=>bif Nat.beq j (0+v.2.2.toNat) then [AV.bool (op (v.1 (0+v.2.2.toNat)) (v.2.1 (0+v.2.2.toNat)))] else BL v.1 j)=BL (λj=>bif Nat.beq j (0+v.2.2.toNat) then op (v.1 (0+v.2.2.toNat)) (v.2.1 (0+v.2.2.toNat)) else v.1 j):=by
      funext j
      show _=[AV.bool (bif Nat.beq j (0+v.2.2.toNat) then _ else _)]
      cases Nat.beq j (0+v.2.2.toNat) <;> rfl
     rw [e];rfl
    ·unfold opE
     rw [decide_eq_true h,h1,h2];rfl
   ·refine RT.by (RT.fi (v.1,v.2.1) trivial) λ_ k kn=>?_
    unfold opE
    rw [decide_eq_false h];rfl) (λv L k kn=>he v L k kn)
 refine fJ (V:=V0) [Lb,eSp] 1 hl ?_ (hr u w a b)
 unfold opR
 exact .call (Dm a.F a.T ha) λ_ _=>.call (Dm b.F b.T hb') λ_ _=>.lp (hu (_,_,0) ⟨Int.le_refl _,by show (0:Int)<=((10000:Nat):Int);decide⟩) λt _=>.call (uo _) λy q=>.r y q
theorem Gk (a b:SO) (ha:a.n<=1000000) (hb:b.n<=1000000):aG wd rl φSp rSp [spA a,spA b] []:=JU false (λx y=>bif x then true else y) (by kernel_rfl) (λv L k kn=>by kernel_rfl) (λu w a b=>by kernel_rfl) a b ha hb
theorem HC (a b:SO) (ha:a.n<=1000000) (hb:b.n<=1000000):aG wd rn φSp rSp [spA a,spA b] []:=JU true (λx y=>bif x then !y else false) (by kernel_rfl) (λv L k kn=>by kernel_rfl) (λu w a b=>by kernel_rfl) a b ha hb
theorem Fx (a b:SO) (ha:a.n<=1000000) (hb:b.n<=1000000):aG wd n5 φSp rSp [spA a,spA b] []:=JU true (λx y=>bif x then y else false) (by kernel_rfl) (λv L k kn=>by kernel_rfl) (λu w a b=>by kernel_rfl) a b ha hb
noncomputable abbrev Pr:Ent:=aY wd rl φSp rSp
noncomputable abbrev Pw:Ent:=aY wd rn φSp rSp
noncomputable abbrev KI:Ent:=aY wd n5 φSp rSp
end Go.T

namespace Go.T
open Go Go.Ab Go.Proofs Go.SH
open Go.SM (SP BL bsA SO isA coA C3 IG)
theorem LA (g:Nat->Bool) (x:Nat) (b:Bool):(λj=>bif Nat.beq j x then [AV.bool b] else BL g j)=BL (λj=>bif Nat.beq j x then b else g j):=by
 funext j
 show _=[AV.bool (bif Nat.beq j x then b else g j)]
 cases Nat.beq j x <;> rfl
theorem Lz (g:Nat->Int) (x:Nat) (b:Int):(λj=>bif Nat.beq j x then [AV.int .i64 b] else IG g j)=IG (λj=>bif Nat.beq j x then b else g j):=by
 funext j
 show _=[AV.int .i64 (bif Nat.beq j x then b else g j)]
 cases Nat.beq j x <;> rfl
theorem ixk (i:Int):decide (i < ((10000:Nat):Int))=true->i < ((10000:Nat):Int):=λh=>of_decide_eq_true h
theorem FF {i:Int} {n:Nat} (h0:0<=i) (h:i < (n:Int)):Nat.blt (0+i.toNat) n=true:=jM (by omega)
theorem ix0 (n:Nat):ix n 0:=⟨Int.le_refl _,by omega⟩
def LAS (w:Nat->Int) (now:Int) (v:Int×(Nat->Bool)):St:={env:=[(0,isA w),(1,.int .i64 now),(5,.msl 9 1 0 10000),(6,.int .i64 v.1)],objs:=[(9,.arr 1 10000 (BL v.2))]}
theorem HJ (w:Nat->Int) (now:Int):aG wd rj φSp rSp [isA w,.int .i64 now] []:=by
 obtain ⟨u,o,hu,hl⟩:=ay (V:=V0) (T:=[eSp]) (d:=1) (W:=[]) (f:=rj) (p:=P3) (Lf:=λL=>L) (LAS w now) (λv=>ix 10000 v.1) (λv=>(10000 - v.1).toNat) SM.NU (λ_=>True) (by kernel_rfl)
  (λv hv=>.b (decide (v.1 < ((10000:Nat):Int))) (λh=>.n (bA hv h) (.n (bA hv h) (.n (FF hv.1 (ixk _ h)) (.go
    {env:=[(0,isA w),(1,.int .i64 now),(5,.msl 9 1 0 10000),(6,.int .i64 (IntKind.wrap .i64 (v.1+1)))],objs:=[(9,.arr 1 10000 λj=>bif Nat.beq j (0+v.1.toNat) then [.bool (decide (w v.1.toNat > now))] else BL v.2 j)]}
    (IntKind.wrap .i64 (v.1+1),λj=>bif Nat.beq j (0+v.1.toNat) then decide (w v.1.toNat > now) else v.2 j) (av hv (by decide) (ixk _ h)).1 (av hv (by decide) (ixk _ h)).2 (by rw [LA];rfl)))))
   λ_=>.fi v.2 trivial) (λv L k kn=>by kernel_rfl)
 exact fJ (V:=V0) [eSp] 1 hl (.lp (hu (0,λ_=>false) (ix0 10000)) λt _=>.call (uo λj=>t (0+j)) λy q=>.r y q) (by kernel_rfl)
def QA (c:AV) (now:Int) (v:Int×(Nat->Int)):St:={env:=[(0,c),(1,.int .i64 now),(5,.msl 9 1 0 10000),(6,.int .i64 v.1)],objs:=[(9,.arr 1 10000 (IG v.2))]}
def QB (c:AV) (v:Int×(Nat->Int)):St:={env:=[(0,c),(5,.msl 9 1 0 10000),(7,.int .i64 v.1)],objs:=[(9,.arr 1 10000 (IG v.2))]}
def QC (c:AV) (v:Int×Int×(Nat->Int)):St:={env:=[(0,c),(5,.msl 9 1 0 10000),(7,.int .i64 v.1),(8,.int .i64 v.2.1)],objs:=[(9,.arr 1 10000 (IG v.2.2))]}
def LQ (c:AV) (o:Int×(Nat->Int)) (k:Ex->St->Res):Res:=k (.exit 4) (QB c o)
abbrev PB:List Nat:=[1,1,1,0,1,0]
abbrev PC:List Nat:=[1,1,1,0,1,0,0,1,0,0,1,0]
def φW (w:Nat->Int):AV×List AO:=(isA w,[])
theorem JJ {n:Nat} (F T U:Nat->Int) (now:Int) (hn:n<=1000000):aG wd eK φW iD [coA n F T U,.int .i64 now] []:=by
 obtain ⟨u1,w1,h1,l1⟩:=ay (V:=V0) (T:=[]) (d:=1) (W:=[]) (f:=eK) (p:=P3) (Lf:=λL=>L) (QA (coA n F T U) now) (λv=>ix 10000 v.1) (λv=>(10000 - v.1).toNat) (SM.NT (coA n F T U)) (λ_=>True) (by kernel_rfl)
  (λv hv=>.b (decide (v.1 < ((10000:Nat):Int))) (λh=>.n (bA hv h) (.n (FF hv.1 (ixk _ h)) (.go
    {env:=[(0,coA n F T U),(1,.int .i64 now),(5,.msl 9 1 0 10000),(6,.int .i64 (IntKind.wrap .i64 (v.1+1)))],objs:=[(9,.arr 1 10000 λj=>bif Nat.beq j (0+v.1.toNat) then [.int .i64 now] else IG v.2 j)]}
    (IntKind.wrap .i64 (v.1+1),λj=>bif Nat.beq j (0+v.1.toNat) then now else v.2 j) (av hv (by decide) (ixk _ h)).1 (av hv (by decide) (ixk _ h)).2 (by rw [Lz];rfl))))
   λ_=>.fi v.2 trivial) (λv L k kn=>by kernel_rfl)
 obtain ⟨u3,w3,h3,l3⟩:=oe (V:=V0) (T:=[]) (d:=1) (W:=[]) (f:=eK) (p:=PC) (Lf:=λL=>L) (QC (coA n F T U)) (λv=>within v.1 n=true/\0<=v.2.1) (λv=>(10000 - v.2.1).toNat) (LQ (coA n F T U)) (λs o=>o.1=slI 7 s) (by kernel_rfl)
  (λv hv=>
   have lt:v.2.1 < (bif decide (10000 < T v.1.toNat) then 10000 else T v.1.toNat)->v.2.1 < ((10000:Nat):Int):=λh=>by
    by_cases h1:10000 < T v.1.toNat
    ·rw [decide_eq_true h1] at h;exact h
    ·rw [decide_eq_false h1] at h;have h:v.2.1 < T v.1.toNat:=h;omega
   .n hv.1 (.b (decide (v.2.1 < bif decide (10000 < T v.1.toNat) then 10000 else T v.1.toNat)) (λh=>
    have h:=lt (of_decide_eq_true h)
    have hx:=av (n:=10000) (i:=v.2.1) ⟨hv.2,by omega⟩ (by decide) h
    .n (ax hv.2 h) (.n (FF hv.2 h) (.n hv.1 (.n (ax hv.2 h) (.n (FF hv.2 h)
     (.nx {env:=[(0,coA n F T U),(5,.msl 9 1 0 10000),(7,.int .i64 v.1),(8,.int .i64 (IntKind.wrap .i64 (v.2.1+1)))],objs:=[(9,.arr 1 10000 λj=>bif Nat.beq j (0+v.2.1.toNat) then [.int .i64 (bif decide (U v.1.toNat > v.2.2 (0+v.2.1.toNat)) then U v.1.toNat else v.2.2 (0+v.2.1.toNat))] else IG v.2.2 j)]}
      (v.1,IntKind.wrap .i64 (v.2.1+1),λj=>bif Nat.beq j (0+v.2.1.toNat) then (bif decide (U v.1.toNat > v.2.2 (0+v.2.1.toNat)) then U v.1.toNat else v.2.2 (0+v.2.1.toNat)) else v.2.2 j) ⟨hv.1,hx.1.1⟩ hx.2 (λ_ h=>h) (by rw [Lz];rfl)))))))
    λ_=>.fi (v.1,v.2.2) rfl)) (λv L k kn=>by kernel_rfl)
 obtain ⟨u2,w2,h2,l2⟩:=ay (V:=V0) (T:=[]) (d:=1) (W:=[]) (f:=eK) (p:=PB) (Lf:=λx:Orc×Orc=>[(P3,x.1),(PB,x.2),(PC,mkO u3 w3 (LQ (coA n F T U)))]) (QB (coA n F T U)) (λv=>ix n v.1) (λv=>(n - v.1).toNat) SM.NS (λ_=>True) (by kernel_rfl)
  (λv hv=>.b (decide (v.1 < (n:Int))) (λh=>.n (bA hv h) (.lp (h3 (v.1,bif decide (0 > F v.1.toNat) then 0 else F v.1.toNat,v.2) ⟨bA hv h,by
    show 0<=(bif decide (0 > F v.1.toNat) then 0 else F v.1.toNat)
    by_cases h0:0 > F v.1.toNat
    ·rw [decide_eq_true h0];exact Int.le_refl _
    ·rw [decide_eq_false h0];show 0<=F v.1.toNat;omega⟩) λt q=>
   .to (IntKind.wrap .i64 (t.1+1),t.2) (by have q:t.1=v.1:=q;rw [q];exact (av hv (by omega) (of_decide_eq_true h)).1) (by have q:t.1=v.1:=q;rw [q];exact (av hv (by omega) (of_decide_eq_true h)).2)))
   λ_=>.fi v.2 trivial) (λv L k kn=>by kernel_rfl)
 exact de (V:=V0) (T:=[]) (d:=1) 0 (ah (l1 _) (ah (l2 (_,_)) (ah (l3 _) aE))) aD (.lp (h1 (0,λ_=>Int.ofNat 0) (ix0 10000)) λt1 _=>.lp (h2 (0,t1) (ix0 n)) λt2 _=>.r (λj=>t2 (0+j)) trivial) (by kernel_rfl)
noncomputable abbrev Py:Ent:=aY wd rj φSp rSp
noncomputable abbrev Pt:Ent:=aY wd eK φW iD
end Go.T

namespace Go.T
open Go Go.Ab Go.Proofs Go.SH
open Go.SM (SP SO spA ENV Nh Spn)
def OSI (c:List AV) (s:List UInt8) (i:Int):St:={env:=[(1,.str s),(2,.ref 2 0),(5,.int .i64 i)],objs:=[(2,.cells c)]}
def O9 (b:Bool×Int) (k:Ex->St->Res):Res:=cond b.1 (k .ret {env:=[(4,.int .i64 b.2)],objs:=[]}) (k (.exit 0) {env:=[],objs:=[]})
theorem E0 {f:FuncId} (e:ENV) (s:List UInt8) {n:Nat} (hn:n<=4611686018427387904) (key:Nat->List UInt8) (hb:kC (dM (bu V0.P f) [1,0,1,0])=true)
  (he:∀ (i:Int) (L:List (List Nat×Orc)) k kn,dS (V0.run [] 1 [] L [] f) f 9 [1,0,1,0] (OSI e.c s i) kn k=cond (decide (i < (n:Int))) (cond (within i n) (cond (key i.toNat==s) (k .ret {env:=[(4,.int .i64 i)],objs:=[]}) (kn (OSI e.c s (IntKind.wrap .i64 (i+1))))) none) (k (.exit 0) {env:=[],objs:=[]}))
  (hr:∀u w,yj (V0.run [] 1 [] [([1,0,1,0],mkO u w O9)] [] f) 9 f [.agg e.c,.str s] []=cond (u (OSI e.c s 0)) (cond (w (OSI e.c s 0)).1 (some (.int .i64 (w (OSI e.c s 0)).2,[])) (some (.int .i64 (-1),[]))) none):aG wd f SM.φI' (JG n) [.agg e.c,.str s] []:=by
 obtain ⟨u,o,hu,h⟩:=ay (V:=V0) (T:=[]) (d:=1) (W:=[]) (f:=f) (p:=[1,0,1,0]) (Lf:=λL=>L) (OSI e.c s) (λi=>ix n i) (λi=>(n - i).toNat) O9 (λb=>b.1=true->0<=b.2/\b.2 < n) hb
  (λi hi=>.b (decide (i < (n:Int))) (λh=>.n (bA hi h) (.b (key i.toNat==s) (λ_=>.fi (true,i) (λ_=>⟨hi.1,of_decide_eq_true h⟩)) λ_=>.to (IntKind.wrap .i64 (i+1)) (av hi hn (of_decide_eq_true h)).1 (av hi hn (of_decide_eq_true h)).2))
   λ_=>.fi (false,0) (λh=>by cases h)) (λv L k kn=>he v L k kn)
 exact fJ (V:=V0) [] 1 h (.lp (hu 0 (ix0 _)) λt q=>.b t.1 (λh=>.r t.2 ⟨by have:=(q h).1;omega,(q h).2⟩) λ_=>.r (-1:Int) ⟨Int.le_refl _,by omega⟩) (hr u o)
theorem og (e:ENV) (s:List UInt8) (h:e.layers.length<=4611686018427387904):aG wd fc SM.φI' (JG e.layers.length) [.agg e.c,.str s] []:=
 E0 e s h (λj=>(e.layers.getD j default).key) (by kernel_rfl) (λi L k kn=>by kernel_rfl) (λu w=>by kernel_rfl)
theorem xu (e:ENV) (s:List UInt8) (h:e.flags.length<=4611686018427387904):aG wd fe SM.φI' (JG e.flags.length) [.agg e.c,.str s] []:=
 E0 e s h (λj=>(e.flags.getD j default).key) (by kernel_rfl) (λi L k kn=>by kernel_rfl) (λu w=>by kernel_rfl)
theorem FK {f:FuncId} {τ:Type} {φ:τ->AV×List AO} {R:τ->Prop} {x y:AV} {a b:SO} (hx:Spn x a) (hy:Spn y b) (h:aG wd f φ (λ_ _=>R) [spA a,spA b] []):aG wd f φ (λ_ _=>R) [x,y] []:=by
 obtain ⟨r,hr,h⟩:=h
 refine ⟨r,hr,Ct.args h rfl rfl λi u u' hu hu' c v hr=>?_⟩
 match i,hu,hu' with
 | 0,hu,hu'=>
  simp only [List.getElem?_cons_zero,Option.some.injEq] at hu hu'
  subst hu hu'
  exact hx.2 c v hr
 | 1,hu,hu'=>
  simp only [List.getElem?_cons_succ,List.getElem?_cons_zero,Option.some.injEq] at hu hu'
  subst hu hu'
  exact hy.2 c v hr
 | i+2,hu,_=>simp at hu
theorem vU {x y:AV} {a b:SO} (hx:Spn x a) (hy:Spn y b) (ha:a.n<=1000000) (hb:b.n<=1000000):aG wd rl φSp rSp [x,y] []:=FK hx hy (Gk a b ha hb)
theorem xa {x y:AV} {a b:SO} (hx:Spn x a) (hy:Spn y b) (ha:a.n<=1000000) (hb:b.n<=1000000):aG wd rn φSp rSp [x,y] []:=FK hx hy (HC a b ha hb)
theorem Ci {x y:AV} {a b:SO} (hx:Spn x a) (hy:Spn y b) (ha:a.n<=1000000) (hb:b.n<=1000000):aG wd n5 φSp rSp [x,y] []:=FK hx hy (Fx a b ha hb)
end Go.T

namespace Go.T
open Go Go.Ab Go.Proofs Go.SH
open Go.SM (TX txA TXS In HT LX)
theorem qG {n m:Nat} {g h:Nat->List UInt8} (e:txA n g=txA m h):(n,g)=(m,h):=by
 unfold txA at e
 injection e with _ _ e1 e2
 have:g=h:=by
  funext j
  have:=congrFun e2 j
  simpa [TX] using this
 rw [e1,this]
def Nc (l:List AV) (_:List AO) (b:Bool):Prop:=∀ (x:TXS) (s:List UInt8),l=[txA x.1 x.2,.str s]->(b=true↔In x s)
theorem Nc.mk {n:Nat} {g:Nat->List UInt8} {s:List UInt8} {os:List AO} {b:Bool} (h:b=true↔In (n,g) s):Nc [txA n g,.str s] os b:=λx s' e=>by
 simp only [List.cons.injEq,AV.str.injEq,and_true] at e
 have:=qG (n:=n) (g:=g) (m:=x.1) (h:=x.2) e.1
 rw [<-e.2,show x=(n,g) from this.symm];exact h
def HTI (n:Nat) (g:Nat->List UInt8) (s:List UInt8) (i:Int):St:={env:=[(0,txA n g),(1,.str s),(5,.int .i64 i)],objs:=[]}
theorem y9 (n:Nat) (g:Nat->List UInt8) (s:List UInt8) (hn:n<=4611686018427387904):aG wd D5 φB Nc [txA n g,.str s] []:=by
 obtain ⟨u,o,hu,h⟩:=ay (V:=V0) (T:=[]) (d:=1) (W:=[]) (f:=D5) (p:=[1,0,1,0]) (Lf:=λL=>L) (HTI n g s) (λi=>ix n i/\∀j:Nat,(j:Int) < i->g j≠s) (λi=>(n - i).toNat) SM.Nh (λb=>b=true↔In (n,g) s) (by kernel_rfl)
  (λi hi=>.b (decide (i < (n:Int))) (λh=>.n (bA hi.1 h) (.b (g i.toNat==s) (λhb=>.fi true ⟨λ_=>⟨i.toNat,by have:=of_decide_eq_true h;have:=hi.1.1;show i.toNat < n;omega,by simpa using hb⟩,λ_=>rfl⟩)
    λhb=>.to (IntKind.wrap .i64 (i+1)) ⟨(av hi.1 hn (of_decide_eq_true h)).1,λj hj=>by
     have h:=of_decide_eq_true h
     have h0:=hi.1.1
     rw [wrap_i64 (by omega) (by omega)] at hj
     by_cases e:(j:Int)=i
     ·have:j=i.toNat:=by omega
      rw [this];simpa using hb
     ·exact hi.2 j (by omega)⟩ (av hi.1 hn (of_decide_eq_true h)).2))
   λh=>.fi false ⟨λh=>(by cases h),λ⟨j,h1,h2⟩=>absurd h2 (hi.2 j (by have:=of_decide_eq_false h;have h1:j < n:=h1;omega))⟩) (λv L k kn=>by kernel_rfl)
 exact fJ (V:=V0) [] 1 h (.lp (hu 0 ⟨ix0 n,λj hj=>by omega⟩) λt q=>.b t (λh=>.r true (.mk (h ▸ q))) λh=>.r false (.mk (h ▸ q))) (by kernel_rfl)
noncomputable abbrev zq:Ent:=aY wd D5 φB Nc
def rAd (l:List AV) (_:List AO) (r:TXS):Prop:=∀ (x:TXS) (s:List UInt8),l=[txA x.1 x.2,.str s]->r.1<=x.1+1/\∀y,In r y↔In x y∨y=s
theorem rAd.mk {n:Nat} {g:Nat->List UInt8} {s:List UInt8} {os:List AO} {r:TXS} (h:r.1<=n+1/\∀y,In r y↔In (n,g) y∨y=s):rAd [txA n g,.str s] os r:=λx s' e=>by
 simp only [List.cons.injEq,AV.str.injEq,and_true] at e
 have:=qG (n:=n) (g:=g) (m:=x.1) (h:=x.2) e.1
 rw [<-e.2,show x=(n,g) from this.symm];exact h
theorem bf {a b:Nat} (h:b<=a):Nat.blt a b=false:=by
 cases hq:Nat.blt a b with
 | false=>rfl
 | true=>exact absurd (wZ hq) (by omega)
theorem A7 (i n:Nat):(bif within (i:Int) n then true else !bif decide ((i:Int) < (n:Int))==true then true else false)=true:=by
 by_cases h:i < n
 ·rw [ax (by omega) (by omega)];rfl
 ·rw [decide_eq_false (show ¬ (i:Int) < (n:Int) by omega)];cases within (i:Int) n <;> rfl
def F6 (t:Nat) (g:Nat->List UInt8) (s:List UInt8):Nat->List UInt8:=λj=>bif Nat.blt j t then g j else bif Nat.beq j t then s else g (j - 1)
section
variable {t:Nat} {g:Nat->List UInt8} {s:List UInt8}
theorem Oo {j:Nat} (hj:j < t):F6 t g s j=g j:=by unfold F6;rw [jM hj];rfl
theorem On:F6 t g s t=s:=by unfold F6;rw [bf (Nat.le_refl t),Nat.beq_refl];rfl
theorem Om {j:Nat} (hj:t < j):F6 t g s j=g (j - 1):=by unfold F6;rw [bf (by omega),SM.dK (by omega)];rfl
theorem Mi {n:Nat} (ht:t<=n) (y:List UInt8):In (n+1,F6 t g s) y↔In (n,g) y∨y=s:=by
 constructor
 ·rintro ⟨j,h1,h2⟩
  have h1:j < n+1:=h1
  have h2:F6 t g s j=y:=h2
  rcases Nat.lt_trichotomy j t with hj | hj | hj
  ·exact Or.inl ⟨j,by show j < n;omega,by rw [<-h2];exact (Oo hj).symm⟩
  ·subst hj;exact Or.inr (by rw [<-h2];exact On)
  ·exact Or.inl ⟨j - 1,by show j - 1 < n;omega,by rw [<-h2];exact (Om hj).symm⟩
 ·rintro (⟨j,h1,h2⟩ | hx)
  ·have h1:j < n:=h1
   by_cases hj:j < t
   ·exact ⟨j,by show j < n+1;omega,by rw [<-h2];exact Oo hj⟩
   ·exact ⟨j+1,by show j+1 < n+1;omega,by rw [<-h2];exact (Om (by omega)).trans (by rw [Nat.add_sub_cancel])⟩
  ·exact ⟨t,by show t < n+1;omega,by rw [hx];exact On⟩
theorem Ke {n j:Nat} (hj:j < n+1) (ht:t<=n):[AV.str (F6 t g s j)]=ag (0+t+1) (n - t) (ag (0+t) 1 (ag 0 t (λ_=>[]) (TX λj=>g (0+j))) (ae [.str []] [(0,.str s)])) (TX λj=>g (t+j)) j:=by
 rw [Nat.zero_add]
 unfold ag
 rcases Nat.lt_trichotomy j t with h | h | h
 ·rw [Oo h,jM (show j < t+1 by omega),jM h,cond_true,cond_true,bf (Nat.zero_le j),jM (show j < 0+t by omega)]
  show _=[AV.str (g (0+(j - 0)))]
  rw [Nat.zero_add,Nat.sub_zero]
 ·subst h
  rw [On,jM (show j < j+1 by omega),bf (Nat.le_refl j),cond_true,cond_false,cond_true,Nat.sub_self]
  rfl
 ·rw [Om h,bf (show t+1<=j by omega),jM (show j < t+1+(n - t) by omega),cond_false,cond_true]
  show _=[AV.str (g (t+(j - (t+1))))]
  rw [show t+(j - (t+1))=j - 1 by omega]
end
theorem zW (n:Nat) (g:Nat->List UInt8) (s:List UInt8) (hn:n<=1000000):aG wd D6 SM.φX rAd [txA n g,.str s] []:=by
 obtain ⟨u,o,hu,h⟩:=ay (V:=V0) (T:=[]) (d:=1) (W:=[]) (f:=D6) (p:=[1,1,0,0]) (Lf:=λL=>L) (HT n g s) (λi=>i<=n) (λi=>n - i) (LX n g s) (λt=>t<=n) (by kernel_rfl)
  (λi hi=>.n (c:=bif within (i:Int) n then true else !bif decide ((i:Int) < (n:Int))==true then true else false) (A7 i n)
   (.b (bif decide ((i:Int) < (n:Int)) then aA (g (Int.toNat (i:Int))) s else false) (λh=>
     have hlt:i < n:=by have:=of_decide_eq_true (FM h);omega
     .go {env:=[(0,txA n g),(1,.str s),(5,.int .i64 (IntKind.wrap .i64 ((i:Int)+1)))],objs:=[]} (i+1) hlt (by show n - (i+1) < n - i;omega) (by rw [ba (by omega)];rfl))
    λ_=>.fi i hi)) (λv L k kn=>by kernel_rfl)
 exact fJ (V:=V0) [] 1 h (.lp (hu 0 (Nat.zero_le n)) λt ht=>.n (c:=bif within (t:Int) n then true else !bif decide ((t:Int) < (n:Int))==true then true else false) (A7 t n)
  (.b (bif decide ((t:Int) < (n:Int)) then g (Int.toNat (t:Int))==s else false) (λh=>.r (n,g) (.mk ⟨Nat.le_succ n,λy=>⟨Or.inl,λhx=>hx.elim id λe=>⟨t,by have:=of_decide_eq_true (FM h);show t < n;omega,by rw [e];simpa using K0 h⟩⟩⟩))
   λ_=>.n (c:=decide (0<=((0:Nat):Int))&&(decide (((0:Nat):Int)<=(t:Int))&&decide ((t:Int)<=(n:Int)))) (by simp;omega)
    (.n (c:=roomy 16 (0+(Int.toNat (t:Int) - Int.toNat ((0:Nat):Int)))) (SM.AE (by omega))
    (.n (c:=roomy 16 (0+(Int.toNat (t:Int) - Int.toNat ((0:Nat):Int))+1)&&Nat.beq (0+(Int.toNat (t:Int) - Int.toNat ((0:Nat):Int))) (0+(Int.toNat (t:Int) - Int.toNat ((0:Nat):Int)))) (aH (by omega))
    (.n (c:=decide (0<=(t:Int))&&(decide ((t:Int)<=(n:Int))&&decide ((n:Int)<=(n:Int)))) (by simp;omega)
    (.n (c:=roomy 16 (0+(Int.toNat (t:Int) - Int.toNat ((0:Nat):Int))+1+(Int.toNat (n:Int) - Int.toNat (t:Int)))&&Nat.beq (0+(Int.toNat (t:Int) - Int.toNat ((0:Nat):Int))+1) (0+(Int.toNat (t:Int) - Int.toNat ((0:Nat):Int))+1)) (aH (by omega))
    (.t (r:=(.sl .no 1 (0+(Int.toNat (t:Int) - Int.toNat ((0:Nat):Int))+1+(Int.toNat (n:Int) - Int.toNat (t:Int))) (ag (0+(Int.toNat (t:Int) - Int.toNat ((0:Nat):Int))+1) (Int.toNat (n:Int) - Int.toNat (t:Int)) (ag (0+(Int.toNat (t:Int) - Int.toNat ((0:Nat):Int))) 1 (ag 0 (Int.toNat (t:Int) - Int.toNat ((0:Nat):Int)) (λ_=>[]) (TX λj=>g (Int.toNat ((0:Nat):Int)+j))) (ae [.str []] [(0,.str s)])) (TX λj=>g (Int.toNat (t:Int)+j))),[]))
     (n+1,F6 t g s) (.mk ⟨Nat.le_refl _,Mi ht⟩) (.one (by
      have ht:t<=n:=ht
      simp only [Int.toNat_natCast,Nat.sub_zero]
      have hl:0+t+1+(n - t)=n+1:=by omega
      rw [hl]
      exact ⟨rfl,λc x hr=>jr hr λj hj=>Ke hj ht⟩))))))))) (by kernel_rfl)
noncomputable abbrev zt:Ent:=aY wd D6 SM.φX rAd
end Go.T

namespace Go.T
open Go Go.Ab Go.Proofs Go.SH
open Go.SM (TX txA TXS ENV cL lN)
structure KIn (len:Nat) (key:Nat->List UInt8) (v:Nat×(Nat->List UInt8)×Int):Prop where
 i:ix len v.2.2
 n:(v.1:Int)=v.2.2
 a:∀j,j < v.1->v.2.1 j=key j
theorem KIn.zero (len:Nat) (key:Nat->List UInt8) (g:Nat->List UInt8):KIn len key (0,g,0):=⟨ix0 len,rfl,λj h=>absurd h (Nat.not_lt_zero _)⟩
theorem KIn.next {len:Nat} {key:Nat->List UInt8} {v:Nat×(Nat->List UInt8)×Int} (h:KIn len key v) (hl:len<=1000000) (hi:v.2.2 < len):KIn len key (v.1+1,jU v.2.1 v.1 (key v.2.2.toNat),IntKind.wrap .i64 (v.2.2+1)):=by
 have h0:=h.n
 have h1:=h.i.1
 have e:v.2.2.toNat=v.1:=by omega
 refine ⟨(av h.i (by omega) hi).1,?_,λj hj=>?_⟩
 ·show ((v.1+1:Nat):Int)=IntKind.wrap .i64 (v.2.2+1)
  rw [wrap_i64 (by omega) (by omega)];omega
 ·show jU v.2.1 v.1 (key v.2.2.toNat) j=key j
  unfold jU
  by_cases hj':j=v.1
  ·subst hj';rw [Nat.beq_refl,e];rfl
  ·rw [SM.dK hj'];exact h.a j (by have:j < v.1+1:=hj;omega)
def rKs (len:Nat) (key:Nat->List UInt8) (_:List AV) (_:List AO) (r:TXS):Prop:=r.1=len/\∀j,j < r.1->r.2 j=key j
def KTI (x:AV) (v:Nat×(Nat->List UInt8)×Int):St:={env:=[(0,x),(3,.sl (.key 18) 1 v.1 (TX v.2.1)),(4,.int .i64 v.2.2)],objs:=[(18,.own 1 v.1)]}
def KEI (cs:List AV) (v:Nat×(Nat->List UInt8)×Int):St:={env:=[(1,.ref 1 0),(3,.sl (.key 20) 1 v.1 (TX v.2.1)),(4,.int .i64 v.2.2)],objs:=[(1,.cells cs),(20,.own 1 v.1)]}
theorem Br (n:Nat) (g:Nat->List UInt8) (s:List UInt8):ag n 1 (TX g) (ae [.str []] [(0,.str s)])=TX (jU g n s):=vJ (λs:List UInt8=>[AV.str s]) n g _ s rfl
abbrev Ar (l:List SEG):Nat->List UInt8:=λj=>(l.getD j default).key
abbrev Cy (e:ENV):Nat->List UInt8:=λj=>(e.flags.getD j default).key
theorem uZ (l:List SEG) (hl:l.length<=1000000):aG wd eb SM.φX (rKs l.length (Ar l)) [cL l] []:=by
 obtain ⟨u,o,hu,h⟩:=ay (V:=V0) (T:=[]) (d:=1) (W:=[]) (f:=eb) (p:=P3) (Lf:=λL=>L) (KTI (cL l)) (KIn l.length (Ar l)) (λv=>(l.length - v.2.2).toNat) SM.NY (λr=>r.1=l.length/\∀j,j < r.1->r.2 j=Ar l j) (by kernel_rfl)
  (λv hv=>.b (decide (v.2.2 < (l.length:Int))) (λh=>.n (bA hv.i h) (.n (aH (b:=16) (n:=v.1+1) (m:=v.1) (by have:=hv.n;have:=hv.i.2;omega)) (.go
    {env:=[(0,cL l),(3,.sl (.key 18) 1 (v.1+1) (ag v.1 1 (TX v.2.1) (ae [.str []] [(0,.str (Ar l v.2.2.toNat))]))),(4,.int .i64 (IntKind.wrap .i64 (v.2.2+1)))],objs:=[(18,.own 1 (v.1+1))]}
    (v.1+1,jU v.2.1 v.1 (Ar l v.2.2.toNat),IntKind.wrap .i64 (v.2.2+1)) (hv.next hl (of_decide_eq_true h)) (av hv.i (by omega) (of_decide_eq_true h)).2 (by rw [Br];rfl))))
   λh=>.fi (v.1,v.2.1) ⟨by have:=of_decide_eq_false h;have:=hv.n;have:=hv.i.2;show v.1=l.length;omega,hv.a⟩) (λv L k kn=>by kernel_rfl)
 exact fJ (V:=V0) [] 1 h (.lp (hu (0,λ_=>[],0) (.zero _ _ _)) λt q=>.r t q) (by kernel_rfl)
theorem HX (e:ENV) (hl:e.flags.length<=1000000):aG wd iy SM.φX (rKs e.flags.length (Cy e)) [.agg e.c] []:=by
 obtain ⟨u,o,hu,h⟩:=ay (V:=V0) (T:=[]) (d:=1) (W:=[]) (f:=iy) (p:=P3) (Lf:=λL=>L) (KEI e.c) (KIn e.flags.length (Cy e)) (λv=>(e.flags.length - v.2.2).toNat) SM.LS (λr=>r.1=e.flags.length/\∀j,j < r.1->r.2 j=Cy e j) (by kernel_rfl)
  (λv hv=>.b (decide (v.2.2 < (e.flags.length:Int))) (λh=>.n (bA hv.i h) (.n (aH (b:=16) (n:=v.1+1) (m:=v.1) (by have:=hv.n;have:=hv.i.2;omega)) (.go
    {env:=[(1,.ref 1 0),(3,.sl (.key 20) 1 (v.1+1) (ag v.1 1 (TX v.2.1) (ae [.str []] [(0,.str (Cy e v.2.2.toNat))]))),(4,.int .i64 (IntKind.wrap .i64 (v.2.2+1)))],objs:=[(1,.cells e.c),(20,.own 1 (v.1+1))]}
    (v.1+1,jU v.2.1 v.1 (Cy e v.2.2.toNat),IntKind.wrap .i64 (v.2.2+1)) (hv.next hl (of_decide_eq_true h)) (av hv.i (by omega) (of_decide_eq_true h)).2 (by rw [Br];rfl))))
   λh=>.fi (v.1,v.2.1) ⟨by have:=of_decide_eq_false h;have:=hv.n;have:=hv.i.2;show v.1=e.flags.length;omega,hv.a⟩) (λv L k kn=>by kernel_rfl)
 exact fJ (V:=V0) [] 1 h (.lp (hu (0,λ_=>[],0) (.zero _ _ _)) λt q=>.r t q) (by kernel_rfl)
theorem Ao (e:ENV) (hl:e.segs.length<=1000000):aG wd bZ SM.φX (rKs e.segs.length (Ar e.segs)) [.agg e.c] []:=by
 obtain ⟨u,o,hu,h⟩:=ay (V:=V0) (T:=[]) (d:=1) (W:=[]) (f:=bZ) (p:=P3) (Lf:=λL=>L) (KEI e.c) (KIn e.segs.length (Ar e.segs)) (λv=>(e.segs.length - v.2.2).toNat) SM.LS (λr=>r.1=e.segs.length/\∀j,j < r.1->r.2 j=Ar e.segs j) (by kernel_rfl)
  (λv hv=>.b (decide (v.2.2 < (e.segs.length:Int))) (λh=>.n (bA hv.i h) (.n (aH (b:=16) (n:=v.1+1) (m:=v.1) (by have:=hv.n;have:=hv.i.2;omega)) (.go
    {env:=[(1,.ref 1 0),(3,.sl (.key 20) 1 (v.1+1) (ag v.1 1 (TX v.2.1) (ae [.str []] [(0,.str (Ar e.segs v.2.2.toNat))]))),(4,.int .i64 (IntKind.wrap .i64 (v.2.2+1)))],objs:=[(1,.cells e.c),(20,.own 1 (v.1+1))]}
    (v.1+1,jU v.2.1 v.1 (Ar e.segs v.2.2.toNat),IntKind.wrap .i64 (v.2.2+1)) (hv.next hl (of_decide_eq_true h)) (av hv.i (by omega) (of_decide_eq_true h)).2 (by rw [Br];rfl))))
   λh=>.fi (v.1,v.2.1) ⟨by have:=of_decide_eq_false h;have:=hv.n;have:=hv.i.2;show v.1=e.segs.length;omega,hv.a⟩) (λv L k kn=>by kernel_rfl)
 exact fJ (V:=V0) [] 1 h (.lp (hu (0,λ_=>[],0) (.zero _ _ _)) λt q=>.r t q) (by kernel_rfl)
def TTI (x:AV) (kd nm:List UInt8) (i:Int):St:={env:=[(0,x),(1,.str kd),(2,.str nm),(7,.int .i64 i)],objs:=[]}
theorem CM (l:List (List UInt8×List UInt8×Int)) (kd nm:List UInt8) (hl:l.length<=1048576):aG wd yw SM.φI' iD [lN l,.str kd,.str nm] []:=by
 obtain ⟨u,o,hu,h⟩:=ay (V:=V0) (T:=[]) (d:=1) (W:=[]) (f:=yw) (p:=[1,0,1,0]) (Lf:=λL=>L) (TTI (lN l) kd nm) (λi=>ix l.length i) (λi=>(l.length - i).toNat) (SM.NM nm) (λ_=>True) (by kernel_rfl)
  (λi hi=>.b (decide (i < (l.length:Int))) (λh=>.n (bA hi h) (.n (c:=bif within i l.length then true else !bif ((l.getD i.toNat ([],[],0)).1==kd)==true then true else false) (by rw [bA hi h];rfl)
   (.b (bif (l.getD i.toNat ([],[],0)).1==kd then (l.getD i.toNat ([],[],0)).2.1==nm else false) (λ_=>.n (bA hi h) (.fi (true,(l.getD i.toNat ([],[],0)).2.2) trivial))
    λ_=>.to (IntKind.wrap .i64 (i+1)) (av hi (by omega) (of_decide_eq_true h)).1 (av hi (by omega) (of_decide_eq_true h)).2)))
   λ_=>.fi (false,0) trivial) (λv L k kn=>by kernel_rfl)
 exact fJ (V:=V0) [] 1 h (.lp (hu 0 (ix0 _)) λt _=>.b t.1 (λ_=>.r t.2 trivial) λ_=>.b (nm==[107,101,121]) (λ_=>.r (3:Int) trivial) λ_=>.r (0:Int) trivial) (by kernel_rfl)
noncomputable abbrev KB:Ent:=aY wd yw SM.φI' iD
theorem wE (l:List (List UInt8×List UInt8×Int)) (s:SERVE) (hl:l.length<=1048576):aG wd AG SM.φI' iD [lN l,.agg s.c] []:=
 ef (V:=V0) [KB] 1 (.b (s.var !=0) (λ_=>.r (0:Int) trivial) λ_=>.call (CM l s.kind s.by' hl) λt _=>.b (t==0) (λ_=>.r (11:Int) trivial) λ_=>.b (t==5) (λ_=>.r (8:Int) trivial) λ_=>.r (0:Int) trivial) (by kernel_rfl)
def FTI (p:PART) (t:Int) (i:Int):St:={env:=[(0,.int .i64 t),(3,.ref 3 0),(5,.int .i64 i)],objs:=[(3,.cells p.c)]}
theorem Kr (p:PART) (t:Int) (hl:p.vals.length<=4611686018427387904):aG wd yv φB iD [.int .i64 t,.agg p.c] []:=by
 obtain ⟨u,o,hu,h⟩:=ay (V:=V0) (T:=[]) (d:=1) (W:=[]) (f:=yv) (p:=[1,1,0,1,0,0,1,0]) (Lf:=λL=>L) (FTI p t) (λi=>ix p.vals.length i) (λi=>(p.vals.length - i).toNat) (SM.N0 t) (λ_=>True) (by kernel_rfl)
  (λi hi=>.b (decide (i < (p.vals.length:Int))) (λh=>.n (bA hi h) (.b ((p.vals.getD i.toNat default).kind !=t) (λ_=>.fi true trivial)
    λ_=>.to (IntKind.wrap .i64 (i+1)) (av hi hl (of_decide_eq_true h)).1 (av hi hl (of_decide_eq_true h)).2))
   λ_=>.fi false trivial) (λv L k kn=>by kernel_rfl)
 exact fJ (V:=V0) [] 1 h (.b (p.op==6) (λ_=>.r true trivial) λ_=>.b (p.op==8) (λ_=>.lp (hu 0 (ix0 _)) λb _=>.b b (λ_=>.r false trivial) λ_=>.r (t !=5) trivial) λ_=>
  .b ((p.vals.length:Int)==0) (λ_=>.r false trivial) λh0=>.n (c:=within 0 p.vals.length) (ax (Int.le_refl _) (by
    have:(p.vals.length:Int)≠0:=by simpa using h0
    omega))
   (.b (p.op==7) (λ_=>.r ((p.vals.getD (Int.toNat 0) default).kind==t) trivial) λ_=>
   .b (p.op==9) (λ_=>.b (p.op==9) (λ_=>.r (bif t==3 then (p.vals.getD (Int.toNat 0) default).kind==3 else false) trivial) λ_=>
     .b (p.op==11) (λ_=>.r (bif bif t==3 then true else t==5 then (p.vals.getD (Int.toNat 0) default).kind==3 else false) trivial) λ_=>.r (bif bif bif t==2 then true else t==3 then true else t==4 then (p.vals.getD (Int.toNat 0) default).kind==t else false) trivial) λ_=>
   .b (p.op==10) (λ_=>.r (bif t==3 then (p.vals.getD (Int.toNat 0) default).kind==3 else false) trivial) λ_=>
   .b (p.op==11) (λ_=>.r (bif bif t==3 then true else t==5 then (p.vals.getD (Int.toNat 0) default).kind==3 else false) trivial) λ_=>
   .r (bif bif bif t==2 then true else t==3 then true else t==4 then (p.vals.getD (Int.toNat 0) default).kind==t else false) trivial)) (by kernel_rfl)
noncomputable abbrev MF:Ent:=aY wd yv φB iD
noncomputable abbrev vn:Ent:=aY wd AG SM.φI' iD
end Go.T

namespace Go.T
open Go Go.Ab Go.Proofs Go.SH
open Go.SM (TX txA TXS ENV cL EDG ED edA KOk XOk dx fW)
def rTx (b:Nat) (_:List AV) (_:List AO) (r:TXS):Prop:=r.1<=b
def rRf (l:List AV) (_:List AO) (r:TXS):Prop:=∀ (x:TXS) (e:EXP),l=[txA x.1 x.2,.agg e.c]->r.1<=x.1+e.size
noncomputable abbrev eRf:Ent:=aY wd gM SM.φX rRf
def RTI (p:PART) (v:TXS×Int):St:={env:=[(0,txA v.1.1 v.1.2),(3,.ref 3 0),(5,.int .i64 v.2)],objs:=[(3,.cells p.c)]}
theorem DZ {e:EXP} (he:KOk e):∀x:TXS,x.1+e.size<=1000000->aG wd gM SM.φX rRf [txA x.1 x.2,.agg e.c] []:=by
 induction he with
 | mk e h1 h2 h3 ih=>
  intro x hB
  have pn:e.part.n=e.kids.length:=rfl
  have sz:e.size=1+cu e.kids:=e.size_eq
  obtain ⟨u,o,hu,hlo⟩:=ay (V:=V0) (T:=[eRf,zt]) (d:=1) (W:=[]) (f:=gM) (p:=P3) (Lf:=λL=>L) (RTI e.part) (λv=>ix e.part.n v.2/\v.1.1+cu (e.kids.drop v.2.toNat)<=x.1+e.size) (λv=>(e.part.n - v.2).toNat) SM.NQ (λr=>r.1<=x.1+e.size) (by kernel_rfl)
   (λv hv=>.b (decide (v.2 < (e.part.n:Int))) (λh=>.n (bA hv.1 h) (
     have hi:v.2.toNat < e.kids.length:=by have:=of_decide_eq_true h;have:=hv.1.1;rw [pn] at *;omega
     .call (f:=gM) (R:=rRf) (ψ:=SM.φX) (l:=[txA v.1.1 v.1.2,.agg (Cv e.part v.2.toNat)]) (os:=[])
     (by
      rw [hM hi]
      have:=fW hi
      exact ih _ (dx hi) v.1 (by have:=hv.2;omega)) λt q=>
     .to (t,IntKind.wrap .i64 (v.2+1)) (by
      have hx:=av hv.1 (by rw [pn];omega) (of_decide_eq_true h)
      have hd:=fW hi
      have hq:=q v.1 (e.kid v.2.toNat) (by rw [hM hi])
      have h0:=hv.1.1
      refine ⟨hx.1,?_⟩
      show t.1+cu (e.kids.drop (IntKind.wrap .i64 (v.2+1)).toNat)<=_
      rw [wrap_i64 (by omega) (by omega),show (v.2+1).toNat=v.2.toNat+1 by omega]
      have hq:t.1<=v.1.1+(e.kids.getD v.2.toNat default).size:=hq
      have:=hv.2
      omega) (av hv.1 (by rw [pn];omega) (of_decide_eq_true h)).2))
    λ_=>.fi v.1 (by have:=hv.2;omega)) (λv L k kn=>by kernel_rfl)
  rw [<-EXP.bI e]
  have fin:∀r:TXS,r.1<=x.1+e.size->rRf [txA x.1 x.2,.agg e.part.c] [] r:=λr h y e' hy=>by
   simp only [List.cons.injEq,AV.agg.injEq,and_true] at hy
   have hy1:x=y:=qG hy.1
   have hy2:e=e':=EXP.df _ _ (by rw [<-EXP.bI e];exact hy.2)
   subst hy1;subst hy2;exact h
  exact fJ (V:=V0) [eRf,zt] 1 hlo (.b (e.part.op==5)
   (λ_=>.call (zW x.1 x.2 e.part.name (by omega)) λt q=>.lp (hu (t,0) ⟨ix0 _,by have:=(q x _ rfl).1;show t.1+cu e.kids<=_;omega⟩) λr q=>.r r (fin r q))
   λ_=>.lp (hu (x,0) ⟨ix0 _,by show x.1+cu e.kids<=_;omega⟩) λr q=>.r r (fin r q)) (by kernel_rfl)
theorem BQ {e:EXP} (he:KOk e) (hB:e.size<=1000000):aG wd gM SM.φX (rTx e.size) [.sl .fit 0 0 λ_=>[],.agg e.c] []:=by
 obtain ⟨r,h1,h2⟩:=DZ he (0,λ_=>[]) (by show 0+e.size<=_;omega)
 refine ⟨r,by have:=h1 (0,λ_=>[]) e rfl;show r.1<=e.size;have h:r.1<=0+e.size:=this;omega,Ct.args h2 (by rw [<-EXP.bI e];rfl) (by rw [<-EXP.bI e];rfl) λi u u' hu hu' c v hr=>?_⟩
 match i,hu,hu' with
 | 0,hu,hu'=>
  simp only [List.getElem?_cons_zero,Option.some.injEq] at hu hu'
  subst hu hu'
  exact uE hr
 | 1,hu,hu'=>
  simp only [List.getElem?_cons_succ,List.getElem?_cons_zero,Option.some.injEq] at hu hu'
  subst hu hu'
  exact hr
 | i+2,hu,_=>simp at hu
theorem BP {e:EXP} (he:KOk e) (hB:e.size<=1000000):aG wd n6 SM.φX (rTx e.size) [.agg e.c] []:=by
 have h:=BQ he hB
 rw [<-EXP.bI e] at h ⊢
 exact ef (V:=V0) [aY wd gM SM.φX (rTx e.size)] 1 (.call h λt q=>.r t q) (by kernel_rfl)
theorem Ja (n:Nat) (f:EDG) (a b:List UInt8):ag n 1 (ED f) (ae [.str [],.str []] [(0,.agg [.str a,.str b])])=ED (jU f n (a,b)):=vJ (λx:List UInt8×List UInt8=>[AV.str x.1,.str x.2]) n f _ (a,b) rfl
def φEd (x:Nat×EDG):AV×List AO:=(edA x.1 x.2,[])
def rEd (_:List AV) (_:List AO) (x:Nat×EDG):Prop:=x.1<=1000000
abbrev PE:List Nat:=[1,1,0,1,0,0,1,0,0,1,1,0]
abbrev PN:List Nat:=[1,1,0,1,0,0,1,0,0,1,0]
structure EV where
 i:Int
 n:Nat
 f:EDG
 x:TXS
 j:Int
def E1 (x:AV) (v:Int×Nat×EDG):St:={env:=[(0,x),(3,.sl (.key 37) 2 v.2.1 (ED v.2.2)),(4,.int .i64 v.1)],objs:=[(37,.own 2 v.2.1)]}
def E2 (x:AV) (v:EV):St:={env:=[(0,x),(3,.sl (.key 37) 2 v.n (ED v.f)),(4,.int .i64 v.i),(5,txA v.x.1 v.x.2),(6,.int .i64 v.j)],objs:=[(37,.own 2 v.n)]}
def JT (x:AV) (o:Int×Nat×EDG) (k:Ex->St->Res):Res:=k (.exit 2) (E1 x o)
def sgK (l:List SEG) (i:Int):List UInt8:=(l.getD i.toNat default).key
def seC (l:List SEG) (i:Int):List AV:=[.int .i64 (l.getD i.toNat default).when.op,.str (l.getD i.toNat default).when.kind,.str (l.getD i.toNat default).when.name,iP (l.getD i.toNat default).when.vals,SM.exL (l.getD i.toNat default).when.kids]
noncomputable abbrev eRs:Ent:=aY wd n6 SM.φX (rTx 1000)
theorem H6 (l:List SEG) (hl:l.length<=1000) (hk:∀g∈l,XOk g.when):aG wd mS φEd rEd [cL l] []:=by
 obtain ⟨u2,w2,h2,l2⟩:=oe (V:=V0) (T:=[eRs]) (d:=1) (W:=[]) (f:=mS) (p:=PE) (Lf:=λL=>L) (E2 (cL l)) (λv=>(within v.i l.length=true/\ix v.x.1 v.j)/\v.x.1<=1000/\(v.n:Int)+(v.x.1 - v.j)<=(v.i+1)*1000) (λv=>(v.x.1 - v.j).toNat) (JT (cL l)) (λs o=>o.1=slI 4 s/\(o.2.1:Int)<=(o.1+1)*1000) (by kernel_rfl)
  (λv hv=>
   have hi:=j0 hv.1.1
   have hjn:=hv.1.2.2
   .b (decide (v.j < (v.x.1:Int))) (λh=>
    have hx:=av hv.1.2 (by have:=hv.2.1;omega) (of_decide_eq_true h)
    .n hv.1.1 (.n (bA hv.1.2 h) (.n (aH (b:=32) (n:=v.n+1) (m:=v.n) (by have:=hv.2.2;omega)) (.nx
    {env:=[(0,cL l),(3,.sl (.key 37) 2 (v.n+1) (ag v.n 1 (ED v.f) (ae [.str [],.str []] [(0,.agg [.str (sgK l v.i),.str (v.x.2 v.j.toNat)])]))),(4,.int .i64 v.i),(5,txA v.x.1 v.x.2),(6,.int .i64 (IntKind.wrap .i64 (v.j+1)))],objs:=[(37,.own 2 (v.n+1))]}
    (EV.mk v.i (v.n+1) (jU v.f v.n (sgK l v.i,v.x.2 v.j.toNat)) v.x (IntKind.wrap .i64 (v.j+1))) ⟨⟨hv.1.1,hx.1⟩,hv.2.1,by
     have h:=of_decide_eq_true h
     have h0:=hv.1.2.1
     have:=hv.2.1
     have:=hv.2.2
     show ((v.n+1:Nat):Int)+(v.x.1 - IntKind.wrap .i64 (v.j+1))<=(v.i+1)*1000
     rw [wrap_i64 (by omega) (by omega)];omega⟩ hx.2 (λ_ h=>h) (by rw [Ja];rfl)))))
   λ_=>.fi (v.i,v.n,v.f) ⟨rfl,by have:=hv.2.2;show (v.n:Int)<=(v.i+1)*1000;omega⟩) (λv L k kn=>by kernel_rfl)
 obtain ⟨u1,w1,h1,l1⟩:=ay (V:=V0) (T:=[eRs]) (d:=1) (W:=[]) (f:=mS) (p:=P3) (Lf:=λo:Orc=>[(P3,o),(PE,mkO u2 w2 (JT (cL l)))]) (E1 (cL l)) (λv=>ix l.length v.1/\(v.2.1:Int)<=v.1*1000) (λv=>(l.length - v.1).toNat) SM.N4 (λo=>o.1<=1000000) (by kernel_rfl)
  (λv hv=>.b (decide (v.1 < (l.length:Int))) (λh=>
    have hi:v.1.toNat < l.length:=by have:=of_decide_eq_true h;have:=hv.1.1;omega
    .n (bA hv.1 h) (.call (f:=n6) (R:=rTx 1000) (ψ:=SM.φX) (l:=[.agg (seC l v.1)]) (os:=[]) (by
     unfold seC
     rw [SM.tZ]
     have hx:=hk (l.getD v.1.toNat default) (by rw [List.getD_eq_getElem?_getD,List.getElem?_eq_getElem hi];exact List.getElem_mem hi)
     obtain ⟨r,hr,hc⟩:=BP hx.1 (by have:=hx.2;omega)
     exact ⟨r,Nat.le_trans hr hx.2,hc⟩) λt q=>.lp (h2 (EV.mk v.1 v.2.1 v.2.2 t 0) ⟨⟨bA hv.1 h,ix0 _⟩,q,by have q:t.1<=1000:=q;have:=hv.2;show (v.2.1:Int)+(t.1 - 0)<=(v.1+1)*1000;omega⟩) λy qy=>
     .to (IntKind.wrap .i64 (y.1+1),y.2) (by
      have q1:y.1=v.1:=qy.1
      have q2:(y.2.1:Int)<=(y.1+1)*1000:=qy.2
      have hx:=(av hv.1 (by omega) (of_decide_eq_true h)).1
      have h:=of_decide_eq_true h
      have h0:=hv.1.1
      rw [q1] at q2 ⊢
      refine ⟨hx,?_⟩
      show (y.2.1:Int)<=IntKind.wrap .i64 (v.1+1)*1000
      rw [wrap_i64 (by omega) (by omega)];exact q2) (by have q1:y.1=v.1:=qy.1;rw [q1];exact (av hv.1 (by omega) (of_decide_eq_true h)).2)))
   λh=>.fi v.2 (by have:=hv.2;have:=hv.1.2;omega)) (λv L k kn=>by kernel_rfl)
 exact de (V:=V0) (T:=[eRs]) (d:=1) 0 (ah (l1 _) (ah (l2 _) aE)) aD (.lp (h1 (0,0,λ_=>([],[])) ⟨ix0 _,by show ((0:Nat):Int)<=0*1000;omega⟩) λt q=>.r t q) (by kernel_rfl)
noncomputable abbrev PD:Ent:=aY wd mS φEd rEd
end Go.T

namespace Go.T
open Go Go.Ab Go.Proofs Go.SH
open Go.SM (ENV EDG ED)
structure GV where
 i:Int
 n:Nat
 f:EDG
 j:Int
def G1 (cs:List AV) (v:Int×Nat×EDG):St:={env:=[(1,.ref 1 0),(3,.sl (.key 43) 2 v.2.1 (ED v.2.2)),(4,.int .i64 v.1)],objs:=[(1,.cells cs),(43,.own 2 v.2.1)]}
def G2 (cs:List AV) (v:GV):St:={env:=[(1,.ref 1 0),(3,.sl (.key 43) 2 v.n (ED v.f)),(4,.int .i64 v.i),(5,.int .i64 v.j)],objs:=[(1,.cells cs),(43,.own 2 v.n)]}
def JS (cs:List AV) (o:Int×Nat×EDG) (k:Ex->St->Res):Res:=k (.exit 2) (G1 cs o)
def HY (e:ENV) (i:Int):List PRQ:=(e.flags.getD i.toNat default).prqs
theorem Hz (e:ENV) (hl:e.flags.length<=1000) (hk:∀g∈e.flags,g.prqs.length<=1000):aG wd gC φEd rEd [.agg e.c] []:=by
 have hp:∀i:Int,within i e.flags.length=true->(HY e i).length<=1000:=λi h=>by
  have h:=j0 h
  have hi:i.toNat < e.flags.length:=by omega
  exact hk (e.flags.getD i.toNat default) (by rw [List.getD_eq_getElem?_getD,List.getElem?_eq_getElem hi];exact List.getElem_mem hi)
 obtain ⟨u2,w2,h2,l2⟩:=oe (V:=V0) (T:=[]) (d:=1) (W:=[]) (f:=gC) (p:=PN) (Lf:=λL=>L) (G2 e.c) (λv=>(within v.i e.flags.length=true/\ix (HY e v.i).length v.j)/\(v.n:Int)+((HY e v.i).length - v.j)<=(v.i+1)*1000) (λv=>((HY e v.i).length - v.j).toNat) (JS e.c) (λs o=>o.1=slI 4 s/\(o.2.1:Int)<=(o.1+1)*1000) (by kernel_rfl)
  (λv hv=>
   have hi:=j0 hv.1.1
   have hjn:=hv.1.2.2
   have hp:=hp v.i hv.1.1
   .n hv.1.1 (.b (decide (v.j < ((HY e v.i).length:Int))) (λh=>
    have hx:=av hv.1.2 (by omega) (of_decide_eq_true h)
    .n hv.1.1 (.n hv.1.1 (.n (bA hv.1.2 h) (.n (aH (b:=32) (n:=v.n+1) (m:=v.n) (by have:=hv.2;omega)) (.nx
    {env:=[(1,.ref 1 0),(3,.sl (.key 43) 2 (v.n+1) (ag v.n 1 (ED v.f) (ae [.str [],.str []] [(0,.agg [.str (Cy e v.i.toNat),.str ((HY e v.i).getD v.j.toNat default).flag])]))),(4,.int .i64 v.i),(5,.int .i64 (IntKind.wrap .i64 (v.j+1)))],objs:=[(1,.cells e.c),(43,.own 2 (v.n+1))]}
    (GV.mk v.i (v.n+1) (jU v.f v.n (Cy e v.i.toNat,((HY e v.i).getD v.j.toNat default).flag)) (IntKind.wrap .i64 (v.j+1))) ⟨⟨hv.1.1,hx.1⟩,by
     have h:=of_decide_eq_true h
     have h0:=hv.1.2.1
     have:=hv.2
     show ((v.n+1:Nat):Int)+((HY e v.i).length - IntKind.wrap .i64 (v.j+1))<=(v.i+1)*1000
     rw [wrap_i64 (by omega) (by omega)];omega⟩ hx.2 (λ_ h=>h) (by rw [Ja];rfl))))))
   λ_=>.fi (v.i,v.n,v.f) ⟨rfl,by have:=hv.2;show (v.n:Int)<=(v.i+1)*1000;omega⟩)) (λv L k kn=>by kernel_rfl)
 obtain ⟨u1,w1,h1,l1⟩:=ay (V:=V0) (T:=[]) (d:=1) (W:=[]) (f:=gC) (p:=P3) (Lf:=λo:Orc=>[(P3,o),(PN,mkO u2 w2 (JS e.c))]) (G1 e.c) (λv=>ix e.flags.length v.1/\(v.2.1:Int)<=v.1*1000) (λv=>(e.flags.length - v.1).toNat) SM.NZ (λo=>o.1<=1000000) (by kernel_rfl)
  (λv hv=>.b (decide (v.1 < (e.flags.length:Int))) (λh=>
    .lp (h2 (GV.mk v.1 v.2.1 v.2.2 0) ⟨⟨bA hv.1 h,ix0 _⟩,by have:=hp v.1 (bA hv.1 h);have:=hv.2;show (v.2.1:Int)+((HY e v.1).length - 0)<=(v.1+1)*1000;omega⟩) λy qy=>
     .to (IntKind.wrap .i64 (y.1+1),y.2) (by
      have q1:y.1=v.1:=qy.1
      have q2:(y.2.1:Int)<=(y.1+1)*1000:=qy.2
      have hx:=(av hv.1 (by omega) (of_decide_eq_true h)).1
      have h:=of_decide_eq_true h
      have h0:=hv.1.1
      rw [q1] at q2 ⊢
      refine ⟨hx,?_⟩
      show (y.2.1:Int)<=IntKind.wrap .i64 (v.1+1)*1000
      rw [wrap_i64 (by omega) (by omega)];exact q2) (by have q1:y.1=v.1:=qy.1;rw [q1];exact (av hv.1 (by omega) (of_decide_eq_true h)).2))
   λh=>.fi v.2 (by have:=hv.2;have:=hv.1.2;omega)) (λv L k kn=>by kernel_rfl)
 exact de (V:=V0) (T:=[]) (d:=1) 0 (ah (l1 _) (ah (l2 _) aE)) aD (.lp (h1 (0,0,λ_=>([],[])) ⟨ix0 _,by show ((0:Nat):Int)<=0*1000;omega⟩) λt q=>.r t q) (by kernel_rfl)
noncomputable abbrev PA:Ent:=aY wd gC φEd rEd
end Go.T

namespace Go.T
open Go Go.Ab Go.Proofs Go.SH
open Go.SM (TX txA TXS In EDG ED edA lack AY zJ Af NO JQ JP φL')
theorem HE {α τ ι:Type} [Inhabited τ] {V:Env} {T:List Ent} {d:Nat} {Lf:ι->List (List Nat×Orc)} {W:List (List Nat×Vw)} {f:FuncId} {p:List Nat} (S:α->St) (Inv:α->Prop) (μ:α->Nat) (out:τ->(Ex->St->Res)->Res) (R:α->τ->Prop) (inj:∀a b o,S a=S b->R a o->R b o) (hb:kC (dM (bu V.P f) p)=true)
  {e:α->ι->(Ex->St->Res)->(St->Res)->Res} (h1:∀v,Inv v->RT S Inv μ out R v (e v)) (he:∀v i k kn,dS (V.run T d [] (Lf i) W f) f 9 p (S v) kn k=e v i k kn) :
  ∃ (u:St->Bool) (w:St->τ),(∀v,Inv v->bT u w (S v) (R v))/\∀i,bw (V.run T d [] (Lf i) W f) f p (mkO u w out):=by
 obtain ⟨b,hb⟩:∃b,dM (bu V.P f) p=.loop b:=by
  cases hc:dM (bu V.P f) p with
  | loop b=>exact ⟨b,rfl⟩
  | _=>rw [hc] at hb;cases hb
 obtain ⟨w,hw,hl⟩:=uU (Xf:=λi=>V.run T d [] (Lf i) W f) (f:=f) (p:=p) (b:=b) S Inv μ out R (λ_=>hb) 9 λv hv=>RT.eq (λi k kn=>he v i k kn) (h1 v hv)
 exact ⟨db S Inv,fO S Inv w,λv hv=>⟨gG hv,fN (S:=S) (Post:=R) hw (λa b o hs hp=>inj a b o hs hp) hv⟩,hl⟩
structure NV where
 a:TXS
 b:TXS
 s:List UInt8
 i:Int
def NI (ne:Nat) (f:EDG) (v:NV):St:={env:=[(0,edA ne f),(5,txA v.a.1 v.a.2),(6,txA v.b.1 v.b.2),(7,.str v.s),(8,.int .i64 v.i)],objs:=[]}
theorem M0 {ne:Nat} {f:EDG} {v w:NV} (h:NI ne f v=NI ne f w):v=w:=by
 obtain ⟨a,b,s,i⟩:=v
 obtain ⟨a',b',s',i'⟩:=w
 simp only [NI,St.mk.injEq,List.cons.injEq,Prod.mk.injEq,AV.int.injEq,AV.str.injEq,true_and,and_true] at h
 have h1:a=a':=qG h.1
 have h2:b=b':=qG h.2.1
 have h3:=h.2.2.1
 have h4:=h.2.2.2
 subst h1 h2 h3 h4;rfl
abbrev WN:List (List Nat×Vw):=[([1,1,1],Gp [(5,1,[.str []]),(6,1,[.str []])]),([1,1,1,0,0,0,1,0,1,1,1,0,0,1,1],Gp [(6,1,[.str []])])]
abbrev PNI:List Nat:=[1,1,1,0,0,0,1,0,1,1,1,0]
abbrev PNO:List Nat:=[1,1,1,0,0]
def Nl (n:Nat) (g:Nat->List UInt8):Nat->List UInt8:=λj=>bif Nat.blt j n then g j else []
theorem KX (b:TXS) (s:List UInt8) {j:Nat} (hj:j < 0+b.1+1):ag (0+b.1) 1 (ag 0 b.1 (λ_=>[]) (TX b.2)) (ae [.str []] [(0,.str s)]) j=[AV.str (jU b.2 b.1 s j)]:=by
 unfold ag
 by_cases hjb:j < b.1
 ·rw [qP _ _ (by omega),jM (show j < 0+b.1 by omega),cond_true,bf (Nat.zero_le j),cond_false,cond_true,Nat.sub_zero];rfl
 ·have:j=b.1:=by omega
  subst this
  rw [uz,bf (show 0+b.1<=b.1 by omega),jM (show b.1 < 0+b.1+1 by omega),cond_false,cond_true,Nat.zero_add,Nat.sub_self];rfl
def rNd (ne:Nat) (_:List AV) (_:List AO) (r:TXS):Prop:=r.1<=ne
theorem J1 (ne:Nat) (f:EDG) (hne:ne<=1000000) (s:List UInt8):aG wd p8 SM.φX (rNd ne) [edA ne f,.str s] []:=by
 obtain ⟨u2,w2,h2,l2⟩:=HE (V:=V0) (T:=[zq,zt]) (d:=1) (W:=WN) (f:=p8) (p:=PNI) (Lf:=λL=>L) (NI ne f) (λv=>ix ne v.i/\v.a.1+lack ne f v.a<=ne/\v.b.1+lack ne f v.a<=ne+1) (λv=>(ne - v.i).toNat) (JQ ne f) (λv o=>o.1.1+lack ne f o.1<=ne/\o.2.1+lack ne f o.1<=v.b.1+lack ne f v.a) (λa b o hs hp=>by rw [<-M0 hs];exact hp) (by kernel_rfl)
  (λv hv=>
   have ha:=hv.2.1
   have hb:=hv.2.2
   .b (decide (v.i < (ne:Int))) (λh=>
    have hi:=of_decide_eq_true h
    have hx:=av hv.1 (by omega) hi
    .n (bA hv.1 h) (.n (c:=bif within v.i ne then true else !bif ((f v.i.toNat).1==v.s)==true then true else false) (by rw [bA hv.1 h];rfl)
    (.call (y9 v.a.1 v.a.2 (f v.i.toNat).2 (by omega)) λt q=>
     .b (bif (f v.i.toNat).1==v.s then !t else false) (λhc=>
      have hin:¬ In v.a (f v.i.toNat).2:=λhin=>by
       have:=(q v.a _ rfl).2 hin
       have hc:=K0 hc
       rw [this] at hc;cases hc
      .n (bA hv.1 h) (.call (zW v.a.1 v.a.2 (f v.i.toNat).2 (by omega)) λt1 q1=>
      have h3:=q1 v.a _ rfl
      have h4:=AY (ne:=ne) (f:=f) (i:=v.i.toNat) (by have:=hv.1.1;omega) hin h3.2
      .n (c:=roomy 16 (0+v.b.1)) (SM.AE (by omega)) (.n (bA hv.1 h) (.n (aH (b:=16) (n:=0+v.b.1+1) (m:=0+v.b.1) (by omega))
      (.nx {env:=[(0,edA ne f),(5,txA t1.1 t1.2),(6,.sl .no 1 (0+v.b.1+1) (F8 [.str []] (0+v.b.1+1) (ag (0+v.b.1) 1 (ag 0 v.b.1 (λ_=>[]) (TX v.b.2)) (ae [.str []] [(0,.str (f v.i.toNat).2)])))),(7,.str v.s),(8,.int .i64 (IntKind.wrap .i64 (v.i+1)))],objs:=[]}
       (NV.mk t1 (0+v.b.1+1,Nl (0+v.b.1+1) (jU v.b.2 v.b.1 (f v.i.toNat).2)) v.s (IntKind.wrap .i64 (v.i+1))) ⟨hx.1,by have:=h3.1;show t1.1+lack ne f t1<=ne;omega,by show 0+v.b.1+1+lack ne f t1<=ne+1;omega⟩ hx.2 (λo ho=>⟨ho.1,Nat.le_trans ho.2 (by show 0+v.b.1+1+lack ne f t1<=v.b.1+lack ne f v.a;omega)⟩)
       (by rw [Af (jU v.b.2 v.b.1 (f v.i.toNat).2) λj hj=>KX v.b _ hj];rfl))))))
     λ_=>.nx {env:=[(0,edA ne f),(5,txA v.a.1 v.a.2),(6,.sl .no 1 v.b.1 (F8 [.str []] v.b.1 (TX v.b.2))),(7,.str v.s),(8,.int .i64 (IntKind.wrap .i64 (v.i+1)))],objs:=[]}
       (NV.mk v.a (v.b.1,Nl v.b.1 v.b.2) v.s (IntKind.wrap .i64 (v.i+1))) ⟨hx.1,ha,hb⟩ hx.2 (λo ho=>ho) (by rw [Af (get:=TX v.b.2) v.b.2 λj hj=>rfl];rfl))))
   λ_=>.fi (v.a,v.b) ⟨ha,Nat.le_refl _⟩) (λv L k kn=>by kernel_rfl)
 have e0:AV.sl .no 1 1 (F8 [.str []] 1 (ae [.str []] [(0,.str s)]))=txA 1 (Nl 1 λ_=>s):=Af (λ_=>s) λj hj=>by
  have:j=0:=by omega
  subst this;rfl
 obtain ⟨u1,w1,h1,l1⟩:=ay (V:=V0) (T:=[zq,zt]) (d:=1) (W:=WN) (f:=p8) (p:=PNO) (Lf:=λo:Orc=>[(PNO,o),(PNI,mkO u2 w2 (JQ ne f))]) (λv:TXS×TXS=>NO ne f v.1 v.2) (λv=>v.1.1+lack ne f v.1<=ne/\v.2.1+lack ne f v.1<=ne+1) (λv=>v.2.1+lack ne f v.1) JP (λo=>o.1<=ne) (by kernel_rfl)
  (λv hv=>.b (decide ((v.2.1:Int) > 0)) (λh=>
    have h:=of_decide_eq_true h
    have hv1:=hv.1
    have hv2:=hv.2
    .n (c:=within 0 v.2.1) (ax (Int.le_refl _) h) (.n (c:=decide ((0:Int)<=1)&&(decide ((1:Int)<=(v.2.1:Int))&&decide ((v.2.1:Int)<=(v.2.1:Int)))) (by rw [decide_eq_true (show (1:Int)<=(v.2.1:Int) by omega),decide_eq_true (Int.le_refl (v.2.1:Int))];rfl)
    (.lp (h2 (NV.mk v.1 (v.2.1 - 1,λj=>v.2.2 (1+j)) (v.2.2 0) 0) ⟨ix0 _,hv1,by show v.2.1 - 1+lack ne f v.1<=ne+1;omega⟩) λt q=>
     have q2:t.2.1+lack ne f t.1<=v.2.1 - 1+lack ne f v.1:=q.2
     .to t ⟨q.1,by omega⟩ (by omega))))
   λ_=>.fi v.1 (by have:=hv.1;omega)) (λv L k kn=>by kernel_rfl)
 have hl0:lack ne f (0,λ_=>[])<=ne:=zJ _ _
 have hh:=h1 ((0,λ_=>[]),(1,Nl 1 λ_=>s)) ⟨by show 0+lack ne f (0,λ_=>[])<=ne;omega,by show 1+lack ne f (0,λ_=>[])<=ne+1;omega⟩
 have hh:bT u1 w1 {env:=[(0,edA ne f),(5,txA 0 λ_=>[]),(6,.sl .no 1 1 (F8 [.str []] 1 (ae [.str []] [(0,.str s)])))],objs:=[]} (λo=>o.1<=ne):=by rw [e0];exact hh
 exact de (V:=V0) (T:=[zq,zt]) (d:=1) 0 (ah (l1 _) (ah (l2 _) aE)) (cw (ue _) (cw (ue _) aD)) (.lp hh λt q=>.r t q) (by kernel_rfl)
noncomputable abbrev eNd (ne:Nat):Ent:=aY wd p8 SM.φX (rNd ne)
def CSI (n:Nat) (g:Nat->List UInt8) (ne:Nat) (f:EDG) (v:TXS×Int):St:={env:=[(0,txA n g),(1,edA ne f),(5,txA v.1.1 v.1.2),(6,.int .i64 v.2)],objs:=[]}
def rCy (n:Nat) (g:Nat->List UInt8) (_:List AV) (_:List AO) (r:TXS):Prop:=r.1<=n/\∀y,In r y->In (n,g) y
theorem Fo (n:Nat) (g:Nat->List UInt8) (ne:Nat) (f:EDG) (hn:n<=999999) (hne:ne<=1000000):aG wd rb SM.φX (rCy n g) [txA n g,edA ne f] []:=by
 obtain ⟨u,w,hu,hl⟩:=ay (V:=V0) (T:=[eNd ne,zq,zt]) (d:=1) (W:=[([1,1,0,1],Gp [(5,1,[.str []])])]) (f:=rb) (p:=P3) (Lf:=λL=>L) (CSI n g ne f) (λv=>ix n v.2/\(v.1.1:Int)<=v.2/\∀y,In v.1 y->In (n,g) y) (λv=>(n - v.2).toNat) JP (λo=>o.1<=n/\∀y,In o y->In (n,g) y) (by kernel_rfl)
  (λv hv=>.b (decide (v.2 < (n:Int))) (λh=>
    have hi:=of_decide_eq_true h
    have hx:=av hv.1 (by omega) hi
    have h0:=hv.1.1
    have h1:=hv.2.1
    have hw:IntKind.wrap .i64 (v.2+1)=v.2+1:=wrap_i64 (by omega) (by omega)
    .n (bA hv.1 h) (.call (J1 ne f hne (g v.2.toNat)) λt q=>.n (bA hv.1 h) (.call (y9 t.1 t.2 (g v.2.toNat) (by have q:t.1<=ne:=q;omega)) λb _=>
     .b b (λ_=>.n (bA hv.1 h) (.call (zW v.1.1 v.1.2 (g v.2.toNat) (by omega)) λt2 q2=>
       have q3:=q2 v.1 _ rfl
       .to (t2,IntKind.wrap .i64 (v.2+1)) ⟨hx.1,by have:=q3.1;show (t2.1:Int)<=IntKind.wrap .i64 (v.2+1);rw [hw];omega,λy hy=>((q3.2 y).1 hy).elim (hv.2.2 y) λe=>⟨v.2.toNat,by show v.2.toNat < n;omega,e.symm⟩⟩ hx.2))
      λ_=>.to (v.1,IntKind.wrap .i64 (v.2+1)) ⟨hx.1,by show (v.1.1:Int)<=IntKind.wrap .i64 (v.2+1);rw [hw];omega,hv.2.2⟩ hx.2)))
   λh=>.fi v.1 ⟨by have:=hv.2.1;have:=hv.1.2;omega,hv.2.2⟩) (λv L k kn=>by kernel_rfl)
 exact de (V:=V0) (T:=[eNd ne,zq,zt]) (d:=1) 0 (ah (hl _) aE) (cw (ue _) aD) (.lp (hu ((0,λ_=>[]),0) ⟨ix0 _,Int.le_refl _,λy ⟨j,hj,_⟩=>absurd hj (Nat.not_lt_zero _)⟩) λt q=>.r t q) (by kernel_rfl)
noncomputable abbrev eCy (n:Nat) (g:Nat->List UInt8):Ent:=aY wd rb SM.φX (rCy n g)
instance:Inhabited (List UInt8×Bool):=⟨([],false)⟩
def rLe (n:Nat) (g:Nat->List UInt8) (_:List AV) (_:List AO) (r:List UInt8×Bool):Prop:=r.1=[]∨In (n,g) r.1
theorem HG (n:Nat) (g:Nat->List UInt8) (ne:Nat) (f:EDG) (hn:n<=999999) (hne:ne<=1000000):aG wd ri φL' (rLe n g) [txA n g,edA ne f] []:=
 ef (V:=V0) [eCy n g] 1 (.call (Fo n g ne f hn hne) λt q=>.b ((t.1:Int)==0) (λ_=>.r ([],false) (Or.inl rfl)) λhz=>
  have hz:¬ ((t.1:Int)=0):=by simpa using hz
  .n (c:=within 0 t.1) (ax (by omega) (by omega)) (.r (t.2 0,true) (Or.inr (q.2 _ ⟨0,by omega,rfl⟩)))) (by kernel_rfl)
end Go.T

namespace Go.T
open Go Go.Ab Go.Proofs Go.SH
open Go.SM (TX txA lN KOk dx)
noncomputable abbrev eX9:Ent:=aY wd ra SM.φI' iD
def XSI (l:AV) (n:Nat) (g:Nat->List UInt8) (p:PART) (i:Int):St:={env:=[(0,l),(1,txA n g),(5,.ref 5 0),(8,.int .i64 i)],objs:=[(5,.cells p.c)]}
def NJ (b:Bool×Int) (k:Ex->St->Res):Res:=cond b.1 (k .ret {env:=[(6,.int .i64 b.2)],objs:=[]}) (k (.exit 0) {env:=[],objs:=[]})
theorem HZ (l:List (List UInt8×List UInt8×Int)) (hl:l.length<=1048576) (n:Nat) (g:Nat->List UInt8) (hn:n<=1000000) {e:EXP} (he:KOk e):e.Ok->aG wd ra SM.φI' iD [lN l,txA n g,.agg e.c] []:=by
 induction he with
 | mk e hop hlen hk ih=>
  intro hok
  have hkids:∀k∈e.kids,k.Ok:=by cases hok with | mk _ _ _ _ _ h=>exact h
  have hvals:e.part.vals.length<=4611686018427387904:=by cases hok with | mk _ _ _ h _ _=>exact h.1
  have pn:e.part.n=e.kids.length:=rfl
  obtain ⟨u,o,hu,hlo⟩:=ay (V:=V0) (T:=[eX9,KB,MF,zq]) (d:=2) (W:=[]) (f:=ra) (p:=PB) (Lf:=λL=>L) (XSI (lN l) n g e.part) (λi=>ix e.part.n i) (λi=>(e.part.n - i).toNat) NJ (λ_=>True) (by kernel_rfl)
   (λi hi=>.b (decide (i < (e.part.n:Int))) (λh=>.n (bA hi h) (
     have hj:i.toNat < e.kids.length:=by have:=of_decide_eq_true h;have:=hi.1;rw [pn] at *;omega
     .call (f:=ra) (R:=iD) (ψ:=SM.φI') (l:=[lN l,txA n g,.agg (Cv e.part i.toNat)]) (os:=[]) (by rw [hM hj];exact ih _ (dx hj) (hkids _ (dx hj))) λt _=>
     .b (t !=0) (λ_=>.fi (true,t) trivial) λ_=>.to (IntKind.wrap .i64 (i+1)) (av hi (by rw [pn];omega) (of_decide_eq_true h)).1 (av hi (by rw [pn];omega) (of_decide_eq_true h)).2))
    λ_=>.fi (false,0) trivial) (λv L k kn=>by kernel_rfl)
  rw [<-EXP.bI e]
  exact fJ (V:=V0) [eX9,KB,MF,zq] 2 hlo (.call (y9 n g e.part.name (by omega)) λb _=>.b (bif e.part.op==5 then !b else false) (λ_=>.r (11:Int) trivial) λ_=>
   .b (bif decide (e.part.op≥6) then decide (e.part.op<=15) else false) (λ_=>.call (CM l e.part.kind e.part.name hl) λt _=>.b (t==0) (λ_=>.r (11:Int) trivial) λ_=>.call (Kr e.part t hvals) λb2 _=>
     .b (!b2) (λ_=>.r (8:Int) trivial) λ_=>.lp (hu 0 (ix0 _)) λt _=>.b t.1 (λ_=>.r t.2 trivial) λ_=>.r (0:Int) trivial)
    λ_=>.lp (hu 0 (ix0 _)) λt _=>.b t.1 (λ_=>.r t.2 trivial) λ_=>.r (0:Int) trivial) (by kernel_rfl)
end Go.T

namespace Go.T
open Go Go.Ab Go.Proofs Go.SH
open Go.SM (SP BL bsA SO spA ENV soL Spn iq pR qM isA)
def FSI (v:(Nat->Bool)×Int×Int):St:={env:=[(1,.int .i64 v.2.1),(5,.msl 8 1 0 10000),(6,.int .i64 v.2.2)],objs:=[(8,.arr 1 10000 (BL v.1))]}
theorem Bf (a:SO) (n:Int) (ha:a.n<=1000000):aG wd rp φSp rSp [spA a,.int .i64 n] []:=by
 obtain ⟨u,w,hu,hl⟩:=ay (V:=V0) (T:=[Lb,eSp]) (d:=1) (W:=[]) (f:=rp) (p:=P3) (Lf:=λL=>L) FSI (λv=>ix 10000 v.2.2) (λv=>(10000 - v.2.2).toNat) SO.N3 (λ_=>True) (by kernel_rfl)
  (λv hv=>.b (decide (v.2.2 < ((10000:Nat):Int))) (λh=>
    have hx:=av hv (by decide) (ixk _ h)
    have hb:=FF hv.1 (ixk _ h)
    .n (bA hv h) (.n hb (.b (bif v.1 (0+v.2.2.toNat) then decide (v.2.1<=0) else false)
     (λ_=>.n (bA hv h) (.n hb (.go {env:=[(1,.int .i64 v.2.1),(5,.msl 8 1 0 10000),(6,.int .i64 (IntKind.wrap .i64 (v.2.2+1)))],objs:=[(8,.arr 1 10000 λj=>bif Nat.beq j (0+v.2.2.toNat) then [.bool false] else BL v.1 j)]}
      (λj=>bif Nat.beq j (0+v.2.2.toNat) then false else v.1 j,v.2.1,IntKind.wrap .i64 (v.2.2+1)) hx.1 hx.2 (by rw [LA];rfl))))
     λ_=>.n (bA hv h) (.n hb (.b (v.1 (0+v.2.2.toNat)) (λ_=>.to (v.1,IntKind.wrap .i64 (v.2.1 - 1),IntKind.wrap .i64 (v.2.2+1)) hx.1 hx.2) λ_=>.to (v.1,v.2.1,IntKind.wrap .i64 (v.2.2+1)) hx.1 hx.2)))))
   λ_=>.fi v.1 trivial) (λv L k kn=>by kernel_rfl)
 exact fJ (V:=V0) [Lb,eSp] 1 hl (.call (Dm a.F a.T ha) λg _=>.lp (hu (g,n,0) (ix0 10000)) λt _=>.call (uo λj=>t (0+j)) λy q=>.r y q) (by kernel_rfl)
noncomputable abbrev Pz:Ent:=aY wd rp φSp rSp
noncomputable abbrev OH (n:Nat):Ent:=aY wd fc SM.φI' (JG n)
def TSI (e:ENV) (l b:List UInt8) (v:SO×Int):St:={env:=[(1,.str l),(2,.str b),(4,.ref 4 0),(10,spA v.1),(11,.int .i64 v.2)],objs:=[(4,.cells e.c)]}
structure LenE (e:ENV):Prop where
 s:e.segs.length<=1000
 f:e.flags.length<=1000
 l:e.layers.length<=1000
 x:e.expts.length<=1000
 c:∀x∈e.layers,x.cooling.length<=1000000
 m:∀x∈e.expts,x.claims.length<=1000000
theorem bQ {α:Type} [Inhabited α] {l:List α} {i:Nat} (h:i < l.length):l.getD i default∈l:=by rw [List.getD_eq_getElem?_getD,List.getElem?_eq_getElem h];exact List.getElem_mem h
theorem Gs (e:ENV) (he:LenE e) (l b:List UInt8) (now:Int):aG wd rm φSp rSp [.agg e.c,.str l,.str b,.int .i64 now] []:=by
 have hx:=he.x
 obtain ⟨u,w,hu,hl⟩:=ay (V:=V0) (T:=[Pr,OH e.layers.length,Pt,Py]) (d:=1) (W:=[]) (f:=rm) (p:=[1,1,1,1,0,1,0]) (Lf:=λL=>L) (TSI e l b) (λv=>ix e.expts.length v.2/\v.1.n<=10000) (λv=>(e.expts.length - v.2).toNat) SO.NN (λo=>o.n<=10000) (by kernel_rfl)
  (λv hv=>.b (decide (v.2 < (e.expts.length:Int))) (λh=>
    have hn:=av hv.1 (by omega) (of_decide_eq_true h)
    have hi:v.2.toNat < e.expts.length:=by have:=of_decide_eq_true h;have:=hv.1.1;omega
    .n (bA hv.1 h) (.b (bif bif (e.expts.getD v.2.toNat default).layer==l then !(e.expts.getD v.2.toNat default).key==b else false then (e.expts.getD v.2.toNat default).status !=3 else false)
     (λ_=>.call (vU (iq v.1) (pR (e.expts.getD v.2.toNat default).claims) (by have:=hv.2;omega) (he.m _ (bQ hi))) λt q=>.to (t,IntKind.wrap .i64 (v.2+1)) ⟨hn.1,q⟩ hn.2)
     λ_=>.to (v.1,IntKind.wrap .i64 (v.2+1)) ⟨hn.1,hv.2⟩ hn.2))
   λ_=>.fi v.1 hv.2) (λv L k kn=>by kernel_rfl)
 have hlo:=og e l (by have:=he.l;omega)
 exact fJ (V:=V0) [Pr,OH e.layers.length,Pt,Py] 1 hl (.call hlo λt q=>.b (decide (t < 0)) (λ_=>.t (r:=(.sl .fit 0 0 λ_=>[],[])) (SO.mk 0 (λ_=>0) λ_=>0) (Nat.zero_le _) (.one aW)) λhneg=>
  have hneg:=of_decide_eq_false hneg
  have hw:within t e.layers.length=true:=ax (by omega) q.2
  have hlt:t.toNat < e.layers.length:=by have:=q.2;omega
  .n hw (.n hw (.call (JJ (λj=>((e.layers.getD t.toNat default).cooling.getD j (0,0,0)).1) (λj=>((e.layers.getD t.toNat default).cooling.getD j (0,0,0)).2.1) (λj=>((e.layers.getD t.toNat default).cooling.getD j (0,0,0)).2.2) now (he.c _ (bQ hlt))) λw _=>
   .call (HJ w now) λy qy=>.call (vU (qM (SP Int.ofNat Int.ofNat 0) 0 (e.layers.getD t.toNat default).hold) (iq y) (by show 1<=1000000;omega) (Nat.le_trans qy (by omega))) λz qz=>
   .lp (hu (z,0) ⟨ix0 _,qz⟩) λr qr=>.r r qr))) (by kernel_rfl)
noncomputable abbrev Qm:Ent:=aY wd rm φSp rSp
def rFr (_:List AV) (_:List AO) (x:SO×Int):Prop:=x.1.n<=10000
theorem Kn (e:ENV) (he:LenE e) (l:List UInt8) (now:Int):aG wd AL SO.φFr rFr [.agg e.c,.str l,.int .i64 now] []:=
 have nil:∀ {A:List AV} (t:Int),Run (rFr A []) SO.φFr (some (.tup [.sl .fit 0 0 λ_=>[],.int .i64 t],[])):=λt=>.t (SO.mk 0 (λ_=>0) λ_=>0,t) (Nat.zero_le _) (.tup (.cons aW (.cons (.same rfl) .nil)))
 ef (V:=V0) [OH e.layers.length,Qm,Pw] 2 (.b (!bif decide (now≥0) then decide (now<=1099511627776) else false) (λ_=>nil 3) λ_=>.call (og e l (by have:=he.l;omega)) λt q=>
  .b (decide (t < 0)) (λ_=>nil 11) λ_=>.call (Gs e he l [] now) λy qy=>.call (xa (qM (SP Int.ofNat Int.ofNat 0) 0 10000) (iq y) (by show 1<=1000000;omega) (Nat.le_trans qy (by omega))) λz qz=>.r (z,0) qz) (by kernel_rfl)
noncomputable abbrev Qp:Ent:=aY wd AL SO.φFr rFr
end Go.T

namespace Go.T
open Go Go.Ab Go.Proofs Go.SH
def rIs {τ:Type} (v:τ) (_:List AV) (_:List AO) (x:τ):Prop:=x=v
def rS {τ:Type} (w:List UInt8->τ) (l:List AV) (_:List AO) (x:τ):Prop:=∀s,l=[.str s]->x=w s
theorem rS.mk {τ:Type} {w:List UInt8->τ} {s:List UInt8} {os:List AO} {x:τ} (h:x=w s):rS w [.str s] os x:=λs' e=>by
 simp only [List.cons.injEq,AV.str.injEq,and_true] at e
 rw [<-e];exact h
theorem nC {τ:Type} {t:τ} {b:Bool} (h:b=true):(bif b then some t else none)=some t:=by rw [h];rfl
theorem nD {τ:Type} {t:τ} {b:Bool} (h:b=false):(bif b then some t else none)=none:=by rw [h];rfl
section
variable {τ:Type} [Inhabited τ] {n:Nat} {nxt:Nat->Nat} {stop:Nat->Option τ} {i:Nat}
structure SN (n:Nat) (nxt:Nat->Nat) (stop:Nat->Option τ) (i:Nat):Prop where
 b:i<=n
 e:bg n nxt stop i=bg n nxt stop 0
structure SA (n:Nat) (nxt:Nat->Nat) (stop:Nat->Option τ) (i:Nat):Prop where
 lt:i < n
 s:SN n nxt stop i
 x:∀i,i < n->i < nxt i/\nxt i<=n
theorem SA.hit (h:SA n nxt stop i) {t:τ} (hs:stop i=some t):(true,t)=bg n nxt stop 0:=by
 rw [<-h.s.e,cD (λi hi=>(h.x i hi).1) h.lt,hs]
theorem SA.on (h:SA n nxt stop i) (hs:stop i=none):SN n nxt stop (nxt i):=⟨(h.x i h.lt).2,by rw [<-h.s.e,cD (λi hi=>(h.x i hi).1) h.lt,hs]⟩
variable {ι:Type} {S:Nat->St} {tp:τ->(Ex->St->Res)->Res} {outE:(Ex->St->Res)->Res}
abbrev RS (S:Nat->St) (n:Nat) (nxt:Nat->Nat) (stop:Nat->Option τ) (tp:τ->(Ex->St->Res)->Res) (outE:(Ex->St->Res)->Res) (i:Nat) (e:ι->(Ex->St->Res)->(St->Res)->Res):Prop:=RT S (SN n nxt stop) (λi=>n - i) (Ht tp outE) (λ_ o=>o=bg n nxt stop 0) i e
theorem _root_.Go.Ab.RT.sp (t:τ) (a:SA n nxt stop i) (h:stop i=some t):RS S n nxt stop tp outE i (λ(_:ι) k _=>tp t k):=RT.fi (S:=S) (out:=Ht tp outE) (true,t) (a.hit h)
theorem _root_.Go.Ab.RT.on (s:St) (a:SA n nxt stop i) (h:stop i=none) (e:s=S (nxt i)):RS S n nxt stop tp outE i (λ(_:ι) _ kn=>kn s):=RT.nx s (nxt i) (a.on h) (by have:=a.x i a.lt;show n - nxt i < n - i;omega) (λ_ h=>h) e
theorem ke {V:Env} {T:List Ent} {d:Nat} {Lf:ι->List (List Nat×Orc)} {W:List (List Nat×Vw)} {f:FuncId} {p:List Nat} (S:Nat->St) (n:Nat) (nxt:Nat->Nat) (hx:∀i,i < n->i < nxt i/\nxt i<=n) (stop:Nat->Option τ) (tp:τ->(Ex->St->Res)->Res) (outE:Nat->(Ex->St->Res)->Res) (lt:Nat->Bool) (hlt:∀i,lt i=decide (i < n)) (hb:kC (dM (bu V.P f) p)=true)
  {e:Nat->ι->(Ex->St->Res)->(St->Res)->Res} (h1:∀i,SA n nxt stop i->RS S n nxt stop tp (outE n) i (e i)) (he:∀i j k kn,dS (V.run T d [] (Lf j) W f) f 9 p (S i) kn k=cond (lt i) (e i j k kn) (outE i k)) :
  ∃ (u:St->Bool) (w:St->Bool×τ),bT u w (S 0) (λo=>o=bg n nxt stop 0)/\∀j,bw (V.run T d [] (Lf j) W f) f p (mkO u w (Ht tp (outE n))):=by
 obtain ⟨u,w,h,hl⟩:=ay (V:=V) (T:=T) (d:=d) (Lf:=Lf) (W:=W) (f:=f) (p:=p) S (SN n nxt stop) (λi=>n - i) (Ht tp (outE n)) (λo=>o=bg n nxt stop 0) hb (e:=λi j k kn=>cond (lt i) (e i j k kn) (outE i k))
  (λi hi=>.b (lt i) (λh=>h1 i ⟨of_decide_eq_true ((hlt i).symm.trans h),hi,hx⟩) λh=>by
   have hg:¬ i < n:=of_decide_eq_false ((hlt i).symm.trans h)
   have hn:i=n:=by have:=hi.b;omega
   subst hn
   exact .fi (out:=Ht tp (outE i)) (false,default) (by rw [<-hi.e,br _ _ _ hg])) he
 exact ⟨u,w,h 0 ⟨Nat.zero_le _,rfl⟩,hl⟩
end
section
variable {τ:Type} [Inhabited τ] {ι:Type} {S:Int->St} {n:Nat} {stop:Nat->Option τ} {tp:τ->(Ex->St->Res)->Res} {outE:(Ex->St->Res)->Res} {i:Nat}
theorem s1 (n:Nat):∀i,i < n->i < i+1/\i+1<=n:=λi h=>⟨Nat.lt_succ_self i,h⟩
theorem J2 (i n:Nat):decide ((i:Int) < (n:Int))=decide (i < n):=by
 by_cases h:i < n
 ·rw [decide_eq_true h,decide_eq_true (by omega)]
 ·rw [decide_eq_false h,decide_eq_false (by omega)]
theorem _root_.Go.Ab.RT.up (a:SA n (·+1) stop i) (hn:n<=4611686018427387904) (h:stop i=none):RS (λj:Nat=>S j) n (·+1) stop tp outE i (λ(_:ι) _ kn=>kn (S (IntKind.wrap .i64 ((i:Int)+1)))):=RT.on _ a h (by rw [ba (by have:=a.lt;omega)])
theorem bD {V:Env} {T:List Ent} {d:Nat} {Lf:ι->List (List Nat×Orc)} {W:List (List Nat×Vw)} {f:FuncId} {p:List Nat} (S:Int->St) (n:Nat) (stop:Nat->Option τ) (tp:τ->(Ex->St->Res)->Res) (outE:(Ex->St->Res)->Res) (hb:kC (dM (bu V.P f) p)=true)
  {e:Nat->ι->(Ex->St->Res)->(St->Res)->Res} (h1:∀i,SA n (·+1) stop i->RS (λj:Nat=>S j) n (·+1) stop tp outE i (e i)) (he:∀ (i:Nat) j k kn,dS (V.run T d [] (Lf j) W f) f 9 p (S i) kn k=cond (decide ((i:Int) < (n:Int))) (e i j k kn) (outE k)) :
  ∃ (u:St->Bool) (w:St->Bool×τ),bT u w (S 0) (λo=>o=bg n (·+1) stop 0)/\∀j,bw (V.run T d [] (Lf j) W f) f p (mkO u w (Ht tp outE)):=
 ke (λj:Nat=>S j) n (·+1) (s1 n) stop tp (λ_=>outE) (λi=>decide ((i:Int) < (n:Int))) (λi=>J2 i n) hb h1 he
theorem gw {x:Int} {n:Nat} {c:Bool} (h:within x n=true):(bif within x n then true else c)=true:=by rw [h];rfl
theorem _root_.Go.Ab.Run.gd {σ:Type} {Post:σ->Prop} {φ:σ->AV×List AO} {x:Int} {n:Nat} (c:Bool) (h:within x n=true) {a:Res} (h1:Run Post φ a):Run Post φ (cond (bif within x n then true else c) a none):=.n (gw h) h1
theorem _root_.Go.Ab.RT.gd {α σ ι:Type} {S:α->St} {Inv:α->Prop} {μ:α->Nat} {out:σ->(Ex->St->Res)->Res} {Post:α->σ->Prop} {v:α} {x:Int} {n:Nat} (c:Bool) (h:within x n=true) {a:ι->(Ex->St->Res)->(St->Res)->Res} (h1:RT S Inv μ out Post v a):RT S Inv μ out Post v (λi k kn=>cond (bif within x n then true else c) (a i k kn) none):=.n (gw h) h1
theorem pw {i n:Nat} (h:i < n) (hn:n<=4611686018427387904) (h0:0 < i):IntKind.wrap .i64 ((i:Int) - 1)=((i - 1:Nat):Int):=by rw [wrap_i64 (by omega) (by omega)];omega
theorem gpw {i n:Nat} (x:Bool) (h:i < n) (hn:n<=4611686018427387904):(bif within (IntKind.wrap .i64 ((i:Int) - 1)) n then true else !bif decide ((i:Int) > 0)==true then x else false)=true:=by
 by_cases h0:0 < i
 ·rw [pw h hn h0,c6 (show i - 1 < n by omega)];rfl
 ·rw [decide_eq_false (show ¬ (i:Int) > 0 by omega)];cases within (IntKind.wrap .i64 ((i:Int) - 1)) n <;> rfl
theorem _root_.Go.Ab.RT.gp {α σ ι:Type} {S:α->St} {Inv:α->Prop} {μ:α->Nat} {out:σ->(Ex->St->Res)->Res} {Post:α->σ->Prop} {v:α} {i n:Nat} (x:Bool) (h:i < n) (hn:n<=4611686018427387904) {a:ι->(Ex->St->Res)->(St->Res)->Res} (h1:RT S Inv μ out Post v a):RT S Inv μ out Post v (λj k kn=>cond (bif within (IntKind.wrap .i64 ((i:Int) - 1)) n then true else !bif decide ((i:Int) > 0)==true then x else false) (a j k kn) none):=.n (gpw x h hn) h1
theorem pv (G:Nat->Bool) {i n:Nat} (h:i < n) (hn:n<=4611686018427387904):(bif decide ((i:Int) > 0) then G (Int.toNat (IntKind.wrap .i64 ((i:Int) - 1))) else false)=(decide (i > 0)&&G (i - 1)):=by
 by_cases h0:0 < i
 ·rw [decide_eq_true (show (i:Int) > 0 by omega),decide_eq_true (show i > 0 from h0),pw h hn h0];rfl
 ·rw [decide_eq_false (show ¬ (i:Int) > 0 by omega),decide_eq_false (show ¬ i > 0 from h0)];rfl
theorem SA.w {nxt:Nat->Nat} (a:SA n nxt stop i):within (i:Int) n=true:=c6 a.lt
end
def LZ (x:AV) (i:Int):St:={env:=[(0,x),(3,.int .i64 i)],objs:=[]}
def PZ (k:Nat) (c:List AV) (i:Int):St:={env:=[(1,.ref 1 0),(k,.int .i64 i)],objs:=[(1,.cells c)]}
end Go.T

namespace Go.T
open Go Go.Ab Go.Proofs Go.SH
def SwZ (s:List UInt8) (i:Int):St:={env:=[(0,.str s),(3,.int .i64 i)],objs:=[]}
theorem Jg (s:List UInt8) (hs:s.length<=Eu):aG wd yy φB (rS sG) [.str s] []:=by
 obtain ⟨u,o,hu,hl⟩:=bD (V:=V0) (T:=[]) (d:=1) (W:=[]) (f:=yy) (p:=[1,0,1,0]) (Lf:=λL=>L) (SwZ s) s.length (λi=>bif jZ i (s.getD i 0).toNat then some false else none) (K7 2) (λk=>k (.exit 0) {env:=[(0,.str s)],objs:=[]}) (by kernel_rfl)
  (λi a=>.n a.w (.b (jZ i (s.getD i 0).toNat) (λh=>.sp false a (nC h)) λh=>.up a hs (nD h))) (λi L k kn=>by kernel_rfl)
 have hd:decide ((s.length:Int) > 0)=decide (0 < s.length):=J2 0 s.length
 exact fJ (V:=V0) [] 1 hl (.lp hu λt q=>.b t.1 (λh=>.r t.2 (.mk (by
   have q:t=k0 s:=q
   rw [q] at h ⊢
   have hv:(k0 s).2=false:=k9 h
   unfold sG;rw [hv,h];rfl))) λh=>.r (decide ((s.length:Int) > 0)) (.mk (by
   have q:t=k0 s:=q
   rw [q] at h
   unfold sG;rw [h,hd];rfl))) (by kernel_rfl)
set_option maxRecDepth 100000 in
theorem wK:u5 (E V0 5 mh [] [])=true:=by kernel_rfl
theorem yn:aG wd mh φS (rIs sF) [] []:=by
 obtain ⟨o,get,h1,h2⟩:=rE wK
 refine ⟨sF,rfl,?_⟩
 have hc:=Fs (V:=V0) ku kD (λ_=>rfl) h1
 refine hc.res rfl λc v hr=>?_
 unfold bO
 rw [p7]
 exact Rep.Ip (wJ h2) hr
noncomputable abbrev MA:Ent:=aY wd yy φB (rS sG)
noncomputable abbrev Ps:Ent:=aY wd mh φS (rIs sF)
def SrZ (s:List UInt8) (l:List (List UInt8)) (i:Int):St:={env:=[(0,.str s),(3,bO l),(4,.int .i64 i)],objs:=[]}
theorem Ni (s:List UInt8):decide ((s.length:Int) > 32)=!decide (s.length<=32):=by
 by_cases h:s.length<=32
 ·rw [decide_eq_true h,decide_eq_false (by omega)];rfl
 ·rw [decide_eq_false h,decide_eq_true (by omega)];rfl
theorem dr (s:List UInt8) (hs:s.length<=Eu):aG wd D4 φB (rS dT) [.str s] []:=by
 obtain ⟨u,o,hu,hl⟩:=bD (V:=V0) (T:=[MA,Ps]) (d:=1) (W:=[]) (f:=D4) (p:=PB) (Lf:=λL=>L) (SrZ s sF) sF.length (λi=>bif sF.getD i []==s then some false else none) (K7 2) (λk=>k (.exit 0) {env:=[],objs:=[]}) (by kernel_rfl)
  (λi a=>.n a.w (.b (sF.getD i []==s) (λh=>.sp false a (nC h)) λh=>.up a (by rw [p7];decide) (nD h))) (λi L k kn=>by kernel_rfl)
 exact fJ (V:=V0) [MA,Ps] 1 hl (.call (Jg s hs) λb q=>.b (bif !b then true else decide ((s.length:Int) > 32)) (λh=>.r false (.mk (by
   rw [Ni,q s rfl] at h
   unfold dT
   cases hw:sG s <;> cases hd:decide (s.length<=32) <;> simp_all))) λh=>.call yn λr qr=>
  have qr:r=sF:=qr
  have hu:bT u o (SrZ s r 0) (λt=>t=qY s):=by rw [qr];exact hu
  .lp hu λt qt=>.b t.1 (λh1=>.r t.2 (.mk (by
   rw [qt] at h1 ⊢
   have hv:(qY s).2=false:=k9 h1
   unfold dT;rw [hv,h1];simp))) λh1=>.r true (.mk (by
   rw [Ni,q s rfl] at h
   rw [qt] at h1
   unfold dT
   cases hw:sG s <;> cases hd:decide (s.length<=32) <;> simp_all))) (by kernel_rfl)
noncomputable abbrev jJ:Ent:=aY wd D4 φB (rS dT)
end Go.T

namespace Go.T
open Go Go.Ab Go.Proofs Go.SH
def YrZ (s d:List UInt8) (i:Int):St:={env:=[(0,.str s),(4,.str d),(5,.int .i64 i)],objs:=[]}
def YnZ (s d:List UInt8) (v:Int×Int):St:={env:=[(0,.str s),(4,.str d),(6,.int .i64 v.1),(7,.int .i64 v.2)],objs:=[]}
def NH (s d:List UInt8) (n:Int) (k:Ex->St->Res):Res:=k (.exit 2) {env:=[(0,.str s),(4,.str d),(6,.int .i64 n)],objs:=[]}
def HM (s d:List UInt8):Bool:=bif d==[] then true else bif ((d.getD 0 0).toNat:Int)==48 then !s==[48] else false
theorem A6 {s d:List UInt8} (hd:(fx s).1=d):HM s d=(d==[]||(d.getD 0 0).toNat==48&&(decide (d.length > 1)||(fx s).2)):=by
 unfold HM
 rw [Pq]
 rcases fw s with ⟨r,rfl,hc⟩ | ⟨hh,hc⟩
 ·rw [hc] at hd ⊢
  have hd:r=d:=hd
  subst hd
  rw [show ((45::r:List UInt8)==[48])=false by simp]
  cases r==[] <;> cases (r.getD 0 0).toNat==48 <;> cases decide (r.length > 1) <;> rfl
 ·rw [hc] at hd ⊢
  have hd:s=d:=hd
  subst hd
  cases s with
  | nil=>rfl
  | cons c r=>
   show (bif c.toNat==48 then !(c::r==[48]) else false)=(c.toNat==48&&(decide ((c::r).length > 1)||false))
   cases h:c.toNat==48 with
   | false=>rfl
   | true=>
    have:c=48:=UInt8.toNat_inj.1 (by simpa using h)
    subst this
    cases r <;> simp
theorem KU {s d:List UInt8} (hd:(fx s).1=d) (hb:vO s=false) (hl:d.length > 13):val 0 d > vN:=by
 unfold vO at hb
 rw [hd] at hb
 simp only [Bool.or_eq_false_iff] at hb
 obtain ⟨⟨e1,e2⟩,e3⟩:=hb
 obtain ⟨c,r,rfl⟩:∃c r,d=c::r:=by cases d with
  | nil=>simp at hl
  | cons c r=>exact ⟨c,r,rfl⟩
 have hc:=zz e3 c (List.mem_cons_self ..)
 rw [show decide ((c::r).length > 1)=true from decide_eq_true (by omega)] at e2
 have hne:¬ c.toNat=48:=by simpa using e2
 have hg:=CI r (put 0 c)
 rw [pL]
 have hr:13<=r.length:=by simp at hl;omega
 have hp:10 ^ 13<=10 ^ r.length:=Nat.pow_le_pow_right (by decide) hr
 have hq:1<=put 0 c:=by rw [put_eq];omega
 have:10 ^ r.length<=put 0 c*10 ^ r.length:=Nat.le_mul_of_pos_left _ hq
 unfold vN;omega
theorem zO {s d:List UInt8} (hd:(fx s).1=d):vO s=((d==[]||(d.getD 0 0).toNat==48&&(decide (d.length > 1)||(fx s).2))||(I7 d).1):=by
 unfold vO;rw [hd,Bp]
theorem En {s d:List UInt8} (hd:(fx s).1=d):decide ((d.length:Int) < (s.length:Int))=(fx s).2:=by
 rcases fw s with ⟨r,rfl,hc⟩ | ⟨hh,hc⟩ <;> rw [hc] at hd ⊢ <;> subst hd
 ·exact decide_eq_true (by rw [List.length_cons];show (r.length:Int) < _;omega)
 ·exact decide_eq_false (by show ¬ (s.length:Int) < _;omega)
theorem vv {s:List UInt8}:((bif decide ((s.length:Int) > 0) then ((s.getD 0 0).toNat:Int)==45 else false)=true->(fx s).1=s.drop 1/\1<=s.length)/\((bif decide ((s.length:Int) > 0) then ((s.getD 0 0).toNat:Int)==45 else false)=false->(fx s).1=s):=by
 cases s with
 | nil=>exact ⟨λh=>by simp at h,λ_=>rfl⟩
 | cons c r=>
  rw [decide_eq_true (show ((c::r).length:Int) > 0 by rw [List.length_cons];omega)]
  constructor
  ·intro h
   have h:c.toNat=45:=by have h:((c.toNat:Int)==45)=true:=h;have:=eq_of_beq h;omega
   have:c=45:=UInt8.toNat_inj.1 h
   subst this
   exact ⟨rfl,by simp⟩
  ·intro h
   have h:((c.toNat:Int)==45)=false:=h
   have hc:¬ c=45:=λe=>by subst e;simp at h
   unfold fx
   show ((bif c==45 then (r,true) else (c::r,false)):List UInt8×Bool).1=_
   rw [show (c==45)=false by simpa using hc];rfl
theorem Hx {d:List UInt8} {i:Nat} (h:i < d.length) (hd:digs d) (hl:d.length<=13):IntKind.wrap .i64 (IntKind.wrap .i64 (10*((val 0 (d.take i):Nat):Int))+IntKind.wrap .i64 (IntKind.wrap .u8 (((d.getD i 0).toNat:Int) - 48)))=((val 0 (d.take (i+1)):Nat):Int):=by
 have hc:48<=(d.getD i 0).toNat/\(d.getD i 0).toNat<=57:=by
  have e:d.getD i 0=d[i]:=by simp [List.getD,h]
  rw [e];exact hd _ (List.getElem_mem _)
 have hb:=Bx hd hl i
 have e:val 0 (d.take (i+1))=put (val 0 (d.take i)) (d.getD i 0):=by
  have:d.take (i+1)=d.take i++[d.getD i 0]:=by rw [List.take_succ_eq_append_getElem h];simp [List.getD,h]
  rw [this,Gi]
 rw [e,put_eq,wrap_u8 (n:=((d.getD i 0).toNat:Int) - 48) (by omega) (by omega)]
 have w1:IntKind.wrap .i64 (10*((val 0 (d.take i):Nat):Int))=10*((val 0 (d.take i):Nat):Int):=wrap_i64 (by omega) (by omega)
 have w2:IntKind.wrap .i64 (((d.getD i 0).toNat:Int) - 48)=((d.getD i 0).toNat:Int) - 48:=wrap_i64 (by omega) (by omega)
 rw [w1,w2,wrap_i64 (by omega) (by omega)]
 omega
theorem yl (s:List UInt8) (hs:s.length<=1048576):aG wd fF SH.φN (rS sJ) [.str s] []:=by
 obtain ⟨d,hd⟩:∃d,(fx s).1=d:=⟨_,rfl⟩
 have hlen:d.length<=s.length:=by
  rcases fw s with ⟨r,rfl,hc⟩ | ⟨hh,hc⟩ <;> rw [hc] at hd <;> subst hd <;> simp
 obtain ⟨u1,w1,h1,l1⟩:=bD (V:=V0) (T:=[]) (d:=1) (W:=[]) (f:=fF) (p:=PB) (Lf:=λL=>L) (YrZ s d) d.length (λi=>bif Bq (d.getD i 0).toNat then some () else none) Na (λk=>k (.exit 0) {env:=[(0,.str s),(4,.str d)],objs:=[]}) (by kernel_rfl)
  (λi a=>.n a.w (.n (c:=bif within (i:Int) d.length then true else !bif decide (((d.getD i 0).toNat:Int) < 48)==false then true else false) (gw a.w) (.b (Bq (d.getD i 0).toNat) (λh=>.sp () a (nC h)) λh=>.up a (by omega) (nD h)))) (λi L k kn=>by kernel_rfl)
 obtain ⟨u2,w2,h2,l2⟩:=ay (V:=V0) (T:=[]) (d:=1) (W:=[]) (f:=fF) (p:=[1,1,1,1,1,1,1,0,1,0]) (Lf:=λL=>L) (λi:Nat=>YnZ s d (((val 0 (d.take i):Nat):Int),(i:Int))) (Qx d) (λi=>d.length - i) (NH s d) (λo=>o=((val 0 d:Nat):Int)) (by kernel_rfl)
  (λi hi=>.b (decide ((i:Int) < (d.length:Int))) (λh=>
    have hlt:i < d.length:=od h
    .n (c6 hlt) (.go {env:=[(0,.str s),(4,.str d),(6,.int .i64 (IntKind.wrap .i64 (IntKind.wrap .i64 (10*((val 0 (d.take i):Nat):Int))+IntKind.wrap .i64 (IntKind.wrap .u8 (((d.getD i 0).toNat:Int) - 48))))),(7,.int .i64 (IntKind.wrap .i64 ((i:Int)+1)))],objs:=[]} (i+1) ⟨hlt,hi.2⟩ (by show d.length - (i+1) < d.length - i;omega) (by rw [Hx hlt hi.2.1 hi.2.2,ba (by have:=hi.2.2;omega)];rfl)))
   λh=>.fi ((val 0 (d.take i):Nat):Int) (by rw [List.take_of_length_le (Ml h)])) (λv L k kn=>by kernel_rfl)
 have good:(I7 d).1=false->HM s d=false->vO s=false:=λe1 e2=>by rw [zO hd,<-A6 hd,e1,e2];rfl
 have bad:vO s=true->sJ s=(0,1):=λh=>by unfold sJ;rw [h];rfl
 have big:vO s=false->val 0 d > vN->sJ s=(0,3):=λh h'=>by unfold sJ;rw [h,hd,decide_eq_true h'];rfl
 have fine:vO s=false->¬ val 0 d > vN->sJ s=(bif (fx s).2 then -(val 0 d:Int) else (val 0 d:Int),0):=λh h'=>by unfold sJ;rw [h,hd,decide_eq_false h'];rfl
 have tail:=λ(d':List UInt8) (e:d'=d)=>Run.lp (Post:=rS sJ [.str s] []) (φ:=SH.φN) (g:=u1) (w:=w1) (s:=YrZ s d' 0) (Q:=λo=>o=I7 d) (by rw [e];exact h1) λt q=>.b t.1 (λh=>.r (0,1) (.mk (bad (by rw [q] at h;rw [zO hd,h,Bool.or_true])).symm)) λh=>.n (c:=bif within 0 d.length then true else !bif (d==[])==false then true else false) (Mk d)
  (.b (HM s d) (λh=>.r (0,1) (.mk (bad (by rw [zO hd,<-A6 hd,h];rfl)).symm)) λhh=>
   have g:=good (q ▸ h) hh
   .b (decide ((d.length:Int) > 13)) (λhl=>.r (0,3) (.mk (big g (KU hd g (by have:=of_decide_eq_true hl;omega))).symm)) λhl=>
   have hl:d.length<=13:=by have:=of_decide_eq_false hl;omega
   have hg:digs d:=by
    have g':=g
    unfold vO at g'
    rw [hd] at g'
    simp only [Bool.or_eq_false_iff] at g'
    exact zz g'.2
   .lp (h2 0 ⟨Nat.zero_le _,hg,hl⟩) λn qn=>.b (decide (n > 1099511627776)) (λhm=>.r (0,3) (.mk (big g (by have:=of_decide_eq_true hm;unfold vN;omega)).symm)) λhm=>
    have hm:¬ val 0 d > vN:=by have:=of_decide_eq_false hm;unfold vN;omega
    .b (decide ((d.length:Int) < (s.length:Int))) (λhn=>.r (IntKind.wrap .i64 (0 - n),0) (.mk (by
      rw [En hd] at hn
      unfold vN at hm
      rw [fine g (by unfold vN;exact hm),hn,qn,wrap_i64 (by omega) (by omega),Int.zero_sub];rfl)))
     λhn=>.r (n,0) (.mk (by rw [En hd] at hn;rw [fine g hm,hn,qn];rfl)))
 refine de (V:=V0) (T:=[]) (d:=1) 0 (ah (l1 _) (ah (l2 _) aE)) aD (.n (c:=bif within 0 s.length then true else !bif decide ((s.length:Int) > 0)==true then true else false) ?_
  (.b (bif decide ((s.length:Int) > 0) then ((s.getD 0 0).toNat:Int)==45 else false) (λh=>.n (c:=decide ((0:Int)<=1)&&(decide ((1:Int)<=(s.length:Int))&&decide ((s.length:Int)<=(s.length:Int)))) ?_
   (tail (List.take (Int.toNat (s.length:Int) - Int.toNat 1) (List.drop (Int.toNat 1) s)) ?_)) λh=>tail s ((vv.2 h).symm.trans hd))) (by kernel_rfl)
 ·cases s with
  | nil=>rfl
  | cons c r=>rw [show within 0 (c::r).length=true from ax (by omega) (by rw [List.length_cons];omega)];rfl
 ·have:=(vv.1 h).2
  rw [decide_eq_true (show (1:Int)<=(s.length:Int) by omega),decide_eq_true (Int.le_refl (s.length:Int))];rfl
 ·rw [<-hd,(vv.1 h).1]
  show List.take (s.length - 1) (s.drop 1)=s.drop 1
  rw [<-List.length_drop,List.take_length]
noncomputable abbrev MD:Ent:=aY wd fF SH.φN (rS sJ)
end Go.T
