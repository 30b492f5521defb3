/- The names that the plain texts open. Runes of a string: what decoding says of the bytes. Contracts out of the kit's own: calls that lay new memory at most. Contracts out of the kit's own: calls that hand back new memory. Plain data and plain laws of the trunk (SH0 .. SHd): taken out of the older texts by plain.py, repair.py, joinp.py. Plain data and plain laws of the trunk (SHd1 .. SNk): taken out of the older texts by plain.py, repair.py, joinp.py. Plain data and plain laws of the trunk (SNl .. SJh): taken out of the older texts by plain.py, repair.py, joinp.py. Plain data and plain laws of the trunk (SJi .. SLb): taken out of the older texts by plain.py, repair.py, joinp.py. Rows of a list's elements, with other cells behind their end. Plain data and plain laws of the trunk (SLc .. SPg): taken out of the older texts by plain.py, repair.py, joinp.py. Reading a row's data as abstract values: numbers, texts, bools, slices, structs, to any depth. The package variables that a row lists, as the evaluator's globals. Listed variables that hold slices of texts. Plain data and plain laws of the trunk (SPh .. SPq): taken out of the older texts by plain.py, repair.py, joinp.py. -/
import Derived.Test.YtkmecnnkfpfjiaaGreatDoorX3
import Derived.KernelRfl
import Derived.Laws.RangeString
import Derived.Lib.ValidU
import Derived.Lib.SplitLaws
import Derived.Lib.CountLaws
import Derived.ChangeArms
import Derived.ChangeShapes
import Derived.FnData
import Derived.MakeChecks
import Derived.ProofKit
import Derived.Lay
import Derived.LaidOnce
import Derived.OpenShut
import Derived.Below
import Derived.ChangeOld
import Derived.SevenTiedAt
import Derived.Deep.DeepHandedRow
import Derived.Deep.DeepWitnessRowRef
set_option linter.unusedVariables false
set_option linter.unusedSimpArgs false
namespace Go.Proofs
end Go.Proofs
namespace Go.Shelf
end Go.Shelf
namespace Go.Ab
open Go
theorem tP (s:List UInt8) (i:Nat):(ByteArray.mk s.toArray).get! i=s.getD i 0:=by
 show s.toArray[i]! = _
 simp only [List.getElem!_toArray,List.getD_eq_getElem?_getD,List.getElem!_eq_getElem?_getD]
 rfl
theorem p8 {s:List UInt8} {i:Nat} (ha:(s.getD i 0).toNat < 128):Utf8.decode ⟨s.toArray⟩ i=((s.getD i 0).toNat,1):=by
 have e:(ByteArray.mk s.toArray).get! (i+0)=s.getD i 0:=tP s i
 simp only [Utf8.decode,e,ha,if_true]
theorem size_bytes (s:List UInt8):(ByteArray.mk s.toArray).size=s.length:=by simp [ByteArray.size]
theorem o6 {s:List UInt8} {i:Nat} (_:i < s.length) (ha:128<=(s.getD i 0).toNat) :
  128<=(Utf8.decode ⟨s.toArray⟩ i).1/\1<=(Utf8.decode ⟨s.toArray⟩ i).2/\∀k,1<=k->k < (Utf8.decode ⟨s.toArray⟩ i).2->i+k < s.length/\128<=(s.getD (i+k) 0).toNat:=by
 have e0:(ByteArray.mk s.toArray).get! (i+0)=s.getD i 0:=tP s i
 have hone:∀ {c:Nat},128<=c->(128<=((c,1):Nat×Nat).1/\1<=((c,1):Nat×Nat).2/\∀k,1<=k->k < ((c,1):Nat×Nat).2->i+k < s.length/\128<=(s.getD (i+k) 0).toNat):=by
  intro c hc;exact ⟨hc,Nat.le_refl _,λk h1 h2=>by simp at h2;omega⟩
 have herr:128<=Utf8.runeError:=by decide
 have hcont:∀k,(decide (i+k < (ByteArray.mk s.toArray).size)&&((ByteArray.mk s.toArray).get! (i+k)).toNat / 64==2)=true->i+k < s.length/\128<=(s.getD (i+k) 0).toNat:=by
  intro k h
  simp only [Bool.and_eq_true,decide_eq_true_eq,beq_iff_eq,size_bytes,tP] at h
  exact ⟨h.1,by omega⟩
 unfold Utf8.decode
 simp only [e0]
 rw [if_neg (by omega)]
 split
 ·rename_i h
  simp only [Bool.and_eq_true] at h
  split
  ·rename_i hc
   refine ⟨hc,by omega,λk h1 h2=>?_⟩
   simp only at h2
   obtain rfl:k=1:=by omega
   exact hcont 1 (by simpa using h.2)
  ·exact hone herr
 ·split
  ·rename_i h
   simp only [Bool.and_eq_true] at h
   split
   ·rename_i hc
    simp only [Bool.and_eq_true,decide_eq_true_eq] at hc
    refine ⟨by simp only;omega,by omega,λk h1 h2=>?_⟩
    simp only at h2
    rcases (show k=1∨k=2 by omega) with rfl | rfl
    ·exact hcont 1 (by simpa using h.1.2)
    ·exact hcont 2 (by simpa using h.2)
   ·exact hone herr
  ·split
   ·rename_i h
    simp only [Bool.and_eq_true] at h
    split
    ·rename_i hc
     simp only [Bool.and_eq_true,decide_eq_true_eq] at hc
     refine ⟨by simp only;omega,by omega,λk h1 h2=>?_⟩
     simp only at h2
     rcases (show k=1∨k=2∨k=3 by omega) with rfl | rfl | rfl
     ·exact hcont 1 (by simpa using h.1.1.2)
     ·exact hcont 2 (by simpa using h.1.2)
     ·exact hcont 3 (by simpa using h.2)
    ·exact hone herr
   ·exact hone herr
theorem pL {s:List UInt8} {i:Nat} (hi:i < s.length):i < fV s i/\fV s i<=s.length:=by
 unfold fV
 by_cases h:(s.getD i 0).toNat < 128
 ·rw [p8 h];exact ⟨by simp,by simp;omega⟩
 ·obtain ⟨_,h2,h3⟩:=o6 hi (by omega)
  refine ⟨by omega,?_⟩
  by_cases h4:(Utf8.decode ⟨s.toArray⟩ i).2=1
  ·omega
  ·have:=(h3 ((Utf8.decode ⟨s.toArray⟩ i).2 - 1) (by omega) (by omega)).1
   omega
theorem lM {τ:Type} [Inhabited τ] {n:Nat} {nxt:Nat->Nat} {bad:Nat->Bool} {t:τ} (hn:∀i,i < n->i < nxt i) {i:Nat} (h:i < n) :
  bp n nxt (λi=>bif bad i then some t else none) i=cond (bad i) (true,t) (bp n nxt (λi=>bif bad i then some t else none) (nxt i)):=by
 rw [da hn h];cases bad i <;> rfl
theorem ni {τ:Type} [Inhabited τ] (s:List UInt8) (badR badB:Nat->Bool) (t:τ) (hlow:∀i,i < s.length->(s.getD i 0).toNat < 128->badR i=badB i) (hhigh:∀i,i < s.length->128<=(s.getD i 0).toNat->badR i=true/\badB i=true) :
  seek s.length (fV s) badR t=seek s.length (·+1) badB t:=by
 have key:∀d i,s.length - i<=d->bp s.length (fV s) (λi=>bif badR i then some t else none) i=bp s.length (·+1) (λi=>bif badB i then some t else none) i:=by
  intro d
  induction d with
  | zero=>intro i hd;rw [bI _ _ _ (by omega),bI _ _ _ (by omega)]
  | succ d ih=>
   intro i hd
   by_cases h:i < s.length
   ·rw [lM (λi h=>(pL h).1) h,lM (λi _=>Nat.lt_succ_self i) h]
    by_cases hl:(s.getD i 0).toNat < 128
    ·rw [hlow i h hl]
     have:fV s i=i+1:=by unfold fV;rw [p8 hl]
     rw [this,ih (i+1) (by omega)]
    ·obtain ⟨h1,h2⟩:=hhigh i h (by omega)
     rw [h1,h2];rfl
   ·rw [bI _ _ _ h,bI _ _ _ h]
 exact key s.length 0 (by omega)
theorem sY {τ:Type} [Inhabited τ] (s:List UInt8) (badR badB:Nat->Bool) (t:τ) (hlow:∀i,i < s.length->(s.getD i 0).toNat < 128->badR i=badB i) (hhigh:∀i,i < s.length->128<=(s.getD i 0).toNat->badR i=false/\badB i=false) :
  seek s.length (fV s) badR t=seek s.length (·+1) badB t:=by
 have skip:∀k i,i+k<=s.length->(∀j,j < k->128<=(s.getD (i+j) 0).toNat)->bp s.length (·+1) (λi=>bif badB i then some t else none) i=bp s.length (·+1) (λi=>bif badB i then some t else none) (i+k):=by
  intro k
  induction k with
  | zero=>intro i _ _;rfl
  | succ k ih=>
   intro i hk hj
   have h:i < s.length:=by omega
   rw [lM (λi _=>Nat.lt_succ_self i) h,(hhigh i h (by have:=hj 0 (by omega);simpa using this)).2]
   simp only [cond_false]
   rw [ih (i+1) (by omega) (λj hj'=>by have:=hj (j+1) (by omega);rwa [show i+1+j=i+(j+1) by omega])]
   congr 1;omega
 have key:∀d i,s.length - i<=d->bp s.length (fV s) (λi=>bif badR i then some t else none) i=bp s.length (·+1) (λi=>bif badB i then some t else none) i:=by
  intro d
  induction d with
  | zero=>intro i hd;rw [bI _ _ _ (by omega),bI _ _ _ (by omega)]
  | succ d ih=>
   intro i hd
   by_cases h:i < s.length
   ·have hb:=pL h
    rw [lM (λi h=>(pL h).1) h]
    by_cases hl:(s.getD i 0).toNat < 128
    ·rw [lM (λi _=>Nat.lt_succ_self i) h,hlow i h hl]
     have:fV s i=i+1:=by unfold fV;rw [p8 hl]
     rw [this,ih (i+1) (by omega)]
    ·obtain ⟨_,h2,h3⟩:=o6 h (by omega)
     rw [(hhigh i h (by omega)).1]
     simp only [cond_false]
     rw [ih _ (by omega),skip (fV s i - i) i (by omega) (λj hj=>by
      by_cases hz:j=0
      ·subst hz;rw [Nat.add_zero];omega
      ·exact (h3 j (by omega) (by unfold fV at hj;omega)).2)]
     congr 1;omega
   ·rw [bI _ _ _ h,bI _ _ _ h]
 exact key s.length 0 (by omega)
end Go.Ab
namespace Go.Ab
open Go Go.RowKit
theorem E5 {G:Nat->Option (List AV)} {c:Cx} {w':World} (hg:Good G c) (hb:Below c.w.heap.size c.w w'):Good G {c with w:=w'}:=by
 have hcell:∀b o v,c.I b o->c.w.cell? ⟨b,o,none⟩=some v->w'.cell? ⟨b,o,none⟩=some v:=λb o v _ hv=>by
  rw [World.bC (hb.block b (lt_of_cell hv))];exact hv
 refine ⟨λb o hi=>?_,λg cs h=>(hg.globs g cs h).ext (ks:=λ_=>False) ⟨hcell,λ_ _ h=>h,λ_ h=>h.elim,λ_ h=>h.elim⟩ (by simp [AV.keys])⟩
 obtain ⟨v,hv⟩:=hg.there b o hi
 exact ⟨v,hcell b o v hi hv⟩
theorem Ce {P:Program} {G:Nat->Option (List AV)} {f:FuncId} {l:List AV} {r:AV} {x:Value} (hx:∀c,Rep c r x) (hk:r.keys=[])
  (hfn:∃fn,P.funcs[f]?=some fn/\(fn.name=="runtime.NumGoroutine")=false/\fn.body.isSome=true)
  (h:∀ (c:Cx) (vs:Array Value),Good G c->vs.size=l.length->(∀ (i:Nat) (u:AV),l[i]?=some u->Rep c u (vs.getD i undef))->Calls P f vs c.w λe w'=>e=.returned x/\Below c.w.heap.size c.w w') :
  Ct P G f l [] (r,[]):=by
 refine ⟨λc0 vs hg ho hs hr _=>(h c0 vs hg hs hr).mono ?_,hfn⟩
 rintro e w' ⟨rfl,hb⟩
 refine ⟨{c0 with w:=w'},x,rfl,rfl,E5 hg hb,⟨hb.os,hb.output,hb.tape,hb.size,λb hb' _=>hb.block b hb',?_,λ_ _ _ _ hi=>hi⟩,?_,hx _,λk hk'=>by rw [hk] at hk';simp at hk',λk o b ho'=>by simp [ab,alook] at ho'⟩
 ·exact ⟨λb o v _ hv=>by show w'.cell? _=_;rw [World.bC (hb.block b (lt_of_cell hv))];exact hv,λ_ _ h=>h,λ_ _=>rfl,λ_ _ _ _ h=>h⟩
 ·exact ⟨λk o h=>by simp [ab,alook] at h,λk o k' o' b h=>by simp [ab,alook] at h,λk o h=>by simp [ab,alook] at h⟩
theorem H8 {G:Nat->Option (List AV)} {c:Cx} {w':World} {I:Nat->Nat->Prop} (hg:Good G c) (hb:Below c.w.heap.size c.w w') (hI:∀b o,c.I b o->I b o)
  (hn:∀b o,I b o->c.I b o∨∃v,w'.cell? ⟨b,o,none⟩=some v):Good G {c with w:=w',I:=I}:=by
 have hcell:∀b o v,c.I b o->c.w.cell? ⟨b,o,none⟩=some v->w'.cell? ⟨b,o,none⟩=some v:=λb o v _ hv=>by
  rw [World.bC (hb.block b (lt_of_cell hv))];exact hv
 refine ⟨λb o hi=>?_,λg cs h=>(hg.globs g cs h).ext (ks:=λ_=>False) ⟨hcell,hI,λ_ h=>h.elim,λ_ h=>h.elim⟩ (by simp [AV.keys])⟩
 rcases hn b o hi with h | h
 ·obtain ⟨v,hv⟩:=hg.there b o h
  exact ⟨v,hcell b o v h hv⟩
 ·exact h
theorem uv {P:Program} {G:Nat->Option (List AV)} {f:FuncId} {l:List AV} {r:AV} (hk:r.keys=[])
  (hfn:∃fn,P.funcs[f]?=some fn/\(fn.name=="runtime.NumGoroutine")=false/\fn.body.isSome=true)
  (h:∀ (c:Cx) (vs:Array Value),Good G c->vs.size=l.length->(∀ (i:Nat) (u:AV),l[i]?=some u->Rep c u (vs.getD i undef))->
   Calls P f vs c.w λe w'=>∃x,e=.returned x/\Below c.w.heap.size c.w w'/\∃N:Nat->Nat->Prop,(∀b o,N b o->c.w.heap.size<=b/\∃v,w'.cell? ⟨b,o,none⟩=some v) /\
    Rep {c with w:=w',I:=λb o=>c.I b o∨N b o} r x) :
  Ct P G f l [] (r,[]):=by
 refine ⟨λc0 vs hg ho hs hr _=>(h c0 vs hg hs hr).mono ?_,hfn⟩
 rintro e w' ⟨x,rfl,hb,N,hN,hx⟩
 refine ⟨{c0 with w:=w',I:=λb o=>c0.I b o∨N b o},x,rfl,rfl,H8 hg hb (λ_ _ h=>.inl h) (λb o h=>h.imp id λh=>(hN b o h).2),⟨hb.os,hb.output,hb.tape,hb.size,λb hb' _=>hb.block b hb',?_,?_⟩,?_,hx,λk hk'=>by rw [hk] at hk';simp at hk',λk o b ho'=>by simp [ab,alook] at ho'⟩
 ·exact ⟨λb o v _ hv=>by show w'.cell? _=_;rw [World.bC (hb.block b (lt_of_cell hv))];exact hv,λ_ _ h=>.inl h,λ_ _=>rfl,λ_ _ _ _ h=>h⟩
 ·rintro b o hlt _ (hi | hi)
  ·exact hi
  ·exact absurd (hN b o hi).1 (by show ¬ c0.w.heap.size<=b;exact Nat.not_le.mpr hlt)
 ·exact ⟨λk o h=>by simp [ab,alook] at h,λk o k' o' b h=>by simp [ab,alook] at h,λk o h=>by simp [ab,alook] at h⟩
def Qn (L:List (List UInt8)):AV:=.sl .no 1 L.length λj=>[.str (L.getD j [])]
theorem Cd {P:Program} {G:Nat->Option (List AV)} {f:FuncId} {l:List AV} (L:List ByteArray) (t:TypeId)
  (hfn:∃fn,P.funcs[f]?=some fn/\(fn.name=="runtime.NumGoroutine")=false/\fn.body.isSome=true)
  (h:∀ (c:Cx) (vs:Array Value),Good G c->vs.size=l.length->(∀ (i:Nat) (u:AV),l[i]?=some u->Rep c u (vs.getD i undef))->
   Calls P f vs c.w λe w'=>e=.returned (.slice (some ⟨c.w.heap.size,0,none⟩) L.length L.length)/\w'=c.w.alloc (.cells (L.map Value.string).toArray t (0,0))) :
  Ct P G f l [] (Qn (L.map λs=>s.data.toList),[]):=by
 refine uv rfl hfn λc vs hg hs hr=>(h c vs hg hs hr).mono ?_
 rintro e w' ⟨rfl,rfl⟩
 have hnew:∀j,j < L.length->(c.w.alloc (.cells (L.map Value.string).toArray t (0,0))).cell? ⟨c.w.heap.size,j,none⟩=some (.string (L.getD j ByteArray.empty)):=λj hj=>by
  rw [bb (bq _ _)]
  simp [hj]
 refine ⟨_,rfl,(Below.refl _ _).alloc (Nat.le_refl _) _,λb o=>b=c.w.heap.size/\o < L.length,?_,?_⟩
 ·rintro b o ⟨rfl,ho⟩
  exact ⟨Nat.le_refl _,_,hnew o ho⟩
 ·unfold Qn
  rw [List.length_map]
  refine .sl .no 1 _ _ _ _ (λj _=>.string (L.getD j ByteArray.empty)) (λ_=>rfl) (Nat.le_refl _) trivial (λj hj=>⟨rfl,rfl⟩) (λj i u hj hu=>?_) (λj i u hj hu=>?_)
  ·match i,hu with
   | 0,hu=>
    simp at hu;subst hu
    exact ⟨rfl,by simpa using hnew j hj,.inr ⟨rfl,by simpa using hj⟩⟩
  ·match i,hu with
   | 0,hu=>
    simp only [List.getElem?_cons_zero,Option.some.injEq] at hu;subst hu
    have e:(L.map λs=>s.data.toList).getD j []=(L.getD j ByteArray.empty).data.toList:=by simp [List.getD,hj]
    rw [e]
    exact Rep.str _
end Go.Ab
namespace Go.SH
open Go Go.Ab Go.Proofs
end Go.SH
namespace Go.SM
open Go Go.Ab Go.Proofs Go.SH
def ND (T Y N:Nat->Int) (j:Nat):List AV:=[.int .i64 (T j),.int .i64 (Y j),.int .i64 (N j)]
def IG (w:Nat->Int) (j:Nat):List AV:=[.int .i64 (w j)]
structure STO where
 n:Nat
 T:Nat->Int
 Y:Nat->Int
 N:Nat->Int
 dom:List AV->Bool
 ids:List AV->Int
 full:Bool
instance:Inhabited STO:=⟨⟨0,λ_=>0,λ_=>0,λ_=>0,λ_=>false,λ_=>0,false⟩⟩
def stC (s:STO):AO:=.cells [.sl (.key 1000001) 3 s.n (ND s.T s.Y s.N),.mref 1000002,.bool s.full]
def stM (s:STO):AO:=.mp true [.int .i64,.int .i64,.int .i64] s.dom λl=>.int .i64 (s.ids l)
def STO.objs (s:STO):List AO:=[stC s,.own 3 s.n,stM s]
def xd (d b:List AV->Bool):AO:=.mp false [.int .i64] d λl=>.bool (b l)
def RQ (s:STO) (d b:List AV->Bool) (k:Nat) (v:AV) (n:Nat) (w:Nat->Int):St:={env:=[(0,.ref aa 0),(5,.mref 8),(6,v)],objs:=[(8,xd d b),(k,.grw 0 1 n (IG w)),(1000000,stC s),(1000001,.own 3 s.n),(1000002,stM s)]}
def vId (s:STO) (x:Int):Prop:=-1002 < x/\x < s.n
def ft (s:STO) (x:Int):Int:=bif decide (x < 0) then 1001 else s.T x.toNat
structure STO.Ok (s:STO):Prop where
 n_le:s.n<=4000
 t:∀j,j < s.n->0<=s.T j/\s.T j<=1000
 y:∀j,j < s.n->vId s (s.Y j)/\s.T j < ft s (s.Y j)
 k:∀j,j < s.n->vId s (s.N j)/\s.T j < ft s (s.N j)
structure Ext (a b:STO):Prop where
 n_le:a.n<=b.n
 t:∀j,j < a.n->b.T j=a.T j
 y:∀j,j < a.n->b.Y j=a.Y j
 k:∀j,j < a.n->b.N j=a.N j
theorem Ext.refl (a:STO):Ext a a:=⟨Nat.le_refl _,λ_ _=>rfl,λ_ _=>rfl,λ_ _=>rfl⟩
theorem Ext.trans {a b c:STO} (h:Ext a b) (h':Ext b c):Ext a c:=⟨Nat.le_trans h.1 h'.1,λj hj=>(h'.2 j (Nat.lt_of_lt_of_le hj h.1)).trans (h.2 j hj),λj hj=>(h'.3 j (Nat.lt_of_lt_of_le hj h.1)).trans (h.3 j hj),λj hj=>(h'.4 j (Nat.lt_of_lt_of_le hj h.1)).trans (h.4 j hj)⟩
theorem Ext.valid {a b:STO} (h:Ext a b) {x:Int} (hx:vId a x):vId b x:=⟨hx.1,by have:=h.1;have:=hx.2;omega⟩
theorem Ext.top {a b:STO} (h:Ext a b) {x:Int} (hx:vId a x):ft b x=ft a x:=by
 unfold ft
 by_cases h0:x < 0
 ·rw [decide_eq_true h0];rfl
 ·rw [decide_eq_false h0]
  exact h.2 _ (by have:=hx.2;omega)
theorem wJ {s:STO} {x:Int} (h:x < 0):ft s x=1001:=by unfold ft;rw [decide_eq_true h];rfl
theorem sO {s:STO} {x:Int} (h:¬ x < 0):ft s x=s.T x.toNat:=by unfold ft;rw [decide_eq_false h];rfl
theorem isT {s:STO} {x:Int} (h:(bif decide (x > -1002) then decide (x < (s.n:Int)) else false)=true):vId s x:=by
 by_cases h1:x > -1002
 ·rw [decide_eq_true h1] at h
  exact ⟨by omega,of_decide_eq_true h⟩
 ·rw [decide_eq_false h1] at h;cases h
theorem U1 {b:Bool} (h:(bif false then true else b)=false):b=false:=h
def NP (s:STO) (r:Option (AV×List AO)):Prop:=∃z s',STO.Ok s'/\Ext s s'/\r=some (.int .i64 z,STO.objs s')
theorem NP.cond {s:STO} {b:Bool} {x y:Option (AV×List AO)} (h1:b=true->NP s x) (h2:b=false->NP s y):NP s (cond b x y):=by
 cases b
 ·exact h2 rfl
 ·exact h1 rfl
theorem NP.same {s:STO} (hs:s.Ok) (z:Int):NP s (some (.int .i64 z,STO.objs s)):=⟨z,s,hs,Ext.refl s,rfl⟩
def STO.add (s:STO) (t y n:Int):STO:=
 {n:=s.n+1,T:=λj=>bif Nat.beq j s.n then t else s.T j,Y:=λj=>bif Nat.beq j s.n then y else s.Y j,N:=λj=>bif Nat.beq j s.n then n else s.N j,
  dom:=λl=>bif di l [.int .i64 t,.int .i64 y,.int .i64 n] then true else s.dom l,ids:=λl=>bif di l [.int .i64 t,.int .i64 y,.int .i64 n] then (s.n:Int) else s.ids l,full:=s.full}
theorem cT {α:Sort _} {b:Bool} {x y:α} (h:b=true):cond b x y=x:=by rw [h];rfl
theorem cF {α:Sort _} {b:Bool} {x y:α} (h:b=false):cond b x y=y:=by rw [h];rfl
theorem jd {a b:Nat} (h:b<=a):Nat.blt a b=false:=by
 cases hb:Nat.blt a b
 ·rfl
 ·exact absurd (Nat.le_of_ble_eq_true hb) (Nat.not_lt.2 h)
theorem eu {a b:Nat} (h:a≠b):Nat.beq a b=false:=by
 cases hb:Nat.beq a b
 ·rfl
 ·exact absurd (Nat.eq_of_beq_eq_true hb) h
theorem Jd (s:STO) (t y n:Int):Ext s (s.add t y n):=⟨Nat.le_succ _,λj hj=>by
 show (bif Nat.beq j s.n then t else s.T j)=s.T j
 rw [eu (by omega)];rfl,λj hj=>by
 show (bif Nat.beq j s.n then y else s.Y j)=s.Y j
 rw [eu (by omega)];rfl,λj hj=>by
 show (bif Nat.beq j s.n then n else s.N j)=s.N j
 rw [eu (by omega)];rfl⟩
theorem Sb {s:STO} (hs:s.Ok) {t y n:Int} (hn:s.n < 4000) (ht:0<=t/\t<=1000) (hy:vId s y) (hk:vId s n) (h1:t < ft s y) (h2:t < ft s n):(s.add t y n).Ok:=by
 have hx:=Jd s t y n
 refine ⟨hn,λj hj=>?_,λj hj=>?_,λj hj=>?_⟩
 ·show 0<=(bif Nat.beq j s.n then t else s.T j)/\(bif Nat.beq j s.n then t else s.T j)<=1000
  by_cases h:j=s.n
  ·subst h;rw [Nat.beq_refl];exact ht
  ·rw [eu h];exact hs.t j (by have:j < s.n+1:=hj;omega)
 ·show vId _ (bif Nat.beq j s.n then y else s.Y j)/\(bif Nat.beq j s.n then t else s.T j) < ft _ (bif Nat.beq j s.n then y else s.Y j)
  by_cases h:j=s.n
  ·subst h;rw [Nat.beq_refl];exact ⟨hx.valid hy,by rw [cond_true,cond_true,hx.top hy];exact h1⟩
  ·have hy':=hs.y j (by have:j < s.n+1:=hj;omega)
   rw [eu h];exact ⟨hx.valid hy'.1,by rw [cond_false,cond_false,hx.top hy'.1];exact hy'.2⟩
 ·show vId _ (bif Nat.beq j s.n then n else s.N j)/\(bif Nat.beq j s.n then t else s.T j) < ft _ (bif Nat.beq j s.n then n else s.N j)
  by_cases h:j=s.n
  ·subst h;rw [Nat.beq_refl];exact ⟨hx.valid hk,by rw [cond_true,cond_true,hx.top hk];exact h2⟩
  ·have hk':=hs.k j (by have:j < s.n+1:=hj;omega)
   rw [eu h];exact ⟨hx.valid hk'.1,by rw [cond_false,cond_false,hx.top hk'.1];exact hk'.2⟩
theorem Je (s:STO) (t y n:Int):af s.n 1 (ND s.T s.Y s.N) (ae (ND Int.ofNat Int.ofNat Int.ofNat 0) [(0,.agg [.int .i64 t,.int .i64 y,.int .i64 n])])=ND (s.add t y n).T (s.add t y n).Y (s.add t y n).N:=by
 funext j
 unfold af
 by_cases h:j < s.n
 ·rw [k9 h,cond_true]
  show ND _ _ _ _=[AV.int .i64 (bif Nat.beq j s.n then t else s.T j),AV.int .i64 (bif Nat.beq j s.n then y else s.Y j),AV.int .i64 (bif Nat.beq j s.n then n else s.N j)]
  rw [eu (by omega)];rfl
 ·rw [jd (by omega),cond_false]
  by_cases h':j=s.n
  ·subst h'
   rw [k9 (by omega),cond_true,Nat.sub_self]
   show _=[AV.int .i64 (bif Nat.beq s.n s.n then t else s.T s.n),AV.int .i64 (bif Nat.beq s.n s.n then y else s.Y s.n),AV.int .i64 (bif Nat.beq s.n s.n then n else s.N s.n)]
   rw [Nat.beq_refl];rfl
  ·rw [jd (by omega),cond_false]
   show ND _ _ _ _=[AV.int .i64 (bif Nat.beq j s.n then t else s.T j),AV.int .i64 (bif Nat.beq j s.n then y else s.Y j),AV.int .i64 (bif Nat.beq j s.n then n else s.N j)]
   rw [eu (by omega)];rfl
theorem Pu (s:STO) (t y n:Int):AO.mp true [KD.int .i64,KD.int .i64,KD.int .i64] (λl=>bif di l [.int .i64 t,.int .i64 y,.int .i64 n] then true else s.dom l) (λl=>bif di l [.int .i64 t,.int .i64 y,.int .i64 n] then .int .i64 (s.n:Int) else .int .i64 (s.ids l))=stM (s.add t y n):=by
 unfold stM
 congr 1
 funext l
 show _=AV.int .i64 (bif di l [.int .i64 t,.int .i64 y,.int .i64 n] then (s.n:Int) else s.ids l)
 cases di l [.int .i64 t,.int .i64 y,.int .i64 n] <;> rfl
theorem OG {s:STO} (hs:s.Ok):({s with full:=true}:STO).Ok:=⟨hs.1,hs.2,hs.3,hs.4⟩
def kz (s:STO) (x t:Int):Int:=bif decide (x < 0) then x else bif decide (s.T x.toNat=t) then s.Y x.toNat else x
def kB (s:STO) (x t:Int):Int:=bif decide (x < 0) then x else bif decide (s.T x.toNat=t) then s.N x.toNat else x
theorem JZ {s:STO} (hs:s.Ok) {x t:Int} (hx:vId s x) (ht:t<=ft s x) (h1:t<=1000):(vId s (kz s x t)/\t < ft s (kz s x t))/\vId s (kB s x t)/\t < ft s (kB s x t):=by
 unfold kz kB
 by_cases h0:x < 0
 ·rw [decide_eq_true h0]
  have:t < ft s x:=by rw [wJ h0];omega
  exact ⟨⟨hx,this⟩,hx,this⟩
 ·rw [decide_eq_false h0]
  have hj:x.toNat < s.n:=by have:=hx.2;omega
  by_cases h2:s.T x.toNat=t
  ·rw [decide_eq_true h2]
   subst h2
   exact ⟨hs.y _ hj,hs.k _ hj⟩
  ·rw [decide_eq_false h2]
   have:t < ft s x:=by
    rw [sO h0] at ht ⊢;omega
   exact ⟨⟨hx,this⟩,hx,this⟩
structure RO' where
 d:List AV->Bool
 b:List AV->Bool
instance:Inhabited RO':=⟨⟨λ_=>false,λ_=>false⟩⟩
def RX (s:STO) (r:RO'):St:={env:=[(5,.mref 8)],objs:=[(8,xd r.d r.b),(1000000,stC s),(1000001,.own 3 s.n),(1000002,stM s)]}
def xv (s:STO) (r:RO') (k:Ex->St->Res):Res:=k (.exit 0) (RX s r)
def φI (s:STO) (x:AV):AV×List AO:=(x,STO.objs s)
structure LO where
 n:Nat
 w:Nat->Int
instance:Inhabited LO:=⟨⟨0,λ_=>0⟩⟩
def LB (s:STO) (r:RO') (n:Nat) (w:Nat->Int) (x:Int):St:={env:=[(5,.mref 14),(6,.sl (.key 26) 1 n (IG w)),(7,.int .i64 x)],objs:=[(14,xd r.d r.b),(26,.own 1 n),(1000000,stC s),(1000001,.own 3 s.n),(1000002,stM s)]}
def φR (x:STO×RO'):AV×List AO:=(.mref 1000003,[stC x.1,.own 3 x.1.n,stM x.1,xd x.2.d x.2.b])
def CV (s:STO) (n:Nat) (w:Nat->Int) (i:Int):St:={env:=[(5,.sl .no 1 n (IG w)),(6,.int .i64 i)],objs:=[(1000000,stC s),(1000001,.own 3 s.n),(1000002,stM s)]}
def CX (s:STO):St:={env:=[],objs:=[(1000000,stC s),(1000001,.own 3 s.n),(1000002,stM s)]}
def CE (s:STO):St:={env:=[(4,.bool false)],objs:=[(1000000,stC s),(1000001,.own 3 s.n),(1000002,stM s)]}
def Tv (s:STO) (b:Bool) (k:Ex->St->Res):Res:=cond b (k (.exit 0) (CX s)) (k .ret (CE s))
def rqP (d:List AV->Bool) (x:Int):List AV->Bool:=λl=>bif di l [.int .i64 x] then true else d l
def rD (s:STO) (w:Nat->Int) (m:Nat):Nat->Int:=λj=>bif Nat.blt j m then w j else bif Nat.beq j m then s.Y (w m).toNat else bif Nat.beq j (m+1) then s.N (w m).toNat else w j
theorem vH (s:STO) (w:Nat->Int) (m:Nat):af m 2 (IG w) (ae (IG Int.ofNat 0) [(0,.int .i64 (s.Y (w m).toNat)),(1,.int .i64 (s.N (w m).toNat))])=IG (rD s w m):=by
 funext j
 unfold af
 show _=[AV.int .i64 (bif Nat.blt j m then w j else bif Nat.beq j m then s.Y (w m).toNat else bif Nat.beq j (m+1) then s.N (w m).toNat else w j)]
 by_cases h:j < m
 ·rw [k9 h];rfl
 ·rw [jd (by omega)]
  by_cases h1:j=m
  ·subst h1
   rw [k9 (by omega),Nat.sub_self,Nat.beq_refl];rfl
  ·rw [eu h1]
   by_cases h2:j=m+1
   ·subst h2
    rw [k9 (by omega),Nat.add_sub_cancel_left,Nat.beq_refl];rfl
   ·rw [jd (by omega),eu h2];rfl
theorem HO (d b:List AV->Bool) (w:Nat->Int) (m:Nat):AO.mp false [KD.int .i64] (λl=>bif di l (IG w m) then true else d l) (λl=>bif di l (IG w m) then .bool true else .bool (b l))=xd (rqP d (w m)) (rqP b (w m)):=by
 unfold xd
 congr 1
 funext l
 show _=AV.bool (bif di l [.int .i64 (w m)] then true else b l)
 show (bif di l [.int .i64 (w m)] then AV.bool true else .bool (b l))=_
 cases di l [.int .i64 (w m)] <;> rfl
theorem Hs {m:Nat} (h:m<=8000):IntKind.wrap .i64 (((m+1:Nat):Int) - 1)=(m:Int):=by
 rw [wrap_i64 (by omega) (by omega)];omega
theorem dgt (m:Nat):decide (((m+1:Nat):Int) > 0)=true:=decide_eq_true (by omega)
theorem win (m:Nat):within (m:Int) (m+1)=true:=by unfold within;rw [decide_eq_true (by omega),decide_eq_true (by omega)];rfl
theorem d0m (m:Nat):decide ((0:Int)<=(m:Int))=true:=decide_eq_true (by omega)
theorem dms (m:Nat):decide ((m:Int)<=((m+1:Nat):Int))=true:=decide_eq_true (by omega)
theorem Qo {m:Nat} (h:m<=8000):roomy 8 (m+2)=true:=by unfold roomy;exact Nat.ble_eq_true_of_le (by omega)
theorem Uw {a b:Nat} (h:a<=b):Nat.ble a b=true:=Nat.ble_eq_true_of_le h
def sL (p:Nat->Bool):Nat->Nat
 | 0=>0
 | n+1=>sL p n+(bif p n then 1 else 0)
theorem qj (p:Nat->Bool) (n:Nat):sL p n<=n:=by
 induction n with
 | zero=>exact Nat.le_refl _
 | succ n ih=>show sL p n+_<=n+1;cases p n <;> simp <;> omega
theorem Ee {p q:Nat->Bool} {x:Nat} (h:∀j,q j=(Nat.beq j x||p j)) (hx:p x=false) (n:Nat):sL q n=sL p n+(bif Nat.blt x n then 1 else 0):=by
 induction n with
 | zero=>rfl
 | succ n ih=>
  show sL q n+_=sL p n+_+_
  rw [ih,h n]
  by_cases h1:x < n
  ·rw [k9 h1,k9 (by omega),eu (by omega)]
   cases p n <;> simp
  ·by_cases h2:x=n
   ·subst h2
    rw [jd (Nat.le_refl _),k9 (by omega),Nat.beq_refl,hx];simp
   ·rw [jd (by omega),jd (by omega),eu (by omega)]
    cases p n <;> simp
theorem OW (y x:Int):di [.int .i64 y] [.int .i64 x]=decide (y=x):=by
 show ((decide (IntKind.i64=IntKind.i64)&&(y==x))&&true)=decide (y=x)
 rw [decide_eq_true rfl,Bool.true_and,Bool.and_true]
 by_cases h:y=x
 ·rw [decide_eq_true h];simp [h]
 ·rw [decide_eq_false h];simp [h]
def kI (x:Int):List AV:=[.int .i64 x]
theorem iW (d:List AV->Bool) (x y:Int):rqP d x (kI y)=(decide (y=x)||d (kI y)):=by
 show (bif di [.int .i64 y] [.int .i64 x] then true else d (kI y))=_
 rw [OW]
 cases decide (y=x) <;> rfl
def Clo (s:STO) (D:Int->Prop) (x:Int):Prop:=D x/\∀y,D y->vId s y/\(0<=y->D (s.Y y.toNat)/\D (s.N y.toNat))
structure RQV where
 d:List AV->Bool
 b:List AV->Bool
 k:Nat
 sub:Bool
 n:Nat
 h:Nat
 w:Nat->Int
def RQV.len (v:RQV):Nat:=bif v.sub then v.h else v.n
def RQV.v (v:RQV):AV:=bif v.sub then .gsub v.k 1 v.n 0 v.h else .gsl v.k 1 v.n
def rqS (s:STO) (v:RQV):St:=RQ s v.d v.b v.k v.v v.n v.w
def RQV.has (v:RQV) (z:Int):Prop:=v.d (kI z)=true∨∃j,j < v.len/\v.w j=z
structure rqI (s:STO) (x0:Int) (v:RQV):Prop where
 k:v.k=10∨v.k=50∨v.k=500050
 h:v.len<=v.n
 len:v.len<=1+sL (λj=>v.d (kI j)) s.n
 id:∀j,j < v.len->vId s (v.w j)
 b:∀l,v.d l=true->v.b l=true
 seen:∀y,v.d (kI y)=true->vId s y
 clo:∀y,v.d (kI y)=true->0<=y->v.has (s.Y y.toNat)/\v.has (s.N y.toNat)
 at0:v.has x0
def rqM (s:STO) (v:RQV):Nat:=2*(s.n - sL (λj=>v.d (kI j)) s.n)+v.len
def rZ (s:STO) (x0:Int) (r:RO'):Prop:=(∀l,r.d l=true->r.b l=true)/\Clo s (λy=>r.d (kI y)=true) x0
def RQV.pop (v:RQV) (d b:List AV->Bool) (m:Nat):RQV:=⟨d,b,v.k,true,v.n,m,v.w⟩
def RQV.push (s:STO) (v:RQV) (k2 m:Nat):RQV:=⟨rqP v.d (v.w m),rqP v.b (v.w m),k2,false,m+2,0,rD s v.w m⟩
theorem xu (s:STO) (w:Nat->Int) {m j:Nat} (h:j < m):rD s w m j=w j:=by unfold rD;rw [k9 h];rfl
theorem Bf (s:STO) (w:Nat->Int) (m:Nat):rD s w m m=s.Y (w m).toNat:=by unfold rD;rw [jd (Nat.le_refl _),Nat.beq_refl];rfl
theorem Be (s:STO) (w:Nat->Int) (m:Nat):rD s w m (m+1)=s.N (w m).toNat:=by unfold rD;rw [jd (by omega),eu (by omega),Nat.beq_refl];rfl
theorem js {a b:STO} (h:STO.objs a=STO.objs b):a=b:=by
 obtain ⟨n,T,Y,N,d,i,f⟩:=a
 obtain ⟨n',T',Y',N',d',i',f'⟩:=b
 simp only [STO.objs,stC,stM,List.cons.injEq,AO.cells.injEq,AV.sl.injEq,AV.bool.injEq,AO.mp.injEq,true_and,and_true] at h
 obtain ⟨⟨⟨hn,hg⟩,hf⟩,_,hd,hi⟩:=h
 have h1:T=T':=funext λj=>by
  have:=congrFun hg j
  simp only [ND,List.cons.injEq,AV.int.injEq,true_and,and_true] at this
  exact this.1
 have h2:Y=Y':=funext λj=>by
  have:=congrFun hg j
  simp only [ND,List.cons.injEq,AV.int.injEq,true_and,and_true] at this
  exact this.2.1
 have h3:N=N':=funext λj=>by
  have:=congrFun hg j
  simp only [ND,List.cons.injEq,AV.int.injEq,true_and,and_true] at this
  exact this.2.2
 have h4:i=i':=funext λl=>by
  have:=congrFun hi l
  simpa using this
 subst hn hf hd h1 h2 h3 h4;rfl
def xA (x:STO×Int):List AV:=[.ref aa 0,.int .i64 x.2]
structure LVS where
 c:Bool
 n:Nat
 w:Nat->Int
 x:Nat
structure lvI (r:RO') (v:LVS):Prop where
 x:v.x<=1001
 n:v.n<=v.x
 c:v.c=true->v.n=0
 a:∀m:Nat,m < v.x->r.d (kI (-1 - m))=true->∃j,j < v.n/\v.w j=m
def lvZ (r:RO') (o:LO):Prop:=o.n<=1001/\∀m:Nat,m<=1000->r.d (kI (-1 - m))=true->∃j,j < o.n/\o.w j=m
def Qv (w:Nat->Int) (n:Nat) (x:Int):Nat->Int:=λj=>bif Nat.beq j n then x else w j
theorem zi (w:Nat->Int) (n:Nat) (x:Int):af n 1 (IG w) (ae (IG Int.ofNat 0) [(0,.int .i64 x)])=IG (Qv w n x):=by
 funext j
 unfold af
 show _=[AV.int .i64 (bif Nat.beq j n then x else w j)]
 by_cases h:j < n
 ·rw [k9 h,eu (by omega)];rfl
 ·rw [jd (by omega)]
  by_cases h1:j=n
  ·subst h1;rw [k9 (by omega),Nat.sub_self,Nat.beq_refl];rfl
  ·rw [jd (by omega),eu h1];rfl
theorem isB {s:STO} {x:Int} (h:vId s x):(bif decide (x > -1002) then decide (x < (s.n:Int)) else false)=true:=by
 rw [decide_eq_true (show x > -1002 from h.1),decide_eq_true h.2];rfl
def kM (d:List AV->Bool) (i:List AV->Int):AO:=.mp true [.int .i64,.int .i64,.int .i64] d λl=>.int .i64 (i l)
def Su (s:STO):AO:=.cells [.sl (.key 1000002) 3 s.n (ND s.T s.Y s.N),.mref 1000003,.bool s.full]
def KO (s:STO) (d:List AV->Bool) (i:List AV->Int):List AO:=[Su s,kM d i,.own 3 s.n,stM s]
structure CH where
 z:Int
 s:STO
 d:List AV->Bool
 i:List AV->Int
instance:Inhabited CH:=⟨⟨0,default,λ_=>false,λ_=>0⟩⟩
def φT (x:STO×Int):AV×List AO:=(.int .i64 x.2,STO.objs x.1)
def φD (x:STO×Int×Int):AV×List AO:=(.tup [.int .i64 x.2.1,.int .i64 x.2.2],STO.objs x.1)
def φC (x:CH):AV×List AO:=(.int .i64 x.z,KO x.s x.d x.i)
def Cnd (s:STO) (x:Int):Prop:=∃D,Clo s D x/\∀y,D y->-2<=y
theorem Cnd.id {s:STO} {x:Int} (h:Cnd s x):vId s x:=by obtain ⟨D,h1,_⟩:=h;exact (h1.2 _ h1.1).1
theorem Cnd.ge {s:STO} {x:Int} (h:Cnd s x) : -2<=x:=by obtain ⟨D,h1,h2⟩:=h;exact h2 _ h1.1
theorem Ext.clo {a b:STO} (h:Ext a b) {D:Int->Prop} {x:Int} (hc:Clo a D x):Clo b D x:=⟨hc.1,λy hy=>⟨h.valid (hc.2 y hy).1,λh0=>by
 have hv:=(hc.2 y hy).1
 have hj:y.toNat < a.n:=by have:=hv.2;omega
 rw [h.y _ hj,h.k _ hj];exact (hc.2 y hy).2 h0⟩⟩
theorem Ext.cnd {a b:STO} (h:Ext a b) {x:Int} (hc:Cnd a x):Cnd b x:=by obtain ⟨D,h1,h2⟩:=hc;exact ⟨D,h.clo h1,h2⟩
structure cvI (n:Nat) (w:Nat->Int) (i:Nat):Prop where
 le:i<=n
 a:∀j,j < i->w j<=1
def eZ (x:STO×Int) (r:STO×Bool):Prop:=r.1=x.1/\(r.2=true->Cnd x.1 x.2)
def sA (x:STO×Int×Int):List AV:=[.ref aa 0,.int .i64 x.2.1,.int .i64 x.2.2]
def sP (x:STO×Int×Int):Prop:=vId x.1 x.2.1/\x.2.2<=1000
def nA (x:STO×Int×Int×Int):List AV:=[.ref aa 0,.int .i64 x.2.1,.int .i64 x.2.2.1,.int .i64 x.2.2.2]
def nO (x:STO×Int×Int×Int):List AO:=STO.objs x.1
def nP (x:STO×Int×Int×Int):Prop:=x.1.Ok
structure KA where
 s:STO
 d:List AV->Bool
 i:List AV->Int
 f:Int
 g:Int
 h:Int
def kA (x:KA):List AV:=[.ref aa 0,.int .i64 x.f,.int .i64 x.g,.int .i64 x.h,.mref 1000001]
def kO (x:KA):List AO:=KO x.s x.d x.i
theorem TO {a b:KA} (h:kA a=kA b) (h':kO a=kO b):a=b:=by
 obtain ⟨s,d,i,f,g,k⟩:=a
 obtain ⟨s',d',i',f',g',k'⟩:=b
 simp only [kA,kO,KO,Su,kM,List.cons.injEq,AV.int.injEq,true_and,and_true,AO.cells.injEq,AO.mp.injEq,AV.sl.injEq,AV.bool.injEq] at h h'
 obtain ⟨⟨⟨_,hg⟩,hf⟩,⟨hd,hi⟩,hn,hm⟩:=h'
 have hs:s=s':=by
  refine js ?_
  show [AO.cells [.sl (.key 1000001) 3 s.n (ND s.T s.Y s.N),_,_],_,_]=[AO.cells [.sl (.key 1000001) 3 s'.n (ND s'.T s'.Y s'.N),_,_],_,_]
  rw [hg,hf,hm]
  have:s.n=s'.n:=by assumption
  rw [this]
 have h4:i=i':=funext λl=>by
  have:=congrFun hi l
  simpa using this
 rw [hs,hd,h4,h.1,h.2.1,h.2.2]
def T3 (a b c:Int):Int:=bif decide (c < bif decide (b < a) then b else a) then c else bif decide (b < a) then b else a
theorem Sf (a b c:Int):T3 a b c<=a/\T3 a b c<=b/\T3 a b c<=c:=by
 unfold T3
 by_cases h:b < a
 ·rw [decide_eq_true h]
  show (bif decide (c < b) then c else b)<=a/\(bif decide (c < b) then c else b)<=b/\(bif decide (c < b) then c else b)<=c
  by_cases h1:c < b
  ·rw [decide_eq_true h1];exact ⟨by show c<=a;omega,by show c<=b;omega,Int.le_refl _⟩
  ·rw [decide_eq_false h1];exact ⟨by show b<=a;omega,Int.le_refl _,by show b<=c;omega⟩
 ·rw [decide_eq_false h]
  show (bif decide (c < a) then c else a)<=a/\(bif decide (c < a) then c else a)<=b/\(bif decide (c < a) then c else a)<=c
  by_cases h1:c < a
  ·rw [decide_eq_true h1];exact ⟨by show c<=a;omega,by show c<=b;omega,Int.le_refl _⟩
  ·rw [decide_eq_false h1];exact ⟨Int.le_refl _,by show a<=b;omega,by show a<=c;omega⟩
theorem Uz {a b c t:Int} (h1:t < a) (h2:t < b) (h3:t < c):t < T3 a b c:=by
 unfold T3
 cases decide (b < a) with
 | true=>
  show t < bif decide (c < b) then c else b
  cases decide (c < b) <;> assumption
 | false=>
  show t < bif decide (c < a) then c else a
  cases decide (c < a) <;> assumption
def kP (m:Nat) (x:KA):Prop:=x.s.Ok/\Cnd x.s x.f/\vId x.s x.g/\vId x.s x.h/\1002<=m+T3 (ft x.s x.f) (ft x.s x.g) (ft x.s x.h)
theorem CN {s:STO} (hs:s.Ok) {x:Int} (hx:vId s x) : -1 < ft s x:=by
 by_cases h:x < 0
 ·rw [wJ h];decide
 ·rw [sO h];have:=(hs.t x.toNat (by have:=hx.2;omega)).1;omega
def aP (x:STO×Int×Int):Prop:=x.1.Ok
end Go.SM
namespace Go.SH
open Go Go.Ab Go.Proofs
def FJ:List UInt8:=[97,110,100,32,97,114,109,115,32,97,116,116,114,105,98,117,116,101,32,98,111,111,108,32,99,108,97,105,109,115,32,99,111,110,116,97,105,110,115,32,99,111,111,108,32,99,111,111,108,105,110,103,32,100,101,102,97,117,108,116,32,100,114,97,102,116,32,101,110,100,115,32,101,120,99,108,117,100,101,32,101,120,105,115,116,115,32,101,120,112,101,114,105,109,101,110,116,32,102,97,108,115,101,32,102,108,97,103,32,104,111,108,100,111,117,116,32,105,110,32,105,110,99,108,117,100,101,32,105,115,32,108,97,121,101,114,32,108,105,115,116,32,109,101,109,98,101,114,32,110,101,101,100,115,32,110,111,116,32,110,117,109,98,101,114,32,111,102,102,32,111,110,32,111,114,32,114,117,108,101,32,114,117,110,110,105,110,103,32,115,97,108,116,32,115,101,103,109,101,110,116,32,115,101,114,118,101,32,115,101,116,116,105,110,103,115,32,115,112,108,105,116,32,115,116,97,114,116,115,32,115,116,111,112,112,101,100,32,116,97,114,103,101,116,32,116,101,120,116,32,116,111,32,116,114,117,101,32,117,110,116,105,108,32,118,97,114,105,97,116,105,111,110,115,32,118,101,114,115,105,111,110,32,119,104,101,110]
def Us:List UInt8->List UInt8->List (List UInt8)
 | [],w=>[w]
 | c::r,w=>if c=32 then w::Us r [] else Us r (w++[c])
def uL:List (List UInt8):=Us FJ []
def xH:Option (AV×List AO)->Bool
 | some (.sl _ 1 46 get,[])=>GY 46 (λj=>[.str (uL.getD j [])]) get
 | _=>false
theorem tL {x:Option (AV×List AO)} (h:xH x=true):∃o get,x=some (.sl o 1 46 get,[])/\GY 46 (λj=>[.str (uL.getD j [])]) get=true:=by
 unfold xH at h
 split at h
 ·exact ⟨_,_,rfl,h⟩
 ·cases h
def cr (l:List (List UInt8)):AV:=.sl .no 1 l.length λj=>[.str (l.getD j [])]
theorem sj:uL.length=46:=by kernel_rfl
def Sa (s:List UInt8) (i:Nat):St:={env:=[(0,.str s),(17,.ref 17 0)],objs:=[(17,.iter s i)]}
def φB (b:Bool):AV×List AO:=(.bool b,[])
def φS (l:List (List UInt8)):AV×List AO:=(cr l,[])
def HN:Nat:=4611686018427387904
def lE (i:Nat) (c:Nat):Bool:=bif !bif decide ((c:Int)≥97) then decide ((c:Int)<=122) else false then bif (i:Int)==0 then true else bif bif !bif decide ((c:Int)≥48) then decide ((c:Int)<=57) else false then (c:Int) !=45 else false then (c:Int) !=95 else false else false
def my (s:List UInt8):Bool×Bool:=seek s.length (·+1) (λi=>lE i (s.getD i 0).toNat) false
def uN (s:List UInt8):Bool:=!(my s).1&&decide (0 < s.length)
def s9 (s:List UInt8):Bool×Bool:=seek uL.length (·+1) (λi=>uL.getD i []==s) false
def ea (s:List UInt8):Bool:=uN s&&(decide (s.length<=32)&&!(s9 s).1)
theorem qD {i c:Nat} (h:128<=c):lE i c=true:=by
 unfold lE
 rw [decide_eq_true (show (c:Int)≥97 by omega),decide_eq_false (show ¬ (c:Int)<=122 by omega),decide_eq_true (show (c:Int)≥48 by omega),decide_eq_false (show ¬ (c:Int)<=57 by omega)]
 rw [show ((c:Int) !=45)=true by simp;omega,show ((c:Int) !=95)=true by simp;omega]
 cases ((i:Int)==0) <;> rfl
theorem qC (i c:Nat):(bif !bif decide ((c:Int)≥97) then decide ((c:Int)<=122) else false then bif (i:Int)==0 then true else bif bif bif decide ((c:Int) < 48) then true else decide ((c:Int) > 57) then (c:Int) !=45 else false then (c:Int) !=95 else false else false)=lE i c:=by
 unfold lE
 have e1:decide ((c:Int) < 48)=!decide ((c:Int)≥48):=by
  by_cases h:(c:Int)≥48
  ·rw [decide_eq_true h,decide_eq_false (by omega)];rfl
  ·rw [decide_eq_false h,decide_eq_true (by omega)];rfl
 have e2:decide ((c:Int) > 57)=!decide ((c:Int)<=57):=by
  by_cases h:(c:Int)<=57
  ·rw [decide_eq_true h,decide_eq_false (by omega)];rfl
  ·rw [decide_eq_false h,decide_eq_true (by omega)];rfl
 rw [e1,e2]
 cases decide ((c:Int)≥48) <;> cases decide ((c:Int)<=57) <;> rfl
def qQ (s:List UInt8) (i:Nat):Bool:=lE i (Utf8.decode ⟨s.toArray⟩ i).1
theorem vP (s:List UInt8):seek s.length (fV s) (qQ s) false=my s:=
 ni s (qQ s) _ false (λi hi hl=>by unfold qQ;rw [p8 hl]) (λi hi hh=>⟨qD (o6 hi hh).1,qD hh⟩)
def Sv (s:List UInt8) (i:Nat):St:={env:=[(14,.ref 14 0)],objs:=[(14,.iter s i)]}
def Jm (s:List UInt8):Bool:=Lib.validD s
def ctrl (c:Nat):Bool:=bif decide ((c:Int) < 32) then true else (c:Int)==127
def mT (s:List UInt8):Bool×Bool:=seek s.length (·+1) (λi=>ctrl (s.getD i 0).toNat) false
def df (s:List UInt8):Bool:=decide (s.length<=200)&&(Jm s&&!(mT s).1)
theorem Ak {c:Nat} (h:128<=c):ctrl c=false:=by
 unfold ctrl
 rw [decide_eq_false (show ¬ (c:Int) < 32 by omega)]
 simp;omega
def Cc (s:List UInt8) (i:Nat):Bool:=ctrl (Utf8.decode ⟨s.toArray⟩ i).1
theorem uu (s:List UInt8):seek s.length (fV s) (Cc s) false=mT s:=
 sY s (Cc s) _ false (λi hi hl=>by unfold Cc;rw [p8 hl]) (λi hi hh=>⟨Ak (o6 hi hh).1,Ak hh⟩)
theorem Dy (s:List UInt8):decide ((s.length:Int) > 200)=!decide (s.length<=200):=by
 by_cases h:s.length<=200
 ·rw [decide_eq_true h,decide_eq_false (by omega)];rfl
 ·rw [decide_eq_false h,decide_eq_true (by omega)];rfl
section
end
def kl (r:Int×Int×Int):List AV:=[.int .i64 r.1,.int .i64 r.2.1,.int .i64 r.2.2]
def ou (l:List (Int×Int×Int)):AV:=.sl .no 3 l.length λj=>kl (l.getD j (0,0,0))
def uK (r:Int×Int):List AV:=[.int .i64 r.1,.int .i64 r.2]
def AP (l:List (Int×Int)):AV:=.sl .no 2 l.length λj=>uK (l.getD j (0,0))
def φE (e:Int):AV×List AO:=(.int .i64 e,[])
def Ss (l:List (Int×Int×Int)) (n:Int) (r:Int×Int×Int) (i:Nat):St:={env:=[(1,.int .i64 n),(5,.ref 5 0),(12,ou l),(13,.int .i64 l.length),(14,.int .i64 i)],objs:=[(5,.cells (kl r))]}
def Sq (l:List (Int×Int×Int)) (n:Int) (at':Int) (i:Nat):St:={env:=[(0,ou l),(1,.int .i64 n),(5,.int .i64 at'),(6,.int .i64 i)],objs:=[]}
def eF (l:List (Int×Int×Int)) (i:Nat):Int×Int×Int:=if i=0 then (0,0,0) else l.getD (i - 1) (0,0,0)
theorem jY (l:List (Int×Int×Int)) (i:Nat):eF l (i+1)=l.getD i (0,0,0):=by unfold eF;rw [if_neg (by omega)];rfl
def fw (l:List (Int×Int×Int)) (n:Int) (i:Nat):Option Int:=
 bif decide ((l.getD i (0,0,0)).2.2 < 1)||decide ((l.getD i (0,0,0)).2.2 > n) then some 3 else
 bif (l.getD i (0,0,0)).1 !=(eF l i).2.1||(decide ((l.getD i (0,0,0)).2.1<=(l.getD i (0,0,0)).1)||(l.getD i (0,0,0)).2.2==(eF l i).2.2) then some 9 else none
def od (l:List (Int×Int×Int)) (n:Int):Bool×Int:=bp l.length (·+1) (fw l n) 0
def eI (l:List (Int×Int×Int)) (n:Int):Int:=
 bif decide (l.length > 16) then 5 else bif (od l n).1 then (od l n).2 else bif (eF l l.length).2.1 !=10000 then 3 else 0
theorem tM (n k:Nat):decide ((n:Int) > (k:Int))=decide (n > k):=by
 by_cases h:n > k
 ·rw [decide_eq_true h,decide_eq_true (by omega)]
 ·rw [decide_eq_false h,decide_eq_false (by omega)]
def iw (l:List (Int×Int)) (i:Nat):Option Int:=
 bif decide ((l.getD i (0,0)).1 < 0)||(decide ((l.getD i (0,0)).1≥(l.getD i (0,0)).2)||decide ((l.getD i (0,0)).2 > 10000)) then some 3 else
 bif decide (i > 0)&&decide ((l.getD i (0,0)).1<=(l.getD (i - 1) (0,0)).2) then some 9 else none
def CW (l:List (Int×Int)):Bool×Int:=bp l.length (·+1) (iw l) 0
def nh (l:List (Int×Int)):Int:=bif decide (l.length > 16) then 5 else bif (CW l).1 then (CW l).2 else 0
def jg (s:List UInt8):Prop:=s.length<=HN
def jj (l:List (List UInt8)):Prop:=l.length<=4611686018427387904/\∀s∈l,jg s
theorem jj.at {l:List (List UInt8)} (h:jj l) {i:Nat} (hi:i < l.length):jg (l.getD i []):=by
 rw [List.getD_eq_getElem?_getD,List.getElem?_eq_getElem hi]
 exact h.2 _ (List.getElem_mem hi)
def kT (l:List (List UInt8)) (i:Nat):Option Int:=
 bif (l.getD i []==[])||!df (l.getD i []) then some 2 else
 bif decide (i > 0)&&(aG (l.getD i []) (l.getD (i - 1) [])||l.getD i []==l.getD (i - 1) []) then some 9 else none
def HK (l:List (List UInt8)):Bool×Int:=bp l.length (·+1) (kT l) 0
def Br (l:List (List UInt8)):Int:=bif decide (l.length > 40) then 5 else bif (HK l).1 then (HK l).2 else 0
section
end
end Go.SH
namespace Go.Proofs
open Go.Shelf
end Go.Proofs
namespace Go.SH
open Go Go.Ab Go.Proofs Go.RowKit
theorem pE {c:Cx} {s:List UInt8} {v:Value} (h:Rep c (.str s) v):v=.string ⟨s.toArray⟩:=by cases h;rfl
theorem Vu {vs:Array Value} {v:Value} (hs:vs.size=1) (h:vs.getD 0 undef=v):vs=#[v]:=by
 apply Array.ext
 ·simpa using hs
 ·intro i h1 h2
  have:i=0:=by omega
  subst this
  rw [<-h];simp [Array.getD,h1]
end Go.SH
namespace Go.Proofs
open Go.Shelf
end Go.Proofs
namespace Go.SH
open Go Go.Ab Go.Proofs Go.RowKit
theorem Vt {vs:Array Value} {v w:Value} (hs:vs.size=2) (h:vs.getD 0 undef=v) (h':vs.getD 1 undef=w):vs=#[v,w]:=by
 apply Array.ext
 ·simpa using hs
 ·intro i h1 h2
  match i,h1,h2 with
  | 0,h1,h2=>rw [<-h];simp [Array.getD,h1]
  | 1,h1,h2=>rw [<-h'];simp [Array.getD,h1]
  | k+2,h1,h2=>omega
end Go.SH
namespace Go.SH
open Go Go.Ab Go.Proofs
def φD (x:List UInt8×Bool):AV×List AO:=(.tup [.str x.1,.bool x.2],[])
def φI (n:Int):AV×List AO:=(.tup [.int .i64 n,.nili],[])
def φJ (n:Int):AV×List AO:=(.tup [.int .i64 n,.nni],[])
def φN (x:Int×Int):AV×List AO:=(.tup [.int .i64 x.1,.int .i64 x.2],[])
def Yp (s d:List UInt8) (i:Nat):St:={env:=[(0,.str s),(31,.ref 31 0)],objs:=[(31,.iter d i)]}
def Sy (_:Unit) (k:Ex->St->Res):Res:=k .ret {env:=[(2,.int .i64 0),(3,.int .i64 1)],objs:=[]}
def Em (c:Nat):Bool:=bif decide ((c:Int) < 48) then true else decide ((c:Int) > 57)
theorem Fq {c:Nat} (h:Em c=false):48<=c/\c<=57:=by
 unfold Em at h
 by_cases h1:(c:Int) < 48
 ·rw [decide_eq_true h1] at h;simp at h
 ·rw [decide_eq_false h1] at h
  have h2:¬ (c:Int) > 57:=by simpa using h
  omega
theorem Aw {c:Nat} (h:128<=c):Em c=true:=by
 unfold Em
 rw [decide_eq_false (by omega),decide_eq_true (by omega)];rfl
theorem Kd {τ:Type} [Inhabited τ] (l:List UInt8) (p:UInt8->Bool) (t:τ):∀d i,l.length - i<=d->
  (bp l.length (·+1) (λi=>bif p (l.getD i 0) then some t else none) i).1=(l.drop i).any p:=by
 intro d
 induction d with
 | zero=>intro i h;rw [bI _ _ _ (by omega),List.drop_eq_nil_of_le (by omega)];rfl
 | succ d ih=>
  intro i h
  by_cases hi:i < l.length
  ·rw [da (λi _=>Nat.lt_succ_self i) hi,List.drop_eq_getElem_cons hi,List.any_cons,<-ih (i+1) (by omega)]
   have e:l.getD i 0=l[i]:=by simp [List.getD,hi]
   rw [e]
   cases p l[i] <;> rfl
  ·rw [bI _ _ _ hi,List.drop_eq_nil_of_le (by omega)];rfl
theorem Ka {τ:Type} [Inhabited τ] (l:List UInt8) (p:UInt8->Bool) (t:τ) :
  (seek l.length (·+1) (λi=>p (l.getD i 0)) t).1=l.any p:=by
 have:=Kd l p t l.length 0 (by omega)
 rwa [List.drop_zero] at this
def put (a:Nat) (c:UInt8):Nat:=a*10+(c.toNat - 48)
theorem put_eq (a:Nat) (c:UInt8):put a c=a*10+(c.toNat - 48):=by unfold put;exact Eq.refl _
def val (a:Nat) (l:List UInt8):Nat:=l.foldl put a
theorem wG (a:Nat):val a []=a:=by unfold val;exact List.foldl_nil
theorem rP (a:Nat) (c:UInt8) (r:List UInt8):val a (c::r)=val (put a c) r:=by unfold val;exact List.foldl_cons ..
theorem FV:∀ (l:List UInt8) (a:Nat),a*10 ^ l.length<=val a l
 | [],a=>by rw [wG];simp
 | c::r,a=>by
  have h:=FV r (put a c)
  rw [rP,List.length_cons,Nat.pow_succ]
  refine Nat.le_trans ?_ h
  rw [Nat.mul_comm (10 ^ r.length) 10,<-Nat.mul_assoc]
  exact Nat.mul_le_mul_right _ (by rw [put_eq];exact Nat.le_add_right _ _)
theorem PS (l:List UInt8) (a:Nat):a<=val a l:=by
 refine Nat.le_trans ?_ (FV l a)
 exact Nat.le_mul_of_pos_right a (Nat.pow_pos (by decide))
def digs (l:List UInt8):Prop:=∀c∈l,48<=c.toNat/\c.toNat<=57
def gB (s:List UInt8):List UInt8×Bool:=bif s.head?==some 45 then (s.tail,true) else (s,false)
theorem gA (s:List UInt8):(∃r,s=45::r/\gB s=(r,true))∨((s.head?==some 45)=false/\gB s=(s,false)):=by
 cases s with
 | nil=>exact .inr ⟨rfl,rfl⟩
 | cons c r=>
  by_cases h:c=45
  ·subst h;exact .inl ⟨r,rfl,rfl⟩
  ·have e:((c::r).head?==some 45)=false:=by simp [h]
   exact .inr ⟨e,by unfold gB;rw [e];rfl⟩
def yv (s:List UInt8):Bool:=(gB s).1==[]||((gB s).1.getD 0 0).toNat==48&&(decide ((gB s).1.length > 1)||(gB s).2)||(gB s).1.any λc=>Em c.toNat
def yp:Nat:=1099511627776
def uQ (s:List UInt8):Int×Int:=
 bif yv s then (0,1) else bif decide (val 0 (gB s).1 > yp) then (0,3) else (bif (gB s).2 then -(val 0 (gB s).1:Int) else (val 0 (gB s).1:Int),0)
theorem Ca {l:List UInt8} (h:(l.any λc=>Em c.toNat)=false):digs l:=λc hc=>by
 have:=List.any_eq_false.1 h c hc
 exact Fq (by simpa using this)
def MR (d:List UInt8):Bool×Unit:=seek d.length (·+1) (λi=>Em (d.getD i 0).toNat) ()
theorem Ek (d:List UInt8):(MR d).1=d.any λc=>Em c.toNat:=Ka d (λc=>Em c.toNat) ()
theorem Pm (d:List UInt8):seek d.length (fV d) (λi=>Em (Utf8.decode ⟨d.toArray⟩ i).1) ()=MR d:=
 ni d _ _ () (λi hi hl=>by rw [p8 hl]) (λi hi hh=>⟨Aw (o6 hi hh).1,Aw hh⟩)
theorem Rk (d:List UInt8):(bif within 0 d.length then true else !bif (d==[])==false then true else false)=true:=by
 cases d with
 | nil=>rfl
 | cons c r=>rw [show within 0 (c::r).length=true from aA (by omega) (by rw [List.length_cons];omega)];rfl
theorem Wf (n:Nat):decide ((n:Int) > 1)=decide (n > 1):=by
 by_cases h:n > 1
 ·rw [decide_eq_true h,decide_eq_true (by omega)]
 ·rw [decide_eq_false h,decide_eq_false (by omega)]
theorem Va (n:Nat):((n:Int)==48)=(n==48):=by
 by_cases h:n=48
 ·subst h;rfl
 ·rw [beq_eq_false_iff_ne.2 h,beq_eq_false_iff_ne.2 (by omega)]
theorem JE (a:Nat) (l:List UInt8) (c:UInt8):val a (l++[c])=put (val a l) c:=by unfold val;rw [List.foldl_append];rfl
theorem yB:∀ (l:List UInt8) (a:Nat),digs l->val a l < (a+1)*10 ^ l.length
 | [],a,_=>by rw [wG];simp
 | c::r,a,h=>by
  have hc:=h c (List.mem_cons_self ..)
  have ih:=yB r (put a c) (λc hc=>h c (List.mem_cons_of_mem _ hc))
  rw [rP,List.length_cons,Nat.pow_succ]
  refine Nat.lt_of_lt_of_le ih ?_
  rw [Nat.mul_comm (10 ^ r.length) 10,<-Nat.mul_assoc]
  refine Nat.mul_le_mul_right _ ?_
  rw [put_eq];omega
def Wk (d:List UInt8) (i:Nat):Prop:=i<=d.length/\digs d/\d.length<=13
theorem Ew {d:List UInt8} (hd:digs d) (hl:d.length<=13) (i:Nat):val 0 (d.take i) < 10000000000000:=by
 have h:=yB (d.take i) 0 (λc hc=>hd c (List.mem_of_mem_take hc))
 refine Nat.lt_of_lt_of_le h ?_
 rw [Nat.zero_add,Nat.one_mul]
 exact Nat.pow_le_pow_right (by decide) (show (d.take i).length<=13 by rw [List.length_take];omega)
theorem wrap_u8 {n:Int} (h0:0<=n) (h1:n < 256):IntKind.wrap .u8 n=n:=by
 simp [IntKind.wrap,IntKind.bits,IntKind.signed];omega
def φR (L:List (List UInt8)):AV×List AO:=(Qn L,[])
def φ3 (x:List UInt8×List UInt8×List UInt8):AV×List AO:=(Qn [x.1,x.2.1,x.2.2],[])
def φP (b:Bool):AV×List AO:=(.tup [.arr 1 3 λ_=>[.num .i64],.bool b],[])
def mX (p:List UInt8):Bool:=bif bif (uQ p).2 !=0 then true else decide ((uQ p).1 < 0) then true else decide ((uQ p).1 > 999999)
def gY (s:List UInt8):Bool:=match Lib.split s [46] with
 | [a,b,c]=>!mX a&&(!mX b&&!mX c)
 | _=>false
theorem vu (sep:List UInt8):∀ (k:Nat) (s:List UInt8),∀p∈Lib.splitK sep 0 k s,p.length<=s.length
 | 0,s,p,h=>by simp [Lib.splitK] at h;subst h;exact Nat.le_refl _
 | k+1,s,p,h=>by
  unfold Lib.splitK at h
  split at h
  ·simp at h;subst h;exact Nat.le_refl _
  ·rcases List.mem_cons.1 h with rfl | h
   ·rw [List.length_take];exact Nat.min_le_right _ _
   ·have:=vu sep k _ p h
    rw [List.length_drop] at this;omega
instance:Inhabited St:=⟨{env:=[],objs:=[]}⟩
def Yq (s:List UInt8) (g2 g4:Nat->List AV) (at':Nat) (i from':Int):St:={env:=[(0,.str s),(2,.ref 2 0),(4,.ref 4 0),(5,.int .i64 at'),(6,.int .i64 i),(7,.int .i64 from')],objs:=[(2,.arr 1 3 g2),(4,.arr 1 3 g4)]}
def nx (l:List UInt8):Nat:=(l.takeWhile (· !=46)).length
theorem QX:nx []=0:=rfl
theorem Hy (l:List UInt8):nx (46::l)=0:=rfl
theorem Bl {b:UInt8} (h:b≠46) (l:List UInt8):nx (b::l)=nx l+1:=by
 unfold nx
 rw [List.takeWhile_cons_of_pos (by simpa using h)];rfl
theorem K7 (l:List UInt8):nx l<=l.length:=by
 induction l with
 | nil=>exact Nat.le_refl _
 | cons b l ih=>
  by_cases h:b=46
  ·subst h;rw [Hy];exact Nat.zero_le _
  ·rw [Bl h];simpa using ih
theorem DH (l:List UInt8):Lib.index l [46]=if nx l < l.length then (nx l:Int) else -1:=by
 induction l with
 | nil=>rfl
 | cons b l ih=>
  rw [Lib.index]
  by_cases h:b=46
  ·subst h;rw [Hy];simp
  ·have hp:([46]:List UInt8).isPrefixOf (b::l)=false:=by
    have:(46==b)=false:=by simpa using λe=>h e.symm
    simp [List.isPrefixOf,this]
   rw [hp,Bl h,ih]
   by_cases hl:nx l < l.length
   ·have:¬ ((nx l:Int) = -1):=by omega
    simp [hl,this]
   ·simp [hl]
theorem gG (l:List UInt8):Lib.split l [46]=if nx l < l.length then l.take (nx l)::Lib.split (l.drop (nx l+1)) [46] else [l]:=by
 unfold Lib.split
 by_cases h:nx l < l.length
 ·rw [if_pos h]
  have hi:Lib.index l [46]=((nx l:Nat):Int):=by rw [DH,if_pos h]
  rw [Lib.count_hit (by simp) hi,Nat.add_comm 1]
  have hb:(Lib.index l [46]==-1)=false:=by rw [hi];exact beq_eq_false_iff_ne.2 (by omega)
  have hk:∀k,Lib.splitK [46] 0 (k+1) l=if (Lib.index l [46]==-1)=true then [l] else l.take ((Lib.index l [46]).toNat+0)::Lib.splitK [46] 0 k (l.drop ((Lib.index l [46]).toNat+[(46:UInt8)].length)):=λk=>by rw [Lib.splitK]
  rw [hk,hb,hi]
  rfl
 ·rw [if_neg h]
  have hi:Lib.index l [46] = -1:=by rw [DH,if_neg h]
  rw [Lib.count_miss hi];rfl
theorem Ob {l:List UInt8} {i:Nat} (h:i < l.length) (hd:l.getD i 0≠46):nx (l.drop i)=nx (l.drop (i+1))+1:=by
 rw [List.drop_eq_getElem_cons h,Bl]
 have:l.getD i 0=l[i]:=by simp [List.getD,h]
 rwa [this] at hd
theorem Oa {l:List UInt8} {i:Nat} (h:i < l.length) (hd:l.getD i 0=46):nx (l.drop i)=0:=by
 have:l.getD i 0=l[i]:=by simp [List.getD,h]
 rw [List.drop_eq_getElem_cons h,<-this,hd,Hy]
abbrev QA:Type:=(Nat->List AV)×(Nat->List AV)×Nat×Int×Int
def QS (s:List UInt8) (a:QA):St:=Yq s a.1 a.2.1 a.2.2.1 a.2.2.2.1 a.2.2.2.2
def QI (s:List UInt8) (a:QA):Prop:=a.2.2.1<=s.length
theorem slT {a b n:Int} (h0:0<=a) (h1:a<=b) (h2:b<=n):(decide (0<=a)&&(decide (a<=b)&&decide (b<=n)))=true:=by
 rw [decide_eq_true h0,decide_eq_true h1,decide_eq_true h2];rfl
theorem QG {s:List UInt8} (h:¬ nx s < s.length):gY s=false:=by
 unfold gY;rw [gG,if_neg h]
theorem QF {s r:List UInt8} (h:nx s < s.length) (hr:s.drop (nx s+1)=r) (h2:¬ nx r < r.length):gY s=false:=by
 unfold gY;rw [gG,if_pos h,hr,gG,if_neg h2]
theorem QE {s r q:List UInt8} (h:nx s < s.length) (hr:s.drop (nx s+1)=r) (h2:nx r < r.length) (hq:r.drop (nx r+1)=q) (h3:nx q < q.length):gY s=false:=by
 unfold gY;rw [gG,if_pos h,hr,gG,if_pos h2,hq,gG q,if_pos h3,gG (q.drop _)]
 split <;> rename_i he
 ·split at he <;> simp at he
 ·rfl
theorem QD {s r q:List UInt8} (h:nx s < s.length) (hr:s.drop (nx s+1)=r) (h2:nx r < r.length) (hq:r.drop (nx r+1)=q) (h3:¬ nx q < q.length) :
  gY s=(!mX (s.take (nx s))&&(!mX (r.take (nx r))&&!mX q)):=by
 unfold gY;rw [gG,if_pos h,hr,gG,if_pos h2,hq,gG q,if_neg h3]
structure VAL where
 kind:Int
 num:Int
 text:List UInt8
 list:List (List UInt8)
def VAL.c (v:VAL):List AV:=[.int .i64 v.kind,.int .i64 v.num,.str v.text,cr v.list]
def Y1 (v:VAL) (i:Nat):St:={env:=[(1,.ref 1 0),(64,cr v.list),(65,.int .i64 v.list.length),(66,.int .i64 i)],objs:=[(1,.cells v.c)]}
def Y2 (v:VAL) (i:Nat):St:={env:=[(1,.ref 1 0),(76,.int .i64 v.list.length),(77,.int .i64 i)],objs:=[(1,.cells v.c)]}
def FW (l:List (List UInt8)):Bool×Unit:=seek l.length (·+1) (λi=>!df (l.getD i [])) ()
def zn (l:List (List UInt8)):Bool×Unit:=seek l.length (·+1) (λi=>decide (0 < i)&&!aG (l.getD (i - 1) []) (l.getD i [])) ()
def bR (l:List (List UInt8)):Int:=bif decide (l.length > 20) then 5 else bif (FW l).1 then 2 else bif (zn l).1 then 9 else 0
def jl (v:VAL):Bool:=bif decide (v.kind<=2) then v.text==[]&&v.list.length==0 else bif decide (v.kind<=4) then v.num==0&&v.list.length==0 else v.num==0&&v.text==[]
def cy (v:VAL):Int:=
 bif decide (v.kind < 1)||decide (v.kind > 5) then 7 else bif !jl v then 15 else
 bif v.kind==1 then (bif v.num !=0&&v.num !=1 then 3 else 0) else
 bif v.kind==2 then (bif decide (v.num < -1099511627776)||decide (v.num > 1099511627776) then 3 else 0) else
 bif v.kind==3 then (bif !df v.text then 2 else 0) else
 bif v.kind==4 then (bif !gY v.text then 1 else 0) else bR v.list
def VAL.Ok (v:VAL):Prop:=v.text.length<=1048576/\jj v.list
def Z2 (l:List (List UInt8)) (i:Nat):St:={env:=[(0,cr l),(4,.int .i64 (1+i:Nat))],objs:=[]}
theorem BG:∀ (x y:List UInt8),(aG y x||y==x)=!aG x y
 | [],[]=>rfl
 | [],b::y=>rfl
 | a::x,[]=>rfl
 | a::x,b::y=>by
  have ih:=BG x y
  show ((decide (b < a)||(b==a&&aG y x))||b::y==a::x)=!(decide (a < b)||(a==b&&aG x y))
  have e:(b::y==a::x)=(b==a&&y==x):=rfl
  rw [e]
  by_cases h1:a=b
  ·subst h1
   have n1:decide (a < a)=false:=decide_eq_false (by simp)
   rw [n1,show (a==a)=true by simp]
   simpa using ih
  ·have h2:(a==b)=false:=by simpa using h1
   have h3:(b==a)=false:=by simpa using λh=>h1 h.symm
   rw [h2,h3]
   have hn:a.toNat≠b.toNat:=λh=>h1 (UInt8.toNat_inj.1 h)
   by_cases h4:a < b
   ·have h5:¬ b < a:=by rw [UInt8.lt_iff_toNat_lt] at *;omega
    rw [decide_eq_true h4,decide_eq_false h5];rfl
   ·have h5:b < a:=by rw [UInt8.lt_iff_toNat_lt] at *;omega
    rw [decide_eq_false h4,decide_eq_true h5];rfl
theorem EG (n:Nat) (p q:Nat->Bool) (hpq:∀i,q (i+1)=p i):∀d i,n - i<=d->
  (bp (n+1) (·+1) (λj=>bif q j then some () else none) (i+1)).1=(bp n (·+1) (λj=>bif p j then some () else none) i).1:=by
 intro d
 induction d with
 | zero=>intro i h;rw [bI _ _ _ (by omega),bI _ _ _ (by omega)]
 | succ d ih=>
  intro i h
  by_cases hi:i < n
  ·rw [da (λi _=>Nat.lt_succ_self i) (show i+1 < n+1 by omega),da (λi _=>Nat.lt_succ_self i) hi,hpq]
   cases p i with
   | true=>rfl
   | false=>exact ih (i+1) (by omega)
  ·rw [bI _ _ _ (by omega),bI _ _ _ (by omega)]
def Bh (l:List (List UInt8)):Bool×Unit:=seek (l.length - 1) (·+1) (λi=>!aG (l.getD i []) (l.getD (1+i) [])) ()
theorem Hx (l:List (List UInt8)):(zn l).1=(Bh l).1:=by
 unfold zn Bh seek
 cases l with
 | nil=>rfl
 | cons a r=>
  rw [da (λi _=>Nat.lt_succ_self i) (show 0 < (a::r).length by simp)]
  refine Eq.trans ?_ (EG r.length (λi=>!aG ((a::r).getD i []) ((a::r).getD (1+i) [])) (λi=>decide (0 < i)&&!aG ((a::r).getD (i - 1) []) ((a::r).getD i [])) (λi=>?_) r.length 0 (by omega))
  ·rfl
  ·simp only [Nat.add_sub_cancel,Nat.add_comm 1 i]
   rw [decide_eq_true (Nat.succ_pos i)];rfl
instance:Inhabited VAL:=⟨⟨0,0,[],[]⟩⟩
def jP (l:List VAL):AV:=.sl .no 4 l.length λj=>(l.getD j default).c
def LC (op:Int) (kind name:List UInt8) (vs:List VAL) (n:Nat) (kids:Nat->List AV):List AV:=[.int .i64 op,.str kind,.str name,jP vs,.sl .no 5 n kids]
inductive EXP where
 | mk (op:Int) (kind name:List UInt8) (vals:List VAL) (kids:List EXP)
instance:Inhabited EXP:=⟨.mk 0 [] [] [] []⟩
def dC:List AV:=LC 0 [] [] [] 0 λ_=>[]
namespace EXP
def op:EXP->Int | .mk o _ _ _ _=>o
def kind:EXP->List UInt8 | .mk _ k _ _ _=>k
def name:EXP->List UInt8 | .mk _ _ n _ _=>n
def vals:EXP->List VAL | .mk _ _ _ v _=>v
def kids:EXP->List EXP | .mk _ _ _ _ k=>k
mutual
def c:EXP->List AV | .mk o k n v ks=>LC o k n v ks.length λj=>(cs ks).getD j dC
def cs:List EXP->List (List AV)
 | []=>[]
 | e::r=>c e::cs r
end
theorem RY:∀l:List EXP,cs l=l.map c
 | []=>by rw [cs];rfl
 | e::r=>by rw [cs,RY r];rfl
def row (l:List EXP) (j:Nat):List AV:=(l.map c).getD j dC
theorem yu (e:EXP):e.c=LC e.op e.kind e.name e.vals e.kids.length (row e.kids):=by
 cases e with
 | mk o k n v ks=>rw [c,RY];rfl
theorem vz {l:List EXP} {j:Nat} (h:j < l.length):row l j=(l.getD j default).c:=by
 unfold row
 simp [List.getD,h]
end EXP
def kS (e:EXP):Bool:=e.op==0&&(e.kind==[]&&(e.name==[]&&(e.vals.length==0&&e.kids.length==0)))
theorem dx (n:Nat):((n:Int)==0)=(n==0):=by
 by_cases h:n=0
 ·rw [h];rfl
 ·rw [beq_eq_false_iff_ne.2 h,beq_eq_false_iff_ne.2 (by omega)]
structure PART where
 op:Int
 kind:List UInt8
 name:List UInt8
 vals:List VAL
 n:Nat
 ko:Nat->Int
 kk:Nat->List UInt8
 kn:Nat->List UInt8
 kv:Nat->List VAL
 km:Nat->Nat
 kg:Nat->Nat->List AV
def PART.c (p:PART):List AV:=[.int .i64 p.op,.str p.kind,.str p.name,jP p.vals,.sl .no 5 p.n λj=>[.int .i64 (p.ko j),.str (p.kk j),.str (p.kn j),jP (p.kv j),.sl .no 5 (p.km j) (p.kg j)] ]
def X1 (p:PART) (i:Nat):St:={env:=[(2,.ref 2 0),(35,.sl .no 5 p.n λj=>[.int .i64 (p.ko j),.str (p.kk j),.str (p.kn j),jP (p.kv j),.sl .no 5 (p.km j) (p.kg j)]),(36,.int .i64 p.n),(37,.int .i64 i)],objs:=[(2,.cells p.c)]}
def X2 (p:PART) (i:Nat):St:={env:=[(2,.ref 2 0),(83,jP p.vals),(84,.int .i64 p.vals.length),(85,.int .i64 i)],objs:=[(2,.cells p.c)]}
theorem fu {a b:List (List UInt8)} (h:cr a=cr b):a=b:=by
 unfold cr at h
 simp only [AV.sl.injEq,true_and] at h
 obtain ⟨h1,h2⟩:=h
 apply List.ext_getElem h1
 intro i hi hj
 have:=congrFun h2 i
 simpa [List.getD,hi,hj] using this
theorem VAL.br {a b:VAL} (h:a.c=b.c):a=b:=by
 obtain ⟨k,n,t,l⟩:=a
 obtain ⟨k',n',t',l'⟩:=b
 simp only [VAL.c,List.cons.injEq,AV.int.injEq,AV.str.injEq,true_and,and_true] at h
 obtain ⟨rfl,rfl,rfl,h⟩:=h
 rw [fu h]
def vl (l:List VAL):Prop:=l.length<=4611686018427387904/\∀v∈l,v.Ok
theorem vl.at {l:List VAL} (h:vl l) {i:Nat} (hi:i < l.length):(l.getD i default).Ok:=by
 rw [List.getD_eq_getElem?_getD,List.getElem?_eq_getElem hi]
 exact h.2 _ (List.getElem_mem hi)
def kr (l:List VAL) (i:Nat):Option Int:=bif cy (l.getD i default) !=0 then some (cy (l.getD i default)) else none
def ji (l:List VAL):Bool×Int:=bp l.length (·+1) (kr l) 0
def jK (p:PART) (b:Bool):Bool×Unit:=seek p.n (·+1) (λi=>bif p.ko i==p.op then b else false) ()
def ee (op:Int):Bool:=bif decide (op≥6) then decide (op<=15) else false
def fh (op:Int):Bool:=bif op==2 then true else op==3
def cZ (op:Int):Bool:=bif bif op==9 then true else op==10 then true else op==11
def countB (p:PART):Bool:=
 (bif fh p.op then decide (p.n≥2) else bif p.op==4 then p.n==1 else p.n==0) &&
 ((ee p.op||(p.kind==[]&&(p.name==[]||p.op==5))) &&
 (bif p.op==8 then decide (p.vals.length > 0) else bif ee p.op&&p.op !=6 then p.vals.length==1 else p.vals.length==0))
def jZ (p:PART):Int:=
 bif decide (p.op < 1)||decide (p.op > 15) then 7 else bif !countB p then 15 else
 bif decide (p.n > 12)||decide (p.vals.length > 20) then 5 else
 bif (jK p (fh p.op)).1 then 15 else
 bif (ee p.op&&!ea p.kind)||((ee p.op||p.op==5)&&!ea p.name) then 6 else
 bif (ji p.vals).1 then (ji p.vals).2 else
 bif cZ p.op&&(p.vals.getD 0 default).kind !=3 then 8 else 0
def PART.Ok (p:PART):Prop:=jg p.kind/\jg p.name/\vl p.vals/\p.n<=4611686018427387904
theorem dI (a b:Int) (c d:Prop) [Decidable c] [Decidable d] (h:c↔d):decide c=decide d:=by
 by_cases x:c
 ·rw [decide_eq_true x,decide_eq_true (h.1 x)]
 ·rw [decide_eq_false x,decide_eq_false (λy=>x (h.2 y))]
theorem DM (n:Nat):decide ((n:Int) > 0)=!(n==0):=by
 by_cases h:n=0
 ·subst h;rfl
 ·rw [decide_eq_true (by omega),beq_eq_false_iff_ne.2 h];rfl
theorem H5 (n:Nat):decide (n > 0)=!(n==0):=by
 by_cases h:n=0
 ·subst h;rfl
 ·rw [decide_eq_true (by omega),beq_eq_false_iff_ne.2 h];rfl
theorem mm (n:Nat):((n:Int)==1)=(n==1):=by
 by_cases h:n=1
 ·subst h;rfl
 ·rw [beq_eq_false_iff_ne.2 h,beq_eq_false_iff_ne.2 (by omega)]
theorem oM (n:Nat):decide ((n:Int) > 12)=decide (n > 12):=tM n 12
theorem oL (n:Nat):decide ((n:Int) > 20)=decide (n > 20):=tM n 20
theorem Lt (n:Nat):decide ((n:Int)≥2)=decide (n≥2):=by
 by_cases h:n≥2
 ·rw [decide_eq_true h,decide_eq_true (by omega)]
 ·rw [decide_eq_false h,decide_eq_false (by omega)]
theorem qP (p:PART) (b:Bool) (h:p.n=0):(jK p b).1=false:=by
 unfold jK seek
 rw [bI _ _ _ (by omega)]
namespace EXP
def x (e:EXP):List AV:=LC e.op e.kind e.name e.vals e.kids.length (row e.kids)
theorem FI (e:EXP):e.x=e.c:=e.yu.symm
def kid (e:EXP) (j:Nat):EXP:=e.kids.getD j default
def part (e:EXP):PART:=⟨e.op,e.kind,e.name,e.vals,e.kids.length,λj=>(e.kid j).op,λj=>(e.kid j).kind,λj=>(e.kid j).name,λj=>(e.kid j).vals,λj=>(e.kid j).kids.length,λj=>bif Nat.blt j e.kids.length then row (e.kid j).kids else λ_=>[]⟩
theorem ca (e:EXP):e.part.c=e.c:=by
 rw [yu]
 unfold PART.c LC part
 simp only [List.cons.injEq,AV.sl.injEq,true_and,and_true]
 funext j
 by_cases h:j < e.kids.length
 ·rw [k9 h,vz h,yu]
  rfl
 ·have hb:Nat.blt j e.kids.length=false:=by
   cases e':Nat.blt j e.kids.length with
   | false=>rfl
   | true=>exact absurd (ltB e') h
  rw [hb]
  unfold kid row
  simp only [List.getD,List.getElem?_map,List.getElem?_eq_none (Nat.le_of_not_lt h),Option.map_none,Option.getD_none,cond_false]
  rfl
theorem wH {a b:List VAL} (h:jP a=jP b):a=b:=by
 unfold jP at h
 simp only [AV.sl.injEq,true_and] at h
 obtain ⟨h1,h2⟩:=h
 apply List.ext_getElem h1
 intro i hi hj
 have:=congrFun h2 i
 simp only [List.getD,List.getElem?_eq_getElem hi,List.getElem?_eq_getElem hj,Option.getD_some] at this
 exact VAL.br this
theorem br:∀ (a b:EXP),a.c=b.c->a=b
 | .mk o k n v ks,.mk o' k' n' v' ks',h=>by
  rw [yu,yu] at h
  unfold LC at h
  simp only [List.cons.injEq,AV.int.injEq,AV.str.injEq,AV.sl.injEq,true_and,and_true] at h
  obtain ⟨h1,h2,h3,h4,h5,h6⟩:=h
  replace h4:=wH h4
  simp only [op,kind,name,vals,kids] at h1 h2 h3 h4 h5 h6
  subst h1 h2 h3 h4
  have hk:ks=ks':=List.ext_getElem h5 λj j1 j2=>by
   have hm:=List.sizeOf_lt_of_mem (List.getElem_mem j1)
   have:=congrFun h6 j
   rw [vz j1,vz j2] at this
   simp only [List.getD,List.getElem?_eq_getElem j1,List.getElem?_eq_getElem j2,Option.getD_some] at this
   exact br _ _ this
  rw [hk]
 termination_by a=>SizeOf.sizeOf a
 decreasing_by simp_wf;omega
inductive Ok:EXP->Prop
 | mk (e:EXP):jg e.kind->jg e.name->vl e.vals->e.kids.length<=1048576->(∀k∈e.kids,Ok k)->Ok e
theorem Ok.part {e:EXP} (h:e.Ok):e.part.Ok:=by
 cases h with
 | mk _ h1 h2 h3 h4 _=>exact ⟨h1,h2,h3,by show e.kids.length<=_;omega⟩
theorem Ok.kid {e:EXP} (h:e.Ok) {j:Nat} (hj:j < e.kids.length):(e.kid j).Ok:=by
 cases h with
 | mk _ h1 h2 h3 h4 h5=>
  unfold EXP.kid
  rw [List.getD_eq_getElem?_getD,List.getElem?_eq_getElem hj]
  exact h5 _ (List.getElem_mem hj)
end EXP
def fH (e:EXP) (d:Nat):Int:=bif decide (d≥10) then 18 else jZ e.part
mutual
def gS:EXP->Nat->Nat->Int×Nat
 | .mk o k nm v ks,d,n=>bif decide (n≥60) then (5,n) else bif fH (.mk o k nm v ks) d !=0 then (fH (.mk o k nm v ks) d,n+1) else jN ks (d+1) (n+1)
def jN:List EXP->Nat->Nat->Int×Nat
 | [],_,n=>(0,n)
 | e::r,d,n=>bif (gS e d n).1 !=0 then gS e d n else jN r d (gS e d n).2
end
theorem Cz (e:EXP) (d n:Nat):gS e d n=bif decide (n≥60) then (5,n) else bif fH e d !=0 then (fH e d,n+1) else jN e.kids (d+1) (n+1):=by
 cases e with
 | mk o k nm v ks=>rw [gS];rfl
def AG (l:List EXP) (d i n:Nat):Int×Nat:=jN (l.drop i) d n
theorem yz (l:List EXP) (d n:Nat) {i:Nat} (h:¬ i < l.length):AG l d i n=(0,n):=by
 unfold AG
 rw [List.drop_eq_nil_of_le (by omega),jN]
theorem vk (l:List EXP) (d n:Nat) {i:Nat} (h:i < l.length):AG l d i n=bif (gS (l.getD i default) d n).1 !=0 then gS (l.getD i default) d n else AG l d (i+1) (gS (l.getD i default) d n).2:=by
 unfold AG
 rw [List.drop_eq_getElem_cons h,jN]
 simp only [List.getD,List.getElem?_eq_getElem h,Option.getD_some]
def gq (e:EXP):Int:=(gS e 0 0).1
mutual
def Wg:EXP->Bool
 | .mk o k nm v ks=>(bif decide (ks.length+v.length < 200) then Vs ks else false)||decide (ks.length+v.length≥200)
def Vs:List EXP->Bool
 | []=>false
 | e::r=>Wg e||Vs r
end
structure SERVE where
 var:Int
 kind:List UInt8
 by':List UInt8
 salt:List UInt8
 split:List (Int×Int×Int)
def SERVE.c (v:SERVE):List AV:=[.int .i64 v.var,.str v.kind,.str v.by',.str v.salt,ou v.split]
def SERVE.Ok (v:SERVE):Prop:=jg v.kind/\jg v.by'/\jg v.salt/\v.split.length<=4611686018427387904
def cB (v:SERVE) (n:Int):Int:=
 bif v.var !=0 then (bif decide (v.var < 1)||decide (v.var > n) then 3 else
  bif !(v.kind==[])||(!(v.by'==[])||(!(v.salt==[])||decide ((v.split.length:Int) > 0))) then 15 else 0)
 else bif !ea v.kind||!ea v.by' then 6 else bif !df v.salt then 2 else eI v.split n
section
end
structure PRQ where
 flag:List UInt8
 var:Int
instance:Inhabited PRQ:=⟨⟨[],0⟩⟩
def PRQ.c (p:PRQ):List AV:=[.str p.flag,.int .i64 p.var]
def Mo (l:List PRQ):AV:=.sl .no 2 l.length λj=>(l.getD j default).c
structure TGT where
 kind:List UInt8
 var:Int
 keys:List (List UInt8)
instance:Inhabited TGT:=⟨⟨[],0,[]⟩⟩
def TGT.c (p:TGT):List AV:=[.str p.kind,.int .i64 p.var,cr p.keys]
def M5 (l:List TGT):AV:=.sl .no 3 l.length λj=>(l.getD j default).c
instance:Inhabited SERVE:=⟨⟨0,[],[],[],[]⟩⟩
structure RULE where
 name:List UInt8
 when:EXP
 serve:SERVE
instance:Inhabited RULE:=⟨⟨[],default,default⟩⟩
def RULE.c (p:RULE):List AV:=[.str p.name,.int .i64 p.when.op,.str p.when.kind,.str p.when.name,jP p.when.vals,.sl .no 5 p.when.kids.length (EXP.row p.when.kids),.int .i64 p.serve.var,.str p.serve.kind,.str p.serve.by',.str p.serve.salt,ou p.serve.split]
def nG (l:List RULE):AV:=.sl .no 11 l.length λj=>(l.getD j default).c
structure FLAG where
 key:List UInt8
 kind:Int
 vars:List VAL
 on:Bool
 off:Int
 prqs:List PRQ
 tgts:List TGT
 rules:List RULE
 dflt:SERVE
def FLAG.c (f:FLAG):List AV:=[.str f.key,.int .i64 f.kind,jP f.vars,.bool f.on,.int .i64 f.off,Mo f.prqs,M5 f.tgts,nG f.rules,.int .i64 f.dflt.var,.str f.dflt.kind,.str f.dflt.by',.str f.dflt.salt,ou f.dflt.split]
structure SEG where
 key:List UInt8
 kind:List UInt8
 incl:List (List UInt8)
 excl:List (List UInt8)
 when:EXP
def SEG.c (g:SEG):List AV:=[.str g.key,.str g.kind,cr g.incl,cr g.excl,.int .i64 g.when.op,.str g.when.kind,.str g.when.name,jP g.when.vals,.sl .no 5 g.when.kids.length (EXP.row g.when.kids)]
structure LAYER where
 key:List UInt8
 kind:List UInt8
 salt:List UInt8
 hold:Int
 cool:Int
 cooling:List (Int×Int×Int)
def LAYER.c (l:LAYER):List AV:=[.str l.key,.str l.kind,.str l.salt,.int .i64 l.hold,.int .i64 l.cool,ou l.cooling]
structure EXPT where
 key:List UInt8
 layer:List UInt8
 flag:List UInt8
 salt:List UInt8
 status:Int
 claims:List (Int×Int)
 arms:List (Int×Int×Int)
 when:EXP
def EXPT.c (x:EXPT):List AV:=[.str x.key,.str x.layer,.str x.flag,.str x.salt,.int .i64 x.status,AP x.claims,ou x.arms,.int .i64 x.when.op,.str x.when.kind,.str x.when.name,jP x.when.vals,.sl .no 5 x.when.kids.length (EXP.row x.when.kids)]
def okL {α:Type} (P:α->Prop) (l:List α):Prop:=l.length<=1048576/\∀v∈l,P v
theorem okL.at {α:Type} [Inhabited α] {P:α->Prop} {l:List α} (h:okL P l) {i:Nat} (hi:i < l.length):P (l.getD i default):=by
 rw [List.getD_eq_getElem?_getD,List.getElem?_eq_getElem hi]
 exact h.2 _ (List.getElem_mem hi)
theorem okL.big {α:Type} {P:α->Prop} {l:List α} (h:okL P l):l.length<=4611686018427387904:=Nat.le_trans h.1 (by omega)
def TGT.Ok (t:TGT):Prop:=jg t.kind/\jj t.keys
def RULE.Ok (r:RULE):Prop:=jg r.name/\r.when.Ok/\r.serve.Ok
def FLAG.Ok (f:FLAG):Prop:=jg f.key/\okL VAL.Ok f.vars/\okL (λp:PRQ=>jg p.flag) f.prqs/\okL TGT.Ok f.tgts/\okL RULE.Ok f.rules/\f.dflt.Ok
def SEG.Ok (g:SEG):Prop:=jg g.key/\jg g.kind/\jj g.incl/\jj g.excl/\g.when.Ok
def LAYER.Ok (l:LAYER):Prop:=jg l.key/\jg l.kind/\jg l.salt/\l.cooling.length<=1048576
def EXPT.Ok (x:EXPT):Prop:=jg x.key/\jg x.layer/\jg x.flag/\jg x.salt/\x.claims.length<=1048576/\x.arms.length<=1048576/\x.when.Ok
def φW (x:Int×Nat):AV×List AO:=(.int .i64 x.1,[.cells [.int .i64 x.2] ])
def rI (p:PART):AV:=.sl .no 5 p.n λj=>[.int .i64 (p.ko j),.str (p.kk j),.str (p.kn j),jP (p.kv j),.sl .no 5 (p.km j) (p.kg j)]
def vO (p:PART) (j:Nat):List AV:=[.int .i64 (p.ko j),.str (p.kk j),.str (p.kn j),jP (p.kv j),.sl .no 5 (p.km j) (p.kg j)]
def vd (n:Int):AO:=.cells [.int .i64 n]
def E1 (p:PART) (d i n:Nat):St:={env:=[(1,.int .i64 d),(2,.ref aa 0),(27,rI p),(28,.int .i64 p.n),(29,.int .i64 i)],objs:=[(aa,vd n)]}
def E2 (p:PART) (d i n:Nat):St:={env:=[(1,.int .i64 (d+1:Nat)),(2,.ref aa 0),(3,.ref 3 0),(8,.int .i64 i)],objs:=[(3,.cells p.c),(aa,vd n)]}
theorem iZ {e:EXP} {j:Nat} (h:j < e.kids.length):vO e.part j=(e.kid j).c:=by
 rw [EXP.yu]
 unfold vO EXP.part
 simp only [k9 h]
 rfl
theorem HY {e:EXP} {j:Nat} (h:j < e.kids.length):e.kid j∈e.kids:=by
 unfold EXP.kid
 rw [List.getD_eq_getElem?_getD,List.getElem?_eq_getElem h]
 exact List.getElem_mem h
theorem SK (n:Nat):decide ((n:Int)≥60)=decide (n≥60):=by
 by_cases h:n≥60
 ·rw [decide_eq_true h,decide_eq_true (by omega)]
 ·rw [decide_eq_false h,decide_eq_false (by omega)]
instance:Inhabited (Int×Nat):=⟨(0,0)⟩
section
variable (z:Nat)
def wA (x:EXP×Nat×Nat):List AV:=[.agg x.1.c,.int .i64 (x.2.1+z:Nat),.ref aa 0]
def wO (x:EXP×Nat×Nat):List AO:=[vd x.2.2]
def wW (x:EXP×Nat×Nat):Int×Nat:=gS x.1 x.2.1 x.2.2
theorem VO (a b:EXP×Nat×Nat) (h:wA z a=wA z b) (h':wO a=wO b):wW a=wW b:=by
 obtain ⟨e,d,n⟩:=a
 obtain ⟨e',d',n'⟩:=b
 simp only [wA,wO,vd,List.cons.injEq,AV.agg.injEq,AV.int.injEq,AO.cells.injEq,true_and,and_true] at h h'
 obtain ⟨h1,h2⟩:=h
 have h1:=EXP.br _ _ h1
 have h2:d=d':=by omega
 have h3:n=n':=by omega
 subst h1 h2 h3;rfl
end
theorem Ok.len {e:EXP} (h:e.Ok):e.kids.length<=1048576:=by cases h with | mk _ h1 h2 h3 h4 h5=>exact h4
theorem Ok.vals {e:EXP} (h:e.Ok):vl e.vals:=by cases h with | mk _ h1 h2 h3 h4 h5=>exact h3
end Go.SH
namespace Go.SM
open Go Go.Ab Go.Proofs Go.SH
def exL (l:List EXP):AV:=.sl .no 5 l.length (EXP.row l)
def QS (x y:AV) (i:Nat):St:={env:=[(0,x),(1,y),(5,.int .i64 i)],objs:=[]}
def QI (x:AV) (c:List AV) (i:Nat):St:={env:=[(0,x),(3,.ref 3 0),(5,.int .i64 i)],objs:=[(3,.cells c)]}
def yn (b:Bool) (k:Ex->St->Res):Res:=cond b (k (.exit 0) {env:=[],objs:=[]}) (k .ret {env:=[(4,.bool false)],objs:=[]})
def VS (b:Bool×Nat) (k:Ex->St->Res):Res:=cond b.1 (k (.exit 0) {env:=[],objs:=[]}) (k .ret {env:=[(4,.int .i64 b.2)],objs:=[]})
def φI' (b:Int):AV×List AO:=(.int .i64 b,[])
theorem Rc (n m:Nat):(((n:Int) !=(m:Int))=false)->n=m:=λh=>by
 have:(n:Int)=m:=by simpa using h
 omega
abbrev pP:List Nat:=[1,1,0,1,0]
def zA (x:VAL×VAL):List AV:=[.agg x.1.c,.agg x.2.c]
def lp (l:List EXP):PART:=(EXP.mk 0 [] [] [] l).part
theorem pO (l:List EXP):rI (lp l)=exL l:=by
 have:=EXP.ca (.mk 0 [] [] [] l)
 rw [EXP.yu] at this
 unfold PART.c LC at this
 simp only [List.cons.injEq,true_and,and_true] at this
 exact this.2.2.2.2
theorem tG {l:List EXP} {j:Nat} (h:j < l.length):vO (lp l) j=(l.getD j default).c:=iZ (e:=.mk 0 [] [] [] l) h
def eA (x:EXP×EXP):List AV:=[.agg x.1.c,.agg x.2.c]
theorem dZ {l:List EXP} {j:Nat} (h:j < l.length):l.getD j default∈l:=by
 rw [List.getD_eq_getElem?_getD,List.getElem?_eq_getElem h]
 exact List.getElem_mem h
def vA (x:List VAL×List VAL):List AV:=[jP x.1,jP x.2]
def wA (x:List EXP×List EXP):List AV:=[exL x.1,exL x.2]
def UT (x:STO×Int) (k:Ex->St->Res):Res:=k (.exit 1) {env:=[(7,.int .i64 x.2)],objs:=[(1000000,stC x.1),(1000001,.own 3 x.1.n),(1000002,stM x.1)]}
inductive KOk:EXP->Prop
 | mk (e:EXP):(e.op=2∨e.op=3∨e.op=4->0 < e.kids.length)->e.kids.length<=1048576->(∀k∈e.kids,KOk k)->KOk e
def dO (x:STO×EXP):List AO:=STO.objs x.1
def dI (e:EXP) (s0:STO) (x:STO×Int×Nat):Prop:=x.1.Ok/\Ext s0 x.1/\x.2.2<=e.kids.length
def φA (l:List EXP):AV×List AO:=(exL l,[])
def AS (x:AV) (cs:List AV) (i:Nat):St:={env:=[(0,x),(3,.ref 3 0),(5,.int .i64 i)],objs:=[(3,.cells cs)]}
def A0 (x:AV) (cs:List AV) (n:Nat):St:={env:=[(0,x),(3,.ref 3 0)],objs:=[(3,.cells cs),(21,.own 5 n)]}
def VT (l:List EXP) (k:Ex->St->Res):Res:=k (.exit 0) {env:=[(0,exL l)],objs:=[]}
def WL (x:List EXP×EXP):St:=A0 (exL (x.1++[x.2])) x.2.part.c (0+x.1.length+1)
def RS (x:AV) (l:AV) (i:Nat):St:={env:=[(0,x),(3,l),(4,.int .i64 i)],objs:=[]}
end Go.SM
namespace Go.SH
open Go Go.Ab Go.Proofs
mutual
def EXP.size:EXP->Nat
 | .mk _ _ _ _ ks=>1+cG ks
def cG:List EXP->Nat
 | []=>0
 | e::r=>e.size+cG r
end
theorem EXP.size_eq (e:EXP):e.size=1+cG e.kids:=by cases e with | mk _ _ _ _ ks=>rw [EXP.size];rfl
inductive VE:Nat->EXP->Prop
 | mk (l:Nat) (e:EXP):jZ e.part=0->(∀k∈e.kids,VE l k)->VE (l+1) e
theorem VE.up {l:Nat} {e:EXP} (h:VE l e):VE (l+1) e:=by
 induction h with
 | mk l e h1 h2 ih=>exact .mk _ _ h1 ih
theorem VE.le {l m:Nat} {e:EXP} (h:VE l e) (hm:l<=m):VE m e:=by
 obtain ⟨d,rfl⟩:∃d,m=l+d:=⟨m - l,by omega⟩
 clear hm
 induction d with
 | zero=>exact h
 | succ d ih=>exact ih.up
mutual
def IT:EXP->Nat->Nat
 | .mk _ _ _ _ ks,n=>Al ks (n+1)
def Al:List EXP->Nat->Nat
 | [],n=>n
 | e::r,n=>bif decide (n > 60) then n else Al r (IT e n)
end
mutual
theorem IQ:∀ (e:EXP) (n:Nat),n<=60->IT e n=min (n+e.size) 61
 | .mk o k nm v ks,n,h=>by
  rw [IT,EXP.size,wo ks (n+1) (by omega)];congr 1;omega
theorem wo:∀ (ks:List EXP) (n:Nat),n<=61->Al ks n=min (n+cG ks) 61
 | [],n,h=>by rw [Al,cG];omega
 | e::r,n,h=>by
  rw [Al,cG]
  by_cases hn:n > 60
  ·rw [decide_eq_true hn];show n=_;omega
  ·rw [decide_eq_false hn,cond_false,IQ e n (by omega),wo r _ (by omega)];omega
end
mutual
def A1:EXP->Nat
 | .mk _ _ _ _ ks=>min (GP ks 1) 61
def GP:List EXP->Nat->Nat
 | [],n=>n
 | e::r,n=>bif decide (n<=60) then GP r (n+A1 e) else n
end
mutual
theorem EK:∀ (e:EXP),A1 e=min e.size 61
 | .mk o k nm v ks=>by rw [A1,EXP.size,Dg ks 1]
theorem Dg:∀ (ks:List EXP) (n:Nat),min (GP ks n) 61=min (n+cG ks) 61
 | [],n=>by rw [GP,cG];omega
 | e::r,n=>by
  rw [GP,cG]
  by_cases hn:n<=60
  ·rw [decide_eq_true hn,cond_true,Dg r,EK e];omega
  ·rw [decide_eq_false hn,cond_false];omega
end
def VV (e:EXP):EXP:=.mk 4 [] [] [] [e]
end Go.SH
namespace Go.SM
open Go Go.Ab Go.Proofs Go.SH
theorem Ip {a b:List EXP} (h:exL a=exL b):a=b:=by
 unfold exL at h
 simp only [AV.sl.injEq,true_and] at h
 obtain ⟨h1,h2⟩:=h
 apply List.ext_getElem h1
 intro i hi hj
 have:=congrFun h2 i
 rw [EXP.vz hi,EXP.vz hj] at this
 simp only [List.getD,List.getElem?_eq_getElem hi,List.getElem?_eq_getElem hj,Option.getD_some] at this
 exact EXP.br _ _ this
def mA (x:List EXP×EXP):List AV:=[exL x.1,.agg x.2.c]
theorem Q9 {a b:List EXP×EXP} (h:mA a=mA b):a=b:=by
 obtain ⟨l,e⟩:=a
 obtain ⟨l',e'⟩:=b
 simp only [mA,List.cons.injEq,AV.agg.injEq,and_true] at h
 rw [Ip h.1,EXP.br _ _ h.2]
def lu (l:List EXP):Prop:=∀a∈l,a.Ok
def eV (x:List EXP×EXP) (r:List EXP):Prop:=lu r/\r.length<=x.1.length+x.2.size
def KS (x:List EXP×EXP):St:=A0 (.sl (.key 21) 5 (0+x.1.length+1) (af (0+x.1.length) 1 (af 0 x.1.length (λ_=>[]) (EXP.row x.1)) (ae [.int .i64 0,.str [],.str [],.sl .fit 0 0 λ_=>[],.sl .fit 0 0 λ_=>[] ] [(0,.agg x.2.part.c)]))) x.2.part.c (0+x.1.length+1)
theorem GZ (l:List EXP) (e:EXP) {j:Nat} (hj:j < 0+l.length+1):EXP.row (l++[e]) j=af (0+l.length) 1 (af 0 l.length (λ_=>[]) (EXP.row l)) (ae [.int .i64 0,.str [],.str [],.sl .fit 0 0 λ_=>[],.sl .fit 0 0 λ_=>[] ] [(0,.agg e.part.c)]) j:=by
 rw [Nat.zero_add] at hj ⊢
 unfold af
 by_cases h:j < l.length
 ·rw [k9 h,jd (Nat.zero_le j),k9 (show j < 0+l.length by omega),cond_true,cond_false,cond_true,Nat.sub_zero]
  unfold EXP.row
  simp [List.getD,List.getElem?_append_left,h]
 ·have:j=l.length:=by omega
  subst this
  rw [jd (Nat.le_refl l.length),k9 (show l.length < l.length+1 by omega),cond_false,cond_true,Nat.sub_self]
  show _=e.part.c
  rw [EXP.ca]
  unfold EXP.row
  simp [List.getD]
theorem hJ {l:List EXP} {i:Nat} (h:i < l.length):cG (l.drop i)=(l.getD i default).size+cG (l.drop (i+1)):=by
 rw [List.drop_eq_getElem_cons h,cG]
 congr 2
 simp [List.getD,List.getElem?_eq_getElem h]
def aS (e:EXP) (x:List EXP×Nat):St:=AS (exL x.1) e.part.c x.2
def RB (l:List RULE):St:={env:=[(0,nG l),(2,.sl .fit 0 0 λ_=>[]),(3,exL [])],objs:=[]}
def Tk (t:List EXP) (k:Ex->St->Res):Res:=k (.exit 0) {env:=[(3,exL t)],objs:=[]}
def φN (_:Unit):AV×List AO:=(.ref aa 0,[.cells [.sl .fit 0 0 λ_=>[],.mref 1000001,.bool false],.mp true [.int .i64,.int .i64,.int .i64] (λ_=>false) λ_=>.int .i64 0])
def stU (s:STO):AO:=.cells [.sl (.key 600012) 3 s.n (ND s.T s.Y s.N),.mref 100012,.bool s.full]
def US (l:List RULE) (t:AV) (s:STO) (some:Int) (n:Nat) (w:Nat->Int) (i:Nat):St:={env:=[(0,nG l),(5,.ref 12 0),(6,t),(7,.int .i64 some),(8,.sl (.key 47) 1 n (IG w)),(9,.int .i64 i)],objs:=[(12,stU s),(100012,stM s),(47,.own 1 n),(600012,.own 3 s.n)]}
structure UO where
 bad:Bool
 s:STO
 n:Nat
 w:Nat->Int
instance:Inhabited UO:=⟨⟨false,default,0,λ_=>0⟩⟩
def UX (o:UO):St:={env:=[(5,.ref 12 0),(8,.sl (.key 47) 1 o.n (IG o.w))],objs:=[(12,stU o.s),(100012,stM o.s),(47,.own 1 o.n),(600012,.own 3 o.s.n)]}
def UB (o:UO):St:={env:=[(2,.sl .fit 0 0 λ_=>[]),(3,.int .i64 o.s.n),(4,.bool false)],objs:=[(12,stU o.s),(100012,stM o.s),(47,.own 1 o.n),(600012,.own 3 o.s.n)]}
def Tg (o:UO) (k:Ex->St->Res):Res:=cond o.bad (k .ret (UB o)) (k (.exit 0) (UX o))
theorem wF (e:EXP):[AV.int .i64 e.op,.str e.kind,.str e.name,jP e.vals,exL e.kids]=e.c:=(EXP.yu e).symm
def NB (l:List RULE):St:={env:=[(0,nG l),(2,.sl .fit 0 0 λ_=>[]),(3,.sl .fit 0 0 λ_=>[])],objs:=[]}
def whens (l:List RULE):List EXP:=l.map RULE.when
theorem wE {l:List RULE} {i:Nat} (h:i < l.length):(whens l).getD i default=(l.getD i default).when:=by
 unfold whens
 simp [List.getD,h]
def bA (x:List EXP×EXP):Prop:=lu x.1/\x.2.Ok/\x.1.length+x.2.size<=100000
def rlP (l:List RULE):Prop:=(∀r∈l,r.when.Ok)/\cG (whens l)<=100000/\l.length<=100000
theorem xh {l:List RULE} {i:Nat} (h:i < l.length):l.getD i default∈l:=by
 rw [List.getD_eq_getElem?_getD,List.getElem?_eq_getElem h]
 exact List.getElem_mem h
def φU (o:UO):AV×List AO:=cond o.bad (.tup [.sl .fit 0 0 λ_=>[],.int .i64 o.s.n,.bool false],[]) (.tup [.sl .no 1 o.n (IG o.w),.int .i64 o.s.n,.bool true],[])
structure UV where
 s:STO
 some:Int
 n:Nat
 w:Nat->Int
 i:Nat
instance:Inhabited UV:=⟨⟨default,0,0,λ_=>0,0⟩⟩
def s00:STO:=⟨0,λ_=>0,λ_=>0,λ_=>0,λ_=>false,λ_=>0,false⟩
theorem Me:s00.Ok:=⟨Nat.zero_le _,λj h=>absurd h (Nat.not_lt_zero _),λj h=>absurd h (Nat.not_lt_zero _),λj h=>absurd h (Nat.not_lt_zero _)⟩
def SP (F T:Nat->Int) (j:Nat):List AV:=[.int .i64 (F j),.int .i64 (T j)]
def BL (g:Nat->Bool) (j:Nat):List AV:=[.bool (g j)]
def S1 (n:Nat) (F T:Nat->Int) (i:Nat) (b:Int) (g:Nat->Bool):St:={env:=[(0,.sl .no 2 n (SP F T)),(3,.msl 6 1 0 10000),(4,.int .i64 i),(5,.int .i64 b)],objs:=[(6,.arr 1 10000 (BL g))]}
def S2 (n:Nat) (F T:Nat->Int) (i:Nat) (g:Nat->Bool):St:={env:=[(0,.sl .no 2 n (SP F T)),(3,.msl 6 1 0 10000),(4,.int .i64 i)],objs:=[(6,.arr 1 10000 (BL g))]}
def S3 (g:Nat->Bool):St:={env:=[(3,.msl 6 1 0 10000)],objs:=[(6,.arr 1 10000 (BL g))]}
def UR (g:Nat->Bool) (k:Ex->St->Res):Res:=k (.exit 0) (S3 g)
def φS (g:Nat->Bool):AV×List AO:=(.msl 1000000 1 0 10000,[.arr 1 10000 (BL g)])
structure SV where
 i:Nat
 b:Int
 g:Nat->Bool
instance:Inhabited SV:=⟨⟨0,0,λ_=>false⟩⟩
def svI (n:Nat) (v:SV):Prop:=v.i < n/\0<=v.b
def Tc (g:Nat->Bool) (b:Int):Nat->Bool:=λj=>bif Nat.beq j b.toNat then true else g j
theorem Mn (g:Nat->Bool) (b:Int):(λj=>bif Nat.beq j (0+b.toNat) then [AV.bool true] else BL g j)=BL (Tc g b):=by
 funext j
 rw [Nat.zero_add]
 show _=[AV.bool (bif Nat.beq j b.toNat then true else g j)]
 cases Nat.beq j b.toNat <;> rfl
def bsA (g:Nat->Bool):AV:=.sl .no 1 10000 (BL g)
def N1 (g:Nat->Bool) (i:Nat):St:={env:=[(0,bsA g),(3,.sl .fit 0 0 λ_=>[]),(4,.int .i64 i)],objs:=[]}
def N2 (g:Nat->Bool) (n:Nat) (F T:Nat->Int) (i:Nat):St:={env:=[(0,bsA g),(3,.gsl 17 2 n),(4,.int .i64 i)],objs:=[(17,.grw 0 2 n (SP F T))]}
structure SO where
 n:Nat
 F:Nat->Int
 T:Nat->Int
instance:Inhabited SO:=⟨⟨0,λ_=>0,λ_=>0⟩⟩
def N3 (b:Bool×SO) (k:Ex->St->Res):Res:=cond b.1 (k (.exit 0) {env:=[(3,.sl .fit 0 0 λ_=>[])],objs:=[]}) (k (.exit 0) {env:=[(3,.gsl 17 2 (b.2.n+1))],objs:=[(17,.grw 0 2 (b.2.n+1) (SP b.2.F b.2.T))]})
def F1 (o:SO):St:={env:=[(3,.gsl 17 2 (o.n+1))],objs:=[(17,.grw 0 2 (o.n+1) (SP o.F o.T))]}
def F2 (o:SO):St:={env:=[(3,.sl .no 2 (o.n+1) (SP o.F o.T))],objs:=[(17,.own 2 (o.n+1))]}
structure PV where
 c:Bool
 q:Nat
 F:Nat->Int
 T:Nat->Int
 i:Nat
instance:Inhabited PV:=⟨⟨false,0,λ_=>0,λ_=>0,0⟩⟩
def pS (g:Nat->Bool) (v:PV):St:=bif v.c then N1 g v.i else N2 g (v.q+1) v.F v.T v.i
structure pI (g:Nat->Bool) (v:PV):Prop where
 i:v.i<=10000
 q:v.c=false->v.q+1<=v.i
 z:v.c=true->∀j,j < v.i->g j=false
def Jp (T:Nat->Int) (q:Nat) (x:Int):Nat->Int:=λj=>bif Nat.beq j q then x else T j
theorem Md (F T:Nat->Int) (q:Nat) (x:Int):(λj=>bif Nat.beq j q then [AV.int .i64 (F q),.int .i64 x] else SP F T j)=SP F (Jp T q x):=by
 funext j
 show _=[AV.int .i64 (F j),AV.int .i64 (bif Nat.beq j q then x else T j)]
 by_cases h:j=q
 ·subst h;rw [Nat.beq_refl];rfl
 ·rw [eu h];rfl
theorem MS (F T:Nat->Int) (q:Nat) (x y:Int):af q 1 (SP F T) (ae (SP Int.ofNat Int.ofNat 0) [(0,.agg [.int .i64 x,.int .i64 y])])=SP (Jp F q x) (Jp T q y):=by
 funext j
 unfold af
 show _=[AV.int .i64 (bif Nat.beq j q then x else F j),AV.int .i64 (bif Nat.beq j q then y else T j)]
 by_cases h:j < q
 ·rw [k9 h,eu (by omega)];rfl
 ·rw [jd (by omega)]
  by_cases h1:j=q
  ·subst h1;rw [k9 (by omega),Nat.sub_self,Nat.beq_refl];rfl
  ·rw [jd (by omega),eu h1];rfl
def K1 (g:Nat->Bool) (i:Nat):St:={env:=[(0,bsA g),(3,AV.gsl 17 2 1),(4,.int .i64 i)],objs:=[(17,AO.grw 0 2 1 (af 0 1 (λ_=>[]) (ae (SP Int.ofNat Int.ofNat 0) [(0,.agg [.int .i64 i,.int .i64 (IntKind.wrap .i64 ((i:Int)+1))])])))]}
def K2 (g:Nat->Bool) (i:Nat):St:=N2 g 1 (λ_=>(i:Int)) (λ_=>((i+1:Nat):Int)) i
theorem gK1 (g:Nat->Bool) {i:Nat} (h:i < 10000):dK (K1 g) (λi=>i < 10000) (K1 g i)=true:=iE (S:=K1 g) (Inv:=λi=>i < 10000) h
theorem vK1 (g:Nat->Bool) {i:Nat} (h:i < 10000):gU (K1 g) (λi=>i < 10000) id (K1 g i)=i:=gT (S:=K1 g) (Inv:=λi=>i < 10000) (w:=id) (Post:=λi o=>o=i) (λ_ _=>rfl) (λa b x hs hp=>by
 have:a=b:=by
  simp only [K1,St.mk.injEq,List.cons.injEq,Prod.mk.injEq,AV.int.injEq,true_and,and_true] at hs
  omega
 rw [<-this];exact hp) h
theorem gKn (g:Nat->Bool) (i:Nat):dK (K1 g) (λi=>i < 10000) (N1 g i)=false:=oN λv _ h=>by simp [K1,N1] at h
theorem gKs (g:Nat->Bool) (n:Nat) (F T:Nat->Int) (i:Nat):dK (K1 g) (λi=>i < 10000) (N2 g n F T i)=false:=oN λv _ h=>by
 simp only [K1,N2,St.mk.injEq,List.cons.injEq,Prod.mk.injEq,AO.grw.injEq,true_and,and_true] at h
 have:=congrFun h.2.2 1
 simp [af,SP,Nat.blt,Nat.ble] at this
def U2 (o:(Nat->Bool)×(Nat->Bool)):St:={env:=[(5,.msl 9 1 0 10000)],objs:=[(9,.arr 1 10000 (BL o.1)),(11,.arr 1 10000 (BL o.2))]}
def K0 (o:(Nat->Bool)×(Nat->Bool)) (k:Ex->St->Res):Res:=k (.exit 0) (U2 o)
def spA (o:SO):AV:=.sl .no 2 o.n (SP o.F o.T)
def φP (o:SO):AV×List AO:=(spA o,[])
structure U1V where
 x:Nat->Bool
 y:Nat->Bool
 i:Nat
instance:Inhabited U1V:=⟨⟨λ_=>false,λ_=>false,0⟩⟩
def isA (w:Nat->Int):AV:=.sl .no 1 10000 (IG w)
def LAE (x:Nat->Bool):St:={env:=[(5,.msl 9 1 0 10000)],objs:=[(9,.arr 1 10000 (BL x))]}
def Tn (x:Nat->Bool) (k:Ex->St->Res):Res:=k (.exit 0) (LAE x)
def C3 (F T U:Nat->Int) (j:Nat):List AV:=[.int .i64 (F j),.int .i64 (T j),.int .i64 (U j)]
def coA (n:Nat) (F T U:Nat->Int):AV:=.sl .no 3 n (C3 F T U)
def Q1E (c:AV) (w:Nat->Int):St:={env:=[(0,c),(5,.msl 9 1 0 10000)],objs:=[(9,.arr 1 10000 (IG w))]}
def Q2E (w:Nat->Int):St:={env:=[(5,.msl 9 1 0 10000)],objs:=[(9,.arr 1 10000 (IG w))]}
def Tm (c:AV) (w:Nat->Int) (k:Ex->St->Res):Res:=k (.exit 0) (Q1E c w)
def Tl (w:Nat->Int) (k:Ex->St->Res):Res:=k (.exit 2) (Q2E w)
structure W3 where
 w:Nat->Int
 i:Nat
 b:Int
instance:Inhabited W3:=⟨⟨λ_=>0,0,0⟩⟩
def SG (b:Bool) (k:Ex->St->Res):Res:=cond b (k .ret {env:=[(4,.bool true)],objs:=[]}) (k (.exit 0) {env:=[],objs:=[]})
structure ENV where
 salt:List UInt8
 hkind:List UInt8
 hold:Int
 attrs:List (List UInt8×List UInt8×Int)
 segs:List SEG
 flags:List FLAG
 layers:List LAYER
 expts:List EXPT
instance:Inhabited SEG:=⟨⟨[],[],[],[],default⟩⟩
instance:Inhabited FLAG:=⟨⟨[],0,[],false,0,[],[],[],default⟩⟩
instance:Inhabited LAYER:=⟨⟨[],[],[],0,0,[]⟩⟩
instance:Inhabited EXPT:=⟨⟨[],[],[],[],0,[],[],default⟩⟩
def pd (l:List (List UInt8×List UInt8×Int)):AV:=.sl .no 3 l.length λj=>[.str (l.getD j ([],[],0)).1,.str (l.getD j ([],[],0)).2.1,.int .i64 (l.getD j ([],[],0)).2.2]
def dU (l:List SEG):AV:=.sl .no 9 l.length λj=>(l.getD j default).c
def uZ (l:List FLAG):AV:=.sl .no 13 l.length λj=>(l.getD j default).c
def uU (l:List LAYER):AV:=.sl .no 6 l.length λj=>(l.getD j default).c
def uM (l:List EXPT):AV:=.sl .no 12 l.length λj=>(l.getD j default).c
def ENV.c (v:ENV):List AV:=[.str v.salt,.str v.hkind,.int .i64 v.hold,pd v.attrs,dU v.segs,uZ v.flags,uU v.layers,uM v.expts]
def Spn (x:AV) (o:SO):Prop:=x.keys=[]/\∀c v,Rep c x v->Rep c (spA o) v
theorem jk (o:SO):Spn (spA o) o:=⟨rfl,λ_ _ h=>h⟩
theorem CT {ow:Own} {n:Nat} {get:Nat->List AV} (hk:(AV.sl ow 2 n get).keys=[]) {F T:Nat->Int} (h:∀j,j < n->get j=SP F T j):Spn (.sl ow 2 n get) ⟨n,F,T⟩:=⟨hk,λ_ _ hr=>mH hr λj hj=>(h j hj).symm⟩
theorem sT (z:List AV) (x y:Int):Spn (.sl .fit 2 1 (ae z [(0,.agg [.int .i64 x,.int .i64 y])])) ⟨1,λ_=>x,λ_=>y⟩:=CT rfl λj hj=>by
 have:j=0:=by omega
 subst this;rfl
def soL (l:List (Int×Int)):SO:=⟨l.length,λj=>(l.getD j (0,0)).1,λj=>(l.getD j (0,0)).2⟩
theorem rU (l:List (Int×Int)):Spn (AP l) (soL l):=CT rfl λj _=>rfl
def TX (g:Nat->List UInt8) (j:Nat):List AV:=[.str (g j)]
def txA (n:Nat) (g:Nat->List UInt8):AV:=.sl .no 1 n (TX g)
abbrev TXS:=Nat×(Nat->List UInt8)
def φX (x:TXS):AV×List AO:=(txA x.1 x.2,[])
def HT (n:Nat) (g:Nat->List UInt8) (s:List UInt8) (i:Nat):St:={env:=[(0,txA n g),(1,.str s),(5,.int .i64 i)],objs:=[]}
def QR (n:Nat) (g:Nat->List UInt8) (s:List UInt8) (i:Nat) (k:Ex->St->Res):Res:=k (.exit 0) (HT n g s i)
def Tp (o:TXS) (k:Ex->St->Res):Res:=k (.exit 0) {env:=[(3,.sl (.key 18) 1 o.1 (TX o.2))],objs:=[(18,.own 1 o.1)]}
def QO (o:TXS) (k:Ex->St->Res):Res:=k (.exit 0) {env:=[(3,.sl (.key 20) 1 o.1 (TX o.2))],objs:=[(20,.own 1 o.1)]}
def Th (nm:List UInt8) (o:Bool×Int) (k:Ex->St->Res):Res:=cond o.1 (k .ret {env:=[(6,.int .i64 o.2)],objs:=[]}) (k (.exit 0) {env:=[(2,.str nm)],objs:=[]})
def Ts (t:Int) (b:Bool) (k:Ex->St->Res):Res:=cond b (k .ret {env:=[(4,.bool false)],objs:=[]}) (k (.exit 0) {env:=[(0,.int .i64 t)],objs:=[]})
def Tj (o:TXS) (k:Ex->St->Res):Res:=k (.exit 0) {env:=[(0,txA o.1 o.2)],objs:=[]}
abbrev EDG:=Nat->List UInt8×List UInt8
instance:Inhabited (Nat×EDG):=⟨(0,λ_=>([],[]))⟩
instance:Inhabited TXS:=⟨(0,λ_=>[])⟩
def ED (f:EDG) (j:Nat):List AV:=[.str (f j).1,.str (f j).2]
def edA (n:Nat) (f:EDG):AV:=.sl .no 2 n (ED f)
def D1 (x:AV) (n:Nat) (f:EDG) (i:Nat):St:={env:=[(0,x),(3,.sl (.key 37) 2 n (ED f)),(4,.int .i64 i)],objs:=[(37,.own 2 n)]}
def D2 (x:AV) (n:Nat) (f:EDG) (i m:Nat) (g:Nat->List UInt8) (k:Nat):St:={env:=[(0,x),(3,.sl (.key 37) 2 n (ED f)),(4,.int .i64 i),(5,txA m g),(6,.int .i64 k)],objs:=[(37,.own 2 n)]}
def Tu (o:Nat×EDG) (k:Ex->St->Res):Res:=k (.exit 0) {env:=[(3,.sl (.key 37) 2 o.1 (ED o.2))],objs:=[(37,.own 2 o.1)]}
instance:Inhabited (Nat×Nat×EDG):=⟨(0,0,λ_=>([],[]))⟩
def G1 (cs:List AV) (n:Nat) (f:EDG) (i:Nat):St:={env:=[(1,.ref 1 0),(3,.sl (.key 43) 2 n (ED f)),(4,.int .i64 i)],objs:=[(1,.cells cs),(43,.own 2 n)]}
def G2 (cs:List AV) (n:Nat) (f:EDG) (i k:Nat):St:={env:=[(1,.ref 1 0),(3,.sl (.key 43) 2 n (ED f)),(4,.int .i64 i),(5,.int .i64 k)],objs:=[(1,.cells cs),(43,.own 2 n)]}
def Tq (o:Nat×EDG) (k:Ex->St->Res):Res:=k (.exit 0) {env:=[(3,.sl (.key 43) 2 o.1 (ED o.2))],objs:=[(43,.own 2 o.1)]}
def N7 (cs:List AV) (o:Nat×Nat×EDG) (k:Ex->St->Res):Res:=k (.exit 2) {env:=[(1,.ref 1 0),(3,.sl (.key 43) 2 o.2.1 (ED o.2.2)),(4,.int .i64 o.1)],objs:=[(1,.cells cs),(43,.own 2 o.2.1)]}
theorem Hw {p:PART} (h:jZ p=0):(p.op=2∨p.op=3∨p.op=4->0 < p.n)/\p.n<=12:=by
 unfold jZ at h
 cases h1:(decide (p.op < 1)||decide (p.op > 15)) with
 | true=>rw [h1] at h;exact absurd (show (7:Int)=0 from h) (by decide)
 | false=>
  rw [h1,cond_false] at h
  cases h2:countB p with
  | false=>rw [h2] at h;exact absurd (show (15:Int)=0 from h) (by decide)
  | true=>
   rw [h2] at h
   cases h3:(decide (p.n > 12)||decide (p.vals.length > 20)) with
   | true=>
    rw [h3] at h
    exact absurd (show (5:Int)=0 from h) (by decide)
   | false=>
    have h12:p.n<=12:=by
     have:=(Bool.or_eq_false_iff.1 h3).1
     have:=of_decide_eq_false this
     omega
    refine ⟨λhop=>?_,h12⟩
    unfold countB at h2
    have h4:=(Bool.and_eq_true_iff.1 h2).1
    rcases hop with hop | hop | hop
    ·rw [hop] at h4
     have:decide (p.n≥2)=true:=h4
     have:=of_decide_eq_true this
     omega
    ·rw [hop] at h4
     have:decide (p.n≥2)=true:=h4
     have:=of_decide_eq_true this
     omega
    ·rw [hop] at h4
     have:(p.n==1)=true:=h4
     have:=beq_iff_eq.1 this
     omega
theorem pN {i n:Nat} (h:decide ((i:Int) < (n:Int))=true):i < n:=by have:=of_decide_eq_true h;omega
theorem Rl {i n:Nat} (h:decide ((i:Int) < (n:Int))=false):n<=i:=by have:=of_decide_eq_false h;omega
theorem Dh {b n:Nat} (h:n*b<=140737488355328):roomy b n=true:=Nat.ble_eq_true_of_le h
theorem sN {n m:Nat} {g h:Nat->List UInt8} (e:txA n g=txA m h):n=m/\g=h:=by
 simp only [txA,AV.sl.injEq,true_and] at e
 refine ⟨e.1,funext λj=>?_⟩
 have:=congrFun e.2 j
 simpa [TX] using this
structure DV where
 i:Nat
 m:Nat
 g:Nat->List UInt8
 n:Nat
 f:EDG
 j:Nat
def XOk (e:EXP):Prop:=KOk e/\e.size<=1000
structure GV where
 i:Nat
 n:Nat
 f:EDG
 j:Nat
def XS (l:AV) (n:Nat) (g:Nat->List UInt8) (p:PART) (i:Nat):St:={env:=[(0,l),(1,txA n g),(5,.ref 5 0),(8,.int .i64 i)],objs:=[(5,.cells p.c)]}
def NO (ne:Nat) (f:EDG) (a b:TXS):St:={env:=[(0,edA ne f),(5,txA a.1 a.2),(6,txA b.1 b.2)],objs:=[]}
def NI (ne:Nat) (f:EDG) (a b:TXS) (s:List UInt8) (i:Nat):St:={env:=[(0,edA ne f),(5,txA a.1 a.2),(6,txA b.1 b.2),(7,.str s),(8,.int .i64 i)],objs:=[]}
instance:Inhabited (TXS×TXS):=⟨(default,default)⟩
def N5 (ne:Nat) (f:EDG) (o:TXS×TXS) (k:Ex->St->Res):Res:=k (.exit 2) (NO ne f o.1 o.2)
def N4 (o:TXS) (k:Ex->St->Res):Res:=k (.exit 0) {env:=[(5,txA o.1 o.2)],objs:=[]}
def φL' (x:List UInt8×Bool):AV×List AO:=(.tup [.str x.1,.bool x.2],[])
def In (a:TXS) (x:List UInt8):Prop:=∃j,j < a.1/\a.2 j=x
theorem CK {n:Nat} {get:Nat->List AV} (g:Nat->List UInt8) (h:∀j,j < n->get j=[AV.str (g j)]):AV.sl .no 1 n (Js [.str []] n get)=txA n (λj=>bif Nat.blt j n then g j else []):=by
 unfold txA
 rw [show Js [AV.str []] n get=_ from ON (λs:List UInt8=>[AV.str s]) [] g h];rfl
noncomputable def Ju (p:Nat->Prop):Nat->Nat
 | 0=>0
 | n+1=>Ju p n+(open Classical in if p n then 1 else 0)
theorem Ch (p:Nat->Prop):∀n,Ju p n<=n
 | 0=>Nat.le_refl _
 | n+1=>by
  have:=Ch p n
  unfold Ju
  split <;> omega
theorem An {p q:Nat->Prop} (h:∀i,p i->q i):∀n,Ju p n<=Ju q n
 | 0=>Nat.le_refl _
 | n+1=>by
  have ih:=An h n
  unfold Ju
  by_cases hp:p n
  ·rw [if_pos hp,if_pos (h n hp)];omega
  ·rw [if_neg hp];omega
theorem IW {p q:Nat->Prop} (h:∀i,p i->q i) {k:Nat} (hk:q k/\¬ p k):∀n,k < n->Ju p n < Ju q n
 | 0,hn=>absurd hn (Nat.not_lt_zero _)
 | n+1,hn=>by
  have ih:=An h n
  unfold Ju
  by_cases hkn:k=n
  ·subst hkn
   rw [if_neg hk.2,if_pos hk.1];omega
  ·have:=IW h hk n (by omega)
   by_cases hp:p n
   ·rw [if_pos hp,if_pos (h n hp)];omega
   ·rw [if_neg hp];omega
noncomputable def lack (ne:Nat) (f:EDG) (a:TXS):Nat:=Ju (λi=>¬ In a (f i).2) ne
theorem DC {ne:Nat} {f:EDG} {a r:TXS} {i:Nat} (hi:i < ne) (hn:¬ In a (f i).2) (hr:∀y,In r y↔In a y∨y=(f i).2):lack ne f r < lack ne f a:=
 IW (λj hj hj'=>hj ((hr _).2 (Or.inl hj'))) ⟨hn,λh=>h ((hr _).2 (Or.inr rfl))⟩ ne hi
structure NV where
 a:TXS
 b:TXS
 s:List UInt8
 i:Nat
instance:Inhabited (List UInt8×Bool):=⟨([],false)⟩
end Go.SM
namespace Go.SH
open Go Go.Ab Go.Proofs
def B72 (l:List RULE) (n:Nat) (i:Nat):St:={env:=[(0,nG l),(1,.int .i64 n),(13,nG l),(14,.int .i64 l.length),(15,.int .i64 i)],objs:=[]}
def Wn (l:List RULE) (n:Nat) (i:Nat):St:={env:=[(0,nG l),(1,.int .i64 n),(6,.ref 6 0),(13,nG l),(14,.int .i64 l.length),(15,.int .i64 i)],objs:=[(6,.cells (l.getD i default).c)]}
def UF (l:List RULE) (i:Nat):AV:=.sl .no 11 i λj=>(l.getD (0+j) default).c
def Wm (l:List RULE) (n:Nat) (i k:Nat):St:={env:=[(0,nG l),(1,.int .i64 n),(6,.ref 6 0),(13,nG l),(14,.int .i64 l.length),(15,.int .i64 i),(26,UF l i),(27,.int .i64 i),(28,.int .i64 k)],objs:=[(6,.cells (l.getD i default).c)]}
def VM (f:FLAG):St:={env:=[(1,.ref 1 0),(3,.int .i64 f.vars.length)],objs:=[(1,.cells f.c)]}
def QT (l:List RULE) (n:Nat) (x:Nat×Bool) (k:Ex->St->Res):Res:=cond x.2 (k .ret {env:=[(4,.int .i64 10)],objs:=[]}) (k (.exit 2) (Wn l n x.1))
def kL (l:List PRQ) (i:Nat):Option Int:=
 bif !ea (l.getD i default).flag then some 6 else
 bif decide (i > 0)&&(aG (l.getD i default).flag (l.getD (i - 1) default).flag||(l.getD i default).flag==(l.getD (i - 1) default).flag) then some 9 else
 bif decide ((l.getD i default).var < 1)||decide ((l.getD i default).var > 8) then some 3 else none
def Hp (l:List PRQ):Bool×Int:=bp l.length (·+1) (kL l) 0
def Hq (l:List PRQ):Int:=bif decide (l.length > 4) then 5 else bif (Hp l).1 then (Hp l).2 else 0
theorem xL (n:Nat):decide ((n:Int) > 8)=decide (n > 8):=tM n 8
theorem oK (n:Nat):decide ((n:Int) > 32)=decide (n > 32):=tM n 32
def kx (l:List TGT) (n:Nat) (i:Nat):Option Int:=
 bif !ea (l.getD i default).kind then some 6 else
 bif decide ((l.getD i default).var < 1)||(decide ((l.getD i default).var > n)||(l.getD i default).keys.length==0) then some 3 else
 bif Br (l.getD i default).keys !=0 then some (Br (l.getD i default).keys) else none
def F4 (l:List TGT) (n:Nat):Bool×Int:=bp l.length (·+1) (kx l n) 0
def Jn (l:List TGT) (n:Nat):Int:=bif decide (l.length > 8) then 5 else bif (F4 l n).1 then (F4 l n).2 else 0
theorem se {a b:List (Int×Int×Int)} (h:ou a=ou b):a=b:=by
 unfold ou at h
 simp only [AV.sl.injEq,true_and] at h
 obtain ⟨h1,h2⟩:=h
 apply List.ext_getElem h1
 intro i hi hj
 have:=congrFun h2 i
 simp only [List.getD,List.getElem?_eq_getElem hi,List.getElem?_eq_getElem hj,Option.getD_some,kl,List.cons.injEq,AV.int.injEq,true_and,and_true] at this
 obtain ⟨h3,h4,h5⟩:=this
 exact Prod.ext h3 (Prod.ext h4 h5)
theorem SERVE.br {a b:SERVE} (h:a.c=b.c):a=b:=by
 obtain ⟨k,n,t,l,m⟩:=a
 obtain ⟨k',n',t',l',m'⟩:=b
 simp only [SERVE.c,List.cons.injEq,AV.int.injEq,AV.str.injEq,true_and,and_true] at h
 obtain ⟨rfl,rfl,rfl,rfl,h⟩:=h
 rw [se h]
def ID (l:List RULE) (i:Nat) (k:Nat):Option Unit:=bif (l.getD k default).name==(l.getD i default).name then some () else none
def uj (l:List RULE) (i k:Nat):Bool:=(bp i (·+1) (ID l i) k).1
theorem Eb (l:List RULE) (i:Nat) {k:Nat} (h:¬ k < i):uj l i k=false:=by
 unfold uj;rw [bI _ _ _ h]
theorem Ai (l:List RULE) (i:Nat) {k:Nat} (h:k < i):uj l i k=bif (l.getD k default).name==(l.getD i default).name then true else uj l i (k+1):=by
 unfold uj
 rw [da (λi _=>Nat.lt_succ_self i) h]
 unfold ID
 cases (l.getD k default).name==(l.getD i default).name <;> rfl
def eS (l:List RULE) (n:Nat) (i:Nat):Option Int:=
 bif !ea (l.getD i default).name then some 6 else
 bif uj l i 0 then some 10 else
 bif gq (l.getD i default).when !=0 then some (gq (l.getD i default).when) else
 bif cB (l.getD i default).serve n !=0 then some (cB (l.getD i default).serve n) else none
def GM (l:List RULE) (n:Nat):Bool×Int:=bp l.length (·+1) (eS l n) 0
def GN (l:List RULE) (n:Nat):Int:=bif decide (l.length > 12) then 5 else bif (GM l n).1 then (GM l n).2 else 0
instance:Inhabited (Nat×Bool):=⟨(0,false)⟩
def kq (f:FLAG) (i:Nat):Option Int:=
 bif cy (f.vars.getD i default) !=0 then some (cy (f.vars.getD i default)) else
 bif (f.vars.getD i default).kind !=f.kind then some 8 else none
def iT (f:FLAG):Bool×Int:=bp f.vars.length (·+1) (kq f) 0
theorem Er (f:FLAG) (h:(iT f).1=true):((iT f).2 !=0)=true:=
 mF (P:=λt:Int=>(t !=0)=true) (λi t _ ht=>by
  unfold kq at ht
  cases hc:cy (f.vars.getD i default) !=0 with
  | true=>rw [hc] at ht;simp only [cond_true,Option.some.injEq] at ht;subst ht;exact hc
  | false=>
   rw [hc] at ht
   cases hk:(f.vars.getD i default).kind !=f.kind with
   | true=>rw [hk] at ht;simp only [cond_true,cond_false,Option.some.injEq] at ht;subst ht;rfl
   | false=>rw [hk] at ht;simp at ht) 0 h
def FP (f:FLAG):Int:=
 bif decide (f.vars.length > 8) then 5 else bif f.vars.length==0 then 3 else bif (iT f).1 then (iT f).2 else
 bif decide (f.off < 1)||decide (f.off > f.vars.length) then 3 else 0
def nU (f:FLAG):Int:=
 bif !ea f.key then 6 else bif decide (f.kind < 1)||decide (f.kind > 5) then 7 else
 bif FP f !=0 then FP f else bif Hq f.prqs !=0 then Hq f.prqs else
 bif Jn f.tgts f.vars.length !=0 then Jn f.tgts f.vars.length else
 bif GN f.rules f.vars.length !=0 then GN f.rules f.vars.length else cB f.dflt f.vars.length
def lG (a b c:Int):Bool:=bif !(decide (0<=a)&&(decide (a < b)&&decide (b<=10000))) then true else bif decide (c < 0) then true else decide (c > 1099511627776)
def iI (l:List (Int×Int×Int)) (i:Nat):Option Int:=
 bif lG (l.getD i (0,0,0)).1 (l.getD i (0,0,0)).2.1 (l.getD i (0,0,0)).2.2 then some 3 else
 bif decide (i > 0)&&decide ((l.getD i (0,0,0)).1 < (l.getD (i - 1) (0,0,0)).2.1) then some 9 else none
def mV (l:List (Int×Int×Int)):Bool×Int:=bp l.length (·+1) (iI l) 0
def jt (f:LAYER):Int:=
 bif !ea f.key||!ea f.kind then 6 else bif !df f.salt then 2 else
 bif decide (f.hold < 0)||(decide (f.hold > 10000)||(decide (f.cool < 0)||decide (f.cool > 1099511627776))) then 3 else
 bif decide (f.cooling.length > 32) then 5 else bif (mV f.cooling).1 then (mV f.cooling).2 else 0
theorem R5 (a b c:Int):(bif bif !bif bif decide (0<=a) then decide (a < b) else false then decide (b<=10000) else false then true else decide (c < 0) then true else decide (c > 1099511627776))=lG a b c:=by
 unfold lG
 cases decide (0<=a) <;> cases decide (a < b) <;> cases decide (b<=10000) <;> cases decide (c < 0) <;> rfl
theorem R4 (a b c:Int):(bif bif bif bif decide (a < 0) then true else decide (a≥b) then true else decide (b > 10000) then true else decide (c < 0) then true else decide (c > 1099511627776))=lG a b c:=by
 unfold lG
 have e1:decide (a < 0)=!decide (0<=a):=by
  by_cases h:0<=a
  ·rw [decide_eq_true h,decide_eq_false (by omega)];rfl
  ·rw [decide_eq_false h,decide_eq_true (by omega)];rfl
 have e2:decide (a≥b)=!decide (a < b):=by
  by_cases h:a < b
  ·rw [decide_eq_true h,decide_eq_false (by omega)];rfl
  ·rw [decide_eq_false h,decide_eq_true (by omega)];rfl
 have e3:decide (b > 10000)=!decide (b<=10000):=by
  by_cases h:b<=10000
  ·rw [decide_eq_true h,decide_eq_false (by omega)];rfl
  ·rw [decide_eq_false h,decide_eq_true (by omega)];rfl
 rw [e1,e2,e3]
 cases decide (0<=a) <;> cases decide (a < b) <;> cases decide (b<=10000) <;> cases decide (c < 0) <;> rfl
def Fy (g:SEG):Int:=
 bif !ea g.key||!ea g.kind then 6 else bif Br g.incl !=0 then Br g.incl else bif Br g.excl !=0 then Br g.excl else bif kS g.when then 0 else gq g.when
def pX (x:EXPT):Int:=
 bif !ea x.key||(!ea x.layer||!ea x.flag) then 6 else bif !df x.salt then 2 else
 bif decide (x.status < 1)||decide (x.status > 3) then 7 else bif nh x.claims !=0 then nh x.claims else
 bif eI x.arms 8 !=0 then eI x.arms 8 else gq x.when
end Go.SH
namespace Go.SM
open Go Go.Ab Go.Proofs Go.SH
end Go.SM
namespace Go.Proofs
open Go.Shelf
end Go.Proofs
namespace Go.SM
open Go Go.Ab Go.Proofs Go.SH Go.RowKit
theorem MO:∀a b:List UInt8,Lib.compareBytes a b = -1↔aG a b=true
 | [],[]=>by simp [Lib.compareBytes,aG,Op.bytesLess]
 | [],b::ys=>by simp [Lib.compareBytes,aG,Op.bytesLess]
 | a::xs,[]=>by simp [Lib.compareBytes,aG,Op.bytesLess]
 | a::xs,b::ys=>by
  have ih:=MO xs ys
  unfold aG at ih
  unfold Lib.compareBytes aG Op.bytesLess
  by_cases h1:a < b
  ·simp [h1]
  ·by_cases h2:b < a
   ·have:a≠b:=λe=>by subst e;exact UInt8.lt_irrefl _ h2
    simp [h1,h2,this]
   ·have:a=b:=UInt8.le_antisymm (UInt8.not_lt.1 h2) (UInt8.not_lt.1 h1)
    subst this
    simp [ih]
theorem cmp_eq:∀a b:List UInt8,Lib.compareBytes a b=0↔a=b
 | [],[]=>by simp [Lib.compareBytes]
 | [],b::ys=>by simp [Lib.compareBytes]
 | a::xs,[]=>by simp [Lib.compareBytes]
 | a::xs,b::ys=>by
  have ih:=cmp_eq xs ys
  unfold Lib.compareBytes
  by_cases h1:a < b
  ·have:a≠b:=λe=>by subst e;exact UInt8.lt_irrefl _ h1
   simp [h1,this]
  ·by_cases h2:b < a
   ·have:a≠b:=λe=>by subst e;exact UInt8.lt_irrefl _ h2
    simp [h1,h2,this]
   ·have:a=b:=UInt8.le_antisymm (UInt8.not_lt.1 h2) (UInt8.not_lt.1 h1)
    subst this
    simp [ih]
theorem wy:∀a b:List UInt8,Lib.compareBytes a b=1↔aG b a=true
 | [],[]=>by simp [Lib.compareBytes,aG,Op.bytesLess]
 | [],b::ys=>by simp [Lib.compareBytes,aG,Op.bytesLess]
 | a::xs,[]=>by simp [Lib.compareBytes,aG,Op.bytesLess]
 | a::xs,b::ys=>by
  have ih:=wy xs ys
  unfold aG at ih
  unfold Lib.compareBytes aG Op.bytesLess
  by_cases h1:a < b
  ·have:b≠a:=λe=>by subst e;exact UInt8.lt_irrefl _ h1
   have h2:¬ b < a:=λh=>UInt8.lt_irrefl _ (UInt8.lt_trans h h1)
   simp [h1,h2,this]
  ·by_cases h2:b < a
   ·simp [h1,h2]
   ·have:a=b:=UInt8.le_antisymm (UInt8.not_lt.1 h2) (UInt8.not_lt.1 h1)
    subst this
    simp [ih]
theorem uw:∀a b:List UInt8,Lib.compareBytes a b = -1∨Lib.compareBytes a b=0∨Lib.compareBytes a b=1
 | [],[]=>by simp [Lib.compareBytes]
 | [],b::ys=>by simp [Lib.compareBytes]
 | a::xs,[]=>by simp [Lib.compareBytes]
 | a::xs,b::ys=>by
  have ih:=uw xs ys
  unfold Lib.compareBytes
  split
  ·exact Or.inl rfl
  ·split
   ·exact Or.inr (Or.inr rfl)
   ·exact ih
theorem K4 (k n k' n':List UInt8):decide ((bif Lib.compareBytes k k' !=0 then Lib.compareBytes k k' else Lib.compareBytes n n')≥0)=(bif aG k' k then true else bif k'==k then (aG n' n||n'==n) else false):=by
 rcases uw k k' with h | h | h
 ·have h1:=(MO _ _).1 h
  have h2:aG k' k=false:=by
   cases hq:aG k' k with
   | false=>rfl
   | true=>have:=(wy _ _).2 hq;omega
  have h3:(k'==k)=false:=by
   cases hq:k'==k with
   | false=>rfl
   | true=>have:=(cmp_eq _ _).2 (eq_of_beq hq).symm;omega
  rw [h,h2,h3];rfl
 ·have h1:=(cmp_eq _ _).1 h
  subst h1
  have h2:aG k k=false:=by
   cases hq:aG k k with
   | false=>rfl
   | true=>have:=(wy _ _).2 hq;omega
  rw [h,h2,beq_self_eq_true]
  show decide (Lib.compareBytes n n'≥0)=_
  rcases uw n n' with h | h | h
  ·have h2:aG n' n=false:=by
    cases hq:aG n' n with
    | false=>rfl
    | true=>have:=(wy _ _).2 hq;omega
   have h3:(n'==n)=false:=by
    cases hq:n'==n with
    | false=>rfl
    | true=>have:=(cmp_eq _ _).2 (eq_of_beq hq).symm;omega
   rw [h,h2,h3];rfl
  ·have h1:=(cmp_eq _ _).1 h
   subst h1
   rw [h,beq_self_eq_true];cases aG n n <;> rfl
  ·rw [h,(wy _ _).1 h];rfl
 ·rw [h,(wy _ _).1 h];rfl
end Go.SM
namespace Go.SM
open Go Go.Ab Go.Proofs Go.SH
end Go.SM
namespace Go.SH
open Go Go.Ab Go.Proofs
structure CODES where
 n:Nat
 g:Nat->Int
 at':Nat
def CODES.c (C:CODES):List AV:=[.sl .no 1 C.n λj=>[.int .u8 (C.g j)],.int .i64 C.at']
def aZ (C:CODES):AO:=.cells C.c
def φX (x:Int×CODES):AV×List AO:=(.int .i64 x.1,[aZ x.2])
def φT (x:List UInt8×CODES):AV×List AO:=(.str x.1,[aZ x.2])
def φV (x:VAL×CODES):AV×List AO:=(.agg x.1.c,[aZ x.2])
def CODES.Ok (C:CODES):Prop:=C.at'<=C.n/\C.n<=4611686018427387904/\∀j,j < C.n->0<=C.g j/\C.g j < 256
instance:Inhabited CODES:=⟨⟨0,λ_=>0,0⟩⟩
theorem CODES.br {a b:CODES} (h:a.c=b.c):a=b:=by
 obtain ⟨n,g,p⟩:=a
 obtain ⟨n',g',p'⟩:=b
 simp only [CODES.c,List.cons.injEq,AV.sl.injEq,AV.int.injEq,true_and,and_true] at h
 obtain ⟨⟨rfl,h2⟩,h3⟩:=h
 have hg:g=g':=funext λj=>by
  have:=congrFun h2 j
  simpa using this
 have hp:p=p':=by omega
 rw [hg,hp]
def HD (C:CODES) (m:Int):Int×CODES:=bif decide (C.at' < C.n) then (Int.tmod (C.g C.at') m,{C with at':=C.at'+1}) else (0,C)
def nA (x:CODES×Int):List AV:=[.ref aa 0,.int .i64 x.2]
def nO (x:CODES×Int):List AO:=[aZ x.1]
def nP (x:CODES×Int):Prop:=x.1.Ok/\1<=x.2
noncomputable abbrev gN:List AV->List AO->Bool:=xM nA nO nP
def cA (_:CODES):List AV:=[.ref aa 0]
def cO (C:CODES):List AO:=[aZ C]
theorem eZ {τ:Type} (Post:τ->Prop) (a b:CODES) (x:τ) (_:cA a=cA b) (_:cO a=cO b) (h:Post x):Post x:=h
def vo:List (List UInt8):=[[115,101],[100,101],[117,115],[112,114,111],[102,114,101,101],[],[97,34,98],[99,92],[195,169],[112,114,111,115,101],[120,32,121]]
def QY:List Int:=[0,1,17,18,19,(-5),64,1099511627776,(-1099511627776)]
def M3:List (List UInt8):=[[49,46,48,46,48],[49,46,50,46,51],[49,46,49,48,46,48],[50,46,48,46,49],[48,46,48,46,48],[57,57,57,57,57,57,46,48,46,57,57,57,57,57,57]]
def qO:List (List (List UInt8)):=[[],[[112,114,111]],[[100,101],[115,101]],[[],[102,114,101,101],[117,115]],[[120,32,121]]]
def OD (kind:Int) (v:VAL):Prop:=v.kind=kind/\cy v=0/\v.Ok
def vA (x:CODES×Int):List AV:=[.ref aa 0,.int .i64 x.2]
def zV:List AV:=[.int .i64 0,.int .i64 0,.str [],.sl .fit 0 0 λ_=>[] ]
def exC (op:Int) (kind name:List UInt8) (vs:AV):List AV:=[.int .i64 op,.str kind,.str name,vs,.sl .fit 0 0 λ_=>[] ]
def ex0:List AV:=[.int .i64 0,.str [],.str [],.sl .fit 0 0 λ_=>[],.sl .fit 0 0 λ_=>[] ]
def TS (dk dn:List UInt8) (dt:Int) (n:Nat) (get:Nat->List AV) (C:CODES) (i:Nat):St:={env:=[(0,.ref aa 0),(2,.ref 2 0),(5,.ref 5 0),(6,.ref 6 0),(7,.int .i64 i)],objs:=[(2,.cells ex0),(5,.cells [.str dk,.str dn,.int .i64 dt]),(6,.cells (exC 8 dk dn (.sl (.key 63) 4 n get))),(63,.own 4 n),(aa,aZ C)]}
theorem Jc {c:Cx} {us us':List AV} {v:Value} (hl:us'.length=us.length) (hm:∀ (i:Nat) (u u':AV),us[i]?=some u->us'[i]?=some u'->u'.one=true/\∀x,Rep c u x->Rep c u' x) (h:Rep c (.agg us) v):Rep c (.agg us') v:=by
 cases h with
 | agg _ vs h1 h2 h3=>
  have hg:∀ (i:Nat) (u':AV),us'[i]?=some u'->∃u,us[i]?=some u:=λi u' hu=>by
   have:=(List.getElem?_eq_some_iff.1 hu).1
   exact ⟨us[i]'(by omega),List.getElem?_eq_getElem (by omega)⟩
  refine .agg _ vs (by rw [hl];exact h1) (λi u' hu=>?_) (λi u' hu=>?_)
  ·obtain ⟨u,h⟩:=hg i u' hu
   exact (hm i u u' h hu).1
  ·obtain ⟨u,h⟩:=hg i u' hu
   exact (hm i u u' h hu).2 _ (h3 i u h)
theorem Mb {c:Cx} {o:Own} {sz n:Nat} {get get':Nat->List AV} (hl:∀j,j < n->(get' j).length=sz/\ak (get' j)=[]) (hm:∀ (j i:Nat) (u u':AV),j < n->(get j)[i]?=some u->(get' j)[i]?=some u'->u'.one=true/\∀x,Rep c u x->Rep c u' x) (x:Value) (h:Rep c (.sl o sz n get) x):Rep c (.sl .no sz n get') x:=by
 cases h with
 | slNil _ _ _ ho=>exact .slNil _ _ _ trivial
 | sl _ _ _ _ ad cap vals h1 h2 h3 h4 h5 h6=>
  have hg:∀ (j i:Nat) (u':AV),j < n->(get' j)[i]?=some u'->∃u,(get j)[i]?=some u:=λj i u' hj hu=>by
   have:=(List.getElem?_eq_some_iff.1 hu).1
   rw [(hl j hj).1,<-(h4 j hj).1] at this
   exact ⟨_,List.getElem?_eq_getElem this⟩
  refine .sl _ _ _ _ ad cap vals h1 h2 trivial hl (λj i u' hj hu=>?_) (λj i u' hj hu=>?_)
  ·obtain ⟨u,h⟩:=hg j i u' hj hu
   exact ⟨(hm j i u u' hj h hu).1,(h5 j i u hj h).2⟩
  ·obtain ⟨u,h⟩:=hg j i u' hj hu
   exact (hm j i u u' hj h hu).2 _ (h6 j i u hj h)
def Ou:List (List UInt8):=(List.range 10).map λr=>[107,UInt8.ofNat (48+r)]
def F7 (e:EXP):Prop:=jZ e.part=0/\e.kids=[]/\e.Ok
theorem F7.ve {e:EXP} (h:F7 e):VE 1 e:=.mk _ _ h.1 λk hk=>by rw [h.2.1] at hk;cases hk
section
open Classical
end
def JO (x:EXP×CODES):Prop:=F7 x.1/\x.2.Ok
section
variable {C:CODES} {dk dn:List UInt8} (h1:ea dk=true) (h2:ea dn=true) (h3:dk.length<=100) (h4:dn.length<=100)
include h1 h2 h3 h4
end
abbrev TSt:=CODES ⊕ (List VAL×CODES)
def tI (dt:Int):TSt->Prop
 | .inl C=>C.Ok
 | .inr (l,C)=>C.Ok/\1<=l.length/\l.length<=3/\∀v∈l,OD dt v
instance:Inhabited (List VAL×CODES):=⟨([],default)⟩
set_option linter.unusedSectionVars false
section
end
end Go.SH
namespace Go.SH
open Go Go.Ab Go.Proofs
section
end
def VX (l:List (Int×Int×Int)) (j:Nat):List AV:=kl (l.getD j (0,0,0))
def SE (k at' last:Int) (m:Nat) (get:Nat->List AV) (C:CODES):St:={env:=[(0,.ref aa 0),(1,.int .i64 k),(5,.sl (.key 46) 3 m get),(6,.int .i64 at'),(7,.int .i64 last)],objs:=[(46,.own 3 m),(aa,aZ C)]}
structure SY where
 b:Bool
 l:List (Int×Int×Int)
 q:Nat
 a:Int
 v:Int
 C:CODES
instance:Inhabited SY:=⟨⟨true,[],0,0,0,default⟩⟩
def vI (n:Int) (y:SY) (k:Ex->St->Res):Res:=cond y.b (k (.exit 0) (SE n 0 0 0 (λ_=>kl (0,0,0)) y.C)) (k (.exit 0) (SE n y.a y.v (y.q+1) (VX y.l) y.C))
def φRg (x:List (Int×Int×Int)×CODES):AV×List AO:=(ou x.1,[aZ x.2])
theorem cT {α:Sort _} {b:Bool} {x y:α} (h:b=true):cond b x y=x:=by rw [h];rfl
theorem cF {α:Sort _} {b:Bool} {x y:α} (h:b=false):cond b x y=y:=by rw [h];rfl
abbrev RG:=Int×Int×Int
def MP (n:Int):Int->Int->List RG->Prop
 | _,_,[]=>True
 | a,v,r::l=>r.1=a/\a < r.2.1/\1<=r.2.2/\r.2.2<=n/\r.2.2≠v/\MP n r.2.1 r.2.2 l
def Ry:Int->Int->List RG->Int×Int
 | a,v,[]=>(a,v)
 | _,_,r::l=>Ry r.2.1 r.2.2 l
abbrev SSt:=CODES ⊕ (List RG×CODES)
def sI (n:Int):SSt->Prop
 | .inl C=>C.Ok
 | .inr (l,C)=>C.Ok/\1<=l.length/\l.length<=3/\MP n 0 0 l/\0<=(Ry 0 0 l).1/\(Ry 0 0 l).1 < 10000/\1<=(Ry 0 0 l).2/\(Ry 0 0 l).2<=n/\2<=n
instance:Inhabited (List RG×CODES):=⟨([],default)⟩
structure RV where
 k:Nat
 n:Nat
 get:Nat->List AV
 C:CODES
instance:Inhabited RV:=⟨⟨0,0,λ_=>[],default⟩⟩
def RL0 (C:CODES):St:={env:=[(0,.ref aa 0),(1,.sl .fit 0 0 λ_=>[]),(6,.int .i64 0)],objs:=[(aa,aZ C)]}
def RL (m:Nat) (get:Nat->List AV) (C:CODES) (i:Int):St:={env:=[(0,.ref aa 0),(1,.gsl 75 3 m),(6,.int .i64 i)],objs:=[(75,.grw 0 3 m get),(aa,aZ C)]}
structure RO where
 m:Nat
 get:Nat->List AV
 C:CODES
instance:Inhabited RO:=⟨⟨0,λ_=>[],default⟩⟩
structure RP where
 m:Nat
 l:List (Int×Int×Int)
 C:CODES
instance:Inhabited RP:=⟨⟨0,[],default⟩⟩
def rdec:List AV->RG
 | [.int _ a,.int _ b,.int _ c]=>(a,b,c)
 | _=>(0,0,0)
def Ta (a:List AV):Prop:=a=kl (rdec a)
abbrev RSt:=CODES ⊕ RO
def rS:RSt->St
 | .inl C=>RL0 C
 | .inr x=>RL x.m x.get x.C x.m
def rZ (x:RO):Prop:=x.C.Ok/\16<=x.m/\x.m<=17/\∀j,j < x.m->Ta (x.get j)
def UZ:AV:=.sl .fit 0 0 λ_=>[]
def φC (x:EXP×CODES):AV×List AO:=(.agg (LC x.1.op x.1.kind x.1.name x.1.vals x.1.kids.length (EXP.row x.1.kids)),[aZ x.2])
def exK (op:Int) (ks:AV):List AV:=[.int .i64 op,.str [],.str [],.sl .fit 0 0 λ_=>[],ks]
inductive KID where
 | plain (e:EXP)
 | neg (e:EXP)
def KID.e:KID->EXP
 | .plain e=>e
 | .neg e=>VV e
def eC (e:EXP):List AV:=LC e.op e.kind e.name e.vals e.kids.length (EXP.row e.kids)
def KID.c:KID->List AV
 | .plain e=>eC e
 | .neg e=>exK 4 (.sl .fit 5 1 (ae ex0 [(0,.agg (eC e))]))
def U3 (l:List KID) (j:Nat):List AV:=(l.map KID.c).getD j ex0
def XS (op lv n:Int) (m:Nat) (get:Nat->List AV) (C:CODES) (i:Nat):St:={env:=[(0,.ref aa 0),(1,UZ),(2,.int .i64 lv),(6,.ref 6 0),(8,.int .i64 op),(9,.ref 9 0),(10,.int .i64 n),(11,.int .i64 i)],objs:=[(6,.cells ex0),(9,.cells (exK op (.sl (.key 81) 5 m get))),(81,.own 5 m),(aa,aZ C)]}
def XE (op:Int) (m:Nat) (get:Nat->List AV) (C:CODES):St:={env:=[(6,.ref 6 0),(9,.ref 9 0)],objs:=[(6,.cells ex0),(9,.cells (exK op (.sl (.key 81) 5 m get))),(81,.own 5 m),(aa,aZ C)]}
def UP (op:Int) (x:List KID×CODES) (k:Ex->St->Res):Res:=k (.exit 1) (XE op x.1.length (U3 x.1) x.2)
abbrev XSt:=CODES ⊕ (List KID×CODES)
def xA (lv:Int) (_:CODES):List AV:=[.ref aa 0,UZ,.int .i64 lv]
def S5 (q:Nat) (x:EXP×CODES):Prop:=(VE q x.1/\x.1.Ok)/\x.2.Ok
def okK (op:Int) (q:Nat) (k:KID):Prop:=VE (q+1) k.e/\k.e.op≠op/\k.e.Ok
def xI (op:Int) (q n:Nat):XSt->Prop
 | .inl C=>C.Ok
 | .inr (l,C)=>C.Ok/\1<=l.length/\l.length<=n/\∀k∈l,okK op q k
instance:Inhabited (List KID×CODES):=⟨([],default)⟩
def Se (a b:List AV):Prop:=∀ (i:Nat) (u u':AV),a[i]?=some u->b[i]?=some u'->u'.one=true/\∀c x,Rep c u x->Rep c u' x
set_option linter.unusedSectionVars false
theorem JO.x {x:EXP×CODES} (h:JO x) (d:Nat):S5 (2*d+1) x:=⟨⟨h.1.ve.le (by omega),h.1.2.2⟩,h.2⟩
section
end
end Go.SH
namespace Go.SH
open Go Go.Ab Go.Proofs
structure KV where
 op:Int
 kd:List UInt8
 nm:List UInt8
 m:Nat
 gv:Nat->List AV
 n:Nat
 g:Nat->List AV
 C:CODES
instance:Inhabited KV:=⟨⟨0,[],[],0,λ_=>[],0,λ_=>[],default⟩⟩
structure K1 where
 op:Int
 kd:List UInt8
 nm:List UInt8
 m:Nat
 gv:Nat->List AV
 l:List EXP
 C:CODES
instance:Inhabited K1:=⟨⟨0,[],[],0,λ_=>[],[],default⟩⟩
def NL (t:EXP) (C:CODES) (i:Int):St:={env:=[(0,.ref aa 0),(3,.ref 3 0),(4,.ref 4 0),(6,.int .i64 i)],objs:=[(3,.cells (eC t)),(4,.cells ex0),(aa,aZ C)]}
def SN (x:EXP×CODES×Int):St:=NL x.1 x.2.1 x.2.2
inductive Fit (b:Nat):EXP->Prop
 | mk (e:EXP):jg e.kind->jg e.name->e.vals.length<=b->(∀v∈e.vals,v.Ok)->e.kids.length<=b->(∀k∈e.kids,Fit b k)->Fit b e
theorem Fit.ok {b:Nat} (hb:b<=1048576) {e:EXP} (h:Fit b e):e.Ok:=by
 induction h with
 | mk e h1 h2 h3 h4 h5 _ ih=>exact .mk e h1 h2 ⟨by omega,h4⟩ (Nat.le_trans h5 hb) ih
theorem Fit.mono {b b':Nat} (hb:b<=b') {e:EXP} (h:Fit b e):Fit b' e:=by
 induction h with
 | mk e h1 h2 h3 h4 h5 _ ih=>exact .mk e h1 h2 (Nat.le_trans h3 hb) h4 (Nat.le_trans h5 hb) ih
theorem VE.fit {l:Nat} {e:EXP} (h:VE l e) (ho:e.Ok):Fit 20 e:=by
 induction h with
 | mk l e h1 h2 ih=>
  cases ho with
  | mk _ o1 o2 o3 o4 o5=>
   have hp:e.part.n<=12/\e.part.vals.length<=20:=by
    unfold jZ at h1
    by_cases hc:(decide (e.part.n > 12)||decide (e.part.vals.length > 20))=true
    ·rw [hc] at h1
     cases h5:(decide (e.part.op < 1)||decide (e.part.op > 15)) <;> cases h6:!countB e.part <;> simp [h5,h6] at h1
    ·simp only [Bool.or_eq_true,decide_eq_true_eq,not_or] at hc
     omega
   exact .mk e o1 o2 hp.2 o3.2 (show e.part.n<=20 by omega) λk hk=>ih k hk (o5 k hk)
def Kv (a:List AV):Prop:=∃v:VAL,v.Ok/\Se a v.c
def Sx (b:Nat) (a:List AV):Prop:=∃e:EXP,Fit b e/\Se a (eC e)
def kA (x:EXP×CODES):List AV:=[.ref aa 0,.agg (eC x.1)]
def kO (x:EXP×CODES):List AO:=[aZ x.2]
theorem Sx.mono {b b':Nat} (h:b<=b') {a:List AV} (hr:Sx b a):Sx b' a:=by
 obtain ⟨e,h1,h2⟩:=hr
 exact ⟨e,h1.mono h,h2⟩
theorem cC {P:List AV->Prop} {m:Nat} {get:Nat->List AV} {z a:List AV} (h:∀j,j < m->P (get j)) (ha:P (ae z [(0,.agg a)] 0)):∀j,j < m+1->P (af m 1 get (ae z [(0,.agg a)]) j):=by
 intro j hj
 by_cases hm:j < m
 ·rw [eM hm];exact h j hm
 ·obtain rfl:j=m:=by omega
  rw [fS (Nat.le_refl _) (by omega),Nat.sub_self]
  exact ha
instance:Inhabited (EXP×CODES×Int):=⟨(default,default,0)⟩
instance:Inhabited (EXP×CODES×Nat):=⟨(default,default,0)⟩
instance:Inhabited (KV×Int):=⟨(default,0)⟩
structure kOk (b m0:Nat) (x:KV):Prop where
 kd:jg x.kd
 nm:jg x.nm
 m:x.m<=m0
 gv:∀j,j < x.m->Kv (x.gv j)
 C:x.C.Ok
def kI (b m0:Nat) (v:KV×Nat):Prop:=kOk b m0 v.1/\v.2<=11/\v.2<=v.1.n/\v.1.n<=b+v.2/\∀j,j < v.1.n->Sx b (v.1.g j)
instance:Inhabited (KV×Nat):=⟨(default,0)⟩
set_option linter.unusedSectionVars false
theorem Fit.kd {b:Nat} {e:EXP} (h:Fit b e):jg e.kind:=by cases h;assumption
theorem Fit.nm {b:Nat} {e:EXP} (h:Fit b e):jg e.name:=by cases h;assumption
section
variable {b:Nat} (hb:20<=b) (hb':b<=1000) {e:EXP} (he:Fit b e) {C D0 D:CODES} (hC:C.Ok) (hD0:D0.Ok) (hD:D.Ok) (hs:(e.kids.length=0/\D0=C)∨(∃q,e.kids.length=q+1/\HD C 3=(0,D0)))
include hb hb' he hC hD0 hD hs
end
end Go.SH
namespace Go.SH
open Go Go.Ab Go.Proofs
theorem wg {a b:EXP} (h:eC a=eC b):a=b:=EXP.br _ _ (by rw [EXP.yu,EXP.yu];exact h)
def kP (b n:Nat) (x:EXP×CODES):Prop:=Fit b x.1/\x.2.Ok/\SizeOf.sizeOf x.1 < n
def zE:EXP:=.mk 0 [] [] [] []
def x0:List AV:=[.str [],.str [],.str [],.str [],.int .i64 0,.sl .fit 0 0 λ_=>[],.sl .fit 0 0 λ_=>[],.int .i64 0,.str [],.str [],.sl .fit 0 0 λ_=>[],.sl .fit 0 0 λ_=>[] ]
def spA (x:(Int×Int)):Nat->List AV:=λ_=>[.int .i64 x.1,.int .i64 x.2]
structure XO where
 m:Nat
 get:Nat->List AV
 C:CODES
instance:Inhabited XO:=⟨⟨0,λ_=>[],default⟩⟩
def φEx (x:EXPT×CODES):AV×List AO:=(.agg x.1.c,[aZ x.2])
def mA (x:Int×Int):List AV:=[.int .i64 x.1,.int .i64 x.2]
def eV (x:Int×Int) (z:Int):Prop:=0<=z/\z < x.2
structure ZV where
 s:List (Int×Int)
 n:Int
 bk:Int
 k:Int
 l:List RG
 x:List RG
 y:EXPT
instance:Inhabited EXPT:=⟨⟨[],[],[],[],0,[],[],default⟩⟩
instance:Inhabited ZV:=⟨⟨[],0,0,0,[],[],default⟩⟩
theorem JU {a b:List (Int×Int)} (h:AP a=AP b):a=b:=by
 simp only [AP,AV.sl.injEq,true_and] at h
 obtain ⟨h1,h2⟩:=h
 apply List.ext_getElem h1
 intro j j1 j2
 have:=congrFun h2 j
 simp only [List.getD,List.getElem?_eq_getElem j1,List.getElem?_eq_getElem j2,Option.getD_some,uK,List.cons.injEq,AV.int.injEq,true_and,and_true] at this
 exact Prod.ext this.1 this.2
def sA (x:List RG×Int):List AV:=[ou x.1,.int .i64 x.2]
def sP (x:List RG×Int):Prop:=x.1.length<=1000000
structure ZOk (z:ZV):Prop where
 s:z.s.length<=1000000
 l:z.l.length<=1000000
 x:z.x.length<=1000000
 a:z.y.arms.length<=1000000
 c:z.y.claims.length<=1000000
end Go.SH
namespace Go.SM
open Go Go.Ab Go.Proofs Go.SH
theorem Ia {α:Type} [Inhabited α] {sz:Nat} {R:α->List AV} (hR:∀a b,R a=R b->a=b) {l l':List α} (h:AV.sl .no sz l.length (λj=>R (l.getD j default))=AV.sl .no sz l'.length (λj=>R (l'.getD j default))):l=l':=by
 simp only [AV.sl.injEq,true_and] at h
 obtain ⟨h1,h2⟩:=h
 apply List.ext_getElem h1
 intro i hi hj
 have:=hR _ _ (congrFun h2 i)
 simpa [List.getD,List.getElem?_eq_getElem hi,List.getElem?_eq_getElem hj] using this
theorem PRQ.br {a b:PRQ} (h:a.c=b.c):a=b:=by
 obtain ⟨f,v⟩:=a
 obtain ⟨f',v'⟩:=b
 simp only [PRQ.c,List.cons.injEq,AV.str.injEq,AV.int.injEq,true_and,and_true] at h
 obtain ⟨rfl,rfl⟩:=h;rfl
theorem KX {a b:List PRQ} (h:Mo a=Mo b):a=b:=Ia (R:=PRQ.c) (λ_ _=>PRQ.br) h
theorem TGT.br {a b:TGT} (h:a.c=b.c):a=b:=by
 obtain ⟨f,v,k⟩:=a
 obtain ⟨f',v',k'⟩:=b
 simp only [TGT.c,List.cons.injEq,AV.str.injEq,AV.int.injEq,true_and,and_true] at h
 obtain ⟨rfl,rfl,h⟩:=h
 rw [fu h]
theorem JJ {a b:List TGT} (h:M5 a=M5 b):a=b:=Ia (R:=TGT.c) (λ_ _=>TGT.br) h
theorem wD {a b:EXP} (h1:a.op=b.op) (h2:a.kind=b.kind) (h3:a.name=b.name) (h4:jP a.vals=jP b.vals) (h5:exL a.kids=exL b.kids):a=b:=by
 obtain ⟨o,k,n,v,ks⟩:=a
 obtain ⟨o',k',n',v',ks'⟩:=b
 have e1:o=o':=h1
 have e2:k=k':=h2
 have e3:n=n':=h3
 have e4:v=v':=EXP.wH h4
 have e5:ks=ks':=Ip h5
 rw [e1,e2,e3,e4,e5]
theorem SERVE.ext' {a b:SERVE} (h1:a.var=b.var) (h2:a.kind=b.kind) (h3:a.by'=b.by') (h4:a.salt=b.salt) (h5:ou a.split=ou b.split):a=b:=by
 obtain ⟨o,k,n,v,ks⟩:=a
 obtain ⟨o',k',n',v',ks'⟩:=b
 have e1:o=o':=h1
 have e2:k=k':=h2
 have e3:n=n':=h3
 have e4:v=v':=h4
 have e5:ks=ks':=se h5
 rw [e1,e2,e3,e4,e5]
theorem RULE.br {a b:RULE} (h:a.c=b.c):a=b:=by
 obtain ⟨n,w,s⟩:=a
 obtain ⟨n',w',s'⟩:=b
 simp only [RULE.c,List.cons.injEq,AV.str.injEq,AV.int.injEq,true_and,and_true] at h
 obtain ⟨rfl,h1,h2,h3,h4,h5,h6,h7,h8,h9,h10⟩:=h
 rw [wD h1 h2 h3 h4 h5,SERVE.ext' h6 h7 h8 h9 h10]
theorem Kp {a b:List RULE} (h:nG a=nG b):a=b:=Ia (R:=RULE.c) (λ_ _=>RULE.br) h
theorem FLAG.br {a b:FLAG} (h:a.c=b.c):a=b:=by
 obtain ⟨a1,a2,a3,a4,a5,a6,a7,a8,a9⟩:=a
 obtain ⟨b1,b2,b3,b4,b5,b6,b7,b8,b9⟩:=b
 simp only [FLAG.c,List.cons.injEq,AV.str.injEq,AV.int.injEq,AV.bool.injEq,true_and,and_true] at h
 obtain ⟨rfl,rfl,h1,rfl,rfl,h2,h3,h4,h6,h7,h8,h9,h10⟩:=h
 rw [EXP.wH h1,KX h2,JJ h3,Kp h4,SERVE.ext' h6 h7 h8 h9 h10]
theorem SEG.br {a b:SEG} (h:a.c=b.c):a=b:=by
 obtain ⟨a1,a2,a3,a4,a5⟩:=a
 obtain ⟨b1,b2,b3,b4,b5⟩:=b
 simp only [SEG.c,List.cons.injEq,AV.str.injEq,AV.int.injEq,true_and,and_true] at h
 obtain ⟨rfl,rfl,h1,h2,h3,h4,h5,h6,h7⟩:=h
 rw [fu h1,fu h2,wD h3 h4 h5 h6 h7]
theorem LAYER.br {a b:LAYER} (h:a.c=b.c):a=b:=by
 obtain ⟨a1,a2,a3,a4,a5,a6⟩:=a
 obtain ⟨b1,b2,b3,b4,b5,b6⟩:=b
 simp only [LAYER.c,List.cons.injEq,AV.str.injEq,AV.int.injEq,true_and,and_true] at h
 obtain ⟨rfl,rfl,rfl,rfl,rfl,h1⟩:=h
 rw [se h1]
theorem EXPT.br {a b:EXPT} (h:a.c=b.c):a=b:=by
 obtain ⟨a1,a2,a3,a4,a5,a6,a7,a8⟩:=a
 obtain ⟨b1,b2,b3,b4,b5,b6,b7,b8⟩:=b
 simp only [EXPT.c,List.cons.injEq,AV.str.injEq,AV.int.injEq,true_and,and_true] at h
 obtain ⟨rfl,rfl,rfl,rfl,rfl,h1,h2,h3,h4,h5,h6,h7⟩:=h
 rw [JU h1,se h2,wD h3 h4 h5 h6 h7]
def y4 (chk:Nat->Int) (bad:Nat->Bool):Nat->Nat->Int
 | 0,_=>0
 | r+1,i=>bif chk i !=0 then chk i else bif bad i then 9 else y4 chk bad r (i+1)
def bR (most:Int) (n:Nat) (chk:Nat->Int) (bad:Nat->Bool):Int:=bif decide ((n:Int) > most) then 5 else y4 chk bad n 0
def El (key:Nat->List UInt8) (i:Nat):Bool:=bif decide ((i:Int) > 0) then (aG (key i) (key (i - 1))||key i==key (i - 1)) else false
theorem Td {i n:Nat} (h:i < n) (hn:n<=4611686018427387904):(bif within (IntKind.wrap .i64 ((i:Int) - 1)) n then true else !(bif decide ((i:Int) > 0)==true then true else false))=true:=by
 by_cases h0:i=0
 ·subst h0;cases within (IntKind.wrap .i64 (((0:Nat):Int) - 1)) n <;> rfl
 ·rw [wrap_i64 (by omega) (by omega),aA (by omega) (by omega)];rfl
theorem NU {i:Nat} (h:0 < i) (hn:i<=4611686018427387904):Int.toNat (IntKind.wrap .i64 ((i:Int) - 1))=i - 1:=by
 rw [wrap_i64 (by omega) (by omega)];omega
theorem bad_eq {key:Nat->List UInt8} {i:Nat} (hi:i<=4611686018427387904):(bif decide ((i:Int) > 0) then aG (key i) (key (Int.toNat (IntKind.wrap .i64 ((i:Int) - 1))))||key i==key (Int.toNat (IntKind.wrap .i64 ((i:Int) - 1))) else false)=El key i:=by
 unfold El
 by_cases h0:0 < i
 ·rw [NU h0 hi]
 ·rw [decide_eq_false (by omega)];rfl
def uO (l:List SEG):Int:=bR 20 l.length (λi=>Fy (l.getD i default)) (El λi=>(l.getD i default).key)
def uY (l:List FLAG):Int:=bR 30 l.length (λi=>nU (l.getD i default)) (El λi=>(l.getD i default).key)
def uT (l:List LAYER):Int:=bR 6 l.length (λi=>jt (l.getD i default)) (El λi=>(l.getD i default).key)
def yx (l:List EXPT):Int:=bR 16 l.length (λi=>pX (l.getD i default)) (El λi=>(l.getD i default).key)
abbrev ATT:=List UInt8×List UInt8×Int
def En (l:List ATT) (i:Nat):Int:=
 bif bif bif !ea (l.getD i ([],[],0)).1 then true else !ea (l.getD i ([],[],0)).2.1 then true else (l.getD i ([],[],0)).2.1==[107,101,121] then 6
 else bif bif decide ((l.getD i ([],[],0)).2.2 < 1) then true else decide ((l.getD i ([],[],0)).2.2 > 5) then 7 else 0
def vf (l:List ATT) (i:Nat):Bool:=
 bif decide ((i:Int) > 0) then (bif aG (l.getD i ([],[],0)).1 (l.getD (i - 1) ([],[],0)).1 then true else bif (l.getD i ([],[],0)).1==(l.getD (i - 1) ([],[],0)).1 then (aG (l.getD i ([],[],0)).2.1 (l.getD (i - 1) ([],[],0)).2.1||(l.getD i ([],[],0)).2.1==(l.getD (i - 1) ([],[],0)).2.1) else false) else false
def ya (l:List ATT):Int:=bR 30 l.length (En l) (vf l)
def ATT.Ok (a:ATT):Prop:=jg a.1/\jg a.2.1
theorem Du {i n:Nat} (h:i < n) (hn:n<=4611686018427387904) {X:Bool} (hX:decide ((i:Int) > 0)=false->X=false):(bif within (IntKind.wrap .i64 ((i:Int) - 1)) n then true else !X)=true:=by
 by_cases h0:i=0
 ·subst h0;rw [hX rfl];cases within (IntKind.wrap .i64 (((0:Nat):Int) - 1)) n <;> rfl
 ·rw [wrap_i64 (by omega) (by omega),aA (by omega) (by omega)];rfl
theorem R9 {l:List ATT} (hl:okL ATT.Ok l) {i:Nat} (hi:i < l.length):ATT.Ok (l.getD i ([],[],0)):=by
 rw [List.getD_eq_getElem?_getD,List.getElem?_eq_getElem hi]
 exact hl.2 _ (List.getElem_mem hi)
def rA (s h:List UInt8) (n:Int):Int:=bif !df s then 2 else bif (bif decide (n < 0) then true else decide (n > 10000)) then 3 else bif (bif !ea h then bif !(h==[]) then true else n !=0 else false) then 6 else 0
def iG (e:ENV):Int:=
 bif rA e.salt e.hkind e.hold !=0 then rA e.salt e.hkind e.hold else bif ya e.attrs !=0 then ya e.attrs else
 bif uO e.segs !=0 then uO e.segs else bif uY e.flags !=0 then uY e.flags else bif uT e.layers !=0 then uT e.layers else yx e.expts
structure ENV.Ok (e:ENV):Prop where
 salt:jg e.salt
 hkind:jg e.hkind
 attrs:okL ATT.Ok e.attrs
 segs:okL SEG.Ok e.segs
 flags:okL FLAG.Ok e.flags
 layers:okL LAYER.Ok e.layers
 expts:okL EXPT.Ok e.expts
structure UQ where
 n:Nat
 w:Nat->Int
 m:Int
 ok:Bool
instance:Inhabited UQ:=⟨⟨0,λ_=>0,0,false⟩⟩
def φQ' (x:UQ):AV×List AO:=(.tup [.sl .no 1 x.n (IG x.w),.int .i64 x.m,.bool x.ok],[])
def QQ (e:ENV) (f:FLAG) (n:Nat) (g:Nat->List UInt8) (t:Int) (k:Ex->St->Res):Res:=cond (t !=0) (k .ret {env:=[(4,.int .i64 t)],objs:=[]}) (k (.exit 0) {env:=[(2,.ref 2 0),(3,.ref 3 0),(5,txA n g)],objs:=[(2,.cells e.c),(3,.cells f.c)]})
def QP (e:ENV) (f:FLAG) (t:Int) (k:Ex->St->Res):Res:=cond (t !=0) (k .ret {env:=[(4,.int .i64 t)],objs:=[]}) (k (.exit 2) {env:=[(2,.ref 2 0),(3,.ref 3 0)],objs:=[(2,.cells e.c),(3,.cells f.c)]})
def QK (e:ENV) (x:EXPT) (i:Nat) (a:Int) (t:Int) (k:Ex->St->Res):Res:=cond (t !=0) (k .ret {env:=[(4,.int .i64 t)],objs:=[]}) (k (.exit 0) {env:=[(1,.int .i64 i),(2,.ref 2 0),(5,.ref 5 0),(6,.int .i64 a)],objs:=[(2,.cells e.c),(5,.cells x.c)]})
def QJ (e:ENV) (x:EXPT) (i:Nat) (o:SO) (k:Ex->St->Res):Res:=k (.exit 2) {env:=[(1,.int .i64 i),(2,.ref 2 0),(5,.ref 5 0),(10,.sl (.key 100) 2 o.n (SP o.F o.T))],objs:=[(2,.cells e.c),(5,.cells x.c),(100,.own 2 o.n)]}
def QH (t:Int) (k:Ex->St->Res):Res:=cond (t !=0) (k .ret {env:=[(4,.int .i64 t)],objs:=[]}) (k (.exit 4) {env:=[],objs:=[]})
abbrev STE:=List UInt8×Int
instance:Inhabited STE:=⟨([],0)⟩
def φV' (x:STE):AV×List AO:=(.tup [.str x.1,.int .i64 x.2],[])
def N8 (e:ENV) (t:STE) (k:Ex->St->Res):Res:=cond (t.2 !=0) (k .ret {env:=[(2,.str t.1),(3,.int .i64 t.2)],objs:=[]}) (k (.exit 2) {env:=[(1,.ref 1 0)],objs:=[(1,.cells e.c)]})
def eU (t:STE) (k:Ex->St->Res):Res:=cond (t.2 !=0) (k .ret {env:=[(2,.str t.1),(3,.int .i64 t.2)],objs:=[]}) (k (.exit 4) {env:=[],objs:=[]})
theorem bw {t u:Int} (h:(bif t !=0 then t else u)=0):t=0/\u=0:=by
 cases hz:(t !=0) with
 | true=>rw [hz] at h;have h:t=0:=h;rw [h] at hz;cases hz
 | false=>rw [hz] at h;exact ⟨by simpa using hz,h⟩
theorem cb {b:Bool} {t u:Int} (ht:t≠0) (h:(bif b then t else u)=0):b=false/\u=0:=by
 cases b with
 | true=>exact absurd h ht
 | false=>exact ⟨rfl,h⟩
mutual
theorem FM:∀ (e:EXP) (d n:Nat),(gS e d n).1=0->KOk e/\(gS e d n).2=n+e.size/\n+e.size<=60
 | .mk o k nm v ks,d,n,h=>by
  rw [gS] at h ⊢
  by_cases hn:n≥60
  ·rw [decide_eq_true hn] at h;exact absurd (show (5:Int)=0 from h) (by decide)
  ·rw [decide_eq_false hn,cond_false] at h ⊢
   cases hl:(fH (.mk o k nm v ks) d !=0) with
   | true=>
    rw [hl] at h
    have h:fH (.mk o k nm v ks) d=0:=h
    rw [h] at hl;cases hl
   | false=>
    rw [hl] at h
    rw [cond_false] at h ⊢
    have hl:fH (.mk o k nm v ks) d=0:=by simpa using hl
    have hp:jZ (EXP.mk o k nm v ks).part=0:=by
     unfold fH at hl
     exact (cb (by decide) hl).2
    have hk:=Hw hp
    obtain ⟨h1,h2,h3⟩:=Cy ks (d+1) (n+1) (by omega) h
    rw [EXP.size]
    exact ⟨.mk _ hk.1 (Nat.le_trans hk.2 (by decide)) h1,by rw [h2];omega,by omega⟩
theorem Cy:∀ (l:List EXP) (d n:Nat),n<=60->(jN l d n).1=0->(∀k∈l,KOk k)/\(jN l d n).2=n+cG l/\n+cG l<=60
 | [],d,n,hn,h=>⟨λk hk=>(List.not_mem_nil hk).elim,by rw [jN,cG];rfl,by rw [cG];exact hn⟩
 | e::r,d,n,hn,h=>by
  rw [jN] at h ⊢
  cases hz:((gS e d n).1 !=0) with
  | true=>
   rw [hz] at h
   have h:(gS e d n).1=0:=h
   rw [h] at hz;cases hz
  | false=>
   rw [hz] at h
   rw [cond_false] at h ⊢
   have hz:(gS e d n).1=0:=by simpa using hz
   obtain ⟨h1,h2,h3⟩:=FM e d n hz
   rw [h2] at h ⊢
   obtain ⟨h4,h5,h6⟩:=Cy r d (n+e.size) h3 h
   rw [cG]
   refine ⟨λk hk=>?_,by rw [h5];omega,by omega⟩
   rcases List.mem_cons.1 hk with rfl | hk
   ·exact h1
   ·exact h4 k hk
end
theorem xQ {e:EXP} (h:gq e=0):KOk e/\e.size<=60:=by
 obtain ⟨h1,h2,h3⟩:=FM e 0 0 h
 exact ⟨h1,by omega⟩
theorem XOk.of {e:EXP} (h:KOk e/\e.size<=60):XOk e:=⟨h.1,Nat.le_trans h.2 (by decide)⟩
theorem HA {e:EXP} (h:kS e=true):KOk e/\e.size<=60:=by
 unfold kS at h
 simp only [Bool.and_eq_true,beq_iff_eq] at h
 obtain ⟨h1,_,_,_,h5⟩:=h
 have hk:e.kids=[]:=List.length_eq_zero_iff.1 h5
 refine ⟨.mk e (λho=>by rw [h1] at ho;rcases ho with h | h | h <;> cases h) (by rw [hk];decide) (by rw [hk];exact λk hk=>(List.not_mem_nil hk).elim),?_⟩
 rw [e.size_eq,hk,cG];decide
theorem ja {s:List UInt8} (h:(!ea s)=false):s.length<=32:=by
 unfold ea at h
 simp only [Bool.not_eq_false',Bool.and_eq_true,decide_eq_true_eq] at h
 exact h.2.1
theorem Qh {g:SEG} (h:Fy g=0):(KOk g.when/\g.when.size<=60)/\g.key.length<=32:=by
 unfold Fy at h
 have hk:=(cb (by decide) h).1
 refine ⟨?_,ja (Bool.or_eq_false_iff.1 hk).1⟩
 have h:=(cb (by decide) h).2
 have h:=(bw (bw h).2).2
 cases hb:kS g.when with
 | true=>exact HA hb
 | false=>rw [hb] at h;exact xQ h
def Jk (f:FLAG):Prop:=f.key.length<=32/\f.prqs.length<=4/\f.rules.length<=12/\∀r∈f.rules,KOk r.when/\r.when.size<=60
theorem dJ {n m:Nat} (h:decide (n > m)=false):n<=m:=by have:=of_decide_eq_false h;omega
theorem OS {x:EXPT} (h:pX x=0):((KOk x.when/\x.when.size<=60)/\x.claims.length<=16)/\x.key.length<=32:=by
 unfold pX at h
 refine ⟨?_,ja (Bool.or_eq_false_iff.1 (cb (by decide) h).1).1⟩
 have h:=(cb (by decide) h).2
 have h:=(cb (by decide) h).2
 have h:=(cb (by decide) h).2
 obtain ⟨h1,h⟩:=bw h
 have h:=(bw h).2
 unfold nh at h1
 exact ⟨xQ h,dJ (cb (by decide) h1).1⟩
theorem C8 {chk:Nat->Int} {bad:Nat->Bool}:∀r i,y4 chk bad r i=0->∀j,i<=j->j < i+r->chk j=0
 | 0,i,_,j,h1,h2=>by omega
 | r+1,i,h,j,h1,h2=>by
  rw [y4] at h
  obtain ⟨h3,h4⟩:=bw h
  have h4:=(cb (by decide) h4).2
  by_cases hj:j=i
  ·rw [hj];exact h3
  ·exact C8 r (i+1) h4 j (by omega) (by omega)
theorem iD {most:Nat} {n:Nat} {chk:Nat->Int} {bad:Nat->Bool} (h:bR most n chk bad=0):n<=most/\∀j,j < n->chk j=0:=by
 unfold bR at h
 obtain ⟨h1,h2⟩:=cb (by decide) h
 exact ⟨by have:=of_decide_eq_false h1;omega,λj hj=>C8 n 0 h2 j (Nat.zero_le _) (by omega)⟩
theorem sB {α:Type} [Inhabited α] {l:List α} {p:α->Prop} (h:∀j,j < l.length->p (l.getD j default)):∀x∈l,p x:=λx hx=>by
 obtain ⟨j,hj,rfl⟩:=List.getElem_of_mem hx
 have:=h j hj
 simpa [List.getD,hj] using this
structure GoodE (e:ENV):Prop where
 ok:e.Ok
 segs:e.segs.length<=1000
 flags:e.flags.length<=1000
 expts:e.expts.length<=1000
 seg:∀g∈e.segs,(KOk g.when/\g.when.size<=60)/\g.key.length<=32
 flag:∀f∈e.flags,Jk f
 expt:∀x∈e.expts,((KOk x.when/\x.when.size<=60)/\x.claims.length<=16)/\x.key.length<=32
theorem yW {m:Nat}:∀ {l:List EXP},(∀k∈l,k.size<=m)->cG l<=l.length*m
 | [],_=>by simp [cG]
 | x::l,h=>by
  have h1:=h x (List.mem_cons_self ..)
  have h2:=yW (l:=l) λx hx=>h x (List.mem_cons_of_mem _ hx)
  rw [cG,List.length_cons,Nat.succ_mul];omega
theorem L5 {l:List RULE} (h:∀r∈l,r.when.size<=60):cG (whens l)<=l.length*60:=by
 have:whens l=l.map RULE.when:=rfl
 rw [this]
 have h1:=yW (m:=60) (l:=l.map RULE.when) λk hk=>by
  obtain ⟨r,hr,rfl⟩:=List.mem_map.1 hk
  exact h r hr
 simpa using h1
theorem L6 (n m:Nat) (F T F' T':Nat->Int):∃F'' T'',af n m (SP F T) (SP F' T')=SP F'' T'':=by
 refine ⟨λj=>(Jv n m (λj=>(F j,T j)) (λj=>(F' j,T' j)) j).1,λj=>(Jv n m (λj=>(F j,T j)) (λj=>(F' j,T' j)) j).2,?_⟩
 exact yk (λp:Int×Int=>[AV.int .i64 p.1,.int .i64 p.2]) n m (λj=>(F j,T j)) (λj=>(F' j,T' j))
theorem L7 (h:Int):ae (SP Int.ofNat Int.ofNat 0) [(0,.agg [.int .i64 0,.int .i64 h])]=SP (λ_=>0) (λj=>bif Nat.beq 0 j then h else 0):=by
 funext j
 unfold ae
 show _=[AV.int .i64 0,.int .i64 (bif Nat.beq 0 j then h else 0)]
 cases Nat.beq 0 j <;> rfl
end Go.SM
namespace Go.SH
open Go Go.Ab Go.Proofs
def φSv (x:SERVE×CODES):AV×List AO:=(.agg x.1.c,[aZ x.2])
def VW (l:List (List UInt8)) (j:Nat):List AV:=[.str (l.getD j [])]
structure LO where
 m:Nat
 get:Nat->List AV
instance:Inhabited LO:=⟨⟨0,λ_=>[]⟩⟩
def φKs (x:LO×CODES):AV×List AO:=(.sl .no 1 x.1.m x.1.get,[aZ x.2])
theorem Iu (r:Int):(Array.toList (ByteArray.data (Utf8.encode r))).length<=4:=by
 unfold Utf8.encode
 dsimp only
 repeat' split
 all_goals simp
theorem OY {r:Int} {s:List UInt8} (h:s.length<=100):Nat.ble (s.length+(Array.toList (ByteArray.data (Utf8.encode r))).length) 4611686018427387904=true:=
 Nat.ble_eq_true_of_le (by have:=Iu r;omega)
instance:Inhabited SERVE:=⟨⟨0,[],[],[],[]⟩⟩
instance:Inhabited (SERVE×CODES):=⟨(default,default)⟩
def svI (x:SERVE×CODES):Prop:=(x.1.Ok/\x.1.split.length<=5)/\x.2.Ok
abbrev LSt:=Unit ⊕ LO
def lI (n:Int):LSt->Prop
 | .inl _=>True
 | .inr x=>1<=x.m/\(x.m:Int)<=n
instance:Inhabited (List (List UInt8)×CODES):=⟨([],default)⟩
instance:Inhabited (LO×CODES):=⟨(default,default)⟩
def S8 (s:List (List UInt8)):AV:=.sl .no 1 s.length (VW s)
def ZS0 (s:List (List UInt8)) (op lv n:Int) (C:CODES):St:={env:=[(0,.ref aa 0),(1,S8 s),(2,.int .i64 lv),(6,.ref 6 0),(8,.int .i64 op),(9,.ref 9 0),(10,.int .i64 n),(11,.int .i64 0)],objs:=[(6,.cells ex0),(9,.cells (exK op (.sl (.key 81) 5 0 λ_=>ex0))),(aa,aZ C),(81,.own 5 0)]}
def ZS (s:List (List UInt8)) (op lv n:Int) (m:Nat) (get:Nat->List AV) (C:CODES) (i:Nat):St:={env:=[(0,.ref aa 0),(1,S8 s),(2,.int .i64 lv),(6,.ref 6 0),(8,.int .i64 op),(9,.ref 9 0),(10,.int .i64 n),(11,.int .i64 i)],objs:=[(6,.cells ex0),(9,.cells (exK op (.sl (.key 81) 5 m get))),(81,.own 5 m),(aa,aZ C)]}
def zA (s:List (List UInt8)) (lv:Int) (_:CODES):List AV:=[.ref aa 0,S8 s,.int .i64 lv]
def S4 (q z:Nat) (x:EXP×CODES):Prop:=((VE q x.1/\x.1.Ok)/\x.1.size<=z)/\x.2.Ok
def zS (s:List (List UInt8)) (op lv:Int) (n:Nat):XSt->St
 | .inl C=>ZS0 s op lv n C
 | .inr (l,C)=>ZS s op lv n l.length (U3 l) C l.length
end Go.SH
namespace Go.Ab
open Go
section
variable {T:Type} {z:List AV} {R:T->List AV}
def VQ (z:List AV) (R:T->List AV) (l:List T) (j:Nat):List AV:=match l[j]? with
 | some x=>R x
 | none=>z
end
end Go.Ab
namespace Go.SH
open Go Go.Ab Go.Proofs
set_option linter.unusedSectionVars false
def zs:Nat->Nat
 | 0=>1
 | d+1=>1+3*(zs d+1)
theorem rX {m:Nat}:∀ {l:List EXP},(∀k∈l,k.size<=m)->cG l<=l.length*m
 | [],_=>by simp [cG]
 | k::l,h=>by
  have h1:=h k (List.mem_cons_self ..)
  have h2:=rX (l:=l) λx hx=>h x (List.mem_cons_of_mem _ hx)
  rw [cG,List.length_cons,Nat.succ_mul]
  omega
theorem JO.z {x:EXP×CODES} (h:JO x) (d z:Nat) (hz:1<=z):S4 (2*d+1) z x:=by
 refine ⟨⟨(h.x d).1,?_⟩,h.2⟩
 have hk:x.1.kids=[]:=h.1.2.1
 rw [EXP.size_eq,hk]
 exact hz
section
end
end Go.SH
namespace Go.SH
open Go Go.Ab Go.Proofs
def alB:List UInt8:=[97,108,112,104,97]
def beB:List UInt8:=[98,101,116,97]
def VP:AV:=.sl .fit 1 2 (ae [.str [] ] [(0,.str alB),(1,.str beB)])
structure ZE3 where
 e:EXP
 y:EXP
 z:EXP
instance:Inhabited ZE3:=⟨⟨default,default,default⟩⟩
def eU (z:ZE3) (k:Ex->St->Res):Res:=k (.exit 0) {env:=[],objs:=[]}
def sgA (_:CODES):List AV:=[.ref aa 0,VP,.int .i64 3]
end Go.SH
namespace Go.SO
open Go Go.Ab Go.Proofs Go.SH
open Go.SM hiding K1 LO NV PV QI QS S1 S2 S3 XS cF eZ cT dI eA gK1 kA kI kO kP bR mA eV nA nO nP eU rZ sA sP spA svI vA vK1 wA xA zA φC φD φI φN φP φR φS φT φX
def Tt (x:Nat->Bool) (k:Ex->St->Res):Res:=k (.exit 0) {env:=[(5,.msl 8 1 0 10000)],objs:=[(8,.arr 1 10000 (BL x))]}
def spO (o:SO):AV:=.sl .no 2 o.n (SP o.F o.T)
def TS (e:ENV) (l b:List UInt8) (o:SO) (i:Nat):St:={env:=[(1,.str l),(2,.str b),(4,.ref 4 0),(10,spO o),(11,.int .i64 i)],objs:=[(4,.cells e.c)]}
def Ti (o:SO) (k:Ex->St->Res):Res:=k (.exit 0) {env:=[(10,spO o)],objs:=[]}
def φFr (x:SO×Int):AV×List AO:=(.tup [spO x.1,.int .i64 x.2],[])
def zl:List AV:=[.str [],.str [],.str [],.int .i64 0,.int .i64 0,.sl .fit 0 0 λ_=>[] ]
def z3:List AV:=[.int .i64 0,.int .i64 0,.int .i64 0]
structure LH where
 key:List UInt8
 kind:List UInt8
 salt:List UInt8
 hold:Int
 cool:Int
def lyC (h:LH) (a:AV):List AV:=[.str h.key,.str h.kind,.str h.salt,.int .i64 h.hold,.int .i64 h.cool,a]
def rgZ (l:List RG):Nat->List AV:=VQ z3 kl l
def LYS (h:LH) (l:List RG) (C:CODES) (a:Int) (i:Nat):St:={env:=[(0,.ref aa 0),(4,.ref 4 0),(5,.ref 5 0),(6,.int .i64 a),(7,.int .i64 i)],objs:=[(4,.cells zl),(5,.cells (lyC h (.sl (.key 52) 3 l.length (rgZ l)))),(52,.own 3 l.length),(aa,aZ C)]}
instance:Inhabited (LH×List RG×CODES):=⟨(⟨[],[],[],0,0⟩,[],default)⟩
def toL (o:SO):List (Int×Int):=(List.range o.n).map λj=>(o.F j,o.T j)
theorem F3 (o:SO):(toL o).length=o.n:=by unfold toL;simp
theorem M9 {c:Cx} {o:SO} {v:Value} (h:Rep c (spO o) v):Rep c (AP (toL o)) v:=by
 unfold spO at h
 have e:AP (toL o)=.sl .no 2 o.n λj=>uK ((toL o).getD j (0,0)):=by unfold AP;rw [F3]
 rw [e]
 refine mH h λj hj=>?_
 unfold toL
 simp [List.getD,hj,uK,SP]
def SmL (b:Nat) (x:LAYER):Prop:=(x.key.length<=1000/\x.kind.length<=1000/\x.salt.length<=1000)/\x.cooling.length<=b
structure LYV where
 h:LH
 l:List RG
 C:CODES
 a:Int
 i:Nat
def lyS (v:LYV):St:=LYS v.h v.l v.C v.a v.i
def eD (u u':AV):Prop:=u'.one=true/\∀c x,Rep c u x->Rep c u' x
theorem eD.same {u:AV} (h:u.one=true):eD u u:=⟨h,λ_ _ h=>h⟩
inductive TellL:List AV->List AV->Prop
 | nil:TellL [] []
 | cons {u u':AV} {l l':List AV}:eD u u'->TellL l l'->TellL (u::l) (u'::l')
theorem TellL.len {l l':List AV} (h:TellL l l'):l'.length=l.length:=by
 induction h with
 | nil=>rfl
 | cons _ _ ih=>rw [List.length_cons,List.length_cons,ih]
theorem TellL.at {l l':List AV} (h:TellL l l'):∀ (i:Nat) (u u':AV),l[i]?=some u->l'[i]?=some u'->eD u u':=by
 induction h with
 | nil=>intro i u u' h;simp at h
 | cons h1 _ ih=>
  intro i u u' h h'
  cases i with
  | zero=>
   simp only [List.getElem?_cons_zero,Option.some.injEq] at h h'
   rw [<-h,<-h'];exact h1
  | succ i=>
   simp only [List.getElem?_cons_succ] at h h'
   exact ih i u u' h h'
def φLy (x:LAYER×CODES):AV×List AO:=(.agg x.1.c,[aZ x.2])
instance:Inhabited (LAYER×CODES):=⟨(default,default)⟩
structure EH where
 salt:List UInt8
 hkind:List UInt8
 hold:Int
 na:Nat
 ga:Nat->List AV
def nr:AV:=.sl .fit 0 0 λ_=>[]
def vcS (h:EH) (a:AV):List AV:=[.str h.salt,.str h.hkind,.int .i64 h.hold,.sl .fit 3 h.na h.ga,a,nr,nr,nr]
def SGS (h:EH) (m:Nat) (ks:Nat->List UInt8) (n:Nat) (g:Nat->List AV) (C:CODES) (i:Nat):St:={env:=[(0,.ref aa 0),(1,.ref 1000001 0),(4,txA m ks),(5,.int .i64 i)],objs:=[(aa,aZ C),(1000001,.cells (vcS h (.sl (.key 1000002) 9 n g))),(1000002,.own 9 n)]}
structure SGA where
 h:EH
 n:Nat
 g:Nat->List AV
 C:CODES
instance:Inhabited SGA:=⟨⟨⟨[],[],0,0,λ_=>[]⟩,0,λ_=>[],default⟩⟩
def zf:List AV:=[.str [],.int .i64 0,nr,.bool false,.int .i64 0,nr,nr,nr,.int .i64 0,.str [],.str [],.str [],nr]
structure FH where
 key:List UInt8
 kind:Int
 on:Bool
def flC (h:FH) (off:Int) (a b c d:AV):List AV:=[.str h.key,.int .i64 h.kind,a,.bool h.on,.int .i64 off,b,c,d,.int .i64 0,.str [],.str [],.str [],nr]
structure RW where
 n:Nat
 g:Nat->List AV
instance:Inhabited RW:=⟨⟨0,λ_=>[]⟩⟩
def kA' (k sz:Nat) (r:RW):AV:=.sl (.key k) sz r.n r.g
def FB (e:ENV) (cs:List AV) (own:List (Nat×AO)) (C:CODES):List (Nat×AO):=(4,.cells e.c)::(6,.cells zf)::(7,.cells cs)::(own++[(aa,aZ C)])
structure FA1 where
 h:FH
 a:RW
 C:CODES
 n:Int
instance:Inhabited FA1:=⟨⟨⟨[],0,false⟩,default,default,0⟩⟩
structure FA2 where
 h:FH
 off:Int
 a:RW
 b:RW
 C:CODES
 n:Int
instance:Inhabited FA2:=⟨⟨⟨[],0,false⟩,0,default,default,default,0⟩⟩
structure FA3 where
 h:FH
 off:Int
 a:RW
 b:RW
 c:RW
 C:CODES
 n:Int
instance:Inhabited FA3:=⟨⟨⟨[],0,false⟩,0,default,default,default,default,0⟩⟩
structure FA4 where
 h:FH
 off:Int
 a:RW
 b:RW
 c:RW
 d:RW
 C:CODES
 n:Int
 cut:Bool
 m:Nat
instance:Inhabited FA4:=⟨⟨⟨[],0,false⟩,0,default,default,default,default,default,0,false,0⟩⟩
theorem TellL.refl:∀ {l:List AV},fT l=true->TellL l l
 | [],_=>.nil
 | v::r,h=>by
  simp only [fT,Bool.and_eq_true] at h
  exact .cons (.same h.1) (TellL.refl h.2)
theorem aW {o:Own} {sz sz':Nat} {get get':Nat->List AV}:eD (.sl o sz 0 get) (.sl .no sz' 0 get'):=⟨rfl,λc x h=>xi h⟩
def DX (x:EXP):Prop:=(VE 5 x/\x.Ok)/\x.size<=60
structure XA where
 n:Nat
 g:Nat->List UInt8
 lv:Int
 C:CODES
def XA.P (a:XA):Prop:=(a.n<=20/\∀j,j < a.n->ea (a.g j)=true/\(a.g j).length<=100)/\(a.lv=3∨a.lv=2)/\a.C.Ok
theorem DX.fit {x:EXP} (h:DX x):Fit 50 x:=(h.1.1.fit h.1.2).mono (by decide)
def SmT (l:List (List UInt8)) (b:Nat):Prop:=l.length<=b/\∀s∈l,s.length<=1000
structure SmG (b:Nat) (g:SEG):Prop where
 key:g.key.length<=1000
 kind:g.kind.length<=1000
 incl:SmT g.incl b
 excl:SmT g.excl b
 when:Fit b g.when
def KyG (g:SEG):Prop:=ea g.key=true/\g.key.length<=100
structure SGV where
 n:Nat
 g:Nat->List AV
 C:CODES
 i:Nat
def Sw (j:Nat):List UInt8:=bif Nat.beq 0 j then [97,108,112,104,97] else bif Nat.beq 1 j then [98,101,116,97] else bif Nat.beq 2 j then [103,97,109,109,97] else []
theorem Gz (j:Nat):ae [.str []] [(0,.str [97,108,112,104,97]),(1,.str [98,101,116,97]),(2,.str [103,97,109,109,97])] j=TX Sw j:=by
 unfold ae TX Sw
 cases Nat.beq 0 j with
 | true=>rfl
 | false=>
  unfold ae
  cases Nat.beq 1 j with
  | true=>rfl
  | false=>
   unfold ae
   cases Nat.beq 2 j <;> rfl
def sgS (h:EH) (m:Nat) (ks:Nat->List UInt8) (v:SGV):St:=SGS h m ks v.n v.g v.C v.i
def SG (x:SGA):List AO:=[aZ x.C,.cells (vcS x.h (.sl (.key 1000002) 9 x.n x.g)),.own 9 x.n]
def SmV (b:Nat) (s:SERVE):Prop:=s.split.length<=b/\s.Ok
structure SmF (b:Nat) (f:FLAG):Prop where
 key:f.key.length<=1000
 vars:f.vars.length<=b/\∀v∈f.vars,v.Ok
 prqs:f.prqs.length<=b/\∀p∈f.prqs,p.flag.length<=1000
 tgts:f.tgts.length<=b/\∀t∈f.tgts,t.kind.length<=1000/\SmT t.keys b
 rules:f.rules.length<=b/\∀r∈f.rules,r.name.length<=1000/\Fit b r.when/\SmV b r.serve
 dflt:SmV b f.dflt
def vN (j:Nat):List UInt8:=bif Nat.beq 0 j then [102,105,114,115,116] else bif Nat.beq 1 j then [115,101,99,111,110,100] else bif Nat.beq 2 j then [116,104,105,114,100] else bif Nat.beq 3 j then [102,111,117,114,116,104] else []
theorem zz:ae [.str []] [(0,.str [102,105,114,115,116]),(1,.str [115,101,99,111,110,100]),(2,.str [116,104,105,114,100]),(3,.str [102,111,117,114,116,104])]=TX vN:=by
 funext j
 unfold ae TX vN
 cases Nat.beq 0 j with
 | true=>rfl
 | false=>
  unfold ae
  cases Nat.beq 1 j with
  | true=>rfl
  | false=>
   unfold ae
   cases Nat.beq 2 j with
   | true=>rfl
   | false=>
    unfold ae
    cases Nat.beq 3 j <;> rfl
theorem vM (j:Nat):(vN j).length<=1000:=by
 unfold vN
 cases Nat.beq 0 j <;> cases Nat.beq 1 j <;> cases Nat.beq 2 j <;> cases Nat.beq 3 j <;> decide
structure PreF (e:ENV):Prop where
 segs:e.segs.length<=20/\∀g∈e.segs,KyG g
 flags:e.flags.length<=40/\∀f∈e.flags,(1<=f.vars.length/\f.vars.length<=1000)/\f.key.length<=1000
def DF (f:FLAG):Prop:=SmF 50 f/\(1<=f.vars.length/\f.vars.length<=4)
def φFl (x:FLAG×CODES):AV×List AO:=(.agg x.1.c,[aZ x.2])
instance:Inhabited (FLAG×CODES):=⟨(default,default)⟩
structure FR where
 x:FA4
 n:Nat
 s:SERVE
 C:CODES
instance:Inhabited FR:=⟨⟨default,0,default,default⟩⟩
structure F1V where
 a:RW
 C:CODES
 i:Nat
structure F2V where
 b:RW
 C:CODES
 i:Nat
structure F3V where
 c:RW
 C:CODES
 i:Nat
structure F4V where
 d:RW
 C:CODES
 i:Nat
def φSp (l:List (Int×Int)):AV×List AO:=(AP l,[])
structure SmX (b:Nat) (x:EXPT):Prop where
 key:x.key.length<=1000
 layer:x.layer.length<=1000
 flag:x.flag.length<=1000
 salt:x.salt.length<=1000
 claims:x.claims.length<=10000+b
 arms:x.arms.length<=b
 when:Fit b x.when
structure PreX (e:ENV):Prop where
 ok:e.Ok
 pre:PreF e
 flags:1<=e.flags.length
 layers:1<=e.layers.length/\e.layers.length<=40
 layer:∀x∈e.layers,x.cooling.length<=1000000/\x.key.length<=1000
 expts:∀x∈e.expts,x.claims.length<=1000000
structure XR where
 a:List UInt8
 b:List UInt8
 c:List UInt8
 st:Int
 l:List (Int×Int)
 r:List RG
 w:Option EXP
 C:CODES
instance:Inhabited XR:=⟨⟨[],[],[],0,[],[],none,default⟩⟩
def whC:Option EXP->List AV
 | none=>[.int .i64 1,.str [],.str [],nr,nr]
 | some e=>[.int .i64 e.op,.str e.kind,.str e.name,jP e.vals,exL e.kids]
instance:Inhabited (EXPT×CODES):=⟨(default,default)⟩
def zE:List AV:=[.str [],.str [],.int .i64 0,nr,nr,nr,nr,nr]
def vcE (h:EH) (a b c d:AV):List AV:=[.str h.salt,.str h.hkind,.int .i64 h.hold,.sl .fit 3 h.na h.ga,a,b,c,d]
structure NA where
 h:EH
 s:RW
 f:RW
 l:RW
 C:CODES
instance:Inhabited NA:=⟨⟨⟨[],[],0,0,λ_=>[]⟩,default,default,default,default⟩⟩
def O1 (h:EH) (s f:RW) (C:CODES):List (Nat×AO):=[(4,.cells zE),(5,.cells (vcE h (kA' 30 9 s) (kA' 43 13 f) nr nr)),(30,.own 9 s.n),(43,.own 13 f.n),(aa,aZ C)]
def O2 (h:EH) (s f l:RW) (C:CODES):List (Nat×AO):=[(4,.cells zE),(5,.cells (vcE h (kA' 30 9 s) (kA' 43 13 f) (kA' 64 6 l) nr)),(30,.own 9 s.n),(43,.own 13 f.n),(64,.own 6 l.n),(aa,aZ C)]
structure NX where
 a:NA
 b:Bool
 c:Bool
 d:Bool
 e:Bool
 q:Nat
 g:Nat->List AV
instance:Inhabited NX:=⟨⟨default,false,false,false,false,0,λ_=>[]⟩⟩
def φSg (x:SGA):AV×List AO:=(.tup [],SG x)
def vc:List (List UInt8×List UInt8×Int):=[([100,101,118,105,99,101],[99,111,114,101,115],2),([100,101,118,105,99,101],[111,115],3),([117,115,101,114],[97,103,101],2),([117,115,101,114],[97,112,112],4),([117,115,101,114],[98,101,116,97],1),([117,115,101,114],[99,111,117,110,116,114,121],3),([117,115,101,114],[112,108,97,110],3),([117,115,101,114],[116,97,103,115],5)]
def x5:Nat->List AV:=ae [.str [],.str [],.int .i64 0] [(0,.agg [.str [100,101,118,105,99,101],.str [99,111,114,101,115],.int .i64 2]),(1,.agg [.str [100,101,118,105,99,101],.str [111,115],.int .i64 3]),(2,.agg [.str [117,115,101,114],.str [97,103,101],.int .i64 2]),(3,.agg [.str [117,115,101,114],.str [97,112,112],.int .i64 4]),(4,.agg [.str [117,115,101,114],.str [98,101,116,97],.int .i64 1]),(5,.agg [.str [117,115,101,114],.str [99,111,117,110,116,114,121],.int .i64 3]),(6,.agg [.str [117,115,101,114],.str [112,108,97,110],.int .i64 3]),(7,.agg [.str [117,115,101,114],.str [116,97,103,115],.int .i64 5])]
theorem uo:eD (.sl .fit 3 8 x5) (pd vc):=by
 refine ⟨rfl,λc x h=>?_⟩
 refine mH (n:=8) (get:=x5) h λj hj=>?_
 match j,hj with
 | 0,_=>rfl
 | 1,_=>rfl
 | 2,_=>rfl
 | 3,_=>rfl
 | 4,_=>rfl
 | 5,_=>rfl
 | 6,_=>rfl
 | 7,_=>rfl
def ATB (b:Nat) (a:List UInt8×List UInt8×Int):Prop:=a.1.length<=1000/\a.2.1.length<=1000
structure SmE (b:Nat) (e:ENV):Prop where
 salt:e.salt.length<=1000
 hkind:e.hkind.length<=1000
 attrs:e.attrs.length<=b/\∀a∈e.attrs,ATB b a
 segs:e.segs.length<=b/\∀g∈e.segs,SmG b g
 flags:e.flags.length<=b/\∀f∈e.flags,SmF b f
 layers:e.layers.length<=b/\∀l∈e.layers,SmL b l
 expts:e.expts.length<=b/\∀x∈e.expts,SmX b x
theorem dW {s:List UInt8} (h:s.length<=1000):jg s:=Nat.le_trans h (by decide)
theorem AL {l:List (List UInt8)} {b:Nat} (hb:b<=1000) (h:SmT l b):jj l:=⟨Nat.le_trans h.1 (Nat.le_trans hb (by decide)),λs hs=>dW (h.2 s hs)⟩
theorem SmE.ok {b:Nat} {e:ENV} (hb:b<=1000) (h:SmE b e):e.Ok:=by
 have h1:b<=1048576:=Nat.le_trans hb (by decide)
 refine ⟨dW h.salt,dW h.hkind,⟨Nat.le_trans h.attrs.1 h1,λa ha=>⟨dW (h.attrs.2 a ha).1,dW (h.attrs.2 a ha).2⟩⟩,⟨Nat.le_trans h.segs.1 h1,λg hg=>?_⟩,⟨Nat.le_trans h.flags.1 h1,λf hf=>?_⟩,⟨Nat.le_trans h.layers.1 h1,λl hl=>?_⟩,⟨Nat.le_trans h.expts.1 h1,λx hx=>?_⟩⟩
 ·have g:=h.segs.2 g hg
  exact ⟨dW g.key,dW g.kind,AL hb g.incl,AL hb g.excl,g.when.ok h1⟩
 ·have f:=h.flags.2 f hf
  refine ⟨dW f.key,⟨Nat.le_trans f.vars.1 h1,f.vars.2⟩,⟨Nat.le_trans f.prqs.1 h1,λp hp=>dW (f.prqs.2 p hp)⟩,⟨Nat.le_trans f.tgts.1 h1,λt ht=>⟨dW (f.tgts.2 t ht).1,AL hb (f.tgts.2 t ht).2⟩⟩,⟨Nat.le_trans f.rules.1 h1,λr hr=>⟨dW (f.rules.2 r hr).1,(f.rules.2 r hr).2.1.ok h1,(f.rules.2 r hr).2.2.2⟩⟩,f.dflt.2⟩
 ·have l:=h.layers.2 l hl
  exact ⟨dW l.1.1,dW l.1.2.1,dW l.1.2.2,Nat.le_trans l.2 h1⟩
 ·have x:=h.expts.2 x hx
  exact ⟨dW x.key,dW x.layer,dW x.flag,dW x.salt,Nat.le_trans x.claims (by omega),Nat.le_trans x.arms h1,x.when.ok h1⟩
structure BigE (e:ENV):Prop where
 salt:e.salt.length<=1000
 hkind:e.hkind.length<=1000
 attrs:e.attrs=vc
 segs:e.segs.length<=3/\∀g∈e.segs,SmG 50 g/\KyG g
 flags:e.flags.length<=4/\∀f∈e.flags,DF f
 layers:e.layers.length<=2/\∀l∈e.layers,SmL 10 l
 expts:e.expts.length<=3/\∀x∈e.expts,SmX 50 x
theorem IE:∀a∈vc,ATB 50 a:=by unfold ATB;decide
theorem BigE.sm {e:ENV} (h:BigE e):SmE 50 e:=
 ⟨h.salt,h.hkind,⟨by rw [h.attrs];decide,by rw [h.attrs];exact IE⟩,⟨Nat.le_trans h.segs.1 (by decide),λg hg=>(h.segs.2 g hg).1⟩,⟨Nat.le_trans h.flags.1 (by decide),λf hf=>(h.flags.2 f hf).1⟩,
  ⟨Nat.le_trans h.layers.1 (by decide),λl hl=>⟨(h.layers.2 l hl).1,Nat.le_trans (h.layers.2 l hl).2 (by decide)⟩⟩,⟨Nat.le_trans h.expts.1 (by decide),h.expts.2⟩⟩
theorem BigE.ok {e:ENV} (h:BigE e):e.Ok:=h.sm.ok (by decide)
theorem BigE.SF {e:ENV} (h:BigE e):PreF e:=
 ⟨⟨Nat.le_trans h.segs.1 (by decide),λg hg=>(h.segs.2 g hg).2⟩,⟨Nat.le_trans h.flags.1 (by decide),λf hf=>⟨⟨(h.flags.2 f hf).2.1,Nat.le_trans (h.flags.2 f hf).2.2 (by decide)⟩,(h.flags.2 f hf).1.key⟩⟩⟩
theorem BigE.UM {e:ENV} (h:BigE e) (hf:1<=e.flags.length) (hl:1<=e.layers.length):PreX e:=
 ⟨h.ok,h.SF,hf,⟨hl,Nat.le_trans h.layers.1 (by decide)⟩,λx hx=>⟨Nat.le_trans (h.layers.2 x hx).2 (by decide),(h.layers.2 x hx).1.1⟩,λx hx=>Nat.le_trans (h.expts.2 x hx).claims (by decide)⟩
def Wl (cs:List AV):Prop:=∃f:FLAG,DF f/\TellL cs f.c
def Wj (cs:List AV):Prop:=∃l:LAYER,SmL 10 l/\TellL cs l.c
def Wh (cs:List AV):Prop:=∃x:EXPT,SmX 50 x/\TellL cs x.c
structure HOk (h:EH):Prop where
 salt:h.salt.length<=1000
 hkind:h.hkind.length<=1000
 attrs:eD (.sl .fit 3 h.na h.ga) (pd vc)
def NJ (h:EH) (a b c d:AV):List AV:=[.str h.salt,.str h.hkind,.int .i64 h.hold,.sl .fit 3 h.na h.ga,a,b,c,d]
theorem Ph {h h':EH} {a a':AV} (e:vcS h a=vcS h' a'):h=h':=by
 obtain ⟨a1,a2,a3,a4,a5⟩:=h
 obtain ⟨b1,b2,b3,b4,b5⟩:=h'
 simp only [vcS,List.cons.injEq,AV.str.injEq,AV.int.injEq,AV.sl.injEq,true_and,and_true] at e
 obtain ⟨rfl,rfl,rfl,⟨rfl,rfl⟩,_⟩:=e
 rfl
def kF (j:Nat):List UInt8:=bif Nat.beq 0 j then [102,97] else bif Nat.beq 1 j then [102,98] else bif Nat.beq 2 j then [102,99] else bif Nat.beq 3 j then [102,100] else []
structure N1V where
 f:RW
 C:CODES
 i:Nat
structure N3V where
 F:Option (Bool×Nat)
 q:Nat
 g:Nat->List AV
 C:CODES
 i:Nat
def nbits (x:NX):Nat:=bif x.b then (bif x.d then (bif x.e then 3 else 2) else (bif x.e then 1 else 0)) else 0
structure NXOk (h:EH) (s f l:RW) (x:NX):Prop where
 h:x.a.h=h
 s:x.a.s=s
 f:x.a.f=f
 l:x.a.l=l
 rows:∀j,j < nbits x->Wh (x.g j)
 C:x.a.C.Ok
structure NAOk (h:EH) (s:RW) (x:NA):Prop where
 h:x.h=h
 s:x.s=s
 f:x.f.n<=4/\∀j,j < x.f.n->Wl (x.f.g j)
 C:x.C.Ok
structure NLOk (h:EH) (s f:RW) (x:NA):Prop where
 h:x.h=h
 s:x.s=s
 f:x.f=f
 l:x.l.n<=2/\∀j,j < x.l.n->Wj (x.l.g j)
 C:x.C.Ok
section
variable {ge gf gl gx gv gt gw gs:List AV->List AO->Bool} {we ww:List AV->List AO->Int×CODES} {wf:List AV->List AO->FLAG×CODES} {wl:List AV->List AO->LAYER×CODES} {wx:List AV->List AO->EXPT×CODES} {wv:List AV->List AO->Bool} {wt:List AV->List AO->List UInt8×CODES} {ws:List AV->List AO->SGA}
end
def e0:ENV:=⟨[],[],0,vc,[],[],[],[]⟩
theorem Uq:iG e0=0:=by kernel_rfl
def c0:List AV:=[.str [],.str [],.int .i64 0,.sl .fit 3 8 x5,nr,nr,nr,nr]
theorem IC:TellL c0 e0.c:=.cons (.same rfl) (.cons (.same rfl) (.cons (.same rfl) (.cons uo (.cons aW (.cons aW (.cons aW (.cons aW .nil)))))))
def φEn (x:List AV×CODES):AV×List AO:=(.agg x.1,[aZ x.2])
instance:Inhabited (List AV×CODES):=⟨([],default)⟩
instance:Inhabited (ENV×CODES):=⟨(e0,default)⟩
structure YO where
 r:RW
 C:CODES
instance:Inhabited YO:=⟨⟨default,default⟩⟩
theorem ja:∀s∈Ou,s.length<=1000:=by decide
theorem CZ {l:List (List UInt8)} {b b':Nat} (h:SmT l b) (hb:b<=b'):SmT l b':=⟨Nat.le_trans h.1 hb,h.2⟩
instance:Inhabited (SEG×CODES):=⟨(default,default)⟩
structure Y2V where
 r:RW
 C:CODES
 i:Nat
namespace Go.SO
open Go Go.Ab Go.Proofs Go.SH
open Go.SM hiding K1 LO NV PV QI QS S1 S2 S3 XS cF eZ cT dI eA gK1 kA kI kO kP bR mA eV nA nO nP eU rZ sA sP spA svI vA vK1 wA xA zA φC φD φI φN φP φR φS φT φX
def atG (e:ENV) (j:Nat):List AV:=[.str (e.attrs.getD j ([],[],0)).1,.str (e.attrs.getD j ([],[],0)).2.1,.int .i64 (e.attrs.getD j ([],[],0)).2.2]
def sgG (l:List SEG) (j:Nat):List AV:=(l.getD j default).c
def flG (l:List FLAG) (j:Nat):List AV:=(l.getD j default).c
def lyG (l:List LAYER) (j:Nat):List AV:=(l.getD j default).c
def xpG (l:List EXPT) (j:Nat):List AV:=(l.getD j default).c
def gE (e:ENV) (k1 k2 k3 k4 k5:Nat):List AV:=[.str e.salt,.str e.hkind,.int .i64 e.hold,.gsl k1 3 e.attrs.length,.gsl k2 9 e.segs.length,.gsl k3 13 e.flags.length,.gsl k4 6 e.layers.length,.gsl k5 12 e.expts.length]
def φCp (e:ENV):AV×List AO:=(.agg (gE e 1000000 1000001 1000002 1000003 1000004),[.grw 0 3 e.attrs.length (atG e),.grw 0 9 e.segs.length (sgG e.segs),.grw 0 13 e.flags.length (flG e.flags),.grw 0 6 e.layers.length (lyG e.layers),.grw 0 12 e.expts.length (xpG e.expts)])
instance:Inhabited ENV:=⟨e0⟩
end Go.SO
namespace Go.SO
open Go Go.Ab Go.Proofs Go.SH
open Go.SM hiding K1 LO NV PV QI QS S1 S2 S3 XS cF eZ cT dI eA gK1 kA kI kO kP bR mA eV nA nO nP eU rZ sA sP spA svI vA vK1 wA xA zA φC φD φI φN φP φR φS φT φX
theorem SmG.mono {b b':Nat} {g:SEG} (h:SmG b g) (hb:b<=b'):SmG b' g:=⟨h.key,h.kind,CZ h.incl hb,CZ h.excl hb,h.when.mono hb⟩
theorem SmV.mono {b b':Nat} {s:SERVE} (h:SmV b s) (hb:b<=b'):SmV b' s:=⟨Nat.le_trans h.1 hb,h.2⟩
theorem SmL.mono {b b':Nat} {l:LAYER} (h:SmL b l) (hb:b<=b'):SmL b' l:=⟨h.1,Nat.le_trans h.2 hb⟩
theorem SmX.mono {b b':Nat} {x:EXPT} (h:SmX b x) (hb:b<=b'):SmX b' x:=⟨h.key,h.layer,h.flag,h.salt,Nat.le_trans h.claims (by omega),Nat.le_trans h.arms hb,h.when.mono hb⟩
structure S8V where
 l:List SEG
 i:Nat
end Go.SO
namespace Go.SO
open Go Go.Ab Go.Proofs Go.SH
open Go.SM hiding K1 LO NV PV QI QS S1 S2 S3 XS cF eZ cT dI eA gK1 kA kI kO kP bR mA eV nA nO nP eU rZ sA sP spA svI vA vK1 wA xA zA φC φD φI φN φP φR φS φT φX
instance:Inhabited (RW×CODES):=⟨(default,default)⟩
instance:Inhabited (List RG×CODES):=⟨([],default)⟩
end Go.SO
end Go.SO
namespace Go.Ab
open Go Go.RowKit Go.ChangeShapes
mutual
def nf {H:Type}:DataW H->Nat
 | .lit (.string bytes)=>bytes.length+1
 | .lit _=>1
 | .nil=>1
 | .ptr d=>nf d+1
 | .slice elems spare=>rM elems+rM spare+1
 | .agg parts=>rM parts+1
 | .iface _ d=>nf d+1
 | .map entries=>R3 entries+1
 | .held _=>1
def rM {H:Type}:List (DataW H)->Nat
 | []=>0
 | d::r=>nf d+rM r
def R3 {H:Type}:List (Lit×DataW H)->Nat
 | []=>0
 | x::r=>Uv x+R3 r
def Uv {H:Type}:Lit×DataW H->Nat
 | (.string bytes,d)=>bytes.length+nf d+1
 | (_,d)=>nf d+1
end
theorem I3 {H:Type} (d:DataW H):1<=nf d:=by
 cases d with
 | lit l=>cases l <;> simp [nf]
 | _=>simp [nf]
theorem Aq {H:Type}:∀l:List (DataW H),l.length<=rM l
 | []=>by simp [rM]
 | d::r=>by have:=I3 d;have:=Aq r;simp only [List.length_cons,rM];omega
theorem Ej {H:Type}:∀ {l:List (DataW H)} {i:Nat} {d:DataW H},l[i]?=some d->nf d<=rM l
 | [],_,_,h=>by simp at h
 | e::r,0,d,h=>by simp at h;subst h;simp only [rM];omega
 | e::r,i+1,d,h=>by have:=Ej (l:=r) (i:=i) (by simpa using h);simp only [rM];omega
structure CellsR (c:Cx) (us:List AV) (vs:List Value):Prop where
 len:vs.length=us.length
 one:∀u∈us,u.one=true/\u.keys=[]
 rep:∀ (i:Nat) (u:AV),us[i]?=some u->Rep c u (vs.getD i undef)
theorem oI:∀ {us:List AV},(∀u∈us,u.keys=[])->ak us=[]
 | [],_=>rfl
 | u::r,h=>by rw [ak,h u (by simp),oI λv hv=>h v (List.mem_cons_of_mem _ hv)];rfl
theorem CellsR.nil (c:Cx):CellsR c [] []:=⟨rfl,λ_ h=>by simp at h,λi u h=>by simp at h⟩
theorem CellsR.append {c:Cx} {us us':List AV} {vs vs':List Value} (h:CellsR c us vs) (h':CellsR c us' vs'):CellsR c (us++us') (vs++vs'):=by
 refine ⟨by simp [h.len,h'.len],λu hu=>?_,λi u hu=>?_⟩
 ·rcases List.mem_append.1 hu with hu | hu
  ·exact h.one u hu
  ·exact h'.one u hu
 ·by_cases hi:i < us.length
  ·rw [List.getElem?_append_left hi] at hu
   have:=h.rep i u hu
   rw [List.getD_eq_getElem?_getD] at this ⊢
   rwa [List.getElem?_append_left (by rw [h.len];exact hi)]
  ·rw [List.getElem?_append_right (by omega)] at hu
   have:=h'.rep _ u hu
   rw [List.getD_eq_getElem?_getD] at this ⊢
   rw [List.getElem?_append_right (by rw [h.len];omega),h.len]
   exact this
theorem CellsR.K5 {c:Cx} {u:AV} {v:Value} (h1:u.one=true) (h2:u.keys=[]) (h:Rep c u v):CellsR c [u] [v]:=
 ⟨rfl,λx hx=>by simp at hx;subst hx;exact ⟨h1,h2⟩,λi x hx=>by
  cases i with
  | zero=>simp at hx;subst hx;exact h
  | succ i=>simp at hx⟩
theorem CellsR.agg {c:Cx} {us:List AV} {vs:Array Value} (h:CellsR c us vs.toList):Rep c (.agg us) (.agg vs)/\(AV.agg us).keys=[]:=by
 refine ⟨.agg _ _ (by simpa using h.len) (λi u hu=>(h.one u (List.mem_of_getElem? hu)).1) (λi u hu=>?_),?_⟩
 ·have:=h.rep i u hu
  rw [List.getD_eq_getElem?_getD] at this
  rw [Array.getD_eq_getD_getElem?]
  simpa using this
 ·simp only [AV.keys]
  exact oI λu hu=>(h.one u hu).2
section
variable {H:Type} (enc:TypeId×Value->H) (P:Program) (w:World) (N:Nat)
variable {α β:Type}
def Reads (n:Nat) (t:TypeId) (cl:α->List AV) (Ok:α->Prop):Prop:=
 ∀cs x,DataW.trod enc P w 0 (λ_=>true) true n t cs=some x->nf x.1<=N->∃a,CellsR (c8 w) (cl a) cs/\Ok a
variable {enc P w N}
theorem Reads.map {n:Nat} {t:TypeId} {cl:α->List AV} {Ok:α->Prop} {cl':β->List AV} {Ok':β->Prop} (h:Reads enc P w N n t cl Ok) (g:α->β) (hc:∀a,cl' (g a)=cl a) (ho:∀a,Ok a->Ok' (g a)):Reads enc P w N n t cl' Ok':=λcs x hx hb=>by
 obtain ⟨a,h1,h2⟩:=h cs x hx hb
 exact ⟨g a,by rw [hc];exact h1,ho a h2⟩
theorem Hd {n:Nat} {t:TypeId} {k:IntKind} (ht:P.underlying t=some (.int k)):Reads enc P w N n t (λz:Int=>[.int k z]) (λz=>(Lit.int k z).wf=true):=λcs x hx hb=>by
 obtain ⟨z,rfl,rfl,hw⟩:=DataW.trod_int ht hx
 exact ⟨z,.K5 rfl rfl (.int _ _),hw⟩
theorem Bw {γ δ:Type} {f:γ->Option δ}:∀ {l:List γ} {r:List δ},l.mapM f=some r->r.length=l.length/\∀ (i:Nat) (a:γ),l[i]?=some a->f a=r[i]?
 | [],r,h=>by simp at h;subst h;simp
 | x::l,r,h=>by
  simp only [List.mapM_cons,Option.bind_eq_bind,Option.bind_eq_some_iff,Option.pure_def,Option.some.injEq] at h
  obtain ⟨y,hy,ys,hys,rfl⟩:=h
  obtain ⟨h1,h2⟩:=Bw hys
  refine ⟨by simp [h1],λi a ha=>?_⟩
  cases i with
  | zero=>simp at ha;subst ha;simpa using hy
  | succ i=>simpa using h2 i a (by simpa using ha)
theorem o9 {a:Addr} {n:Nat} {cs:List Value} (h:w.cells? 0 a n=some cs):cs.length=n/\∀i,i < n->w.cell? (a.add i)=cs[i]?:=by
 unfold World.cells? at h
 rw [if_pos (Nat.zero_le _)] at h
 obtain ⟨h1,h2⟩:=Bw h
 refine ⟨by simpa using h1,λi hi=>?_⟩
 exact h2 i i (by simp [hi])
open Classical in
theorem A8 {n:Nat} {t e:TypeId} {sz:Nat} [Inhabited α] {cl:α->List AV} {Ok:α->Prop} (get:List α->Nat->List AV) (ht:P.underlying t=some (.slice e)) (hz:P.cellsOf e=sz) (hp:0 < sz) (hlen:∀a,(cl a).length=sz)
  (hget:∀ (l:List α) j,j < l.length->get l j=cl (l.getD j default)) (h:∀m,n=m+1->Reads enc P w N m e cl Ok) :
  Reads enc P w N n t (λl:List α=>[.sl .no sz l.length (get l)]) (λl=>l.length<=maxLen/\l.length+1<=N/\∀a∈l,Ok a):=λcs x hx hb=>by
 rcases DataW.trod_slice ht hx with ⟨rfl,rfl⟩ | ⟨ad,len,cap,elems,rest,m,rfl,rfl,rfl,_,hle,hcap,hel,hat,hsp,_⟩
 ·refine ⟨[],.K5 rfl rfl ?_,by simp,by simpa [nf] using hb,by simp⟩
  exact .slNil .no sz _ trivial
 ·simp only [nf] at hb
  rw [hz] at hat hsp
  have hb1:elems.length<=rM (elems.map (·.1)):=by have:=Aq (elems.map (·.1));simpa using this
  have hel1:∀i,i < len->∃vs y a,elems[i]?=some y/\w.cells? 0 (ad.add (i*sz)) sz=some vs/\CellsR (c8 w) (cl a) vs/\Ok a:=by
   intro i hi
   have hi':i < elems.length:=by omega
   have:=hat i hi
   rw [List.getElem?_eq_getElem hi',Option.bind_eq_some_iff] at this
   obtain ⟨vs,h1,h2⟩:=this
   have hbi:nf (elems[i]).1<=rM (elems.map (·.1)):=Ej (i:=i) (by simp [List.getElem?_eq_getElem hi'])
   obtain ⟨a,h3,h4⟩:=h m rfl vs _ h2 (by omega)
   exact ⟨vs,_,a,List.getElem?_eq_getElem hi',h1,h3,h4⟩
  have hspot:0 < cap->ad.spot=none:=by
   intro hc
   have:∃vs,w.cells? 0 (ad.add (0*sz)) sz=some vs:=by
    by_cases h0:0 < len
    ·obtain ⟨vs,_,_,_,h2,_⟩:=hel1 0 h0
     exact ⟨vs,h2⟩
    ·obtain rfl:len=0:=by omega
     have h1:=(hsp rfl).2 0 (by omega)
     have h2:=(hsp rfl).1
     cases hr:rest with
     | nil=>rw [hr] at h2;simp at h2;omega
     | cons y r=>
      rw [hr] at h1
      simp only [List.getElem?_cons_zero,Option.bind_eq_some_iff] at h1
      obtain ⟨vs,h3,_⟩:=h1
      exact ⟨vs,by simpa using h3⟩
   obtain ⟨vs,h2⟩:=this
   obtain ⟨h3,h4⟩:=o9 h2
   have h5:=h4 0 hp
   rw [Nat.zero_mul] at h5
   have e0:((ad.add 0).add 0)=ad:=by unfold Addr.add;simp
   rw [e0,List.getElem?_eq_getElem (by omega)] at h5
   exact World.cell?_spot h5
  let l:List α:=(List.range len).map λi=>if hi:i < len then (hel1 i hi).choose_spec.choose_spec.choose else default
  have hl:l.length=len:=by simp [l]
  have hli:∀i (hi:i < len),∃vs,w.cells? 0 (ad.add (i*sz)) sz=some vs/\CellsR (c8 w) (cl (l.getD i default)) vs/\Ok (l.getD i default):=by
   intro i hi
   have e:l.getD i default=(hel1 i hi).choose_spec.choose_spec.choose:=by
    simp [l,List.getD,hi]
   rw [e]
   exact ⟨_,(hel1 i hi).choose_spec.choose_spec.choose_spec.2⟩
  have hadd:∀i,i < len->∀q,q < sz->(ad.add (i*sz)).add q=⟨ad.block,ad.off+(i*sz+q),none⟩:=by
   intro i hi q _
   have hs:=hspot (by omega)
   obtain ⟨b,o,sp⟩:=ad
   simp only at hs
   subst hs
   unfold Addr.add
   by_cases c1:i*sz=0
   ·by_cases c2:q=0 <;> simp [c1,c2]
   ·by_cases c2:q=0 <;> simp [c1,c2,Nat.add_assoc]
  refine ⟨l,.K5 rfl rfl ?_,by omega,by omega,λa ha=>?_⟩
  ·rw [hl]
   have hgl:∀j,j < len->get l j=cl (l.getD j default):=λj hj=>hget l j (by omega)
   have hcell:∀ (j i:Nat) (u:AV),j < len->(get l j)[i]?=some u->∃v,w.cell? ⟨ad.block,ad.off+(j*sz+i),none⟩=some v/\Rep (c8 w) u v:=by
    intro j i u hj hu
    rw [hgl j hj] at hu
    obtain ⟨vs,h1,h2,_⟩:=hli j hj
    obtain ⟨g1,g2⟩:=o9 h1
    have hi:i < sz:=by have:=(List.getElem?_eq_some_iff.1 hu).1;rw [hlen] at this;exact this
    have g3:=g2 i hi
    rw [hadd j hj i hi,List.getElem?_eq_getElem (by omega)] at g3
    refine ⟨_,g3,?_⟩
    have:=h2.rep i u hu
    rwa [List.getD_eq_getElem?_getD,List.getElem?_eq_getElem (by omega)] at this
   refine .sl .no sz len (get l) ad cap (λj i=>(w.cell? ⟨ad.block,ad.off+(j*sz+i),none⟩).getD undef) hspot hle trivial (λj hj=>?_) (λj i u hj hu=>?_) (λj i u hj hu=>?_)
   ·rw [hgl j hj]
    obtain ⟨vs,_,h2,_⟩:=hli j hj
    exact ⟨hlen _,oI λu hu=>(h2.one u hu).2⟩
   ·obtain ⟨v,h1,_⟩:=hcell j i u hj hu
    have hone:u.one=true:=by
     rw [hgl j hj] at hu
     obtain ⟨vs,_,h2,_⟩:=hli j hj
     exact (h2.one u (List.mem_of_getElem? hu)).1
    refine ⟨hone,?_,v,h1⟩
    show w.cell? _=_
    rw [h1];rfl
   ·obtain ⟨v,h1,h2⟩:=hcell j i u hj hu
    rw [h1];exact h2
  ·obtain ⟨i,hi,rfl⟩:=List.getElem_of_mem ha
   obtain ⟨_,_,_,h4⟩:=hli i (by omega)
   rwa [List.getD_eq_getElem?_getD,List.getElem?_eq_getElem hi] at h4
end
end Go.Ab
namespace Go.Ab
open Go Go.RowKit
section
variable {H:Type} (enc:TypeId×Value->H) (P:Program) (w:World) (held:Bool)
def RX (t:TypeId) (d:DataW H) (us:List AV):Prop:=
 us.length=P.cellsOf t/\∀n cs p,DataW.trod enc P w 0 (λ_=>true) held n t cs=some (d,p)->CellsR (c8 w) us cs
variable {enc P w held}
theorem GF {t:TypeId} {k:IntKind} {z:Int} (ht:P.underlying t=some (.int k)) (hc:P.cellsOf t=1):RX enc P w held t (.lit (.int k z)) [.int k z]:=⟨hc.symm,λn cs p h=>by
 obtain ⟨z',rfl,hx,_⟩:=DataW.trod_int ht h
 simp only [Prod.mk.injEq,DataW.lit.injEq,Lit.int.injEq,true_and] at hx
 obtain ⟨rfl,_⟩:=hx
 exact .K5 rfl rfl (.int _ _)⟩
theorem Mf {t:TypeId} {s:List UInt8} (ht:P.underlying t=some .string) (hc:P.cellsOf t=1):RX enc P w held t (.lit (.string s)) [.str s]:=⟨hc.symm,λn cs p h=>by
 obtain ⟨z,rfl,hx,_⟩:=DataW.trod_string ht h
 simp only [Prod.mk.injEq,DataW.lit.injEq,Lit.string.injEq] at hx
 obtain ⟨rfl,_⟩:=hx
 refine .K5 rfl rfl ?_
 have:=Rep.str (c:=c8 w) z.data.toList
 rwa [Array.toArray_toList] at this⟩
theorem Dd {t:TypeId} {ms:Array (String×TypeId)} {nm:String} {d:DataW H} (ht:P.underlying t=some (.interface ms)) (hc:P.cellsOf t=1):RX enc P w held t (.iface nm d) [.nni]:=⟨hc.symm,λn cs p h=>by
 cases n with
 | zero=>simp [DataW.trod] at h
 | succ n=>
  unfold DataW.trod at h
  rw [ht] at h
  split at h <;> simp_all
  exact .K5 rfl rfl (.nni _ _)⟩
theorem GG {c:Cx} {cs:List Value} {sz:Nat}:∀ (us:List (List AV)) (k:Nat),(∀ (i:Nat) (u:List AV),us[i]?=some u->CellsR c u ((cs.drop ((k+i)*sz)).take sz)/\u.length=sz)->cs.length=(k+us.length)*sz->CellsR c us.flatten (cs.drop (k*sz))
 | [],k,_,hl=>by
  rw [List.drop_eq_nil_of_le (by simp at hl;omega)]
  exact .nil _
 | u::us,k,h,hl=>by
  have h0:=h 0 u rfl
  have ih:=GG us (k+1) (λi v hv=>by
   have:=h (i+1) v (by simpa using hv)
   rwa [show k+(i+1)=k+1+i by omega] at this) (by rw [hl];simp only [List.length_cons];congr 1;omega)
  have e:cs.drop (k*sz)=(cs.drop (k*sz)).take sz++cs.drop ((k+1)*sz):=by
   rw [show (k+1)*sz=k*sz+sz by rw [Nat.add_mul,Nat.one_mul],<-List.drop_drop,List.take_append_drop]
  rw [e,List.flatten_cons]
  exact h0.1.append ih
theorem r9 {t e:TypeId} {m sz:Nat} {ds:List (DataW H)} {us:List (List AV)} (ht:P.underlying t=some (.array m e)) (he:P.cellsOf e=sz) (hc:P.cellsOf t=m*sz) (hl:us.length=m)
  (h:∀ (i:Nat) (d:DataW H) (u:List AV),ds[i]?=some d->us[i]?=some u->RX enc P w held e d u) (hd:ds.length=m):RX enc P w held t (.agg ds) us.flatten:=by
 have hu:∀ (i:Nat) (u:List AV),us[i]?=some u->u.length=sz:=λi u hi=>by
  have hlt:=(List.getElem?_eq_some_iff.1 hi).1
  rw [(h i (ds[i]'(by omega)) u (List.getElem?_eq_getElem _) hi).1,he]
 refine ⟨?_,λn cs p hx=>?_⟩
 ·rw [hc,List.length_flatten,<-hl]
  have:∀l:List (List AV),(∀ (i:Nat) (u:List AV),l[i]?=some u->u.length=sz)->(l.map List.length).sum=l.length*sz:=by
   intro l
   induction l with
   | nil=>intro _;simp
   | cons a r ih=>
    intro h
    have h0:=h 0 a rfl
    have h1:=ih λi u hi=>h (i+1) u (by simpa using hi)
    simp only [List.map_cons,List.sum_cons,h1,h0,List.length_cons,Nat.add_mul,Nat.one_mul];omega
  exact this us hu
 ·cases n with
  | zero=>simp [DataW.trod] at hx
  | succ n=>
   simp only [DataW.trod,ht,he,hc] at hx
   split at hx
   ·rename_i hcl
    obtain ⟨xs,hm,hxe⟩:=Option.map_eq_some_iff.1 hx
    have hxs:xs.map (·.1)=ds:=by
     have:=congrArg Prod.fst hxe
     simpa using this
    obtain ⟨hxl,hat⟩:=Bw hm
    have hxl:xs.length=m:=by simpa using hxl
    have:=GG (c:=c8 w) (cs:=cs) (sz:=sz) us 0 (λi u hi=>by
     have hlt:=(List.getElem?_eq_some_iff.1 hi).1
     have hlt2:i < xs.length:=by omega
     have hf:=hat i i (List.getElem?_range (by omega))
     rw [List.getElem?_eq_getElem hlt2] at hf
     have hdi:ds[i]?=some (xs[i]'hlt2).1:=by
      have:=congrArg (·[i]?) hxs
      simp only [List.getElem?_map,List.getElem?_eq_getElem hlt2,Option.map_some] at this
      exact this.symm
     refine ⟨?_,hu i u hi⟩
     rw [Nat.zero_add]
     exact (h i _ u hdi hi).2 n _ (xs[i]'hlt2).2 hf) (by rw [hcl,Nat.zero_add,hl])
    simpa using this
   ·cases hx
theorem Qk {t:TypeId} {f0 f1:Field} {d0 d1:DataW H} {u0 u1:List AV} (ht:P.underlying t=some (.struct #[f0,f1])) (h0:RX enc P w held f0.type d0 u0) (h1:RX enc P w held f1.type d1 u1) (o0:f0.offset=0) (o1:f1.offset=P.cellsOf f0.type) (hc:P.cellsOf t=P.cellsOf f0.type+P.cellsOf f1.type) :
  RX enc P w held t (.agg [d0,d1]) (u0++u1):=by
 refine ⟨by rw [List.length_append,h0.1,h1.1,hc],λn cs p hx=>?_⟩
 obtain ⟨xs,m,rfl,hxe,hl,hxl,hf⟩:=DataW.trod_struct ht hx
 match xs,hxl with
 | [y0,y1],_=>
  simp only [List.map_cons,List.map_nil,Prod.mk.injEq,DataW.agg.injEq,List.cons.injEq,and_true] at hxe
  obtain ⟨⟨rfl,rfl⟩,_⟩:=hxe
  have a0:=hf 0 f0 rfl
  have a1:=hf 1 f1 rfl
  rw [o0,List.drop_zero] at a0
  rw [o1] at a1
  have b0:=h0.2 m _ y0.2 a0
  have b1:=h1.2 m _ y1.2 a1
  have e:cs=cs.take (P.cellsOf f0.type)++(cs.drop (P.cellsOf f0.type)).take (P.cellsOf f1.type):=by
   rw [List.take_of_length_le (l:=cs.drop (P.cellsOf f0.type)) (by rw [List.length_drop];omega),List.take_append_drop]
  rw [e]
  exact b0.append b1
theorem Nw {t e:TypeId} {m:Nat} {k:IntKind} {zs:List Int} (ht:P.underlying t=some (.array m e)) (he:P.underlying e=some (.int k)) (hc:P.cellsOf e=1) (hct:P.cellsOf t=m) (hl:zs.length=m) :
  RX enc P w held t (.agg (zs.map λz=>.lit (.int k z))) (zs.map λz=>.int k z):=by
 have:=r9 (enc:=enc) (P:=P) (w:=w) (held:=held) (ds:=zs.map λz=>(.lit (.int k z):DataW H)) (us:=zs.map λz=>[AV.int k z]) ht hc (by rw [hct,Nat.mul_one]) (by simpa using hl) (λi d u hd hu=>by
  rw [List.getElem?_map,Option.map_eq_some_iff] at hd hu
  obtain ⟨z,hz,rfl⟩:=hd
  obtain ⟨z',hz',rfl⟩:=hu
  obtain rfl:z=z':=by rw [hz] at hz';exact Option.some.inj hz'
  exact GF he hc) (by simpa using hl)
 rwa [show (zs.map λz=>[AV.int k z]).flatten=zs.map λz=>AV.int k z by induction zs with
  | nil=>rfl
  | cons a r ih=>rw [List.map_cons,List.flatten_cons,List.map_cons,List.singleton_append];congr 1;clear hl this ih;induction r with
   | nil=>rfl
   | cons b q ih=>rw [List.map_cons,List.flatten_cons,ih];rfl] at this
end
theorem HX {P:Program} {w:World}:∀ {laid:List (String×DataW Unit)} {ps:List MemPlace},DataW.LaidVars P w laid ps->∀ {nm:String} {d:DataW Unit},(nm,d)∈laid->
  ∃g t cs fuel p,P.globalNamed nm=some g/\(P.globals[g]?).map (·.type)=some t/\w.var? P nm=some cs/\DataW.trod (λ_=>()) P w 0 (λ_=>true) false fuel t cs.toList=some (d,p)
 | [],_,_,_,_,hm=>by simp at hm
 | (n0,d0)::r,ps,h,nm,d,hm=>by
  obtain ⟨g,t,cs,fuel,p,q,h1,h2,h3,h4,h5,_⟩:=h
  rcases List.mem_cons.1 hm with e | hm
  ·simp only [Prod.mk.injEq] at e
   obtain ⟨rfl,rfl⟩:=e
   exact ⟨g,t,cs,fuel,p,h1,h2,h3,h4⟩
  ·exact HX h5 hm
theorem zd {w:World} {g:Nat} {us:List AV} {cs:Array Value} (hv:∀i,w.cell? ⟨g,i,none⟩=cs[i]?) (h:CellsR (c8 w) us cs.toList):Rep (c8 w) (.elt us 0) (.pointer (some ⟨g,0,none⟩)):=by
 have hi:∀ (i:Nat) (u:AV),us[i]?=some u->∃v,cs[i]?=some v/\Rep (c8 w) u v:=λi u hu=>by
  have hlt:=(List.getElem?_eq_some_iff.1 hu).1
  have hlt':i < cs.size:=by have:=h.len;simp at this;omega
  refine ⟨cs[i],Array.getElem?_eq_getElem hlt',?_⟩
  have:=h.rep i u hu
  rwa [List.getD_eq_getElem?_getD,Array.getElem?_toList,Array.getElem?_eq_getElem hlt'] at this
 refine .elt us 0 g 0 (λi=>(cs[i]?).getD undef) (oI λu hu=>(h.one u hu).2) (λi u hu=>?_) (λi u hu=>?_)
 ·obtain ⟨v,h1,h2⟩:=hi i u hu
  rw [Nat.zero_add]
  refine ⟨(h.one u (List.mem_of_getElem? hu)).1,?_,v,?_⟩
  ·show w.cell? _=_
   rw [hv,h1];rfl
  ·rw [hv,h1]
 ·obtain ⟨v,h1,h2⟩:=hi i u hu
  rw [h1];exact h2
theorem jo {P:Program} {w:World} {laid:List (String×DataW Unit)} (h:laidMet P laid w) {nm:String} {d:DataW Unit} {g:Nat} {t:TypeId} {us:List AV} (hm:(nm,d)∈laid) (hg:P.globalNamed nm=some g) (ht:(P.globals[g]?).map (·.type)=some t)
  (hr:RX (λ_=>()) P w false t d us):Rep (c8 w) (.elt us 0) (.pointer (some ⟨g,0,none⟩)):=by
 obtain ⟨ps,hl,_⟩:=h
 obtain ⟨g',t',cs,fuel,p,h1,h2,h3,h4⟩:=HX hl hm
 obtain rfl:=Option.some.inj (hg.symm.trans h1)
 obtain rfl:=Option.some.inj (ht.symm.trans h2)
 exact zd (λi=>World.var?_cell h1 h3 i) (hr.2 fuel _ p h4)
theorem x8 {P:Program} {G:Nat->Option (List AV)} {f:FuncId} {l:List AV} {os:List AO} {xs:List Value} {w:World} (hg:∀g cs,G g=some cs->Rep (c8 w) (.elt cs 0) (.pointer (some ⟨g,0,none⟩))) (h:Ct P G f l [] (.bool true,os)) (hs:Jh w l xs) :
  Calls P f xs.toArray w λe w'=>e=.returned (.bool true)/\Below w.heap.size w w':=by
 obtain ⟨h1,h2,h3⟩:=hs.spec
 refine (h.1 (c8 w) xs.toArray ⟨λ_ _ h=>h,hg⟩ (yQ w) (by simpa using h1) (λi u hu=>?_) (by rw [h2];simp)).mono ?_
 ·have:=h3 i u hu
  simpa [Array.getD_eq_getD_getElem?,List.getD_eq_getElem?_getD] using this
 ·rintro e w' ⟨c',x,rfl,rfl,_,hF,_,hr,_,_⟩
  cases hr
  refine ⟨rfl,hF.os,hF.tape,hF.output,hF.size,λb hb=>hF.block b hb ?_⟩
  rintro ⟨k,o,ho,_⟩
  simp [ab,alook] at ho
section
variable {H:Type} {enc:TypeId×Value->H} {P:Program} {w:World} {held:Bool}
theorem Nv {t e:TypeId} {l:List (List UInt8)} (ht:P.underlying t=some (.slice e)) (he:P.underlying e=some .string) (hc:P.cellsOf e=1) (hct:P.cellsOf t=1) :
  RX enc P w held t (.slice (l.map λs=>.lit (.string s)) []) [.sl .no 1 l.length λj=>[.str (l.getD j [])]]:=⟨hct.symm,λn cs p h=>by
 rcases DataW.trod_slice ht h with ⟨_,hx⟩ | ⟨ad,len,cap,elems,rest,m,rfl,rfl,hx,_,hle,hcap,hel,hat,hsp,_⟩
 ·simp at hx
 simp only [Prod.mk.injEq,DataW.slice.injEq] at hx
 obtain ⟨⟨h1,h2⟩,_⟩:=hx
 have h2:rest=[]:=by cases rest with | nil=>rfl | cons=>simp at h2
 subst h2
 have hcl:cap=len:=by have:=(hsp rfl).1;simp at this;omega
 subst hcl
 have hll:l.length=cap:=by have:=congrArg List.length h1;simp at this;omega
 subst hll
 have hel1:∀i,i < l.length->∃v,w.cells? 0 (ad.add (i*1)) 1=some [v]/\Rep (c8 w) (.str (l.getD i [])) v:=by
  intro i hi
  have hi':i < elems.length:=by omega
  have:=hat i hi
  rw [hc,List.getElem?_eq_getElem hi',Option.bind_eq_some_iff] at this
  obtain ⟨vs,g1,g2⟩:=this
  have e1:elems[i].1=.lit (.string (l.getD i [])):=by
   have:=congrArg (λq=>q[i]?) h1
   simp [hi,hi'] at this
   rw [<-this];simp [List.getD,hi]
  obtain ⟨y,hy⟩:∃y,elems[i]=(DataW.lit (.string (l.getD i [])),y):=⟨elems[i].2,by rw [<-e1]⟩
  rw [hy] at g2
  have g3:=(Mf (enc:=enc) (P:=P) (w:=w) (held:=held) he hc).2 m vs y g2
  have g4:vs.length=1:=by have:=g3.len;simpa using this
  obtain ⟨v,rfl⟩:=List.length_eq_one_iff.1 g4
  exact ⟨v,g1,by simpa using g3.rep 0 _ rfl⟩
 have hspot:0 < l.length->ad.spot=none:=by
  intro h0
  obtain ⟨v,g1,_⟩:=hel1 0 h0
  obtain ⟨h3,h4⟩:=o9 g1
  have h5:=h4 0 (by omega)
  rw [Nat.zero_mul] at h5
  have e0:((ad.add 0).add 0)=ad:=by unfold Addr.add;simp
  rw [e0] at h5
  exact World.cell?_spot h5
 have hadd:∀i,i < l.length->(ad.add (i*1)).add 0=⟨ad.block,ad.off+(i*1+0),none⟩:=by
  intro i hi
  have hs:=hspot (by omega)
  obtain ⟨b,o,sp⟩:=ad
  simp only at hs
  subst hs
  by_cases c1:i=0
  ·subst c1;rfl
  ·have e1:(⟨b,o,none⟩:Addr).add (i*1)=⟨b,o+i*1,none⟩:=by
    unfold Addr.add
    rw [if_neg (show ¬ i*1=0 by omega)]
   rw [e1];rfl
 have hcell:∀ (j i:Nat) (u:AV),j < l.length->[AV.str (l.getD j [])][i]?=some u->∃v,w.cell? ⟨ad.block,ad.off+(j*1+i),none⟩=some v/\Rep (c8 w) u v:=by
  intro j i u hj hu
  cases i with
  | succ i=>simp at hu
  | zero=>
   simp at hu;subst hu
   obtain ⟨v,g1,g2⟩:=hel1 j hj
   obtain ⟨h3,h4⟩:=o9 g1
   have h5:=h4 0 (by omega)
   rw [hadd j hj] at h5
   exact ⟨v,h5,by simpa [List.getD] using g2⟩
 refine .K5 rfl rfl (.sl .no 1 l.length _ ad l.length (λj i=>(w.cell? ⟨ad.block,ad.off+(j*1+i),none⟩).getD undef) hspot (Nat.le_refl _) trivial (λj hj=>⟨rfl,rfl⟩) (λj i u hj hu=>?_) (λj i u hj hu=>?_))
 ·obtain ⟨v,g1,_⟩:=hcell j i u hj hu
  refine ⟨?_,?_,v,g1⟩
  ·cases i with
   | zero=>simp at hu;subst hu;rfl
   | succ i=>simp at hu
  ·show w.cell? _=_
   rw [g1];rfl
 ·obtain ⟨v,g1,g2⟩:=hcell j i u hj hu
  rw [g1];exact g2⟩
end
end Go.Ab
namespace Go.SO
open Go Go.Ab Go.Proofs Go.SH
open Go.SM hiding K1 LO NV PV QI QS S1 S2 S3 XS cF eZ cT dI eA gK1 kA kI kO kP bR mA eV nA nO nP eU rZ sA sP spA svI vA vK1 wA xA zA φC φD φI φN φP φR φS φT φX
structure G5V where
 F:Option RW
 C:CODES
 i:Nat
def zX:List AV:=[.str [],.str [],.str [],.str [],.int .i64 0,nr,nr,.int .i64 0,.str [],.str [],nr,nr]
def xcX (x:EXPT) (a:AV):List AV:=[.str x.key,.str x.layer,.str x.flag,.str x.salt,.int .i64 x.status,a,ou x.arms,.int .i64 x.when.op,.str x.when.kind,.str x.when.name,jP x.when.vals,exL x.when.kids]
def QJ (x:EXPT) (y:YO) (k:Ex->St->Res):Res:=k (.exit 1) {env:=[(3,.ref 3 0),(4,.ref 4 0)],objs:=[(3,.cells (xcX x (.sl (.key 64) 2 y.r.n y.r.g))),(4,.cells zX),(64,.own 2 y.r.n),(aa,aZ y.C)]}
def vaG (l:List VAL) (j:Nat):List AV:=(l.getD j default).c
def pqG (l:List PRQ) (j:Nat):List AV:=(l.getD j default).c
def tgG (l:List TGT) (j:Nat):List AV:=(l.getD j default).c
def cpG (n:Nat) (g:Nat->List AV):Nat->List AV:=af 0 n (λ_=>[]) g
def fC (f:FLAG) (n:Nat):List AV:=[.str f.key,.int .i64 f.kind,.sl (.key 9) 4 (0+f.vars.length) (cpG f.vars.length (vaG f.vars)),.bool f.on,.int .i64 f.off,.sl (.key 21) 2 (0+f.prqs.length) (cpG f.prqs.length (pqG f.prqs)),.sl (.key 17) 3 (0+f.tgts.length) (cpG f.tgts.length (tgG f.tgts)),.gsl 13 11 n,.int .i64 f.dflt.var,.str f.dflt.kind,.str f.dflt.by',.str f.dflt.salt,ou f.dflt.split]
structure F5V where
 r:RW
 C:CODES
end Go.SO
namespace Go.SH
open Go Go.Ab Go.Proofs Go.RowKit
section
variable {H:Type} {enc:TypeId×Value->H} {w:World}
def txt (s:List UInt8):Prop:=s.length<=1048575
theorem txt.len {s:List UInt8} (h:txt s):jg s:=by unfold txt at h;unfold jg HN;omega
end
end Go.SH
namespace Go.SH
section
variable {H:Type} {enc:TypeId×Value->H} {w:World} {N:Nat}
def LP (z:Int):Prop:=0<=z/\z < 256
end
end Go.SH
namespace Go.Proofs.YtnldpiohcmgkdaaGreatDoor
end Go.Proofs.YtnldpiohcmgkdaaGreatDoor
