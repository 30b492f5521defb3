/- What an operation of a region depends on. What an operation of a region depends on: calls, guards. A region whose order is drawn: every order leaves what the order of the text leaves. A call asks for the objects that its arguments lead to, and it turns those alone. A region whose order is drawn: the order does not count. A region whose order is drawn, sound. The head of a loop. Regions and straight code within a round of a loop over a function. Marks and records of loops over functions; a state seen from where a round begins. Code, sound. Loops over functions: an iterator's contract, the rounds, and what the loop comes to. The evaluator, sound: what E answers is what the model's call comes to. Contracts: a function's run with its calls and loops known beforehand. Loops that look at one place after another and stop at the first that says so. Contracts for one list of arguments. Contracts and loops of which only some answer is told. Rounds of loops and runs, followed down their conditions. Rounds of loops and runs whose tree of conditions is read off the proof: the kernel alone holds it against the run. A function that hands back a pointer to a new object: its contract by a run. A fu -/
import Derived.Test.YtofjmkmjdaccgaaGreatDoorX2
import Derived.OrdersIn
import Derived.RangeFuncIn
import Derived.RangeFuncLeaves
import Derived.RangeFuncRecord
import Derived.Scope
import Derived.KernelRfl
set_option linter.unusedVariables false
set_option linter.unusedSimpArgs false
namespace Go.Ab
open Go Go.RowKit
def eT (s1 s2:St) (l:List Nat):Prop:=∀t∈l,s1.get t=s2.get t
theorem nb {l:List Operand} {t:Nat}:t∈cz l↔Operand.tmp t∈l:=by
 induction l with
 | nil=>simp [cz]
 | cons o r ih=>cases o <;> simp [cz,ih]
theorem eT.sub {s1 s2:St} {l m:List Operand} (h:eT s1 s2 (cz l)) (hs:∀x∈m,x∈l):eT s1 s2 (cz m):=
 λt ht=>h t (nb.2 (hs _ (nb.1 ht)))
section
variable {s1 s2:St} {G:Nat->Option (List AV)} {ch:eM}
theorem dJ {x:Operand} (h:eT s1 s2 (cz [x])):aI ⟨s1,G,ch⟩ x=aI ⟨s2,G,ch⟩ x:=by
 cases x with
 | tmp t=>simp only [aI];rw [h t (by simp [cz])]
 | _=>rfl
theorem dK:∀ {l:List Operand},eT s1 s2 (cz l)->cJ ⟨s1,G,ch⟩ l=cJ ⟨s2,G,ch⟩ l
 | [],_=>rfl
 | x::r,h=>by
  simp only [cJ]
  rw [dJ (h.sub (by simp)),dK (l:=r) (h.sub (by simp +contextual))]
theorem ik:∀ {l:List (Nat×Operand)},eT s1 s2 (cz (l.map (·.2)))->cH ⟨s1,G,ch⟩ l=cH ⟨s2,G,ch⟩ l
 | [],_=>rfl
 | (i,x)::r,h=>by
  simp only [cH]
  rw [dJ (h.sub (by simp)),ik (l:=r) (h.sub (by simp +contextual))]
theorem js {x:Option Operand} (h:eT s1 s2 (cz x.toList)):bD.evalM ⟨s1,G,ch⟩ x=bD.evalM ⟨s2,G,ch⟩ x:=by
 cases x with
 | none=>rfl
 | some o=>simp only [bD.evalM];rw [dJ (h.sub (by simp))]
def eS (s1 s2:St) (l:List Nat):Prop:=∀k∈l,s1.obj k=s2.obj k
theorem ko {x:AV} (h:eS s1 s2 x.keys):lr s1 x=lr s2 x:=by
 cases x with
 | msl k sz off n=>simp only [lr,h k (by simp [AV.keys])]
 | gsl k sz n=>simp only [lr,h k (by simp [AV.keys])]
 | gsub k sz n lo len=>simp only [lr,h k (by simp [AV.keys])]
 | _=>rfl
theorem qp {x:AV} (h:eS s1 s2 x.keys) (P:Program) (t:TypeId):jN P s1 t x=jN P s2 t x:=by
 cases x with
 | ref k off=>simp only [jN,h k (by simp [AV.keys])]
 | aref k sz i off=>simp only [jN,h k (by simp [AV.keys])]
 | gref k sz n i off=>simp only [jN,h k (by simp [AV.keys])]
 | _=>rfl
theorem lB {x:AV} (h:eS s1 s2 x.keys) (P:Program) (t:TypeId) (i:AV):er P s1 t x i=er P s2 t x i:=by
 cases i <;> try rfl
 simp only [er]
 cases P.underlying t with
 | none=>rfl
 | some d=>
  cases x with
  | ref k off=>cases d <;> first | rfl | (cases off <;> simp only [h k (by simp [AV.keys])])
  | gsl k sz n=>cases d <;> first | rfl | simp only [h k (by simp [AV.keys])]
  | gsub k sz n lo len=>cases d <;> first | rfl | simp only [h k (by simp [AV.keys])]
  | _=>cases d <;> rfl
theorem qP {x:AV} (h:eS s1 s2 x.keys) (P:Program) (a b:TypeId):th P s1 a b x=th P s2 a b x:=by
 unfold th
 cases P.underlying b with
 | none=>rfl
 | some d=>
  cases x with
  | msl k sz off n=>cases d <;> first | rfl | simp only [lr,h k (by simp [AV.keys])]
  | gsl k sz n=>cases d <;> first | rfl | simp only [lr,h k (by simp [AV.keys])]
  | gsub k sz n lo len=>cases d <;> first | rfl | simp only [lr,h k (by simp [AV.keys])]
  | _=>cases d <;> rfl
theorem oA {x:AV} (h:eS s1 s2 x.keys) (P:Program) (t:TypeId) (v:AV):fk P s1 t x v=fk P s2 t x v:=by
 cases x with
 | ref k off=>simp only [fk,h k (by simp [AV.keys])]
 | aref k sz i off=>simp only [fk,h k (by simp [AV.keys])]
 | gref k sz n i off=>simp only [fk,h k (by simp [AV.keys])]
 | _=>rfl
theorem me {x:AV} (h:eS s1 s2 x.keys) (P:Program) (t:TypeId) (i:AV):mU P s1 t x i=mU P s2 t x i:=by
 unfold mU
 cases P.underlying t with
 | none=>rfl
 | some d=>
  cases x with
  | mref k=>cases d <;> first | rfl | simp only [h k (by simp [AV.keys])]
  | _=>cases d <;> rfl
theorem jL {x:AV} (h:eS s1 s2 x.keys) (P:Program) (t:TypeId) (i v:AV):gx P s1 t x i v=gx P s2 t x i v:=by
 unfold gx
 cases P.underlying t with
 | none=>rfl
 | some d=>
  cases x with
  | mref k=>cases d <;> first | rfl | simp only [h k (by simp [AV.keys])]
  | _=>cases d <;> rfl
theorem nL {x:AV} (h:eS s1 s2 x.keys) (P:Program) (t:TypeId) (i:AV):gY P s1 t x i=gY P s2 t x i:=by
 unfold gY
 cases P.underlying t with
 | none=>rfl
 | some d=>
  cases x with
  | mref k=>cases d <;> first | rfl | simp only [h k (by simp [AV.keys])]
  | _=>cases d <;> rfl
theorem uN {P:Program} {s:St} {t:TypeId} {x i:AV} {r:Bool×AV×AV} (h:mU P s t x i=some r):(∃k ob,k∈x.keys/\s.obj k=some ob)∨x.keys=[]:=by
 unfold mU at h
 split at h
 ·rename_i kt et k hu
  obtain ⟨z,_,h⟩:=ag h
  split at h
  ·rename_i ho;exact .inl ⟨k,_,by simp [AV.keys],ho⟩
  ·cases h
 ·exact .inr rfl
 ·cases h
theorem mc {P:Program} {s:St} {t:TypeId} {x i v:AV} {k:Nat} {ob:AO} (h:gx P s t x i v=some (k,ob)):k∈x.keys:=by
 unfold gx at h
 split at h
 ·split at h
  ·obtain ⟨_,h⟩:=au h
   simp only [Option.some.injEq,Prod.mk.injEq] at h
   simp [AV.keys,h.1]
  ·cases h
 ·cases h
theorem ql {P:Program} {s:St} {t:TypeId} {x i:AV} {k:Nat} {ob:AO} (h:gY P s t x i=some (k,ob)):k∈x.keys:=by
 unfold gY at h
 split at h
 ·split at h
  ·obtain ⟨_,h⟩:=au h
   simp only [Option.some.injEq,Prod.mk.injEq] at h
   simp [AV.keys,h.1]
  ·cases h
 ·cases h
theorem mF {α:Type}:∀ {l:List (Nat×α)} {k:Nat} {x:α},alook l k=some x->aput l k x=l
 | [],k,x,h=>by simp [alook] at h
 | (q,y)::r,k,x,h=>by
  simp only [alook] at h
  simp only [aput]
  cases hq:Nat.beq q k with
  | true=>rw [hq] at h;simp at h;simp [h]
  | false=>rw [hq] at h;simp only [cond_false] at h ⊢;rw [mF h]
theorem lz {d:Nat} (h:s1.obj d=s2.obj d) (P:Program) (t:TypeId) (same:Bool) (x v:AV):eo P s1 d t same x v=eo P s2 d t same x v:=by
 simp only [eo,h]
theorem oh {d:Nat} {x y:AV} (h:s1.obj d=s2.obj d) (hx:eS s1 s2 x.keys) (hy:eS s1 s2 y.keys) (P:Program) (t:TypeId):jy P s1 d t x y=jy P s2 d t x y:=by
 unfold jy
 rw [ko hy]
 cases P.underlying t with
 | none=>rfl
 | some D=>
  cases D with
  | slice e=>
   dsimp only
   cases az P e with
   | none=>rfl
   | some sz=>cases zeroCells P e with
    | none=>rfl
    | some z=>cases P.info? e with
     | none=>rfl
     | some inf=>cases x with
      | sl o sz0 n get=>cases lr s2 y with
       | none=>rfl
       | some q=>cases o with
        | no=>rfl
        | nl=>rfl
        | nn=>rfl
        | fit=>dsimp only;rw [h]
        | key k=>dsimp only;rw [hx k (by simp [AV.keys])]
      | _=>rfl
  | _=>rfl
theorem n9 {d:Nat} {x:AV} (h:s1.obj d=s2.obj d) (hx:eS s1 s2 x.keys) (P:Program) (t:TypeId) (b:List UInt8):ix P s1 d t x b=ix P s2 d t x b:=by
 unfold ix
 cases P.underlying t with
 | none=>rfl
 | some D=>
  cases D with
  | slice e=>
   dsimp only
   cases az P e with
   | none=>rfl
   | some sz=>cases zeroCells P e with
    | none=>rfl
    | some z=>cases P.info? e with
     | none=>rfl
     | some inf=>cases P.underlying e with
      | none=>rfl
      | some E=>cases x with
       | sl o sz0 n get=>cases E with
        | int ki=>cases ki <;> cases o <;> first | rfl | (dsimp only;rw [h]) | (dsimp only;rw [hx _ (by simp [AV.keys])])
        | _=>rfl
       | _=>cases E with
        | int ki=>cases ki <;> rfl
        | _=>rfl
  | _=>rfl
theorem qS {P:Program} {s:St} {d:Nat} {t:TypeId} {x v:AV} {bs:List UInt8} {b:Bool} {k:Nat} {ob:AO} (h:ix P s d t x bs=some (b,v,k,ob)):k=d∨k∈x.keys:=by
 unfold ix at h
 split at h
 ·split at h
  ·rename_i ow sz0 n get _ _ _ _
   obtain ⟨_,h⟩:=au h
   cases ow with
   | no=>cases h
   | nl=>cases h
   | nn=>cases h
   | fit=>
    simp only [] at h
    split at h
    ·simp only [Option.some.injEq,Prod.mk.injEq] at h;exact .inl h.2.2.1.symm
    ·cases h
   | key k'=>
    simp only [] at h
    split at h
    ·obtain ⟨_,h⟩:=au h
     simp only [Option.some.injEq,Prod.mk.injEq] at h;exact .inr (by simp [AV.keys,h.2.2.1])
    ·cases h
  ·cases h
 ·cases h
theorem oc {d:Nat} {x y:AV} (h:s1.obj d=s2.obj d) (hx:eS s1 s2 x.keys) (hy:eS s1 s2 y.keys) (P:Program) (t:TypeId):jv P s1 d t x y=jv P s2 d t x y:=by
 unfold jv
 rw [ko hy]
 cases P.underlying t with
 | none=>rfl
 | some D=>
  cases D with
  | slice e=>
   dsimp only
   cases az P e with
   | none=>rfl
   | some sz=>cases zeroCells P e with
    | none=>rfl
    | some z=>cases P.info? e with
     | none=>rfl
     | some inf=>cases lr s2 y with
      | none=>rfl
      | some q=>cases x with
       | sl o sz0 n get=>cases o with
        | no=>rfl
        | nl=>rfl
        | nn=>rfl
        | fit=>dsimp only;rw [h]
        | key k=>rfl
       | gsl k sz0 n=>dsimp only;rw [hx k (by simp [AV.keys])]
       | _=>rfl
  | _=>rfl
theorem sD {y:AV} (h:eS s1 s2 y.keys):vH s1 y=vH s2 y:=by
 cases y with
 | gsl k sz n=>simp only [vH,h k (by simp [AV.keys])]
 | gsub k sz n lo len=>simp only [vH,h k (by simp [AV.keys])]
 | _=>simp only [vH,ko h]
theorem oe {d:Nat} {x y:AV} (h:s1.obj d=s2.obj d) (h':s1.obj (d+500000)=s2.obj (d+500000)) (hx:eS s1 s2 x.keys) (hy:eS s1 s2 y.keys) (P:Program) (t:TypeId):iy P s1 d t x y=iy P s2 d t x y:=by
 unfold iy
 rw [sD hy]
 have hf:mm s1.objs d=mm s2.objs d:=by
  unfold mm
  have e1:alook s1.objs d=alook s2.objs d:=h
  have e2:alook s1.objs (d+500000)=alook s2.objs (d+500000):=h'
  rw [e1,e2]
 rw [hf]
 cases P.underlying t with
 | none=>rfl
 | some D=>cases x with
  | gsub k sz0 n lo hh=>cases D <;> first | rfl | (cases lo <;> first | rfl | simp only [hx k (by simp [AV.keys])])
  | _=>cases D <;> rfl
theorem pN {P:Program} {s:St} {d:Nat} {t:TypeId} {x y v:AV} {b:Bool} {us:List (Nat×AO)} (h:iy P s d t x y=some (b,v,us)):∀p∈us,p.1∈x.keys∨p.1=d∨p.1=d+500000:=by
 unfold iy at h
 split at h
 ·split at h
  ·rename_i hK
   obtain ⟨_,h⟩:=au h
   simp only [Option.some.injEq,Prod.mk.injEq] at h
   obtain ⟨_,_,rfl⟩:=h
   intro p hp
   rcases List.mem_cons.1 hp with rfl | hp
   ·exact .inl (by simp [AV.keys])
   ·simp only [List.mem_singleton] at hp
    subst hp
    right
    unfold mm at hK
    split at hK
    ·exact .inl (Option.some.inj hK).symm
    ·split at hK
     ·exact .inr (Option.some.inj hK).symm
     ·cases hK
  ·cases h
 ·cases h
theorem ku {k:Nat}:∀ {us objs:List (Nat×AO)},(∀p∈us,p.1≠k)->alook (rG objs us) k=alook objs k
 | [],_,_=>rfl
 | (q,o)::r,objs,h=>by
  rw [rG,ku λp hp=>h p (List.mem_cons_of_mem _ hp),aO,if_neg (h _ (List.mem_cons_self ..))]
theorem oW {k:Nat}:∀ {us o1 o2:List (Nat×AO)},alook o1 k=alook o2 k->alook (rG o1 us) k=alook (rG o2 us) k
 | [],_,_,h=>h
 | (q,o)::r,o1,o2,h=>by
  rw [rG,rG]
  refine oW ?_
  rw [aO,aO,h]
theorem kx {c:Ctx} {x:Operand} {v:AV} (hv:aI c x=some v):∀ {l:List Operand},x∈l->∀k∈v.keys,k∈aK c l
 | [],hx,_,_=>by simp at hx
 | y::r,hx,k,hk=>by
  simp only [aK,List.mem_append]
  rcases List.mem_cons.1 hx with rfl | hx
  ·left;rw [hv];exact hk
  ·exact .inr (kx hv hx k hk)
theorem l7 (P:Program) {op:Op} (h:eT s1 s2 (cz op.operands.toList)) (ho:eS s1 s2 (cond (gp op) (aK ⟨s2,G,ch⟩ op.operands.toList) [])):bD P ⟨s1,G,ch⟩ op=bD P ⟨s2,G,ch⟩ op:=by
 have E:∀ {x:Operand} {ch:eM},x∈op.operands.toList->aI ⟨s1,G,ch⟩ x=aI ⟨s2,G,ch⟩ x:=fun {x ch} hx=>dJ (h.sub (m:=[x]) (by simpa using hx))
 have K:gp op=true->∀ {x:Operand} {v:AV},x∈op.operands.toList->aI ⟨s2,G,ch⟩ x=some v->eS s1 s2 v.keys:=λhr {x v} hx hv k hk=>ho k (by rw [hr];exact kx hv hx k hk)
 cases op with
 | move x | assign x | nilCheck x | unOp _ _ x | extract x _ | fieldAddr _ x _ | field _ x _=>simp only [bD];rw [E (by simp [Op.operands])]
 | load t x=>
  simp only [bD];rw [E (by simp [Op.operands])]
  cases hx:aI ⟨s2,G,ch⟩ x with
  | none=>rfl
  | some v=>simp only [Option.bind_some];exact qp (K rfl (by simp [Op.operands]) hx) P t
 | convert a b x=>
  simp only [bD];rw [E (by simp [Op.operands])]
  cases hx:aI ⟨s2,G,ch⟩ x with
  | none=>rfl
  | some v=>simp only [Option.bind_some];exact qP (K rfl (by simp [Op.operands]) hx) P a b
 | pick q a b=>
  cases q with
  | tmp t=>simp only [bD];rw [E (x:=.tmp t) (by simp [Op.operands]),E (x:=a) (by simp [Op.operands]),E (x:=b) (by simp [Op.operands])]
  | _=>rfl
 | build t ps | buildSlice t n ps=>
  simp only [bD];rw [ik (h.sub (by simp [Op.operands]))]
 | binOp op t x y z=>simp only [bD];rw [E (x:=x) (by simp [Op.operands]),E (x:=y) (by simp [Op.operands])]
 | makeSlice t x y=>simp only [bD];rw [E (x:=x) (by simp [Op.operands]),E (x:=y) (by simp [Op.operands])]
 | indexAddr t x y=>
  simp only [bD];rw [E (x:=x) (by simp [Op.operands]),E (x:=y) (by simp [Op.operands])]
  cases hx:aI ⟨s2,G,ch⟩ x with
  | none=>rfl
  | some v=>simp only [Option.bind_some,lB (K rfl (by simp [Op.operands]) hx)]
 | index t x y=>
  simp only [bD];rw [E (x:=x) (by simp [Op.operands]),E (x:=y) (by simp [Op.operands])]
 | makeFunc f a b=>
  cases f with
  | func f=>simp only [bD];rw [dK (l:=a.toList) (h.sub (by simp +contextual [Op.operands])),dK (l:=b.toList) (h.sub (by simp +contextual [Op.operands]))]
  | _=>rfl
 | slice t x l hi m=>
  simp only [bD]
  rw [E (x:=x) (by simp [Op.operands]),js (x:=l) (h.sub (by simp +contextual [Op.operands])),js (x:=hi) (h.sub (by simp +contextual [Op.operands])),js (x:=m) (h.sub (by simp +contextual [Op.operands]))]
 | call q=>
  obtain ⟨callee,args,ts⟩:=q
  cases callee with
  | builtin b=>
   have hl:cJ ⟨s1,G,ch⟩ args.toList=cJ ⟨s2,G,ch⟩ args.toList:=dK (h.sub (by simp +contextual [Op.operands,Call.operands]))
   cases b <;> first | rfl | (simp only [bD];rw [hl])
  | _=>rfl
 | _=>rfl
theorem kv {c:Ctx}:∀ {l:List Operand},aK c l=[]->∀x∈l,∃v,aI c x=some v/\v.keys=[]
 | [],_,x,hx=>by simp at hx
 | y::r,h,x,hx=>by
  simp only [aK,List.append_eq_nil_iff] at h
  rcases List.mem_cons.1 hx with rfl | hx
  ·cases hv:aI c x with
   | none=>simp [hv] at h
   | some v=>simp [hv] at h;exact ⟨v,rfl,h.1⟩
  ·exact kv h.2 x hx
end
end Go.Ab

namespace Go.Ab
open Go Go.RowKit
mutual
theorem vY:∀ (v:AV),v.keys=[]->v.shed=v
 | .sl o sz n get,h=>by cases o <;> simp_all [AV.keys,AV.shed]
 | .agg cs,h=>by simp only [AV.shed];rw [jD cs (by simpa [AV.keys] using h)]
 | .tup vs,h=>by simp only [AV.shed];rw [jD vs (by simpa [AV.keys] using h)]
 | .ref ..,_ | .aref ..,_ | .msl ..,_ | .fn ..,_ | .bool _,_ | .int ..,_ | .str _,_ | .nilp,_ | .nilf,_ | .nilm,_ | .nili,_ | .nni,_ | .num _,_ | .undef,_ | .raw _,_ | .arr ..,_ | .elt ..,_ | .fms ..,_ | .grd ..,_=>rfl
theorem jD:∀ (l:List AV),ak l=[]->bt l=l
 | [],_=>rfl
 | v::r,h=>by
  simp only [ak,List.append_eq_nil_iff] at h
  simp only [bt];rw [vY v h.1,jD r h.2]
end
theorem mu {O:List (Nat×AO)} {v:AV} (h:v.keys=[]):bM O v=some (v,O):=by
 cases v <;> first | rfl | (simp [AV.keys] at h;done)
theorem mn {O:List (Nat×AO)}:∀ {l:List AV},ak l=[]->bU O l=some (l,O)
 | [],_=>rfl
 | v::r,h=>by
  simp only [ak,List.append_eq_nil_iff] at h
  simp only [bU,mu h.1,mn h.2,Option.bind_some]
theorem qC {O:List (Nat×AO)} {v:AV} (h:v.keys=[]):di O v=some (v,O):=by
 cases v with
 | agg cs=>simp only [di,mn (show ak cs=[] by simpa [AV.keys] using h),Option.map_some]
 | _=>exact mu h
theorem k7 {O:List (Nat×AO)}:∀ {l:List AV},ak l=[]->bd O l=some (l,O)
 | [],_=>rfl
 | v::r,h=>by
  simp only [ak,List.append_eq_nil_iff] at h
  simp only [bd,qC h.1,k7 h.2,Option.bind_some]
section
variable {s1 s2:St} {G:Nat->Option (List AV)} {ch:eM}
theorem fc {f:Operand} {args:Array Operand} {ts:Array TypeId} (h:eT s1 s2 (cz (Op.call {callee:=.value f,args,argTypes:=ts}).operands.toList)) :
  dk ⟨s1,G,ch⟩ {callee:=.value f,args,argTypes:=ts}=dk ⟨s2,G,ch⟩ {callee:=.value f,args,argTypes:=ts}:=by
 simp only [dk]
 rw [dJ (x:=f) (h.sub (by simp [Op.operands,Call.operands])),dK (l:=args.toList) (h.sub (by simp +contextual [Op.operands,Call.operands]))]
theorem mz {X:Cfg} {s:St} {o:Oper} (h1:db o.op=false) (h2:bT o.op=false):dZ X s o=(bD X.P ⟨s,X.G,[]⟩ o.op).map λr=>(r.1,r.2,s.objs):=by
 cases hop:o.op with
 | call q=>
  obtain ⟨callee,args,ts⟩:=q
  cases callee with
  | builtin b=>cases b <;> first | (simp [hop,db] at h1;done) | simp only [dZ,hop]
  | value f=>simp [hop,bT] at h2
  | invoke r m=>simp only [dZ,hop]
 | alloc _=>simp [hop,db] at h1
 | box _ _=>simp [hop,db] at h1
 | store _ _ _=>simp [hop,db] at h1
 | range _ _=>simp [hop,db] at h1
 | next _ _=>simp [hop,db] at h1
 | makeSlice _ _ _=>simp [hop,db] at h1
 | makeMap t r=>cases r with | none=>simp [hop,db] at h1 | some r=>simp only [dZ,hop]
 | lookup _ _ _ _=>simp [hop,db] at h1
 | mapUpdate _ _ _ _=>simp [hop,db] at h1
 | insert _ _ _ _=>simp [hop,db] at h1
 | _=>simp only [dZ,hop]
theorem mh {s:St}:∀ {l:List Operand} {vs:List AV},aK ⟨s,G,ch⟩ l=[]->cJ ⟨s,G,ch⟩ l=some vs->ak vs=[]
 | [],vs,_,h=>by simp [cJ] at h;subst h;rfl
 | x::r,vs,hk,h=>by
  simp only [cJ] at h
  obtain ⟨v,h1,h⟩:=ag h
  obtain ⟨l,h2,h⟩:=aQ h
  subst h
  simp only [aK,h1,List.append_eq_nil_iff] at hk
  simp only [ak,hk.1,mh hk.2 h2,List.append_nil]
theorem nd {c:Ctx} {l:List Operand} (h:aK c l=[]):∀ {m:List Operand},(∀x∈m,x∈l)->aK c m=[]
 | [],_=>rfl
 | x::r,hs=>by
  obtain ⟨v,h1,h2⟩:=kv h x (hs x (by simp))
  simp only [aK,h1,h2,List.nil_append]
  exact nd h λy hy=>hs y (List.mem_cons_of_mem _ hy)
theorem pH {s:St} {f:Operand} {args:Array Operand} {ts:Array TypeId} (h:aK ⟨s,G,ch⟩ (Op.call {callee:=.value f,args,argTypes:=ts}).operands.toList=[]) {g:FuncId} {l:List AV}
  (he:dk ⟨s,G,ch⟩ {callee:=.value f,args,argTypes:=ts}=some (g,l)):ak l=[]:=by
 unfold dk at he
 dsimp only at he
 obtain ⟨fv,h1,he⟩:=ag he
 obtain ⟨vs,h2,he⟩:=ag he
 obtain ⟨v,h3,h4⟩:=kv h f (by simp [Op.operands,Call.operands])
 rw [h1] at h3;cases h3
 have h5:=mh (nd h (m:=args.toList) (by simp +contextual [Op.operands,Call.operands])) h2
 cases fv with
 | fn f' first caps=>
  simp only [Option.some.injEq,Prod.mk.injEq] at he
  obtain ⟨_,rfl⟩:=he
  simp only [AV.keys,List.append_eq_nil_iff] at h4
  simp only [eI,h4.1,h4.2,h5,List.append_nil]
 | _=>simp at he
def gi (O1 O2:List (Nat×AO)):Prop:=∀k,alook O1 k=alook O2 k
theorem gi.put {O1 O2:List (Nat×AO)} (h:gi O1 O2) (k:Nat) (o:AO):gi (aput O1 k o) (aput O2 k o):=λq=>by rw [aO,aO,h q]
theorem ld {O1 O2:List (Nat×AO)} (h:gi O1 O2) {v v':AV} {O2':List (Nat×AO)} (he:bM O2 v=some (v',O2')):∃O1',bM O1 v=some (v',O1')/\gi O1' O2':=by
 cases v with
 | msl k sz off n=>
  simp only [bM] at he ⊢
  rw [h k]
  cases ho:alook O2 k with
  | none=>simp [ho] at he
  | some ob=>
   cases ob with
   | arr sz' m get=>
    simp only [ho] at he ⊢
    obtain ⟨hb,he⟩:=au he
    simp only [Option.some.injEq,Prod.mk.injEq] at he
    obtain ⟨rfl,rfl⟩:=he
    exact ⟨_,by rw [hb];rfl,h.put _ _⟩
   | frz sz' m get=>
    simp only [ho] at he ⊢
    obtain ⟨hb,he⟩:=au he
    simp only [Option.some.injEq,Prod.mk.injEq] at he
    obtain ⟨rfl,rfl⟩:=he
    exact ⟨_,by rw [hb];rfl,h⟩
   | _=>simp [ho] at he
 | gsl k sz n=>
  simp only [bM] at he ⊢
  rw [h k]
  cases ho:alook O2 k with
  | none=>simp [ho] at he
  | some ob=>
   cases ob with
   | grw sq sz' m get=>
    simp only [ho] at he ⊢
    obtain ⟨hb,he⟩:=au he
    simp only [Option.some.injEq,Prod.mk.injEq] at he
    obtain ⟨rfl,rfl⟩:=he
    exact ⟨_,by rw [hb];rfl,h.put _ _⟩
   | _=>simp [ho] at he
 | _=>simp only [bM,Option.some.injEq,Prod.mk.injEq] at he ⊢;obtain ⟨rfl,rfl⟩:=he;exact ⟨_,⟨rfl,rfl⟩,h⟩
theorem k9:∀ {l l':List AV} {O1 O2 O2':List (Nat×AO)},gi O1 O2->bU O2 l=some (l',O2')->∃O1',bU O1 l=some (l',O1')/\gi O1' O2'
 | [],l',O1,O2,O2',h,he=>by simp only [bU,Option.some.injEq,Prod.mk.injEq] at he;obtain ⟨rfl,rfl⟩:=he;exact ⟨_,rfl,h⟩
 | v::r,l',O1,O2,O2',h,he=>by
  simp only [bU] at he ⊢
  obtain ⟨⟨v',o1⟩,e1,he⟩:=ag he
  obtain ⟨⟨r',o2⟩,e2,he⟩:=ag he
  simp only [Option.some.injEq,Prod.mk.injEq] at he
  obtain ⟨rfl,rfl⟩:=he
  obtain ⟨p1,g1,g2⟩:=ld h e1
  obtain ⟨p2,g3,g4⟩:=k9 g2 e2
  exact ⟨p2,by rw [g1];simp only [Option.bind_some];rw [g3];rfl,g4⟩
theorem po {O1 O2:List (Nat×AO)} (h:gi O1 O2) {v v':AV} {O2':List (Nat×AO)} (he:di O2 v=some (v',O2')):∃O1',di O1 v=some (v',O1')/\gi O1' O2':=by
 cases v with
 | agg cs=>
  simp only [di] at he ⊢
  obtain ⟨⟨l,o⟩,e1,he⟩:=aQ he
  simp only [Prod.mk.injEq] at he
  obtain ⟨rfl,rfl⟩:=he
  obtain ⟨p,g1,g2⟩:=k9 h e1
  exact ⟨p,by rw [g1];rfl,g2⟩
 | _=>simp only [di] at he ⊢;exact ld h he
theorem jU:∀ {l l':List AV} {O1 O2 O2':List (Nat×AO)},gi O1 O2->bd O2 l=some (l',O2')->∃O1',bd O1 l=some (l',O1')/\gi O1' O2'
 | [],l',O1,O2,O2',h,he=>by simp only [bd,Option.some.injEq,Prod.mk.injEq] at he;obtain ⟨rfl,rfl⟩:=he;exact ⟨_,rfl,h⟩
 | v::r,l',O1,O2,O2',h,he=>by
  simp only [bd] at he ⊢
  obtain ⟨⟨v',o1⟩,e1,he⟩:=ag he
  obtain ⟨⟨r',o2⟩,e2,he⟩:=ag he
  simp only [Option.some.injEq,Prod.mk.injEq] at he
  obtain ⟨rfl,rfl⟩:=he
  obtain ⟨p1,g1,g2⟩:=po h e1
  obtain ⟨p2,g3,g4⟩:=jU g2 e2
  exact ⟨p2,by rw [g1];simp only [Option.bind_some];rw [g3];rfl,g4⟩
theorem gV {O1 O2:List (Nat×AO)} (h:gi O1 O2):∀l,bg O1 l=bg O2 l
 | []=>rfl
 | k::r=>by simp only [bg,h k,gV h r]
theorem kZ {O1 O2:List (Nat×AO)} (h:gi O1 O2):∀l,ca O1 l=ca O2 l
 | []=>rfl
 | k::r=>by simp only [ca,h k,kZ h r]
theorem kT:∀ {ks:List Nat} {l:List AO} {O1 O2:List (Nat×AO)},gi O1 O2->gi (bb O1 ks l) (bb O2 ks l)
 | [],l,O1,O2,h=>by cases l <;> exact h
 | k::r,[],O1,O2,h=>h
 | k::r,o::l,O1,O2,h=>kT (ks:=r) (l:=l) (h.put k o)
theorem qJ {X:Cfg} {O1 O2:List (Nat×AO)} (h:gi O1 O2) {f:FuncId} {l:List AV} {b:Bool} {v:AV} {O2':List (Nat×AO)} (he:im X O2 f l=some (b,v,O2')):∃O1',im X O1 f l=some (b,v,O1')/\gi O1' O2':=by
 unfold im at he ⊢
 obtain ⟨⟨l1,o1⟩,h1,he⟩:=ag he
 have hfz:∃p,cond (X.byRef f) (some (l,O1)) (bd O1 l)=some (l1,p)/\gi p o1:=by
  cases hb:X.byRef f with
  | true=>simp only [hb,cond_true,Option.some.injEq,Prod.mk.injEq] at h1;obtain ⟨rfl,rfl⟩:=h1;exact ⟨O1,rfl,h⟩
  | false=>simp only [hb,cond_false] at h1;exact jU h h1
 obtain ⟨p,g1,g2⟩:=hfz
 rw [g1]
 dsimp only [Option.bind_some] at he ⊢
 have e1:aX p (ak (bt l1))=aX o1 (ak (bt l1)):=by simp only [aX,gV g2]
 obtain ⟨hcl,he⟩:=bc he
 obtain ⟨os,hos,he⟩:=ag he
 obtain ⟨⟨r,os'⟩,hcall,he⟩:=ag he
 obtain ⟨hlen,he⟩:=bc he
 dsimp only at hlen he
 simp only [Option.some.injEq,Prod.mk.injEq] at he
 obtain ⟨rfl,rfl,rfl⟩:=he
 refine ⟨bb p _ _,?_,kT g2⟩
 rw [e1,gV g2,hcl,kZ g2,hos]
 simp only [cond_true,Option.bind_some]
 rw [hcall]
 simp only [Option.bind_some,hlen,cond_true]
theorem mY {X:Cfg} {o:Oper} (h1:bT o.op=true) (hO:gi s1.objs s2.objs) (h:eT s1 s2 (cz o.op.operands.toList)) {b:Bool} {v:AV} {O':List (Nat×AO)} (he:dZ X s2 o=some (b,v,O')) :
  ∃O1',dZ X s1 o=some (b,v,O1')/\gi O1' O':=by
 cases hop:o.op with
 | call q=>
  obtain ⟨callee,args,ts⟩:=q
  cases callee with
  | value f=>
   rw [hop] at h
   simp only [dZ,hop] at he ⊢
   obtain ⟨⟨g,l⟩,e1,he⟩:=ag he
   obtain ⟨p,g1,g2⟩:=qJ hO he
   rw [fc h,e1]
   exact ⟨p,by simp only [Option.bind_some];rw [g1],g2⟩
  | builtin b=>simp [hop,bT] at h1
  | invoke r m=>simp [hop,bT] at h1
 | _=>simp [hop,bT] at h1
theorem pB {X:Cfg} {o:Oper} (h1:db o.op=true) (h:eT s1 s2 (cz o.op.operands.toList)) (hK:eS s1 s2 (jA o.dst.toList++aK ⟨s2,X.G,[]⟩ o.op.operands.toList)) {b:Bool} {v:AV} {O':List (Nat×AO)} (he:dZ X s2 o=some (b,v,O')) :
  ∃us:List (Nat×AO),(∀p∈us,p.1∈jA o.dst.toList++aK ⟨s2,X.G,[]⟩ o.op.operands.toList)/\O'=rG s2.objs us/\dZ X s1 o=some (b,v,rG s1.objs us):=by
 suffices hs:(∃q ob,q∈jA o.dst.toList++aK ⟨s2,X.G,[]⟩ o.op.operands.toList/\O'=aput s2.objs q ob/\dZ X s1 o=some (b,v,aput s1.objs q ob))∨(∃us:List (Nat×AO),(∀p∈us,p.1∈jA o.dst.toList++aK ⟨s2,X.G,[]⟩ o.op.operands.toList)/\O'=rG s2.objs us/\dZ X s1 o=some (b,v,rG s1.objs us)) by
  rcases hs with ⟨q,ob,g1,g2,g3⟩ | hs
  ·exact ⟨[(q,ob)],λp hp=>by simp only [List.mem_singleton] at hp;subst hp;exact g1,g2,g3⟩
  ·exact hs
 have E:∀ {x:Operand},x∈o.op.operands.toList->aI ⟨s1,X.G,[]⟩ x=aI ⟨s2,X.G,[]⟩ x:=fun {x} hx=>dJ (h.sub (m:=[x]) (by simpa using hx))
 have K:∀ {x:Operand} {v:AV},x∈o.op.operands.toList->aI ⟨s2,X.G,[]⟩ x=some v->∀k∈v.keys,k∈jA o.dst.toList++aK ⟨s2,X.G,[]⟩ o.op.operands.toList:=fun {x v} hx hv k hk=>List.mem_append_right _ (kx hv hx k hk)
 have D:∀d,o.dst=some d->d∈jA o.dst.toList++aK ⟨s2,X.G,[]⟩ o.op.operands.toList:=λd hd=>List.mem_append_left _ (by rw [hd];simp [jA])
 have D':∀d,o.dst=some d->d+500000∈jA o.dst.toList++aK ⟨s2,X.G,[]⟩ o.op.operands.toList:=λd hd=>List.mem_append_left _ (by rw [hd];simp [jA])
 cases hop:o.op with
 | alloc t=>
  simp only [dZ,hop] at he ⊢
  cases hdst:o.dst with
  | none=>simp [hdst] at he
  | some d=>
   simp only [hdst] at he ⊢
   rw [hK d (D d hdst)]
   cases hob:s2.obj d with
   | some _=>simp [hob] at he
   | none=>
    simp only [hob] at he ⊢
    obtain ⟨ob,e1,e2⟩:=aQ he
    simp only [Prod.mk.injEq] at e2
    obtain ⟨rfl,rfl,rfl⟩:=e2
    exact .inl ⟨d,ob,by simp [jA],rfl,by rw [e1];rfl⟩
 | box t x=>
  have hE:=E (x:=x) (by simp [hop,Op.operands])
  simp only [dZ,hop] at he ⊢
  cases hdst:o.dst with
  | none=>simp [hdst] at he
  | some d=>
   simp only [hdst] at he ⊢
   rw [hK d (D d hdst),hE]
   cases hob:s2.obj d with
   | some _=>simp [hob] at he
   | none=>
    simp only [hob] at he ⊢
    obtain ⟨u,e1,he⟩:=ag he
    rw [e1]
    simp only [Option.bind_some]
    cases u with
    | arr sz n get=>
     dsimp only at he ⊢
     obtain ⟨hb,he⟩:=au he
     simp only [Option.some.injEq,Prod.mk.injEq] at he
     obtain ⟨rfl,rfl,rfl⟩:=he
     exact .inl ⟨d,_,by simp [jA],rfl,by rw [hb];rfl⟩
    | _=>
     dsimp only at he ⊢
     obtain ⟨hb,he⟩:=au he
     simp only [Option.some.injEq,Prod.mk.injEq] at he
     obtain ⟨rfl,rfl,rfl⟩:=he
     exact .inl ⟨d,_,by simp [jA],rfl,by rw [hb];rfl⟩
 | range t x=>
  have hE:=E (x:=x) (by simp [hop,Op.operands])
  simp only [dZ,hop] at he ⊢
  cases hdst:o.dst with
  | none=>simp [hdst] at he
  | some d=>
   simp only [hdst] at he ⊢
   rw [hK d (D d hdst),hE]
   cases hob:s2.obj d with
   | some _=>simp [hob] at he
   | none=>
    simp only [hob] at he ⊢
    obtain ⟨u,e1,he⟩:=ag he
    rw [e1]
    simp only [Option.bind_some]
    split at he
    ·rename_i bs ht
     simp only [Option.some.injEq,Prod.mk.injEq] at he
     obtain ⟨rfl,rfl,rfl⟩:=he
     exact .inl ⟨d,_,by simp [jA],rfl,rfl⟩
    ·simp at he
 | next x isS=>
  have hE:=E (x:=x) (by simp [hop,Op.operands])
  have hKx:∀ {v:AV},aI ⟨s2,X.G,[]⟩ x=some v->∀k∈v.keys,k∈jA o.dst.toList++aK ⟨s2,X.G,[]⟩ o.op.operands.toList:=fun {v}=>K (x:=x) (v:=v) (by simp [hop,Op.operands])
  rw [hop] at hK hKx
  simp only [dZ,hop] at he ⊢
  rw [hE]
  obtain ⟨u,e1,he'⟩:=ag he
  clear he
  have hku:=hKx e1
  rw [e1]
  simp only [Option.bind_some]
  split at he'
  ·rename_i q
   have he:=he'
   clear he'
   have hq:=hku q (by simp [AV.keys])
   split at he
   ·rename_i bs pos hob
    simp only [Option.some.injEq,Prod.mk.injEq] at he
    obtain ⟨rfl,rfl,rfl⟩:=he
    exact .inl ⟨q,_,hq,rfl,by simp only [hK q hq,hob]⟩
   ·simp at he
  ·simp at he'
 | store t x y=>
  have hE:=E (x:=x) (by simp [hop,Op.operands])
  have hE':=E (x:=y) (by simp [hop,Op.operands])
  have hKx:∀ {v:AV},aI ⟨s2,X.G,[]⟩ x=some v->∀k∈v.keys,k∈jA o.dst.toList++aK ⟨s2,X.G,[]⟩ o.op.operands.toList:=fun {v}=>K (x:=x) (v:=v) (by simp [hop,Op.operands])
  simp only [dZ,hop] at he ⊢
  rw [hE,hE']
  obtain ⟨u,e1,he⟩:=ag he
  obtain ⟨q,e2,he⟩:=ag he
  obtain ⟨⟨b',k,ob⟩,e3,he⟩:=aQ he
  simp only [Prod.mk.injEq] at he
  obtain ⟨rfl,rfl,rfl⟩:=he
  rw [e1,e2]
  simp only [Option.bind_some]
  have hku:=hKx e1
  rw [oA (λk hk=>hK k (hku k hk)),e3]
  refine .inl ⟨k,ob,?_,rfl,rfl⟩
  have hk:k∈u.keys:=by
   cases u with
   | ref k' off=>
    have:k=k':=by
     simp only [fk] at e3
     cases ho:s2.obj k' with
     | none=>simp [ho] at e3
     | some o'=>
      cases o' with
      | cells cs=>
       simp only [ho] at e3
       obtain ⟨_,e3⟩:=au e3
       obtain ⟨_,_,e3⟩:=aQ e3
       simp only [Prod.mk.injEq] at e3;exact e3.2.1.symm
      | arr sz n get=>
       simp only [ho] at e3
       cases q <;> simp only [] at e3 <;> first
        | (cases e3;done)
        | (obtain ⟨_,e3⟩:=au e3;simp only [Option.some.injEq,Prod.mk.injEq] at e3;exact e3.2.1.symm)
      | _=>simp [ho] at e3
    simp [AV.keys,this]
   | aref k' sz' i off=>
    have:k=k':=by
     simp only [fk] at e3
     cases ho:s2.obj k' with
     | none=>simp [ho] at e3
     | some o'=>
      cases o' with
      | arr sz n get=>
       simp only [ho] at e3
       obtain ⟨_,e3⟩:=au e3
       obtain ⟨_,_,e3⟩:=aQ e3
       simp only [Prod.mk.injEq] at e3;exact e3.2.1.symm
      | _=>simp [ho] at e3
    simp [AV.keys,this]
   | gref k' sz' n' i off=>
    have:k=k':=by
     simp only [fk] at e3
     cases ho:s2.obj k' with
     | none=>simp [ho] at e3
     | some o'=>
      cases o' with
      | grw sq sz n get=>
       simp only [ho] at e3
       obtain ⟨_,e3⟩:=au e3
       obtain ⟨_,e3⟩:=au e3
       simp only [Option.some.injEq,Prod.mk.injEq] at e3;exact e3.2.1.symm
      | _=>simp [ho] at e3
    simp [AV.keys,this]
   | _=>simp [fk] at e3
  rw [<-hop];exact hku k hk
 | makeSlice t x y=>
  have hE:=E (x:=x) (by simp [hop,Op.operands])
  have hE':=E (x:=y) (by simp [hop,Op.operands])
  simp only [dZ,hop] at he ⊢
  rw [hE,hE']
  cases hdst:o.dst with
  | none=>simp [hdst] at he
  | some d=>
   simp only [hdst] at he ⊢
   obtain ⟨u,e1,he⟩:=ag he
   obtain ⟨q,e2,he⟩:=ag he
   obtain ⟨⟨b',v',k,ob⟩,e3,he⟩:=aQ he
   simp only [Prod.mk.injEq] at he
   obtain ⟨rfl,rfl,rfl⟩:=he
   rw [e1,e2]
   simp only [Option.bind_some]
   rw [lz (hK d (D d hdst)),e3]
   have hk:k=d:=by
    clear he hE hE' e1 e2
    unfold eo at e3
    split at e3
    ·rename_i e l m hu
     split at e3
     ·obtain ⟨_,e3⟩:=au e3
      generalize xi x y=same at e3
      cases same with
      | true=>simp only [cond_true,Option.some.injEq,Prod.mk.injEq] at e3;exact e3.2.2.1.symm
      | false=>simp only [cond_false,Option.some.injEq,Prod.mk.injEq] at e3;exact e3.2.2.1.symm
     ·cases e3
    ·cases e3
   exact .inl ⟨k,ob,by simp [hk,jA],rfl,rfl⟩
 | makeMap t r=>
  cases r with
  | some r=>simp [hop,db] at h1
  | none=>
   simp only [dZ,hop] at he ⊢
   cases hdst:o.dst with
   | none=>simp [hdst] at he
   | some d=>
    simp only [hdst] at he ⊢
    rw [hK d (D d hdst)]
    cases hob:s2.obj d with
    | some _=>simp [hob] at he
    | none=>
     simp only [hob] at he ⊢
     split at he
     ·obtain ⟨z,e0,he⟩:=ag he
      obtain ⟨q,e1,he⟩:=aQ he
      simp only [Prod.mk.injEq] at he
      obtain ⟨rfl,rfl,rfl⟩:=he
      exact .inl ⟨d,_,by simp [jA],rfl,by rw [e0,Option.bind_some,e1];rfl⟩
     ·simp at he
 | lookup t x i ok=>
  have hE:=E (x:=x) (by simp [hop,Op.operands])
  have hE':=E (x:=i) (by simp [hop,Op.operands])
  have hKx:∀ {v:AV},aI ⟨s2,X.G,[]⟩ x=some v->∀k∈v.keys,k∈jA o.dst.toList++aK ⟨s2,X.G,[]⟩ o.op.operands.toList:=fun {v}=>K (x:=x) (v:=v) (by simp [hop,Op.operands])
  rw [hop] at hK hKx
  simp only [dZ,hop] at he ⊢
  rw [hE,hE']
  obtain ⟨u,e1,he⟩:=ag he
  obtain ⟨q,e2,he⟩:=ag he
  obtain ⟨r,e3,he⟩:=aQ he
  simp only [Prod.mk.injEq] at he
  obtain ⟨rfl,rfl,rfl⟩:=he
  have hku:=hKx e1
  rcases uN e3 with ⟨k,ob,hk,hob⟩ | _
  ·refine .inl ⟨k,ob,hku k hk,(mF hob).symm,?_⟩
   rw [e1,e2]
   simp only [Option.bind_some]
   rw [me (λk hk=>hK k (hku k hk)),e3]
   have h1o:alook s1.objs k=some ob:=(hK k (hku k hk)).trans hob
   rw [mF h1o];rfl
  ·refine .inr ⟨[],λp hp=>(List.not_mem_nil hp).elim,rfl,?_⟩
   rw [e1,e2]
   simp only [Option.bind_some]
   rw [me (λk hk=>hK k (hku k hk)),e3];rfl
 | mapUpdate t x i w=>
  have hE:=E (x:=x) (by simp [hop,Op.operands])
  have hE':=E (x:=i) (by simp [hop,Op.operands])
  have hE2:=E (x:=w) (by simp [hop,Op.operands])
  have hKx:∀ {v:AV},aI ⟨s2,X.G,[]⟩ x=some v->∀k∈v.keys,k∈jA o.dst.toList++aK ⟨s2,X.G,[]⟩ o.op.operands.toList:=fun {v}=>K (x:=x) (v:=v) (by simp [hop,Op.operands])
  rw [hop] at hK hKx
  simp only [dZ,hop] at he ⊢
  rw [hE,hE',hE2]
  obtain ⟨u,e1,he⟩:=ag he
  obtain ⟨q,e2,he⟩:=ag he
  obtain ⟨r,e4,he⟩:=ag he
  obtain ⟨⟨k,ob⟩,e3,he⟩:=aQ he
  simp only [Prod.mk.injEq] at he
  obtain ⟨rfl,rfl,rfl⟩:=he
  have hku:=hKx e1
  refine .inl ⟨k,ob,hku k (mc e3),rfl,?_⟩
  rw [e1,e2,e4]
  simp only [Option.bind_some]
  rw [jL (λk hk=>hK k (hku k hk)),e3];rfl
 | insert t x i w=>
  have hE:=E (x:=x) (by simp [hop,Op.operands])
  have hE':=E (x:=i) (by simp [hop,Op.operands])
  have hE2:=E (x:=w) (by simp [hop,Op.operands])
  have hKx:∀ {v:AV},aI ⟨s2,X.G,[]⟩ x=some v->∀k∈v.keys,k∈jA o.dst.toList++aK ⟨s2,X.G,[]⟩ o.op.operands.toList:=fun {v}=>K (x:=x) (v:=v) (by simp [hop,Op.operands])
  rw [hop] at hK hKx
  simp only [dZ,hop] at he ⊢
  rw [hE,hE',hE2]
  obtain ⟨u,e1,he⟩:=ag he
  obtain ⟨q,e2,he⟩:=ag he
  obtain ⟨r,e4,he⟩:=ag he
  obtain ⟨⟨k,ob⟩,e3,he⟩:=aQ he
  simp only [Prod.mk.injEq] at he
  obtain ⟨rfl,rfl,rfl⟩:=he
  have hku:=hKx e1
  refine .inl ⟨k,ob,hku k (mc e3),rfl,?_⟩
  rw [e1,e2,e4]
  simp only [Option.bind_some]
  rw [jL (λk hk=>hK k (hku k hk)),e3];rfl
 | call q=>
  obtain ⟨callee,args,ts⟩:=q
  cases callee with
  | builtin bi=>
   cases bi with
   | delete=>
    have hl:cJ ⟨s1,X.G,[]⟩ args.toList=cJ ⟨s2,X.G,[]⟩ args.toList:=dK (h.sub (by rw [hop];simp +contextual [Op.operands,Call.operands]))
    simp only [dZ,hop] at he ⊢
    split at he
    ·rename_i t t' hts
     obtain ⟨l,e1,he⟩:=ag he
     rw [hl,e1]
     have hkeys':∀k∈ak l,k∈jA o.dst.toList++aK ⟨s2,X.G,[]⟩ o.op.operands.toList:=by
       have aux:∀ (as:List Operand) (l:List AV),cJ ⟨s2,X.G,[]⟩ as=some l->∀k∈ak l,k∈aK ⟨s2,X.G,[]⟩ as:=by
        intro as
        induction as with
        | nil=>intro l hl k hk;simp [cJ] at hl;subst hl;simp [ak] at hk
        | cons x r ih=>
         intro l hl k hk
         simp only [cJ] at hl
         obtain ⟨v,g1,hl⟩:=ag hl
         obtain ⟨l',g2,hl⟩:=aQ hl
         subst hl
         simp only [ak,List.mem_append] at hk
         simp only [aK,g1,List.mem_append]
         rcases hk with hk | hk
         ·exact .inl hk
         ·exact .inr (ih l' g2 k hk)
       intro k hk
       have:=aux _ _ e1 k hk
       refine List.mem_append_right _ ?_
       rw [hop]
       simpa [Op.operands,Call.operands] using this
     split at he
     ·rename_i x i
      obtain ⟨⟨k,ob⟩,e3,he⟩:=aQ he
      simp only [Prod.mk.injEq] at he
      obtain ⟨rfl,rfl,rfl⟩:=he
      have hkeys:∀k∈x.keys,k∈jA o.dst.toList++aK ⟨s2,X.G,[]⟩ o.op.operands.toList:=λk hk=>hkeys' k (by simp only [ak,List.mem_append];exact .inl hk)
      refine .inl ⟨k,ob,?_,rfl,?_⟩
      ·rw [<-hop];exact hkeys k (ql e3)
      ·simp only [Option.bind_some]
       rw [nL (λk hk=>hK k (hkeys k hk)),e3];rfl
     ·cases he
    ·cases he
   | append=>
    have hl:cJ ⟨s1,X.G,[]⟩ args.toList=cJ ⟨s2,X.G,[]⟩ args.toList:=dK (h.sub (by rw [hop];simp +contextual [Op.operands,Call.operands]))
    simp only [dZ,hop] at he ⊢
    split at he
    ·rename_i d t t' hdst hts
     obtain ⟨hb,he⟩:=au he
     obtain ⟨l,e1,he⟩:=ag he
     rw [hl,e1,hb]
     have hkeys':∀k∈ak l,k∈jA o.dst.toList++aK ⟨s2,X.G,[]⟩ o.op.operands.toList:=by
       have aux:∀ (as:List Operand) (l:List AV),cJ ⟨s2,X.G,[]⟩ as=some l->∀k∈ak l,k∈aK ⟨s2,X.G,[]⟩ as:=by
        intro as
        induction as with
        | nil=>intro l hl k hk;simp [cJ] at hl;subst hl;simp [ak] at hk
        | cons x r ih=>
         intro l hl k hk
         simp only [cJ] at hl
         obtain ⟨v,g1,hl⟩:=ag hl
         obtain ⟨l',g2,hl⟩:=aQ hl
         subst hl
         simp only [ak,List.mem_append] at hk
         simp only [aK,g1,List.mem_append]
         rcases hk with hk | hk
         ·exact .inl hk
         ·exact .inr (ih l' g2 k hk)
       intro k hk
       have:=aux _ _ e1 k hk
       refine List.mem_append_right _ ?_
       rw [hop]
       simpa [Op.operands,Call.operands] using this
     split at he
     ·rename_i x bs
      have hkeys:∀k∈x.keys,k∈jA o.dst.toList++aK ⟨s2,X.G,[]⟩ o.op.operands.toList:=λk hk=>hkeys' k (by simp only [ak,List.mem_append];exact .inl hk)
      obtain ⟨hst,he⟩:=au he
      obtain ⟨⟨b',v',k,ob⟩,e3,he⟩:=aQ he
      simp only [Prod.mk.injEq] at he
      obtain ⟨rfl,rfl,rfl⟩:=he
      simp only [aj,cond_true,Option.bind_some,hst]
      rw [n9 (hK d (D d hdst)) (λk hk=>hK k (hkeys k hk)),e3]
      refine .inl ⟨k,ob,?_,rfl,rfl⟩
      rw [<-hop]
      rcases qS e3 with rfl | hk
      ·exact List.mem_append_left _ (by simp [hdst,jA])
      ·exact hkeys k hk
     ·rename_i x y _
      have hkeys:∀k∈ak [x,y],k∈jA o.dst.toList++aK ⟨s2,X.G,[]⟩ o.op.operands.toList:=hkeys'
      obtain ⟨hb',he2⟩:=au he
      clear he
      have he:=he2
      have hsx:eS s1 s2 x.keys:=λk hk=>hK k (hkeys k (by simp only [ak,List.mem_append];exact .inl hk))
      have hsy:eS s1 s2 y.keys:=λk hk=>hK k (hkeys k (by simp only [ak,List.mem_append];exact .inr (.inl hk)))
      simp only [aj,cond_true,Option.bind_some,hb']
      cases hgs:uX x with
      | true=>
       rw [hgs,cond_true] at he
       obtain ⟨⟨b',v',us⟩,e3,he⟩:=aQ he
       simp only [Prod.mk.injEq] at he
       obtain ⟨rfl,rfl,rfl⟩:=he
       rw [cond_true,oe (hK d (D d hdst)) (hK (d+500000) (D' d hdst)) hsx hsy,e3]
       refine .inr ⟨us,λp hp=>?_,rfl,rfl⟩
       rw [<-hop]
       rcases pN e3 p hp with hk | hk | hk
       ·exact hkeys _ (by simp only [ak,List.mem_append];exact .inl hk)
       ·rw [hk];exact D d hdst
       ·rw [hk];exact D' d hdst
      | false=>
      rw [hgs,cond_false] at he
      obtain ⟨⟨b',v',k,ob⟩,e3,he⟩:=aQ he
      simp only [Prod.mk.injEq] at he
      obtain ⟨rfl,rfl,rfl⟩:=he
      rw [cond_false,oh (hK d (D d hdst)) hsx hsy,oc (hK d (D d hdst)) hsx hsy,e3]
      refine .inl ⟨k,ob,?_,rfl,rfl⟩
      have hk:k=d∨k∈x.keys:=by
       cases hgr:(ye x||X.grow o) with
       | true=>
        rw [hgr,cond_true] at e3
        unfold jv at e3
        split at e3
        ·split at e3
         ·rename_i sz z inf sz2 m get2 _ _ _ _
          obtain ⟨_,e3⟩:=au e3
          split at e3
          ·obtain ⟨_,e3⟩:=au e3
           split at e3
           ·simp only [Option.some.injEq,Prod.mk.injEq] at e3;exact .inl e3.2.2.1.symm
           ·cases e3
          ·obtain ⟨_,e3⟩:=au e3
           split at e3
           ·obtain ⟨_,e3⟩:=au e3
            simp only [Option.some.injEq,Prod.mk.injEq] at e3;exact .inr (by simp [AV.keys,e3.2.2.1])
           ·cases e3
          ·cases e3
         ·cases e3
        ·cases e3
       | false=>
        rw [hgr,cond_false] at e3
        unfold jy at e3
        split at e3
        ·split at e3
         ·rename_i ow sz0 n get sz2 m get2 _ _ _ _
          obtain ⟨_,e3⟩:=au e3
          cases ow with
          | no=>cases e3
          | nl=>cases e3
          | nn=>cases e3
          | fit=>
           simp only [] at e3
           split at e3
           ·simp only [Option.some.injEq,Prod.mk.injEq] at e3;exact .inl e3.2.2.1.symm
           ·cases e3
          | key k'=>
           simp only [] at e3
           split at e3
           ·obtain ⟨_,e3⟩:=au e3
            simp only [Option.some.injEq,Prod.mk.injEq] at e3;exact .inr (by simp [AV.keys,e3.2.2.1])
           ·cases e3
         ·cases e3
        ·cases e3
      rw [<-hop]
      rcases hk with rfl | hk
      ·exact List.mem_append_left _ (by simp [hdst,jA])
      ·exact hkeys k (by simp only [ak,List.mem_append];exact .inl hk)
     ·cases he
    ·cases he
   | _=>simp [hop,db] at h1
  | _=>simp [hop,db] at h1
 | _=>simp [hop,db] at h1
theorem j2:∀ {n t:Nat} {w:Bool},eT s1 s2 ((bE s2 n t w).map (·.1))->bE s1 n t w=bE s2 n t w
 | 0,_,_,_=>rfl
 | n+1,t,w,h=>by
  have ht:s1.get t=s2.get t:=h t (by simp [bE])
  simp only [bE] at h ⊢
  rw [ht]
  cases hg:s2.get t with
  | none=>rfl
  | some u=>
   cases u with
   | grd tc wc u'=>
    simp only [hg] at h ⊢
    rw [j2 (n:=n) λq hq=>h q (by simp only [List.map_cons,List.mem_cons];exact .inr hq)]
   | _=>rfl
theorem kY:∀ {ch:eM},eT s1 s2 (ch.map (·.1))->fV s1 ch=fV s2 ch
 | [],_=>rfl
 | (t,w)::r,h=>by
  have ht:s1.get t=s2.get t:=h t (by simp)
  simp only [fV]
  rw [ht,kY (ch:=r) λq hq=>h q (by simp only [List.map_cons,List.mem_cons];exact .inr hq)]
theorem ox {O1 O2:List (Nat×AO)}:∀ {l:List Nat},(∀k∈l,alook O1 k=alook O2 k)->kc l (pP O2)=true->kc l (pP O1)=true
 | [],_,_=>rfl
 | k::r,h,he=>by
  simp only [kc,Bool.and_eq_true] at he ⊢
  refine ⟨any_beq.2 (uP ?_),ox (λq hq=>h q (List.mem_cons_of_mem _ hq)) he.2⟩
  obtain ⟨o,ho⟩:=j1 (any_beq.1 he.1)
  exact ⟨o,by rw [h k (by simp)];exact ho⟩
theorem s7 {X:Cfg} {o:Oper} {t:Nat} {w:Bool} {b:Bool} {v:AV} (he:nt X s2 o t w=some (b,v)) (h:eT s1 s2 ((bE s2 4 t w).map (·.1)++cz o.op.operands.toList))
  (ho:eS s1 s2 (cond (gp o.op) (aK ⟨s2,X.G,bE s2 4 t w⟩ o.op.operands.toList) []++v.keys)):nt X s1 o t w=some (b,v):=by
 have hc:eT s1 s2 ((bE s2 4 t w).map (·.1)):=λq hq=>h q (List.mem_append_left _ hq)
 have hop':eT s1 s2 (cz o.op.operands.toList):=λq hq=>h q (List.mem_append_right _ hq)
 have e1:=j2 hc
 have e2:=kY hc
 have hp:(fV s2 (bE s2 4 t w)).bind (λg=>(bD X.P ⟨s2,X.G,bE s2 4 t w⟩ o.op).bind λr=>aj (kc r.2.keys (pP s2.objs)) (some (cond r.1 true (!g),r.2)))=some (b,v)->
   (fV s1 (bE s1 4 t w)).bind (λg=>(bD X.P ⟨s1,X.G,bE s1 4 t w⟩ o.op).bind λr=>aj (kc r.2.keys (pP s1.objs)) (some (cond r.1 true (!g),r.2)))=some (b,v):=by
  intro he
  rw [e1,e2,l7 X.P hop' (λk hk=>ho k (List.mem_append_left _ hk))]
  obtain ⟨g,f1,he⟩:=ag he
  obtain ⟨⟨b',v'⟩,f2,he⟩:=ag he
  obtain ⟨f3,he⟩:=au he
  simp only [Option.some.injEq,Prod.mk.injEq] at he
  obtain ⟨rfl,rfl⟩:=he
  rw [f1,f2]
  simp only [Option.bind_some]
  rw [ox (λk hk=>ho k (List.mem_append_right _ hk)) f3];rfl
 cases hop:o.op with
 | call q=>
  obtain ⟨callee,args,ts⟩:=q
  cases callee with
  | value f=>simp only [nt,hop] at he ⊢;rw [e1,fc (by rw [<-hop];exact hop')];exact he
  | _=>simp only [nt,hop] at he ⊢;rw [hop] at hp;exact hp he
 | _=>simp only [nt,hop] at he ⊢;rw [hop] at hp;exact hp he
end
end Go.Ab

namespace Go.Ab
open Go Go.RowKit
variable {P:Program} {B:Base} {c:Cx} {s:St} {a:Act}
theorem jJ {d k:Nat}:∀ {m n i:Nat},m<=n->k∈cZ d i m->k∈cZ d i n
 | 0,_,_,_,h=>by simp [cZ] at h
 | m+1,0,_,hm,_=>by omega
 | m+1,n+1,i,hm,h=>by
  simp only [cZ,List.mem_cons] at h ⊢
  rcases h with h | h
  ·exact .inl h
  ·exact .inr (jJ (by omega) h)
theorem kU {s1 s2:St} {G:Nat->Option (List AV)} {ch:eM}:∀ {l:List Operand},eT s1 s2 (cz l)->aK ⟨s1,G,ch⟩ l=aK ⟨s2,G,ch⟩ l
 | [],_=>rfl
 | x::r,h=>by
  have h1:aI ⟨s1,G,ch⟩ x=aI ⟨s2,G,ch⟩ x:=dJ λt ht=>h t (by cases x <;> simp_all [cz])
  have h2:aK ⟨s1,G,ch⟩ r=aK ⟨s2,G,ch⟩ r:=kU λt ht=>h t (by cases x <;> simp_all [cz])
  simp only [aK,h1,h2]
theorem jd {O1 O2:List (Nat×AO)}:∀ {l:List Nat},(∀k∈l,alook O1 k=alook O2 k)->dE O1 l=dE O2 l
 | [],_=>rfl
 | k::r,h=>by
  simp only [dE,h k (by simp)]
  cases alook O2 k with
  | some _=>rfl
  | none=>exact jd λq hq=>h q (by simp [hq])
theorem tS {X:Cfg} {o:Oper} {k:St->Res} {r:AV×List AO} (he:sA X s o k=some r):∃v objs',vJ X s o=some (true,v,objs')/\k (s.after o.dst v objs')=some r:=by
 rw [nD] at he
 obtain ⟨⟨b,v,objs'⟩,h1,he⟩:=ag he
 obtain ⟨rfl,he⟩:=au he
 exact ⟨v,objs',h1,he⟩
theorem se {X:Cfg} {s2:St} {o:Oper} {v:AV} {O':List (Nat×AO)} (he:vJ X s2 o=some (true,v,O')) :
  ∃d m os,o.dst=some d/\m<=4/\os.length=m/\dE s2.objs (cZ d 0 m)=true/\bT o.op=true/\O'=bb s2.objs (cZ d 0 m) os/\aK ⟨s2,X.G,[]⟩ o.op.operands.toList=[]/\db o.op=false /\
   ∀s1:St,eT s1 s2 (cz o.op.operands.toList)->(∀k∈cZ d 0 m,s1.obj k=s2.obj k)->vJ X s1 o=some (true,v,bb s1.objs (cZ d 0 m) os):=by
 unfold vJ at he
 split at he
 ·rename_i f args ts d ho hd
  obtain ⟨⟨g,l⟩,e1,he⟩:=ag he
  obtain ⟨hg,he⟩:=au he
  obtain ⟨⟨r,os⟩,e2,he⟩:=ag he
  obtain ⟨hf,he⟩:=au he
  simp only [Option.some.injEq,Prod.mk.injEq] at he
  obtain ⟨hp,rfl,rfl⟩:=he
  have hg0:=hg
  simp only [Bool.and_eq_true] at hg hf
  refine ⟨d,os.length,_,hd,by simpa using hf.2.1,by simp,hf.2.2,by rw [ho];rfl,rfl,iL hg.1,by rw [ho];rfl,λs1 ht hk=>?_⟩
  have hk1:=kU (G:=X.G) (ch:=[]) ht
  have hf1:dE s1.objs (cZ d 0 os.length)=true:=(jd hk).trans hf.2.2
  unfold vJ
  rw [hd]
  have e1':=e1
  rw [ho] at ht
  rw [<-fc ht] at e1'
  split
  ·rename_i f' args' ts' d' ho' hd'
   rw [ho] at ho'
   cases ho'
   cases hd'
   rw [e1',Option.bind_some,hk1,hg0]
   dsimp only
   rw [e2]
   dsimp only [Option.bind_some,aj]
   rw [hf1,hf.1,hf.2.1,hp];rfl
  ·rename_i hno
   exact absurd ho (λh=>hno _ _ _ _ h rfl)
 ·cases he
theorem Aw {X:Cfg} {o:Oper} {v:AV} {O':List (Nat×AO)} (he:vJ X s o=some (true,v,O')):yD X s o=some (true,v,O'):=by
 unfold vJ at he
 split at he
 ·rename_i f args ts d ho hd
  obtain ⟨⟨g,l⟩,e1,he⟩:=ag he
  obtain ⟨hg,he⟩:=au he
  obtain ⟨⟨r,os⟩,e2,he⟩:=ag he
  obtain ⟨hf,he⟩:=au he
  simp only [Option.some.injEq,Prod.mk.injEq] at he
  obtain ⟨hp,rfl,rfl⟩:=he
  simp only [Bool.and_eq_true,Bool.not_eq_true'] at hg hf
  have hk:=iL hg.1
  rw [ho] at hk
  have hl:=pH hk e1
  have h1:(cond (X.byRef g) (some (l,s.objs)) (bd s.objs l))=some (l,s.objs):=by cases X.byRef g <;> simp [k7 hl]
  have h2:aX s.objs []=[]:=rfl
  have h0:Nat.beq os.length 0=false:=by
   cases os with
   | nil=>simp at hf
   | cons _ _=>rfl
  simp only [yD,ho]
  rw [e1,Option.bind_some,hg.2,cond_false]
  unfold kH
  rw [h1]
  simp only [Option.bind_some,jD l hl,hl,h2,bg,kc,cond_true,ca,List.map_nil,gn _ l hl,List.length_nil]
  rw [e2,Option.bind_some,hd]
  dsimp only
  rw [h0,cond_false,hf.1,Nat.sub_zero,hf.2.2,hp]
  rfl
 ·cases he
inductive One (X:Cfg) (ops:Array Oper) (o:Oper) (s:St):St->Prop
 | plain (v:AV) (objs':List (Nat×AO)):o.guard=none->dZ X s o=some (true,v,objs')->One X ops o s (s.after o.dst v objs')
 | born (v:AV) (objs':List (Nat×AO)):o.guard=none->X.born o=true->vJ X s o=some (true,v,objs')->One X ops o s (s.after o.dst v objs')
 | guarded (j t d:Nat) (w:Bool) (v:AV):o.guard=some (j,w)->(ops[j]?).bind (·.dst)=some t->o.dst=some d->d≠t->nt X s o t w=some (true,v)->One X ops o s (s.put (some d) (.grd t w v))
theorem One.other {X:Cfg} {ops:Array Oper} {o:Oper} {s s':St} (h:One X ops o s s') {t:Nat} (ht:o.dst≠some t):s'.get t=s.get t:=by
 cases h with
 | plain v objs' _ _=>rw [dx,if_neg ht]
 | born v objs' _ _ _=>rw [dx,if_neg ht]
 | guarded j t' d w v _ _ hd _ _=>rw [St.dh,if_neg];rintro rfl;exact ht hd
structure Trace (X:Cfg) (ops:Array Oper) (st:Nat->St):Prop where
 step:∀i o,ops[i]?=some o->One X ops o (st i) (st (i+1))
 later:∀ (i:Nat) (o:Oper) (j t:Nat) (w:Bool),ops[i]?=some o->o.guard=some (j,w)->(ops[j]?).bind (·.dst)=some t->∀ (k:Nat) (q:Oper),i < k->ops[k]?=some q->q.dst≠some t
theorem lZ {X:Cfg} {ops:Array Oper} {K:List Fp->St->Res} {r:AV×List AO}:∀ (rest:List Oper) (i:Nat) (acc:List Fp) (s:St),(∀j,rest[j]?=ops[i+j]?)->en X ops rest i acc s K=some r->
  ∃st:Nat->St,st i=s/\(∀q o,i<=q->ops[q]?=some o->One X ops o (st q) (st (q+1))) /\
   (∀q o j t w,i<=q->ops[q]?=some o->o.guard=some (j,w)->(ops[j]?).bind (·.dst)=some t->∀k p,q < k->ops[k]?=some p->p.dst≠some t) /\
   ∃fps,K (acc++fps) (st (i+rest.length))=some r/\fps.length=rest.length/\∀q o,i<=q->ops[q]?=some o->fps[q - i]?=some (de X (st q) ops q o)
 | [],i,acc,s,hops,he=>by
  have hno:∀q o,i<=q->ops[q]?≠some o:=λq o hq h=>by
   have:=hops (q - i)
   rw [show i+(q - i)=q by omega,h] at this;simp at this
  refine ⟨λ_=>s,rfl,λq o hq h=>absurd h (hno q o hq),λq o _ _ _ hq h=>absurd h (hno q o hq),[],by simpa [en] using he,rfl,λq o hq h=>absurd h (hno q o hq)⟩
 | o::rest,i,acc,s,hops,he=>by
  have hoi:ops[i]?=some o:=by have:=hops 0;simpa using this.symm
  have hrest:∀j,rest[j]?=ops[i+1+j]?:=λj=>by
   have:=hops (j+1)
   rw [Nat.add_assoc,Nat.add_comm 1 j];simpa using this
  have main:∀s',One X ops o s s'->en X ops rest (i+1) (acc++[de X s ops i o]) s' K=some r->
    (∀j t w,o.guard=some (j,w)->(ops[j]?).bind (·.dst)=some t->∀p∈rest,p.dst≠some t)->
    ∃st:Nat->St,st i=s/\(∀q o,i<=q->ops[q]?=some o->One X ops o (st q) (st (q+1))) /\
   (∀q o j t w,i<=q->ops[q]?=some o->o.guard=some (j,w)->(ops[j]?).bind (·.dst)=some t->∀k p,q < k->ops[k]?=some p->p.dst≠some t) /\
   ∃fps,K (acc++fps) (st (i+(o::rest).length))=some r/\fps.length=(o::rest).length/\∀q o,i<=q->ops[q]?=some o->fps[q - i]?=some (de X (st q) ops q o):=by
   intro s' hone he' hlat
   obtain ⟨st,h1,h2,h3,fps,h4,h5,h6⟩:=lZ rest (i+1) _ s' hrest he'
   have hst:∀q,i+1<=q->(if q<=i then s else st q)=st q:=λq hq=>if_neg (by omega)
   refine ⟨λq=>if q<=i then s else st q,by simp,λq p hq hp=>?_,λq p j t w hq hp hg ht k p' hk hp'=>?_,de X s ops i o::fps,?_,by simp [h5],λq p hq hp=>?_⟩
   ·by_cases e:q=i
    ·subst e
     rw [hoi] at hp;cases hp
     simp only [Nat.le_refl,if_true]
     rw [if_neg (by omega),h1];exact hone
    ·simp only [hst q (by omega),hst (q+1) (by omega)]
     exact h2 q p (by omega) hp
   ·by_cases e:q=i
    ·subst e
     rw [hoi] at hp;cases hp
     have hm:=hrest (k - (q+1))
     rw [show q+1+(k - (q+1))=k by omega,hp'] at hm
     exact hlat j t w hg ht p' (List.mem_of_getElem? hm)
    ·exact h3 q p j t w (by omega) hp hg ht k p' hk hp'
   ·have e:i+(o::rest).length=i+1+rest.length:=by simp;omega
    simp only [e]
    rw [if_neg (by omega)]
    simpa [List.append_assoc] using h4
   ·by_cases e:q=i
    ·subst e
     rw [hoi] at hp;cases hp
     simp
    ·have:=h6 q p (by omega) hp
     simp only [hst q (by omega)]
     rw [show q - i=(q - (i+1))+1 by omega]
     simpa using this
  simp only [en] at he
  cases hg:o.guard with
  | none=>
   simp only [hg] at he
   cases hb:X.born o with
   | true=>
    rw [hb,cond_true] at he
    obtain ⟨v,objs',e1,e2⟩:=tS he
    exact main _ (.born v objs' hg hb e1) e2 (λj t w h=>by rw [hg] at h;cases h)
   | false=>
    rw [hb,cond_false] at he
    obtain ⟨v,objs',e1,e2⟩:=tQ he
    exact main _ (.plain v objs' hg e1) e2 (λj t w h=>by rw [hg] at h;cases h)
  | some jw=>
   obtain ⟨j,w⟩:=jw
   simp only [hg] at he
   cases ht:(ops[j]?).bind (·.dst) with
   | none=>simp [ht] at he
   | some t=>
    simp only [ht] at he
    obtain ⟨hany,he⟩:=kI he
    obtain ⟨d,v,hd,hdt,e1,e2⟩:=oE he
    refine main _ (.guarded j t d w v hg ht hd hdt e1) e2 (λj' t' w' h ht' p hp=>?_)
    rw [hg] at h;cases h
    rw [ht] at ht';cases ht'
    have:=List.any_eq_false.1 hany p hp
    simpa using this
theorem fM:∀ {l:List Oper} {seen:List Nat},fY l seen=true->(∀ (i:Nat) (o:Oper) (d:Nat),l[i]?=some o->o.dst=some d->d ∉ seen) /\
  ∀ (i j:Nat) (o q:Oper) (d:Nat),l[i]?=some o->l[j]?=some q->o.dst=some d->q.dst=some d->i=j
 | [],seen,_=>⟨by simp,by simp⟩
 | p::r,seen,h=>by
  simp only [fY] at h
  cases hd:p.dst with
  | none=>
   simp only [hd] at h
   obtain ⟨h1,h2⟩:=fM h
   refine ⟨λi o d hi ho=>?_,λi j o q d hi hj ho hq=>?_⟩
   ·cases i with
    | zero=>simp at hi;subst hi;rw [hd] at ho;cases ho
    | succ i=>exact h1 i o d (by simpa using hi) ho
   ·cases i with
    | zero=>simp at hi;subst hi;rw [hd] at ho;cases ho
    | succ i=>
     cases j with
     | zero=>simp at hj;subst hj;rw [hd] at hq;cases hq
     | succ j=>rw [h2 i j o q d (by simpa using hi) (by simpa using hj) ho hq]
  | some e=>
   simp only [hd,Bool.and_eq_true,Bool.not_eq_true'] at h
   obtain ⟨h1,h2⟩:=fM h.2
   have hseen:e ∉ seen:=λhm=>by rw [any_beq.2 hm] at h;simp at h
   refine ⟨λi o d hi ho=>?_,λi j o q d hi hj ho hq=>?_⟩
   ·cases i with
    | zero=>simp at hi;subst hi;rw [hd] at ho;cases ho;exact hseen
    | succ i=>exact λhm=>h1 i o d (by simpa using hi) ho (List.mem_cons_of_mem _ hm)
   ·cases i with
    | zero=>
     simp at hi;subst hi;rw [hd] at ho;cases ho
     cases j with
     | zero=>rfl
     | succ j=>exact absurd (List.mem_cons_self) (h1 j q e (by simpa using hj) hq)
    | succ i=>
     cases j with
     | zero=>simp at hj;subst hj;rw [hd] at hq;cases hq;exact absurd (List.mem_cons_self) (h1 i o e (by simpa using hi) ho)
     | succ j=>rw [h2 i j o q d (by simpa using hi) (by simpa using hj) ho hq]
theorem lf:∀ {l:List Oper} {i:Nat},nY l i=true->∀ (j:Nat) (o:Oper),l[j]?=some o->∀e∈o.after,Region.binds .any e=true->e.on < i+j
 | [],_,_,j,o,h=>by simp at h
 | p::r,i,h,j,o,hj=>by
  simp only [nY,Bool.and_eq_true] at h
  cases j with
  | zero=>simp at hj;subst hj;intro e he hb;have:=Array.all_eq_true_iff_forall_mem.1 h.1 e he;rw [hb,cond_true] at this;exact ltB this
  | succ j=>intro e he hb;have:=lf h.2 j o (by simpa using hj) e he hb;omega
theorem nk {bits:List Nat}:∀ {l:List Fp},wF bits l=true->∀ (i j:Nat) (x y:Fp),i < j->l[i]?=some x->l[j]?=some y->(bits.getD y.i 0).testBit x.i=true∨jc x y=true
 | [],_,i,j,x,y,_,h,_=>by simp at h
 | p::r,h,i,j,x,y,hij,hi,hj=>by
  simp only [wF,Bool.and_eq_true] at h
  cases j with
  | zero=>omega
  | succ j=>
   cases i with
   | zero=>
    simp at hi;subst hi
    have:=List.all_eq_true.1 h.1 y (List.mem_of_getElem? (by simpa using hj))
    simpa using this
   | succ i=>exact nk h.2 i j x y (by omega) (by simpa using hi) (by simpa using hj)
theorem gF {acc:List Nat}:∀ {l:List Edge} {k:Nat},(ey acc l).testBit k=true->∃e∈l,Region.binds .any e=true/\(k=e.on∨(acc.getD e.on 0).testBit k=true)
 | [],k,h=>by simp [ey] at h
 | e::r,k,h=>by
  simp only [ey] at h
  cases hb:Region.binds .any e with
  | false=>
   simp only [hb,cond_false] at h
   obtain ⟨e',h1,h2⟩:=gF h
   exact ⟨e',List.mem_cons_of_mem _ h1,h2⟩
  | true=>
   simp only [hb,cond_true] at h
   have hor:∀x y:Nat,Nat.lor x y=x ||| y:=λ_ _=>rfl
   simp only [hor,Nat.testBit_or,Bool.or_eq_true,Nat.testBit_two_pow,decide_eq_true_eq] at h
   rcases h with (h | h) | h
   ·exact ⟨e,by simp,hb,.inl h.symm⟩
   ·exact ⟨e,by simp,hb,.inr h⟩
   ·obtain ⟨e',h1,h2⟩:=gF h
    exact ⟨e',List.mem_cons_of_mem _ h1,h2⟩
theorem lh {S:Nat->Prop} {ops:Array Oper} (hS:∀i o,S i->ops[i]?=some o->∀e∈o.after,Region.binds .any e=true->S e.on) :
  ∀ (rest:List Oper) (acc:List Nat),(∀j,rest[j]?=ops[acc.length+j]?)->
   (∀j o,j < acc.length->ops[j]?=some o->(∀e∈o.after,Region.binds .any e=true->S e.on)->∀k,(acc.getD j 0).testBit k=true->S k)->
   ∀j o,ops[j]?=some o->(∀e∈o.after,Region.binds .any e=true->S e.on)->∀k,((gH rest acc).getD j 0).testBit k=true->S k
 | [],acc,hops,hacc,j,o,ho,hr,k,hk=>by
  by_cases hj:j < acc.length
  ·exact hacc j o hj ho hr k hk
  ·have:=hops (j - acc.length)
   rw [show acc.length+(j - acc.length)=j by omega,ho] at this;simp at this
 | p::rest,acc,hops,hacc,j,o,ho,hr,k,hk=>by
  have e:gH (p::rest) acc=gH rest (acc++[ey acc p.after.toList]):=by
   simp only [gH]
   cases ey acc p.after.toList <;> rfl
  rw [e] at hk
  have hp:ops[acc.length]?=some p:=by have:=hops 0;simpa using this.symm
  refine lh hS rest _ (λj=>by have:=hops (j+1);rw [List.length_append,List.length_singleton,Nat.add_assoc,Nat.add_comm 1 j];simpa using this) ?_ j o ho hr k hk
  intro j q hj hq hrq k hk
  by_cases hlt:j < acc.length
  ·rw [List.getD_eq_getElem?_getD,List.getElem?_append_left hlt,<-List.getD_eq_getElem?_getD] at hk
   exact hacc j q hlt hq hrq k hk
  ·have hj':j=acc.length:=by simp at hj;omega
   subst hj'
   rw [hp] at hq;cases hq
   have:(acc++[ey acc p.after.toList]).getD acc.length 0=ey acc p.after.toList:=by simp
   rw [this] at hk
   obtain ⟨ed,h1,h2,h3⟩:=gF hk
   have hSe:=hrq ed (by simpa using h1) h2
   rcases h3 with rfl | h3
   ·exact hSe
   ·by_cases hl:ed.on < acc.length
    ·have ho':ops[ed.on]?=some (ops[ed.on]'(by have:=(Array.getElem?_eq_some_iff.1 hp).1;omega)):=Array.getElem?_eq_getElem _
     exact hacc ed.on _ hl ho' (λe' he' hb'=>hS _ _ hSe ho' e' he' hb') k h3
    ·have:acc.getD ed.on 0=0:=by simp [List.getD_eq_getElem?_getD,List.getElem?_eq_none (by omega:acc.length<=ed.on)]
     rw [this] at h3;simp at h3
end Go.Ab

namespace Go.Ab
open Go Go.RowKit
structure Loc (K:Nat->Prop) (O1 O2 p1 p2:List (Nat×AO)):Prop where
 on:∀k,K k->alook p1 k=alook p2 k
 off1:∀k,¬ K k->alook p1 k=alook O1 k
 off2:∀k,¬ K k->alook p2 k=alook O2 k
 bare:∀k ob,K k->alook p2 k=some ob->∀q∈ob.keys,K q
variable {K:Nat->Prop}
theorem Loc.start {O1 O2:List (Nat×AO)} (h:∀k,K k->alook O1 k=alook O2 k) (hb:∀k ob,K k->alook O2 k=some ob->∀q∈ob.keys,K q):Loc K O1 O2 O1 O2:=⟨h,λ_ _=>rfl,λ_ _=>rfl,hb⟩
theorem Loc.trans {O1 O2 p1 p2 q1 q2:List (Nat×AO)} (h:Loc K O1 O2 p1 p2) (g:Loc K p1 p2 q1 q2):Loc K O1 O2 q1 q2:=
 ⟨g.on,λk hk=>(g.off1 k hk).trans (h.off1 k hk),λk hk=>(g.off2 k hk).trans (h.off2 k hk),g.bare⟩
theorem Loc.put {O1 O2 p1 p2:List (Nat×AO)} (h:Loc K O1 O2 p1 p2) {k:Nat} (hk:K k) {o:AO} (ho:o.keys=[]):Loc K O1 O2 (aput p1 k o) (aput p2 k o):=by
 refine ⟨λq hq=>?_,λq hq=>?_,λq hq=>?_,λq ob hq he=>?_⟩
 ·rw [aO,aO,h.on q hq]
 ·rw [aO,if_neg (by rintro rfl;exact hq hk),h.off1 q hq]
 ·rw [aO,if_neg (by rintro rfl;exact hq hk),h.off2 q hq]
 ·rw [aO] at he
  split at he
  ·simp only [Option.some.injEq] at he;subst he;rw [ho];simp
  ·exact h.bare q ob hq he
theorem mv {O1 O2 p1 p2:List (Nat×AO)} (h:Loc K O1 O2 p1 p2) {v v':AV} (hv:∀k∈v.keys,K k) {q2:List (Nat×AO)} (he:bM p2 v=some (v',q2)):∃q1,bM p1 v=some (v',q1)/\Loc K O1 O2 q1 q2/\∀k∈v'.keys,K k:=by
 cases v with
 | msl k sz off n=>
  have hk:K k:=hv k (by simp [AV.keys])
  simp only [bM] at he ⊢
  rw [h.on k hk]
  cases ho:alook p2 k with
  | none=>simp [ho] at he
  | some ob=>
   cases ob with
   | arr sz' m get=>
    simp only [ho] at he ⊢
    obtain ⟨hb,he⟩:=au he
    simp only [Option.some.injEq,Prod.mk.injEq] at he
    obtain ⟨rfl,rfl⟩:=he
    exact ⟨_,by rw [hb];rfl,h.put hk rfl,by simp [AV.keys]⟩
   | frz sz' m get=>
    simp only [ho] at he ⊢
    obtain ⟨hb,he⟩:=au he
    simp only [Option.some.injEq,Prod.mk.injEq] at he
    obtain ⟨rfl,rfl⟩:=he
    exact ⟨_,by rw [hb];rfl,h,by simp [AV.keys]⟩
   | _=>simp [ho] at he
 | gsl k sz n=>
  have hk:K k:=hv k (by simp [AV.keys])
  simp only [bM] at he ⊢
  rw [h.on k hk]
  cases ho:alook p2 k with
  | none=>simp [ho] at he
  | some ob=>
   cases ob with
   | grw sq sz' m get=>
    simp only [ho] at he ⊢
    obtain ⟨hb,he⟩:=au he
    simp only [Option.some.injEq,Prod.mk.injEq] at he
    obtain ⟨rfl,rfl⟩:=he
    exact ⟨_,by rw [hb];rfl,h.put hk (pk _ _ _ _),by simp [AV.keys]⟩
   | _=>simp [ho] at he
 | _=>simp only [bM,Option.some.injEq,Prod.mk.injEq] at he ⊢;obtain ⟨rfl,rfl⟩:=he;exact ⟨_,⟨rfl,rfl⟩,h,hv⟩
theorem mo:∀ {l l':List AV} {O1 O2 p1 p2 q2:List (Nat×AO)},Loc K O1 O2 p1 p2->(∀k∈ak l,K k)->bU p2 l=some (l',q2)->∃q1,bU p1 l=some (l',q1)/\Loc K O1 O2 q1 q2/\∀k∈ak l',K k
 | [],l',O1,O2,p1,p2,q2,h,hv,he=>by simp only [bU,Option.some.injEq,Prod.mk.injEq] at he;obtain ⟨rfl,rfl⟩:=he;exact ⟨_,rfl,h,hv⟩
 | v::r,l',O1,O2,p1,p2,q2,h,hv,he=>by
  simp only [bU] at he ⊢
  simp only [ak,List.mem_append] at hv
  obtain ⟨⟨v',o1⟩,e1,he⟩:=ag he
  obtain ⟨⟨r',o2⟩,e2,he⟩:=ag he
  simp only [Option.some.injEq,Prod.mk.injEq] at he
  obtain ⟨rfl,rfl⟩:=he
  obtain ⟨x1,g1,g2,g3⟩:=mv h (λk hk=>hv k (.inl hk)) e1
  obtain ⟨x2,g4,g5,g6⟩:=mo g2 (λk hk=>hv k (.inr hk)) e2
  refine ⟨x2,by rw [g1];simp only [Option.bind_some];rw [g4];rfl,g5,λk hk=>?_⟩
  simp only [ak,List.mem_append] at hk
  exact hk.elim (g3 k) (g6 k)
theorem qD {O1 O2 p1 p2:List (Nat×AO)} (h:Loc K O1 O2 p1 p2) {v v':AV} (hv:∀k∈v.keys,K k) {q2:List (Nat×AO)} (he:di p2 v=some (v',q2)):∃q1,di p1 v=some (v',q1)/\Loc K O1 O2 q1 q2/\∀k∈v'.keys,K k:=by
 cases v with
 | agg cs=>
  simp only [di] at he ⊢
  simp only [AV.keys] at hv
  obtain ⟨⟨l,o⟩,e1,he⟩:=aQ he
  simp only [Prod.mk.injEq] at he
  obtain ⟨rfl,rfl⟩:=he
  obtain ⟨p,g1,g2,g3⟩:=mo h hv e1
  exact ⟨p,by rw [g1];rfl,g2,λk hk=>g3 k (by simpa [AV.keys] using hk)⟩
 | _=>simp only [di] at he ⊢;exact mv h hv he
theorem k8:∀ {l l':List AV} {O1 O2 p1 p2 q2:List (Nat×AO)},Loc K O1 O2 p1 p2->(∀k∈ak l,K k)->bd p2 l=some (l',q2)->∃q1,bd p1 l=some (l',q1)/\Loc K O1 O2 q1 q2/\∀k∈ak l',K k
 | [],l',O1,O2,p1,p2,q2,h,hv,he=>by simp only [bd,Option.some.injEq,Prod.mk.injEq] at he;obtain ⟨rfl,rfl⟩:=he;exact ⟨_,rfl,h,hv⟩
 | v::r,l',O1,O2,p1,p2,q2,h,hv,he=>by
  simp only [bd] at he ⊢
  simp only [ak,List.mem_append] at hv
  obtain ⟨⟨v',o1⟩,e1,he⟩:=ag he
  obtain ⟨⟨r',o2⟩,e2,he⟩:=ag he
  simp only [Option.some.injEq,Prod.mk.injEq] at he
  obtain ⟨rfl,rfl⟩:=he
  obtain ⟨x1,g1,g2,g3⟩:=qD h (λk hk=>hv k (.inl hk)) e1
  obtain ⟨x2,g4,g5,g6⟩:=k8 g2 (λk hk=>hv k (.inr hk)) e2
  refine ⟨x2,by rw [g1];simp only [Option.bind_some];rw [g4];rfl,g5,λk hk=>?_⟩
  simp only [ak,List.mem_append] at hk
  exact hk.elim (g3 k) (g6 k)
theorem gw {O1 O2:List (Nat×AO)} (h:∀k,K k->alook O1 k=alook O2 k) (hb:∀k ob,K k->alook O2 k=some ob->∀q∈ob.keys,K q):∀l,(∀k∈l,K k)->bg O1 l=bg O2 l/\∀q∈bg O2 l,K q
 | [],_=>⟨rfl,by simp [bg]⟩
 | k::r,hl=>by
  obtain ⟨h1,h2⟩:=gw h hb r λq hq=>hl q (List.mem_cons_of_mem _ hq)
  simp only [bg]
  rw [h1,h k (hl k (by simp))]
  refine ⟨rfl,λq hq=>?_⟩
  rcases List.mem_append.1 hq with hq | hq
  ·cases ho:alook O2 k with
   | none=>rw [ho] at hq;simp at hq
   | some ob=>rw [ho] at hq;exact hb k ob (hl k (by simp)) ho q hq
  ·exact h2 q hq
theorem ml {O1 O2:List (Nat×AO)} (h:∀k,K k->alook O1 k=alook O2 k):∀l,(∀k∈l,K k)->ca O1 l=ca O2 l
 | [],_=>rfl
 | k::r,hl=>by simp only [ca,h k (hl k (by simp)),ml h r λq hq=>hl q (List.mem_cons_of_mem _ hq)]
theorem sM {O1 O2:List (Nat×AO)} (h:∀k,K k->alook O1 k=alook O2 k) (hb:∀k ob,K k->alook O2 k=some ob->∀q∈ob.keys,K q) {l:List Nat} (hl:∀k∈l,K k):aX O1 l=aX O2 l/\∀k∈aX O2 l,K k:=by
 have hadd:∀ {a m:List Nat},a.Nodup->(∀k∈a,K k)->(∀k∈m,K k)->∀k∈dn a m,K k:=λhn ha hm k hk=>(((cM _ _ hn).2 k).1 hk).elim (ha k) (hm k)
 have h1:∀k∈dn [] l,K k:=hadd List.nodup_nil (by simp) hl
 obtain ⟨e1,m1⟩:=gw h hb _ h1
 have n1:=(cM l [] List.nodup_nil).1
 have h2:=hadd n1 h1 m1
 obtain ⟨e2,m2⟩:=gw h hb _ h2
 have n2:=(cM (bg O2 (dn [] l)) _ n1).1
 refine ⟨?_,?_⟩
 ·simp only [aX];rw [e1,e2]
 ·simp only [aX];exact hadd n2 h2 m2
theorem s8 {X:Cfg} {O1 O2:List (Nat×AO)} (h:∀k,K k->alook O1 k=alook O2 k) (hb:∀k ob,K k->alook O2 k=some ob->∀q∈ob.keys,K q) {f:FuncId} {l:List AV} (hl:∀k∈ak l,K k) {b:Bool} {v:AV} {O2':List (Nat×AO)} (he:im X O2 f l=some (b,v,O2')) :
  ∃O1',im X O1 f l=some (b,v,O1')/\(∀k,K k->alook O1' k=alook O2' k)/\(∀k,¬ K k->alook O1' k=alook O1 k)/\(∀k,¬ K k->alook O2' k=alook O2 k):=by
 unfold im at he ⊢
 obtain ⟨⟨l1,o1⟩,h1,he⟩:=ag he
 have hfz:∃p,cond (X.byRef f) (some (l,O1)) (bd O1 l)=some (l1,p)/\Loc K O1 O2 p o1/\∀k∈ak l1,K k:=by
  cases hb':X.byRef f with
  | true=>simp only [hb',cond_true,Option.some.injEq,Prod.mk.injEq] at h1;obtain ⟨rfl,rfl⟩:=h1;exact ⟨O1,rfl,Loc.start h hb,hl⟩
  | false=>simp only [hb',cond_false] at h1;exact k8 (Loc.start h hb) hl h1
 obtain ⟨p,g1,g2,g3⟩:=hfz
 rw [g1]
 dsimp only [Option.bind_some] at he ⊢
 have g4:∀k∈ak (bt l1),K k:=λk hk=>g3 k (iH l1 k hk)
 obtain ⟨e1,r2⟩:=sM g2.on g2.bare g4
 obtain ⟨e3,_⟩:=gw g2.on g2.bare _ r2
 have hnd:(aX o1 (ak (bt l1))).Nodup:=(dI o1 (ak (bt l1))).1
 obtain ⟨hcl,he⟩:=bc he
 obtain ⟨os,hos,he⟩:=ag he
 obtain ⟨⟨r,os'⟩,hcall,he⟩:=ag he
 obtain ⟨hlen,he⟩:=bc he
 dsimp only at hlen he
 simp only [Option.some.injEq,Prod.mk.injEq] at he
 obtain ⟨rfl,rfl,rfl⟩:=he
 generalize hks:aX o1 (ak (bt l1))=ks at *
 have hlen':(os'.map (AO.ren λk=>ee ks (k - ae))).length=ks.length:=by rw [List.length_map];exact dv hlen
 refine ⟨bb p ks (os'.map (AO.ren λk=>ee ks (k - ae))),?_,λk hk=>?_,λk hk=>?_,λk hk=>?_⟩
 ·rw [e1,e3,hcl,ml g2.on _ r2,hos]
  simp only [cond_true,Option.bind_some]
  rw [hcall]
  simp only [Option.bind_some,hlen,cond_true]
 ·rw [bw hnd hlen',bw hnd hlen',g2.on k hk]
 ·rw [bw hnd hlen',if_neg λhm=>hk (r2 k hm),g2.off1 k hk]
 ·rw [bw hnd hlen',if_neg λhm=>hk (r2 k hm),g2.off2 k hk]
theorem ia {G:Nat->Option (List AV)} {ch:eM} {s:St}:∀ {l:List Operand} {vs:List AV},cJ ⟨s,G,ch⟩ l=some vs->∀k∈ak vs,k∈aK ⟨s,G,ch⟩ l
 | [],vs,h,k,hk=>by simp [cJ] at h;subst h;simp [ak] at hk
 | x::r,vs,h,k,hk=>by
  simp only [cJ] at h
  obtain ⟨v,h1,h⟩:=ag h
  obtain ⟨l,h2,h⟩:=aQ h
  subst h
  simp only [ak,List.mem_append] at hk
  simp only [aK,h1,List.mem_append]
  exact hk.imp id (ia h2 k)
theorem qQ {G:Nat->Option (List AV)} {ch:eM} {s:St} {f:Operand} {args:Array Operand} {ts:Array TypeId} {g:FuncId} {l:List AV}
  (he:dk ⟨s,G,ch⟩ {callee:=.value f,args,argTypes:=ts}=some (g,l)):∀k∈ak l,k∈aK ⟨s,G,ch⟩ (Op.call {callee:=.value f,args,argTypes:=ts}).operands.toList:=by
 unfold dk at he
 dsimp only at he
 obtain ⟨fv,h1,he⟩:=ag he
 obtain ⟨vs,h2,he⟩:=ag he
 have hm:∀ (l:List Operand) (x:Operand) (v:AV),x∈l->aI ⟨s,G,ch⟩ x=some v->∀k∈v.keys,k∈aK ⟨s,G,ch⟩ l:=by
  intro l
  induction l with
  | nil=>intro x v hx;simp at hx
  | cons y r ih=>
   intro x v hx hv k hk
   simp only [aK,List.mem_append]
   rcases List.mem_cons.1 hx with rfl | hx
   ·left;rw [hv];exact hk
   ·exact .inr (ih x v hx hv k hk)
 have hsub:∀ (l m:List Operand),(∀x∈m,x∈l)->(∀x∈m,∃v,aI ⟨s,G,ch⟩ x=some v)->∀k∈aK ⟨s,G,ch⟩ m,k∈aK ⟨s,G,ch⟩ l:=by
  intro l m
  induction m with
  | nil=>intro _ _ k hk;simp [aK] at hk
  | cons y r ih=>
   intro hx hv k hk
   obtain ⟨v,hv'⟩:=hv y (by simp)
   simp only [aK,hv',List.mem_append] at hk
   rcases hk with hk | hk
   ·exact hm l y v (hx y (by simp)) hv' k hk
   ·exact ih (λx h=>hx x (List.mem_cons_of_mem _ h)) (λx h=>hv x (List.mem_cons_of_mem _ h)) k hk
 have hev:∀ (m:List Operand) (vs:List AV),cJ ⟨s,G,ch⟩ m=some vs->∀x∈m,∃v,aI ⟨s,G,ch⟩ x=some v:=by
  intro m
  induction m with
  | nil=>intro vs _ x hx;simp at hx
  | cons y r ih=>
   intro vs h x hx
   simp only [cJ] at h
   obtain ⟨v,h1,h⟩:=ag h
   obtain ⟨l,h2,h⟩:=aQ h
   rcases List.mem_cons.1 hx with rfl | hx
   ·exact ⟨v,h1⟩
   ·exact ih l h2 x hx
 cases fv with
 | fn f' first caps=>
  simp only [Option.some.injEq,Prod.mk.injEq] at he
  obtain ⟨_,rfl⟩:=he
  intro k hk
  simp only [eI,List.mem_append] at hk
  have hf:∀k∈(AV.fn f' first caps).keys,k∈aK ⟨s,G,ch⟩ (Op.call {callee:=.value f,args,argTypes:=ts}).operands.toList:=hm _ f _ (by simp [Op.operands,Call.operands]) h1
  rcases hk with (hk | hk) | hk
  ·exact hf k (by simp [AV.keys,hk])
  ·exact hsub _ args.toList (by simp +contextual [Op.operands,Call.operands]) (hev _ _ h2) k (ia h2 k hk)
  ·exact hf k (by simp [AV.keys,hk])
 | _=>simp at he
variable {s1 s2:St}
theorem sE {O:List (Nat×AO)} {R:List Nat} (hb:nE O R=true):∀k ob,k∈R->alook O k=some ob->∀q∈ob.keys,q∈R:=λ_ _ hk ho q hq=>bS hb q (cP hk ho q hq)
theorem nu {X:Cfg} {o:Oper} (h1:bT o.op=true) (h:eT s1 s2 (cz o.op.operands.toList)) (hb:nE s2.objs (aX s2.objs (aK ⟨s2,X.G,[]⟩ o.op.operands.toList))=true)
  (hK:∀k∈aX s2.objs (aK ⟨s2,X.G,[]⟩ o.op.operands.toList),s1.obj k=s2.obj k) {b:Bool} {v:AV} {O':List (Nat×AO)} (he:dZ X s2 o=some (b,v,O')) :
  ∃O1',dZ X s1 o=some (b,v,O1')/\(∀k∈aX s2.objs (aK ⟨s2,X.G,[]⟩ o.op.operands.toList),alook O1' k=alook O' k)/\(∀k,k ∉ aX s2.objs (aK ⟨s2,X.G,[]⟩ o.op.operands.toList)->alook O1' k=alook s1.objs k) /\
   (∀k,k ∉ aX s2.objs (aK ⟨s2,X.G,[]⟩ o.op.operands.toList)->alook O' k=alook s2.objs k):=by
 cases hop:o.op with
 | call q=>
  obtain ⟨callee,args,ts⟩:=q
  cases callee with
  | value f=>
   rw [hop] at h hb hK
   simp only [dZ,hop] at he ⊢
   obtain ⟨⟨g,l⟩,e1,he⟩:=ag he
   have hl:=qQ e1
   have hR:=(dI s2.objs (aK ⟨s2,X.G,[]⟩ (Op.call {callee:=.value f,args,argTypes:=ts}).operands.toList)).2
   obtain ⟨O1',g1,g2,g3,g4⟩:=s8 (K:=λk=>k∈aX s2.objs (aK ⟨s2,X.G,[]⟩ (Op.call {callee:=.value f,args,argTypes:=ts}).operands.toList)) (O1:=s1.objs) hK (sE hb) (λk hk=>hR k (hl k hk)) he
   rw [fc h,e1]
   exact ⟨O1',by simp only [Option.bind_some];rw [g1],g2,g3,g4⟩
  | builtin b=>simp [hop,bT] at h1
  | invoke r m=>simp [hop,bT] at h1
 | _=>simp [hop,bT] at h1
end Go.Ab

namespace Go.Ab
open Go Go.RowKit
variable {P:Program} {B:Base} {c:Cx} {s:St} {a:Act}
theorem eu {l m:List Nat} (h:td l m=true) {k:Nat} (h1:k∈l) (h2:k∈m):False:=by
 have:=List.all_eq_true.1 h k h1
 rw [any_beq.2 h2] at this;simp at this
theorem uJ {op:Op} (h:db op=true):bT op=false:=by
 cases op with
 | call q=>
  obtain ⟨callee,args,ts⟩:=q
  cases callee with
  | value f=>simp [db] at h
  | _=>rfl
 | _=>rfl
theorem cm (s:St) (d:Option Nat) (v:AV) (objs:List (Nat×AO)) (k:Nat):(s.after d v objs).obj k=alook objs k:=by simp only [St.obj,sO]
theorem eT.refl (s:St) (l:List Nat):eT s s l:=λ_ _=>rfl
theorem eS.refl (s:St) (l:List Nat):eS s s l:=λ_ _=>rfl
theorem One.obj {X:Cfg} {ops:Array Oper} {i:Nat} {o:Oper} {s s':St} (h:One X ops o s s') (ha:(de X s ops i o).all=false) {k:Nat} (hw:k ∉ (de X s ops i o).wr):s'.obj k=s.obj k:=by
 cases h with
 | plain v objs' hg he=>
  rw [cm]
  simp only [de,hg,Bool.and_eq_false_iff,Bool.not_eq_false'] at ha hw
  cases hl:db o.op with
  | true=>
   rw [hl,cond_true] at hw
   obtain ⟨us,h1,h2,_⟩:=pB hl (eT.refl s _) (eS.refl s _) he
   rw [h2]
   exact ku λp hp e=>hw (e ▸ h1 p hp)
  | false=>
   by_cases hc:bT o.op=true
   ·have hfar:nE s.objs (aX s.objs (aK ⟨s,X.G,[]⟩ o.op.operands.toList))=true:=ha.resolve_left (by simp [hc])
    rw [hl,hc,hfar] at hw
    simp only [cond_false,Bool.and_self,cond_true] at hw
    obtain ⟨O1',_,_,_,g4⟩:=nu hc (eT.refl s _) hfar (λ_ _=>rfl) he
    rw [g4 k λe=>hw (List.mem_append.2 (.inl e))];rfl
   ·rw [mz hl (by simpa using hc)] at he
    obtain ⟨r,_,he⟩:=aQ he
    simp only [Prod.mk.injEq] at he
    rw [<-he.2.2];rfl
 | born v objs' hg hb he=>
  rw [cm]
  obtain ⟨d,m,os,hd,hm,hlen,_,hc,hO,hk,hl,_⟩:=se he
  have hw':k ∉ cZ d 0 4:=by
   simp only [de,hg] at hw
   rw [hl,cond_false,hk,hc,hb,hd] at hw
   exact λe=>hw (by simpa [nE,kc,aX,dn,bg,yN] using e)
  rw [hO,bw (cX d m 0).1 (by rw [(cX d m 0).2,hlen]),if_neg λe=>hw' (jJ hm e)];rfl
 | guarded j t d w v _ _ _ _ _=>simp
theorem vl {X:Cfg} {s:St} {o:Oper} {t:Nat} {w b:Bool} {v:AV} (hc:bT o.op=true) (he:nt X s o t w=some (b,v)):v.keys=[]:=by
 cases hop:o.op with
 | call q=>
  obtain ⟨callee,args,ts⟩:=q
  cases callee with
  | value f=>
   simp only [nt,hop] at he
   obtain ⟨q,_,he⟩:=ag he
   obtain ⟨_,he⟩:=au he
   obtain ⟨⟨r,os⟩,_,he⟩:=ag he
   cases os with
   | nil=>
    dsimp only at he
    obtain ⟨hb,he⟩:=au he
    simp only [Option.some.injEq,Prod.mk.injEq] at he
    obtain ⟨_,rfl⟩:=he
    simp only [Bool.and_eq_true] at hb
    exact iL hb.1
   | cons _ _=>simp at he
  | builtin b=>simp [hop,bT] at hc
  | invoke r m=>simp [hop,bT] at hc
 | _=>simp [hop,bT] at hc
theorem One.move {X:Cfg} {ops:Array Oper} {i:Nat} {o:Oper} {s1 s2 s2':St} (h:One X ops o s2 s2') (ht:eT s1 s2 (de X s2 ops i o).tmps)
  (ho:∀k,k∈(de X s2 ops i o).rd∨k∈(de X s2 ops i o).wr∨(de X s2 ops i o).all=true->s1.obj k=s2.obj k) :
  ∃s1',One X ops o s1 s1'/\(∀d,o.dst=some d->s1'.get d=s2'.get d)/\(∀k,k∈(de X s2 ops i o).wr∨(de X s2 ops i o).all=true->s1'.obj k=s2'.obj k) /\
   (∀k,(de X s2 ops i o).all=false->k ∉ (de X s2 ops i o).wr->s1'.obj k=s1.obj k):=by
 cases h with
 | plain v objs' hg he=>
  have htm:(de X s2 ops i o).tmps=cz o.op.operands.toList:=by simp only [de,hg]
  have hwr:(de X s2 ops i o).wr=cond (db o.op) (jA o.dst.toList++aK ⟨s2,X.G,[]⟩ o.op.operands.toList) (cond (bT o.op&&nE s2.objs (aX s2.objs (aK ⟨s2,X.G,[]⟩ o.op.operands.toList))) (aX s2.objs (aK ⟨s2,X.G,[]⟩ o.op.operands.toList)++yN (X.born o) o.dst) []):=by simp only [de,hg]
  have hrd:(de X s2 ops i o).rd=cond (gp o.op) (aK ⟨s2,X.G,[]⟩ o.op.operands.toList) []:=by simp only [de,hg]
  have hall:(de X s2 ops i o).all=(bT o.op&&!nE s2.objs (aX s2.objs (aK ⟨s2,X.G,[]⟩ o.op.operands.toList))):=by simp only [de,hg]
  rw [htm] at ht
  rw [hwr,hrd,hall] at ho
  rw [hwr,hall]
  have hd:∀ (O1:List (Nat×AO)) (d:Nat),o.dst=some d->(s1.after o.dst v O1).get d=(s2.after o.dst v objs').get d:=λO1 d hd=>by rw [dx,dx,if_pos hd,if_pos hd]
  cases hl:db o.op with
  | true=>
   rw [hl] at ho
   simp only [cond_true] at ho ⊢
   obtain ⟨us,h1,h2,h3⟩:=pB hl ht (λk hk=>ho k (.inr (.inl hk))) he
   refine ⟨_,.plain v _ hg h3,hd _,λk hk=>?_,λk _ hk=>?_⟩
   ·rw [cm,cm,h2]
    refine oW ?_
    rcases hk with hk | hk
    ·exact ho k (.inr (.inl hk))
    ·rw [uJ hl] at hk;simp at hk
   ·rw [cm]
    exact ku λp hp e=>hk (e ▸ h1 p hp)
  | false=>
   rw [hl] at ho
   simp only [cond_false] at ho ⊢
   cases hc:bT o.op with
   | true=>
    cases hn:nE s2.objs (aX s2.objs (aK ⟨s2,X.G,[]⟩ o.op.operands.toList)) with
    | true=>
     rw [hc,hn] at ho
     simp only [Bool.and_self,cond_true] at ho ⊢
     obtain ⟨O1,e1,e2,e3,e4⟩:=nu hc ht hn (λk hk=>ho k (.inr (.inl (List.mem_append.2 (.inl hk))))) he
     refine ⟨_,.plain v _ hg e1,hd _,λk hk=>?_,λk _ hk=>?_⟩
     ·rw [cm,cm]
      rcases hk with hk | hk
      ·by_cases hq:k∈aX s2.objs (aK ⟨s2,X.G,[]⟩ o.op.operands.toList)
       ·exact e2 k hq
       ·rw [e3 k hq,e4 k hq];exact ho k (.inr (.inl hk))
      ·simp at hk
     ·rw [cm];exact e3 k λe=>hk (List.mem_append.2 (.inl e))
    | false=>
     obtain ⟨O1,e1,e2⟩:=mY hc (λk=>ho k (.inr (.inr (by rw [hc,hn];rfl)))) ht he
     exact ⟨_,.plain v _ hg e1,hd _,λk _=>by rw [cm,cm];exact e2 k,λk hk=>by simp at hk⟩
   | false=>
    have he':=he
    rw [mz hl hc] at he'
    obtain ⟨⟨b',v'⟩,e1,e2⟩:=aQ he'
    simp only [Prod.mk.injEq] at e2
    obtain ⟨rfl,rfl,rfl⟩:=e2
    have e3:dZ X s1 o=some (true,v',s1.objs):=by
     rw [mz hl hc,l7 X.P ht (λk hk=>ho k (.inl hk)),e1];rfl
    exact ⟨_,.plain v' _ hg e3,hd _,λk hk=>by simp at hk,λk _ _=>by rw [cm];rfl⟩
 | born v objs' hg hb he=>
  obtain ⟨d,m,os,hd,hm,hlen,hf,hc,hO,hk,hl,hmv⟩:=se he
  have htm:(de X s2 ops i o).tmps=cz o.op.operands.toList:=by simp only [de,hg]
  have hwr:(de X s2 ops i o).wr=cZ d 0 4:=by
   simp only [de,hg]
   rw [hl,cond_false,hk,hc,hb,hd];rfl
  have hall:(de X s2 ops i o).all=false:=by
   simp only [de,hg]
   rw [hk,hc];rfl
  rw [htm] at ht
  rw [hwr,hall] at ho
  rw [hwr,hall]
  have hs:∀k,k∈cZ d 0 4->s1.obj k=s2.obj k:=λk hk=>ho k (.inr (.inl hk))
  have h1:=hmv s1 ht λk hk=>hs k (jJ hm hk)
  refine ⟨_,.born v _ hg hb h1,λd' hd'=>by rw [dx,dx,if_pos hd',if_pos hd'],λk hk'=>?_,λk _ hk'=>?_⟩
  ·rw [cm,cm,hO,bw (cX d m 0).1 (by rw [(cX d m 0).2,hlen]),bw (cX d m 0).1 (by rw [(cX d m 0).2,hlen])]
   rcases hk' with hk' | hk'
   ·split
    ·rfl
    ·exact hs k hk'
   ·simp at hk'
  ·rw [cm,bw (cX d m 0).1 (by rw [(cX d m 0).2,hlen]),if_neg λe=>hk' (jJ hm e)];rfl
 | guarded j t d w v hg hj hd hdt he=>
  have htm:(de X s2 ops i o).tmps=(bE s2 4 t w).map (·.1)++cz o.op.operands.toList:=by simp only [de,hg,hj]
  have hwr:(de X s2 ops i o).wr=[]:=by simp only [de,hg,hj]
  have hall:(de X s2 ops i o).all=false:=by simp only [de,hg,hj]
  have hrd:(de X s2 ops i o).rd=cond (gp o.op) (aK ⟨s2,X.G,bE s2 4 t w⟩ o.op.operands.toList) []++v.keys:=by
   simp only [de,hg,hj,he]
   cases hc:bT o.op with
   | false=>rfl
   | true=>rw [vl hc he];rfl
  rw [htm] at ht
  have he1:nt X s1 o t w=some (true,v):=s7 he ht λk hk=>ho k (.inl (by rw [hrd];exact hk))
  refine ⟨_,.guarded j t d w v hg hj hd hdt he1,λd' hd'=>?_,λk hk=>by rw [hwr,hall] at hk;simp at hk,λk _ _=>by simp⟩
  rw [hd] at hd';cases hd'
  rw [St.dh,St.dh,if_pos rfl,if_pos rfl]
structure Plan (X:Cfg) (ops:Array Oper) (st:Nat->St):Prop where
 T:Trace X ops st
 plain:bI (st 0)
 uniq:∀ (i j:Nat) (o q:Oper) (d:Nat),ops[i]?=some o->ops[j]?=some q->o.dst=some d->q.dst=some d->i=j
 edge:∀ (i:Nat) (o:Oper),ops[i]?=some o->∀e∈o.after,Region.binds .any e=true->e.on < i
 pair:∀ (i j:Nat) (o q:Oper),i < j->ops[i]?=some o->ops[j]?=some q->((gH ops.toList []).getD j 0).testBit i=true∨jc (de X (st i) ops i o) (de X (st j) ops j q)=true
section
variable {X:Cfg} {ops:Array Oper} {st:Nat->St}
theorem rU {ops:Array Oper} {i:Nat} (h:i < ops.size):∃o,ops[i]?=some o:=⟨ops[i],Array.getElem?_eq_getElem h⟩
theorem Plan.yk (p:Plan X ops st):∀ (i t:Nat),i<=ops.size->(∀j o,j < i->ops[j]?=some o->o.dst≠some t)->(st i).get t=(st 0).get t
 | 0,_,_,_=>rfl
 | i+1,t,hi,h=>by
  obtain ⟨o,ho⟩:=rU (show i < ops.size by omega)
  rw [(p.T.step i o ho).other (h i o (by omega) ho)]
  exact p.yk i t (by omega) λj o hj=>h j o (by omega)
theorem Plan.u5 (p:Plan X ops st) {j t:Nat} {o:Oper} (hj:ops[j]?=some o) (ht:o.dst=some t):∀ (k:Nat),j+1+k<=ops.size->(st (j+1+k)).get t=(st (j+1)).get t
 | 0,_=>rfl
 | k+1,hk=>by
  obtain ⟨q,hq⟩:=rU (show j+1+k < ops.size by omega)
  rw [<-Nat.add_assoc,(p.T.step _ q hq).other λe=>?_]
  ·exact p.u5 hj ht k (by omega)
  ·have:=p.uniq j _ o q t hj hq ht e;omega
theorem Plan.DL (p:Plan X ops st) {i j t:Nat} {o:Oper} (hj:ops[j]?=some o) (ht:o.dst=some t) (hij:j < i) (hi:i<=ops.size):(st i).get t=(st ops.size).get t:=by
 have h1:=p.u5 hj ht (i - (j+1)) (by omega)
 have h2:=p.u5 hj ht (ops.size - (j+1)) (by omega)
 rw [show j+1+(i - (j+1))=i by omega] at h1
 rw [show j+1+(ops.size - (j+1))=ops.size by omega] at h2
 rw [h1,h2]
def tu (X:Cfg) (ops:Array Oper) (st:Nat->St) (j:Nat) (o:Oper) (k:Nat):Prop:=k∈(de X (st j) ops j o).wr∨(de X (st j) ops j o).all=true
theorem Plan.objs (p:Plan X ops st) {i q:Nat}:∀ (k:Nat),i+k<=ops.size->(∀j o,i<=j->j < i+k->ops[j]?=some o->¬ tu X ops st j o q)->(st (i+k)).obj q=(st i).obj q
 | 0,_,_=>rfl
 | k+1,hk,h=>by
  obtain ⟨o,ho⟩:=rU (show i+k < ops.size by omega)
  have hn:=h _ o (by omega) (by omega) ho
  rw [<-Nat.add_assoc,(p.T.step _ o ho).obj (i:=i+k) (by simpa using λe=>hn (.inr e)) (λe=>hn (.inl e))]
  exact p.objs k (by omega) λj o h1 h2=>h j o h1 (by omega)
structure Inv (X:Cfg) (ops:Array Oper) (st:Nat->St) (S:Nat->Prop) (s:St):Prop where
 done:∀ (t j:Nat) (o:Oper),S j->ops[j]?=some o->o.dst=some t->s.get t=(st ops.size).get t
 rest:∀t,(∀ (j:Nat) (o:Oper),S j->ops[j]?=some o->o.dst≠some t)->s.get t=(st 0).get t
 objs:∀k,∃m,m<=ops.size/\s.obj k=(st m).obj k/\∀ (j:Nat) (o:Oper),ops[j]?=some o->tu X ops st j o k->(S j↔j < m)
 down:∀ (j:Nat) (o:Oper),S j->ops[j]?=some o->∀e∈o.after,Region.binds .any e=true->S e.on
 grd:∀ (t tc:Nat) (w:Bool) (v:AV),s.get t=some (.grd tc w v)->∃ (j:Nat) (o:Oper) (g:Nat),S j/\ops[j]?=some o/\o.dst=some t/\o.guard=some (g,w)/\(ops[g]?).bind (·.dst)=some tc
theorem Plan.bit (_:Plan X ops st) {S:Nat->Prop} (hS:∀ (j:Nat) (o:Oper),S j->ops[j]?=some o->∀e∈o.after,Region.binds .any e=true->S e.on) {i j:Nat} {o:Oper} (ho:ops[j]?=some o)
  (hr:∀e∈o.after,Region.binds .any e=true->S e.on) (h:((gH ops.toList []).getD j 0).testBit i=true):S i:=
 lh hS ops.toList [] (λj=>by simp) (λj o hj=>by simp at hj) j o ho hr i h
theorem Plan.next (p:Plan X ops st) (hX:cj X) (hG:X.G=B.G) (hN:∀o∈ops.toList,∀d,o.dst=some d->d < B.N) {S:Nat->Prop} (hI:Inv X ops st S s) (h:Rel B c s a) {i:Nat} {o:Oper} (ho:ops[i]?=some o) (hni:¬ S i)
  (hr:∀e∈o.after,Region.binds .any e=true->S e.on):∃s',Inv X ops st (λj=>j=i∨S j) s'/\vF X.P ops B c a i s':=by
 have hin:i < ops.size:=(Array.getElem?_eq_some_iff.1 ho).1
 have hbefore:∀j q,j < i->ops[j]?=some q->S j∨jc (de X (st j) ops j q) (de X (st i) ops i o)=true:=λj q hj hq=>
  (p.pair j i q o hj hq ho).imp (λhb=>p.bit hI.down ho hr hb) id
 have hafter:∀j q,i < j->ops[j]?=some q->S j->jc (de X (st i) ops i o) (de X (st j) ops j q)=true:=λj q hj hq hSj=>
  (p.pair i j o q hj ho hq).resolve_left λhb=>hni (p.bit hI.down hq (hI.down j q hSj hq) hb)
 have hdstF:∀ (k:Nat) (q:Oper) (st':St) (t:Nat),ops[k]?=some q->q.dst=some t->t∈(de X st' ops k q).dst∨(∃j w,q.guard=some (j,w)/\(ops[j]?).bind (·.dst)=none):=by
  intro k q st' t hq ht
  cases hg:q.guard with
  | none=>left;simp [de,hg,ht]
  | some jw=>
   obtain ⟨j,w⟩:=jw
   cases hj:(ops[j]?).bind (·.dst) with
   | none=>right;exact ⟨j,w,rfl,hj⟩
   | some t'=>left;simp [de,hg,hj,ht]
 have hdst:∀ (k:Nat) (q:Oper) (t:Nat),ops[k]?=some q->q.dst=some t->t∈(de X (st k) ops k q).dst:=by
  intro k q t hq ht
  rcases hdstF k q (st k) t hq ht with h1 | ⟨j,w,h1,h2⟩
  ·exact h1
  ·have hs:=p.T.step k q hq
   generalize st (k+1)=s' at hs
   cases hs with
   | plain v objs' hg _=>rw [hg] at h1;cases h1
   | born v objs' hg _ _=>rw [hg] at h1;cases h1
   | guarded j' t' d w' v hg hj _ _ _=>rw [hg] at h1;cases h1;rw [hj] at h2;cases h2
 have hagree:eT s (st i) (de X (st i) ops i o).tmps:=by
  intro t ht
  by_cases hex:∃ (j:Nat) (q:Oper),ops[j]?=some q/\q.dst=some t
  ·obtain ⟨j,q,hj,hq⟩:=hex
   have hjn:j < ops.size:=(Array.getElem?_eq_some_iff.1 hj).1
   have hone:∀k q',S k->ops[k]?=some q'->q'.dst=some t->S j:=λk q' hk hk' hq'=>by rw [p.uniq j k q q' t hj hk' hq hq'];exact hk
   rcases Nat.lt_trichotomy j i with hlt | rfl | hlt
   ·rcases hbefore j q hlt hj with hS | hap
    ·rw [hI.done t j q hS hj hq,p.DL hj hq hlt (by omega)]
    ·simp only [jc,Bool.and_eq_true] at hap
     exact (eu hap.1 (hdst j q t hj hq) ht).elim
   ·rw [hI.rest t λk q' hk hk' hq'=>hni (hone k q' hk hk' hq'),p.yk j t (by omega) λk q' hk hk' hq'=>by
     have:=p.uniq j k q q' t hj hk' hq hq';omega]
   ·by_cases hS:S j
    ·have hap:=hafter j q hlt hj hS
     simp only [jc,Bool.and_eq_true] at hap
     exact (eu hap.2.1 (hdst j q t hj hq) ht).elim
    ·rw [hI.rest t λk q' hk hk' hq'=>hS (hone k q' hk hk' hq'),p.yk i t (by omega) λk q' hk hk' hq'=>by
      have:=p.uniq j k q q' t hj hk' hq hq';omega]
  ·have hno:∀ (k:Nat) (q:Oper),ops[k]?=some q->q.dst≠some t:=λk q hk hq=>hex ⟨k,q,hk,hq⟩
   rw [hI.rest t λk q _ hk=>hno k q hk,p.yk i t (by omega) λk q _ hk=>hno k q hk]
 have htouch:∀k,k∈(de X (st i) ops i o).rd∨k∈(de X (st i) ops i o).wr∨(de X (st i) ops i o).all=true->(de X (st i) ops i o).kk=true:=by
  intro k hk
  simp only [Fp.kk,Bool.or_eq_true,Bool.not_eq_true']
  rcases hk with hk | hk | hk
  ·right;left;cases hr:(de X (st i) ops i o).rd with
   | nil=>rw [hr] at hk;simp at hk
   | cons _ _=>rfl
  ·right;right;cases hr:(de X (st i) ops i o).wr with
   | nil=>rw [hr] at hk;simp at hk
   | cons _ _=>rfl
  ·exact .inl hk
 have htouch':∀j q k,tu X ops st j q k->(de X (st j) ops j q).kk=true:=by
  intro j q k hk
  simp only [Fp.kk,Bool.or_eq_true,Bool.not_eq_true']
  rcases hk with hk | hk
  ·right;right;cases hr:(de X (st j) ops j q).wr with
   | nil=>rw [hr] at hk;simp at hk
   | cons _ _=>rfl
  ·exact .inl hk
 have hbw:∀k,k∈(de X (st i) ops i o).rd∨k∈(de X (st i) ops i o).wr∨(de X (st i) ops i o).all=true->(∀j q,j < i->ops[j]?=some q->tu X ops st j q k->S j)/\∀j q,i < j->ops[j]?=some q->tu X ops st j q k->¬ S j:=by
  intro k hb
  refine ⟨λj q hj hq hw=>(hbefore j q hj hq).resolve_right λhap=>?_,λj q hj hq hw hS=>?_⟩
  ·simp only [jc,Bool.and_eq_true,Bool.not_eq_true',Bool.and_eq_false_iff] at hap
   obtain ⟨_,_,h3,h4,h5,h6,h7⟩:=hap
   rcases hb with hb | hb | hb
   ·rcases hw with hw | hw
    ·exact eu h6 hw hb
    ·rcases h3 with h3 | h3
     ·rw [hw] at h3;cases h3
     ·rw [htouch k (.inl hb)] at h3;cases h3
   ·rcases hw with hw | hw
    ·exact eu h5 hw hb
    ·rcases h3 with h3 | h3
     ·rw [hw] at h3;cases h3
     ·rw [htouch k (.inr (.inl hb))] at h3;cases h3
   ·rcases h4 with h4 | h4
    ·rw [hb] at h4;cases h4
    ·rw [htouch' j q k hw] at h4;cases h4
  ·have hap:=hafter j q hj hq hS
   simp only [jc,Bool.and_eq_true,Bool.not_eq_true',Bool.and_eq_false_iff] at hap
   obtain ⟨_,_,h3,h4,h5,h6,h7⟩:=hap
   rcases hb with hb | hb | hb
   ·rcases hw with hw | hw
    ·exact eu h7 hw hb
    ·rcases h4 with h4 | h4
     ·rw [hw] at h4;cases h4
     ·rw [htouch k (.inl hb)] at h4;cases h4
   ·rcases hw with hw | hw
    ·exact eu h5 hb hw
    ·rcases h4 with h4 | h4
     ·rw [hw] at h4;cases h4
     ·rw [htouch k (.inr (.inl hb))] at h4;cases h4
   ·rcases h3 with h3 | h3
    ·rw [hb] at h3;cases h3
    ·rw [htouch' j q k hw] at h3;cases h3
 have hob:∀k,k∈(de X (st i) ops i o).rd∨k∈(de X (st i) ops i o).wr∨(de X (st i) ops i o).all=true->s.obj k=(st i).obj k:=by
  intro k hb
  obtain ⟨h1,h2⟩:=hbw k hb
  obtain ⟨m,hm,hobs,hwr⟩:=hI.objs k
  rw [hobs]
  rcases Nat.le_total m i with hle | hle
  ·have:=p.objs (i:=m) (q:=k) (i - m) (by omega) λj q hj1 hj2 hq hw=>by
    have:=(hwr j q hq hw).1 (h1 j q (by omega) hq hw);omega
   rw [show m+(i - m)=i by omega] at this;exact this.symm
  ·have:=p.objs (i:=i) (q:=k) (m - i) (by omega) λj q hj1 hj2 hq hw=>by
    have hS:=(hwr j q hq hw).2 (by omega)
    by_cases e:j=i
    ·subst e;exact hni hS
    ·exact h2 j q (by omega) hq hw hS
   rw [show i+(m - i)=m by omega] at this;exact this
 obtain ⟨s',hone,hget,hw1,hw0⟩:=(p.T.step i o ho).move (i:=i) hagree hob
 have hfree:∀d,o.dst=some d->d < B.N/\fI s d:=by
  intro d hd
  refine ⟨hN o (by simpa using Array.mem_of_getElem? ho) d hd,λt tc w v hg e=>?_⟩
  subst e
  obtain ⟨j,q,g,hS,hj,hq,hqg,hqt⟩:=hI.grd t tc w v hg
  have htm:tc∈(de X (st j) ops j q).tmps:=by
   simp only [de,hqg,hqt,List.mem_append]
   left;simp [bE]
  rcases Nat.lt_trichotomy j i with hlt | rfl | hlt
  ·exact p.T.later j q g tc w hj hqg hqt i o hlt ho hd
  ·exact hni hS
  ·have hap:=hafter j q hlt hj hS
   simp only [jc,Bool.and_eq_true] at hap
   exact eu hap.1 (hdst i o tc ho hd) htm
 have hkeep:∀t,o.dst≠some t->s'.get t=s.get t:=λt ht=>hone.other ht
 have hinv:(∀ (t tc:Nat) (w:Bool) (v:AV),o.dst=some t->s'.get t=some (.grd tc w v)->∃g,o.guard=some (g,w)/\(ops[g]?).bind (·.dst)=some tc)->Inv X ops st (λj=>j=i∨S j) s':=by
  intro hgr
  refine ⟨λt j q hj hq hd=>?_,λt hno=>?_,?_,λj q hj hq e he hb=>?_,λt tc w v hg=>?_⟩
  ·by_cases e:j=i
   ·subst e
    rw [ho] at hq;cases hq
    rw [hget t hd]
    exact p.DL ho hd (Nat.lt_succ_self j) (by omega)
   ·have hS:=hj.resolve_left e
    rw [hkeep t λhd'=>e (p.uniq j i q o t hq ho hd hd')]
    exact hI.done t j q hS hq hd
  ·rw [hkeep t (hno i o (.inl rfl) ho)]
   exact hI.rest t λj q hj=>hno j q (.inr hj)
  ·intro k
   by_cases hw:tu X ops st i o k
   ·obtain ⟨h1,h2⟩:=hbw k (.inr hw)
    refine ⟨i+1,by omega,hw1 k hw,λj q hq hwj=>?_⟩
    rcases Nat.lt_trichotomy j i with hlt | rfl | hlt
    ·exact ⟨λ_=>by omega,λ_=>.inr (h1 j q hlt hq hwj)⟩
    ·exact ⟨λ_=>by omega,λ_=>.inl rfl⟩
    ·exact ⟨λhj=>absurd (hj.resolve_left (by omega)) (h2 j q hlt hq hwj),λhj=>by omega⟩
   ·obtain ⟨m,hm,hobs,hwr⟩:=hI.objs k
    refine ⟨m,hm,by rw [hw0 k (by simpa using λe=>hw (.inr e)) (λe=>hw (.inl e)),hobs],λj q hq hwj=>?_⟩
    have e:j≠i:=by rintro rfl;rw [ho] at hq;cases hq;exact hw hwj
    exact ⟨λhj=>(hwr j q hq hwj).1 (hj.resolve_left e),λhj=>.inr ((hwr j q hq hwj).2 hj)⟩
  ·rcases hj with rfl | hj
   ·rw [ho] at hq;cases hq;exact .inr (hr e he hb)
   ·exact .inr (hI.down j q hj hq e he hb)
  ·by_cases e:o.dst=some t
   ·obtain ⟨g,h1,h2⟩:=hgr t tc w v e hg
    exact ⟨i,o,g,.inl rfl,ho,e,h1,h2⟩
   ·rw [hkeep t e] at hg
    obtain ⟨j,q,g,h1,h2⟩:=hI.grd t tc w v hg
    exact ⟨j,q,g,.inr h1,h2⟩
 cases hone with
 | plain v objs' hg he=>
  obtain ⟨hstep,hv⟩:=iQ hX hG h hfree he
  refine ⟨_,hinv λt tc w u ht hu=>?_,hstep.istep ho hg⟩
  rw [dx,if_pos ht] at hu;cases hu;simp [AV.bX] at hv
 | born v objs' hg hb he=>
  obtain ⟨hstep,hv⟩:=kF hX hG h hfree (Aw he)
  refine ⟨_,hinv λt tc w u ht hu=>?_,hstep.istep ho hg⟩
  rw [dx,if_pos ht] at hu;cases hu;simp [AV.bX] at hv
 | guarded j t d w v hg hj hd hdt he=>
  refine ⟨_,hinv λt' tc w' u ht' hu=>?_,nr hX hG h ho hg hj hd (hfree d hd).1 (hfree d hd).2 hdt he⟩
  rw [hd] at ht';cases ht'
  rw [St.dh,if_pos rfl] at hu
  simp only [Option.some.injEq,AV.grd.injEq] at hu
  obtain ⟨rfl,rfl,_⟩:=hu
  exact ⟨j,hg,hj⟩
end
end Go.Ab

namespace Go.Ab
open Go Go.RowKit
variable {B:Base} {c:Cx} {s:St} {a:Act} {X:Cfg} {ops:Array Oper} {st:Nat->St}
theorem Inv.end (p:Plan X ops st) {S:Nat->Prop} (hI:Inv X ops st S s) (hall:∀i,i < ops.size->S i) (h:Rel B c s a):Rel B c (st ops.size) a:=by
 have hget:∀t,(st ops.size).get t=s.get t:=by
  intro t
  by_cases hex:∃ (j:Nat) (q:Oper),ops[j]?=some q/\q.dst=some t
  ·obtain ⟨j,q,hj,hq⟩:=hex
   exact (hI.done t j q (hall j (Array.getElem?_eq_some_iff.1 hj).1) hj hq).symm
  ·have hno:∀ (k:Nat) (q:Oper),ops[k]?=some q->q.dst≠some t:=λk q hk hq=>hex ⟨k,q,hk,hq⟩
   rw [hI.rest t λk q _ hk=>hno k q hk,p.yk _ t (Nat.le_refl _) λk q _ hk=>hno k q hk]
 have hobj:∀k,(st ops.size).obj k=s.obj k:=by
  intro k
  obtain ⟨m,hm,hobs,hwr⟩:=hI.objs k
  rw [hobs]
  have:=p.objs (i:=m) (q:=k) (ops.size - m) (by omega) λj q hj1 hj2 hq hw=>by
   have:=(hwr j q hq hw).1 (hall j (Array.getElem?_eq_some_iff.1 hq).1);omega
  rw [show m+(ops.size - m)=ops.size by omega] at this;exact this
 have hlive:∀k,live s.objs k->live (st ops.size).objs k:=λk ⟨o,ho⟩=>⟨o,by have:=hobj k;simp only [St.obj] at this;rw [this];exact ho⟩
 refine h.less (λk hk=>hlive k (h.kept k hk)) (λt v hv=>by rw [<-hget t];exact hv) (λk o ho=>by rw [<-hobj k];exact ho)
  (λt v hv k hk=>hlive k (h.closed t v (by rw [<-hget t];exact hv) k hk)) (λk o ho q hq=>hlive q (h.objs.closed k o (by have:=hobj k;rw [ho] at this;exact this.symm) q hq))
theorem qA {listed:Array Bool} {i:Nat} (h:i < listed.size) (b b':Bool):listed.getD i b=listed.getD i b':=by
 simp [h]
theorem Plan.run (p:Plan X ops st) (hX:cj X) (hG:X.G=B.G) (hN:∀o∈ops.toList,∀d,o.dst=some d->d < B.N) {Q:Exit->Act->World->Prop} (hQ:∀c' a',Rel B c' (st ops.size) a'->Q .normal a' c'.w) :
  ∀ (fuel:Nat) (listed:Array Bool) (s:St) (c:Cx) (a:Act),listed.size=ops.size->(∃U:List Nat,U.length<=fuel/\∀i,i < ops.size->listed.getD i false=false->i∈U)->
   Inv X ops st (λi=>listed.getD i false=true) s->Rel B c s a->wpAny X.P .any ops Q fuel listed a c.w:=by
 have hdone:∀ (listed:Array Bool) (s:St) (c:Cx) (a:Act),listed.size=ops.size->Inv X ops st (λi=>listed.getD i false=true) s->Rel B c s a->Region.ready .any ops listed=[]->Q .normal a c.w:=by
  intro listed s c a hsz hI h hr
  have hall:∀i,i < ops.size->listed.getD i false=true:=by
   intro i
   induction i using Nat.strongRecOn with
   | _ i ih=>
    intro hi
    cases hl:listed.getD i false with
    | true=>rfl
    | false=>
     obtain ⟨o,ho⟩:=rU hi
     have:i∈Region.ready .any ops listed:=mem_ready.2 ⟨by rw [qA (by omega) true false];exact hl,o,ho,λe he hb=>ih e.on (p.edge i o ho e he hb) (by have:=p.edge i o ho e he hb;omega)⟩
     rw [hr] at this;simp at this
  exact hQ c a (hI.end p hall h)
 intro fuel
 induction fuel with
 | zero=>
  intro listed s c a hsz hU hI h
  have hr:Region.ready .any ops listed=[]:=by
   cases hr:Region.ready .any ops listed with
   | nil=>rfl
   | cons i r=>
    have hi:i∈Region.ready .any ops listed:=by rw [hr];simp
    obtain ⟨h0,o,ho,_⟩:=mem_ready.1 hi
    have hin:=(Array.getElem?_eq_some_iff.1 ho).1
    obtain ⟨U,h1,h2⟩:=hU
    have:=h2 i hin (by rw [qA (by omega) false true];exact h0)
    have hUn:U=[]:=List.length_eq_zero_iff.1 (by omega)
    rw [hUn] at this;simp at this
  exact ⟨hr,hdone listed s c a hsz hI h hr⟩
 | succ fuel ih=>
  intro listed s c a hsz hU hI h
  refine ⟨hdone listed s c a hsz hI h,λi hi=>?_⟩
  obtain ⟨h0,o,ho,hall⟩:=mem_ready.1 hi
  have hin:=(Array.getElem?_eq_some_iff.1 ho).1
  have h0':listed.getD i false=false:=by rw [qA (by omega) false true];exact h0
  obtain ⟨s',hI',hstep⟩:=p.next (B:=B) (c:=c) (a:=a) hX hG hN hI h ho (by simp [h0']) (λe he hb=>hall e he hb)
  refine hstep Q _ λa' c' hr=>?_
  have hset:∀j,(listed.setIfInBounds i true).getD j false=true↔(j=i∨listed.getD j false=true):=by
   intro j
   by_cases e:i=j
   ·subst e
    have:i < listed.size:=by omega
    simp [this]
   ·rw [getD_set_ne false e]
    exact ⟨.inr,λh=>h.resolve_left (λx=>e x.symm)⟩
  refine ih _ s' c' a' (by simpa using hsz) ?_ ?_ hr
  ·obtain ⟨U,h1,h2⟩:=hU
   have hiU:=h2 i hin h0'
   refine ⟨U.erase i,?_,λj hj hjn=>?_⟩
   ·rw [List.length_erase_of_mem hiU];omega
   ·have hne:j≠i:=by rintro rfl;rw [(hset j).2 (.inl rfl)] at hjn;cases hjn
    refine (List.mem_erase_of_ne hne).2 (h2 j hj ?_)
    cases hl:listed.getD j false with
    | false=>rfl
    | true=>rw [(hset j).2 (.inr hl)] at hjn;cases hjn
  ·have:(λj=>(listed.setIfInBounds i true).getD j false=true)=λj=>j=i∨listed.getD j false=true:=by funext j;exact propext (hset j)
   rw [this];exact hI'
theorem kS (hX:cj X) (hG:X.G=B.G) {k:St->Res} {r:AV×List AO} {Q:Exit->Act->World->Prop} (he:fB X ops s k=some r) (h:Rel B c s a) (hn:bI s)
  (hN:∀o∈ops.toList,∀d,o.dst=some d->d < B.N) (hk:∀s' c' a',k s'=some r->Rel B c' s' a'->bI s'->Q .normal a' c'.w):wpAny X.P .any ops Q ops.size (Array.replicate ops.size false) a c.w.drew:=by
 unfold fB at he
 obtain ⟨hb,he⟩:=bc he
 simp only [Bool.and_eq_true] at hb
 obtain ⟨st,h0,h1,h2,fps,h3,h4,h5⟩:=lZ ops.toList 0 [] s (λj=>by simp) he
 obtain ⟨hfp,h3⟩:=bc h3
 simp only [List.nil_append,Nat.zero_add] at hfp h3
 have hlen:ops.toList.length=ops.size:=by simp
 rw [hlen] at h3
 have p:Plan X ops st:=by
  refine ⟨⟨λi o ho=>h1 i o (Nat.zero_le _) ho,λi o j t w ho hg ht k q hk hq=>h2 i o j t w (Nat.zero_le _) ho hg ht k q hk hq⟩,by rw [h0];exact hn,λi j o q d hi hj ho hq=>(fM hb.1).2 i j o q d (by simpa using hi) (by simpa using hj) ho hq,
   λi o ho e he hbe=>by have:=lf hb.2 i o (by simpa using ho) e he hbe;omega,λi j o q hij hi hj=>?_⟩
  have:=nk hfp i j _ _ hij (h5 i o (Nat.zero_le _) hi) (h5 j q (Nat.zero_le _) hj)
  have hfi:∀ (k:Nat) (x:Oper) (s:St),(de X s ops k x).i=k:=by
   intro k x s
   simp only [de]
   split
   ·rfl
   ·split <;> rfl
  rw [hfi,hfi] at this
  exact this
 have hrel:Rel B c.drew s a:=h.keep (Cx.fZ c s.objs) (Cx.drew_grow h.good)
 refine p.run (B:=B) hX hG hN (λc' a' hr=>hk _ c' a' h3 hr.purge (bI.purge _)) ops.size _ s c.drew a (by simp) ⟨List.range ops.size,by simp,λi hi _=>by simpa using hi⟩ ?_ hrel
 have hf:∀i,(Array.replicate ops.size false).getD i false=true↔False:=by
  intro i;simp [Array.getD_eq_getD_getElem?,Array.getElem?_replicate];split <;> rfl
 refine ⟨λt j o hj=>((hf j).1 hj).elim,λt _=>by rw [h0],λk=>⟨0,Nat.zero_le _,by rw [h0],λj o _ _=>⟨λhj=>((hf j).1 hj).elim,λhj=>by omega⟩⟩,λj o hj=>((hf j).1 hj).elim,λt tc w v hg=>?_⟩
 have:=hn t _ hg
 simp [AV.bX] at this
theorem mN (hX:cj X) (hG:X.G=B.G) (hm:X.P.follows .mixedOrders=true) {id:Nat} {k:St->Res} {r:AV×List AO} {Q:Exit->Act->World->Prop} (he:fB X ops s k=some r) (h:Rel B c s a) (hn:bI s)
  (hN:∀o∈ops.toList,∀d,o.dst=some d->d < B.N) (hk:∀s' c' a',k s'=some r->Rel B c' s' a'->bI s'->Q .normal a' c'.w):(Code.region id ops true).wp X.P Q a c.w:=
 wp_region_any hm (kS hX hG he h hn hN hk)
end Go.Ab

namespace Go.Ab
open Go Go.RowKit
variable {P:Program} {B:Base} {c:Cx} {s:St} {a:Act}
theorem fg {env:List (Nat×AV)}:∀ {ks:List Nat} {t:Nat} {v:AV},alook (ic env ks) t=some v->alook env t=some v
 | [],t,v,h=>by simp [ic,alook] at h
 | k::r,t,v,h=>by
  simp only [ic] at h
  cases hk:alook env k with
  | none=>simp only [hk] at h;exact fg h
  | some u=>
   simp only [hk,alook] at h
   by_cases e:k=t
   ·subst e;simp at h;rw [hk,h]
   ·rw [gN e,cond_false] at h;exact fg h
theorem gy {objs:List (Nat×AO)} {k:Nat} {r:List Nat} {u:AO} (h:alook objs k=some u):b9 objs (k::r)=(k,u)::b9 objs r∨(b9 objs (k::r)=b9 objs r/\¬ ae<=k):=by
 simp only [b9,h]
 cases u with
 | gone=>
  cases hb:Nat.ble ae k with
  | true=>exact .inl rfl
  | false=>exact .inr ⟨rfl,λhle=>by rw [Nat.ble_eq_true_of_le hle] at hb;cases hb⟩
 | _=>exact .inl rfl
theorem jS {objs:List (Nat×AO)} {k:Nat} {r:List Nat} (h:alook objs k=none):b9 objs (k::r)=b9 objs r:=by
 simp only [b9,h]
theorem eC {objs:List (Nat×AO)}:∀ {ks:List Nat} {t:Nat} {v:AO},alook (b9 objs ks) t=some v->alook objs t=some v
 | [],t,v,h=>by simp [b9,alook] at h
 | k::r,t,v,h=>by
  cases hk:alook objs k with
  | none=>rw [jS hk] at h;exact eC h
  | some u=>
   rcases gy (r:=r) hk with e0 | ⟨e0,_⟩
   ·rw [e0] at h
    simp only [alook] at h
    by_cases e:k=t
    ·subst e;simp at h;rw [hk,h]
    ·rw [gN e,cond_false] at h;exact eC h
   ·rw [e0] at h;exact eC h
theorem jO {objs:List (Nat×AO)} {k:Nat} (hl:live objs k) (hb:ae<=k):∀ {ks:List Nat},k∈ks->live (b9 objs ks) k
 | [],h=>by simp at h
 | q::r,h=>by
  by_cases e:q=k
  ·subst e
   obtain ⟨o,ho⟩:=hl
   rcases gy (r:=r) ho with e0 | ⟨_,e1⟩
   ·rw [e0];exact ⟨o,by simp [alook]⟩
   ·exact absurd hb e1
  ·have hr:=jO hl hb (ks:=r) (by rcases List.mem_cons.1 h with rfl | h;exact absurd rfl e;exact h)
   cases hq:alook objs q with
   | none=>rw [jS hq];exact hr
   | some u=>
    rcases gy (r:=r) hq with e0 | ⟨e0,_⟩
    ·rw [e0];obtain ⟨o,ho⟩:=hr;exact ⟨o,by simp [alook,gN e,ho]⟩
    ·rw [e0];exact hr
theorem uG {objs:List (Nat×AO)} {k:Nat} (hl:live objs k) (hb:ae<=k):k∈qR objs:=by
 induction objs with
 | nil=>obtain ⟨o,h⟩:=hl;simp [alook] at h
 | cons p r ih=>
  obtain ⟨q,o⟩:=p
  simp only [qR]
  by_cases e:q=k
  ·subst e;rw [Nat.ble_eq_true_of_le hb];simp
  ·obtain ⟨o',ho'⟩:=hl
   simp only [alook,gN e,cond_false] at ho'
   have:=ih ⟨o',ho'⟩
   cases Nat.ble ae q <;> simp [this]
theorem qf {env:List (Nat×AV)} {t:Nat} {v:AV} (h:alook env t=some v):∀k∈v.keys,k∈nX env:=by
 induction env with
 | nil=>simp [alook] at h
 | cons p r ih=>
  obtain ⟨q,u⟩:=p
  intro k hk
  simp only [nX,List.mem_append]
  simp only [alook] at h
  by_cases e:q=t
  ·subst e;simp at h;subst h;exact .inl hk
  ·rw [gN e,cond_false] at h;exact .inr (ih h k hk)
theorem mP {objs:List (Nat×AO)} {t:Nat} {v:AO} (h:alook objs t=some v):∀k∈v.keys,k∈iT objs:=by
 induction objs with
 | nil=>simp [alook] at h
 | cons p r ih=>
  obtain ⟨q,u⟩:=p
  intro k hk
  simp only [iT,List.mem_append]
  simp only [alook] at h
  by_cases e:q=t
  ·subst e;simp at h;subst h;exact .inl hk
  ·rw [gN e,cond_false] at h;exact .inr (ih h k hk)
theorem Rel.reslot (h:Rel B c s a) {t:Nat} {v:AV} (hs:Sees B c s v (a.tmps.getD t undef)) (_:bI s):Rel B c (s.put (some t) v) a:=by
 refine ⟨h.good,h.frame,by rw [St.dB];exact h.objs,λq u hu=>?_,λq u hu k hk'=>?_,λk o b ho=>h.mine k o b (by simpa using ho),h.tmps,h.defers,by rw [St.dB];exact h.kept⟩
 ·rw [St.dh] at hu
  by_cases e:t=q
  ·subst e;simp at hu;subst hu;exact dz.nf hs.plain hs.rep
  ·rw [if_neg e] at hu;exact h.env q u hu
 ·rw [St.dB]
  rw [St.dh] at hu
  by_cases e:t=q
  ·subst e;simp at hu;subst hu;exact hs.live k hk'
  ·rw [if_neg e] at hu;exact h.closed q u hu k hk'
theorem bI.put {s:St} (h:bI s) {t:Nat} {v:AV} (hv:v.bX=false):bI (s.put (some t) v):=by
 intro q u hu
 rw [St.dh] at hu
 by_cases e:t=q
 ·subst e;simp at hu;subst hu;exact hv
 ·rw [if_neg e] at hu;exact h q u hu
theorem l9 (key:Nat) (z:List AV) (sz n:Nat) (get:Nat->List AV):(lx key z sz n get).bX=false/\(lx key z sz n get).keys=[key]/\(lx key z sz n get).one=true:=by
 unfold lx;cases Nat.beq n 0 <;> exact ⟨rfl,rfl,rfl⟩
theorem jI (h:Rel B c s a) {sz n:Nat} {get:Nat->List AV} {X:Value} (hx:Rep c (.sl .fit sz n get) X) {key:Nat} (hk:s.obj key=none) {z:List AV} (hz:0 < lv z sz n) :
  ∃c',(c'.β=c.β/\c'.I=c.I)/\c'.w=c.w/\Rel B c' (s.setObj key (.own (lv z sz n) n)) a/\Sees B c' (s.setObj key (.own (lv z sz n) n)) (lx key z sz n get) X:=by
 have hown:aD c .fit n X:=by cases hx <;> assumption
 by_cases hn:n=0
 ·subst hn
  exact iv (sz:=z.length) (get':=λ_=>z) h hz hx ⟨.inl ⟨rfl,hk⟩,hown⟩ (.inl rfl) (λj hj=>by omega)
 ·have e1:lv z sz n=sz:=by simp [lv,gN hn]
  have e2:lx key z sz n get=.sl (.key key) sz n get:=by simp [lx,gN hn]
  rw [e1,e2]
  rw [e1] at hz
  exact iv (sz:=sz) (get':=get) h hz hx ⟨.inl ⟨rfl,hk⟩,hown⟩ (.inr rfl) (λj hj=>rfl)
theorem eO:∀ {l:List (Nat×Nat×TypeId)} {s s':St} {c:Cx},Rel B c s a->bI s->fh P s l=some s'->∃c',c'.w=c.w/\c'.I=c.I/\Rel B c' s' a/\bI s'
 | [],s,s',c,h,hn,he=>by simp [fh] at he;subst he;exact ⟨c,rfl,rfl,h,hn⟩
 | (t,key,e)::r,s,s',c,h,hn,he=>by
  simp only [fh] at he
  split at he
  ·rename_i sz n get hg
   split at he
   ·rename_i z hk hz
    obtain ⟨hb,he⟩:=au he
    have hE:Rep c (.sl .fit sz n get) (a.tmps.getD t undef):=h.env t _ hg
    obtain ⟨c1,e0,e1,e2,e3⟩:=jI h hE hk (ltB hb)
    have hn1:bI (s.setObj key (.own (lv z sz n) n)):=hn
    obtain ⟨c2,f1,f0,f2,f3⟩:=eO (e2.reslot e3 hn1) (hn1.put (l9 _ _ _ _ _).1) he
    exact ⟨c2,f1.trans e1,f0.trans e0.2,f2,f3⟩
   ·simp at he
  ·exact eO h hn he
theorem mg {cs:List AV} {i:Nat} {v:AV}:∀k∈ak (cs.set i v),k∈v.keys∨k∈ak cs:=by
 induction cs generalizing i with
 | nil=>intro k hk;simp [ak] at hk
 | cons u r ih=>
  intro k hk
  cases i with
  | zero=>
   simp only [List.set_cons_zero,ak,List.mem_append] at hk
   simp only [ak,List.mem_append]
   rcases hk with hk | hk
   ·exact .inl hk
   ·exact .inr (.inr hk)
  | succ i=>
   simp only [List.set_cons_succ,ak,List.mem_append] at hk
   simp only [ak,List.mem_append]
   rcases hk with hk | hk
   ·exact .inr (.inl hk)
   ·rcases ih k hk with h | h
    ·exact .inl h
    ·exact .inr (.inr h)
theorem da:∀ {l:List (Nat×Nat×Nat×TypeId)} {s s':St} {c:Cx},Rel B c s a->bI s->df P s l=some s'->∃c',c'.w=c.w/\c'.I=c.I/\Rel B c' s' a/\bI s'
 | [],s,s',c,h,hn,he=>by simp [df] at he;subst he;exact ⟨c,rfl,rfl,h,hn⟩
 | (ob,off,key,e)::r,s,s',c,h,hn,he=>by
  simp only [df] at he
  split at he
  ·rename_i cs hob
   split at he
   ·rename_i sz n get hg
    split at he
    ·rename_i z hk hz
     obtain ⟨hb,he⟩:=au he
     have hne:key≠ob:=by rintro rfl;rw [hk] at hob;cases hob
     obtain ⟨⟨⟨vs,t,hh,hs,hv⟩,h1⟩,hI,hfr⟩:=h.objs.rep ob _ hob
     obtain ⟨c1,e0,e1,e2,e3⟩:=jI h (hv off _ hg) hk (ltB hb)
     have hob1:alook (aput s.objs key (.own (lv z sz n) n)) ob=some (.cells cs):=by rw [aO,if_neg hne];exact hob
     obtain ⟨⟨⟨vs1,t1,hh1,hs1,hv1⟩,h11⟩,hI1,hfr1⟩:=e2.objs.rep ob _ hob1
     rw [e0.1,e1,hh] at hh1
     simp only [Option.some.injEq,Obj.cells.injEq] at hh1
     obtain ⟨rfl,rfl,_⟩:=hh1
     let s1:St:=s.setObj key (.own (lv z sz n) n)
     have hoff:off < cs.length:=(List.getElem?_eq_some_iff.1 hg).1
     have hget:∀ (i:Nat) (u:AV),(cs.set off (lx key z sz n get))[i]?=some u->(i=off/\u=lx key z sz n get)∨cs[i]?=some u:=by
      intro i u hu
      rw [List.getElem?_set] at hu
      by_cases e:off=i
      ·subst e;simp [hoff] at hu;exact .inl ⟨rfl,hu.symm⟩
      ·rw [if_neg e] at hu;exact .inr hu
     have hrel:Rel B c1 (s1.setObj ob (.cells (cs.set off (lx key z sz n get)))) a:=by
      refine e2.obj (k:=ob) ((Keeps.refl c1 s1.objs).but ob) (Grow.refl e2.good) ⟨⟨⟨vs,t,by rw [e0.1,e1];exact hh,by rw [hs,List.length_set],λi u hu=>?_⟩,λi u hu=>?_⟩,hI1,hfr1⟩
       (λq o' b hq hne' hb' e=>e2.objs.apart q o' ob _ b hq hob1 hne' hb' e) (λq hq=>?_) (λb hb'=>e2.mine ob _ b hob1 hb')
      ·rcases hget i u hu with ⟨rfl,rfl⟩ | hu
       ·exact e3.rep
       ·exact hv1 i u hu
      ·rcases hget i u hu with ⟨rfl,rfl⟩ | hu
       ·exact (l9 _ _ _ _ _).2.2
       ·exact h1 i u hu
      ·simp only [AO.keys] at hq
       rcases mg q hq with hq | hq
       ·exact .inr (e3.live q hq)
       ·exact .inr (e2.objs.closed ob _ hob1 q (by simpa [AO.keys] using hq))
     obtain ⟨c2,f1,f0,f2,f3⟩:=da hrel hn he
     exact ⟨c2,f1.trans e1,f0.trans e0.2,f2,f3⟩
    ·simp at he
   ·exact da h hn he
  ·exact da h hn he
theorem j5 (h:Rel B c s a) (hn:bI s) (hK:∀k,B.K k->ae<=k) {hint:Hint} {s':St} (he:jb P hint s=some s'):∃c',c'.w=c.w/\c'.I=c.I/\Rel B c' s' a/\bI s':=by
 unfold jb at he
 dsimp only at he
 obtain ⟨hb,he⟩:=bc he
 simp only [Bool.and_eq_true] at hb
 obtain ⟨s2,h1,he⟩:=ag he
 have hr:Rel B c {env:=ic s.env hint.keep,objs:=b9 s.objs (hint.objs++qR s.objs)} a:=by
  refine h.less (λk hk=>jO (h.kept k hk) (hK k hk) (List.mem_append_right _ (uG (h.kept k hk) (hK k hk)))) (λt v hv=>fg hv) (λk o ho=>eC ho)
   (λt v hv k hk=>j1 (bS hb.1 k (qf hv k hk))) (λk o ho q hq=>j1 (bS hb.2 q (mP ho q hq)))
 have hn1:bI {env:=ic s.env hint.keep,objs:=b9 s.objs (hint.objs++qR s.objs)}:=λt v hv=>hn t v (fg hv)
 obtain ⟨c1,e1,e0,e2,e3⟩:=eO hr hn1 h1
 obtain ⟨c2,f1,f0,f2,f3⟩:=da e2 e3 he
 exact ⟨c2,f1.trans e1,f0.trans e0,f2,f3⟩
theorem iu (h:Rel B c s a) (hn:bI s) (hK:∀k,B.K k->ae<=k) {hint:Hint} {s':St} (he:jb P hint s=some s'):∃c',c'.w=c.w/\Rel B c' s' a/\bI s':=
 let ⟨c',e,_,h',hn'⟩:=j5 h hn hK he
 ⟨c',e,h',hn'⟩
end Go.Ab

namespace Go.Ab
open Go Go.RowKit
variable {B:Base} {c:Cx} {s:St} {a:Act} {X:Cfg}
def rf (l:Option Nat):Fence:={Fence.wide with round:=l}
theorem sx {P:Program} {l:Option Nat} {m m':Machine}:StepsIn (Machine.fenced P (rf l)) P m m'↔Steps P m m':=stepsIn_wide
theorem tj {l:Option Nat} {n:Nat} {P:Program} {f:FuncId} {args:Array Value} {w:World} {R:Ending->World->Prop} (h:Calls P f args w R):CallsIn (rf l) n P f args w R:=callsIn_wide.2 h
theorem ug {l:Option Nat} {n:Nat} {P:Program} {row:String} {args:Array Value} {w:World} {R:Value->World->Prop} (h:Rows P row args w R):RowsIn (rf l) n P row args w R:=
 λc cs _=>let ⟨v,w',r,s⟩:=h c cs;⟨v,w',r,sx.2 s⟩
section
variable {P:Program} {ops:Array Oper} {Q:Exit->Act->World->Prop} {l:Option Nat} {n:Nat}
theorem xU {o:Oper} {a:Act} {w:World} {K:Act->World->Prop} (hd:∀c,o.op≠.defer c) (h:o.wp P a w K Q):o.wpIn (rf l) n P a w K Q:=by
 refine ⟨λ_ _=>trivial,?_⟩
 rw [Oper.semAt_eq _ _ _ hd]
 unfold Oper.wp at h
 generalize (execOp a.eval o).run P w=r at *
 have hdep:(rf l).depth.isSome=true->1<=n:=λh=>by simp [rf,Fence.wide] at h
 cases r with
 | ok x w'=>
  cases x <;> simp only [Oper.upon,Oper.uponIn] at h ⊢ <;> first
   | exact h
   | exact ⟨hdep,tj h⟩
   | exact ⟨hdep,ug h⟩
   | exact h.elim
 | halt x w'=>cases x <;> simp only [Oper.upon,Oper.uponIn] at h ⊢ <;> first | exact h | exact h.elim
def nJ:List Oper->Bool
 | []=>true
 | o::r=>(match o.op with | .defer _=>false | _=>true)&&nJ r
theorem gW:∀ {l:List Oper},nJ l=true->∀o∈l,∀c,o.op≠.defer c
 | [],_,o,h,_=>by cases h
 | x::r,h,o,ho,c=>by
  simp only [nJ,Bool.and_eq_true] at h
  rcases List.mem_cons.1 ho with rfl | ho
  ·intro e;rw [e] at h;cases h.1
  ·exact gW h.2 o ho c
theorem tD (hd:∀o∈ops.toList,∀c,o.op≠.defer c) (hQ:¬ LetsOut Q) {i:Nat} {K:Act->World->Prop} {a:Act} {w:World} (h:wpOp P ops Q i K a w):wpOpIn (rf l) n P ops Q i K a w:=by
 unfold wpOp at h
 unfold wpOpIn
 split
 ·rename_i ho;simp only [ho] at h;exact h
 ·rename_i o ho
  simp only [ho] at h
  have hmem:o∈ops.toList:=by
   obtain ⟨hlt,e⟩:=Array.getElem?_eq_some_iff.1 ho
   subst e;simp
  split
  ·rename_i hw
   rw [if_pos hw] at h
   rcases h with h | h
   ·exact xU (hd o hmem) h
   ·exact absurd h.2 hQ
  ·rename_i hw
   rw [if_neg hw] at h
   exact ⟨λ_ _=>trivial,h⟩
theorem qZ (hd:∀o∈ops.toList,∀c,o.op≠.defer c) (hQ:¬ LetsOut Q):∀ (is:List Nat) (a:Act) (w:World),wpOps P ops Q is a w->wpOpsIn (rf l) n P ops Q is a w
 | [],_,_,h=>h
 | i::r,a,w,h=>by
  rw [wpOps_cons] at h
  rw [wpOpsIn_cons]
  exact wpOpIn_mono (λa w=>qZ hd hQ r a w) (tD hd hQ h)
theorem ra (hd:∀o∈ops.toList,∀c,o.op≠.defer c) (hQ:¬ LetsOut Q) {md:Region.Mode}:∀ (fuel:Nat) (listed:Array Bool) (a:Act) (w:World),wpAny P md ops Q fuel listed a w->wpAnyIn (rf l) n P md ops Q fuel listed a w
 | 0,_,_,_,h=>h
 | fuel+1,listed,a,w,h=>⟨h.1,λi hi=>wpOpIn_mono (λa w=>ra hd hQ fuel _ a w) (tD hd hQ (h.2 i hi))⟩
end
def mL (X:Cfg):Code->St->(Ex->St->Res)->Res
 | .skip,s,k=>k .nor s
 | .region _ ops draw,s,k=>cond (nJ ops.toList) (cond draw (fB X ops s (k .nor)) (eG X ops s (k .nor))) none
 | .seq a b,s,k=>mL X a s λe s'=>match e with
  | .nor=>mL X b s' k
  | e=>k e s'
 | .cond c a b,s,k=>(match aI ⟨s,X.G,[]⟩ c with
  | some (.bool t)=>cond t (mL X a s k) (mL X b s k)
  | _=>none)
 | .block id b,s,k=>mL X b s λe s'=>match e with
  | .exit id'=>cond (Nat.beq id' id) (k .nor s') (k e s')
  | e=>k e s'
 | .exit id,s,k=>k (.exit id) s
 | .ret,s,k=>k .ret s
 | .label _,s,k=>k .nor s
 | _,_,_=>none
def Ex.toE:Ex->Exit
 | .nor=>.normal
 | .exit id=>.exit id
 | .ret=>.ret
theorem ek (hX:cj X) (hG:X.G=B.G) (hm:X.P.follows .mixedOrders=true) {l:Option Nat} {n:Nat}:∀ (code:Code),codeOk B.N code=true->∀ (s:St) (c:Cx) (a:Act) (k:Ex->St->Res) (r:AV×List AO) (Q:Exit->Act->World->Prop),mL X code s k=some r->Rel B c s a->bI s->¬ LetsOut Q->
  (∀ex s' c' a',k ex s'=some r->Rel B c' s' a'->bI s'->Q ex.toE a' c'.w)->code.wpIn (rf l) n X.P Q a c.w
 | .skip,_,s,c,a,k,r,Q,he,hr,hn,hQ,hk=>wpIn_skip (hk .nor s c a he hr hn)
 | .region id ops draw,hN,s,c,a,k,r,Q,he,hr,hn,hQ,hk=>by
  have hN':∀o∈ops.toList,∀d,o.dst=some d->d < B.N:=by
   intro o ho d hd
   simp only [codeOk] at hN
   have:=List.all_eq_true.1 hN o ho
   simp only [hd] at this
   exact ltB this
  simp only [mL] at he
  obtain ⟨hd,he⟩:=bc he
  cases draw with
  | true=>exact wpIn_region_any hm (ra (gW hd) hQ _ _ _ _ (kS hX hG he hr hn hN' λs' c' a' e1 e2 e3=>hk .nor s' c' a' e1 e2 e3))
  | false=>exact wpIn_region (qZ (gW hd) hQ _ _ _ (jF hX hG he hr hn hN' λs' c' a' e1 e2 e3=>hk .nor s' c' a' e1 e2 e3))
 | .seq x y,hN,s,c,a,k,r,Q,he,hr,hn,hQ,hk=>by
  simp only [codeOk,Bool.and_eq_true] at hN
  simp only [mL] at he
  refine wpIn_seq (ek hX hG hm x hN.1 s c a _ r _ he hr hn hQ λex s' c' a' hex hr' hn'=>?_)
  cases ex with
  | nor=>exact ek hX hG hm y hN.2 s' c' a' k r Q hex hr' hn' hQ hk
  | exit id=>exact hk _ s' c' a' hex hr' hn'
  | ret=>exact hk _ s' c' a' hex hr' hn'
 | .cond q x y,hN,s,c,a,k,r,Q,he,hr,hn,hQ,hk=>by
  simp only [codeOk,Bool.and_eq_true] at hN
  simp only [mL] at he
  split at he
  ·rename_i t ht
   rw [hG] at ht
   have hs:=(av hr (ch:=[]) (λt w hm=>by simp at hm) ht).rep
   have hq:a.eval q=.bool t:=by generalize a.eval q=V at hs;cases hs;rfl
   cases t with
   | true=>exact wpIn_cond hq (ek hX hG hm x hN.1 s c a k r Q he hr hn hQ hk)
   | false=>exact wpIn_cond hq (ek hX hG hm y hN.2 s c a k r Q he hr hn hQ hk)
  ·simp at he
 | .block id b,hN,s,c,a,k,r,Q,he,hr,hn,hQ,hk=>by
  simp only [codeOk] at hN
  simp only [mL] at he
  refine wpIn_block (ek hX hG hm b hN s c a _ r _ he hr hn hQ λex s' c' a' hex hr' hn'=>?_)
  cases ex with
  | nor=>exact hk _ s' c' a' hex hr' hn'
  | exit id'=>
   simp only [Ex.toE,Exit.inBlock]
   by_cases e:id'=id
   ·subst e
    simp only [Nat.beq_refl,cond_true] at hex
    rw [if_pos rfl];exact hk .nor s' c' a' hex hr' hn'
   ·simp only [gN e,cond_false] at hex
    rw [if_neg e];exact hk (.exit id') s' c' a' hex hr' hn'
  | ret=>exact hk _ s' c' a' hex hr' hn'
 | .loop b,_,s,c,a,k,r,Q,he,hr,hn,hQ,hk=>by simp [mL] at he
 | .exit id,_,s,c,a,k,r,Q,he,hr,hn,hQ,hk=>wpIn_exit (hk (.exit id) s c a he hr hn)
 | .ret,_,s,c,a,k,r,Q,he,hr,hn,hQ,hk=>wpIn_ret (hk .ret s c a he hr hn)
 | .goto _,_,s,c,a,k,r,Q,he,hr,hn,hQ,hk=>by simp [mL] at he
 | .label _,_,s,c,a,k,r,Q,he,hr,hn,hQ,hk=>wpIn_label (hk .nor s c a he hr hn)
 | .scope b,_,s,c,a,k,r,Q,he,hr,hn,hQ,hk=>by simp [mL] at he
 | .rangeFunc ..,_,s,c,a,k,r,Q,he,hr,hn,hQ,hk=>by simp [mL] at he
 | .refuse _,_,s,c,a,k,r,Q,he,hr,hn,hQ,hk=>by simp [mL] at he
end Go.Ab

namespace Go.Ab
open Go Go.RowKit
variable {B:Base} {c:Cx} {s:St} {a:Act}
def mV:Obj->Bool
 | .loop _=>true
 | .deferred _=>true
 | _=>false
theorem uB {o:Obj} (h:mV o=true):e8 o=false:=by cases o <;> simp_all [mV,e8]
theorem vj {k:Nat} {o:AO} {b:Nat} (h:cW c k o) (hb:excl c k o=some b):∃ob,c.w.heap[b]?=some ob/\mV ob=false:=by
 cases o with
 | cells cs=>obtain ⟨⟨⟨vs,t,hh,_⟩,_⟩,_⟩:=h;simp [excl] at hb;subst hb;exact ⟨_,hh,rfl⟩
 | arr sz n get=>obtain ⟨⟨⟨vs,t,hh,_⟩,_⟩,_⟩:=h;simp [excl] at hb;subst hb;exact ⟨_,hh,rfl⟩
 | frz sz n get=>obtain ⟨⟨⟨vs,t,hh,_⟩,_⟩,_⟩:=h;simp [excl] at hb;subst hb;exact ⟨_,hh,rfl⟩
 | own sz n=>
  obtain ⟨_,_,hm⟩:=h
  cases hc:c.κ k with
  | none=>simp [excl,hc] at hb
  | some p=>
   obtain ⟨a,cap⟩:=p
   simp [excl,hc] at hb
   simp only [hc] at hm
   obtain ⟨⟨vs,t,hh,_⟩,_⟩:=hm.2.2 hb.1
   rw [<-hb.2];exact ⟨_,hh,rfl⟩
 | grw sq sz n get=>
  obtain ⟨_,_,hm⟩:=h
  cases hc:c.κ k with
  | none=>simp [excl,hc] at hb
  | some p=>
   obtain ⟨a,cap⟩:=p
   simp [excl,hc] at hb
   simp only [hc] at hm
   obtain ⟨⟨vs,t,hh,_⟩,_⟩:=hm.2 hb.1
   rw [<-hb.2];exact ⟨_,hh,rfl⟩
 | iter s p=>obtain ⟨hh,_⟩:=h;simp [excl] at hb;subst hb;exact ⟨_,hh,rfl⟩
 | mp ka ks dom get=>obtain ⟨⟨⟨es,clock,ms,hh,_⟩,_⟩,_⟩:=h;simp [excl] at hb;subst hb;exact ⟨_,hh,rfl⟩
 | gone=>simp [excl] at hb
theorem nW {L:Nat} {ob:Obj} (hL:c.w.heap[L]?=some ob) (ho:mV ob=true) {k:Nat} {o:AO} {b:Nat} (h:cW c k o) (hb:excl c k o=some b):b≠L:=by
 rintro rfl
 obtain ⟨ob',h1,h2⟩:=vj h hb
 rw [hL] at h1;cases h1;rw [ho] at h2;cases h2
theorem w9 {w:World} {L o:Nat} {ob:Obj} (hL:w.heap[L]?=some ob) (ho:mV ob=true):w.cell? ⟨L,o,none⟩=none:=by
 unfold World.cell?
 simp only [hL]
 cases ob <;> simp_all [mV]
def Cx.odd (c:Cx) (L:Nat) (ob:Obj):Cx:={c with w:=c.w.putObj L ob}
theorem Rel.odd (h:Rel B c s a) {L:Nat} {ob:Obj} (ob':Obj) (hL:c.w.heap[L]?=some ob) (ho:mV ob=true) (hI:∀o,¬ c.I L o) (hB:B.c0.w.heap.size<=L):Rel B (c.odd L ob') s a/\∀ks,Ext c (c.odd L ob') ks:=by
 have hne:∀ {b o},c.I b o->b≠L:=λhi e=>hI _ (e ▸ hi)
 have hext:∀ks,Ext c (c.odd L ob') ks:=λks=>⟨λb o v hi hv=>by show (c.w.putObj L ob').cell? _=_;rw [World.bj (World.putObj_heap_other (hne hi))];exact hv,λ_ _ hi=>hi,λ_ _=>rfl,λ_ _ _ _ hr=>hr,
  λb o ob hi he _=>(World.putObj_heap_other (hne hi)).trans he⟩
 refine ⟨h.keep ⟨hext _,λ_ _=>rfl,λ_ _=>rfl,λ_ _=>rfl,λq o b hq hb=>⟨World.putObj_heap_other (nW hL ho (h.objs.rep q o hq) hb),λ_ hi=>hi⟩⟩
  ⟨rfl,rfl,rfl,by simp [Cx.odd],λb hb _=>World.putObj_heap_other (by omega),λ_ _ _ _ hi=>hi,λb o hi=>h.good.block hi (World.putObj_heap_other (hne hi))⟩,hext⟩
def Cx.lay (c:Cx) (ob:Obj) (m:Bool):Cx:={c with w:=c.w.alloc ob,I:=λb o=>c.I b o∨(m=true/\b=c.w.heap.size/\o=0)}
theorem Rel.lay (h:Rel B c s a) (ob:Obj) (m:Bool) (ho:mV ob=true):Rel B (c.lay ob m) s a:=by
 have hlt:∀ {b o},c.I b o->(c.w.alloc ob).heap[b]?=c.w.heap[b]?:=λhi=>aA _ _ _ (h.good.lt hi)
 refine h.keep ⟨jZ h.good rfl (λ_ _ hi=>.inl hi) (λ_ _=>rfl) (λ_ _=>rfl) (λ_ _=>rfl),λ_ _=>rfl,λ_ _=>rfl,λ_ _=>rfl,λq o b hq hb=>?_⟩
  ⟨rfl,rfl,rfl,by simp [Cx.lay],λb hb _=>aA _ _ _ (Nat.lt_of_lt_of_le hb h.frame.size),λb o hb _ hi=>?_,λb o hi=>?_⟩
 ·have hb':=cf (h.objs.rep q o hq) hb
  refine ⟨aA _ _ _ hb',λoff hi=>?_⟩
  rcases hi with hi | ⟨_,rfl,_⟩
  ·exact hi
  ·omega
 ·rcases hi with hi | ⟨_,rfl,_⟩
  ·exact hi
  ·have:=h.frame.size;omega
 ·rcases hi with hi | ⟨_,rfl,_⟩
  ·exact h.good.block hi (hlt hi)
  ·exact .inr ⟨ob,aP _ _,uB ho⟩
theorem Defs.lt:∀ {l:List Deferred},Defs B c l->∀d∈l,∀D,d.target=.collected D->D < c.w.heap.size
 | [],_,d,hd,_,_=>by cases hd
 | x::r,h,d,hd,D,e=>by
  obtain ⟨⟨D',h1,h2,h3,h4,h5⟩,h6⟩:=h
  rcases List.mem_cons.1 hd with rfl | hd
  ·rw [h1] at e;cases e;exact aJ h4
  ·exact Defs.lt h6 d hd D e
def Base.at (B:Base) (c:Cx) (s:St):Base:={c0:=c,D:=held c s.objs,K:=live s.objs,G:=B.G,N:=B.N,low:=B.low}
theorem Defs.low {B':Base} (hl:B'.low=B.low):∀ {l:List Deferred},Defs B c l->Defs B' c l
 | [],_=>trivial
 | _::_,⟨⟨D,h1,h2,h3⟩,h6⟩=>⟨⟨D,h1,by rw [hl];exact h2,h3⟩,Defs.low hl h6⟩
theorem Rel.rebase (h:Rel B c s a):Rel (B.at c s) c s a:=
 ⟨h.good,⟨rfl,rfl,rfl,Nat.le_refl _,λ_ _ _=>rfl,Ext.refl _ _,λ_ _ _ _ hi=>hi⟩,h.objs,h.env,h.closed,λk o b ho hb=>.inr ⟨k,o,ho,hb⟩,h.tmps,Defs.low (B:=B) (B':=B.at c s) rfl h.defers,λ_ hk=>hk⟩
theorem Defs.none (hl:B.low=none):∀ {l:List Deferred},Defs B c l->l=[]
 | [],_=>rfl
 | _::_,⟨⟨D,h1,⟨m,h2,_⟩,_⟩,_⟩=>by rw [hl] at h2;cases h2
theorem Rel.unheld (h:Rel B c s a) {b:Nat} (hb:b < B.c0.w.heap.size) (hd:¬ B.D b):¬ held c s.objs b:=by
 rintro ⟨k,o,ho,hb'⟩
 rcases h.mine k o b ho hb' with h1 | h1
 ·omega
 ·exact hd h1
theorem Rel.unbase {c':Cx} {s':St} {a a':Act} (h:Rel B c s a) (h':Rel (B.at c s) c' s' a'):Rel B c' s' a':=by
 have hsz:B.c0.w.heap.size<=(B.at c s).c0.w.heap.size:=h.frame.size
 refine ⟨h'.good,⟨h'.frame.os.trans h.frame.os,h'.frame.output.trans h.frame.output,h'.frame.tape.trans h.frame.tape,Nat.le_trans h.frame.size h'.frame.size,
  λb hb hd=>(h'.frame.block b (Nat.lt_of_lt_of_le hb hsz) (h.unheld hb hd)).trans (h.frame.block b hb hd),h.frame.ext.trans (h'.frame.ext.sub λk hk=>h.kept k hk),
  λb o hb hd hi=>h.frame.new b o hb hd (h'.frame.new b o (Nat.lt_of_lt_of_le hb hsz) (h.unheld hb hd) hi)⟩,h'.objs,h'.env,h'.closed,λk o b ho hb=>?_,h'.tmps,Defs.low (B:=B.at c s) (B':=B) rfl h'.defers,λk hk=>h'.kept k (h.kept k hk)⟩
 rcases h'.mine k o b ho hb with h1 | ⟨q,o',h1,h2⟩
 ·exact .inl (Nat.le_trans hsz h1)
 ·exact h.mine q o' b h1 h2
theorem Rel.back {c2:Cx} {s2:St} {a2:Act} (h:Rel B c s a) (h2:Rel B c2 s2 a2) (e:Ext c c2 (live s.objs)) (hl:∀k,live s.objs k->live s2.objs k):Rel B c2 {env:=s.env,objs:=s2.objs} a:=
 ⟨h2.good,h2.frame,h2.objs,λt v hv=>(h.env t v hv).ext e (h.closed t v hv),λt v hv k hk=>hl k (h.closed t v hv k hk),h2.mine,h.tmps,h.defers.ext e,λk hk=>hl k (h.kept k hk)⟩
theorem dz.pw {c c':Cx} {a:Act} {t:Nat} {v:AV} {ks:Nat->Prop} (h:dz c a t v) (e:ExtR c c' ks) (hk:∀k∈v.keys,ks k):dz c' a t v:=by
 cases v with
 | grd tc w v=>exact ⟨λhw=>(h.1 hw).pw e (by simpa [AV.keys] using hk),h.2⟩
 | _=>exact Rep.pw h e hk
def Cx.shut (c:Cx) (D:Nat):Cx:={c with w:=c.w.putObj D (.deferred none),I:=λb o=>c.I b o/\b≠D}
theorem Defs.shut {D:Nat}:∀ {l:List Deferred},Defs B c l->(∀d∈l,d.target≠.collected D)->Defs B (c.shut D) l
 | [],_,_=>trivial
 | x::r,⟨⟨D',h1,h2,h3,h4,h5⟩,h6⟩,hn=>by
  have hne:D'≠D:=λe=>hn x (by simp) (by rw [h1,e])
  exact ⟨⟨D',h1,h2,⟨h3,hne⟩,(World.putObj_heap_other hne).trans h4,h5⟩,Defs.shut h6 λd hd=>hn d (List.mem_cons_of_mem _ hd)⟩
theorem Rel.BL (hg0:Good B.G B.c0) {D:Nat} {ob:Obj} {r:List Deferred} (h:Rel B c s a) (hD:c.w.heap[D]?=some ob) (ho:mV ob=true) (hB:B.c0.w.heap.size<=D) (hr:Defs B (c.shut D) r):Rel B (c.shut D) s {a with defers:=r}:=by
 have hoth:∀ {b},b≠D->(c.shut D).w.heap[b]?=c.w.heap[b]?:=λhne=>World.putObj_heap_other hne
 have hcell:∀ {b o v},c.w.cell? ⟨b,o,none⟩=some v->b≠D:=by
  rintro b o v hv rfl;rw [w9 hD ho] at hv;cases hv
 have hmap:∀ {b es cl},c.w.heap[b]?=some (.map es cl)->b≠D:=by
  rintro b es cl hv rfl;rw [hD] at hv;cases hv;cases ho
 have hext:∀ks,ExtR c (c.shut D) ks:=λks=>⟨λb o v hi hv=>⟨by rw [World.bj (hoth (hcell hv))];exact hv,hi,hcell hv⟩,λ_ _=>rfl,λ_ _ _ _ hr=>hr,λb o es cl hi he=>⟨(hoth (hmap he)).trans he,hi,hmap he⟩⟩
 have hne:∀ {q o b},alook s.objs q=some o->excl c q o=some b->b≠D:=λhq hb=>nW hD ho (h.objs.rep _ _ hq) hb
 refine ⟨⟨λb o hi=>h.good.block hi.1 (hoth hi.2),λg cs hg=>(h.good.globs g cs hg).pw (hext λ_=>False) (by simp [AV.keys])⟩,
  ⟨h.frame.os,h.frame.output,h.frame.tape,by simpa [Cx.shut] using h.frame.size,λb hb hd=>(hoth (by omega)).trans (h.frame.block b hb hd),⟨λb o v hi hv=>?_,λb o hi=>⟨h.frame.ext.I b o hi,?_⟩,h.frame.ext.β,h.frame.ext.own,λb o ob hi he hc=>?_⟩,λb o hb hd hi=>h.frame.new b o hb hd hi.1⟩,
  ⟨λq o hq=>h.objs.l4 (p:=λ_=>True) ⟨hext _,λ_ _ _=>rfl,λ_ _ _=>rfl,λ_ _ _=>rfl,λq' o' b hq' _ hb=>⟨hoth (hne hq' hb),λ_ hi=>hi.1⟩⟩ hq trivial,h.objs.apart,h.objs.closed⟩,
  λt v hv=>(h.env t v hv).pw (hext _) (h.closed t v hv),h.closed,h.mine,h.tmps,hr,h.kept⟩
 ·have h1:=dr hv
  rw [World.bj (hoth (by omega))];exact h.frame.ext.cell b o v hi hv
 ·have h1:=hg0.lt hi
  omega
 ·have h1:=aJ he
  exact (hoth (by omega)).trans (h.frame.ext.map b o ob hi he hc)
theorem Rel.shut (hg0:Good B.G B.c0) (hlow:B.low=some B.c0.w.heap.size):∀ (l:List Deferred) (c:Cx) (a:Act),a.defers=l->Rel B c s a->∃c',Rel B c' s {a with defers:=[]} /\
  ∀ (F:Fence) (n:Nat) (P:Program) (fn:Func) (tmps:Array Value) (R:Ending->World->Prop),(∃v,(results fn tmps).run P c'.w=.ok v c'.w/\R (.returned v) c'.w)->LeavesInM F n P fn tmps R l .returning c.w
 | [],c,a,e,h=>⟨c,by rw [<-e];exact h,λF n P fn tmps R hR=>hR⟩
 | d::r,c,a,e,h=>by
  have hd:=h.defers
  rw [e] at hd
  obtain ⟨⟨D,h1,h2,h3,h4,h5⟩,h6⟩:=hd
  obtain ⟨m,e1,e2⟩:=h2
  rw [hlow] at e1
  cases e1
  have h':=h.BL (r:=r) hg0 h4 rfl e2 (h6.shut h5)
  obtain ⟨c',g1,g2⟩:=Rel.shut hg0 hlow r (c.shut D) {a with defers:=r} rfl h'
  exact ⟨c',g1,λF n P fn tmps R hR=>⟨by simp,.inl ⟨D,_,by rw [h1],run_takeDeferred h4,g2 F n P fn tmps R hR⟩⟩⟩
theorem jt {P:Program} {f:FuncId} {fn:Func} {code:Code} {args:Array Value} {w:World} {R:Ending->World->Prop} (hf:P.funcs[f]?=some fn) (hb:fn.body=some code)
  (h:code.wp P (bodyPostM Fence.wide 0 P fn R) {tmps:=args++Array.replicate (fn.ntmps - args.size) undef,defers:=[]} w):Calls P f args w R:=
 callsIn_wide.1 (callsIn_of_wp_marks hf hb trivial (wpIn_wide.2 h))
end Go.Ab

namespace Go.Ab
open Go Go.RowKit
variable {B:Base} {c:Cx} {s:St} {a:Act} {X:Cfg}
def Ex.to:Ex->Exit
 | .nor=>.normal
 | .exit id=>.exit id
 | .ret=>.ret
def j7 (P:Program) (c:Code) (Q:Exit->Act->World->Prop) (a:Act) (w:World):Prop:=
 ∀ (b:Go.Frame) (k:List Item) (cs:List Go.Frame),∃e a' w',Q e a' w'/\Arrives P (lone (b.at a (.code c::.inLoop c::k)) cs w) b k cs e a' w'
theorem j7.unroll {P:Program} {c:Code} {Q:Exit->Act->World->Prop} {a:Act} {w:World} (h:c.wp P (Exit.then (j7 P c Q) Q) a w):j7 P c Q a w:=by
 intro b k cs
 obtain ⟨e,a₁,w₁,hq,harr⟩:=h b (.inLoop c::k) cs
 cases e with
 | normal=>
  obtain ⟨e₂,a₂,w₂,hq₂,harr₂⟩:=hq b k cs
  exact ⟨e₂,a₂,w₂,hq₂,.of_steps (Steps.trans harr (.one step_inLoop)) harr₂⟩
 | exit id=>exact ⟨_,a₁,w₁,hq,.pass (x:=.inLoop c) rfl (λ_ _=>.inl (by simp)) harr⟩
 | goto l=>exact ⟨_,a₁,w₁,hq,.pass (x:=.inLoop c) rfl (λ_ _=>.inl (by simp)) harr⟩
 | ret=>exact ⟨_,a₁,w₁,hq,.pass (x:=.inLoop c) rfl (λ_ _=>.inl (by simp)) harr⟩
 | panic ch=>exact ⟨_,a₁,w₁,hq,.pass (x:=.inLoop c) rfl (λ_ _=>.inl (by simp)) harr⟩
 | outgrown=>exact ⟨_,a₁,w₁,hq,.pass (x:=.inLoop c) rfl (λ_ _=>.inl (by simp)) harr⟩
theorem j7.wp {P:Program} {c:Code} {Q:Exit->Act->World->Prop} {a:Act} {w:World} (h:j7 P c Q a w):(Code.loop c).wp P Q a w:=λb k cs=>
 let ⟨e,a',w',q,r⟩:=h b k cs;⟨e,a',w',q,.of_steps (.one step_loop) r⟩
def Sound (X:Cfg) (B:Base) (code:Code) (run:St->(Ex->St->Res)->Res):Prop:=
 ∀ (s:St) (c:Cx) (a:Act) (k:Ex->St->Res) (r:AV×List AO) (Q:Exit->Act->World->Prop),run s k=some r->Rel B c s a->bI s->
  (∀ex s' c' a',k ex s'=some r->Rel B c' s' a'->bI s'->Q ex.to a' c'.w)->code.wp X.P Q a c.w
theorem jk {body:Code} {run:St->(Ex->St->Res)->Res} (hb:Sound X B body run) (hK:∀k,B.K k->ae<=k) {h:Hint}:∀ (n:Nat) (s:St) (c:Cx) (a:Act) (k:Ex->St->Res) (r:AV×List AO) (Q:Exit->Act->World->Prop),
  mS X.P run h n s k=some r->Rel B c s a->bI s->(∀ex s' c' a',k ex s'=some r->Rel B c' s' a'->bI s'->Q ex.to a' c'.w)->j7 X.P body Q a c.w
 | 0,s,c,a,k,r,Q,he,_,_,_=>by simp [mS] at he
 | n+1,s,c,a,k,r,Q,he,hr,hn,hk=>by
  simp only [mS] at he
  obtain ⟨s1,h1,he⟩:=ag he
  obtain ⟨c1,e1,e2,e3⟩:=iu hr hn hK h1
  apply j7.unroll
  rw [<-e1]
  refine hb s1 c1 a _ r _ he e2 e3 λex s' c' a' hex hr' hn'=>?_
  cases ex with
  | nor=>exact jk hb hK n s' c' a' k r Q hex hr' hn' hk
  | exit id=>exact hk _ s' c' a' hex hr' hn'
  | ret=>exact hk _ s' c' a' hex hr' hn'
theorem bf:∀ (c:Code) (p:List Nat) (i:Nat),dw c (p++[i])=dw (dw c p) [i]
 | c,[],i=>by simp [dw]
 | .seq a b,0::r,i=>by simp only [List.cons_append,dw];exact bf a r i
 | .seq a b,(j+1)::r,i=>by simp only [List.cons_append,dw];exact bf b r i
 | .cond q a b,0::r,i=>by simp only [List.cons_append,dw];exact bf a r i
 | .cond q a b,(j+1)::r,i=>by simp only [List.cons_append,dw];exact bf b r i
 | .block id b,j::r,i=>by simp only [List.cons_append,dw];exact bf b r i
 | .loop b,j::r,i=>by simp only [List.cons_append,dw];exact bf b r i
 | .scope b,j::r,i=>by simp only [List.cons_append,dw];exact bf b r i
 | .skip,_::_,i | .region ..,_::_,i | .exit _,_::_,i | .ret,_::_,i | .goto _,_::_,i | .label _,_::_,i | .rangeFunc ..,_::_,i | .refuse _,_::_,i=>by simp [dw]
theorem je {P:Program} (h:Rel B c s a) (hn:bI s) (hK:∀k,B.K k->ae<=k) {hint:Option Hint} {s':St} (he:tN P hint s=some s'):∃c',c'.w=c.w/\Rel B c' s' a/\bI s':=by
 cases hint with
 | none=>
  simp only [tN,Option.some.injEq] at he
  subst he
  exact ⟨c,rfl,h,hn⟩
 | some _=>exact iu h hn hK he
def qm (X:Cfg) (f:FuncId) (n m:Nat) (c:Code) (p:List Nat) (s:St) (k:Ex->St->Res):Res:=
 match c with
 | .loop b=>fN X f n b (p++[0]) s λe s'=>match e with
  | .nor=>mS X.P (fN X f n b (p++[0])) (X.hint f (kl b)) m s' k
  | e=>k e s'
 | _=>none
def qX (X:Cfg) (f:FuncId) (p:List Nat) (g:St->(Ex->St->Res)->Res):Prop:=
 ∀ (B:Base) (s:St) (c:Cx) (a:Act) (k:Ex->St->Res) (r:AV×List AO) (Q:Exit->Act->World->Prop),X.G=B.G->(∀k,B.K k->ae<=k)->B.low=some B.c0.w.heap.size->codeOk B.N (dw (bA X.P f) p)=true->g s k=some r->Rel B c s a->bI s->
  (∀ex s' c' a',k ex s'=some r->Rel B c' s' a'->bI s'->Q ex.to a' c'.w)->(dw (bA X.P f) p).wp X.P Q a c.w
structure OracOk (X:Cfg) (f:FuncId):Prop where
 cut:∀p g,X.cutO f p=some g->∀s k r,g s k=some r->∃n,fN X f n (dw (bA X.P f) p) p s k=some r
 view:∀p g,X.viewO f p=some g->∀s k r,g s k=some r->∃s',k s'=some r/\∀ (B:Base) (c:Cx) (a:Act),Rel B c s a->bI s->∃c',c'.w=c.w/\Rel B c' s' a/\bI s'
 loop:∀p g,X.loopO f p=some g->∀s k r,g s k=some r->∃n m,qm X f n m (dw (bA X.P f) p) p s k=some r
 rng:∀p g,X.rngO f p=some g->qX X f p g
theorem cG (hX:cj X) (hG:X.G=B.G) (hm:X.P.follows .mixedOrders=true) (hK:∀k,B.K k->ae<=k) (hlow:B.low=some B.c0.w.heap.size) (f:FuncId) (hO:OracOk X f):∀ (code:Code) (p:List Nat),dw (bA X.P f) p=code->codeOk B.N code=true->∀n,Sound X B code (fN X f n code p)
 | .skip,_,_,_,n=>λs c a k r Q he hr hn hk=>wp_skip (hk .nor s c a he hr hn)
 | .region id ops draw,p,_,hN,n=>λs c a k r Q he hr hn hk=>by
  have hN':∀o∈ops.toList,∀d,o.dst=some d->d < B.N:=by
   intro o ho d hd
   simp only [codeOk] at hN
   have:=List.all_eq_true.1 hN o ho
   simp only [hd] at this
   exact ltB this
  simp only [fN] at he
  cases draw with
  | true=>exact mN hX hG hm he hr hn hN' λs' c' a' e1 e2 e3=>hk .nor s' c' a' e1 e2 e3
  | false=>exact lX hX hG he hr hn hN' λs' c' a' e1 e2 e3=>hk .nor s' c' a' e1 e2 e3
 | .seq x y,p,hp,hN,n=>λs c a k r Q he hr hn hk=>by
  simp only [codeOk,Bool.and_eq_true] at hN
  simp only [fN] at he
  have hp1:dw (bA X.P f) (p++[0])=x:=by rw [bf,hp];simp [dw]
  have hp2:dw (bA X.P f) (p++[1])=y:=by rw [bf,hp];simp [dw]
  apply wp_seq
  refine cG hX hG hm hK hlow f hO x _ hp1 hN.1 n s c a _ r _ he hr hn λex s' c' a' hex hr' hn'=>?_
  cases ex with
  | nor=>
   obtain ⟨s1,h1,hex⟩:=ag hex
   obtain ⟨c0,e01,e02,e03⟩:=je hr' hn' hK h1
   have hv:∃s2 c2,(match X.cutO f (p++[1]) with | none=>fN X f n y (p++[1]) s2 k | some g=>g s2 k)=some r/\c2.w=c0.w/\Rel B c2 s2 a'/\bI s2:=by
    cases hv:X.viewO f (p++[1]) with
    | none=>simp only [vO,hv] at hex;exact ⟨s1,c0,hex,rfl,e02,e03⟩
    | some g=>
     simp only [vO,hv] at hex
     obtain ⟨s2,g1,g2⟩:=hO.view _ g hv _ _ _ hex
     obtain ⟨c2,g3,g4,g5⟩:=g2 B c0 a' e02 e03
     exact ⟨s2,c2,g1,g3,g4,g5⟩
   clear hex
   obtain ⟨s1,c1,hex,e1,e2,e3⟩:=hv
   rw [<-e01,<-e1]
   cases hc:X.cutO f (p++[1]) with
   | none=>
    simp only [hc] at hex
    exact cG hX hG hm hK hlow f hO y _ hp2 hN.2 n s1 c1 a' k r Q hex e2 e3 hk
   | some g=>
    simp only [hc] at hex
    obtain ⟨n',hn'⟩:=hO.cut _ g hc s1 k r hex
    rw [hp2] at hn'
    exact cG hX hG hm hK hlow f hO y _ hp2 hN.2 n' s1 c1 a' k r Q hn' e2 e3 hk
  | exit id=>exact hk _ s' c' a' hex hr' hn'
  | ret=>exact hk _ s' c' a' hex hr' hn'
 | .cond q x y,p,hp,hN,n=>λs c a k r Q he hr hn hk=>by
  simp only [codeOk,Bool.and_eq_true] at hN
  simp only [fN] at he
  have hp1:dw (bA X.P f) (p++[0])=x:=by rw [bf,hp];simp [dw]
  have hp2:dw (bA X.P f) (p++[1])=y:=by rw [bf,hp];simp [dw]
  split at he
  ·rename_i t ht
   rw [hG] at ht
   have hs:=(av hr (ch:=[]) (λt w hm=>by simp at hm) ht).rep
   have hq:a.eval q=.bool t:=by generalize a.eval q=V at hs;cases hs;rfl
   cases t with
   | true=>exact wp_cond hq (cG hX hG hm hK hlow f hO x _ hp1 hN.1 n s c a k r Q he hr hn hk)
   | false=>exact wp_cond hq (cG hX hG hm hK hlow f hO y _ hp2 hN.2 n s c a k r Q he hr hn hk)
  ·simp at he
 | .block id b,p,hp,hN,n=>λs c a k r Q he hr hn hk=>by
  simp only [codeOk] at hN
  simp only [fN] at he
  have hp1:dw (bA X.P f) (p++[0])=b:=by rw [bf,hp];simp [dw]
  apply wp_block
  refine cG hX hG hm hK hlow f hO b _ hp1 hN n s c a _ r _ he hr hn λex s' c' a' hex hr' hn'=>?_
  cases ex with
  | nor=>exact hk _ s' c' a' hex hr' hn'
  | exit id'=>
   simp only [Ex.to,Exit.inBlock]
   by_cases e:id'=id
   ·subst e
    simp only [Nat.beq_refl,cond_true] at hex
    rw [if_pos rfl];exact hk .nor s' c' a' hex hr' hn'
   ·simp only [gN e,cond_false] at hex
    rw [if_neg e];exact hk (.exit id') s' c' a' hex hr' hn'
  | ret=>exact hk _ s' c' a' hex hr' hn'
 | .loop b,p,hp,hN,n=>λs c a k r Q he hr hn hk=>by
  simp only [codeOk] at hN
  simp only [fN] at he
  have hp1:dw (bA X.P f) (p++[0])=b:=by rw [bf,hp];simp [dw]
  have hb:=cG hX hG hm hK hlow f hO b _ hp1 hN
  cases hc:X.loopO f p with
  | none=>
   simp only [hc] at he
   exact (jk (hb n) hK n s c a k r Q he hr hn hk).wp
  | some g=>
   simp only [hc] at he
   obtain ⟨s1,h1,he⟩:=ag he
   obtain ⟨n',m,he⟩:=hO.loop _ g hc s1 k r he
   rw [hp] at he
   simp only [qm] at he
   obtain ⟨c1,e1,e2,e3⟩:=iu hr hn hK h1
   refine j7.wp (j7.unroll ?_)
   rw [<-e1]
   refine hb n' s1 c1 a _ r _ he e2 e3 λex s' c' a' hex hr' hn'=>?_
   cases ex with
   | nor=>exact jk (hb n') hK m s' c' a' k r Q hex hr' hn' hk
   | exit id=>exact hk _ s' c' a' hex hr' hn'
   | ret=>exact hk _ s' c' a' hex hr' hn'
 | .exit id,_,_,_,n=>λs c a k r Q he hr hn hk=>by
  simp only [fN] at he
  obtain ⟨s1,h1,he⟩:=ag he
  obtain ⟨c1,e1,e2,e3⟩:=je hr hn hK h1
  rw [<-e1]
  exact wp_exit (hk (.exit id) s1 c1 a he e2 e3)
 | .ret,_,_,_,n=>λs c a k r Q he hr hn hk=>by
  simp only [fN] at he
  obtain ⟨s1,h1,he⟩:=ag he
  obtain ⟨c1,e1,e2,e3⟩:=je hr hn hK h1
  rw [<-e1]
  exact wp_ret (hk .ret s1 c1 a he e2 e3)
 | .goto _,_,_,_,n=>λs c a k r Q he hr hn hk=>by simp [fN] at he
 | .label _,_,_,_,n=>λs c a k r Q he hr hn hk=>by
  simp only [fN] at he
  exact wp_label (hk .nor s c a he hr hn)
 | .scope b,p,hp,hN,n=>λs c a k r Q he hr hn hk=>by
  simp only [codeOk] at hN
  simp only [fN] at he
  have hp1:dw (bA X.P f) (p++[0])=b:=by rw [bf,hp];simp [dw]
  refine wp_scope_straight (cG hX hG hm hK hlow f hO b _ hp1 hN n s c a k r _ he hr hn λex s' c' a' hex hr' hn'=>?_)
  cases ex with
  | nor=>exact hk .nor s' c' a' hex hr' hn'
  | exit id=>exact hk (.exit id) s' c' a' hex hr' hn'
  | ret=>exact hk .ret s' c' a' hex hr' hn'
 | .rangeFunc g ps x y,p,hp,hN,n=>λs c a k r Q he hr hn hk=>by
  simp only [fN] at he
  cases hc:X.rngO f p with
  | none=>simp only [hc] at he;cases he
  | some g=>
   simp only [hc] at he
   have:=hO.rng p g hc B s c a k r Q hG hK hlow (by rw [hp];exact hN) he hr hn hk
   rw [hp] at this
   exact this
 | .refuse _,_,_,_,n=>λs c a k r Q he hr hn hk=>by simp [fN] at he
end Go.Ab

namespace Go.Ab
open Go Go.RowKit
variable {B:Base} {c:Cx} {s:St} {a:Act} {X:Cfg}
structure QuietO (G:Nat->Option (List AV)) (ol:List (Nat×AO)) (c c':Cx):Prop where
 os:c'.w.os=c.w.os
 output:c'.w.output=c.w.output
 tape:c'.w.tape=c.w.tape
 size:c.w.heap.size<=c'.w.heap.size
 block:∀b,b < c.w.heap.size->¬ held c ol b->c'.w.heap[b]?=c.w.heap[b]?
 I:∀b o,c.I b o->c'.I b o
 new:∀b o,b < c.w.heap.size->c'.I b o->c.I b o
 β:c'.β=c.β
 κ:c'.κ=c.κ
 fr:c'.fr=c.fr
 good:Good G c'
 objs:Objs c' ol
def zc (os:List (Nat×AO)):Prop:=∀k o,alook os k=some o->∃cs,o=.cells cs/\ak cs=[]
theorem Rel.quiet {os:List (Nat×AO)} (h:Rel B c s a) (hv:zc os) (hs:∀k o,alook os k=some o->s.obj k=some o) {c':Cx} (q:QuietO B.G os c c'):Rel B c' s a:=by
 have hnot:∀b o,c.I b o->¬ held c os b:=by
  rintro b o hi ⟨k,ob,hk,hb⟩
  obtain ⟨cs,rfl,_⟩:=hv k ob hk
  have:=h.objs.rep k _ (hs k _ hk)
  simp only [excl,Option.some.injEq] at hb
  subst hb
  exact this.2.1 o hi
 have hext:∀ks,Ext c c' ks:=λks=>⟨λb o v hi hc=>by rw [World.bj (q.block b (dr hc) (hnot b o hi))];exact hc,q.I,λ_ _=>by rw [q.β],λ_ _ _ _ hr=>by simpa only [aD,q.κ,q.fr] using hr,
  λb o ob hi he _=>(q.block b (aJ he) (hnot b o hi)).trans he⟩
 have hgrow:Grow B c c':=⟨q.os,q.output,q.tape,q.size,λb hb hd=>q.block b (Nat.lt_of_lt_of_le hb h.frame.size) ?_,λb o hb _ hi=>q.new b o (Nat.lt_of_lt_of_le hb h.frame.size) hi,q.good.there⟩
 ·have hex:∀k o,excl c' k o=excl c k o:=λk o=>cT (by rw [q.β]) (by rw [q.κ])
  refine ⟨q.good,h.frame.grow (hext _) hgrow h.kept,⟨λk o hk=>?_,λk o k' o' b hk hk' hne hb=>by rw [hex] at hb ⊢;exact h.objs.apart k o k' o' b hk hk' hne hb,h.objs.closed⟩,λt v ht=>(h.env t v ht).ext (hext _) (h.closed t v ht),h.closed,λk o b hk hb=>h.mine k o b hk (by rwa [hex] at hb),h.tmps,h.defers.ext (hext λ_=>False),h.kept⟩
  cases ho:alook os k with
  | some o'=>
   have:=hs k o' ho
   have e:some o=some o':=hk.symm.trans this
   cases e
   exact q.objs.rep k o ho
  | none=>
   refine h.objs.l4 (p:=λk=>alook os k=none) ⟨(hext _).toR,λ_ _ _=>by rw [q.β],λ_ _ _=>by rw [q.κ],λ_ _ _=>by rw [q.fr],λk1 o1 b1 hk1 hp hb1=>?_⟩ hk ho
   have hlt:=cf (h.objs.rep k1 o1 hk1) hb1
   refine ⟨q.block b1 hlt ?_,λoff hi=>q.new b1 off hlt hi⟩
   rintro ⟨k2,o2,hk2,hb2⟩
   exact h.objs.apart k1 o1 k2 o2 b1 hk1 (hs k2 o2 hk2) (λe=>by rw [e,hk2] at hp;cases hp) hb1 hb2
 ·rintro ⟨k,o,hk,hb'⟩
  rcases h.mine k o b (hs k o hk) hb' with h1 | h1
  ·omega
  ·exact hd h1
def yV (P:Program) (l:Nat) (args:Array Value) (W:World) (R:Ending->World->Prop):Prop:=
 ∃fn tmps assign body,(Instr.yield l args).run P W=.ok (.round l fn tmps assign body) W/\RoundIn Fence.wide 0 P l fn tmps assign body W R
def sn (P:Program) (G:Nat->Option (List AV)) (h:FuncId) (caps:List AV) (os:List (Nat×AO)) (N:Nat) (row:Nat->List AV):Prop:=
 ∀ (l:Nat) (vs:Array Value) (J:Nat->Cx->Prop),
  (∀j c,J j c->Good G c/\Objs c os/\vs.size=caps.length/\∀ (i:Nat) (u:AV),caps[i]?=some u->Rep c u (vs.getD i undef))->
  (∀ (j:Nat) (c c':Cx),J j c->QuietO G os c c'->J j c')->
  (∀ (j:Nat) (c:Cx) (xs:Array Value),j < N->J j c->xs.size=(row j).length->(∀ (i:Nat) (u:AV),(row j)[i]?=some u->Rep c u (xs.getD i undef))->
   yV P l xs c.w λe w'=>e=.returned (.bool true)/\∃c',c'.w=w'/\J (j+1) c'/\ExtR c c' (λ_=>False))->
  ∀c,J 0 c->CallsIn Fence.wide 0 P h (#[.func (.yield l) #[] #[]]++vs) c.w λe w'=>(∃v,e=.returned v)/\∃c',c'.w=w'/\J N c'
def yX:List (Nat×AV)->List Nat->List AV->List (Nat×AV)
 | env,p::ps,v::vs=>yX (aput env p v) ps vs
 | env,_,_=>env
theorem m4:∀ (ps:List Nat) (vs:List AV) (xs:List Value) (env:List (Nat×AV)) (objs:List (Nat×AO)) (tm:Array Value) (ds:List Deferred),vs.length=ps.length->xs.length=ps.length->(∀p∈ps,p < B.N)->
  Rel B c {env:=env,objs:=objs} {tmps:=tm,defers:=ds}->bI {env:=env,objs:=objs}->(∀ (i:Nat) (u:AV) (x:Value),vs[i]?=some u->xs[i]?=some x->Rep c u x/\u.bX=false/\u.keys=[])->
  Rel B c {env:=yX env ps vs,objs:=objs} {tmps:=(ps.zip xs).foldl (λt p=>t.setIfInBounds p.1 p.2) tm,defers:=ds}/\bI {env:=yX env ps vs,objs:=objs}
 | [],vs,xs,env,objs,tm,ds,_,_,_,h,hn,_=>by simpa [yX] using And.intro h hn
 | p::ps,[],xs,env,objs,tm,ds,h1,_,_,_,_,_=>by simp at h1
 | p::ps,v::vs,[],env,objs,tm,ds,_,h2,_,_,_,_=>by simp at h2
 | p::ps,v::vs,x::xs,env,objs,tm,ds,h1,h2,hp,h,hn,hv=>by
  obtain ⟨e1,e2,e3⟩:=hv 0 v x rfl rfl
  have hput:=h.put (d:=p) (v:=v) (x:=x) (hp p (by simp)) e1 e2 (by rw [e3];intro k hk;cases hk) (λt tc w v' hg=>by have:=hn t _ hg;simp [AV.bX] at this)
  have hn':bI {env:=aput env p v,objs:=objs}:=bI.put (s:={env:=env,objs:=objs}) hn e2
  have:=m4 ps vs xs (aput env p v) objs (tm.setIfInBounds p x) ds (by simpa using h1) (by simpa using h2) (λq hq=>hp q (by simp [hq])) hput hn' (λi u y hu hy=>hv (i+1) u y (by simpa using hu) (by simpa using hy))
  simpa [yX] using this
def rv (X:Cfg) (ps:List Nat) (x y:Code) (h:Hint) (vals:List AV) (s:St) (kn:St->Res):Res:=
 mL X x {env:=yX s.env ps vals,objs:=s.objs} λe s1=>match e with
  | .nor=>mL X y s1 λe s2=>match e with
   | .nor=>(jb X.P h {env:=s.env,objs:=s2.objs}).bind kn
   | _=>none
  | _=>none
noncomputable def rz (X:Cfg) (g:Operand) (cl:AV) (ps:List Nat) (x y:Code) (h:Hint) (os:List (Nat×AO)) (N:Nat) (row:Nat->List AV):Nat->Nat->St->(Ex->St->Res)->Res
 | 0,_,_,_=>none
 | n+1,j,s,k=>cond (@decide (aI ⟨s,X.G,[]⟩ g=some cl/\∀p∈os,s.obj p.1=some p.2) (Classical.propDecidable _))
   (cond (Nat.blt j N) (rv X ps x y h (row j) s λs'=>rz X g cl ps x y h os N row n (j+1) s' k) (k .nor s)) none
theorem jH {g:Operand} {cl:AV} {ps:List Nat} {x y:Code} {h:Hint} {os:List (Nat×AO)} {N:Nat} {row:Nat->List AV} {n j:Nat} {k:Ex->St->Res} {r:AV×List AO} (he:rz X g cl ps x y h os N row n j s k=some r) :
  aI ⟨s,X.G,[]⟩ g=some cl/\(∀p∈os,s.obj p.1=some p.2)/\∃m,cond (Nat.blt j N) (rv X ps x y h (row j) s λs'=>rz X g cl ps x y h os N row m (j+1) s' k) (k .nor s)=some r:=by
 cases n with
 | zero=>cases he
 | succ m=>
  unfold rz at he
  obtain ⟨h1,h2⟩:=bc he
  have h1:=@of_decide_eq_true _ (Classical.propDecidable _) h1
  exact ⟨h1.1,h1.2,m,h2⟩
theorem ExtR.trans {a b c:Cx} {ks:Nat->Prop} (h:ExtR a b ks) (h':ExtR b c ks):ExtR a c ks:=
 ⟨λbl o v hi hv=>h'.cell bl o v (h.cell bl o v hi hv).2 (h.cell bl o v hi hv).1,λk hk=>(h'.β k hk).trans (h.β k hk),λk hk n v hv=>h'.own k hk n v (h.own k hk n v hv),λbl o es cl hi he=>h'.map bl o es cl (h.map bl o es cl hi he).2 (h.map bl o es cl hi he).1⟩
theorem ExtR.none {a b:Cx} {ks:Nat->Prop} (h:ExtR a b ks):ExtR a b (λ_=>False):=⟨h.cell,λ_ hk=>hk.elim,λ_ hk=>hk.elim,h.map⟩
theorem Ext.same {c c':Cx} (hw:c'.w=c.w) (hI:c'.I=c.I):Ext c c' (λ_=>False):=⟨λb o v _ hv=>by rw [hw];exact hv,λb o hi=>by rw [hI];exact hi,λ_ hk=>hk.elim,λ_ hk=>hk.elim,λb o ob _ he _=>by rw [hw];exact he⟩
theorem iz {α:Type}:∀ {l:List (Nat×α)} {k:Nat} {o:α},alook l k=some o->(k,o)∈l
 | [],_,_,h=>by cases h
 | (q,x)::r,k,o,h=>by
  simp only [alook] at h
  by_cases e:q=k
  ·subst e;simp at h;subst h;simp
  ·rw [gN e,cond_false] at h;exact List.mem_cons_of_mem _ (iz h)
theorem uo (hX:cj X) (hG:X.G=B.G) (hm:X.P.follows .mixedOrders=true) (hK:∀k,B.K k->ae<=k) {g:Operand} {ps:Array Tmp} {x y:Code} (hN:codeOk B.N (.rangeFunc g ps x y)=true)
  {hf:FuncId} {caps:List AV} {os:List (Nat×AO)} {N:Nat} {row:Nat->List AV} (hit:sn X.P B.G hf caps os N row)
  (hfn:∃fn,X.P.funcs[hf]?=some fn/\(fn.name=="runtime.NumGoroutine")=false/\fn.body.isSome=true) (hrow:∀j,j < N->(row j).length=ps.size/\∀u∈row j,u.bX=false/\u.keys=[]) (hos:zc os) {h:Hint} {n:Nat}
  {s:St} {c:Cx} {a:Act} {k:Ex->St->Res} {r:AV×List AO} {Q:Exit->Act->World->Prop}
  (he:rz X g (.fn hf [] caps) ps.toList x y h os N row n 0 s k=some r) (hr:Rel B c s a) (hn:bI s) (hlw:∃m,B.low=some m/\m<=c.w.heap.size)
  (hk:∀ex s' c' a',k ex s'=some r->Rel B c' s' a'->bI s'->Q ex.to a' c'.w):(Code.rangeFunc g ps x y).wp X.P Q a c.w:=by
 simp only [codeOk,Bool.and_eq_true] at hN
 obtain ⟨hNp,hNx,hNy⟩:=hN
 have hps:∀p∈ps.toList,p < B.N:=λp hp=>ltB (List.all_eq_true.1 hNp p hp)
 refine (wpIn_wide (n:=0)).1 (wpIn_rangeFunc λfn _=>?_)
 have hdep:∀m,Fence.wide.depth.isSome=true->1<=m:=λm hh=>by simp [Fence.wide] at hh
 obtain ⟨hev,_,_⟩:=jH he
 rw [hG] at hev
 have hsee:=(av hr (ch:=[]) (λt w hm=>by simp at hm) hev).rep
 obtain ⟨vb,hg⟩:∃vb,a.eval g=.func (.func hf) #[] vb:=by
  generalize a.eval g=V at hsee
  cases hsee with
  | fn f p q va vb h1 h2 h3 h4=>exact ⟨vb,by rw [Array.eq_empty_of_size_eq_zero h1]⟩
 obtain ⟨rec,hrec⟩:∃rec:LoopState->Option Code->Loop,rec=λst pe=>{state:=st,pending:=pe,fn,tmps:=a.tmps,params:=ps,assign:=x,body:=y,defers:=c.w.heap.size}:=⟨_,rfl⟩
 let D:=c.w.heap.size
 let L:=c.w.heap.size+1
 let a1:Act:={a with defers:={target:=.collected D,args:=#[]}::a.defers}
 let c1:=c.lay (.deferred (some [])) true
 let c2:=c1.lay (.loop (rec .ready none)) false
 have hr1:Rel B c1 s a:=hr.lay _ true rfl
 have hr2:Rel B c2 s a:=hr1.lay _ false rfl
 have hw2:c2.w=(c.w.alloc (.deferred (some []))).alloc (.loop (rec .ready none)):=rfl
 have hD2:c2.w.heap[D]?=some (.deferred (some [])):=by
  rw [hw2,aA _ _ _ (by simp [D])];exact aP c.w _
 have hL2:c2.w.heap[L]?=some (.loop (rec .ready none)):=by
  have:=aP (c.w.alloc (.deferred (some []))) (.loop (rec .ready none))
  rw [hw2];simpa [L] using this
 have hI2:∀o,¬ c2.I L o:=by
  rintro o (hi | ⟨hf,_⟩)
  ·rcases hi with hi | ⟨_,hb,_⟩
   ·have:=hr.good.lt hi;simp only [L] at this;omega
   ·simp only [L] at hb;omega
  ·cases hf
 have hra:Rel B c2 s a1:=by
  refine ⟨hr2.good,hr2.frame,hr2.objs,hr2.env,hr2.closed,hr2.mine,hr2.tmps,⟨⟨D,rfl,hlw,.inl (.inr ⟨rfl,rfl,rfl⟩),hD2,λd' hd' e=>?_⟩,hr2.defers⟩,hr2.kept⟩
  have:=Defs.lt hr.defers d' hd' D e
  simp only [D] at this;omega
 refine ⟨L,[{target:=.collected D,args:=#[]}],c2.w,{target:=.fn (.func hf) vb,args:=#[.func (.yield L) #[] #[]]},c2.w,hf,#[.func (.yield L) #[] #[]]++vb,c2.w,?_,?_,?_,?_,λhh=>hdep _ hh,?_⟩
 ·rw [hw2,hrec];exact run_enterLoop_outer _ _ _ _ _
 ·simp only [resolve,hg]
  simp [go_sem]
 ·intro f' _;exact trivial
 ·obtain ⟨fn',g1,g2,g3⟩:=hfn
  have eg:=kR (w:=c2.w) (args:=#[.func (.yield L) #[] #[]]++vb) g1 g2 g3
  simp [invoke,go_sem,eg]
 ·-- the invariant between two rounds
  let J:Nat->Cx->Prop:=λj c=>∃ (m:Nat) (s:St),Rel B c s a1/\bI s/\rz X g (.fn hf [] caps) ps.toList x y h os N row m j s k=some r/\c.w.heap[L]?=some (.loop (rec .ready none))/\(∀o,¬ c.I L o)
  have hBL:B.c0.w.heap.size<=L:=by simp only [L];have:=hr.frame.size;omega
  have hvb:∀j c,J j c->Good B.G c/\Objs c os/\vb.size=caps.length/\∀ (i:Nat) (u:AV),caps[i]?=some u->Rep c u (vb.getD i undef):=by
   rintro j c ⟨m,s,h1,h2,h3,h4,h5⟩
   obtain ⟨e1,e2,_⟩:=jH h3
   rw [hG] at e1
   have hs:=(av h1 (ch:=[]) (λt w hm=>by simp at hm) e1).rep
   have hga:a1.eval g=.func (.func hf) #[] vb:=hg
   rw [hga] at hs
   cases hs with
   | fn _ _ _ _ _ g1 g2 g3 g4=>exact ⟨h1.good,⟨λk o hk=>h1.objs.rep k o (e2 _ (iz hk)),λk o k' o' b hk hk'=>h1.objs.apart k o k' o' b (e2 _ (iz hk)) (e2 _ (iz hk')),λk o hk q hq=>by obtain ⟨cs,rfl,hcs⟩:=hos k o hk;simp [AO.keys,hcs] at hq⟩,g2,g4⟩
  refine (hit L vb J hvb (λj c c' hJ q=>?_) (λj c xs hj hJ hxs hxr=>?_) c2 ⟨n,s,hra,hn,he,hL2,hI2⟩).mono ?_
  ·obtain ⟨m,s,h1,h2,h3,h4,h5⟩:=hJ
   obtain ⟨_,e2,_⟩:=jH h3
   have hs:∀k o,alook os k=some o->s.obj k=some o:=λk o hk=>e2 _ (iz hk)
   refine ⟨m,s,h1.quiet hos hs q,h2,h3,(q.block L (aJ h4) ?_).trans h4,λo hi=>h5 o (q.new L o (aJ h4) hi)⟩
   rintro ⟨k',o',hk',hb'⟩
   exact nW h4 rfl (h1.objs.rep k' o' (hs k' o' hk')) hb' rfl
  ·-- one round
   obtain ⟨m,s,h1,h2,h3,h4,h5⟩:=hJ
   obtain ⟨e1,e2,m',h3⟩:=jH h3
   rw [tA hj,cond_true] at h3
   obtain ⟨hlen,hplain⟩:=hrow j hj
   have hy:=run_yield (P:=X.P) (args:=xs) h4 (by rw [hrec,hxs,hlen])
   rw [hrec] at hy
   refine ⟨fn,_,x,y,hy,roundIn_of_wpIn (F:=Fence.wide) trivial ?_⟩
   have hb0:Rel (B.at c s) c s {tmps:=a.tmps,defers:=[]}:=⟨h1.rebase.good,h1.rebase.frame,h1.rebase.objs,h1.rebase.env,h1.rebase.closed,h1.rebase.mine,h1.rebase.tmps,trivial,h1.rebase.kept⟩
   obtain ⟨hb1,hb2⟩:=m4 (B:=B.at c s) ps.toList (row j) xs.toList s.env s.objs a.tmps [] (by rw [hlen];simp) (by rw [Array.length_toList,hxs,hlen];simp) hps hb0 h2 (λi u v hu hv=>by
    refine ⟨?_,hplain u (List.mem_of_getElem? hu)⟩
    have:=hxr i u hu
    rw [Array.getElem?_toList] at hv
    rw [Array.getD_eq_getD_getElem?,hv] at this
    exact this)
   have hfold:(ps.zip xs).foldl (λtmps (t,a)=>tmps.setIfInBounds t a) a.tmps=(ps.toList.zip xs.toList).foldl (λt p=>t.setIfInBounds p.1 p.2) a.tmps:=by
    rw [<-Array.foldl_toList,Array.toList_zip]
   rw [hfold]
   unfold rv at h3
   have hnl:∀ (K:Act->World->Prop),¬ LetsOut (Exit.then K (λ_ _ _=>False)):=λK ⟨_,_,hq⟩=>hq
   refine ek (l:=some L) (n:=0) (B:=B.at c s) hX hG hm x hNx _ c _ _ r _ h3 hb1 hb2 (hnl _) λex s1 c1' a1' hex hr1' hn1'=>?_
   cases ex with
   | exit id=>cases hex
   | ret=>cases hex
   | nor=>
    dsimp only at hex
    have hnheld:∀ {c:Cx} {s:St} {a:Act} {B:Base} {ob:Obj},Rel B c s a->c.w.heap[L]?=some ob->mV ob=true->¬ (held c s.objs L):=λhR hL ho ⟨q,o,hq,hb⟩=>nW hL ho (hR.objs.rep q o hq) hb rfl
    have hL1:c1'.w.heap[L]?=some (.loop (rec .ready none)):=(hr1'.frame.block L (aJ h4) (hnheld h1 h4 rfl)).trans h4
    have hI1:∀o,¬ c1'.I L o:=λo hi=>h5 o (hr1'.frame.new L o (aJ h4) (hnheld h1 h4 rfl) hi)
    have hru:Rel B c1' s1 a1':=h1.unbase hr1'
    obtain ⟨hrb,hextb⟩:=hru.odd (.loop {rec .ready none with state:=.busy}) hL1 rfl hI1 hBL
    have hLb:(c1'.odd L (.loop {rec .ready none with state:=.busy})).w.heap[L]?=some (.loop {rec .ready none with state:=.busy}):=World.putObj_heap_same (aJ hL1)
    have hIb:∀o,¬ (c1'.odd L (.loop {rec .ready none with state:=.busy})).I L o:=hI1
    generalize hcb:c1'.odd L (.loop {rec .ready none with state:=.busy})=cb at hrb hextb hLb hIb
    have hwb:cb.w=c1'.w.putObj L (.loop {rec .ready none with state:=.busy}):=by rw [<-hcb];rfl
    refine ⟨cb.w,by rw [hwb];exact run_beginRound hL1 (by rw [hrec]),?_⟩
    refine ek (l:=some L) (n:=0) (B:=B.at cb s1) hX hG hm y hNy s1 cb a1' _ r _ hex hrb.rebase hn1' (λ⟨_,_,hq⟩=>hq) λex s2 c2' a2' hex2 hr2' hn2'=>?_
    cases ex with
    | exit id=>cases hex2
    | ret=>cases hex2
    | nor=>
     dsimp only at hex2
     obtain ⟨s',hat,hex2⟩:=ag hex2
     have hL2':c2'.w.heap[L]?=some (.loop {rec .ready none with state:=.busy}):=(hr2'.frame.block L (aJ hLb) (hnheld hrb hLb rfl)).trans hLb
     have hI2':∀o,¬ c2'.I L o:=λo hi=>hIb o (hr2'.frame.new L o (aJ hLb) (hnheld hrb hLb rfl) hi)
     have hru2:Rel B c2' s2 a2':=hrb.unbase hr2'
     have hsub:∀k,live s.objs k->live s1.objs k:=hr1'.kept
     have hext:Ext c c2' (live s.objs):=(hr1'.frame.ext.trans (hextb _)).trans (hr2'.frame.ext.sub hsub)
     have hback:Rel B c2' {env:=s.env,objs:=s2.objs} a1:=h1.back hru2 hext λk hk=>hr2'.kept k (hsub k hk)
     have hend:=run_endRound (P:=X.P) none hL2'
     obtain ⟨hr3,hext3⟩:=hback.odd (.loop (rec .ready none)) hL2' rfl hI2' hBL
     have hL3:(c2'.odd L (.loop (rec .ready none))).w.heap[L]?=some (.loop (rec .ready none)):=World.putObj_heap_same (aJ hL2')
     obtain ⟨c4,f1,f2,f3,f4⟩:=j5 hr3 (s:={env:=s.env,objs:=s2.objs}) h2 hK hat
     refine ⟨_,_,hend,rfl,c4,?_,⟨m',s',f3,f4,hex2,by rw [f1];exact hL3,λo hi=>hI2' o (by rw [f2] at hi;exact hi)⟩,?_⟩
     ·rw [f1]
      show c2'.w.putObj L (.loop (rec .ready none))=_
      rw [hrec];rfl
     ·exact ((hext.trans (hext3 _)).toR.none).trans (Ext.same f1 f2).toR.none
  ·rintro e W2 ⟨⟨v,rfl⟩,c5,rfl,m,s5,h1,h2,h3,h4,h5⟩
   obtain ⟨_,_,m',h3⟩:=jH h3
   have:Nat.blt N N=false:=by
    cases hb:Nat.blt N N with
    | false=>rfl
    | true=>exact absurd (ltB hb) (Nat.lt_irrefl _)
   rw [this,cond_false] at h3
   obtain ⟨hr6,_⟩:=h1.odd (.loop {rec .ready none with state:=.exhausted}) h4 rfl h5 hBL
   refine ⟨none,(c5.odd L (.loop {rec .ready none with state:=.exhausted})).w,?_,hk .nor s5 _ a1 h3 hr6 h2⟩
   rw [run_endLoop (P:=X.P) h4 (by rw [hrec];simp),hrec]
   rfl
end Go.Ab

namespace Go.Ab
open Go Go.RowKit
theorem eD:∀ (l:List AV) (b k:Nat),alook (dc l b) k=if b<=k then l[k - b]? else none
 | [],b,k=>by simp [dc,alook]
 | o::r,b,k=>by
  simp only [dc,alook]
  by_cases h:b=k
  ·subst h;simp
  ·rw [gN h,cond_false,eD r (b+1) k]
   by_cases h1:b+1<=k
   ·rw [if_pos h1,if_pos (by omega)]
    have:k - b=(k - (b+1))+1:=by omega
    rw [this];simp
   ·rw [if_neg h1,if_neg (by omega)]
theorem fj {os:List AO} {b k:Nat} (h:live (af os b) k):b<=k/\k - b < os.length:=by
 obtain ⟨o,ho⟩:=h
 rw [bx] at ho
 by_cases hb:b<=k
 ·rw [if_pos hb] at ho;exact ⟨hb,(List.getElem?_eq_some_iff.1 ho).1⟩
 ·rw [if_neg hb] at ho;cases ho
def xO (tmps:Array Value):ResultVar->Sem Value
 | .tmp t=>pure (tmps.getD t undef)
 | .cell q t=>do loadVar t (<-asAddr (tmps.getD q undef))
theorem kr (fn:Func) (tmps:Array Value):results fn tmps=(fn.results.mapM (xO tmps) >>= λvs=>pure (if h:vs.size=1 then vs[0] else .tuple vs)):=by
 unfold results
 congr 1
theorem eY {B:Base} {c:Cx} {s:St} {a:Act} (X:Cfg) (h:Rel B c s a) (hn:bI s):∀ {l:List ResultVar} {vs:List AV},jh X s l=some vs->
  ∃xs:List Value,cV B c s vs xs/\(l.mapM (m:=Sem) (xO a.tmps)).run X.P c.w=.ok xs c.w
 | [],vs,he=>by simp [jh] at he;subst he;exact ⟨[],⟨rfl,λi u hu=>by simp at hu⟩,rfl⟩
 | r::l,vs,he=>by
  simp only [jh] at he
  obtain ⟨v,h1,he⟩:=ag he
  obtain ⟨us,h2,he⟩:=aQ he
  subst he
  obtain ⟨xs,h3,h4⟩:=eY X h hn h2
  cases r with
  | cell q t=>
   simp only [pW] at h1
   split at h1
   ·rename_i k off hq
    obtain ⟨⟨b,u0⟩,hl,h1⟩:=ag h1
    obtain ⟨hb,h1'⟩:=au h1
    dsimp only at hb h1'
    simp only [Option.some.injEq] at h1'
    subst hb h1'
    have hE:Rep c (.ref k off) (a.tmps.getD q undef):=h.env q _ hq
    obtain ⟨x,g1,g2⟩:=mf h hE hl
    generalize hV:a.tmps.getD q undef=V at hE g1
    cases hE
    rw [ep] at g1
    refine ⟨x::xs,⟨by simp [h3.1],λi u hu=>?_⟩,?_⟩
    ·cases i with
     | zero=>simp at hu;subst hu;exact g2
     | succ i=>simpa using h3.2 i u (by simpa using hu)
    ·rw [List.mapM_cons]
     simp only [xO,hV,asAddr,pure_bind,Sem.run_bind,g1,h4,Result.andThen_ok,Sem.run_pure]
   ·cases h1
  | tmp t=>
   simp only [pW] at h1
   have hE:=h.env t v h1
   have hg:=hn t v h1
   have hr:Rep c v (a.tmps.getD t undef):=by cases v <;> first | exact hE | simp [AV.bX] at hg
   refine ⟨a.tmps.getD t undef::xs,⟨by simp [h3.1],λi u hu=>?_⟩,?_⟩
   ·cases i with
    | zero=>simp at hu;subst hu;exact ⟨hr,h.closed t v h1,hg⟩
    | succ i=>simpa using h3.2 i u (by simpa using hu)
   ·rw [List.mapM_cons]
    simp only [xO,pure_bind,Sem.run_bind,h4,Result.andThen_ok,Sem.run_pure]
theorem bQ {N M:Nat} (h:N<=M):∀ {c:Code},codeOk N c=true->codeOk M c=true
 | .region _ ops _,hc=>by
  simp only [codeOk] at hc ⊢
  rw [List.all_eq_true] at hc ⊢
  intro o ho
  have:=hc o ho
  cases hd:o.dst with
  | none=>rfl
  | some d=>simp only [hd] at this ⊢;exact tA (Nat.lt_of_lt_of_le (ltB this) h)
 | .seq a b,hc=>by simp only [codeOk,Bool.and_eq_true] at hc ⊢;exact ⟨bQ h hc.1,bQ h hc.2⟩
 | .cond _ a b,hc=>by simp only [codeOk,Bool.and_eq_true] at hc ⊢;exact ⟨bQ h hc.1,bQ h hc.2⟩
 | .block _ b,hc=>by simp only [codeOk] at hc ⊢;exact bQ h hc
 | .loop b,hc=>by simp only [codeOk] at hc ⊢;exact bQ h hc
 | .scope b,hc=>by simp only [codeOk] at hc ⊢;exact bQ h hc
 | .rangeFunc _ ps a b,hc=>by
  simp only [codeOk,Bool.and_eq_true] at hc ⊢
  refine ⟨?_,bQ h hc.2.1,bQ h hc.2.2⟩
  rw [List.all_eq_true] at hc ⊢
  exact λp hp=>tA (Nat.lt_of_lt_of_le (ltB (hc.1 p hp)) h)
 | .skip,_ | .exit _,_ | .ret,_ | .goto _,_ | .label _,_ | .refuse _,_=>by simp [codeOk]
theorem m3 {X:Cfg} (hX:cj X) (hm:X.P.follows .mixedOrders=true) {f:FuncId} (hO:OracOk X f) {fn:Func} (hf:X.P.funcs[f]?=some fn) (hok:∀c,fn.body=some c->codeOk fn.ntmps c=true) {n:Nat} {args:List AV} {os:List AO}
  {r:AV} {os':List AO} (he:v8 X n f args os=some (r,os')):j8 X.P X.G f args os r os':=by
 unfold v8 at he
 rw [hf] at he
 dsimp only at he
 cases hbody:fn.body with
 | none=>simp [hbody] at he
 | some code=>
  simp only [hbody] at he
  have hcode:=hok code hbody
  intro c0 vs hgood hobjs hsz hrep hkeys
  let a0:Act:={tmps:=vs++Array.replicate (fn.ntmps - vs.size) undef,defers:=[]}
  let B:Base:={c0:=c0,D:=held c0 (af os ae),K:=live (af os ae),G:=X.G,N:=a0.tmps.size}
  let s0:St:={env:=dc args 0,objs:=af os ae}
  have hN:fn.ntmps<=B.N:=by simp [B,a0];omega
  have hcode':codeOk B.N code=true:=bQ hN hcode
  have hget:∀t v,s0.get t=some v->args[t]?=some v:=λt v hv=>by
   have:alook (dc args 0) t=some v:=hv
   rw [eD,if_pos (Nat.zero_le _)] at this;simpa using this
  have hval:∀t v,args[t]?=some v->Rep c0 v (a0.tmps.getD t undef):=λt v hv=>by
   have hlt:t < vs.size:=by rw [hsz];exact (List.getElem?_eq_some_iff.1 hv).1
   have e:a0.tmps.getD t undef=vs.getD t undef:=by
    simp only [a0,Array.getD_eq_getD_getElem?]
    rw [Array.getElem?_append_left hlt]
   rw [e];exact hrep t v hv
  have hplain:∀t v,s0.get t=some v->v.bX=false:=λt v hv=>by
   have:=hval t v (hget t v hv)
   generalize a0.tmps.getD t undef=V at this
   cases this <;> rfl
  have h0:Rel B c0 s0 a0:=by
   refine ⟨hgood,⟨rfl,rfl,rfl,Nat.le_refl _,λ_ _ _=>rfl,Ext.refl _ _,λ_ _ _ _ hi=>hi⟩,hobjs,λt v hv=>dz.nf (hplain t v hv) (hval t v (hget t v hv)),
    λt v hv k hk=>hkeys k (aH (hget t v hv) k hk),λk o b ho hb=>.inr ⟨k,o,ho,hb⟩,rfl,trivial,λk hk=>hk⟩
  refine jt hf hbody ?_
  refine cG (B:=B) hX rfl hm (λk hk=>(fj hk).1) rfl f hO code [] (by simp [bA,dw,hf,hbody]) hcode' n s0 c0 a0 _ (r,os') _ he h0 hplain λex s' c9 a' hex hr9 hn'=>?_
  obtain ⟨c',hr',hL⟩:=Rel.shut (B:=B) hgood rfl _ c9 a' rfl hr9
  have hfin:finish X fn os.length s'=some (r,os')->∃v,(results fn a'.tmps).run X.P c'.w=.ok v c'.w/\∃c2 x,Ending.returned v=.returned x/\c2.w=c'.w/\Good X.G c2 /\
   Frame {c0:=c0,D:=held c0 (af os ae),K:=live (af os ae),G:=X.G,N:=0} c2 /\
   Objs c2 (af os' ae)/\Rep c2 r x/\(∀k∈r.keys,live (af os' ae) k) /\
   ∀k o b,alook (af os' ae) k=some o->excl c2 k o=some b->c0.w.heap.size<=b∨held c0 (af os ae) b:=by
   intro hfin
   unfold finish at hfin
   simp only [fD] at hfin
   obtain ⟨rs,h1,hfin⟩:=ag hfin
   obtain ⟨⟨rs',o1⟩,h2,hfin⟩:=ag hfin
   dsimp only at hfin
   obtain ⟨os1,h3,hfin⟩:=ag hfin
   obtain ⟨hb,hfin⟩:=bc hfin
   simp only [Option.some.injEq,Prod.mk.injEq] at hfin
   obtain ⟨hres,rfl⟩:=hfin
   simp only [Bool.and_eq_true] at hb
   obtain ⟨xs,hs,hrun⟩:=eY X hr' hn' h1
   obtain ⟨c2,e1,e2,e3,e4,e5⟩:=cY hr' hs h2
   have hs2:=e3.shed
   have hfn:=hs2.fn
   obtain ⟨hlen,hlook⟩:=eK h3
   have hks:∀i,i < os.length->((List.range os.length).map (ae+·))[i]?=some (ae+i):=λi hi=>by simp [hi]
   have hl1:os1.length=os.length:=by rw [hlen];simp
   have hsub:∀k o,alook (af os1 ae) k=some o->alook o1 k=some o:=by
    intro k o ho
    rw [bx] at ho
    by_cases hb:ae<=k
    ·rw [if_pos hb] at ho
     have hlt:=(List.getElem?_eq_some_iff.1 ho).1
     have:=(hlook _ _ (hks (k - ae) (by omega))).1
     rw [Nat.add_sub_cancel' hb] at this
     rw [this];exact ho
    ·rw [if_neg hb] at ho;cases ho
   have hmem:∀k,k∈(List.range os.length).map (ae+·)->live (af os1 ae) k:=by
    intro k hk
    simp only [List.mem_map,List.mem_range] at hk
    obtain ⟨i,hi,rfl⟩:=hk
    refine ⟨os1[i]'(by omega),?_⟩
    rw [bx,if_pos (Nat.le_add_right _ _),Nat.add_sub_cancel_left]
    exact List.getElem?_eq_getElem _
   have hkk:∀k o,alook (af os1 ae) k=some o->k∈(List.range os.length).map (ae+·):=by
    intro k o ho
    obtain ⟨h1,h2⟩:=fj ⟨o,ho⟩
    simp only [List.mem_map,List.mem_range]
    exact ⟨k - ae,by omega,by omega⟩
   obtain ⟨v,hv,hrv,hrk⟩:∃v,(results fn a'.tmps).run X.P c'.w=.ok v c'.w/\Rep c2 r v/\∀k∈r.keys,k∈ak (bt rs'):=by
    have hm':(fn.results.mapM (m:=Sem) (xO a'.tmps)).run X.P c'.w=.ok xs.toArray c'.w:=by
     rw [Array.mapM_eq_mapM_toList]
     simp only [Sem.run_map]
     rw [hrun];rfl
    have hres':∀ (v:Value),(if h:xs.toArray.size=1 then xs.toArray[0] else Value.tuple xs.toArray)=v->(results fn a'.tmps).run X.P c'.w=.ok v c'.w:=by
     intro v hv
     rw [kr]
     simp only [Sem.run_bind,hm',Result.andThen_ok]
     rw [hv];rfl
    by_cases h1:xs.length=1
    ·obtain ⟨x,rfl⟩:=List.length_eq_one_iff.1 h1
     have hl:(bt rs').length=1:=by rw [<-hs2.1];rfl
     obtain ⟨u,hu⟩:=List.length_eq_one_iff.1 hl
     rw [hu] at hres
     dsimp only at hres
     subst hres
     refine ⟨x,hres' x (by simp),(hs2.2 0 u (by rw [hu];rfl)).rep,λk hk=>by rw [hu];simpa [ak] using hk⟩
    ·have hl:(bt rs').length≠1:=by rw [<-hs2.1];exact h1
     have hr:r=.tup (bt rs'):=by
      rw [<-hres]
      cases h:bt rs' with
      | nil=>rfl
      | cons u l=>cases l with
       | nil=>rw [h] at hl;simp at hl
       | cons _ _=>rfl
     subst hr
     refine ⟨.tuple xs.toArray,hres' _ (by rw [dif_neg];simpa using h1),.tup _ _ hfn.1 hfn.2.1,λk hk=>by simpa [AV.keys] using hk⟩
   refine ⟨v,hv,c2,v,rfl,e1,e2.good,⟨e2.frame.os,e2.frame.output,e2.frame.tape,e2.frame.size,e2.frame.block,e2.frame.ext,e2.frame.new⟩,⟨λk o ho=>e2.objs.rep k o (hsub k o ho),λk o k' o' b hk hk'=>e2.objs.apart k o k' o' b (hsub k o hk) (hsub k' o' hk'),λk o ho q hq=>?_⟩,
    hrv,λk hk=>hmem k (bS hb.1 k (hrk k hk)),λk o b ho hb'=>e2.mine k o b (hsub k o ho) hb'⟩
   exact hmem q (bS hb.2 q (cP (hkk k o ho) (hsub k o ho) q hq))
  cases ex with
  | exit id=>simp at hex
  | nor=>exact hL _ _ _ _ _ _ (hfin hex)
  | ret=>exact hL _ _ _ _ _ _ (hfin hex)
def gJ (P:Program):Prop:=∀ (f:FuncId) (fn:Func),P.funcs[f]?=some fn->(fn.name=="runtime.NumGoroutine")=false/\∀c,fn.body=some c->codeOk fn.ntmps c=true
theorem qY {V:Env} (hm:V.P.follows .mixedOrders=true) (hP:gJ V.P)
  (hext:∀f l os r os',V.isExt f=true->V.pre f l os=true->V.ext f l os=some (r,os')->j8 V.P V.G f l os r os'/\∃fn,V.P.funcs[f]?=some fn/\(fn.name=="runtime.NumGoroutine")=false/\fn.body.isSome=true) :
  ∀n,cj (V.cfg (EP V n))
 | 0=>λf l os r os' _ h=>by cases h
 | n+1=>λf l os r os' hp h=>by
  have h':E V (n+1) f l os=some (r,os'):=h
  rw [A3] at h'
  cases he:V.isExt f with
  | true=>
   simp only [he,cond_true] at h'
   have hp':cond (V.isExt f) (V.pre f l os) true=true:=hp
   rw [he] at hp'
   exact hext f l os r os' he hp' h'
  | false=>
   simp only [he,cond_false] at h'
   have hX:=qY hm hP hext n
   have hh:=h'
   unfold v8 at hh
   cases hf:(V.cfg (EP V n)).P.funcs[f]? with
   | none=>simp only [hf] at hh;cases hh
   | some fn=>
    have hf':V.P.funcs[f]?=some fn:=hf
    obtain ⟨h1,h2⟩:=hP f fn hf'
    refine ⟨m3 (X:=V.cfg (EP V n)) hX hm ⟨λp g hg=>(by cases hg),λp g hg=>(by cases hg),λp g hg=>(by cases hg),λp g hg=>(by cases hg)⟩ hf h2 h',fn,hf',h1,?_⟩
    cases hb:fn.body with
    | none=>simp only [hf,hb] at hh;cases hh
    | some c=>rfl
end Go.Ab

namespace Go.Ab
open Go Go.RowKit
def Ct (P:Program) (G:Nat->Option (List AV)) (f:FuncId) (l:List AV) (os:List AO) (r:AV×List AO):Prop:=
 j8 P G f l os r.1 r.2/\∃fn,P.funcs[f]?=some fn/\(fn.name=="runtime.NumGoroutine")=false/\fn.body.isSome=true
structure Ent where
 f:FuncId
 pre:List AV->List AO->Bool
 ans:List AV->List AO->AV×List AO
def mkE {τ:Type} (f:FuncId) (g:List AV->List AO->Bool) (v:List AV->List AO->τ) (φ:τ->AV×List AO):Ent:=⟨f,g,λl os=>φ (v l os)⟩
def kO:List Ent->FuncId->Option Ent
 | [],_=>none
 | e::r,f=>cond (Nat.beq e.f f) (some e) (kO r f)
abbrev Orc:=St->(Ex->St->Res)->Res
abbrev Vw:=St->(St->Res)->Res
def eqP:List Nat->List Nat->Bool
 | [],[]=>true
 | a::r,b::q=>Nat.beq a b&&eqP r q
 | _,_=>false
def p9 {α:Type}:List (List Nat×α)->List Nat->Option α
 | [],_=>none
 | e::r,p=>cond (eqP e.1 p) (some e.2) (p9 r p)
def hn (k o:List Nat) (p:List (Nat×Nat×TypeId)) (c:List (Nat×Nat×Nat×TypeId)):Hint:={keep:=k,objs:=o,promote:=p,promoteCell:=c}
def tr (p k o:List Nat):List Nat×Hint:=(p,{keep:=k,objs:=o})
def zr:List (List Nat×Hint)->List Nat->Option Hint
 | [],_=>none
 | e::r,p=>cond (eqP e.1 p) (some e.2) (zr r p)
def mkO {τ:Type} (g:St->Bool) (v:St->τ) (out:τ->(Ex->St->Res)->Res):Orc:=λs k=>cond (g s) (out (v s) k) none
def Env.tab (V:Env) (T:List Ent):Env:=
 {V with ext:=λf l os=>(kO T f).map λe=>e.ans l os,isExt:=λf=>(kO T f).isSome,pre:=λf l os=>match kO T f with | some e=>e.pre l os | none=>false}
def Env.run (V:Env) (T:List Ent) (d:Nat) (C L:List (List Nat×Orc)) (W:List (List Nat×Vw)) (f:FuncId):Cfg:=
 {(V.tab T).cfg (EP (V.tab T) d) with rngO:=λg p=>cond (Nat.beq g f) (p9 C p) none,loopO:=λg p=>cond (Nat.beq g f) (p9 L p) none,viewO:=λg p=>cond (Nat.beq g f) (p9 W p) none}
def tv (V:Env) (T:List Ent):Prop:=∀e∈T,∀l os,e.pre l os=true->Ct V.P V.G e.f l os (e.ans l os)
theorem sw {T:List Ent} {f:FuncId} {e:Ent} (h:kO T f=some e):e∈T/\e.f=f:=by
 induction T with
 | nil=>simp [kO] at h
 | cons x r ih=>
  simp only [kO] at h
  cases hb:Nat.beq x.f f with
  | true=>simp only [hb,cond_true,Option.some.injEq] at h;subst h;exact ⟨by simp,dv hb⟩
  | false=>simp only [hb,cond_false] at h;exact ⟨List.mem_cons_of_mem _ (ih h).1,(ih h).2⟩
theorem dS {α:Type} {C:List (List Nat×α)} {p:List Nat} {g:α} (h:p9 C p=some g):(p,g)∈C:=by
 have eqP_eq:∀ {a b:List Nat},eqP a b=true->a=b:=by
  intro a
  induction a with
  | nil=>intro b h;cases b <;> simp [eqP] at h ⊢
  | cons x r ih=>
   intro b h
   cases b with
   | nil=>simp [eqP] at h
   | cons y q=>simp only [eqP,Bool.and_eq_true] at h;rw [dv h.1,ih h.2]
 induction C with
 | nil=>simp [p9] at h
 | cons x r ih=>
  simp only [p9] at h
  cases hb:eqP x.1 p with
  | true=>simp only [hb,cond_true,Option.some.injEq] at h;subst h;rw [<-eqP_eq hb];simp
  | false=>simp only [hb,cond_false] at h;exact List.mem_cons_of_mem _ (ih h)
def iB (g:Vw):Prop:=∀s k r,g s k=some r->∃s',k s'=some r/\∀ (B:Base) (c:Cx) (a:Act),Rel B c s a->bI s->∃c',c'.w=c.w/\Rel B c' s' a/\bI s'
def bW (X:Cfg) (f:FuncId) (p:List Nat) (g:Orc):Prop:=∀s k r,g s k=some r->∃n m,qm X f n m (dw (bA X.P f) p) p s k=some r
theorem j3 {V:Env} {T:List Ent} (hm:V.P.follows .mixedOrders=true) (hP:gJ V.P) (hT:tv V T) (d:Nat) (C L:List (List Nat×Orc)) (W:List (List Nat×Vw)) (f:FuncId):cj (V.run T d C L W f):=by
 have h:=qY (V:=V.tab T) hm hP (λg l os r os' hi hp he=>by
  simp only [Env.tab] at hi hp he
  cases hg:kO T g with
  | none=>simp [hg] at hi
  | some e=>
   obtain ⟨hmem,hf⟩:=sw hg
   simp only [hg] at hp
   simp only [hg,Option.map_some,Option.some.injEq] at he
   have:=hT e hmem l os hp
   rw [hf,he] at this
   exact this) d
 exact h
theorem vn {V:Env} {T:List Ent} {d:Nat} {C L:List (List Nat×Orc)} {W:List (List Nat×Vw)} {f:FuncId} {n:Nat} {l:List AV} {os:List AO} {r:AV×List AO} (hm:V.P.follows .mixedOrders=true) (hP:gJ V.P) (hT:tv V T)
  (hC:∀e∈C,qX (V.run T d C L W f) f e.1 e.2) (hL:∀e∈L,bW (V.run T d C L W f) f e.1 e.2) (hW:∀e∈W,iB e.2)
  (he:v8 (V.run T d C L W f) n f l os=some r):Ct V.P V.G f l os r:=by
 have hO:OracOk (V.run T d C L W f) f:=by
  refine ⟨λp g hg=>?_,λp g hg=>?_,λp g hg=>?_,λp g hg=>?_⟩
  ·cases hg
  ·simp only [Env.run,Nat.beq_refl,cond_true] at hg
   exact hW _ (dS hg)
  ·simp only [Env.run,Nat.beq_refl,cond_true] at hg
   exact hL _ (dS hg)
  ·simp only [Env.run,Nat.beq_refl,cond_true] at hg
   exact hC _ (dS hg)
 have hh:=he
 unfold v8 at hh
 cases hf:(V.run T d C L W f).P.funcs[f]? with
 | none=>simp only [hf] at hh;cases hh
 | some fn=>
  have hf':V.P.funcs[f]?=some fn:=hf
  obtain ⟨h1,h2⟩:=hP f fn hf'
  refine ⟨m3 (X:=V.run T d C L W f) (j3 hm hP hT d C L W f) hm hO hf h2 he,fn,hf',h1,?_⟩
  cases hb:fn.body with
  | none=>simp only [hf,hb] at hh;cases hh
  | some c=>rfl
def vE (X:Cfg) (f:FuncId) (L:List (List Nat×Orc)):Prop:=∀e∈L,bW X f e.1 e.2
theorem pc {X:Cfg} {f:FuncId} {p:List Nat} {g:Orc} {r:List (List Nat×Orc)} (h:bW X f p g) (hr:vE X f r):vE X f ((p,g)::r):=λx hx=>by
 rcases List.mem_cons.1 hx with rfl | hx
 ·exact h
 ·exact hr x hx
theorem yI {V:Env} (hm:V.P.follows .mixedOrders=true) (hP:gJ V.P) (hE:∀f,V.isExt f=false) {n:Nat} {f:FuncId} {l:List AV} {os:List AO} {r:AV×List AO} (he:E V n f l os=some r):Ct V.P V.G f l os r:=
 qY hm hP (λf _ _ _ _ h=>by rw [hE f] at h;cases h) n f l os r.1 r.2 (by simp [Env.cfg,hE]) he
theorem Ct.args {P:Program} {G:Nat->Option (List AV)} {f:FuncId} {l l':List AV} {os:List AO} {r:AV×List AO} (h:Ct P G f l os r) (hl:l'.length=l.length) (hk:ak l=[])
  (hw:∀ (i:Nat) (u u':AV),l[i]?=some u->l'[i]?=some u'->∀c v,Rep c u' v->Rep c u v):Ct P G f l' os r:=by
 refine ⟨λc0 vs hg ho hs hr _=>h.1 c0 vs hg ho (by rw [hs,hl]) (λi u hu=>?_) (λk hk'=>by rw [hk] at hk';simp at hk'),h.2⟩
 have hlt:=(List.getElem?_eq_some_iff.1 hu).1
 have hu':l'[i]?=some (l'[i]'(by omega)):=List.getElem?_eq_getElem _
 exact hw i u _ hu hu' c0 _ (hr i _ hu')
theorem Ct.res {P:Program} {G:Nat->Option (List AV)} {f:FuncId} {l:List AV} {os os':List AO} {r r':AV} (h:Ct P G f l os (r,os')) (hk:r'.keys=[]) (hw:∀c v,Rep c r v->Rep c r' v):Ct P G f l os (r',os'):=by
 refine ⟨λc0 vs hg ho hs hr hl=>(h.1 c0 vs hg ho hs hr hl).mono ?_,h.2⟩
 rintro e w' ⟨c',x,h1,h2,h3,h4,h5,h6,h7,h8⟩
 exact ⟨c',x,h1,h2,h3,h4,h5,hw _ _ h6,λk hk'=>by rw [hk] at hk';simp at hk',h8⟩
def gU:List AV->List AV->Bool
 | [],[]=>true
 | .int k n::r,.int k' n'::q=>decide (k=k')&&(n==n'&&gU r q)
 | .str s::r,.str s'::q=>s==s'&&gU r q
 | .bool s::r,.bool s'::q=>s==s'&&gU r q
 | _,_=>false
theorem iI:∀ {a b:List AV},gU a b=true->a=b
 | [],[],_=>rfl
 | .int k n::r,.int k' n'::q,h=>by simp only [gU,Bool.and_eq_true,decide_eq_true_eq,beq_iff_eq] at h;rw [h.1,h.2.1,iI h.2.2]
 | .str s::r,.str s'::q,h=>by simp only [gU,Bool.and_eq_true,beq_iff_eq] at h;rw [h.1,iI h.2]
 | .bool s::r,.bool s'::q,h=>by simp only [gU,Bool.and_eq_true,beq_iff_eq] at h;rw [h.1,iI h.2]
def uj (n:Nat) (get get':Nat->List AV):Bool:=(List.range n).all λj=>gU (get j) (get' j)
theorem uh {n:Nat} {get get':Nat->List AV} (h:uj n get get'=true):∀j,j < n->get j=get' j:=λj hj=>
 iI (List.all_eq_true.1 h j (List.mem_range.2 hj))
theorem Rep.zz {c:Cx} {o:Own} {sz n:Nat} {get get':Nat->List AV} {v:Value} (he:∀j,j < n->get' j=get j) (h:Rep c (.sl o sz n get) v):Rep c (.sl .no sz n get') v:=by
 cases h with
 | slNil=>exact .slNil .no sz get' trivial
 | sl _ _ _ _ a cap vals h1 h2 h3 h4 h5 h6=>
  exact .sl .no sz n get' a cap vals h1 h2 trivial (λj hj=>by rw [he j hj];exact h4 j hj) (λj i u hj hu=>h5 j i u hj (by rw [<-he j hj];exact hu)) (λj i u hj hu=>h6 j i u hj (by rw [<-he j hj];exact hu))
def xW (X:Cfg) (f:FuncId) (n:Nat) (c:Code) (p:List Nat) (k:Ex->St->Res):Nat->St->Res
 | 0,_=>none
 | m+1,s=>qm X f n m c p s k
def fq (X:Cfg) (f:FuncId) (n:Nat) (p:List Nat) (s:St) (kn:St->Res) (k:Ex->St->Res):Res:=
 fN X f n (dw (bA X.P f) (p++[0])) (p++[0]) s λe s'=>match e with
  | .nor=>(jb X.P (X.hint f (kl (dw (bA X.P f) (p++[0])))) s').bind kn
  | e=>k e s'
theorem wq {X:Cfg} {f:FuncId} {n:Nat} {p:List Nat} {b:Code} {σ:Type} (S:σ->St) (Inv:σ->Prop) (μ:σ->Nat) (out:σ->(Ex->St->Res)->Res) (hb:dw (bA X.P f) p=.loop b)
  (round:∀v,Inv v->∀ (k:Ex->St->Res) (kn:St->Res),(∀v',Inv v'->μ v' < μ v->kn (S v')=out v' k)->fq X f n p (S v) kn k=out v k) :
  ∀ (m:Nat) (v:σ),Inv v->μ v<=m->∀k,qm X f n m (dw (bA X.P f) p) p (S v) k=out v k:=by
 have hb0:dw (bA X.P f) (p++[0])=b:=by rw [bf,hb];simp [dw]
 have hnext:∀ (m:Nat) (s:St) (k:Ex->St->Res),mS X.P (fN X f n b (p++[0])) (X.hint f (kl b)) m s k=(jb X.P (X.hint f (kl b)) s).bind (xW X f n (.loop b) p k m):=by
  intro m s k
  cases m with
  | zero=>
   simp only [mS]
   cases jb X.P (X.hint f (kl b)) s <;> rfl
  | succ m=>rfl
 intro m
 induction m with
 | zero=>
  intro v hv hm k
  rw [hb]
  simp only [qm,hnext]
  have:=round v hv k (xW X f n (.loop b) p k 0) (λv' _ h=>by omega)
  simp only [fq,hb0] at this
  exact this
 | succ m ih=>
  intro v hv hm k
  rw [hb]
  simp only [qm,hnext]
  have:=round v hv k (xW X f n (.loop b) p k (m+1)) (λv' hv' h=>by
   have:=ih v' hv' (by omega) k
   rw [hb] at this
   exact this)
  simp only [fq,hb0] at this
  exact this
section
open Classical
variable {α τ:Type}
noncomputable def sV (S:α->St) (Inv:α->Prop) (s:St):Bool:=decide (∃v,Inv v/\S v=s)
noncomputable def vS [Inhabited τ] (S:α->St) (Inv:α->Prop) (w:α->τ) (s:St):τ:=if h:∃v,Inv v/\S v=s then w h.choose else default
noncomputable def wC (A:α->List AV) (O:α->List AO) (Pre:α->Prop) (l:List AV) (os:List AO):Bool:=decide (∃v,Pre v/\A v=l/\O v=os)
noncomputable def Ej [Inhabited τ] (A:α->List AV) (O:α->List AO) (Pre:α->Prop) (w:α->τ) (l:List AV) (os:List AO):τ:=if h:∃v,Pre v/\A v=l/\O v=os then w h.choose else default
theorem nR {S:α->St} {Inv:α->Prop} {v:α} (h:Inv v):sV S Inv (S v)=true:=decide_eq_true ⟨v,h,rfl⟩
theorem wB {A:α->List AV} {O:α->List AO} {Pre:α->Prop} {v:α} (h:Pre v):wC A O Pre (A v) (O v)=true:=decide_eq_true ⟨v,h,rfl,rfl⟩
theorem uL [Inhabited τ] {X:Cfg} {f:FuncId} {p:List Nat} {b:Code} (S:α->St) (Inv:α->Prop) (μ:α->Nat) (w:α->τ) (out:τ->(Ex->St->Res)->Res) (hb:dw (bA X.P f) p=.loop b) (n:Nat)
  (round:∀v,Inv v->∀ (k:Ex->St->Res) (kn:St->Res),(∀v',Inv v'->μ v' < μ v->kn (S v')=out (w v') k)->fq X f n p (S v) kn k=out (w v) k) :
  bW X f p (mkO (sV S Inv) (vS S Inv w) out):=by
 intro s k r h
 unfold mkO at h
 obtain ⟨hg,h⟩:=bc h
 have hx:∃v,Inv v/\S v=s:=of_decide_eq_true hg
 unfold vS at h
 rw [dif_pos hx] at h
 refine ⟨n,μ hx.choose,?_⟩
 have:=wq S Inv μ (λv=>out (w v)) hb round (μ hx.choose) hx.choose hx.choose_spec.1 (Nat.le_refl _) k
 rw [hx.choose_spec.2] at this
 rw [this];exact h
end
theorem wrap_i64 {x:Int} (h0 : -9223372036854775808<=x) (h1:x < 9223372036854775808):IntKind.i64.wrap x=x:=by
 simp [IntKind.wrap,IntKind.signed,IntKind.bits] <;> (try split) <;> omega
theorem lQ {x:Int} {n:Nat} (h0:0<=x) (h1:x < n):within x n=true:=by simp [within,h0,h1]
end Go.Ab

namespace Go.Ab
open Go
section
variable {τ:Type} [Inhabited τ]
def scan (n:Nat) (nxt:Nat->Nat) (stop:Nat->Option τ):Nat->Nat->Bool×τ
 | 0,_=>(false,default)
 | d+1,i=>if i < n then (match stop i with
   | some t=>(true,t)
   | none=>scan n nxt stop d (nxt i)) else (false,default)
theorem oQ {n:Nat} {nxt:Nat->Nat} {stop:Nat->Option τ} (hn:∀i,i < n->i < nxt i):∀ (d e i:Nat),n - i<=d->n - i<=e->scan n nxt stop d i=scan n nxt stop e i
 | 0,e,i,h,h'=>by
  cases e with
  | zero=>rfl
  | succ e=>simp only [scan];rw [if_neg (by omega)]
 | d+1,0,i,h,h'=>by simp only [scan];rw [if_neg (by omega)]
 | d+1,e+1,i,h,h'=>by
  simp only [scan]
  by_cases hi:i < n
  ·rw [if_pos hi,if_pos hi]
   have:=hn i hi
   rw [oQ hn d e (nxt i) (by omega) (by omega)]
  ·rw [if_neg hi,if_neg hi]
def dQ (n:Nat) (nxt:Nat->Nat) (stop:Nat->Option τ) (i:Nat):Bool×τ:=scan n nxt stop (n - i) i
theorem fR (n:Nat) (nxt:Nat->Nat) (stop:Nat->Option τ) {i:Nat} (h:¬ i < n):dQ n nxt stop i=(false,default):=by
 unfold dQ
 rw [show n - i=0 by omega];rfl
theorem jg {n:Nat} {nxt:Nat->Nat} {stop:Nat->Option τ} (hn:∀i,i < n->i < nxt i) {i:Nat} (h:i < n):dQ n nxt stop i=(match stop i with
  | some t=>(true,t)
  | none=>dQ n nxt stop (nxt i)):=by
 unfold dQ
 obtain ⟨d,hd⟩:∃d,n - i=d+1:=⟨n - i - 1,by omega⟩
 rw [hd]
 simp only [scan]
 rw [if_pos h]
 have:=hn i h
 rw [oQ hn d (n - nxt i) (nxt i) (by omega) (Nat.le_refl _)]
theorem rl {n:Nat} {nxt:Nat->Nat} {stop:Nat->Option τ} {P:τ->Prop} (h:∀i t,i < n->stop i=some t->P t):∀d i,(scan n nxt stop d i).1=true->P (scan n nxt stop d i).2
 | 0,i,hs=>by simp [scan] at hs
 | d+1,i,hs=>by
  simp only [scan] at hs ⊢
  by_cases hi:i < n
  ·rw [if_pos hi] at hs ⊢
   cases ht:stop i with
   | some t=>exact h i t hi ht
   | none=>rw [ht] at hs;exact rl h d (nxt i) hs
  ·rw [if_neg hi] at hs;simp at hs
theorem sF {n:Nat} {nxt:Nat->Nat} {stop:Nat->Option τ} {P:τ->Prop} (h:∀i t,i < n->stop i=some t->P t) (i:Nat) (hs:(dQ n nxt stop i).1=true):P (dQ n nxt stop i).2:=rl h _ _ hs
def seek (n:Nat) (nxt:Nat->Nat) (bad:Nat->Bool) (t:τ):Bool×τ:=dQ n nxt (λi=>bif bad i then some t else none) 0
theorem rk {n:Nat} {nxt:Nat->Nat} {bad:Nat->Bool} {t:τ} (h:(seek n nxt bad t).1=true):(seek n nxt bad t).2=t:=
 sF (P:=λx=>x=t) (λi u _ hu=>by cases hb:bad i <;> simp [hb] at hu;exact hu.symm) 0 h
def yY (outS:τ->(Ex->St->Res)->Res) (outE:(Ex->St->Res)->Res) (o:Bool×τ) (k:Ex->St->Res):Res:=cond o.1 (outS o.2 k) (outE k)
end
theorem Cr {i n:Nat} (h:i < n):decide ((i:Int) < (n:Int))=true:=decide_eq_true (by omega)
theorem bJ {i n:Nat} (h:i < n):within (i:Int) n=true:=lQ (by omega) (by omega)
def DE (t:Nat) (b:Bool) (k:Ex->St->Res):Res:=k .ret {env:=[(t,.bool b)],objs:=[]}
end Go.Ab

namespace Go.Ab
open Go
section
variable {τ:Type} [Inhabited τ]
noncomputable def g1 (A:List AV):List AV->List AO->Bool:=wC (λ_:Unit=>A) (λ_=>[]) (λ_=>True)
noncomputable def v1 (A:List AV) (w:τ):List AV->List AO->τ:=Ej (λ_:Unit=>A) (λ_=>[]) (λ_=>True) (λ_=>w)
end
end Go.Ab

namespace Go.Ab
open Go
section
variable {α τ:Type} [Inhabited τ]
theorem lR {S:α->St} {Inv:α->Prop} {w:α->τ} {Post:α->τ->Prop} (hw:∀a,Inv a->Post a (w a)) (hi:∀a b x,S a=S b->Post a x->Post b x) {a:α} (h:Inv a):Post a (vS S Inv w (S a)):=by
 have hx:∃u,Inv u/\S u=S a:=⟨a,h,rfl⟩
 unfold vS
 rw [dif_pos hx]
 exact hi _ _ _ hx.choose_spec.2 (hw _ hx.choose_spec.1)
open Classical in
theorem uK {ι:Type} {Xf:ι->Cfg} {f:FuncId} {p:List Nat} {b:Code} (S:α->St) (Inv:α->Prop) (μ:α->Nat) (out:τ->(Ex->St->Res)->Res) (Post:α->τ->Prop) (hb:∀i,dw (bA (Xf i).P f) p=.loop b) (n:Nat)
  (round:∀v,Inv v->(∃o,Post v o/\∀ (i:ι) (k:Ex->St->Res) (kn:St->Res),fq (Xf i) f n p (S v) kn k=out o k) ∨
   ∃v',Inv v'/\μ v' < μ v/\(∀o,Post v' o->Post v o)/\∀ (i:ι) (k:Ex->St->Res) (kn:St->Res),fq (Xf i) f n p (S v) kn k=kn (S v')) :
  ∃w:α->τ,(∀v,Inv v->Post v (w v))/\∀i,bW (Xf i) f p (mkO (sV S Inv) (vS S Inv w) out):=by
 let F:(v:α)->((v':α)->μ v' < μ v->τ)->τ:=λv rec=>
  if hi:Inv v then
   if h1:∃o,Post v o/\∀ (i:ι) (k:Ex->St->Res) (kn:St->Res),fq (Xf i) f n p (S v) kn k=out o k then h1.choose
   else if h2:∃v',Inv v'/\μ v' < μ v/\(∀o,Post v' o->Post v o)/\∀ (i:ι) (k:Ex->St->Res) (kn:St->Res),fq (Xf i) f n p (S v) kn k=kn (S v') then rec h2.choose h2.choose_spec.2.1
   else default
  else default
 let w:α->τ:=WellFounded.fix (measure μ).wf F
 have hw:∀v,w v=F v λv' _=>w v':=λv=>WellFounded.fix_eq (measure μ).wf F v
 have hpost:∀ (m:Nat) (v:α),μ v<=m->Inv v->Post v (w v):=by
  intro m
  induction m with
  | zero=>
   intro v hm hi
   rw [hw]
   simp only [F]
   rw [dif_pos hi]
   by_cases h1:∃o,Post v o/\∀ (i:ι) (k:Ex->St->Res) (kn:St->Res),fq (Xf i) f n p (S v) kn k=out o k
   ·rw [dif_pos h1];exact h1.choose_spec.1
   ·obtain ⟨v',_,h,_⟩:=(round v hi).resolve_left h1
    omega
  | succ m ih=>
   intro v hm hi
   rw [hw]
   simp only [F]
   rw [dif_pos hi]
   by_cases h1:∃o,Post v o/\∀ (i:ι) (k:Ex->St->Res) (kn:St->Res),fq (Xf i) f n p (S v) kn k=out o k
   ·rw [dif_pos h1];exact h1.choose_spec.1
   ·have h2:=(round v hi).resolve_left h1
    rw [dif_neg h1,dif_pos h2]
    have:=h2.choose_spec
    exact this.2.2.1 _ (ih _ (by omega) this.1)
 refine ⟨w,λv hi=>hpost _ v (Nat.le_refl _) hi,λi=>?_⟩
 refine uL S Inv μ w out (hb i) n λv hi k kn hk=>?_
 rw [hw]
 simp only [F]
 rw [dif_pos hi]
 by_cases h1:∃o,Post v o/\∀ (i:ι) (k:Ex->St->Res) (kn:St->Res),fq (Xf i) f n p (S v) kn k=out o k
 ·rw [dif_pos h1];exact h1.choose_spec.2 i k kn
 ·have h2:=(round v hi).resolve_left h1
  rw [dif_neg h1,dif_pos h2]
  have:=h2.choose_spec
  rw [this.2.2.2 i k kn]
  exact hk _ this.1 this.2.1
end
section
variable {τ:Type}
noncomputable def j0 (f:FuncId) (A:List AV) (O:List AO) (x:τ) (φ:τ->AV×List AO):Ent:=mkE f (wC (λ_:Unit=>A) (λ_=>O) (λ_=>True)) (λ_ _=>x) φ
theorem jo (A:List AV) (O:List AO):wC (λ_:Unit=>A) (λ_=>O) (λ_=>True) A O=true:=wB (A:=λ_:Unit=>A) (O:=λ_=>O) (v:=()) trivial
end
end Go.Ab

namespace Go.Ab
open Go
theorem cx {α:Type} {Q:α->Prop} {c:Bool} {A B:α} (h1:c=true->Q A) (h2:c=false->Q B):Q (cond c A B):=by
 cases c
 ·exact h2 rfl
 ·exact h1 rfl
def cK {τ:Type} (Post:τ->Prop) (φ:τ->AV×List AO) (e:Res):Prop:=∃x,Post x/\e=some (φ x)
theorem cK.c {τ:Type} {Post:τ->Prop} {φ:τ->AV×List AO} {c:Bool} {a b:Res} (h1:c=true->cK Post φ a) (h2:c=false->cK Post φ b):cK Post φ (cond c a b):=cx (Q:=cK Post φ) h1 h2
theorem cK.t {τ:Type} {Post:τ->Prop} {φ:τ->AV×List AO} {c:Bool} {a b:Res} (h:c=true) (h1:cK Post φ a):cK Post φ (cond c a b):=by subst h;exact h1
theorem cK.f {τ:Type} {Post:τ->Prop} {φ:τ->AV×List AO} {c:Bool} {a b:Res} (h:c=false) (h1:cK Post φ b):cK Post φ (cond c a b):=by subst h;exact h1
theorem cK.ret {τ:Type} {Post:τ->Prop} {φ:τ->AV×List AO} {r:AV×List AO} (x:τ) (h:Post x) (he:r=φ x):cK Post φ (some r):=⟨x,h,by rw [he]⟩
theorem cK.eq {τ:Type} {Post:τ->Prop} {φ:τ->AV×List AO} {e e':Res} (h:e=e') (h1:cK Post φ e'):cK Post φ e:=by rw [h];exact h1
theorem cK.mono {τ:Type} {Post Post':τ->Prop} {φ:τ->AV×List AO} {e:Res} (h:∀x,Post x->Post' x) (h1:cK Post φ e):cK Post' φ e:=by
 obtain ⟨x,h2,h3⟩:=h1;exact ⟨x,h x h2,h3⟩
section
variable {α τ ι:Type}
def RT (S:α->St) (Inv:α->Prop) (μ:α->Nat) (out:τ->(Ex->St->Res)->Res) (Post:α->τ->Prop) (v:α) (e:ι->(Ex->St->Res)->(St->Res)->Res):Prop:=
 (∃o,Post v o/\∀ (i:ι) (k:Ex->St->Res) (kn:St->Res),e i k kn=out o k) ∨
  ∃v',Inv v'/\μ v' < μ v/\(∀o,Post v' o->Post v o)/\∀ (i:ι) (k:Ex->St->Res) (kn:St->Res),e i k kn=kn (S v')
variable {S:α->St} {Inv:α->Prop} {μ:α->Nat} {out:τ->(Ex->St->Res)->Res} {Post:α->τ->Prop} {v:α}
theorem RT.c {c:Bool} {a b:ι->(Ex->St->Res)->(St->Res)->Res} (h1:c=true->RT S Inv μ out Post v a) (h2:c=false->RT S Inv μ out Post v b):RT S Inv μ out Post v (λi k kn=>cond c (a i k kn) (b i k kn)):=by
 cases c
 ·exact h2 rfl
 ·exact h1 rfl
theorem RT.t {c:Bool} {a b:ι->(Ex->St->Res)->(St->Res)->Res} (h:c=true) (h1:RT S Inv μ out Post v a):RT S Inv μ out Post v (λi k kn=>cond c (a i k kn) (b i k kn)):=by
 subst h;exact h1
theorem RT.f {c:Bool} {a b:ι->(Ex->St->Res)->(St->Res)->Res} (h:c=false) (h1:RT S Inv μ out Post v b):RT S Inv μ out Post v (λi k kn=>cond c (a i k kn) (b i k kn)):=by
 subst h;exact h1
theorem RT.eq {e e':ι->(Ex->St->Res)->(St->Res)->Res} (h:∀i k kn,e i k kn=e' i k kn) (h1:RT S Inv μ out Post v e'):RT S Inv μ out Post v e:=by
 rcases h1 with ⟨o,h2,h3⟩ | ⟨v',h2,h3,h4,h5⟩
 ·exact Or.inl ⟨o,h2,λi k kn=>(h i k kn).trans (h3 i k kn)⟩
 ·exact Or.inr ⟨v',h2,h3,h4,λi k kn=>(h i k kn).trans (h5 i k kn)⟩
theorem RT.fin (o:τ) (h:Post v o) {e:ι->(Ex->St->Res)->(St->Res)->Res} (he:∀i k kn,e i k kn=out o k):RT S Inv μ out Post v e:=Or.inl ⟨o,h,he⟩
theorem RT.next (v':α) (h:Inv v') (hm:μ v' < μ v) (hp:∀o,Post v' o->Post v o) {e:ι->(Ex->St->Res)->(St->Res)->Res} (he:∀i k kn,e i k kn=kn (S v')):RT S Inv μ out Post v e:=Or.inr ⟨v',h,hm,hp,he⟩
end
end Go.Ab

namespace Go.Ab
open Go
section
variable {τ:Type} {Post:τ->Prop} {φ:τ->AV×List AO}
theorem cK.by {e e':Res} (h1:cK Post φ e') (h:e=e'):cK Post φ e:=h ▸ h1
theorem cK.n {c:Bool} {a:Res} (h:c=true) (h1:cK Post φ a):cK Post φ (cond c a none):=cK.t h h1
theorem cK.r (x:τ) (h:Post x):cK Post φ (some (φ x)):=cK.ret x h rfl
theorem cK.g {α:Type} {T:α->Res} (x:α) (h:∀t,x=t->cK Post φ (T t)):cK Post φ (T x):=h x rfl
def cg {α:Type} (g:St->Bool) (w:St->α) (s:St) (Q:α->Prop):Prop:=g s=true/\Q (w s)
theorem cK.lp {α:Type} {g:St->Bool} {w:St->α} {s:St} {Q:α->Prop} {T:α->Res} (h:cg g w s Q) (k:∀t,Q t->cK Post φ (T t)):cK Post φ (cond (g s) (T (w s)) none):=cK.t h.1 (k _ h.2)
theorem cK.b {a b:Res} (c:Bool) (h1:c=true->cK Post φ a) (h2:c=false->cK Post φ b):cK Post φ (cond c a b):=cK.c h1 h2
end
section
variable {α τ ι:Type} {S:α->St} {Inv:α->Prop} {μ:α->Nat} {out:τ->(Ex->St->Res)->Res} {Post:α->τ->Prop} {v:α}
theorem RT.by {e e':ι->(Ex->St->Res)->(St->Res)->Res} (h1:RT S Inv μ out Post v e') (h:∀i k kn,e i k kn=e' i k kn):RT S Inv μ out Post v e:=RT.eq h h1
theorem RT.n {c:Bool} {a:ι->(Ex->St->Res)->(St->Res)->Res} (h:c=true) (h1:RT S Inv μ out Post v a):RT S Inv μ out Post v (λi k kn=>cond c (a i k kn) none):=RT.t h h1
theorem RT.b {a b:ι->(Ex->St->Res)->(St->Res)->Res} (c:Bool) (h1:c=true->RT S Inv μ out Post v a) (h2:c=false->RT S Inv μ out Post v b):RT S Inv μ out Post v (λi k kn=>cond c (a i k kn) (b i k kn)):=RT.c h1 h2
theorem RT.nx (s:St) (v':α) (h:Inv v') (hm:μ v' < μ v) (hp:∀o,Post v' o->Post v o) (hs:s=S v'):RT S Inv μ out Post v (λ(_:ι) (_:Ex->St->Res) (kn:St->Res)=>kn s):=RT.next v' h hm hp λ_ _ _=>by rw [hs]
theorem RT.fi (o:τ) (h:Post v o):RT S Inv μ out Post v (λ(_:ι) (k:Ex->St->Res) (_:St->Res)=>out o k):=RT.fin o h λ_ _ _=>rfl
end
structure RW where
 n:Nat
 g:Nat->List AV
instance:Inhabited RW:=⟨⟨0,λ_=>[]⟩⟩
def Byt (r:RW) (l:List UInt8):Prop:=r.n=l.length/\∀j,j < r.n->r.g j=rowOf l j
theorem Byt.app {n m:Nat} {g h:Nat->List AV} {a b:List UInt8} (h1:Byt ⟨n,g⟩ a) (h2:Byt ⟨m,h⟩ b):Byt ⟨n+m,ay n m g h⟩ (a++b):=by
 obtain ⟨a1,a2⟩:=h1
 obtain ⟨b1,b2⟩:=h2
 have a1:n=a.length:=a1
 have b1:m=b.length:=b1
 refine ⟨by show n+m=_;rw [List.length_append,a1,b1],λj hj=>?_⟩
 have hj:j < n+m:=hj
 show ay n m g h j=_
 by_cases hn:j < n
 ·rw [cU hn]
  refine (a2 j hn).trans ?_
  unfold rowOf
  rw [List.getD_eq_getElem?_getD,List.getD_eq_getElem?_getD,List.getElem?_append_left (by omega)]
 ·rw [dy (by omega) hj]
  refine (b2 (j - n) (by show j - n < m;omega)).trans ?_
  unfold rowOf
  rw [List.getD_eq_getElem?_getD,List.getD_eq_getElem?_getD,List.getElem?_append_right (by omega),a1]
theorem wa {b n:Nat} (h:n*b<=140737488355328):roomy b n=true:=Nat.ble_eq_true_of_le h
theorem bL {b n m:Nat} (h:n*b<=140737488355328):(roomy b n&&Nat.beq m m)=true:=by rw [wa h,Nat.beq_refl];rfl
end Go.Ab

namespace Go.Ab
open Go Go.RowKit
end Go.Ab

namespace Go.Ab
open Go Go.RowKit
def bC (base:List Nat):List Nat->List Nat
 | []=>[]
 | k::r=>cond (base.any (Nat.beq k)) (bC base r) (k::bC base r)
theorem eL {base:List Nat}:∀ {l:List Nat} {k:Nat},k∈bC base l->k∈l/\k ∉ base
 | [],k,h=>by simp [bC] at h
 | q::r,k,h=>by
  simp only [bC] at h
  cases hb:base.any (Nat.beq q) with
  | true=>
   rw [hb] at h
   obtain ⟨h1,h2⟩:=eL h
   exact ⟨List.mem_cons_of_mem _ h1,h2⟩
  | false=>
   rw [hb] at h
   rcases List.mem_cons.1 h with rfl | h
   ·refine ⟨List.mem_cons_self ..,λhk=>?_⟩
    have:=List.any_eq_false.1 hb k hk
    exact this (Nat.beq_refl k)
   ·obtain ⟨h1,h2⟩:=eL h
    exact ⟨List.mem_cons_of_mem _ h1,h2⟩
theorem eA {base:List Nat}:∀ {l:List Nat},l.Nodup->(bC base l).Nodup
 | [],_=>by simp [bC]
 | q::r,h=>by
  obtain ⟨h1,h2⟩:=List.nodup_cons.1 h
  simp only [bC]
  cases base.any (Nat.beq q) with
  | true=>exact eA h2
  | false=>exact List.nodup_cons.2 ⟨λhq=>h1 (eL hq).1,eA h2⟩
theorem List.cA (n:Nat):((List.range n).map (ae+·)).Nodup:=by
 rw [List.nodup_iff_pairwise_ne,List.pairwise_map]
 exact (List.nodup_iff_pairwise_ne.1 (List.nodup_range (n:=n))).imp λh e=>h (by omega)
def qH (X:Cfg) (fn:Func) (m:Nat) (s:St):Option (AV×List AO):=
 (jh X s fn.results.toList).bind λvs=>(bd s.objs vs).bind λa=>
  (ca a.2 ((List.range m).map (ae+·)++bC ((List.range m).map (ae+·)) (aX a.2 ((List.range m).map (ae+·)++ak (bt a.1))))).bind λos=>
   cond (kc (ak (bt a.1)) ((List.range m).map (ae+·)++bC ((List.range m).map (ae+·)) (aX a.2 ((List.range m).map (ae+·)++ak (bt a.1)))) &&
    kc (bg a.2 ((List.range m).map (ae+·)++bC ((List.range m).map (ae+·)) (aX a.2 ((List.range m).map (ae+·)++ak (bt a.1))))) ((List.range m).map (ae+·)++bC ((List.range m).map (ae+·)) (aX a.2 ((List.range m).map (ae+·)++ak (bt a.1)))))
    (some ((match bt a.1 with | [v]=>v | vs=>AV.tup vs).ren (λk=>ae+idxOf ((List.range m).map (ae+·)++bC ((List.range m).map (ae+·)) (aX a.2 ((List.range m).map (ae+·)++ak (bt a.1)))) k 0),
     os.map (AO.ren λk=>ae+idxOf ((List.range m).map (ae+·)++bC ((List.range m).map (ae+·)) (aX a.2 ((List.range m).map (ae+·)++ak (bt a.1)))) k 0))) none
def ue (X:Cfg) (n:Nat) (f:FuncId) (args:List AV) (objs:List AO):Option (AV×List AO):=
 match X.P.funcs[f]? with
 | some fn=>(match fn.body with
  | some c=>fN X f n c [] {env:=dc args 0,objs:=af objs ae} λe s=>
    (match e with
    | .exit _=>none
    | _=>qH X fn objs.length s)
  | none=>none)
 | none=>none
theorem px {c:Cx} {objs:List (Nat×AO)} (ho:Objs c objs) {ks:List Nat} (hn:ks.Nodup) {os:List AO} (hos:ca objs ks=some os) (hcl:∀q∈bg objs ks,q∈ks) :
  Objs {w:=c.w,I:=c.I,β:=λq=>c.β (ee ks (q - ae)),κ:=λq=>c.κ (ee ks (q - ae)),fr:=λq=>c.fr (ee ks (q - ae))} (af (os.map (AO.ren λk=>ae+idxOf ks k 0)) ae) /\
  (∀k∈ks,c.β (ee ks (ae+idxOf ks k 0 - ae))=c.β k/\∀n y,aD c (.key k) n y->aD {w:=c.w,I:=c.I,β:=λq=>c.β (ee ks (q - ae)),κ:=λq=>c.κ (ee ks (q - ae)),fr:=λq=>c.fr (ee ks (q - ae))} (.key (ae+idxOf ks k 0)) n y) /\
  (∀q o,alook (af (os.map (AO.ren λk=>ae+idxOf ks k 0)) ae) q=some o->∃k o0,k∈ks/\q=ae+idxOf ks k 0/\alook objs k=some o0/\o=o0.ren λk=>ae+idxOf ks k 0) /\
  (∀k∈ks,live (af (os.map (AO.ren λk=>ae+idxOf ks k 0)) ae) (ae+idxOf ks k 0)):=by
 obtain ⟨hol,hoo⟩:=eK hos
 let fwd:=λk=>ae+idxOf ks k 0
 let bwd:=λk=>ee ks (k - ae)
 have hfb:∀k∈ks,bwd (fwd k)=k:=λk hk=>by
  show ee ks (ae+idxOf ks k 0 - ae)=k
  rw [Nat.add_sub_cancel_left];exact b8 (bn 0 hk)
 have hbf:∀i k,ks[i]?=some k->bwd (ae+i)=k/\fwd k=ae+i:=λi k hk=>
  ⟨by show ee ks (ae+i - ae)=k;rw [Nat.add_sub_cancel_left];exact b8 hk,by show ae+idxOf ks k 0=_;rw [idx_eq hn hk]⟩
 let c0:Cx:={w:=c.w,I:=c.I,β:=λq=>c.β (bwd q),κ:=λq=>c.κ (bwd q),fr:=λq=>c.fr (bwd q)}
 have hβ0:∀k∈ks,c0.β (fwd k)=c.β k:=λk hk=>by show c.β (bwd (fwd k))=_;rw [hfb k hk]
 have hκ0:∀k∈ks,c0.κ (fwd k)=c.κ k:=λk hk=>by show c.κ (bwd (fwd k))=_;rw [hfb k hk]
 have hf0:∀k∈ks,c0.fr (fwd k)=c.fr k:=λk hk=>by show c.fr (bwd (fwd k))=_;rw [hfb k hk]
 have hown0:∀k∈ks,∀n y,aD c (.key k) n y->aD c0 (.key (fwd k)) n y:=λk hk n y=>by simp only [aD,hκ0 k hk,hf0 k hk];exact id
 have hfwd:∀k∈ks,c0.β (fwd k)=c.β k/\∀n y,aD c (.key k) n y->aD c0 (.key (fwd k)) n y:=λk hk=>⟨hβ0 k hk,hown0 k hk⟩
 have hlook:∀q o,alook (af (os.map (AO.ren fwd)) ae) q=some o->∃k o0,k∈ks/\q=fwd k/\alook objs k=some o0/\o=o0.ren fwd:=by
  intro q o hq
  rw [bx] at hq
  by_cases hb:ae<=q
  ·rw [if_pos hb,List.getElem?_map] at hq
   cases hi:os[q - ae]? with
   | none=>simp [hi] at hq
   | some o0=>
    simp [hi] at hq;subst hq
    have hlt:=(List.getElem?_eq_some_iff.1 hi).1
    have hk:ks[q - ae]?=some (ks[q - ae]'(by omega)):=List.getElem?_eq_getElem _
    refine ⟨_,o0,List.mem_of_getElem? hk,?_,by rw [(hoo _ _ hk).1,hi],rfl⟩
    rw [(hbf _ _ hk).2];omega
  ·rw [if_neg hb] at hq;simp at hq
 have hlook':∀k∈ks,∃o0,alook objs k=some o0/\alook (af (os.map (AO.ren fwd)) ae) (fwd k)=some (o0.ren fwd):=by
  intro k hk
  have hi:=bn 0 hk
  obtain ⟨h1,o0,h2⟩:=hoo _ _ hi
  refine ⟨o0,h2,?_⟩
  rw [bx,if_pos (Nat.le_add_right _ _)]
  show (os.map (AO.ren fwd))[ae+idxOf ks k 0 - ae]?=_
  rw [Nat.add_sub_cancel_left,List.getElem?_map,<-h1,h2];rfl
 have hO0:Objs c0 (af (os.map (AO.ren fwd)) ae):=by
  refine ⟨λq o hq=>?_,λq o q' o' b hq hq' hne hb=>?_,λq o hq r hr=>?_⟩
  ·obtain ⟨k,o0,hk,rfl,h1,rfl⟩:=hlook q o hq
   exact (ho.rep k o0 h1).ren rfl rfl (hβ0 k hk) (hκ0 k hk) (hf0 k hk) λq hq=>hfwd q (hcl q (cP hk h1 q hq))
  ·obtain ⟨k,o0,hk,rfl,h1,rfl⟩:=hlook q o hq
   obtain ⟨k',o0',hk',rfl,h1',rfl⟩:=hlook q' o' hq'
   rw [dD (hβ0 k hk) (hκ0 k hk)] at hb
   rw [dD (hβ0 k' hk') (hκ0 k' hk')]
   exact ho.apart k o0 k' o0' b h1 h1' (λe=>hne (by rw [e])) hb
  ·obtain ⟨k,o0,hk,rfl,h1,rfl⟩:=hlook q o hq
   obtain ⟨q',hq',rfl⟩:=AO.dA _ _ r hr
   obtain ⟨_,_,e⟩:=hlook' q' (hcl q' (cP hk h1 q' hq'))
   exact ⟨_,e⟩
 exact ⟨hO0,hfwd,hlook,λk hk=>by obtain ⟨_,_,e⟩:=hlook' k hk;exact ⟨_,e⟩⟩
theorem pU {X:Cfg} (hX:cj X) (hm:X.P.follows .mixedOrders=true) {f:FuncId} (hO:OracOk X f) {fn:Func} (hf:X.P.funcs[f]?=some fn) (hok:∀c,fn.body=some c->codeOk fn.ntmps c=true) {n:Nat} {args:List AV} {os:List AO}
  {r:AV} {os':List AO} (he:ue X n f args os=some (r,os')):j8 X.P X.G f args os r os':=by
 unfold ue at he
 rw [hf] at he
 dsimp only at he
 cases hbody:fn.body with
 | none=>simp [hbody] at he
 | some code=>
  simp only [hbody] at he
  have hcode:=hok code hbody
  intro c0 vs hgood hobjs hsz hrep hkeys
  let a0:Act:={tmps:=vs++Array.replicate (fn.ntmps - vs.size) undef,defers:=[]}
  let B:Base:={c0:=c0,D:=held c0 (af os ae),K:=live (af os ae),G:=X.G,N:=a0.tmps.size}
  let s0:St:={env:=dc args 0,objs:=af os ae}
  have hN:fn.ntmps<=B.N:=by simp [B,a0];omega
  have hcode':codeOk B.N code=true:=bQ hN hcode
  have hget:∀t v,s0.get t=some v->args[t]?=some v:=λt v hv=>by
   have:alook (dc args 0) t=some v:=hv
   rw [eD,if_pos (Nat.zero_le _)] at this;simpa using this
  have hval:∀t v,args[t]?=some v->Rep c0 v (a0.tmps.getD t undef):=λt v hv=>by
   have hlt:t < vs.size:=by rw [hsz];exact (List.getElem?_eq_some_iff.1 hv).1
   have e:a0.tmps.getD t undef=vs.getD t undef:=by
    simp only [a0,Array.getD_eq_getD_getElem?]
    rw [Array.getElem?_append_left hlt]
   rw [e];exact hrep t v hv
  have hplain:∀t v,s0.get t=some v->v.bX=false:=λt v hv=>by
   have:=hval t v (hget t v hv)
   generalize a0.tmps.getD t undef=V at this
   cases this <;> rfl
  have h0:Rel B c0 s0 a0:=by
   refine ⟨hgood,⟨rfl,rfl,rfl,Nat.le_refl _,λ_ _ _=>rfl,Ext.refl _ _,λ_ _ _ _ hi=>hi⟩,hobjs,λt v hv=>dz.nf (hplain t v hv) (hval t v (hget t v hv)),
    λt v hv k hk=>hkeys k (aH (hget t v hv) k hk),λk o b ho hb=>.inr ⟨k,o,ho,hb⟩,rfl,trivial,λk hk=>hk⟩
  refine jt hf hbody ?_
  refine cG (B:=B) hX rfl hm (λk hk=>(fj hk).1) rfl f hO code [] (by simp [bA,dw,hf,hbody]) hcode' n s0 c0 a0 _ (r,os') _ he h0 hplain λex s' c9 a' hex hr9 hn'=>?_
  obtain ⟨c',hr',hL⟩:=Rel.shut (B:=B) hgood rfl _ c9 a' rfl hr9
  have hfin:qH X fn os.length s'=some (r,os')->∃v,(results fn a'.tmps).run X.P c'.w=.ok v c'.w/\∃c2 x,Ending.returned v=.returned x/\c2.w=c'.w/\Good X.G c2 /\
   Frame {c0:=c0,D:=held c0 (af os ae),K:=live (af os ae),G:=X.G,N:=0} c2 /\
   Objs c2 (af os' ae)/\Rep c2 r x/\(∀k∈r.keys,live (af os' ae) k) /\
   ∀k o b,alook (af os' ae) k=some o->excl c2 k o=some b->c0.w.heap.size<=b∨held c0 (af os ae) b:=by
   intro hfin
   unfold qH at hfin
   obtain ⟨rs,h1,hfin⟩:=ag hfin
   obtain ⟨⟨rs',o1⟩,h2,hfin⟩:=ag hfin
   dsimp only at hfin
   obtain ⟨os1,h3,hfin⟩:=ag hfin
   obtain ⟨hb,hfin⟩:=bc hfin
   simp only [Option.some.injEq,Prod.mk.injEq] at hfin
   obtain ⟨hres,rfl⟩:=hfin
   simp only [Bool.and_eq_true] at hb
   obtain ⟨xs,hs,hrun⟩:=eY X hr' hn' h1
   obtain ⟨c2,e1,e2,e3,e4,e5⟩:=cY hr' hs h2
   have hs2:=e3.shed
   have hfn:=hs2.fn
   generalize hr0:(match bt rs' with | [v]=>v | vs=>AV.tup vs)=r0 at hres
   subst hres
   let ks:=(List.range os.length).map (ae+·)
   let all:=ks++bC ks (aX o1 (ks++ak (bt rs')))
   have hbase:ks.Nodup:=(List.cA os.length)
   have hall:all.Nodup:=List.nodup_append.2 ⟨hbase,eA (dI _ _).1,λx hx y hy e=>(eL hy).2 (e ▸ hx)⟩
   obtain ⟨hren,hkey,hlook,hlive⟩:=px e2.objs hall h3 (bS hb.2)
   obtain ⟨v,hv,hrv,hrk⟩:∃v,(results fn a'.tmps).run X.P c'.w=.ok v c'.w/\Rep c2 r0 v/\∀k∈r0.keys,k∈ak (bt rs'):=by
    have hm':(fn.results.mapM (m:=Sem) (xO a'.tmps)).run X.P c'.w=.ok xs.toArray c'.w:=by
     rw [Array.mapM_eq_mapM_toList]
     simp only [Sem.run_map]
     rw [hrun];rfl
    have hres':∀ (v:Value),(if h:xs.toArray.size=1 then xs.toArray[0] else Value.tuple xs.toArray)=v->(results fn a'.tmps).run X.P c'.w=.ok v c'.w:=by
     intro v hv
     rw [kr]
     simp only [Sem.run_bind,hm',Result.andThen_ok]
     rw [hv];rfl
    by_cases h1:xs.length=1
    ·obtain ⟨x,rfl⟩:=List.length_eq_one_iff.1 h1
     have hl:(bt rs').length=1:=by rw [<-hs2.1];rfl
     obtain ⟨u,hu⟩:=List.length_eq_one_iff.1 hl
     have hres:u=r0:=by rw [<-hr0,hu]
     subst hres
     refine ⟨x,hres' x (by simp),(hs2.2 0 u (by rw [hu];rfl)).rep,λk hk=>by rw [hu];simpa [ak] using hk⟩
    ·have hl:(bt rs').length≠1:=by rw [<-hs2.1];exact h1
     have hr:r0=.tup (bt rs'):=by
      rw [<-hr0]
      cases h:bt rs' with
      | nil=>rfl
      | cons u l=>cases l with
       | nil=>rw [h] at hl;simp at hl
       | cons _ _=>rfl
     rw [hr]
     refine ⟨.tuple xs.toArray,hres' _ (by rw [dif_neg];simpa using h1),.tup _ _ hfn.1 hfn.2.1,λk hk=>by simpa [AV.keys] using hk⟩
   let c3:Cx:={w:=c2.w,I:=c2.I,β:=λq=>c2.β (ee all (q - ae)),κ:=λq=>c2.κ (ee all (q - ae)),fr:=λq=>c2.fr (ee all (q - ae))}
   have hb0:∀k,live (af os ae) k->ee all (k - ae)=k:=by
    intro k hk
    obtain ⟨g1,g2⟩:=fj hk
    refine b8 ?_
    show (ks++_)[k - ae]?=some k
    rw [List.getElem?_append_left (by simpa [ks] using g2)]
    simp [ks,g2];omega
   have hown:∀k,live (af os ae) k->∀n y,aD c2 (.key k) n y->aD c3 (.key k) n y:=λk hk n y=>by
    simp only [aD,c3,hb0 k hk];exact id
   refine ⟨v,hv,c3,v,rfl,e1,⟨e2.good.there,λg cs hg=>(e2.good.globs g cs hg).ext (ks:=λ_=>False) ⟨λ_ _ _ _ hv=>hv,λ_ _ hi=>hi,λ_ hk=>hk.elim,λ_ hk=>hk.elim,λ_ _ _ _ hv _=>hv⟩ (by simp [AV.keys])⟩,
    ⟨e2.frame.os,e2.frame.output,e2.frame.tape,e2.frame.size,e2.frame.block,⟨e2.frame.ext.cell,e2.frame.ext.I,λk hk=>by show c2.β (ee all (k - ae))=_;rw [hb0 k hk];exact e2.frame.ext.β k hk,λk hk n y hy=>hown k hk n y (e2.frame.ext.own k hk n y hy),e2.frame.ext.map⟩,e2.frame.new⟩,
    hren,Rep.ren (c:=c2) (c':=c3) (λ_ _ _ _ hv=>hv) (λ_ _ hi=>hi) (λ_ _ _ _ hv _=>hv) hrv λq hq=>hkey q (bS hb.1 q (hrk q hq)),λk hk=>?_,λk o b ho hb'=>?_⟩
   ·obtain ⟨q,hq,rfl⟩:=dA _ _ k hk
    exact hlive q (bS hb.1 q (hrk q hq))
   ·obtain ⟨q,o0,hq,rfl,g1,rfl⟩:=hlook k o ho
    have:excl c3 (ae+idxOf all q 0) (o0.ren λk=>ae+idxOf all k 0)=excl c2 q o0:=dD (by show c2.β (ee all (ae+idxOf all q 0 - ae))=_;rw [Nat.add_sub_cancel_left,b8 (bn 0 hq)]) (by show c2.κ (ee all (ae+idxOf all q 0 - ae))=_;rw [Nat.add_sub_cancel_left,b8 (bn 0 hq)])
    rw [this] at hb'
    exact e2.mine q o0 b g1 hb'
  cases ex with
  | exit id=>simp at hex
  | nor=>exact hL _ _ _ _ _ _ (hfin hex)
  | ret=>exact hL _ _ _ _ _ _ (hfin hex)
theorem yK {V:Env} {T:List Ent} {d:Nat} {C L:List (List Nat×Orc)} {W:List (List Nat×Vw)} {f:FuncId} {n:Nat} {l:List AV} {os:List AO} {r:AV×List AO} (hm:V.P.follows .mixedOrders=true) (hP:gJ V.P) (hT:tv V T)
  (hC:∀e∈C,qX (V.run T d C L W f) f e.1 e.2) (hL:∀e∈L,bW (V.run T d C L W f) f e.1 e.2) (hW:∀e∈W,iB e.2) (he:ue (V.run T d C L W f) n f l os=some r):Ct V.P V.G f l os r:=by
 have hO:OracOk (V.run T d C L W f) f:=by
  refine ⟨λp g hg=>?_,λp g hg=>?_,λp g hg=>?_,λp g hg=>?_⟩
  ·cases hg
  ·simp only [Env.run,Nat.beq_refl,cond_true] at hg
   exact hW _ (dS hg)
  ·simp only [Env.run,Nat.beq_refl,cond_true] at hg
   exact hL _ (dS hg)
  ·simp only [Env.run,Nat.beq_refl,cond_true] at hg
   exact hC _ (dS hg)
 have hh:=he
 unfold ue at hh
 cases hf:(V.run T d C L W f).P.funcs[f]? with
 | none=>simp only [hf] at hh;cases hh
 | some fn=>
  have hf':V.P.funcs[f]?=some fn:=hf
  obtain ⟨h1,h2⟩:=hP f fn hf'
  refine ⟨pU (X:=V.run T d C L W f) (j3 hm hP hT d C L W f) hm hO hf h2 he,fn,hf',h1,?_⟩
  cases hb:fn.body with
  | none=>simp only [hf,hb] at hh;cases hh
  | some c=>rfl
end Go.Ab

namespace Go.Ab
open Go Go.RowKit
def qG (X:Cfg) (fn:Func) (m:Nat) (s:St):Option (AV×List AO):=
 (jh X s fn.results.toList).bind λvs=>(some (vs,s.objs)).bind λa=>
  (ca a.2 ((List.range m).map (ae+·)++bC ((List.range m).map (ae+·)) (aX a.2 ((List.range m).map (ae+·)++ak (a.1))))).bind λos=>
   cond (kc (ak (a.1)) ((List.range m).map (ae+·)++bC ((List.range m).map (ae+·)) (aX a.2 ((List.range m).map (ae+·)++ak (a.1)))) &&
    kc (bg a.2 ((List.range m).map (ae+·)++bC ((List.range m).map (ae+·)) (aX a.2 ((List.range m).map (ae+·)++ak (a.1))))) ((List.range m).map (ae+·)++bC ((List.range m).map (ae+·)) (aX a.2 ((List.range m).map (ae+·)++ak (a.1)))))
    (some ((match a.1 with | [v]=>v | vs=>AV.tup vs).ren (λk=>ae+idxOf ((List.range m).map (ae+·)++bC ((List.range m).map (ae+·)) (aX a.2 ((List.range m).map (ae+·)++ak (a.1)))) k 0),
     os.map (AO.ren λk=>ae+idxOf ((List.range m).map (ae+·)++bC ((List.range m).map (ae+·)) (aX a.2 ((List.range m).map (ae+·)++ak (a.1)))) k 0))) none
def ud (X:Cfg) (n:Nat) (f:FuncId) (args:List AV) (objs:List AO):Option (AV×List AO):=
 match X.P.funcs[f]? with
 | some fn=>(match fn.body with
  | some c=>fN X f n c [] {env:=dc args 0,objs:=af objs ae} λe s=>
    (match e with
    | .exit _=>none
    | _=>qG X fn objs.length s)
  | none=>none)
 | none=>none
theorem pT {X:Cfg} (hX:cj X) (hm:X.P.follows .mixedOrders=true) {f:FuncId} (hO:OracOk X f) {fn:Func} (hf:X.P.funcs[f]?=some fn) (hok:∀c,fn.body=some c->codeOk fn.ntmps c=true) {n:Nat} {args:List AV} {os:List AO}
  {r:AV} {os':List AO} (he:ud X n f args os=some (r,os')):j8 X.P X.G f args os r os':=by
 unfold ud at he
 rw [hf] at he
 dsimp only at he
 cases hbody:fn.body with
 | none=>simp [hbody] at he
 | some code=>
  simp only [hbody] at he
  have hcode:=hok code hbody
  intro c0 vs hgood hobjs hsz hrep hkeys
  let a0:Act:={tmps:=vs++Array.replicate (fn.ntmps - vs.size) undef,defers:=[]}
  let B:Base:={c0:=c0,D:=held c0 (af os ae),K:=live (af os ae),G:=X.G,N:=a0.tmps.size}
  let s0:St:={env:=dc args 0,objs:=af os ae}
  have hN:fn.ntmps<=B.N:=by simp [B,a0];omega
  have hcode':codeOk B.N code=true:=bQ hN hcode
  have hget:∀t v,s0.get t=some v->args[t]?=some v:=λt v hv=>by
   have:alook (dc args 0) t=some v:=hv
   rw [eD,if_pos (Nat.zero_le _)] at this;simpa using this
  have hval:∀t v,args[t]?=some v->Rep c0 v (a0.tmps.getD t undef):=λt v hv=>by
   have hlt:t < vs.size:=by rw [hsz];exact (List.getElem?_eq_some_iff.1 hv).1
   have e:a0.tmps.getD t undef=vs.getD t undef:=by
    simp only [a0,Array.getD_eq_getD_getElem?]
    rw [Array.getElem?_append_left hlt]
   rw [e];exact hrep t v hv
  have hplain:∀t v,s0.get t=some v->v.bX=false:=λt v hv=>by
   have:=hval t v (hget t v hv)
   generalize a0.tmps.getD t undef=V at this
   cases this <;> rfl
  have h0:Rel B c0 s0 a0:=by
   refine ⟨hgood,⟨rfl,rfl,rfl,Nat.le_refl _,λ_ _ _=>rfl,Ext.refl _ _,λ_ _ _ _ hi=>hi⟩,hobjs,λt v hv=>dz.nf (hplain t v hv) (hval t v (hget t v hv)),
    λt v hv k hk=>hkeys k (aH (hget t v hv) k hk),λk o b ho hb=>.inr ⟨k,o,ho,hb⟩,rfl,trivial,λk hk=>hk⟩
  refine jt hf hbody ?_
  refine cG (B:=B) hX rfl hm (λk hk=>(fj hk).1) rfl f hO code [] (by simp [bA,dw,hf,hbody]) hcode' n s0 c0 a0 _ (r,os') _ he h0 hplain λex s' c9 a' hex hr9 hn'=>?_
  obtain ⟨c',hr',hL⟩:=Rel.shut (B:=B) hgood rfl _ c9 a' rfl hr9
  have hfin:qG X fn os.length s'=some (r,os')->∃v,(results fn a'.tmps).run X.P c'.w=.ok v c'.w/\∃c2 x,Ending.returned v=.returned x/\c2.w=c'.w/\Good X.G c2 /\
   Frame {c0:=c0,D:=held c0 (af os ae),K:=live (af os ae),G:=X.G,N:=0} c2 /\
   Objs c2 (af os' ae)/\Rep c2 r x/\(∀k∈r.keys,live (af os' ae) k) /\
   ∀k o b,alook (af os' ae) k=some o->excl c2 k o=some b->c0.w.heap.size<=b∨held c0 (af os ae) b:=by
   intro hfin
   unfold qG at hfin
   obtain ⟨rs,h1,hfin⟩:=ag hfin
   obtain ⟨⟨rs',o1⟩,h2,hfin⟩:=ag hfin
   dsimp only at hfin
   obtain ⟨os1,h3,hfin⟩:=ag hfin
   obtain ⟨hb,hfin⟩:=bc hfin
   simp only [Option.some.injEq,Prod.mk.injEq] at hfin
   obtain ⟨hres,rfl⟩:=hfin
   simp only [Bool.and_eq_true] at hb
   obtain ⟨xs,hs,hrun⟩:=eY X hr' hn' h1
   obtain ⟨c2,e1,e2,e3,e4,e5⟩:∃c2:Cx,c2.w=c'.w/\Rel B c2 (s'.with o1) {a' with defers:=[]}/\cV B c2 (s'.with o1) rs' xs/\(∀k,live s'.objs k->live o1 k)/\Ext c' c2 (live s'.objs):=by
    obtain ⟨q1,q2⟩:=Prod.mk.inj (Option.some.inj h2)
    subst q1 q2
    exact ⟨c',rfl,hr',hs,λ_ h=>h,Ext.refl _ _⟩
   have hs2:=e3
   have hfn:=hs2.fn
   generalize hr0:(match rs' with | [v]=>v | vs=>AV.tup vs)=r0 at hres
   subst hres
   let ks:=(List.range os.length).map (ae+·)
   let all:=ks++bC ks (aX o1 (ks++ak (rs')))
   have hbase:ks.Nodup:=(List.cA os.length)
   have hall:all.Nodup:=List.nodup_append.2 ⟨hbase,eA (dI _ _).1,λx hx y hy e=>(eL hy).2 (e ▸ hx)⟩
   obtain ⟨hren,hkey,hlook,hlive⟩:=px e2.objs hall h3 (bS hb.2)
   obtain ⟨v,hv,hrv,hrk⟩:∃v,(results fn a'.tmps).run X.P c'.w=.ok v c'.w/\Rep c2 r0 v/\∀k∈r0.keys,k∈ak (rs'):=by
    have hm':(fn.results.mapM (m:=Sem) (xO a'.tmps)).run X.P c'.w=.ok xs.toArray c'.w:=by
     rw [Array.mapM_eq_mapM_toList]
     simp only [Sem.run_map]
     rw [hrun];rfl
    have hres':∀ (v:Value),(if h:xs.toArray.size=1 then xs.toArray[0] else Value.tuple xs.toArray)=v->(results fn a'.tmps).run X.P c'.w=.ok v c'.w:=by
     intro v hv
     rw [kr]
     simp only [Sem.run_bind,hm',Result.andThen_ok]
     rw [hv];rfl
    by_cases h1:xs.length=1
    ·obtain ⟨x,rfl⟩:=List.length_eq_one_iff.1 h1
     have hl:(rs').length=1:=by rw [<-hs2.1];rfl
     obtain ⟨u,hu⟩:=List.length_eq_one_iff.1 hl
     have hres:u=r0:=by rw [<-hr0,hu]
     subst hres
     refine ⟨x,hres' x (by simp),(hs2.2 0 u (by rw [hu];rfl)).rep,λk hk=>by rw [hu];simpa [ak] using hk⟩
    ·have hl:(rs').length≠1:=by rw [<-hs2.1];exact h1
     have hr:r0=.tup (rs'):=by
      rw [<-hr0]
      cases h:rs' with
      | nil=>rfl
      | cons u l=>cases l with
       | nil=>rw [h] at hl;simp at hl
       | cons _ _=>rfl
     rw [hr]
     refine ⟨.tuple xs.toArray,hres' _ (by rw [dif_neg];simpa using h1),.tup _ _ hfn.1 hfn.2.1,λk hk=>by simpa [AV.keys] using hk⟩
   let c3:Cx:={w:=c2.w,I:=c2.I,β:=λq=>c2.β (ee all (q - ae)),κ:=λq=>c2.κ (ee all (q - ae)),fr:=λq=>c2.fr (ee all (q - ae))}
   have hb0:∀k,live (af os ae) k->ee all (k - ae)=k:=by
    intro k hk
    obtain ⟨g1,g2⟩:=fj hk
    refine b8 ?_
    show (ks++_)[k - ae]?=some k
    rw [List.getElem?_append_left (by simpa [ks] using g2)]
    simp [ks,g2];omega
   have hown:∀k,live (af os ae) k->∀n y,aD c2 (.key k) n y->aD c3 (.key k) n y:=λk hk n y=>by
    simp only [aD,c3,hb0 k hk];exact id
   refine ⟨v,hv,c3,v,rfl,e1,⟨e2.good.there,λg cs hg=>(e2.good.globs g cs hg).ext (ks:=λ_=>False) ⟨λ_ _ _ _ hv=>hv,λ_ _ hi=>hi,λ_ hk=>hk.elim,λ_ hk=>hk.elim,λ_ _ _ _ hv _=>hv⟩ (by simp [AV.keys])⟩,
    ⟨e2.frame.os,e2.frame.output,e2.frame.tape,e2.frame.size,e2.frame.block,⟨e2.frame.ext.cell,e2.frame.ext.I,λk hk=>by show c2.β (ee all (k - ae))=_;rw [hb0 k hk];exact e2.frame.ext.β k hk,λk hk n y hy=>hown k hk n y (e2.frame.ext.own k hk n y hy),e2.frame.ext.map⟩,e2.frame.new⟩,
    hren,Rep.ren (c:=c2) (c':=c3) (λ_ _ _ _ hv=>hv) (λ_ _ hi=>hi) (λ_ _ _ _ hv _=>hv) hrv λq hq=>hkey q (bS hb.1 q (hrk q hq)),λk hk=>?_,λk o b ho hb'=>?_⟩
   ·obtain ⟨q,hq,rfl⟩:=dA _ _ k hk
    exact hlive q (bS hb.1 q (hrk q hq))
   ·obtain ⟨q,o0,hq,rfl,g1,rfl⟩:=hlook k o ho
    have:excl c3 (ae+idxOf all q 0) (o0.ren λk=>ae+idxOf all k 0)=excl c2 q o0:=dD (by show c2.β (ee all (ae+idxOf all q 0 - ae))=_;rw [Nat.add_sub_cancel_left,b8 (bn 0 hq)]) (by show c2.κ (ee all (ae+idxOf all q 0 - ae))=_;rw [Nat.add_sub_cancel_left,b8 (bn 0 hq)])
    rw [this] at hb'
    exact e2.mine q o0 b g1 hb'
  cases ex with
  | exit id=>simp at hex
  | nor=>exact hL _ _ _ _ _ _ (hfin hex)
  | ret=>exact hL _ _ _ _ _ _ (hfin hex)
theorem yJ {V:Env} {T:List Ent} {d:Nat} {C L:List (List Nat×Orc)} {W:List (List Nat×Vw)} {f:FuncId} {n:Nat} {l:List AV} {os:List AO} {r:AV×List AO} (hm:V.P.follows .mixedOrders=true) (hP:gJ V.P) (hT:tv V T)
  (hC:∀e∈C,qX (V.run T d C L W f) f e.1 e.2) (hL:∀e∈L,bW (V.run T d C L W f) f e.1 e.2) (hW:∀e∈W,iB e.2) (he:ud (V.run T d C L W f) n f l os=some r):Ct V.P V.G f l os r:=by
 have hO:OracOk (V.run T d C L W f) f:=by
  refine ⟨λp g hg=>?_,λp g hg=>?_,λp g hg=>?_,λp g hg=>?_⟩
  ·cases hg
  ·simp only [Env.run,Nat.beq_refl,cond_true] at hg
   exact hW _ (dS hg)
  ·simp only [Env.run,Nat.beq_refl,cond_true] at hg
   exact hL _ (dS hg)
  ·simp only [Env.run,Nat.beq_refl,cond_true] at hg
   exact hC _ (dS hg)
 have hh:=he
 unfold ud at hh
 cases hf:(V.run T d C L W f).P.funcs[f]? with
 | none=>simp only [hf] at hh;cases hh
 | some fn=>
  have hf':V.P.funcs[f]?=some fn:=hf
  obtain ⟨h1,h2⟩:=hP f fn hf'
  refine ⟨pT (X:=V.run T d C L W f) (j3 hm hP hT d C L W f) hm hO hf h2 he,fn,hf',h1,?_⟩
  cases hb:fn.body with
  | none=>simp only [hf,hb] at hh;cases hh
  | some c=>rfl
end Go.Ab

namespace Go.Ab
open Go Go.RowKit
variable {B:Base} {c:Cx} {s:St} {a:Act}
def Told (cs cs':List AV):Prop:=cs'.length=cs.length/\ak cs'=[]/\∀ (i:Nat) (u u':AV),cs[i]?=some u->cs'[i]?=some u'->u'.one=true/\∀c x,Rep c u x->Rep c u' x
inductive ObjLe:AO->AO->Prop
 | same (o):ObjLe o o
 | cells (cs cs'):Told cs cs'->ObjLe (.cells cs) (.cells cs')
 | grw (q sz n get get'):(∀j,j < n->get' j=get j)->ObjLe (.grw q sz n get) (.grw q sz n get')
inductive ObjsLe:List (Nat×AO)->List (Nat×AO)->Prop
 | nil:ObjsLe [] []
 | cons (k o o' r r'):ObjLe o o'->ObjsLe r r'->ObjsLe ((k,o)::r) ((k,o')::r')
theorem ObjsLe.look {l l':List (Nat×AO)} (h:ObjsLe l l') (k:Nat):(alook l k=none/\alook l' k=none)∨∃o o',alook l k=some o/\alook l' k=some o'/\ObjLe o o':=by
 induction h with
 | nil=>exact .inl ⟨rfl,rfl⟩
 | cons q o o' r r' h1 _ ih=>
  simp only [alook]
  cases hb:Nat.beq q k with
  | true=>exact .inr ⟨o,o',rfl,rfl,h1⟩
  | false=>exact ih
theorem ObjLe.excl {o o':AO} (h:ObjLe o o') (k:Nat):excl c k o'=excl c k o:=by cases h <;> rfl
theorem ObjLe.keys {o o':AO} (h:ObjLe o o'):o'=o∨o'.keys=[]:=by
 cases h with
 | same=>exact .inl rfl
 | cells cs cs' h=>exact .inr h.2.1
 | grw sq sz n get get' h=>exact .inr rfl
theorem ObjLe.rep {o o':AO} (h:ObjLe o o') {k:Nat} (hr:cW c k o):cW c k o':=by
 cases h with
 | same=>exact hr
 | cells cs cs' h=>
  obtain ⟨⟨⟨vs,t,hh,hs,hv⟩,h1⟩,hI,hf⟩:=hr
  have hg:∀ (i:Nat) (u':AV),cs'[i]?=some u'->∃u,cs[i]?=some u:=λi u' hu=>by
   have:=(List.getElem?_eq_some_iff.1 hu).1
   rw [h.1] at this
   exact ⟨_,List.getElem?_eq_getElem this⟩
  refine ⟨⟨⟨vs,t,hh,by rw [h.1];exact hs,λi u' hu=>?_⟩,λi u' hu=>?_⟩,hI,hf⟩
  ·obtain ⟨u,hu0⟩:=hg i u' hu
   exact (h.2.2 i u u' hu0 hu).2 _ _ (hv i u hu0)
  ·obtain ⟨u,hu0⟩:=hg i u' hu
   exact (h.2.2 i u u' hu0 hu).1
 | grw sq sz n get get' h=>
  obtain ⟨h0,hfr,hm⟩:=hr
  refine ⟨h0,hfr,?_⟩
  cases hc:c.κ k with
  | none=>simp only [hc] at hm;exact hm
  | some p=>
   obtain ⟨a,cap⟩:=p
   simp only [hc] at hm ⊢
   refine ⟨hm.1,λhlt=>?_⟩
   obtain ⟨⟨vs,t,hh,hs,hv⟩,had,hl,h1,hfree⟩:=hm.2 hlt
   exact ⟨⟨vs,t,hh,hs,λj i u hj hu=>hv j i u hj (by rwa [h j hj] at hu)⟩,had,λj hj=>by rw [h j hj];exact hl j hj,λj i u hj hu=>h1 j i u hj (by rwa [h j hj] at hu),hfree⟩
end Go.Ab

namespace Go.Ab
open Go Go.RowKit
variable {B:Base} {c:Cx} {s:St} {a:Act}
end Go.Ab

namespace Go.Ab
open Go
variable {B:Base} {c:Cx} {s:St} {a:Act}
theorem lI {o:Own} {sz n:Nat} {get get':Nat->List AV} {x:Value} (h:Rep c (.sl o sz n get) x) (hg:∀j,j < n->get' j=get j):Rep c (.sl .no sz n get') x:=by
 cases h with
 | slNil _ _ _ _=>exact .slNil .no _ _ trivial
 | sl _ _ _ _ ad cap vals h1 h2 h3 h4 h5 h6=>
  exact .sl .no sz n get' ad cap vals h1 h2 trivial (λj hj=>by rw [hg j hj];exact h4 j hj) (λj i u hj=>by rw [hg j hj];exact h5 j i u hj) (λj i u hj=>by rw [hg j hj];exact h6 j i u hj)
theorem uq {o:Own} {sz sz':Nat} {get get':Nat->List AV} {x:Value} (h:Rep c (.sl o sz 0 get) x):Rep c (.sl .no sz' 0 get') x:=by
 cases h with
 | slNil _ _ _ _=>exact .slNil .no _ _ trivial
 | sl _ _ _ _ ad cap vals h1 h2 h3 h4 h5 h6=>
  exact .sl .no sz' 0 get' ad cap vals h1 h2 trivial (λj hj=>absurd hj (Nat.not_lt_zero _)) (λj i u hj=>absurd hj (Nat.not_lt_zero _)) (λj i u hj=>absurd hj (Nat.not_lt_zero _))
end Go.Ab

namespace Go.Ab
open Go
def D7 {T:Type} (n m:Nat) (f g:Nat->T):Nat->T:=λj=>bif Nat.blt j n then f j else bif Nat.blt j (n+m) then g (j - n) else f j
theorem mJ {T:Type} (R:T->List AV) (n m:Nat) (f g:Nat->T):ay n m (λj=>R (f j)) (λj=>R (g j))=λj=>R (D7 n m f g j):=by
 funext j
 unfold ay D7
 cases Nat.blt j n <;> cases Nat.blt j (n+m) <;> rfl
end Go.Ab

namespace Go.Ab
open Go
variable {B:Base} {c:Cx} {s:St} {a:Act}
end Go.Ab

namespace Go.Ab
open Go Go.RowKit
theorem yU {c:Cx} {us us':List AV} {v:Value} (hl:us'.length=us.length) (hm:∀ (i:Nat) (u u':AV),us[i]?=some u->us'[i]?=some u'->u'.one=true/\∀x,Rep c u x->Rep c u' x) (h:Rep c (.agg us) v):Rep c (.agg us') v:=by
 cases h with
 | agg _ vs h1 h2 h3=>
  have hg:∀ (i:Nat) (u':AV),us'[i]?=some u'->∃u,us[i]?=some u:=λi u' hu=>by
   have:=(List.getElem?_eq_some_iff.1 hu).1
   exact ⟨us[i]'(by omega),List.getElem?_eq_getElem (by omega)⟩
  refine .agg _ vs (by rw [hl];exact h1) (λi u' hu=>?_) (λi u' hu=>?_)
  ·obtain ⟨u,h⟩:=hg i u' hu
   exact (hm i u u' h hu).1
  ·obtain ⟨u,h⟩:=hg i u' hu
   exact (hm i u u' h hu).2 _ (h3 i u h)
def qW (u u':AV):Prop:=u'.one=true/\∀c x,Rep c u x->Rep c u' x
theorem qW.same {u:AV} (h:u.one=true):qW u u:=⟨h,λ_ _ h=>h⟩
inductive TellL:List AV->List AV->Prop
 | nil:TellL [] []
 | cons {u u':AV} {l l':List AV}:qW u u'->TellL l l'->TellL (u::l) (u'::l')
theorem TellL.len {l l':List AV} (h:TellL l l'):l'.length=l.length:=by
 induction h with
 | nil=>rfl
 | cons _ _ ih=>rw [List.length_cons,List.length_cons,ih]
theorem TellL.at {l l':List AV} (h:TellL l l'):∀ (i:Nat) (u u':AV),l[i]?=some u->l'[i]?=some u'->qW u u':=by
 induction h with
 | nil=>intro i u u' h;simp at h
 | cons h1 _ ih=>
  intro i u u' h h'
  cases i with
  | zero=>
   simp only [List.getElem?_cons_zero,Option.some.injEq] at h h'
   rw [<-h,<-h'];exact h1
  | succ i=>
   simp only [List.getElem?_cons_succ] at h h'
   exact ih i u u' h h'
theorem fH {c:Cx} {l l':List AV} {v:Value} (h:TellL l l') (hr:Rep c (.agg l) v):Rep c (.agg l') v:=
 yU h.len (λi u u' hu hu'=>⟨(h.at i u u' hu hu').1,λx hx=>(h.at i u u' hu hu').2 c x hx⟩) hr
theorem bZ {o:Own} {sz sz':Nat} {get get':Nat->List AV}:qW (.sl o sz 0 get) (.sl .no sz' 0 get'):=⟨rfl,λc x h=>uq h⟩
theorem eE {o:Own} {sz n:Nat} {get get':Nat->List AV} (hg:∀j,j < n->get' j=get j):qW (.sl o sz n get) (.sl .no sz n get'):=⟨rfl,λc x h=>lI h hg⟩
theorem vT {c:Cx} {l l':List AV} {v:Value} (h:TellL l l') (hr:Rep c (.tup l) v):Rep c (.tup l') v:=by
 cases hr with
 | tup _ vs h1 h2=>
  refine .tup _ vs (by rw [h.len];exact h1) λi u' hu=>?_
  have hlt:i < l.length:=by rw [<-h.len];exact (List.getElem?_eq_some_iff.1 hu).1
  have hu0:l[i]?=some l[i]:=List.getElem?_eq_getElem hlt
  exact (h.at i _ u' hu0 hu).2 _ _ (h2 i _ hu0)
end Go.Ab

namespace Go.Ab
open Go Go.RowKit
def cN (w:World):Cx:={w:=w,I:=λb o=>∃v,w.cell? ⟨b,o,none⟩=some v,β:=λ_=>0,κ:=λ_=>none,fr:=λ_=>none}
theorem oJ (w:World):Objs (cN w) []:=⟨λ_ _ h=>by simp [alook] at h,λ_ _ _ _ _ h=>by simp [alook] at h,λ_ _ h=>by simp [alook] at h⟩
def vC (w:World):List AV->List Value->Prop
 | [],[]=>True
 | u::l,x::xs=>(Rep (cN w) u x/\u.keys=[])/\vC w l xs
 | _,_=>False
theorem vC.spec {w:World}:∀ {l:List AV} {xs:List Value},vC w l xs->xs.length=l.length/\ak l=[]/\∀ (i:Nat) (u:AV),l[i]?=some u->Rep (cN w) u (xs.getD i undef)
 | [],[],_=>⟨rfl,rfl,by simp⟩
 | u::l,x::xs,h=>by
  obtain ⟨⟨h1,h2⟩,h3⟩:=h
  obtain ⟨e1,e2,e3⟩:=h3.spec
  refine ⟨by simp [e1],by simp [ak,h2,e2],λi v hv=>?_⟩
  cases i with
  | zero=>simp at hv;subst hv;exact h1
  | succ i=>simpa using e3 i v (by simpa using hv)
def wE (P:Program):Bool:=P.funcs.toList.all λfn=>!(fn.name=="runtime.NumGoroutine")&&(match fn.body with
 | none=>true
 | some c=>codeOk fn.ntmps c)
theorem sW {P:Program} (h:wE P=true):gJ P:=by
 intro f fn hf
 have:=List.all_eq_true.1 h fn (by simpa using Array.mem_of_getElem? hf)
 simp only [Bool.and_eq_true,Bool.not_eq_true'] at this
 refine ⟨this.1,λc hc=>?_⟩
 have h2:=this.2
 rw [hc] at h2;exact h2
end Go.Ab

namespace Go.Ab
open Go
set_option linter.unusedSectionVars false
structure Wd where
 P:Program
 G:Nat->Option (List AV)
class EnvOk (V:Env) (D:Wd):Prop where
 p:V.P=D.P
 g:V.G=D.G
 mixed:V.P.follows .mixedOrders=true
 funcs:gJ V.P
class TabI (D:Wd) (T:List Ent):Prop where
 ok:∀e∈T,∀l os,e.pre l os=true->Ct D.P D.G e.f l os (e.ans l os)
theorem TabI.tab {V:Env} (D:Wd) {T:List Ent} [h:EnvOk V D] [t:TabI D T]:tv V T:=by
 unfold tv;rw [h.p,h.g];exact t.ok
def bo {τ:Type} (D:Wd) (f:FuncId) (φ:τ->AV×List AO) (R:List AV->List AO->τ->Prop) (l:List AV) (os:List AO):Prop:=∃x,R l os x/\Ct D.P D.G f l os (φ x)
theorem Ct.objs {P:Program} {G:Nat->Option (List AV)} {f:FuncId} {l:List AV} {os o1 o2:List AO} {r:AV} (h:Ct P G f l os (r,o1)) (hw:ObjsLe (af o1 ae) (af o2 ae)):Ct P G f l os (r,o2):=by
 have hlive:∀k,live (af o1 ae) k->live (af o2 ae) k:=λk hk=>by
  obtain ⟨o,hk⟩:=hk
  rcases hw.look k with ⟨h1,_⟩ | ⟨_,o',_,h2,_⟩
  ·rw [h1] at hk;cases hk
  ·exact ⟨o',h2⟩
 have hback:∀ {k o'},alook (af o2 ae) k=some o'->∃o,alook (af o1 ae) k=some o/\ObjLe o o':=fun {k o'} hk=>by
  rcases hw.look k with ⟨_,h1⟩ | ⟨o,o2,h1,h2,h3⟩
  ·rw [h1] at hk;cases hk
  ·rw [h2] at hk;cases hk;exact ⟨o,h1,h3⟩
 refine ⟨λc0 vs hg ho hs hr hl=>(h.1 c0 vs hg ho hs hr hl).mono ?_,h.2⟩
 rintro e w' ⟨c',x,h1,h2,h3,h4,h5,h6,h7,h8⟩
 refine ⟨c',x,h1,h2,h3,h4,⟨λk o' hk=>?_,λk o' q o3 b hk hq hne hb=>?_,λk o' hk q hq=>?_⟩,h6,λk hk=>hlive k (h7 k hk),λk o' b hk hb=>?_⟩
 ·obtain ⟨o,e1,e2⟩:=hback hk
  exact e2.rep (h5.rep k o e1)
 ·obtain ⟨o,e1,e2⟩:=hback hk
  obtain ⟨o4,e3,e4⟩:=hback hq
  rw [e4.excl]
  rw [e2.excl] at hb
  exact h5.apart k o q o4 b e1 e3 hne hb
 ·obtain ⟨o,e1,e2⟩:=hback hk
  rcases e2.keys with rfl | h0
  ·exact hlive q (h5.closed k _ e1 q hq)
  ·rw [h0] at hq;cases hq
 ·obtain ⟨o,e1,e2⟩:=hback hk
  rw [e2.excl] at hb
  exact h8 k o b e1 hb
def Tr (r r':AV×List AO):Prop:=(r'.1=r.1∨r'.1.keys=[]/\∀c v,Rep c r.1 v->Rep c r'.1 v)/\(r'.2=r.2∨ObjsLe (af r.2 ae) (af r'.2 ae))
theorem Tr.refl (r:AV×List AO):Tr r r:=⟨.inl rfl,.inl rfl⟩
theorem Tr.ct {P:Program} {G:Nat->Option (List AV)} {f:FuncId} {l:List AV} {os:List AO} {r r':AV×List AO} (h:Tr r r') (hc:Ct P G f l os r):Ct P G f l os r':=by
 obtain ⟨v,o⟩:=r
 obtain ⟨v',o'⟩:=r'
 obtain ⟨h1,h2⟩:=h
 have hc':Ct P G f l os (v',o):=by
  rcases h1 with h1 | ⟨h1,h3⟩
  ·have h1:v'=v:=h1
   rw [h1];exact hc
  ·exact Ct.res hc h1 h3
 rcases h2 with h2 | h2
 ·have h2:o'=o:=h2
  rw [h2];exact hc'
 ·exact Ct.objs hc' h2
theorem Tr.agg {cs cs':List AV} {os:List AO} (h:TellL cs cs') (hk:ak cs'=[]:=by rfl):Tr (.agg cs,os) (.agg cs',os):=⟨.inr ⟨hk,λ_ _ hr=>fH h hr⟩,.inl rfl⟩
theorem Tr.tup {cs cs':List AV} {os:List AO} (h:TellL cs cs') (hk:ak cs'=[]:=by rfl):Tr (.tup cs,os) (.tup cs',os):=⟨.inr ⟨hk,λ_ _ hr=>vT h hr⟩,.inl rfl⟩
theorem Tr.one {u u':AV} {os:List AO} (h:qW u u') (hk:u'.keys=[]:=by rfl):Tr (u,os) (u',os):=⟨.inr ⟨hk,λ_ _ hr=>h.2 _ _ hr⟩,.inl rfl⟩
def Run {τ:Type} (Post:τ->Prop) (φ:τ->AV×List AO) (e:Res):Prop:=∃x r,Post x/\Tr r (φ x)/\e=some r
section
variable {τ:Type} {Post:τ->Prop} {φ:τ->AV×List AO}
theorem Run.n {c:Bool} {a:Res} (h:c=true) (h1:Run Post φ a):Run Post φ (cond c a none):=by subst h;exact h1
theorem Run.nn {c:Bool} {a:Res} (h:c=false) (h1:Run Post φ a):Run Post φ (cond c none a):=by subst h;exact h1
theorem Run.yes {c:Bool} {a b:Res} (h:c=true) (h1:Run Post φ a):Run Post φ (cond c a b):=by subst h;exact h1
theorem Run.b {a b:Res} (c:Bool) (h1:c=true->Run Post φ a) (h2:c=false->Run Post φ b):Run Post φ (cond c a b):=cx (Q:=Run Post φ) h1 h2
theorem Run.r (x:τ) (h:Post x):Run Post φ (some (φ x)):=⟨x,_,h,Tr.refl _,rfl⟩
theorem Run.t (x:τ) {r:AV×List AO} (h:Post x) (ht:Tr r (φ x)):Run Post φ (some r):=⟨x,r,h,ht,rfl⟩
theorem Run.lp {α:Type} {g:St->Bool} {w:St->α} {s:St} {Q:α->Prop} {T:α->Res} (h:cg g w s Q) (k:∀t,Q t->Run Post φ (T t)):Run Post φ (cond (g s) (T (w s)) none):=Run.n h.1 (k _ h.2)
end
section
variable {τ:Type} [Inhabited τ] (D:Wd) (f:FuncId) (φ:τ->AV×List AO) (R:List AV->List AO->τ->Prop)
open Classical in
noncomputable def gR (l:List AV) (os:List AO):Bool:=decide (bo D f φ R l os)
open Classical in
noncomputable def wR (l:List AV) (os:List AO):τ:=if h:bo D f φ R l os then h.choose else default
noncomputable def du:Ent:=mkE f (gR D f φ R) (wR D f φ R) φ
end
section
variable {τ σ:Type} [Inhabited σ] {D:Wd} {f:FuncId} {φ:τ->AV×List AO} {ψ:σ->AV×List AO} {R:List AV->List AO->σ->Prop} {Post:τ->Prop} {l:List AV} {os:List AO}
open Classical in
theorem bo.at (h:bo D f ψ R l os):gR D f ψ R l os=true/\R l os (wR D f ψ R l os)/\Ct D.P D.G f l os (ψ (wR D f ψ R l os)):=by
 refine ⟨decide_eq_true h,?_⟩
 unfold wR
 rw [dif_pos h]
 exact h.choose_spec
instance tabI_nil:TabI D []:=⟨λ_ h=>(List.not_mem_nil h).elim⟩
open Classical in
instance tabI_cons {T:List Ent} [t:TabI D T]:TabI D (du D f ψ R::T):=⟨λe he l os hp=>by
 rcases List.mem_cons.1 he with rfl | he
 ·exact (bo.at (of_decide_eq_true hp)).2.2
 ·exact t.ok e he l os hp⟩
theorem Run.call {T:σ->Res} (h:bo D f ψ R l os) (k:∀t,R l os t->Run Post φ (T t)):Run Post φ (cond (gR D f ψ R l os) (T (wR D f ψ R l os)) none):=Run.n h.at.1 (k _ h.at.2.1)
theorem bo.mono {R':List AV->List AO->σ->Prop} (h:bo D f ψ R l os) (hm:∀x,R l os x->R' l os x):bo D f ψ R' l os:=by
 obtain ⟨x,h1,h2⟩:=h
 exact ⟨x,hm x h1,h2⟩
end
def runK (k:Nat) (X:Cfg) (f:FuncId) (l:List AV) (os:List AO):Res:=
 match k with
 | 0=>v8 X 9 f l os
 | 1=>ue X 9 f l os
 | _=>ud X 9 f l os
section
variable {τ:Type} {V:Env} {D:Wd} {f:FuncId} {φ:τ->AV×List AO} {R:List AV->List AO->τ->Prop} {l:List AV} {os:List AO}
def vD (X:Cfg) (f:FuncId) (L:List (List Nat×Orc)):Prop:=∀e∈L,bW X f e.1 e.2
theorem aq {X:Cfg}:vD X f []:=λ_ h=>(List.not_mem_nil h).elim
theorem aZ {X:Cfg} {p:List Nat} {g:Orc} {r:List (List Nat×Orc)} (h:bW X f p g) (hr:vD X f r):vD X f ((p,g)::r):=pc h hr
def tq (W:List (List Nat×Vw)):Prop:=∀e∈W,iB e.2
theorem ao:tq []:=λ_ h=>(List.not_mem_nil h).elim
theorem kg {p:List Nat} {g:Vw} {r:List (List Nat×Vw)} (h:iB g) (hr:tq r):tq ((p,g)::r):=λx hx=>by
 rcases List.mem_cons.1 hx with rfl | hx
 ·exact h
 ·exact hr x hx
theorem AA [h:EnvOk V D] (k:Nat) {d:Nat} {T:List Ent} [TabI D T] {C L:List (List Nat×Orc)} {W:List (List Nat×Vw)} (hC:∀e∈C,qX (V.run T d C L W f) f e.1 e.2) (hL:vD (V.run T d C L W f) f L) (hW:tq W) {e:Res} (h1:Run (R l os) φ e) (he:runK k (V.run T d C L W f) f l os=e):bo D f φ R l os:=by
 obtain ⟨x,r,hx,ht,ex⟩:=h1
 refine ⟨x,hx,ht.ct ?_⟩
 rw [<-h.p,<-h.g]
 rw [ex] at he
 match k with
 | 0=>exact vn h.mixed h.funcs (TabI.tab D) hC hL hW he
 | 1=>exact yK h.mixed h.funcs (TabI.tab D) hC hL hW he
 | k+2=>exact yJ h.mixed h.funcs (TabI.tab D) hC hL hW he
theorem a7 [h:EnvOk V D] (k:Nat) {d:Nat} {T:List Ent} [TabI D T] {L:List (List Nat×Orc)} {W:List (List Nat×Vw)} (hL:vD (V.run T d [] L W f) f L) (hW:tq W) {e:Res} (h1:Run (R l os) φ e) (he:runK k (V.run T d [] L W f) f l os=e):bo D f φ R l os:=
 AA k (λ_ h=>(List.not_mem_nil h).elim) hL hW h1 he
end
section
variable {α τ ι:Type}
def rP:Code->Bool
 | .loop _=>true
 | _=>false
variable {S:α->St} {Inv:α->Prop} {μ:α->Nat} {out:τ->(Ex->St->Res)->Res} {Post:α->τ->Prop} {v:α}
theorem RT.call {σ:Type} [Inhabited σ] {D:Wd} {f:FuncId} {ψ:σ->AV×List AO} {R:List AV->List AO->σ->Prop} {l:List AV} {os:List AO} {T:σ->ι->(Ex->St->Res)->(St->Res)->Res} (h:bo D f ψ R l os) (k:∀t,R l os t->RT S Inv μ out Post v (T t)) :
  RT S Inv μ out Post v (λi k kn=>cond (gR D f ψ R l os) (T (wR D f ψ R l os) i k kn) none):=RT.t h.at.1 (k _ h.at.2.1)
theorem RT.lp {β:Type} {g:St->Bool} {w:St->β} {s:St} {Q:β->Prop} {T:β->ι->(Ex->St->Res)->(St->Res)->Res} (h:cg g w s Q) (k:∀t,Q t->RT S Inv μ out Post v (T t)) :
  RT S Inv μ out Post v (λi k kn=>cond (g s) (T (w s) i k kn) none):=RT.t h.1 (k _ h.2)
theorem RT.go {Post:τ->Prop} (s:St) (v':α) (h:Inv v') (hm:μ v' < μ v) (hs:s=S v'):RT S Inv μ out (λ_ o=>Post o) v (λ(_:ι) (_:Ex->St->Res) (kn:St->Res)=>kn s):=RT.nx s v' h hm (λ_ h=>h) hs
theorem RT.to {Post:τ->Prop} (v':α) (h:Inv v') (hm:μ v' < μ v):RT S Inv μ out (λ_ o=>Post o) v (λ(_:ι) (_:Ex->St->Res) (kn:St->Res)=>kn (S v')):=RT.go _ v' h hm rfl
theorem c6 [Inhabited τ] {V:Env} {T:List Ent} {d:Nat} {Lf:ι->List (List Nat×Orc)} {W:List (List Nat×Vw)} {f:FuncId} {p:List Nat} (S:α->St) (Inv:α->Prop) (μ:α->Nat) (out:τ->(Ex->St->Res)->Res) (Post:τ->Prop) (hb:rP (dw (bA V.P f) p)=true)
  {e:α->ι->(Ex->St->Res)->(St->Res)->Res} (h1:∀v,Inv v->RT S Inv μ out (λ_ o=>Post o) v (e v)) (he:∀v i k kn,fq (V.run T d [] (Lf i) W f) f 9 p (S v) kn k=e v i k kn) :
  ∃ (u:St->Bool) (w:St->τ),(∀v,Inv v->cg u w (S v) Post)/\∀i,bW (V.run T d [] (Lf i) W f) f p (mkO u w out):=by
 obtain ⟨b,hb⟩:∃b,dw (bA V.P f) p=.loop b:=by
  cases hc:dw (bA V.P f) p with
  | loop b=>exact ⟨b,rfl⟩
  | _=>rw [hc] at hb;cases hb
 obtain ⟨w,hw,hl⟩:=uK (Xf:=λi=>V.run T d [] (Lf i) W f) (f:=f) (p:=p) (b:=b) S Inv μ out (λ_ o=>Post o) (λ_=>hb) 9 λv hv=>RT.eq (λi k kn=>he v i k kn) (h1 v hv)
 exact ⟨sV S Inv,vS S Inv w,λv hv=>⟨nR hv,lR (Post:=λ_ o=>Post o) hw (λ_ _ _ _ h=>h) hv⟩,hl⟩
end
def BI (l:List (List UInt8)):AV:=.sl .no 1 l.length λj=>[.str (l.getD j [])]
mutual
def dcells:DataW Unit->List AV
 | .lit (.int k n)=>[.int k n]
 | .lit (.string s)=>[.str s]
 | .slice es _=>[BI (dstrs es)]
 | .agg ps=>vm ps
 | _=>[]
def vm:List (DataW Unit)->List AV
 | []=>[]
 | d::r=>dcells d++vm r
def dstrs:List (DataW Unit)->List (List UInt8)
 | []=>[]
 | d::r=>dstr d++dstrs r
def dstr:DataW Unit->List (List UInt8)
 | .lit (.string s)=>[s]
 | _=>[]
end
def pn (n:Nat):List Nat:=go 60 n []
where go:Nat->Nat->List Nat->List Nat
 | 0,_,r=>r
 | k+1,n,r=>cond (Nat.ble n 1) r (go k (n / 2) (n % 2::r))
def tn (n:Nat) (k o:List Nat):List Nat×Hint:=tr (pn n) k o
def onD (l:List Nat) (o:Oper):Bool:=match o.dst with
 | some d=>l.any (Nat.beq d)
 | none=>false
end Go.Ab

namespace Go.Ab
open Go
def gh (j:Nat) (s:St):St:={env:=(1000000,.int .i64 j)::s.env,objs:=s.objs}
def uk (X:Cfg) (ps:List Nat) (x y:Code) (h:Hint) (N:Nat) (row:Nat->List AV) (j:Nat) (s:St) (kn:St->Res) (k:Ex->St->Res):Res:=
 cond (Nat.blt j N) (rv X ps x y h (row j) s λs'=>kn (gh (j+1) s')) (k .nor s)
structure RFun where
 g:Operand
 ps:Array Tmp
 x:Code
 y:Code
def EJ:Code->RFun
 | .rangeFunc g ps x y=>⟨g,ps,x,y⟩
 | _=>⟨.tmp 0,#[],.skip,.skip⟩
def CC:Code->Bool
 | .rangeFunc ..=>true
 | _=>false
abbrev rA (P:Program) (f:FuncId) (p:List Nat):RFun:=EJ (dw (bA P f) p)
section
variable {α τ ι:Type}
theorem zE [Inhabited τ] {Xf:ι->Cfg} (ps:List Nat) (x y:Code) (h:Hint) (N:Nat) (row:Nat->List AV) (S:α->St) (jx:α->Nat) (Inv:α->Prop) (μ:α->Nat) (out:τ->(Ex->St->Res)->Res) (Post:α->τ->Prop)
  (round:∀v,Inv v->RT (λv=>gh (jx v) (S v)) Inv μ out Post v λ(i:ι) (k:Ex->St->Res) (kn:St->Res)=>uk (Xf i) ps x y h N row (jx v) (S v) kn k) :
  ∃w:α->τ,(∀v,Inv v->Post v (w v))/\∀ (i:ι) (g:Operand) (cl:AV) (os:List (Nat×AO)),(∀v,Inv v->aI ⟨S v,(Xf i).G,[]⟩ g=some cl/\∀q∈os,(S v).obj q.1=some q.2)->
   ∀ (m:Nat) (v:α),Inv v->μ v<=m->∀k,rz (Xf i) g cl ps x y h os N row (m+1) (jx v) (S v) k=out (w v) k:=by
 have key:∀ (m:Nat) (v:α),Inv v->μ v<=m->∃o,Post v o/\∀ (i:ι) (g:Operand) (cl:AV) (os:List (Nat×AO)),(∀v,Inv v->aI ⟨S v,(Xf i).G,[]⟩ g=some cl/\∀q∈os,(S v).obj q.1=some q.2)->
   ∀ (m':Nat),m<=m'->∀k,rz (Xf i) g cl ps x y h os N row (m'+1) (jx v) (S v) k=out o k:=by
  intro m
  induction m with
  | zero=>
   intro v hv hm
   rcases round v hv with ⟨o,h1,h2⟩ | ⟨v',_,h3,_⟩
   ·refine ⟨o,h1,λi g cl os hcl m' _ k=>?_⟩
    obtain ⟨e1,e2⟩:=hcl v hv
    unfold rz
    rw [@decide_eq_true _ (Classical.propDecidable _) ⟨e1,e2⟩,cond_true]
    exact h2 i k λs''=>match s'' with
     | ⟨(_,.int _ z)::env,objs⟩=>rz (Xf i) g cl ps x y h os N row m' z.toNat ⟨env,objs⟩ k
     | _=>none
   ·omega
  | succ m ih=>
   intro v hv hm
   have hrng:∀ (i:ι) (g:Operand) (cl:AV) (os:List (Nat×AO)),(∀v,Inv v->aI ⟨S v,(Xf i).G,[]⟩ g=some cl/\∀q∈os,(S v).obj q.1=some q.2)->∀ (m':Nat) (k:Ex->St->Res),
     rz (Xf i) g cl ps x y h os N row (m'+1) (jx v) (S v) k=uk (Xf i) ps x y h N row (jx v) (S v) (λs''=>match s'' with
     | ⟨(_,.int _ z)::env,objs⟩=>rz (Xf i) g cl ps x y h os N row m' z.toNat ⟨env,objs⟩ k
     | _=>none) k:=by
    intro i g cl os hcl m' k
    obtain ⟨e1,e2⟩:=hcl v hv
    conv=>lhs;unfold rz
    rw [@decide_eq_true _ (Classical.propDecidable _) ⟨e1,e2⟩,cond_true]
    rfl
   rcases round v hv with ⟨o,h1,h2⟩ | ⟨v',h2,h3,h4,h5⟩
   ·exact ⟨o,h1,λi g cl os hcl m' _ k=>(hrng i g cl os hcl m' k).trans (h2 i k _)⟩
   ·obtain ⟨o,g1,g2⟩:=ih v' h2 (by omega)
    refine ⟨o,h4 o g1,λi g cl os hcl m' hm' k=>?_⟩
    obtain ⟨q,rfl⟩:∃q,m'=q+1:=⟨m' - 1,by omega⟩
    refine (hrng i g cl os hcl _ k).trans ((h5 i k _).trans ?_)
    show rz (Xf i) g cl ps x y h os N row (q+1) (jx v':Int).toNat ⟨(S v').env,(S v').objs⟩ k=_
    rw [Int.toNat_natCast]
    exact g2 i g cl os hcl q (by omega) k
 classical
 refine ⟨λv=>if hv:Inv v then (key (μ v) v hv (Nat.le_refl _)).choose else default,λv hv=>?_,λi g cl os hcl m v hv hm k=>?_⟩
 ·simp only [hv,dif_pos];exact (key (μ v) v hv (Nat.le_refl _)).choose_spec.1
 ·simp only [hv,dif_pos];exact (key (μ v) v hv (Nat.le_refl _)).choose_spec.2 i g cl os hcl m hm k
open Classical in
theorem zD [Inhabited τ] {V:Env} {D:Wd} [hE:EnvOk V D] {T:List Ent} [TabI D T] {d:Nat} {Cf Lf:ι->List (List Nat×Orc)} {W:List (List Nat×Vw)} {f:FuncId} {p:List Nat} (hb:CC (dw (bA V.P f) p)=true)
  {hf:FuncId} {caps:List AV} {os:List (Nat×AO)} {N:Nat} {row:Nat->List AV} (hit:sn D.P D.G hf caps os N row) (hfn:∃fn,D.P.funcs[hf]?=some fn/\(fn.name=="runtime.NumGoroutine")=false/\fn.body.isSome=true)
  (hrow:∀j,j < N->(row j).length=(rA V.P f p).ps.size/\∀u∈row j,u.bX=false/\u.keys=[]) (hos:zc os) (h:Hint)
  (S:α->St) (jx:α->Nat) (Inv:α->Prop) (μ:α->Nat) (out:τ->(Ex->St->Res)->Res) (Post:τ->Prop) (hcl:∀v,Inv v->aI ⟨S v,V.G,[]⟩ (rA V.P f p).g=some (.fn hf [] caps)/\∀q∈os,(S v).obj q.1=some q.2)
  {e:α->ι->(Ex->St->Res)->(St->Res)->Res} (h1:∀v,Inv v->RT (λv=>gh (jx v) (S v)) Inv μ out (λ_ o=>Post o) v (e v))
  (he:∀v i k kn,uk (V.run T d (Cf i) (Lf i) W f) (rA V.P f p).ps.toList (rA V.P f p).x (rA V.P f p).y h N row (jx v) (S v) kn k=e v i k kn) :
  ∃ (u:St->Bool) (w:St->τ),(∀v,Inv v->jx v=0->cg u w (S v) Post)/\∀i,qX (V.run T d (Cf i) (Lf i) W f) f p (mkO u w out):=by
 obtain ⟨w,hw,hl⟩:=zE (Xf:=λi=>V.run T d (Cf i) (Lf i) W f) (rA V.P f p).ps.toList (rA V.P f p).x (rA V.P f p).y h N row S jx Inv μ out (λ_ o=>Post o) λv hv=>RT.eq (λi k kn=>he v i k kn) (h1 v hv)
 refine ⟨sV S λv=>Inv v/\jx v=0,vS S (λv=>Inv v/\jx v=0) w,λv hv hj=>⟨nR ⟨hv,hj⟩,lR (Post:=λ_ o=>Post o) (λv hv=>hw v hv.1) (λ_ _ _ _ h=>h) ⟨hv,hj⟩⟩,λi=>?_⟩
 intro B s c a k r Q hG hK hlow hN hs hr hn hk
 unfold mkO at hs
 obtain ⟨hg,hs⟩:=bc hs
 have hx:∃v,(Inv v/\jx v=0)/\S v=s:=of_decide_eq_true hg
 unfold vS at hs
 rw [dif_pos hx] at hs
 obtain ⟨⟨hv,hj⟩,hS⟩:=hx.choose_spec
 have hrun:=hl i (rA V.P f p).g (.fn hf [] caps) os hcl (μ hx.choose) hx.choose hv (Nat.le_refl _) k
 rw [hj,hS] at hrun
 rw [<-hrun] at hs
 have hG':V.G=B.G:=hG
 have hc:dw (bA V.P f) p=.rangeFunc (rA V.P f p).g (rA V.P f p).ps (rA V.P f p).x (rA V.P f p).y:=by
  unfold rA
  cases hq:dw (bA V.P f) p with
  | rangeFunc _ _ _ _=>rfl
  | _=>rw [hq] at hb;cases hb
 show (dw (bA V.P f) p).wp V.P Q a c.w
 have hN':codeOk B.N (dw (bA V.P f) p)=true:=hN
 rw [hc] at hN' ⊢
 refine uo (X:=V.run T d (Cf i) (Lf i) W f) (j3 hE.mixed hE.funcs (TabI.tab D) d (Cf i) (Lf i) W f) hG hE.mixed hK hN' (by rw [<-hG',hE.g];show sn V.P _ _ _ _ _ _;rw [hE.p];exact hit) (by show ∃fn,V.P.funcs[hf]?=some fn/\_;rw [hE.p];exact hfn) hrow hos hs hr hn ?_ hk
 exact ⟨_,hlow,hr.frame.size⟩
end
end Go.Ab

namespace Go.Ab
open Go Go.RowKit
variable {X:Cfg} {c:Cx} {s s1:St} {a:Act} {B:Base} {ro:Option Nat} {n:Nat}
def itB (G:Nat->Option (List AV)) (N:Nat) (c:Cx) (objs:List (Nat×AO)):Base:={c0:=c,D:=held c objs,K:=live objs,G:=G,N:=N,low:=none}
theorem quiet_of {G:Nat->Option (List AV)} {N:Nat} {ol:List (Nat×AO)} {c':Cx} {s':St} {a':Act} (ho:Objs c ol) (hv:zc ol) (h:Rel (itB G N c ol) c' s' a') (hs:∀k o,alook ol k=some o->s'.obj k=some o) :
  QuietO G ol c {c with w:=c'.w,I:=c'.I}/\ExtR c' {c with w:=c'.w,I:=c'.I} (live ol):=by
 have hβ:∀k,live ol k->c'.β k=c.β k:=λk hk=>by
  obtain ⟨o,hk⟩:=hk
  have h1:=h.objs.rep k o (hs k o hk)
  obtain ⟨cs,rfl,_⟩:=hv k o hk
  have h2:=ho.rep k _ hk
  exact h.frame.ext.β k ⟨_,hk⟩
 have hext:ExtR c' {c with w:=c'.w,I:=c'.I} (live ol):=⟨λb o v hi hc=>⟨hc,hi⟩,λk hk=>(hβ k hk).symm,λk hk n v hr=>(by
  obtain ⟨o,hk⟩:=hk
  have h1:=h.objs.rep k o (hs k o hk)
  obtain ⟨cs,rfl,_⟩:=hv k o hk
  obtain ⟨m,hm,_⟩:=hr
  rw [h1.2.2] at hm;cases hm),λb o es cl hi he=>⟨he,hi⟩⟩
 refine ⟨⟨h.frame.os,h.frame.output,h.frame.tape,h.frame.size,h.frame.block,h.frame.ext.I,λb o hb hi=>?_,rfl,rfl,rfl,⟨h.good.there,λg cs hg=>(h.good.globs g cs hg).pw (ks:=λ_=>False) ⟨λb o v hi hc=>⟨hc,hi⟩,λ_ hk=>hk.elim,λ_ hk=>hk.elim,λb o es cl hi he=>⟨he,hi⟩⟩ (by simp [AV.keys])⟩,⟨λk o hk=>?_,λk o k' o' b hk hk' hne hb=>?_,ho.closed⟩⟩,hext⟩
 ·by_cases hd:held c ol b
  ·obtain ⟨k,o',hk,hb'⟩:=hd
   have h1:=h.objs.rep k o' (hs k o' hk)
   obtain ⟨cs,rfl,_⟩:=hv k o' hk
   simp only [excl,Option.some.injEq] at hb'
   rw [<-hb',<-hβ k ⟨_,hk⟩] at hi
   exact absurd hi (h1.2.1 o)
  ·exact h.frame.new b o hb hd hi
 ·have h1:=h.objs.rep k o (hs k o hk)
  have h2:=ho.rep k o hk
  obtain ⟨cs,rfl,hcs⟩:=hv k o hk
  obtain ⟨⟨⟨vs,t,hh,hsz,hvv⟩,hone⟩,hI,_⟩:=h1
  refine ⟨⟨⟨vs,t,?_,hsz,λi u hu=>(hvv i u hu).pw hext λk' hk'=>?_⟩,hone⟩,λo' hi=>?_,h2.2.2⟩
  ·show c'.w.heap[c.β k]?=_
   rw [<-hβ k ⟨_,hk⟩];exact hh
  ·rw [aF hcs hu] at hk';cases hk'
  ·exact hI o' (by rw [hβ k ⟨_,hk⟩];exact hi)
 ·exact ho.apart k o k' o' b hk hk' hne hb
end Go.Ab
