/- What an operation of a region depends on. What an operation of a region depends on: calls, guards. A region whose order is drawn: every order leaves what the order of the text leaves. A call that is handed objects in which no keys stand: it asks for those alone, and it turns those alone. A region whose order is drawn: the order does not count. A region whose order is drawn, sound. The head of a loop. Code, sound. The evaluator, sound: what E answers is what the model's call comes to. Contracts: a function's run with its calls and loops known beforehand. Loops that look at one place after another and stop at the first that says so. Contracts for one list of arguments. Contracts and loops of which only some answer is told. Rounds of loops and runs, followed down their conditions. Rounds of loops and runs whose tree of conditions is read off the proof: the kernel alone holds it against the run. A function that hands back a pointer to a new object: its contract by a run. A function that hands back new objects: its contract by a run. Functions that hand back slices that may still be stored into. A view of a state in which less is told: variables' cells told in other words. A view in whi -/
import Derived.Test.YtnppjgeegmofjaaDoorX2
import Derived.Scope
import Derived.KernelRfl
set_option linter.unusedVariables false
set_option linter.unusedSimpArgs false
namespace Go.Ab
open Go Go.RowKit
def ek (s1 s2:St) (l:List Nat):Prop:=∀t∈l,s1.get t=s2.get t
theorem lU {l:List Operand} {t:Nat}:t∈cw l↔Operand.tmp t∈l:=by
 induction l with
 | nil=>simp [cw]
 | cons o r ih=>cases o <;> simp [cw,ih]
theorem ek.sub {s1 s2:St} {l m:List Operand} (h:ek s1 s2 (cw l)) (hs:∀x∈m,x∈l):ek s1 s2 (cw m):=
 λt ht=>h t (lU.2 (hs _ (lU.1 ht)))
section
variable {s1 s2:St} {G:Nat->Option (List AV)} {ch:dN}
theorem dm {x:Operand} (h:ek s1 s2 (cw [x])):aA ⟨s1,G,ch⟩ x=aA ⟨s2,G,ch⟩ x:=by
 cases x with
 | tmp t=>simp only [aA];rw [h t (by simp [cw])]
 | _=>rfl
theorem dn:∀ {l:List Operand},ek s1 s2 (cw l)->cJ ⟨s1,G,ch⟩ l=cJ ⟨s2,G,ch⟩ l
 | [],_=>rfl
 | x::r,h=>by
  simp only [cJ]
  rw [dm (h.sub (by simp)),dn (l:=r) (h.sub (by simp +contextual))]
theorem ga:∀ {l:List (Nat×Operand)},ek s1 s2 (cw (l.map (·.2)))->bU ⟨s1,G,ch⟩ l=bU ⟨s2,G,ch⟩ l
 | [],_=>rfl
 | (i,x)::r,h=>by
  simp only [bU]
  rw [dm (h.sub (by simp)),ga (l:=r) (h.sub (by simp +contextual))]
theorem ik {x:Option Operand} (h:ek s1 s2 (cw x.toList)):bk.evalM ⟨s1,G,ch⟩ x=bk.evalM ⟨s2,G,ch⟩ x:=by
 cases x with
 | none=>rfl
 | some o=>simp only [bk.evalM];rw [dm (h.sub (by simp))]
def dU (s1 s2:St) (l:List Nat):Prop:=∀k∈l,s1.obj k=s2.obj k
theorem jf {x:AV} (h:dU s1 s2 x.keys):j1 s1 x=j1 s2 x:=by
 cases x with
 | msl k sz off n=>simp only [j1,h k (by simp [AV.keys])]
 | gsl k sz n=>simp only [j1,h k (by simp [AV.keys])]
 | gsub k sz n lo len=>simp only [j1,h k (by simp [AV.keys])]
 | _=>rfl
theorem ph {x:AV} (h:dU s1 s2 x.keys) (P:Program) (t:TypeId):iC P s1 t x=iC P s2 t x:=by
 cases x with
 | ref k off=>simp only [iC,h k (by simp [AV.keys])]
 | aref k sz i off=>simp only [iC,h k (by simp [AV.keys])]
 | gref k sz n i off=>simp only [iC,h k (by simp [AV.keys])]
 | _=>rfl
theorem j9 {x:AV} (h:dU s1 s2 x.keys) (P:Program) (t:TypeId) (i:AV):dk P s1 t x i=dk P s2 t x i:=by
 cases i <;> try rfl
 simp only [dk]
 cases P.underlying t with
 | none=>rfl
 | some d=>
  cases x with
  | ref k off=>cases d <;> first | rfl | (cases off <;> simp only [h k (by simp [AV.keys])])
  | gsl k sz n=>cases d <;> first | rfl | simp only [h k (by simp [AV.keys])]
  | gsub k sz n lo len=>cases d <;> first | rfl | simp only [h k (by simp [AV.keys])]
  | _=>cases d <;> rfl
theorem pV {x:AV} (h:dU s1 s2 x.keys) (P:Program) (a b:TypeId):rI P s1 a b x=rI P s2 a b x:=by
 unfold rI
 cases P.underlying b with
 | none=>rfl
 | some d=>
  cases x with
  | msl k sz off n=>cases d <;> first | rfl | simp only [j1,h k (by simp [AV.keys])]
  | gsl k sz n=>cases d <;> first | rfl | simp only [j1,h k (by simp [AV.keys])]
  | gsub k sz n lo len=>cases d <;> first | rfl | simp only [j1,h k (by simp [AV.keys])]
  | _=>cases d <;> rfl
theorem np {x:AV} (h:dU s1 s2 x.keys) (P:Program) (t:TypeId) (v:AV):dZ P s1 t x v=dZ P s2 t x v:=by
 cases x with
 | ref k off=>simp only [dZ,h k (by simp [AV.keys])]
 | aref k sz i off=>simp only [dZ,h k (by simp [AV.keys])]
 | gref k sz n i off=>simp only [dZ,h k (by simp [AV.keys])]
 | _=>rfl
theorem pf {x:AV} (h:dU s1 s2 x.keys) (P:Program) (t:TypeId) (i:AV):lD P s1 t x i=lD P s2 t x i:=by
 unfold lD
 cases P.underlying t with
 | none=>rfl
 | some d=>
  cases x with
  | mref k=>cases d <;> first | rfl | simp only [h k (by simp [AV.keys])]
  | _=>cases d <;> rfl
theorem mD {x:AV} (h:dU s1 s2 x.keys) (P:Program) (t:TypeId) (i v:AV):fR P s1 t x i v=fR P s2 t x i v:=by
 unfold fR
 cases P.underlying t with
 | none=>rfl
 | some d=>
  cases x with
  | mref k=>cases d <;> first | rfl | simp only [h k (by simp [AV.keys])]
  | _=>cases d <;> rfl
theorem tf {P:Program} {s:St} {t:TypeId} {x i:AV} {r:Bool×AV×AV} (h:lD P s t x i=some r):∃k ob,k∈x.keys/\s.obj k=some ob:=by
 unfold lD at h
 split at h
 ·rename_i kt et k hu
  obtain ⟨z,_,h⟩:=ae h
  split at h
  ·rename_i ho;exact ⟨k,_,by simp [AV.keys],ho⟩
  ·cases h
 ·cases h
theorem pb {P:Program} {s:St} {t:TypeId} {x i v:AV} {k:Nat} {ob:AO} (h:fR P s t x i v=some (k,ob)):k∈x.keys:=by
 unfold fR at h
 split at h
 ·split at h
  ·obtain ⟨_,h⟩:=aj h
   simp only [Option.some.injEq,Prod.mk.injEq] at h
   simp [AV.keys,h.1]
  ·cases h
 ·cases h
theorem lk {α:Type}:∀ {l:List (Nat×α)} {k:Nat} {x:α},alook l k=some x->aput l k x=l
 | [],k,x,h=>by simp [alook] at h
 | (q,y)::r,k,x,h=>by
  simp only [alook] at h
  simp only [aput]
  cases hq:Nat.beq q k with
  | true=>rw [hq] at h;simp at h;simp [h]
  | false=>rw [hq] at h;simp only [cond_false] at h ⊢;rw [lk h]
theorem j7 {d:Nat} (h:s1.obj d=s2.obj d) (P:Program) (t:TypeId) (same:Bool) (x v:AV):di P s1 d t same x v=di P s2 d t same x v:=by
 simp only [di,h]
theorem m9 {d:Nat} {x y:AV} (h:s1.obj d=s2.obj d) (hx:dU s1 s2 x.keys) (hy:dU s1 s2 y.keys) (P:Program) (t:TypeId):iq P s1 d t x y=iq P s2 d t x y:=by
 unfold iq
 rw [jf hy]
 cases P.underlying t with
 | none=>rfl
 | some D=>
  cases D with
  | slice e=>
   dsimp only
   cases ak P e with
   | none=>rfl
   | some sz=>cases zeroCells P e with
    | none=>rfl
    | some z=>cases P.info? e with
     | none=>rfl
     | some inf=>cases x with
      | sl o sz0 n get=>cases j1 s2 y with
       | none=>rfl
       | some q=>cases o with
        | no=>rfl
        | fit=>dsimp only;rw [h]
        | key k=>dsimp only;rw [hx k (by simp [AV.keys])]
      | _=>rfl
  | _=>rfl
theorem m3 {d:Nat} {x:AV} (h:s1.obj d=s2.obj d) (hx:dU s1 s2 x.keys) (P:Program) (t:TypeId) (b:List UInt8):gp P s1 d t x b=gp P s2 d t x b:=by
 unfold gp
 cases P.underlying t with
 | none=>rfl
 | some D=>
  cases D with
  | slice e=>
   dsimp only
   cases ak P e with
   | none=>rfl
   | some sz=>cases zeroCells P e with
    | none=>rfl
    | some z=>cases P.info? e with
     | none=>rfl
     | some inf=>cases P.underlying e with
      | none=>rfl
      | some E=>cases x with
       | sl o sz0 n get=>cases E with
        | int ki=>cases ki <;> cases o <;> first | rfl | (dsimp only;rw [h]) | (dsimp only;rw [hx _ (by simp [AV.keys])])
        | _=>rfl
       | _=>cases E with
        | int ki=>cases ki <;> rfl
        | _=>rfl
  | _=>rfl
theorem pY {P:Program} {s:St} {d:Nat} {t:TypeId} {x v:AV} {bs:List UInt8} {b:Bool} {k:Nat} {ob:AO} (h:gp P s d t x bs=some (b,v,k,ob)):k=d∨k∈x.keys:=by
 unfold gp at h
 split at h
 ·split at h
  ·rename_i ow sz0 n get _ _ _ _
   obtain ⟨_,h⟩:=aj h
   cases ow with
   | no=>cases h
   | fit=>
    simp only [] at h
    split at h
    ·simp only [Option.some.injEq,Prod.mk.injEq] at h;exact .inl h.2.2.1.symm
    ·cases h
   | key k'=>
    simp only [] at h
    split at h
    ·obtain ⟨_,h⟩:=aj h
     simp only [Option.some.injEq,Prod.mk.injEq] at h;exact .inr (by simp [AV.keys,h.2.2.1])
    ·cases h
  ·cases h
 ·cases h
theorem m5 {d:Nat} {x y:AV} (h:s1.obj d=s2.obj d) (hx:dU s1 s2 x.keys) (hy:dU s1 s2 y.keys) (P:Program) (t:TypeId):im P s1 d t x y=im P s2 d t x y:=by
 unfold im
 rw [jf hy]
 cases P.underlying t with
 | none=>rfl
 | some D=>
  cases D with
  | slice e=>
   dsimp only
   cases ak P e with
   | none=>rfl
   | some sz=>cases zeroCells P e with
    | none=>rfl
    | some z=>cases P.info? e with
     | none=>rfl
     | some inf=>cases j1 s2 y with
      | none=>rfl
      | some q=>cases x with
       | sl o sz0 n get=>cases o with
        | no=>rfl
        | fit=>dsimp only;rw [h]
        | key k=>rfl
       | gsl k sz0 n=>dsimp only;rw [hx k (by simp [AV.keys])]
       | _=>rfl
  | _=>rfl
theorem qY {y:AV} (h:dU s1 s2 y.keys):ub s1 y=ub s2 y:=by
 cases y with
 | gsl k sz n=>simp only [ub,h k (by simp [AV.keys])]
 | gsub k sz n lo len=>simp only [ub,h k (by simp [AV.keys])]
 | _=>simp only [ub,jf h]
theorem m7 {d:Nat} {x y:AV} (h:s1.obj d=s2.obj d) (h':s1.obj (d+500000)=s2.obj (d+500000)) (hx:dU s1 s2 x.keys) (hy:dU s1 s2 y.keys) (P:Program) (t:TypeId):gq P s1 d t x y=gq P s2 d t x y:=by
 unfold gq
 rw [qY hy]
 have hf:kU s1.objs d=kU s2.objs d:=by
  unfold kU
  have e1:alook s1.objs d=alook s2.objs d:=h
  have e2:alook s1.objs (d+500000)=alook s2.objs (d+500000):=h'
  rw [e1,e2]
 rw [hf]
 cases P.underlying t with
 | none=>rfl
 | some D=>cases x with
  | gsub k sz0 n lo hh=>cases D <;> first | rfl | (cases lo <;> first | rfl | simp only [hx k (by simp [AV.keys])])
  | _=>cases D <;> rfl
theorem oz {P:Program} {s:St} {d:Nat} {t:TypeId} {x y v:AV} {b:Bool} {us:List (Nat×AO)} (h:gq P s d t x y=some (b,v,us)):∀p∈us,p.1∈x.keys∨p.1=d∨p.1=d+500000:=by
 unfold gq at h
 split at h
 ·split at h
  ·rename_i hK
   obtain ⟨_,h⟩:=aj h
   simp only [Option.some.injEq,Prod.mk.injEq] at h
   obtain ⟨_,_,rfl⟩:=h
   intro p hp
   rcases List.mem_cons.1 hp with rfl | hp
   ·exact .inl (by simp [AV.keys])
   ·simp only [List.mem_singleton] at hp
    subst hp
    right
    unfold kU at hK
    split at hK
    ·exact .inl (Option.some.inj hK).symm
    ·split at hK
     ·exact .inr (Option.some.inj hK).symm
     ·cases hK
  ·cases h
 ·cases h
theorem jm {k:Nat}:∀ {us objs:List (Nat×AO)},(∀p∈us,p.1≠k)->alook (qn objs us) k=alook objs k
 | [],_,_=>rfl
 | (q,o)::r,objs,h=>by
  rw [qn,jm λp hp=>h p (List.mem_cons_of_mem _ hp),aD,if_neg (h _ (List.mem_cons_self ..))]
theorem nJ {k:Nat}:∀ {us o1 o2:List (Nat×AO)},alook o1 k=alook o2 k->alook (qn o1 us) k=alook (qn o2 us) k
 | [],_,_,h=>h
 | (q,o)::r,o1,o2,h=>by
  rw [qn,qn]
  refine nJ ?_
  rw [aD,aD,h]
theorem jn {c:Ctx} {x:Operand} {v:AV} (hv:aA c x=some v):∀ {l:List Operand},x∈l->∀k∈v.keys,k∈aM c l
 | [],hx,_,_=>by simp at hx
 | y::r,hx,k,hk=>by
  simp only [aM,List.mem_append]
  rcases List.mem_cons.1 hx with rfl | hx
  ·left;rw [hv];exact hk
  ·exact .inr (jn hv hx k hk)
theorem kO (P:Program) {op:Op} (h:ek s1 s2 (cw op.operands.toList)) (ho:dU s1 s2 (cond (fe op) (aM ⟨s2,G,ch⟩ op.operands.toList) [])):bk P ⟨s1,G,ch⟩ op=bk P ⟨s2,G,ch⟩ op:=by
 have E:∀ {x:Operand} {ch:dN},x∈op.operands.toList->aA ⟨s1,G,ch⟩ x=aA ⟨s2,G,ch⟩ x:=fun {x ch} hx=>dm (h.sub (m:=[x]) (by simpa using hx))
 have K:fe op=true->∀ {x:Operand} {v:AV},x∈op.operands.toList->aA ⟨s2,G,ch⟩ x=some v->dU s1 s2 v.keys:=λhr {x v} hx hv k hk=>ho k (by rw [hr];exact jn hv hx k hk)
 cases op with
 | move x | assign x | nilCheck x | unOp _ _ x | extract x _ | fieldAddr _ x _ | field _ x _=>simp only [bk];rw [E (by simp [Op.operands])]
 | load t x=>
  simp only [bk];rw [E (by simp [Op.operands])]
  cases hx:aA ⟨s2,G,ch⟩ x with
  | none=>rfl
  | some v=>simp only [Option.bind_some];exact ph (K rfl (by simp [Op.operands]) hx) P t
 | convert a b x=>
  simp only [bk];rw [E (by simp [Op.operands])]
  cases hx:aA ⟨s2,G,ch⟩ x with
  | none=>rfl
  | some v=>simp only [Option.bind_some];exact pV (K rfl (by simp [Op.operands]) hx) P a b
 | pick q a b=>
  cases q with
  | tmp t=>simp only [bk];rw [E (x:=.tmp t) (by simp [Op.operands]),E (x:=a) (by simp [Op.operands]),E (x:=b) (by simp [Op.operands])]
  | _=>rfl
 | build t ps | buildSlice t n ps=>
  simp only [bk];rw [ga (h.sub (by simp [Op.operands]))]
 | binOp op t x y z=>simp only [bk];rw [E (x:=x) (by simp [Op.operands]),E (x:=y) (by simp [Op.operands])]
 | makeSlice t x y=>simp only [bk];rw [E (x:=x) (by simp [Op.operands]),E (x:=y) (by simp [Op.operands])]
 | indexAddr t x y=>
  simp only [bk];rw [E (x:=x) (by simp [Op.operands]),E (x:=y) (by simp [Op.operands])]
  cases hx:aA ⟨s2,G,ch⟩ x with
  | none=>rfl
  | some v=>simp only [Option.bind_some,j9 (K rfl (by simp [Op.operands]) hx)]
 | index t x y=>
  simp only [bk];rw [E (x:=x) (by simp [Op.operands]),E (x:=y) (by simp [Op.operands])]
 | makeFunc f a b=>
  cases f with
  | func f=>simp only [bk];rw [dn (l:=a.toList) (h.sub (by simp +contextual [Op.operands])),dn (l:=b.toList) (h.sub (by simp +contextual [Op.operands]))]
  | _=>rfl
 | slice t x l hi m=>
  simp only [bk]
  rw [E (x:=x) (by simp [Op.operands]),ik (x:=l) (h.sub (by simp +contextual [Op.operands])),ik (x:=hi) (h.sub (by simp +contextual [Op.operands])),ik (x:=m) (h.sub (by simp +contextual [Op.operands]))]
 | call q=>
  obtain ⟨callee,args,ts⟩:=q
  cases callee with
  | builtin b=>
   have hl:cJ ⟨s1,G,ch⟩ args.toList=cJ ⟨s2,G,ch⟩ args.toList:=dn (h.sub (by simp +contextual [Op.operands,Call.operands]))
   cases b <;> first | rfl | (simp only [bk];rw [hl])
  | _=>rfl
 | _=>rfl
end
end Go.Ab

namespace Go.Ab
open Go Go.RowKit
mutual
theorem uA:∀ (v:AV),v.keys=[]->v.shed=v
 | .sl o sz n get,h=>by cases o <;> simp_all [AV.keys,AV.shed]
 | .agg cs,h=>by simp only [AV.shed];rw [kF cs (by simpa [AV.keys] using h)]
 | .tup vs,h=>by simp only [AV.shed];rw [kF vs (by simpa [AV.keys] using h)]
 | .ref ..,_ | .aref ..,_ | .msl ..,_ | .fn ..,_ | .bool _,_ | .int ..,_ | .str _,_ | .nilp,_ | .nilf,_ | .nilm,_ | .nili,_ | .nni,_ | .num _,_ | .undef,_ | .arr ..,_ | .elt ..,_ | .grd ..,_=>rfl
theorem kF:∀ (l:List AV),ah l=[]->aV l=l
 | [],_=>rfl
 | v::r,h=>by
  simp only [ah,List.append_eq_nil_iff] at h
  simp only [aV];rw [uA v h.1,kF r h.2]
end
section
variable {s1 s2:St} {G:Nat->Option (List AV)} {ch:dN}
theorem fy {f:Operand} {args:Array Operand} {ts:Array TypeId} (h:ek s1 s2 (cw (Op.call {callee:=.value f,args,argTypes:=ts}).operands.toList)) :
  dr ⟨s1,G,ch⟩ {callee:=.value f,args,argTypes:=ts}=dr ⟨s2,G,ch⟩ {callee:=.value f,args,argTypes:=ts}:=by
 simp only [dr]
 rw [dm (x:=f) (h.sub (by simp [Op.operands,Call.operands])),dn (l:=args.toList) (h.sub (by simp +contextual [Op.operands,Call.operands]))]
theorem k6 {X:Cfg} {s:St} {o:Oper} (h1:cF o.op=false) (h2:bE o.op=false):dJ X s o=(bk X.P ⟨s,X.G,[]⟩ o.op).map λr=>(r.1,r.2,s.objs):=by
 cases hop:o.op with
 | call q=>
  obtain ⟨callee,args,ts⟩:=q
  cases callee with
  | builtin b=>cases b <;> first | (simp [hop,cF] at h1;done) | simp only [dJ,hop]
  | value f=>simp [hop,bE] at h2
  | invoke r m=>simp only [dJ,hop]
 | alloc _=>simp [hop,cF] at h1
 | box _ _=>simp [hop,cF] at h1
 | store _ _ _=>simp [hop,cF] at h1
 | range _ _=>simp [hop,cF] at h1
 | next _ _=>simp [hop,cF] at h1
 | makeSlice _ _ _=>simp [hop,cF] at h1
 | makeMap t r=>cases r with | none=>simp [hop,cF] at h1 | some r=>simp only [dJ,hop]
 | lookup _ _ _ _=>simp [hop,cF] at h1
 | mapUpdate _ _ _ _=>simp [hop,cF] at h1
 | _=>simp only [dJ,hop]
def e9 (O1 O2:List (Nat×AO)):Prop:=∀k,alook O1 k=alook O2 k
theorem e9.put {O1 O2:List (Nat×AO)} (h:e9 O1 O2) (k:Nat) (o:AO):e9 (aput O1 k o) (aput O2 k o):=λq=>by rw [aD,aD,h q]
theorem jR {O1 O2:List (Nat×AO)} (h:e9 O1 O2) {v v':AV} {O2':List (Nat×AO)} (he:bn O2 v=some (v',O2')):∃O1',bn O1 v=some (v',O1')/\e9 O1' O2':=by
 cases v with
 | msl k sz off n=>
  simp only [bn] at he ⊢
  rw [h k]
  cases ho:alook O2 k with
  | none=>simp [ho] at he
  | some ob=>
   cases ob with
   | arr sz' m get=>
    simp only [ho] at he ⊢
    obtain ⟨hb,he⟩:=aj he
    simp only [Option.some.injEq,Prod.mk.injEq] at he
    obtain ⟨rfl,rfl⟩:=he
    exact ⟨_,by rw [hb];rfl,h.put _ _⟩
   | frz sz' m get=>
    simp only [ho] at he ⊢
    obtain ⟨hb,he⟩:=aj he
    simp only [Option.some.injEq,Prod.mk.injEq] at he
    obtain ⟨rfl,rfl⟩:=he
    exact ⟨_,by rw [hb];rfl,h⟩
   | _=>simp [ho] at he
 | gsl k sz n=>
  simp only [bn] at he ⊢
  rw [h k]
  cases ho:alook O2 k with
  | none=>simp [ho] at he
  | some ob=>
   cases ob with
   | grw sq sz' m get=>
    simp only [ho] at he ⊢
    obtain ⟨hb,he⟩:=aj he
    simp only [Option.some.injEq,Prod.mk.injEq] at he
    obtain ⟨rfl,rfl⟩:=he
    exact ⟨_,by rw [hb];rfl,h.put _ _⟩
   | _=>simp [ho] at he
 | _=>simp only [bn,Option.some.injEq,Prod.mk.injEq] at he ⊢;obtain ⟨rfl,rfl⟩:=he;exact ⟨_,⟨rfl,rfl⟩,h⟩
theorem jP:∀ {l l':List AV} {O1 O2 O2':List (Nat×AO)},e9 O1 O2->bH O2 l=some (l',O2')->∃O1',bH O1 l=some (l',O1')/\e9 O1' O2'
 | [],l',O1,O2,O2',h,he=>by simp only [bH,Option.some.injEq,Prod.mk.injEq] at he;obtain ⟨rfl,rfl⟩:=he;exact ⟨_,rfl,h⟩
 | v::r,l',O1,O2,O2',h,he=>by
  simp only [bH] at he ⊢
  obtain ⟨⟨v',o1⟩,e1,he⟩:=ae he
  obtain ⟨⟨r',o2⟩,e2,he⟩:=ae he
  simp only [Option.some.injEq,Prod.mk.injEq] at he
  obtain ⟨rfl,rfl⟩:=he
  obtain ⟨p1,g1,g2⟩:=jR h e1
  obtain ⟨p2,g3,g4⟩:=jP g2 e2
  exact ⟨p2,by rw [g1];simp only [Option.bind_some];rw [g3];rfl,g4⟩
theorem nZ {O1 O2:List (Nat×AO)} (h:e9 O1 O2) {v v':AV} {O2':List (Nat×AO)} (he:cR O2 v=some (v',O2')):∃O1',cR O1 v=some (v',O1')/\e9 O1' O2':=by
 cases v with
 | agg cs=>
  simp only [cR] at he ⊢
  obtain ⟨⟨l,o⟩,e1,he⟩:=aL he
  simp only [Prod.mk.injEq] at he
  obtain ⟨rfl,rfl⟩:=he
  obtain ⟨p,g1,g2⟩:=jP h e1
  exact ⟨p,by rw [g1];rfl,g2⟩
 | _=>simp only [cR] at he ⊢;exact jR h he
theorem iI:∀ {l l':List AV} {O1 O2 O2':List (Nat×AO)},e9 O1 O2->bf O2 l=some (l',O2')->∃O1',bf O1 l=some (l',O1')/\e9 O1' O2'
 | [],l',O1,O2,O2',h,he=>by simp only [bf,Option.some.injEq,Prod.mk.injEq] at he;obtain ⟨rfl,rfl⟩:=he;exact ⟨_,rfl,h⟩
 | v::r,l',O1,O2,O2',h,he=>by
  simp only [bf] at he ⊢
  obtain ⟨⟨v',o1⟩,e1,he⟩:=ae he
  obtain ⟨⟨r',o2⟩,e2,he⟩:=ae he
  simp only [Option.some.injEq,Prod.mk.injEq] at he
  obtain ⟨rfl,rfl⟩:=he
  obtain ⟨p1,g1,g2⟩:=nZ h e1
  obtain ⟨p2,g3,g4⟩:=iI g2 e2
  exact ⟨p2,by rw [g1];simp only [Option.bind_some];rw [g3];rfl,g4⟩
theorem fQ {O1 O2:List (Nat×AO)} (h:e9 O1 O2):∀l,aN O1 l=aN O2 l
 | []=>rfl
 | k::r=>by simp only [aN,h k,fQ h r]
theorem jN {O1 O2:List (Nat×AO)} (h:e9 O1 O2):∀l,bM O1 l=bM O2 l
 | []=>rfl
 | k::r=>by simp only [bM,h k,jN h r]
theorem jJ:∀ {ks:List Nat} {l:List AO} {O1 O2:List (Nat×AO)},e9 O1 O2->e9 (bd O1 ks l) (bd O2 ks l)
 | [],l,O1,O2,h=>by cases l <;> exact h
 | k::r,[],O1,O2,h=>h
 | k::r,o::l,O1,O2,h=>jJ (ks:=r) (l:=l) (h.put k o)
theorem pL {X:Cfg} {O1 O2:List (Nat×AO)} (h:e9 O1 O2) {f:FuncId} {l:List AV} {b:Bool} {v:AV} {O2':List (Nat×AO)} (he:gd X O2 f l=some (b,v,O2')):∃O1',gd X O1 f l=some (b,v,O1')/\e9 O1' O2':=by
 unfold gd at he ⊢
 obtain ⟨⟨l1,o1⟩,h1,he⟩:=ae he
 have hfz:∃p,cond (X.byRef f) (some (l,O1)) (bf O1 l)=some (l1,p)/\e9 p o1:=by
  cases hb:X.byRef f with
  | true=>simp only [hb,cond_true,Option.some.injEq,Prod.mk.injEq] at h1;obtain ⟨rfl,rfl⟩:=h1;exact ⟨O1,rfl,h⟩
  | false=>simp only [hb,cond_false] at h1;exact iI h h1
 obtain ⟨p,g1,g2⟩:=hfz
 rw [g1]
 dsimp only [Option.bind_some] at he ⊢
 have e1:bj p (ah (aV l1))=bj o1 (ah (aV l1)):=by simp only [bj,fQ g2]
 obtain ⟨hcl,he⟩:=a7 he
 obtain ⟨os,hos,he⟩:=ae he
 obtain ⟨⟨r,os'⟩,hcall,he⟩:=ae he
 obtain ⟨hlen,he⟩:=a7 he
 dsimp only at hlen he
 simp only [Option.some.injEq,Prod.mk.injEq] at he
 obtain ⟨rfl,rfl,rfl⟩:=he
 refine ⟨bd p _ _,?_,jJ g2⟩
 rw [e1,fQ g2,hcl,jN g2,hos]
 simp only [cond_true,Option.bind_some]
 rw [hcall]
 simp only [Option.bind_some,hlen,cond_true]
theorem lG {X:Cfg} {o:Oper} (h1:bE o.op=true) (hO:e9 s1.objs s2.objs) (h:ek s1 s2 (cw o.op.operands.toList)) {b:Bool} {v:AV} {O':List (Nat×AO)} (he:dJ X s2 o=some (b,v,O')) :
  ∃O1',dJ X s1 o=some (b,v,O1')/\e9 O1' O':=by
 cases hop:o.op with
 | call q=>
  obtain ⟨callee,args,ts⟩:=q
  cases callee with
  | value f=>
   rw [hop] at h
   simp only [dJ,hop] at he ⊢
   obtain ⟨⟨g,l⟩,e1,he⟩:=ae he
   obtain ⟨p,g1,g2⟩:=pL hO he
   rw [fy h,e1]
   exact ⟨p,by simp only [Option.bind_some];rw [g1],g2⟩
  | builtin b=>simp [hop,bE] at h1
  | invoke r m=>simp [hop,bE] at h1
 | _=>simp [hop,bE] at h1
theorem og {X:Cfg} {o:Oper} (h1:cF o.op=true) (h:ek s1 s2 (cw o.op.operands.toList)) (hK:dU s1 s2 (jD o.dst.toList++aM ⟨s2,X.G,[]⟩ o.op.operands.toList)) {b:Bool} {v:AV} {O':List (Nat×AO)} (he:dJ X s2 o=some (b,v,O')) :
  ∃us:List (Nat×AO),(∀p∈us,p.1∈jD o.dst.toList++aM ⟨s2,X.G,[]⟩ o.op.operands.toList)/\O'=qn s2.objs us/\dJ X s1 o=some (b,v,qn s1.objs us):=by
 suffices hs:(∃q ob,q∈jD o.dst.toList++aM ⟨s2,X.G,[]⟩ o.op.operands.toList/\O'=aput s2.objs q ob/\dJ X s1 o=some (b,v,aput s1.objs q ob))∨(∃us:List (Nat×AO),(∀p∈us,p.1∈jD o.dst.toList++aM ⟨s2,X.G,[]⟩ o.op.operands.toList)/\O'=qn s2.objs us/\dJ X s1 o=some (b,v,qn s1.objs us)) by
  rcases hs with ⟨q,ob,g1,g2,g3⟩ | hs
  ·exact ⟨[(q,ob)],λp hp=>by simp only [List.mem_singleton] at hp;subst hp;exact g1,g2,g3⟩
  ·exact hs
 have E:∀ {x:Operand},x∈o.op.operands.toList->aA ⟨s1,X.G,[]⟩ x=aA ⟨s2,X.G,[]⟩ x:=fun {x} hx=>dm (h.sub (m:=[x]) (by simpa using hx))
 have K:∀ {x:Operand} {v:AV},x∈o.op.operands.toList->aA ⟨s2,X.G,[]⟩ x=some v->∀k∈v.keys,k∈jD o.dst.toList++aM ⟨s2,X.G,[]⟩ o.op.operands.toList:=fun {x v} hx hv k hk=>List.mem_append_right _ (jn hv hx k hk)
 have D:∀d,o.dst=some d->d∈jD o.dst.toList++aM ⟨s2,X.G,[]⟩ o.op.operands.toList:=λd hd=>List.mem_append_left _ (by rw [hd];simp [jD])
 have D':∀d,o.dst=some d->d+500000∈jD o.dst.toList++aM ⟨s2,X.G,[]⟩ o.op.operands.toList:=λd hd=>List.mem_append_left _ (by rw [hd];simp [jD])
 cases hop:o.op with
 | alloc t=>
  simp only [dJ,hop] at he ⊢
  cases hdst:o.dst with
  | none=>simp [hdst] at he
  | some d=>
   simp only [hdst] at he ⊢
   rw [hK d (D d hdst)]
   cases hob:s2.obj d with
   | some _=>simp [hob] at he
   | none=>
    simp only [hob] at he ⊢
    obtain ⟨ob,e1,e2⟩:=aL he
    simp only [Prod.mk.injEq] at e2
    obtain ⟨rfl,rfl,rfl⟩:=e2
    exact .inl ⟨d,ob,by simp [jD],rfl,by rw [e1];rfl⟩
 | box t x=>
  have hE:=E (x:=x) (by simp [hop,Op.operands])
  simp only [dJ,hop] at he ⊢
  cases hdst:o.dst with
  | none=>simp [hdst] at he
  | some d=>
   simp only [hdst] at he ⊢
   rw [hK d (D d hdst),hE]
   cases hob:s2.obj d with
   | some _=>simp [hob] at he
   | none=>
    simp only [hob] at he ⊢
    obtain ⟨u,e1,he⟩:=ae he
    rw [e1]
    simp only [Option.bind_some]
    cases u with
    | arr sz n get=>
     dsimp only at he ⊢
     obtain ⟨hb,he⟩:=aj he
     simp only [Option.some.injEq,Prod.mk.injEq] at he
     obtain ⟨rfl,rfl,rfl⟩:=he
     exact .inl ⟨d,_,by simp [jD],rfl,by rw [hb];rfl⟩
    | _=>
     dsimp only at he ⊢
     obtain ⟨hb,he⟩:=aj he
     simp only [Option.some.injEq,Prod.mk.injEq] at he
     obtain ⟨rfl,rfl,rfl⟩:=he
     exact .inl ⟨d,_,by simp [jD],rfl,by rw [hb];rfl⟩
 | range t x=>
  have hE:=E (x:=x) (by simp [hop,Op.operands])
  simp only [dJ,hop] at he ⊢
  cases hdst:o.dst with
  | none=>simp [hdst] at he
  | some d=>
   simp only [hdst] at he ⊢
   rw [hK d (D d hdst),hE]
   cases hob:s2.obj d with
   | some _=>simp [hob] at he
   | none=>
    simp only [hob] at he ⊢
    obtain ⟨u,e1,he⟩:=ae he
    rw [e1]
    simp only [Option.bind_some]
    split at he
    ·rename_i bs ht
     simp only [Option.some.injEq,Prod.mk.injEq] at he
     obtain ⟨rfl,rfl,rfl⟩:=he
     exact .inl ⟨d,_,by simp [jD],rfl,rfl⟩
    ·simp at he
 | next x isS=>
  have hE:=E (x:=x) (by simp [hop,Op.operands])
  have hKx:∀ {v:AV},aA ⟨s2,X.G,[]⟩ x=some v->∀k∈v.keys,k∈jD o.dst.toList++aM ⟨s2,X.G,[]⟩ o.op.operands.toList:=fun {v}=>K (x:=x) (v:=v) (by simp [hop,Op.operands])
  rw [hop] at hK hKx
  simp only [dJ,hop] at he ⊢
  rw [hE]
  obtain ⟨u,e1,he'⟩:=ae he
  clear he
  have hku:=hKx e1
  rw [e1]
  simp only [Option.bind_some]
  split at he'
  ·rename_i q
   have he:=he'
   clear he'
   have hq:=hku q (by simp [AV.keys])
   split at he
   ·rename_i bs pos hob
    simp only [Option.some.injEq,Prod.mk.injEq] at he
    obtain ⟨rfl,rfl,rfl⟩:=he
    exact .inl ⟨q,_,hq,rfl,by simp only [hK q hq,hob]⟩
   ·simp at he
  ·simp at he'
 | store t x y=>
  have hE:=E (x:=x) (by simp [hop,Op.operands])
  have hE':=E (x:=y) (by simp [hop,Op.operands])
  have hKx:∀ {v:AV},aA ⟨s2,X.G,[]⟩ x=some v->∀k∈v.keys,k∈jD o.dst.toList++aM ⟨s2,X.G,[]⟩ o.op.operands.toList:=fun {v}=>K (x:=x) (v:=v) (by simp [hop,Op.operands])
  simp only [dJ,hop] at he ⊢
  rw [hE,hE']
  obtain ⟨u,e1,he⟩:=ae he
  obtain ⟨q,e2,he⟩:=ae he
  obtain ⟨⟨b',k,ob⟩,e3,he⟩:=aL he
  simp only [Prod.mk.injEq] at he
  obtain ⟨rfl,rfl,rfl⟩:=he
  rw [e1,e2]
  simp only [Option.bind_some]
  have hku:=hKx e1
  rw [np (λk hk=>hK k (hku k hk)),e3]
  refine .inl ⟨k,ob,?_,rfl,rfl⟩
  have hk:k∈u.keys:=by
   cases u with
   | ref k' off=>
    have:k=k':=by
     simp only [dZ] at e3
     cases ho:s2.obj k' with
     | none=>simp [ho] at e3
     | some o'=>
      cases o' with
      | cells cs=>
       simp only [ho] at e3
       obtain ⟨_,e3⟩:=aj e3
       obtain ⟨_,_,e3⟩:=aL e3
       simp only [Prod.mk.injEq] at e3;exact e3.2.1.symm
      | arr sz n get=>
       simp only [ho] at e3
       cases q <;> simp only [] at e3 <;> first
        | (cases e3;done)
        | (obtain ⟨_,e3⟩:=aj e3;simp only [Option.some.injEq,Prod.mk.injEq] at e3;exact e3.2.1.symm)
      | _=>simp [ho] at e3
    simp [AV.keys,this]
   | aref k' sz' i off=>
    have:k=k':=by
     simp only [dZ] at e3
     cases ho:s2.obj k' with
     | none=>simp [ho] at e3
     | some o'=>
      cases o' with
      | arr sz n get=>
       simp only [ho] at e3
       obtain ⟨_,e3⟩:=aj e3
       obtain ⟨_,_,e3⟩:=aL e3
       simp only [Prod.mk.injEq] at e3;exact e3.2.1.symm
      | _=>simp [ho] at e3
    simp [AV.keys,this]
   | gref k' sz' n' i off=>
    have:k=k':=by
     simp only [dZ] at e3
     cases ho:s2.obj k' with
     | none=>simp [ho] at e3
     | some o'=>
      cases o' with
      | grw sq sz n get=>
       simp only [ho] at e3
       obtain ⟨_,e3⟩:=aj e3
       obtain ⟨_,_,e3⟩:=aL e3
       simp only [Prod.mk.injEq] at e3;exact e3.2.1.symm
      | _=>simp [ho] at e3
    simp [AV.keys,this]
   | _=>simp [dZ] at e3
  rw [<-hop];exact hku k hk
 | makeSlice t x y=>
  have hE:=E (x:=x) (by simp [hop,Op.operands])
  have hE':=E (x:=y) (by simp [hop,Op.operands])
  simp only [dJ,hop] at he ⊢
  rw [hE,hE']
  cases hdst:o.dst with
  | none=>simp [hdst] at he
  | some d=>
   simp only [hdst] at he ⊢
   obtain ⟨u,e1,he⟩:=ae he
   obtain ⟨q,e2,he⟩:=ae he
   obtain ⟨⟨b',v',k,ob⟩,e3,he⟩:=aL he
   simp only [Prod.mk.injEq] at he
   obtain ⟨rfl,rfl,rfl⟩:=he
   rw [e1,e2]
   simp only [Option.bind_some]
   rw [j7 (hK d (D d hdst)),e3]
   have hk:k=d:=by
    clear he hE hE' e1 e2
    unfold di at e3
    split at e3
    ·rename_i e l m hu
     split at e3
     ·obtain ⟨_,e3⟩:=aj e3
      generalize vE x y=same at e3
      cases same with
      | true=>simp only [cond_true,Option.some.injEq,Prod.mk.injEq] at e3;exact e3.2.2.1.symm
      | false=>simp only [cond_false,Option.some.injEq,Prod.mk.injEq] at e3;exact e3.2.2.1.symm
     ·cases e3
    ·cases e3
   exact .inl ⟨k,ob,by simp [hk,jD],rfl,rfl⟩
 | makeMap t r=>
  cases r with
  | some r=>simp [hop,cF] at h1
  | none=>
   simp only [dJ,hop] at he ⊢
   cases hdst:o.dst with
   | none=>simp [hdst] at he
   | some d=>
    simp only [hdst] at he ⊢
    rw [hK d (D d hdst)]
    cases hob:s2.obj d with
    | some _=>simp [hob] at he
    | none=>
     simp only [hob] at he ⊢
     split at he
     ·obtain ⟨z,e0,he⟩:=ae he
      obtain ⟨q,e1,he⟩:=aL he
      simp only [Prod.mk.injEq] at he
      obtain ⟨rfl,rfl,rfl⟩:=he
      exact .inl ⟨d,_,by simp [jD],rfl,by rw [e0,Option.bind_some,e1];rfl⟩
     ·simp at he
 | lookup t x i ok=>
  have hE:=E (x:=x) (by simp [hop,Op.operands])
  have hE':=E (x:=i) (by simp [hop,Op.operands])
  have hKx:∀ {v:AV},aA ⟨s2,X.G,[]⟩ x=some v->∀k∈v.keys,k∈jD o.dst.toList++aM ⟨s2,X.G,[]⟩ o.op.operands.toList:=fun {v}=>K (x:=x) (v:=v) (by simp [hop,Op.operands])
  rw [hop] at hK hKx
  simp only [dJ,hop] at he ⊢
  rw [hE,hE']
  obtain ⟨u,e1,he⟩:=ae he
  obtain ⟨q,e2,he⟩:=ae he
  obtain ⟨r,e3,he⟩:=aL he
  simp only [Prod.mk.injEq] at he
  obtain ⟨rfl,rfl,rfl⟩:=he
  have hku:=hKx e1
  obtain ⟨k,ob,hk,hob⟩:=tf e3
  refine .inl ⟨k,ob,hku k hk,(lk hob).symm,?_⟩
  rw [e1,e2]
  simp only [Option.bind_some]
  rw [pf (λk hk=>hK k (hku k hk)),e3]
  have h1o:alook s1.objs k=some ob:=(hK k (hku k hk)).trans hob
  rw [lk h1o];rfl
 | mapUpdate t x i w=>
  have hE:=E (x:=x) (by simp [hop,Op.operands])
  have hE':=E (x:=i) (by simp [hop,Op.operands])
  have hE2:=E (x:=w) (by simp [hop,Op.operands])
  have hKx:∀ {v:AV},aA ⟨s2,X.G,[]⟩ x=some v->∀k∈v.keys,k∈jD o.dst.toList++aM ⟨s2,X.G,[]⟩ o.op.operands.toList:=fun {v}=>K (x:=x) (v:=v) (by simp [hop,Op.operands])
  rw [hop] at hK hKx
  simp only [dJ,hop] at he ⊢
  rw [hE,hE',hE2]
  obtain ⟨u,e1,he⟩:=ae he
  obtain ⟨q,e2,he⟩:=ae he
  obtain ⟨r,e4,he⟩:=ae he
  obtain ⟨⟨k,ob⟩,e3,he⟩:=aL he
  simp only [Prod.mk.injEq] at he
  obtain ⟨rfl,rfl,rfl⟩:=he
  have hku:=hKx e1
  refine .inl ⟨k,ob,hku k (pb e3),rfl,?_⟩
  rw [e1,e2,e4]
  simp only [Option.bind_some]
  rw [mD (λk hk=>hK k (hku k hk)),e3];rfl
 | call q=>
  obtain ⟨callee,args,ts⟩:=q
  cases callee with
  | builtin bi=>
   cases bi with
   | append=>
    have hl:cJ ⟨s1,X.G,[]⟩ args.toList=cJ ⟨s2,X.G,[]⟩ args.toList:=dn (h.sub (by rw [hop];simp +contextual [Op.operands,Call.operands]))
    simp only [dJ,hop] at he ⊢
    split at he
    ·rename_i d t t' hdst hts
     obtain ⟨hb,he⟩:=aj he
     obtain ⟨l,e1,he⟩:=ae he
     rw [hl,e1,hb]
     have hkeys':∀k∈ah l,k∈jD o.dst.toList++aM ⟨s2,X.G,[]⟩ o.op.operands.toList:=by
       have aux:∀ (as:List Operand) (l:List AV),cJ ⟨s2,X.G,[]⟩ as=some l->∀k∈ah l,k∈aM ⟨s2,X.G,[]⟩ as:=by
        intro as
        induction as with
        | nil=>intro l hl k hk;simp [cJ] at hl;subst hl;simp [ah] at hk
        | cons x r ih=>
         intro l hl k hk
         simp only [cJ] at hl
         obtain ⟨v,g1,hl⟩:=ae hl
         obtain ⟨l',g2,hl⟩:=aL hl
         subst hl
         simp only [ah,List.mem_append] at hk
         simp only [aM,g1,List.mem_append]
         rcases hk with hk | hk
         ·exact .inl hk
         ·exact .inr (ih l' g2 k hk)
       intro k hk
       have:=aux _ _ e1 k hk
       refine List.mem_append_right _ ?_
       rw [hop]
       simpa [Op.operands,Call.operands] using this
     split at he
     ·rename_i x bs
      have hkeys:∀k∈x.keys,k∈jD o.dst.toList++aM ⟨s2,X.G,[]⟩ o.op.operands.toList:=λk hk=>hkeys' k (by simp only [ah,List.mem_append];exact .inl hk)
      obtain ⟨hst,he⟩:=aj he
      obtain ⟨⟨b',v',k,ob⟩,e3,he⟩:=aL he
      simp only [Prod.mk.injEq] at he
      obtain ⟨rfl,rfl,rfl⟩:=he
      simp only [af,cond_true,Option.bind_some,hst]
      rw [m3 (hK d (D d hdst)) (λk hk=>hK k (hkeys k hk)),e3]
      refine .inl ⟨k,ob,?_,rfl,rfl⟩
      rw [<-hop]
      rcases pY e3 with rfl | hk
      ·exact List.mem_append_left _ (by simp [hdst,jD])
      ·exact hkeys k hk
     ·rename_i x y _
      have hkeys:∀k∈ah [x,y],k∈jD o.dst.toList++aM ⟨s2,X.G,[]⟩ o.op.operands.toList:=hkeys'
      obtain ⟨hb',he2⟩:=aj he
      clear he
      have he:=he2
      have hsx:dU s1 s2 x.keys:=λk hk=>hK k (hkeys k (by simp only [ah,List.mem_append];exact .inl hk))
      have hsy:dU s1 s2 y.keys:=λk hk=>hK k (hkeys k (by simp only [ah,List.mem_append];exact .inr (.inl hk)))
      simp only [af,cond_true,Option.bind_some,hb']
      cases hgs:tp x with
      | true=>
       rw [hgs,cond_true] at he
       obtain ⟨⟨b',v',us⟩,e3,he⟩:=aL he
       simp only [Prod.mk.injEq] at he
       obtain ⟨rfl,rfl,rfl⟩:=he
       rw [cond_true,m7 (hK d (D d hdst)) (hK (d+500000) (D' d hdst)) hsx hsy,e3]
       refine .inr ⟨us,λp hp=>?_,rfl,rfl⟩
       rw [<-hop]
       rcases oz e3 p hp with hk | hk | hk
       ·exact hkeys _ (by simp only [ah,List.mem_append];exact .inl hk)
       ·rw [hk];exact D d hdst
       ·rw [hk];exact D' d hdst
      | false=>
      rw [hgs,cond_false] at he
      obtain ⟨⟨b',v',k,ob⟩,e3,he⟩:=aL he
      simp only [Prod.mk.injEq] at he
      obtain ⟨rfl,rfl,rfl⟩:=he
      rw [cond_false,m9 (hK d (D d hdst)) hsx hsy,m5 (hK d (D d hdst)) hsx hsy,e3]
      refine .inl ⟨k,ob,?_,rfl,rfl⟩
      have hk:k=d∨k∈x.keys:=by
       cases hgr:(xc x||X.grow o) with
       | true=>
        rw [hgr,cond_true] at e3
        unfold im at e3
        split at e3
        ·split at e3
         ·rename_i sz z inf sz2 m get2 _ _ _ _
          obtain ⟨_,e3⟩:=aj e3
          split at e3
          ·obtain ⟨_,e3⟩:=aj e3
           split at e3
           ·simp only [Option.some.injEq,Prod.mk.injEq] at e3;exact .inl e3.2.2.1.symm
           ·cases e3
          ·obtain ⟨_,e3⟩:=aj e3
           split at e3
           ·obtain ⟨_,e3⟩:=aj e3
            simp only [Option.some.injEq,Prod.mk.injEq] at e3;exact .inr (by simp [AV.keys,e3.2.2.1])
           ·cases e3
          ·cases e3
         ·cases e3
        ·cases e3
       | false=>
        rw [hgr,cond_false] at e3
        unfold iq at e3
        split at e3
        ·split at e3
         ·rename_i ow sz0 n get sz2 m get2 _ _ _ _
          obtain ⟨_,e3⟩:=aj e3
          cases ow with
          | no=>cases e3
          | fit=>
           simp only [] at e3
           split at e3
           ·simp only [Option.some.injEq,Prod.mk.injEq] at e3;exact .inl e3.2.2.1.symm
           ·cases e3
          | key k'=>
           simp only [] at e3
           split at e3
           ·obtain ⟨_,e3⟩:=aj e3
            simp only [Option.some.injEq,Prod.mk.injEq] at e3;exact .inr (by simp [AV.keys,e3.2.2.1])
           ·cases e3
         ·cases e3
        ·cases e3
      rw [<-hop]
      rcases hk with rfl | hk
      ·exact List.mem_append_left _ (by simp [hdst,jD])
      ·exact hkeys k (by simp only [ah,List.mem_append];exact .inl hk)
     ·cases he
    ·cases he
   | _=>simp [hop,cF] at h1
  | _=>simp [hop,cF] at h1
 | _=>simp [hop,cF] at h1
theorem iV:∀ {n t:Nat} {w:Bool},ek s1 s2 ((bo s2 n t w).map (·.1))->bo s1 n t w=bo s2 n t w
 | 0,_,_,_=>rfl
 | n+1,t,w,h=>by
  have ht:s1.get t=s2.get t:=h t (by simp [bo])
  simp only [bo] at h ⊢
  rw [ht]
  cases hg:s2.get t with
  | none=>rfl
  | some u=>
   cases u with
   | grd tc wc u'=>
    simp only [hg] at h ⊢
    rw [iV (n:=n) λq hq=>h q (by simp only [List.map_cons,List.mem_cons];exact .inr hq)]
   | _=>rfl
theorem jM:∀ {ch:dN},ek s1 s2 (ch.map (·.1))->eP s1 ch=eP s2 ch
 | [],_=>rfl
 | (t,w)::r,h=>by
  have ht:s1.get t=s2.get t:=h t (by simp)
  simp only [eP]
  rw [ht,jM (ch:=r) λq hq=>h q (by simp only [List.map_cons,List.mem_cons];exact .inr hq)]
theorem ni {O1 O2:List (Nat×AO)}:∀ {l:List Nat},(∀k∈l,alook O1 k=alook O2 k)->kC l (oE O2)=true->kC l (oE O1)=true
 | [],_,_=>rfl
 | k::r,h,he=>by
  simp only [kC,Bool.and_eq_true] at he ⊢
  refine ⟨any_beq.2 (tg ?_),ni (λq hq=>h q (List.mem_cons_of_mem _ hq)) he.2⟩
  obtain ⟨o,ho⟩:=iR (any_beq.1 he.1)
  exact ⟨o,by rw [h k (by simp)];exact ho⟩
theorem rA {X:Cfg} {o:Oper} {t:Nat} {w:Bool} {b:Bool} {v:AV} (he:md X s2 o t w=some (b,v)) (h:ek s1 s2 ((bo s2 4 t w).map (·.1)++cw o.op.operands.toList))
  (ho:dU s1 s2 (cond (fe o.op) (aM ⟨s2,X.G,bo s2 4 t w⟩ o.op.operands.toList) []++v.keys)):md X s1 o t w=some (b,v):=by
 have hc:ek s1 s2 ((bo s2 4 t w).map (·.1)):=λq hq=>h q (List.mem_append_left _ hq)
 have hop':ek s1 s2 (cw o.op.operands.toList):=λq hq=>h q (List.mem_append_right _ hq)
 have e1:=iV hc
 have e2:=jM hc
 have hp:(eP s2 (bo s2 4 t w)).bind (λg=>(bk X.P ⟨s2,X.G,bo s2 4 t w⟩ o.op).bind λr=>af (kC r.2.keys (oE s2.objs)) (some (cond r.1 true (!g),r.2)))=some (b,v)->
   (eP s1 (bo s1 4 t w)).bind (λg=>(bk X.P ⟨s1,X.G,bo s1 4 t w⟩ o.op).bind λr=>af (kC r.2.keys (oE s1.objs)) (some (cond r.1 true (!g),r.2)))=some (b,v):=by
  intro he
  rw [e1,e2,kO X.P hop' (λk hk=>ho k (List.mem_append_left _ hk))]
  obtain ⟨g,f1,he⟩:=ae he
  obtain ⟨⟨b',v'⟩,f2,he⟩:=ae he
  obtain ⟨f3,he⟩:=aj he
  simp only [Option.some.injEq,Prod.mk.injEq] at he
  obtain ⟨rfl,rfl⟩:=he
  rw [f1,f2]
  simp only [Option.bind_some]
  rw [ni (λk hk=>ho k (List.mem_append_right _ hk)) f3];rfl
 cases hop:o.op with
 | call q=>
  obtain ⟨callee,args,ts⟩:=q
  cases callee with
  | value f=>simp only [md,hop] at he ⊢;rw [e1,fy (by rw [<-hop];exact hop')];exact he
  | _=>simp only [md,hop] at he ⊢;rw [hop] at hp;exact hp he
 | _=>simp only [md,hop] at he ⊢;rw [hop] at hp;exact hp he
end
end Go.Ab

namespace Go.Ab
open Go Go.RowKit
variable {P:Program} {B:Base} {c:Cx} {s:St} {a:Act}
inductive One (X:Cfg) (ops:Array Oper) (o:Oper) (s:St):St->Prop
 | plain (v:AV) (objs':List (Nat×AO)):o.guard=none->dJ X s o=some (true,v,objs')->One X ops o s (s.after o.dst v objs')
 | guarded (j t d:Nat) (w:Bool) (v:AV):o.guard=some (j,w)->(ops[j]?).bind (·.dst)=some t->o.dst=some d->d≠t->md X s o t w=some (true,v)->One X ops o s (s.put (some d) (.grd t w v))
theorem One.other {X:Cfg} {ops:Array Oper} {o:Oper} {s s':St} (h:One X ops o s s') {t:Nat} (ht:o.dst≠some t):s'.get t=s.get t:=by
 cases h with
 | plain v objs' _ _=>rw [eQ,if_neg ht]
 | guarded j t' d w v _ _ hd _ _=>rw [St.c9,if_neg];rintro rfl;exact ht hd
structure Trace (X:Cfg) (ops:Array Oper) (st:Nat->St):Prop where
 step:∀i o,ops[i]?=some o->One X ops o (st i) (st (i+1))
 later:∀ (i:Nat) (o:Oper) (j t:Nat) (w:Bool),ops[i]?=some o->o.guard=some (j,w)->(ops[j]?).bind (·.dst)=some t->∀ (k:Nat) (q:Oper),i < k->ops[k]?=some q->q.dst≠some t
theorem kK {X:Cfg} {ops:Array Oper} {K:List Fp->St->Res} {r:AV×List AO}:∀ (rest:List Oper) (i:Nat) (acc:List Fp) (s:St),(∀j,rest[j]?=ops[i+j]?)->eF X ops rest i acc s K=some r->
  ∃st:Nat->St,st i=s/\(∀q o,i<=q->ops[q]?=some o->One X ops o (st q) (st (q+1))) /\
   (∀q o j t w,i<=q->ops[q]?=some o->o.guard=some (j,w)->(ops[j]?).bind (·.dst)=some t->∀k p,q < k->ops[k]?=some p->p.dst≠some t) /\
   ∃fps,K (acc++fps) (st (i+rest.length))=some r/\fps.length=rest.length/\∀q o,i<=q->ops[q]?=some o->fps[q - i]?=some (cS X (st q) ops q o)
 | [],i,acc,s,hops,he=>by
  have hno:∀q o,i<=q->ops[q]?≠some o:=λq o hq h=>by
   have:=hops (q - i)
   rw [show i+(q - i)=q by omega,h] at this;simp at this
  refine ⟨λ_=>s,rfl,λq o hq h=>absurd h (hno q o hq),λq o _ _ _ hq h=>absurd h (hno q o hq),[],by simpa [eF] using he,rfl,λq o hq h=>absurd h (hno q o hq)⟩
 | o::rest,i,acc,s,hops,he=>by
  have hoi:ops[i]?=some o:=by have:=hops 0;simpa using this.symm
  have hrest:∀j,rest[j]?=ops[i+1+j]?:=λj=>by
   have:=hops (j+1)
   rw [Nat.add_assoc,Nat.add_comm 1 j];simpa using this
  have main:∀s',One X ops o s s'->eF X ops rest (i+1) (acc++[cS X s ops i o]) s' K=some r->
    (∀j t w,o.guard=some (j,w)->(ops[j]?).bind (·.dst)=some t->∀p∈rest,p.dst≠some t)->
    ∃st:Nat->St,st i=s/\(∀q o,i<=q->ops[q]?=some o->One X ops o (st q) (st (q+1))) /\
   (∀q o j t w,i<=q->ops[q]?=some o->o.guard=some (j,w)->(ops[j]?).bind (·.dst)=some t->∀k p,q < k->ops[k]?=some p->p.dst≠some t) /\
   ∃fps,K (acc++fps) (st (i+(o::rest).length))=some r/\fps.length=(o::rest).length/\∀q o,i<=q->ops[q]?=some o->fps[q - i]?=some (cS X (st q) ops q o):=by
   intro s' hone he' hlat
   obtain ⟨st,h1,h2,h3,fps,h4,h5,h6⟩:=kK rest (i+1) _ s' hrest he'
   have hst:∀q,i+1<=q->(if q<=i then s else st q)=st q:=λq hq=>if_neg (by omega)
   refine ⟨λq=>if q<=i then s else st q,by simp,λq p hq hp=>?_,λq p j t w hq hp hg ht k p' hk hp'=>?_,cS X s ops i o::fps,?_,by simp [h5],λq p hq hp=>?_⟩
   ·by_cases e:q=i
    ·subst e
     rw [hoi] at hp;cases hp
     simp only [Nat.le_refl,if_true]
     rw [if_neg (by omega),h1];exact hone
    ·simp only [hst q (by omega),hst (q+1) (by omega)]
     exact h2 q p (by omega) hp
   ·by_cases e:q=i
    ·subst e
     rw [hoi] at hp;cases hp
     have hm:=hrest (k - (q+1))
     rw [show q+1+(k - (q+1))=k by omega,hp'] at hm
     exact hlat j t w hg ht p' (List.mem_of_getElem? hm)
    ·exact h3 q p j t w (by omega) hp hg ht k p' hk hp'
   ·have e:i+(o::rest).length=i+1+rest.length:=by simp;omega
    simp only [e]
    rw [if_neg (by omega)]
    simpa [List.append_assoc] using h4
   ·by_cases e:q=i
    ·subst e
     rw [hoi] at hp;cases hp
     simp
    ·have:=h6 q p (by omega) hp
     simp only [hst q (by omega)]
     rw [show q - i=(q - (i+1))+1 by omega]
     simpa using this
  simp only [eF] at he
  cases hg:o.guard with
  | none=>
   simp only [hg] at he
   obtain ⟨v,objs',e1,e2⟩:=sr he
   exact main _ (.plain v objs' hg e1) e2 (λj t w h=>by rw [hg] at h;cases h)
  | some jw=>
   obtain ⟨j,w⟩:=jw
   simp only [hg] at he
   cases ht:(ops[j]?).bind (·.dst) with
   | none=>simp [ht] at he
   | some t=>
    simp only [ht] at he
    obtain ⟨hany,he⟩:=jy he
    obtain ⟨d,v,hd,hdt,e1,e2⟩:=nu he
    refine main _ (.guarded j t d w v hg ht hd hdt e1) e2 (λj' t' w' h ht' p hp=>?_)
    rw [hg] at h;cases h
    rw [ht] at ht';cases ht'
    have:=List.any_eq_false.1 hany p hp
    simpa using this
theorem eH:∀ {l:List Oper} {seen:List Nat},eV l seen=true->(∀ (i:Nat) (o:Oper) (d:Nat),l[i]?=some o->o.dst=some d->d ∉ seen) /\
  ∀ (i j:Nat) (o q:Oper) (d:Nat),l[i]?=some o->l[j]?=some q->o.dst=some d->q.dst=some d->i=j
 | [],seen,_=>⟨by simp,by simp⟩
 | p::r,seen,h=>by
  simp only [eV] at h
  cases hd:p.dst with
  | none=>
   simp only [hd] at h
   obtain ⟨h1,h2⟩:=eH h
   refine ⟨λi o d hi ho=>?_,λi j o q d hi hj ho hq=>?_⟩
   ·cases i with
    | zero=>simp at hi;subst hi;rw [hd] at ho;cases ho
    | succ i=>exact h1 i o d (by simpa using hi) ho
   ·cases i with
    | zero=>simp at hi;subst hi;rw [hd] at ho;cases ho
    | succ i=>
     cases j with
     | zero=>simp at hj;subst hj;rw [hd] at hq;cases hq
     | succ j=>rw [h2 i j o q d (by simpa using hi) (by simpa using hj) ho hq]
  | some e=>
   simp only [hd,Bool.and_eq_true,Bool.not_eq_true'] at h
   obtain ⟨h1,h2⟩:=eH h.2
   have hseen:e ∉ seen:=λhm=>by rw [any_beq.2 hm] at h;simp at h
   refine ⟨λi o d hi ho=>?_,λi j o q d hi hj ho hq=>?_⟩
   ·cases i with
    | zero=>simp at hi;subst hi;rw [hd] at ho;cases ho;exact hseen
    | succ i=>exact λhm=>h1 i o d (by simpa using hi) ho (List.mem_cons_of_mem _ hm)
   ·cases i with
    | zero=>
     simp at hi;subst hi;rw [hd] at ho;cases ho
     cases j with
     | zero=>rfl
     | succ j=>exact absurd (List.mem_cons_self) (h1 j q e (by simpa using hj) hq)
    | succ i=>
     cases j with
     | zero=>simp at hj;subst hj;rw [hd] at hq;cases hq;exact absurd (List.mem_cons_self) (h1 i o e (by simpa using hi) ho)
     | succ j=>rw [h2 i j o q d (by simpa using hi) (by simpa using hj) ho hq]
theorem jS:∀ {l:List Oper} {i:Nat},mQ l i=true->∀ (j:Nat) (o:Oper),l[j]?=some o->∀e∈o.after,Region.binds .any e=true->e.on < i+j
 | [],_,_,j,o,h=>by simp at h
 | p::r,i,h,j,o,hj=>by
  simp only [mQ,Bool.and_eq_true] at h
  cases j with
  | zero=>simp at hj;subst hj;intro e he hb;have:=Array.all_eq_true_iff_forall_mem.1 h.1 e he;rw [hb,cond_true] at this;exact ltB this
  | succ j=>intro e he hb;have:=jS h.2 j o (by simpa using hj) e he hb;omega
theorem l7 {bits:List Nat}:∀ {l:List Fp},vc bits l=true->∀ (i j:Nat) (x y:Fp),i < j->l[i]?=some x->l[j]?=some y->(bits.getD y.i 0).testBit x.i=true∨g8 x y=true
 | [],_,i,j,x,y,_,h,_=>by simp at h
 | p::r,h,i,j,x,y,hij,hi,hj=>by
  simp only [vc,Bool.and_eq_true] at h
  cases j with
  | zero=>omega
  | succ j=>
   cases i with
   | zero=>
    simp at hi;subst hi
    have:=List.all_eq_true.1 h.1 y (List.mem_of_getElem? (by simpa using hj))
    simpa using this
   | succ i=>exact l7 h.2 i j x y (by omega) (by simpa using hi) (by simpa using hj)
theorem fu {acc:List Nat}:∀ {l:List Edge} {k:Nat},(dv acc l).testBit k=true->∃e∈l,Region.binds .any e=true/\(k=e.on∨(acc.getD e.on 0).testBit k=true)
 | [],k,h=>by simp [dv] at h
 | e::r,k,h=>by
  simp only [dv] at h
  cases hb:Region.binds .any e with
  | false=>
   simp only [hb,cond_false] at h
   obtain ⟨e',h1,h2⟩:=fu h
   exact ⟨e',List.mem_cons_of_mem _ h1,h2⟩
  | true=>
   simp only [hb,cond_true] at h
   have hor:∀x y:Nat,Nat.lor x y=x ||| y:=λ_ _=>rfl
   simp only [hor,Nat.testBit_or,Bool.or_eq_true,Nat.testBit_two_pow,decide_eq_true_eq] at h
   rcases h with (h | h) | h
   ·exact ⟨e,by simp,hb,.inl h.symm⟩
   ·exact ⟨e,by simp,hb,.inr h⟩
   ·obtain ⟨e',h1,h2⟩:=fu h
    exact ⟨e',List.mem_cons_of_mem _ h1,h2⟩
theorem jT {S:Nat->Prop} {ops:Array Oper} (hS:∀i o,S i->ops[i]?=some o->∀e∈o.after,Region.binds .any e=true->S e.on) :
  ∀ (rest:List Oper) (acc:List Nat),(∀j,rest[j]?=ops[acc.length+j]?)->
   (∀j o,j < acc.length->ops[j]?=some o->(∀e∈o.after,Region.binds .any e=true->S e.on)->∀k,(acc.getD j 0).testBit k=true->S k)->
   ∀j o,ops[j]?=some o->(∀e∈o.after,Region.binds .any e=true->S e.on)->∀k,((fA rest acc).getD j 0).testBit k=true->S k
 | [],acc,hops,hacc,j,o,ho,hr,k,hk=>by
  by_cases hj:j < acc.length
  ·exact hacc j o hj ho hr k hk
  ·have:=hops (j - acc.length)
   rw [show acc.length+(j - acc.length)=j by omega,ho] at this;simp at this
 | p::rest,acc,hops,hacc,j,o,ho,hr,k,hk=>by
  have e:fA (p::rest) acc=fA rest (acc++[dv acc p.after.toList]):=by
   simp only [fA]
   cases dv acc p.after.toList <;> rfl
  rw [e] at hk
  have hp:ops[acc.length]?=some p:=by have:=hops 0;simpa using this.symm
  refine jT hS rest _ (λj=>by have:=hops (j+1);rw [List.length_append,List.length_singleton,Nat.add_assoc,Nat.add_comm 1 j];simpa using this) ?_ j o ho hr k hk
  intro j q hj hq hrq k hk
  by_cases hlt:j < acc.length
  ·rw [List.getD_eq_getElem?_getD,List.getElem?_append_left hlt,<-List.getD_eq_getElem?_getD] at hk
   exact hacc j q hlt hq hrq k hk
  ·have hj':j=acc.length:=by simp at hj;omega
   subst hj'
   rw [hp] at hq;cases hq
   have:(acc++[dv acc p.after.toList]).getD acc.length 0=dv acc p.after.toList:=by simp
   rw [this] at hk
   obtain ⟨ed,h1,h2,h3⟩:=fu hk
   have hSe:=hrq ed (by simpa using h1) h2
   rcases h3 with rfl | h3
   ·exact hSe
   ·by_cases hl:ed.on < acc.length
    ·have ho':ops[ed.on]?=some (ops[ed.on]'(by have:=(Array.getElem?_eq_some_iff.1 hp).1;omega)):=Array.getElem?_eq_getElem _
     exact hacc ed.on _ hl ho' (λe' he' hb'=>hS _ _ hSe ho' e' he' hb') k h3
    ·have:acc.getD ed.on 0=0:=by simp [List.getD_eq_getElem?_getD,List.getElem?_eq_none (by omega:acc.length<=ed.on)]
     rw [this] at h3;simp at h3
end Go.Ab

namespace Go.Ab
open Go Go.RowKit
structure Loc (K:Nat->Prop) (O1 O2 p1 p2:List (Nat×AO)):Prop where
 on:∀k,K k->alook p1 k=alook p2 k
 off1:∀k,¬ K k->alook p1 k=alook O1 k
 off2:∀k,¬ K k->alook p2 k=alook O2 k
 bare:∀k ob,K k->alook p2 k=some ob->ob.keys=[]
variable {K:Nat->Prop}
theorem Loc.start {O1 O2:List (Nat×AO)} (h:∀k,K k->alook O1 k=alook O2 k) (hb:∀k ob,K k->alook O2 k=some ob->ob.keys=[]):Loc K O1 O2 O1 O2:=⟨h,λ_ _=>rfl,λ_ _=>rfl,hb⟩
theorem Loc.trans {O1 O2 p1 p2 q1 q2:List (Nat×AO)} (h:Loc K O1 O2 p1 p2) (g:Loc K p1 p2 q1 q2):Loc K O1 O2 q1 q2:=
 ⟨g.on,λk hk=>(g.off1 k hk).trans (h.off1 k hk),λk hk=>(g.off2 k hk).trans (h.off2 k hk),g.bare⟩
theorem Loc.put {O1 O2 p1 p2:List (Nat×AO)} (h:Loc K O1 O2 p1 p2) {k:Nat} (hk:K k) {o:AO} (ho:o.keys=[]):Loc K O1 O2 (aput p1 k o) (aput p2 k o):=by
 refine ⟨λq hq=>?_,λq hq=>?_,λq hq=>?_,λq ob hq he=>?_⟩
 ·rw [aD,aD,h.on q hq]
 ·rw [aD,if_neg (by rintro rfl;exact hq hk),h.off1 q hq]
 ·rw [aD,if_neg (by rintro rfl;exact hq hk),h.off2 q hq]
 ·rw [aD] at he
  split at he
  ·simp only [Option.some.injEq] at he;subst he;exact ho
  ·exact h.bare q ob hq he
theorem kY {O1 O2 p1 p2:List (Nat×AO)} (h:Loc K O1 O2 p1 p2) {v v':AV} (hv:∀k∈v.keys,K k) {q2:List (Nat×AO)} (he:bn p2 v=some (v',q2)):∃q1,bn p1 v=some (v',q1)/\Loc K O1 O2 q1 q2/\∀k∈v'.keys,K k:=by
 cases v with
 | msl k sz off n=>
  have hk:K k:=hv k (by simp [AV.keys])
  simp only [bn] at he ⊢
  rw [h.on k hk]
  cases ho:alook p2 k with
  | none=>simp [ho] at he
  | some ob=>
   cases ob with
   | arr sz' m get=>
    simp only [ho] at he ⊢
    obtain ⟨hb,he⟩:=aj he
    simp only [Option.some.injEq,Prod.mk.injEq] at he
    obtain ⟨rfl,rfl⟩:=he
    exact ⟨_,by rw [hb];rfl,h.put hk rfl,by simp [AV.keys]⟩
   | frz sz' m get=>
    simp only [ho] at he ⊢
    obtain ⟨hb,he⟩:=aj he
    simp only [Option.some.injEq,Prod.mk.injEq] at he
    obtain ⟨rfl,rfl⟩:=he
    exact ⟨_,by rw [hb];rfl,h,by simp [AV.keys]⟩
   | _=>simp [ho] at he
 | gsl k sz n=>
  have hk:K k:=hv k (by simp [AV.keys])
  simp only [bn] at he ⊢
  rw [h.on k hk]
  cases ho:alook p2 k with
  | none=>simp [ho] at he
  | some ob=>
   cases ob with
   | grw sq sz' m get=>
    simp only [ho] at he ⊢
    obtain ⟨hb,he⟩:=aj he
    simp only [Option.some.injEq,Prod.mk.injEq] at he
    obtain ⟨rfl,rfl⟩:=he
    exact ⟨_,by rw [hb];rfl,h.put hk (nY _ _ _ _),by simp [AV.keys]⟩
   | _=>simp [ho] at he
 | _=>simp only [bn,Option.some.injEq,Prod.mk.injEq] at he ⊢;obtain ⟨rfl,rfl⟩:=he;exact ⟨_,⟨rfl,rfl⟩,h,hv⟩
theorem kV:∀ {l l':List AV} {O1 O2 p1 p2 q2:List (Nat×AO)},Loc K O1 O2 p1 p2->(∀k∈ah l,K k)->bH p2 l=some (l',q2)->∃q1,bH p1 l=some (l',q1)/\Loc K O1 O2 q1 q2/\∀k∈ah l',K k
 | [],l',O1,O2,p1,p2,q2,h,hv,he=>by simp only [bH,Option.some.injEq,Prod.mk.injEq] at he;obtain ⟨rfl,rfl⟩:=he;exact ⟨_,rfl,h,hv⟩
 | v::r,l',O1,O2,p1,p2,q2,h,hv,he=>by
  simp only [bH] at he ⊢
  simp only [ah,List.mem_append] at hv
  obtain ⟨⟨v',o1⟩,e1,he⟩:=ae he
  obtain ⟨⟨r',o2⟩,e2,he⟩:=ae he
  simp only [Option.some.injEq,Prod.mk.injEq] at he
  obtain ⟨rfl,rfl⟩:=he
  obtain ⟨x1,g1,g2,g3⟩:=kY h (λk hk=>hv k (.inl hk)) e1
  obtain ⟨x2,g4,g5,g6⟩:=kV g2 (λk hk=>hv k (.inr hk)) e2
  refine ⟨x2,by rw [g1];simp only [Option.bind_some];rw [g4];rfl,g5,λk hk=>?_⟩
  simp only [ah,List.mem_append] at hk
  exact hk.elim (g3 k) (g6 k)
theorem pw {O1 O2 p1 p2:List (Nat×AO)} (h:Loc K O1 O2 p1 p2) {v v':AV} (hv:∀k∈v.keys,K k) {q2:List (Nat×AO)} (he:cR p2 v=some (v',q2)):∃q1,cR p1 v=some (v',q1)/\Loc K O1 O2 q1 q2/\∀k∈v'.keys,K k:=by
 cases v with
 | agg cs=>
  simp only [cR] at he ⊢
  simp only [AV.keys] at hv
  obtain ⟨⟨l,o⟩,e1,he⟩:=aL he
  simp only [Prod.mk.injEq] at he
  obtain ⟨rfl,rfl⟩:=he
  obtain ⟨p,g1,g2,g3⟩:=kV h hv e1
  exact ⟨p,by rw [g1];rfl,g2,λk hk=>g3 k (by simpa [AV.keys] using hk)⟩
 | _=>simp only [cR] at he ⊢;exact kY h hv he
theorem jO:∀ {l l':List AV} {O1 O2 p1 p2 q2:List (Nat×AO)},Loc K O1 O2 p1 p2->(∀k∈ah l,K k)->bf p2 l=some (l',q2)->∃q1,bf p1 l=some (l',q1)/\Loc K O1 O2 q1 q2/\∀k∈ah l',K k
 | [],l',O1,O2,p1,p2,q2,h,hv,he=>by simp only [bf,Option.some.injEq,Prod.mk.injEq] at he;obtain ⟨rfl,rfl⟩:=he;exact ⟨_,rfl,h,hv⟩
 | v::r,l',O1,O2,p1,p2,q2,h,hv,he=>by
  simp only [bf] at he ⊢
  simp only [ah,List.mem_append] at hv
  obtain ⟨⟨v',o1⟩,e1,he⟩:=ae he
  obtain ⟨⟨r',o2⟩,e2,he⟩:=ae he
  simp only [Option.some.injEq,Prod.mk.injEq] at he
  obtain ⟨rfl,rfl⟩:=he
  obtain ⟨x1,g1,g2,g3⟩:=pw h (λk hk=>hv k (.inl hk)) e1
  obtain ⟨x2,g4,g5,g6⟩:=jO g2 (λk hk=>hv k (.inr hk)) e2
  refine ⟨x2,by rw [g1];simp only [Option.bind_some];rw [g4];rfl,g5,λk hk=>?_⟩
  simp only [ah,List.mem_append] at hk
  exact hk.elim (g3 k) (g6 k)
theorem fj {O:List (Nat×AO)} (hb:∀k ob,K k->alook O k=some ob->ob.keys=[]):∀l,(∀k∈l,K k)->aN O l=[]
 | [],_=>rfl
 | k::r,h=>by
  simp only [aN]
  rw [fj hb r λq hq=>h q (List.mem_cons_of_mem _ hq),List.append_nil]
  cases ho:alook O k with
  | none=>rfl
  | some ob=>simp [hb k ob (h k (by simp)) ho]
theorem kT {O1 O2:List (Nat×AO)} (h:∀k,K k->alook O1 k=alook O2 k):∀l,(∀k∈l,K k)->bM O1 l=bM O2 l
 | [],_=>rfl
 | k::r,hl=>by simp only [bM,h k (hl k (by simp)),kT h r λq hq=>hl q (List.mem_cons_of_mem _ hq)]
theorem lR {O:List (Nat×AO)} (hb:∀k ob,K k->alook O k=some ob->ob.keys=[]) {l:List Nat} (h:∀k∈l,K k):bj O l=bF (bF (bF [] l) []) []/\∀k∈bj O l,K k:=by
 have h1:∀k∈bF [] l,K k:=λk hk=>by
  rcases ((cX l [] List.nodup_nil).2 k).1 hk with hk | hk
  ·simp at hk
  ·exact h k hk
 have e1:aN O (bF [] l)=[]:=fj hb _ h1
 have e2:bj O l=bF (bF (bF [] l) []) []:=by
  simp only [bj,e1,bF]
 refine ⟨e2,λk hk=>?_⟩
 rw [e2] at hk
 simp only [bF] at hk
 exact h1 k hk
theorem rC {X:Cfg} {O1 O2:List (Nat×AO)} (h:∀k,K k->alook O1 k=alook O2 k) (hb:∀k ob,K k->alook O2 k=some ob->ob.keys=[]) {f:FuncId} {l:List AV} (hl:∀k∈ah l,K k) {b:Bool} {v:AV} {O2':List (Nat×AO)} (he:gd X O2 f l=some (b,v,O2')) :
  ∃O1',gd X O1 f l=some (b,v,O1')/\(∀k,K k->alook O1' k=alook O2' k)/\(∀k,¬ K k->alook O1' k=alook O1 k)/\(∀k,¬ K k->alook O2' k=alook O2 k):=by
 unfold gd at he ⊢
 obtain ⟨⟨l1,o1⟩,h1,he⟩:=ae he
 have hfz:∃p,cond (X.byRef f) (some (l,O1)) (bf O1 l)=some (l1,p)/\Loc K O1 O2 p o1/\∀k∈ah l1,K k:=by
  cases hb':X.byRef f with
  | true=>simp only [hb',cond_true,Option.some.injEq,Prod.mk.injEq] at h1;obtain ⟨rfl,rfl⟩:=h1;exact ⟨O1,rfl,Loc.start h hb,hl⟩
  | false=>simp only [hb',cond_false] at h1;exact jO (Loc.start h hb) hl h1
 obtain ⟨p,g1,g2,g3⟩:=hfz
 rw [g1]
 dsimp only [Option.bind_some] at he ⊢
 have g4:∀k∈ah (aV l1),K k:=λk hk=>g3 k (gx l1 k hk)
 obtain ⟨r1,r2⟩:=lR g2.bare g4
 obtain ⟨r3,_⟩:=lR (O:=p) (λk ob hk ho=>g2.bare k ob hk (by rw [<-g2.on k hk];exact ho)) g4
 have e1:bj p (ah (aV l1))=bj o1 (ah (aV l1)):=r3.trans r1.symm
 have e2:aN o1 (bj o1 (ah (aV l1)))=[]:=fj g2.bare _ r2
 have e3:aN p (bj o1 (ah (aV l1)))=[]:=fj (λk ob hk ho=>g2.bare k ob hk (by rw [<-g2.on k hk];exact ho)) _ r2
 have hnd:(bj o1 (ah (aV l1))).Nodup:=(dh o1 (ah (aV l1))).1
 obtain ⟨hcl,he⟩:=a7 he
 obtain ⟨os,hos,he⟩:=ae he
 obtain ⟨⟨r,os'⟩,hcall,he⟩:=ae he
 obtain ⟨hlen,he⟩:=a7 he
 dsimp only at hlen he
 simp only [Option.some.injEq,Prod.mk.injEq] at he
 obtain ⟨rfl,rfl,rfl⟩:=he
 rw [e2] at hcl
 generalize hks:bj o1 (ah (aV l1))=ks at *
 have hlen':(os'.map (AO.ren λk=>dI ks (k - aa))).length=ks.length:=by rw [List.length_map];exact cG hlen
 refine ⟨bd p ks (os'.map (AO.ren λk=>dI ks (k - aa))),?_,λk hk=>?_,λk hk=>?_,λk hk=>?_⟩
 ·rw [e1,e3,hcl,kT g2.on _ r2,hos]
  simp only [cond_true,Option.bind_some]
  rw [hcall]
  simp only [Option.bind_some,hlen,cond_true]
 ·rw [ca hnd hlen',ca hnd hlen',g2.on k hk]
 ·rw [ca hnd hlen',if_neg λhm=>hk (r2 k hm),g2.off1 k hk]
 ·rw [ca hnd hlen',if_neg λhm=>hk (r2 k hm),g2.off2 k hk]
theorem fU {G:Nat->Option (List AV)} {ch:dN} {s:St}:∀ {l:List Operand} {vs:List AV},cJ ⟨s,G,ch⟩ l=some vs->∀k∈ah vs,k∈aM ⟨s,G,ch⟩ l
 | [],vs,h,k,hk=>by simp [cJ] at h;subst h;simp [ah] at hk
 | x::r,vs,h,k,hk=>by
  simp only [cJ] at h
  obtain ⟨v,h1,h⟩:=ae h
  obtain ⟨l,h2,h⟩:=aL h
  subst h
  simp only [ah,List.mem_append] at hk
  simp only [aM,h1,List.mem_append]
  exact hk.imp id (fU h2 k)
theorem pW {G:Nat->Option (List AV)} {ch:dN} {s:St} {f:Operand} {args:Array Operand} {ts:Array TypeId} {g:FuncId} {l:List AV}
  (he:dr ⟨s,G,ch⟩ {callee:=.value f,args,argTypes:=ts}=some (g,l)):∀k∈ah l,k∈aM ⟨s,G,ch⟩ (Op.call {callee:=.value f,args,argTypes:=ts}).operands.toList:=by
 unfold dr at he
 dsimp only at he
 obtain ⟨fv,h1,he⟩:=ae he
 obtain ⟨vs,h2,he⟩:=ae he
 have hm:∀ (l:List Operand) (x:Operand) (v:AV),x∈l->aA ⟨s,G,ch⟩ x=some v->∀k∈v.keys,k∈aM ⟨s,G,ch⟩ l:=by
  intro l
  induction l with
  | nil=>intro x v hx;simp at hx
  | cons y r ih=>
   intro x v hx hv k hk
   simp only [aM,List.mem_append]
   rcases List.mem_cons.1 hx with rfl | hx
   ·left;rw [hv];exact hk
   ·exact .inr (ih x v hx hv k hk)
 have hsub:∀ (l m:List Operand),(∀x∈m,x∈l)->(∀x∈m,∃v,aA ⟨s,G,ch⟩ x=some v)->∀k∈aM ⟨s,G,ch⟩ m,k∈aM ⟨s,G,ch⟩ l:=by
  intro l m
  induction m with
  | nil=>intro _ _ k hk;simp [aM] at hk
  | cons y r ih=>
   intro hx hv k hk
   obtain ⟨v,hv'⟩:=hv y (by simp)
   simp only [aM,hv',List.mem_append] at hk
   rcases hk with hk | hk
   ·exact hm l y v (hx y (by simp)) hv' k hk
   ·exact ih (λx h=>hx x (List.mem_cons_of_mem _ h)) (λx h=>hv x (List.mem_cons_of_mem _ h)) k hk
 have hev:∀ (m:List Operand) (vs:List AV),cJ ⟨s,G,ch⟩ m=some vs->∀x∈m,∃v,aA ⟨s,G,ch⟩ x=some v:=by
  intro m
  induction m with
  | nil=>intro vs _ x hx;simp at hx
  | cons y r ih=>
   intro vs h x hx
   simp only [cJ] at h
   obtain ⟨v,h1,h⟩:=ae h
   obtain ⟨l,h2,h⟩:=aL h
   rcases List.mem_cons.1 hx with rfl | hx
   ·exact ⟨v,h1⟩
   ·exact ih l h2 x hx
 cases fv with
 | fn f' first caps=>
  simp only [Option.some.injEq,Prod.mk.injEq] at he
  obtain ⟨_,rfl⟩:=he
  intro k hk
  simp only [ew,List.mem_append] at hk
  have hf:∀k∈(AV.fn f' first caps).keys,k∈aM ⟨s,G,ch⟩ (Op.call {callee:=.value f,args,argTypes:=ts}).operands.toList:=hm _ f _ (by simp [Op.operands,Call.operands]) h1
  rcases hk with (hk | hk) | hk
  ·exact hf k (by simp [AV.keys,hk])
  ·exact hsub _ args.toList (by simp +contextual [Op.operands,Call.operands]) (hev _ _ h2) k (fU h2 k hk)
  ·exact hf k (by simp [AV.keys,hk])
 | _=>simp at he
variable {s1 s2:St}
theorem me {X:Cfg} {o:Oper} (h1:bE o.op=true) (h:ek s1 s2 (cw o.op.operands.toList)) (hb:aN s2.objs (aM ⟨s2,X.G,[]⟩ o.op.operands.toList)=[])
  (hK:∀k∈aM ⟨s2,X.G,[]⟩ o.op.operands.toList,s1.obj k=s2.obj k) {b:Bool} {v:AV} {O':List (Nat×AO)} (he:dJ X s2 o=some (b,v,O')) :
  ∃O1',dJ X s1 o=some (b,v,O1')/\(∀k∈aM ⟨s2,X.G,[]⟩ o.op.operands.toList,alook O1' k=alook O' k)/\(∀k,k ∉ aM ⟨s2,X.G,[]⟩ o.op.operands.toList->alook O1' k=alook s1.objs k) /\
   (∀k,k ∉ aM ⟨s2,X.G,[]⟩ o.op.operands.toList->alook O' k=alook s2.objs k):=by
 cases hop:o.op with
 | call q=>
  obtain ⟨callee,args,ts⟩:=q
  cases callee with
  | value f=>
   rw [hop] at h hb hK
   simp only [dJ,hop] at he ⊢
   obtain ⟨⟨g,l⟩,e1,he⟩:=ae he
   have hl:=pW e1
   have hbare:∀k ob,k∈aM ⟨s2,X.G,[]⟩ (Op.call {callee:=.value f,args,argTypes:=ts}).operands.toList->alook s2.objs k=some ob->ob.keys=[]:=λk ob hk ho=>by
    cases hx:ob.keys with
    | nil=>rfl
    | cons y r=>exact absurd (bZ hk ho y (by rw [hx];simp)) (by rw [hb];simp)
   obtain ⟨O1',g1,g2,g3,g4⟩:=rC (K:=λk=>k∈aM ⟨s2,X.G,[]⟩ (Op.call {callee:=.value f,args,argTypes:=ts}).operands.toList) (O1:=s1.objs) hK hbare hl he
   rw [fy h,e1]
   exact ⟨O1',by simp only [Option.bind_some];rw [g1],g2,g3,g4⟩
  | builtin b=>simp [hop,bE] at h1
  | invoke r m=>simp [hop,bE] at h1
 | _=>simp [hop,bE] at h1
end Go.Ab

namespace Go.Ab
open Go Go.RowKit
variable {P:Program} {B:Base} {c:Cx} {s:St} {a:Act}
theorem dp {l m:List Nat} (h:rH l m=true) {k:Nat} (h1:k∈l) (h2:k∈m):False:=by
 have:=List.all_eq_true.1 h k h1
 rw [any_beq.2 h2] at this;simp at this
theorem td {op:Op} (h:cF op=true):bE op=false:=by
 cases op with
 | call q=>
  obtain ⟨callee,args,ts⟩:=q
  cases callee with
  | value f=>simp [cF] at h
  | _=>rfl
 | _=>rfl
theorem cH (s:St) (d:Option Nat) (v:AV) (objs:List (Nat×AO)) (k:Nat):(s.after d v objs).obj k=alook objs k:=by simp only [St.obj,rl]
theorem ek.refl (s:St) (l:List Nat):ek s s l:=λ_ _=>rfl
theorem dU.refl (s:St) (l:List Nat):dU s s l:=λ_ _=>rfl
theorem One.obj {X:Cfg} {ops:Array Oper} {i:Nat} {o:Oper} {s s':St} (h:One X ops o s s') (ha:(cS X s ops i o).all=false) {k:Nat} (hw:k ∉ (cS X s ops i o).wr):s'.obj k=s.obj k:=by
 cases h with
 | plain v objs' hg he=>
  rw [cH]
  simp only [cS,hg,Bool.and_eq_false_iff,Bool.not_eq_false'] at ha hw
  cases hl:cF o.op with
  | true=>
   rw [hl,cond_true] at hw
   obtain ⟨us,h1,h2,_⟩:=og hl (ek.refl s _) (dU.refl s _) he
   rw [h2]
   exact jm λp hp e=>hw (e ▸ h1 p hp)
  | false=>
   by_cases hc:bE o.op=true
   ·have hfar:isNil (aN s.objs (aM ⟨s,X.G,[]⟩ o.op.operands.toList))=true:=ha.resolve_left (by simp [hc])
    rw [hl,hc,hfar] at hw
    simp only [cond_false,Bool.and_self,cond_true] at hw
    obtain ⟨O1',_,_,_,g4⟩:=me hc (ek.refl s _) (gH hfar) (λ_ _=>rfl) he
    rw [g4 k hw];rfl
   ·rw [k6 hl (by simpa using hc)] at he
    obtain ⟨r,_,he⟩:=aL he
    simp only [Prod.mk.injEq] at he
    rw [<-he.2.2];rfl
 | guarded j t d w v _ _ _ _ _=>simp
theorem tF {X:Cfg} {s:St} {o:Oper} {t:Nat} {w b:Bool} {v:AV} (hc:bE o.op=true) (he:md X s o t w=some (b,v)):v.keys=[]:=by
 cases hop:o.op with
 | call q=>
  obtain ⟨callee,args,ts⟩:=q
  cases callee with
  | value f=>
   simp only [md,hop] at he
   obtain ⟨q,_,he⟩:=ae he
   obtain ⟨_,he⟩:=aj he
   obtain ⟨⟨r,os⟩,_,he⟩:=ae he
   cases os with
   | nil=>
    dsimp only at he
    obtain ⟨hb,he⟩:=aj he
    simp only [Option.some.injEq,Prod.mk.injEq] at he
    obtain ⟨_,rfl⟩:=he
    simp only [Bool.and_eq_true] at hb
    exact gH hb.1
   | cons _ _=>simp at he
  | builtin b=>simp [hop,bE] at hc
  | invoke r m=>simp [hop,bE] at hc
 | _=>simp [hop,bE] at hc
theorem One.move {X:Cfg} {ops:Array Oper} {i:Nat} {o:Oper} {s1 s2 s2':St} (h:One X ops o s2 s2') (ht:ek s1 s2 (cS X s2 ops i o).tmps)
  (ho:∀k,k∈(cS X s2 ops i o).rd∨k∈(cS X s2 ops i o).wr∨(cS X s2 ops i o).all=true->s1.obj k=s2.obj k) :
  ∃s1',One X ops o s1 s1'/\(∀d,o.dst=some d->s1'.get d=s2'.get d)/\(∀k,k∈(cS X s2 ops i o).wr∨(cS X s2 ops i o).all=true->s1'.obj k=s2'.obj k) /\
   (∀k,(cS X s2 ops i o).all=false->k ∉ (cS X s2 ops i o).wr->s1'.obj k=s1.obj k):=by
 cases h with
 | plain v objs' hg he=>
  have htm:(cS X s2 ops i o).tmps=cw o.op.operands.toList:=by simp only [cS,hg]
  have hwr:(cS X s2 ops i o).wr=cond (cF o.op) (jD o.dst.toList++aM ⟨s2,X.G,[]⟩ o.op.operands.toList) (cond (bE o.op&&isNil (aN s2.objs (aM ⟨s2,X.G,[]⟩ o.op.operands.toList))) (aM ⟨s2,X.G,[]⟩ o.op.operands.toList) []):=by simp only [cS,hg]
  have hrd:(cS X s2 ops i o).rd=cond (fe o.op) (aM ⟨s2,X.G,[]⟩ o.op.operands.toList) []:=by simp only [cS,hg]
  have hall:(cS X s2 ops i o).all=(bE o.op&&!isNil (aN s2.objs (aM ⟨s2,X.G,[]⟩ o.op.operands.toList))):=by simp only [cS,hg]
  rw [htm] at ht
  rw [hwr,hrd,hall] at ho
  rw [hwr,hall]
  have hd:∀ (O1:List (Nat×AO)) (d:Nat),o.dst=some d->(s1.after o.dst v O1).get d=(s2.after o.dst v objs').get d:=λO1 d hd=>by rw [eQ,eQ,if_pos hd,if_pos hd]
  cases hl:cF o.op with
  | true=>
   rw [hl] at ho
   simp only [cond_true] at ho ⊢
   obtain ⟨us,h1,h2,h3⟩:=og hl ht (λk hk=>ho k (.inr (.inl hk))) he
   refine ⟨_,.plain v _ hg h3,hd _,λk hk=>?_,λk _ hk=>?_⟩
   ·rw [cH,cH,h2]
    refine nJ ?_
    rcases hk with hk | hk
    ·exact ho k (.inr (.inl hk))
    ·rw [td hl] at hk;simp at hk
   ·rw [cH]
    exact jm λp hp e=>hk (e ▸ h1 p hp)
  | false=>
   rw [hl] at ho
   simp only [cond_false] at ho ⊢
   cases hc:bE o.op with
   | true=>
    cases hn:isNil (aN s2.objs (aM ⟨s2,X.G,[]⟩ o.op.operands.toList)) with
    | true=>
     rw [hc,hn] at ho
     simp only [Bool.and_self,cond_true] at ho ⊢
     obtain ⟨O1,e1,e2,e3,e4⟩:=me hc ht (gH hn) (λk hk=>ho k (.inr (.inl hk))) he
     refine ⟨_,.plain v _ hg e1,hd _,λk hk=>?_,λk _ hk=>?_⟩
     ·rw [cH,cH]
      rcases hk with hk | hk
      ·exact e2 k hk
      ·simp at hk
     ·rw [cH];exact e3 k hk
    | false=>
     obtain ⟨O1,e1,e2⟩:=lG hc (λk=>ho k (.inr (.inr (by rw [hc,hn];rfl)))) ht he
     exact ⟨_,.plain v _ hg e1,hd _,λk _=>by rw [cH,cH];exact e2 k,λk hk=>by simp at hk⟩
   | false=>
    have he':=he
    rw [k6 hl hc] at he'
    obtain ⟨⟨b',v'⟩,e1,e2⟩:=aL he'
    simp only [Prod.mk.injEq] at e2
    obtain ⟨rfl,rfl,rfl⟩:=e2
    have e3:dJ X s1 o=some (true,v',s1.objs):=by
     rw [k6 hl hc,kO X.P ht (λk hk=>ho k (.inl hk)),e1];rfl
    exact ⟨_,.plain v' _ hg e3,hd _,λk hk=>by simp at hk,λk _ _=>by rw [cH];rfl⟩
 | guarded j t d w v hg hj hd hdt he=>
  have htm:(cS X s2 ops i o).tmps=(bo s2 4 t w).map (·.1)++cw o.op.operands.toList:=by simp only [cS,hg,hj]
  have hwr:(cS X s2 ops i o).wr=[]:=by simp only [cS,hg,hj]
  have hall:(cS X s2 ops i o).all=false:=by simp only [cS,hg,hj]
  have hrd:(cS X s2 ops i o).rd=cond (fe o.op) (aM ⟨s2,X.G,bo s2 4 t w⟩ o.op.operands.toList) []++v.keys:=by
   simp only [cS,hg,hj,he]
   cases hc:bE o.op with
   | false=>rfl
   | true=>rw [tF hc he];rfl
  rw [htm] at ht
  have he1:md X s1 o t w=some (true,v):=rA he ht λk hk=>ho k (.inl (by rw [hrd];exact hk))
  refine ⟨_,.guarded j t d w v hg hj hd hdt he1,λd' hd'=>?_,λk hk=>by rw [hwr,hall] at hk;simp at hk,λk _ _=>by simp⟩
  rw [hd] at hd';cases hd'
  rw [St.c9,St.c9,if_pos rfl,if_pos rfl]
structure Plan (X:Cfg) (ops:Array Oper) (st:Nat->St):Prop where
 T:Trace X ops st
 plain:bA (st 0)
 uniq:∀ (i j:Nat) (o q:Oper) (d:Nat),ops[i]?=some o->ops[j]?=some q->o.dst=some d->q.dst=some d->i=j
 edge:∀ (i:Nat) (o:Oper),ops[i]?=some o->∀e∈o.after,Region.binds .any e=true->e.on < i
 pair:∀ (i j:Nat) (o q:Oper),i < j->ops[i]?=some o->ops[j]?=some q->((fA ops.toList []).getD j 0).testBit i=true∨g8 (cS X (st i) ops i o) (cS X (st j) ops j q)=true
section
variable {X:Cfg} {ops:Array Oper} {st:Nat->St}
theorem qx {ops:Array Oper} {i:Nat} (h:i < ops.size):∃o,ops[i]?=some o:=⟨ops[i],Array.getElem?_eq_getElem h⟩
theorem Plan.xi (p:Plan X ops st):∀ (i t:Nat),i<=ops.size->(∀j o,j < i->ops[j]?=some o->o.dst≠some t)->(st i).get t=(st 0).get t
 | 0,_,_,_=>rfl
 | i+1,t,hi,h=>by
  obtain ⟨o,ho⟩:=qx (show i < ops.size by omega)
  rw [(p.T.step i o ho).other (h i o (by omega) ho)]
  exact p.xi i t (by omega) λj o hj=>h j o (by omega)
theorem Plan.tu (p:Plan X ops st) {j t:Nat} {o:Oper} (hj:ops[j]?=some o) (ht:o.dst=some t):∀ (k:Nat),j+1+k<=ops.size->(st (j+1+k)).get t=(st (j+1)).get t
 | 0,_=>rfl
 | k+1,hk=>by
  obtain ⟨q,hq⟩:=qx (show j+1+k < ops.size by omega)
  rw [<-Nat.add_assoc,(p.T.step _ q hq).other λe=>?_]
  ·exact p.tu hj ht k (by omega)
  ·have:=p.uniq j _ o q t hj hq ht e;omega
theorem Plan.DK (p:Plan X ops st) {i j t:Nat} {o:Oper} (hj:ops[j]?=some o) (ht:o.dst=some t) (hij:j < i) (hi:i<=ops.size):(st i).get t=(st ops.size).get t:=by
 have h1:=p.tu hj ht (i - (j+1)) (by omega)
 have h2:=p.tu hj ht (ops.size - (j+1)) (by omega)
 rw [show j+1+(i - (j+1))=i by omega] at h1
 rw [show j+1+(ops.size - (j+1))=ops.size by omega] at h2
 rw [h1,h2]
def rN (X:Cfg) (ops:Array Oper) (st:Nat->St) (j:Nat) (o:Oper) (k:Nat):Prop:=k∈(cS X (st j) ops j o).wr∨(cS X (st j) ops j o).all=true
theorem Plan.objs (p:Plan X ops st) {i q:Nat}:∀ (k:Nat),i+k<=ops.size->(∀j o,i<=j->j < i+k->ops[j]?=some o->¬ rN X ops st j o q)->(st (i+k)).obj q=(st i).obj q
 | 0,_,_=>rfl
 | k+1,hk,h=>by
  obtain ⟨o,ho⟩:=qx (show i+k < ops.size by omega)
  have hn:=h _ o (by omega) (by omega) ho
  rw [<-Nat.add_assoc,(p.T.step _ o ho).obj (i:=i+k) (by simpa using λe=>hn (.inr e)) (λe=>hn (.inl e))]
  exact p.objs k (by omega) λj o h1 h2=>h j o h1 (by omega)
structure Inv (X:Cfg) (ops:Array Oper) (st:Nat->St) (S:Nat->Prop) (s:St):Prop where
 done:∀ (t j:Nat) (o:Oper),S j->ops[j]?=some o->o.dst=some t->s.get t=(st ops.size).get t
 rest:∀t,(∀ (j:Nat) (o:Oper),S j->ops[j]?=some o->o.dst≠some t)->s.get t=(st 0).get t
 objs:∀k,∃m,m<=ops.size/\s.obj k=(st m).obj k/\∀ (j:Nat) (o:Oper),ops[j]?=some o->rN X ops st j o k->(S j↔j < m)
 down:∀ (j:Nat) (o:Oper),S j->ops[j]?=some o->∀e∈o.after,Region.binds .any e=true->S e.on
 grd:∀ (t tc:Nat) (w:Bool) (v:AV),s.get t=some (.grd tc w v)->∃ (j:Nat) (o:Oper) (g:Nat),S j/\ops[j]?=some o/\o.dst=some t/\o.guard=some (g,w)/\(ops[g]?).bind (·.dst)=some tc
theorem Plan.bit (_:Plan X ops st) {S:Nat->Prop} (hS:∀ (j:Nat) (o:Oper),S j->ops[j]?=some o->∀e∈o.after,Region.binds .any e=true->S e.on) {i j:Nat} {o:Oper} (ho:ops[j]?=some o)
  (hr:∀e∈o.after,Region.binds .any e=true->S e.on) (h:((fA ops.toList []).getD j 0).testBit i=true):S i:=
 jT hS ops.toList [] (λj=>by simp) (λj o hj=>by simp at hj) j o ho hr i h
theorem Plan.next (p:Plan X ops st) (hX:cm X) (hG:X.G=B.G) (hN:∀o∈ops.toList,∀d,o.dst=some d->d < B.N) {S:Nat->Prop} (hI:Inv X ops st S s) (h:Rel B c s a) {i:Nat} {o:Oper} (ho:ops[i]?=some o) (hni:¬ S i)
  (hr:∀e∈o.after,Region.binds .any e=true->S e.on):∃s',Inv X ops st (λj=>j=i∨S j) s'/\tY X.P ops B c a i s':=by
 have hin:i < ops.size:=(Array.getElem?_eq_some_iff.1 ho).1
 have hbefore:∀j q,j < i->ops[j]?=some q->S j∨g8 (cS X (st j) ops j q) (cS X (st i) ops i o)=true:=λj q hj hq=>
  (p.pair j i q o hj hq ho).imp (λhb=>p.bit hI.down ho hr hb) id
 have hafter:∀j q,i < j->ops[j]?=some q->S j->g8 (cS X (st i) ops i o) (cS X (st j) ops j q)=true:=λj q hj hq hSj=>
  (p.pair i j o q hj ho hq).resolve_left λhb=>hni (p.bit hI.down hq (hI.down j q hSj hq) hb)
 have hdstF:∀ (k:Nat) (q:Oper) (st':St) (t:Nat),ops[k]?=some q->q.dst=some t->t∈(cS X st' ops k q).dst∨(∃j w,q.guard=some (j,w)/\(ops[j]?).bind (·.dst)=none):=by
  intro k q st' t hq ht
  cases hg:q.guard with
  | none=>left;simp [cS,hg,ht]
  | some jw=>
   obtain ⟨j,w⟩:=jw
   cases hj:(ops[j]?).bind (·.dst) with
   | none=>right;exact ⟨j,w,rfl,hj⟩
   | some t'=>left;simp [cS,hg,hj,ht]
 have hdst:∀ (k:Nat) (q:Oper) (t:Nat),ops[k]?=some q->q.dst=some t->t∈(cS X (st k) ops k q).dst:=by
  intro k q t hq ht
  rcases hdstF k q (st k) t hq ht with h1 | ⟨j,w,h1,h2⟩
  ·exact h1
  ·have hs:=p.T.step k q hq
   generalize st (k+1)=s' at hs
   cases hs with
   | plain v objs' hg _=>rw [hg] at h1;cases h1
   | guarded j' t' d w' v hg hj _ _ _=>rw [hg] at h1;cases h1;rw [hj] at h2;cases h2
 have hagree:ek s (st i) (cS X (st i) ops i o).tmps:=by
  intro t ht
  by_cases hex:∃ (j:Nat) (q:Oper),ops[j]?=some q/\q.dst=some t
  ·obtain ⟨j,q,hj,hq⟩:=hex
   have hjn:j < ops.size:=(Array.getElem?_eq_some_iff.1 hj).1
   have hone:∀k q',S k->ops[k]?=some q'->q'.dst=some t->S j:=λk q' hk hk' hq'=>by rw [p.uniq j k q q' t hj hk' hq hq'];exact hk
   rcases Nat.lt_trichotomy j i with hlt | rfl | hlt
   ·rcases hbefore j q hlt hj with hS | hap
    ·rw [hI.done t j q hS hj hq,p.DK hj hq hlt (by omega)]
    ·simp only [g8,Bool.and_eq_true] at hap
     exact (dp hap.1 (hdst j q t hj hq) ht).elim
   ·rw [hI.rest t λk q' hk hk' hq'=>hni (hone k q' hk hk' hq'),p.xi j t (by omega) λk q' hk hk' hq'=>by
     have:=p.uniq j k q q' t hj hk' hq hq';omega]
   ·by_cases hS:S j
    ·have hap:=hafter j q hlt hj hS
     simp only [g8,Bool.and_eq_true] at hap
     exact (dp hap.2.1 (hdst j q t hj hq) ht).elim
    ·rw [hI.rest t λk q' hk hk' hq'=>hS (hone k q' hk hk' hq'),p.xi i t (by omega) λk q' hk hk' hq'=>by
      have:=p.uniq j k q q' t hj hk' hq hq';omega]
  ·have hno:∀ (k:Nat) (q:Oper),ops[k]?=some q->q.dst≠some t:=λk q hk hq=>hex ⟨k,q,hk,hq⟩
   rw [hI.rest t λk q _ hk=>hno k q hk,p.xi i t (by omega) λk q _ hk=>hno k q hk]
 have htouch:∀k,k∈(cS X (st i) ops i o).rd∨k∈(cS X (st i) ops i o).wr∨(cS X (st i) ops i o).all=true->(cS X (st i) ops i o).jc=true:=by
  intro k hk
  simp only [Fp.jc,Bool.or_eq_true,Bool.not_eq_true']
  rcases hk with hk | hk | hk
  ·right;left;cases hr:(cS X (st i) ops i o).rd with
   | nil=>rw [hr] at hk;simp at hk
   | cons _ _=>rfl
  ·right;right;cases hr:(cS X (st i) ops i o).wr with
   | nil=>rw [hr] at hk;simp at hk
   | cons _ _=>rfl
  ·exact .inl hk
 have htouch':∀j q k,rN X ops st j q k->(cS X (st j) ops j q).jc=true:=by
  intro j q k hk
  simp only [Fp.jc,Bool.or_eq_true,Bool.not_eq_true']
  rcases hk with hk | hk
  ·right;right;cases hr:(cS X (st j) ops j q).wr with
   | nil=>rw [hr] at hk;simp at hk
   | cons _ _=>rfl
  ·exact .inl hk
 have hbw:∀k,k∈(cS X (st i) ops i o).rd∨k∈(cS X (st i) ops i o).wr∨(cS X (st i) ops i o).all=true->(∀j q,j < i->ops[j]?=some q->rN X ops st j q k->S j)/\∀j q,i < j->ops[j]?=some q->rN X ops st j q k->¬ S j:=by
  intro k hb
  refine ⟨λj q hj hq hw=>(hbefore j q hj hq).resolve_right λhap=>?_,λj q hj hq hw hS=>?_⟩
  ·simp only [g8,Bool.and_eq_true,Bool.not_eq_true',Bool.and_eq_false_iff] at hap
   obtain ⟨_,_,h3,h4,h5,h6,h7⟩:=hap
   rcases hb with hb | hb | hb
   ·rcases hw with hw | hw
    ·exact dp h6 hw hb
    ·rcases h3 with h3 | h3
     ·rw [hw] at h3;cases h3
     ·rw [htouch k (.inl hb)] at h3;cases h3
   ·rcases hw with hw | hw
    ·exact dp h5 hw hb
    ·rcases h3 with h3 | h3
     ·rw [hw] at h3;cases h3
     ·rw [htouch k (.inr (.inl hb))] at h3;cases h3
   ·rcases h4 with h4 | h4
    ·rw [hb] at h4;cases h4
    ·rw [htouch' j q k hw] at h4;cases h4
  ·have hap:=hafter j q hj hq hS
   simp only [g8,Bool.and_eq_true,Bool.not_eq_true',Bool.and_eq_false_iff] at hap
   obtain ⟨_,_,h3,h4,h5,h6,h7⟩:=hap
   rcases hb with hb | hb | hb
   ·rcases hw with hw | hw
    ·exact dp h7 hw hb
    ·rcases h4 with h4 | h4
     ·rw [hw] at h4;cases h4
     ·rw [htouch k (.inl hb)] at h4;cases h4
   ·rcases hw with hw | hw
    ·exact dp h5 hb hw
    ·rcases h4 with h4 | h4
     ·rw [hw] at h4;cases h4
     ·rw [htouch k (.inr (.inl hb))] at h4;cases h4
   ·rcases h3 with h3 | h3
    ·rw [hb] at h3;cases h3
    ·rw [htouch' j q k hw] at h3;cases h3
 have hob:∀k,k∈(cS X (st i) ops i o).rd∨k∈(cS X (st i) ops i o).wr∨(cS X (st i) ops i o).all=true->s.obj k=(st i).obj k:=by
  intro k hb
  obtain ⟨h1,h2⟩:=hbw k hb
  obtain ⟨m,hm,hobs,hwr⟩:=hI.objs k
  rw [hobs]
  rcases Nat.le_total m i with hle | hle
  ·have:=p.objs (i:=m) (q:=k) (i - m) (by omega) λj q hj1 hj2 hq hw=>by
    have:=(hwr j q hq hw).1 (h1 j q (by omega) hq hw);omega
   rw [show m+(i - m)=i by omega] at this;exact this.symm
  ·have:=p.objs (i:=i) (q:=k) (m - i) (by omega) λj q hj1 hj2 hq hw=>by
    have hS:=(hwr j q hq hw).2 (by omega)
    by_cases e:j=i
    ·subst e;exact hni hS
    ·exact h2 j q (by omega) hq hw hS
   rw [show i+(m - i)=m by omega] at this;exact this
 obtain ⟨s',hone,hget,hw1,hw0⟩:=(p.T.step i o ho).move (i:=i) hagree hob
 have hfree:∀d,o.dst=some d->d < B.N/\eC s d:=by
  intro d hd
  refine ⟨hN o (by simpa using Array.mem_of_getElem? ho) d hd,λt tc w v hg e=>?_⟩
  subst e
  obtain ⟨j,q,g,hS,hj,hq,hqg,hqt⟩:=hI.grd t tc w v hg
  have htm:tc∈(cS X (st j) ops j q).tmps:=by
   simp only [cS,hqg,hqt,List.mem_append]
   left;simp [bo]
  rcases Nat.lt_trichotomy j i with hlt | rfl | hlt
  ·exact p.T.later j q g tc w hj hqg hqt i o hlt ho hd
  ·exact hni hS
  ·have hap:=hafter j q hlt hj hS
   simp only [g8,Bool.and_eq_true] at hap
   exact dp hap.1 (hdst i o tc ho hd) htm
 have hkeep:∀t,o.dst≠some t->s'.get t=s.get t:=λt ht=>hone.other ht
 have hinv:(∀ (t tc:Nat) (w:Bool) (v:AV),o.dst=some t->s'.get t=some (.grd tc w v)->∃g,o.guard=some (g,w)/\(ops[g]?).bind (·.dst)=some tc)->Inv X ops st (λj=>j=i∨S j) s':=by
  intro hgr
  refine ⟨λt j q hj hq hd=>?_,λt hno=>?_,?_,λj q hj hq e he hb=>?_,λt tc w v hg=>?_⟩
  ·by_cases e:j=i
   ·subst e
    rw [ho] at hq;cases hq
    rw [hget t hd]
    exact p.DK ho hd (Nat.lt_succ_self j) (by omega)
   ·have hS:=hj.resolve_left e
    rw [hkeep t λhd'=>e (p.uniq j i q o t hq ho hd hd')]
    exact hI.done t j q hS hq hd
  ·rw [hkeep t (hno i o (.inl rfl) ho)]
   exact hI.rest t λj q hj=>hno j q (.inr hj)
  ·intro k
   by_cases hw:rN X ops st i o k
   ·obtain ⟨h1,h2⟩:=hbw k (.inr hw)
    refine ⟨i+1,by omega,hw1 k hw,λj q hq hwj=>?_⟩
    rcases Nat.lt_trichotomy j i with hlt | rfl | hlt
    ·exact ⟨λ_=>by omega,λ_=>.inr (h1 j q hlt hq hwj)⟩
    ·exact ⟨λ_=>by omega,λ_=>.inl rfl⟩
    ·exact ⟨λhj=>absurd (hj.resolve_left (by omega)) (h2 j q hlt hq hwj),λhj=>by omega⟩
   ·obtain ⟨m,hm,hobs,hwr⟩:=hI.objs k
    refine ⟨m,hm,by rw [hw0 k (by simpa using λe=>hw (.inr e)) (λe=>hw (.inl e)),hobs],λj q hq hwj=>?_⟩
    have e:j≠i:=by rintro rfl;rw [ho] at hq;cases hq;exact hw hwj
    exact ⟨λhj=>(hwr j q hq hwj).1 (hj.resolve_left e),λhj=>.inr ((hwr j q hq hwj).2 hj)⟩
  ·rcases hj with rfl | hj
   ·rw [ho] at hq;cases hq;exact .inr (hr e he hb)
   ·exact .inr (hI.down j q hj hq e he hb)
  ·by_cases e:o.dst=some t
   ·obtain ⟨g,h1,h2⟩:=hgr t tc w v e hg
    exact ⟨i,o,g,.inl rfl,ho,e,h1,h2⟩
   ·rw [hkeep t e] at hg
    obtain ⟨j,q,g,h1,h2⟩:=hI.grd t tc w v hg
    exact ⟨j,q,g,.inr h1,h2⟩
 cases hone with
 | plain v objs' hg he=>
  obtain ⟨hstep,hv⟩:=gN hX hG h hfree he
  refine ⟨_,hinv λt tc w u ht hu=>?_,hstep.istep ho hg⟩
  rw [eQ,if_pos ht] at hu;cases hu;simp [AV.bW] at hv
 | guarded j t d w v hg hj hd hdt he=>
  refine ⟨_,hinv λt' tc w' u ht' hu=>?_,mc hX hG h ho hg hj hd (hfree d hd).1 (hfree d hd).2 hdt he⟩
  rw [hd] at ht';cases ht'
  rw [St.c9,if_pos rfl] at hu
  simp only [Option.some.injEq,AV.grd.injEq] at hu
  obtain ⟨rfl,rfl,_⟩:=hu
  exact ⟨j,hg,hj⟩
end
end Go.Ab

namespace Go.Ab
open Go Go.RowKit
variable {B:Base} {c:Cx} {s:St} {a:Act} {X:Cfg} {ops:Array Oper} {st:Nat->St}
theorem Inv.end (p:Plan X ops st) {S:Nat->Prop} (hI:Inv X ops st S s) (hall:∀i,i < ops.size->S i) (h:Rel B c s a):Rel B c (st ops.size) a:=by
 have hget:∀t,(st ops.size).get t=s.get t:=by
  intro t
  by_cases hex:∃ (j:Nat) (q:Oper),ops[j]?=some q/\q.dst=some t
  ·obtain ⟨j,q,hj,hq⟩:=hex
   exact (hI.done t j q (hall j (Array.getElem?_eq_some_iff.1 hj).1) hj hq).symm
  ·have hno:∀ (k:Nat) (q:Oper),ops[k]?=some q->q.dst≠some t:=λk q hk hq=>hex ⟨k,q,hk,hq⟩
   rw [hI.rest t λk q _ hk=>hno k q hk,p.xi _ t (Nat.le_refl _) λk q _ hk=>hno k q hk]
 have hobj:∀k,(st ops.size).obj k=s.obj k:=by
  intro k
  obtain ⟨m,hm,hobs,hwr⟩:=hI.objs k
  rw [hobs]
  have:=p.objs (i:=m) (q:=k) (ops.size - m) (by omega) λj q hj1 hj2 hq hw=>by
   have:=(hwr j q hq hw).1 (hall j (Array.getElem?_eq_some_iff.1 hq).1);omega
  rw [show m+(ops.size - m)=ops.size by omega] at this;exact this
 have hlive:∀k,live s.objs k->live (st ops.size).objs k:=λk ⟨o,ho⟩=>⟨o,by have:=hobj k;simp only [St.obj] at this;rw [this];exact ho⟩
 refine h.less (λk hk=>hlive k (h.kept k hk)) (λt v hv=>by rw [<-hget t];exact hv) (λk o ho=>by rw [<-hobj k];exact ho)
  (λt v hv k hk=>hlive k (h.closed t v (by rw [<-hget t];exact hv) k hk)) (λk o ho q hq=>hlive q (h.objs.closed k o (by have:=hobj k;rw [ho] at this;exact this.symm) q hq))
theorem pr {listed:Array Bool} {i:Nat} (h:i < listed.size) (b b':Bool):listed.getD i b=listed.getD i b':=by
 simp [h]
theorem Plan.run (p:Plan X ops st) (hX:cm X) (hG:X.G=B.G) (hN:∀o∈ops.toList,∀d,o.dst=some d->d < B.N) {Q:Exit->Act->World->Prop} (hQ:∀c' a',Rel B c' (st ops.size) a'->Q .normal a' c'.w) :
  ∀ (fuel:Nat) (listed:Array Bool) (s:St) (c:Cx) (a:Act),listed.size=ops.size->(∃U:List Nat,U.length<=fuel/\∀i,i < ops.size->listed.getD i false=false->i∈U)->
   Inv X ops st (λi=>listed.getD i false=true) s->Rel B c s a->wpAny X.P .any ops Q fuel listed a c.w:=by
 have hdone:∀ (listed:Array Bool) (s:St) (c:Cx) (a:Act),listed.size=ops.size->Inv X ops st (λi=>listed.getD i false=true) s->Rel B c s a->Region.ready .any ops listed=[]->Q .normal a c.w:=by
  intro listed s c a hsz hI h hr
  have hall:∀i,i < ops.size->listed.getD i false=true:=by
   intro i
   induction i using Nat.strongRecOn with
   | _ i ih=>
    intro hi
    cases hl:listed.getD i false with
    | true=>rfl
    | false=>
     obtain ⟨o,ho⟩:=qx hi
     have:i∈Region.ready .any ops listed:=mem_ready.2 ⟨by rw [pr (by omega) true false];exact hl,o,ho,λe he hb=>ih e.on (p.edge i o ho e he hb) (by have:=p.edge i o ho e he hb;omega)⟩
     rw [hr] at this;simp at this
  exact hQ c a (hI.end p hall h)
 intro fuel
 induction fuel with
 | zero=>
  intro listed s c a hsz hU hI h
  have hr:Region.ready .any ops listed=[]:=by
   cases hr:Region.ready .any ops listed with
   | nil=>rfl
   | cons i r=>
    have hi:i∈Region.ready .any ops listed:=by rw [hr];simp
    obtain ⟨h0,o,ho,_⟩:=mem_ready.1 hi
    have hin:=(Array.getElem?_eq_some_iff.1 ho).1
    obtain ⟨U,h1,h2⟩:=hU
    have:=h2 i hin (by rw [pr (by omega) false true];exact h0)
    have hUn:U=[]:=List.length_eq_zero_iff.1 (by omega)
    rw [hUn] at this;simp at this
  exact ⟨hr,hdone listed s c a hsz hI h hr⟩
 | succ fuel ih=>
  intro listed s c a hsz hU hI h
  refine ⟨hdone listed s c a hsz hI h,λi hi=>?_⟩
  obtain ⟨h0,o,ho,hall⟩:=mem_ready.1 hi
  have hin:=(Array.getElem?_eq_some_iff.1 ho).1
  have h0':listed.getD i false=false:=by rw [pr (by omega) false true];exact h0
  obtain ⟨s',hI',hstep⟩:=p.next (B:=B) (c:=c) (a:=a) hX hG hN hI h ho (by simp [h0']) (λe he hb=>hall e he hb)
  refine hstep Q _ λa' c' hr=>?_
  have hset:∀j,(listed.setIfInBounds i true).getD j false=true↔(j=i∨listed.getD j false=true):=by
   intro j
   by_cases e:i=j
   ·subst e
    have:i < listed.size:=by omega
    simp [this]
   ·rw [getD_set_ne false e]
    exact ⟨.inr,λh=>h.resolve_left (λx=>e x.symm)⟩
  refine ih _ s' c' a' (by simpa using hsz) ?_ ?_ hr
  ·obtain ⟨U,h1,h2⟩:=hU
   have hiU:=h2 i hin h0'
   refine ⟨U.erase i,?_,λj hj hjn=>?_⟩
   ·rw [List.length_erase_of_mem hiU];omega
   ·have hne:j≠i:=by rintro rfl;rw [(hset j).2 (.inl rfl)] at hjn;cases hjn
    refine (List.mem_erase_of_ne hne).2 (h2 j hj ?_)
    cases hl:listed.getD j false with
    | false=>rfl
    | true=>rw [(hset j).2 (.inr hl)] at hjn;cases hjn
  ·have:(λj=>(listed.setIfInBounds i true).getD j false=true)=λj=>j=i∨listed.getD j false=true:=by funext j;exact propext (hset j)
   rw [this];exact hI'
theorem ly (hX:cm X) (hG:X.G=B.G) (hm:X.P.follows .mixedOrders=true) {id:Nat} {k:St->Res} {r:AV×List AO} {Q:Exit->Act->World->Prop} (he:gy X ops s k=some r) (h:Rel B c s a) (hn:bA s)
  (hN:∀o∈ops.toList,∀d,o.dst=some d->d < B.N) (hk:∀s' c' a',k s'=some r->Rel B c' s' a'->bA s'->Q .normal a' c'.w):(Code.region id ops true).wp X.P Q a c.w:=by
 apply wp_region_any hm
 unfold gy at he
 obtain ⟨hb,he⟩:=a7 he
 simp only [Bool.and_eq_true] at hb
 obtain ⟨st,h0,h1,h2,fps,h3,h4,h5⟩:=kK ops.toList 0 [] s (λj=>by simp) he
 obtain ⟨hfp,h3⟩:=a7 h3
 simp only [List.nil_append,Nat.zero_add] at hfp h3
 have hlen:ops.toList.length=ops.size:=by simp
 rw [hlen] at h3
 have p:Plan X ops st:=by
  refine ⟨⟨λi o ho=>h1 i o (Nat.zero_le _) ho,λi o j t w ho hg ht k q hk hq=>h2 i o j t w (Nat.zero_le _) ho hg ht k q hk hq⟩,by rw [h0];exact hn,λi j o q d hi hj ho hq=>(eH hb.1).2 i j o q d (by simpa using hi) (by simpa using hj) ho hq,
   λi o ho e he hbe=>by have:=jS hb.2 i o (by simpa using ho) e he hbe;omega,λi j o q hij hi hj=>?_⟩
  have:=l7 hfp i j _ _ hij (h5 i o (Nat.zero_le _) hi) (h5 j q (Nat.zero_le _) hj)
  have hfi:∀ (k:Nat) (x:Oper) (s:St),(cS X s ops k x).i=k:=by
   intro k x s
   simp only [cS]
   split
   ·rfl
   ·split <;> rfl
  rw [hfi,hfi] at this
  exact this
 have hrel:Rel B c.drew s a:=h.keep (Cx.eW c s.objs) (Cx.iQ h.good)
 refine p.run (B:=B) hX hG hN (λc' a' hr=>hk _ c' a' h3 hr.purge (bA.purge _)) ops.size _ s c.drew a (by simp) ⟨List.range ops.size,by simp,λi hi _=>by simpa using hi⟩ ?_ hrel
 have hf:∀i,(Array.replicate ops.size false).getD i false=true↔False:=by
  intro i;simp [Array.getD_eq_getD_getElem?,Array.getElem?_replicate];split <;> rfl
 refine ⟨λt j o hj=>((hf j).1 hj).elim,λt _=>by rw [h0],λk=>⟨0,Nat.zero_le _,by rw [h0],λj o _ _=>⟨λhj=>((hf j).1 hj).elim,λhj=>by omega⟩⟩,λj o hj=>((hf j).1 hj).elim,λt tc w v hg=>?_⟩
 have:=hn t _ hg
 simp [AV.bW] at this
end Go.Ab

namespace Go.Ab
open Go Go.RowKit
variable {P:Program} {B:Base} {c:Cx} {s:St} {a:Act}
theorem dT {env:List (Nat×AV)}:∀ {ks:List Nat} {t:Nat} {v:AV},alook (fV env ks) t=some v->alook env t=some v
 | [],t,v,h=>by simp [fV,alook] at h
 | k::r,t,v,h=>by
  simp only [fV] at h
  cases hk:alook env k with
  | none=>simp only [hk] at h;exact dT h
  | some u=>
   simp only [hk,alook] at h
   by_cases e:k=t
   ·subst e;simp at h;rw [hk,h]
   ·rw [jb e,cond_false] at h;exact dT h
theorem fk {objs:List (Nat×AO)} {k:Nat} {r:List Nat} {u:AO} (h:alook objs k=some u):bG objs (k::r)=(k,u)::bG objs r∨(bG objs (k::r)=bG objs r/\¬ aa<=k):=by
 simp only [bG,h]
 cases u with
 | gone=>
  cases hb:Nat.ble aa k with
  | true=>exact .inl rfl
  | false=>exact .inr ⟨rfl,λhle=>by rw [Nat.ble_eq_true_of_le hle] at hb;cases hb⟩
 | _=>exact .inl rfl
theorem iH {objs:List (Nat×AO)} {k:Nat} {r:List Nat} (h:alook objs k=none):bG objs (k::r)=bG objs r:=by
 simp only [bG,h]
theorem dy {objs:List (Nat×AO)}:∀ {ks:List Nat} {t:Nat} {v:AO},alook (bG objs ks) t=some v->alook objs t=some v
 | [],t,v,h=>by simp [bG,alook] at h
 | k::r,t,v,h=>by
  cases hk:alook objs k with
  | none=>rw [iH hk] at h;exact dy h
  | some u=>
   rcases fk (r:=r) hk with e0 | ⟨e0,_⟩
   ·rw [e0] at h
    simp only [alook] at h
    by_cases e:k=t
    ·subst e;simp at h;rw [hk,h]
    ·rw [jb e,cond_false] at h;exact dy h
   ·rw [e0] at h;exact dy h
theorem iD {objs:List (Nat×AO)} {k:Nat} (hl:live objs k) (hb:aa<=k):∀ {ks:List Nat},k∈ks->live (bG objs ks) k
 | [],h=>by simp at h
 | q::r,h=>by
  by_cases e:q=k
  ·subst e
   obtain ⟨o,ho⟩:=hl
   rcases fk (r:=r) ho with e0 | ⟨_,e1⟩
   ·rw [e0];exact ⟨o,by simp [alook]⟩
   ·exact absurd hb e1
  ·have hr:=iD hl hb (ks:=r) (by rcases List.mem_cons.1 h with rfl | h;exact absurd rfl e;exact h)
   cases hq:alook objs q with
   | none=>rw [iH hq];exact hr
   | some u=>
    rcases fk (r:=r) hq with e0 | ⟨e0,_⟩
    ·rw [e0];obtain ⟨o,ho⟩:=hr;exact ⟨o,by simp [alook,jb e,ho]⟩
    ·rw [e0];exact hr
theorem s7 {objs:List (Nat×AO)} {k:Nat} (hl:live objs k) (hb:aa<=k):k∈pX objs:=by
 induction objs with
 | nil=>obtain ⟨o,h⟩:=hl;simp [alook] at h
 | cons p r ih=>
  obtain ⟨q,o⟩:=p
  simp only [pX]
  by_cases e:q=k
  ·subst e;rw [Nat.ble_eq_true_of_le hb];simp
  ·obtain ⟨o',ho'⟩:=hl
   simp only [alook,jb e,cond_false] at ho'
   have:=ih ⟨o',ho'⟩
   cases Nat.ble aa q <;> simp [this]
theorem o7 {env:List (Nat×AV)} {t:Nat} {v:AV} (h:alook env t=some v):∀k∈v.keys,k∈mP env:=by
 induction env with
 | nil=>simp [alook] at h
 | cons p r ih=>
  obtain ⟨q,u⟩:=p
  intro k hk
  simp only [mP,List.mem_append]
  simp only [alook] at h
  by_cases e:q=t
  ·subst e;simp at h;subst h;exact .inl hk
  ·rw [jb e,cond_false] at h;exact .inr (ih h k hk)
theorem lB {objs:List (Nat×AO)} {t:Nat} {v:AO} (h:alook objs t=some v):∀k∈v.keys,k∈gP objs:=by
 induction objs with
 | nil=>simp [alook] at h
 | cons p r ih=>
  obtain ⟨q,u⟩:=p
  intro k hk
  simp only [gP,List.mem_append]
  simp only [alook] at h
  by_cases e:q=t
  ·subst e;simp at h;subst h;exact .inl hk
  ·rw [jb e,cond_false] at h;exact .inr (ih h k hk)
theorem Rel.reslot (h:Rel B c s a) {t:Nat} {v:AV} (hs:Sees B c s v (a.tmps.getD t undef)) (_:bA s):Rel B c (s.put (some t) v) a:=by
 refine ⟨h.good,h.frame,by rw [St.cN];exact h.objs,λq u hu=>?_,λq u hu k hk'=>?_,λk o b ho=>h.mine k o b (by simpa using ho),h.tmps,h.defers,by rw [St.cN];exact h.kept⟩
 ·rw [St.c9] at hu
  by_cases e:t=q
  ·subst e;simp at hu;subst hu;exact dc.lV hs.plain hs.rep
  ·rw [if_neg e] at hu;exact h.env q u hu
 ·rw [St.cN]
  rw [St.c9] at hu
  by_cases e:t=q
  ·subst e;simp at hu;subst hu;exact hs.live k hk'
  ·rw [if_neg e] at hu;exact h.closed q u hu k hk'
theorem bA.put {s:St} (h:bA s) {t:Nat} {v:AV} (hv:v.bW=false):bA (s.put (some t) v):=by
 intro q u hu
 rw [St.c9] at hu
 by_cases e:t=q
 ·subst e;simp at hu;subst hu;exact hv
 ·rw [if_neg e] at hu;exact h q u hu
theorem kP (key:Nat) (z:List AV) (sz n:Nat) (get:Nat->List AV):(j5 key z sz n get).bW=false/\(j5 key z sz n get).keys=[key]/\(j5 key z sz n get).one=true:=by
 unfold j5;cases Nat.beq n 0 <;> exact ⟨rfl,rfl,rfl⟩
theorem iA (h:Rel B c s a) {sz n:Nat} {get:Nat->List AV} {X:Value} (hx:Rep c (.sl .fit sz n get) X) {key:Nat} (hk:s.obj key=none) {z:List AV} (hz:0 < j4 z sz n) :
  ∃c',c'.β=c.β/\c'.w=c.w/\Rel B c' (s.setObj key (.own (j4 z sz n) n)) a/\Sees B c' (s.setObj key (.own (j4 z sz n) n)) (j5 key z sz n get) X:=by
 have hown:ar c .fit n X:=by cases hx <;> assumption
 by_cases hn:n=0
 ·subst hn
  exact gm (sz:=z.length) (get':=λ_=>z) h hz hx ⟨.inl ⟨rfl,hk⟩,hown⟩ (.inl rfl) (λj hj=>by omega)
 ·have e1:j4 z sz n=sz:=by simp [j4,jb hn]
  have e2:j5 key z sz n get=.sl (.key key) sz n get:=by simp [j5,jb hn]
  rw [e1,e2]
  rw [e1] at hz
  exact gm (sz:=sz) (get':=get) h hz hx ⟨.inl ⟨rfl,hk⟩,hown⟩ (.inr rfl) (λj hj=>rfl)
theorem dK:∀ {l:List (Nat×Nat×TypeId)} {s s':St} {c:Cx},Rel B c s a->bA s->dW P s l=some s'->∃c',c'.w=c.w/\Rel B c' s' a/\bA s'
 | [],s,s',c,h,hn,he=>by simp [dW] at he;subst he;exact ⟨c,rfl,h,hn⟩
 | (t,key,e)::r,s,s',c,h,hn,he=>by
  simp only [dW] at he
  split at he
  ·rename_i sz n get hg
   split at he
   ·rename_i z hk hz
    obtain ⟨hb,he⟩:=aj he
    have hE:Rep c (.sl .fit sz n get) (a.tmps.getD t undef):=h.env t _ hg
    obtain ⟨c1,e0,e1,e2,e3⟩:=iA h hE hk (ltB hb)
    have hn1:bA (s.setObj key (.own (j4 z sz n) n)):=hn
    obtain ⟨c2,f1,f2,f3⟩:=dK (e2.reslot e3 hn1) (hn1.put (kP _ _ _ _ _).1) he
    exact ⟨c2,f1.trans e1,f2,f3⟩
   ·simp at he
  ·exact dK h hn he
theorem tj {cs:List AV} {i:Nat} {v:AV}:∀k∈ah (cs.set i v),k∈v.keys∨k∈ah cs:=by
 induction cs generalizing i with
 | nil=>intro k hk;simp [ah] at hk
 | cons u r ih=>
  intro k hk
  cases i with
  | zero=>
   simp only [List.set_cons_zero,ah,List.mem_append] at hk
   simp only [ah,List.mem_append]
   rcases hk with hk | hk
   ·exact .inl hk
   ·exact .inr (.inr hk)
  | succ i=>
   simp only [List.set_cons_succ,ah,List.mem_append] at hk
   simp only [ah,List.mem_append]
   rcases hk with hk | hk
   ·exact .inr (.inl hk)
   ·rcases ih k hk with h | h
    ·exact .inl h
    ·exact .inr (.inr h)
theorem cn:∀ {l:List (Nat×Nat×Nat×TypeId)} {s s':St} {c:Cx},Rel B c s a->bA s->cv P s l=some s'->∃c',c'.w=c.w/\Rel B c' s' a/\bA s'
 | [],s,s',c,h,hn,he=>by simp [cv] at he;subst he;exact ⟨c,rfl,h,hn⟩
 | (ob,off,key,e)::r,s,s',c,h,hn,he=>by
  simp only [cv] at he
  split at he
  ·rename_i cs hob
   split at he
   ·rename_i sz n get hg
    split at he
    ·rename_i z hk hz
     obtain ⟨hb,he⟩:=aj he
     have hne:key≠ob:=by rintro rfl;rw [hk] at hob;cases hob
     obtain ⟨⟨⟨vs,t,hh,hs,hv⟩,h1⟩,hI,hfr⟩:=h.objs.rep ob _ hob
     obtain ⟨c1,e0,e1,e2,e3⟩:=iA h (hv off _ hg) hk (ltB hb)
     have hob1:alook (aput s.objs key (.own (j4 z sz n) n)) ob=some (.cells cs):=by rw [aD,if_neg hne];exact hob
     obtain ⟨⟨⟨vs1,t1,hh1,hs1,hv1⟩,h11⟩,hI1,hfr1⟩:=e2.objs.rep ob _ hob1
     rw [e0,e1,hh] at hh1
     simp only [Option.some.injEq,Obj.cells.injEq] at hh1
     obtain ⟨rfl,rfl,_⟩:=hh1
     let s1:St:=s.setObj key (.own (j4 z sz n) n)
     have hoff:off < cs.length:=(List.getElem?_eq_some_iff.1 hg).1
     have hget:∀ (i:Nat) (u:AV),(cs.set off (j5 key z sz n get))[i]?=some u->(i=off/\u=j5 key z sz n get)∨cs[i]?=some u:=by
      intro i u hu
      rw [List.getElem?_set] at hu
      by_cases e:off=i
      ·subst e;simp [hoff] at hu;exact .inl ⟨rfl,hu.symm⟩
      ·rw [if_neg e] at hu;exact .inr hu
     have hrel:Rel B c1 (s1.setObj ob (.cells (cs.set off (j5 key z sz n get)))) a:=by
      refine e2.obj (k:=ob) ((Keeps.refl c1 s1.objs).but ob) (Grow.refl e2.good) ⟨⟨⟨vs,t,by rw [e0,e1];exact hh,by rw [hs,List.length_set],λi u hu=>?_⟩,λi u hu=>?_⟩,hI1,hfr1⟩
       (λq o' b hq hne' hb' e=>e2.objs.apart q o' ob _ b hq hob1 hne' hb' e) (λq hq=>?_) (λb hb'=>e2.mine ob _ b hob1 hb')
      ·rcases hget i u hu with ⟨rfl,rfl⟩ | hu
       ·exact e3.rep
       ·exact hv1 i u hu
      ·rcases hget i u hu with ⟨rfl,rfl⟩ | hu
       ·exact (kP _ _ _ _ _).2.2
       ·exact h1 i u hu
      ·simp only [AO.keys] at hq
       rcases tj q hq with hq | hq
       ·exact .inr (e3.live q hq)
       ·exact .inr (e2.objs.closed ob _ hob1 q (by simpa [AO.keys] using hq))
     obtain ⟨c2,f1,f2,f3⟩:=cn hrel hn he
     exact ⟨c2,f1.trans e1,f2,f3⟩
    ·simp at he
   ·exact cn h hn he
  ·exact cn h hn he
theorem gk (h:Rel B c s a) (hn:bA s) (hK:∀k,B.K k->aa<=k) {hint:Hint} {s':St} (he:jU P hint s=some s'):∃c',c'.w=c.w/\Rel B c' s' a/\bA s':=by
 unfold jU at he
 dsimp only at he
 obtain ⟨hb,he⟩:=a7 he
 simp only [Bool.and_eq_true] at hb
 obtain ⟨s2,h1,he⟩:=ae he
 have hr:Rel B c {env:=fV s.env hint.keep,objs:=bG s.objs (hint.objs++pX s.objs)} a:=by
  refine h.less (λk hk=>iD (h.kept k hk) (hK k hk) (List.mem_append_right _ (s7 (h.kept k hk) (hK k hk)))) (λt v hv=>dT hv) (λk o ho=>dy ho)
   (λt v hv k hk=>iR (bB hb.1 k (o7 hv k hk))) (λk o ho q hq=>iR (bB hb.2 q (lB ho q hq)))
 have hn1:bA {env:=fV s.env hint.keep,objs:=bG s.objs (hint.objs++pX s.objs)}:=λt v hv=>hn t v (dT hv)
 obtain ⟨c1,e1,e2,e3⟩:=dK hr hn1 h1
 obtain ⟨c2,f1,f2,f3⟩:=cn e2 e3 he
 exact ⟨c2,f1.trans e1,f2,f3⟩
end Go.Ab

namespace Go.Ab
open Go Go.RowKit
variable {B:Base} {c:Cx} {s:St} {a:Act} {X:Cfg}
def Ex.to:Ex->Exit
 | .nor=>.normal
 | .exit id=>.exit id
 | .ret=>.ret
def iY (P:Program) (c:Code) (Q:Exit->Act->World->Prop) (a:Act) (w:World):Prop:=
 ∀ (b:Go.Frame) (k:List Item) (cs:List Go.Frame),∃e a' w',Q e a' w'/\Arrives P (lone (b.at a (.code c::.inLoop c::k)) cs w) b k cs e a' w'
theorem iY.unroll {P:Program} {c:Code} {Q:Exit->Act->World->Prop} {a:Act} {w:World} (h:c.wp P (Exit.then (iY P c Q) Q) a w):iY P c Q a w:=by
 intro b k cs
 obtain ⟨e,a₁,w₁,hq,harr⟩:=h b (.inLoop c::k) cs
 cases e with
 | normal=>
  obtain ⟨e₂,a₂,w₂,hq₂,harr₂⟩:=hq b k cs
  exact ⟨e₂,a₂,w₂,hq₂,.of_steps (Steps.trans harr (.one step_inLoop)) harr₂⟩
 | exit id=>exact ⟨_,a₁,w₁,hq,.pass (x:=.inLoop c) rfl (λ_ _=>.inl (by simp)) harr⟩
 | goto l=>exact ⟨_,a₁,w₁,hq,.pass (x:=.inLoop c) rfl (λ_ _=>.inl (by simp)) harr⟩
 | ret=>exact ⟨_,a₁,w₁,hq,.pass (x:=.inLoop c) rfl (λ_ _=>.inl (by simp)) harr⟩
 | panic ch=>exact ⟨_,a₁,w₁,hq,.pass (x:=.inLoop c) rfl (λ_ _=>.inl (by simp)) harr⟩
 | outgrown=>exact ⟨_,a₁,w₁,hq,.pass (x:=.inLoop c) rfl (λ_ _=>.inl (by simp)) harr⟩
theorem iY.wp {P:Program} {c:Code} {Q:Exit->Act->World->Prop} {a:Act} {w:World} (h:iY P c Q a w):(Code.loop c).wp P Q a w:=λb k cs=>
 let ⟨e,a',w',q,r⟩:=h b k cs;⟨e,a',w',q,.of_steps (.one step_loop) r⟩
def Sound (X:Cfg) (B:Base) (code:Code) (run:St->(Ex->St->Res)->Res):Prop:=
 ∀ (s:St) (c:Cx) (a:Act) (k:Ex->St->Res) (r:AV×List AO) (Q:Exit->Act->World->Prop),run s k=some r->Rel B c s a->bA s->
  (∀ex s' c' a',k ex s'=some r->Rel B c' s' a'->bA s'->Q ex.to a' c'.w)->code.wp X.P Q a c.w
theorem hZ {body:Code} {run:St->(Ex->St->Res)->Res} (hb:Sound X B body run) (hK:∀k,B.K k->aa<=k) {h:Hint}:∀ (n:Nat) (s:St) (c:Cx) (a:Act) (k:Ex->St->Res) (r:AV×List AO) (Q:Exit->Act->World->Prop),
  lC X.P run h n s k=some r->Rel B c s a->bA s->(∀ex s' c' a',k ex s'=some r->Rel B c' s' a'->bA s'->Q ex.to a' c'.w)->iY X.P body Q a c.w
 | 0,s,c,a,k,r,Q,he,_,_,_=>by simp [lC] at he
 | n+1,s,c,a,k,r,Q,he,hr,hn,hk=>by
  simp only [lC] at he
  obtain ⟨s1,h1,he⟩:=ae he
  obtain ⟨c1,e1,e2,e3⟩:=gk hr hn hK h1
  apply iY.unroll
  rw [<-e1]
  refine hb s1 c1 a _ r _ he e2 e3 λex s' c' a' hex hr' hn'=>?_
  cases ex with
  | nor=>exact hZ hb hK n s' c' a' k r Q hex hr' hn' hk
  | exit id=>exact hk _ s' c' a' hex hr' hn'
  | ret=>exact hk _ s' c' a' hex hr' hn'
theorem aU:∀ (c:Code) (p:List Nat) (i:Nat),cY c (p++[i])=cY (cY c p) [i]
 | c,[],i=>by simp [cY]
 | .seq a b,0::r,i=>by simp only [List.cons_append,cY];exact aU a r i
 | .seq a b,(j+1)::r,i=>by simp only [List.cons_append,cY];exact aU b r i
 | .cond q a b,0::r,i=>by simp only [List.cons_append,cY];exact aU a r i
 | .cond q a b,(j+1)::r,i=>by simp only [List.cons_append,cY];exact aU b r i
 | .block id b,j::r,i=>by simp only [List.cons_append,cY];exact aU b r i
 | .loop b,j::r,i=>by simp only [List.cons_append,cY];exact aU b r i
 | .scope b,j::r,i=>by simp only [List.cons_append,cY];exact aU b r i
 | .skip,_::_,i | .region ..,_::_,i | .exit _,_::_,i | .ret,_::_,i | .goto _,_::_,i | .label _,_::_,i | .rangeFunc ..,_::_,i | .refuse _,_::_,i=>by simp [cY]
theorem g9 {P:Program} (h:Rel B c s a) (hn:bA s) (hK:∀k,B.K k->aa<=k) {hint:Option Hint} {s':St} (he:se P hint s=some s'):∃c',c'.w=c.w/\Rel B c' s' a/\bA s':=by
 cases hint with
 | none=>
  simp only [se,Option.some.injEq] at he
  subst he
  exact ⟨c,rfl,h,hn⟩
 | some _=>exact gk h hn hK he
def pd (X:Cfg) (f:FuncId) (n m:Nat) (c:Code) (p:List Nat) (s:St) (k:Ex->St->Res):Res:=
 match c with
 | .loop b=>fa X f n b (p++[0]) s λe s'=>match e with
  | .nor=>lC X.P (fa X f n b (p++[0])) (X.hint f (jd b)) m s' k
  | e=>k e s'
 | _=>none
structure OracOk (X:Cfg) (f:FuncId):Prop where
 cut:∀p g,X.cutO f p=some g->∀s k r,g s k=some r->∃n,fa X f n (cY (bt X.P f) p) p s k=some r
 view:∀p g,X.viewO f p=some g->∀s k r,g s k=some r->∃s',k s'=some r/\∀ (B:Base) (c:Cx) (a:Act),Rel B c s a->bA s->∃c',c'.w=c.w/\Rel B c' s' a/\bA s'
 loop:∀p g,X.loopO f p=some g->∀s k r,g s k=some r->∃n m,pd X f n m (cY (bt X.P f) p) p s k=some r
theorem bS (hX:cm X) (hG:X.G=B.G) (hm:X.P.follows .mixedOrders=true) (hK:∀k,B.K k->aa<=k) (f:FuncId) (hO:OracOk X f):∀ (code:Code) (p:List Nat),cY (bt X.P f) p=code->codeOk B.N code=true->∀n,Sound X B code (fa X f n code p)
 | .skip,_,_,_,n=>λs c a k r Q he hr hn hk=>wp_skip (hk .nor s c a he hr hn)
 | .region id ops draw,p,_,hN,n=>λs c a k r Q he hr hn hk=>by
  have hN':∀o∈ops.toList,∀d,o.dst=some d->d < B.N:=by
   intro o ho d hd
   simp only [codeOk] at hN
   have:=List.all_eq_true.1 hN o ho
   simp only [hd] at this
   exact ltB this
  simp only [fa] at he
  cases draw with
  | true=>exact ly hX hG hm he hr hn hN' λs' c' a' e1 e2 e3=>hk .nor s' c' a' e1 e2 e3
  | false=>exact kI hX hG he hr hn hN' λs' c' a' e1 e2 e3=>hk .nor s' c' a' e1 e2 e3
 | .seq x y,p,hp,hN,n=>λs c a k r Q he hr hn hk=>by
  simp only [codeOk,Bool.and_eq_true] at hN
  simp only [fa] at he
  have hp1:cY (bt X.P f) (p++[0])=x:=by rw [aU,hp];simp [cY]
  have hp2:cY (bt X.P f) (p++[1])=y:=by rw [aU,hp];simp [cY]
  apply wp_seq
  refine bS hX hG hm hK f hO x _ hp1 hN.1 n s c a _ r _ he hr hn λex s' c' a' hex hr' hn'=>?_
  cases ex with
  | nor=>
   obtain ⟨s1,h1,hex⟩:=ae hex
   obtain ⟨c0,e01,e02,e03⟩:=g9 hr' hn' hK h1
   have hv:∃s2 c2,(match X.cutO f (p++[1]) with | none=>fa X f n y (p++[1]) s2 k | some g=>g s2 k)=some r/\c2.w=c0.w/\Rel B c2 s2 a'/\bA s2:=by
    cases hv:X.viewO f (p++[1]) with
    | none=>simp only [uf,hv] at hex;exact ⟨s1,c0,hex,rfl,e02,e03⟩
    | some g=>
     simp only [uf,hv] at hex
     obtain ⟨s2,g1,g2⟩:=hO.view _ g hv _ _ _ hex
     obtain ⟨c2,g3,g4,g5⟩:=g2 B c0 a' e02 e03
     exact ⟨s2,c2,g1,g3,g4,g5⟩
   clear hex
   obtain ⟨s1,c1,hex,e1,e2,e3⟩:=hv
   rw [<-e01,<-e1]
   cases hc:X.cutO f (p++[1]) with
   | none=>
    simp only [hc] at hex
    exact bS hX hG hm hK f hO y _ hp2 hN.2 n s1 c1 a' k r Q hex e2 e3 hk
   | some g=>
    simp only [hc] at hex
    obtain ⟨n',hn'⟩:=hO.cut _ g hc s1 k r hex
    rw [hp2] at hn'
    exact bS hX hG hm hK f hO y _ hp2 hN.2 n' s1 c1 a' k r Q hn' e2 e3 hk
  | exit id=>exact hk _ s' c' a' hex hr' hn'
  | ret=>exact hk _ s' c' a' hex hr' hn'
 | .cond q x y,p,hp,hN,n=>λs c a k r Q he hr hn hk=>by
  simp only [codeOk,Bool.and_eq_true] at hN
  simp only [fa] at he
  have hp1:cY (bt X.P f) (p++[0])=x:=by rw [aU,hp];simp [cY]
  have hp2:cY (bt X.P f) (p++[1])=y:=by rw [aU,hp];simp [cY]
  split at he
  ·rename_i t ht
   rw [hG] at ht
   have hs:=(ai hr (ch:=[]) (λt w hm=>by simp at hm) ht).rep
   have hq:a.eval q=.bool t:=by generalize a.eval q=V at hs;cases hs;rfl
   cases t with
   | true=>exact wp_cond hq (bS hX hG hm hK f hO x _ hp1 hN.1 n s c a k r Q he hr hn hk)
   | false=>exact wp_cond hq (bS hX hG hm hK f hO y _ hp2 hN.2 n s c a k r Q he hr hn hk)
  ·simp at he
 | .block id b,p,hp,hN,n=>λs c a k r Q he hr hn hk=>by
  simp only [codeOk] at hN
  simp only [fa] at he
  have hp1:cY (bt X.P f) (p++[0])=b:=by rw [aU,hp];simp [cY]
  apply wp_block
  refine bS hX hG hm hK f hO b _ hp1 hN n s c a _ r _ he hr hn λex s' c' a' hex hr' hn'=>?_
  cases ex with
  | nor=>exact hk _ s' c' a' hex hr' hn'
  | exit id'=>
   simp only [Ex.to,Exit.inBlock]
   by_cases e:id'=id
   ·subst e
    simp only [Nat.beq_refl,cond_true] at hex
    rw [if_pos rfl];exact hk .nor s' c' a' hex hr' hn'
   ·simp only [jb e,cond_false] at hex
    rw [if_neg e];exact hk (.exit id') s' c' a' hex hr' hn'
  | ret=>exact hk _ s' c' a' hex hr' hn'
 | .loop b,p,hp,hN,n=>λs c a k r Q he hr hn hk=>by
  simp only [codeOk] at hN
  simp only [fa] at he
  have hp1:cY (bt X.P f) (p++[0])=b:=by rw [aU,hp];simp [cY]
  have hb:=bS hX hG hm hK f hO b _ hp1 hN
  cases hc:X.loopO f p with
  | none=>
   simp only [hc] at he
   exact (hZ (hb n) hK n s c a k r Q he hr hn hk).wp
  | some g=>
   simp only [hc] at he
   obtain ⟨s1,h1,he⟩:=ae he
   obtain ⟨n',m,he⟩:=hO.loop _ g hc s1 k r he
   rw [hp] at he
   simp only [pd] at he
   obtain ⟨c1,e1,e2,e3⟩:=gk hr hn hK h1
   refine iY.wp (iY.unroll ?_)
   rw [<-e1]
   refine hb n' s1 c1 a _ r _ he e2 e3 λex s' c' a' hex hr' hn'=>?_
   cases ex with
   | nor=>exact hZ (hb n') hK m s' c' a' k r Q hex hr' hn' hk
   | exit id=>exact hk _ s' c' a' hex hr' hn'
   | ret=>exact hk _ s' c' a' hex hr' hn'
 | .exit id,_,_,_,n=>λs c a k r Q he hr hn hk=>by
  simp only [fa] at he
  obtain ⟨s1,h1,he⟩:=ae he
  obtain ⟨c1,e1,e2,e3⟩:=g9 hr hn hK h1
  rw [<-e1]
  exact wp_exit (hk (.exit id) s1 c1 a he e2 e3)
 | .ret,_,_,_,n=>λs c a k r Q he hr hn hk=>by
  simp only [fa] at he
  obtain ⟨s1,h1,he⟩:=ae he
  obtain ⟨c1,e1,e2,e3⟩:=g9 hr hn hK h1
  rw [<-e1]
  exact wp_ret (hk .ret s1 c1 a he e2 e3)
 | .goto _,_,_,_,n=>λs c a k r Q he hr hn hk=>by simp [fa] at he
 | .label _,_,_,_,n=>λs c a k r Q he hr hn hk=>by
  simp only [fa] at he
  exact wp_label (hk .nor s c a he hr hn)
 | .scope b,p,hp,hN,n=>λs c a k r Q he hr hn hk=>by
  simp only [codeOk] at hN
  simp only [fa] at he
  have hp1:cY (bt X.P f) (p++[0])=b:=by rw [aU,hp];simp [cY]
  refine wp_scope_straight (bS hX hG hm hK f hO b _ hp1 hN n s c a k r _ he hr hn λex s' c' a' hex hr' hn'=>?_)
  cases ex with
  | nor=>exact hk .nor s' c' a' hex hr' hn'
  | exit id=>exact hk (.exit id) s' c' a' hex hr' hn'
  | ret=>exact hk .ret s' c' a' hex hr' hn'
 | .rangeFunc ..,_,_,_,n=>λs c a k r Q he hr hn hk=>by simp [fa] at he
 | .refuse _,_,_,_,n=>λs c a k r Q he hr hn hk=>by simp [fa] at he
end Go.Ab

namespace Go.Ab
open Go Go.RowKit
theorem dz:∀ (l:List AV) (b k:Nat),alook (cq l b) k=if b<=k then l[k - b]? else none
 | [],b,k=>by simp [cq,alook]
 | o::r,b,k=>by
  simp only [cq,alook]
  by_cases h:b=k
  ·subst h;simp
  ·rw [jb h,cond_false,dz r (b+1) k]
   by_cases h1:b+1<=k
   ·rw [if_pos h1,if_pos (by omega)]
    have:k - b=(k - (b+1))+1:=by omega
    rw [this];simp
   ·rw [if_neg h1,if_neg (by omega)]
theorem dX {os:List AO} {b k:Nat} (h:live (ab os b) k):b<=k/\k - b < os.length:=by
 obtain ⟨o,ho⟩:=h
 rw [ba] at ho
 by_cases hb:b<=k
 ·rw [if_pos hb] at ho;exact ⟨hb,(List.getElem?_eq_some_iff.1 ho).1⟩
 ·rw [if_neg hb] at ho;cases ho
def wv (tmps:Array Value):ResultVar->Sem Value
 | .tmp t=>pure (tmps.getD t undef)
 | .cell q t=>do loadVar t (<-asAddr (tmps.getD q undef))
theorem jh (fn:Func) (tmps:Array Value):results fn tmps=(fn.results.mapM (wv tmps) >>= λvs=>pure (if h:vs.size=1 then vs[0] else .tuple vs)):=by
 unfold results
 congr 1
theorem dR {B:Base} {c:Cx} {s:St} {a:Act} (X:Cfg) (h:Rel B c s a) (hn:bA s):∀ {l:List ResultVar} {vs:List AV},hD X s l=some vs->
  ∃xs:List Value,cf B c s vs xs/\(l.mapM (m:=Sem) (wv a.tmps)).run X.P c.w=.ok xs c.w
 | [],vs,he=>by simp [hD] at he;subst he;exact ⟨[],⟨rfl,λi u hu=>by simp at hu⟩,rfl⟩
 | r::l,vs,he=>by
  simp only [hD] at he
  obtain ⟨v,h1,he⟩:=ae he
  obtain ⟨us,h2,he⟩:=aL he
  subst he
  obtain ⟨xs,h3,h4⟩:=dR X h hn h2
  cases r with
  | cell q t=>
   simp only [oO] at h1
   split at h1
   ·rename_i k off hq
    obtain ⟨⟨b,u0⟩,hl,h1⟩:=ae h1
    obtain ⟨hb,h1'⟩:=aj h1
    dsimp only at hb h1'
    simp only [Option.some.injEq] at h1'
    subst hb h1'
    have hE:Rep c (.ref k off) (a.tmps.getD q undef):=h.env q _ hq
    obtain ⟨x,g1,g2⟩:=kR h hE hl
    generalize hV:a.tmps.getD q undef=V at hE g1
    cases hE
    rw [dj] at g1
    refine ⟨x::xs,⟨by simp [h3.1],λi u hu=>?_⟩,?_⟩
    ·cases i with
     | zero=>simp at hu;subst hu;exact g2
     | succ i=>simpa using h3.2 i u (by simpa using hu)
    ·rw [List.mapM_cons]
     simp only [wv,hV,asAddr,pure_bind,Sem.run_bind,g1,h4,Result.andThen_ok,Sem.run_pure]
   ·cases h1
  | tmp t=>
   simp only [oO] at h1
   have hE:=h.env t v h1
   have hg:=hn t v h1
   have hr:Rep c v (a.tmps.getD t undef):=by cases v <;> first | exact hE | simp [AV.bW] at hg
   refine ⟨a.tmps.getD t undef::xs,⟨by simp [h3.1],λi u hu=>?_⟩,?_⟩
   ·cases i with
    | zero=>simp at hu;subst hu;exact ⟨hr,h.closed t v h1,hg⟩
    | succ i=>simpa using h3.2 i u (by simpa using hu)
   ·rw [List.mapM_cons]
    simp only [wv,pure_bind,Sem.run_bind,h4,Result.andThen_ok,Sem.run_pure]
theorem bO {N M:Nat} (h:N<=M):∀ {c:Code},codeOk N c=true->codeOk M c=true
 | .region _ ops _,hc=>by
  simp only [codeOk] at hc ⊢
  rw [List.all_eq_true] at hc ⊢
  intro o ho
  have:=hc o ho
  cases hd:o.dst with
  | none=>rfl
  | some d=>simp only [hd] at this ⊢;exact AL (Nat.lt_of_lt_of_le (ltB this) h)
 | .seq a b,hc=>by simp only [codeOk,Bool.and_eq_true] at hc ⊢;exact ⟨bO h hc.1,bO h hc.2⟩
 | .cond _ a b,hc=>by simp only [codeOk,Bool.and_eq_true] at hc ⊢;exact ⟨bO h hc.1,bO h hc.2⟩
 | .block _ b,hc=>by simp only [codeOk] at hc ⊢;exact bO h hc
 | .loop b,hc=>by simp only [codeOk] at hc ⊢;exact bO h hc
 | .scope b,hc=>by simp only [codeOk] at hc ⊢;exact bO h hc
 | .skip,_ | .exit _,_ | .ret,_ | .goto _,_ | .label _,_ | .rangeFunc ..,_ | .refuse _,_=>by simp [codeOk]
theorem lQ {X:Cfg} (hX:cm X) (hm:X.P.follows .mixedOrders=true) {f:FuncId} (hO:OracOk X f) {fn:Func} (hf:X.P.funcs[f]?=some fn) (hok:∀c,fn.body=some c->codeOk fn.ntmps c=true) {n:Nat} {args:List AV} {os:List AO}
  {r:AV} {os':List AO} (he:sI X n f args os=some (r,os')):jZ X.P X.G f args os r os':=by
 unfold sI at he
 rw [hf] at he
 dsimp only at he
 cases hbody:fn.body with
 | none=>simp [hbody] at he
 | some code=>
  simp only [hbody] at he
  have hcode:=hok code hbody
  intro c0 vs hgood hobjs hsz hrep hkeys
  let a0:Act:={tmps:=vs++Array.replicate (fn.ntmps - vs.size) undef,defers:=[]}
  let B:Base:={c0:=c0,D:=held c0 (ab os aa),K:=live (ab os aa),G:=X.G,N:=a0.tmps.size}
  let s0:St:={env:=cq args 0,objs:=ab os aa}
  have hN:fn.ntmps<=B.N:=by simp [B,a0];omega
  have hcode':codeOk B.N code=true:=bO hN hcode
  have hget:∀t v,s0.get t=some v->args[t]?=some v:=λt v hv=>by
   have:alook (cq args 0) t=some v:=hv
   rw [dz,if_pos (Nat.zero_le _)] at this;simpa using this
  have hval:∀t v,args[t]?=some v->Rep c0 v (a0.tmps.getD t undef):=λt v hv=>by
   have hlt:t < vs.size:=by rw [hsz];exact (List.getElem?_eq_some_iff.1 hv).1
   have e:a0.tmps.getD t undef=vs.getD t undef:=by
    simp only [a0,Array.getD_eq_getD_getElem?]
    rw [Array.getElem?_append_left hlt]
   rw [e];exact hrep t v hv
  have hplain:∀t v,s0.get t=some v->v.bW=false:=λt v hv=>by
   have:=hval t v (hget t v hv)
   generalize a0.tmps.getD t undef=V at this
   cases this <;> rfl
  have h0:Rel B c0 s0 a0:=by
   refine ⟨hgood,⟨rfl,rfl,rfl,Nat.le_refl _,λ_ _ _=>rfl,Ext.refl _ _,λ_ _ _ _ hi=>hi⟩,hobjs,λt v hv=>dc.lV (hplain t v hv) (hval t v (hget t v hv)),
    λt v hv k hk=>hkeys k (ay (hget t v hv) k hk),λk o b ho hb=>.inr ⟨k,o,ho,hb⟩,rfl,rfl,λk hk=>hk⟩
  refine calls_of_wp hf hbody ?_
  refine bS (B:=B) hX rfl hm (λk hk=>(dX hk).1) f hO code [] (by simp [bt,cY,hf,hbody]) hcode' n s0 c0 a0 _ (r,os') _ he h0 hplain λex s' c' a' hex hr' hn'=>?_
  have hfin:finish X fn os.length s'=some (r,os')->a'.defers=[]/\∃v,(results fn a'.tmps).run X.P c'.w=.ok v c'.w/\∃c2 x,Ending.returned v=.returned x/\c2.w=c'.w/\Good X.G c2 /\
   Frame {c0:=c0,D:=held c0 (ab os aa),K:=live (ab os aa),G:=X.G,N:=0} c2 /\
   Objs c2 (ab os' aa)/\Rep c2 r x/\(∀k∈r.keys,live (ab os' aa) k) /\
   ∀k o b,alook (ab os' aa) k=some o->excl c2 k o=some b->c0.w.heap.size<=b∨held c0 (ab os aa) b:=by
   intro hfin
   refine ⟨hr'.defers,?_⟩
   unfold finish at hfin
   simp only [ey] at hfin
   obtain ⟨rs,h1,hfin⟩:=ae hfin
   obtain ⟨⟨rs',o1⟩,h2,hfin⟩:=ae hfin
   dsimp only at hfin
   obtain ⟨os1,h3,hfin⟩:=ae hfin
   obtain ⟨hb,hfin⟩:=a7 hfin
   simp only [Option.some.injEq,Prod.mk.injEq] at hfin
   obtain ⟨hres,rfl⟩:=hfin
   simp only [Bool.and_eq_true] at hb
   obtain ⟨xs,hs,hrun⟩:=dR X hr' hn' h1
   obtain ⟨c2,e1,e2,e3,e4,e5⟩:=cg hr' hs h2
   have hs2:=e3.shed
   have hfn:=hs2.fn
   obtain ⟨hlen,hlook⟩:=dD h3
   have hks:∀i,i < os.length->((List.range os.length).map (aa+·))[i]?=some (aa+i):=λi hi=>by simp [hi]
   have hl1:os1.length=os.length:=by rw [hlen];simp
   have hsub:∀k o,alook (ab os1 aa) k=some o->alook o1 k=some o:=by
    intro k o ho
    rw [ba] at ho
    by_cases hb:aa<=k
    ·rw [if_pos hb] at ho
     have hlt:=(List.getElem?_eq_some_iff.1 ho).1
     have:=(hlook _ _ (hks (k - aa) (by omega))).1
     rw [Nat.add_sub_cancel' hb] at this
     rw [this];exact ho
    ·rw [if_neg hb] at ho;cases ho
   have hmem:∀k,k∈(List.range os.length).map (aa+·)->live (ab os1 aa) k:=by
    intro k hk
    simp only [List.mem_map,List.mem_range] at hk
    obtain ⟨i,hi,rfl⟩:=hk
    refine ⟨os1[i]'(by omega),?_⟩
    rw [ba,if_pos (Nat.le_add_right _ _),Nat.add_sub_cancel_left]
    exact List.getElem?_eq_getElem _
   have hkk:∀k o,alook (ab os1 aa) k=some o->k∈(List.range os.length).map (aa+·):=by
    intro k o ho
    obtain ⟨h1,h2⟩:=dX ⟨o,ho⟩
    simp only [List.mem_map,List.mem_range]
    exact ⟨k - aa,by omega,by omega⟩
   obtain ⟨v,hv,hrv,hrk⟩:∃v,(results fn a'.tmps).run X.P c'.w=.ok v c'.w/\Rep c2 r v/\∀k∈r.keys,k∈ah (aV rs'):=by
    have hm':(fn.results.mapM (m:=Sem) (wv a'.tmps)).run X.P c'.w=.ok xs.toArray c'.w:=by
     rw [Array.mapM_eq_mapM_toList]
     simp only [Sem.run_map]
     rw [hrun];rfl
    have hres':∀ (v:Value),(if h:xs.toArray.size=1 then xs.toArray[0] else Value.tuple xs.toArray)=v->(results fn a'.tmps).run X.P c'.w=.ok v c'.w:=by
     intro v hv
     rw [jh]
     simp only [Sem.run_bind,hm',Result.andThen_ok]
     rw [hv];rfl
    by_cases h1:xs.length=1
    ·obtain ⟨x,rfl⟩:=List.length_eq_one_iff.1 h1
     have hl:(aV rs').length=1:=by rw [<-hs2.1];rfl
     obtain ⟨u,hu⟩:=List.length_eq_one_iff.1 hl
     rw [hu] at hres
     dsimp only at hres
     subst hres
     refine ⟨x,hres' x (by simp),(hs2.2 0 u (by rw [hu];rfl)).rep,λk hk=>by rw [hu];simpa [ah] using hk⟩
    ·have hl:(aV rs').length≠1:=by rw [<-hs2.1];exact h1
     have hr:r=.tup (aV rs'):=by
      rw [<-hres]
      cases h:aV rs' with
      | nil=>rfl
      | cons u l=>cases l with
       | nil=>rw [h] at hl;simp at hl
       | cons _ _=>rfl
     subst hr
     refine ⟨.tuple xs.toArray,hres' _ (by rw [dif_neg];simpa using h1),.tup _ _ hfn.1 hfn.2.1,λk hk=>by simpa [AV.keys] using hk⟩
   refine ⟨v,hv,c2,v,rfl,e1,e2.good,⟨e2.frame.os,e2.frame.output,e2.frame.tape,e2.frame.size,e2.frame.block,e2.frame.ext,e2.frame.new⟩,⟨λk o ho=>e2.objs.rep k o (hsub k o ho),λk o k' o' b hk hk'=>e2.objs.apart k o k' o' b (hsub k o hk) (hsub k' o' hk'),λk o ho q hq=>?_⟩,
    hrv,λk hk=>hmem k (bB hb.1 k (hrk k hk)),λk o b ho hb'=>e2.mine k o b (hsub k o ho) hb'⟩
   exact hmem q (bB hb.2 q (bZ (hkk k o ho) (hsub k o ho) q hq))
  cases ex with
  | exit id=>simp at hex
  | nor=>exact hfin hex
  | ret=>exact hfin hex
def gv (P:Program):Prop:=∀ (f:FuncId) (fn:Func),P.funcs[f]?=some fn->(fn.name=="runtime.NumGoroutine")=false/\∀c,fn.body=some c->codeOk fn.ntmps c=true
theorem ua {V:Env} (hm:V.P.follows .mixedOrders=true) (hP:gv V.P)
  (hext:∀f l os r os',V.isExt f=true->V.pre f l os=true->V.ext f l os=some (r,os')->jZ V.P V.G f l os r os'/\∃fn,V.P.funcs[f]?=some fn/\(fn.name=="runtime.NumGoroutine")=false/\fn.body.isSome=true) :
  ∀n,cm (V.cfg (EP V n))
 | 0=>λf l os r os' _ h=>by cases h
 | n+1=>λf l os r os' hp h=>by
  have h':E V (n+1) f l os=some (r,os'):=h
  rw [Ao] at h'
  cases he:V.isExt f with
  | true=>
   simp only [he,cond_true] at h'
   have hp':cond (V.isExt f) (V.pre f l os) true=true:=hp
   rw [he] at hp'
   exact hext f l os r os' he hp' h'
  | false=>
   simp only [he,cond_false] at h'
   have hX:=ua hm hP hext n
   have hh:=h'
   unfold sI at hh
   cases hf:(V.cfg (EP V n)).P.funcs[f]? with
   | none=>simp only [hf] at hh;cases hh
   | some fn=>
    have hf':V.P.funcs[f]?=some fn:=hf
    obtain ⟨h1,h2⟩:=hP f fn hf'
    refine ⟨lQ (X:=V.cfg (EP V n)) hX hm ⟨λp g hg=>(by cases hg),λp g hg=>(by cases hg),λp g hg=>(by cases hg)⟩ hf h2 h',fn,hf',h1,?_⟩
    cases hb:fn.body with
    | none=>simp only [hf,hb] at hh;cases hh
    | some c=>rfl
end Go.Ab

namespace Go.Ab
open Go Go.RowKit
def Ct (P:Program) (G:Nat->Option (List AV)) (f:FuncId) (l:List AV) (os:List AO) (r:AV×List AO):Prop:=
 jZ P G f l os r.1 r.2/\∃fn,P.funcs[f]?=some fn/\(fn.name=="runtime.NumGoroutine")=false/\fn.body.isSome=true
structure Ent where
 f:FuncId
 pre:List AV->List AO->Bool
 ans:List AV->List AO->AV×List AO
def mkE {τ:Type} (f:FuncId) (g:List AV->List AO->Bool) (v:List AV->List AO->τ) (φ:τ->AV×List AO):Ent:=⟨f,g,λl os=>φ (v l os)⟩
def jG:List Ent->FuncId->Option Ent
 | [],_=>none
 | e::r,f=>cond (Nat.beq e.f f) (some e) (jG r f)
abbrev Orc:=St->(Ex->St->Res)->Res
abbrev Vw:=St->(St->Res)->Res
def eqP:List Nat->List Nat->Bool
 | [],[]=>true
 | a::r,b::q=>Nat.beq a b&&eqP r q
 | _,_=>false
def oX {α:Type}:List (List Nat×α)->List Nat->Option α
 | [],_=>none
 | e::r,p=>cond (eqP e.1 p) (some e.2) (oX r p)
def hn (k o:List Nat) (p:List (Nat×Nat×TypeId)) (c:List (Nat×Nat×Nat×TypeId)):Hint:={keep:=k,objs:=o,promote:=p,promoteCell:=c}
def tr (p k o:List Nat):List Nat×Hint:=(p,{keep:=k,objs:=o})
def uo:List (List Nat×Hint)->List Nat->Option Hint
 | [],_=>none
 | e::r,p=>cond (eqP e.1 p) (some e.2) (uo r p)
def mkO {τ:Type} (g:St->Bool) (v:St->τ) (out:τ->(Ex->St->Res)->Res):Orc:=λs k=>cond (g s) (out (v s) k) none
def Env.tab (V:Env) (T:List Ent):Env:=
 {V with ext:=λf l os=>(jG T f).map λe=>e.ans l os,isExt:=λf=>(jG T f).isSome,pre:=λf l os=>match jG T f with | some e=>e.pre l os | none=>false}
def Env.run (V:Env) (T:List Ent) (d:Nat) (C L:List (List Nat×Orc)) (W:List (List Nat×Vw)) (f:FuncId):Cfg:=
 {(V.tab T).cfg (EP (V.tab T) d) with cutO:=λg p=>cond (Nat.beq g f) (oX C p) none,loopO:=λg p=>cond (Nat.beq g f) (oX L p) none,viewO:=λg p=>cond (Nat.beq g f) (oX W p) none}
def rO (V:Env) (T:List Ent):Prop:=∀e∈T,∀l os,e.pre l os=true->Ct V.P V.G e.f l os (e.ans l os)
theorem qW {T:List Ent} {f:FuncId} {e:Ent} (h:jG T f=some e):e∈T/\e.f=f:=by
 induction T with
 | nil=>simp [jG] at h
 | cons x r ih=>
  simp only [jG] at h
  cases hb:Nat.beq x.f f with
  | true=>simp only [hb,cond_true,Option.some.injEq] at h;subst h;exact ⟨by simp,cG hb⟩
  | false=>simp only [hb,cond_false] at h;exact ⟨List.mem_cons_of_mem _ (ih h).1,(ih h).2⟩
theorem c6 {α:Type} {C:List (List Nat×α)} {p:List Nat} {g:α} (h:oX C p=some g):(p,g)∈C:=by
 have eqP_eq:∀ {a b:List Nat},eqP a b=true->a=b:=by
  intro a
  induction a with
  | nil=>intro b h;cases b <;> simp [eqP] at h ⊢
  | cons x r ih=>
   intro b h
   cases b with
   | nil=>simp [eqP] at h
   | cons y q=>simp only [eqP,Bool.and_eq_true] at h;rw [cG h.1,ih h.2]
 induction C with
 | nil=>simp [oX] at h
 | cons x r ih=>
  simp only [oX] at h
  cases hb:eqP x.1 p with
  | true=>simp only [hb,cond_true,Option.some.injEq] at h;subst h;rw [<-eqP_eq hb];simp
  | false=>simp only [hb,cond_false] at h;exact List.mem_cons_of_mem _ (ih h)
def C7 (X:Cfg) (f:FuncId) (p:List Nat) (g:Orc):Prop:=∀s k r,g s k=some r->∃n,fa X f n (cY (bt X.P f) p) p s k=some r
def lu (g:Vw):Prop:=∀s k r,g s k=some r->∃s',k s'=some r/\∀ (B:Base) (c:Cx) (a:Act),Rel B c s a->bA s->∃c',c'.w=c.w/\Rel B c' s' a/\bA s'
def aE (X:Cfg) (f:FuncId) (p:List Nat) (g:Orc):Prop:=∀s k r,g s k=some r->∃n m,pd X f n m (cY (bt X.P f) p) p s k=some r
theorem lg {V:Env} {T:List Ent} (hm:V.P.follows .mixedOrders=true) (hP:gv V.P) (hT:rO V T) (d:Nat) (C L:List (List Nat×Orc)) (W:List (List Nat×Vw)) (f:FuncId):cm (V.run T d C L W f):=by
 have h:=ua (V:=V.tab T) hm hP (λg l os r os' hi hp he=>by
  simp only [Env.tab] at hi hp he
  cases hg:jG T g with
  | none=>simp [hg] at hi
  | some e=>
   obtain ⟨hmem,hf⟩:=qW hg
   simp only [hg] at hp
   simp only [hg,Option.map_some,Option.some.injEq] at he
   have:=hT e hmem l os hp
   rw [hf,he] at this
   exact this) d
 exact h
theorem tP {V:Env} {T:List Ent} {d:Nat} {C L:List (List Nat×Orc)} {W:List (List Nat×Vw)} {f:FuncId} {n:Nat} {l:List AV} {os:List AO} {r:AV×List AO} (hm:V.P.follows .mixedOrders=true) (hP:gv V.P) (hT:rO V T)
  (hC:∀e∈C,C7 (V.run T d C L W f) f e.1 e.2) (hL:∀e∈L,aE (V.run T d C L W f) f e.1 e.2) (hW:∀e∈W,lu e.2)
  (he:sI (V.run T d C L W f) n f l os=some r):Ct V.P V.G f l os r:=by
 have hO:OracOk (V.run T d C L W f) f:=by
  refine ⟨λp g hg=>?_,λp g hg=>?_,λp g hg=>?_⟩
  ·simp only [Env.run,Nat.beq_refl,cond_true] at hg
   exact hC _ (c6 hg)
  ·simp only [Env.run,Nat.beq_refl,cond_true] at hg
   exact hW _ (c6 hg)
  ·simp only [Env.run,Nat.beq_refl,cond_true] at hg
   exact hL _ (c6 hg)
 have hh:=he
 unfold sI at hh
 cases hf:(V.run T d C L W f).P.funcs[f]? with
 | none=>simp only [hf] at hh;cases hh
 | some fn=>
  have hf':V.P.funcs[f]?=some fn:=hf
  obtain ⟨h1,h2⟩:=hP f fn hf'
  refine ⟨lQ (X:=V.run T d C L W f) (lg hm hP hT d C L W f) hm hO hf h2 he,fn,hf',h1,?_⟩
  cases hb:fn.body with
  | none=>simp only [hf,hb] at hh;cases hh
  | some c=>rfl
def tX (X:Cfg) (f:FuncId) (L:List (List Nat×Orc)):Prop:=∀e∈L,aE X f e.1 e.2
theorem nT {X:Cfg} {f:FuncId} {p:List Nat} {g:Orc} {r:List (List Nat×Orc)} (h:aE X f p g) (hr:tX X f r):tX X f ((p,g)::r):=λx hx=>by
 rcases List.mem_cons.1 hx with rfl | hx
 ·exact h
 ·exact hr x hx
theorem Ct.args {P:Program} {G:Nat->Option (List AV)} {f:FuncId} {l l':List AV} {os:List AO} {r:AV×List AO} (h:Ct P G f l os r) (hl:l'.length=l.length) (hk:ah l=[])
  (hw:∀ (i:Nat) (u u':AV),l[i]?=some u->l'[i]?=some u'->∀c v,Rep c u' v->Rep c u v):Ct P G f l' os r:=by
 refine ⟨λc0 vs hg ho hs hr _=>h.1 c0 vs hg ho (by rw [hs,hl]) (λi u hu=>?_) (λk hk'=>by rw [hk] at hk';simp at hk'),h.2⟩
 have hlt:=(List.getElem?_eq_some_iff.1 hu).1
 have hu':l'[i]?=some (l'[i]'(by omega)):=List.getElem?_eq_getElem _
 exact hw i u _ hu hu' c0 _ (hr i _ hu')
theorem Ct.res {P:Program} {G:Nat->Option (List AV)} {f:FuncId} {l:List AV} {os os':List AO} {r r':AV} (h:Ct P G f l os (r,os')) (hk:r'.keys=[]) (hw:∀c v,Rep c r v->Rep c r' v):Ct P G f l os (r',os'):=by
 refine ⟨λc0 vs hg ho hs hr hl=>(h.1 c0 vs hg ho hs hr hl).mono ?_,h.2⟩
 rintro e w' ⟨c',x,h1,h2,h3,h4,h5,h6,h7,h8⟩
 exact ⟨c',x,h1,h2,h3,h4,h5,hw _ _ h6,λk hk'=>by rw [hk] at hk';simp at hk',h8⟩
def wO (X:Cfg) (f:FuncId) (n:Nat) (c:Code) (p:List Nat) (k:Ex->St->Res):Nat->St->Res
 | 0,_=>none
 | m+1,s=>pd X f n m c p s k
def cW (X:Cfg) (f:FuncId) (n:Nat) (p:List Nat) (s:St) (kn:St->Res) (k:Ex->St->Res):Res:=
 fa X f n (cY (bt X.P f) (p++[0])) (p++[0]) s λe s'=>match e with
  | .nor=>(jU X.P (X.hint f (jd (cY (bt X.P f) (p++[0])))) s').bind kn
  | e=>k e s'
theorem uU {X:Cfg} {f:FuncId} {n:Nat} {p:List Nat} {b:Code} {σ:Type} (S:σ->St) (Inv:σ->Prop) (μ:σ->Nat) (out:σ->(Ex->St->Res)->Res) (hb:cY (bt X.P f) p=.loop b)
  (round:∀v,Inv v->∀ (k:Ex->St->Res) (kn:St->Res),(∀v',Inv v'->μ v' < μ v->kn (S v')=out v' k)->cW X f n p (S v) kn k=out v k) :
  ∀ (m:Nat) (v:σ),Inv v->μ v<=m->∀k,pd X f n m (cY (bt X.P f) p) p (S v) k=out v k:=by
 have hb0:cY (bt X.P f) (p++[0])=b:=by rw [aU,hb];simp [cY]
 have hnext:∀ (m:Nat) (s:St) (k:Ex->St->Res),lC X.P (fa X f n b (p++[0])) (X.hint f (jd b)) m s k=(jU X.P (X.hint f (jd b)) s).bind (wO X f n (.loop b) p k m):=by
  intro m s k
  cases m with
  | zero=>
   simp only [lC]
   cases jU X.P (X.hint f (jd b)) s <;> rfl
  | succ m=>rfl
 intro m
 induction m with
 | zero=>
  intro v hv hm k
  rw [hb]
  simp only [pd,hnext]
  have:=round v hv k (wO X f n (.loop b) p k 0) (λv' _ h=>by omega)
  simp only [cW,hb0] at this
  exact this
 | succ m ih=>
  intro v hv hm k
  rw [hb]
  simp only [pd,hnext]
  have:=round v hv k (wO X f n (.loop b) p k (m+1)) (λv' hv' h=>by
   have:=ih v' hv' (by omega) k
   rw [hb] at this
   exact this)
  simp only [cW,hb0] at this
  exact this
section
open Classical
variable {α τ:Type}
noncomputable def pq (S:α->St) (Inv:α->Prop) (s:St):Bool:=decide (∃v,Inv v/\S v=s)
noncomputable def uh [Inhabited τ] (S:α->St) (Inv:α->Prop) (w:α->τ) (s:St):τ:=if h:∃v,Inv v/\S v=s then w h.choose else default
noncomputable def BV (A:α->List AV) (O:α->List AO) (Pre:α->Prop) (l:List AV) (os:List AO):Bool:=decide (∃v,Pre v/\A v=l/\O v=os)
noncomputable def Db [Inhabited τ] (A:α->List AV) (O:α->List AO) (Pre:α->Prop) (w:α->τ) (l:List AV) (os:List AO):τ:=if h:∃v,Pre v/\A v=l/\O v=os then w h.choose else default
theorem kr {S:α->St} {Inv:α->Prop} {v:α} (h:Inv v):pq S Inv (S v)=true:=decide_eq_true ⟨v,h,rfl⟩
theorem te [Inhabited τ] {X:Cfg} {f:FuncId} {p:List Nat} {b:Code} (S:α->St) (Inv:α->Prop) (μ:α->Nat) (w:α->τ) (out:τ->(Ex->St->Res)->Res) (hb:cY (bt X.P f) p=.loop b) (n:Nat)
  (round:∀v,Inv v->∀ (k:Ex->St->Res) (kn:St->Res),(∀v',Inv v'->μ v' < μ v->kn (S v')=out (w v') k)->cW X f n p (S v) kn k=out (w v) k) :
  aE X f p (mkO (pq S Inv) (uh S Inv w) out):=by
 intro s k r h
 unfold mkO at h
 obtain ⟨hg,h⟩:=a7 h
 have hx:∃v,Inv v/\S v=s:=of_decide_eq_true hg
 unfold uh at h
 rw [dif_pos hx] at h
 refine ⟨n,μ hx.choose,?_⟩
 have:=uU S Inv μ (λv=>out (w v)) hb round (μ hx.choose) hx.choose hx.choose_spec.1 (Nat.le_refl _) k
 rw [hx.choose_spec.2] at this
 rw [this];exact h
end
theorem wrap_i64 {x:Int} (h0 : -9223372036854775808<=x) (h1:x < 9223372036854775808):IntKind.i64.wrap x=x:=by
 simp [IntKind.wrap,IntKind.signed,IntKind.bits] <;> (try split) <;> omega
theorem kz {x:Int} {n:Nat} (h0:0<=x) (h1:x < n):within x n=true:=by simp [within,h0,h1]
end Go.Ab

namespace Go.Ab
open Go
section
variable {τ:Type} [Inhabited τ]
end
theorem BI {i n:Nat} (h:i < n):decide ((i:Int) < (n:Int))=true:=decide_eq_true (by omega)
theorem ag {i n:Nat} (h:i < n):within (i:Int) n=true:=kz (by omega) (by omega)
end Go.Ab

namespace Go.Ab
open Go
section
variable {τ:Type} [Inhabited τ]
noncomputable def g1 (A:List AV):List AV->List AO->Bool:=BV (λ_:Unit=>A) (λ_=>[]) (λ_=>True)
noncomputable def v1 (A:List AV) (w:τ):List AV->List AO->τ:=Db (λ_:Unit=>A) (λ_=>[]) (λ_=>True) (λ_=>w)
noncomputable def vF {α:Type} (A:α->List AV) (Pre:α->Prop) (w:α->τ):List AV->List AO->τ:=Db A (λ_=>[]) Pre w
end
end Go.Ab

namespace Go.Ab
open Go
section
variable {α τ:Type} [Inhabited τ]
theorem iv {S:α->St} {Inv:α->Prop} {w:α->τ} {Post:α->τ->Prop} (hw:∀a,Inv a->Post a (w a)) (hi:∀a b x,S a=S b->Post a x->Post b x) {a:α} (h:Inv a):Post a (uh S Inv w (S a)):=by
 have hx:∃u,Inv u/\S u=S a:=⟨a,h,rfl⟩
 unfold uh
 rw [dif_pos hx]
 exact hi _ _ _ hx.choose_spec.2 (hw _ hx.choose_spec.1)
open Classical in
theorem mF {ι:Type} {Xf:ι->Cfg} {f:FuncId} {p:List Nat} {b:Code} (S:α->St) (Inv:α->Prop) (μ:α->Nat) (out:τ->(Ex->St->Res)->Res) (Post:α->τ->Prop) (hb:∀i,cY (bt (Xf i).P f) p=.loop b) (n:Nat)
  (round:∀v,Inv v->(∃o,Post v o/\∀ (i:ι) (k:Ex->St->Res) (kn:St->Res),cW (Xf i) f n p (S v) kn k=out o k) ∨
   ∃v',Inv v'/\μ v' < μ v/\(∀o,Post v' o->Post v o)/\∀ (i:ι) (k:Ex->St->Res) (kn:St->Res),cW (Xf i) f n p (S v) kn k=kn (S v')) :
  ∃w:α->τ,(∀v,Inv v->Post v (w v))/\∀i,aE (Xf i) f p (mkO (pq S Inv) (uh S Inv w) out):=by
 let F:(v:α)->((v':α)->μ v' < μ v->τ)->τ:=λv rec=>
  if hi:Inv v then
   if h1:∃o,Post v o/\∀ (i:ι) (k:Ex->St->Res) (kn:St->Res),cW (Xf i) f n p (S v) kn k=out o k then h1.choose
   else if h2:∃v',Inv v'/\μ v' < μ v/\(∀o,Post v' o->Post v o)/\∀ (i:ι) (k:Ex->St->Res) (kn:St->Res),cW (Xf i) f n p (S v) kn k=kn (S v') then rec h2.choose h2.choose_spec.2.1
   else default
  else default
 let w:α->τ:=WellFounded.fix (measure μ).wf F
 have hw:∀v,w v=F v λv' _=>w v':=λv=>WellFounded.fix_eq (measure μ).wf F v
 have hpost:∀ (m:Nat) (v:α),μ v<=m->Inv v->Post v (w v):=by
  intro m
  induction m with
  | zero=>
   intro v hm hi
   rw [hw]
   simp only [F]
   rw [dif_pos hi]
   by_cases h1:∃o,Post v o/\∀ (i:ι) (k:Ex->St->Res) (kn:St->Res),cW (Xf i) f n p (S v) kn k=out o k
   ·rw [dif_pos h1];exact h1.choose_spec.1
   ·obtain ⟨v',_,h,_⟩:=(round v hi).resolve_left h1
    omega
  | succ m ih=>
   intro v hm hi
   rw [hw]
   simp only [F]
   rw [dif_pos hi]
   by_cases h1:∃o,Post v o/\∀ (i:ι) (k:Ex->St->Res) (kn:St->Res),cW (Xf i) f n p (S v) kn k=out o k
   ·rw [dif_pos h1];exact h1.choose_spec.1
   ·have h2:=(round v hi).resolve_left h1
    rw [dif_neg h1,dif_pos h2]
    have:=h2.choose_spec
    exact this.2.2.1 _ (ih _ (by omega) this.1)
 refine ⟨w,λv hi=>hpost _ v (Nat.le_refl _) hi,λi=>?_⟩
 refine te S Inv μ w out (hb i) n λv hi k kn hk=>?_
 rw [hw]
 simp only [F]
 rw [dif_pos hi]
 by_cases h1:∃o,Post v o/\∀ (i:ι) (k:Ex->St->Res) (kn:St->Res),cW (Xf i) f n p (S v) kn k=out o k
 ·rw [dif_pos h1];exact h1.choose_spec.2 i k kn
 ·have h2:=(round v hi).resolve_left h1
  rw [dif_neg h1,dif_pos h2]
  have:=h2.choose_spec
  rw [this.2.2.2 i k kn]
  exact hk _ this.1 this.2.1
end
section
variable {τ:Type}
end
end Go.Ab

namespace Go.Ab
open Go
theorem cx {α:Type} {Q:α->Prop} {c:Bool} {A B:α} (h1:c=true->Q A) (h2:c=false->Q B):Q (cond c A B):=by
 cases c
 ·exact h2 rfl
 ·exact h1 rfl
def bV {τ:Type} (Post:τ->Prop) (φ:τ->AV×List AO) (e:Res):Prop:=∃x,Post x/\e=some (φ x)
theorem bV.c {τ:Type} {Post:τ->Prop} {φ:τ->AV×List AO} {c:Bool} {a b:Res} (h1:c=true->bV Post φ a) (h2:c=false->bV Post φ b):bV Post φ (cond c a b):=cx (Q:=bV Post φ) h1 h2
theorem bV.t {τ:Type} {Post:τ->Prop} {φ:τ->AV×List AO} {c:Bool} {a b:Res} (h:c=true) (h1:bV Post φ a):bV Post φ (cond c a b):=by subst h;exact h1
theorem bV.f {τ:Type} {Post:τ->Prop} {φ:τ->AV×List AO} {c:Bool} {a b:Res} (h:c=false) (h1:bV Post φ b):bV Post φ (cond c a b):=by subst h;exact h1
theorem bV.ret {τ:Type} {Post:τ->Prop} {φ:τ->AV×List AO} {r:AV×List AO} (x:τ) (h:Post x) (he:r=φ x):bV Post φ (some r):=⟨x,h,by rw [he]⟩
theorem bV.eq {τ:Type} {Post:τ->Prop} {φ:τ->AV×List AO} {e e':Res} (h:e=e') (h1:bV Post φ e'):bV Post φ e:=by rw [h];exact h1
theorem bV.mono {τ:Type} {Post Post':τ->Prop} {φ:τ->AV×List AO} {e:Res} (h:∀x,Post x->Post' x) (h1:bV Post φ e):bV Post' φ e:=by
 obtain ⟨x,h2,h3⟩:=h1;exact ⟨x,h x h2,h3⟩
section
variable {α τ ι:Type}
def RT (S:α->St) (Inv:α->Prop) (μ:α->Nat) (out:τ->(Ex->St->Res)->Res) (Post:α->τ->Prop) (v:α) (e:ι->(Ex->St->Res)->(St->Res)->Res):Prop:=
 (∃o,Post v o/\∀ (i:ι) (k:Ex->St->Res) (kn:St->Res),e i k kn=out o k) ∨
  ∃v',Inv v'/\μ v' < μ v/\(∀o,Post v' o->Post v o)/\∀ (i:ι) (k:Ex->St->Res) (kn:St->Res),e i k kn=kn (S v')
variable {S:α->St} {Inv:α->Prop} {μ:α->Nat} {out:τ->(Ex->St->Res)->Res} {Post:α->τ->Prop} {v:α}
theorem RT.c {c:Bool} {a b:ι->(Ex->St->Res)->(St->Res)->Res} (h1:c=true->RT S Inv μ out Post v a) (h2:c=false->RT S Inv μ out Post v b):RT S Inv μ out Post v (λi k kn=>cond c (a i k kn) (b i k kn)):=by
 cases c
 ·exact h2 rfl
 ·exact h1 rfl
theorem RT.t {c:Bool} {a b:ι->(Ex->St->Res)->(St->Res)->Res} (h:c=true) (h1:RT S Inv μ out Post v a):RT S Inv μ out Post v (λi k kn=>cond c (a i k kn) (b i k kn)):=by
 subst h;exact h1
theorem RT.f {c:Bool} {a b:ι->(Ex->St->Res)->(St->Res)->Res} (h:c=false) (h1:RT S Inv μ out Post v b):RT S Inv μ out Post v (λi k kn=>cond c (a i k kn) (b i k kn)):=by
 subst h;exact h1
theorem RT.eq {e e':ι->(Ex->St->Res)->(St->Res)->Res} (h:∀i k kn,e i k kn=e' i k kn) (h1:RT S Inv μ out Post v e'):RT S Inv μ out Post v e:=by
 rcases h1 with ⟨o,h2,h3⟩ | ⟨v',h2,h3,h4,h5⟩
 ·exact Or.inl ⟨o,h2,λi k kn=>(h i k kn).trans (h3 i k kn)⟩
 ·exact Or.inr ⟨v',h2,h3,h4,λi k kn=>(h i k kn).trans (h5 i k kn)⟩
theorem RT.fin (o:τ) (h:Post v o) {e:ι->(Ex->St->Res)->(St->Res)->Res} (he:∀i k kn,e i k kn=out o k):RT S Inv μ out Post v e:=Or.inl ⟨o,h,he⟩
theorem RT.next (v':α) (h:Inv v') (hm:μ v' < μ v) (hp:∀o,Post v' o->Post v o) {e:ι->(Ex->St->Res)->(St->Res)->Res} (he:∀i k kn,e i k kn=kn (S v')):RT S Inv μ out Post v e:=Or.inr ⟨v',h,hm,hp,he⟩
end
end Go.Ab

namespace Go.Ab
open Go
section
variable {τ:Type} {Post:τ->Prop} {φ:τ->AV×List AO}
theorem bV.by {e e':Res} (h1:bV Post φ e') (h:e=e'):bV Post φ e:=h ▸ h1
theorem bV.n {c:Bool} {a:Res} (h:c=true) (h1:bV Post φ a):bV Post φ (cond c a none):=bV.t h h1
theorem bV.r (x:τ) (h:Post x):bV Post φ (some (φ x)):=bV.ret x h rfl
theorem bV.g {α:Type} {T:α->Res} (x:α) (h:∀t,x=t->bV Post φ (T t)):bV Post φ (T x):=h x rfl
def bq {α:Type} (g:St->Bool) (w:St->α) (s:St) (Q:α->Prop):Prop:=g s=true/\Q (w s)
theorem bV.lp {α:Type} {g:St->Bool} {w:St->α} {s:St} {Q:α->Prop} {T:α->Res} (h:bq g w s Q) (k:∀t,Q t->bV Post φ (T t)):bV Post φ (cond (g s) (T (w s)) none):=bV.t h.1 (k _ h.2)
theorem bV.b {a b:Res} (c:Bool) (h1:c=true->bV Post φ a) (h2:c=false->bV Post φ b):bV Post φ (cond c a b):=bV.c h1 h2
end
section
variable {α τ ι:Type} {S:α->St} {Inv:α->Prop} {μ:α->Nat} {out:τ->(Ex->St->Res)->Res} {Post:α->τ->Prop} {v:α}
theorem RT.by {e e':ι->(Ex->St->Res)->(St->Res)->Res} (h1:RT S Inv μ out Post v e') (h:∀i k kn,e i k kn=e' i k kn):RT S Inv μ out Post v e:=RT.eq h h1
theorem RT.n {c:Bool} {a:ι->(Ex->St->Res)->(St->Res)->Res} (h:c=true) (h1:RT S Inv μ out Post v a):RT S Inv μ out Post v (λi k kn=>cond c (a i k kn) none):=RT.t h h1
theorem RT.b {a b:ι->(Ex->St->Res)->(St->Res)->Res} (c:Bool) (h1:c=true->RT S Inv μ out Post v a) (h2:c=false->RT S Inv μ out Post v b):RT S Inv μ out Post v (λi k kn=>cond c (a i k kn) (b i k kn)):=RT.c h1 h2
theorem RT.nx (s:St) (v':α) (h:Inv v') (hm:μ v' < μ v) (hp:∀o,Post v' o->Post v o) (hs:s=S v'):RT S Inv μ out Post v (λ(_:ι) (_:Ex->St->Res) (kn:St->Res)=>kn s):=RT.next v' h hm hp λ_ _ _=>by rw [hs]
theorem RT.fi (o:τ) (h:Post v o):RT S Inv μ out Post v (λ(_:ι) (k:Ex->St->Res) (_:St->Res)=>out o k):=RT.fin o h λ_ _ _=>rfl
end
structure RW where
 n:Nat
 g:Nat->List AV
instance:Inhabited RW:=⟨⟨0,λ_=>[]⟩⟩
theorem kk {b n:Nat} (h:n*b<=140737488355328):roomy b n=true:=Nat.ble_eq_true_of_le h
theorem cb {b n m:Nat} (h:n*b<=140737488355328):(roomy b n&&Nat.beq m m)=true:=by rw [kk h,Nat.beq_refl];rfl
end Go.Ab

namespace Go.Ab
open Go Go.RowKit
end Go.Ab

namespace Go.Ab
open Go Go.RowKit
def bg (base:List Nat):List Nat->List Nat
 | []=>[]
 | k::r=>cond (base.any (Nat.beq k)) (bg base r) (k::bg base r)
theorem dE {base:List Nat}:∀ {l:List Nat} {k:Nat},k∈bg base l->k∈l/\k ∉ base
 | [],k,h=>by simp [bg] at h
 | q::r,k,h=>by
  simp only [bg] at h
  cases hb:base.any (Nat.beq q) with
  | true=>
   rw [hb] at h
   obtain ⟨h1,h2⟩:=dE h
   exact ⟨List.mem_cons_of_mem _ h1,h2⟩
  | false=>
   rw [hb] at h
   rcases List.mem_cons.1 h with rfl | h
   ·refine ⟨List.mem_cons_self ..,λhk=>?_⟩
    have:=List.any_eq_false.1 hb k hk
    exact this (Nat.beq_refl k)
   ·obtain ⟨h1,h2⟩:=dE h
    exact ⟨List.mem_cons_of_mem _ h1,h2⟩
theorem dw {base:List Nat}:∀ {l:List Nat},l.Nodup->(bg base l).Nodup
 | [],_=>by simp [bg]
 | q::r,h=>by
  obtain ⟨h1,h2⟩:=List.nodup_cons.1 h
  simp only [bg]
  cases base.any (Nat.beq q) with
  | true=>exact dw h2
  | false=>exact List.nodup_cons.2 ⟨λhq=>h1 (dE hq).1,dw h2⟩
theorem List.bP (n:Nat):((List.range n).map (aa+·)).Nodup:=by
 rw [List.nodup_iff_pairwise_ne,List.pairwise_map]
 exact (List.nodup_iff_pairwise_ne.1 (List.nodup_range (n:=n))).imp λh e=>h (by omega)
def pD (X:Cfg) (fn:Func) (m:Nat) (s:St):Option (AV×List AO):=
 (hD X s fn.results.toList).bind λvs=>(bf s.objs vs).bind λa=>
  (bM a.2 ((List.range m).map (aa+·)++bg ((List.range m).map (aa+·)) (bj a.2 ((List.range m).map (aa+·)++ah (aV a.1))))).bind λos=>
   cond (kC (ah (aV a.1)) ((List.range m).map (aa+·)++bg ((List.range m).map (aa+·)) (bj a.2 ((List.range m).map (aa+·)++ah (aV a.1)))) &&
    kC (aN a.2 ((List.range m).map (aa+·)++bg ((List.range m).map (aa+·)) (bj a.2 ((List.range m).map (aa+·)++ah (aV a.1))))) ((List.range m).map (aa+·)++bg ((List.range m).map (aa+·)) (bj a.2 ((List.range m).map (aa+·)++ah (aV a.1)))))
    (some ((match aV a.1 with | [v]=>v | vs=>AV.tup vs).ren (λk=>aa+idxOf ((List.range m).map (aa+·)++bg ((List.range m).map (aa+·)) (bj a.2 ((List.range m).map (aa+·)++ah (aV a.1)))) k 0),
     os.map (AO.ren λk=>aa+idxOf ((List.range m).map (aa+·)++bg ((List.range m).map (aa+·)) (bj a.2 ((List.range m).map (aa+·)++ah (aV a.1)))) k 0))) none
def sG (X:Cfg) (n:Nat) (f:FuncId) (args:List AV) (objs:List AO):Option (AV×List AO):=
 match X.P.funcs[f]? with
 | some fn=>(match fn.body with
  | some c=>fa X f n c [] {env:=cq args 0,objs:=ab objs aa} λe s=>
    (match e with
    | .exit _=>none
    | _=>pD X fn objs.length s)
  | none=>none)
 | none=>none
theorem od {c:Cx} {objs:List (Nat×AO)} (ho:Objs c objs) {ks:List Nat} (hn:ks.Nodup) {os:List AO} (hos:bM objs ks=some os) (hcl:∀q∈aN objs ks,q∈ks) :
  Objs {w:=c.w,I:=c.I,β:=λq=>c.β (dI ks (q - aa)),κ:=λq=>c.κ (dI ks (q - aa)),fr:=λq=>c.fr (dI ks (q - aa))} (ab (os.map (AO.ren λk=>aa+idxOf ks k 0)) aa) /\
  (∀k∈ks,c.β (dI ks (aa+idxOf ks k 0 - aa))=c.β k/\∀n y,ar c (.key k) n y->ar {w:=c.w,I:=c.I,β:=λq=>c.β (dI ks (q - aa)),κ:=λq=>c.κ (dI ks (q - aa)),fr:=λq=>c.fr (dI ks (q - aa))} (.key (aa+idxOf ks k 0)) n y) /\
  (∀q o,alook (ab (os.map (AO.ren λk=>aa+idxOf ks k 0)) aa) q=some o->∃k o0,k∈ks/\q=aa+idxOf ks k 0/\alook objs k=some o0/\o=o0.ren λk=>aa+idxOf ks k 0) /\
  (∀k∈ks,live (ab (os.map (AO.ren λk=>aa+idxOf ks k 0)) aa) (aa+idxOf ks k 0)):=by
 obtain ⟨hol,hoo⟩:=dD hos
 let fwd:=λk=>aa+idxOf ks k 0
 let bwd:=λk=>dI ks (k - aa)
 have hfb:∀k∈ks,bwd (fwd k)=k:=λk hk=>by
  show dI ks (aa+idxOf ks k 0 - aa)=k
  rw [Nat.add_sub_cancel_left];exact bD (aX 0 hk)
 have hbf:∀i k,ks[i]?=some k->bwd (aa+i)=k/\fwd k=aa+i:=λi k hk=>
  ⟨by show dI ks (aa+i - aa)=k;rw [Nat.add_sub_cancel_left];exact bD hk,by show aa+idxOf ks k 0=_;rw [idx_eq hn hk]⟩
 let c0:Cx:={w:=c.w,I:=c.I,β:=λq=>c.β (bwd q),κ:=λq=>c.κ (bwd q),fr:=λq=>c.fr (bwd q)}
 have hβ0:∀k∈ks,c0.β (fwd k)=c.β k:=λk hk=>by show c.β (bwd (fwd k))=_;rw [hfb k hk]
 have hκ0:∀k∈ks,c0.κ (fwd k)=c.κ k:=λk hk=>by show c.κ (bwd (fwd k))=_;rw [hfb k hk]
 have hf0:∀k∈ks,c0.fr (fwd k)=c.fr k:=λk hk=>by show c.fr (bwd (fwd k))=_;rw [hfb k hk]
 have hown0:∀k∈ks,∀n y,ar c (.key k) n y->ar c0 (.key (fwd k)) n y:=λk hk n y=>by simp only [ar,hκ0 k hk,hf0 k hk];exact id
 have hfwd:∀k∈ks,c0.β (fwd k)=c.β k/\∀n y,ar c (.key k) n y->ar c0 (.key (fwd k)) n y:=λk hk=>⟨hβ0 k hk,hown0 k hk⟩
 have hlook:∀q o,alook (ab (os.map (AO.ren fwd)) aa) q=some o->∃k o0,k∈ks/\q=fwd k/\alook objs k=some o0/\o=o0.ren fwd:=by
  intro q o hq
  rw [ba] at hq
  by_cases hb:aa<=q
  ·rw [if_pos hb,List.getElem?_map] at hq
   cases hi:os[q - aa]? with
   | none=>simp [hi] at hq
   | some o0=>
    simp [hi] at hq;subst hq
    have hlt:=(List.getElem?_eq_some_iff.1 hi).1
    have hk:ks[q - aa]?=some (ks[q - aa]'(by omega)):=List.getElem?_eq_getElem _
    refine ⟨_,o0,List.mem_of_getElem? hk,?_,by rw [(hoo _ _ hk).1,hi],rfl⟩
    rw [(hbf _ _ hk).2];omega
  ·rw [if_neg hb] at hq;simp at hq
 have hlook':∀k∈ks,∃o0,alook objs k=some o0/\alook (ab (os.map (AO.ren fwd)) aa) (fwd k)=some (o0.ren fwd):=by
  intro k hk
  have hi:=aX 0 hk
  obtain ⟨h1,o0,h2⟩:=hoo _ _ hi
  refine ⟨o0,h2,?_⟩
  rw [ba,if_pos (Nat.le_add_right _ _)]
  show (os.map (AO.ren fwd))[aa+idxOf ks k 0 - aa]?=_
  rw [Nat.add_sub_cancel_left,List.getElem?_map,<-h1,h2];rfl
 have hO0:Objs c0 (ab (os.map (AO.ren fwd)) aa):=by
  refine ⟨λq o hq=>?_,λq o q' o' b hq hq' hne hb=>?_,λq o hq r hr=>?_⟩
  ·obtain ⟨k,o0,hk,rfl,h1,rfl⟩:=hlook q o hq
   exact (ho.rep k o0 h1).ren rfl rfl (hβ0 k hk) (hκ0 k hk) (hf0 k hk) λq hq=>hfwd q (hcl q (bZ hk h1 q hq))
  ·obtain ⟨k,o0,hk,rfl,h1,rfl⟩:=hlook q o hq
   obtain ⟨k',o0',hk',rfl,h1',rfl⟩:=hlook q' o' hq'
   rw [cO (hβ0 k hk) (hκ0 k hk)] at hb
   rw [cO (hβ0 k' hk') (hκ0 k' hk')]
   exact ho.apart k o0 k' o0' b h1 h1' (λe=>hne (by rw [e])) hb
  ·obtain ⟨k,o0,hk,rfl,h1,rfl⟩:=hlook q o hq
   obtain ⟨q',hq',rfl⟩:=AO.cK _ _ r hr
   obtain ⟨_,_,e⟩:=hlook' q' (hcl q' (bZ hk h1 q' hq'))
   exact ⟨_,e⟩
 exact ⟨hO0,hfwd,hlook,λk hk=>by obtain ⟨_,_,e⟩:=hlook' k hk;exact ⟨_,e⟩⟩
theorem oM {X:Cfg} (hX:cm X) (hm:X.P.follows .mixedOrders=true) {f:FuncId} (hO:OracOk X f) {fn:Func} (hf:X.P.funcs[f]?=some fn) (hok:∀c,fn.body=some c->codeOk fn.ntmps c=true) {n:Nat} {args:List AV} {os:List AO}
  {r:AV} {os':List AO} (he:sG X n f args os=some (r,os')):jZ X.P X.G f args os r os':=by
 unfold sG at he
 rw [hf] at he
 dsimp only at he
 cases hbody:fn.body with
 | none=>simp [hbody] at he
 | some code=>
  simp only [hbody] at he
  have hcode:=hok code hbody
  intro c0 vs hgood hobjs hsz hrep hkeys
  let a0:Act:={tmps:=vs++Array.replicate (fn.ntmps - vs.size) undef,defers:=[]}
  let B:Base:={c0:=c0,D:=held c0 (ab os aa),K:=live (ab os aa),G:=X.G,N:=a0.tmps.size}
  let s0:St:={env:=cq args 0,objs:=ab os aa}
  have hN:fn.ntmps<=B.N:=by simp [B,a0];omega
  have hcode':codeOk B.N code=true:=bO hN hcode
  have hget:∀t v,s0.get t=some v->args[t]?=some v:=λt v hv=>by
   have:alook (cq args 0) t=some v:=hv
   rw [dz,if_pos (Nat.zero_le _)] at this;simpa using this
  have hval:∀t v,args[t]?=some v->Rep c0 v (a0.tmps.getD t undef):=λt v hv=>by
   have hlt:t < vs.size:=by rw [hsz];exact (List.getElem?_eq_some_iff.1 hv).1
   have e:a0.tmps.getD t undef=vs.getD t undef:=by
    simp only [a0,Array.getD_eq_getD_getElem?]
    rw [Array.getElem?_append_left hlt]
   rw [e];exact hrep t v hv
  have hplain:∀t v,s0.get t=some v->v.bW=false:=λt v hv=>by
   have:=hval t v (hget t v hv)
   generalize a0.tmps.getD t undef=V at this
   cases this <;> rfl
  have h0:Rel B c0 s0 a0:=by
   refine ⟨hgood,⟨rfl,rfl,rfl,Nat.le_refl _,λ_ _ _=>rfl,Ext.refl _ _,λ_ _ _ _ hi=>hi⟩,hobjs,λt v hv=>dc.lV (hplain t v hv) (hval t v (hget t v hv)),
    λt v hv k hk=>hkeys k (ay (hget t v hv) k hk),λk o b ho hb=>.inr ⟨k,o,ho,hb⟩,rfl,rfl,λk hk=>hk⟩
  refine calls_of_wp hf hbody ?_
  refine bS (B:=B) hX rfl hm (λk hk=>(dX hk).1) f hO code [] (by simp [bt,cY,hf,hbody]) hcode' n s0 c0 a0 _ (r,os') _ he h0 hplain λex s' c' a' hex hr' hn'=>?_
  have hfin:pD X fn os.length s'=some (r,os')->a'.defers=[]/\∃v,(results fn a'.tmps).run X.P c'.w=.ok v c'.w/\∃c2 x,Ending.returned v=.returned x/\c2.w=c'.w/\Good X.G c2 /\
   Frame {c0:=c0,D:=held c0 (ab os aa),K:=live (ab os aa),G:=X.G,N:=0} c2 /\
   Objs c2 (ab os' aa)/\Rep c2 r x/\(∀k∈r.keys,live (ab os' aa) k) /\
   ∀k o b,alook (ab os' aa) k=some o->excl c2 k o=some b->c0.w.heap.size<=b∨held c0 (ab os aa) b:=by
   intro hfin
   refine ⟨hr'.defers,?_⟩
   unfold pD at hfin
   obtain ⟨rs,h1,hfin⟩:=ae hfin
   obtain ⟨⟨rs',o1⟩,h2,hfin⟩:=ae hfin
   dsimp only at hfin
   obtain ⟨os1,h3,hfin⟩:=ae hfin
   obtain ⟨hb,hfin⟩:=a7 hfin
   simp only [Option.some.injEq,Prod.mk.injEq] at hfin
   obtain ⟨hres,rfl⟩:=hfin
   simp only [Bool.and_eq_true] at hb
   obtain ⟨xs,hs,hrun⟩:=dR X hr' hn' h1
   obtain ⟨c2,e1,e2,e3,e4,e5⟩:=cg hr' hs h2
   have hs2:=e3.shed
   have hfn:=hs2.fn
   generalize hr0:(match aV rs' with | [v]=>v | vs=>AV.tup vs)=r0 at hres
   subst hres
   let ks:=(List.range os.length).map (aa+·)
   let all:=ks++bg ks (bj o1 (ks++ah (aV rs')))
   have hbase:ks.Nodup:=(List.bP os.length)
   have hall:all.Nodup:=List.nodup_append.2 ⟨hbase,dw (dh _ _).1,λx hx y hy e=>(dE hy).2 (e ▸ hx)⟩
   obtain ⟨hren,hkey,hlook,hlive⟩:=od e2.objs hall h3 (bB hb.2)
   obtain ⟨v,hv,hrv,hrk⟩:∃v,(results fn a'.tmps).run X.P c'.w=.ok v c'.w/\Rep c2 r0 v/\∀k∈r0.keys,k∈ah (aV rs'):=by
    have hm':(fn.results.mapM (m:=Sem) (wv a'.tmps)).run X.P c'.w=.ok xs.toArray c'.w:=by
     rw [Array.mapM_eq_mapM_toList]
     simp only [Sem.run_map]
     rw [hrun];rfl
    have hres':∀ (v:Value),(if h:xs.toArray.size=1 then xs.toArray[0] else Value.tuple xs.toArray)=v->(results fn a'.tmps).run X.P c'.w=.ok v c'.w:=by
     intro v hv
     rw [jh]
     simp only [Sem.run_bind,hm',Result.andThen_ok]
     rw [hv];rfl
    by_cases h1:xs.length=1
    ·obtain ⟨x,rfl⟩:=List.length_eq_one_iff.1 h1
     have hl:(aV rs').length=1:=by rw [<-hs2.1];rfl
     obtain ⟨u,hu⟩:=List.length_eq_one_iff.1 hl
     have hres:u=r0:=by rw [<-hr0,hu]
     subst hres
     refine ⟨x,hres' x (by simp),(hs2.2 0 u (by rw [hu];rfl)).rep,λk hk=>by rw [hu];simpa [ah] using hk⟩
    ·have hl:(aV rs').length≠1:=by rw [<-hs2.1];exact h1
     have hr:r0=.tup (aV rs'):=by
      rw [<-hr0]
      cases h:aV rs' with
      | nil=>rfl
      | cons u l=>cases l with
       | nil=>rw [h] at hl;simp at hl
       | cons _ _=>rfl
     rw [hr]
     refine ⟨.tuple xs.toArray,hres' _ (by rw [dif_neg];simpa using h1),.tup _ _ hfn.1 hfn.2.1,λk hk=>by simpa [AV.keys] using hk⟩
   let c3:Cx:={w:=c2.w,I:=c2.I,β:=λq=>c2.β (dI all (q - aa)),κ:=λq=>c2.κ (dI all (q - aa)),fr:=λq=>c2.fr (dI all (q - aa))}
   have hb0:∀k,live (ab os aa) k->dI all (k - aa)=k:=by
    intro k hk
    obtain ⟨g1,g2⟩:=dX hk
    refine bD ?_
    show (ks++_)[k - aa]?=some k
    rw [List.getElem?_append_left (by simpa [ks] using g2)]
    simp [ks,g2];omega
   have hown:∀k,live (ab os aa) k->∀n y,ar c2 (.key k) n y->ar c3 (.key k) n y:=λk hk n y=>by
    simp only [ar,c3,hb0 k hk];exact id
   refine ⟨v,hv,c3,v,rfl,e1,⟨e2.good.there,λg cs hg=>(e2.good.globs g cs hg).ext (ks:=λ_=>False) ⟨λ_ _ _ _ hv=>hv,λ_ _ hi=>hi,λ_ hk=>hk.elim,λ_ hk=>hk.elim⟩ (by simp [AV.keys])⟩,
    ⟨e2.frame.os,e2.frame.output,e2.frame.tape,e2.frame.size,e2.frame.block,⟨e2.frame.ext.cell,e2.frame.ext.I,λk hk=>by show c2.β (dI all (k - aa))=_;rw [hb0 k hk];exact e2.frame.ext.β k hk,λk hk n y hy=>hown k hk n y (e2.frame.ext.own k hk n y hy)⟩,e2.frame.new⟩,
    hren,Rep.ren (c:=c2) (c':=c3) (λ_ _ _ _ hv=>hv) (λ_ _ hi=>hi) hrv λq hq=>hkey q (bB hb.1 q (hrk q hq)),λk hk=>?_,λk o b ho hb'=>?_⟩
   ·obtain ⟨q,hq,rfl⟩:=cK _ _ k hk
    exact hlive q (bB hb.1 q (hrk q hq))
   ·obtain ⟨q,o0,hq,rfl,g1,rfl⟩:=hlook k o ho
    have:excl c3 (aa+idxOf all q 0) (o0.ren λk=>aa+idxOf all k 0)=excl c2 q o0:=cO (by show c2.β (dI all (aa+idxOf all q 0 - aa))=_;rw [Nat.add_sub_cancel_left,bD (aX 0 hq)]) (by show c2.κ (dI all (aa+idxOf all q 0 - aa))=_;rw [Nat.add_sub_cancel_left,bD (aX 0 hq)])
    rw [this] at hb'
    exact e2.mine q o0 b g1 hb'
  cases ex with
  | exit id=>simp at hex
  | nor=>exact hfin hex
  | ret=>exact hfin hex
theorem xE {V:Env} {T:List Ent} {d:Nat} {L:List (List Nat×Orc)} {W:List (List Nat×Vw)} {f:FuncId} {n:Nat} {l:List AV} {os:List AO} {r:AV×List AO} (hm:V.P.follows .mixedOrders=true) (hP:gv V.P) (hT:rO V T)
  (hL:∀e∈L,aE (V.run T d [] L W f) f e.1 e.2) (hW:∀e∈W,lu e.2) (he:sG (V.run T d [] L W f) n f l os=some r):Ct V.P V.G f l os r:=by
 have hO:OracOk (V.run T d [] L W f) f:=by
  refine ⟨λp g hg=>?_,λp g hg=>?_,λp g hg=>?_⟩
  ·simp only [Env.run,Nat.beq_refl,cond_true] at hg
   exact absurd (c6 hg) (List.not_mem_nil)
  ·simp only [Env.run,Nat.beq_refl,cond_true] at hg
   exact hW _ (c6 hg)
  ·simp only [Env.run,Nat.beq_refl,cond_true] at hg
   exact hL _ (c6 hg)
 have hh:=he
 unfold sG at hh
 cases hf:(V.run T d [] L W f).P.funcs[f]? with
 | none=>simp only [hf] at hh;cases hh
 | some fn=>
  have hf':V.P.funcs[f]?=some fn:=hf
  obtain ⟨h1,h2⟩:=hP f fn hf'
  refine ⟨oM (X:=V.run T d [] L W f) (lg hm hP hT d [] L W f) hm hO hf h2 he,fn,hf',h1,?_⟩
  cases hb:fn.body with
  | none=>simp only [hf,hb] at hh;cases hh
  | some c=>rfl
end Go.Ab

namespace Go.Ab
open Go Go.RowKit
def pC (X:Cfg) (fn:Func) (m:Nat) (s:St):Option (AV×List AO):=
 (hD X s fn.results.toList).bind λvs=>(some (vs,s.objs)).bind λa=>
  (bM a.2 ((List.range m).map (aa+·)++bg ((List.range m).map (aa+·)) (bj a.2 ((List.range m).map (aa+·)++ah (a.1))))).bind λos=>
   cond (kC (ah (a.1)) ((List.range m).map (aa+·)++bg ((List.range m).map (aa+·)) (bj a.2 ((List.range m).map (aa+·)++ah (a.1)))) &&
    kC (aN a.2 ((List.range m).map (aa+·)++bg ((List.range m).map (aa+·)) (bj a.2 ((List.range m).map (aa+·)++ah (a.1))))) ((List.range m).map (aa+·)++bg ((List.range m).map (aa+·)) (bj a.2 ((List.range m).map (aa+·)++ah (a.1)))))
    (some ((match a.1 with | [v]=>v | vs=>AV.tup vs).ren (λk=>aa+idxOf ((List.range m).map (aa+·)++bg ((List.range m).map (aa+·)) (bj a.2 ((List.range m).map (aa+·)++ah (a.1)))) k 0),
     os.map (AO.ren λk=>aa+idxOf ((List.range m).map (aa+·)++bg ((List.range m).map (aa+·)) (bj a.2 ((List.range m).map (aa+·)++ah (a.1)))) k 0))) none
def sF (X:Cfg) (n:Nat) (f:FuncId) (args:List AV) (objs:List AO):Option (AV×List AO):=
 match X.P.funcs[f]? with
 | some fn=>(match fn.body with
  | some c=>fa X f n c [] {env:=cq args 0,objs:=ab objs aa} λe s=>
    (match e with
    | .exit _=>none
    | _=>pC X fn objs.length s)
  | none=>none)
 | none=>none
theorem oL {X:Cfg} (hX:cm X) (hm:X.P.follows .mixedOrders=true) {f:FuncId} (hO:OracOk X f) {fn:Func} (hf:X.P.funcs[f]?=some fn) (hok:∀c,fn.body=some c->codeOk fn.ntmps c=true) {n:Nat} {args:List AV} {os:List AO}
  {r:AV} {os':List AO} (he:sF X n f args os=some (r,os')):jZ X.P X.G f args os r os':=by
 unfold sF at he
 rw [hf] at he
 dsimp only at he
 cases hbody:fn.body with
 | none=>simp [hbody] at he
 | some code=>
  simp only [hbody] at he
  have hcode:=hok code hbody
  intro c0 vs hgood hobjs hsz hrep hkeys
  let a0:Act:={tmps:=vs++Array.replicate (fn.ntmps - vs.size) undef,defers:=[]}
  let B:Base:={c0:=c0,D:=held c0 (ab os aa),K:=live (ab os aa),G:=X.G,N:=a0.tmps.size}
  let s0:St:={env:=cq args 0,objs:=ab os aa}
  have hN:fn.ntmps<=B.N:=by simp [B,a0];omega
  have hcode':codeOk B.N code=true:=bO hN hcode
  have hget:∀t v,s0.get t=some v->args[t]?=some v:=λt v hv=>by
   have:alook (cq args 0) t=some v:=hv
   rw [dz,if_pos (Nat.zero_le _)] at this;simpa using this
  have hval:∀t v,args[t]?=some v->Rep c0 v (a0.tmps.getD t undef):=λt v hv=>by
   have hlt:t < vs.size:=by rw [hsz];exact (List.getElem?_eq_some_iff.1 hv).1
   have e:a0.tmps.getD t undef=vs.getD t undef:=by
    simp only [a0,Array.getD_eq_getD_getElem?]
    rw [Array.getElem?_append_left hlt]
   rw [e];exact hrep t v hv
  have hplain:∀t v,s0.get t=some v->v.bW=false:=λt v hv=>by
   have:=hval t v (hget t v hv)
   generalize a0.tmps.getD t undef=V at this
   cases this <;> rfl
  have h0:Rel B c0 s0 a0:=by
   refine ⟨hgood,⟨rfl,rfl,rfl,Nat.le_refl _,λ_ _ _=>rfl,Ext.refl _ _,λ_ _ _ _ hi=>hi⟩,hobjs,λt v hv=>dc.lV (hplain t v hv) (hval t v (hget t v hv)),
    λt v hv k hk=>hkeys k (ay (hget t v hv) k hk),λk o b ho hb=>.inr ⟨k,o,ho,hb⟩,rfl,rfl,λk hk=>hk⟩
  refine calls_of_wp hf hbody ?_
  refine bS (B:=B) hX rfl hm (λk hk=>(dX hk).1) f hO code [] (by simp [bt,cY,hf,hbody]) hcode' n s0 c0 a0 _ (r,os') _ he h0 hplain λex s' c' a' hex hr' hn'=>?_
  have hfin:pC X fn os.length s'=some (r,os')->a'.defers=[]/\∃v,(results fn a'.tmps).run X.P c'.w=.ok v c'.w/\∃c2 x,Ending.returned v=.returned x/\c2.w=c'.w/\Good X.G c2 /\
   Frame {c0:=c0,D:=held c0 (ab os aa),K:=live (ab os aa),G:=X.G,N:=0} c2 /\
   Objs c2 (ab os' aa)/\Rep c2 r x/\(∀k∈r.keys,live (ab os' aa) k) /\
   ∀k o b,alook (ab os' aa) k=some o->excl c2 k o=some b->c0.w.heap.size<=b∨held c0 (ab os aa) b:=by
   intro hfin
   refine ⟨hr'.defers,?_⟩
   unfold pC at hfin
   obtain ⟨rs,h1,hfin⟩:=ae hfin
   obtain ⟨⟨rs',o1⟩,h2,hfin⟩:=ae hfin
   dsimp only at hfin
   obtain ⟨os1,h3,hfin⟩:=ae hfin
   obtain ⟨hb,hfin⟩:=a7 hfin
   simp only [Option.some.injEq,Prod.mk.injEq] at hfin
   obtain ⟨hres,rfl⟩:=hfin
   simp only [Bool.and_eq_true] at hb
   obtain ⟨xs,hs,hrun⟩:=dR X hr' hn' h1
   obtain ⟨c2,e1,e2,e3,e4,e5⟩:∃c2:Cx,c2.w=c'.w/\Rel B c2 (s'.with o1) a'/\cf B c2 (s'.with o1) rs' xs/\(∀k,live s'.objs k->live o1 k)/\Ext c' c2 (live s'.objs):=by
    obtain ⟨q1,q2⟩:=Prod.mk.inj (Option.some.inj h2)
    subst q1 q2
    exact ⟨c',rfl,hr',hs,λ_ h=>h,Ext.refl _ _⟩
   have hs2:=e3
   have hfn:=hs2.fn
   generalize hr0:(match rs' with | [v]=>v | vs=>AV.tup vs)=r0 at hres
   subst hres
   let ks:=(List.range os.length).map (aa+·)
   let all:=ks++bg ks (bj o1 (ks++ah (rs')))
   have hbase:ks.Nodup:=(List.bP os.length)
   have hall:all.Nodup:=List.nodup_append.2 ⟨hbase,dw (dh _ _).1,λx hx y hy e=>(dE hy).2 (e ▸ hx)⟩
   obtain ⟨hren,hkey,hlook,hlive⟩:=od e2.objs hall h3 (bB hb.2)
   obtain ⟨v,hv,hrv,hrk⟩:∃v,(results fn a'.tmps).run X.P c'.w=.ok v c'.w/\Rep c2 r0 v/\∀k∈r0.keys,k∈ah (rs'):=by
    have hm':(fn.results.mapM (m:=Sem) (wv a'.tmps)).run X.P c'.w=.ok xs.toArray c'.w:=by
     rw [Array.mapM_eq_mapM_toList]
     simp only [Sem.run_map]
     rw [hrun];rfl
    have hres':∀ (v:Value),(if h:xs.toArray.size=1 then xs.toArray[0] else Value.tuple xs.toArray)=v->(results fn a'.tmps).run X.P c'.w=.ok v c'.w:=by
     intro v hv
     rw [jh]
     simp only [Sem.run_bind,hm',Result.andThen_ok]
     rw [hv];rfl
    by_cases h1:xs.length=1
    ·obtain ⟨x,rfl⟩:=List.length_eq_one_iff.1 h1
     have hl:(rs').length=1:=by rw [<-hs2.1];rfl
     obtain ⟨u,hu⟩:=List.length_eq_one_iff.1 hl
     have hres:u=r0:=by rw [<-hr0,hu]
     subst hres
     refine ⟨x,hres' x (by simp),(hs2.2 0 u (by rw [hu];rfl)).rep,λk hk=>by rw [hu];simpa [ah] using hk⟩
    ·have hl:(rs').length≠1:=by rw [<-hs2.1];exact h1
     have hr:r0=.tup (rs'):=by
      rw [<-hr0]
      cases h:rs' with
      | nil=>rfl
      | cons u l=>cases l with
       | nil=>rw [h] at hl;simp at hl
       | cons _ _=>rfl
     rw [hr]
     refine ⟨.tuple xs.toArray,hres' _ (by rw [dif_neg];simpa using h1),.tup _ _ hfn.1 hfn.2.1,λk hk=>by simpa [AV.keys] using hk⟩
   let c3:Cx:={w:=c2.w,I:=c2.I,β:=λq=>c2.β (dI all (q - aa)),κ:=λq=>c2.κ (dI all (q - aa)),fr:=λq=>c2.fr (dI all (q - aa))}
   have hb0:∀k,live (ab os aa) k->dI all (k - aa)=k:=by
    intro k hk
    obtain ⟨g1,g2⟩:=dX hk
    refine bD ?_
    show (ks++_)[k - aa]?=some k
    rw [List.getElem?_append_left (by simpa [ks] using g2)]
    simp [ks,g2];omega
   have hown:∀k,live (ab os aa) k->∀n y,ar c2 (.key k) n y->ar c3 (.key k) n y:=λk hk n y=>by
    simp only [ar,c3,hb0 k hk];exact id
   refine ⟨v,hv,c3,v,rfl,e1,⟨e2.good.there,λg cs hg=>(e2.good.globs g cs hg).ext (ks:=λ_=>False) ⟨λ_ _ _ _ hv=>hv,λ_ _ hi=>hi,λ_ hk=>hk.elim,λ_ hk=>hk.elim⟩ (by simp [AV.keys])⟩,
    ⟨e2.frame.os,e2.frame.output,e2.frame.tape,e2.frame.size,e2.frame.block,⟨e2.frame.ext.cell,e2.frame.ext.I,λk hk=>by show c2.β (dI all (k - aa))=_;rw [hb0 k hk];exact e2.frame.ext.β k hk,λk hk n y hy=>hown k hk n y (e2.frame.ext.own k hk n y hy)⟩,e2.frame.new⟩,
    hren,Rep.ren (c:=c2) (c':=c3) (λ_ _ _ _ hv=>hv) (λ_ _ hi=>hi) hrv λq hq=>hkey q (bB hb.1 q (hrk q hq)),λk hk=>?_,λk o b ho hb'=>?_⟩
   ·obtain ⟨q,hq,rfl⟩:=cK _ _ k hk
    exact hlive q (bB hb.1 q (hrk q hq))
   ·obtain ⟨q,o0,hq,rfl,g1,rfl⟩:=hlook k o ho
    have:excl c3 (aa+idxOf all q 0) (o0.ren λk=>aa+idxOf all k 0)=excl c2 q o0:=cO (by show c2.β (dI all (aa+idxOf all q 0 - aa))=_;rw [Nat.add_sub_cancel_left,bD (aX 0 hq)]) (by show c2.κ (dI all (aa+idxOf all q 0 - aa))=_;rw [Nat.add_sub_cancel_left,bD (aX 0 hq)])
    rw [this] at hb'
    exact e2.mine q o0 b g1 hb'
  cases ex with
  | exit id=>simp at hex
  | nor=>exact hfin hex
  | ret=>exact hfin hex
theorem xD {V:Env} {T:List Ent} {d:Nat} {L:List (List Nat×Orc)} {W:List (List Nat×Vw)} {f:FuncId} {n:Nat} {l:List AV} {os:List AO} {r:AV×List AO} (hm:V.P.follows .mixedOrders=true) (hP:gv V.P) (hT:rO V T)
  (hL:∀e∈L,aE (V.run T d [] L W f) f e.1 e.2) (hW:∀e∈W,lu e.2) (he:sF (V.run T d [] L W f) n f l os=some r):Ct V.P V.G f l os r:=by
 have hO:OracOk (V.run T d [] L W f) f:=by
  refine ⟨λp g hg=>?_,λp g hg=>?_,λp g hg=>?_⟩
  ·simp only [Env.run,Nat.beq_refl,cond_true] at hg
   exact absurd (c6 hg) (List.not_mem_nil)
  ·simp only [Env.run,Nat.beq_refl,cond_true] at hg
   exact hW _ (c6 hg)
  ·simp only [Env.run,Nat.beq_refl,cond_true] at hg
   exact hL _ (c6 hg)
 have hh:=he
 unfold sF at hh
 cases hf:(V.run T d [] L W f).P.funcs[f]? with
 | none=>simp only [hf] at hh;cases hh
 | some fn=>
  have hf':V.P.funcs[f]?=some fn:=hf
  obtain ⟨h1,h2⟩:=hP f fn hf'
  refine ⟨oL (X:=V.run T d [] L W f) (lg hm hP hT d [] L W f) hm hO hf h2 he,fn,hf',h1,?_⟩
  cases hb:fn.body with
  | none=>simp only [hf,hb] at hh;cases hh
  | some c=>rfl
end Go.Ab

namespace Go.Ab
open Go Go.RowKit
variable {B:Base} {c:Cx} {s:St} {a:Act}
def Told (cs cs':List AV):Prop:=cs'.length=cs.length/\ah cs'=[]/\∀ (i:Nat) (u u':AV),cs[i]?=some u->cs'[i]?=some u'->u'.one=true/\∀c x,Rep c u x->Rep c u' x
inductive ObjLe:AO->AO->Prop
 | same (o):ObjLe o o
 | cells (cs cs'):Told cs cs'->ObjLe (.cells cs) (.cells cs')
 | grw (q sz n get get'):(∀j,j < n->get' j=get j)->ObjLe (.grw q sz n get) (.grw q sz n get')
inductive ObjsLe:List (Nat×AO)->List (Nat×AO)->Prop
 | nil:ObjsLe [] []
 | cons (k o o' r r'):ObjLe o o'->ObjsLe r r'->ObjsLe ((k,o)::r) ((k,o')::r')
theorem ObjsLe.look {l l':List (Nat×AO)} (h:ObjsLe l l') (k:Nat):(alook l k=none/\alook l' k=none)∨∃o o',alook l k=some o/\alook l' k=some o'/\ObjLe o o':=by
 induction h with
 | nil=>exact .inl ⟨rfl,rfl⟩
 | cons q o o' r r' h1 _ ih=>
  simp only [alook]
  cases hb:Nat.beq q k with
  | true=>exact .inr ⟨o,o',rfl,rfl,h1⟩
  | false=>exact ih
theorem ObjLe.excl {o o':AO} (h:ObjLe o o') (k:Nat):excl c k o'=excl c k o:=by cases h <;> rfl
theorem ObjLe.keys {o o':AO} (h:ObjLe o o'):o'=o∨o'.keys=[]:=by
 cases h with
 | same=>exact .inl rfl
 | cells cs cs' h=>exact .inr h.2.1
 | grw sq sz n get get' h=>exact .inr rfl
theorem ObjLe.rep {o o':AO} (h:ObjLe o o') {k:Nat} (hr:ej c k o):ej c k o':=by
 cases h with
 | same=>exact hr
 | cells cs cs' h=>
  obtain ⟨⟨⟨vs,t,hh,hs,hv⟩,h1⟩,hI,hf⟩:=hr
  have hg:∀ (i:Nat) (u':AV),cs'[i]?=some u'->∃u,cs[i]?=some u:=λi u' hu=>by
   have:=(List.getElem?_eq_some_iff.1 hu).1
   rw [h.1] at this
   exact ⟨_,List.getElem?_eq_getElem this⟩
  refine ⟨⟨⟨vs,t,hh,by rw [h.1];exact hs,λi u' hu=>?_⟩,λi u' hu=>?_⟩,hI,hf⟩
  ·obtain ⟨u,hu0⟩:=hg i u' hu
   exact (h.2.2 i u u' hu0 hu).2 _ _ (hv i u hu0)
  ·obtain ⟨u,hu0⟩:=hg i u' hu
   exact (h.2.2 i u u' hu0 hu).1
 | grw sq sz n get get' h=>
  obtain ⟨h0,hfr,hm⟩:=hr
  refine ⟨h0,hfr,?_⟩
  cases hc:c.κ k with
  | none=>simp only [hc] at hm;exact hm
  | some p=>
   obtain ⟨a,cap⟩:=p
   simp only [hc] at hm ⊢
   refine ⟨hm.1,λhlt=>?_⟩
   obtain ⟨⟨vs,t,hh,hs,hv⟩,had,hl,h1,hfree⟩:=hm.2 hlt
   exact ⟨⟨vs,t,hh,hs,λj i u hj hu=>hv j i u hj (by rwa [h j hj] at hu)⟩,had,λj hj=>by rw [h j hj];exact hl j hj,λj i u hj hu=>h1 j i u hj (by rwa [h j hj] at hu),hfree⟩
end Go.Ab

namespace Go.Ab
open Go Go.RowKit
variable {B:Base} {c:Cx} {s:St} {a:Act}
def tw (s:St) (t:Nat):Option St:=(s.get t).bind λv=>(bn s.objs v).map λr=>({env:=s.env,objs:=r.2}:St).put (some t) r.1
theorem nX {t:Nat} {s':St} (h:Rel B c s a) (hn:bA s) (he:tw s t=some s'):∃c',c'.w=c.w/\Rel B c' s' a/\bA s':=by
 unfold tw at he
 obtain ⟨v,hv,he⟩:=ae he
 obtain ⟨⟨v',objs'⟩,hf,rfl⟩:=aL he
 have hp:=hn t v hv
 have hr:Rep c v (a.tmps.getD t undef):=by
  have:=h.env t v hv
  cases v <;> first | exact this | simp [AV.bW] at hp
 obtain ⟨c',e1,e2,e3,_,_⟩:=fl h ⟨hr,h.closed t v hv,hp⟩ hf
 have hn':bA {env:=s.env,objs:=objs'}:=λq u hu=>hn q u hu
 exact ⟨c',e1,e2.reslot e3 hn',hn'.put e3.plain⟩
end Go.Ab

namespace Go.Ab
open Go
variable {B:Base} {c:Cx} {s:St} {a:Act}
theorem qg {o:Own} {sz n:Nat} {get get':Nat->List AV} {x:Value} (h:Rep c (.sl o sz n get) x) (hg:∀j,j < n->get' j=get j):Rep c (.sl .no sz n get') x:=by
 cases h with
 | slNil _ _ _ _=>exact .slNil .no _ _ trivial
 | sl _ _ _ _ ad cap vals h1 h2 h3 h4 h5 h6=>
  exact .sl .no sz n get' ad cap vals h1 h2 trivial (λj hj=>by rw [hg j hj];exact h4 j hj) (λj i u hj=>by rw [hg j hj];exact h5 j i u hj) (λj i u hj=>by rw [hg j hj];exact h6 j i u hj)
theorem sg (h:Rel B c s a) (hn:bA s) {t:Nat} {o:Own} {sz n:Nat} {get get':Nat->List AV} (hv:s.get t=some (.sl o sz n get)) (hg:∀j,j < n->get' j=get j) :
  Rel B c (s.put (some t) (.sl .no sz n get')) a/\bA (s.put (some t) (.sl .no sz n get')):=by
 have hr:Rep c (.sl o sz n get) (a.tmps.getD t undef):=h.env t _ hv
 have e:Sees B c s (.sl .no sz n get') (a.tmps.getD t undef):=⟨qg hr hg,λk hk=>by simp [AV.keys] at hk,rfl⟩
 exact ⟨h.reslot e hn,hn.put e.plain⟩
theorem sK {o:Own} {sz sz':Nat} {get get':Nat->List AV} {x:Value} (h:Rep c (.sl o sz 0 get) x):Rep c (.sl .no sz' 0 get') x:=by
 cases h with
 | slNil _ _ _ _=>exact .slNil .no _ _ trivial
 | sl _ _ _ _ ad cap vals h1 h2 h3 h4 h5 h6=>
  exact .sl .no sz' 0 get' ad cap vals h1 h2 trivial (λj hj=>absurd hj (Nat.not_lt_zero _)) (λj i u hj=>absurd hj (Nat.not_lt_zero _)) (λj i u hj=>absurd hj (Nat.not_lt_zero _))
theorem ur (h:Rel B c s a) (hn:bA s) {t:Nat} {o:Own} {sz sz':Nat} {get get':Nat->List AV} (hv:s.get t=some (.sl o sz 0 get)) :
  Rel B c (s.put (some t) (.sl .no sz' 0 get')) a/\bA (s.put (some t) (.sl .no sz' 0 get')):=by
 have hr:Rep c (.sl o sz 0 get) (a.tmps.getD t undef):=h.env t _ hv
 have e:Sees B c s (.sl .no sz' 0 get') (a.tmps.getD t undef):=⟨sK hr,λk hk=>by simp [AV.keys] at hk,rfl⟩
 exact ⟨h.reslot e hn,hn.put e.plain⟩
end Go.Ab

namespace Go.Ab
open Go
theorem tS {a b:Nat} (h:a < b):Nat.blt a b=true:=Nat.ble_eq_true_of_le h
theorem vG {a b:Nat} (h:Nat.blt a b=true):a < b:=Nat.le_of_ble_eq_true h
def DP (z:List AV) (n:Nat) (get:Nat->List AV):Nat->List AV:=λj=>cond (Nat.blt j n) (get j) z
def uw (s:St) (t sz:Nat) (z:List AV):St:=
 match s.get t with
 | some (.sl _ sz0 n get)=>cond (Nat.beq sz0 sz) (s.put (some t) (.sl .no sz0 n (DP z n get))) (match n with
  | 0=>s.put (some t) (.sl .no sz 0 λ_=>z)
  | _+1=>s)
 | _=>s
def sj:List (Nat×Nat×List AV)->St->St
 | [],s=>s
 | t::r,s=>sj r (uw s t.1 t.2.1 t.2.2)
def yu (ts:List (Nat×Nat×List AV)):Vw:=λs k=>k (sj ts s)
theorem uv {B:Base} {c:Cx} {s:St} {a:Act} (h:Rel B c s a) (hn:bA s) (t sz:Nat) (z:List AV):Rel B c (uw s t sz z) a/\bA (uw s t sz z):=by
 unfold uw
 split
 ·rename_i o sz0 n get hv
  cases hb:Nat.beq sz0 sz with
  | true=>exact sg h hn hv λj hj=>by unfold DP;rw [tS hj];rfl
  | false=>
   cases n with
   | zero=>exact ur h hn hv
   | succ n=>exact ⟨h,hn⟩
 ·exact ⟨h,hn⟩
theorem qb {B:Base} {c:Cx} {a:Act}:∀ (ts:List (Nat×Nat×List AV)) (s:St),Rel B c s a->bA s->Rel B c (sj ts s) a/\bA (sj ts s)
 | [],s,h,hn=>⟨h,hn⟩
 | t::r,s,h,hn=>by
  have:=uv h hn t.1 t.2.1 t.2.2
  exact qb r _ this.1 this.2
theorem uu (ts:List (Nat×Nat×List AV)):lu (yu ts):=λs k r h=>⟨sj ts s,h,λB c a hr hn=>⟨c,rfl,qb ts s hr hn⟩⟩
def bc {T:Type} (f:Nat->T) (n:Nat) (x:T):Nat->T:=λj=>bif Nat.beq j n then x else f j
theorem bC {T:Type} (f:Nat->T) (n:Nat) (x:T):bc f n x n=x:=by unfold bc;rw [Nat.beq_refl];rfl
theorem aW {T:Type} (f:Nat->T) {n j:Nat} (x:T) (h:j≠n):bc f n x j=f j:=by
 unfold bc
 cases hb:Nat.beq j n with
 | false=>rfl
 | true=>exact absurd (Nat.eq_of_beq_eq_true hb) h
theorem lr {T:Type} (R:T->List AV) (n:Nat) (f:Nat->T) (h:Nat->List AV) (x:T) (hx:h 0=R x):av n 1 (λj=>R (f j)) h=λj=>R (bc f n x j):=by
 funext j
 unfold av
 by_cases h1:j < n
 ·rw [show Nat.blt j n=true from tS h1,aW f x (by omega)];rfl
 ·have b1:Nat.blt j n=false:=by
   cases hb:Nat.blt j n with
   | false=>rfl
   | true=>exact absurd (vG hb) h1
  rw [b1]
  by_cases h2:j=n
  ·subst h2
   rw [bC,show Nat.blt j (j+1)=true from tS (Nat.lt_succ_self j),Nat.sub_self,hx];rfl
  ·have b2:Nat.blt j (n+1)=false:=by
    cases hb:Nat.blt j (n+1) with
    | false=>rfl
    | true=>exact absurd (vG hb) (by omega)
   rw [b2,aW f x h2];rfl
end Go.Ab

namespace Go.Ab
open Go
variable {B:Base} {c:Cx} {s:St} {a:Act}
end Go.Ab

namespace Go.Ab
open Go Go.RowKit
theorem xN {c:Cx} {us us':List AV} {v:Value} (hl:us'.length=us.length) (hm:∀ (i:Nat) (u u':AV),us[i]?=some u->us'[i]?=some u'->u'.one=true/\∀x,Rep c u x->Rep c u' x) (h:Rep c (.agg us) v):Rep c (.agg us') v:=by
 cases h with
 | agg _ vs h1 h2 h3=>
  have hg:∀ (i:Nat) (u':AV),us'[i]?=some u'->∃u,us[i]?=some u:=λi u' hu=>by
   have:=(List.getElem?_eq_some_iff.1 hu).1
   exact ⟨us[i]'(by omega),List.getElem?_eq_getElem (by omega)⟩
  refine .agg _ vs (by rw [hl];exact h1) (λi u' hu=>?_) (λi u' hu=>?_)
  ·obtain ⟨u,h⟩:=hg i u' hu
   exact (hm i u u' h hu).1
  ·obtain ⟨u,h⟩:=hg i u' hu
   exact (hm i u u' h hu).2 _ (h3 i u h)
def gV (u u':AV):Prop:=u'.one=true/\∀c x,Rep c u x->Rep c u' x
theorem gV.same {u:AV} (h:u.one=true):gV u u:=⟨h,λ_ _ h=>h⟩
inductive TellL:List AV->List AV->Prop
 | nil:TellL [] []
 | cons {u u':AV} {l l':List AV}:gV u u'->TellL l l'->TellL (u::l) (u'::l')
theorem TellL.len {l l':List AV} (h:TellL l l'):l'.length=l.length:=by
 induction h with
 | nil=>rfl
 | cons _ _ ih=>rw [List.length_cons,List.length_cons,ih]
theorem TellL.at {l l':List AV} (h:TellL l l'):∀ (i:Nat) (u u':AV),l[i]?=some u->l'[i]?=some u'->gV u u':=by
 induction h with
 | nil=>intro i u u' h;simp at h
 | cons h1 _ ih=>
  intro i u u' h h'
  cases i with
  | zero=>
   simp only [List.getElem?_cons_zero,Option.some.injEq] at h h'
   rw [<-h,<-h'];exact h1
  | succ i=>
   simp only [List.getElem?_cons_succ] at h h'
   exact ih i u u' h h'
theorem qU {c:Cx} {l l':List AV} {v:Value} (h:TellL l l') (hr:Rep c (.agg l) v):Rep c (.agg l') v:=
 xN h.len (λi u u' hu hu'=>⟨(h.at i u u' hu hu').1,λx hx=>(h.at i u u' hu hu').2 c x hx⟩) hr
theorem si {o:Own} {sz sz':Nat} {get get':Nat->List AV}:gV (.sl o sz 0 get) (.sl .no sz' 0 get'):=⟨rfl,λc x h=>sK h⟩
theorem eK {o:Own} {sz n:Nat} {get get':Nat->List AV} (hg:∀j,j < n->get' j=get j):gV (.sl o sz n get) (.sl .no sz n get'):=⟨rfl,λc x h=>qg h hg⟩
theorem ui {c:Cx} {l l':List AV} {v:Value} (h:TellL l l') (hr:Rep c (.tup l) v):Rep c (.tup l') v:=by
 cases hr with
 | tup _ vs h1 h2=>
  refine .tup _ vs (by rw [h.len];exact h1) λi u' hu=>?_
  have hlt:i < l.length:=by rw [<-h.len];exact (List.getElem?_eq_some_iff.1 hu).1
  have hu0:l[i]?=some l[i]:=List.getElem?_eq_getElem hlt
  exact (h.at i _ u' hu0 hu).2 _ _ (h2 i _ hu0)
end Go.Ab

namespace Go.Ab
open Go Go.RowKit
def cj (w:World):Cx:={w:=w,I:=λb o=>∃v,w.cell? ⟨b,o,none⟩=some v,β:=λ_=>0,κ:=λ_=>none,fr:=λ_=>none}
theorem nv (w:World):Objs (cj w) []:=⟨λ_ _ h=>by simp [alook] at h,λ_ _ _ _ _ h=>by simp [alook] at h,λ_ _ h=>by simp [alook] at h⟩
def tW (w:World):List AV->List Value->Prop
 | [],[]=>True
 | u::l,x::xs=>(Rep (cj w) u x/\u.keys=[])/\tW w l xs
 | _,_=>False
theorem tW.spec {w:World}:∀ {l:List AV} {xs:List Value},tW w l xs->xs.length=l.length/\ah l=[]/\∀ (i:Nat) (u:AV),l[i]?=some u->Rep (cj w) u (xs.getD i undef)
 | [],[],_=>⟨rfl,rfl,by simp⟩
 | u::l,x::xs,h=>by
  obtain ⟨⟨h1,h2⟩,h3⟩:=h
  obtain ⟨e1,e2,e3⟩:=h3.spec
  refine ⟨by simp [e1],by simp [ah,h2,e2],λi v hv=>?_⟩
  cases i with
  | zero=>simp at hv;subst hv;exact h1
  | succ i=>simpa using e3 i v (by simpa using hv)
def u9 (P:Program):Bool:=P.funcs.toList.all λfn=>!(fn.name=="runtime.NumGoroutine")&&(match fn.body with
 | none=>true
 | some c=>codeOk fn.ntmps c)
theorem rr {P:Program} (h:u9 P=true):gv P:=by
 intro f fn hf
 have:=List.all_eq_true.1 h fn (by simpa using Array.mem_of_getElem? hf)
 simp only [Bool.and_eq_true,Bool.not_eq_true'] at this
 refine ⟨this.1,λc hc=>?_⟩
 have h2:=this.2
 rw [hc] at h2;exact h2
end Go.Ab

namespace Go.Ab
open Go
set_option linter.unusedSectionVars false
structure Wd where
 P:Program
 G:Nat->Option (List AV)
class EnvOk (V:Env) (D:Wd):Prop where
 p:V.P=D.P
 g:V.G=D.G
 mixed:V.P.follows .mixedOrders=true
 funcs:gv V.P
class TabI (D:Wd) (T:List Ent):Prop where
 ok:∀e∈T,∀l os,e.pre l os=true->Ct D.P D.G e.f l os (e.ans l os)
theorem TabI.tab {V:Env} (D:Wd) {T:List Ent} [h:EnvOk V D] [t:TabI D T]:rO V T:=by
 unfold rO;rw [h.p,h.g];exact t.ok
def aR {τ:Type} (D:Wd) (f:FuncId) (φ:τ->AV×List AO) (R:List AV->List AO->τ->Prop) (l:List AV) (os:List AO):Prop:=∃x,R l os x/\Ct D.P D.G f l os (φ x)
theorem Ct.objs {P:Program} {G:Nat->Option (List AV)} {f:FuncId} {l:List AV} {os o1 o2:List AO} {r:AV} (h:Ct P G f l os (r,o1)) (hw:ObjsLe (ab o1 aa) (ab o2 aa)):Ct P G f l os (r,o2):=by
 have hlive:∀k,live (ab o1 aa) k->live (ab o2 aa) k:=λk hk=>by
  obtain ⟨o,hk⟩:=hk
  rcases hw.look k with ⟨h1,_⟩ | ⟨_,o',_,h2,_⟩
  ·rw [h1] at hk;cases hk
  ·exact ⟨o',h2⟩
 have hback:∀ {k o'},alook (ab o2 aa) k=some o'->∃o,alook (ab o1 aa) k=some o/\ObjLe o o':=fun {k o'} hk=>by
  rcases hw.look k with ⟨_,h1⟩ | ⟨o,o2,h1,h2,h3⟩
  ·rw [h1] at hk;cases hk
  ·rw [h2] at hk;cases hk;exact ⟨o,h1,h3⟩
 refine ⟨λc0 vs hg ho hs hr hl=>(h.1 c0 vs hg ho hs hr hl).mono ?_,h.2⟩
 rintro e w' ⟨c',x,h1,h2,h3,h4,h5,h6,h7,h8⟩
 refine ⟨c',x,h1,h2,h3,h4,⟨λk o' hk=>?_,λk o' q o3 b hk hq hne hb=>?_,λk o' hk q hq=>?_⟩,h6,λk hk=>hlive k (h7 k hk),λk o' b hk hb=>?_⟩
 ·obtain ⟨o,e1,e2⟩:=hback hk
  exact e2.rep (h5.rep k o e1)
 ·obtain ⟨o,e1,e2⟩:=hback hk
  obtain ⟨o4,e3,e4⟩:=hback hq
  rw [e4.excl]
  rw [e2.excl] at hb
  exact h5.apart k o q o4 b e1 e3 hne hb
 ·obtain ⟨o,e1,e2⟩:=hback hk
  rcases e2.keys with rfl | h0
  ·exact hlive q (h5.closed k _ e1 q hq)
  ·rw [h0] at hq;cases hq
 ·obtain ⟨o,e1,e2⟩:=hback hk
  rw [e2.excl] at hb
  exact h8 k o b e1 hb
def Tr (r r':AV×List AO):Prop:=(r'.1=r.1∨r'.1.keys=[]/\∀c v,Rep c r.1 v->Rep c r'.1 v)/\(r'.2=r.2∨ObjsLe (ab r.2 aa) (ab r'.2 aa))
theorem Tr.refl (r:AV×List AO):Tr r r:=⟨.inl rfl,.inl rfl⟩
theorem Tr.ct {P:Program} {G:Nat->Option (List AV)} {f:FuncId} {l:List AV} {os:List AO} {r r':AV×List AO} (h:Tr r r') (hc:Ct P G f l os r):Ct P G f l os r':=by
 obtain ⟨v,o⟩:=r
 obtain ⟨v',o'⟩:=r'
 obtain ⟨h1,h2⟩:=h
 have hc':Ct P G f l os (v',o):=by
  rcases h1 with h1 | ⟨h1,h3⟩
  ·have h1:v'=v:=h1
   rw [h1];exact hc
  ·exact Ct.res hc h1 h3
 rcases h2 with h2 | h2
 ·have h2:o'=o:=h2
  rw [h2];exact hc'
 ·exact Ct.objs hc' h2
theorem Tr.agg {cs cs':List AV} {os:List AO} (h:TellL cs cs') (hk:ah cs'=[]:=by rfl):Tr (.agg cs,os) (.agg cs',os):=⟨.inr ⟨hk,λ_ _ hr=>qU h hr⟩,.inl rfl⟩
theorem Tr.tup {cs cs':List AV} {os:List AO} (h:TellL cs cs') (hk:ah cs'=[]:=by rfl):Tr (.tup cs,os) (.tup cs',os):=⟨.inr ⟨hk,λ_ _ hr=>ui h hr⟩,.inl rfl⟩
theorem Tr.one {u u':AV} {os:List AO} (h:gV u u') (hk:u'.keys=[]:=by rfl):Tr (u,os) (u',os):=⟨.inr ⟨hk,λ_ _ hr=>h.2 _ _ hr⟩,.inl rfl⟩
def Run {τ:Type} (Post:τ->Prop) (φ:τ->AV×List AO) (e:Res):Prop:=∃x r,Post x/\Tr r (φ x)/\e=some r
section
variable {τ:Type} {Post:τ->Prop} {φ:τ->AV×List AO}
theorem Run.n {c:Bool} {a:Res} (h:c=true) (h1:Run Post φ a):Run Post φ (cond c a none):=by subst h;exact h1
theorem Run.nn {c:Bool} {a:Res} (h:c=false) (h1:Run Post φ a):Run Post φ (cond c none a):=by subst h;exact h1
theorem Run.b {a b:Res} (c:Bool) (h1:c=true->Run Post φ a) (h2:c=false->Run Post φ b):Run Post φ (cond c a b):=cx (Q:=Run Post φ) h1 h2
theorem Run.r (x:τ) (h:Post x):Run Post φ (some (φ x)):=⟨x,_,h,Tr.refl _,rfl⟩
theorem Run.t (x:τ) {r:AV×List AO} (h:Post x) (ht:Tr r (φ x)):Run Post φ (some r):=⟨x,r,h,ht,rfl⟩
theorem Run.lp {α:Type} {g:St->Bool} {w:St->α} {s:St} {Q:α->Prop} {T:α->Res} (h:bq g w s Q) (k:∀t,Q t->Run Post φ (T t)):Run Post φ (cond (g s) (T (w s)) none):=Run.n h.1 (k _ h.2)
end
section
variable {τ:Type} [Inhabited τ] (D:Wd) (f:FuncId) (φ:τ->AV×List AO) (R:List AV->List AO->τ->Prop)
open Classical in
noncomputable def gR (l:List AV) (os:List AO):Bool:=decide (aR D f φ R l os)
open Classical in
noncomputable def wR (l:List AV) (os:List AO):τ:=if h:aR D f φ R l os then h.choose else default
noncomputable def bN:Ent:=mkE f (gR D f φ R) (wR D f φ R) φ
end
section
variable {τ σ:Type} [Inhabited σ] {D:Wd} {f:FuncId} {φ:τ->AV×List AO} {ψ:σ->AV×List AO} {R:List AV->List AO->σ->Prop} {Post:τ->Prop} {l:List AV} {os:List AO}
open Classical in
theorem aR.at (h:aR D f ψ R l os):gR D f ψ R l os=true/\R l os (wR D f ψ R l os)/\Ct D.P D.G f l os (ψ (wR D f ψ R l os)):=by
 refine ⟨decide_eq_true h,?_⟩
 unfold wR
 rw [dif_pos h]
 exact h.choose_spec
instance tabI_nil:TabI D []:=⟨λ_ h=>(List.not_mem_nil h).elim⟩
open Classical in
instance tabI_cons {T:List Ent} [t:TabI D T]:TabI D (bN D f ψ R::T):=⟨λe he l os hp=>by
 rcases List.mem_cons.1 he with rfl | he
 ·exact (aR.at (of_decide_eq_true hp)).2.2
 ·exact t.ok e he l os hp⟩
theorem Run.call {T:σ->Res} (h:aR D f ψ R l os) (k:∀t,R l os t->Run Post φ (T t)):Run Post φ (cond (gR D f ψ R l os) (T (wR D f ψ R l os)) none):=Run.n h.at.1 (k _ h.at.2.1)
theorem aR.mono {R':List AV->List AO->σ->Prop} (h:aR D f ψ R l os) (hm:∀x,R l os x->R' l os x):aR D f ψ R' l os:=by
 obtain ⟨x,h1,h2⟩:=h
 exact ⟨x,hm x h1,h2⟩
end
def runK (k:Nat) (X:Cfg) (f:FuncId) (l:List AV) (os:List AO):Res:=
 match k with
 | 0=>sI X 9 f l os
 | 1=>sG X 9 f l os
 | _=>sF X 9 f l os
section
variable {τ:Type} {V:Env} {D:Wd} {f:FuncId} {φ:τ->AV×List AO} {R:List AV->List AO->τ->Prop} {l:List AV} {os:List AO}
def vm (X:Cfg) (f:FuncId) (L:List (List Nat×Orc)):Prop:=∀e∈L,aE X f e.1 e.2
theorem bK {X:Cfg}:vm X f []:=λ_ h=>(List.not_mem_nil h).elim
theorem aK {X:Cfg} {p:List Nat} {g:Orc} {r:List (List Nat×Orc)} (h:aE X f p g) (hr:vm X f r):vm X f ((p,g)::r):=nT h hr
def vl (W:List (List Nat×Vw)):Prop:=∀e∈W,lu e.2
theorem bI:vl []:=λ_ h=>(List.not_mem_nil h).elim
theorem lK {p:List Nat} {g:Vw} {r:List (List Nat×Vw)} (h:lu g) (hr:vl r):vl ((p,g)::r):=λx hx=>by
 rcases List.mem_cons.1 hx with rfl | hx
 ·exact h
 ·exact hr x hx
theorem iU [h:EnvOk V D] (k:Nat) {d:Nat} {T:List Ent} [TabI D T] {L:List (List Nat×Orc)} {W:List (List Nat×Vw)} (hL:vm (V.run T d [] L W f) f L) (hW:vl W) {e:Res} (h1:Run (R l os) φ e) (he:runK k (V.run T d [] L W f) f l os=e):aR D f φ R l os:=by
 obtain ⟨x,r,hx,ht,ex⟩:=h1
 refine ⟨x,hx,ht.ct ?_⟩
 rw [<-h.p,<-h.g]
 rw [ex] at he
 match k with
 | 0=>exact tP h.mixed h.funcs (TabI.tab D) (λ_ h=>(List.not_mem_nil h).elim) hL hW he
 | 1=>exact xE h.mixed h.funcs (TabI.tab D) hL hW he
 | k+2=>exact xD h.mixed h.funcs (TabI.tab D) hL hW he
theorem lx [h:EnvOk V D] (T:List Ent) [TabI D T] (d:Nat) {e:Res} (h1:Run (R l os) φ e) (he:sI (V.run T d [] [] [] f) 9 f l os=e):aR D f φ R l os:=iU (V:=V) 0 bK bI h1 he
theorem lb [h:EnvOk V D] (T:List Ent) [TabI D T] (d:Nat) {p:List Nat} {g:Orc} (hl:∀L,aE (V.run T d [] L [] f) f p g) {e:Res} (h1:Run (R l os) φ e) (he:sI (V.run T d [] [(p,g)] [] f) 9 f l os=e):aR D f φ R l os:=iU (V:=V) 0 (aK (hl _) bK) bI h1 he
end
section
variable {α τ ι:Type}
def qt:Code->Bool
 | .loop _=>true
 | _=>false
variable {S:α->St} {Inv:α->Prop} {μ:α->Nat} {out:τ->(Ex->St->Res)->Res} {Post:α->τ->Prop} {v:α}
theorem RT.call {σ:Type} [Inhabited σ] {D:Wd} {f:FuncId} {ψ:σ->AV×List AO} {R:List AV->List AO->σ->Prop} {l:List AV} {os:List AO} {T:σ->ι->(Ex->St->Res)->(St->Res)->Res} (h:aR D f ψ R l os) (k:∀t,R l os t->RT S Inv μ out Post v (T t)) :
  RT S Inv μ out Post v (λi k kn=>cond (gR D f ψ R l os) (T (wR D f ψ R l os) i k kn) none):=RT.t h.at.1 (k _ h.at.2.1)
theorem RT.lp {β:Type} {g:St->Bool} {w:St->β} {s:St} {Q:β->Prop} {T:β->ι->(Ex->St->Res)->(St->Res)->Res} (h:bq g w s Q) (k:∀t,Q t->RT S Inv μ out Post v (T t)) :
  RT S Inv μ out Post v (λi k kn=>cond (g s) (T (w s) i k kn) none):=RT.t h.1 (k _ h.2)
theorem RT.go {Post:τ->Prop} (s:St) (v':α) (h:Inv v') (hm:μ v' < μ v) (hs:s=S v'):RT S Inv μ out (λ_ o=>Post o) v (λ(_:ι) (_:Ex->St->Res) (kn:St->Res)=>kn s):=RT.nx s v' h hm (λ_ h=>h) hs
theorem RT.to {Post:τ->Prop} (v':α) (h:Inv v') (hm:μ v' < μ v):RT S Inv μ out (λ_ o=>Post o) v (λ(_:ι) (_:Ex->St->Res) (kn:St->Res)=>kn (S v')):=RT.go _ v' h hm rfl
theorem aQ [Inhabited τ] {V:Env} {T:List Ent} {d:Nat} {Lf:ι->List (List Nat×Orc)} {W:List (List Nat×Vw)} {f:FuncId} {p:List Nat} (S:α->St) (Inv:α->Prop) (μ:α->Nat) (out:τ->(Ex->St->Res)->Res) (Post:τ->Prop) (hb:qt (cY (bt V.P f) p)=true)
  {e:α->ι->(Ex->St->Res)->(St->Res)->Res} (h1:∀v,Inv v->RT S Inv μ out (λ_ o=>Post o) v (e v)) (he:∀v i k kn,cW (V.run T d [] (Lf i) W f) f 9 p (S v) kn k=e v i k kn) :
  ∃ (u:St->Bool) (w:St->τ),(∀v,Inv v->bq u w (S v) Post)/\∀i,aE (V.run T d [] (Lf i) W f) f p (mkO u w out):=by
 obtain ⟨b,hb⟩:∃b,cY (bt V.P f) p=.loop b:=by
  cases hc:cY (bt V.P f) p with
  | loop b=>exact ⟨b,rfl⟩
  | _=>rw [hc] at hb;cases hb
 obtain ⟨w,hw,hl⟩:=mF (Xf:=λi=>V.run T d [] (Lf i) W f) (f:=f) (p:=p) (b:=b) S Inv μ out (λ_ o=>Post o) (λ_=>hb) 9 λv hv=>RT.eq (λi k kn=>he v i k kn) (h1 v hv)
 exact ⟨pq S Inv,uh S Inv w,λv hv=>⟨kr hv,iv (Post:=λ_ o=>Post o) hw (λ_ _ _ _ h=>h) hv⟩,hl⟩
end
def AW (l:List (List UInt8)):AV:=.sl .no 1 l.length λj=>[.str (l.getD j [])]
mutual
def dcells:DataW Unit->List AV
 | .lit (.int k n)=>[.int k n]
 | .lit (.string s)=>[.str s]
 | .slice es _=>[AW (dstrs es)]
 | .agg ps=>tO ps
 | _=>[]
def tO:List (DataW Unit)->List AV
 | []=>[]
 | d::r=>dcells d++tO r
def dstrs:List (DataW Unit)->List (List UInt8)
 | []=>[]
 | d::r=>dstr d++dstrs r
def dstr:DataW Unit->List (List UInt8)
 | .lit (.string s)=>[s]
 | _=>[]
end
def pn (n:Nat):List Nat:=go 60 n []
where go:Nat->Nat->List Nat->List Nat
 | 0,_,r=>r
 | k+1,n,r=>cond (Nat.ble n 1) r (go k (n / 2) (n % 2::r))
def tn (n:Nat) (k o:List Nat):List Nat×Hint:=tr (pn n) k o
def onD (l:List Nat) (o:Oper):Bool:=match o.dst with
 | some d=>l.any (Nat.beq d)
 | none=>false
end Go.Ab
