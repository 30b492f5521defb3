/- What an operation of a region depends on: calls, guards. A region whose order is drawn: every order leaves what the order of the text leaves. A call that is handed objects in which no keys stand: it asks for those alone, and it turns those alone. A region whose order is drawn: the order does not count. A region whose order is drawn, sound. The head of a loop. Code, sound. The evaluator, sound: what E answers is what the model's call comes to. Contracts: a function's run with its calls and loops known beforehand. Loops that look at one place after another and stop at the first that says so. Contracts for one list of arguments. Contracts and loops of which only some answer is told. Rounds of loops and runs, followed down their conditions. Rounds of loops and runs whose tree of conditions is read off the proof: the kernel alone holds it against the run. A function that hands back a pointer to a new object: its contract by a run. A function that hands back new objects: its contract by a run. Functions that hand back slices that may still be stored into. A view of a state in which less is told: variables' cells told in other words. A view in which a slice that was stored into is read al -/
import Derived.Test.YtkmecnnkfpfjiaaGreatDoorX2
import Derived.Scope
import Derived.KernelRfl
set_option linter.unusedVariables false
set_option linter.unusedSimpArgs false
namespace Go.Ab
open Go Go.RowKit
mutual
theorem J1:∀ (v:AV),v.keys=[]->v.shed=v
 | .sl o sz n get,h=>by cases o <;> simp_all [AV.keys,AV.shed]
 | .agg cs,h=>by simp only [AV.shed];rw [sV cs (by simpa [AV.keys] using h)]
 | .tup vs,h=>by simp only [AV.shed];rw [sV vs (by simpa [AV.keys] using h)]
 | .ref ..,_ | .aref ..,_ | .msl ..,_ | .fn ..,_ | .bool _,_ | .int ..,_ | .str _,_ | .nilp,_ | .nilf,_ | .nilm,_ | .nili,_ | .nni,_ | .num _,_ | .undef,_ | .arr ..,_ | .elt ..,_ | .grd ..,_=>rfl
theorem sV:∀ (l:List AV),ak l=[]->bM l=l
 | [],_=>rfl
 | v::r,h=>by
  simp only [ak,List.append_eq_nil_iff] at h
  simp only [bM];rw [J1 v h.1,sV r h.2]
end
section
variable {s1 s2:St} {G:Nat->Option (List AV)} {ch:im}
theorem k8 {f:Operand} {args:Array Operand} {ts:Array TypeId} (h:je s1 s2 (ej (Op.call {callee:=.value f,args,argTypes:=ts}).operands.toList)) :
  gD ⟨s1,G,ch⟩ {callee:=.value f,args,argTypes:=ts}=gD ⟨s2,G,ch⟩ {callee:=.value f,args,argTypes:=ts}:=by
 simp only [gD]
 rw [gr (x:=f) (h.sub (by simp [Op.operands,Call.operands])),gu (l:=args.toList) (h.sub (by simp +contextual [Op.operands,Call.operands]))]
theorem ug {X:Cfg} {s:St} {o:Oper} (h1:eE o.op=false) (h2:cQ o.op=false):ik X s o=(cm X.P ⟨s,X.G,[]⟩ o.op).map λr=>(r.1,r.2,s.objs):=by
 cases hop:o.op with
 | call q=>
  obtain ⟨callee,args,ts⟩:=q
  cases callee with
  | builtin b=>cases b <;> first | (simp [hop,eE] at h1;done) | simp only [ik,hop]
  | value f=>simp [hop,cQ] at h2
  | invoke r m=>simp only [ik,hop]
 | alloc _=>simp [hop,eE] at h1
 | box _ _=>simp [hop,eE] at h1
 | store _ _ _=>simp [hop,eE] at h1
 | range _ _=>simp [hop,eE] at h1
 | next _ _=>simp [hop,eE] at h1
 | makeSlice _ _ _=>simp [hop,eE] at h1
 | makeMap t r=>cases r with | none=>simp [hop,eE] at h1 | some r=>simp only [ik,hop]
 | lookup _ _ _ _=>simp [hop,eE] at h1
 | mapUpdate _ _ _ _=>simp [hop,eE] at h1
 | _=>simp only [ik,hop]
def kf (O1 O2:List (Nat×AO)):Prop:=∀k,alook O1 k=alook O2 k
theorem kf.put {O1 O2:List (Nat×AO)} (h:kf O1 O2) (k:Nat) (o:AO):kf (aput O1 k o) (aput O2 k o):=λq=>by rw [aV,aV,h q]
theorem qX {O1 O2:List (Nat×AO)} (h:kf O1 O2) {v v':AV} {O2':List (Nat×AO)} (he:bJ O2 v=some (v',O2')):∃O1',bJ O1 v=some (v',O1')/\kf O1' O2':=by
 cases v with
 | msl k sz off n=>
  simp only [bJ] at he ⊢
  rw [h k]
  cases ho:alook O2 k with
  | none=>simp [ho] at he
  | some ob=>
   cases ob with
   | arr sz' m get=>
    simp only [ho] at he ⊢
    obtain ⟨hb,he⟩:=al he
    simp only [Option.some.injEq,Prod.mk.injEq] at he
    obtain ⟨rfl,rfl⟩:=he
    exact ⟨_,by rw [hb];rfl,h.put _ _⟩
   | frz sz' m get=>
    simp only [ho] at he ⊢
    obtain ⟨hb,he⟩:=al he
    simp only [Option.some.injEq,Prod.mk.injEq] at he
    obtain ⟨rfl,rfl⟩:=he
    exact ⟨_,by rw [hb];rfl,h⟩
   | _=>simp [ho] at he
 | gsl k sz n=>
  simp only [bJ] at he ⊢
  rw [h k]
  cases ho:alook O2 k with
  | none=>simp [ho] at he
  | some ob=>
   cases ob with
   | grw sq sz' m get=>
    simp only [ho] at he ⊢
    obtain ⟨hb,he⟩:=al he
    simp only [Option.some.injEq,Prod.mk.injEq] at he
    obtain ⟨rfl,rfl⟩:=he
    exact ⟨_,by rw [hb];rfl,h.put _ _⟩
   | _=>simp [ho] at he
 | _=>simp only [bJ,Option.some.injEq,Prod.mk.injEq] at he ⊢;obtain ⟨rfl,rfl⟩:=he;exact ⟨_,⟨rfl,rfl⟩,h⟩
theorem qU:∀ {l l':List AV} {O1 O2 O2':List (Nat×AO)},kf O1 O2->cX O2 l=some (l',O2')->∃O1',cX O1 l=some (l',O1')/\kf O1' O2'
 | [],l',O1,O2,O2',h,he=>by simp only [cX,Option.some.injEq,Prod.mk.injEq] at he;obtain ⟨rfl,rfl⟩:=he;exact ⟨_,rfl,h⟩
 | v::r,l',O1,O2,O2',h,he=>by
  simp only [cX] at he ⊢
  obtain ⟨⟨v',o1⟩,e1,he⟩:=ag he
  obtain ⟨⟨r',o2⟩,e2,he⟩:=ag he
  simp only [Option.some.injEq,Prod.mk.injEq] at he
  obtain ⟨rfl,rfl⟩:=he
  obtain ⟨p1,g1,g2⟩:=qX h e1
  obtain ⟨p2,g3,g4⟩:=qU g2 e2
  exact ⟨p2,by rw [g1];simp only [Option.bind_some];rw [g3];rfl,g4⟩
theorem zW {O1 O2:List (Nat×AO)} (h:kf O1 O2) {v v':AV} {O2':List (Nat×AO)} (he:eX O2 v=some (v',O2')):∃O1',eX O1 v=some (v',O1')/\kf O1' O2':=by
 cases v with
 | agg cs=>
  simp only [eX] at he ⊢
  obtain ⟨⟨l,o⟩,e1,he⟩:=bz he
  simp only [Prod.mk.injEq] at he
  obtain ⟨rfl,rfl⟩:=he
  obtain ⟨p,g1,g2⟩:=qU h e1
  exact ⟨p,by rw [g1];rfl,g2⟩
 | _=>simp only [eX] at he ⊢;exact qX h he
theorem oO:∀ {l l':List AV} {O1 O2 O2':List (Nat×AO)},kf O1 O2->cg O2 l=some (l',O2')->∃O1',cg O1 l=some (l',O1')/\kf O1' O2'
 | [],l',O1,O2,O2',h,he=>by simp only [cg,Option.some.injEq,Prod.mk.injEq] at he;obtain ⟨rfl,rfl⟩:=he;exact ⟨_,rfl,h⟩
 | v::r,l',O1,O2,O2',h,he=>by
  simp only [cg] at he ⊢
  obtain ⟨⟨v',o1⟩,e1,he⟩:=ag he
  obtain ⟨⟨r',o2⟩,e2,he⟩:=ag he
  simp only [Option.some.injEq,Prod.mk.injEq] at he
  obtain ⟨rfl,rfl⟩:=he
  obtain ⟨p1,g1,g2⟩:=zW h e1
  obtain ⟨p2,g3,g4⟩:=oO g2 e2
  exact ⟨p2,by rw [g1];simp only [Option.bind_some];rw [g3];rfl,g4⟩
theorem lW {O1 O2:List (Nat×AO)} (h:kf O1 O2):∀l,bF O1 l=bF O2 l
 | []=>rfl
 | k::r=>by simp only [bF,h k,lW h r]
theorem qS {O1 O2:List (Nat×AO)} (h:kf O1 O2):∀l,dc O1 l=dc O2 l
 | []=>rfl
 | k::r=>by simp only [dc,h k,qS h r]
theorem qL:∀ {ks:List Nat} {l:List AO} {O1 O2:List (Nat×AO)},kf O1 O2->kf (bZ O1 ks l) (bZ O2 ks l)
 | [],l,O1,O2,h=>by cases l <;> exact h
 | k::r,[],O1,O2,h=>h
 | k::r,o::l,O1,O2,h=>qL (ks:=r) (l:=l) (h.put k o)
theorem B5 {X:Cfg} {O1 O2:List (Nat×AO)} (h:kf O1 O2) {f:FuncId} {l:List AV} {b:Bool} {v:AV} {O2':List (Nat×AO)} (he:mf X O2 f l=some (b,v,O2')):∃O1',mf X O1 f l=some (b,v,O1')/\kf O1' O2':=by
 unfold mf at he ⊢
 obtain ⟨⟨l1,o1⟩,h1,he⟩:=ag he
 have hfz:∃p,cond (X.byRef f) (some (l,O1)) (cg O1 l)=some (l1,p)/\kf p o1:=by
  cases hb:X.byRef f with
  | true=>simp only [hb,cond_true,Option.some.injEq,Prod.mk.injEq] at h1;obtain ⟨rfl,rfl⟩:=h1;exact ⟨O1,rfl,h⟩
  | false=>simp only [hb,cond_false] at h1;exact oO h h1
 obtain ⟨p,g1,g2⟩:=hfz
 rw [g1]
 dsimp only [Option.bind_some] at he ⊢
 have e1:ck p (ak (bM l1))=ck o1 (ak (bM l1)):=by simp only [ck,lW g2]
 obtain ⟨hcl,he⟩:=bB he
 obtain ⟨os,hos,he⟩:=ag he
 obtain ⟨⟨r,os'⟩,hcall,he⟩:=ag he
 obtain ⟨hlen,he⟩:=bB he
 dsimp only at hlen he
 simp only [Option.some.injEq,Prod.mk.injEq] at he
 obtain ⟨rfl,rfl,rfl⟩:=he
 refine ⟨bZ p _ _,?_,qL g2⟩
 rw [e1,lW g2,hcl,qS g2,hos]
 simp only [cond_true,Option.bind_some]
 rw [hcall]
 simp only [Option.bind_some,hlen,cond_true]
theorem u9 {X:Cfg} {o:Oper} (h1:cQ o.op=true) (hO:kf s1.objs s2.objs) (h:je s1 s2 (ej o.op.operands.toList)) {b:Bool} {v:AV} {O':List (Nat×AO)} (he:ik X s2 o=some (b,v,O')) :
  ∃O1',ik X s1 o=some (b,v,O1')/\kf O1' O':=by
 cases hop:o.op with
 | call q=>
  obtain ⟨callee,args,ts⟩:=q
  cases callee with
  | value f=>
   rw [hop] at h
   simp only [ik,hop] at he ⊢
   obtain ⟨⟨g,l⟩,e1,he⟩:=ag he
   obtain ⟨p,g1,g2⟩:=B5 hO he
   rw [k8 h,e1]
   exact ⟨p,by simp only [Option.bind_some];rw [g1],g2⟩
  | builtin b=>simp [hop,cQ] at h1
  | invoke r m=>simp [hop,cQ] at h1
 | _=>simp [hop,cQ] at h1
theorem Ag {X:Cfg} {o:Oper} (h1:eE o.op=true) (h:je s1 s2 (ej o.op.operands.toList)) (hK:iK s1 s2 (qA o.dst.toList++bt ⟨s2,X.G,[]⟩ o.op.operands.toList)) {b:Bool} {v:AV} {O':List (Nat×AO)} (he:ik X s2 o=some (b,v,O')) :
  ∃us:List (Nat×AO),(∀p∈us,p.1∈qA o.dst.toList++bt ⟨s2,X.G,[]⟩ o.op.operands.toList)/\O'=Ds s2.objs us/\ik X s1 o=some (b,v,Ds s1.objs us):=by
 suffices hs:(∃q ob,q∈qA o.dst.toList++bt ⟨s2,X.G,[]⟩ o.op.operands.toList/\O'=aput s2.objs q ob/\ik X s1 o=some (b,v,aput s1.objs q ob))∨(∃us:List (Nat×AO),(∀p∈us,p.1∈qA o.dst.toList++bt ⟨s2,X.G,[]⟩ o.op.operands.toList)/\O'=Ds s2.objs us/\ik X s1 o=some (b,v,Ds s1.objs us)) by
  rcases hs with ⟨q,ob,g1,g2,g3⟩ | hs
  ·exact ⟨[(q,ob)],λp hp=>by simp only [List.mem_singleton] at hp;subst hp;exact g1,g2,g3⟩
  ·exact hs
 have E:∀ {x:Operand},x∈o.op.operands.toList->aY ⟨s1,X.G,[]⟩ x=aY ⟨s2,X.G,[]⟩ x:=fun {x} hx=>gr (h.sub (m:=[x]) (by simpa using hx))
 have K:∀ {x:Operand} {v:AV},x∈o.op.operands.toList->aY ⟨s2,X.G,[]⟩ x=some v->∀k∈v.keys,k∈qA o.dst.toList++bt ⟨s2,X.G,[]⟩ o.op.operands.toList:=fun {x v} hx hv k hk=>List.mem_append_right _ (pK hv hx k hk)
 have D:∀d,o.dst=some d->d∈qA o.dst.toList++bt ⟨s2,X.G,[]⟩ o.op.operands.toList:=λd hd=>List.mem_append_left _ (by rw [hd];simp [qA])
 have D':∀d,o.dst=some d->d+500000∈qA o.dst.toList++bt ⟨s2,X.G,[]⟩ o.op.operands.toList:=λd hd=>List.mem_append_left _ (by rw [hd];simp [qA])
 cases hop:o.op with
 | alloc t=>
  simp only [ik,hop] at he ⊢
  cases hdst:o.dst with
  | none=>simp [hdst] at he
  | some d=>
   simp only [hdst] at he ⊢
   rw [hK d (D d hdst)]
   cases hob:s2.obj d with
   | some _=>simp [hob] at he
   | none=>
    simp only [hob] at he ⊢
    obtain ⟨ob,e1,e2⟩:=bz he
    simp only [Prod.mk.injEq] at e2
    obtain ⟨rfl,rfl,rfl⟩:=e2
    exact .inl ⟨d,ob,by simp [qA],rfl,by rw [e1];rfl⟩
 | box t x=>
  have hE:=E (x:=x) (by simp [hop,Op.operands])
  simp only [ik,hop] at he ⊢
  cases hdst:o.dst with
  | none=>simp [hdst] at he
  | some d=>
   simp only [hdst] at he ⊢
   rw [hK d (D d hdst),hE]
   cases hob:s2.obj d with
   | some _=>simp [hob] at he
   | none=>
    simp only [hob] at he ⊢
    obtain ⟨u,e1,he⟩:=ag he
    rw [e1]
    simp only [Option.bind_some]
    cases u with
    | arr sz n get=>
     dsimp only at he ⊢
     obtain ⟨hb,he⟩:=al he
     simp only [Option.some.injEq,Prod.mk.injEq] at he
     obtain ⟨rfl,rfl,rfl⟩:=he
     exact .inl ⟨d,_,by simp [qA],rfl,by rw [hb];rfl⟩
    | _=>
     dsimp only at he ⊢
     obtain ⟨hb,he⟩:=al he
     simp only [Option.some.injEq,Prod.mk.injEq] at he
     obtain ⟨rfl,rfl,rfl⟩:=he
     exact .inl ⟨d,_,by simp [qA],rfl,by rw [hb];rfl⟩
 | range t x=>
  have hE:=E (x:=x) (by simp [hop,Op.operands])
  simp only [ik,hop] at he ⊢
  cases hdst:o.dst with
  | none=>simp [hdst] at he
  | some d=>
   simp only [hdst] at he ⊢
   rw [hK d (D d hdst),hE]
   cases hob:s2.obj d with
   | some _=>simp [hob] at he
   | none=>
    simp only [hob] at he ⊢
    obtain ⟨u,e1,he⟩:=ag he
    rw [e1]
    simp only [Option.bind_some]
    split at he
    ·rename_i bs ht
     simp only [Option.some.injEq,Prod.mk.injEq] at he
     obtain ⟨rfl,rfl,rfl⟩:=he
     exact .inl ⟨d,_,by simp [qA],rfl,rfl⟩
    ·simp at he
 | next x isS=>
  have hE:=E (x:=x) (by simp [hop,Op.operands])
  have hKx:∀ {v:AV},aY ⟨s2,X.G,[]⟩ x=some v->∀k∈v.keys,k∈qA o.dst.toList++bt ⟨s2,X.G,[]⟩ o.op.operands.toList:=fun {v}=>K (x:=x) (v:=v) (by simp [hop,Op.operands])
  rw [hop] at hK hKx
  simp only [ik,hop] at he ⊢
  rw [hE]
  obtain ⟨u,e1,he'⟩:=ag he
  clear he
  have hku:=hKx e1
  rw [e1]
  simp only [Option.bind_some]
  split at he'
  ·rename_i q
   have he:=he'
   clear he'
   have hq:=hku q (by simp [AV.keys])
   split at he
   ·rename_i bs pos hob
    simp only [Option.some.injEq,Prod.mk.injEq] at he
    obtain ⟨rfl,rfl,rfl⟩:=he
    exact .inl ⟨q,_,hq,rfl,by simp only [hK q hq,hob]⟩
   ·simp at he
  ·simp at he'
 | store t x y=>
  have hE:=E (x:=x) (by simp [hop,Op.operands])
  have hE':=E (x:=y) (by simp [hop,Op.operands])
  have hKx:∀ {v:AV},aY ⟨s2,X.G,[]⟩ x=some v->∀k∈v.keys,k∈qA o.dst.toList++bt ⟨s2,X.G,[]⟩ o.op.operands.toList:=fun {v}=>K (x:=x) (v:=v) (by simp [hop,Op.operands])
  simp only [ik,hop] at he ⊢
  rw [hE,hE']
  obtain ⟨u,e1,he⟩:=ag he
  obtain ⟨q,e2,he⟩:=ag he
  obtain ⟨⟨b',k,ob⟩,e3,he⟩:=bz he
  simp only [Prod.mk.injEq] at he
  obtain ⟨rfl,rfl,rfl⟩:=he
  rw [e1,e2]
  simp only [Option.bind_some]
  have hku:=hKx e1
  rw [yL (λk hk=>hK k (hku k hk)),e3]
  refine .inl ⟨k,ob,?_,rfl,rfl⟩
  have hk:k∈u.keys:=by
   cases u with
   | ref k' off=>
    have:k=k':=by
     simp only [iU] at e3
     cases ho:s2.obj k' with
     | none=>simp [ho] at e3
     | some o'=>
      cases o' with
      | cells cs=>
       simp only [ho] at e3
       obtain ⟨_,e3⟩:=al e3
       obtain ⟨_,_,e3⟩:=bz e3
       simp only [Prod.mk.injEq] at e3;exact e3.2.1.symm
      | arr sz n get=>
       simp only [ho] at e3
       cases q <;> simp only [] at e3 <;> first
        | (cases e3;done)
        | (obtain ⟨_,e3⟩:=al e3;simp only [Option.some.injEq,Prod.mk.injEq] at e3;exact e3.2.1.symm)
      | _=>simp [ho] at e3
    simp [AV.keys,this]
   | aref k' sz' i off=>
    have:k=k':=by
     simp only [iU] at e3
     cases ho:s2.obj k' with
     | none=>simp [ho] at e3
     | some o'=>
      cases o' with
      | arr sz n get=>
       simp only [ho] at e3
       obtain ⟨_,e3⟩:=al e3
       obtain ⟨_,_,e3⟩:=bz e3
       simp only [Prod.mk.injEq] at e3;exact e3.2.1.symm
      | _=>simp [ho] at e3
    simp [AV.keys,this]
   | gref k' sz' n' i off=>
    have:k=k':=by
     simp only [iU] at e3
     cases ho:s2.obj k' with
     | none=>simp [ho] at e3
     | some o'=>
      cases o' with
      | grw sq sz n get=>
       simp only [ho] at e3
       obtain ⟨_,e3⟩:=al e3
       obtain ⟨_,_,e3⟩:=bz e3
       simp only [Prod.mk.injEq] at e3;exact e3.2.1.symm
      | _=>simp [ho] at e3
    simp [AV.keys,this]
   | _=>simp [iU] at e3
  rw [<-hop];exact hku k hk
 | makeSlice t x y=>
  have hE:=E (x:=x) (by simp [hop,Op.operands])
  have hE':=E (x:=y) (by simp [hop,Op.operands])
  simp only [ik,hop] at he ⊢
  rw [hE,hE']
  cases hdst:o.dst with
  | none=>simp [hdst] at he
  | some d=>
   simp only [hdst] at he ⊢
   obtain ⟨u,e1,he⟩:=ag he
   obtain ⟨q,e2,he⟩:=ag he
   obtain ⟨⟨b',v',k,ob⟩,e3,he⟩:=bz he
   simp only [Prod.mk.injEq] at he
   obtain ⟨rfl,rfl,rfl⟩:=he
   rw [e1,e2]
   simp only [Option.bind_some]
   rw [rH (hK d (D d hdst)),e3]
   have hk:k=d:=by
    clear he hE hE' e1 e2
    unfold gk at e3
    split at e3
    ·rename_i e l m hu
     split at e3
     ·obtain ⟨_,e3⟩:=al e3
      generalize Mq x y=same at e3
      cases same with
      | true=>simp only [cond_true,Option.some.injEq,Prod.mk.injEq] at e3;exact e3.2.2.1.symm
      | false=>simp only [cond_false,Option.some.injEq,Prod.mk.injEq] at e3;exact e3.2.2.1.symm
     ·cases e3
    ·cases e3
   exact .inl ⟨k,ob,by simp [hk,qA],rfl,rfl⟩
 | makeMap t r=>
  cases r with
  | some r=>simp [hop,eE] at h1
  | none=>
   simp only [ik,hop] at he ⊢
   cases hdst:o.dst with
   | none=>simp [hdst] at he
   | some d=>
    simp only [hdst] at he ⊢
    rw [hK d (D d hdst)]
    cases hob:s2.obj d with
    | some _=>simp [hob] at he
    | none=>
     simp only [hob] at he ⊢
     split at he
     ·obtain ⟨z,e0,he⟩:=ag he
      obtain ⟨q,e1,he⟩:=bz he
      simp only [Prod.mk.injEq] at he
      obtain ⟨rfl,rfl,rfl⟩:=he
      exact .inl ⟨d,_,by simp [qA],rfl,by rw [e0,Option.bind_some,e1];rfl⟩
     ·simp at he
 | lookup t x i ok=>
  have hE:=E (x:=x) (by simp [hop,Op.operands])
  have hE':=E (x:=i) (by simp [hop,Op.operands])
  have hKx:∀ {v:AV},aY ⟨s2,X.G,[]⟩ x=some v->∀k∈v.keys,k∈qA o.dst.toList++bt ⟨s2,X.G,[]⟩ o.op.operands.toList:=fun {v}=>K (x:=x) (v:=v) (by simp [hop,Op.operands])
  rw [hop] at hK hKx
  simp only [ik,hop] at he ⊢
  rw [hE,hE']
  obtain ⟨u,e1,he⟩:=ag he
  obtain ⟨q,e2,he⟩:=ag he
  obtain ⟨r,e3,he⟩:=bz he
  simp only [Prod.mk.injEq] at he
  obtain ⟨rfl,rfl,rfl⟩:=he
  have hku:=hKx e1
  obtain ⟨k,ob,hk,hob⟩:=HQ e3
  refine .inl ⟨k,ob,hku k hk,(uD hob).symm,?_⟩
  rw [e1,e2]
  simp only [Option.bind_some]
  rw [BC (λk hk=>hK k (hku k hk)),e3]
  have h1o:alook s1.objs k=some ob:=(hK k (hku k hk)).trans hob
  rw [uD h1o];rfl
 | mapUpdate t x i w=>
  have hE:=E (x:=x) (by simp [hop,Op.operands])
  have hE':=E (x:=i) (by simp [hop,Op.operands])
  have hE2:=E (x:=w) (by simp [hop,Op.operands])
  have hKx:∀ {v:AV},aY ⟨s2,X.G,[]⟩ x=some v->∀k∈v.keys,k∈qA o.dst.toList++bt ⟨s2,X.G,[]⟩ o.op.operands.toList:=fun {v}=>K (x:=x) (v:=v) (by simp [hop,Op.operands])
  rw [hop] at hK hKx
  simp only [ik,hop] at he ⊢
  rw [hE,hE',hE2]
  obtain ⟨u,e1,he⟩:=ag he
  obtain ⟨q,e2,he⟩:=ag he
  obtain ⟨r,e4,he⟩:=ag he
  obtain ⟨⟨k,ob⟩,e3,he⟩:=bz he
  simp only [Prod.mk.injEq] at he
  obtain ⟨rfl,rfl,rfl⟩:=he
  have hku:=hKx e1
  refine .inl ⟨k,ob,hku k (Bv e3),rfl,?_⟩
  rw [e1,e2,e4]
  simp only [Option.bind_some]
  rw [xz (λk hk=>hK k (hku k hk)),e3];rfl
 | call q=>
  obtain ⟨callee,args,ts⟩:=q
  cases callee with
  | builtin bi=>
   cases bi with
   | append=>
    have hl:eL ⟨s1,X.G,[]⟩ args.toList=eL ⟨s2,X.G,[]⟩ args.toList:=gu (h.sub (by rw [hop];simp +contextual [Op.operands,Call.operands]))
    simp only [ik,hop] at he ⊢
    split at he
    ·rename_i d t t' hdst hts
     obtain ⟨hb,he⟩:=al he
     obtain ⟨l,e1,he⟩:=ag he
     rw [hl,e1,hb]
     have hkeys':∀k∈ak l,k∈qA o.dst.toList++bt ⟨s2,X.G,[]⟩ o.op.operands.toList:=by
       have aux:∀ (as:List Operand) (l:List AV),eL ⟨s2,X.G,[]⟩ as=some l->∀k∈ak l,k∈bt ⟨s2,X.G,[]⟩ as:=by
        intro as
        induction as with
        | nil=>intro l hl k hk;simp [eL] at hl;subst hl;simp [ak] at hk
        | cons x r ih=>
         intro l hl k hk
         simp only [eL] at hl
         obtain ⟨v,g1,hl⟩:=ag hl
         obtain ⟨l',g2,hl⟩:=bz hl
         subst hl
         simp only [ak,List.mem_append] at hk
         simp only [bt,g1,List.mem_append]
         rcases hk with hk | hk
         ·exact .inl hk
         ·exact .inr (ih l' g2 k hk)
       intro k hk
       have:=aux _ _ e1 k hk
       refine List.mem_append_right _ ?_
       rw [hop]
       simpa [Op.operands,Call.operands] using this
     split at he
     ·rename_i x bs
      have hkeys:∀k∈x.keys,k∈qA o.dst.toList++bt ⟨s2,X.G,[]⟩ o.op.operands.toList:=λk hk=>hkeys' k (by simp only [ak,List.mem_append];exact .inl hk)
      obtain ⟨hst,he⟩:=al he
      obtain ⟨⟨b',v',k,ob⟩,e3,he⟩:=bz he
      simp only [Prod.mk.injEq] at he
      obtain ⟨rfl,rfl,rfl⟩:=he
      simp only [aj,cond_true,Option.bind_some,hst]
      rw [yd (hK d (D d hdst)) (λk hk=>hK k (hkeys k hk)),e3]
      refine .inl ⟨k,ob,?_,rfl,rfl⟩
      rw [<-hop]
      rcases Cp e3 with rfl | hk
      ·exact List.mem_append_left _ (by simp [hdst,qA])
      ·exact hkeys k hk
     ·rename_i x y _
      have hkeys:∀k∈ak [x,y],k∈qA o.dst.toList++bt ⟨s2,X.G,[]⟩ o.op.operands.toList:=hkeys'
      obtain ⟨hb',he2⟩:=al he
      clear he
      have he:=he2
      have hsx:iK s1 s2 x.keys:=λk hk=>hK k (hkeys k (by simp only [ak,List.mem_append];exact .inl hk))
      have hsy:iK s1 s2 y.keys:=λk hk=>hK k (hkeys k (by simp only [ak,List.mem_append];exact .inr (.inl hk)))
      simp only [aj,cond_true,Option.bind_some,hb']
      cases hgs:H4 x with
      | true=>
       rw [hgs,cond_true] at he
       obtain ⟨⟨b',v',us⟩,e3,he⟩:=bz he
       simp only [Prod.mk.injEq] at he
       obtain ⟨rfl,rfl,rfl⟩:=he
       rw [cond_true,yh (hK d (D d hdst)) (hK (d+500000) (D' d hdst)) hsx hsy,e3]
       refine .inr ⟨us,λp hp=>?_,rfl,rfl⟩
       rw [<-hop]
       rcases Ay e3 p hp with hk | hk | hk
       ·exact hkeys _ (by simp only [ak,List.mem_append];exact .inl hk)
       ·rw [hk];exact D d hdst
       ·rw [hk];exact D' d hdst
      | false=>
      rw [hgs,cond_false] at he
      obtain ⟨⟨b',v',k,ob⟩,e3,he⟩:=bz he
      simp only [Prod.mk.injEq] at he
      obtain ⟨rfl,rfl,rfl⟩:=he
      rw [cond_false,yj (hK d (D d hdst)) hsx hsy,yf (hK d (D d hdst)) hsx hsy,e3]
      refine .inl ⟨k,ob,?_,rfl,rfl⟩
      have hk:k=d∨k∈x.keys:=by
       cases hgr:(Ow x||X.grow o) with
       | true=>
        rw [hgr,cond_true] at e3
        unfold nZ at e3
        split at e3
        ·split at e3
         ·rename_i sz z inf sz2 m get2 _ _ _ _
          obtain ⟨_,e3⟩:=al e3
          split at e3
          ·obtain ⟨_,e3⟩:=al e3
           split at e3
           ·simp only [Option.some.injEq,Prod.mk.injEq] at e3;exact .inl e3.2.2.1.symm
           ·cases e3
          ·obtain ⟨_,e3⟩:=al e3
           split at e3
           ·obtain ⟨_,e3⟩:=al e3
            simp only [Option.some.injEq,Prod.mk.injEq] at e3;exact .inr (by simp [AV.keys,e3.2.2.1])
           ·cases e3
          ·cases e3
         ·cases e3
        ·cases e3
       | false=>
        rw [hgr,cond_false] at e3
        unfold n5 at e3
        split at e3
        ·split at e3
         ·rename_i ow sz0 n get sz2 m get2 _ _ _ _
          obtain ⟨_,e3⟩:=al e3
          cases ow with
          | no=>cases e3
          | fit=>
           simp only [] at e3
           split at e3
           ·simp only [Option.some.injEq,Prod.mk.injEq] at e3;exact .inl e3.2.2.1.symm
           ·cases e3
          | key k'=>
           simp only [] at e3
           split at e3
           ·obtain ⟨_,e3⟩:=al e3
            simp only [Option.some.injEq,Prod.mk.injEq] at e3;exact .inr (by simp [AV.keys,e3.2.2.1])
           ·cases e3
         ·cases e3
        ·cases e3
      rw [<-hop]
      rcases hk with rfl | hk
      ·exact List.mem_append_left _ (by simp [hdst,qA])
      ·exact hkeys k (by simp only [ak,List.mem_append];exact .inl hk)
     ·cases he
    ·cases he
   | _=>simp [hop,eE] at h1
  | _=>simp [hop,eE] at h1
 | _=>simp [hop,eE] at h1
theorem o7:∀ {n t:Nat} {w:Bool},je s1 s2 ((cq s2 n t w).map (·.1))->cq s1 n t w=cq s2 n t w
 | 0,_,_,_=>rfl
 | n+1,t,w,h=>by
  have ht:s1.get t=s2.get t:=h t (by simp [cq])
  simp only [cq] at h ⊢
  rw [ht]
  cases hg:s2.get t with
  | none=>rfl
  | some u=>
   cases u with
   | grd tc wc u'=>
    simp only [hg] at h ⊢
    rw [o7 (n:=n) λq hq=>h q (by simp only [List.map_cons,List.mem_cons];exact .inr hq)]
   | _=>rfl
theorem qR:∀ {ch:im},je s1 s2 (ch.map (·.1))->j3 s1 ch=j3 s2 ch
 | [],_=>rfl
 | (t,w)::r,h=>by
  have ht:s1.get t=s2.get t:=h t (by simp)
  simp only [j3]
  rw [ht,qR (ch:=r) λq hq=>h q (by simp only [List.map_cons,List.mem_cons];exact .inr hq)]
theorem yI {O1 O2:List (Nat×AO)}:∀ {l:List Nat},(∀k∈l,alook O1 k=alook O2 k)->sQ l (AD O2)=true->sQ l (AD O1)=true
 | [],_,_=>rfl
 | k::r,h,he=>by
  simp only [sQ,Bool.and_eq_true] at he ⊢
  refine ⟨any_beq.2 (HR ?_),yI (λq hq=>h q (List.mem_cons_of_mem _ hq)) he.2⟩
  obtain ⟨o,ho⟩:=oZ (any_beq.1 he.1)
  exact ⟨o,by rw [h k (by simp)];exact ho⟩
theorem Fb {X:Cfg} {o:Oper} {t:Nat} {w:Bool} {b:Bool} {v:AV} (he:wa X s2 o t w=some (b,v)) (h:je s1 s2 ((cq s2 4 t w).map (·.1)++ej o.op.operands.toList))
  (ho:iK s1 s2 (cond (kG o.op) (bt ⟨s2,X.G,cq s2 4 t w⟩ o.op.operands.toList) []++v.keys)):wa X s1 o t w=some (b,v):=by
 have hc:je s1 s2 ((cq s2 4 t w).map (·.1)):=λq hq=>h q (List.mem_append_left _ hq)
 have hop':je s1 s2 (ej o.op.operands.toList):=λq hq=>h q (List.mem_append_right _ hq)
 have e1:=o7 hc
 have e2:=qR hc
 have hp:(j3 s2 (cq s2 4 t w)).bind (λg=>(cm X.P ⟨s2,X.G,cq s2 4 t w⟩ o.op).bind λr=>aj (sQ r.2.keys (AD s2.objs)) (some (cond r.1 true (!g),r.2)))=some (b,v)->
   (j3 s1 (cq s1 4 t w)).bind (λg=>(cm X.P ⟨s1,X.G,cq s1 4 t w⟩ o.op).bind λr=>aj (sQ r.2.keys (AD s1.objs)) (some (cond r.1 true (!g),r.2)))=some (b,v):=by
  intro he
  rw [e1,e2,tA X.P hop' (λk hk=>ho k (List.mem_append_left _ hk))]
  obtain ⟨g,f1,he⟩:=ag he
  obtain ⟨⟨b',v'⟩,f2,he⟩:=ag he
  obtain ⟨f3,he⟩:=al he
  simp only [Option.some.injEq,Prod.mk.injEq] at he
  obtain ⟨rfl,rfl⟩:=he
  rw [f1,f2]
  simp only [Option.bind_some]
  rw [yI (λk hk=>ho k (List.mem_append_right _ hk)) f3];rfl
 cases hop:o.op with
 | call q=>
  obtain ⟨callee,args,ts⟩:=q
  cases callee with
  | value f=>simp only [wa,hop] at he ⊢;rw [e1,k8 (by rw [<-hop];exact hop')];exact he
  | _=>simp only [wa,hop] at he ⊢;rw [hop] at hp;exact hp he
 | _=>simp only [wa,hop] at he ⊢;rw [hop] at hp;exact hp he
end
variable {P:Program} {B:Base} {c:Cx} {s:St} {a:Act}
inductive One (X:Cfg) (ops:Array Oper) (o:Oper) (s:St):St->Prop
 | plain (v:AV) (objs':List (Nat×AO)):o.guard=none->ik X s o=some (true,v,objs')->One X ops o s (s.after o.dst v objs')
 | guarded (j t d:Nat) (w:Bool) (v:AV):o.guard=some (j,w)->(ops[j]?).bind (·.dst)=some t->o.dst=some d->d≠t->wa X s o t w=some (true,v)->One X ops o s (s.put (some d) (.grd t w v))
theorem One.other {X:Cfg} {ops:Array Oper} {o:Oper} {s s':St} (h:One X ops o s s') {t:Nat} (ht:o.dst≠some t):s'.get t=s.get t:=by
 cases h with
 | plain v objs' _ _=>rw [j4,if_neg ht]
 | guarded j t' d w v _ _ hd _ _=>rw [St.fL,if_neg];rintro rfl;exact ht hd
structure Trace (X:Cfg) (ops:Array Oper) (st:Nat->St):Prop where
 step:∀i o,ops[i]?=some o->One X ops o (st i) (st (i+1))
 later:∀ (i:Nat) (o:Oper) (j t:Nat) (w:Bool),ops[i]?=some o->o.guard=some (j,w)->(ops[j]?).bind (·.dst)=some t->∀ (k:Nat) (q:Oper),i < k->ops[k]?=some q->q.dst≠some t
theorem s7 {X:Cfg} {ops:Array Oper} {K:List Fp->St->Res} {r:AV×List AO}:∀ (rest:List Oper) (i:Nat) (acc:List Fp) (s:St),(∀j,rest[j]?=ops[i+j]?)->jG X ops rest i acc s K=some r->
  ∃st:Nat->St,st i=s/\(∀q o,i<=q->ops[q]?=some o->One X ops o (st q) (st (q+1))) /\
   (∀q o j t w,i<=q->ops[q]?=some o->o.guard=some (j,w)->(ops[j]?).bind (·.dst)=some t->∀k p,q < k->ops[k]?=some p->p.dst≠some t) /\
   ∃fps,K (acc++fps) (st (i+rest.length))=some r/\fps.length=rest.length/\∀q o,i<=q->ops[q]?=some o->fps[q - i]?=some (eY X (st q) ops q o)
 | [],i,acc,s,hops,he=>by
  have hno:∀q o,i<=q->ops[q]?≠some o:=λq o hq h=>by
   have:=hops (q - i)
   rw [show i+(q - i)=q by omega,h] at this;simp at this
  refine ⟨λ_=>s,rfl,λq o hq h=>absurd h (hno q o hq),λq o _ _ _ hq h=>absurd h (hno q o hq),[],by simpa [jG] using he,rfl,λq o hq h=>absurd h (hno q o hq)⟩
 | o::rest,i,acc,s,hops,he=>by
  have hoi:ops[i]?=some o:=by have:=hops 0;simpa using this.symm
  have hrest:∀j,rest[j]?=ops[i+1+j]?:=λj=>by
   have:=hops (j+1)
   rw [Nat.add_assoc,Nat.add_comm 1 j];simpa using this
  have main:∀s',One X ops o s s'->jG X ops rest (i+1) (acc++[eY X s ops i o]) s' K=some r->
    (∀j t w,o.guard=some (j,w)->(ops[j]?).bind (·.dst)=some t->∀p∈rest,p.dst≠some t)->
    ∃st:Nat->St,st i=s/\(∀q o,i<=q->ops[q]?=some o->One X ops o (st q) (st (q+1))) /\
   (∀q o j t w,i<=q->ops[q]?=some o->o.guard=some (j,w)->(ops[j]?).bind (·.dst)=some t->∀k p,q < k->ops[k]?=some p->p.dst≠some t) /\
   ∃fps,K (acc++fps) (st (i+(o::rest).length))=some r/\fps.length=(o::rest).length/\∀q o,i<=q->ops[q]?=some o->fps[q - i]?=some (eY X (st q) ops q o):=by
   intro s' hone he' hlat
   obtain ⟨st,h1,h2,h3,fps,h4,h5,h6⟩:=s7 rest (i+1) _ s' hrest he'
   have hst:∀q,i+1<=q->(if q<=i then s else st q)=st q:=λq hq=>if_neg (by omega)
   refine ⟨λq=>if q<=i then s else st q,by simp,λq p hq hp=>?_,λq p j t w hq hp hg ht k p' hk hp'=>?_,eY X s ops i o::fps,?_,by simp [h5],λq p hq hp=>?_⟩
   ·by_cases e:q=i
    ·subst e
     rw [hoi] at hp;cases hp
     simp only [Nat.le_refl,if_true]
     rw [if_neg (by omega),h1];exact hone
    ·simp only [hst q (by omega),hst (q+1) (by omega)]
     exact h2 q p (by omega) hp
   ·by_cases e:q=i
    ·subst e
     rw [hoi] at hp;cases hp
     have hm:=hrest (k - (q+1))
     rw [show q+1+(k - (q+1))=k by omega,hp'] at hm
     exact hlat j t w hg ht p' (List.mem_of_getElem? hm)
    ·exact h3 q p j t w (by omega) hp hg ht k p' hk hp'
   ·have e:i+(o::rest).length=i+1+rest.length:=by simp;omega
    simp only [e]
    rw [if_neg (by omega)]
    simpa [List.append_assoc] using h4
   ·by_cases e:q=i
    ·subst e
     rw [hoi] at hp;cases hp
     simp
    ·have:=h6 q p (by omega) hp
     simp only [hst q (by omega)]
     rw [show q - i=(q - (i+1))+1 by omega]
     simpa using this
  simp only [jG] at he
  cases hg:o.guard with
  | none=>
   simp only [hg] at he
   obtain ⟨v,objs',e1,e2⟩:=Gj he
   exact main _ (.plain v objs' hg e1) e2 (λj t w h=>by rw [hg] at h;cases h)
  | some jw=>
   obtain ⟨j,w⟩:=jw
   simp only [hg] at he
   cases ht:(ops[j]?).bind (·.dst) with
   | none=>simp [ht] at he
   | some t=>
    simp only [ht] at he
    obtain ⟨hany,he⟩:=qh he
    obtain ⟨d,v,hd,hdt,e1,e2⟩:=yP he
    refine main _ (.guarded j t d w v hg ht hd hdt e1) e2 (λj' t' w' h ht' p hp=>?_)
    rw [hg] at h;cases h
    rw [ht] at ht';cases ht'
    have:=List.any_eq_false.1 hany p hp
    simpa using this
theorem jM:∀ {l:List Oper} {seen:List Nat},j8 l seen=true->(∀ (i:Nat) (o:Oper) (d:Nat),l[i]?=some o->o.dst=some d->d ∉ seen) /\
  ∀ (i j:Nat) (o q:Oper) (d:Nat),l[i]?=some o->l[j]?=some q->o.dst=some d->q.dst=some d->i=j
 | [],seen,_=>⟨by simp,by simp⟩
 | p::r,seen,h=>by
  simp only [j8] at h
  cases hd:p.dst with
  | none=>
   simp only [hd] at h
   obtain ⟨h1,h2⟩:=jM h
   refine ⟨λi o d hi ho=>?_,λi j o q d hi hj ho hq=>?_⟩
   ·cases i with
    | zero=>simp at hi;subst hi;rw [hd] at ho;cases ho
    | succ i=>exact h1 i o d (by simpa using hi) ho
   ·cases i with
    | zero=>simp at hi;subst hi;rw [hd] at ho;cases ho
    | succ i=>
     cases j with
     | zero=>simp at hj;subst hj;rw [hd] at hq;cases hq
     | succ j=>rw [h2 i j o q d (by simpa using hi) (by simpa using hj) ho hq]
  | some e=>
   simp only [hd,Bool.and_eq_true,Bool.not_eq_true'] at h
   obtain ⟨h1,h2⟩:=jM h.2
   have hseen:e ∉ seen:=λhm=>by rw [any_beq.2 hm] at h;simp at h
   refine ⟨λi o d hi ho=>?_,λi j o q d hi hj ho hq=>?_⟩
   ·cases i with
    | zero=>simp at hi;subst hi;rw [hd] at ho;cases ho;exact hseen
    | succ i=>exact λhm=>h1 i o d (by simpa using hi) ho (List.mem_cons_of_mem _ hm)
   ·cases i with
    | zero=>
     simp at hi;subst hi;rw [hd] at ho;cases ho
     cases j with
     | zero=>rfl
     | succ j=>exact absurd (List.mem_cons_self) (h1 j q e (by simpa using hj) hq)
    | succ i=>
     cases j with
     | zero=>simp at hj;subst hj;rw [hd] at hq;cases hq;exact absurd (List.mem_cons_self) (h1 i o e (by simpa using hi) ho)
     | succ j=>rw [h2 i j o q d (by simpa using hi) (by simpa using hj) ho hq]
theorem re:∀ {l:List Oper} {i:Nat},xV l i=true->∀ (j:Nat) (o:Oper),l[j]?=some o->∀e∈o.after,Region.binds .any e=true->e.on < i+j
 | [],_,_,j,o,h=>by simp at h
 | p::r,i,h,j,o,hj=>by
  simp only [xV,Bool.and_eq_true] at h
  cases j with
  | zero=>simp at hj;subst hj;intro e he hb;have:=Array.all_eq_true_iff_forall_mem.1 h.1 e he;rw [hb,cond_true] at this;exact ltB this
  | succ j=>intro e he hb;have:=re h.2 j o (by simpa using hj) e he hb;omega
theorem vW {bits:List Nat}:∀ {l:List Fp},Lv bits l=true->∀ (i j:Nat) (x y:Fp),i < j->l[i]?=some x->l[j]?=some y->(bits.getD y.i 0).testBit x.i=true∨ny x y=true
 | [],_,i,j,x,y,_,h,_=>by simp at h
 | p::r,h,i,j,x,y,hij,hi,hj=>by
  simp only [Lv,Bool.and_eq_true] at h
  cases j with
  | zero=>omega
  | succ j=>
   cases i with
   | zero=>
    simp at hi;subst hi
    have:=List.all_eq_true.1 h.1 y (List.mem_of_getElem? (by simpa using hj))
    simpa using this
   | succ i=>exact vW h.2 i j x y (by omega) (by simpa using hi) (by simpa using hj)
theorem kZ {acc:List Nat}:∀ {l:List Edge} {k:Nat},(gL acc l).testBit k=true->∃e∈l,Region.binds .any e=true/\(k=e.on∨(acc.getD e.on 0).testBit k=true)
 | [],k,h=>by simp [gL] at h
 | e::r,k,h=>by
  simp only [gL] at h
  cases hb:Region.binds .any e with
  | false=>
   simp only [hb,cond_false] at h
   obtain ⟨e',h1,h2⟩:=kZ h
   exact ⟨e',List.mem_cons_of_mem _ h1,h2⟩
  | true=>
   simp only [hb,cond_true] at h
   have hor:∀x y:Nat,Nat.lor x y=x ||| y:=λ_ _=>rfl
   simp only [hor,Nat.testBit_or,Bool.or_eq_true,Nat.testBit_two_pow,decide_eq_true_eq] at h
   rcases h with (h | h) | h
   ·exact ⟨e,by simp,hb,.inl h.symm⟩
   ·exact ⟨e,by simp,hb,.inr h⟩
   ·obtain ⟨e',h1,h2⟩:=kZ h
    exact ⟨e',List.mem_cons_of_mem _ h1,h2⟩
theorem rf {S:Nat->Prop} {ops:Array Oper} (hS:∀i o,S i->ops[i]?=some o->∀e∈o.after,Region.binds .any e=true->S e.on) :
  ∀ (rest:List Oper) (acc:List Nat),(∀j,rest[j]?=ops[acc.length+j]?)->
   (∀j o,j < acc.length->ops[j]?=some o->(∀e∈o.after,Region.binds .any e=true->S e.on)->∀k,(acc.getD j 0).testBit k=true->S k)->
   ∀j o,ops[j]?=some o->(∀e∈o.after,Region.binds .any e=true->S e.on)->∀k,((lh rest acc).getD j 0).testBit k=true->S k
 | [],acc,hops,hacc,j,o,ho,hr,k,hk=>by
  by_cases hj:j < acc.length
  ·exact hacc j o hj ho hr k hk
  ·have:=hops (j - acc.length)
   rw [show acc.length+(j - acc.length)=j by omega,ho] at this;simp at this
 | p::rest,acc,hops,hacc,j,o,ho,hr,k,hk=>by
  have e:lh (p::rest) acc=lh rest (acc++[gL acc p.after.toList]):=by
   simp only [lh]
   cases gL acc p.after.toList <;> rfl
  rw [e] at hk
  have hp:ops[acc.length]?=some p:=by have:=hops 0;simpa using this.symm
  refine rf hS rest _ (λj=>by have:=hops (j+1);rw [List.length_append,List.length_singleton,Nat.add_assoc,Nat.add_comm 1 j];simpa using this) ?_ j o ho hr k hk
  intro j q hj hq hrq k hk
  by_cases hlt:j < acc.length
  ·rw [List.getD_eq_getElem?_getD,List.getElem?_append_left hlt,<-List.getD_eq_getElem?_getD] at hk
   exact hacc j q hlt hq hrq k hk
  ·have hj':j=acc.length:=by simp at hj;omega
   subst hj'
   rw [hp] at hq;cases hq
   have:(acc++[gL acc p.after.toList]).getD acc.length 0=gL acc p.after.toList:=by simp
   rw [this] at hk
   obtain ⟨ed,h1,h2,h3⟩:=kZ hk
   have hSe:=hrq ed (by simpa using h1) h2
   rcases h3 with rfl | h3
   ·exact hSe
   ·by_cases hl:ed.on < acc.length
    ·have ho':ops[ed.on]?=some (ops[ed.on]'(by have:=(Array.getElem?_eq_some_iff.1 hp).1;omega)):=Array.getElem?_eq_getElem _
     exact hacc ed.on _ hl ho' (λe' he' hb'=>hS _ _ hSe ho' e' he' hb') k h3
    ·have:acc.getD ed.on 0=0:=by simp [List.getD_eq_getElem?_getD,List.getElem?_eq_none (by omega:acc.length<=ed.on)]
     rw [this] at h3;simp at h3
end Go.Ab
namespace Go.Ab
open Go Go.RowKit
structure Loc (K:Nat->Prop) (O1 O2 p1 p2:List (Nat×AO)):Prop where
 on:∀k,K k->alook p1 k=alook p2 k
 off1:∀k,¬ K k->alook p1 k=alook O1 k
 off2:∀k,¬ K k->alook p2 k=alook O2 k
 bare:∀k ob,K k->alook p2 k=some ob->ob.keys=[]
variable {K:Nat->Prop}
theorem Loc.start {O1 O2:List (Nat×AO)} (h:∀k,K k->alook O1 k=alook O2 k) (hb:∀k ob,K k->alook O2 k=some ob->ob.keys=[]):Loc K O1 O2 O1 O2:=⟨h,λ_ _=>rfl,λ_ _=>rfl,hb⟩
theorem Loc.trans {O1 O2 p1 p2 q1 q2:List (Nat×AO)} (h:Loc K O1 O2 p1 p2) (g:Loc K p1 p2 q1 q2):Loc K O1 O2 q1 q2:=
 ⟨g.on,λk hk=>(g.off1 k hk).trans (h.off1 k hk),λk hk=>(g.off2 k hk).trans (h.off2 k hk),g.bare⟩
theorem Loc.put {O1 O2 p1 p2:List (Nat×AO)} (h:Loc K O1 O2 p1 p2) {k:Nat} (hk:K k) {o:AO} (ho:o.keys=[]):Loc K O1 O2 (aput p1 k o) (aput p2 k o):=by
 refine ⟨λq hq=>?_,λq hq=>?_,λq hq=>?_,λq ob hq he=>?_⟩
 ·rw [aV,aV,h.on q hq]
 ·rw [aV,if_neg (by rintro rfl;exact hq hk),h.off1 q hq]
 ·rw [aV,if_neg (by rintro rfl;exact hq hk),h.off2 q hq]
 ·rw [aV] at he
  split at he
  ·simp only [Option.some.injEq] at he;subst he;exact ho
  ·exact h.bare q ob hq he
theorem tY {O1 O2 p1 p2:List (Nat×AO)} (h:Loc K O1 O2 p1 p2) {v v':AV} (hv:∀k∈v.keys,K k) {q2:List (Nat×AO)} (he:bJ p2 v=some (v',q2)):∃q1,bJ p1 v=some (v',q1)/\Loc K O1 O2 q1 q2/\∀k∈v'.keys,K k:=by
 cases v with
 | msl k sz off n=>
  have hk:K k:=hv k (by simp [AV.keys])
  simp only [bJ] at he ⊢
  rw [h.on k hk]
  cases ho:alook p2 k with
  | none=>simp [ho] at he
  | some ob=>
   cases ob with
   | arr sz' m get=>
    simp only [ho] at he ⊢
    obtain ⟨hb,he⟩:=al he
    simp only [Option.some.injEq,Prod.mk.injEq] at he
    obtain ⟨rfl,rfl⟩:=he
    exact ⟨_,by rw [hb];rfl,h.put hk rfl,by simp [AV.keys]⟩
   | frz sz' m get=>
    simp only [ho] at he ⊢
    obtain ⟨hb,he⟩:=al he
    simp only [Option.some.injEq,Prod.mk.injEq] at he
    obtain ⟨rfl,rfl⟩:=he
    exact ⟨_,by rw [hb];rfl,h,by simp [AV.keys]⟩
   | _=>simp [ho] at he
 | gsl k sz n=>
  have hk:K k:=hv k (by simp [AV.keys])
  simp only [bJ] at he ⊢
  rw [h.on k hk]
  cases ho:alook p2 k with
  | none=>simp [ho] at he
  | some ob=>
   cases ob with
   | grw sq sz' m get=>
    simp only [ho] at he ⊢
    obtain ⟨hb,he⟩:=al he
    simp only [Option.some.injEq,Prod.mk.injEq] at he
    obtain ⟨rfl,rfl⟩:=he
    exact ⟨_,by rw [hb];rfl,h.put hk (zU _ _ _ _),by simp [AV.keys]⟩
   | _=>simp [ho] at he
 | _=>simp only [bJ,Option.some.injEq,Prod.mk.injEq] at he ⊢;obtain ⟨rfl,rfl⟩:=he;exact ⟨_,⟨rfl,rfl⟩,h,hv⟩
theorem tT:∀ {l l':List AV} {O1 O2 p1 p2 q2:List (Nat×AO)},Loc K O1 O2 p1 p2->(∀k∈ak l,K k)->cX p2 l=some (l',q2)->∃q1,cX p1 l=some (l',q1)/\Loc K O1 O2 q1 q2/\∀k∈ak l',K k
 | [],l',O1,O2,p1,p2,q2,h,hv,he=>by simp only [cX,Option.some.injEq,Prod.mk.injEq] at he;obtain ⟨rfl,rfl⟩:=he;exact ⟨_,rfl,h,hv⟩
 | v::r,l',O1,O2,p1,p2,q2,h,hv,he=>by
  simp only [cX] at he ⊢
  simp only [ak,List.mem_append] at hv
  obtain ⟨⟨v',o1⟩,e1,he⟩:=ag he
  obtain ⟨⟨r',o2⟩,e2,he⟩:=ag he
  simp only [Option.some.injEq,Prod.mk.injEq] at he
  obtain ⟨rfl,rfl⟩:=he
  obtain ⟨x1,g1,g2,g3⟩:=tY h (λk hk=>hv k (.inl hk)) e1
  obtain ⟨x2,g4,g5,g6⟩:=tT g2 (λk hk=>hv k (.inr hk)) e2
  refine ⟨x2,by rw [g1];simp only [Option.bind_some];rw [g4];rfl,g5,λk hk=>?_⟩
  simp only [ak,List.mem_append] at hk
  exact hk.elim (g3 k) (g6 k)
theorem BS {O1 O2 p1 p2:List (Nat×AO)} (h:Loc K O1 O2 p1 p2) {v v':AV} (hv:∀k∈v.keys,K k) {q2:List (Nat×AO)} (he:eX p2 v=some (v',q2)):∃q1,eX p1 v=some (v',q1)/\Loc K O1 O2 q1 q2/\∀k∈v'.keys,K k:=by
 cases v with
 | agg cs=>
  simp only [eX] at he ⊢
  simp only [AV.keys] at hv
  obtain ⟨⟨l,o⟩,e1,he⟩:=bz he
  simp only [Prod.mk.injEq] at he
  obtain ⟨rfl,rfl⟩:=he
  obtain ⟨p,g1,g2,g3⟩:=tT h hv e1
  exact ⟨p,by rw [g1];rfl,g2,λk hk=>g3 k (by simpa [AV.keys] using hk)⟩
 | _=>simp only [eX] at he ⊢;exact tY h hv he
theorem qT:∀ {l l':List AV} {O1 O2 p1 p2 q2:List (Nat×AO)},Loc K O1 O2 p1 p2->(∀k∈ak l,K k)->cg p2 l=some (l',q2)->∃q1,cg p1 l=some (l',q1)/\Loc K O1 O2 q1 q2/\∀k∈ak l',K k
 | [],l',O1,O2,p1,p2,q2,h,hv,he=>by simp only [cg,Option.some.injEq,Prod.mk.injEq] at he;obtain ⟨rfl,rfl⟩:=he;exact ⟨_,rfl,h,hv⟩
 | v::r,l',O1,O2,p1,p2,q2,h,hv,he=>by
  simp only [cg] at he ⊢
  simp only [ak,List.mem_append] at hv
  obtain ⟨⟨v',o1⟩,e1,he⟩:=ag he
  obtain ⟨⟨r',o2⟩,e2,he⟩:=ag he
  simp only [Option.some.injEq,Prod.mk.injEq] at he
  obtain ⟨rfl,rfl⟩:=he
  obtain ⟨x1,g1,g2,g3⟩:=BS h (λk hk=>hv k (.inl hk)) e1
  obtain ⟨x2,g4,g5,g6⟩:=qT g2 (λk hk=>hv k (.inr hk)) e2
  refine ⟨x2,by rw [g1];simp only [Option.bind_some];rw [g4];rfl,g5,λk hk=>?_⟩
  simp only [ak,List.mem_append] at hk
  exact hk.elim (g3 k) (g6 k)
theorem kR {O:List (Nat×AO)} (hb:∀k ob,K k->alook O k=some ob->ob.keys=[]):∀l,(∀k∈l,K k)->bF O l=[]
 | [],_=>rfl
 | k::r,h=>by
  simp only [bF]
  rw [kR hb r λq hq=>h q (List.mem_cons_of_mem _ hq),List.append_nil]
  cases ho:alook O k with
  | none=>rfl
  | some ob=>simp [hb k ob (h k (by simp)) ho]
theorem tQ {O1 O2:List (Nat×AO)} (h:∀k,K k->alook O1 k=alook O2 k):∀l,(∀k∈l,K k)->dc O1 l=dc O2 l
 | [],_=>rfl
 | k::r,hl=>by simp only [dc,h k (hl k (by simp)),tQ h r λq hq=>hl q (List.mem_cons_of_mem _ hq)]
theorem vC {O:List (Nat×AO)} (hb:∀k ob,K k->alook O k=some ob->ob.keys=[]) {l:List Nat} (h:∀k∈l,K k):ck O l=cS (cS (cS [] l) []) []/\∀k∈ck O l,K k:=by
 have h1:∀k∈cS [] l,K k:=λk hk=>by
  rcases ((fj l [] List.nodup_nil).2 k).1 hk with hk | hk
  ·simp at hk
  ·exact h k hk
 have e1:bF O (cS [] l)=[]:=kR hb _ h1
 have e2:ck O l=cS (cS (cS [] l) []) []:=by
  simp only [ck,e1,cS]
 refine ⟨e2,λk hk=>?_⟩
 rw [e2] at hk
 simp only [cS] at hk
 exact h1 k hk
theorem Fe {X:Cfg} {O1 O2:List (Nat×AO)} (h:∀k,K k->alook O1 k=alook O2 k) (hb:∀k ob,K k->alook O2 k=some ob->ob.keys=[]) {f:FuncId} {l:List AV} (hl:∀k∈ak l,K k) {b:Bool} {v:AV} {O2':List (Nat×AO)} (he:mf X O2 f l=some (b,v,O2')) :
  ∃O1',mf X O1 f l=some (b,v,O1')/\(∀k,K k->alook O1' k=alook O2' k)/\(∀k,¬ K k->alook O1' k=alook O1 k)/\(∀k,¬ K k->alook O2' k=alook O2 k):=by
 unfold mf at he ⊢
 obtain ⟨⟨l1,o1⟩,h1,he⟩:=ag he
 have hfz:∃p,cond (X.byRef f) (some (l,O1)) (cg O1 l)=some (l1,p)/\Loc K O1 O2 p o1/\∀k∈ak l1,K k:=by
  cases hb':X.byRef f with
  | true=>simp only [hb',cond_true,Option.some.injEq,Prod.mk.injEq] at h1;obtain ⟨rfl,rfl⟩:=h1;exact ⟨O1,rfl,Loc.start h hb,hl⟩
  | false=>simp only [hb',cond_false] at h1;exact qT (Loc.start h hb) hl h1
 obtain ⟨p,g1,g2,g3⟩:=hfz
 rw [g1]
 dsimp only [Option.bind_some] at he ⊢
 have g4:∀k∈ak (bM l1),K k:=λk hk=>g3 k (mC l1 k hk)
 obtain ⟨r1,r2⟩:=vC g2.bare g4
 obtain ⟨r3,_⟩:=vC (O:=p) (λk ob hk ho=>g2.bare k ob hk (by rw [<-g2.on k hk];exact ho)) g4
 have e1:ck p (ak (bM l1))=ck o1 (ak (bM l1)):=r3.trans r1.symm
 have e2:bF o1 (ck o1 (ak (bM l1)))=[]:=kR g2.bare _ r2
 have e3:bF p (ck o1 (ak (bM l1)))=[]:=kR (λk ob hk ho=>g2.bare k ob hk (by rw [<-g2.on k hk];exact ho)) _ r2
 have hnd:(ck o1 (ak (bM l1))).Nodup:=(gh o1 (ak (bM l1))).1
 obtain ⟨hcl,he⟩:=bB he
 obtain ⟨os,hos,he⟩:=ag he
 obtain ⟨⟨r,os'⟩,hcall,he⟩:=ag he
 obtain ⟨hlen,he⟩:=bB he
 dsimp only at hlen he
 simp only [Option.some.injEq,Prod.mk.injEq] at he
 obtain ⟨rfl,rfl,rfl⟩:=he
 rw [e2] at hcl
 generalize hks:ck o1 (ak (bM l1))=ks at *
 have hlen':(os'.map (AO.ren λk=>ia ks (k - aa))).length=ks.length:=by rw [List.length_map];exact ez hlen
 refine ⟨bZ p ks (os'.map (AO.ren λk=>ia ks (k - aa))),?_,λk hk=>?_,λk hk=>?_,λk hk=>?_⟩
 ·rw [e1,e3,hcl,tQ g2.on _ r2,hos]
  simp only [cond_true,Option.bind_some]
  rw [hcall]
  simp only [Option.bind_some,hlen,cond_true]
 ·rw [dM hnd hlen',dM hnd hlen',g2.on k hk]
 ·rw [dM hnd hlen',if_neg λhm=>hk (r2 k hm),g2.off1 k hk]
 ·rw [dM hnd hlen',if_neg λhm=>hk (r2 k hm),g2.off2 k hk]
theorem lZ {G:Nat->Option (List AV)} {ch:im} {s:St}:∀ {l:List Operand} {vs:List AV},eL ⟨s,G,ch⟩ l=some vs->∀k∈ak vs,k∈bt ⟨s,G,ch⟩ l
 | [],vs,h,k,hk=>by simp [eL] at h;subst h;simp [ak] at hk
 | x::r,vs,h,k,hk=>by
  simp only [eL] at h
  obtain ⟨v,h1,h⟩:=ag h
  obtain ⟨l,h2,h⟩:=bz h
  subst h
  simp only [ak,List.mem_append] at hk
  simp only [bt,h1,List.mem_append]
  exact hk.imp id (lZ h2 k)
theorem Ci {G:Nat->Option (List AV)} {ch:im} {s:St} {f:Operand} {args:Array Operand} {ts:Array TypeId} {g:FuncId} {l:List AV}
  (he:gD ⟨s,G,ch⟩ {callee:=.value f,args,argTypes:=ts}=some (g,l)):∀k∈ak l,k∈bt ⟨s,G,ch⟩ (Op.call {callee:=.value f,args,argTypes:=ts}).operands.toList:=by
 unfold gD at he
 dsimp only at he
 obtain ⟨fv,h1,he⟩:=ag he
 obtain ⟨vs,h2,he⟩:=ag he
 have hm:∀ (l:List Operand) (x:Operand) (v:AV),x∈l->aY ⟨s,G,ch⟩ x=some v->∀k∈v.keys,k∈bt ⟨s,G,ch⟩ l:=by
  intro l
  induction l with
  | nil=>intro x v hx;simp at hx
  | cons y r ih=>
   intro x v hx hv k hk
   simp only [bt,List.mem_append]
   rcases List.mem_cons.1 hx with rfl | hx
   ·left;rw [hv];exact hk
   ·exact .inr (ih x v hx hv k hk)
 have hsub:∀ (l m:List Operand),(∀x∈m,x∈l)->(∀x∈m,∃v,aY ⟨s,G,ch⟩ x=some v)->∀k∈bt ⟨s,G,ch⟩ m,k∈bt ⟨s,G,ch⟩ l:=by
  intro l m
  induction m with
  | nil=>intro _ _ k hk;simp [bt] at hk
  | cons y r ih=>
   intro hx hv k hk
   obtain ⟨v,hv'⟩:=hv y (by simp)
   simp only [bt,hv',List.mem_append] at hk
   rcases hk with hk | hk
   ·exact hm l y v (hx y (by simp)) hv' k hk
   ·exact ih (λx h=>hx x (List.mem_cons_of_mem _ h)) (λx h=>hv x (List.mem_cons_of_mem _ h)) k hk
 have hev:∀ (m:List Operand) (vs:List AV),eL ⟨s,G,ch⟩ m=some vs->∀x∈m,∃v,aY ⟨s,G,ch⟩ x=some v:=by
  intro m
  induction m with
  | nil=>intro vs _ x hx;simp at hx
  | cons y r ih=>
   intro vs h x hx
   simp only [eL] at h
   obtain ⟨v,h1,h⟩:=ag h
   obtain ⟨l,h2,h⟩:=bz h
   rcases List.mem_cons.1 hx with rfl | hx
   ·exact ⟨v,h1⟩
   ·exact ih l h2 x hx
 cases fv with
 | fn f' first caps=>
  simp only [Option.some.injEq,Prod.mk.injEq] at he
  obtain ⟨_,rfl⟩:=he
  intro k hk
  simp only [ju,List.mem_append] at hk
  have hf:∀k∈(AV.fn f' first caps).keys,k∈bt ⟨s,G,ch⟩ (Op.call {callee:=.value f,args,argTypes:=ts}).operands.toList:=hm _ f _ (by simp [Op.operands,Call.operands]) h1
  rcases hk with (hk | hk) | hk
  ·exact hf k (by simp [AV.keys,hk])
  ·exact hsub _ args.toList (by simp +contextual [Op.operands,Call.operands]) (hev _ _ h2) k (lZ h2 k hk)
  ·exact hf k (by simp [AV.keys,hk])
 | _=>simp at he
variable {s1 s2:St}
theorem wb {X:Cfg} {o:Oper} (h1:cQ o.op=true) (h:je s1 s2 (ej o.op.operands.toList)) (hb:bF s2.objs (bt ⟨s2,X.G,[]⟩ o.op.operands.toList)=[])
  (hK:∀k∈bt ⟨s2,X.G,[]⟩ o.op.operands.toList,s1.obj k=s2.obj k) {b:Bool} {v:AV} {O':List (Nat×AO)} (he:ik X s2 o=some (b,v,O')) :
  ∃O1',ik X s1 o=some (b,v,O1')/\(∀k∈bt ⟨s2,X.G,[]⟩ o.op.operands.toList,alook O1' k=alook O' k)/\(∀k,k ∉ bt ⟨s2,X.G,[]⟩ o.op.operands.toList->alook O1' k=alook s1.objs k) /\
   (∀k,k ∉ bt ⟨s2,X.G,[]⟩ o.op.operands.toList->alook O' k=alook s2.objs k):=by
 cases hop:o.op with
 | call q=>
  obtain ⟨callee,args,ts⟩:=q
  cases callee with
  | value f=>
   rw [hop] at h hb hK
   simp only [ik,hop] at he ⊢
   obtain ⟨⟨g,l⟩,e1,he⟩:=ag he
   have hl:=Ci e1
   have hbare:∀k ob,k∈bt ⟨s2,X.G,[]⟩ (Op.call {callee:=.value f,args,argTypes:=ts}).operands.toList->alook s2.objs k=some ob->ob.keys=[]:=λk ob hk ho=>by
    cases hx:ob.keys with
    | nil=>rfl
    | cons y r=>exact absurd (dF hk ho y (by rw [hx];simp)) (by rw [hb];simp)
   obtain ⟨O1',g1,g2,g3,g4⟩:=Fe (K:=λk=>k∈bt ⟨s2,X.G,[]⟩ (Op.call {callee:=.value f,args,argTypes:=ts}).operands.toList) (O1:=s1.objs) hK hbare hl he
   rw [k8 h,e1]
   exact ⟨O1',by simp only [Option.bind_some];rw [g1],g2,g3,g4⟩
  | builtin b=>simp [hop,cQ] at h1
  | invoke r m=>simp [hop,cQ] at h1
 | _=>simp [hop,cQ] at h1
end Go.Ab
namespace Go.Ab
open Go Go.RowKit
variable {P:Program} {B:Base} {c:Cx} {s:St} {a:Act}
theorem gz {l m:List Nat} (h:Fi l m=true) {k:Nat} (h1:k∈l) (h2:k∈m):False:=by
 have:=List.all_eq_true.1 h k h1
 rw [any_beq.2 h2] at this;simp at this
theorem HP {op:Op} (h:eE op=true):cQ op=false:=by
 cases op with
 | call q=>
  obtain ⟨callee,args,ts⟩:=q
  cases callee with
  | value f=>simp [eE] at h
  | _=>rfl
 | _=>rfl
theorem eK (s:St) (d:Option Nat) (v:AV) (objs:List (Nat×AO)) (k:Nat):(s.after d v objs).obj k=alook objs k:=by simp only [St.obj,EY]
theorem je.refl (s:St) (l:List Nat):je s s l:=λ_ _=>rfl
theorem iK.refl (s:St) (l:List Nat):iK s s l:=λ_ _=>rfl
theorem One.obj {X:Cfg} {ops:Array Oper} {i:Nat} {o:Oper} {s s':St} (h:One X ops o s s') (ha:(eY X s ops i o).all=false) {k:Nat} (hw:k ∉ (eY X s ops i o).wr):s'.obj k=s.obj k:=by
 cases h with
 | plain v objs' hg he=>
  rw [eK]
  simp only [eY,hg,Bool.and_eq_false_iff,Bool.not_eq_false'] at ha hw
  cases hl:eE o.op with
  | true=>
   rw [hl,cond_true] at hw
   obtain ⟨us,h1,h2,_⟩:=Ag hl (je.refl s _) (iK.refl s _) he
   rw [h2]
   exact pJ λp hp e=>hw (e ▸ h1 p hp)
  | false=>
   by_cases hc:cQ o.op=true
   ·have hfar:isNil (bF s.objs (bt ⟨s,X.G,[]⟩ o.op.operands.toList))=true:=ha.resolve_left (by simp [hc])
    rw [hl,hc,hfar] at hw
    simp only [cond_false,Bool.and_self,cond_true] at hw
    obtain ⟨O1',_,_,_,g4⟩:=wb hc (je.refl s _) (mN hfar) (λ_ _=>rfl) he
    rw [g4 k hw];rfl
   ·rw [ug hl (by simpa using hc)] at he
    obtain ⟨r,_,he⟩:=bz he
    simp only [Prod.mk.injEq] at he
    rw [<-he.2.2];rfl
 | guarded j t d w v _ _ _ _ _=>simp
theorem Iw {X:Cfg} {s:St} {o:Oper} {t:Nat} {w b:Bool} {v:AV} (hc:cQ o.op=true) (he:wa X s o t w=some (b,v)):v.keys=[]:=by
 cases hop:o.op with
 | call q=>
  obtain ⟨callee,args,ts⟩:=q
  cases callee with
  | value f=>
   simp only [wa,hop] at he
   obtain ⟨q,_,he⟩:=ag he
   obtain ⟨_,he⟩:=al he
   obtain ⟨⟨r,os⟩,_,he⟩:=ag he
   cases os with
   | nil=>
    dsimp only at he
    obtain ⟨hb,he⟩:=al he
    simp only [Option.some.injEq,Prod.mk.injEq] at he
    obtain ⟨_,rfl⟩:=he
    simp only [Bool.and_eq_true] at hb
    exact mN hb.1
   | cons _ _=>simp at he
  | builtin b=>simp [hop,cQ] at hc
  | invoke r m=>simp [hop,cQ] at hc
 | _=>simp [hop,cQ] at hc
theorem One.move {X:Cfg} {ops:Array Oper} {i:Nat} {o:Oper} {s1 s2 s2':St} (h:One X ops o s2 s2') (ht:je s1 s2 (eY X s2 ops i o).tmps)
  (ho:∀k,k∈(eY X s2 ops i o).rd∨k∈(eY X s2 ops i o).wr∨(eY X s2 ops i o).all=true->s1.obj k=s2.obj k) :
  ∃s1',One X ops o s1 s1'/\(∀d,o.dst=some d->s1'.get d=s2'.get d)/\(∀k,k∈(eY X s2 ops i o).wr∨(eY X s2 ops i o).all=true->s1'.obj k=s2'.obj k) /\
   (∀k,(eY X s2 ops i o).all=false->k ∉ (eY X s2 ops i o).wr->s1'.obj k=s1.obj k):=by
 cases h with
 | plain v objs' hg he=>
  have htm:(eY X s2 ops i o).tmps=ej o.op.operands.toList:=by simp only [eY,hg]
  have hwr:(eY X s2 ops i o).wr=cond (eE o.op) (qA o.dst.toList++bt ⟨s2,X.G,[]⟩ o.op.operands.toList) (cond (cQ o.op&&isNil (bF s2.objs (bt ⟨s2,X.G,[]⟩ o.op.operands.toList))) (bt ⟨s2,X.G,[]⟩ o.op.operands.toList) []):=by simp only [eY,hg]
  have hrd:(eY X s2 ops i o).rd=cond (kG o.op) (bt ⟨s2,X.G,[]⟩ o.op.operands.toList) []:=by simp only [eY,hg]
  have hall:(eY X s2 ops i o).all=(cQ o.op&&!isNil (bF s2.objs (bt ⟨s2,X.G,[]⟩ o.op.operands.toList))):=by simp only [eY,hg]
  rw [htm] at ht
  rw [hwr,hrd,hall] at ho
  rw [hwr,hall]
  have hd:∀ (O1:List (Nat×AO)) (d:Nat),o.dst=some d->(s1.after o.dst v O1).get d=(s2.after o.dst v objs').get d:=λO1 d hd=>by rw [j4,j4,if_pos hd,if_pos hd]
  cases hl:eE o.op with
  | true=>
   rw [hl] at ho
   simp only [cond_true] at ho ⊢
   obtain ⟨us,h1,h2,h3⟩:=Ag hl ht (λk hk=>ho k (.inr (.inl hk))) he
   refine ⟨_,.plain v _ hg h3,hd _,λk hk=>?_,λk _ hk=>?_⟩
   ·rw [eK,eK,h2]
    refine zj ?_
    rcases hk with hk | hk
    ·exact ho k (.inr (.inl hk))
    ·rw [HP hl] at hk;simp at hk
   ·rw [eK]
    exact pJ λp hp e=>hk (e ▸ h1 p hp)
  | false=>
   rw [hl] at ho
   simp only [cond_false] at ho ⊢
   cases hc:cQ o.op with
   | true=>
    cases hn:isNil (bF s2.objs (bt ⟨s2,X.G,[]⟩ o.op.operands.toList)) with
    | true=>
     rw [hc,hn] at ho
     simp only [Bool.and_self,cond_true] at ho ⊢
     obtain ⟨O1,e1,e2,e3,e4⟩:=wb hc ht (mN hn) (λk hk=>ho k (.inr (.inl hk))) he
     refine ⟨_,.plain v _ hg e1,hd _,λk hk=>?_,λk _ hk=>?_⟩
     ·rw [eK,eK]
      rcases hk with hk | hk
      ·exact e2 k hk
      ·simp at hk
     ·rw [eK];exact e3 k hk
    | false=>
     obtain ⟨O1,e1,e2⟩:=u9 hc (λk=>ho k (.inr (.inr (by rw [hc,hn];rfl)))) ht he
     exact ⟨_,.plain v _ hg e1,hd _,λk _=>by rw [eK,eK];exact e2 k,λk hk=>by simp at hk⟩
   | false=>
    have he':=he
    rw [ug hl hc] at he'
    obtain ⟨⟨b',v'⟩,e1,e2⟩:=bz he'
    simp only [Prod.mk.injEq] at e2
    obtain ⟨rfl,rfl,rfl⟩:=e2
    have e3:ik X s1 o=some (true,v',s1.objs):=by
     rw [ug hl hc,tA X.P ht (λk hk=>ho k (.inl hk)),e1];rfl
    exact ⟨_,.plain v' _ hg e3,hd _,λk hk=>by simp at hk,λk _ _=>by rw [eK];rfl⟩
 | guarded j t d w v hg hj hd hdt he=>
  have htm:(eY X s2 ops i o).tmps=(cq s2 4 t w).map (·.1)++ej o.op.operands.toList:=by simp only [eY,hg,hj]
  have hwr:(eY X s2 ops i o).wr=[]:=by simp only [eY,hg,hj]
  have hall:(eY X s2 ops i o).all=false:=by simp only [eY,hg,hj]
  have hrd:(eY X s2 ops i o).rd=cond (kG o.op) (bt ⟨s2,X.G,cq s2 4 t w⟩ o.op.operands.toList) []++v.keys:=by
   simp only [eY,hg,hj,he]
   cases hc:cQ o.op with
   | false=>rfl
   | true=>rw [Iw hc he];rfl
  rw [htm] at ht
  have he1:wa X s1 o t w=some (true,v):=Fb he ht λk hk=>ho k (.inl (by rw [hrd];exact hk))
  refine ⟨_,.guarded j t d w v hg hj hd hdt he1,λd' hd'=>?_,λk hk=>by rw [hwr,hall] at hk;simp at hk,λk _ _=>by simp⟩
  rw [hd] at hd';cases hd'
  rw [St.fL,St.fL,if_pos rfl,if_pos rfl]
structure Plan (X:Cfg) (ops:Array Oper) (st:Nat->St):Prop where
 T:Trace X ops st
 plain:cz (st 0)
 uniq:∀ (i j:Nat) (o q:Oper) (d:Nat),ops[i]?=some o->ops[j]?=some q->o.dst=some d->q.dst=some d->i=j
 edge:∀ (i:Nat) (o:Oper),ops[i]?=some o->∀e∈o.after,Region.binds .any e=true->e.on < i
 pair:∀ (i j:Nat) (o q:Oper),i < j->ops[i]?=some o->ops[j]?=some q->((lh ops.toList []).getD j 0).testBit i=true∨ny (eY X (st i) ops i o) (eY X (st j) ops j q)=true
section
variable {X:Cfg} {ops:Array Oper} {st:Nat->St}
theorem DQ {ops:Array Oper} {i:Nat} (h:i < ops.size):∃o,ops[i]?=some o:=⟨ops[i],Array.getElem?_eq_getElem h⟩
theorem Plan.OE (p:Plan X ops st):∀ (i t:Nat),i<=ops.size->(∀j o,j < i->ops[j]?=some o->o.dst≠some t)->(st i).get t=(st 0).get t
 | 0,_,_,_=>rfl
 | i+1,t,hi,h=>by
  obtain ⟨o,ho⟩:=DQ (show i < ops.size by omega)
  rw [(p.T.step i o ho).other (h i o (by omega) ho)]
  exact p.OE i t (by omega) λj o hj=>h j o (by omega)
theorem Plan.Ib (p:Plan X ops st) {j t:Nat} {o:Oper} (hj:ops[j]?=some o) (ht:o.dst=some t):∀ (k:Nat),j+1+k<=ops.size->(st (j+1+k)).get t=(st (j+1)).get t
 | 0,_=>rfl
 | k+1,hk=>by
  obtain ⟨q,hq⟩:=DQ (show j+1+k < ops.size by omega)
  rw [<-Nat.add_assoc,(p.T.step _ q hq).other λe=>?_]
  ·exact p.Ib hj ht k (by omega)
  ·have:=p.uniq j _ o q t hj hq ht e;omega
theorem Plan.U4 (p:Plan X ops st) {i j t:Nat} {o:Oper} (hj:ops[j]?=some o) (ht:o.dst=some t) (hij:j < i) (hi:i<=ops.size):(st i).get t=(st ops.size).get t:=by
 have h1:=p.Ib hj ht (i - (j+1)) (by omega)
 have h2:=p.Ib hj ht (ops.size - (j+1)) (by omega)
 rw [show j+1+(i - (j+1))=i by omega] at h1
 rw [show j+1+(ops.size - (j+1))=ops.size by omega] at h2
 rw [h1,h2]
def Fu (X:Cfg) (ops:Array Oper) (st:Nat->St) (j:Nat) (o:Oper) (k:Nat):Prop:=k∈(eY X (st j) ops j o).wr∨(eY X (st j) ops j o).all=true
theorem Plan.objs (p:Plan X ops st) {i q:Nat}:∀ (k:Nat),i+k<=ops.size->(∀j o,i<=j->j < i+k->ops[j]?=some o->¬ Fu X ops st j o q)->(st (i+k)).obj q=(st i).obj q
 | 0,_,_=>rfl
 | k+1,hk,h=>by
  obtain ⟨o,ho⟩:=DQ (show i+k < ops.size by omega)
  have hn:=h _ o (by omega) (by omega) ho
  rw [<-Nat.add_assoc,(p.T.step _ o ho).obj (i:=i+k) (by simpa using λe=>hn (.inr e)) (λe=>hn (.inl e))]
  exact p.objs k (by omega) λj o h1 h2=>h j o h1 (by omega)
structure Inv (X:Cfg) (ops:Array Oper) (st:Nat->St) (S:Nat->Prop) (s:St):Prop where
 done:∀ (t j:Nat) (o:Oper),S j->ops[j]?=some o->o.dst=some t->s.get t=(st ops.size).get t
 rest:∀t,(∀ (j:Nat) (o:Oper),S j->ops[j]?=some o->o.dst≠some t)->s.get t=(st 0).get t
 objs:∀k,∃m,m<=ops.size/\s.obj k=(st m).obj k/\∀ (j:Nat) (o:Oper),ops[j]?=some o->Fu X ops st j o k->(S j↔j < m)
 down:∀ (j:Nat) (o:Oper),S j->ops[j]?=some o->∀e∈o.after,Region.binds .any e=true->S e.on
 grd:∀ (t tc:Nat) (w:Bool) (v:AV),s.get t=some (.grd tc w v)->∃ (j:Nat) (o:Oper) (g:Nat),S j/\ops[j]?=some o/\o.dst=some t/\o.guard=some (g,w)/\(ops[g]?).bind (·.dst)=some tc
theorem Plan.bit (_:Plan X ops st) {S:Nat->Prop} (hS:∀ (j:Nat) (o:Oper),S j->ops[j]?=some o->∀e∈o.after,Region.binds .any e=true->S e.on) {i j:Nat} {o:Oper} (ho:ops[j]?=some o)
  (hr:∀e∈o.after,Region.binds .any e=true->S e.on) (h:((lh ops.toList []).getD j 0).testBit i=true):S i:=
 rf hS ops.toList [] (λj=>by simp) (λj o hj=>by simp at hj) j o ho hr i h
theorem Plan.next (p:Plan X ops st) (hX:dX X) (hG:X.G=B.G) (hN:∀o∈ops.toList,∀d,o.dst=some d->d < B.N) {S:Nat->Prop} (hI:Inv X ops st S s) (h:Rel B c s a) {i:Nat} {o:Oper} (ho:ops[i]?=some o) (hni:¬ S i)
  (hr:∀e∈o.after,Region.binds .any e=true->S e.on):∃s',Inv X ops st (λj=>j=i∨S j) s'/\Jj X.P ops B c a i s':=by
 have hin:i < ops.size:=(Array.getElem?_eq_some_iff.1 ho).1
 have hbefore:∀j q,j < i->ops[j]?=some q->S j∨ny (eY X (st j) ops j q) (eY X (st i) ops i o)=true:=λj q hj hq=>
  (p.pair j i q o hj hq ho).imp (λhb=>p.bit hI.down ho hr hb) id
 have hafter:∀j q,i < j->ops[j]?=some q->S j->ny (eY X (st i) ops i o) (eY X (st j) ops j q)=true:=λj q hj hq hSj=>
  (p.pair i j o q hj ho hq).resolve_left λhb=>hni (p.bit hI.down hq (hI.down j q hSj hq) hb)
 have hdstF:∀ (k:Nat) (q:Oper) (st':St) (t:Nat),ops[k]?=some q->q.dst=some t->t∈(eY X st' ops k q).dst∨(∃j w,q.guard=some (j,w)/\(ops[j]?).bind (·.dst)=none):=by
  intro k q st' t hq ht
  cases hg:q.guard with
  | none=>left;simp [eY,hg,ht]
  | some jw=>
   obtain ⟨j,w⟩:=jw
   cases hj:(ops[j]?).bind (·.dst) with
   | none=>right;exact ⟨j,w,rfl,hj⟩
   | some t'=>left;simp [eY,hg,hj,ht]
 have hdst:∀ (k:Nat) (q:Oper) (t:Nat),ops[k]?=some q->q.dst=some t->t∈(eY X (st k) ops k q).dst:=by
  intro k q t hq ht
  rcases hdstF k q (st k) t hq ht with h1 | ⟨j,w,h1,h2⟩
  ·exact h1
  ·have hs:=p.T.step k q hq
   generalize st (k+1)=s' at hs
   cases hs with
   | plain v objs' hg _=>rw [hg] at h1;cases h1
   | guarded j' t' d w' v hg hj _ _ _=>rw [hg] at h1;cases h1;rw [hj] at h2;cases h2
 have hagree:je s (st i) (eY X (st i) ops i o).tmps:=by
  intro t ht
  by_cases hex:∃ (j:Nat) (q:Oper),ops[j]?=some q/\q.dst=some t
  ·obtain ⟨j,q,hj,hq⟩:=hex
   have hjn:j < ops.size:=(Array.getElem?_eq_some_iff.1 hj).1
   have hone:∀k q',S k->ops[k]?=some q'->q'.dst=some t->S j:=λk q' hk hk' hq'=>by rw [p.uniq j k q q' t hj hk' hq hq'];exact hk
   rcases Nat.lt_trichotomy j i with hlt | rfl | hlt
   ·rcases hbefore j q hlt hj with hS | hap
    ·rw [hI.done t j q hS hj hq,p.U4 hj hq hlt (by omega)]
    ·simp only [ny,Bool.and_eq_true] at hap
     exact (gz hap.1 (hdst j q t hj hq) ht).elim
   ·rw [hI.rest t λk q' hk hk' hq'=>hni (hone k q' hk hk' hq'),p.OE j t (by omega) λk q' hk hk' hq'=>by
     have:=p.uniq j k q q' t hj hk' hq hq';omega]
   ·by_cases hS:S j
    ·have hap:=hafter j q hlt hj hS
     simp only [ny,Bool.and_eq_true] at hap
     exact (gz hap.2.1 (hdst j q t hj hq) ht).elim
    ·rw [hI.rest t λk q' hk hk' hq'=>hS (hone k q' hk hk' hq'),p.OE i t (by omega) λk q' hk hk' hq'=>by
      have:=p.uniq j k q q' t hj hk' hq hq';omega]
  ·have hno:∀ (k:Nat) (q:Oper),ops[k]?=some q->q.dst≠some t:=λk q hk hq=>hex ⟨k,q,hk,hq⟩
   rw [hI.rest t λk q _ hk=>hno k q hk,p.OE i t (by omega) λk q _ hk=>hno k q hk]
 have htouch:∀k,k∈(eY X (st i) ops i o).rd∨k∈(eY X (st i) ops i o).wr∨(eY X (st i) ops i o).all=true->(eY X (st i) ops i o).pt=true:=by
  intro k hk
  simp only [Fp.pt,Bool.or_eq_true,Bool.not_eq_true']
  rcases hk with hk | hk | hk
  ·right;left;cases hr:(eY X (st i) ops i o).rd with
   | nil=>rw [hr] at hk;simp at hk
   | cons _ _=>rfl
  ·right;right;cases hr:(eY X (st i) ops i o).wr with
   | nil=>rw [hr] at hk;simp at hk
   | cons _ _=>rfl
  ·exact .inl hk
 have htouch':∀j q k,Fu X ops st j q k->(eY X (st j) ops j q).pt=true:=by
  intro j q k hk
  simp only [Fp.pt,Bool.or_eq_true,Bool.not_eq_true']
  rcases hk with hk | hk
  ·right;right;cases hr:(eY X (st j) ops j q).wr with
   | nil=>rw [hr] at hk;simp at hk
   | cons _ _=>rfl
  ·exact .inl hk
 have hbw:∀k,k∈(eY X (st i) ops i o).rd∨k∈(eY X (st i) ops i o).wr∨(eY X (st i) ops i o).all=true->(∀j q,j < i->ops[j]?=some q->Fu X ops st j q k->S j)/\∀j q,i < j->ops[j]?=some q->Fu X ops st j q k->¬ S j:=by
  intro k hb
  refine ⟨λj q hj hq hw=>(hbefore j q hj hq).resolve_right λhap=>?_,λj q hj hq hw hS=>?_⟩
  ·simp only [ny,Bool.and_eq_true,Bool.not_eq_true',Bool.and_eq_false_iff] at hap
   obtain ⟨_,_,h3,h4,h5,h6,h7⟩:=hap
   rcases hb with hb | hb | hb
   ·rcases hw with hw | hw
    ·exact gz h6 hw hb
    ·rcases h3 with h3 | h3
     ·rw [hw] at h3;cases h3
     ·rw [htouch k (.inl hb)] at h3;cases h3
   ·rcases hw with hw | hw
    ·exact gz h5 hw hb
    ·rcases h3 with h3 | h3
     ·rw [hw] at h3;cases h3
     ·rw [htouch k (.inr (.inl hb))] at h3;cases h3
   ·rcases h4 with h4 | h4
    ·rw [hb] at h4;cases h4
    ·rw [htouch' j q k hw] at h4;cases h4
  ·have hap:=hafter j q hj hq hS
   simp only [ny,Bool.and_eq_true,Bool.not_eq_true',Bool.and_eq_false_iff] at hap
   obtain ⟨_,_,h3,h4,h5,h6,h7⟩:=hap
   rcases hb with hb | hb | hb
   ·rcases hw with hw | hw
    ·exact gz h7 hw hb
    ·rcases h4 with h4 | h4
     ·rw [hw] at h4;cases h4
     ·rw [htouch k (.inl hb)] at h4;cases h4
   ·rcases hw with hw | hw
    ·exact gz h5 hb hw
    ·rcases h4 with h4 | h4
     ·rw [hw] at h4;cases h4
     ·rw [htouch k (.inr (.inl hb))] at h4;cases h4
   ·rcases h3 with h3 | h3
    ·rw [hb] at h3;cases h3
    ·rw [htouch' j q k hw] at h3;cases h3
 have hob:∀k,k∈(eY X (st i) ops i o).rd∨k∈(eY X (st i) ops i o).wr∨(eY X (st i) ops i o).all=true->s.obj k=(st i).obj k:=by
  intro k hb
  obtain ⟨h1,h2⟩:=hbw k hb
  obtain ⟨m,hm,hobs,hwr⟩:=hI.objs k
  rw [hobs]
  rcases Nat.le_total m i with hle | hle
  ·have:=p.objs (i:=m) (q:=k) (i - m) (by omega) λj q hj1 hj2 hq hw=>by
    have:=(hwr j q hq hw).1 (h1 j q (by omega) hq hw);omega
   rw [show m+(i - m)=i by omega] at this;exact this.symm
  ·have:=p.objs (i:=i) (q:=k) (m - i) (by omega) λj q hj1 hj2 hq hw=>by
    have hS:=(hwr j q hq hw).2 (by omega)
    by_cases e:j=i
    ·subst e;exact hni hS
    ·exact h2 j q (by omega) hq hw hS
   rw [show i+(m - i)=m by omega] at this;exact this
 obtain ⟨s',hone,hget,hw1,hw0⟩:=(p.T.step i o ho).move (i:=i) hagree hob
 have hfree:∀d,o.dst=some d->d < B.N/\jC s d:=by
  intro d hd
  refine ⟨hN o (by simpa using Array.mem_of_getElem? ho) d hd,λt tc w v hg e=>?_⟩
  subst e
  obtain ⟨j,q,g,hS,hj,hq,hqg,hqt⟩:=hI.grd t tc w v hg
  have htm:tc∈(eY X (st j) ops j q).tmps:=by
   simp only [eY,hqg,hqt,List.mem_append]
   left;simp [cq]
  rcases Nat.lt_trichotomy j i with hlt | rfl | hlt
  ·exact p.T.later j q g tc w hj hqg hqt i o hlt ho hd
  ·exact hni hS
  ·have hap:=hafter j q hlt hj hS
   simp only [ny,Bool.and_eq_true] at hap
   exact gz hap.1 (hdst i o tc ho hd) htm
 have hkeep:∀t,o.dst≠some t->s'.get t=s.get t:=λt ht=>hone.other ht
 have hinv:(∀ (t tc:Nat) (w:Bool) (v:AV),o.dst=some t->s'.get t=some (.grd tc w v)->∃g,o.guard=some (g,w)/\(ops[g]?).bind (·.dst)=some tc)->Inv X ops st (λj=>j=i∨S j) s':=by
  intro hgr
  refine ⟨λt j q hj hq hd=>?_,λt hno=>?_,?_,λj q hj hq e he hb=>?_,λt tc w v hg=>?_⟩
  ·by_cases e:j=i
   ·subst e
    rw [ho] at hq;cases hq
    rw [hget t hd]
    exact p.U4 ho hd (Nat.lt_succ_self j) (by omega)
   ·have hS:=hj.resolve_left e
    rw [hkeep t λhd'=>e (p.uniq j i q o t hq ho hd hd')]
    exact hI.done t j q hS hq hd
  ·rw [hkeep t (hno i o (.inl rfl) ho)]
   exact hI.rest t λj q hj=>hno j q (.inr hj)
  ·intro k
   by_cases hw:Fu X ops st i o k
   ·obtain ⟨h1,h2⟩:=hbw k (.inr hw)
    refine ⟨i+1,by omega,hw1 k hw,λj q hq hwj=>?_⟩
    rcases Nat.lt_trichotomy j i with hlt | rfl | hlt
    ·exact ⟨λ_=>by omega,λ_=>.inr (h1 j q hlt hq hwj)⟩
    ·exact ⟨λ_=>by omega,λ_=>.inl rfl⟩
    ·exact ⟨λhj=>absurd (hj.resolve_left (by omega)) (h2 j q hlt hq hwj),λhj=>by omega⟩
   ·obtain ⟨m,hm,hobs,hwr⟩:=hI.objs k
    refine ⟨m,hm,by rw [hw0 k (by simpa using λe=>hw (.inr e)) (λe=>hw (.inl e)),hobs],λj q hq hwj=>?_⟩
    have e:j≠i:=by rintro rfl;rw [ho] at hq;cases hq;exact hw hwj
    exact ⟨λhj=>(hwr j q hq hwj).1 (hj.resolve_left e),λhj=>.inr ((hwr j q hq hwj).2 hj)⟩
  ·rcases hj with rfl | hj
   ·rw [ho] at hq;cases hq;exact .inr (hr e he hb)
   ·exact .inr (hI.down j q hj hq e he hb)
  ·by_cases e:o.dst=some t
   ·obtain ⟨g,h1,h2⟩:=hgr t tc w v e hg
    exact ⟨i,o,g,.inl rfl,ho,e,h1,h2⟩
   ·rw [hkeep t e] at hg
    obtain ⟨j,q,g,h1,h2⟩:=hI.grd t tc w v hg
    exact ⟨j,q,g,.inr h1,h2⟩
 cases hone with
 | plain v objs' hg he=>
  obtain ⟨hstep,hv⟩:=p7 hX hG h hfree he
  refine ⟨_,hinv λt tc w u ht hu=>?_,hstep.istep ho hg⟩
  rw [j4,if_pos ht] at hu;cases hu;simp [AV.dH] at hv
 | guarded j t d w v hg hj hd hdt he=>
  refine ⟨_,hinv λt' tc w' u ht' hu=>?_,v7 hX hG h ho hg hj hd (hfree d hd).1 (hfree d hd).2 hdt he⟩
  rw [hd] at ht';cases ht'
  rw [St.fL,if_pos rfl] at hu
  simp only [Option.some.injEq,AV.grd.injEq] at hu
  obtain ⟨rfl,rfl,_⟩:=hu
  exact ⟨j,hg,hj⟩
end
end Go.Ab
namespace Go.Ab
open Go Go.RowKit
variable {B:Base} {c:Cx} {s:St} {a:Act} {X:Cfg} {ops:Array Oper} {st:Nat->St}
theorem Inv.end (p:Plan X ops st) {S:Nat->Prop} (hI:Inv X ops st S s) (hall:∀i,i < ops.size->S i) (h:Rel B c s a):Rel B c (st ops.size) a:=by
 have hget:∀t,(st ops.size).get t=s.get t:=by
  intro t
  by_cases hex:∃ (j:Nat) (q:Oper),ops[j]?=some q/\q.dst=some t
  ·obtain ⟨j,q,hj,hq⟩:=hex
   exact (hI.done t j q (hall j (Array.getElem?_eq_some_iff.1 hj).1) hj hq).symm
  ·have hno:∀ (k:Nat) (q:Oper),ops[k]?=some q->q.dst≠some t:=λk q hk hq=>hex ⟨k,q,hk,hq⟩
   rw [hI.rest t λk q _ hk=>hno k q hk,p.OE _ t (Nat.le_refl _) λk q _ hk=>hno k q hk]
 have hobj:∀k,(st ops.size).obj k=s.obj k:=by
  intro k
  obtain ⟨m,hm,hobs,hwr⟩:=hI.objs k
  rw [hobs]
  have:=p.objs (i:=m) (q:=k) (ops.size - m) (by omega) λj q hj1 hj2 hq hw=>by
   have:=(hwr j q hq hw).1 (hall j (Array.getElem?_eq_some_iff.1 hq).1);omega
  rw [show m+(ops.size - m)=ops.size by omega] at this;exact this
 have hlive:∀k,live s.objs k->live (st ops.size).objs k:=λk ⟨o,ho⟩=>⟨o,by have:=hobj k;simp only [St.obj] at this;rw [this];exact ho⟩
 refine h.less (λk hk=>hlive k (h.kept k hk)) (λt v hv=>by rw [<-hget t];exact hv) (λk o ho=>by rw [<-hobj k];exact ho)
  (λt v hv k hk=>hlive k (h.closed t v (by rw [<-hget t];exact hv) k hk)) (λk o ho q hq=>hlive q (h.objs.closed k o (by have:=hobj k;rw [ho] at this;exact this.symm) q hq))
theorem BQ {listed:Array Bool} {i:Nat} (h:i < listed.size) (b b':Bool):listed.getD i b=listed.getD i b':=by
 simp [h]
theorem Plan.run (p:Plan X ops st) (hX:dX X) (hG:X.G=B.G) (hN:∀o∈ops.toList,∀d,o.dst=some d->d < B.N) {Q:Exit->Act->World->Prop} (hQ:∀c' a',Rel B c' (st ops.size) a'->Q .normal a' c'.w) :
  ∀ (fuel:Nat) (listed:Array Bool) (s:St) (c:Cx) (a:Act),listed.size=ops.size->(∃U:List Nat,U.length<=fuel/\∀i,i < ops.size->listed.getD i false=false->i∈U)->
   Inv X ops st (λi=>listed.getD i false=true) s->Rel B c s a->wpAny X.P .any ops Q fuel listed a c.w:=by
 have hdone:∀ (listed:Array Bool) (s:St) (c:Cx) (a:Act),listed.size=ops.size->Inv X ops st (λi=>listed.getD i false=true) s->Rel B c s a->Region.ready .any ops listed=[]->Q .normal a c.w:=by
  intro listed s c a hsz hI h hr
  have hall:∀i,i < ops.size->listed.getD i false=true:=by
   intro i
   induction i using Nat.strongRecOn with
   | _ i ih=>
    intro hi
    cases hl:listed.getD i false with
    | true=>rfl
    | false=>
     obtain ⟨o,ho⟩:=DQ hi
     have:i∈Region.ready .any ops listed:=mem_ready.2 ⟨by rw [BQ (by omega) true false];exact hl,o,ho,λe he hb=>ih e.on (p.edge i o ho e he hb) (by have:=p.edge i o ho e he hb;omega)⟩
     rw [hr] at this;simp at this
  exact hQ c a (hI.end p hall h)
 intro fuel
 induction fuel with
 | zero=>
  intro listed s c a hsz hU hI h
  have hr:Region.ready .any ops listed=[]:=by
   cases hr:Region.ready .any ops listed with
   | nil=>rfl
   | cons i r=>
    have hi:i∈Region.ready .any ops listed:=by rw [hr];simp
    obtain ⟨h0,o,ho,_⟩:=mem_ready.1 hi
    have hin:=(Array.getElem?_eq_some_iff.1 ho).1
    obtain ⟨U,h1,h2⟩:=hU
    have:=h2 i hin (by rw [BQ (by omega) false true];exact h0)
    have hUn:U=[]:=List.length_eq_zero_iff.1 (by omega)
    rw [hUn] at this;simp at this
  exact ⟨hr,hdone listed s c a hsz hI h hr⟩
 | succ fuel ih=>
  intro listed s c a hsz hU hI h
  refine ⟨hdone listed s c a hsz hI h,λi hi=>?_⟩
  obtain ⟨h0,o,ho,hall⟩:=mem_ready.1 hi
  have hin:=(Array.getElem?_eq_some_iff.1 ho).1
  have h0':listed.getD i false=false:=by rw [BQ (by omega) false true];exact h0
  obtain ⟨s',hI',hstep⟩:=p.next (B:=B) (c:=c) (a:=a) hX hG hN hI h ho (by simp [h0']) (λe he hb=>hall e he hb)
  refine hstep Q _ λa' c' hr=>?_
  have hset:∀j,(listed.setIfInBounds i true).getD j false=true↔(j=i∨listed.getD j false=true):=by
   intro j
   by_cases e:i=j
   ·subst e
    have:i < listed.size:=by omega
    simp [this]
   ·rw [getD_set_ne false e]
    exact ⟨.inr,λh=>h.resolve_left (λx=>e x.symm)⟩
  refine ih _ s' c' a' (by simpa using hsz) ?_ ?_ hr
  ·obtain ⟨U,h1,h2⟩:=hU
   have hiU:=h2 i hin h0'
   refine ⟨U.erase i,?_,λj hj hjn=>?_⟩
   ·rw [List.length_erase_of_mem hiU];omega
   ·have hne:j≠i:=by rintro rfl;rw [(hset j).2 (.inl rfl)] at hjn;cases hjn
    refine (List.mem_erase_of_ne hne).2 (h2 j hj ?_)
    cases hl:listed.getD j false with
    | false=>rfl
    | true=>rw [(hset j).2 (.inr hl)] at hjn;cases hjn
  ·have:(λj=>(listed.setIfInBounds i true).getD j false=true)=λj=>j=i∨listed.getD j false=true:=by funext j;exact propext (hset j)
   rw [this];exact hI'
theorem uP (hX:dX X) (hG:X.G=B.G) (hm:X.P.follows .mixedOrders=true) {id:Nat} {k:St->Res} {r:AV×List AO} {Q:Exit->Act->World->Prop} (he:mG X ops s k=some r) (h:Rel B c s a) (hn:cz s)
  (hN:∀o∈ops.toList,∀d,o.dst=some d->d < B.N) (hk:∀s' c' a',k s'=some r->Rel B c' s' a'->cz s'->Q .normal a' c'.w):(Code.region id ops true).wp X.P Q a c.w:=by
 apply wp_region_any hm
 unfold mG at he
 obtain ⟨hb,he⟩:=bB he
 simp only [Bool.and_eq_true] at hb
 obtain ⟨st,h0,h1,h2,fps,h3,h4,h5⟩:=s7 ops.toList 0 [] s (λj=>by simp) he
 obtain ⟨hfp,h3⟩:=bB h3
 simp only [List.nil_append,Nat.zero_add] at hfp h3
 have hlen:ops.toList.length=ops.size:=by simp
 rw [hlen] at h3
 have p:Plan X ops st:=by
  refine ⟨⟨λi o ho=>h1 i o (Nat.zero_le _) ho,λi o j t w ho hg ht k q hk hq=>h2 i o j t w (Nat.zero_le _) ho hg ht k q hk hq⟩,by rw [h0];exact hn,λi j o q d hi hj ho hq=>(jM hb.1).2 i j o q d (by simpa using hi) (by simpa using hj) ho hq,
   λi o ho e he hbe=>by have:=re hb.2 i o (by simpa using ho) e he hbe;omega,λi j o q hij hi hj=>?_⟩
  have:=vW hfp i j _ _ hij (h5 i o (Nat.zero_le _) hi) (h5 j q (Nat.zero_le _) hj)
  have hfi:∀ (k:Nat) (x:Oper) (s:St),(eY X s ops k x).i=k:=by
   intro k x s
   simp only [eY]
   split
   ·rfl
   ·split <;> rfl
  rw [hfi,hfi] at this
  exact this
 have hrel:Rel B c.drew s a:=h.keep (Cx.j9 c s.objs) (Cx.oY h.good)
 refine p.run (B:=B) hX hG hN (λc' a' hr=>hk _ c' a' h3 hr.purge (cz.purge _)) ops.size _ s c.drew a (by simp) ⟨List.range ops.size,by simp,λi hi _=>by simpa using hi⟩ ?_ hrel
 have hf:∀i,(Array.replicate ops.size false).getD i false=true↔False:=by
  intro i;simp [Array.getD_eq_getD_getElem?,Array.getElem?_replicate];split <;> rfl
 refine ⟨λt j o hj=>((hf j).1 hj).elim,λt _=>by rw [h0],λk=>⟨0,Nat.zero_le _,by rw [h0],λj o _ _=>⟨λhj=>((hf j).1 hj).elim,λhj=>by omega⟩⟩,λj o hj=>((hf j).1 hj).elim,λt tc w v hg=>?_⟩
 have:=hn t _ hg
 simp [AV.dH] at this
end Go.Ab
namespace Go.Ab
open Go Go.RowKit
variable {P:Program} {B:Base} {c:Cx} {s:St} {a:Act}
theorem iJ {env:List (Nat×AV)}:∀ {ks:List Nat} {t:Nat} {v:AV},alook (l7 env ks) t=some v->alook env t=some v
 | [],t,v,h=>by simp [l7,alook] at h
 | k::r,t,v,h=>by
  simp only [l7] at h
  cases hk:alook env k with
  | none=>simp only [hk] at h;exact iJ h
  | some u=>
   simp only [hk,alook] at h
   by_cases e:k=t
   ·subst e;simp at h;rw [hk,h]
   ·rw [mW e,cond_false] at h;exact iJ h
theorem kU {objs:List (Nat×AO)} {k:Nat} {r:List Nat} {u:AO} (h:alook objs k=some u):cV objs (k::r)=(k,u)::cV objs r∨(cV objs (k::r)=cV objs r/\¬ aa<=k):=by
 simp only [cV,h]
 cases u with
 | gone=>
  cases hb:Nat.ble aa k with
  | true=>exact .inl rfl
  | false=>exact .inr ⟨rfl,λhle=>by rw [Nat.ble_eq_true_of_le hle] at hb;cases hb⟩
 | _=>exact .inl rfl
theorem oJ {objs:List (Nat×AO)} {k:Nat} {r:List Nat} (h:alook objs k=none):cV objs (k::r)=cV objs r:=by
 simp only [cV,h]
theorem gP {objs:List (Nat×AO)}:∀ {ks:List Nat} {t:Nat} {v:AO},alook (cV objs ks) t=some v->alook objs t=some v
 | [],t,v,h=>by simp [cV,alook] at h
 | k::r,t,v,h=>by
  cases hk:alook objs k with
  | none=>rw [oJ hk] at h;exact gP h
  | some u=>
   rcases kU (r:=r) hk with e0 | ⟨e0,_⟩
   ·rw [e0] at h
    simp only [alook] at h
    by_cases e:k=t
    ·subst e;simp at h;rw [hk,h]
    ·rw [mW e,cond_false] at h;exact gP h
   ·rw [e0] at h;exact gP h
theorem oE {objs:List (Nat×AO)} {k:Nat} (hl:live objs k) (hb:aa<=k):∀ {ks:List Nat},k∈ks->live (cV objs ks) k
 | [],h=>by simp at h
 | q::r,h=>by
  by_cases e:q=k
  ·subst e
   obtain ⟨o,ho⟩:=hl
   rcases kU (r:=r) ho with e0 | ⟨_,e1⟩
   ·rw [e0];exact ⟨o,by simp [alook]⟩
   ·exact absurd hb e1
  ·have hr:=oE hl hb (ks:=r) (by rcases List.mem_cons.1 h with rfl | h;exact absurd rfl e;exact h)
   cases hq:alook objs q with
   | none=>rw [oJ hq];exact hr
   | some u=>
    rcases kU (r:=r) hq with e0 | ⟨e0,_⟩
    ·rw [e0];obtain ⟨o,ho⟩:=hr;exact ⟨o,by simp [alook,mW e,ho]⟩
    ·rw [e0];exact hr
theorem HJ {objs:List (Nat×AO)} {k:Nat} (hl:live objs k) (hb:aa<=k):k∈Cm objs:=by
 induction objs with
 | nil=>obtain ⟨o,h⟩:=hl;simp [alook] at h
 | cons p r ih=>
  obtain ⟨q,o⟩:=p
  simp only [Cm]
  by_cases e:q=k
  ·subst e;rw [Nat.ble_eq_true_of_le hb];simp
  ·obtain ⟨o',ho'⟩:=hl
   simp only [alook,mW e,cond_false] at ho'
   have:=ih ⟨o',ho'⟩
   cases Nat.ble aa q <;> simp [this]
theorem Bq {env:List (Nat×AV)} {t:Nat} {v:AV} (h:alook env t=some v):∀k∈v.keys,k∈xR env:=by
 induction env with
 | nil=>simp [alook] at h
 | cons p r ih=>
  obtain ⟨q,u⟩:=p
  intro k hk
  simp only [xR,List.mem_append]
  simp only [alook] at h
  by_cases e:q=t
  ·subst e;simp at h;subst h;exact .inl hk
  ·rw [mW e,cond_false] at h;exact .inr (ih h k hk)
theorem uS {objs:List (Nat×AO)} {t:Nat} {v:AO} (h:alook objs t=some v):∀k∈v.keys,k∈mZ objs:=by
 induction objs with
 | nil=>simp [alook] at h
 | cons p r ih=>
  obtain ⟨q,u⟩:=p
  intro k hk
  simp only [mZ,List.mem_append]
  simp only [alook] at h
  by_cases e:q=t
  ·subst e;simp at h;subst h;exact .inl hk
  ·rw [mW e,cond_false] at h;exact .inr (ih h k hk)
theorem Rel.reslot (h:Rel B c s a) {t:Nat} {v:AV} (hs:Sees B c s v (a.tmps.getD t undef)) (_:cz s):Rel B c (s.put (some t) v) a:=by
 refine ⟨h.good,h.frame,by rw [St.eP];exact h.objs,λq u hu=>?_,λq u hu k hk'=>?_,λk o b ho=>h.mine k o b (by simpa using ho),h.tmps,h.defers,by rw [St.eP];exact h.kept⟩
 ·rw [St.fL] at hu
  by_cases e:t=q
  ·subst e;simp at hu;subst hu;exact fX.vK hs.plain hs.rep
  ·rw [if_neg e] at hu;exact h.env q u hu
 ·rw [St.eP]
  rw [St.fL] at hu
  by_cases e:t=q
  ·subst e;simp at hu;subst hu;exact hs.live k hk'
  ·rw [if_neg e] at hu;exact h.closed q u hu k hk'
theorem cz.put {s:St} (h:cz s) {t:Nat} {v:AV} (hv:v.dH=false):cz (s.put (some t) v):=by
 intro q u hu
 rw [St.fL] at hu
 by_cases e:t=q
 ·subst e;simp at hu;subst hu;exact hv
 ·rw [if_neg e] at hu;exact h q u hu
theorem tB (key:Nat) (z:List AV) (sz n:Nat) (get:Nat->List AV):(rF key z sz n get).dH=false/\(rF key z sz n get).keys=[key]/\(rF key z sz n get).one=true:=by
 unfold rF;cases Nat.beq n 0 <;> exact ⟨rfl,rfl,rfl⟩
theorem oB (h:Rel B c s a) {sz n:Nat} {get:Nat->List AV} {X:Value} (hx:Rep c (.sl .fit sz n get) X) {key:Nat} (hk:s.obj key=none) {z:List AV} (hz:0 < rE z sz n) :
  ∃c',c'.β=c.β/\c'.w=c.w/\Rel B c' (s.setObj key (.own (rE z sz n) n)) a/\Sees B c' (s.setObj key (.own (rE z sz n) n)) (rF key z sz n get) X:=by
 have hown:aF c .fit n X:=by cases hx <;> assumption
 by_cases hn:n=0
 ·subst hn
  exact mo (sz:=z.length) (get':=λ_=>z) h hz hx ⟨.inl ⟨rfl,hk⟩,hown⟩ (.inl rfl) (λj hj=>by omega)
 ·have e1:rE z sz n=sz:=by simp [rE,mW hn]
  have e2:rF key z sz n get=.sl (.key key) sz n get:=by simp [rF,mW hn]
  rw [e1,e2]
  rw [e1] at hz
  exact mo (sz:=sz) (get':=get) h hz hx ⟨.inl ⟨rfl,hk⟩,hown⟩ (.inr rfl) (λj hj=>rfl)
theorem ig:∀ {l:List (Nat×Nat×TypeId)} {s s':St} {c:Cx},Rel B c s a->cz s->iO P s l=some s'->∃c',c'.w=c.w/\Rel B c' s' a/\cz s'
 | [],s,s',c,h,hn,he=>by simp [iO] at he;subst he;exact ⟨c,rfl,h,hn⟩
 | (t,key,e)::r,s,s',c,h,hn,he=>by
  simp only [iO] at he
  split at he
  ·rename_i sz n get hg
   split at he
   ·rename_i z hk hz
    obtain ⟨hb,he⟩:=al he
    have hE:Rep c (.sl .fit sz n get) (a.tmps.getD t undef):=h.env t _ hg
    obtain ⟨c1,e0,e1,e2,e3⟩:=oB h hE hk (ltB hb)
    have hn1:cz (s.setObj key (.own (rE z sz n) n)):=hn
    obtain ⟨c2,f1,f2,f3⟩:=ig (e2.reslot e3 hn1) (hn1.put (tB _ _ _ _ _).1) he
    exact ⟨c2,f1.trans e1,f2,f3⟩
   ·simp at he
  ·exact ig h hn he
theorem tK {cs:List AV} {i:Nat} {v:AV}:∀k∈ak (cs.set i v),k∈v.keys∨k∈ak cs:=by
 induction cs generalizing i with
 | nil=>intro k hk;simp [ak] at hk
 | cons u r ih=>
  intro k hk
  cases i with
  | zero=>
   simp only [List.set_cons_zero,ak,List.mem_append] at hk
   simp only [ak,List.mem_append]
   rcases hk with hk | hk
   ·exact .inl hk
   ·exact .inr (.inr hk)
  | succ i=>
   simp only [List.set_cons_succ,ak,List.mem_append] at hk
   simp only [ak,List.mem_append]
   rcases hk with hk | hk
   ·exact .inr (.inl hk)
   ·rcases ih k hk with h | h
    ·exact .inl h
    ·exact .inr (.inr h)
theorem dY:∀ {l:List (Nat×Nat×Nat×TypeId)} {s s':St} {c:Cx},Rel B c s a->cz s->eh P s l=some s'->∃c',c'.w=c.w/\Rel B c' s' a/\cz s'
 | [],s,s',c,h,hn,he=>by simp [eh] at he;subst he;exact ⟨c,rfl,h,hn⟩
 | (ob,off,key,e)::r,s,s',c,h,hn,he=>by
  simp only [eh] at he
  split at he
  ·rename_i cs hob
   split at he
   ·rename_i sz n get hg
    split at he
    ·rename_i z hk hz
     obtain ⟨hb,he⟩:=al he
     have hne:key≠ob:=by rintro rfl;rw [hk] at hob;cases hob
     obtain ⟨⟨⟨vs,t,hh,hs,hv⟩,h1⟩,hI,hfr⟩:=h.objs.rep ob _ hob
     obtain ⟨c1,e0,e1,e2,e3⟩:=oB h (hv off _ hg) hk (ltB hb)
     have hob1:alook (aput s.objs key (.own (rE z sz n) n)) ob=some (.cells cs):=by rw [aV,if_neg hne];exact hob
     obtain ⟨⟨⟨vs1,t1,hh1,hs1,hv1⟩,h11⟩,hI1,hfr1⟩:=e2.objs.rep ob _ hob1
     rw [e0,e1,hh] at hh1
     simp only [Option.some.injEq,Obj.cells.injEq] at hh1
     obtain ⟨rfl,rfl,_⟩:=hh1
     let s1:St:=s.setObj key (.own (rE z sz n) n)
     have hoff:off < cs.length:=(List.getElem?_eq_some_iff.1 hg).1
     have hget:∀ (i:Nat) (u:AV),(cs.set off (rF key z sz n get))[i]?=some u->(i=off/\u=rF key z sz n get)∨cs[i]?=some u:=by
      intro i u hu
      rw [List.getElem?_set] at hu
      by_cases e:off=i
      ·subst e;simp [hoff] at hu;exact .inl ⟨rfl,hu.symm⟩
      ·rw [if_neg e] at hu;exact .inr hu
     have hrel:Rel B c1 (s1.setObj ob (.cells (cs.set off (rF key z sz n get)))) a:=by
      refine e2.obj (k:=ob) ((Keeps.refl c1 s1.objs).but ob) (Grow.refl e2.good) ⟨⟨⟨vs,t,by rw [e0,e1];exact hh,by rw [hs,List.length_set],λi u hu=>?_⟩,λi u hu=>?_⟩,hI1,hfr1⟩
       (λq o' b hq hne' hb' e=>e2.objs.apart q o' ob _ b hq hob1 hne' hb' e) (λq hq=>?_) (λb hb'=>e2.mine ob _ b hob1 hb')
      ·rcases hget i u hu with ⟨rfl,rfl⟩ | hu
       ·exact e3.rep
       ·exact hv1 i u hu
      ·rcases hget i u hu with ⟨rfl,rfl⟩ | hu
       ·exact (tB _ _ _ _ _).2.2
       ·exact h1 i u hu
      ·simp only [AO.keys] at hq
       rcases tK q hq with hq | hq
       ·exact .inr (e3.live q hq)
       ·exact .inr (e2.objs.closed ob _ hob1 q (by simpa [AO.keys] using hq))
     obtain ⟨c2,f1,f2,f3⟩:=dY hrel hn he
     exact ⟨c2,f1.trans e1,f2,f3⟩
    ·simp at he
   ·exact dY h hn he
  ·exact dY h hn he
theorem mn (h:Rel B c s a) (hn:cz s) (hK:∀k,B.K k->aa<=k) {hint:Hint} {s':St} (he:ri P hint s=some s'):∃c',c'.w=c.w/\Rel B c' s' a/\cz s':=by
 unfold ri at he
 dsimp only at he
 obtain ⟨hb,he⟩:=bB he
 simp only [Bool.and_eq_true] at hb
 obtain ⟨s2,h1,he⟩:=ag he
 have hr:Rel B c {env:=l7 s.env hint.keep,objs:=cV s.objs (hint.objs++Cm s.objs)} a:=by
  refine h.less (λk hk=>oE (h.kept k hk) (hK k hk) (List.mem_append_right _ (HJ (h.kept k hk) (hK k hk)))) (λt v hv=>iJ hv) (λk o ho=>gP ho)
   (λt v hv k hk=>oZ (cL hb.1 k (Bq hv k hk))) (λk o ho q hq=>oZ (cL hb.2 q (uS ho q hq)))
 have hn1:cz {env:=l7 s.env hint.keep,objs:=cV s.objs (hint.objs++Cm s.objs)}:=λt v hv=>hn t v (iJ hv)
 obtain ⟨c1,e1,e2,e3⟩:=ig hr hn1 h1
 obtain ⟨c2,f1,f2,f3⟩:=dY e2 e3 he
 exact ⟨c2,f1.trans e1,f2,f3⟩
end Go.Ab
namespace Go.Ab
open Go Go.RowKit
variable {B:Base} {c:Cx} {s:St} {a:Act} {X:Cfg}
def Ex.to:Ex->Exit
 | .nor=>.normal
 | .exit id=>.exit id
 | .ret=>.ret
def pj (P:Program) (c:Code) (Q:Exit->Act->World->Prop) (a:Act) (w:World):Prop:=
 ∀ (b:Go.Frame) (k:List Item) (cs:List Go.Frame),∃e a' w',Q e a' w'/\Arrives P (lone (b.at a (.code c::.inLoop c::k)) cs w) b k cs e a' w'
theorem pj.unroll {P:Program} {c:Code} {Q:Exit->Act->World->Prop} {a:Act} {w:World} (h:c.wp P (Exit.then (pj P c Q) Q) a w):pj P c Q a w:=by
 intro b k cs
 obtain ⟨e,a₁,w₁,hq,harr⟩:=h b (.inLoop c::k) cs
 cases e with
 | normal=>
  obtain ⟨e₂,a₂,w₂,hq₂,harr₂⟩:=hq b k cs
  exact ⟨e₂,a₂,w₂,hq₂,.of_steps (Steps.trans harr (.one step_inLoop)) harr₂⟩
 | exit id=>exact ⟨_,a₁,w₁,hq,.pass (x:=.inLoop c) rfl (λ_ _=>.inl (by simp)) harr⟩
 | goto l=>exact ⟨_,a₁,w₁,hq,.pass (x:=.inLoop c) rfl (λ_ _=>.inl (by simp)) harr⟩
 | ret=>exact ⟨_,a₁,w₁,hq,.pass (x:=.inLoop c) rfl (λ_ _=>.inl (by simp)) harr⟩
 | panic ch=>exact ⟨_,a₁,w₁,hq,.pass (x:=.inLoop c) rfl (λ_ _=>.inl (by simp)) harr⟩
 | outgrown=>exact ⟨_,a₁,w₁,hq,.pass (x:=.inLoop c) rfl (λ_ _=>.inl (by simp)) harr⟩
theorem pj.wp {P:Program} {c:Code} {Q:Exit->Act->World->Prop} {a:Act} {w:World} (h:pj P c Q a w):(Code.loop c).wp P Q a w:=λb k cs=>
 let ⟨e,a',w',q,r⟩:=h b k cs;⟨e,a',w',q,.of_steps (.one step_loop) r⟩
def Sound (X:Cfg) (B:Base) (code:Code) (run:St->(Ex->St->Res)->Res):Prop:=
 ∀ (s:St) (c:Cx) (a:Act) (k:Ex->St->Res) (r:AV×List AO) (Q:Exit->Act->World->Prop),run s k=some r->Rel B c s a->cz s->
  (∀ex s' c' a',k ex s'=some r->Rel B c' s' a'->cz s'->Q ex.to a' c'.w)->code.wp X.P Q a c.w
theorem nN {body:Code} {run:St->(Ex->St->Res)->Res} (hb:Sound X B body run) (hK:∀k,B.K k->aa<=k) {h:Hint}:∀ (n:Nat) (s:St) (c:Cx) (a:Act) (k:Ex->St->Res) (r:AV×List AO) (Q:Exit->Act->World->Prop),
  uV X.P run h n s k=some r->Rel B c s a->cz s->(∀ex s' c' a',k ex s'=some r->Rel B c' s' a'->cz s'->Q ex.to a' c'.w)->pj X.P body Q a c.w
 | 0,s,c,a,k,r,Q,he,_,_,_=>by simp [uV] at he
 | n+1,s,c,a,k,r,Q,he,hr,hn,hk=>by
  simp only [uV] at he
  obtain ⟨s1,h1,he⟩:=ag he
  obtain ⟨c1,e1,e2,e3⟩:=mn hr hn hK h1
  apply pj.unroll
  rw [<-e1]
  refine hb s1 c1 a _ r _ he e2 e3 λex s' c' a' hex hr' hn'=>?_
  cases ex with
  | nor=>exact nN hb hK n s' c' a' k r Q hex hr' hn' hk
  | exit id=>exact hk _ s' c' a' hex hr' hn'
  | ret=>exact hk _ s' c' a' hex hr' hn'
theorem bK:∀ (c:Code) (p:List Nat) (i:Nat),ef c (p++[i])=ef (ef c p) [i]
 | c,[],i=>by simp [ef]
 | .seq a b,0::r,i=>by simp only [List.cons_append,ef];exact bK a r i
 | .seq a b,(j+1)::r,i=>by simp only [List.cons_append,ef];exact bK b r i
 | .cond q a b,0::r,i=>by simp only [List.cons_append,ef];exact bK a r i
 | .cond q a b,(j+1)::r,i=>by simp only [List.cons_append,ef];exact bK b r i
 | .block id b,j::r,i=>by simp only [List.cons_append,ef];exact bK b r i
 | .loop b,j::r,i=>by simp only [List.cons_append,ef];exact bK b r i
 | .scope b,j::r,i=>by simp only [List.cons_append,ef];exact bK b r i
 | .skip,_::_,i | .region ..,_::_,i | .exit _,_::_,i | .ret,_::_,i | .goto _,_::_,i | .label _,_::_,i | .rangeFunc ..,_::_,i | .refuse _,_::_,i=>by simp [ef]
theorem nB {P:Program} (h:Rel B c s a) (hn:cz s) (hK:∀k,B.K k->aa<=k) {hint:Option Hint} {s':St} (he:F0 P hint s=some s'):∃c',c'.w=c.w/\Rel B c' s' a/\cz s':=by
 cases hint with
 | none=>
  simp only [F0,Option.some.injEq] at he
  subst he
  exact ⟨c,rfl,h,hn⟩
 | some _=>exact mn h hn hK he
def BA (X:Cfg) (f:FuncId) (n m:Nat) (c:Code) (p:List Nat) (s:St) (k:Ex->St->Res):Res:=
 match c with
 | .loop b=>kj X f n b (p++[0]) s λe s'=>match e with
  | .nor=>uV X.P (kj X f n b (p++[0])) (X.hint f (px b)) m s' k
  | e=>k e s'
 | _=>none
structure OracOk (X:Cfg) (f:FuncId):Prop where
 cut:∀p g,X.cutO f p=some g->∀s k r,g s k=some r->∃n,kj X f n (ef (bD X.P f) p) p s k=some r
 view:∀p g,X.viewO f p=some g->∀s k r,g s k=some r->∃s',k s'=some r/\∀ (B:Base) (c:Cx) (a:Act),Rel B c s a->cz s->∃c',c'.w=c.w/\Rel B c' s' a/\cz s'
 loop:∀p g,X.loopO f p=some g->∀s k r,g s k=some r->∃n m,BA X f n m (ef (bD X.P f) p) p s k=some r
theorem dq (hX:dX X) (hG:X.G=B.G) (hm:X.P.follows .mixedOrders=true) (hK:∀k,B.K k->aa<=k) (f:FuncId) (hO:OracOk X f):∀ (code:Code) (p:List Nat),ef (bD X.P f) p=code->codeOk B.N code=true->∀n,Sound X B code (kj X f n code p)
 | .skip,_,_,_,n=>λs c a k r Q he hr hn hk=>wp_skip (hk .nor s c a he hr hn)
 | .region id ops draw,p,_,hN,n=>λs c a k r Q he hr hn hk=>by
  have hN':∀o∈ops.toList,∀d,o.dst=some d->d < B.N:=by
   intro o ho d hd
   simp only [codeOk] at hN
   have:=List.all_eq_true.1 hN o ho
   simp only [hd] at this
   exact ltB this
  simp only [kj] at he
  cases draw with
  | true=>exact uP hX hG hm he hr hn hN' λs' c' a' e1 e2 e3=>hk .nor s' c' a' e1 e2 e3
  | false=>exact s5 hX hG he hr hn hN' λs' c' a' e1 e2 e3=>hk .nor s' c' a' e1 e2 e3
 | .seq x y,p,hp,hN,n=>λs c a k r Q he hr hn hk=>by
  simp only [codeOk,Bool.and_eq_true] at hN
  simp only [kj] at he
  have hp1:ef (bD X.P f) (p++[0])=x:=by rw [bK,hp];simp [ef]
  have hp2:ef (bD X.P f) (p++[1])=y:=by rw [bK,hp];simp [ef]
  apply wp_seq
  refine dq hX hG hm hK f hO x _ hp1 hN.1 n s c a _ r _ he hr hn λex s' c' a' hex hr' hn'=>?_
  cases ex with
  | nor=>
   obtain ⟨s1,h1,hex⟩:=ag hex
   obtain ⟨c0,e01,e02,e03⟩:=nB hr' hn' hK h1
   have hv:∃s2 c2,(match X.cutO f (p++[1]) with | none=>kj X f n y (p++[1]) s2 k | some g=>g s2 k)=some r/\c2.w=c0.w/\Rel B c2 s2 a'/\cz s2:=by
    cases hv:X.viewO f (p++[1]) with
    | none=>simp only [Jz,hv] at hex;exact ⟨s1,c0,hex,rfl,e02,e03⟩
    | some g=>
     simp only [Jz,hv] at hex
     obtain ⟨s2,g1,g2⟩:=hO.view _ g hv _ _ _ hex
     obtain ⟨c2,g3,g4,g5⟩:=g2 B c0 a' e02 e03
     exact ⟨s2,c2,g1,g3,g4,g5⟩
   clear hex
   obtain ⟨s1,c1,hex,e1,e2,e3⟩:=hv
   rw [<-e01,<-e1]
   cases hc:X.cutO f (p++[1]) with
   | none=>
    simp only [hc] at hex
    exact dq hX hG hm hK f hO y _ hp2 hN.2 n s1 c1 a' k r Q hex e2 e3 hk
   | some g=>
    simp only [hc] at hex
    obtain ⟨n',hn'⟩:=hO.cut _ g hc s1 k r hex
    rw [hp2] at hn'
    exact dq hX hG hm hK f hO y _ hp2 hN.2 n' s1 c1 a' k r Q hn' e2 e3 hk
  | exit id=>exact hk _ s' c' a' hex hr' hn'
  | ret=>exact hk _ s' c' a' hex hr' hn'
 | .cond q x y,p,hp,hN,n=>λs c a k r Q he hr hn hk=>by
  simp only [codeOk,Bool.and_eq_true] at hN
  simp only [kj] at he
  have hp1:ef (bD X.P f) (p++[0])=x:=by rw [bK,hp];simp [ef]
  have hp2:ef (bD X.P f) (p++[1])=y:=by rw [bK,hp];simp [ef]
  split at he
  ·rename_i t ht
   rw [hG] at ht
   have hs:=(au hr (ch:=[]) (λt w hm=>by simp at hm) ht).rep
   have hq:a.eval q=.bool t:=by generalize a.eval q=V at hs;cases hs;rfl
   cases t with
   | true=>exact wp_cond hq (dq hX hG hm hK f hO x _ hp1 hN.1 n s c a k r Q he hr hn hk)
   | false=>exact wp_cond hq (dq hX hG hm hK f hO y _ hp2 hN.2 n s c a k r Q he hr hn hk)
  ·simp at he
 | .block id b,p,hp,hN,n=>λs c a k r Q he hr hn hk=>by
  simp only [codeOk] at hN
  simp only [kj] at he
  have hp1:ef (bD X.P f) (p++[0])=b:=by rw [bK,hp];simp [ef]
  apply wp_block
  refine dq hX hG hm hK f hO b _ hp1 hN n s c a _ r _ he hr hn λex s' c' a' hex hr' hn'=>?_
  cases ex with
  | nor=>exact hk _ s' c' a' hex hr' hn'
  | exit id'=>
   simp only [Ex.to,Exit.inBlock]
   by_cases e:id'=id
   ·subst e
    simp only [Nat.beq_refl,cond_true] at hex
    rw [if_pos rfl];exact hk .nor s' c' a' hex hr' hn'
   ·simp only [mW e,cond_false] at hex
    rw [if_neg e];exact hk (.exit id') s' c' a' hex hr' hn'
  | ret=>exact hk _ s' c' a' hex hr' hn'
 | .loop b,p,hp,hN,n=>λs c a k r Q he hr hn hk=>by
  simp only [codeOk] at hN
  simp only [kj] at he
  have hp1:ef (bD X.P f) (p++[0])=b:=by rw [bK,hp];simp [ef]
  have hb:=dq hX hG hm hK f hO b _ hp1 hN
  cases hc:X.loopO f p with
  | none=>
   simp only [hc] at he
   exact (nN (hb n) hK n s c a k r Q he hr hn hk).wp
  | some g=>
   simp only [hc] at he
   obtain ⟨s1,h1,he⟩:=ag he
   obtain ⟨n',m,he⟩:=hO.loop _ g hc s1 k r he
   rw [hp] at he
   simp only [BA] at he
   obtain ⟨c1,e1,e2,e3⟩:=mn hr hn hK h1
   refine pj.wp (pj.unroll ?_)
   rw [<-e1]
   refine hb n' s1 c1 a _ r _ he e2 e3 λex s' c' a' hex hr' hn'=>?_
   cases ex with
   | nor=>exact nN (hb n') hK m s' c' a' k r Q hex hr' hn' hk
   | exit id=>exact hk _ s' c' a' hex hr' hn'
   | ret=>exact hk _ s' c' a' hex hr' hn'
 | .exit id,_,_,_,n=>λs c a k r Q he hr hn hk=>by
  simp only [kj] at he
  obtain ⟨s1,h1,he⟩:=ag he
  obtain ⟨c1,e1,e2,e3⟩:=nB hr hn hK h1
  rw [<-e1]
  exact wp_exit (hk (.exit id) s1 c1 a he e2 e3)
 | .ret,_,_,_,n=>λs c a k r Q he hr hn hk=>by
  simp only [kj] at he
  obtain ⟨s1,h1,he⟩:=ag he
  obtain ⟨c1,e1,e2,e3⟩:=nB hr hn hK h1
  rw [<-e1]
  exact wp_ret (hk .ret s1 c1 a he e2 e3)
 | .goto _,_,_,_,n=>λs c a k r Q he hr hn hk=>by simp [kj] at he
 | .label _,_,_,_,n=>λs c a k r Q he hr hn hk=>by
  simp only [kj] at he
  exact wp_label (hk .nor s c a he hr hn)
 | .scope b,p,hp,hN,n=>λs c a k r Q he hr hn hk=>by
  simp only [codeOk] at hN
  simp only [kj] at he
  have hp1:ef (bD X.P f) (p++[0])=b:=by rw [bK,hp];simp [ef]
  refine wp_scope_straight (dq hX hG hm hK f hO b _ hp1 hN n s c a k r _ he hr hn λex s' c' a' hex hr' hn'=>?_)
  cases ex with
  | nor=>exact hk .nor s' c' a' hex hr' hn'
  | exit id=>exact hk (.exit id) s' c' a' hex hr' hn'
  | ret=>exact hk .ret s' c' a' hex hr' hn'
 | .rangeFunc ..,_,_,_,n=>λs c a k r Q he hr hn hk=>by simp [kj] at he
 | .refuse _,_,_,_,n=>λs c a k r Q he hr hn hk=>by simp [kj] at he
end Go.Ab
namespace Go.Ab
open Go Go.RowKit
theorem gQ:∀ (l:List AV) (b k:Nat),alook (eb l b) k=if b<=k then l[k - b]? else none
 | [],b,k=>by simp [eb,alook]
 | o::r,b,k=>by
  simp only [eb,alook]
  by_cases h:b=k
  ·subst h;simp
  ·rw [mW h,cond_false,gQ r (b+1) k]
   by_cases h1:b+1<=k
   ·rw [if_pos h1,if_pos (by omega)]
    have:k - b=(k - (b+1))+1:=by omega
    rw [this];simp
   ·rw [if_neg h1,if_neg (by omega)]
theorem iQ {os:List AO} {b k:Nat} (h:live (ab os b) k):b<=k/\k - b < os.length:=by
 obtain ⟨o,ho⟩:=h
 rw [bU] at ho
 by_cases hb:b<=k
 ·rw [if_pos hb] at ho;exact ⟨hb,(List.getElem?_eq_some_iff.1 ho).1⟩
 ·rw [if_neg hb] at ho;cases ho
def NF (tmps:Array Value):ResultVar->Sem Value
 | .tmp t=>pure (tmps.getD t undef)
 | .cell q t=>do loadVar t (<-asAddr (tmps.getD q undef))
theorem pD (fn:Func) (tmps:Array Value):results fn tmps=(fn.results.mapM (NF tmps) >>= λvs=>pure (if h:vs.size=1 then vs[0] else .tuple vs)):=by
 unfold results
 congr 1
theorem iy {B:Base} {c:Cx} {s:St} {a:Act} (X:Cfg) (h:Rel B c s a) (hn:cz s):∀ {l:List ResultVar} {vs:List AV},nH X s l=some vs->
  ∃xs:List Value,dR B c s vs xs/\(l.mapM (m:=Sem) (NF a.tmps)).run X.P c.w=.ok xs c.w
 | [],vs,he=>by simp [nH] at he;subst he;exact ⟨[],⟨rfl,λi u hu=>by simp at hu⟩,rfl⟩
 | r::l,vs,he=>by
  simp only [nH] at he
  obtain ⟨v,h1,he⟩:=ag he
  obtain ⟨us,h2,he⟩:=bz he
  subst he
  obtain ⟨xs,h3,h4⟩:=iy X h hn h2
  cases r with
  | cell q t=>
   simp only [A4] at h1
   split at h1
   ·rename_i k off hq
    obtain ⟨⟨b,u0⟩,hl,h1⟩:=ag h1
    obtain ⟨hb,h1'⟩:=al h1
    dsimp only at hb h1'
    simp only [Option.some.injEq] at h1'
    subst hb h1'
    have hE:Rep c (.ref k off) (a.tmps.getD q undef):=h.env q _ hq
    obtain ⟨x,g1,g2⟩:=tH h hE hl
    generalize hV:a.tmps.getD q undef=V at hE g1
    cases hE
    rw [gm] at g1
    refine ⟨x::xs,⟨by simp [h3.1],λi u hu=>?_⟩,?_⟩
    ·cases i with
     | zero=>simp at hu;subst hu;exact g2
     | succ i=>simpa using h3.2 i u (by simpa using hu)
    ·rw [List.mapM_cons]
     simp only [NF,hV,asAddr,pure_bind,Sem.run_bind,g1,h4,Result.andThen_ok,Sem.run_pure]
   ·cases h1
  | tmp t=>
   simp only [A4] at h1
   have hE:=h.env t v h1
   have hg:=hn t v h1
   have hr:Rep c v (a.tmps.getD t undef):=by cases v <;> first | exact hE | simp [AV.dH] at hg
   refine ⟨a.tmps.getD t undef::xs,⟨by simp [h3.1],λi u hu=>?_⟩,?_⟩
   ·cases i with
    | zero=>simp at hu;subst hu;exact ⟨hr,h.closed t v h1,hg⟩
    | succ i=>simpa using h3.2 i u (by simpa using hu)
   ·rw [List.mapM_cons]
    simp only [NF,pure_bind,Sem.run_bind,h4,Result.andThen_ok,Sem.run_pure]
theorem de {N M:Nat} (h:N<=M):∀ {c:Code},codeOk N c=true->codeOk M c=true
 | .region _ ops _,hc=>by
  simp only [codeOk] at hc ⊢
  rw [List.all_eq_true] at hc ⊢
  intro o ho
  have:=hc o ho
  cases hd:o.dst with
  | none=>rfl
  | some d=>simp only [hd] at this ⊢;exact k9 (Nat.lt_of_lt_of_le (ltB this) h)
 | .seq a b,hc=>by simp only [codeOk,Bool.and_eq_true] at hc ⊢;exact ⟨de h hc.1,de h hc.2⟩
 | .cond _ a b,hc=>by simp only [codeOk,Bool.and_eq_true] at hc ⊢;exact ⟨de h hc.1,de h hc.2⟩
 | .block _ b,hc=>by simp only [codeOk] at hc ⊢;exact de h hc
 | .loop b,hc=>by simp only [codeOk] at hc ⊢;exact de h hc
 | .scope b,hc=>by simp only [codeOk] at hc ⊢;exact de h hc
 | .skip,_ | .exit _,_ | .ret,_ | .goto _,_ | .label _,_ | .rangeFunc ..,_ | .refuse _,_=>by simp [codeOk]
theorem vy {X:Cfg} (hX:dX X) (hm:X.P.follows .mixedOrders=true) {f:FuncId} (hO:OracOk X f) {fn:Func} (hf:X.P.funcs[f]?=some fn) (hok:∀c,fn.body=some c->codeOk fn.ntmps c=true) {n:Nat} {args:List AV} {os:List AO}
  {r:AV} {os':List AO} (he:xf X n f args os=some (r,os')):rp X.P X.G f args os r os':=by
 unfold xf at he
 rw [hf] at he
 dsimp only at he
 cases hbody:fn.body with
 | none=>simp [hbody] at he
 | some code=>
  simp only [hbody] at he
  have hcode:=hok code hbody
  intro c0 vs hgood hobjs hsz hrep hkeys
  let a0:Act:={tmps:=vs++Array.replicate (fn.ntmps - vs.size) undef,defers:=[]}
  let B:Base:={c0:=c0,D:=held c0 (ab os aa),K:=live (ab os aa),G:=X.G,N:=a0.tmps.size}
  let s0:St:={env:=eb args 0,objs:=ab os aa}
  have hN:fn.ntmps<=B.N:=by simp [B,a0];omega
  have hcode':codeOk B.N code=true:=de hN hcode
  have hget:∀t v,s0.get t=some v->args[t]?=some v:=λt v hv=>by
   have:alook (eb args 0) t=some v:=hv
   rw [gQ,if_pos (Nat.zero_le _)] at this;simpa using this
  have hval:∀t v,args[t]?=some v->Rep c0 v (a0.tmps.getD t undef):=λt v hv=>by
   have hlt:t < vs.size:=by rw [hsz];exact (List.getElem?_eq_some_iff.1 hv).1
   have e:a0.tmps.getD t undef=vs.getD t undef:=by
    simp only [a0,Array.getD_eq_getD_getElem?]
    rw [Array.getElem?_append_left hlt]
   rw [e];exact hrep t v hv
  have hplain:∀t v,s0.get t=some v->v.dH=false:=λt v hv=>by
   have:=hval t v (hget t v hv)
   generalize a0.tmps.getD t undef=V at this
   cases this <;> rfl
  have h0:Rel B c0 s0 a0:=by
   refine ⟨hgood,⟨rfl,rfl,rfl,Nat.le_refl _,λ_ _ _=>rfl,Ext.refl _ _,λ_ _ _ _ hi=>hi⟩,hobjs,λt v hv=>fX.vK (hplain t v hv) (hval t v (hget t v hv)),
    λt v hv k hk=>hkeys k (aK (hget t v hv) k hk),λk o b ho hb=>.inr ⟨k,o,ho,hb⟩,rfl,rfl,λk hk=>hk⟩
  refine calls_of_wp hf hbody ?_
  refine dq (B:=B) hX rfl hm (λk hk=>(iQ hk).1) f hO code [] (by simp [bD,ef,hf,hbody]) hcode' n s0 c0 a0 _ (r,os') _ he h0 hplain λex s' c' a' hex hr' hn'=>?_
  have hfin:finish X fn os.length s'=some (r,os')->a'.defers=[]/\∃v,(results fn a'.tmps).run X.P c'.w=.ok v c'.w/\∃c2 x,Ending.returned v=.returned x/\c2.w=c'.w/\Good X.G c2 /\
   Frame {c0:=c0,D:=held c0 (ab os aa),K:=live (ab os aa),G:=X.G,N:=0} c2 /\
   Objs c2 (ab os' aa)/\Rep c2 r x/\(∀k∈r.keys,live (ab os' aa) k) /\
   ∀k o b,alook (ab os' aa) k=some o->excl c2 k o=some b->c0.w.heap.size<=b∨held c0 (ab os aa) b:=by
   intro hfin
   refine ⟨hr'.defers,?_⟩
   unfold finish at hfin
   simp only [jx] at hfin
   obtain ⟨rs,h1,hfin⟩:=ag hfin
   obtain ⟨⟨rs',o1⟩,h2,hfin⟩:=ag hfin
   dsimp only at hfin
   obtain ⟨os1,h3,hfin⟩:=ag hfin
   obtain ⟨hb,hfin⟩:=bB hfin
   simp only [Option.some.injEq,Prod.mk.injEq] at hfin
   obtain ⟨hres,rfl⟩:=hfin
   simp only [Bool.and_eq_true] at hb
   obtain ⟨xs,hs,hrun⟩:=iy X hr' hn' h1
   obtain ⟨c2,e1,e2,e3,e4,e5⟩:=dS hr' hs h2
   have hs2:=e3.shed
   have hfn:=hs2.fn
   obtain ⟨hlen,hlook⟩:=hH h3
   have hks:∀i,i < os.length->((List.range os.length).map (aa+·))[i]?=some (aa+i):=λi hi=>by simp [hi]
   have hl1:os1.length=os.length:=by rw [hlen];simp
   have hsub:∀k o,alook (ab os1 aa) k=some o->alook o1 k=some o:=by
    intro k o ho
    rw [bU] at ho
    by_cases hb:aa<=k
    ·rw [if_pos hb] at ho
     have hlt:=(List.getElem?_eq_some_iff.1 ho).1
     have:=(hlook _ _ (hks (k - aa) (by omega))).1
     rw [Nat.add_sub_cancel' hb] at this
     rw [this];exact ho
    ·rw [if_neg hb] at ho;cases ho
   have hmem:∀k,k∈(List.range os.length).map (aa+·)->live (ab os1 aa) k:=by
    intro k hk
    simp only [List.mem_map,List.mem_range] at hk
    obtain ⟨i,hi,rfl⟩:=hk
    refine ⟨os1[i]'(by omega),?_⟩
    rw [bU,if_pos (Nat.le_add_right _ _),Nat.add_sub_cancel_left]
    exact List.getElem?_eq_getElem _
   have hkk:∀k o,alook (ab os1 aa) k=some o->k∈(List.range os.length).map (aa+·):=by
    intro k o ho
    obtain ⟨h1,h2⟩:=iQ ⟨o,ho⟩
    simp only [List.mem_map,List.mem_range]
    exact ⟨k - aa,by omega,by omega⟩
   obtain ⟨v,hv,hrv,hrk⟩:∃v,(results fn a'.tmps).run X.P c'.w=.ok v c'.w/\Rep c2 r v/\∀k∈r.keys,k∈ak (bM rs'):=by
    have hm':(fn.results.mapM (m:=Sem) (NF a'.tmps)).run X.P c'.w=.ok xs.toArray c'.w:=by
     rw [Array.mapM_eq_mapM_toList]
     simp only [Sem.run_map]
     rw [hrun];rfl
    have hres':∀ (v:Value),(if h:xs.toArray.size=1 then xs.toArray[0] else Value.tuple xs.toArray)=v->(results fn a'.tmps).run X.P c'.w=.ok v c'.w:=by
     intro v hv
     rw [pD]
     simp only [Sem.run_bind,hm',Result.andThen_ok]
     rw [hv];rfl
    by_cases h1:xs.length=1
    ·obtain ⟨x,rfl⟩:=List.length_eq_one_iff.1 h1
     have hl:(bM rs').length=1:=by rw [<-hs2.1];rfl
     obtain ⟨u,hu⟩:=List.length_eq_one_iff.1 hl
     rw [hu] at hres
     dsimp only at hres
     subst hres
     refine ⟨x,hres' x (by simp),(hs2.2 0 u (by rw [hu];rfl)).rep,λk hk=>by rw [hu];simpa [ak] using hk⟩
    ·have hl:(bM rs').length≠1:=by rw [<-hs2.1];exact h1
     have hr:r=.tup (bM rs'):=by
      rw [<-hres]
      cases h:bM rs' with
      | nil=>rfl
      | cons u l=>cases l with
       | nil=>rw [h] at hl;simp at hl
       | cons _ _=>rfl
     subst hr
     refine ⟨.tuple xs.toArray,hres' _ (by rw [dif_neg];simpa using h1),.tup _ _ hfn.1 hfn.2.1,λk hk=>by simpa [AV.keys] using hk⟩
   refine ⟨v,hv,c2,v,rfl,e1,e2.good,⟨e2.frame.os,e2.frame.output,e2.frame.tape,e2.frame.size,e2.frame.block,e2.frame.ext,e2.frame.new⟩,⟨λk o ho=>e2.objs.rep k o (hsub k o ho),λk o k' o' b hk hk'=>e2.objs.apart k o k' o' b (hsub k o hk) (hsub k' o' hk'),λk o ho q hq=>?_⟩,
    hrv,λk hk=>hmem k (cL hb.1 k (hrk k hk)),λk o b ho hb'=>e2.mine k o b (hsub k o ho) hb'⟩
   exact hmem q (cL hb.2 q (dF (hkk k o ho) (hsub k o ho) q hq))
  cases ex with
  | exit id=>simp at hex
  | nor=>exact hfin hex
  | ret=>exact hfin hex
def ll (P:Program):Prop:=∀ (f:FuncId) (fn:Func),P.funcs[f]?=some fn->(fn.name=="runtime.NumGoroutine")=false/\∀c,fn.body=some c->codeOk fn.ntmps c=true
theorem Cv {V:Env} (hm:V.P.follows .mixedOrders=true) (hP:ll V.P)
  (hext:∀f l os r os',V.isExt f=true->V.pre f l os=true->V.ext f l os=some (r,os')->rp V.P V.G f l os r os'/\∃fn,V.P.funcs[f]?=some fn/\(fn.name=="runtime.NumGoroutine")=false/\fn.body.isSome=true) :
  ∀n,dX (V.cfg (EP V n))
 | 0=>λf l os r os' _ h=>by cases h
 | n+1=>λf l os r os' hp h=>by
  have h':E V (n+1) f l os=some (r,os'):=h
  rw [Sm] at h'
  cases he:V.isExt f with
  | true=>
   simp only [he,cond_true] at h'
   have hp':cond (V.isExt f) (V.pre f l os) true=true:=hp
   rw [he] at hp'
   exact hext f l os r os' he hp' h'
  | false=>
   simp only [he,cond_false] at h'
   have hX:=Cv hm hP hext n
   have hh:=h'
   unfold xf at hh
   cases hf:(V.cfg (EP V n)).P.funcs[f]? with
   | none=>simp only [hf] at hh;cases hh
   | some fn=>
    have hf':V.P.funcs[f]?=some fn:=hf
    obtain ⟨h1,h2⟩:=hP f fn hf'
    refine ⟨vy (X:=V.cfg (EP V n)) hX hm ⟨λp g hg=>(by cases hg),λp g hg=>(by cases hg),λp g hg=>(by cases hg)⟩ hf h2 h',fn,hf',h1,?_⟩
    cases hb:fn.body with
    | none=>simp only [hf,hb] at hh;cases hh
    | some c=>rfl
def Ct (P:Program) (G:Nat->Option (List AV)) (f:FuncId) (l:List AV) (os:List AO) (r:AV×List AO):Prop:=
 rp P G f l os r.1 r.2/\∃fn,P.funcs[f]?=some fn/\(fn.name=="runtime.NumGoroutine")=false/\fn.body.isSome=true
structure Ent where
 f:FuncId
 pre:List AV->List AO->Bool
 ans:List AV->List AO->AV×List AO
def mkE {τ:Type} (f:FuncId) (g:List AV->List AO->Bool) (v:List AV->List AO->τ) (φ:τ->AV×List AO):Ent:=⟨f,g,λl os=>φ (v l os)⟩
def qE:List Ent->FuncId->Option Ent
 | [],_=>none
 | e::r,f=>cond (Nat.beq e.f f) (some e) (qE r f)
abbrev Orc:=St->(Ex->St->Res)->Res
abbrev Vw:=St->(St->Res)->Res
def eqP:List Nat->List Nat->Bool
 | [],[]=>true
 | a::r,b::q=>Nat.beq a b&&eqP r q
 | _,_=>false
def Bj {α:Type}:List (List Nat×α)->List Nat->Option α
 | [],_=>none
 | e::r,p=>cond (eqP e.1 p) (some e.2) (Bj r p)
def hn (k o:List Nat) (p:List (Nat×Nat×TypeId)) (c:List (Nat×Nat×Nat×TypeId)):Hint:={keep:=k,objs:=o,promote:=p,promoteCell:=c}
def tr (p k o:List Nat):List Nat×Hint:=(p,{keep:=k,objs:=o})
def JH:List (List Nat×Hint)->List Nat->Option Hint
 | [],_=>none
 | e::r,p=>cond (eqP e.1 p) (some e.2) (JH r p)
def mkO {τ:Type} (g:St->Bool) (v:St->τ) (out:τ->(Ex->St->Res)->Res):Orc:=λs k=>cond (g s) (out (v s) k) none
def Env.tab (V:Env) (T:List Ent):Env:=
 {V with ext:=λf l os=>(qE T f).map λe=>e.ans l os,isExt:=λf=>(qE T f).isSome,pre:=λf l os=>match qE T f with | some e=>e.pre l os | none=>false}
def Env.run (V:Env) (T:List Ent) (d:Nat) (C L:List (List Nat×Orc)) (W:List (List Nat×Vw)) (f:FuncId):Cfg:=
 {(V.tab T).cfg (EP (V.tab T) d) with cutO:=λg p=>cond (Nat.beq g f) (Bj C p) none,loopO:=λg p=>cond (Nat.beq g f) (Bj L p) none,viewO:=λg p=>cond (Nat.beq g f) (Bj W p) none}
def Fv (V:Env) (T:List Ent):Prop:=∀e∈T,∀l os,e.pre l os=true->Ct V.P V.G e.f l os (e.ans l os)
theorem Ey {T:List Ent} {f:FuncId} {e:Ent} (h:qE T f=some e):e∈T/\e.f=f:=by
 induction T with
 | nil=>simp [qE] at h
 | cons x r ih=>
  simp only [qE] at h
  cases hb:Nat.beq x.f f with
  | true=>simp only [hb,cond_true,Option.some.injEq] at h;subst h;exact ⟨by simp,ez hb⟩
  | false=>simp only [hb,cond_false] at h;exact ⟨List.mem_cons_of_mem _ (ih h).1,(ih h).2⟩
theorem fF {α:Type} {C:List (List Nat×α)} {p:List Nat} {g:α} (h:Bj C p=some g):(p,g)∈C:=by
 have eqP_eq:∀ {a b:List Nat},eqP a b=true->a=b:=by
  intro a
  induction a with
  | nil=>intro b h;cases b <;> simp [eqP] at h ⊢
  | cons x r ih=>
   intro b h
   cases b with
   | nil=>simp [eqP] at h
   | cons y q=>simp only [eqP,Bool.and_eq_true] at h;rw [ez h.1,ih h.2]
 induction C with
 | nil=>simp [Bj] at h
 | cons x r ih=>
  simp only [Bj] at h
  cases hb:eqP x.1 p with
  | true=>simp only [hb,cond_true,Option.some.injEq] at h;subst h;rw [<-eqP_eq hb];simp
  | false=>simp only [hb,cond_false] at h;exact List.mem_cons_of_mem _ (ih h)
def UA (X:Cfg) (f:FuncId) (p:List Nat) (g:Orc):Prop:=∀s k r,g s k=some r->∃n,kj X f n (ef (bD X.P f) p) p s k=some r
def fW (g:Vw):Prop:=∀s k r,g s k=some r->∃s',k s'=some r/\∀ (B:Base) (c:Cx) (a:Act),Rel B c s a->cz s->∃c',c'.w=c.w/\Rel B c' s' a/\cz s'
def bH (X:Cfg) (f:FuncId) (p:List Nat) (g:Orc):Prop:=∀s k r,g s k=some r->∃n m,BA X f n m (ef (bD X.P f) p) p s k=some r
theorem ux {V:Env} {T:List Ent} (hm:V.P.follows .mixedOrders=true) (hP:ll V.P) (hT:Fv V T) (d:Nat) (C L:List (List Nat×Orc)) (W:List (List Nat×Vw)) (f:FuncId):dX (V.run T d C L W f):=by
 have h:=Cv (V:=V.tab T) hm hP (λg l os r os' hi hp he=>by
  simp only [Env.tab] at hi hp he
  cases hg:qE T g with
  | none=>simp [hg] at hi
  | some e=>
   obtain ⟨hmem,hf⟩:=Ey hg
   simp only [hg] at hp
   simp only [hg,Option.map_some,Option.some.injEq] at he
   have:=hT e hmem l os hp
   rw [hf,he] at this
   exact this) d
 exact h
theorem IL {V:Env} {T:List Ent} {d:Nat} {C L:List (List Nat×Orc)} {W:List (List Nat×Vw)} {f:FuncId} {n:Nat} {l:List AV} {os:List AO} {r:AV×List AO} (hm:V.P.follows .mixedOrders=true) (hP:ll V.P) (hT:Fv V T)
  (hC:∀e∈C,UA (V.run T d C L W f) f e.1 e.2) (hL:∀e∈L,bH (V.run T d C L W f) f e.1 e.2) (hW:∀e∈W,fW e.2)
  (he:xf (V.run T d C L W f) n f l os=some r):Ct V.P V.G f l os r:=by
 have hO:OracOk (V.run T d C L W f) f:=by
  refine ⟨λp g hg=>?_,λp g hg=>?_,λp g hg=>?_⟩
  ·simp only [Env.run,Nat.beq_refl,cond_true] at hg
   exact hC _ (fF hg)
  ·simp only [Env.run,Nat.beq_refl,cond_true] at hg
   exact hW _ (fF hg)
  ·simp only [Env.run,Nat.beq_refl,cond_true] at hg
   exact hL _ (fF hg)
 have hh:=he
 unfold xf at hh
 cases hf:(V.run T d C L W f).P.funcs[f]? with
 | none=>simp only [hf] at hh;cases hh
 | some fn=>
  have hf':V.P.funcs[f]?=some fn:=hf
  obtain ⟨h1,h2⟩:=hP f fn hf'
  refine ⟨vy (X:=V.run T d C L W f) (ux hm hP hT d C L W f) hm hO hf h2 he,fn,hf',h1,?_⟩
  cases hb:fn.body with
  | none=>simp only [hf,hb] at hh;cases hh
  | some c=>rfl
def Ji (X:Cfg) (f:FuncId) (L:List (List Nat×Orc)):Prop:=∀e∈L,bH X f e.1 e.2
theorem zH {X:Cfg} {f:FuncId} {p:List Nat} {g:Orc} {r:List (List Nat×Orc)} (h:bH X f p g) (hr:Ji X f r):Ji X f ((p,g)::r):=λx hx=>by
 rcases List.mem_cons.1 hx with rfl | hx
 ·exact h
 ·exact hr x hx
theorem IM {V:Env} (hm:V.P.follows .mixedOrders=true) (hP:ll V.P) (hE:∀f,V.isExt f=false) {n:Nat} {f:FuncId} {l:List AV} {os:List AO} {r:AV×List AO} (he:E V n f l os=some r):Ct V.P V.G f l os r:=
 Cv hm hP (λf _ _ _ _ h=>by rw [hE f] at h;cases h) n f l os r.1 r.2 (by simp [Env.cfg,hE]) he
theorem Ct.args {P:Program} {G:Nat->Option (List AV)} {f:FuncId} {l l':List AV} {os:List AO} {r:AV×List AO} (h:Ct P G f l os r) (hl:l'.length=l.length) (hk:ak l=[])
  (hw:∀ (i:Nat) (u u':AV),l[i]?=some u->l'[i]?=some u'->∀c v,Rep c u' v->Rep c u v):Ct P G f l' os r:=by
 refine ⟨λc0 vs hg ho hs hr _=>h.1 c0 vs hg ho (by rw [hs,hl]) (λi u hu=>?_) (λk hk'=>by rw [hk] at hk';simp at hk'),h.2⟩
 have hlt:=(List.getElem?_eq_some_iff.1 hu).1
 have hu':l'[i]?=some (l'[i]'(by omega)):=List.getElem?_eq_getElem _
 exact hw i u _ hu hu' c0 _ (hr i _ hu')
theorem Ct.res {P:Program} {G:Nat->Option (List AV)} {f:FuncId} {l:List AV} {os os':List AO} {r r':AV} (h:Ct P G f l os (r,os')) (hk:r'.keys=[]) (hw:∀c v,Rep c r v->Rep c r' v):Ct P G f l os (r',os'):=by
 refine ⟨λc0 vs hg ho hs hr hl=>(h.1 c0 vs hg ho hs hr hl).mono ?_,h.2⟩
 rintro e w' ⟨c',x,h1,h2,h3,h4,h5,h6,h7,h8⟩
 exact ⟨c',x,h1,h2,h3,h4,h5,hw _ _ h6,λk hk'=>by rw [hk] at hk';simp at hk',h8⟩
def lV:List AV->List AV->Bool
 | [],[]=>true
 | .int k n::r,.int k' n'::q=>decide (k=k')&&(n==n'&&lV r q)
 | .str s::r,.str s'::q=>s==s'&&lV r q
 | .bool s::r,.bool s'::q=>s==s'&&lV r q
 | _,_=>false
theorem mK:∀ {a b:List AV},lV a b=true->a=b
 | [],[],_=>rfl
 | .int k n::r,.int k' n'::q,h=>by simp only [lV,Bool.and_eq_true,decide_eq_true_eq,beq_iff_eq] at h;rw [h.1,h.2.1,mK h.2.2]
 | .str s::r,.str s'::q,h=>by simp only [lV,Bool.and_eq_true,beq_iff_eq] at h;rw [h.1,mK h.2]
 | .bool s::r,.bool s'::q,h=>by simp only [lV,Bool.and_eq_true,beq_iff_eq] at h;rw [h.1,mK h.2]
def GY (n:Nat) (get get':Nat->List AV):Bool:=(List.range n).all λj=>lV (get j) (get' j)
theorem y8 {n:Nat} {get get':Nat->List AV} (h:GY n get get'=true):∀j,j < n->get j=get' j:=λj hj=>
 mK (List.all_eq_true.1 h j (List.mem_range.2 hj))
theorem Rep.Mc {c:Cx} {o:Own} {sz n:Nat} {get get':Nat->List AV} {v:Value} (he:∀j,j < n->get' j=get j) (h:Rep c (.sl o sz n get) v):Rep c (.sl .no sz n get') v:=by
 cases h with
 | slNil=>exact .slNil .no sz get' trivial
 | sl _ _ _ _ a cap vals h1 h2 h3 h4 h5 h6=>
  exact .sl .no sz n get' a cap vals h1 h2 trivial (λj hj=>by rw [he j hj];exact h4 j hj) (λj i u hj hu=>h5 j i u hj (by rw [<-he j hj];exact hu)) (λj i u hj hu=>h6 j i u hj (by rw [<-he j hj];exact hu))
def HD (X:Cfg) (f:FuncId) (n:Nat) (c:Code) (p:List Nat) (k:Ex->St->Res):Nat->St->Res
 | 0,_=>none
 | m+1,s=>BA X f n m c p s k
def dP (X:Cfg) (f:FuncId) (n:Nat) (p:List Nat) (s:St) (kn:St->Res) (k:Ex->St->Res):Res:=
 kj X f n (ef (bD X.P f) (p++[0])) (p++[0]) s λe s'=>match e with
  | .nor=>(ri X.P (X.hint f (px (ef (bD X.P f) (p++[0])))) s').bind kn
  | e=>k e s'
theorem Lg {X:Cfg} {f:FuncId} {n:Nat} {p:List Nat} {b:Code} {σ:Type} (S:σ->St) (Inv:σ->Prop) (μ:σ->Nat) (out:σ->(Ex->St->Res)->Res) (hb:ef (bD X.P f) p=.loop b)
  (round:∀v,Inv v->∀ (k:Ex->St->Res) (kn:St->Res),(∀v',Inv v'->μ v' < μ v->kn (S v')=out v' k)->dP X f n p (S v) kn k=out v k) :
  ∀ (m:Nat) (v:σ),Inv v->μ v<=m->∀k,BA X f n m (ef (bD X.P f) p) p (S v) k=out v k:=by
 have hb0:ef (bD X.P f) (p++[0])=b:=by rw [bK,hb];simp [ef]
 have hnext:∀ (m:Nat) (s:St) (k:Ex->St->Res),uV X.P (kj X f n b (p++[0])) (X.hint f (px b)) m s k=(ri X.P (X.hint f (px b)) s).bind (HD X f n (.loop b) p k m):=by
  intro m s k
  cases m with
  | zero=>
   simp only [uV]
   cases ri X.P (X.hint f (px b)) s <;> rfl
  | succ m=>rfl
 intro m
 induction m with
 | zero=>
  intro v hv hm k
  rw [hb]
  simp only [BA,hnext]
  have:=round v hv k (HD X f n (.loop b) p k 0) (λv' _ h=>by omega)
  simp only [dP,hb0] at this
  exact this
 | succ m ih=>
  intro v hv hm k
  rw [hb]
  simp only [BA,hnext]
  have:=round v hv k (HD X f n (.loop b) p k (m+1)) (λv' hv' h=>by
   have:=ih v' hv' (by omega) k
   rw [hb] at this
   exact this)
  simp only [dP,hb0] at this
  exact this
section
open Classical
variable {α τ:Type}
noncomputable def dK (S:α->St) (Inv:α->Prop) (s:St):Bool:=decide (∃v,Inv v/\S v=s)
noncomputable def gU [Inhabited τ] (S:α->St) (Inv:α->Prop) (w:α->τ) (s:St):τ:=if h:∃v,Inv v/\S v=s then w h.choose else default
noncomputable def xM (A:α->List AV) (O:α->List AO) (Pre:α->Prop) (l:List AV) (os:List AO):Bool:=decide (∃v,Pre v/\A v=l/\O v=os)
noncomputable def UD [Inhabited τ] (A:α->List AV) (O:α->List AO) (Pre:α->Prop) (w:α->τ) (l:List AV) (os:List AO):τ:=if h:∃v,Pre v/\A v=l/\O v=os then w h.choose else default
theorem iE {S:α->St} {Inv:α->Prop} {v:α} (h:Inv v):dK S Inv (S v)=true:=decide_eq_true ⟨v,h,rfl⟩
theorem AI [Inhabited τ] {S:α->St} {Inv:α->Prop} {w:α->τ} (hi:∀a b,Inv a->Inv b->S a=S b->w a=w b) {v:α} (h:Inv v):gU S Inv w (S v)=w v:=by
 have hx:∃u,Inv u/\S u=S v:=⟨v,h,rfl⟩
 unfold gU
 rw [dif_pos hx]
 exact hi _ _ hx.choose_spec.1 h hx.choose_spec.2
theorem Lr {A:α->List AV} {O:α->List AO} {Pre:α->Prop} {v:α} (h:Pre v):xM A O Pre (A v) (O v)=true:=decide_eq_true ⟨v,h,rfl,rfl⟩
theorem zI [Inhabited τ] {X:Cfg} {f:FuncId} {p:List Nat} {b:Code} (S:α->St) (Inv:α->Prop) (μ:α->Nat) (w:α->τ) (out:τ->(Ex->St->Res)->Res) (hb:ef (bD X.P f) p=.loop b) (n:Nat)
  (round:∀v,Inv v->∀ (k:Ex->St->Res) (kn:St->Res),(∀v',Inv v'->μ v' < μ v->kn (S v')=out (w v') k)->dP X f n p (S v) kn k=out (w v) k) :
  bH X f p (mkO (dK S Inv) (gU S Inv w) out):=by
 intro s k r h
 unfold mkO at h
 obtain ⟨hg,h⟩:=bB h
 have hx:∃v,Inv v/\S v=s:=of_decide_eq_true hg
 unfold gU at h
 rw [dif_pos hx] at h
 refine ⟨n,μ hx.choose,?_⟩
 have:=Lg S Inv μ (λv=>out (w v)) hb round (μ hx.choose) hx.choose hx.choose_spec.1 (Nat.le_refl _) k
 rw [hx.choose_spec.2] at this
 rw [this];exact h
end
theorem wrap_i64 {x:Int} (h0 : -9223372036854775808<=x) (h1:x < 9223372036854775808):IntKind.i64.wrap x=x:=by
 simp [IntKind.wrap,IntKind.signed,IntKind.bits] <;> (try split) <;> omega
theorem aA {x:Int} {n:Nat} (h0:0<=x) (h1:x < n):within x n=true:=by simp [within,h0,h1]
end Go.Ab
namespace Go.Ab
open Go
section
variable {τ:Type} [Inhabited τ]
def scan (n:Nat) (nxt:Nat->Nat) (stop:Nat->Option τ):Nat->Nat->Bool×τ
 | 0,_=>(false,default)
 | d+1,i=>if i < n then (match stop i with
   | some t=>(true,t)
   | none=>scan n nxt stop d (nxt i)) else (false,default)
theorem yZ {n:Nat} {nxt:Nat->Nat} {stop:Nat->Option τ} (hn:∀i,i < n->i < nxt i):∀ (d e i:Nat),n - i<=d->n - i<=e->scan n nxt stop d i=scan n nxt stop e i
 | 0,e,i,h,h'=>by
  cases e with
  | zero=>rfl
  | succ e=>simp only [scan];rw [if_neg (by omega)]
 | d+1,0,i,h,h'=>by simp only [scan];rw [if_neg (by omega)]
 | d+1,e+1,i,h,h'=>by
  simp only [scan]
  by_cases hi:i < n
  ·rw [if_pos hi,if_pos hi]
   have:=hn i hi
   rw [yZ hn d e (nxt i) (by omega) (by omega)]
  ·rw [if_neg hi,if_neg hi]
def bp (n:Nat) (nxt:Nat->Nat) (stop:Nat->Option τ) (i:Nat):Bool×τ:=scan n nxt stop (n - i) i
theorem bI (n:Nat) (nxt:Nat->Nat) (stop:Nat->Option τ) {i:Nat} (h:¬ i < n):bp n nxt stop i=(false,default):=by
 unfold bp
 rw [show n - i=0 by omega];rfl
theorem da {n:Nat} {nxt:Nat->Nat} {stop:Nat->Option τ} (hn:∀i,i < n->i < nxt i) {i:Nat} (h:i < n):bp n nxt stop i=(match stop i with
  | some t=>(true,t)
  | none=>bp n nxt stop (nxt i)):=by
 unfold bp
 obtain ⟨d,hd⟩:∃d,n - i=d+1:=⟨n - i - 1,by omega⟩
 rw [hd]
 simp only [scan]
 rw [if_pos h]
 have:=hn i h
 rw [yZ hn d (n - nxt i) (nxt i) (by omega) (Nat.le_refl _)]
theorem C7 {n:Nat} {nxt:Nat->Nat} {stop:Nat->Option τ} {P:τ->Prop} (h:∀i t,i < n->stop i=some t->P t):∀d i,(scan n nxt stop d i).1=true->P (scan n nxt stop d i).2
 | 0,i,hs=>by simp [scan] at hs
 | d+1,i,hs=>by
  simp only [scan] at hs ⊢
  by_cases hi:i < n
  ·rw [if_pos hi] at hs ⊢
   cases ht:stop i with
   | some t=>exact h i t hi ht
   | none=>rw [ht] at hs;exact C7 h d (nxt i) hs
  ·rw [if_neg hi] at hs;simp at hs
theorem mF {n:Nat} {nxt:Nat->Nat} {stop:Nat->Option τ} {P:τ->Prop} (h:∀i t,i < n->stop i=some t->P t) (i:Nat) (hs:(bp n nxt stop i).1=true):P (bp n nxt stop i).2:=C7 h _ _ hs
def seek (n:Nat) (nxt:Nat->Nat) (bad:Nat->Bool) (t:τ):Bool×τ:=bp n nxt (λi=>bif bad i then some t else none) 0
theorem mE {n:Nat} {nxt:Nat->Nat} {bad:Nat->Bool} {t:τ} (h:(seek n nxt bad t).1=true):(seek n nxt bad t).2=t:=
 mF (P:=λx=>x=t) (λi u _ hu=>by cases hb:bad i <;> simp [hb] at hu;exact hu.symm) 0 h
def K3 (vI:τ->(Ex->St->Res)->Res) (outE:(Ex->St->Res)->Res) (o:Bool×τ) (k:Ex->St->Res):Res:=cond o.1 (vI o.2 k) (outE k)
end
def si (t:Nat) (n:Int) (k:Ex->St->Res):Res:=k .ret {env:=[(t,.int .i64 n)],objs:=[]}
def Pw (t:Nat) (b:Bool) (k:Ex->St->Res):Res:=k .ret {env:=[(t,.bool b)],objs:=[]}
section
variable {τ:Type} [Inhabited τ]
noncomputable def g1 (A:List AV):List AV->List AO->Bool:=xM (λ_:Unit=>A) (λ_=>[]) (λ_=>True)
noncomputable def v1 (A:List AV) (w:τ):List AV->List AO->τ:=UD (λ_:Unit=>A) (λ_=>[]) (λ_=>True) (λ_=>w)
noncomputable def gF {α:Type} (A:α->List AV) (Pre:α->Prop):List AV->List AO->Bool:=xM A (λ_=>[]) Pre
noncomputable def vF {α:Type} (A:α->List AV) (Pre:α->Prop) (w:α->τ):List AV->List AO->τ:=UD A (λ_=>[]) Pre w
noncomputable def Py {α:Type} (f:FuncId) (A:α->List AV) (Pre:α->Prop) (w:α->τ) (φ:τ->AV×List AO):Ent:=mkE f (gF A Pre) (vF A Pre w) φ
end
section
variable {α τ:Type} [Inhabited τ]
theorem gT {S:α->St} {Inv:α->Prop} {w:α->τ} {Post:α->τ->Prop} (hw:∀a,Inv a->Post a (w a)) (hi:∀a b x,S a=S b->Post a x->Post b x) {a:α} (h:Inv a):Post a (gU S Inv w (S a)):=by
 have hx:∃u,Inv u/\S u=S a:=⟨a,h,rfl⟩
 unfold gU
 rw [dif_pos hx]
 exact hi _ _ _ hx.choose_spec.2 (hw _ hx.choose_spec.1)
open Classical in
theorem xD {ι:Type} {Xf:ι->Cfg} {f:FuncId} {p:List Nat} {b:Code} (S:α->St) (Inv:α->Prop) (μ:α->Nat) (out:τ->(Ex->St->Res)->Res) (Post:α->τ->Prop) (hb:∀i,ef (bD (Xf i).P f) p=.loop b) (n:Nat)
  (round:∀v,Inv v->(∃o,Post v o/\∀ (i:ι) (k:Ex->St->Res) (kn:St->Res),dP (Xf i) f n p (S v) kn k=out o k) ∨
   ∃v',Inv v'/\μ v' < μ v/\(∀o,Post v' o->Post v o)/\∀ (i:ι) (k:Ex->St->Res) (kn:St->Res),dP (Xf i) f n p (S v) kn k=kn (S v')) :
  ∃w:α->τ,(∀v,Inv v->Post v (w v))/\∀i,bH (Xf i) f p (mkO (dK S Inv) (gU S Inv w) out):=by
 let F:(v:α)->((v':α)->μ v' < μ v->τ)->τ:=λv rec=>
  if hi:Inv v then
   if h1:∃o,Post v o/\∀ (i:ι) (k:Ex->St->Res) (kn:St->Res),dP (Xf i) f n p (S v) kn k=out o k then h1.choose
   else if h2:∃v',Inv v'/\μ v' < μ v/\(∀o,Post v' o->Post v o)/\∀ (i:ι) (k:Ex->St->Res) (kn:St->Res),dP (Xf i) f n p (S v) kn k=kn (S v') then rec h2.choose h2.choose_spec.2.1
   else default
  else default
 let w:α->τ:=WellFounded.fix (measure μ).wf F
 have hw:∀v,w v=F v λv' _=>w v':=λv=>WellFounded.fix_eq (measure μ).wf F v
 have hpost:∀ (m:Nat) (v:α),μ v<=m->Inv v->Post v (w v):=by
  intro m
  induction m with
  | zero=>
   intro v hm hi
   rw [hw]
   simp only [F]
   rw [dif_pos hi]
   by_cases h1:∃o,Post v o/\∀ (i:ι) (k:Ex->St->Res) (kn:St->Res),dP (Xf i) f n p (S v) kn k=out o k
   ·rw [dif_pos h1];exact h1.choose_spec.1
   ·obtain ⟨v',_,h,_⟩:=(round v hi).resolve_left h1
    omega
  | succ m ih=>
   intro v hm hi
   rw [hw]
   simp only [F]
   rw [dif_pos hi]
   by_cases h1:∃o,Post v o/\∀ (i:ι) (k:Ex->St->Res) (kn:St->Res),dP (Xf i) f n p (S v) kn k=out o k
   ·rw [dif_pos h1];exact h1.choose_spec.1
   ·have h2:=(round v hi).resolve_left h1
    rw [dif_neg h1,dif_pos h2]
    have:=h2.choose_spec
    exact this.2.2.1 _ (ih _ (by omega) this.1)
 refine ⟨w,λv hi=>hpost _ v (Nat.le_refl _) hi,λi=>?_⟩
 refine zI S Inv μ w out (hb i) n λv hi k kn hk=>?_
 rw [hw]
 simp only [F]
 rw [dif_pos hi]
 by_cases h1:∃o,Post v o/\∀ (i:ι) (k:Ex->St->Res) (kn:St->Res),dP (Xf i) f n p (S v) kn k=out o k
 ·rw [dif_pos h1];exact h1.choose_spec.2 i k kn
 ·have h2:=(round v hi).resolve_left h1
  rw [dif_neg h1,dif_pos h2]
  have:=h2.choose_spec
  rw [this.2.2.2 i k kn]
  exact hk _ this.1 this.2.1
end
section
variable {τ:Type}
noncomputable def lD (f:FuncId) (A:List AV) (O:List AO) (x:τ) (φ:τ->AV×List AO):Ent:=mkE f (xM (λ_:Unit=>A) (λ_=>O) (λ_=>True)) (λ_ _=>x) φ
open Classical in
theorem Ir {V:Env} {f:FuncId} {A:List AV} {O:List AO} {x:τ} {φ:τ->AV×List AO} (h:Ct V.P V.G f A O (φ x)):∀l os,(lD f A O x φ).pre l os=true->Ct V.P V.G (lD f A O x φ).f l os ((lD f A O x φ).ans l os):=by
 intro l os hp
 obtain ⟨_,_,h1,h2⟩:∃v:Unit,True/\A=l/\O=os:=of_decide_eq_true hp
 subst h1 h2
 exact h
theorem fp (A:List AV) (O:List AO):xM (λ_:Unit=>A) (λ_=>O) (λ_=>True) A O=true:=Lr (A:=λ_:Unit=>A) (O:=λ_=>O) (v:=()) trivial
end
theorem cx {α:Type} {Q:α->Prop} {c:Bool} {A B:α} (h1:c=true->Q A) (h2:c=false->Q B):Q (cond c A B):=by
 cases c
 ·exact h2 rfl
 ·exact h1 rfl
def dz {τ:Type} (Post:τ->Prop) (φ:τ->AV×List AO) (e:Res):Prop:=∃x,Post x/\e=some (φ x)
theorem dz.c {τ:Type} {Post:τ->Prop} {φ:τ->AV×List AO} {c:Bool} {a b:Res} (h1:c=true->dz Post φ a) (h2:c=false->dz Post φ b):dz Post φ (cond c a b):=cx (Q:=dz Post φ) h1 h2
theorem dz.t {τ:Type} {Post:τ->Prop} {φ:τ->AV×List AO} {c:Bool} {a b:Res} (h:c=true) (h1:dz Post φ a):dz Post φ (cond c a b):=by subst h;exact h1
theorem dz.f {τ:Type} {Post:τ->Prop} {φ:τ->AV×List AO} {c:Bool} {a b:Res} (h:c=false) (h1:dz Post φ b):dz Post φ (cond c a b):=by subst h;exact h1
theorem dz.ret {τ:Type} {Post:τ->Prop} {φ:τ->AV×List AO} {r:AV×List AO} (x:τ) (h:Post x) (he:r=φ x):dz Post φ (some r):=⟨x,h,by rw [he]⟩
theorem dz.eq {τ:Type} {Post:τ->Prop} {φ:τ->AV×List AO} {e e':Res} (h:e=e') (h1:dz Post φ e'):dz Post φ e:=by rw [h];exact h1
theorem dz.mono {τ:Type} {Post Post':τ->Prop} {φ:τ->AV×List AO} {e:Res} (h:∀x,Post x->Post' x) (h1:dz Post φ e):dz Post' φ e:=by
 obtain ⟨x,h2,h3⟩:=h1;exact ⟨x,h x h2,h3⟩
section
variable {α τ ι:Type}
def RT (S:α->St) (Inv:α->Prop) (μ:α->Nat) (out:τ->(Ex->St->Res)->Res) (Post:α->τ->Prop) (v:α) (e:ι->(Ex->St->Res)->(St->Res)->Res):Prop:=
 (∃o,Post v o/\∀ (i:ι) (k:Ex->St->Res) (kn:St->Res),e i k kn=out o k) ∨
  ∃v',Inv v'/\μ v' < μ v/\(∀o,Post v' o->Post v o)/\∀ (i:ι) (k:Ex->St->Res) (kn:St->Res),e i k kn=kn (S v')
variable {S:α->St} {Inv:α->Prop} {μ:α->Nat} {out:τ->(Ex->St->Res)->Res} {Post:α->τ->Prop} {v:α}
theorem RT.c {c:Bool} {a b:ι->(Ex->St->Res)->(St->Res)->Res} (h1:c=true->RT S Inv μ out Post v a) (h2:c=false->RT S Inv μ out Post v b):RT S Inv μ out Post v (λi k kn=>cond c (a i k kn) (b i k kn)):=by
 cases c
 ·exact h2 rfl
 ·exact h1 rfl
theorem RT.t {c:Bool} {a b:ι->(Ex->St->Res)->(St->Res)->Res} (h:c=true) (h1:RT S Inv μ out Post v a):RT S Inv μ out Post v (λi k kn=>cond c (a i k kn) (b i k kn)):=by
 subst h;exact h1
theorem RT.f {c:Bool} {a b:ι->(Ex->St->Res)->(St->Res)->Res} (h:c=false) (h1:RT S Inv μ out Post v b):RT S Inv μ out Post v (λi k kn=>cond c (a i k kn) (b i k kn)):=by
 subst h;exact h1
theorem RT.eq {e e':ι->(Ex->St->Res)->(St->Res)->Res} (h:∀i k kn,e i k kn=e' i k kn) (h1:RT S Inv μ out Post v e'):RT S Inv μ out Post v e:=by
 rcases h1 with ⟨o,h2,h3⟩ | ⟨v',h2,h3,h4,h5⟩
 ·exact Or.inl ⟨o,h2,λi k kn=>(h i k kn).trans (h3 i k kn)⟩
 ·exact Or.inr ⟨v',h2,h3,h4,λi k kn=>(h i k kn).trans (h5 i k kn)⟩
theorem RT.fin (o:τ) (h:Post v o) {e:ι->(Ex->St->Res)->(St->Res)->Res} (he:∀i k kn,e i k kn=out o k):RT S Inv μ out Post v e:=Or.inl ⟨o,h,he⟩
theorem RT.next (v':α) (h:Inv v') (hm:μ v' < μ v) (hp:∀o,Post v' o->Post v o) {e:ι->(Ex->St->Res)->(St->Res)->Res} (he:∀i k kn,e i k kn=kn (S v')):RT S Inv μ out Post v e:=Or.inr ⟨v',h,hm,hp,he⟩
end
section
variable {τ:Type} {Post:τ->Prop} {φ:τ->AV×List AO}
theorem dz.by {e e':Res} (h1:dz Post φ e') (h:e=e'):dz Post φ e:=h ▸ h1
theorem dz.n {c:Bool} {a:Res} (h:c=true) (h1:dz Post φ a):dz Post φ (cond c a none):=dz.t h h1
theorem dz.r (x:τ) (h:Post x):dz Post φ (some (φ x)):=dz.ret x h rfl
theorem dz.g {α:Type} {T:α->Res} (x:α) (h:∀t,x=t->dz Post φ (T t)):dz Post φ (T x):=h x rfl
def cn {α:Type} (g:St->Bool) (w:St->α) (s:St) (Q:α->Prop):Prop:=g s=true/\Q (w s)
theorem dz.lp {α:Type} {g:St->Bool} {w:St->α} {s:St} {Q:α->Prop} {T:α->Res} (h:cn g w s Q) (k:∀t,Q t->dz Post φ (T t)):dz Post φ (cond (g s) (T (w s)) none):=dz.t h.1 (k _ h.2)
theorem dz.b {a b:Res} (c:Bool) (h1:c=true->dz Post φ a) (h2:c=false->dz Post φ b):dz Post φ (cond c a b):=dz.c h1 h2
end
section
variable {α τ ι:Type} {S:α->St} {Inv:α->Prop} {μ:α->Nat} {out:τ->(Ex->St->Res)->Res} {Post:α->τ->Prop} {v:α}
theorem RT.by {e e':ι->(Ex->St->Res)->(St->Res)->Res} (h1:RT S Inv μ out Post v e') (h:∀i k kn,e i k kn=e' i k kn):RT S Inv μ out Post v e:=RT.eq h h1
theorem RT.n {c:Bool} {a:ι->(Ex->St->Res)->(St->Res)->Res} (h:c=true) (h1:RT S Inv μ out Post v a):RT S Inv μ out Post v (λi k kn=>cond c (a i k kn) none):=RT.t h h1
theorem RT.b {a b:ι->(Ex->St->Res)->(St->Res)->Res} (c:Bool) (h1:c=true->RT S Inv μ out Post v a) (h2:c=false->RT S Inv μ out Post v b):RT S Inv μ out Post v (λi k kn=>cond c (a i k kn) (b i k kn)):=RT.c h1 h2
theorem RT.nx (s:St) (v':α) (h:Inv v') (hm:μ v' < μ v) (hp:∀o,Post v' o->Post v o) (hs:s=S v'):RT S Inv μ out Post v (λ(_:ι) (_:Ex->St->Res) (kn:St->Res)=>kn s):=RT.next v' h hm hp λ_ _ _=>by rw [hs]
theorem RT.fi (o:τ) (h:Post v o):RT S Inv μ out Post v (λ(_:ι) (k:Ex->St->Res) (_:St->Res)=>out o k):=RT.fin o h λ_ _ _=>rfl
end
structure RW where
 n:Nat
 g:Nat->List AV
instance:Inhabited RW:=⟨⟨0,λ_=>[]⟩⟩
def Byt (r:RW) (l:List UInt8):Prop:=r.n=l.length/\∀j,j < r.n->r.g j=rowOf l j
theorem Byt.app {n m:Nat} {g h:Nat->List AV} {a b:List UInt8} (h1:Byt ⟨n,g⟩ a) (h2:Byt ⟨m,h⟩ b):Byt ⟨n+m,af n m g h⟩ (a++b):=by
 obtain ⟨a1,a2⟩:=h1
 obtain ⟨b1,b2⟩:=h2
 have a1:n=a.length:=a1
 have b1:m=b.length:=b1
 refine ⟨by show n+m=_;rw [List.length_append,a1,b1],λj hj=>?_⟩
 have hj:j < n+m:=hj
 show af n m g h j=_
 by_cases hn:j < n
 ·rw [eM hn]
  refine (a2 j hn).trans ?_
  unfold rowOf
  rw [List.getD_eq_getElem?_getD,List.getD_eq_getElem?_getD,List.getElem?_append_left (by omega)]
 ·rw [fS (by omega) hj]
  refine (b2 (j - n) (by show j - n < m;omega)).trans ?_
  unfold rowOf
  rw [List.getD_eq_getElem?_getD,List.getD_eq_getElem?_getD,List.getElem?_append_right (by omega),a1]
theorem Pk (l:List UInt8):Byt ⟨l.length,rowOf l⟩ l:=⟨rfl,λ_ _=>rfl⟩
theorem uA {g:Nat->List AV}:Byt ⟨0,g⟩ []:=⟨rfl,λ_ hj=>absurd hj (Nat.not_lt_zero _)⟩
theorem Cj {z:List AV} {n:Int} (h:0<=n/\n < 256):Byt ⟨1,ae z [(0,.int .u8 n)]⟩ [UInt8.ofNat n.toNat]:=by
 refine ⟨rfl,λj hj=>?_⟩
 have hj:j < 1:=hj
 obtain rfl:j=0:=by omega
 show [AV.int .u8 n]=[.int .u8 (UInt8.ofNat n.toNat).toNat]
 rw [UInt8.toNat_ofNat_of_lt' (by show n.toNat < 2 ^ 8;omega)]
 congr 2;omega
theorem Di {b n:Nat} (h:n*b<=140737488355328):roomy b n=true:=Nat.ble_eq_true_of_le h
theorem av {b n m:Nat} (h:n*b<=140737488355328):(roomy b n&&Nat.beq m m)=true:=by rw [Di h,Nat.beq_refl];rfl
end Go.Ab
namespace Go.Ab
open Go Go.RowKit
def cj (base:List Nat):List Nat->List Nat
 | []=>[]
 | k::r=>cond (base.any (Nat.beq k)) (cj base r) (k::cj base r)
theorem hM {base:List Nat}:∀ {l:List Nat} {k:Nat},k∈cj base l->k∈l/\k ∉ base
 | [],k,h=>by simp [cj] at h
 | q::r,k,h=>by
  simp only [cj] at h
  cases hb:base.any (Nat.beq q) with
  | true=>
   rw [hb] at h
   obtain ⟨h1,h2⟩:=hM h
   exact ⟨List.mem_cons_of_mem _ h1,h2⟩
  | false=>
   rw [hb] at h
   rcases List.mem_cons.1 h with rfl | h
   ·refine ⟨List.mem_cons_self ..,λhk=>?_⟩
    have:=List.any_eq_false.1 hb k hk
    exact this (Nat.beq_refl k)
   ·obtain ⟨h1,h2⟩:=hM h
    exact ⟨List.mem_cons_of_mem _ h1,h2⟩
theorem gM {base:List Nat}:∀ {l:List Nat},l.Nodup->(cj base l).Nodup
 | [],_=>by simp [cj]
 | q::r,h=>by
  obtain ⟨h1,h2⟩:=List.nodup_cons.1 h
  simp only [cj]
  cases base.any (Nat.beq q) with
  | true=>exact gM h2
  | false=>exact List.nodup_cons.2 ⟨λhq=>h1 (hM hq).1,gM h2⟩
theorem List.dh (n:Nat):((List.range n).map (aa+·)).Nodup:=by
 rw [List.nodup_iff_pairwise_ne,List.pairwise_map]
 exact (List.nodup_iff_pairwise_ne.1 (List.nodup_range (n:=n))).imp λh e=>h (by omega)
def BV (X:Cfg) (fn:Func) (m:Nat) (s:St):Option (AV×List AO):=
 (nH X s fn.results.toList).bind λvs=>(cg s.objs vs).bind λa=>
  (dc a.2 ((List.range m).map (aa+·)++cj ((List.range m).map (aa+·)) (ck a.2 ((List.range m).map (aa+·)++ak (bM a.1))))).bind λos=>
   cond (sQ (ak (bM a.1)) ((List.range m).map (aa+·)++cj ((List.range m).map (aa+·)) (ck a.2 ((List.range m).map (aa+·)++ak (bM a.1)))) &&
    sQ (bF a.2 ((List.range m).map (aa+·)++cj ((List.range m).map (aa+·)) (ck a.2 ((List.range m).map (aa+·)++ak (bM a.1))))) ((List.range m).map (aa+·)++cj ((List.range m).map (aa+·)) (ck a.2 ((List.range m).map (aa+·)++ak (bM a.1)))))
    (some ((match bM a.1 with | [v]=>v | vs=>AV.tup vs).ren (λk=>aa+idxOf ((List.range m).map (aa+·)++cj ((List.range m).map (aa+·)) (ck a.2 ((List.range m).map (aa+·)++ak (bM a.1)))) k 0),
     os.map (AO.ren λk=>aa+idxOf ((List.range m).map (aa+·)++cj ((List.range m).map (aa+·)) (ck a.2 ((List.range m).map (aa+·)++ak (bM a.1)))) k 0))) none
def GJ (X:Cfg) (n:Nat) (f:FuncId) (args:List AV) (objs:List AO):Option (AV×List AO):=
 match X.P.funcs[f]? with
 | some fn=>(match fn.body with
  | some c=>kj X f n c [] {env:=eb args 0,objs:=ab objs aa} λe s=>
    (match e with
    | .exit _=>none
    | _=>BV X fn objs.length s)
  | none=>none)
 | none=>none
theorem Ae {c:Cx} {objs:List (Nat×AO)} (ho:Objs c objs) {ks:List Nat} (hn:ks.Nodup) {os:List AO} (hos:dc objs ks=some os) (hcl:∀q∈bF objs ks,q∈ks) :
  Objs {w:=c.w,I:=c.I,β:=λq=>c.β (ia ks (q - aa)),κ:=λq=>c.κ (ia ks (q - aa)),fr:=λq=>c.fr (ia ks (q - aa))} (ab (os.map (AO.ren λk=>aa+idxOf ks k 0)) aa) /\
  (∀k∈ks,c.β (ia ks (aa+idxOf ks k 0 - aa))=c.β k/\∀n y,aF c (.key k) n y->aF {w:=c.w,I:=c.I,β:=λq=>c.β (ia ks (q - aa)),κ:=λq=>c.κ (ia ks (q - aa)),fr:=λq=>c.fr (ia ks (q - aa))} (.key (aa+idxOf ks k 0)) n y) /\
  (∀q o,alook (ab (os.map (AO.ren λk=>aa+idxOf ks k 0)) aa) q=some o->∃k o0,k∈ks/\q=aa+idxOf ks k 0/\alook objs k=some o0/\o=o0.ren λk=>aa+idxOf ks k 0) /\
  (∀k∈ks,live (ab (os.map (AO.ren λk=>aa+idxOf ks k 0)) aa) (aa+idxOf ks k 0)):=by
 obtain ⟨hol,hoo⟩:=hH hos
 let fwd:=λk=>aa+idxOf ks k 0
 let bwd:=λk=>ia ks (k - aa)
 have hfb:∀k∈ks,bwd (fwd k)=k:=λk hk=>by
  show ia ks (aa+idxOf ks k 0 - aa)=k
  rw [Nat.add_sub_cancel_left];exact cP (bN 0 hk)
 have hbf:∀i k,ks[i]?=some k->bwd (aa+i)=k/\fwd k=aa+i:=λi k hk=>
  ⟨by show ia ks (aa+i - aa)=k;rw [Nat.add_sub_cancel_left];exact cP hk,by show aa+idxOf ks k 0=_;rw [idx_eq hn hk]⟩
 let c0:Cx:={w:=c.w,I:=c.I,β:=λq=>c.β (bwd q),κ:=λq=>c.κ (bwd q),fr:=λq=>c.fr (bwd q)}
 have hβ0:∀k∈ks,c0.β (fwd k)=c.β k:=λk hk=>by show c.β (bwd (fwd k))=_;rw [hfb k hk]
 have hκ0:∀k∈ks,c0.κ (fwd k)=c.κ k:=λk hk=>by show c.κ (bwd (fwd k))=_;rw [hfb k hk]
 have hf0:∀k∈ks,c0.fr (fwd k)=c.fr k:=λk hk=>by show c.fr (bwd (fwd k))=_;rw [hfb k hk]
 have hown0:∀k∈ks,∀n y,aF c (.key k) n y->aF c0 (.key (fwd k)) n y:=λk hk n y=>by simp only [aF,hκ0 k hk,hf0 k hk];exact id
 have hfwd:∀k∈ks,c0.β (fwd k)=c.β k/\∀n y,aF c (.key k) n y->aF c0 (.key (fwd k)) n y:=λk hk=>⟨hβ0 k hk,hown0 k hk⟩
 have hlook:∀q o,alook (ab (os.map (AO.ren fwd)) aa) q=some o->∃k o0,k∈ks/\q=fwd k/\alook objs k=some o0/\o=o0.ren fwd:=by
  intro q o hq
  rw [bU] at hq
  by_cases hb:aa<=q
  ·rw [if_pos hb,List.getElem?_map] at hq
   cases hi:os[q - aa]? with
   | none=>simp [hi] at hq
   | some o0=>
    simp [hi] at hq;subst hq
    have hlt:=(List.getElem?_eq_some_iff.1 hi).1
    have hk:ks[q - aa]?=some (ks[q - aa]'(by omega)):=List.getElem?_eq_getElem _
    refine ⟨_,o0,List.mem_of_getElem? hk,?_,by rw [(hoo _ _ hk).1,hi],rfl⟩
    rw [(hbf _ _ hk).2];omega
  ·rw [if_neg hb] at hq;simp at hq
 have hlook':∀k∈ks,∃o0,alook objs k=some o0/\alook (ab (os.map (AO.ren fwd)) aa) (fwd k)=some (o0.ren fwd):=by
  intro k hk
  have hi:=bN 0 hk
  obtain ⟨h1,o0,h2⟩:=hoo _ _ hi
  refine ⟨o0,h2,?_⟩
  rw [bU,if_pos (Nat.le_add_right _ _)]
  show (os.map (AO.ren fwd))[aa+idxOf ks k 0 - aa]?=_
  rw [Nat.add_sub_cancel_left,List.getElem?_map,<-h1,h2];rfl
 have hO0:Objs c0 (ab (os.map (AO.ren fwd)) aa):=by
  refine ⟨λq o hq=>?_,λq o q' o' b hq hq' hne hb=>?_,λq o hq r hr=>?_⟩
  ·obtain ⟨k,o0,hk,rfl,h1,rfl⟩:=hlook q o hq
   exact (ho.rep k o0 h1).ren rfl rfl (hβ0 k hk) (hκ0 k hk) (hf0 k hk) λq hq=>hfwd q (hcl q (dF hk h1 q hq))
  ·obtain ⟨k,o0,hk,rfl,h1,rfl⟩:=hlook q o hq
   obtain ⟨k',o0',hk',rfl,h1',rfl⟩:=hlook q' o' hq'
   rw [eQ (hβ0 k hk) (hκ0 k hk)] at hb
   rw [eQ (hβ0 k' hk') (hκ0 k' hk')]
   exact ho.apart k o0 k' o0' b h1 h1' (λe=>hne (by rw [e])) hb
  ·obtain ⟨k,o0,hk,rfl,h1,rfl⟩:=hlook q o hq
   obtain ⟨q',hq',rfl⟩:=AO.eN _ _ r hr
   obtain ⟨_,_,e⟩:=hlook' q' (hcl q' (dF hk h1 q' hq'))
   exact ⟨_,e⟩
 exact ⟨hO0,hfwd,hlook,λk hk=>by obtain ⟨_,_,e⟩:=hlook' k hk;exact ⟨_,e⟩⟩
theorem AY {X:Cfg} (hX:dX X) (hm:X.P.follows .mixedOrders=true) {f:FuncId} (hO:OracOk X f) {fn:Func} (hf:X.P.funcs[f]?=some fn) (hok:∀c,fn.body=some c->codeOk fn.ntmps c=true) {n:Nat} {args:List AV} {os:List AO}
  {r:AV} {os':List AO} (he:GJ X n f args os=some (r,os')):rp X.P X.G f args os r os':=by
 unfold GJ at he
 rw [hf] at he
 dsimp only at he
 cases hbody:fn.body with
 | none=>simp [hbody] at he
 | some code=>
  simp only [hbody] at he
  have hcode:=hok code hbody
  intro c0 vs hgood hobjs hsz hrep hkeys
  let a0:Act:={tmps:=vs++Array.replicate (fn.ntmps - vs.size) undef,defers:=[]}
  let B:Base:={c0:=c0,D:=held c0 (ab os aa),K:=live (ab os aa),G:=X.G,N:=a0.tmps.size}
  let s0:St:={env:=eb args 0,objs:=ab os aa}
  have hN:fn.ntmps<=B.N:=by simp [B,a0];omega
  have hcode':codeOk B.N code=true:=de hN hcode
  have hget:∀t v,s0.get t=some v->args[t]?=some v:=λt v hv=>by
   have:alook (eb args 0) t=some v:=hv
   rw [gQ,if_pos (Nat.zero_le _)] at this;simpa using this
  have hval:∀t v,args[t]?=some v->Rep c0 v (a0.tmps.getD t undef):=λt v hv=>by
   have hlt:t < vs.size:=by rw [hsz];exact (List.getElem?_eq_some_iff.1 hv).1
   have e:a0.tmps.getD t undef=vs.getD t undef:=by
    simp only [a0,Array.getD_eq_getD_getElem?]
    rw [Array.getElem?_append_left hlt]
   rw [e];exact hrep t v hv
  have hplain:∀t v,s0.get t=some v->v.dH=false:=λt v hv=>by
   have:=hval t v (hget t v hv)
   generalize a0.tmps.getD t undef=V at this
   cases this <;> rfl
  have h0:Rel B c0 s0 a0:=by
   refine ⟨hgood,⟨rfl,rfl,rfl,Nat.le_refl _,λ_ _ _=>rfl,Ext.refl _ _,λ_ _ _ _ hi=>hi⟩,hobjs,λt v hv=>fX.vK (hplain t v hv) (hval t v (hget t v hv)),
    λt v hv k hk=>hkeys k (aK (hget t v hv) k hk),λk o b ho hb=>.inr ⟨k,o,ho,hb⟩,rfl,rfl,λk hk=>hk⟩
  refine calls_of_wp hf hbody ?_
  refine dq (B:=B) hX rfl hm (λk hk=>(iQ hk).1) f hO code [] (by simp [bD,ef,hf,hbody]) hcode' n s0 c0 a0 _ (r,os') _ he h0 hplain λex s' c' a' hex hr' hn'=>?_
  have hfin:BV X fn os.length s'=some (r,os')->a'.defers=[]/\∃v,(results fn a'.tmps).run X.P c'.w=.ok v c'.w/\∃c2 x,Ending.returned v=.returned x/\c2.w=c'.w/\Good X.G c2 /\
   Frame {c0:=c0,D:=held c0 (ab os aa),K:=live (ab os aa),G:=X.G,N:=0} c2 /\
   Objs c2 (ab os' aa)/\Rep c2 r x/\(∀k∈r.keys,live (ab os' aa) k) /\
   ∀k o b,alook (ab os' aa) k=some o->excl c2 k o=some b->c0.w.heap.size<=b∨held c0 (ab os aa) b:=by
   intro hfin
   refine ⟨hr'.defers,?_⟩
   unfold BV at hfin
   obtain ⟨rs,h1,hfin⟩:=ag hfin
   obtain ⟨⟨rs',o1⟩,h2,hfin⟩:=ag hfin
   dsimp only at hfin
   obtain ⟨os1,h3,hfin⟩:=ag hfin
   obtain ⟨hb,hfin⟩:=bB hfin
   simp only [Option.some.injEq,Prod.mk.injEq] at hfin
   obtain ⟨hres,rfl⟩:=hfin
   simp only [Bool.and_eq_true] at hb
   obtain ⟨xs,hs,hrun⟩:=iy X hr' hn' h1
   obtain ⟨c2,e1,e2,e3,e4,e5⟩:=dS hr' hs h2
   have hs2:=e3.shed
   have hfn:=hs2.fn
   generalize hr0:(match bM rs' with | [v]=>v | vs=>AV.tup vs)=r0 at hres
   subst hres
   let ks:=(List.range os.length).map (aa+·)
   let all:=ks++cj ks (ck o1 (ks++ak (bM rs')))
   have hbase:ks.Nodup:=(List.dh os.length)
   have hall:all.Nodup:=List.nodup_append.2 ⟨hbase,gM (gh _ _).1,λx hx y hy e=>(hM hy).2 (e ▸ hx)⟩
   obtain ⟨hren,hkey,hlook,hlive⟩:=Ae e2.objs hall h3 (cL hb.2)
   obtain ⟨v,hv,hrv,hrk⟩:∃v,(results fn a'.tmps).run X.P c'.w=.ok v c'.w/\Rep c2 r0 v/\∀k∈r0.keys,k∈ak (bM rs'):=by
    have hm':(fn.results.mapM (m:=Sem) (NF a'.tmps)).run X.P c'.w=.ok xs.toArray c'.w:=by
     rw [Array.mapM_eq_mapM_toList]
     simp only [Sem.run_map]
     rw [hrun];rfl
    have hres':∀ (v:Value),(if h:xs.toArray.size=1 then xs.toArray[0] else Value.tuple xs.toArray)=v->(results fn a'.tmps).run X.P c'.w=.ok v c'.w:=by
     intro v hv
     rw [pD]
     simp only [Sem.run_bind,hm',Result.andThen_ok]
     rw [hv];rfl
    by_cases h1:xs.length=1
    ·obtain ⟨x,rfl⟩:=List.length_eq_one_iff.1 h1
     have hl:(bM rs').length=1:=by rw [<-hs2.1];rfl
     obtain ⟨u,hu⟩:=List.length_eq_one_iff.1 hl
     have hres:u=r0:=by rw [<-hr0,hu]
     subst hres
     refine ⟨x,hres' x (by simp),(hs2.2 0 u (by rw [hu];rfl)).rep,λk hk=>by rw [hu];simpa [ak] using hk⟩
    ·have hl:(bM rs').length≠1:=by rw [<-hs2.1];exact h1
     have hr:r0=.tup (bM rs'):=by
      rw [<-hr0]
      cases h:bM rs' with
      | nil=>rfl
      | cons u l=>cases l with
       | nil=>rw [h] at hl;simp at hl
       | cons _ _=>rfl
     rw [hr]
     refine ⟨.tuple xs.toArray,hres' _ (by rw [dif_neg];simpa using h1),.tup _ _ hfn.1 hfn.2.1,λk hk=>by simpa [AV.keys] using hk⟩
   let c3:Cx:={w:=c2.w,I:=c2.I,β:=λq=>c2.β (ia all (q - aa)),κ:=λq=>c2.κ (ia all (q - aa)),fr:=λq=>c2.fr (ia all (q - aa))}
   have hb0:∀k,live (ab os aa) k->ia all (k - aa)=k:=by
    intro k hk
    obtain ⟨g1,g2⟩:=iQ hk
    refine cP ?_
    show (ks++_)[k - aa]?=some k
    rw [List.getElem?_append_left (by simpa [ks] using g2)]
    simp [ks,g2];omega
   have hown:∀k,live (ab os aa) k->∀n y,aF c2 (.key k) n y->aF c3 (.key k) n y:=λk hk n y=>by
    simp only [aF,c3,hb0 k hk];exact id
   refine ⟨v,hv,c3,v,rfl,e1,⟨e2.good.there,λg cs hg=>(e2.good.globs g cs hg).ext (ks:=λ_=>False) ⟨λ_ _ _ _ hv=>hv,λ_ _ hi=>hi,λ_ hk=>hk.elim,λ_ hk=>hk.elim⟩ (by simp [AV.keys])⟩,
    ⟨e2.frame.os,e2.frame.output,e2.frame.tape,e2.frame.size,e2.frame.block,⟨e2.frame.ext.cell,e2.frame.ext.I,λk hk=>by show c2.β (ia all (k - aa))=_;rw [hb0 k hk];exact e2.frame.ext.β k hk,λk hk n y hy=>hown k hk n y (e2.frame.ext.own k hk n y hy)⟩,e2.frame.new⟩,
    hren,Rep.ren (c:=c2) (c':=c3) (λ_ _ _ _ hv=>hv) (λ_ _ hi=>hi) hrv λq hq=>hkey q (cL hb.1 q (hrk q hq)),λk hk=>?_,λk o b ho hb'=>?_⟩
   ·obtain ⟨q,hq,rfl⟩:=eN _ _ k hk
    exact hlive q (cL hb.1 q (hrk q hq))
   ·obtain ⟨q,o0,hq,rfl,g1,rfl⟩:=hlook k o ho
    have:excl c3 (aa+idxOf all q 0) (o0.ren λk=>aa+idxOf all k 0)=excl c2 q o0:=eQ (by show c2.β (ia all (aa+idxOf all q 0 - aa))=_;rw [Nat.add_sub_cancel_left,cP (bN 0 hq)]) (by show c2.κ (ia all (aa+idxOf all q 0 - aa))=_;rw [Nat.add_sub_cancel_left,cP (bN 0 hq)])
    rw [this] at hb'
    exact e2.mine q o0 b g1 hb'
  cases ex with
  | exit id=>simp at hex
  | nor=>exact hfin hex
  | ret=>exact hfin hex
theorem Pd {V:Env} {T:List Ent} {d:Nat} {L:List (List Nat×Orc)} {W:List (List Nat×Vw)} {f:FuncId} {n:Nat} {l:List AV} {os:List AO} {r:AV×List AO} (hm:V.P.follows .mixedOrders=true) (hP:ll V.P) (hT:Fv V T)
  (hL:∀e∈L,bH (V.run T d [] L W f) f e.1 e.2) (hW:∀e∈W,fW e.2) (he:GJ (V.run T d [] L W f) n f l os=some r):Ct V.P V.G f l os r:=by
 have hO:OracOk (V.run T d [] L W f) f:=by
  refine ⟨λp g hg=>?_,λp g hg=>?_,λp g hg=>?_⟩
  ·simp only [Env.run,Nat.beq_refl,cond_true] at hg
   exact absurd (fF hg) (List.not_mem_nil)
  ·simp only [Env.run,Nat.beq_refl,cond_true] at hg
   exact hW _ (fF hg)
  ·simp only [Env.run,Nat.beq_refl,cond_true] at hg
   exact hL _ (fF hg)
 have hh:=he
 unfold GJ at hh
 cases hf:(V.run T d [] L W f).P.funcs[f]? with
 | none=>simp only [hf] at hh;cases hh
 | some fn=>
  have hf':V.P.funcs[f]?=some fn:=hf
  obtain ⟨h1,h2⟩:=hP f fn hf'
  refine ⟨AY (X:=V.run T d [] L W f) (ux hm hP hT d [] L W f) hm hO hf h2 he,fn,hf',h1,?_⟩
  cases hb:fn.body with
  | none=>simp only [hf,hb] at hh;cases hh
  | some c=>rfl
def BU (X:Cfg) (fn:Func) (m:Nat) (s:St):Option (AV×List AO):=
 (nH X s fn.results.toList).bind λvs=>(some (vs,s.objs)).bind λa=>
  (dc a.2 ((List.range m).map (aa+·)++cj ((List.range m).map (aa+·)) (ck a.2 ((List.range m).map (aa+·)++ak (a.1))))).bind λos=>
   cond (sQ (ak (a.1)) ((List.range m).map (aa+·)++cj ((List.range m).map (aa+·)) (ck a.2 ((List.range m).map (aa+·)++ak (a.1)))) &&
    sQ (bF a.2 ((List.range m).map (aa+·)++cj ((List.range m).map (aa+·)) (ck a.2 ((List.range m).map (aa+·)++ak (a.1))))) ((List.range m).map (aa+·)++cj ((List.range m).map (aa+·)) (ck a.2 ((List.range m).map (aa+·)++ak (a.1)))))
    (some ((match a.1 with | [v]=>v | vs=>AV.tup vs).ren (λk=>aa+idxOf ((List.range m).map (aa+·)++cj ((List.range m).map (aa+·)) (ck a.2 ((List.range m).map (aa+·)++ak (a.1)))) k 0),
     os.map (AO.ren λk=>aa+idxOf ((List.range m).map (aa+·)++cj ((List.range m).map (aa+·)) (ck a.2 ((List.range m).map (aa+·)++ak (a.1)))) k 0))) none
def GI (X:Cfg) (n:Nat) (f:FuncId) (args:List AV) (objs:List AO):Option (AV×List AO):=
 match X.P.funcs[f]? with
 | some fn=>(match fn.body with
  | some c=>kj X f n c [] {env:=eb args 0,objs:=ab objs aa} λe s=>
    (match e with
    | .exit _=>none
    | _=>BU X fn objs.length s)
  | none=>none)
 | none=>none
theorem AX {X:Cfg} (hX:dX X) (hm:X.P.follows .mixedOrders=true) {f:FuncId} (hO:OracOk X f) {fn:Func} (hf:X.P.funcs[f]?=some fn) (hok:∀c,fn.body=some c->codeOk fn.ntmps c=true) {n:Nat} {args:List AV} {os:List AO}
  {r:AV} {os':List AO} (he:GI X n f args os=some (r,os')):rp X.P X.G f args os r os':=by
 unfold GI at he
 rw [hf] at he
 dsimp only at he
 cases hbody:fn.body with
 | none=>simp [hbody] at he
 | some code=>
  simp only [hbody] at he
  have hcode:=hok code hbody
  intro c0 vs hgood hobjs hsz hrep hkeys
  let a0:Act:={tmps:=vs++Array.replicate (fn.ntmps - vs.size) undef,defers:=[]}
  let B:Base:={c0:=c0,D:=held c0 (ab os aa),K:=live (ab os aa),G:=X.G,N:=a0.tmps.size}
  let s0:St:={env:=eb args 0,objs:=ab os aa}
  have hN:fn.ntmps<=B.N:=by simp [B,a0];omega
  have hcode':codeOk B.N code=true:=de hN hcode
  have hget:∀t v,s0.get t=some v->args[t]?=some v:=λt v hv=>by
   have:alook (eb args 0) t=some v:=hv
   rw [gQ,if_pos (Nat.zero_le _)] at this;simpa using this
  have hval:∀t v,args[t]?=some v->Rep c0 v (a0.tmps.getD t undef):=λt v hv=>by
   have hlt:t < vs.size:=by rw [hsz];exact (List.getElem?_eq_some_iff.1 hv).1
   have e:a0.tmps.getD t undef=vs.getD t undef:=by
    simp only [a0,Array.getD_eq_getD_getElem?]
    rw [Array.getElem?_append_left hlt]
   rw [e];exact hrep t v hv
  have hplain:∀t v,s0.get t=some v->v.dH=false:=λt v hv=>by
   have:=hval t v (hget t v hv)
   generalize a0.tmps.getD t undef=V at this
   cases this <;> rfl
  have h0:Rel B c0 s0 a0:=by
   refine ⟨hgood,⟨rfl,rfl,rfl,Nat.le_refl _,λ_ _ _=>rfl,Ext.refl _ _,λ_ _ _ _ hi=>hi⟩,hobjs,λt v hv=>fX.vK (hplain t v hv) (hval t v (hget t v hv)),
    λt v hv k hk=>hkeys k (aK (hget t v hv) k hk),λk o b ho hb=>.inr ⟨k,o,ho,hb⟩,rfl,rfl,λk hk=>hk⟩
  refine calls_of_wp hf hbody ?_
  refine dq (B:=B) hX rfl hm (λk hk=>(iQ hk).1) f hO code [] (by simp [bD,ef,hf,hbody]) hcode' n s0 c0 a0 _ (r,os') _ he h0 hplain λex s' c' a' hex hr' hn'=>?_
  have hfin:BU X fn os.length s'=some (r,os')->a'.defers=[]/\∃v,(results fn a'.tmps).run X.P c'.w=.ok v c'.w/\∃c2 x,Ending.returned v=.returned x/\c2.w=c'.w/\Good X.G c2 /\
   Frame {c0:=c0,D:=held c0 (ab os aa),K:=live (ab os aa),G:=X.G,N:=0} c2 /\
   Objs c2 (ab os' aa)/\Rep c2 r x/\(∀k∈r.keys,live (ab os' aa) k) /\
   ∀k o b,alook (ab os' aa) k=some o->excl c2 k o=some b->c0.w.heap.size<=b∨held c0 (ab os aa) b:=by
   intro hfin
   refine ⟨hr'.defers,?_⟩
   unfold BU at hfin
   obtain ⟨rs,h1,hfin⟩:=ag hfin
   obtain ⟨⟨rs',o1⟩,h2,hfin⟩:=ag hfin
   dsimp only at hfin
   obtain ⟨os1,h3,hfin⟩:=ag hfin
   obtain ⟨hb,hfin⟩:=bB hfin
   simp only [Option.some.injEq,Prod.mk.injEq] at hfin
   obtain ⟨hres,rfl⟩:=hfin
   simp only [Bool.and_eq_true] at hb
   obtain ⟨xs,hs,hrun⟩:=iy X hr' hn' h1
   obtain ⟨c2,e1,e2,e3,e4,e5⟩:∃c2:Cx,c2.w=c'.w/\Rel B c2 (s'.with o1) a'/\dR B c2 (s'.with o1) rs' xs/\(∀k,live s'.objs k->live o1 k)/\Ext c' c2 (live s'.objs):=by
    obtain ⟨q1,q2⟩:=Prod.mk.inj (Option.some.inj h2)
    subst q1 q2
    exact ⟨c',rfl,hr',hs,λ_ h=>h,Ext.refl _ _⟩
   have hs2:=e3
   have hfn:=hs2.fn
   generalize hr0:(match rs' with | [v]=>v | vs=>AV.tup vs)=r0 at hres
   subst hres
   let ks:=(List.range os.length).map (aa+·)
   let all:=ks++cj ks (ck o1 (ks++ak (rs')))
   have hbase:ks.Nodup:=(List.dh os.length)
   have hall:all.Nodup:=List.nodup_append.2 ⟨hbase,gM (gh _ _).1,λx hx y hy e=>(hM hy).2 (e ▸ hx)⟩
   obtain ⟨hren,hkey,hlook,hlive⟩:=Ae e2.objs hall h3 (cL hb.2)
   obtain ⟨v,hv,hrv,hrk⟩:∃v,(results fn a'.tmps).run X.P c'.w=.ok v c'.w/\Rep c2 r0 v/\∀k∈r0.keys,k∈ak (rs'):=by
    have hm':(fn.results.mapM (m:=Sem) (NF a'.tmps)).run X.P c'.w=.ok xs.toArray c'.w:=by
     rw [Array.mapM_eq_mapM_toList]
     simp only [Sem.run_map]
     rw [hrun];rfl
    have hres':∀ (v:Value),(if h:xs.toArray.size=1 then xs.toArray[0] else Value.tuple xs.toArray)=v->(results fn a'.tmps).run X.P c'.w=.ok v c'.w:=by
     intro v hv
     rw [pD]
     simp only [Sem.run_bind,hm',Result.andThen_ok]
     rw [hv];rfl
    by_cases h1:xs.length=1
    ·obtain ⟨x,rfl⟩:=List.length_eq_one_iff.1 h1
     have hl:(rs').length=1:=by rw [<-hs2.1];rfl
     obtain ⟨u,hu⟩:=List.length_eq_one_iff.1 hl
     have hres:u=r0:=by rw [<-hr0,hu]
     subst hres
     refine ⟨x,hres' x (by simp),(hs2.2 0 u (by rw [hu];rfl)).rep,λk hk=>by rw [hu];simpa [ak] using hk⟩
    ·have hl:(rs').length≠1:=by rw [<-hs2.1];exact h1
     have hr:r0=.tup (rs'):=by
      rw [<-hr0]
      cases h:rs' with
      | nil=>rfl
      | cons u l=>cases l with
       | nil=>rw [h] at hl;simp at hl
       | cons _ _=>rfl
     rw [hr]
     refine ⟨.tuple xs.toArray,hres' _ (by rw [dif_neg];simpa using h1),.tup _ _ hfn.1 hfn.2.1,λk hk=>by simpa [AV.keys] using hk⟩
   let c3:Cx:={w:=c2.w,I:=c2.I,β:=λq=>c2.β (ia all (q - aa)),κ:=λq=>c2.κ (ia all (q - aa)),fr:=λq=>c2.fr (ia all (q - aa))}
   have hb0:∀k,live (ab os aa) k->ia all (k - aa)=k:=by
    intro k hk
    obtain ⟨g1,g2⟩:=iQ hk
    refine cP ?_
    show (ks++_)[k - aa]?=some k
    rw [List.getElem?_append_left (by simpa [ks] using g2)]
    simp [ks,g2];omega
   have hown:∀k,live (ab os aa) k->∀n y,aF c2 (.key k) n y->aF c3 (.key k) n y:=λk hk n y=>by
    simp only [aF,c3,hb0 k hk];exact id
   refine ⟨v,hv,c3,v,rfl,e1,⟨e2.good.there,λg cs hg=>(e2.good.globs g cs hg).ext (ks:=λ_=>False) ⟨λ_ _ _ _ hv=>hv,λ_ _ hi=>hi,λ_ hk=>hk.elim,λ_ hk=>hk.elim⟩ (by simp [AV.keys])⟩,
    ⟨e2.frame.os,e2.frame.output,e2.frame.tape,e2.frame.size,e2.frame.block,⟨e2.frame.ext.cell,e2.frame.ext.I,λk hk=>by show c2.β (ia all (k - aa))=_;rw [hb0 k hk];exact e2.frame.ext.β k hk,λk hk n y hy=>hown k hk n y (e2.frame.ext.own k hk n y hy)⟩,e2.frame.new⟩,
    hren,Rep.ren (c:=c2) (c':=c3) (λ_ _ _ _ hv=>hv) (λ_ _ hi=>hi) hrv λq hq=>hkey q (cL hb.1 q (hrk q hq)),λk hk=>?_,λk o b ho hb'=>?_⟩
   ·obtain ⟨q,hq,rfl⟩:=eN _ _ k hk
    exact hlive q (cL hb.1 q (hrk q hq))
   ·obtain ⟨q,o0,hq,rfl,g1,rfl⟩:=hlook k o ho
    have:excl c3 (aa+idxOf all q 0) (o0.ren λk=>aa+idxOf all k 0)=excl c2 q o0:=eQ (by show c2.β (ia all (aa+idxOf all q 0 - aa))=_;rw [Nat.add_sub_cancel_left,cP (bN 0 hq)]) (by show c2.κ (ia all (aa+idxOf all q 0 - aa))=_;rw [Nat.add_sub_cancel_left,cP (bN 0 hq)])
    rw [this] at hb'
    exact e2.mine q o0 b g1 hb'
  cases ex with
  | exit id=>simp at hex
  | nor=>exact hfin hex
  | ret=>exact hfin hex
theorem Pc {V:Env} {T:List Ent} {d:Nat} {L:List (List Nat×Orc)} {W:List (List Nat×Vw)} {f:FuncId} {n:Nat} {l:List AV} {os:List AO} {r:AV×List AO} (hm:V.P.follows .mixedOrders=true) (hP:ll V.P) (hT:Fv V T)
  (hL:∀e∈L,bH (V.run T d [] L W f) f e.1 e.2) (hW:∀e∈W,fW e.2) (he:GI (V.run T d [] L W f) n f l os=some r):Ct V.P V.G f l os r:=by
 have hO:OracOk (V.run T d [] L W f) f:=by
  refine ⟨λp g hg=>?_,λp g hg=>?_,λp g hg=>?_⟩
  ·simp only [Env.run,Nat.beq_refl,cond_true] at hg
   exact absurd (fF hg) (List.not_mem_nil)
  ·simp only [Env.run,Nat.beq_refl,cond_true] at hg
   exact hW _ (fF hg)
  ·simp only [Env.run,Nat.beq_refl,cond_true] at hg
   exact hL _ (fF hg)
 have hh:=he
 unfold GI at hh
 cases hf:(V.run T d [] L W f).P.funcs[f]? with
 | none=>simp only [hf] at hh;cases hh
 | some fn=>
  have hf':V.P.funcs[f]?=some fn:=hf
  obtain ⟨h1,h2⟩:=hP f fn hf'
  refine ⟨AX (X:=V.run T d [] L W f) (ux hm hP hT d [] L W f) hm hO hf h2 he,fn,hf',h1,?_⟩
  cases hb:fn.body with
  | none=>simp only [hf,hb] at hh;cases hh
  | some c=>rfl
variable {B:Base} {c:Cx} {s:St} {a:Act}
def Told (cs cs':List AV):Prop:=cs'.length=cs.length/\ak cs'=[]/\∀ (i:Nat) (u u':AV),cs[i]?=some u->cs'[i]?=some u'->u'.one=true/\∀c x,Rep c u x->Rep c u' x
inductive ObjLe:AO->AO->Prop
 | same (o):ObjLe o o
 | cells (cs cs'):Told cs cs'->ObjLe (.cells cs) (.cells cs')
 | grw (q sz n get get'):(∀j,j < n->get' j=get j)->ObjLe (.grw q sz n get) (.grw q sz n get')
inductive ObjsLe:List (Nat×AO)->List (Nat×AO)->Prop
 | nil:ObjsLe [] []
 | cons (k o o' r r'):ObjLe o o'->ObjsLe r r'->ObjsLe ((k,o)::r) ((k,o')::r')
theorem ObjsLe.look {l l':List (Nat×AO)} (h:ObjsLe l l') (k:Nat):(alook l k=none/\alook l' k=none)∨∃o o',alook l k=some o/\alook l' k=some o'/\ObjLe o o':=by
 induction h with
 | nil=>exact .inl ⟨rfl,rfl⟩
 | cons q o o' r r' h1 _ ih=>
  simp only [alook]
  cases hb:Nat.beq q k with
  | true=>exact .inr ⟨o,o',rfl,rfl,h1⟩
  | false=>exact ih
theorem ObjLe.excl {o o':AO} (h:ObjLe o o') (k:Nat):excl c k o'=excl c k o:=by cases h <;> rfl
theorem ObjLe.keys {o o':AO} (h:ObjLe o o'):o'=o∨o'.keys=[]:=by
 cases h with
 | same=>exact .inl rfl
 | cells cs cs' h=>exact .inr h.2.1
 | grw sq sz n get get' h=>exact .inr rfl
theorem ObjLe.rep {o o':AO} (h:ObjLe o o') {k:Nat} (hr:iv c k o):iv c k o':=by
 cases h with
 | same=>exact hr
 | cells cs cs' h=>
  obtain ⟨⟨⟨vs,t,hh,hs,hv⟩,h1⟩,hI,hf⟩:=hr
  have hg:∀ (i:Nat) (u':AV),cs'[i]?=some u'->∃u,cs[i]?=some u:=λi u' hu=>by
   have:=(List.getElem?_eq_some_iff.1 hu).1
   rw [h.1] at this
   exact ⟨_,List.getElem?_eq_getElem this⟩
  refine ⟨⟨⟨vs,t,hh,by rw [h.1];exact hs,λi u' hu=>?_⟩,λi u' hu=>?_⟩,hI,hf⟩
  ·obtain ⟨u,hu0⟩:=hg i u' hu
   exact (h.2.2 i u u' hu0 hu).2 _ _ (hv i u hu0)
  ·obtain ⟨u,hu0⟩:=hg i u' hu
   exact (h.2.2 i u u' hu0 hu).1
 | grw sq sz n get get' h=>
  obtain ⟨h0,hfr,hm⟩:=hr
  refine ⟨h0,hfr,?_⟩
  cases hc:c.κ k with
  | none=>simp only [hc] at hm;exact hm
  | some p=>
   obtain ⟨a,cap⟩:=p
   simp only [hc] at hm ⊢
   refine ⟨hm.1,λhlt=>?_⟩
   obtain ⟨⟨vs,t,hh,hs,hv⟩,had,hl,h1,hfree⟩:=hm.2 hlt
   exact ⟨⟨vs,t,hh,hs,λj i u hj hu=>hv j i u hj (by rwa [h j hj] at hu)⟩,had,λj hj=>by rw [h j hj];exact hl j hj,λj i u hj hu=>h1 j i u hj (by rwa [h j hj] at hu),hfree⟩
theorem Rel.weak (h:Rel B c s a) {objs':List (Nat×AO)} (hw:ObjsLe s.objs objs'):Rel B c {env:=s.env,objs:=objs'} a:=by
 have hlive:∀k,live s.objs k->live objs' k:=λk hk=>by
  obtain ⟨o,hk⟩:=hk
  rcases hw.look k with ⟨h1,_⟩ | ⟨_,o',_,h2,_⟩
  ·rw [h1] at hk;cases hk
  ·exact ⟨o',h2⟩
 have hback:∀ {k o'},alook objs' k=some o'->∃o,alook s.objs k=some o/\ObjLe o o':=fun {k o'} hk=>by
  rcases hw.look k with ⟨_,h1⟩ | ⟨o,o2,h1,h2,h3⟩
  ·rw [h1] at hk;cases hk
  ·rw [h2] at hk;cases hk;exact ⟨o,h1,h3⟩
 refine ⟨h.good,h.frame,⟨λk o' hk=>?_,λk o' q o2 b hk hq hne hb=>?_,λk o' hk q hq=>?_⟩,h.env,λt v hv k hk=>hlive k (h.closed t v hv k hk),λk o' b hk hb=>?_,h.tmps,h.defers,λk hk=>hlive k (h.kept k hk)⟩
 ·obtain ⟨o,h1,h2⟩:=hback hk
  exact h2.rep (h.objs.rep k o h1)
 ·obtain ⟨o,h1,h2⟩:=hback hk
  obtain ⟨o3,h3,h4⟩:=hback hq
  rw [h4.excl]
  rw [h2.excl] at hb
  exact h.objs.apart k o q o3 b h1 h3 hne hb
 ·obtain ⟨o,h1,h2⟩:=hback hk
  rcases h2.keys with rfl | h0
  ·exact hlive q (h.objs.closed k _ h1 q hq)
  ·rw [h0] at hq;cases hq
 ·obtain ⟨o,h1,h2⟩:=hback hk
  rw [h2.excl] at hb
  exact h.mine k o b h1 hb
end Go.Ab
namespace Go.Ab
open Go Go.RowKit
variable {B:Base} {c:Cx} {s:St} {a:Act}
def Ic (s:St) (ob off:Nat):Option St:=
 match s.obj ob with
 | some (.cells cs)=>(cs[off]?).bind λv=>(bJ s.objs v).bind λr=>(match alook r.2 ob with
  | some (.cells cs')=>some {env:=s.env,objs:=aput r.2 ob (.cells (cs'.set off r.1))}
  | _=>none)
 | _=>none
theorem qY {objs objs':List (Nat×AO)} {v v':AV} (h:bJ objs v=some (v',objs')) {ob:Nat} {cs:List AV} (ho:alook objs ob=some (.cells cs)):alook objs' ob=some (.cells cs):=by
 cases v with
 | msl k sz off n=>
  simp only [bJ] at h
  split at h
  ·rename_i hk
   obtain ⟨_,h⟩:=al h
   simp only [Option.some.injEq,Prod.mk.injEq] at h
   rw [<-h.2,aV]
   by_cases e:k=ob
   ·subst e;rw [hk] at ho;cases ho
   ·rw [if_neg e];exact ho
  ·obtain ⟨_,h⟩:=al h
   simp only [Option.some.injEq,Prod.mk.injEq] at h
   rw [<-h.2];exact ho
  ·cases h
 | gsl k sz n=>
  simp only [bJ] at h
  split at h
  ·rename_i hk
   obtain ⟨_,h⟩:=al h
   simp only [Option.some.injEq,Prod.mk.injEq] at h
   rw [<-h.2,aV]
   by_cases e:k=ob
   ·subst e;rw [hk] at ho;cases ho
   ·rw [if_neg e];exact ho
  ·cases h
 | _=>simp only [bJ,Option.some.injEq,Prod.mk.injEq] at h;rw [<-h.2];exact ho
theorem zT {ob off:Nat} {s':St} (h:Rel B c s a) (hn:cz s) (he:Ic s ob off=some s'):∃c',c'.w=c.w/\Rel B c' s' a/\cz s':=by
 unfold Ic at he
 split at he
 ·rename_i cs hob
  obtain ⟨v,hg,he⟩:=ag he
  obtain ⟨⟨v',objs'⟩,hf,he⟩:=ag he
  have hob1:=qY hf hob
  simp only [hob1,Option.some.injEq] at he
  subst he
  obtain ⟨⟨⟨vs,t,hh,hs,hv⟩,h1⟩,hI,hfr⟩:=h.objs.rep ob _ hob
  have hsee:Sees B c s v (vs.getD off undef):=⟨hv off v hg,λk hk=>h.objs.closed ob _ hob k (by simpa [AO.keys] using aK hg k hk),(hv off v hg).plain⟩
  obtain ⟨c1,e1,e2,e3,_,e6⟩:=kW h hsee hf
  obtain ⟨⟨⟨vs1,t1,hh1,hs1,hv1⟩,h11⟩,hI1,hfr1⟩:=e2.objs.rep ob _ hob1
  have hβ:c1.β ob=c.β ob:=e6.β ob ⟨_,hob⟩
  rw [e1,hβ,hh] at hh1
  simp only [Option.some.injEq,Obj.cells.injEq] at hh1
  obtain ⟨rfl,rfl,_⟩:=hh1
  have hoff:off < cs.length:=(List.getElem?_eq_some_iff.1 hg).1
  have hget:∀ (i:Nat) (u:AV),(cs.set off v')[i]?=some u->(i=off/\u=v')∨cs[i]?=some u:=by
   intro i u hu
   rw [List.getElem?_set] at hu
   by_cases e:off=i
   ·subst e;simp [hoff] at hu;exact .inl ⟨rfl,hu.symm⟩
   ·rw [if_neg e] at hu;exact .inr hu
  let s1:St:={env:=s.env,objs:=objs'}
  have hrel:Rel B c1 (s1.setObj ob (.cells (cs.set off v'))) a:=by
   refine e2.obj (k:=ob) ((Keeps.refl c1 s1.objs).but ob) (Grow.refl e2.good) ⟨⟨⟨vs,t,by rw [e1,hβ];exact hh,by rw [hs,List.length_set],λi u hu=>?_⟩,λi u hu=>?_⟩,hI1,hfr1⟩
    (λq o' b hq hne' hb' e=>e2.objs.apart q o' ob _ b hq hob1 hne' hb' e) (λq hq=>?_) (λb hb'=>e2.mine ob _ b hob1 hb')
   ·rcases hget i u hu with ⟨rfl,rfl⟩ | hu
    ·exact e3.rep
    ·exact hv1 i u hu
   ·rcases hget i u hu with ⟨rfl,rfl⟩ | hu
    ·rw [tX hf];exact h1 _ _ hg
    ·exact h1 i u hu
   ·simp only [AO.keys] at hq
    rcases tK q hq with hq | hq
    ·exact .inr (e3.live q hq)
    ·exact .inr (e2.objs.closed ob _ hob1 q (by simpa [AO.keys] using hq))
  exact ⟨c1,e1,hrel,λq u hu=>hn q u hu⟩
 ·cases he
end Go.Ab
namespace Go.Ab
open Go
variable {B:Base} {c:Cx} {s:St} {a:Act}
theorem mH {o:Own} {sz n:Nat} {get get':Nat->List AV} {x:Value} (h:Rep c (.sl o sz n get) x) (hg:∀j,j < n->get' j=get j):Rep c (.sl .no sz n get') x:=by
 cases h with
 | slNil _ _ _ _=>exact .slNil .no _ _ trivial
 | sl _ _ _ _ ad cap vals h1 h2 h3 h4 h5 h6=>
  exact .sl .no sz n get' ad cap vals h1 h2 trivial (λj hj=>by rw [hg j hj];exact h4 j hj) (λj i u hj=>by rw [hg j hj];exact h5 j i u hj) (λj i u hj=>by rw [hg j hj];exact h6 j i u hj)
theorem yG (h:Rel B c s a) (hn:cz s) {t:Nat} {o:Own} {sz n:Nat} {get get':Nat->List AV} (hv:s.get t=some (.sl o sz n get)) (hg:∀j,j < n->get' j=get j) :
  Rel B c (s.put (some t) (.sl .no sz n get')) a/\cz (s.put (some t) (.sl .no sz n get')):=by
 have hr:Rep c (.sl o sz n get) (a.tmps.getD t undef):=h.env t _ hv
 have e:Sees B c s (.sl .no sz n get') (a.tmps.getD t undef):=⟨mH hr hg,λk hk=>by simp [AV.keys] at hk,rfl⟩
 exact ⟨h.reslot e hn,hn.put e.plain⟩
theorem xi {o:Own} {sz sz':Nat} {get get':Nat->List AV} {x:Value} (h:Rep c (.sl o sz 0 get) x):Rep c (.sl .no sz' 0 get') x:=by
 cases h with
 | slNil _ _ _ _=>exact .slNil .no _ _ trivial
 | sl _ _ _ _ ad cap vals h1 h2 h3 h4 h5 h6=>
  exact .sl .no sz' 0 get' ad cap vals h1 h2 trivial (λj hj=>absurd hj (Nat.not_lt_zero _)) (λj i u hj=>absurd hj (Nat.not_lt_zero _)) (λj i u hj=>absurd hj (Nat.not_lt_zero _))
theorem CQ (h:Rel B c s a) (hn:cz s) {t:Nat} {o:Own} {sz sz':Nat} {get get':Nat->List AV} (hv:s.get t=some (.sl o sz 0 get)) :
  Rel B c (s.put (some t) (.sl .no sz' 0 get')) a/\cz (s.put (some t) (.sl .no sz' 0 get')):=by
 have hr:Rep c (.sl o sz 0 get) (a.tmps.getD t undef):=h.env t _ hv
 have e:Sees B c s (.sl .no sz' 0 get') (a.tmps.getD t undef):=⟨xi hr,λk hk=>by simp [AV.keys] at hk,rfl⟩
 exact ⟨h.reslot e hn,hn.put e.plain⟩
def mkU {τ:Type} (g:St->Bool) (v:St->τ) (S:τ->St):Vw:=λs k=>cond (g s) (k (S (v s))) (k s)
open Classical in
theorem nz {α:Type} [Inhabited α] (S S':α->St) (Inv:α->Prop) (hS:∀v,Inv v->∀ (B:Base) (c:Cx) (a:Act),Rel B c (S v) a->cz (S v)->Rel B c (S' v) a/\cz (S' v)):fW (mkU (dK S Inv) (gU S Inv id) S'):=by
 intro s k r h
 unfold mkU at h
 cases hg:dK S Inv s with
 | false=>rw [hg] at h;exact ⟨s,h,λB c a hr hn=>⟨c,rfl,hr,hn⟩⟩
 | true=>
  rw [hg] at h
  have hx:∃v,Inv v/\S v=s:=of_decide_eq_true hg
  unfold gU at h
  rw [dif_pos hx,id] at h
  obtain ⟨h1,h2⟩:=hx.choose_spec
  exact ⟨_,h,λB c a hr hn=>⟨c,rfl,hS _ h1 B c a (by rw [h2];exact hr) (by rw [h2];exact hn)⟩⟩
open Classical in
theorem oN {α:Type} {S:α->St} {Inv:α->Prop} {s:St} (h:∀v,Inv v->S v≠s):dK S Inv s=false:=by
 unfold dK
 exact decide_eq_false λ⟨v,h1,h2⟩=>h v h1 h2
end Go.Ab
namespace Go.Ab
open Go
theorem uC {a b:Nat} (h:a < b):Nat.blt a b=true:=Nat.ble_eq_true_of_le h
theorem zq {a b:Nat} (h:Nat.blt a b=true):a < b:=Nat.le_of_ble_eq_true h
def Js (z:List AV) (n:Nat) (get:Nat->List AV):Nat->List AV:=λj=>cond (Nat.blt j n) (get j) z
def JM (s:St) (t sz:Nat) (z:List AV):St:=
 match s.get t with
 | some (.sl _ sz0 n get)=>cond (Nat.beq sz0 sz) (s.put (some t) (.sl .no sz0 n (Js z n get))) (match n with
  | 0=>s.put (some t) (.sl .no sz 0 λ_=>z)
  | _+1=>s)
 | _=>s
def Gc:List (Nat×Nat×List AV)->St->St
 | [],s=>s
 | t::r,s=>Gc r (JM s t.1 t.2.1 t.2.2)
def JK (ts:List (Nat×Nat×List AV)):Vw:=λs k=>k (Gc ts s)
theorem JL {B:Base} {c:Cx} {s:St} {a:Act} (h:Rel B c s a) (hn:cz s) (t sz:Nat) (z:List AV):Rel B c (JM s t sz z) a/\cz (JM s t sz z):=by
 unfold JM
 split
 ·rename_i o sz0 n get hv
  cases hb:Nat.beq sz0 sz with
  | true=>exact yG h hn hv λj hj=>by unfold Js;rw [uC hj];rfl
  | false=>
   cases n with
   | zero=>exact CQ h hn hv
   | succ n=>exact ⟨h,hn⟩
 ·exact ⟨h,hn⟩
theorem CS {B:Base} {c:Cx} {a:Act}:∀ (ts:List (Nat×Nat×List AV)) (s:St),Rel B c s a->cz s->Rel B c (Gc ts s) a/\cz (Gc ts s)
 | [],s,h,hn=>⟨h,hn⟩
 | t::r,s,h,hn=>by
  have:=JL h hn t.1 t.2.1 t.2.2
  exact CS r _ this.1 this.2
theorem wL (ts:List (Nat×Nat×List AV)):fW (JK ts):=λs k r h=>⟨Gc ts s,h,λB c a hr hn=>⟨c,rfl,CS ts s hr hn⟩⟩
theorem ON {T:Type} (R:T->List AV) (z:T) {n:Nat} {get:Nat->List AV} (g:Nat->T) (h:∀j,j < n->get j=R (g j)):Js (R z) n get=λj=>R (bif Nat.blt j n then g j else z):=by
 funext j
 unfold Js
 cases hb:Nat.blt j n with
 | true=>exact h j (zq hb)
 | false=>rfl
def lB {T:Type} (f:Nat->T) (n:Nat) (x:T):Nat->T:=λj=>bif Nat.beq j n then x else f j
theorem w8 {T:Type} (f:Nat->T) (n:Nat) (x:T):lB f n x n=x:=by unfold lB;rw [Nat.beq_refl];rfl
theorem sX {T:Type} (f:Nat->T) {n j:Nat} (x:T) (h:j≠n):lB f n x j=f j:=by
 unfold lB
 cases hb:Nat.beq j n with
 | false=>rfl
 | true=>exact absurd (Nat.eq_of_beq_eq_true hb) h
theorem yl {T:Type} (R:T->List AV) (n:Nat) (f:Nat->T) (h:Nat->List AV) (x:T) (hx:h 0=R x):af n 1 (λj=>R (f j)) h=λj=>R (lB f n x j):=by
 funext j
 unfold af
 by_cases h1:j < n
 ·rw [show Nat.blt j n=true from uC h1,sX f x (by omega)];rfl
 ·have b1:Nat.blt j n=false:=by
   cases hb:Nat.blt j n with
   | false=>rfl
   | true=>exact absurd (zq hb) h1
  rw [b1]
  by_cases h2:j=n
  ·subst h2
   rw [w8,show Nat.blt j (j+1)=true from uC (Nat.lt_succ_self j),Nat.sub_self,hx];rfl
  ·have b2:Nat.blt j (n+1)=false:=by
    cases hb:Nat.blt j (n+1) with
    | false=>rfl
    | true=>exact absurd (zq hb) (by omega)
   rw [b2,sX f x h2];rfl
def Jv {T:Type} (n m:Nat) (f g:Nat->T):Nat->T:=λj=>bif Nat.blt j n then f j else bif Nat.blt j (n+m) then g (j - n) else f j
theorem yk {T:Type} (R:T->List AV) (n m:Nat) (f g:Nat->T):af n m (λj=>R (f j)) (λj=>R (g j))=λj=>R (Jv n m f g j):=by
 funext j
 unfold af Jv
 cases Nat.blt j n <;> cases Nat.blt j (n+m) <;> rfl
theorem Pq {T:Type} {n m:Nat} (f g:Nat->T) {j:Nat} (h:j < n):Jv n m f g j=f j:=by
 unfold Jv;rw [show Nat.blt j n=true from uC h];rfl
theorem Pr {T:Type} {n m:Nat} (f g:Nat->T) {j:Nat} (h:j < m):Jv n m f g (n+j)=g j:=by
 have b1:Nat.blt (n+j) n=false:=by
  cases hb:Nat.blt (n+j) n with
  | false=>rfl
  | true=>exact absurd (zq hb) (by omega)
 unfold Jv;rw [b1,show Nat.blt (n+j) (n+m)=true from uC (by omega),Nat.add_sub_cancel_left];rfl
variable {B:Base} {c:Cx} {s:St} {a:Act}
def GA (s:St) (k:Nat):St:=
 match s.obj k with
 | some (.grw 0 sz n get)=>s.setObj k (.grw 1 sz n get)
 | _=>s
def Qj (k:Nat):Vw:=λs f=>f (GA s k)
theorem Kc (h:Rel B c s a) (hn:cz s) (k:Nat):Rel B c (GA s k) a/\cz (GA s k):=by
 unfold GA
 split
 ·rename_i sz n get hk
  have hr0:=h.objs.rep k _ hk
  have hr:iv c k (.grw 1 sz n get):=by
   refine ⟨⟨hr0.1.1,Nat.zero_le _⟩,hr0.2.1,?_⟩
   have hx:=hr0.2.2
   cases hκ:c.κ k with
   | none=>rw [hκ] at hx;exact hx
   | some p=>
    obtain ⟨ad,cap⟩:=p
    rw [hκ] at hx
    refine ⟨hx.1,λh0=>?_⟩
    have g:=hx.2 h0
    exact ⟨g.row,g.addr,g.len,g.one,g.free⟩
  refine ⟨h.obj (k:=k) (o:=.grw 1 sz n get) ((Keeps.refl c s.objs).but k) (Grow.refl h.good) hr (λq o' b hq hne hb e=>?_) (by simp [AO.keys]) (λb hb=>h.mine k _ b hk hb),λt v ht=>hn t v ht⟩
  exact h.objs.apart q o' k _ b hq hk hne hb e
 ·exact ⟨h,hn⟩
theorem Kb (k:Nat):fW (Qj k):=λs f r h=>⟨GA s k,h,λB c a hr hn=>⟨c,rfl,Kc hr hn k⟩⟩
def Tb (oi ci K1 K2:Nat):Vw:=λs f=>
 match s.obj oi with
 | some (.cells cs)=>
  (match cs[ci]? with
  | some (.gsub k sz n 0 h)=>
   (match s.obj k,s.obj (cond (Nat.beq k K1) K2 K1) with
   | some (.grw q sz' n' get),none=>
    cond (Nat.beq sz sz'&&(Nat.beq n n'&&(ly q h&&(Nat.ble h n&&!(Nat.beq k oi)&&!(Nat.beq (cond (Nat.beq k K1) K2 K1) oi)))))
     (f {env:=s.env,objs:=aput (aput (aput s.objs k .gone) (cond (Nat.beq k K1) K2 K1) (.grw q sz h get)) oi (.cells (cs.set ci (.gsl (cond (Nat.beq k K1) K2 K1) sz h)))}) none
   | _,_=>f s)
  | _=>f s)
 | _=>f s
theorem Mj (h:Rel B c s a) (hn:cz s) {oi ci k K q sz n m:Nat} {cs:List AV} {get:Nat->List AV} {u0:AV} (ho:s.obj oi=some (.cells cs)) (hc:cs[ci]?=some u0) (hu0:∀x,Rep c u0 x->Rep c (.gsub k sz n 0 m) x) (hk:s.obj k=some (.grw q sz n get)) (hK:s.obj K=none) (hq:q - 1<=m) (hm:m<=n) (h1:k≠oi) (h2:K≠oi) :
  ∃c',c'.w=c.w/\Rel B c' ({env:=s.env,objs:=aput (aput (aput s.objs k .gone) K (.grw q sz m get)) oi (.cells (cs.set ci (.gsl K sz m)))}:St) a/\cz ({env:=s.env,objs:=aput (aput (aput s.objs k .gone) K (.grw q sz m get)) oi (.cells (cs.set ci (.gsl K sz m)))}:St):=by
 obtain ⟨⟨⟨vs,t,hh,hvs,hr⟩,hone⟩,hI,hfr⟩:=h.objs.rep oi _ ho
 obtain ⟨c1,e1,e2,e3,e4,e5⟩:=rekey h hk hK (hu0 _ (hr ci _ hc)) hm hq
 have hci:ci < cs.length:=(List.getElem?_eq_some_iff.1 hc).1
 have ho1:((s.setObj k .gone).setObj K (.grw q sz m get)).obj oi=some (.cells cs):=by
  rw [St.iP,if_neg h2,St.iP,if_neg h1];exact ho
 obtain ⟨⟨⟨vs',t',hh',hvs',hr'⟩,hone'⟩,hI',hfr'⟩:=e2.objs.rep oi _ ho1
 have hβ:c1.β oi=c.β oi:=e3.β oi ⟨_,ho⟩
 have hvv:vs'=vs:=by
  rw [hβ,e1] at hh'
  rw [hh] at hh'
  simp only [Option.some.injEq,Obj.cells.injEq] at hh'
  exact hh'.1.symm
 subst hvv
 have hX:Rep c1 (.gsl K sz m) (vs'.getD ci undef):=by
  generalize vs'.getD ci undef=X at e4 e5
  rcases e5 with ⟨rfl,rfl⟩ | ⟨b,o,sp,cap,_,rfl,hle,_⟩
  ·exact .gslNil _ _ e4
  ·exact .gsl _ _ _ _ _ hle e4
 have hrow:RowAt c1 (c1.β oi) (cs.set ci (.gsl K sz m)):=by
  refine ⟨⟨vs',t',hh',by rw [List.length_set];exact hvs',λi u hu=>?_⟩,λi u hu=>?_⟩
  ·rw [List.getElem?_set] at hu
   by_cases e:ci=i
   ·subst e;rw [if_pos rfl,if_pos hci] at hu;cases hu;exact hX
   ·rw [if_neg e] at hu;exact hr' i u hu
  ·rw [List.getElem?_set] at hu
   by_cases e:ci=i
   ·subst e;rw [if_pos rfl,if_pos hci] at hu;cases hu;rfl
   ·rw [if_neg e] at hu;exact hone' i u hu
 refine ⟨c1,e1,e2.obj (k:=oi) (o:=.cells (cs.set ci (.gsl K sz m))) ((Keeps.refl c1 _).but oi) (Grow.refl e2.good) ⟨hrow,hI',hfr'⟩ (λp o' b hp hne hb e=>?_) (λr hr=>?_) (λb hb=>e2.mine oi _ b ho1 hb),λt v ht=>hn t v ht⟩
 ·exact e2.objs.apart p o' oi _ b hp ho1 hne hb e
 ·have hr:r∈ak (cs.set ci (.gsl K sz m)):=hr
  rcases tK r hr with hr | hr
  ·simp [AV.keys] at hr;subst hr
   exact .inr ba
  ·exact .inr (e2.objs.closed oi _ ho1 r hr)
theorem NG (oi ci K1 K2:Nat):fW (Tb oi ci K1 K2):=by
 intro s f r h
 unfold Tb at h
 split at h
 ·rename_i cs ho
  split at h
  ·rename_i k sz n m hc
   split at h
   ·rename_i q sz' n' get hk hK
    obtain ⟨hb,h2⟩:=bB h
    clear h
    simp only [Bool.and_eq_true] at hb
    obtain ⟨b1,b2,b3,⟨b4,b5⟩,b6⟩:=hb
    have b1:=ez b1
    have b2:=ez b2
    subst b1 b2
    refine ⟨_,h2,λB c a hr hn=>Mj hr hn ho hc (λ_ h=>h) hk hK (sZ b3) (Nat.le_of_ble_eq_true b4) (λe=>?_) (λe=>?_)⟩
    ·rw [e,Nat.beq_refl] at b5;cases b5
    ·rw [e,Nat.beq_refl] at b6;cases b6
   ·exact ⟨s,h,λB c a hr hn=>⟨c,rfl,hr,hn⟩⟩
  ·exact ⟨s,h,λB c a hr hn=>⟨c,rfl,hr,hn⟩⟩
 ·exact ⟨s,h,λB c a hr hn=>⟨c,rfl,hr,hn⟩⟩
def TY (oi ci:Nat):Vw:=λs f=>
 match s.obj oi with
 | some (.cells cs)=>
  (match cs[ci]? with
  | some (.gsl k sz n)=>
   (match s.obj k with
   | some (.grw q sz' n' get)=>cond (Nat.beq sz sz'&&Nat.beq n n') (f {env:=s.env,objs:=aput (aput s.objs k (AA q sz n get)) oi (.cells (cs.set ci (.sl .no sz n get)))}) none
   | _=>f s)
  | _=>f s)
 | _=>f s
theorem OH (oi ci:Nat):fW (TY oi ci):=by
 intro s f r h
 unfold TY at h
 split at h
 ·rename_i cs ho
  split at h
  ·rename_i k sz n hc
   split at h
   ·rename_i q sz' n' get hk
    obtain ⟨hb,h2⟩:=bB h
    refine ⟨_,h2,λB c a hr hn=>zT (ob:=oi) (off:=ci) hr hn ?_⟩
    have hf:bJ s.objs (.gsl k sz n)=some (.sl .no sz n get,aput s.objs k (AA q sz n get)):=by
     have hk':alook s.objs k=some (.grw q sz' n' get):=hk
     simp only [bJ,hk',aj,hb,cond_true]
    unfold Ic
    rw [ho]
    simp only [hc,Option.bind_some,hf,qY hf ho]
   ·exact ⟨s,h,λB c a hr hn=>⟨c,rfl,hr,hn⟩⟩
  ·exact ⟨s,h,λB c a hr hn=>⟨c,rfl,hr,hn⟩⟩
 ·exact ⟨s,h,λB c a hr hn=>⟨c,rfl,hr,hn⟩⟩
def Eu (v w:Vw):Vw:=λs f=>v s λs'=>w s' f
theorem n9 {v w:Vw} (hv:fW v) (hw:fW w):fW (Eu v w):=λs f r h=>by
 obtain ⟨s1,h1,h2⟩:=hv s (λs'=>w s' f) r h
 obtain ⟨s2,h3,h4⟩:=hw s1 f r h1
 refine ⟨s2,h3,λB c a hr hn=>?_⟩
 obtain ⟨c1,e1,e2,e3⟩:=h2 B c a hr hn
 obtain ⟨c2,f1,f2,f3⟩:=h4 B c1 a e2 e3
 exact ⟨c2,f1.trans e1,f2,f3⟩
theorem OB {c:Cx} {k sz n:Nat} {x:Value} (h:Rep c (.gsl k sz n) x):Rep c (.gsub k sz n 0 n) x:=by
 cases h with
 | gslNil _ _ ho=>exact .gsubNil k sz ho
 | gsl _ _ _ a cap hle ho=>exact .gsub k sz n 0 n a cap a cap hle ho (by omega) rfl (λ_=>rfl) (λ_=>by rw [Nat.zero_mul];cases a;rfl)
def Sz (oi ci K:Nat):Vw:=λs f=>
 match s.obj oi with
 | some (.cells cs)=>
  (match cs[ci]? with
  | some (.gsl k sz n)=>
   (match s.obj k,s.obj K with
   | some (.grw q sz' n' get),none=>
    cond (Nat.beq sz sz'&&(Nat.beq n n'&&(ly q n&&(!(Nat.beq k oi)&&!(Nat.beq K oi)))))
     (f {env:=s.env,objs:=aput (aput (aput s.objs k .gone) K (.grw q sz n get)) oi (.cells (cs.set ci (.gsl K sz n)))}) none
   | _,_=>f s)
  | _=>f s)
 | _=>f s
theorem Hb (oi ci K:Nat):fW (Sz oi ci K):=by
 intro s f r h
 unfold Sz at h
 split at h
 ·rename_i cs ho
  split at h
  ·rename_i k sz n hc
   split at h
   ·rename_i q sz' n' get hk hK
    obtain ⟨hb,h2⟩:=bB h
    clear h
    simp only [Bool.and_eq_true] at hb
    obtain ⟨b1,b2,b3,b5,b6⟩:=hb
    have b1:=ez b1
    have b2:=ez b2
    subst b1 b2
    refine ⟨_,h2,λB c a hr hn=>Mj hr hn ho hc (λ_ h=>OB h) hk hK (sZ b3) (Nat.le_refl _) (λe=>?_) (λe=>?_)⟩
    ·rw [e,Nat.beq_refl] at b5;cases b5
    ·rw [e,Nat.beq_refl] at b6;cases b6
   ·exact ⟨s,h,λB c a hr hn=>⟨c,rfl,hr,hn⟩⟩
  ·exact ⟨s,h,λB c a hr hn=>⟨c,rfl,hr,hn⟩⟩
 ·exact ⟨s,h,λB c a hr hn=>⟨c,rfl,hr,hn⟩⟩
end Go.Ab
namespace Go.Ab
open Go Go.RowKit
theorem Jc {c:Cx} {us us':List AV} {v:Value} (hl:us'.length=us.length) (hm:∀ (i:Nat) (u u':AV),us[i]?=some u->us'[i]?=some u'->u'.one=true/\∀x,Rep c u x->Rep c u' x) (h:Rep c (.agg us) v):Rep c (.agg us') v:=by
 cases h with
 | agg _ vs h1 h2 h3=>
  have hg:∀ (i:Nat) (u':AV),us'[i]?=some u'->∃u,us[i]?=some u:=λi u' hu=>by
   have:=(List.getElem?_eq_some_iff.1 hu).1
   exact ⟨us[i]'(by omega),List.getElem?_eq_getElem (by omega)⟩
  refine .agg _ vs (by rw [hl];exact h1) (λi u' hu=>?_) (λi u' hu=>?_)
  ·obtain ⟨u,h⟩:=hg i u' hu
   exact (hm i u u' h hu).1
  ·obtain ⟨u,h⟩:=hg i u' hu
   exact (hm i u u' h hu).2 _ (h3 i u h)
theorem Mb {c:Cx} {o:Own} {sz n:Nat} {get get':Nat->List AV} (hl:∀j,j < n->(get' j).length=sz/\ak (get' j)=[]) (hm:∀ (j i:Nat) (u u':AV),j < n->(get j)[i]?=some u->(get' j)[i]?=some u'->u'.one=true/\∀x,Rep c u x->Rep c u' x) (x:Value) (h:Rep c (.sl o sz n get) x):Rep c (.sl .no sz n get') x:=by
 cases h with
 | slNil _ _ _ ho=>exact .slNil _ _ _ trivial
 | sl _ _ _ _ ad cap vals h1 h2 h3 h4 h5 h6=>
  have hg:∀ (j i:Nat) (u':AV),j < n->(get' j)[i]?=some u'->∃u,(get j)[i]?=some u:=λj i u' hj hu=>by
   have:=(List.getElem?_eq_some_iff.1 hu).1
   rw [(hl j hj).1,<-(h4 j hj).1] at this
   exact ⟨_,List.getElem?_eq_getElem this⟩
  refine .sl _ _ _ _ ad cap vals h1 h2 trivial hl (λj i u' hj hu=>?_) (λj i u' hj hu=>?_)
  ·obtain ⟨u,h⟩:=hg j i u' hj hu
   exact ⟨(hm j i u u' hj h hu).1,(h5 j i u hj h).2⟩
  ·obtain ⟨u,h⟩:=hg j i u' hj hu
   exact (hm j i u u' hj h hu).2 _ (h6 j i u hj h)
def eD (u u':AV):Prop:=u'.one=true/\∀c x,Rep c u x->Rep c u' x
theorem eD.same {u:AV} (h:u.one=true):eD u u:=⟨h,λ_ _ h=>h⟩
inductive TellL:List AV->List AV->Prop
 | nil:TellL [] []
 | cons {u u':AV} {l l':List AV}:eD u u'->TellL l l'->TellL (u::l) (u'::l')
theorem TellL.len {l l':List AV} (h:TellL l l'):l'.length=l.length:=by
 induction h with
 | nil=>rfl
 | cons _ _ ih=>rw [List.length_cons,List.length_cons,ih]
theorem TellL.at {l l':List AV} (h:TellL l l'):∀ (i:Nat) (u u':AV),l[i]?=some u->l'[i]?=some u'->eD u u':=by
 induction h with
 | nil=>intro i u u' h;simp at h
 | cons h1 _ ih=>
  intro i u u' h h'
  cases i with
  | zero=>
   simp only [List.getElem?_cons_zero,Option.some.injEq] at h h'
   rw [<-h,<-h'];exact h1
  | succ i=>
   simp only [List.getElem?_cons_succ] at h h'
   exact ih i u u' h h'
theorem ph {c:Cx} {l l':List AV} {v:Value} (h:TellL l l') (hr:Rep c (.agg l) v):Rep c (.agg l') v:=
 Jc h.len (λi u u' hu hu'=>⟨(h.at i u u' hu hu').1,λx hx=>(h.at i u u' hu hu').2 c x hx⟩) hr
theorem aW {o:Own} {sz sz':Nat} {get get':Nat->List AV}:eD (.sl o sz 0 get) (.sl .no sz' 0 get'):=⟨rfl,λc x h=>xi h⟩
theorem jQ {o:Own} {sz n:Nat} {get get':Nat->List AV} (hg:∀j,j < n->get' j=get j):eD (.sl o sz n get) (.sl .no sz n get'):=⟨rfl,λc x h=>mH h hg⟩
theorem CM {c:Cx} {l l':List AV} {v:Value} (h:TellL l l') (hr:Rep c (.tup l) v):Rep c (.tup l') v:=by
 cases hr with
 | tup _ vs h1 h2=>
  refine .tup _ vs (by rw [h.len];exact h1) λi u' hu=>?_
  have hlt:i < l.length:=by rw [<-h.len];exact (List.getElem?_eq_some_iff.1 hu).1
  have hu0:l[i]?=some l[i]:=List.getElem?_eq_getElem hlt
  exact (h.at i _ u' hu0 hu).2 _ _ (h2 i _ hu0)
def c8 (w:World):Cx:={w:=w,I:=λb o=>∃v,w.cell? ⟨b,o,none⟩=some v,β:=λ_=>0,κ:=λ_=>none,fr:=λ_=>none}
theorem yQ (w:World):Objs (c8 w) []:=⟨λ_ _ h=>by simp [alook] at h,λ_ _ _ _ _ h=>by simp [alook] at h,λ_ _ h=>by simp [alook] at h⟩
def Jh (w:World):List AV->List Value->Prop
 | [],[]=>True
 | u::l,x::xs=>(Rep (c8 w) u x/\u.keys=[])/\Jh w l xs
 | _,_=>False
theorem Jh.spec {w:World}:∀ {l:List AV} {xs:List Value},Jh w l xs->xs.length=l.length/\ak l=[]/\∀ (i:Nat) (u:AV),l[i]?=some u->Rep (c8 w) u (xs.getD i undef)
 | [],[],_=>⟨rfl,rfl,by simp⟩
 | u::l,x::xs,h=>by
  obtain ⟨⟨h1,h2⟩,h3⟩:=h
  obtain ⟨e1,e2,e3⟩:=h3.spec
  refine ⟨by simp [e1],by simp [ak,h2,e2],λi v hv=>?_⟩
  cases i with
  | zero=>simp at hv;subst hv;exact h1
  | succ i=>simpa using e3 i v (by simpa using hv)
def Lu (P:Program):Bool:=P.funcs.toList.all λfn=>!(fn.name=="runtime.NumGoroutine")&&(match fn.body with
 | none=>true
 | some c=>codeOk fn.ntmps c)
theorem E6 {P:Program} (h:Lu P=true):ll P:=by
 intro f fn hf
 have:=List.all_eq_true.1 h fn (by simpa using Array.mem_of_getElem? hf)
 simp only [Bool.and_eq_true,Bool.not_eq_true'] at this
 refine ⟨this.1,λc hc=>?_⟩
 have h2:=this.2
 rw [hc] at h2;exact h2
end Go.Ab
namespace Go.Ab
open Go
set_option linter.unusedSectionVars false
structure Wd where
 P:Program
 G:Nat->Option (List AV)
class EnvOk (V:Env) (D:Wd):Prop where
 p:V.P=D.P
 g:V.G=D.G
 mixed:V.P.follows .mixedOrders=true
 funcs:ll V.P
class TabI (D:Wd) (T:List Ent):Prop where
 ok:∀e∈T,∀l os,e.pre l os=true->Ct D.P D.G e.f l os (e.ans l os)
theorem TabI.tab {V:Env} (D:Wd) {T:List Ent} [h:EnvOk V D] [t:TabI D T]:Fv V T:=by
 unfold Fv;rw [h.p,h.g];exact t.ok
def aJ {τ:Type} (D:Wd) (f:FuncId) (φ:τ->AV×List AO) (R:List AV->List AO->τ->Prop) (l:List AV) (os:List AO):Prop:=∃x,R l os x/\Ct D.P D.G f l os (φ x)
theorem Ct.objs {P:Program} {G:Nat->Option (List AV)} {f:FuncId} {l:List AV} {os o1 o2:List AO} {r:AV} (h:Ct P G f l os (r,o1)) (hw:ObjsLe (ab o1 aa) (ab o2 aa)):Ct P G f l os (r,o2):=by
 have hlive:∀k,live (ab o1 aa) k->live (ab o2 aa) k:=λk hk=>by
  obtain ⟨o,hk⟩:=hk
  rcases hw.look k with ⟨h1,_⟩ | ⟨_,o',_,h2,_⟩
  ·rw [h1] at hk;cases hk
  ·exact ⟨o',h2⟩
 have hback:∀ {k o'},alook (ab o2 aa) k=some o'->∃o,alook (ab o1 aa) k=some o/\ObjLe o o':=fun {k o'} hk=>by
  rcases hw.look k with ⟨_,h1⟩ | ⟨o,o2,h1,h2,h3⟩
  ·rw [h1] at hk;cases hk
  ·rw [h2] at hk;cases hk;exact ⟨o,h1,h3⟩
 refine ⟨λc0 vs hg ho hs hr hl=>(h.1 c0 vs hg ho hs hr hl).mono ?_,h.2⟩
 rintro e w' ⟨c',x,h1,h2,h3,h4,h5,h6,h7,h8⟩
 refine ⟨c',x,h1,h2,h3,h4,⟨λk o' hk=>?_,λk o' q o3 b hk hq hne hb=>?_,λk o' hk q hq=>?_⟩,h6,λk hk=>hlive k (h7 k hk),λk o' b hk hb=>?_⟩
 ·obtain ⟨o,e1,e2⟩:=hback hk
  exact e2.rep (h5.rep k o e1)
 ·obtain ⟨o,e1,e2⟩:=hback hk
  obtain ⟨o4,e3,e4⟩:=hback hq
  rw [e4.excl]
  rw [e2.excl] at hb
  exact h5.apart k o q o4 b e1 e3 hne hb
 ·obtain ⟨o,e1,e2⟩:=hback hk
  rcases e2.keys with rfl | h0
  ·exact hlive q (h5.closed k _ e1 q hq)
  ·rw [h0] at hq;cases hq
 ·obtain ⟨o,e1,e2⟩:=hback hk
  rw [e2.excl] at hb
  exact h8 k o b e1 hb
def Tr (r r':AV×List AO):Prop:=(r'.1=r.1∨r'.1.keys=[]/\∀c v,Rep c r.1 v->Rep c r'.1 v)/\(r'.2=r.2∨ObjsLe (ab r.2 aa) (ab r'.2 aa))
theorem Tr.refl (r:AV×List AO):Tr r r:=⟨.inl rfl,.inl rfl⟩
theorem Tr.ct {P:Program} {G:Nat->Option (List AV)} {f:FuncId} {l:List AV} {os:List AO} {r r':AV×List AO} (h:Tr r r') (hc:Ct P G f l os r):Ct P G f l os r':=by
 obtain ⟨v,o⟩:=r
 obtain ⟨v',o'⟩:=r'
 obtain ⟨h1,h2⟩:=h
 have hc':Ct P G f l os (v',o):=by
  rcases h1 with h1 | ⟨h1,h3⟩
  ·have h1:v'=v:=h1
   rw [h1];exact hc
  ·exact Ct.res hc h1 h3
 rcases h2 with h2 | h2
 ·have h2:o'=o:=h2
  rw [h2];exact hc'
 ·exact Ct.objs hc' h2
theorem Tr.agg {cs cs':List AV} {os:List AO} (h:TellL cs cs') (hk:ak cs'=[]:=by rfl):Tr (.agg cs,os) (.agg cs',os):=⟨.inr ⟨hk,λ_ _ hr=>ph h hr⟩,.inl rfl⟩
theorem Tr.tup {cs cs':List AV} {os:List AO} (h:TellL cs cs') (hk:ak cs'=[]:=by rfl):Tr (.tup cs,os) (.tup cs',os):=⟨.inr ⟨hk,λ_ _ hr=>CM h hr⟩,.inl rfl⟩
theorem Tr.one {u u':AV} {os:List AO} (h:eD u u') (hk:u'.keys=[]:=by rfl):Tr (u,os) (u',os):=⟨.inr ⟨hk,λ_ _ hr=>h.2 _ _ hr⟩,.inl rfl⟩
def Run {τ:Type} (Post:τ->Prop) (φ:τ->AV×List AO) (e:Res):Prop:=∃x r,Post x/\Tr r (φ x)/\e=some r
section
variable {τ:Type} {Post:τ->Prop} {φ:τ->AV×List AO}
theorem Run.n {c:Bool} {a:Res} (h:c=true) (h1:Run Post φ a):Run Post φ (cond c a none):=by subst h;exact h1
theorem Run.nn {c:Bool} {a:Res} (h:c=false) (h1:Run Post φ a):Run Post φ (cond c none a):=by subst h;exact h1
theorem Run.b {a b:Res} (c:Bool) (h1:c=true->Run Post φ a) (h2:c=false->Run Post φ b):Run Post φ (cond c a b):=cx (Q:=Run Post φ) h1 h2
theorem Run.r (x:τ) (h:Post x):Run Post φ (some (φ x)):=⟨x,_,h,Tr.refl _,rfl⟩
theorem Run.t (x:τ) {r:AV×List AO} (h:Post x) (ht:Tr r (φ x)):Run Post φ (some r):=⟨x,r,h,ht,rfl⟩
theorem Run.lp {α:Type} {g:St->Bool} {w:St->α} {s:St} {Q:α->Prop} {T:α->Res} (h:cn g w s Q) (k:∀t,Q t->Run Post φ (T t)):Run Post φ (cond (g s) (T (w s)) none):=Run.n h.1 (k _ h.2)
end
section
variable {τ:Type} [Inhabited τ] (D:Wd) (f:FuncId) (φ:τ->AV×List AO) (R:List AV->List AO->τ->Prop)
open Classical in
noncomputable def gR (l:List AV) (os:List AO):Bool:=decide (aJ D f φ R l os)
open Classical in
noncomputable def wR (l:List AV) (os:List AO):τ:=if h:aJ D f φ R l os then h.choose else default
noncomputable def bc:Ent:=mkE f (gR D f φ R) (wR D f φ R) φ
end
section
variable {τ σ:Type} [Inhabited σ] {D:Wd} {f:FuncId} {φ:τ->AV×List AO} {ψ:σ->AV×List AO} {R:List AV->List AO->σ->Prop} {Post:τ->Prop} {l:List AV} {os:List AO}
open Classical in
theorem aJ.at (h:aJ D f ψ R l os):gR D f ψ R l os=true/\R l os (wR D f ψ R l os)/\Ct D.P D.G f l os (ψ (wR D f ψ R l os)):=by
 refine ⟨decide_eq_true h,?_⟩
 unfold wR
 rw [dif_pos h]
 exact h.choose_spec
instance tabI_nil:TabI D []:=⟨λ_ h=>(List.not_mem_nil h).elim⟩
open Classical in
instance tabI_cons {T:List Ent} [t:TabI D T]:TabI D (bc D f ψ R::T):=⟨λe he l os hp=>by
 rcases List.mem_cons.1 he with rfl | he
 ·exact (aJ.at (of_decide_eq_true hp)).2.2
 ·exact t.ok e he l os hp⟩
theorem Run.call {T:σ->Res} (h:aJ D f ψ R l os) (k:∀t,R l os t->Run Post φ (T t)):Run Post φ (cond (gR D f ψ R l os) (T (wR D f ψ R l os)) none):=Run.n h.at.1 (k _ h.at.2.1)
theorem aJ.mono {R':List AV->List AO->σ->Prop} (h:aJ D f ψ R l os) (hm:∀x,R l os x->R' l os x):aJ D f ψ R' l os:=by
 obtain ⟨x,h1,h2⟩:=h
 exact ⟨x,hm x h1,h2⟩
end
def runK (k:Nat) (X:Cfg) (f:FuncId) (l:List AV) (os:List AO):Res:=
 match k with
 | 0=>xf X 9 f l os
 | 1=>GJ X 9 f l os
 | _=>GI X 9 f l os
section
variable {τ:Type} {V:Env} {D:Wd} {f:FuncId} {φ:τ->AV×List AO} {R:List AV->List AO->τ->Prop} {l:List AV} {os:List AO}
def L1 (X:Cfg) (f:FuncId) (L:List (List Nat×Orc)):Prop:=∀e∈L,bH X f e.1 e.2
theorem aE {X:Cfg}:L1 X f []:=λ_ h=>(List.not_mem_nil h).elim
theorem ah {X:Cfg} {p:List Nat} {g:Orc} {r:List (List Nat×Orc)} (h:bH X f p g) (hr:L1 X f r):L1 X f ((p,g)::r):=zH h hr
def L0 (W:List (List Nat×Vw)):Prop:=∀e∈W,fW e.2
theorem aB:L0 []:=λ_ h=>(List.not_mem_nil h).elim
theorem cY {p:List Nat} {g:Vw} {r:List (List Nat×Vw)} (h:fW g) (hr:L0 r):L0 ((p,g)::r):=λx hx=>by
 rcases List.mem_cons.1 hx with rfl | hx
 ·exact h
 ·exact hr x hx
theorem dy [h:EnvOk V D] (k:Nat) {d:Nat} {T:List Ent} [TabI D T] {L:List (List Nat×Orc)} {W:List (List Nat×Vw)} (hL:L1 (V.run T d [] L W f) f L) (hW:L0 W) {e:Res} (h1:Run (R l os) φ e) (he:runK k (V.run T d [] L W f) f l os=e):aJ D f φ R l os:=by
 obtain ⟨x,r,hx,ht,ex⟩:=h1
 refine ⟨x,hx,ht.ct ?_⟩
 rw [<-h.p,<-h.g]
 rw [ex] at he
 match k with
 | 0=>exact IL h.mixed h.funcs (TabI.tab D) (λ_ h=>(List.not_mem_nil h).elim) hL hW he
 | 1=>exact Pd h.mixed h.funcs (TabI.tab D) hL hW he
 | k+2=>exact Pc h.mixed h.funcs (TabI.tab D) hL hW he
theorem cW [h:EnvOk V D] (T:List Ent) [TabI D T] (d:Nat) {e:Res} (h1:Run (R l os) φ e) (he:xf (V.run T d [] [] [] f) 9 f l os=e):aJ D f φ R l os:=dy (V:=V) 0 aE aB h1 he
theorem gC [h:EnvOk V D] (T:List Ent) [TabI D T] (d:Nat) {p:List Nat} {g:Orc} (hl:∀L,bH (V.run T d [] L [] f) f p g) {e:Res} (h1:Run (R l os) φ e) (he:xf (V.run T d [] [(p,g)] [] f) 9 f l os=e):aJ D f φ R l os:=dy (V:=V) 0 (ah (hl _) aE) aB h1 he
end
section
variable {α τ ι:Type}
def jv:Code->Bool
 | .loop _=>true
 | _=>false
variable {S:α->St} {Inv:α->Prop} {μ:α->Nat} {out:τ->(Ex->St->Res)->Res} {Post:α->τ->Prop} {v:α}
theorem RT.call {σ:Type} [Inhabited σ] {D:Wd} {f:FuncId} {ψ:σ->AV×List AO} {R:List AV->List AO->σ->Prop} {l:List AV} {os:List AO} {T:σ->ι->(Ex->St->Res)->(St->Res)->Res} (h:aJ D f ψ R l os) (k:∀t,R l os t->RT S Inv μ out Post v (T t)) :
  RT S Inv μ out Post v (λi k kn=>cond (gR D f ψ R l os) (T (wR D f ψ R l os) i k kn) none):=RT.t h.at.1 (k _ h.at.2.1)
theorem RT.lp {β:Type} {g:St->Bool} {w:St->β} {s:St} {Q:β->Prop} {T:β->ι->(Ex->St->Res)->(St->Res)->Res} (h:cn g w s Q) (k:∀t,Q t->RT S Inv μ out Post v (T t)) :
  RT S Inv μ out Post v (λi k kn=>cond (g s) (T (w s) i k kn) none):=RT.t h.1 (k _ h.2)
theorem RT.go {Post:τ->Prop} (s:St) (v':α) (h:Inv v') (hm:μ v' < μ v) (hs:s=S v'):RT S Inv μ out (λ_ o=>Post o) v (λ(_:ι) (_:Ex->St->Res) (kn:St->Res)=>kn s):=RT.nx s v' h hm (λ_ h=>h) hs
theorem RT.to {Post:τ->Prop} (v':α) (h:Inv v') (hm:μ v' < μ v):RT S Inv μ out (λ_ o=>Post o) v (λ(_:ι) (_:Ex->St->Res) (kn:St->Res)=>kn (S v')):=RT.go _ v' h hm rfl
theorem Jb {a b:Bool} (h:(bif a then b else false)=true):a=true:=by
 cases a
 ·cases h
 ·rfl
theorem Ps {a b:Bool} (h:(bif a then b else false)=true):b=true:=by
 cases a
 ·cases h
 ·exact h
theorem aw [Inhabited τ] {V:Env} {T:List Ent} {d:Nat} {Lf:ι->List (List Nat×Orc)} {W:List (List Nat×Vw)} {f:FuncId} {p:List Nat} (S:α->St) (Inv:α->Prop) (μ:α->Nat) (out:τ->(Ex->St->Res)->Res) (Post:τ->Prop) (hb:jv (ef (bD V.P f) p)=true)
  {e:α->ι->(Ex->St->Res)->(St->Res)->Res} (h1:∀v,Inv v->RT S Inv μ out (λ_ o=>Post o) v (e v)) (he:∀v i k kn,dP (V.run T d [] (Lf i) W f) f 9 p (S v) kn k=e v i k kn) :
  ∃ (u:St->Bool) (w:St->τ),(∀v,Inv v->cn u w (S v) Post)/\∀i,bH (V.run T d [] (Lf i) W f) f p (mkO u w out):=by
 obtain ⟨b,hb⟩:∃b,ef (bD V.P f) p=.loop b:=by
  cases hc:ef (bD V.P f) p with
  | loop b=>exact ⟨b,rfl⟩
  | _=>rw [hc] at hb;cases hb
 obtain ⟨w,hw,hl⟩:=xD (Xf:=λi=>V.run T d [] (Lf i) W f) (f:=f) (p:=p) (b:=b) S Inv μ out (λ_ o=>Post o) (λ_=>hb) 9 λv hv=>RT.eq (λi k kn=>he v i k kn) (h1 v hv)
 exact ⟨dK S Inv,gU S Inv w,λv hv=>⟨iE hv,gT (Post:=λ_ o=>Post o) hw (λ_ _ _ _ h=>h) hv⟩,hl⟩
end
def Ge (l:List (List UInt8)):AV:=.sl .no 1 l.length λj=>[.str (l.getD j [])]
mutual
def dcells:DataW Unit->List AV
 | .lit (.int k n)=>[.int k n]
 | .lit (.string s)=>[.str s]
 | .slice es _=>[Ge (dstrs es)]
 | .agg ps=>IH ps
 | _=>[]
def IH:List (DataW Unit)->List AV
 | []=>[]
 | d::r=>dcells d++IH r
def dstrs:List (DataW Unit)->List (List UInt8)
 | []=>[]
 | d::r=>dstr d++dstrs r
def dstr:DataW Unit->List (List UInt8)
 | .lit (.string s)=>[s]
 | _=>[]
end
def pn (n:Nat):List Nat:=go 60 n []
where go:Nat->Nat->List Nat->List Nat
 | 0,_,r=>r
 | k+1,n,r=>cond (Nat.ble n 1) r (go k (n / 2) (n % 2::r))
def tn (n:Nat) (k o:List Nat):List Nat×Hint:=tr (pn n) k o
def onD (l:List Nat) (o:Oper):Bool:=match o.dst with
 | some d=>l.any (Nat.beq d)
 | none=>false
end Go.Ab
