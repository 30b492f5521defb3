/- One operation of a region, sound. Regions that run in the order of the text. What an operation of a region depends on. What an operation of a region depends on: calls, guards. A region whose order is drawn: every order leaves what the order of the text leaves. A call asks for the objects that its arguments lead to, and it turns those alone. A region whose order is drawn: the order does not count. A region whose order is drawn, sound. The head of a loop. Regions and straight code within a round of a loop over a function. Marks and records of loops over functions; a state seen from where a round begins. Code, sound. Loops over functions: an iterator's contract, the rounds, and what the loop comes to. The evaluator, sound: what E answers is what the model's call comes to. Contracts: a function's run with its calls and loops known beforehand. Loops that look at one place after another and stop at the first that says so. Contracts for one list of arguments. Contracts and loops of which only some answer is told. Rounds of loops and runs, followed down their conditions. Rounds of loops and runs whose tree of conditions is read off the proof: the kernel alone holds it against the run. A fu -/
import Derived.Test.YtofjmkmjdaccgaaGreatDoorX2
import Derived.Orders
import Derived.OrdersIn
import Derived.RangeFuncIn
import Derived.RangeFuncLeaves
import Derived.RangeFuncRecord
import Derived.Scope
import Derived.KernelRfl
set_option linter.unusedVariables false
set_option linter.unusedSimpArgs false
namespace Go.Ab
open Go Go.RowKit
variable {P:Program} {B:Base} {c:Cx} {s:St} {a:Act}
def cv (X:Cfg):Prop:=∀f l os r os',X.pre f l os=true->X.call f l os=some (r,os')->
 lA X.P X.G f l os r os'/\∃fn,X.P.funcs[f]?=some fn/\(fn.name=="runtime.NumGoroutine")=false/\fn.body.isSome=true
theorem bD {α:Type} {b:Bool} {x:Option α} {r:α} (h:cond b x none=some r):b=true/\x=some r:=by
 cases b with
 | false=>simp at h
 | true=>exact ⟨rfl,h⟩
theorem l6 {α:Type} {b:Bool} {x:Option α} {r:α} (h:cond b none x=some r):b=false/\x=some r:=by
 cases b with
 | false=>exact ⟨rfl,h⟩
 | true=>simp at h
theorem rj {X:Cfg} (hX:cv X) (hG:X.G=B.G) (h:Rel B c s a) {f:FuncId} {l:List AV} {xs:List Value} {v:AV} {objs':List (Nat×AO)} (hs:dg B c s l xs)
  (he:jy X s.objs f l=some (true,v,objs')) :
  (Calls X.P f xs.toArray c.w λe w'=>∃c2 x,e=.returned x/\c2.w=w'/\Rel B c2 (s.with objs') a/\Sees B c2 (s.with objs') v x) /\
   ∃fn,X.P.funcs[f]?=some fn/\(fn.name=="runtime.NumGoroutine")=false/\fn.body.isSome=true:=by
 unfold jy at he
 obtain ⟨⟨l1,o1⟩,h1,he⟩:=ai he
 have hfz:∃c1,c1.w=c.w/\Rel B c1 (s.with o1) a/\dg B c1 (s.with o1) l1 xs:=by
  cases hb:X.byRef f with
  | true=>simp [hb] at h1;obtain ⟨rfl,rfl⟩:=h1;exact ⟨c,rfl,h,hs⟩
  | false=>
   simp [hb] at h1
   obtain ⟨c1,e1,e2,e3,_,_⟩:=dm h hs h1
   exact ⟨c1,e1,e2,e3⟩
 obtain ⟨c1,hw,hr1,hs1⟩:=hfz
 dsimp only at he
 obtain ⟨hcl,he⟩:=bD he
 obtain ⟨os,hos,he⟩:=ai he
 obtain ⟨⟨r,os'⟩,hcall,he⟩:=ai he
 obtain ⟨hlen,he⟩:=bD he
 dsimp only at hlen he
 simp only [Option.some.injEq,Prod.mk.injEq] at he
 obtain ⟨hpre,rfl,rfl⟩:=he
 obtain ⟨hok,hfn⟩:=hX _ _ _ _ _ hpre hcall
 rw [hG] at hok
 obtain ⟨hn,hk⟩:=ea o1 (au (bS l1))
 have hcore:=nR (P:=X.P) hr1 hn hos (bH hcl) hs1.shed hk hok (du hlen)
 rw [hw] at hcore
 exact ⟨hcore,hfn⟩
theorem pI {X:Cfg} (hX:cv X) (hG:X.G=B.G) (h:Rel B c s a) {f:FuncId} {l:List AV} {xs:List Value} {v:AV} {objs':List (Nat×AO)} (hs:dg B c s l xs)
  (he:nQ X s.objs f l=some (true,v,objs')) :
  (Calls X.P f xs.toArray c.w λe w'=>∃c2 x,e=.returned x/\c2.w=w'/\Rel B c2 (s.with objs') a/\Sees B c2 (s.with objs') v x) /\
   ∃fn,X.P.funcs[f]?=some fn/\(fn.name=="runtime.NumGoroutine")=false/\fn.body.isSome=true:=by
 unfold nQ at he
 obtain ⟨⟨l1,o1⟩,h1,he⟩:=ai he
 obtain ⟨c1,hw,hr1,hs1,_,_⟩:=dm h hs h1
 dsimp only at he
 obtain ⟨hnil,he⟩:=bD he
 obtain ⟨⟨r,os'⟩,hcall,he⟩:=ai he
 obtain ⟨hpl,he⟩:=bD he
 dsimp only at hpl he
 simp only [Option.some.injEq,Prod.mk.injEq] at he
 obtain ⟨hpre,rfl,rfl⟩:=he
 obtain ⟨hok,hfn⟩:=hX _ _ _ _ _ hpre hcall
 rw [hG] at hok
 have hk:au (bS l1)=[]:=by
  cases hq:au (bS l1) with
  | nil=>rfl
  | cons=>rw [hq] at hnil;cases hnil
 simp only [Bool.and_eq_true] at hpl
 have hsf:=hs1.shed.fn
 refine ⟨?_,hfn⟩
 have hok:=hok c1 xs.toArray hr1.good ⟨λk o hq=>by simp [af,alook] at hq,λk o k' o' b hq=>by simp [af,alook] at hq,λk o hq=>by simp [af,alook] at hq⟩ hsf.1 (λi u hu=>hsf.2.1 i u hu) (λk hq=>by rw [hk] at hq;cases hq)
 rw [hw] at hok
 refine hok.mono ?_
 rintro e w' ⟨c',x,he,hw',hG',hF',_,hrx,_,_⟩
 have hnh:∀b,¬ held c1 (af [] ae) b:=λb hb=>by obtain ⟨q,o,hq,_⟩:=hb;simp [af,alook] at hq
 have hblk:∀b,b < c.w.heap.size->c'.w.heap[b]?=c.w.heap[b]?:=λb hb=>by
  have:=hF'.block b (by show b < c1.w.heap.size;rw [hw];exact hb) (hnh b)
  rw [this];show c1.w.heap[b]?=_;rw [hw]
 have hcell:∀b o y,c.w.cell? ⟨b,o,none⟩=some y->c'.w.cell? ⟨b,o,none⟩=some y:=λb o y hy=>by
  rw [World.bN (hblk b (dN hy))];exact hy
 let c2:Cx:={c with w:=c'.w}
 have hkp:Keeps c c2 s.objs:=⟨⟨λb o y _ hy=>hcell b o y hy,λ_ _ hi=>hi,λ_ _=>rfl,λ_ _ _ _ hv=>hv,λb o ob _ he _=>(hblk b (aQ he)).trans he⟩,λ_ _=>rfl,λ_ _=>rfl,λ_ _=>rfl,λq o b hq hb=>⟨hblk b (cq (h.objs.rep q o hq) hb),λ_ hi=>hi⟩⟩
 have hgr:Grow B c c2:=by
  refine ⟨?_,?_,?_,?_,λb hb _=>hblk b (Nat.lt_of_lt_of_le hb h.frame.size),λ_ _ _ _ hi=>hi,λb o hi=>?_⟩
  ·have:=hF'.os;show c'.w.os=_;rw [this];show c1.w.os=_;rw [hw]
  ·have:=hF'.output;show c'.w.output=_;rw [this];show c1.w.output=_;rw [hw]
  ·have:=hF'.tape;show c'.w.tape=_;rw [this];show c1.w.tape=_;rw [hw]
  ·have:=hF'.size;show c.w.heap.size<=c'.w.heap.size;refine Nat.le_trans ?_ this;show _<=c1.w.heap.size;rw [hw];exact Nat.le_refl _
  ·exact h.good.block hi (hblk b (h.good.lt hi))
 refine ⟨c2,x,he,hw',h.keep hkp hgr,?_⟩
 have hp:=hpl.1
 cases r with
 | bool b=>cases hrx;exact ⟨.bool b,by simp [AV.keys],rfl⟩
 | int k n=>cases hrx;exact ⟨.int k n,by simp [AV.keys],rfl⟩
 | str l=>cases hrx;exact ⟨.str l,by simp [AV.keys],rfl⟩
 | _=>simp [wV] at hp
theorem qH {d k:Nat}:∀ {m i:Nat},k∈dn d i m->∃j,i<=j/\k=d+100000*j
 | 0,i,h=>by simp [dn] at h
 | m+1,i,h=>by
  simp only [dn,List.mem_cons] at h
  rcases h with rfl | h
  ·exact ⟨i,Nat.le_refl _,rfl⟩
  ·obtain ⟨j,h1,h2⟩:=qH h;exact ⟨j,by omega,h2⟩
theorem dj (d:Nat):∀ (m i:Nat),(dn d i m).Nodup/\(dn d i m).length=m
 | 0,i=>by simp [dn]
 | m+1,i=>by
  obtain ⟨h1,h2⟩:=dj d m (i+1)
  refine ⟨List.nodup_cons.2 ⟨λh=>?_,h1⟩,by simp [dn,h2]⟩
  obtain ⟨j,g1,g2⟩:=qH h
  omega
theorem lx {objs:List (Nat×AO)}:∀ {l:List Nat},dW objs l=true->∀d∈l,alook objs d=none
 | [],_,d,hd=>by simp at hd
 | k::r,h,d,hd=>by
  simp only [dW] at h
  cases hk:alook objs k with
  | some _=>simp [hk] at h
  | none=>
   simp only [hk] at h
   rcases List.mem_cons.1 hd with rfl | hd
   ·exact hk
   ·exact lx h d hd
theorem pH {X:Cfg} (hX:cv X) (hG:X.G=B.G) (h:Rel B c s a) {f:FuncId} {l:List AV} {xs:List Value} {v:AV} {objs':List (Nat×AO)} (hs:dg B c s l xs)
  {d:Option Nat} (he:l5 X d s.objs f l=some (true,v,objs')) :
  (Calls X.P f xs.toArray c.w λe w'=>∃c2 x,e=.returned x/\c2.w=w'/\Rel B c2 (s.with objs') a/\Sees B c2 (s.with objs') v x) /\
   ∃fn,X.P.funcs[f]?=some fn/\(fn.name=="runtime.NumGoroutine")=false/\fn.body.isSome=true:=by
 unfold l5 at he
 obtain ⟨⟨l1,o1⟩,h1,he⟩:=ai he
 have hfz:∃c1,c1.w=c.w/\Rel B c1 (s.with o1) a/\dg B c1 (s.with o1) l1 xs:=by
  cases hb:X.byRef f with
  | true=>simp [hb] at h1;obtain ⟨rfl,rfl⟩:=h1;exact ⟨c,rfl,h,hs⟩
  | false=>
   simp [hb] at h1
   obtain ⟨c1,e1,e2,e3,_,_⟩:=dm h hs h1
   exact ⟨c1,e1,e2,e3⟩
 obtain ⟨c1,hw,hr1,hs1⟩:=hfz
 dsimp only at he
 obtain ⟨hcl,he⟩:=bD he
 obtain ⟨os,hos,he⟩:=ai he
 obtain ⟨⟨r,os'⟩,hcall,he⟩:=ai he
 dsimp only at he
 cases hlen:Nat.beq os'.length (bp o1 (au (bS l1))).length with
 | true=>
  rw [hlen,cond_true] at he
  simp only [Option.some.injEq,Prod.mk.injEq] at he
  obtain ⟨hpre,rfl,rfl⟩:=he
  obtain ⟨hok,hfn⟩:=hX _ _ _ _ _ hpre hcall
  rw [hG] at hok
  obtain ⟨hn,hk⟩:=ea o1 (au (bS l1))
  have hcore:=nR (P:=X.P) hr1 hn hos (bH hcl) hs1.shed hk hok (du hlen)
  rw [hw] at hcore
  exact ⟨hcore,hfn⟩
 | false=>
  rw [hlen,cond_false] at he
  cases d with
  | none=>simp at he
  | some d=>
   dsimp only at he
   obtain ⟨hlen1,he⟩:=bD he
   simp only [Bool.and_eq_true] at hlen1
   have hlt:=ltB hlen1.1
   simp only [Option.some.injEq,Prod.mk.injEq] at he
   obtain ⟨hpre,rfl,rfl⟩:=he
   obtain ⟨hok,hfn⟩:=hX _ _ _ _ _ hpre hcall
   rw [hG] at hok
   obtain ⟨hn,hk⟩:=ea o1 (au (bS l1))
   obtain ⟨g1,g2⟩:=dj d (os'.length - (bp o1 (au (bS l1))).length) 0
   have hcore:=zK (P:=X.P) hr1 hn hos (bH hcl) hs1.shed hk hok g1 (lx hlen1.2) (by rw [g2];omega)
   rw [hw] at hcore
   exact ⟨hcore,hfn⟩
theorem Rel.put' {d:Option Nat} {v:AV} {x:Value} (h:Rel B c s a) (hd:∀t,d=some t->t < B.N/\gE s t) (hs:Sees B c s v x):Rel B c (s.put d v) (a.put d x):=by
 cases d with
 | none=>exact h
 | some d=>exact h.put (hd d rfl).1 hs.rep hs.plain hs.live (hd d rfl).2
theorem mH {α:Type} (k:Program->Sem α) (w:World):(program >>= k).run P w=(k P).run P w:=rfl
theorem mf {f:FuncId} {args:Array Value} {w:World} {fn:Func} (h1:P.funcs[f]?=some fn) (h2:(fn.name=="runtime.NumGoroutine")=false) (h3:fn.body.isSome=true) :
  (callFunc f args).run P w=.ok (.enter f args) w:=by
 have h3':fn.body.isNone=false:=by cases hb:fn.body <;> simp_all
 unfold callFunc
 rw [mH,h1]
 simp only [h2,h3',Bool.false_eq_true,if_false,Sem.run_pure]
theorem yB {P:Program} {t:TypeId} (h:EW P t=true):P.underlying t=some .string:=by
 unfold EW at h
 split at h
 ·assumption
 ·cases h
theorem dg.append {l m:List AV} {xs ys:List Value} (h:dg B c s l xs) (k:dg B c s m ys):dg B c s (l++m) (xs++ys):=by
 refine ⟨by simp [h.1,k.1],λi u hu=>?_⟩
 by_cases hi:i < l.length
 ·rw [List.getElem?_append_left hi] at hu
  have:(xs++ys).getD i undef=xs.getD i undef:=by simp [List.getD_eq_getElem?_getD,List.getElem?_append_left (show i < xs.length by rw [h.1];exact hi)]
  rw [this];exact h.2 i u hu
 ·rw [List.getElem?_append_right (by omega)] at hu
  have:(xs++ys).getD i undef=ys.getD (i - l.length) undef:=by
   simp only [List.getD_eq_getElem?_getD]
   rw [List.getElem?_append_right (by rw [h.1];omega),h.1]
  rw [this];exact k.2 _ u hu
theorem iK (h:Rel B c s a) {ch:fw} (hc:vM a ch) {o:Oper} {q:Operand} {args:Array Operand} {ts:Array TypeId} (ho:o.op=.call {callee:=.value q,args,argTypes:=ts}) {f:FuncId} {l:List AV}
  (he:dF ⟨s,B.G,ch⟩ {callee:=.value q,args,argTypes:=ts}=some (f,l)) :
  ∃xs,dg B c s l xs/\∀ (fn:Func),P.funcs[f]?=some fn->(fn.name=="runtime.NumGoroutine")=false->fn.body.isSome=true->(execOp a.eval o).run P c.w=.ok (.enter f xs.toArray) c.w:=by
 unfold dF at he
 dsimp only at he
 obtain ⟨fv,h1,he⟩:=ai he
 obtain ⟨vs,h2,he⟩:=ai he
 have hf:=av h hc h1
 have hv:=cO h hc h2
 cases fv with
 | fn f' first caps=>
  simp only [Option.some.injEq,Prod.mk.injEq] at he
  obtain ⟨rfl,rfl⟩:=he
  obtain ⟨hr,hl,_⟩:=hf
  generalize hq:a.eval q=Q at hr
  cases hr with
  | fn _ _ _ va vb e1 e2 e3 e4=>
   have hfirst:dg B c s first va.toList:=⟨by simpa using e1,λi u hu=>⟨by
    have:=e3 i u hu
    simpa [Array.getD_eq_getD_getElem?,List.getD_eq_getElem?_getD] using this,λk hk=>hl k (by simp only [AV.keys,List.mem_append];exact .inl (aR hu k hk)),(e3 i u hu).plain⟩⟩
   have hcaps:dg B c s caps vb.toList:=⟨by simpa using e2,λi u hu=>⟨by
    have:=e4 i u hu
    simpa [Array.getD_eq_getD_getElem?,List.getD_eq_getElem?_getD] using this,λk hk=>hl k (by simp only [AV.keys,List.mem_append];exact .inr (aR hu k hk)),(e4 i u hu).plain⟩⟩
   refine ⟨_,(hfirst.append hv).append hcaps,λfn g1 g2 g3=>?_⟩
   have e:(va.toList++args.toList.map a.eval++vb.toList).toArray=va++args.map a.eval++vb:=by apply Array.ext';simp
   rw [e]
   simp only [execOp,ho,resolve,hq,Deferred.ofValue,pure_bind,invoke]
   exact mf g1 g2 g3
 | _=>simp at he
def en (P:Program) (B:Base) (c:Cx) (a:Act) (o:Oper) (s':St):Prop:=
 ∀Q,o.wp P a c.w (λa' w'=>∃c',c'.w=w'/\Rel B c' s' a') Q
theorem en.value {c':Cx} {o:Oper} {x:Value} {v:AV} {objs':List (Nat×AO)} (hd:∀t,o.dst=some t->t < B.N/\gE s t) (hrun:(execOp a.eval o).run P c.w=.ok (.value x) c'.w)
  (hr:Rel B c' (s.with objs') a) (hs:Sees B c' (s.with objs') v x):en P B c a o (s.after o.dst v objs'):=by
 intro Q
 simp only [Oper.wp,hrun,Oper.upon]
 exact ⟨c',rfl,hr.put' hd hs⟩
theorem en.skip {c':Cx} {o:Oper} {objs':List (Nat×AO)} (hd:∀t,o.dst=some t->t < B.N/\gE s t) (hrun:(execOp a.eval o).run P c.w=.ok .skip c'.w)
  (hr:Rel B c' (s.with objs') a):en P B c a o (s.after o.dst .undef objs'):=by
 intro Q
 simp only [Oper.wp,hrun,Oper.upon]
 exact ⟨c',rfl,hr.put' hd ⟨.undef _,by simp [AV.keys],rfl⟩⟩
theorem cM.step {o:Oper} {v:AV} (h:Rel B c s a) (hd:∀t,o.dst=some t->t < B.N/\gE s t) (hg:cM P B c s a o v):en P B c a o (s.after o.dst v s.objs):=by
 obtain ⟨x,c',h1,h2,h3,h4⟩:=hg
 exact en.value hd h1 (h.keep h2 h3) h4
theorem dr {o:Oper} {m:Sem Value} {x:Value} {w w':World} (he:execOp a.eval o=(do let x <-m;pure (Next.value x))) (hm:m.run P w=.ok x w'):(execOp a.eval o).run P w=.ok (.value x) w':=by
 rw [he];simp [hm]
theorem jT {X:Cfg} (hX:cv X) (hG:X.G=B.G) (h:Rel B c s a) {o:Oper} (hd:∀t,o.dst=some t->t < B.N/\gE s t) {v:AV} {objs':List (Nat×AO)}
  (he:ey X s o=some (true,v,objs')):en X.P B c a o (s.after o.dst v objs')/\v.cA=false:=by
 have hch:vM a []:=λt w hm=>by simp at hm
 have hpure:(bW X.P ⟨s,X.G,[]⟩ o.op).map (λr=>(r.1,r.2,s.objs))=some (true,v,objs')->en X.P B c a o (s.after o.dst v objs')/\v.cA=false:=by
  intro he
  obtain ⟨⟨b,u⟩,h1,h2⟩:=a8 he
  simp only [Prod.mk.injEq] at h2
  obtain ⟨rfl,rfl,rfl⟩:=h2
  rw [hG] at h1
  have hg:=nj h hch h1
  refine ⟨hg.step h hd,?_⟩
  obtain ⟨_,_,_,_,_,h4⟩:=hg
  exact h4.plain
 cases ho:o.op with
 | alloc t=>
  simp only [ey,ho] at he
  cases hdst:o.dst with
  | none=>simp [hdst] at he
  | some d=>
   simp only [hdst] at he
   cases hob:s.obj d with
   | some _=>simp [hob] at he
   | none=>
    simp only [hob] at he
    obtain ⟨ob,h1,h2⟩:=a8 he
    simp only [Prod.mk.injEq] at h2
    obtain ⟨_,rfl,rfl⟩:=h2
    obtain ⟨x,c',e1,e2,e3⟩:=tu h hob h1
    exact ⟨hdst ▸ en.value hd (dr (by simp [execOp,ho]) e1) e2 e3,e3.plain⟩
 | box t x=>
  simp only [ey,ho] at he
  cases hdst:o.dst with
  | none=>simp [hdst] at he
  | some d=>
   simp only [hdst] at he
   cases hob:s.obj d with
   | some _=>simp [hob] at he
   | none=>
    simp only [hob] at he
    obtain ⟨u,h1,he⟩:=ai he
    rw [hG] at h1
    have hu:=av h hch h1
    have hcells:aq (eQ u.cells&&(aA X.P t==some u.cells.length)) (some (true,AV.ref d 0,aput s.objs d (AO.cells u.cells)))=some (true,v,objs')->en X.P B c a o (s.after (some d) v objs')/\v.cA=false:=by
     intro he
     obtain ⟨hb,he⟩:=ay he
     simp only [Option.some.injEq,Prod.mk.injEq] at he
     obtain ⟨_,rfl,rfl⟩:=he
     simp only [Bool.and_eq_true] at hb
     obtain ⟨y,c',e1,e2,e3⟩:=nU (P:=X.P) (t:=t) h hob hu hb.1
     exact ⟨hdst ▸ en.value hd (dr (by simp [execOp,ho]) e1) e2 e3,e3.plain⟩
    cases u with
    | arr sz n get=>
     dsimp only at he
     obtain ⟨hb,he⟩:=ay he
     simp only [Option.some.injEq,Prod.mk.injEq] at he
     obtain ⟨_,rfl,rfl⟩:=he
     obtain ⟨y,c',e1,e2,e3⟩:=pM (P:=X.P) (t:=t) h hob hu.rep
     exact ⟨hdst ▸ en.value hd (dr (by simp [execOp,ho]) e1) e2 e3,e3.plain⟩
    | _=>exact hcells he
 | store t x y=>
  simp only [ey,ho] at he
  obtain ⟨u,h1,he⟩:=ai he
  obtain ⟨q,h2,he⟩:=ai he
  rw [hG] at h1 h2
  cases hm:vn s u with
  | true=>
   simp only [hm,cond_true] at he
   obtain ⟨⟨b,us⟩,h3,he⟩:=a8 he
   simp only [Prod.mk.injEq] at he
   obtain ⟨rfl,rfl,rfl⟩:=he
   obtain ⟨c',e1,e2⟩:=sO h (av h hch h1).rep (av h hch h2).rep h3
   exact ⟨en.skip hd (by simp only [execOp,ho];simp [e1]) e2,rfl⟩
  | false=>
   simp only [hm,cond_false] at he
   obtain ⟨⟨b,k,ob⟩,h3,he⟩:=a8 he
   simp only [Prod.mk.injEq] at he
   obtain ⟨rfl,rfl,rfl⟩:=he
   obtain ⟨c',e1,e2⟩:=qc h (av h hch h1) (av h hch h2) h3
   exact ⟨en.skip hd (by simp only [execOp,ho];simp [e1]) e2,rfl⟩
 | load t x=>
  cases hgw:X.grow o with
  | false=>simp only [ey,ho,hgw,cond_false] at he;exact hpure (by rw [ho];exact he)
  | true=>
   simp only [ey,ho,hgw,cond_true] at he
   cases hdst:o.dst with
   | none=>simp [hdst] at he
   | some d=>
    simp only [hdst] at he
    obtain ⟨u,h1,he⟩:=ai he
    rw [hG] at h1
    obtain ⟨⟨b,v',us⟩,h3,he⟩:=a8 he
    simp only [Prod.mk.injEq] at he
    obtain ⟨rfl,rfl,rfl⟩:=he
    obtain ⟨y,c',e1,e2,e3⟩:=rI h (av h hch h1).rep h3
    exact ⟨hdst ▸ en.value hd (dr (by simp [execOp,ho]) e1) e2 e3,e3.plain⟩
 | range t x=>
  simp only [ey,ho] at he
  cases hdst:o.dst with
  | none=>simp [hdst] at he
  | some d=>
   simp only [hdst] at he
   cases hob:s.obj d with
   | some _=>simp [hob] at he
   | none=>
    simp only [hob] at he
    obtain ⟨u,h1,he⟩:=ai he
    rw [hG] at h1
    have hu:=(av h hch h1).rep
    split at he
    ·rename_i b ht
     simp only [Option.some.injEq,Prod.mk.injEq] at he
     obtain ⟨_,rfl,rfl⟩:=he
     generalize hX:a.eval x=X at hu
     cases hu
     obtain ⟨y,c',e1,e2,e3⟩:=rZ h hob ht b
     exact ⟨hdst ▸ en.value hd (dr (by simp [execOp,ho,hX]) e1) e2 e3,e3.plain⟩
    ·simp at he
 | next it isS=>
  simp only [ey,ho] at he
  obtain ⟨u,h1,he⟩:=ai he
  rw [hG] at h1
  have hu:=(av h hch h1).rep
  split at he
  ·rename_i q
   split at he
   ·rename_i b pos hob
    simp only [Option.some.injEq,Prod.mk.injEq] at he
    obtain ⟨_,rfl,rfl⟩:=he
    obtain ⟨y,c',e1,e2,e3⟩:=vj (P:=X.P) h hob hu o.type
    exact ⟨en.value hd (dr (by simp [execOp,ho]) e1) e2 e3,e3.plain⟩
   ·simp at he
  ·simp at he
 | makeSlice t l n=>
  simp only [ey,ho] at he
  cases hdst:o.dst with
  | none=>simp [hdst] at he
  | some d=>
   simp only [hdst] at he
   obtain ⟨u,h1,he⟩:=ai he
   obtain ⟨q,h2,he⟩:=ai he
   obtain ⟨⟨b,v',k,ob⟩,h3,he⟩:=a8 he
   simp only [Prod.mk.injEq] at he
   obtain ⟨rfl,rfl,rfl⟩:=he
   rw [hG] at h1 h2
   cases hle:X.lend o with
   | true=>
    rw [hle] at h3
    obtain ⟨z,c',e1,e2,e3⟩:=oa h (av h hch h1).rep (av h hch h2).rep h3
    exact ⟨hdst ▸ en.value hd (dr (by simp [execOp,ho]) e1) e2 e3,e3.plain⟩
   | false=>
    rw [hle] at h3
    obtain ⟨z,c',e1,e2,e3⟩:=iV h (av h hch h1).rep (av h hch h2).rep h3
    exact ⟨hdst ▸ en.value hd (dr (by simp [execOp,ho]) e1) e2 e3,e3.plain⟩
 | makeMap t r=>
  cases r with
  | some r=>simp only [ey,ho] at he;exact hpure (by rw [ho];exact he)
  | none=>
   simp only [ey,ho] at he
   cases hdst:o.dst with
   | none=>simp [hdst] at he
   | some d=>
    simp only [hdst] at he
    cases hob:s.obj d with
    | some _=>simp [hob] at he
    | none=>
     simp only [hob] at he
     split at he
     ·obtain ⟨z,_,he⟩:=ai he
      obtain ⟨q,_,he⟩:=a8 he
      simp only [Prod.mk.injEq] at he
      obtain ⟨_,rfl,rfl⟩:=he
      obtain ⟨y,c',e1,e2,e3⟩:=ph (P:=X.P) h hob t q.1 q.2 λ_=>z
      exact ⟨hdst ▸ en.value hd (dr (by simp [execOp,ho]) e1) e2 e3,e3.plain⟩
     ·simp at he
 | lookup t x i ok=>
  simp only [ey,ho] at he
  obtain ⟨u,h1,he⟩:=ai he
  obtain ⟨q,h2,he⟩:=ai he
  obtain ⟨r,h3,he⟩:=a8 he
  simp only [Prod.mk.injEq] at he
  obtain ⟨_,rfl,rfl⟩:=he
  rw [hG] at h1 h2
  obtain ⟨y,e1,e2⟩:=sB (P:=X.P) (ok:=ok) h (av h hch h1) (av h hch h2) h3
  exact ⟨en.value (c':=c) hd (dr (by simp [execOp,ho]) e1) h e2,e2.plain⟩
 | mapUpdate t x i w=>
  simp only [ey,ho] at he
  obtain ⟨u,h1,he⟩:=ai he
  obtain ⟨q,h2,he⟩:=ai he
  obtain ⟨r,h4,he⟩:=ai he
  obtain ⟨⟨k,ob⟩,h3,he⟩:=a8 he
  simp only [Prod.mk.injEq] at he
  obtain ⟨_,rfl,rfl⟩:=he
  rw [hG] at h1 h2 h4
  obtain ⟨c',e1,e2⟩:=kP (P:=X.P) h (av h hch h1) (av h hch h2) (av h hch h4) h3
  exact ⟨en.skip hd (by simp only [execOp,ho];simp [e1]) e2,rfl⟩
 | insert t x i w=>
  simp only [ey,ho] at he
  obtain ⟨u,h1,he⟩:=ai he
  obtain ⟨q,h2,he⟩:=ai he
  obtain ⟨r,h4,he⟩:=ai he
  obtain ⟨⟨k,ob⟩,h3,he⟩:=a8 he
  simp only [Prod.mk.injEq] at he
  obtain ⟨_,rfl,rfl⟩:=he
  rw [hG] at h1 h2 h4
  obtain ⟨c',e1,e2⟩:=kP (P:=X.P) h (av h hch h1) (av h hch h2) (av h hch h4) h3
  exact ⟨en.skip hd (by simp only [execOp,ho];simp [e1]) e2,rfl⟩
 | call q=>
  obtain ⟨callee,args,argTypes⟩:=q
  cases callee with
  | builtin b=>
   cases b with
   | delete=>
    simp only [ey,ho] at he
    split at he
    ·rename_i t t' hts
     obtain ⟨l,h1,he⟩:=ai he
     rw [hG] at h1
     split at he
     ·rename_i x i
      have hs:=cO h hch h1
      obtain ⟨x1,R,hXR,hx,hr⟩:=hs.cons_inv
      obtain ⟨x2,R2,hXR2,hy,hr2⟩:=hr.cons_inv
      have hR:=hr2.nv
      subst hR hXR2
      have e1:args.map a.eval=#[x1,x2]:=by apply Array.ext';simpa using hXR
      have e2:argTypes=#[t,t']:=by apply Array.ext';simpa using hts
      obtain ⟨⟨k,ob⟩,h3,he⟩:=a8 he
      simp only [Prod.mk.injEq] at he
      obtain ⟨_,rfl,rfl⟩:=he
      obtain ⟨c',g1,g2⟩:=pf (ty:=o.type) (t2:=t') h hx hy h3
      refine ⟨en.value hd (dr (m:=Builtin.delete_ #[t,t'] o.type #[x1,x2]) ?_ g1) g2 ⟨.tup _ _ rfl (by simp),by simp [AV.keys,au],rfl⟩,rfl⟩
      simp only [execOp,ho,resolve,pure_bind,invoke,builtin,e1,e2]
     ·cases he
    ·cases he
   | append=>
    simp only [ey,ho] at he
    split at he
    ·rename_i d t t' hdst hts
     obtain ⟨hb,he'⟩:=ay he
     clear he hb
     obtain ⟨l,h1,he⟩:=ai he'
     rw [hG] at h1
     split at he
     ·rename_i x bs
      obtain ⟨hst,he⟩:=ay he
      have hus:X.P.underlying t'=some .string:=yB hst
      have hs:=cO h hch h1
      obtain ⟨x1,R,hXR,hx,hr⟩:=hs.cons_inv
      obtain ⟨x2,R2,hXR2,hy,hr2⟩:=hr.cons_inv
      have hR:=hr2.nv
      subst hR hXR2
      have e1:args.map a.eval=#[x1,x2]:=by apply Array.ext';simpa using hXR
      have e2:argTypes=#[t,t']:=by apply Array.ext';simpa using hts
      obtain rfl:x2=.string ⟨bs.toArray⟩:=by cases hy.rep;rfl
      obtain ⟨⟨b,v',k,ob⟩,h3,he⟩:=a8 he
      simp only [Prod.mk.injEq] at he
      obtain ⟨rfl,rfl,rfl⟩:=he
      obtain ⟨V,c',g1,g2,g3⟩:=pO (ty:=o.type) h hus hx.rep h3
      refine ⟨hdst ▸ en.value hd (dr (m:=Builtin.append_ #[t,t'] o.type #[x1,.string ⟨bs.toArray⟩]) ?_ g1) g2 g3,g3.plain⟩
      simp only [execOp,ho,resolve,pure_bind,invoke,builtin,e1,e2]
     ·rename_i x y _
      obtain ⟨hb,he2⟩:=ay he
      have:=du hb
      clear he
      subst this
      have he:=he2
      have hs:=cO h hch h1
      obtain ⟨x1,R,hXR,hx,hr⟩:=hs.cons_inv
      obtain ⟨x2,R2,hXR2,hy,hr2⟩:=hr.cons_inv
      have hR:=hr2.nv
      subst hR hXR2
      have e1:args.map a.eval=#[x1,x2]:=by apply Array.ext';simpa using hXR
      have e2:argTypes=#[t,t]:=by apply Array.ext';simpa using hts
      obtain ⟨V,c',g1,g2,g3⟩:∃V c',(Builtin.append_ #[t,t] o.type #[x1,x2]).run X.P c.w=.ok V c'.w/\Rel B c' (s.with objs') a/\Sees B c' (s.with objs') v V:=by
       cases hgs:xG x with
       | true=>
        rw [hgs] at he
        obtain ⟨⟨b,v',us⟩,h3,he⟩:=a8 he
        simp only [Prod.mk.injEq] at he
        obtain ⟨rfl,rfl,rfl⟩:=he
        exact pS h hx.rep hy.rep h3
       | false=>
        rw [hgs] at he
        obtain ⟨⟨b,v',k,ob⟩,h3,he⟩:=a8 he
        simp only [Prod.mk.injEq] at he
        obtain ⟨rfl,rfl,rfl⟩:=he
        cases hg:(Bp x||X.grow o) with
        | true=>rw [hg] at h3;exact pQ h hx.rep hy.rep h3
        | false=>rw [hg] at h3;exact pU h hx.rep hy.rep h3
      refine ⟨hdst ▸ en.value hd (dr (m:=Builtin.append_ #[t,t] o.type #[x1,x2]) ?_ g1) g2 g3,g3.plain⟩
      simp only [execOp,ho,resolve,pure_bind,invoke,builtin,e1,e2]
     ·simp at he
    ·simp at he
   | _=>simp only [ey,ho] at he;exact hpure (by rw [ho];exact he)
  | value f=>
   simp only [ey,ho] at he
   obtain ⟨⟨g,l⟩,h1,he⟩:=ai he
   rw [hG] at h1
   obtain ⟨xs,hs,hrun⟩:=iK (P:=X.P) h hch ho h1
   obtain ⟨hcall,fn,g1,g2,g3⟩:=rj hX hG h hs he
   refine ⟨?_,?_⟩
   case refine_2=>
    obtain ⟨e,w',fr,⟨c2,x,_,_,_,hx⟩,_⟩:=hcall []
    exact hx.plain
   intro Q
   simp only [Oper.wp,hrun fn g1 g2 g3,Oper.upon]
   refine hcall.mono ?_
   rintro e w' ⟨c2,x,rfl,rfl,hr,hx⟩
   exact ⟨c2,rfl,hr.put' hd hx⟩
  | invoke r m=>simp only [ey,ho] at he;exact hpure (by rw [ho];exact he)
 | _=>simp only [ey,ho] at he;exact hpure (by rw [ho];exact he)
theorem vx {X:Cfg} (hX:cv X) (hG:X.G=B.G) (h:Rel B c s a) {o:Oper} (hd:∀t,o.dst=some t->t < B.N/\gE s t) {v:AV} {objs':List (Nat×AO)}
  (he:Ck X s o=some (true,v,objs')):en X.P B c a o (s.after o.dst v objs')/\v.cA=false:=by
 have hch:vM a []:=λt w hm=>by simp at hm
 cases ho:o.op with
 | buildSlice t n ps=>
  simp only [Ck,ho] at he
  cases hg:X.grow o with
  | false=>rw [hg] at he;exact jT hX hG h hd he
  | true=>
   rw [hg] at he
   simp only [cond_true] at he
   cases hdst:o.dst with
   | none=>simp [hdst] at he
   | some d=>
    simp only [hdst] at he
    cases hob:s.obj d with
    | some _=>simp [hob] at he
    | none=>
     simp only [hob] at he
     obtain ⟨l,h1,he⟩:=ai he
     rw [hG] at h1
     split at he
     ·rename_i b sz m get hb
      obtain ⟨_,he⟩:=ay he
      simp only [Option.some.injEq,Prod.mk.injEq] at he
      obtain ⟨rfl,rfl,rfl⟩:=he
      obtain ⟨y,c',e1,e2,e3⟩:=rv (P:=X.P) h hob (eJ h hch h1) hb
      refine ⟨hdst ▸ en.value hd (dr ?_ e1) e2 e3,e3.plain⟩
      simp only [execOp,ho]
      congr 1
      congr 1
      apply Array.ext'
      simp
     ·simp at he
 | makeSlice t l n=>
  simp only [Ck,ho] at he
  cases hg:X.grow o with
  | false=>rw [hg] at he;exact jT hX hG h hd he
  | true=>
   rw [hg] at he
   simp only [cond_true] at he
   obtain ⟨u,h1,he⟩:=ai he
   obtain ⟨q,h2,he⟩:=ai he
   obtain ⟨⟨b,v'⟩,h3,he⟩:=a8 he
   simp only [Prod.mk.injEq] at he
   obtain ⟨rfl,rfl,rfl⟩:=he
   rw [hG] at h1 h2
   have hg:=cM.of (P:=X.P) (a:=a) (o:=o) (by simp only [execOp,ho]) (jm (a:=a) (t:=t) h (av h hch h1).rep (av h hch h2).rep h3)
   refine ⟨hg.step h hd,?_⟩
   obtain ⟨_,_,_,_,_,h4⟩:=hg
   exact h4.plain
 | _=>simp only [Ck,ho] at he;cases he
theorem l4 {X:Cfg} (hX:cv X) (hG:X.G=B.G) (h:Rel B c s a) {o:Oper} (hd:∀t,o.dst=some t->t < B.N/\gE s t) {v:AV} {objs':List (Nat×AO)}
  (he:BS X s o=some (true,v,objs')):en X.P B c a o (s.after o.dst v objs')/\v.cA=false:=by
 unfold BS at he
 split at he
 ·rename_i f args ts ho
  have hch:vM a []:=λt w hm=>by simp at hm
  obtain ⟨⟨g,l⟩,h1,he⟩:=ai he
  rw [hG] at h1
  obtain ⟨xs,hs,hrun⟩:=iK (P:=X.P) h hch ho h1
  obtain ⟨hcall,fn,g1,g2,g3⟩:(Calls X.P g xs.toArray c.w λe w'=>∃c2 x,e=.returned x/\c2.w=w'/\Rel B c2 (s.with objs') a/\Sees B c2 (s.with objs') v x) /\
    ∃fn,X.P.funcs[g]?=some fn/\(fn.name=="runtime.NumGoroutine")=false/\fn.body.isSome=true:=by
   cases hl:X.lend o with
   | true=>rw [hl] at he;exact pI hX hG h hs he
   | false=>rw [hl] at he;exact pH hX hG h hs he
  refine ⟨?_,?_⟩
  case refine_2=>
   obtain ⟨e,w',fr,⟨c2,x,_,_,_,hx⟩,_⟩:=hcall []
   exact hx.plain
  intro Q
  simp only [Oper.wp,hrun fn g1 g2 g3,Oper.upon]
  refine hcall.mono ?_
  rintro e w' ⟨c2,x,rfl,rfl,hr,hx⟩
  exact ⟨c2,rfl,hr.put' hd hx⟩
 ·cases hx:isX o.op with
  | true=>rw [hx] at he;exact vx hX hG h hd he
  | false=>rw [hx] at he;exact jT hX hG h hd he
end Go.Ab

namespace Go.Ab
open Go Go.RowKit
variable {P:Program} {B:Base} {c:Cx} {s:St} {a:Act}
theorem dR (s:St) (d:Option Nat) (v:AV) (objs:List (Nat×AO)) (t:Nat):(s.after d v objs).get t=if d=some t then some v else s.get t:=by
 cases d with
 | none=>simp [St.after,St.put,St.get]
 | some d=>
  simp only [St.after,St.dD,Option.some.injEq]
  rfl
theorem vh (s:St) (d:Option Nat) (v:AV) (objs:List (Nat×AO)):(s.after d v objs).objs=objs:=by simp [St.after]
theorem kD (b:Bool):undef≠.bool b:=by simp [undef]
theorem eK {objs:List (Nat×AO)} {k:Nat} (h:k∈p3 objs):live objs k:=by
 induction objs with
 | nil=>simp [p3] at h
 | cons p r ih=>
  obtain ⟨q,o⟩:=p
  by_cases e:q=k
  ·exact ⟨o,by simp [alook,e]⟩
  ·simp only [p3,List.mem_cons] at h
   obtain ⟨o',h'⟩:=ih (h.resolve_left (λx=>e x.symm))
   exact ⟨o',by simp [alook,il e,h']⟩
theorem xq {objs:List (Nat×AO)} {k:Nat} (h:live objs k):k∈p3 objs:=by
 induction objs with
 | nil=>obtain ⟨o,h⟩:=h;simp [alook] at h
 | cons p r ih=>
  obtain ⟨q,o⟩:=p
  by_cases e:q=k
  ·simp [p3,e]
  ·obtain ⟨o',h'⟩:=h
   simp only [alook,il e,cond_false] at h'
   simp [p3,ih ⟨o',h'⟩]
theorem uH (h:Rel B c s a):∀ {n t:Nat} {w:Bool},a.tmps.getD t undef=.bool w->vM a (b9 s n t w)
 | 0,t,w,ht=>by
  intro t' w' hm
  simp [b9] at hm
  obtain ⟨rfl,rfl⟩:=hm;exact ht
 | n+1,t,w,ht=>by
  intro t' w' hm
  simp only [b9,List.mem_cons] at hm
  rcases hm with hm | hm
  ·obtain ⟨rfl,rfl⟩:=hm;exact ht
  ·cases hg:s.get t with
   | none=>simp [hg] at hm
   | some u=>
    cases u with
    | grd tc wc u'=>
     simp only [hg] at hm
     have he:=h.env t _ hg
     have:a.tmps.getD tc undef=.bool wc:=by
      refine Classical.byContradiction λhne=>?_
      have h2:=he.2 hne
      rw [ht] at h2
      exact kD w h2.symm
     exact uH h this t' w' hm
    | _=>simp [hg] at hm
theorem ko (h:Rel B c s a):∀ {ch:fw} {g:Bool},vM a ch->gW s ch=some g->g=true
 | [],g,_,he=>by simp [gW] at he;exact he
 | (t,w)::r,g,hc,he=>by
  have ht:=hc t w (by simp)
  have hr:vM a r:=λt' w' hm=>hc t' w' (List.mem_cons_of_mem _ hm)
  simp only [gW] at he
  cases hg:s.get t with
  | none=>simp [hg] at he
  | some u=>
   have hE:=h.env t _ hg
   cases u with
   | bool b=>
    simp only [hg] at he
    obtain ⟨g',h1,h2⟩:=a8 he
    have:=ko h hr h1
    subst this
    have hb:Rep c (.bool b) (a.tmps.getD t undef):=hE
    rw [ht] at hb
    cases hb
    simp at h2;exact h2
   | grd tc wc u'=>
    cases u' with
    | bool b=>
     simp only [hg] at he
     obtain ⟨g',h1,h2⟩:=a8 he
     have:=ko h hr h1
     subst this
     have hw:a.tmps.getD tc undef=.bool wc:=by
      refine Classical.byContradiction λhne=>?_
      have h2:=hE.2 hne
      rw [ht] at h2
      exact kD w h2.symm
     have hb:Rep c (.bool b) (a.tmps.getD t undef):=hE.1 hw
     rw [ht] at hb
     cases hb
     simp at h2;exact h2
    | _=>simp [hg] at he
   | _=>simp [hg] at he
def yg (P:Program) (ops:Array Oper) (B:Base) (c:Cx) (a:Act) (i:Nat) (s':St):Prop:=
 ∀ (Q:Exit->Act->World->Prop) (K:Act->World->Prop),(∀a' c',Rel B c' s' a'->K a' c'.w)->wpOp P ops Q i K a c.w
theorem en.istep {ops:Array Oper} {i:Nat} {o:Oper} {s':St} (ho:ops[i]?=some o) (hg:o.guard=none) (h:en P B c a o s'):yg P ops B c a i s':=by
 intro Q K hK
 unfold wpOp
 simp only [ho,Region.wanted,hg,if_true]
 exact .inl (Oper.wp_mono (λa' w'=>by rintro ⟨c',rfl,hr⟩;exact hK a' c' hr) (h Q))
theorem gK {ops:Array Oper} {o:Oper} {j t:Nat} {w:Bool} (hg:o.guard=some (j,w)) (ht:(ops[j]?).bind (·.dst)=some t) :
  Region.wanted o (yielded ops a.tmps)=true↔a.tmps.getD t undef=.bool w:=by
 simp only [Region.wanted,hg,yielded,ht,Option.bind_some]
 rw [Array.getD_eq_getD_getElem?]
 cases ht':a.tmps[t]? with
 | none=>simp [undef]
 | some v=>
  cases v <;> simp
theorem rU:∀ (o:Own) (m:Nat->Nat) (sz n:Nat) (get:Nat->List AV),(AV.sl o sz n get).keys=[]->(AV.sl o sz n get).ren m=.sl o sz n get:=by
 intro o m sz n get h
 cases o <;> simp_all [AV.keys,AV.ren]
mutual
theorem rV (m:Nat->Nat):∀ (v:AV),v.keys=[]->v.ren m=v
 | .sl o sz n get,h=>rU o m sz n get h
 | .agg cs,h=>by simp only [AV.ren];rw [ir m cs (by simpa [AV.keys] using h)]
 | .tup vs,h=>by simp only [AV.ren];rw [ir m vs (by simpa [AV.keys] using h)]
 | .ref ..,h | .aref ..,h | .msl ..,h=>by simp [AV.keys] at h
 | .fn f p q,h=>by
  simp only [AV.keys,List.append_eq_nil_iff] at h
  simp only [AV.ren];rw [ir m p h.1,ir m q h.2]
 | .bool _,_ | .int ..,_ | .str _,_ | .nilp,_ | .nilf,_ | .nilm,_ | .nili,_ | .nni,_ | .num _,_ | .undef,_ | .raw _,_ | .arr ..,_ | .elt ..,_ | .fms ..,_=>rfl
 | .grd t w v,h=>by simp only [AV.ren];rw [rV m v (by simpa [AV.keys] using h)]
theorem ir (m:Nat->Nat):∀ (l:List AV),au l=[]->lC m l=l
 | [],_=>rfl
 | v::r,h=>by
  simp only [au,List.append_eq_nil_iff] at h
  simp only [lC];rw [rV m v h.1,ir m r h.2]
end
theorem jR {α:Type} {l:List α} (h:isNil l=true):l=[]:=by cases l <;> simp_all [isNil]
theorem re {X:Cfg} {o:Oper} {t:Nat} {w:Bool} {v:AV} (he:oJ X s o t w=some (true,v)) (hn:∀f args ts,o.op≠.call {callee:=.value f,args,argTypes:=ts}) :
  ∃g b,gW s (b9 s 4 t w)=some g/\bW X.P ⟨s,X.G,b9 s 4 t w⟩ o.op=some (b,v)/\(cond b true (!g))=true/\kB v.keys (p3 s.objs)=true:=by
 have key:((gW s (b9 s 4 t w)).bind λg=>(bW X.P ⟨s,X.G,b9 s 4 t w⟩ o.op).bind λr=>aq (kB r.2.keys (p3 s.objs)) (some (cond r.1 true (!g),r.2)))=some (true,v):=by
  cases ho:o.op with
  | call q=>
   obtain ⟨callee,args,ts⟩:=q
   cases callee with
   | value f=>exact absurd ho (hn f args ts)
   | _=>simpa only [oJ,ho] using he
  | _=>simpa only [oJ,ho] using he
 obtain ⟨g,h1,key⟩:=ai key
 obtain ⟨⟨b,u⟩,h2,key⟩:=ai key
 obtain ⟨h3,key⟩:=ay key
 simp only [Option.some.injEq,Prod.mk.injEq] at key
 obtain ⟨h4,rfl⟩:=key
 exact ⟨g,b,h1,h2,h4,h3⟩
theorem oI {X:Cfg} (hX:cv X) (hG:X.G=B.G) (h:Rel B c s a) {ops:Array Oper} {i j t d:Nat} {w:Bool} {o:Oper} (hoi:ops[i]?=some o) (hg:o.guard=some (j,w)) (ht:(ops[j]?).bind (·.dst)=some t)
  (hdst:o.dst=some d) (hdN:d < B.N) (hfree:gE s d) (hdt:d≠t) {v:AV} (he:oJ X s o t w=some (true,v)):yg X.P ops B c a i (s.put (some d) (.grd t w v)):=by
 intro Q K hK
 unfold wpOp
 simp only [hoi]
 have hkeys:∀k∈v.keys,live s.objs k:=by
  intro k hk
  by_cases hc:∃f args ts,o.op=.call {callee:=.value f,args,argTypes:=ts}
  ·obtain ⟨f,args,ts,ho⟩:=hc
   simp only [oJ,ho] at he
   obtain ⟨q,_,he⟩:=ai he
   obtain ⟨_,he⟩:=ay he
   obtain ⟨⟨r,os⟩,_,he⟩:=ai he
   cases os with
   | nil=>
    dsimp only at he
    obtain ⟨hb,he⟩:=ay he
    simp only [Option.some.injEq,Prod.mk.injEq] at he
    obtain ⟨_,rfl⟩:=he
    simp only [Bool.and_eq_true] at hb
    rw [jR hb.1] at hk;simp at hk
   | cons _ _=>simp at he
  ·obtain ⟨_,_,_,_,_,h5⟩:=re he (λf args ts e=>hc ⟨f,args,ts,e⟩)
   exact eK (bH h5 k hk)
 by_cases hw:Region.wanted o (yielded ops a.tmps)=true
 ·have hbool:=(gK hg ht).1 hw
  have hch:=uH h (n:=4) hbool
  rw [if_pos hw]
  refine .inl ?_
  by_cases hc:∃f args ts,o.op=.call {callee:=.value f,args,argTypes:=ts}
  ·obtain ⟨f,args,ts,ho⟩:=hc
   simp only [oJ,ho] at he
   obtain ⟨⟨g,l⟩,h1,he⟩:=ai he
   obtain ⟨hnil,he⟩:=ay he
   obtain ⟨⟨r,os⟩,h2,he⟩:=ai he
   cases os with
   | cons _ _=>simp at he
   | nil=>
    dsimp only at he
    obtain ⟨hb,he⟩:=ay he
    simp only [Option.some.injEq,Prod.mk.injEq] at he
    obtain ⟨hpre,rfl⟩:=he
    simp only [Bool.and_eq_true] at hb
    have hl:=jR hnil
    dsimp only at hl h2
    rw [hG] at h1
    obtain ⟨xs,hs,hrun⟩:=iK (P:=X.P) h hch ho h1
    obtain ⟨hok,fn,g1,g2,g3⟩:=hX _ _ _ _ _ hpre h2
    rw [hG] at hok
    have hcore:=nR (P:=X.P) (f:=g) (r:=r) (ks:=[]) (os:=[]) (os':=[]) h List.nodup_nil rfl (by simp [bM]) hs (by rw [hl];simp) (by rw [ir _ _ hl];exact hok) rfl
    simp only [Oper.wp,hrun fn g1 g2 g3,Oper.upon]
    refine hcore.mono ?_
    rintro e w' ⟨c2,x,rfl,rfl,hr,hx⟩
    have hr':Rel B c2 s a:=hr
    have hx':Rep c2 r x:=by have:=hx.rep;rw [rV _ _ (jR hb.1)] at this;exact this
    refine hK _ _ ?_
    rw [hdst]
    exact hr'.Dg hdN hdt (λ_=>hx') (λhn=>absurd hbool hn) hkeys hfree
  ·obtain ⟨g,b,h1,h2,h3,_⟩:=re he (λf args ts e=>hc ⟨f,args,ts,e⟩)
   have:=ko h hch h1
   subst this
   have hb:b=true:=by cases b <;> simp_all
   subst hb
   rw [hG] at h2
   obtain ⟨x,c',e1,e2,e3,e4⟩:=nj h hch h2
   simp only [Oper.wp,e1,Oper.upon]
   refine hK _ _ ?_
   rw [hdst]
   exact (h.keep e2 e3).Dg hdN hdt (λ_=>e4.rep) (λhn=>absurd hbool hn) hkeys hfree
 ·have hbool:a.tmps.getD t undef≠.bool w:=λe=>hw ((gK hg ht).2 e)
  rw [if_neg hw]
  refine hK _ _ ?_
  rw [hdst]
  exact h.Dg hdN hdt (λe=>absurd e hbool) (λ_=>rfl) hkeys hfree
def bg (s:St):Prop:=∀t v,s.get t=some v->v.cA=false
theorem qk {X:Cfg} {o:Oper} {k:St->Res} {r:AV×List AO} (he:ql X s o k=some r):∃v objs',ey X s o=some (true,v,objs')/\k (s.after o.dst v objs')=some r:=by
 rw [mR] at he
 obtain ⟨⟨b,v,objs'⟩,h1,he⟩:=ai he
 obtain ⟨rfl,he⟩:=ay he
 exact ⟨v,objs',h1,he⟩
theorem wm {X:Cfg} {o:Oper} {k:St->Res} {r:AV×List AO} (he:uU X s o k=some r):∃v objs',ey X s o=some (true,v,objs')/\k (s.after o.dst v objs')=some r:=by
 unfold uU at he
 split at he
 ·cases hb:X.brk o with
  | true=>
   rw [hb,cond_true] at he
   obtain ⟨⟨b,v,objs'⟩,h1,he⟩:=ai he
   obtain ⟨rfl,he⟩:=ay he
   exact ⟨v,objs',h1,xL he⟩
  | false=>rw [hb,cond_false] at he;exact qk he
 ·exact qk he
theorem qf {X:Cfg} {o:Oper} {k:St->Res} {r:AV×List AO} (he:oW X s o k=some r):∃v objs',BS X s o=some (true,v,objs')/\k (s.after o.dst v objs')=some r:=by
 rw [oV] at he
 obtain ⟨⟨b,v,objs'⟩,h1,he⟩:=ai he
 obtain ⟨rfl,he⟩:=ay he
 exact ⟨v,objs',h1,he⟩
theorem qh {X:Cfg} {o:Oper} {t:Nat} {w:Bool} {k:St->Res} {r:AV×List AO} (he:stepG X s o t w k=some r) :
  ∃d v,o.dst=some d/\d≠t/\oJ X s o t w=some (true,v)/\k (s.put (some d) (.grd t w v))=some r:=by
 rw [oX] at he
 cases hd:o.dst with
 | none=>simp [hd] at he
 | some d=>
  simp only [hd] at he
  obtain ⟨h1,he⟩:=l6 he
  obtain ⟨⟨b,v⟩,h2,he⟩:=ai he
  obtain ⟨rfl,he⟩:=ay he
  exact ⟨d,v,rfl,λe=>by subst e;simp at h1,h2,he⟩
def yh (s:St) (rest:List Oper):Prop:=∀t tc w v,s.get t=some (.grd tc w v)->∀o∈rest,o.dst≠some tc
theorem yh.after {s:St} {o:Oper} {rest:List Oper} (h:yh s (o::rest)) {v:AV} (hv:v.cA=false) (objs:List (Nat×AO)):yh (s.after o.dst v objs) rest:=by
 intro t tc w u hu q hq
 rw [dR] at hu
 by_cases e:o.dst=some t
 ·rw [if_pos e] at hu;cases hu;simp [AV.cA] at hv
 ·rw [if_neg e] at hu;exact h t tc w u hu q (List.mem_cons_of_mem _ hq)
theorem yh.Dg {s:St} {o:Oper} {rest:List Oper} (h:yh s (o::rest)) {d t:Nat} {w:Bool} {v:AV} (hr:(rest.any λq=>q.dst==some t)=false):yh (s.put (some d) (.grd t w v)) rest:=by
 intro t' tc w' u hu q hq
 rw [St.dD] at hu
 by_cases e:d=t'
 ·rw [if_pos e] at hu
  simp only [Option.some.injEq,AV.grd.injEq] at hu
  obtain ⟨rfl,_,_⟩:=hu
  have:=List.any_eq_false.1 hr q hq
  simpa using this
 ·rw [if_neg e] at hu;exact h t' tc w' u hu q (List.mem_cons_of_mem _ hq)
theorem pA {s:St} {t:Nat} {v:AV} (h:s.get t=some v) (q:Nat):(s.put (some t) v).get q=s.get q:=by
 rw [St.dD]
 by_cases e:t=q
 ·subst e;rw [if_pos rfl,h]
 ·rw [if_neg e]
theorem Rel.same (h:Rel B c s a) {t:Nat} {v:AV} (hv:s.get t=some v):Rel B c (s.put (some t) v) a:=
 h.less (by rw [St.dU];exact h.kept) (λq u hu=>by rwa [pA hv] at hu) (λk o ho=>by simpa using ho) (λq u hu k hk=>by rw [St.dU];rw [pA hv] at hu;exact h.closed q u hu k hk) (λk o ho q hq=>by rw [St.dU];exact h.objs.closed k o (by simpa [St.obj] using ho) q hq)
theorem yh.same {s:St} {rest:List Oper} (h:yh s rest) {t:Nat} {v:AV} (hv:s.get t=some v):yh (s.put (some t) v) rest:=λq tc w u hu=>h q tc w u (by rwa [pA hv] at hu)
theorem wv {X:Cfg} {s:St} {o:Oper} {t:Nat} {w:Bool} {k:St->Res} {r:AV×List AO} (he:uW X s o t w k=some r) :
  ∃b,s.get t=some (.bool b)/\((b=w/\oW X (s.put (some t) (.bool b)) o k=some r)∨(b≠w/\k ((s.put (some t) (.bool b)).put o.dst .undef)=some r)):=by
 unfold uW at he
 split at he
 ·rename_i b hb
  refine ⟨b,hb,?_⟩
  cases w <;> cases b
  ·exact .inl ⟨rfl,he⟩
  ·exact .inr ⟨by simp,he⟩
  ·exact .inr ⟨by simp,he⟩
  ·exact .inl ⟨rfl,he⟩
 ·cases he
theorem c7 {X:Cfg} (hX:cv X) (hG:X.G=B.G) {ops:Array Oper} {k:St->Res} {r:AV×List AO} {Q:Exit->Act->World->Prop} :
  ∀ (rest:List Oper) (i:Nat) (s:St) (c:Cx) (a:Act),(∀j o,rest[j]?=some o->ops[i+j]?=some o)->fE X ops rest s k=some r->Rel B c s a->(∀o∈rest,∀d,o.dst=some d->d < B.N)->yh s rest->
   (∀s' c' a',k s'=some r->Rel B c' s' a'->(bg s->gD rest=false->bg s')->Q .normal a' c'.w)->wpOps X.P ops Q (List.range' i rest.length) a c.w
 | [],i,s,c,a,_,he,h,_,_,hk=>by
  simp only [List.length_nil,List.range'_zero,wpOps]
  exact hk s c a he h (λhn _=>hn)
 | o::rest,i,s,c,a,hops,he,h,hN,hI,hk=>by
  have hoi:ops[i]?=some o:=hops 0 o rfl
  have hrest:∀j q,rest[j]?=some q->ops[i+1+j]?=some q:=λj q hq=>by
   have:=hops (j+1) q (by simpa using hq)
   rw [Nat.add_assoc,Nat.add_comm 1 j];exact this
  have hN':∀o∈rest,∀d,o.dst=some d->d < B.N:=λq hq=>hN q (List.mem_cons_of_mem _ hq)
  simp only [List.length_cons,List.range'_succ]
  rw [wpOps_cons]
  cases hg:o.guard with
  | none=>
   simp only [fE,hg] at he
   obtain ⟨v,objs',h1,h2⟩:=qf he
   have hfree:∀t,o.dst=some t->t < B.N/\gE s t:=λt ht=>⟨hN o (by simp) t ht,λt' tc w v' hgt e=>hI t' tc w v' hgt o (by simp) (by rw [ht,e])⟩
   obtain ⟨hstep,hv⟩:=l4 hX hG h hfree h1
   refine hstep.istep hoi hg Q _ λa' c' hr=>?_
   refine c7 hX hG rest (i+1) _ c' a' hrest h2 hr hN' (hI.after hv objs') λs' c2 a2 e1 e2 e3=>hk s' c2 a2 e1 e2 λhn hq=>e3 (λt u hu=>?_) (by simpa [gD,hg] using hq)
   rw [dR] at hu
   by_cases e:o.dst=some t
   ·rw [if_pos e] at hu;cases hu;exact hv
   ·rw [if_neg e] at hu;exact hn t u hu
  | some jw=>
   obtain ⟨j,w⟩:=jw
   simp only [fE,hg] at he
   cases ht:(ops[j]?).bind (·.dst) with
   | none=>simp [ht] at he
   | some t=>
    simp only [ht] at he
    obtain ⟨hany,he⟩:=l6 he
    cases hbrk:X.brk o with
    | true=>
     rw [hbrk,cond_true] at he
     obtain ⟨b,hb,hee⟩:=wv he
     have h':=h.same hb
     have hI':=hI.same hb
     have hbt:=(h.env t _ hb)
     have hbv:a.tmps.getD t undef=.bool b:=by
      have hbt:Rep c (.bool b) (a.tmps.getD t undef):=hbt
      generalize a.tmps.getD t undef=Z at hbt
      cases hbt;rfl
     rcases hee with ⟨rfl,hs1⟩ | ⟨hne,hs1⟩
     ·obtain ⟨v,objs',h1,h2⟩:=qf hs1
      have hfree:∀t',o.dst=some t'->t' < B.N/\gE (s.put (some t) (.bool b)) t':=λt' ht'=>⟨hN o (by simp) t' ht',λt'' tc w' v' hgt e=>hI' t'' tc w' v' hgt o (by simp) (by rw [ht',e])⟩
      obtain ⟨hstep,hv⟩:=l4 hX hG h' hfree h1
      have hw:Region.wanted o (yielded ops a.tmps)=true:=(gK hg ht).2 hbv
      have hist:yg X.P ops B c a i ((s.put (some t) (.bool b)).after o.dst v objs'):=by
       intro Q K hK
       unfold wpOp
       simp only [hoi]
       rw [if_pos hw]
       exact .inl (Oper.wp_mono (λa' w'=>by rintro ⟨c',rfl,hr⟩;exact hK a' c' hr) (hstep Q))
      refine hist Q _ λa' c' hr=>?_
      refine c7 hX hG rest (i+1) _ c' a' hrest h2 hr hN' (hI'.after hv objs') λs' c2 a2 e1 e2 e3=>hk s' c2 a2 e1 e2 λhn hq=>?_
      simp [gD,hg] at hq
     ·have hw:¬ Region.wanted o (yielded ops a.tmps)=true:=λe=>by
       have:=(gK hg ht).1 e
       rw [hbv] at this
       exact hne (by simpa using this)
      have hist:yg X.P ops B c a i ((s.put (some t) (.bool b)).put o.dst .undef):=by
       intro Q K hK
       unfold wpOp
       simp only [hoi]
       rw [if_neg hw]
       refine hK _ _ ?_
       cases hd:o.dst with
       | none=>exact h'
       | some d=>exact h'.put (hN o (by simp) d hd) (.undef _) rfl (by simp [AV.keys]) (λt'' tc w' v' hgt e=>hI' t'' tc w' v' hgt o (by simp) (by rw [hd,e]))
      refine hist Q _ λa' c' hr=>?_
      refine c7 hX hG rest (i+1) _ c' a' hrest hs1 hr hN' (hI'.after (v:=.undef) rfl (s.put (some t) (.bool b)).objs) λs' c2 a2 e1 e2 e3=>hk s' c2 a2 e1 e2 λhn hq=>?_
      simp [gD,hg] at hq
    | false=>
    rw [hbrk,cond_false] at he
    obtain ⟨d,v,hd,hdt,h1,h2⟩:=qh he
    have hfree:gE s d:=λt' tc w v' hgt e=>hI t' tc w v' hgt o (by simp) (by rw [hd,e])
    refine oI hX hG h hoi hg ht hd (hN o (by simp) d hd) hfree hdt h1 Q _ λa' c' hr=>?_
    refine c7 hX hG rest (i+1) _ c' a' hrest h2 hr hN' (hI.Dg hany) λs' c2 a2 e1 e2 e3=>hk s' c2 a2 e1 e2 λhn hq=>?_
    simp [gD,hg] at hq
theorem kA (env:List (Nat×AV)) (t:Nat):alook (purge env) t=(alook env t).map λv=>cond v.cA .undef v:=by
 induction env with
 | nil=>rfl
 | cons p r ih=>
  obtain ⟨q,v⟩:=p
  simp only [purge,alook]
  cases Nat.beq q t <;> simp [ih]
theorem Rel.purge (h:Rel B c s a):Rel B c {s with env:=purge s.env} a:=by
 refine ⟨h.good,h.frame,h.objs,λt v hv=>?_,λt v hv=>?_,h.mine,h.tmps,h.defers,h.kept⟩
 ·simp only [St.get,kA] at hv
  obtain ⟨u,h1,h2⟩:=a8 hv
  cases hu:u.cA with
  | true=>simp only [hu,cond_true] at h2;subst h2;exact dQ.nr rfl (.undef _)
  | false=>simp only [hu,cond_false] at h2;subst h2;exact h.env t u h1
 ·simp only [St.get,kA] at hv
  obtain ⟨u,h1,h2⟩:=a8 hv
  cases hu:u.cA with
  | true=>simp only [hu,cond_true] at h2;subst h2;simp [AV.keys]
  | false=>simp only [hu,cond_false] at h2;subst h2;exact h.closed t u h1
theorem bg.purge (s:St):bg {s with env:=Go.Ab.purge s.env}:=by
 intro t v hv
 simp only [St.get,kA] at hv
 obtain ⟨u,h1,h2⟩:=a8 hv
 cases hu:u.cA with
 | true=>simp only [hu,cond_true] at h2;subst h2;rfl
 | false=>simp only [hu,cond_false] at h2;subst h2;exact hu
theorem bg.ginv {s:St} (h:bg s) (rest:List Oper):yh s rest:=by
 intro t tc w v hv
 have:=h t _ hv
 simp [AV.cA] at this
theorem kI {X:Cfg} (hX:cv X) (hG:X.G=B.G) {ops:Array Oper} {k:St->Res} {r:AV×List AO} {Q:Exit->Act->World->Prop} (he:fh X ops s k=some r) (h:Rel B c s a) (hn:bg s)
  (hN:∀o∈ops.toList,∀d,o.dst=some d->d < B.N) (hk:∀s' c' a',k s'=some r->Rel B c' s' a'->bg s'->Q .normal a' c'.w):wpOps X.P ops Q (List.range ops.size) a c.w:=by
 have hr:List.range ops.size=List.range' 0 ops.toList.length:=by simp [List.range_eq_range']
 rw [hr]
 have hops:∀j o,ops.toList[j]?=some o->ops[0+j]?=some o:=λj o ho=>by simpa using ho
 unfold fh at he
 cases hb:gD ops.toList with
 | true=>
  simp only [hb,cond_true] at he
  obtain ⟨_,he⟩:=bD he
  exact c7 hX hG ops.toList 0 s c a hops he h hN (hn.ginv _) λs' c' a' e1 e2 _=>hk _ c' a' e1 e2.purge (bg.purge _)
 | false=>
  simp only [hb,cond_false] at he
  exact c7 hX hG ops.toList 0 s c a hops he h hN (hn.ginv _) λs' c' a' e1 e2 e3=>hk _ c' a' e1 e2 (e3 hn hb)
theorem na {X:Cfg} (hX:cv X) (hG:X.G=B.G) {ops:Array Oper} {id:Nat} {k:St->Res} {r:AV×List AO} {Q:Exit->Act->World->Prop} (he:fh X ops s k=some r) (h:Rel B c s a) (hn:bg s)
  (hN:∀o∈ops.toList,∀d,o.dst=some d->d < B.N) (hk:∀s' c' a',k s'=some r->Rel B c' s' a'->bg s'->Q .normal a' c'.w):(Code.region id ops false).wp X.P Q a c.w:=
 wp_region (kI hX hG he h hn hN hk)
end Go.Ab

namespace Go.Ab
open Go Go.RowKit
def fD (s1 s2:St) (l:List Nat):Prop:=∀t∈l,s1.get t=s2.get t
theorem oz {l:List Operand} {t:Nat}:t∈cQ l↔Operand.tmp t∈l:=by
 induction l with
 | nil=>simp [cQ]
 | cons o r ih=>cases o <;> simp [cQ,ih]
theorem fD.sub {s1 s2:St} {l m:List Operand} (h:fD s1 s2 (cQ l)) (hs:∀x∈m,x∈l):fD s1 s2 (cQ m):=
 λt ht=>h t (oz.2 (hs _ (oz.1 ht)))
section
variable {s1 s2:St} {G:Nat->Option (List AV)} {ch:fw}
theorem ef {x:Operand} (h:fD s1 s2 (cQ [x])):aP ⟨s1,G,ch⟩ x=aP ⟨s2,G,ch⟩ x:=by
 cases x with
 | tmp t=>simp only [aP];rw [h t (by simp [cQ])]
 | _=>rfl
theorem eh:∀ {l:List Operand},fD s1 s2 (cQ l)->cY ⟨s1,G,ch⟩ l=cY ⟨s2,G,ch⟩ l
 | [],_=>rfl
 | x::r,h=>by
  simp only [cY]
  rw [ef (h.sub (by simp)),eh (l:=r) (h.sub (by simp +contextual))]
theorem jt:∀ {l:List (Nat×Operand)},fD s1 s2 (cQ (l.map (·.2)))->cX ⟨s1,G,ch⟩ l=cX ⟨s2,G,ch⟩ l
 | [],_=>rfl
 | (i,x)::r,h=>by
  simp only [cX]
  rw [ef (h.sub (by simp)),jt (l:=r) (h.sub (by simp +contextual))]
theorem ku {x:Option Operand} (h:fD s1 s2 (cQ x.toList)):bW.evalM ⟨s1,G,ch⟩ x=bW.evalM ⟨s2,G,ch⟩ x:=by
 cases x with
 | none=>rfl
 | some o=>simp only [bW.evalM];rw [ef (h.sub (by simp))]
def eM (s1 s2:St) (l:List Nat):Prop:=∀k∈l,s1.obj k=s2.obj k
theorem lI {x:AV} (h:eM s1 s2 x.keys):mG s1 x=mG s2 x:=by
 cases x with
 | msl k sz off n=>simp only [mG,h k (by simp [AV.keys])]
 | gsl k sz n=>simp only [mG,h k (by simp [AV.keys])]
 | gsub k sz n lo len=>simp only [mG,h k (by simp [AV.keys])]
 | _=>rfl
theorem sE {x:AV} (h:eM s1 s2 x.keys) (P:Program) (t:TypeId):kS P s1 t x=kS P s2 t x:=by
 cases x with
 | ref k off=>simp only [kS,h k (by simp [AV.keys])]
 | aref k sz i off=>simp only [kS,h k (by simp [AV.keys])]
 | gref k sz n i off=>simp only [kS,h k (by simp [AV.keys])]
 | _=>rfl
theorem mL {x:AV} (h:eM s1 s2 x.keys) (P:Program) (t:TypeId) (i:AV):eU P s1 t x i=eU P s2 t x i:=by
 cases i <;> try rfl
 simp only [eU]
 cases P.underlying t with
 | none=>rfl
 | some d=>
  cases x with
  | ref k off=>cases d <;> first | rfl | (cases off <;> simp only [h k (by simp [AV.keys])])
  | gsl k sz n=>cases d <;> first | rfl | simp only [h k (by simp [AV.keys])]
  | gsub k sz n lo len=>cases d <;> first | rfl | simp only [h k (by simp [AV.keys])]
  | _=>cases d <;> rfl
theorem tf {x:AV} (h:eM s1 s2 x.keys) (P:Program) (a b:TypeId):vF P s1 a b x=vF P s2 a b x:=by
 unfold vF
 cases P.underlying b with
 | none=>rfl
 | some d=>
  cases x with
  | msl k sz off n=>cases d <;> first | rfl | simp only [mG,h k (by simp [AV.keys])]
  | gsl k sz n=>cases d <;> first | rfl | simp only [mG,h k (by simp [AV.keys])]
  | gsub k sz n lo len=>cases d <;> first | rfl | simp only [mG,h k (by simp [AV.keys])]
  | _=>cases d <;> rfl
theorem qd {x:AV} (h:eM s1 s2 x.keys) (P:Program) (t:TypeId) (v:AV):fU P s1 t x v=fU P s2 t x v:=by
 cases x with
 | ref k off=>simp only [fU,h k (by simp [AV.keys])]
 | aref k sz i off=>simp only [fU,h k (by simp [AV.keys])]
 | gref k sz n i off=>simp only [fU,h k (by simp [AV.keys])]
 | _=>rfl
theorem ny {x:AV} (h:eM s1 s2 x.keys) (P:Program) (t:TypeId) (i:AV):oh P s1 t x i=oh P s2 t x i:=by
 unfold oh
 cases P.underlying t with
 | none=>rfl
 | some d=>
  cases x with
  | mref k=>cases d <;> first | rfl | simp only [h k (by simp [AV.keys])]
  | _=>cases d <;> rfl
theorem kQ {x:AV} (h:eM s1 s2 x.keys) (P:Program) (t:TypeId) (i v:AV):iB P s1 t x i v=iB P s2 t x i v:=by
 unfold iB
 cases P.underlying t with
 | none=>rfl
 | some d=>
  cases x with
  | mref k=>cases d <;> first | rfl | simp only [h k (by simp [AV.keys])]
  | _=>cases d <;> rfl
theorem pg {x:AV} (h:eM s1 s2 x.keys) (P:Program) (t:TypeId) (i:AV):jl P s1 t x i=jl P s2 t x i:=by
 unfold jl
 cases P.underlying t with
 | none=>rfl
 | some d=>
  cases x with
  | mref k=>cases d <;> first | rfl | simp only [h k (by simp [AV.keys])]
  | _=>cases d <;> rfl
theorem xn {P:Program} {s:St} {t:TypeId} {x i:AV} {r:Bool×AV×AV} (h:oh P s t x i=some r):(∃k ob,k∈x.keys/\s.obj k=some ob)∨x.keys=[]:=by
 unfold oh at h
 split at h
 ·rename_i kt et k hu
  obtain ⟨z,_,h⟩:=ai h
  split at h
  ·rename_i ho;exact .inl ⟨k,_,by simp [AV.keys],ho⟩
  ·cases h
 ·exact .inr rfl
 ·cases h
theorem nw {P:Program} {s:St} {t:TypeId} {x i v:AV} {k:Nat} {ob:AO} (h:iB P s t x i v=some (k,ob)):k∈x.keys:=by
 unfold iB at h
 split at h
 ·split at h
  ·obtain ⟨_,h⟩:=ay h
   simp only [Option.some.injEq,Prod.mk.injEq] at h
   simp [AV.keys,h.1]
  ·cases h
 ·cases h
theorem sx {P:Program} {s:St} {t:TypeId} {x i:AV} {k:Nat} {ob:AO} (h:jl P s t x i=some (k,ob)):k∈x.keys:=by
 unfold jl at h
 split at h
 ·split at h
  ·obtain ⟨_,h⟩:=ay h
   simp only [Option.some.injEq,Prod.mk.injEq] at h
   simp [AV.keys,h.1]
  ·cases h
 ·cases h
theorem nW {α:Type}:∀ {l:List (Nat×α)} {k:Nat} {x:α},alook l k=some x->aput l k x=l
 | [],k,x,h=>by simp [alook] at h
 | (q,y)::r,k,x,h=>by
  simp only [alook] at h
  simp only [aput]
  cases hq:Nat.beq q k with
  | true=>rw [hq] at h;simp at h;simp [h]
  | false=>rw [hq] at h;simp only [cond_false] at h ⊢;rw [nW h]
theorem iW {d:Nat} (h:s1.obj d=s2.obj d) (P:Program) (t:TypeId) (same:Bool) (x v:AV):dk P s1 d t same x v=dk P s2 d t same x v:=by
 simp only [dk,h]
theorem pV {d:Nat} {x y:AV} (h:s1.obj d=s2.obj d) (hx:eM s1 s2 x.keys) (hy:eM s1 s2 y.keys) (P:Program) (t:TypeId):kz P s1 d t x y=kz P s2 d t x y:=by
 unfold kz
 rw [lI hy]
 cases P.underlying t with
 | none=>rfl
 | some D=>
  cases D with
  | slice e=>
   dsimp only
   cases aA P e with
   | none=>rfl
   | some sz=>cases zeroCells P e with
    | none=>rfl
    | some z=>cases P.info? e with
     | none=>rfl
     | some inf=>cases x with
      | sl o sz0 n get=>cases mG s2 y with
       | none=>rfl
       | some q=>cases o with
        | no=>rfl
        | nl=>rfl
        | nn=>rfl
        | fit=>dsimp only;rw [h]
        | key k=>dsimp only;rw [hx k (by simp [AV.keys])]
      | _=>rfl
  | _=>rfl
theorem pP {d:Nat} {x:AV} (h:s1.obj d=s2.obj d) (hx:eM s1 s2 x.keys) (P:Program) (t:TypeId) (b:List UInt8):jF P s1 d t x b=jF P s2 d t x b:=by
 unfold jF
 cases P.underlying t with
 | none=>rfl
 | some D=>
  cases D with
  | slice e=>
   dsimp only
   cases aA P e with
   | none=>rfl
   | some sz=>cases zeroCells P e with
    | none=>rfl
    | some z=>cases P.info? e with
     | none=>rfl
     | some inf=>cases P.underlying e with
      | none=>rfl
      | some E=>cases x with
       | sl o sz0 n get=>cases E with
        | int ki=>cases ki <;> cases o <;> first | rfl | (dsimp only;rw [h]) | (dsimp only;rw [hx _ (by simp [AV.keys])])
        | _=>rfl
       | _=>cases E with
        | int ki=>cases ki <;> rfl
        | _=>rfl
  | _=>rfl
theorem tp {P:Program} {s:St} {d:Nat} {t:TypeId} {x v:AV} {bs:List UInt8} {b:Bool} {k:Nat} {ob:AO} (h:jF P s d t x bs=some (b,v,k,ob)):k=d∨k∈x.keys:=by
 unfold jF at h
 split at h
 ·split at h
  ·rename_i ow sz0 n get _ _ _ _
   obtain ⟨_,h⟩:=ay h
   cases ow with
   | no=>cases h
   | nl=>cases h
   | nn=>cases h
   | fit=>
    simp only [] at h
    split at h
    ·simp only [Option.some.injEq,Prod.mk.injEq] at h;exact .inl h.2.2.1.symm
    ·cases h
   | key k'=>
    simp only [] at h
    split at h
    ·obtain ⟨_,h⟩:=ay h
     simp only [Option.some.injEq,Prod.mk.injEq] at h;exact .inr (by simp [AV.keys,h.2.2.1])
    ·cases h
  ·cases h
 ·cases h
theorem pR {d:Nat} {x y:AV} (h:s1.obj d=s2.obj d) (hx:eM s1 s2 x.keys) (hy:eM s1 s2 y.keys) (P:Program) (t:TypeId):ky P s1 d t x y=ky P s2 d t x y:=by
 unfold ky
 rw [lI hy]
 cases P.underlying t with
 | none=>rfl
 | some D=>
  cases D with
  | slice e=>
   dsimp only
   cases aA P e with
   | none=>rfl
   | some sz=>cases zeroCells P e with
    | none=>rfl
    | some z=>cases P.info? e with
     | none=>rfl
     | some inf=>cases mG s2 y with
      | none=>rfl
      | some q=>cases x with
       | sl o sz0 n get=>cases o with
        | no=>rfl
        | nl=>rfl
        | nn=>rfl
        | fit=>dsimp only;rw [h]
        | key k=>rfl
       | gsl k sz0 n=>dsimp only;rw [hx k (by simp [AV.keys])]
       | _=>rfl
  | _=>rfl
theorem uX {y:AV} (h:eM s1 s2 y.keys):yi s1 y=yi s2 y:=by
 cases y with
 | gsl k sz n=>simp only [yi,h k (by simp [AV.keys])]
 | gsub k sz n lo len=>simp only [yi,h k (by simp [AV.keys])]
 | _=>simp only [yi,lI h]
theorem pT {d:Nat} {x y:AV} (h:s1.obj d=s2.obj d) (h':s1.obj (d+500000)=s2.obj (d+500000)) (hx:eM s1 s2 x.keys) (hy:eM s1 s2 y.keys) (P:Program) (t:TypeId):jG P s1 d t x y=jG P s2 d t x y:=by
 unfold jG
 rw [uX hy]
 have hf:nF s1.objs d=nF s2.objs d:=by
  unfold nF
  have e1:alook s1.objs d=alook s2.objs d:=h
  have e2:alook s1.objs (d+500000)=alook s2.objs (d+500000):=h'
  rw [e1,e2]
 rw [hf]
 cases P.underlying t with
 | none=>rfl
 | some D=>cases x with
  | gsub k sz0 n lo hh=>cases D <;> first | rfl | (cases lo <;> first | rfl | simp only [hx k (by simp [AV.keys])])
  | _=>cases D <;> rfl
theorem rB {P:Program} {s:St} {d:Nat} {t:TypeId} {x y v:AV} {b:Bool} {us:List (Nat×AO)} (h:jG P s d t x y=some (b,v,us)):∀p∈us,p.1∈x.keys∨p.1=d∨p.1=d+500000:=by
 unfold jG at h
 split at h
 ·split at h
  ·rename_i hK
   obtain ⟨_,h⟩:=ay h
   simp only [Option.some.injEq,Prod.mk.injEq] at h
   obtain ⟨_,_,rfl⟩:=h
   intro p hp
   rcases List.mem_cons.1 hp with rfl | hp
   ·exact .inl (by simp [AV.keys])
   ·simp only [List.mem_singleton] at hp
    subst hp
    right
    unfold nF at hK
    split at hK
    ·exact .inl (Option.some.inj hK).symm
    ·split at hK
     ·exact .inr (Option.some.inj hK).symm
     ·cases hK
  ·cases h
 ·cases h
theorem lM {k:Nat}:∀ {us objs:List (Nat×AO)},(∀p∈us,p.1≠k)->alook (pc objs us) k=alook objs k
 | [],_,_=>rfl
 | (q,o)::r,objs,h=>by
  rw [pc,lM λp hp=>h p (List.mem_cons_of_mem _ hp),aV,if_neg (h _ (List.mem_cons_self ..))]
theorem qD {k:Nat}:∀ {us o1 o2:List (Nat×AO)},alook o1 k=alook o2 k->alook (pc o1 us) k=alook (pc o2 us) k
 | [],_,_,h=>h
 | (q,o)::r,o1,o2,h=>by
  rw [pc,pc]
  refine qD ?_
  rw [aV,aV,h]
theorem lO {c:Ctx} {x:Operand} {v:AV} (hv:aP c x=some v):∀ {l:List Operand},x∈l->∀k∈v.keys,k∈aU c l
 | [],hx,_,_=>by simp at hx
 | y::r,hx,k,hk=>by
  simp only [aU,List.mem_append]
  rcases List.mem_cons.1 hx with rfl | hx
  ·left;rw [hv];exact hk
  ·exact .inr (lO hv hx k hk)
theorem np (P:Program) {op:Op} (h:fD s1 s2 (cQ op.operands.toList)) (ho:eM s1 s2 (cond (iu op) (aU ⟨s2,G,ch⟩ op.operands.toList) [])):bW P ⟨s1,G,ch⟩ op=bW P ⟨s2,G,ch⟩ op:=by
 have E:∀ {x:Operand} {ch:fw},x∈op.operands.toList->aP ⟨s1,G,ch⟩ x=aP ⟨s2,G,ch⟩ x:=fun {x ch} hx=>ef (h.sub (m:=[x]) (by simpa using hx))
 have K:iu op=true->∀ {x:Operand} {v:AV},x∈op.operands.toList->aP ⟨s2,G,ch⟩ x=some v->eM s1 s2 v.keys:=λhr {x v} hx hv k hk=>ho k (by rw [hr];exact lO hv hx k hk)
 cases op with
 | move x | assign x | nilCheck x | unOp _ _ x | extract x _ | fieldAddr _ x _ | field _ x _=>simp only [bW];rw [E (by simp [Op.operands])]
 | load t x=>
  simp only [bW];rw [E (by simp [Op.operands])]
  cases hx:aP ⟨s2,G,ch⟩ x with
  | none=>rfl
  | some v=>simp only [Option.bind_some];exact sE (K rfl (by simp [Op.operands]) hx) P t
 | convert a b x=>
  simp only [bW];rw [E (by simp [Op.operands])]
  cases hx:aP ⟨s2,G,ch⟩ x with
  | none=>rfl
  | some v=>simp only [Option.bind_some];exact tf (K rfl (by simp [Op.operands]) hx) P a b
 | pick q a b=>
  cases q with
  | tmp t=>simp only [bW];rw [E (x:=.tmp t) (by simp [Op.operands]),E (x:=a) (by simp [Op.operands]),E (x:=b) (by simp [Op.operands])]
  | _=>rfl
 | build t ps | buildSlice t n ps=>
  simp only [bW];rw [jt (h.sub (by simp [Op.operands]))]
 | binOp op t x y z=>simp only [bW];rw [E (x:=x) (by simp [Op.operands]),E (x:=y) (by simp [Op.operands])]
 | makeSlice t x y=>simp only [bW];rw [E (x:=x) (by simp [Op.operands]),E (x:=y) (by simp [Op.operands])]
 | indexAddr t x y=>
  simp only [bW];rw [E (x:=x) (by simp [Op.operands]),E (x:=y) (by simp [Op.operands])]
  cases hx:aP ⟨s2,G,ch⟩ x with
  | none=>rfl
  | some v=>simp only [Option.bind_some,mL (K rfl (by simp [Op.operands]) hx)]
 | index t x y=>
  simp only [bW];rw [E (x:=x) (by simp [Op.operands]),E (x:=y) (by simp [Op.operands])]
 | makeFunc f a b=>
  cases f with
  | func f=>simp only [bW];rw [eh (l:=a.toList) (h.sub (by simp +contextual [Op.operands])),eh (l:=b.toList) (h.sub (by simp +contextual [Op.operands]))]
  | _=>rfl
 | slice t x l hi m=>
  simp only [bW]
  rw [E (x:=x) (by simp [Op.operands]),ku (x:=l) (h.sub (by simp +contextual [Op.operands])),ku (x:=hi) (h.sub (by simp +contextual [Op.operands])),ku (x:=m) (h.sub (by simp +contextual [Op.operands]))]
 | call q=>
  obtain ⟨callee,args,ts⟩:=q
  cases callee with
  | builtin b=>
   have hl:cY ⟨s1,G,ch⟩ args.toList=cY ⟨s2,G,ch⟩ args.toList:=eh (h.sub (by simp +contextual [Op.operands,Call.operands]))
   cases b <;> first | rfl | (simp only [bW];rw [hl])
  | _=>rfl
 | _=>rfl
theorem lN {c:Ctx}:∀ {l:List Operand},aU c l=[]->∀x∈l,∃v,aP c x=some v/\v.keys=[]
 | [],_,x,hx=>by simp at hx
 | y::r,h,x,hx=>by
  simp only [aU,List.append_eq_nil_iff] at h
  rcases List.mem_cons.1 hx with rfl | hx
  ·cases hv:aP c x with
   | none=>simp [hv] at h
   | some v=>simp [hv] at h;exact ⟨v,rfl,h.1⟩
  ·exact lN h.2 x hx
end
end Go.Ab

namespace Go.Ab
open Go Go.RowKit
mutual
theorem yE:∀ (v:AV),v.keys=[]->v.shed=v
 | .sl o sz n get,h=>by cases o <;> simp_all [AV.keys,AV.shed]
 | .agg cs,h=>by simp only [AV.shed];rw [kG cs (by simpa [AV.keys] using h)]
 | .tup vs,h=>by simp only [AV.shed];rw [kG vs (by simpa [AV.keys] using h)]
 | .ref ..,_ | .aref ..,_ | .msl ..,_ | .fn ..,_ | .bool _,_ | .int ..,_ | .str _,_ | .nilp,_ | .nilf,_ | .nilm,_ | .nili,_ | .nni,_ | .num _,_ | .undef,_ | .raw _,_ | .arr ..,_ | .elt ..,_ | .fms ..,_ | .grd ..,_=>rfl
theorem kG:∀ (l:List AV),au l=[]->bS l=l
 | [],_=>rfl
 | v::r,h=>by
  simp only [au,List.append_eq_nil_iff] at h
  simp only [bS];rw [yE v h.1,kG r h.2]
end
theorem nK {O:List (Nat×AO)} {v:AV} (h:v.keys=[]):cg O v=some (v,O):=by
 cases v <;> first | rfl | (simp [AV.keys] at h;done)
theorem nG {O:List (Nat×AO)}:∀ {l:List AV},au l=[]->cC O l=some (l,O)
 | [],_=>rfl
 | v::r,h=>by
  simp only [au,List.append_eq_nil_iff] at h
  simp only [cC,nK h.1,nG h.2,Option.bind_some]
theorem sS {O:List (Nat×AO)} {v:AV} (h:v.keys=[]):dE O v=some (v,O):=by
 cases v with
 | agg cs=>simp only [dE,nG (show au cs=[] by simpa [AV.keys] using h),Option.map_some]
 | _=>exact nK h
theorem mr {O:List (Nat×AO)}:∀ {l:List AV},au l=[]->bK O l=some (l,O)
 | [],_=>rfl
 | v::r,h=>by
  simp only [au,List.append_eq_nil_iff] at h
  simp only [bK,sS h.1,mr h.2,Option.bind_some]
section
variable {s1 s2:St} {G:Nat->Option (List AV)} {ch:fw}
theorem fN {f:Operand} {args:Array Operand} {ts:Array TypeId} (h:fD s1 s2 (cQ (Op.call {callee:=.value f,args,argTypes:=ts}).operands.toList)) :
  dF ⟨s1,G,ch⟩ {callee:=.value f,args,argTypes:=ts}=dF ⟨s2,G,ch⟩ {callee:=.value f,args,argTypes:=ts}:=by
 simp only [dF]
 rw [ef (x:=f) (h.sub (by simp [Op.operands,Call.operands])),eh (l:=args.toList) (h.sub (by simp +contextual [Op.operands,Call.operands]))]
theorem nP {X:Cfg} {s:St} {o:Oper} (h1:(c8 o.op||fF X o)=false) (h2:cm o.op=false):ey X s o=(bW X.P ⟨s,X.G,[]⟩ o.op).map λr=>(r.1,r.2,s.objs):=by
 cases hop:o.op with
 | call q=>
  obtain ⟨callee,args,ts⟩:=q
  cases callee with
  | builtin b=>cases b <;> first | (simp [hop,c8] at h1;done) | simp only [ey,hop]
  | value f=>simp [hop,cm] at h2
  | invoke r m=>simp only [ey,hop]
 | alloc _=>simp [hop,c8] at h1
 | box _ _=>simp [hop,c8] at h1
 | store _ _ _=>simp [hop,c8] at h1
 | range _ _=>simp [hop,c8] at h1
 | next _ _=>simp [hop,c8] at h1
 | makeSlice _ _ _=>simp [hop,c8] at h1
 | makeMap t r=>cases r with | none=>simp [hop,c8] at h1 | some r=>simp only [ey,hop]
 | lookup _ _ _ _=>simp [hop,c8] at h1
 | mapUpdate _ _ _ _=>simp [hop,c8] at h1
 | insert _ _ _ _=>simp [hop,c8] at h1
 | load t x=>
  have hg:X.grow o=false:=by simpa [hop,c8,fF] using h1
  simp only [ey,hop,hg,cond_false]
 | _=>simp only [ey,hop]
theorem nB {s:St}:∀ {l:List Operand} {vs:List AV},aU ⟨s,G,ch⟩ l=[]->cY ⟨s,G,ch⟩ l=some vs->au vs=[]
 | [],vs,_,h=>by simp [cY] at h;subst h;rfl
 | x::r,vs,hk,h=>by
  simp only [cY] at h
  obtain ⟨v,h1,h⟩:=ai h
  obtain ⟨l,h2,h⟩:=a8 h
  subst h
  simp only [aU,h1,List.append_eq_nil_iff] at hk
  simp only [au,hk.1,nB hk.2 h2,List.append_nil]
theorem oA {c:Ctx} {l:List Operand} (h:aU c l=[]):∀ {m:List Operand},(∀x∈m,x∈l)->aU c m=[]
 | [],_=>rfl
 | x::r,hs=>by
  obtain ⟨v,h1,h2⟩:=lN h x (hs x (by simp))
  simp only [aU,h1,h2,List.nil_append]
  exact oA h λy hy=>hs y (List.mem_cons_of_mem _ hy)
theorem rn {s:St} {f:Operand} {args:Array Operand} {ts:Array TypeId} (h:aU ⟨s,G,ch⟩ (Op.call {callee:=.value f,args,argTypes:=ts}).operands.toList=[]) {g:FuncId} {l:List AV}
  (he:dF ⟨s,G,ch⟩ {callee:=.value f,args,argTypes:=ts}=some (g,l)):au l=[]:=by
 unfold dF at he
 dsimp only at he
 obtain ⟨fv,h1,he⟩:=ai he
 obtain ⟨vs,h2,he⟩:=ai he
 obtain ⟨v,h3,h4⟩:=lN h f (by simp [Op.operands,Call.operands])
 rw [h1] at h3;cases h3
 have h5:=nB (oA h (m:=args.toList) (by simp +contextual [Op.operands,Call.operands])) h2
 cases fv with
 | fn f' first caps=>
  simp only [Option.some.injEq,Prod.mk.injEq] at he
  obtain ⟨_,rfl⟩:=he
  simp only [AV.keys,List.append_eq_nil_iff] at h4
  simp only [fo,h4.1,h4.2,h5,List.append_nil]
 | _=>simp at he
def ij (O1 O2:List (Nat×AO)):Prop:=∀k,alook O1 k=alook O2 k
theorem ij.put {O1 O2:List (Nat×AO)} (h:ij O1 O2) (k:Nat) (o:AO):ij (aput O1 k o) (aput O2 k o):=λq=>by rw [aV,aV,h q]
theorem my {O1 O2:List (Nat×AO)} (h:ij O1 O2) {v v':AV} {O2':List (Nat×AO)} (he:cg O2 v=some (v',O2')):∃O1',cg O1 v=some (v',O1')/\ij O1' O2':=by
 cases v with
 | msl k sz off n=>
  simp only [cg] at he ⊢
  rw [h k]
  cases ho:alook O2 k with
  | none=>simp [ho] at he
  | some ob=>
   cases ob with
   | arr sz' m get=>
    simp only [ho] at he ⊢
    obtain ⟨hb,he⟩:=ay he
    simp only [Option.some.injEq,Prod.mk.injEq] at he
    obtain ⟨rfl,rfl⟩:=he
    exact ⟨_,by rw [hb];rfl,h.put _ _⟩
   | frz sz' m get=>
    simp only [ho] at he ⊢
    obtain ⟨hb,he⟩:=ay he
    simp only [Option.some.injEq,Prod.mk.injEq] at he
    obtain ⟨rfl,rfl⟩:=he
    exact ⟨_,by rw [hb];rfl,h⟩
   | _=>simp [ho] at he
 | gsl k sz n=>
  simp only [cg] at he ⊢
  rw [h k]
  cases ho:alook O2 k with
  | none=>simp [ho] at he
  | some ob=>
   cases ob with
   | grw sq sz' m get=>
    simp only [ho] at he ⊢
    obtain ⟨hb,he⟩:=ay he
    simp only [Option.some.injEq,Prod.mk.injEq] at he
    obtain ⟨rfl,rfl⟩:=he
    exact ⟨_,by rw [hb];rfl,h.put _ _⟩
   | _=>simp [ho] at he
 | _=>simp only [cg,Option.some.injEq,Prod.mk.injEq] at he ⊢;obtain ⟨rfl,rfl⟩:=he;exact ⟨_,⟨rfl,rfl⟩,h⟩
theorem mv:∀ {l l':List AV} {O1 O2 O2':List (Nat×AO)},ij O1 O2->cC O2 l=some (l',O2')->∃O1',cC O1 l=some (l',O1')/\ij O1' O2'
 | [],l',O1,O2,O2',h,he=>by simp only [cC,Option.some.injEq,Prod.mk.injEq] at he;obtain ⟨rfl,rfl⟩:=he;exact ⟨_,rfl,h⟩
 | v::r,l',O1,O2,O2',h,he=>by
  simp only [cC] at he ⊢
  obtain ⟨⟨v',o1⟩,e1,he⟩:=ai he
  obtain ⟨⟨r',o2⟩,e2,he⟩:=ai he
  simp only [Option.some.injEq,Prod.mk.injEq] at he
  obtain ⟨rfl,rfl⟩:=he
  obtain ⟨p1,g1,g2⟩:=my h e1
  obtain ⟨p2,g3,g4⟩:=mv g2 e2
  exact ⟨p2,by rw [g1];simp only [Option.bind_some];rw [g3];rfl,g4⟩
theorem qX {O1 O2:List (Nat×AO)} (h:ij O1 O2) {v v':AV} {O2':List (Nat×AO)} (he:dE O2 v=some (v',O2')):∃O1',dE O1 v=some (v',O1')/\ij O1' O2':=by
 cases v with
 | agg cs=>
  simp only [dE] at he ⊢
  obtain ⟨⟨l,o⟩,e1,he⟩:=a8 he
  simp only [Prod.mk.injEq] at he
  obtain ⟨rfl,rfl⟩:=he
  obtain ⟨p,g1,g2⟩:=mv h e1
  exact ⟨p,by rw [g1];rfl,g2⟩
 | _=>simp only [dE] at he ⊢;exact my h he
theorem lf:∀ {l l':List AV} {O1 O2 O2':List (Nat×AO)},ij O1 O2->bK O2 l=some (l',O2')->∃O1',bK O1 l=some (l',O1')/\ij O1' O2'
 | [],l',O1,O2,O2',h,he=>by simp only [bK,Option.some.injEq,Prod.mk.injEq] at he;obtain ⟨rfl,rfl⟩:=he;exact ⟨_,rfl,h⟩
 | v::r,l',O1,O2,O2',h,he=>by
  simp only [bK] at he ⊢
  obtain ⟨⟨v',o1⟩,e1,he⟩:=ai he
  obtain ⟨⟨r',o2⟩,e2,he⟩:=ai he
  simp only [Option.some.injEq,Prod.mk.injEq] at he
  obtain ⟨rfl,rfl⟩:=he
  obtain ⟨p1,g1,g2⟩:=qX h e1
  obtain ⟨p2,g3,g4⟩:=lf g2 e2
  exact ⟨p2,by rw [g1];simp only [Option.bind_some];rw [g3];rfl,g4⟩
theorem jj {O1 O2:List (Nat×AO)} (h:ij O1 O2):∀l,bM O1 l=bM O2 l
 | []=>rfl
 | k::r=>by simp only [bM,h k,jj h r]
theorem mq {O1 O2:List (Nat×AO)} (h:ij O1 O2):∀l,cG O1 l=cG O2 l
 | []=>rfl
 | k::r=>by simp only [cG,h k,mq h r]
theorem mh:∀ {ks:List Nat} {l:List AO} {O1 O2:List (Nat×AO)},ij O1 O2->ij (bJ O1 ks l) (bJ O2 ks l)
 | [],l,O1,O2,h=>by cases l <;> exact h
 | k::r,[],O1,O2,h=>h
 | k::r,o::l,O1,O2,h=>mh (ks:=r) (l:=l) (h.put k o)
theorem s8 {X:Cfg} {O1 O2:List (Nat×AO)} (h:ij O1 O2) {f:FuncId} {l:List AV} {b:Bool} {v:AV} {O2':List (Nat×AO)} (he:jy X O2 f l=some (b,v,O2')):∃O1',jy X O1 f l=some (b,v,O1')/\ij O1' O2':=by
 unfold jy at he ⊢
 obtain ⟨⟨l1,o1⟩,h1,he⟩:=ai he
 have hfz:∃p,cond (X.byRef f) (some (l,O1)) (bK O1 l)=some (l1,p)/\ij p o1:=by
  cases hb:X.byRef f with
  | true=>simp only [hb,cond_true,Option.some.injEq,Prod.mk.injEq] at h1;obtain ⟨rfl,rfl⟩:=h1;exact ⟨O1,rfl,h⟩
  | false=>simp only [hb,cond_false] at h1;exact lf h h1
 obtain ⟨p,g1,g2⟩:=hfz
 rw [g1]
 dsimp only [Option.bind_some] at he ⊢
 have e1:bp p (au (bS l1))=bp o1 (au (bS l1)):=by simp only [bp,jj g2]
 obtain ⟨hcl,he⟩:=bD he
 obtain ⟨os,hos,he⟩:=ai he
 obtain ⟨⟨r,os'⟩,hcall,he⟩:=ai he
 obtain ⟨hlen,he⟩:=bD he
 dsimp only at hlen he
 simp only [Option.some.injEq,Prod.mk.injEq] at he
 obtain ⟨rfl,rfl,rfl⟩:=he
 refine ⟨bJ p _ _,?_,mh g2⟩
 rw [e1,jj g2,hcl,mq g2,hos]
 simp only [cond_true,Option.bind_some]
 rw [hcall]
 simp only [Option.bind_some,hlen,cond_true]
theorem oq {X:Cfg} {o:Oper} (h1:cm o.op=true) (hO:ij s1.objs s2.objs) (h:fD s1 s2 (cQ o.op.operands.toList)) {b:Bool} {v:AV} {O':List (Nat×AO)} (he:ey X s2 o=some (b,v,O')) :
  ∃O1',ey X s1 o=some (b,v,O1')/\ij O1' O':=by
 cases hop:o.op with
 | call q=>
  obtain ⟨callee,args,ts⟩:=q
  cases callee with
  | value f=>
   rw [hop] at h
   simp only [ey,hop] at he ⊢
   obtain ⟨⟨g,l⟩,e1,he⟩:=ai he
   obtain ⟨p,g1,g2⟩:=s8 hO he
   rw [fN h,e1]
   exact ⟨p,by simp only [Option.bind_some];rw [g1],g2⟩
  | builtin b=>simp [hop,cm] at h1
  | invoke r m=>simp [hop,cm] at h1
 | _=>simp [hop,cm] at h1
theorem sL {x:AV} (h:eM s1 s2 x.keys):vn s1 x=vn s2 x:=by
 cases x with
 | aref k sz i off=>simp only [vn];rw [h k (by simp [AV.keys])]
 | _=>rfl
theorem rJ {P:Program} {d:Nat} {t:TypeId} {x:AV} (hd:s1.obj d=s2.obj d) (h:eM s1 s2 x.keys):p9 P s1 d t x=p9 P s2 d t x:=by
 cases x with
 | aref k sz i off=>simp only [p9];rw [h k (by simp [AV.keys]),hd]
 | _=>rfl
theorem uR {P:Program} {s:St} {d:Nat} {t:TypeId} {x v:AV} {b:Bool} {us:List (Nat×AO)} (h:p9 P s d t x=some (b,v,us)):∀p∈us,p.1∈x.keys∨p.1=d:=by
 unfold p9 at h
 split at h
 ·rename_i k sz1 i off
  split at h
  ·cases hb:(qp P t&&(Nat.beq sz1 1&&Nat.beq off 0)) with
   | false=>simp [hb] at h
   | true=>
    simp only [hb,cond_true,Option.some.injEq,Prod.mk.injEq] at h
    obtain ⟨_,_,rfl⟩:=h
    intro p hp
    simp only [List.mem_cons,List.not_mem_nil,or_false] at hp
    rcases hp with rfl | rfl
    ·exact .inl (by simp [AV.keys])
    ·exact .inr rfl
  ·cases h
 ·cases h
theorem sP {P:Program} {t:TypeId} {x v:AV} (h:eM s1 s2 x.keys) (h':eM s1 s2 v.keys):qV P s1 t x v=qV P s2 t x v:=by
 cases x with
 | aref k sz i off=>
  cases v with
  | sl o sz n get=>
   cases o with
   | key d=>simp only [qV];rw [h k (by simp [AV.keys]),h' d (by simp [AV.keys])]
   | _=>rfl
  | _=>rfl
 | _=>cases v <;> rfl
theorem vo {P:Program} {s:St} {t:TypeId} {x v:AV} {b:Bool} {us:List (Nat×AO)} (h:qV P s t x v=some (b,us)):∀p∈us,p.1∈x.keys∨p.1∈v.keys:=by
 unfold qV at h
 split at h
 ·rename_i k sz1 i off d sz m row
  split at h
  ·rename_i sz' n g j sz2 m2 hk hd
   cases hb:(aA P t==some 1&&(Nat.beq sz1 1&&(Nat.beq off 0&&(Nat.beq sz sz'&&Nat.beq sz2 sz')))) with
   | false=>simp [hb] at h
   | true=>
    simp only [hb,cond_true,Option.some.injEq,Prod.mk.injEq] at h
    obtain ⟨_,rfl⟩:=h
    intro p hp
    simp only [List.mem_cons,List.not_mem_nil,or_false] at hp
    rcases hp with rfl | rfl
    ·exact .inr (by simp [AV.keys])
    ·exact .inl (by simp [AV.keys])
  ·cases h
 ·cases h
theorem oc {d:Nat} (h:s1.obj d=s2.obj d) (P:Program) (t:TypeId) (same:Bool) (x v:AV):gw P s1 d t same x v=gw P s2 d t same x v:=by
 unfold gw
 rw [iW h]
theorem qL {P:Program} {s:St} {d:Nat} {t:TypeId} {same:Bool} {x y v:AV} {b:Bool} {k:Nat} {ob:AO} (h:gw P s d t same x y=some (b,v,k,ob)):k=d:=by
 unfold gw at h
 split at h
 ·rename_i e hu
  split at h
  ·split at h
   ·rename_i sz z z1 f _ _ hz1
    cases hb:(same&&Nat.blt 0 sz) with
    | false=>simp [hb] at h
    | true=>
     simp only [hb,cond_true] at h
     obtain ⟨⟨b',v',k',ob'⟩,h1,h⟩:=ai h
     dsimp only at h
     split at h
     ·simp only [Option.some.injEq,Prod.mk.injEq] at h
      obtain ⟨_,_,rfl,_⟩:=h
      exact (j5 hu hz1 h1).1
     ·cases h
   ·cases h
  ·cases h
 ·cases h
theorem rh {X:Cfg} {o:Oper} (h1:(c8 o.op||fF X o)=true) (h:fD s1 s2 (cQ o.op.operands.toList)) (hK:eM s1 s2 (jZ o.dst.toList++aU ⟨s2,X.G,[]⟩ o.op.operands.toList)) {b:Bool} {v:AV} {O':List (Nat×AO)} (he:ey X s2 o=some (b,v,O')) :
  ∃us:List (Nat×AO),(∀p∈us,p.1∈jZ o.dst.toList++aU ⟨s2,X.G,[]⟩ o.op.operands.toList)/\O'=pc s2.objs us/\ey X s1 o=some (b,v,pc s1.objs us):=by
 suffices hs:(∃q ob,q∈jZ o.dst.toList++aU ⟨s2,X.G,[]⟩ o.op.operands.toList/\O'=aput s2.objs q ob/\ey X s1 o=some (b,v,aput s1.objs q ob))∨(∃us:List (Nat×AO),(∀p∈us,p.1∈jZ o.dst.toList++aU ⟨s2,X.G,[]⟩ o.op.operands.toList)/\O'=pc s2.objs us/\ey X s1 o=some (b,v,pc s1.objs us)) by
  rcases hs with ⟨q,ob,g1,g2,g3⟩ | hs
  ·exact ⟨[(q,ob)],λp hp=>by simp only [List.mem_singleton] at hp;subst hp;exact g1,g2,g3⟩
  ·exact hs
 have E:∀ {x:Operand},x∈o.op.operands.toList->aP ⟨s1,X.G,[]⟩ x=aP ⟨s2,X.G,[]⟩ x:=fun {x} hx=>ef (h.sub (m:=[x]) (by simpa using hx))
 have K:∀ {x:Operand} {v:AV},x∈o.op.operands.toList->aP ⟨s2,X.G,[]⟩ x=some v->∀k∈v.keys,k∈jZ o.dst.toList++aU ⟨s2,X.G,[]⟩ o.op.operands.toList:=fun {x v} hx hv k hk=>List.mem_append_right _ (lO hv hx k hk)
 have D:∀d,o.dst=some d->d∈jZ o.dst.toList++aU ⟨s2,X.G,[]⟩ o.op.operands.toList:=λd hd=>List.mem_append_left _ (by rw [hd];simp [jZ])
 have D':∀d,o.dst=some d->d+500000∈jZ o.dst.toList++aU ⟨s2,X.G,[]⟩ o.op.operands.toList:=λd hd=>List.mem_append_left _ (by rw [hd];simp [jZ])
 cases hop:o.op with
 | alloc t=>
  simp only [ey,hop] at he ⊢
  cases hdst:o.dst with
  | none=>simp [hdst] at he
  | some d=>
   simp only [hdst] at he ⊢
   rw [hK d (D d hdst)]
   cases hob:s2.obj d with
   | some _=>simp [hob] at he
   | none=>
    simp only [hob] at he ⊢
    obtain ⟨ob,e1,e2⟩:=a8 he
    simp only [Prod.mk.injEq] at e2
    obtain ⟨rfl,rfl,rfl⟩:=e2
    exact .inl ⟨d,ob,by simp [jZ],rfl,by rw [e1];rfl⟩
 | box t x=>
  have hE:=E (x:=x) (by simp [hop,Op.operands])
  simp only [ey,hop] at he ⊢
  cases hdst:o.dst with
  | none=>simp [hdst] at he
  | some d=>
   simp only [hdst] at he ⊢
   rw [hK d (D d hdst),hE]
   cases hob:s2.obj d with
   | some _=>simp [hob] at he
   | none=>
    simp only [hob] at he ⊢
    obtain ⟨u,e1,he⟩:=ai he
    rw [e1]
    simp only [Option.bind_some]
    cases u with
    | arr sz n get=>
     dsimp only at he ⊢
     obtain ⟨hb,he⟩:=ay he
     simp only [Option.some.injEq,Prod.mk.injEq] at he
     obtain ⟨rfl,rfl,rfl⟩:=he
     exact .inl ⟨d,_,by simp [jZ],rfl,by rw [hb];rfl⟩
    | _=>
     dsimp only at he ⊢
     obtain ⟨hb,he⟩:=ay he
     simp only [Option.some.injEq,Prod.mk.injEq] at he
     obtain ⟨rfl,rfl,rfl⟩:=he
     exact .inl ⟨d,_,by simp [jZ],rfl,by rw [hb];rfl⟩
 | range t x=>
  have hE:=E (x:=x) (by simp [hop,Op.operands])
  simp only [ey,hop] at he ⊢
  cases hdst:o.dst with
  | none=>simp [hdst] at he
  | some d=>
   simp only [hdst] at he ⊢
   rw [hK d (D d hdst),hE]
   cases hob:s2.obj d with
   | some _=>simp [hob] at he
   | none=>
    simp only [hob] at he ⊢
    obtain ⟨u,e1,he⟩:=ai he
    rw [e1]
    simp only [Option.bind_some]
    split at he
    ·rename_i bs ht
     simp only [Option.some.injEq,Prod.mk.injEq] at he
     obtain ⟨rfl,rfl,rfl⟩:=he
     exact .inl ⟨d,_,by simp [jZ],rfl,rfl⟩
    ·simp at he
 | next x isS=>
  have hE:=E (x:=x) (by simp [hop,Op.operands])
  have hKx:∀ {v:AV},aP ⟨s2,X.G,[]⟩ x=some v->∀k∈v.keys,k∈jZ o.dst.toList++aU ⟨s2,X.G,[]⟩ o.op.operands.toList:=fun {v}=>K (x:=x) (v:=v) (by simp [hop,Op.operands])
  rw [hop] at hK hKx
  simp only [ey,hop] at he ⊢
  rw [hE]
  obtain ⟨u,e1,he'⟩:=ai he
  clear he
  have hku:=hKx e1
  rw [e1]
  simp only [Option.bind_some]
  split at he'
  ·rename_i q
   have he:=he'
   clear he'
   have hq:=hku q (by simp [AV.keys])
   split at he
   ·rename_i bs pos hob
    simp only [Option.some.injEq,Prod.mk.injEq] at he
    obtain ⟨rfl,rfl,rfl⟩:=he
    exact .inl ⟨q,_,hq,rfl,by simp only [hK q hq,hob]⟩
   ·simp at he
  ·simp at he'
 | load t x=>
  cases hgw:X.grow o with
  | false=>simp [hop,c8,fF,hgw] at h1
  | true=>
   have hE:=E (x:=x) (by simp [hop,Op.operands])
   have hKx:∀ {v:AV},aP ⟨s2,X.G,[]⟩ x=some v->∀k∈v.keys,k∈jZ o.dst.toList++aU ⟨s2,X.G,[]⟩ o.op.operands.toList:=fun {v}=>K (x:=x) (v:=v) (by simp [hop,Op.operands])
   simp only [ey,hop,hgw,cond_true] at he ⊢
   cases hdst:o.dst with
   | none=>simp [hdst] at he
   | some d=>
    simp only [hdst] at he ⊢
    rw [hE]
    obtain ⟨u,e1,he⟩:=ai he
    obtain ⟨⟨b',v',us⟩,e3,he⟩:=a8 he
    simp only [Prod.mk.injEq] at he
    obtain ⟨rfl,rfl,rfl⟩:=he
    rw [e1]
    simp only [Option.bind_some]
    have hku:=hKx e1
    rw [rJ (hK d (D d hdst)) (λk hk=>hK k (hku k hk)),e3]
    refine .inr ⟨us,λp hp=>?_,rfl,rfl⟩
    rw [<-hop,<-hdst]
    rcases uR e3 p hp with h' | h'
    ·exact hku _ h'
    ·rw [h'];exact D d hdst
 | store t x y=>
  have hE:=E (x:=x) (by simp [hop,Op.operands])
  have hE':=E (x:=y) (by simp [hop,Op.operands])
  have hKx:∀ {v:AV},aP ⟨s2,X.G,[]⟩ x=some v->∀k∈v.keys,k∈jZ o.dst.toList++aU ⟨s2,X.G,[]⟩ o.op.operands.toList:=fun {v}=>K (x:=x) (v:=v) (by simp [hop,Op.operands])
  have hKy:∀ {v:AV},aP ⟨s2,X.G,[]⟩ y=some v->∀k∈v.keys,k∈jZ o.dst.toList++aU ⟨s2,X.G,[]⟩ o.op.operands.toList:=fun {v}=>K (x:=y) (v:=v) (by simp [hop,Op.operands])
  simp only [ey,hop] at he ⊢
  rw [hE,hE']
  obtain ⟨u,e1,he⟩:=ai he
  obtain ⟨q,e2,he⟩:=ai he
  rw [e1,e2]
  simp only [Option.bind_some]
  have hku:=hKx e1
  have hkv:=hKy e2
  rw [sL (λk hk=>hK k (hku k hk))]
  cases hm:vn s2 u with
  | true=>
   simp only [hm,cond_true] at he ⊢
   obtain ⟨⟨b',us⟩,e3,he⟩:=a8 he
   simp only [Prod.mk.injEq] at he
   obtain ⟨rfl,rfl,rfl⟩:=he
   rw [sP (λk hk=>hK k (hku k hk)) (λk hk=>hK k (hkv k hk)),e3]
   refine .inr ⟨us,λp hp=>?_,rfl,rfl⟩
   rw [<-hop]
   exact (vo e3 p hp).elim (hku _) (hkv _)
  | false=>
  simp only [hm,cond_false] at he ⊢
  obtain ⟨⟨b',k,ob⟩,e3,he⟩:=a8 he
  simp only [Prod.mk.injEq] at he
  obtain ⟨rfl,rfl,rfl⟩:=he
  rw [qd (λk hk=>hK k (hku k hk)),e3]
  refine .inl ⟨k,ob,?_,rfl,rfl⟩
  have hk:k∈u.keys:=by
   cases u with
   | ref k' off=>
    have:k=k':=by
     simp only [fU] at e3
     cases ho:s2.obj k' with
     | none=>simp [ho] at e3
     | some o'=>
      cases o' with
      | cells cs=>
       simp only [ho] at e3
       obtain ⟨_,e3⟩:=ay e3
       obtain ⟨_,_,e3⟩:=a8 e3
       simp only [Prod.mk.injEq] at e3;exact e3.2.1.symm
      | arr sz n get=>
       simp only [ho] at e3
       cases q <;> simp only [] at e3 <;> first
        | (cases e3;done)
        | (obtain ⟨_,e3⟩:=ay e3;simp only [Option.some.injEq,Prod.mk.injEq] at e3;exact e3.2.1.symm)
      | _=>simp [ho] at e3
    simp [AV.keys,this]
   | aref k' sz' i off=>
    have:k=k':=by
     simp only [fU] at e3
     cases ho:s2.obj k' with
     | none=>simp [ho] at e3
     | some o'=>
      cases o' with
      | arr sz n get=>
       simp only [ho] at e3
       obtain ⟨_,e3⟩:=ay e3
       obtain ⟨_,_,e3⟩:=a8 e3
       simp only [Prod.mk.injEq] at e3;exact e3.2.1.symm
      | _=>simp [ho] at e3
    simp [AV.keys,this]
   | gref k' sz' n' i off=>
    have:k=k':=by
     simp only [fU] at e3
     cases ho:s2.obj k' with
     | none=>simp [ho] at e3
     | some o'=>
      cases o' with
      | grw sq sz n get=>
       simp only [ho] at e3
       obtain ⟨_,e3⟩:=ay e3
       obtain ⟨_,e3⟩:=ay e3
       simp only [Option.some.injEq,Prod.mk.injEq] at e3;exact e3.2.1.symm
      | _=>simp [ho] at e3
    simp [AV.keys,this]
   | _=>simp [fU] at e3
  rw [<-hop];exact hku k hk
 | makeSlice t x y=>
  have hE:=E (x:=x) (by simp [hop,Op.operands])
  have hE':=E (x:=y) (by simp [hop,Op.operands])
  simp only [ey,hop] at he ⊢
  rw [hE,hE']
  cases hdst:o.dst with
  | none=>simp [hdst] at he
  | some d=>
   simp only [hdst] at he ⊢
   obtain ⟨u,e1,he⟩:=ai he
   obtain ⟨q,e2,he⟩:=ai he
   obtain ⟨⟨b',v',k,ob⟩,e3,he⟩:=a8 he
   simp only [Prod.mk.injEq] at he
   obtain ⟨rfl,rfl,rfl⟩:=he
   rw [e1,e2]
   simp only [Option.bind_some]
   cases hle:X.lend o with
   | true=>
    simp only [hle,cond_true] at e3 ⊢
    rw [oc (hK d (D d hdst)),e3]
    exact .inl ⟨k,ob,by simp [qL e3,jZ],rfl,rfl⟩
   | false=>
   simp only [hle,cond_false] at e3 ⊢
   rw [iW (hK d (D d hdst)),e3]
   have hk:k=d:=by
    clear he hE hE' e1 e2
    unfold dk at e3
    split at e3
    ·rename_i e l m hu
     split at e3
     ·obtain ⟨_,e3⟩:=ay e3
      generalize w0 x y=same at e3
      cases same with
      | true=>simp only [cond_true,Option.some.injEq,Prod.mk.injEq] at e3;exact e3.2.2.1.symm
      | false=>simp only [cond_false,Option.some.injEq,Prod.mk.injEq] at e3;exact e3.2.2.1.symm
     ·cases e3
    ·cases e3
   exact .inl ⟨k,ob,by simp [hk,jZ],rfl,rfl⟩
 | makeMap t r=>
  cases r with
  | some r=>simp [hop,c8,fF] at h1
  | none=>
   simp only [ey,hop] at he ⊢
   cases hdst:o.dst with
   | none=>simp [hdst] at he
   | some d=>
    simp only [hdst] at he ⊢
    rw [hK d (D d hdst)]
    cases hob:s2.obj d with
    | some _=>simp [hob] at he
    | none=>
     simp only [hob] at he ⊢
     split at he
     ·obtain ⟨z,e0,he⟩:=ai he
      obtain ⟨q,e1,he⟩:=a8 he
      simp only [Prod.mk.injEq] at he
      obtain ⟨rfl,rfl,rfl⟩:=he
      exact .inl ⟨d,_,by simp [jZ],rfl,by rw [e0,Option.bind_some,e1];rfl⟩
     ·simp at he
 | lookup t x i ok=>
  have hE:=E (x:=x) (by simp [hop,Op.operands])
  have hE':=E (x:=i) (by simp [hop,Op.operands])
  have hKx:∀ {v:AV},aP ⟨s2,X.G,[]⟩ x=some v->∀k∈v.keys,k∈jZ o.dst.toList++aU ⟨s2,X.G,[]⟩ o.op.operands.toList:=fun {v}=>K (x:=x) (v:=v) (by simp [hop,Op.operands])
  rw [hop] at hK hKx
  simp only [ey,hop] at he ⊢
  rw [hE,hE']
  obtain ⟨u,e1,he⟩:=ai he
  obtain ⟨q,e2,he⟩:=ai he
  obtain ⟨r,e3,he⟩:=a8 he
  simp only [Prod.mk.injEq] at he
  obtain ⟨rfl,rfl,rfl⟩:=he
  have hku:=hKx e1
  rcases xn e3 with ⟨k,ob,hk,hob⟩ | _
  ·refine .inl ⟨k,ob,hku k hk,(nW hob).symm,?_⟩
   rw [e1,e2]
   simp only [Option.bind_some]
   rw [ny (λk hk=>hK k (hku k hk)),e3]
   have h1o:alook s1.objs k=some ob:=(hK k (hku k hk)).trans hob
   rw [nW h1o];rfl
  ·refine .inr ⟨[],λp hp=>(List.not_mem_nil hp).elim,rfl,?_⟩
   rw [e1,e2]
   simp only [Option.bind_some]
   rw [ny (λk hk=>hK k (hku k hk)),e3];rfl
 | mapUpdate t x i w=>
  have hE:=E (x:=x) (by simp [hop,Op.operands])
  have hE':=E (x:=i) (by simp [hop,Op.operands])
  have hE2:=E (x:=w) (by simp [hop,Op.operands])
  have hKx:∀ {v:AV},aP ⟨s2,X.G,[]⟩ x=some v->∀k∈v.keys,k∈jZ o.dst.toList++aU ⟨s2,X.G,[]⟩ o.op.operands.toList:=fun {v}=>K (x:=x) (v:=v) (by simp [hop,Op.operands])
  rw [hop] at hK hKx
  simp only [ey,hop] at he ⊢
  rw [hE,hE',hE2]
  obtain ⟨u,e1,he⟩:=ai he
  obtain ⟨q,e2,he⟩:=ai he
  obtain ⟨r,e4,he⟩:=ai he
  obtain ⟨⟨k,ob⟩,e3,he⟩:=a8 he
  simp only [Prod.mk.injEq] at he
  obtain ⟨rfl,rfl,rfl⟩:=he
  have hku:=hKx e1
  refine .inl ⟨k,ob,hku k (nw e3),rfl,?_⟩
  rw [e1,e2,e4]
  simp only [Option.bind_some]
  rw [kQ (λk hk=>hK k (hku k hk)),e3];rfl
 | insert t x i w=>
  have hE:=E (x:=x) (by simp [hop,Op.operands])
  have hE':=E (x:=i) (by simp [hop,Op.operands])
  have hE2:=E (x:=w) (by simp [hop,Op.operands])
  have hKx:∀ {v:AV},aP ⟨s2,X.G,[]⟩ x=some v->∀k∈v.keys,k∈jZ o.dst.toList++aU ⟨s2,X.G,[]⟩ o.op.operands.toList:=fun {v}=>K (x:=x) (v:=v) (by simp [hop,Op.operands])
  rw [hop] at hK hKx
  simp only [ey,hop] at he ⊢
  rw [hE,hE',hE2]
  obtain ⟨u,e1,he⟩:=ai he
  obtain ⟨q,e2,he⟩:=ai he
  obtain ⟨r,e4,he⟩:=ai he
  obtain ⟨⟨k,ob⟩,e3,he⟩:=a8 he
  simp only [Prod.mk.injEq] at he
  obtain ⟨rfl,rfl,rfl⟩:=he
  have hku:=hKx e1
  refine .inl ⟨k,ob,hku k (nw e3),rfl,?_⟩
  rw [e1,e2,e4]
  simp only [Option.bind_some]
  rw [kQ (λk hk=>hK k (hku k hk)),e3];rfl
 | call q=>
  obtain ⟨callee,args,ts⟩:=q
  cases callee with
  | builtin bi=>
   cases bi with
   | delete=>
    have hl:cY ⟨s1,X.G,[]⟩ args.toList=cY ⟨s2,X.G,[]⟩ args.toList:=eh (h.sub (by rw [hop];simp +contextual [Op.operands,Call.operands]))
    simp only [ey,hop] at he ⊢
    split at he
    ·rename_i t t' hts
     obtain ⟨l,e1,he⟩:=ai he
     rw [hl,e1]
     have hkeys':∀k∈au l,k∈jZ o.dst.toList++aU ⟨s2,X.G,[]⟩ o.op.operands.toList:=by
       have aux:∀ (as:List Operand) (l:List AV),cY ⟨s2,X.G,[]⟩ as=some l->∀k∈au l,k∈aU ⟨s2,X.G,[]⟩ as:=by
        intro as
        induction as with
        | nil=>intro l hl k hk;simp [cY] at hl;subst hl;simp [au] at hk
        | cons x r ih=>
         intro l hl k hk
         simp only [cY] at hl
         obtain ⟨v,g1,hl⟩:=ai hl
         obtain ⟨l',g2,hl⟩:=a8 hl
         subst hl
         simp only [au,List.mem_append] at hk
         simp only [aU,g1,List.mem_append]
         rcases hk with hk | hk
         ·exact .inl hk
         ·exact .inr (ih l' g2 k hk)
       intro k hk
       have:=aux _ _ e1 k hk
       refine List.mem_append_right _ ?_
       rw [hop]
       simpa [Op.operands,Call.operands] using this
     split at he
     ·rename_i x i
      obtain ⟨⟨k,ob⟩,e3,he⟩:=a8 he
      simp only [Prod.mk.injEq] at he
      obtain ⟨rfl,rfl,rfl⟩:=he
      have hkeys:∀k∈x.keys,k∈jZ o.dst.toList++aU ⟨s2,X.G,[]⟩ o.op.operands.toList:=λk hk=>hkeys' k (by simp only [au,List.mem_append];exact .inl hk)
      refine .inl ⟨k,ob,?_,rfl,?_⟩
      ·rw [<-hop];exact hkeys k (sx e3)
      ·simp only [Option.bind_some]
       rw [pg (λk hk=>hK k (hkeys k hk)),e3];rfl
     ·cases he
    ·cases he
   | append=>
    have hl:cY ⟨s1,X.G,[]⟩ args.toList=cY ⟨s2,X.G,[]⟩ args.toList:=eh (h.sub (by rw [hop];simp +contextual [Op.operands,Call.operands]))
    simp only [ey,hop] at he ⊢
    split at he
    ·rename_i d t t' hdst hts
     obtain ⟨hb,he⟩:=ay he
     obtain ⟨l,e1,he⟩:=ai he
     rw [hl,e1,hb]
     have hkeys':∀k∈au l,k∈jZ o.dst.toList++aU ⟨s2,X.G,[]⟩ o.op.operands.toList:=by
       have aux:∀ (as:List Operand) (l:List AV),cY ⟨s2,X.G,[]⟩ as=some l->∀k∈au l,k∈aU ⟨s2,X.G,[]⟩ as:=by
        intro as
        induction as with
        | nil=>intro l hl k hk;simp [cY] at hl;subst hl;simp [au] at hk
        | cons x r ih=>
         intro l hl k hk
         simp only [cY] at hl
         obtain ⟨v,g1,hl⟩:=ai hl
         obtain ⟨l',g2,hl⟩:=a8 hl
         subst hl
         simp only [au,List.mem_append] at hk
         simp only [aU,g1,List.mem_append]
         rcases hk with hk | hk
         ·exact .inl hk
         ·exact .inr (ih l' g2 k hk)
       intro k hk
       have:=aux _ _ e1 k hk
       refine List.mem_append_right _ ?_
       rw [hop]
       simpa [Op.operands,Call.operands] using this
     split at he
     ·rename_i x bs
      have hkeys:∀k∈x.keys,k∈jZ o.dst.toList++aU ⟨s2,X.G,[]⟩ o.op.operands.toList:=λk hk=>hkeys' k (by simp only [au,List.mem_append];exact .inl hk)
      obtain ⟨hst,he⟩:=ay he
      obtain ⟨⟨b',v',k,ob⟩,e3,he⟩:=a8 he
      simp only [Prod.mk.injEq] at he
      obtain ⟨rfl,rfl,rfl⟩:=he
      simp only [aq,cond_true,Option.bind_some,hst]
      rw [pP (hK d (D d hdst)) (λk hk=>hK k (hkeys k hk)),e3]
      refine .inl ⟨k,ob,?_,rfl,rfl⟩
      rw [<-hop]
      rcases tp e3 with rfl | hk
      ·exact List.mem_append_left _ (by simp [hdst,jZ])
      ·exact hkeys k hk
     ·rename_i x y _
      have hkeys:∀k∈au [x,y],k∈jZ o.dst.toList++aU ⟨s2,X.G,[]⟩ o.op.operands.toList:=hkeys'
      obtain ⟨hb',he2⟩:=ay he
      clear he
      have he:=he2
      have hsx:eM s1 s2 x.keys:=λk hk=>hK k (hkeys k (by simp only [au,List.mem_append];exact .inl hk))
      have hsy:eM s1 s2 y.keys:=λk hk=>hK k (hkeys k (by simp only [au,List.mem_append];exact .inr (.inl hk)))
      simp only [aq,cond_true,Option.bind_some,hb']
      cases hgs:xG x with
      | true=>
       rw [hgs,cond_true] at he
       obtain ⟨⟨b',v',us⟩,e3,he⟩:=a8 he
       simp only [Prod.mk.injEq] at he
       obtain ⟨rfl,rfl,rfl⟩:=he
       rw [cond_true,pT (hK d (D d hdst)) (hK (d+500000) (D' d hdst)) hsx hsy,e3]
       refine .inr ⟨us,λp hp=>?_,rfl,rfl⟩
       rw [<-hop]
       rcases rB e3 p hp with hk | hk | hk
       ·exact hkeys _ (by simp only [au,List.mem_append];exact .inl hk)
       ·rw [hk];exact D d hdst
       ·rw [hk];exact D' d hdst
      | false=>
      rw [hgs,cond_false] at he
      obtain ⟨⟨b',v',k,ob⟩,e3,he⟩:=a8 he
      simp only [Prod.mk.injEq] at he
      obtain ⟨rfl,rfl,rfl⟩:=he
      rw [cond_false,pV (hK d (D d hdst)) hsx hsy,pR (hK d (D d hdst)) hsx hsy,e3]
      refine .inl ⟨k,ob,?_,rfl,rfl⟩
      have hk:k=d∨k∈x.keys:=by
       cases hgr:(Bp x||X.grow o) with
       | true=>
        rw [hgr,cond_true] at e3
        unfold ky at e3
        split at e3
        ·split at e3
         ·rename_i sz z inf sz2 m get2 _ _ _ _
          obtain ⟨_,e3⟩:=ay e3
          split at e3
          ·obtain ⟨_,e3⟩:=ay e3
           split at e3
           ·simp only [Option.some.injEq,Prod.mk.injEq] at e3;exact .inl e3.2.2.1.symm
           ·cases e3
          ·obtain ⟨_,e3⟩:=ay e3
           split at e3
           ·obtain ⟨_,e3⟩:=ay e3
            simp only [Option.some.injEq,Prod.mk.injEq] at e3;exact .inr (by simp [AV.keys,e3.2.2.1])
           ·cases e3
          ·cases e3
         ·cases e3
        ·cases e3
       | false=>
        rw [hgr,cond_false] at e3
        unfold kz at e3
        split at e3
        ·split at e3
         ·rename_i ow sz0 n get sz2 m get2 _ _ _ _
          obtain ⟨_,e3⟩:=ay e3
          cases ow with
          | no=>cases e3
          | nl=>cases e3
          | nn=>cases e3
          | fit=>
           simp only [] at e3
           split at e3
           ·simp only [Option.some.injEq,Prod.mk.injEq] at e3;exact .inl e3.2.2.1.symm
           ·cases e3
          | key k'=>
           simp only [] at e3
           split at e3
           ·obtain ⟨_,e3⟩:=ay e3
            simp only [Option.some.injEq,Prod.mk.injEq] at e3;exact .inr (by simp [AV.keys,e3.2.2.1])
           ·cases e3
         ·cases e3
        ·cases e3
      rw [<-hop]
      rcases hk with rfl | hk
      ·exact List.mem_append_left _ (by simp [hdst,jZ])
      ·exact hkeys k (by simp only [au,List.mem_append];exact .inl hk)
     ·cases he
    ·cases he
   | _=>simp [hop,c8,fF] at h1
  | _=>simp [hop,c8,fF] at h1
 | _=>simp [hop,c8,fF] at h1
theorem lq:∀ {n t:Nat} {w:Bool},fD s1 s2 ((b9 s2 n t w).map (·.1))->b9 s1 n t w=b9 s2 n t w
 | 0,_,_,_=>rfl
 | n+1,t,w,h=>by
  have ht:s1.get t=s2.get t:=h t (by simp [b9])
  simp only [b9] at h ⊢
  rw [ht]
  cases hg:s2.get t with
  | none=>rfl
  | some u=>
   cases u with
   | grd tc wc u'=>
    simp only [hg] at h ⊢
    rw [lq (n:=n) λq hq=>h q (by simp only [List.map_cons,List.mem_cons];exact .inr hq)]
   | _=>rfl
theorem mo:∀ {ch:fw},fD s1 s2 (ch.map (·.1))->gW s1 ch=gW s2 ch
 | [],_=>rfl
 | (t,w)::r,h=>by
  have ht:s1.get t=s2.get t:=h t (by simp)
  simp only [gW]
  rw [ht,mo (ch:=r) λq hq=>h q (by simp only [List.map_cons,List.mem_cons];exact .inr hq)]
theorem qa {O1 O2:List (Nat×AO)}:∀ {l:List Nat},(∀k∈l,alook O1 k=alook O2 k)->kB l (p3 O2)=true->kB l (p3 O1)=true
 | [],_,_=>rfl
 | k::r,h,he=>by
  simp only [kB,Bool.and_eq_true] at he ⊢
  refine ⟨any_beq.2 (xq ?_),qa (λq hq=>h q (List.mem_cons_of_mem _ hq)) he.2⟩
  obtain ⟨o,ho⟩:=eK (any_beq.1 he.1)
  exact ⟨o,by rw [h k (by simp)];exact ho⟩
theorem vy {X:Cfg} {o:Oper} {t:Nat} {w:Bool} {b:Bool} {v:AV} (he:oJ X s2 o t w=some (b,v)) (h:fD s1 s2 ((b9 s2 4 t w).map (·.1)++cQ o.op.operands.toList))
  (ho:eM s1 s2 (cond (iu o.op) (aU ⟨s2,X.G,b9 s2 4 t w⟩ o.op.operands.toList) []++v.keys)):oJ X s1 o t w=some (b,v):=by
 have hc:fD s1 s2 ((b9 s2 4 t w).map (·.1)):=λq hq=>h q (List.mem_append_left _ hq)
 have hop':fD s1 s2 (cQ o.op.operands.toList):=λq hq=>h q (List.mem_append_right _ hq)
 have e1:=lq hc
 have e2:=mo hc
 have hp:(gW s2 (b9 s2 4 t w)).bind (λg=>(bW X.P ⟨s2,X.G,b9 s2 4 t w⟩ o.op).bind λr=>aq (kB r.2.keys (p3 s2.objs)) (some (cond r.1 true (!g),r.2)))=some (b,v)->
   (gW s1 (b9 s1 4 t w)).bind (λg=>(bW X.P ⟨s1,X.G,b9 s1 4 t w⟩ o.op).bind λr=>aq (kB r.2.keys (p3 s1.objs)) (some (cond r.1 true (!g),r.2)))=some (b,v):=by
  intro he
  rw [e1,e2,np X.P hop' (λk hk=>ho k (List.mem_append_left _ hk))]
  obtain ⟨g,f1,he⟩:=ai he
  obtain ⟨⟨b',v'⟩,f2,he⟩:=ai he
  obtain ⟨f3,he⟩:=ay he
  simp only [Option.some.injEq,Prod.mk.injEq] at he
  obtain ⟨rfl,rfl⟩:=he
  rw [f1,f2]
  simp only [Option.bind_some]
  rw [qa (λk hk=>ho k (List.mem_append_right _ hk)) f3];rfl
 cases hop:o.op with
 | call q=>
  obtain ⟨callee,args,ts⟩:=q
  cases callee with
  | value f=>simp only [oJ,hop] at he ⊢;rw [e1,fN (by rw [<-hop];exact hop')];exact he
  | _=>simp only [oJ,hop] at he ⊢;rw [hop] at hp;exact hp he
 | _=>simp only [oJ,hop] at he ⊢;rw [hop] at hp;exact hp he
end
end Go.Ab

namespace Go.Ab
open Go Go.RowKit
variable {P:Program} {B:Base} {c:Cx} {s:St} {a:Act}
theorem kO {d k:Nat}:∀ {m n i:Nat},m<=n->k∈dn d i m->k∈dn d i n
 | 0,_,_,_,h=>by simp [dn] at h
 | m+1,0,_,hm,_=>by omega
 | m+1,n+1,i,hm,h=>by
  simp only [dn,List.mem_cons] at h ⊢
  rcases h with h | h
  ·exact .inl h
  ·exact .inr (kO (by omega) h)
theorem mi {s1 s2:St} {G:Nat->Option (List AV)} {ch:fw}:∀ {l:List Operand},fD s1 s2 (cQ l)->aU ⟨s1,G,ch⟩ l=aU ⟨s2,G,ch⟩ l
 | [],_=>rfl
 | x::r,h=>by
  have h1:aP ⟨s1,G,ch⟩ x=aP ⟨s2,G,ch⟩ x:=ef λt ht=>h t (by cases x <;> simp_all [cQ])
  have h2:aU ⟨s1,G,ch⟩ r=aU ⟨s2,G,ch⟩ r:=mi λt ht=>h t (by cases x <;> simp_all [cQ])
  simp only [aU,h1,h2]
theorem j9 {O1 O2:List (Nat×AO)}:∀ {l:List Nat},(∀k∈l,alook O1 k=alook O2 k)->dW O1 l=dW O2 l
 | [],_=>rfl
 | k::r,h=>by
  simp only [dW,h k (by simp)]
  cases alook O2 k with
  | some _=>rfl
  | none=>exact j9 λq hq=>h q (by simp [hq])
theorem wq {X:Cfg} {o:Oper} {k:St->Res} {r:AV×List AO} (he:uV X s o k=some r):∃v objs',yj X s o=some (true,v,objs')/\k (s.after o.dst v objs')=some r:=by
 rw [oY] at he
 obtain ⟨⟨b,v,objs'⟩,h1,he⟩:=ai he
 obtain ⟨rfl,he⟩:=ay he
 exact ⟨v,objs',h1,he⟩
theorem uC {X:Cfg} {s2:St} {o:Oper} {v:AV} {O':List (Nat×AO)} (he:yj X s2 o=some (true,v,O')) :
  ∃d m os,o.dst=some d/\m<=4/\os.length=m/\dW s2.objs (dn d 0 m)=true/\cm o.op=true/\O'=bJ s2.objs (dn d 0 m) os/\aU ⟨s2,X.G,[]⟩ o.op.operands.toList=[]/\c8 o.op=false /\
   ∀s1:St,fD s1 s2 (cQ o.op.operands.toList)->(∀k∈dn d 0 m,s1.obj k=s2.obj k)->yj X s1 o=some (true,v,bJ s1.objs (dn d 0 m) os):=by
 unfold yj at he
 split at he
 ·rename_i f args ts d ho hd
  obtain ⟨⟨g,l⟩,e1,he⟩:=ai he
  obtain ⟨hg,he⟩:=ay he
  obtain ⟨⟨r,os⟩,e2,he⟩:=ai he
  obtain ⟨hf,he⟩:=ay he
  simp only [Option.some.injEq,Prod.mk.injEq] at he
  obtain ⟨hp,rfl,rfl⟩:=he
  have hg0:=hg
  simp only [Bool.and_eq_true] at hg hf
  refine ⟨d,os.length,_,hd,by simpa using hf.2.1,by simp,hf.2.2,by rw [ho];rfl,rfl,jR hg.1,by rw [ho];rfl,λs1 ht hk=>?_⟩
  have hk1:=mi (G:=X.G) (ch:=[]) ht
  have hf1:dW s1.objs (dn d 0 os.length)=true:=(j9 hk).trans hf.2.2
  unfold yj
  rw [hd]
  have e1':=e1
  rw [ho] at ht
  rw [<-fN ht] at e1'
  split
  ·rename_i f' args' ts' d' ho' hd'
   rw [ho] at ho'
   cases ho'
   cases hd'
   rw [e1',Option.bind_some,hk1,hg0]
   dsimp only
   rw [e2]
   dsimp only [Option.bind_some,aq]
   rw [hf1,hf.1,hf.2.1,hp];rfl
  ·rename_i hno
   exact absurd ho (λh=>hno _ _ _ _ h rfl)
 ·cases he
theorem Ei {X:Cfg} {o:Oper} {v:AV} {O':List (Nat×AO)} (he:yj X s o=some (true,v,O')):BS X s o=some (true,v,O'):=by
 unfold yj at he
 split at he
 ·rename_i f args ts d ho hd
  obtain ⟨⟨g,l⟩,e1,he⟩:=ai he
  obtain ⟨hg,he⟩:=ay he
  obtain ⟨⟨r,os⟩,e2,he⟩:=ai he
  obtain ⟨hf,he⟩:=ay he
  simp only [Option.some.injEq,Prod.mk.injEq] at he
  obtain ⟨hp,rfl,rfl⟩:=he
  simp only [Bool.and_eq_true,Bool.not_eq_true'] at hg hf
  have hk:=jR hg.1
  rw [ho] at hk
  have hl:=rn hk e1
  have h1:(cond (X.byRef g) (some (l,s.objs)) (bK s.objs l))=some (l,s.objs):=by cases X.byRef g <;> simp [mr hl]
  have h2:bp s.objs []=[]:=rfl
  have h0:Nat.beq os.length 0=false:=by
   cases os with
   | nil=>simp at hf
   | cons _ _=>rfl
  simp only [BS,ho]
  rw [e1,Option.bind_some,hg.2,cond_false]
  unfold l5
  rw [h1]
  simp only [Option.bind_some,kG l hl,hl,h2,bM,kB,cond_true,cG,List.map_nil,ir _ l hl,List.length_nil]
  rw [e2,Option.bind_some,hd]
  dsimp only
  rw [h0,cond_false,hf.1,Nat.sub_zero,hf.2.2,hp]
  rfl
 ·cases he
inductive One (X:Cfg) (ops:Array Oper) (o:Oper) (s:St):St->Prop
 | plain (v:AV) (objs':List (Nat×AO)):o.guard=none->ey X s o=some (true,v,objs')->One X ops o s (s.after o.dst v objs')
 | born (v:AV) (objs':List (Nat×AO)):o.guard=none->X.born o=true->yj X s o=some (true,v,objs')->One X ops o s (s.after o.dst v objs')
 | guarded (j t d:Nat) (w:Bool) (v:AV):o.guard=some (j,w)->(ops[j]?).bind (·.dst)=some t->o.dst=some d->d≠t->oJ X s o t w=some (true,v)->One X ops o s (s.put (some d) (.grd t w v))
theorem One.other {X:Cfg} {ops:Array Oper} {o:Oper} {s s':St} (h:One X ops o s s') {t:Nat} (ht:o.dst≠some t):s'.get t=s.get t:=by
 cases h with
 | plain v objs' _ _=>rw [dR,if_neg ht]
 | born v objs' _ _ _=>rw [dR,if_neg ht]
 | guarded j t' d w v _ _ hd _ _=>rw [St.dD,if_neg];rintro rfl;exact ht hd
structure Trace (X:Cfg) (ops:Array Oper) (st:Nat->St):Prop where
 step:∀i o,ops[i]?=some o->One X ops o (st i) (st (i+1))
 later:∀ (i:Nat) (o:Oper) (j t:Nat) (w:Bool),ops[i]?=some o->o.guard=some (j,w)->(ops[j]?).bind (·.dst)=some t->∀ (k:Nat) (q:Oper),i < k->ops[k]?=some q->q.dst≠some t
theorem ng {X:Cfg} {ops:Array Oper} {K:List Fp->St->Res} {r:AV×List AO}:∀ (rest:List Oper) (i:Nat) (acc:List Fp) (s:St),(∀j,rest[j]?=ops[i+j]?)->eT X ops rest i acc s K=some r->
  ∃st:Nat->St,st i=s/\(∀q o,i<=q->ops[q]?=some o->One X ops o (st q) (st (q+1))) /\
   (∀q o j t w,i<=q->ops[q]?=some o->o.guard=some (j,w)->(ops[j]?).bind (·.dst)=some t->∀k p,q < k->ops[k]?=some p->p.dst≠some t) /\
   ∃fps,K (acc++fps) (st (i+rest.length))=some r/\fps.length=rest.length/\∀q o,i<=q->ops[q]?=some o->fps[q - i]?=some (dw X (st q) ops q o)
 | [],i,acc,s,hops,he=>by
  have hno:∀q o,i<=q->ops[q]?≠some o:=λq o hq h=>by
   have:=hops (q - i)
   rw [show i+(q - i)=q by omega,h] at this;simp at this
  refine ⟨λ_=>s,rfl,λq o hq h=>absurd h (hno q o hq),λq o _ _ _ hq h=>absurd h (hno q o hq),[],by simpa [eT] using he,rfl,λq o hq h=>absurd h (hno q o hq)⟩
 | o::rest,i,acc,s,hops,he=>by
  have hoi:ops[i]?=some o:=by have:=hops 0;simpa using this.symm
  have hrest:∀j,rest[j]?=ops[i+1+j]?:=λj=>by
   have:=hops (j+1)
   rw [Nat.add_assoc,Nat.add_comm 1 j];simpa using this
  have main:∀s',One X ops o s s'->eT X ops rest (i+1) (acc++[dw X s ops i o]) s' K=some r->
    (∀j t w,o.guard=some (j,w)->(ops[j]?).bind (·.dst)=some t->∀p∈rest,p.dst≠some t)->
    ∃st:Nat->St,st i=s/\(∀q o,i<=q->ops[q]?=some o->One X ops o (st q) (st (q+1))) /\
   (∀q o j t w,i<=q->ops[q]?=some o->o.guard=some (j,w)->(ops[j]?).bind (·.dst)=some t->∀k p,q < k->ops[k]?=some p->p.dst≠some t) /\
   ∃fps,K (acc++fps) (st (i+(o::rest).length))=some r/\fps.length=(o::rest).length/\∀q o,i<=q->ops[q]?=some o->fps[q - i]?=some (dw X (st q) ops q o):=by
   intro s' hone he' hlat
   obtain ⟨st,h1,h2,h3,fps,h4,h5,h6⟩:=ng rest (i+1) _ s' hrest he'
   have hst:∀q,i+1<=q->(if q<=i then s else st q)=st q:=λq hq=>if_neg (by omega)
   refine ⟨λq=>if q<=i then s else st q,by simp,λq p hq hp=>?_,λq p j t w hq hp hg ht k p' hk hp'=>?_,dw X s ops i o::fps,?_,by simp [h5],λq p hq hp=>?_⟩
   ·by_cases e:q=i
    ·subst e
     rw [hoi] at hp;cases hp
     simp only [Nat.le_refl,if_true]
     rw [if_neg (by omega),h1];exact hone
    ·simp only [hst q (by omega),hst (q+1) (by omega)]
     exact h2 q p (by omega) hp
   ·by_cases e:q=i
    ·subst e
     rw [hoi] at hp;cases hp
     have hm:=hrest (k - (q+1))
     rw [show q+1+(k - (q+1))=k by omega,hp'] at hm
     exact hlat j t w hg ht p' (List.mem_of_getElem? hm)
    ·exact h3 q p j t w (by omega) hp hg ht k p' hk hp'
   ·have e:i+(o::rest).length=i+1+rest.length:=by simp;omega
    simp only [e]
    rw [if_neg (by omega)]
    simpa [List.append_assoc] using h4
   ·by_cases e:q=i
    ·subst e
     rw [hoi] at hp;cases hp
     simp
    ·have:=h6 q p (by omega) hp
     simp only [hst q (by omega)]
     rw [show q - i=(q - (i+1))+1 by omega]
     simpa using this
  simp only [eT] at he
  cases hg:o.guard with
  | none=>
   simp only [hg] at he
   cases hb:X.born o with
   | true=>
    rw [hb,cond_true] at he
    obtain ⟨v,objs',e1,e2⟩:=wq he
    exact main _ (.born v objs' hg hb e1) e2 (λj t w h=>by rw [hg] at h;cases h)
   | false=>
    rw [hb,cond_false] at he
    obtain ⟨v,objs',e1,e2⟩:=wm he
    exact main _ (.plain v objs' hg e1) e2 (λj t w h=>by rw [hg] at h;cases h)
  | some jw=>
   obtain ⟨j,w⟩:=jw
   simp only [hg] at he
   cases ht:(ops[j]?).bind (·.dst) with
   | none=>simp [ht] at he
   | some t=>
    simp only [ht] at he
    obtain ⟨hany,he⟩:=l6 he
    obtain ⟨d,v,hd,hdt,e1,e2⟩:=qh he
    refine main _ (.guarded j t d w v hg ht hd hdt e1) e2 (λj' t' w' h ht' p hp=>?_)
    rw [hg] at h;cases h
    rw [ht] at ht';cases ht'
    have:=List.any_eq_false.1 hany p hp
    simpa using this
theorem gI:∀ {l:List Oper} {seen:List Nat},gZ l seen=true->(∀ (i:Nat) (o:Oper) (d:Nat),l[i]?=some o->o.dst=some d->d ∉ seen) /\
  ∀ (i j:Nat) (o q:Oper) (d:Nat),l[i]?=some o->l[j]?=some q->o.dst=some d->q.dst=some d->i=j
 | [],seen,_=>⟨by simp,by simp⟩
 | p::r,seen,h=>by
  simp only [gZ] at h
  cases hd:p.dst with
  | none=>
   simp only [hd] at h
   obtain ⟨h1,h2⟩:=gI h
   refine ⟨λi o d hi ho=>?_,λi j o q d hi hj ho hq=>?_⟩
   ·cases i with
    | zero=>simp at hi;subst hi;rw [hd] at ho;cases ho
    | succ i=>exact h1 i o d (by simpa using hi) ho
   ·cases i with
    | zero=>simp at hi;subst hi;rw [hd] at ho;cases ho
    | succ i=>
     cases j with
     | zero=>simp at hj;subst hj;rw [hd] at hq;cases hq
     | succ j=>rw [h2 i j o q d (by simpa using hi) (by simpa using hj) ho hq]
  | some e=>
   simp only [hd,Bool.and_eq_true,Bool.not_eq_true'] at h
   obtain ⟨h1,h2⟩:=gI h.2
   have hseen:e ∉ seen:=λhm=>by rw [any_beq.2 hm] at h;simp at h
   refine ⟨λi o d hi ho=>?_,λi j o q d hi hj ho hq=>?_⟩
   ·cases i with
    | zero=>simp at hi;subst hi;rw [hd] at ho;cases ho;exact hseen
    | succ i=>exact λhm=>h1 i o d (by simpa using hi) ho (List.mem_cons_of_mem _ hm)
   ·cases i with
    | zero=>
     simp at hi;subst hi;rw [hd] at ho;cases ho
     cases j with
     | zero=>rfl
     | succ j=>exact absurd (List.mem_cons_self) (h1 j q e (by simpa using hj) hq)
    | succ i=>
     cases j with
     | zero=>simp at hj;subst hj;rw [hd] at hq;cases hq;exact absurd (List.mem_cons_self) (h1 i o e (by simpa using hi) ho)
     | succ j=>rw [h2 i j o q d (by simpa using hi) (by simpa using hj) ho hq]
theorem mz:∀ {l:List Oper} {i:Nat},pG l i=true->∀ (j:Nat) (o:Oper),l[j]?=some o->∀e∈o.after,Region.binds .any e=true->e.on < i+j
 | [],_,_,j,o,h=>by simp at h
 | p::r,i,h,j,o,hj=>by
  simp only [pG,Bool.and_eq_true] at h
  cases j with
  | zero=>simp at hj;subst hj;intro e he hb;have:=Array.all_eq_true_iff_forall_mem.1 h.1 e he;rw [hb,cond_true] at this;exact ltB this
  | succ j=>intro e he hb;have:=mz h.2 j o (by simpa using hj) e he hb;omega
theorem oG {bits:List Nat}:∀ {l:List Fp},zd bits l=true->∀ (i j:Nat) (x y:Fp),i < j->l[i]?=some x->l[j]?=some y->(bits.getD y.i 0).testBit x.i=true∨j8 x y=true
 | [],_,i,j,x,y,_,h,_=>by simp at h
 | p::r,h,i,j,x,y,hij,hi,hj=>by
  simp only [zd,Bool.and_eq_true] at h
  cases j with
  | zero=>omega
  | succ j=>
   cases i with
   | zero=>
    simp at hi;subst hi
    have:=List.all_eq_true.1 h.1 y (List.mem_of_getElem? (by simpa using hj))
    simpa using this
   | succ i=>exact oG h.2 i j x y (by omega) (by simpa using hi) (by simpa using hj)
theorem iJ {acc:List Nat}:∀ {l:List Edge} {k:Nat},(eZ acc l).testBit k=true->∃e∈l,Region.binds .any e=true/\(k=e.on∨(acc.getD e.on 0).testBit k=true)
 | [],k,h=>by simp [eZ] at h
 | e::r,k,h=>by
  simp only [eZ] at h
  cases hb:Region.binds .any e with
  | false=>
   simp only [hb,cond_false] at h
   obtain ⟨e',h1,h2⟩:=iJ h
   exact ⟨e',List.mem_cons_of_mem _ h1,h2⟩
  | true=>
   simp only [hb,cond_true] at h
   have hor:∀x y:Nat,Nat.lor x y=x ||| y:=λ_ _=>rfl
   simp only [hor,Nat.testBit_or,Bool.or_eq_true,Nat.testBit_two_pow,decide_eq_true_eq] at h
   rcases h with (h | h) | h
   ·exact ⟨e,by simp,hb,.inl h.symm⟩
   ·exact ⟨e,by simp,hb,.inr h⟩
   ·obtain ⟨e',h1,h2⟩:=iJ h
    exact ⟨e',List.mem_cons_of_mem _ h1,h2⟩
theorem mB {S:Nat->Prop} {ops:Array Oper} (hS:∀i o,S i->ops[i]?=some o->∀e∈o.after,Region.binds .any e=true->S e.on) :
  ∀ (rest:List Oper) (acc:List Nat),(∀j,rest[j]?=ops[acc.length+j]?)->
   (∀j o,j < acc.length->ops[j]?=some o->(∀e∈o.after,Region.binds .any e=true->S e.on)->∀k,(acc.getD j 0).testBit k=true->S k)->
   ∀j o,ops[j]?=some o->(∀e∈o.after,Region.binds .any e=true->S e.on)->∀k,((iL rest acc).getD j 0).testBit k=true->S k
 | [],acc,hops,hacc,j,o,ho,hr,k,hk=>by
  by_cases hj:j < acc.length
  ·exact hacc j o hj ho hr k hk
  ·have:=hops (j - acc.length)
   rw [show acc.length+(j - acc.length)=j by omega,ho] at this;simp at this
 | p::rest,acc,hops,hacc,j,o,ho,hr,k,hk=>by
  have e:iL (p::rest) acc=iL rest (acc++[eZ acc p.after.toList]):=by
   simp only [iL]
   cases eZ acc p.after.toList <;> rfl
  rw [e] at hk
  have hp:ops[acc.length]?=some p:=by have:=hops 0;simpa using this.symm
  refine mB hS rest _ (λj=>by have:=hops (j+1);rw [List.length_append,List.length_singleton,Nat.add_assoc,Nat.add_comm 1 j];simpa using this) ?_ j o ho hr k hk
  intro j q hj hq hrq k hk
  by_cases hlt:j < acc.length
  ·rw [List.getD_eq_getElem?_getD,List.getElem?_append_left hlt,<-List.getD_eq_getElem?_getD] at hk
   exact hacc j q hlt hq hrq k hk
  ·have hj':j=acc.length:=by simp at hj;omega
   subst hj'
   rw [hp] at hq;cases hq
   have:(acc++[eZ acc p.after.toList]).getD acc.length 0=eZ acc p.after.toList:=by simp
   rw [this] at hk
   obtain ⟨ed,h1,h2,h3⟩:=iJ hk
   have hSe:=hrq ed (by simpa using h1) h2
   rcases h3 with rfl | h3
   ·exact hSe
   ·by_cases hl:ed.on < acc.length
    ·have ho':ops[ed.on]?=some (ops[ed.on]'(by have:=(Array.getElem?_eq_some_iff.1 hp).1;omega)):=Array.getElem?_eq_getElem _
     exact hacc ed.on _ hl ho' (λe' he' hb'=>hS _ _ hSe ho' e' he' hb') k h3
    ·have:acc.getD ed.on 0=0:=by simp [List.getD_eq_getElem?_getD,List.getElem?_eq_none (by omega:acc.length<=ed.on)]
     rw [this] at h3;simp at h3
end Go.Ab

namespace Go.Ab
open Go Go.RowKit
structure Loc (K:Nat->Prop) (O1 O2 p1 p2:List (Nat×AO)):Prop where
 on:∀k,K k->alook p1 k=alook p2 k
 off1:∀k,¬ K k->alook p1 k=alook O1 k
 off2:∀k,¬ K k->alook p2 k=alook O2 k
 bare:∀k ob,K k->alook p2 k=some ob->∀q∈ob.keys,K q
variable {K:Nat->Prop}
theorem Loc.start {O1 O2:List (Nat×AO)} (h:∀k,K k->alook O1 k=alook O2 k) (hb:∀k ob,K k->alook O2 k=some ob->∀q∈ob.keys,K q):Loc K O1 O2 O1 O2:=⟨h,λ_ _=>rfl,λ_ _=>rfl,hb⟩
theorem Loc.trans {O1 O2 p1 p2 q1 q2:List (Nat×AO)} (h:Loc K O1 O2 p1 p2) (g:Loc K p1 p2 q1 q2):Loc K O1 O2 q1 q2:=
 ⟨g.on,λk hk=>(g.off1 k hk).trans (h.off1 k hk),λk hk=>(g.off2 k hk).trans (h.off2 k hk),g.bare⟩
theorem Loc.put {O1 O2 p1 p2:List (Nat×AO)} (h:Loc K O1 O2 p1 p2) {k:Nat} (hk:K k) {o:AO} (ho:o.keys=[]):Loc K O1 O2 (aput p1 k o) (aput p2 k o):=by
 refine ⟨λq hq=>?_,λq hq=>?_,λq hq=>?_,λq ob hq he=>?_⟩
 ·rw [aV,aV,h.on q hq]
 ·rw [aV,if_neg (by rintro rfl;exact hq hk),h.off1 q hq]
 ·rw [aV,if_neg (by rintro rfl;exact hq hk),h.off2 q hq]
 ·rw [aV] at he
  split at he
  ·simp only [Option.some.injEq] at he;subst he;rw [ho];simp
  ·exact h.bare q ob hq he
theorem nL {O1 O2 p1 p2:List (Nat×AO)} (h:Loc K O1 O2 p1 p2) {v v':AV} (hv:∀k∈v.keys,K k) {q2:List (Nat×AO)} (he:cg p2 v=some (v',q2)):∃q1,cg p1 v=some (v',q1)/\Loc K O1 O2 q1 q2/\∀k∈v'.keys,K k:=by
 cases v with
 | msl k sz off n=>
  have hk:K k:=hv k (by simp [AV.keys])
  simp only [cg] at he ⊢
  rw [h.on k hk]
  cases ho:alook p2 k with
  | none=>simp [ho] at he
  | some ob=>
   cases ob with
   | arr sz' m get=>
    simp only [ho] at he ⊢
    obtain ⟨hb,he⟩:=ay he
    simp only [Option.some.injEq,Prod.mk.injEq] at he
    obtain ⟨rfl,rfl⟩:=he
    exact ⟨_,by rw [hb];rfl,h.put hk rfl,by simp [AV.keys]⟩
   | frz sz' m get=>
    simp only [ho] at he ⊢
    obtain ⟨hb,he⟩:=ay he
    simp only [Option.some.injEq,Prod.mk.injEq] at he
    obtain ⟨rfl,rfl⟩:=he
    exact ⟨_,by rw [hb];rfl,h,by simp [AV.keys]⟩
   | _=>simp [ho] at he
 | gsl k sz n=>
  have hk:K k:=hv k (by simp [AV.keys])
  simp only [cg] at he ⊢
  rw [h.on k hk]
  cases ho:alook p2 k with
  | none=>simp [ho] at he
  | some ob=>
   cases ob with
   | grw sq sz' m get=>
    simp only [ho] at he ⊢
    obtain ⟨hb,he⟩:=ay he
    simp only [Option.some.injEq,Prod.mk.injEq] at he
    obtain ⟨rfl,rfl⟩:=he
    exact ⟨_,by rw [hb];rfl,h.put hk (qW _ _ _ _),by simp [AV.keys]⟩
   | _=>simp [ho] at he
 | _=>simp only [cg,Option.some.injEq,Prod.mk.injEq] at he ⊢;obtain ⟨rfl,rfl⟩:=he;exact ⟨_,⟨rfl,rfl⟩,h,hv⟩
theorem nH:∀ {l l':List AV} {O1 O2 p1 p2 q2:List (Nat×AO)},Loc K O1 O2 p1 p2->(∀k∈au l,K k)->cC p2 l=some (l',q2)->∃q1,cC p1 l=some (l',q1)/\Loc K O1 O2 q1 q2/\∀k∈au l',K k
 | [],l',O1,O2,p1,p2,q2,h,hv,he=>by simp only [cC,Option.some.injEq,Prod.mk.injEq] at he;obtain ⟨rfl,rfl⟩:=he;exact ⟨_,rfl,h,hv⟩
 | v::r,l',O1,O2,p1,p2,q2,h,hv,he=>by
  simp only [cC] at he ⊢
  simp only [au,List.mem_append] at hv
  obtain ⟨⟨v',o1⟩,e1,he⟩:=ai he
  obtain ⟨⟨r',o2⟩,e2,he⟩:=ai he
  simp only [Option.some.injEq,Prod.mk.injEq] at he
  obtain ⟨rfl,rfl⟩:=he
  obtain ⟨x1,g1,g2,g3⟩:=nL h (λk hk=>hv k (.inl hk)) e1
  obtain ⟨x2,g4,g5,g6⟩:=nH g2 (λk hk=>hv k (.inr hk)) e2
  refine ⟨x2,by rw [g1];simp only [Option.bind_some];rw [g4];rfl,g5,λk hk=>?_⟩
  simp only [au,List.mem_append] at hk
  exact hk.elim (g3 k) (g6 k)
theorem sT {O1 O2 p1 p2:List (Nat×AO)} (h:Loc K O1 O2 p1 p2) {v v':AV} (hv:∀k∈v.keys,K k) {q2:List (Nat×AO)} (he:dE p2 v=some (v',q2)):∃q1,dE p1 v=some (v',q1)/\Loc K O1 O2 q1 q2/\∀k∈v'.keys,K k:=by
 cases v with
 | agg cs=>
  simp only [dE] at he ⊢
  simp only [AV.keys] at hv
  obtain ⟨⟨l,o⟩,e1,he⟩:=a8 he
  simp only [Prod.mk.injEq] at he
  obtain ⟨rfl,rfl⟩:=he
  obtain ⟨p,g1,g2,g3⟩:=nH h hv e1
  exact ⟨p,by rw [g1];rfl,g2,λk hk=>g3 k (by simpa [AV.keys] using hk)⟩
 | _=>simp only [dE] at he ⊢;exact nL h hv he
theorem mu:∀ {l l':List AV} {O1 O2 p1 p2 q2:List (Nat×AO)},Loc K O1 O2 p1 p2->(∀k∈au l,K k)->bK p2 l=some (l',q2)->∃q1,bK p1 l=some (l',q1)/\Loc K O1 O2 q1 q2/\∀k∈au l',K k
 | [],l',O1,O2,p1,p2,q2,h,hv,he=>by simp only [bK,Option.some.injEq,Prod.mk.injEq] at he;obtain ⟨rfl,rfl⟩:=he;exact ⟨_,rfl,h,hv⟩
 | v::r,l',O1,O2,p1,p2,q2,h,hv,he=>by
  simp only [bK] at he ⊢
  simp only [au,List.mem_append] at hv
  obtain ⟨⟨v',o1⟩,e1,he⟩:=ai he
  obtain ⟨⟨r',o2⟩,e2,he⟩:=ai he
  simp only [Option.some.injEq,Prod.mk.injEq] at he
  obtain ⟨rfl,rfl⟩:=he
  obtain ⟨x1,g1,g2,g3⟩:=sT h (λk hk=>hv k (.inl hk)) e1
  obtain ⟨x2,g4,g5,g6⟩:=mu g2 (λk hk=>hv k (.inr hk)) e2
  refine ⟨x2,by rw [g1];simp only [Option.bind_some];rw [g4];rfl,g5,λk hk=>?_⟩
  simp only [au,List.mem_append] at hk
  exact hk.elim (g3 k) (g6 k)
theorem iy {O1 O2:List (Nat×AO)} (h:∀k,K k->alook O1 k=alook O2 k) (hb:∀k ob,K k->alook O2 k=some ob->∀q∈ob.keys,K q):∀l,(∀k∈l,K k)->bM O1 l=bM O2 l/\∀q∈bM O2 l,K q
 | [],_=>⟨rfl,by simp [bM]⟩
 | k::r,hl=>by
  obtain ⟨h1,h2⟩:=iy h hb r λq hq=>hl q (List.mem_cons_of_mem _ hq)
  simp only [bM]
  rw [h1,h k (hl k (by simp))]
  refine ⟨rfl,λq hq=>?_⟩
  rcases List.mem_append.1 hq with hq | hq
  ·cases ho:alook O2 k with
   | none=>rw [ho] at hq;simp at hq
   | some ob=>rw [ho] at hq;exact hb k ob (hl k (by simp)) ho q hq
  ·exact h2 q hq
theorem nE {O1 O2:List (Nat×AO)} (h:∀k,K k->alook O1 k=alook O2 k):∀l,(∀k∈l,K k)->cG O1 l=cG O2 l
 | [],_=>rfl
 | k::r,hl=>by simp only [cG,h k (hl k (by simp)),nE h r λq hq=>hl q (List.mem_cons_of_mem _ hq)]
theorem vf {O1 O2:List (Nat×AO)} (h:∀k,K k->alook O1 k=alook O2 k) (hb:∀k ob,K k->alook O2 k=some ob->∀q∈ob.keys,K q) {l:List Nat} (hl:∀k∈l,K k):bp O1 l=bp O2 l/\∀k∈bp O2 l,K k:=by
 have hadd:∀ {a m:List Nat},a.Nodup->(∀k∈a,K k)->(∀k∈m,K k)->∀k∈dJ a m,K k:=λhn ha hm k hk=>(((da _ _ hn).2 k).1 hk).elim (ha k) (hm k)
 have h1:∀k∈dJ [] l,K k:=hadd List.nodup_nil (by simp) hl
 obtain ⟨e1,m1⟩:=iy h hb _ h1
 have n1:=(da l [] List.nodup_nil).1
 have h2:=hadd n1 h1 m1
 obtain ⟨e2,m2⟩:=iy h hb _ h2
 have n2:=(da (bM O2 (dJ [] l)) _ n1).1
 refine ⟨?_,?_⟩
 ·simp only [bp];rw [e1,e2]
 ·simp only [bp];exact hadd n2 h2 m2
theorem vz {X:Cfg} {O1 O2:List (Nat×AO)} (h:∀k,K k->alook O1 k=alook O2 k) (hb:∀k ob,K k->alook O2 k=some ob->∀q∈ob.keys,K q) {f:FuncId} {l:List AV} (hl:∀k∈au l,K k) {b:Bool} {v:AV} {O2':List (Nat×AO)} (he:jy X O2 f l=some (b,v,O2')) :
  ∃O1',jy X O1 f l=some (b,v,O1')/\(∀k,K k->alook O1' k=alook O2' k)/\(∀k,¬ K k->alook O1' k=alook O1 k)/\(∀k,¬ K k->alook O2' k=alook O2 k):=by
 unfold jy at he ⊢
 obtain ⟨⟨l1,o1⟩,h1,he⟩:=ai he
 have hfz:∃p,cond (X.byRef f) (some (l,O1)) (bK O1 l)=some (l1,p)/\Loc K O1 O2 p o1/\∀k∈au l1,K k:=by
  cases hb':X.byRef f with
  | true=>simp only [hb',cond_true,Option.some.injEq,Prod.mk.injEq] at h1;obtain ⟨rfl,rfl⟩:=h1;exact ⟨O1,rfl,Loc.start h hb,hl⟩
  | false=>simp only [hb',cond_false] at h1;exact mu (Loc.start h hb) hl h1
 obtain ⟨p,g1,g2,g3⟩:=hfz
 rw [g1]
 dsimp only [Option.bind_some] at he ⊢
 have g4:∀k∈au (bS l1),K k:=λk hk=>g3 k (jK l1 k hk)
 obtain ⟨e1,r2⟩:=vf g2.on g2.bare g4
 obtain ⟨e3,_⟩:=iy g2.on g2.bare _ r2
 have hnd:(bp o1 (au (bS l1))).Nodup:=(ea o1 (au (bS l1))).1
 obtain ⟨hcl,he⟩:=bD he
 obtain ⟨os,hos,he⟩:=ai he
 obtain ⟨⟨r,os'⟩,hcall,he⟩:=ai he
 obtain ⟨hlen,he⟩:=bD he
 dsimp only at hlen he
 simp only [Option.some.injEq,Prod.mk.injEq] at he
 obtain ⟨rfl,rfl,rfl⟩:=he
 generalize hks:bp o1 (au (bS l1))=ks at *
 have hlen':(os'.map (AO.ren λk=>eP ks (k - ae))).length=ks.length:=by rw [List.length_map];exact du hlen
 refine ⟨bJ p ks (os'.map (AO.ren λk=>eP ks (k - ae))),?_,λk hk=>?_,λk hk=>?_,λk hk=>?_⟩
 ·rw [e1,e3,hcl,nE g2.on _ r2,hos]
  simp only [cond_true,Option.bind_some]
  rw [hcall]
  simp only [Option.bind_some,hlen,cond_true]
 ·rw [bU hnd hlen',bU hnd hlen',g2.on k hk]
 ·rw [bU hnd hlen',if_neg λhm=>hk (r2 k hm),g2.off1 k hk]
 ·rw [bU hnd hlen',if_neg λhm=>hk (r2 k hm),g2.off2 k hk]
theorem jq {G:Nat->Option (List AV)} {ch:fw} {s:St}:∀ {l:List Operand} {vs:List AV},cY ⟨s,G,ch⟩ l=some vs->∀k∈au vs,k∈aU ⟨s,G,ch⟩ l
 | [],vs,h,k,hk=>by simp [cY] at h;subst h;simp [au] at hk
 | x::r,vs,h,k,hk=>by
  simp only [cY] at h
  obtain ⟨v,h1,h⟩:=ai h
  obtain ⟨l,h2,h⟩:=a8 h
  subst h
  simp only [au,List.mem_append] at hk
  simp only [aU,h1,List.mem_append]
  exact hk.imp id (jq h2 k)
theorem ti {G:Nat->Option (List AV)} {ch:fw} {s:St} {f:Operand} {args:Array Operand} {ts:Array TypeId} {g:FuncId} {l:List AV}
  (he:dF ⟨s,G,ch⟩ {callee:=.value f,args,argTypes:=ts}=some (g,l)):∀k∈au l,k∈aU ⟨s,G,ch⟩ (Op.call {callee:=.value f,args,argTypes:=ts}).operands.toList:=by
 unfold dF at he
 dsimp only at he
 obtain ⟨fv,h1,he⟩:=ai he
 obtain ⟨vs,h2,he⟩:=ai he
 have hm:∀ (l:List Operand) (x:Operand) (v:AV),x∈l->aP ⟨s,G,ch⟩ x=some v->∀k∈v.keys,k∈aU ⟨s,G,ch⟩ l:=by
  intro l
  induction l with
  | nil=>intro x v hx;simp at hx
  | cons y r ih=>
   intro x v hx hv k hk
   simp only [aU,List.mem_append]
   rcases List.mem_cons.1 hx with rfl | hx
   ·left;rw [hv];exact hk
   ·exact .inr (ih x v hx hv k hk)
 have hsub:∀ (l m:List Operand),(∀x∈m,x∈l)->(∀x∈m,∃v,aP ⟨s,G,ch⟩ x=some v)->∀k∈aU ⟨s,G,ch⟩ m,k∈aU ⟨s,G,ch⟩ l:=by
  intro l m
  induction m with
  | nil=>intro _ _ k hk;simp [aU] at hk
  | cons y r ih=>
   intro hx hv k hk
   obtain ⟨v,hv'⟩:=hv y (by simp)
   simp only [aU,hv',List.mem_append] at hk
   rcases hk with hk | hk
   ·exact hm l y v (hx y (by simp)) hv' k hk
   ·exact ih (λx h=>hx x (List.mem_cons_of_mem _ h)) (λx h=>hv x (List.mem_cons_of_mem _ h)) k hk
 have hev:∀ (m:List Operand) (vs:List AV),cY ⟨s,G,ch⟩ m=some vs->∀x∈m,∃v,aP ⟨s,G,ch⟩ x=some v:=by
  intro m
  induction m with
  | nil=>intro vs _ x hx;simp at hx
  | cons y r ih=>
   intro vs h x hx
   simp only [cY] at h
   obtain ⟨v,h1,h⟩:=ai h
   obtain ⟨l,h2,h⟩:=a8 h
   rcases List.mem_cons.1 hx with rfl | hx
   ·exact ⟨v,h1⟩
   ·exact ih l h2 x hx
 cases fv with
 | fn f' first caps=>
  simp only [Option.some.injEq,Prod.mk.injEq] at he
  obtain ⟨_,rfl⟩:=he
  intro k hk
  simp only [fo,List.mem_append] at hk
  have hf:∀k∈(AV.fn f' first caps).keys,k∈aU ⟨s,G,ch⟩ (Op.call {callee:=.value f,args,argTypes:=ts}).operands.toList:=hm _ f _ (by simp [Op.operands,Call.operands]) h1
  rcases hk with (hk | hk) | hk
  ·exact hf k (by simp [AV.keys,hk])
  ·exact hsub _ args.toList (by simp +contextual [Op.operands,Call.operands]) (hev _ _ h2) k (jq h2 k hk)
  ·exact hf k (by simp [AV.keys,hk])
 | _=>simp at he
variable {s1 s2:St}
theorem uY {O:List (Nat×AO)} {R:List Nat} (hb:oZ O R=true):∀k ob,k∈R->alook O k=some ob->∀q∈ob.keys,q∈R:=λ_ _ hk ho q hq=>bH hb q (dd hk ho q hq)
theorem oK {X:Cfg} {o:Oper} (h1:cm o.op=true) (h:fD s1 s2 (cQ o.op.operands.toList)) (hb:oZ s2.objs (bp s2.objs (aU ⟨s2,X.G,[]⟩ o.op.operands.toList))=true)
  (hK:∀k∈bp s2.objs (aU ⟨s2,X.G,[]⟩ o.op.operands.toList),s1.obj k=s2.obj k) {b:Bool} {v:AV} {O':List (Nat×AO)} (he:ey X s2 o=some (b,v,O')) :
  ∃O1',ey X s1 o=some (b,v,O1')/\(∀k∈bp s2.objs (aU ⟨s2,X.G,[]⟩ o.op.operands.toList),alook O1' k=alook O' k)/\(∀k,k ∉ bp s2.objs (aU ⟨s2,X.G,[]⟩ o.op.operands.toList)->alook O1' k=alook s1.objs k) /\
   (∀k,k ∉ bp s2.objs (aU ⟨s2,X.G,[]⟩ o.op.operands.toList)->alook O' k=alook s2.objs k):=by
 cases hop:o.op with
 | call q=>
  obtain ⟨callee,args,ts⟩:=q
  cases callee with
  | value f=>
   rw [hop] at h hb hK
   simp only [ey,hop] at he ⊢
   obtain ⟨⟨g,l⟩,e1,he⟩:=ai he
   have hl:=ti e1
   have hR:=(ea s2.objs (aU ⟨s2,X.G,[]⟩ (Op.call {callee:=.value f,args,argTypes:=ts}).operands.toList)).2
   obtain ⟨O1',g1,g2,g3,g4⟩:=vz (K:=λk=>k∈bp s2.objs (aU ⟨s2,X.G,[]⟩ (Op.call {callee:=.value f,args,argTypes:=ts}).operands.toList)) (O1:=s1.objs) hK (uY hb) (λk hk=>hR k (hl k hk)) he
   rw [fN h,e1]
   exact ⟨O1',by simp only [Option.bind_some];rw [g1],g2,g3,g4⟩
  | builtin b=>simp [hop,cm] at h1
  | invoke r m=>simp [hop,cm] at h1
 | _=>simp [hop,cm] at h1
end Go.Ab

namespace Go.Ab
open Go Go.RowKit
variable {P:Program} {B:Base} {c:Cx} {s:St} {a:Act}
theorem eV {l m:List Nat} (h:vD l m=true) {k:Nat} (h1:k∈l) (h2:k∈m):False:=by
 have:=List.all_eq_true.1 h k h1
 rw [any_beq.2 h2] at this;simp at this
theorem xj {X:Cfg} {o:Oper} (h:(c8 o.op||fF X o)=true):cm o.op=false:=by
 cases hop:o.op with
 | call q=>
  obtain ⟨callee,args,ts⟩:=q
  cases callee with
  | value f=>simp [c8,fF,hop] at h
  | _=>rfl
 | _=>rfl
theorem rp {X:Cfg} {o:Oper} (h:cm o.op=true):fF X o=false:=by
 cases hop:o.op with
 | load t x=>rw [hop] at h;cases h
 | _=>simp only [fF,hop]
theorem cK (s:St) (d:Option Nat) (v:AV) (objs:List (Nat×AO)) (k:Nat):(s.after d v objs).obj k=alook objs k:=by simp only [St.obj,vh]
theorem fD.refl (s:St) (l:List Nat):fD s s l:=λ_ _=>rfl
theorem eM.refl (s:St) (l:List Nat):eM s s l:=λ_ _=>rfl
theorem One.obj {X:Cfg} {ops:Array Oper} {i:Nat} {o:Oper} {s s':St} (h:One X ops o s s') (ha:(dw X s ops i o).all=false) {k:Nat} (hw:k ∉ (dw X s ops i o).wr):s'.obj k=s.obj k:=by
 cases h with
 | plain v objs' hg he=>
  rw [cK]
  simp only [dw,hg,Bool.and_eq_false_iff,Bool.not_eq_false'] at ha hw
  cases hl:(c8 o.op||fF X o) with
  | true=>
   rw [hl,cond_true] at hw
   obtain ⟨us,h1,h2,_⟩:=rh hl (fD.refl s _) (eM.refl s _) he
   rw [h2]
   exact lM λp hp e=>hw (e ▸ h1 p hp)
  | false=>
   by_cases hc:cm o.op=true
   ·have hfar:oZ s.objs (bp s.objs (aU ⟨s,X.G,[]⟩ o.op.operands.toList))=true:=ha.resolve_left (by simp [hc])
    rw [hl,hc,hfar] at hw
    simp only [cond_false,Bool.and_self,cond_true] at hw
    obtain ⟨O1',_,_,_,g4⟩:=oK hc (fD.refl s _) hfar (λ_ _=>rfl) he
    rw [g4 k λe=>hw (List.mem_append.2 (.inl e))];rfl
   ·rw [nP hl (by simpa using hc)] at he
    obtain ⟨r,_,he⟩:=a8 he
    simp only [Prod.mk.injEq] at he
    rw [<-he.2.2];rfl
 | born v objs' hg hb he=>
  rw [cK]
  obtain ⟨d,m,os,hd,hm,hlen,_,hc,hO,hk,hl,_⟩:=uC he
  have hw':k ∉ dn d 0 4:=by
   simp only [dw,hg] at hw
   rw [hl,rp hc,Bool.or_false,cond_false,hk,hc,hb,hd] at hw
   exact λe=>hw (by simpa [oZ,kB,bp,dJ,bM,B6] using e)
  rw [hO,bU (dj d m 0).1 (by rw [(dj d m 0).2,hlen]),if_neg λe=>hw' (kO hm e)];rfl
 | guarded j t d w v _ _ _ _ _=>simp
theorem xU {X:Cfg} {s:St} {o:Oper} {t:Nat} {w b:Bool} {v:AV} (hc:cm o.op=true) (he:oJ X s o t w=some (b,v)):v.keys=[]:=by
 cases hop:o.op with
 | call q=>
  obtain ⟨callee,args,ts⟩:=q
  cases callee with
  | value f=>
   simp only [oJ,hop] at he
   obtain ⟨q,_,he⟩:=ai he
   obtain ⟨_,he⟩:=ay he
   obtain ⟨⟨r,os⟩,_,he⟩:=ai he
   cases os with
   | nil=>
    dsimp only at he
    obtain ⟨hb,he⟩:=ay he
    simp only [Option.some.injEq,Prod.mk.injEq] at he
    obtain ⟨_,rfl⟩:=he
    simp only [Bool.and_eq_true] at hb
    exact jR hb.1
   | cons _ _=>simp at he
  | builtin b=>simp [hop,cm] at hc
  | invoke r m=>simp [hop,cm] at hc
 | _=>simp [hop,cm] at hc
theorem One.move {X:Cfg} {ops:Array Oper} {i:Nat} {o:Oper} {s1 s2 s2':St} (h:One X ops o s2 s2') (ht:fD s1 s2 (dw X s2 ops i o).tmps)
  (ho:∀k,k∈(dw X s2 ops i o).rd∨k∈(dw X s2 ops i o).wr∨(dw X s2 ops i o).all=true->s1.obj k=s2.obj k) :
  ∃s1',One X ops o s1 s1'/\(∀d,o.dst=some d->s1'.get d=s2'.get d)/\(∀k,k∈(dw X s2 ops i o).wr∨(dw X s2 ops i o).all=true->s1'.obj k=s2'.obj k) /\
   (∀k,(dw X s2 ops i o).all=false->k ∉ (dw X s2 ops i o).wr->s1'.obj k=s1.obj k):=by
 cases h with
 | plain v objs' hg he=>
  have htm:(dw X s2 ops i o).tmps=cQ o.op.operands.toList:=by simp only [dw,hg]
  have hwr:(dw X s2 ops i o).wr=cond (c8 o.op||fF X o) (jZ o.dst.toList++aU ⟨s2,X.G,[]⟩ o.op.operands.toList) (cond (cm o.op&&oZ s2.objs (bp s2.objs (aU ⟨s2,X.G,[]⟩ o.op.operands.toList))) (bp s2.objs (aU ⟨s2,X.G,[]⟩ o.op.operands.toList)++B6 (X.born o) o.dst) []):=by simp only [dw,hg]
  have hrd:(dw X s2 ops i o).rd=cond (iu o.op) (aU ⟨s2,X.G,[]⟩ o.op.operands.toList) []:=by simp only [dw,hg]
  have hall:(dw X s2 ops i o).all=(cm o.op&&!oZ s2.objs (bp s2.objs (aU ⟨s2,X.G,[]⟩ o.op.operands.toList))):=by simp only [dw,hg]
  rw [htm] at ht
  rw [hwr,hrd,hall] at ho
  rw [hwr,hall]
  have hd:∀ (O1:List (Nat×AO)) (d:Nat),o.dst=some d->(s1.after o.dst v O1).get d=(s2.after o.dst v objs').get d:=λO1 d hd=>by rw [dR,dR,if_pos hd,if_pos hd]
  cases hl:(c8 o.op||fF X o) with
  | true=>
   rw [hl] at ho
   simp only [cond_true] at ho ⊢
   obtain ⟨us,h1,h2,h3⟩:=rh hl ht (λk hk=>ho k (.inr (.inl hk))) he
   refine ⟨_,.plain v _ hg h3,hd _,λk hk=>?_,λk _ hk=>?_⟩
   ·rw [cK,cK,h2]
    refine qD ?_
    rcases hk with hk | hk
    ·exact ho k (.inr (.inl hk))
    ·rw [xj hl] at hk;simp at hk
   ·rw [cK]
    exact lM λp hp e=>hk (e ▸ h1 p hp)
  | false=>
   rw [hl] at ho
   simp only [cond_false] at ho ⊢
   cases hc:cm o.op with
   | true=>
    cases hn:oZ s2.objs (bp s2.objs (aU ⟨s2,X.G,[]⟩ o.op.operands.toList)) with
    | true=>
     rw [hc,hn] at ho
     simp only [Bool.and_self,cond_true] at ho ⊢
     obtain ⟨O1,e1,e2,e3,e4⟩:=oK hc ht hn (λk hk=>ho k (.inr (.inl (List.mem_append.2 (.inl hk))))) he
     refine ⟨_,.plain v _ hg e1,hd _,λk hk=>?_,λk _ hk=>?_⟩
     ·rw [cK,cK]
      rcases hk with hk | hk
      ·by_cases hq:k∈bp s2.objs (aU ⟨s2,X.G,[]⟩ o.op.operands.toList)
       ·exact e2 k hq
       ·rw [e3 k hq,e4 k hq];exact ho k (.inr (.inl hk))
      ·simp at hk
     ·rw [cK];exact e3 k λe=>hk (List.mem_append.2 (.inl e))
    | false=>
     obtain ⟨O1,e1,e2⟩:=oq hc (λk=>ho k (.inr (.inr (by rw [hc,hn];rfl)))) ht he
     exact ⟨_,.plain v _ hg e1,hd _,λk _=>by rw [cK,cK];exact e2 k,λk hk=>by simp at hk⟩
   | false=>
    have he':=he
    rw [nP hl hc] at he'
    obtain ⟨⟨b',v'⟩,e1,e2⟩:=a8 he'
    simp only [Prod.mk.injEq] at e2
    obtain ⟨rfl,rfl,rfl⟩:=e2
    have e3:ey X s1 o=some (true,v',s1.objs):=by
     rw [nP hl hc,np X.P ht (λk hk=>ho k (.inl hk)),e1];rfl
    exact ⟨_,.plain v' _ hg e3,hd _,λk hk=>by simp at hk,λk _ _=>by rw [cK];rfl⟩
 | born v objs' hg hb he=>
  obtain ⟨d,m,os,hd,hm,hlen,hf,hc,hO,hk,hl,hmv⟩:=uC he
  have htm:(dw X s2 ops i o).tmps=cQ o.op.operands.toList:=by simp only [dw,hg]
  have hwr:(dw X s2 ops i o).wr=dn d 0 4:=by
   simp only [dw,hg]
   rw [hl,rp hc,Bool.or_false,cond_false,hk,hc,hb,hd];rfl
  have hall:(dw X s2 ops i o).all=false:=by
   simp only [dw,hg]
   rw [hk,hc];rfl
  rw [htm] at ht
  rw [hwr,hall] at ho
  rw [hwr,hall]
  have hs:∀k,k∈dn d 0 4->s1.obj k=s2.obj k:=λk hk=>ho k (.inr (.inl hk))
  have h1:=hmv s1 ht λk hk=>hs k (kO hm hk)
  refine ⟨_,.born v _ hg hb h1,λd' hd'=>by rw [dR,dR,if_pos hd',if_pos hd'],λk hk'=>?_,λk _ hk'=>?_⟩
  ·rw [cK,cK,hO,bU (dj d m 0).1 (by rw [(dj d m 0).2,hlen]),bU (dj d m 0).1 (by rw [(dj d m 0).2,hlen])]
   rcases hk' with hk' | hk'
   ·split
    ·rfl
    ·exact hs k hk'
   ·simp at hk'
  ·rw [cK,bU (dj d m 0).1 (by rw [(dj d m 0).2,hlen]),if_neg λe=>hk' (kO hm e)];rfl
 | guarded j t d w v hg hj hd hdt he=>
  have htm:(dw X s2 ops i o).tmps=(b9 s2 4 t w).map (·.1)++cQ o.op.operands.toList:=by simp only [dw,hg,hj]
  have hwr:(dw X s2 ops i o).wr=[]:=by simp only [dw,hg,hj]
  have hall:(dw X s2 ops i o).all=false:=by simp only [dw,hg,hj]
  have hrd:(dw X s2 ops i o).rd=cond (iu o.op) (aU ⟨s2,X.G,b9 s2 4 t w⟩ o.op.operands.toList) []++v.keys:=by
   simp only [dw,hg,hj,he]
   cases hc:cm o.op with
   | false=>rfl
   | true=>rw [xU hc he];rfl
  rw [htm] at ht
  have he1:oJ X s1 o t w=some (true,v):=vy he ht λk hk=>ho k (.inl (by rw [hrd];exact hk))
  refine ⟨_,.guarded j t d w v hg hj hd hdt he1,λd' hd'=>?_,λk hk=>by rw [hwr,hall] at hk;simp at hk,λk _ _=>by simp⟩
  rw [hd] at hd';cases hd'
  rw [St.dD,St.dD,if_pos rfl,if_pos rfl]
structure Plan (X:Cfg) (ops:Array Oper) (st:Nat->St):Prop where
 T:Trace X ops st
 plain:bg (st 0)
 uniq:∀ (i j:Nat) (o q:Oper) (d:Nat),ops[i]?=some o->ops[j]?=some q->o.dst=some d->q.dst=some d->i=j
 edge:∀ (i:Nat) (o:Oper),ops[i]?=some o->∀e∈o.after,Region.binds .any e=true->e.on < i
 pair:∀ (i j:Nat) (o q:Oper),i < j->ops[i]?=some o->ops[j]?=some q->((iL ops.toList []).getD j 0).testBit i=true∨j8 (dw X (st i) ops i o) (dw X (st j) ops j q)=true
section
variable {X:Cfg} {ops:Array Oper} {st:Nat->St}
theorem ur {ops:Array Oper} {i:Nat} (h:i < ops.size):∃o,ops[i]?=some o:=⟨ops[i],Array.getElem?_eq_getElem h⟩
theorem Plan.Bx (p:Plan X ops st):∀ (i t:Nat),i<=ops.size->(∀j o,j < i->ops[j]?=some o->o.dst≠some t)->(st i).get t=(st 0).get t
 | 0,_,_,_=>rfl
 | i+1,t,hi,h=>by
  obtain ⟨o,ho⟩:=ur (show i < ops.size by omega)
  rw [(p.T.step i o ho).other (h i o (by omega) ho)]
  exact p.Bx i t (by omega) λj o hj=>h j o (by omega)
theorem Plan.xI (p:Plan X ops st) {j t:Nat} {o:Oper} (hj:ops[j]?=some o) (ht:o.dst=some t):∀ (k:Nat),j+1+k<=ops.size->(st (j+1+k)).get t=(st (j+1)).get t
 | 0,_=>rfl
 | k+1,hk=>by
  obtain ⟨q,hq⟩:=ur (show j+1+k < ops.size by omega)
  rw [<-Nat.add_assoc,(p.T.step _ q hq).other λe=>?_]
  ·exact p.xI hj ht k (by omega)
  ·have:=p.uniq j _ o q t hj hq ht e;omega
theorem Plan.Ja (p:Plan X ops st) {i j t:Nat} {o:Oper} (hj:ops[j]?=some o) (ht:o.dst=some t) (hij:j < i) (hi:i<=ops.size):(st i).get t=(st ops.size).get t:=by
 have h1:=p.xI hj ht (i - (j+1)) (by omega)
 have h2:=p.xI hj ht (ops.size - (j+1)) (by omega)
 rw [show j+1+(i - (j+1))=i by omega] at h1
 rw [show j+1+(ops.size - (j+1))=ops.size by omega] at h2
 rw [h1,h2]
def vL (X:Cfg) (ops:Array Oper) (st:Nat->St) (j:Nat) (o:Oper) (k:Nat):Prop:=k∈(dw X (st j) ops j o).wr∨(dw X (st j) ops j o).all=true
theorem Plan.objs (p:Plan X ops st) {i q:Nat}:∀ (k:Nat),i+k<=ops.size->(∀j o,i<=j->j < i+k->ops[j]?=some o->¬ vL X ops st j o q)->(st (i+k)).obj q=(st i).obj q
 | 0,_,_=>rfl
 | k+1,hk,h=>by
  obtain ⟨o,ho⟩:=ur (show i+k < ops.size by omega)
  have hn:=h _ o (by omega) (by omega) ho
  rw [<-Nat.add_assoc,(p.T.step _ o ho).obj (i:=i+k) (by simpa using λe=>hn (.inr e)) (λe=>hn (.inl e))]
  exact p.objs k (by omega) λj o h1 h2=>h j o h1 (by omega)
structure Inv (X:Cfg) (ops:Array Oper) (st:Nat->St) (S:Nat->Prop) (s:St):Prop where
 done:∀ (t j:Nat) (o:Oper),S j->ops[j]?=some o->o.dst=some t->s.get t=(st ops.size).get t
 rest:∀t,(∀ (j:Nat) (o:Oper),S j->ops[j]?=some o->o.dst≠some t)->s.get t=(st 0).get t
 objs:∀k,∃m,m<=ops.size/\s.obj k=(st m).obj k/\∀ (j:Nat) (o:Oper),ops[j]?=some o->vL X ops st j o k->(S j↔j < m)
 down:∀ (j:Nat) (o:Oper),S j->ops[j]?=some o->∀e∈o.after,Region.binds .any e=true->S e.on
 grd:∀ (t tc:Nat) (w:Bool) (v:AV),s.get t=some (.grd tc w v)->∃ (j:Nat) (o:Oper) (g:Nat),S j/\ops[j]?=some o/\o.dst=some t/\o.guard=some (g,w)/\(ops[g]?).bind (·.dst)=some tc
theorem Plan.bit (_:Plan X ops st) {S:Nat->Prop} (hS:∀ (j:Nat) (o:Oper),S j->ops[j]?=some o->∀e∈o.after,Region.binds .any e=true->S e.on) {i j:Nat} {o:Oper} (ho:ops[j]?=some o)
  (hr:∀e∈o.after,Region.binds .any e=true->S e.on) (h:((iL ops.toList []).getD j 0).testBit i=true):S i:=
 mB hS ops.toList [] (λj=>by simp) (λj o hj=>by simp at hj) j o ho hr i h
theorem Plan.next (p:Plan X ops st) (hX:cv X) (hG:X.G=B.G) (hN:∀o∈ops.toList,∀d,o.dst=some d->d < B.N) {S:Nat->Prop} (hI:Inv X ops st S s) (h:Rel B c s a) {i:Nat} {o:Oper} (ho:ops[i]?=some o) (hni:¬ S i)
  (hr:∀e∈o.after,Region.binds .any e=true->S e.on):∃s',Inv X ops st (λj=>j=i∨S j) s'/\yg X.P ops B c a i s':=by
 have hin:i < ops.size:=(Array.getElem?_eq_some_iff.1 ho).1
 have hbefore:∀j q,j < i->ops[j]?=some q->S j∨j8 (dw X (st j) ops j q) (dw X (st i) ops i o)=true:=λj q hj hq=>
  (p.pair j i q o hj hq ho).imp (λhb=>p.bit hI.down ho hr hb) id
 have hafter:∀j q,i < j->ops[j]?=some q->S j->j8 (dw X (st i) ops i o) (dw X (st j) ops j q)=true:=λj q hj hq hSj=>
  (p.pair i j o q hj ho hq).resolve_left λhb=>hni (p.bit hI.down hq (hI.down j q hSj hq) hb)
 have hdstF:∀ (k:Nat) (q:Oper) (st':St) (t:Nat),ops[k]?=some q->q.dst=some t->t∈(dw X st' ops k q).dst∨(∃j w,q.guard=some (j,w)/\(ops[j]?).bind (·.dst)=none):=by
  intro k q st' t hq ht
  cases hg:q.guard with
  | none=>left;simp [dw,hg,ht]
  | some jw=>
   obtain ⟨j,w⟩:=jw
   cases hj:(ops[j]?).bind (·.dst) with
   | none=>right;exact ⟨j,w,rfl,hj⟩
   | some t'=>left;simp [dw,hg,hj,ht]
 have hdst:∀ (k:Nat) (q:Oper) (t:Nat),ops[k]?=some q->q.dst=some t->t∈(dw X (st k) ops k q).dst:=by
  intro k q t hq ht
  rcases hdstF k q (st k) t hq ht with h1 | ⟨j,w,h1,h2⟩
  ·exact h1
  ·have hs:=p.T.step k q hq
   generalize st (k+1)=s' at hs
   cases hs with
   | plain v objs' hg _=>rw [hg] at h1;cases h1
   | born v objs' hg _ _=>rw [hg] at h1;cases h1
   | guarded j' t' d w' v hg hj _ _ _=>rw [hg] at h1;cases h1;rw [hj] at h2;cases h2
 have hagree:fD s (st i) (dw X (st i) ops i o).tmps:=by
  intro t ht
  by_cases hex:∃ (j:Nat) (q:Oper),ops[j]?=some q/\q.dst=some t
  ·obtain ⟨j,q,hj,hq⟩:=hex
   have hjn:j < ops.size:=(Array.getElem?_eq_some_iff.1 hj).1
   have hone:∀k q',S k->ops[k]?=some q'->q'.dst=some t->S j:=λk q' hk hk' hq'=>by rw [p.uniq j k q q' t hj hk' hq hq'];exact hk
   rcases Nat.lt_trichotomy j i with hlt | rfl | hlt
   ·rcases hbefore j q hlt hj with hS | hap
    ·rw [hI.done t j q hS hj hq,p.Ja hj hq hlt (by omega)]
    ·simp only [j8,Bool.and_eq_true] at hap
     exact (eV hap.1 (hdst j q t hj hq) ht).elim
   ·rw [hI.rest t λk q' hk hk' hq'=>hni (hone k q' hk hk' hq'),p.Bx j t (by omega) λk q' hk hk' hq'=>by
     have:=p.uniq j k q q' t hj hk' hq hq';omega]
   ·by_cases hS:S j
    ·have hap:=hafter j q hlt hj hS
     simp only [j8,Bool.and_eq_true] at hap
     exact (eV hap.2.1 (hdst j q t hj hq) ht).elim
    ·rw [hI.rest t λk q' hk hk' hq'=>hS (hone k q' hk hk' hq'),p.Bx i t (by omega) λk q' hk hk' hq'=>by
      have:=p.uniq j k q q' t hj hk' hq hq';omega]
  ·have hno:∀ (k:Nat) (q:Oper),ops[k]?=some q->q.dst≠some t:=λk q hk hq=>hex ⟨k,q,hk,hq⟩
   rw [hI.rest t λk q _ hk=>hno k q hk,p.Bx i t (by omega) λk q _ hk=>hno k q hk]
 have htouch:∀k,k∈(dw X (st i) ops i o).rd∨k∈(dw X (st i) ops i o).wr∨(dw X (st i) ops i o).all=true->(dw X (st i) ops i o).lG=true:=by
  intro k hk
  simp only [Fp.lG,Bool.or_eq_true,Bool.not_eq_true']
  rcases hk with hk | hk | hk
  ·right;left;cases hr:(dw X (st i) ops i o).rd with
   | nil=>rw [hr] at hk;simp at hk
   | cons _ _=>rfl
  ·right;right;cases hr:(dw X (st i) ops i o).wr with
   | nil=>rw [hr] at hk;simp at hk
   | cons _ _=>rfl
  ·exact .inl hk
 have htouch':∀j q k,vL X ops st j q k->(dw X (st j) ops j q).lG=true:=by
  intro j q k hk
  simp only [Fp.lG,Bool.or_eq_true,Bool.not_eq_true']
  rcases hk with hk | hk
  ·right;right;cases hr:(dw X (st j) ops j q).wr with
   | nil=>rw [hr] at hk;simp at hk
   | cons _ _=>rfl
  ·exact .inl hk
 have hbw:∀k,k∈(dw X (st i) ops i o).rd∨k∈(dw X (st i) ops i o).wr∨(dw X (st i) ops i o).all=true->(∀j q,j < i->ops[j]?=some q->vL X ops st j q k->S j)/\∀j q,i < j->ops[j]?=some q->vL X ops st j q k->¬ S j:=by
  intro k hb
  refine ⟨λj q hj hq hw=>(hbefore j q hj hq).resolve_right λhap=>?_,λj q hj hq hw hS=>?_⟩
  ·simp only [j8,Bool.and_eq_true,Bool.not_eq_true',Bool.and_eq_false_iff] at hap
   obtain ⟨_,_,h3,h4,h5,h6,h7⟩:=hap
   rcases hb with hb | hb | hb
   ·rcases hw with hw | hw
    ·exact eV h6 hw hb
    ·rcases h3 with h3 | h3
     ·rw [hw] at h3;cases h3
     ·rw [htouch k (.inl hb)] at h3;cases h3
   ·rcases hw with hw | hw
    ·exact eV h5 hw hb
    ·rcases h3 with h3 | h3
     ·rw [hw] at h3;cases h3
     ·rw [htouch k (.inr (.inl hb))] at h3;cases h3
   ·rcases h4 with h4 | h4
    ·rw [hb] at h4;cases h4
    ·rw [htouch' j q k hw] at h4;cases h4
  ·have hap:=hafter j q hj hq hS
   simp only [j8,Bool.and_eq_true,Bool.not_eq_true',Bool.and_eq_false_iff] at hap
   obtain ⟨_,_,h3,h4,h5,h6,h7⟩:=hap
   rcases hb with hb | hb | hb
   ·rcases hw with hw | hw
    ·exact eV h7 hw hb
    ·rcases h4 with h4 | h4
     ·rw [hw] at h4;cases h4
     ·rw [htouch k (.inl hb)] at h4;cases h4
   ·rcases hw with hw | hw
    ·exact eV h5 hb hw
    ·rcases h4 with h4 | h4
     ·rw [hw] at h4;cases h4
     ·rw [htouch k (.inr (.inl hb))] at h4;cases h4
   ·rcases h3 with h3 | h3
    ·rw [hb] at h3;cases h3
    ·rw [htouch' j q k hw] at h3;cases h3
 have hob:∀k,k∈(dw X (st i) ops i o).rd∨k∈(dw X (st i) ops i o).wr∨(dw X (st i) ops i o).all=true->s.obj k=(st i).obj k:=by
  intro k hb
  obtain ⟨h1,h2⟩:=hbw k hb
  obtain ⟨m,hm,hobs,hwr⟩:=hI.objs k
  rw [hobs]
  rcases Nat.le_total m i with hle | hle
  ·have:=p.objs (i:=m) (q:=k) (i - m) (by omega) λj q hj1 hj2 hq hw=>by
    have:=(hwr j q hq hw).1 (h1 j q (by omega) hq hw);omega
   rw [show m+(i - m)=i by omega] at this;exact this.symm
  ·have:=p.objs (i:=i) (q:=k) (m - i) (by omega) λj q hj1 hj2 hq hw=>by
    have hS:=(hwr j q hq hw).2 (by omega)
    by_cases e:j=i
    ·subst e;exact hni hS
    ·exact h2 j q (by omega) hq hw hS
   rw [show i+(m - i)=m by omega] at this;exact this
 obtain ⟨s',hone,hget,hw1,hw0⟩:=(p.T.step i o ho).move (i:=i) hagree hob
 have hfree:∀d,o.dst=some d->d < B.N/\gE s d:=by
  intro d hd
  refine ⟨hN o (by simpa using Array.mem_of_getElem? ho) d hd,λt tc w v hg e=>?_⟩
  subst e
  obtain ⟨j,q,g,hS,hj,hq,hqg,hqt⟩:=hI.grd t tc w v hg
  have htm:tc∈(dw X (st j) ops j q).tmps:=by
   simp only [dw,hqg,hqt,List.mem_append]
   left;simp [b9]
  rcases Nat.lt_trichotomy j i with hlt | rfl | hlt
  ·exact p.T.later j q g tc w hj hqg hqt i o hlt ho hd
  ·exact hni hS
  ·have hap:=hafter j q hlt hj hS
   simp only [j8,Bool.and_eq_true] at hap
   exact eV hap.1 (hdst i o tc ho hd) htm
 have hkeep:∀t,o.dst≠some t->s'.get t=s.get t:=λt ht=>hone.other ht
 have hinv:(∀ (t tc:Nat) (w:Bool) (v:AV),o.dst=some t->s'.get t=some (.grd tc w v)->∃g,o.guard=some (g,w)/\(ops[g]?).bind (·.dst)=some tc)->Inv X ops st (λj=>j=i∨S j) s':=by
  intro hgr
  refine ⟨λt j q hj hq hd=>?_,λt hno=>?_,?_,λj q hj hq e he hb=>?_,λt tc w v hg=>?_⟩
  ·by_cases e:j=i
   ·subst e
    rw [ho] at hq;cases hq
    rw [hget t hd]
    exact p.Ja ho hd (Nat.lt_succ_self j) (by omega)
   ·have hS:=hj.resolve_left e
    rw [hkeep t λhd'=>e (p.uniq j i q o t hq ho hd hd')]
    exact hI.done t j q hS hq hd
  ·rw [hkeep t (hno i o (.inl rfl) ho)]
   exact hI.rest t λj q hj=>hno j q (.inr hj)
  ·intro k
   by_cases hw:vL X ops st i o k
   ·obtain ⟨h1,h2⟩:=hbw k (.inr hw)
    refine ⟨i+1,by omega,hw1 k hw,λj q hq hwj=>?_⟩
    rcases Nat.lt_trichotomy j i with hlt | rfl | hlt
    ·exact ⟨λ_=>by omega,λ_=>.inr (h1 j q hlt hq hwj)⟩
    ·exact ⟨λ_=>by omega,λ_=>.inl rfl⟩
    ·exact ⟨λhj=>absurd (hj.resolve_left (by omega)) (h2 j q hlt hq hwj),λhj=>by omega⟩
   ·obtain ⟨m,hm,hobs,hwr⟩:=hI.objs k
    refine ⟨m,hm,by rw [hw0 k (by simpa using λe=>hw (.inr e)) (λe=>hw (.inl e)),hobs],λj q hq hwj=>?_⟩
    have e:j≠i:=by rintro rfl;rw [ho] at hq;cases hq;exact hw hwj
    exact ⟨λhj=>(hwr j q hq hwj).1 (hj.resolve_left e),λhj=>.inr ((hwr j q hq hwj).2 hj)⟩
  ·rcases hj with rfl | hj
   ·rw [ho] at hq;cases hq;exact .inr (hr e he hb)
   ·exact .inr (hI.down j q hj hq e he hb)
  ·by_cases e:o.dst=some t
   ·obtain ⟨g,h1,h2⟩:=hgr t tc w v e hg
    exact ⟨i,o,g,.inl rfl,ho,e,h1,h2⟩
   ·rw [hkeep t e] at hg
    obtain ⟨j,q,g,h1,h2⟩:=hI.grd t tc w v hg
    exact ⟨j,q,g,.inr h1,h2⟩
 cases hone with
 | plain v objs' hg he=>
  obtain ⟨hstep,hv⟩:=jT hX hG h hfree he
  refine ⟨_,hinv λt tc w u ht hu=>?_,hstep.istep ho hg⟩
  rw [dR,if_pos ht] at hu;cases hu;simp [AV.cA] at hv
 | born v objs' hg hb he=>
  obtain ⟨hstep,hv⟩:=l4 hX hG h hfree (Ei he)
  refine ⟨_,hinv λt tc w u ht hu=>?_,hstep.istep ho hg⟩
  rw [dR,if_pos ht] at hu;cases hu;simp [AV.cA] at hv
 | guarded j t d w v hg hj hd hdt he=>
  refine ⟨_,hinv λt' tc w' u ht' hu=>?_,oI hX hG h ho hg hj hd (hfree d hd).1 (hfree d hd).2 hdt he⟩
  rw [hd] at ht';cases ht'
  rw [St.dD,if_pos rfl] at hu
  simp only [Option.some.injEq,AV.grd.injEq] at hu
  obtain ⟨rfl,rfl,_⟩:=hu
  exact ⟨j,hg,hj⟩
end
end Go.Ab

namespace Go.Ab
open Go Go.RowKit
variable {B:Base} {c:Cx} {s:St} {a:Act} {X:Cfg} {ops:Array Oper} {st:Nat->St}
theorem Inv.end (p:Plan X ops st) {S:Nat->Prop} (hI:Inv X ops st S s) (hall:∀i,i < ops.size->S i) (h:Rel B c s a):Rel B c (st ops.size) a:=by
 have hget:∀t,(st ops.size).get t=s.get t:=by
  intro t
  by_cases hex:∃ (j:Nat) (q:Oper),ops[j]?=some q/\q.dst=some t
  ·obtain ⟨j,q,hj,hq⟩:=hex
   exact (hI.done t j q (hall j (Array.getElem?_eq_some_iff.1 hj).1) hj hq).symm
  ·have hno:∀ (k:Nat) (q:Oper),ops[k]?=some q->q.dst≠some t:=λk q hk hq=>hex ⟨k,q,hk,hq⟩
   rw [hI.rest t λk q _ hk=>hno k q hk,p.Bx _ t (Nat.le_refl _) λk q _ hk=>hno k q hk]
 have hobj:∀k,(st ops.size).obj k=s.obj k:=by
  intro k
  obtain ⟨m,hm,hobs,hwr⟩:=hI.objs k
  rw [hobs]
  have:=p.objs (i:=m) (q:=k) (ops.size - m) (by omega) λj q hj1 hj2 hq hw=>by
   have:=(hwr j q hq hw).1 (hall j (Array.getElem?_eq_some_iff.1 hq).1);omega
  rw [show m+(ops.size - m)=ops.size by omega] at this;exact this
 have hlive:∀k,live s.objs k->live (st ops.size).objs k:=λk ⟨o,ho⟩=>⟨o,by have:=hobj k;simp only [St.obj] at this;rw [this];exact ho⟩
 refine h.less (λk hk=>hlive k (h.kept k hk)) (λt v hv=>by rw [<-hget t];exact hv) (λk o ho=>by rw [<-hobj k];exact ho)
  (λt v hv k hk=>hlive k (h.closed t v (by rw [<-hget t];exact hv) k hk)) (λk o ho q hq=>hlive q (h.objs.closed k o (by have:=hobj k;rw [ho] at this;exact this.symm) q hq))
theorem sQ {listed:Array Bool} {i:Nat} (h:i < listed.size) (b b':Bool):listed.getD i b=listed.getD i b':=by
 simp [h]
theorem Plan.run (p:Plan X ops st) (hX:cv X) (hG:X.G=B.G) (hN:∀o∈ops.toList,∀d,o.dst=some d->d < B.N) {Q:Exit->Act->World->Prop} (hQ:∀c' a',Rel B c' (st ops.size) a'->Q .normal a' c'.w) :
  ∀ (fuel:Nat) (listed:Array Bool) (s:St) (c:Cx) (a:Act),listed.size=ops.size->(∃U:List Nat,U.length<=fuel/\∀i,i < ops.size->listed.getD i false=false->i∈U)->
   Inv X ops st (λi=>listed.getD i false=true) s->Rel B c s a->wpAny X.P .any ops Q fuel listed a c.w:=by
 have hdone:∀ (listed:Array Bool) (s:St) (c:Cx) (a:Act),listed.size=ops.size->Inv X ops st (λi=>listed.getD i false=true) s->Rel B c s a->Region.ready .any ops listed=[]->Q .normal a c.w:=by
  intro listed s c a hsz hI h hr
  have hall:∀i,i < ops.size->listed.getD i false=true:=by
   intro i
   induction i using Nat.strongRecOn with
   | _ i ih=>
    intro hi
    cases hl:listed.getD i false with
    | true=>rfl
    | false=>
     obtain ⟨o,ho⟩:=ur hi
     have:i∈Region.ready .any ops listed:=mem_ready.2 ⟨by rw [sQ (by omega) true false];exact hl,o,ho,λe he hb=>ih e.on (p.edge i o ho e he hb) (by have:=p.edge i o ho e he hb;omega)⟩
     rw [hr] at this;simp at this
  exact hQ c a (hI.end p hall h)
 intro fuel
 induction fuel with
 | zero=>
  intro listed s c a hsz hU hI h
  have hr:Region.ready .any ops listed=[]:=by
   cases hr:Region.ready .any ops listed with
   | nil=>rfl
   | cons i r=>
    have hi:i∈Region.ready .any ops listed:=by rw [hr];simp
    obtain ⟨h0,o,ho,_⟩:=mem_ready.1 hi
    have hin:=(Array.getElem?_eq_some_iff.1 ho).1
    obtain ⟨U,h1,h2⟩:=hU
    have:=h2 i hin (by rw [sQ (by omega) false true];exact h0)
    have hUn:U=[]:=List.length_eq_zero_iff.1 (by omega)
    rw [hUn] at this;simp at this
  exact ⟨hr,hdone listed s c a hsz hI h hr⟩
 | succ fuel ih=>
  intro listed s c a hsz hU hI h
  refine ⟨hdone listed s c a hsz hI h,λi hi=>?_⟩
  obtain ⟨h0,o,ho,hall⟩:=mem_ready.1 hi
  have hin:=(Array.getElem?_eq_some_iff.1 ho).1
  have h0':listed.getD i false=false:=by rw [sQ (by omega) false true];exact h0
  obtain ⟨s',hI',hstep⟩:=p.next (B:=B) (c:=c) (a:=a) hX hG hN hI h ho (by simp [h0']) (λe he hb=>hall e he hb)
  refine hstep Q _ λa' c' hr=>?_
  have hset:∀j,(listed.setIfInBounds i true).getD j false=true↔(j=i∨listed.getD j false=true):=by
   intro j
   by_cases e:i=j
   ·subst e
    have:i < listed.size:=by omega
    simp [this]
   ·rw [getD_set_ne false e]
    exact ⟨.inr,λh=>h.resolve_left (λx=>e x.symm)⟩
  refine ih _ s' c' a' (by simpa using hsz) ?_ ?_ hr
  ·obtain ⟨U,h1,h2⟩:=hU
   have hiU:=h2 i hin h0'
   refine ⟨U.erase i,?_,λj hj hjn=>?_⟩
   ·rw [List.length_erase_of_mem hiU];omega
   ·have hne:j≠i:=by rintro rfl;rw [(hset j).2 (.inl rfl)] at hjn;cases hjn
    refine (List.mem_erase_of_ne hne).2 (h2 j hj ?_)
    cases hl:listed.getD j false with
    | false=>rfl
    | true=>rw [(hset j).2 (.inr hl)] at hjn;cases hjn
  ·have:(λj=>(listed.setIfInBounds i true).getD j false=true)=λj=>j=i∨listed.getD j false=true:=by funext j;exact propext (hset j)
   rw [this];exact hI'
theorem mg (hX:cv X) (hG:X.G=B.G) {k:St->Res} {r:AV×List AO} {Q:Exit->Act->World->Prop} (he:gp X ops s k=some r) (h:Rel B c s a) (hn:bg s)
  (hN:∀o∈ops.toList,∀d,o.dst=some d->d < B.N) (hk:∀s' c' a',k s'=some r->Rel B c' s' a'->bg s'->Q .normal a' c'.w):wpAny X.P .any ops Q ops.size (Array.replicate ops.size false) a c.w.drew:=by
 unfold gp at he
 obtain ⟨hb,he⟩:=bD he
 simp only [Bool.and_eq_true] at hb
 obtain ⟨st,h0,h1,h2,fps,h3,h4,h5⟩:=ng ops.toList 0 [] s (λj=>by simp) he
 obtain ⟨hfp,h3⟩:=bD h3
 simp only [List.nil_append,Nat.zero_add] at hfp h3
 have hlen:ops.toList.length=ops.size:=by simp
 rw [hlen] at h3
 have p:Plan X ops st:=by
  refine ⟨⟨λi o ho=>h1 i o (Nat.zero_le _) ho,λi o j t w ho hg ht k q hk hq=>h2 i o j t w (Nat.zero_le _) ho hg ht k q hk hq⟩,by rw [h0];exact hn,λi j o q d hi hj ho hq=>(gI hb.1).2 i j o q d (by simpa using hi) (by simpa using hj) ho hq,
   λi o ho e he hbe=>by have:=mz hb.2 i o (by simpa using ho) e he hbe;omega,λi j o q hij hi hj=>?_⟩
  have:=oG hfp i j _ _ hij (h5 i o (Nat.zero_le _) hi) (h5 j q (Nat.zero_le _) hj)
  have hfi:∀ (k:Nat) (x:Oper) (s:St),(dw X s ops k x).i=k:=by
   intro k x s
   simp only [dw]
   split
   ·rfl
   ·split <;> rfl
  rw [hfi,hfi] at this
  exact this
 have hrel:Rel B c.drew s a:=h.keep (Cx.hZ c s.objs) (Cx.drew_grow h.good)
 refine p.run (B:=B) hX hG hN (λc' a' hr=>hk _ c' a' h3 hr.purge (bg.purge _)) ops.size _ s c.drew a (by simp) ⟨List.range ops.size,by simp,λi hi _=>by simpa using hi⟩ ?_ hrel
 have hf:∀i,(Array.replicate ops.size false).getD i false=true↔False:=by
  intro i;simp [Array.getD_eq_getD_getElem?,Array.getElem?_replicate];split <;> rfl
 refine ⟨λt j o hj=>((hf j).1 hj).elim,λt _=>by rw [h0],λk=>⟨0,Nat.zero_le _,by rw [h0],λj o _ _=>⟨λhj=>((hf j).1 hj).elim,λhj=>by omega⟩⟩,λj o hj=>((hf j).1 hj).elim,λt tc w v hg=>?_⟩
 have:=hn t _ hg
 simp [AV.cA] at this
theorem n6 (hX:cv X) (hG:X.G=B.G) (hm:X.P.follows .mixedOrders=true) {id:Nat} {k:St->Res} {r:AV×List AO} {Q:Exit->Act->World->Prop} (he:gp X ops s k=some r) (h:Rel B c s a) (hn:bg s)
  (hN:∀o∈ops.toList,∀d,o.dst=some d->d < B.N) (hk:∀s' c' a',k s'=some r->Rel B c' s' a'->bg s'->Q .normal a' c'.w):(Code.region id ops true).wp X.P Q a c.w:=
 wp_region_any hm (mg hX hG he h hn hN hk)
end Go.Ab

namespace Go.Ab
open Go Go.RowKit
variable {P:Program} {B:Base} {c:Cx} {s:St} {a:Act}
theorem dP {env:List (Nat×AV)}:∀ {ks:List Nat} {t:Nat} {v:AV},alook (dB env ks) t=some v->alook env t=some v
 | [],t,v,h=>by simp [dB,alook] at h
 | k::r,t,v,h=>by
  simp only [dB] at h
  cases hk:alook env k with
  | none=>simp only [hk] at h;exact dP h
  | some u=>
   simp only [hk,alook] at h
   by_cases e:k=t
   ·subst e;simp at h;rw [hk,h]
   ·rw [il e,cond_false] at h;exact dP h
theorem iC {objs:List (Nat×AO)} {k:Nat} {r:List Nat} {u:AO} (h:alook objs k=some u):cF objs (k::r)=(k,u)::cF objs r∨(cF objs (k::r)=cF objs r/\¬ ae<=k):=by
 simp only [cF,h]
 cases u with
 | gone=>
  cases hb:Nat.ble ae k with
  | true=>exact .inl rfl
  | false=>exact .inr ⟨rfl,λhle=>by rw [Nat.ble_eq_true_of_le hle] at hb;cases hb⟩
 | _=>exact .inl rfl
theorem kY {objs:List (Nat×AO)} {k:Nat} {r:List Nat} (h:alook objs k=none):cF objs (k::r)=cF objs r:=by
 simp only [cF,h]
theorem fc {objs:List (Nat×AO)}:∀ {ks:List Nat} {t:Nat} {v:AO},alook (cF objs ks) t=some v->alook objs t=some v
 | [],t,v,h=>by simp [cF,alook] at h
 | k::r,t,v,h=>by
  cases hk:alook objs k with
  | none=>rw [kY hk] at h;exact fc h
  | some u=>
   rcases iC (r:=r) hk with e0 | ⟨e0,_⟩
   ·rw [e0] at h
    simp only [alook] at h
    by_cases e:k=t
    ·subst e;simp at h;rw [hk,h]
    ·rw [il e,cond_false] at h;exact fc h
   ·rw [e0] at h;exact fc h
theorem kT {objs:List (Nat×AO)} {k:Nat} (hl:live objs k) (hb:ae<=k):∀ {ks:List Nat},k∈ks->live (cF objs ks) k
 | [],h=>by simp at h
 | q::r,h=>by
  by_cases e:q=k
  ·subst e
   obtain ⟨o,ho⟩:=hl
   rcases iC (r:=r) ho with e0 | ⟨_,e1⟩
   ·rw [e0];exact ⟨o,by simp [alook]⟩
   ·exact absurd hb e1
  ·have hr:=kT hl hb (ks:=r) (by rcases List.mem_cons.1 h with rfl | h;exact absurd rfl e;exact h)
   cases hq:alook objs q with
   | none=>rw [kY hq];exact hr
   | some u=>
    rcases iC (r:=r) hq with e0 | ⟨e0,_⟩
    ·rw [e0];obtain ⟨o,ho⟩:=hr;exact ⟨o,by simp [alook,il e,ho]⟩
    ·rw [e0];exact hr
theorem xf {objs:List (Nat×AO)} {k:Nat} (hl:live objs k) (hb:ae<=k):k∈tl objs:=by
 induction objs with
 | nil=>obtain ⟨o,h⟩:=hl;simp [alook] at h
 | cons p r ih=>
  obtain ⟨q,o⟩:=p
  simp only [tl]
  by_cases e:q=k
  ·subst e;rw [Nat.ble_eq_true_of_le hb];simp
  ·obtain ⟨o',ho'⟩:=hl
   simp only [alook,il e,cond_false] at ho'
   have:=ih ⟨o',ho'⟩
   cases Nat.ble ae q <;> simp [this]
theorem fZ {env:List (Nat×AV)} {t:Nat} {v:AV} (h:alook env t=some v):∀k∈v.keys,k∈lZ env:=by
 induction env with
 | nil=>simp [alook] at h
 | cons p r ih=>
  obtain ⟨q,u⟩:=p
  intro k hk
  simp only [lZ,List.mem_append]
  simp only [alook] at h
  by_cases e:q=t
  ·subst e;simp at h;subst h;exact .inl hk
  ·rw [il e,cond_false] at h;exact .inr (ih h k hk)
theorem n8 {objs:List (Nat×AO)} {t:Nat} {v:AO} (h:alook objs t=some v):∀k∈v.keys,k∈jV objs:=by
 induction objs with
 | nil=>simp [alook] at h
 | cons p r ih=>
  obtain ⟨q,u⟩:=p
  intro k hk
  simp only [jV,List.mem_append]
  simp only [alook] at h
  by_cases e:q=t
  ·subst e;simp at h;subst h;exact .inl hk
  ·rw [il e,cond_false] at h;exact .inr (ih h k hk)
theorem Rel.reslot (h:Rel B c s a) {t:Nat} {v:AV} (hs:Sees B c s v (a.tmps.getD t undef)) (_:bg s):Rel B c (s.put (some t) v) a:=by
 refine ⟨h.good,h.frame,by rw [St.dU];exact h.objs,λq u hu=>?_,λq u hu k hk'=>?_,λk o b ho=>h.mine k o b (by simpa using ho),h.tmps,h.defers,by rw [St.dU];exact h.kept⟩
 ·rw [St.dD] at hu
  by_cases e:t=q
  ·subst e;simp at hu;subst hu;exact dQ.nr hs.plain hs.rep
  ·rw [if_neg e] at hu;exact h.env q u hu
 ·rw [St.dU]
  rw [St.dD] at hu
  by_cases e:t=q
  ·subst e;simp at hu;subst hu;exact hs.live k hk'
  ·rw [if_neg e] at hu;exact h.closed q u hu k hk'
theorem bg.put {s:St} (h:bg s) {t:Nat} {v:AV} (hv:v.cA=false):bg (s.put (some t) v):=by
 intro q u hu
 rw [St.dD] at hu
 by_cases e:t=q
 ·subst e;simp at hu;subst hu;exact hv
 ·rw [if_neg e] at hu;exact h q u hu
theorem nq (key:Nat) (z:List AV) (sz n:Nat) (get:Nat->List AV):(mJ key z sz n get).cA=false/\(mJ key z sz n get).keys=[key]/\(mJ key z sz n get).one=true:=by
 unfold mJ;cases Nat.beq n 0 <;> exact ⟨rfl,rfl,rfl⟩
theorem kN (h:Rel B c s a) {sz n:Nat} {get:Nat->List AV} {X:Value} (hx:Rep c (.sl .fit sz n get) X) {key:Nat} (hk:s.obj key=none) {z:List AV} (hz:0 < mI z sz n) :
  ∃c',(c'.β=c.β/\c'.I=c.I)/\c'.w=c.w/\Rel B c' (s.setObj key (.own (mI z sz n) n)) a/\Sees B c' (s.setObj key (.own (mI z sz n) n)) (mJ key z sz n get) X:=by
 have hown:aG c .fit n X:=by cases hx <;> assumption
 by_cases hn:n=0
 ·subst hn
  exact jD (sz:=z.length) (get':=λ_=>z) h hz hx ⟨.inl ⟨rfl,hk⟩,hown⟩ (.inl rfl) (λj hj=>by omega)
 ·have e1:mI z sz n=sz:=by simp [mI,il hn]
  have e2:mJ key z sz n get=.sl (.key key) sz n get:=by simp [mJ,il hn]
  rw [e1,e2]
  rw [e1] at hz
  exact jD (sz:=sz) (get':=get) h hz hx ⟨.inl ⟨rfl,hk⟩,hown⟩ (.inr rfl) (λj hj=>rfl)
theorem fy:∀ {l:List (Nat×Nat×TypeId)} {s s':St} {c:Cx},Rel B c s a->bg s->fQ P s l=some s'->∃c',c'.w=c.w/\c'.I=c.I/\Rel B c' s' a/\bg s'
 | [],s,s',c,h,hn,he=>by simp [fQ] at he;subst he;exact ⟨c,rfl,rfl,h,hn⟩
 | (t,key,e)::r,s,s',c,h,hn,he=>by
  simp only [fQ] at he
  split at he
  ·rename_i sz n get hg
   split at he
   ·rename_i z hk hz
    obtain ⟨hb,he⟩:=ay he
    have hE:Rep c (.sl .fit sz n get) (a.tmps.getD t undef):=h.env t _ hg
    obtain ⟨c1,e0,e1,e2,e3⟩:=kN h hE hk (ltB hb)
    have hn1:bg (s.setObj key (.own (mI z sz n) n)):=hn
    obtain ⟨c2,f1,f0,f2,f3⟩:=fy (e2.reslot e3 hn1) (hn1.put (nq _ _ _ _ _).1) he
    exact ⟨c2,f1.trans e1,f0.trans e0.2,f2,f3⟩
   ·simp at he
  ·exact fy h hn he
theorem nA {cs:List AV} {i:Nat} {v:AV}:∀k∈au (cs.set i v),k∈v.keys∨k∈au cs:=by
 induction cs generalizing i with
 | nil=>intro k hk;simp [au] at hk
 | cons u r ih=>
  intro k hk
  cases i with
  | zero=>
   simp only [List.set_cons_zero,au,List.mem_append] at hk
   simp only [au,List.mem_append]
   rcases hk with hk | hk
   ·exact .inl hk
   ·exact .inr (.inr hk)
  | succ i=>
   simp only [List.set_cons_succ,au,List.mem_append] at hk
   simp only [au,List.mem_append]
   rcases hk with hk | hk
   ·exact .inr (.inl hk)
   ·rcases ih k hk with h | h
    ·exact .inl h
    ·exact .inr (.inr h)
theorem dq:∀ {l:List (Nat×Nat×Nat×TypeId)} {s s':St} {c:Cx},Rel B c s a->bg s->dz P s l=some s'->∃c',c'.w=c.w/\c'.I=c.I/\Rel B c' s' a/\bg s'
 | [],s,s',c,h,hn,he=>by simp [dz] at he;subst he;exact ⟨c,rfl,rfl,h,hn⟩
 | (ob,off,key,e)::r,s,s',c,h,hn,he=>by
  simp only [dz] at he
  split at he
  ·rename_i cs hob
   split at he
   ·rename_i sz n get hg
    split at he
    ·rename_i z hk hz
     obtain ⟨hb,he⟩:=ay he
     have hne:key≠ob:=by rintro rfl;rw [hk] at hob;cases hob
     obtain ⟨⟨⟨vs,t,hh,hs,hv⟩,h1⟩,hI,hfr⟩:=h.objs.rep ob _ hob
     obtain ⟨c1,e0,e1,e2,e3⟩:=kN h (hv off _ hg) hk (ltB hb)
     have hob1:alook (aput s.objs key (.own (mI z sz n) n)) ob=some (.cells cs):=by rw [aV,if_neg hne];exact hob
     obtain ⟨⟨⟨vs1,t1,hh1,hs1,hv1⟩,h11⟩,hI1,hfr1⟩:=e2.objs.rep ob _ hob1
     rw [e0.1,e1,hh] at hh1
     simp only [Option.some.injEq,Obj.cells.injEq] at hh1
     obtain ⟨rfl,rfl,_⟩:=hh1
     let s1:St:=s.setObj key (.own (mI z sz n) n)
     have hoff:off < cs.length:=(List.getElem?_eq_some_iff.1 hg).1
     have hget:∀ (i:Nat) (u:AV),(cs.set off (mJ key z sz n get))[i]?=some u->(i=off/\u=mJ key z sz n get)∨cs[i]?=some u:=by
      intro i u hu
      rw [List.getElem?_set] at hu
      by_cases e:off=i
      ·subst e;simp [hoff] at hu;exact .inl ⟨rfl,hu.symm⟩
      ·rw [if_neg e] at hu;exact .inr hu
     have hrel:Rel B c1 (s1.setObj ob (.cells (cs.set off (mJ key z sz n get)))) a:=by
      refine e2.obj (k:=ob) ((Keeps.refl c1 s1.objs).but ob) (Grow.refl e2.good) ⟨⟨⟨vs,t,by rw [e0.1,e1];exact hh,by rw [hs,List.length_set],λi u hu=>?_⟩,λi u hu=>?_⟩,hI1,hfr1⟩
       (λq o' b hq hne' hb' e=>e2.objs.apart q o' ob _ b hq hob1 hne' hb' e) (λq hq=>?_) (λb hb'=>e2.mine ob _ b hob1 hb')
      ·rcases hget i u hu with ⟨rfl,rfl⟩ | hu
       ·exact e3.rep
       ·exact hv1 i u hu
      ·rcases hget i u hu with ⟨rfl,rfl⟩ | hu
       ·exact (nq _ _ _ _ _).2.2
       ·exact h1 i u hu
      ·simp only [AO.keys] at hq
       rcases nA q hq with hq | hq
       ·exact .inr (e3.live q hq)
       ·exact .inr (e2.objs.closed ob _ hob1 q (by simpa [AO.keys] using hq))
     obtain ⟨c2,f1,f0,f2,f3⟩:=dq hrel hn he
     exact ⟨c2,f1.trans e1,f0.trans e0.2,f2,f3⟩
    ·simp at he
   ·exact dq h hn he
  ·exact dq h hn he
theorem lv (h:Rel B c s a) (hn:bg s) (hK:∀k,B.K k->ae<=k) {hint:Hint} {s':St} (he:j7 P hint s=some s'):∃c',c'.w=c.w/\c'.I=c.I/\Rel B c' s' a/\bg s':=by
 unfold j7 at he
 dsimp only at he
 obtain ⟨hb,he⟩:=bD he
 simp only [Bool.and_eq_true] at hb
 obtain ⟨s2,h1,he⟩:=ai he
 have hr:Rel B c {env:=dB s.env hint.keep,objs:=cF s.objs (hint.objs++tl s.objs)} a:=by
  refine h.less (λk hk=>kT (h.kept k hk) (hK k hk) (List.mem_append_right _ (xf (h.kept k hk) (hK k hk)))) (λt v hv=>dP hv) (λk o ho=>fc ho)
   (λt v hv k hk=>eK (bH hb.1 k (fZ hv k hk))) (λk o ho q hq=>eK (bH hb.2 q (n8 ho q hq)))
 have hn1:bg {env:=dB s.env hint.keep,objs:=cF s.objs (hint.objs++tl s.objs)}:=λt v hv=>hn t v (dP hv)
 obtain ⟨c1,e1,e0,e2,e3⟩:=fy hr hn1 h1
 obtain ⟨c2,f1,f0,f2,f3⟩:=dq e2 e3 he
 exact ⟨c2,f1.trans e1,f0.trans e0,f2,f3⟩
theorem jC (h:Rel B c s a) (hn:bg s) (hK:∀k,B.K k->ae<=k) {hint:Hint} {s':St} (he:j7 P hint s=some s'):∃c',c'.w=c.w/\Rel B c' s' a/\bg s':=
 let ⟨c',e,_,h',hn'⟩:=lv h hn hK he
 ⟨c',e,h',hn'⟩
end Go.Ab

namespace Go.Ab
open Go Go.RowKit
variable {B:Base} {c:Cx} {s:St} {a:Act} {X:Cfg}
def rf (l:Option Nat):Fence:={Fence.wide with round:=l}
theorem uT {P:Program} {l:Option Nat} {m m':Machine}:StepsIn (Machine.fenced P (rf l)) P m m'↔Steps P m m':=stepsIn_wide
theorem vG {l:Option Nat} {n:Nat} {P:Program} {f:FuncId} {args:Array Value} {w:World} {R:Ending->World->Prop} (h:Calls P f args w R):CallsIn (rf l) n P f args w R:=callsIn_wide.2 h
theorem wJ {l:Option Nat} {n:Nat} {P:Program} {row:String} {args:Array Value} {w:World} {R:Value->World->Prop} (h:Rows P row args w R):RowsIn (rf l) n P row args w R:=
 λc cs _=>let ⟨v,w',r,s⟩:=h c cs;⟨v,w',r,uT.2 s⟩
section
variable {P:Program} {ops:Array Oper} {Q:Exit->Act->World->Prop} {l:Option Nat} {n:Nat}
theorem A4 {o:Oper} {a:Act} {w:World} {K:Act->World->Prop} (hd:∀c,o.op≠.defer c) (h:o.wp P a w K Q):o.wpIn (rf l) n P a w K Q:=by
 refine ⟨λ_ _=>trivial,?_⟩
 rw [Oper.semAt_eq _ _ _ hd]
 unfold Oper.wp at h
 generalize (execOp a.eval o).run P w=r at *
 have hdep:(rf l).depth.isSome=true->1<=n:=λh=>by simp [rf,Fence.wide] at h
 cases r with
 | ok x w'=>
  cases x <;> simp only [Oper.upon,Oper.uponIn] at h ⊢ <;> first
   | exact h
   | exact ⟨hdep,vG h⟩
   | exact ⟨hdep,wJ h⟩
   | exact h.elim
 | halt x w'=>cases x <;> simp only [Oper.upon,Oper.uponIn] at h ⊢ <;> first | exact h | exact h.elim
def lP:List Oper->Bool
 | []=>true
 | o::r=>(match o.op with | .defer _=>false | _=>true)&&lP r
theorem fk:∀ {l:List Oper},lP l=true->∀o∈l,∀c,o.op≠.defer c
 | [],_,o,h,_=>by cases h
 | x::r,h,o,ho,c=>by
  simp only [lP,Bool.and_eq_true] at h
  rcases List.mem_cons.1 ho with rfl | ho
  ·intro e;rw [e] at h;cases h.1
  ·exact fk h.2 o ho c
theorem vV (hd:∀o∈ops.toList,∀c,o.op≠.defer c) (hQ:¬ LetsOut Q) {i:Nat} {K:Act->World->Prop} {a:Act} {w:World} (h:wpOp P ops Q i K a w):wpOpIn (rf l) n P ops Q i K a w:=by
 unfold wpOp at h
 unfold wpOpIn
 split
 ·rename_i ho;simp only [ho] at h;exact h
 ·rename_i o ho
  simp only [ho] at h
  have hmem:o∈ops.toList:=by
   obtain ⟨hlt,e⟩:=Array.getElem?_eq_some_iff.1 ho
   subst e;simp
  split
  ·rename_i hw
   rw [if_pos hw] at h
   rcases h with h | h
   ·exact A4 (hd o hmem) h
   ·exact absurd h.2 hQ
  ·rename_i hw
   rw [if_neg hw] at h
   exact ⟨λ_ _=>trivial,h⟩
theorem mQ (hd:∀o∈ops.toList,∀c,o.op≠.defer c) (hQ:¬ LetsOut Q):∀ (is:List Nat) (a:Act) (w:World),wpOps P ops Q is a w->wpOpsIn (rf l) n P ops Q is a w
 | [],_,_,h=>h
 | i::r,a,w,h=>by
  rw [wpOps_cons] at h
  rw [wpOpsIn_cons]
  exact wpOpIn_mono (λa w=>mQ hd hQ r a w) (vV hd hQ h)
theorem tD (hd:∀o∈ops.toList,∀c,o.op≠.defer c) (hQ:¬ LetsOut Q) {md:Region.Mode}:∀ (fuel:Nat) (listed:Array Bool) (a:Act) (w:World),wpAny P md ops Q fuel listed a w->wpAnyIn (rf l) n P md ops Q fuel listed a w
 | 0,_,_,_,h=>h
 | fuel+1,listed,a,w,h=>⟨h.1,λi hi=>wpOpIn_mono (λa w=>tD hd hQ fuel _ a w) (vV hd hQ (h.2 i hi))⟩
end
def nd (X:Cfg):Code->St->(Ex->St->Res)->Res
 | .skip,s,k=>k .nor s
 | .region _ ops draw,s,k=>cond (lP ops.toList) (cond draw (gp X ops s (k .nor)) (fh X ops s (k .nor))) none
 | .seq a b,s,k=>nd X a s λe s'=>match e with
  | .nor=>nd X b s' k
  | e=>k e s'
 | .cond c a b,s,k=>(match aP ⟨s,X.G,[]⟩ c with
  | some (.bool t)=>cond t (nd X a s k) (nd X b s k)
  | _=>none)
 | .block id b,s,k=>nd X b s λe s'=>match e with
  | .exit id'=>cond (Nat.beq id' id) (k .nor s') (k e s')
  | e=>k e s'
 | .exit id,s,k=>k (.exit id) s
 | .ret,s,k=>k .ret s
 | .label _,s,k=>k .nor s
 | _,_,_=>none
def Ex.toE:Ex->Exit
 | .nor=>.normal
 | .exit id=>.exit id
 | .ret=>.ret
theorem ep (hX:cv X) (hG:X.G=B.G) (hm:X.P.follows .mixedOrders=true) {l:Option Nat} {n:Nat}:∀ (code:Code),codeOk B.N code=true->∀ (s:St) (c:Cx) (a:Act) (k:Ex->St->Res) (r:AV×List AO) (Q:Exit->Act->World->Prop),nd X code s k=some r->Rel B c s a->bg s->¬ LetsOut Q->
  (∀ex s' c' a',k ex s'=some r->Rel B c' s' a'->bg s'->Q ex.toE a' c'.w)->code.wpIn (rf l) n X.P Q a c.w
 | .skip,_,s,c,a,k,r,Q,he,hr,hn,hQ,hk=>wpIn_skip (hk .nor s c a he hr hn)
 | .region id ops draw,hN,s,c,a,k,r,Q,he,hr,hn,hQ,hk=>by
  have hN':∀o∈ops.toList,∀d,o.dst=some d->d < B.N:=by
   intro o ho d hd
   simp only [codeOk] at hN
   have:=List.all_eq_true.1 hN o ho
   simp only [hd] at this
   exact ltB this
  simp only [nd] at he
  obtain ⟨hd,he⟩:=bD he
  cases draw with
  | true=>exact wpIn_region_any hm (tD (fk hd) hQ _ _ _ _ (mg hX hG he hr hn hN' λs' c' a' e1 e2 e3=>hk .nor s' c' a' e1 e2 e3))
  | false=>exact wpIn_region (mQ (fk hd) hQ _ _ _ (kI hX hG he hr hn hN' λs' c' a' e1 e2 e3=>hk .nor s' c' a' e1 e2 e3))
 | .seq x y,hN,s,c,a,k,r,Q,he,hr,hn,hQ,hk=>by
  simp only [codeOk,Bool.and_eq_true] at hN
  simp only [nd] at he
  refine wpIn_seq (ep hX hG hm x hN.1 s c a _ r _ he hr hn hQ λex s' c' a' hex hr' hn'=>?_)
  cases ex with
  | nor=>exact ep hX hG hm y hN.2 s' c' a' k r Q hex hr' hn' hQ hk
  | exit id=>exact hk _ s' c' a' hex hr' hn'
  | ret=>exact hk _ s' c' a' hex hr' hn'
 | .cond q x y,hN,s,c,a,k,r,Q,he,hr,hn,hQ,hk=>by
  simp only [codeOk,Bool.and_eq_true] at hN
  simp only [nd] at he
  split at he
  ·rename_i t ht
   rw [hG] at ht
   have hs:=(av hr (ch:=[]) (λt w hm=>by simp at hm) ht).rep
   have hq:a.eval q=.bool t:=by generalize a.eval q=V at hs;cases hs;rfl
   cases t with
   | true=>exact wpIn_cond hq (ep hX hG hm x hN.1 s c a k r Q he hr hn hQ hk)
   | false=>exact wpIn_cond hq (ep hX hG hm y hN.2 s c a k r Q he hr hn hQ hk)
  ·simp at he
 | .block id b,hN,s,c,a,k,r,Q,he,hr,hn,hQ,hk=>by
  simp only [codeOk] at hN
  simp only [nd] at he
  refine wpIn_block (ep hX hG hm b hN s c a _ r _ he hr hn hQ λex s' c' a' hex hr' hn'=>?_)
  cases ex with
  | nor=>exact hk _ s' c' a' hex hr' hn'
  | exit id'=>
   simp only [Ex.toE,Exit.inBlock]
   by_cases e:id'=id
   ·subst e
    simp only [Nat.beq_refl,cond_true] at hex
    rw [if_pos rfl];exact hk .nor s' c' a' hex hr' hn'
   ·simp only [il e,cond_false] at hex
    rw [if_neg e];exact hk (.exit id') s' c' a' hex hr' hn'
  | ret=>exact hk _ s' c' a' hex hr' hn'
 | .loop b,_,s,c,a,k,r,Q,he,hr,hn,hQ,hk=>by simp [nd] at he
 | .exit id,_,s,c,a,k,r,Q,he,hr,hn,hQ,hk=>wpIn_exit (hk (.exit id) s c a he hr hn)
 | .ret,_,s,c,a,k,r,Q,he,hr,hn,hQ,hk=>wpIn_ret (hk .ret s c a he hr hn)
 | .goto _,_,s,c,a,k,r,Q,he,hr,hn,hQ,hk=>by simp [nd] at he
 | .label _,_,s,c,a,k,r,Q,he,hr,hn,hQ,hk=>wpIn_label (hk .nor s c a he hr hn)
 | .scope b,_,s,c,a,k,r,Q,he,hr,hn,hQ,hk=>by simp [nd] at he
 | .rangeFunc ..,_,s,c,a,k,r,Q,he,hr,hn,hQ,hk=>by simp [nd] at he
 | .refuse _,_,s,c,a,k,r,Q,he,hr,hn,hQ,hk=>by simp [nd] at he
end Go.Ab

namespace Go.Ab
open Go Go.RowKit
variable {B:Base} {c:Cx} {s:St} {a:Act}
def oj:Obj->Bool
 | .loop _=>true
 | .deferred _=>true
 | _=>false
theorem w4 {o:Obj} (h:oj o=true):fL o=false:=by cases o <;> simp_all [oj,fL]
theorem xT {k:Nat} {o:AO} {b:Nat} (h:dh c k o) (hb:excl c k o b):∃ob,c.w.heap[b]?=some ob/\oj ob=false:=by
 cases o with
 | cells cs=>obtain ⟨⟨⟨vs,t,hh,_⟩,_⟩,_⟩:=h;simp [excl] at hb;subst hb;exact ⟨_,hh,rfl⟩
 | arr sz n get=>obtain ⟨⟨⟨vs,t,hh,_⟩,_⟩,_⟩:=h;simp [excl] at hb;subst hb;exact ⟨_,hh,rfl⟩
 | frz sz n get=>obtain ⟨⟨⟨vs,t,hh,_⟩,_⟩,_⟩:=h;simp [excl] at hb;subst hb;exact ⟨_,hh,rfl⟩
 | own sz n=>
  obtain ⟨_,_,hm⟩:=h
  cases hc:c.κ k with
  | none=>simp [excl,hc] at hb
  | some p=>
   obtain ⟨a,cap⟩:=p
   simp [excl,hc] at hb
   simp only [hc] at hm
   obtain ⟨⟨vs,t,hh,_⟩,_⟩:=hm.2.2 hb.1
   rw [<-hb.2];exact ⟨_,hh,rfl⟩
 | grw sq sz n get=>
  obtain ⟨_,_,hm⟩:=h
  cases hc:c.κ k with
  | none=>simp [excl,hc] at hb
  | some p=>
   obtain ⟨a,cap⟩:=p
   simp [excl,hc] at hb
   simp only [hc] at hm
   obtain ⟨⟨vs,t,hh,_⟩,_⟩:=hm.2 hb.1
   rw [<-hb.2];exact ⟨_,hh,rfl⟩
 | iter s p=>obtain ⟨hh,_⟩:=h;simp [excl] at hb;subst hb;exact ⟨_,hh,rfl⟩
 | mp ka ks dom get=>obtain ⟨⟨⟨es,clock,ms,hh,_⟩,_⟩,_⟩:=h;simp [excl] at hb;subst hb;exact ⟨_,hh,rfl⟩
 | mat sz n g o=>
  obtain ⟨⟨⟨vs,t,hh,_,_,h2,_⟩,_⟩,_⟩:=h
  rcases hb with hb | ⟨vs',t',i,a,l,cap,e,hi,hn,hv,hl,hb⟩
  ·rw [<-hb];exact ⟨_,hh,rfl⟩
  ·rw [hh] at e;injection e with e;injection e with e;subst e
   obtain ⟨⟨⟨vs',t',g1,_⟩,_⟩,_⟩:=h2 i hi hn a l cap hv hl
   rw [<-hb];exact ⟨_,g1,rfl⟩
 | gone=>simp [excl] at hb
theorem pF {L:Nat} {ob:Obj} (hL:c.w.heap[L]?=some ob) (ho:oj ob=true) {k:Nat} {o:AO} {b:Nat} (h:dh c k o) (hb:excl c k o b):b≠L:=by
 rintro rfl
 obtain ⟨ob',h1,h2⟩:=xT h hb
 rw [hL] at h1;cases h1;rw [ho] at h2;cases h2
theorem zJ {w:World} {L o:Nat} {ob:Obj} (hL:w.heap[L]?=some ob) (ho:oj ob=true):w.cell? ⟨L,o,none⟩=none:=by
 unfold World.cell?
 simp only [hL]
 cases ob <;> simp_all [oj]
def Cx.odd (c:Cx) (L:Nat) (ob:Obj):Cx:={c with w:=c.w.putObj L ob}
theorem Rel.odd (h:Rel B c s a) {L:Nat} {ob:Obj} (ob':Obj) (hL:c.w.heap[L]?=some ob) (ho:oj ob=true) (hI:∀o,¬ c.I L o) (hB:B.c0.w.heap.size<=L):Rel B (c.odd L ob') s a/\∀ks,Ext c (c.odd L ob') ks:=by
 have hne:∀ {b o},c.I b o->b≠L:=λhi e=>hI _ (e ▸ hi)
 have hext:∀ks,Ext c (c.odd L ob') ks:=λks=>⟨λb o v hi hv=>by show (c.w.putObj L ob').cell? _=_;rw [World.bN (World.putObj_heap_other (hne hi))];exact hv,λ_ _ hi=>hi,λ_ _=>rfl,λ_ _ _ _ hr=>hr,
  λb o ob hi he _=>(World.putObj_heap_other (hne hi)).trans he⟩
 refine ⟨h.keep ⟨hext _,λ_ _=>rfl,λ_ _=>rfl,λ_ _=>rfl,λq o b hq hb=>⟨World.putObj_heap_other (pF hL ho (h.objs.rep q o hq) hb),λ_ hi=>hi⟩⟩
  ⟨rfl,rfl,rfl,by simp [Cx.odd],λb hb _=>World.putObj_heap_other (by omega),λ_ _ _ _ hi=>hi,λb o hi=>h.good.block hi (World.putObj_heap_other (hne hi))⟩,hext⟩
def Cx.lay (c:Cx) (ob:Obj) (m:Bool):Cx:={c with w:=c.w.alloc ob,I:=λb o=>c.I b o∨(m=true/\b=c.w.heap.size/\o=0)}
theorem Rel.lay (h:Rel B c s a) (ob:Obj) (m:Bool) (ho:oj ob=true):Rel B (c.lay ob m) s a:=by
 have hlt:∀ {b o},c.I b o->(c.w.alloc ob).heap[b]?=c.w.heap[b]?:=λhi=>aB _ _ _ (h.good.lt hi)
 refine h.keep ⟨ln h.good rfl (λ_ _ hi=>.inl hi) (λ_ _=>rfl) (λ_ _=>rfl) (λ_ _=>rfl),λ_ _=>rfl,λ_ _=>rfl,λ_ _=>rfl,λq o b hq hb=>?_⟩
  ⟨rfl,rfl,rfl,by simp [Cx.lay],λb hb _=>aB _ _ _ (Nat.lt_of_lt_of_le hb h.frame.size),λb o hb _ hi=>?_,λb o hi=>?_⟩
 ·have hb':=cq (h.objs.rep q o hq) hb
  refine ⟨aB _ _ _ hb',λoff hi=>?_⟩
  rcases hi with hi | ⟨_,rfl,_⟩
  ·exact hi
  ·omega
 ·rcases hi with hi | ⟨_,rfl,_⟩
  ·exact hi
  ·have:=h.frame.size;omega
 ·rcases hi with hi | ⟨_,rfl,_⟩
  ·exact h.good.block hi (hlt hi)
  ·exact .inr ⟨ob,bc _ _,w4 ho⟩
theorem Defs.lt:∀ {l:List Deferred},Defs B c l->∀d∈l,∀D,d.target=.collected D->D < c.w.heap.size
 | [],_,d,hd,_,_=>by cases hd
 | x::r,h,d,hd,D,e=>by
  obtain ⟨⟨D',h1,h2,h3,h4,h5⟩,h6⟩:=h
  rcases List.mem_cons.1 hd with rfl | hd
  ·rw [h1] at e;cases e;exact aQ h4
  ·exact Defs.lt h6 d hd D e
def Base.at (B:Base) (c:Cx) (s:St):Base:={c0:=c,D:=held c s.objs,K:=live s.objs,G:=B.G,N:=B.N,low:=B.low}
theorem Defs.low {B':Base} (hl:B'.low=B.low):∀ {l:List Deferred},Defs B c l->Defs B' c l
 | [],_=>trivial
 | _::_,⟨⟨D,h1,h2,h3⟩,h6⟩=>⟨⟨D,h1,by rw [hl];exact h2,h3⟩,Defs.low hl h6⟩
theorem Rel.rebase (h:Rel B c s a):Rel (B.at c s) c s a:=
 ⟨h.good,⟨rfl,rfl,rfl,Nat.le_refl _,λ_ _ _=>rfl,Ext.refl _ _,λ_ _ _ _ hi=>hi⟩,h.objs,h.env,h.closed,λk o b ho hb=>.inr ⟨k,o,ho,hb⟩,h.tmps,Defs.low (B:=B) (B':=B.at c s) rfl h.defers,λ_ hk=>hk⟩
theorem Defs.none (hl:B.low=none):∀ {l:List Deferred},Defs B c l->l=[]
 | [],_=>rfl
 | _::_,⟨⟨D,h1,⟨m,h2,_⟩,_⟩,_⟩=>by rw [hl] at h2;cases h2
theorem Rel.unheld (h:Rel B c s a) {b:Nat} (hb:b < B.c0.w.heap.size) (hd:¬ B.D b):¬ held c s.objs b:=by
 rintro ⟨k,o,ho,hb'⟩
 rcases h.mine k o b ho hb' with h1 | h1
 ·omega
 ·exact hd h1
theorem Rel.unbase {c':Cx} {s':St} {a a':Act} (h:Rel B c s a) (h':Rel (B.at c s) c' s' a'):Rel B c' s' a':=by
 have hsz:B.c0.w.heap.size<=(B.at c s).c0.w.heap.size:=h.frame.size
 refine ⟨h'.good,⟨h'.frame.os.trans h.frame.os,h'.frame.output.trans h.frame.output,h'.frame.tape.trans h.frame.tape,Nat.le_trans h.frame.size h'.frame.size,
  λb hb hd=>(h'.frame.block b (Nat.lt_of_lt_of_le hb hsz) (h.unheld hb hd)).trans (h.frame.block b hb hd),h.frame.ext.trans (h'.frame.ext.sub λk hk=>h.kept k hk),
  λb o hb hd hi=>h.frame.new b o hb hd (h'.frame.new b o (Nat.lt_of_lt_of_le hb hsz) (h.unheld hb hd) hi)⟩,h'.objs,h'.env,h'.closed,λk o b ho hb=>?_,h'.tmps,Defs.low (B:=B.at c s) (B':=B) rfl h'.defers,λk hk=>h'.kept k (h.kept k hk)⟩
 rcases h'.mine k o b ho hb with h1 | ⟨q,o',h1,h2⟩
 ·exact .inl (Nat.le_trans hsz h1)
 ·exact h.mine q o' b h1 h2
theorem Rel.back {c2:Cx} {s2:St} {a2:Act} (h:Rel B c s a) (h2:Rel B c2 s2 a2) (e:Ext c c2 (live s.objs)) (hl:∀k,live s.objs k->live s2.objs k):Rel B c2 {env:=s.env,objs:=s2.objs} a:=
 ⟨h2.good,h2.frame,h2.objs,λt v hv=>(h.env t v hv).ext e (h.closed t v hv),λt v hv k hk=>hl k (h.closed t v hv k hk),h2.mine,h.tmps,h.defers.ext e,λk hk=>hl k (h.kept k hk)⟩
theorem dQ.nN {c c':Cx} {a:Act} {t:Nat} {v:AV} {ks:Nat->Prop} (h:dQ c a t v) (e:ExtR c c' ks) (hk:∀k∈v.keys,ks k):dQ c' a t v:=by
 cases v with
 | grd tc w v=>exact ⟨λhw=>(h.1 hw).nN e (by simpa [AV.keys] using hk),h.2⟩
 | _=>exact Rep.nN h e hk
def Cx.shut (c:Cx) (D:Nat):Cx:={c with w:=c.w.putObj D (.deferred none),I:=λb o=>c.I b o/\b≠D}
theorem Defs.shut {D:Nat}:∀ {l:List Deferred},Defs B c l->(∀d∈l,d.target≠.collected D)->Defs B (c.shut D) l
 | [],_,_=>trivial
 | x::r,⟨⟨D',h1,h2,h3,h4,h5⟩,h6⟩,hn=>by
  have hne:D'≠D:=λe=>hn x (by simp) (by rw [h1,e])
  exact ⟨⟨D',h1,h2,⟨h3,hne⟩,(World.putObj_heap_other hne).trans h4,h5⟩,Defs.shut h6 λd hd=>hn d (List.mem_cons_of_mem _ hd)⟩
theorem Rel.Gc (hg0:Good B.G B.c0) {D:Nat} {ob:Obj} {r:List Deferred} (h:Rel B c s a) (hD:c.w.heap[D]?=some ob) (ho:oj ob=true) (hB:B.c0.w.heap.size<=D) (hr:Defs B (c.shut D) r):Rel B (c.shut D) s {a with defers:=r}:=by
 have hoth:∀ {b},b≠D->(c.shut D).w.heap[b]?=c.w.heap[b]?:=λhne=>World.putObj_heap_other hne
 have hcell:∀ {b o v},c.w.cell? ⟨b,o,none⟩=some v->b≠D:=by
  rintro b o v hv rfl;rw [zJ hD ho] at hv;cases hv
 have hmap:∀ {b es cl},c.w.heap[b]?=some (.map es cl)->b≠D:=by
  rintro b es cl hv rfl;rw [hD] at hv;cases hv;cases ho
 have hext:∀ks,ExtR c (c.shut D) ks:=λks=>⟨λb o v hi hv=>⟨by rw [World.bN (hoth (hcell hv))];exact hv,hi,hcell hv⟩,λ_ _=>rfl,λ_ _ _ _ hr=>hr,λb o es cl hi he=>⟨(hoth (hmap he)).trans he,hi,hmap he⟩⟩
 have hne:∀ {q o b},alook s.objs q=some o->excl c q o b->b≠D:=λhq hb=>pF hD ho (h.objs.rep _ _ hq) hb
 have hex:∀q o,alook s.objs q=some o->excl (c.shut D) q o=excl c q o:=λq o hq=>cW rfl rfl λb hb=>hoth (hne hq hb)
 refine ⟨⟨λb o hi=>h.good.block hi.1 (hoth hi.2),λg cs hg=>(h.good.globs g cs hg).nN (hext λ_=>False) (by simp [AV.keys])⟩,
  ⟨h.frame.os,h.frame.output,h.frame.tape,by simpa [Cx.shut] using h.frame.size,λb hb hd=>(hoth (by omega)).trans (h.frame.block b hb hd),⟨λb o v hi hv=>?_,λb o hi=>⟨h.frame.ext.I b o hi,?_⟩,h.frame.ext.β,h.frame.ext.own,λb o ob hi he hc=>?_⟩,λb o hb hd hi=>h.frame.new b o hb hd hi.1⟩,
  ⟨λq o hq=>h.objs.nh (p:=λ_=>True) ⟨hext _,λ_ _ _=>rfl,λ_ _ _=>rfl,λ_ _ _=>rfl,λq' o' b hq' _ hb=>⟨hoth (hne hq' hb),λ_ hi=>hi.1⟩⟩ hq trivial,λk o k' o' b hk hk' hne' hb=>by rw [hex k' o' hk'];rw [hex k o hk] at hb;exact h.objs.apart k o k' o' b hk hk' hne' hb,h.objs.closed⟩,
  λt v hv=>(h.env t v hv).nN (hext _) (h.closed t v hv),h.closed,λk o b hk hb=>h.mine k o b hk (by rwa [hex k o hk] at hb),h.tmps,hr,h.kept⟩
 ·have h1:=dN hv
  rw [World.bN (hoth (by omega))];exact h.frame.ext.cell b o v hi hv
 ·have h1:=hg0.lt hi
  omega
 ·have h1:=aQ he
  exact (hoth (by omega)).trans (h.frame.ext.map b o ob hi he hc)
theorem Rel.shut (hg0:Good B.G B.c0) (hlow:B.low=some B.c0.w.heap.size):∀ (l:List Deferred) (c:Cx) (a:Act),a.defers=l->Rel B c s a->∃c',Rel B c' s {a with defers:=[]} /\
  ∀ (F:Fence) (n:Nat) (P:Program) (fn:Func) (tmps:Array Value) (R:Ending->World->Prop),(∃v,(results fn tmps).run P c'.w=.ok v c'.w/\R (.returned v) c'.w)->LeavesInM F n P fn tmps R l .returning c.w
 | [],c,a,e,h=>⟨c,by rw [<-e];exact h,λF n P fn tmps R hR=>hR⟩
 | d::r,c,a,e,h=>by
  have hd:=h.defers
  rw [e] at hd
  obtain ⟨⟨D,h1,h2,h3,h4,h5⟩,h6⟩:=hd
  obtain ⟨m,e1,e2⟩:=h2
  rw [hlow] at e1
  cases e1
  have h':=h.Gc (r:=r) hg0 h4 rfl e2 (h6.shut h5)
  obtain ⟨c',g1,g2⟩:=Rel.shut hg0 hlow r (c.shut D) {a with defers:=r} rfl h'
  exact ⟨c',g1,λF n P fn tmps R hR=>⟨by simp,.inl ⟨D,_,by rw [h1],run_takeDeferred h4,g2 F n P fn tmps R hR⟩⟩⟩
theorem kx {P:Program} {f:FuncId} {fn:Func} {code:Code} {args:Array Value} {w:World} {R:Ending->World->Prop} (hf:P.funcs[f]?=some fn) (hb:fn.body=some code)
  (h:code.wp P (bodyPostM Fence.wide 0 P fn R) {tmps:=args++Array.replicate (fn.ntmps - args.size) undef,defers:=[]} w):Calls P f args w R:=
 callsIn_wide.1 (callsIn_of_wp_marks hf hb trivial (wpIn_wide.2 h))
end Go.Ab

namespace Go.Ab
open Go Go.RowKit
variable {B:Base} {c:Cx} {s:St} {a:Act} {X:Cfg}
def Ex.to:Ex->Exit
 | .nor=>.normal
 | .exit id=>.exit id
 | .ret=>.ret
def lz (P:Program) (c:Code) (Q:Exit->Act->World->Prop) (a:Act) (w:World):Prop:=
 ∀ (b:Go.Frame) (k:List Item) (cs:List Go.Frame),∃e a' w',Q e a' w'/\Arrives P (lone (b.at a (.code c::.inLoop c::k)) cs w) b k cs e a' w'
theorem lz.unroll {P:Program} {c:Code} {Q:Exit->Act->World->Prop} {a:Act} {w:World} (h:c.wp P (Exit.then (lz P c Q) Q) a w):lz P c Q a w:=by
 intro b k cs
 obtain ⟨e,a₁,w₁,hq,harr⟩:=h b (.inLoop c::k) cs
 cases e with
 | normal=>
  obtain ⟨e₂,a₂,w₂,hq₂,harr₂⟩:=hq b k cs
  exact ⟨e₂,a₂,w₂,hq₂,.of_steps (Steps.trans harr (.one step_inLoop)) harr₂⟩
 | exit id=>exact ⟨_,a₁,w₁,hq,.pass (x:=.inLoop c) rfl (λ_ _=>.inl (by simp)) harr⟩
 | goto l=>exact ⟨_,a₁,w₁,hq,.pass (x:=.inLoop c) rfl (λ_ _=>.inl (by simp)) harr⟩
 | ret=>exact ⟨_,a₁,w₁,hq,.pass (x:=.inLoop c) rfl (λ_ _=>.inl (by simp)) harr⟩
 | panic ch=>exact ⟨_,a₁,w₁,hq,.pass (x:=.inLoop c) rfl (λ_ _=>.inl (by simp)) harr⟩
 | outgrown=>exact ⟨_,a₁,w₁,hq,.pass (x:=.inLoop c) rfl (λ_ _=>.inl (by simp)) harr⟩
theorem lz.wp {P:Program} {c:Code} {Q:Exit->Act->World->Prop} {a:Act} {w:World} (h:lz P c Q a w):(Code.loop c).wp P Q a w:=λb k cs=>
 let ⟨e,a',w',q,r⟩:=h b k cs;⟨e,a',w',q,.of_steps (.one step_loop) r⟩
def Sound (X:Cfg) (B:Base) (code:Code) (run:St->(Ex->St->Res)->Res):Prop:=
 ∀ (s:St) (c:Cx) (a:Act) (k:Ex->St->Res) (r:AV×List AO) (Q:Exit->Act->World->Prop),run s k=some r->Rel B c s a->bg s->
  (∀ex s' c' a',k ex s'=some r->Rel B c' s' a'->bg s'->Q ex.to a' c'.w)->code.wp X.P Q a c.w
theorem kl {body:Code} {run:St->(Ex->St->Res)->Res} (hb:Sound X B body run) (hK:∀k,B.K k->ae<=k) {h:Hint}:∀ (n:Nat) (s:St) (c:Cx) (a:Act) (k:Ex->St->Res) (r:AV×List AO) (Q:Exit->Act->World->Prop),
  oe X.P run h n s k=some r->Rel B c s a->bg s->(∀ex s' c' a',k ex s'=some r->Rel B c' s' a'->bg s'->Q ex.to a' c'.w)->lz X.P body Q a c.w
 | 0,s,c,a,k,r,Q,he,_,_,_=>by simp [oe] at he
 | n+1,s,c,a,k,r,Q,he,hr,hn,hk=>by
  simp only [oe] at he
  obtain ⟨s1,h1,he⟩:=ai he
  obtain ⟨c1,e1,e2,e3⟩:=jC hr hn hK h1
  apply lz.unroll
  rw [<-e1]
  refine hb s1 c1 a _ r _ he e2 e3 λex s' c' a' hex hr' hn'=>?_
  cases ex with
  | nor=>exact kl hb hK n s' c' a' k r Q hex hr' hn' hk
  | exit id=>exact hk _ s' c' a' hex hr' hn'
  | ret=>exact hk _ s' c' a' hex hr' hn'
theorem bL:∀ (c:Code) (p:List Nat) (i:Nat),dL c (p++[i])=dL (dL c p) [i]
 | c,[],i=>by simp [dL]
 | .seq a b,0::r,i=>by simp only [List.cons_append,dL];exact bL a r i
 | .seq a b,(j+1)::r,i=>by simp only [List.cons_append,dL];exact bL b r i
 | .cond q a b,0::r,i=>by simp only [List.cons_append,dL];exact bL a r i
 | .cond q a b,(j+1)::r,i=>by simp only [List.cons_append,dL];exact bL b r i
 | .block id b,j::r,i=>by simp only [List.cons_append,dL];exact bL b r i
 | .loop b,j::r,i=>by simp only [List.cons_append,dL];exact bL b r i
 | .scope b,j::r,i=>by simp only [List.cons_append,dL];exact bL b r i
 | .skip,_::_,i | .region ..,_::_,i | .exit _,_::_,i | .ret,_::_,i | .goto _,_::_,i | .label _,_::_,i | .rangeFunc ..,_::_,i | .refuse _,_::_,i=>by simp [dL]
theorem kc {P:Program} (h:Rel B c s a) (hn:bg s) (hK:∀k,B.K k->ae<=k) {hint:Option Hint} {s':St} (he:we P hint s=some s'):∃c',c'.w=c.w/\Rel B c' s' a/\bg s':=by
 cases hint with
 | none=>
  simp only [we,Option.some.injEq] at he
  subst he
  exact ⟨c,rfl,h,hn⟩
 | some _=>exact jC h hn hK he
def sA (X:Cfg) (f:FuncId) (n m:Nat) (c:Code) (p:List Nat) (s:St) (k:Ex->St->Res):Res:=
 match c with
 | .loop b=>gP X f n b (p++[0]) s λe s'=>match e with
  | .nor=>oe X.P (gP X f n b (p++[0])) (X.hint f (lH b)) m s' k
  | e=>k e s'
 | _=>none
def mP (X:Cfg) (f:FuncId) (p:List Nat) (g:St->(Ex->St->Res)->Res):Prop:=
 ∀ (B:Base) (s:St) (c:Cx) (a:Act) (k:Ex->St->Res) (r:AV×List AO) (Q:Exit->Act->World->Prop),X.G=B.G->(∀k,B.K k->ae<=k)->B.low=some B.c0.w.heap.size->codeOk B.N (dL (bE X.P f) p)=true->g s k=some r->Rel B c s a->bg s->
  (∀ex s' c' a',k ex s'=some r->Rel B c' s' a'->bg s'->Q ex.to a' c'.w)->(dL (bE X.P f) p).wp X.P Q a c.w
structure OracOk (X:Cfg) (f:FuncId):Prop where
 cut:∀p g,X.cutO f p=some g->∀s k r,g s k=some r->∃n,gP X f n (dL (bE X.P f) p) p s k=some r
 view:∀p g,X.viewO f p=some g->∀s k r,g s k=some r->∃s',k s'=some r/\∀ (B:Base) (c:Cx) (a:Act),Rel B c s a->bg s->∃c',c'.w=c.w/\Rel B c' s' a/\bg s'
 loop:∀p g,X.loopO f p=some g->∀s k r,g s k=some r->∃n m,sA X f n m (dL (bE X.P f) p) p s k=some r
 rng:∀p g,X.rngO f p=some g->mP X f p g
theorem cV (hX:cv X) (hG:X.G=B.G) (hm:X.P.follows .mixedOrders=true) (hK:∀k,B.K k->ae<=k) (hlow:B.low=some B.c0.w.heap.size) (f:FuncId) (hO:OracOk X f):∀ (code:Code) (p:List Nat),dL (bE X.P f) p=code->codeOk B.N code=true->∀n,Sound X B code (gP X f n code p)
 | .skip,_,_,_,n=>λs c a k r Q he hr hn hk=>wp_skip (hk .nor s c a he hr hn)
 | .region id ops draw,p,_,hN,n=>λs c a k r Q he hr hn hk=>by
  have hN':∀o∈ops.toList,∀d,o.dst=some d->d < B.N:=by
   intro o ho d hd
   simp only [codeOk] at hN
   have:=List.all_eq_true.1 hN o ho
   simp only [hd] at this
   exact ltB this
  simp only [gP] at he
  cases draw with
  | true=>exact n6 hX hG hm he hr hn hN' λs' c' a' e1 e2 e3=>hk .nor s' c' a' e1 e2 e3
  | false=>exact na hX hG he hr hn hN' λs' c' a' e1 e2 e3=>hk .nor s' c' a' e1 e2 e3
 | .seq x y,p,hp,hN,n=>λs c a k r Q he hr hn hk=>by
  simp only [codeOk,Bool.and_eq_true] at hN
  simp only [gP] at he
  have hp1:dL (bE X.P f) (p++[0])=x:=by rw [bL,hp];simp [dL]
  have hp2:dL (bE X.P f) (p++[1])=y:=by rw [bL,hp];simp [dL]
  apply wp_seq
  refine cV hX hG hm hK hlow f hO x _ hp1 hN.1 n s c a _ r _ he hr hn λex s' c' a' hex hr' hn'=>?_
  cases ex with
  | nor=>
   obtain ⟨s1,h1,hex⟩:=ai hex
   obtain ⟨c0,e01,e02,e03⟩:=kc hr' hn' hK h1
   have hv:∃s2 c2,(match X.cutO f (p++[1]) with | none=>gP X f n y (p++[1]) s2 k | some g=>g s2 k)=some r/\c2.w=c0.w/\Rel B c2 s2 a'/\bg s2:=by
    cases hv:X.viewO f (p++[1]) with
    | none=>simp only [yr,hv] at hex;exact ⟨s1,c0,hex,rfl,e02,e03⟩
    | some g=>
     simp only [yr,hv] at hex
     obtain ⟨s2,g1,g2⟩:=hO.view _ g hv _ _ _ hex
     obtain ⟨c2,g3,g4,g5⟩:=g2 B c0 a' e02 e03
     exact ⟨s2,c2,g1,g3,g4,g5⟩
   clear hex
   obtain ⟨s1,c1,hex,e1,e2,e3⟩:=hv
   rw [<-e01,<-e1]
   cases hc:X.cutO f (p++[1]) with
   | none=>
    simp only [hc] at hex
    exact cV hX hG hm hK hlow f hO y _ hp2 hN.2 n s1 c1 a' k r Q hex e2 e3 hk
   | some g=>
    simp only [hc] at hex
    obtain ⟨n',hn'⟩:=hO.cut _ g hc s1 k r hex
    rw [hp2] at hn'
    exact cV hX hG hm hK hlow f hO y _ hp2 hN.2 n' s1 c1 a' k r Q hn' e2 e3 hk
  | exit id=>exact hk _ s' c' a' hex hr' hn'
  | ret=>exact hk _ s' c' a' hex hr' hn'
 | .cond q x y,p,hp,hN,n=>λs c a k r Q he hr hn hk=>by
  simp only [codeOk,Bool.and_eq_true] at hN
  simp only [gP] at he
  have hp1:dL (bE X.P f) (p++[0])=x:=by rw [bL,hp];simp [dL]
  have hp2:dL (bE X.P f) (p++[1])=y:=by rw [bL,hp];simp [dL]
  split at he
  ·rename_i t ht
   rw [hG] at ht
   have hs:=(av hr (ch:=[]) (λt w hm=>by simp at hm) ht).rep
   have hq:a.eval q=.bool t:=by generalize a.eval q=V at hs;cases hs;rfl
   cases t with
   | true=>exact wp_cond hq (cV hX hG hm hK hlow f hO x _ hp1 hN.1 n s c a k r Q he hr hn hk)
   | false=>exact wp_cond hq (cV hX hG hm hK hlow f hO y _ hp2 hN.2 n s c a k r Q he hr hn hk)
  ·simp at he
 | .block id b,p,hp,hN,n=>λs c a k r Q he hr hn hk=>by
  simp only [codeOk] at hN
  simp only [gP] at he
  have hp1:dL (bE X.P f) (p++[0])=b:=by rw [bL,hp];simp [dL]
  apply wp_block
  refine cV hX hG hm hK hlow f hO b _ hp1 hN n s c a _ r _ he hr hn λex s' c' a' hex hr' hn'=>?_
  cases ex with
  | nor=>exact hk _ s' c' a' hex hr' hn'
  | exit id'=>
   simp only [Ex.to,Exit.inBlock]
   by_cases e:id'=id
   ·subst e
    simp only [Nat.beq_refl,cond_true] at hex
    rw [if_pos rfl];exact hk .nor s' c' a' hex hr' hn'
   ·simp only [il e,cond_false] at hex
    rw [if_neg e];exact hk (.exit id') s' c' a' hex hr' hn'
  | ret=>exact hk _ s' c' a' hex hr' hn'
 | .loop b,p,hp,hN,n=>λs c a k r Q he hr hn hk=>by
  simp only [codeOk] at hN
  simp only [gP] at he
  have hp1:dL (bE X.P f) (p++[0])=b:=by rw [bL,hp];simp [dL]
  have hb:=cV hX hG hm hK hlow f hO b _ hp1 hN
  cases hc:X.loopO f p with
  | none=>
   simp only [hc] at he
   exact (kl (hb n) hK n s c a k r Q he hr hn hk).wp
  | some g=>
   simp only [hc] at he
   obtain ⟨s1,h1,he⟩:=ai he
   obtain ⟨n',m,he⟩:=hO.loop _ g hc s1 k r he
   rw [hp] at he
   simp only [sA] at he
   obtain ⟨c1,e1,e2,e3⟩:=jC hr hn hK h1
   refine lz.wp (lz.unroll ?_)
   rw [<-e1]
   refine hb n' s1 c1 a _ r _ he e2 e3 λex s' c' a' hex hr' hn'=>?_
   cases ex with
   | nor=>exact kl (hb n') hK m s' c' a' k r Q hex hr' hn' hk
   | exit id=>exact hk _ s' c' a' hex hr' hn'
   | ret=>exact hk _ s' c' a' hex hr' hn'
 | .exit id,_,_,_,n=>λs c a k r Q he hr hn hk=>by
  simp only [gP] at he
  obtain ⟨s1,h1,he⟩:=ai he
  obtain ⟨c1,e1,e2,e3⟩:=kc hr hn hK h1
  rw [<-e1]
  exact wp_exit (hk (.exit id) s1 c1 a he e2 e3)
 | .ret,_,_,_,n=>λs c a k r Q he hr hn hk=>by
  simp only [gP] at he
  obtain ⟨s1,h1,he⟩:=ai he
  obtain ⟨c1,e1,e2,e3⟩:=kc hr hn hK h1
  rw [<-e1]
  exact wp_ret (hk .ret s1 c1 a he e2 e3)
 | .goto _,_,_,_,n=>λs c a k r Q he hr hn hk=>by simp [gP] at he
 | .label _,_,_,_,n=>λs c a k r Q he hr hn hk=>by
  simp only [gP] at he
  exact wp_label (hk .nor s c a he hr hn)
 | .scope b,p,hp,hN,n=>λs c a k r Q he hr hn hk=>by
  simp only [codeOk] at hN
  simp only [gP] at he
  have hp1:dL (bE X.P f) (p++[0])=b:=by rw [bL,hp];simp [dL]
  refine wp_scope_straight (cV hX hG hm hK hlow f hO b _ hp1 hN n s c a k r _ he hr hn λex s' c' a' hex hr' hn'=>?_)
  cases ex with
  | nor=>exact hk .nor s' c' a' hex hr' hn'
  | exit id=>exact hk (.exit id) s' c' a' hex hr' hn'
  | ret=>exact hk .ret s' c' a' hex hr' hn'
 | .rangeFunc g ps x y,p,hp,hN,n=>λs c a k r Q he hr hn hk=>by
  simp only [gP] at he
  cases hc:X.rngO f p with
  | none=>simp only [hc] at he;cases he
  | some g=>
   simp only [hc] at he
   have:=hO.rng p g hc B s c a k r Q hG hK hlow (by rw [hp];exact hN) he hr hn hk
   rw [hp] at this
   exact this
 | .refuse _,_,_,_,n=>λs c a k r Q he hr hn hk=>by simp [gP] at he
end Go.Ab

namespace Go.Ab
open Go Go.RowKit
variable {B:Base} {c:Cx} {s:St} {a:Act} {X:Cfg}
structure QuietO (G:Nat->Option (List AV)) (ol:List (Nat×AO)) (c c':Cx):Prop where
 os:c'.w.os=c.w.os
 output:c'.w.output=c.w.output
 tape:c'.w.tape=c.w.tape
 size:c.w.heap.size<=c'.w.heap.size
 block:∀b,b < c.w.heap.size->¬ held c ol b->c'.w.heap[b]?=c.w.heap[b]?
 I:∀b o,c.I b o->c'.I b o
 new:∀b o,b < c.w.heap.size->c'.I b o->c.I b o
 β:c'.β=c.β
 κ:c'.κ=c.κ
 fr:c'.fr=c.fr
 good:Good G c'
 objs:Objs c' ol
def Ao (os:List (Nat×AO)):Prop:=∀k o,alook os k=some o->∃cs,o=.cells cs/\au cs=[]
theorem Rel.quiet {os:List (Nat×AO)} (h:Rel B c s a) (hv:Ao os) (hs:∀k o,alook os k=some o->s.obj k=some o) {c':Cx} (q:QuietO B.G os c c'):Rel B c' s a:=by
 have hnot:∀b o,c.I b o->¬ held c os b:=by
  rintro b o hi ⟨k,ob,hk,hb⟩
  obtain ⟨cs,rfl,_⟩:=hv k ob hk
  have:=h.objs.rep k _ (hs k _ hk)
  simp only [excl] at hb
  subst hb
  exact this.2.1 o hi
 have hext:∀ks,Ext c c' ks:=λks=>⟨λb o v hi hc=>by rw [World.bN (q.block b (dN hc) (hnot b o hi))];exact hc,q.I,λ_ _=>by rw [q.β],λ_ _ _ _ hr=>by simpa only [aG,q.κ,q.fr] using hr,
  λb o ob hi he _=>(q.block b (aQ he) (hnot b o hi)).trans he⟩
 have hgrow:Grow B c c':=⟨q.os,q.output,q.tape,q.size,λb hb hd=>q.block b (Nat.lt_of_lt_of_le hb h.frame.size) ?_,λb o hb _ hi=>q.new b o (Nat.lt_of_lt_of_le hb h.frame.size) hi,q.good.there⟩
 ·have hex:∀k o,alook s.objs k=some o->excl c' k o=excl c k o:=λk o hk=>by
   cases ho:alook os k with
   | some o'=>
    have e:some o=some o':=hk.symm.trans (hs k o' ho)
    cases e
    obtain ⟨cs,rfl,_⟩:=hv k o ho
    funext b;simp only [excl,q.β]
   | none=>
    exact cW (by rw [q.β]) (by rw [q.κ]) λb hb=>q.block b (cq (h.objs.rep k o hk) hb) (by
     rintro ⟨k2,o2,hk2,hb2⟩
     exact h.objs.apart k o k2 o2 b hk (hs k2 o2 hk2) (λe=>by rw [e,hk2] at ho;cases ho) hb hb2)
  refine ⟨q.good,h.frame.grow (hext _) hgrow h.kept,⟨λk o hk=>?_,λk o k' o' b hk hk' hne hb=>by rw [hex k' o' hk'];rw [hex k o hk] at hb;exact h.objs.apart k o k' o' b hk hk' hne hb,h.objs.closed⟩,λt v ht=>(h.env t v ht).ext (hext _) (h.closed t v ht),h.closed,λk o b hk hb=>h.mine k o b hk (by rwa [hex k o hk] at hb),h.tmps,h.defers.ext (hext λ_=>False),h.kept⟩
  cases ho:alook os k with
  | some o'=>
   have:=hs k o' ho
   have e:some o=some o':=hk.symm.trans this
   cases e
   exact q.objs.rep k o ho
  | none=>
   refine h.objs.nh (p:=λk=>alook os k=none) ⟨(hext _).toR,λ_ _ _=>by rw [q.β],λ_ _ _=>by rw [q.κ],λ_ _ _=>by rw [q.fr],λk1 o1 b1 hk1 hp hb1=>?_⟩ hk ho
   have hlt:=cq (h.objs.rep k1 o1 hk1) hb1
   refine ⟨q.block b1 hlt ?_,λoff hi=>q.new b1 off hlt hi⟩
   rintro ⟨k2,o2,hk2,hb2⟩
   exact h.objs.apart k1 o1 k2 o2 b1 hk1 (hs k2 o2 hk2) (λe=>by rw [e,hk2] at hp;cases hp) hb1 hb2
 ·rintro ⟨k,o,hk,hb'⟩
  rcases h.mine k o b (hs k o hk) hb' with h1 | h1
  ·omega
  ·exact hd h1
def tx (P:Program) (l:Nat) (args:Array Value) (W:World) (R:Ending->World->Prop):Prop:=
 ∃fn tmps assign body,(Instr.yield l args).run P W=.ok (.round l fn tmps assign body) W/\RoundIn Fence.wide 0 P l fn tmps assign body W R
def rD (P:Program) (G:Nat->Option (List AV)) (h:FuncId) (caps:List AV) (os:List (Nat×AO)) (N:Nat) (row:Nat->List AV):Prop:=
 ∀ (l:Nat) (vs:Array Value) (J:Nat->Cx->Prop),
  (∀j c,J j c->Good G c/\Objs c os/\vs.size=caps.length/\∀ (i:Nat) (u:AV),caps[i]?=some u->Rep c u (vs.getD i undef))->
  (∀ (j:Nat) (c c':Cx),J j c->QuietO G os c c'->J j c')->
  (∀ (j:Nat) (c:Cx) (xs:Array Value),j < N->J j c->xs.size=(row j).length->(∀ (i:Nat) (u:AV),(row j)[i]?=some u->Rep c u (xs.getD i undef))->
   tx P l xs c.w λe w'=>e=.returned (.bool true)/\∃c',c'.w=w'/\J (j+1) c'/\ExtR c c' (λ_=>False))->
  ∀c,J 0 c->CallsIn Fence.wide 0 P h (#[.func (.yield l) #[] #[]]++vs) c.w λe w'=>(∃v,e=.returned v)/\∃c',c'.w=w'/\J N c'
def Cg:List (Nat×AV)->List Nat->List AV->List (Nat×AV)
 | env,p::ps,v::vs=>Cg (aput env p v) ps vs
 | env,_,_=>env
theorem ox:∀ (ps:List Nat) (vs:List AV) (xs:List Value) (env:List (Nat×AV)) (objs:List (Nat×AO)) (tm:Array Value) (ds:List Deferred),vs.length=ps.length->xs.length=ps.length->(∀p∈ps,p < B.N)->
  Rel B c {env:=env,objs:=objs} {tmps:=tm,defers:=ds}->bg {env:=env,objs:=objs}->(∀ (i:Nat) (u:AV) (x:Value),vs[i]?=some u->xs[i]?=some x->Rep c u x/\u.cA=false/\u.keys=[])->
  Rel B c {env:=Cg env ps vs,objs:=objs} {tmps:=(ps.zip xs).foldl (λt p=>t.setIfInBounds p.1 p.2) tm,defers:=ds}/\bg {env:=Cg env ps vs,objs:=objs}
 | [],vs,xs,env,objs,tm,ds,_,_,_,h,hn,_=>by simpa [Cg] using And.intro h hn
 | p::ps,[],xs,env,objs,tm,ds,h1,_,_,_,_,_=>by simp at h1
 | p::ps,v::vs,[],env,objs,tm,ds,_,h2,_,_,_,_=>by simp at h2
 | p::ps,v::vs,x::xs,env,objs,tm,ds,h1,h2,hp,h,hn,hv=>by
  obtain ⟨e1,e2,e3⟩:=hv 0 v x rfl rfl
  have hput:=h.put (d:=p) (v:=v) (x:=x) (hp p (by simp)) e1 e2 (by rw [e3];intro k hk;cases hk) (λt tc w v' hg=>by have:=hn t _ hg;simp [AV.cA] at this)
  have hn':bg {env:=aput env p v,objs:=objs}:=bg.put (s:={env:=env,objs:=objs}) hn e2
  have:=ox ps vs xs (aput env p v) objs (tm.setIfInBounds p x) ds (by simpa using h1) (by simpa using h2) (λq hq=>hp q (by simp [hq])) hput hn' (λi u y hu hy=>hv (i+1) u y (by simpa using hu) (by simpa using hy))
  simpa [Cg] using this
def tT (X:Cfg) (ps:List Nat) (x y:Code) (h:Hint) (vals:List AV) (s:St) (kn:St->Res):Res:=
 nd X x {env:=Cg s.env ps vals,objs:=s.objs} λe s1=>match e with
  | .nor=>nd X y s1 λe s2=>match e with
   | .nor=>(j7 X.P h {env:=s.env,objs:=s2.objs}).bind kn
   | _=>none
  | _=>none
noncomputable def tX (X:Cfg) (g:Operand) (cl:AV) (ps:List Nat) (x y:Code) (h:Hint) (os:List (Nat×AO)) (N:Nat) (row:Nat->List AV):Nat->Nat->St->(Ex->St->Res)->Res
 | 0,_,_,_=>none
 | n+1,j,s,k=>cond (@decide (aP ⟨s,X.G,[]⟩ g=some cl/\∀p∈os,s.obj p.1=some p.2) (Classical.propDecidable _))
   (cond (Nat.blt j N) (tT X ps x y h (row j) s λs'=>tX X g cl ps x y h os N row n (j+1) s' k) (k .nor s)) none
theorem kL {g:Operand} {cl:AV} {ps:List Nat} {x y:Code} {h:Hint} {os:List (Nat×AO)} {N:Nat} {row:Nat->List AV} {n j:Nat} {k:Ex->St->Res} {r:AV×List AO} (he:tX X g cl ps x y h os N row n j s k=some r) :
  aP ⟨s,X.G,[]⟩ g=some cl/\(∀p∈os,s.obj p.1=some p.2)/\∃m,cond (Nat.blt j N) (tT X ps x y h (row j) s λs'=>tX X g cl ps x y h os N row m (j+1) s' k) (k .nor s)=some r:=by
 cases n with
 | zero=>cases he
 | succ m=>
  unfold tX at he
  obtain ⟨h1,h2⟩:=bD he
  have h1:=@of_decide_eq_true _ (Classical.propDecidable _) h1
  exact ⟨h1.1,h1.2,m,h2⟩
theorem ExtR.trans {a b c:Cx} {ks:Nat->Prop} (h:ExtR a b ks) (h':ExtR b c ks):ExtR a c ks:=
 ⟨λbl o v hi hv=>h'.cell bl o v (h.cell bl o v hi hv).2 (h.cell bl o v hi hv).1,λk hk=>(h'.β k hk).trans (h.β k hk),λk hk n v hv=>h'.own k hk n v (h.own k hk n v hv),λbl o es cl hi he=>h'.map bl o es cl (h.map bl o es cl hi he).2 (h.map bl o es cl hi he).1⟩
theorem ExtR.none {a b:Cx} {ks:Nat->Prop} (h:ExtR a b ks):ExtR a b (λ_=>False):=⟨h.cell,λ_ hk=>hk.elim,λ_ hk=>hk.elim,h.map⟩
theorem Ext.same {c c':Cx} (hw:c'.w=c.w) (hI:c'.I=c.I):Ext c c' (λ_=>False):=⟨λb o v _ hv=>by rw [hw];exact hv,λb o hi=>by rw [hI];exact hi,λ_ hk=>hk.elim,λ_ hk=>hk.elim,λb o ob _ he _=>by rw [hw];exact he⟩
theorem eL {α:Type}:∀ {l:List (Nat×α)} {k:Nat} {o:α},alook l k=some o->(k,o)∈l
 | [],_,_,h=>by cases h
 | (q,x)::r,k,o,h=>by
  simp only [alook] at h
  by_cases e:q=k
  ·subst e;simp at h;subst h;simp
  ·rw [il e,cond_false] at h;exact List.mem_cons_of_mem _ (eL h)
theorem wN (hX:cv X) (hG:X.G=B.G) (hm:X.P.follows .mixedOrders=true) (hK:∀k,B.K k->ae<=k) {g:Operand} {ps:Array Tmp} {x y:Code} (hN:codeOk B.N (.rangeFunc g ps x y)=true)
  {hf:FuncId} {caps:List AV} {os:List (Nat×AO)} {N:Nat} {row:Nat->List AV} (hit:rD X.P B.G hf caps os N row)
  (hfn:∃fn,X.P.funcs[hf]?=some fn/\(fn.name=="runtime.NumGoroutine")=false/\fn.body.isSome=true) (hrow:∀j,j < N->(row j).length=ps.size/\∀u∈row j,u.cA=false/\u.keys=[]) (hos:Ao os) {h:Hint} {n:Nat}
  {s:St} {c:Cx} {a:Act} {k:Ex->St->Res} {r:AV×List AO} {Q:Exit->Act->World->Prop}
  (he:tX X g (.fn hf [] caps) ps.toList x y h os N row n 0 s k=some r) (hr:Rel B c s a) (hn:bg s) (hlw:∃m,B.low=some m/\m<=c.w.heap.size)
  (hk:∀ex s' c' a',k ex s'=some r->Rel B c' s' a'->bg s'->Q ex.to a' c'.w):(Code.rangeFunc g ps x y).wp X.P Q a c.w:=by
 simp only [codeOk,Bool.and_eq_true] at hN
 obtain ⟨hNp,hNx,hNy⟩:=hN
 have hps:∀p∈ps.toList,p < B.N:=λp hp=>ltB (List.all_eq_true.1 hNp p hp)
 refine (wpIn_wide (n:=0)).1 (wpIn_rangeFunc λfn _=>?_)
 have hdep:∀m,Fence.wide.depth.isSome=true->1<=m:=λm hh=>by simp [Fence.wide] at hh
 obtain ⟨hev,_,_⟩:=kL he
 rw [hG] at hev
 have hsee:=(av hr (ch:=[]) (λt w hm=>by simp at hm) hev).rep
 obtain ⟨vb,hg⟩:∃vb,a.eval g=.func (.func hf) #[] vb:=by
  generalize a.eval g=V at hsee
  cases hsee with
  | fn f p q va vb h1 h2 h3 h4=>exact ⟨vb,by rw [Array.eq_empty_of_size_eq_zero h1]⟩
 obtain ⟨rec,hrec⟩:∃rec:LoopState->Option Code->Loop,rec=λst pe=>{state:=st,pending:=pe,fn,tmps:=a.tmps,params:=ps,assign:=x,body:=y,defers:=c.w.heap.size}:=⟨_,rfl⟩
 let D:=c.w.heap.size
 let L:=c.w.heap.size+1
 let a1:Act:={a with defers:={target:=.collected D,args:=#[]}::a.defers}
 let c1:=c.lay (.deferred (some [])) true
 let c2:=c1.lay (.loop (rec .ready none)) false
 have hr1:Rel B c1 s a:=hr.lay _ true rfl
 have hr2:Rel B c2 s a:=hr1.lay _ false rfl
 have hw2:c2.w=(c.w.alloc (.deferred (some []))).alloc (.loop (rec .ready none)):=rfl
 have hD2:c2.w.heap[D]?=some (.deferred (some [])):=by
  rw [hw2,aB _ _ _ (by simp [D])];exact bc c.w _
 have hL2:c2.w.heap[L]?=some (.loop (rec .ready none)):=by
  have:=bc (c.w.alloc (.deferred (some []))) (.loop (rec .ready none))
  rw [hw2];simpa [L] using this
 have hI2:∀o,¬ c2.I L o:=by
  rintro o (hi | ⟨hf,_⟩)
  ·rcases hi with hi | ⟨_,hb,_⟩
   ·have:=hr.good.lt hi;simp only [L] at this;omega
   ·simp only [L] at hb;omega
  ·cases hf
 have hra:Rel B c2 s a1:=by
  refine ⟨hr2.good,hr2.frame,hr2.objs,hr2.env,hr2.closed,hr2.mine,hr2.tmps,⟨⟨D,rfl,hlw,.inl (.inr ⟨rfl,rfl,rfl⟩),hD2,λd' hd' e=>?_⟩,hr2.defers⟩,hr2.kept⟩
  have:=Defs.lt hr.defers d' hd' D e
  simp only [D] at this;omega
 refine ⟨L,[{target:=.collected D,args:=#[]}],c2.w,{target:=.fn (.func hf) vb,args:=#[.func (.yield L) #[] #[]]},c2.w,hf,#[.func (.yield L) #[] #[]]++vb,c2.w,?_,?_,?_,?_,λhh=>hdep _ hh,?_⟩
 ·rw [hw2,hrec];exact run_enterLoop_outer _ _ _ _ _
 ·simp only [resolve,hg]
  simp [go_sem]
 ·intro f' _;exact trivial
 ·obtain ⟨fn',g1,g2,g3⟩:=hfn
  have eg:=mf (w:=c2.w) (args:=#[.func (.yield L) #[] #[]]++vb) g1 g2 g3
  simp [invoke,go_sem,eg]
 ·-- the invariant between two rounds
  let J:Nat->Cx->Prop:=λj c=>∃ (m:Nat) (s:St),Rel B c s a1/\bg s/\tX X g (.fn hf [] caps) ps.toList x y h os N row m j s k=some r/\c.w.heap[L]?=some (.loop (rec .ready none))/\(∀o,¬ c.I L o)
  have hBL:B.c0.w.heap.size<=L:=by simp only [L];have:=hr.frame.size;omega
  have hvb:∀j c,J j c->Good B.G c/\Objs c os/\vb.size=caps.length/\∀ (i:Nat) (u:AV),caps[i]?=some u->Rep c u (vb.getD i undef):=by
   rintro j c ⟨m,s,h1,h2,h3,h4,h5⟩
   obtain ⟨e1,e2,_⟩:=kL h3
   rw [hG] at e1
   have hs:=(av h1 (ch:=[]) (λt w hm=>by simp at hm) e1).rep
   have hga:a1.eval g=.func (.func hf) #[] vb:=hg
   rw [hga] at hs
   cases hs with
   | fn _ _ _ _ _ g1 g2 g3 g4=>exact ⟨h1.good,⟨λk o hk=>h1.objs.rep k o (e2 _ (eL hk)),λk o k' o' b hk hk'=>h1.objs.apart k o k' o' b (e2 _ (eL hk)) (e2 _ (eL hk')),λk o hk q hq=>by obtain ⟨cs,rfl,hcs⟩:=hos k o hk;simp [AO.keys,hcs] at hq⟩,g2,g4⟩
  refine (hit L vb J hvb (λj c c' hJ q=>?_) (λj c xs hj hJ hxs hxr=>?_) c2 ⟨n,s,hra,hn,he,hL2,hI2⟩).mono ?_
  ·obtain ⟨m,s,h1,h2,h3,h4,h5⟩:=hJ
   obtain ⟨_,e2,_⟩:=kL h3
   have hs:∀k o,alook os k=some o->s.obj k=some o:=λk o hk=>e2 _ (eL hk)
   refine ⟨m,s,h1.quiet hos hs q,h2,h3,(q.block L (aQ h4) ?_).trans h4,λo hi=>h5 o (q.new L o (aQ h4) hi)⟩
   rintro ⟨k',o',hk',hb'⟩
   exact pF h4 rfl (h1.objs.rep k' o' (hs k' o' hk')) hb' rfl
  ·-- one round
   obtain ⟨m,s,h1,h2,h3,h4,h5⟩:=hJ
   obtain ⟨e1,e2,m',h3⟩:=kL h3
   rw [tj hj,cond_true] at h3
   obtain ⟨hlen,hplain⟩:=hrow j hj
   have hy:=run_yield (P:=X.P) (args:=xs) h4 (by rw [hrec,hxs,hlen])
   rw [hrec] at hy
   refine ⟨fn,_,x,y,hy,roundIn_of_wpIn (F:=Fence.wide) trivial ?_⟩
   have hb0:Rel (B.at c s) c s {tmps:=a.tmps,defers:=[]}:=⟨h1.rebase.good,h1.rebase.frame,h1.rebase.objs,h1.rebase.env,h1.rebase.closed,h1.rebase.mine,h1.rebase.tmps,trivial,h1.rebase.kept⟩
   obtain ⟨hb1,hb2⟩:=ox (B:=B.at c s) ps.toList (row j) xs.toList s.env s.objs a.tmps [] (by rw [hlen];simp) (by rw [Array.length_toList,hxs,hlen];simp) hps hb0 h2 (λi u v hu hv=>by
    refine ⟨?_,hplain u (List.mem_of_getElem? hu)⟩
    have:=hxr i u hu
    rw [Array.getElem?_toList] at hv
    rw [Array.getD_eq_getD_getElem?,hv] at this
    exact this)
   have hfold:(ps.zip xs).foldl (λtmps (t,a)=>tmps.setIfInBounds t a) a.tmps=(ps.toList.zip xs.toList).foldl (λt p=>t.setIfInBounds p.1 p.2) a.tmps:=by
    rw [<-Array.foldl_toList,Array.toList_zip]
   rw [hfold]
   unfold tT at h3
   have hnl:∀ (K:Act->World->Prop),¬ LetsOut (Exit.then K (λ_ _ _=>False)):=λK ⟨_,_,hq⟩=>hq
   refine ep (l:=some L) (n:=0) (B:=B.at c s) hX hG hm x hNx _ c _ _ r _ h3 hb1 hb2 (hnl _) λex s1 c1' a1' hex hr1' hn1'=>?_
   cases ex with
   | exit id=>cases hex
   | ret=>cases hex
   | nor=>
    dsimp only at hex
    have hnheld:∀ {c:Cx} {s:St} {a:Act} {B:Base} {ob:Obj},Rel B c s a->c.w.heap[L]?=some ob->oj ob=true->¬ (held c s.objs L):=λhR hL ho ⟨q,o,hq,hb⟩=>pF hL ho (hR.objs.rep q o hq) hb rfl
    have hL1:c1'.w.heap[L]?=some (.loop (rec .ready none)):=(hr1'.frame.block L (aQ h4) (hnheld h1 h4 rfl)).trans h4
    have hI1:∀o,¬ c1'.I L o:=λo hi=>h5 o (hr1'.frame.new L o (aQ h4) (hnheld h1 h4 rfl) hi)
    have hru:Rel B c1' s1 a1':=h1.unbase hr1'
    obtain ⟨hrb,hextb⟩:=hru.odd (.loop {rec .ready none with state:=.busy}) hL1 rfl hI1 hBL
    have hLb:(c1'.odd L (.loop {rec .ready none with state:=.busy})).w.heap[L]?=some (.loop {rec .ready none with state:=.busy}):=World.putObj_heap_same (aQ hL1)
    have hIb:∀o,¬ (c1'.odd L (.loop {rec .ready none with state:=.busy})).I L o:=hI1
    generalize hcb:c1'.odd L (.loop {rec .ready none with state:=.busy})=cb at hrb hextb hLb hIb
    have hwb:cb.w=c1'.w.putObj L (.loop {rec .ready none with state:=.busy}):=by rw [<-hcb];rfl
    refine ⟨cb.w,by rw [hwb];exact run_beginRound hL1 (by rw [hrec]),?_⟩
    refine ep (l:=some L) (n:=0) (B:=B.at cb s1) hX hG hm y hNy s1 cb a1' _ r _ hex hrb.rebase hn1' (λ⟨_,_,hq⟩=>hq) λex s2 c2' a2' hex2 hr2' hn2'=>?_
    cases ex with
    | exit id=>cases hex2
    | ret=>cases hex2
    | nor=>
     dsimp only at hex2
     obtain ⟨s',hat,hex2⟩:=ai hex2
     have hL2':c2'.w.heap[L]?=some (.loop {rec .ready none with state:=.busy}):=(hr2'.frame.block L (aQ hLb) (hnheld hrb hLb rfl)).trans hLb
     have hI2':∀o,¬ c2'.I L o:=λo hi=>hIb o (hr2'.frame.new L o (aQ hLb) (hnheld hrb hLb rfl) hi)
     have hru2:Rel B c2' s2 a2':=hrb.unbase hr2'
     have hsub:∀k,live s.objs k->live s1.objs k:=hr1'.kept
     have hext:Ext c c2' (live s.objs):=(hr1'.frame.ext.trans (hextb _)).trans (hr2'.frame.ext.sub hsub)
     have hback:Rel B c2' {env:=s.env,objs:=s2.objs} a1:=h1.back hru2 hext λk hk=>hr2'.kept k (hsub k hk)
     have hend:=run_endRound (P:=X.P) none hL2'
     obtain ⟨hr3,hext3⟩:=hback.odd (.loop (rec .ready none)) hL2' rfl hI2' hBL
     have hL3:(c2'.odd L (.loop (rec .ready none))).w.heap[L]?=some (.loop (rec .ready none)):=World.putObj_heap_same (aQ hL2')
     obtain ⟨c4,f1,f2,f3,f4⟩:=lv hr3 (s:={env:=s.env,objs:=s2.objs}) h2 hK hat
     refine ⟨_,_,hend,rfl,c4,?_,⟨m',s',f3,f4,hex2,by rw [f1];exact hL3,λo hi=>hI2' o (by rw [f2] at hi;exact hi)⟩,?_⟩
     ·rw [f1]
      show c2'.w.putObj L (.loop (rec .ready none))=_
      rw [hrec];rfl
     ·exact ((hext.trans (hext3 _)).toR.none).trans (Ext.same f1 f2).toR.none
  ·rintro e W2 ⟨⟨v,rfl⟩,c5,rfl,m,s5,h1,h2,h3,h4,h5⟩
   obtain ⟨_,_,m',h3⟩:=kL h3
   have:Nat.blt N N=false:=by
    cases hb:Nat.blt N N with
    | false=>rfl
    | true=>exact absurd (ltB hb) (Nat.lt_irrefl _)
   rw [this,cond_false] at h3
   obtain ⟨hr6,_⟩:=h1.odd (.loop {rec .ready none with state:=.exhausted}) h4 rfl h5 hBL
   refine ⟨none,(c5.odd L (.loop {rec .ready none with state:=.exhausted})).w,?_,hk .nor s5 _ a1 h3 hr6 h2⟩
   rw [run_endLoop (P:=X.P) h4 (by rw [hrec];simp),hrec]
   rfl
end Go.Ab

namespace Go.Ab
open Go Go.RowKit
theorem fe:∀ (l:List AV) (b k:Nat),alook (dt l b) k=if b<=k then l[k - b]? else none
 | [],b,k=>by simp [dt,alook]
 | o::r,b,k=>by
  simp only [dt,alook]
  by_cases h:b=k
  ·subst h;simp
  ·rw [il h,cond_false,fe r (b+1) k]
   by_cases h1:b+1<=k
   ·rw [if_pos h1,if_pos (by omega)]
    have:k - b=(k - (b+1))+1:=by omega
    rw [this];simp
   ·rw [if_neg h1,if_neg (by omega)]
theorem fR {os:List AO} {b k:Nat} (h:live (af os b) k):b<=k/\k - b < os.length:=by
 obtain ⟨o,ho⟩:=h
 rw [bV] at ho
 by_cases hb:b<=k
 ·rw [if_pos hb] at ho;exact ⟨hb,(List.getElem?_eq_some_iff.1 ho).1⟩
 ·rw [if_neg hb] at ho;cases ho
def AU (tmps:Array Value):ResultVar->Sem Value
 | .tmp t=>pure (tmps.getD t undef)
 | .cell q t=>do loadVar t (<-asAddr (tmps.getD q undef))
theorem lL (fn:Func) (tmps:Array Value):results fn tmps=(fn.results.mapM (AU tmps) >>= λvs=>pure (if h:vs.size=1 then vs[0] else .tuple vs)):=by
 unfold results
 congr 1
theorem fJ {B:Base} {c:Cx} {s:St} {a:Act} (X:Cfg) (h:Rel B c s a) (hn:bg s):∀ {l:List ResultVar} {vs:List AV},kf X s l=some vs->
  ∃xs:List Value,dg B c s vs xs/\(l.mapM (m:=Sem) (AU a.tmps)).run X.P c.w=.ok xs c.w
 | [],vs,he=>by simp [kf] at he;subst he;exact ⟨[],⟨rfl,λi u hu=>by simp at hu⟩,rfl⟩
 | r::l,vs,he=>by
  simp only [kf] at he
  obtain ⟨v,h1,he⟩:=ai he
  obtain ⟨us,h2,he⟩:=a8 he
  subst he
  obtain ⟨xs,h3,h4⟩:=fJ X h hn h2
  cases r with
  | cell q t=>
   simp only [rQ] at h1
   split at h1
   ·rename_i k off hq
    obtain ⟨⟨b,u0⟩,hl,h1⟩:=ai h1
    obtain ⟨hb,h1'⟩:=ay h1
    dsimp only at hb h1'
    simp only [Option.some.injEq] at h1'
    subst hb h1'
    have hE:Rep c (.ref k off) (a.tmps.getD q undef):=h.env q _ hq
    obtain ⟨x,g1,g2⟩:=nz h hE hl
    generalize hV:a.tmps.getD q undef=V at hE g1
    cases hE
    rw [ec] at g1
    refine ⟨x::xs,⟨by simp [h3.1],λi u hu=>?_⟩,?_⟩
    ·cases i with
     | zero=>simp at hu;subst hu;exact g2
     | succ i=>simpa using h3.2 i u (by simpa using hu)
    ·rw [List.mapM_cons]
     simp only [AU,hV,asAddr,pure_bind,Sem.run_bind,g1,h4,Result.andThen_ok,Sem.run_pure]
   ·cases h1
  | tmp t=>
   simp only [rQ] at h1
   have hE:=h.env t v h1
   have hg:=hn t v h1
   have hr:Rep c v (a.tmps.getD t undef):=by cases v <;> first | exact hE | simp [AV.cA] at hg
   refine ⟨a.tmps.getD t undef::xs,⟨by simp [h3.1],λi u hu=>?_⟩,?_⟩
   ·cases i with
    | zero=>simp at hu;subst hu;exact ⟨hr,h.closed t v h1,hg⟩
    | succ i=>simpa using h3.2 i u (by simpa using hu)
   ·rw [List.mapM_cons]
    simp only [AU,pure_bind,Sem.run_bind,h4,Result.andThen_ok,Sem.run_pure]
theorem cr {N M:Nat} (h:N<=M):∀ {c:Code},codeOk N c=true->codeOk M c=true
 | .region _ ops _,hc=>by
  simp only [codeOk] at hc ⊢
  rw [List.all_eq_true] at hc ⊢
  intro o ho
  have:=hc o ho
  cases hd:o.dst with
  | none=>rfl
  | some d=>simp only [hd] at this ⊢;exact tj (Nat.lt_of_lt_of_le (ltB this) h)
 | .seq a b,hc=>by simp only [codeOk,Bool.and_eq_true] at hc ⊢;exact ⟨cr h hc.1,cr h hc.2⟩
 | .cond _ a b,hc=>by simp only [codeOk,Bool.and_eq_true] at hc ⊢;exact ⟨cr h hc.1,cr h hc.2⟩
 | .block _ b,hc=>by simp only [codeOk] at hc ⊢;exact cr h hc
 | .loop b,hc=>by simp only [codeOk] at hc ⊢;exact cr h hc
 | .scope b,hc=>by simp only [codeOk] at hc ⊢;exact cr h hc
 | .rangeFunc _ ps a b,hc=>by
  simp only [codeOk,Bool.and_eq_true] at hc ⊢
  refine ⟨?_,cr h hc.2.1,cr h hc.2.2⟩
  rw [List.all_eq_true] at hc ⊢
  exact λp hp=>tj (Nat.lt_of_lt_of_le (ltB (hc.1 p hp)) h)
 | .skip,_ | .exit _,_ | .ret,_ | .goto _,_ | .label _,_ | .refuse _,_=>by simp [codeOk]
theorem ov {X:Cfg} (hX:cv X) (hm:X.P.follows .mixedOrders=true) {f:FuncId} (hO:OracOk X f) {fn:Func} (hf:X.P.funcs[f]?=some fn) (hok:∀c,fn.body=some c->codeOk fn.ntmps c=true) {n:Nat} {args:List AV} {os:List AO}
  {r:AV} {os':List AO} (he:yJ X n f args os=some (r,os')):lA X.P X.G f args os r os':=by
 unfold yJ at he
 rw [hf] at he
 dsimp only at he
 cases hbody:fn.body with
 | none=>simp [hbody] at he
 | some code=>
  simp only [hbody] at he
  have hcode:=hok code hbody
  intro c0 vs hgood hobjs hsz hrep hkeys
  let a0:Act:={tmps:=vs++Array.replicate (fn.ntmps - vs.size) undef,defers:=[]}
  let B:Base:={c0:=c0,D:=held c0 (af os ae),K:=live (af os ae),G:=X.G,N:=a0.tmps.size}
  let s0:St:={env:=dt args 0,objs:=af os ae}
  have hN:fn.ntmps<=B.N:=by simp [B,a0];omega
  have hcode':codeOk B.N code=true:=cr hN hcode
  have hget:∀t v,s0.get t=some v->args[t]?=some v:=λt v hv=>by
   have:alook (dt args 0) t=some v:=hv
   rw [fe,if_pos (Nat.zero_le _)] at this;simpa using this
  have hval:∀t v,args[t]?=some v->Rep c0 v (a0.tmps.getD t undef):=λt v hv=>by
   have hlt:t < vs.size:=by rw [hsz];exact (List.getElem?_eq_some_iff.1 hv).1
   have e:a0.tmps.getD t undef=vs.getD t undef:=by
    simp only [a0,Array.getD_eq_getD_getElem?]
    rw [Array.getElem?_append_left hlt]
   rw [e];exact hrep t v hv
  have hplain:∀t v,s0.get t=some v->v.cA=false:=λt v hv=>by
   have:=hval t v (hget t v hv)
   generalize a0.tmps.getD t undef=V at this
   cases this <;> rfl
  have h0:Rel B c0 s0 a0:=by
   refine ⟨hgood,⟨rfl,rfl,rfl,Nat.le_refl _,λ_ _ _=>rfl,Ext.refl _ _,λ_ _ _ _ hi=>hi⟩,hobjs,λt v hv=>dQ.nr (hplain t v hv) (hval t v (hget t v hv)),
    λt v hv k hk=>hkeys k (aR (hget t v hv) k hk),λk o b ho hb=>.inr ⟨k,o,ho,hb⟩,rfl,trivial,λk hk=>hk⟩
  refine kx hf hbody ?_
  refine cV (B:=B) hX rfl hm (λk hk=>(fR hk).1) rfl f hO code [] (by simp [bE,dL,hf,hbody]) hcode' n s0 c0 a0 _ (r,os') _ he h0 hplain λex s' c9 a' hex hr9 hn'=>?_
  obtain ⟨c',hr',hL⟩:=Rel.shut (B:=B) hgood rfl _ c9 a' rfl hr9
  have hfin:finish X fn os.length s'=some (r,os')->∃v,(results fn a'.tmps).run X.P c'.w=.ok v c'.w/\∃c2 x,Ending.returned v=.returned x/\c2.w=c'.w/\Good X.G c2 /\
   Frame {c0:=c0,D:=held c0 (af os ae),K:=live (af os ae),G:=X.G,N:=0} c2 /\
   Objs c2 (af os' ae)/\Rep c2 r x/\(∀k∈r.keys,live (af os' ae) k) /\
   ∀k o b,alook (af os' ae) k=some o->excl c2 k o b->c0.w.heap.size<=b∨held c0 (af os ae) b:=by
   intro hfin
   unfold finish at hfin
   simp only [gA] at hfin
   obtain ⟨rs,h1,hfin⟩:=ai hfin
   obtain ⟨⟨rs',o1⟩,h2,hfin⟩:=ai hfin
   dsimp only at hfin
   obtain ⟨os1,h3,hfin⟩:=ai hfin
   obtain ⟨hb,hfin⟩:=bD hfin
   simp only [Option.some.injEq,Prod.mk.injEq] at hfin
   obtain ⟨hres,rfl⟩:=hfin
   simp only [Bool.and_eq_true] at hb
   obtain ⟨xs,hs,hrun⟩:=fJ X hr' hn' h1
   obtain ⟨c2,e1,e2,e3,e4,e5⟩:=dm hr' hs h2
   have hs2:=e3.shed
   have hfn:=hs2.fn
   obtain ⟨hlen,hlook⟩:=ft h3
   have hks:∀i,i < os.length->((List.range os.length).map (ae+·))[i]?=some (ae+i):=λi hi=>by simp [hi]
   have hl1:os1.length=os.length:=by rw [hlen];simp
   have hsub:∀k o,alook (af os1 ae) k=some o->alook o1 k=some o:=by
    intro k o ho
    rw [bV] at ho
    by_cases hb:ae<=k
    ·rw [if_pos hb] at ho
     have hlt:=(List.getElem?_eq_some_iff.1 ho).1
     have:=(hlook _ _ (hks (k - ae) (by omega))).1
     rw [Nat.add_sub_cancel' hb] at this
     rw [this];exact ho
    ·rw [if_neg hb] at ho;cases ho
   have hmem:∀k,k∈(List.range os.length).map (ae+·)->live (af os1 ae) k:=by
    intro k hk
    simp only [List.mem_map,List.mem_range] at hk
    obtain ⟨i,hi,rfl⟩:=hk
    refine ⟨os1[i]'(by omega),?_⟩
    rw [bV,if_pos (Nat.le_add_right _ _),Nat.add_sub_cancel_left]
    exact List.getElem?_eq_getElem _
   have hkk:∀k o,alook (af os1 ae) k=some o->k∈(List.range os.length).map (ae+·):=by
    intro k o ho
    obtain ⟨h1,h2⟩:=fR ⟨o,ho⟩
    simp only [List.mem_map,List.mem_range]
    exact ⟨k - ae,by omega,by omega⟩
   obtain ⟨v,hv,hrv,hrk⟩:∃v,(results fn a'.tmps).run X.P c'.w=.ok v c'.w/\Rep c2 r v/\∀k∈r.keys,k∈au (bS rs'):=by
    have hm':(fn.results.mapM (m:=Sem) (AU a'.tmps)).run X.P c'.w=.ok xs.toArray c'.w:=by
     rw [Array.mapM_eq_mapM_toList]
     simp only [Sem.run_map]
     rw [hrun];rfl
    have hres':∀ (v:Value),(if h:xs.toArray.size=1 then xs.toArray[0] else Value.tuple xs.toArray)=v->(results fn a'.tmps).run X.P c'.w=.ok v c'.w:=by
     intro v hv
     rw [lL]
     simp only [Sem.run_bind,hm',Result.andThen_ok]
     rw [hv];rfl
    by_cases h1:xs.length=1
    ·obtain ⟨x,rfl⟩:=List.length_eq_one_iff.1 h1
     have hl:(bS rs').length=1:=by rw [<-hs2.1];rfl
     obtain ⟨u,hu⟩:=List.length_eq_one_iff.1 hl
     rw [hu] at hres
     dsimp only at hres
     subst hres
     refine ⟨x,hres' x (by simp),(hs2.2 0 u (by rw [hu];rfl)).rep,λk hk=>by rw [hu];simpa [au] using hk⟩
    ·have hl:(bS rs').length≠1:=by rw [<-hs2.1];exact h1
     have hr:r=.tup (bS rs'):=by
      rw [<-hres]
      cases h:bS rs' with
      | nil=>rfl
      | cons u l=>cases l with
       | nil=>rw [h] at hl;simp at hl
       | cons _ _=>rfl
     subst hr
     refine ⟨.tuple xs.toArray,hres' _ (by rw [dif_neg];simpa using h1),.tup _ _ hfn.1 hfn.2.1,λk hk=>by simpa [AV.keys] using hk⟩
   refine ⟨v,hv,c2,v,rfl,e1,e2.good,⟨e2.frame.os,e2.frame.output,e2.frame.tape,e2.frame.size,e2.frame.block,e2.frame.ext,e2.frame.new⟩,⟨λk o ho=>e2.objs.rep k o (hsub k o ho),λk o k' o' b hk hk'=>e2.objs.apart k o k' o' b (hsub k o hk) (hsub k' o' hk'),λk o ho q hq=>?_⟩,
    hrv,λk hk=>hmem k (bH hb.1 k (hrk k hk)),λk o b ho hb'=>e2.mine k o b (hsub k o ho) hb'⟩
   exact hmem q (bH hb.2 q (dd (hkk k o ho) (hsub k o ho) q hq))
  cases ex with
  | exit id=>simp at hex
  | nor=>exact hL _ _ _ _ _ _ (hfin hex)
  | ret=>exact hL _ _ _ _ _ _ (hfin hex)
def iQ (P:Program):Prop:=∀ (f:FuncId) (fn:Func),P.funcs[f]?=some fn->(fn.name=="runtime.NumGoroutine")=false/\∀c,fn.body=some c->codeOk fn.ntmps c=true
theorem tC {V:Env} (hm:V.P.follows .mixedOrders=true) (hP:iQ V.P)
  (hext:∀f l os r os',V.isExt f=true->V.pre f l os=true->V.ext f l os=some (r,os')->lA V.P V.G f l os r os'/\∃fn,V.P.funcs[f]?=some fn/\(fn.name=="runtime.NumGoroutine")=false/\fn.body.isSome=true) :
  ∀n,cv (V.cfg (EP V n))
 | 0=>λf l os r os' _ h=>by cases h
 | n+1=>λf l os r os' hp h=>by
  have h':E V (n+1) f l os=some (r,os'):=h
  rw [EO] at h'
  cases he:V.isExt f with
  | true=>
   simp only [he,cond_true] at h'
   have hp':cond (V.isExt f) (V.pre f l os) true=true:=hp
   rw [he] at hp'
   exact hext f l os r os' he hp' h'
  | false=>
   simp only [he,cond_false] at h'
   have hX:=tC hm hP hext n
   have hh:=h'
   unfold yJ at hh
   cases hf:(V.cfg (EP V n)).P.funcs[f]? with
   | none=>simp only [hf] at hh;cases hh
   | some fn=>
    have hf':V.P.funcs[f]?=some fn:=hf
    obtain ⟨h1,h2⟩:=hP f fn hf'
    refine ⟨ov (X:=V.cfg (EP V n)) hX hm ⟨λp g hg=>(by cases hg),λp g hg=>(by cases hg),λp g hg=>(by cases hg),λp g hg=>(by cases hg)⟩ hf h2 h',fn,hf',h1,?_⟩
    cases hb:fn.body with
    | none=>simp only [hf,hb] at hh;cases hh
    | some c=>rfl
end Go.Ab

namespace Go.Ab
open Go Go.RowKit
def Ct (P:Program) (G:Nat->Option (List AV)) (f:FuncId) (l:List AV) (os:List AO) (r:AV×List AO):Prop:=
 lA P G f l os r.1 r.2/\∃fn,P.funcs[f]?=some fn/\(fn.name=="runtime.NumGoroutine")=false/\fn.body.isSome=true
structure Ent where
 f:FuncId
 pre:List AV->List AO->Bool
 ans:List AV->List AO->AV×List AO
def mkE {τ:Type} (f:FuncId) (g:List AV->List AO->Bool) (v:List AV->List AO->τ) (φ:τ->AV×List AO):Ent:=⟨f,g,λl os=>φ (v l os)⟩
def mc:List Ent->FuncId->Option Ent
 | [],_=>none
 | e::r,f=>cond (Nat.beq e.f f) (some e) (mc r f)
abbrev Orc:=St->(Ex->St->Res)->Res
abbrev Vw:=St->(St->Res)->Res
def eqP:List Nat->List Nat->Bool
 | [],[]=>true
 | a::r,b::q=>Nat.beq a b&&eqP r q
 | _,_=>false
def sd {α:Type}:List (List Nat×α)->List Nat->Option α
 | [],_=>none
 | e::r,p=>cond (eqP e.1 p) (some e.2) (sd r p)
def hn (k o:List Nat) (p:List (Nat×Nat×TypeId)) (c:List (Nat×Nat×Nat×TypeId)):Hint:={keep:=k,objs:=o,promote:=p,promoteCell:=c}
def tr (p k o:List Nat):List Nat×Hint:=(p,{keep:=k,objs:=o})
def CQ:List (List Nat×Hint)->List Nat->Option Hint
 | [],_=>none
 | e::r,p=>cond (eqP e.1 p) (some e.2) (CQ r p)
def mkO {τ:Type} (g:St->Bool) (v:St->τ) (out:τ->(Ex->St->Res)->Res):Orc:=λs k=>cond (g s) (out (v s) k) none
def mkV {τ:Type} (g:St->Bool) (v:St->τ) (S:τ->St):Vw:=λs k=>cond (g s) (k (S (v s))) none
def Env.tab (V:Env) (T:List Ent):Env:=
 {V with ext:=λf l os=>(mc T f).map λe=>e.ans l os,isExt:=λf=>(mc T f).isSome,pre:=λf l os=>match mc T f with | some e=>e.pre l os | none=>false}
def Env.run (V:Env) (T:List Ent) (d:Nat) (C L:List (List Nat×Orc)) (W:List (List Nat×Vw)) (f:FuncId):Cfg:=
 {(V.tab T).cfg (EP (V.tab T) d) with rngO:=λg p=>cond (Nat.beq g f) (sd C p) none,loopO:=λg p=>cond (Nat.beq g f) (sd L p) none,viewO:=λg p=>cond (Nat.beq g f) (sd W p) none}
def tB (V:Env) (T:List Ent):Prop:=∀e∈T,∀l os,e.pre l os=true->Ct V.P V.G e.f l os (e.ans l os)
theorem uS {T:List Ent} {f:FuncId} {e:Ent} (h:mc T f=some e):e∈T/\e.f=f:=by
 induction T with
 | nil=>simp [mc] at h
 | cons x r ih=>
  simp only [mc] at h
  cases hb:Nat.beq x.f f with
  | true=>simp only [hb,cond_true,Option.some.injEq] at h;subst h;exact ⟨by simp,du hb⟩
  | false=>simp only [hb,cond_false] at h;exact ⟨List.mem_cons_of_mem _ (ih h).1,(ih h).2⟩
theorem eD {α:Type} {C:List (List Nat×α)} {p:List Nat} {g:α} (h:sd C p=some g):(p,g)∈C:=by
 have eqP_eq:∀ {a b:List Nat},eqP a b=true->a=b:=by
  intro a
  induction a with
  | nil=>intro b h;cases b <;> simp [eqP] at h ⊢
  | cons x r ih=>
   intro b h
   cases b with
   | nil=>simp [eqP] at h
   | cons y q=>simp only [eqP,Bool.and_eq_true] at h;rw [du h.1,ih h.2]
 induction C with
 | nil=>simp [sd] at h
 | cons x r ih=>
  simp only [sd] at h
  cases hb:eqP x.1 p with
  | true=>simp only [hb,cond_true,Option.some.injEq] at h;subst h;rw [<-eqP_eq hb];simp
  | false=>simp only [hb,cond_false] at h;exact List.mem_cons_of_mem _ (ih h)
def gm (g:Vw):Prop:=∀s k r,g s k=some r->∃s',k s'=some r/\∀ (B:Base) (c:Cx) (a:Act),Rel B c s a->bg s->∃c',c'.w=c.w/\Rel B c' s' a/\bg s'
def bq (X:Cfg) (f:FuncId) (p:List Nat) (g:Orc):Prop:=∀s k r,g s k=some r->∃n m,sA X f n m (dL (bE X.P f) p) p s k=some r
theorem jz {V:Env} {T:List Ent} (hm:V.P.follows .mixedOrders=true) (hP:iQ V.P) (hT:tB V T) (d:Nat) (C L:List (List Nat×Orc)) (W:List (List Nat×Vw)) (f:FuncId):cv (V.run T d C L W f):=by
 have h:=tC (V:=V.tab T) hm hP (λg l os r os' hi hp he=>by
  simp only [Env.tab] at hi hp he
  cases hg:mc T g with
  | none=>simp [hg] at hi
  | some e=>
   obtain ⟨hmem,hf⟩:=uS hg
   simp only [hg] at hp
   simp only [hg,Option.map_some,Option.some.injEq] at he
   have:=hT e hmem l os hp
   rw [hf,he] at this
   exact this) d
 exact h
theorem xX {V:Env} {T:List Ent} {d:Nat} {C L:List (List Nat×Orc)} {W:List (List Nat×Vw)} {f:FuncId} {n:Nat} {l:List AV} {os:List AO} {r:AV×List AO} (hm:V.P.follows .mixedOrders=true) (hP:iQ V.P) (hT:tB V T)
  (hC:∀e∈C,mP (V.run T d C L W f) f e.1 e.2) (hL:∀e∈L,bq (V.run T d C L W f) f e.1 e.2) (hW:∀e∈W,gm e.2)
  (he:yJ (V.run T d C L W f) n f l os=some r):Ct V.P V.G f l os r:=by
 have hO:OracOk (V.run T d C L W f) f:=by
  refine ⟨λp g hg=>?_,λp g hg=>?_,λp g hg=>?_,λp g hg=>?_⟩
  ·cases hg
  ·simp only [Env.run,Nat.beq_refl,cond_true] at hg
   exact hW _ (eD hg)
  ·simp only [Env.run,Nat.beq_refl,cond_true] at hg
   exact hL _ (eD hg)
  ·simp only [Env.run,Nat.beq_refl,cond_true] at hg
   exact hC _ (eD hg)
 have hh:=he
 unfold yJ at hh
 cases hf:(V.run T d C L W f).P.funcs[f]? with
 | none=>simp only [hf] at hh;cases hh
 | some fn=>
  have hf':V.P.funcs[f]?=some fn:=hf
  obtain ⟨h1,h2⟩:=hP f fn hf'
  refine ⟨ov (X:=V.run T d C L W f) (jz hm hP hT d C L W f) hm hO hf h2 he,fn,hf',h1,?_⟩
  cases hb:fn.body with
  | none=>simp only [hf,hb] at hh;cases hh
  | some c=>rfl
theorem wj {V:Env}:tB V []:=λ_ h=>(List.not_mem_nil h).elim
def yf (X:Cfg) (f:FuncId) (L:List (List Nat×Orc)):Prop:=∀e∈L,bq X f e.1 e.2
theorem qM {X:Cfg} {f:FuncId} {p:List Nat} {g:Orc} {r:List (List Nat×Orc)} (h:bq X f p g) (hr:yf X f r):yf X f ((p,g)::r):=λx hx=>by
 rcases List.mem_cons.1 hx with rfl | hx
 ·exact h
 ·exact hr x hx
theorem B1 {V:Env} (hm:V.P.follows .mixedOrders=true) (hP:iQ V.P) (hE:∀f,V.isExt f=false) {n:Nat} {f:FuncId} {l:List AV} {os:List AO} {r:AV×List AO} (he:E V n f l os=some r):Ct V.P V.G f l os r:=
 tC hm hP (λf _ _ _ _ h=>by rw [hE f] at h;cases h) n f l os r.1 r.2 (by simp [Env.cfg,hE]) he
theorem Ct.args {P:Program} {G:Nat->Option (List AV)} {f:FuncId} {l l':List AV} {os:List AO} {r:AV×List AO} (h:Ct P G f l os r) (hl:l'.length=l.length) (hk:au l=[])
  (hw:∀ (i:Nat) (u u':AV),l[i]?=some u->l'[i]?=some u'->∀c v,Rep c u' v->Rep c u v):Ct P G f l' os r:=by
 refine ⟨λc0 vs hg ho hs hr _=>h.1 c0 vs hg ho (by rw [hs,hl]) (λi u hu=>?_) (λk hk'=>by rw [hk] at hk';simp at hk'),h.2⟩
 have hlt:=(List.getElem?_eq_some_iff.1 hu).1
 have hu':l'[i]?=some (l'[i]'(by omega)):=List.getElem?_eq_getElem _
 exact hw i u _ hu hu' c0 _ (hr i _ hu')
theorem Ct.res {P:Program} {G:Nat->Option (List AV)} {f:FuncId} {l:List AV} {os os':List AO} {r r':AV} (h:Ct P G f l os (r,os')) (hk:r'.keys=[]) (hw:∀c v,Rep c r v->Rep c r' v):Ct P G f l os (r',os'):=by
 refine ⟨λc0 vs hg ho hs hr hl=>(h.1 c0 vs hg ho hs hr hl).mono ?_,h.2⟩
 rintro e w' ⟨c',x,h1,h2,h3,h4,h5,h6,h7,h8⟩
 exact ⟨c',x,h1,h2,h3,h4,h5,hw _ _ h6,λk hk'=>by rw [hk] at hk';simp at hk',h8⟩
def ji:List AV->List AV->Bool
 | [],[]=>true
 | .int k n::r,.int k' n'::q=>decide (k=k')&&(n==n'&&ji r q)
 | .str s::r,.str s'::q=>s==s'&&ji r q
 | .bool s::r,.bool s'::q=>s==s'&&ji r q
 | _,_=>false
theorem jL:∀ {a b:List AV},ji a b=true->a=b
 | [],[],_=>rfl
 | .int k n::r,.int k' n'::q,h=>by simp only [ji,Bool.and_eq_true,decide_eq_true_eq,beq_iff_eq] at h;rw [h.1,h.2.1,jL h.2.2]
 | .str s::r,.str s'::q,h=>by simp only [ji,Bool.and_eq_true,beq_iff_eq] at h;rw [h.1,jL h.2]
 | .bool s::r,.bool s'::q,h=>by simp only [ji,Bool.and_eq_true,beq_iff_eq] at h;rw [h.1,jL h.2]
def wL (n:Nat) (get get':Nat->List AV):Bool:=(List.range n).all λj=>ji (get j) (get' j)
theorem wK {n:Nat} {get get':Nat->List AV} (h:wL n get get'=true):∀j,j < n->get j=get' j:=λj hj=>
 jL (List.all_eq_true.1 h j (List.mem_range.2 hj))
theorem Rep.CZ {c:Cx} {o:Own} {sz n:Nat} {get get':Nat->List AV} {v:Value} (he:∀j,j < n->get' j=get j) (h:Rep c (.sl o sz n get) v):Rep c (.sl .no sz n get') v:=by
 cases h with
 | slNil=>exact .slNil .no sz get' trivial
 | sl _ _ _ _ a cap vals h1 h2 h3 h4 h5 h6=>
  exact .sl .no sz n get' a cap vals h1 h2 trivial (λj hj=>by rw [he j hj];exact h4 j hj) (λj i u hj hu=>h5 j i u hj (by rw [<-he j hj];exact hu)) (λj i u hj hu=>h6 j i u hj (by rw [<-he j hj];exact hu))
def A6 (X:Cfg) (f:FuncId) (n:Nat) (c:Code) (p:List Nat) (k:Ex->St->Res):Nat->St->Res
 | 0,_=>none
 | m+1,s=>sA X f n m c p s k
def eO (X:Cfg) (f:FuncId) (n:Nat) (p:List Nat) (s:St) (kn:St->Res) (k:Ex->St->Res):Res:=
 gP X f n (dL (bE X.P f) (p++[0])) (p++[0]) s λe s'=>match e with
  | .nor=>(j7 X.P (X.hint f (lH (dL (bE X.P f) (p++[0])))) s').bind kn
  | e=>k e s'
theorem yT {X:Cfg} {f:FuncId} {n:Nat} {p:List Nat} {b:Code} {σ:Type} (S:σ->St) (Inv:σ->Prop) (μ:σ->Nat) (out:σ->(Ex->St->Res)->Res) (hb:dL (bE X.P f) p=.loop b)
  (round:∀v,Inv v->∀ (k:Ex->St->Res) (kn:St->Res),(∀v',Inv v'->μ v' < μ v->kn (S v')=out v' k)->eO X f n p (S v) kn k=out v k) :
  ∀ (m:Nat) (v:σ),Inv v->μ v<=m->∀k,sA X f n m (dL (bE X.P f) p) p (S v) k=out v k:=by
 have hb0:dL (bE X.P f) (p++[0])=b:=by rw [bL,hb];simp [dL]
 have hnext:∀ (m:Nat) (s:St) (k:Ex->St->Res),oe X.P (gP X f n b (p++[0])) (X.hint f (lH b)) m s k=(j7 X.P (X.hint f (lH b)) s).bind (A6 X f n (.loop b) p k m):=by
  intro m s k
  cases m with
  | zero=>
   simp only [oe]
   cases j7 X.P (X.hint f (lH b)) s <;> rfl
  | succ m=>rfl
 intro m
 induction m with
 | zero=>
  intro v hv hm k
  rw [hb]
  simp only [sA,hnext]
  have:=round v hv k (A6 X f n (.loop b) p k 0) (λv' _ h=>by omega)
  simp only [eO,hb0] at this
  exact this
 | succ m ih=>
  intro v hv hm k
  rw [hb]
  simp only [sA,hnext]
  have:=round v hv k (A6 X f n (.loop b) p k (m+1)) (λv' hv' h=>by
   have:=ih v' hv' (by omega) k
   rw [hb] at this
   exact this)
  simp only [eO,hb0] at this
  exact this
section
open Classical
variable {α τ:Type}
noncomputable def pz (S:α->St) (Inv:α->Prop) (s:St):Bool:=decide (∃v,Inv v/\S v=s)
noncomputable def uQ [Inhabited τ] (S:α->St) (Inv:α->Prop) (w:α->τ) (s:St):τ:=if h:∃v,Inv v/\S v=s then w h.choose else default
noncomputable def y9 (A:α->List AV) (O:α->List AO) (Pre:α->Prop) (l:List AV) (os:List AO):Bool:=decide (∃v,Pre v/\A v=l/\O v=os)
noncomputable def JR [Inhabited τ] (A:α->List AV) (O:α->List AO) (Pre:α->Prop) (w:α->τ) (l:List AV) (os:List AO):τ:=if h:∃v,Pre v/\A v=l/\O v=os then w h.choose else default
theorem k8 {S:α->St} {Inv:α->Prop} {v:α} (h:Inv v):pz S Inv (S v)=true:=decide_eq_true ⟨v,h,rfl⟩
theorem y8 {A:α->List AV} {O:α->List AO} {Pre:α->Prop} {v:α} (h:Pre v):y9 A O Pre (A v) (O v)=true:=decide_eq_true ⟨v,h,rfl,rfl⟩
theorem xl [Inhabited τ] {X:Cfg} {f:FuncId} {p:List Nat} {b:Code} (S:α->St) (Inv:α->Prop) (μ:α->Nat) (w:α->τ) (out:τ->(Ex->St->Res)->Res) (hb:dL (bE X.P f) p=.loop b) (n:Nat)
  (round:∀v,Inv v->∀ (k:Ex->St->Res) (kn:St->Res),(∀v',Inv v'->μ v' < μ v->kn (S v')=out (w v') k)->eO X f n p (S v) kn k=out (w v) k) :
  bq X f p (mkO (pz S Inv) (uQ S Inv w) out):=by
 intro s k r h
 unfold mkO at h
 obtain ⟨hg,h⟩:=bD h
 have hx:∃v,Inv v/\S v=s:=of_decide_eq_true hg
 unfold uQ at h
 rw [dif_pos hx] at h
 refine ⟨n,μ hx.choose,?_⟩
 have:=yT S Inv μ (λv=>out (w v)) hb round (μ hx.choose) hx.choose hx.choose_spec.1 (Nat.le_refl _) k
 rw [hx.choose_spec.2] at this
 rw [this];exact h
end
theorem wrap_i64 {x:Int} (h0 : -9223372036854775808<=x) (h1:x < 9223372036854775808):IntKind.i64.wrap x=x:=by
 simp [IntKind.wrap,IntKind.signed,IntKind.bits] <;> (try split) <;> omega
theorem kC {x:Int} {n:Nat} (h0:0<=x) (h1:x < n):within x n=true:=by simp [within,h0,h1]
end Go.Ab

namespace Go.Ab
open Go
section
variable {τ:Type} [Inhabited τ]
def scan (n:Nat) (nxt:Nat->Nat) (stop:Nat->Option τ):Nat->Nat->Bool×τ
 | 0,_=>(false,default)
 | d+1,i=>if i < n then (match stop i with
   | some t=>(true,t)
   | none=>scan n nxt stop d (nxt i)) else (false,default)
theorem qx {n:Nat} {nxt:Nat->Nat} {stop:Nat->Option τ} (hn:∀i,i < n->i < nxt i):∀ (d e i:Nat),n - i<=d->n - i<=e->scan n nxt stop d i=scan n nxt stop e i
 | 0,e,i,h,h'=>by
  cases e with
  | zero=>rfl
  | succ e=>simp only [scan];rw [if_neg (by omega)]
 | d+1,0,i,h,h'=>by simp only [scan];rw [if_neg (by omega)]
 | d+1,e+1,i,h,h'=>by
  simp only [scan]
  by_cases hi:i < n
  ·rw [if_pos hi,if_pos hi]
   have:=hn i hi
   rw [qx hn d e (nxt i) (by omega) (by omega)]
  ·rw [if_neg hi,if_neg hi]
def eB (n:Nat) (nxt:Nat->Nat) (stop:Nat->Option τ) (i:Nat):Bool×τ:=scan n nxt stop (n - i) i
theorem gO (n:Nat) (nxt:Nat->Nat) (stop:Nat->Option τ) {i:Nat} (h:¬ i < n):eB n nxt stop i=(false,default):=by
 unfold eB
 rw [show n - i=0 by omega];rfl
theorem ke {n:Nat} {nxt:Nat->Nat} {stop:Nat->Option τ} (hn:∀i,i < n->i < nxt i) {i:Nat} (h:i < n):eB n nxt stop i=(match stop i with
  | some t=>(true,t)
  | none=>eB n nxt stop (nxt i)):=by
 unfold eB
 obtain ⟨d,hd⟩:∃d,n - i=d+1:=⟨n - i - 1,by omega⟩
 rw [hd]
 simp only [scan]
 rw [if_pos h]
 have:=hn i h
 rw [qx hn d (n - nxt i) (nxt i) (by omega) (Nat.le_refl _)]
theorem tM {n:Nat} {nxt:Nat->Nat} {stop:Nat->Option τ} {P:τ->Prop} (h:∀i t,i < n->stop i=some t->P t):∀d i,(scan n nxt stop d i).1=true->P (scan n nxt stop d i).2
 | 0,i,hs=>by simp [scan] at hs
 | d+1,i,hs=>by
  simp only [scan] at hs ⊢
  by_cases hi:i < n
  ·rw [if_pos hi] at hs ⊢
   cases ht:stop i with
   | some t=>exact h i t hi ht
   | none=>rw [ht] at hs;exact tM h d (nxt i) hs
  ·rw [if_neg hi] at hs;simp at hs
theorem uZ {n:Nat} {nxt:Nat->Nat} {stop:Nat->Option τ} {P:τ->Prop} (h:∀i t,i < n->stop i=some t->P t) (i:Nat) (hs:(eB n nxt stop i).1=true):P (eB n nxt stop i).2:=tM h _ _ hs
def seek (n:Nat) (nxt:Nat->Nat) (bad:Nat->Bool) (t:τ):Bool×τ:=eB n nxt (λi=>bif bad i then some t else none) 0
theorem tL {n:Nat} {nxt:Nat->Nat} {bad:Nat->Bool} {t:τ} (h:(seek n nxt bad t).1=true):(seek n nxt bad t).2=t:=
 uZ (P:=λx=>x=t) (λi u _ hu=>by cases hb:bad i <;> simp [hb] at hu;exact hu.symm) 0 h
def Ch (outS:τ->(Ex->St->Res)->Res) (outE:(Ex->St->Res)->Res) (o:Bool×τ) (k:Ex->St->Res):Res:=cond o.1 (outS o.2 k) (outE k)
end
theorem Hn {i n:Nat} (h:i < n):decide ((i:Int) < (n:Int))=true:=decide_eq_true (by omega)
theorem aO {i n:Nat} (h:i < n):within (i:Int) n=true:=kC (by omega) (by omega)
def IW (t:Nat) (b:Bool) (k:Ex->St->Res):Res:=k .ret {env:=[(t,.bool b)],objs:=[]}
end Go.Ab

namespace Go.Ab
open Go
section
variable {τ:Type} [Inhabited τ]
noncomputable def g1 (A:List AV):List AV->List AO->Bool:=y9 (λ_:Unit=>A) (λ_=>[]) (λ_=>True)
noncomputable def v1 (A:List AV) (w:τ):List AV->List AO->τ:=JR (λ_:Unit=>A) (λ_=>[]) (λ_=>True) (λ_=>w)
end
end Go.Ab

namespace Go.Ab
open Go
section
variable {α τ:Type} [Inhabited τ]
theorem jc {S:α->St} {Inv:α->Prop} {w:α->τ} {Post:α->τ->Prop} (hw:∀a,Inv a->Post a (w a)) (hi:∀a b x,S a=S b->Post a x->Post b x) {a:α} (h:Inv a):Post a (uQ S Inv w (S a)):=by
 have hx:∃u,Inv u/\S u=S a:=⟨a,h,rfl⟩
 unfold uQ
 rw [dif_pos hx]
 exact hi _ _ _ hx.choose_spec.2 (hw _ hx.choose_spec.1)
open Classical in
theorem sy {ι:Type} {Xf:ι->Cfg} {f:FuncId} {p:List Nat} {b:Code} (S:α->St) (Inv:α->Prop) (μ:α->Nat) (out:τ->(Ex->St->Res)->Res) (Post:α->τ->Prop) (hb:∀i,dL (bE (Xf i).P f) p=.loop b) (n:Nat)
  (round:∀v,Inv v->(∃o,Post v o/\∀ (i:ι) (k:Ex->St->Res) (kn:St->Res),eO (Xf i) f n p (S v) kn k=out o k) ∨
   ∃v',Inv v'/\μ v' < μ v/\(∀o,Post v' o->Post v o)/\∀ (i:ι) (k:Ex->St->Res) (kn:St->Res),eO (Xf i) f n p (S v) kn k=kn (S v')) :
  ∃w:α->τ,(∀v,Inv v->Post v (w v))/\∀i,bq (Xf i) f p (mkO (pz S Inv) (uQ S Inv w) out):=by
 let F:(v:α)->((v':α)->μ v' < μ v->τ)->τ:=λv rec=>
  if hi:Inv v then
   if h1:∃o,Post v o/\∀ (i:ι) (k:Ex->St->Res) (kn:St->Res),eO (Xf i) f n p (S v) kn k=out o k then h1.choose
   else if h2:∃v',Inv v'/\μ v' < μ v/\(∀o,Post v' o->Post v o)/\∀ (i:ι) (k:Ex->St->Res) (kn:St->Res),eO (Xf i) f n p (S v) kn k=kn (S v') then rec h2.choose h2.choose_spec.2.1
   else default
  else default
 let w:α->τ:=WellFounded.fix (measure μ).wf F
 have hw:∀v,w v=F v λv' _=>w v':=λv=>WellFounded.fix_eq (measure μ).wf F v
 have hpost:∀ (m:Nat) (v:α),μ v<=m->Inv v->Post v (w v):=by
  intro m
  induction m with
  | zero=>
   intro v hm hi
   rw [hw]
   simp only [F]
   rw [dif_pos hi]
   by_cases h1:∃o,Post v o/\∀ (i:ι) (k:Ex->St->Res) (kn:St->Res),eO (Xf i) f n p (S v) kn k=out o k
   ·rw [dif_pos h1];exact h1.choose_spec.1
   ·obtain ⟨v',_,h,_⟩:=(round v hi).resolve_left h1
    omega
  | succ m ih=>
   intro v hm hi
   rw [hw]
   simp only [F]
   rw [dif_pos hi]
   by_cases h1:∃o,Post v o/\∀ (i:ι) (k:Ex->St->Res) (kn:St->Res),eO (Xf i) f n p (S v) kn k=out o k
   ·rw [dif_pos h1];exact h1.choose_spec.1
   ·have h2:=(round v hi).resolve_left h1
    rw [dif_neg h1,dif_pos h2]
    have:=h2.choose_spec
    exact this.2.2.1 _ (ih _ (by omega) this.1)
 refine ⟨w,λv hi=>hpost _ v (Nat.le_refl _) hi,λi=>?_⟩
 refine xl S Inv μ w out (hb i) n λv hi k kn hk=>?_
 rw [hw]
 simp only [F]
 rw [dif_pos hi]
 by_cases h1:∃o,Post v o/\∀ (i:ι) (k:Ex->St->Res) (kn:St->Res),eO (Xf i) f n p (S v) kn k=out o k
 ·rw [dif_pos h1];exact h1.choose_spec.2 i k kn
 ·have h2:=(round v hi).resolve_left h1
  rw [dif_neg h1,dif_pos h2]
  have:=h2.choose_spec
  rw [this.2.2.2 i k kn]
  exact hk _ this.1 this.2.1
end
section
variable {τ:Type}
noncomputable def lD (f:FuncId) (A:List AV) (O:List AO) (x:τ) (φ:τ->AV×List AO):Ent:=mkE f (y9 (λ_:Unit=>A) (λ_=>O) (λ_=>True)) (λ_ _=>x) φ
theorem mM (A:List AV) (O:List AO):y9 (λ_:Unit=>A) (λ_=>O) (λ_=>True) A O=true:=y8 (A:=λ_:Unit=>A) (O:=λ_=>O) (v:=()) trivial
end
end Go.Ab

namespace Go.Ab
open Go
theorem cx {α:Type} {Q:α->Prop} {c:Bool} {A B:α} (h1:c=true->Q A) (h2:c=false->Q B):Q (cond c A B):=by
 cases c
 ·exact h2 rfl
 ·exact h1 rfl
def cZ {τ:Type} (Post:τ->Prop) (φ:τ->AV×List AO) (e:Res):Prop:=∃x,Post x/\e=some (φ x)
theorem cZ.c {τ:Type} {Post:τ->Prop} {φ:τ->AV×List AO} {c:Bool} {a b:Res} (h1:c=true->cZ Post φ a) (h2:c=false->cZ Post φ b):cZ Post φ (cond c a b):=cx (Q:=cZ Post φ) h1 h2
theorem cZ.t {τ:Type} {Post:τ->Prop} {φ:τ->AV×List AO} {c:Bool} {a b:Res} (h:c=true) (h1:cZ Post φ a):cZ Post φ (cond c a b):=by subst h;exact h1
theorem cZ.f {τ:Type} {Post:τ->Prop} {φ:τ->AV×List AO} {c:Bool} {a b:Res} (h:c=false) (h1:cZ Post φ b):cZ Post φ (cond c a b):=by subst h;exact h1
theorem cZ.ret {τ:Type} {Post:τ->Prop} {φ:τ->AV×List AO} {r:AV×List AO} (x:τ) (h:Post x) (he:r=φ x):cZ Post φ (some r):=⟨x,h,by rw [he]⟩
theorem cZ.eq {τ:Type} {Post:τ->Prop} {φ:τ->AV×List AO} {e e':Res} (h:e=e') (h1:cZ Post φ e'):cZ Post φ e:=by rw [h];exact h1
theorem cZ.mono {τ:Type} {Post Post':τ->Prop} {φ:τ->AV×List AO} {e:Res} (h:∀x,Post x->Post' x) (h1:cZ Post φ e):cZ Post' φ e:=by
 obtain ⟨x,h2,h3⟩:=h1;exact ⟨x,h x h2,h3⟩
section
variable {α τ ι:Type}
def RT (S:α->St) (Inv:α->Prop) (μ:α->Nat) (out:τ->(Ex->St->Res)->Res) (Post:α->τ->Prop) (v:α) (e:ι->(Ex->St->Res)->(St->Res)->Res):Prop:=
 (∃o,Post v o/\∀ (i:ι) (k:Ex->St->Res) (kn:St->Res),e i k kn=out o k) ∨
  ∃v',Inv v'/\μ v' < μ v/\(∀o,Post v' o->Post v o)/\∀ (i:ι) (k:Ex->St->Res) (kn:St->Res),e i k kn=kn (S v')
variable {S:α->St} {Inv:α->Prop} {μ:α->Nat} {out:τ->(Ex->St->Res)->Res} {Post:α->τ->Prop} {v:α}
theorem RT.c {c:Bool} {a b:ι->(Ex->St->Res)->(St->Res)->Res} (h1:c=true->RT S Inv μ out Post v a) (h2:c=false->RT S Inv μ out Post v b):RT S Inv μ out Post v (λi k kn=>cond c (a i k kn) (b i k kn)):=by
 cases c
 ·exact h2 rfl
 ·exact h1 rfl
theorem RT.t {c:Bool} {a b:ι->(Ex->St->Res)->(St->Res)->Res} (h:c=true) (h1:RT S Inv μ out Post v a):RT S Inv μ out Post v (λi k kn=>cond c (a i k kn) (b i k kn)):=by
 subst h;exact h1
theorem RT.f {c:Bool} {a b:ι->(Ex->St->Res)->(St->Res)->Res} (h:c=false) (h1:RT S Inv μ out Post v b):RT S Inv μ out Post v (λi k kn=>cond c (a i k kn) (b i k kn)):=by
 subst h;exact h1
theorem RT.eq {e e':ι->(Ex->St->Res)->(St->Res)->Res} (h:∀i k kn,e i k kn=e' i k kn) (h1:RT S Inv μ out Post v e'):RT S Inv μ out Post v e:=by
 rcases h1 with ⟨o,h2,h3⟩ | ⟨v',h2,h3,h4,h5⟩
 ·exact Or.inl ⟨o,h2,λi k kn=>(h i k kn).trans (h3 i k kn)⟩
 ·exact Or.inr ⟨v',h2,h3,h4,λi k kn=>(h i k kn).trans (h5 i k kn)⟩
theorem RT.fin (o:τ) (h:Post v o) {e:ι->(Ex->St->Res)->(St->Res)->Res} (he:∀i k kn,e i k kn=out o k):RT S Inv μ out Post v e:=Or.inl ⟨o,h,he⟩
theorem RT.next (v':α) (h:Inv v') (hm:μ v' < μ v) (hp:∀o,Post v' o->Post v o) {e:ι->(Ex->St->Res)->(St->Res)->Res} (he:∀i k kn,e i k kn=kn (S v')):RT S Inv μ out Post v e:=Or.inr ⟨v',h,hm,hp,he⟩
end
end Go.Ab

namespace Go.Ab
open Go
section
variable {τ:Type} {Post:τ->Prop} {φ:τ->AV×List AO}
theorem cZ.by {e e':Res} (h1:cZ Post φ e') (h:e=e'):cZ Post φ e:=h ▸ h1
theorem cZ.n {c:Bool} {a:Res} (h:c=true) (h1:cZ Post φ a):cZ Post φ (cond c a none):=cZ.t h h1
theorem cZ.r (x:τ) (h:Post x):cZ Post φ (some (φ x)):=cZ.ret x h rfl
theorem cZ.g {α:Type} {T:α->Res} (x:α) (h:∀t,x=t->cZ Post φ (T t)):cZ Post φ (T x):=h x rfl
def aW {α:Type} (g:St->Bool) (w:St->α) (s:St) (Q:α->Prop):Prop:=g s=true/\Q (w s)
theorem cZ.lp {α:Type} {g:St->Bool} {w:St->α} {s:St} {Q:α->Prop} {T:α->Res} (h:aW g w s Q) (k:∀t,Q t->cZ Post φ (T t)):cZ Post φ (cond (g s) (T (w s)) none):=cZ.t h.1 (k _ h.2)
theorem cZ.b {a b:Res} (c:Bool) (h1:c=true->cZ Post φ a) (h2:c=false->cZ Post φ b):cZ Post φ (cond c a b):=cZ.c h1 h2
end
section
variable {α τ ι:Type} {S:α->St} {Inv:α->Prop} {μ:α->Nat} {out:τ->(Ex->St->Res)->Res} {Post:α->τ->Prop} {v:α}
theorem RT.by {e e':ι->(Ex->St->Res)->(St->Res)->Res} (h1:RT S Inv μ out Post v e') (h:∀i k kn,e i k kn=e' i k kn):RT S Inv μ out Post v e:=RT.eq h h1
theorem RT.n {c:Bool} {a:ι->(Ex->St->Res)->(St->Res)->Res} (h:c=true) (h1:RT S Inv μ out Post v a):RT S Inv μ out Post v (λi k kn=>cond c (a i k kn) none):=RT.t h h1
theorem RT.b {a b:ι->(Ex->St->Res)->(St->Res)->Res} (c:Bool) (h1:c=true->RT S Inv μ out Post v a) (h2:c=false->RT S Inv μ out Post v b):RT S Inv μ out Post v (λi k kn=>cond c (a i k kn) (b i k kn)):=RT.c h1 h2
theorem RT.nx (s:St) (v':α) (h:Inv v') (hm:μ v' < μ v) (hp:∀o,Post v' o->Post v o) (hs:s=S v'):RT S Inv μ out Post v (λ(_:ι) (_:Ex->St->Res) (kn:St->Res)=>kn s):=RT.next v' h hm hp λ_ _ _=>by rw [hs]
theorem RT.fi (o:τ) (h:Post v o):RT S Inv μ out Post v (λ(_:ι) (k:Ex->St->Res) (_:St->Res)=>out o k):=RT.fin o h λ_ _ _=>rfl
end
structure RW where
 n:Nat
 g:Nat->List AV
instance:Inhabited RW:=⟨⟨0,λ_=>[]⟩⟩
def Byt (r:RW) (l:List UInt8):Prop:=r.n=l.length/\∀j,j < r.n->r.g j=rowOf l j
theorem Byt.app {n m:Nat} {g h:Nat->List AV} {a b:List UInt8} (h1:Byt ⟨n,g⟩ a) (h2:Byt ⟨m,h⟩ b):Byt ⟨n+m,ar n m g h⟩ (a++b):=by
 obtain ⟨a1,a2⟩:=h1
 obtain ⟨b1,b2⟩:=h2
 have a1:n=a.length:=a1
 have b1:m=b.length:=b1
 refine ⟨by show n+m=_;rw [List.length_append,a1,b1],λj hj=>?_⟩
 have hj:j < n+m:=hj
 show ar n m g h j=_
 by_cases hn:j < n
 ·rw [df hn]
  refine (a2 j hn).trans ?_
  unfold rowOf
  rw [List.getD_eq_getElem?_getD,List.getD_eq_getElem?_getD,List.getElem?_append_left (by omega)]
 ·rw [dS (by omega) hj]
  refine (b2 (j - n) (by show j - n < m;omega)).trans ?_
  unfold rowOf
  rw [List.getD_eq_getElem?_getD,List.getD_eq_getElem?_getD,List.getElem?_append_right (by omega),a1]
theorem o9 {b n:Nat} (h:n*b<=140737488355328):roomy b n=true:=Nat.ble_eq_true_of_le h
theorem bd {b n m:Nat} (h:n*b<=140737488355328):(roomy b n&&Nat.beq m m)=true:=by rw [o9 h,Nat.beq_refl];rfl
end Go.Ab

namespace Go.Ab
open Go Go.RowKit
end Go.Ab
