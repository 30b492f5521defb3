/- Soundness of the operations that make and write memory: new variables, stores, make, append; and of all pure operations together. Soundness of new variables, stores, make and append. Soundness of make and append. Soundness of append. Soundness of an append whose slice may be stored into. A call, seen from the caller: what the callee's contract says, under other keys. A call, seen from the caller: the callee's context and the way back. A call that hands back one object more than it was handed: a pointer to a new one. Rows of slices that grow: soundness. A string's iterator, sound. Maps of the model: a key that is a scalar, a struct or an array of scalars is found by its cells. Maps, sound: making one, a look-up, a store. -/
import Derived.Test.YtofjmkmjdaccgaaGreatDoorX1
import Derived.Laws.CopyRow
import Derived.Laws.AppendOwn
import Derived.Lib.AppendStr
import Derived.Laws.RangeString
import Derived.Laws.StructEq
import Derived.ChangeKeysEq
import Derived.MapKept
import Derived.WideKeyRuns
set_option linter.unusedVariables false
set_option linter.unusedSimpArgs false
namespace Go.Ab
open Go Go.RowKit
variable {P:Program} {B:Base} {c:Cx} {s:St} {a:Act}
def cM (P:Program) (B:Base) (c:Cx) (s:St) (a:Act) (o:Oper) (v:AV):Prop:=
 ∃x c',(execOp a.eval o).run P c.w=.ok (.value x) c'.w/\Keeps c c' s.objs/\Grow B c c'/\Sees B c' s v x
theorem cM.of {o:Oper} {m:Sem Value} {v:AV} (hm:execOp a.eval o=(do let x <-m;pure (Next.value x))) (hg:cy P B c s m v):cM P B c s a o v:=by
 obtain ⟨x,c',h1,h2,h3,h4⟩:=hg
 exact ⟨x,c',by rw [hm];simp [h1],h2,h3,h4⟩
theorem cM.now (h:Rel B c s a) {o:Oper} {v:AV} {x:Value} (hr:(execOp a.eval o).run P c.w=.ok (.value x) c.w) (hs:Sees B c s v x):cM P B c s a o v:=
 ⟨x,c,hr,Keeps.refl _ _,Grow.refl h.good,hs⟩
theorem kr (h:Rel B c s a) {ch:fw} (hc:vM a ch) {x:Option Operand} {v:Option AV} (he:bW.evalM ⟨s,B.G,ch⟩ x=some v):OSees B c s v (x.map a.eval):=by
 cases x with
 | none=>simp [bW.evalM] at he;subst he;exact .none
 | some o=>
  simp only [bW.evalM] at he
  cases ho:aP ⟨s,B.G,ch⟩ o with
  | none=>simp [ho] at he
  | some u=>simp [ho] at he;subst he;exact .some (av h hc ho)
theorem dg.fn {l:List AV} {xs:List Value} (h:dg B c s l xs):xs.toArray.size=l.length/\(∀ (i:Nat) (u:AV),l[i]?=some u->Rep c u (xs.toArray.getD i undef))/\∀k∈au l,live s.objs k:=by
 refine ⟨by simpa using h.1,λi u hu=>?_,?_⟩
 ·have:=(h.2 i u hu).rep
  simpa [Array.getD_eq_getD_getElem?,List.getD_eq_getElem?_getD] using this
 ·have aux:∀ (l:List AV) (xs:List Value),dg B c s l xs->∀k∈au l,live s.objs k:=by
   intro l
   induction l with
   | nil=>intro xs _ k hk;simp [au] at hk
   | cons v r ih=>
    intro xs h k hk
    obtain ⟨x,q,rfl,h1,h2⟩:=h.cons_inv
    simp only [au,List.mem_append] at hk
    rcases hk with hk | hk
    ·exact h1.live k hk
    ·exact ih _ h2 k hk
  exact aux l xs h
theorem nj (h:Rel B c s a) {ch:fw} (hc:vM a ch) {o:Oper} {v:AV} (he:bW P ⟨s,B.G,ch⟩ o.op=some (true,v)):cM P B c s a o v:=by
 cases ho:o.op with
 | move x=>
  simp only [ho,bW,tG] at he
  cases hx:aP ⟨s,B.G,ch⟩ x with
  | none=>simp [hx] at he
  | some u=>simp [hx] at he;subst he;exact cM.now h (x:=a.eval x) (by simp [execOp,ho]) (av h hc hx)
 | assign x=>
  simp only [ho,bW,tG] at he
  cases hx:aP ⟨s,B.G,ch⟩ x with
  | none=>simp [hx] at he
  | some u=>simp [hx] at he;subst he;exact cM.now h (x:=a.eval x) (by simp [execOp,ho]) (av h hc hx)
 | pick z x y=>
  simp only [ho,bW] at he
  cases z with
  | tmp t=>
   obtain ⟨q,h1,h2⟩:=sc (P:=P) h hc he ho
   exact cM.now h h1 h2
  | _=>simp at he
 | build t ps=>
  simp only [ho,bW] at he
  cases hp:cX ⟨s,B.G,ch⟩ ps.toList with
  | none=>simp [hp] at he
  | some l=>
   simp [hp] at he
   refine cM.of ?_ (ry h (eJ h hc hp) he)
   simp only [execOp,ho]
   congr 1
   congr 1
   apply Array.ext'
   simp
 | buildSlice t n ps=>
  simp only [ho,bW] at he
  cases hp:cX ⟨s,B.G,ch⟩ ps.toList with
  | none=>simp [hp] at he
  | some l=>
   simp [hp] at he
   refine cM.of ?_ (l7 h (eJ h hc hp) he)
   simp only [execOp,ho]
   congr 1
   congr 1
   apply Array.ext'
   simp
 | load t x=>
  simp only [ho,bW] at he
  cases hx:aP ⟨s,B.G,ch⟩ x with
  | none=>simp [hx] at he
  | some u=>simp [hx] at he;exact cM.of (by simp only [execOp,ho]) (sD h (av h hc hx).rep he)
 | nilCheck x=>
  simp only [ho,bW] at he
  cases hx:aP ⟨s,B.G,ch⟩ x with
  | none=>simp [hx] at he
  | some u=>simp only [hx,Option.bind_some] at he;exact n7 h (av h hc hx) he ho rfl
 | binOp op t x y yt=>
  simp only [ho,bW] at he
  cases hn:Aa y with
  | true=>
   simp only [hn,cond_true] at he
   cases hx:aP ⟨s,B.G,ch⟩ x with
   | none=>simp [hx] at he
   | some u=>simp only [hx,Option.bind_some] at he;exact cM.of (by simp only [execOp,ho]) (vi (xo:=x) h (av h hc hx).rep he)
  | false=>
  simp only [hn,cond_false] at he
  cases hx:aP ⟨s,B.G,ch⟩ x with
  | none=>simp [hx] at he
  | some u=>
   cases hy:aP ⟨s,B.G,ch⟩ y with
   | none=>simp [hx,hy] at he
   | some w=>
    simp [hx,hy] at he
    exact cM.of (by simp only [execOp,ho]) (vI (xo:=x) (yo:=y) h (av h hc hx).rep (av h hc hy).rep he)
 | unOp op t x=>
  simp only [ho,bW] at he
  cases hx:aP ⟨s,B.G,ch⟩ x with
  | none=>simp [hx] at he
  | some u=>simp [hx] at he;exact cM.of (by simp only [execOp,ho]) (v7 h (av h hc hx).rep he)
 | makeSlice t x y=>
  simp only [ho,bW] at he
  cases hx:aP ⟨s,B.G,ch⟩ x with
  | none=>simp [hx] at he
  | some u=>
   cases hy:aP ⟨s,B.G,ch⟩ y with
   | none=>simp [hx,hy] at he
   | some w=>simp [hx,hy] at he;exact cM.of (by simp only [execOp,ho]) (jm h (av h hc hx).rep (av h hc hy).rep he)
 | convert t1 t2 x=>
  simp only [ho,bW] at he
  cases hx:aP ⟨s,B.G,ch⟩ x with
  | none=>simp [hx] at he
  | some u=>simp [hx] at he;exact cM.of (by simp only [execOp,ho]) (te h (av h hc hx) he)
 | makeFunc fn p q=>
  simp only [ho,bW] at he
  cases fn with
  | func f=>
   simp only at he
   cases hx:cY ⟨s,B.G,ch⟩ p.toList with
   | none=>simp [hx] at he
   | some l1=>
    cases hy:cY ⟨s,B.G,ch⟩ q.toList with
    | none=>simp [hx,hy] at he
    | some l2=>
     simp [hx,hy,ok1] at he;subst he
     have s1:=(cO h hc hx).fn
     have s2:=(cO h hc hy).fn
     have e1:(p.toList.map a.eval).toArray=p.map a.eval:=by apply Array.ext';simp
     have e2:(q.toList.map a.eval).toArray=q.map a.eval:=by apply Array.ext';simp
     rw [e1] at s1
     rw [e2] at s2
     refine cM.now h (x:=.func (.func f) (p.map a.eval) (q.map a.eval)) (by simp [execOp,ho,Instr.makeFunc]) ⟨.fn f l1 l2 _ _ s1.1 s2.1 s1.2.1 s2.2.1,λk hk=>?_,rfl⟩
     simp only [AV.keys,List.mem_append] at hk
     exact hk.elim (s1.2.2 k) (s2.2.2 k)
  | _=>simp at he
 | slice t x l hi m=>
  simp only [ho,bW] at he
  cases hx:aP ⟨s,B.G,ch⟩ x with
  | none=>simp [hx] at he
  | some u=>
   cases hl:bW.evalM ⟨s,B.G,ch⟩ l with
   | none=>simp [hx,hl] at he
   | some l'=>
    cases hh:bW.evalM ⟨s,B.G,ch⟩ hi with
    | none=>simp [hx,hl,hh] at he
    | some hi'=>
     cases hm:bW.evalM ⟨s,B.G,ch⟩ m with
     | none=>simp [hx,hl,hh,hm] at he
     | some m'=>
      simp [hx,hl,hh,hm] at he
      exact cM.of (by simp only [execOp,ho]) (qq h (av h hc hx) (kr h hc hl) (kr h hc hh) (kr h hc hm) he)
 | fieldAddr t x f=>
  simp only [ho,bW] at he
  cases hx:aP ⟨s,B.G,ch⟩ x with
  | none=>simp [hx] at he
  | some u=>simp [hx] at he;exact cM.of (by simp only [execOp,ho]) (mN h (av h hc hx) he)
 | field t x f=>
  simp only [ho,bW] at he
  cases hx:aP ⟨s,B.G,ch⟩ x with
  | none=>simp [hx] at he
  | some u=>simp [hx] at he;exact cM.of (by simp only [execOp,ho]) (ra h (av h hc hx) he)
 | indexAddr t x y=>
  simp only [ho,bW] at he
  cases hx:aP ⟨s,B.G,ch⟩ x with
  | none=>simp [hx] at he
  | some u=>
   cases hy:aP ⟨s,B.G,ch⟩ y with
   | none=>simp [hx,hy] at he
   | some w=>simp [hx,hy] at he;exact cM.of (by simp only [execOp,ho]) (mK h (av h hc hx) (av h hc hy) he)
 | index t x y=>
  simp only [ho,bW] at he
  cases hx:aP ⟨s,B.G,ch⟩ x with
  | none=>simp [hx] at he
  | some u=>
   cases hy:aP ⟨s,B.G,ch⟩ y with
   | none=>simp [hx,hy] at he
   | some w=>simp [hx,hy] at he;exact cM.of (by simp only [execOp,ho]) (qT h (av h hc hx) (av h hc hy) he)
 | extract x i=>
  simp only [ho,bW] at he
  cases hx:aP ⟨s,B.G,ch⟩ x with
  | none=>simp [hx] at he
  | some u=>simp [hx] at he;exact cM.of (by simp only [execOp,ho]) (oo h (av h hc hx) he)
 | call q=>
  obtain ⟨callee,args,argTypes⟩:=q
  cases callee with
  | builtin b=>
   have hexec:∀ (m:Sem Value),(∀consts,builtin b argTypes o.type consts (args.map a.eval)=(do let x <-m;pure (Next.value x)))->execOp a.eval o=(do let x <-m;pure (Next.value x)):=by
    intro m hm
    simp only [execOp,ho,resolve,pure_bind,invoke]
    exact hm _
   cases b with
   | len=>
    simp only [ho,bW] at he
    cases hl:cY ⟨s,B.G,ch⟩ args.toList with
    | none=>simp [hl] at he
    | some l=>
     simp only [hl,Option.bind_some] at he
     split at he
     ·rename_i x t ht
      have hs:=cO h hc hl
      obtain ⟨X,R,hXR,hx,hr⟩:=hs.cons_inv
      have hR:=hr.nv
      subst hR
      have e1:args.map a.eval=#[X]:=by apply Array.ext';simpa using hXR
      have e2:argTypes=#[t]:=by apply Array.ext';simpa using ht
      exact cM.of (hexec _ (λ_=>by rw [e1,e2];rfl)) (vk (ty:=o.type) h hx.rep he)
     ·simp at he
   | max=>
    simp only [ho,bW] at he
    cases hl:cY ⟨s,B.G,ch⟩ args.toList with
    | none=>simp [hl] at he
    | some l=>
     simp only [hl,Option.bind_some] at he
     have hs:=cO h hc hl
     refine cM.of (hexec _ (λ_=>?_)) (xh (ts:=argTypes) (ty:=o.type) h hs he)
     have e1:args.map a.eval=(args.toList.map a.eval).toArray:=by apply Array.ext';simp
     rw [e1];rfl
   | min=>
    simp only [ho,bW] at he
    cases hl:cY ⟨s,B.G,ch⟩ args.toList with
    | none=>simp [hl] at he
    | some l=>
     simp only [hl,Option.bind_some] at he
     have hs:=cO h hc hl
     refine cM.of (hexec _ (λ_=>?_)) (w7 (ts:=argTypes) (ty:=o.type) h hs he)
     have e1:args.map a.eval=(args.toList.map a.eval).toArray:=by apply Array.ext';simp
     rw [e1];rfl
   | _=>simp [ho,bW] at he
  | _=>simp [ho,bW] at he
 | _=>simp [ho,bW] at he
end Go.Ab

namespace Go.Ab
open Go Go.RowKit
variable {P:Program} {B:Base} {c:Cx} {s:St} {a:Act}
theorem Rel.newVar (h:Rel B c s a) {k:Nat} (hk:s.obj k=none) {vs:Array Value} {t:TypeId} {ob:AO}
  (ho:dh (c.var k vs t) k ob) (hx:∀b,excl (c.var k vs t) k ob b->b=c.w.heap.size) (hkeys:∀r∈ob.keys,live s.objs r):Rel B (c.var k vs t) (s.setObj k ob) a:=by
 refine h.obj (Cx.p6 h.good h.objs hk vs t) (Cx.yw h.good h.frame k vs t) ho (λq o' b hq hne hb=>?_) (λr hr=>.inr (hkeys r hr)) (λb hb=>?_)
 ·have:=cq (h.objs.rep q o' hq) hb
  intro e
  have:=hx b e
  omega
 ·have:=hx b hb
  have:=h.frame.size
  left;omega
theorem tF (c:Cx) (k:Nat) (vs:Array Value) (t:TypeId):(c.var k vs t).w.heap[(c.var k vs t).β k]?=some (.cells vs t (0,0)):=by
 simp only [Cx.var,if_true]
 exact bc c.w _
theorem tE (hg:Good B.G c) (k:Nat) (vs:Array Value) (t:TypeId) (o:Nat):¬ (c.var k vs t).I ((c.var k vs t).β k) o:=by
 simp only [Cx.var,if_true]
 intro hi
 have:=hg.lt hi
 omega
theorem vY (h:Rel B c s a) {k:Nat} (hk:s.obj k=none) (vs:Array Value) (t:TypeId):Ext c (c.var k vs t) (live s.objs):=(Cx.p6 h.good h.objs hk vs t).ext
theorem mj (h:Rel B c s a) {k:Nat} (hk:s.obj k=none) {vs:Array Value} {t:TypeId} {cs:List AV} (hcr:CR c cs vs) (hl:∀q∈au cs,live s.objs q) :
  Rel B (c.var k vs t) (s.setObj k (.cells cs)) a:=by
 refine h.newVar hk ⟨⟨⟨vs,t,tF c k vs t,hcr.1,λi u hu=>(hcr.2 i u hu).2.ext (vY h hk vs t) λq hq=>hl q (aR hu q hq)⟩,λi u hu=>(hcr.2 i u hu).1⟩,tE h.good k vs t,by simp [Cx.var]⟩ (by simp [excl,Cx.var]) (by simpa [AO.keys] using hl)
theorem lQ (h:Rel B c s a) {k:Nat} (hk:s.obj k=none) {vs:Array Value} {t:TypeId} {sz n:Nat} {get:Nat->List AV} (hs:vs.size=n*sz)
  (hl:∀j,j < n->(get j).length=sz/\au (get j)=[]) (hr:∀ (j i:Nat) (u:AV),j < n->(get j)[i]?=some u->u.one=true/\Rep c u (vs.getD (j*sz+i) undef)) :
  Rel B (c.var k vs t) (s.setObj k (.arr sz n get)) a:=by
 refine h.newVar hk ⟨⟨⟨vs,t,tF c k vs t,hs,λj i u hj hu=>(hr j i u hj hu).2.ext (vY h hk vs t) λq hq=>?_⟩,hl,λj i u hj hu=>(hr j i u hj hu).1⟩,tE h.good k vs t,by simp [Cx.var]⟩ (by simp [excl,Cx.var]) (by simp [AO.keys])
 rw [aM (hl j hj).2 hu] at hq;simp at hq
theorem Sees.ref {k:Nat} {vs:Array Value} {t:TypeId} {ob:AO}:Sees B (c.var k vs t) (s.setObj k ob) (.ref k 0) (.pointer (some ⟨c.w.heap.size,0,none⟩)):=by
 refine ⟨?_,λq hq=>?_,rfl⟩
 ·have:=Rep.ref (c:=c.var k vs t) k 0
  simpa [Cx.var] using this
 ·simp [AV.keys] at hq;subst hq;exact a7
theorem tu (h:Rel B c s a) {k:Nat} (hk:s.obj k=none) {t:TypeId} {ob:AO} (he:GM P t=some ob) :
  ∃x c',(Instr.alloc t true (.tuple #[])).run P c.w=.ok x c'.w/\Rel B c' (s.setObj k ob) a/\Sees B c' (s.setObj k ob) (.ref k 0) x:=by
 have hrun:∀ (i:TypeInfo) (v:Value),P.info? t=some i->i.zero=some v->(Instr.alloc t true (.tuple #[])).run P c.w=.ok (.pointer (some ⟨c.w.heap.size,0,none⟩)) (c.w.alloc (.cells v.cells t)):=by
  intro i v hi hv
  simp [Instr.alloc,zeroValue,typeInfo,hi,hv,newVar,newRow]
 unfold GM at he
 split at he
 ·rename_i n e hu
  cases hz:zeroCells P e with
  | none=>simp [hz] at he
  | some z=>
   cases hr:zeroCells P t with
   | none=>simp [hz,hr] at he
   | some r=>
    simp only [hz,hr,Option.bind_some,aq] at he
    cases hb:gF z n r with
    | false=>simp [hb] at he
    | true=>
     simp [hb] at he;subst he
     obtain ⟨i,v,hi,hv,hc⟩:=bj hr
     obtain ⟨_,_,_,_,hcz⟩:=bj hz
     obtain ⟨hcr,_⟩:=dX (c:=c) hc
     obtain ⟨hzc,hzk⟩:=dX (c:=c) hcz
     obtain ⟨h1,h2⟩:=gn hb
     refine ⟨_,c.var k v.cells t,hrun i v hi hv,lQ h hk (by rw [hcr.1,h1]) (λj hj=>⟨rfl,hzk⟩) (λj q u hj hu=>⟨(hzc.2 q u hu).1,?_⟩),Sees.ref⟩
     obtain ⟨w,hw,hsame⟩:=h2 j hj q u hu
     exact m4 hsame (hcr.2 _ w hw).2
 ·cases hr:zeroCells P t with
  | none=>simp [hr] at he
  | some r=>
   simp [hr] at he;subst he
   obtain ⟨i,v,hi,hv,hc⟩:=bj hr
   obtain ⟨hcr,hkz⟩:=dX (c:=c) hc
   exact ⟨_,c.var k v.cells t,hrun i v hi hv,mj h hk hcr (by rw [hkz];simp),Sees.ref⟩
 ·simp at he
theorem nU (h:Rel B c s a) {k:Nat} (hk:s.obj k=none) {t:TypeId} {v:AV} {x:Value} (hs:Sees B c s v x) (ho:eQ v.cells=true) :
  ∃y c',(Instr.box t x).run P c.w=.ok y c'.w/\Rel B c' (s.setObj k (.cells v.cells)) a/\Sees B c' (s.setObj k (.cells v.cells)) (.ref k 0) y:=
 ⟨_,c.var k x.cells t,by simp [Instr.box,newVar,newRow,Cx.var],mj h hk (ib hs.rep ho) (by rw [jO hs.plain];exact hs.live),Sees.ref⟩
theorem pM (h:Rel B c s a) {k:Nat} (hk:s.obj k=none) {t:TypeId} {sz n:Nat} {get:Nat->List AV} {x:Value} (hs:Rep c (.arr sz n get) x) :
  ∃y c',(Instr.box t x).run P c.w=.ok y c'.w/\Rel B c' (s.setObj k (.arr sz n get)) a/\Sees B c' (s.setObj k (.arr sz n get)) (.ref k 0) y:=by
 cases hs with
 | arr _ _ _ vs h1 h2 h3 h4=>
  exact ⟨_,c.var k vs t,by simp [Instr.box,newVar,newRow,Cx.var,Value.cells],lQ h hk h1 h2 (λj i u hj hu=>⟨h3 j i u hj hu,h4 j i u hj hu⟩),Sees.ref⟩
theorem ga (cur:Array Value) (off:Nat) (news:List Value) (h:off+news.length<=cur.size) :
  (cur.toList.take off++news++cur.toList.drop (off+news.length)).toArray.size=cur.size /\
  ∀i,i < cur.size->(cur.toList.take off++news++cur.toList.drop (off+news.length)).toArray.getD i undef=if off<=i/\i < off+news.length then news.getD (i - off) undef else cur.getD i undef:=by
 refine ⟨by simp;omega,λi hi=>?_⟩
 have hlen:(cur.toList.take off).length=off:=by simp;omega
 simp only [Array.getD_eq_getD_getElem?,List.getElem?_toArray]
 by_cases h1:i < off
 ·rw [if_neg (by omega),List.append_assoc,List.getElem?_append_left (by rw [hlen];exact h1),List.getElem?_take,if_pos h1];simp
 ·by_cases h2:i < off+news.length
  ·rw [if_pos ⟨by omega,h2⟩,List.append_assoc,List.getElem?_append_right (by rw [hlen];omega),hlen,List.getElem?_append_left (by omega),List.getD_eq_getElem?_getD]
  ·rw [if_neg (by omega),List.getElem?_append_right (by simp;omega),List.getElem?_drop]
   simp only [List.length_append,hlen]
   have:off+news.length+(i - (off+news.length))=i:=by omega
   rw [this];simp
theorem fT {t:TypeId} {b off:Nat} {x:Value} {cur:Array Value} {t':TypeId} {n:Nat} (hsz:aA P t=some n) (hn:x.cells.size=n) {w:World} (hh:w.heap[b]?=some (.cells cur t' (0,0)))
  (hfit:off+n<=cur.size) (h1:∀u∈x.cells.toList,u.oneCell'=true) :
  (Instr.storeAt t (.pointer (some ⟨b,off,none⟩)) x).run P w=.ok () (w.setRow b (cur.toList.take off++x.cells.toList++cur.toList.drop (off+x.cells.toList.length)).toArray):=by
 have hst:=run_storeCells_at P b off t' x.cells.toList 0 cur w hh (by simp;omega) h1
 simp only [Nat.add_zero] at hst
 simp only [Instr.storeAt,Instr.sureAddr,Sem.run_bind,Sem.run_pure,Result.andThen_ok,storeVar,run_sizeOf hsz]
 rw [if_neg (by simp [hn])]
 exact hst
theorem dx {w:World} {b:Nat} {cs:Array Value} (hc:c.w=w):Wrote c b (w.setRow b cs):=by
 subst hc
 exact ⟨rfl,rfl,rfl,by simp,λb' hb=>setRow_other _ _ _ _ hb⟩
theorem CR.sg {l:List AV} {xs:Array Value} (h:CR c l xs):∀u∈xs.toList,u.oneCell'=true:=by
 intro u hu
 obtain ⟨i,hi,rfl⟩:=List.mem_iff_getElem.1 hu
 have hi':i < xs.size:=by simpa using hi
 have hl:i < l.length:=by rw [<-h.1];exact hi'
 have:=h.2 i _ (List.getElem?_eq_getElem hl)
 have e:xs.getD i undef=xs.toList[i]:=by simp [Array.getD_eq_getD_getElem?,hi']
 rw [e] at this
 exact kg this.2 this.1
theorem CR.splice {cs cs' l:List AV} {vs xs:Array Value} {off:Nat} (h:CR c cs vs) (hl:CR c l xs) (hs:setCells cs off l=some cs') :
  CR c cs' (vs.toList.take off++xs.toList++vs.toList.drop (off+xs.toList.length)).toArray/\off+xs.size<=vs.size:=by
 obtain ⟨h1,h2,h3⟩:=dc hs
 have hfit:off+xs.toList.length<=vs.size:=by simp [hl.1,h.1];exact h2
 obtain ⟨g1,g2⟩:=ga vs off xs.toList hfit
 refine ⟨⟨by rw [g1,h.1,h1],λi u hu=>?_⟩,by simpa using hfit⟩
 have hi:i < vs.size:=by rw [h.1,<-h1];exact (List.getElem?_eq_some_iff.1 hu).1
 rw [g2 i hi]
 rw [h3 i] at hu
 have e1:xs.toList.length=l.length:=by simpa using hl.1
 simp only [e1]
 split at hu
 ·rename_i hc
  rw [if_pos hc]
  have:=hl.2 _ u hu
  simpa [Array.getD_eq_getD_getElem?,List.getD_eq_getElem?_getD] using this
 ·rename_i hc
  rw [if_neg hc]
  exact h.2 i u hu
theorem qc (h:Rel B c s a) {t:TypeId} {x v:AV} {X V:Value} {k:Nat} {ob:AO} (hx:Sees B c s x X) (hv:Sees B c s v V) (he:fU P s t x v=some (true,k,ob)) :
  ∃c',(Instr.storeAt t X V).run P c.w=.ok () c'.w/\Rel B c' (s.setObj k ob) a:=by
 have hxr:=hx.rep
 cases x with
 | ref q off=>
  cases hxr
  simp only [fU] at he
  cases hob:s.obj q with
  | none=>simp [hob] at he
  | some o=>
   have hor:=h.objs.rep q o hob
   cases o with
   | cells cs=>
    simp only [hob,aq] at he
    cases hb:(eQ v.cells&&(aA P t==some v.cells.length)) with
    | false=>simp [hb] at he
    | true=>
     simp only [hb,cond_true] at he
     cases hst:setCells cs off v.cells with
     | none=>simp [hst] at he
     | some l=>
      simp [hst] at he
      obtain ⟨rfl,rfl⟩:=he
      simp only [Bool.and_eq_true,beq_iff_eq] at hb
      obtain ⟨⟨⟨vs,t',hh,hs,hr⟩,h1⟩,hI,hfr⟩:=hor
      have hcv:=ib hv.rep hb.1
      have hcr:CR c cs vs:=⟨hs,λi u hu=>⟨h1 i u hu,hr i u hu⟩⟩
      obtain ⟨hcr',hfit⟩:=hcr.splice hcv hst
      have hw:Wrote c (c.β q) (c.w.setRow (c.β q) (vs.toList.take off++V.cells.toList++vs.toList.drop (off+V.cells.toList.length)).toArray):=dx rfl
      have hkb:=Cx.dy h.objs hob (b:=c.β q) rfl hI hw
      refine ⟨c.write _,fT hb.2 hcv.1 hh (by rw [<-hcv.1];exact hfit) hcv.sg,h.obj hkb (Cx.eo h.good hI hw (h.mine q _ _ hob rfl)) ⟨⟨⟨_,t',setRow_heap _ _ _ _ _ _ hh,hcr'.1,λi u hu=>(hcr'.2 i u hu).2.ext hkb.ext λr hr=>?_⟩,λi u hu=>(hcr'.2 i u hu).1⟩,hI,hfr⟩ ?_ ?_ ?_⟩
      ·rcases kV hst r (aR hu r hr) with hm | hm
       ·exact h.objs.closed q _ hob r (by simpa [AO.keys] using hm)
       ·rw [jO hv.plain] at hm;exact hv.live r hm
      ·intro r o' b hr hne hb' e
       exact h.objs.apart r o' q _ b hr hob hne hb' e
      ·intro r hr
       rcases kV hst r (by simpa [AO.keys] using hr) with hm | hm
       ·exact .inr (h.objs.closed q _ hob r (by simpa [AO.keys] using hm))
       ·rw [jO hv.plain] at hm;exact .inr (hv.live r hm)
      ·intro b hb';exact h.mine q _ b hob hb'
   | arr sz n get=>
    simp only [hob] at he
    cases v with
    | arr sz' n' get'=>
     simp only [aq] at he
     cases hb:(Nat.beq off 0&&(Nat.beq sz sz'&&(Nat.beq n n'&&aA P t==some (n*sz)))) with
     | false=>simp [hb] at he
     | true=>
      simp [hb] at he
      obtain ⟨rfl,rfl⟩:=he
      simp only [Bool.and_eq_true,beq_iff_eq] at hb
      obtain ⟨b1,b2,b3,b4⟩:=hb
      have b1:=du b1;have b2:=du b2;have b3:=du b3
      subst b1;subst b2;subst b3
      obtain ⟨⟨⟨vs,t',hh,hs,hr⟩,hl,h1⟩,hI,hfr⟩:=hor
      have hvr:=hv.rep
      cases hvr with
      | arr _ _ _ xs g1 g2 g3 g4=>
       have hw:Wrote c (c.β q) (c.w.setRow (c.β q) (vs.toList.take 0++(Value.agg xs).cells.toList++vs.toList.drop (0+(Value.agg xs).cells.toList.length)).toArray):=dx rfl
       have hkb:=Cx.dy h.objs hob (b:=c.β q) rfl hI hw
       have hone:∀u∈(Value.agg xs).cells.toList,u.oneCell'=true:=by
        intro u hu
        obtain ⟨i,hi,rfl⟩:=List.mem_iff_getElem.1 hu
        have hi':i < n*sz:=by
         have:i < xs.size:=by simpa [Value.cells] using hi
         omega
        have hsz0:0 < sz:=by
         rcases Nat.eq_zero_or_pos sz with h0 | h0
         ·rw [h0] at hi';omega
         ·exact h0
        have hj:i / sz < n:=Nat.div_lt_of_lt_mul (by rw [Nat.mul_comm];exact hi')
        have hm:i % sz < sz:=Nat.mod_lt _ hsz0
        have hlen:=(g2 _ hj).1
        have:=g4 (i / sz) (i % sz) _ hj (List.getElem?_eq_getElem (by rw [hlen];exact hm))
        have h1':=g3 (i / sz) (i % sz) _ hj (List.getElem?_eq_getElem (by rw [hlen];exact hm))
        have e:i / sz*sz+i % sz=i:=by rw [Nat.mul_comm];exact Nat.div_add_mod i sz
        rw [e] at this
        have e2:xs.getD i undef=(Value.agg xs).cells.toList[i]:=by simp [Value.cells,Array.getD_eq_getD_getElem?,show i < xs.size by omega]
        rw [e2] at this
        exact kg this h1'
       have hnew:(vs.toList.take 0++(Value.agg xs).cells.toList++vs.toList.drop (0+(Value.agg xs).cells.toList.length)).toArray=xs:=by
        apply Array.ext'
        simp [Value.cells,g1,hs]
       refine ⟨c.write _,fT b4 (by simpa [Value.cells] using g1) hh (by omega) hone,h.obj hkb (Cx.eo h.good hI hw (h.mine q _ _ hob rfl)) ⟨⟨⟨_,t',setRow_heap _ _ _ _ _ _ hh,by rw [hnew];exact g1,λj i u hj hu=>?_⟩,g2,g3⟩,hI,hfr⟩ ?_ (by simp [AO.keys]) ?_⟩
       ·refine Eq.subst (motive:=λz=>Rep _ u (Array.getD z (j*sz+i) undef)) hnew.symm ?_
        refine (g4 j i u hj hu).ext hkb.ext λr hr=>?_
        rw [aM (g2 j hj).2 hu] at hr;simp at hr
       ·intro r o' b hr hne hb' e
        exact h.objs.apart r o' q _ b hr hob hne hb' e
       ·intro b hb';exact h.mine q _ b hob hb'
    | _=>simp at he
   | _=>simp [hob] at he
 | aref q sz' i off=>
  cases hxr
  simp only [fU] at he
  cases hob:s.obj q with
  | none=>simp [hob] at he
  | some o=>
   have hor:=h.objs.rep q o hob
   cases o with
   | arr sz n get=>
    simp only [hob,aq] at he
    cases hb:(Nat.beq sz sz'&&(eQ v.shed.cells&&(aA P t==some v.shed.cells.length&&isNil (au v.shed.cells)))) with
    | false=>simp [hb] at he
    | true=>
     simp only [hb,cond_true] at he
     cases hst:setCells (get i) off v.shed.cells with
     | none=>simp [hst] at he
     | some l=>
      simp [hst] at he
      obtain ⟨hi,rfl,rfl⟩:=he
      have hi:i < n:=by simpa [Nat.blt] using hi
      simp only [Bool.and_eq_true,beq_iff_eq] at hb
      obtain ⟨b0,b1,b2,b3⟩:=hb
      have b0:=du b0
      subst b0
      have b3:au v.shed.cells=[]:=by
       cases hk:au v.shed.cells with
       | nil=>rfl
       | cons=>simp [hk,isNil] at b3
      obtain ⟨⟨⟨vs,t',hh,hs,hr⟩,hl,h1⟩,hI,hfr⟩:=hor
      have hcv:=ib hv.shed.rep b1
      obtain ⟨s1,s2,s3⟩:=dc hst
      have hlen:=(hl i hi).1
      have hfit:i*sz+off+V.cells.size<=vs.size:=by
       rw [hcv.1,hs]
       have:=Nat.mul_le_mul_right sz hi
       rw [Nat.succ_mul] at this;omega
      have hw:Wrote c (c.β q) (c.w.setRow (c.β q) (vs.toList.take (i*sz+off)++V.cells.toList++vs.toList.drop (i*sz+off+V.cells.toList.length)).toArray):=dx rfl
      have hkb:=Cx.dy h.objs hob (b:=c.β q) rfl hI hw
      obtain ⟨g1,g2⟩:=ga vs (i*sz+off) V.cells.toList (by simpa using hfit)
      have hlk:au l=[]:=by
       cases hk:au l with
       | nil=>rfl
       | cons r rs=>
        rcases kV hst r (by simp [hk]) with hm | hm
        ·simp [(hl i hi).2] at hm
        ·simp [b3] at hm
      have hnl:∀j,j < n->(cond (Nat.beq j i) l (get j)).length=sz/\au (cond (Nat.beq j i) l (get j))=[]:=by
       intro j hj
       by_cases e:j=i
       ·subst e;simp only [Nat.beq_refl,cond_true];exact ⟨by rw [s1,hlen],hlk⟩
       ·rw [il e];exact hl j hj
      have hnr:∀ (j q':Nat) (u:AV),j < n->(cond (Nat.beq j i) l (get j))[q']?=some u->u.one=true/\Rep c u ((vs.toList.take (i*sz+off)++V.cells.toList++vs.toList.drop (i*sz+off+V.cells.toList.length)).toArray.getD (j*sz+q') undef):=by
       intro j q' u hj hu
       have hq':q' < sz:=by rw [<-(hnl j hj).1];exact (List.getElem?_eq_some_iff.1 hu).1
       have hlt:=br hj hq'
       rw [g2 _ (by omega)]
       simp only [Array.length_toList,hcv.1]
       by_cases e:j=i
       ·subst e
        simp only [Nat.beq_refl,cond_true] at hu
        rw [s3 q'] at hu
        split at hu
        ·rename_i hc
         rw [if_pos (by omega)]
         have:=hcv.2 _ u hu
         refine ⟨this.1,?_⟩
         have e5:j*sz+q' - (j*sz+off)=q' - off:=by omega
         rw [e5]
         simpa [Array.getD_eq_getD_getElem?,List.getD_eq_getElem?_getD] using this.2
        ·rename_i hc
         rw [if_neg (by omega)]
         exact ⟨h1 j q' u hj hu,hr j q' u hj hu⟩
       ·rw [il e] at hu
        rw [if_neg]
        ·exact ⟨h1 j q' u hj hu,hr j q' u hj hu⟩
        ·rintro ⟨c1,c2⟩
         rcases Nat.lt_or_gt_of_ne e with hlt' | hgt
         ·have:=Nat.mul_le_mul_right sz hlt'
          rw [Nat.succ_mul] at this;omega
         ·have:=Nat.mul_le_mul_right sz hgt
          rw [Nat.succ_mul] at this;omega
      refine ⟨c.write _,fT b2 hcv.1 hh (by rw [<-hcv.1];exact hfit) hcv.sg,h.obj hkb (Cx.eo h.good hI hw (h.mine q _ _ hob rfl)) ⟨⟨⟨_,t',setRow_heap _ _ _ _ _ _ hh,by rw [g1];exact hs,λj q' u hj hu=>?_⟩,hnl,λj q' u hj hu=>(hnr j q' u hj hu).1⟩,hI,hfr⟩ ?_ (by simp [AO.keys]) ?_⟩
      ·refine (hnr j q' u hj hu).2.ext hkb.ext λr hr=>?_
       rw [aM (hnl j hj).2 hu] at hr;simp at hr
      ·intro r o' b hr hne hb' e
       exact h.objs.apart r o' q _ b hr hob hne hb' e
      ·intro b hb';exact h.mine q _ b hob hb'
   | _=>simp [hob] at he
 | gref q sz' m i off=>
  simp only [fU] at he
  cases hob:s.obj q with
  | none=>simp [hob] at he
  | some o=>
   have hor:=h.objs.rep q o hob
   cases o with
   | grw sq sz n get=>
    simp only [hob,aq] at he
    cases hb:(Nat.beq sz sz'&&(eQ v.shed.cells&&(aA P t==some v.shed.cells.length&&isNil (au v.shed.cells)))) with
    | false=>simp [hb] at he
    | true=>
     simp only [hb,cond_true] at he
     cases hfo:Nat.ble (off+v.shed.cells.length) sz with
     | false=>simp [hfo] at he
     | true=>
      simp only [hfo,cond_true,Option.some.injEq,Prod.mk.injEq,Bool.and_eq_true] at he
      obtain ⟨⟨hq1,hi,bm⟩,rfl,rfl⟩:=he
      have hq1:sq<=1:=Nat.le_of_ble_eq_true hq1
      have hi:i < n:=Nat.le_of_ble_eq_true hi
      simp only [Bool.and_eq_true,beq_iff_eq] at hb
      obtain ⟨b0,b1,b2,b3⟩:=hb
      have b0:=du b0
      subst b0
      have bm:=du bm
      subst bm
      have b3:au v.shed.cells=[]:=by
       cases hk:au v.shed.cells with
       | nil=>rfl
       | cons=>simp [hk,isNil] at b3
      cases hxr with
      | gref _ _ _ _ _ bl cap hown=>
      obtain ⟨ad,cap',κ1,κ2,κ3,κ4⟩:=nC h hob hown rfl (by omega)
      simp only [Value.slice.injEq,Option.some.injEq,true_and] at κ2
      obtain ⟨κ2,κ5⟩:=κ2
      subst κ2 κ5
      obtain ⟨hsz,hfr,_⟩:=hor
      have hex:excl c q (.grw sq sz m get) bl:=by simp only [excl,κ1];exact ⟨by omega,trivial⟩
      obtain ⟨⟨vs,t',hh,hs,hr⟩,had,hl,h1,hI'⟩:=κ4
      have hI:∀o,¬ c.I bl o:=λo=>hI' o (by rw [show sq - 1=0 by omega,Nat.zero_mul];exact Nat.zero_le _)
      have hcap:m*sz<=cap*sz:=Nat.mul_le_mul_right _ κ3
      simp only at hh hI
      have hst:setCells (get i) off v.shed.cells=some (Dh (get i) off v.shed.cells):=AX (by rw [(hl i hi).1];exact Nat.le_of_ble_eq_true hfo)
      generalize Dh (get i) off v.shed.cells=l at hst ⊢
      have hcv:=ib hv.shed.rep b1
      obtain ⟨s1,s2,s3⟩:=dc hst
      have hlen:=(hl i hi).1
      have hfit:i*sz+off+V.cells.size<=vs.size:=by
       rw [hcv.1,hs]
       have:=Nat.mul_le_mul_right sz hi
       rw [Nat.succ_mul] at this;omega
      have hw:Wrote c (bl) (c.w.setRow (bl) (vs.toList.take (i*sz+off)++V.cells.toList++vs.toList.drop (i*sz+off+V.cells.toList.length)).toArray):=dx rfl
      have hkb:=Cx.dy h.objs hob (b:=bl) hex hI hw
      obtain ⟨g1,g2⟩:=ga vs (i*sz+off) V.cells.toList (by simpa using hfit)
      have hlk:au l=[]:=by
       cases hk:au l with
       | nil=>rfl
       | cons r rs=>
        rcases kV hst r (by simp [hk]) with hm | hm
        ·simp [(hl i hi).2] at hm
        ·simp [b3] at hm
      have hnl:∀j,j < m->(cond (Nat.beq j i) l (get j)).length=sz/\au (cond (Nat.beq j i) l (get j))=[]:=by
       intro j hj
       by_cases e:j=i
       ·subst e;simp only [Nat.beq_refl,cond_true];exact ⟨by rw [s1,hlen],hlk⟩
       ·rw [il e];exact hl j hj
      have hnr:∀ (j q':Nat) (u:AV),j < m->(cond (Nat.beq j i) l (get j))[q']?=some u->u.one=true/\Rep c u ((vs.toList.take (i*sz+off)++V.cells.toList++vs.toList.drop (i*sz+off+V.cells.toList.length)).toArray.getD (j*sz+q') undef):=by
       intro j q' u hj hu
       have hq':q' < sz:=by rw [<-(hnl j hj).1];exact (List.getElem?_eq_some_iff.1 hu).1
       have hlt:=br hj hq'
       rw [g2 _ (by omega)]
       simp only [Array.length_toList,hcv.1]
       by_cases e:j=i
       ·subst e
        simp only [Nat.beq_refl,cond_true] at hu
        rw [s3 q'] at hu
        split at hu
        ·rename_i hc
         rw [if_pos (by omega)]
         have:=hcv.2 _ u hu
         refine ⟨this.1,?_⟩
         have e5:j*sz+q' - (j*sz+off)=q' - off:=by omega
         rw [e5]
         simpa [Array.getD_eq_getD_getElem?,List.getD_eq_getElem?_getD] using this.2
        ·rename_i hc
         rw [if_neg (by omega)]
         exact ⟨h1 j q' u hj hu,hr j q' u hj hu⟩
       ·rw [il e] at hu
        rw [if_neg]
        ·exact ⟨h1 j q' u hj hu,hr j q' u hj hu⟩
        ·rintro ⟨c1,c2⟩
         rcases Nat.lt_or_gt_of_ne e with hlt' | hgt
         ·have:=Nat.mul_le_mul_right sz hlt'
          rw [Nat.succ_mul] at this;omega
         ·have:=Nat.mul_le_mul_right sz hgt
          rw [Nat.succ_mul] at this;omega
      refine ⟨c.write _,fT b2 hcv.1 hh (by rw [<-hcv.1];exact hfit) hcv.sg,h.obj hkb (Cx.eo h.good hI hw (h.mine q _ _ hob hex)) ⟨hsz,hfr,?_⟩ ?_ (by simp [AO.keys]) ?_⟩
      ·show (match c.κ q with | none=>m=0 | some (a,cap)=>m<=cap/\(0 < cap->GrwAt (c.write _) a sq sz m cap _))
       rw [κ1]
       refine ⟨κ3,λ_=>⟨⟨_,t',setRow_heap _ _ _ _ _ _ hh,by rw [g1];exact hs,λj q' u hj hu=>?_⟩,had,hnl,λj q' u hj hu=>(hnr j q' u hj hu).1,hI'⟩⟩
       refine (hnr j q' u hj hu).2.ext hkb.ext λr hr=>?_
       rw [aM (hnl j hj).2 hu] at hr;simp at hr
      ·intro r o' b hr hne hb' e
       exact h.objs.apart r o' q _ b hr hob hne hb' e
      ·intro b hb';exact h.mine q _ b hob hb'
   | _=>simp [hob] at he
 | _=>simp [fU] at he
end Go.Ab

namespace Go.Ab
open Go Go.RowKit
variable {P:Program} {B:Base} {c:Cx} {s:St} {a:Act}
def Cx.owns (c:Cx) (w':World) (I':Nat->Nat->Prop) (k:Nat) (K:Option (Addr×Nat)) (n:Nat):Cx:=
 {w:=w',I:=I',β:=c.β,κ:=λq=>if q=k then K else c.κ q,fr:=λq=>if q=k then some n else c.fr q}
theorem di {w':World} {I':Nat->Nat->Prop} {k n:Nat} {K:Option (Addr×Nat)} {objs:List (Nat×AO)}
  (hI:∀b o,c.I b o->I' b o) (hc:∀b o v,c.I b o->c.w.cell? ⟨b,o,none⟩=some v->w'.cell? ⟨b,o,none⟩=some v)
  (hm:∀b o ob,c.I b o->c.w.heap[b]?=some ob->fL ob=false->w'.heap[b]?=some ob)
  (hk:∀n' v,live objs k->aG c (.key k) n' v->aG (c.owns w' I' k K n) (.key k) n' v)
  (hh:∀q o b,alook objs q=some o->q≠k->excl c q o b->w'.heap[b]?=c.w.heap[b]?/\∀off,I' b off->c.I b off):KeepsBut c (c.owns w' I' k K n) objs k:=by
 refine ⟨⟨hc,hI,λ_ _=>rfl,λq hq n' v hv=>?_,hm⟩,λ_ _ _=>rfl,λq _ hne=>by simp [Cx.owns,hne],λq _ hne=>by simp [Cx.owns,hne],hh⟩
 by_cases e:q=k
 ·subst e;exact hk n' v hq hv
 ·simpa [aG,Cx.owns,e] using hv
theorem iV (h:Rel B c s a) {d:Nat} {t:TypeId} {same:Bool} {x y v:AV} {X Y:Value} {k:Nat} {ob:AO} (hx:Rep c x X) (hy:Rep c y Y) (he:dk P s d t same x y=some (true,v,k,ob)) :
  ∃z c',(Instr.makeSlice t X Y).run P c.w=.ok z c'.w/\Rel B c' (s.setObj k ob) a/\Sees B c' (s.setObj k ob) v z:=by
 unfold dk at he
 split at he
 ·rename_i e l m hu
  split at he
  ·rename_i z inf hz hinf hd
   simp only [aq] at he
   cases hb:(Nat.beq z.length inf.size&&Nat.blt 0 inf.size) with
   | false=>simp [hb] at he
   | true=>
    simp only [hb,cond_true] at he
    simp only [Bool.and_eq_true] at hb
    have b1:=du hb.1
    have b2:0 < inf.size:=Nat.lt_of_succ_le (Nat.le_of_ble_eq_true hb.2)
    obtain ⟨i,zv,hi,hzv,hcz⟩:=bj hz
    obtain ⟨hzc,hzk⟩:=dX (c:=c) hcz
    have:i=inf:=by rw [hinf] at hi;exact (Option.some.inj hi).symm
    subst this
    cases hx;cases hy
    have hmade:(madeCells zv.cells (m.toNat*i.size)).size=m.toNat*z.length:=by rw [size_madeCells,b1]
    cases same with
    | true=>
     simp only [cond_true,Option.some.injEq,Prod.mk.injEq,Bool.and_eq_true,decide_eq_true_eq] at he
     obtain ⟨⟨hlc,h0,hr,hle⟩,rfl,rfl,rfl⟩:=he
     subst hlc
     have hr:=Nat.le_of_ble_eq_true hr
     have hrun:=run_make (P:=P) c.w t e i zv hu hinf hzv .i64 .i64 l l h0 (Int.le_refl _) (by
      have e1:((l.toNat*i.bytes:Nat):Int)<=140737488355328:=by omega
      have e2:(l.toNat:Int)=l:=Int.toNat_of_nonneg h0
      rw [Int.natCast_mul,e2] at e1
      rw [Int.mul_comm];omega) (by omega)
     refine ⟨_,c.var d (madeCells zv.cells (l.toNat*i.size)) e,hrun,lQ h hd hmade (λj hj=>⟨rfl,hzk⟩) (λj q u hj hu'=>⟨(hzc.2 q u hu').1,?_⟩),⟨?_,λq hq=>?_,rfl⟩⟩
     ·have hq:q < z.length:=(List.getElem?_eq_some_iff.1 hu').1
      have hzs:zv.cells.size=z.length:=hzc.1
      rw [fK _ _ _ (by rw [<-b1];exact br hj hq) (by omega)]
      have e5:(j*z.length+q) % zv.cells.size=q:=by rw [hzs,Nat.add_comm,Nat.add_mul_mod_self_right,Nat.mod_eq_of_lt hq]
      rw [e5];exact (hzc.2 q u hu').2
     ·have:=Rep.msl (c:=c.var d (madeCells zv.cells (l.toNat*i.size)) e) d z.length 0 l.toNat l.toNat 0 (Nat.le_refl _) (by simp)
      simpa [Cx.var] using this
     ·simp [AV.keys] at hq;subst hq;exact a7
    | false=>
     simp only [cond_false,Option.some.injEq,Prod.mk.injEq,Bool.and_eq_true,decide_eq_true_eq] at he
     obtain ⟨⟨hl0,h0,hr,hle⟩,rfl,rfl,rfl⟩:=he
     subst hl0
     have hr:=Nat.le_of_ble_eq_true hr
     have hrun:=run_make (P:=P) c.w t e i zv hu hinf hzv .i64 .i64 0 m (Int.le_refl _) h0 (by
      have e1:((m.toNat*i.bytes:Nat):Int)<=140737488355328:=by omega
      have e2:(m.toNat:Int)=m:=Int.toNat_of_nonneg h0
      rw [Int.natCast_mul,e2] at e1
      rw [Int.mul_comm];omega) (by omega)
     have hkb:KeepsBut c (c.owns (c.w.alloc (.cells (madeCells zv.cells (m.toNat*i.size)) e)) c.I d (some (⟨c.w.heap.size,0,none⟩,m.toNat)) 0) s.objs d:=by
      refine di (λ_ _ hi=>hi) (λb o v' hi hv=>?_) (λb o ob hi he _=>(aB c.w _ b (aQ he)).trans he) (λn' v' hl _=>absurd rfl (fA hd hl)) (λq o b hq hne hb=>⟨aB _ _ _ (cq (h.objs.rep q o hq) hb),λ_ hi=>hi⟩)
      rw [World.bN (aB c.w _ b (dN hv))];exact hv
     have hgr:Grow B c (c.owns (c.w.alloc (.cells (madeCells zv.cells (m.toNat*i.size)) e)) c.I d (some (⟨c.w.heap.size,0,none⟩,m.toNat)) 0):=by
      refine ⟨rfl,rfl,rfl,by simp [Cx.owns],λb hb _=>aB _ _ _ (Nat.lt_of_lt_of_le hb h.frame.size),λb o hb _ hi=>hi,λb o hi=>?_⟩
      exact hkb.ext.there h.good hi
     simp only [Int.toNat_zero] at hrun
     refine ⟨.slice (some ⟨c.w.heap.size,0,none⟩) 0 m.toNat,c.owns (c.w.alloc (.cells (madeCells zv.cells (m.toNat*i.size)) e)) c.I d (some (⟨c.w.heap.size,0,none⟩,m.toNat)) 0,hrun,h.obj hkb hgr ⟨by omega,by simp [Cx.owns],?_⟩ ?_ (by simp [AO.keys]) ?_,⟨?_,λq hq=>?_,rfl⟩⟩
     ·simp only [Cx.owns,if_true]
      refine ⟨(λ_=>trivial),Nat.zero_le _,λ_=>⟨⟨_,e,bc c.w _,hmade⟩,rfl,λo _ hi=>?_⟩⟩
      have:=h.good.lt hi
      simp at this
     ·intro q o' b hq hne hb
      have:=cq (h.objs.rep q o' hq) hb
      simp only [excl,Cx.owns,if_true]
      intro e'
      have h9:c.w.heap.size=b:=e'.2
      omega
     ·intro b hb
      simp only [excl,Cx.owns,if_true] at hb
      have:=h.frame.size
      have h9:c.w.heap.size=b:=hb.2
      left;omega
     ·refine .sl _ _ _ _ ⟨c.w.heap.size,0,none⟩ m.toNat (λ_ _=>undef) (λ_=>rfl) (Nat.zero_le _) ⟨0,by simp [Cx.owns],Nat.le_refl _,λ_=>by simp [Cx.owns,kF]⟩ (λj hj=>by omega) (λj i u hj=>by omega) (λj i u hj=>by omega)
     ·simp [AV.keys] at hq;subst hq;exact a7
  ·simp at he
 ·simp at he
structure RowSees (c:Cx) (b o n sz:Nat) (get:Nat->List AV):Prop where
 len:∀j,j < n->(get j).length=sz/\au (get j)=[]
 cell:∀ (j i:Nat) (u:AV),j < n->(get j)[i]?=some u->u.one=true/\∃y,c.w.cell? ⟨b,o+(j*sz+i),none⟩=some y/\Rep c u y
def rd (w:World) (b o:Nat) (q:Nat):Value:=(w.cell? ⟨b,o+q,none⟩).getD undef
def rdL (w:World) (b o len:Nat):List Value:=(List.range len).map (rd w b o)
theorem qn {n sz q:Nat} (h:q < n*sz):q / sz < n/\q % sz < sz/\q / sz*sz+q % sz=q:=by
 have hsz:0 < sz:=by
  rcases Nat.eq_zero_or_pos sz with h0 | h0
  ·rw [h0] at h;omega
  ·exact h0
 exact ⟨Nat.div_lt_of_lt_mul (by rw [Nat.mul_comm];exact h),Nat.mod_lt _ hsz,by rw [Nat.mul_comm];exact Nat.div_add_mod q sz⟩
theorem RowSees.at {b o n sz:Nat} {get:Nat->List AV} (h:RowSees c b o n sz get) {q:Nat} (hq:q < n*sz):c.w.cell? ⟨b,o+q,none⟩=some (rd c.w b o q)/\(rd c.w b o q).oneCell'=true:=by
 obtain ⟨h1,h2,h3⟩:=qn hq
 obtain ⟨g1,y,g2,g3⟩:=h.cell (q / sz) (q % sz) _ h1 (List.getElem?_eq_getElem (by rw [(h.len _ h1).1];exact h2))
 rw [h3] at g2
 simp only [rd,g2,Option.getD_some]
 exact ⟨trivial,kg g3 g1⟩
theorem RowSees.rep {b o n sz:Nat} {get:Nat->List AV} (h:RowSees c b o n sz get) {j i:Nat} {u:AV} (hj:j < n) (hu:(get j)[i]?=some u):Rep c u (rd c.w b o (j*sz+i)):=by
 obtain ⟨_,y,g2,g3⟩:=h.cell j i u hj hu
 simpa [rd,g2] using g3
theorem AW {w:World} {b o len j:Nat} {v:Value} (h:(rdL w b o len)[j]?=some v):j < len/\v=rd w b o j:=by
 simp only [rdL,List.getElem?_map] at h
 rcases Nat.lt_or_ge j len with hj | hj
 ·simp [hj] at h;exact ⟨hj,h.symm⟩
 ·simp [hj] at h
theorem aH (w:World) (b o len:Nat):(rdL w b o len).length=len:=by simp [rdL]
theorem RowSees.cells {b o n sz:Nat} {get:Nat->List AV} (h:RowSees c b o n sz get):(∀j v,(rdL c.w b o (n*sz))[j]?=some v->c.w.cell? ((⟨b,o,none⟩:Addr).add j)=some v)/\∀u∈rdL c.w b o (n*sz),u.oneCell'=true:=by
 refine ⟨λj v hv=>?_,λu hu=>?_⟩
 ·obtain ⟨hj,rfl⟩:=AW hv
  rw [Addr.add_lit];exact (h.at hj).1
 ·simp only [rdL,List.mem_map,List.mem_range] at hu
  obtain ⟨q,hq,rfl⟩:=hu
  exact (h.at hq).2
theorem jd {x:AV} {o:Own} {sz n:Nat} {get:Nat->List AV} {X:Value} (hx:Rep c x X) (e:x=.sl o sz n get) :
  (X=.slice none 0 0/\n=0/\aG c o 0 X)∨∃b of sp cap,(0 < cap->sp=none)/\X=.slice (some ⟨b,of,sp⟩) n cap/\n<=cap/\aG c o n X/\RowSees c b of n sz get/\∀q,q < n*sz->c.I b (of+q):=by
 subst e
 cases hx with
 | slNil _ _ _ ho=>exact .inl ⟨rfl,rfl,ho⟩
 | sl _ _ _ _ ad cap vals h1 h2 h3 h4 h5 h6=>
  obtain ⟨b,of,sp⟩:=ad
  simp only at h1
  refine .inr ⟨b,of,sp,cap,h1,rfl,h2,h3,⟨h4,λj i u hj hu=>⟨(h5 j i u hj hu).1,_,(h5 j i u hj hu).2.1,h6 j i u hj hu⟩⟩,λq hq=>?_⟩
  obtain ⟨g1,g2,g3⟩:=qn hq
  have:=(h5 (q / sz) (q % sz) _ g1 (List.getElem?_eq_getElem (by rw [(h4 _ g1).1];exact g2))).2.2
  rw [g3] at this;exact this
theorem dI {t ty e:TypeId} {i:TypeInfo} (ht:P.underlying t=some (.slice e)) (hi:P.info? e=some i) {base:Option Addr} {n cap:Nat} (hn:n<=cap) {Y:Value} (hY:Y=.slice none 0 0∨∃ad c,Y=.slice (some ad) 0 c) (w:World) :
  (Builtin.append_ #[t,t] ty #[.slice base n cap,Y]).run P w=.ok (.slice base n cap) w:=by
 rcases hY with rfl | ⟨ad,cc,rfl⟩ <;> cases base <;> simp [Builtin.append_,run_underlying ht,sizeOf,typeInfo,hi,Builtin.lenOf,hn,Builtin.firstCells,loadCells,loadCellsFrom,storeCells]
theorem tj {a b:Nat} (h:a < b):Nat.blt a b=true:=Nat.ble_eq_true_of_le h
theorem ltB {a b:Nat} (h:Nat.blt a b=true):a < b:=Nat.le_of_ble_eq_true h
theorem df {n m:Nat} {get get2:Nat->List AV} {j:Nat} (h:j < n):ar n m get get2 j=get j:=by
 have:Nat.blt j n=true:=tj h
 simp [ar,this]
theorem dS {n m:Nat} {get get2:Nat->List AV} {j:Nat} (h1:n<=j) (h2:j < n+m):ar n m get get2 j=get2 (j - n):=by
 have e1:Nat.blt j n=false:=by
  cases hb:Nat.blt j n with
  | false=>rfl
  | true=>
       have:=ltB hb
       omega
 have e2:Nat.blt j (n+m)=true:=tj h2
 simp only [ar,e1,e2,cond_false,cond_true]
theorem ni (w:World) (b o len q:Nat) (h:q < len):(rdL w b o len)[q]?=some (rd w b o q):=by simp [rdL,h]
structure SrcL (c:Cx) (new:List Value) (m sz:Nat) (get:Nat->List AV):Prop where
 size:new.length=m*sz
 len:∀j,j < m->(get j).length=sz/\au (get j)=[]
 cell:∀ (j i:Nat) (u:AV),j < m->(get j)[i]?=some u->u.one=true/\∃y,new[j*sz+i]?=some y/\Rep c u y
theorem RowSees.src {b o m sz:Nat} {get:Nat->List AV} (h:RowSees c b o m sz get):SrcL c (rdL c.w b o (m*sz)) m sz get:=
 ⟨aH _ _ _ _,h.len,λj i u hj hu=>⟨(h.cell j i u hj hu).1,_,ni _ _ _ _ _ (br hj (by rw [<-(h.len j hj).1];exact (List.getElem?_eq_some_iff.1 hu).1)),h.rep hj hu⟩⟩
theorem oP {c':Cx} {b1 o1 n m sz g:Nat} {new:List Value} {get get2:Nat->List AV} {vs:Array Value} {t':TypeId} {ks:Nat->Prop} (h1:RowSees c b1 o1 n sz get) (h2:SrcL c new m sz get2)
  (he:Ext c c' ks) (hg:c'.w.heap[g]?=some (.cells vs t' (0,0))) (hv1:∀q,q < n*sz->vs[q]?=some (rd c.w b1 o1 q)) (hv2:∀q,q < m*sz->vs[n*sz+q]?=new[q]?)
  (hI:∀q,q < (n+m)*sz->c'.I g q) {K:Nat} {cap:Nat} (hcap:n+m<=cap) (ho:aG c' (.key K) (n+m) (.slice (some ⟨g,0,none⟩) (n+m) cap)) :
  Rep c' (.sl (.key K) sz (n+m) (ar n m get get2)) (.slice (some ⟨g,0,none⟩) (n+m) cap):=by
 have hlen:∀j,j < n+m->(ar n m get get2 j).length=sz/\au (ar n m get get2 j)=[]:=by
  intro j hj
  by_cases hjn:j < n
  ·rw [df hjn];exact h1.len j hjn
  ·rw [dS (by omega) hj];exact h2.len _ (by omega)
 have key:∀ (j i:Nat) (u:AV),j < n+m->(ar n m get get2 j)[i]?=some u->u.one=true/\∃y,vs[j*sz+i]?=some y/\Rep c u y:=by
  intro j i u hj hu
  have hi:i < sz:=by rw [<-(hlen j hj).1];exact (List.getElem?_eq_some_iff.1 hu).1
  by_cases hjn:j < n
  ·rw [df hjn] at hu
   exact ⟨(h1.cell j i u hjn hu).1,_,hv1 _ (br hjn hi),h1.rep hjn hu⟩
  ·rw [dS (by omega) hj] at hu
   have hj':j - n < m:=by omega
   obtain ⟨r1,y,r2,r3⟩:=h2.cell _ i u hj' hu
   refine ⟨r1,y,?_,r3⟩
   have e:j*sz+i=n*sz+((j - n)*sz+i):=by
    have:j=n+(j - n):=by omega
    conv=>lhs;rw [this,Nat.add_mul]
    omega
   rw [e,hv2 _ (br hj' hi)];exact r2
 refine .sl _ _ _ _ ⟨g,0,none⟩ cap (λj i=>vs.getD (j*sz+i) undef) (λ_=>rfl) hcap ho hlen (λj i u hj hu=>?_) (λj i u hj hu=>?_)
 ·have hi:i < sz:=by rw [<-(hlen j hj).1];exact (List.getElem?_eq_some_iff.1 hu).1
  obtain ⟨k1,y,k2,k3⟩:=key j i u hj hu
  refine ⟨k1,?_,by simpa using hI _ (br hj hi)⟩
  simp only [Nat.zero_add]
  rw [aY hg,k2]
  simp [Array.getD_eq_getD_getElem?,k2]
 ·obtain ⟨k1,y,k2,k3⟩:=key j i u hj hu
  have:vs.getD (j*sz+i) undef=y:=by simp [Array.getD_eq_getD_getElem?,k2]
  rw [this]
  refine k3.ext he λk hk=>?_
  rw [aM (hlen j hj).2 hu] at hk;simp at hk
structure Owner (c:Cx) (s:St) (o:Own) (sz n K:Nat) (X:Value):Prop where
 cases:(o=.fit/\s.obj K=none)∨(o=.key K/\s.obj K=some (.own sz n))
 own:aG c o n X
theorem jU (h:Rel B c s a) {o:Own} {sz n m K:Nat} {X:Value} (hO:Owner c s o sz n K X) (hm:0 < m) (hsz:0 < sz) {vs:Array Value} {e:TypeId} {cap:Nat} (hcap:n+m<=cap) (hvs:vs.size=cap*sz)
  {b1 o1:Nat} {new:List Value} {get get2:Nat->List AV} (h1:RowSees c b1 o1 n sz get) (h2:SrcL c new m sz get2)
  (hv1:∀q,q < n*sz->vs[q]?=some (rd c.w b1 o1 q)) (hv2:∀q,q < m*sz->vs[n*sz+q]?=new[q]?) :
  ∃c',c'.w=c.w.drew.alloc (.cells vs e)/\Rel B c' (s.setObj K (.own sz (n+m))) a /\
   Sees B c' (s.setObj K (.own sz (n+m))) (.sl (.key K) sz (n+m) (ar n m get get2)) (.slice (some ⟨c.w.heap.size,0,none⟩) (n+m) cap):=by
 let c':=c.owns (c.w.drew.alloc (.cells vs e)) (λb q=>c.I b q∨(b=c.w.heap.size/\q < (n+m)*sz)) K (some (⟨c.w.heap.size,0,none⟩,cap)) (n+m)
 have hkb:KeepsBut c c' s.objs K:=by
  refine di (λ_ _ hi=>.inl hi) (λb q v hi hv=>?_) (λb q ob hi he _=>(aB c.w.drew _ b (aQ he)).trans he) (λn' v hl hv=>?_) (λq o' b hq hne hb=>⟨aB c.w.drew _ _ (cq (h.objs.rep q o' hq) hb),λoff hi=>?_⟩)
  ·rw [World.bN (aB c.w.drew _ b (dN hv))];exact hv
  ·obtain ⟨m',f1,f2,_⟩:=hv
   rcases hO.cases with ⟨_,hk⟩ | ⟨_,hk⟩
   ·exact absurd rfl (fA hk hl)
   ·have:=(h.objs.rep K _ hk).2.1
    rw [this] at f1
    have:=Option.some.inj f1
    exact ⟨n+m,by simp [Cx.owns],by omega,λe'=>by omega⟩
  ·rcases hi with hi | ⟨rfl,_⟩
   ·exact hi
   ·have:=cq (h.objs.rep q o' hq) hb;omega
 have hgr:Grow B c c':=by
  refine ⟨rfl,rfl,rfl,by simp [c',Cx.owns],λb hb _=>aB c.w.drew _ _ (Nat.lt_of_lt_of_le hb h.frame.size),λb q hb _ hi=>?_,λb q hi=>?_⟩
  ·rcases hi with hi | ⟨rfl,_⟩
   ·exact hi
   ·have:=h.frame.size;omega
  ·rcases hi with hi | ⟨rfl,hq⟩
   ·exact hkb.ext.there h.good hi
   ·have hlt:q < vs.size:=by rw [hvs];exact Nat.lt_of_lt_of_le hq (Nat.mul_le_mul_right _ hcap)
    exact .inl ⟨vs[q],by show (c.w.drew.alloc _).cell? ⟨c.w.drew.heap.size,q,none⟩=_;rw [aY (bc c.w.drew _)];simp⟩
 have hown:aG c' (.key K) (n+m) (.slice (some ⟨c.w.heap.size,0,none⟩) (n+m) cap):=⟨n+m,by simp [c',Cx.owns],Nat.le_refl _,λ_=>by simp [c',Cx.owns,kF]⟩
 refine ⟨c',rfl,h.obj hkb hgr ⟨hsz,by simp [c',Cx.owns],?_⟩ ?_ (by simp [AO.keys]) ?_,⟨?_,λq hq=>?_,rfl⟩⟩
 ·simp only [c',Cx.owns,if_true]
  refine ⟨(λ_=>trivial),hcap,λ_=>⟨⟨vs,e,bc c.w.drew _,hvs⟩,rfl,λq hq hi=>?_⟩⟩
  rcases hi with hi | ⟨_,hq'⟩
  ·have:=h.good.lt hi
   simp at this
  ·omega
 ·intro q o' b hq hne hb
  have:=cq (h.objs.rep q o' hq) hb
  simp only [excl,c',Cx.owns,if_true]
  intro e'
  have h9:c.w.heap.size=b:=e'.2
  omega
 ·intro b hb
  simp only [excl,c',Cx.owns,if_true] at hb
  have:=h.frame.size
  have h9:c.w.heap.size=b:=hb.2
  left;omega
 ·exact oP h1 h2 hkb.ext (bc c.w.drew _) hv1 hv2 (λq hq=>.inr ⟨rfl,hq⟩) hcap hown
 ·simp [AV.keys] at hq;subst hq;exact a7
theorem rA (h:Rel B c s a) {sz n m K:Nat} (hk:s.obj K=some (.own sz n)) (hm:0 < m) {g cap:Nat} (hκ:c.κ K=some (⟨g,0,none⟩,cap)) (hcap:n+m<=cap) {cur:Array Value} {e:TypeId} (hh:c.w.heap[g]?=some (.cells cur e (0,0)))
  (hcs:cur.size=cap*sz) (hfree:∀q,n*sz<=q->¬ c.I g q) {new:List Value} {get get2:Nat->List AV} (h1:RowSees c g 0 n sz get) (hI1:∀q,q < n*sz->c.I g (0+q)) (h2:SrcL c new m sz get2) :
  ∃c',c'.w=c.w.setRow g (cur.toList.take (n*sz)++new++cur.toList.drop (n*sz+new.length)).toArray/\Rel B c' (s.setObj K (.own sz (n+m))) a /\
   Sees B c' (s.setObj K (.own sz (n+m))) (.sl (.key K) sz (n+m) (ar n m get get2)) (.slice (some ⟨g,0,none⟩) (n+m) cap):=by
 have hrepK:=h.objs.rep K _ hk
 have hsz:0 < sz:=hrepK.1
 have hexcl:excl c K (.own sz n) g:=by simp [excl,hκ];omega
 have hfit:n*sz+new.length<=cur.size:=by rw [h2.size,hcs,<-Nat.add_mul];exact Nat.mul_le_mul_right _ hcap
 obtain ⟨g1,g2⟩:=ga cur (n*sz) new hfit
 generalize hvs:(cur.toList.take (n*sz)++new++cur.toList.drop (n*sz+new.length)).toArray=vs at g1 g2
 have hW:Wrote c g (c.w.setRow g vs):=dx rfl
 have hg':(c.w.setRow g vs).heap[g]?=some (.cells vs e (0,0)):=setRow_heap _ _ _ _ _ _ hh
 have xI:∀q,q < cur.size->vs[q]?=some (if n*sz<=q/\q < n*sz+new.length then new.getD (q - n*sz) undef else cur.getD q undef):=by
  intro q hq
  have hq':q < vs.size:=by omega
  have:=g2 q hq
  rw [<-this]
  simp [Array.getD_eq_getD_getElem?,hq']
 let c':=c.owns (c.w.setRow g vs) (λb q=>c.I b q∨(b=g/\n*sz<=q/\q < (n+m)*sz)) K (some (⟨g,0,none⟩,cap)) (n+m)
 have hkb:KeepsBut c c' s.objs K:=by
  refine di (λ_ _ hi=>.inl hi) (λb q v hi hv=>?_) (λb q ob hi he ho=>(hW.other b (λe=>by subst e;rw [hh] at he;cases he;cases ho)).trans he) (λn' v hl hv=>?_) (λq o' b hq hne hb=>?_)
  ·by_cases e':b=g
   ·subst e'
    have hq:q < n*sz:=by
     rcases Nat.lt_or_ge q (n*sz) with h' | h'
     ·exact h'
     ·exact absurd hi (hfree q h')
    rw [aY hg',xI q (by omega),if_neg (by omega)]
    rw [aY hh] at hv
    simp [Array.getD_eq_getD_getElem?,hv]
   ·rw [World.bN (hW.other b e')];exact hv
  ·obtain ⟨m',f1,f2,_⟩:=hv
   rw [hrepK.2.1] at f1
   have:=Option.some.inj f1
   exact ⟨n+m,by simp [Cx.owns],by omega,λe'=>by omega⟩
  ·have hne':b≠g:=by
    rintro rfl
    exact h.objs.apart q o' K _ b hq hk hne hb hexcl
   refine ⟨hW.other b hne',λoff hi=>?_⟩
   rcases hi with hi | ⟨e',_⟩
   ·exact hi
   ·exact absurd e' hne'
 have hgr:Grow B c c':=by
  refine ⟨rfl,rfl,rfl,by simp [c',Cx.owns],λb hb hd=>hW.other b ?_,λb q hb hd hi=>?_,λb q hi=>?_⟩
  ·rintro rfl
   rcases h.mine K _ b hk hexcl with h' | h'
   ·omega
   ·exact hd h'
  ·rcases hi with hi | ⟨rfl,_⟩
   ·exact hi
   ·rcases h.mine K _ b hk hexcl with h' | h'
    ·omega
    ·exact absurd h' hd
  ·rcases hi with hi | ⟨rfl,_,hq⟩
   ·exact hkb.ext.there h.good hi
   ·have hlt:q < vs.size:=by rw [g1,hcs];exact Nat.lt_of_lt_of_le hq (Nat.mul_le_mul_right _ hcap)
    exact .inl ⟨vs[q],by show (c.w.setRow b vs).cell? _=_;rw [aY hg'];simp⟩
 have hown:aG c' (.key K) (n+m) (.slice (some ⟨g,0,none⟩) (n+m) cap):=⟨n+m,by simp [c',Cx.owns],Nat.le_refl _,λ_=>by simp [c',Cx.owns,kF]⟩
 have hexcl':∀b,excl c' K (.own sz (n+m)) b->b=g:=by
  intro b hb
  simp only [excl,c',Cx.owns,if_true] at hb
  exact hb.2.symm
 refine ⟨c',by simp [c',Cx.owns],h.obj hkb hgr ⟨hsz,by simp [c',Cx.owns],?_⟩ ?_ (by simp [AO.keys]) ?_,⟨?_,λq hq=>?_,rfl⟩⟩
 ·simp only [c',Cx.owns,if_true]
  refine ⟨(λ_=>trivial),hcap,λ_=>⟨⟨vs,e,hg',by rw [g1,hcs]⟩,rfl,λq hq hi=>?_⟩⟩
  rcases hi with hi | ⟨_,_,hq'⟩
  ·exact hfree q (by rw [Nat.add_mul] at hq;omega) hi
  ·omega
 ·intro q o' b hq hne hb e'
  have:=hexcl' b e'
  subst this
  exact h.objs.apart q o' K _ b hq hk hne hb hexcl
 ·intro b hb
  rw [hexcl' b hb];exact h.mine K _ g hk hexcl
 ·refine oP h1 h2 hkb.ext hg' (λq hq=>?_) (λq hq=>?_) (λq hq=>?_) hcap hown
  ·have hlt:q < cur.size:=by omega
   rw [xI q hlt,if_neg (by omega)]
   have:=(h1.at hq).1
   simp only [Nat.zero_add] at this
   rw [aY hh] at this
   simp [Array.getD_eq_getD_getElem?,this]
  ·rw [h2.size] at hfit
   rw [xI _ (by omega),if_pos (by rw [h2.size];omega)]
   have e5:n*sz+q - n*sz=q:=by omega
   have hq':q < new.length:=by rw [h2.size];exact hq
   rw [e5,List.getD_eq_getElem?_getD,List.getElem?_eq_getElem hq'];rfl
  ·by_cases hlt:q < n*sz
   ·left
    have:=hI1 q hlt
    simpa using this
   ·exact .inr ⟨rfl,by omega,hq⟩
 ·simp [AV.keys] at hq;subst hq;exact a7
end Go.Ab

namespace Go.Ab
open Go Go.RowKit
variable {P:Program} {B:Base} {c:Cx} {s:St} {a:Act}
theorem Rep.reown {o o':Own} {sz sz' n:Nat} {get get':Nat->List AV} {X:Value} (h:Rep c (.sl o sz n get) X) (hs:n=0∨sz=sz') (hg:∀j,j < n->get' j=get j) (ho:aG c o' n X):Rep c (.sl o' sz' n get') X:=by
 cases h with
 | slNil=>exact .slNil _ _ _ ho
 | sl _ _ _ _ ad cap vals h1 h2 h3 h4 h5 h6=>
  rcases hs with rfl | rfl
  ·exact .sl _ _ _ _ ad cap vals h1 h2 ho (λj hj=>by omega) (λj i u hj=>by omega) (λj i u hj=>by omega)
  ·exact .sl _ _ _ _ ad cap vals h1 h2 ho (λj hj=>by rw [hg j hj];exact h4 j hj) (λj i u hj hu=>h5 j i u hj (by rwa [hg j hj] at hu)) (λj i u hj hu=>h6 j i u hj (by rwa [hg j hj] at hu))
theorem jD (h:Rel B c s a) {o:Own} {sz sz0 n K:Nat} {get get':Nat->List AV} {X:Value} (hsz:0 < sz) (hx:Rep c (.sl o sz0 n get) X) (hO:Owner c s o sz n K X) (hs:n=0∨sz0=sz) (hg:∀j,j < n->get' j=get j) :
  ∃c',(c'.β=c.β/\c'.I=c.I)/\c'.w=c.w/\Rel B c' (s.setObj K (.own sz n)) a/\Sees B c' (s.setObj K (.own sz n)) (.sl (.key K) sz n get') X:=by
 obtain ⟨κ',e1,e2⟩:∃κ',X=kF κ' n/\(match κ' with
   | none=>n=0
   | some (ad,cap)=>(0 < cap->ad.spot=none)/\n<=cap/\(n < cap->RoomAt c ad sz n cap/\(s.obj K=some (.own sz n)/\c.κ K=some (ad,cap)))):=by
  rcases hO.cases with ⟨rfl,_⟩ | ⟨rfl,hk⟩
  ·have ho:=hO.own
   cases hx with
   | slNil=>exact ⟨none,rfl,rfl⟩
   | sl _ _ _ _ ad cap vals h1 h2 h3 h4 h5 h6=>
    have:cap=n:=ho
    subst this
    exact ⟨some (ad,cap),rfl,h1,Nat.le_refl _,λhlt=>by omega⟩
  ·obtain ⟨m',f1,f2,f3⟩:=hO.own
   have hr:=h.objs.rep K _ hk
   rw [hr.2.1] at f1
   have:=Option.some.inj f1
   subst this
   refine ⟨c.κ K,f3 rfl,?_⟩
   have:=hr.2.2
   cases hκ:c.κ K with
   | none=>simpa [hκ] using this
   | some p=>
    obtain ⟨ad,cap⟩:=p
    simp only [hκ] at this
    exact ⟨this.1,this.2.1,λhlt=>⟨this.2.2 hlt,hk,rfl⟩⟩
 let c':=c.owns c.w c.I K κ' n
 have hkb:KeepsBut c c' s.objs K:=by
  refine di (λ_ _ hi=>hi) (λ_ _ _ _ hv=>hv) (λ_ _ _ _ hv _=>hv) (λn' v hl hv=>?_) (λ_ _ _ _ _ _=>⟨rfl,λ_ hi=>hi⟩)
  rcases hO.cases with ⟨_,hk⟩ | ⟨rfl,hk⟩
  ·exact absurd rfl (fA hk hl)
  ·obtain ⟨m',f1,f2,f3⟩:=hv
   have hr:=h.objs.rep K _ hk
   rw [hr.2.1] at f1
   have:=Option.some.inj f1
   subst this
   refine ⟨n,by simp [Cx.owns],f2,λe=>?_⟩
   subst e
   obtain ⟨m'',g1,g2,g3⟩:=hO.own
   rw [hr.2.1] at g1
   have:=Option.some.inj g1
   rw [f3 rfl,<-g3 this,e1]
   simp [Cx.owns]
 have hgr:Grow B c c':=⟨rfl,rfl,rfl,Nat.le_refl _,λ_ _ _=>rfl,λ_ _ _ _ hi=>hi,h.good.there⟩
 have hexcl:∀b,excl c' K (.own sz n) b->s.obj K=some (.own sz n)/\excl c K (.own sz n) b:=by
  intro b hb
  simp only [excl,c',Cx.owns,if_true] at hb
  cases κ' with
  | none=>simp at hb
  | some p=>
   obtain ⟨ad,cap⟩:=p
   simp only at hb e2
   obtain ⟨hlt,hb⟩:=hb
   obtain ⟨_,hk,hκ⟩:=e2.2.2 hlt
   exact ⟨hk,by simp [excl,hκ,hlt];exact hb⟩
 refine ⟨c',⟨rfl,rfl⟩,rfl,h.obj hkb hgr ⟨hsz,by simp [c',Cx.owns],?_⟩ (λq o' b hq hne hb e=>?_) (by simp [AO.keys]) (λb hb=>?_),⟨?_,λq hq=>?_,rfl⟩⟩
 ·simp only [c',Cx.owns,if_true]
  cases κ' with
  | none=>exact e2
  | some p=>
   obtain ⟨ad,cap⟩:=p
   refine ⟨e2.1,e2.2.1,λhlt=>?_⟩
   obtain ⟨⟨r1,r2,r3⟩,_⟩:=e2.2.2 hlt
   exact ⟨r1,r2,r3⟩
 ·obtain ⟨hk,hb'⟩:=hexcl b e
  exact h.objs.apart q o' K _ b hq hk hne hb hb'
 ·obtain ⟨hk,hb'⟩:=hexcl b hb
  exact h.mine K _ b hk hb'
 ·have hx':Rep c' (.sl .no sz0 n get) X:=by
   have hx0:Rep c (.sl .no sz0 n get) X:=hx.reown (.inr rfl) (λ_ _=>rfl) trivial
   exact hx0.ext (ks:=live s.objs) hkb.ext (by simp [AV.keys])
  exact hx'.reown hs hg ⟨n,by simp [c',Cx.owns],Nat.le_refl _,λ_=>by rw [e1];simp [c',Cx.owns]⟩
 ·simp [AV.keys] at hq;subst hq;exact a7
theorem nX (h:Rel B c s a) {o:Own} {sz sz0 n K:Nat} {get get':Nat->List AV} {X:Value} (hsz:0 < sz) (hx:Rep c (.sl o sz0 n get) X) (hO:Owner c s o sz n K X) (hs:n=0∨sz0=sz) (hg:∀j,j < n->get' j=get j) :
  ∃c',c'.w=c.w/\Rel B c' (s.setObj K (.own sz n)) a/\Sees B c' (s.setObj K (.own sz n)) (.sl (.key K) sz n get') X:=by
 obtain ⟨c',_,h'⟩:=jD (get':=get') h hsz hx hO hs hg
 exact ⟨c',h'⟩
theorem jE {t ty e:TypeId} {i:TypeInfo} {sz:Nat} (ht:P.underlying t=some (.slice e)) (hi:P.info? e=some i) (hs:i.size=sz) {w:World}
  {g sLen sCap:Nat} {cur:Array Value} {e':TypeId} (hg:w.heap[g]?=some (.cells cur e' (0,0)))
  {ad:Addr} {m cc:Nat} {news:List Value} (hl:news.length=m*sz) (hnews:∀j u,news[j]?=some u->w.cell? (ad.add j)=some u) (h1:∀u∈news,u.oneCell'=true)
  (hroom:sLen+m<=sCap) (hfit:sLen*sz+news.length<=cur.size) :
  (Builtin.append_ #[t,t] ty #[.slice (some ⟨g,0,none⟩) sLen sCap,.slice (some ad) m cc]).run P w =
   .ok (.slice (some ⟨g,0,none⟩) (sLen+m) sCap) (w.setRow g (cur.toList.take (sLen*sz)++news++cur.toList.drop (sLen*sz+news.length)).toArray):=by
 subst hs
 have hf:=run_firstCells_some (P:=P) w i.size m ad m cc news hl hnews
 have hst:=run_storeCells_at P g (sLen*i.size) e' news 0 cur w hg (by simpa using hfit) h1
 simp only [Nat.add_zero] at hst
 simp [Builtin.append_,run_underlying ht,sizeOf,typeInfo,hi,Builtin.lenOf,hroom,hf,Addr.add_lit,hst]
theorem nY {t u ty e:TypeId} {i:TypeInfo} (ht:P.underlying t=some (.slice e)) (hu:P.underlying u=some .string) (hi:P.info? e=some i) (hs1:i.size=1) {w:World}
  {g sLen sCap:Nat} {cur:Array Value} {e':TypeId} (hg:w.heap[g]?=some (.cells cur e' (0,0))) {b:List UInt8}
  (hroom:sLen+b.length<=sCap) (hfit:sLen+b.length<=cur.size) :
  (Builtin.append_ #[t,u] ty #[.slice (some ⟨g,0,none⟩) sLen sCap,.string ⟨b.toArray⟩]).run P w =
   .ok (.slice (some ⟨g,0,none⟩) (sLen+b.length) sCap) (w.setRow g (cur.toList.take sLen++Lib.strCells ⟨b.toArray⟩++cur.toList.drop (sLen+b.length)).toArray):=by
 have hbs:(⟨b.toArray⟩:ByteArray).size=b.length:=by simp [ByteArray.size]
 have hl:(Lib.strCells ⟨b.toArray⟩).length=b.length:=by simp [Lib.strCells]
 have hf:=Lib.run_firstCells_string (P:=P) w 1 ⟨b.toArray⟩
 have hst:=run_storeCells_at P g sLen e' (Lib.strCells ⟨b.toArray⟩) 0 cur w hg (by simpa [hl] using hfit) (Lib.strCells_oneCell _)
 simp only [Nat.add_zero,hl] at hst
 rw [hbs] at hf
 simp [Builtin.append_,run_underlying ht,run_underlying hu,sizeOf,typeInfo,hi,hs1,Builtin.lenOf,hbs,hroom,hf,Addr.add_lit,hst]
theorem mF (h:Rel B c s a) {t ty e:TypeId} {o:Own} {sz sz0 n sz2 m K:Nat} {get get2:Nat->List AV} {X Y:Value} {y:AV} {i:TypeInfo} {z:List AV} (hu:P.underlying t=some (.slice e))
  (hi:P.info? e=some i) (hsz:aA P e=some sz) (hz:zeroCells P e=some z) (hzl:z.length=sz) (h0:0 < sz) (hb:0 < i.bytes) (hx:Rep c (.sl o sz0 n get) X) (hy:Rep c y Y) (hsrc:mG s y=some (sz2,m,get2))
  (hO:Owner c s o sz n K X) (hs1:n=0∨sz0=sz) (hs2:m=0∨sz2=sz) (hroom:(n+m)*i.bytes<=140737488355328) :
  ∃V c',(Builtin.append_ #[t,t] ty #[X,Y]).run P c.w=.ok V c'.w/\Rel B c' (s.setObj K (.own sz (n+m))) a/\Sees B c' (s.setObj K (.own sz (n+m))) (.sl (.key K) sz (n+m) (ar n m get get2)) V:=by
 obtain ⟨i',zv,hi',hzv,hcz⟩:=bj hz
 have:i'=i:=by rw [hi] at hi';exact (Option.some.inj hi').symm
 subst this
 have hisz:i'.size=sz:=by unfold aA at hsz;simp [hi] at hsz;exact hsz
 obtain ⟨hzc,_⟩:=dX (c:=c) hcz
 have hzs:zv.cells.size=sz:=by rw [hzc.1,hzl]
 have hnm:n+m<=140737488355328:=Nat.le_trans (Nat.le_mul_of_pos_right _ hb) hroom
 have hmem:n<=n+m:=Nat.le_add_right _ _
 have hx':Rep c (.sl o sz n get) X:=hx.reown hs1 (λ_ _=>rfl) (by
  cases hx with
  | slNil _ _ _ ho=>exact ho
  | sl _ _ _ _ ad cap vals h1 h2 h3 h4 h5 h6=>exact h3)
 by_cases hm:m=0
 ·subst hm
  have hY:Y=.slice none 0 0∨∃ad cc,Y=.slice (some ad) 0 cc:=by
   rcases eR h hy hsrc with ⟨rfl,_⟩ | ⟨b,of,sp,cap,_,rfl,_⟩
   ·exact .inl rfl
   ·exact .inr ⟨_,_,rfl⟩
  obtain ⟨c',e1,e2,e3⟩:=nX h (get':=ar n 0 get get2) h0 hx hO hs1 (λj hj=>df hj)
  refine ⟨X,c',?_,e2,e3⟩
  rw [e1]
  rcases jd hx rfl with ⟨rfl,rfl,_⟩ | ⟨b,of,sp,cap,_,rfl,hle,_⟩
  ·exact dI hu hi (Nat.le_refl _) hY c.w
  ·exact dI hu hi hle hY c.w
 ·have hm0:0 < m:=Nat.pos_of_ne_zero hm
  have hs2:sz2=sz:=hs2.resolve_left hm
  subst hs2
  rcases eR h hy hsrc with ⟨_,e⟩ | ⟨b2,o2,sp2,cap2,hsp2,rfl,_,hlen2,hcell2⟩
  ·omega
  obtain rfl:=hsp2 hm0
  have h2:RowSees c b2 o2 m sz2 get2:=⟨hlen2,hcell2⟩
  have hc2:=h2.cells
  have hzsz:∀k,(Builtin.zeroCells zv.cells k).size=k*sz2:=λk=>by rw [size_zeroCells,hzs]
  rcases jd hx' rfl with ⟨rfl,rfl,_⟩ | ⟨b1,o1,sp1,cap,hsp1,rfl,hle,_,h1,hI1⟩
  ·have hrun:=run_append_nil (P:=P) (w:=c.w) t ty e i' zv hu hi hzv ⟨b2,o2,none⟩ m cap2 (rdL c.w b2 o2 (m*sz2)) (by rw [aH,hisz]) hc2.1 hm0 (by omega) (by simp only [Nat.zero_add] at hroom;omega)
   have hge:=grownCap_ge c.w m 0 e
   generalize grownCap c.w m 0 e=nc at hrun hge
   obtain ⟨c',e1,e2,e3⟩:=jU h (vs:=(rdL c.w b2 o2 (m*sz2)).toArray++Builtin.zeroCells zv.cells (nc - m)) (e:=e) (cap:=nc) hO hm0 h0 (by omega) (by
    simp only [Array.size_append,List.size_toArray,aH,hzsz,<-Nat.add_mul];congr 1;omega)
    (b1:=0) (o1:=0) (get:=get) ⟨λj hj=>by omega,λj i u hj=>by omega⟩ h2.src (λq hq=>by omega) (λq hq=>by
     simp only [Nat.zero_mul,Nat.zero_add,Array.getElem?_append]
     rw [if_pos (by simpa [aH] using hq)]
     simp)
   simp only [Nat.zero_add] at e2 e3 ⊢
   exact ⟨_,c',by rw [e1];exact hrun,e2,e3⟩
  ·by_cases hroom':n+m<=cap
   ·-- into the room
    obtain rfl:=hsp1 (by omega)
    rcases hO.cases with ⟨rfl,_⟩ | ⟨rfl,hk⟩
    ·have:cap=n:=hO.own
     omega
    ·obtain ⟨m',f1,f2,f3⟩:=hO.own
     have hr:=h.objs.rep K _ hk
     rw [hr.2.1] at f1
     have:=Option.some.inj f1
     subst this
     have hX:=f3 rfl
     have hr2:=hr.2.2
     cases hκ:c.κ K with
     | none=>rw [hκ] at hX;simp [kF] at hX
     | some p=>
      obtain ⟨ad,cap'⟩:=p
      rw [hκ] at hX
      simp [kF] at hX
      obtain ⟨rfl,rfl⟩:=hX
      simp only [hκ] at hr2
      obtain ⟨⟨cur,e',hh,hcs⟩,hoff,hfree⟩:=hr2.2.2 (by omega)
      simp only at hoff hh hfree
      subst hoff
      have hrun:=jE (P:=P) (ty:=ty) (w:=c.w) (ad:=⟨b2,o2,none⟩) (m:=m) (cc:=cap2) (sLen:=n) (sCap:=cap) hu hi hisz hh (aH c.w b2 o2 (m*sz2)) hc2.1 hc2.2 hroom' (by rw [aH,hcs,<-Nat.add_mul];exact Nat.mul_le_mul_right _ hroom')
      obtain ⟨c',e1,e2,e3⟩:=rA h hk hm0 hκ hroom' hh hcs hfree h1 hI1 h2.src
      exact ⟨_,c',by rw [e1];exact hrun,e2,e3⟩
   ·have hload:∀ (j:Nat) (v:Value),(rdL c.w b1 o1 (n*sz2))[j]?=some v->c.w.cell? ((⟨b1,o1,sp1⟩:Addr).add j)=some v:=by
     by_cases hc0:0 < cap
     ·obtain rfl:=hsp1 hc0
      exact h1.cells.1
     ·obtain rfl:n=0:=by omega
      intro j v hj
      rw [List.getElem?_eq_none (by rw [aH];omega)] at hj
      cases hj
    have hrun:=run_append_grow (P:=P) (w:=c.w) t ty e i' zv hu hi hzv ⟨b1,o1,sp1⟩ n cap (rdL c.w b1 o1 (n*sz2)) (by rw [aH,hisz]) hload ⟨b2,o2,none⟩ m cap2 (rdL c.w b2 o2 (m*sz2)) (by rw [aH,hisz]) hc2.1 (by omega) (by omega) (growslice_fits (by omega) hroom)
    have hge:=grownCap_ge c.w (n+m) cap e
    generalize grownCap c.w (n+m) cap e=nc at hrun hge
    obtain ⟨c',e1,e2,e3⟩:=jU h (vs:=(rdL c.w b1 o1 (n*sz2)).toArray++(rdL c.w b2 o2 (m*sz2)).toArray++Builtin.zeroCells zv.cells (nc - (n+m))) (e:=e) (cap:=nc) hO hm0 h0 hge (by
     simp only [Array.size_append,List.size_toArray,aH,hzsz,<-Nat.add_mul];congr 1;omega)
     h1 h2.src (λq hq=>by
      rw [Array.append_assoc,Array.getElem?_append,if_pos (by simpa [aH] using hq)]
      simpa using ni _ _ _ _ _ hq) (λq hq=>by
      rw [Array.getElem?_append,if_pos (by simp [aH];omega),Array.getElem?_append,if_neg (by simp [aH])]
      simp only [List.size_toArray,aH]
      have e5:n*sz2+q - n*sz2=q:=by omega
      rw [e5]
      simp)
    exact ⟨_,c',by rw [e1];exact hrun,e2,e3⟩
theorem qb (b:List UInt8):SrcL c (Lib.strCells ⟨b.toArray⟩) b.length 1 (rowOf b):=by
 have hl:(Lib.strCells ⟨b.toArray⟩).length=b.length:=by simp [Lib.strCells]
 refine ⟨by rw [hl,Nat.mul_one],λj hj=>⟨rfl,rfl⟩,λj i u hj hu=>?_⟩
 have hi:i=0:=by
  cases i with
  | zero=>rfl
  | succ i=>simp [rowOf] at hu
 subst hi
 simp only [rowOf,List.getElem?_cons_zero,Option.some.injEq] at hu
 subst hu
 refine ⟨rfl,.int .u8 (b.getD j 0).toNat,?_,.int _ _⟩
 simp only [Lib.strCells,Nat.mul_one,Nat.add_zero,List.getElem?_map,List.getD_eq_getElem?_getD,List.getElem?_eq_getElem hj]
 simp [hj]
theorem mD (h:Rel B c s a) {t u ty e:TypeId} {o:Own} {sz0 n K:Nat} {get:Nat->List AV} {X:Value} {b:List UInt8} {i:TypeInfo} {z:List AV} (hu:P.underlying t=some (.slice e)) (hus:P.underlying u=some .string)
  (hi:P.info? e=some i) (hsz:aA P e=some 1) (hz:zeroCells P e=some z) (hzl:z.length=1) (hb:0 < i.bytes) (hx:Rep c (.sl o sz0 n get) X)
  (hO:Owner c s o 1 n K X) (hs1:n=0∨sz0=1) (hroom:(n+b.length)*i.bytes<=140737488355328) :
  ∃V c',(Builtin.append_ #[t,u] ty #[X,.string ⟨b.toArray⟩]).run P c.w=.ok V c'.w/\Rel B c' (s.setObj K (.own 1 (n+b.length))) a/\Sees B c' (s.setObj K (.own 1 (n+b.length))) (.sl (.key K) 1 (n+b.length) (ar n b.length get (rowOf b))) V:=by
 obtain ⟨i',zv,hi',hzv,hcz⟩:=bj hz
 have:i'=i:=by rw [hi] at hi';exact (Option.some.inj hi').symm
 subst this
 have hisz:i'.size=1:=by unfold aA at hsz;simp [hi] at hsz;exact hsz
 obtain ⟨hzc,_⟩:=dX (c:=c) hcz
 have hzs:zv.cells.size=1:=by rw [hzc.1,hzl]
 have hnm:n+b.length<=140737488355328:=Nat.le_trans (Nat.le_mul_of_pos_right _ hb) hroom
 have hbs:(⟨b.toArray⟩:ByteArray).size=b.length:=by simp [ByteArray.size]
 have h2:=qb (c:=c) b
 have hl:(Lib.strCells ⟨b.toArray⟩).length=b.length:=by rw [h2.size,Nat.mul_one]
 have hx':Rep c (.sl o 1 n get) X:=hx.reown hs1 (λ_ _=>rfl) (by
  cases hx with
  | slNil _ _ _ ho=>exact ho
  | sl _ _ _ _ ad cap vals h1 h2 h3 h4 h5 h6=>exact h3)
 by_cases hm:b.length=0
 ·have hb0:b=[]:=List.length_eq_zero_iff.1 hm
  subst hb0
  obtain ⟨c',e1,e2,e3⟩:=nX h (get':=ar n 0 get (rowOf [])) (Nat.succ_pos 0) hx hO hs1 (λj hj=>df hj)
  refine ⟨X,c',?_,e2,e3⟩
  rw [e1]
  rcases jd hx rfl with ⟨rfl,rfl,_⟩ | ⟨b,of,sp,cap,_,rfl,hle,_⟩ <;>
   simp [Builtin.append_,run_underlying hu,run_underlying hus,sizeOf,typeInfo,hi,Builtin.lenOf,Builtin.firstCells,storeCells,ByteArray.size, *]
 ·have hm0:0 < b.length:=Nat.pos_of_ne_zero hm
  have hzsz:∀k,(Builtin.zeroCells zv.cells k).size=k*1:=λk=>by rw [size_zeroCells,hzs]
  rcases jd hx' rfl with ⟨rfl,rfl,_⟩ | ⟨b1,o1,sp1,cap,hsp1,rfl,hle,_,h1,hI1⟩
  ·have hrun:=run_append_nil_string (P:=P) (w:=c.w) t u ty e i' zv hu hus hi hzv ⟨b.toArray⟩ (by rw [hbs];exact hm0) (by rw [hbs];omega) (by rw [hbs];simp only [Nat.zero_add] at hroom;omega)
   rw [hbs] at hrun
   have hge:=grownCap_ge c.w b.length 0 e
   generalize grownCap c.w b.length 0 e=nc at hrun hge
   have hcells:(⟨b.toArray⟩:ByteArray).data.map (λb=>Value.int .u8 b.toNat)=(Lib.strCells ⟨b.toArray⟩).toArray:=by simp [Lib.strCells]
   rw [hcells] at hrun
   obtain ⟨c',e1,e2,e3⟩:=jU h (vs:=(Lib.strCells ⟨b.toArray⟩).toArray++Builtin.zeroCells zv.cells (nc - b.length)) (e:=e) (cap:=nc) hO hm0 (Nat.succ_pos 0) (by omega) (by
    simp only [Array.size_append,List.size_toArray,hl,hzsz];omega)
    (b1:=0) (o1:=0) (get:=get) ⟨λj hj=>by omega,λj i u hj=>by omega⟩ h2 (λq hq=>by omega) (λq hq=>by
     simp only [Nat.zero_mul,Nat.zero_add,Array.getElem?_append]
     rw [if_pos (by simp only [List.size_toArray,hl];omega)]
     simp)
   simp only [Nat.zero_add] at e2 e3 ⊢
   exact ⟨_,c',by rw [e1];exact hrun,e2,e3⟩
  ·by_cases hroom':n+b.length<=cap
   ·obtain rfl:=hsp1 (by omega)
    rcases hO.cases with ⟨rfl,_⟩ | ⟨rfl,hk⟩
    ·have:cap=n:=hO.own
     omega
    ·obtain ⟨m',f1,f2,f3⟩:=hO.own
     have hr:=h.objs.rep K _ hk
     rw [hr.2.1] at f1
     have:=Option.some.inj f1
     subst this
     have hX:=f3 rfl
     have hr2:=hr.2.2
     cases hκ:c.κ K with
     | none=>rw [hκ] at hX;simp [kF] at hX
     | some p=>
      obtain ⟨ad,cap'⟩:=p
      rw [hκ] at hX
      simp [kF] at hX
      obtain ⟨rfl,rfl⟩:=hX
      simp only [hκ] at hr2
      obtain ⟨⟨cur,e',hh,hcs⟩,hoff,hfree⟩:=hr2.2.2 (by omega)
      simp only at hoff hh hfree
      subst hoff
      have hrun:=nY (P:=P) (ty:=ty) (w:=c.w) (b:=b) (sLen:=n) (sCap:=cap) hu hus hi hisz hh hroom' (by rw [hcs];omega)
      obtain ⟨c',e1,e2,e3⟩:=rA h hk hm0 hκ hroom' hh hcs hfree h1 hI1 h2
      simp only [Nat.mul_one,hl] at e1
      exact ⟨_,c',by rw [e1];exact hrun,e2,e3⟩
   ·have hload:∀ (j:Nat) (v:Value),(rdL c.w b1 o1 (n*1))[j]?=some v->c.w.cell? ((⟨b1,o1,sp1⟩:Addr).add j)=some v:=by
     by_cases hc0:0 < cap
     ·obtain rfl:=hsp1 hc0
      exact h1.cells.1
     ·obtain rfl:n=0:=by omega
      intro j v hj
      rw [List.getElem?_eq_none (by rw [aH];omega)] at hj
      cases hj
    have hrun:=Lib.run_append_grow_string (P:=P) (w:=c.w) t u ty e i' zv hu hus hi hzv ⟨b1,o1,sp1⟩ n cap (rdL c.w b1 o1 (n*1)) (by rw [aH,hisz]) hload ⟨b.toArray⟩ (by rw [hbs];omega) (by rw [hbs];omega) (by rw [hbs];exact growslice_fits (by omega) hroom)
    rw [hbs] at hrun
    have hge:=grownCap_ge c.w (n+b.length) cap e
    generalize grownCap c.w (n+b.length) cap e=nc at hrun hge
    obtain ⟨c',e1,e2,e3⟩:=jU h (vs:=(rdL c.w b1 o1 (n*1)).toArray++(Lib.strCells ⟨b.toArray⟩).toArray++Builtin.zeroCells zv.cells (nc - (n+b.length))) (e:=e) (cap:=nc) hO hm0 (Nat.succ_pos 0) hge (by
     simp only [Array.size_append,List.size_toArray,aH,hl,hzsz];omega)
     h1 h2 (λq hq=>by
      rw [Array.append_assoc,Array.getElem?_append,if_pos (by simpa [aH] using hq)]
      simpa using ni _ _ _ _ _ hq) (λq hq=>by
      rw [Array.getElem?_append,if_pos (by simp only [Array.size_append,List.size_toArray,aH,hl];omega),Array.getElem?_append,if_neg (by simp only [List.size_toArray,aH];omega)]
      simp only [List.size_toArray,aH]
      have e5:n*1+q - n*1=q:=by omega
      rw [e5]
      simp)
    exact ⟨_,c',by rw [e1];exact hrun,e2,e3⟩
theorem pO (h:Rel B c s a) {d:Nat} {t u ty:TypeId} {x v:AV} {X:Value} {b:List UInt8} {k:Nat} {ob:AO} (hus:P.underlying u=some .string) (hx:Rep c x X) (he:jF P s d t x b=some (true,v,k,ob)) :
  ∃V c',(Builtin.append_ #[t,u] ty #[X,.string ⟨b.toArray⟩]).run P c.w=.ok V c'.w/\Rel B c' (s.setObj k ob) a/\Sees B c' (s.setObj k ob) v V:=by
 unfold jF at he
 split at he
 ·rename_i e hu
  split at he
  ·rename_i sz z inf o sz0 n get hsz hz hi hue
   simp only [aq] at he
   cases hb:(Nat.beq sz 1&&(Nat.blt 0 inf.bytes&&(Nat.beq z.length sz&&(Nat.beq sz0 sz||Nat.beq n 0)))) with
   | false=>simp [hb] at he
   | true=>
    simp only [hb,cond_true] at he
    simp only [Bool.and_eq_true,Bool.or_eq_true] at hb
    obtain ⟨b1,b2,b3,b4⟩:=hb
    have b1:=du b1
    subst b1
    have b2:=ltB b2
    have b3:=du b3
    have b4:n=0∨sz0=1:=(b4.imp du du).symm
    have hown:aG c o n X:=by
     cases hx with
     | slNil _ _ _ ho=>exact ho
     | sl _ _ _ _ ad cap vals h1 h2 h3 h4 h5 h6=>exact h3
    cases o with
    | no=>simp at he
    | nl=>simp at he
    | nn=>simp at he
    | fit=>
     simp only at he
     split at he
     ·rename_i hd
      simp only [Option.some.injEq,Prod.mk.injEq] at he
      obtain ⟨hr,rfl,rfl,rfl⟩:=he
      exact mD h hu hus hi hsz hz b3 b2 hx ⟨.inl ⟨rfl,hd⟩,hown⟩ b4 (Nat.le_of_ble_eq_true hr)
     ·simp at he
    | key q=>
     simp only at he
     split at he
     ·rename_i sz1 f hq
      cases hb1:Nat.beq sz1 1 with
      | false=>simp [hb1] at he
      | true=>
       simp only [hb1,cond_true,Option.some.injEq,Prod.mk.injEq,Bool.and_eq_true] at he
       obtain ⟨⟨hr,hf⟩,rfl,rfl,rfl⟩:=he
       have hb1:=du hb1
       have hf:=du hf
       subst hb1;subst hf
       exact mD h hu hus hi hsz hz b3 b2 hx ⟨.inr ⟨rfl,hq⟩,hown⟩ b4 (Nat.le_of_ble_eq_true hr)
     ·simp at he
  ·simp at he
 ·simp at he
theorem pU (h:Rel B c s a) {d:Nat} {t ty:TypeId} {x y v:AV} {X Y:Value} {k:Nat} {ob:AO} (hx:Rep c x X) (hy:Rep c y Y) (he:kz P s d t x y=some (true,v,k,ob)) :
  ∃V c',(Builtin.append_ #[t,t] ty #[X,Y]).run P c.w=.ok V c'.w/\Rel B c' (s.setObj k ob) a/\Sees B c' (s.setObj k ob) v V:=by
 unfold kz at he
 split at he
 ·rename_i e hu
  split at he
  ·rename_i sz z inf o sz0 n get sz2 m get2 hsz hz hi hsrc
   simp only [aq] at he
   cases hb:(Nat.blt 0 sz&&(Nat.blt 0 inf.bytes&&(Nat.beq z.length sz&&((Nat.beq sz0 sz||Nat.beq n 0)&&(Nat.beq sz2 sz||Nat.beq m 0))))) with
   | false=>simp [hb] at he
   | true=>
    simp only [hb,cond_true] at he
    simp only [Bool.and_eq_true,Bool.or_eq_true] at hb
    obtain ⟨b1,b2,b3,b4,b5⟩:=hb
    have b1:=ltB b1
    have b2:=ltB b2
    have b3:=du b3
    have b4:n=0∨sz0=sz:=(b4.imp du du).symm
    have b5:m=0∨sz2=sz:=(b5.imp du du).symm
    have hown:aG c o n X:=by
     cases hx with
     | slNil _ _ _ ho=>exact ho
     | sl _ _ _ _ ad cap vals h1 h2 h3 h4 h5 h6=>exact h3
    cases o with
    | no=>simp at he
    | nl=>simp at he
    | nn=>simp at he
    | fit=>
     simp only at he
     split at he
     ·rename_i hd
      simp only [Option.some.injEq,Prod.mk.injEq] at he
      obtain ⟨hr,rfl,rfl,rfl⟩:=he
      exact mF h hu hi hsz hz b3 b1 b2 hx hy hsrc ⟨.inl ⟨rfl,hd⟩,hown⟩ b4 b5 (Nat.le_of_ble_eq_true hr)
     ·simp at he
    | key q=>
     simp only at he
     split at he
     ·rename_i sz1 f hq
      cases hb1:Nat.beq sz1 sz with
      | false=>simp [hb1] at he
      | true=>
       simp only [hb1,cond_true,Option.some.injEq,Prod.mk.injEq,Bool.and_eq_true] at he
       obtain ⟨⟨hr,hf⟩,rfl,rfl,rfl⟩:=he
       have hb1:=du hb1
       have hf:=du hf
       subst hb1;subst hf
       exact mF h hu hi hsz hz b3 b1 b2 hx hy hsrc ⟨.inr ⟨rfl,hq⟩,hown⟩ b4 b5 (Nat.le_of_ble_eq_true hr)
     ·simp at he
  ·simp at he
 ·simp at he
end Go.Ab

namespace Go.Ab
open Go Go.RowKit
variable {P:Program} {B:Base} {c:Cx} {s:St} {a:Act}
theorem oD {c':Cx} {b1 o1 b2 o2 n m sz:Nat} {get get2:Nat->List AV} {vs:Array Value} {ks:Nat->Prop} (h1:RowSees c b1 o1 n sz get) (h2:RowSees c b2 o2 m sz get2)
  (he:Ext c c' ks) (hv1:∀q,q < n*sz->vs[q]?=some (rd c.w b1 o1 q)) (hv2:∀q,q < m*sz->vs[n*sz+q]?=some (rd c.w b2 o2 q)) :
  (∀j,j < n+m->(ar n m get get2 j).length=sz/\au (ar n m get get2 j)=[]) /\
  ∀ (j i:Nat) (u:AV),j < n+m->(ar n m get get2 j)[i]?=some u->u.one=true/\Rep c' u (vs.getD (j*sz+i) undef):=by
 have hlen:∀j,j < n+m->(ar n m get get2 j).length=sz/\au (ar n m get get2 j)=[]:=by
  intro j hj
  by_cases hjn:j < n
  ·rw [df hjn];exact h1.len j hjn
  ·rw [dS (by omega) hj];exact h2.len _ (by omega)
 have key:∀ (j i:Nat) (u:AV),j < n+m->(ar n m get get2 j)[i]?=some u->u.one=true/\∃y,vs[j*sz+i]?=some y/\Rep c u y:=by
  intro j i u hj hu
  have hi:i < sz:=by rw [<-(hlen j hj).1];exact (List.getElem?_eq_some_iff.1 hu).1
  by_cases hjn:j < n
  ·rw [df hjn] at hu
   exact ⟨(h1.cell j i u hjn hu).1,_,hv1 _ (br hjn hi),h1.rep hjn hu⟩
  ·rw [dS (by omega) hj] at hu
   have hj':j - n < m:=by omega
   refine ⟨(h2.cell _ i u hj' hu).1,_,?_,h2.rep hj' hu⟩
   have e:j*sz+i=n*sz+((j - n)*sz+i):=by
    have:j=n+(j - n):=by omega
    conv=>lhs;rw [this,Nat.add_mul]
    omega
   rw [e];exact hv2 _ (br hj' hi)
 refine ⟨hlen,λj i u hj hu=>?_⟩
 obtain ⟨k1,y,k2,k3⟩:=key j i u hj hu
 have:vs.getD (j*sz+i) undef=y:=by simp [Array.getD_eq_getD_getElem?,k2]
 rw [this]
 refine ⟨k1,k3.ext he λk hk=>?_⟩
 rw [aM (hlen j hj).2 hu] at hk;simp at hk
structure GOwner (c:Cx) (s:St) (sq n sz K:Nat) (get:Nat->List AV) (X:Value):Prop where
 le:sq - 1<=n
 cases:(s.obj K=none/\((X=.slice none 0 0/\n=0)∨∃ad,X=.slice (some ad) n n))∨(s.obj K=some (.grw sq sz n get)/\aG c (.key K) n X)
theorem oE (h:Rel B c s a) {sq n m sz K:Nat} {get:Nat->List AV} {X:Value} (hO:GOwner c s sq n sz K get X) (hm:0 < m) {w':World} {I':Nat->Nat->Prop} {κ':Option (Addr×Nat)}
  : ∀n' v,live s.objs K->aG c (.key K) n' v->aG (c.owns w' I' K κ' (n+m)) (.key K) n' v:=by
 intro n' v hl hv
 obtain ⟨m',f1,f2,_⟩:=hv
 rcases hO.cases with ⟨hk,_⟩ | ⟨hk,_⟩
 ·exact absurd rfl (fA hk hl)
 ·have:=(h.objs.rep K _ hk).2.1
  rw [this] at f1
  have:=Option.some.inj f1
  exact ⟨n+m,by simp [Cx.owns],by omega,λe'=>by omega⟩
theorem uq (h:Rel B c s a) {sq sz n m K:Nat} {Bx:Nat->List AV} {X:Value} (hO:GOwner c s sq n sz K Bx X) (hm:0 < m) (hsz:0 < sz) {vs:Array Value} {e:TypeId} {cap:Nat} (hcap:n+m<=cap) (hvs:vs.size=cap*sz)
  {b1 o1 b2 o2:Nat} {get get2:Nat->List AV} (h1:RowSees c b1 o1 n sz get) (h2:RowSees c b2 o2 m sz get2)
  (hv1:∀q,q < n*sz->vs[q]?=some (rd c.w b1 o1 q)) (hv2:∀q,q < m*sz->vs[n*sz+q]?=some (rd c.w b2 o2 q)) :
  ∃c',c'.w=c.w.drew.alloc (.cells vs e)/\Rel B c' (s.setObj K (.grw sq sz (n+m) (ar n m get get2))) a /\
   Sees B c' (s.setObj K (.grw sq sz (n+m) (ar n m get get2))) (.gsl K sz (n+m)) (.slice (some ⟨c.w.heap.size,0,none⟩) (n+m) cap):=by
 let c':=c.owns (c.w.drew.alloc (.cells vs e)) c.I K (some (⟨c.w.heap.size,0,none⟩,cap)) (n+m)
 have hkb:KeepsBut c c' s.objs K:=by
  refine di (λ_ _ hi=>hi) (λb q v hi hv=>?_) (λb q ob hi he _=>(aB c.w.drew _ b (aQ he)).trans he) (oE h hO hm) (λq o' b hq hne hb=>⟨aB c.w.drew _ _ (cq (h.objs.rep q o' hq) hb),λoff hi=>hi⟩)
  rw [World.bN (aB c.w.drew _ b (dN hv))];exact hv
 have hgr:Grow B c c':=by
  refine ⟨rfl,rfl,rfl,by simp [c',Cx.owns],λb hb _=>aB c.w.drew _ _ (Nat.lt_of_lt_of_le hb h.frame.size),λb q hb _ hi=>hi,λb q hi=>?_⟩
  exact hkb.ext.there h.good hi
 have hown:aG c' (.key K) (n+m) (.slice (some ⟨c.w.heap.size,0,none⟩) (n+m) cap):=⟨n+m,by simp [c',Cx.owns],Nat.le_refl _,λ_=>by simp [c',Cx.owns,kF]⟩
 obtain ⟨g1,g2⟩:=oD h1 h2 hkb.ext hv1 hv2
 refine ⟨c',rfl,h.obj hkb hgr ⟨⟨hsz,by have:=hO.le;omega⟩,by simp [c',Cx.owns],?_⟩ ?_ (by simp [AO.keys]) ?_,⟨.gsl _ _ _ _ _ hcap hown,λq hq=>?_,rfl⟩⟩
 ·simp only [c',Cx.owns,if_true]
  refine ⟨hcap,λ_=>⟨⟨vs,e,bc c.w.drew _,hvs,λj i u hj hu=>(g2 j i u hj hu).2⟩,⟨rfl,rfl⟩,g1,λj i u hj hu=>(g2 j i u hj hu).1,λq _ hi=>?_⟩⟩
  have:=h.good.lt hi
  simp at this
 ·intro q o' b hq hne hb
  have:=cq (h.objs.rep q o' hq) hb
  simp only [excl,c',Cx.owns,if_true]
  intro e'
  have h9:c.w.heap.size=b:=e'.2
  omega
 ·intro b hb
  simp only [excl,c',Cx.owns,if_true] at hb
  have:=h.frame.size
  have h9:c.w.heap.size=b:=hb.2
  left;omega
 ·simp [AV.keys] at hq;subst hq;exact a7
theorem Bw (h:Rel B c s a) {sq sz n m K:Nat} {get get2:Nat->List AV} (hk:s.obj K=some (.grw sq sz n get)) (hm:0 < m) {ad:Addr} {cap:Nat} (hκ:c.κ K=some (ad,cap)) (hcap:n+m<=cap) {b2 o2:Nat} (h2:RowSees c b2 o2 m sz get2)
  {cur:Array Value} {e:TypeId} (hh:c.w.heap[ad.block]?=some (.cells cur e (0,0))) (hcs:cur.size=cap*sz) :
  ∃c',c'.w=c.w.setRow ad.block (cur.toList.take (n*sz)++rdL c.w b2 o2 (m*sz)++cur.toList.drop (n*sz+(rdL c.w b2 o2 (m*sz)).length)).toArray/\Rel B c' (s.setObj K (.grw sq sz (n+m) (ar n m get get2))) a /\
   Sees B c' (s.setObj K (.grw sq sz (n+m) (ar n m get get2))) (.gsl K sz (n+m)) (.slice (some ad) (n+m) cap):=by
 have hrepK:=h.objs.rep K _ hk
 have hsz:0 < sz:=hrepK.1.1
 have hse:sq - 1<=n:=hrepK.1.2
 have hG:=hrepK.2.2
 simp only [hκ] at hG
 have hG:=hG.2 (by omega)
 have hexcl:excl c K (.grw sq sz n get) ad.block:=by simp only [excl,hκ];exact ⟨by omega,trivial⟩
 have hfit:n*sz+(rdL c.w b2 o2 (m*sz)).length<=cur.size:=by rw [aH,hcs,<-Nat.add_mul];exact Nat.mul_le_mul_right _ hcap
 obtain ⟨g1,g2⟩:=ga cur (n*sz) (rdL c.w b2 o2 (m*sz)) hfit
 generalize hvs:(cur.toList.take (n*sz)++rdL c.w b2 o2 (m*sz)++cur.toList.drop (n*sz+(rdL c.w b2 o2 (m*sz)).length)).toArray=vs at g1 g2
 have hW:Wrote c ad.block (c.w.setRow ad.block vs):=dx rfl
 have hg':(c.w.setRow ad.block vs).heap[ad.block]?=some (.cells vs e (0,0)):=setRow_heap _ _ _ _ _ _ hh
 have xI:∀q,q < cur.size->vs[q]?=some (if n*sz<=q/\q < n*sz+(rdL c.w b2 o2 (m*sz)).length then (rdL c.w b2 o2 (m*sz)).getD (q - n*sz) undef else cur.getD q undef):=by
  intro q hq
  have hq':q < vs.size:=by omega
  have:=g2 q hq
  rw [<-this]
  simp [Array.getD_eq_getD_getElem?,hq']
 have hO:GOwner c s sq n sz K get (.slice (some ad) n cap):=⟨hse,.inr ⟨hk,⟨n,hrepK.2.1,Nat.le_refl _,λ_=>by rw [hκ];rfl⟩⟩⟩
 let c':=c.owns (c.w.setRow ad.block vs) c.I K (some (ad,cap)) (n+m)
 have hkb:KeepsBut c c' s.objs K:=by
  refine di (λ_ _ hi=>hi) (λb q v hi hv=>?_) (λb q ob hi he ho=>(hW.other b (λe=>by subst e;rw [hh] at he;cases he;cases ho)).trans he) (oE h hO hm) (λq o' b hq hne hb=>?_)
  ·by_cases e':b=ad.block
   ·subst e'
    by_cases hq:(sq - 1)*sz<=q
    ·exact absurd hi (hG.free q hq)
    ·have:=Nat.mul_le_mul_right sz hse
     have hql:q < cur.size:=by omega
     rw [aY hh] at hv
     show (c.w.setRow ad.block vs).cell? _=_
     rw [aY hg',xI q hql,if_neg (by omega),<-hv]
     simp [Array.getD_eq_getD_getElem?,hql]
   ·rw [World.bN (hW.other b e')];exact hv
  ·have hne':b≠ad.block:=by
    rintro rfl
    exact h.objs.apart q o' K _ _ hq hk hne hb hexcl
   exact ⟨hW.other b hne',λoff hi=>hi⟩
 have hgr:Grow B c c':=by
  refine ⟨rfl,rfl,rfl,by simp [c',Cx.owns],λb hb hd=>hW.other b ?_,λb q hb hd hi=>hi,λb q hi=>?_⟩
  ·rintro rfl
   rcases h.mine K _ _ hk hexcl with h' | h'
   ·omega
   ·exact hd h'
  ·exact hkb.ext.there h.good hi
 have hown:aG c' (.key K) (n+m) (.slice (some ad) (n+m) cap):=⟨n+m,by simp [c',Cx.owns],Nat.le_refl _,λ_=>by simp [c',Cx.owns,kF]⟩
 have hexcl':∀b,excl c' K (.grw sq sz (n+m) (ar n m get get2)) b->b=ad.block:=by
  intro b hb
  simp only [excl,c',Cx.owns,if_true] at hb
  exact hb.2.symm
 have h1:RowSees c ad.block 0 n sz get:=⟨hG.len,λj i u hj hu=>by
  obtain ⟨k1,y,k2,k3⟩:=hG.fC (by omega) hj i u hu
  exact ⟨k1,y,by rw [<-k2];congr 2;omega,k3⟩⟩
 obtain ⟨r1,r2⟩:=oD (c':=c') (vs:=vs) h1 h2 hkb.ext (λq hq=>by
  have hlt:q < cur.size:=by omega
  rw [xI q hlt,if_neg (by omega)]
  have:=(h1.at hq).1
  simp only [Nat.zero_add] at this
  rw [aY hh] at this
  simp [Array.getD_eq_getD_getElem?,this]) (λq hq=>by
  rw [aH] at hfit
  rw [xI _ (by omega),if_pos (by rw [aH];omega)]
  have e5:n*sz+q - n*sz=q:=by omega
  rw [e5,List.getD_eq_getElem?_getD,ni _ _ _ _ _ hq];rfl)
 refine ⟨c',by simp [c',Cx.owns],h.obj hkb hgr ⟨⟨hsz,by have:=hO.le;omega⟩,by simp [c',Cx.owns],?_⟩ ?_ (by simp [AO.keys]) ?_,⟨.gsl _ _ _ _ _ hcap hown,λq hq=>?_,rfl⟩⟩
 ·simp only [c',Cx.owns,if_true]
  exact ⟨hcap,λ_=>⟨⟨vs,e,hg',by rw [g1,hcs],λj i u hj hu=>(r2 j i u hj hu).2⟩,hG.addr,r1,λj i u hj hu=>(r2 j i u hj hu).1,hG.free⟩⟩
 ·intro q o' b hq hne hb e'
  have:=hexcl' b e'
  subst this
  exact h.objs.apart q o' K _ _ hq hk hne hb hexcl
 ·intro b hb
  rw [hexcl' b hb];exact h.mine K _ _ hk hexcl
 ·simp [AV.keys] at hq;subst hq;exact a7
theorem qU (h:Rel B c s a) {sz K:Nat} (hsz:0 < sz) (hk:s.obj K=none) {X:Value} (hX:X=.slice none 0 0∨∃ad,X=.slice (some ad) 0 0) (get:Nat->List AV) :
  ∃c',c'.w=c.w/\Rel B c' (s.setObj K (.grw 0 sz 0 get)) a/\Sees B c' (s.setObj K (.grw 0 sz 0 get)) (.gsl K sz 0) X:=by
 obtain ⟨κ',e1,e2⟩:∃κ':Option (Addr×Nat),X=kF κ' 0/\∀p,κ'=some p->p.2=0:=by
  rcases hX with rfl | ⟨ad,rfl⟩
  ·exact ⟨none,rfl,by simp⟩
  ·exact ⟨some (ad,0),rfl,λp hp=>by cases hp;rfl⟩
 let c':=c.owns c.w c.I K κ' 0
 have hkb:KeepsBut c c' s.objs K:=di (λ_ _ hi=>hi) (λ_ _ _ _ hv=>hv) (λ_ _ _ _ hv _=>hv) (λn' v hl _=>absurd rfl (fA hk hl)) (λ_ _ _ _ _ _=>⟨rfl,λ_ hi=>hi⟩)
 have hgr:Grow B c c':=⟨rfl,rfl,rfl,Nat.le_refl _,λ_ _ _=>rfl,λ_ _ _ _ hi=>hi,h.good.there⟩
 have hex:∀b,¬ excl c' K (.grw 0 sz 0 get) b:=by
  intro b
  simp only [excl,c',Cx.owns,if_true]
  cases κ' with
  | none=>exact id
  | some p=>obtain ⟨ad,cap⟩:=p;have:=e2 _ rfl;simp only at this;subst this;exact λh=>absurd h.1 (Nat.lt_irrefl 0)
 have hown:aG c' (.key K) 0 X:=⟨0,by simp [c',Cx.owns],Nat.le_refl _,λ_=>by simp [c',Cx.owns,e1]⟩
 refine ⟨c',rfl,h.obj hkb hgr ⟨⟨hsz,Nat.zero_le _⟩,by simp [c',Cx.owns],?_⟩ (λq o' b hq hne hb e=>hex b e) (by simp [AO.keys]) (λb hb=>absurd hb (hex b)),⟨?_,λq hq=>?_,rfl⟩⟩
 ·simp only [c',Cx.owns,if_true]
  cases κ' with
  | none=>trivial
  | some p=>obtain ⟨ad,cap⟩:=p;have:=e2 _ rfl;simp only at this;subst this;exact ⟨Nat.le_refl _,λh0=>absurd h0 (by omega)⟩
 ·rcases hX with rfl | ⟨ad,rfl⟩
  ·exact .gslNil _ _ hown
  ·exact .gsl _ _ _ _ _ (Nat.le_refl _) hown
 ·simp [AV.keys] at hq;subst hq;exact a7
theorem nZ (h:Rel B c s a) {t ty e:TypeId} {sq n sz2 m K:Nat} {get get2:Nat->List AV} {X:Value} {i:TypeInfo} {z:List AV} (hu:P.underlying t=some (.slice e))
  (hi:P.info? e=some i) (hsz:aA P e=some sz2) (hz:zeroCells P e=some z) (hzl:z.length=sz2) (h0:0 < sz2) (hb:0 < i.bytes) {b2 o2 cap2:Nat} (h2:RowSees c b2 o2 m sz2 get2)
  (hX:(X=.slice none 0 0/\n=0)∨∃b1 o1 sp cap,(0 < n->sp=none)/\X=.slice (some ⟨b1,o1,sp⟩) n cap/\n<=cap/\RowSees c b1 o1 n sz2 get)
  (hO:GOwner c s sq n sz2 K get X) (hm0:0 < m) (hroom:(n+m)*i.bytes<=140737488355328) :
  ∃V c',(Builtin.append_ #[t,t] ty #[X,.slice (some ⟨b2,o2,none⟩) m cap2]).run P c.w=.ok V c'.w/\Rel B c' (s.setObj K (.grw sq sz2 (n+m) (ar n m get get2))) a/\Sees B c' (s.setObj K (.grw sq sz2 (n+m) (ar n m get get2))) (.gsl K sz2 (n+m)) V:=by
 obtain ⟨i',zv,hi',hzv,hcz⟩:=bj hz
 have:i'=i:=by rw [hi] at hi';exact (Option.some.inj hi').symm
 subst this
 have hisz:i'.size=sz2:=by unfold aA at hsz;simp [hi] at hsz;exact hsz
 obtain ⟨hzc,_⟩:=dX (c:=c) hcz
 have hzs:zv.cells.size=sz2:=by rw [hzc.1,hzl]
 have hnm:n+m<=140737488355328:=Nat.le_trans (Nat.le_mul_of_pos_right _ hb) hroom
 have hmem:n<=n+m:=Nat.le_add_right _ _
 have hc2:=h2.cells
 have hzsz:∀k,(Builtin.zeroCells zv.cells k).size=k*sz2:=λk=>by rw [size_zeroCells,hzs]
 rcases hX with ⟨rfl,rfl⟩ | ⟨b1,o1,sp1,cap,hsp1,rfl,hle,h1⟩
 ·have hrun:=run_append_nil (P:=P) (w:=c.w) t ty e i' zv hu hi hzv ⟨b2,o2,none⟩ m cap2 (rdL c.w b2 o2 (m*sz2)) (by rw [aH,hisz]) hc2.1 hm0 (by omega) (by simp only [Nat.zero_add] at hroom;omega)
  have hge:=grownCap_ge c.w m 0 e
  generalize grownCap c.w m 0 e=nc at hrun hge
  obtain ⟨c',e1,e2,e3⟩:=uq h (vs:=(rdL c.w b2 o2 (m*sz2)).toArray++Builtin.zeroCells zv.cells (nc - m)) (e:=e) (cap:=nc) hO hm0 h0 (by omega) (by
   simp only [Array.size_append,List.size_toArray,aH,hzsz,<-Nat.add_mul];congr 1;omega)
   (b1:=0) (o1:=0) (get:=get) ⟨λj hj=>by omega,λj i u hj=>by omega⟩ h2 (λq hq=>by omega) (λq hq=>by
    simp only [Nat.zero_mul,Nat.zero_add,Array.getElem?_append]
    rw [if_pos (by simpa [aH] using hq)]
    simpa using ni _ _ _ _ _ hq)
  simp only [Nat.zero_add] at e2 e3 ⊢
  exact ⟨_,c',by rw [e1];exact hrun,e2,e3⟩
 ·by_cases hroom':n+m<=cap
  ·-- into the room
   rcases hO.cases with ⟨_,hf⟩ | ⟨hk,hown⟩
   ·rcases hf with ⟨hf,_⟩ | ⟨ad,hf⟩
    ·cases hf
    ·simp only [Value.slice.injEq,true_and] at hf
     omega
   ·obtain ⟨m',f1,f2,f3⟩:=hown
    have hr:=h.objs.rep K _ hk
    rw [hr.2.1] at f1
    have:=Option.some.inj f1
    subst this
    have hX:=f3 rfl
    have hr2:=hr.2.2
    cases hκ:c.κ K with
    | none=>rw [hκ] at hX;simp [kF] at hX
    | some p=>
     obtain ⟨ad,cap'⟩:=p
     rw [hκ] at hX
     simp [kF] at hX
     obtain ⟨rfl,rfl⟩:=hX
     simp only [hκ] at hr2
     have hG:=hr2.2 (by omega)
     obtain ⟨⟨cur,e',hh,hcs,_⟩,hoff,_⟩:=hG
     obtain ⟨q1,q2⟩:=hoff
     simp only at q1 q2 hh
     subst q1 q2
     have hrun:=jE (P:=P) (ty:=ty) (w:=c.w) (ad:=⟨b2,o2,none⟩) (m:=m) (cc:=cap2) (sLen:=n) (sCap:=cap) hu hi hisz hh (aH c.w b2 o2 (m*sz2)) hc2.1 hc2.2 hroom' (by rw [aH,hcs,<-Nat.add_mul];exact Nat.mul_le_mul_right _ hroom')
     obtain ⟨c',e1,e2,e3⟩:=Bw h hk hm0 hκ hroom' h2 hh hcs
     exact ⟨_,c',by rw [e1];exact hrun,e2,e3⟩
  ·have hload:∀ (j:Nat) (v:Value),(rdL c.w b1 o1 (n*sz2))[j]?=some v->c.w.cell? ((⟨b1,o1,sp1⟩:Addr).add j)=some v:=by
    by_cases hc0:0 < n
    ·obtain rfl:=hsp1 hc0
     exact h1.cells.1
    ·obtain rfl:n=0:=by omega
     intro j v hj
     rw [List.getElem?_eq_none (by rw [aH];omega)] at hj
     cases hj
   have hrun:=run_append_grow (P:=P) (w:=c.w) t ty e i' zv hu hi hzv ⟨b1,o1,sp1⟩ n cap (rdL c.w b1 o1 (n*sz2)) (by rw [aH,hisz]) hload ⟨b2,o2,none⟩ m cap2 (rdL c.w b2 o2 (m*sz2)) (by rw [aH,hisz]) hc2.1 (by omega) (by omega) (growslice_fits (by omega) hroom)
   have hge:=grownCap_ge c.w (n+m) cap e
   generalize grownCap c.w (n+m) cap e=nc at hrun hge
   obtain ⟨c',e1,e2,e3⟩:=uq h (vs:=(rdL c.w b1 o1 (n*sz2)).toArray++(rdL c.w b2 o2 (m*sz2)).toArray++Builtin.zeroCells zv.cells (nc - (n+m))) (e:=e) (cap:=nc) hO hm0 h0 hge (by
    simp only [Array.size_append,List.size_toArray,aH,hzsz,<-Nat.add_mul];congr 1;omega)
    h1 h2 (λq hq=>by
     rw [Array.append_assoc,Array.getElem?_append,if_pos (by simpa [aH] using hq)]
     simpa using ni _ _ _ _ _ hq) (λq hq=>by
     rw [Array.getElem?_append,if_pos (by simp [aH];omega),Array.getElem?_append,if_neg (by simp [aH])]
     simp only [List.size_toArray,aH]
     have e5:n*sz2+q - n*sz2=q:=by omega
     rw [e5]
     simpa using ni _ _ _ _ _ hq)
   exact ⟨_,c',by rw [e1];exact hrun,e2,e3⟩
theorem mE (h:Rel B c s a) {t ty e:TypeId} {sq sz n sz2 m K:Nat} {get get2:Nat->List AV} {X Y:Value} {y:AV} {i:TypeInfo} {z:List AV} (hu:P.underlying t=some (.slice e))
  (hi:P.info? e=some i) (hsz:aA P e=some sz) (hz:zeroCells P e=some z) (hzl:z.length=sz) (h0:0 < sz) (hb:0 < i.bytes) (hy:Rep c y Y) (hsrc:mG s y=some (sz2,m,get2))
  (hX:(X=.slice none 0 0/\n=0)∨∃b1 o1 sp cap,(0 < n->sp=none)/\X=.slice (some ⟨b1,o1,sp⟩) n cap/\n<=cap/\RowSees c b1 o1 n sz get)
  (hO:GOwner c s sq n sz K get X) (hm0:0 < m) (hs2:sz2=sz) (hroom:(n+m)*i.bytes<=140737488355328) :
  ∃V c',(Builtin.append_ #[t,t] ty #[X,Y]).run P c.w=.ok V c'.w/\Rel B c' (s.setObj K (.grw sq sz (n+m) (ar n m get get2))) a/\Sees B c' (s.setObj K (.grw sq sz (n+m) (ar n m get get2))) (.gsl K sz (n+m)) V:=by
 subst hs2
 rcases eR h hy hsrc with ⟨_,e⟩ | ⟨b2,o2,sp2,cap2,hsp2,rfl,_,hlen2,hcell2⟩
 ·omega
 obtain rfl:=hsp2 hm0
 exact nZ h hu hi hsz hz hzl h0 hb ⟨hlen2,hcell2⟩ hX hO hm0 hroom
theorem pQ (h:Rel B c s a) {d:Nat} {t ty:TypeId} {x y v:AV} {X Y:Value} {k:Nat} {ob:AO} (hx:Rep c x X) (hy:Rep c y Y) (he:ky P s d t x y=some (true,v,k,ob)) :
  ∃V c',(Builtin.append_ #[t,t] ty #[X,Y]).run P c.w=.ok V c'.w/\Rel B c' (s.setObj k ob) a/\Sees B c' (s.setObj k ob) v V:=by
 unfold ky at he
 split at he
 ·rename_i e hu
  split at he
  ·rename_i sz z inf sz2 m get2 hsz hz hi hsrc
   simp only [aq] at he
   cases hb:(Nat.blt 0 sz&&(Nat.blt 0 inf.bytes&&(Nat.beq z.length sz&&(Nat.beq sz2 sz||Nat.beq m 0)))) with
   | false=>simp [hb] at he
   | true=>
    simp only [hb,cond_true] at he
    simp only [Bool.and_eq_true,Bool.or_eq_true] at hb
    obtain ⟨b1,b2,b3,b5⟩:=hb
    have b1:=ltB b1
    have b2:=ltB b2
    have b3:=du b3
    have b5:m=0∨sz2=sz:=(b5.imp du du).symm
    have hY0:m=0->Y=.slice none 0 0∨∃ad cc,Y=.slice (some ad) 0 cc:=λhm=>by
     subst hm
     rcases eR h hy hsrc with ⟨rfl,_⟩ | ⟨b,of,sp,cap,_,rfl,_⟩
     ·exact .inl rfl
     ·exact .inr ⟨_,_,rfl⟩
    split at he
    ·rename_i sz0 n get
     cases hb2:((Nat.beq sz0 sz||Nat.beq n 0)&&(cond (Nat.beq n 0) true (Nat.blt 0 m))) with
     | false=>rw [hb2] at he;cases he
     | true=>
      simp only [hb2,cond_true] at he
      split at he
      ·rename_i hd
       simp only [Option.some.injEq,Prod.mk.injEq] at he
       obtain ⟨hr,rfl,rfl,rfl⟩:=he
       simp only [Bool.and_eq_true,Bool.or_eq_true] at hb2
       obtain ⟨b4,b6⟩:=hb2
       have b4:n=0∨sz0=sz:=(b4.imp du du).symm
       have hx':Rep c (.sl .fit sz n get) X:=hx.reown b4 (λ_ _=>rfl) (by
        cases hx with
        | slNil _ _ _ ho=>exact ho
        | sl _ _ _ _ ad cap vals h1 h2 h3 h4 h5 h6=>exact h3)
       have hX:=jd hx' rfl
       by_cases hm:m=0
       ·subst hm
        have hn:n=0:=by
         cases hb:Nat.beq n 0 with
         | true=>exact du hb
         | false=>rw [hb] at b6;simp [Nat.blt] at b6
        subst hn
        have hX0:X=.slice none 0 0∨∃ad,X=.slice (some ad) 0 0:=by
         rcases hX with ⟨rfl,_⟩ | ⟨b,of,sp,cap,_,rfl,_,ho,_⟩
         ·exact .inl rfl
         ·have:cap=0:=ho
          subst this;exact .inr ⟨_,rfl⟩
        obtain ⟨c',e1,e2,e3⟩:=qU h b1 hd hX0 (ar 0 0 get get2)
        refine ⟨X,c',?_,e2,e3⟩
        rw [e1]
        rcases hX0 with rfl | ⟨ad,rfl⟩
        ·exact dI hu hi (Nat.le_refl _) (hY0 rfl) c.w
        ·exact dI hu hi (Nat.le_refl _) (hY0 rfl) c.w
       ·refine mE (get:=get) h hu hi hsz hz b3 b1 b2 hy hsrc ?_ ⟨Nat.zero_le _,.inl ⟨hd,?_⟩⟩ (Nat.pos_of_ne_zero hm) (b5.resolve_left hm) (Nat.le_of_ble_eq_true hr)
        ·rcases hX with ⟨e1,e2,_⟩ | ⟨b,of,sp,cap,g1,g2,g3,g4,g5,_⟩
         ·exact .inl ⟨e1,e2⟩
         ·exact .inr ⟨b,of,sp,cap,λh0=>g1 (by omega),g2,g3,g5⟩
        ·rcases hX with ⟨e1,e2,_⟩ | ⟨b,of,sp,cap,g1,rfl,g3,g4,g5,_⟩
         ·exact .inl ⟨e1,e2⟩
         ·have:cap=n:=g4
          subst this;exact .inr ⟨_,rfl⟩
      ·simp at he
    ·rename_i q sz0 n
     cases hb2:Nat.beq sz0 sz with
     | false=>simp [hb2] at he
     | true=>
      simp only [hb2,cond_true] at he
      have hb2:=du hb2
      subst hb2
      split at he
      ·rename_i sq sz1 fr get hq
       cases hb1:Nat.beq sz1 sz0 with
       | false=>simp [hb1] at he
       | true=>
        simp only [hb1,cond_true,Option.some.injEq,Prod.mk.injEq,Bool.and_eq_true] at he
        obtain ⟨⟨hr,hf⟩,rfl,rfl,rfl⟩:=he
        have hb1:=du hb1
        have hf:=du hf
        subst hb1 hf
        have hX:(X=.slice none 0 0/\fr=0)∨∃b1 o1 sp cap,(0 < fr->sp=none)/\X=.slice (some ⟨b1,o1,sp⟩) fr cap/\fr<=cap/\RowSees c b1 o1 fr sz1 get:=by
         cases hx with
         | gslNil=>exact .inl ⟨rfl,rfl⟩
         | gsl _ _ _ ad cap hn hown=>
          obtain ⟨b,of,sp⟩:=ad
          by_cases h0:0 < fr
          ·obtain ⟨ad',cap',g1,g2,g3,g4⟩:=nC h hq hown rfl h0
           simp only [Value.slice.injEq,Option.some.injEq,true_and] at g2
           obtain ⟨rfl,rfl⟩:=g2
           refine .inr ⟨b,of,sp,cap,λ_=>g4.addr.2,rfl,hn,⟨g4.len,λj i u hj hu=>?_⟩⟩
           obtain ⟨k1,y,k2,k3⟩:=g4.fC g3 hj i u hu
           have:=g4.addr.1
           simp only at this k2
           exact ⟨k1,y,by rw [<-k2];congr 2;omega,k3⟩
          ·exact .inr ⟨b,of,sp,cap,λh=>absurd h h0,rfl,hn,⟨λj hj=>by omega,λj i u hj=>by omega⟩⟩
        have hown:aG c (.key q) fr X:=by
         cases hx with
         | gslNil _ _ ho=>exact ho
         | gsl _ _ _ ad cap hn ho=>exact ho
        by_cases hm:m=0
        ·subst hm
         have hrun:(Builtin.append_ #[t,t] ty #[X,Y]).run P c.w=.ok X c.w:=by
          rcases hX with ⟨rfl,_⟩ | ⟨b,of,sp,cap,_,rfl,hle,_⟩
          ·exact dI hu hi (Nat.le_refl _) (hY0 rfl) c.w
          ·exact dI hu hi hle (hY0 rfl) c.w
         have hsame:∀j,j < fr->ar fr 0 get get2 j=get j:=λj hj=>df hj
         have hkb:KeepsBut c c s.objs q:=(Keeps.refl c s.objs).but q
         refine ⟨X,c,hrun,h.obj hkb (Grow.refl h.good) ?_ (λq' o' b hq' hne hb' e=>?_) (by simp [AO.keys]) (λb hb'=>?_),⟨hx,λk hk=>?_,rfl⟩⟩
         ·have hr:=h.objs.rep q _ hq
          refine ⟨hr.1,hr.2.1,?_⟩
          have hr2:=hr.2.2
          show (match c.κ q with | none=>fr+0=0 | some (a,cap)=>fr+0<=cap/\(0 < cap->GrwAt c a sq sz1 (fr+0) cap (ar fr 0 get get2)))
          cases hκ:c.κ q with
          | none=>simp only [hκ] at hr2;exact hr2
          | some p=>
           obtain ⟨ad,cap⟩:=p
           simp only [hκ] at hr2
           refine ⟨hr2.1,λh0=>?_⟩
           obtain ⟨⟨vs,t',g1,g2,g3⟩,g4,g5,g6,g7⟩:=hr2.2 h0
           exact ⟨⟨vs,t',g1,g2,λj i u hj hu=>g3 j i u hj (by rwa [hsame j hj] at hu)⟩,g4,λj hj=>by rw [hsame j hj];exact g5 j hj,λj i u hj hu=>g6 j i u hj (by rwa [hsame j hj] at hu),g7⟩
         ·exact h.objs.apart q' o' q _ b hq' hq hne hb' e
         ·exact h.mine q _ b hq hb'
         ·simp [AV.keys] at hk;subst hk;exact a7
        ·exact mE h hu hi hsz hz b3 b1 b2 hy hsrc hX ⟨(h.objs.rep q _ hq).1.2,.inr ⟨hq,hown⟩⟩ (Nat.pos_of_ne_zero hm) (b5.resolve_left hm) (Nat.le_of_ble_eq_true hr)
      ·simp at he
    ·simp at he
  ·simp at he
 ·simp at he
theorem ya {α:Type} (l:List (Nat×α)) (k:Nat) (x y:α):aput (aput l k x) k y=aput l k y:=by
 induction l with
 | nil=>simp [aput]
 | cons p r ih=>
  obtain ⟨q,v⟩:=p
  simp only [aput]
  cases hq:Nat.beq q k with
  | true=>simp [aput,hq]
  | false=>simp [aput,hq,ih]
theorem RowSees.ext {c c':Cx} {ks:Nat->Prop} {b o n sz:Nat} {get:Nat->List AV} (h:RowSees c b o n sz get) (hw:c'.w=c.w) (he:Ext c c' ks):RowSees c' b o n sz get:=
 ⟨h.len,λj i u hj hu=>by
  obtain ⟨h1,y,h2,h3⟩:=h.cell j i u hj hu
  exact ⟨h1,y,by rw [hw];exact h2,h3.ext he λk hk=>by rw [aM (h.len j hj).2 hu] at hk;simp at hk⟩⟩
theorem rekey (h:Rel B c s a) {sq k K sz n m:Nat} {get:Nat->List AV} {X:Value} (hk:s.obj k=some (.grw sq sz n get)) (hK:s.obj K=none) (hX:Rep c (.gsub k sz n 0 m) X) (hm:m<=n) (hsm:sq - 1<=m) :
  ∃c1,c1.w=c.w/\Rel B c1 ((s.setObj k .gone).setObj K (.grw sq sz m get)) a/\Ext c c1 (live s.objs)/\aG c1 (.key K) m X /\
   ((X=.slice none 0 0/\m=0)∨∃b1 o1 sp cap,(0 < m->sp=none)/\X=.slice (some ⟨b1,o1,sp⟩) m cap/\m<=cap/\RowSees c1 b1 o1 m sz get):=by
 have hobj:=h.objs.rep k _ hk
 obtain ⟨hsz,hfr,hrow⟩:=hobj
 have hne:k≠K:=λe=>by rw [e,hK] at hk;cases hk
 have hXk:X=kF (c.κ k) m:=by
  cases hX with
  | gsubNil _ _ ho=>
   obtain ⟨q,f1,f2,f3⟩:=ho
   rw [hfr] at f1
   exact f3 (Option.some.inj f1)
  | gsub _ _ _ _ _ ad cap a' cap' hn ho hle e1 e2 e3=>
   obtain ⟨q,f1,f2,f3⟩:=ho
   rw [hfr] at f1
   have f3:=f3 (Option.some.inj f1)
   obtain rfl:=e2 rfl
   cases hκ:c.κ k with
   | none=>rw [hκ] at f3;simp [kF] at f3
   | some p=>
    obtain ⟨ad,cap2⟩:=p
    rw [hκ] at f3
    simp only [kF,Value.slice.injEq,Option.some.injEq,true_and] at f3
    obtain ⟨rfl,rfl⟩:=f3
    subst e1
    simp [kF]
 have h1:Rel B c (s.setObj k .gone) a:=h.obj ((Keeps.refl c s.objs).but k) (Grow.refl h.good) trivial (λq o' b _ _ _ e=>by simp [excl] at e) (by simp [AO.keys]) (λb hb=>by simp [excl] at hb)
 have hK1:(s.setObj k .gone).obj K=none:=by rw [St.jM,if_neg hne];exact hK
 let c1:=c.owns c.w c.I K (c.κ k) m
 have hκ1:c1.κ K=c.κ k:=by simp [c1,Cx.owns]
 have hfr1:c1.fr K=some m:=by simp [c1,Cx.owns]
 have hkb:KeepsBut c c1 (s.setObj k .gone).objs K:=di (λ_ _ hi=>hi) (λ_ _ _ _ hv=>hv) (λ_ _ _ _ hv _=>hv) (λn' v hl _=>absurd rfl (fA hK1 hl)) (λ_ _ _ _ _ _=>⟨rfl,λ_ hi=>hi⟩)
 have hgr:Grow B c c1:=⟨rfl,rfl,rfl,Nat.le_refl _,λ_ _ _=>rfl,λ_ _ _ _ hi=>hi,h.good.there⟩
 have hex:∀b,excl c1 K (.grw sq sz m get) b->excl c k (.grw sq sz n get) b:=λb hb=>by simpa only [excl,hκ1] using hb
 have hext:Ext c c1 (live s.objs):=hkb.ext.sub λq hq=>jn hq
 have hobj1:dh c1 K (.grw sq sz m get):=by
  refine ⟨⟨hsz.1,hsm⟩,hfr1,?_⟩
  rw [hκ1]
  cases hκ:c.κ k with
  | none=>simp only [hκ] at hrow;simp only;omega
  | some p=>
   obtain ⟨ad,cap⟩:=p
   simp only [hκ] at hrow ⊢
   refine ⟨Nat.le_trans hm hrow.1,λh0=>?_⟩
   obtain ⟨⟨vs,t',g1,g2,g3⟩,g4,g5,g6,g7⟩:=hrow.2 h0
   exact ⟨⟨vs,t',g1,g2,λj i u hj hu=>(g3 j i u (by omega) hu).ext hext λq hq=>by rw [aM (g5 j (by omega)).2 hu] at hq;simp at hq⟩,g4,λj hj=>g5 j (by omega),λj i u hj hu=>g6 j i u (by omega) hu,g7⟩
 refine ⟨c1,rfl,h1.obj hkb hgr hobj1 (λq o' b hq hneq hb e=>?_) (by simp [AO.keys]) (λb hb=>h.mine k _ b hk (hex b hb)),hext,⟨m,hfr1,Nat.le_refl _,λ_=>by rw [hκ1];exact hXk⟩,?_⟩
 ·have hq':(s.setObj k .gone).obj q=some o':=hq
  rw [St.jM] at hq'
  by_cases e1:k=q
  ·simp only [e1,if_true,Option.some.injEq] at hq';subst hq';simp [excl] at hb
  ·rw [if_neg e1] at hq'
   exact h.objs.apart q o' k _ b hq' hk (λe2=>e1 e2.symm) hb (hex b e)
 ·cases hκ:c.κ k with
  | none=>
   rw [hκ] at hXk hrow
   simp only at hrow
   exact .inl ⟨by
           rw [hXk];have:m=0:=by omega
           subst this;rfl,by omega⟩
  | some p=>
   obtain ⟨ad,cap⟩:=p
   rw [hκ] at hXk hrow
   simp only at hrow
   obtain ⟨b,of,sp⟩:=ad
   refine .inr ⟨b,of,sp,cap,λh0=>(hrow.2 (by omega)).addr.2,hXk,by omega,⟨λj hj=>(hrow.2 (by omega)).len j (by omega),λj i u hj hu=>?_⟩⟩
   have hG:=hrow.2 (by omega)
   obtain ⟨e1,y,e2,e3⟩:=hG.fC hrow.1 (i:=j) (by omega) i u hu
   have:=hG.addr.1
   simp only at this e2
   refine ⟨e1,y,by show c.w.cell? _=_;rw [<-e2];congr 2;omega,e3.ext hext λq hq=>?_⟩
   rw [aM (hG.len j (by omega)).2 hu] at hq;simp at hq
theorem sR {objs:List (Nat×AO)} {d K:Nat} (h:nF objs d=some K):alook objs K=none:=by
 unfold nF at h
 split at h
 ·rename_i h1;obtain rfl:=Option.some.inj h;exact h1
 ·split at h
  ·rename_i h1;obtain rfl:=Option.some.inj h;exact h1
  ·cases h
theorem tq (n:Nat) (get get2:Nat->List AV):ar n 0 get get2=get:=by
 funext j
 unfold ar
 cases h:Nat.blt j n with
 | true=>rfl
 | false=>rfl
theorem wC:∀ {q i:Nat},zS q i=true->q - 1<=i
 | 0,_,_=>Nat.zero_le _
 | q+1,_,h=>Nat.le_of_ble_eq_true h
theorem AE {s:St} {y:AV} {r:Nat×Nat×(Nat->List AV)} (h:yi s y=some (true,r)):mG s y=some r:=by
 cases y with
 | gsl k sz n=>
  simp only [yi] at h
  simp only [mG]
  split at h
  ·rename_i q sz' m get ho
   cases h1:Nat.beq sz sz' with
   | false=>rw [h1] at h;cases h
   | true=>
    rw [h1] at h
    simp only [cond_true,Option.some.injEq,Prod.mk.injEq] at h
    obtain ⟨h2,rfl⟩:=h
    simp only [h1,h2];rfl
  ·cases h
 | gsub k sz n lo len=>
  simp only [yi] at h
  simp only [mG]
  split at h
  ·rename_i q sz' m get ho
   cases h1:Nat.beq sz sz' with
   | false=>rw [h1] at h;cases h
   | true=>
    rw [h1] at h
    simp only [cond_true,Option.some.injEq,Prod.mk.injEq] at h
    obtain ⟨h2,rfl⟩:=h
    simp only [h1,h2];rfl
  ·cases h
 | _=>
  have h:=h
  simp only [yi] at h
  obtain ⟨q,h1,h2⟩:=Option.map_eq_some_iff.1 h
  simp only [Prod.mk.injEq,true_and] at h2
  rw [<-h2];exact h1
theorem pS (h:Rel B c s a) {d:Nat} {t ty:TypeId} {x y v:AV} {X Y:Value} {objs':List (Nat×AO)} (hx:Rep c x X) (hy:Rep c y Y) (he:jG P s d t x y=some (true,v,objs')) :
  ∃V c',(Builtin.append_ #[t,t] ty #[X,Y]).run P c.w=.ok V c'.w/\Rel B c' ({env:=s.env,objs:=pc s.objs objs'}:St) a/\Sees B c' ({env:=s.env,objs:=pc s.objs objs'}:St) v V:=by
 unfold jG at he
 split at he
 ·rename_i e k sz0 n m1 hu
  split at he
  ·rename_i sz z inf gb sz2 m get2 sq sz1 n1 get K hsz hz hi hsrc0 hk hK
   obtain ⟨hb,he⟩:_/\_:=by
    simp only [aq] at he
    cases hb:(Nat.blt 0 sz&&(Nat.blt 0 inf.bytes&&(Nat.beq z.length sz&&((Nat.beq sz2 sz||Nat.beq m 0)&&(Nat.beq sz0 sz&&Nat.beq sz1 sz))))) with
    | false=>rw [hb] at he;cases he
    | true=>rw [hb] at he;exact ⟨hb,he⟩
   simp only [cond_true,Option.some.injEq,Prod.mk.injEq,Bool.and_eq_true] at he
   obtain ⟨⟨rfl,hsl,hroom,hn,hle⟩,rfl,rfl⟩:=he
   have hsrc:=AE hsrc0
   have hsm:sq - 1<=m1:=wC hsl
   simp only [Bool.and_eq_true,Bool.or_eq_true] at hb
   obtain ⟨b1,b2,b3,b5,b6,b7⟩:=hb
   have b1:=ltB b1
   have b2:=ltB b2
   have b3:=du b3
   have b5:m=0∨sz2=sz:=(b5.imp du du).symm
   have b6:=du b6
   have b7:=du b7
   have hn:=du hn
   have hle:=Nat.le_of_ble_eq_true hle
   subst b6 b7 hn
   have hK:=sR hK
   obtain ⟨c1,hw,hr,hext,hown,hX⟩:=rekey h hk hK hx hle hsm
   have hY0:m=0->Y=.slice none 0 0∨∃ad cc,Y=.slice (some ad) 0 cc:=λhm=>by
    subst hm
    rcases eR h hy hsrc with ⟨rfl,_⟩ | ⟨b,of,sp,cap,_,rfl,_⟩
    ·exact .inl rfl
    ·exact .inr ⟨_,_,rfl⟩
   by_cases hm:m=0
   ·subst hm
    have hrun:(Builtin.append_ #[t,t] ty #[X,Y]).run P c.w=.ok X c.w:=by
     rcases hX with ⟨rfl,_⟩ | ⟨b,of,sp,cap,_,rfl,hle,_⟩
     ·exact dI hu hi (Nat.le_refl _) (hY0 rfl) c.w
     ·exact dI hu hi hle (hY0 rfl) c.w
    refine ⟨X,c1,by rw [hw];exact hrun,?_,?_,λq hq=>?_,rfl⟩
    ·rw [tq];exact hr
    ·rcases hX with ⟨rfl,rfl⟩ | ⟨b,of,sp,cap,_,rfl,hle',_⟩
     ·exact .gslNil _ _ hown
     ·exact .gsl _ _ _ _ _ hle' hown
    ·simp [AV.keys] at hq;subst hq;exact a7
   ·have hm0:0 < m:=Nat.pos_of_ne_zero hm
    obtain rfl:=b5.resolve_left hm
    rcases eR h hy hsrc with ⟨_,e⟩ | ⟨b2',o2,sp2,cap2,hsp2,rfl,_,hlen2,hcell2⟩
    ·omega
    obtain rfl:=hsp2 hm0
    have h2:RowSees c1 b2' o2 m sz2 get2:=RowSees.ext ⟨hlen2,hcell2⟩ hw hext
    obtain ⟨V,c',g1,g2,g3⟩:=nZ (ty:=ty) (cap2:=cap2) hr hu hi hsz hz b3 b1 b2 h2 hX ⟨hsm,.inr ⟨by rw [St.jM,if_pos rfl],hown⟩⟩ hm0 (Nat.le_of_ble_eq_true hroom)
    have e:((s.setObj k .gone).setObj K (.grw sq sz2 m1 get)).setObj K (.grw sq sz2 (m1+m) (ar m1 m get get2))=({env:=s.env,objs:=aput (aput s.objs k .gone) K (.grw sq sz2 (m1+m) (ar m1 m get get2))}:St):=by
     show St.mk _ _=St.mk _ _
     congr 1
     exact ya _ _ _ _
    rw [e] at g2 g3
    rw [hw] at g1
    exact ⟨V,c',g1,g2,g3⟩
  ·cases he
 ·cases he
theorem rv (h:Rel B c s a) {d:Nat} {t:TypeId} {len sz m:Nat} {get:Nat->List AV} {parts:List (Nat×AV)} {xs:List (Nat×Value)} (hd:s.obj d=none) (hs:jH B c s parts xs) (he:ek P t len parts=some (true,.sl .fit sz m get)) :
  ∃V c',(Instr.buildSlice t len xs.toArray).run P c.w=.ok V c'.w/\Rel B c' (s.setObj d (.grw 0 sz m get)) a/\Sees B c' (s.setObj d (.grw 0 sz m get)) (.gsl d sz m) V:=by
 obtain ⟨hsz,vs,e,hvs,hrun,hreps⟩:=mO hs he
 let c':=c.owns (c.w.alloc (.cells vs e)) c.I d (some (⟨c.w.heap.size,0,none⟩,m)) m
 have hkb:KeepsBut c c' s.objs d:=by
  refine di (λ_ _ hi=>hi) (λb q v hi hv=>?_) (λb q ob hi he _=>(aB c.w _ b (aQ he)).trans he) (λn' v hl _=>absurd rfl (fA hd hl)) (λq o' b hq hne hb=>⟨aB c.w _ _ (cq (h.objs.rep q o' hq) hb),λoff hi=>hi⟩)
  rw [World.bN (aB c.w _ b (dN hv))];exact hv
 have hgr:Grow B c c':=by
  refine ⟨rfl,rfl,rfl,by simp [c',Cx.owns],λb hb _=>aB c.w _ _ (Nat.lt_of_lt_of_le hb h.frame.size),λb q hb _ hi=>hi,λb q hi=>?_⟩
  exact hkb.ext.there h.good hi
 have hown:aG c' (.key d) m (.slice (some ⟨c.w.heap.size,0,none⟩) m m):=⟨m,by simp [c',Cx.owns],Nat.le_refl _,λ_=>by simp [c',Cx.owns,kF]⟩
 refine ⟨_,c',hrun,h.obj hkb hgr ⟨⟨hsz,Nat.zero_le _⟩,by simp [c',Cx.owns],?_⟩ ?_ (by simp [AO.keys]) ?_,⟨.gsl _ _ _ _ _ (Nat.le_refl _) hown,λq hq=>?_,rfl⟩⟩
 ·simp only [c',Cx.owns,if_true]
  refine ⟨Nat.le_refl _,λ_=>⟨⟨vs,e,bc c.w _,hvs,λj i u hj hu=>((hreps j hj).2.2 i u hu).2.ext hkb.ext λq hq=>by rw [aM (hreps j hj).2.1 hu] at hq;simp at hq⟩,⟨rfl,rfl⟩,λj hj=>⟨(hreps j hj).1,(hreps j hj).2.1⟩,λj i u hj hu=>((hreps j hj).2.2 i u hu).1,λq _ hi=>?_⟩⟩
  have:=h.good.lt hi
  simp at this
 ·intro q o' b hq hne hb
  have:=cq (h.objs.rep q o' hq) hb
  simp only [excl,c',Cx.owns,if_true]
  intro e'
  have h9:c.w.heap.size=b:=e'.2
  omega
 ·intro b hb
  simp only [excl,c',Cx.owns,if_true] at hb
  have:=h.frame.size
  have h9:c.w.heap.size=b:=hb.2
  left;omega
 ·simp [AV.keys] at hq;subst hq;exact a7
end Go.Ab

namespace Go.Ab
open Go Go.RowKit
variable {P:Program} {B:Base} {c:Cx} {s:St} {a:Act}
theorem bV:∀ (os:List AO) (b k:Nat),alook (af os b) k=if b<=k then os[k - b]? else none
 | [],b,k=>by simp [af,alook]
 | o::r,b,k=>by
  simp only [af,alook]
  by_cases h:b=k
  ·subst h;simp
  ·rw [il h,cond_false,bV r (b+1) k]
   by_cases h1:b+1<=k
   ·rw [if_pos h1,if_pos (by omega)]
    have:k - b=(k - (b+1))+1:=by omega
    rw [this];simp
   ·rw [if_neg h1,if_neg (by omega)]
def held (c:Cx) (objs:List (Nat×AO)) (b:Nat):Prop:=∃k o,alook objs k=some o/\excl c k o b
def lA (P:Program) (G:Nat->Option (List AV)) (f:FuncId) (args:List AV) (os:List AO) (r:AV) (os':List AO):Prop:=
 ∀ (c0:Cx) (vs:Array Value),Good G c0->Objs c0 (af os ae)->vs.size=args.length->
  (∀ (i:Nat) (u:AV),args[i]?=some u->Rep c0 u (vs.getD i undef))->(∀k∈au args,live (af os ae) k)->
  Calls P f vs c0.w λe w'=>∃c' x,e=.returned x/\c'.w=w'/\Good G c' /\
   Frame {c0:=c0,D:=held c0 (af os ae),K:=live (af os ae),G:=G,N:=0} c' /\
   Objs c' (af os' ae)/\Rep c' r x/\(∀k∈r.keys,live (af os' ae) k) /\
   ∀k o b,alook (af os' ae) k=some o->excl c' k o b->c0.w.heap.size<=b∨held c0 (af os ae) b
theorem eX (m:Nat->Nat):∀ (l:List AV) (i:Nat),(lC m l)[i]?=l[i]?.map (AV.ren m)
 | [],i=>by simp [lC]
 | v::r,i=>by cases i <;> simp [lC,eX m r]
theorem dZ (m:Nat->Nat) (l:List AV):(lC m l).length=l.length:=by induction l <;> simp [lC, *]
theorem wS (m:Nat->Nat) (v:AV):(v.ren m).one=v.one:=by
 cases v with
 | sl o=>cases o <;> rfl
 | _=>rfl
mutual
theorem dT (m:Nat->Nat):∀ (v:AV),∀k∈(v.ren m).keys,∃q∈v.keys,k=m q
 | .sl o sz n get=>by cases o <;> simp [AV.ren,AV.keys]
 | .agg cs=>by simp only [AV.ren,AV.keys];exact fj m cs
 | .tup vs=>by simp only [AV.ren,AV.keys];exact fj m vs
 | .ref .. | .aref .. | .msl .. | .gsl .. | .gref .. | .gsub .. | .mref .. | .fms ..=>by simp [AV.ren,AV.keys]
 | .fn f p q=>by
  simp only [AV.ren,AV.keys,List.mem_append]
  rintro k (hk | hk)
  ·obtain ⟨x,h1,h2⟩:=fj m p k hk;exact ⟨x,.inl h1,h2⟩
  ·obtain ⟨x,h1,h2⟩:=fj m q k hk;exact ⟨x,.inr h1,h2⟩
 | .bool _ | .int .. | .str _ | .nilp | .nilf | .nilm | .nili | .nni | .num _ | .undef | .raw _ | .arr .. | .elt ..=>by simp [AV.ren,AV.keys]
 | .grd t w v=>by simp only [AV.ren,AV.keys];exact dT m v
theorem fj (m:Nat->Nat):∀ (l:List AV),∀k∈au (lC m l),∃q∈au l,k=m q
 | []=>by simp [lC,au]
 | v::r=>by
  intro k hk
  simp only [lC,au,List.mem_append] at hk
  rcases hk with hk | hk
  ·obtain ⟨x,h1,h2⟩:=dT m v k hk
   exact ⟨x,by simp [au,h1],h2⟩
  ·obtain ⟨x,h1,h2⟩:=fj m r k hk
   exact ⟨x,by simp [au,h1],h2⟩
end
theorem Rep.ren {c c':Cx} {m:Nat->Nat} (hc:∀b o v,c.I b o->c.w.cell? ⟨b,o,none⟩=some v->c'.w.cell? ⟨b,o,none⟩=some v) (hI:∀b o,c.I b o->c'.I b o) (hM:∀b o ob,c.I b o->c.w.heap[b]?=some ob->fL ob=false->c'.w.heap[b]?=some ob) {v:AV} {x:Value} (h:Rep c v x) :
  (∀k∈v.keys,c'.β (m k)=c.β k/\∀n y,aG c (.key k) n y->aG c' (.key (m k)) n y)->Rep c' (v.ren m) x:=by
 have he:Ext c c' (λ_=>False):=⟨hc,hI,λ_ h=>h.elim,λ_ h=>h.elim,hM⟩
 induction h with
 | slNil o sz get ho=>
  intro hk
  cases o with
  | key k=>exact .slNil _ _ _ ((hk k (by simp [AV.keys])).2 _ _ ho)
  | _=>exact .slNil _ _ _ ho
 | sl o sz n get ad cap vals h1 h2 h3 h4 h5 h6 _=>
  intro hk
  have hown:∀o',aG c' o' n (.slice (some ad) n cap)->Rep c' (.sl o' sz n get) (.slice (some ad) n cap):=λo' ho=>
   .sl _ _ _ _ ad cap vals h1 h2 ho h4 (λj i u hj hu=>⟨(h5 j i u hj hu).1,hc _ _ _ (h5 j i u hj hu).2.2 (h5 j i u hj hu).2.1,hI _ _ (h5 j i u hj hu).2.2⟩)
    (λj i u hj hu=>(h6 j i u hj hu).ext he λk hk'=>by rw [aM (h4 j hj).2 hu] at hk';simp at hk')
  cases o with
  | key k=>exact hown _ ((hk k (by simp [AV.keys])).2 _ _ h3)
  | _=>exact hown _ h3
 | agg cs vs h1 h2 h3 ih=>
  intro hk
  refine .agg _ _ (by rw [h1,dZ]) (λi u hu=>?_) (λi u hu=>?_)
  ·rw [eX] at hu
   cases hi:cs[i]? with
   | none=>simp [hi] at hu
   | some u'=>simp [hi] at hu;subst hu;rw [wS];exact h2 i u' hi
  ·rw [eX] at hu
   cases hi:cs[i]? with
   | none=>simp [hi] at hu
   | some u'=>simp [hi] at hu;subst hu;exact ih i u' hi λk hk'=>hk k (by simpa [AV.keys] using aR hi k hk')
 | tup us vs h1 h3 ih=>
  intro hk
  refine .tup _ _ (by rw [h1,dZ]) (λi u hu=>?_)
  rw [eX] at hu
  cases hi:us[i]? with
  | none=>simp [hi] at hu
  | some u'=>simp [hi] at hu;subst hu;exact ih i u' hi λk hk'=>hk k (by simpa [AV.keys] using aR hi k hk')
 | bool b=>intro _;exact .bool b
 | int k n=>intro _;exact .int k n
 | str l=>intro _;exact .str l
 | nilp=>intro _;exact .nilp
 | nilf=>intro _;exact .nilf
 | nilm=>intro _;exact .nilm
 | nili=>intro _;exact .nili
 | nni t v=>intro _;exact .nni t v
 | num k n=>intro _;exact .num k n
 | undef v=>intro _;exact .undef v
 | raw v=>intro _;exact .raw v
 | arr sz n get vs h1 h2 h3 h4 _=>
  intro _
  exact .arr sz n get vs h1 h2 h3 λj i u hj hu=>(h4 j i u hj hu).ext he λk hk'=>by rw [aM (h2 j hj).2 hu] at hk';simp at hk'
 | ref k off=>intro hk;rw [<-(hk k (by simp [AV.keys])).1];exact .ref _ _
 | aref k sz i off=>intro hk;rw [<-(hk k (by simp [AV.keys])).1];exact .aref _ _ _ _
 | elt cs off b o vals h1 h2 h3 _=>
  intro _
  exact .elt cs off b o vals h1 (λi u hu=>⟨(h2 i u hu).1,hc _ _ _ (h2 i u hu).2.2 (h2 i u hu).2.1,hI _ _ (h2 i u hu).2.2⟩) λi u hu=>(h3 i u hu).ext he λk hk'=>by rw [aM h1 hu] at hk';simp at hk'
 | msl k sz off len cap o h1 h2=>intro hk;rw [<-(hk k (by simp [AV.keys])).1];exact .msl _ _ _ _ _ _ h1 h2
 | gslNil k sz ho=>intro hk;exact .gslNil _ _ ((hk k (by simp [AV.keys])).2 _ _ ho)
 | gsl k sz n a cap h1 ho=>intro hk;exact .gsl _ _ _ _ _ h1 ((hk k (by simp [AV.keys])).2 _ _ ho)
 | gref k sz n i off b cap ho=>intro hk;exact .gref _ _ _ _ _ _ _ ((hk k (by simp [AV.keys])).2 _ _ ho)
 | gsubNil k sz ho=>intro hk;exact .gsubNil _ _ ((hk k (by simp [AV.keys])).2 _ _ ho)
 | gsub k sz n lo len a cap a' cap' h1 ho h2 h3 h4 h5=>intro hk;exact .gsub _ _ _ _ _ a cap a' cap' h1 ((hk k (by simp [AV.keys])).2 _ _ ho) h2 h3 h4 h5
 | mref k=>intro hk;rw [<-(hk k (by simp [AV.keys])).1];exact .mref _
 | fms g b es clock ms h1 h2 h3 h4 h5 h6=>intro _;exact .fms g b es clock ms (hI _ _ h1) (hM b 0 _ h1 h2 rfl) h3 h4 h5 h6
 | fn f p q vp vq h1 h2 h3 h4 ih1 ih2=>
  intro hk
  refine .fn _ _ _ _ _ (by rw [h1,dZ]) (by rw [h2,dZ]) (λi u hu=>?_) (λi u hu=>?_)
  ·rw [eX] at hu
   cases hi:p[i]? with
   | none=>simp [hi] at hu
   | some u'=>simp [hi] at hu;subst hu;exact ih1 i u' hi λk hk'=>hk k (by simpa [AV.keys] using .inl (aR hi k hk'))
  ·rw [eX] at hu
   cases hi:q[i]? with
   | none=>simp [hi] at hu
   | some u'=>simp [hi] at hu;subst hu;exact ih2 i u' hi λk hk'=>hk k (by simpa [AV.keys] using .inr (aR hi k hk'))
def Cx.froze (c:Cx) (b n:Nat):Cx:={c with I:=λb' o=>c.I b' o∨(b'=b/\o < n)}
theorem pB {c:Cx} {k sz n:Nat} {get:Nat->List AV} (sq:Nat) (h0:0 < sz) (hfr:c.fr k=some n) (hm:match c.κ k with | none=>n=0 | some (a,cap)=>n<=cap/\(0 < cap->GrwAt c a (n+1) sz n cap get)):dh c k (uu sq sz n get):=by
 cases sq with
 | succ q=>exact ⟨⟨h0,by omega⟩,hfr,hm⟩
 | zero=>
  refine ⟨h0,hfr,?_⟩
  cases hκ:c.κ k with
  | none=>rw [hκ] at hm;exact hm
  | some p=>
   obtain ⟨a,cap⟩:=p
   rw [hκ] at hm
   obtain ⟨hle,hG⟩:=hm
   refine ⟨λhc=>(hG hc).addr.2,hle,λhc=>?_⟩
   have hG:=hG (by omega)
   obtain ⟨vs,t,g1,g2,_⟩:=hG.row
   exact ⟨⟨vs,t,g1,g2⟩,hG.addr.1,λo ho=>hG.free o (by rw [Nat.add_sub_cancel];exact ho)⟩
theorem xJ {c:Cx} {k sq sz n:Nat} {get:Nat->List AV} {b:Nat} (h:excl c k (uu sq sz n get) b):excl c k (.grw sq sz n get) b:=by
 cases sq with
 | succ q=>exact h
 | zero=>
  simp only [uu,excl] at h ⊢
  cases hκ:c.κ k with
  | none=>rw [hκ] at h;simp at h
  | some p=>
   obtain ⟨ad,cap⟩:=p
   rw [hκ] at h
   simp only at h ⊢
   exact ⟨by omega,h.2⟩
theorem qW (sq sz n:Nat) (get:Nat->List AV):(uu sq sz n get).keys=[]:=by cases sq <;> rfl
theorem lh (h:Rel B c s a) {v v':AV} {x:Value} {objs':List (Nat×AO)} (hs:Sees B c s v x) (he:cg s.objs v=some (v',objs')) :
  ∃c',c'.w=c.w/\Rel B c' {s with objs:=objs'} a/\Sees B c' {s with objs:=objs'} v' x/\(∀k,live s.objs k->live objs' k)/\Ext c c' (live s.objs):=by
 cases v with
 | msl k sz off n=>
  simp only [cg] at he
  have hrep:=hs.rep
  have key:∀ (c':Cx) (sz' m:Nat) (get:Nat->List AV),c'.w=c.w->c'.β k=c.β k->ArrAt c' (c'.β k) sz' m get->(∀o,o < m*sz'->c'.I (c'.β k) o)->sz=sz'->off+n<=m->Rep c' (.sl .no sz n λj=>get (off+j)) x:=by
   intro c' sz' m get hw hβ ha hI e hle
   subst e
   cases hrep with
   | msl _ _ _ _ cap o h1 h2=>
    by_cases hn:n=0
    ·subst hn
     exact .sl _ _ _ _ _ _ (λ_ _=>undef) (λ_=>rfl) (Nat.zero_le _) trivial (λj hj=>by omega) (λj i u hj=>by omega) (λj i u hj=>by omega)
    ·have ho:=h2 (by omega)
     subst ho
     have hcell:∀ (j i:Nat) (u:AV),j < n->(get (off+j))[i]?=some u->u.one=true/\∃y,c'.w.cell? ⟨c.β k,off*sz+(j*sz+i),none⟩=some y/\Rep c' u y:=by
      intro j i u hj hu
      obtain ⟨e1,y,e2,e3⟩:=ha.fC (i:=off+j) (by omega) i u hu
      refine ⟨e1,y,?_,e3⟩
      rw [<-e2,hβ];congr 2;rw [Nat.add_mul];omega
     refine .sl _ _ _ _ ⟨c.β k,off*sz,none⟩ cap (λj i=>(c'.w.cell? ⟨c.β k,off*sz+(j*sz+i),none⟩).getD undef) (λ_=>rfl) h1 trivial (λj hj=>ha.len _ (by omega)) (λj i u hj hu=>?_) (λj i u hj hu=>?_)
     ·obtain ⟨e1,y,e2,e3⟩:=hcell j i u hj hu
      have hi:i < sz:=by rw [<-(ha.len (off+j) (by omega)).1];exact (List.getElem?_eq_some_iff.1 hu).1
      refine ⟨e1,by simp [e2],?_⟩
      have:=hI ((off+j)*sz+i) (br (by omega) hi)
      rw [hβ] at this
      have e5:(off+j)*sz+i=off*sz+(j*sz+i):=by rw [Nat.add_mul];omega
      rw [<-e5];exact this
     ·obtain ⟨e1,y,e2,e3⟩:=hcell j i u hj hu
      simp only [e2,Option.getD_some];exact e3
  cases ho:alook s.objs k with
  | none=>simp [ho] at he
  | some ob=>
   have hob:=h.objs.rep k ob ho
   cases ob with
   | arr sz' m get=>
    simp only [ho,aq] at he
    cases hb:(Nat.beq sz sz'&&Nat.ble (off+n) m) with
    | false=>simp [hb] at he
    | true=>
     simp [hb] at he
     obtain ⟨rfl,rfl⟩:=he
     simp only [Bool.and_eq_true] at hb
     have hb1:=du hb.1
     have hb2:=Nat.le_of_ble_eq_true hb.2
     let c':=c.froze (c.β k) (m*sz')
     have hext:Ext c c' (live s.objs):=⟨λ_ _ _ _ hv=>hv,λ_ _ hi=>.inl hi,λ_ _=>rfl,λ_ _ _ _ hv=>hv,λ_ _ _ _ hv _=>hv⟩
     have hkb:KeepsBut c c' s.objs k:=⟨hext,λ_ _ _=>rfl,λ_ _ _=>rfl,λ_ _ _=>rfl,λq o' b hq hne hb'=>⟨rfl,λoff' hi=>by
      rcases hi with hi | ⟨rfl,_⟩
      ·exact hi
      ·exact (h.objs.apart q o' k _ _ hq ho hne hb' rfl).elim⟩⟩
     obtain ⟨⟨⟨vs,t',hh,hsz,hr⟩,hl,h1⟩,hI,hfr⟩:=hob
     have hgr:Grow B c c':=⟨rfl,rfl,rfl,Nat.le_refl _,λ_ _ _=>rfl,λb o hb' hd hi=>by
      rcases hi with hi | ⟨rfl,_⟩
      ·exact hi
      ·rcases h.mine k _ _ ho rfl with h' | h'
       ·omega
       ·exact absurd h' hd,λb o hi=>by
      rcases hi with hi | ⟨rfl,hlt⟩
      ·exact h.good.there b o hi
      ·exact .inl ⟨vs[o]'(by omega),by show c.w.cell? _=_;rw [aY hh];simp⟩⟩
     have harr:ArrAt c' (c'.β k) sz' m get:=⟨⟨vs,t',hh,hsz,λj i u hj hu=>(hr j i u hj hu).ext hext λq hq=>by rw [aM (hl j hj).2 hu] at hq;simp at hq⟩,hl,h1⟩
     have hrel:=h.obj (k:=k) (o:=.frz sz' m get) hkb hgr ⟨harr,λo ho'=>.inr ⟨rfl,ho'⟩,hfr⟩ (λq o' b hq hne hb' e=>h.objs.apart q o' k _ b hq ho hne hb' e) (by simp [AO.keys]) (λb hb'=>h.mine k _ b ho hb')
     exact ⟨c',rfl,hrel,⟨key c' sz' m get rfl rfl harr (λo ho'=>.inr ⟨rfl,ho'⟩) hb1 hb2,by simp [AV.keys],rfl⟩,λq hq=>jn hq,hext⟩
   | frz sz' m get=>
    simp only [ho,aq] at he
    cases hb:(Nat.beq sz sz'&&Nat.ble (off+n) m) with
    | false=>simp [hb] at he
    | true=>
     simp [hb] at he
     obtain ⟨rfl,rfl⟩:=he
     simp only [Bool.and_eq_true] at hb
     have hb1:=du hb.1
     have hb2:=Nat.le_of_ble_eq_true hb.2
     exact ⟨c,rfl,h,⟨key c sz' m get rfl rfl hob.1 hob.2.1 hb1 hb2,by simp [AV.keys],rfl⟩,λq hq=>hq,Ext.refl _ _⟩
   | _=>simp [ho] at he
 | gsl k sz n=>
  simp only [cg] at he
  have hrep:=hs.rep
  cases ho:alook s.objs k with
  | none=>simp [ho] at he
  | some ob=>
   have hob:=h.objs.rep k ob ho
   cases ob with
   | grw sq sz' m get=>
    simp only [ho,aq] at he
    cases hb:(Nat.beq sz sz'&&Nat.beq n m) with
    | false=>simp [hb] at he
    | true=>
     simp only [hb,cond_true,Option.some.injEq,Prod.mk.injEq] at he
     obtain ⟨rfl,rfl⟩:=he
     simp only [Bool.and_eq_true] at hb
     have hb1:=du hb.1
     have hb2:=du hb.2
     subst hb1 hb2
     obtain ⟨hsz0,hfr,hm⟩:=hob
     have hX:x=kF (c.κ k) n:=by
      have hown:aG c (.key k) n x:=by
       cases hrep with
       | gslNil _ _ hq=>exact hq
       | gsl _ _ _ ad cap hn hq=>exact hq
      obtain ⟨q,f1,f2,f3⟩:=hown
      rw [hfr] at f1
      exact f3 (Option.some.inj f1)
     have hex0:∀b,excl c k (uu sq sz n get) b->excl c k (.grw sq sz n get) b:=λb hb'=>xJ hb'
     have fin:∀c':Cx,c'.w=c.w->c'.β=c.β->c'.κ=c.κ->c'.fr=c.fr->KeepsBut c c' s.objs k->Grow B c c'->dh c' k (uu sq sz n get)->Rep c' (.sl .no sz n get) x->
       ∃c',c'.w=c.w/\Rel B c' {s with objs:=aput s.objs k (uu sq sz n get)} a/\Sees B c' {s with objs:=aput s.objs k (uu sq sz n get)} (.sl .no sz n get) x/\(∀q,live s.objs q->live (aput s.objs k (uu sq sz n get)) q)/\Ext c c' (live s.objs):=by
      intro c' hw hβ hκ hf hkb hgr hor hrx
      have hsame:excl c' k (uu sq sz n get)=excl c k (uu sq sz n get):=cW (by rw [hβ]) (by rw [hκ]) λ_ _=>by rw [hw]
      refine ⟨c',hw,h.obj (k:=k) (o:=uu sq sz n get) hkb hgr hor (λq o' b hq hne hb' e=>?_) (by rw [qW];simp) (λb hb'=>?_),⟨hrx,by simp [AV.keys],rfl⟩,λq hq=>jn hq,hkb.ext⟩
      ·rw [hsame] at e
       exact h.objs.apart q o' k _ b hq ho hne hb' (hex0 b e)
      ·rw [hsame] at hb'
       exact h.mine k _ b ho (hex0 b hb')
     cases hκ:c.κ k with
     | none=>
      simp only [hκ] at hm
      subst hm
      rw [hκ] at hX
      have hX:x=.slice none 0 0:=hX
      subst hX
      refine fin c rfl rfl rfl rfl ((Keeps.refl c s.objs).but k) (Grow.refl h.good) (pB sq hsz0.1 hfr (by rw [hκ])) (.slNil _ _ _ trivial)
     | some p=>
      obtain ⟨ad,cap⟩:=p
      simp only [hκ] at hm
      obtain ⟨hle,hG⟩:=hm
      rw [hκ] at hX
      have hX:x=.slice (some ad) n cap:=hX
      subst hX
      by_cases hc0:0 < cap
      ·obtain ⟨⟨vs,t',hh,hvs,hr⟩,had,hl,h1,hI⟩:=hG hc0
       have hexg:excl c k (.grw sq sz n get) ad.block:=by simp only [excl,hκ];exact ⟨hc0,trivial⟩
       have hext:Ext c (c.froze ad.block (n*sz)) (live s.objs):=⟨λ_ _ _ _ hv=>hv,λ_ _ hi=>.inl hi,λ_ _=>rfl,λ_ _ _ _ hv=>hv,λ_ _ _ _ hv _=>hv⟩
       have hkb:KeepsBut c (c.froze ad.block (n*sz)) s.objs k:=⟨hext,λ_ _ _=>rfl,λ_ _ _=>rfl,λ_ _ _=>rfl,λq o' b hq hne hb'=>⟨rfl,λoff' hi=>by
        rcases hi with hi | ⟨rfl,_⟩
        ·exact hi
        ·exact (h.objs.apart q o' k _ _ hq ho hne hb' hexg).elim⟩⟩
       have hnle:n*sz<=vs.size:=by rw [hvs];exact Nat.mul_le_mul_right _ hle
       have hgr:Grow B c (c.froze ad.block (n*sz)):=⟨rfl,rfl,rfl,Nat.le_refl _,λ_ _ _=>rfl,λb o hb' hd hi=>by
        rcases hi with hi | ⟨rfl,_⟩
        ·exact hi
        ·rcases h.mine k _ _ ho hexg with h' | h'
         ·omega
         ·exact absurd h' hd,λb o hi=>by
        rcases hi with hi | ⟨rfl,hlt⟩
        ·exact h.good.there b o hi
        ·exact .inl ⟨vs[o]'(by omega),by show c.w.cell? _=_;rw [aY hh];simp⟩⟩
       refine fin (c.froze ad.block (n*sz)) rfl rfl rfl rfl hkb hgr (pB sq hsz0.1 hfr ?_) ?_
       ·show (match c.κ k with | none=>n=0 | some (a,cap)=>n<=cap/\(0 < cap->GrwAt (c.froze ad.block (n*sz)) a (n+1) sz n cap get))
        rw [hκ]
        refine ⟨hle,λ_=>⟨⟨vs,t',hh,hvs,λj i u hj hu=>(hr j i u hj hu).ext hext λq hq=>by rw [aM (hl j hj).2 hu] at hq;simp at hq⟩,had,hl,h1,λo ho' hi=>?_⟩⟩
        rw [Nat.add_sub_cancel] at ho'
        rcases hi with hi | ⟨_,hlt⟩
        ·exact hI o (Nat.le_trans (Nat.mul_le_mul_right sz hsz0.2) ho') hi
        ·omega
       ·refine .sl _ _ _ _ ad cap (λj i=>vs.getD (j*sz+i) undef) (λ_=>had.2) hle trivial hl (λj i u hj hu=>?_) (λj i u hj hu=>(hr j i u hj hu).ext hext λq hq=>by rw [aM (hl j hj).2 hu] at hq;simp at hq)
        have hi:i < sz:=by rw [<-(hl j hj).1];exact (List.getElem?_eq_some_iff.1 hu).1
        have hlt:=br hj hi
        have hoff:=had.1
        refine ⟨h1 j i u hj hu,?_,.inr ⟨rfl,by omega⟩⟩
        show c.w.cell? _=_
        rw [hoff,Nat.zero_add,aY hh]
        have:j*sz+i < vs.size:=by omega
        simp [Array.getD_eq_getD_getElem?,this]
      ·have hn0:n=0:=by omega
       subst hn0
       have hcz:cap=0:=by omega
       subst hcz
       refine fin c rfl rfl rfl rfl ((Keeps.refl c s.objs).but k) (Grow.refl h.good) (pB sq hsz0.1 hfr (by rw [hκ];exact ⟨Nat.le_refl _,λh0=>absurd h0 (by omega)⟩)) (.sl _ _ _ _ ad 0 (λ_ _=>undef) (λh0=>absurd h0 (by omega)) (Nat.le_refl _) trivial (λj hj=>by omega) (λj i u hj=>by omega) (λj i u hj=>by omega))
   | _=>simp [ho] at he
 | _=>simp [cg] at he;obtain ⟨rfl,rfl⟩:=he;exact ⟨c,rfl,h,hs,λ_ h=>h,Ext.refl _ _⟩
theorem Sees.move {c c':Cx} {s s':St} {v:AV} {x:Value} (h:Sees B c s v x) (hl:∀k,Go.Ab.live s.objs k->Go.Ab.live s'.objs k) (he:Ext c c' (Go.Ab.live s.objs)):Sees B c' s' v x:=
 ⟨h.rep.ext he h.live,λk hk=>hl k (h.live k hk),h.plain⟩
abbrev St.with (s:St) (objs:List (Nat×AO)):St:={s with objs:=objs}
theorem lg:∀ {l l':List AV} {xs:List Value} {c:Cx} {s:St} {objs':List (Nat×AO)},Rel B c s a->dg B c s l xs->cC s.objs l=some (l',objs')->
  ∃c',c'.w=c.w/\Rel B c' (s.with objs') a/\dg B c' (s.with objs') l' xs/\(∀k,live s.objs k->live objs' k)/\Ext c c' (live s.objs)
 | [],l',xs,c,s,objs',h,hs,he=>by
  simp [cC] at he;obtain ⟨rfl,rfl⟩:=he
  exact ⟨c,rfl,h,hs,λ_ h=>h,Ext.refl _ _⟩
 | v::r,l',xs,c,s,objs',h,hs,he=>by
  simp only [cC] at he
  cases h1:cg s.objs v with
  | none=>simp [h1] at he
  | some p=>
   obtain ⟨v',o1⟩:=p
   cases h2:cC o1 r with
   | none=>simp [h1,h2] at he
   | some q=>
    obtain ⟨r',o2⟩:=q
    simp [h1,h2] at he
    obtain ⟨rfl,rfl⟩:=he
    obtain ⟨x,rs,rfl,hx,hr⟩:=hs.cons_inv
    obtain ⟨c1,e1,e2,e3,e4,e5⟩:=lh h hx h1
    have hr1:dg B c1 (s.with o1) r rs:=⟨hr.1,λi u hu=>(hr.2 i u hu).move e4 e5⟩
    obtain ⟨c2,f1,f2,f3,f4,f5⟩:=lg e2 hr1 h2
    refine ⟨c2,f1.trans e1,f2,⟨by simp [f3.1],λi u hu=>?_⟩,λk hk=>f4 k (e4 k hk),e5.trans (f5.sub e4)⟩
    cases i with
    | zero=>simp at hu;subst hu;simpa using e3.move f4 f5
    | succ i=>simpa using f3.2 i u (by simpa using hu)
theorem sV {objs objs':List (Nat×AO)} {v v':AV} (h:cg objs v=some (v',objs')):v'.one=v.one:=by
 cases v with
 | msl k sz off n=>
  simp only [cg] at h
  cases ho:alook objs k with
  | none=>simp [ho] at h
  | some ob=>
   cases ob with
   | arr sz' m get=>
    cases hb:(Nat.beq sz sz'&&Nat.ble (off+n) m) with
    | false=>simp [ho,hb,aq] at h
    | true=>simp [ho,hb,aq] at h;rw [<-h.1];rfl
   | frz sz' m get=>
    cases hb:(Nat.beq sz sz'&&Nat.ble (off+n) m) with
    | false=>simp [ho,hb,aq] at h
    | true=>simp [ho,hb,aq] at h;rw [<-h.1];rfl
   | _=>simp [ho] at h
 | gsl k sz n=>
  simp only [cg] at h
  cases ho:alook objs k with
  | none=>simp [ho] at h
  | some ob=>
   cases ob with
   | grw sq sz' m get=>
    cases hb:(Nat.beq sz sz'&&Nat.beq n m) with
    | false=>simp [ho,hb,aq] at h
    | true=>simp [ho,hb,aq] at h;rw [<-h.1];rfl
   | _=>simp [ho] at h
 | _=>simp [cg] at h;rw [<-h.1]
theorem mw:∀ {l l':List AV} {objs objs':List (Nat×AO)},cC objs l=some (l',objs')->∀ (i:Nat) (u':AV),l'[i]?=some u'->∃u,l[i]?=some u/\u'.one=u.one
 | [],l',objs,objs',h,i,u',hu=>by simp [cC] at h;obtain ⟨rfl,_⟩:=h;simp at hu
 | v::r,l',objs,objs',h,i,u',hu=>by
  simp only [cC] at h
  cases h1:cg objs v with
  | none=>simp [h1] at h
  | some p=>
   obtain ⟨v',o1⟩:=p
   cases h2:cC o1 r with
   | none=>simp [h1,h2] at h
   | some q=>
    obtain ⟨r',o2⟩:=q
    simp [h1,h2] at h
    obtain ⟨rfl,rfl⟩:=h
    cases i with
    | zero=>simp at hu;subst hu;exact ⟨v,rfl,sV h1⟩
    | succ i=>simpa using mw h2 i u' (by simpa using hu)
theorem pD (h:Rel B c s a) {v v':AV} {x:Value} {objs':List (Nat×AO)} (hs:Sees B c s v x) (he:dE s.objs v=some (v',objs')) :
  ∃c',c'.w=c.w/\Rel B c' (s.with objs') a/\Sees B c' (s.with objs') v' x/\(∀k,live s.objs k->live objs' k)/\Ext c c' (live s.objs):=by
 cases v with
 | agg cs=>
  simp only [dE] at he
  cases h1:cC s.objs cs with
  | none=>simp [h1] at he
  | some p=>
   obtain ⟨cs',o1⟩:=p
   simp [h1] at he
   obtain ⟨rfl,rfl⟩:=he
   obtain ⟨hr,hl,hp⟩:=hs
   cases hr with
   | agg _ vs e1 e2 e3=>
    have hL:dg B c s cs vs.toList:=⟨by simpa using e1,λi u hu=>⟨by
     have:=e3 i u hu
     simpa [Array.getD_eq_getD_getElem?,List.getD_eq_getElem?_getD] using this,λk hk=>hl k (by simpa [AV.keys] using aR hu k hk),(e3 i u hu).plain⟩⟩
    obtain ⟨c',f1,f2,f3,f4,f5⟩:=lg h hL h1
    have hfn:=f3.fn
    refine ⟨c',f1,f2,⟨.agg _ _ (by simpa using hfn.1) (λi u hu=>?_) (λi u hu=>by simpa using hfn.2.1 i u hu),by simpa [AV.keys] using hfn.2.2,rfl⟩,f4,f5⟩
    obtain ⟨u0,g1,g2⟩:=mw h1 i u hu
    rw [g2];exact e2 i u0 g1
 | _=>exact lh h hs he
theorem dm:∀ {l l':List AV} {xs:List Value} {c:Cx} {s:St} {objs':List (Nat×AO)},Rel B c s a->dg B c s l xs->bK s.objs l=some (l',objs')->
  ∃c',c'.w=c.w/\Rel B c' (s.with objs') a/\dg B c' (s.with objs') l' xs/\(∀k,live s.objs k->live objs' k)/\Ext c c' (live s.objs)
 | [],l',xs,c,s,objs',h,hs,he=>by
  simp [bK] at he;obtain ⟨rfl,rfl⟩:=he
  exact ⟨c,rfl,h,hs,λ_ h=>h,Ext.refl _ _⟩
 | v::r,l',xs,c,s,objs',h,hs,he=>by
  simp only [bK] at he
  cases h1:dE s.objs v with
  | none=>simp [h1] at he
  | some p=>
   obtain ⟨v',o1⟩:=p
   cases h2:bK o1 r with
   | none=>simp [h1,h2] at he
   | some q=>
    obtain ⟨r',o2⟩:=q
    simp [h1,h2] at he
    obtain ⟨rfl,rfl⟩:=he
    obtain ⟨x,rs,rfl,hx,hr⟩:=hs.cons_inv
    obtain ⟨c1,e1,e2,e3,e4,e5⟩:=pD h hx h1
    have hr1:dg B c1 (s.with o1) r rs:=⟨hr.1,λi u hu=>(hr.2 i u hu).move e4 e5⟩
    obtain ⟨c2,f1,f2,f3,f4,f5⟩:=dm e2 hr1 h2
    refine ⟨c2,f1.trans e1,f2,⟨by simp [f3.1],λi u hu=>?_⟩,λk hk=>f4 k (e4 k hk),e5.trans (f5.sub e4)⟩
    cases i with
    | zero=>simp at hu;subst hu;simpa using e3.move f4 f5
    | succ i=>simpa using f3.2 i u (by simpa using hu)
theorem dg.shed:∀ {l:List AV} {xs:List Value},dg B c s l xs->dg B c s (bS l) xs:=by
 intro l xs h
 refine ⟨by rw [je];exact h.1,λi u hu=>?_⟩
 rw [jf] at hu
 cases hi:l[i]? with
 | none=>simp [hi] at hu
 | some u'=>simp [hi] at hu;subst hu;exact (h.2 i u' hi).shed
theorem any_beq {l:List Nat} {k:Nat}:l.any (Nat.beq k)=true↔k∈l:=by
 rw [List.any_eq_true]
 exact ⟨λ⟨x,h1,h2⟩=>du h2 ▸ h1,λh=>⟨k,h,Nat.beq_refl k⟩⟩
theorem da:∀ (l acc:List Nat),acc.Nodup->(dJ acc l).Nodup/\∀k,k∈dJ acc l↔k∈acc∨k∈l
 | [],acc,h=>⟨h,by simp [dJ]⟩
 | k::r,acc,h=>by
  simp only [dJ]
  cases hb:acc.any (Nat.beq k) with
  | true=>
   obtain ⟨h1,h2⟩:=da r acc h
   refine ⟨h1,λq=>?_⟩
   have:=any_beq.1 hb
   simp only [cond_true,h2 q,List.mem_cons]
   constructor
   ·rintro (h | h)
    ·exact .inl h
    ·exact .inr (.inr h)
   ·rintro (h | rfl | h)
    ·exact .inl h
    ·exact .inl this
    ·exact .inr h
  | false=>
   have hk:k ∉ acc:=λhm=>by rw [any_beq.2 hm] at hb;simp at hb
   obtain ⟨h1,h2⟩:=da r (acc++[k]) (by
    rw [List.nodup_append]
    exact ⟨h,by simp,λx hx y hy=>by simp at hy;subst hy;rintro rfl;exact hk hx⟩)
   refine ⟨h1,λq=>?_⟩
   simp only [cond_false,h2 q,List.mem_append,List.mem_cons,List.not_mem_nil,or_false,or_assoc]
theorem ea (objs:List (Nat×AO)) (l:List Nat):(bp objs l).Nodup/\∀k∈l,k∈bp objs l:=by
 unfold bp
 obtain ⟨a1,a2⟩:=da l [] List.nodup_nil
 obtain ⟨b1,b2⟩:=da (bM objs (dJ [] l)) (dJ [] l) a1
 obtain ⟨c1,c2⟩:=da (bM objs (dJ (dJ [] l) (bM objs (dJ [] l)))) _ b1
 exact ⟨c1,λk hk=>(c2 k).2 (.inl ((b2 k).2 (.inl ((a2 k).2 (.inr hk)))))⟩
theorem bH:∀ {l m:List Nat},kB l m=true->∀k∈l,k∈m
 | [],m,_=>by simp
 | k::r,m,h=>by
  simp only [kB,Bool.and_eq_true] at h
  intro q hq
  rcases List.mem_cons.1 hq with rfl | hq
  ·exact any_beq.1 h.1
  ·exact bH h.2 q hq
theorem ft:∀ {objs:List (Nat×AO)} {ks:List Nat} {os:List AO},cG objs ks=some os->os.length=ks.length/\∀ (i:Nat) (k:Nat),ks[i]?=some k->alook objs k=os[i]?/\live objs k
 | objs,[],os,h=>by simp [cG] at h;subst h;simp
 | objs,k::r,os,h=>by
  simp only [cG] at h
  cases ho:alook objs k with
  | none=>simp [ho] at h
  | some o=>
   cases hr:cG objs r with
   | none=>simp [ho,hr] at h
   | some l=>
    simp [ho,hr] at h;subst h
    obtain ⟨h1,h2⟩:=ft hr
    refine ⟨by simp [h1],λi q hq=>?_⟩
    cases i with
    | zero=>simp at hq;subst hq;exact ⟨by simp [ho],o,ho⟩
    | succ i=>simpa using h2 i q (by simpa using hq)
theorem dd {objs:List (Nat×AO)}:∀ {ks:List Nat} {k:Nat} {o:AO},k∈ks->alook objs k=some o->∀q∈o.keys,q∈bM objs ks
 | [],k,o,hk,_=>by simp at hk
 | q::r,k,o,hk,ho=>by
  intro x hx
  simp only [bM,List.mem_append]
  rcases List.mem_cons.1 hk with rfl | hk
  ·left;simp [ho,hx]
  ·right;exact dd hk ho x hx
theorem bP:∀ {ks:List Nat} {k:Nat} (d:Nat),k∈ks->ks[idxOf ks k d]?=some k
 | [],k,d,h=>by simp at h
 | q::r,k,d,h=>by
  simp only [idxOf]
  by_cases e:q=k
  ·subst e;simp
  ·rw [il e,cond_false]
   simp only [List.getElem?_cons_succ]
   exact bP d (by rcases List.mem_cons.1 h with rfl | h;exact absurd rfl e;exact h)
theorem cE:∀ {ks:List Nat} {i k:Nat},ks[i]?=some k->eP ks i=k
 | [],i,k,h=>by simp at h
 | q::r,0,k,h=>by simp at h;subst h;rfl
 | q::r,i+1,k,h=>by simpa [eP] using cE (ks:=r) (by simpa using h)
theorem bU:∀ {ks:List Nat} {l:List AO} {objs:List (Nat×AO)},ks.Nodup->l.length=ks.length->∀k,alook (bJ objs ks l) k=if k∈ks then l[idxOf ks k 0]? else alook objs k
 | [],l,objs,_,_,k=>by
  cases l <;> simp [bJ]
 | q::r,[],objs,_,hl,k=>by simp at hl
 | q::r,o::l,objs,hn,hl,k=>by
  obtain ⟨hq,hn⟩:=List.nodup_cons.1 hn
  simp only [bJ]
  rw [bU hn (by simpa using hl) k,aV]
  simp only [idxOf]
  by_cases e:q=k
  ·subst e
   rw [if_neg hq];simp
  ·rw [il e]
   by_cases hk:k∈r
   ·rw [if_pos hk,if_pos (List.mem_cons_of_mem _ hk)];simp
   ·rw [if_neg hk,if_neg e,if_neg (by simp [hk];exact λh=>e h.symm)]
end Go.Ab

namespace Go.Ab
open Go Go.RowKit
variable {P:Program} {B:Base} {c:Cx} {s:St} {a:Act}
theorem AO.dT (m:Nat->Nat) (o:AO):∀k∈(o.ren m).keys,∃q∈o.keys,k=m q:=by
 cases o with
 | cells cs=>simp only [AO.ren,AO.keys];exact fj m cs
 | _=>simp [AO.ren,AO.keys]
theorem dh.ren {c c':Cx} {m:Nat->Nat} {k k':Nat} {o:AO} (h:dh c k o) (hw:c'.w=c.w) (hI:c'.I=c.I) (hβ:c'.β k'=c.β k) (hκ:c'.κ k'=c.κ k) (hf:c'.fr k'=c.fr k)
  (hk:∀q∈o.keys,c'.β (m q)=c.β q/\∀n y,aG c (.key q) n y->aG c' (.key (m q)) n y):dh c' k' (o.ren m):=by
 have hren:∀ {v:AV} {x:Value},Rep c v x->(∀q∈v.keys,c'.β (m q)=c.β q/\∀n y,aG c (.key q) n y->aG c' (.key (m q)) n y)->Rep c' (v.ren m) x:=
  λhr hk=>hr.ren (λb o v _ hv=>by rw [hw];exact hv) (λb o hi=>by rw [hI];exact hi) (λb o ob _ hv _=>by rw [hw];exact hv) hk
 have hext:Ext c c' (λ_=>False):=⟨λb o v _ hv=>by rw [hw];exact hv,λb o hi=>by rw [hI];exact hi,λ_ h=>h.elim,λ_ h=>h.elim,λb o ob _ hv _=>by rw [hw];exact hv⟩
 have harr:∀ {sz n:Nat} {get:Nat->List AV},ArrAt c (c.β k) sz n get->ArrAt c' (c'.β k') sz n get:=by
  rintro sz n get ⟨⟨vs,t,hh,hs,hv⟩,hl,h1⟩
  exact ⟨⟨vs,t,by rw [hw,hβ];exact hh,hs,λj i u hj hu=>(hv j i u hj hu).ext hext λq hq=>by rw [aM (hl j hj).2 hu] at hq;simp at hq⟩,hl,h1⟩
 cases o with
 | cells cs=>
  obtain ⟨⟨⟨vs,t,hh,hs,hv⟩,h1⟩,hI',hfr⟩:=h
  refine ⟨⟨⟨vs,t,by rw [hw,hβ];exact hh,by rw [hs,dZ],λi u hu=>?_⟩,λi u hu=>?_⟩,by rw [hI,hβ];exact hI',hf.trans hfr⟩
  ·rw [eX] at hu
   cases hi:cs[i]? with
   | none=>simp [hi] at hu
   | some u'=>simp [hi] at hu;subst hu;exact hren (hv i u' hi) λq hq=>hk q (by simpa [AO.keys] using aR hi q hq)
  ·rw [eX] at hu
   cases hi:cs[i]? with
   | none=>simp [hi] at hu
   | some u'=>simp [hi] at hu;subst hu;rw [wS];exact h1 i u' hi
 | arr sz n get=>exact ⟨harr h.1,by rw [hI,hβ];exact h.2.1,hf.trans h.2.2⟩
 | frz sz n get=>exact ⟨harr h.1,by rw [hI,hβ];exact h.2.1,hf.trans h.2.2⟩
 | own sz n=>
  obtain ⟨h0,hfr,hm⟩:=h
  refine ⟨h0,hf.trans hfr,?_⟩
  simp only [hκ]
  cases hc:c.κ k with
  | none=>simpa [hc] using hm
  | some p=>
   obtain ⟨ad,cap⟩:=p
   simp only [hc] at hm ⊢
   obtain ⟨h1,h2,h3⟩:=hm
   refine ⟨h1,h2,λhlt=>?_⟩
   obtain ⟨⟨vs,t,hh,hs⟩,hoff,hfree⟩:=h3 hlt
   exact ⟨⟨vs,t,by rw [hw];exact hh,hs⟩,hoff,by rw [hI];exact hfree⟩
 | grw sq sz n get=>
  obtain ⟨h0,hfr,hm⟩:=h
  refine ⟨h0,hf.trans hfr,?_⟩
  simp only [hκ]
  cases hc:c.κ k with
  | none=>simpa [hc] using hm
  | some p=>
   obtain ⟨ad,cap⟩:=p
   simp only [hc] at hm ⊢
   obtain ⟨h2,h3⟩:=hm
   refine ⟨h2,λhlt=>?_⟩
   obtain ⟨⟨vs,t,hh,hs,hv⟩,had,hl,h1,hfree⟩:=h3 hlt
   exact ⟨⟨vs,t,by rw [hw];exact hh,hs,λj i u hj hu=>(hv j i u hj hu).ext hext λq hq=>by rw [aM (hl j hj).2 hu] at hq;simp at hq⟩,had,hl,h1,by rw [hI];exact hfree⟩
 | iter l p=>exact ⟨by rw [hw,hβ];exact h.1,by rw [hI,hβ];exact h.2.1,hf.trans h.2.2⟩
 | mp ka ks dom get=>
  obtain ⟨⟨⟨es,clock,ms,hh,h1,h2,h3,h4⟩,hp⟩,hI',hfr⟩:=h
  refine ⟨⟨⟨es,clock,ms,by rw [hw,hβ];exact hh,h1,λm hm=>?_,h3,h4⟩,hp⟩,by rw [hI,hβ];exact hI',hf.trans hfr⟩
  obtain ⟨e1,e2,e3⟩:=h2 m hm
  exact ⟨e1,e2,e3.ext hext λq hq=>by rw [hp _ e1 e2] at hq;simp at hq⟩
 | mat sz n g o=>
  obtain ⟨⟨⟨vs,t,hh,hs,h1,h2,h3⟩,h0⟩,hI',hfr⟩:=h
  refine ⟨⟨⟨vs,t,by rw [hw,hβ];exact hh,hs,λi hi=>(h1 i hi).ext hext λq hq=>by simp [AV.keys] at hq,λi hi hn a l cap hv hl=>?_,h3⟩,h0⟩,by rw [hI,hβ];exact hI',hf.trans hfr⟩
  obtain ⟨⟨⟨vs',t',g1,g2⟩,g3,g4⟩,g5⟩:=h2 i hi hn a l cap hv hl
  exact ⟨⟨⟨vs',t',by rw [hw];exact g1,g2⟩,g3,by rw [hI];exact g4⟩,by rw [hβ];exact g5⟩
 | gone=>trivial
theorem dV {c c':Cx} {m:Nat->Nat} {k k':Nat} {o:AO} (hβ:c'.β k'=c.β k) (hκ:c'.κ k'=c.κ k) (hw:c'.w=c.w:=by rfl):excl c' k' (o.ren m)=excl c k o:=by
 cases o <;> funext b <;> simp only [AO.ren,excl,hβ,hκ,hw]
theorem Objs.qA {c c':Cx} {objs:List (Nat×AO)} (h:Objs c objs) {q:Nat} {o:AO} (hext:Ext c c' (live objs)) (hq:alook objs q=some o)
  (hβ:c'.β q=c.β q) (hκ:c'.κ q=c.κ q) (hf:c'.fr q=c.fr q) (heap:∀b,excl c q o b->c'.w.heap[b]?=c.w.heap[b]?/\∀off,c'.I b off->c.I b off):dh c' q o:=by
 have hr:=h.rep q o hq
 cases o with
 | cells cs=>
  obtain ⟨⟨⟨vs,t,hh,hs,hv⟩,h1⟩,hI,hfr⟩:=hr
  have hh':=heap (c.β q) rfl
  refine ⟨⟨⟨vs,t,?_,hs,λi u hu=>(hv i u hu).ext hext λr hr=>h.closed q _ hq r (by simpa [AO.keys] using aR hu r hr)⟩,h1⟩,?_,hf.trans hfr⟩
  ·rw [hβ,hh'.1];exact hh
  ·intro o ho;rw [hβ] at ho;exact hI o (hh'.2 o ho)
 | arr sz n get=>
  obtain ⟨⟨⟨vs,t,hh,hs,hv⟩,hl',h1⟩,hI,hfr⟩:=hr
  have hh':=heap (c.β q) rfl
  refine ⟨⟨⟨vs,t,?_,hs,λj i u hj hu=>(hv j i u hj hu).ext hext λr hr=>?_⟩,hl',h1⟩,?_,hf.trans hfr⟩
  ·rw [hβ,hh'.1];exact hh
  ·rw [aM (hl' j hj).2 hu] at hr;simp at hr
  ·intro o ho;rw [hβ] at ho;exact hI o (hh'.2 o ho)
 | frz sz n get=>
  obtain ⟨⟨⟨vs,t,hh,hs,hv⟩,hl',h1⟩,hI,hfr⟩:=hr
  have hh':=heap (c.β q) rfl
  refine ⟨⟨⟨vs,t,?_,hs,λj i u hj hu=>(hv j i u hj hu).ext hext λr hr=>?_⟩,hl',h1⟩,?_,hf.trans hfr⟩
  ·rw [hβ,hh'.1];exact hh
  ·rw [aM (hl' j hj).2 hu] at hr;simp at hr
  ·intro o ho;rw [hβ];exact hext.I _ _ (hI o ho)
 | own sz n=>
  obtain ⟨h0,hfr,hm⟩:=hr
  refine ⟨h0,hf.trans hfr,?_⟩
  rw [hκ]
  cases hc:c.κ q with
  | none=>simpa [hc] using hm
  | some p=>
   obtain ⟨ad,cap⟩:=p
   simp only [hc] at hm ⊢
   obtain ⟨h1,h2,h3⟩:=hm
   refine ⟨h1,h2,λhlt=>?_⟩
   obtain ⟨⟨vs,t,hh,hs⟩,hoff,hfree⟩:=h3 hlt
   have hh':=heap ad.block (by simp [excl,hc,hlt])
   exact ⟨⟨vs,t,hh'.1.trans hh,hs⟩,hoff,λo ho hi=>hfree o ho (hh'.2 o hi)⟩
 | grw sq sz n get=>
  obtain ⟨h0,hfr,hm⟩:=hr
  refine ⟨h0,hf.trans hfr,?_⟩
  rw [hκ]
  cases hc:c.κ q with
  | none=>simpa [hc] using hm
  | some p=>
   obtain ⟨a,cap⟩:=p
   simp only [hc] at hm ⊢
   obtain ⟨h2,h3⟩:=hm
   refine ⟨h2,λhlt=>?_⟩
   obtain ⟨⟨vs,t,hh,hs,hv⟩,had,hl',h1,hfree⟩:=h3 hlt
   have hh':=heap a.block (by simp [excl,hc,hlt])
   exact ⟨⟨vs,t,hh'.1.trans hh,hs,λj i u hj hu=>(hv j i u hj hu).ext hext λr hr=>by rw [aM (hl' j hj).2 hu] at hr;simp at hr⟩,had,hl',h1,λo ho hi=>hfree o ho (hh'.2 o hi)⟩
 | iter s p=>
  obtain ⟨hh,hI,hfr⟩:=hr
  have hh':=heap (c.β q) rfl
  exact ⟨by rw [hβ,hh'.1];exact hh,λo ho=>by rw [hβ] at ho;exact hI o (hh'.2 o ho),hf.trans hfr⟩
 | mp ka ks dom get=>
  obtain ⟨⟨⟨es,clock,ms,hh,h1,h2,h3,h4⟩,hp⟩,hI,hfr⟩:=hr
  have hh':=heap (c.β q) rfl
  refine ⟨⟨⟨es,clock,ms,by rw [hβ,hh'.1];exact hh,h1,λm hm=>?_,h3,h4⟩,hp⟩,λo ho=>by rw [hβ] at ho;exact hI o (hh'.2 o ho),hf.trans hfr⟩
  obtain ⟨e1,e2,e3⟩:=h2 m hm
  exact ⟨e1,e2,e3.ext hext λr hr=>by rw [hp _ e1 e2] at hr;simp at hr⟩
 | mat sz n g o=>
  obtain ⟨⟨⟨vs,t,hh,hs,h1,h2,h3⟩,h0⟩,hI,hfr⟩:=hr
  have hh':=heap (c.β q) (.inl rfl)
  refine ⟨⟨⟨vs,t,by rw [hβ,hh'.1];exact hh,hs,λi hi=>(h1 i hi).ext hext λr hr=>by simp [AV.keys] at hr,λi hi hn a l cap hv hl=>?_,h3⟩,h0⟩,λo ho=>by rw [hβ] at ho;exact hI o (hh'.2 o ho),hf.trans hfr⟩
  obtain ⟨⟨⟨vs',t',g1,g2⟩,g3,g4⟩,g5⟩:=h2 i hi hn a l cap hv hl
  have hb:=heap a.block (.inr ⟨vs,t,i,a,l,cap,hh,hi,hn,hv,hl,rfl⟩)
  exact ⟨⟨⟨vs',t',hb.1.trans g1,g2⟩,g3,λo ho hi'=>g4 o ho (hb.2 o hi')⟩,by rw [hβ];exact g5⟩
 | gone=>trivial
theorem idx_eq {ks:List Nat} (hn:ks.Nodup) {i k:Nat} (h:ks[i]?=some k) (d:Nat):idxOf ks k d=i:=by
 have h2:=bP (ks:=ks) d (List.mem_of_getElem? h)
 have hi:=(List.getElem?_eq_some_iff.1 h).1
 have hj:=(List.getElem?_eq_some_iff.1 h2).1
 exact (List.getElem?_inj hj hn).1 (h2.trans h.symm)
theorem nR (h:Rel B c s a) {f:FuncId} {ks:List Nat} (hn:ks.Nodup) {os os':List AO} (hos:cG s.objs ks=some os) (hcl:∀q∈bM s.objs ks,q∈ks)
  {l:List AV} {xs:List Value} (hl:dg B c s l xs) (hlk:∀q∈au l,q∈ks) {r:AV}
  (hok:lA P B.G f (lC (λk=>ae+idxOf ks k 0) l) (os.map (AO.ren λk=>ae+idxOf ks k 0)) r os') (hlen:os'.length=ks.length) :
  Calls P f xs.toArray c.w λe w'=>∃c2 x,e=.returned x/\c2.w=w'/\Rel B c2 (s.with (bJ s.objs ks (os'.map (AO.ren λk=>eP ks (k - ae))))) a /\
   Sees B c2 (s.with (bJ s.objs ks (os'.map (AO.ren λk=>eP ks (k - ae))))) (r.ren λk=>eP ks (k - ae)) x:=by
 obtain ⟨hol,hoo⟩:=ft hos
 let fwd:=λk=>ae+idxOf ks k 0
 let bwd:=λk=>eP ks (k - ae)
 have hfb:∀k∈ks,bwd (fwd k)=k:=λk hk=>by
  show eP ks (ae+idxOf ks k 0 - ae)=k
  rw [Nat.add_sub_cancel_left];exact cE (bP 0 hk)
 have hbf:∀i k,ks[i]?=some k->bwd (ae+i)=k/\fwd k=ae+i:=λi k hk=>
  ⟨by show eP ks (ae+i - ae)=k;rw [Nat.add_sub_cancel_left];exact cE hk,by show ae+idxOf ks k 0=_;rw [idx_eq hn hk]⟩
 let c0:Cx:={w:=c.w,I:=c.I,β:=λq=>c.β (bwd q),κ:=λq=>c.κ (bwd q),fr:=λq=>c.fr (bwd q)}
 have hβ0:∀k∈ks,c0.β (fwd k)=c.β k:=λk hk=>by show c.β (bwd (fwd k))=_;rw [hfb k hk]
 have hκ0:∀k∈ks,c0.κ (fwd k)=c.κ k:=λk hk=>by show c.κ (bwd (fwd k))=_;rw [hfb k hk]
 have hf0:∀k∈ks,c0.fr (fwd k)=c.fr k:=λk hk=>by show c.fr (bwd (fwd k))=_;rw [hfb k hk]
 have hown0:∀k∈ks,∀n y,aG c (.key k) n y->aG c0 (.key (fwd k)) n y:=λk hk n y=>by simp only [aG,hκ0 k hk,hf0 k hk];exact id
 have hfwd:∀k∈ks,c0.β (fwd k)=c.β k/\∀n y,aG c (.key k) n y->aG c0 (.key (fwd k)) n y:=λk hk=>⟨hβ0 k hk,hown0 k hk⟩
 have hlook:∀q o,alook (af (os.map (AO.ren fwd)) ae) q=some o->∃k o0,k∈ks/\q=fwd k/\alook s.objs k=some o0/\o=o0.ren fwd:=by
  intro q o hq
  rw [bV] at hq
  by_cases hb:ae<=q
  ·rw [if_pos hb,List.getElem?_map] at hq
   cases hi:os[q - ae]? with
   | none=>simp [hi] at hq
   | some o0=>
    simp [hi] at hq;subst hq
    have hlt:=(List.getElem?_eq_some_iff.1 hi).1
    have hk:ks[q - ae]?=some (ks[q - ae]'(by omega)):=List.getElem?_eq_getElem _
    refine ⟨_,o0,List.mem_of_getElem? hk,?_,by rw [(hoo _ _ hk).1,hi],rfl⟩
    rw [(hbf _ _ hk).2];omega
  ·rw [if_neg hb] at hq;simp at hq
 have hlook':∀k∈ks,∃o0,alook s.objs k=some o0/\alook (af (os.map (AO.ren fwd)) ae) (fwd k)=some (o0.ren fwd):=by
  intro k hk
  have hi:=bP 0 hk
  obtain ⟨h1,o0,h2⟩:=hoo _ _ hi
  refine ⟨o0,h2,?_⟩
  rw [bV,if_pos (Nat.le_add_right _ _)]
  show (os.map (AO.ren fwd))[ae+idxOf ks k 0 - ae]?=_
  rw [Nat.add_sub_cancel_left,List.getElem?_map,<-h1,h2];rfl
 have hO0:Objs c0 (af (os.map (AO.ren fwd)) ae):=by
  refine ⟨λq o hq=>?_,λq o q' o' b hq hq' hne hb=>?_,λq o hq r hr=>?_⟩
  ·obtain ⟨k,o0,hk,rfl,h1,rfl⟩:=hlook q o hq
   exact (h.objs.rep k o0 h1).ren rfl rfl (hβ0 k hk) (hκ0 k hk) (hf0 k hk) λq hq=>hfwd q (hcl q (dd hk h1 q hq))
  ·obtain ⟨k,o0,hk,rfl,h1,rfl⟩:=hlook q o hq
   obtain ⟨k',o0',hk',rfl,h1',rfl⟩:=hlook q' o' hq'
   rw [dV (hβ0 k hk) (hκ0 k hk)] at hb
   rw [dV (hβ0 k' hk') (hκ0 k' hk')]
   exact h.objs.apart k o0 k' o0' b h1 h1' (λe=>hne (by rw [e])) hb
  ·obtain ⟨k,o0,hk,rfl,h1,rfl⟩:=hlook q o hq
   obtain ⟨q',hq',rfl⟩:=AO.dT _ _ r hr
   obtain ⟨_,_,e⟩:=hlook' q' (hcl q' (dd hk h1 q' hq'))
   exact ⟨_,e⟩
 have hG0:Good B.G c0:=⟨h.good.there,λg cs hg=>(h.good.globs g cs hg).ext (ks:=λ_=>False) ⟨λ_ _ _ _ hv=>hv,λ_ _ hi=>hi,λ_ hk=>hk.elim,λ_ hk=>hk.elim,λ_ _ _ _ hv _=>hv⟩ (by simp [AV.keys])⟩
 have hcall:=hok
 have hfn:=hl.fn
 refine (hcall c0 xs.toArray hG0 hO0 (by rw [dZ];exact hfn.1) (λi u hu=>?_) (λk hk=>?_)).mono ?_
 ·rw [eX] at hu
  cases hi:l[i]? with
  | none=>simp [hi] at hu
  | some u'=>simp [hi] at hu;subst hu;exact Rep.ren (c:=c) (c':=c0) (m:=fwd) (λ_ _ _ _ hv=>hv) (λ_ _ hi=>hi) (λ_ _ _ _ hv _=>hv) (hfn.2.1 i u' hi) λq hq=>hfwd q (hlk q (aR hi q hq))
 ·obtain ⟨q,hq,rfl⟩:=fj _ _ k hk
  obtain ⟨_,_,e⟩:=hlook' q (hlk q hq)
  exact ⟨_,e⟩
 rintro e w' ⟨c',x,he,hw',hG',hF',hO',hr',hrk,hmine⟩
 have hheld:∀b,held c0 (af (os.map (AO.ren fwd)) ae) b->∃k o,k∈ks/\alook s.objs k=some o/\excl c k o b:=by
  rintro b ⟨q,o,hq,hb⟩
  obtain ⟨k,o0,hk,rfl,h1,rfl⟩:=hlook q o hq
  exact ⟨k,o0,hk,h1,by rw [<-dV (hβ0 k hk) (hκ0 k hk)];exact hb⟩
 have hK:∀k∈ks,live (af (os.map (AO.ren fwd)) ae) (fwd k):=λk hk=>by obtain ⟨_,_,e⟩:=hlook' k hk;exact ⟨_,e⟩
 have hlow:∀b,b < B.c0.w.heap.size->¬ B.D b->b < c0.w.heap.size/\¬ held c0 (af (os.map (AO.ren fwd)) ae) b:=by
  intro b hb hd
  refine ⟨Nat.lt_of_lt_of_le hb h.frame.size,λhh=>?_⟩
  obtain ⟨k,o,_,h1,h2⟩:=hheld b hh
  rcases h.mine k o b h1 h2 with h3 | h3
  ·omega
  ·exact hd h3
 classical
 let c2:Cx:={w:=c'.w,I:=c'.I,β:=c.β,κ:=λq=>if q∈ks then c'.κ (fwd q) else c.κ q,fr:=λq=>if q∈ks then c'.fr (fwd q) else c.fr q}
 have hκ2:∀k∈ks,c2.κ k=c'.κ (fwd k):=λk hk=>if_pos hk
 have hf2:∀k∈ks,c2.fr k=c'.fr (fwd k):=λk hk=>if_pos hk
 have hκn:∀k,k ∉ ks->c2.κ k=c.κ k:=λk hk=>if_neg hk
 have hfn2:∀k,k ∉ ks->c2.fr k=c.fr k:=λk hk=>if_neg hk
 have hβ2:∀k∈ks,c2.β k=c'.β (fwd k):=λk hk=>by rw [hF'.ext.β (fwd k) (hK k hk)];exact (hβ0 k hk).symm
 have hown2:∀k∈ks,∀n y,aG c' (.key (fwd k)) n y->aG c2 (.key k) n y:=λk hk n y=>by simp only [aG,hκ2 k hk,hf2 k hk];exact id
 have hext:∀ks':Nat->Prop,Ext c c2 ks':=λks'=>by
  refine ⟨hF'.ext.cell,hF'.ext.I,λ_ _=>rfl,λk _ n y hy=>?_,hF'.ext.map⟩
  by_cases hk:k∈ks
  ·exact hown2 k hk n y (hF'.ext.own (fwd k) (hK k hk) n y (hown0 k hk n y hy))
  ·simp only [aG,hκn k hk,hfn2 k hk];exact hy
 have hgrow:Grow B c c2:=⟨hF'.os,hF'.output,hF'.tape,hF'.size,λb hb hd=>hF'.block b (hlow b hb hd).1 (hlow b hb hd).2,
  λb o hb hd hi=>hF'.new b o (hlow b hb hd).1 (hlow b hb hd).2 hi,hG'.there⟩
 have hput:∀k,alook (bJ s.objs ks (os'.map (AO.ren bwd))) k=if k∈ks then (os'.map (AO.ren bwd))[idxOf ks k 0]? else alook s.objs k:=bU hn (by simp [hlen])
 have hin:∀k∈ks,∃o',alook (af os' ae) (fwd k)=some o'/\alook (bJ s.objs ks (os'.map (AO.ren bwd))) k=some (o'.ren bwd):=by
  intro k hk
  have hi:=bP 0 hk
  have hlt:=(List.getElem?_eq_some_iff.1 hi).1
  have ho:os'[idxOf ks k 0]?=some (os'[idxOf ks k 0]'(by omega)):=List.getElem?_eq_getElem _
  refine ⟨os'[idxOf ks k 0]'(by omega),?_,?_⟩
  ·rw [bV,if_pos (Nat.le_add_right _ _)]
   show os'[ae+idxOf ks k 0 - ae]?=_
   rw [Nat.add_sub_cancel_left];exact ho
  ·rw [hput,if_pos hk,List.getElem?_map,ho];rfl
 have hback:∀q,live (af os' ae) q->bwd q∈ks/\fwd (bwd q)=q:=by
  rintro q ⟨o,hq⟩
  rw [bV] at hq
  by_cases hb:ae<=q
  ·rw [if_pos hb] at hq
   have hlt:=(List.getElem?_eq_some_iff.1 hq).1
   have hk:ks[q - ae]?=some (ks[q - ae]'(by omega)):=List.getElem?_eq_getElem _
   have:=hbf _ _ hk
   rw [Nat.add_sub_cancel' hb] at this
   rw [this.1]
   exact ⟨List.mem_of_getElem? hk,this.2⟩
  ·rw [if_neg hb] at hq;simp at hq
 have hbwd:∀q,live (af os' ae) q->c2.β (bwd q)=c'.β q/\∀n y,aG c' (.key q) n y->aG c2 (.key (bwd q)) n y:=by
  intro q hq
  obtain ⟨h1,h2⟩:=hback q hq
  refine ⟨by rw [hβ2 _ h1,h2],λn y hy=>hown2 _ h1 n y (by rw [h2];exact hy)⟩
 have hlive:∀k,live s.objs k->live (bJ s.objs ks (os'.map (AO.ren bwd))) k:=by
  rintro k ⟨o,ho⟩
  by_cases hk:k∈ks
  ·obtain ⟨_,_,e⟩:=hin k hk;exact ⟨_,e⟩
  ·exact ⟨o,by rw [hput,if_neg hk];exact ho⟩
 have hheap:∀k o,k ∉ ks->alook s.objs k=some o->∀b,excl c k o b->c'.w.heap[b]?=c.w.heap[b]?:=λk o hk e1 b hb=>by
  have hlt:=cq (h.objs.rep k o e1) hb
  have hnh:¬ held c0 (af (os.map (AO.ren fwd)) ae) b:=λhh=>by
   obtain ⟨k'',o'',h4,h5,h6⟩:=hheld b hh
   exact h.objs.apart k'' o'' k o b h5 e1 (λe=>hk (e ▸ h4)) h6 hb
  exact hF'.block b hlt hnh
 have hcases:∀k o,alook (bJ s.objs ks (os'.map (AO.ren bwd))) k=some o->(k∈ks/\∃o',alook (af os' ae) (fwd k)=some o'/\o=o'.ren bwd/\excl c2 k o=excl c' (fwd k) o')∨(k ∉ ks/\alook s.objs k=some o/\excl c2 k o=excl c k o):=by
  intro k o ho
  by_cases hk:k∈ks
  ·obtain ⟨o',e1,e2⟩:=hin k hk
   rw [e2] at ho;cases ho
   exact .inl ⟨hk,o',e1,rfl,dV (hβ2 k hk) (hκ2 k hk)⟩
  ·rw [hput,if_neg hk] at ho
   exact .inr ⟨hk,ho,cW rfl (hκn k hk) (hheap k o hk ho)⟩
 have hout:∀k k' o' o b,k∈ks->alook (af os' ae) (fwd k)=some o'->k' ∉ ks->alook s.objs k'=some o->excl c' (fwd k) o' b->¬ excl c k' o b:=by
  intro k k' o' o b hk h1 hk' h2 hb hb'
  rcases hmine _ _ b h1 hb with h3 | h3
  ·have:=cq (h.objs.rep k' o h2) hb'
   have:c0.w.heap.size=c.w.heap.size:=rfl
   omega
  ·obtain ⟨k'',o'',h4,h5,h6⟩:=hheld b h3
   exact h.objs.apart k'' o'' k' o b h5 h2 (λe=>hk' (e ▸ h4)) h6 hb'
 have hO2:Objs c2 (bJ s.objs ks (os'.map (AO.ren bwd))):=by
  refine ⟨λk o ho=>?_,λk o k' o' b ho ho' hne hb=>?_,λk o ho q hq=>?_⟩
  ·rcases hcases k o ho with ⟨hk,o',e1,rfl,_⟩ | ⟨hk,e1,_⟩
   ·exact (hO'.rep _ o' e1).ren rfl rfl (hβ2 k hk) (hκ2 k hk) (hf2 k hk) λq hq=>hbwd q (hO'.closed _ o' e1 q hq)
   ·refine h.objs.qA (hext _) e1 rfl (hκn k hk) (hfn2 k hk) λb hb=>?_
    have hlt:=cq (h.objs.rep k o e1) hb
    have hnh:¬ held c0 (af (os.map (AO.ren fwd)) ae) b:=λhh=>by
     obtain ⟨k'',o'',h4,h5,h6⟩:=hheld b hh
     exact h.objs.apart k'' o'' k o b h5 e1 (λe=>hk (e ▸ h4)) h6 hb
    exact ⟨hF'.block b hlt hnh,λoff hi=>hF'.new b off hlt hnh hi⟩
  ·rcases hcases k o ho with ⟨hk,o1,e1,rfl,e2⟩ | ⟨hk,e1,e2⟩ <;> rcases hcases k' o' ho' with ⟨hk',o1',e1',rfl,e2'⟩ | ⟨hk',e1',e2'⟩
   ·rw [e2'] ;rw [e2] at hb
    exact hO'.apart _ _ _ _ b e1 e1' (λe=>hne (by rw [<-hfb k hk,e,hfb k' hk'])) hb
   ·rw [e2'];rw [e2] at hb
    exact hout k k' o1 o' b hk e1 hk' e1' hb
   ·rw [e2'];rw [e2] at hb
    exact λhb'=>hout k' k o1' o b hk' e1' hk e1 hb' hb
   ·rw [e2'];rw [e2] at hb
    exact h.objs.apart k o k' o' b e1 e1' hne hb
  ·rcases hcases k o ho with ⟨hk,o',e1,rfl,_⟩ | ⟨hk,e1,_⟩
   ·obtain ⟨q',hq',rfl⟩:=AO.dT _ _ q hq
    obtain ⟨_,_,e⟩:=hin _ (hback q' (hO'.closed _ o' e1 q' hq')).1
    exact ⟨_,e⟩
   ·exact hlive q (h.objs.closed k o e1 q hq)
 refine ⟨c2,x,he,hw',⟨h.good.grow (hext (live s.objs)) hgrow,h.frame.grow (hext (live s.objs)) hgrow h.kept,hO2,λt v hv=>(h.env t v hv).ext (hext (live s.objs)) (h.closed t v hv),
  λt v hv k hk=>hlive k (h.closed t v hv k hk),λk o b ho hb=>?_,h.tmps,h.defers.ext (hext (live s.objs)),λk hk=>hlive k (h.kept k hk)⟩,⟨?_,?_,?_⟩⟩
 ·rcases hcases k o ho with ⟨hk,o',e1,rfl,e2⟩ | ⟨hk,e1,e2⟩
  ·rw [e2] at hb
   rcases hmine _ _ b e1 hb with h3 | h3
   ·exact .inl (Nat.le_trans h.frame.size h3)
   ·obtain ⟨k'',o'',h4,h5,h6⟩:=hheld b h3
    exact h.mine k'' o'' b h5 h6
  ·rw [e2] at hb;exact h.mine k o b e1 hb
 ·exact Rep.ren (c:=c') (c':=c2) (m:=bwd) (λ_ _ _ _ hv=>hv) (λ_ _ hi=>hi) (λ_ _ _ _ hv _=>hv) hr' λq hq=>hbwd q (hrk q hq)
 ·intro k hk
  obtain ⟨q,hq,rfl⟩:=dT _ _ k hk
  obtain ⟨_,_,e⟩:=hin _ (hback q (hrk q hq)).1
  exact ⟨_,e⟩
 ·cases hr' with
  | slNil o=>cases o <;> rfl
  | sl o=>cases o <;> rfl
  | _=>rfl
end Go.Ab

namespace Go.Ab
open Go Go.RowKit
variable {P:Program} {B:Base} {c:Cx} {s:St} {a:Act}
theorem zK (h:Rel B c s a) {f:FuncId} {ks:List Nat} (hn:ks.Nodup) {os os':List AO} (hos:cG s.objs ks=some os) (hcl:∀q∈bM s.objs ks,q∈ks)
  {l:List AV} {xs:List Value} (hl:dg B c s l xs) (hlk:∀q∈au l,q∈ks) {r:AV}
  (hok:lA P B.G f (lC (λk=>ae+idxOf ks k 0) l) (os.map (AO.ren λk=>ae+idxOf ks k 0)) r os') {ds:List Nat} (hnds:ds.Nodup) (hd:∀d∈ds,alook s.objs d=none) (hlen:os'.length=ks.length+ds.length) :
  Calls P f xs.toArray c.w λe w'=>∃c2 x,e=.returned x/\c2.w=w'/\Rel B c2 (s.with (bJ s.objs (ks++ds) (os'.map (AO.ren λk=>eP (ks++ds) (k - ae))))) a /\
   Sees B c2 (s.with (bJ s.objs (ks++ds) (os'.map (AO.ren λk=>eP (ks++ds) (k - ae))))) (r.ren λk=>eP (ks++ds) (k - ae)) x:=by
 obtain ⟨hol,hoo⟩:=ft hos
 let fwd:=λk=>ae+idxOf ks k 0
 let bwd:=λk=>eP ks (k - ae)
 have hfb:∀k∈ks,bwd (fwd k)=k:=λk hk=>by
  show eP ks (ae+idxOf ks k 0 - ae)=k
  rw [Nat.add_sub_cancel_left];exact cE (bP 0 hk)
 have hbf:∀i k,ks[i]?=some k->bwd (ae+i)=k/\fwd k=ae+i:=λi k hk=>
  ⟨by show eP ks (ae+i - ae)=k;rw [Nat.add_sub_cancel_left];exact cE hk,by show ae+idxOf ks k 0=_;rw [idx_eq hn hk]⟩
 let c0:Cx:={w:=c.w,I:=c.I,β:=λq=>c.β (bwd q),κ:=λq=>c.κ (bwd q),fr:=λq=>c.fr (bwd q)}
 have hβ0:∀k∈ks,c0.β (fwd k)=c.β k:=λk hk=>by show c.β (bwd (fwd k))=_;rw [hfb k hk]
 have hκ0:∀k∈ks,c0.κ (fwd k)=c.κ k:=λk hk=>by show c.κ (bwd (fwd k))=_;rw [hfb k hk]
 have hf0:∀k∈ks,c0.fr (fwd k)=c.fr k:=λk hk=>by show c.fr (bwd (fwd k))=_;rw [hfb k hk]
 have hown0:∀k∈ks,∀n y,aG c (.key k) n y->aG c0 (.key (fwd k)) n y:=λk hk n y=>by simp only [aG,hκ0 k hk,hf0 k hk];exact id
 have hfwd:∀k∈ks,c0.β (fwd k)=c.β k/\∀n y,aG c (.key k) n y->aG c0 (.key (fwd k)) n y:=λk hk=>⟨hβ0 k hk,hown0 k hk⟩
 have hlook:∀q o,alook (af (os.map (AO.ren fwd)) ae) q=some o->∃k o0,k∈ks/\q=fwd k/\alook s.objs k=some o0/\o=o0.ren fwd:=by
  intro q o hq
  rw [bV] at hq
  by_cases hb:ae<=q
  ·rw [if_pos hb,List.getElem?_map] at hq
   cases hi:os[q - ae]? with
   | none=>simp [hi] at hq
   | some o0=>
    simp [hi] at hq;subst hq
    have hlt:=(List.getElem?_eq_some_iff.1 hi).1
    have hk:ks[q - ae]?=some (ks[q - ae]'(by omega)):=List.getElem?_eq_getElem _
    refine ⟨_,o0,List.mem_of_getElem? hk,?_,by rw [(hoo _ _ hk).1,hi],rfl⟩
    rw [(hbf _ _ hk).2];omega
  ·rw [if_neg hb] at hq;simp at hq
 have hlook':∀k∈ks,∃o0,alook s.objs k=some o0/\alook (af (os.map (AO.ren fwd)) ae) (fwd k)=some (o0.ren fwd):=by
  intro k hk
  have hi:=bP 0 hk
  obtain ⟨h1,o0,h2⟩:=hoo _ _ hi
  refine ⟨o0,h2,?_⟩
  rw [bV,if_pos (Nat.le_add_right _ _)]
  show (os.map (AO.ren fwd))[ae+idxOf ks k 0 - ae]?=_
  rw [Nat.add_sub_cancel_left,List.getElem?_map,<-h1,h2];rfl
 have hO0:Objs c0 (af (os.map (AO.ren fwd)) ae):=by
  refine ⟨λq o hq=>?_,λq o q' o' b hq hq' hne hb=>?_,λq o hq r hr=>?_⟩
  ·obtain ⟨k,o0,hk,rfl,h1,rfl⟩:=hlook q o hq
   exact (h.objs.rep k o0 h1).ren rfl rfl (hβ0 k hk) (hκ0 k hk) (hf0 k hk) λq hq=>hfwd q (hcl q (dd hk h1 q hq))
  ·obtain ⟨k,o0,hk,rfl,h1,rfl⟩:=hlook q o hq
   obtain ⟨k',o0',hk',rfl,h1',rfl⟩:=hlook q' o' hq'
   rw [dV (hβ0 k hk) (hκ0 k hk)] at hb
   rw [dV (hβ0 k' hk') (hκ0 k' hk')]
   exact h.objs.apart k o0 k' o0' b h1 h1' (λe=>hne (by rw [e])) hb
  ·obtain ⟨k,o0,hk,rfl,h1,rfl⟩:=hlook q o hq
   obtain ⟨q',hq',rfl⟩:=AO.dT _ _ r hr
   obtain ⟨_,_,e⟩:=hlook' q' (hcl q' (dd hk h1 q' hq'))
   exact ⟨_,e⟩
 have hG0:Good B.G c0:=⟨h.good.there,λg cs hg=>(h.good.globs g cs hg).ext (ks:=λ_=>False) ⟨λ_ _ _ _ hv=>hv,λ_ _ hi=>hi,λ_ hk=>hk.elim,λ_ hk=>hk.elim,λ_ _ _ _ hv _=>hv⟩ (by simp [AV.keys])⟩
 have hcall:=hok
 have hfn:=hl.fn
 refine (hcall c0 xs.toArray hG0 hO0 (by rw [dZ];exact hfn.1) (λi u hu=>?_) (λk hk=>?_)).mono ?_
 ·rw [eX] at hu
  cases hi:l[i]? with
  | none=>simp [hi] at hu
  | some u'=>simp [hi] at hu;subst hu;exact Rep.ren (c:=c) (c':=c0) (m:=fwd) (λ_ _ _ _ hv=>hv) (λ_ _ hi=>hi) (λ_ _ _ _ hv _=>hv) (hfn.2.1 i u' hi) λq hq=>hfwd q (hlk q (aR hi q hq))
 ·obtain ⟨q,hq,rfl⟩:=fj _ _ k hk
  obtain ⟨_,_,e⟩:=hlook' q (hlk q hq)
  exact ⟨_,e⟩
 rintro e w' ⟨c',x,he,hw',hG',hF',hO',hr',hrk,hmine⟩
 have hheld:∀b,held c0 (af (os.map (AO.ren fwd)) ae) b->∃k o,k∈ks/\alook s.objs k=some o/\excl c k o b:=by
  rintro b ⟨q,o,hq,hb⟩
  obtain ⟨k,o0,hk,rfl,h1,rfl⟩:=hlook q o hq
  exact ⟨k,o0,hk,h1,by rw [<-dV (hβ0 k hk) (hκ0 k hk)];exact hb⟩
 have hK:∀k∈ks,live (af (os.map (AO.ren fwd)) ae) (fwd k):=λk hk=>by obtain ⟨_,_,e⟩:=hlook' k hk;exact ⟨_,e⟩
 have hlow:∀b,b < B.c0.w.heap.size->¬ B.D b->b < c0.w.heap.size/\¬ held c0 (af (os.map (AO.ren fwd)) ae) b:=by
  intro b hb hd
  refine ⟨Nat.lt_of_lt_of_le hb h.frame.size,λhh=>?_⟩
  obtain ⟨k,o,_,h1,h2⟩:=hheld b hh
  rcases h.mine k o b h1 h2 with h3 | h3
  ·omega
  ·exact hd h3
 have hdk:∀d∈ds,d ∉ ks:=λd hdd hk=>by
  obtain ⟨_,o,e⟩:=hoo _ _ (bP 0 hk)
  rw [hd d hdd] at e;cases e
 let kt:=ks++ds
 have hnt:kt.Nodup:=List.nodup_append.2 ⟨hn,hnds,λx hx y hy=>λe=>hdk y hy (e ▸ hx)⟩
 let fwd2:=λk=>ae+idxOf kt k 0
 let bwd2:=λk=>eP kt (k - ae)
 have hfb2:∀k∈kt,bwd2 (fwd2 k)=k:=λk hk=>by
  show eP kt (ae+idxOf kt k 0 - ae)=k
  rw [Nat.add_sub_cancel_left];exact cE (bP 0 hk)
 have hbf2:∀i k,kt[i]?=some k->bwd2 (ae+i)=k/\fwd2 k=ae+i:=λi k hk=>
  ⟨by show eP kt (ae+i - ae)=k;rw [Nat.add_sub_cancel_left];exact cE hk,by show ae+idxOf kt k 0=_;rw [idx_eq hnt hk]⟩
 have hff:∀k∈ks,fwd2 k=fwd k:=λk hk=>by
  have h1:=bP 0 hk
  have h2:kt[idxOf ks k 0]?=some k:=by
   have:=(List.getElem?_eq_some_iff.1 h1).1
   show (ks++ds)[idxOf ks k 0]?=some k
   rw [List.getElem?_append_left this];exact h1
  show ae+idxOf kt k 0=ae+idxOf ks k 0
  rw [idx_eq hnt h2]
 have hkt:∀k,k∈kt->k ∉ ds->k∈ks:=λk hk hne=>by
  rcases List.mem_append.1 hk with h | h
  ·exact h
  ·exact absurd h hne
 have hlt2:kt.length=ks.length+ds.length:=by show (ks++ds).length=_;simp
 have hnd:∀k,k ∉ kt->k ∉ ds:=λk hk e=>hk (List.mem_append.2 (.inr e))
 have hnk:∀k,k ∉ kt->k ∉ ks:=λk hk h=>hk (List.mem_append.2 (.inl h))
 classical
 let c2:Cx:={w:=c'.w,I:=c'.I,β:=λq=>if q∈ds then c'.β (fwd2 q) else c.β q,κ:=λq=>if q∈kt then c'.κ (fwd2 q) else c.κ q,fr:=λq=>if q∈kt then c'.fr (fwd2 q) else c.fr q}
 have hκ2:∀k∈kt,c2.κ k=c'.κ (fwd2 k):=λk hk=>if_pos hk
 have hf2:∀k∈kt,c2.fr k=c'.fr (fwd2 k):=λk hk=>if_pos hk
 have hκn:∀k,k ∉ kt->c2.κ k=c.κ k:=λk hk=>if_neg hk
 have hfn2:∀k,k ∉ kt->c2.fr k=c.fr k:=λk hk=>if_neg hk
 have hβn:∀k,k ∉ ds->c2.β k=c.β k:=λk hk=>if_neg hk
 have hβ2:∀k∈kt,c2.β k=c'.β (fwd2 k):=λk hk=>by
  by_cases e:k∈ds
  ·exact if_pos e
  ·have hk':=hkt k hk e
   rw [hβn k e,hff k hk',hF'.ext.β (fwd k) (hK k hk')];exact (hβ0 k hk').symm
 have hown2:∀k∈kt,∀n y,aG c' (.key (fwd2 k)) n y->aG c2 (.key k) n y:=λk hk n y=>by simp only [aG,hκ2 k hk,hf2 k hk];exact id
 have hext:Ext c c2 (live s.objs):=by
  refine ⟨hF'.ext.cell,hF'.ext.I,λk hk=>hβn k (λe=>by obtain ⟨o,ho⟩:=hk;rw [hd k e] at ho;cases ho),λk hl n y hy=>?_,hF'.ext.map⟩
  by_cases hk:k∈kt
  ·have hk':=hkt k hk (λe=>by obtain ⟨o,ho⟩:=hl;rw [hd k e] at ho;cases ho)
   exact hown2 k hk n y (by rw [hff k hk'];exact hF'.ext.own (fwd k) (hK k hk') n y (hown0 k hk' n y hy))
  ·simp only [aG,hκn k hk,hfn2 k hk];exact hy
 have hgrow:Grow B c c2:=⟨hF'.os,hF'.output,hF'.tape,hF'.size,λb hb hd=>hF'.block b (hlow b hb hd).1 (hlow b hb hd).2,
  λb o hb hd hi=>hF'.new b o (hlow b hb hd).1 (hlow b hb hd).2 hi,hG'.there⟩
 have hput:∀k,alook (bJ s.objs kt (os'.map (AO.ren bwd2))) k=if k∈kt then (os'.map (AO.ren bwd2))[idxOf kt k 0]? else alook s.objs k:=bU hnt (by simp [hlen,hlt2])
 have hin:∀k∈kt,∃o',alook (af os' ae) (fwd2 k)=some o'/\alook (bJ s.objs kt (os'.map (AO.ren bwd2))) k=some (o'.ren bwd2):=by
  intro k hk
  have hi:=bP 0 hk
  have hlt:=(List.getElem?_eq_some_iff.1 hi).1
  have ho:os'[idxOf kt k 0]?=some (os'[idxOf kt k 0]'(by omega)):=List.getElem?_eq_getElem _
  refine ⟨os'[idxOf kt k 0]'(by omega),?_,?_⟩
  ·rw [bV,if_pos (Nat.le_add_right _ _)]
   show os'[ae+idxOf kt k 0 - ae]?=_
   rw [Nat.add_sub_cancel_left];exact ho
  ·rw [hput,if_pos hk,List.getElem?_map,ho];rfl
 have hback:∀q,live (af os' ae) q->bwd2 q∈kt/\fwd2 (bwd2 q)=q:=by
  rintro q ⟨o,hq⟩
  rw [bV] at hq
  by_cases hb:ae<=q
  ·rw [if_pos hb] at hq
   have hlt:=(List.getElem?_eq_some_iff.1 hq).1
   have hk:kt[q - ae]?=some (kt[q - ae]'(by omega)):=List.getElem?_eq_getElem _
   have:=hbf2 _ _ hk
   rw [Nat.add_sub_cancel' hb] at this
   rw [this.1]
   exact ⟨List.mem_of_getElem? hk,this.2⟩
  ·rw [if_neg hb] at hq;simp at hq
 have hbwd:∀q,live (af os' ae) q->c2.β (bwd2 q)=c'.β q/\∀n y,aG c' (.key q) n y->aG c2 (.key (bwd2 q)) n y:=by
  intro q hq
  obtain ⟨h1,h2⟩:=hback q hq
  refine ⟨by rw [hβ2 _ h1,h2],λn y hy=>hown2 _ h1 n y (by rw [h2];exact hy)⟩
 have hlive:∀k,live s.objs k->live (bJ s.objs kt (os'.map (AO.ren bwd2))) k:=by
  rintro k ⟨o,ho⟩
  by_cases hk:k∈kt
  ·obtain ⟨_,_,e⟩:=hin k hk;exact ⟨_,e⟩
  ·exact ⟨o,by rw [hput,if_neg hk];exact ho⟩
 have hheap:∀k o,k ∉ kt->alook s.objs k=some o->∀b,excl c k o b->c'.w.heap[b]?=c.w.heap[b]?:=λk o hk e1 b hb=>by
  have hlt:=cq (h.objs.rep k o e1) hb
  have hnh:¬ held c0 (af (os.map (AO.ren fwd)) ae) b:=λhh=>by
   obtain ⟨k'',o'',h4,h5,h6⟩:=hheld b hh
   exact h.objs.apart k'' o'' k o b h5 e1 (λe=>hnk _ hk (e ▸ h4)) h6 hb
  exact hF'.block b hlt hnh
 have hcases:∀k o,alook (bJ s.objs kt (os'.map (AO.ren bwd2))) k=some o->(k∈kt/\∃o',alook (af os' ae) (fwd2 k)=some o'/\o=o'.ren bwd2/\excl c2 k o=excl c' (fwd2 k) o')∨(k ∉ kt/\alook s.objs k=some o/\excl c2 k o=excl c k o):=by
  intro k o ho
  by_cases hk:k∈kt
  ·obtain ⟨o',e1,e2⟩:=hin k hk
   rw [e2] at ho;cases ho
   exact .inl ⟨hk,o',e1,rfl,dV (hβ2 k hk) (hκ2 k hk)⟩
  ·rw [hput,if_neg hk] at ho
   exact .inr ⟨hk,ho,cW (hβn k (hnd k hk)) (hκn k hk) (hheap k o hk ho)⟩
 have hout:∀k k' o' o b,k∈kt->alook (af os' ae) (fwd2 k)=some o'->k' ∉ kt->alook s.objs k'=some o->excl c' (fwd2 k) o' b->¬ excl c k' o b:=by
  intro k k' o' o b hk h1 hk' h2 hb hb'
  rcases hmine _ _ b h1 hb with h3 | h3
  ·have:=cq (h.objs.rep k' o h2) hb'
   have:c0.w.heap.size=c.w.heap.size:=rfl
   omega
  ·obtain ⟨k'',o'',h4,h5,h6⟩:=hheld b h3
   exact h.objs.apart k'' o'' k' o b h5 h2 (λe=>hnk _ hk' (e ▸ h4)) h6 hb'
 have hO2:Objs c2 (bJ s.objs kt (os'.map (AO.ren bwd2))):=by
  refine ⟨λk o ho=>?_,λk o k' o' b ho ho' hne hb=>?_,λk o ho q hq=>?_⟩
  ·rcases hcases k o ho with ⟨hk,o',e1,rfl,_⟩ | ⟨hk,e1,_⟩
   ·exact (hO'.rep _ o' e1).ren rfl rfl (hβ2 k hk) (hκ2 k hk) (hf2 k hk) λq hq=>hbwd q (hO'.closed _ o' e1 q hq)
   ·refine h.objs.qA hext e1 (hβn k (hnd k hk)) (hκn k hk) (hfn2 k hk) λb hb=>?_
    have hlt:=cq (h.objs.rep k o e1) hb
    have hnh:¬ held c0 (af (os.map (AO.ren fwd)) ae) b:=λhh=>by
     obtain ⟨k'',o'',h4,h5,h6⟩:=hheld b hh
     exact h.objs.apart k'' o'' k o b h5 e1 (λe=>hnk _ hk (e ▸ h4)) h6 hb
    exact ⟨hF'.block b hlt hnh,λoff hi=>hF'.new b off hlt hnh hi⟩
  ·rcases hcases k o ho with ⟨hk,o1,e1,rfl,e2⟩ | ⟨hk,e1,e2⟩ <;> rcases hcases k' o' ho' with ⟨hk',o1',e1',rfl,e2'⟩ | ⟨hk',e1',e2'⟩
   ·rw [e2'] ;rw [e2] at hb
    exact hO'.apart _ _ _ _ b e1 e1' (λe=>hne (by rw [<-hfb2 k hk,e,hfb2 k' hk'])) hb
   ·rw [e2'];rw [e2] at hb
    exact hout k k' o1 o' b hk e1 hk' e1' hb
   ·rw [e2'];rw [e2] at hb
    exact λhb'=>hout k' k o1' o b hk' e1' hk e1 hb' hb
   ·rw [e2'];rw [e2] at hb
    exact h.objs.apart k o k' o' b e1 e1' hne hb
  ·rcases hcases k o ho with ⟨hk,o',e1,rfl,_⟩ | ⟨hk,e1,_⟩
   ·obtain ⟨q',hq',rfl⟩:=AO.dT _ _ q hq
    obtain ⟨_,_,e⟩:=hin _ (hback q' (hO'.closed _ o' e1 q' hq')).1
    exact ⟨_,e⟩
   ·exact hlive q (h.objs.closed k o e1 q hq)
 refine ⟨c2,x,he,hw',⟨h.good.grow hext hgrow,h.frame.grow hext hgrow h.kept,hO2,λt v hv=>(h.env t v hv).ext hext (h.closed t v hv),
  λt v hv k hk=>hlive k (h.closed t v hv k hk),λk o b ho hb=>?_,h.tmps,h.defers.ext hext,λk hk=>hlive k (h.kept k hk)⟩,⟨?_,?_,?_⟩⟩
 ·rcases hcases k o ho with ⟨hk,o',e1,rfl,e2⟩ | ⟨hk,e1,e2⟩
  ·rw [e2] at hb
   rcases hmine _ _ b e1 hb with h3 | h3
   ·exact .inl (Nat.le_trans h.frame.size h3)
   ·obtain ⟨k'',o'',h4,h5,h6⟩:=hheld b h3
    exact h.mine k'' o'' b h5 h6
  ·rw [e2] at hb;exact h.mine k o b e1 hb
 ·exact Rep.ren (c:=c') (c':=c2) (m:=bwd2) (λ_ _ _ _ hv=>hv) (λ_ _ hi=>hi) (λ_ _ _ _ hv _=>hv) hr' λq hq=>hbwd q (hrk q hq)
 ·intro k hk
  obtain ⟨q,hq,rfl⟩:=dT _ _ k hk
  obtain ⟨_,_,e⟩:=hin _ (hback q (hrk q hq)).1
  exact ⟨_,e⟩
 ·cases hr' with
  | slNil o=>cases o <;> rfl
  | sl o=>cases o <;> rfl
  | _=>rfl
end Go.Ab

namespace Go.Ab
open Go Go.RowKit
variable {P:Program} {B:Base} {c:Cx} {s:St} {a:Act}
theorem ai {α β:Type} {x:Option α} {f:α->Option β} {r:β} (h:x.bind f=some r):∃y,x=some y/\f y=some r:=by
 cases x with
 | none=>simp at h
 | some y=>exact ⟨y,rfl,h⟩
theorem a8 {α β:Type} {x:Option α} {f:α->β} {r:β} (h:x.map f=some r):∃y,x=some y/\f y=r:=by
 cases x with
 | none=>simp at h
 | some y=>exact ⟨y,rfl,by simpa using h⟩
theorem ay {α:Type} {b:Bool} {x:Option α} {r:α} (h:aq b x=some r):b=true/\x=some r:=by
 cases b with
 | false=>simp [aq] at h
 | true=>exact ⟨rfl,h⟩
theorem sC {t:TypeId} (ht:qp P t=true) {w:World} {ad:Addr} {x:Value} (hx:w.cell? ad=some x):(loadVar t ad).run P w=.ok x w:=by
 unfold qp at ht
 split at ht
 ·rename_i e hu
  unfold loadVar
  rw [Sem.run_bind,fW hu]
  simp [kZ,hx]
 ·cases ht
theorem uf {k sz n i b:Nat} {g:Nat->Nat×(Nat->List AV)} (h:excl c k (.mat sz n g (some i)) b):excl c k (.mat sz n g none) b:=by
 rcases h with h | ⟨vs,t,q,ad,l,cap,h1,h2,_,h4⟩
 ·exact .inl h
 ·exact .inr ⟨vs,t,q,ad,l,cap,h1,h2,by simp,h4⟩
theorem rI (h:Rel B c s a) {d:Nat} {t:TypeId} {x v:AV} {X:Value} {us:List (Nat×AO)} (hx:Rep c x X) (he:p9 P s d t x=some (true,v,us)) :
  ∃y c',(Instr.loadAt t X).run P c.w=.ok y c'.w/\Rel B c' {s with objs:=pc s.objs us} a/\Sees B c' {s with objs:=pc s.objs us} v y:=by
 unfold p9 at he
 split at he
 ·rename_i k sz1 i off
  split at he
  ·rename_i sz n g hk hd
   cases hb:(qp P t&&(Nat.beq sz1 1&&Nat.beq off 0)) with
   | false=>simp [hb] at he
   | true=>
    simp only [hb,cond_true,Option.some.injEq,Prod.mk.injEq] at he
    obtain ⟨hi,rfl,rfl⟩:=he
    have hi:i < n:=Nat.le_of_ble_eq_true hi
    simp only [Bool.and_eq_true] at hb
    obtain ⟨ht,b1,b2⟩:=hb
    have b1:=du b1
    have b2:=du b2
    subst b1 b2
    cases hx
    obtain ⟨⟨⟨vs,tt,hh,hs,hr,hroom,hap⟩,hsz⟩,hI,hfr⟩:=h.objs.rep k _ hk
    have hkd:k≠d:=λe=>by subst e;rw [hk] at hd;cases hd
    have hcell:c.w.cell? ⟨c.β k,i*1+0,none⟩=some (vs.getD i undef):=by
     rw [aY hh]
     simp [Array.getD_eq_getD_getElem?,show i < vs.size by omega]
    have h1:Rel B c (s.setObj k (.mat sz n g (some i))) a:=by
     refine h.obj (k:=k) ((Keeps.refl c s.objs).but k) (Grow.refl h.good) ⟨⟨⟨vs,tt,hh,hs,hr,λj hj _=>hroom j hj (by simp),λi j hi hj hne _ _=>hap i j hi hj hne (by simp) (by simp)⟩,hsz⟩,hI,hfr⟩ (λq o' b hq hne hb e=>?_) (by simp [AO.keys]) (λb hb=>?_)
     ·exact h.objs.apart q o' k _ b hq hk hne hb (uf e)
     ·exact h.mine k _ b hk (uf hb)
    obtain ⟨κ',e1,e2⟩:∃κ',vs.getD i undef=kF κ' (g i).1/\(match κ' with
      | none=>(g i).1=0
      | some (ad,cap)=>(0 < cap->ad.spot=none)/\(g i).1<=cap/\((g i).1 < cap->RoomAt c ad sz (g i).1 cap/\ad.block≠c.β k)):=by
     have hri:=hr i hi
     have hro:=hroom i hi (by simp)
     generalize vs.getD i undef=y at hri hro
     generalize (g i).1=len at hri
     generalize (g i).2=row at hri
     cases hri with
     | slNil=>exact ⟨none,rfl,rfl⟩
     | sl _ _ _ _ ad cap vals g1 g2 g3 g4 g5 g6=>exact ⟨some (ad,cap),rfl,g1,g2,λhlt=>hro ad _ cap rfl hlt⟩
    have hd':alook (s.setObj k (.mat sz n g (some i))).objs d=none:=by
     show alook (aput s.objs k _) d=none
     rw [aV,if_neg hkd];exact hd
    let c':=c.owns c.w c.I d κ' (g i).1
    have hkb:KeepsBut c c' (s.setObj k (.mat sz n g (some i))).objs d:=di (λ_ _ hi=>hi) (λ_ _ _ _ hv=>hv) (λ_ _ _ _ hv _=>hv) (λn' v hl _=>absurd rfl (fA hd' hl)) (λ_ _ _ _ _ _=>⟨rfl,λ_ hi=>hi⟩)
    have hgr:Grow B c c':=⟨rfl,rfl,rfl,Nat.le_refl _,λ_ _ _=>rfl,λ_ _ _ _ hi=>hi,h.good.there⟩
    have hexcl:∀b,excl c' d (.own sz (g i).1) b->excl c k (.mat sz n g none) b/\∃ad cap,vs.getD i undef=.slice (some ad) (g i).1 cap/\(g i).1 < cap/\ad.block=b/\b≠c.β k:=by
     intro b hb
     simp only [excl,c',Cx.owns,if_true] at hb
     cases κ' with
     | none=>exact hb.elim
     | some p=>
      obtain ⟨ad,cap⟩:=p
      obtain ⟨hlt,hb⟩:=hb
      have e3:vs.getD i undef=.slice (some ad) (g i).1 cap:=e1
      exact ⟨.inr ⟨vs,tt,i,ad,_,cap,hh,hi,by simp,e3,hlt,hb⟩,ad,cap,e3,hlt,hb,λe=>(e2.2.2 hlt).2 (hb.trans e)⟩
    refine ⟨vs.getD i undef,c',by rw [ec];exact sC ht hcell,h1.obj (k:=d) (o:=.own sz (g i).1) hkb hgr ⟨hsz,by simp [c',Cx.owns],?_⟩ (λq o' b hq hne hb e=>?_) (by simp [AO.keys]) (λb hb=>h.mine k _ b hk (hexcl b hb).1),⟨?_,λq hq=>?_,rfl⟩⟩
    ·simp only [c',Cx.owns,if_true]
     cases κ' with
     | none=>exact e2
     | some p=>
      obtain ⟨ad,cap⟩:=p
      refine ⟨e2.1,e2.2.1,λhlt=>?_⟩
      obtain ⟨⟨r1,r2,r3⟩,_⟩:=e2.2.2 hlt
      exact ⟨r1,r2,r3⟩
    ·obtain ⟨e3,ad,cap,e4,e5,e6,e7⟩:=hexcl b e
     have hq:alook (aput s.objs k (.mat sz n g (some i))) q=some o':=hq
     rw [aV] at hq
     by_cases hkq:k=q
     ·subst hkq
      simp only [if_true,Option.some.injEq] at hq
      subst hq
      rcases hb with hb | ⟨vs',t',j,a',l',cap',f1,f2,f3,f4,f5,f6⟩
      ·exact e7 hb.symm
      ·rw [hh] at f1;injection f1 with f1;injection f1 with f1;subst f1
       exact hap i j hi f2 (λe=>f3 (by rw [e])) (by simp) (by simp) ad _ cap a' l' cap' e4 f4 e5 f5 (e6.trans f6.symm)
     ·rw [if_neg hkq] at hq
      exact h.objs.apart q o' k _ b hq hk (λe=>hkq e.symm) hb e3
    ·have hx':Rep c' (.sl .no sz (g i).1 (g i).2) (vs.getD i undef):=(hr i hi).ext (ks:=live (s.setObj k (.mat sz n g (some i))).objs) hkb.ext (by simp [AV.keys])
     exact hx'.reown (.inr rfl) (λ_ _=>rfl) ⟨(g i).1,by simp [c',Cx.owns],Nat.le_refl _,λ_=>by rw [e1];simp [c',Cx.owns]⟩
    ·simp [AV.keys] at hq;subst hq;exact a7
  ·cases he
 ·cases he
theorem k9 {vs:Array Value} {i q:Nat} {V:Value} (hi:i < vs.size):(vs.toList.take i++[V]++vs.toList.drop (i+[V].length)).toArray.getD q undef=if q=i then V else vs.getD q undef:=by
 simp only [Array.getD_eq_getD_getElem?,List.getElem?_toArray,List.length_singleton]
 rw [List.append_assoc,List.getElem?_append]
 have hl:(vs.toList.take i).length=i:=by simp;omega
 rw [hl]
 by_cases h1:q < i
 ·rw [if_pos h1,if_neg (by omega),List.getElem?_take,if_pos h1];simp
 ·rw [if_neg h1]
  by_cases h2:q=i
  ·subst h2;simp
  ·rw [if_neg h2]
   have e:q - i=(q - i - 1)+1:=by omega
   rw [e]
   simp only [List.singleton_append,List.getElem?_cons_succ,List.getElem?_drop]
   rw [show i+1+(q - i - 1)=q by omega]
   simp
theorem yC {vs:Array Value} {i:Nat} {V:Value} (hi:i < vs.size):(vs.toList.take i++[V]++vs.toList.drop (i+[V].length)).toArray.size=vs.size:=by
 simp;omega
theorem sO (h:Rel B c s a) {t:TypeId} {x v:AV} {X V:Value} {us:List (Nat×AO)} (hx:Rep c x X) (hv:Rep c v V) (he:qV P s t x v=some (true,us)) :
  ∃c',(Instr.storeAt t X V).run P c.w=.ok () c'.w/\Rel B c' {s with objs:=pc s.objs us} a:=by
 unfold qV at he
 split at he
 ·rename_i k sz1 i off d sz m row
  split at he
  ·rename_i sz' n g j sz2 m2 hk hd
   cases hb:(aA P t==some 1&&(Nat.beq sz1 1&&(Nat.beq off 0&&(Nat.beq sz sz'&&Nat.beq sz2 sz')))) with
   | false=>simp [hb] at he
   | true=>
    simp only [hb,cond_true,Option.some.injEq,Prod.mk.injEq,Bool.and_eq_true] at he
    obtain ⟨⟨hi,h2,h3⟩,rfl⟩:=he
    have hi:i < n:=Nat.le_of_ble_eq_true hi
    have h2:=du h2
    have h3:=du h3
    simp only [Bool.and_eq_true,beq_iff_eq] at hb
    obtain ⟨ht,b1,b2,b3,b4⟩:=hb
    have b1:=du b1
    have b2:=du b2
    have b3:=du b3
    have b4:=(du b4).symm
    subst b1 b2 b3 h2 h3
    subst b4
    cases hx
    obtain ⟨⟨⟨vs,tt,hh,hs,hr,hroom,hap⟩,hsz⟩,hI,hfr⟩:=h.objs.rep k _ hk
    obtain ⟨_,hfd,hD⟩:=h.objs.rep d _ hd
    have hkd:k≠d:=λe=>by subst e;rw [hk] at hd;cases hd
    have hO:aG c (.key d) m V:=by
     cases hv with
     | slNil _ _ _ ho=>exact ho
     | sl _ _ _ _ ad cap vals g1 g2 g3 g4 g5 g6=>exact g3
    have hV:V=kF (c.κ d) m:=by
     obtain ⟨m',f1,f2,f3⟩:=hO
     rw [hfd] at f1
     exact f3 (Option.some.inj f1)
    have hcells:V.cells=#[V]:=by rw [hV];cases c.κ d <;> rfl
    have hone:V.oneCell'=true:=by rw [hV];cases c.κ d <;> rfl
    have hVr:∀ad l cap,V=.slice (some ad) l cap->l < cap->RoomAt c ad sz l cap/\excl c d (.own sz m) ad.block:=by
     intro ad l cap e hlt
     rw [hV] at e
     cases hκ:c.κ d with
     | none=>rw [hκ] at e;cases e
     | some p=>
      obtain ⟨ad',cap'⟩:=p
      rw [hκ] at e
      simp only [kF,Value.slice.injEq,Option.some.injEq] at e
      obtain ⟨rfl,rfl,rfl⟩:=e
      simp only [hκ] at hD
      exact ⟨hD.2.2 hlt,by simp only [excl,hκ];exact ⟨hlt,trivial⟩⟩
    have hnk:∀b,excl c d (.own sz m) b->¬ excl c k (.mat sz n g (some i)) b:=λb hb=>h.objs.apart d _ k _ b hd hk (λe=>hkd e.symm) hb
    have h1:Rel B c (s.setObj d .gone) a:=h.obj (k:=d) (o:=.gone) ((Keeps.refl c s.objs).but d) (Grow.refl h.good) trivial (λq o' b hq hne hb e=>e.elim) (by simp [AO.keys]) (λb hb=>hb.elim)
    have hk1:alook (s.setObj d .gone).objs k=some (.mat sz n g (some i)):=by
     show alook (aput s.objs d _) k=_
     rw [aV,if_neg (λe=>hkd e.symm)];exact hk
    have hw:Wrote c (c.β k) (c.w.setRow (c.β k) (vs.toList.take i++[V]++vs.toList.drop (i+[V].length)).toArray):=dx rfl
    have hkb:=Cx.dy h1.objs hk1 (b:=c.β k) (.inl rfl) hI hw
    have hrun:=fT (P:=P) (t:=t) (b:=c.β k) (off:=i) (x:=V) (n:=1) ht (by rw [hcells];rfl) hh (by omega) (λu hu=>by rw [hcells] at hu;simp at hu;rw [hu];exact hone)
    rw [hcells] at hrun
    have hheap:∀b,b≠c.β k->(c.w.setRow (c.β k) (vs.toList.take i++[V]++vs.toList.drop (i+[V].length)).toArray).heap[b]?=c.w.heap[b]?:=λb hb=>hw.other b hb
    have hnew:(c.w.setRow (c.β k) (vs.toList.take i++[V]++vs.toList.drop (i+[V].length)).toArray).heap[c.β k]?=some (.cells (vs.toList.take i++[V]++vs.toList.drop (i+[V].length)).toArray tt (0,0)):=setRow_heap _ _ _ _ _ _ hh
    have hroom':∀ {ad:Addr} {l cap:Nat},RoomAt c ad sz l cap->ad.block≠c.β k->RoomAt (c.write (c.w.setRow (c.β k) (vs.toList.take i++[V]++vs.toList.drop (i+[V].length)).toArray)) ad sz l cap:=by
     rintro ad l cap ⟨⟨vs',t',g1,g2⟩,g3,g4⟩ hne
     exact ⟨⟨vs',t',(hheap _ hne).trans g1,g2⟩,g3,g4⟩
    have e0:i*1+0=i:=by omega
    refine ⟨c.write (c.w.setRow (c.β k) (vs.toList.take i++[V]++vs.toList.drop (i+[V].length)).toArray),by rw [e0];exact hrun,h1.obj (k:=k) hkb (Cx.eo h.good hI hw (h.mine k _ _ hk (.inl rfl))) ⟨⟨⟨_,tt,hnew,(yC (by omega)).trans hs,λq hq=>?_,λq hq _ ad l cap e hlt=>?_,λq1 q2 hq1 hq2 hne _ _ ad l cap ad' l' cap' e1 e2 l1 l2=>?_⟩,hsz⟩,hI,hfr⟩ (λq o' b hq hne hb e=>?_) (by simp [AO.keys]) (λb hb=>?_)⟩
    ·rw [k9 (by omega)]
     by_cases e:q=i
     ·rw [if_pos e,e,Nat.beq_refl]
      exact (hv.reown (o':=.no) (.inr rfl) (λ_ _=>rfl) trivial).ext (ks:=λ_=>False) (hkb.ext.sub (λ_ hk=>hk.elim)) (by simp [AV.keys])
     ·rw [if_neg e,il e]
      exact (hr q hq).ext (ks:=λ_=>False) (hkb.ext.sub (λ_ hk=>hk.elim)) (by simp [AV.keys])
    ·rw [k9 (by omega)] at e
     by_cases e':q=i
     ·rw [if_pos e'] at e
      obtain ⟨r1,r2⟩:=hVr ad l cap e hlt
      have hne:ad.block≠c.β k:=λe=>hnk _ r2 (.inl e.symm)
      exact ⟨hroom' r1 hne,hne⟩
     ·rw [if_neg e'] at e
      obtain ⟨r1,r2⟩:=hroom q hq (by simpa using λe=>e' e.symm) ad l cap e hlt
      exact ⟨hroom' r1 r2,r2⟩
    ·rw [k9 (by omega)] at e1 e2
     by_cases f1:q1=i
     ·rw [if_pos f1] at e1
      have f2:¬ q2=i:=λf2=>hne (f1.trans f2.symm)
      rw [if_neg f2] at e2
      exact λe=>hnk _ (hVr ad l cap e1 l1).2 (.inr ⟨vs,tt,q2,ad',l',cap',hh,hq2,by simpa using λe=>f2 e.symm,e2,l2,e.symm⟩)
     ·rw [if_neg f1] at e1
      by_cases f2:q2=i
      ·rw [if_pos f2] at e2
       exact λe=>hnk _ (hVr ad' l' cap' e2 l2).2 (.inr ⟨vs,tt,q1,ad,l,cap,hh,hq1,by simpa using λe=>f1 e.symm,e1,l1,e⟩)
      ·rw [if_neg f2] at e2
       exact hap q1 q2 hq1 hq2 hne (by simpa using λe=>f1 e.symm) (by simpa using λe=>f2 e.symm) ad l cap ad' l' cap' e1 e2 l1 l2
    ·rcases e with e | ⟨vs',t',q2,ad,l,cap,f1,f2,f3,f4,f5,f6⟩
     ·exact h1.objs.apart q o' k _ b hq hk1 hne hb (.inl e)
     ·rw [show (c.write (c.w.setRow (c.β k) (vs.toList.take i++[V]++vs.toList.drop (i+[V].length)).toArray)).w.heap[(c.write (c.w.setRow (c.β k) (vs.toList.take i++[V]++vs.toList.drop (i+[V].length)).toArray)).β k]?=_ from hnew] at f1
      injection f1 with f1;injection f1 with f1;subst f1
      rw [k9 (by omega)] at f4
      by_cases f:q2=i
      ·rw [if_pos f] at f4
       have hq':alook (aput s.objs d .gone) q=some o':=hq
       rw [aV] at hq'
       by_cases hdq:d=q
       ·rw [if_pos hdq] at hq'
        injection hq' with hq';subst hq'
        exact hb
       ·rw [if_neg hdq] at hq'
        exact h.objs.apart q o' d _ b hq' hd (λe=>hdq e.symm) hb (f6 ▸ (hVr ad l cap f4 f5).2)
      ·rw [if_neg f] at f4
       exact h1.objs.apart q o' k _ b hq hk1 hne hb (.inr ⟨vs,tt,q2,ad,l,cap,hh,f2,by simpa using λe=>f e.symm,f4,f5,f6⟩)
    ·rcases hb with e | ⟨vs',t',q2,ad,l,cap,f1,f2,f3,f4,f5,f6⟩
     ·exact h.mine k _ b hk (.inl e)
     ·rw [show (c.write (c.w.setRow (c.β k) (vs.toList.take i++[V]++vs.toList.drop (i+[V].length)).toArray)).w.heap[(c.write (c.w.setRow (c.β k) (vs.toList.take i++[V]++vs.toList.drop (i+[V].length)).toArray)).β k]?=_ from hnew] at f1
      injection f1 with f1;injection f1 with f1;subst f1
      rw [k9 (by omega)] at f4
      by_cases f:q2=i
      ·rw [if_pos f] at f4
       exact h.mine d _ b hd (f6 ▸ (hVr ad l cap f4 f5).2)
      ·rw [if_neg f] at f4
       exact h.mine k _ b hk (.inr ⟨vs,tt,q2,ad,l,cap,hh,f2,by simpa using λe=>f e.symm,f4,f5,f6⟩)
  ·cases he
 ·cases he
theorem oO {α:Type}:∀ (l:List (Nat×α)) (k:Nat) (x y:α),aput (aput l k x) k y=aput l k y
 | [],k,x,y=>by simp [aput]
 | (q,z)::r,k,x,y=>by
  by_cases e:q=k
  ·subst e;simp [aput]
  ·simp only [aput,il e,cond_false]
   rw [oO r k x y]
theorem j5 {d:Nat} {t e:TypeId} {x y v:AV} {b:Bool} {k q n:Nat} {get:Nat->List AV} {z:List AV} (hu:P.underlying t=some (.slice e)) (hz:zeroCells P e=some z) (he:dk P s d t true x y=some (b,v,k,.arr q n get)) :
  k=d/\q=z.length/\get=(λ_=>z)/\v=.msl d z.length 0 n:=by
 unfold dk at he
 split at he
 ·rename_i e' l m hu'
  rw [hu] at hu'
  injection hu' with hu';injection hu' with hu';subst hu'
  split at he
  ·rename_i z' inf hz' hinf hd
   rw [hz] at hz'
   injection hz' with hz';subst hz'
   obtain ⟨_,he⟩:=ay he
   simp only [cond_true,Option.some.injEq,Prod.mk.injEq,AO.arr.injEq] at he
   obtain ⟨_,rfl,rfl,rfl,rfl,rfl⟩:=he
   exact ⟨rfl,rfl,rfl,rfl⟩
  ·cases he
 ·cases he
theorem oa (h:Rel B c s a) {d:Nat} {t:TypeId} {same:Bool} {x y v:AV} {X Y:Value} {k:Nat} {ob:AO} (hx:Rep c x X) (hy:Rep c y Y) (he:gw P s d t same x y=some (true,v,k,ob)) :
  ∃z c',(Instr.makeSlice t X Y).run P c.w=.ok z c'.w/\Rel B c' (s.setObj k ob) a/\Sees B c' (s.setObj k ob) v z:=by
 unfold gw at he
 split at he
 ·rename_i e hu
  split at he
  ·rename_i e2 hu2
   split at he
   ·rename_i sz z z1 f hsz hz hz1
    cases hb:(same&&Nat.blt 0 sz) with
    | false=>simp [hb] at he
    | true=>
     simp only [hb,cond_true] at he
     simp only [Bool.and_eq_true] at hb
     have h0:0 < sz:=Nat.le_of_ble_eq_true hb.2
     obtain ⟨⟨b,v',k',ob'⟩,h1,he⟩:=ai he
     dsimp only at he
     split at he
     ·rename_i n get
      simp only [Option.some.injEq,Prod.mk.injEq] at he
      obtain ⟨rfl,rfl,rfl,rfl⟩:=he
      obtain ⟨rfl,_,rfl,rfl⟩:=j5 hu hz1 h1
      obtain ⟨w,c',g1,g2,g3⟩:=iV h hx hy h1
      have ho:alook (s.setObj k' (.arr 1 n λ_=>[.sl .fit z1 0 f])).objs k'=some (.arr 1 n λ_=>[.sl .fit z1 0 f]):=by
       show alook (aput s.objs k' _) k'=_
       rw [aV,if_pos rfl]
      obtain ⟨⟨⟨vs,tt,hh,hs,hr⟩,hl,hone⟩,hI,hfr⟩:=g2.objs.rep k' _ ho
      have hcell:∀j,j < n->Rep c' (.sl .fit z1 0 f) (vs.getD j undef):=λj hj=>by
       have:=hr j 0 (.sl .fit z1 0 f) hj rfl
       simpa using this
      have hno:∀j,j < n->∀ad l cap,vs.getD j undef=.slice (some ad) l cap->l < cap->False:=by
       intro j hj ad l cap e hlt
       have:=hcell j hj
       rw [e] at this
       cases this with
       | sl _ _ _ _ _ _ vals q1 q2 q3 q4 q5 q6=>
        have q3:cap=0:=q3
        omega
      have hex:∀b,excl c' k' (.mat sz n (λ_=>(0,λ_=>z)) none) b->excl c' k' (.arr 1 n λ_=>[.sl .fit z1 0 f]) b:=by
       rintro b (hb | ⟨vs',t',i,ad,l,cap,f1,f2,_,f4,f5,_⟩)
       ·exact hb
       ·rw [hh] at f1;injection f1 with f1;injection f1 with f1;subst f1
        exact (hno i f2 ad l cap f4 f5).elim
      have hset:(s.setObj k' (.arr 1 n λ_=>[.sl .fit z1 0 f])).setObj k' (.mat sz n (λ_=>(0,λ_=>z)) none)=s.setObj k' (.mat sz n (λ_=>(0,λ_=>z)) none):=by
       show (⟨_,aput (aput s.objs k' _) k' _⟩:St)=⟨_,aput s.objs k' _⟩
       rw [oO];rfl
      refine ⟨w,c',g1,hset ▸ g2.obj (k:=k') ((Keeps.refl c' _).but k') (Grow.refl g2.good) ⟨⟨⟨vs,tt,hh,by omega,λi hi=>?_,λi hi _ ad l cap e hlt=>(hno i hi ad l cap e hlt).elim,λi j hi hj _ _ _ ad l cap ad' l' cap' e _ hlt _=>(hno i hi ad l cap e hlt).elim⟩,h0⟩,hI,hfr⟩ (λq o' b hq hne hb e=>g2.objs.apart q o' k' _ b hq ho hne hb (hex b e)) (by simp [AO.keys]) (λb hb=>g2.mine k' _ b ho (hex b hb)),?_⟩
      ·exact (hcell i hi).reown (o':=.no) (.inl rfl) (λj hj=>absurd hj (Nat.not_lt_zero _)) trivial
      ·exact ⟨g3.rep,λq hq=>by simp [AV.keys] at hq;subst hq;exact a7,rfl⟩
     ·cases he
   ·cases he
  ·cases he
 ·cases he
end Go.Ab

namespace Go.Ab
open Go Go.RowKit
variable {P:Program} {B:Base} {c:Cx} {s:St} {a:Act}
def Cx.obj (c:Cx) (k:Nat) (ob:Obj):Cx:=
 {c with w:=c.w.alloc ob,β:=λq=>if q=k then c.w.heap.size else c.β q,fr:=λq=>if q=k then none else c.fr q}
theorem Cx.qG {G:Nat->Option (List AV)} {c:Cx} (hg:Good G c) {objs:List (Nat×AO)} (ho:Objs c objs) {k:Nat} (hk:alook objs k=none) (ob:Obj):KeepsBut c (c.obj k ob) objs k:=by
 refine ⟨ln hg rfl (λ_ _ h=>h) (λq hq=>by simp [Cx.obj,fA hk hq]) (λ_ _=>rfl) (λq hq=>by simp [Cx.obj,fA hk hq]),λq _ hne=>by simp [Cx.obj,hne],λ_ _ _=>rfl,λq _ hne=>by simp [Cx.obj,hne],λq o b hq _ hb=>?_⟩
 exact ⟨aB _ _ _ (cq (ho.rep q o hq) hb),λ_ h=>h⟩
theorem Cx.uc {B:Base} {c:Cx} (hg:Good B.G c) (hf:Frame B c) (k:Nat) (ob:Obj):Grow B c (c.obj k ob):=by
 refine ⟨rfl,rfl,rfl,by simp [Cx.obj],λb hb _=>aB _ _ _ (Nat.lt_of_lt_of_le hb hf.size),λb o hb _ hi=>hi,λb o hi=>?_⟩
 exact hg.block hi (aB c.w _ b (hg.lt hi))
theorem rZ (h:Rel B c s a) {k:Nat} (hk:s.obj k=none) {t:TypeId} (ht:P.underlying t=some .string) (b:List UInt8) :
  ∃x c',(Instr.range t (.string ⟨b.toArray⟩)).run P c.w=.ok x c'.w/\Rel B c' (s.setObj k (.iter b 0)) a/\Sees B c' (s.setObj k (.iter b 0)) (.ref k 0) x:=by
 refine ⟨.pointer (some ⟨c.w.heap.size,0,none⟩),c.obj k (.stringIter ⟨b.toArray⟩ 0),run_range_string c.w t _ ht,?_,?_⟩
 ·refine h.obj (Cx.qG h.good h.objs hk _) (Cx.uc h.good h.frame k _) ⟨?_,λo hi=>?_,by simp [Cx.obj]⟩ (λq o' b' hq hne hb=>?_) (λr hr=>by simp [AO.keys] at hr) (λb' hb=>?_)
  ·simp only [Cx.obj,if_true];exact bc c.w _
  ·simp only [Cx.obj,if_true] at hi
   have:=h.good.lt hi
   omega
  ·simp only [excl,Cx.obj,if_true]
   have:=cq (h.objs.rep q o' hq) hb
   intro e
   omega
  ·simp only [excl,Cx.obj,if_true] at hb
   have:=h.frame.size
   left;omega
 ·refine ⟨?_,λq hq=>?_,rfl⟩
  ·have:=Rep.ref (c:=c.obj k (.stringIter ⟨b.toArray⟩ 0)) k 0
   simpa [Cx.obj] using this
  ·simp [AV.keys] at hq;subst hq;exact a7
theorem yI (w:World) (r:Nat) (b:ByteArray) (pos:Nat) (ty:TypeId) (hb:w.heap[r]?=some (.stringIter b pos)) :
  (Instr.next (.pointer (some ⟨r,0,none⟩)) true ty).run P w=if pos < b.size then .ok (.tuple #[.bool true,.int .i64 pos,.int .i32 (Utf8.decode b pos).1]) {w with heap:=w.heap.setIfInBounds r (.stringIter b (pos+(Utf8.decode b pos).2))} else .ok (.tuple #[.bool false]) w:=by
 by_cases h:pos < b.size
 ·simp [Instr.next,getObj,setObj,Sem.run_bind,Sem.run,hb,Result.andThen,h,goInt]
 ·simp [Instr.next,getObj,Sem.run,hb,h]
theorem vj (h:Rel B c s a) {k:Nat} {b:List UInt8} {pos:Nat} (hk:s.obj k=some (.iter b pos)) {x:Value} (hx:Rep c (.ref k 0) x) (ty:TypeId) :
  ∃y c',(Instr.next x true ty).run P c.w=.ok y c'.w/\Rel B c' (s.setObj k (.iter b (cond (Nat.blt pos b.length) (jW b pos) pos))) a /\
   Sees B c' (s.setObj k (.iter b (cond (Nat.blt pos b.length) (jW b pos) pos))) (cond (Nat.blt pos b.length) (yQ b pos) (.tup [.bool false])) y:=by
 cases hx
 obtain ⟨hh,hI,hfr⟩:=h.objs.rep k _ hk
 have hexcl:excl c k (.iter b pos) (c.β k):=rfl
 have hsz:(ByteArray.mk b.toArray).size=b.length:=by simp [ByteArray.size]
 have put:∀ (p:Nat) (w':World),Wrote c (c.β k) w'->w'.heap[c.β k]?=some (.stringIter ⟨b.toArray⟩ p)->Rel B (c.write w') (s.setObj k (.iter b p)) a:=by
  intro p w' hw hq
  refine h.obj (Cx.dy h.objs hk hexcl hI hw) (Cx.eo h.good hI hw (h.mine k _ _ hk hexcl)) ⟨hq,hI,hfr⟩ (λq o' b' hq hne hb=>?_) (λr hr=>by simp [AO.keys] at hr) (λb' hb=>h.mine k _ b' hk hb)
  intro e
  exact h.objs.apart q o' k _ b' hq hk hne hb e
 have hrun:=yI (P:=P) c.w (c.β k) ⟨b.toArray⟩ pos ty hh
 rw [hsz] at hrun
 by_cases hp:pos < b.length
 ·rw [if_pos hp] at hrun
  have hb:Nat.blt pos b.length=true:=tj hp
  rw [hb]
  simp only [cond_true]
  refine ⟨_,c.write {c.w with heap:=c.w.heap.setIfInBounds (c.β k) (.stringIter ⟨b.toArray⟩ (jW b pos))},hrun,put _ _ ⟨rfl,rfl,rfl,by simp,λb' hne=>?_⟩ ?_,⟨?_,λq hq=>by simp [yQ,AV.keys,au] at hq,rfl⟩⟩
  ·simp only [Array.getElem?_setIfInBounds];rw [if_neg (λe=>hne e.symm)]
  ·simp [aQ hh]
  ·refine .tup _ _ rfl λi u hu=>?_
   match i with
   | 0=>simp at hu;subst hu;exact .bool _
   | 1=>simp at hu;subst hu;exact .int _ _
   | 2=>simp at hu;subst hu;exact .int _ _
   | i+3=>simp at hu
 ·rw [if_neg hp] at hrun
  have hb:Nat.blt pos b.length=false:=by
   cases e:Nat.blt pos b.length with
   | false=>rfl
   | true=>exact absurd (ltB e) hp
  rw [hb]
  simp only [cond_false]
  refine ⟨_,c.write c.w,hrun,put _ _ ⟨rfl,rfl,rfl,rfl,λ_ _=>rfl⟩ hh,⟨?_,λq hq=>by simp [AV.keys,au] at hq,rfl⟩⟩
  refine .tup _ _ rfl λi u hu=>?_
  match i with
  | 0=>simp at hu;subst hu;exact .bool _
  | i+1=>simp at hu
end Go.Ab

namespace Go.Ab
open Go
section
variable {P:Program} (w:World)
def lX (l:List AV):List (List AV×Value)->Nat->Option (Nat×Value)
 | [],_=>none
 | (k,v)::r,i=>cond (bO l k) (some (i,v)) (lX l r (i+1))
theorem eC {t:TypeId} {ka:Bool} {ks:List KD} (h:vN P t=some (ka,ks)) {l:List AV} (h1:aL ks l=true):∀ (es:List MapEntry) (ms:List (List AV×Value)) (i:Nat),es.map (λe=>(e.key,e.val))=ms.map (λm=>(iX ka m.1,m.2))->(∀m∈ms,aL ks m.1=true)->
  (Instr.findAsking t (iX ka l) es i).run P w=.ok (lX l ms i) w
 | [],[],i,_,_=>by simp [Instr.findAsking,lX]
 | [],_::_,_,h,_=>by simp at h
 | _::_,[],_,h,_=>by simp at h
 | e::es,m::ms,i,he,hm=>by
  simp only [List.map_cons,List.cons.injEq,Prod.mk.injEq] at he
  have hq:=kH w h h1 (hm m (List.mem_cons_self ..))
  have ih:=eC h h1 es ms (i+1) he.2 λx hx=>hm x (List.mem_cons_of_mem _ hx)
  obtain ⟨k,v⟩:=m
  simp only [Instr.findAsking,Sem.run_bind,he.1.1,hq,Result.andThen_ok,lX]
  cases bO l k with
  | true=>simp [he.1.2]
  | false=>simpa using ih
theorem oH {t:TypeId} {k:KD} (h:oC P t=some k) {u:AV} (h1:k.fits u=true) {e:TypeDesc} (hu:P.underlying t=some e):∀ (es:List MapEntry) (ms:List (List AV×Value)) (i:Nat),es.map (λe=>(e.key,e.val))=ms.map (λm=>(iX false m.1,m.2))->(∀m∈ms,aL [k] m.1=true)->
  Instr.findNow e (lB u) es i=some (lX [u] ms i)
 | [],[],i,_,_=>by simp [Instr.findNow,lX]
 | [],_::_,_,h,_=>by simp at h
 | _::_,[],_,h,_=>by simp at h
 | x::es,m::ms,i,he,hm=>by
  simp only [List.map_cons,List.cons.injEq,Prod.mk.injEq] at he
  have ih:=oH h h1 hu es ms (i+1) he.2 λx hx=>hm x (List.mem_cons_of_mem _ hx)
  obtain ⟨l,v⟩:=m
  have hm0:=hm (l,v) (List.mem_cons_self ..)
  match l,hm0,he with
  | [q],hm0,he=>
   simp only [aL,Bool.and_true] at hm0
   obtain ⟨e',he',hs⟩:=ou h h1 hm0
   rw [hu] at he'
   obtain rfl:=Option.some.inj he'
   have hkey:x.key=lB q:=he.1.1
   simp only [Instr.findNow,hkey,hs,lX,bO,Bool.and_true]
   cases eqC u q with
   | true=>simp [he.1.2]
   | false=>simpa using ih
  | [],hm0,_=>simp [aL] at hm0
  | _::_::_,hm0,_=>simp [aL] at hm0
theorem fX {t:TypeId} {ka:Bool} {ks:List KD} (h:vN P t=some (ka,ks)) {l:List AV} (h1:aL ks l=true) (es:List MapEntry) (ms:List (List AV×Value)) (he:es.map (λe=>(e.key,e.val))=ms.map (λm=>(iX ka m.1,m.2))) (hm:∀m∈ms,aL ks m.1=true) :
  (Instr.findKey t (iX ka l) es).run P w=.ok (lX l ms 0) w:=by
 have h0:=h
 unfold vN at h0
 split at h0
 ·rename_i fs hu
  rw [run_findKey_eq w (k:=t) (by rw [hu])]
  exact eC w h h1 es ms 0 he hm
 ·rename_i n e hu
  rw [run_findKey_eq w (k:=t) (by rw [hu])]
  exact eC w h h1 es ms 0 he hm
 ·obtain ⟨k,hk,h0⟩:=Option.map_eq_some_iff.1 h0
  simp only [Prod.mk.injEq] at h0
  obtain ⟨rfl,rfl⟩:=h0
  match l,h1 with
  | [u],h1=>
   simp only [aL,Bool.and_true] at h1
   obtain ⟨e,hu,_⟩:=ou hk h1 h1
   exact MapKept.run_findKey (P:=P) (w:=w) hu (oH hk h1 hu es ms 0 he hm)
  | [],h1=>simp [aL] at h1
  | _::_::_,h1=>simp [aL] at h1
theorem fx {t:TypeId} {ka:Bool} {ks:List KD} (h:vN P t=some (ka,ks)) {l:List AV} (h1:aL ks l=true) (em:Bool) (n:Nat):(Instr.checkKey em (n+2) t (iX ka l)).run P w=.ok () w:=by
 have hsc:∀ {t:TypeId} {k:KD} (hk:oC P t=some k) {u:AV} (hu:k.fits u=true),(Instr.checkKey em (n+1) t (lB u)).run P w=.ok () w:=by
  intro t k hk u hu
  unfold oC at hk
  cases ht:P.underlying t with
  | none=>simp [ht] at hk
  | some e=>
   cases e <;> simp [ht] at hk
   all_goals simp [Instr.checkKey,run_underlying ht]
 have hsc2:∀ {t:TypeId} {k:KD} (hk:oC P t=some k) {u:AV} (hu:k.fits u=true),(Instr.checkKey em (n+2) t (lB u)).run P w=.ok () w:=by
  intro t k hk u hu
  unfold oC at hk
  cases ht:P.underlying t with
  | none=>simp [ht] at hk
  | some e=>
   cases e <;> simp [ht] at hk
   all_goals simp [Instr.checkKey,run_underlying ht]
 have h0:=h
 unfold vN at h0
 split at h0
 ·rename_i fs hu
  obtain ⟨_,h0⟩:(!P.stoodInHeld t)=true/\(eE P 0 fs.toList).map (λl=>(true,l))=some (ka,ks):=by
   cases hb:(!P.stoodInHeld t) with
   | false=>rw [hb] at h0;simp [aq] at h0
   | true=>rw [hb] at h0;exact ⟨rfl,by simpa [aq] using h0⟩
  obtain ⟨r,hr,h0⟩:=Option.map_eq_some_iff.1 h0
  simp only [Prod.mk.injEq] at h0
  obtain ⟨rfl,rfl⟩:=h0
  show (Instr.checkKey em (n+1+1) t (.agg (dv l))).run P w=_
  unfold Instr.checkKey
  simp only [Sem.run_bind,run_underlying hu,Result.andThen_ok]
  rw [<-Array.forIn_toList]
  have key:∀ (fs:List Field) (i:Nat) (ks:List KD) (pre l:List AV),eE P i fs=some ks->aL ks l=true->pre.length=i->
    (forIn fs PUnit.unit λf (_:PUnit)=>(if f.name≠"_" then do Instr.checkKey em (n+1) f.type (<-part f.type (dv (pre++l)) f.offset);pure (ForInStep.yield PUnit.unit) else pure (ForInStep.yield PUnit.unit):Sem (ForInStep PUnit))).run P w=.ok PUnit.unit w:=by
   intro fs
   induction fs with
   | nil=>intros;simp
   | cons f fs ih=>
    intro i ks pre l h h1 e1
    simp only [eE] at h
    cases hb:(f.name !="_"&&Nat.beq f.offset i) with
    | false=>simp [hb,aq] at h
    | true=>
     rw [hb] at h
     simp only [aq,cond_true] at h
     simp only [Bool.and_eq_true,bne_iff_ne,ne_eq] at hb
     have ho:f.offset=i:=Nat.eq_of_beq_eq_true hb.2
     cases hk:oC P f.type with
     | none=>simp [hk] at h
     | some k=>
      simp only [hk,Option.bind_some,Option.map_eq_some_iff] at h
      obtain ⟨r,hr,rfl⟩:=h
      cases l with
      | nil=>simp [aL] at h1
      | cons u l=>
       simp only [aL,Bool.and_eq_true] at h1
       have g1:(dv (pre++u::l))[f.offset]?=some (lB u):=gL (by rw [ho,List.getElem?_append_right (by omega)];simp [e1])
       have ih:=ih (i+1) r (pre++[u]) l hr h1.2 (by simp [e1])
       simp only [List.append_assoc,List.singleton_append] at ih
       simp only [List.forIn_cons,hb.1,not_false_eq_true,ne_eq,if_true,Sem.run_bind,eS w hk g1,Result.andThen_ok,hsc hk h1.1,Sem.run_pure]
       exact ih
  have:=key fs.toList 0 r [] l hr h1 rfl
  simp at this ⊢
  rw [this];rfl
 ·rename_i m e hu
  cases hk:oC P e with
  | none=>simp [hk] at h0
  | some k=>
   simp only [hk,Option.bind_some] at h0
   cases hb:(aA P e==some 1) with
   | false=>rw [hb] at h0;simp [aq] at h0
   | true=>
    rw [hb] at h0
    simp only [aq,cond_true,Option.some.injEq,Prod.mk.injEq] at h0
    obtain ⟨rfl,rfl⟩:=h0
    have hb:(P.info? e).map (·.size)=some 1:=by simpa [aA] using hb
    obtain ⟨i,hi,hs⟩:=Option.map_eq_some_iff.1 hb
    show (Instr.checkKey em (n+1+1) t (.agg (dv l))).run P w=_
    unfold Instr.checkKey
    simp only [Sem.run_bind,run_underlying hu,Result.andThen_ok]
    simp only [Std.Legacy.Range.forIn_eq_forIn_range',Std.Legacy.Range.size,Nat.sub_zero,Nat.add_one_sub_one,Nat.div_one]
    have hc:P.cellsOf e=1:=by simp [Program.cellsOf,hi,hs]
    have key:∀ (m i:Nat) (pre l:List AV),aL (List.replicate m k) l=true->pre.length=i->
      (forIn (List.range' i m) PUnit.unit λj (_:PUnit)=>(do Instr.checkKey em (n+1) e (<-part e (dv (pre++l)) (j*(<-sizeOf e)));pure (ForInStep.yield PUnit.unit):Sem (ForInStep PUnit))).run P w=.ok PUnit.unit w:=by
     intro m
     induction m with
     | zero=>intros;simp
     | succ m ih=>
      intro i pre l h1 e1
      rw [List.replicate_succ] at h1
      cases l with
      | nil=>simp [aL] at h1
      | cons u l=>
       simp only [aL,Bool.and_eq_true] at h1
       have g1:(dv (pre++u::l))[i*1]?=some (lB u):=gL (by rw [Nat.mul_one,List.getElem?_append_right (by omega)];simp [e1])
       have ih:=ih (i+1) (pre++[u]) l h1.2 (by simp [e1])
       simp only [List.append_assoc,List.singleton_append] at ih
       simp only [List.range'_succ,List.forIn_cons,Sem.run_bind,Go.run_sizeOf w hi,hc,Result.andThen_ok,eS w hk g1,hsc hk h1.1,Sem.run_pure]
       simpa [Go.run_sizeOf w hi,hc] using ih
    have:=key m 0 [] l h1 rfl
    simp at this ⊢
    rw [this];rfl
 ·obtain ⟨k,hk,h0⟩:=Option.map_eq_some_iff.1 h0
  simp only [Prod.mk.injEq] at h0
  obtain ⟨rfl,rfl⟩:=h0
  match l,h1 with
  | [u],h1=>
   simp only [aL,Bool.and_true] at h1
   exact hsc2 hk h1
  | [],h1=>simp [aL] at h1
  | _::_::_,h1=>simp [aL] at h1
end
end Go.Ab

namespace Go.Ab
open Go
variable {P:Program} {B:Base} {c:Cx} {s:St} {a:Act}
theorem Eg {k:KD} {u v:AV} (hu:k.fits u=true) (hv:k.fits v=true):eqC u v=true↔u=v:=by
 cases k <;> cases u <;> simp [KD.fits] at hu <;> cases v <;> simp [KD.fits] at hv
 ·simp [eqC]
 ·subst hu;subst hv;simp [eqC]
 ·simp [eqC]
theorem jv:∀ {ks:List KD} {l m:List AV},aL ks l=true->aL ks m=true->(bO l m=true↔l=m)
 | [],l,m,h1,h2=>by
  cases l <;> simp [aL] at h1
  cases m <;> simp [aL] at h2
  simp [bO]
 | k::ks,l,m,h1,h2=>by
  cases l with
  | nil=>simp [aL] at h1
  | cons u l=>
   cases m with
   | nil=>simp [aL] at h2
   | cons v m=>
    simp only [aL,Bool.and_eq_true] at h1 h2
    simp only [bO,Bool.and_eq_true,Eg h1.1 h2.1,jv h1.2 h2.2,List.cons.injEq]
theorem Bi {k q:KD} (h:Hq k q=true):k=q:=by
 cases k <;> cases q <;> simp [Hq] at h
 ·rfl
 ·rw [h]
 ·rfl
theorem um:∀ {l m:List KD},vm l m=true->l=m
 | [],[],_=>rfl
 | k::l,q::m,h=>by
  simp only [vm,Bool.and_eq_true] at h
  rw [Bi h.1,um h.2]
 | [],_::_,h=>by simp [vm] at h
 | _::_,[],h=>by simp [vm] at h
theorem mC {get:Nat->List AV}:∀ {n i:Nat},(∀j,j < i+n->(get j).length=1)->(e9 get i n).length=n/\∀q u,(e9 get i n)[q]?=some u->q < n/\(get (i+q))[0]?=some u
 | 0,i,_=>⟨rfl,λq u h=>by simp [e9] at h⟩
 | n+1,i,h=>by
  obtain ⟨h1,h2⟩:=mC (get:=get) (n:=n) (i:=i+1) λj hj=>h j (by omega)
  have h0:=h i (by omega)
  match hg:get i,h0 with
  | [v],_=>
   refine ⟨by simp [e9,hg,h1],λq u hu=>?_⟩
   simp only [e9,hg,List.singleton_append] at hu
   cases q with
   | zero=>simp at hu;subst hu;exact ⟨by omega,by simp [hg]⟩
   | succ q=>
    obtain ⟨e1,e2⟩:=h2 q u (by simpa using hu)
    exact ⟨by omega,by rw [show i+(q+1)=i+1+q by omega];exact e2⟩
  | [],h0=>simp at h0
  | _::_::_,h0=>simp at h0
theorem sI {ka:Bool} {ks:List KD} {u:AV} {x:Value} (hr:Rep c u x) (ha:(bG u).1=ka) (hk:aL ks (bG u).2=true):x=iX ka (bG u).2:=by
 have one:∀ {u:AV},Rep c u x->(∀v:AV,bG u=(false,[u]))->aL ks (bG u).2=true->x=iX false [u]:=by
  intro u hr he hk
  rw [he u] at hk
  match ks,hk with
  | [k],hk=>
   simp only [aL,Bool.and_true] at hk
   exact ux hk hr
  | [],hk=>simp [aL] at hk
  | _::_::_,hk=>simp [aL] at hk
 subst ha
 cases u with
 | agg cs=>
  exact tv hk hr
 | arr sz n get=>
  match sz with
  | 1=>
   cases hr with
   | arr _ _ _ vs h1 h2 h3 h4=>
    obtain ⟨g1,g2⟩:=mC (get:=get) (n:=n) (i:=0) λj hj=>(h2 j (by omega)).1
    have hk:aL ks (e9 get 0 n)=true:=hk
    have:=lU (c:=c) (vs:=vs.toList) hk (by show vs.toList.length=(e9 get 0 n).length;rw [g1];simpa using h1) λi u hu=>by
     obtain ⟨e1,e2⟩:=g2 i u hu
     rw [Nat.zero_add] at e2
     have:=h4 i 0 u e1 e2
     simpa [Array.getD_eq_getD_getElem?,List.getD_eq_getElem?_getD] using this
    show Value.agg vs=.agg (dv (e9 get 0 n))
    congr 1
    apply Array.ext'
    simpa [dv] using this
  | 0=>exact one hr (λ_=>rfl) hk
  | m+2=>exact one hr (λ_=>rfl) hk
 | bool b=>exact one hr (λ_=>rfl) hk
 | int k n=>exact one hr (λ_=>rfl) hk
 | str s=>exact one hr (λ_=>rfl) hk
 | nilp=>exact one hr (λ_=>rfl) hk
 | nilf=>exact one hr (λ_=>rfl) hk
 | nilm=>exact one hr (λ_=>rfl) hk
 | nili=>exact one hr (λ_=>rfl) hk
 | nni=>exact one hr (λ_=>rfl) hk
 | num k=>exact one hr (λ_=>rfl) hk
 | undef=>exact one hr (λ_=>rfl) hk
 | raw=>exact one hr (λ_=>rfl) hk
 | sl o sz n get=>exact one hr (λ_=>rfl) hk
 | tup vs=>exact one hr (λ_=>rfl) hk
 | ref k off=>exact one hr (λ_=>rfl) hk
 | aref k sz i off=>exact one hr (λ_=>rfl) hk
 | elt cs off=>exact one hr (λ_=>rfl) hk
 | msl k sz off len=>exact one hr (λ_=>rfl) hk
 | gsl k sz n=>exact one hr (λ_=>rfl) hk
 | gref k sz n i off=>exact one hr (λ_=>rfl) hk
 | gsub k sz n lo len=>exact one hr (λ_=>rfl) hk
 | mref k=>exact one hr (λ_=>rfl) hk
 | fms g=>exact one hr (λ_=>rfl) hk
 | fn f a b=>exact one hr (λ_=>rfl) hk
 | grd t w v=>exact one hr (λ_=>rfl) hk
theorem lT {kt:TypeId} {ka:Bool} {ks:List KD} {u:AV} (h:jr P kt ka ks u=true):vN P kt=some (ka,ks)/\(bG u).1=ka/\aL ks (bG u).2=true:=by
 unfold jr at h
 split at h
 ·rename_i b l hk
  simp only [Bool.and_eq_true,beq_iff_eq] at h
  obtain ⟨rfl,h1,h2,h3⟩:=h
  have:=um h1
  subst this
  exact ⟨hk,h2,h3⟩
 ·cases h
theorem jS {ks:List KD} {l:List AV} (hl:aL ks l=true):∀ (ms:List (List AV×Value)) (i:Nat),(∀m∈ms,aL ks m.1=true)->
  (lX l ms i=none/\∀m∈ms,m.1≠l)∨∃j v,lX l ms i=some (i+j,v)/\ms[j]?=some (l,v)/\∀q m,q < j->ms[q]?=some m->m.1≠l
 | [],i,_=>.inl ⟨rfl,by simp⟩
 | (k,v)::ms,i,h=>by
  have hk:=h _ (List.mem_cons_self ..)
  have he:=jv hl hk
  cases hb:bO l k with
  | true=>
   have:=he.1 hb
   subst this
   exact .inr ⟨0,v,by simp [lX,hb],rfl,λq m hq=>by omega⟩
  | false=>
   have hne:k≠l:=λe=>by have:=he.2 e.symm;rw [hb] at this;cases this
   rcases jS hl ms (i+1) λm hm=>h m (List.mem_cons_of_mem _ hm) with ⟨h1,h2⟩ | ⟨j,w,h1,h2,h3⟩
   ·exact .inl ⟨by simp [lX,hb,h1],λm hm=>by
     rcases List.mem_cons.1 hm with rfl | hm
     ·exact hne
     ·exact h2 m hm⟩
   ·refine .inr ⟨j+1,w,by simp [lX,hb,h1];omega,by simpa using h2,λq m hq hm=>?_⟩
    cases q with
    | zero=>simp at hm;subst hm;exact hne
    | succ q=>exact h3 q m (by omega) (by simpa using hm)
theorem vR {t:TypeId} {z:AV} (h:uO P t=some z) (w:World):∃v,(zeroValue t).run P w=.ok v w/\ofValue v=some z:=by
 unfold uO at h
 obtain ⟨v,h1,h2⟩:=Option.bind_eq_some_iff.1 h
 obtain ⟨i,h3,h4⟩:=Option.bind_eq_some_iff.1 h1
 exact ⟨v,by simp [zeroValue,typeInfo,h3,h4],h2⟩
theorem xm {t kt et:TypeId} {i z:AV} {I:Value} {ok:Bool} {bl:Nat} {ka:Bool} {ks:List KD} {dom:List AV->Bool} {get:List AV->AV} (hm:MapAt c bl ka ks dom get) (hu:P.underlying t=some (.map kt et)) (hz:uO P et=some z) (hf:jr P kt ka ks i=true) (hi:Sees B c s i I) :
  ∃V,(Instr.lookup t (.map (some bl)) I ok).run P c.w=.ok V c.w/\Sees B c s (cond (dom (bG i).2) (og ok true (get (bG i).2)) (og ok false z)) V:=by
 obtain ⟨hk,ha,hfit⟩:=lT hf
 have hI:=sI hi.rep ha hfit
 obtain ⟨⟨es,clock,ms,hh,h1,h2,h3,h4⟩,hp⟩:=hm
 obtain ⟨zv,hzr,hzo⟩:=vR hz c.w
 have hget:=MapKept.run_getObj_map (P:=P) hh
 have hchk:∀em,(Instr.checkKey em 10000 kt (iX ka (bG i).2)).run P c.w=.ok () c.w:=λem=>fx c.w hk hfit em 9998
 have hfind:=fX (P:=P) c.w hk hfit es.toList ms h1 λm hm=>(h2 m hm).1
 have hzs:Sees B c s z zv:=by
  unfold ofValue at hzo
  split at hzo
  ·rename_i cs
   obtain ⟨us,hus,rfl⟩:=Option.map_eq_some_iff.1 hzo
   obtain ⟨e1,e2,e3⟩:=ix (c:=c) hus
   exact ⟨.agg _ _ (by simpa using e1.symm) (λj u hu=>(e3 j u hu).1) λj u hu=>by simpa [Array.getD_eq_getD_getElem?,List.getD_eq_getElem?_getD] using (e3 j u hu).2,by simp [AV.keys,e2],rfl⟩
  ·obtain ⟨e1,e2,e3,_⟩:=gT (c:=c) hzo
   exact ⟨e1,by simp [e2],e3⟩
 have hV:∀ (b:Bool) (v:AV) (y:Value),Sees B c s v y->Sees B c s (og ok b v) (if ok=true then .tuple #[y,.bool b] else y):=by
  intro b v y hs
  cases ok with
  | false=>exact hs
  | true=>
   refine ⟨.tup _ _ rfl λj u hu=>?_,λq hq=>hs.live q (by simpa [og,AV.keys,au] using hq),rfl⟩
   match j with
   | 0=>simp at hu;subst hu;exact hs.rep
   | 1=>simp at hu;subst hu;exact .bool _
   | j+2=>simp at hu
 rcases jS hfit ms 0 λm hm=>(h2 m hm).1 with ⟨f1,f2⟩ | ⟨j,v,f1,f2,f3⟩
 ·have hd:dom (bG i).2=false:=by
   cases hd:dom (bG i).2 with
   | false=>rfl
   | true=>obtain ⟨m,hm,e⟩:=h3 _ hfit hd;exact absurd e (f2 m hm)
  rw [f1] at hfind
  simp only [hd,cond_false]
  refine ⟨_,?_,hV false z zv hzs⟩
  rw [hI]
  simp only [Instr.lookup,Sem.run_bind,run_underlying hu,Result.andThen_ok,hget,Sem.run_pure,hchk,hfind,hzr]
 ·have hm:=List.mem_of_getElem? f2
  obtain ⟨_,hd,hrep⟩:=h2 _ hm
  rw [f1] at hfind
  simp only at hd hrep
  simp only [hd,cond_true]
  have hkn:=hp _ hfit hd
  refine ⟨_,?_,hV true (get (bG i).2) v ⟨hrep,by simp [hkn],hrep.plain⟩⟩
  rw [hI]
  simp only [Instr.lookup,Sem.run_bind,run_underlying hu,Result.andThen_ok,hget,Sem.run_pure,hchk,hfind]
theorem Eb {g:List UInt8->Option (List UInt8)} {bl:Nat} {es:Array MapEntry} {clock:Nat} {ms:List (List UInt8×List UInt8)} (hh:c.w.heap[bl]?=some (.map es clock))
  (h1:es.toList.map (λe=>(e.key,e.val))=ms.map (λm=>(.string ⟨m.1.toArray⟩,.string ⟨m.2.toArray⟩))) (h2:∀m∈ms,g m.1=some m.2) (h3:∀s v,g s=some v->(s,v)∈ms) (h4:(ms.map (·.1)).Nodup):MapAt c bl false [.str] (fmD g) (fmG g):=by
 refine ⟨⟨es,clock,ms.map (λm=>([.str m.1],.string ⟨m.2.toArray⟩)),hh,?_,?_,?_,?_⟩,?_⟩
 ·rw [h1,List.map_map];rfl
 ·intro m hm
  obtain ⟨q,hq,rfl⟩:=List.mem_map.1 hm
  refine ⟨rfl,?_,?_⟩
  ·show (g q.1).isSome=true
   rw [h2 q hq];rfl
  ·show Rep c (.str ((g q.1).getD [])) _
   rw [h2 q hq];exact .str _
 ·intro l hl hd
  match l,hd with
  | [.str s],hd=>
   have hd:(g s).isSome=true:=hd
   obtain ⟨v,hv⟩:=Option.isSome_iff_exists.1 hd
   exact ⟨_,List.mem_map.2 ⟨_,h3 s v hv,rfl⟩,rfl⟩
 ·rw [List.map_map]
  have:(ms.map λm=>[AV.str m.1]).Nodup:=by
   unfold List.Nodup at h4 ⊢
   rw [List.pairwise_map] at h4 ⊢
   exact h4.imp λh e=>h (by injection e with e _;injection e)
  exact this
 ·intro l hl hd
  match l,hd with
  | [.str s],_=>rfl
theorem sB (h:Rel B c s a) {t:TypeId} {x i:AV} {X I:Value} {ok:Bool} {r:Bool×AV×AV} (hx:Sees B c s x X) (hi:Sees B c s i I) (he:oh P s t x i=some r) :
  ∃V,(Instr.lookup t X I ok).run P c.w=.ok V c.w/\Sees B c s (cond r.1 (og ok true r.2.1) (og ok false r.2.2)) V:=by
 unfold oh at he
 split at he
 ·rename_i kt et k hu
  obtain ⟨z,hz,he⟩:=Option.bind_eq_some_iff.1 he
  split at he
  ·rename_i ka ks dom get ho
   cases hf:jr P kt ka ks i with
   | false=>simp [aq,hf] at he
   | true=>
    simp only [aq,hf,cond_true,Option.some.injEq] at he
    subst he
    have hr:=hx.rep
    cases hr
    exact xm (h.objs.rep k _ ho).1 hu hz hf hi
  ·cases he
 ·rename_i kt et g hu
  obtain ⟨z,hz,he⟩:=Option.bind_eq_some_iff.1 he
  cases hf:jr P kt false [.str] i with
  | false=>simp [aq,hf] at he
  | true=>
   simp only [aq,hf,cond_true,Option.some.injEq] at he
   subst he
   have hr:=hx.rep
   cases hr with
   | fms _ bl es clock ms h1 h2 h3 h4 h5 h6=>exact xm (Eb h2 h3 h4 h5 h6) hu hz hf hi
 ·cases he
theorem ph (h:Rel B c s a) {d:Nat} (hd:s.obj d=none) (t:TypeId) (ka:Bool) (ks:List KD) (get:List AV->AV) :
  ∃x c',(Instr.makeMap t none).run P c.w=.ok x c'.w/\Rel B c' (s.setObj d (.mp ka ks (λ_=>false) get)) a/\Sees B c' (s.setObj d (.mp ka ks (λ_=>false) get)) (.mref d) x:=by
 refine ⟨.map (some c.w.heap.size),c.obj d (.map #[] 0),?_,?_,?_⟩
 ·simp only [Instr.makeMap,Sem.run_bind,Sem.run_pure,Result.andThen_ok]
  have:(newObj (.map #[] 0)).run P c.w=.ok c.w.heap.size (c.w.alloc (.map #[] 0)):=rfl
  rw [this];rfl
 ·refine h.obj (Cx.qG h.good h.objs hd _) (Cx.uc h.good h.frame d _) ⟨⟨⟨#[],0,[],?_,rfl,by simp,by simp,by simp⟩,by simp⟩,λo hi=>?_,by simp [Cx.obj]⟩ (λq o' b' hq hne hb=>?_) (λr hr=>by simp [AO.keys] at hr) (λb' hb=>?_)
  ·simp only [Cx.obj,if_true];exact bc c.w _
  ·simp only [Cx.obj,if_true] at hi
   have:=h.good.lt hi
   omega
  ·simp only [excl,Cx.obj,if_true]
   have:=cq (h.objs.rep q o' hq) hb
   intro e
   omega
  ·simp only [excl,Cx.obj,if_true] at hb
   have:=h.frame.size
   left;omega
 ·refine ⟨?_,λq hq=>?_,rfl⟩
  ·have:=Rep.mref (c:=c.obj d (.map #[] 0)) d
   simpa [Cx.obj] using this
  ·simp [AV.keys] at hq;subst hq;exact a7
theorem p7 (n:Nat) {k:KD} {u:AV} (h:k.fits u=true):Instr.sameBits n (lB u) (lB u)=true:=by
 cases k <;> cases u <;> simp [KD.fits] at h <;> cases n <;> simp [lB,Instr.sameBits,beq_toListBytes]
theorem xA {ka:Bool} {ks:List KD} {l:List AV} (h:aL ks l=true) (ha:ka=false->∃u,l=[u]):Instr.sameBits 10000 (iX ka l) (iX ka l)=true:=by
 cases ka with
 | false=>
  obtain ⟨u,rfl⟩:=ha rfl
  match ks,h with
  | [k],h=>
   simp only [aL,Bool.and_true] at h
   exact p7 _ h
  | [],h=>simp [aL] at h
  | _::_::_,h=>simp [aL] at h
 | true=>
  show Instr.sameBits (9999+1) (.agg (dv l)) (.agg (dv l))=true
  simp only [Instr.sameBits,beq_self_eq_true,Bool.true_and]
  have:∀ {ks:List KD} {l:List AV},aL ks l=true->((l.map lB).zip (l.map lB)).all (λ(x,y)=>Instr.sameBits 9999 x y)=true:=by
   intro ks
   induction ks with
   | nil=>intro l h;cases l <;> simp [aL] at h;rfl
   | cons k ks ih=>
    intro l h
    cases l with
    | nil=>simp [aL] at h
    | cons u l=>
     simp only [aL,Bool.and_eq_true] at h
     simp only [List.map_cons,List.zip_cons_cons,List.all_cons,Bool.and_eq_true]
     exact ⟨p7 _ h.1,ih h.2⟩
  simpa [dv] using this h
theorem kP (h:Rel B c s a) {t:TypeId} {x i v:AV} {X I V:Value} {k:Nat} {ob:AO} (hx:Sees B c s x X) (hi:Sees B c s i I) (hv:Sees B c s v V) (he:iB P s t x i v=some (k,ob)) :
  ∃c',(Instr.mapUpdate t X I V).run P c.w=.ok () c'.w/\Rel B c' (s.setObj k ob) a:=by
 unfold iB at he
 split at he
 ·rename_i kt et k' hu
  split at he
  ·rename_i ka ks dom get ho
   simp only [aq] at he
   cases hf:(jr P kt ka ks i&&isNil v.shed.keys) with
   | false=>rw [hf] at he;cases he
   | true=>
    rw [hf] at he
    simp only [cond_true,Option.some.injEq,Prod.mk.injEq] at he
    obtain ⟨rfl,rfl⟩:=he
    simp only [Bool.and_eq_true] at hf
    obtain ⟨hk,ha,hfit⟩:=lT hf.1
    have hvk:v.shed.keys=[]:=by cases hq:v.shed.keys with | nil=>rfl | cons=>simp [hq,isNil] at hf
    have hI:=sI hi.rep ha hfit
    obtain ⟨⟨⟨es,clock,ms,hh,h1,h2,h3,h4⟩,hp⟩,hfree,hfr⟩:=h.objs.rep k' _ ho
    have hr:=hx.rep
    cases hr
    have hrv:Rep c v.shed V:=hv.rep.shed
    have hget:=MapKept.run_getObj_map (P:=P) hh
    have hset:=λo=>MapKept.run_setObj_map (P:=P) (w:=c.w) (r:=c.β k') o hh
    have hchk:(Instr.checkKey false 10000 kt (iX ka (bG i).2)).run P c.w=.ok () c.w:=fx c.w hk hfit false 9998
    have hfind:=fX (P:=P) c.w hk hfit es.toList ms h1 λm hm=>(h2 m hm).1
    generalize hl:(bG i).2=l at *
    have hsc:ka=false->∃u,l=[u]:=λe=>by
     rw [e] at ha
     unfold vN at hk
     split at hk
     ·rename_i fs _
      cases hb:(!P.stoodInHeld kt) <;> simp [hb,aq,e] at hk
     ·rename_i n q _
      cases hq:oC P q with
      | none=>simp [hq] at hk
      | some w=>cases hb:(aA P q==some 1) <;> simp [hq,hb,aq,e] at hk
     ·obtain ⟨w,hw,hk⟩:=Option.map_eq_some_iff.1 hk
      simp only [Prod.mk.injEq] at hk
      obtain ⟨_,rfl⟩:=hk
      match l,hfit with
      | [u],_=>exact ⟨u,rfl⟩
      | [],hfit=>simp [aL] at hfit
      | _::_::_,hfit=>simp [aL] at hfit
    have hexcl:excl c k' (.mp ka ks dom get) (c.β k'):=rfl
    have put:∀ (es':Array MapEntry) (clock':Nat) (ms':List (List AV×Value)),es'.toList.map (λe=>(e.key,e.val))=ms'.map (λm=>(iX ka m.1,m.2))->
      (∀m∈ms',aL ks m.1=true/\((m.1=l/\m.2=V)∨(m.1≠l/\m∈ms)))->(∀m∈ms,m.1≠l->m∈ms')->(∃m∈ms',m.1=l)->(ms'.map (·.1)).Nodup->
      Rel B (c.write {c.w with heap:=c.w.heap.setIfInBounds (c.β k') (.map es' clock')}) (s.setObj k' (.mp ka ks (λq=>cond (bO q l) true (dom q)) λq=>cond (bO q l) v.shed (get q))) a:=by
     intro es' clock' ms' g1 g2 g3 g4 g5
     have hw:Wrote c (c.β k') {c.w with heap:=c.w.heap.setIfInBounds (c.β k') (.map es' clock')}:=⟨rfl,rfl,rfl,by simp,λb' hne=>by
      simp only [Array.getElem?_setIfInBounds];rw [if_neg (λe=>hne e.symm)]⟩
     have hkb:=Cx.dy h.objs ho hexcl hfree hw
     have hext:Ext c (c.write {c.w with heap:=c.w.heap.setIfInBounds (c.β k') (.map es' clock')}) (live s.objs):=hkb.ext
     refine h.obj hkb (Cx.eo h.good hfree hw (h.mine k' _ _ ho hexcl)) ⟨⟨⟨es',clock',ms',by show _=_;simp [Cx.write,aQ hh],g1,λm hm=>?_,λq hq hd=>?_,g5⟩,λq hq hd=>?_⟩,hfree,hfr⟩ (λq o' b' hq hne hb=>?_) (λr hr=>by simp [AO.keys] at hr) (λb' hb=>h.mine k' _ b' ho hb)
     ·obtain ⟨f1,f2⟩:=g2 m hm
      refine ⟨f1,?_⟩
      rcases f2 with ⟨rfl,e2⟩ | ⟨e1,e2⟩
      ·have:bO m.1 m.1=true:=(jv f1 f1).2 rfl
       rw [this]
       refine ⟨rfl,?_⟩
       rw [e2]
       exact hrv.ext hext λq hq=>by rw [hvk] at hq;simp at hq
      ·have:bO m.1 l=false:=by
        cases hb:bO m.1 l with
        | false=>rfl
        | true=>exact absurd ((jv f1 hfit).1 hb) e1
       rw [this]
       obtain ⟨d1,d2,d3⟩:=h2 m e2
       exact ⟨d2,d3.ext hext λq hq=>by rw [hp _ d1 d2] at hq;simp at hq⟩
     ·cases hb:bO q l with
      | true=>
       have:=(jv hq hfit).1 hb
       subst this
       exact g4
      | false=>
       rw [hb] at hd
       obtain ⟨m,hm,rfl⟩:=h3 q hq hd
       exact ⟨m,g3 m hm (λe=>by rw [(jv hq hfit).2 e] at hb;cases hb),rfl⟩
     ·cases hb:bO q l with
      | true=>exact hvk
      | false=>rw [hb] at hd;exact hp q hq hd
     ·intro e
      exact h.objs.apart q o' k' _ b' hq ho hne hb e
    have nodup_at:∀ (q1 q2:Nat) (m1 m2:List AV×Value),ms[q1]?=some m1->ms[q2]?=some m2->m1.1=m2.1->q1=q2:=λq1 q2 m1 m2 e1 e2 e3=>by
     have hlt1:q1 < (ms.map (·.1)).length:=by simpa using (List.getElem?_eq_some_iff.1 e1).1
     refine (List.getElem?_inj hlt1 h4).1 ?_
     simp only [List.getElem?_map,e1,e2,Option.map_some,e3]
    rcases jS hfit ms 0 λm hm=>(h2 m hm).1 with ⟨f1,f2⟩ | ⟨j,y,f1,f2,f3⟩
    ·rw [f1] at hfind
     refine ⟨_,?_,put (es.push {key:=iX ka l,val:=V,born:=clock}) (clock+1) (ms++[(l,V)]) (by simp [h1]) (λm hm=>?_) (λm hm _=>by simp [hm]) ⟨(l,V),by simp,rfl⟩ ?_⟩
     ·rw [hI]
      simp only [Instr.mapUpdate,Sem.run_bind,run_underlying hu,Result.andThen_ok,hget,hchk,hfind,hset]
      rfl
     ·rcases List.mem_append.1 hm with hm | hm
      ·exact ⟨(h2 m hm).1,.inr ⟨f2 m hm,hm⟩⟩
      ·simp at hm;subst hm;exact ⟨hfit,.inl ⟨rfl,rfl⟩⟩
     ·rw [List.map_append]
      refine List.nodup_append.2 ⟨h4,by simp,λq hq r hr e=>?_⟩
      simp at hr
      subst hr e
      obtain ⟨m,hm,e⟩:=List.mem_map.1 hq
      exact f2 m hm e
    ·rw [f1,Nat.zero_add] at hfind
     have hjl:j < ms.length:=(List.getElem?_eq_some_iff.1 f2).1
     have hlen:es.toList.length=ms.length:=by have:=congrArg List.length h1;simpa using this
     have hje:j < es.size:=by rw [<-hlen] at hjl;simpa using hjl
     have hkey:es[j].key=iX ka l:=by
      have:=congrArg (λq=>q[j]?) h1
      simp [f2,hje] at this
      exact this.1
     refine ⟨_,?_,put (es.modify j λe=>{e with key:=iX ka l,val:=V}) clock (ms.set j (l,V)) ?_ (λm hm=>?_) (λm hm hne=>?_) ⟨(l,V),?_,rfl⟩ ?_⟩
     ·rw [hI]
      have hst:(Instr.keyThatStays (((es[j]?).map (·.key)).getD (iX ka l)) (iX ka l)).run P c.w=.ok (iX ka l) c.w:=by
       have:((es[j]?).map (·.key)).getD (iX ka l)=iX ka l:=by simp [hje,hkey]
       rw [this]
       simp [Instr.keyThatStays,xA hfit hsc]
      simp only [Instr.mapUpdate,Sem.run_bind,run_underlying hu,Result.andThen_ok,hget,hchk,hfind,hst,hset]
      rfl
     ·apply List.ext_getElem?
      intro q
      have h1q:=congrArg (λr=>r[q]?) h1
      simp only [List.getElem?_map,Array.getElem?_toList,Array.getElem?_modify,List.getElem?_set] at h1q ⊢
      by_cases e:j=q
      ·subst e
       simp [hje,hjl]
      ·simp only [e,if_false] at h1q ⊢
       exact h1q
     ·obtain ⟨q,hq⟩:=List.getElem?_of_mem hm
      rw [List.getElem?_set] at hq
      by_cases e:j=q
      ·simp only [e,if_true] at hq
       split at hq
       ·simp at hq;subst hq;exact ⟨hfit,.inl ⟨rfl,rfl⟩⟩
       ·cases hq
      ·rw [if_neg e] at hq
       have hm':=List.mem_of_getElem? hq
       refine ⟨(h2 m hm').1,.inr ⟨λe2=>e (nodup_at j q (l,y) m f2 hq e2.symm),hm'⟩⟩
     ·obtain ⟨q,hq⟩:=List.getElem?_of_mem hm
      have:j≠q:=λe=>by rw [<-e,f2] at hq;have:=Option.some.inj hq;exact hne (by rw [<-this])
      refine List.mem_of_getElem? (i:=q) ?_
      rw [List.getElem?_set,if_neg this];exact hq
     ·refine List.mem_of_getElem? (i:=j) ?_
      rw [List.getElem?_set];simp [hjl]
     ·have:(ms.set j (l,V)).map (·.1)=ms.map (·.1):=by
       apply List.ext_getElem?
       intro q
       simp only [List.getElem?_map,List.getElem?_set]
       by_cases e:j=q
       ·subst e;simp only [if_true,hjl,Option.map_some,f2]
       ·simp [e]
      rw [this];exact h4
  ·cases he
 ·cases he
theorem nO {α β:Type} (f:α->β):∀ (l:List α) (i:Nat),(l.map f).eraseIdx i=(l.eraseIdx i).map f
 | [],i=>by simp
 | _::_,0=>rfl
 | x::r,i+1=>by simp [List.eraseIdx,nO f r i]
theorem pf (h:Rel B c s a) {t t2 ty:TypeId} {x i:AV} {X I:Value} {k:Nat} {ob:AO} (hx:Sees B c s x X) (hi:Sees B c s i I) (he:jl P s t x i=some (k,ob)) :
  ∃c',(Builtin.delete_ #[t,t2] ty #[X,I]).run P c.w=.ok (.tuple #[]) c'.w/\Rel B c' (s.setObj k ob) a:=by
 unfold jl at he
 split at he
 ·rename_i kt et k' hu
  split at he
  ·rename_i ka ks dom get ho
   simp only [aq] at he
   cases hf:jr P kt ka ks i with
   | false=>rw [hf] at he;cases he
   | true=>
    rw [hf] at he
    simp only [cond_true,Option.some.injEq,Prod.mk.injEq] at he
    obtain ⟨rfl,rfl⟩:=he
    obtain ⟨hk,ha,hfit⟩:=lT hf
    have hI:=sI hi.rep ha hfit
    obtain ⟨⟨⟨es,clock,ms,hh,h1,h2,h3,h4⟩,hp⟩,hfree,hfr⟩:=h.objs.rep k' _ ho
    have hr:=hx.rep
    cases hr
    have hget:=MapKept.run_getObj_map (P:=P) hh
    have hset:=λo=>MapKept.run_setObj_map (P:=P) (w:=c.w) (r:=c.β k') o hh
    have hchk:(Instr.checkKey es.isEmpty 10000 kt (iX ka (bG i).2)).run P c.w=.ok () c.w:=fx c.w hk hfit es.isEmpty 9998
    have hfind:=fX (P:=P) c.w hk hfit es.toList ms h1 λm hm=>(h2 m hm).1
    generalize hl:(bG i).2=l at *
    have hexcl:excl c k' (.mp ka ks dom get) (c.β k'):=rfl
    have put:∀ (es':Array MapEntry) (ms':List (List AV×Value)),es'.toList.map (λe=>(e.key,e.val))=ms'.map (λm=>(iX ka m.1,m.2))->
      (∀m∈ms',m∈ms/\m.1≠l)->(∀m∈ms,m.1≠l->m∈ms')->(ms'.map (·.1)).Nodup->
      Rel B (c.write {c.w with heap:=c.w.heap.setIfInBounds (c.β k') (.map es' clock)}) (s.setObj k' (.mp ka ks (λq=>cond (bO q l) false (dom q)) get)) a:=by
     intro es' ms' g1 g2 g3 g5
     have hw:Wrote c (c.β k') {c.w with heap:=c.w.heap.setIfInBounds (c.β k') (.map es' clock)}:=⟨rfl,rfl,rfl,by simp,λb' hne=>by
      simp only [Array.getElem?_setIfInBounds];rw [if_neg (λe=>hne e.symm)]⟩
     have hkb:=Cx.dy h.objs ho hexcl hfree hw
     have hext:Ext c (c.write {c.w with heap:=c.w.heap.setIfInBounds (c.β k') (.map es' clock)}) (live s.objs):=hkb.ext
     refine h.obj hkb (Cx.eo h.good hfree hw (h.mine k' _ _ ho hexcl)) ⟨⟨⟨es',clock,ms',by show _=_;simp [Cx.write,aQ hh],g1,λm hm=>?_,λq hq hd=>?_,g5⟩,λq hq hd=>?_⟩,hfree,hfr⟩ (λq o' b' hq hne hb=>?_) (λr hr=>by simp [AO.keys] at hr) (λb' hb=>h.mine k' _ b' ho hb)
     ·obtain ⟨f1,f2⟩:=g2 m hm
      obtain ⟨d1,d2,d3⟩:=h2 m f1
      have:bO m.1 l=false:=by
       cases hb:bO m.1 l with
       | false=>rfl
       | true=>exact absurd ((jv d1 hfit).1 hb) f2
      rw [this]
      exact ⟨d1,d2,d3.ext hext λq hq=>by rw [hp _ d1 d2] at hq;simp at hq⟩
     ·cases hb:bO q l with
      | true=>rw [hb] at hd;cases hd
      | false=>
       rw [hb] at hd
       obtain ⟨m,hm,rfl⟩:=h3 q hq hd
       exact ⟨m,g3 m hm (λe=>by rw [(jv hq hfit).2 e] at hb;cases hb),rfl⟩
     ·cases hb:bO q l with
      | true=>rw [hb] at hd;cases hd
      | false=>rw [hb] at hd;exact hp q hq hd
     ·intro e
      exact h.objs.apart q o' k' _ b' hq ho hne hb e
    have nodup_at:∀ (q1 q2:Nat) (m1 m2:List AV×Value),ms[q1]?=some m1->ms[q2]?=some m2->m1.1=m2.1->q1=q2:=λq1 q2 m1 m2 e1 e2 e3=>by
     have hlt1:q1 < (ms.map (·.1)).length:=by simpa using (List.getElem?_eq_some_iff.1 e1).1
     refine (List.getElem?_inj hlt1 h4).1 ?_
     simp only [List.getElem?_map,e1,e2,Option.map_some,e3]
    have hargs:(#[t,t2]:Array TypeId)[0]?=some t:=rfl
    rcases jS hfit ms 0 λm hm=>(h2 m hm).1 with ⟨f1,f2⟩ | ⟨j,y,f1,f2,f3⟩
    ·rw [f1] at hfind
     refine ⟨_,?_,put es ms h1 (λm hm=>⟨hm,f2 m hm⟩) (λm hm _=>hm) h4⟩
     rw [hI]
     unfold Builtin.delete_
     simp [Sem.run_bind,run_underlying hu,Result.andThen_ok,hget,hchk,hfind,hset]
     rfl
    ·rw [f1,Nat.zero_add] at hfind
     refine ⟨_,?_,put (es.eraseIdxIfInBounds j) (ms.eraseIdx j) ?_ (λm hm=>?_) (λm hm hne=>?_) ?_⟩
     ·rw [hI]
      unfold Builtin.delete_
      simp [Sem.run_bind,run_underlying hu,Result.andThen_ok,hget,hchk,hfind,hset]
      rfl
     ·rw [Array.toList_eraseIdxIfInBounds,<-nO,h1,nO]
     ·obtain ⟨q,hne,hq⟩:=List.mem_eraseIdx_iff_getElem?.1 hm
      refine ⟨List.mem_of_getElem? hq,λe=>hne (nodup_at q j m (l,y) hq f2 e)⟩
     ·obtain ⟨q,hq⟩:=List.getElem?_of_mem hm
      exact List.mem_eraseIdx_iff_getElem?.2 ⟨q,λe=>by rw [e,f2] at hq;have:=Option.some.inj hq;exact hne (by rw [<-this]),hq⟩
     ·exact List.Nodup.sublist ((List.eraseIdx_sublist ms j).map _) h4
  ·cases he
 ·cases he
end Go.Ab
