/- A function that hands back new objects: its contract by a run. Functions that hand back slices that may still be stored into. A view of a state in which less is told: variables' cells told in other words. A view in which a slice that was stored into is read alone from here on. A slice in a slot told as nobody's, its elements in other words. Slices in slots told as nobody's, whatever they hold; rows that grow by one. Views of slices that grow: their front sealed; the front of one under another key. Cells told in other words. From the evaluator to a row of the kit: a call of which E says the answer. Contracts told by relations: a table's entries need no proof of their own; runs and loops whose tree of conditions is read off the proof. Loops over functions in runs: their rounds told as those of loops. An iterator's own code, run in pieces: to a definite state; a call of the loop's function. -/
import Derived.Test.YtofjmkmjdaccgaaGreatDoorX3
set_option linter.unusedVariables false
set_option linter.unusedSimpArgs false
namespace Go.Ab
open Go Go.RowKit
def b8 (base:List Nat):List Nat->List Nat
 | []=>[]
 | k::r=>cond (base.any (Nat.beq k)) (b8 base r) (k::b8 base r)
theorem fu {base:List Nat}:∀ {l:List Nat} {k:Nat},k∈b8 base l->k∈l/\k ∉ base
 | [],k,h=>by simp [b8] at h
 | q::r,k,h=>by
  simp only [b8] at h
  cases hb:base.any (Nat.beq q) with
  | true=>
   rw [hb] at h
   obtain ⟨h1,h2⟩:=fu h
   exact ⟨List.mem_cons_of_mem _ h1,h2⟩
  | false=>
   rw [hb] at h
   rcases List.mem_cons.1 h with rfl | h
   ·refine ⟨List.mem_cons_self ..,λhk=>?_⟩
    have:=List.any_eq_false.1 hb k hk
    exact this (Nat.beq_refl k)
   ·obtain ⟨h1,h2⟩:=fu h
    exact ⟨List.mem_cons_of_mem _ h1,h2⟩
theorem e8 {base:List Nat}:∀ {l:List Nat},l.Nodup->(b8 base l).Nodup
 | [],_=>by simp [b8]
 | q::r,h=>by
  obtain ⟨h1,h2⟩:=List.nodup_cons.1 h
  simp only [b8]
  cases base.any (Nat.beq q) with
  | true=>exact e8 h2
  | false=>exact List.nodup_cons.2 ⟨λhq=>h1 (fu hq).1,e8 h2⟩
theorem List.cR (n:Nat):((List.range n).map (ae+·)).Nodup:=by
 rw [List.nodup_iff_pairwise_ne,List.pairwise_map]
 exact (List.nodup_iff_pairwise_ne.1 (List.nodup_range (n:=n))).imp λh e=>h (by omega)
def sY (X:Cfg) (fn:Func) (m:Nat) (s:St):Option (AV×List AO):=
 (kf X s fn.results.toList).bind λvs=>(bK s.objs vs).bind λa=>
  (cG a.2 ((List.range m).map (ae+·)++b8 ((List.range m).map (ae+·)) (bp a.2 ((List.range m).map (ae+·)++au (bS a.1))))).bind λos=>
   cond (kB (au (bS a.1)) ((List.range m).map (ae+·)++b8 ((List.range m).map (ae+·)) (bp a.2 ((List.range m).map (ae+·)++au (bS a.1)))) &&
    kB (bM a.2 ((List.range m).map (ae+·)++b8 ((List.range m).map (ae+·)) (bp a.2 ((List.range m).map (ae+·)++au (bS a.1))))) ((List.range m).map (ae+·)++b8 ((List.range m).map (ae+·)) (bp a.2 ((List.range m).map (ae+·)++au (bS a.1)))))
    (some ((match bS a.1 with | [v]=>v | vs=>AV.tup vs).ren (λk=>ae+idxOf ((List.range m).map (ae+·)++b8 ((List.range m).map (ae+·)) (bp a.2 ((List.range m).map (ae+·)++au (bS a.1)))) k 0),
     os.map (AO.ren λk=>ae+idxOf ((List.range m).map (ae+·)++b8 ((List.range m).map (ae+·)) (bp a.2 ((List.range m).map (ae+·)++au (bS a.1)))) k 0))) none
def wH (X:Cfg) (n:Nat) (f:FuncId) (args:List AV) (objs:List AO):Option (AV×List AO):=
 match X.P.funcs[f]? with
 | some fn=>(match fn.body with
  | some c=>gP X f n c [] {env:=dt args 0,objs:=af objs ae} λe s=>
    (match e with
    | .exit _=>none
    | _=>sY X fn objs.length s)
  | none=>none)
 | none=>none
theorem rb {c:Cx} {objs:List (Nat×AO)} (ho:Objs c objs) {ks:List Nat} (hn:ks.Nodup) {os:List AO} (hos:cG objs ks=some os) (hcl:∀q∈bM objs ks,q∈ks) :
  Objs {w:=c.w,I:=c.I,β:=λq=>c.β (eP ks (q - ae)),κ:=λq=>c.κ (eP ks (q - ae)),fr:=λq=>c.fr (eP ks (q - ae))} (af (os.map (AO.ren λk=>ae+idxOf ks k 0)) ae) /\
  (∀k∈ks,c.β (eP ks (ae+idxOf ks k 0 - ae))=c.β k/\∀n y,aG c (.key k) n y->aG {w:=c.w,I:=c.I,β:=λq=>c.β (eP ks (q - ae)),κ:=λq=>c.κ (eP ks (q - ae)),fr:=λq=>c.fr (eP ks (q - ae))} (.key (ae+idxOf ks k 0)) n y) /\
  (∀q o,alook (af (os.map (AO.ren λk=>ae+idxOf ks k 0)) ae) q=some o->∃k o0,k∈ks/\q=ae+idxOf ks k 0/\alook objs k=some o0/\o=o0.ren λk=>ae+idxOf ks k 0) /\
  (∀k∈ks,live (af (os.map (AO.ren λk=>ae+idxOf ks k 0)) ae) (ae+idxOf ks k 0)):=by
 obtain ⟨hol,hoo⟩:=ft hos
 let fwd:=λk=>ae+idxOf ks k 0
 let bwd:=λk=>eP ks (k - ae)
 have hfb:∀k∈ks,bwd (fwd k)=k:=λk hk=>by
  show eP ks (ae+idxOf ks k 0 - ae)=k
  rw [Nat.add_sub_cancel_left];exact cE (bP 0 hk)
 have hbf:∀i k,ks[i]?=some k->bwd (ae+i)=k/\fwd k=ae+i:=λi k hk=>
  ⟨by show eP ks (ae+i - ae)=k;rw [Nat.add_sub_cancel_left];exact cE hk,by show ae+idxOf ks k 0=_;rw [idx_eq hn hk]⟩
 let c0:Cx:={w:=c.w,I:=c.I,β:=λq=>c.β (bwd q),κ:=λq=>c.κ (bwd q),fr:=λq=>c.fr (bwd q)}
 have hβ0:∀k∈ks,c0.β (fwd k)=c.β k:=λk hk=>by show c.β (bwd (fwd k))=_;rw [hfb k hk]
 have hκ0:∀k∈ks,c0.κ (fwd k)=c.κ k:=λk hk=>by show c.κ (bwd (fwd k))=_;rw [hfb k hk]
 have hf0:∀k∈ks,c0.fr (fwd k)=c.fr k:=λk hk=>by show c.fr (bwd (fwd k))=_;rw [hfb k hk]
 have hown0:∀k∈ks,∀n y,aG c (.key k) n y->aG c0 (.key (fwd k)) n y:=λk hk n y=>by simp only [aG,hκ0 k hk,hf0 k hk];exact id
 have hfwd:∀k∈ks,c0.β (fwd k)=c.β k/\∀n y,aG c (.key k) n y->aG c0 (.key (fwd k)) n y:=λk hk=>⟨hβ0 k hk,hown0 k hk⟩
 have hlook:∀q o,alook (af (os.map (AO.ren fwd)) ae) q=some o->∃k o0,k∈ks/\q=fwd k/\alook objs k=some o0/\o=o0.ren fwd:=by
  intro q o hq
  rw [bV] at hq
  by_cases hb:ae<=q
  ·rw [if_pos hb,List.getElem?_map] at hq
   cases hi:os[q - ae]? with
   | none=>simp [hi] at hq
   | some o0=>
    simp [hi] at hq;subst hq
    have hlt:=(List.getElem?_eq_some_iff.1 hi).1
    have hk:ks[q - ae]?=some (ks[q - ae]'(by omega)):=List.getElem?_eq_getElem _
    refine ⟨_,o0,List.mem_of_getElem? hk,?_,by rw [(hoo _ _ hk).1,hi],rfl⟩
    rw [(hbf _ _ hk).2];omega
  ·rw [if_neg hb] at hq;simp at hq
 have hlook':∀k∈ks,∃o0,alook objs k=some o0/\alook (af (os.map (AO.ren fwd)) ae) (fwd k)=some (o0.ren fwd):=by
  intro k hk
  have hi:=bP 0 hk
  obtain ⟨h1,o0,h2⟩:=hoo _ _ hi
  refine ⟨o0,h2,?_⟩
  rw [bV,if_pos (Nat.le_add_right _ _)]
  show (os.map (AO.ren fwd))[ae+idxOf ks k 0 - ae]?=_
  rw [Nat.add_sub_cancel_left,List.getElem?_map,<-h1,h2];rfl
 have hO0:Objs c0 (af (os.map (AO.ren fwd)) ae):=by
  refine ⟨λq o hq=>?_,λq o q' o' b hq hq' hne hb=>?_,λq o hq r hr=>?_⟩
  ·obtain ⟨k,o0,hk,rfl,h1,rfl⟩:=hlook q o hq
   exact (ho.rep k o0 h1).ren rfl rfl (hβ0 k hk) (hκ0 k hk) (hf0 k hk) λq hq=>hfwd q (hcl q (dd hk h1 q hq))
  ·obtain ⟨k,o0,hk,rfl,h1,rfl⟩:=hlook q o hq
   obtain ⟨k',o0',hk',rfl,h1',rfl⟩:=hlook q' o' hq'
   rw [dV (hβ0 k hk) (hκ0 k hk)] at hb
   rw [dV (hβ0 k' hk') (hκ0 k' hk')]
   exact ho.apart k o0 k' o0' b h1 h1' (λe=>hne (by rw [e])) hb
  ·obtain ⟨k,o0,hk,rfl,h1,rfl⟩:=hlook q o hq
   obtain ⟨q',hq',rfl⟩:=AO.dT _ _ r hr
   obtain ⟨_,_,e⟩:=hlook' q' (hcl q' (dd hk h1 q' hq'))
   exact ⟨_,e⟩
 exact ⟨hO0,hfwd,hlook,λk hk=>by obtain ⟨_,_,e⟩:=hlook' k hk;exact ⟨_,e⟩⟩
theorem rO {X:Cfg} (hX:cv X) (hm:X.P.follows .mixedOrders=true) {f:FuncId} (hO:OracOk X f) {fn:Func} (hf:X.P.funcs[f]?=some fn) (hok:∀c,fn.body=some c->codeOk fn.ntmps c=true) {n:Nat} {args:List AV} {os:List AO}
  {r:AV} {os':List AO} (he:wH X n f args os=some (r,os')):lA X.P X.G f args os r os':=by
 unfold wH at he
 rw [hf] at he
 dsimp only at he
 cases hbody:fn.body with
 | none=>simp [hbody] at he
 | some code=>
  simp only [hbody] at he
  have hcode:=hok code hbody
  intro c0 vs hgood hobjs hsz hrep hkeys
  let a0:Act:={tmps:=vs++Array.replicate (fn.ntmps - vs.size) undef,defers:=[]}
  let B:Base:={c0:=c0,D:=held c0 (af os ae),K:=live (af os ae),G:=X.G,N:=a0.tmps.size}
  let s0:St:={env:=dt args 0,objs:=af os ae}
  have hN:fn.ntmps<=B.N:=by simp [B,a0];omega
  have hcode':codeOk B.N code=true:=cr hN hcode
  have hget:∀t v,s0.get t=some v->args[t]?=some v:=λt v hv=>by
   have:alook (dt args 0) t=some v:=hv
   rw [fe,if_pos (Nat.zero_le _)] at this;simpa using this
  have hval:∀t v,args[t]?=some v->Rep c0 v (a0.tmps.getD t undef):=λt v hv=>by
   have hlt:t < vs.size:=by rw [hsz];exact (List.getElem?_eq_some_iff.1 hv).1
   have e:a0.tmps.getD t undef=vs.getD t undef:=by
    simp only [a0,Array.getD_eq_getD_getElem?]
    rw [Array.getElem?_append_left hlt]
   rw [e];exact hrep t v hv
  have hplain:∀t v,s0.get t=some v->v.cA=false:=λt v hv=>by
   have:=hval t v (hget t v hv)
   generalize a0.tmps.getD t undef=V at this
   cases this <;> rfl
  have h0:Rel B c0 s0 a0:=by
   refine ⟨hgood,⟨rfl,rfl,rfl,Nat.le_refl _,λ_ _ _=>rfl,Ext.refl _ _,λ_ _ _ _ hi=>hi⟩,hobjs,λt v hv=>dQ.nr (hplain t v hv) (hval t v (hget t v hv)),
    λt v hv k hk=>hkeys k (aR (hget t v hv) k hk),λk o b ho hb=>.inr ⟨k,o,ho,hb⟩,rfl,trivial,λk hk=>hk⟩
  refine kx hf hbody ?_
  refine cV (B:=B) hX rfl hm (λk hk=>(fR hk).1) rfl f hO code [] (by simp [bE,dL,hf,hbody]) hcode' n s0 c0 a0 _ (r,os') _ he h0 hplain λex s' c9 a' hex hr9 hn'=>?_
  obtain ⟨c',hr',hL⟩:=Rel.shut (B:=B) hgood rfl _ c9 a' rfl hr9
  have hfin:sY X fn os.length s'=some (r,os')->∃v,(results fn a'.tmps).run X.P c'.w=.ok v c'.w/\∃c2 x,Ending.returned v=.returned x/\c2.w=c'.w/\Good X.G c2 /\
   Frame {c0:=c0,D:=held c0 (af os ae),K:=live (af os ae),G:=X.G,N:=0} c2 /\
   Objs c2 (af os' ae)/\Rep c2 r x/\(∀k∈r.keys,live (af os' ae) k) /\
   ∀k o b,alook (af os' ae) k=some o->excl c2 k o b->c0.w.heap.size<=b∨held c0 (af os ae) b:=by
   intro hfin
   unfold sY at hfin
   obtain ⟨rs,h1,hfin⟩:=ai hfin
   obtain ⟨⟨rs',o1⟩,h2,hfin⟩:=ai hfin
   dsimp only at hfin
   obtain ⟨os1,h3,hfin⟩:=ai hfin
   obtain ⟨hb,hfin⟩:=bD hfin
   simp only [Option.some.injEq,Prod.mk.injEq] at hfin
   obtain ⟨hres,rfl⟩:=hfin
   simp only [Bool.and_eq_true] at hb
   obtain ⟨xs,hs,hrun⟩:=fJ X hr' hn' h1
   obtain ⟨c2,e1,e2,e3,e4,e5⟩:=dm hr' hs h2
   have hs2:=e3.shed
   have hfn:=hs2.fn
   generalize hr0:(match bS rs' with | [v]=>v | vs=>AV.tup vs)=r0 at hres
   subst hres
   let ks:=(List.range os.length).map (ae+·)
   let all:=ks++b8 ks (bp o1 (ks++au (bS rs')))
   have hbase:ks.Nodup:=(List.cR os.length)
   have hall:all.Nodup:=List.nodup_append.2 ⟨hbase,e8 (ea _ _).1,λx hx y hy e=>(fu hy).2 (e ▸ hx)⟩
   obtain ⟨hren,hkey,hlook,hlive⟩:=rb e2.objs hall h3 (bH hb.2)
   obtain ⟨v,hv,hrv,hrk⟩:∃v,(results fn a'.tmps).run X.P c'.w=.ok v c'.w/\Rep c2 r0 v/\∀k∈r0.keys,k∈au (bS rs'):=by
    have hm':(fn.results.mapM (m:=Sem) (AU a'.tmps)).run X.P c'.w=.ok xs.toArray c'.w:=by
     rw [Array.mapM_eq_mapM_toList]
     simp only [Sem.run_map]
     rw [hrun];rfl
    have hres':∀ (v:Value),(if h:xs.toArray.size=1 then xs.toArray[0] else Value.tuple xs.toArray)=v->(results fn a'.tmps).run X.P c'.w=.ok v c'.w:=by
     intro v hv
     rw [lL]
     simp only [Sem.run_bind,hm',Result.andThen_ok]
     rw [hv];rfl
    by_cases h1:xs.length=1
    ·obtain ⟨x,rfl⟩:=List.length_eq_one_iff.1 h1
     have hl:(bS rs').length=1:=by rw [<-hs2.1];rfl
     obtain ⟨u,hu⟩:=List.length_eq_one_iff.1 hl
     have hres:u=r0:=by rw [<-hr0,hu]
     subst hres
     refine ⟨x,hres' x (by simp),(hs2.2 0 u (by rw [hu];rfl)).rep,λk hk=>by rw [hu];simpa [au] using hk⟩
    ·have hl:(bS rs').length≠1:=by rw [<-hs2.1];exact h1
     have hr:r0=.tup (bS rs'):=by
      rw [<-hr0]
      cases h:bS rs' with
      | nil=>rfl
      | cons u l=>cases l with
       | nil=>rw [h] at hl;simp at hl
       | cons _ _=>rfl
     rw [hr]
     refine ⟨.tuple xs.toArray,hres' _ (by rw [dif_neg];simpa using h1),.tup _ _ hfn.1 hfn.2.1,λk hk=>by simpa [AV.keys] using hk⟩
   let c3:Cx:={w:=c2.w,I:=c2.I,β:=λq=>c2.β (eP all (q - ae)),κ:=λq=>c2.κ (eP all (q - ae)),fr:=λq=>c2.fr (eP all (q - ae))}
   have hb0:∀k,live (af os ae) k->eP all (k - ae)=k:=by
    intro k hk
    obtain ⟨g1,g2⟩:=fR hk
    refine cE ?_
    show (ks++_)[k - ae]?=some k
    rw [List.getElem?_append_left (by simpa [ks] using g2)]
    simp [ks,g2];omega
   have hown:∀k,live (af os ae) k->∀n y,aG c2 (.key k) n y->aG c3 (.key k) n y:=λk hk n y=>by
    simp only [aG,c3,hb0 k hk];exact id
   refine ⟨v,hv,c3,v,rfl,e1,⟨e2.good.there,λg cs hg=>(e2.good.globs g cs hg).ext (ks:=λ_=>False) ⟨λ_ _ _ _ hv=>hv,λ_ _ hi=>hi,λ_ hk=>hk.elim,λ_ hk=>hk.elim,λ_ _ _ _ hv _=>hv⟩ (by simp [AV.keys])⟩,
    ⟨e2.frame.os,e2.frame.output,e2.frame.tape,e2.frame.size,e2.frame.block,⟨e2.frame.ext.cell,e2.frame.ext.I,λk hk=>by show c2.β (eP all (k - ae))=_;rw [hb0 k hk];exact e2.frame.ext.β k hk,λk hk n y hy=>hown k hk n y (e2.frame.ext.own k hk n y hy),e2.frame.ext.map⟩,e2.frame.new⟩,
    hren,Rep.ren (c:=c2) (c':=c3) (λ_ _ _ _ hv=>hv) (λ_ _ hi=>hi) (λ_ _ _ _ hv _=>hv) hrv λq hq=>hkey q (bH hb.1 q (hrk q hq)),λk hk=>?_,λk o b ho hb'=>?_⟩
   ·obtain ⟨q,hq,rfl⟩:=dT _ _ k hk
    exact hlive q (bH hb.1 q (hrk q hq))
   ·obtain ⟨q,o0,hq,rfl,g1,rfl⟩:=hlook k o ho
    have:excl c3 (ae+idxOf all q 0) (o0.ren λk=>ae+idxOf all k 0)=excl c2 q o0:=dV (by show c2.β (eP all (ae+idxOf all q 0 - ae))=_;rw [Nat.add_sub_cancel_left,cE (bP 0 hq)]) (by show c2.κ (eP all (ae+idxOf all q 0 - ae))=_;rw [Nat.add_sub_cancel_left,cE (bP 0 hq)])
    rw [this] at hb'
    exact e2.mine q o0 b g1 hb'
  cases ex with
  | exit id=>simp at hex
  | nor=>exact hL _ _ _ _ _ _ (hfin hex)
  | ret=>exact hL _ _ _ _ _ _ (hfin hex)
theorem B3 {V:Env} {T:List Ent} {d:Nat} {C L:List (List Nat×Orc)} {W:List (List Nat×Vw)} {f:FuncId} {n:Nat} {l:List AV} {os:List AO} {r:AV×List AO} (hm:V.P.follows .mixedOrders=true) (hP:iQ V.P) (hT:tB V T)
  (hC:∀e∈C,mP (V.run T d C L W f) f e.1 e.2) (hL:∀e∈L,bq (V.run T d C L W f) f e.1 e.2) (hW:∀e∈W,gm e.2) (he:wH (V.run T d C L W f) n f l os=some r):Ct V.P V.G f l os r:=by
 have hO:OracOk (V.run T d C L W f) f:=by
  refine ⟨λp g hg=>?_,λp g hg=>?_,λp g hg=>?_,λp g hg=>?_⟩
  ·cases hg
  ·simp only [Env.run,Nat.beq_refl,cond_true] at hg
   exact hW _ (eD hg)
  ·simp only [Env.run,Nat.beq_refl,cond_true] at hg
   exact hL _ (eD hg)
  ·simp only [Env.run,Nat.beq_refl,cond_true] at hg
   exact hC _ (eD hg)
 have hh:=he
 unfold wH at hh
 cases hf:(V.run T d C L W f).P.funcs[f]? with
 | none=>simp only [hf] at hh;cases hh
 | some fn=>
  have hf':V.P.funcs[f]?=some fn:=hf
  obtain ⟨h1,h2⟩:=hP f fn hf'
  refine ⟨rO (X:=V.run T d C L W f) (jz hm hP hT d C L W f) hm hO hf h2 he,fn,hf',h1,?_⟩
  cases hb:fn.body with
  | none=>simp only [hf,hb] at hh;cases hh
  | some c=>rfl
end Go.Ab

namespace Go.Ab
open Go Go.RowKit
def sX (X:Cfg) (fn:Func) (m:Nat) (s:St):Option (AV×List AO):=
 (kf X s fn.results.toList).bind λvs=>(some (vs,s.objs)).bind λa=>
  (cG a.2 ((List.range m).map (ae+·)++b8 ((List.range m).map (ae+·)) (bp a.2 ((List.range m).map (ae+·)++au (a.1))))).bind λos=>
   cond (kB (au (a.1)) ((List.range m).map (ae+·)++b8 ((List.range m).map (ae+·)) (bp a.2 ((List.range m).map (ae+·)++au (a.1)))) &&
    kB (bM a.2 ((List.range m).map (ae+·)++b8 ((List.range m).map (ae+·)) (bp a.2 ((List.range m).map (ae+·)++au (a.1))))) ((List.range m).map (ae+·)++b8 ((List.range m).map (ae+·)) (bp a.2 ((List.range m).map (ae+·)++au (a.1)))))
    (some ((match a.1 with | [v]=>v | vs=>AV.tup vs).ren (λk=>ae+idxOf ((List.range m).map (ae+·)++b8 ((List.range m).map (ae+·)) (bp a.2 ((List.range m).map (ae+·)++au (a.1)))) k 0),
     os.map (AO.ren λk=>ae+idxOf ((List.range m).map (ae+·)++b8 ((List.range m).map (ae+·)) (bp a.2 ((List.range m).map (ae+·)++au (a.1)))) k 0))) none
def wG (X:Cfg) (n:Nat) (f:FuncId) (args:List AV) (objs:List AO):Option (AV×List AO):=
 match X.P.funcs[f]? with
 | some fn=>(match fn.body with
  | some c=>gP X f n c [] {env:=dt args 0,objs:=af objs ae} λe s=>
    (match e with
    | .exit _=>none
    | _=>sX X fn objs.length s)
  | none=>none)
 | none=>none
theorem rN {X:Cfg} (hX:cv X) (hm:X.P.follows .mixedOrders=true) {f:FuncId} (hO:OracOk X f) {fn:Func} (hf:X.P.funcs[f]?=some fn) (hok:∀c,fn.body=some c->codeOk fn.ntmps c=true) {n:Nat} {args:List AV} {os:List AO}
  {r:AV} {os':List AO} (he:wG X n f args os=some (r,os')):lA X.P X.G f args os r os':=by
 unfold wG at he
 rw [hf] at he
 dsimp only at he
 cases hbody:fn.body with
 | none=>simp [hbody] at he
 | some code=>
  simp only [hbody] at he
  have hcode:=hok code hbody
  intro c0 vs hgood hobjs hsz hrep hkeys
  let a0:Act:={tmps:=vs++Array.replicate (fn.ntmps - vs.size) undef,defers:=[]}
  let B:Base:={c0:=c0,D:=held c0 (af os ae),K:=live (af os ae),G:=X.G,N:=a0.tmps.size}
  let s0:St:={env:=dt args 0,objs:=af os ae}
  have hN:fn.ntmps<=B.N:=by simp [B,a0];omega
  have hcode':codeOk B.N code=true:=cr hN hcode
  have hget:∀t v,s0.get t=some v->args[t]?=some v:=λt v hv=>by
   have:alook (dt args 0) t=some v:=hv
   rw [fe,if_pos (Nat.zero_le _)] at this;simpa using this
  have hval:∀t v,args[t]?=some v->Rep c0 v (a0.tmps.getD t undef):=λt v hv=>by
   have hlt:t < vs.size:=by rw [hsz];exact (List.getElem?_eq_some_iff.1 hv).1
   have e:a0.tmps.getD t undef=vs.getD t undef:=by
    simp only [a0,Array.getD_eq_getD_getElem?]
    rw [Array.getElem?_append_left hlt]
   rw [e];exact hrep t v hv
  have hplain:∀t v,s0.get t=some v->v.cA=false:=λt v hv=>by
   have:=hval t v (hget t v hv)
   generalize a0.tmps.getD t undef=V at this
   cases this <;> rfl
  have h0:Rel B c0 s0 a0:=by
   refine ⟨hgood,⟨rfl,rfl,rfl,Nat.le_refl _,λ_ _ _=>rfl,Ext.refl _ _,λ_ _ _ _ hi=>hi⟩,hobjs,λt v hv=>dQ.nr (hplain t v hv) (hval t v (hget t v hv)),
    λt v hv k hk=>hkeys k (aR (hget t v hv) k hk),λk o b ho hb=>.inr ⟨k,o,ho,hb⟩,rfl,trivial,λk hk=>hk⟩
  refine kx hf hbody ?_
  refine cV (B:=B) hX rfl hm (λk hk=>(fR hk).1) rfl f hO code [] (by simp [bE,dL,hf,hbody]) hcode' n s0 c0 a0 _ (r,os') _ he h0 hplain λex s' c9 a' hex hr9 hn'=>?_
  obtain ⟨c',hr',hL⟩:=Rel.shut (B:=B) hgood rfl _ c9 a' rfl hr9
  have hfin:sX X fn os.length s'=some (r,os')->∃v,(results fn a'.tmps).run X.P c'.w=.ok v c'.w/\∃c2 x,Ending.returned v=.returned x/\c2.w=c'.w/\Good X.G c2 /\
   Frame {c0:=c0,D:=held c0 (af os ae),K:=live (af os ae),G:=X.G,N:=0} c2 /\
   Objs c2 (af os' ae)/\Rep c2 r x/\(∀k∈r.keys,live (af os' ae) k) /\
   ∀k o b,alook (af os' ae) k=some o->excl c2 k o b->c0.w.heap.size<=b∨held c0 (af os ae) b:=by
   intro hfin
   unfold sX at hfin
   obtain ⟨rs,h1,hfin⟩:=ai hfin
   obtain ⟨⟨rs',o1⟩,h2,hfin⟩:=ai hfin
   dsimp only at hfin
   obtain ⟨os1,h3,hfin⟩:=ai hfin
   obtain ⟨hb,hfin⟩:=bD hfin
   simp only [Option.some.injEq,Prod.mk.injEq] at hfin
   obtain ⟨hres,rfl⟩:=hfin
   simp only [Bool.and_eq_true] at hb
   obtain ⟨xs,hs,hrun⟩:=fJ X hr' hn' h1
   obtain ⟨c2,e1,e2,e3,e4,e5⟩:∃c2:Cx,c2.w=c'.w/\Rel B c2 (s'.with o1) {a' with defers:=[]}/\dg B c2 (s'.with o1) rs' xs/\(∀k,live s'.objs k->live o1 k)/\Ext c' c2 (live s'.objs):=by
    obtain ⟨q1,q2⟩:=Prod.mk.inj (Option.some.inj h2)
    subst q1 q2
    exact ⟨c',rfl,hr',hs,λ_ h=>h,Ext.refl _ _⟩
   have hs2:=e3
   have hfn:=hs2.fn
   generalize hr0:(match rs' with | [v]=>v | vs=>AV.tup vs)=r0 at hres
   subst hres
   let ks:=(List.range os.length).map (ae+·)
   let all:=ks++b8 ks (bp o1 (ks++au (rs')))
   have hbase:ks.Nodup:=(List.cR os.length)
   have hall:all.Nodup:=List.nodup_append.2 ⟨hbase,e8 (ea _ _).1,λx hx y hy e=>(fu hy).2 (e ▸ hx)⟩
   obtain ⟨hren,hkey,hlook,hlive⟩:=rb e2.objs hall h3 (bH hb.2)
   obtain ⟨v,hv,hrv,hrk⟩:∃v,(results fn a'.tmps).run X.P c'.w=.ok v c'.w/\Rep c2 r0 v/\∀k∈r0.keys,k∈au (rs'):=by
    have hm':(fn.results.mapM (m:=Sem) (AU a'.tmps)).run X.P c'.w=.ok xs.toArray c'.w:=by
     rw [Array.mapM_eq_mapM_toList]
     simp only [Sem.run_map]
     rw [hrun];rfl
    have hres':∀ (v:Value),(if h:xs.toArray.size=1 then xs.toArray[0] else Value.tuple xs.toArray)=v->(results fn a'.tmps).run X.P c'.w=.ok v c'.w:=by
     intro v hv
     rw [lL]
     simp only [Sem.run_bind,hm',Result.andThen_ok]
     rw [hv];rfl
    by_cases h1:xs.length=1
    ·obtain ⟨x,rfl⟩:=List.length_eq_one_iff.1 h1
     have hl:(rs').length=1:=by rw [<-hs2.1];rfl
     obtain ⟨u,hu⟩:=List.length_eq_one_iff.1 hl
     have hres:u=r0:=by rw [<-hr0,hu]
     subst hres
     refine ⟨x,hres' x (by simp),(hs2.2 0 u (by rw [hu];rfl)).rep,λk hk=>by rw [hu];simpa [au] using hk⟩
    ·have hl:(rs').length≠1:=by rw [<-hs2.1];exact h1
     have hr:r0=.tup (rs'):=by
      rw [<-hr0]
      cases h:rs' with
      | nil=>rfl
      | cons u l=>cases l with
       | nil=>rw [h] at hl;simp at hl
       | cons _ _=>rfl
     rw [hr]
     refine ⟨.tuple xs.toArray,hres' _ (by rw [dif_neg];simpa using h1),.tup _ _ hfn.1 hfn.2.1,λk hk=>by simpa [AV.keys] using hk⟩
   let c3:Cx:={w:=c2.w,I:=c2.I,β:=λq=>c2.β (eP all (q - ae)),κ:=λq=>c2.κ (eP all (q - ae)),fr:=λq=>c2.fr (eP all (q - ae))}
   have hb0:∀k,live (af os ae) k->eP all (k - ae)=k:=by
    intro k hk
    obtain ⟨g1,g2⟩:=fR hk
    refine cE ?_
    show (ks++_)[k - ae]?=some k
    rw [List.getElem?_append_left (by simpa [ks] using g2)]
    simp [ks,g2];omega
   have hown:∀k,live (af os ae) k->∀n y,aG c2 (.key k) n y->aG c3 (.key k) n y:=λk hk n y=>by
    simp only [aG,c3,hb0 k hk];exact id
   refine ⟨v,hv,c3,v,rfl,e1,⟨e2.good.there,λg cs hg=>(e2.good.globs g cs hg).ext (ks:=λ_=>False) ⟨λ_ _ _ _ hv=>hv,λ_ _ hi=>hi,λ_ hk=>hk.elim,λ_ hk=>hk.elim,λ_ _ _ _ hv _=>hv⟩ (by simp [AV.keys])⟩,
    ⟨e2.frame.os,e2.frame.output,e2.frame.tape,e2.frame.size,e2.frame.block,⟨e2.frame.ext.cell,e2.frame.ext.I,λk hk=>by show c2.β (eP all (k - ae))=_;rw [hb0 k hk];exact e2.frame.ext.β k hk,λk hk n y hy=>hown k hk n y (e2.frame.ext.own k hk n y hy),e2.frame.ext.map⟩,e2.frame.new⟩,
    hren,Rep.ren (c:=c2) (c':=c3) (λ_ _ _ _ hv=>hv) (λ_ _ hi=>hi) (λ_ _ _ _ hv _=>hv) hrv λq hq=>hkey q (bH hb.1 q (hrk q hq)),λk hk=>?_,λk o b ho hb'=>?_⟩
   ·obtain ⟨q,hq,rfl⟩:=dT _ _ k hk
    exact hlive q (bH hb.1 q (hrk q hq))
   ·obtain ⟨q,o0,hq,rfl,g1,rfl⟩:=hlook k o ho
    have:excl c3 (ae+idxOf all q 0) (o0.ren λk=>ae+idxOf all k 0)=excl c2 q o0:=dV (by show c2.β (eP all (ae+idxOf all q 0 - ae))=_;rw [Nat.add_sub_cancel_left,cE (bP 0 hq)]) (by show c2.κ (eP all (ae+idxOf all q 0 - ae))=_;rw [Nat.add_sub_cancel_left,cE (bP 0 hq)])
    rw [this] at hb'
    exact e2.mine q o0 b g1 hb'
  cases ex with
  | exit id=>simp at hex
  | nor=>exact hL _ _ _ _ _ _ (hfin hex)
  | ret=>exact hL _ _ _ _ _ _ (hfin hex)
theorem B2 {V:Env} {T:List Ent} {d:Nat} {C L:List (List Nat×Orc)} {W:List (List Nat×Vw)} {f:FuncId} {n:Nat} {l:List AV} {os:List AO} {r:AV×List AO} (hm:V.P.follows .mixedOrders=true) (hP:iQ V.P) (hT:tB V T)
  (hC:∀e∈C,mP (V.run T d C L W f) f e.1 e.2) (hL:∀e∈L,bq (V.run T d C L W f) f e.1 e.2) (hW:∀e∈W,gm e.2) (he:wG (V.run T d C L W f) n f l os=some r):Ct V.P V.G f l os r:=by
 have hO:OracOk (V.run T d C L W f) f:=by
  refine ⟨λp g hg=>?_,λp g hg=>?_,λp g hg=>?_,λp g hg=>?_⟩
  ·cases hg
  ·simp only [Env.run,Nat.beq_refl,cond_true] at hg
   exact hW _ (eD hg)
  ·simp only [Env.run,Nat.beq_refl,cond_true] at hg
   exact hL _ (eD hg)
  ·simp only [Env.run,Nat.beq_refl,cond_true] at hg
   exact hC _ (eD hg)
 have hh:=he
 unfold wG at hh
 cases hf:(V.run T d C L W f).P.funcs[f]? with
 | none=>simp only [hf] at hh;cases hh
 | some fn=>
  have hf':V.P.funcs[f]?=some fn:=hf
  obtain ⟨h1,h2⟩:=hP f fn hf'
  refine ⟨rN (X:=V.run T d C L W f) (jz hm hP hT d C L W f) hm hO hf h2 he,fn,hf',h1,?_⟩
  cases hb:fn.body with
  | none=>simp only [hf,hb] at hh;cases hh
  | some c=>rfl
end Go.Ab

namespace Go.Ab
open Go Go.RowKit
variable {B:Base} {c:Cx} {s:St} {a:Act}
def Told (cs cs':List AV):Prop:=cs'.length=cs.length/\au cs'=[]/\∀ (i:Nat) (u u':AV),cs[i]?=some u->cs'[i]?=some u'->u'.one=true/\∀c x,Rep c u x->Rep c u' x
inductive ObjLe:AO->AO->Prop
 | same (o):ObjLe o o
 | cells (cs cs'):Told cs cs'->ObjLe (.cells cs) (.cells cs')
 | grw (q sz n get get'):(∀j,j < n->get' j=get j)->ObjLe (.grw q sz n get) (.grw q sz n get')
 | mp (ka ks d g g'):(∀l,d l=true->g' l=g l)->ObjLe (.mp ka ks d g) (.mp ka ks d g')
inductive ObjsLe:List (Nat×AO)->List (Nat×AO)->Prop
 | nil:ObjsLe [] []
 | cons (k o o' r r'):ObjLe o o'->ObjsLe r r'->ObjsLe ((k,o)::r) ((k,o')::r')
theorem ObjsLe.look {l l':List (Nat×AO)} (h:ObjsLe l l') (k:Nat):(alook l k=none/\alook l' k=none)∨∃o o',alook l k=some o/\alook l' k=some o'/\ObjLe o o':=by
 induction h with
 | nil=>exact .inl ⟨rfl,rfl⟩
 | cons q o o' r r' h1 _ ih=>
  simp only [alook]
  cases hb:Nat.beq q k with
  | true=>exact .inr ⟨o,o',rfl,rfl,h1⟩
  | false=>exact ih
theorem ObjLe.excl {o o':AO} (h:ObjLe o o') (k:Nat):excl c k o'=excl c k o:=by cases h <;> rfl
theorem ObjLe.keys {o o':AO} (h:ObjLe o o'):o'=o∨o'.keys=[]:=by
 cases h with
 | same=>exact .inl rfl
 | cells cs cs' h=>exact .inr h.2.1
 | grw sq sz n get get' h=>exact .inr rfl
 | mp ka ks d g g' h=>exact .inr rfl
theorem ObjLe.rep {o o':AO} (h:ObjLe o o') {k:Nat} (hr:dh c k o):dh c k o':=by
 cases h with
 | same=>exact hr
 | cells cs cs' h=>
  obtain ⟨⟨⟨vs,t,hh,hs,hv⟩,h1⟩,hI,hf⟩:=hr
  have hg:∀ (i:Nat) (u':AV),cs'[i]?=some u'->∃u,cs[i]?=some u:=λi u' hu=>by
   have:=(List.getElem?_eq_some_iff.1 hu).1
   rw [h.1] at this
   exact ⟨_,List.getElem?_eq_getElem this⟩
  refine ⟨⟨⟨vs,t,hh,by rw [h.1];exact hs,λi u' hu=>?_⟩,λi u' hu=>?_⟩,hI,hf⟩
  ·obtain ⟨u,hu0⟩:=hg i u' hu
   exact (h.2.2 i u u' hu0 hu).2 _ _ (hv i u hu0)
  ·obtain ⟨u,hu0⟩:=hg i u' hu
   exact (h.2.2 i u u' hu0 hu).1
 | grw sq sz n get get' h=>
  obtain ⟨h0,hfr,hm⟩:=hr
  refine ⟨h0,hfr,?_⟩
  cases hc:c.κ k with
  | none=>simp only [hc] at hm;exact hm
  | some p=>
   obtain ⟨a,cap⟩:=p
   simp only [hc] at hm ⊢
   refine ⟨hm.1,λhlt=>?_⟩
   obtain ⟨⟨vs,t,hh,hs,hv⟩,had,hl,h1,hfree⟩:=hm.2 hlt
   exact ⟨⟨vs,t,hh,hs,λj i u hj hu=>hv j i u hj (by rwa [h j hj] at hu)⟩,had,λj hj=>by rw [h j hj];exact hl j hj,λj i u hj hu=>h1 j i u hj (by rwa [h j hj] at hu),hfree⟩
 | mp ka ks d g g' h=>
  obtain ⟨⟨⟨es,cl,ms,h1,h2,h3,h4⟩,h5⟩,h6⟩:=hr
  exact ⟨⟨⟨es,cl,ms,h1,h2,λm hm=>⟨(h3 m hm).1,(h3 m hm).2.1,by rw [h _ (h3 m hm).2.1];exact (h3 m hm).2.2⟩,h4⟩,λl hl hd=>by rw [h l hd];exact h5 l hl hd⟩,h6⟩
end Go.Ab

namespace Go.Ab
open Go Go.RowKit
variable {B:Base} {c:Cx} {s:St} {a:Act}
open Classical in
theorem rG {α:Type} [Inhabited α] (S S':α->St) (Inv:α->Prop) (hS:∀v,Inv v->∀ (B:Base) (c:Cx) (a:Act),Rel B c (S v) a->bg (S v)->∃c',c'.w=c.w/\Rel B c' (S' v) a/\bg (S' v)):gm (mkV (pz S Inv) (uQ S Inv id) S'):=by
 intro s k r h
 unfold mkV at h
 obtain ⟨hg,h⟩:=bD h
 have hx:∃v,Inv v/\S v=s:=of_decide_eq_true hg
 unfold uQ at h
 rw [dif_pos hx,id] at h
 obtain ⟨h1,h2⟩:=hx.choose_spec
 exact ⟨_,h,λB c a hr hn=>hS _ h1 B c a (by rw [h2];exact hr) (by rw [h2];exact hn)⟩
end Go.Ab

namespace Go.Ab
open Go
variable {B:Base} {c:Cx} {s:St} {a:Act}
theorem kM {o:Own} {sz n:Nat} {get get':Nat->List AV} {x:Value} (h:Rep c (.sl o sz n get) x) (hg:∀j,j < n->get' j=get j):Rep c (.sl .no sz n get') x:=by
 cases h with
 | slNil _ _ _ _=>exact .slNil .no _ _ trivial
 | sl _ _ _ _ ad cap vals h1 h2 h3 h4 h5 h6=>
  exact .sl .no sz n get' ad cap vals h1 h2 trivial (λj hj=>by rw [hg j hj];exact h4 j hj) (λj i u hj=>by rw [hg j hj];exact h5 j i u hj) (λj i u hj=>by rw [hg j hj];exact h6 j i u hj)
theorem wg (h:Rel B c s a) (hn:bg s) {t:Nat} {o:Own} {sz n:Nat} {get get':Nat->List AV} (hv:s.get t=some (.sl o sz n get)) (hg:∀j,j < n->get' j=get j) :
  Rel B c (s.put (some t) (.sl .no sz n get')) a/\bg (s.put (some t) (.sl .no sz n get')):=by
 have hr:Rep c (.sl o sz n get) (a.tmps.getD t undef):=h.env t _ hv
 have e:Sees B c s (.sl .no sz n get') (a.tmps.getD t undef):=⟨kM hr hg,λk hk=>by simp [AV.keys] at hk,rfl⟩
 exact ⟨h.reslot e hn,hn.put e.plain⟩
theorem wP {o:Own} {sz sz':Nat} {get get':Nat->List AV} {x:Value} (h:Rep c (.sl o sz 0 get) x):Rep c (.sl .no sz' 0 get') x:=by
 cases h with
 | slNil _ _ _ _=>exact .slNil .no _ _ trivial
 | sl _ _ _ _ ad cap vals h1 h2 h3 h4 h5 h6=>
  exact .sl .no sz' 0 get' ad cap vals h1 h2 trivial (λj hj=>absurd hj (Nat.not_lt_zero _)) (λj i u hj=>absurd hj (Nat.not_lt_zero _)) (λj i u hj=>absurd hj (Nat.not_lt_zero _))
end Go.Ab

namespace Go.Ab
open Go
def yG (s:St) (t:Nat):St:=
 match s.get t with
 | some (.sl _ sz n get)=>s.put (some t) (.sl .no sz n get)
 | _=>s
def wA:List Nat->St->St
 | [],s=>s
 | t::r,s=>wA r (yG s t)
def AJ (ts:List Nat):Vw:=λs k=>k (wA ts s)
theorem yF {B:Base} {c:Cx} {s:St} {a:Act} (h:Rel B c s a) (hn:bg s) (t:Nat):Rel B c (yG s t) a/\bg (yG s t):=by
 unfold yG
 split
 ·rename_i o sz n get hv
  exact wg h hn hv λ_ _=>rfl
 ·exact ⟨h,hn⟩
theorem tK {B:Base} {c:Cx} {a:Act}:∀ (ts:List Nat) (s:St),Rel B c s a->bg s->Rel B c (wA ts s) a/\bg (wA ts s)
 | [],s,h,hn=>⟨h,hn⟩
 | t::r,s,h,hn=>by
  have:=yF h hn t
  exact tK r _ this.1 this.2
theorem tJ (ts:List Nat):gm (AJ ts):=λs k r h=>⟨wA ts s,h,λB c a hr hn=>⟨c,rfl,tK ts s hr hn⟩⟩
def Jw {T:Type} (n m:Nat) (f g:Nat->T):Nat->T:=λj=>bif Nat.blt j n then f j else bif Nat.blt j (n+m) then g (j - n) else f j
theorem gk {T:Type} (R:T->List AV) (n m:Nat) (f g:Nat->T):ar n m (λj=>R (f j)) (λj=>R (g j))=λj=>R (Jw n m f g j):=by
 funext j
 unfold ar Jw
 cases Nat.blt j n <;> cases Nat.blt j (n+m) <;> rfl
end Go.Ab

namespace Go.Ab
open Go
variable {B:Base} {c:Cx} {s:St} {a:Act}
end Go.Ab

namespace Go.Ab
open Go Go.RowKit
theorem Cd {c:Cx} {us us':List AV} {v:Value} (hl:us'.length=us.length) (hm:∀ (i:Nat) (u u':AV),us[i]?=some u->us'[i]?=some u'->u'.one=true/\∀x,Rep c u x->Rep c u' x) (h:Rep c (.agg us) v):Rep c (.agg us') v:=by
 cases h with
 | agg _ vs h1 h2 h3=>
  have hg:∀ (i:Nat) (u':AV),us'[i]?=some u'->∃u,us[i]?=some u:=λi u' hu=>by
   have:=(List.getElem?_eq_some_iff.1 hu).1
   exact ⟨us[i]'(by omega),List.getElem?_eq_getElem (by omega)⟩
  refine .agg _ vs (by rw [hl];exact h1) (λi u' hu=>?_) (λi u' hu=>?_)
  ·obtain ⟨u,h⟩:=hg i u' hu
   exact (hm i u u' h hu).1
  ·obtain ⟨u,h⟩:=hg i u' hu
   exact (hm i u u' h hu).2 _ (h3 i u h)
def tA (u u':AV):Prop:=u'.one=true/\∀c x,Rep c u x->Rep c u' x
theorem tA.same {u:AV} (h:u.one=true):tA u u:=⟨h,λ_ _ h=>h⟩
inductive TellL:List AV->List AV->Prop
 | nil:TellL [] []
 | cons {u u':AV} {l l':List AV}:tA u u'->TellL l l'->TellL (u::l) (u'::l')
theorem TellL.len {l l':List AV} (h:TellL l l'):l'.length=l.length:=by
 induction h with
 | nil=>rfl
 | cons _ _ ih=>rw [List.length_cons,List.length_cons,ih]
theorem TellL.at {l l':List AV} (h:TellL l l'):∀ (i:Nat) (u u':AV),l[i]?=some u->l'[i]?=some u'->tA u u':=by
 induction h with
 | nil=>intro i u u' h;simp at h
 | cons h1 _ ih=>
  intro i u u' h h'
  cases i with
  | zero=>
   simp only [List.getElem?_cons_zero,Option.some.injEq] at h h'
   rw [<-h,<-h'];exact h1
  | succ i=>
   simp only [List.getElem?_cons_succ] at h h'
   exact ih i u u' h h'
theorem iP {c:Cx} {l l':List AV} {v:Value} (h:TellL l l') (hr:Rep c (.agg l) v):Rep c (.agg l') v:=
 Cd h.len (λi u u' hu hu'=>⟨(h.at i u u' hu hu').1,λx hx=>(h.at i u u' hu hu').2 c x hx⟩) hr
theorem cz {o:Own} {sz sz':Nat} {get get':Nat->List AV}:tA (.sl o sz 0 get) (.sl .no sz' 0 get'):=⟨rfl,λc x h=>wP h⟩
theorem ff {o:Own} {sz n:Nat} {get get':Nat->List AV} (hg:∀j,j < n->get' j=get j):tA (.sl o sz n get) (.sl .no sz n get'):=⟨rfl,λc x h=>kM h hg⟩
theorem yy {c:Cx} {l l':List AV} {v:Value} (h:TellL l l') (hr:Rep c (.tup l) v):Rep c (.tup l') v:=by
 cases hr with
 | tup _ vs h1 h2=>
  refine .tup _ vs (by rw [h.len];exact h1) λi u' hu=>?_
  have hlt:i < l.length:=by rw [<-h.len];exact (List.getElem?_eq_some_iff.1 hu).1
  have hu0:l[i]?=some l[i]:=List.getElem?_eq_getElem hlt
  exact (h.at i _ u' hu0 hu).2 _ _ (h2 i _ hu0)
end Go.Ab

namespace Go.Ab
open Go Go.RowKit
def db (w:World):Cx:={w:=w,I:=λb o=>∃v,w.cell? ⟨b,o,none⟩=some v,β:=λ_=>0,κ:=λ_=>none,fr:=λ_=>none}
theorem qm (w:World):Objs (db w) []:=⟨λ_ _ h=>by simp [alook] at h,λ_ _ _ _ _ h=>by simp [alook] at h,λ_ _ h=>by simp [alook] at h⟩
def yd (w:World):List AV->List Value->Prop
 | [],[]=>True
 | u::l,x::xs=>(Rep (db w) u x/\u.keys=[])/\yd w l xs
 | _,_=>False
theorem yd.spec {w:World}:∀ {l:List AV} {xs:List Value},yd w l xs->xs.length=l.length/\au l=[]/\∀ (i:Nat) (u:AV),l[i]?=some u->Rep (db w) u (xs.getD i undef)
 | [],[],_=>⟨rfl,rfl,by simp⟩
 | u::l,x::xs,h=>by
  obtain ⟨⟨h1,h2⟩,h3⟩:=h
  obtain ⟨e1,e2,e3⟩:=h3.spec
  refine ⟨by simp [e1],by simp [au,h2,e2],λi v hv=>?_⟩
  cases i with
  | zero=>simp at hv;subst hv;exact h1
  | succ i=>simpa using e3 i v (by simpa using hv)
def zc (P:Program):Bool:=P.funcs.toList.all λfn=>!(fn.name=="runtime.NumGoroutine")&&(match fn.body with
 | none=>true
 | some c=>codeOk fn.ntmps c)
theorem vt {P:Program} (h:zc P=true):iQ P:=by
 intro f fn hf
 have:=List.all_eq_true.1 h fn (by simpa using Array.mem_of_getElem? hf)
 simp only [Bool.and_eq_true,Bool.not_eq_true'] at this
 refine ⟨this.1,λc hc=>?_⟩
 have h2:=this.2
 rw [hc] at h2;exact h2
end Go.Ab

namespace Go.Ab
open Go
set_option linter.unusedSectionVars false
structure Wd where
 P:Program
 G:Nat->Option (List AV)
class EnvOk (V:Env) (D:Wd):Prop where
 p:V.P=D.P
 g:V.G=D.G
 mixed:V.P.follows .mixedOrders=true
 funcs:iQ V.P
class TabI (D:Wd) (T:List Ent):Prop where
 ok:∀e∈T,∀l os,e.pre l os=true->Ct D.P D.G e.f l os (e.ans l os)
theorem TabI.tab {V:Env} (D:Wd) {T:List Ent} [h:EnvOk V D] [t:TabI D T]:tB V T:=by
 unfold tB;rw [h.p,h.g];exact t.ok
def bz {τ:Type} (D:Wd) (f:FuncId) (φ:τ->AV×List AO) (R:List AV->List AO->τ->Prop) (l:List AV) (os:List AO):Prop:=∃x,R l os x/\Ct D.P D.G f l os (φ x)
theorem Ct.objs {P:Program} {G:Nat->Option (List AV)} {f:FuncId} {l:List AV} {os o1 o2:List AO} {r:AV} (h:Ct P G f l os (r,o1)) (hw:ObjsLe (af o1 ae) (af o2 ae)):Ct P G f l os (r,o2):=by
 have hlive:∀k,live (af o1 ae) k->live (af o2 ae) k:=λk hk=>by
  obtain ⟨o,hk⟩:=hk
  rcases hw.look k with ⟨h1,_⟩ | ⟨_,o',_,h2,_⟩
  ·rw [h1] at hk;cases hk
  ·exact ⟨o',h2⟩
 have hback:∀ {k o'},alook (af o2 ae) k=some o'->∃o,alook (af o1 ae) k=some o/\ObjLe o o':=fun {k o'} hk=>by
  rcases hw.look k with ⟨_,h1⟩ | ⟨o,o2,h1,h2,h3⟩
  ·rw [h1] at hk;cases hk
  ·rw [h2] at hk;cases hk;exact ⟨o,h1,h3⟩
 refine ⟨λc0 vs hg ho hs hr hl=>(h.1 c0 vs hg ho hs hr hl).mono ?_,h.2⟩
 rintro e w' ⟨c',x,h1,h2,h3,h4,h5,h6,h7,h8⟩
 refine ⟨c',x,h1,h2,h3,h4,⟨λk o' hk=>?_,λk o' q o3 b hk hq hne hb=>?_,λk o' hk q hq=>?_⟩,h6,λk hk=>hlive k (h7 k hk),λk o' b hk hb=>?_⟩
 ·obtain ⟨o,e1,e2⟩:=hback hk
  exact e2.rep (h5.rep k o e1)
 ·obtain ⟨o,e1,e2⟩:=hback hk
  obtain ⟨o4,e3,e4⟩:=hback hq
  rw [e4.excl]
  rw [e2.excl] at hb
  exact h5.apart k o q o4 b e1 e3 hne hb
 ·obtain ⟨o,e1,e2⟩:=hback hk
  rcases e2.keys with rfl | h0
  ·exact hlive q (h5.closed k _ e1 q hq)
  ·rw [h0] at hq;cases hq
 ·obtain ⟨o,e1,e2⟩:=hback hk
  rw [e2.excl] at hb
  exact h8 k o b e1 hb
def Tr (r r':AV×List AO):Prop:=(r'.1=r.1∨r'.1.keys=[]/\∀c v,Rep c r.1 v->Rep c r'.1 v)/\(r'.2=r.2∨ObjsLe (af r.2 ae) (af r'.2 ae))
theorem Tr.refl (r:AV×List AO):Tr r r:=⟨.inl rfl,.inl rfl⟩
theorem Tr.ct {P:Program} {G:Nat->Option (List AV)} {f:FuncId} {l:List AV} {os:List AO} {r r':AV×List AO} (h:Tr r r') (hc:Ct P G f l os r):Ct P G f l os r':=by
 obtain ⟨v,o⟩:=r
 obtain ⟨v',o'⟩:=r'
 obtain ⟨h1,h2⟩:=h
 have hc':Ct P G f l os (v',o):=by
  rcases h1 with h1 | ⟨h1,h3⟩
  ·have h1:v'=v:=h1
   rw [h1];exact hc
  ·exact Ct.res hc h1 h3
 rcases h2 with h2 | h2
 ·have h2:o'=o:=h2
  rw [h2];exact hc'
 ·exact Ct.objs hc' h2
theorem Tr.agg {cs cs':List AV} {os:List AO} (h:TellL cs cs') (hk:au cs'=[]:=by rfl):Tr (.agg cs,os) (.agg cs',os):=⟨.inr ⟨hk,λ_ _ hr=>iP h hr⟩,.inl rfl⟩
theorem Tr.tup {cs cs':List AV} {os:List AO} (h:TellL cs cs') (hk:au cs'=[]:=by rfl):Tr (.tup cs,os) (.tup cs',os):=⟨.inr ⟨hk,λ_ _ hr=>yy h hr⟩,.inl rfl⟩
theorem Tr.one {u u':AV} {os:List AO} (h:tA u u') (hk:u'.keys=[]:=by rfl):Tr (u,os) (u',os):=⟨.inr ⟨hk,λ_ _ hr=>h.2 _ _ hr⟩,.inl rfl⟩
def Run {τ:Type} (Post:τ->Prop) (φ:τ->AV×List AO) (e:Res):Prop:=∃x r,Post x/\Tr r (φ x)/\e=some r
section
variable {τ:Type} {Post:τ->Prop} {φ:τ->AV×List AO}
theorem Run.n {c:Bool} {a:Res} (h:c=true) (h1:Run Post φ a):Run Post φ (cond c a none):=by subst h;exact h1
theorem Run.nn {c:Bool} {a:Res} (h:c=false) (h1:Run Post φ a):Run Post φ (cond c none a):=by subst h;exact h1
theorem Run.yes {c:Bool} {a b:Res} (h:c=true) (h1:Run Post φ a):Run Post φ (cond c a b):=by subst h;exact h1
theorem Run.b {a b:Res} (c:Bool) (h1:c=true->Run Post φ a) (h2:c=false->Run Post φ b):Run Post φ (cond c a b):=cx (Q:=Run Post φ) h1 h2
theorem Run.r (x:τ) (h:Post x):Run Post φ (some (φ x)):=⟨x,_,h,Tr.refl _,rfl⟩
theorem Run.t (x:τ) {r:AV×List AO} (h:Post x) (ht:Tr r (φ x)):Run Post φ (some r):=⟨x,r,h,ht,rfl⟩
theorem Run.lp {α:Type} {g:St->Bool} {w:St->α} {s:St} {Q:α->Prop} {T:α->Res} (h:aW g w s Q) (k:∀t,Q t->Run Post φ (T t)):Run Post φ (cond (g s) (T (w s)) none):=Run.n h.1 (k _ h.2)
end
section
variable {τ:Type} [Inhabited τ] (D:Wd) (f:FuncId) (φ:τ->AV×List AO) (R:List AV->List AO->τ->Prop)
open Classical in
noncomputable def gR (l:List AV) (os:List AO):Bool:=decide (bz D f φ R l os)
open Classical in
noncomputable def wR (l:List AV) (os:List AO):τ:=if h:bz D f φ R l os then h.choose else default
noncomputable def dK:Ent:=mkE f (gR D f φ R) (wR D f φ R) φ
end
section
variable {τ σ:Type} [Inhabited σ] {D:Wd} {f:FuncId} {φ:τ->AV×List AO} {ψ:σ->AV×List AO} {R:List AV->List AO->σ->Prop} {Post:τ->Prop} {l:List AV} {os:List AO}
open Classical in
theorem bz.at (h:bz D f ψ R l os):gR D f ψ R l os=true/\R l os (wR D f ψ R l os)/\Ct D.P D.G f l os (ψ (wR D f ψ R l os)):=by
 refine ⟨decide_eq_true h,?_⟩
 unfold wR
 rw [dif_pos h]
 exact h.choose_spec
instance tabI_nil:TabI D []:=⟨λ_ h=>(List.not_mem_nil h).elim⟩
open Classical in
instance tabI_cons {T:List Ent} [t:TabI D T]:TabI D (dK D f ψ R::T):=⟨λe he l os hp=>by
 rcases List.mem_cons.1 he with rfl | he
 ·exact (bz.at (of_decide_eq_true hp)).2.2
 ·exact t.ok e he l os hp⟩
theorem Run.call {T:σ->Res} (h:bz D f ψ R l os) (k:∀t,R l os t->Run Post φ (T t)):Run Post φ (cond (gR D f ψ R l os) (T (wR D f ψ R l os)) none):=Run.n h.at.1 (k _ h.at.2.1)
theorem bz.mono {R':List AV->List AO->σ->Prop} (h:bz D f ψ R l os) (hm:∀x,R l os x->R' l os x):bz D f ψ R' l os:=by
 obtain ⟨x,h1,h2⟩:=h
 exact ⟨x,hm x h1,h2⟩
end
def runK (k:Nat) (X:Cfg) (f:FuncId) (l:List AV) (os:List AO):Res:=
 match k with
 | 0=>yJ X 9 f l os
 | 1=>wH X 9 f l os
 | _=>wG X 9 f l os
section
variable {τ:Type} {V:Env} {D:Wd} {f:FuncId} {φ:τ->AV×List AO} {R:List AV->List AO->τ->Prop} {l:List AV} {os:List AO}
def ye (X:Cfg) (f:FuncId) (L:List (List Nat×Orc)):Prop:=∀e∈L,bq X f e.1 e.2
theorem ao {X:Cfg}:ye X f []:=λ_ h=>(List.not_mem_nil h).elim
theorem aE {X:Cfg} {p:List Nat} {g:Orc} {r:List (List Nat×Orc)} (h:bq X f p g) (hr:ye X f r):ye X f ((p,g)::r):=qM h hr
def tz (W:List (List Nat×Vw)):Prop:=∀e∈W,gm e.2
theorem ak:tz []:=λ_ h=>(List.not_mem_nil h).elim
theorem fP {p:List Nat} {g:Vw} {r:List (List Nat×Vw)} (h:gm g) (hr:tz r):tz ((p,g)::r):=λx hx=>by
 rcases List.mem_cons.1 hx with rfl | hx
 ·exact h
 ·exact hr x hx
theorem vE [h:EnvOk V D] (k:Nat) {d:Nat} {T:List Ent} [TabI D T] {C L:List (List Nat×Orc)} {W:List (List Nat×Vw)} (hC:∀e∈C,mP (V.run T d C L W f) f e.1 e.2) (hL:ye (V.run T d C L W f) f L) (hW:tz W) {e:Res} (h1:Run (R l os) φ e) (he:runK k (V.run T d C L W f) f l os=e):bz D f φ R l os:=by
 obtain ⟨x,r,hx,ht,ex⟩:=h1
 refine ⟨x,hx,ht.ct ?_⟩
 rw [<-h.p,<-h.g]
 rw [ex] at he
 match k with
 | 0=>exact xX h.mixed h.funcs (TabI.tab D) hC hL hW he
 | 1=>exact B3 h.mixed h.funcs (TabI.tab D) hC hL hW he
 | k+2=>exact B2 h.mixed h.funcs (TabI.tab D) hC hL hW he
theorem bn [h:EnvOk V D] (k:Nat) {d:Nat} {T:List Ent} [TabI D T] {L:List (List Nat×Orc)} {W:List (List Nat×Vw)} (hL:ye (V.run T d [] L W f) f L) (hW:tz W) {e:Res} (h1:Run (R l os) φ e) (he:runK k (V.run T d [] L W f) f l os=e):bz D f φ R l os:=
 vE k (λ_ h=>(List.not_mem_nil h).elim) hL hW h1 he
end
section
variable {α τ ι:Type}
def qS:Code->Bool
 | .loop _=>true
 | _=>false
variable {S:α->St} {Inv:α->Prop} {μ:α->Nat} {out:τ->(Ex->St->Res)->Res} {Post:α->τ->Prop} {v:α}
theorem RT.call {σ:Type} [Inhabited σ] {D:Wd} {f:FuncId} {ψ:σ->AV×List AO} {R:List AV->List AO->σ->Prop} {l:List AV} {os:List AO} {T:σ->ι->(Ex->St->Res)->(St->Res)->Res} (h:bz D f ψ R l os) (k:∀t,R l os t->RT S Inv μ out Post v (T t)) :
  RT S Inv μ out Post v (λi k kn=>cond (gR D f ψ R l os) (T (wR D f ψ R l os) i k kn) none):=RT.t h.at.1 (k _ h.at.2.1)
theorem RT.lp {β:Type} {g:St->Bool} {w:St->β} {s:St} {Q:β->Prop} {T:β->ι->(Ex->St->Res)->(St->Res)->Res} (h:aW g w s Q) (k:∀t,Q t->RT S Inv μ out Post v (T t)) :
  RT S Inv μ out Post v (λi k kn=>cond (g s) (T (w s) i k kn) none):=RT.t h.1 (k _ h.2)
theorem RT.go {Post:τ->Prop} (s:St) (v':α) (h:Inv v') (hm:μ v' < μ v) (hs:s=S v'):RT S Inv μ out (λ_ o=>Post o) v (λ(_:ι) (_:Ex->St->Res) (kn:St->Res)=>kn s):=RT.nx s v' h hm (λ_ h=>h) hs
theorem RT.to {Post:τ->Prop} (v':α) (h:Inv v') (hm:μ v' < μ v):RT S Inv μ out (λ_ o=>Post o) v (λ(_:ι) (_:Ex->St->Res) (kn:St->Res)=>kn (S v')):=RT.go _ v' h hm rfl
theorem n3 {a b:Bool} (h:(bif a then b else false)=true):a=true:=by
 cases a
 ·cases h
 ·rfl
theorem vK {a b:Bool} (h:(bif a then b else false)=true):b=true:=by
 cases a
 ·cases h
 ·exact h
theorem bX [Inhabited τ] {V:Env} {T:List Ent} {d:Nat} {Lf:ι->List (List Nat×Orc)} {W:List (List Nat×Vw)} {f:FuncId} {p:List Nat} (S:α->St) (Inv:α->Prop) (μ:α->Nat) (out:τ->(Ex->St->Res)->Res) (Post:τ->Prop) (hb:qS (dL (bE V.P f) p)=true)
  {e:α->ι->(Ex->St->Res)->(St->Res)->Res} (h1:∀v,Inv v->RT S Inv μ out (λ_ o=>Post o) v (e v)) (he:∀v i k kn,eO (V.run T d [] (Lf i) W f) f 9 p (S v) kn k=e v i k kn) :
  ∃ (u:St->Bool) (w:St->τ),(∀v,Inv v->aW u w (S v) Post)/\∀i,bq (V.run T d [] (Lf i) W f) f p (mkO u w out):=by
 obtain ⟨b,hb⟩:∃b,dL (bE V.P f) p=.loop b:=by
  cases hc:dL (bE V.P f) p with
  | loop b=>exact ⟨b,rfl⟩
  | _=>rw [hc] at hb;cases hb
 obtain ⟨w,hw,hl⟩:=sy (Xf:=λi=>V.run T d [] (Lf i) W f) (f:=f) (p:=p) (b:=b) S Inv μ out (λ_ o=>Post o) (λ_=>hb) 9 λv hv=>RT.eq (λi k kn=>he v i k kn) (h1 v hv)
 exact ⟨pz S Inv,uQ S Inv w,λv hv=>⟨k8 hv,jc (Post:=λ_ o=>Post o) hw (λ_ _ _ _ h=>h) hv⟩,hl⟩
end
def F5 (l:List (List UInt8)):AV:=.sl .no 1 l.length λj=>[.str (l.getD j [])]
mutual
def dcells:DataW Unit->List AV
 | .lit (.int k n)=>[.int k n]
 | .lit (.string s)=>[.str s]
 | .slice es _=>[F5 (dstrs es)]
 | .agg ps=>xV ps
 | _=>[]
def xV:List (DataW Unit)->List AV
 | []=>[]
 | d::r=>dcells d++xV r
def dstrs:List (DataW Unit)->List (List UInt8)
 | []=>[]
 | d::r=>dstr d++dstrs r
def dstr:DataW Unit->List (List UInt8)
 | .lit (.string s)=>[s]
 | _=>[]
end
def pn (n:Nat):List Nat:=go 60 n []
where go:Nat->Nat->List Nat->List Nat
 | 0,_,r=>r
 | k+1,n,r=>cond (Nat.ble n 1) r (go k (n / 2) (n % 2::r))
def tn (n:Nat) (k o:List Nat):List Nat×Hint:=tr (pn n) k o
def onD (l:List Nat) (o:Oper):Bool:=match o.dst with
 | some d=>l.any (Nat.beq d)
 | none=>false
end Go.Ab

namespace Go.Ab
open Go
def gh (j:Nat) (s:St):St:={env:=(1000000,.int .i64 j)::s.env,objs:=s.objs}
def tS (X:Cfg) (ps:List Nat) (x y:Code) (h:Hint) (N:Nat) (row:Nat->List AV) (j:Nat) (s:St) (kn:St->Res) (k:Ex->St->Res):Res:=
 cond (Nat.blt j N) (tT X ps x y h (row j) s λs'=>kn (gh (j+1) s')) (k .nor s)
structure RFun where
 g:Operand
 ps:Array Tmp
 x:Code
 y:Code
def Kn:Code->RFun
 | .rangeFunc g ps x y=>⟨g,ps,x,y⟩
 | _=>⟨.tmp 0,#[],.skip,.skip⟩
def D3:Code->Bool
 | .rangeFunc ..=>true
 | _=>false
abbrev pb (P:Program) (f:FuncId) (p:List Nat):RFun:=Kn (dL (bE P f) p)
section
variable {α τ ι:Type}
theorem Da [Inhabited τ] {Xf:ι->Cfg} (ps:List Nat) (x y:Code) (h:Hint) (N:Nat) (row:Nat->List AV) (S:α->St) (jx:α->Nat) (Inv:α->Prop) (μ:α->Nat) (out:τ->(Ex->St->Res)->Res) (Post:α->τ->Prop)
  (round:∀v,Inv v->RT (λv=>gh (jx v) (S v)) Inv μ out Post v λ(i:ι) (k:Ex->St->Res) (kn:St->Res)=>tS (Xf i) ps x y h N row (jx v) (S v) kn k) :
  ∃w:α->τ,(∀v,Inv v->Post v (w v))/\∀ (i:ι) (g:Operand) (cl:AV) (os:List (Nat×AO)),(∀v,Inv v->aP ⟨S v,(Xf i).G,[]⟩ g=some cl/\∀q∈os,(S v).obj q.1=some q.2)->
   ∀ (m:Nat) (v:α),Inv v->μ v<=m->∀k,tX (Xf i) g cl ps x y h os N row (m+1) (jx v) (S v) k=out (w v) k:=by
 have key:∀ (m:Nat) (v:α),Inv v->μ v<=m->∃o,Post v o/\∀ (i:ι) (g:Operand) (cl:AV) (os:List (Nat×AO)),(∀v,Inv v->aP ⟨S v,(Xf i).G,[]⟩ g=some cl/\∀q∈os,(S v).obj q.1=some q.2)->
   ∀ (m':Nat),m<=m'->∀k,tX (Xf i) g cl ps x y h os N row (m'+1) (jx v) (S v) k=out o k:=by
  intro m
  induction m with
  | zero=>
   intro v hv hm
   rcases round v hv with ⟨o,h1,h2⟩ | ⟨v',_,h3,_⟩
   ·refine ⟨o,h1,λi g cl os hcl m' _ k=>?_⟩
    obtain ⟨e1,e2⟩:=hcl v hv
    unfold tX
    rw [@decide_eq_true _ (Classical.propDecidable _) ⟨e1,e2⟩,cond_true]
    exact h2 i k λs''=>match s'' with
     | ⟨(_,.int _ z)::env,objs⟩=>tX (Xf i) g cl ps x y h os N row m' z.toNat ⟨env,objs⟩ k
     | _=>none
   ·omega
  | succ m ih=>
   intro v hv hm
   have hrng:∀ (i:ι) (g:Operand) (cl:AV) (os:List (Nat×AO)),(∀v,Inv v->aP ⟨S v,(Xf i).G,[]⟩ g=some cl/\∀q∈os,(S v).obj q.1=some q.2)->∀ (m':Nat) (k:Ex->St->Res),
     tX (Xf i) g cl ps x y h os N row (m'+1) (jx v) (S v) k=tS (Xf i) ps x y h N row (jx v) (S v) (λs''=>match s'' with
     | ⟨(_,.int _ z)::env,objs⟩=>tX (Xf i) g cl ps x y h os N row m' z.toNat ⟨env,objs⟩ k
     | _=>none) k:=by
    intro i g cl os hcl m' k
    obtain ⟨e1,e2⟩:=hcl v hv
    conv=>lhs;unfold tX
    rw [@decide_eq_true _ (Classical.propDecidable _) ⟨e1,e2⟩,cond_true]
    rfl
   rcases round v hv with ⟨o,h1,h2⟩ | ⟨v',h2,h3,h4,h5⟩
   ·exact ⟨o,h1,λi g cl os hcl m' _ k=>(hrng i g cl os hcl m' k).trans (h2 i k _)⟩
   ·obtain ⟨o,g1,g2⟩:=ih v' h2 (by omega)
    refine ⟨o,h4 o g1,λi g cl os hcl m' hm' k=>?_⟩
    obtain ⟨q,rfl⟩:∃q,m'=q+1:=⟨m' - 1,by omega⟩
    refine (hrng i g cl os hcl _ k).trans ((h5 i k _).trans ?_)
    show tX (Xf i) g cl ps x y h os N row (q+1) (jx v':Int).toNat ⟨(S v').env,(S v').objs⟩ k=_
    rw [Int.toNat_natCast]
    exact g2 i g cl os hcl q (by omega) k
 classical
 refine ⟨λv=>if hv:Inv v then (key (μ v) v hv (Nat.le_refl _)).choose else default,λv hv=>?_,λi g cl os hcl m v hv hm k=>?_⟩
 ·simp only [hv,dif_pos];exact (key (μ v) v hv (Nat.le_refl _)).choose_spec.1
 ·simp only [hv,dif_pos];exact (key (μ v) v hv (Nat.le_refl _)).choose_spec.2 i g cl os hcl m hm k
open Classical in
theorem zV [Inhabited τ] {V:Env} {D:Wd} [hE:EnvOk V D] {T:List Ent} [TabI D T] {d:Nat} {Cf Lf:ι->List (List Nat×Orc)} {W:List (List Nat×Vw)} {f:FuncId} {p:List Nat} (hb:D3 (dL (bE V.P f) p)=true)
  {hf:FuncId} {caps:List AV} {os:List (Nat×AO)} {N:Nat} {row:Nat->List AV} (hit:rD D.P D.G hf caps os N row) (hfn:∃fn,D.P.funcs[hf]?=some fn/\(fn.name=="runtime.NumGoroutine")=false/\fn.body.isSome=true)
  (hrow:∀j,j < N->(row j).length=(pb V.P f p).ps.size/\∀u∈row j,u.cA=false/\u.keys=[]) (hos:Ao os) (h:Hint)
  (S:α->St) (jx:α->Nat) (Inv:α->Prop) (μ:α->Nat) (out:τ->(Ex->St->Res)->Res) (Post:τ->Prop) (hcl:∀v,Inv v->aP ⟨S v,V.G,[]⟩ (pb V.P f p).g=some (.fn hf [] caps)/\∀q∈os,(S v).obj q.1=some q.2)
  {e:α->ι->(Ex->St->Res)->(St->Res)->Res} (h1:∀v,Inv v->RT (λv=>gh (jx v) (S v)) Inv μ out (λ_ o=>Post o) v (e v))
  (he:∀v i k kn,tS (V.run T d (Cf i) (Lf i) W f) (pb V.P f p).ps.toList (pb V.P f p).x (pb V.P f p).y h N row (jx v) (S v) kn k=e v i k kn) :
  ∃ (u:St->Bool) (w:St->τ),(∀v,Inv v->jx v=0->aW u w (S v) Post)/\∀i,mP (V.run T d (Cf i) (Lf i) W f) f p (mkO u w out):=by
 obtain ⟨w,hw,hl⟩:=Da (Xf:=λi=>V.run T d (Cf i) (Lf i) W f) (pb V.P f p).ps.toList (pb V.P f p).x (pb V.P f p).y h N row S jx Inv μ out (λ_ o=>Post o) λv hv=>RT.eq (λi k kn=>he v i k kn) (h1 v hv)
 refine ⟨pz S λv=>Inv v/\jx v=0,uQ S (λv=>Inv v/\jx v=0) w,λv hv hj=>⟨k8 ⟨hv,hj⟩,jc (Post:=λ_ o=>Post o) (λv hv=>hw v hv.1) (λ_ _ _ _ h=>h) ⟨hv,hj⟩⟩,λi=>?_⟩
 intro B s c a k r Q hG hK hlow hN hs hr hn hk
 unfold mkO at hs
 obtain ⟨hg,hs⟩:=bD hs
 have hx:∃v,(Inv v/\jx v=0)/\S v=s:=of_decide_eq_true hg
 unfold uQ at hs
 rw [dif_pos hx] at hs
 obtain ⟨⟨hv,hj⟩,hS⟩:=hx.choose_spec
 have hrun:=hl i (pb V.P f p).g (.fn hf [] caps) os hcl (μ hx.choose) hx.choose hv (Nat.le_refl _) k
 rw [hj,hS] at hrun
 rw [<-hrun] at hs
 have hG':V.G=B.G:=hG
 have hc:dL (bE V.P f) p=.rangeFunc (pb V.P f p).g (pb V.P f p).ps (pb V.P f p).x (pb V.P f p).y:=by
  unfold pb
  cases hq:dL (bE V.P f) p with
  | rangeFunc _ _ _ _=>rfl
  | _=>rw [hq] at hb;cases hb
 show (dL (bE V.P f) p).wp V.P Q a c.w
 have hN':codeOk B.N (dL (bE V.P f) p)=true:=hN
 rw [hc] at hN' ⊢
 refine wN (X:=V.run T d (Cf i) (Lf i) W f) (jz hE.mixed hE.funcs (TabI.tab D) d (Cf i) (Lf i) W f) hG hE.mixed hK hN' (by rw [<-hG',hE.g];show rD V.P _ _ _ _ _ _;rw [hE.p];exact hit) (by show ∃fn,V.P.funcs[hf]?=some fn/\_;rw [hE.p];exact hfn) hrow hos hs hr hn ?_ hk
 exact ⟨_,hlow,hr.frame.size⟩
end
end Go.Ab

namespace Go.Ab
open Go Go.RowKit
variable {X:Cfg} {c:Cx} {s s1:St} {a:Act} {B:Base} {ro:Option Nat} {n:Nat}
def itB (G:Nat->Option (List AV)) (N:Nat) (c:Cx) (objs:List (Nat×AO)):Base:={c0:=c,D:=held c objs,K:=live objs,G:=G,N:=N,low:=none}
theorem xE {G:Nat->Option (List AV)} (hg:Good G c) (ho:Objs c s.objs) (hd:a.defers=[]) (he:∀t v,s.get t=some v->Rep c v (a.tmps.getD t undef)) (hp:bg s) (hc:∀t v,s.get t=some v->∀k∈v.keys,live s.objs k):Rel (itB G a.tmps.size c s.objs) c s a:=
 ⟨hg,⟨rfl,rfl,rfl,Nat.le_refl _,λ_ _ _=>rfl,Ext.refl _ _,λ_ _ _ _ hi=>hi⟩,ho,λt v hv=>dQ.nr (hp t v hv) (he t v hv),hc,λk o b hk hb=>.inr ⟨k,o,hk,hb⟩,rfl,by rw [hd];trivial,λ_ hk=>hk⟩
open Classical in
theorem nb (hX:cv X) (hG:X.G=B.G) (hm:X.P.follows .mixedOrders=true) {code:Code} (hN:codeOk B.N code=true) (he:∀k,nd X code s k=k .nor s1) (hr:Rel B c s a) (hn:bg s) {Q:Exit->Act->World->Prop} (hQ:¬ LetsOut Q)
  (hk:∀c' a',Rel B c' s1 a'->bg s1->Q .normal a' c'.w):code.wpIn (rf ro) n X.P Q a c.w:=by
 refine ep hX hG hm code hN s c a (λe s'=>if e=.nor/\s'=s1 then some (.nilp,[]) else none) (.nilp,[]) Q ?_ hr hn hQ λex s' c' a' hex hr' hn'=>?_
 ·rw [he];simp
 ·split at hex
  ·rename_i h;obtain ⟨rfl,rfl⟩:=h;exact hk c' a' hr' hn'
  ·cases hex
theorem j0 {F:Fence} {P:Program} {ops:Array Oper} {Q:Exit->Act->World->Prop} (l2:List Nat) (hP:∀ch a w,¬ Q (.panic ch) a w) (hO:¬ LetsOut Q):∀ (l1:List Nat) (a:Act) (w:World),wpOpsIn F n P ops (Exit.then (wpOpsIn F n P ops Q l2) (λ_ _ _=>False)) l1 a w->wpOpsIn F n P ops Q (l1++l2) a w
 | [],a,w,h=>h
 | i::r,a,w,h=>by
  rw [wpOpsIn_cons] at h
  rw [List.cons_append,wpOpsIn_cons]
  have h2:=wpOpIn_mono (λa w=>j0 l2 hP hO r a w) h
  unfold wpOpIn at h2 ⊢
  split
  ·rename_i ho;simp only [ho] at h2;exact h2
  ·rename_i o ho
   simp only [ho] at h2
   split
   ·rename_i hw
    rw [if_pos hw] at h2
    refine ⟨h2.1,?_⟩
    have h3:=h2.2
    generalize (o.semAt F.round a.eval).run P w=rr at h3 ⊢
    cases rr with
    | ok x w'=>
     cases x <;> simp only [Oper.uponIn] at h3 ⊢ <;> first
      | exact h3
      | exact ⟨h3.1,CallsIn.mono h3.2 (λe w'' he=>by cases e <;> first | exact he | exact he.elim | exact (by obtain ⟨_,_,hq⟩:=he;exact hq.elim))⟩
      | exact ⟨h3.1,RoundIn.mono h3.2 (λe w'' he=>by cases e <;> first | exact he | exact he.elim | exact (by obtain ⟨_,_,hq⟩:=he;exact hq.elim))⟩
    | halt x w'=>cases x <;> simp only [Oper.uponIn] at h3 ⊢ <;> first | exact h3 | exact h3.elim
   ·rename_i hw
    rw [if_neg hw] at h2
    exact h2
theorem Di (hX:cv X) (hG:X.G=B.G) {id:Nat} {ops:Array Oper} (m:Nat) (hm:m<=ops.size) (hd:lP ops.toList=true) (hN:codeOk B.N (.region id ops false)=true) (he:∀k,fE X ops (ops.toList.take m) s k=k s1) (hr:Rel B c s a) (hn:bg s) {Q:Exit->Act->World->Prop} (hP:∀ch a w,¬ Q (.panic ch) a w) (hQ:¬ LetsOut Q)
  (hk:∀c' a',Rel B c' s1 a'->wpOpsIn (rf ro) n X.P ops Q (List.range' m (ops.size - m)) a' c'.w):(Code.region id ops false).wpIn (rf ro) n X.P Q a c.w:=by
 apply wpIn_region
 have e:List.range ops.size=List.range' 0 m++List.range' m (ops.size - m):=by
  have h0:=List.range'_append (s:=0) (m:=m) (n:=ops.size - m) (step:=1)
  rw [List.range_eq_range']
  simp only [Nat.zero_add,Nat.one_mul,show m+(ops.size - m)=ops.size by omega] at h0
  exact h0.symm
 rw [e]
 refine j0 _ hP hQ _ a c.w ?_
 refine mQ (fk hd) (λ⟨_,_,hq⟩=>hq) _ _ _ ?_
 classical
 have hlen:(ops.toList.take m).length=m:=by rw [List.length_take];simp;omega
 have hops:∀j o,(ops.toList.take m)[j]?=some o->ops[0+j]?=some o:=λj o ho=>by
  rw [List.getElem?_take] at ho
  split at ho
  ·simpa using ho
  ·cases ho
 have hN':∀o∈ops.toList.take m,∀d,o.dst=some d->d < B.N:=λo ho d hd=>by
  simp only [codeOk] at hN
  have:=List.all_eq_true.1 hN o (List.mem_of_mem_take ho)
  simp only [hd] at this
  exact ltB this
 have:=c7 hX hG (ops:=ops) (k:=λs'=>if s'=s1 then some (.nilp,[]) else none) (r:=(.nilp,[])) (Q:=Exit.then (wpOpsIn (rf ro) n X.P ops Q (List.range' m (ops.size - m))) (λ_ _ _=>False)) (ops.toList.take m) 0 s c a hops (by rw [he];simp) hr hN' (hn.ginv _) λs' c' a' hs' hr' _=>by
  split at hs'
  ·rename_i h;subst h;exact hk c' a' hr'
  ·cases hs'
 rw [hlen] at this
 exact this
theorem yp {P:Program} {ops:Array Oper} {Q:Exit->Act->World->Prop} {i l d t u:Nat} {ty:Array TypeId} {is:List Nat} {a:Act} {w:World} {R:Ending->World->Prop} {o:Oper} (ho:ops[i]?=some o) (hop:o.op=.call {callee:=.value (.tmp t),args:=#[.tmp u],argTypes:=ty}) (hdst:o.dst=some d)
  (hw:Region.wanted o (yielded ops a.tmps)=true) (hf:a.tmps.getD t undef=.func (.yield l) #[] #[]) (hy:tx P l #[a.tmps.getD u undef] w R)
  (hk:∀e w',R e w'->∃v,e=.returned v/\wpOpsIn (rf none) n P ops Q is (a.put (some d) v) w'):wpOpsIn (rf none) n P ops Q (i::is) a w:=by
 obtain ⟨fn,tmps,assign,body,hy,hR⟩:=hy
 rw [wpOpsIn_cons]
 unfold wpOpIn
 simp only [ho]
 rw [if_pos hw]
 refine ⟨λ_ _=>trivial,?_⟩
 rw [Oper.semAt_eq _ _ _ (λc e=>by rw [hop] at e;cases e)]
 have hrun:(execOp a.eval o).run P w=.ok (.round l fn tmps assign body) w:=by
  have h1:a.eval (.tmp t)=.func (.yield l) #[] #[]:=hf
  have h2:a.eval (.tmp u)=a.tmps.getD u undef:=rfl
  simp only [execOp,hop,resolve,h1]
  simp [go_sem,invoke,h2,Sem.run_bind,Result.andThen]
  rw [<-Array.getD_eq_getD_getElem?]
  exact hy
 rw [hrun]
 refine ⟨λh=>by simp [rf,Fence.wide] at h,hR.1,λc cs _=>?_⟩
 obtain ⟨e,w',hr,hs⟩:=hR.2 c cs (room_wide _)
 obtain ⟨v,rfl,hv⟩:=hk e w' hr
 exact ⟨.returned v,w',by rw [hdst];exact hv,hs⟩
theorem quiet_of {G:Nat->Option (List AV)} {N:Nat} {ol:List (Nat×AO)} {c':Cx} {s':St} {a':Act} (ho:Objs c ol) (hv:Ao ol) (h:Rel (itB G N c ol) c' s' a') (hs:∀k o,alook ol k=some o->s'.obj k=some o) :
  QuietO G ol c {c with w:=c'.w,I:=c'.I}/\ExtR c' {c with w:=c'.w,I:=c'.I} (live ol):=by
 have hβ:∀k,live ol k->c'.β k=c.β k:=λk hk=>by
  obtain ⟨o,hk⟩:=hk
  have h1:=h.objs.rep k o (hs k o hk)
  obtain ⟨cs,rfl,_⟩:=hv k o hk
  have h2:=ho.rep k _ hk
  exact h.frame.ext.β k ⟨_,hk⟩
 have hext:ExtR c' {c with w:=c'.w,I:=c'.I} (live ol):=⟨λb o v hi hc=>⟨hc,hi⟩,λk hk=>(hβ k hk).symm,λk hk n v hr=>(by
  obtain ⟨o,hk⟩:=hk
  have h1:=h.objs.rep k o (hs k o hk)
  obtain ⟨cs,rfl,_⟩:=hv k o hk
  obtain ⟨m,hm,_⟩:=hr
  rw [h1.2.2] at hm;cases hm),λb o es cl hi he=>⟨he,hi⟩⟩
 refine ⟨⟨h.frame.os,h.frame.output,h.frame.tape,h.frame.size,h.frame.block,h.frame.ext.I,λb o hb hi=>?_,rfl,rfl,rfl,⟨h.good.there,λg cs hg=>(h.good.globs g cs hg).nN (ks:=λ_=>False) ⟨λb o v hi hc=>⟨hc,hi⟩,λ_ hk=>hk.elim,λ_ hk=>hk.elim,λb o es cl hi he=>⟨he,hi⟩⟩ (by simp [AV.keys])⟩,⟨λk o hk=>?_,λk o k' o' b hk hk' hne hb=>?_,ho.closed⟩⟩,hext⟩
 ·by_cases hd:held c ol b
  ·obtain ⟨k,o',hk,hb'⟩:=hd
   have h1:=h.objs.rep k o' (hs k o' hk)
   obtain ⟨cs,rfl,_⟩:=hv k o' hk
   simp only [excl] at hb'
   rw [<-hb',<-hβ k ⟨_,hk⟩] at hi
   exact absurd hi (h1.2.1 o)
  ·exact h.frame.new b o hb hd hi
 ·have h1:=h.objs.rep k o (hs k o hk)
  have h2:=ho.rep k o hk
  obtain ⟨cs,rfl,hcs⟩:=hv k o hk
  obtain ⟨⟨⟨vs,t,hh,hsz,hvv⟩,hone⟩,hI,_⟩:=h1
  refine ⟨⟨⟨vs,t,?_,hsz,λi u hu=>(hvv i u hu).nN hext λk' hk'=>?_⟩,hone⟩,λo' hi=>?_,h2.2.2⟩
  ·show c'.w.heap[c.β k]?=_
   rw [<-hβ k ⟨_,hk⟩];exact hh
  ·rw [aM hcs hu] at hk';cases hk'
  ·exact hI o' (by rw [hβ k ⟨_,hk⟩];exact hi)
 ·obtain ⟨cs,rfl,_⟩:=hv k o hk
  obtain ⟨cs',rfl,_⟩:=hv k' o' hk'
  exact ho.apart k _ k' _ b hk hk' hne hb
theorem y7 {G:Nat->Option (List AV)} {N:Nat} {ol:List (Nat×AO)} {c c2 c':Cx} {s':St} {a':Act} {ks:List Nat} (ho:Objs c2 ol) (hg:Good G c2) (h:Rel (itB G N c ol) c' s' a') (hn:bg s') (hx:∀t v,alook (dB s'.env ks) t=some v->Rep c' v (a'.tmps.getD t undef)->Rep c2 v (a'.tmps.getD t undef)) (hk:kB (lZ (dB s'.env ks)) (p3 ol)=true) :
  Rel (itB G N c2 ol) c2 {env:=dB s'.env ks,objs:=ol} a'/\bg {env:=dB s'.env ks,objs:=ol}:=by
 have hnn:bg {env:=dB s'.env ks,objs:=ol}:=λt v hv=>hn t v (dP hv)
 have hd:a'.defers=[]:=Defs.none rfl h.defers
 have:=xE (G:=G) (s:={env:=dB s'.env ks,objs:=ol}) (a:=a') hg ho hd (λt v hv=>hx t v hv (by
  have h1:=h.env t v (dP hv)
  have h2:=hnn t v hv
  cases v <;> first | exact h1 | simp [AV.cA] at h2)) hnn (λt v hv k hk'=>eK (bH hk k (fZ hv k hk')))
 rw [h.tmps] at this
 exact ⟨this,hnn⟩
theorem rT {k off:Nat} {v:Value} (h:Rep c (.ref k off) v):v=.pointer (some ⟨c.β k,off,none⟩):=by cases h;rfl
theorem wO {v x:Value} (h:Rep c (.raw v) x):x=v:=by cases h;rfl
end Go.Ab
