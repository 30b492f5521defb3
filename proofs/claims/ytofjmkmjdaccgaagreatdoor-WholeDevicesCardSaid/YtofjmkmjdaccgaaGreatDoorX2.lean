/- Soundness of new variables, stores, make and append. Soundness of make and append. Soundness of append. Soundness of an append whose slice may be stored into. A call, seen from the caller: what the callee's contract says, under other keys. A call, seen from the caller: the callee's context and the way back. A call that hands back one object more than it was handed: a pointer to a new one. A string's iterator, sound. Maps of the model: a key that is a scalar, a struct or an array of scalars is found by its cells. Maps, sound: making one, a look-up, a store. One operation of a region, sound. Regions that run in the order of the text. -/
import Derived.Test.YtofjmkmjdaccgaaGreatDoorX1
import Derived.Laws.CopyRow
import Derived.Laws.AppendOwn
import Derived.Lib.AppendStr
import Derived.Laws.RangeString
import Derived.Laws.StructEq
import Derived.ChangeKeysEq
import Derived.MapKept
import Derived.WideKeyRuns
import Derived.Orders
set_option linter.unusedVariables false
set_option linter.unusedSimpArgs false
namespace Go.Ab
open Go Go.RowKit
variable {P:Program} {B:Base} {c:Cx} {s:St} {a:Act}
theorem Rel.newVar (h:Rel B c s a) {k:Nat} (hk:s.obj k=none) {vs:Array Value} {t:TypeId} {ob:AO}
  (ho:cW (c.var k vs t) k ob) (hx:excl (c.var k vs t) k ob=some c.w.heap.size) (hkeys:∀r∈ob.keys,live s.objs r):Rel B (c.var k vs t) (s.setObj k ob) a:=by
 refine h.obj (Cx.ou h.good h.objs hk vs t) (Cx.vR h.good h.frame k vs t) ho (λq o' b hq hne hb=>?_) (λr hr=>.inr (hkeys r hr)) (λb hb=>?_)
 ·rw [hx]
  have:=cf (h.objs.rep q o' hq) hb
  intro e
  have:=Option.some.inj e
  omega
 ·rw [hx] at hb
  have:=Option.some.inj hb
  have:=h.frame.size
  left;omega
theorem rh (c:Cx) (k:Nat) (vs:Array Value) (t:TypeId):(c.var k vs t).w.heap[(c.var k vs t).β k]?=some (.cells vs t (0,0)):=by
 simp only [Cx.var,if_true]
 exact aP c.w _
theorem re (hg:Good B.G c) (k:Nat) (vs:Array Value) (t:TypeId) (o:Nat):¬ (c.var k vs t).I ((c.var k vs t).β k) o:=by
 simp only [Cx.var,if_true]
 intro hi
 have:=hg.lt hi
 omega
theorem tG (h:Rel B c s a) {k:Nat} (hk:s.obj k=none) (vs:Array Value) (t:TypeId):Ext c (c.var k vs t) (live s.objs):=(Cx.ou h.good h.objs hk vs t).ext
theorem kV (h:Rel B c s a) {k:Nat} (hk:s.obj k=none) {vs:Array Value} {t:TypeId} {cs:List AV} (hcr:CR c cs vs) (hl:∀q∈ak cs,live s.objs q) :
  Rel B (c.var k vs t) (s.setObj k (.cells cs)) a:=by
 refine h.newVar hk ⟨⟨⟨vs,t,rh c k vs t,hcr.1,λi u hu=>(hcr.2 i u hu).2.ext (tG h hk vs t) λq hq=>hl q (aH hu q hq)⟩,λi u hu=>(hcr.2 i u hu).1⟩,re h.good k vs t,by simp [Cx.var]⟩ (by simp [excl,Cx.var]) (by simpa [AO.keys] using hl)
theorem ky (h:Rel B c s a) {k:Nat} (hk:s.obj k=none) {vs:Array Value} {t:TypeId} {sz n:Nat} {get:Nat->List AV} (hs:vs.size=n*sz)
  (hl:∀j,j < n->(get j).length=sz/\ak (get j)=[]) (hr:∀ (j i:Nat) (u:AV),j < n->(get j)[i]?=some u->u.one=true/\Rep c u (vs.getD (j*sz+i) undef)) :
  Rel B (c.var k vs t) (s.setObj k (.arr sz n get)) a:=by
 refine h.newVar hk ⟨⟨⟨vs,t,rh c k vs t,hs,λj i u hj hu=>(hr j i u hj hu).2.ext (tG h hk vs t) λq hq=>?_⟩,hl,λj i u hj hu=>(hr j i u hj hu).1⟩,re h.good k vs t,by simp [Cx.var]⟩ (by simp [excl,Cx.var]) (by simp [AO.keys])
 rw [aF (hl j hj).2 hu] at hq;simp at hq
theorem Sees.ref {k:Nat} {vs:Array Value} {t:TypeId} {ob:AO}:Sees B (c.var k vs t) (s.setObj k ob) (.ref k 0) (.pointer (some ⟨c.w.heap.size,0,none⟩)):=by
 refine ⟨?_,λq hq=>?_,rfl⟩
 ·have:=Rep.ref (c:=c.var k vs t) k 0
  simpa [Cx.var] using this
 ·simp [AV.keys] at hq;subst hq;exact aR
theorem qU (h:Rel B c s a) {k:Nat} (hk:s.obj k=none) {t:TypeId} {ob:AO} (he:B4 P t=some ob) :
  ∃x c',(Instr.alloc t true (.tuple #[])).run P c.w=.ok x c'.w/\Rel B c' (s.setObj k ob) a/\Sees B c' (s.setObj k ob) (.ref k 0) x:=by
 have hrun:∀ (i:TypeInfo) (v:Value),P.info? t=some i->i.zero=some v->(Instr.alloc t true (.tuple #[])).run P c.w=.ok (.pointer (some ⟨c.w.heap.size,0,none⟩)) (c.w.alloc (.cells v.cells t)):=by
  intro i v hi hv
  simp [Instr.alloc,zeroValue,typeInfo,hi,hv,newVar,newRow]
 unfold B4 at he
 split at he
 ·rename_i n e hu
  cases hz:zeroCells P e with
  | none=>simp [hz] at he
  | some z=>
   cases hr:zeroCells P t with
   | none=>simp [hz,hr] at he
   | some r=>
    simp only [hz,hr,Option.bind_some,aj] at he
    cases hb:fJ z n r with
    | false=>simp [hb] at he
    | true=>
     simp [hb] at he;subst he
     obtain ⟨i,v,hi,hv,hc⟩:=aV hr
     obtain ⟨_,_,_,_,hcz⟩:=aV hz
     obtain ⟨hcr,_⟩:=dF (c:=c) hc
     obtain ⟨hzc,hzk⟩:=dF (c:=c) hcz
     obtain ⟨h1,h2⟩:=fA hb
     refine ⟨_,c.var k v.cells t,hrun i v hi hv,ky h hk (by rw [hcr.1,h1]) (λj hj=>⟨rfl,hzk⟩) (λj q u hj hu=>⟨(hzc.2 q u hu).1,?_⟩),Sees.ref⟩
     obtain ⟨w,hw,hsame⟩:=h2 j hj q u hu
     exact lW hsame (hcr.2 _ w hw).2
 ·cases hr:zeroCells P t with
  | none=>simp [hr] at he
  | some r=>
   simp [hr] at he;subst he
   obtain ⟨i,v,hi,hv,hc⟩:=aV hr
   obtain ⟨hcr,hkz⟩:=dF (c:=c) hc
   exact ⟨_,c.var k v.cells t,hrun i v hi hv,kV h hk hcr (by rw [hkz];simp),Sees.ref⟩
 ·simp at he
theorem mD (h:Rel B c s a) {k:Nat} (hk:s.obj k=none) {t:TypeId} {v:AV} {x:Value} (hs:Sees B c s v x) (ho:ef v.cells=true) :
  ∃y c',(Instr.box t x).run P c.w=.ok y c'.w/\Rel B c' (s.setObj k (.cells v.cells)) a/\Sees B c' (s.setObj k (.cells v.cells)) (.ref k 0) y:=
 ⟨_,c.var k x.cells t,by simp [Instr.box,newVar,newRow,Cx.var],kV h hk (gd hs.rep ho) (by rw [iK hs.plain];exact hs.live),Sees.ref⟩
theorem n6 (h:Rel B c s a) {k:Nat} (hk:s.obj k=none) {t:TypeId} {sz n:Nat} {get:Nat->List AV} {x:Value} (hs:Rep c (.arr sz n get) x) :
  ∃y c',(Instr.box t x).run P c.w=.ok y c'.w/\Rel B c' (s.setObj k (.arr sz n get)) a/\Sees B c' (s.setObj k (.arr sz n get)) (.ref k 0) y:=by
 cases hs with
 | arr _ _ _ vs h1 h2 h3 h4=>
  exact ⟨_,c.var k vs t,by simp [Instr.box,newVar,newRow,Cx.var,Value.cells],ky h hk h1 h2 (λj i u hj hu=>⟨h3 j i u hj hu,h4 j i u hj hu⟩),Sees.ref⟩
theorem fu (cur:Array Value) (off:Nat) (news:List Value) (h:off+news.length<=cur.size) :
  (cur.toList.take off++news++cur.toList.drop (off+news.length)).toArray.size=cur.size /\
  ∀i,i < cur.size->(cur.toList.take off++news++cur.toList.drop (off+news.length)).toArray.getD i undef=if off<=i/\i < off+news.length then news.getD (i - off) undef else cur.getD i undef:=by
 refine ⟨by simp;omega,λi hi=>?_⟩
 have hlen:(cur.toList.take off).length=off:=by simp;omega
 simp only [Array.getD_eq_getD_getElem?,List.getElem?_toArray]
 by_cases h1:i < off
 ·rw [if_neg (by omega),List.append_assoc,List.getElem?_append_left (by rw [hlen];exact h1),List.getElem?_take,if_pos h1];simp
 ·by_cases h2:i < off+news.length
  ·rw [if_pos ⟨by omega,h2⟩,List.append_assoc,List.getElem?_append_right (by rw [hlen];omega),hlen,List.getElem?_append_left (by omega),List.getD_eq_getElem?_getD]
  ·rw [if_neg (by omega),List.getElem?_append_right (by simp;omega),List.getElem?_drop]
   simp only [List.length_append,hlen]
   have:off+news.length+(i - (off+news.length))=i:=by omega
   rw [this];simp
theorem gj {t:TypeId} {b off:Nat} {x:Value} {cur:Array Value} {t':TypeId} {n:Nat} (hsz:az P t=some n) (hn:x.cells.size=n) {w:World} (hh:w.heap[b]?=some (.cells cur t' (0,0)))
  (hfit:off+n<=cur.size) (h1:∀u∈x.cells.toList,u.oneCell'=true) :
  (Instr.storeAt t (.pointer (some ⟨b,off,none⟩)) x).run P w=.ok () (w.setRow b (cur.toList.take off++x.cells.toList++cur.toList.drop (off+x.cells.toList.length)).toArray):=by
 have hst:=run_storeCells_at P b off t' x.cells.toList 0 cur w hh (by simp;omega) h1
 simp only [Nat.add_zero] at hst
 simp only [Instr.storeAt,Instr.sureAddr,Sem.run_bind,Sem.run_pure,Result.andThen_ok,storeVar,run_sizeOf hsz]
 rw [if_neg (by simp [hn])]
 exact hst
theorem dM {w:World} {b:Nat} {cs:Array Value} (hc:c.w=w):Wrote c b (w.setRow b cs):=by
 subst hc
 exact ⟨rfl,rfl,rfl,by simp,λb' hb=>setRow_other _ _ _ _ hb⟩
theorem CR.qc {l:List AV} {xs:Array Value} (h:CR c l xs):∀u∈xs.toList,u.oneCell'=true:=by
 intro u hu
 obtain ⟨i,hi,rfl⟩:=List.mem_iff_getElem.1 hu
 have hi':i < xs.size:=by simpa using hi
 have hl:i < l.length:=by rw [<-h.1];exact hi'
 have:=h.2 i _ (List.getElem?_eq_getElem hl)
 have e:xs.getD i undef=xs.toList[i]:=by simp [Array.getD_eq_getD_getElem?,hi']
 rw [e] at this
 exact ji this.2 this.1
theorem CR.splice {cs cs' l:List AV} {vs xs:Array Value} {off:Nat} (h:CR c cs vs) (hl:CR c l xs) (hs:setCells cs off l=some cs') :
  CR c cs' (vs.toList.take off++xs.toList++vs.toList.drop (off+xs.toList.length)).toArray/\off+xs.size<=vs.size:=by
 obtain ⟨h1,h2,h3⟩:=cO hs
 have hfit:off+xs.toList.length<=vs.size:=by simp [hl.1,h.1];exact h2
 obtain ⟨g1,g2⟩:=fu vs off xs.toList hfit
 refine ⟨⟨by rw [g1,h.1,h1],λi u hu=>?_⟩,by simpa using hfit⟩
 have hi:i < vs.size:=by rw [h.1,<-h1];exact (List.getElem?_eq_some_iff.1 hu).1
 rw [g2 i hi]
 rw [h3 i] at hu
 have e1:xs.toList.length=l.length:=by simpa using hl.1
 simp only [e1]
 split at hu
 ·rename_i hc
  rw [if_pos hc]
  have:=hl.2 _ u hu
  simpa [Array.getD_eq_getD_getElem?,List.getD_eq_getElem?_getD] using this
 ·rename_i hc
  rw [if_neg hc]
  exact h.2 i u hu
theorem oz (h:Rel B c s a) {t:TypeId} {x v:AV} {X V:Value} {k:Nat} {ob:AO} (hx:Sees B c s x X) (hv:Sees B c s v V) (he:fk P s t x v=some (true,k,ob)) :
  ∃c',(Instr.storeAt t X V).run P c.w=.ok () c'.w/\Rel B c' (s.setObj k ob) a:=by
 have hxr:=hx.rep
 cases x with
 | ref q off=>
  cases hxr
  simp only [fk] at he
  cases hob:s.obj q with
  | none=>simp [hob] at he
  | some o=>
   have hor:=h.objs.rep q o hob
   cases o with
   | cells cs=>
    simp only [hob,aj] at he
    cases hb:(ef v.cells&&(az P t==some v.cells.length)) with
    | false=>simp [hb] at he
    | true=>
     simp only [hb,cond_true] at he
     cases hst:setCells cs off v.cells with
     | none=>simp [hst] at he
     | some l=>
      simp [hst] at he
      obtain ⟨rfl,rfl⟩:=he
      simp only [Bool.and_eq_true,beq_iff_eq] at hb
      obtain ⟨⟨⟨vs,t',hh,hs,hr⟩,h1⟩,hI,hfr⟩:=hor
      have hcv:=gd hv.rep hb.1
      have hcr:CR c cs vs:=⟨hs,λi u hu=>⟨h1 i u hu,hr i u hu⟩⟩
      obtain ⟨hcr',hfit⟩:=hcr.splice hcv hst
      have hw:Wrote c (c.β q) (c.w.setRow (c.β q) (vs.toList.take off++V.cells.toList++vs.toList.drop (off+V.cells.toList.length)).toArray):=dM rfl
      have hkb:=Cx.dG h.objs hob (b:=c.β q) rfl hI hw
      refine ⟨c.write _,gj hb.2 hcv.1 hh (by rw [<-hcv.1];exact hfit) hcv.qc,h.obj hkb (Cx.eh h.good hI hw (h.mine q _ _ hob rfl)) ⟨⟨⟨_,t',setRow_heap _ _ _ _ _ _ hh,hcr'.1,λi u hu=>(hcr'.2 i u hu).2.ext hkb.ext λr hr=>?_⟩,λi u hu=>(hcr'.2 i u hu).1⟩,hI,hfr⟩ ?_ ?_ ?_⟩
      ·rcases jQ hst r (aH hu r hr) with hm | hm
       ·exact h.objs.closed q _ hob r (by simpa [AO.keys] using hm)
       ·rw [iK hv.plain] at hm;exact hv.live r hm
      ·intro r o' b hr hne hb' e
       exact h.objs.apart r o' q _ b hr hob hne hb' e
      ·intro r hr
       rcases jQ hst r (by simpa [AO.keys] using hr) with hm | hm
       ·exact .inr (h.objs.closed q _ hob r (by simpa [AO.keys] using hm))
       ·rw [iK hv.plain] at hm;exact .inr (hv.live r hm)
      ·intro b hb';exact h.mine q _ b hob hb'
   | arr sz n get=>
    simp only [hob] at he
    cases v with
    | arr sz' n' get'=>
     simp only [aj] at he
     cases hb:(Nat.beq off 0&&(Nat.beq sz sz'&&(Nat.beq n n'&&az P t==some (n*sz)))) with
     | false=>simp [hb] at he
     | true=>
      simp [hb] at he
      obtain ⟨rfl,rfl⟩:=he
      simp only [Bool.and_eq_true,beq_iff_eq] at hb
      obtain ⟨b1,b2,b3,b4⟩:=hb
      have b1:=dv b1;have b2:=dv b2;have b3:=dv b3
      subst b1;subst b2;subst b3
      obtain ⟨⟨⟨vs,t',hh,hs,hr⟩,hl,h1⟩,hI,hfr⟩:=hor
      have hvr:=hv.rep
      cases hvr with
      | arr _ _ _ xs g1 g2 g3 g4=>
       have hw:Wrote c (c.β q) (c.w.setRow (c.β q) (vs.toList.take 0++(Value.agg xs).cells.toList++vs.toList.drop (0+(Value.agg xs).cells.toList.length)).toArray):=dM rfl
       have hkb:=Cx.dG h.objs hob (b:=c.β q) rfl hI hw
       have hone:∀u∈(Value.agg xs).cells.toList,u.oneCell'=true:=by
        intro u hu
        obtain ⟨i,hi,rfl⟩:=List.mem_iff_getElem.1 hu
        have hi':i < n*sz:=by
         have:i < xs.size:=by simpa [Value.cells] using hi
         omega
        have hsz0:0 < sz:=by
         rcases Nat.eq_zero_or_pos sz with h0 | h0
         ·rw [h0] at hi';omega
         ·exact h0
        have hj:i / sz < n:=Nat.div_lt_of_lt_mul (by rw [Nat.mul_comm];exact hi')
        have hm:i % sz < sz:=Nat.mod_lt _ hsz0
        have hlen:=(g2 _ hj).1
        have:=g4 (i / sz) (i % sz) _ hj (List.getElem?_eq_getElem (by rw [hlen];exact hm))
        have h1':=g3 (i / sz) (i % sz) _ hj (List.getElem?_eq_getElem (by rw [hlen];exact hm))
        have e:i / sz*sz+i % sz=i:=by rw [Nat.mul_comm];exact Nat.div_add_mod i sz
        rw [e] at this
        have e2:xs.getD i undef=(Value.agg xs).cells.toList[i]:=by simp [Value.cells,Array.getD_eq_getD_getElem?,show i < xs.size by omega]
        rw [e2] at this
        exact ji this h1'
       have hnew:(vs.toList.take 0++(Value.agg xs).cells.toList++vs.toList.drop (0+(Value.agg xs).cells.toList.length)).toArray=xs:=by
        apply Array.ext'
        simp [Value.cells,g1,hs]
       refine ⟨c.write _,gj b4 (by simpa [Value.cells] using g1) hh (by omega) hone,h.obj hkb (Cx.eh h.good hI hw (h.mine q _ _ hob rfl)) ⟨⟨⟨_,t',setRow_heap _ _ _ _ _ _ hh,by rw [hnew];exact g1,λj i u hj hu=>?_⟩,g2,g3⟩,hI,hfr⟩ ?_ (by simp [AO.keys]) ?_⟩
       ·refine Eq.subst (motive:=λz=>Rep _ u (Array.getD z (j*sz+i) undef)) hnew.symm ?_
        refine (g4 j i u hj hu).ext hkb.ext λr hr=>?_
        rw [aF (g2 j hj).2 hu] at hr;simp at hr
       ·intro r o' b hr hne hb' e
        exact h.objs.apart r o' q _ b hr hob hne hb' e
       ·intro b hb';exact h.mine q _ b hob hb'
    | _=>simp at he
   | _=>simp [hob] at he
 | aref q sz' i off=>
  cases hxr
  simp only [fk] at he
  cases hob:s.obj q with
  | none=>simp [hob] at he
  | some o=>
   have hor:=h.objs.rep q o hob
   cases o with
   | arr sz n get=>
    simp only [hob,aj] at he
    cases hb:(Nat.beq sz sz'&&(ef v.shed.cells&&(az P t==some v.shed.cells.length&&isNil (ak v.shed.cells)))) with
    | false=>simp [hb] at he
    | true=>
     simp only [hb,cond_true] at he
     cases hst:setCells (get i) off v.shed.cells with
     | none=>simp [hst] at he
     | some l=>
      simp [hst] at he
      obtain ⟨hi,rfl,rfl⟩:=he
      have hi:i < n:=by simpa [Nat.blt] using hi
      simp only [Bool.and_eq_true,beq_iff_eq] at hb
      obtain ⟨b0,b1,b2,b3⟩:=hb
      have b0:=dv b0
      subst b0
      have b3:ak v.shed.cells=[]:=by
       cases hk:ak v.shed.cells with
       | nil=>rfl
       | cons=>simp [hk,isNil] at b3
      obtain ⟨⟨⟨vs,t',hh,hs,hr⟩,hl,h1⟩,hI,hfr⟩:=hor
      have hcv:=gd hv.shed.rep b1
      obtain ⟨s1,s2,s3⟩:=cO hst
      have hlen:=(hl i hi).1
      have hfit:i*sz+off+V.cells.size<=vs.size:=by
       rw [hcv.1,hs]
       have:=Nat.mul_le_mul_right sz hi
       rw [Nat.succ_mul] at this;omega
      have hw:Wrote c (c.β q) (c.w.setRow (c.β q) (vs.toList.take (i*sz+off)++V.cells.toList++vs.toList.drop (i*sz+off+V.cells.toList.length)).toArray):=dM rfl
      have hkb:=Cx.dG h.objs hob (b:=c.β q) rfl hI hw
      obtain ⟨g1,g2⟩:=fu vs (i*sz+off) V.cells.toList (by simpa using hfit)
      have hlk:ak l=[]:=by
       cases hk:ak l with
       | nil=>rfl
       | cons r rs=>
        rcases jQ hst r (by simp [hk]) with hm | hm
        ·simp [(hl i hi).2] at hm
        ·simp [b3] at hm
      have hnl:∀j,j < n->(cond (Nat.beq j i) l (get j)).length=sz/\ak (cond (Nat.beq j i) l (get j))=[]:=by
       intro j hj
       by_cases e:j=i
       ·subst e;simp only [Nat.beq_refl,cond_true];exact ⟨by rw [s1,hlen],hlk⟩
       ·rw [gN e];exact hl j hj
      have hnr:∀ (j q':Nat) (u:AV),j < n->(cond (Nat.beq j i) l (get j))[q']?=some u->u.one=true/\Rep c u ((vs.toList.take (i*sz+off)++V.cells.toList++vs.toList.drop (i*sz+off+V.cells.toList.length)).toArray.getD (j*sz+q') undef):=by
       intro j q' u hj hu
       have hq':q' < sz:=by rw [<-(hnl j hj).1];exact (List.getElem?_eq_some_iff.1 hu).1
       have hlt:=aY hj hq'
       rw [g2 _ (by omega)]
       simp only [Array.length_toList,hcv.1]
       by_cases e:j=i
       ·subst e
        simp only [Nat.beq_refl,cond_true] at hu
        rw [s3 q'] at hu
        split at hu
        ·rename_i hc
         rw [if_pos (by omega)]
         have:=hcv.2 _ u hu
         refine ⟨this.1,?_⟩
         have e5:j*sz+q' - (j*sz+off)=q' - off:=by omega
         rw [e5]
         simpa [Array.getD_eq_getD_getElem?,List.getD_eq_getElem?_getD] using this.2
        ·rename_i hc
         rw [if_neg (by omega)]
         exact ⟨h1 j q' u hj hu,hr j q' u hj hu⟩
       ·rw [gN e] at hu
        rw [if_neg]
        ·exact ⟨h1 j q' u hj hu,hr j q' u hj hu⟩
        ·rintro ⟨c1,c2⟩
         rcases Nat.lt_or_gt_of_ne e with hlt' | hgt
         ·have:=Nat.mul_le_mul_right sz hlt'
          rw [Nat.succ_mul] at this;omega
         ·have:=Nat.mul_le_mul_right sz hgt
          rw [Nat.succ_mul] at this;omega
      refine ⟨c.write _,gj b2 hcv.1 hh (by rw [<-hcv.1];exact hfit) hcv.qc,h.obj hkb (Cx.eh h.good hI hw (h.mine q _ _ hob rfl)) ⟨⟨⟨_,t',setRow_heap _ _ _ _ _ _ hh,by rw [g1];exact hs,λj q' u hj hu=>?_⟩,hnl,λj q' u hj hu=>(hnr j q' u hj hu).1⟩,hI,hfr⟩ ?_ (by simp [AO.keys]) ?_⟩
      ·refine (hnr j q' u hj hu).2.ext hkb.ext λr hr=>?_
       rw [aF (hnl j hj).2 hu] at hr;simp at hr
      ·intro r o' b hr hne hb' e
       exact h.objs.apart r o' q _ b hr hob hne hb' e
      ·intro b hb';exact h.mine q _ b hob hb'
   | _=>simp [hob] at he
 | gref q sz' m i off=>
  simp only [fk] at he
  cases hob:s.obj q with
  | none=>simp [hob] at he
  | some o=>
   have hor:=h.objs.rep q o hob
   cases o with
   | grw sq sz n get=>
    simp only [hob,aj] at he
    cases hb:(Nat.beq sz sz'&&(ef v.shed.cells&&(az P t==some v.shed.cells.length&&isNil (ak v.shed.cells)))) with
    | false=>simp [hb] at he
    | true=>
     simp only [hb,cond_true] at he
     cases hfo:Nat.ble (off+v.shed.cells.length) sz with
     | false=>simp [hfo] at he
     | true=>
      simp only [hfo,cond_true,Option.some.injEq,Prod.mk.injEq,Bool.and_eq_true] at he
      obtain ⟨⟨hq1,hi,bm⟩,rfl,rfl⟩:=he
      have hq1:sq<=1:=Nat.le_of_ble_eq_true hq1
      have hi:i < n:=Nat.le_of_ble_eq_true hi
      simp only [Bool.and_eq_true,beq_iff_eq] at hb
      obtain ⟨b0,b1,b2,b3⟩:=hb
      have b0:=dv b0
      subst b0
      have bm:=dv bm
      subst bm
      have b3:ak v.shed.cells=[]:=by
       cases hk:ak v.shed.cells with
       | nil=>rfl
       | cons=>simp [hk,isNil] at b3
      cases hxr with
      | gref _ _ _ _ _ bl cap hown=>
      obtain ⟨ad,cap',κ1,κ2,κ3,κ4⟩:=mi h hob hown rfl (by omega)
      simp only [Value.slice.injEq,Option.some.injEq,true_and] at κ2
      obtain ⟨κ2,κ5⟩:=κ2
      subst κ2 κ5
      obtain ⟨hsz,hfr,_⟩:=hor
      have hex:excl c q (.grw sq sz m get)=some bl:=by simp only [excl,κ1];rw [if_pos (by omega)]
      obtain ⟨⟨vs,t',hh,hs,hr⟩,had,hl,h1,hI'⟩:=κ4
      have hI:∀o,¬ c.I bl o:=λo=>hI' o (by rw [show sq - 1=0 by omega,Nat.zero_mul];exact Nat.zero_le _)
      have hcap:m*sz<=cap*sz:=Nat.mul_le_mul_right _ κ3
      simp only at hh hI
      have hst:setCells (get i) off v.shed.cells=some (zL (get i) off v.shed.cells):=xQ (by rw [(hl i hi).1];exact Nat.le_of_ble_eq_true hfo)
      generalize zL (get i) off v.shed.cells=l at hst ⊢
      have hcv:=gd hv.shed.rep b1
      obtain ⟨s1,s2,s3⟩:=cO hst
      have hlen:=(hl i hi).1
      have hfit:i*sz+off+V.cells.size<=vs.size:=by
       rw [hcv.1,hs]
       have:=Nat.mul_le_mul_right sz hi
       rw [Nat.succ_mul] at this;omega
      have hw:Wrote c (bl) (c.w.setRow (bl) (vs.toList.take (i*sz+off)++V.cells.toList++vs.toList.drop (i*sz+off+V.cells.toList.length)).toArray):=dM rfl
      have hkb:=Cx.dG h.objs hob (b:=bl) hex hI hw
      obtain ⟨g1,g2⟩:=fu vs (i*sz+off) V.cells.toList (by simpa using hfit)
      have hlk:ak l=[]:=by
       cases hk:ak l with
       | nil=>rfl
       | cons r rs=>
        rcases jQ hst r (by simp [hk]) with hm | hm
        ·simp [(hl i hi).2] at hm
        ·simp [b3] at hm
      have hnl:∀j,j < m->(cond (Nat.beq j i) l (get j)).length=sz/\ak (cond (Nat.beq j i) l (get j))=[]:=by
       intro j hj
       by_cases e:j=i
       ·subst e;simp only [Nat.beq_refl,cond_true];exact ⟨by rw [s1,hlen],hlk⟩
       ·rw [gN e];exact hl j hj
      have hnr:∀ (j q':Nat) (u:AV),j < m->(cond (Nat.beq j i) l (get j))[q']?=some u->u.one=true/\Rep c u ((vs.toList.take (i*sz+off)++V.cells.toList++vs.toList.drop (i*sz+off+V.cells.toList.length)).toArray.getD (j*sz+q') undef):=by
       intro j q' u hj hu
       have hq':q' < sz:=by rw [<-(hnl j hj).1];exact (List.getElem?_eq_some_iff.1 hu).1
       have hlt:=aY hj hq'
       rw [g2 _ (by omega)]
       simp only [Array.length_toList,hcv.1]
       by_cases e:j=i
       ·subst e
        simp only [Nat.beq_refl,cond_true] at hu
        rw [s3 q'] at hu
        split at hu
        ·rename_i hc
         rw [if_pos (by omega)]
         have:=hcv.2 _ u hu
         refine ⟨this.1,?_⟩
         have e5:j*sz+q' - (j*sz+off)=q' - off:=by omega
         rw [e5]
         simpa [Array.getD_eq_getD_getElem?,List.getD_eq_getElem?_getD] using this.2
        ·rename_i hc
         rw [if_neg (by omega)]
         exact ⟨h1 j q' u hj hu,hr j q' u hj hu⟩
       ·rw [gN e] at hu
        rw [if_neg]
        ·exact ⟨h1 j q' u hj hu,hr j q' u hj hu⟩
        ·rintro ⟨c1,c2⟩
         rcases Nat.lt_or_gt_of_ne e with hlt' | hgt
         ·have:=Nat.mul_le_mul_right sz hlt'
          rw [Nat.succ_mul] at this;omega
         ·have:=Nat.mul_le_mul_right sz hgt
          rw [Nat.succ_mul] at this;omega
      refine ⟨c.write _,gj b2 hcv.1 hh (by rw [<-hcv.1];exact hfit) hcv.qc,h.obj hkb (Cx.eh h.good hI hw (h.mine q _ _ hob hex)) ⟨hsz,hfr,?_⟩ ?_ (by simp [AO.keys]) ?_⟩
      ·show (match c.κ q with | none=>m=0 | some (a,cap)=>m<=cap/\(0 < cap->GrwAt (c.write _) a sq sz m cap _))
       rw [κ1]
       refine ⟨κ3,λ_=>⟨⟨_,t',setRow_heap _ _ _ _ _ _ hh,by rw [g1];exact hs,λj q' u hj hu=>?_⟩,had,hnl,λj q' u hj hu=>(hnr j q' u hj hu).1,hI'⟩⟩
       refine (hnr j q' u hj hu).2.ext hkb.ext λr hr=>?_
       rw [aF (hnl j hj).2 hu] at hr;simp at hr
      ·intro r o' b hr hne hb' e
       exact h.objs.apart r o' q _ b hr hob hne hb' e
      ·intro b hb';exact h.mine q _ b hob hb'
   | _=>simp [hob] at he
 | _=>simp [fk] at he
end Go.Ab

namespace Go.Ab
open Go Go.RowKit
variable {P:Program} {B:Base} {c:Cx} {s:St} {a:Act}
def Cx.owns (c:Cx) (w':World) (I':Nat->Nat->Prop) (k:Nat) (K:Option (Addr×Nat)) (n:Nat):Cx:=
 {w:=w',I:=I',β:=c.β,κ:=λq=>if q=k then K else c.κ q,fr:=λq=>if q=k then some n else c.fr q}
theorem dq {w':World} {I':Nat->Nat->Prop} {k n:Nat} {K:Option (Addr×Nat)} {objs:List (Nat×AO)}
  (hI:∀b o,c.I b o->I' b o) (hc:∀b o v,c.I b o->c.w.cell? ⟨b,o,none⟩=some v->w'.cell? ⟨b,o,none⟩=some v)
  (hm:∀b o ob,c.I b o->c.w.heap[b]?=some ob->e8 ob=false->w'.heap[b]?=some ob)
  (hk:∀n' v,live objs k->aD c (.key k) n' v->aD (c.owns w' I' k K n) (.key k) n' v)
  (hh:∀q o b,alook objs q=some o->q≠k->excl c q o=some b->w'.heap[b]?=c.w.heap[b]?/\∀off,I' b off->c.I b off):KeepsBut c (c.owns w' I' k K n) objs k:=by
 refine ⟨⟨hc,hI,λ_ _=>rfl,λq hq n' v hv=>?_,hm⟩,λ_ _ _=>rfl,λq _ hne=>by simp [Cx.owns,hne],λq _ hne=>by simp [Cx.owns,hne],hh⟩
 by_cases e:q=k
 ·subst e;exact hk n' v hq hv
 ·simpa [aD,Cx.owns,e] using hv
theorem ly (h:Rel B c s a) {d:Nat} {t:TypeId} {same:Bool} {x y v:AV} {X Y:Value} {k:Nat} {ob:AO} (hx:Rep c x X) (hy:Rep c y Y) (he:eo P s d t same x y=some (true,v,k,ob)) :
  ∃z c',(Instr.makeSlice t X Y).run P c.w=.ok z c'.w/\Rel B c' (s.setObj k ob) a/\Sees B c' (s.setObj k ob) v z:=by
 unfold eo at he
 split at he
 ·rename_i e l m hu
  split at he
  ·rename_i z inf hz hinf hd
   simp only [aj] at he
   cases hb:(Nat.beq z.length inf.size&&Nat.blt 0 inf.size) with
   | false=>simp [hb] at he
   | true=>
    simp only [hb,cond_true] at he
    simp only [Bool.and_eq_true] at hb
    have b1:=dv hb.1
    have b2:0 < inf.size:=Nat.lt_of_succ_le (Nat.le_of_ble_eq_true hb.2)
    obtain ⟨i,zv,hi,hzv,hcz⟩:=aV hz
    obtain ⟨hzc,hzk⟩:=dF (c:=c) hcz
    have:i=inf:=by rw [hinf] at hi;exact (Option.some.inj hi).symm
    subst this
    cases hx;cases hy
    have hmade:(madeCells zv.cells (m.toNat*i.size)).size=m.toNat*z.length:=by rw [size_madeCells,b1]
    cases same with
    | true=>
     simp only [cond_true,Option.some.injEq,Prod.mk.injEq,Bool.and_eq_true,decide_eq_true_eq] at he
     obtain ⟨⟨hlc,h0,hr,hle⟩,rfl,rfl,rfl⟩:=he
     subst hlc
     have hr:=Nat.le_of_ble_eq_true hr
     have hrun:=run_make (P:=P) c.w t e i zv hu hinf hzv .i64 .i64 l l h0 (Int.le_refl _) (by
      have e1:((l.toNat*i.bytes:Nat):Int)<=140737488355328:=by omega
      have e2:(l.toNat:Int)=l:=Int.toNat_of_nonneg h0
      rw [Int.natCast_mul,e2] at e1
      rw [Int.mul_comm];omega) (by omega)
     refine ⟨_,c.var d (madeCells zv.cells (l.toNat*i.size)) e,hrun,ky h hd hmade (λj hj=>⟨rfl,hzk⟩) (λj q u hj hu'=>⟨(hzc.2 q u hu').1,?_⟩),⟨?_,λq hq=>?_,rfl⟩⟩
     ·have hq:q < z.length:=(List.getElem?_eq_some_iff.1 hu').1
      have hzs:zv.cells.size=z.length:=hzc.1
      rw [eZ _ _ _ (by rw [<-b1];exact aY hj hq) (by omega)]
      have e5:(j*z.length+q) % zv.cells.size=q:=by rw [hzs,Nat.add_comm,Nat.add_mul_mod_self_right,Nat.mod_eq_of_lt hq]
      rw [e5];exact (hzc.2 q u hu').2
     ·have:=Rep.msl (c:=c.var d (madeCells zv.cells (l.toNat*i.size)) e) d z.length 0 l.toNat l.toNat 0 (Nat.le_refl _) (by simp)
      simpa [Cx.var] using this
     ·simp [AV.keys] at hq;subst hq;exact aR
    | false=>
     simp only [cond_false,Option.some.injEq,Prod.mk.injEq,Bool.and_eq_true,decide_eq_true_eq] at he
     obtain ⟨⟨hl0,h0,hr,hle⟩,rfl,rfl,rfl⟩:=he
     subst hl0
     have hr:=Nat.le_of_ble_eq_true hr
     have hrun:=run_make (P:=P) c.w t e i zv hu hinf hzv .i64 .i64 0 m (Int.le_refl _) h0 (by
      have e1:((m.toNat*i.bytes:Nat):Int)<=140737488355328:=by omega
      have e2:(m.toNat:Int)=m:=Int.toNat_of_nonneg h0
      rw [Int.natCast_mul,e2] at e1
      rw [Int.mul_comm];omega) (by omega)
     have hkb:KeepsBut c (c.owns (c.w.alloc (.cells (madeCells zv.cells (m.toNat*i.size)) e)) c.I d (some (⟨c.w.heap.size,0,none⟩,m.toNat)) 0) s.objs d:=by
      refine dq (λ_ _ hi=>hi) (λb o v' hi hv=>?_) (λb o ob hi he _=>(aA c.w _ b (aJ he)).trans he) (λn' v' hl _=>absurd rfl (ft hd hl)) (λq o b hq hne hb=>⟨aA _ _ _ (cf (h.objs.rep q o hq) hb),λ_ hi=>hi⟩)
      rw [World.bj (aA c.w _ b (dr hv))];exact hv
     have hgr:Grow B c (c.owns (c.w.alloc (.cells (madeCells zv.cells (m.toNat*i.size)) e)) c.I d (some (⟨c.w.heap.size,0,none⟩,m.toNat)) 0):=by
      refine ⟨rfl,rfl,rfl,by simp [Cx.owns],λb hb _=>aA _ _ _ (Nat.lt_of_lt_of_le hb h.frame.size),λb o hb _ hi=>hi,λb o hi=>?_⟩
      exact hkb.ext.there h.good hi
     simp only [Int.toNat_zero] at hrun
     refine ⟨.slice (some ⟨c.w.heap.size,0,none⟩) 0 m.toNat,c.owns (c.w.alloc (.cells (madeCells zv.cells (m.toNat*i.size)) e)) c.I d (some (⟨c.w.heap.size,0,none⟩,m.toNat)) 0,hrun,h.obj hkb hgr ⟨by omega,by simp [Cx.owns],?_⟩ ?_ (by simp [AO.keys]) ?_,⟨?_,λq hq=>?_,rfl⟩⟩
     ·simp only [Cx.owns,if_true]
      refine ⟨(λ_=>trivial),Nat.zero_le _,λ_=>⟨⟨_,e,aP c.w _,hmade⟩,rfl,λo _ hi=>?_⟩⟩
      have:=h.good.lt hi
      simp at this
     ·intro q o' b hq hne hb
      have:=cf (h.objs.rep q o' hq) hb
      simp only [excl,Cx.owns,if_true]
      intro e'
      split at e'
      ·have h9:c.w.heap.size=b:=Option.some.inj e'
       omega
      ·simp at e'
     ·intro b hb
      simp only [excl,Cx.owns,if_true] at hb
      have:=h.frame.size
      split at hb
      ·have h9:c.w.heap.size=b:=Option.some.inj hb
       left;omega
      ·simp at hb
     ·refine .sl _ _ _ _ ⟨c.w.heap.size,0,none⟩ m.toNat (λ_ _=>undef) (λ_=>rfl) (Nat.zero_le _) ⟨0,by simp [Cx.owns],Nat.le_refl _,λ_=>by simp [Cx.owns,kQ]⟩ (λj hj=>by omega) (λj i u hj=>by omega) (λj i u hj=>by omega)
     ·simp [AV.keys] at hq;subst hq;exact aR
  ·simp at he
 ·simp at he
structure RowSees (c:Cx) (b o n sz:Nat) (get:Nat->List AV):Prop where
 len:∀j,j < n->(get j).length=sz/\ak (get j)=[]
 cell:∀ (j i:Nat) (u:AV),j < n->(get j)[i]?=some u->u.one=true/\∃y,c.w.cell? ⟨b,o+(j*sz+i),none⟩=some y/\Rep c u y
def rd (w:World) (b o:Nat) (q:Nat):Value:=(w.cell? ⟨b,o+q,none⟩).getD undef
def rdL (w:World) (b o len:Nat):List Value:=(List.range len).map (rd w b o)
theorem oK {n sz q:Nat} (h:q < n*sz):q / sz < n/\q % sz < sz/\q / sz*sz+q % sz=q:=by
 have hsz:0 < sz:=by
  rcases Nat.eq_zero_or_pos sz with h0 | h0
  ·rw [h0] at h;omega
  ·exact h0
 exact ⟨Nat.div_lt_of_lt_mul (by rw [Nat.mul_comm];exact h),Nat.mod_lt _ hsz,by rw [Nat.mul_comm];exact Nat.div_add_mod q sz⟩
theorem RowSees.at {b o n sz:Nat} {get:Nat->List AV} (h:RowSees c b o n sz get) {q:Nat} (hq:q < n*sz):c.w.cell? ⟨b,o+q,none⟩=some (rd c.w b o q)/\(rd c.w b o q).oneCell'=true:=by
 obtain ⟨h1,h2,h3⟩:=oK hq
 obtain ⟨g1,y,g2,g3⟩:=h.cell (q / sz) (q % sz) _ h1 (List.getElem?_eq_getElem (by rw [(h.len _ h1).1];exact h2))
 rw [h3] at g2
 simp only [rd,g2,Option.getD_some]
 exact ⟨trivial,ji g3 g1⟩
theorem RowSees.rep {b o n sz:Nat} {get:Nat->List AV} (h:RowSees c b o n sz get) {j i:Nat} {u:AV} (hj:j < n) (hu:(get j)[i]?=some u):Rep c u (rd c.w b o (j*sz+i)):=by
 obtain ⟨_,y,g2,g3⟩:=h.cell j i u hj hu
 simpa [rd,g2] using g3
theorem xP {w:World} {b o len j:Nat} {v:Value} (h:(rdL w b o len)[j]?=some v):j < len/\v=rd w b o j:=by
 simp only [rdL,List.getElem?_map] at h
 rcases Nat.lt_or_ge j len with hj | hj
 ·simp [hj] at h;exact ⟨hj,h.symm⟩
 ·simp [hj] at h
theorem aE (w:World) (b o len:Nat):(rdL w b o len).length=len:=by simp [rdL]
theorem RowSees.cells {b o n sz:Nat} {get:Nat->List AV} (h:RowSees c b o n sz get):(∀j v,(rdL c.w b o (n*sz))[j]?=some v->c.w.cell? ((⟨b,o,none⟩:Addr).add j)=some v)/\∀u∈rdL c.w b o (n*sz),u.oneCell'=true:=by
 refine ⟨λj v hv=>?_,λu hu=>?_⟩
 ·obtain ⟨hj,rfl⟩:=xP hv
  rw [Addr.add_lit];exact (h.at hj).1
 ·simp only [rdL,List.mem_map,List.mem_range] at hu
  obtain ⟨q,hq,rfl⟩:=hu
  exact (h.at hq).2
theorem gO {x:AV} {o:Own} {sz n:Nat} {get:Nat->List AV} {X:Value} (hx:Rep c x X) (e:x=.sl o sz n get) :
  (X=.slice none 0 0/\n=0/\aD c o 0 X)∨∃b of sp cap,(0 < cap->sp=none)/\X=.slice (some ⟨b,of,sp⟩) n cap/\n<=cap/\aD c o n X/\RowSees c b of n sz get/\∀q,q < n*sz->c.I b (of+q):=by
 subst e
 cases hx with
 | slNil _ _ _ ho=>exact .inl ⟨rfl,rfl,ho⟩
 | sl _ _ _ _ ad cap vals h1 h2 h3 h4 h5 h6=>
  obtain ⟨b,of,sp⟩:=ad
  simp only at h1
  refine .inr ⟨b,of,sp,cap,h1,rfl,h2,h3,⟨h4,λj i u hj hu=>⟨(h5 j i u hj hu).1,_,(h5 j i u hj hu).2.1,h6 j i u hj hu⟩⟩,λq hq=>?_⟩
  obtain ⟨g1,g2,g3⟩:=oK hq
  have:=(h5 (q / sz) (q % sz) _ g1 (List.getElem?_eq_getElem (by rw [(h4 _ g1).1];exact g2))).2.2
  rw [g3] at this;exact this
theorem dm {t ty e:TypeId} {i:TypeInfo} (ht:P.underlying t=some (.slice e)) (hi:P.info? e=some i) {base:Option Addr} {n cap:Nat} (hn:n<=cap) {Y:Value} (hY:Y=.slice none 0 0∨∃ad c,Y=.slice (some ad) 0 c) (w:World) :
  (Builtin.append_ #[t,t] ty #[.slice base n cap,Y]).run P w=.ok (.slice base n cap) w:=by
 rcases hY with rfl | ⟨ad,cc,rfl⟩ <;> cases base <;> simp [Builtin.append_,run_underlying ht,sizeOf,typeInfo,hi,Builtin.lenOf,hn,Builtin.firstCells,loadCells,loadCellsFrom,storeCells]
theorem tA {a b:Nat} (h:a < b):Nat.blt a b=true:=Nat.ble_eq_true_of_le h
theorem ltB {a b:Nat} (h:Nat.blt a b=true):a < b:=Nat.le_of_ble_eq_true h
theorem cU {n m:Nat} {get get2:Nat->List AV} {j:Nat} (h:j < n):ay n m get get2 j=get j:=by
 have:Nat.blt j n=true:=tA h
 simp [ay,this]
theorem dy {n m:Nat} {get get2:Nat->List AV} {j:Nat} (h1:n<=j) (h2:j < n+m):ay n m get get2 j=get2 (j - n):=by
 have e1:Nat.blt j n=false:=by
  cases hb:Nat.blt j n with
  | false=>rfl
  | true=>
       have:=ltB hb
       omega
 have e2:Nat.blt j (n+m)=true:=tA h2
 simp only [ay,e1,e2,cond_false,cond_true]
theorem l5 (w:World) (b o len q:Nat) (h:q < len):(rdL w b o len)[q]?=some (rd w b o q):=by simp [rdL,h]
structure SrcL (c:Cx) (new:List Value) (m sz:Nat) (get:Nat->List AV):Prop where
 size:new.length=m*sz
 len:∀j,j < m->(get j).length=sz/\ak (get j)=[]
 cell:∀ (j i:Nat) (u:AV),j < m->(get j)[i]?=some u->u.one=true/\∃y,new[j*sz+i]?=some y/\Rep c u y
theorem RowSees.src {b o m sz:Nat} {get:Nat->List AV} (h:RowSees c b o m sz get):SrcL c (rdL c.w b o (m*sz)) m sz get:=
 ⟨aE _ _ _ _,h.len,λj i u hj hu=>⟨(h.cell j i u hj hu).1,_,l5 _ _ _ _ _ (aY hj (by rw [<-(h.len j hj).1];exact (List.getElem?_eq_some_iff.1 hu).1)),h.rep hj hu⟩⟩
theorem nw {c':Cx} {b1 o1 n m sz g:Nat} {new:List Value} {get get2:Nat->List AV} {vs:Array Value} {t':TypeId} {ks:Nat->Prop} (h1:RowSees c b1 o1 n sz get) (h2:SrcL c new m sz get2)
  (he:Ext c c' ks) (hg:c'.w.heap[g]?=some (.cells vs t' (0,0))) (hv1:∀q,q < n*sz->vs[q]?=some (rd c.w b1 o1 q)) (hv2:∀q,q < m*sz->vs[n*sz+q]?=new[q]?)
  (hI:∀q,q < (n+m)*sz->c'.I g q) {K:Nat} {cap:Nat} (hcap:n+m<=cap) (ho:aD c' (.key K) (n+m) (.slice (some ⟨g,0,none⟩) (n+m) cap)) :
  Rep c' (.sl (.key K) sz (n+m) (ay n m get get2)) (.slice (some ⟨g,0,none⟩) (n+m) cap):=by
 have hlen:∀j,j < n+m->(ay n m get get2 j).length=sz/\ak (ay n m get get2 j)=[]:=by
  intro j hj
  by_cases hjn:j < n
  ·rw [cU hjn];exact h1.len j hjn
  ·rw [dy (by omega) hj];exact h2.len _ (by omega)
 have key:∀ (j i:Nat) (u:AV),j < n+m->(ay n m get get2 j)[i]?=some u->u.one=true/\∃y,vs[j*sz+i]?=some y/\Rep c u y:=by
  intro j i u hj hu
  have hi:i < sz:=by rw [<-(hlen j hj).1];exact (List.getElem?_eq_some_iff.1 hu).1
  by_cases hjn:j < n
  ·rw [cU hjn] at hu
   exact ⟨(h1.cell j i u hjn hu).1,_,hv1 _ (aY hjn hi),h1.rep hjn hu⟩
  ·rw [dy (by omega) hj] at hu
   have hj':j - n < m:=by omega
   obtain ⟨r1,y,r2,r3⟩:=h2.cell _ i u hj' hu
   refine ⟨r1,y,?_,r3⟩
   have e:j*sz+i=n*sz+((j - n)*sz+i):=by
    have:j=n+(j - n):=by omega
    conv=>lhs;rw [this,Nat.add_mul]
    omega
   rw [e,hv2 _ (aY hj' hi)];exact r2
 refine .sl _ _ _ _ ⟨g,0,none⟩ cap (λj i=>vs.getD (j*sz+i) undef) (λ_=>rfl) hcap ho hlen (λj i u hj hu=>?_) (λj i u hj hu=>?_)
 ·have hi:i < sz:=by rw [<-(hlen j hj).1];exact (List.getElem?_eq_some_iff.1 hu).1
  obtain ⟨k1,y,k2,k3⟩:=key j i u hj hu
  refine ⟨k1,?_,by simpa using hI _ (aY hj hi)⟩
  simp only [Nat.zero_add]
  rw [aL hg,k2]
  simp [Array.getD_eq_getD_getElem?,k2]
 ·obtain ⟨k1,y,k2,k3⟩:=key j i u hj hu
  have:vs.getD (j*sz+i) undef=y:=by simp [Array.getD_eq_getD_getElem?,k2]
  rw [this]
  refine k3.ext he λk hk=>?_
  rw [aF (hlen j hj).2 hu] at hk;simp at hk
structure Owner (c:Cx) (s:St) (o:Own) (sz n K:Nat) (X:Value):Prop where
 cases:(o=.fit/\s.obj K=none)∨(o=.key K/\s.obj K=some (.own sz n))
 own:aD c o n X
theorem iR (h:Rel B c s a) {o:Own} {sz n m K:Nat} {X:Value} (hO:Owner c s o sz n K X) (hm:0 < m) (hsz:0 < sz) {vs:Array Value} {e:TypeId} {cap:Nat} (hcap:n+m<=cap) (hvs:vs.size=cap*sz)
  {b1 o1:Nat} {new:List Value} {get get2:Nat->List AV} (h1:RowSees c b1 o1 n sz get) (h2:SrcL c new m sz get2)
  (hv1:∀q,q < n*sz->vs[q]?=some (rd c.w b1 o1 q)) (hv2:∀q,q < m*sz->vs[n*sz+q]?=new[q]?) :
  ∃c',c'.w=c.w.drew.alloc (.cells vs e)/\Rel B c' (s.setObj K (.own sz (n+m))) a /\
   Sees B c' (s.setObj K (.own sz (n+m))) (.sl (.key K) sz (n+m) (ay n m get get2)) (.slice (some ⟨c.w.heap.size,0,none⟩) (n+m) cap):=by
 let c':=c.owns (c.w.drew.alloc (.cells vs e)) (λb q=>c.I b q∨(b=c.w.heap.size/\q < (n+m)*sz)) K (some (⟨c.w.heap.size,0,none⟩,cap)) (n+m)
 have hkb:KeepsBut c c' s.objs K:=by
  refine dq (λ_ _ hi=>.inl hi) (λb q v hi hv=>?_) (λb q ob hi he _=>(aA c.w.drew _ b (aJ he)).trans he) (λn' v hl hv=>?_) (λq o' b hq hne hb=>⟨aA c.w.drew _ _ (cf (h.objs.rep q o' hq) hb),λoff hi=>?_⟩)
  ·rw [World.bj (aA c.w.drew _ b (dr hv))];exact hv
  ·obtain ⟨m',f1,f2,_⟩:=hv
   rcases hO.cases with ⟨_,hk⟩ | ⟨_,hk⟩
   ·exact absurd rfl (ft hk hl)
   ·have:=(h.objs.rep K _ hk).2.1
    rw [this] at f1
    have:=Option.some.inj f1
    exact ⟨n+m,by simp [Cx.owns],by omega,λe'=>by omega⟩
  ·rcases hi with hi | ⟨rfl,_⟩
   ·exact hi
   ·have:=cf (h.objs.rep q o' hq) hb;omega
 have hgr:Grow B c c':=by
  refine ⟨rfl,rfl,rfl,by simp [c',Cx.owns],λb hb _=>aA c.w.drew _ _ (Nat.lt_of_lt_of_le hb h.frame.size),λb q hb _ hi=>?_,λb q hi=>?_⟩
  ·rcases hi with hi | ⟨rfl,_⟩
   ·exact hi
   ·have:=h.frame.size;omega
  ·rcases hi with hi | ⟨rfl,hq⟩
   ·exact hkb.ext.there h.good hi
   ·have hlt:q < vs.size:=by rw [hvs];exact Nat.lt_of_lt_of_le hq (Nat.mul_le_mul_right _ hcap)
    exact .inl ⟨vs[q],by show (c.w.drew.alloc _).cell? ⟨c.w.drew.heap.size,q,none⟩=_;rw [aL (aP c.w.drew _)];simp⟩
 have hown:aD c' (.key K) (n+m) (.slice (some ⟨c.w.heap.size,0,none⟩) (n+m) cap):=⟨n+m,by simp [c',Cx.owns],Nat.le_refl _,λ_=>by simp [c',Cx.owns,kQ]⟩
 refine ⟨c',rfl,h.obj hkb hgr ⟨hsz,by simp [c',Cx.owns],?_⟩ ?_ (by simp [AO.keys]) ?_,⟨?_,λq hq=>?_,rfl⟩⟩
 ·simp only [c',Cx.owns,if_true]
  refine ⟨(λ_=>trivial),hcap,λ_=>⟨⟨vs,e,aP c.w.drew _,hvs⟩,rfl,λq hq hi=>?_⟩⟩
  rcases hi with hi | ⟨_,hq'⟩
  ·have:=h.good.lt hi
   simp at this
  ·omega
 ·intro q o' b hq hne hb
  have:=cf (h.objs.rep q o' hq) hb
  simp only [excl,c',Cx.owns,if_true]
  intro e'
  split at e'
  ·have h9:c.w.heap.size=b:=Option.some.inj e'
   omega
  ·simp at e'
 ·intro b hb
  simp only [excl,c',Cx.owns,if_true] at hb
  have:=h.frame.size
  split at hb
  ·have h9:c.w.heap.size=b:=Option.some.inj hb
   left;omega
  ·simp at hb
 ·exact nw h1 h2 hkb.ext (aP c.w.drew _) hv1 hv2 (λq hq=>.inr ⟨rfl,hq⟩) hcap hown
 ·simp [AV.keys] at hq;subst hq;exact aR
theorem pM (h:Rel B c s a) {sz n m K:Nat} (hk:s.obj K=some (.own sz n)) (hm:0 < m) {g cap:Nat} (hκ:c.κ K=some (⟨g,0,none⟩,cap)) (hcap:n+m<=cap) {cur:Array Value} {e:TypeId} (hh:c.w.heap[g]?=some (.cells cur e (0,0)))
  (hcs:cur.size=cap*sz) (hfree:∀q,n*sz<=q->¬ c.I g q) {new:List Value} {get get2:Nat->List AV} (h1:RowSees c g 0 n sz get) (hI1:∀q,q < n*sz->c.I g (0+q)) (h2:SrcL c new m sz get2) :
  ∃c',c'.w=c.w.setRow g (cur.toList.take (n*sz)++new++cur.toList.drop (n*sz+new.length)).toArray/\Rel B c' (s.setObj K (.own sz (n+m))) a /\
   Sees B c' (s.setObj K (.own sz (n+m))) (.sl (.key K) sz (n+m) (ay n m get get2)) (.slice (some ⟨g,0,none⟩) (n+m) cap):=by
 have hrepK:=h.objs.rep K _ hk
 have hsz:0 < sz:=hrepK.1
 have hexcl:excl c K (.own sz n)=some g:=by simp [excl,hκ];omega
 have hfit:n*sz+new.length<=cur.size:=by rw [h2.size,hcs,<-Nat.add_mul];exact Nat.mul_le_mul_right _ hcap
 obtain ⟨g1,g2⟩:=fu cur (n*sz) new hfit
 generalize hvs:(cur.toList.take (n*sz)++new++cur.toList.drop (n*sz+new.length)).toArray=vs at g1 g2
 have hW:Wrote c g (c.w.setRow g vs):=dM rfl
 have hg':(c.w.setRow g vs).heap[g]?=some (.cells vs e (0,0)):=setRow_heap _ _ _ _ _ _ hh
 have u5:∀q,q < cur.size->vs[q]?=some (if n*sz<=q/\q < n*sz+new.length then new.getD (q - n*sz) undef else cur.getD q undef):=by
  intro q hq
  have hq':q < vs.size:=by omega
  have:=g2 q hq
  rw [<-this]
  simp [Array.getD_eq_getD_getElem?,hq']
 let c':=c.owns (c.w.setRow g vs) (λb q=>c.I b q∨(b=g/\n*sz<=q/\q < (n+m)*sz)) K (some (⟨g,0,none⟩,cap)) (n+m)
 have hkb:KeepsBut c c' s.objs K:=by
  refine dq (λ_ _ hi=>.inl hi) (λb q v hi hv=>?_) (λb q ob hi he ho=>(hW.other b (λe=>by subst e;rw [hh] at he;cases he;cases ho)).trans he) (λn' v hl hv=>?_) (λq o' b hq hne hb=>?_)
  ·by_cases e':b=g
   ·subst e'
    have hq:q < n*sz:=by
     rcases Nat.lt_or_ge q (n*sz) with h' | h'
     ·exact h'
     ·exact absurd hi (hfree q h')
    rw [aL hg',u5 q (by omega),if_neg (by omega)]
    rw [aL hh] at hv
    simp [Array.getD_eq_getD_getElem?,hv]
   ·rw [World.bj (hW.other b e')];exact hv
  ·obtain ⟨m',f1,f2,_⟩:=hv
   rw [hrepK.2.1] at f1
   have:=Option.some.inj f1
   exact ⟨n+m,by simp [Cx.owns],by omega,λe'=>by omega⟩
  ·have hne':b≠g:=by
    rintro rfl
    exact h.objs.apart q o' K _ b hq hk hne hb hexcl
   refine ⟨hW.other b hne',λoff hi=>?_⟩
   rcases hi with hi | ⟨e',_⟩
   ·exact hi
   ·exact absurd e' hne'
 have hgr:Grow B c c':=by
  refine ⟨rfl,rfl,rfl,by simp [c',Cx.owns],λb hb hd=>hW.other b ?_,λb q hb hd hi=>?_,λb q hi=>?_⟩
  ·rintro rfl
   rcases h.mine K _ b hk hexcl with h' | h'
   ·omega
   ·exact hd h'
  ·rcases hi with hi | ⟨rfl,_⟩
   ·exact hi
   ·rcases h.mine K _ b hk hexcl with h' | h'
    ·omega
    ·exact absurd h' hd
  ·rcases hi with hi | ⟨rfl,_,hq⟩
   ·exact hkb.ext.there h.good hi
   ·have hlt:q < vs.size:=by rw [g1,hcs];exact Nat.lt_of_lt_of_le hq (Nat.mul_le_mul_right _ hcap)
    exact .inl ⟨vs[q],by show (c.w.setRow b vs).cell? _=_;rw [aL hg'];simp⟩
 have hown:aD c' (.key K) (n+m) (.slice (some ⟨g,0,none⟩) (n+m) cap):=⟨n+m,by simp [c',Cx.owns],Nat.le_refl _,λ_=>by simp [c',Cx.owns,kQ]⟩
 have hexcl':∀b,excl c' K (.own sz (n+m))=some b->b=g:=by
  intro b hb
  simp only [excl,c',Cx.owns,if_true] at hb
  split at hb
  ·exact (Option.some.inj hb).symm
  ·simp at hb
 refine ⟨c',by simp [c',Cx.owns],h.obj hkb hgr ⟨hsz,by simp [c',Cx.owns],?_⟩ ?_ (by simp [AO.keys]) ?_,⟨?_,λq hq=>?_,rfl⟩⟩
 ·simp only [c',Cx.owns,if_true]
  refine ⟨(λ_=>trivial),hcap,λ_=>⟨⟨vs,e,hg',by rw [g1,hcs]⟩,rfl,λq hq hi=>?_⟩⟩
  rcases hi with hi | ⟨_,_,hq'⟩
  ·exact hfree q (by rw [Nat.add_mul] at hq;omega) hi
  ·omega
 ·intro q o' b hq hne hb e'
  have:=hexcl' b e'
  subst this
  exact h.objs.apart q o' K _ b hq hk hne hb hexcl
 ·intro b hb
  rw [hexcl' b hb];exact h.mine K _ g hk hexcl
 ·refine nw h1 h2 hkb.ext hg' (λq hq=>?_) (λq hq=>?_) (λq hq=>?_) hcap hown
  ·have hlt:q < cur.size:=by omega
   rw [u5 q hlt,if_neg (by omega)]
   have:=(h1.at hq).1
   simp only [Nat.zero_add] at this
   rw [aL hh] at this
   simp [Array.getD_eq_getD_getElem?,this]
  ·rw [h2.size] at hfit
   rw [u5 _ (by omega),if_pos (by rw [h2.size];omega)]
   have e5:n*sz+q - n*sz=q:=by omega
   have hq':q < new.length:=by rw [h2.size];exact hq
   rw [e5,List.getD_eq_getElem?_getD,List.getElem?_eq_getElem hq'];rfl
  ·by_cases hlt:q < n*sz
   ·left
    have:=hI1 q hlt
    simpa using this
   ·exact .inr ⟨rfl,by omega,hq⟩
 ·simp [AV.keys] at hq;subst hq;exact aR
end Go.Ab

namespace Go.Ab
open Go Go.RowKit
variable {P:Program} {B:Base} {c:Cx} {s:St} {a:Act}
theorem Rep.reown {o o':Own} {sz sz' n:Nat} {get get':Nat->List AV} {X:Value} (h:Rep c (.sl o sz n get) X) (hs:n=0∨sz=sz') (hg:∀j,j < n->get' j=get j) (ho:aD c o' n X):Rep c (.sl o' sz' n get') X:=by
 cases h with
 | slNil=>exact .slNil _ _ _ ho
 | sl _ _ _ _ ad cap vals h1 h2 h3 h4 h5 h6=>
  rcases hs with rfl | rfl
  ·exact .sl _ _ _ _ ad cap vals h1 h2 ho (λj hj=>by omega) (λj i u hj=>by omega) (λj i u hj=>by omega)
  ·exact .sl _ _ _ _ ad cap vals h1 h2 ho (λj hj=>by rw [hg j hj];exact h4 j hj) (λj i u hj hu=>h5 j i u hj (by rwa [hg j hj] at hu)) (λj i u hj hu=>h6 j i u hj (by rwa [hg j hj] at hu))
theorem iv (h:Rel B c s a) {o:Own} {sz sz0 n K:Nat} {get get':Nat->List AV} {X:Value} (hsz:0 < sz) (hx:Rep c (.sl o sz0 n get) X) (hO:Owner c s o sz n K X) (hs:n=0∨sz0=sz) (hg:∀j,j < n->get' j=get j) :
  ∃c',(c'.β=c.β/\c'.I=c.I)/\c'.w=c.w/\Rel B c' (s.setObj K (.own sz n)) a/\Sees B c' (s.setObj K (.own sz n)) (.sl (.key K) sz n get') X:=by
 obtain ⟨κ',e1,e2⟩:∃κ',X=kQ κ' n/\(match κ' with
   | none=>n=0
   | some (ad,cap)=>(0 < cap->ad.spot=none)/\n<=cap/\(n < cap->RoomAt c ad sz n cap/\(s.obj K=some (.own sz n)/\c.κ K=some (ad,cap)))):=by
  rcases hO.cases with ⟨rfl,_⟩ | ⟨rfl,hk⟩
  ·have ho:=hO.own
   cases hx with
   | slNil=>exact ⟨none,rfl,rfl⟩
   | sl _ _ _ _ ad cap vals h1 h2 h3 h4 h5 h6=>
    have:cap=n:=ho
    subst this
    exact ⟨some (ad,cap),rfl,h1,Nat.le_refl _,λhlt=>by omega⟩
  ·obtain ⟨m',f1,f2,f3⟩:=hO.own
   have hr:=h.objs.rep K _ hk
   rw [hr.2.1] at f1
   have:=Option.some.inj f1
   subst this
   refine ⟨c.κ K,f3 rfl,?_⟩
   have:=hr.2.2
   cases hκ:c.κ K with
   | none=>simpa [hκ] using this
   | some p=>
    obtain ⟨ad,cap⟩:=p
    simp only [hκ] at this
    exact ⟨this.1,this.2.1,λhlt=>⟨this.2.2 hlt,hk,rfl⟩⟩
 let c':=c.owns c.w c.I K κ' n
 have hkb:KeepsBut c c' s.objs K:=by
  refine dq (λ_ _ hi=>hi) (λ_ _ _ _ hv=>hv) (λ_ _ _ _ hv _=>hv) (λn' v hl hv=>?_) (λ_ _ _ _ _ _=>⟨rfl,λ_ hi=>hi⟩)
  rcases hO.cases with ⟨_,hk⟩ | ⟨rfl,hk⟩
  ·exact absurd rfl (ft hk hl)
  ·obtain ⟨m',f1,f2,f3⟩:=hv
   have hr:=h.objs.rep K _ hk
   rw [hr.2.1] at f1
   have:=Option.some.inj f1
   subst this
   refine ⟨n,by simp [Cx.owns],f2,λe=>?_⟩
   subst e
   obtain ⟨m'',g1,g2,g3⟩:=hO.own
   rw [hr.2.1] at g1
   have:=Option.some.inj g1
   rw [f3 rfl,<-g3 this,e1]
   simp [Cx.owns]
 have hgr:Grow B c c':=⟨rfl,rfl,rfl,Nat.le_refl _,λ_ _ _=>rfl,λ_ _ _ _ hi=>hi,h.good.there⟩
 have hexcl:∀b,excl c' K (.own sz n)=some b->s.obj K=some (.own sz n)/\excl c K (.own sz n)=some b:=by
  intro b hb
  simp only [excl,c',Cx.owns,if_true] at hb
  cases κ' with
  | none=>simp at hb
  | some p=>
   obtain ⟨ad,cap⟩:=p
   simp only at hb e2
   split at hb
   ·rename_i hlt
    obtain ⟨_,hk,hκ⟩:=e2.2.2 hlt
    exact ⟨hk,by simp [excl,hκ,hlt];exact Option.some.inj hb⟩
   ·simp at hb
 refine ⟨c',⟨rfl,rfl⟩,rfl,h.obj hkb hgr ⟨hsz,by simp [c',Cx.owns],?_⟩ (λq o' b hq hne hb e=>?_) (by simp [AO.keys]) (λb hb=>?_),⟨?_,λq hq=>?_,rfl⟩⟩
 ·simp only [c',Cx.owns,if_true]
  cases κ' with
  | none=>exact e2
  | some p=>
   obtain ⟨ad,cap⟩:=p
   refine ⟨e2.1,e2.2.1,λhlt=>?_⟩
   obtain ⟨⟨r1,r2,r3⟩,_⟩:=e2.2.2 hlt
   exact ⟨r1,r2,r3⟩
 ·obtain ⟨hk,hb'⟩:=hexcl b e
  exact h.objs.apart q o' K _ b hq hk hne hb hb'
 ·obtain ⟨hk,hb'⟩:=hexcl b hb
  exact h.mine K _ b hk hb'
 ·have hx':Rep c' (.sl .no sz0 n get) X:=by
   have hx0:Rep c (.sl .no sz0 n get) X:=hx.reown (.inr rfl) (λ_ _=>rfl) trivial
   exact hx0.ext (ks:=live s.objs) hkb.ext (by simp [AV.keys])
  exact hx'.reown hs hg ⟨n,by simp [c',Cx.owns],Nat.le_refl _,λ_=>by rw [e1];simp [c',Cx.owns]⟩
 ·simp [AV.keys] at hq;subst hq;exact aR
theorem mG (h:Rel B c s a) {o:Own} {sz sz0 n K:Nat} {get get':Nat->List AV} {X:Value} (hsz:0 < sz) (hx:Rep c (.sl o sz0 n get) X) (hO:Owner c s o sz n K X) (hs:n=0∨sz0=sz) (hg:∀j,j < n->get' j=get j) :
  ∃c',c'.w=c.w/\Rel B c' (s.setObj K (.own sz n)) a/\Sees B c' (s.setObj K (.own sz n)) (.sl (.key K) sz n get') X:=by
 obtain ⟨c',_,h'⟩:=iv (get':=get') h hsz hx hO hs hg
 exact ⟨c',h'⟩
theorem iw {t ty e:TypeId} {i:TypeInfo} {sz:Nat} (ht:P.underlying t=some (.slice e)) (hi:P.info? e=some i) (hs:i.size=sz) {w:World}
  {g sLen sCap:Nat} {cur:Array Value} {e':TypeId} (hg:w.heap[g]?=some (.cells cur e' (0,0)))
  {ad:Addr} {m cc:Nat} {news:List Value} (hl:news.length=m*sz) (hnews:∀j u,news[j]?=some u->w.cell? (ad.add j)=some u) (h1:∀u∈news,u.oneCell'=true)
  (hroom:sLen+m<=sCap) (hfit:sLen*sz+news.length<=cur.size) :
  (Builtin.append_ #[t,t] ty #[.slice (some ⟨g,0,none⟩) sLen sCap,.slice (some ad) m cc]).run P w =
   .ok (.slice (some ⟨g,0,none⟩) (sLen+m) sCap) (w.setRow g (cur.toList.take (sLen*sz)++news++cur.toList.drop (sLen*sz+news.length)).toArray):=by
 subst hs
 have hf:=run_firstCells_some (P:=P) w i.size m ad m cc news hl hnews
 have hst:=run_storeCells_at P g (sLen*i.size) e' news 0 cur w hg (by simpa using hfit) h1
 simp only [Nat.add_zero] at hst
 simp [Builtin.append_,run_underlying ht,sizeOf,typeInfo,hi,Builtin.lenOf,hroom,hf,Addr.add_lit,hst]
theorem mH {t u ty e:TypeId} {i:TypeInfo} (ht:P.underlying t=some (.slice e)) (hu:P.underlying u=some .string) (hi:P.info? e=some i) (hs1:i.size=1) {w:World}
  {g sLen sCap:Nat} {cur:Array Value} {e':TypeId} (hg:w.heap[g]?=some (.cells cur e' (0,0))) {b:List UInt8}
  (hroom:sLen+b.length<=sCap) (hfit:sLen+b.length<=cur.size) :
  (Builtin.append_ #[t,u] ty #[.slice (some ⟨g,0,none⟩) sLen sCap,.string ⟨b.toArray⟩]).run P w =
   .ok (.slice (some ⟨g,0,none⟩) (sLen+b.length) sCap) (w.setRow g (cur.toList.take sLen++Lib.strCells ⟨b.toArray⟩++cur.toList.drop (sLen+b.length)).toArray):=by
 have hbs:(⟨b.toArray⟩:ByteArray).size=b.length:=by simp [ByteArray.size]
 have hl:(Lib.strCells ⟨b.toArray⟩).length=b.length:=by simp [Lib.strCells]
 have hf:=Lib.run_firstCells_string (P:=P) w 1 ⟨b.toArray⟩
 have hst:=run_storeCells_at P g sLen e' (Lib.strCells ⟨b.toArray⟩) 0 cur w hg (by simpa [hl] using hfit) (Lib.strCells_oneCell _)
 simp only [Nat.add_zero,hl] at hst
 rw [hbs] at hf
 simp [Builtin.append_,run_underlying ht,run_underlying hu,sizeOf,typeInfo,hi,hs1,Builtin.lenOf,hbs,hroom,hf,Addr.add_lit,hst]
theorem lq (h:Rel B c s a) {t ty e:TypeId} {o:Own} {sz sz0 n sz2 m K:Nat} {get get2:Nat->List AV} {X Y:Value} {y:AV} {i:TypeInfo} {z:List AV} (hu:P.underlying t=some (.slice e))
  (hi:P.info? e=some i) (hsz:az P e=some sz) (hz:zeroCells P e=some z) (hzl:z.length=sz) (h0:0 < sz) (hb:0 < i.bytes) (hx:Rep c (.sl o sz0 n get) X) (hy:Rep c y Y) (hsrc:lr s y=some (sz2,m,get2))
  (hO:Owner c s o sz n K X) (hs1:n=0∨sz0=sz) (hs2:m=0∨sz2=sz) (hroom:(n+m)*i.bytes<=140737488355328) :
  ∃V c',(Builtin.append_ #[t,t] ty #[X,Y]).run P c.w=.ok V c'.w/\Rel B c' (s.setObj K (.own sz (n+m))) a/\Sees B c' (s.setObj K (.own sz (n+m))) (.sl (.key K) sz (n+m) (ay n m get get2)) V:=by
 obtain ⟨i',zv,hi',hzv,hcz⟩:=aV hz
 have:i'=i:=by rw [hi] at hi';exact (Option.some.inj hi').symm
 subst this
 have hisz:i'.size=sz:=by unfold az at hsz;simp [hi] at hsz;exact hsz
 obtain ⟨hzc,_⟩:=dF (c:=c) hcz
 have hzs:zv.cells.size=sz:=by rw [hzc.1,hzl]
 have hnm:n+m<=140737488355328:=Nat.le_trans (Nat.le_mul_of_pos_right _ hb) hroom
 have hmem:n<=n+m:=Nat.le_add_right _ _
 have hx':Rep c (.sl o sz n get) X:=hx.reown hs1 (λ_ _=>rfl) (by
  cases hx with
  | slNil _ _ _ ho=>exact ho
  | sl _ _ _ _ ad cap vals h1 h2 h3 h4 h5 h6=>exact h3)
 by_cases hm:m=0
 ·subst hm
  have hY:Y=.slice none 0 0∨∃ad cc,Y=.slice (some ad) 0 cc:=by
   rcases ei h hy hsrc with ⟨rfl,_⟩ | ⟨b,of,sp,cap,_,rfl,_⟩
   ·exact .inl rfl
   ·exact .inr ⟨_,_,rfl⟩
  obtain ⟨c',e1,e2,e3⟩:=mG h (get':=ay n 0 get get2) h0 hx hO hs1 (λj hj=>cU hj)
  refine ⟨X,c',?_,e2,e3⟩
  rw [e1]
  rcases gO hx rfl with ⟨rfl,rfl,_⟩ | ⟨b,of,sp,cap,_,rfl,hle,_⟩
  ·exact dm hu hi (Nat.le_refl _) hY c.w
  ·exact dm hu hi hle hY c.w
 ·have hm0:0 < m:=Nat.pos_of_ne_zero hm
  have hs2:sz2=sz:=hs2.resolve_left hm
  subst hs2
  rcases ei h hy hsrc with ⟨_,e⟩ | ⟨b2,o2,sp2,cap2,hsp2,rfl,_,hlen2,hcell2⟩
  ·omega
  obtain rfl:=hsp2 hm0
  have h2:RowSees c b2 o2 m sz2 get2:=⟨hlen2,hcell2⟩
  have hc2:=h2.cells
  have hzsz:∀k,(Builtin.zeroCells zv.cells k).size=k*sz2:=λk=>by rw [size_zeroCells,hzs]
  rcases gO hx' rfl with ⟨rfl,rfl,_⟩ | ⟨b1,o1,sp1,cap,hsp1,rfl,hle,_,h1,hI1⟩
  ·have hrun:=run_append_nil (P:=P) (w:=c.w) t ty e i' zv hu hi hzv ⟨b2,o2,none⟩ m cap2 (rdL c.w b2 o2 (m*sz2)) (by rw [aE,hisz]) hc2.1 hm0 (by omega) (by simp only [Nat.zero_add] at hroom;omega)
   have hge:=grownCap_ge c.w m 0 e
   generalize grownCap c.w m 0 e=nc at hrun hge
   obtain ⟨c',e1,e2,e3⟩:=iR h (vs:=(rdL c.w b2 o2 (m*sz2)).toArray++Builtin.zeroCells zv.cells (nc - m)) (e:=e) (cap:=nc) hO hm0 h0 (by omega) (by
    simp only [Array.size_append,List.size_toArray,aE,hzsz,<-Nat.add_mul];congr 1;omega)
    (b1:=0) (o1:=0) (get:=get) ⟨λj hj=>by omega,λj i u hj=>by omega⟩ h2.src (λq hq=>by omega) (λq hq=>by
     simp only [Nat.zero_mul,Nat.zero_add,Array.getElem?_append]
     rw [if_pos (by simpa [aE] using hq)]
     simp)
   simp only [Nat.zero_add] at e2 e3 ⊢
   exact ⟨_,c',by rw [e1];exact hrun,e2,e3⟩
  ·by_cases hroom':n+m<=cap
   ·-- into the room
    obtain rfl:=hsp1 (by omega)
    rcases hO.cases with ⟨rfl,_⟩ | ⟨rfl,hk⟩
    ·have:cap=n:=hO.own
     omega
    ·obtain ⟨m',f1,f2,f3⟩:=hO.own
     have hr:=h.objs.rep K _ hk
     rw [hr.2.1] at f1
     have:=Option.some.inj f1
     subst this
     have hX:=f3 rfl
     have hr2:=hr.2.2
     cases hκ:c.κ K with
     | none=>rw [hκ] at hX;simp [kQ] at hX
     | some p=>
      obtain ⟨ad,cap'⟩:=p
      rw [hκ] at hX
      simp [kQ] at hX
      obtain ⟨rfl,rfl⟩:=hX
      simp only [hκ] at hr2
      obtain ⟨⟨cur,e',hh,hcs⟩,hoff,hfree⟩:=hr2.2.2 (by omega)
      simp only at hoff hh hfree
      subst hoff
      have hrun:=iw (P:=P) (ty:=ty) (w:=c.w) (ad:=⟨b2,o2,none⟩) (m:=m) (cc:=cap2) (sLen:=n) (sCap:=cap) hu hi hisz hh (aE c.w b2 o2 (m*sz2)) hc2.1 hc2.2 hroom' (by rw [aE,hcs,<-Nat.add_mul];exact Nat.mul_le_mul_right _ hroom')
      obtain ⟨c',e1,e2,e3⟩:=pM h hk hm0 hκ hroom' hh hcs hfree h1 hI1 h2.src
      exact ⟨_,c',by rw [e1];exact hrun,e2,e3⟩
   ·have hload:∀ (j:Nat) (v:Value),(rdL c.w b1 o1 (n*sz2))[j]?=some v->c.w.cell? ((⟨b1,o1,sp1⟩:Addr).add j)=some v:=by
     by_cases hc0:0 < cap
     ·obtain rfl:=hsp1 hc0
      exact h1.cells.1
     ·obtain rfl:n=0:=by omega
      intro j v hj
      rw [List.getElem?_eq_none (by rw [aE];omega)] at hj
      cases hj
    have hrun:=run_append_grow (P:=P) (w:=c.w) t ty e i' zv hu hi hzv ⟨b1,o1,sp1⟩ n cap (rdL c.w b1 o1 (n*sz2)) (by rw [aE,hisz]) hload ⟨b2,o2,none⟩ m cap2 (rdL c.w b2 o2 (m*sz2)) (by rw [aE,hisz]) hc2.1 (by omega) (by omega) (growslice_fits (by omega) hroom)
    have hge:=grownCap_ge c.w (n+m) cap e
    generalize grownCap c.w (n+m) cap e=nc at hrun hge
    obtain ⟨c',e1,e2,e3⟩:=iR h (vs:=(rdL c.w b1 o1 (n*sz2)).toArray++(rdL c.w b2 o2 (m*sz2)).toArray++Builtin.zeroCells zv.cells (nc - (n+m))) (e:=e) (cap:=nc) hO hm0 h0 hge (by
     simp only [Array.size_append,List.size_toArray,aE,hzsz,<-Nat.add_mul];congr 1;omega)
     h1 h2.src (λq hq=>by
      rw [Array.append_assoc,Array.getElem?_append,if_pos (by simpa [aE] using hq)]
      simpa using l5 _ _ _ _ _ hq) (λq hq=>by
      rw [Array.getElem?_append,if_pos (by simp [aE];omega),Array.getElem?_append,if_neg (by simp [aE])]
      simp only [List.size_toArray,aE]
      have e5:n*sz2+q - n*sz2=q:=by omega
      rw [e5]
      simp)
    exact ⟨_,c',by rw [e1];exact hrun,e2,e3⟩
theorem oy (b:List UInt8):SrcL c (Lib.strCells ⟨b.toArray⟩) b.length 1 (rowOf b):=by
 have hl:(Lib.strCells ⟨b.toArray⟩).length=b.length:=by simp [Lib.strCells]
 refine ⟨by rw [hl,Nat.mul_one],λj hj=>⟨rfl,rfl⟩,λj i u hj hu=>?_⟩
 have hi:i=0:=by
  cases i with
  | zero=>rfl
  | succ i=>simp [rowOf] at hu
 subst hi
 simp only [rowOf,List.getElem?_cons_zero,Option.some.injEq] at hu
 subst hu
 refine ⟨rfl,.int .u8 (b.getD j 0).toNat,?_,.int _ _⟩
 simp only [Lib.strCells,Nat.mul_one,Nat.add_zero,List.getElem?_map,List.getD_eq_getElem?_getD,List.getElem?_eq_getElem hj]
 simp [hj]
theorem ll (h:Rel B c s a) {t u ty e:TypeId} {o:Own} {sz0 n K:Nat} {get:Nat->List AV} {X:Value} {b:List UInt8} {i:TypeInfo} {z:List AV} (hu:P.underlying t=some (.slice e)) (hus:P.underlying u=some .string)
  (hi:P.info? e=some i) (hsz:az P e=some 1) (hz:zeroCells P e=some z) (hzl:z.length=1) (hb:0 < i.bytes) (hx:Rep c (.sl o sz0 n get) X)
  (hO:Owner c s o 1 n K X) (hs1:n=0∨sz0=1) (hroom:(n+b.length)*i.bytes<=140737488355328) :
  ∃V c',(Builtin.append_ #[t,u] ty #[X,.string ⟨b.toArray⟩]).run P c.w=.ok V c'.w/\Rel B c' (s.setObj K (.own 1 (n+b.length))) a/\Sees B c' (s.setObj K (.own 1 (n+b.length))) (.sl (.key K) 1 (n+b.length) (ay n b.length get (rowOf b))) V:=by
 obtain ⟨i',zv,hi',hzv,hcz⟩:=aV hz
 have:i'=i:=by rw [hi] at hi';exact (Option.some.inj hi').symm
 subst this
 have hisz:i'.size=1:=by unfold az at hsz;simp [hi] at hsz;exact hsz
 obtain ⟨hzc,_⟩:=dF (c:=c) hcz
 have hzs:zv.cells.size=1:=by rw [hzc.1,hzl]
 have hnm:n+b.length<=140737488355328:=Nat.le_trans (Nat.le_mul_of_pos_right _ hb) hroom
 have hbs:(⟨b.toArray⟩:ByteArray).size=b.length:=by simp [ByteArray.size]
 have h2:=oy (c:=c) b
 have hl:(Lib.strCells ⟨b.toArray⟩).length=b.length:=by rw [h2.size,Nat.mul_one]
 have hx':Rep c (.sl o 1 n get) X:=hx.reown hs1 (λ_ _=>rfl) (by
  cases hx with
  | slNil _ _ _ ho=>exact ho
  | sl _ _ _ _ ad cap vals h1 h2 h3 h4 h5 h6=>exact h3)
 by_cases hm:b.length=0
 ·have hb0:b=[]:=List.length_eq_zero_iff.1 hm
  subst hb0
  obtain ⟨c',e1,e2,e3⟩:=mG h (get':=ay n 0 get (rowOf [])) (Nat.succ_pos 0) hx hO hs1 (λj hj=>cU hj)
  refine ⟨X,c',?_,e2,e3⟩
  rw [e1]
  rcases gO hx rfl with ⟨rfl,rfl,_⟩ | ⟨b,of,sp,cap,_,rfl,hle,_⟩ <;>
   simp [Builtin.append_,run_underlying hu,run_underlying hus,sizeOf,typeInfo,hi,Builtin.lenOf,Builtin.firstCells,storeCells,ByteArray.size, *]
 ·have hm0:0 < b.length:=Nat.pos_of_ne_zero hm
  have hzsz:∀k,(Builtin.zeroCells zv.cells k).size=k*1:=λk=>by rw [size_zeroCells,hzs]
  rcases gO hx' rfl with ⟨rfl,rfl,_⟩ | ⟨b1,o1,sp1,cap,hsp1,rfl,hle,_,h1,hI1⟩
  ·have hrun:=run_append_nil_string (P:=P) (w:=c.w) t u ty e i' zv hu hus hi hzv ⟨b.toArray⟩ (by rw [hbs];exact hm0) (by rw [hbs];omega) (by rw [hbs];simp only [Nat.zero_add] at hroom;omega)
   rw [hbs] at hrun
   have hge:=grownCap_ge c.w b.length 0 e
   generalize grownCap c.w b.length 0 e=nc at hrun hge
   have hcells:(⟨b.toArray⟩:ByteArray).data.map (λb=>Value.int .u8 b.toNat)=(Lib.strCells ⟨b.toArray⟩).toArray:=by simp [Lib.strCells]
   rw [hcells] at hrun
   obtain ⟨c',e1,e2,e3⟩:=iR h (vs:=(Lib.strCells ⟨b.toArray⟩).toArray++Builtin.zeroCells zv.cells (nc - b.length)) (e:=e) (cap:=nc) hO hm0 (Nat.succ_pos 0) (by omega) (by
    simp only [Array.size_append,List.size_toArray,hl,hzsz];omega)
    (b1:=0) (o1:=0) (get:=get) ⟨λj hj=>by omega,λj i u hj=>by omega⟩ h2 (λq hq=>by omega) (λq hq=>by
     simp only [Nat.zero_mul,Nat.zero_add,Array.getElem?_append]
     rw [if_pos (by simp only [List.size_toArray,hl];omega)]
     simp)
   simp only [Nat.zero_add] at e2 e3 ⊢
   exact ⟨_,c',by rw [e1];exact hrun,e2,e3⟩
  ·by_cases hroom':n+b.length<=cap
   ·obtain rfl:=hsp1 (by omega)
    rcases hO.cases with ⟨rfl,_⟩ | ⟨rfl,hk⟩
    ·have:cap=n:=hO.own
     omega
    ·obtain ⟨m',f1,f2,f3⟩:=hO.own
     have hr:=h.objs.rep K _ hk
     rw [hr.2.1] at f1
     have:=Option.some.inj f1
     subst this
     have hX:=f3 rfl
     have hr2:=hr.2.2
     cases hκ:c.κ K with
     | none=>rw [hκ] at hX;simp [kQ] at hX
     | some p=>
      obtain ⟨ad,cap'⟩:=p
      rw [hκ] at hX
      simp [kQ] at hX
      obtain ⟨rfl,rfl⟩:=hX
      simp only [hκ] at hr2
      obtain ⟨⟨cur,e',hh,hcs⟩,hoff,hfree⟩:=hr2.2.2 (by omega)
      simp only at hoff hh hfree
      subst hoff
      have hrun:=mH (P:=P) (ty:=ty) (w:=c.w) (b:=b) (sLen:=n) (sCap:=cap) hu hus hi hisz hh hroom' (by rw [hcs];omega)
      obtain ⟨c',e1,e2,e3⟩:=pM h hk hm0 hκ hroom' hh hcs hfree h1 hI1 h2
      simp only [Nat.mul_one,hl] at e1
      exact ⟨_,c',by rw [e1];exact hrun,e2,e3⟩
   ·have hload:∀ (j:Nat) (v:Value),(rdL c.w b1 o1 (n*1))[j]?=some v->c.w.cell? ((⟨b1,o1,sp1⟩:Addr).add j)=some v:=by
     by_cases hc0:0 < cap
     ·obtain rfl:=hsp1 hc0
      exact h1.cells.1
     ·obtain rfl:n=0:=by omega
      intro j v hj
      rw [List.getElem?_eq_none (by rw [aE];omega)] at hj
      cases hj
    have hrun:=Lib.run_append_grow_string (P:=P) (w:=c.w) t u ty e i' zv hu hus hi hzv ⟨b1,o1,sp1⟩ n cap (rdL c.w b1 o1 (n*1)) (by rw [aE,hisz]) hload ⟨b.toArray⟩ (by rw [hbs];omega) (by rw [hbs];omega) (by rw [hbs];exact growslice_fits (by omega) hroom)
    rw [hbs] at hrun
    have hge:=grownCap_ge c.w (n+b.length) cap e
    generalize grownCap c.w (n+b.length) cap e=nc at hrun hge
    obtain ⟨c',e1,e2,e3⟩:=iR h (vs:=(rdL c.w b1 o1 (n*1)).toArray++(Lib.strCells ⟨b.toArray⟩).toArray++Builtin.zeroCells zv.cells (nc - (n+b.length))) (e:=e) (cap:=nc) hO hm0 (Nat.succ_pos 0) hge (by
     simp only [Array.size_append,List.size_toArray,aE,hl,hzsz];omega)
     h1 h2 (λq hq=>by
      rw [Array.append_assoc,Array.getElem?_append,if_pos (by simpa [aE] using hq)]
      simpa using l5 _ _ _ _ _ hq) (λq hq=>by
      rw [Array.getElem?_append,if_pos (by simp only [Array.size_append,List.size_toArray,aE,hl];omega),Array.getElem?_append,if_neg (by simp only [List.size_toArray,aE];omega)]
      simp only [List.size_toArray,aE]
      have e5:n*1+q - n*1=q:=by omega
      rw [e5]
      simp)
    exact ⟨_,c',by rw [e1];exact hrun,e2,e3⟩
theorem n8 (h:Rel B c s a) {d:Nat} {t u ty:TypeId} {x v:AV} {X:Value} {b:List UInt8} {k:Nat} {ob:AO} (hus:P.underlying u=some .string) (hx:Rep c x X) (he:ix P s d t x b=some (true,v,k,ob)) :
  ∃V c',(Builtin.append_ #[t,u] ty #[X,.string ⟨b.toArray⟩]).run P c.w=.ok V c'.w/\Rel B c' (s.setObj k ob) a/\Sees B c' (s.setObj k ob) v V:=by
 unfold ix at he
 split at he
 ·rename_i e hu
  split at he
  ·rename_i sz z inf o sz0 n get hsz hz hi hue
   simp only [aj] at he
   cases hb:(Nat.beq sz 1&&(Nat.blt 0 inf.bytes&&(Nat.beq z.length sz&&(Nat.beq sz0 sz||Nat.beq n 0)))) with
   | false=>simp [hb] at he
   | true=>
    simp only [hb,cond_true] at he
    simp only [Bool.and_eq_true,Bool.or_eq_true] at hb
    obtain ⟨b1,b2,b3,b4⟩:=hb
    have b1:=dv b1
    subst b1
    have b2:=ltB b2
    have b3:=dv b3
    have b4:n=0∨sz0=1:=(b4.imp dv dv).symm
    have hown:aD c o n X:=by
     cases hx with
     | slNil _ _ _ ho=>exact ho
     | sl _ _ _ _ ad cap vals h1 h2 h3 h4 h5 h6=>exact h3
    cases o with
    | no=>simp at he
    | nl=>simp at he
    | nn=>simp at he
    | fit=>
     simp only at he
     split at he
     ·rename_i hd
      simp only [Option.some.injEq,Prod.mk.injEq] at he
      obtain ⟨hr,rfl,rfl,rfl⟩:=he
      exact ll h hu hus hi hsz hz b3 b2 hx ⟨.inl ⟨rfl,hd⟩,hown⟩ b4 (Nat.le_of_ble_eq_true hr)
     ·simp at he
    | key q=>
     simp only at he
     split at he
     ·rename_i sz1 f hq
      cases hb1:Nat.beq sz1 1 with
      | false=>simp [hb1] at he
      | true=>
       simp only [hb1,cond_true,Option.some.injEq,Prod.mk.injEq,Bool.and_eq_true] at he
       obtain ⟨⟨hr,hf⟩,rfl,rfl,rfl⟩:=he
       have hb1:=dv hb1
       have hf:=dv hf
       subst hb1;subst hf
       exact ll h hu hus hi hsz hz b3 b2 hx ⟨.inr ⟨rfl,hq⟩,hown⟩ b4 (Nat.le_of_ble_eq_true hr)
     ·simp at he
  ·simp at he
 ·simp at he
theorem og (h:Rel B c s a) {d:Nat} {t ty:TypeId} {x y v:AV} {X Y:Value} {k:Nat} {ob:AO} (hx:Rep c x X) (hy:Rep c y Y) (he:jy P s d t x y=some (true,v,k,ob)) :
  ∃V c',(Builtin.append_ #[t,t] ty #[X,Y]).run P c.w=.ok V c'.w/\Rel B c' (s.setObj k ob) a/\Sees B c' (s.setObj k ob) v V:=by
 unfold jy at he
 split at he
 ·rename_i e hu
  split at he
  ·rename_i sz z inf o sz0 n get sz2 m get2 hsz hz hi hsrc
   simp only [aj] at he
   cases hb:(Nat.blt 0 sz&&(Nat.blt 0 inf.bytes&&(Nat.beq z.length sz&&((Nat.beq sz0 sz||Nat.beq n 0)&&(Nat.beq sz2 sz||Nat.beq m 0))))) with
   | false=>simp [hb] at he
   | true=>
    simp only [hb,cond_true] at he
    simp only [Bool.and_eq_true,Bool.or_eq_true] at hb
    obtain ⟨b1,b2,b3,b4,b5⟩:=hb
    have b1:=ltB b1
    have b2:=ltB b2
    have b3:=dv b3
    have b4:n=0∨sz0=sz:=(b4.imp dv dv).symm
    have b5:m=0∨sz2=sz:=(b5.imp dv dv).symm
    have hown:aD c o n X:=by
     cases hx with
     | slNil _ _ _ ho=>exact ho
     | sl _ _ _ _ ad cap vals h1 h2 h3 h4 h5 h6=>exact h3
    cases o with
    | no=>simp at he
    | nl=>simp at he
    | nn=>simp at he
    | fit=>
     simp only at he
     split at he
     ·rename_i hd
      simp only [Option.some.injEq,Prod.mk.injEq] at he
      obtain ⟨hr,rfl,rfl,rfl⟩:=he
      exact lq h hu hi hsz hz b3 b1 b2 hx hy hsrc ⟨.inl ⟨rfl,hd⟩,hown⟩ b4 b5 (Nat.le_of_ble_eq_true hr)
     ·simp at he
    | key q=>
     simp only at he
     split at he
     ·rename_i sz1 f hq
      cases hb1:Nat.beq sz1 sz with
      | false=>simp [hb1] at he
      | true=>
       simp only [hb1,cond_true,Option.some.injEq,Prod.mk.injEq,Bool.and_eq_true] at he
       obtain ⟨⟨hr,hf⟩,rfl,rfl,rfl⟩:=he
       have hb1:=dv hb1
       have hf:=dv hf
       subst hb1;subst hf
       exact lq h hu hi hsz hz b3 b1 b2 hx hy hsrc ⟨.inr ⟨rfl,hq⟩,hown⟩ b4 b5 (Nat.le_of_ble_eq_true hr)
     ·simp at he
  ·simp at he
 ·simp at he
end Go.Ab

namespace Go.Ab
open Go Go.RowKit
variable {P:Program} {B:Base} {c:Cx} {s:St} {a:Act}
theorem ni {c':Cx} {b1 o1 b2 o2 n m sz:Nat} {get get2:Nat->List AV} {vs:Array Value} {ks:Nat->Prop} (h1:RowSees c b1 o1 n sz get) (h2:RowSees c b2 o2 m sz get2)
  (he:Ext c c' ks) (hv1:∀q,q < n*sz->vs[q]?=some (rd c.w b1 o1 q)) (hv2:∀q,q < m*sz->vs[n*sz+q]?=some (rd c.w b2 o2 q)) :
  (∀j,j < n+m->(ay n m get get2 j).length=sz/\ak (ay n m get get2 j)=[]) /\
  ∀ (j i:Nat) (u:AV),j < n+m->(ay n m get get2 j)[i]?=some u->u.one=true/\Rep c' u (vs.getD (j*sz+i) undef):=by
 have hlen:∀j,j < n+m->(ay n m get get2 j).length=sz/\ak (ay n m get get2 j)=[]:=by
  intro j hj
  by_cases hjn:j < n
  ·rw [cU hjn];exact h1.len j hjn
  ·rw [dy (by omega) hj];exact h2.len _ (by omega)
 have key:∀ (j i:Nat) (u:AV),j < n+m->(ay n m get get2 j)[i]?=some u->u.one=true/\∃y,vs[j*sz+i]?=some y/\Rep c u y:=by
  intro j i u hj hu
  have hi:i < sz:=by rw [<-(hlen j hj).1];exact (List.getElem?_eq_some_iff.1 hu).1
  by_cases hjn:j < n
  ·rw [cU hjn] at hu
   exact ⟨(h1.cell j i u hjn hu).1,_,hv1 _ (aY hjn hi),h1.rep hjn hu⟩
  ·rw [dy (by omega) hj] at hu
   have hj':j - n < m:=by omega
   refine ⟨(h2.cell _ i u hj' hu).1,_,?_,h2.rep hj' hu⟩
   have e:j*sz+i=n*sz+((j - n)*sz+i):=by
    have:j=n+(j - n):=by omega
    conv=>lhs;rw [this,Nat.add_mul]
    omega
   rw [e];exact hv2 _ (aY hj' hi)
 refine ⟨hlen,λj i u hj hu=>?_⟩
 obtain ⟨k1,y,k2,k3⟩:=key j i u hj hu
 have:vs.getD (j*sz+i) undef=y:=by simp [Array.getD_eq_getD_getElem?,k2]
 rw [this]
 refine ⟨k1,k3.ext he λk hk=>?_⟩
 rw [aF (hlen j hj).2 hu] at hk;simp at hk
structure GOwner (c:Cx) (s:St) (sq n sz K:Nat) (get:Nat->List AV) (X:Value):Prop where
 le:sq - 1<=n
 cases:(s.obj K=none/\((X=.slice none 0 0/\n=0)∨∃ad,X=.slice (some ad) n n))∨(s.obj K=some (.grw sq sz n get)/\aD c (.key K) n X)
theorem nj (h:Rel B c s a) {sq n m sz K:Nat} {get:Nat->List AV} {X:Value} (hO:GOwner c s sq n sz K get X) (hm:0 < m) {w':World} {I':Nat->Nat->Prop} {κ':Option (Addr×Nat)}
  : ∀n' v,live s.objs K->aD c (.key K) n' v->aD (c.owns w' I' K κ' (n+m)) (.key K) n' v:=by
 intro n' v hl hv
 obtain ⟨m',f1,f2,_⟩:=hv
 rcases hO.cases with ⟨hk,_⟩ | ⟨hk,_⟩
 ·exact absurd rfl (ft hk hl)
 ·have:=(h.objs.rep K _ hk).2.1
  rw [this] at f1
  have:=Option.some.inj f1
  exact ⟨n+m,by simp [Cx.owns],by omega,λe'=>by omega⟩
theorem rT (h:Rel B c s a) {sq sz n m K:Nat} {yk:Nat->List AV} {X:Value} (hO:GOwner c s sq n sz K yk X) (hm:0 < m) (hsz:0 < sz) {vs:Array Value} {e:TypeId} {cap:Nat} (hcap:n+m<=cap) (hvs:vs.size=cap*sz)
  {b1 o1 b2 o2:Nat} {get get2:Nat->List AV} (h1:RowSees c b1 o1 n sz get) (h2:RowSees c b2 o2 m sz get2)
  (hv1:∀q,q < n*sz->vs[q]?=some (rd c.w b1 o1 q)) (hv2:∀q,q < m*sz->vs[n*sz+q]?=some (rd c.w b2 o2 q)) :
  ∃c',c'.w=c.w.drew.alloc (.cells vs e)/\Rel B c' (s.setObj K (.grw sq sz (n+m) (ay n m get get2))) a /\
   Sees B c' (s.setObj K (.grw sq sz (n+m) (ay n m get get2))) (.gsl K sz (n+m)) (.slice (some ⟨c.w.heap.size,0,none⟩) (n+m) cap):=by
 let c':=c.owns (c.w.drew.alloc (.cells vs e)) c.I K (some (⟨c.w.heap.size,0,none⟩,cap)) (n+m)
 have hkb:KeepsBut c c' s.objs K:=by
  refine dq (λ_ _ hi=>hi) (λb q v hi hv=>?_) (λb q ob hi he _=>(aA c.w.drew _ b (aJ he)).trans he) (nj h hO hm) (λq o' b hq hne hb=>⟨aA c.w.drew _ _ (cf (h.objs.rep q o' hq) hb),λoff hi=>hi⟩)
  rw [World.bj (aA c.w.drew _ b (dr hv))];exact hv
 have hgr:Grow B c c':=by
  refine ⟨rfl,rfl,rfl,by simp [c',Cx.owns],λb hb _=>aA c.w.drew _ _ (Nat.lt_of_lt_of_le hb h.frame.size),λb q hb _ hi=>hi,λb q hi=>?_⟩
  exact hkb.ext.there h.good hi
 have hown:aD c' (.key K) (n+m) (.slice (some ⟨c.w.heap.size,0,none⟩) (n+m) cap):=⟨n+m,by simp [c',Cx.owns],Nat.le_refl _,λ_=>by simp [c',Cx.owns,kQ]⟩
 obtain ⟨g1,g2⟩:=ni h1 h2 hkb.ext hv1 hv2
 refine ⟨c',rfl,h.obj hkb hgr ⟨⟨hsz,by have:=hO.le;omega⟩,by simp [c',Cx.owns],?_⟩ ?_ (by simp [AO.keys]) ?_,⟨.gsl _ _ _ _ _ hcap hown,λq hq=>?_,rfl⟩⟩
 ·simp only [c',Cx.owns,if_true]
  refine ⟨hcap,λ_=>⟨⟨vs,e,aP c.w.drew _,hvs,λj i u hj hu=>(g2 j i u hj hu).2⟩,⟨rfl,rfl⟩,g1,λj i u hj hu=>(g2 j i u hj hu).1,λq _ hi=>?_⟩⟩
  have:=h.good.lt hi
  simp at this
 ·intro q o' b hq hne hb
  have:=cf (h.objs.rep q o' hq) hb
  simp only [excl,c',Cx.owns,if_true]
  intro e'
  split at e'
  ·have h9:c.w.heap.size=b:=Option.some.inj e'
   omega
  ·simp at e'
 ·intro b hb
  simp only [excl,c',Cx.owns,if_true] at hb
  have:=h.frame.size
  split at hb
  ·have h9:c.w.heap.size=b:=Option.some.inj hb
   left;omega
  ·simp at hb
 ·simp [AV.keys] at hq;subst hq;exact aR
theorem yj (h:Rel B c s a) {sq sz n m K:Nat} {get get2:Nat->List AV} (hk:s.obj K=some (.grw sq sz n get)) (hm:0 < m) {ad:Addr} {cap:Nat} (hκ:c.κ K=some (ad,cap)) (hcap:n+m<=cap) {b2 o2:Nat} (h2:RowSees c b2 o2 m sz get2)
  {cur:Array Value} {e:TypeId} (hh:c.w.heap[ad.block]?=some (.cells cur e (0,0))) (hcs:cur.size=cap*sz) :
  ∃c',c'.w=c.w.setRow ad.block (cur.toList.take (n*sz)++rdL c.w b2 o2 (m*sz)++cur.toList.drop (n*sz+(rdL c.w b2 o2 (m*sz)).length)).toArray/\Rel B c' (s.setObj K (.grw sq sz (n+m) (ay n m get get2))) a /\
   Sees B c' (s.setObj K (.grw sq sz (n+m) (ay n m get get2))) (.gsl K sz (n+m)) (.slice (some ad) (n+m) cap):=by
 have hrepK:=h.objs.rep K _ hk
 have hsz:0 < sz:=hrepK.1.1
 have hse:sq - 1<=n:=hrepK.1.2
 have hG:=hrepK.2.2
 simp only [hκ] at hG
 have hG:=hG.2 (by omega)
 have hexcl:excl c K (.grw sq sz n get)=some ad.block:=by simp only [excl,hκ];rw [if_pos (by omega)]
 have hfit:n*sz+(rdL c.w b2 o2 (m*sz)).length<=cur.size:=by rw [aE,hcs,<-Nat.add_mul];exact Nat.mul_le_mul_right _ hcap
 obtain ⟨g1,g2⟩:=fu cur (n*sz) (rdL c.w b2 o2 (m*sz)) hfit
 generalize hvs:(cur.toList.take (n*sz)++rdL c.w b2 o2 (m*sz)++cur.toList.drop (n*sz+(rdL c.w b2 o2 (m*sz)).length)).toArray=vs at g1 g2
 have hW:Wrote c ad.block (c.w.setRow ad.block vs):=dM rfl
 have hg':(c.w.setRow ad.block vs).heap[ad.block]?=some (.cells vs e (0,0)):=setRow_heap _ _ _ _ _ _ hh
 have u5:∀q,q < cur.size->vs[q]?=some (if n*sz<=q/\q < n*sz+(rdL c.w b2 o2 (m*sz)).length then (rdL c.w b2 o2 (m*sz)).getD (q - n*sz) undef else cur.getD q undef):=by
  intro q hq
  have hq':q < vs.size:=by omega
  have:=g2 q hq
  rw [<-this]
  simp [Array.getD_eq_getD_getElem?,hq']
 have hO:GOwner c s sq n sz K get (.slice (some ad) n cap):=⟨hse,.inr ⟨hk,⟨n,hrepK.2.1,Nat.le_refl _,λ_=>by rw [hκ];rfl⟩⟩⟩
 let c':=c.owns (c.w.setRow ad.block vs) c.I K (some (ad,cap)) (n+m)
 have hkb:KeepsBut c c' s.objs K:=by
  refine dq (λ_ _ hi=>hi) (λb q v hi hv=>?_) (λb q ob hi he ho=>(hW.other b (λe=>by subst e;rw [hh] at he;cases he;cases ho)).trans he) (nj h hO hm) (λq o' b hq hne hb=>?_)
  ·by_cases e':b=ad.block
   ·subst e'
    by_cases hq:(sq - 1)*sz<=q
    ·exact absurd hi (hG.free q hq)
    ·have:=Nat.mul_le_mul_right sz hse
     have hql:q < cur.size:=by omega
     rw [aL hh] at hv
     show (c.w.setRow ad.block vs).cell? _=_
     rw [aL hg',u5 q hql,if_neg (by omega),<-hv]
     simp [Array.getD_eq_getD_getElem?,hql]
   ·rw [World.bj (hW.other b e')];exact hv
  ·have hne':b≠ad.block:=by
    rintro rfl
    exact h.objs.apart q o' K _ _ hq hk hne hb hexcl
   exact ⟨hW.other b hne',λoff hi=>hi⟩
 have hgr:Grow B c c':=by
  refine ⟨rfl,rfl,rfl,by simp [c',Cx.owns],λb hb hd=>hW.other b ?_,λb q hb hd hi=>hi,λb q hi=>?_⟩
  ·rintro rfl
   rcases h.mine K _ _ hk hexcl with h' | h'
   ·omega
   ·exact hd h'
  ·exact hkb.ext.there h.good hi
 have hown:aD c' (.key K) (n+m) (.slice (some ad) (n+m) cap):=⟨n+m,by simp [c',Cx.owns],Nat.le_refl _,λ_=>by simp [c',Cx.owns,kQ]⟩
 have hexcl':∀b,excl c' K (.grw sq sz (n+m) (ay n m get get2))=some b->b=ad.block:=by
  intro b hb
  simp only [excl,c',Cx.owns,if_true] at hb
  split at hb
  ·exact (Option.some.inj hb).symm
  ·simp at hb
 have h1:RowSees c ad.block 0 n sz get:=⟨hG.len,λj i u hj hu=>by
  obtain ⟨k1,y,k2,k3⟩:=hG.eR (by omega) hj i u hu
  exact ⟨k1,y,by rw [<-k2];congr 2;omega,k3⟩⟩
 obtain ⟨r1,r2⟩:=ni (c':=c') (vs:=vs) h1 h2 hkb.ext (λq hq=>by
  have hlt:q < cur.size:=by omega
  rw [u5 q hlt,if_neg (by omega)]
  have:=(h1.at hq).1
  simp only [Nat.zero_add] at this
  rw [aL hh] at this
  simp [Array.getD_eq_getD_getElem?,this]) (λq hq=>by
  rw [aE] at hfit
  rw [u5 _ (by omega),if_pos (by rw [aE];omega)]
  have e5:n*sz+q - n*sz=q:=by omega
  rw [e5,List.getD_eq_getElem?_getD,l5 _ _ _ _ _ hq];rfl)
 refine ⟨c',by simp [c',Cx.owns],h.obj hkb hgr ⟨⟨hsz,by have:=hO.le;omega⟩,by simp [c',Cx.owns],?_⟩ ?_ (by simp [AO.keys]) ?_,⟨.gsl _ _ _ _ _ hcap hown,λq hq=>?_,rfl⟩⟩
 ·simp only [c',Cx.owns,if_true]
  exact ⟨hcap,λ_=>⟨⟨vs,e,hg',by rw [g1,hcs],λj i u hj hu=>(r2 j i u hj hu).2⟩,hG.addr,r1,λj i u hj hu=>(r2 j i u hj hu).1,hG.free⟩⟩
 ·intro q o' b hq hne hb e'
  have:=hexcl' b e'
  subst this
  exact h.objs.apart q o' K _ _ hq hk hne hb hexcl
 ·intro b hb
  rw [hexcl' b hb];exact h.mine K _ _ hk hexcl
 ·simp [AV.keys] at hq;subst hq;exact aR
theorem pj (h:Rel B c s a) {sz K:Nat} (hsz:0 < sz) (hk:s.obj K=none) {X:Value} (hX:X=.slice none 0 0∨∃ad,X=.slice (some ad) 0 0) (get:Nat->List AV) :
  ∃c',c'.w=c.w/\Rel B c' (s.setObj K (.grw 0 sz 0 get)) a/\Sees B c' (s.setObj K (.grw 0 sz 0 get)) (.gsl K sz 0) X:=by
 obtain ⟨κ',e1,e2⟩:∃κ':Option (Addr×Nat),X=kQ κ' 0/\∀p,κ'=some p->p.2=0:=by
  rcases hX with rfl | ⟨ad,rfl⟩
  ·exact ⟨none,rfl,by simp⟩
  ·exact ⟨some (ad,0),rfl,λp hp=>by cases hp;rfl⟩
 let c':=c.owns c.w c.I K κ' 0
 have hkb:KeepsBut c c' s.objs K:=dq (λ_ _ hi=>hi) (λ_ _ _ _ hv=>hv) (λ_ _ _ _ hv _=>hv) (λn' v hl _=>absurd rfl (ft hk hl)) (λ_ _ _ _ _ _=>⟨rfl,λ_ hi=>hi⟩)
 have hgr:Grow B c c':=⟨rfl,rfl,rfl,Nat.le_refl _,λ_ _ _=>rfl,λ_ _ _ _ hi=>hi,h.good.there⟩
 have hex:excl c' K (.grw 0 sz 0 get)=none:=by
  simp only [excl,c',Cx.owns,if_true]
  cases κ' with
  | none=>rfl
  | some p=>obtain ⟨ad,cap⟩:=p;have:=e2 _ rfl;simp only at this;subst this;rfl
 have hown:aD c' (.key K) 0 X:=⟨0,by simp [c',Cx.owns],Nat.le_refl _,λ_=>by simp [c',Cx.owns,e1]⟩
 refine ⟨c',rfl,h.obj hkb hgr ⟨⟨hsz,Nat.zero_le _⟩,by simp [c',Cx.owns],?_⟩ (λq o' b hq hne hb e=>by rw [hex] at e;cases e) (by simp [AO.keys]) (λb hb=>by rw [hex] at hb;cases hb),⟨?_,λq hq=>?_,rfl⟩⟩
 ·simp only [c',Cx.owns,if_true]
  cases κ' with
  | none=>trivial
  | some p=>obtain ⟨ad,cap⟩:=p;have:=e2 _ rfl;simp only at this;subst this;exact ⟨Nat.le_refl _,λh0=>absurd h0 (by omega)⟩
 ·rcases hX with rfl | ⟨ad,rfl⟩
  ·exact .gslNil _ _ hown
  ·exact .gsl _ _ _ _ _ (Nat.le_refl _) hown
 ·simp [AV.keys] at hq;subst hq;exact aR
theorem mI (h:Rel B c s a) {t ty e:TypeId} {sq n sz2 m K:Nat} {get get2:Nat->List AV} {X:Value} {i:TypeInfo} {z:List AV} (hu:P.underlying t=some (.slice e))
  (hi:P.info? e=some i) (hsz:az P e=some sz2) (hz:zeroCells P e=some z) (hzl:z.length=sz2) (h0:0 < sz2) (hb:0 < i.bytes) {b2 o2 cap2:Nat} (h2:RowSees c b2 o2 m sz2 get2)
  (hX:(X=.slice none 0 0/\n=0)∨∃b1 o1 sp cap,(0 < n->sp=none)/\X=.slice (some ⟨b1,o1,sp⟩) n cap/\n<=cap/\RowSees c b1 o1 n sz2 get)
  (hO:GOwner c s sq n sz2 K get X) (hm0:0 < m) (hroom:(n+m)*i.bytes<=140737488355328) :
  ∃V c',(Builtin.append_ #[t,t] ty #[X,.slice (some ⟨b2,o2,none⟩) m cap2]).run P c.w=.ok V c'.w/\Rel B c' (s.setObj K (.grw sq sz2 (n+m) (ay n m get get2))) a/\Sees B c' (s.setObj K (.grw sq sz2 (n+m) (ay n m get get2))) (.gsl K sz2 (n+m)) V:=by
 obtain ⟨i',zv,hi',hzv,hcz⟩:=aV hz
 have:i'=i:=by rw [hi] at hi';exact (Option.some.inj hi').symm
 subst this
 have hisz:i'.size=sz2:=by unfold az at hsz;simp [hi] at hsz;exact hsz
 obtain ⟨hzc,_⟩:=dF (c:=c) hcz
 have hzs:zv.cells.size=sz2:=by rw [hzc.1,hzl]
 have hnm:n+m<=140737488355328:=Nat.le_trans (Nat.le_mul_of_pos_right _ hb) hroom
 have hmem:n<=n+m:=Nat.le_add_right _ _
 have hc2:=h2.cells
 have hzsz:∀k,(Builtin.zeroCells zv.cells k).size=k*sz2:=λk=>by rw [size_zeroCells,hzs]
 rcases hX with ⟨rfl,rfl⟩ | ⟨b1,o1,sp1,cap,hsp1,rfl,hle,h1⟩
 ·have hrun:=run_append_nil (P:=P) (w:=c.w) t ty e i' zv hu hi hzv ⟨b2,o2,none⟩ m cap2 (rdL c.w b2 o2 (m*sz2)) (by rw [aE,hisz]) hc2.1 hm0 (by omega) (by simp only [Nat.zero_add] at hroom;omega)
  have hge:=grownCap_ge c.w m 0 e
  generalize grownCap c.w m 0 e=nc at hrun hge
  obtain ⟨c',e1,e2,e3⟩:=rT h (vs:=(rdL c.w b2 o2 (m*sz2)).toArray++Builtin.zeroCells zv.cells (nc - m)) (e:=e) (cap:=nc) hO hm0 h0 (by omega) (by
   simp only [Array.size_append,List.size_toArray,aE,hzsz,<-Nat.add_mul];congr 1;omega)
   (b1:=0) (o1:=0) (get:=get) ⟨λj hj=>by omega,λj i u hj=>by omega⟩ h2 (λq hq=>by omega) (λq hq=>by
    simp only [Nat.zero_mul,Nat.zero_add,Array.getElem?_append]
    rw [if_pos (by simpa [aE] using hq)]
    simpa using l5 _ _ _ _ _ hq)
  simp only [Nat.zero_add] at e2 e3 ⊢
  exact ⟨_,c',by rw [e1];exact hrun,e2,e3⟩
 ·by_cases hroom':n+m<=cap
  ·-- into the room
   rcases hO.cases with ⟨_,hf⟩ | ⟨hk,hown⟩
   ·rcases hf with ⟨hf,_⟩ | ⟨ad,hf⟩
    ·cases hf
    ·simp only [Value.slice.injEq,true_and] at hf
     omega
   ·obtain ⟨m',f1,f2,f3⟩:=hown
    have hr:=h.objs.rep K _ hk
    rw [hr.2.1] at f1
    have:=Option.some.inj f1
    subst this
    have hX:=f3 rfl
    have hr2:=hr.2.2
    cases hκ:c.κ K with
    | none=>rw [hκ] at hX;simp [kQ] at hX
    | some p=>
     obtain ⟨ad,cap'⟩:=p
     rw [hκ] at hX
     simp [kQ] at hX
     obtain ⟨rfl,rfl⟩:=hX
     simp only [hκ] at hr2
     have hG:=hr2.2 (by omega)
     obtain ⟨⟨cur,e',hh,hcs,_⟩,hoff,_⟩:=hG
     obtain ⟨q1,q2⟩:=hoff
     simp only at q1 q2 hh
     subst q1 q2
     have hrun:=iw (P:=P) (ty:=ty) (w:=c.w) (ad:=⟨b2,o2,none⟩) (m:=m) (cc:=cap2) (sLen:=n) (sCap:=cap) hu hi hisz hh (aE c.w b2 o2 (m*sz2)) hc2.1 hc2.2 hroom' (by rw [aE,hcs,<-Nat.add_mul];exact Nat.mul_le_mul_right _ hroom')
     obtain ⟨c',e1,e2,e3⟩:=yj h hk hm0 hκ hroom' h2 hh hcs
     exact ⟨_,c',by rw [e1];exact hrun,e2,e3⟩
  ·have hload:∀ (j:Nat) (v:Value),(rdL c.w b1 o1 (n*sz2))[j]?=some v->c.w.cell? ((⟨b1,o1,sp1⟩:Addr).add j)=some v:=by
    by_cases hc0:0 < n
    ·obtain rfl:=hsp1 hc0
     exact h1.cells.1
    ·obtain rfl:n=0:=by omega
     intro j v hj
     rw [List.getElem?_eq_none (by rw [aE];omega)] at hj
     cases hj
   have hrun:=run_append_grow (P:=P) (w:=c.w) t ty e i' zv hu hi hzv ⟨b1,o1,sp1⟩ n cap (rdL c.w b1 o1 (n*sz2)) (by rw [aE,hisz]) hload ⟨b2,o2,none⟩ m cap2 (rdL c.w b2 o2 (m*sz2)) (by rw [aE,hisz]) hc2.1 (by omega) (by omega) (growslice_fits (by omega) hroom)
   have hge:=grownCap_ge c.w (n+m) cap e
   generalize grownCap c.w (n+m) cap e=nc at hrun hge
   obtain ⟨c',e1,e2,e3⟩:=rT h (vs:=(rdL c.w b1 o1 (n*sz2)).toArray++(rdL c.w b2 o2 (m*sz2)).toArray++Builtin.zeroCells zv.cells (nc - (n+m))) (e:=e) (cap:=nc) hO hm0 h0 hge (by
    simp only [Array.size_append,List.size_toArray,aE,hzsz,<-Nat.add_mul];congr 1;omega)
    h1 h2 (λq hq=>by
     rw [Array.append_assoc,Array.getElem?_append,if_pos (by simpa [aE] using hq)]
     simpa using l5 _ _ _ _ _ hq) (λq hq=>by
     rw [Array.getElem?_append,if_pos (by simp [aE];omega),Array.getElem?_append,if_neg (by simp [aE])]
     simp only [List.size_toArray,aE]
     have e5:n*sz2+q - n*sz2=q:=by omega
     rw [e5]
     simpa using l5 _ _ _ _ _ hq)
   exact ⟨_,c',by rw [e1];exact hrun,e2,e3⟩
theorem ln (h:Rel B c s a) {t ty e:TypeId} {sq sz n sz2 m K:Nat} {get get2:Nat->List AV} {X Y:Value} {y:AV} {i:TypeInfo} {z:List AV} (hu:P.underlying t=some (.slice e))
  (hi:P.info? e=some i) (hsz:az P e=some sz) (hz:zeroCells P e=some z) (hzl:z.length=sz) (h0:0 < sz) (hb:0 < i.bytes) (hy:Rep c y Y) (hsrc:lr s y=some (sz2,m,get2))
  (hX:(X=.slice none 0 0/\n=0)∨∃b1 o1 sp cap,(0 < n->sp=none)/\X=.slice (some ⟨b1,o1,sp⟩) n cap/\n<=cap/\RowSees c b1 o1 n sz get)
  (hO:GOwner c s sq n sz K get X) (hm0:0 < m) (hs2:sz2=sz) (hroom:(n+m)*i.bytes<=140737488355328) :
  ∃V c',(Builtin.append_ #[t,t] ty #[X,Y]).run P c.w=.ok V c'.w/\Rel B c' (s.setObj K (.grw sq sz (n+m) (ay n m get get2))) a/\Sees B c' (s.setObj K (.grw sq sz (n+m) (ay n m get get2))) (.gsl K sz (n+m)) V:=by
 subst hs2
 rcases ei h hy hsrc with ⟨_,e⟩ | ⟨b2,o2,sp2,cap2,hsp2,rfl,_,hlen2,hcell2⟩
 ·omega
 obtain rfl:=hsp2 hm0
 exact mI h hu hi hsz hz hzl h0 hb ⟨hlen2,hcell2⟩ hX hO hm0 hroom
theorem oa (h:Rel B c s a) {d:Nat} {t ty:TypeId} {x y v:AV} {X Y:Value} {k:Nat} {ob:AO} (hx:Rep c x X) (hy:Rep c y Y) (he:jv P s d t x y=some (true,v,k,ob)) :
  ∃V c',(Builtin.append_ #[t,t] ty #[X,Y]).run P c.w=.ok V c'.w/\Rel B c' (s.setObj k ob) a/\Sees B c' (s.setObj k ob) v V:=by
 unfold jv at he
 split at he
 ·rename_i e hu
  split at he
  ·rename_i sz z inf sz2 m get2 hsz hz hi hsrc
   simp only [aj] at he
   cases hb:(Nat.blt 0 sz&&(Nat.blt 0 inf.bytes&&(Nat.beq z.length sz&&(Nat.beq sz2 sz||Nat.beq m 0)))) with
   | false=>simp [hb] at he
   | true=>
    simp only [hb,cond_true] at he
    simp only [Bool.and_eq_true,Bool.or_eq_true] at hb
    obtain ⟨b1,b2,b3,b5⟩:=hb
    have b1:=ltB b1
    have b2:=ltB b2
    have b3:=dv b3
    have b5:m=0∨sz2=sz:=(b5.imp dv dv).symm
    have hY0:m=0->Y=.slice none 0 0∨∃ad cc,Y=.slice (some ad) 0 cc:=λhm=>by
     subst hm
     rcases ei h hy hsrc with ⟨rfl,_⟩ | ⟨b,of,sp,cap,_,rfl,_⟩
     ·exact .inl rfl
     ·exact .inr ⟨_,_,rfl⟩
    split at he
    ·rename_i sz0 n get
     cases hb2:((Nat.beq sz0 sz||Nat.beq n 0)&&(cond (Nat.beq n 0) true (Nat.blt 0 m))) with
     | false=>rw [hb2] at he;cases he
     | true=>
      simp only [hb2,cond_true] at he
      split at he
      ·rename_i hd
       simp only [Option.some.injEq,Prod.mk.injEq] at he
       obtain ⟨hr,rfl,rfl,rfl⟩:=he
       simp only [Bool.and_eq_true,Bool.or_eq_true] at hb2
       obtain ⟨b4,b6⟩:=hb2
       have b4:n=0∨sz0=sz:=(b4.imp dv dv).symm
       have hx':Rep c (.sl .fit sz n get) X:=hx.reown b4 (λ_ _=>rfl) (by
        cases hx with
        | slNil _ _ _ ho=>exact ho
        | sl _ _ _ _ ad cap vals h1 h2 h3 h4 h5 h6=>exact h3)
       have hX:=gO hx' rfl
       by_cases hm:m=0
       ·subst hm
        have hn:n=0:=by
         cases hb:Nat.beq n 0 with
         | true=>exact dv hb
         | false=>rw [hb] at b6;simp [Nat.blt] at b6
        subst hn
        have hX0:X=.slice none 0 0∨∃ad,X=.slice (some ad) 0 0:=by
         rcases hX with ⟨rfl,_⟩ | ⟨b,of,sp,cap,_,rfl,_,ho,_⟩
         ·exact .inl rfl
         ·have:cap=0:=ho
          subst this;exact .inr ⟨_,rfl⟩
        obtain ⟨c',e1,e2,e3⟩:=pj h b1 hd hX0 (ay 0 0 get get2)
        refine ⟨X,c',?_,e2,e3⟩
        rw [e1]
        rcases hX0 with rfl | ⟨ad,rfl⟩
        ·exact dm hu hi (Nat.le_refl _) (hY0 rfl) c.w
        ·exact dm hu hi (Nat.le_refl _) (hY0 rfl) c.w
       ·refine ln (get:=get) h hu hi hsz hz b3 b1 b2 hy hsrc ?_ ⟨Nat.zero_le _,.inl ⟨hd,?_⟩⟩ (Nat.pos_of_ne_zero hm) (b5.resolve_left hm) (Nat.le_of_ble_eq_true hr)
        ·rcases hX with ⟨e1,e2,_⟩ | ⟨b,of,sp,cap,g1,g2,g3,g4,g5,_⟩
         ·exact .inl ⟨e1,e2⟩
         ·exact .inr ⟨b,of,sp,cap,λh0=>g1 (by omega),g2,g3,g5⟩
        ·rcases hX with ⟨e1,e2,_⟩ | ⟨b,of,sp,cap,g1,rfl,g3,g4,g5,_⟩
         ·exact .inl ⟨e1,e2⟩
         ·have:cap=n:=g4
          subst this;exact .inr ⟨_,rfl⟩
      ·simp at he
    ·rename_i q sz0 n
     cases hb2:Nat.beq sz0 sz with
     | false=>simp [hb2] at he
     | true=>
      simp only [hb2,cond_true] at he
      have hb2:=dv hb2
      subst hb2
      split at he
      ·rename_i sq sz1 fr get hq
       cases hb1:Nat.beq sz1 sz0 with
       | false=>simp [hb1] at he
       | true=>
        simp only [hb1,cond_true,Option.some.injEq,Prod.mk.injEq,Bool.and_eq_true] at he
        obtain ⟨⟨hr,hf⟩,rfl,rfl,rfl⟩:=he
        have hb1:=dv hb1
        have hf:=dv hf
        subst hb1 hf
        have hX:(X=.slice none 0 0/\fr=0)∨∃b1 o1 sp cap,(0 < fr->sp=none)/\X=.slice (some ⟨b1,o1,sp⟩) fr cap/\fr<=cap/\RowSees c b1 o1 fr sz1 get:=by
         cases hx with
         | gslNil=>exact .inl ⟨rfl,rfl⟩
         | gsl _ _ _ ad cap hn hown=>
          obtain ⟨b,of,sp⟩:=ad
          by_cases h0:0 < fr
          ·obtain ⟨ad',cap',g1,g2,g3,g4⟩:=mi h hq hown rfl h0
           simp only [Value.slice.injEq,Option.some.injEq,true_and] at g2
           obtain ⟨rfl,rfl⟩:=g2
           refine .inr ⟨b,of,sp,cap,λ_=>g4.addr.2,rfl,hn,⟨g4.len,λj i u hj hu=>?_⟩⟩
           obtain ⟨k1,y,k2,k3⟩:=g4.eR g3 hj i u hu
           have:=g4.addr.1
           simp only at this k2
           exact ⟨k1,y,by rw [<-k2];congr 2;omega,k3⟩
          ·exact .inr ⟨b,of,sp,cap,λh=>absurd h h0,rfl,hn,⟨λj hj=>by omega,λj i u hj=>by omega⟩⟩
        have hown:aD c (.key q) fr X:=by
         cases hx with
         | gslNil _ _ ho=>exact ho
         | gsl _ _ _ ad cap hn ho=>exact ho
        by_cases hm:m=0
        ·subst hm
         have hrun:(Builtin.append_ #[t,t] ty #[X,Y]).run P c.w=.ok X c.w:=by
          rcases hX with ⟨rfl,_⟩ | ⟨b,of,sp,cap,_,rfl,hle,_⟩
          ·exact dm hu hi (Nat.le_refl _) (hY0 rfl) c.w
          ·exact dm hu hi hle (hY0 rfl) c.w
         have hsame:∀j,j < fr->ay fr 0 get get2 j=get j:=λj hj=>cU hj
         have hkb:KeepsBut c c s.objs q:=(Keeps.refl c s.objs).but q
         refine ⟨X,c,hrun,h.obj hkb (Grow.refl h.good) ?_ (λq' o' b hq' hne hb' e=>?_) (by simp [AO.keys]) (λb hb'=>?_),⟨hx,λk hk=>?_,rfl⟩⟩
         ·have hr:=h.objs.rep q _ hq
          refine ⟨hr.1,hr.2.1,?_⟩
          have hr2:=hr.2.2
          show (match c.κ q with | none=>fr+0=0 | some (a,cap)=>fr+0<=cap/\(0 < cap->GrwAt c a sq sz1 (fr+0) cap (ay fr 0 get get2)))
          cases hκ:c.κ q with
          | none=>simp only [hκ] at hr2;exact hr2
          | some p=>
           obtain ⟨ad,cap⟩:=p
           simp only [hκ] at hr2
           refine ⟨hr2.1,λh0=>?_⟩
           obtain ⟨⟨vs,t',g1,g2,g3⟩,g4,g5,g6,g7⟩:=hr2.2 h0
           exact ⟨⟨vs,t',g1,g2,λj i u hj hu=>g3 j i u hj (by rwa [hsame j hj] at hu)⟩,g4,λj hj=>by rw [hsame j hj];exact g5 j hj,λj i u hj hu=>g6 j i u hj (by rwa [hsame j hj] at hu),g7⟩
         ·exact h.objs.apart q' o' q _ b hq' hq hne hb' e
         ·exact h.mine q _ b hq hb'
         ·simp [AV.keys] at hk;subst hk;exact aR
        ·exact ln h hu hi hsz hz b3 b1 b2 hy hsrc hX ⟨(h.objs.rep q _ hq).1.2,.inr ⟨hq,hown⟩⟩ (Nat.pos_of_ne_zero hm) (b5.resolve_left hm) (Nat.le_of_ble_eq_true hr)
      ·simp at he
    ·simp at he
  ·simp at he
 ·simp at he
theorem vB {α:Type} (l:List (Nat×α)) (k:Nat) (x y:α):aput (aput l k x) k y=aput l k y:=by
 induction l with
 | nil=>simp [aput]
 | cons p r ih=>
  obtain ⟨q,v⟩:=p
  simp only [aput]
  cases hq:Nat.beq q k with
  | true=>simp [aput,hq]
  | false=>simp [aput,hq,ih]
theorem RowSees.ext {c c':Cx} {ks:Nat->Prop} {b o n sz:Nat} {get:Nat->List AV} (h:RowSees c b o n sz get) (hw:c'.w=c.w) (he:Ext c c' ks):RowSees c' b o n sz get:=
 ⟨h.len,λj i u hj hu=>by
  obtain ⟨h1,y,h2,h3⟩:=h.cell j i u hj hu
  exact ⟨h1,y,by rw [hw];exact h2,h3.ext he λk hk=>by rw [aF (h.len j hj).2 hu] at hk;simp at hk⟩⟩
theorem rekey (h:Rel B c s a) {sq k K sz n m:Nat} {get:Nat->List AV} {X:Value} (hk:s.obj k=some (.grw sq sz n get)) (hK:s.obj K=none) (hX:Rep c (.gsub k sz n 0 m) X) (hm:m<=n) (hsm:sq - 1<=m) :
  ∃c1,c1.w=c.w/\Rel B c1 ((s.setObj k .gone).setObj K (.grw sq sz m get)) a/\Ext c c1 (live s.objs)/\aD c1 (.key K) m X /\
   ((X=.slice none 0 0/\m=0)∨∃b1 o1 sp cap,(0 < m->sp=none)/\X=.slice (some ⟨b1,o1,sp⟩) m cap/\m<=cap/\RowSees c1 b1 o1 m sz get):=by
 have hobj:=h.objs.rep k _ hk
 obtain ⟨hsz,hfr,hrow⟩:=hobj
 have hne:k≠K:=λe=>by rw [e,hK] at hk;cases hk
 have hXk:X=kQ (c.κ k) m:=by
  cases hX with
  | gsubNil _ _ ho=>
   obtain ⟨q,f1,f2,f3⟩:=ho
   rw [hfr] at f1
   exact f3 (Option.some.inj f1)
  | gsub _ _ _ _ _ ad cap a' cap' hn ho hle e1 e2 e3=>
   obtain ⟨q,f1,f2,f3⟩:=ho
   rw [hfr] at f1
   have f3:=f3 (Option.some.inj f1)
   obtain rfl:=e2 rfl
   cases hκ:c.κ k with
   | none=>rw [hκ] at f3;simp [kQ] at f3
   | some p=>
    obtain ⟨ad,cap2⟩:=p
    rw [hκ] at f3
    simp only [kQ,Value.slice.injEq,Option.some.injEq,true_and] at f3
    obtain ⟨rfl,rfl⟩:=f3
    subst e1
    simp [kQ]
 have h1:Rel B c (s.setObj k .gone) a:=h.obj ((Keeps.refl c s.objs).but k) (Grow.refl h.good) trivial (λq o' b _ _ _ e=>by simp [excl] at e) (by simp [AO.keys]) (λb hb=>by simp [excl] at hb)
 have hK1:(s.setObj k .gone).obj K=none:=by rw [St.iJ,if_neg hne];exact hK
 let c1:=c.owns c.w c.I K (c.κ k) m
 have hκ1:c1.κ K=c.κ k:=by simp [c1,Cx.owns]
 have hfr1:c1.fr K=some m:=by simp [c1,Cx.owns]
 have hkb:KeepsBut c c1 (s.setObj k .gone).objs K:=dq (λ_ _ hi=>hi) (λ_ _ _ _ hv=>hv) (λ_ _ _ _ hv _=>hv) (λn' v hl _=>absurd rfl (ft hK1 hl)) (λ_ _ _ _ _ _=>⟨rfl,λ_ hi=>hi⟩)
 have hgr:Grow B c c1:=⟨rfl,rfl,rfl,Nat.le_refl _,λ_ _ _=>rfl,λ_ _ _ _ hi=>hi,h.good.there⟩
 have hex:∀b,excl c1 K (.grw sq sz m get)=some b->excl c k (.grw sq sz n get)=some b:=λb hb=>by simpa only [excl,hκ1] using hb
 have hext:Ext c c1 (live s.objs):=hkb.ext.sub λq hq=>hZ hq
 have hobj1:cW c1 K (.grw sq sz m get):=by
  refine ⟨⟨hsz.1,hsm⟩,hfr1,?_⟩
  rw [hκ1]
  cases hκ:c.κ k with
  | none=>simp only [hκ] at hrow;simp only;omega
  | some p=>
   obtain ⟨ad,cap⟩:=p
   simp only [hκ] at hrow ⊢
   refine ⟨Nat.le_trans hm hrow.1,λh0=>?_⟩
   obtain ⟨⟨vs,t',g1,g2,g3⟩,g4,g5,g6,g7⟩:=hrow.2 h0
   exact ⟨⟨vs,t',g1,g2,λj i u hj hu=>(g3 j i u (by omega) hu).ext hext λq hq=>by rw [aF (g5 j (by omega)).2 hu] at hq;simp at hq⟩,g4,λj hj=>g5 j (by omega),λj i u hj hu=>g6 j i u (by omega) hu,g7⟩
 refine ⟨c1,rfl,h1.obj hkb hgr hobj1 (λq o' b hq hneq hb e=>?_) (by simp [AO.keys]) (λb hb=>h.mine k _ b hk (hex b hb)),hext,⟨m,hfr1,Nat.le_refl _,λ_=>by rw [hκ1];exact hXk⟩,?_⟩
 ·have hq':(s.setObj k .gone).obj q=some o':=hq
  rw [St.iJ] at hq'
  by_cases e1:k=q
  ·simp only [e1,if_true,Option.some.injEq] at hq';subst hq';simp [excl] at hb
  ·rw [if_neg e1] at hq'
   exact h.objs.apart q o' k _ b hq' hk (λe2=>e1 e2.symm) hb (hex b e)
 ·cases hκ:c.κ k with
  | none=>
   rw [hκ] at hXk hrow
   simp only at hrow
   exact .inl ⟨by
           rw [hXk];have:m=0:=by omega
           subst this;rfl,by omega⟩
  | some p=>
   obtain ⟨ad,cap⟩:=p
   rw [hκ] at hXk hrow
   simp only at hrow
   obtain ⟨b,of,sp⟩:=ad
   refine .inr ⟨b,of,sp,cap,λh0=>(hrow.2 (by omega)).addr.2,hXk,by omega,⟨λj hj=>(hrow.2 (by omega)).len j (by omega),λj i u hj hu=>?_⟩⟩
   have hG:=hrow.2 (by omega)
   obtain ⟨e1,y,e2,e3⟩:=hG.eR hrow.1 (i:=j) (by omega) i u hu
   have:=hG.addr.1
   simp only at this e2
   refine ⟨e1,y,by show c.w.cell? _=_;rw [<-e2];congr 2;omega,e3.ext hext λq hq=>?_⟩
   rw [aF (hG.len j (by omega)).2 hu] at hq;simp at hq
theorem qB {objs:List (Nat×AO)} {d K:Nat} (h:mm objs d=some K):alook objs K=none:=by
 unfold mm at h
 split at h
 ·rename_i h1;obtain rfl:=Option.some.inj h;exact h1
 ·split at h
  ·rename_i h1;obtain rfl:=Option.some.inj h;exact h1
  ·cases h
theorem qT (n:Nat) (get get2:Nat->List AV):ay n 0 get get2=get:=by
 funext j
 unfold ay
 cases h:Nat.blt j n with
 | true=>rfl
 | false=>rfl
theorem tZ:∀ {q i:Nat},xf q i=true->q - 1<=i
 | 0,_,_=>Nat.zero_le _
 | q+1,_,h=>Nat.le_of_ble_eq_true h
theorem xD {s:St} {y:AV} {r:Nat×Nat×(Nat->List AV)} (h:vH s y=some (true,r)):lr s y=some r:=by
 cases y with
 | gsl k sz n=>
  simp only [vH] at h
  simp only [lr]
  split at h
  ·rename_i q sz' m get ho
   cases h1:Nat.beq sz sz' with
   | false=>rw [h1] at h;cases h
   | true=>
    rw [h1] at h
    simp only [cond_true,Option.some.injEq,Prod.mk.injEq] at h
    obtain ⟨h2,rfl⟩:=h
    simp only [h1,h2];rfl
  ·cases h
 | gsub k sz n lo len=>
  simp only [vH] at h
  simp only [lr]
  split at h
  ·rename_i q sz' m get ho
   cases h1:Nat.beq sz sz' with
   | false=>rw [h1] at h;cases h
   | true=>
    rw [h1] at h
    simp only [cond_true,Option.some.injEq,Prod.mk.injEq] at h
    obtain ⟨h2,rfl⟩:=h
    simp only [h1,h2];rfl
  ·cases h
 | _=>
  have h:=h
  simp only [vH] at h
  obtain ⟨q,h1,h2⟩:=Option.map_eq_some_iff.1 h
  simp only [Prod.mk.injEq,true_and] at h2
  rw [<-h2];exact h1
theorem od (h:Rel B c s a) {d:Nat} {t ty:TypeId} {x y v:AV} {X Y:Value} {objs':List (Nat×AO)} (hx:Rep c x X) (hy:Rep c y Y) (he:iy P s d t x y=some (true,v,objs')) :
  ∃V c',(Builtin.append_ #[t,t] ty #[X,Y]).run P c.w=.ok V c'.w/\Rel B c' ({env:=s.env,objs:=rG s.objs objs'}:St) a/\Sees B c' ({env:=s.env,objs:=rG s.objs objs'}:St) v V:=by
 unfold iy at he
 split at he
 ·rename_i e k sz0 n m1 hu
  split at he
  ·rename_i sz z inf gb sz2 m get2 sq sz1 n1 get K hsz hz hi hsrc0 hk hK
   obtain ⟨hb,he⟩:_/\_:=by
    simp only [aj] at he
    cases hb:(Nat.blt 0 sz&&(Nat.blt 0 inf.bytes&&(Nat.beq z.length sz&&((Nat.beq sz2 sz||Nat.beq m 0)&&(Nat.beq sz0 sz&&Nat.beq sz1 sz))))) with
    | false=>rw [hb] at he;cases he
    | true=>rw [hb] at he;exact ⟨hb,he⟩
   simp only [cond_true,Option.some.injEq,Prod.mk.injEq,Bool.and_eq_true] at he
   obtain ⟨⟨rfl,hsl,hroom,hn,hle⟩,rfl,rfl⟩:=he
   have hsrc:=xD hsrc0
   have hsm:sq - 1<=m1:=tZ hsl
   simp only [Bool.and_eq_true,Bool.or_eq_true] at hb
   obtain ⟨b1,b2,b3,b5,b6,b7⟩:=hb
   have b1:=ltB b1
   have b2:=ltB b2
   have b3:=dv b3
   have b5:m=0∨sz2=sz:=(b5.imp dv dv).symm
   have b6:=dv b6
   have b7:=dv b7
   have hn:=dv hn
   have hle:=Nat.le_of_ble_eq_true hle
   subst b6 b7 hn
   have hK:=qB hK
   obtain ⟨c1,hw,hr,hext,hown,hX⟩:=rekey h hk hK hx hle hsm
   have hY0:m=0->Y=.slice none 0 0∨∃ad cc,Y=.slice (some ad) 0 cc:=λhm=>by
    subst hm
    rcases ei h hy hsrc with ⟨rfl,_⟩ | ⟨b,of,sp,cap,_,rfl,_⟩
    ·exact .inl rfl
    ·exact .inr ⟨_,_,rfl⟩
   by_cases hm:m=0
   ·subst hm
    have hrun:(Builtin.append_ #[t,t] ty #[X,Y]).run P c.w=.ok X c.w:=by
     rcases hX with ⟨rfl,_⟩ | ⟨b,of,sp,cap,_,rfl,hle,_⟩
     ·exact dm hu hi (Nat.le_refl _) (hY0 rfl) c.w
     ·exact dm hu hi hle (hY0 rfl) c.w
    refine ⟨X,c1,by rw [hw];exact hrun,?_,?_,λq hq=>?_,rfl⟩
    ·rw [qT];exact hr
    ·rcases hX with ⟨rfl,rfl⟩ | ⟨b,of,sp,cap,_,rfl,hle',_⟩
     ·exact .gslNil _ _ hown
     ·exact .gsl _ _ _ _ _ hle' hown
    ·simp [AV.keys] at hq;subst hq;exact aR
   ·have hm0:0 < m:=Nat.pos_of_ne_zero hm
    obtain rfl:=b5.resolve_left hm
    rcases ei h hy hsrc with ⟨_,e⟩ | ⟨b2',o2,sp2,cap2,hsp2,rfl,_,hlen2,hcell2⟩
    ·omega
    obtain rfl:=hsp2 hm0
    have h2:RowSees c1 b2' o2 m sz2 get2:=RowSees.ext ⟨hlen2,hcell2⟩ hw hext
    obtain ⟨V,c',g1,g2,g3⟩:=mI (ty:=ty) (cap2:=cap2) hr hu hi hsz hz b3 b1 b2 h2 hX ⟨hsm,.inr ⟨by rw [St.iJ,if_pos rfl],hown⟩⟩ hm0 (Nat.le_of_ble_eq_true hroom)
    have e:((s.setObj k .gone).setObj K (.grw sq sz2 m1 get)).setObj K (.grw sq sz2 (m1+m) (ay m1 m get get2))=({env:=s.env,objs:=aput (aput s.objs k .gone) K (.grw sq sz2 (m1+m) (ay m1 m get get2))}:St):=by
     show St.mk _ _=St.mk _ _
     congr 1
     exact vB _ _ _ _
    rw [e] at g2 g3
    rw [hw] at g1
    exact ⟨V,c',g1,g2,g3⟩
  ·cases he
 ·cases he
theorem pJ (h:Rel B c s a) {d:Nat} {t:TypeId} {len sz m:Nat} {get:Nat->List AV} {parts:List (Nat×AV)} {xs:List (Nat×Value)} (hd:s.obj d=none) (hs:iC B c s parts xs) (he:dL P t len parts=some (true,.sl .fit sz m get)) :
  ∃V c',(Instr.buildSlice t len xs.toArray).run P c.w=.ok V c'.w/\Rel B c' (s.setObj d (.grw 0 sz m get)) a/\Sees B c' (s.setObj d (.grw 0 sz m get)) (.gsl d sz m) V:=by
 obtain ⟨hsz,vs,e,hvs,hrun,hreps⟩:=lD hs he
 let c':=c.owns (c.w.alloc (.cells vs e)) c.I d (some (⟨c.w.heap.size,0,none⟩,m)) m
 have hkb:KeepsBut c c' s.objs d:=by
  refine dq (λ_ _ hi=>hi) (λb q v hi hv=>?_) (λb q ob hi he _=>(aA c.w _ b (aJ he)).trans he) (λn' v hl _=>absurd rfl (ft hd hl)) (λq o' b hq hne hb=>⟨aA c.w _ _ (cf (h.objs.rep q o' hq) hb),λoff hi=>hi⟩)
  rw [World.bj (aA c.w _ b (dr hv))];exact hv
 have hgr:Grow B c c':=by
  refine ⟨rfl,rfl,rfl,by simp [c',Cx.owns],λb hb _=>aA c.w _ _ (Nat.lt_of_lt_of_le hb h.frame.size),λb q hb _ hi=>hi,λb q hi=>?_⟩
  exact hkb.ext.there h.good hi
 have hown:aD c' (.key d) m (.slice (some ⟨c.w.heap.size,0,none⟩) m m):=⟨m,by simp [c',Cx.owns],Nat.le_refl _,λ_=>by simp [c',Cx.owns,kQ]⟩
 refine ⟨_,c',hrun,h.obj hkb hgr ⟨⟨hsz,Nat.zero_le _⟩,by simp [c',Cx.owns],?_⟩ ?_ (by simp [AO.keys]) ?_,⟨.gsl _ _ _ _ _ (Nat.le_refl _) hown,λq hq=>?_,rfl⟩⟩
 ·simp only [c',Cx.owns,if_true]
  refine ⟨Nat.le_refl _,λ_=>⟨⟨vs,e,aP c.w _,hvs,λj i u hj hu=>((hreps j hj).2.2 i u hu).2.ext hkb.ext λq hq=>by rw [aF (hreps j hj).2.1 hu] at hq;simp at hq⟩,⟨rfl,rfl⟩,λj hj=>⟨(hreps j hj).1,(hreps j hj).2.1⟩,λj i u hj hu=>((hreps j hj).2.2 i u hu).1,λq _ hi=>?_⟩⟩
  have:=h.good.lt hi
  simp at this
 ·intro q o' b hq hne hb
  have:=cf (h.objs.rep q o' hq) hb
  simp only [excl,c',Cx.owns,if_true]
  intro e'
  split at e'
  ·have h9:c.w.heap.size=b:=Option.some.inj e'
   omega
  ·simp at e'
 ·intro b hb
  simp only [excl,c',Cx.owns,if_true] at hb
  have:=h.frame.size
  split at hb
  ·have h9:c.w.heap.size=b:=Option.some.inj hb
   left;omega
  ·simp at hb
 ·simp [AV.keys] at hq;subst hq;exact aR
end Go.Ab

namespace Go.Ab
open Go Go.RowKit
variable {P:Program} {B:Base} {c:Cx} {s:St} {a:Act}
theorem bx:∀ (os:List AO) (b k:Nat),alook (af os b) k=if b<=k then os[k - b]? else none
 | [],b,k=>by simp [af,alook]
 | o::r,b,k=>by
  simp only [af,alook]
  by_cases h:b=k
  ·subst h;simp
  ·rw [gN h,cond_false,bx r (b+1) k]
   by_cases h1:b+1<=k
   ·rw [if_pos h1,if_pos (by omega)]
    have:k - b=(k - (b+1))+1:=by omega
    rw [this];simp
   ·rw [if_neg h1,if_neg (by omega)]
def held (c:Cx) (objs:List (Nat×AO)) (b:Nat):Prop:=∃k o,alook objs k=some o/\excl c k o=some b
def j8 (P:Program) (G:Nat->Option (List AV)) (f:FuncId) (args:List AV) (os:List AO) (r:AV) (os':List AO):Prop:=
 ∀ (c0:Cx) (vs:Array Value),Good G c0->Objs c0 (af os ae)->vs.size=args.length->
  (∀ (i:Nat) (u:AV),args[i]?=some u->Rep c0 u (vs.getD i undef))->(∀k∈ak args,live (af os ae) k)->
  Calls P f vs c0.w λe w'=>∃c' x,e=.returned x/\c'.w=w'/\Good G c' /\
   Frame {c0:=c0,D:=held c0 (af os ae),K:=live (af os ae),G:=G,N:=0} c' /\
   Objs c' (af os' ae)/\Rep c' r x/\(∀k∈r.keys,live (af os' ae) k) /\
   ∀k o b,alook (af os' ae) k=some o->excl c' k o=some b->c0.w.heap.size<=b∨held c0 (af os ae) b
theorem ew (m:Nat->Nat):∀ (l:List AV) (i:Nat),(ke m l)[i]?=l[i]?.map (AV.ren m)
 | [],i=>by simp [ke]
 | v::r,i=>by cases i <;> simp [ke,ew m r]
theorem dH (m:Nat->Nat) (l:List AV):(ke m l).length=l.length:=by induction l <;> simp [ke, *]
theorem uu (m:Nat->Nat) (v:AV):(v.ren m).one=v.one:=by
 cases v with
 | sl o=>cases o <;> rfl
 | _=>rfl
mutual
theorem dA (m:Nat->Nat):∀ (v:AV),∀k∈(v.ren m).keys,∃q∈v.keys,k=m q
 | .sl o sz n get=>by cases o <;> simp [AV.ren,AV.keys]
 | .agg cs=>by simp only [AV.ren,AV.keys];exact eH m cs
 | .tup vs=>by simp only [AV.ren,AV.keys];exact eH m vs
 | .ref .. | .aref .. | .msl .. | .gsl .. | .gref .. | .gsub .. | .mref .. | .fms ..=>by simp [AV.ren,AV.keys]
 | .fn f p q=>by
  simp only [AV.ren,AV.keys,List.mem_append]
  rintro k (hk | hk)
  ·obtain ⟨x,h1,h2⟩:=eH m p k hk;exact ⟨x,.inl h1,h2⟩
  ·obtain ⟨x,h1,h2⟩:=eH m q k hk;exact ⟨x,.inr h1,h2⟩
 | .bool _ | .int .. | .str _ | .nilp | .nilf | .nilm | .nili | .nni | .num _ | .undef | .raw _ | .arr .. | .elt ..=>by simp [AV.ren,AV.keys]
 | .grd t w v=>by simp only [AV.ren,AV.keys];exact dA m v
theorem eH (m:Nat->Nat):∀ (l:List AV),∀k∈ak (ke m l),∃q∈ak l,k=m q
 | []=>by simp [ke,ak]
 | v::r=>by
  intro k hk
  simp only [ke,ak,List.mem_append] at hk
  rcases hk with hk | hk
  ·obtain ⟨x,h1,h2⟩:=dA m v k hk
   exact ⟨x,by simp [ak,h1],h2⟩
  ·obtain ⟨x,h1,h2⟩:=eH m r k hk
   exact ⟨x,by simp [ak,h1],h2⟩
end
theorem Rep.ren {c c':Cx} {m:Nat->Nat} (hc:∀b o v,c.I b o->c.w.cell? ⟨b,o,none⟩=some v->c'.w.cell? ⟨b,o,none⟩=some v) (hI:∀b o,c.I b o->c'.I b o) (hM:∀b o ob,c.I b o->c.w.heap[b]?=some ob->e8 ob=false->c'.w.heap[b]?=some ob) {v:AV} {x:Value} (h:Rep c v x) :
  (∀k∈v.keys,c'.β (m k)=c.β k/\∀n y,aD c (.key k) n y->aD c' (.key (m k)) n y)->Rep c' (v.ren m) x:=by
 have he:Ext c c' (λ_=>False):=⟨hc,hI,λ_ h=>h.elim,λ_ h=>h.elim,hM⟩
 induction h with
 | slNil o sz get ho=>
  intro hk
  cases o with
  | key k=>exact .slNil _ _ _ ((hk k (by simp [AV.keys])).2 _ _ ho)
  | _=>exact .slNil _ _ _ ho
 | sl o sz n get ad cap vals h1 h2 h3 h4 h5 h6 _=>
  intro hk
  have hown:∀o',aD c' o' n (.slice (some ad) n cap)->Rep c' (.sl o' sz n get) (.slice (some ad) n cap):=λo' ho=>
   .sl _ _ _ _ ad cap vals h1 h2 ho h4 (λj i u hj hu=>⟨(h5 j i u hj hu).1,hc _ _ _ (h5 j i u hj hu).2.2 (h5 j i u hj hu).2.1,hI _ _ (h5 j i u hj hu).2.2⟩)
    (λj i u hj hu=>(h6 j i u hj hu).ext he λk hk'=>by rw [aF (h4 j hj).2 hu] at hk';simp at hk')
  cases o with
  | key k=>exact hown _ ((hk k (by simp [AV.keys])).2 _ _ h3)
  | _=>exact hown _ h3
 | agg cs vs h1 h2 h3 ih=>
  intro hk
  refine .agg _ _ (by rw [h1,dH]) (λi u hu=>?_) (λi u hu=>?_)
  ·rw [ew] at hu
   cases hi:cs[i]? with
   | none=>simp [hi] at hu
   | some u'=>simp [hi] at hu;subst hu;rw [uu];exact h2 i u' hi
  ·rw [ew] at hu
   cases hi:cs[i]? with
   | none=>simp [hi] at hu
   | some u'=>simp [hi] at hu;subst hu;exact ih i u' hi λk hk'=>hk k (by simpa [AV.keys] using aH hi k hk')
 | tup us vs h1 h3 ih=>
  intro hk
  refine .tup _ _ (by rw [h1,dH]) (λi u hu=>?_)
  rw [ew] at hu
  cases hi:us[i]? with
  | none=>simp [hi] at hu
  | some u'=>simp [hi] at hu;subst hu;exact ih i u' hi λk hk'=>hk k (by simpa [AV.keys] using aH hi k hk')
 | bool b=>intro _;exact .bool b
 | int k n=>intro _;exact .int k n
 | str l=>intro _;exact .str l
 | nilp=>intro _;exact .nilp
 | nilf=>intro _;exact .nilf
 | nilm=>intro _;exact .nilm
 | nili=>intro _;exact .nili
 | nni t v=>intro _;exact .nni t v
 | num k n=>intro _;exact .num k n
 | undef v=>intro _;exact .undef v
 | raw v=>intro _;exact .raw v
 | arr sz n get vs h1 h2 h3 h4 _=>
  intro _
  exact .arr sz n get vs h1 h2 h3 λj i u hj hu=>(h4 j i u hj hu).ext he λk hk'=>by rw [aF (h2 j hj).2 hu] at hk';simp at hk'
 | ref k off=>intro hk;rw [<-(hk k (by simp [AV.keys])).1];exact .ref _ _
 | aref k sz i off=>intro hk;rw [<-(hk k (by simp [AV.keys])).1];exact .aref _ _ _ _
 | elt cs off b o vals h1 h2 h3 _=>
  intro _
  exact .elt cs off b o vals h1 (λi u hu=>⟨(h2 i u hu).1,hc _ _ _ (h2 i u hu).2.2 (h2 i u hu).2.1,hI _ _ (h2 i u hu).2.2⟩) λi u hu=>(h3 i u hu).ext he λk hk'=>by rw [aF h1 hu] at hk';simp at hk'
 | msl k sz off len cap o h1 h2=>intro hk;rw [<-(hk k (by simp [AV.keys])).1];exact .msl _ _ _ _ _ _ h1 h2
 | gslNil k sz ho=>intro hk;exact .gslNil _ _ ((hk k (by simp [AV.keys])).2 _ _ ho)
 | gsl k sz n a cap h1 ho=>intro hk;exact .gsl _ _ _ _ _ h1 ((hk k (by simp [AV.keys])).2 _ _ ho)
 | gref k sz n i off b cap ho=>intro hk;exact .gref _ _ _ _ _ _ _ ((hk k (by simp [AV.keys])).2 _ _ ho)
 | gsubNil k sz ho=>intro hk;exact .gsubNil _ _ ((hk k (by simp [AV.keys])).2 _ _ ho)
 | gsub k sz n lo len a cap a' cap' h1 ho h2 h3 h4 h5=>intro hk;exact .gsub _ _ _ _ _ a cap a' cap' h1 ((hk k (by simp [AV.keys])).2 _ _ ho) h2 h3 h4 h5
 | mref k=>intro hk;rw [<-(hk k (by simp [AV.keys])).1];exact .mref _
 | fms g b es clock ms h1 h2 h3 h4 h5 h6=>intro _;exact .fms g b es clock ms (hI _ _ h1) (hM b 0 _ h1 h2 rfl) h3 h4 h5 h6
 | fn f p q vp vq h1 h2 h3 h4 ih1 ih2=>
  intro hk
  refine .fn _ _ _ _ _ (by rw [h1,dH]) (by rw [h2,dH]) (λi u hu=>?_) (λi u hu=>?_)
  ·rw [ew] at hu
   cases hi:p[i]? with
   | none=>simp [hi] at hu
   | some u'=>simp [hi] at hu;subst hu;exact ih1 i u' hi λk hk'=>hk k (by simpa [AV.keys] using .inl (aH hi k hk'))
  ·rw [ew] at hu
   cases hi:q[i]? with
   | none=>simp [hi] at hu
   | some u'=>simp [hi] at hu;subst hu;exact ih2 i u' hi λk hk'=>hk k (by simpa [AV.keys] using .inr (aH hi k hk'))
def Cx.froze (c:Cx) (b n:Nat):Cx:={c with I:=λb' o=>c.I b' o∨(b'=b/\o < n)}
theorem nT {c:Cx} {k sz n:Nat} {get:Nat->List AV} (sq:Nat) (h0:0 < sz) (hfr:c.fr k=some n) (hm:match c.κ k with | none=>n=0 | some (a,cap)=>n<=cap/\(0 < cap->GrwAt c a (n+1) sz n cap get)):cW c k (rV sq sz n get):=by
 cases sq with
 | succ q=>exact ⟨⟨h0,by omega⟩,hfr,hm⟩
 | zero=>
  refine ⟨h0,hfr,?_⟩
  cases hκ:c.κ k with
  | none=>rw [hκ] at hm;exact hm
  | some p=>
   obtain ⟨a,cap⟩:=p
   rw [hκ] at hm
   obtain ⟨hle,hG⟩:=hm
   refine ⟨λhc=>(hG hc).addr.2,hle,λhc=>?_⟩
   have hG:=hG (by omega)
   obtain ⟨vs,t,g1,g2,_⟩:=hG.row
   exact ⟨⟨vs,t,g1,g2⟩,hG.addr.1,λo ho=>hG.free o (by rw [Nat.add_sub_cancel];exact ho)⟩
theorem u6 {c:Cx} {k sq sz n:Nat} {get:Nat->List AV} {b:Nat} (h:excl c k (rV sq sz n get)=some b):excl c k (.grw sq sz n get)=some b:=by
 cases sq with
 | succ q=>exact h
 | zero=>
  simp only [rV,excl] at h ⊢
  cases hκ:c.κ k with
  | none=>rw [hκ] at h;simp at h
  | some p=>
   obtain ⟨ad,cap⟩:=p
   rw [hκ] at h
   simp only at h ⊢
   split at h
   ·rw [if_pos (by omega)];exact h
   ·simp at h
theorem pk (sq sz n:Nat) (get:Nat->List AV):(rV sq sz n get).keys=[]:=by cases sq <;> rfl
theorem jW (h:Rel B c s a) {v v':AV} {x:Value} {objs':List (Nat×AO)} (hs:Sees B c s v x) (he:bM s.objs v=some (v',objs')) :
  ∃c',c'.w=c.w/\Rel B c' {s with objs:=objs'} a/\Sees B c' {s with objs:=objs'} v' x/\(∀k,live s.objs k->live objs' k)/\Ext c c' (live s.objs):=by
 cases v with
 | msl k sz off n=>
  simp only [bM] at he
  have hrep:=hs.rep
  have key:∀ (c':Cx) (sz' m:Nat) (get:Nat->List AV),c'.w=c.w->c'.β k=c.β k->ArrAt c' (c'.β k) sz' m get->(∀o,o < m*sz'->c'.I (c'.β k) o)->sz=sz'->off+n<=m->Rep c' (.sl .no sz n λj=>get (off+j)) x:=by
   intro c' sz' m get hw hβ ha hI e hle
   subst e
   cases hrep with
   | msl _ _ _ _ cap o h1 h2=>
    by_cases hn:n=0
    ·subst hn
     exact .sl _ _ _ _ _ _ (λ_ _=>undef) (λ_=>rfl) (Nat.zero_le _) trivial (λj hj=>by omega) (λj i u hj=>by omega) (λj i u hj=>by omega)
    ·have ho:=h2 (by omega)
     subst ho
     have hcell:∀ (j i:Nat) (u:AV),j < n->(get (off+j))[i]?=some u->u.one=true/\∃y,c'.w.cell? ⟨c.β k,off*sz+(j*sz+i),none⟩=some y/\Rep c' u y:=by
      intro j i u hj hu
      obtain ⟨e1,y,e2,e3⟩:=ha.eR (i:=off+j) (by omega) i u hu
      refine ⟨e1,y,?_,e3⟩
      rw [<-e2,hβ];congr 2;rw [Nat.add_mul];omega
     refine .sl _ _ _ _ ⟨c.β k,off*sz,none⟩ cap (λj i=>(c'.w.cell? ⟨c.β k,off*sz+(j*sz+i),none⟩).getD undef) (λ_=>rfl) h1 trivial (λj hj=>ha.len _ (by omega)) (λj i u hj hu=>?_) (λj i u hj hu=>?_)
     ·obtain ⟨e1,y,e2,e3⟩:=hcell j i u hj hu
      have hi:i < sz:=by rw [<-(ha.len (off+j) (by omega)).1];exact (List.getElem?_eq_some_iff.1 hu).1
      refine ⟨e1,by simp [e2],?_⟩
      have:=hI ((off+j)*sz+i) (aY (by omega) hi)
      rw [hβ] at this
      have e5:(off+j)*sz+i=off*sz+(j*sz+i):=by rw [Nat.add_mul];omega
      rw [<-e5];exact this
     ·obtain ⟨e1,y,e2,e3⟩:=hcell j i u hj hu
      simp only [e2,Option.getD_some];exact e3
  cases ho:alook s.objs k with
  | none=>simp [ho] at he
  | some ob=>
   have hob:=h.objs.rep k ob ho
   cases ob with
   | arr sz' m get=>
    simp only [ho,aj] at he
    cases hb:(Nat.beq sz sz'&&Nat.ble (off+n) m) with
    | false=>simp [hb] at he
    | true=>
     simp [hb] at he
     obtain ⟨rfl,rfl⟩:=he
     simp only [Bool.and_eq_true] at hb
     have hb1:=dv hb.1
     have hb2:=Nat.le_of_ble_eq_true hb.2
     let c':=c.froze (c.β k) (m*sz')
     have hext:Ext c c' (live s.objs):=⟨λ_ _ _ _ hv=>hv,λ_ _ hi=>.inl hi,λ_ _=>rfl,λ_ _ _ _ hv=>hv,λ_ _ _ _ hv _=>hv⟩
     have hkb:KeepsBut c c' s.objs k:=⟨hext,λ_ _ _=>rfl,λ_ _ _=>rfl,λ_ _ _=>rfl,λq o' b hq hne hb'=>⟨rfl,λoff' hi=>by
      rcases hi with hi | ⟨rfl,_⟩
      ·exact hi
      ·exact (h.objs.apart q o' k _ _ hq ho hne hb' rfl).elim⟩⟩
     obtain ⟨⟨⟨vs,t',hh,hsz,hr⟩,hl,h1⟩,hI,hfr⟩:=hob
     have hgr:Grow B c c':=⟨rfl,rfl,rfl,Nat.le_refl _,λ_ _ _=>rfl,λb o hb' hd hi=>by
      rcases hi with hi | ⟨rfl,_⟩
      ·exact hi
      ·rcases h.mine k _ _ ho rfl with h' | h'
       ·omega
       ·exact absurd h' hd,λb o hi=>by
      rcases hi with hi | ⟨rfl,hlt⟩
      ·exact h.good.there b o hi
      ·exact .inl ⟨vs[o]'(by omega),by show c.w.cell? _=_;rw [aL hh];simp⟩⟩
     have harr:ArrAt c' (c'.β k) sz' m get:=⟨⟨vs,t',hh,hsz,λj i u hj hu=>(hr j i u hj hu).ext hext λq hq=>by rw [aF (hl j hj).2 hu] at hq;simp at hq⟩,hl,h1⟩
     have hrel:=h.obj (k:=k) (o:=.frz sz' m get) hkb hgr ⟨harr,λo ho'=>.inr ⟨rfl,ho'⟩,hfr⟩ (λq o' b hq hne hb' e=>h.objs.apart q o' k _ b hq ho hne hb' e) (by simp [AO.keys]) (λb hb'=>h.mine k _ b ho hb')
     exact ⟨c',rfl,hrel,⟨key c' sz' m get rfl rfl harr (λo ho'=>.inr ⟨rfl,ho'⟩) hb1 hb2,by simp [AV.keys],rfl⟩,λq hq=>hZ hq,hext⟩
   | frz sz' m get=>
    simp only [ho,aj] at he
    cases hb:(Nat.beq sz sz'&&Nat.ble (off+n) m) with
    | false=>simp [hb] at he
    | true=>
     simp [hb] at he
     obtain ⟨rfl,rfl⟩:=he
     simp only [Bool.and_eq_true] at hb
     have hb1:=dv hb.1
     have hb2:=Nat.le_of_ble_eq_true hb.2
     exact ⟨c,rfl,h,⟨key c sz' m get rfl rfl hob.1 hob.2.1 hb1 hb2,by simp [AV.keys],rfl⟩,λq hq=>hq,Ext.refl _ _⟩
   | _=>simp [ho] at he
 | gsl k sz n=>
  simp only [bM] at he
  have hrep:=hs.rep
  cases ho:alook s.objs k with
  | none=>simp [ho] at he
  | some ob=>
   have hob:=h.objs.rep k ob ho
   cases ob with
   | grw sq sz' m get=>
    simp only [ho,aj] at he
    cases hb:(Nat.beq sz sz'&&Nat.beq n m) with
    | false=>simp [hb] at he
    | true=>
     simp only [hb,cond_true,Option.some.injEq,Prod.mk.injEq] at he
     obtain ⟨rfl,rfl⟩:=he
     simp only [Bool.and_eq_true] at hb
     have hb1:=dv hb.1
     have hb2:=dv hb.2
     subst hb1 hb2
     obtain ⟨hsz0,hfr,hm⟩:=hob
     have hX:x=kQ (c.κ k) n:=by
      have hown:aD c (.key k) n x:=by
       cases hrep with
       | gslNil _ _ hq=>exact hq
       | gsl _ _ _ ad cap hn hq=>exact hq
      obtain ⟨q,f1,f2,f3⟩:=hown
      rw [hfr] at f1
      exact f3 (Option.some.inj f1)
     have hex0:∀b,excl c k (rV sq sz n get)=some b->excl c k (.grw sq sz n get)=some b:=λb hb'=>u6 hb'
     have fin:∀c':Cx,c'.w=c.w->c'.β=c.β->c'.κ=c.κ->c'.fr=c.fr->KeepsBut c c' s.objs k->Grow B c c'->cW c' k (rV sq sz n get)->Rep c' (.sl .no sz n get) x->
       ∃c',c'.w=c.w/\Rel B c' {s with objs:=aput s.objs k (rV sq sz n get)} a/\Sees B c' {s with objs:=aput s.objs k (rV sq sz n get)} (.sl .no sz n get) x/\(∀q,live s.objs q->live (aput s.objs k (rV sq sz n get)) q)/\Ext c c' (live s.objs):=by
      intro c' hw hβ hκ hf hkb hgr hor hrx
      have hsame:excl c' k (rV sq sz n get)=excl c k (rV sq sz n get):=cT (by rw [hβ]) (by rw [hκ])
      refine ⟨c',hw,h.obj (k:=k) (o:=rV sq sz n get) hkb hgr hor (λq o' b hq hne hb' e=>?_) (by rw [pk];simp) (λb hb'=>?_),⟨hrx,by simp [AV.keys],rfl⟩,λq hq=>hZ hq,hkb.ext⟩
      ·rw [hsame] at e
       exact h.objs.apart q o' k _ b hq ho hne hb' (hex0 b e)
      ·rw [hsame] at hb'
       exact h.mine k _ b ho (hex0 b hb')
     cases hκ:c.κ k with
     | none=>
      simp only [hκ] at hm
      subst hm
      rw [hκ] at hX
      have hX:x=.slice none 0 0:=hX
      subst hX
      refine fin c rfl rfl rfl rfl ((Keeps.refl c s.objs).but k) (Grow.refl h.good) (nT sq hsz0.1 hfr (by rw [hκ])) (.slNil _ _ _ trivial)
     | some p=>
      obtain ⟨ad,cap⟩:=p
      simp only [hκ] at hm
      obtain ⟨hle,hG⟩:=hm
      rw [hκ] at hX
      have hX:x=.slice (some ad) n cap:=hX
      subst hX
      by_cases hc0:0 < cap
      ·obtain ⟨⟨vs,t',hh,hvs,hr⟩,had,hl,h1,hI⟩:=hG hc0
       have hexg:excl c k (.grw sq sz n get)=some ad.block:=by simp only [excl,hκ];rw [if_pos hc0]
       have hext:Ext c (c.froze ad.block (n*sz)) (live s.objs):=⟨λ_ _ _ _ hv=>hv,λ_ _ hi=>.inl hi,λ_ _=>rfl,λ_ _ _ _ hv=>hv,λ_ _ _ _ hv _=>hv⟩
       have hkb:KeepsBut c (c.froze ad.block (n*sz)) s.objs k:=⟨hext,λ_ _ _=>rfl,λ_ _ _=>rfl,λ_ _ _=>rfl,λq o' b hq hne hb'=>⟨rfl,λoff' hi=>by
        rcases hi with hi | ⟨rfl,_⟩
        ·exact hi
        ·exact (h.objs.apart q o' k _ _ hq ho hne hb' hexg).elim⟩⟩
       have hnle:n*sz<=vs.size:=by rw [hvs];exact Nat.mul_le_mul_right _ hle
       have hgr:Grow B c (c.froze ad.block (n*sz)):=⟨rfl,rfl,rfl,Nat.le_refl _,λ_ _ _=>rfl,λb o hb' hd hi=>by
        rcases hi with hi | ⟨rfl,_⟩
        ·exact hi
        ·rcases h.mine k _ _ ho hexg with h' | h'
         ·omega
         ·exact absurd h' hd,λb o hi=>by
        rcases hi with hi | ⟨rfl,hlt⟩
        ·exact h.good.there b o hi
        ·exact .inl ⟨vs[o]'(by omega),by show c.w.cell? _=_;rw [aL hh];simp⟩⟩
       refine fin (c.froze ad.block (n*sz)) rfl rfl rfl rfl hkb hgr (nT sq hsz0.1 hfr ?_) ?_
       ·show (match c.κ k with | none=>n=0 | some (a,cap)=>n<=cap/\(0 < cap->GrwAt (c.froze ad.block (n*sz)) a (n+1) sz n cap get))
        rw [hκ]
        refine ⟨hle,λ_=>⟨⟨vs,t',hh,hvs,λj i u hj hu=>(hr j i u hj hu).ext hext λq hq=>by rw [aF (hl j hj).2 hu] at hq;simp at hq⟩,had,hl,h1,λo ho' hi=>?_⟩⟩
        rw [Nat.add_sub_cancel] at ho'
        rcases hi with hi | ⟨_,hlt⟩
        ·exact hI o (Nat.le_trans (Nat.mul_le_mul_right sz hsz0.2) ho') hi
        ·omega
       ·refine .sl _ _ _ _ ad cap (λj i=>vs.getD (j*sz+i) undef) (λ_=>had.2) hle trivial hl (λj i u hj hu=>?_) (λj i u hj hu=>(hr j i u hj hu).ext hext λq hq=>by rw [aF (hl j hj).2 hu] at hq;simp at hq)
        have hi:i < sz:=by rw [<-(hl j hj).1];exact (List.getElem?_eq_some_iff.1 hu).1
        have hlt:=aY hj hi
        have hoff:=had.1
        refine ⟨h1 j i u hj hu,?_,.inr ⟨rfl,by omega⟩⟩
        show c.w.cell? _=_
        rw [hoff,Nat.zero_add,aL hh]
        have:j*sz+i < vs.size:=by omega
        simp [Array.getD_eq_getD_getElem?,this]
      ·have hn0:n=0:=by omega
       subst hn0
       have hcz:cap=0:=by omega
       subst hcz
       refine fin c rfl rfl rfl rfl ((Keeps.refl c s.objs).but k) (Grow.refl h.good) (nT sq hsz0.1 hfr (by rw [hκ];exact ⟨Nat.le_refl _,λh0=>absurd h0 (by omega)⟩)) (.sl _ _ _ _ ad 0 (λ_ _=>undef) (λh0=>absurd h0 (by omega)) (Nat.le_refl _) trivial (λj hj=>by omega) (λj i u hj=>by omega) (λj i u hj=>by omega))
   | _=>simp [ho] at he
 | _=>simp [bM] at he;obtain ⟨rfl,rfl⟩:=he;exact ⟨c,rfl,h,hs,λ_ h=>h,Ext.refl _ _⟩
theorem Sees.move {c c':Cx} {s s':St} {v:AV} {x:Value} (h:Sees B c s v x) (hl:∀k,Go.Ab.live s.objs k->Go.Ab.live s'.objs k) (he:Ext c c' (Go.Ab.live s.objs)):Sees B c' s' v x:=
 ⟨h.rep.ext he h.live,λk hk=>hl k (h.live k hk),h.plain⟩
abbrev St.with (s:St) (objs:List (Nat×AO)):St:={s with objs:=objs}
theorem jV:∀ {l l':List AV} {xs:List Value} {c:Cx} {s:St} {objs':List (Nat×AO)},Rel B c s a->cV B c s l xs->bU s.objs l=some (l',objs')->
  ∃c',c'.w=c.w/\Rel B c' (s.with objs') a/\cV B c' (s.with objs') l' xs/\(∀k,live s.objs k->live objs' k)/\Ext c c' (live s.objs)
 | [],l',xs,c,s,objs',h,hs,he=>by
  simp [bU] at he;obtain ⟨rfl,rfl⟩:=he
  exact ⟨c,rfl,h,hs,λ_ h=>h,Ext.refl _ _⟩
 | v::r,l',xs,c,s,objs',h,hs,he=>by
  simp only [bU] at he
  cases h1:bM s.objs v with
  | none=>simp [h1] at he
  | some p=>
   obtain ⟨v',o1⟩:=p
   cases h2:bU o1 r with
   | none=>simp [h1,h2] at he
   | some q=>
    obtain ⟨r',o2⟩:=q
    simp [h1,h2] at he
    obtain ⟨rfl,rfl⟩:=he
    obtain ⟨x,rs,rfl,hx,hr⟩:=hs.cons_inv
    obtain ⟨c1,e1,e2,e3,e4,e5⟩:=jW h hx h1
    have hr1:cV B c1 (s.with o1) r rs:=⟨hr.1,λi u hu=>(hr.2 i u hu).move e4 e5⟩
    obtain ⟨c2,f1,f2,f3,f4,f5⟩:=jV e2 hr1 h2
    refine ⟨c2,f1.trans e1,f2,⟨by simp [f3.1],λi u hu=>?_⟩,λk hk=>f4 k (e4 k hk),e5.trans (f5.sub e4)⟩
    cases i with
    | zero=>simp at hu;subst hu;simpa using e3.move f4 f5
    | succ i=>simpa using f3.2 i u (by simpa using hu)
theorem qF {objs objs':List (Nat×AO)} {v v':AV} (h:bM objs v=some (v',objs')):v'.one=v.one:=by
 cases v with
 | msl k sz off n=>
  simp only [bM] at h
  cases ho:alook objs k with
  | none=>simp [ho] at h
  | some ob=>
   cases ob with
   | arr sz' m get=>
    cases hb:(Nat.beq sz sz'&&Nat.ble (off+n) m) with
    | false=>simp [ho,hb,aj] at h
    | true=>simp [ho,hb,aj] at h;rw [<-h.1];rfl
   | frz sz' m get=>
    cases hb:(Nat.beq sz sz'&&Nat.ble (off+n) m) with
    | false=>simp [ho,hb,aj] at h
    | true=>simp [ho,hb,aj] at h;rw [<-h.1];rfl
   | _=>simp [ho] at h
 | gsl k sz n=>
  simp only [bM] at h
  cases ho:alook objs k with
  | none=>simp [ho] at h
  | some ob=>
   cases ob with
   | grw sq sz' m get=>
    cases hb:(Nat.beq sz sz'&&Nat.beq n m) with
    | false=>simp [ho,hb,aj] at h
    | true=>simp [ho,hb,aj] at h;rw [<-h.1];rfl
   | _=>simp [ho] at h
 | _=>simp [bM] at h;rw [<-h.1]
theorem lb:∀ {l l':List AV} {objs objs':List (Nat×AO)},bU objs l=some (l',objs')->∀ (i:Nat) (u':AV),l'[i]?=some u'->∃u,l[i]?=some u/\u'.one=u.one
 | [],l',objs,objs',h,i,u',hu=>by simp [bU] at h;obtain ⟨rfl,_⟩:=h;simp at hu
 | v::r,l',objs,objs',h,i,u',hu=>by
  simp only [bU] at h
  cases h1:bM objs v with
  | none=>simp [h1] at h
  | some p=>
   obtain ⟨v',o1⟩:=p
   cases h2:bU o1 r with
   | none=>simp [h1,h2] at h
   | some q=>
    obtain ⟨r',o2⟩:=q
    simp [h1,h2] at h
    obtain ⟨rfl,rfl⟩:=h
    cases i with
    | zero=>simp at hu;subst hu;exact ⟨v,rfl,qF h1⟩
    | succ i=>simpa using lb h2 i u' (by simpa using hu)
theorem nV (h:Rel B c s a) {v v':AV} {x:Value} {objs':List (Nat×AO)} (hs:Sees B c s v x) (he:di s.objs v=some (v',objs')) :
  ∃c',c'.w=c.w/\Rel B c' (s.with objs') a/\Sees B c' (s.with objs') v' x/\(∀k,live s.objs k->live objs' k)/\Ext c c' (live s.objs):=by
 cases v with
 | agg cs=>
  simp only [di] at he
  cases h1:bU s.objs cs with
  | none=>simp [h1] at he
  | some p=>
   obtain ⟨cs',o1⟩:=p
   simp [h1] at he
   obtain ⟨rfl,rfl⟩:=he
   obtain ⟨hr,hl,hp⟩:=hs
   cases hr with
   | agg _ vs e1 e2 e3=>
    have hL:cV B c s cs vs.toList:=⟨by simpa using e1,λi u hu=>⟨by
     have:=e3 i u hu
     simpa [Array.getD_eq_getD_getElem?,List.getD_eq_getElem?_getD] using this,λk hk=>hl k (by simpa [AV.keys] using aH hu k hk),(e3 i u hu).plain⟩⟩
    obtain ⟨c',f1,f2,f3,f4,f5⟩:=jV h hL h1
    have hfn:=f3.fn
    refine ⟨c',f1,f2,⟨.agg _ _ (by simpa using hfn.1) (λi u hu=>?_) (λi u hu=>by simpa using hfn.2.1 i u hu),by simpa [AV.keys] using hfn.2.2,rfl⟩,f4,f5⟩
    obtain ⟨u0,g1,g2⟩:=lb h1 i u hu
    rw [g2];exact e2 i u0 g1
 | _=>exact jW h hs he
theorem cY:∀ {l l':List AV} {xs:List Value} {c:Cx} {s:St} {objs':List (Nat×AO)},Rel B c s a->cV B c s l xs->bd s.objs l=some (l',objs')->
  ∃c',c'.w=c.w/\Rel B c' (s.with objs') a/\cV B c' (s.with objs') l' xs/\(∀k,live s.objs k->live objs' k)/\Ext c c' (live s.objs)
 | [],l',xs,c,s,objs',h,hs,he=>by
  simp [bd] at he;obtain ⟨rfl,rfl⟩:=he
  exact ⟨c,rfl,h,hs,λ_ h=>h,Ext.refl _ _⟩
 | v::r,l',xs,c,s,objs',h,hs,he=>by
  simp only [bd] at he
  cases h1:di s.objs v with
  | none=>simp [h1] at he
  | some p=>
   obtain ⟨v',o1⟩:=p
   cases h2:bd o1 r with
   | none=>simp [h1,h2] at he
   | some q=>
    obtain ⟨r',o2⟩:=q
    simp [h1,h2] at he
    obtain ⟨rfl,rfl⟩:=he
    obtain ⟨x,rs,rfl,hx,hr⟩:=hs.cons_inv
    obtain ⟨c1,e1,e2,e3,e4,e5⟩:=nV h hx h1
    have hr1:cV B c1 (s.with o1) r rs:=⟨hr.1,λi u hu=>(hr.2 i u hu).move e4 e5⟩
    obtain ⟨c2,f1,f2,f3,f4,f5⟩:=cY e2 hr1 h2
    refine ⟨c2,f1.trans e1,f2,⟨by simp [f3.1],λi u hu=>?_⟩,λk hk=>f4 k (e4 k hk),e5.trans (f5.sub e4)⟩
    cases i with
    | zero=>simp at hu;subst hu;simpa using e3.move f4 f5
    | succ i=>simpa using f3.2 i u (by simpa using hu)
theorem cV.shed:∀ {l:List AV} {xs:List Value},cV B c s l xs->cV B c s (bt l) xs:=by
 intro l xs h
 refine ⟨by rw [gP];exact h.1,λi u hu=>?_⟩
 rw [gQ] at hu
 cases hi:l[i]? with
 | none=>simp [hi] at hu
 | some u'=>simp [hi] at hu;subst hu;exact (h.2 i u' hi).shed
theorem any_beq {l:List Nat} {k:Nat}:l.any (Nat.beq k)=true↔k∈l:=by
 rw [List.any_eq_true]
 exact ⟨λ⟨x,h1,h2⟩=>dv h2 ▸ h1,λh=>⟨k,h,Nat.beq_refl k⟩⟩
theorem cM:∀ (l acc:List Nat),acc.Nodup->(dn acc l).Nodup/\∀k,k∈dn acc l↔k∈acc∨k∈l
 | [],acc,h=>⟨h,by simp [dn]⟩
 | k::r,acc,h=>by
  simp only [dn]
  cases hb:acc.any (Nat.beq k) with
  | true=>
   obtain ⟨h1,h2⟩:=cM r acc h
   refine ⟨h1,λq=>?_⟩
   have:=any_beq.1 hb
   simp only [cond_true,h2 q,List.mem_cons]
   constructor
   ·rintro (h | h)
    ·exact .inl h
    ·exact .inr (.inr h)
   ·rintro (h | rfl | h)
    ·exact .inl h
    ·exact .inl this
    ·exact .inr h
  | false=>
   have hk:k ∉ acc:=λhm=>by rw [any_beq.2 hm] at hb;simp at hb
   obtain ⟨h1,h2⟩:=cM r (acc++[k]) (by
    rw [List.nodup_append]
    exact ⟨h,by simp,λx hx y hy=>by simp at hy;subst hy;rintro rfl;exact hk hx⟩)
   refine ⟨h1,λq=>?_⟩
   simp only [cond_false,h2 q,List.mem_append,List.mem_cons,List.not_mem_nil,or_false,or_assoc]
theorem dI (objs:List (Nat×AO)) (l:List Nat):(aX objs l).Nodup/\∀k∈l,k∈aX objs l:=by
 unfold aX
 obtain ⟨a1,a2⟩:=cM l [] List.nodup_nil
 obtain ⟨b1,b2⟩:=cM (bg objs (dn [] l)) (dn [] l) a1
 obtain ⟨c1,c2⟩:=cM (bg objs (dn (dn [] l) (bg objs (dn [] l)))) _ b1
 exact ⟨c1,λk hk=>(c2 k).2 (.inl ((b2 k).2 (.inl ((a2 k).2 (.inr hk)))))⟩
theorem bS:∀ {l m:List Nat},kc l m=true->∀k∈l,k∈m
 | [],m,_=>by simp
 | k::r,m,h=>by
  simp only [kc,Bool.and_eq_true] at h
  intro q hq
  rcases List.mem_cons.1 hq with rfl | hq
  ·exact any_beq.1 h.1
  ·exact bS h.2 q hq
theorem eK:∀ {objs:List (Nat×AO)} {ks:List Nat} {os:List AO},ca objs ks=some os->os.length=ks.length/\∀ (i:Nat) (k:Nat),ks[i]?=some k->alook objs k=os[i]?/\live objs k
 | objs,[],os,h=>by simp [ca] at h;subst h;simp
 | objs,k::r,os,h=>by
  simp only [ca] at h
  cases ho:alook objs k with
  | none=>simp [ho] at h
  | some o=>
   cases hr:ca objs r with
   | none=>simp [ho,hr] at h
   | some l=>
    simp [ho,hr] at h;subst h
    obtain ⟨h1,h2⟩:=eK hr
    refine ⟨by simp [h1],λi q hq=>?_⟩
    cases i with
    | zero=>simp at hq;subst hq;exact ⟨by simp [ho],o,ho⟩
    | succ i=>simpa using h2 i q (by simpa using hq)
theorem cP {objs:List (Nat×AO)}:∀ {ks:List Nat} {k:Nat} {o:AO},k∈ks->alook objs k=some o->∀q∈o.keys,q∈bg objs ks
 | [],k,o,hk,_=>by simp at hk
 | q::r,k,o,hk,ho=>by
  intro x hx
  simp only [bg,List.mem_append]
  rcases List.mem_cons.1 hk with rfl | hk
  ·left;simp [ho,hx]
  ·right;exact cP hk ho x hx
theorem bn:∀ {ks:List Nat} {k:Nat} (d:Nat),k∈ks->ks[idxOf ks k d]?=some k
 | [],k,d,h=>by simp at h
 | q::r,k,d,h=>by
  simp only [idxOf]
  by_cases e:q=k
  ·subst e;simp
  ·rw [gN e,cond_false]
   simp only [List.getElem?_cons_succ]
   exact bn d (by rcases List.mem_cons.1 h with rfl | h;exact absurd rfl e;exact h)
theorem b8:∀ {ks:List Nat} {i k:Nat},ks[i]?=some k->ee ks i=k
 | [],i,k,h=>by simp at h
 | q::r,0,k,h=>by simp at h;subst h;rfl
 | q::r,i+1,k,h=>by simpa [ee] using b8 (ks:=r) (by simpa using h)
theorem bw:∀ {ks:List Nat} {l:List AO} {objs:List (Nat×AO)},ks.Nodup->l.length=ks.length->∀k,alook (bb objs ks l) k=if k∈ks then l[idxOf ks k 0]? else alook objs k
 | [],l,objs,_,_,k=>by
  cases l <;> simp [bb]
 | q::r,[],objs,_,hl,k=>by simp at hl
 | q::r,o::l,objs,hn,hl,k=>by
  obtain ⟨hq,hn⟩:=List.nodup_cons.1 hn
  simp only [bb]
  rw [bw hn (by simpa using hl) k,aO]
  simp only [idxOf]
  by_cases e:q=k
  ·subst e
   rw [if_neg hq];simp
  ·rw [gN e]
   by_cases hk:k∈r
   ·rw [if_pos hk,if_pos (List.mem_cons_of_mem _ hk)];simp
   ·rw [if_neg hk,if_neg e,if_neg (by simp [hk];exact λh=>e h.symm)]
end Go.Ab

namespace Go.Ab
open Go Go.RowKit
variable {P:Program} {B:Base} {c:Cx} {s:St} {a:Act}
theorem AO.dA (m:Nat->Nat) (o:AO):∀k∈(o.ren m).keys,∃q∈o.keys,k=m q:=by
 cases o with
 | cells cs=>simp only [AO.ren,AO.keys];exact eH m cs
 | _=>simp [AO.ren,AO.keys]
theorem cW.ren {c c':Cx} {m:Nat->Nat} {k k':Nat} {o:AO} (h:cW c k o) (hw:c'.w=c.w) (hI:c'.I=c.I) (hβ:c'.β k'=c.β k) (hκ:c'.κ k'=c.κ k) (hf:c'.fr k'=c.fr k)
  (hk:∀q∈o.keys,c'.β (m q)=c.β q/\∀n y,aD c (.key q) n y->aD c' (.key (m q)) n y):cW c' k' (o.ren m):=by
 have hren:∀ {v:AV} {x:Value},Rep c v x->(∀q∈v.keys,c'.β (m q)=c.β q/\∀n y,aD c (.key q) n y->aD c' (.key (m q)) n y)->Rep c' (v.ren m) x:=
  λhr hk=>hr.ren (λb o v _ hv=>by rw [hw];exact hv) (λb o hi=>by rw [hI];exact hi) (λb o ob _ hv _=>by rw [hw];exact hv) hk
 have hext:Ext c c' (λ_=>False):=⟨λb o v _ hv=>by rw [hw];exact hv,λb o hi=>by rw [hI];exact hi,λ_ h=>h.elim,λ_ h=>h.elim,λb o ob _ hv _=>by rw [hw];exact hv⟩
 have harr:∀ {sz n:Nat} {get:Nat->List AV},ArrAt c (c.β k) sz n get->ArrAt c' (c'.β k') sz n get:=by
  rintro sz n get ⟨⟨vs,t,hh,hs,hv⟩,hl,h1⟩
  exact ⟨⟨vs,t,by rw [hw,hβ];exact hh,hs,λj i u hj hu=>(hv j i u hj hu).ext hext λq hq=>by rw [aF (hl j hj).2 hu] at hq;simp at hq⟩,hl,h1⟩
 cases o with
 | cells cs=>
  obtain ⟨⟨⟨vs,t,hh,hs,hv⟩,h1⟩,hI',hfr⟩:=h
  refine ⟨⟨⟨vs,t,by rw [hw,hβ];exact hh,by rw [hs,dH],λi u hu=>?_⟩,λi u hu=>?_⟩,by rw [hI,hβ];exact hI',hf.trans hfr⟩
  ·rw [ew] at hu
   cases hi:cs[i]? with
   | none=>simp [hi] at hu
   | some u'=>simp [hi] at hu;subst hu;exact hren (hv i u' hi) λq hq=>hk q (by simpa [AO.keys] using aH hi q hq)
  ·rw [ew] at hu
   cases hi:cs[i]? with
   | none=>simp [hi] at hu
   | some u'=>simp [hi] at hu;subst hu;rw [uu];exact h1 i u' hi
 | arr sz n get=>exact ⟨harr h.1,by rw [hI,hβ];exact h.2.1,hf.trans h.2.2⟩
 | frz sz n get=>exact ⟨harr h.1,by rw [hI,hβ];exact h.2.1,hf.trans h.2.2⟩
 | own sz n=>
  obtain ⟨h0,hfr,hm⟩:=h
  refine ⟨h0,hf.trans hfr,?_⟩
  simp only [hκ]
  cases hc:c.κ k with
  | none=>simpa [hc] using hm
  | some p=>
   obtain ⟨ad,cap⟩:=p
   simp only [hc] at hm ⊢
   obtain ⟨h1,h2,h3⟩:=hm
   refine ⟨h1,h2,λhlt=>?_⟩
   obtain ⟨⟨vs,t,hh,hs⟩,hoff,hfree⟩:=h3 hlt
   exact ⟨⟨vs,t,by rw [hw];exact hh,hs⟩,hoff,by rw [hI];exact hfree⟩
 | grw sq sz n get=>
  obtain ⟨h0,hfr,hm⟩:=h
  refine ⟨h0,hf.trans hfr,?_⟩
  simp only [hκ]
  cases hc:c.κ k with
  | none=>simpa [hc] using hm
  | some p=>
   obtain ⟨ad,cap⟩:=p
   simp only [hc] at hm ⊢
   obtain ⟨h2,h3⟩:=hm
   refine ⟨h2,λhlt=>?_⟩
   obtain ⟨⟨vs,t,hh,hs,hv⟩,had,hl,h1,hfree⟩:=h3 hlt
   exact ⟨⟨vs,t,by rw [hw];exact hh,hs,λj i u hj hu=>(hv j i u hj hu).ext hext λq hq=>by rw [aF (hl j hj).2 hu] at hq;simp at hq⟩,had,hl,h1,by rw [hI];exact hfree⟩
 | iter l p=>exact ⟨by rw [hw,hβ];exact h.1,by rw [hI,hβ];exact h.2.1,hf.trans h.2.2⟩
 | mp ka ks dom get=>
  obtain ⟨⟨⟨es,clock,ms,hh,h1,h2,h3,h4⟩,hp⟩,hI',hfr⟩:=h
  refine ⟨⟨⟨es,clock,ms,by rw [hw,hβ];exact hh,h1,λm hm=>?_,h3,h4⟩,hp⟩,by rw [hI,hβ];exact hI',hf.trans hfr⟩
  obtain ⟨e1,e2,e3⟩:=h2 m hm
  exact ⟨e1,e2,e3.ext hext λq hq=>by rw [hp _ e1 e2] at hq;simp at hq⟩
 | gone=>trivial
theorem dD {c c':Cx} {m:Nat->Nat} {k k':Nat} {o:AO} (hβ:c'.β k'=c.β k) (hκ:c'.κ k'=c.κ k):excl c' k' (o.ren m)=excl c k o:=by
 cases o <;> simp [AO.ren,excl,hβ,hκ]
theorem Objs.oT {c c':Cx} {objs:List (Nat×AO)} (h:Objs c objs) {q:Nat} {o:AO} (hext:Ext c c' (live objs)) (hq:alook objs q=some o)
  (hβ:c'.β q=c.β q) (hκ:c'.κ q=c.κ q) (hf:c'.fr q=c.fr q) (heap:∀b,excl c q o=some b->c'.w.heap[b]?=c.w.heap[b]?/\∀off,c'.I b off->c.I b off):cW c' q o:=by
 have hr:=h.rep q o hq
 cases o with
 | cells cs=>
  obtain ⟨⟨⟨vs,t,hh,hs,hv⟩,h1⟩,hI,hfr⟩:=hr
  have hh':=heap (c.β q) rfl
  refine ⟨⟨⟨vs,t,?_,hs,λi u hu=>(hv i u hu).ext hext λr hr=>h.closed q _ hq r (by simpa [AO.keys] using aH hu r hr)⟩,h1⟩,?_,hf.trans hfr⟩
  ·rw [hβ,hh'.1];exact hh
  ·intro o ho;rw [hβ] at ho;exact hI o (hh'.2 o ho)
 | arr sz n get=>
  obtain ⟨⟨⟨vs,t,hh,hs,hv⟩,hl',h1⟩,hI,hfr⟩:=hr
  have hh':=heap (c.β q) rfl
  refine ⟨⟨⟨vs,t,?_,hs,λj i u hj hu=>(hv j i u hj hu).ext hext λr hr=>?_⟩,hl',h1⟩,?_,hf.trans hfr⟩
  ·rw [hβ,hh'.1];exact hh
  ·rw [aF (hl' j hj).2 hu] at hr;simp at hr
  ·intro o ho;rw [hβ] at ho;exact hI o (hh'.2 o ho)
 | frz sz n get=>
  obtain ⟨⟨⟨vs,t,hh,hs,hv⟩,hl',h1⟩,hI,hfr⟩:=hr
  have hh':=heap (c.β q) rfl
  refine ⟨⟨⟨vs,t,?_,hs,λj i u hj hu=>(hv j i u hj hu).ext hext λr hr=>?_⟩,hl',h1⟩,?_,hf.trans hfr⟩
  ·rw [hβ,hh'.1];exact hh
  ·rw [aF (hl' j hj).2 hu] at hr;simp at hr
  ·intro o ho;rw [hβ];exact hext.I _ _ (hI o ho)
 | own sz n=>
  obtain ⟨h0,hfr,hm⟩:=hr
  refine ⟨h0,hf.trans hfr,?_⟩
  rw [hκ]
  cases hc:c.κ q with
  | none=>simpa [hc] using hm
  | some p=>
   obtain ⟨ad,cap⟩:=p
   simp only [hc] at hm ⊢
   obtain ⟨h1,h2,h3⟩:=hm
   refine ⟨h1,h2,λhlt=>?_⟩
   obtain ⟨⟨vs,t,hh,hs⟩,hoff,hfree⟩:=h3 hlt
   have hh':=heap ad.block (by simp [excl,hc,hlt])
   exact ⟨⟨vs,t,hh'.1.trans hh,hs⟩,hoff,λo ho hi=>hfree o ho (hh'.2 o hi)⟩
 | grw sq sz n get=>
  obtain ⟨h0,hfr,hm⟩:=hr
  refine ⟨h0,hf.trans hfr,?_⟩
  rw [hκ]
  cases hc:c.κ q with
  | none=>simpa [hc] using hm
  | some p=>
   obtain ⟨a,cap⟩:=p
   simp only [hc] at hm ⊢
   obtain ⟨h2,h3⟩:=hm
   refine ⟨h2,λhlt=>?_⟩
   obtain ⟨⟨vs,t,hh,hs,hv⟩,had,hl',h1,hfree⟩:=h3 hlt
   have hh':=heap a.block (by simp [excl,hc,hlt])
   exact ⟨⟨vs,t,hh'.1.trans hh,hs,λj i u hj hu=>(hv j i u hj hu).ext hext λr hr=>by rw [aF (hl' j hj).2 hu] at hr;simp at hr⟩,had,hl',h1,λo ho hi=>hfree o ho (hh'.2 o hi)⟩
 | iter s p=>
  obtain ⟨hh,hI,hfr⟩:=hr
  have hh':=heap (c.β q) rfl
  exact ⟨by rw [hβ,hh'.1];exact hh,λo ho=>by rw [hβ] at ho;exact hI o (hh'.2 o ho),hf.trans hfr⟩
 | mp ka ks dom get=>
  obtain ⟨⟨⟨es,clock,ms,hh,h1,h2,h3,h4⟩,hp⟩,hI,hfr⟩:=hr
  have hh':=heap (c.β q) rfl
  refine ⟨⟨⟨es,clock,ms,by rw [hβ,hh'.1];exact hh,h1,λm hm=>?_,h3,h4⟩,hp⟩,λo ho=>by rw [hβ] at ho;exact hI o (hh'.2 o ho),hf.trans hfr⟩
  obtain ⟨e1,e2,e3⟩:=h2 m hm
  exact ⟨e1,e2,e3.ext hext λr hr=>by rw [hp _ e1 e2] at hr;simp at hr⟩
 | gone=>trivial
theorem idx_eq {ks:List Nat} (hn:ks.Nodup) {i k:Nat} (h:ks[i]?=some k) (d:Nat):idxOf ks k d=i:=by
 have h2:=bn (ks:=ks) d (List.mem_of_getElem? h)
 have hi:=(List.getElem?_eq_some_iff.1 h).1
 have hj:=(List.getElem?_eq_some_iff.1 h2).1
 exact (List.getElem?_inj hj hn).1 (h2.trans h.symm)
theorem mB (h:Rel B c s a) {f:FuncId} {ks:List Nat} (hn:ks.Nodup) {os os':List AO} (hos:ca s.objs ks=some os) (hcl:∀q∈bg s.objs ks,q∈ks)
  {l:List AV} {xs:List Value} (hl:cV B c s l xs) (hlk:∀q∈ak l,q∈ks) {r:AV}
  (hok:j8 P B.G f (ke (λk=>ae+idxOf ks k 0) l) (os.map (AO.ren λk=>ae+idxOf ks k 0)) r os') (hlen:os'.length=ks.length) :
  Calls P f xs.toArray c.w λe w'=>∃c2 x,e=.returned x/\c2.w=w'/\Rel B c2 (s.with (bb s.objs ks (os'.map (AO.ren λk=>ee ks (k - ae))))) a /\
   Sees B c2 (s.with (bb s.objs ks (os'.map (AO.ren λk=>ee ks (k - ae))))) (r.ren λk=>ee ks (k - ae)) x:=by
 obtain ⟨hol,hoo⟩:=eK hos
 let fwd:=λk=>ae+idxOf ks k 0
 let bwd:=λk=>ee ks (k - ae)
 have hfb:∀k∈ks,bwd (fwd k)=k:=λk hk=>by
  show ee ks (ae+idxOf ks k 0 - ae)=k
  rw [Nat.add_sub_cancel_left];exact b8 (bn 0 hk)
 have hbf:∀i k,ks[i]?=some k->bwd (ae+i)=k/\fwd k=ae+i:=λi k hk=>
  ⟨by show ee ks (ae+i - ae)=k;rw [Nat.add_sub_cancel_left];exact b8 hk,by show ae+idxOf ks k 0=_;rw [idx_eq hn hk]⟩
 let c0:Cx:={w:=c.w,I:=c.I,β:=λq=>c.β (bwd q),κ:=λq=>c.κ (bwd q),fr:=λq=>c.fr (bwd q)}
 have hβ0:∀k∈ks,c0.β (fwd k)=c.β k:=λk hk=>by show c.β (bwd (fwd k))=_;rw [hfb k hk]
 have hκ0:∀k∈ks,c0.κ (fwd k)=c.κ k:=λk hk=>by show c.κ (bwd (fwd k))=_;rw [hfb k hk]
 have hf0:∀k∈ks,c0.fr (fwd k)=c.fr k:=λk hk=>by show c.fr (bwd (fwd k))=_;rw [hfb k hk]
 have hown0:∀k∈ks,∀n y,aD c (.key k) n y->aD c0 (.key (fwd k)) n y:=λk hk n y=>by simp only [aD,hκ0 k hk,hf0 k hk];exact id
 have hfwd:∀k∈ks,c0.β (fwd k)=c.β k/\∀n y,aD c (.key k) n y->aD c0 (.key (fwd k)) n y:=λk hk=>⟨hβ0 k hk,hown0 k hk⟩
 have hlook:∀q o,alook (af (os.map (AO.ren fwd)) ae) q=some o->∃k o0,k∈ks/\q=fwd k/\alook s.objs k=some o0/\o=o0.ren fwd:=by
  intro q o hq
  rw [bx] at hq
  by_cases hb:ae<=q
  ·rw [if_pos hb,List.getElem?_map] at hq
   cases hi:os[q - ae]? with
   | none=>simp [hi] at hq
   | some o0=>
    simp [hi] at hq;subst hq
    have hlt:=(List.getElem?_eq_some_iff.1 hi).1
    have hk:ks[q - ae]?=some (ks[q - ae]'(by omega)):=List.getElem?_eq_getElem _
    refine ⟨_,o0,List.mem_of_getElem? hk,?_,by rw [(hoo _ _ hk).1,hi],rfl⟩
    rw [(hbf _ _ hk).2];omega
  ·rw [if_neg hb] at hq;simp at hq
 have hlook':∀k∈ks,∃o0,alook s.objs k=some o0/\alook (af (os.map (AO.ren fwd)) ae) (fwd k)=some (o0.ren fwd):=by
  intro k hk
  have hi:=bn 0 hk
  obtain ⟨h1,o0,h2⟩:=hoo _ _ hi
  refine ⟨o0,h2,?_⟩
  rw [bx,if_pos (Nat.le_add_right _ _)]
  show (os.map (AO.ren fwd))[ae+idxOf ks k 0 - ae]?=_
  rw [Nat.add_sub_cancel_left,List.getElem?_map,<-h1,h2];rfl
 have hO0:Objs c0 (af (os.map (AO.ren fwd)) ae):=by
  refine ⟨λq o hq=>?_,λq o q' o' b hq hq' hne hb=>?_,λq o hq r hr=>?_⟩
  ·obtain ⟨k,o0,hk,rfl,h1,rfl⟩:=hlook q o hq
   exact (h.objs.rep k o0 h1).ren rfl rfl (hβ0 k hk) (hκ0 k hk) (hf0 k hk) λq hq=>hfwd q (hcl q (cP hk h1 q hq))
  ·obtain ⟨k,o0,hk,rfl,h1,rfl⟩:=hlook q o hq
   obtain ⟨k',o0',hk',rfl,h1',rfl⟩:=hlook q' o' hq'
   rw [dD (hβ0 k hk) (hκ0 k hk)] at hb
   rw [dD (hβ0 k' hk') (hκ0 k' hk')]
   exact h.objs.apart k o0 k' o0' b h1 h1' (λe=>hne (by rw [e])) hb
  ·obtain ⟨k,o0,hk,rfl,h1,rfl⟩:=hlook q o hq
   obtain ⟨q',hq',rfl⟩:=AO.dA _ _ r hr
   obtain ⟨_,_,e⟩:=hlook' q' (hcl q' (cP hk h1 q' hq'))
   exact ⟨_,e⟩
 have hG0:Good B.G c0:=⟨h.good.there,λg cs hg=>(h.good.globs g cs hg).ext (ks:=λ_=>False) ⟨λ_ _ _ _ hv=>hv,λ_ _ hi=>hi,λ_ hk=>hk.elim,λ_ hk=>hk.elim,λ_ _ _ _ hv _=>hv⟩ (by simp [AV.keys])⟩
 have hcall:=hok
 have hfn:=hl.fn
 refine (hcall c0 xs.toArray hG0 hO0 (by rw [dH];exact hfn.1) (λi u hu=>?_) (λk hk=>?_)).mono ?_
 ·rw [ew] at hu
  cases hi:l[i]? with
  | none=>simp [hi] at hu
  | some u'=>simp [hi] at hu;subst hu;exact Rep.ren (c:=c) (c':=c0) (m:=fwd) (λ_ _ _ _ hv=>hv) (λ_ _ hi=>hi) (λ_ _ _ _ hv _=>hv) (hfn.2.1 i u' hi) λq hq=>hfwd q (hlk q (aH hi q hq))
 ·obtain ⟨q,hq,rfl⟩:=eH _ _ k hk
  obtain ⟨_,_,e⟩:=hlook' q (hlk q hq)
  exact ⟨_,e⟩
 rintro e w' ⟨c',x,he,hw',hG',hF',hO',hr',hrk,hmine⟩
 have hheld:∀b,held c0 (af (os.map (AO.ren fwd)) ae) b->∃k o,k∈ks/\alook s.objs k=some o/\excl c k o=some b:=by
  rintro b ⟨q,o,hq,hb⟩
  obtain ⟨k,o0,hk,rfl,h1,rfl⟩:=hlook q o hq
  exact ⟨k,o0,hk,h1,by rw [<-dD (hβ0 k hk) (hκ0 k hk)];exact hb⟩
 have hK:∀k∈ks,live (af (os.map (AO.ren fwd)) ae) (fwd k):=λk hk=>by obtain ⟨_,_,e⟩:=hlook' k hk;exact ⟨_,e⟩
 have hlow:∀b,b < B.c0.w.heap.size->¬ B.D b->b < c0.w.heap.size/\¬ held c0 (af (os.map (AO.ren fwd)) ae) b:=by
  intro b hb hd
  refine ⟨Nat.lt_of_lt_of_le hb h.frame.size,λhh=>?_⟩
  obtain ⟨k,o,_,h1,h2⟩:=hheld b hh
  rcases h.mine k o b h1 h2 with h3 | h3
  ·omega
  ·exact hd h3
 classical
 let c2:Cx:={w:=c'.w,I:=c'.I,β:=c.β,κ:=λq=>if q∈ks then c'.κ (fwd q) else c.κ q,fr:=λq=>if q∈ks then c'.fr (fwd q) else c.fr q}
 have hκ2:∀k∈ks,c2.κ k=c'.κ (fwd k):=λk hk=>if_pos hk
 have hf2:∀k∈ks,c2.fr k=c'.fr (fwd k):=λk hk=>if_pos hk
 have hκn:∀k,k ∉ ks->c2.κ k=c.κ k:=λk hk=>if_neg hk
 have hfn2:∀k,k ∉ ks->c2.fr k=c.fr k:=λk hk=>if_neg hk
 have hβ2:∀k∈ks,c2.β k=c'.β (fwd k):=λk hk=>by rw [hF'.ext.β (fwd k) (hK k hk)];exact (hβ0 k hk).symm
 have hown2:∀k∈ks,∀n y,aD c' (.key (fwd k)) n y->aD c2 (.key k) n y:=λk hk n y=>by simp only [aD,hκ2 k hk,hf2 k hk];exact id
 have hext:∀ks':Nat->Prop,Ext c c2 ks':=λks'=>by
  refine ⟨hF'.ext.cell,hF'.ext.I,λ_ _=>rfl,λk _ n y hy=>?_,hF'.ext.map⟩
  by_cases hk:k∈ks
  ·exact hown2 k hk n y (hF'.ext.own (fwd k) (hK k hk) n y (hown0 k hk n y hy))
  ·simp only [aD,hκn k hk,hfn2 k hk];exact hy
 have hgrow:Grow B c c2:=⟨hF'.os,hF'.output,hF'.tape,hF'.size,λb hb hd=>hF'.block b (hlow b hb hd).1 (hlow b hb hd).2,
  λb o hb hd hi=>hF'.new b o (hlow b hb hd).1 (hlow b hb hd).2 hi,hG'.there⟩
 have hput:∀k,alook (bb s.objs ks (os'.map (AO.ren bwd))) k=if k∈ks then (os'.map (AO.ren bwd))[idxOf ks k 0]? else alook s.objs k:=bw hn (by simp [hlen])
 have hin:∀k∈ks,∃o',alook (af os' ae) (fwd k)=some o'/\alook (bb s.objs ks (os'.map (AO.ren bwd))) k=some (o'.ren bwd):=by
  intro k hk
  have hi:=bn 0 hk
  have hlt:=(List.getElem?_eq_some_iff.1 hi).1
  have ho:os'[idxOf ks k 0]?=some (os'[idxOf ks k 0]'(by omega)):=List.getElem?_eq_getElem _
  refine ⟨os'[idxOf ks k 0]'(by omega),?_,?_⟩
  ·rw [bx,if_pos (Nat.le_add_right _ _)]
   show os'[ae+idxOf ks k 0 - ae]?=_
   rw [Nat.add_sub_cancel_left];exact ho
  ·rw [hput,if_pos hk,List.getElem?_map,ho];rfl
 have hback:∀q,live (af os' ae) q->bwd q∈ks/\fwd (bwd q)=q:=by
  rintro q ⟨o,hq⟩
  rw [bx] at hq
  by_cases hb:ae<=q
  ·rw [if_pos hb] at hq
   have hlt:=(List.getElem?_eq_some_iff.1 hq).1
   have hk:ks[q - ae]?=some (ks[q - ae]'(by omega)):=List.getElem?_eq_getElem _
   have:=hbf _ _ hk
   rw [Nat.add_sub_cancel' hb] at this
   rw [this.1]
   exact ⟨List.mem_of_getElem? hk,this.2⟩
  ·rw [if_neg hb] at hq;simp at hq
 have hbwd:∀q,live (af os' ae) q->c2.β (bwd q)=c'.β q/\∀n y,aD c' (.key q) n y->aD c2 (.key (bwd q)) n y:=by
  intro q hq
  obtain ⟨h1,h2⟩:=hback q hq
  refine ⟨by rw [hβ2 _ h1,h2],λn y hy=>hown2 _ h1 n y (by rw [h2];exact hy)⟩
 have hlive:∀k,live s.objs k->live (bb s.objs ks (os'.map (AO.ren bwd))) k:=by
  rintro k ⟨o,ho⟩
  by_cases hk:k∈ks
  ·obtain ⟨_,_,e⟩:=hin k hk;exact ⟨_,e⟩
  ·exact ⟨o,by rw [hput,if_neg hk];exact ho⟩
 have hcases:∀k o,alook (bb s.objs ks (os'.map (AO.ren bwd))) k=some o->(k∈ks/\∃o',alook (af os' ae) (fwd k)=some o'/\o=o'.ren bwd/\excl c2 k o=excl c' (fwd k) o')∨(k ∉ ks/\alook s.objs k=some o/\excl c2 k o=excl c k o):=by
  intro k o ho
  by_cases hk:k∈ks
  ·obtain ⟨o',e1,e2⟩:=hin k hk
   rw [e2] at ho;cases ho
   exact .inl ⟨hk,o',e1,rfl,dD (hβ2 k hk) (hκ2 k hk)⟩
  ·rw [hput,if_neg hk] at ho
   exact .inr ⟨hk,ho,cT rfl (hκn k hk)⟩
 have hout:∀k k' o' o b,k∈ks->alook (af os' ae) (fwd k)=some o'->k' ∉ ks->alook s.objs k'=some o->excl c' (fwd k) o'=some b->excl c k' o≠some b:=by
  intro k k' o' o b hk h1 hk' h2 hb hb'
  rcases hmine _ _ b h1 hb with h3 | h3
  ·have:=cf (h.objs.rep k' o h2) hb'
   have:c0.w.heap.size=c.w.heap.size:=rfl
   omega
  ·obtain ⟨k'',o'',h4,h5,h6⟩:=hheld b h3
   exact h.objs.apart k'' o'' k' o b h5 h2 (λe=>hk' (e ▸ h4)) h6 hb'
 have hO2:Objs c2 (bb s.objs ks (os'.map (AO.ren bwd))):=by
  refine ⟨λk o ho=>?_,λk o k' o' b ho ho' hne hb=>?_,λk o ho q hq=>?_⟩
  ·rcases hcases k o ho with ⟨hk,o',e1,rfl,_⟩ | ⟨hk,e1,_⟩
   ·exact (hO'.rep _ o' e1).ren rfl rfl (hβ2 k hk) (hκ2 k hk) (hf2 k hk) λq hq=>hbwd q (hO'.closed _ o' e1 q hq)
   ·refine h.objs.oT (hext _) e1 rfl (hκn k hk) (hfn2 k hk) λb hb=>?_
    have hlt:=cf (h.objs.rep k o e1) hb
    have hnh:¬ held c0 (af (os.map (AO.ren fwd)) ae) b:=λhh=>by
     obtain ⟨k'',o'',h4,h5,h6⟩:=hheld b hh
     exact h.objs.apart k'' o'' k o b h5 e1 (λe=>hk (e ▸ h4)) h6 hb
    exact ⟨hF'.block b hlt hnh,λoff hi=>hF'.new b off hlt hnh hi⟩
  ·rcases hcases k o ho with ⟨hk,o1,e1,rfl,e2⟩ | ⟨hk,e1,e2⟩ <;> rcases hcases k' o' ho' with ⟨hk',o1',e1',rfl,e2'⟩ | ⟨hk',e1',e2'⟩
   ·rw [e2'] ;rw [e2] at hb
    exact hO'.apart _ _ _ _ b e1 e1' (λe=>hne (by rw [<-hfb k hk,e,hfb k' hk'])) hb
   ·rw [e2'];rw [e2] at hb
    exact hout k k' o1 o' b hk e1 hk' e1' hb
   ·rw [e2'];rw [e2] at hb
    exact λhb'=>hout k' k o1' o b hk' e1' hk e1 hb' hb
   ·rw [e2'];rw [e2] at hb
    exact h.objs.apart k o k' o' b e1 e1' hne hb
  ·rcases hcases k o ho with ⟨hk,o',e1,rfl,_⟩ | ⟨hk,e1,_⟩
   ·obtain ⟨q',hq',rfl⟩:=AO.dA _ _ q hq
    obtain ⟨_,_,e⟩:=hin _ (hback q' (hO'.closed _ o' e1 q' hq')).1
    exact ⟨_,e⟩
   ·exact hlive q (h.objs.closed k o e1 q hq)
 refine ⟨c2,x,he,hw',⟨h.good.grow (hext (live s.objs)) hgrow,h.frame.grow (hext (live s.objs)) hgrow h.kept,hO2,λt v hv=>(h.env t v hv).ext (hext (live s.objs)) (h.closed t v hv),
  λt v hv k hk=>hlive k (h.closed t v hv k hk),λk o b ho hb=>?_,h.tmps,h.defers.ext (hext (live s.objs)),λk hk=>hlive k (h.kept k hk)⟩,⟨?_,?_,?_⟩⟩
 ·rcases hcases k o ho with ⟨hk,o',e1,rfl,e2⟩ | ⟨hk,e1,e2⟩
  ·rw [e2] at hb
   rcases hmine _ _ b e1 hb with h3 | h3
   ·exact .inl (Nat.le_trans h.frame.size h3)
   ·obtain ⟨k'',o'',h4,h5,h6⟩:=hheld b h3
    exact h.mine k'' o'' b h5 h6
  ·rw [e2] at hb;exact h.mine k o b e1 hb
 ·exact Rep.ren (c:=c') (c':=c2) (m:=bwd) (λ_ _ _ _ hv=>hv) (λ_ _ hi=>hi) (λ_ _ _ _ hv _=>hv) hr' λq hq=>hbwd q (hrk q hq)
 ·intro k hk
  obtain ⟨q,hq,rfl⟩:=dA _ _ k hk
  obtain ⟨_,_,e⟩:=hin _ (hback q (hrk q hq)).1
  exact ⟨_,e⟩
 ·cases hr' with
  | slNil o=>cases o <;> rfl
  | sl o=>cases o <;> rfl
  | _=>rfl
end Go.Ab

namespace Go.Ab
open Go Go.RowKit
variable {P:Program} {B:Base} {c:Cx} {s:St} {a:Act}
theorem xa (h:Rel B c s a) {f:FuncId} {ks:List Nat} (hn:ks.Nodup) {os os':List AO} (hos:ca s.objs ks=some os) (hcl:∀q∈bg s.objs ks,q∈ks)
  {l:List AV} {xs:List Value} (hl:cV B c s l xs) (hlk:∀q∈ak l,q∈ks) {r:AV}
  (hok:j8 P B.G f (ke (λk=>ae+idxOf ks k 0) l) (os.map (AO.ren λk=>ae+idxOf ks k 0)) r os') {ds:List Nat} (hnds:ds.Nodup) (hd:∀d∈ds,alook s.objs d=none) (hlen:os'.length=ks.length+ds.length) :
  Calls P f xs.toArray c.w λe w'=>∃c2 x,e=.returned x/\c2.w=w'/\Rel B c2 (s.with (bb s.objs (ks++ds) (os'.map (AO.ren λk=>ee (ks++ds) (k - ae))))) a /\
   Sees B c2 (s.with (bb s.objs (ks++ds) (os'.map (AO.ren λk=>ee (ks++ds) (k - ae))))) (r.ren λk=>ee (ks++ds) (k - ae)) x:=by
 obtain ⟨hol,hoo⟩:=eK hos
 let fwd:=λk=>ae+idxOf ks k 0
 let bwd:=λk=>ee ks (k - ae)
 have hfb:∀k∈ks,bwd (fwd k)=k:=λk hk=>by
  show ee ks (ae+idxOf ks k 0 - ae)=k
  rw [Nat.add_sub_cancel_left];exact b8 (bn 0 hk)
 have hbf:∀i k,ks[i]?=some k->bwd (ae+i)=k/\fwd k=ae+i:=λi k hk=>
  ⟨by show ee ks (ae+i - ae)=k;rw [Nat.add_sub_cancel_left];exact b8 hk,by show ae+idxOf ks k 0=_;rw [idx_eq hn hk]⟩
 let c0:Cx:={w:=c.w,I:=c.I,β:=λq=>c.β (bwd q),κ:=λq=>c.κ (bwd q),fr:=λq=>c.fr (bwd q)}
 have hβ0:∀k∈ks,c0.β (fwd k)=c.β k:=λk hk=>by show c.β (bwd (fwd k))=_;rw [hfb k hk]
 have hκ0:∀k∈ks,c0.κ (fwd k)=c.κ k:=λk hk=>by show c.κ (bwd (fwd k))=_;rw [hfb k hk]
 have hf0:∀k∈ks,c0.fr (fwd k)=c.fr k:=λk hk=>by show c.fr (bwd (fwd k))=_;rw [hfb k hk]
 have hown0:∀k∈ks,∀n y,aD c (.key k) n y->aD c0 (.key (fwd k)) n y:=λk hk n y=>by simp only [aD,hκ0 k hk,hf0 k hk];exact id
 have hfwd:∀k∈ks,c0.β (fwd k)=c.β k/\∀n y,aD c (.key k) n y->aD c0 (.key (fwd k)) n y:=λk hk=>⟨hβ0 k hk,hown0 k hk⟩
 have hlook:∀q o,alook (af (os.map (AO.ren fwd)) ae) q=some o->∃k o0,k∈ks/\q=fwd k/\alook s.objs k=some o0/\o=o0.ren fwd:=by
  intro q o hq
  rw [bx] at hq
  by_cases hb:ae<=q
  ·rw [if_pos hb,List.getElem?_map] at hq
   cases hi:os[q - ae]? with
   | none=>simp [hi] at hq
   | some o0=>
    simp [hi] at hq;subst hq
    have hlt:=(List.getElem?_eq_some_iff.1 hi).1
    have hk:ks[q - ae]?=some (ks[q - ae]'(by omega)):=List.getElem?_eq_getElem _
    refine ⟨_,o0,List.mem_of_getElem? hk,?_,by rw [(hoo _ _ hk).1,hi],rfl⟩
    rw [(hbf _ _ hk).2];omega
  ·rw [if_neg hb] at hq;simp at hq
 have hlook':∀k∈ks,∃o0,alook s.objs k=some o0/\alook (af (os.map (AO.ren fwd)) ae) (fwd k)=some (o0.ren fwd):=by
  intro k hk
  have hi:=bn 0 hk
  obtain ⟨h1,o0,h2⟩:=hoo _ _ hi
  refine ⟨o0,h2,?_⟩
  rw [bx,if_pos (Nat.le_add_right _ _)]
  show (os.map (AO.ren fwd))[ae+idxOf ks k 0 - ae]?=_
  rw [Nat.add_sub_cancel_left,List.getElem?_map,<-h1,h2];rfl
 have hO0:Objs c0 (af (os.map (AO.ren fwd)) ae):=by
  refine ⟨λq o hq=>?_,λq o q' o' b hq hq' hne hb=>?_,λq o hq r hr=>?_⟩
  ·obtain ⟨k,o0,hk,rfl,h1,rfl⟩:=hlook q o hq
   exact (h.objs.rep k o0 h1).ren rfl rfl (hβ0 k hk) (hκ0 k hk) (hf0 k hk) λq hq=>hfwd q (hcl q (cP hk h1 q hq))
  ·obtain ⟨k,o0,hk,rfl,h1,rfl⟩:=hlook q o hq
   obtain ⟨k',o0',hk',rfl,h1',rfl⟩:=hlook q' o' hq'
   rw [dD (hβ0 k hk) (hκ0 k hk)] at hb
   rw [dD (hβ0 k' hk') (hκ0 k' hk')]
   exact h.objs.apart k o0 k' o0' b h1 h1' (λe=>hne (by rw [e])) hb
  ·obtain ⟨k,o0,hk,rfl,h1,rfl⟩:=hlook q o hq
   obtain ⟨q',hq',rfl⟩:=AO.dA _ _ r hr
   obtain ⟨_,_,e⟩:=hlook' q' (hcl q' (cP hk h1 q' hq'))
   exact ⟨_,e⟩
 have hG0:Good B.G c0:=⟨h.good.there,λg cs hg=>(h.good.globs g cs hg).ext (ks:=λ_=>False) ⟨λ_ _ _ _ hv=>hv,λ_ _ hi=>hi,λ_ hk=>hk.elim,λ_ hk=>hk.elim,λ_ _ _ _ hv _=>hv⟩ (by simp [AV.keys])⟩
 have hcall:=hok
 have hfn:=hl.fn
 refine (hcall c0 xs.toArray hG0 hO0 (by rw [dH];exact hfn.1) (λi u hu=>?_) (λk hk=>?_)).mono ?_
 ·rw [ew] at hu
  cases hi:l[i]? with
  | none=>simp [hi] at hu
  | some u'=>simp [hi] at hu;subst hu;exact Rep.ren (c:=c) (c':=c0) (m:=fwd) (λ_ _ _ _ hv=>hv) (λ_ _ hi=>hi) (λ_ _ _ _ hv _=>hv) (hfn.2.1 i u' hi) λq hq=>hfwd q (hlk q (aH hi q hq))
 ·obtain ⟨q,hq,rfl⟩:=eH _ _ k hk
  obtain ⟨_,_,e⟩:=hlook' q (hlk q hq)
  exact ⟨_,e⟩
 rintro e w' ⟨c',x,he,hw',hG',hF',hO',hr',hrk,hmine⟩
 have hheld:∀b,held c0 (af (os.map (AO.ren fwd)) ae) b->∃k o,k∈ks/\alook s.objs k=some o/\excl c k o=some b:=by
  rintro b ⟨q,o,hq,hb⟩
  obtain ⟨k,o0,hk,rfl,h1,rfl⟩:=hlook q o hq
  exact ⟨k,o0,hk,h1,by rw [<-dD (hβ0 k hk) (hκ0 k hk)];exact hb⟩
 have hK:∀k∈ks,live (af (os.map (AO.ren fwd)) ae) (fwd k):=λk hk=>by obtain ⟨_,_,e⟩:=hlook' k hk;exact ⟨_,e⟩
 have hlow:∀b,b < B.c0.w.heap.size->¬ B.D b->b < c0.w.heap.size/\¬ held c0 (af (os.map (AO.ren fwd)) ae) b:=by
  intro b hb hd
  refine ⟨Nat.lt_of_lt_of_le hb h.frame.size,λhh=>?_⟩
  obtain ⟨k,o,_,h1,h2⟩:=hheld b hh
  rcases h.mine k o b h1 h2 with h3 | h3
  ·omega
  ·exact hd h3
 have hdk:∀d∈ds,d ∉ ks:=λd hdd hk=>by
  obtain ⟨_,o,e⟩:=hoo _ _ (bn 0 hk)
  rw [hd d hdd] at e;cases e
 let kt:=ks++ds
 have hnt:kt.Nodup:=List.nodup_append.2 ⟨hn,hnds,λx hx y hy=>λe=>hdk y hy (e ▸ hx)⟩
 let fwd2:=λk=>ae+idxOf kt k 0
 let bwd2:=λk=>ee kt (k - ae)
 have hfb2:∀k∈kt,bwd2 (fwd2 k)=k:=λk hk=>by
  show ee kt (ae+idxOf kt k 0 - ae)=k
  rw [Nat.add_sub_cancel_left];exact b8 (bn 0 hk)
 have hbf2:∀i k,kt[i]?=some k->bwd2 (ae+i)=k/\fwd2 k=ae+i:=λi k hk=>
  ⟨by show ee kt (ae+i - ae)=k;rw [Nat.add_sub_cancel_left];exact b8 hk,by show ae+idxOf kt k 0=_;rw [idx_eq hnt hk]⟩
 have hff:∀k∈ks,fwd2 k=fwd k:=λk hk=>by
  have h1:=bn 0 hk
  have h2:kt[idxOf ks k 0]?=some k:=by
   have:=(List.getElem?_eq_some_iff.1 h1).1
   show (ks++ds)[idxOf ks k 0]?=some k
   rw [List.getElem?_append_left this];exact h1
  show ae+idxOf kt k 0=ae+idxOf ks k 0
  rw [idx_eq hnt h2]
 have hkt:∀k,k∈kt->k ∉ ds->k∈ks:=λk hk hne=>by
  rcases List.mem_append.1 hk with h | h
  ·exact h
  ·exact absurd h hne
 have hlt2:kt.length=ks.length+ds.length:=by show (ks++ds).length=_;simp
 have hnd:∀k,k ∉ kt->k ∉ ds:=λk hk e=>hk (List.mem_append.2 (.inr e))
 have hnk:∀k,k ∉ kt->k ∉ ks:=λk hk h=>hk (List.mem_append.2 (.inl h))
 classical
 let c2:Cx:={w:=c'.w,I:=c'.I,β:=λq=>if q∈ds then c'.β (fwd2 q) else c.β q,κ:=λq=>if q∈kt then c'.κ (fwd2 q) else c.κ q,fr:=λq=>if q∈kt then c'.fr (fwd2 q) else c.fr q}
 have hκ2:∀k∈kt,c2.κ k=c'.κ (fwd2 k):=λk hk=>if_pos hk
 have hf2:∀k∈kt,c2.fr k=c'.fr (fwd2 k):=λk hk=>if_pos hk
 have hκn:∀k,k ∉ kt->c2.κ k=c.κ k:=λk hk=>if_neg hk
 have hfn2:∀k,k ∉ kt->c2.fr k=c.fr k:=λk hk=>if_neg hk
 have hβn:∀k,k ∉ ds->c2.β k=c.β k:=λk hk=>if_neg hk
 have hβ2:∀k∈kt,c2.β k=c'.β (fwd2 k):=λk hk=>by
  by_cases e:k∈ds
  ·exact if_pos e
  ·have hk':=hkt k hk e
   rw [hβn k e,hff k hk',hF'.ext.β (fwd k) (hK k hk')];exact (hβ0 k hk').symm
 have hown2:∀k∈kt,∀n y,aD c' (.key (fwd2 k)) n y->aD c2 (.key k) n y:=λk hk n y=>by simp only [aD,hκ2 k hk,hf2 k hk];exact id
 have hext:Ext c c2 (live s.objs):=by
  refine ⟨hF'.ext.cell,hF'.ext.I,λk hk=>hβn k (λe=>by obtain ⟨o,ho⟩:=hk;rw [hd k e] at ho;cases ho),λk hl n y hy=>?_,hF'.ext.map⟩
  by_cases hk:k∈kt
  ·have hk':=hkt k hk (λe=>by obtain ⟨o,ho⟩:=hl;rw [hd k e] at ho;cases ho)
   exact hown2 k hk n y (by rw [hff k hk'];exact hF'.ext.own (fwd k) (hK k hk') n y (hown0 k hk' n y hy))
  ·simp only [aD,hκn k hk,hfn2 k hk];exact hy
 have hgrow:Grow B c c2:=⟨hF'.os,hF'.output,hF'.tape,hF'.size,λb hb hd=>hF'.block b (hlow b hb hd).1 (hlow b hb hd).2,
  λb o hb hd hi=>hF'.new b o (hlow b hb hd).1 (hlow b hb hd).2 hi,hG'.there⟩
 have hput:∀k,alook (bb s.objs kt (os'.map (AO.ren bwd2))) k=if k∈kt then (os'.map (AO.ren bwd2))[idxOf kt k 0]? else alook s.objs k:=bw hnt (by simp [hlen,hlt2])
 have hin:∀k∈kt,∃o',alook (af os' ae) (fwd2 k)=some o'/\alook (bb s.objs kt (os'.map (AO.ren bwd2))) k=some (o'.ren bwd2):=by
  intro k hk
  have hi:=bn 0 hk
  have hlt:=(List.getElem?_eq_some_iff.1 hi).1
  have ho:os'[idxOf kt k 0]?=some (os'[idxOf kt k 0]'(by omega)):=List.getElem?_eq_getElem _
  refine ⟨os'[idxOf kt k 0]'(by omega),?_,?_⟩
  ·rw [bx,if_pos (Nat.le_add_right _ _)]
   show os'[ae+idxOf kt k 0 - ae]?=_
   rw [Nat.add_sub_cancel_left];exact ho
  ·rw [hput,if_pos hk,List.getElem?_map,ho];rfl
 have hback:∀q,live (af os' ae) q->bwd2 q∈kt/\fwd2 (bwd2 q)=q:=by
  rintro q ⟨o,hq⟩
  rw [bx] at hq
  by_cases hb:ae<=q
  ·rw [if_pos hb] at hq
   have hlt:=(List.getElem?_eq_some_iff.1 hq).1
   have hk:kt[q - ae]?=some (kt[q - ae]'(by omega)):=List.getElem?_eq_getElem _
   have:=hbf2 _ _ hk
   rw [Nat.add_sub_cancel' hb] at this
   rw [this.1]
   exact ⟨List.mem_of_getElem? hk,this.2⟩
  ·rw [if_neg hb] at hq;simp at hq
 have hbwd:∀q,live (af os' ae) q->c2.β (bwd2 q)=c'.β q/\∀n y,aD c' (.key q) n y->aD c2 (.key (bwd2 q)) n y:=by
  intro q hq
  obtain ⟨h1,h2⟩:=hback q hq
  refine ⟨by rw [hβ2 _ h1,h2],λn y hy=>hown2 _ h1 n y (by rw [h2];exact hy)⟩
 have hlive:∀k,live s.objs k->live (bb s.objs kt (os'.map (AO.ren bwd2))) k:=by
  rintro k ⟨o,ho⟩
  by_cases hk:k∈kt
  ·obtain ⟨_,_,e⟩:=hin k hk;exact ⟨_,e⟩
  ·exact ⟨o,by rw [hput,if_neg hk];exact ho⟩
 have hcases:∀k o,alook (bb s.objs kt (os'.map (AO.ren bwd2))) k=some o->(k∈kt/\∃o',alook (af os' ae) (fwd2 k)=some o'/\o=o'.ren bwd2/\excl c2 k o=excl c' (fwd2 k) o')∨(k ∉ kt/\alook s.objs k=some o/\excl c2 k o=excl c k o):=by
  intro k o ho
  by_cases hk:k∈kt
  ·obtain ⟨o',e1,e2⟩:=hin k hk
   rw [e2] at ho;cases ho
   exact .inl ⟨hk,o',e1,rfl,dD (hβ2 k hk) (hκ2 k hk)⟩
  ·rw [hput,if_neg hk] at ho
   exact .inr ⟨hk,ho,cT (hβn k (hnd k hk)) (hκn k hk)⟩
 have hout:∀k k' o' o b,k∈kt->alook (af os' ae) (fwd2 k)=some o'->k' ∉ kt->alook s.objs k'=some o->excl c' (fwd2 k) o'=some b->excl c k' o≠some b:=by
  intro k k' o' o b hk h1 hk' h2 hb hb'
  rcases hmine _ _ b h1 hb with h3 | h3
  ·have:=cf (h.objs.rep k' o h2) hb'
   have:c0.w.heap.size=c.w.heap.size:=rfl
   omega
  ·obtain ⟨k'',o'',h4,h5,h6⟩:=hheld b h3
   exact h.objs.apart k'' o'' k' o b h5 h2 (λe=>hnk _ hk' (e ▸ h4)) h6 hb'
 have hO2:Objs c2 (bb s.objs kt (os'.map (AO.ren bwd2))):=by
  refine ⟨λk o ho=>?_,λk o k' o' b ho ho' hne hb=>?_,λk o ho q hq=>?_⟩
  ·rcases hcases k o ho with ⟨hk,o',e1,rfl,_⟩ | ⟨hk,e1,_⟩
   ·exact (hO'.rep _ o' e1).ren rfl rfl (hβ2 k hk) (hκ2 k hk) (hf2 k hk) λq hq=>hbwd q (hO'.closed _ o' e1 q hq)
   ·refine h.objs.oT hext e1 (hβn k (hnd k hk)) (hκn k hk) (hfn2 k hk) λb hb=>?_
    have hlt:=cf (h.objs.rep k o e1) hb
    have hnh:¬ held c0 (af (os.map (AO.ren fwd)) ae) b:=λhh=>by
     obtain ⟨k'',o'',h4,h5,h6⟩:=hheld b hh
     exact h.objs.apart k'' o'' k o b h5 e1 (λe=>hnk _ hk (e ▸ h4)) h6 hb
    exact ⟨hF'.block b hlt hnh,λoff hi=>hF'.new b off hlt hnh hi⟩
  ·rcases hcases k o ho with ⟨hk,o1,e1,rfl,e2⟩ | ⟨hk,e1,e2⟩ <;> rcases hcases k' o' ho' with ⟨hk',o1',e1',rfl,e2'⟩ | ⟨hk',e1',e2'⟩
   ·rw [e2'] ;rw [e2] at hb
    exact hO'.apart _ _ _ _ b e1 e1' (λe=>hne (by rw [<-hfb2 k hk,e,hfb2 k' hk'])) hb
   ·rw [e2'];rw [e2] at hb
    exact hout k k' o1 o' b hk e1 hk' e1' hb
   ·rw [e2'];rw [e2] at hb
    exact λhb'=>hout k' k o1' o b hk' e1' hk e1 hb' hb
   ·rw [e2'];rw [e2] at hb
    exact h.objs.apart k o k' o' b e1 e1' hne hb
  ·rcases hcases k o ho with ⟨hk,o',e1,rfl,_⟩ | ⟨hk,e1,_⟩
   ·obtain ⟨q',hq',rfl⟩:=AO.dA _ _ q hq
    obtain ⟨_,_,e⟩:=hin _ (hback q' (hO'.closed _ o' e1 q' hq')).1
    exact ⟨_,e⟩
   ·exact hlive q (h.objs.closed k o e1 q hq)
 refine ⟨c2,x,he,hw',⟨h.good.grow hext hgrow,h.frame.grow hext hgrow h.kept,hO2,λt v hv=>(h.env t v hv).ext hext (h.closed t v hv),
  λt v hv k hk=>hlive k (h.closed t v hv k hk),λk o b ho hb=>?_,h.tmps,h.defers.ext hext,λk hk=>hlive k (h.kept k hk)⟩,⟨?_,?_,?_⟩⟩
 ·rcases hcases k o ho with ⟨hk,o',e1,rfl,e2⟩ | ⟨hk,e1,e2⟩
  ·rw [e2] at hb
   rcases hmine _ _ b e1 hb with h3 | h3
   ·exact .inl (Nat.le_trans h.frame.size h3)
   ·obtain ⟨k'',o'',h4,h5,h6⟩:=hheld b h3
    exact h.mine k'' o'' b h5 h6
  ·rw [e2] at hb;exact h.mine k o b e1 hb
 ·exact Rep.ren (c:=c') (c':=c2) (m:=bwd2) (λ_ _ _ _ hv=>hv) (λ_ _ hi=>hi) (λ_ _ _ _ hv _=>hv) hr' λq hq=>hbwd q (hrk q hq)
 ·intro k hk
  obtain ⟨q,hq,rfl⟩:=dA _ _ k hk
  obtain ⟨_,_,e⟩:=hin _ (hback q (hrk q hq)).1
  exact ⟨_,e⟩
 ·cases hr' with
  | slNil o=>cases o <;> rfl
  | sl o=>cases o <;> rfl
  | _=>rfl
end Go.Ab

namespace Go.Ab
open Go Go.RowKit
variable {P:Program} {B:Base} {c:Cx} {s:St} {a:Act}
def Cx.obj (c:Cx) (k:Nat) (ob:Obj):Cx:=
 {c with w:=c.w.alloc ob,β:=λq=>if q=k then c.w.heap.size else c.β q,fr:=λq=>if q=k then none else c.fr q}
theorem Cx.oZ {G:Nat->Option (List AV)} {c:Cx} (hg:Good G c) {objs:List (Nat×AO)} (ho:Objs c objs) {k:Nat} (hk:alook objs k=none) (ob:Obj):KeepsBut c (c.obj k ob) objs k:=by
 refine ⟨jZ hg rfl (λ_ _ h=>h) (λq hq=>by simp [Cx.obj,ft hk hq]) (λ_ _=>rfl) (λq hq=>by simp [Cx.obj,ft hk hq]),λq _ hne=>by simp [Cx.obj,hne],λ_ _ _=>rfl,λq _ hne=>by simp [Cx.obj,hne],λq o b hq _ hb=>?_⟩
 exact ⟨aA _ _ _ (cf (ho.rep q o hq) hb),λ_ h=>h⟩
theorem Cx.rH {B:Base} {c:Cx} (hg:Good B.G c) (hf:Frame B c) (k:Nat) (ob:Obj):Grow B c (c.obj k ob):=by
 refine ⟨rfl,rfl,rfl,by simp [Cx.obj],λb hb _=>aA _ _ _ (Nat.lt_of_lt_of_le hb hf.size),λb o hb _ hi=>hi,λb o hi=>?_⟩
 exact hg.block hi (aA c.w _ b (hg.lt hi))
theorem p7 (h:Rel B c s a) {k:Nat} (hk:s.obj k=none) {t:TypeId} (ht:P.underlying t=some .string) (b:List UInt8) :
  ∃x c',(Instr.range t (.string ⟨b.toArray⟩)).run P c.w=.ok x c'.w/\Rel B c' (s.setObj k (.iter b 0)) a/\Sees B c' (s.setObj k (.iter b 0)) (.ref k 0) x:=by
 refine ⟨.pointer (some ⟨c.w.heap.size,0,none⟩),c.obj k (.stringIter ⟨b.toArray⟩ 0),run_range_string c.w t _ ht,?_,?_⟩
 ·refine h.obj (Cx.oZ h.good h.objs hk _) (Cx.rH h.good h.frame k _) ⟨?_,λo hi=>?_,by simp [Cx.obj]⟩ (λq o' b' hq hne hb=>?_) (λr hr=>by simp [AO.keys] at hr) (λb' hb=>?_)
  ·simp only [Cx.obj,if_true];exact aP c.w _
  ·simp only [Cx.obj,if_true] at hi
   have:=h.good.lt hi
   omega
  ·simp only [excl,Cx.obj,if_true]
   have:=cf (h.objs.rep q o' hq) hb
   intro e
   have:=Option.some.inj e
   omega
  ·simp only [excl,Cx.obj,if_true] at hb
   have:=Option.some.inj hb
   have:=h.frame.size
   left;omega
 ·refine ⟨?_,λq hq=>?_,rfl⟩
  ·have:=Rep.ref (c:=c.obj k (.stringIter ⟨b.toArray⟩ 0)) k 0
   simpa [Cx.obj] using this
  ·simp [AV.keys] at hq;subst hq;exact aR
theorem v7 (w:World) (r:Nat) (b:ByteArray) (pos:Nat) (ty:TypeId) (hb:w.heap[r]?=some (.stringIter b pos)) :
  (Instr.next (.pointer (some ⟨r,0,none⟩)) true ty).run P w=if pos < b.size then .ok (.tuple #[.bool true,.int .i64 pos,.int .i32 (Utf8.decode b pos).1]) {w with heap:=w.heap.setIfInBounds r (.stringIter b (pos+(Utf8.decode b pos).2))} else .ok (.tuple #[.bool false]) w:=by
 by_cases h:pos < b.size
 ·simp [Instr.next,getObj,setObj,Sem.run_bind,Sem.run,hb,Result.andThen,h,goInt]
 ·simp [Instr.next,getObj,Sem.run,hb,h]
theorem sQ (h:Rel B c s a) {k:Nat} {b:List UInt8} {pos:Nat} (hk:s.obj k=some (.iter b pos)) {x:Value} (hx:Rep c (.ref k 0) x) (ty:TypeId) :
  ∃y c',(Instr.next x true ty).run P c.w=.ok y c'.w/\Rel B c' (s.setObj k (.iter b (cond (Nat.blt pos b.length) (iU b pos) pos))) a /\
   Sees B c' (s.setObj k (.iter b (cond (Nat.blt pos b.length) (iU b pos) pos))) (cond (Nat.blt pos b.length) (wj b pos) (.tup [.bool false])) y:=by
 cases hx
 obtain ⟨hh,hI,hfr⟩:=h.objs.rep k _ hk
 have hexcl:excl c k (.iter b pos)=some (c.β k):=rfl
 have hsz:(ByteArray.mk b.toArray).size=b.length:=by simp [ByteArray.size]
 have put:∀ (p:Nat) (w':World),Wrote c (c.β k) w'->w'.heap[c.β k]?=some (.stringIter ⟨b.toArray⟩ p)->Rel B (c.write w') (s.setObj k (.iter b p)) a:=by
  intro p w' hw hq
  refine h.obj (Cx.dG h.objs hk hexcl hI hw) (Cx.eh h.good hI hw (h.mine k _ _ hk hexcl)) ⟨hq,hI,hfr⟩ (λq o' b' hq hne hb=>?_) (λr hr=>by simp [AO.keys] at hr) (λb' hb=>h.mine k _ b' hk hb)
  intro e
  exact h.objs.apart q o' k _ b' hq hk hne hb e
 have hrun:=v7 (P:=P) c.w (c.β k) ⟨b.toArray⟩ pos ty hh
 rw [hsz] at hrun
 by_cases hp:pos < b.length
 ·rw [if_pos hp] at hrun
  have hb:Nat.blt pos b.length=true:=tA hp
  rw [hb]
  simp only [cond_true]
  refine ⟨_,c.write {c.w with heap:=c.w.heap.setIfInBounds (c.β k) (.stringIter ⟨b.toArray⟩ (iU b pos))},hrun,put _ _ ⟨rfl,rfl,rfl,by simp,λb' hne=>?_⟩ ?_,⟨?_,λq hq=>by simp [wj,AV.keys,ak] at hq,rfl⟩⟩
  ·simp only [Array.getElem?_setIfInBounds];rw [if_neg (λe=>hne e.symm)]
  ·simp [aJ hh]
  ·refine .tup _ _ rfl λi u hu=>?_
   match i with
   | 0=>simp at hu;subst hu;exact .bool _
   | 1=>simp at hu;subst hu;exact .int _ _
   | 2=>simp at hu;subst hu;exact .int _ _
   | i+3=>simp at hu
 ·rw [if_neg hp] at hrun
  have hb:Nat.blt pos b.length=false:=by
   cases e:Nat.blt pos b.length with
   | false=>rfl
   | true=>exact absurd (ltB e) hp
  rw [hb]
  simp only [cond_false]
  refine ⟨_,c.write c.w,hrun,put _ _ ⟨rfl,rfl,rfl,rfl,λ_ _=>rfl⟩ hh,⟨?_,λq hq=>by simp [AV.keys,ak] at hq,rfl⟩⟩
  refine .tup _ _ rfl λi u hu=>?_
  match i with
  | 0=>simp at hu;subst hu;exact .bool _
  | i+1=>simp at hu
end Go.Ab

namespace Go.Ab
open Go
section
variable {P:Program} (w:World)
def kC (l:List AV):List (List AV×Value)->Nat->Option (Nat×Value)
 | [],_=>none
 | (k,v)::r,i=>cond (cD l k) (some (i,v)) (kC l r (i+1))
theorem dR {t:TypeId} {ka:Bool} {ks:List KD} (h:tz P t=some (ka,ks)) {l:List AV} (h1:aG ks l=true):∀ (es:List MapEntry) (ms:List (List AV×Value)) (i:Nat),es.map (λe=>(e.key,e.val))=ms.map (λm=>(gM ka m.1,m.2))->(∀m∈ms,aG ks m.1=true)->
  (Instr.findAsking t (gM ka l) es i).run P w=.ok (kC l ms i) w
 | [],[],i,_,_=>by simp [Instr.findAsking,kC]
 | [],_::_,_,h,_=>by simp at h
 | _::_,[],_,h,_=>by simp at h
 | e::es,m::ms,i,he,hm=>by
  simp only [List.map_cons,List.cons.injEq,Prod.mk.injEq] at he
  have hq:=jE w h h1 (hm m (List.mem_cons_self ..))
  have ih:=dR h h1 es ms (i+1) he.2 λx hx=>hm x (List.mem_cons_of_mem _ hx)
  obtain ⟨k,v⟩:=m
  simp only [Instr.findAsking,Sem.run_bind,he.1.1,hq,Result.andThen_ok,kC]
  cases cD l k with
  | true=>simp [he.1.2]
  | false=>simpa using ih
theorem nq {t:TypeId} {k:KD} (h:nh P t=some k) {u:AV} (h1:k.fits u=true) {e:TypeDesc} (hu:P.underlying t=some e):∀ (es:List MapEntry) (ms:List (List AV×Value)) (i:Nat),es.map (λe=>(e.key,e.val))=ms.map (λm=>(gM false m.1,m.2))->(∀m∈ms,aG [k] m.1=true)->
  Instr.findNow e (j9 u) es i=some (kC [u] ms i)
 | [],[],i,_,_=>by simp [Instr.findNow,kC]
 | [],_::_,_,h,_=>by simp at h
 | _::_,[],_,h,_=>by simp at h
 | x::es,m::ms,i,he,hm=>by
  simp only [List.map_cons,List.cons.injEq,Prod.mk.injEq] at he
  have ih:=nq h h1 hu es ms (i+1) he.2 λx hx=>hm x (List.mem_cons_of_mem _ hx)
  obtain ⟨l,v⟩:=m
  have hm0:=hm (l,v) (List.mem_cons_self ..)
  match l,hm0,he with
  | [q],hm0,he=>
   simp only [aG,Bool.and_true] at hm0
   obtain ⟨e',he',hs⟩:=m0 h h1 hm0
   rw [hu] at he'
   obtain rfl:=Option.some.inj he'
   have hkey:x.key=j9 q:=he.1.1
   simp only [Instr.findNow,hkey,hs,kC,cD,Bool.and_true]
   cases eqC u q with
   | true=>simp [he.1.2]
   | false=>simpa using ih
  | [],hm0,_=>simp [aG] at hm0
  | _::_::_,hm0,_=>simp [aG] at hm0
theorem fo {t:TypeId} {ka:Bool} {ks:List KD} (h:tz P t=some (ka,ks)) {l:List AV} (h1:aG ks l=true) (es:List MapEntry) (ms:List (List AV×Value)) (he:es.map (λe=>(e.key,e.val))=ms.map (λm=>(gM ka m.1,m.2))) (hm:∀m∈ms,aG ks m.1=true) :
  (Instr.findKey t (gM ka l) es).run P w=.ok (kC l ms 0) w:=by
 have h0:=h
 unfold tz at h0
 split at h0
 ·rename_i fs hu
  rw [run_findKey_eq w (k:=t) (by rw [hu])]
  exact dR w h h1 es ms 0 he hm
 ·rename_i n e hu
  rw [run_findKey_eq w (k:=t) (by rw [hu])]
  exact dR w h h1 es ms 0 he hm
 ·obtain ⟨k,hk,h0⟩:=Option.map_eq_some_iff.1 h0
  simp only [Prod.mk.injEq] at h0
  obtain ⟨rfl,rfl⟩:=h0
  match l,h1 with
  | [u],h1=>
   simp only [aG,Bool.and_true] at h1
   obtain ⟨e,hu,_⟩:=m0 hk h1 h1
   exact MapKept.run_findKey (P:=P) (w:=w) hu (nq hk h1 hu es ms 0 he hm)
  | [],h1=>simp [aG] at h1
  | _::_::_,h1=>simp [aG] at h1
theorem eN {t:TypeId} {ka:Bool} {ks:List KD} (h:tz P t=some (ka,ks)) {l:List AV} (h1:aG ks l=true) (em:Bool) (n:Nat):(Instr.checkKey em (n+2) t (gM ka l)).run P w=.ok () w:=by
 have hsc:∀ {t:TypeId} {k:KD} (hk:nh P t=some k) {u:AV} (hu:k.fits u=true),(Instr.checkKey em (n+1) t (j9 u)).run P w=.ok () w:=by
  intro t k hk u hu
  unfold nh at hk
  cases ht:P.underlying t with
  | none=>simp [ht] at hk
  | some e=>
   cases e <;> simp [ht] at hk
   all_goals simp [Instr.checkKey,run_underlying ht]
 have hsc2:∀ {t:TypeId} {k:KD} (hk:nh P t=some k) {u:AV} (hu:k.fits u=true),(Instr.checkKey em (n+2) t (j9 u)).run P w=.ok () w:=by
  intro t k hk u hu
  unfold nh at hk
  cases ht:P.underlying t with
  | none=>simp [ht] at hk
  | some e=>
   cases e <;> simp [ht] at hk
   all_goals simp [Instr.checkKey,run_underlying ht]
 have h0:=h
 unfold tz at h0
 split at h0
 ·rename_i fs hu
  obtain ⟨_,h0⟩:(!P.stoodInHeld t)=true/\(dU P 0 fs.toList).map (λl=>(true,l))=some (ka,ks):=by
   cases hb:(!P.stoodInHeld t) with
   | false=>rw [hb] at h0;simp [aj] at h0
   | true=>rw [hb] at h0;exact ⟨rfl,by simpa [aj] using h0⟩
  obtain ⟨r,hr,h0⟩:=Option.map_eq_some_iff.1 h0
  simp only [Prod.mk.injEq] at h0
  obtain ⟨rfl,rfl⟩:=h0
  show (Instr.checkKey em (n+1+1) t (.agg (dd l))).run P w=_
  unfold Instr.checkKey
  simp only [Sem.run_bind,run_underlying hu,Result.andThen_ok]
  rw [<-Array.forIn_toList]
  have key:∀ (fs:List Field) (i:Nat) (ks:List KD) (pre l:List AV),dU P i fs=some ks->aG ks l=true->pre.length=i->
    (forIn fs PUnit.unit λf (_:PUnit)=>(if f.name≠"_" then do Instr.checkKey em (n+1) f.type (<-part f.type (dd (pre++l)) f.offset);pure (ForInStep.yield PUnit.unit) else pure (ForInStep.yield PUnit.unit):Sem (ForInStep PUnit))).run P w=.ok PUnit.unit w:=by
   intro fs
   induction fs with
   | nil=>intros;simp
   | cons f fs ih=>
    intro i ks pre l h h1 e1
    simp only [dU] at h
    cases hb:(f.name !="_"&&Nat.beq f.offset i) with
    | false=>simp [hb,aj] at h
    | true=>
     rw [hb] at h
     simp only [aj,cond_true] at h
     simp only [Bool.and_eq_true,bne_iff_ne,ne_eq] at hb
     have ho:f.offset=i:=Nat.eq_of_beq_eq_true hb.2
     cases hk:nh P f.type with
     | none=>simp [hk] at h
     | some k=>
      simp only [hk,Option.bind_some,Option.map_eq_some_iff] at h
      obtain ⟨r,hr,rfl⟩:=h
      cases l with
      | nil=>simp [aG] at h1
      | cons u l=>
       simp only [aG,Bool.and_eq_true] at h1
       have g1:(dd (pre++u::l))[f.offset]?=some (j9 u):=fO (by rw [ho,List.getElem?_append_right (by omega)];simp [e1])
       have ih:=ih (i+1) r (pre++[u]) l hr h1.2 (by simp [e1])
       simp only [List.append_assoc,List.singleton_append] at ih
       simp only [List.forIn_cons,hb.1,not_false_eq_true,ne_eq,if_true,Sem.run_bind,ej w hk g1,Result.andThen_ok,hsc hk h1.1,Sem.run_pure]
       exact ih
  have:=key fs.toList 0 r [] l hr h1 rfl
  simp at this ⊢
  rw [this];rfl
 ·rename_i m e hu
  cases hk:nh P e with
  | none=>simp [hk] at h0
  | some k=>
   simp only [hk,Option.bind_some] at h0
   cases hb:(az P e==some 1) with
   | false=>rw [hb] at h0;simp [aj] at h0
   | true=>
    rw [hb] at h0
    simp only [aj,cond_true,Option.some.injEq,Prod.mk.injEq] at h0
    obtain ⟨rfl,rfl⟩:=h0
    have hb:(P.info? e).map (·.size)=some 1:=by simpa [az] using hb
    obtain ⟨i,hi,hs⟩:=Option.map_eq_some_iff.1 hb
    show (Instr.checkKey em (n+1+1) t (.agg (dd l))).run P w=_
    unfold Instr.checkKey
    simp only [Sem.run_bind,run_underlying hu,Result.andThen_ok]
    simp only [Std.Legacy.Range.forIn_eq_forIn_range',Std.Legacy.Range.size,Nat.sub_zero,Nat.add_one_sub_one,Nat.div_one]
    have hc:P.cellsOf e=1:=by simp [Program.cellsOf,hi,hs]
    have key:∀ (m i:Nat) (pre l:List AV),aG (List.replicate m k) l=true->pre.length=i->
      (forIn (List.range' i m) PUnit.unit λj (_:PUnit)=>(do Instr.checkKey em (n+1) e (<-part e (dd (pre++l)) (j*(<-sizeOf e)));pure (ForInStep.yield PUnit.unit):Sem (ForInStep PUnit))).run P w=.ok PUnit.unit w:=by
     intro m
     induction m with
     | zero=>intros;simp
     | succ m ih=>
      intro i pre l h1 e1
      rw [List.replicate_succ] at h1
      cases l with
      | nil=>simp [aG] at h1
      | cons u l=>
       simp only [aG,Bool.and_eq_true] at h1
       have g1:(dd (pre++u::l))[i*1]?=some (j9 u):=fO (by rw [Nat.mul_one,List.getElem?_append_right (by omega)];simp [e1])
       have ih:=ih (i+1) (pre++[u]) l h1.2 (by simp [e1])
       simp only [List.append_assoc,List.singleton_append] at ih
       simp only [List.range'_succ,List.forIn_cons,Sem.run_bind,Go.run_sizeOf w hi,hc,Result.andThen_ok,ej w hk g1,hsc hk h1.1,Sem.run_pure]
       simpa [Go.run_sizeOf w hi,hc] using ih
    have:=key m 0 [] l h1 rfl
    simp at this ⊢
    rw [this];rfl
 ·obtain ⟨k,hk,h0⟩:=Option.map_eq_some_iff.1 h0
  simp only [Prod.mk.injEq] at h0
  obtain ⟨rfl,rfl⟩:=h0
  match l,h1 with
  | [u],h1=>
   simp only [aG,Bool.and_true] at h1
   exact hsc2 hk h1
  | [],h1=>simp [aG] at h1
  | _::_::_,h1=>simp [aG] at h1
end
end Go.Ab

namespace Go.Ab
open Go
variable {P:Program} {B:Base} {c:Cx} {s:St} {a:Act}
theorem Ar {k:KD} {u v:AV} (hu:k.fits u=true) (hv:k.fits v=true):eqC u v=true↔u=v:=by
 cases k <;> cases u <;> simp [KD.fits] at hu <;> cases v <;> simp [KD.fits] at hv
 ·simp [eqC]
 ·subst hu;subst hv;simp [eqC]
 ·simp [eqC]
theorem il:∀ {ks:List KD} {l m:List AV},aG ks l=true->aG ks m=true->(cD l m=true↔l=m)
 | [],l,m,h1,h2=>by
  cases l <;> simp [aG] at h1
  cases m <;> simp [aG] at h2
  simp [cD]
 | k::ks,l,m,h1,h2=>by
  cases l with
  | nil=>simp [aG] at h1
  | cons u l=>
   cases m with
   | nil=>simp [aG] at h2
   | cons v m=>
    simp only [aG,Bool.and_eq_true] at h1 h2
    simp only [cD,Bool.and_eq_true,Ar h1.1 h2.1,il h1.2 h2.2,List.cons.injEq]
theorem yc {k q:KD} (h:Cw k q=true):k=q:=by
 cases k <;> cases q <;> simp [Cw] at h
 ·rfl
 ·rw [h]
 ·rfl
theorem rO:∀ {l m:List KD},sT l m=true->l=m
 | [],[],_=>rfl
 | k::l,q::m,h=>by
  simp only [sT,Bool.and_eq_true] at h
  rw [yc h.1,rO h.2]
 | [],_::_,h=>by simp [sT] at h
 | _::_,[],h=>by simp [sT] at h
theorem lj {get:Nat->List AV}:∀ {n i:Nat},(∀j,j < i+n->(get j).length=1)->(eB get i n).length=n/\∀q u,(eB get i n)[q]?=some u->q < n/\(get (i+q))[0]?=some u
 | 0,i,_=>⟨rfl,λq u h=>by simp [eB] at h⟩
 | n+1,i,h=>by
  obtain ⟨h1,h2⟩:=lj (get:=get) (n:=n) (i:=i+1) λj hj=>h j (by omega)
  have h0:=h i (by omega)
  match hg:get i,h0 with
  | [v],_=>
   refine ⟨by simp [eB,hg,h1],λq u hu=>?_⟩
   simp only [eB,hg,List.singleton_append] at hu
   cases q with
   | zero=>simp at hu;subst hu;exact ⟨by omega,by simp [hg]⟩
   | succ q=>
    obtain ⟨e1,e2⟩:=h2 q u (by simpa using hu)
    exact ⟨by omega,by rw [show i+(q+1)=i+1+q by omega];exact e2⟩
  | [],h0=>simp at h0
  | _::_::_,h0=>simp at h0
theorem qu {ka:Bool} {ks:List KD} {u:AV} {x:Value} (hr:Rep c u x) (ha:(a8 u).1=ka) (hk:aG ks (a8 u).2=true):x=gM ka (a8 u).2:=by
 have one:∀ {u:AV},Rep c u x->(∀v:AV,a8 u=(false,[u]))->aG ks (a8 u).2=true->x=gM false [u]:=by
  intro u hr he hk
  rw [he u] at hk
  match ks,hk with
  | [k],hk=>
   simp only [aG,Bool.and_true] at hk
   exact rZ hk hr
  | [],hk=>simp [aG] at hk
  | _::_::_,hk=>simp [aG] at hk
 subst ha
 cases u with
 | agg cs=>
  exact qV hk hr
 | arr sz n get=>
  match sz with
  | 1=>
   cases hr with
   | arr _ _ _ vs h1 h2 h3 h4=>
    obtain ⟨g1,g2⟩:=lj (get:=get) (n:=n) (i:=0) λj hj=>(h2 j (by omega)).1
    have hk:aG ks (eB get 0 n)=true:=hk
    have:=kB (c:=c) (vs:=vs.toList) hk (by show vs.toList.length=(eB get 0 n).length;rw [g1];simpa using h1) λi u hu=>by
     obtain ⟨e1,e2⟩:=g2 i u hu
     rw [Nat.zero_add] at e2
     have:=h4 i 0 u e1 e2
     simpa [Array.getD_eq_getD_getElem?,List.getD_eq_getElem?_getD] using this
    show Value.agg vs=.agg (dd (eB get 0 n))
    congr 1
    apply Array.ext'
    simpa [dd] using this
  | 0=>exact one hr (λ_=>rfl) hk
  | m+2=>exact one hr (λ_=>rfl) hk
 | bool b=>exact one hr (λ_=>rfl) hk
 | int k n=>exact one hr (λ_=>rfl) hk
 | str s=>exact one hr (λ_=>rfl) hk
 | nilp=>exact one hr (λ_=>rfl) hk
 | nilf=>exact one hr (λ_=>rfl) hk
 | nilm=>exact one hr (λ_=>rfl) hk
 | nili=>exact one hr (λ_=>rfl) hk
 | nni=>exact one hr (λ_=>rfl) hk
 | num k=>exact one hr (λ_=>rfl) hk
 | undef=>exact one hr (λ_=>rfl) hk
 | raw=>exact one hr (λ_=>rfl) hk
 | sl o sz n get=>exact one hr (λ_=>rfl) hk
 | tup vs=>exact one hr (λ_=>rfl) hk
 | ref k off=>exact one hr (λ_=>rfl) hk
 | aref k sz i off=>exact one hr (λ_=>rfl) hk
 | elt cs off=>exact one hr (λ_=>rfl) hk
 | msl k sz off len=>exact one hr (λ_=>rfl) hk
 | gsl k sz n=>exact one hr (λ_=>rfl) hk
 | gref k sz n i off=>exact one hr (λ_=>rfl) hk
 | gsub k sz n lo len=>exact one hr (λ_=>rfl) hk
 | mref k=>exact one hr (λ_=>rfl) hk
 | fms g=>exact one hr (λ_=>rfl) hk
 | fn f a b=>exact one hr (λ_=>rfl) hk
 | grd t w v=>exact one hr (λ_=>rfl) hk
theorem kA {kt:TypeId} {ka:Bool} {ks:List KD} {u:AV} (h:ib P kt ka ks u=true):tz P kt=some (ka,ks)/\(a8 u).1=ka/\aG ks (a8 u).2=true:=by
 unfold ib at h
 split at h
 ·rename_i b l hk
  simp only [Bool.and_eq_true,beq_iff_eq] at h
  obtain ⟨rfl,h1,h2,h3⟩:=h
  have:=rO h1
  subst this
  exact ⟨hk,h2,h3⟩
 ·cases h
theorem iP {ks:List KD} {l:List AV} (hl:aG ks l=true):∀ (ms:List (List AV×Value)) (i:Nat),(∀m∈ms,aG ks m.1=true)->
  (kC l ms i=none/\∀m∈ms,m.1≠l)∨∃j v,kC l ms i=some (i+j,v)/\ms[j]?=some (l,v)/\∀q m,q < j->ms[q]?=some m->m.1≠l
 | [],i,_=>.inl ⟨rfl,by simp⟩
 | (k,v)::ms,i,h=>by
  have hk:=h _ (List.mem_cons_self ..)
  have he:=il hl hk
  cases hb:cD l k with
  | true=>
   have:=he.1 hb
   subst this
   exact .inr ⟨0,v,by simp [kC,hb],rfl,λq m hq=>by omega⟩
  | false=>
   have hne:k≠l:=λe=>by have:=he.2 e.symm;rw [hb] at this;cases this
   rcases iP hl ms (i+1) λm hm=>h m (List.mem_cons_of_mem _ hm) with ⟨h1,h2⟩ | ⟨j,w,h1,h2,h3⟩
   ·exact .inl ⟨by simp [kC,hb,h1],λm hm=>by
     rcases List.mem_cons.1 hm with rfl | hm
     ·exact hne
     ·exact h2 m hm⟩
   ·refine .inr ⟨j+1,w,by simp [kC,hb,h1];omega,by simpa using h2,λq m hq hm=>?_⟩
    cases q with
    | zero=>simp at hm;subst hm;exact hne
    | succ q=>exact h3 q m (by omega) (by simpa using hm)
theorem tB {t:TypeId} {z:AV} (h:sr P t=some z) (w:World):∃v,(zeroValue t).run P w=.ok v w/\ofValue v=some z:=by
 unfold sr at h
 obtain ⟨v,h1,h2⟩:=Option.bind_eq_some_iff.1 h
 obtain ⟨i,h3,h4⟩:=Option.bind_eq_some_iff.1 h1
 exact ⟨v,by simp [zeroValue,typeInfo,h3,h4],h2⟩
theorem uM {t kt et:TypeId} {i z:AV} {I:Value} {ok:Bool} {bl:Nat} {ka:Bool} {ks:List KD} {dom:List AV->Bool} {get:List AV->AV} (hm:MapAt c bl ka ks dom get) (hu:P.underlying t=some (.map kt et)) (hz:sr P et=some z) (hf:ib P kt ka ks i=true) (hi:Sees B c s i I) :
  ∃V,(Instr.lookup t (.map (some bl)) I ok).run P c.w=.ok V c.w/\Sees B c s (cond (dom (a8 i).2) (mT ok true (get (a8 i).2)) (mT ok false z)) V:=by
 obtain ⟨hk,ha,hfit⟩:=kA hf
 have hI:=qu hi.rep ha hfit
 obtain ⟨⟨es,clock,ms,hh,h1,h2,h3,h4⟩,hp⟩:=hm
 obtain ⟨zv,hzr,hzo⟩:=tB hz c.w
 have hget:=MapKept.run_getObj_map (P:=P) hh
 have hchk:∀em,(Instr.checkKey em 10000 kt (gM ka (a8 i).2)).run P c.w=.ok () c.w:=λem=>eN c.w hk hfit em 9998
 have hfind:=fo (P:=P) c.w hk hfit es.toList ms h1 λm hm=>(h2 m hm).1
 have hzs:Sees B c s z zv:=by
  unfold ofValue at hzo
  split at hzo
  ·rename_i cs
   obtain ⟨us,hus,rfl⟩:=Option.map_eq_some_iff.1 hzo
   obtain ⟨e1,e2,e3⟩:=gv (c:=c) hus
   exact ⟨.agg _ _ (by simpa using e1.symm) (λj u hu=>(e3 j u hu).1) λj u hu=>by simpa [Array.getD_eq_getD_getElem?,List.getD_eq_getElem?_getD] using (e3 j u hu).2,by simp [AV.keys,e2],rfl⟩
  ·obtain ⟨e1,e2,e3,_⟩:=fT (c:=c) hzo
   exact ⟨e1,by simp [e2],e3⟩
 have hV:∀ (b:Bool) (v:AV) (y:Value),Sees B c s v y->Sees B c s (mT ok b v) (if ok=true then .tuple #[y,.bool b] else y):=by
  intro b v y hs
  cases ok with
  | false=>exact hs
  | true=>
   refine ⟨.tup _ _ rfl λj u hu=>?_,λq hq=>hs.live q (by simpa [mT,AV.keys,ak] using hq),rfl⟩
   match j with
   | 0=>simp at hu;subst hu;exact hs.rep
   | 1=>simp at hu;subst hu;exact .bool _
   | j+2=>simp at hu
 rcases iP hfit ms 0 λm hm=>(h2 m hm).1 with ⟨f1,f2⟩ | ⟨j,v,f1,f2,f3⟩
 ·have hd:dom (a8 i).2=false:=by
   cases hd:dom (a8 i).2 with
   | false=>rfl
   | true=>obtain ⟨m,hm,e⟩:=h3 _ hfit hd;exact absurd e (f2 m hm)
  rw [f1] at hfind
  simp only [hd,cond_false]
  refine ⟨_,?_,hV false z zv hzs⟩
  rw [hI]
  simp only [Instr.lookup,Sem.run_bind,run_underlying hu,Result.andThen_ok,hget,Sem.run_pure,hchk,hfind,hzr]
 ·have hm:=List.mem_of_getElem? f2
  obtain ⟨_,hd,hrep⟩:=h2 _ hm
  rw [f1] at hfind
  simp only at hd hrep
  simp only [hd,cond_true]
  have hkn:=hp _ hfit hd
  refine ⟨_,?_,hV true (get (a8 i).2) v ⟨hrep,by simp [hkn],hrep.plain⟩⟩
  rw [hI]
  simp only [Instr.lookup,Sem.run_bind,run_underlying hu,Result.andThen_ok,hget,Sem.run_pure,hchk,hfind]
theorem Aj {g:List UInt8->Option (List UInt8)} {bl:Nat} {es:Array MapEntry} {clock:Nat} {ms:List (List UInt8×List UInt8)} (hh:c.w.heap[bl]?=some (.map es clock))
  (h1:es.toList.map (λe=>(e.key,e.val))=ms.map (λm=>(.string ⟨m.1.toArray⟩,.string ⟨m.2.toArray⟩))) (h2:∀m∈ms,g m.1=some m.2) (h3:∀s v,g s=some v->(s,v)∈ms) (h4:(ms.map (·.1)).Nodup):MapAt c bl false [.str] (fmD g) (fmG g):=by
 refine ⟨⟨es,clock,ms.map (λm=>([.str m.1],.string ⟨m.2.toArray⟩)),hh,?_,?_,?_,?_⟩,?_⟩
 ·rw [h1,List.map_map];rfl
 ·intro m hm
  obtain ⟨q,hq,rfl⟩:=List.mem_map.1 hm
  refine ⟨rfl,?_,?_⟩
  ·show (g q.1).isSome=true
   rw [h2 q hq];rfl
  ·show Rep c (.str ((g q.1).getD [])) _
   rw [h2 q hq];exact .str _
 ·intro l hl hd
  match l,hd with
  | [.str s],hd=>
   have hd:(g s).isSome=true:=hd
   obtain ⟨v,hv⟩:=Option.isSome_iff_exists.1 hd
   exact ⟨_,List.mem_map.2 ⟨_,h3 s v hv,rfl⟩,rfl⟩
 ·rw [List.map_map]
  have:(ms.map λm=>[AV.str m.1]).Nodup:=by
   unfold List.Nodup at h4 ⊢
   rw [List.pairwise_map] at h4 ⊢
   exact h4.imp λh e=>h (by injection e with e _;injection e)
  exact this
 ·intro l hl hd
  match l,hd with
  | [.str s],_=>rfl
theorem qn (h:Rel B c s a) {t:TypeId} {x i:AV} {X I:Value} {ok:Bool} {r:Bool×AV×AV} (hx:Sees B c s x X) (hi:Sees B c s i I) (he:mU P s t x i=some r) :
  ∃V,(Instr.lookup t X I ok).run P c.w=.ok V c.w/\Sees B c s (cond r.1 (mT ok true r.2.1) (mT ok false r.2.2)) V:=by
 unfold mU at he
 split at he
 ·rename_i kt et k hu
  obtain ⟨z,hz,he⟩:=Option.bind_eq_some_iff.1 he
  split at he
  ·rename_i ka ks dom get ho
   cases hf:ib P kt ka ks i with
   | false=>simp [aj,hf] at he
   | true=>
    simp only [aj,hf,cond_true,Option.some.injEq] at he
    subst he
    have hr:=hx.rep
    cases hr
    exact uM (h.objs.rep k _ ho).1 hu hz hf hi
  ·cases he
 ·rename_i kt et g hu
  obtain ⟨z,hz,he⟩:=Option.bind_eq_some_iff.1 he
  cases hf:ib P kt false [.str] i with
  | false=>simp [aj,hf] at he
  | true=>
   simp only [aj,hf,cond_true,Option.some.injEq] at he
   subst he
   have hr:=hx.rep
   cases hr with
   | fms _ bl es clock ms h1 h2 h3 h4 h5 h6=>exact uM (Aj h2 h3 h4 h5 h6) hu hz hf hi
 ·cases he
theorem nM (h:Rel B c s a) {d:Nat} (hd:s.obj d=none) (t:TypeId) (ka:Bool) (ks:List KD) (get:List AV->AV) :
  ∃x c',(Instr.makeMap t none).run P c.w=.ok x c'.w/\Rel B c' (s.setObj d (.mp ka ks (λ_=>false) get)) a/\Sees B c' (s.setObj d (.mp ka ks (λ_=>false) get)) (.mref d) x:=by
 refine ⟨.map (some c.w.heap.size),c.obj d (.map #[] 0),?_,?_,?_⟩
 ·simp only [Instr.makeMap,Sem.run_bind,Sem.run_pure,Result.andThen_ok]
  have:(newObj (.map #[] 0)).run P c.w=.ok c.w.heap.size (c.w.alloc (.map #[] 0)):=rfl
  rw [this];rfl
 ·refine h.obj (Cx.oZ h.good h.objs hd _) (Cx.rH h.good h.frame d _) ⟨⟨⟨#[],0,[],?_,rfl,by simp,by simp,by simp⟩,by simp⟩,λo hi=>?_,by simp [Cx.obj]⟩ (λq o' b' hq hne hb=>?_) (λr hr=>by simp [AO.keys] at hr) (λb' hb=>?_)
  ·simp only [Cx.obj,if_true];exact aP c.w _
  ·simp only [Cx.obj,if_true] at hi
   have:=h.good.lt hi
   omega
  ·simp only [excl,Cx.obj,if_true]
   have:=cf (h.objs.rep q o' hq) hb
   intro e
   have:=Option.some.inj e
   omega
  ·simp only [excl,Cx.obj,if_true] at hb
   have:=Option.some.inj hb
   have:=h.frame.size
   left;omega
 ·refine ⟨?_,λq hq=>?_,rfl⟩
  ·have:=Rep.mref (c:=c.obj d (.map #[] 0)) d
   simpa [Cx.obj] using this
  ·simp [AV.keys] at hq;subst hq;exact aR
theorem ov (n:Nat) {k:KD} {u:AV} (h:k.fits u=true):Instr.sameBits n (j9 u) (j9 u)=true:=by
 cases k <;> cases u <;> simp [KD.fits] at h <;> cases n <;> simp [j9,Instr.sameBits,beq_toListBytes]
theorem uV {ka:Bool} {ks:List KD} {l:List AV} (h:aG ks l=true) (ha:ka=false->∃u,l=[u]):Instr.sameBits 10000 (gM ka l) (gM ka l)=true:=by
 cases ka with
 | false=>
  obtain ⟨u,rfl⟩:=ha rfl
  match ks,h with
  | [k],h=>
   simp only [aG,Bool.and_true] at h
   exact ov _ h
  | [],h=>simp [aG] at h
  | _::_::_,h=>simp [aG] at h
 | true=>
  show Instr.sameBits (9999+1) (.agg (dd l)) (.agg (dd l))=true
  simp only [Instr.sameBits,beq_self_eq_true,Bool.true_and]
  have:∀ {ks:List KD} {l:List AV},aG ks l=true->((l.map j9).zip (l.map j9)).all (λ(x,y)=>Instr.sameBits 9999 x y)=true:=by
   intro ks
   induction ks with
   | nil=>intro l h;cases l <;> simp [aG] at h;rfl
   | cons k ks ih=>
    intro l h
    cases l with
    | nil=>simp [aG] at h
    | cons u l=>
     simp only [aG,Bool.and_eq_true] at h
     simp only [List.map_cons,List.zip_cons_cons,List.all_cons,Bool.and_eq_true]
     exact ⟨ov _ h.1,ih h.2⟩
  simpa [dd] using this h
theorem jK (h:Rel B c s a) {t:TypeId} {x i v:AV} {X I V:Value} {k:Nat} {ob:AO} (hx:Sees B c s x X) (hi:Sees B c s i I) (hv:Sees B c s v V) (he:gx P s t x i v=some (k,ob)) :
  ∃c',(Instr.mapUpdate t X I V).run P c.w=.ok () c'.w/\Rel B c' (s.setObj k ob) a:=by
 unfold gx at he
 split at he
 ·rename_i kt et k' hu
  split at he
  ·rename_i ka ks dom get ho
   simp only [aj] at he
   cases hf:(ib P kt ka ks i&&isNil v.shed.keys) with
   | false=>rw [hf] at he;cases he
   | true=>
    rw [hf] at he
    simp only [cond_true,Option.some.injEq,Prod.mk.injEq] at he
    obtain ⟨rfl,rfl⟩:=he
    simp only [Bool.and_eq_true] at hf
    obtain ⟨hk,ha,hfit⟩:=kA hf.1
    have hvk:v.shed.keys=[]:=by cases hq:v.shed.keys with | nil=>rfl | cons=>simp [hq,isNil] at hf
    have hI:=qu hi.rep ha hfit
    obtain ⟨⟨⟨es,clock,ms,hh,h1,h2,h3,h4⟩,hp⟩,hfree,hfr⟩:=h.objs.rep k' _ ho
    have hr:=hx.rep
    cases hr
    have hrv:Rep c v.shed V:=hv.rep.shed
    have hget:=MapKept.run_getObj_map (P:=P) hh
    have hset:=λo=>MapKept.run_setObj_map (P:=P) (w:=c.w) (r:=c.β k') o hh
    have hchk:(Instr.checkKey false 10000 kt (gM ka (a8 i).2)).run P c.w=.ok () c.w:=eN c.w hk hfit false 9998
    have hfind:=fo (P:=P) c.w hk hfit es.toList ms h1 λm hm=>(h2 m hm).1
    generalize hl:(a8 i).2=l at *
    have hsc:ka=false->∃u,l=[u]:=λe=>by
     rw [e] at ha
     unfold tz at hk
     split at hk
     ·rename_i fs _
      cases hb:(!P.stoodInHeld kt) <;> simp [hb,aj,e] at hk
     ·rename_i n q _
      cases hq:nh P q with
      | none=>simp [hq] at hk
      | some w=>cases hb:(az P q==some 1) <;> simp [hq,hb,aj,e] at hk
     ·obtain ⟨w,hw,hk⟩:=Option.map_eq_some_iff.1 hk
      simp only [Prod.mk.injEq] at hk
      obtain ⟨_,rfl⟩:=hk
      match l,hfit with
      | [u],_=>exact ⟨u,rfl⟩
      | [],hfit=>simp [aG] at hfit
      | _::_::_,hfit=>simp [aG] at hfit
    have hexcl:excl c k' (.mp ka ks dom get)=some (c.β k'):=rfl
    have put:∀ (es':Array MapEntry) (clock':Nat) (ms':List (List AV×Value)),es'.toList.map (λe=>(e.key,e.val))=ms'.map (λm=>(gM ka m.1,m.2))->
      (∀m∈ms',aG ks m.1=true/\((m.1=l/\m.2=V)∨(m.1≠l/\m∈ms)))->(∀m∈ms,m.1≠l->m∈ms')->(∃m∈ms',m.1=l)->(ms'.map (·.1)).Nodup->
      Rel B (c.write {c.w with heap:=c.w.heap.setIfInBounds (c.β k') (.map es' clock')}) (s.setObj k' (.mp ka ks (λq=>cond (cD q l) true (dom q)) λq=>cond (cD q l) v.shed (get q))) a:=by
     intro es' clock' ms' g1 g2 g3 g4 g5
     have hw:Wrote c (c.β k') {c.w with heap:=c.w.heap.setIfInBounds (c.β k') (.map es' clock')}:=⟨rfl,rfl,rfl,by simp,λb' hne=>by
      simp only [Array.getElem?_setIfInBounds];rw [if_neg (λe=>hne e.symm)]⟩
     have hkb:=Cx.dG h.objs ho hexcl hfree hw
     have hext:Ext c (c.write {c.w with heap:=c.w.heap.setIfInBounds (c.β k') (.map es' clock')}) (live s.objs):=hkb.ext
     refine h.obj hkb (Cx.eh h.good hfree hw (h.mine k' _ _ ho hexcl)) ⟨⟨⟨es',clock',ms',by show _=_;simp [Cx.write,aJ hh],g1,λm hm=>?_,λq hq hd=>?_,g5⟩,λq hq hd=>?_⟩,hfree,hfr⟩ (λq o' b' hq hne hb=>?_) (λr hr=>by simp [AO.keys] at hr) (λb' hb=>h.mine k' _ b' ho hb)
     ·obtain ⟨f1,f2⟩:=g2 m hm
      refine ⟨f1,?_⟩
      rcases f2 with ⟨rfl,e2⟩ | ⟨e1,e2⟩
      ·have:cD m.1 m.1=true:=(il f1 f1).2 rfl
       rw [this]
       refine ⟨rfl,?_⟩
       rw [e2]
       exact hrv.ext hext λq hq=>by rw [hvk] at hq;simp at hq
      ·have:cD m.1 l=false:=by
        cases hb:cD m.1 l with
        | false=>rfl
        | true=>exact absurd ((il f1 hfit).1 hb) e1
       rw [this]
       obtain ⟨d1,d2,d3⟩:=h2 m e2
       exact ⟨d2,d3.ext hext λq hq=>by rw [hp _ d1 d2] at hq;simp at hq⟩
     ·cases hb:cD q l with
      | true=>
       have:=(il hq hfit).1 hb
       subst this
       exact g4
      | false=>
       rw [hb] at hd
       obtain ⟨m,hm,rfl⟩:=h3 q hq hd
       exact ⟨m,g3 m hm (λe=>by rw [(il hq hfit).2 e] at hb;cases hb),rfl⟩
     ·cases hb:cD q l with
      | true=>exact hvk
      | false=>rw [hb] at hd;exact hp q hq hd
     ·intro e
      exact h.objs.apart q o' k' _ b' hq ho hne hb e
    have nodup_at:∀ (q1 q2:Nat) (m1 m2:List AV×Value),ms[q1]?=some m1->ms[q2]?=some m2->m1.1=m2.1->q1=q2:=λq1 q2 m1 m2 e1 e2 e3=>by
     have hlt1:q1 < (ms.map (·.1)).length:=by simpa using (List.getElem?_eq_some_iff.1 e1).1
     refine (List.getElem?_inj hlt1 h4).1 ?_
     simp only [List.getElem?_map,e1,e2,Option.map_some,e3]
    rcases iP hfit ms 0 λm hm=>(h2 m hm).1 with ⟨f1,f2⟩ | ⟨j,y,f1,f2,f3⟩
    ·rw [f1] at hfind
     refine ⟨_,?_,put (es.push {key:=gM ka l,val:=V,born:=clock}) (clock+1) (ms++[(l,V)]) (by simp [h1]) (λm hm=>?_) (λm hm _=>by simp [hm]) ⟨(l,V),by simp,rfl⟩ ?_⟩
     ·rw [hI]
      simp only [Instr.mapUpdate,Sem.run_bind,run_underlying hu,Result.andThen_ok,hget,hchk,hfind,hset]
      rfl
     ·rcases List.mem_append.1 hm with hm | hm
      ·exact ⟨(h2 m hm).1,.inr ⟨f2 m hm,hm⟩⟩
      ·simp at hm;subst hm;exact ⟨hfit,.inl ⟨rfl,rfl⟩⟩
     ·rw [List.map_append]
      refine List.nodup_append.2 ⟨h4,by simp,λq hq r hr e=>?_⟩
      simp at hr
      subst hr e
      obtain ⟨m,hm,e⟩:=List.mem_map.1 hq
      exact f2 m hm e
    ·rw [f1,Nat.zero_add] at hfind
     have hjl:j < ms.length:=(List.getElem?_eq_some_iff.1 f2).1
     have hlen:es.toList.length=ms.length:=by have:=congrArg List.length h1;simpa using this
     have hje:j < es.size:=by rw [<-hlen] at hjl;simpa using hjl
     have hkey:es[j].key=gM ka l:=by
      have:=congrArg (λq=>q[j]?) h1
      simp [f2,hje] at this
      exact this.1
     refine ⟨_,?_,put (es.modify j λe=>{e with key:=gM ka l,val:=V}) clock (ms.set j (l,V)) ?_ (λm hm=>?_) (λm hm hne=>?_) ⟨(l,V),?_,rfl⟩ ?_⟩
     ·rw [hI]
      have hst:(Instr.keyThatStays (((es[j]?).map (·.key)).getD (gM ka l)) (gM ka l)).run P c.w=.ok (gM ka l) c.w:=by
       have:((es[j]?).map (·.key)).getD (gM ka l)=gM ka l:=by simp [hje,hkey]
       rw [this]
       simp [Instr.keyThatStays,uV hfit hsc]
      simp only [Instr.mapUpdate,Sem.run_bind,run_underlying hu,Result.andThen_ok,hget,hchk,hfind,hst,hset]
      rfl
     ·apply List.ext_getElem?
      intro q
      have h1q:=congrArg (λr=>r[q]?) h1
      simp only [List.getElem?_map,Array.getElem?_toList,Array.getElem?_modify,List.getElem?_set] at h1q ⊢
      by_cases e:j=q
      ·subst e
       simp [hje,hjl]
      ·simp only [e,if_false] at h1q ⊢
       exact h1q
     ·obtain ⟨q,hq⟩:=List.getElem?_of_mem hm
      rw [List.getElem?_set] at hq
      by_cases e:j=q
      ·simp only [e,if_true] at hq
       split at hq
       ·simp at hq;subst hq;exact ⟨hfit,.inl ⟨rfl,rfl⟩⟩
       ·cases hq
      ·rw [if_neg e] at hq
       have hm':=List.mem_of_getElem? hq
       refine ⟨(h2 m hm').1,.inr ⟨λe2=>e (nodup_at j q (l,y) m f2 hq e2.symm),hm'⟩⟩
     ·obtain ⟨q,hq⟩:=List.getElem?_of_mem hm
      have:j≠q:=λe=>by rw [<-e,f2] at hq;have:=Option.some.inj hq;exact hne (by rw [<-this])
      refine List.mem_of_getElem? (i:=q) ?_
      rw [List.getElem?_set,if_neg this];exact hq
     ·refine List.mem_of_getElem? (i:=j) ?_
      rw [List.getElem?_set];simp [hjl]
     ·have:(ms.set j (l,V)).map (·.1)=ms.map (·.1):=by
       apply List.ext_getElem?
       intro q
       simp only [List.getElem?_map,List.getElem?_set]
       by_cases e:j=q
       ·subst e;simp only [if_true,hjl,Option.map_some,f2]
       ·simp [e]
      rw [this];exact h4
  ·cases he
 ·cases he
theorem my {α β:Type} (f:α->β):∀ (l:List α) (i:Nat),(l.map f).eraseIdx i=(l.eraseIdx i).map f
 | [],i=>by simp
 | _::_,0=>rfl
 | x::r,i+1=>by simp [List.eraseIdx,my f r i]
theorem nK (h:Rel B c s a) {t t2 ty:TypeId} {x i:AV} {X I:Value} {k:Nat} {ob:AO} (hx:Sees B c s x X) (hi:Sees B c s i I) (he:gY P s t x i=some (k,ob)) :
  ∃c',(Builtin.delete_ #[t,t2] ty #[X,I]).run P c.w=.ok (.tuple #[]) c'.w/\Rel B c' (s.setObj k ob) a:=by
 unfold gY at he
 split at he
 ·rename_i kt et k' hu
  split at he
  ·rename_i ka ks dom get ho
   simp only [aj] at he
   cases hf:ib P kt ka ks i with
   | false=>rw [hf] at he;cases he
   | true=>
    rw [hf] at he
    simp only [cond_true,Option.some.injEq,Prod.mk.injEq] at he
    obtain ⟨rfl,rfl⟩:=he
    obtain ⟨hk,ha,hfit⟩:=kA hf
    have hI:=qu hi.rep ha hfit
    obtain ⟨⟨⟨es,clock,ms,hh,h1,h2,h3,h4⟩,hp⟩,hfree,hfr⟩:=h.objs.rep k' _ ho
    have hr:=hx.rep
    cases hr
    have hget:=MapKept.run_getObj_map (P:=P) hh
    have hset:=λo=>MapKept.run_setObj_map (P:=P) (w:=c.w) (r:=c.β k') o hh
    have hchk:(Instr.checkKey es.isEmpty 10000 kt (gM ka (a8 i).2)).run P c.w=.ok () c.w:=eN c.w hk hfit es.isEmpty 9998
    have hfind:=fo (P:=P) c.w hk hfit es.toList ms h1 λm hm=>(h2 m hm).1
    generalize hl:(a8 i).2=l at *
    have hexcl:excl c k' (.mp ka ks dom get)=some (c.β k'):=rfl
    have put:∀ (es':Array MapEntry) (ms':List (List AV×Value)),es'.toList.map (λe=>(e.key,e.val))=ms'.map (λm=>(gM ka m.1,m.2))->
      (∀m∈ms',m∈ms/\m.1≠l)->(∀m∈ms,m.1≠l->m∈ms')->(ms'.map (·.1)).Nodup->
      Rel B (c.write {c.w with heap:=c.w.heap.setIfInBounds (c.β k') (.map es' clock)}) (s.setObj k' (.mp ka ks (λq=>cond (cD q l) false (dom q)) get)) a:=by
     intro es' ms' g1 g2 g3 g5
     have hw:Wrote c (c.β k') {c.w with heap:=c.w.heap.setIfInBounds (c.β k') (.map es' clock)}:=⟨rfl,rfl,rfl,by simp,λb' hne=>by
      simp only [Array.getElem?_setIfInBounds];rw [if_neg (λe=>hne e.symm)]⟩
     have hkb:=Cx.dG h.objs ho hexcl hfree hw
     have hext:Ext c (c.write {c.w with heap:=c.w.heap.setIfInBounds (c.β k') (.map es' clock)}) (live s.objs):=hkb.ext
     refine h.obj hkb (Cx.eh h.good hfree hw (h.mine k' _ _ ho hexcl)) ⟨⟨⟨es',clock,ms',by show _=_;simp [Cx.write,aJ hh],g1,λm hm=>?_,λq hq hd=>?_,g5⟩,λq hq hd=>?_⟩,hfree,hfr⟩ (λq o' b' hq hne hb=>?_) (λr hr=>by simp [AO.keys] at hr) (λb' hb=>h.mine k' _ b' ho hb)
     ·obtain ⟨f1,f2⟩:=g2 m hm
      obtain ⟨d1,d2,d3⟩:=h2 m f1
      have:cD m.1 l=false:=by
       cases hb:cD m.1 l with
       | false=>rfl
       | true=>exact absurd ((il d1 hfit).1 hb) f2
      rw [this]
      exact ⟨d1,d2,d3.ext hext λq hq=>by rw [hp _ d1 d2] at hq;simp at hq⟩
     ·cases hb:cD q l with
      | true=>rw [hb] at hd;cases hd
      | false=>
       rw [hb] at hd
       obtain ⟨m,hm,rfl⟩:=h3 q hq hd
       exact ⟨m,g3 m hm (λe=>by rw [(il hq hfit).2 e] at hb;cases hb),rfl⟩
     ·cases hb:cD q l with
      | true=>rw [hb] at hd;cases hd
      | false=>rw [hb] at hd;exact hp q hq hd
     ·intro e
      exact h.objs.apart q o' k' _ b' hq ho hne hb e
    have nodup_at:∀ (q1 q2:Nat) (m1 m2:List AV×Value),ms[q1]?=some m1->ms[q2]?=some m2->m1.1=m2.1->q1=q2:=λq1 q2 m1 m2 e1 e2 e3=>by
     have hlt1:q1 < (ms.map (·.1)).length:=by simpa using (List.getElem?_eq_some_iff.1 e1).1
     refine (List.getElem?_inj hlt1 h4).1 ?_
     simp only [List.getElem?_map,e1,e2,Option.map_some,e3]
    have hargs:(#[t,t2]:Array TypeId)[0]?=some t:=rfl
    rcases iP hfit ms 0 λm hm=>(h2 m hm).1 with ⟨f1,f2⟩ | ⟨j,y,f1,f2,f3⟩
    ·rw [f1] at hfind
     refine ⟨_,?_,put es ms h1 (λm hm=>⟨hm,f2 m hm⟩) (λm hm _=>hm) h4⟩
     rw [hI]
     unfold Builtin.delete_
     simp [Sem.run_bind,run_underlying hu,Result.andThen_ok,hget,hchk,hfind,hset]
     rfl
    ·rw [f1,Nat.zero_add] at hfind
     refine ⟨_,?_,put (es.eraseIdxIfInBounds j) (ms.eraseIdx j) ?_ (λm hm=>?_) (λm hm hne=>?_) ?_⟩
     ·rw [hI]
      unfold Builtin.delete_
      simp [Sem.run_bind,run_underlying hu,Result.andThen_ok,hget,hchk,hfind,hset]
      rfl
     ·rw [Array.toList_eraseIdxIfInBounds,<-my,h1,my]
     ·obtain ⟨q,hne,hq⟩:=List.mem_eraseIdx_iff_getElem?.1 hm
      refine ⟨List.mem_of_getElem? hq,λe=>hne (nodup_at q j m (l,y) hq f2 e)⟩
     ·obtain ⟨q,hq⟩:=List.getElem?_of_mem hm
      exact List.mem_eraseIdx_iff_getElem?.2 ⟨q,λe=>by rw [e,f2] at hq;have:=Option.some.inj hq;exact hne (by rw [<-this]),hq⟩
     ·exact List.Nodup.sublist ((List.eraseIdx_sublist ms j).map _) h4
  ·cases he
 ·cases he
end Go.Ab

namespace Go.Ab
open Go Go.RowKit
variable {P:Program} {B:Base} {c:Cx} {s:St} {a:Act}
def cj (X:Cfg):Prop:=∀f l os r os',X.pre f l os=true->X.call f l os=some (r,os')->
 j8 X.P X.G f l os r os'/\∃fn,X.P.funcs[f]?=some fn/\(fn.name=="runtime.NumGoroutine")=false/\fn.body.isSome=true
theorem ag {α β:Type} {x:Option α} {f:α->Option β} {r:β} (h:x.bind f=some r):∃y,x=some y/\f y=some r:=by
 cases x with
 | none=>simp at h
 | some y=>exact ⟨y,rfl,h⟩
theorem aQ {α β:Type} {x:Option α} {f:α->β} {r:β} (h:x.map f=some r):∃y,x=some y/\f y=r:=by
 cases x with
 | none=>simp at h
 | some y=>exact ⟨y,rfl,by simpa using h⟩
theorem au {α:Type} {b:Bool} {x:Option α} {r:α} (h:aj b x=some r):b=true/\x=some r:=by
 cases b with
 | false=>simp [aj] at h
 | true=>exact ⟨rfl,h⟩
theorem bc {α:Type} {b:Bool} {x:Option α} {r:α} (h:cond b x none=some r):b=true/\x=some r:=by
 cases b with
 | false=>simp at h
 | true=>exact ⟨rfl,h⟩
theorem kI {α:Type} {b:Bool} {x:Option α} {r:α} (h:cond b none x=some r):b=false/\x=some r:=by
 cases b with
 | false=>exact ⟨rfl,h⟩
 | true=>simp at h
theorem pD {X:Cfg} (hX:cj X) (hG:X.G=B.G) (h:Rel B c s a) {f:FuncId} {l:List AV} {xs:List Value} {v:AV} {objs':List (Nat×AO)} (hs:cV B c s l xs)
  (he:im X s.objs f l=some (true,v,objs')) :
  (Calls X.P f xs.toArray c.w λe w'=>∃c2 x,e=.returned x/\c2.w=w'/\Rel B c2 (s.with objs') a/\Sees B c2 (s.with objs') v x) /\
   ∃fn,X.P.funcs[f]?=some fn/\(fn.name=="runtime.NumGoroutine")=false/\fn.body.isSome=true:=by
 unfold im at he
 obtain ⟨⟨l1,o1⟩,h1,he⟩:=ag he
 have hfz:∃c1,c1.w=c.w/\Rel B c1 (s.with o1) a/\cV B c1 (s.with o1) l1 xs:=by
  cases hb:X.byRef f with
  | true=>simp [hb] at h1;obtain ⟨rfl,rfl⟩:=h1;exact ⟨c,rfl,h,hs⟩
  | false=>
   simp [hb] at h1
   obtain ⟨c1,e1,e2,e3,_,_⟩:=cY h hs h1
   exact ⟨c1,e1,e2,e3⟩
 obtain ⟨c1,hw,hr1,hs1⟩:=hfz
 dsimp only at he
 obtain ⟨hcl,he⟩:=bc he
 obtain ⟨os,hos,he⟩:=ag he
 obtain ⟨⟨r,os'⟩,hcall,he⟩:=ag he
 obtain ⟨hlen,he⟩:=bc he
 dsimp only at hlen he
 simp only [Option.some.injEq,Prod.mk.injEq] at he
 obtain ⟨hpre,rfl,rfl⟩:=he
 obtain ⟨hok,hfn⟩:=hX _ _ _ _ _ hpre hcall
 rw [hG] at hok
 obtain ⟨hn,hk⟩:=dI o1 (ak (bt l1))
 have hcore:=mB (P:=X.P) hr1 hn hos (bS hcl) hs1.shed hk hok (dv hlen)
 rw [hw] at hcore
 exact ⟨hcore,hfn⟩
theorem n3 {X:Cfg} (hX:cj X) (hG:X.G=B.G) (h:Rel B c s a) {f:FuncId} {l:List AV} {xs:List Value} {v:AV} {objs':List (Nat×AO)} (hs:cV B c s l xs)
  (he:mA X s.objs f l=some (true,v,objs')) :
  (Calls X.P f xs.toArray c.w λe w'=>∃c2 x,e=.returned x/\c2.w=w'/\Rel B c2 (s.with objs') a/\Sees B c2 (s.with objs') v x) /\
   ∃fn,X.P.funcs[f]?=some fn/\(fn.name=="runtime.NumGoroutine")=false/\fn.body.isSome=true:=by
 unfold mA at he
 obtain ⟨⟨l1,o1⟩,h1,he⟩:=ag he
 obtain ⟨c1,hw,hr1,hs1,_,_⟩:=cY h hs h1
 dsimp only at he
 obtain ⟨hnil,he⟩:=bc he
 obtain ⟨⟨r,os'⟩,hcall,he⟩:=ag he
 obtain ⟨hpl,he⟩:=bc he
 dsimp only at hpl he
 simp only [Option.some.injEq,Prod.mk.injEq] at he
 obtain ⟨hpre,rfl,rfl⟩:=he
 obtain ⟨hok,hfn⟩:=hX _ _ _ _ _ hpre hcall
 rw [hG] at hok
 have hk:ak (bt l1)=[]:=by
  cases hq:ak (bt l1) with
  | nil=>rfl
  | cons=>rw [hq] at hnil;cases hnil
 simp only [Bool.and_eq_true] at hpl
 have hsf:=hs1.shed.fn
 refine ⟨?_,hfn⟩
 have hok:=hok c1 xs.toArray hr1.good ⟨λk o hq=>by simp [af,alook] at hq,λk o k' o' b hq=>by simp [af,alook] at hq,λk o hq=>by simp [af,alook] at hq⟩ hsf.1 (λi u hu=>hsf.2.1 i u hu) (λk hq=>by rw [hk] at hq;cases hq)
 rw [hw] at hok
 refine hok.mono ?_
 rintro e w' ⟨c',x,he,hw',hG',hF',_,hrx,_,_⟩
 have hnh:∀b,¬ held c1 (af [] ae) b:=λb hb=>by obtain ⟨q,o,hq,_⟩:=hb;simp [af,alook] at hq
 have hblk:∀b,b < c.w.heap.size->c'.w.heap[b]?=c.w.heap[b]?:=λb hb=>by
  have:=hF'.block b (by show b < c1.w.heap.size;rw [hw];exact hb) (hnh b)
  rw [this];show c1.w.heap[b]?=_;rw [hw]
 have hcell:∀b o y,c.w.cell? ⟨b,o,none⟩=some y->c'.w.cell? ⟨b,o,none⟩=some y:=λb o y hy=>by
  rw [World.bj (hblk b (dr hy))];exact hy
 let c2:Cx:={c with w:=c'.w}
 have hkp:Keeps c c2 s.objs:=⟨⟨λb o y _ hy=>hcell b o y hy,λ_ _ hi=>hi,λ_ _=>rfl,λ_ _ _ _ hv=>hv,λb o ob _ he _=>(hblk b (aJ he)).trans he⟩,λ_ _=>rfl,λ_ _=>rfl,λ_ _=>rfl,λq o b hq hb=>⟨hblk b (cf (h.objs.rep q o hq) hb),λ_ hi=>hi⟩⟩
 have hgr:Grow B c c2:=by
  refine ⟨?_,?_,?_,?_,λb hb _=>hblk b (Nat.lt_of_lt_of_le hb h.frame.size),λ_ _ _ _ hi=>hi,λb o hi=>?_⟩
  ·have:=hF'.os;show c'.w.os=_;rw [this];show c1.w.os=_;rw [hw]
  ·have:=hF'.output;show c'.w.output=_;rw [this];show c1.w.output=_;rw [hw]
  ·have:=hF'.tape;show c'.w.tape=_;rw [this];show c1.w.tape=_;rw [hw]
  ·have:=hF'.size;show c.w.heap.size<=c'.w.heap.size;refine Nat.le_trans ?_ this;show _<=c1.w.heap.size;rw [hw];exact Nat.le_refl _
  ·exact h.good.block hi (hblk b (h.good.lt hi))
 refine ⟨c2,x,he,hw',h.keep hkp hgr,?_⟩
 have hp:=hpl.1
 cases r with
 | bool b=>cases hrx;exact ⟨.bool b,by simp [AV.keys],rfl⟩
 | int k n=>cases hrx;exact ⟨.int k n,by simp [AV.keys],rfl⟩
 | str l=>cases hrx;exact ⟨.str l,by simp [AV.keys],rfl⟩
 | _=>simp [ux] at hp
theorem o8 {d k:Nat}:∀ {m i:Nat},k∈cZ d i m->∃j,i<=j/\k=d+100000*j
 | 0,i,h=>by simp [cZ] at h
 | m+1,i,h=>by
  simp only [cZ,List.mem_cons] at h
  rcases h with rfl | h
  ·exact ⟨i,Nat.le_refl _,rfl⟩
  ·obtain ⟨j,h1,h2⟩:=o8 h;exact ⟨j,by omega,h2⟩
theorem cX (d:Nat):∀ (m i:Nat),(cZ d i m).Nodup/\(cZ d i m).length=m
 | 0,i=>by simp [cZ]
 | m+1,i=>by
  obtain ⟨h1,h2⟩:=cX d m (i+1)
  refine ⟨List.nodup_cons.2 ⟨λh=>?_,h1⟩,by simp [cZ,h2]⟩
  obtain ⟨j,g1,g2⟩:=o8 h
  omega
theorem j6 {objs:List (Nat×AO)}:∀ {l:List Nat},dE objs l=true->∀d∈l,alook objs d=none
 | [],_,d,hd=>by simp at hd
 | k::r,h,d,hd=>by
  simp only [dE] at h
  cases hk:alook objs k with
  | some _=>simp [hk] at h
  | none=>
   simp only [hk] at h
   rcases List.mem_cons.1 hd with rfl | hd
   ·exact hk
   ·exact j6 h d hd
theorem nZ {X:Cfg} (hX:cj X) (hG:X.G=B.G) (h:Rel B c s a) {f:FuncId} {l:List AV} {xs:List Value} {v:AV} {objs':List (Nat×AO)} (hs:cV B c s l xs)
  {d:Option Nat} (he:kH X d s.objs f l=some (true,v,objs')) :
  (Calls X.P f xs.toArray c.w λe w'=>∃c2 x,e=.returned x/\c2.w=w'/\Rel B c2 (s.with objs') a/\Sees B c2 (s.with objs') v x) /\
   ∃fn,X.P.funcs[f]?=some fn/\(fn.name=="runtime.NumGoroutine")=false/\fn.body.isSome=true:=by
 unfold kH at he
 obtain ⟨⟨l1,o1⟩,h1,he⟩:=ag he
 have hfz:∃c1,c1.w=c.w/\Rel B c1 (s.with o1) a/\cV B c1 (s.with o1) l1 xs:=by
  cases hb:X.byRef f with
  | true=>simp [hb] at h1;obtain ⟨rfl,rfl⟩:=h1;exact ⟨c,rfl,h,hs⟩
  | false=>
   simp [hb] at h1
   obtain ⟨c1,e1,e2,e3,_,_⟩:=cY h hs h1
   exact ⟨c1,e1,e2,e3⟩
 obtain ⟨c1,hw,hr1,hs1⟩:=hfz
 dsimp only at he
 obtain ⟨hcl,he⟩:=bc he
 obtain ⟨os,hos,he⟩:=ag he
 obtain ⟨⟨r,os'⟩,hcall,he⟩:=ag he
 dsimp only at he
 cases hlen:Nat.beq os'.length (aX o1 (ak (bt l1))).length with
 | true=>
  rw [hlen,cond_true] at he
  simp only [Option.some.injEq,Prod.mk.injEq] at he
  obtain ⟨hpre,rfl,rfl⟩:=he
  obtain ⟨hok,hfn⟩:=hX _ _ _ _ _ hpre hcall
  rw [hG] at hok
  obtain ⟨hn,hk⟩:=dI o1 (ak (bt l1))
  have hcore:=mB (P:=X.P) hr1 hn hos (bS hcl) hs1.shed hk hok (dv hlen)
  rw [hw] at hcore
  exact ⟨hcore,hfn⟩
 | false=>
  rw [hlen,cond_false] at he
  cases d with
  | none=>simp at he
  | some d=>
   dsimp only at he
   obtain ⟨hlen1,he⟩:=bc he
   simp only [Bool.and_eq_true] at hlen1
   have hlt:=ltB hlen1.1
   simp only [Option.some.injEq,Prod.mk.injEq] at he
   obtain ⟨hpre,rfl,rfl⟩:=he
   obtain ⟨hok,hfn⟩:=hX _ _ _ _ _ hpre hcall
   rw [hG] at hok
   obtain ⟨hn,hk⟩:=dI o1 (ak (bt l1))
   obtain ⟨g1,g2⟩:=cX d (os'.length - (aX o1 (ak (bt l1))).length) 0
   have hcore:=xa (P:=X.P) hr1 hn hos (bS hcl) hs1.shed hk hok g1 (j6 hlen1.2) (by rw [g2];omega)
   rw [hw] at hcore
   exact ⟨hcore,hfn⟩
theorem Rel.put' {d:Option Nat} {v:AV} {x:Value} (h:Rel B c s a) (hd:∀t,d=some t->t < B.N/\fI s t) (hs:Sees B c s v x):Rel B c (s.put d v) (a.put d x):=by
 cases d with
 | none=>exact h
 | some d=>exact h.put (hd d rfl).1 hs.rep hs.plain hs.live (hd d rfl).2
theorem lu {α:Type} (k:Program->Sem α) (w:World):(program >>= k).run P w=(k P).run P w:=rfl
theorem kR {f:FuncId} {args:Array Value} {w:World} {fn:Func} (h1:P.funcs[f]?=some fn) (h2:(fn.name=="runtime.NumGoroutine")=false) (h3:fn.body.isSome=true) :
  (callFunc f args).run P w=.ok (.enter f args) w:=by
 have h3':fn.body.isNone=false:=by cases hb:fn.body <;> simp_all
 unfold callFunc
 rw [lu,h1]
 simp only [h2,h3',Bool.false_eq_true,if_false,Sem.run_pure]
theorem vW {P:Program} {t:TypeId} (h:A8 P t=true):P.underlying t=some .string:=by
 unfold A8 at h
 split at h
 ·assumption
 ·cases h
theorem cV.append {l m:List AV} {xs ys:List Value} (h:cV B c s l xs) (k:cV B c s m ys):cV B c s (l++m) (xs++ys):=by
 refine ⟨by simp [h.1,k.1],λi u hu=>?_⟩
 by_cases hi:i < l.length
 ·rw [List.getElem?_append_left hi] at hu
  have:(xs++ys).getD i undef=xs.getD i undef:=by simp [List.getD_eq_getElem?_getD,List.getElem?_append_left (show i < xs.length by rw [h.1];exact hi)]
  rw [this];exact h.2 i u hu
 ·rw [List.getElem?_append_right (by omega)] at hu
  have:(xs++ys).getD i undef=ys.getD (i - l.length) undef:=by
   simp only [List.getD_eq_getElem?_getD]
   rw [List.getElem?_append_right (by rw [h.1];omega),h.1]
  rw [this];exact k.2 _ u hu
theorem gG (h:Rel B c s a) {ch:eM} (hc:tx a ch) {o:Oper} {q:Operand} {args:Array Operand} {ts:Array TypeId} (ho:o.op=.call {callee:=.value q,args,argTypes:=ts}) {f:FuncId} {l:List AV}
  (he:dk ⟨s,B.G,ch⟩ {callee:=.value q,args,argTypes:=ts}=some (f,l)) :
  ∃xs,cV B c s l xs/\∀ (fn:Func),P.funcs[f]?=some fn->(fn.name=="runtime.NumGoroutine")=false->fn.body.isSome=true->(execOp a.eval o).run P c.w=.ok (.enter f xs.toArray) c.w:=by
 unfold dk at he
 dsimp only at he
 obtain ⟨fv,h1,he⟩:=ag he
 obtain ⟨vs,h2,he⟩:=ag he
 have hf:=av h hc h1
 have hv:=cw h hc h2
 cases fv with
 | fn f' first caps=>
  simp only [Option.some.injEq,Prod.mk.injEq] at he
  obtain ⟨rfl,rfl⟩:=he
  obtain ⟨hr,hl,_⟩:=hf
  generalize hq:a.eval q=Q at hr
  cases hr with
  | fn _ _ _ va vb e1 e2 e3 e4=>
   have hfirst:cV B c s first va.toList:=⟨by simpa using e1,λi u hu=>⟨by
    have:=e3 i u hu
    simpa [Array.getD_eq_getD_getElem?,List.getD_eq_getElem?_getD] using this,λk hk=>hl k (by simp only [AV.keys,List.mem_append];exact .inl (aH hu k hk)),(e3 i u hu).plain⟩⟩
   have hcaps:cV B c s caps vb.toList:=⟨by simpa using e2,λi u hu=>⟨by
    have:=e4 i u hu
    simpa [Array.getD_eq_getD_getElem?,List.getD_eq_getElem?_getD] using this,λk hk=>hl k (by simp only [AV.keys,List.mem_append];exact .inr (aH hu k hk)),(e4 i u hu).plain⟩⟩
   refine ⟨_,(hfirst.append hv).append hcaps,λfn g1 g2 g3=>?_⟩
   have e:(va.toList++args.toList.map a.eval++vb.toList).toArray=va++args.map a.eval++vb:=by apply Array.ext';simp
   rw [e]
   simp only [execOp,ho,resolve,hq,Deferred.ofValue,pure_bind,invoke]
   exact kR g1 g2 g3
 | _=>simp at he
def ea (P:Program) (B:Base) (c:Cx) (a:Act) (o:Oper) (s':St):Prop:=
 ∀Q,o.wp P a c.w (λa' w'=>∃c',c'.w=w'/\Rel B c' s' a') Q
theorem ea.value {c':Cx} {o:Oper} {x:Value} {v:AV} {objs':List (Nat×AO)} (hd:∀t,o.dst=some t->t < B.N/\fI s t) (hrun:(execOp a.eval o).run P c.w=.ok (.value x) c'.w)
  (hr:Rel B c' (s.with objs') a) (hs:Sees B c' (s.with objs') v x):ea P B c a o (s.after o.dst v objs'):=by
 intro Q
 simp only [Oper.wp,hrun,Oper.upon]
 exact ⟨c',rfl,hr.put' hd hs⟩
theorem ea.skip {c':Cx} {o:Oper} {objs':List (Nat×AO)} (hd:∀t,o.dst=some t->t < B.N/\fI s t) (hrun:(execOp a.eval o).run P c.w=.ok .skip c'.w)
  (hr:Rel B c' (s.with objs') a):ea P B c a o (s.after o.dst .undef objs'):=by
 intro Q
 simp only [Oper.wp,hrun,Oper.upon]
 exact ⟨c',rfl,hr.put' hd ⟨.undef _,by simp [AV.keys],rfl⟩⟩
theorem cr.step {o:Oper} {v:AV} (h:Rel B c s a) (hd:∀t,o.dst=some t->t < B.N/\fI s t) (hg:cr P B c s a o v):ea P B c a o (s.after o.dst v s.objs):=by
 obtain ⟨x,c',h1,h2,h3,h4⟩:=hg
 exact ea.value hd h1 (h.keep h2 h3) h4
theorem dC {o:Oper} {m:Sem Value} {x:Value} {w w':World} (he:execOp a.eval o=(do let x <-m;pure (Next.value x))) (hm:m.run P w=.ok x w'):(execOp a.eval o).run P w=.ok (.value x) w':=by
 rw [he];simp [hm]
theorem iQ {X:Cfg} (hX:cj X) (hG:X.G=B.G) (h:Rel B c s a) {o:Oper} (hd:∀t,o.dst=some t->t < B.N/\fI s t) {v:AV} {objs':List (Nat×AO)}
  (he:dZ X s o=some (true,v,objs')):ea X.P B c a o (s.after o.dst v objs')/\v.bX=false:=by
 have hch:tx a []:=λt w hm=>by simp at hm
 have hpure:(bD X.P ⟨s,X.G,[]⟩ o.op).map (λr=>(r.1,r.2,s.objs))=some (true,v,objs')->ea X.P B c a o (s.after o.dst v objs')/\v.bX=false:=by
  intro he
  obtain ⟨⟨b,u⟩,h1,h2⟩:=aQ he
  simp only [Prod.mk.injEq] at h2
  obtain ⟨rfl,rfl,rfl⟩:=h2
  rw [hG] at h1
  have hg:=l6 h hch h1
  refine ⟨hg.step h hd,?_⟩
  obtain ⟨_,_,_,_,_,h4⟩:=hg
  exact h4.plain
 cases ho:o.op with
 | alloc t=>
  simp only [dZ,ho] at he
  cases hdst:o.dst with
  | none=>simp [hdst] at he
  | some d=>
   simp only [hdst] at he
   cases hob:s.obj d with
   | some _=>simp [hob] at he
   | none=>
    simp only [hob] at he
    obtain ⟨ob,h1,h2⟩:=aQ he
    simp only [Prod.mk.injEq] at h2
    obtain ⟨_,rfl,rfl⟩:=h2
    obtain ⟨x,c',e1,e2,e3⟩:=qU h hob h1
    exact ⟨hdst ▸ ea.value hd (dC (by simp [execOp,ho]) e1) e2 e3,e3.plain⟩
 | box t x=>
  simp only [dZ,ho] at he
  cases hdst:o.dst with
  | none=>simp [hdst] at he
  | some d=>
   simp only [hdst] at he
   cases hob:s.obj d with
   | some _=>simp [hob] at he
   | none=>
    simp only [hob] at he
    obtain ⟨u,h1,he⟩:=ag he
    rw [hG] at h1
    have hu:=av h hch h1
    have hcells:aj (ef u.cells&&(az X.P t==some u.cells.length)) (some (true,AV.ref d 0,aput s.objs d (AO.cells u.cells)))=some (true,v,objs')->ea X.P B c a o (s.after (some d) v objs')/\v.bX=false:=by
     intro he
     obtain ⟨hb,he⟩:=au he
     simp only [Option.some.injEq,Prod.mk.injEq] at he
     obtain ⟨_,rfl,rfl⟩:=he
     simp only [Bool.and_eq_true] at hb
     obtain ⟨y,c',e1,e2,e3⟩:=mD (P:=X.P) (t:=t) h hob hu hb.1
     exact ⟨hdst ▸ ea.value hd (dC (by simp [execOp,ho]) e1) e2 e3,e3.plain⟩
    cases u with
    | arr sz n get=>
     dsimp only at he
     obtain ⟨hb,he⟩:=au he
     simp only [Option.some.injEq,Prod.mk.injEq] at he
     obtain ⟨_,rfl,rfl⟩:=he
     obtain ⟨y,c',e1,e2,e3⟩:=n6 (P:=X.P) (t:=t) h hob hu.rep
     exact ⟨hdst ▸ ea.value hd (dC (by simp [execOp,ho]) e1) e2 e3,e3.plain⟩
    | _=>exact hcells he
 | store t x y=>
  simp only [dZ,ho] at he
  obtain ⟨u,h1,he⟩:=ag he
  obtain ⟨q,h2,he⟩:=ag he
  obtain ⟨⟨b,k,ob⟩,h3,he⟩:=aQ he
  simp only [Prod.mk.injEq] at he
  obtain ⟨rfl,rfl,rfl⟩:=he
  rw [hG] at h1 h2
  obtain ⟨c',e1,e2⟩:=oz h (av h hch h1) (av h hch h2) h3
  exact ⟨ea.skip hd (by simp only [execOp,ho];simp [e1]) e2,rfl⟩
 | range t x=>
  simp only [dZ,ho] at he
  cases hdst:o.dst with
  | none=>simp [hdst] at he
  | some d=>
   simp only [hdst] at he
   cases hob:s.obj d with
   | some _=>simp [hob] at he
   | none=>
    simp only [hob] at he
    obtain ⟨u,h1,he⟩:=ag he
    rw [hG] at h1
    have hu:=(av h hch h1).rep
    split at he
    ·rename_i b ht
     simp only [Option.some.injEq,Prod.mk.injEq] at he
     obtain ⟨_,rfl,rfl⟩:=he
     generalize hX:a.eval x=X at hu
     cases hu
     obtain ⟨y,c',e1,e2,e3⟩:=p7 h hob ht b
     exact ⟨hdst ▸ ea.value hd (dC (by simp [execOp,ho,hX]) e1) e2 e3,e3.plain⟩
    ·simp at he
 | next it isS=>
  simp only [dZ,ho] at he
  obtain ⟨u,h1,he⟩:=ag he
  rw [hG] at h1
  have hu:=(av h hch h1).rep
  split at he
  ·rename_i q
   split at he
   ·rename_i b pos hob
    simp only [Option.some.injEq,Prod.mk.injEq] at he
    obtain ⟨_,rfl,rfl⟩:=he
    obtain ⟨y,c',e1,e2,e3⟩:=sQ (P:=X.P) h hob hu o.type
    exact ⟨ea.value hd (dC (by simp [execOp,ho]) e1) e2 e3,e3.plain⟩
   ·simp at he
  ·simp at he
 | makeSlice t l n=>
  simp only [dZ,ho] at he
  cases hdst:o.dst with
  | none=>simp [hdst] at he
  | some d=>
   simp only [hdst] at he
   obtain ⟨u,h1,he⟩:=ag he
   obtain ⟨q,h2,he⟩:=ag he
   obtain ⟨⟨b,v',k,ob⟩,h3,he⟩:=aQ he
   simp only [Prod.mk.injEq] at he
   obtain ⟨rfl,rfl,rfl⟩:=he
   rw [hG] at h1 h2
   obtain ⟨z,c',e1,e2,e3⟩:=ly h (av h hch h1).rep (av h hch h2).rep h3
   exact ⟨hdst ▸ ea.value hd (dC (by simp [execOp,ho]) e1) e2 e3,e3.plain⟩
 | makeMap t r=>
  cases r with
  | some r=>simp only [dZ,ho] at he;exact hpure (by rw [ho];exact he)
  | none=>
   simp only [dZ,ho] at he
   cases hdst:o.dst with
   | none=>simp [hdst] at he
   | some d=>
    simp only [hdst] at he
    cases hob:s.obj d with
    | some _=>simp [hob] at he
    | none=>
     simp only [hob] at he
     split at he
     ·obtain ⟨z,_,he⟩:=ag he
      obtain ⟨q,_,he⟩:=aQ he
      simp only [Prod.mk.injEq] at he
      obtain ⟨_,rfl,rfl⟩:=he
      obtain ⟨y,c',e1,e2,e3⟩:=nM (P:=X.P) h hob t q.1 q.2 λ_=>z
      exact ⟨hdst ▸ ea.value hd (dC (by simp [execOp,ho]) e1) e2 e3,e3.plain⟩
     ·simp at he
 | lookup t x i ok=>
  simp only [dZ,ho] at he
  obtain ⟨u,h1,he⟩:=ag he
  obtain ⟨q,h2,he⟩:=ag he
  obtain ⟨r,h3,he⟩:=aQ he
  simp only [Prod.mk.injEq] at he
  obtain ⟨_,rfl,rfl⟩:=he
  rw [hG] at h1 h2
  obtain ⟨y,e1,e2⟩:=qn (P:=X.P) (ok:=ok) h (av h hch h1) (av h hch h2) h3
  exact ⟨ea.value (c':=c) hd (dC (by simp [execOp,ho]) e1) h e2,e2.plain⟩
 | mapUpdate t x i w=>
  simp only [dZ,ho] at he
  obtain ⟨u,h1,he⟩:=ag he
  obtain ⟨q,h2,he⟩:=ag he
  obtain ⟨r,h4,he⟩:=ag he
  obtain ⟨⟨k,ob⟩,h3,he⟩:=aQ he
  simp only [Prod.mk.injEq] at he
  obtain ⟨_,rfl,rfl⟩:=he
  rw [hG] at h1 h2 h4
  obtain ⟨c',e1,e2⟩:=jK (P:=X.P) h (av h hch h1) (av h hch h2) (av h hch h4) h3
  exact ⟨ea.skip hd (by simp only [execOp,ho];simp [e1]) e2,rfl⟩
 | insert t x i w=>
  simp only [dZ,ho] at he
  obtain ⟨u,h1,he⟩:=ag he
  obtain ⟨q,h2,he⟩:=ag he
  obtain ⟨r,h4,he⟩:=ag he
  obtain ⟨⟨k,ob⟩,h3,he⟩:=aQ he
  simp only [Prod.mk.injEq] at he
  obtain ⟨_,rfl,rfl⟩:=he
  rw [hG] at h1 h2 h4
  obtain ⟨c',e1,e2⟩:=jK (P:=X.P) h (av h hch h1) (av h hch h2) (av h hch h4) h3
  exact ⟨ea.skip hd (by simp only [execOp,ho];simp [e1]) e2,rfl⟩
 | call q=>
  obtain ⟨callee,args,argTypes⟩:=q
  cases callee with
  | builtin b=>
   cases b with
   | delete=>
    simp only [dZ,ho] at he
    split at he
    ·rename_i t t' hts
     obtain ⟨l,h1,he⟩:=ag he
     rw [hG] at h1
     split at he
     ·rename_i x i
      have hs:=cw h hch h1
      obtain ⟨x1,R,hXR,hx,hr⟩:=hs.cons_inv
      obtain ⟨x2,R2,hXR2,hy,hr2⟩:=hr.cons_inv
      have hR:=hr2.mb
      subst hR hXR2
      have e1:args.map a.eval=#[x1,x2]:=by apply Array.ext';simpa using hXR
      have e2:argTypes=#[t,t']:=by apply Array.ext';simpa using hts
      obtain ⟨⟨k,ob⟩,h3,he⟩:=aQ he
      simp only [Prod.mk.injEq] at he
      obtain ⟨_,rfl,rfl⟩:=he
      obtain ⟨c',g1,g2⟩:=nK (ty:=o.type) (t2:=t') h hx hy h3
      refine ⟨ea.value hd (dC (m:=Builtin.delete_ #[t,t'] o.type #[x1,x2]) ?_ g1) g2 ⟨.tup _ _ rfl (by simp),by simp [AV.keys,ak],rfl⟩,rfl⟩
      simp only [execOp,ho,resolve,pure_bind,invoke,builtin,e1,e2]
     ·cases he
    ·cases he
   | append=>
    simp only [dZ,ho] at he
    split at he
    ·rename_i d t t' hdst hts
     obtain ⟨hb,he'⟩:=au he
     clear he hb
     obtain ⟨l,h1,he⟩:=ag he'
     rw [hG] at h1
     split at he
     ·rename_i x bs
      obtain ⟨hst,he⟩:=au he
      have hus:X.P.underlying t'=some .string:=vW hst
      have hs:=cw h hch h1
      obtain ⟨x1,R,hXR,hx,hr⟩:=hs.cons_inv
      obtain ⟨x2,R2,hXR2,hy,hr2⟩:=hr.cons_inv
      have hR:=hr2.mb
      subst hR hXR2
      have e1:args.map a.eval=#[x1,x2]:=by apply Array.ext';simpa using hXR
      have e2:argTypes=#[t,t']:=by apply Array.ext';simpa using hts
      obtain rfl:x2=.string ⟨bs.toArray⟩:=by cases hy.rep;rfl
      obtain ⟨⟨b,v',k,ob⟩,h3,he⟩:=aQ he
      simp only [Prod.mk.injEq] at he
      obtain ⟨rfl,rfl,rfl⟩:=he
      obtain ⟨V,c',g1,g2,g3⟩:=n8 (ty:=o.type) h hus hx.rep h3
      refine ⟨hdst ▸ ea.value hd (dC (m:=Builtin.append_ #[t,t'] o.type #[x1,.string ⟨bs.toArray⟩]) ?_ g1) g2 g3,g3.plain⟩
      simp only [execOp,ho,resolve,pure_bind,invoke,builtin,e1,e2]
     ·rename_i x y _
      obtain ⟨hb,he2⟩:=au he
      have:=dv hb
      clear he
      subst this
      have he:=he2
      have hs:=cw h hch h1
      obtain ⟨x1,R,hXR,hx,hr⟩:=hs.cons_inv
      obtain ⟨x2,R2,hXR2,hy,hr2⟩:=hr.cons_inv
      have hR:=hr2.mb
      subst hR hXR2
      have e1:args.map a.eval=#[x1,x2]:=by apply Array.ext';simpa using hXR
      have e2:argTypes=#[t,t]:=by apply Array.ext';simpa using hts
      obtain ⟨V,c',g1,g2,g3⟩:∃V c',(Builtin.append_ #[t,t] o.type #[x1,x2]).run X.P c.w=.ok V c'.w/\Rel B c' (s.with objs') a/\Sees B c' (s.with objs') v V:=by
       cases hgs:uX x with
       | true=>
        rw [hgs] at he
        obtain ⟨⟨b,v',us⟩,h3,he⟩:=aQ he
        simp only [Prod.mk.injEq] at he
        obtain ⟨rfl,rfl,rfl⟩:=he
        exact od h hx.rep hy.rep h3
       | false=>
        rw [hgs] at he
        obtain ⟨⟨b,v',k,ob⟩,h3,he⟩:=aQ he
        simp only [Prod.mk.injEq] at he
        obtain ⟨rfl,rfl,rfl⟩:=he
        cases hg:(ye x||X.grow o) with
        | true=>rw [hg] at h3;exact oa h hx.rep hy.rep h3
        | false=>rw [hg] at h3;exact og h hx.rep hy.rep h3
      refine ⟨hdst ▸ ea.value hd (dC (m:=Builtin.append_ #[t,t] o.type #[x1,x2]) ?_ g1) g2 g3,g3.plain⟩
      simp only [execOp,ho,resolve,pure_bind,invoke,builtin,e1,e2]
     ·simp at he
    ·simp at he
   | _=>simp only [dZ,ho] at he;exact hpure (by rw [ho];exact he)
  | value f=>
   simp only [dZ,ho] at he
   obtain ⟨⟨g,l⟩,h1,he⟩:=ag he
   rw [hG] at h1
   obtain ⟨xs,hs,hrun⟩:=gG (P:=X.P) h hch ho h1
   obtain ⟨hcall,fn,g1,g2,g3⟩:=pD hX hG h hs he
   refine ⟨?_,?_⟩
   case refine_2=>
    obtain ⟨e,w',fr,⟨c2,x,_,_,_,hx⟩,_⟩:=hcall []
    exact hx.plain
   intro Q
   simp only [Oper.wp,hrun fn g1 g2 g3,Oper.upon]
   refine hcall.mono ?_
   rintro e w' ⟨c2,x,rfl,rfl,hr,hx⟩
   exact ⟨c2,rfl,hr.put' hd hx⟩
  | invoke r m=>simp only [dZ,ho] at he;exact hpure (by rw [ho];exact he)
 | _=>simp only [dZ,ho] at he;exact hpure (by rw [ho];exact he)
theorem sZ {X:Cfg} (hX:cj X) (hG:X.G=B.G) (h:Rel B c s a) {o:Oper} (hd:∀t,o.dst=some t->t < B.N/\fI s t) {v:AV} {objs':List (Nat×AO)}
  (he:y6 X s o=some (true,v,objs')):ea X.P B c a o (s.after o.dst v objs')/\v.bX=false:=by
 have hch:tx a []:=λt w hm=>by simp at hm
 cases ho:o.op with
 | buildSlice t n ps=>
  simp only [y6,ho] at he
  cases hg:X.grow o with
  | false=>rw [hg] at he;exact iQ hX hG h hd he
  | true=>
   rw [hg] at he
   simp only [cond_true] at he
   cases hdst:o.dst with
   | none=>simp [hdst] at he
   | some d=>
    simp only [hdst] at he
    cases hob:s.obj d with
    | some _=>simp [hob] at he
    | none=>
     simp only [hob] at he
     obtain ⟨l,h1,he⟩:=ag he
     rw [hG] at h1
     split at he
     ·rename_i b sz m get hb
      obtain ⟨_,he⟩:=au he
      simp only [Option.some.injEq,Prod.mk.injEq] at he
      obtain ⟨rfl,rfl,rfl⟩:=he
      obtain ⟨y,c',e1,e2,e3⟩:=pJ (P:=X.P) h hob (dY h hch h1) hb
      refine ⟨hdst ▸ ea.value hd (dC ?_ e1) e2 e3,e3.plain⟩
      simp only [execOp,ho]
      congr 1
      congr 1
      apply Array.ext'
      simp
     ·simp at he
 | makeSlice t l n=>
  simp only [y6,ho] at he
  cases hg:X.grow o with
  | false=>rw [hg] at he;exact iQ hX hG h hd he
  | true=>
   rw [hg] at he
   simp only [cond_true] at he
   obtain ⟨u,h1,he⟩:=ag he
   obtain ⟨q,h2,he⟩:=ag he
   obtain ⟨⟨b,v'⟩,h3,he⟩:=aQ he
   simp only [Prod.mk.injEq] at he
   obtain ⟨rfl,rfl,rfl⟩:=he
   rw [hG] at h1 h2
   have hg:=cr.of (P:=X.P) (a:=a) (o:=o) (by simp only [execOp,ho]) (gZ (a:=a) (t:=t) h (av h hch h1).rep (av h hch h2).rep h3)
   refine ⟨hg.step h hd,?_⟩
   obtain ⟨_,_,_,_,_,h4⟩:=hg
   exact h4.plain
 | _=>simp only [y6,ho] at he;cases he
theorem kF {X:Cfg} (hX:cj X) (hG:X.G=B.G) (h:Rel B c s a) {o:Oper} (hd:∀t,o.dst=some t->t < B.N/\fI s t) {v:AV} {objs':List (Nat×AO)}
  (he:yD X s o=some (true,v,objs')):ea X.P B c a o (s.after o.dst v objs')/\v.bX=false:=by
 unfold yD at he
 split at he
 ·rename_i f args ts ho
  have hch:tx a []:=λt w hm=>by simp at hm
  obtain ⟨⟨g,l⟩,h1,he⟩:=ag he
  rw [hG] at h1
  obtain ⟨xs,hs,hrun⟩:=gG (P:=X.P) h hch ho h1
  obtain ⟨hcall,fn,g1,g2,g3⟩:(Calls X.P g xs.toArray c.w λe w'=>∃c2 x,e=.returned x/\c2.w=w'/\Rel B c2 (s.with objs') a/\Sees B c2 (s.with objs') v x) /\
    ∃fn,X.P.funcs[g]?=some fn/\(fn.name=="runtime.NumGoroutine")=false/\fn.body.isSome=true:=by
   cases hl:X.lend o with
   | true=>rw [hl] at he;exact n3 hX hG h hs he
   | false=>rw [hl] at he;exact nZ hX hG h hs he
  refine ⟨?_,?_⟩
  case refine_2=>
   obtain ⟨e,w',fr,⟨c2,x,_,_,_,hx⟩,_⟩:=hcall []
   exact hx.plain
  intro Q
  simp only [Oper.wp,hrun fn g1 g2 g3,Oper.upon]
  refine hcall.mono ?_
  rintro e w' ⟨c2,x,rfl,rfl,hr,hx⟩
  exact ⟨c2,rfl,hr.put' hd hx⟩
 ·cases hx:isX o.op with
  | true=>rw [hx] at he;exact sZ hX hG h hd he
  | false=>rw [hx] at he;exact iQ hX hG h hd he
end Go.Ab

namespace Go.Ab
open Go Go.RowKit
variable {P:Program} {B:Base} {c:Cx} {s:St} {a:Act}
theorem dx (s:St) (d:Option Nat) (v:AV) (objs:List (Nat×AO)) (t:Nat):(s.after d v objs).get t=if d=some t then some v else s.get t:=by
 cases d with
 | none=>simp [St.after,St.put,St.get]
 | some d=>
  simp only [St.after,St.dh,Option.some.injEq]
  rfl
theorem sO (s:St) (d:Option Nat) (v:AV) (objs:List (Nat×AO)):(s.after d v objs).objs=objs:=by simp [St.after]
theorem jB (b:Bool):undef≠.bool b:=by simp [undef]
theorem j1 {objs:List (Nat×AO)} {k:Nat} (h:k∈pP objs):live objs k:=by
 induction objs with
 | nil=>simp [pP] at h
 | cons p r ih=>
  obtain ⟨q,o⟩:=p
  by_cases e:q=k
  ·exact ⟨o,by simp [alook,e]⟩
  ·simp only [pP,List.mem_cons] at h
   obtain ⟨o',h'⟩:=ih (h.resolve_left (λx=>e x.symm))
   exact ⟨o',by simp [alook,gN e,h']⟩
theorem uP {objs:List (Nat×AO)} {k:Nat} (h:live objs k):k∈pP objs:=by
 induction objs with
 | nil=>obtain ⟨o,h⟩:=h;simp [alook] at h
 | cons p r ih=>
  obtain ⟨q,o⟩:=p
  by_cases e:q=k
  ·simp [pP,e]
  ·obtain ⟨o',h'⟩:=h
   simp only [alook,gN e,cond_false] at h'
   simp [pP,ih ⟨o',h'⟩]
theorem sh (h:Rel B c s a):∀ {n t:Nat} {w:Bool},a.tmps.getD t undef=.bool w->tx a (bE s n t w)
 | 0,t,w,ht=>by
  intro t' w' hm
  simp [bE] at hm
  obtain ⟨rfl,rfl⟩:=hm;exact ht
 | n+1,t,w,ht=>by
  intro t' w' hm
  simp only [bE,List.mem_cons] at hm
  rcases hm with hm | hm
  ·obtain ⟨rfl,rfl⟩:=hm;exact ht
  ·cases hg:s.get t with
   | none=>simp [hg] at hm
   | some u=>
    cases u with
    | grd tc wc u'=>
     simp only [hg] at hm
     have he:=h.env t _ hg
     have:a.tmps.getD tc undef=.bool wc:=by
      refine Classical.byContradiction λhne=>?_
      have h2:=he.2 hne
      rw [ht] at h2
      exact jB w h2.symm
     exact sh h this t' w' hm
    | _=>simp [hg] at hm
theorem jm (h:Rel B c s a):∀ {ch:eM} {g:Bool},tx a ch->fV s ch=some g->g=true
 | [],g,_,he=>by simp [fV] at he;exact he
 | (t,w)::r,g,hc,he=>by
  have ht:=hc t w (by simp)
  have hr:tx a r:=λt' w' hm=>hc t' w' (List.mem_cons_of_mem _ hm)
  simp only [fV] at he
  cases hg:s.get t with
  | none=>simp [hg] at he
  | some u=>
   have hE:=h.env t _ hg
   cases u with
   | bool b=>
    simp only [hg] at he
    obtain ⟨g',h1,h2⟩:=aQ he
    have:=jm h hr h1
    subst this
    have hb:Rep c (.bool b) (a.tmps.getD t undef):=hE
    rw [ht] at hb
    cases hb
    simp at h2;exact h2
   | grd tc wc u'=>
    cases u' with
    | bool b=>
     simp only [hg] at he
     obtain ⟨g',h1,h2⟩:=aQ he
     have:=jm h hr h1
     subst this
     have hw:a.tmps.getD tc undef=.bool wc:=by
      refine Classical.byContradiction λhne=>?_
      have h2:=hE.2 hne
      rw [ht] at h2
      exact jB w h2.symm
     have hb:Rep c (.bool b) (a.tmps.getD t undef):=hE.1 hw
     rw [ht] at hb
     cases hb
     simp at h2;exact h2
    | _=>simp [hg] at he
   | _=>simp [hg] at he
def vF (P:Program) (ops:Array Oper) (B:Base) (c:Cx) (a:Act) (i:Nat) (s':St):Prop:=
 ∀ (Q:Exit->Act->World->Prop) (K:Act->World->Prop),(∀a' c',Rel B c' s' a'->K a' c'.w)->wpOp P ops Q i K a c.w
theorem ea.istep {ops:Array Oper} {i:Nat} {o:Oper} {s':St} (ho:ops[i]?=some o) (hg:o.guard=none) (h:ea P B c a o s'):vF P ops B c a i s':=by
 intro Q K hK
 unfold wpOp
 simp only [ho,Region.wanted,hg,if_true]
 exact .inl (Oper.wp_mono (λa' w'=>by rintro ⟨c',rfl,hr⟩;exact hK a' c' hr) (h Q))
theorem iD {ops:Array Oper} {o:Oper} {j t:Nat} {w:Bool} (hg:o.guard=some (j,w)) (ht:(ops[j]?).bind (·.dst)=some t) :
  Region.wanted o (yielded ops a.tmps)=true↔a.tmps.getD t undef=.bool w:=by
 simp only [Region.wanted,hg,yielded,ht,Option.bind_some]
 rw [Array.getD_eq_getD_getElem?]
 cases ht':a.tmps[t]? with
 | none=>simp [undef]
 | some v=>
  cases v <;> simp
theorem pZ:∀ (o:Own) (m:Nat->Nat) (sz n:Nat) (get:Nat->List AV),(AV.sl o sz n get).keys=[]->(AV.sl o sz n get).ren m=.sl o sz n get:=by
 intro o m sz n get h
 cases o <;> simp_all [AV.keys,AV.ren]
mutual
theorem p5 (m:Nat->Nat):∀ (v:AV),v.keys=[]->v.ren m=v
 | .sl o sz n get,h=>pZ o m sz n get h
 | .agg cs,h=>by simp only [AV.ren];rw [gn m cs (by simpa [AV.keys] using h)]
 | .tup vs,h=>by simp only [AV.ren];rw [gn m vs (by simpa [AV.keys] using h)]
 | .ref ..,h | .aref ..,h | .msl ..,h=>by simp [AV.keys] at h
 | .fn f p q,h=>by
  simp only [AV.keys,List.append_eq_nil_iff] at h
  simp only [AV.ren];rw [gn m p h.1,gn m q h.2]
 | .bool _,_ | .int ..,_ | .str _,_ | .nilp,_ | .nilf,_ | .nilm,_ | .nili,_ | .nni,_ | .num _,_ | .undef,_ | .raw _,_ | .arr ..,_ | .elt ..,_ | .fms ..,_=>rfl
 | .grd t w v,h=>by simp only [AV.ren];rw [p5 m v (by simpa [AV.keys] using h)]
theorem gn (m:Nat->Nat):∀ (l:List AV),ak l=[]->ke m l=l
 | [],_=>rfl
 | v::r,h=>by
  simp only [ak,List.append_eq_nil_iff] at h
  simp only [ke];rw [p5 m v h.1,gn m r h.2]
end
theorem iL {α:Type} {l:List α} (h:isNil l=true):l=[]:=by cases l <;> simp_all [isNil]
theorem pA {X:Cfg} {o:Oper} {t:Nat} {w:Bool} {v:AV} (he:nt X s o t w=some (true,v)) (hn:∀f args ts,o.op≠.call {callee:=.value f,args,argTypes:=ts}) :
  ∃g b,fV s (bE s 4 t w)=some g/\bD X.P ⟨s,X.G,bE s 4 t w⟩ o.op=some (b,v)/\(cond b true (!g))=true/\kc v.keys (pP s.objs)=true:=by
 have key:((fV s (bE s 4 t w)).bind λg=>(bD X.P ⟨s,X.G,bE s 4 t w⟩ o.op).bind λr=>aj (kc r.2.keys (pP s.objs)) (some (cond r.1 true (!g),r.2)))=some (true,v):=by
  cases ho:o.op with
  | call q=>
   obtain ⟨callee,args,ts⟩:=q
   cases callee with
   | value f=>exact absurd ho (hn f args ts)
   | _=>simpa only [nt,ho] using he
  | _=>simpa only [nt,ho] using he
 obtain ⟨g,h1,key⟩:=ag key
 obtain ⟨⟨b,u⟩,h2,key⟩:=ag key
 obtain ⟨h3,key⟩:=au key
 simp only [Option.some.injEq,Prod.mk.injEq] at key
 obtain ⟨h4,rfl⟩:=key
 exact ⟨g,b,h1,h2,h4,h3⟩
theorem nr {X:Cfg} (hX:cj X) (hG:X.G=B.G) (h:Rel B c s a) {ops:Array Oper} {i j t d:Nat} {w:Bool} {o:Oper} (hoi:ops[i]?=some o) (hg:o.guard=some (j,w)) (ht:(ops[j]?).bind (·.dst)=some t)
  (hdst:o.dst=some d) (hdN:d < B.N) (hfree:fI s d) (hdt:d≠t) {v:AV} (he:nt X s o t w=some (true,v)):vF X.P ops B c a i (s.put (some d) (.grd t w v)):=by
 intro Q K hK
 unfold wpOp
 simp only [hoi]
 have hkeys:∀k∈v.keys,live s.objs k:=by
  intro k hk
  by_cases hc:∃f args ts,o.op=.call {callee:=.value f,args,argTypes:=ts}
  ·obtain ⟨f,args,ts,ho⟩:=hc
   simp only [nt,ho] at he
   obtain ⟨q,_,he⟩:=ag he
   obtain ⟨_,he⟩:=au he
   obtain ⟨⟨r,os⟩,_,he⟩:=ag he
   cases os with
   | nil=>
    dsimp only at he
    obtain ⟨hb,he⟩:=au he
    simp only [Option.some.injEq,Prod.mk.injEq] at he
    obtain ⟨_,rfl⟩:=he
    simp only [Bool.and_eq_true] at hb
    rw [iL hb.1] at hk;simp at hk
   | cons _ _=>simp at he
  ·obtain ⟨_,_,_,_,_,h5⟩:=pA he (λf args ts e=>hc ⟨f,args,ts,e⟩)
   exact j1 (bS h5 k hk)
 by_cases hw:Region.wanted o (yielded ops a.tmps)=true
 ·have hbool:=(iD hg ht).1 hw
  have hch:=sh h (n:=4) hbool
  rw [if_pos hw]
  refine .inl ?_
  by_cases hc:∃f args ts,o.op=.call {callee:=.value f,args,argTypes:=ts}
  ·obtain ⟨f,args,ts,ho⟩:=hc
   simp only [nt,ho] at he
   obtain ⟨⟨g,l⟩,h1,he⟩:=ag he
   obtain ⟨hnil,he⟩:=au he
   obtain ⟨⟨r,os⟩,h2,he⟩:=ag he
   cases os with
   | cons _ _=>simp at he
   | nil=>
    dsimp only at he
    obtain ⟨hb,he⟩:=au he
    simp only [Option.some.injEq,Prod.mk.injEq] at he
    obtain ⟨hpre,rfl⟩:=he
    simp only [Bool.and_eq_true] at hb
    have hl:=iL hnil
    dsimp only at hl h2
    rw [hG] at h1
    obtain ⟨xs,hs,hrun⟩:=gG (P:=X.P) h hch ho h1
    obtain ⟨hok,fn,g1,g2,g3⟩:=hX _ _ _ _ _ hpre h2
    rw [hG] at hok
    have hcore:=mB (P:=X.P) (f:=g) (r:=r) (ks:=[]) (os:=[]) (os':=[]) h List.nodup_nil rfl (by simp [bg]) hs (by rw [hl];simp) (by rw [gn _ _ hl];exact hok) rfl
    simp only [Oper.wp,hrun fn g1 g2 g3,Oper.upon]
    refine hcore.mono ?_
    rintro e w' ⟨c2,x,rfl,rfl,hr,hx⟩
    have hr':Rel B c2 s a:=hr
    have hx':Rep c2 r x:=by have:=hx.rep;rw [p5 _ _ (iL hb.1)] at this;exact this
    refine hK _ _ ?_
    rw [hdst]
    exact hr'.zK hdN hdt (λ_=>hx') (λhn=>absurd hbool hn) hkeys hfree
  ·obtain ⟨g,b,h1,h2,h3,_⟩:=pA he (λf args ts e=>hc ⟨f,args,ts,e⟩)
   have:=jm h hch h1
   subst this
   have hb:b=true:=by cases b <;> simp_all
   subst hb
   rw [hG] at h2
   obtain ⟨x,c',e1,e2,e3,e4⟩:=l6 h hch h2
   simp only [Oper.wp,e1,Oper.upon]
   refine hK _ _ ?_
   rw [hdst]
   exact (h.keep e2 e3).zK hdN hdt (λ_=>e4.rep) (λhn=>absurd hbool hn) hkeys hfree
 ·have hbool:a.tmps.getD t undef≠.bool w:=λe=>hw ((iD hg ht).2 e)
  rw [if_neg hw]
  refine hK _ _ ?_
  rw [hdst]
  exact h.zK hdN hdt (λe=>absurd e hbool) (λ_=>rfl) hkeys hfree
def bI (s:St):Prop:=∀t v,s.get t=some v->v.bX=false
theorem oH {X:Cfg} {o:Oper} {k:St->Res} {r:AV×List AO} (he:oI X s o k=some r):∃v objs',dZ X s o=some (true,v,objs')/\k (s.after o.dst v objs')=some r:=by
 rw [lE] at he
 obtain ⟨⟨b,v,objs'⟩,h1,he⟩:=ag he
 obtain ⟨rfl,he⟩:=au he
 exact ⟨v,objs',h1,he⟩
theorem tQ {X:Cfg} {o:Oper} {k:St->Res} {r:AV×List AO} (he:sy X s o k=some r):∃v objs',dZ X s o=some (true,v,objs')/\k (s.after o.dst v objs')=some r:=by
 unfold sy at he
 split at he
 ·cases hb:X.brk o with
  | true=>
   rw [hb,cond_true] at he
   obtain ⟨⟨b,v,objs'⟩,h1,he⟩:=ag he
   obtain ⟨rfl,he⟩:=au he
   exact ⟨v,objs',h1,u9 he⟩
  | false=>rw [hb,cond_false] at he;exact oH he
 ·exact oH he
theorem oC {X:Cfg} {o:Oper} {k:St->Res} {r:AV×List AO} (he:nB X s o k=some r):∃v objs',yD X s o=some (true,v,objs')/\k (s.after o.dst v objs')=some r:=by
 rw [nA] at he
 obtain ⟨⟨b,v,objs'⟩,h1,he⟩:=ag he
 obtain ⟨rfl,he⟩:=au he
 exact ⟨v,objs',h1,he⟩
theorem oE {X:Cfg} {o:Oper} {t:Nat} {w:Bool} {k:St->Res} {r:AV×List AO} (he:stepG X s o t w k=some r) :
  ∃d v,o.dst=some d/\d≠t/\nt X s o t w=some (true,v)/\k (s.put (some d) (.grd t w v))=some r:=by
 rw [nC] at he
 cases hd:o.dst with
 | none=>simp [hd] at he
 | some d=>
  simp only [hd] at he
  obtain ⟨h1,he⟩:=kI he
  obtain ⟨⟨b,v⟩,h2,he⟩:=ag he
  obtain ⟨rfl,he⟩:=au he
  exact ⟨d,v,rfl,λe=>by subst e;simp at h1,h2,he⟩
def vG (s:St) (rest:List Oper):Prop:=∀t tc w v,s.get t=some (.grd tc w v)->∀o∈rest,o.dst≠some tc
theorem vG.after {s:St} {o:Oper} {rest:List Oper} (h:vG s (o::rest)) {v:AV} (hv:v.bX=false) (objs:List (Nat×AO)):vG (s.after o.dst v objs) rest:=by
 intro t tc w u hu q hq
 rw [dx] at hu
 by_cases e:o.dst=some t
 ·rw [if_pos e] at hu;cases hu;simp [AV.bX] at hv
 ·rw [if_neg e] at hu;exact h t tc w u hu q (List.mem_cons_of_mem _ hq)
theorem vG.zK {s:St} {o:Oper} {rest:List Oper} (h:vG s (o::rest)) {d t:Nat} {w:Bool} {v:AV} (hr:(rest.any λq=>q.dst==some t)=false):vG (s.put (some d) (.grd t w v)) rest:=by
 intro t' tc w' u hu q hq
 rw [St.dh] at hu
 by_cases e:d=t'
 ·rw [if_pos e] at hu
  simp only [Option.some.injEq,AV.grd.injEq] at hu
  obtain ⟨rfl,_,_⟩:=hu
  have:=List.any_eq_false.1 hr q hq
  simpa using this
 ·rw [if_neg e] at hu;exact h t' tc w' u hu q (List.mem_cons_of_mem _ hq)
theorem nS {s:St} {t:Nat} {v:AV} (h:s.get t=some v) (q:Nat):(s.put (some t) v).get q=s.get q:=by
 rw [St.dh]
 by_cases e:t=q
 ·subst e;rw [if_pos rfl,h]
 ·rw [if_neg e]
theorem Rel.same (h:Rel B c s a) {t:Nat} {v:AV} (hv:s.get t=some v):Rel B c (s.put (some t) v) a:=
 h.less (by rw [St.dB];exact h.kept) (λq u hu=>by rwa [nS hv] at hu) (λk o ho=>by simpa using ho) (λq u hu k hk=>by rw [St.dB];rw [nS hv] at hu;exact h.closed q u hu k hk) (λk o ho q hq=>by rw [St.dB];exact h.objs.closed k o (by simpa [St.obj] using ho) q hq)
theorem vG.same {s:St} {rest:List Oper} (h:vG s rest) {t:Nat} {v:AV} (hv:s.get t=some v):vG (s.put (some t) v) rest:=λq tc w u hu=>h q tc w u (by rwa [nS hv] at hu)
theorem tU {X:Cfg} {s:St} {o:Oper} {t:Nat} {w:Bool} {k:St->Res} {r:AV×List AO} (he:sB X s o t w k=some r) :
  ∃b,s.get t=some (.bool b)/\((b=w/\nB X (s.put (some t) (.bool b)) o k=some r)∨(b≠w/\k ((s.put (some t) (.bool b)).put o.dst .undef)=some r)):=by
 unfold sB at he
 split at he
 ·rename_i b hb
  refine ⟨b,hb,?_⟩
  cases w <;> cases b
  ·exact .inl ⟨rfl,he⟩
  ·exact .inr ⟨by simp,he⟩
  ·exact .inr ⟨by simp,he⟩
  ·exact .inl ⟨rfl,he⟩
 ·cases he
theorem dN {X:Cfg} (hX:cj X) (hG:X.G=B.G) {ops:Array Oper} {k:St->Res} {r:AV×List AO} {Q:Exit->Act->World->Prop} :
  ∀ (rest:List Oper) (i:Nat) (s:St) (c:Cx) (a:Act),(∀j o,rest[j]?=some o->ops[i+j]?=some o)->fp X ops rest s k=some r->Rel B c s a->(∀o∈rest,∀d,o.dst=some d->d < B.N)->vG s rest->
   (∀s' c' a',k s'=some r->Rel B c' s' a'->(bI s->fG rest=false->bI s')->Q .normal a' c'.w)->wpOps X.P ops Q (List.range' i rest.length) a c.w
 | [],i,s,c,a,_,he,h,_,_,hk=>by
  simp only [List.length_nil,List.range'_zero,wpOps]
  exact hk s c a he h (λhn _=>hn)
 | o::rest,i,s,c,a,hops,he,h,hN,hI,hk=>by
  have hoi:ops[i]?=some o:=hops 0 o rfl
  have hrest:∀j q,rest[j]?=some q->ops[i+1+j]?=some q:=λj q hq=>by
   have:=hops (j+1) q (by simpa using hq)
   rw [Nat.add_assoc,Nat.add_comm 1 j];exact this
  have hN':∀o∈rest,∀d,o.dst=some d->d < B.N:=λq hq=>hN q (List.mem_cons_of_mem _ hq)
  simp only [List.length_cons,List.range'_succ]
  rw [wpOps_cons]
  cases hg:o.guard with
  | none=>
   simp only [fp,hg] at he
   obtain ⟨v,objs',h1,h2⟩:=oC he
   have hfree:∀t,o.dst=some t->t < B.N/\fI s t:=λt ht=>⟨hN o (by simp) t ht,λt' tc w v' hgt e=>hI t' tc w v' hgt o (by simp) (by rw [ht,e])⟩
   obtain ⟨hstep,hv⟩:=kF hX hG h hfree h1
   refine hstep.istep hoi hg Q _ λa' c' hr=>?_
   refine dN hX hG rest (i+1) _ c' a' hrest h2 hr hN' (hI.after hv objs') λs' c2 a2 e1 e2 e3=>hk s' c2 a2 e1 e2 λhn hq=>e3 (λt u hu=>?_) (by simpa [fG,hg] using hq)
   rw [dx] at hu
   by_cases e:o.dst=some t
   ·rw [if_pos e] at hu;cases hu;exact hv
   ·rw [if_neg e] at hu;exact hn t u hu
  | some jw=>
   obtain ⟨j,w⟩:=jw
   simp only [fp,hg] at he
   cases ht:(ops[j]?).bind (·.dst) with
   | none=>simp [ht] at he
   | some t=>
    simp only [ht] at he
    obtain ⟨hany,he⟩:=kI he
    cases hbrk:X.brk o with
    | true=>
     rw [hbrk,cond_true] at he
     obtain ⟨b,hb,hee⟩:=tU he
     have h':=h.same hb
     have hI':=hI.same hb
     have hbt:=(h.env t _ hb)
     have hbv:a.tmps.getD t undef=.bool b:=by
      have hbt:Rep c (.bool b) (a.tmps.getD t undef):=hbt
      generalize a.tmps.getD t undef=Z at hbt
      cases hbt;rfl
     rcases hee with ⟨rfl,hs1⟩ | ⟨hne,hs1⟩
     ·obtain ⟨v,objs',h1,h2⟩:=oC hs1
      have hfree:∀t',o.dst=some t'->t' < B.N/\fI (s.put (some t) (.bool b)) t':=λt' ht'=>⟨hN o (by simp) t' ht',λt'' tc w' v' hgt e=>hI' t'' tc w' v' hgt o (by simp) (by rw [ht',e])⟩
      obtain ⟨hstep,hv⟩:=kF hX hG h' hfree h1
      have hw:Region.wanted o (yielded ops a.tmps)=true:=(iD hg ht).2 hbv
      have hist:vF X.P ops B c a i ((s.put (some t) (.bool b)).after o.dst v objs'):=by
       intro Q K hK
       unfold wpOp
       simp only [hoi]
       rw [if_pos hw]
       exact .inl (Oper.wp_mono (λa' w'=>by rintro ⟨c',rfl,hr⟩;exact hK a' c' hr) (hstep Q))
      refine hist Q _ λa' c' hr=>?_
      refine dN hX hG rest (i+1) _ c' a' hrest h2 hr hN' (hI'.after hv objs') λs' c2 a2 e1 e2 e3=>hk s' c2 a2 e1 e2 λhn hq=>?_
      simp [fG,hg] at hq
     ·have hw:¬ Region.wanted o (yielded ops a.tmps)=true:=λe=>by
       have:=(iD hg ht).1 e
       rw [hbv] at this
       exact hne (by simpa using this)
      have hist:vF X.P ops B c a i ((s.put (some t) (.bool b)).put o.dst .undef):=by
       intro Q K hK
       unfold wpOp
       simp only [hoi]
       rw [if_neg hw]
       refine hK _ _ ?_
       cases hd:o.dst with
       | none=>exact h'
       | some d=>exact h'.put (hN o (by simp) d hd) (.undef _) rfl (by simp [AV.keys]) (λt'' tc w' v' hgt e=>hI' t'' tc w' v' hgt o (by simp) (by rw [hd,e]))
      refine hist Q _ λa' c' hr=>?_
      refine dN hX hG rest (i+1) _ c' a' hrest hs1 hr hN' (hI'.after (v:=.undef) rfl (s.put (some t) (.bool b)).objs) λs' c2 a2 e1 e2 e3=>hk s' c2 a2 e1 e2 λhn hq=>?_
      simp [fG,hg] at hq
    | false=>
    rw [hbrk,cond_false] at he
    obtain ⟨d,v,hd,hdt,h1,h2⟩:=oE he
    have hfree:fI s d:=λt' tc w v' hgt e=>hI t' tc w v' hgt o (by simp) (by rw [hd,e])
    refine nr hX hG h hoi hg ht hd (hN o (by simp) d hd) hfree hdt h1 Q _ λa' c' hr=>?_
    refine dN hX hG rest (i+1) _ c' a' hrest h2 hr hN' (hI.zK hany) λs' c2 a2 e1 e2 e3=>hk s' c2 a2 e1 e2 λhn hq=>?_
    simp [fG,hg] at hq
theorem jz (env:List (Nat×AV)) (t:Nat):alook (purge env) t=(alook env t).map λv=>cond v.bX .undef v:=by
 induction env with
 | nil=>rfl
 | cons p r ih=>
  obtain ⟨q,v⟩:=p
  simp only [purge,alook]
  cases Nat.beq q t <;> simp [ih]
theorem Rel.purge (h:Rel B c s a):Rel B c {s with env:=purge s.env} a:=by
 refine ⟨h.good,h.frame,h.objs,λt v hv=>?_,λt v hv=>?_,h.mine,h.tmps,h.defers,h.kept⟩
 ·simp only [St.get,jz] at hv
  obtain ⟨u,h1,h2⟩:=aQ hv
  cases hu:u.bX with
  | true=>simp only [hu,cond_true] at h2;subst h2;exact dz.nf rfl (.undef _)
  | false=>simp only [hu,cond_false] at h2;subst h2;exact h.env t u h1
 ·simp only [St.get,jz] at hv
  obtain ⟨u,h1,h2⟩:=aQ hv
  cases hu:u.bX with
  | true=>simp only [hu,cond_true] at h2;subst h2;simp [AV.keys]
  | false=>simp only [hu,cond_false] at h2;subst h2;exact h.closed t u h1
theorem bI.purge (s:St):bI {s with env:=Go.Ab.purge s.env}:=by
 intro t v hv
 simp only [St.get,jz] at hv
 obtain ⟨u,h1,h2⟩:=aQ hv
 cases hu:u.bX with
 | true=>simp only [hu,cond_true] at h2;subst h2;rfl
 | false=>simp only [hu,cond_false] at h2;subst h2;exact hu
theorem bI.ginv {s:St} (h:bI s) (rest:List Oper):vG s rest:=by
 intro t tc w v hv
 have:=h t _ hv
 simp [AV.bX] at this
theorem jF {X:Cfg} (hX:cj X) (hG:X.G=B.G) {ops:Array Oper} {k:St->Res} {r:AV×List AO} {Q:Exit->Act->World->Prop} (he:eG X ops s k=some r) (h:Rel B c s a) (hn:bI s)
  (hN:∀o∈ops.toList,∀d,o.dst=some d->d < B.N) (hk:∀s' c' a',k s'=some r->Rel B c' s' a'->bI s'->Q .normal a' c'.w):wpOps X.P ops Q (List.range ops.size) a c.w:=by
 have hr:List.range ops.size=List.range' 0 ops.toList.length:=by simp [List.range_eq_range']
 rw [hr]
 have hops:∀j o,ops.toList[j]?=some o->ops[0+j]?=some o:=λj o ho=>by simpa using ho
 unfold eG at he
 cases hb:fG ops.toList with
 | true=>
  simp only [hb,cond_true] at he
  obtain ⟨_,he⟩:=bc he
  exact dN hX hG ops.toList 0 s c a hops he h hN (hn.ginv _) λs' c' a' e1 e2 _=>hk _ c' a' e1 e2.purge (bI.purge _)
 | false=>
  simp only [hb,cond_false] at he
  exact dN hX hG ops.toList 0 s c a hops he h hN (hn.ginv _) λs' c' a' e1 e2 e3=>hk _ c' a' e1 e2 (e3 hn hb)
theorem lX {X:Cfg} (hX:cj X) (hG:X.G=B.G) {ops:Array Oper} {id:Nat} {k:St->Res} {r:AV×List AO} {Q:Exit->Act->World->Prop} (he:eG X ops s k=some r) (h:Rel B c s a) (hn:bI s)
  (hN:∀o∈ops.toList,∀d,o.dst=some d->d < B.N) (hk:∀s' c' a',k s'=some r->Rel B c' s' a'->bI s'->Q .normal a' c'.w):(Code.region id ops false).wp X.P Q a c.w:=
 wp_region (jF hX hG he h hn hN hk)
end Go.Ab
