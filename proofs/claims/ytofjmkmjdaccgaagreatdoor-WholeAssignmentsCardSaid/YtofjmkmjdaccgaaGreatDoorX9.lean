/- people.first: the first exposures to an experiment. Events copied; a metric's check; its value at measures. Samples's inner function: measurements laid into rows. Samples's inner function: the mixed ones marked. Samples: each comes from an event; a mixed one has seen another arm. identity.distances: what a search finds, and how far. identity.Path: the links that it finds lead from one id to the other. audit.leads. Two ids that were merged have one open slot, which is forced for both. The start of an evaluation; an assignment that is forced. identity.Path without links; audit.Explain at a register of one slot. audit.Explain and audit.Check, at any slot of the first layer. A sample that saw two arms needs a slot that a merge has ended; every exposure's slot passes its audit. audit.Check of a record of one slot. The sanity check of explanations. WholeAssignments: identity merges change no treatment. -/
import Derived.Test.YtofjmkmjdaccgaaGreatDoorX8
set_option linter.unusedVariables false
set_option linter.unusedSimpArgs false
namespace Go.WF
open Go Go.Ab Go.Proofs
noncomputable def VFi:Env:={Vb [17,18,19,20,21,22,23,24] [] [] with trim:=λf p=>cond (Nat.beq f gV) (cond (p==[1,1,0,1]) (some (hn [3,5,7,10] [3,5,7,10,100010,41] [] [(7,0,41,75)])) (cond (p==[1,1]) (some (hn [1,3,5,7] [3,5,7] [] [(7,0,41,75)])) none)) (V0.trim f p)}
noncomputable instance envFi:EnvOk VFi wd:=⟨rfl,rfl,eu,eH⟩
abbrev JFX:Type:=List XPO×List LK×(List AV->Bool)×(Int->FR)
def φJf (x:JFX):AV×List AO:=(xpA x.1,[.cells [lkA x.2.1,.mref (ae+1)],atO x.2.2.1 x.2.2.2])
theorem D2:ItEq 10 100010:=⟨by decide,rfl,rfl,λ_ _ _ _=>by kernel_rfl,λ_ _ _ _ _=>by kernel_rfl,λ_ _ _ _ _=>by kernel_rfl,λl kd y i e=>⟨iZ4 10 100010 l kd y i e,λ_=>by kernel_rfl⟩,λ_ _ _ _ _ _=>by kernel_rfl,λ_ _ _ _ _=>by kernel_rfl,λ_ _ _ _ _=>by kernel_rfl⟩
def xpE (e:EV):XPO:=⟨e.id,e.cl,e.seq,e.time,e.arm,e.ver⟩
def E5 (l:List EV) (ex:TX) (y:List XPO):Prop:=∀x∈y,∃e∈l,e.kind=1/\e.name=ex/\x=xpE e
abbrev JFS:Type:=Nat×List XPO×(List AV->Bool)×(Int->FR)
def JfI (ls:List LK) (l:List EV) (ex:TX) (x:JFS):Prop:=x.1<=(evK 1 l).length/\x.2.1.length<=x.1/\E5 l ex x.2.1/\gJ ls x.2.2.1 x.2.2.2
def JfP (ls:List LK) (l:List EV) (ex:TX) (x:JFX):Prop:=x.2.1=ls/\x.1.length<=(evK 1 l).length/\E5 l ex x.1/\gJ ls x.2.2.1 x.2.2.2
theorem sF {n m:Nat} (h:Nat.blt n m=true):m - (n+1) < m - n:=by have:=ltB h;omega
section
variable {ls:List LK} {l:List EV} {ex:TX} {x:JFS}
theorem s7 {k:Int} {i:Nat} (h:i < (evK k l).length):(evK k l).getD i default∈l/\((evK k l).getD i default).kind=k:=by
 have:=List.mem_filter.1 (List.getElem_mem h)
 rw [List.getD_eq_getElem?_getD,List.getElem?_eq_getElem h]
 exact ⟨this.1,by simpa using this.2⟩
theorem Le (hn:l.length<=1000000) (hv:JfI ls l ex x):x.2.1.length<=1000000:=by
 have:=kv 1 l;have:=hv.1;have:=hv.2.1;omega
theorem Lg (hn:l.length<=1000000) (hv:JfI ls l ex x) (h:Nat.blt x.1 (evK 1 l).length=true):x.2.1.length < 1000000:=by
 have:=kv 1 l;have:=ltB h;have:=hv.2.1;omega
abbrev JOQ (ls:List LK) (y:List XPO) (a:TX) (t:Int) (d:List AV->Bool) (K:Int->FR) (r:JOX):Prop:=rJo [.ref ae 0,xpA y,.str a,.int .i64 t] [.cells [lkA ls,.mref (ae+1)],atO d K] r
theorem JOQ.p {y:List XPO} {a:TX} {t:Int} {d:List AV->Bool} {K:Int->FR} {r:JOX} (q:JOQ ls y a t d K r) (hk:gJ ls d K):r.2.1=ls/\gJ ls r.2.2.1 r.2.2.2/\(r.1 = -1∨OwA ls y a t r.1):=q ls y a t d K rfl rfl hk
theorem Lj {a:TX} {t:Int} {r:JOX} (hv:JfI ls l ex x) (h:Nat.blt x.1 (evK 1 l).length=true) (h2:(((evK 1 l).getD x.1 default).name==ex)=true) (q:JOQ ls x.2.1 a t x.2.2.1 x.2.2.2 r):JfI ls l ex (x.1+1,x.2.1++[xpE ((evK 1 l).getD x.1 default)],r.2.2.1,r.2.2.2):=by
 obtain ⟨e1,e2,e3,e4⟩:=hv
 refine ⟨ltB h,by simp;omega,λz hz=>?_,(q.p e4).2.1⟩
 rcases List.mem_append.1 hz with hz | hz
 ·exact e3 z hz
 ·obtain ⟨m1,m2⟩:=s7 (ltB h)
  exact ⟨_,m1,m2,beq_iff_eq.1 h2,List.mem_singleton.1 hz⟩
theorem Li {a:TX} {t:Int} {r:JOX} (hv:JfI ls l ex x) (h:Nat.blt x.1 (evK 1 l).length=true) (q:JOQ ls x.2.1 a t x.2.2.1 x.2.2.2 r):JfI ls l ex (x.1+1,x.2.1,r.2.2.1,r.2.2.2):=
 ⟨ltB h,Nat.le_succ_of_le hv.2.1,hv.2.2.1,(q.p hv.2.2.2).2.1⟩
theorem Hx {y:List XPO} {i:Nat} {ls':List LK} {d:List AV->Bool} {K:Int->FR} (e:ls'=ls):({env:=[(1000000,.int .i64 ((i+1:Nat):Int)),(3,.ref 3 0),(5,.ref 5 0),(7,.ref 7 0),(10,.fn aw [] [.ref 10 0,.ref 100010 0])],objs:=[(3,.cells [.ref 1000000 0]),(5,.cells [.str ex]),(7,.cells [.sl (.key 41) 6 (y.length+1) (ar y.length 1 (λj=>(y.getD j default).c) (ag [.str [],.str [],.int .i64 0,.int .i64 0,.int .i64 0,.int .i64 0] [(0,.agg [.str ((evK 1 l).getD i default).id,.str ((evK 1 l).getD i default).cl,.int .i64 ((evK 1 l).getD i default).seq,.int .i64 ((evK 1 l).getD i default).time,.int .i64 ((evK 1 l).getD i default).arm,.int .i64 ((evK 1 l).getD i default).ver])]))]),(10,.cells [evA l]),(100010,.cells [.int .i64 1]),(41,.own 6 (y.length+1)),(1000000,.cells [lkA ls',.mref 1000001]),(1000001,atO d K)]}:St)=(λx:JFS=>gh x.1 ({env:=[(3,.ref 3 0),(5,.ref 5 0),(7,.ref 7 0),(10,.fn aw [] [.ref 10 0,.ref 100010 0])],objs:=[(3,.cells [.ref 1000000 0]),(5,.cells [.str ex]),(7,.cells [.sl (.key 41) 6 (x.2.1.length) (λj=>(x.2.1.getD j default).c)]),(10,.cells [evA l]),(100010,.cells [.int .i64 1]),(41,.own 6 (x.2.1.length)),(1000000,.cells [lkA ls,.mref 1000001]),(1000001,atO x.2.2.1 x.2.2.2)]}:St)) (i+1,y++[xpE ((evK 1 l).getD i default)],d,K):=by
 subst e
 rw [gk XPO.c y (xpE ((evK 1 l).getD i default)) _ rfl]
 simp only [List.length_append,List.length_singleton];rfl
theorem Hw {a:TX} {t:Int} {r:JOX} (hv:JfI ls l ex x) (q:JOQ ls x.2.1 a t x.2.2.1 x.2.2.2 r):((λ(i:Nat) (y:List XPO) (d:List AV->Bool) (K:Int->FR) (ls':List LK)=>({env:=[(1000000,.int .i64 ((i+1:Nat):Int)),(3,.ref 3 0),(5,.ref 5 0),(7,.ref 7 0),(10,.fn aw [] [.ref 10 0,.ref 100010 0])],objs:=[(3,.cells [.ref 1000000 0]),(5,.cells [.str ex]),(7,.cells [.sl (.key 41) 6 (y.length+1) (ar y.length 1 (λj=>(y.getD j default).c) (ag [.str [],.str [],.int .i64 0,.int .i64 0,.int .i64 0,.int .i64 0] [(0,.agg [.str ((evK 1 l).getD i default).id,.str ((evK 1 l).getD i default).cl,.int .i64 ((evK 1 l).getD i default).seq,.int .i64 ((evK 1 l).getD i default).time,.int .i64 ((evK 1 l).getD i default).arm,.int .i64 ((evK 1 l).getD i default).ver])]))]),(10,.cells [evA l]),(100010,.cells [.int .i64 1]),(41,.own 6 (y.length+1)),(1000000,.cells [lkA ls',.mref 1000001]),(1000001,atO d K)]}:St)) x.1 x.2.1 r.2.2.1 r.2.2.2 r.2.1)=(λx:JFS=>gh x.1 ({env:=[(3,.ref 3 0),(5,.ref 5 0),(7,.ref 7 0),(10,.fn aw [] [.ref 10 0,.ref 100010 0])],objs:=[(3,.cells [.ref 1000000 0]),(5,.cells [.str ex]),(7,.cells [.sl (.key 41) 6 (x.2.1.length) (λj=>(x.2.1.getD j default).c)]),(10,.cells [evA l]),(100010,.cells [.int .i64 1]),(41,.own 6 (x.2.1.length)),(1000000,.cells [lkA ls,.mref 1000001]),(1000001,atO x.2.2.1 x.2.2.2)]}:St)) (x.1+1,x.2.1++[xpE ((evK 1 l).getD x.1 default)],r.2.2.1,r.2.2.2):=Hx (q.p hv.2.2.2).1
theorem Hv {a:TX} {t:Int} {r:JOX} (hv:JfI ls l ex x) (q:JOQ ls x.2.1 a t x.2.2.1 x.2.2.2 r):((λ(i:Nat) (y:List XPO) (d:List AV->Bool) (K:Int->FR) (ls':List LK)=>({env:=[(1000000,.int .i64 ((i+1:Nat):Int)),(3,.ref 3 0),(5,.ref 5 0),(7,.ref 7 0),(10,.fn aw [] [.ref 10 0,.ref 100010 0])],objs:=[(3,.cells [.ref 1000000 0]),(5,.cells [.str ex]),(7,.cells [.sl (.key 41) 6 (y.length) (λj=>(y.getD j default).c)]),(10,.cells [evA l]),(100010,.cells [.int .i64 1]),(41,.own 6 (y.length)),(1000000,.cells [lkA ls',.mref 1000001]),(1000001,atO d K)]}:St)) x.1 x.2.1 r.2.2.1 r.2.2.2 r.2.1)=(λx:JFS=>gh x.1 ({env:=[(3,.ref 3 0),(5,.ref 5 0),(7,.ref 7 0),(10,.fn aw [] [.ref 10 0,.ref 100010 0])],objs:=[(3,.cells [.ref 1000000 0]),(5,.cells [.str ex]),(7,.cells [.sl (.key 41) 6 (x.2.1.length) (λj=>(x.2.1.getD j default).c)]),(10,.cells [evA l]),(100010,.cells [.int .i64 1]),(41,.own 6 (x.2.1.length)),(1000000,.cells [lkA ls,.mref 1000001]),(1000001,atO x.2.2.1 x.2.2.2)]}:St)) (x.1+1,x.2.1,r.2.2.1,r.2.2.2):=by
 rw [(q.p hv.2.2.2).1];rfl
end
theorem D1 (ls:List LK) (l:List EV) (ex:TX) (hl:ls.length<=300000) (hm:l.length<=1000000):∃ (u:St->Bool) (w:St->JFX),(∀x:JFS,JfI ls l ex x->x.1=0->aW u w ((λx:JFS=>({env:=[(3,.ref 3 0),(5,.ref 5 0),(7,.ref 7 0),(10,.fn aw [] [.ref 10 0,.ref 100010 0])],objs:=[(3,.cells [.ref 1000000 0]),(5,.cells [.str ex]),(7,.cells [.sl (.key 41) 6 (x.2.1.length) (λj=>(x.2.1.getD j default).c)]),(10,.cells [evA l]),(100010,.cells [.int .i64 1]),(41,.own 6 (x.2.1.length)),(1000000,.cells [lkA ls,.mref 1000001]),(1000001,atO x.2.2.1 x.2.2.2)]}:St)) x) (JfP ls l ex))/\∀C:List (List Nat×Orc),mP (VFi.run [eOf,eJo] 1 C [] [] gV) gV [1,1,0,1,0] (mkO u w (λ(x:JFX) k=>k .nor {env:=[(3,.ref 3 0),(5,.ref 5 0),(7,.ref 7 0),(10,.fn aw [] [.ref 10 0,.ref 100010 0])],objs:=[(3,.cells [.ref 1000000 0]),(5,.cells [.str ex]),(7,.cells [.sl (.key 41) 6 (x.1.length) (λj=>(x.1.getD j default).c)]),(10,.cells [evA l]),(100010,.cells [.int .i64 1]),(41,.own 6 (x.1.length)),(1000000,.cells [lkA x.2.1,.mref 1000001]),(1000001,atO x.2.2.1 x.2.2.2)]})):=
 tW (V:=VFi) (T:=[eOf,eJo]) (d:=1) (Cf:=λC=>C) (Lf:=λ_=>[]) (W:=[]) D2 l 1 hm (by kernel_rfl) (by kernel_rfl) (hn [3,5,7,10] [3,5,7,10,100010,41] [] [(7,0,41,75)]) (λx:JFS=>{env:=[(3,.ref 3 0),(5,.ref 5 0),(7,.ref 7 0),(10,.fn aw [] [.ref 10 0,.ref 100010 0])],objs:=[(3,.cells [.ref 1000000 0]),(5,.cells [.str ex]),(7,.cells [.sl (.key 41) 6 (x.2.1.length) (λj=>(x.2.1.getD j default).c)]),(10,.cells [evA l]),(100010,.cells [.int .i64 1]),(41,.own 6 (x.2.1.length)),(1000000,.cells [lkA ls,.mref 1000001]),(1000001,atO x.2.2.1 x.2.2.2)]}) (λx=>x.1) (JfI ls l ex) (λx=>(evK 1 l).length - x.1) (λ(x:JFX) k=>k .nor {env:=[(3,.ref 3 0),(5,.ref 5 0),(7,.ref 7 0),(10,.fn aw [] [.ref 10 0,.ref 100010 0])],objs:=[(3,.cells [.ref 1000000 0]),(5,.cells [.str ex]),(7,.cells [.sl (.key 41) 6 (x.1.length) (λj=>(x.1.getD j default).c)]),(10,.cells [evA l]),(100010,.cells [.int .i64 1]),(41,.own 6 (x.1.length)),(1000000,.cells [lkA x.2.1,.mref 1000001]),(1000001,atO x.2.2.1 x.2.2.2)]}) (JfP ls l ex) (λx=>by kernel_rfl) (λx=>⟨rfl,rfl⟩)
  (λx hv=>.b (Nat.blt x.1 (List.length (evK 1 l))) (λh1=>
   .b (EV.name (List.getD (evK 1 l) x.1 default)==ex) (λh2=>
    .call (Bk ls x.2.1 ((evK 1 l).getD x.1 default).id ((evK 1 l).getD x.1 default).time x.2.2.1 x.2.2.2 hv.2.2.2 hl (Le hm hv)) λr3 q3=>
    .b (bif true then decide (r3.1 < 0) else false) (λh4=>
     .n (c:=roomy 64 (List.length x.2.1+1)&&Nat.beq (List.length x.2.1) (List.length x.2.1)) (bd (by have:=Lg hm hv h1;omega)) (
     .go {env:=[(1000000,.int .i64 (↑(x.1+1):Int)),(3,.ref 3 0),(5,.ref 5 0),(7,.ref 7 0),(10,.fn aw [] [.ref 10 0,.ref 100010 0])],objs:=[(3,.cells [.ref 1000000 0]),(5,.cells [.str ex]),(7,.cells [.sl (.key 41) 6 (List.length x.2.1+1) (ar (List.length x.2.1) 1 (λj=>[.str (XPO.id (List.getD x.2.1 j default)),.str (XPO.cl (List.getD x.2.1 j default)),.int .i64 (XPO.sq (List.getD x.2.1 j default)),.int .i64 (XPO.tm (List.getD x.2.1 j default)),.int .i64 (XPO.arm (List.getD x.2.1 j default)),.int .i64 (XPO.ver (List.getD x.2.1 j default))]) (ag [.str [],.str [],.int .i64 0,.int .i64 0,.int .i64 0,.int .i64 0] [(0,.agg [.str (EV.id (List.getD (evK 1 l) x.1 default)),.str (EV.cl (List.getD (evK 1 l) x.1 default)),.int .i64 (EV.seq (List.getD (evK 1 l) x.1 default)),.int .i64 (EV.time (List.getD (evK 1 l) x.1 default)),.int .i64 (EV.arm (List.getD (evK 1 l) x.1 default)),.int .i64 (EV.ver (List.getD (evK 1 l) x.1 default))])]))]),(10,.cells [evA l ]),(100010,.cells [.int .i64 1]),(41,.own 6 (List.length x.2.1+1)),(1000000,.cells [lkA r3.2.1,.mref 1000001]),(1000001,AO.mp false [KD.int .i64] r3.2.2.1 (fgA r3.2.2.2))]} (x.1+1,x.2.1++[xpE ((evK 1 l).getD x.1 default)],r3.2.2.1,r3.2.2.2) (Lj hv h1 h2 q3) (sF h1) (Hw hv q3))) λh4=>
    .go {env:=[(1000000,.int .i64 (↑(x.1+1):Int)),(3,.ref 3 0),(5,.ref 5 0),(7,.ref 7 0),(10,.fn aw [] [.ref 10 0,.ref 100010 0])],objs:=[(3,.cells [.ref 1000000 0]),(5,.cells [.str ex]),(7,.cells [.sl (.key 41) 6 (List.length x.2.1) λj=>[.str (XPO.id (List.getD x.2.1 j default)),.str (XPO.cl (List.getD x.2.1 j default)),.int .i64 (XPO.sq (List.getD x.2.1 j default)),.int .i64 (XPO.tm (List.getD x.2.1 j default)),.int .i64 (XPO.arm (List.getD x.2.1 j default)),.int .i64 (XPO.ver (List.getD x.2.1 j default))] ]),(10,.cells [evA l ]),(100010,.cells [.int .i64 1]),(41,.own 6 (List.length x.2.1)),(1000000,.cells [lkA r3.2.1,.mref 1000001]),(1000001,AO.mp false [KD.int .i64] r3.2.2.1 (fgA r3.2.2.2))]} (x.1+1,x.2.1,r3.2.2.1,r3.2.2.2) (Li hv h1 q3) (sF h1) (Hv hv q3)) λh2=>
   .go {env:=[(1000000,.int .i64 (↑(x.1+1):Int)),(3,.ref 3 0),(5,.ref 5 0),(7,.ref 7 0),(10,.fn aw [] [.ref 10 0,.ref 100010 0])],objs:=[(3,.cells [.ref 1000000 0]),(5,.cells [.str ex]),(7,.cells [.sl (.key 41) 6 (List.length x.2.1) λj=>[.str (XPO.id (List.getD x.2.1 j default)),.str (XPO.cl (List.getD x.2.1 j default)),.int .i64 (XPO.sq (List.getD x.2.1 j default)),.int .i64 (XPO.tm (List.getD x.2.1 j default)),.int .i64 (XPO.arm (List.getD x.2.1 j default)),.int .i64 (XPO.ver (List.getD x.2.1 j default))] ]),(10,.cells [evA l ]),(100010,.cells [.int .i64 1]),(41,.own 6 (List.length x.2.1)),(1000000,.cells [lkA ls,.mref 1000001]),(1000001,AO.mp false [KD.int .i64] x.2.2.1 (fgA x.2.2.2))]} (x.1+1,x.2) ⟨ltB h1,Nat.le_succ_of_le hv.2.1,hv.2.2⟩ (sF h1) rfl) λh1=>
  .fi (x.2.1,ls,x.2.2) ⟨rfl,Nat.le_trans hv.2.1 hv.1,hv.2.2⟩)
  (λx i k kn=>by kernel_rfl)
def rJf (A:List AV) (O:List AO) (x:JFX):Prop:=∀ls l ex d K,A=[.ref ae 0,evA l,.str ex]->O=[.cells [lkA ls,.mref (ae+1)],atO d K]->gJ ls d K->JfP ls l ex x
theorem Lh {ls:List LK} {l:List EV} {ex:TX} {d:List AV->Bool} {K:Int->FR} {t:OFX} {u:St->Bool} {w:St->JFX} (hu:∀x:JFS,JfI ls l ex x->x.1=0->aW u w ((λx:JFS=>({env:=[(3,.ref 3 0),(5,.ref 5 0),(7,.ref 7 0),(10,.fn aw [] [.ref 10 0,.ref 100010 0])],objs:=[(3,.cells [.ref 1000000 0]),(5,.cells [.str ex]),(7,.cells [.sl (.key 41) 6 (x.2.1.length) (λj=>(x.2.1.getD j default).c)]),(10,.cells [evA l]),(100010,.cells [.int .i64 1]),(41,.own 6 (x.2.1.length)),(1000000,.cells [lkA ls,.mref 1000001]),(1000001,atO x.2.2.1 x.2.2.2)]}:St)) x) (JfP ls l ex)) (hk:gJ ls d K) (ht:t=(l,1)):aW u w ({env:=[(3,.ref 3 0),(5,.ref 5 0),(7,.ref 7 0),(10,.fn aw [] [.ref 10 0,.ref 100010 0])],objs:=[(3,.cells [.ref 1000000 0]),(5,.cells [.str ex]),(7,.cells [.sl (.key 41) 6 (0) (λ_=>[.str [],.str [],.int .i64 0,.int .i64 0,.int .i64 0,.int .i64 0])]),(10,.cells [evA t.1]),(100010,.cells [.int .i64 t.2]),(41,.own 6 (0)),(1000000,.cells [lkA ls,.mref 1000001]),(1000001,atO d K)]}) (JfP ls l ex):=by
 subst ht
 exact hu (0,[],d,K) ⟨Nat.zero_le _,Nat.le_refl _,λ_ h=>absurd h List.not_mem_nil,hk⟩ rfl
theorem Hy (ls:List LK) (l:List EV) (ex:TX) (d:List AV->Bool) (K:Int->FR) (hk:gJ ls d K) (hl:ls.length<=300000) (hn:l.length<=1000000):bz wd gV φJf rJf [.ref ae 0,evA l,.str ex] [.cells [lkA ls,.mref (ae+1)],atO d K]:=by
 obtain ⟨u,w,hu,hc⟩:=D1 ls l ex hl hn
 refine (vE (V:=VFi) (T:=[eOf,eJo]) (d:=1) (R:=λ_ _ x=>JfP ls l ex x) 1 (C:=[([1,1,0,1,0],mkO u w (λ(x:JFX) k=>k .nor {env:=[(3,.ref 3 0),(5,.ref 5 0),(7,.ref 7 0),(10,.fn aw [] [.ref 10 0,.ref 100010 0])],objs:=[(3,.cells [.ref 1000000 0]),(5,.cells [.str ex]),(7,.cells [.sl (.key 41) 6 (x.1.length) (λj=>(x.1.getD j default).c)]),(10,.cells [evA l]),(100010,.cells [.int .i64 1]),(41,.own 6 (x.1.length)),(1000000,.cells [lkA x.2.1,.mref 1000001]),(1000001,atO x.2.2.1 x.2.2.2)]}))]) (L:=[]) (W:=[]) (λe he=>by rw [List.mem_singleton.1 he];exact hc _) ao ak (.call (yO l 1) λr1 q1=>
  .lp (Lh hu hk (rOf.eq q1)) λr2 q2=>
  .r r2 q2) (by kernel_rfl)).mono λx hx ls' l' ex' d' K' h1 h2 _=>?_
 simp only [List.cons.injEq,AV.str.injEq,true_and,and_true] at h1
 obtain ⟨e0,e1⟩:=h1
 injection h2 with h2 h3
 injection h2 with h2
 injection h2 with h2 _
 rw [<-e1,<-ee h2,<-ju e0];exact hx
noncomputable abbrev eJf:Ent:=dK wd gV φJf rJf
end Go.WF

namespace Go.WF
open Go Go.Ab Go.Proofs
structure MT where
 nm:TX
 bl:TX
 wi:Int
 cp:Int
 le:Int
 be:Int
instance:Inhabited MT:=⟨⟨[],[],0,0,0,0⟩⟩
def MT.c (k:Int) (m:MT):List AV:=[.int .i64 k,.str m.nm,.str m.bl,.int .i64 m.wi,.int .i64 m.cp,.int .i64 m.le,.int .i64 m.be]
abbrev kX:Int:=2
abbrev mX:MT:=⟨[98,117,121],[],500,9,-1099511627776,0⟩
def mtA:AV:=.agg (mX.c kX)
def kiO:AO:=AO.mp false [KD.int .i64] (λl=>bif bO l [.int .i64 4] then true else bif bO l [.int .i64 3] then true else bif bO l [.int .i64 2] then true else bif bO l [.int .i64 1] then true else false) λl=>bif bO l [.int .i64 4] then .agg [.str [114,97,116,105,111],.fn j4 [] [] ] else bif bO l [.int .i64 3] then .agg [.str [115,104,97,114,101],.fn j3 [] [] ] else bif bO l [.int .i64 2] then .agg [.str [99,111,117,110,116],.fn j3 [] [] ] else bif bO l [.int .i64 1] then .agg [.str [115,117,109],.fn j4 [] [] ] else .agg [.str [],.nilf]
def φKi (_:Unit):AV×List AO:=(.mref ae,[kiO])
def φEv (x:List EV):AV×List AO:=(evA x,[])
def φV2 (x:Int×Int):AV×List AO:=(.tup [.int .i64 x.1,.int .i64 x.2],[])
noncomputable def VMc:Env:={V0 with born:=onD [10]}
noncomputable def VMv:Env:={V0 with born:=onD [37]}
noncomputable instance envMc:EnvOk VMc wd:=⟨rfl,rfl,eu,eH⟩
noncomputable instance envMv:EnvOk VMv wd:=⟨rfl,rfl,eu,eH⟩
def GB {τ:Type} (_:List AV) (_:List AO) (_:τ):Prop:=True
open Classical in
theorem wh {τ:Type} {f:FuncId} {A:List AV} {O:List AO} {x:τ} {φ:τ->AV×List AO} {T:List Ent} [t:TabI wd T] (h:Ct wd.P wd.G f A O (φ x)):TabI wd (lD f A O x φ::T):=⟨λe he l os hp=>by
 rcases List.mem_cons.1 he with rfl | he
 ·obtain ⟨_,_,h1,h2⟩:∃v:Unit,True/\A=l/\O=os:=of_decide_eq_true hp
  subst h1 h2
  exact h
 ·exact t.ok e he l os hp⟩
theorem _root_.Go.Ab.Run.uI {τ:Type} {Post:τ->Prop} {φ:τ->AV×List AO} {g:Bool} {T:Res} (h:g=true) (k:∀ (_:Unit) (_:Unit),Run Post φ T):Run Post φ (cond g T none):=Run.n h (k () ())
theorem _root_.Go.Ab.RT.uI {α τ ι:Type} {S:α->St} {Inv:α->Prop} {μ:α->Nat} {out:τ->(Ex->St->Res)->Res} {Post:α->τ->Prop} {v:α} {c:Bool} {A:ι->(Ex->St->Res)->(St->Res)->Res} (h:c=true) (k:∀ (_:Unit) (_:Unit),RT S Inv μ out Post v A):RT S Inv μ out Post v (λi q kn=>cond c (A i q kn) none):=RT.n h (k () ())
theorem DW:Ct wd.P wd.G fm [] [] (φKi ()):=by
 obtain ⟨_,_,h⟩:bz wd fm φKi GB [] []:=bn (V:=V0) (T:=[]) (d:=1) 1 ao ak (.r () trivial) (by kernel_rfl)
 exact h
theorem KH {x:Bool} {os:List AO} (q:rS cw [.str mX.nm] os x):(!x)=false:=by rw [q mX.nm rfl];kernel_rfl
theorem DG:bz wd ml φIn (rE 0) [mtA] []:=
 haveI:=wh (T:=[]) DW
 bn (V:=VMc) (T:=[jX,lD fm [] [] () φKi]) (d:=3) 0 ao ak (.uI (mM [] []) λ_ _=>
  .call (cS mX.nm) λr1 q1=>
  .no (c:=!r1) (a:=cond (!r1) (some ((.int .i64 6,[]))) (some ((.int .i64 0,[])))) (KH q1) (
  .call (cS mX.bl) λr3 q3=>
  .r 0 rfl)) (by kernel_rfl)
noncomputable abbrev eMc:Ent:=dK wd ml φIn (rE 0)
theorem C9 {n:Nat} (h:n<=1000000):roomy 112 (0+n)=true:=by
 unfold roomy
 have:n*112<=1000000*112:=Nat.mul_le_mul h (Nat.le_refl _)
 rw [Nat.zero_add]
 exact Nat.ble_eq_true_of_le (by omega)
theorem zI {l:List EV}:Tr (.sl .no 10 (0+l.length) (ar 0 l.length (ag [.str [],.int .i64 0,.int .i64 0,.int .i64 0,.str [],.str [],.str [],.int .i64 0,.int .i64 0,.int .i64 0] []) λj=>(l.getD j default).c),[]) (φEv l):=by
 rw [IJ λj hj=>by rw [gd hj];rfl,Nat.zero_add];exact Tr.refl _
theorem BR (i j:List EV) (h:(λi:List EV=>([evA i],([]:List AO))) i=(λi:List EV=>([evA i],([]:List AO))) j):i=j:=by
 injection h with h _;injection h with h _;exact ju h
def rCE:List AV->List AO->List EV->Prop:=rX (λi:List EV=>([evA i],[])) id
theorem rCE.eq {l x:List EV} (h:rCE [evA l] [] x):x=l:=h l rfl
theorem Et (l:List EV) (h:l.length<=1000000):bz wd eW φEv rCE [evA l] []:=by
 have h1:bz wd eW φN0 (rE ()) [.sl .nl 10 0 λj=>(l.getD j default).c] []:=bn (V:=V0) (T:=[]) (d:=1) 0 ao ak (.r () rfl) (by kernel_rfl)
 have h2:bz wd eW φEv (rE l) [.sl .nn 10 l.length λj=>(l.getD j default).c] []:=bn (V:=V0) (T:=[]) (d:=1) 0 ao ak (.n (c:=roomy 112 (0+List.length l)) (C9 h) (
  .t l rfl zI)) (by kernel_rfl)
 refine ⟨l,rX.mk BR l rfl rfl,uE (λh0=>?_) h2.ctE⟩
 refine Tr.ct (Tr.one ?_) h1.ctE
 obtain rfl:l=[]:=List.length_eq_zero_iff.1 h0
 exact cz
noncomputable abbrev eCE:Ent:=dK wd eW φEv rCE
section
variable {l:List EV} {v:Nat}
theorem KG (hk:∀e∈l,e.kind=2) (h:v < l.length):(EV.kind (List.getD l v default) !=2)=false:=by
 rw [List.getD_eq_getElem?_getD,List.getElem?_eq_getElem h,Option.getD_some,hk _ (List.getElem_mem h)];rfl
theorem KF (hl:l.length<=1000000) (h:v < l.length):{env:=[(0,evA l),(1,.fn bt [] []),(7,.int .i64 (List.length l:Int)),(8,.int .i64 (IntKind.wrap .i64 ((v:Int)+1)))],objs:=[]}=(λv:Nat=>({env:=[(0,evA l),(1,.fn bt [] []),(7,.int .i64 l.length),(8,.int .i64 (v:Int))],objs:=[]}:St)) (v+1):=by
 rw [bC (by omega)]
theorem I0 {v:Int×Nat} {a:Int} (hl:l.length<=1000000) (h:v.2 < l.length):{env:=[(2,.ref 2 0),(7,.int .i64 a),(8,.int .i64 0),(18,evA l),(19,.int .i64 (List.length l:Int)),(20,.int .i64 (IntKind.wrap .i64 ((v.2:Int)+1)))],objs:=[(2,.cells (mX.c kX))]}=(λv:Int×Nat=>({env:=[(2,.ref 2 0),(7,.int .i64 v.1),(8,.int .i64 0),(18,evA l),(19,.int .i64 l.length),(20,.int .i64 (v.2:Int))],objs:=[(2,.cells (mX.c kX))]}:St)) (a,v.2+1):=by
 rw [bC (by omega)]
theorem KE {A:List AV} {os:List AO} {x:Int} (q:rE 0 A os x):(x !=0)=false:=by have q:x=0:=q;rw [q];rfl
end
theorem GP (l:List EV) (hk:∀e∈l,e.kind=2) (hl:l.length<=1000000):bz wd dp φIn (rE (-1)) [evA l,.fn bt [] [] ] []:=by
 obtain ⟨u,w,hu,hc⟩:∃ (u:St->Bool) (w:St->Unit),(∀v:Nat,v<=l.length->aW u w ((λv:Nat=>({env:=[(0,evA l),(1,.fn bt [] []),(7,.int .i64 l.length),(8,.int .i64 (v:Int))],objs:=[]}:St)) v) λ_=>True)/\∀L:List (List Nat×Orc),bq (V0.run [] 2 [] L [] dp) dp [1,0,1,0] (mkO u w (λ(_:Unit) k=>k (.exit 0) {env:=[],objs:=[]})):=
  bX (Lf:=λL=>L) (λv:Nat=>{env:=[(0,evA l),(1,.fn bt [] []),(7,.int .i64 l.length),(8,.int .i64 (v:Int))],objs:=[]}) (λv=>v<=l.length) (λv=>l.length - v) (λ(_:Unit) k=>k (.exit 0) {env:=[],objs:=[]}) (λ_=>True) (by kernel_rfl) (λv hv=>.b (decide ((↑v:Int) < (↑(List.length l):Int))) (λh1=>
   .n (c:=within (↑v:Int) (List.length l)) (aO (aN h1)) (
   .no (c:=EV.kind (List.getD l v default) !=2) (A:=λ_ k kn=>k (.ret) ({env:=[(4,.int .i64 (↑v:Int))],objs:=[]})) (KG hk (aN h1)) (
   .go {env:=[(0,evA l),(1,.fn bt [] []),(7,.int .i64 (↑(List.length l):Int)),(8,.int .i64 (IntKind.wrap .i64 ((↑v:Int)+1)))],objs:=[]} (v+1) (aN h1) (iz (aN h1)) (KF hl (aN h1))))) λh1=>
  .fi () trivial) (λv L k kn=>by kernel_rfl)
 exact bn (V:=V0) (T:=[]) (d:=2) 0 (aE (hc _) ao) ak (.lp (hu 0 (Nat.zero_le _)) λr1 q1=>
  .r (-1) rfl) (by kernel_rfl)
def rDf:List AV->List AO->List EV->Prop:=rX (λi:List EV=>([evA i,.fn bt [] []],[])) id
theorem rDf.mk (l:List EV):rDf [evA l,.fn bt [] []] [] l:=rX.mk (λi j h=>by injection h with h _;injection h with h _;exact ju h) l rfl rfl
theorem H8 (l:List EV) (hk:∀e∈l,e.kind=2) (hl:l.length<=1000000):bz wd dY φEv rDf [evA l,.fn bt [] [] ] []:=
 haveI:=wh (T:=[]) (GP l hk hl).ctE
 bn (V:=V0) (T:=[lD dp [evA l,.fn bt [] [] ] [] (-1) φIn]) (d:=1) 0 ao ak (.uI (mM [evA l,.fn bt [] [] ] []) λ_ _=>
  .r l (rDf.mk l)) (by kernel_rfl)
noncomputable abbrev eDf:Ent:=dK wd dY φEv rDf
theorem H9 {l x:List EV} (hk:∀e∈l,e.kind=2) (hl:l.length<=1000000) (q:rCE [evA l] [] x):bz wd dY φEv rDf [evA x,.fn bt [] [] ] []:=by
 rw [q.eq];exact H8 l hk hl
theorem KB {l x y:List EV} (q:rCE [evA l] [] x) (q2:rDf [evA x,.fn bt [] [] ] [] y):y=l:=(q2 x rfl).trans q.eq
theorem KC {l y:List EV} {u:St->Bool} {w:St->Int} (hu:∀v:Int×Nat,v.2<=l.length->aW u w ((λv:Int×Nat=>({env:=[(2,.ref 2 0),(7,.int .i64 v.1),(8,.int .i64 0),(18,evA l),(19,.int .i64 l.length),(20,.int .i64 (v.2:Int))],objs:=[(2,.cells (mX.c kX))]}:St)) v) λ_=>True) (q:y=l):aW u w {env:=[(2,.ref 2 0),(7,.int .i64 0),(8,.int .i64 0),(18,evA y),(19,.int .i64 (List.length y:Int)),(20,.int .i64 0)],objs:=[(2,.cells (mX.c kX))]} λ_=>True:=by
 subst q;exact hu (0,0) (Nat.zero_le _)
theorem GN (l:List EV) (hk:∀e∈l,e.kind=2) (hl:l.length<=1000000):bz wd gv φV2 GB [mtA,evA l] []:=by
 haveI:=wh (T:=[]) DW
 obtain ⟨u,w,hu,hc⟩:∃ (u:St->Bool) (w:St->Int),(∀v:Int×Nat,v.2<=l.length->aW u w ((λv:Int×Nat=>({env:=[(2,.ref 2 0),(7,.int .i64 v.1),(8,.int .i64 0),(18,evA l),(19,.int .i64 l.length),(20,.int .i64 (v.2:Int))],objs:=[(2,.cells (mX.c kX))]}:St)) v) λ_=>True)/\∀L:List (List Nat×Orc),bq (VMv.run [eMc,eCE,eDf,lD fm [] [] () φKi] 3 [] L [] gv) gv [1,1,1,1,0,1,0] (mkO u w (λ(t:Int) k=>k (.exit 0) {env:=[(2,.ref 2 0),(7,.int .i64 t),(8,.int .i64 0)],objs:=[(2,.cells (mX.c kX))]})):=
  bX (Lf:=λL=>L) (λv:Int×Nat=>{env:=[(2,.ref 2 0),(7,.int .i64 v.1),(8,.int .i64 0),(18,evA l),(19,.int .i64 l.length),(20,.int .i64 (v.2:Int))],objs:=[(2,.cells (mX.c kX))]}) (λv=>v.2<=l.length) (λv=>l.length - v.2) (λ(t:Int) k=>k (.exit 0) {env:=[(2,.ref 2 0),(7,.int .i64 t),(8,.int .i64 0)],objs:=[(2,.cells (mX.c kX))]}) (λ_=>True) (by kernel_rfl) (λv hv=>.b (decide ((↑v.2:Int) < (↑(List.length l):Int))) (λh1=>
   .n (c:=within (↑v.2:Int) (List.length l)) (aO (aN h1)) (
   .b (bif EV.name (List.getD l v.2 default)==MT.nm mX then decide (EV.val (List.getD l v.2 default)≥MT.le mX) else false) (λh2=>
    .uI (mM [] []) λ_ _=>
    .go {env:=[(2,.ref 2 0),(7,.int .i64 (IntKind.wrap .i64 (v.1+1))),(8,.int .i64 0),(18,evA l),(19,.int .i64 (↑(List.length l):Int)),(20,.int .i64 (IntKind.wrap .i64 ((↑v.2:Int)+1)))],objs:=[(2,.cells [.int .i64 kX,.str (MT.nm mX),.str (MT.bl mX),.int .i64 (MT.wi mX),.int .i64 (MT.cp mX),.int .i64 (MT.le mX),.int .i64 (MT.be mX)])]} (_,v.2+1) (aN h1) (iz (aN h1)) (I0 hl (aN h1))) λh2=>
   .go {env:=[(2,.ref 2 0),(7,.int .i64 v.1),(8,.int .i64 0),(18,evA l),(19,.int .i64 (↑(List.length l):Int)),(20,.int .i64 (IntKind.wrap .i64 ((↑v.2:Int)+1)))],objs:=[(2,.cells [.int .i64 kX,.str (MT.nm mX),.str (MT.bl mX),.int .i64 (MT.wi mX),.int .i64 (MT.cp mX),.int .i64 (MT.le mX),.int .i64 (MT.be mX)])]} (v.1,v.2+1) (aN h1) (iz (aN h1)) (I0 hl (aN h1)))) λh1=>
  .fi v.1 trivial) (λv L k kn=>by kernel_rfl)
 exact bn (V:=VMv) (T:=[eMc,eCE,eDf,lD fm [] [] () φKi]) (d:=3) 0 (aE (hc _) ao) ak (.call (DG) λr1 q1=>
  .no (c:=r1 !=0) (a:=some ((.tup [.int .i64 0,.int .i64 0],[]))) (KE q1) (
  .call (Et l hl) λr3 q3=>
  .call (H9 hk hl q3) λr4 q4=>
  .lp (KC hu (KB q3 q4)) λr5 q5=>
  .r ((bif decide ((bif decide (MT.cp mX < r5) then MT.cp mX else r5) > 0) then bif decide (MT.cp mX < r5) then MT.cp mX else r5 else 0),(bif decide ((bif decide (MT.cp mX < 0) then MT.cp mX else 0) > 0) then bif decide (MT.cp mX < 0) then MT.cp mX else 0 else 0)) trivial)) (by kernel_rfl)
noncomputable abbrev eMv:Ent:=dK wd gv φV2 GB
end Go.WF

namespace Go.WF
open Go Go.Ab Go.Proofs
noncomputable def VS1:Env:={Vb [24,25,26,27,28,29,30,31,32,33,34] [] [] with grow:=λo=>match o.op with | .load _ (.tmp 9)=>true | _=>false,trim:=λf p=>cond (Nat.beq f bA) (cond (p==[1,1]) (some (hn [3,4,5,7,12] [7,12,100012] [] [])) none) (V0.trim f p)}
noncomputable instance envS1:EnvOk VS1 wd:=⟨rfl,rfl,eu,eH⟩
def mtG (G:Nat->List EV) (i:Nat):Nat×(Nat->List AV):=((G i).length,λj=>((G i).getD j default).c)
structure SAX where
 G:Nat->List EV
 b:Nat->Bool
 d:List AV->Bool
 K:Int->FR
def ψSa (_:List AV) (O:List AO) (x:SAX):AV×List AO:=
 match O with
 | [o0,o1,o2,o3,o4,.mat _ n _ _,p,_]=>(.tup [],[o0,o1,o2,o3,o4,.mat 10 n (mtG x.G) none,p,atO x.d x.K])
 | [o0,o1,o2,o3,o4,o5,.arr _ n _,p,_]=>(.tup [],[o0,o1,o2,o3,o4,o5,.arr 1 n (λj=>[.bool (x.b j)]),p,atO x.d x.K])
 | _=>(.undef,[])
instance:Inhabited SAX:=⟨⟨λ_=>[],λ_=>false,λ_=>false,λ_ _=>none⟩⟩
noncomputable def Je {τ:Type} [Inhabited τ] (D:Wd) (f:FuncId) (ψ:List AV->List AO->τ->AV×List AO) (R:List AV->List AO->τ->Prop):Ent:=⟨f,λl os=>gR D f (ψ l os) R l os,λl os=>ψ l os (wR D f (ψ l os) R l os)⟩
open Classical in
instance tabI_S {τ:Type} [Inhabited τ] {D:Wd} {f:FuncId} {ψ:List AV->List AO->τ->AV×List AO} {R:List AV->List AO->τ->Prop} {T:List Ent} [t:TabI D T]:TabI D (Je D f ψ R::T):=⟨λe he l os hp=>by
 rcases List.mem_cons.1 he with rfl | he
 ·exact (bz.at (of_decide_eq_true hp)).2.2
 ·exact t.ok e he l os hp⟩
theorem z8:ItEq 12 100012:=⟨by decide,rfl,rfl,λ_ _ _ _=>by kernel_rfl,λ_ _ _ _ _=>by kernel_rfl,λ_ _ _ _ _=>by kernel_rfl,λl kd y i e=>⟨iZ4 12 100012 l kd y i e,λ_=>by kernel_rfl⟩,λ_ _ _ _ _ _=>by kernel_rfl,λ_ _ _ _ _=>by kernel_rfl,λ_ _ _ _ _=>by kernel_rfl⟩
theorem Dy (G:Nat->List EV) (i:Nat) (e:EV) (h:Nat->List AV) (hh:h 0=e.c):(λq=>bif Nat.beq q i then ((mtG G i).1+1,ar (mtG G i).1 1 (mtG G i).2 h) else mtG G q)=mtG (λq=>bif Nat.beq q i then G i++[e] else G q):=by
 funext q
 show (bif Nat.beq q i then ((G i).length+1,ar (G i).length 1 (λj=>((G i).getD j default).c) h) else ((G q).length,λj=>((G q).getD j default).c))=((bif Nat.beq q i then G i++[e] else G q).length,λj=>((bif Nat.beq q i then G i++[e] else G q).getD j default).c)
 cases Nat.beq q i with
 | true=>
  simp only [cond_true]
  rw [gk EV.c (G i) e h hh];simp
 | false=>rfl
section
variable {ls:List LK} {y:List XPO} {a:TX} {t:Int} {d:List AV->Bool} {K:Int->FR} {r:JOX}
theorem IV (q:JOQ ls y a t d K r) (hk:gJ ls d K):(bif within r.1 y.length then true else !bif decide (r.1≥0)==true then true else false)=true:=by
 obtain ⟨_,_,h | ⟨i,h1,h2,_⟩⟩:=q.p hk
 ·rw [h]
  cases within (-1) y.length <;> rfl
 ·rw [h1,aO h2];rfl
theorem Gn {c:Bool} (q:JOQ ls y a t d K r) (hk:gJ ls d K) (h:(bif decide (r.1≥0) then c else false)=true):r.1.toNat < y.length/\r.1=r.1.toNat/\OwA ls y a t r.1.toNat:=by
 have h0:=of_decide_eq_true (n3 h)
 obtain ⟨_,_,e | ⟨i,h1,h2,h3⟩⟩:=q.p hk
 ·rw [e] at h0;omega
 ·have e:r.1.toNat=i:=by omega
  rw [e]
  exact ⟨h2,h1,i,rfl,h2,h3⟩
theorem C4 {c:Bool} (q:JOQ ls y a t d K r) (hk:gJ ls d K) (h:(bif decide (r.1≥0) then c else false)=true):within r.1 y.length=true:=by
 obtain ⟨h1,h2,_⟩:=Gn q hk h
 rw [h2];exact aO h1
theorem EY {c:Bool} (q:JOQ ls y a t d K r) (hk:gJ ls d K) (h:(bif decide (r.1≥0) then c else false)=true):Nat.blt (0+r.1.toNat) y.length=true:=by
 obtain ⟨h1,h2,_⟩:=Gn q hk h
 rw [Nat.zero_add];exact tj h1
end
abbrev SAS:Type:=Nat×(Nat->List EV)×(List AV->Bool)×(Int->FR)
def zO (kd:Int) (n:Nat) (G:Nat->List EV):Prop:=∀i,(G i).length<=n/\∀e∈G i,e.kind=kd
theorem zO.up {kd:Int} {n i:Nat} {G:Nat->List EV} {e:EV} (h:zO kd n G) (he:e.kind=kd):zO kd (n+1) (λq=>bif Nat.beq q i then G i++[e] else G q):=λq=>by
 cases hb:Nat.beq q i with
 | false=>simp only [hb,cond_false];exact ⟨Nat.le_succ_of_le (h q).1,(h q).2⟩
 | true=>
  simp only [hb,cond_true]
  refine ⟨?_,λz hz=>?_⟩
  ·have:=(h i).1;simp;omega
  ·rcases List.mem_append.1 hz with hz | hz
   ·exact (h i).2 z hz
   ·rw [List.mem_singleton.1 hz];exact he
theorem zO.le {kd:Int} {n n':Nat} {G:Nat->List EV} (h:zO kd n G) (hn:n<=n'):zO kd n' G:=λq=>⟨Nat.le_trans (h q).1 hn,(h q).2⟩
def SaI (ls:List LK) (l:List EV) (x:SAS):Prop:=x.1<=(evK 2 l).length/\zO 2 x.1 x.2.1/\gJ ls x.2.2.1 x.2.2.2
def SaP (ls:List LK) (l:List EV) (x:SAX):Prop:=zO 2 (evK 2 l).length x.G/\gJ ls x.d x.K
section
variable {ls:List LK} {y:List XPO} {l:List EV} {k:Int} {m:MT} {x:SAS} {r:JOX} {a:TX} {t:Int}
theorem Ke {i:Nat} (hn:l.length<=1000000) (hv:SaI ls l x) (h:Nat.blt x.1 (evK 2 l).length=true):(roomy 112 ((mtG x.2.1 i).1+1)&&Nat.beq (mtG x.2.1 i).1 (mtG x.2.1 i).1)=true:=by
 have:=(hv.2.1 i).1;have:=ltB h;have:=kv 2 l
 exact bd (by show ((x.2.1 i).length+1)*112<=_;omega)
theorem Kg {n i j:Nat} (h:Nat.blt i n=true):(Nat.blt i n&&(Nat.beq i i&&Nat.beq (j+1) (j+1)))=true:=by
 rw [h,Nat.beq_refl,Nat.beq_refl];rfl
theorem Gk {i:Nat} (hv:SaI ls l x) (h:Nat.blt x.1 (evK 2 l).length=true) (q:JOQ ls y a t x.2.2.1 x.2.2.2 r):SaI ls l (x.1+1,(λq=>bif Nat.beq q i then x.2.1 i++[(evK 2 l).getD x.1 default] else x.2.1 q),r.2.2.1,r.2.2.2):=
 ⟨ltB h,hv.2.1.up (s7 (ltB h)).2,(q.p hv.2.2).2.1⟩
theorem Gj (hv:SaI ls l x) (h:Nat.blt x.1 (evK 2 l).length=true) (q:JOQ ls y a t x.2.2.1 x.2.2.2 r):SaI ls l (x.1+1,x.2.1,r.2.2.1,r.2.2.2):=
 ⟨ltB h,hv.2.1.le (Nat.le_succ _),(q.p hv.2.2).2.1⟩
theorem Gp {G:Nat->List EV} {i v:Nat} {ls':List LK} {d:List AV->Bool} {K:Int->FR} (e:ls'=ls):({env:=[(1000000,.int .i64 ((v+1:Nat):Int)),(3,.ref 1000002 0),(4,.ref 1000003 0),(5,.ref 1000004 0),(7,.ref 7 0),(12,.fn aw [] [.ref 12 0,.ref 100012 0])],objs:=[(7,.cells [.fn aK [] [.ref 1000000 0]]),(12,.cells [evA l]),(100012,.cells [.int .i64 2]),(1000000,.cells [.msl 1000005 1 0 y.length]),(1000001,.cells [evA l]),(1000002,.cells [.ref 1000006 0]),(1000003,.cells [xpA y]),(1000004,.cells (m.c k)),(1000005,.mat 10 y.length (λq=>bif Nat.beq q i then ((mtG G i).1+1,ar (mtG G i).1 1 (mtG G i).2 (ag [.str [],.int .i64 0,.int .i64 0,.int .i64 0,.str [],.str [],.str [],.int .i64 0,.int .i64 0,.int .i64 0] [(0,.agg [.str ((evK 2 l).getD v default).cl,.int .i64 ((evK 2 l).getD v default).seq,.int .i64 ((evK 2 l).getD v default).kind,.int .i64 ((evK 2 l).getD v default).time,.str ((evK 2 l).getD v default).id,.str ((evK 2 l).getD v default).name,.str ((evK 2 l).getD v default).other,.int .i64 ((evK 2 l).getD v default).ver,.int .i64 ((evK 2 l).getD v default).arm,.int .i64 ((evK 2 l).getD v default).val])])) else mtG G q) none),(1000006,.cells [lkA ls',.mref 1000007]),(1000007,atO d K)]}:St)=(λx:SAS=>gh x.1 ({env:=[(3,.ref 1000002 0),(4,.ref 1000003 0),(5,.ref 1000004 0),(7,.ref 7 0),(12,.fn aw [] [.ref 12 0,.ref 100012 0])],objs:=[(7,.cells [.fn aK [] [.ref 1000000 0]]),(12,.cells [evA l]),(100012,.cells [.int .i64 2]),(1000000,.cells [.msl 1000005 1 0 y.length]),(1000001,.cells [evA l]),(1000002,.cells [.ref 1000006 0]),(1000003,.cells [xpA y]),(1000004,.cells (m.c k)),(1000005,.mat 10 y.length (mtG x.2.1) none),(1000006,.cells [lkA ls,.mref 1000007]),(1000007,atO x.2.2.1 x.2.2.2)]}:St)) (v+1,(λq=>bif Nat.beq q i then G i++[(evK 2 l).getD v default] else G q),d,K):=by
 subst e
 rw [Dy G i ((evK 2 l).getD v default) _ rfl];rfl
theorem Gm {i:Nat} (hv:SaI ls l x) (q:JOQ ls y a t x.2.2.1 x.2.2.2 r):((λ(G:Nat->List EV) (i v:Nat) (ls':List LK) (d:List AV->Bool) (K:Int->FR)=>({env:=[(1000000,.int .i64 ((v+1:Nat):Int)),(3,.ref 1000002 0),(4,.ref 1000003 0),(5,.ref 1000004 0),(7,.ref 7 0),(12,.fn aw [] [.ref 12 0,.ref 100012 0])],objs:=[(7,.cells [.fn aK [] [.ref 1000000 0]]),(12,.cells [evA l]),(100012,.cells [.int .i64 2]),(1000000,.cells [.msl 1000005 1 0 y.length]),(1000001,.cells [evA l]),(1000002,.cells [.ref 1000006 0]),(1000003,.cells [xpA y]),(1000004,.cells (m.c k)),(1000005,.mat 10 y.length (λq=>bif Nat.beq q i then ((mtG G i).1+1,ar (mtG G i).1 1 (mtG G i).2 (ag [.str [],.int .i64 0,.int .i64 0,.int .i64 0,.str [],.str [],.str [],.int .i64 0,.int .i64 0,.int .i64 0] [(0,.agg [.str ((evK 2 l).getD v default).cl,.int .i64 ((evK 2 l).getD v default).seq,.int .i64 ((evK 2 l).getD v default).kind,.int .i64 ((evK 2 l).getD v default).time,.str ((evK 2 l).getD v default).id,.str ((evK 2 l).getD v default).name,.str ((evK 2 l).getD v default).other,.int .i64 ((evK 2 l).getD v default).ver,.int .i64 ((evK 2 l).getD v default).arm,.int .i64 ((evK 2 l).getD v default).val])])) else mtG G q) none),(1000006,.cells [lkA ls',.mref 1000007]),(1000007,atO d K)]}:St)) x.2.1 i x.1 r.2.1 r.2.2.1 r.2.2.2)=(λx:SAS=>gh x.1 ({env:=[(3,.ref 1000002 0),(4,.ref 1000003 0),(5,.ref 1000004 0),(7,.ref 7 0),(12,.fn aw [] [.ref 12 0,.ref 100012 0])],objs:=[(7,.cells [.fn aK [] [.ref 1000000 0]]),(12,.cells [evA l]),(100012,.cells [.int .i64 2]),(1000000,.cells [.msl 1000005 1 0 y.length]),(1000001,.cells [evA l]),(1000002,.cells [.ref 1000006 0]),(1000003,.cells [xpA y]),(1000004,.cells (m.c k)),(1000005,.mat 10 y.length (mtG x.2.1) none),(1000006,.cells [lkA ls,.mref 1000007]),(1000007,atO x.2.2.1 x.2.2.2)]}:St)) (x.1+1,(λq=>bif Nat.beq q i then x.2.1 i++[(evK 2 l).getD x.1 default] else x.2.1 q),r.2.2.1,r.2.2.2):=Gp (q.p hv.2.2).1
theorem Gl (hv:SaI ls l x) (q:JOQ ls y a t x.2.2.1 x.2.2.2 r):((λ(G:Nat->List EV) (v:Nat) (ls':List LK) (d:List AV->Bool) (K:Int->FR)=>({env:=[(1000000,.int .i64 ((v+1:Nat):Int)),(3,.ref 1000002 0),(4,.ref 1000003 0),(5,.ref 1000004 0),(7,.ref 7 0),(12,.fn aw [] [.ref 12 0,.ref 100012 0])],objs:=[(7,.cells [.fn aK [] [.ref 1000000 0]]),(12,.cells [evA l]),(100012,.cells [.int .i64 2]),(1000000,.cells [.msl 1000005 1 0 y.length]),(1000001,.cells [evA l]),(1000002,.cells [.ref 1000006 0]),(1000003,.cells [xpA y]),(1000004,.cells (m.c k)),(1000005,.mat 10 y.length (mtG G) none),(1000006,.cells [lkA ls',.mref 1000007]),(1000007,atO d K)]}:St)) x.2.1 x.1 r.2.1 r.2.2.1 r.2.2.2)=(λx:SAS=>gh x.1 ({env:=[(3,.ref 1000002 0),(4,.ref 1000003 0),(5,.ref 1000004 0),(7,.ref 7 0),(12,.fn aw [] [.ref 12 0,.ref 100012 0])],objs:=[(7,.cells [.fn aK [] [.ref 1000000 0]]),(12,.cells [evA l]),(100012,.cells [.int .i64 2]),(1000000,.cells [.msl 1000005 1 0 y.length]),(1000001,.cells [evA l]),(1000002,.cells [.ref 1000006 0]),(1000003,.cells [xpA y]),(1000004,.cells (m.c k)),(1000005,.mat 10 y.length (mtG x.2.1) none),(1000006,.cells [lkA ls,.mref 1000007]),(1000007,atO x.2.2.1 x.2.2.2)]}:St)) (x.1+1,x.2.1,r.2.2.1,r.2.2.2):=by
 rw [(q.p hv.2.2).1];rfl
end
theorem C3 (ls:List LK) (y:List XPO) (l:List EV) (k:Int) (m:MT) (hl:ls.length<=300000) (hm:l.length<=1000000) (hx:y.length<=1000000):∃ (u:St->Bool) (w:St->SAX),(∀x:SAS,SaI ls l x->x.1=0->aW u w ((λx:SAS=>({env:=[(3,.ref 1000002 0),(4,.ref 1000003 0),(5,.ref 1000004 0),(7,.ref 7 0),(12,.fn aw [] [.ref 12 0,.ref 100012 0])],objs:=[(7,.cells [.fn aK [] [.ref 1000000 0]]),(12,.cells [evA l]),(100012,.cells [.int .i64 2]),(1000000,.cells [.msl 1000005 1 0 y.length]),(1000001,.cells [evA l]),(1000002,.cells [.ref 1000006 0]),(1000003,.cells [xpA y]),(1000004,.cells (m.c k)),(1000005,.mat 10 y.length (mtG x.2.1) none),(1000006,.cells [lkA ls,.mref 1000007]),(1000007,atO x.2.2.1 x.2.2.2)]}:St)) x) (SaP ls l))/\∀C:List (List Nat×Orc),mP (VS1.run [eOf,eJo] 2 C [] [] bA) bA [1,1,0] (mkO u w (λ(x_:SAX) k_=>k_ .nor {env:=[(3,.ref 1000002 0),(4,.ref 1000003 0),(5,.ref 1000004 0),(7,.ref 7 0),(12,.fn aw [] [.ref 12 0,.ref 100012 0])],objs:=[(7,.cells [.fn aK [] [.ref 1000000 0]]),(12,.cells [evA l]),(100012,.cells [.int .i64 2]),(1000000,.cells [.msl 1000005 1 0 y.length]),(1000001,.cells [evA l]),(1000002,.cells [.ref 1000006 0]),(1000003,.cells [xpA y]),(1000004,.cells (m.c k)),(1000005,.mat 10 y.length (mtG x_.G) none),(1000006,.cells [lkA ls,.mref 1000007]),(1000007,atO x_.d x_.K)]})):=
 tW (V:=VS1) (T:=[eOf,eJo]) (d:=2) (Cf:=λC=>C) (Lf:=λ_=>[]) (W:=[]) z8 l 2 hm (by kernel_rfl) (by kernel_rfl) (hn [3,4,5,7,12] [7,12,100012] [] []) (λx:SAS=>{env:=[(3,.ref 1000002 0),(4,.ref 1000003 0),(5,.ref 1000004 0),(7,.ref 7 0),(12,.fn aw [] [.ref 12 0,.ref 100012 0])],objs:=[(7,.cells [.fn aK [] [.ref 1000000 0]]),(12,.cells [evA l]),(100012,.cells [.int .i64 2]),(1000000,.cells [.msl 1000005 1 0 y.length]),(1000001,.cells [evA l]),(1000002,.cells [.ref 1000006 0]),(1000003,.cells [xpA y]),(1000004,.cells (m.c k)),(1000005,.mat 10 y.length (mtG x.2.1) none),(1000006,.cells [lkA ls,.mref 1000007]),(1000007,atO x.2.2.1 x.2.2.2)]}) (λx=>x.1) (SaI ls l) (λx=>(evK 2 l).length - x.1) (λ(x_:SAX) k_=>k_ .nor {env:=[(3,.ref 1000002 0),(4,.ref 1000003 0),(5,.ref 1000004 0),(7,.ref 7 0),(12,.fn aw [] [.ref 12 0,.ref 100012 0])],objs:=[(7,.cells [.fn aK [] [.ref 1000000 0]]),(12,.cells [evA l]),(100012,.cells [.int .i64 2]),(1000000,.cells [.msl 1000005 1 0 y.length]),(1000001,.cells [evA l]),(1000002,.cells [.ref 1000006 0]),(1000003,.cells [xpA y]),(1000004,.cells (m.c k)),(1000005,.mat 10 y.length (mtG x_.G) none),(1000006,.cells [lkA ls,.mref 1000007]),(1000007,atO x_.d x_.K)]}) (SaP ls l) (λx=>by kernel_rfl) (λx=>⟨rfl,rfl⟩)
  (λx hv=>.b (Nat.blt x.1 (List.length (evK 2 l))) (λh1=>
   .call (Bk ls y ((evK 2 l).getD x.1 default).id ((evK 2 l).getD x.1 default).time x.2.2.1 x.2.2.2 hv.2.2 hl hx) λr2 q2=>
   .n (c:=bif within r2.1 (List.length y) then true else !bif decide (r2.1≥0)==true then true else false) (IV q2 hv.2.2) (
   .b (bif decide (r2.1≥0) then decide (EV.time (List.getD (evK 2 l) x.1 default) < IntKind.wrap .i64 (XPO.tm (List.getD y (Int.toNat r2.1) default)+MT.wi m)) else false) (λh3=>
    .n (c:=within r2.1 (List.length y)) (C4 q2 hv.2.2 h3) (
    .n (c:=Nat.blt (0+Int.toNat r2.1) (List.length y)) (EY q2 hv.2.2 h3) (
    .n (c:=roomy 112 (List.length (x.2.1 (0+Int.toNat r2.1))+1)&&Nat.beq (List.length (x.2.1 (0+Int.toNat r2.1))) (List.length (x.2.1 (0+Int.toNat r2.1)))) (Ke hm hv h1) (
    .n (c:=within r2.1 (List.length y)) (C4 q2 hv.2.2 h3) (
    .n (c:=Nat.blt (0+Int.toNat r2.1) (List.length y)&&(Nat.beq (0+Int.toNat r2.1) (0+Int.toNat r2.1)&&Nat.beq (List.length (x.2.1 (0+Int.toNat r2.1))+1) (List.length (x.2.1 (0+Int.toNat r2.1))+1))) (Kg (EY q2 hv.2.2 h3)) (
    .go {env:=[(1000000,.int .i64 (↑(x.1+1):Int)),(3,.ref 1000002 0),(4,.ref 1000003 0),(5,.ref 1000004 0),(7,.ref 7 0),(12,.fn aw [] [.ref 12 0,.ref 100012 0])],objs:=[(7,.cells [.fn aK [] [.ref 1000000 0] ]),(12,.cells [evA l ]),(100012,.cells [.int .i64 2]),(1000000,.cells [.msl 1000005 1 0 (List.length y)]),(1000001,.cells [evA l ]),(1000002,.cells [.ref 1000006 0]),(1000003,.cells [.sl .no 6 (List.length y) λj=>[.str (XPO.id (List.getD y j default)),.str (XPO.cl (List.getD y j default)),.int .i64 (XPO.sq (List.getD y j default)),.int .i64 (XPO.tm (List.getD y j default)),.int .i64 (XPO.arm (List.getD y j default)),.int .i64 (XPO.ver (List.getD y j default))] ]),(1000004,.cells [.int .i64 k,.str (MT.nm m),.str (MT.bl m),.int .i64 (MT.wi m),.int .i64 (MT.cp m),.int .i64 (MT.le m),.int .i64 (MT.be m)]),(1000005,AO.mat 10 (List.length y) (λq=>bif Nat.beq q (0+Int.toNat r2.1) then (List.length (x.2.1 (0+Int.toNat r2.1))+1,ar (List.length (x.2.1 (0+Int.toNat r2.1))) 1 (λj=>[.str (EV.cl (List.getD (x.2.1 (0+Int.toNat r2.1)) j default)),.int .i64 (EV.seq (List.getD (x.2.1 (0+Int.toNat r2.1)) j default)),.int .i64 (EV.kind (List.getD (x.2.1 (0+Int.toNat r2.1)) j default)),.int .i64 (EV.time (List.getD (x.2.1 (0+Int.toNat r2.1)) j default)),.str (EV.id (List.getD (x.2.1 (0+Int.toNat r2.1)) j default)),.str (EV.name (List.getD (x.2.1 (0+Int.toNat r2.1)) j default)),.str (EV.other (List.getD (x.2.1 (0+Int.toNat r2.1)) j default)),.int .i64 (EV.ver (List.getD (x.2.1 (0+Int.toNat r2.1)) j default)),.int .i64 (EV.arm (List.getD (x.2.1 (0+Int.toNat r2.1)) j default)),.int .i64 (EV.val (List.getD (x.2.1 (0+Int.toNat r2.1)) j default))]) (ag [.str [],.int .i64 0,.int .i64 0,.int .i64 0,.str [],.str [],.str [],.int .i64 0,.int .i64 0,.int .i64 0] [(0,.agg [.str (EV.cl (List.getD (evK 2 l) x.1 default)),.int .i64 (EV.seq (List.getD (evK 2 l) x.1 default)),.int .i64 (EV.kind (List.getD (evK 2 l) x.1 default)),.int .i64 (EV.time (List.getD (evK 2 l) x.1 default)),.str (EV.id (List.getD (evK 2 l) x.1 default)),.str (EV.name (List.getD (evK 2 l) x.1 default)),.str (EV.other (List.getD (evK 2 l) x.1 default)),.int .i64 (EV.ver (List.getD (evK 2 l) x.1 default)),.int .i64 (EV.arm (List.getD (evK 2 l) x.1 default)),.int .i64 (EV.val (List.getD (evK 2 l) x.1 default))])])) else (List.length (x.2.1 q),λj=>[.str (EV.cl (List.getD (x.2.1 q) j default)),.int .i64 (EV.seq (List.getD (x.2.1 q) j default)),.int .i64 (EV.kind (List.getD (x.2.1 q) j default)),.int .i64 (EV.time (List.getD (x.2.1 q) j default)),.str (EV.id (List.getD (x.2.1 q) j default)),.str (EV.name (List.getD (x.2.1 q) j default)),.str (EV.other (List.getD (x.2.1 q) j default)),.int .i64 (EV.ver (List.getD (x.2.1 q) j default)),.int .i64 (EV.arm (List.getD (x.2.1 q) j default)),.int .i64 (EV.val (List.getD (x.2.1 q) j default))])) none),(1000006,.cells [lkA r2.2.1,.mref 1000007]),(1000007,AO.mp false [KD.int .i64] r2.2.2.1 (fgA r2.2.2.2))]} (x.1+1,(λq=>bif Nat.beq q (0+r2.1.toNat) then x.2.1 (0+r2.1.toNat)++[(evK 2 l).getD x.1 default] else x.2.1 q),r2.2.2.1,r2.2.2.2) (Gk hv h1 q2) (sF h1) (Gm hv q2))))))) λh3=>
   .go {env:=[(1000000,.int .i64 (↑(x.1+1):Int)),(3,.ref 1000002 0),(4,.ref 1000003 0),(5,.ref 1000004 0),(7,.ref 7 0),(12,.fn aw [] [.ref 12 0,.ref 100012 0])],objs:=[(7,.cells [.fn aK [] [.ref 1000000 0] ]),(12,.cells [evA l ]),(100012,.cells [.int .i64 2]),(1000000,.cells [.msl 1000005 1 0 (List.length y)]),(1000001,.cells [evA l ]),(1000002,.cells [.ref 1000006 0]),(1000003,.cells [.sl .no 6 (List.length y) λj=>[.str (XPO.id (List.getD y j default)),.str (XPO.cl (List.getD y j default)),.int .i64 (XPO.sq (List.getD y j default)),.int .i64 (XPO.tm (List.getD y j default)),.int .i64 (XPO.arm (List.getD y j default)),.int .i64 (XPO.ver (List.getD y j default))] ]),(1000004,.cells [.int .i64 k,.str (MT.nm m),.str (MT.bl m),.int .i64 (MT.wi m),.int .i64 (MT.cp m),.int .i64 (MT.le m),.int .i64 (MT.be m)]),(1000005,AO.mat 10 (List.length y) (mtG x.2.1) none),(1000006,.cells [lkA r2.2.1,.mref 1000007]),(1000007,AO.mp false [KD.int .i64] r2.2.2.1 (fgA r2.2.2.2))]} (x.1+1,x.2.1,r2.2.2.1,r2.2.2.2) (Gj hv h1 q2) (sF h1) (Gl hv q2))) λh1=>
  .fi (SAX.mk x.2.1 (λ_=>false) x.2.2.1 x.2.2.2) ⟨hv.2.1.le hv.1,hv.2.2⟩)
  (λx i k kn=>by kernel_rfl)
theorem Kf {ls:List LK} {y:List XPO} {l:List EV} {k:Int} {m:MT} {d:List AV->Bool} {K:Int->FR} {t:OFX} {u:St->Bool} {w:St->SAX} (hu:∀x:SAS,SaI ls l x->x.1=0->aW u w ((λx:SAS=>({env:=[(3,.ref 1000002 0),(4,.ref 1000003 0),(5,.ref 1000004 0),(7,.ref 7 0),(12,.fn aw [] [.ref 12 0,.ref 100012 0])],objs:=[(7,.cells [.fn aK [] [.ref 1000000 0]]),(12,.cells [evA l]),(100012,.cells [.int .i64 2]),(1000000,.cells [.msl 1000005 1 0 y.length]),(1000001,.cells [evA l]),(1000002,.cells [.ref 1000006 0]),(1000003,.cells [xpA y]),(1000004,.cells (m.c k)),(1000005,.mat 10 y.length (mtG x.2.1) none),(1000006,.cells [lkA ls,.mref 1000007]),(1000007,atO x.2.2.1 x.2.2.2)]}:St)) x) (SaP ls l)) (hk:gJ ls d K) (ht:t=(l,2)):aW u w ({env:=[(3,.ref 1000002 0),(4,.ref 1000003 0),(5,.ref 1000004 0),(7,.ref 7 0),(12,.fn aw [] [.ref 12 0,.ref 100012 0])],objs:=[(7,.cells [.fn aK [] [.ref 1000000 0]]),(12,.cells [evA t.1]),(100012,.cells [.int .i64 t.2]),(1000000,.cells [.msl 1000005 1 0 y.length]),(1000001,.cells [evA l]),(1000002,.cells [.ref 1000006 0]),(1000003,.cells [xpA y]),(1000004,.cells (m.c k)),(1000005,.mat 10 y.length (mtG λ_=>[]) none),(1000006,.cells [lkA ls,.mref 1000007]),(1000007,atO d K)]}) (SaP ls l):=by
 subst ht
 exact hu (0,λ_=>[],d,K) ⟨Nat.zero_le _,λi=>⟨Nat.le_refl _,λ_ h=>absurd h List.not_mem_nil⟩,hk⟩ rfl
theorem C2 (ls:List LK) (y:List XPO) (l:List EV) (k:Int) (m:MT) (d:List AV->Bool) (K:Int->FR) (hk:gJ ls d K) (hl:ls.length<=300000) (hm:l.length<=1000000) (hx:y.length<=1000000):∃x,SaP ls l x/\Ct wd.P wd.G bA [.int .i64 2,.fn aK [] [.ref 1000000 0],.ref 1000001 0,.ref 1000002 0,.ref 1000003 0,.ref 1000004 0] [.cells [.msl 1000005 1 0 y.length],.cells [evA l],.cells [.ref 1000006 0],.cells [xpA y],.cells (m.c k),.mat 10 y.length (mtG λ_=>[]) none,.cells [lkA ls,.mref 1000007],atO d K] (ψSa [.int .i64 2,.fn aK [] [.ref 1000000 0],.ref 1000001 0,.ref 1000002 0,.ref 1000003 0,.ref 1000004 0] [.cells [.msl 1000005 1 0 y.length],.cells [evA l],.cells [.ref 1000006 0],.cells [xpA y],.cells (m.c k),.mat 10 y.length (mtG λ_=>[]) none,.cells [lkA ls,.mref 1000007],atO d K] x):=by
 obtain ⟨u,w,hu,hc⟩:=C3 ls y l k m hl hm hx
 exact vE (V:=VS1) (T:=[eOf,eJo]) (d:=2) (R:=λ_ _ x=>SaP ls l x) (φ:=ψSa [.int .i64 2,.fn aK [] [.ref 1000000 0],.ref 1000001 0,.ref 1000002 0,.ref 1000003 0,.ref 1000004 0] [.cells [.msl 1000005 1 0 y.length],.cells [evA l],.cells [.ref 1000006 0],.cells [xpA y],.cells (m.c k),.mat 10 y.length (mtG λ_=>[]) none,.cells [lkA ls,.mref 1000007],atO d K]) 1 (C:=[([1,1,0],mkO u w (λ(x_:SAX) k_=>k_ .nor {env:=[(3,.ref 1000002 0),(4,.ref 1000003 0),(5,.ref 1000004 0),(7,.ref 7 0),(12,.fn aw [] [.ref 12 0,.ref 100012 0])],objs:=[(7,.cells [.fn aK [] [.ref 1000000 0]]),(12,.cells [evA l]),(100012,.cells [.int .i64 2]),(1000000,.cells [.msl 1000005 1 0 y.length]),(1000001,.cells [evA l]),(1000002,.cells [.ref 1000006 0]),(1000003,.cells [xpA y]),(1000004,.cells (m.c k)),(1000005,.mat 10 y.length (mtG x_.G) none),(1000006,.cells [lkA ls,.mref 1000007]),(1000007,atO x_.d x_.K)]}))]) (L:=[]) (W:=[]) (λe he=>by rw [List.mem_singleton.1 he];exact hc _) ao ak (.call (yO l 2) λr1 q1=>
  .lp (Kf hu hk (rOf.eq q1)) λr2 q2=>
  .r r2 q2) (by kernel_rfl)
end Go.WF

namespace Go.WF
open Go Go.Ab Go.Proofs
abbrev SBS:Type:=Nat×(Nat->Bool)×(List AV->Bool)×(Int->FR)
def IL (ls:List LK) (y:List XPO) (l:List EV) (ex:TX) (b:Nat->Bool):Prop:=∀i,b i=true->∃e∈l,e.kind=1/\e.name=ex/\OwA ls y e.id e.time i/\e.arm≠(y.getD i default).arm
def SbI (ls:List LK) (y:List XPO) (l:List EV) (ex:TX) (x:SBS):Prop:=x.1<=(evK 1 l).length/\IL ls y l ex x.2.1/\gJ ls x.2.2.1 x.2.2.2
def SbP (ls:List LK) (y:List XPO) (l:List EV) (ex:TX) (x:SAX):Prop:=IL ls y l ex x.b/\gJ ls x.d x.K
abbrev upM (ex:TX) (y:List XPO) (b:Nat->Bool) (i:Nat) (e:EV) (j:Nat):Bool:=bif Nat.beq j (0+i) then (bif b (0+i) then true else bif e.name==ex then e.arm !=(y.getD i default).arm else false) else b j
section
variable {ls:List LK} {y:List XPO} {l:List EV} {k:Int} {m:MT} {ex:TX} {x:SBS} {r:JOX} {a:TX} {t:Int}
theorem Kd {n:Int} {j:Nat} {z:Bool} (h:within n j=true):(bif within n j then true else z)=true:=by rw [h];rfl
theorem Gf {c:Bool} (hv:SbI ls y l ex x) (h:Nat.blt x.1 (evK 1 l).length=true) (q:JOQ ls y ((evK 1 l).getD x.1 default).id ((evK 1 l).getD x.1 default).time x.2.2.1 x.2.2.2 r) (h3:(bif decide (r.1≥0) then c else false)=true):SbI ls y l ex (x.1+1,upM ex y x.2.1 r.1.toNat ((evK 1 l).getD x.1 default),r.2.2.1,r.2.2.2):=by
 refine ⟨ltB h,λi hi=>?_,(q.p hv.2.2).2.1⟩
 have hi:(bif Nat.beq i (0+r.1.toNat) then (bif x.2.1 (0+r.1.toNat) then true else bif ((evK 1 l).getD x.1 default).name==ex then ((evK 1 l).getD x.1 default).arm !=(y.getD r.1.toNat default).arm else false) else x.2.1 i)=true:=hi
 cases hb:Nat.beq i (0+r.1.toNat) with
 | false=>rw [hb,cond_false] at hi;exact hv.2.1 i hi
 | true=>
  have e0:i=r.1.toNat:=by have:=Nat.eq_of_beq_eq_true hb;omega
  rw [hb,cond_true,Nat.zero_add,<-e0] at hi
  cases hm:x.2.1 i with
  | true=>exact hv.2.1 i hm
  | false=>
   rw [hm,cond_false] at hi
   obtain ⟨_,_,g3⟩:=Gn q hv.2.2 h3
   obtain ⟨m1,m2⟩:=s7 (ltB h)
   have hx:(((evK 1 l).getD x.1 default).name==ex)=true:=n3 hi
   have hy:(((evK 1 l).getD x.1 default).arm !=(y.getD i default).arm)=true:=vK hi
   exact ⟨_,m1,m2,beq_iff_eq.1 hx,by rw [e0];exact g3,by simpa using hy⟩
theorem Ge (hv:SbI ls y l ex x) (h:Nat.blt x.1 (evK 1 l).length=true) (q:JOQ ls y a t x.2.2.1 x.2.2.2 r):SbI ls y l ex (x.1+1,x.2.1,r.2.2.1,r.2.2.2):=
 ⟨ltB h,hv.2.1,(q.p hv.2.2).2.1⟩
theorem CN (b:Nat->Bool) (i:Nat) (e:EV):(λj=>bif Nat.beq j (0+i) then [.bool (bif b (0+i) then true else bif e.name==ex then e.arm !=(y.getD i default).arm else false)] else [.bool (b j)])=λj=>[AV.bool (upM ex y b i e j)]:=by
 funext j
 unfold upM
 cases Nat.beq j (0+i) <;> rfl
theorem Gi {b:Nat->Bool} {i v:Nat} {ls':List LK} {d:List AV->Bool} {K:Int->FR} (e:ls'=ls):({env:=[(1000000,.int .i64 ((v+1:Nat):Int)),(3,.ref 1000004 0),(4,.ref 1000002 0),(5,.ref 1000005 0),(7,.ref 7 0),(12,.fn aw [] [.ref 12 0,.ref 100012 0])],objs:=[(7,.cells [.fn aJ [] [.ref 1000000 0,.ref 1000001 0,.ref 1000002 0]]),(12,.cells [evA l]),(100012,.cells [.int .i64 1]),(1000000,.cells [.msl 1000006 1 0 y.length]),(1000001,.cells [.str ex]),(1000002,.cells [xpA y]),(1000003,.cells [evA l]),(1000004,.cells [.ref 1000007 0]),(1000005,.cells (m.c k)),(1000006,.arr 1 y.length (λj=>bif Nat.beq j (0+i) then [.bool (bif b (0+i) then true else bif ((evK 1 l).getD v default).name==ex then ((evK 1 l).getD v default).arm !=(y.getD i default).arm else false)] else [.bool (b j)])),(1000007,.cells [lkA ls',.mref 1000008]),(1000008,atO d K)]}:St)=(λx:SBS=>gh x.1 ({env:=[(3,.ref 1000004 0),(4,.ref 1000002 0),(5,.ref 1000005 0),(7,.ref 7 0),(12,.fn aw [] [.ref 12 0,.ref 100012 0])],objs:=[(7,.cells [.fn aJ [] [.ref 1000000 0,.ref 1000001 0,.ref 1000002 0]]),(12,.cells [evA l]),(100012,.cells [.int .i64 1]),(1000000,.cells [.msl 1000006 1 0 y.length]),(1000001,.cells [.str ex]),(1000002,.cells [xpA y]),(1000003,.cells [evA l]),(1000004,.cells [.ref 1000007 0]),(1000005,.cells (m.c k)),(1000006,.arr 1 y.length (λj=>[.bool (x.2.1 j)])),(1000007,.cells [lkA ls,.mref 1000008]),(1000008,atO x.2.2.1 x.2.2.2)]}:St)) (v+1,upM ex y b i ((evK 1 l).getD v default),d,K):=by
 subst e
 rw [CN b i ((evK 1 l).getD v default)];rfl
theorem Gh {i:Nat} (hv:SbI ls y l ex x) (q:JOQ ls y a t x.2.2.1 x.2.2.2 r):((λ(b:Nat->Bool) (i v:Nat) (ls':List LK) (d:List AV->Bool) (K:Int->FR)=>({env:=[(1000000,.int .i64 ((v+1:Nat):Int)),(3,.ref 1000004 0),(4,.ref 1000002 0),(5,.ref 1000005 0),(7,.ref 7 0),(12,.fn aw [] [.ref 12 0,.ref 100012 0])],objs:=[(7,.cells [.fn aJ [] [.ref 1000000 0,.ref 1000001 0,.ref 1000002 0]]),(12,.cells [evA l]),(100012,.cells [.int .i64 1]),(1000000,.cells [.msl 1000006 1 0 y.length]),(1000001,.cells [.str ex]),(1000002,.cells [xpA y]),(1000003,.cells [evA l]),(1000004,.cells [.ref 1000007 0]),(1000005,.cells (m.c k)),(1000006,.arr 1 y.length (λj=>bif Nat.beq j (0+i) then [.bool (bif b (0+i) then true else bif ((evK 1 l).getD v default).name==ex then ((evK 1 l).getD v default).arm !=(y.getD i default).arm else false)] else [.bool (b j)])),(1000007,.cells [lkA ls',.mref 1000008]),(1000008,atO d K)]}:St)) x.2.1 i x.1 r.2.1 r.2.2.1 r.2.2.2)=(λx:SBS=>gh x.1 ({env:=[(3,.ref 1000004 0),(4,.ref 1000002 0),(5,.ref 1000005 0),(7,.ref 7 0),(12,.fn aw [] [.ref 12 0,.ref 100012 0])],objs:=[(7,.cells [.fn aJ [] [.ref 1000000 0,.ref 1000001 0,.ref 1000002 0]]),(12,.cells [evA l]),(100012,.cells [.int .i64 1]),(1000000,.cells [.msl 1000006 1 0 y.length]),(1000001,.cells [.str ex]),(1000002,.cells [xpA y]),(1000003,.cells [evA l]),(1000004,.cells [.ref 1000007 0]),(1000005,.cells (m.c k)),(1000006,.arr 1 y.length (λj=>[.bool (x.2.1 j)])),(1000007,.cells [lkA ls,.mref 1000008]),(1000008,atO x.2.2.1 x.2.2.2)]}:St)) (x.1+1,upM ex y x.2.1 i ((evK 1 l).getD x.1 default),r.2.2.1,r.2.2.2):=Gi (q.p hv.2.2).1
theorem Gg (hv:SbI ls y l ex x) (q:JOQ ls y a t x.2.2.1 x.2.2.2 r):((λ(b:Nat->Bool) (v:Nat) (ls':List LK) (d:List AV->Bool) (K:Int->FR)=>({env:=[(1000000,.int .i64 ((v+1:Nat):Int)),(3,.ref 1000004 0),(4,.ref 1000002 0),(5,.ref 1000005 0),(7,.ref 7 0),(12,.fn aw [] [.ref 12 0,.ref 100012 0])],objs:=[(7,.cells [.fn aJ [] [.ref 1000000 0,.ref 1000001 0,.ref 1000002 0]]),(12,.cells [evA l]),(100012,.cells [.int .i64 1]),(1000000,.cells [.msl 1000006 1 0 y.length]),(1000001,.cells [.str ex]),(1000002,.cells [xpA y]),(1000003,.cells [evA l]),(1000004,.cells [.ref 1000007 0]),(1000005,.cells (m.c k)),(1000006,.arr 1 y.length (λj=>[.bool (b j)])),(1000007,.cells [lkA ls',.mref 1000008]),(1000008,atO d K)]}:St)) x.2.1 x.1 r.2.1 r.2.2.1 r.2.2.2)=(λx:SBS=>gh x.1 ({env:=[(3,.ref 1000004 0),(4,.ref 1000002 0),(5,.ref 1000005 0),(7,.ref 7 0),(12,.fn aw [] [.ref 12 0,.ref 100012 0])],objs:=[(7,.cells [.fn aJ [] [.ref 1000000 0,.ref 1000001 0,.ref 1000002 0]]),(12,.cells [evA l]),(100012,.cells [.int .i64 1]),(1000000,.cells [.msl 1000006 1 0 y.length]),(1000001,.cells [.str ex]),(1000002,.cells [xpA y]),(1000003,.cells [evA l]),(1000004,.cells [.ref 1000007 0]),(1000005,.cells (m.c k)),(1000006,.arr 1 y.length (λj=>[.bool (x.2.1 j)])),(1000007,.cells [lkA ls,.mref 1000008]),(1000008,atO x.2.2.1 x.2.2.2)]}:St)) (x.1+1,x.2.1,r.2.2.1,r.2.2.2):=by
 rw [(q.p hv.2.2).1];rfl
end
theorem C1 (ls:List LK) (y:List XPO) (l:List EV) (k:Int) (m:MT) (ex:TX) (hl:ls.length<=300000) (hm:l.length<=1000000) (hx:y.length<=1000000):∃ (u:St->Bool) (w:St->SAX),(∀x:SBS,SbI ls y l ex x->x.1=0->aW u w ((λx:SBS=>({env:=[(3,.ref 1000004 0),(4,.ref 1000002 0),(5,.ref 1000005 0),(7,.ref 7 0),(12,.fn aw [] [.ref 12 0,.ref 100012 0])],objs:=[(7,.cells [.fn aJ [] [.ref 1000000 0,.ref 1000001 0,.ref 1000002 0]]),(12,.cells [evA l]),(100012,.cells [.int .i64 1]),(1000000,.cells [.msl 1000006 1 0 y.length]),(1000001,.cells [.str ex]),(1000002,.cells [xpA y]),(1000003,.cells [evA l]),(1000004,.cells [.ref 1000007 0]),(1000005,.cells (m.c k)),(1000006,.arr 1 y.length (λj=>[.bool (x.2.1 j)])),(1000007,.cells [lkA ls,.mref 1000008]),(1000008,atO x.2.2.1 x.2.2.2)]}:St)) x) (SbP ls y l ex))/\∀C:List (List Nat×Orc),mP (VS1.run [eOf,eJo] 2 C [] [] bA) bA [1,1,0] (mkO u w (λ(x_:SAX) k_=>k_ .nor {env:=[(3,.ref 1000004 0),(4,.ref 1000002 0),(5,.ref 1000005 0),(7,.ref 7 0),(12,.fn aw [] [.ref 12 0,.ref 100012 0])],objs:=[(7,.cells [.fn aJ [] [.ref 1000000 0,.ref 1000001 0,.ref 1000002 0]]),(12,.cells [evA l]),(100012,.cells [.int .i64 1]),(1000000,.cells [.msl 1000006 1 0 y.length]),(1000001,.cells [.str ex]),(1000002,.cells [xpA y]),(1000003,.cells [evA l]),(1000004,.cells [.ref 1000007 0]),(1000005,.cells (m.c k)),(1000006,.arr 1 y.length (λj=>[.bool (x_.b j)])),(1000007,.cells [lkA ls,.mref 1000008]),(1000008,atO x_.d x_.K)]})):=
 tW (V:=VS1) (T:=[eOf,eJo]) (d:=2) (Cf:=λC=>C) (Lf:=λ_=>[]) (W:=[]) z8 l 1 hm (by kernel_rfl) (by kernel_rfl) (hn [3,4,5,7,12] [7,12,100012] [] []) (λx:SBS=>{env:=[(3,.ref 1000004 0),(4,.ref 1000002 0),(5,.ref 1000005 0),(7,.ref 7 0),(12,.fn aw [] [.ref 12 0,.ref 100012 0])],objs:=[(7,.cells [.fn aJ [] [.ref 1000000 0,.ref 1000001 0,.ref 1000002 0]]),(12,.cells [evA l]),(100012,.cells [.int .i64 1]),(1000000,.cells [.msl 1000006 1 0 y.length]),(1000001,.cells [.str ex]),(1000002,.cells [xpA y]),(1000003,.cells [evA l]),(1000004,.cells [.ref 1000007 0]),(1000005,.cells (m.c k)),(1000006,.arr 1 y.length (λj=>[.bool (x.2.1 j)])),(1000007,.cells [lkA ls,.mref 1000008]),(1000008,atO x.2.2.1 x.2.2.2)]}) (λx=>x.1) (SbI ls y l ex) (λx=>(evK 1 l).length - x.1) (λ(x_:SAX) k_=>k_ .nor {env:=[(3,.ref 1000004 0),(4,.ref 1000002 0),(5,.ref 1000005 0),(7,.ref 7 0),(12,.fn aw [] [.ref 12 0,.ref 100012 0])],objs:=[(7,.cells [.fn aJ [] [.ref 1000000 0,.ref 1000001 0,.ref 1000002 0]]),(12,.cells [evA l]),(100012,.cells [.int .i64 1]),(1000000,.cells [.msl 1000006 1 0 y.length]),(1000001,.cells [.str ex]),(1000002,.cells [xpA y]),(1000003,.cells [evA l]),(1000004,.cells [.ref 1000007 0]),(1000005,.cells (m.c k)),(1000006,.arr 1 y.length (λj=>[.bool (x_.b j)])),(1000007,.cells [lkA ls,.mref 1000008]),(1000008,atO x_.d x_.K)]}) (SbP ls y l ex) (λx=>by kernel_rfl) (λx=>⟨rfl,rfl⟩)
  (λx hv=>.b (Nat.blt x.1 (List.length (evK 1 l))) (λh1=>
   .call (Bk ls y ((evK 1 l).getD x.1 default).id ((evK 1 l).getD x.1 default).time x.2.2.1 x.2.2.2 hv.2.2 hl hx) λr2 q2=>
   .n (c:=bif within r2.1 (List.length y) then true else !bif decide (r2.1≥0)==true then true else false) (IV q2 hv.2.2) (
   .b (bif decide (r2.1≥0) then decide (EV.time (List.getD (evK 1 l) x.1 default) < IntKind.wrap .i64 (XPO.tm (List.getD y (Int.toNat r2.1) default)+MT.wi m)) else false) (λh3=>
    .n (c:=within r2.1 (List.length y)) (C4 q2 hv.2.2 h3) (
    .n (c:=Nat.blt (0+Int.toNat r2.1) (List.length y)) (EY q2 hv.2.2 h3) (
    .n (c:=bif within r2.1 (List.length y) then true else !bif (EV.name (List.getD (evK 1 l) x.1 default)==ex)==true then bif x.2.1 (0+Int.toNat r2.1)==false then true else false else false) (Kd (C4 q2 hv.2.2 h3)) (
    .n (c:=within r2.1 (List.length y)) (C4 q2 hv.2.2 h3) (
    .n (c:=Nat.blt (0+Int.toNat r2.1) (List.length y)) (EY q2 hv.2.2 h3) (
    .go {env:=[(1000000,.int .i64 (↑(x.1+1):Int)),(3,.ref 1000004 0),(4,.ref 1000002 0),(5,.ref 1000005 0),(7,.ref 7 0),(12,.fn aw [] [.ref 12 0,.ref 100012 0])],objs:=[(7,.cells [.fn aJ [] [.ref 1000000 0,.ref 1000001 0,.ref 1000002 0] ]),(12,.cells [evA l ]),(100012,.cells [.int .i64 1]),(1000000,.cells [.msl 1000006 1 0 (List.length y)]),(1000001,.cells [.str ex]),(1000002,.cells [.sl .no 6 (List.length y) λj=>[.str (XPO.id (List.getD y j default)),.str (XPO.cl (List.getD y j default)),.int .i64 (XPO.sq (List.getD y j default)),.int .i64 (XPO.tm (List.getD y j default)),.int .i64 (XPO.arm (List.getD y j default)),.int .i64 (XPO.ver (List.getD y j default))] ]),(1000003,.cells [evA l ]),(1000004,.cells [.ref 1000007 0]),(1000005,.cells [.int .i64 k,.str (MT.nm m),.str (MT.bl m),.int .i64 (MT.wi m),.int .i64 (MT.cp m),.int .i64 (MT.le m),.int .i64 (MT.be m)]),(1000006,.arr 1 (List.length y) λj=>bif Nat.beq j (0+Int.toNat r2.1) then [.bool (bif x.2.1 (0+Int.toNat r2.1) then true else bif EV.name (List.getD (evK 1 l) x.1 default)==ex then EV.arm (List.getD (evK 1 l) x.1 default) !=XPO.arm (List.getD y (Int.toNat r2.1) default) else false)] else [.bool (x.2.1 j)]),(1000007,.cells [lkA r2.2.1,.mref 1000008]),(1000008,AO.mp false [KD.int .i64] r2.2.2.1 (fgA r2.2.2.2))]} (x.1+1,upM ex y x.2.1 r2.1.toNat ((evK 1 l).getD x.1 default),r2.2.2.1,r2.2.2.2) (Gf hv h1 q2 h3) (sF h1) (Gh hv q2))))))) λh3=>
   .go {env:=[(1000000,.int .i64 (↑(x.1+1):Int)),(3,.ref 1000004 0),(4,.ref 1000002 0),(5,.ref 1000005 0),(7,.ref 7 0),(12,.fn aw [] [.ref 12 0,.ref 100012 0])],objs:=[(7,.cells [.fn aJ [] [.ref 1000000 0,.ref 1000001 0,.ref 1000002 0] ]),(12,.cells [evA l ]),(100012,.cells [.int .i64 1]),(1000000,.cells [.msl 1000006 1 0 (List.length y)]),(1000001,.cells [.str ex]),(1000002,.cells [.sl .no 6 (List.length y) λj=>[.str (XPO.id (List.getD y j default)),.str (XPO.cl (List.getD y j default)),.int .i64 (XPO.sq (List.getD y j default)),.int .i64 (XPO.tm (List.getD y j default)),.int .i64 (XPO.arm (List.getD y j default)),.int .i64 (XPO.ver (List.getD y j default))] ]),(1000003,.cells [evA l ]),(1000004,.cells [.ref 1000007 0]),(1000005,.cells [.int .i64 k,.str (MT.nm m),.str (MT.bl m),.int .i64 (MT.wi m),.int .i64 (MT.cp m),.int .i64 (MT.le m),.int .i64 (MT.be m)]),(1000006,.arr 1 (List.length y) λj=>[.bool (x.2.1 j)]),(1000007,.cells [lkA r2.2.1,.mref 1000008]),(1000008,AO.mp false [KD.int .i64] r2.2.2.1 (fgA r2.2.2.2))]} (x.1+1,x.2.1,r2.2.2.1,r2.2.2.2) (Ge hv h1 q2) (sF h1) (Gg hv q2))) λh1=>
  .fi (SAX.mk (λ_=>[]) x.2.1 x.2.2.1 x.2.2.2) ⟨hv.2.1,hv.2.2⟩)
  (λx i k kn=>by kernel_rfl)
theorem Kc {ls:List LK} {y:List XPO} {l:List EV} {k:Int} {m:MT} {ex:TX} {d:List AV->Bool} {K:Int->FR} {t:OFX} {u:St->Bool} {w:St->SAX} (hu:∀x:SBS,SbI ls y l ex x->x.1=0->aW u w ((λx:SBS=>({env:=[(3,.ref 1000004 0),(4,.ref 1000002 0),(5,.ref 1000005 0),(7,.ref 7 0),(12,.fn aw [] [.ref 12 0,.ref 100012 0])],objs:=[(7,.cells [.fn aJ [] [.ref 1000000 0,.ref 1000001 0,.ref 1000002 0]]),(12,.cells [evA l]),(100012,.cells [.int .i64 1]),(1000000,.cells [.msl 1000006 1 0 y.length]),(1000001,.cells [.str ex]),(1000002,.cells [xpA y]),(1000003,.cells [evA l]),(1000004,.cells [.ref 1000007 0]),(1000005,.cells (m.c k)),(1000006,.arr 1 y.length (λj=>[.bool (x.2.1 j)])),(1000007,.cells [lkA ls,.mref 1000008]),(1000008,atO x.2.2.1 x.2.2.2)]}:St)) x) (SbP ls y l ex)) (hk:gJ ls d K) (ht:t=(l,1)):aW u w ({env:=[(3,.ref 1000004 0),(4,.ref 1000002 0),(5,.ref 1000005 0),(7,.ref 7 0),(12,.fn aw [] [.ref 12 0,.ref 100012 0])],objs:=[(7,.cells [.fn aJ [] [.ref 1000000 0,.ref 1000001 0,.ref 1000002 0]]),(12,.cells [evA t.1]),(100012,.cells [.int .i64 t.2]),(1000000,.cells [.msl 1000006 1 0 y.length]),(1000001,.cells [.str ex]),(1000002,.cells [xpA y]),(1000003,.cells [evA l]),(1000004,.cells [.ref 1000007 0]),(1000005,.cells (m.c k)),(1000006,.arr 1 y.length (λ_=>[.bool false])),(1000007,.cells [lkA ls,.mref 1000008]),(1000008,atO d K)]}) (SbP ls y l ex):=by
 subst ht
 exact hu (0,λ_=>false,d,K) ⟨Nat.zero_le _,λi h=>(by cases h),hk⟩ rfl
theorem C0 (ls:List LK) (y:List XPO) (l:List EV) (k:Int) (m:MT) (ex:TX) (d:List AV->Bool) (K:Int->FR) (hk:gJ ls d K) (hl:ls.length<=300000) (hm:l.length<=1000000) (hx:y.length<=1000000):∃x,SbP ls y l ex x/\Ct wd.P wd.G bA [.int .i64 1,.fn aJ [] [.ref 1000000 0,.ref 1000001 0,.ref 1000002 0],.ref 1000003 0,.ref 1000004 0,.ref 1000002 0,.ref 1000005 0] [.cells [.msl 1000006 1 0 y.length],.cells [.str ex],.cells [xpA y],.cells [evA l],.cells [.ref 1000007 0],.cells (m.c k),.arr 1 y.length (λj=>[.bool (false)]),.cells [lkA ls,.mref 1000008],atO d K] (ψSa [.int .i64 1,.fn aJ [] [.ref 1000000 0,.ref 1000001 0,.ref 1000002 0],.ref 1000003 0,.ref 1000004 0,.ref 1000002 0,.ref 1000005 0] [.cells [.msl 1000006 1 0 y.length],.cells [.str ex],.cells [xpA y],.cells [evA l],.cells [.ref 1000007 0],.cells (m.c k),.arr 1 y.length (λj=>[.bool (false)]),.cells [lkA ls,.mref 1000008],atO d K] x):=by
 obtain ⟨u,w,hu,hc⟩:=C1 ls y l k m ex hl hm hx
 exact vE (V:=VS1) (T:=[eOf,eJo]) (d:=2) (R:=λ_ _ x=>SbP ls y l ex x) (φ:=ψSa [.int .i64 1,.fn aJ [] [.ref 1000000 0,.ref 1000001 0,.ref 1000002 0],.ref 1000003 0,.ref 1000004 0,.ref 1000002 0,.ref 1000005 0] [.cells [.msl 1000006 1 0 y.length],.cells [.str ex],.cells [xpA y],.cells [evA l],.cells [.ref 1000007 0],.cells (m.c k),.arr 1 y.length (λj=>[.bool (false)]),.cells [lkA ls,.mref 1000008],atO d K]) 1 (C:=[([1,1,0],mkO u w (λ(x_:SAX) k_=>k_ .nor {env:=[(3,.ref 1000004 0),(4,.ref 1000002 0),(5,.ref 1000005 0),(7,.ref 7 0),(12,.fn aw [] [.ref 12 0,.ref 100012 0])],objs:=[(7,.cells [.fn aJ [] [.ref 1000000 0,.ref 1000001 0,.ref 1000002 0]]),(12,.cells [evA l]),(100012,.cells [.int .i64 1]),(1000000,.cells [.msl 1000006 1 0 y.length]),(1000001,.cells [.str ex]),(1000002,.cells [xpA y]),(1000003,.cells [evA l]),(1000004,.cells [.ref 1000007 0]),(1000005,.cells (m.c k)),(1000006,.arr 1 y.length (λj=>[.bool (x_.b j)])),(1000007,.cells [lkA ls,.mref 1000008]),(1000008,atO x_.d x_.K)]}))]) (L:=[]) (W:=[]) (λe he=>by rw [List.mem_singleton.1 he];exact hc _) ao ak (.call (yO l 1) λr1 q1=>
  .lp (Kc hu hk (rOf.eq q1)) λr2 q2=>
  .r r2 q2) (by kernel_rfl)
def rSj (A:List AV) (O:List AO) (x:SAX):Prop:=
 (∀ (ls:List LK) (y:List XPO) (l:List EV) (k:Int) (m:MT) (d:List AV->Bool) (K:Int->FR),A=[.int .i64 2,.fn aK [] [.ref 1000000 0],.ref 1000001 0,.ref 1000002 0,.ref 1000003 0,.ref 1000004 0]->O=[.cells [.msl 1000005 1 0 y.length],.cells [evA l],.cells [.ref 1000006 0],.cells [xpA y],.cells (m.c k),.mat 10 y.length (mtG λ_=>[]) none,.cells [lkA ls,.mref 1000007],atO d K]->gJ ls d K->SaP ls l x)/\∀ (ls:List LK) (y:List XPO) (l:List EV) (k:Int) (m:MT) (ex:TX) (d:List AV->Bool) (K:Int->FR),A=[.int .i64 1,.fn aJ [] [.ref 1000000 0,.ref 1000001 0,.ref 1000002 0],.ref 1000003 0,.ref 1000004 0,.ref 1000002 0,.ref 1000005 0]->O=[.cells [.msl 1000006 1 0 y.length],.cells [.str ex],.cells [xpA y],.cells [evA l],.cells [.ref 1000007 0],.cells (m.c k),.arr 1 y.length (λj=>[.bool (false)]),.cells [lkA ls,.mref 1000008],atO d K]->gJ ls d K->SbP ls y l ex x
noncomputable abbrev eSj:Ent:=Je wd bA ψSa rSj
theorem ic {a b:List AV} (h:AO.cells a=AO.cells b):a=b:=by injection h
theorem C6 (ls:List LK) (y:List XPO) (l:List EV) (k:Int) (m:MT) (d:List AV->Bool) (K:Int->FR) (hk:gJ ls d K) (hl:ls.length<=300000) (hm:l.length<=1000000) (hx:y.length<=1000000):bz wd bA (ψSa [.int .i64 2,.fn aK [] [.ref 1000000 0],.ref 1000001 0,.ref 1000002 0,.ref 1000003 0,.ref 1000004 0] [.cells [.msl 1000005 1 0 y.length],.cells [evA l],.cells [.ref 1000006 0],.cells [xpA y],.cells (m.c k),.mat 10 y.length (mtG λ_=>[]) none,.cells [lkA ls,.mref 1000007],atO d K]) rSj [.int .i64 2,.fn aK [] [.ref 1000000 0],.ref 1000001 0,.ref 1000002 0,.ref 1000003 0,.ref 1000004 0] [.cells [.msl 1000005 1 0 y.length],.cells [evA l],.cells [.ref 1000006 0],.cells [xpA y],.cells (m.c k),.mat 10 y.length (mtG λ_=>[]) none,.cells [lkA ls,.mref 1000007],atO d K]:=by
 obtain ⟨x,h1,h2⟩:=C2 ls y l k m d K hk hl hm hx
 refine ⟨x,⟨λls' y' l' k' m' d' K' e1 e2 _=>?_,λls' y' l' k' m' ex' d' K' e1=>?_⟩,h2⟩
 ·simp only [List.cons.injEq] at e2
  obtain ⟨_,e3,_,_,_,_,e4,_⟩:=e2
  have e3:=ic e3
  have e4:=ic e4
  simp only [List.cons.injEq] at e3 e4
  rw [<-ee e4.1,<-ju e3.1];exact h1
 ·simp at e1
theorem C5 (ls:List LK) (y:List XPO) (l:List EV) (k:Int) (m:MT) (ex:TX) (d:List AV->Bool) (K:Int->FR) (hk:gJ ls d K) (hl:ls.length<=300000) (hm:l.length<=1000000) (hx:y.length<=1000000):bz wd bA (ψSa [.int .i64 1,.fn aJ [] [.ref 1000000 0,.ref 1000001 0,.ref 1000002 0],.ref 1000003 0,.ref 1000004 0,.ref 1000002 0,.ref 1000005 0] [.cells [.msl 1000006 1 0 y.length],.cells [.str ex],.cells [xpA y],.cells [evA l],.cells [.ref 1000007 0],.cells (m.c k),.arr 1 y.length (λj=>[.bool (false)]),.cells [lkA ls,.mref 1000008],atO d K]) rSj [.int .i64 1,.fn aJ [] [.ref 1000000 0,.ref 1000001 0,.ref 1000002 0],.ref 1000003 0,.ref 1000004 0,.ref 1000002 0,.ref 1000005 0] [.cells [.msl 1000006 1 0 y.length],.cells [.str ex],.cells [xpA y],.cells [evA l],.cells [.ref 1000007 0],.cells (m.c k),.arr 1 y.length (λj=>[.bool (false)]),.cells [lkA ls,.mref 1000008],atO d K]:=by
 obtain ⟨x,h1,h2⟩:=C0 ls y l k m ex d K hk hl hm hx
 refine ⟨x,⟨λls' y' l' k' m' d' K' e1=>?_,λls' y' l' k' m' ex' d' K' e1 e2 _=>?_⟩,h2⟩
 ·simp at e1
 ·simp only [List.cons.injEq] at e2
  obtain ⟨_,e5,e6,e3,_,_,_,e4,_⟩:=e2
  have e3:=ic e3
  have e4:=ic e4
  have e5:=ic e5
  have e6:=ic e6
  simp only [List.cons.injEq,AV.str.injEq] at e3 e4 e5 e6
  rw [<-ee e4.1,<-ju e3.1,<-vT e6.1,<-e5.1];exact h1
end Go.WF

namespace Go.WF
open Go Go.Ab Go.Proofs
def φJm (x:List LK):AV×List AO:=(.ref ae 0,[.cells [lkA x,.mref (ae+1)],atO (λ_=>false) λ_ _=>none])
noncomputable def VSm:Env:={V0 with lend:=onD [31],hint:=λf t=>cond (Nat.beq f ew) (uM [24,100024] (V0.hint f t)) (V0.hint f t),trim:=λf p=>cond (Nat.beq f ew) ((V0.trim f p).map (uM [24,100024])) (V0.trim f p)}
noncomputable instance envSm:EnvOk VSm wd:=⟨rfl,rfl,eu,eH⟩
structure SMX where
 x:XPO
 va:Int
 lo:Int
 be:Int
 mx:Bool
instance:Inhabited SMX:=⟨⟨default,0,0,0,false⟩⟩
def SMX.c (s:SMX):List AV:=s.x.c++[.int .i64 s.va,.int .i64 s.lo,.int .i64 s.be,.bool s.mx]
def smA (l:List SMX):AV:=.sl .no 10 l.length λj=>(l.getD j default).c
def φSm (x:List SMX):AV×List AO:=(smA x,[])
structure SmS where
 y:List XPO
 ls:List LK
 G:Nat->List EV
 b:Nat->Bool
 d:List AV->Bool
 K:Int->FR
 v:Nat
 o:List SMX
instance:Inhabited SmS:=⟨⟨[],[],λ_=>[],λ_=>false,λ_=>false,λ_ _=>none,0,[]⟩⟩
noncomputable abbrev eLk:Ent:=dK wd jQ φLk rLk
theorem GO (l:List EV) (hl:l.length<=1000000):bz wd qQ φJm rLk [evA l] []:=
 bn (V:=V0) (T:=[eLk]) (d:=1) 1 ao ak (.call (yV l hl) λr1 q1=>
  .t (r:=(.ref ae 0,[.cells [lkA r1,.mref (ae+1)],.mp false [KD.int .i64] (λ_=>false) λ_=>.nilm])) r1 q1 ⟨.inl rfl,.inr (.cons _ _ _ _ _ (.same _) (.cons _ _ _ _ _ (.mp _ _ _ _ _ λl h=>(by cases h)) .nil))⟩) (by kernel_rfl)
noncomputable abbrev eMt:Ent:=dK wd qQ φJm rLk
def IK (l:List EV) (ex:TX) (s:SMX):Prop:=(∃e∈l,e.kind=1/\e.name=ex/\s.x=xpE e)/\(s.mx=true->∃e∈l,e.kind=1/\e.name=ex/\s.x.tm<=e.time/\aj (ofF (aD (bx l) e.time)) s.x.id=aj (ofF (aD (bx l) e.time)) e.id/\e.arm≠s.x.arm)
def SmP (l:List EV) (ex:TX) (o:List SMX):Prop:=o.length<=1000000/\∀s∈o,IK l ex s
structure SmI (l:List EV) (ex:TX) (x:SmS):Prop where
 v:x.v<=x.y.length
 yn:x.y.length<=(evK 1 l).length
 y:E5 l ex x.y
 m:IL (bx l) x.y l ex x.b
 g:zO 2 (evK 2 l).length x.G
 on:x.o.length<=x.v
 o:∀s∈x.o,IK l ex s
section
variable {l:List EV} {ex:TX} {mk:Int} {x:SmS}
theorem SmI.y6 (h:SmI l ex x) (hl:l.length<=1000000):x.y.length<=1000000:=Nat.le_trans h.yn (Nat.le_trans (kv 1 l) hl)
theorem SmI.o6 (h:SmI l ex x) (hl:l.length<=1000000):x.o.length<=1000000:=Nat.le_trans h.on (Nat.le_trans h.v (h.y6 hl))
theorem SmI.skip (h:SmI l ex x) (hv:x.v < x.y.length):SmI l ex {x with v:=x.v+1}:=⟨hv,h.yn,h.y,h.m,h.g,Nat.le_succ_of_le h.on,h.o⟩
theorem SmI.step (h:SmI l ex x) (hv:x.v < x.y.length) {p q:Int}:SmI l ex {x with v:=x.v+1,o:=x.o++[⟨x.y.getD x.v default,p,q,0,x.b (0+x.v)⟩]}:=by
 refine ⟨hv,h.yn,h.y,h.m,h.g,by have:=h.on;simp;omega,λs hs=>?_⟩
 rcases List.mem_append.1 hs with hs | hs
 ·exact h.o s hs
 ·have hs:=List.mem_singleton.1 hs
  have hm:x.y.getD x.v default∈x.y:=by rw [List.getD_eq_getElem?_getD,List.getElem?_eq_getElem hv];exact List.getElem_mem hv
  subst hs
  refine ⟨h.y _ hm,λhb=>?_⟩
  obtain ⟨e,h1,h2,h3,⟨i,e0,h4,h5,h6⟩,h7⟩:=h.m (0+x.v) hb
  rw [Nat.zero_add] at e0 h7
  have e0:x.v=i:=by omega
  rw [<-e0] at h5 h6
  exact ⟨e,h1,h2,h3,h5,h6,h7⟩
theorem IU {v n:Nat} (h:v < n):Nat.blt (0+v) n=true:=by rw [Nat.zero_add];exact tj h
theorem F8 (hy:x.y.length<=1000000) (h:x.v < x.y.length):({env:=[(3,.int .i64 mk),(4,.ref 4 0),(6,.ref 6 0),(9,.ref 9 0),(11,.ref 11 0),(12,.ref 12 0),(14,.sl (.key 123) 10 (x.o.length) (λj=>(x.o.getD j default).c)),(42,xpA x.y),(43,.int .i64 (x.y.length:Int)),(44,.int .i64 (IntKind.wrap .i64 ((x.v:Int)+1)))],objs:=[(4,.cells [evA l]),(5,.cells [.str ex]),(6,.cells (mX.c kX)),(9,.cells [.ref 24 0]),(10,.cells [xpA x.y]),(11,.cells [.msl 31 1 0 x.y.length]),(12,.cells [.msl 34 1 0 x.y.length]),(31,.mat 10 x.y.length (mtG x.G) none),(34,.arr 1 x.y.length λj=>[.bool (x.b j)]),(123,.own 10 (x.o.length)),(24,.cells [lkA x.ls,.mref 100024]),(100024,atO x.d x.K)]}:St)=(λx:SmS=>({env:=[(3,.int .i64 mk),(4,.ref 4 0),(6,.ref 6 0),(9,.ref 9 0),(11,.ref 11 0),(12,.ref 12 0),(14,.sl (.key 123) 10 (x.o.length) (λj=>(x.o.getD j default).c)),(42,xpA x.y),(43,.int .i64 (x.y.length:Int)),(44,.int .i64 ((x.v:Int)))],objs:=[(4,.cells [evA l]),(5,.cells [.str ex]),(6,.cells (mX.c kX)),(9,.cells [.ref 24 0]),(10,.cells [xpA x.y]),(11,.cells [.msl 31 1 0 x.y.length]),(12,.cells [.msl 34 1 0 x.y.length]),(31,.mat 10 x.y.length (mtG x.G) none),(34,.arr 1 x.y.length λj=>[.bool (x.b j)]),(123,.own 10 (x.o.length)),(24,.cells [lkA x.ls,.mref 100024]),(100024,atO x.d x.K)]}:St)) {x with v:=x.v+1}:=by
 rw [bC (by omega)]
theorem F7 (hy:x.y.length<=1000000) (h:x.v < x.y.length) {r:Int×Int}:({env:=[(3,.int .i64 mk),(4,.ref 4 0),(6,.ref 6 0),(9,.ref 9 0),(11,.ref 11 0),(12,.ref 12 0),(14,.sl (.key 123) 10 (x.o.length+1) (ar x.o.length 1 (λj=>(x.o.getD j default).c) (ag [.str [],.str [],.int .i64 0,.int .i64 0,.int .i64 0,.int .i64 0,.int .i64 0,.int .i64 0,.int .i64 0,.bool false] [(0,.agg [.str (x.y.getD x.v default).id,.str (x.y.getD x.v default).cl,.int .i64 (x.y.getD x.v default).sq,.int .i64 (x.y.getD x.v default).tm,.int .i64 (x.y.getD x.v default).arm,.int .i64 (x.y.getD x.v default).ver,.int .i64 r.1,.int .i64 r.2,.int .i64 0,.bool (x.b (0+x.v))])]))),(42,xpA x.y),(43,.int .i64 (x.y.length:Int)),(44,.int .i64 (IntKind.wrap .i64 ((x.v:Int)+1)))],objs:=[(4,.cells [evA l]),(5,.cells [.str ex]),(6,.cells (mX.c kX)),(9,.cells [.ref 24 0]),(10,.cells [xpA x.y]),(11,.cells [.msl 31 1 0 x.y.length]),(12,.cells [.msl 34 1 0 x.y.length]),(31,.mat 10 x.y.length (mtG x.G) none),(34,.arr 1 x.y.length λj=>[.bool (x.b j)]),(123,.own 10 (x.o.length+1)),(24,.cells [lkA x.ls,.mref 100024]),(100024,atO x.d x.K)]}:St)=(λx:SmS=>({env:=[(3,.int .i64 mk),(4,.ref 4 0),(6,.ref 6 0),(9,.ref 9 0),(11,.ref 11 0),(12,.ref 12 0),(14,.sl (.key 123) 10 (x.o.length) (λj=>(x.o.getD j default).c)),(42,xpA x.y),(43,.int .i64 (x.y.length:Int)),(44,.int .i64 ((x.v:Int)))],objs:=[(4,.cells [evA l]),(5,.cells [.str ex]),(6,.cells (mX.c kX)),(9,.cells [.ref 24 0]),(10,.cells [xpA x.y]),(11,.cells [.msl 31 1 0 x.y.length]),(12,.cells [.msl 34 1 0 x.y.length]),(31,.mat 10 x.y.length (mtG x.G) none),(34,.arr 1 x.y.length λj=>[.bool (x.b j)]),(123,.own 10 (x.o.length)),(24,.cells [lkA x.ls,.mref 100024]),(100024,atO x.d x.K)]}:St)) {x with v:=x.v+1,o:=x.o++[⟨x.y.getD x.v default,r.1,r.2,0,x.b (0+x.v)⟩]}:=by
 rw [bC (by omega),gk SMX.c x.o ⟨x.y.getD x.v default,r.1,r.2,0,x.b (0+x.v)⟩ _ rfl]
 simp only [List.length_append,List.length_singleton]
theorem zX (ls:List LK):gJ ls (λ_=>false) λ_ _=>none:=λ_ h=>(by cases h)
theorem J9 {n:Nat} (h:n<=1000000):(decide ((n:Int)=(n:Int))&&(decide (0<=(n:Int))&&(roomy 24 (Int.toNat (n:Int))&&decide ((n:Int)<=140737488355328))))=true:=by
 rw [decide_eq_true rfl,decide_eq_true (by omega),decide_eq_true (by omega),o9 (by show n*24<=_;omega)];rfl
theorem F9 {n:Nat} (h:n<=1000000):(decide ((n:Int)=(n:Int))&&(decide (0<=(n:Int))&&(roomy 1 (Int.toNat (n:Int))&&decide ((n:Int)<=140737488355328))))=true:=by
 rw [decide_eq_true rfl,decide_eq_true (by omega),decide_eq_true (by omega),o9 (by show n*1<=_;omega)];rfl
variable {r3:List LK} {r4:JFX} {r5 r6:SAX} {o1 o2:List AO} {u:St->Bool} {w:St->SmS}
theorem Kb (hl3:(bx l).length<=300000) (q:rLk [evA l] o1 r3):r3.length<=300000:=by rw [q l rfl];exact hl3
abbrev JFQ (r3:List LK) (l:List EV) (ex:TX) (r4:JFX):Prop:=rJf [.ref ae 0,evA l,.str ex] [.cells [lkA r3,.mref (ae+1)],atO (λ_=>false) λ_ _=>none] r4
theorem JFQ.p (q3:rLk [evA l] o1 r3) (q:JFQ r3 l ex r4):r4.2.1=bx l/\r4.1.length<=(evK 1 l).length/\E5 l ex r4.1/\gJ (bx l) r4.2.2.1 r4.2.2.2:=by
 have e:=q3 l rfl
 subst e
 exact q _ _ _ _ _ rfl rfl (zX _)
theorem EX (q3:rLk [evA l] o1 r3) (q:JFQ r3 l ex r4) (hl:l.length<=1000000):r4.1.length<=1000000:=Nat.le_trans (q.p q3).2.1 (Nat.le_trans (kv 1 l) hl)
abbrev ym (l:List EV) (r4:JFX):List AV×List AO:=((λ(y:List XPO) (ls:List LK) (k:Int) (m:MT) (d:List AV->Bool) (K:Int->FR)=>([.int .i64 2,.fn aK [] [.ref 1000000 0],.ref 1000001 0,.ref 1000002 0,.ref 1000003 0,.ref 1000004 0],[.cells [.msl 1000005 1 0 y.length],.cells [evA l],.cells [.ref 1000006 0],.cells [xpA y],.cells (m.c k),.mat 10 y.length (mtG λ_=>[]) none,.cells [lkA ls,.mref 1000007],atO d K])) r4.1 r4.2.1 kX mX r4.2.2.1 r4.2.2.2)
theorem Gb (q3:rLk [evA l] o1 r3) (q:JFQ r3 l ex r4) (hl3:(bx l).length<=300000) (hl:l.length<=1000000):bz wd bA (ψSa (ym l r4).1 (ym l r4).2) rSj (ym l r4).1 (ym l r4).2:=by
 obtain ⟨h1,h2,h3,h4⟩:=q.p q3
 exact C6 _ _ l _ _ _ _ (by rw [h1];exact h4) (by rw [h1];exact hl3) hl (EX q3 q hl)
theorem zR (q3:rLk [evA l] o1 r3) (q:JFQ r3 l ex r4) (q5:rSj (ym l r4).1 (ym l r4).2 r5):SaP (bx l) l r5:=by
 obtain ⟨h1,h2,h3,h4⟩:=q.p q3
 have:=q5.1 r4.2.1 r4.1 l kX mX r4.2.2.1 r4.2.2.2 rfl rfl (by rw [h1];exact h4)
 rw [h1] at this;exact this
abbrev Cm (l:List EV) (ex:TX) (r4:JFX) (r5:SAX):List AV×List AO:=((λ(y:List XPO) (ls:List LK) (k:Int) (m:MT) (d:List AV->Bool) (K:Int->FR)=>([.int .i64 1,.fn aJ [] [.ref 1000000 0,.ref 1000001 0,.ref 1000002 0],.ref 1000003 0,.ref 1000004 0,.ref 1000002 0,.ref 1000005 0],[.cells [.msl 1000006 1 0 y.length],.cells [.str ex],.cells [xpA y],.cells [evA l],.cells [.ref 1000007 0],.cells (m.c k),.arr 1 y.length (λj=>[.bool (false)]),.cells [lkA ls,.mref 1000008],atO d K])) r4.1 r4.2.1 kX mX r5.d r5.K)
theorem Ga (q3:rLk [evA l] o1 r3) (q:JFQ r3 l ex r4) (q5:rSj (ym l r4).1 (ym l r4).2 r5) (hl3:(bx l).length<=300000) (hl:l.length<=1000000):bz wd bA (ψSa (Cm l ex r4 r5).1 (Cm l ex r4 r5).2) rSj (Cm l ex r4 r5).1 (Cm l ex r4 r5).2:=by
 obtain ⟨h1,h2,h3,h4⟩:=q.p q3
 exact C5 _ _ l _ _ ex _ _ (by rw [h1];exact (zR q3 q q5).2) (by rw [h1];exact hl3) hl (EX q3 q hl)
theorem Ka (hu:∀x:SmS,SmI l ex x->aW u w ((λx:SmS=>({env:=[(3,.int .i64 mk),(4,.ref 4 0),(6,.ref 6 0),(9,.ref 9 0),(11,.ref 11 0),(12,.ref 12 0),(14,.sl (.key 123) 10 (x.o.length) (λj=>(x.o.getD j default).c)),(42,xpA x.y),(43,.int .i64 (x.y.length:Int)),(44,.int .i64 ((x.v:Int)))],objs:=[(4,.cells [evA l]),(5,.cells [.str ex]),(6,.cells (mX.c kX)),(9,.cells [.ref 24 0]),(10,.cells [xpA x.y]),(11,.cells [.msl 31 1 0 x.y.length]),(12,.cells [.msl 34 1 0 x.y.length]),(31,.mat 10 x.y.length (mtG x.G) none),(34,.arr 1 x.y.length λj=>[.bool (x.b j)]),(123,.own 10 (x.o.length)),(24,.cells [lkA x.ls,.mref 100024]),(100024,atO x.d x.K)]}:St)) x) λx=>SmP l ex x.o) (q3:rLk [evA l] o1 r3) (q:JFQ r3 l ex r4) (q5:rSj (ym l r4).1 (ym l r4).2 r5) (q6:rSj (Cm l ex r4 r5).1 (Cm l ex r4 r5).2 r6) (hl:l.length<=1000000):aW u w ((λx:SmS=>({env:=[(3,.int .i64 mk),(4,.ref 4 0),(6,.ref 6 0),(9,.ref 9 0),(11,.ref 11 0),(12,.ref 12 0),(14,.sl (.key 123) 10 (0) (λ_=>[.str [],.str [],.int .i64 0,.int .i64 0,.int .i64 0,.int .i64 0,.int .i64 0,.int .i64 0,.int .i64 0,.bool false])),(42,xpA x.y),(43,.int .i64 (x.y.length:Int)),(44,.int .i64 (0))],objs:=[(4,.cells [evA l]),(5,.cells [.str ex]),(6,.cells (mX.c kX)),(9,.cells [.ref 24 0]),(10,.cells [xpA x.y]),(11,.cells [.msl 31 1 0 x.y.length]),(12,.cells [.msl 34 1 0 x.y.length]),(31,.mat 10 x.y.length (mtG x.G) none),(34,.arr 1 x.y.length λj=>[.bool (x.b j)]),(123,.own 10 (0)),(24,.cells [lkA x.ls,.mref 100024]),(100024,atO x.d x.K)]}:St)) ⟨r4.1,r4.2.1,r5.G,r6.b,r6.d,r6.K,0,[]⟩) λx=>SmP l ex x.o:=by
 obtain ⟨h1,h2,h3,h4⟩:=q.p q3
 have g5:=zR q3 q q5
 have g6:=q6.2 r4.2.1 r4.1 l kX mX ex r5.d r5.K rfl rfl (by rw [h1];exact g5.2)
 rw [h1] at g6
 exact hu ⟨r4.1,r4.2.1,r5.G,r6.b,r6.d,r6.K,0,[]⟩ ⟨Nat.zero_le _,h2,h3,g6.1,g5.1,Nat.le_refl _,λ_ h=>absurd h List.not_mem_nil⟩
end
theorem AH (l:List EV) (ex:TX) (mk:Int) (hl:l.length<=1000000):∃ (u:St->Bool) (w:St->SmS),(∀x:SmS,SmI l ex x->aW u w ((λx:SmS=>({env:=[(3,.int .i64 mk),(4,.ref 4 0),(6,.ref 6 0),(9,.ref 9 0),(11,.ref 11 0),(12,.ref 12 0),(14,.sl (.key 123) 10 (x.o.length) (λj=>(x.o.getD j default).c)),(42,xpA x.y),(43,.int .i64 (x.y.length:Int)),(44,.int .i64 ((x.v:Int)))],objs:=[(4,.cells [evA l]),(5,.cells [.str ex]),(6,.cells (mX.c kX)),(9,.cells [.ref 24 0]),(10,.cells [xpA x.y]),(11,.cells [.msl 31 1 0 x.y.length]),(12,.cells [.msl 34 1 0 x.y.length]),(31,.mat 10 x.y.length (mtG x.G) none),(34,.arr 1 x.y.length λj=>[.bool (x.b j)]),(123,.own 10 (x.o.length)),(24,.cells [lkA x.ls,.mref 100024]),(100024,atO x.d x.K)]}:St)) x) λx=>SmP l ex x.o)/\∀L:List (List Nat×Orc),bq (VSm.run [eMc,eMv,eMt,eJf,eSj] 1 [] L [] ew) ew [1,1,1,1,1,1,1,1,1,1,0,1,0] (mkO u w (λ(x_:SmS) k_=>k_ (.exit 0) {env:=[(14,.sl (.key 123) 10 x_.o.length λj=>(x_.o.getD j default).c)],objs:=[(4,.cells [evA l]),(5,.cells [.str ex]),(6,.cells (mX.c kX)),(9,.cells [.ref 24 0]),(10,.cells [xpA x_.y]),(11,.cells [.msl 31 1 0 x_.y.length]),(12,.cells [.msl 34 1 0 x_.y.length]),(31,.mat 10 x_.y.length (mtG x_.G) none),(34,.arr 1 x_.y.length λj=>[.bool (x_.b j)]),(123,.own 10 (x_.o.length)),(24,.cells [lkA x_.ls,.mref 100024]),(100024,atO x_.d x_.K)]})):=
 bX (Lf:=λL=>L) (λx:SmS=>{env:=[(3,.int .i64 mk),(4,.ref 4 0),(6,.ref 6 0),(9,.ref 9 0),(11,.ref 11 0),(12,.ref 12 0),(14,.sl (.key 123) 10 (x.o.length) (λj=>(x.o.getD j default).c)),(42,xpA x.y),(43,.int .i64 (x.y.length:Int)),(44,.int .i64 ((x.v:Int)))],objs:=[(4,.cells [evA l]),(5,.cells [.str ex]),(6,.cells (mX.c kX)),(9,.cells [.ref 24 0]),(10,.cells [xpA x.y]),(11,.cells [.msl 31 1 0 x.y.length]),(12,.cells [.msl 34 1 0 x.y.length]),(31,.mat 10 x.y.length (mtG x.G) none),(34,.arr 1 x.y.length λj=>[.bool (x.b j)]),(123,.own 10 (x.o.length)),(24,.cells [lkA x.ls,.mref 100024]),(100024,atO x.d x.K)]}) (SmI l ex) (λx=>x.y.length - x.v) (λ(x_:SmS) k_=>k_ (.exit 0) {env:=[(14,.sl (.key 123) 10 x_.o.length λj=>(x_.o.getD j default).c)],objs:=[(4,.cells [evA l]),(5,.cells [.str ex]),(6,.cells (mX.c kX)),(9,.cells [.ref 24 0]),(10,.cells [xpA x_.y]),(11,.cells [.msl 31 1 0 x_.y.length]),(12,.cells [.msl 34 1 0 x_.y.length]),(31,.mat 10 x_.y.length (mtG x_.G) none),(34,.arr 1 x_.y.length λj=>[.bool (x_.b j)]),(123,.own 10 (x_.o.length)),(24,.cells [lkA x_.ls,.mref 100024]),(100024,atO x_.d x_.K)]}) (λx=>SmP l ex x.o) (by kernel_rfl) (λx hv=>.b (decide ((↑(SmS.v x):Int) < (↑(List.length (SmS.y x)):Int))) (λh1=>
   .n (c:=within (↑(SmS.v x):Int) (List.length (SmS.y x))) (aO (aN h1)) (
   .b (decide (IntKind.wrap .i64 (XPO.tm (List.getD (SmS.y x) (Int.toNat (↑(SmS.v x):Int)) default)+MT.wi mX) > mk)) (λh2=>
    .go {env:=[(3,.int .i64 mk),(4,.ref 4 0),(6,.ref 6 0),(9,.ref 9 0),(11,.ref 11 0),(12,.ref 12 0),(14,.sl (.key 123) 10 (List.length (SmS.o x)) λj=>[.str (XPO.id (SMX.x (List.getD (SmS.o x) j default))),.str (XPO.cl (SMX.x (List.getD (SmS.o x) j default))),.int .i64 (XPO.sq (SMX.x (List.getD (SmS.o x) j default))),.int .i64 (XPO.tm (SMX.x (List.getD (SmS.o x) j default))),.int .i64 (XPO.arm (SMX.x (List.getD (SmS.o x) j default))),.int .i64 (XPO.ver (SMX.x (List.getD (SmS.o x) j default))),.int .i64 (SMX.va (List.getD (SmS.o x) j default)),.int .i64 (SMX.lo (List.getD (SmS.o x) j default)),.int .i64 (SMX.be (List.getD (SmS.o x) j default)),.bool (SMX.mx (List.getD (SmS.o x) j default))]),(42,.sl .no 6 (List.length (SmS.y x)) λj=>[.str (XPO.id (List.getD (SmS.y x) j default)),.str (XPO.cl (List.getD (SmS.y x) j default)),.int .i64 (XPO.sq (List.getD (SmS.y x) j default)),.int .i64 (XPO.tm (List.getD (SmS.y x) j default)),.int .i64 (XPO.arm (List.getD (SmS.y x) j default)),.int .i64 (XPO.ver (List.getD (SmS.y x) j default))]),(43,.int .i64 (↑(List.length (SmS.y x)):Int)),(44,.int .i64 (IntKind.wrap .i64 ((↑(SmS.v x):Int)+1)))],objs:=[(4,.cells [evA l ]),(5,.cells [.str ex]),(6,.cells [.int .i64 kX,.str (MT.nm mX),.str (MT.bl mX),.int .i64 (MT.wi mX),.int .i64 (MT.cp mX),.int .i64 (MT.le mX),.int .i64 (MT.be mX)]),(9,.cells [.ref 24 0]),(10,.cells [.sl .no 6 (List.length (SmS.y x)) λj=>[.str (XPO.id (List.getD (SmS.y x) j default)),.str (XPO.cl (List.getD (SmS.y x) j default)),.int .i64 (XPO.sq (List.getD (SmS.y x) j default)),.int .i64 (XPO.tm (List.getD (SmS.y x) j default)),.int .i64 (XPO.arm (List.getD (SmS.y x) j default)),.int .i64 (XPO.ver (List.getD (SmS.y x) j default))] ]),(11,.cells [.msl 31 1 0 (List.length (SmS.y x))]),(12,.cells [.msl 34 1 0 (List.length (SmS.y x))]),(31,AO.mat 10 (List.length (SmS.y x)) (mtG (SmS.G x)) none),(34,.arr 1 (List.length (SmS.y x)) λj=>[.bool (SmS.b x j)]),(123,.own 10 (List.length (SmS.o x))),(24,.cells [lkA (SmS.ls x),.mref 100024]),(100024,AO.mp false [KD.int .i64] (SmS.d x) (fgA (SmS.K x)))]} {x with v:=x.v+1} (hv.skip (aN h1)) (iz (aN h1)) (F8 (hv.y6 hl) (aN h1))) λh2=>
   .n (c:=within (↑(SmS.v x):Int) (List.length (SmS.y x))) (aO (aN h1)) (
   .n (c:=Nat.blt (0+Int.toNat (↑(SmS.v x):Int)) (List.length (SmS.y x))) (IU (aN h1)) (
   .n (c:=within (↑(SmS.v x):Int) (List.length (SmS.y x))) (aO (aN h1)) (
   .n (c:=Nat.blt (0+Int.toNat (↑(SmS.v x):Int)) (List.length (SmS.y x))) (IU (aN h1)) (
   .call (GN (x.G (0+x.v)) (hv.g _).2 (Nat.le_trans (hv.g _).1 (Nat.le_trans (kv 2 l) hl))) λr3 q3=>
   .n (c:=roomy 96 (List.length (SmS.o x)+1)&&Nat.beq (List.length (SmS.o x)) (List.length (SmS.o x))) (bd (by have:=hv.o6 hl;omega)) (
   .go {env:=[(3,.int .i64 mk),(4,.ref 4 0),(6,.ref 6 0),(9,.ref 9 0),(11,.ref 11 0),(12,.ref 12 0),(14,.sl (.key 123) 10 (List.length (SmS.o x)+1) (ar (List.length (SmS.o x)) 1 (λj=>[.str (XPO.id (SMX.x (List.getD (SmS.o x) j default))),.str (XPO.cl (SMX.x (List.getD (SmS.o x) j default))),.int .i64 (XPO.sq (SMX.x (List.getD (SmS.o x) j default))),.int .i64 (XPO.tm (SMX.x (List.getD (SmS.o x) j default))),.int .i64 (XPO.arm (SMX.x (List.getD (SmS.o x) j default))),.int .i64 (XPO.ver (SMX.x (List.getD (SmS.o x) j default))),.int .i64 (SMX.va (List.getD (SmS.o x) j default)),.int .i64 (SMX.lo (List.getD (SmS.o x) j default)),.int .i64 (SMX.be (List.getD (SmS.o x) j default)),.bool (SMX.mx (List.getD (SmS.o x) j default))]) (ag [.str [],.str [],.int .i64 0,.int .i64 0,.int .i64 0,.int .i64 0,.int .i64 0,.int .i64 0,.int .i64 0,.bool false] [(0,.agg [.str (XPO.id (List.getD (SmS.y x) (Int.toNat (↑(SmS.v x):Int)) default)),.str (XPO.cl (List.getD (SmS.y x) (Int.toNat (↑(SmS.v x):Int)) default)),.int .i64 (XPO.sq (List.getD (SmS.y x) (Int.toNat (↑(SmS.v x):Int)) default)),.int .i64 (XPO.tm (List.getD (SmS.y x) (Int.toNat (↑(SmS.v x):Int)) default)),.int .i64 (XPO.arm (List.getD (SmS.y x) (Int.toNat (↑(SmS.v x):Int)) default)),.int .i64 (XPO.ver (List.getD (SmS.y x) (Int.toNat (↑(SmS.v x):Int)) default)),.int .i64 r3.1,.int .i64 r3.2,.int .i64 0,.bool (SmS.b x (0+Int.toNat (↑(SmS.v x):Int)))])]))),(42,.sl .no 6 (List.length (SmS.y x)) λj=>[.str (XPO.id (List.getD (SmS.y x) j default)),.str (XPO.cl (List.getD (SmS.y x) j default)),.int .i64 (XPO.sq (List.getD (SmS.y x) j default)),.int .i64 (XPO.tm (List.getD (SmS.y x) j default)),.int .i64 (XPO.arm (List.getD (SmS.y x) j default)),.int .i64 (XPO.ver (List.getD (SmS.y x) j default))]),(43,.int .i64 (↑(List.length (SmS.y x)):Int)),(44,.int .i64 (IntKind.wrap .i64 ((↑(SmS.v x):Int)+1)))],objs:=[(4,.cells [evA l ]),(5,.cells [.str ex]),(6,.cells [.int .i64 kX,.str (MT.nm mX),.str (MT.bl mX),.int .i64 (MT.wi mX),.int .i64 (MT.cp mX),.int .i64 (MT.le mX),.int .i64 (MT.be mX)]),(9,.cells [.ref 24 0]),(10,.cells [.sl .no 6 (List.length (SmS.y x)) λj=>[.str (XPO.id (List.getD (SmS.y x) j default)),.str (XPO.cl (List.getD (SmS.y x) j default)),.int .i64 (XPO.sq (List.getD (SmS.y x) j default)),.int .i64 (XPO.tm (List.getD (SmS.y x) j default)),.int .i64 (XPO.arm (List.getD (SmS.y x) j default)),.int .i64 (XPO.ver (List.getD (SmS.y x) j default))] ]),(11,.cells [.msl 31 1 0 (List.length (SmS.y x))]),(12,.cells [.msl 34 1 0 (List.length (SmS.y x))]),(31,AO.mat 10 (List.length (SmS.y x)) (mtG (SmS.G x)) none),(34,.arr 1 (List.length (SmS.y x)) λj=>[.bool (SmS.b x j)]),(123,.own 10 (List.length (SmS.o x)+1)),(24,.cells [lkA (SmS.ls x),.mref 100024]),(100024,AO.mp false [KD.int .i64] (SmS.d x) (fgA (SmS.K x)))]} {x with v:=x.v+1,o:=x.o++[⟨x.y.getD x.v default,r3.1,r3.2,0,x.b (0+x.v)⟩]} (hv.step (aN h1)) (iz (aN h1)) (F7 (hv.y6 hl) (aN h1))))))))) λh1=>
  .fi x ⟨Nat.le_trans hv.on (Nat.le_trans hv.v (hv.y6 hl)),hv.o⟩) (λx L k kn=>by kernel_rfl)
def rSm (A:List AV) (_:List AO) (x:List SMX):Prop:=∀l ex mk,A=[evA l,.str ex,mtA,.int .i64 mk]->SmP l ex x
theorem CX (l:List EV) (ex:TX) (mk:Int) (hl:l.length<=1000000) (hl3:(bx l).length<=300000):bz wd ew φSm rSm [evA l,.str ex,mtA,.int .i64 mk] []:=by
 obtain ⟨u,w,hu,hc⟩:=AH l ex mk hl
 refine (bn (V:=VSm) (T:=[eMc,eMv,eMt,eJf,eSj]) (d:=1) (R:=λ_ _ x=>SmP l ex x) 0 (aE (hc _) ao) ak (.call (DG) λr1 q1=>
  .b (r1 !=0) (λh2=>
   .t (r:=(.sl .fit 0 0 λ_=>[],[])) [] ⟨Nat.zero_le _,λ_ h=>absurd h List.not_mem_nil⟩ (.one cz)) λh2=>
  .call (GO l hl) λr3 q3=>
  .call (Hy r3 l ex (λ_=>false) (λ_ _=>none) (zX _) (Kb hl3 q3) hl) λr4 q4=>
  .n (c:=decide ((↑(List.length r4.1):Int)=(↑(List.length r4.1):Int))&&(decide (0<=(↑(List.length r4.1):Int))&&(roomy 24 (Int.toNat (↑(List.length r4.1):Int))&&decide ((↑(List.length r4.1):Int)<=140737488355328)))) (J9 (EX q3 q4 hl)) (
  .n (c:=decide ((↑(List.length r4.1):Int)=(↑(List.length r4.1):Int))&&(decide (0<=(↑(List.length r4.1):Int))&&(roomy 1 (Int.toNat (↑(List.length r4.1):Int))&&decide ((↑(List.length r4.1):Int)<=140737488355328)))) (F9 (EX q3 q4 hl)) (
  .call (Gb q3 q4 hl3 hl) λr5 q5=>
  .call (Ga q3 q4 q5 hl3 hl) λr6 q6=>
  .lp (Ka hu q3 q4 q5 q6 hl) λr7 q7=>
  .r r7.o q7))) (by kernel_rfl)).mono λx hx l' ex' mk' h=>?_
 simp only [List.cons.injEq,AV.str.injEq] at h
 rw [<-h.2.1,<-ju h.1];exact hx
noncomputable abbrev eSm:Ent:=dK wd ew φSm rSm
end Go.WF

namespace Go.WF
open Go Go.Ab Go.Proofs
def oth (k:LK) (a:TX):TX×Bool:=cond (a==k.a) (k.b,true) (cond (a==k.b) (k.a,true) ([],false))
def φOt (x:TX×Bool):AV×List AO:=(.tup [.str x.1,.bool x.2],[])
def diO (d:List AV->Bool) (g:List AV->Int):AO:=.mp false [.str] d λl=>.int .i64 (g l)
def diW:List (List Nat×Vw):=[([1,1,0,1],AJ [6]),([1,1,0,1,0,0,1,0,1,1],AJ [7])]
structure DX where
 d:List AV->Bool
 g:List AV->Int
 nx:TXL
 t:TXL
 v:Nat
instance:Inhabited DX:=⟨⟨λ_=>false,λ_=>0,[],[],0⟩⟩
def φDs (x:(List AV->Bool)×(List AV->Int)):AV×List AO:=(.mref ae,[diO x.1 x.2])
theorem Jd (x y:TX):bO [.str x] [.str y]=(x==y):=by simp [bO,eqC]
def kn (d:List AV->Bool) (x:TX):Bool:=d [.str x]
def vl (g:List AV->Int) (x:TX):Int:=g [.str x]
def upD (d:List AV->Bool) (x:TX):List AV->Bool:=λl=>bif bO l [.str x] then true else d l
def upG (g:List AV->Int) (x:TX) (n:Int):List AV->Int:=λl=>bif bO l [.str x] then n else g l
theorem pk (d:List AV->Bool) (x y:TX):kn (upD d x) y=bif y==x then true else kn d y:=by
 unfold kn upD;rw [Jd]
theorem uP (g:List AV->Int) (x y:TX) (n:Int):vl (upG g x n) y=bif y==x then n else vl g y:=by
 unfold vl upG;rw [Jd]
theorem jo {d:List AV->Bool} {x y:TX} (h:kn d y=true):kn (upD d x) y=true:=by
 rw [pk,h];cases y==x <;> rfl
theorem Aj (d:List AV->Bool) (g:List AV->Int) (x:TX) (n:Int):AO.mp false [KD.str] (λl=>bif bO l [.str x] then true else d l) (λl=>bif bO l [.str x] then .int .i64 n else .int .i64 (g l))=diO (upD d x) (upG g x n):=by
 unfold diO upD upG
 congr 1
 funext l
 cases bO l [.str x] <;> rfl
theorem pK {d d':List AV->Bool} {g g':List AV->Int} (h:diO d g=diO d' g'):d=d'/\g=g':=by
 injection h with _ _ h1 h2
 refine ⟨h1,funext λn=>?_⟩
 have:=congrFun h2 n
 injection this
def ends (l:List LK):TXL:=l.flatMap λk=>[k.a,k.b]
theorem uB:∀l:List LK,(ends l).length=2*l.length
 | []=>rfl
 | k::l=>by
  have:=uB l
  show (k.a::k.b::ends l).length=2*(l.length+1)
  simp only [List.length_cons];omega
def mis (l:List LK) (d:List AV->Bool):Nat:=(ends l).countP λx=>!kn d x
theorem w6 (l:List LK) (d:List AV->Bool):mis l d<=2*l.length:=by
 rw [<-uB];exact List.countP_le_length
theorem Ak {p q:TX->Bool} {x:TX} (h:∀y,p y=true->q y=true) (h1:p x=false) (h2:q x=true):∀ {L:TXL},x∈L->L.countP p < L.countP q
 | z::L,hx=>by
  have hle:L.countP p<=L.countP q:=List.countP_mono_left λy _=>h y
  rcases List.mem_cons.1 hx with rfl | hx
  ·rw [List.countP_cons,List.countP_cons,h1,h2];simp;omega
  ·have:=Ak h h1 h2 hx
   rw [List.countP_cons,List.countP_cons]
   have hz:=h z
   cases hp:p z with
   | false=>cases q z <;> simp <;> omega
   | true=>rw [hz hp];simp;omega
theorem wX {l:List LK} {k:LK} {a:TX} (hk:k∈l) (h:(oth k a).2=true):(oth k a).1∈ends l:=by
 refine List.mem_flatMap.2 ⟨k,hk,?_⟩
 unfold oth at h ⊢
 cases h1:a==k.a with
 | true=>simp
 | false=>
  rw [h1] at h
  cases h2:a==k.b with
  | true=>simp
  | false=>rw [h2] at h;cases h
theorem A3 {k:LK} {a:TX} (h:(oth k a).2=true) (hn:(oth k a).1≠a):oth k (oth k a).1=(a,true):=by
 unfold oth at h hn ⊢
 cases h1:a==k.a with
 | true=>
  simp only [h1,cond_true] at hn ⊢
  have h1:a=k.a:=by simpa using h1
  subst h1
  rw [show (k.b==k.a)=false from by simpa using hn];simp
 | false=>
  cases h2:a==k.b with
  | true=>
   simp only [h1,h2,cond_true,cond_false] at hn ⊢
   have h2:a=k.b:=by simpa using h2
   subst h2
   simp
  | false=>rw [h1,h2] at h;cases h
theorem zY {l:List LK} {d:List AV->Bool} {x:TX} (hx:x∈ends l) (h:kn d x=false):mis l (upD d x) < mis l d:=
 Ak (λy hy=>by
  cases hk:kn d y with
  | false=>rfl
  | true=>rw [jo hk] at hy;cases hy) (by rw [pk];simp) (by rw [h];rfl) hx
structure DiI (l:List LK) (b:TX) (d:List AV->Bool) (g:List AV->Int):Prop where
 kb:kn d b=true
 v:∀y,kn d y=true->0<=vl g y/\vl g y+mis l d<=2*l.length
 s:∀y,kn d y=true->y=b∨(0 < vl g y/\∃k∈l,(oth k y).2=true/\kn d (oth k y).1=true/\vl g (oth k y).1=vl g y - 1)
def Dn (l:List LK) (d:List AV->Bool) (y:TX):Prop:=∀k∈l,(oth k y).2=true->kn d (oth k y).1=true
theorem Dn.up {l:List LK} {d:List AV->Bool} {x y:TX} (h:Dn l d y):Dn l (upD d x) y:=λk hk h2=>jo (h k hk h2)
theorem DiI.up {l:List LK} {b id:TX} {d:List AV->Bool} {g:List AV->Int} {k:LK} (h:DiI l b d g) (hi:kn d id=true) (hk:k∈l) (h2:(oth k id).2=true) (h3:kn d (oth k id).1=false):DiI l b (upD d (oth k id).1) (upG g (oth k id).1 (vl g id+1)):=by
 have hm:=zY (wX hk h2) h3
 have hne:∀ {y:TX},kn d y=true->(y==(oth k id).1)=false:=fun {y} hy=>by
  cases e:y==(oth k id).1 with
  | false=>rfl
  | true=>rw [show y=(oth k id).1 from by simpa using e] at hy;rw [hy] at h3;cases h3
 have hid:(oth k id).1≠id:=λe=>by rw [e,hi] at h3;cases h3
 have hv:=h.v id hi
 refine ⟨jo h.kb,λy hy=>?_,λy hy=>?_⟩
 ·rw [uP]
  rw [pk] at hy
  cases e:y==(oth k id).1 with
  | true=>simp only [cond_true];omega
  | false=>
   rw [e,cond_false] at hy
   have:=h.v y hy
   simp only [cond_false];omega
 ·rw [pk] at hy
  cases e:y==(oth k id).1 with
  | true=>
   have e:y=(oth k id).1:=by simpa using e
   refine .inr ?_
   rw [e,uP]
   simp only [beq_self_eq_true,cond_true]
   refine ⟨by omega,k,hk,?_⟩
   rw [A3 h2 hid,uP,hne hi]
   exact ⟨rfl,jo hi,by simp only [cond_false];omega⟩
  | false=>
   rw [e,cond_false] at hy
   rcases h.s y hy with e1 | ⟨h5,q,hq,h6,h7,h8⟩
   ·exact .inl e1
   ·refine .inr ?_
    rw [uP,e]
    refine ⟨h5,q,hq,h6,jo h7,?_⟩
    rw [uP,hne h7];exact h8
structure Mid (l:List LK) (b:TX) (x:DX):Prop where
 v:x.v<=x.t.length
 i:DiI l b x.d x.g
 f:∀y,kn x.d y=true->Dn l x.d y∨y∈x.t.drop x.v∨y∈x.nx
 tk:∀y∈x.t,kn x.d y=true
 nk:∀y∈x.nx,kn x.d y=true
 tn:x.t.length<=2*l.length+1
 nn:x.nx.length+mis l x.d<=2*l.length
structure D3I (l:List LK) (b:TX) (x:DX×TX×Nat):Prop where
 j:x.2.2<=l.length
 v:x.1.v < x.1.t.length
 id:x.2.1=x.1.t.getD x.1.v []
 i:DiI l b x.1.d x.1.g
 h:∀i,i < x.2.2->(oth (l.getD i default) x.2.1).2=true->kn x.1.d (oth (l.getD i default) x.2.1).1=true
 f:∀y,kn x.1.d y=true->y≠x.2.1->Dn l x.1.d y∨y∈x.1.t.drop (x.1.v+1)∨y∈x.1.nx
 tk:∀y∈x.1.t,kn x.1.d y=true
 nk:∀y∈x.1.nx,kn x.1.d y=true
 tn:x.1.t.length<=2*l.length+1
 nn:x.1.nx.length+mis l x.1.d<=2*l.length
abbrev Cn (l:List LK) (x o:DX):Prop:=o.nx.length+mis l o.d<=x.nx.length+mis l x.d
structure D3P (l:List LK) (b:TX) (x:DX×TX×Nat) (o:DX):Prop where
 t:o.t=x.1.t
 v:o.v=x.1.v
 m:Mid l b {o with v:=o.v+1}
 n:Cn l x.1 o
structure D2P (l:List LK) (b:TX) (x o:DX):Prop where
 i:DiI l b o.d o.g
 f:∀y,kn o.d y=true->Dn l o.d y∨y∈o.nx
 nk:∀y∈o.nx,kn o.d y=true
 n:Cn l x o
structure D1I (l:List LK) (b:TX) (x:DX):Prop where
 i:DiI l b x.d x.g
 f:∀y,kn x.d y=true->Dn l x.d y∨y∈x.t
 tk:∀y∈x.t,kn x.d y=true
 tn:x.t.length<=2*l.length+1
structure DsP (l:List LK) (b:TX) (d:List AV->Bool) (g:List AV->Int):Prop where
 i:DiI l b d g
 f:∀y,kn d y=true->Dn l d y
section
variable {l:List LK} {b:TX} {x:DX×TX×Nat} {o:DX}
theorem lb {α:Type} [Inhabited α] {L:List α} {i:Nat} {z:α} (h:i < L.length):L.getD i z∈L:=by
 rw [List.getD_eq_getElem?_getD,List.getElem?_eq_getElem h];exact List.getElem_mem h
theorem D3I.ki (h:D3I l b x):kn x.1.d x.2.1=true:=by rw [h.id];exact h.tk _ (lb h.v)
theorem D3I.skip (h:D3I l b x) (hj:x.2.2 < l.length) (hx:(oth (l.getD x.2.2 default) x.2.1).2=true->kn x.1.d (oth (l.getD x.2.2 default) x.2.1).1=true):D3I l b (x.1,x.2.1,x.2.2+1):=
 ⟨hj,h.v,h.id,h.i,λi hi h2=>by
  rcases Nat.lt_or_ge i x.2.2 with h3 | h3
  ·exact h.h i h3 h2
  ·obtain rfl:i=x.2.2:=by have:i < x.2.2+1:=hi;omega
   exact hx h2,h.f,h.tk,h.nk,h.tn,h.nn⟩
abbrev nxt (l:List LK) (x:DX×TX×Nat):DX:={x.1 with d:=upD x.1.d (oth (l.getD x.2.2 default) x.2.1).1,g:=upG x.1.g (oth (l.getD x.2.2 default) x.2.1).1 (vl x.1.g x.2.1+1),nx:=x.1.nx++[(oth (l.getD x.2.2 default) x.2.1).1]}
theorem D3I.less (h:D3I l b x) (hj:x.2.2 < l.length) (h2:(oth (l.getD x.2.2 default) x.2.1).2=true) (h3:kn x.1.d (oth (l.getD x.2.2 default) x.2.1).1=false):Cn l x.1 (nxt l x):=by
 have:=zY (wX (lb hj) h2) h3
 show (x.1.nx++[_]).length+_<=_
 rw [List.length_append,List.length_singleton];show _+1+mis l (upD _ _)<=_;omega
theorem D3I.step (h:D3I l b x) (hj:x.2.2 < l.length) (h2:(oth (l.getD x.2.2 default) x.2.1).2=true) (h3:kn x.1.d (oth (l.getD x.2.2 default) x.2.1).1=false):D3I l b (nxt l x,x.2.1,x.2.2+1):=by
 have hL:=h.less hj h2 h3
 refine ⟨hj,h.v,h.id,h.i.up h.ki (lb hj) h2 h3,λi hi g2=>?_,λy hy hne=>?_,λy hy=>jo (h.tk y hy),λy hy=>?_,h.tn,Nat.le_trans hL h.nn⟩
 ·rcases Nat.lt_or_ge i x.2.2 with g3 | g3
  ·exact jo (h.h i g3 g2)
  ·obtain rfl:i=x.2.2:=by have:i < x.2.2+1:=hi;omega
   show kn (upD _ _) _=true
   rw [pk];simp
 ·have hy:kn (upD _ _) y=true:=hy
  rw [pk] at hy
  cases e:y==(oth (l.getD x.2.2 default) x.2.1).1 with
  | true=>exact .inr (.inr (List.mem_append_right _ (List.mem_singleton.2 (by simpa using e))))
  | false=>
   rw [e,cond_false] at hy
   rcases h.f y hy hne with g | g | g
   ·exact .inl g.up
   ·exact .inr (.inl g)
   ·exact .inr (.inr (List.mem_append_left _ g))
 ·rcases List.mem_append.1 hy with hy | hy
  ·exact jo (h.nk y hy)
  ·rw [List.mem_singleton.1 hy]
   show kn (upD _ _) _=true
   rw [pk];simp
theorem D3I.fin (h:D3I l b x) (hj:¬ x.2.2 < l.length):D3P l b x x.1:=by
 refine ⟨rfl,rfl,⟨h.v,h.i,λy hy=>?_,h.tk,h.nk,h.tn,h.nn⟩,Nat.le_refl _⟩
 by_cases e:y=x.2.1
 ·refine .inl λk hk h2=>?_
  obtain ⟨i,hi,rfl⟩:=List.getElem_of_mem hk
  have:=h.h i (by omega)
  rw [List.getD_eq_getElem?_getD,List.getElem?_eq_getElem hi,<-e] at this
  exact this h2
 ·exact h.f y hy e
theorem D3P.nx {id:TX} {j:Nat} {y:DX} (hp:D3P l b (y,id,j) o) (hL:Cn l x.1 y) (ht:y.t=x.1.t) (hv:y.v=x.1.v):D3P l b x o:=
 ⟨hp.t.trans ht,hp.v.trans hv,hp.m,Nat.le_trans hp.n hL⟩
theorem Mid.into {x:DX} (h:Mid l b x) (hv:x.v < x.t.length):D3I l b (x,x.t.getD x.v [],0):=by
 refine ⟨Nat.zero_le _,hv,rfl,h.i,λi hi=>absurd hi (Nat.not_lt_zero _),λy hy hne=>?_,h.tk,h.nk,h.tn,h.nn⟩
 rcases h.f y hy with g | g | g
 ·exact .inl g
 ·rw [List.drop_eq_getElem_cons hv] at g
  rcases List.mem_cons.1 g with g | g
  ·exact absurd (by rw [g];show _=x.t.getD x.v [];rw [List.getD_eq_getElem?_getD,List.getElem?_eq_getElem hv];rfl) hne
  ·exact .inr (.inl g)
 ·exact .inr (.inr g)
theorem Mid.fin {x:DX} (h:Mid l b x) (hv:¬ x.v < x.t.length):D2P l b x x:=by
 refine ⟨h.i,λy hy=>?_,h.nk,Nat.le_refl _⟩
 rcases h.f y hy with g | g | g
 ·exact .inl g
 ·rw [List.drop_eq_nil_of_le (by omega)] at g;cases g
 ·exact .inr g
theorem D1I.into {x:DX} (h:D1I l b x):Mid l b {x with nx:=[],v:=0}:=
 ⟨Nat.zero_le _,h.i,λy hy=>by
  rcases h.f y hy with g | g
  ·exact .inl g
  ·exact .inr (.inl g),h.tk,λ_ h=>absurd h List.not_mem_nil,h.tn,by show 0+mis l _<=_;rw [Nat.zero_add];exact w6 _ _⟩
def d1M (l:List LK) (x:DX):Nat:=2*mis l x.d+cond (Nat.beq x.t.length 0) 0 1
theorem D2P.next {x o:DX} (h:D2P l b {x with nx:=[],v:=0} o) (hx:0 < x.t.length):D1I l b {o with t:=o.nx}/\d1M l {o with t:=o.nx} < d1M l x:=by
 have hn:o.nx.length+mis l o.d<=0+mis l x.d:=h.n
 refine ⟨⟨h.i,h.f,h.nk,?_⟩,?_⟩
 ·have:=w6 l x.d
  show o.nx.length<=_;omega
 ·unfold d1M
  rw [show Nat.beq x.t.length 0=false from by cases e:x.t.length with | zero=>omega | succ n=>rfl]
  show 2*mis l o.d+cond (Nat.beq o.nx.length 0) 0 1 < _
  cases e:o.nx.length with
  | zero=>rw [show Nat.beq 0 0=true from rfl];simp only [cond_true,cond_false];omega
  | succ n=>rw [show Nat.beq (n+1) 0=false from rfl];simp only [cond_false];omega
theorem D1I.fin {x:DX} (h:D1I l b x) (hx:¬ 0 < x.t.length):DsP l b x.d x.g:=by
 refine ⟨h.i,λy hy=>?_⟩
 rcases h.f y hy with g | g
 ·exact g
 ·rw [List.length_eq_zero_iff.1 (by omega:x.t.length=0)] at g;cases g
theorem L5 (l:List LK) (b:TX):D1I l b ⟨upD (λ_=>false) b,upG (λ_=>0) b 0,[],[b],0⟩:=by
 have hk:∀ {y},kn (upD (λ_=>false) b) y=true->y=b:=fun {y} hy=>by
  rw [pk] at hy
  cases e:y==b with
  | true=>simpa using e
  | false=>rw [e] at hy;cases hy
 have hb:kn (upD (λ_=>false) b) b=true:=by rw [pk];simp
 refine ⟨⟨hb,λy hy=>?_,λy hy=>.inl (hk hy)⟩,λy hy=>.inr (List.mem_singleton.2 (hk hy)),λy hy=>by rw [List.mem_singleton.1 hy];exact hb,by show 1<=_;omega⟩
 rw [hk hy,uP]
 have:=w6 l (upD (λ_=>false) b)
 simp only [beq_self_eq_true,cond_true];omega
end
noncomputable instance:Inhabited (TX×Bool):=⟨([],false)⟩
def rOt (A:List AV) (_:List AO) (x:TX×Bool):Prop:=∀ (k:LK) a,A=[.agg k.c,.str a]->x=oth k a
theorem rOt.mk {k:LK} {a:TX} {os:List AO} {x:TX×Bool} (h:x=oth k a):rOt [.agg k.c,.str a] os x:=λk' a' e=>by
 simp only [List.cons.injEq,AV.agg.injEq,AV.str.injEq,and_true] at e
 rw [<-LK.jb e.1,<-e.2];exact h
theorem Dr (k:LK) (a:TX):bz wd j6 φOt rOt [.agg k.c,.str a] []:=
 bn (V:=V0) (T:=[]) (d:=1) 0 ao ak (.b (a==LK.a k) (λh1=>
   .r (k.b,true) (rOt.mk (by unfold oth;rw [h1];rfl))) λh1=>
  .b (a==LK.b k) (λh2=>
   .r (k.a,true) (rOt.mk (by unfold oth;rw [h1,h2];rfl))) λh2=>
  .r ([],false) (rOt.mk (by unfold oth;rw [h1,h2];rfl))) (by kernel_rfl)
noncomputable abbrev eOt:Ent:=dK wd j6 φOt rOt
section
variable {k:LK} {a:TX} {r:TX×Bool} {os:List AO} {d:List AV->Bool}
theorem Jg (h:(!r.2)=true) (q:rOt [.agg k.c,.str a] os r):(oth k a).2=false:=by rw [<-q k a rfl];revert h;cases r.2 <;> simp
theorem Ia (h:(!r.2)=false) (q:rOt [.agg k.c,.str a] os r):(oth k a).2=true:=by rw [<-q k a rfl];revert h;cases r.2 <;> simp
theorem Jh (h:d [.str r.1]=true) (q:rOt [.agg k.c,.str a] os r):kn d (oth k a).1=true:=by rw [<-q k a rfl];exact h
theorem Ic (h:d [.str r.1]=false) (q:rOt [.agg k.c,.str a] os r):kn d (oth k a).1=false:=by rw [<-q k a rfl];exact h
end
theorem AB (t:TXL) (x:TX):ar t.length 1 (txR t) (ag [.str []] [(0,.str x)])=txR (t++[x]):=gk (λs=>[.str s]) t x _ rfl
theorem Ek:tz diW:=fP (tJ _) (fP (tJ _) ak)
section
variable {l:List LK} {b:TX} {x:DX×TX×Nat}
theorem L6 (hl:l.length<=1000000) (h:D3I l b x):IntKind.wrap .i64 (vl x.1.g x.2.1+1)=vl x.1.g x.2.1+1:=by
 have:=h.i.v _ h.ki
 exact wrap_i64 (by omega) (by omega)
theorem L7 (hl:l.length<=1000000) (h:D3I l b x):(roomy 16 (x.1.nx.length+1)&&Nat.beq x.1.nx.length x.1.nx.length)=true:=bd (by have:=h.nn;omega)
theorem El (hl:l.length<=1000000) (h:x.2.2 < l.length):({env:=[(0,lkA l),(5,.mref 16),(7,.sl (.key 61) 1 (x.1.nx.length) (txR x.1.nx)),(9,.str x.2.1),(24,.sl .no 1 x.1.t.length (txR x.1.t)),(25,.int .i64 (x.1.t.length:Int)),(26,.int .i64 ((x.1.v:Int))),(30,lkA l),(31,.int .i64 (l.length:Int)),(32,.int .i64 (IntKind.wrap .i64 ((x.2.2:Int)+1)))],objs:=[(16,diO x.1.d x.1.g),(61,.own 1 (x.1.nx.length))]}:St)=(λx:DX×TX×Nat=>({env:=[(0,lkA l),(5,.mref 16),(7,.sl (.key 61) 1 (x.1.nx.length) (txR x.1.nx)),(9,.str x.2.1),(24,.sl .no 1 x.1.t.length (txR x.1.t)),(25,.int .i64 (x.1.t.length:Int)),(26,.int .i64 ((x.1.v:Int))),(30,lkA l),(31,.int .i64 (l.length:Int)),(32,.int .i64 ((x.2.2:Int)))],objs:=[(16,diO x.1.d x.1.g),(61,.own 1 (x.1.nx.length))]}:St)) (x.1,x.2.1,x.2.2+1):=by
 rw [bC (by omega)]
theorem Ib (hl:l.length<=1000000) (hv:D3I l b x) (h:x.2.2 < l.length) {r:TX×Bool} (q:r=oth (l.getD x.2.2 default) x.2.1):({env:=[(0,lkA l),(5,.mref 16),(7,.sl (.key 61) 1 (x.1.nx.length+1) (ar x.1.nx.length 1 (txR x.1.nx) (ag [.str []] [(0,.str r.1)]))),(9,.str x.2.1),(24,.sl .no 1 x.1.t.length (txR x.1.t)),(25,.int .i64 (x.1.t.length:Int)),(26,.int .i64 ((x.1.v:Int))),(30,lkA l),(31,.int .i64 (l.length:Int)),(32,.int .i64 (IntKind.wrap .i64 ((x.2.2:Int)+1)))],objs:=[(16,AO.mp false [KD.str] (λl=>bif bO l [.str r.1] then true else x.1.d l) λl=>bif bO l [.str r.1] then .int .i64 (IntKind.wrap .i64 (x.1.g [.str x.2.1]+1)) else .int .i64 (x.1.g l)),(61,.own 1 (x.1.nx.length+1))]}:St)=(λx:DX×TX×Nat=>({env:=[(0,lkA l),(5,.mref 16),(7,.sl (.key 61) 1 (x.1.nx.length) (txR x.1.nx)),(9,.str x.2.1),(24,.sl .no 1 x.1.t.length (txR x.1.t)),(25,.int .i64 (x.1.t.length:Int)),(26,.int .i64 ((x.1.v:Int))),(30,lkA l),(31,.int .i64 (l.length:Int)),(32,.int .i64 ((x.2.2:Int)))],objs:=[(16,diO x.1.d x.1.g),(61,.own 1 (x.1.nx.length))]}:St)) (nxt l x,x.2.1,x.2.2+1):=by
 subst q
 rw [bC (by omega),show (x.1.g [.str x.2.1])=vl x.1.g x.2.1 from rfl,L6 hl hv,Aj,AB]
 show _=({env:=[(0,lkA l),(5,.mref 16),(7,.sl (.key 61) 1 ((x.1.nx++[(oth (l.getD x.2.2 default) x.2.1).1]).length) (txR (x.1.nx++[(oth (l.getD x.2.2 default) x.2.1).1]))),(9,.str x.2.1),(24,.sl .no 1 x.1.t.length (txR x.1.t)),(25,.int .i64 (x.1.t.length:Int)),(26,.int .i64 ((x.1.v:Int))),(30,lkA l),(31,.int .i64 (l.length:Int)),(32,.int .i64 (((x.2.2+1:Nat):Int)))],objs:=[(16,diO (upD x.1.d (oth (l.getD x.2.2 default) x.2.1).1) (upG x.1.g (oth (l.getD x.2.2 default) x.2.1).1 (vl x.1.g x.2.1+1))),(61,.own 1 ((x.1.nx++[(oth (l.getD x.2.2 default) x.2.1).1]).length))]}:St)
 simp only [List.length_append,List.length_singleton]
theorem L8 {o x:DX} (hl:l.length<=1000000) (hx:x.t.length<=2*l.length+1) (h:x.v < x.t.length) (ht:o.t=x.t) (hv:o.v=x.v):({env:=[(0,lkA l),(5,.mref 16),(7,.sl (.key 61) 1 (o.nx.length) (txR o.nx)),(24,.sl .no 1 o.t.length (txR o.t)),(25,.int .i64 (o.t.length:Int)),(26,.int .i64 (IntKind.wrap .i64 ((o.v:Int)+1)))],objs:=[(16,diO o.d o.g),(61,.own 1 (o.nx.length))]}:St)=(λx:DX=>({env:=[(0,lkA l),(5,.mref 16),(7,.sl (.key 61) 1 (x.nx.length) (txR x.nx)),(24,.sl .no 1 x.t.length (txR x.t)),(25,.int .i64 (x.t.length:Int)),(26,.int .i64 ((x.v:Int)))],objs:=[(16,diO x.d x.g),(61,.own 1 (x.nx.length))]}:St)) {o with v:=o.v+1}:=by
 rw [bC (by omega)]
theorem Ma {o x:DX} (h:x.v < x.t.length) (ht:o.t=x.t) (hv:o.v=x.v):o.t.length - (o.v+1) < x.t.length - x.v:=by rw [ht,hv];omega
theorem Ji {n:Nat} (h:decide ((n:Int) > 0)=true):0 < n:=by have:=of_decide_eq_true h;omega
theorem Mb {n:Nat} (h:decide ((n:Int) > 0)=false):¬ 0 < n:=by have:=of_decide_eq_false h;omega
theorem L9 {o x y:DX} (q:D3P l b (x,x.t.getD x.v [],0) o) (h:D2P l b {o with v:=o.v+1} y):D2P l b x y:=
 ⟨h.i,h.f,h.nk,Nat.le_trans h.n q.n⟩
theorem FT (a:TX):ag [.str []] [(0,.str a)]=txR [a]:=by
 funext j
 match j with
 | 0=>rfl
 | j+1=>rfl
end
theorem BW (l:List LK) (b:TX) (hl:l.length<=1000000):∃ (u:St->Bool) (w:St->DX),(∀x:DX×TX×Nat,D3I l b x->aW u w ((λx:DX×TX×Nat=>({env:=[(0,lkA l),(5,.mref 16),(7,.sl (.key 61) 1 (x.1.nx.length) (txR x.1.nx)),(9,.str x.2.1),(24,.sl .no 1 x.1.t.length (txR x.1.t)),(25,.int .i64 (x.1.t.length:Int)),(26,.int .i64 ((x.1.v:Int))),(30,lkA l),(31,.int .i64 (l.length:Int)),(32,.int .i64 ((x.2.2:Int)))],objs:=[(16,diO x.1.d x.1.g),(61,.own 1 (x.1.nx.length))]}:St)) x) (D3P l b x))/\∀L:List (List Nat×Orc),bq (V0.run [eOt] 2 [] L diW ba) ba [1,1,0,1,0,0,1,0,1,0,1,0,0,1,1,0,0,1,1,0] (mkO u w (λ(x_:DX) k_=>k_ (.exit 4) {env:=[(0,lkA l),(5,.mref 16),(7,.sl (.key 61) 1 (x_.nx.length) (txR x_.nx)),(24,.sl .no 1 x_.t.length (txR x_.t)),(25,.int .i64 (x_.t.length:Int)),(26,.int .i64 ((x_.v:Int)))],objs:=[(16,diO x_.d x_.g),(61,.own 1 (x_.nx.length))]})):=
 gx (V:=V0) (T:=[eOt]) (d:=2) (W:=diW) (Lf:=λL=>L) (λx:DX×TX×Nat=>({env:=[(0,lkA l),(5,.mref 16),(7,.sl (.key 61) 1 (x.1.nx.length) (txR x.1.nx)),(9,.str x.2.1),(24,.sl .no 1 x.1.t.length (txR x.1.t)),(25,.int .i64 (x.1.t.length:Int)),(26,.int .i64 ((x.1.v:Int))),(30,lkA l),(31,.int .i64 (l.length:Int)),(32,.int .i64 ((x.2.2:Int)))],objs:=[(16,diO x.1.d x.1.g),(61,.own 1 (x.1.nx.length))]}:St)) (D3I l b) (λx=>l.length - x.2.2) (λ(x_:DX) k_=>k_ (.exit 4) {env:=[(0,lkA l),(5,.mref 16),(7,.sl (.key 61) 1 (x_.nx.length) (txR x_.nx)),(24,.sl .no 1 x_.t.length (txR x_.t)),(25,.int .i64 (x_.t.length:Int)),(26,.int .i64 ((x_.v:Int)))],objs:=[(16,diO x_.d x_.g),(61,.own 1 (x_.nx.length))]}) (D3P l b) (by kernel_rfl) (λp q o h hp=>by
  have e1:some (AV.int .i64 (p.1.v:Int))=some (AV.int .i64 (q.1.v:Int)):=congrArg (λs:St=>s.get 26) h
  have e2:some (AV.sl .no 1 p.1.t.length (txR p.1.t))=some (AV.sl .no 1 q.1.t.length (txR q.1.t)):=congrArg (λs:St=>s.get 24) h
  have e3:some (AV.sl (.key 61) 1 p.1.nx.length (txR p.1.nx))=some (AV.sl (.key 61) 1 q.1.nx.length (txR q.1.nx)):=congrArg (λs:St=>s.get 7) h
  have e4:some (diO p.1.d p.1.g)=some (diO q.1.d q.1.g):=congrArg (λs:St=>s.obj 16) h
  injection e1 with e1;injection e1 with _ e1
  injection e2 with e2;injection e2 with _ _ e2 e5
  injection e3 with e3;injection e3 with _ _ e3 e6
  injection e4 with e4
  exact ⟨hp.t.trans (oS e2 e5),hp.v.trans (by omega),hp.m,by have:=hp.n;unfold Cn at this ⊢;rw [(pK e4).1,oS e3 e6] at this;exact this⟩) (λx hv=>.b (decide ((↑x.2.2:Int) < (↑(List.length l):Int))) (λh1=>
   .n (c:=within (↑x.2.2:Int) (List.length l)) (aO (aN h1)) (
   .call (Dr (l.getD x.2.2 default) x.2.1) λr2 q2=>
   .b (!r2.2) (λh3=>
    .nx {env:=[(0,lkA l),(5,.mref 16),(7,.sl (.key 61) 1 (List.length (DX.nx x.1)) (txR (DX.nx x.1))),(9,.str x.2.1),(24,.sl .no 1 (List.length (DX.t x.1)) (txR (DX.t x.1))),(25,.int .i64 (↑(List.length (DX.t x.1)):Int)),(26,.int .i64 (↑(DX.v x.1):Int)),(30,lkA l),(31,.int .i64 (↑(List.length l):Int)),(32,.int .i64 (IntKind.wrap .i64 ((↑x.2.2:Int)+1)))],objs:=[(16,AO.mp false [KD.str] (DX.d x.1) λl=>.int .i64 (DX.g x.1 l)),(61,.own 1 (List.length (DX.nx x.1)))]} (x.1,x.2.1,x.2.2+1) (hv.skip (aN h1) λh=>(by rw [Jg h3 q2] at h;cases h)) (iz (aN h1)) (λ_ h=>h.nx (Nat.le_refl _) rfl rfl) (El hl (aN h1))) λh3=>
   .b (DX.d x.1 [.str r2.1]) (λh4=>
    .nx {env:=[(0,lkA l),(5,.mref 16),(7,.sl (.key 61) 1 (List.length (DX.nx x.1)) (txR (DX.nx x.1))),(9,.str x.2.1),(24,.sl .no 1 (List.length (DX.t x.1)) (txR (DX.t x.1))),(25,.int .i64 (↑(List.length (DX.t x.1)):Int)),(26,.int .i64 (↑(DX.v x.1):Int)),(30,lkA l),(31,.int .i64 (↑(List.length l):Int)),(32,.int .i64 (IntKind.wrap .i64 ((↑x.2.2:Int)+1)))],objs:=[(16,AO.mp false [KD.str] (DX.d x.1) λl=>.int .i64 (DX.g x.1 l)),(61,.own 1 (List.length (DX.nx x.1)))]} (x.1,x.2.1,x.2.2+1) (hv.skip (aN h1) λ_=>Jh h4 q2) (iz (aN h1)) (λ_ h=>h.nx (Nat.le_refl _) rfl rfl) (El hl (aN h1))) λh4=>
   .yea (c:=DX.d x.1 [.str x.2.1]) (B:=λ_ k kn=>cond (roomy 16 (List.length (DX.nx x.1)+1)&&Nat.beq (List.length (DX.nx x.1)) (List.length (DX.nx x.1))) (kn ({env:=[(0,lkA l),(5,.mref 16),(7,.sl (.key 61) 1 (List.length (DX.nx x.1)+1) (ar (List.length (DX.nx x.1)) 1 (txR (DX.nx x.1)) (ag [.str []] [(0,.str r2.1)]))),(9,.str x.2.1),(24,.sl .no 1 (List.length (DX.t x.1)) (txR (DX.t x.1))),(25,.int .i64 (↑(List.length (DX.t x.1)):Int)),(26,.int .i64 (↑(DX.v x.1):Int)),(30,lkA l),(31,.int .i64 (↑(List.length l):Int)),(32,.int .i64 (IntKind.wrap .i64 ((↑x.2.2:Int)+1)))],objs:=[(16,AO.mp false [KD.str] (λl=>bif bO l [.str r2.1] then true else DX.d x.1 l) λl=>bif bO l [.str r2.1] then .int .i64 (IntKind.wrap .i64 (0+1)) else .int .i64 (DX.g x.1 l)),(61,.own 1 (List.length (DX.nx x.1)+1))]})) (none)) (hv.ki) (
   .n (c:=roomy 16 (List.length (DX.nx x.1)+1)&&Nat.beq (List.length (DX.nx x.1)) (List.length (DX.nx x.1))) (L7 hl hv) (
   .nx {env:=[(0,lkA l),(5,.mref 16),(7,.sl (.key 61) 1 (List.length (DX.nx x.1)+1) (ar (List.length (DX.nx x.1)) 1 (txR (DX.nx x.1)) (ag [.str []] [(0,.str r2.1)]))),(9,.str x.2.1),(24,.sl .no 1 (List.length (DX.t x.1)) (txR (DX.t x.1))),(25,.int .i64 (↑(List.length (DX.t x.1)):Int)),(26,.int .i64 (↑(DX.v x.1):Int)),(30,lkA l),(31,.int .i64 (↑(List.length l):Int)),(32,.int .i64 (IntKind.wrap .i64 ((↑x.2.2:Int)+1)))],objs:=[(16,AO.mp false [KD.str] (λl=>bif bO l [.str r2.1] then true else DX.d x.1 l) λl=>bif bO l [.str r2.1] then .int .i64 (IntKind.wrap .i64 (DX.g x.1 [.str x.2.1]+1)) else .int .i64 (DX.g x.1 l)),(61,.own 1 (List.length (DX.nx x.1)+1))]} (nxt l x,x.2.1,x.2.2+1) (hv.step (aN h1) (Ia h3 q2) (Ic h4 q2)) (iz (aN h1)) (λ_ h=>h.nx (hv.less (aN h1) (Ia h3 q2) (Ic h4 q2)) rfl rfl) (Ib hl hv (aN h1) (q2 _ _ rfl)))))) λh1=>
  .fi x.1 (hv.fin (Nat.not_lt.2 (gu h1)))) (λx L k kn=>by kernel_rfl)
theorem BX (l:List LK) (b:TX) (hl:l.length<=1000000) {u3:St->Bool} {w3:St->DX} (hu:∀x:DX×TX×Nat,D3I l b x->aW u3 w3 ((λx:DX×TX×Nat=>({env:=[(0,lkA l),(5,.mref 16),(7,.sl (.key 61) 1 (x.1.nx.length) (txR x.1.nx)),(9,.str x.2.1),(24,.sl .no 1 x.1.t.length (txR x.1.t)),(25,.int .i64 (x.1.t.length:Int)),(26,.int .i64 ((x.1.v:Int))),(30,lkA l),(31,.int .i64 (l.length:Int)),(32,.int .i64 ((x.2.2:Int)))],objs:=[(16,diO x.1.d x.1.g),(61,.own 1 (x.1.nx.length))]}:St)) x) (D3P l b x)):∃ (u:St->Bool) (w:St->DX),(∀x:DX,Mid l b x->aW u w ((λx:DX=>({env:=[(0,lkA l),(5,.mref 16),(7,.sl (.key 61) 1 (x.nx.length) (txR x.nx)),(24,.sl .no 1 x.t.length (txR x.t)),(25,.int .i64 (x.t.length:Int)),(26,.int .i64 ((x.v:Int)))],objs:=[(16,diO x.d x.g),(61,.own 1 (x.nx.length))]}:St)) x) (D2P l b x))/\∀i:Orc×Orc,bq (V0.run [eOt] 2 [] [([1,1,0,1,0],i.1),([1,1,0,1,0,0,1,0,1,0,1,0],i.2),([1,1,0,1,0,0,1,0,1,0,1,0,0,1,1,0,0,1,1,0],mkO u3 w3 (λ(x_:DX) k_=>k_ (.exit 4) {env:=[(0,lkA l),(5,.mref 16),(7,.sl (.key 61) 1 (x_.nx.length) (txR x_.nx)),(24,.sl .no 1 x_.t.length (txR x_.t)),(25,.int .i64 (x_.t.length:Int)),(26,.int .i64 ((x_.v:Int)))],objs:=[(16,diO x_.d x_.g),(61,.own 1 (x_.nx.length))]}))] diW ba) ba [1,1,0,1,0,0,1,0,1,0,1,0] (mkO u w (λ(x_:DX) k_=>k_ (.exit 2) {env:=[(0,lkA l),(5,.mref 16),(7,.sl (.key 61) 1 (x_.nx.length) (txR x_.nx))],objs:=[(16,diO x_.d x_.g),(61,.own 1 (x_.nx.length))]})):=
 gx (V:=V0) (T:=[eOt]) (d:=2) (W:=diW) (Lf:=λi:Orc×Orc=>[([1,1,0,1,0],i.1),([1,1,0,1,0,0,1,0,1,0,1,0],i.2),([1,1,0,1,0,0,1,0,1,0,1,0,0,1,1,0,0,1,1,0],mkO u3 w3 (λ(x_:DX) k_=>k_ (.exit 4) {env:=[(0,lkA l),(5,.mref 16),(7,.sl (.key 61) 1 (x_.nx.length) (txR x_.nx)),(24,.sl .no 1 x_.t.length (txR x_.t)),(25,.int .i64 (x_.t.length:Int)),(26,.int .i64 ((x_.v:Int)))],objs:=[(16,diO x_.d x_.g),(61,.own 1 (x_.nx.length))]}))]) (λx:DX=>({env:=[(0,lkA l),(5,.mref 16),(7,.sl (.key 61) 1 (x.nx.length) (txR x.nx)),(24,.sl .no 1 x.t.length (txR x.t)),(25,.int .i64 (x.t.length:Int)),(26,.int .i64 ((x.v:Int)))],objs:=[(16,diO x.d x.g),(61,.own 1 (x.nx.length))]}:St)) (Mid l b) (λx=>x.t.length - x.v) (λ(x_:DX) k_=>k_ (.exit 2) {env:=[(0,lkA l),(5,.mref 16),(7,.sl (.key 61) 1 (x_.nx.length) (txR x_.nx))],objs:=[(16,diO x_.d x_.g),(61,.own 1 (x_.nx.length))]}) (D2P l b) (by kernel_rfl) (λp q o h hp=>by
  have e3:some (AV.sl (.key 61) 1 p.nx.length (txR p.nx))=some (AV.sl (.key 61) 1 q.nx.length (txR q.nx)):=congrArg (λs:St=>s.get 7) h
  have e4:some (diO p.d p.g)=some (diO q.d q.g):=congrArg (λs:St=>s.obj 16) h
  injection e3 with e3;injection e3 with _ _ e3 e6
  injection e4 with e4
  exact ⟨hp.i,hp.f,hp.nk,by have:=hp.n;unfold Cn at this ⊢;rw [(pK e4).1,oS e3 e6] at this;exact this⟩) (λx hv=>.b (decide ((↑(DX.v x):Int) < (↑(List.length (DX.t x)):Int))) (λh1=>
   .n (c:=within (↑(DX.v x):Int) (List.length (DX.t x))) (aO (aN h1)) (
   .lp (hu (x,x.t.getD x.v [],0) (hv.into (aN h1))) λr2 q2=>
   .nx {env:=[(0,lkA l),(5,.mref 16),(7,.sl (.key 61) 1 (List.length (DX.nx r2)) (txR (DX.nx r2))),(24,.sl .no 1 (List.length (DX.t r2)) (txR (DX.t r2))),(25,.int .i64 (↑(List.length (DX.t r2)):Int)),(26,.int .i64 (IntKind.wrap .i64 ((↑(DX.v r2):Int)+1)))],objs:=[(16,AO.mp false [KD.str] (DX.d r2) λl=>.int .i64 (DX.g r2 l)),(61,.own 1 (List.length (DX.nx r2)))]} {r2 with v:=r2.v+1} q2.m (Ma (aN h1) q2.t q2.v) (λ_ h=>L9 q2 h) (L8 hl hv.tn (aN h1) q2.t q2.v))) λh1=>
  .fi x (hv.fin (Nat.not_lt.2 (gu h1)))) (λx L k kn=>by kernel_rfl)
theorem BZ (l:List LK) (b:TX) (hl:l.length<=1000000) (i3:Orc) {u2:St->Bool} {w2:St->DX} (hu:∀x:DX,Mid l b x->aW u2 w2 ((λx:DX=>({env:=[(0,lkA l),(5,.mref 16),(7,.sl (.key 61) 1 (x.nx.length) (txR x.nx)),(24,.sl .no 1 x.t.length (txR x.t)),(25,.int .i64 (x.t.length:Int)),(26,.int .i64 ((x.v:Int)))],objs:=[(16,diO x.d x.g),(61,.own 1 (x.nx.length))]}:St)) x) (D2P l b x)):∃ (u:St->Bool) (w:St->DX),(∀x:DX,D1I l b x->aW u w ((λx:DX=>({env:=[(0,lkA l),(5,.mref 16),(6,.sl .no 1 x.t.length (txR x.t))],objs:=[(16,diO x.d x.g)]}:St)) x) λo=>DsP l b o.d o.g)/\∀i:Orc,bq (V0.run [eOt] 2 [] [([1,1,0,1,0],i),([1,1,0,1,0,0,1,0,1,0,1,0],mkO u2 w2 (λ(x_:DX) k_=>k_ (.exit 2) {env:=[(0,lkA l),(5,.mref 16),(7,.sl (.key 61) 1 (x_.nx.length) (txR x_.nx))],objs:=[(16,diO x_.d x_.g),(61,.own 1 (x_.nx.length))]})),([1,1,0,1,0,0,1,0,1,0,1,0,0,1,1,0,0,1,1,0],i3)] diW ba) ba [1,1,0,1,0] (mkO u w (λ(x_:DX) k_=>k_ (.exit 0) {env:=[(5,.mref 16)],objs:=[(16,diO x_.d x_.g)]})):=
 bX (V:=V0) (T:=[eOt]) (d:=2) (W:=diW) (Lf:=λi:Orc=>[([1,1,0,1,0],i),([1,1,0,1,0,0,1,0,1,0,1,0],mkO u2 w2 (λ(x_:DX) k_=>k_ (.exit 2) {env:=[(0,lkA l),(5,.mref 16),(7,.sl (.key 61) 1 (x_.nx.length) (txR x_.nx))],objs:=[(16,diO x_.d x_.g),(61,.own 1 (x_.nx.length))]})),([1,1,0,1,0,0,1,0,1,0,1,0,0,1,1,0,0,1,1,0],i3)]) (λx:DX=>({env:=[(0,lkA l),(5,.mref 16),(6,.sl .no 1 x.t.length (txR x.t))],objs:=[(16,diO x.d x.g)]}:St)) (D1I l b) (d1M l) (λ(x_:DX) k_=>k_ (.exit 0) {env:=[(5,.mref 16)],objs:=[(16,diO x_.d x_.g)]}) (λo=>DsP l b o.d o.g) (by kernel_rfl) (λx hv=>.b (decide ((↑(List.length (DX.t x)):Int) > 0)) (λh1=>
   .lp (hu {x with nx:=[],v:=0} hv.into) λr2 q2=>
   .go {env:=[(0,lkA l),(5,.mref 16),(6,.sl .no 1 (List.length (DX.nx r2)) (txR (DX.nx r2)))],objs:=[(16,AO.mp false [KD.str] (DX.d r2) λl=>.int .i64 (DX.g r2 l))]} {r2 with t:=r2.nx} (q2.next (Ji h1)).1 (q2.next (Ji h1)).2 rfl) λh1=>
  .fi x (hv.fin (Mb h1))) (λx L k kn=>by kernel_rfl)
def rDs (A:List AV) (_:List AO) (x:(List AV->Bool)×(List AV->Int)):Prop:=∀l b,A=[lkA l,.str b]->DsP l b x.1 x.2
theorem L4 {l:List LK} {b:TX} {u:St->Bool} {w:St->DX} (hu:∀x:DX,D1I l b x->aW u w ((λx:DX=>({env:=[(0,lkA l),(5,.mref 16),(6,.sl .no 1 x.t.length (txR x.t))],objs:=[(16,diO x.d x.g)]}:St)) x) λo=>DsP l b o.d o.g):aW u w ({env:=[(0,lkA l),(5,.mref 16),(6,.sl .no 1 1 (ag [.str []] [(0,.str b)]))],objs:=[(16,AO.mp false [KD.str] (λl=>bif bO l [.str b] then true else false) λl=>bif bO l [.str b] then .int .i64 0 else .int .i64 0)]}) λo=>DsP l b o.d o.g:=by
 rw [FT,Aj]
 exact hu _ (L5 l b)
theorem H5 (l:List LK) (b:TX) (hl:l.length<=1000000):bz wd ba φDs rDs [lkA l,.str b] []:=by
 obtain ⟨u3,w3,hu3,hc3⟩:=BW l b hl
 obtain ⟨u2,w2,hu2,hc2⟩:=BX l b hl hu3
 obtain ⟨u1,w1,hu,hc1⟩:=BZ l b hl (mkO u3 w3 (λ(x_:DX) k_=>k_ (.exit 4) {env:=[(0,lkA l),(5,.mref 16),(7,.sl (.key 61) 1 (x_.nx.length) (txR x_.nx)),(24,.sl .no 1 x_.t.length (txR x_.t)),(25,.int .i64 (x_.t.length:Int)),(26,.int .i64 ((x_.v:Int)))],objs:=[(16,diO x_.d x_.g),(61,.own 1 (x_.nx.length))]})) hu2
 refine (bn (V:=V0) (T:=[eOt]) (d:=2) (R:=λ_ _ x=>DsP l b x.1 x.2) 1 (aE (hc1 _) (aE (hc2 (_,_)) (aE (hc3 _) ao))) Ek (.lp (L4 hu) λr1 q1=>
  .r (r1.d,r1.g) q1) (by kernel_rfl)).mono λx hx l' b' h=>?_
 simp only [List.cons.injEq,AV.str.injEq,and_true] at h
 rw [<-ee h.1,<-h.2];exact hx
noncomputable abbrev eDs:Ent:=dK wd ba φDs rDs
end Go.WF

namespace Go.WF
open Go Go.Ab Go.Proofs
noncomputable def VPt:Env:={Vb [54,55,56,57,58,59] [] [] with hint:=λf t=>cond (Nat.beq f bw) (uM [20] (V0.hint f t)) (V0.hint f t),trim:=λf p=>cond (Nat.beq f bw) ((V0.trim f p).map (uM [20])) (V0.trim f p)}
noncomputable instance envPt:EnvOk VPt wd:=⟨rfl,rfl,eu,eH⟩
structure PX where
 d:List AV->Bool
 g:List AV->Int
 a:TX
 o:List LK
instance:Inhabited PX:=⟨⟨λ_=>false,λ_=>0,[],[]⟩⟩
def φPh (x:List LK):AV×List AO:=(.tup [lkA x,.bool true],[])
def kU:List LK->TX->Option TX
 | [],a=>some a
 | k::r,a=>cond (oth k a).2 (kU r (oth k a).1) none
theorem ug:∀ {o:List LK} {a c:TX} {k:LK},kU o a=some c->(oth k c).2=true->kU (o++[k]) a=some (oth k c).1
 | [],a,c,k,h,h2=>by
  injection h with h
  subst h
  show cond (oth k a).2 (some (oth k a).1) none=_
  rw [h2];rfl
 | z::o,a,c,k,h,h2=>by
  have h:cond (oth z a).2 (kU o (oth z a).1) none=some c:=h
  show cond (oth z a).2 (kU (o++[k]) (oth z a).1) none=_
  cases hz:(oth z a).2 with
  | false=>rw [hz] at h;cases h
  | true=>
   rw [hz,cond_true] at h
   rw [cond_true]
   exact ug h h2
theorem uG (S:TX->Prop):∀ (l:List LK) (f:FR) (D:List TX),Fo f D->(∀x,S x↔S (aj f x))->(∀k∈l,S k.a↔S k.b)->∀x,S x↔S (aj (l.foldl (λf k=>cB f k.a k.b) f) x)
 | [],f,D,hD,h1,_,x=>h1 x
 | k::l,f,D,hD,h1,h,x=>by
  obtain ⟨D',hD'⟩:=pE hD k.a k.b
  refine uG S l (cB f k.a k.b) D' hD' (λx=>?_) (λq hq=>h q (List.mem_cons_of_mem _ hq)) x
  have h2:=h k List.mem_cons_self
  by_cases e:aj f k.a=aj f k.b
  ·rw [show cB f k.a k.b=f from by unfold cB;rw [e,beq_self_eq_true];rfl];exact h1 x
  ·rw [gQ hD e,h1 x]
   have ha:=h1 k.a
   have hb:=h1 k.b
   split
   ·rename_i e2
    rw [e2]
    unfold tmax tmin
    cases hlt:aZ (aj f k.a) (aj f k.b) with
    | true=>simp only [cond_true,Bool.true_or];exact hb.symm.trans (h2.symm.trans ha)
    | false=>
     rw [show (aj f k.a==aj f k.b)=false from by simpa using e]
     simp only [cond_false,Bool.false_or];exact ha.symm.trans (h2.trans hb)
   ·exact Iff.rfl
theorem tV (S:TX->Prop) (l:List LK) (h:∀k∈l,S k.a↔S k.b) (x:TX):S x↔S (aj (ofF l) x):=
 uG S l (λ_=>none) [] xM (λx=>by rw [show aj (λ_=>none) x=x from kK (.stop rfl)]) h x
theorem DsP.all {l:List LK} {b:TX} {d:List AV->Bool} {g:List AV->Int} (h:DsP l b d g) {a:TX} (e:aj (ofF l) a=aj (ofF l) b):kn d a=true:=by
 have key:=tV (λy=>kn d y=true) l λk hk=>⟨λha=>?_,λhb=>?_⟩
 ·rw [key a,e,<-key b];exact h.i.kb
 ·have:=h.f k.a ha k hk
  unfold oth at this
  rw [beq_self_eq_true] at this
  exact this rfl
 ·have:=h.f k.b hb k hk
  unfold oth at this
  cases e1:k.b==k.a with
  | true=>rw [<-show k.b=k.a from by simpa using e1];exact hb
  | false=>
   rw [e1,beq_self_eq_true] at this
   exact this rfl
structure PtI (l:List LK) (b a0:TX) (x:PX):Prop where
 ds:DsP l b x.d x.g
 k:kn x.d x.a=true
 o:∀k∈x.o,k∈l
 p:kU x.o a0=some x.a
 n:x.o.length+vl x.g x.a<=2*l.length
abbrev Good (x:PX) (k:LK):Prop:=(oth k x.a).2=true/\kn x.d (oth k x.a).1=true/\vl x.g (oth k x.a).1=vl x.g x.a - 1
structure PnI (l:List LK) (b a0:TX) (x:PX×Nat):Prop where
 i:PtI l b a0 x.1
 ne:x.1.a≠b
 j:x.2<=l.length
 h:∀i,i < x.2->¬ Good x.1 (l.getD i default)
structure PnP (l:List LK) (b a0:TX) (x:PX×Nat) (o:PX):Prop where
 i:PtI l b a0 o
 v:vl o.g o.a=vl x.1.g x.1.a - 1
 g:o.g=x.1.g
structure PtP (l:List LK) (b a0:TX) (x:PX):Prop where
 m:∀k∈x.o,k∈l
 p:kU x.o a0=some b
 n:x.o.length<=2*l.length
section
variable {l:List LK} {a b a0:TX} {x:PX×Nat} {k:LK} {r:TX×Bool} {os:List AO}
theorem PtI.v {x:PX} (h:PtI l b a0 x):0<=vl x.g x.a/\vl x.g x.a<=2*l.length:=by
 have:=h.ds.i.v _ h.k;omega
theorem PtI.step {x:PX} (h:PtI l b a0 x) (hk:k∈l) (hg:Good x k):PtI l b a0 {x with a:=(oth k x.a).1,o:=x.o++[k]}:=
 ⟨h.ds,hg.2.1,λq hq=>by
  rcases List.mem_append.1 hq with hq | hq
  ·exact h.o q hq
  ·rw [List.mem_singleton.1 hq];exact hk,ug h.p hg.1,by
  have:=h.n
  show ((x.o++[k]).length:Int)+vl x.g (oth k x.a).1<=_
  rw [hg.2.2,List.length_append,List.length_singleton];omega⟩
theorem IX (hl:l.length<=1000000) (h:PtI l b a0 x.1):IntKind.wrap .i64 (x.1.g [.str x.1.a] - 1)=vl x.1.g x.1.a - 1:=by
 have:=h.v
 exact wrap_i64 (x:=vl x.1.g x.1.a - 1) (by omega) (by omega)
theorem Kv (hl:l.length<=1000000) (h:PtI l b a0 x.1) (q:rOt [.agg k.c,.str x.1.a] os r) (h3:(!r.2)=false) (h4:x.1.d [.str r.1]=true) (h6:(bif true then x.1.g [.str r.1]==IntKind.wrap .i64 (x.1.g [.str x.1.a] - 1) else false)=true):Good x.1 k:=by
 refine ⟨Ia h3 q,Jh h4 q,?_⟩
 rw [IX hl h,cond_true] at h6
 rw [<-q k _ rfl]
 exact (by simpa using h6:x.1.g [.str r.1]=vl x.1.g x.1.a - 1)
theorem Ks (hl:l.length<=1000000) (h:PtI l b a0 x.1) (q:rOt [.agg k.c,.str x.1.a] os r) (h6:(bif true then x.1.g [.str r.1]==IntKind.wrap .i64 (x.1.g [.str x.1.a] - 1) else false)=false):¬ Good x.1 k:=by
 rintro ⟨_,_,h7⟩
 rw [IX hl h,cond_true] at h6
 rw [<-q k _ rfl] at h7
 have h7:x.1.g [.str r.1]=vl x.1.g x.1.a - 1:=h7
 rw [h7] at h6;simp at h6
theorem PnI.skip (h:PnI l b a0 x) (hj:x.2 < l.length) (hn:¬ Good x.1 (l.getD x.2 default)):PnI l b a0 (x.1,x.2+1):=
 ⟨h.i,h.ne,hj,λi hi=>by
  rcases Nat.lt_or_ge i x.2 with h3 | h3
  ·exact h.h i h3
  ·obtain rfl:i=x.2:=by have:i < x.2+1:=hi;omega
   exact hn⟩
theorem PnI.no (h:PnI l b a0 x) (hj:l.length<=x.2):False:=by
 rcases h.i.ds.i.s _ h.i.k with e | ⟨_,k,hk,h1,h2,h3⟩
 ·exact h.ne e
 ·obtain ⟨i,hi,rfl⟩:=List.getElem_of_mem hk
  refine h.h i (by omega) ?_
  rw [List.getD_eq_getElem?_getD,List.getElem?_eq_getElem hi]
  exact ⟨h1,h2,h3⟩
theorem PnI.lt (h:PnI l b a0 x):decide ((x.2:Int) < (l.length:Int))=true:=by
 rcases Nat.lt_or_ge x.2 l.length with h1 | h1
 ·exact decide_eq_true (by omega)
 ·exact (h.no h1).elim
theorem PnP.nx {o:PX} {j:Nat} (h:PnP l b a0 (x.1,j) o):PnP l b a0 x o:=⟨h.i,h.v,h.g⟩
theorem Kr (hl:l.length<=1000000) (h:PtI l b a0 x.1):(roomy 40 (x.1.o.length+1)&&Nat.beq x.1.o.length x.1.o.length)=true:=bd (by have:=h.n;have:=h.v;omega)
theorem GD (hl:l.length<=1000000) (h:x.2 < l.length):({env:=[(0,lkA l),(1,.str x.1.a),(2,.str b),(8,.mref 20),(11,.sl (.key 64) 3 (x.1.o.length) (λj=>(x.1.o.getD j default).c)),(32,lkA l),(33,.int .i64 (l.length:Int)),(34,.int .i64 (IntKind.wrap .i64 ((x.2:Int)+1)))],objs:=[(64,.own 3 (x.1.o.length)),(20,diO x.1.d x.1.g)]}:St)=(λx:PX×Nat=>({env:=[(0,lkA l),(1,.str x.1.a),(2,.str b),(8,.mref 20),(11,.sl (.key 64) 3 (x.1.o.length) (λj=>(x.1.o.getD j default).c)),(32,lkA l),(33,.int .i64 (l.length:Int)),(34,.int .i64 ((x.2:Int)))],objs:=[(64,.own 3 (x.1.o.length)),(20,diO x.1.d x.1.g)]}:St)) (x.1,x.2+1):=by
 rw [bC (by omega)]
theorem Kw {x:PX} {kk:Ex->St->Res} (q:r=oth k x.a):kk (.exit 1) ({env:=[(0,lkA l),(1,.str r.1),(2,.str b),(8,.mref 20),(11,.sl (.key 64) 3 (x.o.length+1) (ar x.o.length 1 (λj=>(x.o.getD j default).c) (ag [.str [],.str [],.int .i64 0] [(0,.agg [.str k.a,.str k.b,.int .i64 k.t])])))],objs:=[(64,.own 3 (x.o.length+1)),(20,diO x.d x.g)]})=(λ(x_:PX) k_=>k_ (.exit 1) {env:=[(0,lkA l),(1,.str x_.a),(2,.str b),(8,.mref 20),(11,.sl (.key 64) 3 (x_.o.length) (λj=>(x_.o.getD j default).c))],objs:=[(64,.own 3 (x_.o.length)),(20,diO x_.d x_.g)]}) {x with a:=(oth k x.a).1,o:=x.o++[k]} kk:=by
 subst q
 rw [gk LK.c x.o k _ rfl]
 show _=kk (.exit 1) ({env:=[(0,lkA l),(1,.str (oth k x.a).1),(2,.str b),(8,.mref 20),(11,.sl (.key 64) 3 ((x.o++[k]).length) (λj=>((x.o++[k]).getD j default).c))],objs:=[(64,.own 3 ((x.o++[k]).length)),(20,diO x.d x.g)]})
 simp only [List.length_append,List.length_singleton]
theorem PnI.p (h:PnI l b a0 x) (hk:k∈l) (hg:Good x.1 k):PnP l b a0 x {x.1 with a:=(oth k x.1.a).1,o:=x.1.o++[k]}:=⟨h.i.step hk hg,hg.2.2,rfl⟩
theorem PtI.pos {x:PX} (h:PtI l b a0 x) (hb:x.a≠b):0 < vl x.g x.a:=by
 rcases h.ds.i.s _ h.k with e | ⟨h1,_⟩
 ·exact absurd e hb
 ·exact h1
theorem Dw {x y:TX} (h:(!x==y)=true):x≠y:=λe=>by rw [e] at h;simp at h
theorem HZ {x y:TX} (h:(!x==y)=false):x=y:=by simpa using h
theorem Kt {x o:PX} (h:PtI l b a0 x) (h1:(!x.a==b)=true) (q:PnP l b a0 (x,0) o):(vl o.g o.a).toNat < (vl x.g x.a).toNat:=by
 have:=h.pos (Dw h1)
 have:=q.v
 have e:(x,(0:Nat)).1=x:=rfl
 rw [e] at this
 omega
theorem PtI.fin {x:PX} (h:PtI l b a0 x) (h1:(!x.a==b)=false):PtP l b a0 x:=⟨h.o,by rw [h.p,HZ h1],by have:=h.n;have:=h.v;omega⟩
end
theorem AZ (l:List LK) (b a0:TX) (hl:l.length<=1000000):∃ (u:St->Bool) (w:St->PX),(∀x:PX×Nat,PnI l b a0 x->aW u w ((λx:PX×Nat=>({env:=[(0,lkA l),(1,.str x.1.a),(2,.str b),(8,.mref 20),(11,.sl (.key 64) 3 (x.1.o.length) (λj=>(x.1.o.getD j default).c)),(32,lkA l),(33,.int .i64 (l.length:Int)),(34,.int .i64 ((x.2:Int)))],objs:=[(64,.own 3 (x.1.o.length)),(20,diO x.1.d x.1.g)]}:St)) x) (PnP l b a0 x))/\∀L:List (List Nat×Orc),bq (VPt.run [eOt,eDs] 2 [] L [] bw) bw [1,0,1,1,1,1,0,0,0,1,0,0,1,0] (mkO u w (λ(x_:PX) k_=>k_ (.exit 1) {env:=[(0,lkA l),(1,.str x_.a),(2,.str b),(8,.mref 20),(11,.sl (.key 64) 3 (x_.o.length) (λj=>(x_.o.getD j default).c))],objs:=[(64,.own 3 (x_.o.length)),(20,diO x_.d x_.g)]})):=
 gx (V:=VPt) (T:=[eOt,eDs]) (d:=2) (W:=[]) (Lf:=λL=>L) (λx:PX×Nat=>({env:=[(0,lkA l),(1,.str x.1.a),(2,.str b),(8,.mref 20),(11,.sl (.key 64) 3 (x.1.o.length) (λj=>(x.1.o.getD j default).c)),(32,lkA l),(33,.int .i64 (l.length:Int)),(34,.int .i64 ((x.2:Int)))],objs:=[(64,.own 3 (x.1.o.length)),(20,diO x.1.d x.1.g)]}:St)) (PnI l b a0) (λx=>l.length - x.2) (λ(x_:PX) k_=>k_ (.exit 1) {env:=[(0,lkA l),(1,.str x_.a),(2,.str b),(8,.mref 20),(11,.sl (.key 64) 3 (x_.o.length) (λj=>(x_.o.getD j default).c))],objs:=[(64,.own 3 (x_.o.length)),(20,diO x_.d x_.g)]}) (PnP l b a0) (by kernel_rfl) (λp q o h hp=>by
  have e1:some (AV.str p.1.a)=some (AV.str q.1.a):=congrArg (λs:St=>s.get 1) h
  have e4:some (diO p.1.d p.1.g)=some (diO q.1.d q.1.g):=congrArg (λs:St=>s.obj 20) h
  injection e1 with e1;injection e1 with e1
  injection e4 with e4
  exact ⟨hp.i,by rw [hp.v,e1,(pK e4).2],by rw [hp.g,(pK e4).2]⟩) (λx hv=>.yea (c:=decide ((↑x.2:Int) < (↑(List.length l):Int))) (B:=λ_ k kn=>k (.exit 2) ({env:=[(11,.sl (.key 64) 3 (List.length (PX.o x.1)) λj=>[.str (LK.a (List.getD (PX.o x.1) j default)),.str (LK.b (List.getD (PX.o x.1) j default)),.int .i64 (LK.t (List.getD (PX.o x.1) j default))])],objs:=[(64,.own 3 (List.length (PX.o x.1))),(20,AO.mp false [KD.str] (PX.d x.1) λl=>.int .i64 (PX.g x.1 l))]})) (hv.lt) (
  .n (c:=within (↑x.2:Int) (List.length l)) (aO (aN hv.lt)) (
  .call (Dr (l.getD x.2 default) x.1.a) λr2 q2=>
  .b (!r2.2) (λh3=>
   .nx {env:=[(0,lkA l),(1,.str (PX.a x.1)),(2,.str b),(8,.mref 20),(11,.sl (.key 64) 3 (List.length (PX.o x.1)) λj=>[.str (LK.a (List.getD (PX.o x.1) j default)),.str (LK.b (List.getD (PX.o x.1) j default)),.int .i64 (LK.t (List.getD (PX.o x.1) j default))]),(32,lkA l),(33,.int .i64 (↑(List.length l):Int)),(34,.int .i64 (IntKind.wrap .i64 ((↑x.2:Int)+1)))],objs:=[(64,.own 3 (List.length (PX.o x.1))),(20,AO.mp false [KD.str] (PX.d x.1) λl=>.int .i64 (PX.g x.1 l))]} (x.1,x.2+1) (hv.skip (aN hv.lt) λh=>(by have g:=h.1;rw [Jg h3 q2] at g;cases g)) (iz (aN hv.lt)) (λ_ h=>h.nx) (GD hl (aN hv.lt))) λh3=>
  .b (PX.d x.1 [.str r2.1]) (λh4=>
   .yea (c:=PX.d x.1 [.str (PX.a x.1)]) (B:=λ_ k kn=>cond (bif true then PX.g x.1 [.str r2.1]==IntKind.wrap .i64 (0 - 1) else false) (cond (roomy 40 (List.length (PX.o x.1)+1)&&Nat.beq (List.length (PX.o x.1)) (List.length (PX.o x.1))) (k (.exit 1) ({env:=[(0,lkA l),(1,.str r2.1),(2,.str b),(8,.mref 20),(11,.sl (.key 64) 3 (List.length (PX.o x.1)+1) (ar (List.length (PX.o x.1)) 1 (λj=>[.str (LK.a (List.getD (PX.o x.1) j default)),.str (LK.b (List.getD (PX.o x.1) j default)),.int .i64 (LK.t (List.getD (PX.o x.1) j default))]) (ag [.str [],.str [],.int .i64 0] [(0,.agg [.str (LK.a (List.getD l x.2 default)),.str (LK.b (List.getD l x.2 default)),.int .i64 (LK.t (List.getD l x.2 default))])])))],objs:=[(64,.own 3 (List.length (PX.o x.1)+1)),(20,AO.mp false [KD.str] (PX.d x.1) λl=>.int .i64 (PX.g x.1 l))]})) (none)) (kn ({env:=[(0,lkA l),(1,.str (PX.a x.1)),(2,.str b),(8,.mref 20),(11,.sl (.key 64) 3 (List.length (PX.o x.1)) λj=>[.str (LK.a (List.getD (PX.o x.1) j default)),.str (LK.b (List.getD (PX.o x.1) j default)),.int .i64 (LK.t (List.getD (PX.o x.1) j default))]),(32,lkA l),(33,.int .i64 (↑(List.length l):Int)),(34,.int .i64 (IntKind.wrap .i64 ((↑x.2:Int)+1)))],objs:=[(64,.own 3 (List.length (PX.o x.1))),(20,AO.mp false [KD.str] (PX.d x.1) λl=>.int .i64 (PX.g x.1 l))]}))) (hv.i.k) (
   .b (bif true then PX.g x.1 [.str r2.1]==IntKind.wrap .i64 (PX.g x.1 [.str (PX.a x.1)] - 1) else false) (λh6=>
    .n (c:=roomy 40 (List.length (PX.o x.1)+1)&&Nat.beq (List.length (PX.o x.1)) (List.length (PX.o x.1))) (Kr hl hv.i) (
    .fin {x.1 with a:=(oth (l.getD x.2 default) x.1.a).1,o:=x.1.o++[l.getD x.2 default]} (hv.p (lb (aN hv.lt)) (Kv hl hv.i q2 h3 h4 h6)) λ_ k _=>Kw (q2 _ _ rfl))) λh6=>
   .nx {env:=[(0,lkA l),(1,.str (PX.a x.1)),(2,.str b),(8,.mref 20),(11,.sl (.key 64) 3 (List.length (PX.o x.1)) λj=>[.str (LK.a (List.getD (PX.o x.1) j default)),.str (LK.b (List.getD (PX.o x.1) j default)),.int .i64 (LK.t (List.getD (PX.o x.1) j default))]),(32,lkA l),(33,.int .i64 (↑(List.length l):Int)),(34,.int .i64 (IntKind.wrap .i64 ((↑x.2:Int)+1)))],objs:=[(64,.own 3 (List.length (PX.o x.1))),(20,AO.mp false [KD.str] (PX.d x.1) λl=>.int .i64 (PX.g x.1 l))]} (x.1,x.2+1) (hv.skip (aN hv.lt) (Ks hl hv.i q2 h6)) (iz (aN hv.lt)) (λ_ h=>h.nx) (GD hl (aN hv.lt)))) λh4=>
  .nx {env:=[(0,lkA l),(1,.str (PX.a x.1)),(2,.str b),(8,.mref 20),(11,.sl (.key 64) 3 (List.length (PX.o x.1)) λj=>[.str (LK.a (List.getD (PX.o x.1) j default)),.str (LK.b (List.getD (PX.o x.1) j default)),.int .i64 (LK.t (List.getD (PX.o x.1) j default))]),(32,lkA l),(33,.int .i64 (↑(List.length l):Int)),(34,.int .i64 (IntKind.wrap .i64 ((↑x.2:Int)+1)))],objs:=[(64,.own 3 (List.length (PX.o x.1))),(20,AO.mp false [KD.str] (PX.d x.1) λl=>.int .i64 (PX.g x.1 l))]} (x.1,x.2+1) (hv.skip (aN hv.lt) λh=>(by have g:=h.2.1;rw [Ic h4 q2] at g;cases g)) (iz (aN hv.lt)) (λ_ h=>h.nx) (GD hl (aN hv.lt))))) (λx L k kn=>by kernel_rfl)
theorem AY (l:List LK) (b a0:TX) (hl:l.length<=1000000) {u2:St->Bool} {w2:St->PX} (hu:∀x:PX×Nat,PnI l b a0 x->aW u2 w2 ((λx:PX×Nat=>({env:=[(0,lkA l),(1,.str x.1.a),(2,.str b),(8,.mref 20),(11,.sl (.key 64) 3 (x.1.o.length) (λj=>(x.1.o.getD j default).c)),(32,lkA l),(33,.int .i64 (l.length:Int)),(34,.int .i64 ((x.2:Int)))],objs:=[(64,.own 3 (x.1.o.length)),(20,diO x.1.d x.1.g)]}:St)) x) (PnP l b a0 x)):∃ (u:St->Bool) (w:St->PX),(∀x:PX,PtI l b a0 x->aW u w ((λx:PX=>({env:=[(0,lkA l),(1,.str x.a),(2,.str b),(8,.mref 20),(11,.sl (.key 64) 3 (x.o.length) (λj=>(x.o.getD j default).c))],objs:=[(64,.own 3 (x.o.length)),(20,diO x.d x.g)]}:St)) x) (PtP l b a0))/\∀i:Orc,bq (VPt.run [eOt,eDs] 2 [] [([1,0,1,1,1,1,0,0],i),([1,0,1,1,1,1,0,0,0,1,0,0,1,0],mkO u2 w2 (λ(x_:PX) k_=>k_ (.exit 1) {env:=[(0,lkA l),(1,.str x_.a),(2,.str b),(8,.mref 20),(11,.sl (.key 64) 3 (x_.o.length) (λj=>(x_.o.getD j default).c))],objs:=[(64,.own 3 (x_.o.length)),(20,diO x_.d x_.g)]}))] [] bw) bw [1,0,1,1,1,1,0,0] (mkO u w (λ(x_:PX) k_=>k_ (.exit 0) {env:=[(11,.sl (.key 64) 3 x_.o.length λj=>(x_.o.getD j default).c)],objs:=[(64,.own 3 (x_.o.length)),(20,diO x_.d x_.g)]})):=
 bX (V:=VPt) (T:=[eOt,eDs]) (d:=2) (W:=[]) (Lf:=λi:Orc=>[([1,0,1,1,1,1,0,0],i),([1,0,1,1,1,1,0,0,0,1,0,0,1,0],mkO u2 w2 (λ(x_:PX) k_=>k_ (.exit 1) {env:=[(0,lkA l),(1,.str x_.a),(2,.str b),(8,.mref 20),(11,.sl (.key 64) 3 (x_.o.length) (λj=>(x_.o.getD j default).c))],objs:=[(64,.own 3 (x_.o.length)),(20,diO x_.d x_.g)]}))]) (λx:PX=>({env:=[(0,lkA l),(1,.str x.a),(2,.str b),(8,.mref 20),(11,.sl (.key 64) 3 (x.o.length) (λj=>(x.o.getD j default).c))],objs:=[(64,.own 3 (x.o.length)),(20,diO x.d x.g)]}:St)) (PtI l b a0) (λx=>(vl x.g x.a).toNat) (λ(x_:PX) k_=>k_ (.exit 0) {env:=[(11,.sl (.key 64) 3 x_.o.length λj=>(x_.o.getD j default).c)],objs:=[(64,.own 3 (x_.o.length)),(20,diO x_.d x_.g)]}) (PtP l b a0) (by kernel_rfl) (λx hv=>.b (!PX.a x==b) (λh1=>
   .lp (hu (x,0) ⟨hv,Dw h1,Nat.zero_le _,λi hi=>absurd hi (Nat.not_lt_zero _)⟩) λr2 q2=>
   .go {env:=[(0,lkA l),(1,.str (PX.a r2)),(2,.str b),(8,.mref 20),(11,.sl (.key 64) 3 (List.length (PX.o r2)) λj=>[.str (LK.a (List.getD (PX.o r2) j default)),.str (LK.b (List.getD (PX.o r2) j default)),.int .i64 (LK.t (List.getD (PX.o r2) j default))])],objs:=[(64,.own 3 (List.length (PX.o r2))),(20,AO.mp false [KD.str] (PX.d r2) λl=>.int .i64 (PX.g r2 l))]} r2 q2.i (Kt hv h1 q2) rfl) λh1=>
  .fi x (hv.fin h1)) (λx L k kn=>by kernel_rfl)
def PhP (l:List LK) (a b:TX) (x:List LK):Prop:=(∀k∈x,k∈l)/\kU x a=some b/\x.length<=2*l.length
def rPh (A:List AV) (_:List AO) (x:List LK):Prop:=∀l a b,A=[lkA l,.str a,.str b]->PhP l a b x
theorem Ku {l:List LK} {a b:TX} {u:St->Bool} {w:St->PX} {os:List AO} {r:(List AV->Bool)×(List AV->Int)} (hu:∀x:PX,PtI l b a x->aW u w ((λx:PX=>({env:=[(0,lkA l),(1,.str x.a),(2,.str b),(8,.mref 20),(11,.sl (.key 64) 3 (x.o.length) (λj=>(x.o.getD j default).c))],objs:=[(64,.own 3 (x.o.length)),(20,diO x.d x.g)]}:St)) x) (PtP l b a)) (q:rDs [lkA l,.str b] os r) (e:aj (ofF l) a=aj (ofF l) b):aW u w ({env:=[(0,lkA l),(1,.str a),(2,.str b),(8,.mref 20),(11,.sl (.key 64) 3 0 λ_=>[.str [],.str [],.int .i64 0])],objs:=[(64,.own 3 0),(20,diO r.1 r.2)]}) (PtP l b a):=by
 have h:=q l b rfl
 have hk:=h.all e
 exact hu ⟨r.1,r.2,a,[]⟩ ⟨h,hk,λ_ h=>absurd h List.not_mem_nil,rfl,by have:=h.i.v a hk;show ((0:Nat):Int)+vl r.2 a<=_;omega⟩
theorem GH (l:List LK) (a b:TX) (hl:l.length<=1000000) (e:aj (ofF l) a=aj (ofF l) b):bz wd bw φPh rPh [lkA l,.str a,.str b] []:=by
 obtain ⟨u2,w2,hu2,hc2⟩:=AZ l b a hl
 obtain ⟨u1,w1,hu,hc1⟩:=AY l b a hl hu2
 refine (bn (V:=VPt) (T:=[eOt,eDs]) (d:=2) (R:=λ_ _ x=>PhP l a b x) 0 (aE (hc1 _) (aE (hc2 _) ao)) ak (.call (H5 l b hl) λr1 q1=>
  .yea (c:=r1.1 [.str a]) (b:=some ((.tup [.sl .fit 0 0 λx=>[],.bool false],[]))) ((q1 _ _ rfl).all e) (
  .lp (Ku hu q1 e) λr3 q3=>
  .r r3.o ⟨q3.m,q3.p,q3.n⟩)) (by kernel_rfl)).mono λx hx l' a' b' h=>?_
 simp only [List.cons.injEq,AV.str.injEq,and_true] at h
 rw [<-ee h.1,<-h.2.1,<-h.2.2];exact hx
noncomputable abbrev ePh:Ent:=dK wd bw φPh rPh
end Go.WF

namespace Go.WF
open Go Go.Ab Go.Proofs
structure LdI (l:List LK) (b:TX) (t:Int) (x:TX×Nat):Prop where
 i:x.2<=l.length
 p:kU (l.drop x.2) x.1=some b
 t:∀k∈l,k.t<=t
section
variable {l:List LK} {b:TX} {t:Int} {x:TX×Nat}
theorem LdI.k (h:LdI l b t x) (hi:x.2 < l.length):(oth (l.getD x.2 default) x.1).2=true/\LdI l b t ((oth (l.getD x.2 default) x.1).1,x.2+1):=by
 have hp:=h.p
 rw [List.drop_eq_getElem_cons hi,show l[x.2]=l.getD x.2 default from by rw [List.getD_eq_getElem?_getD,List.getElem?_eq_getElem hi];rfl] at hp
 have hp:cond (oth (l.getD x.2 default) x.1).2 (kU (l.drop (x.2+1)) (oth (l.getD x.2 default) x.1).1) none=some b:=hp
 cases hb:(oth (l.getD x.2 default) x.1).2 with
 | false=>rw [hb] at hp;cases hp
 | true=>rw [hb] at hp;exact ⟨rfl,hi,hp,h.t⟩
theorem LdI.nt (h:LdI l b t x) (hi:x.2 < l.length):decide ((l.getD x.2 default).t > t)=false:=decide_eq_false (by have:=h.t (l.getD x.2 default) (lb hi);omega)
theorem LdI.aa (h:LdI l b t x) (hi:x.2 < l.length) (h1:((l.getD x.2 default).a==x.1)=true):LdI l b t ((l.getD x.2 default).b,x.2+1):=by
 have:=(h.k hi).2
 have e:(x.1==(l.getD x.2 default).a)=true:=by rw [show (l.getD x.2 default).a=x.1 from by simpa using h1];simp
 unfold oth at this
 rw [e] at this;exact this
theorem LdI.bb (h:LdI l b t x) (hi:x.2 < l.length) (h1:((l.getD x.2 default).a==x.1)=false) (h2:((l.getD x.2 default).b==x.1)=true):LdI l b t ((l.getD x.2 default).a,x.2+1):=by
 have:=(h.k hi).2
 have e1:(x.1==(l.getD x.2 default).a)=false:=by
  cases e:x.1==(l.getD x.2 default).a with
  | false=>rfl
  | true=>rw [show x.1=(l.getD x.2 default).a from by simpa using e] at h1;simp at h1
 have e:(x.1==(l.getD x.2 default).b)=true:=by rw [show (l.getD x.2 default).b=x.1 from by simpa using h2];simp
 unfold oth at this
 rw [e1,e] at this;exact this
theorem LdI.y (h:LdI l b t x) (hi:x.2 < l.length) (h1:((l.getD x.2 default).a==x.1)=false):((l.getD x.2 default).b==x.1)=true:=by
 have:=(h.k hi).1
 unfold oth at this
 have e1:(x.1==(l.getD x.2 default).a)=false:=by
  cases e:x.1==(l.getD x.2 default).a with
  | false=>rfl
  | true=>rw [show x.1=(l.getD x.2 default).a from by simpa using e] at h1;simp at h1
 rw [e1] at this
 cases e:x.1==(l.getD x.2 default).b with
 | false=>rw [e] at this;cases this
 | true=>rw [show x.1=(l.getD x.2 default).b from by simpa using e];simp
theorem LdI.e (h:LdI l b t x) (hi:l.length<=x.2):x.1=b:=by
 have hp:=h.p
 rw [List.drop_eq_nil_of_le hi] at hp
 injection hp
theorem I5 {a:TX} {n:Nat} (hl:l.length<=1000000) (h:n < l.length):({env:=[(1,.str a),(2,.str b),(3,.int .i64 t),(11,lkA l),(12,.int .i64 (l.length:Int)),(13,.int .i64 (IntKind.wrap .i64 ((n:Int)+1)))],objs:=[]}:St)=(λx:TX×Nat=>({env:=[(1,.str x.1),(2,.str b),(3,.int .i64 t),(11,lkA l),(12,.int .i64 (l.length:Int)),(13,.int .i64 ((x.2:Int)))],objs:=[]}:St)) (a,n+1):=by
 rw [bC (by omega)]
end
theorem Bg (l:List LK) (b:TX) (t:Int) (hl:l.length<=1000000):∃ (u:St->Bool) (w:St->TX),(∀x:TX×Nat,LdI l b t x->aW u w ((λx:TX×Nat=>({env:=[(1,.str x.1),(2,.str b),(3,.int .i64 t),(11,lkA l),(12,.int .i64 (l.length:Int)),(13,.int .i64 ((x.2:Int)))],objs:=[]}:St)) x) λc=>c=b)/\∀L:List (List Nat×Orc),bq (V0.run [] 2 [] L [] iM) iM [1,0,1,0] (mkO u w (λ(x_:TX) k_=>k_ (.exit 0) {env:=[(1,.str x_),(2,.str b)],objs:=[]})):=
 bX (V:=V0) (T:=[]) (d:=2) (W:=[]) (Lf:=λL=>L) (λx:TX×Nat=>({env:=[(1,.str x.1),(2,.str b),(3,.int .i64 t),(11,lkA l),(12,.int .i64 (l.length:Int)),(13,.int .i64 ((x.2:Int)))],objs:=[]}:St)) (LdI l b t) (λx=>l.length - x.2) (λ(x_:TX) k_=>k_ (.exit 0) {env:=[(1,.str x_),(2,.str b)],objs:=[]}) (λc=>c=b) (by kernel_rfl) (λx hv=>.b (decide ((↑x.2:Int) < (↑(List.length l):Int))) (λh1=>
   .n (c:=within (↑x.2:Int) (List.length l)) (aO (aN h1)) (
   .no (c:=decide (LK.t (List.getD l x.2 default) > t)) (A:=λ_ k kn=>k (.ret) ({env:=[(8,.bool false)],objs:=[]})) (hv.nt (aN h1)) (
   .b (LK.a (List.getD l x.2 default)==x.1) (λh3=>
    .go {env:=[(1,.str (LK.b (List.getD l x.2 default))),(2,.str b),(3,.int .i64 t),(11,lkA l),(12,.int .i64 (↑(List.length l):Int)),(13,.int .i64 (IntKind.wrap .i64 ((↑x.2:Int)+1)))],objs:=[]} ((l.getD x.2 default).b,x.2+1) (hv.aa (aN h1) h3) (iz (aN h1)) (I5 hl (aN h1))) λh3=>
   .yea (c:=LK.b (List.getD l x.2 default)==x.1) (B:=λ_ k kn=>k (.ret) ({env:=[(8,.bool false)],objs:=[]})) (hv.y (aN h1) h3) (
   .go {env:=[(1,.str (LK.a (List.getD l x.2 default))),(2,.str b),(3,.int .i64 t),(11,lkA l),(12,.int .i64 (↑(List.length l):Int)),(13,.int .i64 (IntKind.wrap .i64 ((↑x.2:Int)+1)))],objs:=[]} ((l.getD x.2 default).a,x.2+1) (hv.bb (aN h1) h3 (hv.y (aN h1) h3)) (iz (aN h1)) (I5 hl (aN h1)))))) λh1=>
  .fi x.1 (hv.e (gu h1))) (λx L k kn=>by kernel_rfl)
theorem qP (l:List LK) (a b:TX) (t:Int) (hl:l.length<=1000000) (h1:kU l a=some b) (h2:∀k∈l,k.t<=t):bz wd iM φBo (rE true) [lkA l,.str a,.str b,.int .i64 t] []:=by
 obtain ⟨u,w,hu,hc⟩:=Bg l b t hl
 exact bn (V:=V0) (T:=[]) (d:=2) 0 (aE (hc _) ao) ak (.lp (hu (a,0) ⟨Nat.zero_le _,h1,h2⟩) λr1 q1=>
  .r (r1==b) (by rw [q1];exact beq_self_eq_true b)) (by kernel_rfl)
noncomputable abbrev eLd:Ent:=dK wd iM φBo (rE true)
end Go.WF

namespace Go.WF
open Go Go.Ab Go.Proofs
structure DvP (x:RG) (a b:TX) (s t:ATX):Prop where
 eq:s=t
 good:s.2=true->FdG ⟨s.1.layer,s.1.exp,s.1.arm⟩
 fa:s.2=true->fdF x a x.now=[⟨aI,s.1.exp,s.1.arm⟩]
 fb:s.2=true->fdF x b x.now=[⟨aI,s.1.exp,s.1.arm⟩]
end Go.WF

namespace Go.WF
open Go Go.Ab Go.Proofs
def gP (p:EVP) (a:TX) (f:FD):AO:=.cells ((ik p).cells++[.sl .no 3 1 (usR a),fdA [f],.sl .no 1 0 λx=>[.str [] ],.mref 1000001,.mref 1000002])
open Classical in
theorem oU {τ:Type} {f:FuncId} {A:List AV} {O:List AO} {x:τ} {φ:τ->AV×List AO} {T:List Ent} [t:TabI wd T] (h:Ct wd.P wd.G f A O (φ x)):TabI wd (lD f A O x φ::T):=⟨λe he l os hp=>by
 rcases List.mem_cons.1 he with rfl | he
 ·obtain ⟨_,_,h1,h2⟩:∃v:Unit,True/\A=l/\O=os:=of_decide_eq_true hp
  subst h1 h2
  exact h
 ·exact t.ok e he l os hp⟩
theorem _root_.Go.Ab.Run.ja {τ:Type} {Post:τ->Prop} {φ:τ->AV×List AO} {g:Bool} {T:Res} (h:g=true) (k:∀ (_:Unit) (_:Unit),Run Post φ T):Run Post φ (cond g T none):=Run.n h (k () ())
end Go.WF

namespace Go.WF
open Go Go.Ab Go.Proofs
noncomputable def VPa:Env:={V0 with hint:=λf t=>cond (Nat.beq f 85) (uM [61] (V0.hint f t)) (cond (Nat.beq f 45) (uM [20] (V0.hint f t)) (V0.hint f t)),trim:=λf p=>cond (Nat.beq f 85) ((V0.trim f p).map (uM [61])) (cond (Nat.beq f 45) ((V0.trim f p).map (uM [20])) (V0.trim f p))}
def mpA:AO:=AO.mp false [KD.str] (λl=>bif bO l [.str bZ] then true else false) λl=>bif bO l [.str bZ] then .int .i64 0 else .int .i64 0
def φDi (_:Unit):AV×List AO:=(.mref ae,[mpA])
def Du:AV:=.sl .no 3 0 λx=>[.str [],.str [],.int .i64 0]
def φPt (_:Unit):AV×List AO:=(.tup [Du,.bool true],[])
abbrev exS (e:TX) (m:Int):SL:=⟨bZ,aI,e,m,1,0,0⟩
abbrev exR (e:TX) (m:Int):RG:=⟨1,[],[exS e m]⟩
def xrL (e:TX) (m b:Int):List AV:=[.str bZ,.int .i64 1,.str bZ,.str aI,.str e,.int .i64 m,.int .i64 1,.int .i64 0,.int .i64 0,.int .i64 b,Du]
def φXp (e:TX) (m:Int) (b:Int):AV×List AO:=(.tup [.agg (xrL e m b),.int .i64 0],[])
noncomputable instance envPa:EnvOk VPa wd:=⟨rfl,rfl,eu,eH⟩
theorem H7:Ct wd.P wd.G ba [lkA [],.str bZ] [] (φDi ()):=by
 obtain ⟨_,_,h⟩:bz wd ba φDi gS [lkA [],.str bZ] []:=bn (V:=VPa) (T:=[]) (d:=16) 1 ao ak (.r () trivial) (by kernel_rfl)
 exact h
theorem GC:Ct wd.P wd.G bw [lkA [],.str bZ,.str bZ] [] (φPt ()):=by
 haveI:=oU (T:=[]) H7
 obtain ⟨_,_,h⟩:bz wd bw φPt gS [lkA [],.str bZ,.str bZ] []:=bn (V:=VPa) (T:=[lD ba [lkA [],.str bZ] [] () φDi]) (d:=16) 0 ao ak (.ja (mM [lkA [],.str bZ] []) λ_ _=>
  .r () trivial) (by kernel_rfl)
 exact h
theorem BQ {e:TX} {m:Int} (he:cw e=true) (hm:1<=m/\m<=8):VR (exR e m):=zP Fz ⟨by decide,by decide⟩ (by decide) po uk he hm λj h=>absurd h (Nat.not_lt_zero _)
theorem E1 {l:List AV} {os:List AO} {x:Bool} (q:rE true l os x):(!x)=false:=by have q:x=true:=q;rw [q];rfl
theorem HY {e:TX} {m:Int} (he:cw e=true) (hm:1<=m/\m<=8):Ct wd.P wd.G gM [rgA (exR e m),.str bZ,.str aI,.int .i64 1] [] (φAt (exS e m,true)):=by
 obtain ⟨x,hx,h⟩:=zN (exR e m) bZ aI 1 (by show (0:Nat)<=_;decide) (by show (1:Nat)<=_;decide)
 have hx:x=_:=hx _ _ _ _ rfl
 have hc:CcR (exR e m) bZ aI (exS e m,true):=.inl ⟨rfl,0,Nat.zero_lt_one,by
  show (bif bif ((0:Int)==0) then aI==aI else false then aj (ofF []) bZ==aj (ofF []) bZ else false)=true
  simp only [beq_self_eq_true,cond_true],λj h=>absurd h (Nat.not_lt_zero _),rfl⟩
 rw [hx,Am (BQ he hm) hc rfl] at h
 exact h
theorem HX:Ct wd.P wd.G cN [lkA [],.int .i64 1] [] (φLk []):=by
 obtain ⟨x,hx,h⟩:=yx [] 1 (by show (0:Nat)<=_;decide)
 have hx:x=_:=hx _ _ rfl
 rw [hx] at h;exact h
theorem Fa (p:EVP) (hp:p.Ok) {e:TX} {m:Int} (he:cw e=true) (hm:1<=m/\m<=8):Ct wd.P wd.G cD [rgA (exR e m),ik p,.str bZ,.str aI,.int .i64 1] [] (φXp e m (bkF p.s1 bZ)):=by
 haveI:=oU (T:=[]) GC
 haveI:=oU (T:=[lD bw [lkA [],.str bZ,.str bZ] [] () φPt]) HX
 haveI:=oU (T:=[lD cN [lkA [],.int .i64 1] [] [] φLk,lD bw [lkA [],.str bZ,.str bZ] [] () φPt]) (HY he hm)
 obtain ⟨x,hx,h⟩:bz wd cD (φXp e m) (rE (bkF p.s1 bZ)) [rgA (exR e m),ik p,.str bZ,.str aI,.int .i64 1] []:=bn (V:=V0) (T:=[eVa,BV,lD gM [rgA (exR e m),.str bZ,.str aI,.int .i64 1] [] (exS e m,true) φAt,lD cN [lkA [],.int .i64 1] [] [] φLk,lD bw [lkA [],.str bZ,.str bZ] [] () φPt]) (d:=3) 0 ao ak (.call (rH (BQ he hm)) λr1 q1=>
  .no (c:=!r1) (a:=some ((.tup [.agg [.str [],.int .i64 0,.str [],.str [],.str [],.int .i64 0,.int .i64 0,.int .i64 0,.int .i64 0,.int .i64 0,.sl .fit 0 0 λx=>[] ],.int .i64 25],[]))) (E1 q1) (
  .call (rH (BQ he hm)) λr3 q3=>
  .no (c:=!r1) (a:=some ((.tup [.agg [.str [],.int .i64 0,.str [],.str [],.str [],.int .i64 0,.int .i64 0,.int .i64 0,.int .i64 0,.int .i64 0,.sl .fit 0 0 λx=>[] ],.int .i64 11],[]))) (E1 q1) (
  .ja (mM [rgA (exR e m),.str bZ,.str aI,.int .i64 1] []) λ_ _=>
  .ja (mM [lkA [],.int .i64 1] []) λ_ _=>
  .ja (mM [lkA [],.str bZ,.str bZ] []) λ_ _=>
  .call (eA p.s1 bZ hp.s1 (by decide)) λr5 q5=>
  .r r5 (q5 _ _ rfl)))) (by kernel_rfl)
 have hx:x=_:=hx
 rw [hx] at h;exact h
end Go.WF

namespace Go.WF
open Go Go.Ab Go.Proofs
structure XRX where
 id:TX
 t:Int
 s:SL
 bk:Int
 l:List LK
instance:Inhabited XRX:=⟨⟨[],0,default,0,[]⟩⟩
def XRX.c (x:XRX):List AV:=[.str x.id,.int .i64 x.t]++x.s.c++[.int .i64 x.bk,lkA x.l]
def φXe (x:XRX):AV×List AO:=(.tup [.agg x.c,.int .i64 0],[])
structure XeP (r:RG) (p:EVP) (id:TX) (t:Int) (x:XRX):Prop where
 ei:x.id=id
 et:x.t=t
 es:x.s=(atF r id aI t).1
 eb:x.bk=bkF p.s1 x.s.id
 el:PhP (aD r.ls t) id x.s.id x.l
def rXe (p:EVP) (A:List AV) (_:List AO) (x:XRX):Prop:=∀r id t e,A=[rgA r,e,.str id,.str aI,.int .i64 t]->XeP r p id t x
theorem dA {s:TX} (h:cw s=true):s.length<=400000:=by
 unfold cw at h
 simp only [Bool.and_eq_true,decide_eq_true_eq] at h
 omega
theorem ED {l:List LK} {y z:TX} {n:Int} {ss:List SL} (h:(atG l y z n ss).2=true):atB l y z n (atG l y z n ss).1=true:=by
 unfold atG at h ⊢
 split at h
 ·rename_i s hs;exact List.find?_some hs
 ·cases h
theorem Jx {a b c d e:Bool} (h:(bif bif bif a then b else false then c else false then d else false)=true):a=true/\b=true/\c=true/\d=true:=⟨n3 (n3 (n3 h)),vK (n3 (n3 h)),vK (n3 h),vK h⟩
section
variable {r:RG} {p:EVP} {id a:TX} {t:Int} {r5:ATX} {r7 r8:List LK} {r9:Int} {os:List AO}
abbrev AtQ (r:RG) (id:TX) (t:Int) (x:ATX):Prop:=rAt [rgA r,.str id,.str aI,.int .i64 t] [] x
theorem ER {x:Bool} {A:List AV} {P:Prop} (q:rE true A os x) (h:(!x)=true):P:=by
 have q:x=true:=q
 rw [q] at h;cases h
theorem Fb (ha:(atF r id aI t).2=true) (q:AtQ r id t r5):(bif !r5.2 then true else !true)=false:=by rw [q _ _ _ _ rfl,ha];rfl
theorem JA (ha:(atF r id aI t).2=true) (q:AtQ r id t r5):aj (ofF (aD r.ls t)) id=aj (ofF (aD r.ls t)) r5.1.id:=by
 rw [q _ _ _ _ rfl]
 have:=(Jx (e:=true) (ED (by exact ha:(atG (aD r.ls t) aI (aj (ofF (aD r.ls t)) id) t r.ss).2=true))).2.2.2
 exact (beq_iff_eq.1 this).symm
theorem EE (h:(atF r id aI t).2=true):(atF r id aI t).1∈r.ss:=at_mem h
theorem CE (hv:VR r) {s:SL} (h:s∈r.ss):SV r.now s:=by
 obtain ⟨i,hi,rfl⟩:=List.getElem_of_mem h
 have:=hv.sv hi
 rw [List.getD_eq_getElem?_getD,List.getElem?_eq_getElem hi] at this
 exact this
theorem JC (hv:VR r) (ha:(atF r id aI t).2=true) (q:AtQ r id t r5):r5.1.id.length<=400000:=by
 rw [q _ _ _ _ rfl];exact dA (CE hv (EE ha)).id
theorem JB (hv:VR r) (ha:(atF r id aI t).2=true) (q:AtQ r id t r5) (q7:rUt [lkA r.ls,.int .i64 t] os r7):bz wd bw φPh rPh [lkA r7,.str id,.str r5.1.id] []:=by
 rw [q7 _ _ rfl]
 exact GH _ _ _ (Nat.le_trans (fS _ _) (by have:=hv.nls;omega)) (JA ha q)
theorem Jz {o1 o2 o3:List AO} {A:List AV} {e:AV} (hA:A=[rgA r,e,.str id,.str aI,.int .i64 t]) (q:AtQ r id t r5) (q7:rUt [lkA r.ls,.int .i64 t] o1 r7) (q8:rPh [lkA r7,.str id,.str r5.1.id] o2 r8) (q9:rBk [.str p.s1,.str r5.1.id] o3 r9):rXe p A os ⟨id,t,r5.1,r9,r8⟩:=by
 subst hA
 intro r' id' t' e' h
 simp only [List.cons.injEq,AV.str.injEq,AV.int.injEq,true_and,and_true] at h
 obtain ⟨h1,_,h2,h3⟩:=h
 have h1:=jh h1
 subst h1 h2 h3
 refine ⟨rfl,rfl,by rw [q _ _ _ _ rfl],q9 _ _ rfl,?_⟩
 have:=q8 _ _ _ rfl
 rw [q7 _ _ rfl] at this;exact this
end
theorem Cs (r:RG) (p:EVP) (id:TX) (t:Int) (hv:VR r) (hp:p.Ok) (ha:(atF r id aI t).2=true):bz wd cD φXe (rXe p) [rgA r,ik p,.str id,.str aI,.int .i64 t] []:=
 bn (V:=V0) (T:=[eVa,eAt,eUt,ePh,BV]) (d:=3) 0 ao ak (.call (rH hv) λr1 q1=>
  .no (c:=!r1) (a:=some ((.tup [.agg [.str [],.int .i64 0,.str [],.str [],.str [],.int .i64 0,.int .i64 0,.int .i64 0,.int .i64 0,.int .i64 0,.sl .fit 0 0 λx=>[] ],.int .i64 25],[]))) (E1 q1) (
  .call (rH hv) λr3 q3=>
  .no (c:=!r1) (a:=some ((.tup [.agg [.str [],.int .i64 0,.str [],.str [],.str [],.int .i64 0,.int .i64 0,.int .i64 0,.int .i64 0,.int .i64 0,.sl .fit 0 0 λx=>[] ],.int .i64 11],[]))) (E1 q1) (
  .call (zN r id aI t (by have:=hv.nls;omega) (by have:=hv.nss;omega)) λr5 q5=>
  .no (c:=bif !r5.2 then true else !true) (a:=some ((.tup [.agg [.str [],.int .i64 0,.str [],.str [],.str [],.int .i64 0,.int .i64 0,.int .i64 0,.int .i64 0,.int .i64 0,.sl .fit 0 0 λx=>[] ],.int .i64 11],[]))) (Fb ha q5) (
  .call (yx r.ls t (by have:=hv.nls;omega)) λr7 q7=>
  .call (JB hv ha q5 q7) λr8 q8=>
  .call (eA p.s1 r5.1.id hp.s1 (JC hv ha q5)) λr9 q9=>
  .r (XRX.mk id t r5.1 r9 r8) (Jz rfl q5 q7 q8 q9))))) (by kernel_rfl)
noncomputable abbrev eXe (p:EVP):Ent:=dK wd cD φXe (rXe p)
structure CkG (p:EVP) (x:XRX):Prop where
 id:cw x.id=true
 si:cw x.s.id=true
 g:SlG p x.s
 fr:x.s.fr<=x.t
 to:(bif x.s.fin !=0 then decide (x.s.to<=x.t) else false)=false
 bk:x.bk=bkF p.s1 x.s.id
 n:x.l.length<=1000000
 ld:kU x.l x.id=some x.s.id
 lt:∀k∈x.l,k.t<=x.t
section
variable {id a:TX} {t m fr to fin bk r r':Int} {p:EVP} {os:List AO} {P:Prop}
theorem lE {x:Bool} (hk:cw a=true) (q:rS cw [.str a] os x) (h:(!x)=true):P:=by rw [q a rfl,hk] at h;cases h
theorem vP (hf:fr<=t) (h:decide (fr > t)=true):P:=by have:=of_decide_eq_true h;omega
theorem Jo {c:Bool} (hf:c=false) (h:c=true):P:=by rw [hf] at h;cases h
theorem Jr (hb:bk=bkF p.s1 a) (q:rBk [.str p.s1,.str a] os r) (h:(bk !=r)=true):P:=by rw [q _ _ rfl,hb] at h;simp at h
theorem Jq {c:Bool} (hc:c=true) (h:c=false):P:=by rw [hc] at h;cases h
theorem Jp {s:TX} (hm:m=pkF (arms p) (bkF s a)) (q:rBk [.str s,.str a] os r) (q2:GA [.sl .fit 3 3 (EL p),.int .i64 r] os r') (h:(m !=r')=true):P:=by rw [q2 _ _ rfl,q _ _ rfl,hm] at h;simp at h
end
theorem It (id a:TX) (t m fr to fin bk:Int) (l:List LK) (p:EVP) (hp:p.Ok) (hid:cw id=true) (hsi:cw a=true) (hfr:fr<=t) (hto:(bif fin !=0 then decide (to<=t) else false)=false) (hbk:bk=bkF p.s1 a) (hn:l.length<=1000000) (hlp:kU l id=some a) (hlt:∀k∈l,k.t<=t) (hc:(bif decide (p.ho<=bkF p.s1 a) then decide (bkF p.s1 a < p.c) else false)=true) (hm:m=pkF (arms p) (bkF p.s3 a)):bz wd dG φIn (rE 0) [.agg [.str id,.int .i64 t,.str a,.str aI,.str lu,.int .i64 m,.int .i64 fr,.int .i64 to,.int .i64 fin,.int .i64 bk,lkA l],ik p] []:=
 have hc:=hbk ▸ hc
 bn (V:=V0) (T:=[jX,BV,Ej,eLd]) (d:=16) 0 ao ak (.call (cS id) λr1 q1=>
  .b (!r1) (λh2=>
   .b (!r1) (λh3=>
    .r 6 (lE hid q1 h2)) λh3=>
   .b (decide (fr > t)) (λh4=>
    .b (decide (fr > t)) (λh5=>
     .r 26 (lE hid q1 h2)) λh5=>
    .call (qP l id a t hn hlp hlt) λr6 q6=>
    .b (!r6) (λh7=>
     .r 15 (lE hid q1 h2)) λh7=>
    .call (eA p.s1 a hp.s1 (dA hsi)) λr8 q8=>
    .b (bk !=r8) (λh9=>
     .r 3 (lE hid q1 h2)) λh9=>
    .b (bif decide (EVP.ho p<=bk) then decide (bk < EVP.c p) else false) (λh10=>
     .call (eA p.s3 a hp.s3 (dA hsi)) λr11 q11=>
     .call (fY p r11) λr12 q12=>
     .b (m !=r12) (λh13=>
      .r 23 (lE hid q1 h2)) λh13=>
     .r 0 (lE hid q1 h2)) λh10=>
    .r 25 (lE hid q1 h2)) λh4=>
   .b (bif fin !=0 then decide (to<=t) else false) (λh14=>
    .r 26 (lE hid q1 h2)) λh14=>
   .call (qP l id a t hn hlp hlt) λr15 q15=>
   .b (!r15) (λh16=>
    .r 15 (lE hid q1 h2)) λh16=>
   .call (eA p.s1 a hp.s1 (dA hsi)) λr17 q17=>
   .b (bk !=r17) (λh18=>
    .r 3 (lE hid q1 h2)) λh18=>
   .b (bif decide (EVP.ho p<=bk) then decide (bk < EVP.c p) else false) (λh19=>
    .call (eA p.s3 a hp.s3 (dA hsi)) λr20 q20=>
    .call (fY p r20) λr21 q21=>
    .b (m !=r21) (λh22=>
     .r 23 (lE hid q1 h2)) λh22=>
    .r 0 (lE hid q1 h2)) λh19=>
   .r 25 (lE hid q1 h2)) λh2=>
  .call (cS a) λr23 q23=>
  .b (!r23) (λh24=>
   .r 6 (lE hsi q23 h24)) λh24=>
  .b (decide (fr > t)) (λh25=>
   .b (decide (fr > t)) (λh26=>
    .r 26 (vP hfr h25)) λh26=>
   .call (qP l id a t hn hlp hlt) λr27 q27=>
   .b (!r27) (λh28=>
    .r 15 (vP hfr h25)) λh28=>
   .call (eA p.s1 a hp.s1 (dA hsi)) λr29 q29=>
   .b (bk !=r29) (λh30=>
    .r 3 (vP hfr h25)) λh30=>
   .b (bif decide (EVP.ho p<=bk) then decide (bk < EVP.c p) else false) (λh31=>
    .call (eA p.s3 a hp.s3 (dA hsi)) λr32 q32=>
    .call (fY p r32) λr33 q33=>
    .b (m !=r33) (λh34=>
     .r 23 (vP hfr h25)) λh34=>
    .r 0 (vP hfr h25)) λh31=>
   .r 25 (vP hfr h25)) λh25=>
  .b (bif fin !=0 then decide (to<=t) else false) (λh35=>
   .r 26 (Jo hto h35)) λh35=>
  .call (qP l id a t hn hlp hlt) λr36 q36=>
  .b (!r36) (λh37=>
   .r 15 (ER q36 h37)) λh37=>
  .call (eA p.s1 a hp.s1 (dA hsi)) λr38 q38=>
  .b (bk !=r38) (λh39=>
   .r 3 (Jr hbk q38 h39)) λh39=>
  .b (bif decide (EVP.ho p<=bk) then decide (bk < EVP.c p) else false) (λh40=>
   .call (eA p.s3 a hp.s3 (dA hsi)) λr41 q41=>
   .call (fY p r41) λr42 q42=>
   .b (m !=r42) (λh43=>
    .r 23 (Jp hm q41 q42 h43)) λh43=>
   .r 0 rfl) λh40=>
  .r 25 (Jq hc h40)) (by kernel_rfl)
theorem Iq (id a:TX) (t m fr to fin bk:Int) (l:List LK) (p:EVP) (hp:p.Ok) (hid:cw id=true) (hsi:cw a=true) (hfr:fr<=t) (hto:(bif fin !=0 then decide (to<=t) else false)=false) (hbk:bk=bkF p.s1 a) (hn:l.length<=1000000) (hlp:kU l id=some a) (hlt:∀k∈l,k.t<=t) (hc:(bif decide (p.c<=bkF p.s1 a) then decide (bkF p.s1 a < 10000) else false)=true) (hm:m=pkF (arms p) (bkF p.s5 a)):bz wd dG φIn (rE 0) [.agg [.str id,.int .i64 t,.str a,.str aI,.str gy,.int .i64 m,.int .i64 fr,.int .i64 to,.int .i64 fin,.int .i64 bk,lkA l],ik p] []:=
 have hc:=hbk ▸ hc
 bn (V:=V0) (T:=[jX,BV,Ej,eLd]) (d:=16) 0 ao ak (.call (cS id) λr1 q1=>
  .b (!r1) (λh2=>
   .b (!r1) (λh3=>
    .r 6 (lE hid q1 h2)) λh3=>
   .b (decide (fr > t)) (λh4=>
    .b (decide (fr > t)) (λh5=>
     .r 26 (lE hid q1 h2)) λh5=>
    .call (qP l id a t hn hlp hlt) λr6 q6=>
    .b (!r6) (λh7=>
     .r 15 (lE hid q1 h2)) λh7=>
    .call (eA p.s1 a hp.s1 (dA hsi)) λr8 q8=>
    .b (bk !=r8) (λh9=>
     .r 3 (lE hid q1 h2)) λh9=>
    .b (bif decide (EVP.c p<=bk) then decide (bk < 10000) else false) (λh10=>
     .call (eA p.s5 a hp.s5 (dA hsi)) λr11 q11=>
     .call (fY p r11) λr12 q12=>
     .b (m !=r12) (λh13=>
      .r 23 (lE hid q1 h2)) λh13=>
     .r 0 (lE hid q1 h2)) λh10=>
    .r 25 (lE hid q1 h2)) λh4=>
   .b (bif fin !=0 then decide (to<=t) else false) (λh14=>
    .r 26 (lE hid q1 h2)) λh14=>
   .call (qP l id a t hn hlp hlt) λr15 q15=>
   .b (!r15) (λh16=>
    .r 15 (lE hid q1 h2)) λh16=>
   .call (eA p.s1 a hp.s1 (dA hsi)) λr17 q17=>
   .b (bk !=r17) (λh18=>
    .r 3 (lE hid q1 h2)) λh18=>
   .b (bif decide (EVP.c p<=bk) then decide (bk < 10000) else false) (λh19=>
    .call (eA p.s5 a hp.s5 (dA hsi)) λr20 q20=>
    .call (fY p r20) λr21 q21=>
    .b (m !=r21) (λh22=>
     .r 23 (lE hid q1 h2)) λh22=>
    .r 0 (lE hid q1 h2)) λh19=>
   .r 25 (lE hid q1 h2)) λh2=>
  .call (cS a) λr23 q23=>
  .b (!r23) (λh24=>
   .r 6 (lE hsi q23 h24)) λh24=>
  .b (decide (fr > t)) (λh25=>
   .b (decide (fr > t)) (λh26=>
    .r 26 (vP hfr h25)) λh26=>
   .call (qP l id a t hn hlp hlt) λr27 q27=>
   .b (!r27) (λh28=>
    .r 15 (vP hfr h25)) λh28=>
   .call (eA p.s1 a hp.s1 (dA hsi)) λr29 q29=>
   .b (bk !=r29) (λh30=>
    .r 3 (vP hfr h25)) λh30=>
   .b (bif decide (EVP.c p<=bk) then decide (bk < 10000) else false) (λh31=>
    .call (eA p.s5 a hp.s5 (dA hsi)) λr32 q32=>
    .call (fY p r32) λr33 q33=>
    .b (m !=r33) (λh34=>
     .r 23 (vP hfr h25)) λh34=>
    .r 0 (vP hfr h25)) λh31=>
   .r 25 (vP hfr h25)) λh25=>
  .b (bif fin !=0 then decide (to<=t) else false) (λh35=>
   .r 26 (Jo hto h35)) λh35=>
  .call (qP l id a t hn hlp hlt) λr36 q36=>
  .b (!r36) (λh37=>
   .r 15 (ER q36 h37)) λh37=>
  .call (eA p.s1 a hp.s1 (dA hsi)) λr38 q38=>
  .b (bk !=r38) (λh39=>
   .r 3 (Jr hbk q38 h39)) λh39=>
  .b (bif decide (EVP.c p<=bk) then decide (bk < 10000) else false) (λh40=>
   .call (eA p.s5 a hp.s5 (dA hsi)) λr41 q41=>
   .call (fY p r41) λr42 q42=>
   .b (m !=r42) (λh43=>
    .r 23 (Jp hm q41 q42 h43)) λh43=>
   .r 0 rfl) λh40=>
  .r 25 (Jq hc h40)) (by kernel_rfl)
theorem Ir (p:EVP) (x:XRX) (hp:p.Ok) (h:CkG p x):bz wd dG φIn (rE 0) [.agg x.c,ik p] []:=by
 obtain ⟨id,t,⟨a,ly,ex,m,fr,to,fin⟩,bk,l⟩:=x
 obtain ⟨h1,h2,⟨h3,h4⟩,h5,h6,h7,h8,h9,h10⟩:=h
 have h3:ly=aI:=h3
 subst h3
 rcases h4 with ⟨e,h11,h12⟩ | ⟨e,h11,h12⟩
 ·have e:ex=lu:=e
  subst e
  exact It id a t m fr to fin bk l p hp h1 h2 h5 h6 h7 h8 h9 h10 h11 h12
 ·have e:ex=gy:=e
  subst e
  exact Iq id a t m fr to fin bk l p hp h1 h2 h5 h6 h7 h8 h9 h10 h11 h12
noncomputable abbrev eCg:Ent:=dK wd dG φIn (rE 0)
end Go.WF

namespace Go.WF
open Go Go.Ab Go.Proofs
theorem xC {f:FR} {D:List TX} (h:Fo f D) {x y:TX} (e:aj f x=aj f y) (a b:TX):aj (cB f a b) x=aj (cB f a b) y:=by
 by_cases hab:aj f a=aj f b
 ·rw [pq hab];exact e
 ·rw [gQ h hab,gQ h hab,e]
theorem xD {f:FR} {D:List TX} (h:Fo f D) (a b:TX):aj (cB f a b) a=aj (cB f a b) b:=by
 by_cases e:aj f a=aj f b
 ·rw [pq e];exact e
 ·rw [zT h e,gQ h e]
  cases hl:aZ (aj f a) (aj f b) with
  | true=>
   have e1:tmax (aj f a) (aj f b)=aj f b:=by unfold tmax;rw [hl];rfl
   rw [e1,if_pos rfl]
  | false=>
   have e1:tmax (aj f a) (aj f b)=aj f a:=by unfold tmax;rw [hl];rfl
   have e2:tmin (aj f a) (aj f b)=aj f b:=by unfold tmin;rw [hl,beq_eq_false_iff_ne.2 e];rfl
   rw [e1,e2,if_neg λh=>e h.symm]
theorem qY {x y:TX}:∀ (l:List LK) (f:FR) (D:List TX),Fo f D->aj f x=aj f y->aj (l.foldl (λf k=>cB f k.a k.b) f) x=aj (l.foldl (λf k=>cB f k.a k.b) f) y
 | [],_,_,_,e=>e
 | k::l,f,D,h,e=>by
  obtain ⟨D',h'⟩:=pE h k.a k.b
  exact qY l (cB f k.a k.b) D' h' (xC h e k.a k.b)
theorem uv {k:LK}:∀ (l:List LK) (f:FR) (D:List TX),Fo f D->k∈l->aj (l.foldl (λf k=>cB f k.a k.b) f) k.a=aj (l.foldl (λf k=>cB f k.a k.b) f) k.b
 | [],_,_,_,hk=>absurd hk List.not_mem_nil
 | z::l,f,D,h,hk=>by
  obtain ⟨D',h'⟩:=pE h z.a z.b
  rcases List.mem_cons.1 hk with e | hk
  ·subst e;exact qY l _ D' h' (xD h _ _)
  ·exact uv l (cB f z.a z.b) D' h' hk
theorem yK {l l':List LK} (hs:∀k∈l',k∈l) {a b:TX} (e:aj (ofF l') a=aj (ofF l') b):aj (ofF l) a=aj (ofF l) b:=by
 have h:=tV (λx=>aj (ofF l) x=aj (ofF l) b) l' λk hk=>by
  have:aj (ofF l) k.a=aj (ofF l) k.b:=uv l _ [] xM (hs k hk)
  show aj (ofF l) k.a=_↔aj (ofF l) k.b=_
  rw [this]
 exact (h a).2 (by rw [e];exact (h b).1 rfl)
theorem lK {l:List LK} {t:Int} {a b:TX} (e:aj (ofF (aD l t)) a=aj (ofF (aD l t)) b):aj (ofF l) a=aj (ofF l) b:=yK (λk hk=>(List.mem_filter.1 hk).1) e
structure XsA (r:RG) (e:EV) (s:SL):Prop where
 k:cw e.id=true
 m:s∈r.ss
 l:s.layer=aI
 fr:s.fr<=e.time
 to:(bif s.fin !=0 then decide (s.to<=e.time) else false)=false
 rt:aj (ofF (aD r.ls e.time)) s.id=aj (ofF (aD r.ls e.time)) e.id
 x:s.exp=e.name
 a:s.arm=e.arm
theorem rF {r:RG} {e:EV} (h:vQ r e):XsA r e (atF r e.id aI e.time).1:=by
 obtain ⟨h1,h2,h3,h4⟩:=h
 obtain ⟨a1,a2,a3,a4⟩:=Jx (e:=true) (ED (by exact h2:(atG (aD r.ls e.time) aI (aj (ofF (aD r.ls e.time)) e.id) e.time r.ss).2=true))
 refine ⟨h1,EE h2,beq_iff_eq.1 a1,of_decide_eq_true a2,?_,beq_iff_eq.1 a4,h3,h4⟩
 have a3:(bif (atF r e.id aI e.time).1.fin==0 then true else decide ((atF r e.id aI e.time).1.to > e.time))=true:=a3
 generalize (atF r e.id aI e.time).1=s at a3
 cases hf:s.fin==0 with
 | true=>rw [show (s.fin !=0)=false from by unfold bne;rw [hf];rfl];rfl
 | false=>
  rw [hf,cond_false] at a3
  have:=of_decide_eq_true a3
  rw [show (s.fin !=0)=true from by unfold bne;rw [hf];rfl,cond_true]
  exact decide_eq_false (by omega)
section
variable {p:EVP} {r:RG} {ev:List EV} {n m:Int}
theorem CB (hv:VR r) (hx:XvI p r ev n) (hl:Lin r.ls (bx ev) m) (hno:∀s∈r.ss,s.fin=0) {e e':EV} (he:e∈ev) (he':e'∈ev) (k:e.kind=1) (k':e'.kind=1) {t:Int} (hr:aj (ofF (aD (bx ev) t)) e.id=aj (ofF (aD (bx ev) t)) e'.id):e.arm=e'.arm:=by
 have s1:=rF (hx.xe e he k).1
 have s2:=rF (hx.xe e' he' k').1
 generalize (atF r e.id aI e.time).1=u at s1
 generalize (atF r e'.id aI e'.time).1=w at s2
 rw [<-hl.eq t] at hr
 have q:aj (ofF r.ls) u.id=aj (ofF r.ls) w.id:=(lK s1.rt).trans ((lK hr).trans (lK s2.rt).symm)
 obtain ⟨i,hi,ei⟩:=List.getElem_of_mem s1.m
 obtain ⟨j,hj,ej⟩:=List.getElem_of_mem s2.m
 have gi:r.ss.getD i default=u:=by rw [List.getD_eq_getElem?_getD,List.getElem?_eq_getElem hi];exact ei
 have gj:r.ss.getD j default=w:=by rw [List.getD_eq_getElem?_getD,List.getElem?_eq_getElem hj];exact ej
 have h1:=hno u s1.m
 have h2:=hno w s2.m
 rcases Nat.lt_trichotomy i j with h | h | h
 ·exact (hv.one j i h hj (by rw [gj];exact h2) (by rw [gi];exact h1) (by rw [gi,gj,s1.l,s2.l]) (by rw [gi,gj,q])).elim
 ·subst h
  rw [<-s1.a,<-s2.a,<-gi,gj]
 ·exact (hv.one i j h hi (by rw [gi];exact h1) (by rw [gj];exact h2) (by rw [gi,gj,s1.l,s2.l]) (by rw [gi,gj,q])).elim
structure WaP (p:EVP) (r:RG) (ex:TX) (s:SMX):Prop where
 ok:(atF r s.x.id aI s.x.tm).2=true
 ex:(atF r s.x.id aI s.x.tm).1.exp=ex
 arm:(atF r s.x.id aI s.x.tm).1.arm=s.x.arm
 ck:∀z,XeP r p s.x.id s.x.tm z->CkG p z
 mx:s.mx=true->∃u∈r.ss,u.fin=2
theorem CC (hv:VR r) (hx:XvI p r ev n) (hl:Lin r.ls (bx ev) m) {ex:TX} {s:SMX} (h:IK ev ex s):WaP p r ex s:=by
 obtain ⟨x,va,lo,be,mx⟩:=s
 obtain ⟨⟨e,he,k,hn,hs⟩,hm⟩:=h
 have hs:x=xpE e:=hs
 subst hs
 have ho:=(hx.xe e he k).1
 have S:=rF ho
 refine ⟨ho.2.1,S.x.trans hn,S.a,λz hz=>?_,λhb=>?_⟩
 ·obtain ⟨e1,e2,e3,e4,e5,e6,e7⟩:=hz
  have e1:z.id=e.id:=e1
  have e2:z.t=e.time:=e2
  have e3:z.s=(atF r e.id aI e.time).1:=e3
  rw [<-e3] at S
  refine ⟨by rw [e1];exact S.k,(CE hv S.m).id,hx.sl _ S.m,by rw [e2];exact S.fr,by rw [e2];exact S.to,e4,?_,by rw [e1];exact e6,λq hq=>?_⟩
  ·have:=fS r.ls e.time
   have:=hv.nls
   have e7:z.l.length<=2*(aD r.ls e.time).length:=e7
   omega
  ·rw [e2]
   have:=e5 q hq
   exact of_decide_eq_true (List.mem_filter.1 this).2
 ·obtain ⟨e',he',k',hn',_,hr,ha⟩:=hm hb
  by_cases hno:∀u∈r.ss,u.fin=0
  ·exact absurd (CB hv hx hl hno he he' k k' hr).symm ha
  ·simp only [Classical.not_forall] at hno
   obtain ⟨u,hu,hf⟩:=hno
   rcases hx.fin u hu with h | h
   ·exact absurd h hf
   ·exact ⟨u,hu,h⟩
end
def mgC (ss:List SL) (v:Nat):Nat:=(ss.take v).countP λs=>s.fin==2
theorem DD (ss:List SL) (v:Nat):mgC ss v<=v:=by
 unfold mgC
 exact Nat.le_trans List.countP_le_length (by rw [List.length_take];exact Nat.min_le_left _ _)
theorem xd {ss:List SL} {v:Nat} (h:v < ss.length):mgC ss (v+1)=mgC ss v+(bif (ss.getD v default).fin==2 then 1 else 0):=by
 unfold mgC
 rw [List.take_add_one,List.getElem?_eq_getElem h,List.countP_append]
 congr 1
 rw [List.getD_eq_getElem?_getD,List.getElem?_eq_getElem h]
 show List.countP _ [ss[v]]=bif (ss[v]).fin==2 then 1 else 0
 cases hf:(ss[v]).fin==2 <;> simp [hf]
theorem A8 {ss:List SL} {u:SL} (h:u∈ss) (hf:u.fin=2):0 < mgC ss ss.length:=by
 unfold mgC
 rw [List.take_length]
 exact List.countP_pos_iff.2 ⟨u,h,by rw [hf];rfl⟩
end Go.WF

namespace Go.WF
open Go Go.Ab Go.Proofs
def rCk (p:EVP) (A:List AV) (_:List AO) (x:Int):Prop:=∀e m b v,A=[.agg (xrL e m b),v]->(b=bkF p.s1 bZ->x=0)/\(b≠bkF p.s1 bZ->x=3)
theorem Cr {e e':TX} {m m' b b':Int} (h:AV.agg (xrL e m b)=.agg (xrL e' m' b')):b=b':=by
 simp only [xrL,AV.agg.injEq,List.cons.injEq,AV.int.injEq,true_and,and_true] at h
 exact h.2.2
section
variable {p:EVP} {e:TX} {m b r r':Int} {v:AV} {os:List AO}
theorem Jk {x:Bool} (q:rS cw [.str bZ] os x):(!x)=false:=by rw [q bZ rfl,po];rfl
theorem yk {x:Bool} {P:Prop} (q:rS cw [.str bZ] os x) (h:(!x)=true):P:=by rw [q bZ rfl,po] at h;cases h
theorem Jm (q:r=bkF p.s1 bZ) (h:(b !=r)=true):rCk p [.agg (xrL e m b),v] os 3:=λe' m' b' v' h'=>by
 injection h' with h' _
 rw [<-Cr h']
 rw [q] at h
 exact ⟨λh2=>by rw [h2] at h;simp at h,λ_=>rfl⟩
theorem Jn (q:r=bkF p.s1 bZ) (h:(b !=r)=false):rCk p [.agg (xrL e m b),v] os 0:=λe' m' b' v' h'=>by
 injection h' with h' _
 rw [<-Cr h']
 rw [q] at h
 exact ⟨λ_=>rfl,λh2=>absurd (by simpa using h) h2⟩
theorem Jl {c:Bool} (hc:b=bkF p.s1 bZ->c=true) (q:r=bkF p.s1 bZ) (h:(b !=r)=false):c=true:=hc (by rw [q] at h;simpa using h)
theorem Jj {k:Int} (hm:m=pkF (arms p) k) (q:r=k) (q2:r'=pkF (arms p) r):(m !=r')=false:=by rw [q2,q,hm];simp
end
theorem Me (p:EVP) (hp:p.Ok) (m b:Int) (hc:b=bkF p.s1 bZ->(bif decide (p.ho<=b) then decide (b < p.c) else false)=true) (hm:m=pkF (arms p) (bkF p.s3 bZ)):bz wd dG φIn (rCk p) [.agg (xrL lu m b),ik p] []:=
 bn (V:=V0) (T:=[jX,BV,Ej]) (d:=16) 0 ao ak (.call (cS bZ) λr1 q1=>
  .b (!r1) (λh2=>
   .b (!r1) (λh3=>
    .r 6 (yk q1 h2)) λh3=>
   .call (eA p.s1 bZ hp.s1 (by decide)) λr4 q4=>
   .b (b !=r4) (λh5=>
    .r 3 (yk q1 h2)) λh5=>
   .b (bif decide (EVP.ho p<=b) then decide (b < EVP.c p) else false) (λh6=>
    .call (eA p.s3 bZ hp.s3 (by decide)) λr7 q7=>
    .call (fY p r7) λr8 q8=>
    .b (m !=r8) (λh9=>
     .r 23 (yk q1 h2)) λh9=>
    .r 0 (yk q1 h2)) λh6=>
   .r 25 (yk q1 h2)) λh2=>
  .call (cS bZ) λr10 q10=>
  .no (c:=!r1) (a:=some ((.int .i64 6,[]))) (Jk q1) (
  .call (eA p.s1 bZ hp.s1 (by decide)) λr12 q12=>
  .b (b !=r12) (λh13=>
   .r 3 (Jm (q12 _ _ rfl) h13)) λh13=>
  .yea (c:=bif decide (EVP.ho p<=b) then decide (b < EVP.c p) else false) (b:=some ((.int .i64 25,[]))) (Jl hc (q12 _ _ rfl) h13) (
  .call (eA p.s3 bZ hp.s3 (by decide)) λr15 q15=>
  .call (fY p r15) λr16 q16=>
  .no (c:=m !=r16) (a:=some ((.int .i64 23,[]))) (Jj hm (q15 _ _ rfl) (q16 _ _ rfl)) (
  .r 0 (Jn (q12 _ _ rfl) h13))))) (by kernel_rfl)
theorem Md (p:EVP) (hp:p.Ok) (m b:Int) (hc:b=bkF p.s1 bZ->(bif decide (p.c<=b) then decide (b < 10000) else false)=true) (hm:m=pkF (arms p) (bkF p.s5 bZ)):bz wd dG φIn (rCk p) [.agg (xrL gy m b),ik p] []:=
 bn (V:=V0) (T:=[jX,BV,Ej]) (d:=16) 0 ao ak (.call (cS bZ) λr1 q1=>
  .b (!r1) (λh2=>
   .b (!r1) (λh3=>
    .r 6 (yk q1 h2)) λh3=>
   .call (eA p.s1 bZ hp.s1 (by decide)) λr4 q4=>
   .b (b !=r4) (λh5=>
    .r 3 (yk q1 h2)) λh5=>
   .b (bif decide (EVP.c p<=b) then decide (b < 10000) else false) (λh6=>
    .call (eA p.s5 bZ hp.s5 (by decide)) λr7 q7=>
    .call (fY p r7) λr8 q8=>
    .b (m !=r8) (λh9=>
     .r 23 (yk q1 h2)) λh9=>
    .r 0 (yk q1 h2)) λh6=>
   .r 25 (yk q1 h2)) λh2=>
  .call (cS bZ) λr10 q10=>
  .no (c:=!r1) (a:=some ((.int .i64 6,[]))) (Jk q1) (
  .call (eA p.s1 bZ hp.s1 (by decide)) λr12 q12=>
  .b (b !=r12) (λh13=>
   .r 3 (Jm (q12 _ _ rfl) h13)) λh13=>
  .yea (c:=bif decide (EVP.c p<=b) then decide (b < 10000) else false) (b:=some ((.int .i64 25,[]))) (Jl hc (q12 _ _ rfl) h13) (
  .call (eA p.s5 bZ hp.s5 (by decide)) λr15 q15=>
  .call (fY p r15) λr16 q16=>
  .no (c:=m !=r16) (a:=some ((.int .i64 23,[]))) (Jj hm (q15 _ _ rfl) (q16 _ _ rfl)) (
  .r 0 (Jn (q12 _ _ rfl) h13))))) (by kernel_rfl)
noncomputable abbrev eCk (p:EVP):Ent:=dK wd dG φIn (rCk p)
end Go.WF

namespace Go.WF
open Go Go.Ab Go.Proofs
def pX:EVP:=enP 0 0 9998 4000 3000
theorem yN:pX.Ok:=Ah 0 0 9998 4000 3000
theorem Dq:pX.ho=0:=by kernel_rfl
theorem IY:pX.c=9999:=by kernel_rfl
theorem A2:arms pX=[⟨0,4001,1⟩,⟨4001,7002,2⟩,⟨7002,10000,3⟩]:=by kernel_rfl
theorem Dp {k:Int} (h:0<=k/\k < 10000):1<=pkF (arms pX) k/\pkF (arms pX) k<=8:=by
 have hp:∀ {a b v:Int} {l:List SPN},pkF (⟨a,b,v⟩::l) k=if a<=k/\k < b then v else pkF l k:=fun {a b v l}=>by
  unfold pkF
  by_cases h:a<=k/\k < b
  ·rw [if_pos h,List.find?_cons_of_pos (by unfold pkB;simp [h.1,h.2])]
  ·rw [if_neg h,List.find?_cons_of_neg (by
    unfold pkB
    by_cases h1:a<=k
    ·have h2:¬ k < b:=λh2=>h ⟨h1,h2⟩
     simp [h1,h2]
    ·simp [h1])]
 rw [A2,hp,hp,hp]
 split
 ·decide
 ·split
  ·decide
  ·split
   ·decide
   ·omega
structure ExG (g:AG):Prop where
 held:g.held=false
 key:cw g.exp=true
 arm:1<=g.arm/\g.arm<=8
 chk:∀b,bz wd dG φIn (rCk pX) [.agg (xrL g.exp g.arm b),ik pX] []
theorem xz:cw gy=true:=by kernel_rfl
theorem Ed {g:AG} (h:LyR pX bZ [] g):ExG g:=by
 obtain ⟨ru,_,h⟩:=h
 obtain ⟨b0,b1⟩:=uK pX.s1 bZ
 have hc:=IY
 have h3:=Dp (uK pX.s3 bZ)
 have h5:=Dp (uK pX.s5 bZ)
 have e:(foF [] aI).2=false:=rfl
 unfold lyG at h
 rw [e,Dq,IY,decide_eq_false (show ¬ bkF pX.s1 bZ < 0 by omega),decide_eq_true b0,decide_eq_true b1] at h
 simp only [cond_false,cond_true] at h
 by_cases hb:bkF pX.s1 bZ < 9999
 ·rw [decide_eq_true hb] at h
  simp only [cond_true] at h
  rw [h]
  exact ⟨rfl,yY,h3,λb=>Me pX yN _ b (λh2=>by rw [h2,Dq,hc,decide_eq_true b0,decide_eq_true hb];rfl) rfl⟩
 ·rw [decide_eq_false hb,decide_eq_true (show 9999<=bkF pX.s1 bZ by omega)] at h
  simp only [cond_true,cond_false] at h
  rw [h]
  exact ⟨rfl,xz,h5,λb=>Md pX yN _ b (λh2=>by rw [h2,hc,decide_eq_true b1,decide_eq_true (show 9999<=bkF pX.s1 bZ by omega)];rfl) rfl⟩
theorem KU:∃g,ExG g/\Ct wd.P wd.G dH [ik pX,usA bZ,.sl .fit 0 0 λx=>[],.str aI] [] (φLy g):=by
 obtain ⟨g,hg,hc⟩:=z6 pX bZ [] yN (by decide) (by decide)
 refine ⟨g,Ed hg,hc.args rfl rfl λi u u' hu hu' c v hr=>?_⟩
 match i,hu,hu' with
 | 0,hu,hu'=>injection hu with hu;injection hu' with hu';subst hu hu';exact hr
 | 1,hu,hu'=>injection hu with hu;injection hu' with hu';subst hu hu';exact hr
 | 2,hu,hu'=>injection hu with hu;injection hu' with hu';subst hu hu';exact cz.2 c v hr
 | 3,hu,hu'=>injection hu with hu;injection hu' with hu';subst hu hu';exact hr
theorem Mj {g:AG} (h:ExG g):Ct wd.P wd.G ca [.agg [.int .i64 0,.sl .fit 0 0 λx=>[],.sl .fit 0 0 λx=>[] ],.str bZ,.agg [.str aI,.str g.exp,.int .i64 g.bk,.int .i64 g.arm,.bool g.held],.int .i64 0,.int .i64 1] [] (φAs (exR g.exp g.arm,exS g.exp g.arm,0)):=by
 obtain ⟨x,hx,hc⟩:=EK rg0 bZ aI g.exp g.bk g.arm g.held 1 Fz ⟨by decide,by decide⟩ (by decide)
 have hx:=hx rg0 bZ aI g.exp g.bk g.arm g.held 1 rfl
 have e:x=(exR g.exp g.arm,exS g.exp g.arm,0):=by
  rcases hx with ⟨_,e⟩ | ⟨_,e⟩ | ⟨_,_,i,e,_⟩ | ⟨e0,_,_,_,_,_,_,e1,e2⟩
  ·rw [po,uk] at e;cases e
  ·rw [h.held,h.key,decide_eq_false (show ¬ g.arm < 1 by have:=h.arm;omega),decide_eq_false (show ¬ g.arm > 8 by have:=h.arm;omega)] at e;cases e
  ·exact absurd e (Nat.not_lt_zero _)
  ·obtain ⟨x1,x2,x3⟩:=x
   have e0:x3=0:=e0
   have e1:x1=_:=e1
   have e2:x2=_:=e2
   rw [e0,e1,e2];rfl
 rw [e] at hc
 refine hc.args rfl rfl λi u u' hu hu' c v hr=>?_
 match i,hu,hu' with
 | 0,hu,hu'=>
  injection hu with hu;injection hu' with hu'
  subst hu hu'
  exact iP (.cons (.same rfl) (.cons cz (.cons cz .nil))) hr
 | 1,hu,hu'=>injection hu with hu;injection hu' with hu';subst hu hu';exact hr
 | 2,hu,hu'=>injection hu with hu;injection hu' with hu';subst hu hu';exact hr
 | 3,hu,hu'=>injection hu with hu;injection hu' with hu';subst hu hu';exact hr
 | 4,hu,hu'=>injection hu with hu;injection hu' with hu';subst hu hu';exact hr
theorem H2:Ct wd.P wd.G cf [.int .u8 0,.int .u8 0,.int .u16 9998,.int .u16 4000,.int .u16 3000] [] (φEn pX):=by
 obtain ⟨x,hx,hc⟩:=Eh 0 0 9998 4000 3000 (by decide) (by decide) (by decide) (by decide)
 have hx:x=pX:=hx _ _ _ _ _ rfl
 rw [hx] at hc;exact hc
theorem J0:Ct wd.P wd.G cL [.str bZ] [] (φUs bZ):=by
 obtain ⟨x,hx,hc⟩:=CM bZ
 have hx:x=bZ:=hx _ rfl
 rw [hx] at hc;exact hc
theorem LX:Int.tmod (IntKind.wrap .i64 (bkF pX.s1 bZ+1)) 10000≠bkF pX.s1 bZ:=by
 obtain ⟨h0,h1⟩:=uK pX.s1 bZ
 rw [wrap_i64 (by omega) (by omega),Int.tmod_eq_emod_of_nonneg (by omega)]
 omega
theorem Ee {g:AG} (hg:ExG g) {x y:Int} {A:List AV} {os:List AO} (h1:(bkF pX.s1 bZ=bkF pX.s1 bZ->x=0)/\(bkF pX.s1 bZ≠bkF pX.s1 bZ->x=3)) (h2:(Int.tmod (IntKind.wrap .i64 (bkF pX.s1 bZ+1)) 10000=bkF pX.s1 bZ->y=0)/\(Int.tmod (IntKind.wrap .i64 (bkF pX.s1 bZ+1)) 10000≠bkF pX.s1 bZ->y=3)):rE true A os (bif bif bif bif bif bif bif (0:Int)==0 then (0:Int)==0 else false then (0:Int)==0 else false then decide (AG.arm g > 0) else false then AG.arm g==AG.arm g else false then bZ==[97,110,110] else false then x==0 else false then y==3 else false):=by
 rw [h1.1 rfl,h2.2 LX,decide_eq_true (show g.arm > 0 by have:=hg.arm;omega)]
 show _=true
 simp only [beq_self_eq_true,cond_true]
theorem Ef:bz wd eI φBo (rE true) [] []:=by
 obtain ⟨g,hg,hl⟩:=KU
 haveI:=oU (T:=[eCk pX]) (Fa pX yN hg.key hg.arm)
 haveI:=oU (T:=[lD cD [rgA (exR g.exp g.arm),ik pX,.str bZ,.str aI,.int .i64 1] [] (bkF pX.s1 bZ) (φXp g.exp g.arm),eCk pX]) (Mj hg)
 haveI:=oU (T:=[lD ca [.agg [.int .i64 0,.sl .fit 0 0 λx=>[],.sl .fit 0 0 λx=>[] ],.str bZ,.agg [.str aI,.str g.exp,.int .i64 g.bk,.int .i64 g.arm,.bool g.held],.int .i64 0,.int .i64 1] [] (exR g.exp g.arm,exS g.exp g.arm,0) φAs,lD cD [rgA (exR g.exp g.arm),ik pX,.str bZ,.str aI,.int .i64 1] [] (bkF pX.s1 bZ) (φXp g.exp g.arm),eCk pX]) hl
 haveI:=oU (T:=[lD dH [ik pX,usA bZ,.sl .fit 0 0 λx=>[],.str aI] [] g φLy,lD ca [.agg [.int .i64 0,.sl .fit 0 0 λx=>[],.sl .fit 0 0 λx=>[] ],.str bZ,.agg [.str aI,.str g.exp,.int .i64 g.bk,.int .i64 g.arm,.bool g.held],.int .i64 0,.int .i64 1] [] (exR g.exp g.arm,exS g.exp g.arm,0) φAs,lD cD [rgA (exR g.exp g.arm),ik pX,.str bZ,.str aI,.int .i64 1] [] (bkF pX.s1 bZ) (φXp g.exp g.arm),eCk pX]) J0
 haveI:=oU (T:=[lD cL [.str bZ] [] bZ φUs,lD dH [ik pX,usA bZ,.sl .fit 0 0 λx=>[],.str aI] [] g φLy,lD ca [.agg [.int .i64 0,.sl .fit 0 0 λx=>[],.sl .fit 0 0 λx=>[] ],.str bZ,.agg [.str aI,.str g.exp,.int .i64 g.bk,.int .i64 g.arm,.bool g.held],.int .i64 0,.int .i64 1] [] (exR g.exp g.arm,exS g.exp g.arm,0) φAs,lD cD [rgA (exR g.exp g.arm),ik pX,.str bZ,.str aI,.int .i64 1] [] (bkF pX.s1 bZ) (φXp g.exp g.arm),eCk pX]) H2
 exact bn (V:=V0) (T:=[lD cf [.int .u8 0,.int .u8 0,.int .u16 9998,.int .u16 4000,.int .u16 3000] [] pX φEn,lD cL [.str bZ] [] bZ φUs,lD dH [ik pX,usA bZ,.sl .fit 0 0 λx=>[],.str aI] [] g φLy,lD ca [.agg [.int .i64 0,.sl .fit 0 0 λx=>[],.sl .fit 0 0 λx=>[] ],.str bZ,.agg [.str aI,.str g.exp,.int .i64 g.bk,.int .i64 g.arm,.bool g.held],.int .i64 0,.int .i64 1] [] (exR g.exp g.arm,exS g.exp g.arm,0) φAs,lD cD [rgA (exR g.exp g.arm),ik pX,.str bZ,.str aI,.int .i64 1] [] (bkF pX.s1 bZ) (φXp g.exp g.arm),eCk pX]) (d:=1) 0 ao ak (.ja (mM [.int .u8 0,.int .u8 0,.int .u16 9998,.int .u16 4000,.int .u16 3000] []) λ_ _=>
  .ja (mM [.str bZ] []) λ_ _=>
  .ja (mM [ik pX,usA bZ,.sl .fit 0 0 λx=>[],.str aI] []) λ_ _=>
  .ja (mM [.agg [.int .i64 0,.sl .fit 0 0 λx=>[],.sl .fit 0 0 λx=>[] ],.str bZ,.agg [.str aI,.str g.exp,.int .i64 g.bk,.int .i64 g.arm,.bool g.held],.int .i64 0,.int .i64 1] []) λ_ _=>
  .ja (mM [rgA (exR g.exp g.arm),ik pX,.str bZ,.str aI,.int .i64 1] []) λ_ _=>
  .call (hg.chk _) λr1 q1=>
  .call (hg.chk _) λr2 q2=>
  .r (bif bif bif bif bif bif bif 0==0 then 0==0 else false then 0==0 else false then decide (AG.arm g > 0) else false then AG.arm g==AG.arm g else false then bZ==[97,110,110] else false then r1==0 else false then r2==3 else false) (Ee hg (q1 _ _ _ _ rfl) (q2 _ _ _ _ rfl))) (by kernel_rfl)
noncomputable abbrev eEx:Ent:=dK wd eI φBo (rE true)
end Go.WF

namespace Go.WF
open Go Go.Ab Go.Proofs
noncomputable def VWa:Env:={Vb [121,122,123,124] [] [] with trim:=λf p=>cond (Nat.beq f aF) (cond (p==[1,1,1,1,1,1,0,1]) (some (hn [5,6,7,8,9] [5,6] [] [])) (V0.trim f p)) (V0.trim f p)}
noncomputable instance envWa:EnvOk VWa wd:=⟨rfl,rfl,eu,eH⟩
structure WX where
 r:RG
 ev:List EV
 m:Nat
 ex:TX
 s:List SMX
 i:Nat
 v:Nat
instance:Inhabited WX:=⟨⟨rg0,[],0,[],[],0,0⟩⟩
structure WaI (P:EVP) (x:WX):Prop where
 ok:P.Ok
 vv:∃l:List VSX,l.length<=50/\VvP P l (x.r,x.ev)
structure Wa1 (P:EVP) (x:WX):Prop where
 b:WaI P x
 v:x.v<=x.r.ss.length
 m:x.m=mgC x.r.ss x.v
structure Wa2 (P:EVP) (x:WX):Prop where
 b:WaI P x
 m:x.m=mgC x.r.ss x.r.ss.length
 i:x.i<=2
structure Wa3 (P:EVP) (x:WX):Prop where
 b:Wa2 P x
 n:x.s.length<=1000000
 s:∀s∈x.s,WaP P x.r x.ex s
 v:x.v<=x.s.length
section
variable {P:EVP} {x o:WX} {A:List AV} {os:List AO}
theorem WaI.n (h:WaI P x):x.r.ss.length<=50/\x.r.ls.length<=50/\x.ev.length<=50:=by
 obtain ⟨l,hl,hv⟩:=h.vv
 have h1:x.r.ss.length<=l.length:=hv.ss
 have h2:x.r.ls.length<=l.length:=hv.ls
 have h3:x.ev.length<=l.length:=hv.ev
 omega
theorem WaI.vr (h:WaI P x):VR x.r:=by
 obtain ⟨l,hl,hv⟩:=h.vv
 exact hv.vr
theorem Fj (h:Wa1 P x) (hv:x.v < x.r.ss.length) (h2:(SL.fin (List.getD x.r.ss x.v default)==2)=true):Wa1 P {x with m:=x.m+1,v:=x.v+1}:=⟨⟨h.b.ok,h.b.vv⟩,hv,by
 show x.m+1=mgC x.r.ss (x.v+1)
 rw [xd hv,h2,h.m];rfl⟩
theorem Fk (h:Wa1 P x) (hv:x.v < x.r.ss.length) (h2:(SL.fin (List.getD x.r.ss x.v default)==2)=false):Wa1 P {x with v:=x.v+1}:=⟨⟨h.b.ok,h.b.vv⟩,hv,by
 show x.m=mgC x.r.ss (x.v+1)
 rw [xd hv,h2,h.m];rfl⟩
theorem Fv (h:Wa1 P x) (h1:decide ((x.v:Int) < (x.r.ss.length:Int))=false):WaI P x/\x.m=mgC x.r.ss x.r.ss.length:=⟨h.b,by
 have:=of_decide_eq_false h1
 have e:x.v=x.r.ss.length:=by have:=h.v;omega
 rw [h.m,e]⟩
theorem Wa1.mm (h:Wa1 P x):x.m<=50:=by
 have:=DD x.r.ss x.v
 rw [<-h.m] at this
 have:=h.v
 have:=h.b.n.1
 omega
theorem Fg (h:Wa1 P x) (hv:x.v < x.r.ss.length):({env:=[(5,.ref 5 0),(6,.ref 6 0),(7,evA x.ev),(8,.int .i64 (IntKind.wrap .i64 ((x.m:Int)+1))),(9,.int .i64 (IntKind.wrap .i64 ((x.v:Int)+1)))],objs:=[(5,.cells (gB P)),(6,.cells (RG.c x.r))]}:St)=(λx:WX=>({env:=[(5,.ref 5 0),(6,.ref 6 0),(7,evA x.ev),(8,.int .i64 ((x.m:Int))),(9,.int .i64 ((x.v:Int)))],objs:=[(5,.cells (gB P)),(6,.cells (RG.c x.r))]}:St)) {x with m:=x.m+1,v:=x.v+1}:=by
 have:=h.mm
 have:=h.b.n.1
 rw [bC (k:=x.m) (by omega),bC (k:=x.v) (by omega)]
theorem Fh (h:Wa1 P x) (hv:x.v < x.r.ss.length):({env:=[(5,.ref 5 0),(6,.ref 6 0),(7,evA x.ev),(8,.int .i64 ((x.m:Int))),(9,.int .i64 (IntKind.wrap .i64 ((x.v:Int)+1)))],objs:=[(5,.cells (gB P)),(6,.cells (RG.c x.r))]}:St)=(λx:WX=>({env:=[(5,.ref 5 0),(6,.ref 6 0),(7,evA x.ev),(8,.int .i64 ((x.m:Int))),(9,.int .i64 ((x.v:Int)))],objs:=[(5,.cells (gB P)),(6,.cells (RG.c x.r))]}:St)) {x with v:=x.v+1}:=by
 have:=h.b.n.1
 rw [bC (by omega)]
theorem CA (h:WaI P x):(bx x.ev).length<=300000:=by
 have h1:(bx x.ev).length<=x.ev.length:=by unfold bx evK;rw [List.length_map];exact List.length_filter_le _ _
 have:=h.n
 omega
theorem IM (h:Wa2 P x) {ex:TX} {s:List SMX} {mk:Int} (q:rSm [evA x.ev,.str ex,mtA,.int .i64 mk] os s):Wa3 P {x with ex:=ex,s:=s,v:=0}:=by
 obtain ⟨h1,h2⟩:=q _ _ _ rfl
 obtain ⟨l,hl,hv⟩:=h.b.vv
 obtain ⟨n,hn⟩:=hv.xv
 obtain ⟨m,hm⟩:=hv.lin
 exact ⟨⟨⟨h.b.ok,h.b.vv⟩,h.m,h.i⟩,h1,λs hs=>CC hv.vr hn hm (h2 s hs),Nat.zero_le _⟩
theorem Wa3.w (h:Wa3 P x) (hv:x.v < x.s.length):WaP P x.r x.ex (x.s.getD x.v default):=h.s _ (by rw [List.getD_eq_getElem?_getD,List.getElem?_eq_getElem hv];exact List.getElem_mem hv)
theorem JF (W:WaP P x.r x.ex (x.s.getD x.v default)) {r5:ATX} (q:rAt [rgA x.r,.str (x.s.getD x.v default).x.id,.str aI,.int .i64 (x.s.getD x.v default).x.tm] os r5):(bif bif bif !r5.2 then true else !SL.exp r5.1==x.ex then true else SL.arm r5.1 !=(x.s.getD x.v default).x.arm then true else (0:Int) !=0)=false:=by
 rw [q _ _ _ _ rfl,W.ok,W.ex,W.arm]
 simp
theorem JE {r6:XRX} (W:WaP P x.r x.ex (x.s.getD x.v default)) {e:AV} (q:rXe P [rgA x.r,e,.str (x.s.getD x.v default).x.id,.str aI,.int .i64 (x.s.getD x.v default).x.tm] os r6):CkG P r6:=W.ck r6 (q _ _ _ _ rfl)
theorem JD {r8:Int} (q:rE (0:Int) A os r8):(bif false then true else r8 !=0)=false:=by
 have q:r8=0:=q
 rw [q];rfl
theorem Fx (h:Wa3 P x) (W:WaP P x.r x.ex (x.s.getD x.v default)):(bif SMX.mx (x.s.getD x.v default) then (x.m:Int)==0 else false)=false:=by
 cases hm:SMX.mx (x.s.getD x.v default) with
 | false=>rfl
 | true=>
  obtain ⟨u,hu,hf⟩:=W.mx hm
  have:=A8 hu hf
  rw [cond_true]
  exact beq_eq_false_iff_ne.2 (by rw [h.b.m];omega)
theorem Fi (h:Wa3 P x) (hv:x.v < x.s.length):Wa3 P {x with v:=x.v+1}:=⟨⟨⟨h.b.b.ok,h.b.b.vv⟩,h.b.m,h.b.i⟩,h.n,h.s,hv⟩
theorem Ff (h:Wa3 P x) (hv:x.v < x.s.length):({env:=[(5,.ref 5 0),(6,.ref 6 0),(7,evA x.ev),(8,.int .i64 ((x.m:Int))),(10,.ref 10 0),(11,.int .i64 (x.i:Int)),(12,.str x.ex),(13,smA x.s),(14,.int .i64 (IntKind.wrap .i64 ((x.v:Int)+1)))],objs:=[(5,.cells (gB P)),(6,.cells (RG.c x.r)),(10,.cells (mX.c kX))]}:St)=(λx:WX=>({env:=[(5,.ref 5 0),(6,.ref 6 0),(7,evA x.ev),(8,.int .i64 ((x.m:Int))),(10,.ref 10 0),(11,.int .i64 (x.i:Int)),(12,.str x.ex),(13,smA x.s),(14,.int .i64 ((x.v:Int)))],objs:=[(5,.cells (gB P)),(6,.cells (RG.c x.r)),(10,.cells (mX.c kX))]}:St)) {x with v:=x.v+1}:=by
 have:=h.n
 rw [bC (by omega)]
theorem Cy (h:Wa2 P o) (hi:o.i < 2):Wa2 P {o with i:=o.i+1}:=⟨⟨h.b.ok,h.b.vv⟩,h.m,hi⟩
theorem Cw (hi:x.i < 2):({env:=[(5,.ref 5 0),(6,.ref 6 0),(7,evA x.ev),(8,.int .i64 ((x.m:Int))),(10,.ref 10 0),(11,.int .i64 (IntKind.wrap .i64 ((x.i:Int)+1)))],objs:=[(5,.cells (gB P)),(6,.cells (RG.c x.r)),(10,.cells (mX.c kX))]}:St)=(λx:WX=>({env:=[(5,.ref 5 0),(6,.ref 6 0),(7,evA x.ev),(8,.int .i64 ((x.m:Int))),(10,.ref 10 0),(11,.int .i64 ((x.i:Int)))],objs:=[(5,.cells (gB P)),(6,.cells (RG.c x.r)),(10,.cells (mX.c kX))]}:St)) {x with i:=x.i+1}:=by
 rw [bC (by omega)]
theorem JG {l:List VSX} (hp:P.Ok) (hl:l.length<=50) {e:AV} {r5:RG×List EV} (q:rVi P [e,vsA l] os r5):Wa1 P ⟨r5.1,r5.2,0,[],[],0,0⟩:=by
 obtain ⟨e,l',h,hv⟩:=q
 simp only [List.cons.injEq,and_true] at h
 have h2:=h.2
 unfold vsA at h2
 injection h2 with _ _ h3
 exact ⟨⟨hp,l',by omega,hv⟩,Nat.zero_le _,rfl⟩
theorem Fe {r4:EVP} {l:List VSX} (e:r4=P) (hp:P.Ok) (hl:l.length<=50) (hd:VsD l):bz wd bQ φVi (rVi P) [ik r4,vsA l] []:=by
 subst e;exact FO _ l hp hl hd
theorem Fu {r:Bool} {Q:Prop} (q:rE true A os r) (h:(!r)=true):Q:=by
 have q:r=true:=q
 rw [q] at h;cases h
theorem Cz {l:List VSX} (h:decide ((l.length:Int) > 50)=false):l.length<=50:=by have:=of_decide_eq_false h;omega
theorem Ft {r4:EVP} {r5:RG×List EV} {u:St->Bool} {w:St->WX} {Q:WX->Prop} (e:r4=P) (hu:∀x:WX,Wa1 P x->aW u w ((λx:WX=>({env:=[(5,.ref 5 0),(6,.ref 6 0),(7,evA x.ev),(8,.int .i64 ((x.m:Int))),(9,.int .i64 ((x.v:Int)))],objs:=[(5,.cells (gB P)),(6,.cells (RG.c x.r))]}:St)) x) Q) (h:Wa1 P ⟨r5.1,r5.2,0,[],[],0,0⟩):aW u w ({env:=[(5,.ref 5 0),(6,.ref 6 0),(7,evA r5.2),(8,.int .i64 (0)),(9,.int .i64 (0))],objs:=[(5,.cells (gB r4)),(6,.cells (RG.c r5.1))]}:St) Q:=by
 subst e;exact hu _ h
theorem Fs {o:WX} {u:St->Bool} {w:St->Unit} (hu:∀x:WX,Wa2 P x->aW u w ((λx:WX=>({env:=[(5,.ref 5 0),(6,.ref 6 0),(7,evA x.ev),(8,.int .i64 ((x.m:Int))),(10,.ref 10 0),(11,.int .i64 ((x.i:Int)))],objs:=[(5,.cells (gB P)),(6,.cells (RG.c x.r)),(10,.cells (mX.c kX))]}:St)) x) λ_=>True) (h:WaI P o/\o.m=mgC o.r.ss o.r.ss.length):aW u w ({env:=[(5,.ref 5 0),(6,.ref 6 0),(7,evA o.ev),(8,.int .i64 ((o.m:Int))),(10,.ref 10 0),(11,.int .i64 (0))],objs:=[(5,.cells (gB P)),(6,.cells (RG.c o.r)),(10,.cells (mX.c kX))]}:St) λ_=>True:=hu {o with i:=0} ⟨⟨h.1.ok,h.1.vv⟩,h.2,Nat.zero_le _⟩
end
theorem Fq (P:EVP):∃ (u:St->Bool) (w:St->WX),(∀x:WX,Wa1 P x->aW u w ((λx:WX=>({env:=[(5,.ref 5 0),(6,.ref 6 0),(7,evA x.ev),(8,.int .i64 ((x.m:Int))),(9,.int .i64 ((x.v:Int)))],objs:=[(5,.cells (gB P)),(6,.cells (RG.c x.r))]}:St)) x) λo=>WaI P o/\o.m=mgC o.r.ss o.r.ss.length)/\∀L:List (List Nat×Orc),bq (VWa.run [eEx,eEn,eVi P,eSm,eVa,eAt,eXe P,eCg] 2 [] L [] aF) aF [1,1,1,1,1,1,0,1,0] (mkO u w (λ(x_:WX) k_=>k_ (.exit 0) {env:=[(5,.ref 5 0),(6,.ref 6 0),(7,evA x_.ev),(8,.int .i64 ((x_.m:Int)))],objs:=[(5,.cells (gB P)),(6,.cells (RG.c x_.r))]})):=
 bX (Lf:=λL=>L) (λx:WX=>{env:=[(5,.ref 5 0),(6,.ref 6 0),(7,evA x.ev),(8,.int .i64 ((x.m:Int))),(9,.int .i64 ((x.v:Int)))],objs:=[(5,.cells (gB P)),(6,.cells (RG.c x.r))]}) (Wa1 P) (λx=>x.r.ss.length - x.v) (λ(x_:WX) k_=>k_ (.exit 0) {env:=[(5,.ref 5 0),(6,.ref 6 0),(7,evA x_.ev),(8,.int .i64 ((x_.m:Int)))],objs:=[(5,.cells (gB P)),(6,.cells (RG.c x_.r))]}) (λo=>WaI P o/\o.m=mgC o.r.ss o.r.ss.length) (by kernel_rfl) (λx hv=>.b (decide ((↑(WX.v x):Int) < (↑(List.length (RG.ss (WX.r x))):Int))) (λh1=>
   .n (c:=within (↑(WX.v x):Int) (List.length (RG.ss (WX.r x)))) (aO (aN h1)) (
   .b (SL.fin (List.getD (RG.ss (WX.r x)) (Int.toNat (↑(WX.v x):Int)) default)==2) (λh2=>
    .go {env:=[(5,.ref 5 0),(6,.ref 6 0),(7,evA (WX.ev x)),(8,.int .i64 (IntKind.wrap .i64 ((↑(WX.m x):Int)+1))),(9,.int .i64 (IntKind.wrap .i64 ((↑(WX.v x):Int)+1)))],objs:=[(5,.cells (gB P)),(6,.cells (RG.c (WX.r x)))]} {x with m:=x.m+1,v:=x.v+1} (Fj hv (aN h1) h2) (iz (aN h1)) (Fg hv (aN h1))) λh2=>
   .go {env:=[(5,.ref 5 0),(6,.ref 6 0),(7,evA (WX.ev x)),(8,.int .i64 (↑(WX.m x):Int)),(9,.int .i64 (IntKind.wrap .i64 ((↑(WX.v x):Int)+1)))],objs:=[(5,.cells (gB P)),(6,.cells (RG.c (WX.r x)))]} {x with v:=x.v+1} (Fk hv (aN h1) h2) (iz (aN h1)) (Fh hv (aN h1)))) λh1=>
  .fi x (Fv hv h1)) (λx L k kn=>by kernel_rfl)
theorem Fl (P:EVP):∃ (u:St->Bool) (w:St->WX),(∀x:WX,Wa3 P x->aW u w ((λx:WX=>({env:=[(5,.ref 5 0),(6,.ref 6 0),(7,evA x.ev),(8,.int .i64 ((x.m:Int))),(10,.ref 10 0),(11,.int .i64 (x.i:Int)),(12,.str x.ex),(13,smA x.s),(14,.int .i64 ((x.v:Int)))],objs:=[(5,.cells (gB P)),(6,.cells (RG.c x.r)),(10,.cells (mX.c kX))]}:St)) x) λo=>Wa2 P o/\o.i=x.i)/\∀L:List (List Nat×Orc),bq (VWa.run [eEx,eEn,eVi P,eSm,eVa,eAt,eXe P,eCg] 2 [] L [] aF) aF [1,1,1,1,1,1,1,1,0,1,0,0,1,0,0,1,1,1,0] (mkO u w (λ(x_:WX) k_=>k_ (.exit 4) {env:=[(5,.ref 5 0),(6,.ref 6 0),(7,evA x_.ev),(8,.int .i64 ((x_.m:Int))),(10,.ref 10 0),(11,.int .i64 ((x_.i:Int)))],objs:=[(5,.cells (gB P)),(6,.cells (RG.c x_.r)),(10,.cells (mX.c kX))]})):=
 gx (V:=VWa) (T:=[eEx,eEn,eVi P,eSm,eVa,eAt,eXe P,eCg]) (d:=2) (W:=[]) (Lf:=λL=>L) (λx:WX=>({env:=[(5,.ref 5 0),(6,.ref 6 0),(7,evA x.ev),(8,.int .i64 ((x.m:Int))),(10,.ref 10 0),(11,.int .i64 (x.i:Int)),(12,.str x.ex),(13,smA x.s),(14,.int .i64 ((x.v:Int)))],objs:=[(5,.cells (gB P)),(6,.cells (RG.c x.r)),(10,.cells (mX.c kX))]}:St)) (Wa3 P) (λx=>x.s.length - x.v) (λ(x_:WX) k_=>k_ (.exit 4) {env:=[(5,.ref 5 0),(6,.ref 6 0),(7,evA x_.ev),(8,.int .i64 ((x_.m:Int))),(10,.ref 10 0),(11,.int .i64 ((x_.i:Int)))],objs:=[(5,.cells (gB P)),(6,.cells (RG.c x_.r)),(10,.cells (mX.c kX))]}) (λx o=>Wa2 P o/\o.i=x.i) (by kernel_rfl) (λa b x e h=>⟨h.1,h.2.trans (by
  have e:=congrArg (λs:St=>s.env) e
  simp only [List.cons.injEq,Prod.mk.injEq,AV.int.injEq,true_and] at e
  have e:=e.2.2.1
  omega)⟩) (λx hv=>.b (decide ((↑(WX.v x):Int) < (↑(List.length (WX.s x)):Int))) (λh1=>
   .n (c:=within (↑(WX.v x):Int) (List.length (WX.s x))) (aO (aN h1)) (
   .call (rH hv.b.b.vr) λr2 q2=>
   .b (!r2) (λh3=>
    .call (Cs x.r P (x.s.getD x.v default).x.id (x.s.getD x.v default).x.tm hv.b.b.vr hv.b.b.ok (hv.w (aN h1)).ok) λr4 q4=>
    .fq (e:=.ret) (s:={env:=[(4,.bool false)],objs:=[]}) default (ER q2 h3) (ER q2 h3)) λh3=>
   .call (zN x.r (x.s.getD x.v default).x.id aI (x.s.getD x.v default).x.tm (by have:=hv.b.b.n;omega) (by have:=hv.b.b.n;omega)) λr5 q5=>
   .call (Cs x.r P (x.s.getD x.v default).x.id (x.s.getD x.v default).x.tm hv.b.b.vr hv.b.b.ok (hv.w (aN h1)).ok) λr6 q6=>
   .no (c:=bif bif bif !r5.2 then true else !SL.exp r5.1==WX.ex x then true else SL.arm r5.1 !=XPO.arm (SMX.x (List.getD (WX.s x) (Int.toNat (↑(WX.v x):Int)) default)) then true else 0 !=0) (A:=λ_ k kn=>k (.ret) ({env:=[(4,.bool false)],objs:=[]})) (JF (hv.w (aN h1)) q5) (
   .call (Ir P r6 hv.b.b.ok (JE (hv.w (aN h1)) q6)) λr8 q8=>
   .no (c:=bif false then true else r8 !=0) (A:=λ_ k kn=>k (.ret) ({env:=[(4,.bool false)],objs:=[]})) (JD q8) (
   .n (c:=within (↑(WX.v x):Int) (List.length (WX.s x))) (aO (aN h1)) (
   .no (c:=bif SMX.mx (List.getD (WX.s x) (Int.toNat (↑(WX.v x):Int)) default) then (↑(WX.m x):Int)==0 else false) (A:=λ_ k kn=>k (.ret) ({env:=[(4,.bool false)],objs:=[]})) (Fx hv (hv.w (aN h1))) (
   .nx {env:=[(5,.ref 5 0),(6,.ref 6 0),(7,evA (WX.ev x)),(8,.int .i64 (↑(WX.m x):Int)),(10,.ref 10 0),(11,.int .i64 (↑(WX.i x):Int)),(12,.str (WX.ex x)),(13,.sl .no 10 (List.length (WX.s x)) λj=>[.str (XPO.id (SMX.x (List.getD (WX.s x) j default))),.str (XPO.cl (SMX.x (List.getD (WX.s x) j default))),.int .i64 (XPO.sq (SMX.x (List.getD (WX.s x) j default))),.int .i64 (XPO.tm (SMX.x (List.getD (WX.s x) j default))),.int .i64 (XPO.arm (SMX.x (List.getD (WX.s x) j default))),.int .i64 (XPO.ver (SMX.x (List.getD (WX.s x) j default))),.int .i64 (SMX.va (List.getD (WX.s x) j default)),.int .i64 (SMX.lo (List.getD (WX.s x) j default)),.int .i64 (SMX.be (List.getD (WX.s x) j default)),.bool (SMX.mx (List.getD (WX.s x) j default))]),(14,.int .i64 (IntKind.wrap .i64 ((↑(WX.v x):Int)+1)))],objs:=[(5,.cells (gB P)),(6,.cells (RG.c (WX.r x))),(10,.cells [.int .i64 kX,.str (MT.nm mX),.str (MT.bl mX),.int .i64 (MT.wi mX),.int .i64 (MT.cp mX),.int .i64 (MT.le mX),.int .i64 (MT.be mX)])]} {x with v:=x.v+1} (Fi hv (aN h1)) (iz (aN h1)) (λ_ h=>h) (Ff hv (aN h1)))))))) λh1=>
  .fi x ⟨hv.b,rfl⟩) (λx L k kn=>by kernel_rfl)
theorem Fm (P:EVP) {u3:St->Bool} {w3:St->WX} (hu3:∀x:WX,Wa3 P x->aW u3 w3 ((λx:WX=>({env:=[(5,.ref 5 0),(6,.ref 6 0),(7,evA x.ev),(8,.int .i64 ((x.m:Int))),(10,.ref 10 0),(11,.int .i64 (x.i:Int)),(12,.str x.ex),(13,smA x.s),(14,.int .i64 ((x.v:Int)))],objs:=[(5,.cells (gB P)),(6,.cells (RG.c x.r)),(10,.cells (mX.c kX))]}:St)) x) λo=>Wa2 P o/\o.i=x.i):∃ (u:St->Bool) (w:St->Unit),(∀x:WX,Wa2 P x->aW u w ((λx:WX=>({env:=[(5,.ref 5 0),(6,.ref 6 0),(7,evA x.ev),(8,.int .i64 ((x.m:Int))),(10,.ref 10 0),(11,.int .i64 ((x.i:Int)))],objs:=[(5,.cells (gB P)),(6,.cells (RG.c x.r)),(10,.cells (mX.c kX))]}:St)) x) λ_=>True)/\∀i:Orc×Orc,bq (VWa.run [eEx,eEn,eVi P,eSm,eVa,eAt,eXe P,eCg] 2 [] [([1,1,1,1,1,1,0,1,0],i.1),([1,1,1,1,1,1,1,1,0,1,0],i.2),([1,1,1,1,1,1,1,1,0,1,0,0,1,0,0,1,1,1,0],mkO u3 w3 (λ(x_:WX) k_=>k_ (.exit 4) {env:=[(5,.ref 5 0),(6,.ref 6 0),(7,evA x_.ev),(8,.int .i64 ((x_.m:Int))),(10,.ref 10 0),(11,.int .i64 ((x_.i:Int)))],objs:=[(5,.cells (gB P)),(6,.cells (RG.c x_.r)),(10,.cells (mX.c kX))]}))] [] aF) aF [1,1,1,1,1,1,1,1,0,1,0] (mkO u w (λ(x_:Unit) k_=>k_ (.exit 2) {env:=[],objs:=[]})):=
 xk (D:=wd) (V:=VWa) (T:=[eEx,eEn,eVi P,eSm,eVa,eAt,eXe P,eCg]) (d:=2) (W:=[]) (Lf:=λi:Orc×Orc=>[([1,1,1,1,1,1,0,1,0],i.1),([1,1,1,1,1,1,1,1,0,1,0],i.2),([1,1,1,1,1,1,1,1,0,1,0,0,1,0,0,1,1,1,0],mkO u3 w3 (λ(x_:WX) k_=>k_ (.exit 4) {env:=[(5,.ref 5 0),(6,.ref 6 0),(7,evA x_.ev),(8,.int .i64 ((x_.m:Int))),(10,.ref 10 0),(11,.int .i64 ((x_.i:Int)))],objs:=[(5,.cells (gB P)),(6,.cells (RG.c x_.r)),(10,.cells (mX.c kX))]}))]) (λx:WX=>({env:=[(5,.ref 5 0),(6,.ref 6 0),(7,evA x.ev),(8,.int .i64 ((x.m:Int))),(10,.ref 10 0),(11,.int .i64 ((x.i:Int)))],objs:=[(5,.cells (gB P)),(6,.cells (RG.c x.r)),(10,.cells (mX.c kX))]}:St)) (Wa2 P) (λx=>2 - x.i) (λ(x_:Unit) k_=>k_ (.exit 2) {env:=[],objs:=[]}) (λ_=>True) (by kernel_rfl) λx hx=>match x,hx with
  | ⟨r,ev,m,ex,s,0,v⟩,hv=>⟨_,.call (CX ev lu 5000 (by have:ev.length<=50:=hv.b.n.2.2;omega) (CA hv.b)) λr1 q1=>
  .lp (hu3 ⟨r,ev,m,lu,r1,0,0⟩ (IM hv q1)) λr2 q2=>
  .go {env:=[(5,.ref 5 0),(6,.ref 6 0),(7,evA (WX.ev r2)),(8,.int .i64 (↑(WX.m r2):Int)),(10,.ref 10 0),(11,.int .i64 (IntKind.wrap .i64 ((↑(WX.i r2):Int)+1)))],objs:=[(5,.cells (gB P)),(6,.cells (RG.c (WX.r r2))),(10,.cells [.int .i64 kX,.str (MT.nm mX),.str (MT.bl mX),.int .i64 (MT.wi mX),.int .i64 (MT.cp mX),.int .i64 (MT.le mX),.int .i64 (MT.be mX)])]} {r2 with i:=r2.i+1} (Cy q2.1 (by have e:r2.i=0:=q2.2;omega)) (by show 2 - (r2.i+1) < 2 - 0;have e:r2.i=0:=q2.2;omega) (Cw (by have e:r2.i=0:=q2.2;omega)),λi k kn=>by kernel_rfl⟩
  | ⟨r,ev,m,ex,s,1,v⟩,hv=>⟨_,.call (CX ev gy 5000 (by have:ev.length<=50:=hv.b.n.2.2;omega) (CA hv.b)) λr1 q1=>
  .lp (hu3 ⟨r,ev,m,gy,r1,1,0⟩ (IM hv q1)) λr2 q2=>
  .go {env:=[(5,.ref 5 0),(6,.ref 6 0),(7,evA (WX.ev r2)),(8,.int .i64 (↑(WX.m r2):Int)),(10,.ref 10 0),(11,.int .i64 (IntKind.wrap .i64 ((↑(WX.i r2):Int)+1)))],objs:=[(5,.cells (gB P)),(6,.cells (RG.c (WX.r r2))),(10,.cells [.int .i64 kX,.str (MT.nm mX),.str (MT.bl mX),.int .i64 (MT.wi mX),.int .i64 (MT.cp mX),.int .i64 (MT.le mX),.int .i64 (MT.be mX)])]} {r2 with i:=r2.i+1} (Cy q2.1 (by have e:r2.i=1:=q2.2;omega)) (by show 2 - (r2.i+1) < 2 - 1;have e:r2.i=1:=q2.2;omega) (Cw (by have e:r2.i=1:=q2.2;omega)),λi k kn=>by kernel_rfl⟩
  | ⟨r,ev,m,ex,s,2,v⟩,hv=>⟨_,.fi () trivial,λi k kn=>by kernel_rfl⟩
  | ⟨r,ev,m,ex,s,i+3,v⟩,hv=>absurd hv.i (by show ¬ i+3<=2;omega)
theorem Fw (P:EVP) (sa ho cu on tw:Int) (l:List VSX) (hP:P=enP sa ho cu on tw) (h0:0<=ho) (h0':ho < 256) (h4:0<=on) (h5:on < 65536) (hd:VsD l):bz wd aF φBo (rE true) [.agg [.int .u8 sa,.int .u8 ho,.int .u16 cu,.int .u16 on,.int .u16 tw],vsA l] []:=by
 obtain ⟨u1,w1,hu1,hc1⟩:=Fq P
 obtain ⟨u3,w3,hu3,hc3⟩:=Fl P
 obtain ⟨u2,w2,hu2,hc2⟩:=Fm P hu3
 have hp:P.Ok:=hP ▸ Ah _ _ _ _ _
 exact bn (V:=VWa) (T:=[eEx,eEn,eVi P,eSm,eVa,eAt,eXe P,eCg]) (d:=2) 0 (aE (hc1 _) (aE (hc2 (_,_)) (aE (hc3 _) ao))) ak (.call (Ef) λr1 q1=>
  .b (!r1) (λh2=>
   .r false (Fu q1 h2)) λh2=>
  .b (decide ((↑(List.length l):Int) > 50)) (λh3=>
   .r true rfl) λh3=>
  .call (Eh sa ho cu on tw h0 h0' h4 h5) λr4 q4=>
  .call (Fe ((q4 _ _ _ _ _ rfl).trans hP.symm) hp (Cz h3) hd) λr5 q5=>
  .lp (Ft ((q4 _ _ _ _ _ rfl).trans hP.symm) hu1 (JG hp (Cz h3) q5)) λr6 q6=>
  .lp (Fs hu2 q6) λr7 q7=>
  .r true rfl) (by kernel_rfl)
theorem yW {sa ho cu on tw:Int} {l:List VI} (h1:nS ho) (h2:0<=on/\on < 65536) (h:∀p∈l,yv p):Ct prog glb aF [.agg [.int .u8 sa,.int .u8 ho,.int .u16 cu,.int .u16 on,.int .u16 tw],CG l] [] (.bool true,[]):=by
 unfold nS at h1
 rw [Ar h]
 exact (Fw _ sa ho cu on tw (l.map toV) rfl h1.1 h1.2 h2.1 h2.2 (λj=>by
  rw [(yu h j).2]
  obtain ⟨g1,g2,g3,g4⟩:=(yu h j).1
  unfold nS at g1 g2 g3 g4
  exact ⟨by show (l.getD j (0,0,0,0)).2.1.toNat < 256;omega,by show (l.getD j (0,0,0,0)).2.2.1.toNat < 256;omega,by show (l.getD j (0,0,0,0)).2.2.2.toNat < 256;omega⟩)).ctE
end Go.WF
