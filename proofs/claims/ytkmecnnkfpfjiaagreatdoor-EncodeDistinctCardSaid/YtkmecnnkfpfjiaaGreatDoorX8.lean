/- shape: attributes, the lists, Environment. The draws: a flag of an environment whose segments may still be stored into. Copy, New; environments told and told apart. Change: states. Change: its contract. -/
import Derived.Test.YtkmecnnkfpfjiaaGreatDoorX7
set_option linter.unusedVariables false
set_option linter.unusedSimpArgs false
namespace Go.T
open Go Go.Ab Go.Proofs Go.SH
open Go.SM (ATT ATT.Ok pd En vf ya ENV dU uZ uU uM uO uY uT yx El y4 rA iG)
theorem QU (a b:Int):aJ wd Ap SM.φI' KI [.sl .fit 1 2 (fI [(0,.int .i64 a),(1,.int .i64 b)])] []:=
 cW (V:=V0) [] 9 (.b (a !=0) (λh=>.r a (.mk (zo h))) λh=>.b (b !=0) (λh2=>.r b (.mk (jI h (zo h2)))) λh2=>.r 0 (.mk (jI h (jI h2 rfl)))) (by kernel_rfl)
noncomputable abbrev Vh:Ent:=bc wd Ap SM.φI' KI
def AtZ (l:List ATT) (i:Int):St:={env:=[(0,pd l),(8,pd l),(9,.int .i64 l.length),(10,.int .i64 i)],objs:=[]}
theorem Ke (l:List ATT) (hl:okL ATT.Ok l):aJ wd kC SH.φE (rIs (ya l)) [pd l] []:=by
 have hm:=hl.big
 obtain ⟨u,w,hu,hlo⟩:=bQ (V:=V0) (T:=[k0,Vq,Vh]) (d:=9) (W:=[]) (f:=kC) (p:=[1,1,0,1,0]) (Lf:=λL=>L) (AtZ l) l.length (jf (En l) (vf l)) (si 2) (λk=>k (.exit 0) {env:=[],objs:=[]}) (by kernel_rfl)
  (λi a=>
   .n a.w (.call (dT (l.getD i aE0).1) λx qx=>.call (dT (l.getD i aE0).2.1) λy qy=>
   .b (bif bif !x then true else !y then true else (l.getD i aE0).2.1==[107,101,121]) (λh=>.sp 6 a (by rw [qx _ rfl,qy _ rfl] at h;unfold jf En;rw [h];rfl)) λh=>
   have h:(bif bif !ea (l.getD i aE0).1 then true else !ea (l.getD i aE0).2.1 then true else (l.getD i aE0).2.1==[107,101,121])=false:=by rw [<-qx _ rfl,<-qy _ rfl];exact h
   .b (bif decide ((l.getD i aE0).2.2 < 1) then true else decide ((l.getD i aE0).2.2 > 5)) (λh2=>.sp 7 a (by unfold jf En;rw [h,h2];rfl)) λh2=>
   .gp true a.lt hm (.call (wu (l.getD (Int.toNat (IntKind.wrap .i64 ((i:Int) - 1))) aE0).1 (l.getD i aE0).1) λt1 q1=>.gp true a.lt hm (.call (wu (l.getD (Int.toNat (IntKind.wrap .i64 ((i:Int) - 1))) aE0).2.1 (l.getD i aE0).2.1) λt2 q2=>.call (QU t1 t2) λt q=>
   have e:(bif decide ((i:Int) > 0) then decide (t≥0) else false)=vf l i:=by
    rw [show t=bif t1 !=0 then t1 else bif t2 !=0 then t2 else 0 from q _ _ rfl,id0,q1 _ _ rfl,q2 _ _ rfl,SM.K4]
    exact Sc a.lt hm
   .b (bif decide ((i:Int) > 0) then decide (t≥0) else false) (λh3=>.sp 9 a (by rw [e] at h3;unfold jf En;rw [h,h2,h3];rfl)) λh3=>.up a hm (by rw [e] at h3;unfold jf En;rw [h,h2,h3];rfl))))) (λi L k kn=>by kernel_rfl)
 exact gC (V:=V0) [k0,Vq,Vh] 9 hlo (.b (decide ((l.length:Int) > 30)) (λh=>xa h) λh=>.lp hu λt q=>w9 q h) (by kernel_rfl)
def HsZ (x:AV) (f g:FuncId) (n:Nat) (i:Int):St:={env:=[(0,x),(2,.fn f [] []),(3,.fn g [] []),(16,x),(17,.int .i64 n),(18,.int .i64 i)],objs:=[]}
abbrev PHs:List Nat:=[1,1,0,1,0]
theorem xE {α:Type} [Inhabited α] {f g h:FuncId} {A:α->List AV} {E:α->Int} (key:α->List UInt8) (x:AV) (most:Int) (l:List α) (hl:l.length<=1048576) (hg:∀i,i < l.length->aJ wd g SH.φE (rC A E) (A (l.getD i default)) []) (hb:jv (ef (bD V0.P f) PHs)=true)
  (he:∀ (i:Nat) (L:List (List Nat×Orc)) (k:Ex->St->Res) (kn:St->Res),dP (V0.run [bc wd g SH.φE (rC A E)] 2 [] L [] f) f 9 PHs (HsZ x g h l.length i) kn k=cond (decide ((i:Int) < (l.length:Int))) (cond (within (i:Int) l.length) (cond (gR wd g SH.φE (rC A E) (A (l.getD i default)) []) (cond (wR wd g SH.φE (rC A E) (A (l.getD i default)) [] !=0) (k .ret {env:=[(8,.int .i64 (wR wd g SH.φE (rC A E) (A (l.getD i default)) []))],objs:=[]})
   (cond (bif within (IntKind.wrap .i64 ((i:Int) - 1)) l.length then true else !bif decide ((i:Int) > 0)==true then true else false) (cond (kP (λj=>key (l.getD j default)) i) (k .ret {env:=[(8,.int .i64 9)],objs:=[]}) (kn (HsZ x g h l.length (IntKind.wrap .i64 ((i:Int)+1))))) none)) none) none) (k (.exit 0) {env:=[],objs:=[]}))
  (hr:∀ (u:St->Bool) (w:St->Bool×Int),xf (V0.run [bc wd g SH.φE (rC A E)] 2 [] [(PHs,mkO u w (K3 (si 8) λk=>k (.exit 0) {env:=[],objs:=[]}))] [] f) 9 f [x,.int .i64 most,.fn g [] [],.fn h [] []] []=cond (decide ((l.length:Int) > most)) (some (.int .i64 5,[])) (cond (u (HsZ x g h l.length 0)) (cond (w (HsZ x g h l.length 0)).1 (some (.int .i64 (w (HsZ x g h l.length 0)).2,[])) (some (.int .i64 0,[]))) none)) :
  aJ wd f SH.φE (rIs (SM.bR most l.length (λi=>E (l.getD i default)) (El λi=>key (l.getD i default)))) [x,.int .i64 most,.fn g [] [],.fn h [] []] []:=by
 have hm:l.length<=4611686018427387904:=by omega
 obtain ⟨u,w,hu,hlo⟩:=bQ (V:=V0) (T:=[bc wd g SH.φE (rC A E)]) (d:=2) (W:=[]) (f:=f) (p:=PHs) (Lf:=λL=>L) (HsZ x g h l.length) l.length (jf (λi=>E (l.getD i default)) (El λi=>key (l.getD i default))) (si 8) (λk=>k (.exit 0) {env:=[],objs:=[]}) hb
  (λi a=>
   have e:kP (λj=>key (l.getD j default)) i=El (λj=>key (l.getD j default)) i:=SM.bad_eq (key:=λj=>key (l.getD j default)) (by have:=a.lt;omega)
   .n a.w (.call (hg i a.lt) λt q=>.b (t !=0) (λh=>.sp t a (by rw [q _ rfl] at h ⊢;unfold jf;rw [h];rfl)) λh=>.gp true a.lt hm
   (.b (kP (λj=>key (l.getD j default)) i) (λh2=>.sp 9 a (by rw [q _ rfl] at h;rw [e] at h2;unfold jf;rw [h,h2];rfl)) λh2=>.up a hm (by rw [q _ rfl] at h;rw [e] at h2;unfold jf;rw [h,h2];rfl)))) he
 exact gC (V:=V0) [bc wd g SH.φE (rC A E)] 2 hlo (.b (decide ((l.length:Int) > most)) (λh=>xa h) λh=>.lp hu λt q=>w9 q h) (hr u w)
theorem JS (l:List SEG) (hl:okL SEG.Ok l):aJ wd lL SH.φE (rIs (uO l)) [dU l,.int .i64 20,.fn vw [] [],.fn rz [] []] []:=xE (A:=Vy) (E:=Fy) SEG.key (dU l) 20 l hl.1 (λi hi=>aJ.rC (λa b h=>SM.SEG.br (by simpa using h)) (Nb _ (hl.at hi))) (by kernel_rfl) (λi L k kn=>by kernel_rfl) λu w=>by kernel_rfl
theorem Gv (l:List FLAG) (hl:okL FLAG.Ok l):aJ wd qF SH.φE (rIs (uY l)) [uZ l,.int .i64 30,.fn AW [] [],.fn ry [] []] []:=xE (A:=VA) (E:=nU) FLAG.key (uZ l) 30 l hl.1 (λi hi=>aJ.rC (λa b h=>SM.FLAG.br (by simpa using h)) (J4 _ (hl.at hi))) (by kernel_rfl) (λi L k kn=>by kernel_rfl) λu w=>by kernel_rfl
theorem EF (l:List LAYER) (hl:okL LAYER.Ok l):aJ wd oe SH.φE (rIs (uT l)) [uU l,.int .i64 6,.fn w6 [] [],.fn rv [] []] []:=xE (A:=Vz) (E:=jt) LAYER.key (uU l) 6 l hl.1 (λi hi=>aJ.rC (λa b h=>SM.LAYER.br (by simpa using h)) (Gs _ (hl.at hi))) (by kernel_rfl) (λi L k kn=>by kernel_rfl) λu w=>by kernel_rfl
theorem Gw (l:List EXPT) (hl:okL EXPT.Ok l):aJ wd jm SH.φE (rIs (yx l)) [uM l,.int .i64 16,.fn oh [] [],.fn ru [] []] []:=xE (A:=Vx) (E:=pX) EXPT.key (uM l) 16 l hl.1 (λi hi=>aJ.rC (λa b h=>SM.EXPT.br (by simpa using h)) (J5 _ (hl.at hi))) (by kernel_rfl) (λi L k kn=>by kernel_rfl) λu w=>by kernel_rfl
theorem Nq (e:ENV) (he:e.Ok):aJ wd jE SH.φE (rIs (iG e)) [.agg e.c] []:=
 cW (V:=V0) [Jt,k0,nd,j7,bc wd kC SH.φE (rIs (ya e.attrs)),bc wd lL SH.φE (rIs (uO e.segs)),bc wd qF SH.φE (rIs (uY e.flags)),bc wd oe SH.φE (rIs (uT e.layers)),bc wd jm SH.φE (rIs (yx e.expts))] 2
  (.call (ku e.salt he.salt) λx qx=>.call (bW (!x) 2) λt1 q1=>.call (bW (bif decide (e.hold < 0) then true else decide (e.hold > 10000)) 3) λt2 q2=>.call (dT e.hkind) λy qy=>.call (bW (bif !y then bif !e.hkind==[] then true else e.hold !=0 else false) 6) λt3 q3=>.call (Ke e.attrs he.attrs) λt4 q4=>.call (z7 t1 t2 t3 t4) λt qt=>
  have h:iG e=bif t !=0 then t else bif uO e.segs !=0 then uO e.segs else bif uY e.flags !=0 then uY e.flags else bif uT e.layers !=0 then uT e.layers else yx e.expts:=by
   rw [show t=bif t1 !=0 then t1 else bif t2 !=0 then t2 else bif t3 !=0 then t3 else bif t4 !=0 then t4 else 0 from qt _ _ rfl,ch,ch,ch,ch,zr,q1 _ _ rfl,wh rfl,q2 _ _ rfl,wh rfl,q3 _ _ rfl,wh rfl,qx _ rfl,qy _ rfl,show t4=ya e.attrs from q4]
   unfold iG rA
   cases !df e.salt <;> cases (bif decide (e.hold < 0) then true else decide (e.hold > 10000)) <;> cases (bif !ea e.hkind then bif !e.hkind==[] then true else e.hold !=0 else false) <;> rfl
  .b (t !=0) (λh0=>.r t (by unfold rIs;rw [h,h0];rfl)) λh0=>by
   rw [h,h0]
   exact .call (JS _ he.segs) λt6 q6=>pass q6 λ_=>.call (Gv _ he.flags) λt7 q7=>pass q7 λ_=>.call (EF _ he.layers) λt8 q8=>pass q8 λ_=>.call (Gw _ he.expts) λt9 q9=>.r t9 q9) (by kernel_rfl)
open Go.SM (ENV TX TXS txA KOk rlP whens)
open Go.SO (FH flC zf vN SmF SmT)
theorem _root_.Go.Ab.RT.non {α σ ι:Type} {S:α->St} {Inv:α->Prop} {μ:α->Nat} {out:σ->(Ex->St->Res)->Res} {Post:α->σ->Prop} {v:α} (h:False):RT S Inv μ out Post v (λ(_:ι) _ _=>none):=h.elim
structure SGR where
 n:Nat
 g:Nat->SEG
instance:Inhabited SGR:=⟨⟨0,λ_=>default⟩⟩
def sgA (k:Nat) (r:SGR):List AV:=[.str [],.str [],.int .i64 0,nA,.gsl k 9 r.n,nA,nA,nA]
def sgR (r:SGR):Nat->List AV:=λj=>(r.g j).c
def sgQ (r:SGR):AO:=.grw 0 9 r.n (sgR r)
noncomputable def VFq:Env:={V0 with byRef:=λf=>Nat.beq f ep||Nat.beq f cJ}
noncomputable instance:EnvOk VFq wd:=⟨rfl,rfl,tC,tR⟩
def φKq (r:SGR) (x:TXS):AV×List AO:=(txA x.1 x.2,[sgQ r])
def KEq (r:SGR) (v:Nat×(Nat->List UInt8)×Int):St:={env:=[(1,.ref 1 0),(3,.sl (.key 20) 1 v.1 (TX v.2.1)),(4,.int .i64 v.2.2)],objs:=[(1,.cells (sgA 1000000 r)),(20,.own 1 v.1),(1000000,sgQ r)]}
def To (r:SGR) (x:TXS) (k:Ex->St->Res):Res:=k (.exit 0) {env:=[(3,.sl (.key 20) 1 x.1 (TX x.2))],objs:=[(20,.own 1 x.1),(1000000,sgQ r)]}
theorem TQ {n:Nat} {i:Int} (h:ix n i) (hd:decide (i < (n:Int))=true):(within i n&&Nat.beq n n)=true:=by rw [bu h hd,Nat.beq_refl];rfl
theorem TP {n:Nat} {i:Int} (h:ix n i) (hd:decide (i < (n:Int))=true):(Nat.blt i.toNat n&&Nat.beq n n)=true:=by
 have h1:=of_decide_eq_true hd
 have h2:=h.1
 rw [k9 (by omega),Nat.beq_refl];rfl
theorem JY (r:SGR) (hl:r.n<=1000000):aJ wd cJ (φKq r) (rKs r.n λj=>(r.g j).key) [.agg (sgA 1000000 r)] [sgQ r]:=by
 obtain ⟨u,o,hu,h⟩:=aw (V:=VFq) (T:=[]) (d:=1) (W:=[]) (f:=cJ) (p:=P3) (Lf:=λL=>L) (KEq r) (KIn r.n λj=>(r.g j).key) (λv=>(r.n - v.2.2).toNat) (To r) (λx=>x.1=r.n/\∀j,j < x.1->x.2 j=(r.g j).key) (by kernel_rfl)
  (λv hv=>.b (decide (v.2.2 < (r.n:Int))) (λh=>.n (TQ hv.i h) (.n (TP hv.i h) (.n (av (b:=16) (n:=v.1+1) (m:=v.1) (by have:=hv.n;have:=hv.i.2;omega)) (.go
    {env:=[(1,.ref 1 0),(3,.sl (.key 20) 1 (v.1+1) (af v.1 1 (TX v.2.1) (ae [.str []] [(0,.str (r.g v.2.2.toNat).key)]))),(4,.int .i64 (IntKind.wrap .i64 (v.2.2+1)))],objs:=[(1,.cells (sgA 1000000 r)),(20,.own 1 (v.1+1)),(1000000,sgQ r)]}
    (v.1+1,lB v.2.1 v.1 (r.g v.2.2.toNat).key,IntKind.wrap .i64 (v.2.2+1)) (hv.next hl (of_decide_eq_true h)) (ax hv.i (by omega) (of_decide_eq_true h)).2 (by rw [Eo];rfl)))))
   λh=>.fi (v.1,v.2.1) ⟨by have:=of_decide_eq_false h;have:=hv.n;have:=hv.i.2;show v.1=r.n;omega,hv.a⟩) (λv L k kn=>by kernel_rfl)
 exact gC (V:=VFq) [] 1 h (.lp (hu (0,λ_=>[],0) (.zero _ _ _)) λt q=>.r t q) (by kernel_rfl)
def SL (r:SGR) (v:FL) (off:Int) (a b c d:AV) (own:List (Nat×AO)):List (Nat×AO):=(4,.cells (sgA 1000001 r))::(6,.cells zf)::(7,.cells (flC v.h off a b c d))::(own++[(aa,aZ v.C),(1000001,sgQ r)])
def U9 (r:SGR) (v:FL):List (Nat×AO):=SL r v 0 (kA 42 4 v.a) nA nA nA [(42,.own 4 v.a.n)]
def U8 (r:SGR) (v:FL):List (Nat×AO):=SL r v v.off (kA 42 4 v.a) (kA 79 2 v.b) nA nA [(42,.own 4 v.a.n),(79,.own 2 v.b.n)]
def U7 (r:SGR) (v:FL):List (Nat×AO):=SL r v v.off (kA 42 4 v.a) (kA 79 2 v.b) (kA 106 3 v.c) nA [(42,.own 4 v.a.n),(79,.own 2 v.b.n),(106,.own 3 v.c.n)]
def U6 (r:SGR) (v:FL):List (Nat×AO):=SL r v v.off (kA 42 4 v.a) (kA 79 2 v.b) (kA 106 3 v.c) (kA 131 11 v.d) [(42,.own 4 v.a.n),(79,.own 2 v.b.n),(106,.own 3 v.c.n),(131,.own 11 v.d.n)]
def VH (r:SGR) (v:FL):St:={env:=flN v++[(9,.int .i64 v.i)],objs:=U9 r v}
def VG (r:SGR) (v:FL):St:={env:=flN v++[(10,.int .i64 v.i)],objs:=U8 r v}
def VF (r:SGR) (v:FL):St:={env:=flN v++[(11,.int .i64 v.i)],objs:=U7 r v}
def VD (r:SGR) (v:FL):St:={env:=flN v++[(13,.sl .fit 1 4 (TX vN)),(14,.int .i64 v.i)],objs:=U6 r v}
def VL (r:SGR) (v:FL) (k:Ex->St->Res):Res:=k (.exit 0) {env:=flN v,objs:=U9 r v}
def VK (r:SGR) (v:FL) (k:Ex->St->Res):Res:=k (.exit 2) {env:=flN v,objs:=U8 r v}
def VJ (r:SGR) (v:FL) (k:Ex->St->Res):Res:=k (.exit 4) {env:=flN v,objs:=U7 r v}
def U5 (r:SGR) (v:FL) (d:AV):St:={env:=[(0,cR),(6,.ref 6 0),(7,.ref 7 0),(8,.int .i64 v.n)],objs:=[(6,.cells zf),(7,.cells (flC v.h v.off (kA 42 4 v.a) (kA 79 2 v.b) (kA 106 3 v.c) d)),(42,.own 4 v.a.n),(79,.own 2 v.b.n),(106,.own 3 v.c.n),(131,.own 11 v.d.n),(aa,aZ v.C),(1000001,sgQ r)]}
def VI (r:SGR) (v:FL) (k:Ex->St->Res):Res:=cond v.cut (k (.exit 6) (U5 r v (.sl .no 11 v.m v.d.g))) (k (.exit 6) (U5 r v (kA 131 11 v.d)))
noncomputable abbrev tFq (r:SGR):List Ent:=[me,MD,IA,bc wd cJ (φKq r) (rKs r.n λj=>(r.g j).key),eEx,Uh,Pz]
theorem Rq (r:SGR):∃ (u:St->Bool) (w:St->FL),(∀v,(FA v/\(v.a.n:Int)=v.i/\v.i<=v.n)/\(∀j,j < v.a.n->rVl (v.a.g j))->cn u w (VH r v) F1P)/\∀L:List (List Nat×Orc),bH (VFq.run (tFq r) 1 [] L [] ep) ep [1,1,1,0,1,0] (mkO u w (VL r)):=
 aw (Lf:=λL=>L) (VH r) (λv=>(FA v/\(v.a.n:Int)=v.i/\v.i<=v.n)/\∀j,j < v.a.n->rVl (v.a.g j)) (λv=>(v.n - v.i).toNat) (VL r) F1P (by kernel_rfl)
  (λv hv=>.b (decide (v.i < v.n)) (λh=>
    have h:=of_decide_eq_true h
    have hn:=hv.1.2.1
    have h4:=hv.1.1.n
    have hw:IntKind.wrap .i64 (v.i+1)=v.i+1:=wrap_i64 (by omega) (by omega)
    .call (rO hv.1.1.C v.h.kind hv.1.1.kind) λt q=>.n (av (b:=56) (n:=v.a.n+1) (m:=v.a.n) (by omega))
     (.to {v with a:=⟨v.a.n+1,af v.a.n 1 v.a.g (ae zV [(0,.agg t.1.c)])⟩,C:=t.2,i:=IntKind.wrap .i64 (v.i+1)} ⟨⟨⟨hv.1.1.key,hv.1.1.kind,hv.1.1.n,q.2⟩,by show ((v.a.n+1:Nat):Int)=IntKind.wrap .i64 (v.i+1);rw [hw];omega,by show IntKind.wrap .i64 (v.i+1)<=v.n;rw [hw];omega⟩,cC (P:=rVl) hv.2 (FN q.1.1)⟩ (by show (v.n - IntKind.wrap .i64 (v.i+1)).toNat < (v.n - v.i).toNat;rw [hw];omega)))
   λh=>.fi v ⟨hv.1.1,by have:=of_decide_eq_false h;have:=hv.1.2;have:=hv.1.1.n;omega,hv.2⟩) (λv L k kn=>by kernel_rfl)
theorem Rp (r:SGR):∃ (u:St->Bool) (w:St->FL),(∀v,(F1P v/\v.i=0)/\v.b.n=0->cn u w (VG r v) F2P)/\∀L:List (List Nat×Orc),bH (VFq.run (tFq r) 1 [] L [] ep) ep [1,1,1,1,1,0,1,0] (mkO u w (VK r)):=
 aw (Lf:=λL=>L) (VG r) (λv=>(F1P v/\v.i=0)/\v.b.n=0) (λv=>0) (VK r) F2P (by kernel_rfl)
  (λv hv=>.b (decide (v.i < ((0:Nat):Int))) (λh=>
    have no:False:=by have:=of_decide_eq_true h;have:=hv.1.2;exact absurd (show (0:Int) < 0 by omega) (by decide)
    .call (aq hv.1.1.1.C 4 (by decide)) λt q=>.b (t.1==1) (λ_=>.non no) λ_=>.to {v with C:=t.2,i:=IntKind.wrap .i64 (v.i+1)} no.elim no.elim)
   λh=>.fi v ⟨hv.1.1,by have:=hv.2;omega,λj hj=>absurd hj (by rw [hv.2];exact Nat.not_lt_zero _)⟩) (λv L k kn=>by kernel_rfl)
theorem Ro (r:SGR):∃ (u:St->Bool) (w:St->FL),(∀v,(F2P v/\0<=v.i)/\(v.c.n:Int)<=v.i/\v.i<=3/\(∀j,j < v.c.n->TRw (v.c.g j))->cn u w (VF r v) F3P)/\∀L:List (List Nat×Orc),bH (VFq.run (tFq r) 1 [] L [] ep) ep [1,1,1,1,1,1,0,1,0] (mkO u w (VJ r)):=
 aw (Lf:=λL=>L) (VF r) (λv=>(F2P v/\0<=v.i)/\(v.c.n:Int)<=v.i/\v.i<=3/\∀j,j < v.c.n->TRw (v.c.g j)) (λv=>(4 - v.i).toNat) (VJ r) F3P (by kernel_rfl)
  (λv hv=>
   have hA:=hv.1.1.1.1
   .call (aq hA.C 3 (by decide)) λt q=>.b (decide (v.i < t.1)) (λh=>
    have h3:v.i < 3:=by have h:=of_decide_eq_true h;have q1:0<=t.1/\t.1 < 3:=q.1;omega
    have h0:=hv.1.2
    have hc:=hv.2.1
    have hw:IntKind.wrap .i64 (v.i+1)=v.i+1:=wrap_i64 (by omega) (by omega)
    have ok:∀ {c:RW} {D:CODES} {i:Int},D.Ok->F2P {v with c:=c,C:=D,i:=i}:=λhD=>⟨⟨⟨hA.key,hA.kind,hA.n,hD⟩,hv.1.1.1.2⟩,hv.1.1.2⟩
    have more:∀ {D:CODES} (x:List AV),D.Ok->TRw x->((F2P {v with c:=⟨v.c.n+1,af v.c.n 1 v.c.g (ae [.str [],.int .i64 0,nA] [(0,.agg x)])⟩,C:=D,i:=IntKind.wrap .i64 (v.i+1)}/\0<=IntKind.wrap .i64 (v.i+1))/\((v.c.n+1:Nat):Int)<=IntKind.wrap .i64 (v.i+1)/\IntKind.wrap .i64 (v.i+1)<=3/\∀j,j < v.c.n+1->TRw (af v.c.n 1 v.c.g (ae [.str [],.int .i64 0,nA] [(0,.agg x)]) j)):=λx hD hx=>⟨⟨ok hD,by rw [hw];omega⟩,by rw [hw];omega,by rw [hw];omega,cC (P:=TRw) hv.2.2.2 hx⟩
    have same:∀ {D:CODES},D.Ok->((F2P {v with C:=D,i:=IntKind.wrap .i64 (v.i+1)}/\0<=IntKind.wrap .i64 (v.i+1))/\(v.c.n:Int)<=IntKind.wrap .i64 (v.i+1)/\IntKind.wrap .i64 (v.i+1)<=3/\∀j,j < v.c.n->TRw (v.c.g j)):=λhD=>⟨⟨ok hD,by rw [hw];omega⟩,by rw [hw];omega,by rw [hw];omega,hv.2.2.2⟩
    have mu:(4 - IntKind.wrap .i64 (v.i+1)).toNat < (4 - v.i).toNat:=by rw [hw];omega
    .call (aq q.2 v.n (by have:=hA.n;omega)) λa qa=>.call (tJ qa.2) λb qb=>.call (aq qb.2 4 (by decide)) λc qc=>
    have tr:∀ (kd:List UInt8),kd.length<=40->TRw [.str kd,.int .i64 (IntKind.wrap .i64 (1+a.1)),cr b.1]:=λkd hk=>⟨TGT.mk kd _ b.1,⟨Nat.le_trans hk (by decide),nR qb.1⟩,TellL.refl rfl⟩
    .b (c.1==1)
     (λ_=>.b (decide ((b.1.length:Int) > 0)) (λ_=>.n (av (b:=48) (n:=v.c.n+1) (m:=v.c.n) (by omega)) (.to {v with c:=⟨v.c.n+1,af v.c.n 1 v.c.g (ae [.str [],.int .i64 0,nA] [(0,.agg [.str MH,.int .i64 (IntKind.wrap .i64 (1+a.1)),cr b.1])])⟩,C:=c.2,i:=IntKind.wrap .i64 (v.i+1)} (more _ qc.2 (tr MH (by decide))) mu))
      λ_=>.to {v with C:=c.2,i:=IntKind.wrap .i64 (v.i+1)} (same qc.2) mu)
     λ_=>.b (decide ((b.1.length:Int) > 0)) (λ_=>.n (av (b:=48) (n:=v.c.n+1) (m:=v.c.n) (by omega)) (.to {v with c:=⟨v.c.n+1,af v.c.n 1 v.c.g (ae [.str [],.int .i64 0,nA] [(0,.agg [.str rq,.int .i64 (IntKind.wrap .i64 (1+a.1)),cr b.1])])⟩,C:=c.2,i:=IntKind.wrap .i64 (v.i+1)} (more _ qc.2 (tr rq (by decide))) mu))
      λ_=>.to {v with C:=c.2,i:=IntKind.wrap .i64 (v.i+1)} (same qc.2) mu)
   λ_=>.fi {v with C:=t.2} ⟨⟨⟨⟨hA.key,hA.kind,hA.n,q.2⟩,hv.1.1.1.2⟩,hv.1.1.2⟩,by have:=hv.2;show v.c.n<=3;omega,hv.2.2.2⟩) (λv L k kn=>by kernel_rfl)
theorem Rn (r:SGR) (hr:r.n<=7/\∀j,j < r.n->(r.g j).key.length<=40):∃ (u:St->Bool) (w:St->FL),(∀v,(F3P v/\0<=v.i)/\(v.d.n:Int)<=v.i/\v.i<=4/\v.cut=false/\(∀j,j < v.d.n->RRw (v.d.g j))->cn u w (VD r v) F4Q)/\∀L:List (List Nat×Orc),bH (VFq.run (tFq r) 1 [] L [] ep) ep [1,1,1,1,1,1,1,1,0,1,0] (mkO u w (VI r)):=
 aw (Lf:=λL=>L) (VD r) (λv=>(F3P v/\0<=v.i)/\(v.d.n:Int)<=v.i/\v.i<=4/\v.cut=false/\∀j,j < v.d.n->RRw (v.d.g j)) (λv=>(5 - v.i).toNat) (VI r) F4Q (by kernel_rfl)
  (λv hv=>
   have hA:=hv.1.1.1.1.1
   have ok:∀ {d:RW} {D:CODES} {i:Int} {c:Bool} {m:Nat},D.Ok->F3P {v with d:=d,C:=D,i:=i,cut:=c,m:=m}:=λhD=>⟨⟨⟨⟨hA.key,hA.kind,hA.n,hD⟩,hv.1.1.1.1.2⟩,hv.1.1.1.2⟩,hv.1.1.2⟩
   have hd:=hv.2.1
   have h0:=hv.1.2
   have h5:=hv.2.2.1
   .call (aq hA.C 5 (by decide)) λt q=>.b (decide (v.i < t.1)) (λh=>
    have h4:v.i < 4:=by have h:=of_decide_eq_true h;have q1:0<=t.1/\t.1 < 5:=q.1;omega
    have hw:IntKind.wrap .i64 (v.i+1)=v.i+1:=wrap_i64 (by omega) (by omega)
    .n (c:=within v.i 4) (aA h0 h4) (.call (JY r (by have:=hr.1;omega)) λks qk=>
    have hk:ks.1<=7/\∀j,j < ks.1->(ks.2 j).length<=40:=⟨by have:=qk.1;have:=hr.1;omega,λj hj=>by rw [qk.2 j hj];exact hr.2 _ (by have:=qk.1;omega)⟩
    .call (pY 3 (.inr rfl) ks.1 ks.2 hk q.2) λx qx=>.call (oj qx.2 v.n (by have:=hA.n;omega)) λs qs=>
    have hr:=cC (P:=RRw) (h:=ae zR [(0,.agg (ruC (vN v.i.toNat) x.1 s.1))]) hv.2.2.2.2 ⟨RULE.mk (vN v.i.toNat) x.1 s.1,⟨SO.vM _,qx.1,qs.1⟩,TellL.refl rfl⟩
    .n (av (b:=184) (n:=v.d.n+1) (m:=v.d.n) (by omega)) (.call (FX (n:=v.d.n+1) (g:=af v.d.n 1 v.d.g (ae zR [(0,.agg (ruC (vN v.i.toNat) x.1 s.1))])) (by omega) hr) λz _=>
    have w1:IntKind.wrap .i64 (((v.d.n+1:Nat):Int) - 1)=((v.d.n:Nat):Int):=by rw [wrap_i64 (by omega) (by omega)];omega
    .b (bif !z.ok then true else decide ((z.n:Int) > 0))
     (λ_=>.n (c:=decide ((0:Int)<=((0:Nat):Int))&&(decide (((0:Nat):Int)<=IntKind.wrap .i64 (((v.d.n+1:Nat):Int) - 1))&&decide (IntKind.wrap .i64 (((v.d.n+1:Nat):Int) - 1)<=((v.d.n+1:Nat):Int)))) (slT (Int.le_refl _) (by rw [w1];omega) (by rw [w1];omega))
      (.fi {v with d:=⟨v.d.n+1,λj=>af v.d.n 1 v.d.g (ae zR [(0,.agg (ruC (vN v.i.toNat) x.1 s.1))]) (Int.toNat ((0:Nat):Int)+j)⟩,C:=s.2,cut:=true,m:=Int.toNat (IntKind.wrap .i64 (((v.d.n+1:Nat):Int) - 1)) - Int.toNat ((0:Nat):Int)}
       ⟨ok qs.2,⟨by show Int.toNat (IntKind.wrap .i64 (((v.d.n+1:Nat):Int) - 1)) - 0<=5;rw [w1];omega,λj hj=>by
        have hj:j < Int.toNat (IntKind.wrap .i64 (((v.d.n+1:Nat):Int) - 1)) - 0:=hj
        rw [w1] at hj
        show RRw (af v.d.n 1 v.d.g _ (0+j))
        rw [Nat.zero_add];exact hr j (by omega)⟩,λh=>by cases h⟩))
     λ_=>.to {v with d:=⟨v.d.n+1,af v.d.n 1 v.d.g (ae zR [(0,.agg (ruC (vN v.i.toNat) x.1 s.1))])⟩,C:=s.2,i:=IntKind.wrap .i64 (v.i+1)}
      ⟨⟨ok qs.2,by show 0<=IntKind.wrap .i64 (v.i+1);rw [hw];omega⟩,by show ((v.d.n+1:Nat):Int)<=IntKind.wrap .i64 (v.i+1);rw [hw];omega,by show IntKind.wrap .i64 (v.i+1)<=4;rw [hw];omega,hv.2.2.2.1,hr⟩ (by show (5 - IntKind.wrap .i64 (v.i+1)).toNat < (5 - v.i).toNat;rw [hw];omega))))
   λ_=>.fi {v with C:=t.2,cut:=false,m:=v.d.n} ⟨ok q.2,⟨by show v.d.n<=5;omega,hv.2.2.2.2⟩,λ_=>rfl⟩) (λv L k kn=>by kernel_rfl)
def φFq (x:(FLAG×CODES)×SGR):AV×List AO:=(.agg x.1.1.c,[aZ x.1.2,sgQ x.2])
instance:Inhabited ((FLAG×CODES)×SGR):=⟨(default,default)⟩
def rFq (_:List AV) (os:List AO) (x:(FLAG×CODES)×SGR):Prop:=(DF x.1.1/\x.1.2.Ok)/\∀a b,os=[a,b]->sgQ x.2=b
theorem vX {v:FL} (hv:F4Q v) {s:SERVE} (hs:SmV s) {D:CODES} (hD:D.Ok) {l:List AV} {a:AO} {r:SGR}:Run (rFq l [a,sgQ r]) φFq (some (.agg [.str v.h.key,.int .i64 v.h.kind,.sl .no 4 v.a.n v.a.g,.bool v.h.on,.int .i64 v.off,.sl .no 2 v.b.n v.b.g,.sl .no 3 v.c.n v.c.g,.sl .no 11 v.m v.d.g,.int .i64 s.var,.str s.kind,.str s.by',.str s.salt,ou s.split],[aZ D,sgQ r])):=by
 obtain ⟨⟨⟨⟨hA,ha⟩,hb⟩,hc⟩,hd,_⟩:=hv
 obtain ⟨la,a1,a2,a3⟩:=AH ha.2
 obtain ⟨lb,b1,b2,b3⟩:=cw (R:=PRQ.c) hb.2
 obtain ⟨lc,c1,c2,c3⟩:=cw (R:=TGT.c) hc.2
 obtain ⟨ld,d1,d2,d3⟩:=cw (R:=RULE.c) hd.2
 exact .t ((FLAG.mk v.h.key v.h.kind la v.h.on v.off lb lc ld s,D),r) ⟨⟨⟨⟨Nat.le_trans hA.key (by decide),⟨by have:=ha.1;show la.length<=50;omega,a2⟩,⟨by have:=hb.1;show lb.length<=50;omega,b2⟩,⟨by have:=hc.1;show lc.length<=50;omega,c2⟩,⟨by have:=hd.1;show ld.length<=50;omega,λr hr=>⟨(d2 r hr).1,(d2 r hr).2.1.fit,smv (d2 r hr).2.2⟩⟩,smv hs⟩,by have:=ha.1;show 1<=la.length/\la.length<=4;omega⟩,hD⟩,λ_ _ h=>(List.cons.inj (List.cons.inj h).2).1⟩
  (.agg (.cons (.same rfl) (.cons (.same rfl) (.cons (a3 .no) (.cons (.same rfl) (.cons (.same rfl) (.cons (b3 .no 2 λ_=>⟨rfl,rfl⟩) (.cons (c3 .no 3 λ_=>⟨rfl,rfl⟩) (.cons (d3 .no 11 λ_=>⟨rfl,rfl⟩) (TellL.refl rfl))))))))))
theorem Lx (r:SGR) (hr:r.n<=7/\∀j,j < r.n->(r.g j).key.length<=40) (s:List UInt8) (hs:s.length<=40) {C:CODES} (hC:C.Ok):aJ wd ep φFq rFq [cR,.agg (sgA 1000001 r),.str s] [aZ C,sgQ r]:=by
 obtain ⟨u1,w1,h1,l1⟩:=Rq r
 obtain ⟨u2,w2,h2,l2⟩:=Rp r
 obtain ⟨u3,w3,h3,l3⟩:=Ro r
 obtain ⟨u4,w4,h4,l4⟩:=Rn r hr
 exact dy (V:=VFq) (T:=tFq r) (d:=1) 0 (ah (l1 _) (ah (l2 _) (ah (l3 _) (ah (l4 _) aE)))) aB
  (.call (aq hC 5 (by decide)) λa qa=>.call (aq qa.2 6 (by decide)) λb qb=>.call (aq qb.2 4 (by decide)) λc qc=>
   have hk:IntKind.wrap .i64 (1+a.1)=1+a.1:=by have q:0<=a.1/\a.1 < 5:=qa.1;exact wrap_i64 (by omega) (by omega)
   have hn:IntKind.wrap .i64 (1+c.1)=1+c.1:=by have q:0<=c.1/\c.1 < 4:=qc.1;exact wrap_i64 (by omega) (by omega)
   .lp (h1 (FL.mk (FH.mk s (IntKind.wrap .i64 (1+a.1)) (decide (b.1 < 5))) 0 ⟨0,λ_=>zV⟩ default default default c.2 (IntKind.wrap .i64 (1+c.1)) 0 false 0) ⟨⟨⟨hs,by have q:0<=a.1/\a.1 < 5:=qa.1;show 1<=IntKind.wrap .i64 (1+a.1)/\IntKind.wrap .i64 (1+a.1)<=5;rw [hk];omega,by have q:0<=c.1/\c.1 < 4:=qc.1;show 1<=IntKind.wrap .i64 (1+c.1)/\IntKind.wrap .i64 (1+c.1)<=4;rw [hn];omega,qc.2⟩,rfl,by have q:0<=c.1/\c.1 < 4:=qc.1;show 0<=IntKind.wrap .i64 (1+c.1);rw [hn];omega⟩,λj hj=>absurd hj (Nat.not_lt_zero _)⟩) λv hv=>
   .call (aq hv.1.C v.n (by have:=hv.1.n;omega)) λo qo=>.lp (h2 {v with off:=IntKind.wrap .i64 (1+o.1),b:=⟨0,λ_=>[.str [],.int .i64 0]⟩,C:=o.2,i:=0} ⟨⟨⟨⟨hv.1.key,hv.1.kind,hv.1.n,qo.2⟩,hv.2⟩,rfl⟩,rfl⟩) λv2 q2=>
   .lp (h3 {v2 with c:=⟨0,λ_=>[.str [],.int .i64 0,nA]⟩,i:=0} ⟨⟨⟨⟨⟨q2.1.1.key,q2.1.1.kind,q2.1.1.n,q2.1.1.C⟩,q2.1.2⟩,q2.2⟩,Int.le_refl _⟩,Int.le_refl _,by show (0:Int)<=3;decide,λj hj=>absurd hj (Nat.not_lt_zero _)⟩) λv3 q3=>
   have hh:=h4 {v3 with d:=⟨0,λ_=>zR⟩,i:=0,cut:=false} ⟨⟨⟨⟨⟨⟨q3.1.1.1.key,q3.1.1.1.kind,q3.1.1.1.n,q3.1.1.1.C⟩,q3.1.1.2⟩,q3.1.2⟩,q3.2⟩,Int.le_refl _⟩,Int.le_refl _,by show (0:Int)<=4;decide,rfl,λj hj=>absurd hj (Nat.not_lt_zero _)⟩
   have hs:cn u4 w4 {env:=flN v3++[(13,.sl .fit 1 4 (ae [.str []] [(0,.str [102,105,114,115,116]),(1,.str [115,101,99,111,110,100]),(2,.str [116,104,105,114,100]),(3,.str [102,111,117,114,116,104])])),(14,.int .i64 0)],objs:=U6 r {v3 with d:=⟨0,λ_=>zR⟩}} F4Q:=by rw [SO.zz];exact hh
   .lp hs λv4 q4=>
   have sv:=oj q4.1.1.1.1.C v4.n (by have:=q4.1.1.1.1.n;omega)
   .b v4.cut (λ_=>.call sv λy qy=>vX q4 qy.1 qy.2) λhcut=>.call sv λy qy=>by
    have h:=vX (l:=[cR,.agg (sgA 1000001 r),.str s]) (a:=aZ C) (r:=r) q4 qy.1 qy.2
    rw [q4.2.2 hcut] at h
    exact h) (by kernel_rfl)
open Go.SM (ENV ATT pd dU uZ uU uM iG)
open Go.SO (SmG SmT SmF SmL SmX SmE ATB)
noncomputable def Nu (n:Nat) (g g':Nat->List AV):Bool:=@decide (∀j,j < n->g' j=g j) (Classical.propDecidable _)
noncomputable def Kv (k:Nat) (g':Nat->List AV):Vw:=λs f=>
 match alook s.objs k with
 | some (.grw q sz n g)=>cond (Nu n g g') (f {env:=s.env,objs:=aput s.objs k (.grw q sz n g')}) none
 | _=>none
theorem Kg {n:Nat} {g g':Nat->List AV} (h:∀j,j < n->g' j=g j):Nu n g g'=true:=@decide_eq_true _ (Classical.propDecidable _) h
theorem Dz:∀l:List (Nat×AO),ObjsLe l l
 | []=>.nil
 | (k,o)::r=>.cons k o o r r (.same o) (Dz r)
theorem HV {k:Nat} {o o':AO} (h:ObjLe o o'):∀l:List (Nat×AO),alook l k=some o->ObjsLe l (aput l k o')
 | [],e=>by cases e
 | (i,x)::r,e=>by
  unfold aput
  unfold alook at e
  cases hb:Nat.beq i k with
  | true=>
   rw [hb] at e
   have e:some x=some o:=e
   cases e
   exact .cons _ _ _ _ _ h (Dz r)
  | false=>rw [hb] at e;exact .cons _ _ _ _ _ (.same x) (HV h r e)
theorem s8 (k:Nat) (g':Nat->List AV):fW (Kv k g'):=λs f r h=>by
 unfold Kv at h
 split at h
 ·rename_i q sz n g hk
  obtain ⟨hb,h⟩:=bB h
  have hb:∀j,j < n->g' j=g j:=@of_decide_eq_true _ (Classical.propDecidable _) hb
  exact ⟨_,h,λB c a hr hn=>⟨c,rfl,hr.weak (HV (.grw q sz n g g' hb) _ hk),hn⟩⟩
 ·cases h
theorem LK {n:Nat} {z g:Nat->List AV} {j:Nat} (hj:j < n):af 0 n z g j=g j:=by rw [fS (Nat.zero_le _) (by omega),Nat.sub_zero]
theorem G0 {b n:Nat} (h:n*b<=1000000):roomy b n=true:=Nat.ble_eq_true_of_le (by omega)
noncomputable def VCp:Env:={Vb [] [5,9,13,17,21] [] with
 trim:=λf p=>cond (Nat.beq f IJ) (JH [tr [1,1,1,1,1,1] [1,2] [1,2,5,9,13,17,21]] p) (V0.trim f p)}
noncomputable instance:EnvOk VCp wd:=⟨rfl,rfl,tC,tR⟩
def cpA (e:ENV):Nat->List AV:=λj=>[.str (e.attrs.getD j ([],[],0)).1,.str (e.attrs.getD j ([],[],0)).2.1,.int .i64 (e.attrs.getD j ([],[],0)).2.2]
def cpS (e:ENV):Nat->List AV:=λj=>(e.segs.getD j default).c
def cpF (e:ENV):Nat->List AV:=λj=>(e.flags.getD j default).c
def cpL (e:ENV):Nat->List AV:=λj=>(e.layers.getD j default).c
def cpX (e:ENV):Nat->List AV:=λj=>(e.expts.getD j default).c
def φCp (e:ENV):AV×List AO:=(.agg [.str e.salt,.str e.hkind,.int .i64 e.hold,.gsl 1000000 3 (0+e.attrs.length),.gsl 1000001 9 (0+e.segs.length),.gsl 1000002 13 (0+e.flags.length),.gsl 1000003 6 (0+e.layers.length),.gsl 1000004 12 (0+e.expts.length)],
 [.grw 0 3 (0+e.attrs.length) (cpA e),.grw 0 9 (0+e.segs.length) (cpS e),.grw 0 13 (0+e.flags.length) (cpF e),.grw 0 6 (0+e.layers.length) (cpL e),.grw 0 12 (0+e.expts.length) (cpX e)])
noncomputable abbrev wCp (e:ENV):List (List Nat×Vw):=[([1,1,1,1,1,1],Eu (Kv 5 (cpA e)) (Eu (Kv 9 (cpS e)) (Eu (Kv 13 (cpF e)) (Eu (Kv 17 (cpL e)) (Kv 21 (cpX e))))))]
theorem Pe (e:ENV) (he:e.attrs.length<=1000/\e.segs.length<=1000/\e.flags.length<=1000/\e.layers.length<=1000/\e.expts.length<=1000):aJ wd IJ φCp (rIs e) [.agg e.c] []:=by
 obtain ⟨h1,h2,h3,h4,h5⟩:=he
 have cs:∀ {n:Nat} {g:Nat->List AV},Nu (0+n) (af 0 n (λ_=>[]) g) g=true:=fun {n g}=>Kg λj hj=>(LK (by omega)).symm
 exact dy (V:=VCp) (T:=[]) (d:=1) (W:=wCp e) 2 aE (cY (n9 (s8 _ _) (n9 (s8 _ _) (n9 (s8 _ _) (n9 (s8 _ _) (s8 _ _))))) aB)
  (.n (c:=roomy 40 (0+e.attrs.length)) (G0 (by omega)) (.n (c:=roomy 168 (0+e.segs.length)) (G0 (by omega)) (.n (c:=roomy 216 (0+e.flags.length)) (G0 (by omega)) (.n (c:=roomy 88 (0+e.layers.length)) (G0 (by omega)) (.n (c:=roomy 208 (0+e.expts.length)) (G0 (by omega))
  (.n (cs (n:=e.attrs.length) (g:=cpA e)) (.n (cs (n:=e.segs.length) (g:=cpS e)) (.n (cs (n:=e.flags.length) (g:=cpF e)) (.n (cs (n:=e.layers.length) (g:=cpL e)) (.n (cs (n:=e.expts.length) (g:=cpX e)) (.r e rfl)))))))))) ) (by kernel_rfl)
abbrev atc (a:ATT):List AV:=[.str a.1,.str a.2.1,.int .i64 a.2.2]
def RAt (cs:List AV):Prop:=∃a:ATT,(a.1.length<=1000/\a.2.1.length<=1000)/\TellL cs (atc a)
def RSg (b:Nat) (cs:List AV):Prop:=∃x:SEG,SmG b x/\TellL cs x.c
def RFg (b:Nat) (cs:List AV):Prop:=∃x:FLAG,SmF b x/\TellL cs x.c
def RLr (b:Nat) (cs:List AV):Prop:=∃x:LAYER,SmL b x/\TellL cs x.c
def RXt (b:Nat) (cs:List AV):Prop:=∃x:EXPT,SmX b x/\TellL cs x.c
structure EL (b:Nat) (a s f l x:RW):Prop where
 a:a.n<=b/\∀j,j < a.n->RAt (a.g j)
 s:s.n<=b/\∀j,j < s.n->RSg b (s.g j)
 f:f.n<=b/\∀j,j < f.n->RFg b (f.g j)
 l:l.n<=b/\∀j,j < l.n->RLr b (l.g j)
 x:x.n<=b/\∀j,j < x.n->RXt b (x.g j)
theorem LF {b:Nat} {s k:List UInt8} {ho:Int} {a1 a2 a3 a4 a5:RW} (hs:s.length<=1000) (hk:k.length<=1000) (h:EL b a1 a2 a3 a4 a5) :
  ∃e:ENV,SmE b e/\TellL [.str s,.str k,.int .i64 ho,.sl .no 3 a1.n a1.g,.sl .no 9 a2.n a2.g,.sl .no 13 a3.n a3.g,.sl .no 6 a4.n a4.g,.sl .no 12 a5.n a5.g] e.c:=by
 obtain ⟨l1,p1,q1,r1⟩:=cw (R:=atc) h.a.2
 obtain ⟨l2,p2,q2,r2⟩:=cw (R:=SEG.c) h.s.2
 obtain ⟨l3,p3,q3,r3⟩:=cw (R:=FLAG.c) h.f.2
 obtain ⟨l4,p4,q4,r4⟩:=cw (R:=LAYER.c) h.l.2
 obtain ⟨l5,p5,q5,r5⟩:=cw (R:=EXPT.c) h.x.2
 exact ⟨ENV.mk s k ho l1 l2 l3 l4 l5,⟨hs,hk,⟨by show l1.length<=b;rw [p1];exact h.a.1,q1⟩,⟨by show l2.length<=b;rw [p2];exact h.s.1,q2⟩,⟨by show l3.length<=b;rw [p3];exact h.f.1,q3⟩,⟨by show l4.length<=b;rw [p4];exact h.l.1,q4⟩,⟨by show l5.length<=b;rw [p5];exact h.x.1,q5⟩⟩,
  .cons (.same rfl) (.cons (.same rfl) (.cons (.same rfl) (.cons (r1 .no 3 λ_=>⟨rfl,rfl⟩) (.cons (r2 .no 9 λ_=>⟨rfl,rfl⟩) (.cons (r3 .no 13 λ_=>⟨rfl,rfl⟩) (.cons (r4 .no 6 λ_=>⟨rfl,rfl⟩) (.cons (r5 .no 12 λ_=>⟨rfl,rfl⟩) .nil)))))))⟩
def φNw (C:CODES):AV×List AO:=(.ref 1000000 0,[aZ C])
def rNw (_:List AV) (_:List AO) (C:CODES):Prop:=C.Ok
theorem HE {n:Nat} {g:Nat->Int} (hg:∀j,j < n->0<=g j/\g j < 256):aJ wd RR φNw rNw [.sl .no 1 n λj=>[.int .u8 (g j)],.int .i64 400] []:=
 dy (V:=V0) (T:=[]) (d:=1) 1 aE aB (.b (decide ((n:Int) > 400)) (λh=>
   have h:=of_decide_eq_true h
   .n (c:=decide ((0:Int)<=((0:Nat):Int))&&(decide (((0:Nat):Int)<=400)&&decide ((400:Int)<=(n:Int)))) (slT (Int.le_refl _) (by decide) (by omega))
    (.e (CODES.mk 400 g 0) (r:=(.ref 1000000 0,[.cells [.sl .no 1 400 λj=>[.int .u8 (g (Int.toNat ((0:Nat):Int)+j))],.int .i64 0]])) ⟨⟨Int.le_refl _,by show (0:Int)<=((400:Nat):Int);decide⟩,by show 400<=4611686018427387904;decide,λj hj=>hg j (by have hj:j < 400:=hj;omega)⟩ (by
     have e:(λj=>[AV.int .u8 (g (Int.toNat ((0:Nat):Int)+j))])=λj=>[AV.int .u8 (g j)]:=by
      funext j;show [AV.int .u8 (g (0+j))]=_;rw [Nat.zero_add]
     rw [e];rfl)))
  λh=>.r (CODES.mk n g 0) ⟨⟨Int.le_refl _,by show (0:Int)<=(n:Int);omega⟩,by have h:=of_decide_eq_false h;show n<=_;omega,hg⟩) (by kernel_rfl)
noncomputable abbrev eNw:Ent:=bc wd RR φNw rNw
theorem bj {T:Type} {d:T} {R:T->List AV} (hi:∀a b,R a=R b->a=b) {sz:Nat} {l l':List T} (h:AV.sl .no sz l.length (λj=>R (l.getD j d))=.sl .no sz l'.length λj=>R (l'.getD j d)):l=l':=by
 simp only [AV.sl.injEq,true_and] at h
 obtain ⟨h1,h2⟩:=h
 refine List.ext_getElem h1 λi k1 k2=>?_
 have:=hi _ _ (congrFun h2 i)
 rw [List.getD_eq_getElem?_getD,List.getD_eq_getElem?_getD,List.getElem?_eq_getElem k1,List.getElem?_eq_getElem k2] at this
 exact this
theorem BZ {a b:ENV} (h:a.c=b.c):a=b:=by
 obtain ⟨s,k,ho,l1,l2,l3,l4,l5⟩:=a
 obtain ⟨s',k',ho',m1,m2,m3,m4,m5⟩:=b
 have h:[AV.str s,.str k,.int .i64 ho,pd l1,dU l2,uZ l3,uU l4,uM l5]=[AV.str s',.str k',.int .i64 ho',pd m1,dU m2,uZ m3,uU m4,uM m5]:=h
 simp only [List.cons.injEq,AV.str.injEq,AV.int.injEq,true_and,and_true] at h
 obtain ⟨rfl,rfl,rfl,h1,h2,h3,h4,h5⟩:=h
 rw [bj (R:=atc) (d:=([],[],0)) (λa b h=>by
   obtain ⟨a1,a2,a3⟩:=a
   obtain ⟨b1,b2,b3⟩:=b
   simp only [atc,List.cons.injEq,AV.str.injEq,AV.int.injEq,true_and,and_true] at h
   obtain ⟨rfl,rfl,rfl⟩:=h
   rfl) h1,
  bj (R:=SEG.c) (λa b h=>SM.SEG.br h) h2,bj (R:=FLAG.c) (λa b h=>SM.FLAG.br h) h3,bj (R:=LAYER.c) (λa b h=>SM.LAYER.br h) h4,bj (R:=EXPT.c) (λa b h=>SM.EXPT.br h) h5]
abbrev kp (e:ENV):List AV:=[.agg e.c]
theorem Jg (a b:ENV) (h:kp a=kp b):a=b:=BZ (by simpa using h)
noncomputable abbrev eSE:Ent:=bc wd jE SH.φE (rC kp iG)
noncomputable abbrev eRE:Ent:=bc wd bO SH.φE (rC kp iG)
open Go.SM (ENV)
open Go.SO (SmG SmT SmF SmL SmX SmE)
structure LR where
 l:LAYER
 z:Bool
def LR.c (x:LR):List AV:=[.str x.l.key,.str x.l.kind,.str x.l.salt,.int .i64 x.l.hold,.int .i64 x.l.cool,bif x.z then nA else ou x.l.cooling]
structure XR where
 x:EXPT
 cl:SM.SO
def XR.c (r:XR):List AV:=[.str r.x.key,.str r.x.layer,.str r.x.flag,.str r.x.salt,.int .i64 r.x.status,.sl .no 2 r.cl.n (SM.SP r.cl.F r.cl.T),ou r.x.arms,.int .i64 r.x.when.op,.str r.x.when.kind,.str r.x.when.name,jP r.x.when.vals,.sl .no 5 r.x.when.kids.length (EXP.row r.x.when.kids)]
structure CHV where
 s:List UInt8
 k:List UInt8
 ho:Int
 a:RW
 sg:SGR
 fn:Nat
 fg:Nat->FLAG
 ln:Nat
 lg:Nat->LR
 xn:Nat
 xg:Nat->XR
 C:CODES
 i:Int
instance:Inhabited CHV:=⟨⟨[],[],0,default,default,0,λ_=>default,0,λ_=>⟨⟨[],[],[],0,0,[]⟩,false⟩,0,λ_=>⟨⟨[],[],[],[],0,[],[],default⟩,default⟩,default,0⟩⟩
abbrev OBc:List Nat:=[6,7,100018,200018,300018,400018,113,232]
noncomputable def VCq:Env:={V0 with
 byRef:=λf=>Nat.beq f ep||Nat.beq f cJ
 brk:=onD [204,205,206]
 hint:=λf t=>cond (Nat.beq f mS) (hn [0,6,7,8] OBc [] []) (V0.hint f t)
 trim:=λf p=>cond (Nat.beq f mS) (JH [([1,1,0,1],hn [0,6,7,8] OBc [] []),tn 931 [6,7] OBc,tn 467 [0,6,7,8] OBc,tn 15 [6,7] OBc] p) (V0.trim f p)}
noncomputable instance:EnvOk VCq wd:=⟨rfl,rfl,tC,tR⟩
noncomputable abbrev wCh:List (List Nat×Vw):=[([1,1],TY 7 3),([1,1,0,1,0,0,1,1],Eu (Sz 7 5 200018) (Sz 7 7 400018))]
abbrev PCh:List Nat:=[1,1,0,1,0]
def chF (v:CHV):Nat->List AV:=λj=>(v.fg j).c
def chL (v:CHV):Nat->List AV:=λj=>(v.lg j).c
def chX (v:CHV):Nat->List AV:=λj=>(v.xg j).c
def chO (v:CHV):List (Nat×AO):=[(6,.cells zE),(7,.cells [.str v.s,.str v.k,.int .i64 v.ho,.sl .no 3 v.a.n v.a.g,.gsl 100018 9 v.sg.n,.gsl 200018 13 v.fn,.gsl 300018 6 v.ln,.gsl 400018 12 v.xn]),(100018,sgQ v.sg),(200018,.grw 0 13 v.fn (chF v)),(300018,.grw 0 6 v.ln (chL v)),(400018,.grw 0 12 v.xn (chX v)),(aa,aZ v.C)]
def CHS (v:CHV):St:={env:=[(0,cR),(6,.ref 6 0),(7,.ref 7 0),(8,.int .i64 v.i)],objs:=chO v}
def CHO (v:CHV) (k:Ex->St->Res):Res:=k (.exit 0) {env:=[(6,.ref 6 0),(7,.ref 7 0)],objs:=chO v}
noncomputable abbrev eFq:Ent:=bc wd ep φFq rFq
noncomputable abbrev tCh (e:ENV):List Ent:=[me,B1,B0,IA,Uh,Vn,eFq,lD IJ [.agg e.c] [] e φCp]
open Go.SM (ENV ATT)
structure CHI (v:CHV):Prop where
 s:v.s.length<=1000
 k:v.k.length<=1000
 a:v.a.n<=50/\∀j,j < v.a.n->RAt (v.a.g j)
 sg:v.sg.n<=7/\∀j,j < v.sg.n->SmG 50 (v.sg.g j)/\(v.sg.g j).key.length<=40
 f:(v.fn:Int)<=4+v.i/\∀j,j < v.fn->DF (v.fg j)
 l:v.ln<=10/\∀j,j < v.ln->SmL 50 (v.lg j).l
 x:v.xn<=10/\∀j,j < v.xn->SmX 50 (v.xg j).x/\(v.xg j).cl.n<=10050
 C:v.C.Ok
 i:0<=v.i/\v.i<=3
theorem mD {T:Type} (R:T->List AV) (g:Nat->T) (k:Nat) (x:T):(λj=>bif Nat.beq j k then R x else R (g j))=λj=>R (lB g k x j):=funext λj=>by unfold lB;cases Nat.beq j k <;> rfl
theorem pB {T:Type} {P:T->Prop} {g:Nat->T} {n k:Nat} {x:T} (h:∀j,j < n->P (g j)) (hx:P x):∀j,j < n->P (lB g k x j):=λj hj=>by
 unfold lB
 cases Nat.beq j k
 ·exact h j hj
 ·exact hx
def chR (v:CHV) (o:AO) (a b c:Nat->List AV):St:={env:=[(0,cR),(6,.ref 6 0),(7,.ref 7 0),(8,.int .i64 v.i)],objs:=[(6,.cells zE),(7,.cells [.str v.s,.str v.k,.int .i64 v.ho,.sl .no 3 v.a.n v.a.g,.gsl 100018 9 v.sg.n,.gsl 200018 13 v.fn,.gsl 300018 6 v.ln,.gsl 400018 12 v.xn]),(100018,o),(200018,.grw 0 13 v.fn a),(300018,.grw 0 6 v.ln b),(400018,.grw 0 12 v.xn c),(aa,aZ v.C)]}
theorem o8 {v:CHV} {o:AO} {a b c:Nat->List AV} (ho:o=sgQ v.sg) (ha:a=chF v) (hb:b=chL v) (hc:c=chX v):chR v o a b c=CHS v:=by rw [ho,ha,hb,hc];rfl
abbrev dN (n:Nat) (k:Int):Nat:=Int.toNat k - Int.toNat ((0:Nat):Int)+(Int.toNat ((n:Nat):Int) - Int.toNat (IntKind.wrap .i64 (k+1)))
def PH {T:Type} (n:Nat) (k:Int) (g:Nat->T):Nat->T:=Jv (Int.toNat k - Int.toNat ((0:Nat):Int)) (Int.toNat ((n:Nat):Int) - Int.toNat (IntKind.wrap .i64 (k+1))) g λj=>g (Int.toNat (IntKind.wrap .i64 (k+1))+j)
abbrev dG (n:Nat) (k:Int) (g:Nat->List AV):Nat->List AV:=af (Int.toNat k - Int.toNat ((0:Nat):Int)) (Int.toNat ((n:Nat):Int) - Int.toNat (IntKind.wrap .i64 (k+1))) g λj=>g (Int.toNat (IntKind.wrap .i64 (k+1))+j)
theorem x4 {n:Nat} {k:Int} (h0:0<=k) (h1:k < (n:Int)) (hn:n<=1000):Int.toNat k - Int.toNat ((0:Nat):Int)=k.toNat/\Int.toNat ((n:Nat):Int)=n/\Int.toNat (IntKind.wrap .i64 (k+1))=k.toNat+1/\dN n k+1=n:=by
 have e1:Int.toNat ((0:Nat):Int)=0:=rfl
 have e2:Int.toNat ((n:Nat):Int)=n:=rfl
 have e3:Int.toNat (IntKind.wrap .i64 (k+1))=k.toNat+1:=by rw [wrap_i64 (by omega) (by omega)];omega
 refine ⟨by omega,e2,e3,?_⟩
 show Int.toNat k - Int.toNat ((0:Nat):Int)+(Int.toNat ((n:Nat):Int) - Int.toNat (IntKind.wrap .i64 (k+1)))+1=n
 rw [e1,e2,e3];omega
theorem Ec {T:Type} {P:T->Prop} {g:Nat->T} {n:Nat} {k:Int} (h0:0<=k) (h1:k < (n:Int)) (hn:n<=1000) (h:∀j,j < n->P (g j)):∀j,j < dN n k->P (PH n k g j):=λj hj=>by
 obtain ⟨e1,e2,e3,e4⟩:=x4 h0 h1 hn
 have hj:j < dN n k:=hj
 unfold PH
 by_cases hk:j < Int.toNat k - Int.toNat ((0:Nat):Int)
 ·rw [Pq _ _ hk];exact h j (by omega)
 ·obtain ⟨m,rfl⟩:∃m,j=Int.toNat k - Int.toNat ((0:Nat):Int)+m:=⟨j - (Int.toNat k - Int.toNat ((0:Nat):Int)),by omega⟩
  rw [Pr _ _ (by have:dN n k=Int.toNat k - Int.toNat ((0:Nat):Int)+(Int.toNat ((n:Nat):Int) - Int.toNat (IntKind.wrap .i64 (k+1))):=rfl;omega)]
  exact h _ (by omega)
theorem MJ {n:Nat} {k:Int} (h0:0<=k) (h1:k < (n:Int)):(decide ((0:Int)<=((0:Nat):Int))&&(decide (((0:Nat):Int)<=k)&&decide (k<=(n:Int))))=true:=slT (Int.le_refl _) h0 (by omega)
theorem MI {n:Nat} {k:Int} (h0:0<=k) (h1:k < (n:Int)) (hn:n<=1000):(decide (0<=IntKind.wrap .i64 (k+1))&&(decide (IntKind.wrap .i64 (k+1)<=(n:Int))&&decide ((n:Int)<=(n:Int))))=true:=by
 rw [wrap_i64 (by omega) (by omega)]
 exact slT (by omega) (by omega) (Int.le_refl _)
theorem ML {b n:Nat} {k:Int} (h0:0<=k) (h1:k < (n:Int)) (hn:n<=1000) (hb:b<=1000):((Nat.beq n n&&Nat.ble (Int.toNat (IntKind.wrap .i64 (k+1))+(Int.toNat ((n:Nat):Int) - Int.toNat (IntKind.wrap .i64 (k+1)))) n)&&(ly 0 (Int.toNat k - Int.toNat ((0:Nat):Int))&&(roomy b (dN n k)&&(Nat.beq n n&&Nat.ble (Int.toNat k - Int.toNat ((0:Nat):Int)) n))))=true:=by
 obtain ⟨e1,e2,e3,e4⟩:=x4 h0 h1 hn
 have hr:roomy b (dN n k)=true:=by
  have:dN n k*b<=1000*1000:=Nat.mul_le_mul (by omega) hb
  exact Nat.ble_eq_true_of_le (Nat.le_trans this (by decide))
 rw [hr,Nat.beq_refl,Nat.ble_eq_true_of_le (show Int.toNat (IntKind.wrap .i64 (k+1))+(Int.toNat ((n:Nat):Int) - Int.toNat (IntKind.wrap .i64 (k+1)))<=n by omega),Nat.ble_eq_true_of_le (show Int.toNat k - Int.toNat ((0:Nat):Int)<=n by omega)]
 rfl
theorem MK (sz K D m:Nat) (h:(Nat.beq sz sz&&(!(Nat.beq D 7)&&!(Nat.beq K 7)))=true):(Nat.beq sz sz&&(Nat.beq m m&&(ly 0 m&&(!(Nat.beq D 7)&&!(Nat.beq K 7)))))=true:=by
 rw [Nat.beq_refl m];exact h
theorem LL {k:Int} {n:Nat} (h0:0<=k) (h:decide (k < (n:Int))=true):(within k n&&Nat.beq n n)=true:=by rw [aA h0 (of_decide_eq_true h),Nat.beq_refl];rfl
theorem S0 {k:Int} {n:Nat} (h0:0<=k) (h:decide (k < (n:Int))=true):(Nat.blt k.toNat n&&Nat.beq n n)=true:=by
 have:=of_decide_eq_true h
 rw [k9 (by omega),Nat.beq_refl];rfl
theorem PI {k:Int} {n:Nat} (h0:0<=k) (h:decide (k < (n:Int))=true):(Nat.ble 0 1&&(Nat.blt k.toNat n&&Nat.beq n n))=true:=by rw [S0 h0 h];rfl
section
variable (v:CHV) (C:CODES)
def CHV.idU:CHV:={v with C:=C,i:=IntKind.wrap .i64 (v.i+1)}
def CHV.tU (s k:List UInt8) (ho:Int):CHV:={v with s:=s,k:=k,ho:=ho,C:=C,i:=IntKind.wrap .i64 (v.i+1)}
def CHV.aU (a:RW):CHV:={v with a:=a,C:=C,i:=IntKind.wrap .i64 (v.i+1)}
def CHV.sU (k:Nat) (x:SEG):CHV:={v with sg:=⟨v.sg.n,lB v.sg.g k x⟩,C:=C,i:=IntKind.wrap .i64 (v.i+1)}
def CHV.fU (n:Nat) (g:Nat->FLAG):CHV:={v with fn:=n,fg:=g,C:=C,i:=IntKind.wrap .i64 (v.i+1)}
def CHV.lU (k:Nat) (x:LR):CHV:={v with lg:=lB v.lg k x,C:=C,i:=IntKind.wrap .i64 (v.i+1)}
def CHV.xU (n:Nat) (g:Nat->XR):CHV:={v with xn:=n,xg:=g,C:=C,i:=IntKind.wrap .i64 (v.i+1)}
end
def rCg (_:List AV) (_:List AO) (x:ENV×CODES):Prop:=SmE 50 x.1/\x.2.Ok
abbrev fzB:List UInt8:=[102,122]
abbrev sgX (g:SEG) (l:List (List UInt8)):SEG:=SEG.mk g.key g.kind l g.excl g.when
abbrev fOn (f:FLAG):FLAG:=FLAG.mk f.key f.kind f.vars (!f.on) f.off f.prqs f.tgts f.rules f.dflt
abbrev fDf (f:FLAG) (s:SERVE):FLAG:=FLAG.mk f.key f.kind f.vars f.on f.off f.prqs f.tgts f.rules s
abbrev xSt (r:XR) (n:Int):XR:=XR.mk (EXPT.mk r.x.key r.x.layer r.x.flag r.x.salt n r.x.claims r.x.arms r.x.when) r.cl
theorem IZ {n:Nat} (X:Bool) (h:X=true∨n=0):(bif X then true else !bif ((n:Int)==0)==false then true else false)=true:=by
 rcases h with h | h
 ·rw [h];rfl
 ·subst h;cases X <;> rfl
theorem Pg (e:ENV):∃ (u:St->Bool) (w:St->CHV),(∀v,CHI v->cn u w (CHS v) CHI)/\∀L:List (List Nat×Orc),bH (VCq.run (tCh e) 1 [] L wCh mS) mS PCh (mkO u w CHO):=
 aw (Lf:=λL=>L) CHS CHI (λv=>(4 - v.i).toNat) CHO CHI (by kernel_rfl) (λv hv=>
  have hi:=hv.i
  .call (aq hv.C 3 (by decide)) λt0 q0=>.b (decide (v.i<=t0.1)) (λhle=>
   have h2:v.i<=2:=by have:=of_decide_eq_true hle;have q:0<=t0.1/\t0.1 < 3:=q0.1;omega
   have hw:IntKind.wrap .i64 (v.i+1)=v.i+1:=wrap_i64 (by omega) (by omega)
   have mu:(4 - IntKind.wrap .i64 (v.i+1)).toNat < (4 - v.i).toNat:=by rw [hw];omega
   have ii:0<=IntKind.wrap .i64 (v.i+1)/\IntKind.wrap .i64 (v.i+1)<=3:=by rw [hw];omega
   have ff:(v.fn:Int)<=4+IntKind.wrap .i64 (v.i+1):=by have:=hv.f.1;rw [hw];omega
   have f6:v.fn<=1000:=by have:=hv.f.1;omega
   have x6:v.xn<=1000:=Nat.le_trans hv.x.1 (by decide)
   have idI:∀ {D:CODES},D.Ok->CHI (v.idU D):=λhD=>⟨hv.s,hv.k,hv.a,hv.sg,⟨ff,hv.f.2⟩,hv.l,hv.x,hD,ii⟩
   have tI:∀ {D:CODES} {s k:List UInt8} {ho:Int},D.Ok->s.length<=1000->k.length<=1000->CHI (v.tU D s k ho):=λhD h1 h2=>⟨h1,h2,hv.a,hv.sg,⟨ff,hv.f.2⟩,hv.l,hv.x,hD,ii⟩
   have sI:∀ {D:CODES} {k:Nat} {x:SEG},D.Ok->SmG 50 x/\x.key.length<=40->CHI (v.sU D k x):=λhD hx=>⟨hv.s,hv.k,hv.a,⟨hv.sg.1,pB (P:=λx:SEG=>SmG 50 x/\x.key.length<=40) hv.sg.2 hx⟩,⟨ff,hv.f.2⟩,hv.l,hv.x,hD,ii⟩
   have fI:∀ {D:CODES} {n:Nat} {g:Nat->FLAG},D.Ok->(n:Int)<=4+IntKind.wrap .i64 (v.i+1)->(∀j,j < n->DF (g j))->CHI (v.fU D n g):=λhD h1 h2=>⟨hv.s,hv.k,hv.a,hv.sg,⟨h1,h2⟩,hv.l,hv.x,hD,ii⟩
   have lI:∀ {D:CODES} {k:Nat} {x:LR},D.Ok->SmL 50 x.l->CHI (v.lU D k x):=λhD hx=>⟨hv.s,hv.k,hv.a,hv.sg,⟨ff,hv.f.2⟩,⟨hv.l.1,pB (P:=λx:LR=>SmL 50 x.l) hv.l.2 hx⟩,hv.x,hD,ii⟩
   have xI:∀ {D:CODES} {n:Nat} {g:Nat->XR},D.Ok->n<=10->(∀j,j < n->SmX 50 (g j).x/\(g j).cl.n<=10050)->CHI (v.xU D n g):=λhD h1 h2=>⟨hv.s,hv.k,hv.a,hv.sg,⟨ff,hv.f.2⟩,hv.l,⟨h1,h2⟩,hD,ii⟩
   have delX:=λ(D:CODES) (hD:D.Ok)=>RT.call (S:=CHS) (Inv:=CHI) (μ:=λv=>(4 - v.i).toNat) (out:=CHO) (Post:=λ_ o=>CHI o) (v:=v) (ι:=List (List Nat×Orc)) (aq hD 4 (by decide)) λk p=>.b (decide (k.1 < (v.xn:Int))) (λh=>
    have h0:0<=k.1:=p.1.1
    have h1:=of_decide_eq_true h
    .n (MJ h0 h1) (.n (MI h0 h1 x6) (.n (ML (b:=208) h0 h1 x6 (by decide)) (.n (MK 12 400018 232 (dN v.xn k.1) rfl)
     (.go (chR (v.xU k.2 (dN v.xn k.1) (PH v.xn k.1 v.xg)) (sgQ v.sg) (chF v) (chL v) (dG v.xn k.1 (chX v))) (v.xU k.2 (dN v.xn k.1) (PH v.xn k.1 v.xg)) (xI p.2 (by have:=(x4 h0 h1 x6).2.2.2;have:=hv.x.1;omega) (Ec (P:=λx:XR=>SmX 50 x.x/\x.cl.n<=10050) h0 h1 x6 hv.x.2)) mu (o8 rfl rfl rfl (yk XR.c _ _ _ _)))))))
    λ_=>.to (v.idU k.2) (idI p.2) mu
   .call (aq q0.2 10 (by decide)) λt q=>.b (t.1==0) (λ_=>.call (nC q.2) λs p=>.call (iR p.2 2500 (by decide)) λw r=>.to (v.tU w.2 s.1 rq w.1) (tI r.2 (Nat.le_trans (oa _ p.1) (by decide)) (by decide)) mu) λ_=>
   .b (t.1==1) (λ_=>.call (aq q.2 4 (by decide)) λk p=>.b (decide (k.1 < (v.sg.n:Int))) (λh=>
     have h0:0<=k.1:=p.1.1
     have o:=hv.sg.2 k.1.toNat (by have:=of_decide_eq_true h;omega)
     .call (tJ p.2) λks qk=>.n (LL h0 h) (.n (PI h0 h) (.go (chR (v.sU ks.2 k.1.toNat (sgX (v.sg.g k.1.toNat) ks.1)) (.grw 0 9 v.sg.n λj=>bif Nat.beq j k.1.toNat then (sgX (v.sg.g k.1.toNat) ks.1).c else (v.sg.g j).c) (chF v) (chL v) (chX v)) (v.sU ks.2 k.1.toNat (sgX (v.sg.g k.1.toNat) ks.1))
      (sI qk.2 ⟨⟨o.1.key,o.1.kind,nR qk.1,o.1.excl,o.1.when⟩,o.2⟩) mu (o8 (congrArg (AO.grw 0 9 v.sg.n) (mD SEG.c v.sg.g _ _)) rfl rfl rfl))))
     λ_=>.to (v.idU k.2) (idI p.2) mu) λ_=>
   .b (t.1==2) (λ_=>.call (aq q.2 4 (by decide)) λk p=>.b (decide (k.1 < (v.fn:Int))) (λh=>
     have h0:0<=k.1:=p.1.1
     have o:=hv.f.2 k.1.toNat (by have:=of_decide_eq_true h;omega)
     .n (LL h0 h) (.n (S0 h0 h) (.n (LL h0 h) (.n (PI h0 h) (.go (chR (v.fU k.2 v.fn (lB v.fg k.1.toNat (fOn (v.fg k.1.toNat)))) (sgQ v.sg) (λj=>bif Nat.beq j k.1.toNat then (fOn (v.fg k.1.toNat)).c else (v.fg j).c) (chL v) (chX v)) (v.fU k.2 v.fn (lB v.fg k.1.toNat (fOn (v.fg k.1.toNat))))
      (fI p.2 ff (pB hv.f.2 ⟨⟨o.1.key,o.1.vars,o.1.prqs,o.1.tgts,o.1.rules,o.1.dflt⟩,o.2⟩)) mu (o8 rfl (mD FLAG.c v.fg _ _) rfl rfl))))))
     λ_=>.to (v.idU k.2) (idI p.2) mu) λ_=>
   .b (t.1==3) (λ_=>.call (aq q.2 4 (by decide)) λk p=>.b (decide (k.1 < (v.fn:Int))) (λh=>
     have h0:0<=k.1:=p.1.1
     have o:=hv.f.2 k.1.toNat (by have:=of_decide_eq_true h;omega)
     .n (LL h0 h) (.n (S0 h0 h) (.call (oj p.2 ((v.fg k.1.toNat).vars.length:Int) (by have:=o.2;omega)) λs qs=>.n (LL h0 h) (.n (PI h0 h) (.go (chR (v.fU s.2 v.fn (lB v.fg k.1.toNat (fDf (v.fg k.1.toNat) s.1))) (sgQ v.sg) (λj=>bif Nat.beq j k.1.toNat then (fDf (v.fg k.1.toNat) s.1).c else (v.fg j).c) (chL v) (chX v)) (v.fU s.2 v.fn (lB v.fg k.1.toNat (fDf (v.fg k.1.toNat) s.1)))
      (fI qs.2 ff (pB hv.f.2 ⟨⟨o.1.key,o.1.vars,o.1.prqs,o.1.tgts,o.1.rules,smv qs.1⟩,o.2⟩)) mu (o8 rfl (mD FLAG.c v.fg _ _) rfl rfl))))))
     λ_=>.to (v.idU k.2) (idI p.2) mu) λ_=>
   .b (t.1==4) (λ_=>.call (aq q.2 4 (by decide)) λk p=>.b (decide (k.1 < (v.fn:Int))) (λh=>
     have h0:0<=k.1:=p.1.1
     have h1:=of_decide_eq_true h
     .n (MJ h0 h1) (.n (MI h0 h1 f6) (.n (ML (b:=216) h0 h1 f6 (by decide)) (.n (MK 13 200018 113 (dN v.fn k.1) rfl)
      (.go (chR (v.fU k.2 (dN v.fn k.1) (PH v.fn k.1 v.fg)) (sgQ v.sg) (dG v.fn k.1 (chF v)) (chL v) (chX v)) (v.fU k.2 (dN v.fn k.1) (PH v.fn k.1 v.fg)) (fI p.2 (by have:=(x4 h0 h1 f6).2.2.2;omega) (Ec h0 h1 f6 hv.f.2)) mu (o8 rfl (yk FLAG.c _ _ _ _) rfl rfl))))))
     λ_=>.to (v.idU k.2) (idI p.2) mu) λ_=>
   .b (t.1==5) (λ_=>
     have w1:v.fn≠0->IntKind.wrap .i64 ((v.fn:Int) - 1)=((v.fn - 1:Nat):Int):=λh=>by rw [wrap_i64 (by omega) (by omega)];omega
     .n (c:=bif within (IntKind.wrap .i64 ((v.fn:Int) - 1)) v.fn&&Nat.beq v.fn v.fn then true else !bif ((v.fn:Int)==0)==false then true else false) (IZ _ (by
      by_cases h:v.fn=0
      ·exact .inr h
      ·left;rw [w1 h,dD (show v.fn - 1 < v.fn by omega),Nat.beq_refl];rfl))
     (.n (c:=bif Nat.blt (Int.toNat (IntKind.wrap .i64 ((v.fn:Int) - 1))) v.fn&&Nat.beq v.fn v.fn then true else !bif ((v.fn:Int)==0)==false then true else false) (IZ _ (by
      by_cases h:v.fn=0
      ·exact .inr h
      ·left;rw [w1 h,Int.toNat_natCast,k9 (show v.fn - 1 < v.fn by omega),Nat.beq_refl];rfl))
     (.b (bif (v.fn:Int)==0 then true else aG (v.fg (Int.toNat (IntKind.wrap .i64 ((v.fn:Int) - 1)))).key fzB) (λ_=>.call (Lx v.sg ⟨hv.sg.1,λj hj=>(hv.sg.2 j hj).2⟩ fzB (by decide) q.2) λf qf=>.n (av (b:=216) (n:=v.fn+1) (m:=v.fn) (by omega))
      (.go (chR (v.fU f.1.2 (v.fn+1) (lB v.fg v.fn f.1.1)) (sgQ f.2) (af v.fn 1 (chF v) (ae zF [(0,.agg f.1.1.c)])) (chL v) (chX v)) (v.fU f.1.2 (v.fn+1) (lB v.fg v.fn f.1.1))
       (fI qf.1.2 (by have:=hv.f.1;rw [hw];omega) (λj hj=>by
        by_cases h:j < v.fn
        ·rw [sX _ _ (by omega)];exact hv.f.2 j h
        ·obtain rfl:j=v.fn:=by omega
         rw [w8];exact qf.1.1)) mu (o8 (qf.2 _ _ rfl) (yl FLAG.c v.fn v.fg _ _ rfl) rfl rfl)))
      λ_=>.to (v.idU t.2) (idI q.2) mu))) λ_=>
   .b (t.1==6) (λ_=>.call (aq q.2 3 (by decide)) λk p=>.b (decide (k.1 < (v.ln:Int))) (λh=>
     have h0:0<=k.1:=p.1.1
     have o:=hv.l.2 k.1.toNat (by have:=of_decide_eq_true h;omega)
     .n (LL h0 h) (.n (PI h0 h) (.go (chR (v.lU k.2 k.1.toNat (LR.mk (v.lg k.1.toNat).l true)) (sgQ v.sg) (chF v) (λj=>bif Nat.beq j k.1.toNat then (LR.mk (v.lg k.1.toNat).l true).c else (v.lg j).c) (chX v)) (v.lU k.2 k.1.toNat (LR.mk (v.lg k.1.toNat).l true))
      (lI p.2 o) mu (o8 rfl rfl (mD LR.c v.lg _ _) rfl))))
     λ_=>.to (v.idU k.2) (idI p.2) mu) λ_=>
   .b (t.1==7) (λ_=>.call (aq q.2 4 (by decide)) λk p=>.b (decide (k.1 < (v.xn:Int))) (λh=>
     have h0:0<=k.1:=p.1.1
     have o:=hv.x.2 k.1.toNat (by have:=of_decide_eq_true h;omega)
     .call (aq p.2 3 (by decide)) λs r=>.n (LL h0 h) (.n (PI h0 h) (.go (chR (v.xU s.2 v.xn (lB v.xg k.1.toNat (xSt (v.xg k.1.toNat) (IntKind.wrap .i64 (1+s.1))))) (sgQ v.sg) (chF v) (chL v) (λj=>bif Nat.beq j k.1.toNat then (xSt (v.xg k.1.toNat) (IntKind.wrap .i64 (1+s.1))).c else (v.xg j).c)) (v.xU s.2 v.xn (lB v.xg k.1.toNat (xSt (v.xg k.1.toNat) (IntKind.wrap .i64 (1+s.1)))))
      (xI r.2 hv.x.1 (pB (P:=λx:XR=>SmX 50 x.x/\x.cl.n<=10050) hv.x.2 ⟨⟨o.1.key,o.1.layer,o.1.flag,o.1.salt,o.1.claims,o.1.arms,o.1.when⟩,o.2⟩)) mu (o8 rfl rfl rfl (mD XR.c v.xg _ _)))))
     λ_=>.to (v.idU k.2) (idI p.2) mu) λ_=>
   .b (t.1==8) (λ_=>.call (aq q.2 4 (by decide)) λk p=>.b (decide (k.1 < (v.xn:Int))) (λh=>
     have h0:0<=k.1:=p.1.1
     have o:=hv.x.2 k.1.toNat (by have:=of_decide_eq_true h;omega)
     .n (LL h0 h) (.n (S0 h0 h) (.call (iR p.2 4000 (by decide)) λw r=>.call (DT (v.xg k.1.toNat).cl w.1 (Nat.le_trans o.2 (by decide))) λc qc=>.n (LL h0 h) (.n (PI h0 h) (.go (chR (v.xU w.2 v.xn (lB v.xg k.1.toNat (XR.mk (v.xg k.1.toNat).x c))) (sgQ v.sg) (chF v) (chL v) (λj=>bif Nat.beq j k.1.toNat then (XR.mk (v.xg k.1.toNat).x c).c else (v.xg j).c)) (v.xU w.2 v.xn (lB v.xg k.1.toNat (XR.mk (v.xg k.1.toNat).x c)))
      (xI r.2 hv.x.1 (pB (P:=λx:XR=>SmX 50 x.x/\x.cl.n<=10050) hv.x.2 ⟨o.1,Nat.le_trans qc (by decide)⟩)) mu (o8 rfl rfl rfl (mD XR.c v.xg _ _)))))))
     λ_=>.to (v.idU k.2) (idI p.2) mu) λ_=>
   .b (t.1==9) (λ_=>.b (decide ((v.a.n:Int) > 0)) (λha=>
     have ha:=of_decide_eq_true ha
     have a5:=hv.a.1
     have w1:IntKind.wrap .i64 ((v.a.n:Int) - 1)=((v.a.n - 1:Nat):Int):=by rw [wrap_i64 (by omega) (by omega)];omega
     .call (aq q.2 2 (by decide)) λs r=>.b (bif true then s.1==1 else false) (λ_=>.n (c:=decide ((0:Int)<=((0:Nat):Int))&&(decide (((0:Nat):Int)<=IntKind.wrap .i64 ((v.a.n:Int) - 1))&&decide (IntKind.wrap .i64 ((v.a.n:Int) - 1)<=(v.a.n:Int)))) (slT (Int.le_refl _) (by rw [w1];omega) (by rw [w1];omega))
      (.to (v.aU s.2 ⟨Int.toNat (IntKind.wrap .i64 ((v.a.n:Int) - 1)) - Int.toNat ((0:Nat):Int),λj=>v.a.g (Int.toNat ((0:Nat):Int)+j)⟩)
       ⟨hv.s,hv.k,⟨by show Int.toNat (IntKind.wrap .i64 ((v.a.n:Int) - 1)) - 0<=50;rw [w1];omega,λj hj=>by
        have hj:j < Int.toNat (IntKind.wrap .i64 ((v.a.n:Int) - 1)) - 0:=hj
        rw [w1] at hj
        show RAt (v.a.g (0+j))
        rw [Nat.zero_add];exact hv.a.2 j (by omega)⟩,hv.sg,⟨ff,hv.f.2⟩,hv.l,hv.x,r.2,ii⟩ mu))
     λ_=>delX s.2 r.2)
    λ_=>delX t.2 q.2)
   λ_=>.to (v.idU t.2) (idI q.2) mu)
  λ_=>.fi {v with C:=t0.2} ⟨hv.s,hv.k,hv.a,hv.sg,hv.f,hv.l,hv.x,q0.2,hv.i⟩) (λv L k kn=>by kernel_rfl)
theorem Uu (x:LR) (h:SmL 50 x.l):RLr 50 x.c:=by
 obtain ⟨l,z⟩:=x
 cases z with
 | false=>exact ⟨l,h,TellL.refl rfl⟩
 | true=>exact ⟨LAYER.mk l.key l.kind l.salt l.hold l.cool [],⟨h.1,Nat.zero_le _⟩,.cons (.same rfl) (.cons (.same rfl) (.cons (.same rfl) (.cons (.same rfl) (.cons (.same rfl) (.cons aW .nil)))))⟩
theorem Ut (r:XR) (h:SmX 50 r.x/\r.cl.n<=10050):RXt 50 r.c:=by
 obtain ⟨l,h1,_,h3⟩:=cw (T:=Int×Int) (Q:=λ_=>True) (R:=uK) (n:=r.cl.n) (get:=SM.SP r.cl.F r.cl.T) λj _=>⟨(r.cl.F j,r.cl.T j),trivial,TellL.refl rfl⟩
 have hx:=h.1
 exact ⟨EXPT.mk r.x.key r.x.layer r.x.flag r.x.salt r.x.status l r.x.arms r.x.when,⟨hx.key,hx.layer,hx.flag,hx.salt,by show l.length<=10000+50;rw [h1];exact h.2,hx.arms,hx.when⟩,.cons (.same rfl) (.cons (.same rfl) (.cons (.same rfl) (.cons (.same rfl) (.cons (.same rfl) (.cons (h3 .no 2 λ_=>⟨rfl,rfl⟩) (TellL.refl rfl))))))⟩
theorem R1 {v:CHV} (hv:CHI v) {l:List AV} {os:List AO} :
  Run (rCg l os) φEn (cond (Nat.beq 9 9&&Nat.beq v.sg.n v.sg.n) (cond (Nat.beq 13 13&&Nat.beq v.fn v.fn) (cond (Nat.beq 6 6&&Nat.beq v.ln v.ln) (cond (Nat.beq 12 12&&Nat.beq v.xn v.xn)
   (some (.agg [.str v.s,.str v.k,.int .i64 v.ho,.sl .no 3 v.a.n v.a.g,.sl .no 9 v.sg.n (sgR v.sg),.sl .no 13 v.fn (chF v),.sl .no 6 v.ln (chL v),.sl .no 12 v.xn (chX v)],[aZ v.C])) none) none) none) none):=by
 have hi:=hv.i
 obtain ⟨e,h1,h2⟩:=LF (b:=50) (ho:=v.ho) (a1:=v.a) (a2:=⟨v.sg.n,sgR v.sg⟩) (a3:=⟨v.fn,chF v⟩) (a4:=⟨v.ln,chL v⟩) (a5:=⟨v.xn,chX v⟩) hv.s hv.k
  ⟨hv.a,⟨Nat.le_trans hv.sg.1 (by decide),λj hj=>⟨v.sg.g j,(hv.sg.2 j hj).1,TellL.refl rfl⟩⟩,⟨by have:=hv.f.1;show v.fn<=50;omega,λj hj=>⟨v.fg j,(hv.f.2 j hj).1,TellL.refl rfl⟩⟩,⟨Nat.le_trans hv.l.1 (by decide),λj hj=>Uu _ (hv.l.2 j hj)⟩,⟨Nat.le_trans hv.x.1 (by decide),λj hj=>Ut _ (hv.x.2 j hj)⟩⟩
 exact .n (by simp) (.n (by simp) (.n (by simp) (.n (by simp) (.t (e,v.C) ⟨h1,hv.C⟩ (.agg h2)))))
theorem IY (e:ENV) (he:BE e) (now:Int) {C:CODES} (hC:C.Ok):aJ wd mS φEn rCg [cR,.agg e.c,.int .i64 now] [aZ C]:=by
 obtain ⟨t0,ht0,hcp⟩:=Pe e ⟨by rw [he.attrs];decide,Nat.le_trans he.segs.1 (by decide),Nat.le_trans he.flags.1 (by decide),Nat.le_trans he.layers.1 (by decide),Nat.le_trans he.expts.1 (by decide)⟩
 have ht0:t0=e:=ht0
 subst ht0
 haveI:=iq (T:=[]) hcp
 obtain ⟨u,w,hu,hl⟩:=Pg t0
 have sm:=he.sm
 exact dy (V:=VCq) (T:=tCh t0) (d:=1) (W:=wCh) 0 (ah (hl _) aE) (cY (OH _ _) (cY (n9 (Hb _ _ _) (Hb _ _ _)) aB))
  (.n (fp [.agg t0.c] []) (.n (c:=Nat.beq 3 3&&Nat.beq (0+t0.attrs.length) (0+t0.attrs.length)) (by simp)
   (.lp (hu (CHV.mk t0.salt t0.hkind t0.hold ⟨0+t0.attrs.length,cpA t0⟩ ⟨0+t0.segs.length,λj=>t0.segs.getD j default⟩ (0+t0.flags.length) (λj=>t0.flags.getD j default) (0+t0.layers.length) (λj=>LR.mk (t0.layers.getD j default) false)
     (0+t0.expts.length) (λj=>XR.mk (t0.expts.getD j default) (SM.SO.mk (t0.expts.getD j default).claims.length (λi=>((t0.expts.getD j default).claims.getD i (0,0)).1) λi=>((t0.expts.getD j default).claims.getD i (0,0)).2)) C 0)
    ⟨sm.salt,sm.hkind,⟨by have:=sm.attrs.1;show 0+t0.attrs.length<=50;omega,λj hj=>⟨t0.attrs.getD j ([],[],0),sm.attrs.2 _ (cv (l:=t0.attrs) (by have hj:j < 0+t0.attrs.length:=hj;omega)),TellL.refl rfl⟩⟩,
     ⟨by have:=he.segs.1;show 0+t0.segs.length<=7;omega,λj hj=>he.segs.2 _ (cv (by have hj:j < 0+t0.segs.length:=hj;omega))⟩,
     ⟨by have:=he.flags.1;show ((0+t0.flags.length:Nat):Int)<=4+0;omega,λj hj=>he.flags.2 _ (cv (by have hj:j < 0+t0.flags.length:=hj;omega))⟩,
     ⟨by have:=he.layers.1;show 0+t0.layers.length<=10;omega,λj hj=>sm.layers.2 _ (cv (by have hj:j < 0+t0.layers.length:=hj;omega))⟩,
     ⟨by have:=he.expts.1;show 0+t0.expts.length<=10;omega,λj hj=>⟨he.expts.2 _ (cv (by have hj:j < 0+t0.expts.length:=hj;omega)),(he.expts.2 _ (cv (by have hj:j < 0+t0.expts.length:=hj;omega))).claims⟩⟩,hC,by show (0:Int)<=0/\(0:Int)<=3;decide⟩) λv hv=>R1 hv))) (by kernel_rfl)
end Go.T
