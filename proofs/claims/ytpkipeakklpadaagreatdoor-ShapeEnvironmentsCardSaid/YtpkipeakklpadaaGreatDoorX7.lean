/- shape: attributes, the lists, Environment. The draws, spoilt: names, numbers, values. The draws, spoilt: a condition. The draws, spoilt: a condition: its contract. The draws, spoilt: a condition: the whole. The draws, spoilt: a split. The draws, spoilt: a split: its contract; a Serve. The draws, spoilt: a Serve, long texts, a segment. The draws, spoilt: a layer. The draws, spoilt: an experiment. The draws, spoilt: a flag. The draws, spoilt: a flag: its contract. Copy; Spoil: hints. Spoil: its contract. Spoil: its contract: the whole. The law's own: New, awake. ShapeEnvironments: the law answers true. ShapeEnvironments: the law's loops, the law. The globals of the seat out of a row's list; a slice of bytes that came in. -/
import Derived.Test.YtpkipeakklpadaaGreatDoorX6
import Derived.Test.YtpkipeakklpadaaGreatDoorCards
import Derived.Test.YtpkipeakklpadaaGreatDoorTie
set_option linter.unusedVariables false
set_option linter.unusedSimpArgs false
namespace Go.T
open Go Go.Ab Go.Proofs Go.SH
open Go.SM (ATT ATT.Ok mG Dc JC vX ENV dh pM pJ pr sY tb s7 wB B9 xe qY mK)
theorem Mu (a b:Int):aB wd yg SM.φI' HY [.sl .fit 1 2 (fI [(0,.int .i64 a),(1,.int .i64 b)])] []:=
 ea (V:=V0) [] 9 (.b (a !=0) (λh=>.r a (.mk (xw h))) λh=>.b (b !=0) (λh2=>.r b (.mk (iV h (xw h2)))) λh2=>.r 0 (.mk (iV h (iV h2 rfl)))) (by kernel_rfl)
noncomputable abbrev P4:Ent:=aY wd yg SM.φI' HY
def AtZ (l:List ATT) (i:Int):St:={env:=[(0,mG l),(8,mG l),(9,.int .i64 l.length),(10,.int .i64 i)],objs:=[]}
theorem Hv (l:List ATT) (hl:okL ATT.Ok l):aB wd jB SH.φE (rIs (vX l)) [mG l] []:=by
 have hm:=hl.big
 obtain ⟨u,w,hu,hlo⟩:=bG (V:=V0) (T:=[jV,Qb,P4]) (d:=9) (W:=[]) (f:=jB) (p:=[1,1,0,1,0]) (Lf:=λL=>L) (AtZ l) l.length (iv (Dc l) (JC l)) (qh 2) (λk=>k (.exit 0) {env:=[],objs:=[]}) (by kernel_rfl)
  (λi a=>
   .n a.w (.call (dy (l.getD i aE0).1) λx qx=>.call (dy (l.getD i aE0).2.1) λy qy=>
   .b (bif bif !x then true else !y then true else (l.getD i aE0).2.1==[107,101,121]) (λh=>.sp 6 a (by rw [qx _ rfl,qy _ rfl] at h;unfold iv Dc;rw [h];rfl)) λh=>
   have h:(bif bif !dX (l.getD i aE0).1 then true else !dX (l.getD i aE0).2.1 then true else (l.getD i aE0).2.1==[107,101,121])=false:=by rw [<-qx _ rfl,<-qy _ rfl];exact h
   .b (bif decide ((l.getD i aE0).2.2 < 1) then true else decide ((l.getD i aE0).2.2 > 5)) (λh2=>.sp 7 a (by unfold iv Dc;rw [h,h2];rfl)) λh2=>
   .gp true a.lt hm (.call (uj (l.getD (Int.toNat (IntKind.wrap .i64 ((i:Int) - 1))) aE0).1 (l.getD i aE0).1) λt1 q1=>.gp true a.lt hm (.call (uj (l.getD (Int.toNat (IntKind.wrap .i64 ((i:Int) - 1))) aE0).2.1 (l.getD i aE0).2.1) λt2 q2=>.call (Mu t1 t2) λt q=>
   have e:(bif decide ((i:Int) > 0) then decide (t≥0) else false)=JC l i:=by
    rw [show t=bif t1 !=0 then t1 else bif t2 !=0 then t2 else 0 from q _ _ rfl,id0,q1 _ _ rfl,q2 _ _ rfl,SM.H6]
    exact Nu a.lt hm
   .b (bif decide ((i:Int) > 0) then decide (t≥0) else false) (λh3=>.sp 9 a (by rw [e] at h3;unfold iv Dc;rw [h,h2,h3];rfl)) λh3=>.up a hm (by rw [e] at h3;unfold iv Dc;rw [h,h2,h3];rfl))))) (λi L k kn=>by kernel_rfl)
 exact ff (V:=V0) [jV,Qb,P4] 9 hlo (.b (decide ((l.length:Int) > 30)) (λh=>uU h) λh=>.lp hu λt q=>uT q h) (by kernel_rfl)
def HsZ (x:AV) (f g:FuncId) (n:Nat) (i:Int):St:={env:=[(0,x),(2,.fn f [] []),(3,.fn g [] []),(16,x),(17,.int .i64 n),(18,.int .i64 i)],objs:=[]}
abbrev PHs:List Nat:=[1,1,0,1,0]
theorem vw {α:Type} [Inhabited α] {f g h:FuncId} {A:α->List AV} {E:α->Int} (key:α->List UInt8) (x:AV) (most:Int) (l:List α) (hl:l.length<=1048576) (hg:∀i,i < l.length->aB wd g SH.φE (rC A E) (A (l.getD i default)) []) (hb:kT (dS (bB V0.P f) PHs)=true)
  (he:∀ (i:Nat) (L:List (List Nat×Orc)) (k:Ex->St->Res) (kn:St->Res),dW (V0.run [aY wd g SH.φE (rC A E)] 2 [] L [] f) f 9 PHs (HsZ x g h l.length i) kn k=cond (decide ((i:Int) < (l.length:Int))) (cond (within (i:Int) l.length) (cond (gR wd g SH.φE (rC A E) (A (l.getD i default)) []) (cond (wR wd g SH.φE (rC A E) (A (l.getD i default)) [] !=0) (k .ret {env:=[(8,.int .i64 (wR wd g SH.φE (rC A E) (A (l.getD i default)) []))],objs:=[]})
   (cond (bif within (IntKind.wrap .i64 ((i:Int) - 1)) l.length then true else !bif decide ((i:Int) > 0)==true then true else false) (cond (kP (λj=>key (l.getD j default)) i) (k .ret {env:=[(8,.int .i64 9)],objs:=[]}) (kn (HsZ x g h l.length (IntKind.wrap .i64 ((i:Int)+1))))) none)) none) none) (k (.exit 0) {env:=[],objs:=[]}))
  (hr:∀ (u:St->Bool) (w:St->Bool×Int),yM (V0.run [aY wd g SH.φE (rC A E)] 2 [] [(PHs,mkO u w (H5 (qh 8) λk=>k (.exit 0) {env:=[],objs:=[]}))] [] f) 9 f [x,.int .i64 most,.fn g [] [],.fn h [] []] []=cond (decide ((l.length:Int) > most)) (some (.int .i64 5,[])) (cond (u (HsZ x g h l.length 0)) (cond (w (HsZ x g h l.length 0)).1 (some (.int .i64 (w (HsZ x g h l.length 0)).2,[])) (some (.int .i64 0,[]))) none)) :
  aB wd f SH.φE (rIs (SM.bN most l.length (λi=>E (l.getD i default)) (B9 λi=>key (l.getD i default)))) [x,.int .i64 most,.fn g [] [],.fn h [] []] []:=by
 have hm:l.length<=4611686018427387904:=by omega
 obtain ⟨u,w,hu,hlo⟩:=bG (V:=V0) (T:=[aY wd g SH.φE (rC A E)]) (d:=2) (W:=[]) (f:=f) (p:=PHs) (Lf:=λL=>L) (HsZ x g h l.length) l.length (iv (λi=>E (l.getD i default)) (B9 λi=>key (l.getD i default))) (qh 8) (λk=>k (.exit 0) {env:=[],objs:=[]}) hb
  (λi a=>
   have e:kP (λj=>key (l.getD j default)) i=B9 (λj=>key (l.getD j default)) i:=SM.bad_eq (key:=λj=>key (l.getD j default)) (by have:=a.lt;omega)
   .n a.w (.call (hg i a.lt) λt q=>.b (t !=0) (λh=>.sp t a (by rw [q _ rfl] at h ⊢;unfold iv;rw [h];rfl)) λh=>.gp true a.lt hm
   (.b (kP (λj=>key (l.getD j default)) i) (λh2=>.sp 9 a (by rw [q _ rfl] at h;rw [e] at h2;unfold iv;rw [h,h2];rfl)) λh2=>.up a hm (by rw [q _ rfl] at h;rw [e] at h2;unfold iv;rw [h,h2];rfl)))) he
 exact ff (V:=V0) [aY wd g SH.φE (rC A E)] 2 hlo (.b (decide ((l.length:Int) > most)) (λh=>uU h) λh=>.lp hu λt q=>uT q h) (hr u w)
theorem Hb (l:List SEG) (hl:okL SEG.Ok l):aB wd ky SH.φE (rIs (sY l)) [dh l,.int .i64 20,.fn lC [] [],.fn pB [] []] []:=vw (A:=JH) (E:=Bd) SEG.key (dh l) 20 l hl.1 (λi hi=>aB.rC (λa b h=>SM.SEG.cK (by simpa using h)) (DR _ (hl.at hi))) (by kernel_rfl) (λi L k kn=>by kernel_rfl) λu w=>by kernel_rfl
theorem D2 (l:List FLAG) (hl:okL FLAG.Ok l):aB wd oT SH.φE (rIs (tb l)) [pM l,.int .i64 30,.fn qX [] [],.fn pA [] []] []:=vw (A:=JL) (E:=kV) FLAG.key (pM l) 30 l hl.1 (λi hi=>aB.rC (λa b h=>SM.FLAG.cK (by simpa using h)) (A9 _ (hl.at hi))) (by kernel_rfl) (λi L k kn=>by kernel_rfl) λu w=>by kernel_rfl
theorem Cm (l:List LAYER) (hl:okL LAYER.Ok l):aB wd mR SH.φE (rIs (s7 l)) [pJ l,.int .i64 6,.fn mT [] [],.fn pz [] []] []:=vw (A:=JK) (E:=gC) LAYER.key (pJ l) 6 l hl.1 (λi hi=>aB.rC (λa b h=>SM.LAYER.cK (by simpa using h)) (w6 _ (hl.at hi))) (by kernel_rfl) (λi L k kn=>by kernel_rfl) λu w=>by kernel_rfl
theorem D3 (l:List EXPT) (hl:okL EXPT.Ok l):aB wd iC SH.φE (rIs (wB l)) [pr l,.int .i64 16,.fn gI [] [],.fn px [] []] []:=vw (A:=JF) (E:=mz) EXPT.key (pr l) 16 l hl.1 (λi hi=>aB.rC (λa b h=>SM.EXPT.cK (by simpa using h)) (Ba _ (hl.at hi))) (by kernel_rfl) (λi L k kn=>by kernel_rfl) λu w=>by kernel_rfl
theorem D6 (e:ENV) (he:e.Ok):aB wd ec SH.φE (rIs (mK e)) [.agg e.c] []:=
 ea (V:=V0) [GK,jV,lY,jj,aY wd jB SH.φE (rIs (vX e.attrs)),aY wd ky SH.φE (rIs (sY e.segs)),aY wd oT SH.φE (rIs (tb e.flags)),aY wd mR SH.φE (rIs (s7 e.layers)),aY wd iC SH.φE (rIs (wB e.expts))] 2
  (.call (jv e.salt he.salt) λx qx=>.call (bK (!x) 2) λt1 q1=>.call (bK (bif decide (e.hold < 0) then true else decide (e.hold > 10000)) 3) λt2 q2=>.call (dy e.hkind) λy qy=>.call (bK (bif !y then bif !e.hkind==[] then true else e.hold !=0 else false) 6) λt3 q3=>.call (Hv e.attrs he.attrs) λt4 q4=>.call (xW t1 t2 t3 t4) λt qt=>
  have h:mK e=bif t !=0 then t else bif sY e.segs !=0 then sY e.segs else bif tb e.flags !=0 then tb e.flags else bif s7 e.layers !=0 then s7 e.layers else wB e.expts:=by
   rw [show t=bif t1 !=0 then t1 else bif t2 !=0 then t2 else bif t3 !=0 then t3 else bif t4 !=0 then t4 else 0 from qt _ _ rfl,ch,ch,ch,ch,zr,q1 _ _ rfl,wh rfl,q2 _ _ rfl,wh rfl,q3 _ _ rfl,wh rfl,qx _ rfl,qy _ rfl,show t4=vX e.attrs from q4]
   unfold mK qY
   cases !dc e.salt <;> cases (bif decide (e.hold < 0) then true else decide (e.hold > 10000)) <;> cases (bif !dX e.hkind then bif !e.hkind==[] then true else e.hold !=0 else false) <;> rfl
  .b (t !=0) (λh0=>.r t (by unfold rIs;rw [h,h0];rfl)) λh0=>by
   rw [h,h0]
   exact .call (Hb _ he.segs) λt6 q6=>pass q6 λ_=>.call (D2 _ he.flags) λt7 q7=>pass q7 λ_=>.call (Cm _ he.layers) λt8 q8=>pass q8 λ_=>.call (D3 _ he.expts) λt9 q9=>.r t9 q9) (by kernel_rfl)
end Go.T

namespace Go.T
open Go Go.Ab Go.Proofs Go.SH
def rNm (_:List AV) (_:List AO) (x:List UInt8×CODES):Prop:=x.1.length<=40/\x.2.Ok
def MC:List (List UInt8):=[[],[66,97,100],[57,97],[111,110],[107,101,121],[122,122],[97],[97,108,112,104,97],[102,97],[102,98],[108,97],[120,97],[97,98,99,100,101,102,103,104,105,106,107,108,109,110,111,112,113,114,115,116,117,118,119,120,121,122,48,49,50,51,52,53,54],[117,115,101,114],[97,46,98]]
def Qr:List Int:=[0,-1,1,2,8,9,10000,10001,1099511627776,1099511627777,-1099511627777,1099511627777,4,5,6]
theorem Ih:∀n,n < 15->(MC.getD n []).length<=40:=by decide
theorem dj {C:CODES} (h:C.Ok):aB wd Jz φT rNm [cR] [aK C]:=by
 obtain ⟨n,D,hn,hD,hc⟩:=drawn h 15 (by decide)
 haveI:=gB (T:=[]) hc
 exact ea (V:=V0) [kf c6 [cR,.int .i64 15] [aK C] ((n:Int),D) φX] 1 (.n (eL [cR,.int .i64 15] [aK C]) (.r (MC.getD n [],D) ⟨Ih n hn,hD⟩))
  (by
    match n,hn with
    | 0,_ | 1,_ | 2,_ | 3,_ | 4,_ | 5,_ | 6,_ | 7,_ | 8,_ | 9,_ | 10,_ | 11,_ | 12,_ | 13,_ | 14,_=>show _=_;kernel_rfl
    | n+15,h=>exact absurd h (by omega))
def rNo (_:List AV) (_:List AO) (x:Int×CODES):Prop:=x.2.Ok
theorem bZ {C:CODES} (h:C.Ok):aB wd B3 φX rNo [cR] [aK C]:=by
 obtain ⟨n,D,hn,hD,hc⟩:=drawn h 15 (by decide)
 haveI:=gB (T:=[]) hc
 exact ea (V:=V0) [kf c6 [cR,.int .i64 15] [aK C] ((n:Int),D) φX] 1 (.n (eL [cR,.int .i64 15] [aK C]) (.r (Qr.getD n 0,D) hD))
  (by
    match n,hn with
    | 0,_ | 1,_ | 2,_ | 3,_ | 4,_ | 5,_ | 6,_ | 7,_ | 8,_ | 9,_ | 10,_ | 11,_ | 12,_ | 13,_ | 14,_=>show _=_;kernel_rfl
    | n+15,h=>exact absurd h (by omega))
noncomputable abbrev eNm:Ent:=aY wd Jz φT rNm
noncomputable abbrev eNo:Ent:=aY wd B3 φX rNo
def rAn (_:List AV) (_:List AO) (x:VAL×CODES):Prop:=x.1.Ok/\x.2.Ok
theorem Gn {C:CODES} (h:C.Ok):aB wd Ng φV rAn [cR] [aK C]:=
 ea (V:=V0) [fD,Ju] 1 (.call (ao h 5 (by decide)) λt q=>.call (pR q.2 (IntKind.wrap .i64 (1+t.1)) (by have q:0<=t.1/\t.1 < 5:=q.1;rw [wrap_i64 (by omega) (by omega)];omega)) λv p=>.r v ⟨p.1.1,p.2⟩) (by kernel_rfl)
noncomputable abbrev Qc:Ent:=aY wd Ng φV rAn
end Go.T

namespace Go.T
open Go Go.Ab Go.Proofs Go.SH
noncomputable def VC:Env:={Vb [14,15,16] [20] [] with
 hint:=λf t=>cond (Nat.beq f dq) (cond (Nat.beq t 23) (hn [0,3,4,6] [3,4] [] []) (cond (Nat.beq t 29) (hn [0,3,4,7,8] [3,4,7] [] []) {})) (V0.hint f t)
 trim:=λf p=>cond (Nat.beq f dq) (yy [tr [1,1,0,1,0,1,1,1,1,1,1,1,1,1,1,1,1,1,1,1,0,1,0,0,0,1,1] [3,4] [3,4],tr [1,1,0,1,0,1,1,1,1,1,1,1,1,1,1,1,1,1,1,1,1,1,0,1,0,1,0,0,0,1,1] [3,4,7] [3,4,7],tr [1,0,1,0,1] [0,3,4] [3,4,20],tr [1,0,1,0,1,1,1] [3,4] [3,4,20],tr [1,1] [0,3,4] [3,4],tr [1,1,1] [3,4] [3,4,61,65,83,87],tr [1,1,0,1,0,1,1,1,1,1,1,1,1,1,1,1,1,1,1,1,0,1,0,0,1,1] [0,3,4,6] [3,4],tr [1,1,0,1,0,1,1,1,1,1,1,1,1,1,1,1,1,1,1,1,1,1,0,1,0,1,0,0,1,1] [0,3,4,7,8] [3,4,7,110,114]] p) (V0.trim f p)}
noncomputable instance:EnvOk VC wd:=⟨rfl,rfl,nd,ny⟩
noncomputable def uV (n:Nat) (g g':Nat->List AV):Bool:=@decide (∀j,j < n->g' j=g j) (Classical.propDecidable _)
noncomputable def Bn (k:Nat) (g':Nat->List AV):Vw:=λs f=>
 match alook s.objs k with
 | some (.grw q sz n g)=>cond (uV n g g') (f {env:=s.env,objs:=aput s.objs k (.grw q sz n g')}) none
 | _=>none
theorem jC {n:Nat} {g g':Nat->List AV} (h:∀j,j < n->g' j=g j):uV n g g'=true:=@decide_eq_true _ (Classical.propDecidable _) h
theorem BG:∀l:List (Nat×AO),ObjsLe l l
 | []=>.nil
 | (k,o)::r=>.cons k o o r r (.same o) (BG r)
theorem zD {k:Nat} {o o':AO} (h:ObjLe o o'):∀l:List (Nat×AO),alook l k=some o->ObjsLe l (aput l k o')
 | [],e=>by cases e
 | (i,x)::r,e=>by
  unfold aput
  unfold alook at e
  cases hb:Nat.beq i k with
  | true=>
   rw [hb] at e
   have e:some x=some o:=e
   cases e
   exact .cons _ _ _ _ _ h (BG r)
  | false=>rw [hb] at e;exact .cons _ _ _ _ _ (.same x) (zD h r e)
def yF:AV->AV
 | .sl _ sz n g=>.sl .no sz n g
 | v=>v
def okS:AV->Bool
 | .sl _ _ _ _=>true
 | .int _ _=>true
 | .str _=>true
 | .bool _=>true
 | _=>false
def JZ (oi:Nat):Vw:=λs f=>
 match alook s.objs oi with
 | some (.cells cs)=>cond (cs.all okS) (f {env:=s.env,objs:=aput s.objs oi (.cells (cs.map yF))}) none
 | _=>none
theorem tB {v:AV} (h:okS v=true):(yF v).keys=[]/\(yF v).one=true/\∀c x,Rep c v x->Rep c (yF v) x:=by
 cases v <;> simp only [okS,reduceCtorEq] at h
 all_goals first
  | exact ⟨rfl,rfl,λc x hx=>hx⟩
  | exact ⟨rfl,rfl,λc x hx=>jD hx λ_ _=>rfl⟩
theorem fp:∀ {cs:List AV},cs.all okS=true->ak (cs.map yF)=[]
 | [],_=>rfl
 | v::r,h=>by
  simp only [List.all_cons,Bool.and_eq_true] at h
  show (yF v).keys++ak (r.map yF)=[]
  rw [(tB h.1).1,fp h.2];rfl
theorem Hl (oi:Nat):fb (JZ oi):=λs f r h=>by
 unfold JZ at h
 split at h
 ·rename_i cs hk
  obtain ⟨hb,h⟩:=bn h
  refine ⟨_,h,λB c a hr hn=>⟨c,rfl,hr.weak (zD (.cells cs _ ⟨List.length_map ..,fp hb,λi u u' hu hu'=>?_⟩) _ hk),hn⟩⟩
  rw [List.getElem?_map,hu] at hu'
  cases hu'
  exact (tB (List.all_eq_true.1 hb u (List.mem_of_getElem? hu))).2
 ·cases h
theorem iU (k:Nat) (g':Nat->List AV):fb (Bn k g'):=λs f r h=>by
 unfold Bn at h
 split at h
 ·rename_i q sz n g hk
  obtain ⟨hb,h⟩:=bn h
  have hb:∀j,j < n->g' j=g j:=@of_decide_eq_true _ (Classical.propDecidable _) hb
  exact ⟨_,h,λB c a hr hn=>⟨c,rfl,hr.weak (zD (.grw q sz n g g' hb) _ hk),hn⟩⟩
 ·cases h
end Go.T

namespace Go.T
open Go Go.Ab Go.Proofs Go.SH
def RX (b:Nat) (cs:List AV):Prop:=∃x:EXP,Fit b x/\TellL cs (eC x)
def LVl (b:Nat) (A:AV):Prop:=∃l:List VAL,l.length<=b/\(∀v∈l,v.Ok)/\cv A (gV l)
def LKd (b:Nat) (B:AV):Prop:=∃l:List EXP,l.length<=b/\(∀x∈l,Fit b x)/\cv B (.sl .no 5 l.length (EXP.row l))
theorem jP {b n:Nat} {g:Nat->List AV} {o:Own} (hn:n<=b) (h:∀j,j < n->rVl (g j)):LVl b (.sl o 4 n g):=by
 obtain ⟨l,h1,h2,h3⟩:=yw h
 exact ⟨l,by omega,h2,h3 o⟩
theorem nh {b n:Nat} {g:Nat->List AV} {o:Own} (hn:n<=b) (h:∀j,j < n->RX b (g j)):LKd b (.sl o 5 n g):=by
 obtain ⟨l,h1,h2,h3⟩:=bH (R:=eC) h
 exact ⟨l,by omega,h2,cv.trans (h3 o 5 λ_=>⟨rfl,rfl⟩) (ja λj hj=>tG hj)⟩
theorem rP {b:Nat}:LVl b nA:=⟨[],Nat.zero_le _,λv hv=>(List.not_mem_nil hv).elim,aU⟩
theorem MH {b:Nat} {l:List VAL} (hn:l.length<=b) (h:∀v∈l,v.Ok):LVl b (gV l):=⟨l,hn,h,.same rfl⟩
theorem MJ {b:Nat} {l:List EXP} (hn:l.length<=b) (h:∀x∈l,Fit b x):LKd b (.sl .no 5 l.length (EXP.row l)):=⟨l,hn,h,.same rfl⟩
theorem n9 {b:Nat} {op:Int} {kd nm:List UInt8} {A B:AV} (hk:fe kd) (hn:fe nm) (hA:LVl b A) (hB:LKd b B):RX b [.int .i64 op,.str kd,.str nm,A,B]:=by
 obtain ⟨vs,a1,a2,a3⟩:=hA
 obtain ⟨ks,b1,b2,b3⟩:=hB
 exact ⟨.mk op kd nm vs ks,.mk _ hk hn a1 a2 b1 b2,.cons (.same rfl) (.cons (.same rfl) (.cons (.same rfl) (.cons a3 (.cons b3 .nil))))⟩
theorem kC {b:Nat} {e:EXP} (h:Fit b e):RX b (eC e):=⟨e,h,TellL.refl (Jt e)⟩
theorem nI {n:Nat} {z g:Nat->List AV} {j:Nat} (hj:j < n):af 0 n z g j=g j:=by rw [dv (Nat.zero_le _) (by omega),Nat.sub_zero]
theorem cS {P:List AV->Prop} {n:Nat} {z g:Nat->List AV} (h:∀j,j < n->P (g j)):∀j,j < 0+n->P (af 0 n z g j):=λj hj=>by rw [nI (by omega)];exact h j (by omega)
def rCo (b:Nat) (_:List AV) (_:List AO) (x:EXP×CODES):Prop:=Fit (b+11) x.1/\x.2.Ok
theorem jm {b:Nat} {cells:List AV} (h:RX (b+11) cells) {D:CODES} (hD:D.Ok) {l:List AV} {os:List AO}:Run (rCo b l os) φE (some (.agg cells,[aK D])):=by
 obtain ⟨x,h1,h2⟩:=h
 exact .t (x,D) ⟨h1,hD⟩ (.agg h2)
abbrev PCn:List Nat:=[1,1,0,1,0,1,1,1,1,1,1,1,1,1,1,1,1,1,1,1,0,1,0]
abbrev PCk:List Nat:=[1,1,0,1,0,1,1,1,1,1,1,1,1,1,1,1,1,1,1,1,1,1,0,1,0,1,0]
abbrev PCv:List Nat:=[1,1,0,1,0,1,1,1,1,1,1,1,1,1,1,1,1,1,1,1,1,1,0,1,0,1,0,0,1,1]
structure CW where
 op:Int
 kd:List UInt8
 nm:List UInt8
 m:Nat
 gv:Nat->List AV
 n:Nat
 g:Nat->List AV
instance:Inhabited CW:=⟨⟨0,[],[],0,λ_=>[],0,λ_=>[]⟩⟩
def CW.c (x:CW):List AV:=[.int .i64 x.op,.str x.kd,.str x.nm,.sl .no 4 x.m x.gv,.sl .no 5 x.n x.g]
structure CW.Ok (b n:Nat) (x:CW):Prop where
 kd:fe x.kd
 nm:fe x.nm
 v:x.m<=b/\∀j,j < x.m->rVl (x.gv j)
 k:x.n<=n/\∀j,j < x.n->RX b (x.g j)
theorem CW.Ok.rx {b:Nat} {x:CW} (h:x.Ok b b):RX b x.c:=n9 h.kd h.nm (jP h.v.1 h.v.2) (nh h.k.1 h.k.2)
def cwE (e:EXP):CW:=⟨e.op,e.kind,e.name,e.vals.length,λj=>(e.vals.getD j default).c,e.kids.length,EXP.row e.kids⟩
theorem Nh {b:Nat} {e:EXP} (h:Fit b e):(cwE e).Ok b b:=by
 cases h with
 | mk _ h1 h2 h3 h4 h5 h6=>exact ⟨h1,h2,⟨h3,λj hj=>qM (h4 _ (aN hj))⟩,⟨h5,λj hj=>by show RX b (EXP.row e.kids j);rw [tG hj];exact kC (h6 _ (aN hj))⟩⟩
theorem RX.mono {b b':Nat} (hb:b<=b') {cs:List AV} (h:RX b cs):RX b' cs:=by
 obtain ⟨x,h1,h2⟩:=h
 exact ⟨x,h1.mono hb,h2⟩
theorem CW.Ok.mono {b b' n n':Nat} (hb:b<=b') (hn:n<=n') {x:CW} (h:x.Ok b n):x.Ok b' n':=⟨h.kd,h.nm,⟨Nat.le_trans h.v.1 hb,h.v.2⟩,⟨Nat.le_trans h.k.1 hn,λj hj=>(h.k.2 j hj).mono hb⟩⟩
structure CNV where
 s:Bool
 x:CW
 g:Nat->List AV
 C:CODES
 i:Int
instance:Inhabited CNV:=⟨⟨false,default,λ_=>[],default,0⟩⟩
def cnC (v:CNV):List AV:=bif v.s then [.int .i64 4,.str [],.str [],nA,.sl .fit 5 1 v.g] else v.x.c
def cnS (v:CNV):St:={env:=[(0,cR),(3,.ref 3 0),(4,.ref 4 0),(6,.int .i64 v.i)],objs:=[(3,.cells (cnC v)),(4,.cells z5),(aa,aK v.C)]}
def cnO (v:CNV) (k:Ex->St->Res):Res:=cond v.s (k (.exit 1) {env:=[(3,.ref 3 0),(4,.ref 4 0)],objs:=[(3,.cells [.int .i64 4,.str [],.str [],nA,.sl .fit 5 1 v.g]),(4,.cells z5),(aa,aK v.C)]}) (k (.exit 1) {env:=[(3,.ref 3 0),(4,.ref 4 0)],objs:=[(3,.cells v.x.c),(4,.cells z5),(aa,aK v.C)]})
def cnI (b:Nat) (v:CNV):Prop:=(v.x.Ok b b/\RX b (v.g 0))/\v.C.Ok/\0<=v.i/\v.i<=11
theorem Nk {b:Nat} (hb:20<=b) {g:Nat->List AV} (h:RX b (g 0)):RX b [.int .i64 4,.str [],.str [],nA,.sl .fit 5 1 g]:=
 n9 (Nat.zero_le _) (Nat.zero_le _) rP (nh (by omega) λj hj=>by obtain rfl:j=0:=(by omega);exact h)
noncomputable abbrev tCo (b:Nat):List Ent:=[fD,aY wd dq φE (rCo b),eNm,Qc,tg,eNo]
noncomputable abbrev wCo (e:EXP):List (List Nat×Vw):=[([1,0,1,0,1],Bn 20 λj=>eC (e.kids.getD j default)),(PCv,JZ 7)]
theorem Pl (b:Nat) (hb:20<=b) (e:EXP):∃ (u:St->Bool) (w:St->CNV),(∀v,cnI b v->bU u w (cnS v) (cnI b))/\∀L:List (List Nat×Orc),bu (VC.run (tCo b) 1 [] L (wCo e) dq) dq PCn (mkO u w cnO):=
 ov (Lf:=λL=>L) cnS (cnI b) (λv=>(12 - v.i).toNat) cnO (cnI b) (by kernel_rfl) λv hv=>by
  obtain ⟨s,x,g,C,i⟩:=v
  have hC:C.Ok:=hv.2.1
  have h0:0<=i:=hv.2.2.1
  have h1:i<=11:=hv.2.2.2
  cases s with
  | true=>
   have hx:RX b [.int .i64 4,.str [],.str [],nA,.sl .fit 5 1 g]:=Nk hb hv.1.2
   exact ⟨_,.call (ao hC 3 (by decide)) λt q=>.b (decide (i < IntKind.wrap .i64 (9+t.1))) (λh=>
     have hi:i < 11:=by have h:=of_decide_eq_true h;have q:0<=t.1/\t.1 < 3:=q.1;rw [wrap_i64 (by omega) (by omega)] at h;omega
     have hw:IntKind.wrap .i64 (i+1)=i+1:=wrap_i64 (by omega) (by omega)
     .go (cnS ⟨true,x,ab z5 [(0,.agg [.int .i64 4,.str [],.str [],nA,.sl .fit 5 1 g])],t.2,IntKind.wrap .i64 (i+1)⟩) (CNV.mk true x (ab z5 [(0,.agg [.int .i64 4,.str [],.str [],nA,.sl .fit 5 1 g])]) t.2 (IntKind.wrap .i64 (i+1)))
      ⟨⟨hv.1.1,hx⟩,q.2,by show 0<=IntKind.wrap .i64 (i+1);omega,by show IntKind.wrap .i64 (i+1)<=11;omega⟩ (by show (12 - IntKind.wrap .i64 (i+1)).toNat < (12 - i).toNat;omega) rfl)
    λh=>.fi (CNV.mk true x g t.2 i) ⟨hv.1,q.2,h0,h1⟩,λL k kn=>by kernel_rfl⟩
  | false=>
   exact ⟨_,.call (ao hC 3 (by decide)) λt q=>.b (decide (i < IntKind.wrap .i64 (9+t.1))) (λh=>
     have hi:i < 11:=by have h:=of_decide_eq_true h;have q:0<=t.1/\t.1 < 3:=q.1;rw [wrap_i64 (by omega) (by omega)] at h;omega
     have hw:IntKind.wrap .i64 (i+1)=i+1:=wrap_i64 (by omega) (by omega)
     .go (cnS ⟨true,x,ab z5 [(0,.agg x.c)],t.2,IntKind.wrap .i64 (i+1)⟩) (CNV.mk true x (ab z5 [(0,.agg x.c)]) t.2 (IntKind.wrap .i64 (i+1)))
      ⟨⟨hv.1.1,hv.1.1.rx⟩,q.2,by show 0<=IntKind.wrap .i64 (i+1);omega,by show IntKind.wrap .i64 (i+1)<=11;omega⟩ (by show (12 - IntKind.wrap .i64 (i+1)).toNat < (12 - i).toNat;omega) rfl)
    λh=>.fi (CNV.mk false x g t.2 i) ⟨hv.1,q.2,h0,h1⟩,λL k kn=>by kernel_rfl⟩
structure CKV where
 y:CW
 x:CW
 C:CODES
 i:Int
instance:Inhabited CKV:=⟨⟨default,default,default,0⟩⟩
def ckS (v:CKV):St:={env:=[(0,cR),(3,.ref 3 0),(4,.ref 4 0),(7,.ref 7 0),(8,.int .i64 v.i)],objs:=[(3,.cells v.y.c),(4,.cells z5),(7,.cells v.x.c),(aa,aK v.C)]}
def ckO (v:CKV) (k:Ex->St->Res):Res:=k (.exit 3) {env:=[(3,.ref 3 0),(4,.ref 4 0),(7,.ref 7 0)],objs:=[(3,.cells v.y.c),(4,.cells z5),(7,.cells v.x.c),(aa,aK v.C)]}
def ckI (b:Nat) (v:CKV):Prop:=v.x.Ok (b+11) (b+v.i.toNat)/\v.C.Ok/\0<=v.i/\v.i<=11
theorem kH {b n:Nat} (h:n*b<=1000000):roomy b n=true:=Nat.ble_eq_true_of_le (by omega)
theorem Pk (b:Nat) (hb:20<=b) (hb':b<=1000) (e:EXP):∃ (u:St->Bool) (w:St->CKV),(∀v,ckI b v->bU u w (ckS v) (ckI b))/\∀L:List (List Nat×Orc),bu (VC.run (tCo b) 1 [] L (wCo e) dq) dq PCk (mkO u w ckO):=
 aA (Lf:=λL=>L) ckS (ckI b) (λv=>(12 - v.i).toNat) ckO (ckI b) (by kernel_rfl)
  (λv hv=>.b (decide (v.i < 11)) (λh=>
    have hi:=of_decide_eq_true h
    have h0:=hv.2.2.1
    have hn:=hv.1.k.1
    have hw:IntKind.wrap .i64 (v.i+1)=v.i+1:=wrap_i64 (by omega) (by omega)
    .n (c:=roomy 88 (0+v.x.n)) (kH (by omega)) (.call (uy hv.2.1) λt q=>.n (av (b:=88) (n:=0+v.x.n+1) (m:=0+v.x.n) (by omega))
     (.to {v with x:={v.x with n:=0+v.x.n+1,g:=af (0+v.x.n) 1 (af 0 v.x.n (λ_=>[]) v.x.g) (ab z5 [(0,.agg (eC t.1))])},C:=t.2,i:=IntKind.wrap .i64 (v.i+1)}
      ⟨⟨hv.1.kd,hv.1.nm,hv.1.v,⟨by show 0+v.x.n+1<=b+(IntKind.wrap .i64 (v.i+1)).toNat;omega,ba (P:=RX (b+11)) (cS hv.1.k.2) (kC (q.1.fit (by omega)))⟩⟩,q.2,by show 0<=IntKind.wrap .i64 (v.i+1);omega,by show IntKind.wrap .i64 (v.i+1)<=11;omega⟩ (by show (12 - IntKind.wrap .i64 (v.i+1)).toNat < (12 - v.i).toNat;omega))))
   λ_=>.fi v hv) (λv L k kn=>by kernel_rfl)
end Go.T

namespace Go.T
open Go Go.Ab Go.Proofs Go.SH
theorem FF {b:Nat} {e:EXP} (h:Fit b e):fe e.kind/\fe e.name/\LVl b (gV e.vals)/\LKd b (.sl .no 5 e.kids.length (EXP.row e.kids)):=by
 cases h with
 | mk _ h1 h2 h3 h4 h5 h6=>exact ⟨h1,h2,MH h3 h4,MJ h5 h6⟩
theorem LVl.mono {b b':Nat} (hb:b<=b') {A:AV} (h:LVl b A):LVl b' A:=by
 obtain ⟨l,h1,h2⟩:=h
 exact ⟨l,Nat.le_trans h1 hb,h2⟩
theorem LKd.mono {b b':Nat} (hb:b<=b') {A:AV} (h:LKd b A):LKd b' A:=by
 obtain ⟨l,h1,h2,h3⟩:=h
 exact ⟨l,Nat.le_trans h1 hb,λx hx=>(h2 x hx).mono hb,h3⟩
theorem L0 {P:List AV->Prop} {g:Nat->List AV} (h0:P (g 0)) (h1:P (g 1)):∀j,j < 2->P (g j):=λj hj=>by
 match j,hj with
 | 0,_=>exact h0
 | 1,_=>exact h1
theorem L1 {P:List AV->Prop} {g:Nat->List AV} (h0:P (g 0)):∀j,j < 1->P (g j):=λj hj=>by
 obtain rfl:j=0:=(by omega)
 exact h0
theorem HB (k n:Int):rVl [.int .i64 k,.int .i64 n,.str [],nA]:=⟨VAL.mk k n [] [],⟨Nat.zero_le _,Ci⟩,tu k n []⟩
theorem Au (b:Nat) (hb:20<=b) (hb':b<=1000):∀e:EXP,Fit b e->∀C:CODES,C.Ok->aB wd dq φE (rCo b) [cR,.agg (eC e)] [aK C]:=by
 intro e he
 induction he with
 | mk e h1 h2 h3 h4 h5 h6 ih=>
 intro C hC
 have he:Fit b e:=.mk e h1 h2 h3 h4 h5 h6
 obtain ⟨p1,p2,p3,p4⟩:=FF he
 have p3:=p3.mono (show b<=b+11 by omega)
 have p4:=p4.mono (show b<=b+11 by omega)
 have he':=he.mono (show b<=b+11 by omega)
 have l40:∀ {s:List UInt8},s.length<=40->fe s:=xL
 obtain ⟨u1,w1,k1,l1⟩:=Pl b hb e
 obtain ⟨u2,w2,k2,l2⟩:=Pk b hb hb' e
 have fin:=λ(D:CODES) (hD:D.Ok)=>Run.call (Post:=rCo b [cR,.agg (eC e)] [aK C]) (φ:=φE) (ao hD 10 (by decide)) λt q=>.b (t.1==0)
  (λ_=>.call (ao q.2 18 (by decide)) λs p=>jm (cells:=[.int .i64 (IntKind.wrap .i64 (s.1 - 1)),.str e.kind,.str e.name,gV e.vals,.sl .no 5 e.kids.length (EXP.row e.kids)]) (n9 p1 p2 p3 p4) p.2) λ_=>.b (t.1==1)
  (λ_=>.call (dj q.2) λs p=>jm (cells:=[.int .i64 e.op,.str s.1,.str e.name,gV e.vals,.sl .no 5 e.kids.length (EXP.row e.kids)]) (n9 (l40 p.1) p2 p3 p4) p.2) λ_=>.b (t.1==2)
  (λ_=>.call (dj q.2) λs p=>jm (cells:=[.int .i64 e.op,.str e.kind,.str s.1,gV e.vals,.sl .no 5 e.kids.length (EXP.row e.kids)]) (n9 p1 (l40 p.1) p3 p4) p.2) λ_=>.b (t.1==3)
  (λ_=>.n (c:=roomy 56 (0+e.vals.length)) (kH (by omega)) (.call (Gn q.2) λs p=>.n (av (b:=56) (n:=0+e.vals.length+1) (m:=0+e.vals.length) (by omega))
   (jm (cells:=[.int .i64 e.op,.str e.kind,.str e.name,.sl .no 4 (0+e.vals.length+1) (af (0+e.vals.length) 1 (af 0 e.vals.length (λ_=>[]) λj=>(e.vals.getD j default).c) (ab z4 [(0,.agg s.1.c)])),.sl .no 5 e.kids.length (EXP.row e.kids)])
    (n9 p1 p2 (jP (by omega) (ba (P:=rVl) (cS λj hj=>qM (h4 _ (aN hj))) (qM p.1))) p4) p.2))) λ_=>.b (t.1==4)
  (λ_=>jm (cells:=[.int .i64 e.op,.str e.kind,.str e.name,nA,.sl .no 5 e.kids.length (EXP.row e.kids)]) (n9 p1 p2 rP p4) q.2) λ_=>.b (t.1==5)
  (λ_=>.call (ao q.2 7 (by decide)) λs p=>.call (bZ p.2) λr o=>jm (cells:=[.int .i64 e.op,.str e.kind,.str e.name,.sl .fit 4 1 (ab z4 [(0,.agg [.int .i64 s.1,.int .i64 r.1,.str [],nA])]),.sl .no 5 e.kids.length (EXP.row e.kids)])
    (n9 p1 p2 (jP (by omega) (L1 (HB s.1 r.1))) p4) o) λ_=>.b (t.1==6)
  (λ_=>.n (c:=roomy 88 (0+e.kids.length)) (kH (by omega)) (.call (uy q.2) λs p=>.n (av (b:=88) (n:=0+e.kids.length+1) (m:=0+e.kids.length) (by omega))
   (jm (cells:=[.int .i64 e.op,.str e.kind,.str e.name,gV e.vals,.sl .no 5 (0+e.kids.length+1) (af (0+e.kids.length) 1 (af 0 e.kids.length (λ_=>[]) (EXP.row e.kids)) (ab z5 [(0,.agg (eC s.1))]))])
    (n9 p1 p2 p3 (nh (by omega) (ba (P:=RX (b+11)) (cS λj hj=>by rw [tG hj];exact kC ((h6 _ (aN hj)).mono (by omega))) (kC (p.1.fit (by omega)))))) p.2))) λ_=>.b (t.1==7)
  (λ_=>.lp (k1 (CNV.mk false (cwE e) (λ_=>eC e) t.2 0) ⟨⟨Nh he,kC he⟩,q.2,by show (0:Int)<=0;decide,by show (0:Int)<=11;decide⟩) λv hv=>.b v.s
   (λ_=>jm (cells:=[.int .i64 4,.str [],.str [],nA,.sl .fit 5 1 v.g]) ((Nk hb hv.1.2).mono (by omega)) hv.2.1)
   λ_=>jm (cells:=v.x.c) (hv.1.1.rx.mono (by omega)) hv.2.1) λ_=>.b (t.1==8)
  (λ_=>.lp (k2 (CKV.mk (cwE e) (cwE e) t.2 0) ⟨(Nh he).mono (by omega) (by show b<=b+0;omega),q.2,by show (0:Int)<=0;decide,by show (0:Int)<=11;decide⟩) λv hv=>jm (cells:=v.x.c) (CW.Ok.rx (hv.1.mono (Nat.le_refl _) (by have:=hv.2.2;omega))) hv.2.1) λ_=>.b (t.1==9)
  (λ_=>.call (uy q.2) λs p=>jm (cells:=[.int .i64 2,.str [],.str [],nA,.sl .fit 5 2 (ab z5 [(0,.agg (eC e)),(1,.agg (eC s.1))])])
    (n9 (Nat.zero_le _) (Nat.zero_le _) rP (nh (by omega) (L0 (kC he') (kC (p.1.fit (by omega)))))) p.2)
  λ_=>jm (cells:=eC e) (kC he') q.2
 exact cM (V:=VC) (T:=tCo b) (d:=1) (W:=wCo e) 0 (ag (l1 _) (ag (l2 _) aE)) (bE (iU _ _) (bE (Hl _) aD))
  (.b (decide ((e.kids.length:Int) > 0)) (λhk=>.call (ao hC 3 (by decide)) λt q=>.b (bif true then decide (t.1 > 0) else false)
   (λ_=>
    have hk:=of_decide_eq_true hk
    .n (c:=roomy 88 (0+e.kids.length)) (kH (by omega)) (.n (c:=uV (0+e.kids.length) (af 0 e.kids.length (λ_=>[]) (EXP.row e.kids)) λj=>eC (e.kids.getD j default)) (jC λj hj=>by rw [nI (by omega),tG (by omega)])
    (.call (ao q.2 ((0+e.kids.length:Nat):Int) (by omega)) λi p=>
     have hi:0<=i.1/\i.1 < ((0+e.kids.length:Nat):Int):=p.1
     have hj:i.1.toNat < e.kids.length:=by omega
     have hm:=aN hj
     .n (c:=within i.1 (0+e.kids.length)&&Nat.beq (0+e.kids.length) (0+e.kids.length)) (by rw [ay hi.1 hi.2,Nat.beq_refl];rfl) (.n (c:=Nat.blt i.1.toNat (0+e.kids.length)&&Nat.beq (0+e.kids.length) (0+e.kids.length)) (by rw [hH (by omega),Nat.beq_refl];rfl)
     (.call (ih _ hm i.2 p.2) λs o=>
     .n (c:=within i.1 (0+e.kids.length)&&Nat.beq (0+e.kids.length) (0+e.kids.length)) (by rw [ay hi.1 hi.2,Nat.beq_refl];rfl) (.n (c:=Nat.ble 0 1&&(Nat.blt i.1.toNat (0+e.kids.length)&&Nat.beq (0+e.kids.length) (0+e.kids.length))) (by rw [hH (by omega),Nat.beq_refl];rfl)
     (.n (c:=Nat.beq 5 5&&Nat.beq (0+e.kids.length) (0+e.kids.length)) (by simp)
     (jm (cells:=[.int .i64 e.op,.str e.kind,.str e.name,gV e.vals,.sl .no 5 (0+e.kids.length) λj=>bif Nat.beq j i.1.toNat then eC s.1 else eC (e.kids.getD j default)])
      (n9 p1 p2 p3 (nh (by omega) λj hj=>by
       show RX (b+11) (bif Nat.beq j i.1.toNat then eC s.1 else eC (e.kids.getD j default))
       cases Nat.beq j i.1.toNat
       ·exact kC ((h6 _ (aN (by omega))).mono (by omega))
       ·exact kC o.1)) o.2))))))))
   λ_=>fin t.2 q.2)
  λ_=>fin C hC) (by kernel_rfl)
noncomputable abbrev eCo (b:Nat):Ent:=aY wd dq φE (rCo b)
end Go.T

namespace Go.T
open Go Go.Ab Go.Proofs Go.SH
noncomputable def VR:Env:={Vb [] [8,75] [] with
 hint:=λf t=>cond (Nat.beq f lO) (hn [0,1,6] [75] [] []) (V0.hint f t)
 trim:=λf p=>cond (Nat.beq f lO) (yy [tr [1,1,1] [0,1] [8],tr [1,1,1,1,0,1,0,1,1,1,1,1,1,1,1,1,1,1,0,1,0,1,0,0,0,1,1] [1] [75],tr [1,1,1,1,0,1,0,1,1,1,1,1,1,1,1,1,1,1,0,1,0,1,0,0,1] [0,1,6] [75],tr [1,1,1,1,0,1,0,1,1,1,1,1,1,1,1,1,1,1,0,1,0,1,0,0,1,1] [0,1,6] [75],tr [1,1,1,1,0,1,0,1,1,1,1,1,1,1,1,1,1,1,0,1,1] [1] [75],tr [1,1,1,1,1] [1] [8,75]] p) (V0.trim f p)}
noncomputable instance:EnvOk VR wd:=⟨rfl,rfl,nd,ny⟩
structure RGV where
 s:Bool
 n:Nat
 g:Nat->List AV
 C:CODES
 i:Int
instance:Inhabited RGV:=⟨⟨false,0,λ_=>[],default,0⟩⟩
def rvS (v:RGV):St:=bif v.s then {env:=[(0,cR),(1,.gsl 75 3 v.n),(6,.int .i64 v.i)],objs:=[(75,.grw 0 3 v.n v.g),(aa,aK v.C)]} else {env:=[(0,cR),(1,nA),(6,.int .i64 v.i)],objs:=[(aa,aK v.C)]}
def rvO (v:RGV) (k:Ex->St->Res):Res:=cond v.s (k (.exit 1) {env:=[(1,.gsl 75 3 v.n)],objs:=[(75,.grw 0 3 v.n v.g),(aa,aK v.C)]}) (k (.exit 1) {env:=[(1,nA)],objs:=[(aa,aK v.C)]})
def rvR (j:Nat):List AV:=[.int .i64 j,.int .i64 (IntKind.wrap .i64 ((j:Int)+1)),.int .i64 (IntKind.wrap .i64 (1+Int.tmod (j:Int) 2))]
end Go.T

namespace Go.T
open Go Go.Ab Go.Proofs Go.SH
def rRn (b:Nat) (_:List AV) (_:List AO) (x:List RG×CODES):Prop:=x.1.length<=b+17/\x.2.Ok
theorem L5 {b n:Nat} {g:Nat->List AV} (hn:n<=b+17) (h:∀j,j < n->rRg (g j)) {D:CODES} (hD:D.Ok) {l:List AV} {os:List AO}:Run (rRn b l os) φRg (some (.sl .no 3 n g,[aK D])):=by
 obtain ⟨rs,h1,h2⟩:=uY h
 exact .t (rs,D) ⟨by show rs.length<=b+17;omega,hD⟩ (.one (h2 .no))
theorem yP (r:RG):rRg (nW r):=⟨r,trivial,TellL.refl rfl⟩
theorem HS (a b c:Int):rRg [.int .i64 a,.int .i64 b,.int .i64 c]:=⟨(a,b,c),trivial,TellL.refl rfl⟩
abbrev PRl:List Nat:=[1,1,1,1,0,1,0,1,1,1,1,1,1,1,1,1,1,1,0,1,0,1,0]
noncomputable abbrev wRn (l:List RG):List (List Nat×Vw):=[([1,1,1],Bn 8 λj=>nW (l.getD j (0,0,0))),([1,1,1,1,1],Ce (Oi 1 8 899) (fzT 1)),([1,1,1,1,0,1,0,1,1,1,1,1,1,1,1,1,1,1,0,1,1],Bn 75 rvR)]
def rvI (v:RGV):Prop:=(v.s=true->1<=v.n/\(v.n:Int)=v.i/\∀j,j < v.n->v.g j=rvR j)/\(v.s=false->v.i=0)/\v.C.Ok/\0<=v.i/\v.i<=17
def rvP (v:RGV):Prop:=v.s=true/\(1<=v.n/\v.n<=17/\∀j,j < v.n->v.g j=rvR j)/\v.C.Ok
theorem J5 (l:List RG):∃ (u:St->Bool) (w:St->RGV),(∀v,rvI v->bU u w (rvS v) rvP)/\∀L:List (List Nat×Orc),bu (VR.run [fD,eNo] 1 [] L (wRn l) lO) lO PRl (mkO u w rvO):=
 ov (Lf:=λL=>L) rvS rvI (λv=>(18 - v.i).toNat) rvO rvP (by kernel_rfl) λv hv=>by
  obtain ⟨s,n,g,C,i⟩:=v
  obtain ⟨ht,hf,hC,h0,h1⟩:=hv
  have hC:C.Ok:=hC
  have h0:0<=i:=h0
  have h1:i<=17:=h1
  cases s with
  | false=>
   have hi:i=0:=hf rfl
   subst hi
   exact ⟨_,.call (ao hC 2 (by decide)) λt q=>
    have q1:0<=t.1/\t.1 < 2:=q.1
    .b (decide ((0:Int) < IntKind.wrap .i64 (16+t.1))) (λ_=>
     .go (rvS ⟨true,1,af 0 1 (λ_=>[]) (ab z3 [(0,.agg [.int .i64 0,.int .i64 (IntKind.wrap .i64 ((0:Int)+1)),.int .i64 (IntKind.wrap .i64 (1+Int.tmod (0:Int) 2))])]),t.2,IntKind.wrap .i64 ((0:Int)+1)⟩) (RGV.mk true 1 (af 0 1 (λ_=>[]) (ab z3 [(0,.agg [.int .i64 0,.int .i64 (IntKind.wrap .i64 ((0:Int)+1)),.int .i64 (IntKind.wrap .i64 (1+Int.tmod (0:Int) 2))])])) t.2 (IntKind.wrap .i64 ((0:Int)+1)))
      ⟨λ_=>⟨Nat.le_refl _,by show ((1:Nat):Int)=IntKind.wrap .i64 ((0:Int)+1);decide,λj hj=>by have hj:j < 1:=hj;obtain rfl:j=0:=(by omega);rfl⟩,λh=>(by cases h),q.2,by show 0<=IntKind.wrap .i64 ((0:Int)+1);decide,by show IntKind.wrap .i64 ((0:Int)+1)<=17;decide⟩ (by show (18 - IntKind.wrap .i64 ((0:Int)+1)).toNat < (18 - (0:Int)).toNat;decide) rfl)
    λh=>.fi (RGV.mk false n g t.2 0) (by have h:=of_decide_eq_false h;rw [wrap_i64 (by omega) (by omega)] at h;omega),λL k kn=>by kernel_rfl⟩
  | true=>
   obtain ⟨k1,k2,k3⟩:=ht rfl
   have k1:1<=n:=k1
   have k2:(n:Int)=i:=k2
   subst k2
   have hw:IntKind.wrap .i64 ((n:Int)+1)=((n+1:Nat):Int):=bb (by omega)
   exact ⟨_,.call (ao hC 2 (by decide)) λt q=>
    have q1:0<=t.1/\t.1 < 2:=q.1
    .b (decide ((n:Int) < IntKind.wrap .i64 (16+t.1))) (λh=>.n (av (b:=24) (n:=n+1) (m:=n) (by omega))
     (have hn:n < 17:=by have h:=of_decide_eq_true h;rw [wrap_i64 (by omega) (by omega)] at h;omega
     .go (rvS ⟨true,n+1,af n 1 g (ab z3 [(0,.agg (rvR n))]),t.2,IntKind.wrap .i64 ((n:Int)+1)⟩) (RGV.mk true (n+1) (af n 1 g (ab z3 [(0,.agg (rvR n))])) t.2 (IntKind.wrap .i64 ((n:Int)+1)))
      ⟨λ_=>⟨Nat.succ_pos _,hw.symm,λj hj=>by
       have hj:j < n+1:=hj
       show af n 1 g _ j=rvR j
       by_cases e:j < n
       ·rw [du e];exact k3 j e
       ·obtain rfl:j=n:=(by omega)
        rw [dv (Nat.le_refl _) (by omega),Nat.sub_self];rfl⟩,λh=>(by cases h),q.2,by show 0<=IntKind.wrap .i64 ((n:Int)+1);omega,by show IntKind.wrap .i64 ((n:Int)+1)<=17;omega⟩ (by show (18 - IntKind.wrap .i64 ((n:Int)+1)).toNat < (18 - (n:Int)).toNat;omega) rfl))
    λh=>.fi (RGV.mk true n g t.2 n) ⟨rfl,⟨k1,by show n<=17;omega,k3⟩,q.2⟩,λL k kn=>by kernel_rfl⟩
theorem rn (l:List RG) (hl:l.length<=1000) {C:CODES} (hC:C.Ok):aB wd lO φRg (rRn l.length) [cR,lF l] [aK C]:=by
 obtain ⟨u,w,hu,hlo⟩:=J5 l
 have bq:∀n:Nat,(Nat.beq 3 3&&Nat.beq n n)=true:=λn=>by simp
 have id:∀j,j < 0+l.length->rRg (nW (l.getD j (0,0,0))):=λj _=>yP _
 have rt:=λ(n:Nat) (g:Nat->List AV) (D:CODES) (hD:D.Ok) (hn:n<=l.length+17) (h:∀j,j < n->rRg (g j))=>Run.n (c:=Nat.beq 3 3&&Nat.beq n n) (bq n) (L5 (l:=[cR,lF l]) (os:=[aK C]) hn h hD)
 exact cM (V:=VR) (T:=[fD,eNo]) (d:=1) (W:=wRn l) 0 (ag (hlo _) aE) (bE (iU _ _) (bE (mM (J9 1 8 899) (MS 1)) (bE (iU _ _) aD)))
  (.n (c:=roomy 24 (0+l.length)) (kH (by omega)) (.b (((0+l.length:Nat):Int)==0) (λ_=>rt (0+l.length) (af 0 l.length (λ_=>[]) λj=>nW (l.getD j (0,0,0))) C hC (by omega) (cS λj _=>yP _)) λh0=>
   have hl0:0 < l.length:=by have h0:((0+l.length:Nat):Int)≠0:=(by simpa using h0);omega
   .n (c:=uV (0+l.length) (af 0 l.length (λ_=>[]) λj=>nW (l.getD j (0,0,0))) λj=>nW (l.getD j (0,0,0))) (jC λj hj=>(nI (j:=j) (n:=l.length) (z:=λ_=>[]) (g:=λj=>nW (l.getD j (0,0,0))) (by omega)).symm) (.call (ao hC ((0+l.length:Nat):Int) (by omega)) λi p=>
   have hi:0<=i.1/\i.1 < ((0+l.length:Nat):Int):=p.1
   have g1:(within i.1 (0+l.length)&&Nat.beq (0+l.length) (0+l.length))=true:=by rw [ay hi.1 hi.2,Nat.beq_refl];rfl
   have g2:(Nat.ble 0 1&&(Nat.blt i.1.toNat (0+l.length)&&Nat.beq (0+l.length) (0+l.length)))=true:=by rw [hH (by omega),Nat.beq_refl];rfl
   have st:∀ {a b c:Int},∀j,j < 0+l.length->rRg (bif Nat.beq j i.1.toNat then [.int .i64 a,.int .i64 b,.int .i64 c] else nW (l.getD j (0,0,0))):=fun {a b c} j _=>by cases Nat.beq j i.1.toNat <;> first | exact HS a b c | exact yP _
   .call (ao p.2 6 (by decide)) λt q=>.b (t.1==0)
    (λ_=>.call (bZ q.2) λs o=>.n g1 (.n g2 (rt (0+l.length) (λj=>bif Nat.beq j i.1.toNat then [.int .i64 s.1,.int .i64 (l.getD i.1.toNat (0,0,0)).2.1,.int .i64 (l.getD i.1.toNat (0,0,0)).2.2] else nW (l.getD j (0,0,0))) s.2 o (by omega) st))) λ_=>.b (t.1==1)
    (λ_=>.call (bZ q.2) λs o=>.n g1 (.n g2 (rt (0+l.length) (λj=>bif Nat.beq j i.1.toNat then [.int .i64 (l.getD i.1.toNat (0,0,0)).1,.int .i64 s.1,.int .i64 (l.getD i.1.toNat (0,0,0)).2.2] else nW (l.getD j (0,0,0))) s.2 o (by omega) st))) λ_=>.b (t.1==2)
    (λ_=>.call (bZ q.2) λs o=>.n g1 (.n g2 (rt (0+l.length) (λj=>bif Nat.beq j i.1.toNat then [.int .i64 (l.getD i.1.toNat (0,0,0)).1,.int .i64 (l.getD i.1.toNat (0,0,0)).2.1,.int .i64 s.1] else nW (l.getD j (0,0,0))) s.2 o (by omega) st))) λ_=>.b (t.1==3)
    (λ_=>.n (c:=decide ((0:Int)<=((0:Nat):Int))&&(decide (((0:Nat):Int)<=i.1)&&decide (i.1<=((0+l.length:Nat):Int)))) (slT (Int.le_refl _) hi.1 (by omega))
     (.n (c:=Nat.beq 3 3&&(Nat.beq (0+l.length) (0+l.length)&&(j6 0 (Int.toNat i.1 - Int.toNat ((0:Nat):Int))&&Nat.ble (Int.toNat i.1 - Int.toNat ((0:Nat):Int)) (0+l.length)))) (by simp [j6];omega)
     (rt (Int.toNat i.1 - Int.toNat ((0:Nat):Int)) (λj=>nW (l.getD j (0,0,0))) t.2 q.2 (by omega) λj _=>yP _))) λ_=>.b (t.1==4)
    (λ_=>.n g1 (.n (c:=Nat.blt i.1.toNat (0+l.length)&&Nat.beq (0+l.length) (0+l.length)) (by rw [hH (by omega),Nat.beq_refl];rfl) (.n (av (b:=24) (n:=0+l.length+1) (m:=0+l.length) (by omega))
     (rt (0+l.length+1) (af (0+l.length) 1 (λj=>nW (l.getD j (0,0,0))) (ab z3 [(0,.agg (nW (l.getD i.1.toNat (0,0,0))))])) t.2 q.2 (by omega) (ba (P:=rRg) id (yP _)))))) λ_=>.b (t.1==5)
    (λ_=>.lp (hu (RGV.mk false 0 (λ_=>[]) t.2 0) ⟨λh=>(by cases h),λ_=>rfl,q.2,Int.le_refl _,by show (0:Int)<=17;decide⟩) λv hv=>
     have hn:=hv.2.1
     have w1:IntKind.wrap .i64 ((v.n:Int) - 1)=((v.n - 1:Nat):Int):=by rw [wrap_i64 (by omega) (by omega)];omega
     .n hv.1 (.n (c:=uV v.n v.g rvR) (jC λj hj=>(hn.2.2 j hj).symm)
     (.n (c:=within (IntKind.wrap .i64 ((v.n:Int) - 1)) v.n&&Nat.beq v.n v.n) (by rw [w1,cw (show v.n - 1 < v.n by omega),Nat.beq_refl];rfl)
     (.n (c:=Nat.ble 0 1&&(Nat.blt (Int.toNat (IntKind.wrap .i64 ((v.n:Int) - 1))) v.n&&Nat.beq v.n v.n)) (by rw [w1,Int.toNat_natCast,hH (by omega),Nat.beq_refl];rfl)
     (rt v.n (λj=>bif Nat.beq j (Int.toNat (IntKind.wrap .i64 ((v.n:Int) - 1))) then [.int .i64 (Int.toNat (IntKind.wrap .i64 ((v.n:Int) - 1)):Nat),.int .i64 10000,.int .i64 (IntKind.wrap .i64 (1+Int.tmod ((Int.toNat (IntKind.wrap .i64 ((v.n:Int) - 1)):Nat):Int) 2))] else rvR j) v.C hv.2.2 (by omega) λj _=>by
      cases Nat.beq j (Int.toNat (IntKind.wrap .i64 ((v.n:Int) - 1))) <;> exact HS _ _ _)))))
    λ_=>rt (0+l.length) (λj=>nW (l.getD j (0,0,0))) t.2 q.2 (by omega) id))) (by kernel_rfl)
end Go.T

namespace Go.T
open Go Go.Ab Go.Proofs Go.SH
open Go.SO (SmG SmT SmF SmL SmX)
noncomputable abbrev eRn (b:Nat):Ent:=aY wd lO φRg (rRn b)
def φS2 (x:SERVE×CODES):AV×List AO:=(.agg x.1.c,[aK x.2])
def rS2 (b:Nat) (_:List AV) (_:List AO) (x:SERVE×CODES):Prop:=SO.SmV (b+40) x.1/\x.2.Ok
theorem wX {b:Nat} {var:Int} {k y s:List UInt8} {sp:List RG} (hk:fe k) (hy:fe y) (hs:fe s) (hb:b<=1000) (hp:sp.length<=b):SO.SmV b ⟨var,k,y,s,sp⟩:=⟨hp,hk,hy,hs,by show sp.length<=_;omega⟩
theorem xa (b:Nat) (hb:b<=900) (v:SERVE) (hv:SO.SmV b v) {C:CODES} (hC:C.Ok):aB wd F0 φS2 (rS2 b) [cR,.agg v.c] [aK C]:=by
 obtain ⟨h0,h1,h2,h3,h4⟩:=hv
 have l40:∀ {s:List UInt8},s.length<=40->fe s:=xL
 exact ea (V:=V0) [fD,eNo,eNm,eRn v.split.length] 1 (.call (ao hC 6 (by decide)) λt q=>.b (t.1==0)
  (λ_=>.call (bZ q.2) λs p=>.r (SERVE.mk s.1 v.kind v.by' v.salt v.split,s.2) ⟨wX h1 h2 h3 (by omega) (by omega),p⟩) λ_=>.b (t.1==1)
  (λ_=>.call (dj q.2) λs p=>.r (SERVE.mk v.var s.1 v.by' v.salt v.split,s.2) ⟨wX (l40 p.1) h2 h3 (by omega) (by omega),p.2⟩) λ_=>.b (t.1==2)
  (λ_=>.call (dj q.2) λs p=>.r (SERVE.mk v.var v.kind s.1 v.salt v.split,s.2) ⟨wX h1 (l40 p.1) h3 (by omega) (by omega),p.2⟩) λ_=>.b (t.1==3)
  (λ_=>.r (SERVE.mk v.var v.kind v.by' [127] v.split,t.2) ⟨wX h1 h2 (l40 (by decide)) (by omega) (by omega),q.2⟩)
  λ_=>.call (rn v.split (by omega) q.2) λs p=>.r (SERVE.mk v.var v.kind v.by' v.salt s.1,s.2) ⟨wX h1 h2 h3 (by omega) (by have:=p.1;omega),p.2⟩) (by kernel_rfl)
noncomputable abbrev eS2 (b:Nat):Ent:=aY wd F0 φS2 (rS2 b)
def RSt (cs:List AV):Prop:=∃s:List UInt8,s.length<=1000/\TellL cs [.str s]
def LSt (b:Nat) (A:AV):Prop:=∃l:List (List UInt8),SmT l b/\cv A (bR l)
theorem Jh {b n:Nat} {g:Nat->List AV} {o:Own} (hn:n<=b) (h:∀j,j < n->RSt (g j)):LSt b (.sl o 1 n g):=by
 obtain ⟨l,h1,h2,h3⟩:=bH (R:=λs:List UInt8=>[AV.str s]) h
 exact ⟨l,⟨by omega,h2⟩,h3 o 1 λ_=>⟨rfl,rfl⟩⟩
theorem JW {s:List UInt8} (h:s.length<=1000):RSt [.str s]:=⟨s,h,TellL.refl rfl⟩
theorem zt {b:Nat} {l:List (List UInt8)} (h:SmT l b):LSt b (bR l):=⟨l,h,.same rfl⟩
def φLs (l:List (List UInt8)):AV×List AO:=(bR l,[])
def rLn (_:List AV) (_:List AO) (l:List (List UInt8)):Prop:=SmT l 50
def lnS (n:Nat) (v:RW×Nat):St:={env:=[(0,.int .i64 n),(3,.sl (.key 24) 1 v.1.n v.1.g),(4,.int .i64 v.2)],objs:=[(24,.own 1 v.1.n)]}
def lnO (v:RW×Nat) (k:Ex->St->Res):Res:=k (.exit 0) {env:=[(3,.sl (.key 24) 1 v.1.n v.1.g)],objs:=[(24,.own 1 v.1.n)]}
def lnT (i:Nat):List UInt8:=[109]++(Utf8.encode (IntKind.wrap .i32 (IntKind.wrap .i64 (48+IntKind.wrap .i64 (Int.tdiv (i:Int) 10))))).data.toList++(Utf8.encode (IntKind.wrap .i32 (IntKind.wrap .i64 (48+Int.tmod (i:Int) 10)))).data.toList
theorem KG (i:Nat):(lnT i).length<=1000:=by
 unfold lnT
 rw [List.length_append,List.length_append]
 have h1:=mD (IntKind.wrap .i32 (IntKind.wrap .i64 (48+IntKind.wrap .i64 (Int.tdiv (i:Int) 10))))
 have h2:=mD (IntKind.wrap .i32 (IntKind.wrap .i64 (48+Int.tmod (i:Int) 10)))
 show 1+_+_<=1000
 omega
theorem KF (n:Nat) (hn:n<=50):aB wd B1 φLs rLn [.int .i64 n] []:=by
 obtain ⟨u,w,hu,hl⟩:=aA (V:=V0) (T:=[]) (d:=1) (W:=[]) (f:=B1) (p:=[1,1,0,1,0]) (Lf:=λL=>L) (lnS n) (λv=>(v.1.n=v.2/\v.2<=n)/\∀j,j < v.1.n->RSt (v.1.g j)) (λv=>n - v.2) lnO (λv=>v.1.n<=50/\∀j,j < v.1.n->RSt (v.1.g j)) (by kernel_rfl)
  (λv hv=>.b (decide ((v.2:Int) < (n:Int))) (λh=>
    have hi:v.2 < n:=nf h
    have h1:=hv.1.1
    .n (oD (r:=IntKind.wrap .i32 (IntKind.wrap .i64 (48+IntKind.wrap .i64 (Int.tdiv (v.2:Int) 10)))) (s:=[109]) (by decide)) (.n (oD (r:=IntKind.wrap .i32 (IntKind.wrap .i64 (48+Int.tmod (v.2:Int) 10))) (s:=[109]++(Utf8.encode (IntKind.wrap .i32 (IntKind.wrap .i64 (48+IntKind.wrap .i64 (Int.tdiv (v.2:Int) 10))))).data.toList) (by
      rw [List.length_append]
      have h1:=mD (IntKind.wrap .i32 (IntKind.wrap .i64 (48+IntKind.wrap .i64 (Int.tdiv (v.2:Int) 10))))
      show 1+_<=100
      omega)) (.n (av (b:=16) (n:=v.1.n+1) (m:=v.1.n) (by omega))
     (.go {env:=[(0,.int .i64 n),(3,.sl (.key 24) 1 (v.1.n+1) (af v.1.n 1 v.1.g (ab [.str []] [(0,.str (lnT v.2))]))),(4,.int .i64 (IntKind.wrap .i64 ((v.2:Int)+1)))],objs:=[(24,.own 1 (v.1.n+1))]} (⟨v.1.n+1,af v.1.n 1 v.1.g (ab [.str []] [(0,.str (lnT v.2))])⟩,v.2+1)
      ⟨⟨by show v.1.n+1=v.2+1;omega,hi⟩,ba (P:=RSt) hv.2 (JW (KG _))⟩ (by show n - (v.2+1) < n - v.2;omega) (by rw [bb (by omega)];rfl)))))
   λ_=>.fi v ⟨by have:=hv.1;omega,hv.2⟩) (λv L k kn=>by kernel_rfl)
 exact ff (V:=V0) [] 1 hl (.lp (hu (⟨0,λ_=>[.str []]⟩,0) ⟨⟨rfl,Nat.zero_le _⟩,λj hj=>absurd hj (Nat.not_lt_zero _)⟩) λv hv=>by
  obtain ⟨l,h1,h2⟩:=Jh (o:=.no) hv.1 hv.2
  exact .t l h1 (.one h2)) (by kernel_rfl)
noncomputable abbrev eLn:Ent:=aY wd B1 φLs rLn
theorem Ji (i:Int) (hi:0<=i/\i < 3):aB wd B1 φLs rLn [.int .i64 (IntKind.wrap .i64 (39+i))] []:=by
 have e:IntKind.wrap .i64 (39+i)=((39+i).toNat:Int):=by rw [wrap_i64 (by omega) (by omega)];omega
 rw [e]
 exact KF _ (by omega)
def φG2 (x:SEG×CODES):AV×List AO:=(.agg x.1.c,[aK x.2])
instance:Inhabited (SEG×CODES):=⟨(default,default)⟩
def rG2 (b:Nat) (_:List AV) (_:List AO) (x:SEG×CODES):Prop:=SmG (b+40) x.1/\x.2.Ok
theorem sb {b:Nat} {k kd:List UInt8} {A B:AV} {w5:List AV} (hk:k.length<=1000) (hd:kd.length<=1000) (hA:LSt (b+40) A) (hB:LSt (b+40) B) (hw:RX (b+40) w5) {D:CODES} (hD:D.Ok) {l:List AV} {os:List AO}:Run (rG2 b l os) φG2 (some (.agg (.str k::.str kd::A::B::w5),[aK D])):=by
 obtain ⟨a,a1,a2⟩:=hA
 obtain ⟨c,c1,c2⟩:=hB
 obtain ⟨w,w1,w2⟩:=hw
 exact .t (SEG.mk k kd a c w,D) ⟨⟨hk,hd,a1,c1,w1⟩,hD⟩ (.agg (.cons (.same rfl) (.cons (.same rfl) (.cons a2 (.cons c2 w2)))))
theorem iB {b b':Nat} (hb:b<=b') {l:List (List UInt8)} (h:SmT l b):SmT l b':=⟨Nat.le_trans h.1 hb,h.2⟩
theorem Cn (b:Nat) (hb:20<=b/\b<=900) (g:SEG) (hg:SmG b g) {C:CODES} (hC:C.Ok):aB wd x8 φG2 (rG2 b) [cR,.agg g.c] [aK C]:=by
 obtain ⟨h1,h2,h3,h4,h5⟩:=hg
 have k40:∀ {s:List UInt8},s.length<=40->s.length<=1000:=λh=>Nat.le_trans h (by decide)
 have i3:=zt (iB (show b<=b+40 by omega) h3)
 have i4:=zt (iB (show b<=b+40 by omega) h4)
 have i5:=(kC h5).mono (show b<=b+40 by omega)
 have hc:=Au b hb.1 (by omega) g.when h5
 exact ea (V:=V0) [fD,eNm,Lj,eLn,eCo b] 1 (.call (ao hC 6 (by decide)) λt q=>.b (t.1==0)
  (λ_=>.call (dj q.2) λs p=>sb (k:=s.1) (k40 p.1) h2 i3 i4 i5 p.2) λ_=>.b (t.1==1)
  (λ_=>.call (dj q.2) λs p=>sb (kd:=s.1) h1 (k40 p.1) i3 i4 i5 p.2) λ_=>.b (t.1==2)
  (λ_=>.n (c:=roomy 16 (0+g.incl.length)) (kH (by have:=h3.1;omega)) (.call (Jm q.2) λs p=>.n (av (b:=16) (n:=0+g.incl.length+1) (m:=0+g.incl.length) (by have:=h3.1;omega))
   (sb (A:=.sl .no 1 (0+g.incl.length+1) (af (0+g.incl.length) 1 (af 0 g.incl.length (λ_=>[]) λj=>[.str (g.incl.getD j [])]) (ab [.str []] [(0,.str s.1)]))) h1 h2
    (Jh (by have:=h3.1;omega) (ba (P:=RSt) (cS λj hj=>JW (h3.2 _ (aN hj))) (JW (Nat.le_trans p.1 (by decide))))) i4 i5 p.2))) λ_=>.b (t.1==3)
  (λ_=>.call (ao q.2 3 (by decide)) λs p=>.call (Ji s.1 p.1) λr o=>sb (B:=bR r) h1 h2 i3 (zt (iB (by omega) o)) i5 p.2) λ_=>.b (t.1==4)
  (λ_=>.call (hc t.2 q.2) λs p=>sb (w5:=eC s.1) h1 h2 i3 i4 ((kC p.1).mono (by omega)) p.2) λ_=>.b (t.1==5)
  (λ_=>.call (dj q.2) λs p=>sb (w5:=[.int .i64 5,.str [],.str s.1,nA,nA]) h1 h2 i3 i4 (n9 (Nat.zero_le _) (xL p.1) rP ⟨[],Nat.zero_le _,λx hx=>(List.not_mem_nil hx).elim,aU⟩) p.2)
  λ_=>sb (w5:=eC g.when) h1 h2 i3 i4 i5 q.2) (by kernel_rfl)
noncomputable abbrev eG2 (b:Nat):Ent:=aY wd x8 φG2 (rG2 b)
end Go.T

namespace Go.T
open Go Go.Ab Go.Proofs Go.SH
open Go.SO (SmG SmT SmF SmL SmX zl)
def LRg (b:Nat) (A:AV):Prop:=∃l:List RG,l.length<=b/\cv A (lF l)
theorem vt {b n:Nat} {g:Nat->List AV} {o:Own} (hn:n<=b) (h:∀j,j < n->rRg (g j)):LRg b (.sl o 3 n g):=by
 obtain ⟨l,h1,h2⟩:=uY h
 exact ⟨l,by omega,h2 o⟩
def rL2 (b:Nat) (_:List AV) (_:List AO) (x:LAYER×CODES):Prop:=SmL (b+40) x.1/\x.2.Ok
theorem rR {b:Nat} {k kd s:List UInt8} {ho co:Int} {A:AV} (hk:k.length<=1000) (hd:kd.length<=1000) (hs:s.length<=1000) (hA:LRg (b+40) A) {D:CODES} (hD:D.Ok) {l:List AV} {os:List AO}:Run (rL2 b l os) φLy (some (.agg [.str k,.str kd,.str s,.int .i64 ho,.int .i64 co,A],[aK D])):=by
 obtain ⟨a,a1,a2⟩:=hA
 exact .t (LAYER.mk k kd s ho co a,D) ⟨⟨⟨hk,hd,hs⟩,a1⟩,hD⟩ (.agg (.cons (.same rfl) (.cons (.same rfl) (.cons (.same rfl) (.cons (.same rfl) (.cons (.same rfl) (.cons a2 .nil)))))))
structure L2V where
 x:LAYER
 q:Nat
 r:RW
 C:CODES
 i:Int
instance:Inhabited L2V:=⟨⟨default,0,default,default,0⟩⟩
def l2O (v:L2V):List (Nat×AO):=[(3,.cells [.str v.x.key,.str v.x.kind,.str v.x.salt,.int .i64 v.x.hold,.int .i64 v.x.cool,.sl (.key 64) 3 v.r.n v.r.g]),(4,.cells zl),(8,.own 3 v.q),(64,.own 3 v.r.n),(aa,aK v.C)]
def l2S (v:L2V):St:={env:=[(0,cR),(3,.ref 3 0),(4,.ref 4 0),(5,.int .i64 v.i)],objs:=l2O v}
def l2E (v:L2V) (k:Ex->St->Res):Res:=k (.exit 1) {env:=[(3,.ref 3 0),(4,.ref 4 0)],objs:=l2O v}
def l2P (v:L2V):Prop:=(v.x.key.length<=1000/\v.x.kind.length<=1000/\v.x.salt.length<=1000)/\(v.r.n<=33/\∀j,j < v.r.n->rRg (v.r.g j))/\v.C.Ok
theorem Fl (b:Nat) (hb:b<=900) (x:LAYER) (hx:SmL b x) {C:CODES} (hC:C.Ok):aB wd Am φLy (rL2 b) [cR,.agg x.c] [aK C]:=by
 obtain ⟨⟨h1,h2,h3⟩,h4⟩:=hx
 have k40:∀ {s:List UInt8},s.length<=40->s.length<=1000:=λh=>Nat.le_trans h (by decide)
 obtain ⟨u,w,hu,hl⟩:=aA (V:=V0) (T:=[fD,eNo,eNm]) (d:=1) (W:=[]) (f:=Am) (p:=[1,1,0,1,0,1,1,1,1,1,1,1,1,1,1,1,0,1,1,0]) (Lf:=λL=>L) l2S (λv=>l2P v/\(v.r.n:Int)=v.i) (λv=>34 - v.r.n) l2E l2P (by kernel_rfl)
  (λv hv=>
   have h0:=hv.1.2.1.1
   have hi:=hv.2
   .call (ao hv.1.2.2 2 (by decide)) λt q=>
   have q1:0<=t.1/\t.1 < 2:=q.1
   .b (decide (v.i < IntKind.wrap .i64 (32+t.1))) (λh=>
    have hn:v.r.n < 33:=by have h:=of_decide_eq_true h;rw [wrap_i64 (by omega) (by omega)] at h;omega
    .n (av (b:=24) (n:=v.r.n+1) (m:=v.r.n) (by omega))
    (.to {v with r:=⟨v.r.n+1,af v.r.n 1 v.r.g (ab z3 [(0,.agg [.int .i64 v.i,.int .i64 (IntKind.wrap .i64 (v.i+1)),.int .i64 v.i])])⟩,C:=t.2,i:=IntKind.wrap .i64 (v.i+1)}
     ⟨⟨hv.1.1,⟨by show v.r.n+1<=33;omega,ba (P:=rRg) hv.1.2.1.2 (HS _ _ _)⟩,q.2⟩,by show ((v.r.n+1:Nat):Int)=IntKind.wrap .i64 (v.i+1);rw [wrap_i64 (by omega) (by omega)];omega⟩ (by show 34 - (v.r.n+1) < 34 - v.r.n;omega)))
   λ_=>.fi {v with C:=t.2} ⟨hv.1.1,hv.1.2.1,q.2⟩) (λv L k kn=>by kernel_rfl)
 have cp:LRg (b+40) (.sl .no 3 (0+x.cooling.length) (af 0 x.cooling.length (λ_=>[]) λj=>nW (x.cooling.getD j (0,0,0)))):=vt (by omega) (cS λj _=>yP _)
 exact ff (V:=V0) [fD,eNo,eNm] 1 hl (.n (c:=roomy 24 (0+x.cooling.length)) (kH (by omega)) (.call (ao hC 6 (by decide)) λt q=>.b (t.1==0)
  (λ_=>.call (dj q.2) λs p=>rR (k:=s.1) (ho:=x.hold) (co:=x.cool) (k40 p.1) h2 h3 cp p.2) λ_=>.b (t.1==1)
  (λ_=>.call (dj q.2) λs p=>rR (kd:=s.1) (ho:=x.hold) (co:=x.cool) h1 (k40 p.1) h3 cp p.2) λ_=>.b (t.1==2)
  (λ_=>.call (bZ q.2) λs p=>rR (ho:=s.1) (co:=x.cool) h1 h2 h3 cp p) λ_=>.b (t.1==3)
  (λ_=>.call (bZ q.2) λs p=>rR (ho:=x.hold) (co:=s.1) h1 h2 h3 cp p) λ_=>.b (t.1==4)
  (λ_=>.call (bZ q.2) λs p=>.call (bZ p) λs2 p2=>.call (bZ p2) λs3 p3=>.n (av (b:=24) (n:=0+x.cooling.length+1) (m:=0+x.cooling.length) (by omega))
   (rR (ho:=x.hold) (co:=x.cool) (A:=.sl .no 3 (0+x.cooling.length+1) (af (0+x.cooling.length) 1 (af 0 x.cooling.length (λ_=>[]) λj=>nW (x.cooling.getD j (0,0,0))) (ab z3 [(0,.agg [.int .i64 s.1,.int .i64 s2.1,.int .i64 s3.1])]))) h1 h2 h3
    (vt (by omega) (ba (P:=rRg) (cS λj _=>yP _) (HS _ _ _))) p3)) λ_=>.b (t.1==5)
  (λ_=>.lp (hu (L2V.mk x (0+x.cooling.length) ⟨0,λ_=>z3⟩ t.2 0) ⟨⟨⟨h1,h2,h3⟩,⟨Nat.zero_le _,λj hj=>absurd hj (Nat.not_lt_zero _)⟩,q.2⟩,rfl⟩) λv hv=>rR (k:=v.x.key) (kd:=v.x.kind) (s:=v.x.salt) (ho:=v.x.hold) (co:=v.x.cool) (A:=.sl .no 3 v.r.n v.r.g) hv.1.1 hv.1.2.1 hv.1.2.2 (vt (by have:=hv.2.1.1;omega) hv.2.1.2) hv.2.2)
  λ_=>rR (ho:=x.hold) (co:=x.cool) h1 h2 h3 cp q.2)) (by kernel_rfl)
noncomputable abbrev eL2 (b:Nat):Ent:=aY wd Am φLy (rL2 b)
end Go.T

namespace Go.T
open Go Go.Ab Go.Proofs Go.SH
open Go.SO (SmG SmT SmF SmL SmX)
def RSp (cs:List AV):Prop:=∃r:Int×Int,True/\TellL cs (He r)
def LSp (b:Nat) (A:AV):Prop:=∃l:List (Int×Int),l.length<=b/\cv A (yr l)
theorem vr {b n:Nat} {g:Nat->List AV} {o:Own} (hn:n<=b) (h:∀j,j < n->RSp (g j)):LSp b (.sl o 2 n g):=by
 obtain ⟨l,h1,h2,h3⟩:=bH (R:=He) (Q:=λ_=>True) h
 exact ⟨l,by omega,h3 o 2 λ_=>⟨rfl,rfl⟩⟩
theorem Hf (a b:Int):RSp [.int .i64 a,.int .i64 b]:=⟨(a,b),trivial,TellL.refl rfl⟩
theorem Fg {b:Nat} {l:List RG} (h:l.length<=b):LRg b (lF l):=⟨l,h,.same rfl⟩
def rX2 (b:Nat) (_:List AV) (_:List AO) (x:EXPT×CODES):Prop:=SmX (b+40) x.1/\x.2.Ok
theorem j3 {b:Nat} {k ly f s:List UInt8} {st:Int} {A R:AV} {w5:List AV} (hk:k.length<=1000) (hl:ly.length<=1000) (hf:f.length<=1000) (hs:s.length<=1000) (hA:LSp (10000+(b+40)) A) (hR:LRg (b+40) R) (hw:RX (b+40) w5) {D:CODES} (hD:D.Ok) {l:List AV} {os:List AO} :
  Run (rX2 b l os) φXp (some (.agg (.str k::.str ly::.str f::.str s::.int .i64 st::A::R::w5),[aK D])):=by
 obtain ⟨a,a1,a2⟩:=hA
 obtain ⟨r,r1,r2⟩:=hR
 obtain ⟨w,w1,w2⟩:=hw
 exact .t (EXPT.mk k ly f s st a r w,D) ⟨⟨hk,hl,hf,hs,a1,r1,w1⟩,hD⟩ (.agg (.cons (.same rfl) (.cons (.same rfl) (.cons (.same rfl) (.cons (.same rfl) (.cons (.same rfl) (.cons a2 (.cons r2 w2))))))))
structure X2V where
 q:Nat
 r:RW
 C:CODES
 i:Int
instance:Inhabited X2V:=⟨⟨0,default,default,0⟩⟩
abbrev zS2:List AV:=[.int .i64 0,.int .i64 0]
def x2O (x:EXPT) (v:X2V):List (Nat×AO):=[(3,.cells (.str x.key::.str x.layer::.str x.flag::.str x.salt::.int .i64 x.status::.sl (.key 64) 2 v.r.n v.r.g::lF x.arms::eC x.when)),(4,.cells yq),(8,.own 2 v.q),(64,.own 2 v.r.n),(aa,aK v.C)]
def x2S (x:EXPT) (v:X2V):St:={env:=[(0,cR),(3,.ref 3 0),(4,.ref 4 0),(5,.int .i64 v.i)],objs:=x2O x v}
def x2E (x:EXPT) (v:X2V) (k:Ex->St->Res):Res:=k (.exit 1) {env:=[(3,.ref 3 0),(4,.ref 4 0)],objs:=x2O x v}
def x2P (v:X2V):Prop:=(v.r.n<=17/\∀j,j < v.r.n->RSp (v.r.g j))/\v.C.Ok
theorem IC (b:Nat) (hb:20<=b/\b<=900) (x:EXPT) (hx:SmX b x) {C:CODES} (hC:C.Ok):aB wd k7 φXp (rX2 b) [cR,.agg x.c] [aK C]:=by
 obtain ⟨h1,h2,h3,h4,h5,h6,h7⟩:=hx
 have k40:∀ {s:List UInt8},s.length<=40->s.length<=1000:=λh=>Nat.le_trans h (by decide)
 obtain ⟨u,w,hu,hl⟩:=aA (V:=V0) (T:=[fD,eNo,eNm,eRn x.arms.length,eCo b]) (d:=1) (W:=[]) (f:=k7) (p:=[1,1,0,1,0,1,1,1,1,1,1,1,1,1,1,1,0,1,1,0]) (Lf:=λL=>L) (x2S x) (λv=>x2P v/\(v.r.n:Int)=v.i) (λv=>18 - v.r.n) (x2E x) x2P (by kernel_rfl)
  (λv hv=>
   have h0:=hv.1.1.1
   have hi:=hv.2
   .call (ao hv.1.2 2 (by decide)) λt q=>
   have q1:0<=t.1/\t.1 < 2:=q.1
   .b (decide (v.i < IntKind.wrap .i64 (16+t.1))) (λh=>
    have hn:v.r.n < 17:=by have h:=of_decide_eq_true h;rw [wrap_i64 (by omega) (by omega)] at h;omega
    .n (av (b:=16) (n:=v.r.n+1) (m:=v.r.n) (by omega))
    (.to {v with r:=⟨v.r.n+1,af v.r.n 1 v.r.g (ab zS2 [(0,.agg [.int .i64 (IntKind.wrap .i64 (2*v.i)),.int .i64 (IntKind.wrap .i64 (IntKind.wrap .i64 (2*v.i)+1))])])⟩,C:=t.2,i:=IntKind.wrap .i64 (v.i+1)}
     ⟨⟨⟨by show v.r.n+1<=17;omega,ba (P:=RSp) hv.1.1.2 (Hf _ _)⟩,q.2⟩,by show ((v.r.n+1:Nat):Int)=IntKind.wrap .i64 (v.i+1);rw [wrap_i64 (by omega) (by omega)];omega⟩ (by show 18 - (v.r.n+1) < 18 - v.r.n;omega)))
   λ_=>.fi {v with C:=t.2} ⟨hv.1.1,q.2⟩) (λv L k kn=>by kernel_rfl)
 have cp:LSp (10000+(b+40)) (.sl .no 2 (0+x.claims.length) (af 0 x.claims.length (λ_=>[]) λj=>He (x.claims.getD j (0,0)))):=vr (by omega) (cS λj _=>Hf _ _)
 have ar:LRg (b+40) (lF x.arms):=Fg (by omega)
 have wh:=(kC h7).mono (show b<=b+40 by omega)
 have c8:=λ(D:CODES) (hD:D.Ok)=>Au b hb.1 (by omega) x.when h7 D hD
 exact ff (V:=V0) [fD,eNo,eNm,eRn x.arms.length,eCo b] 1 hl (.n (c:=roomy 16 (0+x.claims.length)) (kH (by omega)) (.call (ao hC 9 (by decide)) λt q=>.b (t.1==0)
  (λ_=>.call (dj q.2) λs p=>j3 (k:=s.1) (st:=x.status) (k40 p.1) h2 h3 h4 cp ar wh p.2) λ_=>.b (t.1==1)
  (λ_=>.call (dj q.2) λs p=>j3 (ly:=s.1) (st:=x.status) h1 (k40 p.1) h3 h4 cp ar wh p.2) λ_=>.b (t.1==2)
  (λ_=>.call (dj q.2) λs p=>j3 (f:=s.1) (st:=x.status) h1 h2 (k40 p.1) h4 cp ar wh p.2) λ_=>.b (t.1==3)
  (λ_=>.call (ao q.2 6 (by decide)) λs p=>j3 (st:=IntKind.wrap .i64 (s.1 - 1)) h1 h2 h3 h4 cp ar wh p.2) λ_=>.b (t.1==4)
  (λ_=>.call (bZ q.2) λs p=>.call (bZ p) λs2 p2=>.n (av (b:=16) (n:=0+x.claims.length+1) (m:=0+x.claims.length) (by omega))
   (j3 (st:=x.status) (A:=.sl .no 2 (0+x.claims.length+1) (af (0+x.claims.length) 1 (af 0 x.claims.length (λ_=>[]) λj=>He (x.claims.getD j (0,0))) (ab zS2 [(0,.agg [.int .i64 s.1,.int .i64 s2.1])]))) h1 h2 h3 h4
    (vr (by omega) (ba (P:=RSp) (cS λj _=>Hf _ _) (Hf _ _))) ar wh p2)) λ_=>.b (t.1==5)
  (λ_=>.lp (hu (X2V.mk (0+x.claims.length) ⟨0,λ_=>zS2⟩ t.2 0) ⟨⟨⟨Nat.zero_le _,λj hj=>absurd hj (Nat.not_lt_zero _)⟩,q.2⟩,rfl⟩) λv hv=>j3 (st:=x.status) (A:=.sl .no 2 v.r.n v.r.g) h1 h2 h3 h4 (vr (by have:=hv.1.1;omega) hv.1.2) ar wh hv.2) λ_=>.b (t.1==6)
  (λ_=>.b (t.1==6) (λ_=>.call (rn x.arms (by omega) q.2) λs p=>j3 (st:=x.status) (R:=lF s.1) h1 h2 h3 h4 cp (Fg (by have:=p.1;omega)) wh p.2)
   λ_=>.b (t.1==8) (λ_=>.call (c8 t.2 q.2) λs p=>j3 (st:=x.status) (w5:=eC s.1) h1 h2 h3 h4 cp ar ((kC p.1).mono (by omega)) p.2) λ_=>j3 (st:=x.status) (w5:=eC x.when) h1 h2 h3 h4 cp ar wh q.2) λ_=>.b (t.1==7)
  (λ_=>.call (rn x.arms (by omega) q.2) λs p=>j3 (st:=x.status) (R:=lF s.1) h1 h2 h3 h4 cp (Fg (by have:=p.1;omega)) wh p.2) λ_=>.b (t.1==8)
  (λ_=>.call (c8 t.2 q.2) λs p=>j3 (st:=x.status) (w5:=eC s.1) h1 h2 h3 h4 cp ar ((kC p.1).mono (by omega)) p.2) λ_=>j3 (st:=x.status) (w5:=eC x.when) h1 h2 h3 h4 cp ar wh q.2)) (by kernel_rfl)
noncomputable abbrev eX2 (b:Nat):Ent:=aY wd k7 φXp (rX2 b)
end Go.T

namespace Go.T
open Go Go.Ab Go.Proofs Go.SH
noncomputable def VF:Env:={Vb [] [13] [] with
 hint:=λf t=>cond (Nat.beq f ug) (hn [0,3,4] [3,4,9,13,17,21,42,71,83,97,110,191] [] []) (V0.hint f t)
 trim:=λf p=>cond (Nat.beq f ug) (yy [tr [1,1,1,1,1] [0,3,4] [3,4,9,13,17,21],tr [1,1,1,1,1,0,1,0,1,1,1,1,1,1,1,1,1,1,1,1,1,1,1,1,1,1,1] [0,3,4,24,112] [3,4,9,13,17,21,42,71,83,97,110,191],tr [1,1,1,1,1,0,1,0,1,1,1,1,1,1,1,1,1,1,1,1,1,1,1,1,1,1,1,1,1,1,1,1,1,0,0,0,0,1,1] [3,4] [3,4,9,13,17,21,42,71,83,97,110,191],tr [1,1,1,1,1,0,1,0,1,1,1,1,1,1,1,1,1,1,1,1,1,1,1,1,1,1,1,1,1,1,1,1,1,0,0,0,1] [0,3,4] [3,4,9,13,17,21,42,71,83,97,110,191],tr [1,1,1,1,1,1] [3,4] [3,4,9,13,17,21,42,71,83,97,110,191]] p) (V0.trim f p)}
noncomputable instance:EnvOk VF wd:=⟨rfl,rfl,nd,ny⟩
abbrev PFl:List Nat:=[1,1,1,1,1,0,1,0,1,1,1,1,1,1,1,1,1,1,1,1,1,1,1,1,1,1,1,1,1,1,1,1,1,0,0]
noncomputable abbrev wFl (f:FLAG):List (List Nat×Vw):=[([1,1,1,1,1],Bn 13 λj=>(f.rules.getD j default).c)]
structure F2V where
 a:RW
 b:RW
 c:RW
 r:RW
 C:CODES
instance:Inhabited F2V:=⟨⟨default,default,default,default,default⟩⟩
def f2O (f:FLAG) (v:F2V):List (Nat×AO):=[(3,.cells (.str f.key::.int .i64 f.kind::.sl (.key 9) 4 v.a.n v.a.g::.bool f.on::.int .i64 f.off::.sl (.key 21) 2 v.b.n v.b.g::.sl (.key 17) 3 v.c.n v.c.g::.gsl 13 11 v.r.n::f.dflt.c)),(4,.cells zF),(9,.own 4 v.a.n),(13,.grw 0 11 v.r.n v.r.g),(17,.own 3 v.c.n),(21,.own 2 v.b.n),(aa,aK v.C)]
def f2S (f:FLAG) (v:F2V):St:={env:=[(0,cR),(3,.ref 3 0),(4,.ref 4 0)],objs:=f2O f v}
def f2E (f:FLAG) (v:F2V) (k:Ex->St->Res):Res:=k (.exit 1) {env:=[(3,.ref 3 0),(4,.ref 4 0)],objs:=f2O f v}
end Go.T

namespace Go.T
open Go Go.Ab Go.Proofs Go.SH
open Go.SO (SmG SmT SmF SmL SmX)
theorem AZ:∀ {a b c d:List AV},TellL a b->TellL c d->TellL (a++c) (b++d)
 | [],_,_,_,.nil,h=>h
 | _::_,_,_,_,.cons h1 h2,h=>.cons h1 (AZ h2 h)
def RTg (b:Nat) (cs:List AV):Prop:=∃t:TGT,(t.kind.length<=1000/\SmT t.keys b)/\TellL cs t.c
def RRu (b:Nat) (cs:List AV):Prop:=∃r:RULE,(r.name.length<=1000/\Fit b r.when/\SO.SmV b r.serve)/\TellL cs r.c
def LPq (b:Nat) (A:AV):Prop:=∃l:List PRQ,(l.length<=b/\∀p∈l,p.flag.length<=1000)/\cv A (GF l)
def LTg (b:Nat) (A:AV):Prop:=∃l:List TGT,(l.length<=b/\∀t∈l,t.kind.length<=1000/\SmT t.keys b)/\cv A (GZ l)
def LRu (b:Nat) (A:AV):Prop:=∃l:List RULE,(l.length<=b/\∀r∈l,r.name.length<=1000/\Fit b r.when/\SO.SmV b r.serve)/\cv A (lW l)
theorem vu {b n:Nat} {g:Nat->List AV} {o:Own} (hn:n<=b) (h:∀j,j < n->PRw (g j)):LPq b (.sl o 2 n g):=by
 obtain ⟨l,h1,h2,h3⟩:=bH (R:=PRQ.c) h
 exact ⟨l,⟨by omega,h2⟩,h3 o 2 λ_=>⟨rfl,rfl⟩⟩
theorem qD {b n:Nat} {g:Nat->List AV} {o:Own} (hn:n<=b) (h:∀j,j < n->RTg b (g j)):LTg b (.sl o 3 n g):=by
 obtain ⟨l,h1,h2,h3⟩:=bH (R:=TGT.c) h
 exact ⟨l,⟨by omega,h2⟩,h3 o 3 λ_=>⟨rfl,rfl⟩⟩
theorem qF {b n:Nat} {g:Nat->List AV} {o:Own} (hn:n<=b) (h:∀j,j < n->RRu b (g j)):LRu b (.sl o 11 n g):=by
 obtain ⟨l,h1,h2,h3⟩:=bH (R:=RULE.c) h
 exact ⟨l,⟨by omega,h2⟩,h3 o 11 λ_=>⟨rfl,rfl⟩⟩
theorem mQ {b b':Nat} (hb:b<=b') {s:SERVE} (h:SO.SmV b s):SO.SmV b' s:=⟨Nat.le_trans h.1 hb,h.2⟩
theorem HG {b:Nat} {nm:List UInt8} {w5:List AV} {s:SERVE} (hn:nm.length<=1000) (hw:RX b w5) (hs:SO.SmV b s):RRu b (.str nm::(w5++s.c)):=by
 obtain ⟨w,w1,w2⟩:=hw
 exact ⟨RULE.mk nm w s,⟨hn,w1,hs⟩,.cons (.same rfl) (AZ w2 (TellL.refl rfl))⟩
theorem Oe {b:Nat} {r:RULE} (h:r.name.length<=1000/\Fit b r.when/\SO.SmV b r.serve):RRu b r.c:=⟨r,h,TellL.refl rfl⟩
def rF2 (b:Nat) (_:List AV) (_:List AO) (x:FLAG×CODES):Prop:=SmF (b+40) x.1/\x.2.Ok
theorem MV {b:Nat} {k:List UInt8} {kd off:Int} {on:Bool} {A B T R:AV} {d:SERVE} (hk:k.length<=1000) (hA:LVl (b+40) A) (hB:LPq (b+40) B) (hT:LTg (b+40) T) (hR:LRu (b+40) R) (hd:SO.SmV (b+40) d) {D:CODES} (hD:D.Ok) {l:List AV} {os:List AO} :
  Run (rF2 b l os) φFl (some (.agg (.str k::.int .i64 kd::A::.bool on::.int .i64 off::B::T::R::d.c),[aK D])):=by
 obtain ⟨a,a1,a2,a3⟩:=hA
 obtain ⟨p,p1,p2⟩:=hB
 obtain ⟨t,t1,t2⟩:=hT
 obtain ⟨r,r1,r2⟩:=hR
 exact .t (FLAG.mk k kd a on off p t r d,D) ⟨⟨hk,⟨a1,a2⟩,p1,t1,r1,hd⟩,hD⟩ (.agg (.cons (.same rfl) (.cons (.same rfl) (.cons a3 (.cons (.same rfl) (.cons (.same rfl) (.cons p2 (.cons t2 (.cons r2 (TellL.refl rfl))))))))))
def f2I (b:Nat) (v:F2V):Prop:=((v.a.n<=b+40/\∀j,j < v.a.n->rVl (v.a.g j))/\(v.b.n<=b+40/\∀j,j < v.b.n->PRw (v.b.g j))/\(v.c.n<=b+40/\∀j,j < v.c.n->RTg (b+40) (v.c.g j))/\(v.r.n<=b+40/\∀j,j < v.r.n->RRu (b+40) (v.r.g j)))/\v.C.Ok
noncomputable abbrev tF2 (b:Nat):List Ent:=[fD,eNo,eNm,Qc,IM,eLn,eCo b,eS2 b]
abbrev zR2:List AV:=[.str [],.int .i64 0,.str [],.str [],nA,nA,.int .i64 0,.str [],.str [],.str [],nA]
abbrev JP:List AV:=[.int .i64 1,.str [],.str [],nA,nA]
theorem Ec (b:Nat):RX b JP:=n9 (Nat.zero_le _) (Nat.zero_le _) rP ⟨[],Nat.zero_le _,λx hx=>(List.not_mem_nil hx).elim,aU⟩
theorem K6 (b:Nat) (hb:20<=b/\b<=900) (f:FLAG) (hf:SmF b f):∃ (u:St->Bool) (w:St->F2V),(∀v,f2I b v->bU u w (f2S f v) (f2I b))/\∀L:List (List Nat×Orc),bu (VF.run (tF2 b) 1 [] L (wFl f) ug) ug PFl (mkO u w (f2E f)):=
 aA (Lf:=λL=>L) (f2S f) (f2I b) (λv=>14 - v.r.n) (f2E f) (f2I b) (by kernel_rfl)
  (λv hv=>
   have hr:=hv.1.2.2.2
   .call (ao hv.2 2 (by decide)) λt q=>
   have q1:0<=t.1/\t.1 < 2:=q.1
   .b (decide ((v.r.n:Int) < IntKind.wrap .i64 (12+t.1))) (λh=>
    have hn:v.r.n < 13:=by have h:=of_decide_eq_true h;rw [wrap_i64 (by omega) (by omega)] at h;omega
    .n (oD (r:=IntKind.wrap .i32 (IntKind.wrap .i64 (97+(v.r.n:Int)))) (s:=[114]) (by decide)) (.n (av (b:=184) (n:=v.r.n+1) (m:=v.r.n) (by omega))
    (.to {v with r:=⟨v.r.n+1,af v.r.n 1 v.r.g (ab zR2 [(0,.agg (.str ([114]++(Utf8.encode (IntKind.wrap .i32 (IntKind.wrap .i64 (97+(v.r.n:Int))))).data.toList)::(JP++f.dflt.c)))])⟩,C:=t.2}
     ⟨⟨hv.1.1,hv.1.2.1,hv.1.2.2.1,⟨by show v.r.n+1<=b+40;omega,ba (P:=RRu (b+40)) hr.2 (HG (by
      rw [List.length_append]
      have:=mD (IntKind.wrap .i32 (IntKind.wrap .i64 (97+(v.r.n:Int))))
      show 1+_<=1000
      omega) (Ec _) (mQ (by omega) hf.dflt))⟩⟩,q.2⟩ (by show 14 - (v.r.n+1) < 14 - v.r.n;omega))))
   λ_=>.fi {v with C:=t.2} ⟨hv.1,q.2⟩) (λv L k kn=>by kernel_rfl)
theorem Iy (b:Nat) (hb:20<=b/\b<=900) (f:FLAG) (hf:SmF b f) {C:CODES} (hC:C.Ok):aB wd ug φFl (rF2 b) [cR,.agg f.c] [aK C]:=by
 obtain ⟨u,w,hu,hl⟩:=K6 b hb f hf
 obtain ⟨h1,h2,h3,h4,h5,h6⟩:=hf
 have k40:∀ {s:List UInt8},s.length<=40->s.length<=1000:=λh=>Nat.le_trans h (by decide)
 have le:b<=b+40:=by omega
 have up:∀r∈f.rules,r.name.length<=1000/\Fit (b+40) r.when/\SO.SmV (b+40) r.serve:=λr hr=>⟨(h5.2 r hr).1,(h5.2 r hr).2.1.mono le,mQ le (h5.2 r hr).2.2⟩
 have ra:∀j,j < 0+f.vars.length->rVl (af 0 f.vars.length (λ_=>[]) (λj=>(f.vars.getD j default).c) j):=cS λj hj=>qM (h2.2 _ (aN hj))
 have rb:∀j,j < 0+f.prqs.length->PRw (af 0 f.prqs.length (λ_=>[]) (λj=>(f.prqs.getD j default).c) j):=cS λj hj=>⟨_,h3.2 _ (aN hj),TellL.refl rfl⟩
 have rc:∀j,j < 0+f.tgts.length->RTg (b+40) (af 0 f.tgts.length (λ_=>[]) (λj=>(f.tgts.getD j default).c) j):=cS λj hj=>⟨_,⟨(h4.2 _ (aN hj)).1,iB le (h4.2 _ (aN hj)).2⟩,TellL.refl rfl⟩
 have rr:∀j,j < 0+f.rules.length->RRu (b+40) (f.rules.getD j default).c:=λj hj=>Oe (up _ (aN (by omega)))
 have A:LVl (b+40) (.sl .no 4 (0+f.vars.length) (af 0 f.vars.length (λ_=>[]) λj=>(f.vars.getD j default).c)):=jP (by have:=h2.1;omega) ra
 have B:LPq (b+40) (.sl .no 2 (0+f.prqs.length) (af 0 f.prqs.length (λ_=>[]) λj=>(f.prqs.getD j default).c)):=vu (by have:=h3.1;omega) rb
 have T:LTg (b+40) (.sl .no 3 (0+f.tgts.length) (af 0 f.tgts.length (λ_=>[]) λj=>(f.tgts.getD j default).c)):=qD (by have:=h4.1;omega) rc
 have R:LRu (b+40) (.sl .no 11 (0+f.rules.length) λj=>(f.rules.getD j default).c):=qF (by have:=h5.1;omega) rr
 have dd:=mQ le h6
 have bq:∀n:Nat,(Nat.beq 11 11&&Nat.beq n n)=true:=λn=>by simp
 have rt:=λ(k:List UInt8) (kd off:Int) (A B T:AV) (n:Nat) (g:Nat->List AV) (d:SERVE) (D:CODES) (hD:D.Ok) (hk:k.length<=1000) (hA:LVl (b+40) A) (hB:LPq (b+40) B) (hT:LTg (b+40) T) (hR:LRu (b+40) (.sl .no 11 n g)) (hd:SO.SmV (b+40) d)=>
  Run.n (c:=Nat.beq 11 11&&Nat.beq n n) (bq n) (MV (b:=b) (l:=[cR,.agg f.c]) (os:=[aK C]) (kd:=kd) (off:=off) (on:=f.on) hk hA hB hT hR hd hD)
 have id0:=λ(D:CODES) (hD:D.Ok)=>rt f.key f.kind f.off (.sl .no 4 (0+f.vars.length) (af 0 f.vars.length (λ_=>[]) λj=>(f.vars.getD j default).c)) (.sl .no 2 (0+f.prqs.length) (af 0 f.prqs.length (λ_=>[]) λj=>(f.prqs.getD j default).c)) (.sl .no 3 (0+f.tgts.length) (af 0 f.tgts.length (λ_=>[]) λj=>(f.tgts.getD j default).c)) (0+f.rules.length) (λj=>(f.rules.getD j default).c) f.dflt D hD h1 A B T R dd
 have gi:∀ {i:Int},0<=i/\i < ((0+f.rules.length:Nat):Int)->(within i (0+f.rules.length)&&Nat.beq (0+f.rules.length) (0+f.rules.length))=true:=λh=>by rw [ay h.1 h.2,Nat.beq_refl];rfl
 have g2:∀ {i:Int},0<=i/\i < ((0+f.rules.length:Nat):Int)->(Nat.blt i.toNat (0+f.rules.length)&&Nat.beq (0+f.rules.length) (0+f.rules.length))=true:=λh=>by rw [hH (by omega),Nat.beq_refl];rfl
 have g3:∀ {i:Int},0<=i/\i < ((0+f.rules.length:Nat):Int)->(Nat.ble 0 1&&(Nat.blt i.toNat (0+f.rules.length)&&Nat.beq (0+f.rules.length) (0+f.rules.length)))=true:=λh=>by rw [hH (by omega),Nat.beq_refl];rfl
 have set:∀ {i:Nat} {cs:List AV},RRu (b+40) cs->LRu (b+40) (.sl .no 11 (0+f.rules.length) λj=>bif Nat.beq j i then cs else (f.rules.getD j default).c):=fun {i cs} hc=>qF (by have:=h5.1;omega) λj hj=>by
  show RRu (b+40) (bif Nat.beq j i then cs else (f.rules.getD j default).c)
  cases Nat.beq j i
  ·exact rr j hj
  ·exact hc
 have c9:=λ(D:CODES) (hD:D.Ok)=>Run.b (Post:=rF2 b [cR,.agg f.c] [aK C]) (φ:=φFl) (decide (((0+f.rules.length:Nat):Int) > 0)) (λhp=>.call (ao hD ((0+f.rules.length:Nat):Int) (by have hp:=of_decide_eq_true hp;have:=h5.1;omega)) λi p=>
   have hi:0<=i.1/\i.1 < ((0+f.rules.length:Nat):Int):=p.1
   have hm:=aN (l:=f.rules) (i:=i.1.toNat) (by omega)
   .n (gi hi) (.n (g2 hi) (.call (Au b hb.1 (by omega) _ (h5.2 _ hm).2.1 _ p.2) λs o=>.n (gi hi) (.n (g3 hi)
    (rt f.key f.kind f.off _ _ _ (0+f.rules.length) (λj=>bif Nat.beq j i.1.toNat then (.str (f.rules.getD i.1.toNat default).name::(eC s.1++(f.rules.getD i.1.toNat default).serve.c)) else (f.rules.getD j default).c) f.dflt s.2 o.2 h1 A B T (set (HG (up _ hm).1 ((kC o.1).mono (by omega)) (up _ hm).2.2)) dd)))))
  λ_=>id0 D hD
 have c11:=λ(D:CODES) (hD:D.Ok)=>Run.b (Post:=rF2 b [cR,.agg f.c] [aK C]) (φ:=φFl) (decide (((0+f.rules.length:Nat):Int) > 0)) (λhp=>.call (ao hD ((0+f.rules.length:Nat):Int) (by have hp:=of_decide_eq_true hp;have:=h5.1;omega)) λi p=>
   have hi:0<=i.1/\i.1 < ((0+f.rules.length:Nat):Int):=p.1
   have hm:=aN (l:=f.rules) (i:=i.1.toNat) (by omega)
   .n (gi hi) (.n (g2 hi) (.call (xa b hb.2 _ (h5.2 _ hm).2.2 p.2) λs o=>.n (gi hi) (.n (g3 hi)
    (rt f.key f.kind f.off _ _ _ (0+f.rules.length) (λj=>bif Nat.beq j i.1.toNat then (.str (f.rules.getD i.1.toNat default).name::(eC (f.rules.getD i.1.toNat default).when++s.1.c)) else (f.rules.getD j default).c) f.dflt s.2 o.2 h1 A B T (set (HG (up _ hm).1 (kC (up _ hm).2.1) o.1)) dd)))))
  λ_=>id0 D hD
 have c12:=λ(D:CODES) (hD:D.Ok)=>Run.call (Post:=rF2 b [cR,.agg f.c] [aK C]) (φ:=φFl) (xa b hb.2 f.dflt h6 hD) λs o=>rt f.key f.kind f.off _ _ _ (0+f.rules.length) (λj=>(f.rules.getD j default).c) s.1 s.2 o.2 h1 A B T R o.1
 have c13:=λ(D:CODES) (hD:D.Ok)=>Run.lp (Post:=rF2 b [cR,.agg f.c] [aK C]) (φ:=φFl) (hu (F2V.mk ⟨0+f.vars.length,af 0 f.vars.length (λ_=>[]) λj=>(f.vars.getD j default).c⟩ ⟨0+f.prqs.length,af 0 f.prqs.length (λ_=>[]) λj=>(f.prqs.getD j default).c⟩ ⟨0+f.tgts.length,af 0 f.tgts.length (λ_=>[]) λj=>(f.tgts.getD j default).c⟩ ⟨0+f.rules.length,λj=>(f.rules.getD j default).c⟩ D)
   ⟨⟨⟨by have:=h2.1;show 0+f.vars.length<=_;omega,ra⟩,⟨by have:=h3.1;show 0+f.prqs.length<=_;omega,rb⟩,⟨by have:=h4.1;show 0+f.tgts.length<=_;omega,rc⟩,⟨by have:=h5.1;show 0+f.rules.length<=_;omega,rr⟩⟩,hD⟩) λv hv=>
   rt f.key f.kind f.off (.sl .no 4 v.a.n v.a.g) (.sl .no 2 v.b.n v.b.g) (.sl .no 3 v.c.n v.c.g) v.r.n v.r.g f.dflt v.C hv.2 h1 (jP hv.1.1.1 hv.1.1.2) (vu hv.1.2.1.1 hv.1.2.1.2) (qD hv.1.2.2.1.1 hv.1.2.2.1.2) (qF hv.1.2.2.2.1 hv.1.2.2.2.2) dd
 have e13:=λ(t:Int) (D:CODES) (hD:D.Ok)=>Run.b (t==13) (λ_=>c13 D hD) λ_=>id0 D hD
 have e12:=λ(t:Int) (D:CODES) (hD:D.Ok)=>Run.b (t==12) (λ_=>c12 D hD) λ_=>e13 t D hD
 have e11:=λ(t:Int) (D:CODES) (hD:D.Ok)=>Run.b (t==11) (λ_=>c11 D hD) λ_=>e12 t D hD
 exact cM (V:=VF) (T:=tF2 b) (d:=1) (W:=wFl f) 0 (ag (hl _) aE) (bE (iU _ _) aD)
  (.n (c:=roomy 56 (0+f.vars.length)) (kH (by have:=h2.1;omega)) (.n (c:=roomy 184 (0+f.rules.length)) (kH (by have:=h5.1;omega)) (.n (c:=roomy 48 (0+f.tgts.length)) (kH (by have:=h4.1;omega)) (.n (c:=roomy 24 (0+f.prqs.length)) (kH (by have:=h3.1;omega))
  (.n (c:=uV (0+f.rules.length) (af 0 f.rules.length (λ_=>[]) λj=>(f.rules.getD j default).c) λj=>(f.rules.getD j default).c) (jC λj hj=>(nI (j:=j) (n:=f.rules.length) (z:=λ_=>[]) (g:=λj=>(f.rules.getD j default).c) (by omega)).symm)
  (.call (ao hC 14 (by decide)) λt q=>.b (t.1==0)
  (λ_=>.call (dj q.2) λs p=>rt s.1 f.kind f.off _ _ _ _ _ f.dflt s.2 p.2 (k40 p.1) A B T R dd) λ_=>.b (t.1==1)
  (λ_=>.call (bZ q.2) λs p=>rt f.key s.1 f.off _ _ _ _ _ f.dflt s.2 p h1 A B T R dd) λ_=>.b (t.1==2)
  (λ_=>.call (Gn q.2) λs p=>.n (av (b:=56) (n:=0+f.vars.length+1) (m:=0+f.vars.length) (by have:=h2.1;omega))
   (rt f.key f.kind f.off (.sl .no 4 (0+f.vars.length+1) (af (0+f.vars.length) 1 (af 0 f.vars.length (λ_=>[]) λj=>(f.vars.getD j default).c) (ab z4 [(0,.agg s.1.c)]))) _ _ _ _ f.dflt s.2 p.2 h1 (jP (by have:=h2.1;omega) (ba (P:=rVl) ra (qM p.1))) B T R dd)) λ_=>.b (t.1==3)
  (λ_=>
   have hw:IntKind.wrap .i64 (((0+f.vars.length:Nat):Int)+1)=((0+f.vars.length+1:Nat):Int):=bb (by have:=h2.1;omega)
   .call (ao q.2 (IntKind.wrap .i64 (((0+f.vars.length:Nat):Int)+1)) (by rw [hw];have:=h2.1;omega)) λs p=>
   have hs:0<=s.1/\s.1 < IntKind.wrap .i64 (((0+f.vars.length:Nat):Int)+1):=p.1
   .n (c:=decide ((0:Int)<=((0:Nat):Int))&&(decide (((0:Nat):Int)<=s.1)&&decide (s.1<=((0+f.vars.length:Nat):Int)))) (slT (Int.le_refl _) hs.1 (by omega))
   (rt f.key f.kind f.off (.sl .no 4 (Int.toNat s.1 - Int.toNat ((0:Nat):Int)) λj=>af 0 f.vars.length (λ_=>[]) (λj=>(f.vars.getD j default).c) (Int.toNat ((0:Nat):Int)+j)) _ _ _ _ f.dflt s.2 p.2 h1 (jP (by have:=h2.1;omega) λj hj=>by
    show rVl (af 0 f.vars.length (λ_=>[]) (λj=>(f.vars.getD j default).c) (0+j))
    rw [Nat.zero_add];exact ra j (by omega)) B T R dd)) λ_=>.b (t.1==4)
  (λ_=>.call (bZ q.2) λs p=>rt f.key f.kind s.1 _ _ _ _ _ f.dflt s.2 p h1 A B T R dd) λ_=>.b (t.1==5)
  (λ_=>.call (dj q.2) λs p=>.call (bZ p.2) λr o=>.n (av (b:=24) (n:=0+f.prqs.length+1) (m:=0+f.prqs.length) (by have:=h3.1;omega))
   (rt f.key f.kind f.off _ (.sl .no 2 (0+f.prqs.length+1) (af (0+f.prqs.length) 1 (af 0 f.prqs.length (λ_=>[]) λj=>(f.prqs.getD j default).c) (ab [.str [],.int .i64 0] [(0,.agg [.str s.1,.int .i64 r.1])]))) _ _ _ f.dflt r.2 o h1 A
    (vu (by have:=h3.1;omega) (ba (P:=PRw) rb ⟨PRQ.mk s.1 r.1,k40 p.1,TellL.refl rfl⟩)) T R dd)) λ_=>.b (t.1==6)
  (λ_=>.call (dj q.2) λs p=>.call (vC p.2) λr o=>.n (av (b:=48) (n:=0+f.tgts.length+1) (m:=0+f.tgts.length) (by have:=h4.1;omega))
   (rt f.key f.kind f.off _ _ (.sl .no 3 (0+f.tgts.length+1) (af (0+f.tgts.length) 1 (af 0 f.tgts.length (λ_=>[]) λj=>(f.tgts.getD j default).c) (ab [.str [],.int .i64 0,nA] [(0,.agg [.str s.1,.int .i64 1,bR r.1])]))) _ _ f.dflt r.2 o.2 h1 A B
    (qD (by have:=h4.1;omega) (ba (P:=RTg (b+40)) rc ⟨TGT.mk s.1 1 r.1,⟨k40 p.1,⟨by have:=o.1.1;show r.1.length<=_;omega,λs hs=>Nat.le_trans (o.1.2 s hs) (by decide)⟩⟩,TellL.refl rfl⟩)) R dd)) λ_=>.b (t.1==7)
  (λ_=>.call (bZ q.2) λs p=>.call (ao p 3 (by decide)) λi pi=>.call (Ji i.1 pi.1) λr o=>.n (av (b:=48) (n:=0+f.tgts.length+1) (m:=0+f.tgts.length) (by have:=h4.1;omega))
   (rt f.key f.kind f.off _ _ (.sl .no 3 (0+f.tgts.length+1) (af (0+f.tgts.length) 1 (af 0 f.tgts.length (λ_=>[]) λj=>(f.tgts.getD j default).c) (ab [.str [],.int .i64 0,nA] [(0,.agg [.str pt,.int .i64 s.1,bR r])]))) _ _ f.dflt i.2 pi.2 h1 A B
    (qD (by have:=h4.1;omega) (ba (P:=RTg (b+40)) rc ⟨TGT.mk pt s.1 r,⟨by show pt.length<=1000;decide,iB (by omega) o⟩,TellL.refl rfl⟩)) R dd)) λ_=>.b (t.1==8)
  (λ_=>.call (dj q.2) λs p=>.n (av (b:=184) (n:=0+f.rules.length+1) (m:=0+f.rules.length) (by have:=h5.1;omega))
   (rt f.key f.kind f.off _ _ _ (0+f.rules.length+1) (af (0+f.rules.length) 1 (λj=>(f.rules.getD j default).c) (ab zR2 [(0,.agg (.str s.1::(JP++f.dflt.c)))])) f.dflt s.2 p.2 h1 A B T
    (qF (by have:=h5.1;omega) (ba (P:=RRu (b+40)) rr (HG (k40 p.1) (Ec _) dd))) dd)) λ_=>.b (t.1==9)
  (λ_=>.b (t.1==9) (λ_=>c9 t.2 q.2) λ_=>e11 t.1 t.2 q.2) λ_=>.b (t.1==10) (λ_=>c9 t.2 q.2) λ_=>e11 t.1 t.2 q.2)))))) (by kernel_rfl)
noncomputable abbrev eF2 (b:Nat):Ent:=aY wd ug φFl (rF2 b)
end Go.T

namespace Go.T
open Go Go.Ab Go.Proofs Go.SH
open Go.SM (ENV)
noncomputable def VCp:Env:={Vb [] [5,9,13,17,21] [] with
 trim:=λf p=>cond (Nat.beq f F4) (yy [tr [1,1,1,1,1,1] [1,2] [1,2,5,9,13,17,21]] p) (V0.trim f p)}
noncomputable instance:EnvOk VCp wd:=⟨rfl,rfl,nd,ny⟩
def cpA (e:ENV):Nat->List AV:=λj=>[.str (e.attrs.getD j ([],[],0)).1,.str (e.attrs.getD j ([],[],0)).2.1,.int .i64 (e.attrs.getD j ([],[],0)).2.2]
def cpS (e:ENV):Nat->List AV:=λj=>(e.segs.getD j default).c
def cpF (e:ENV):Nat->List AV:=λj=>(e.flags.getD j default).c
def cpL (e:ENV):Nat->List AV:=λj=>(e.layers.getD j default).c
def cpX (e:ENV):Nat->List AV:=λj=>(e.expts.getD j default).c
def φCp (e:ENV):AV×List AO:=(.agg [.str e.salt,.str e.hkind,.int .i64 e.hold,.gsl 1000000 3 (0+e.attrs.length),.gsl 1000001 9 (0+e.segs.length),.gsl 1000002 13 (0+e.flags.length),.gsl 1000003 6 (0+e.layers.length),.gsl 1000004 12 (0+e.expts.length)],
 [.grw 0 3 (0+e.attrs.length) (cpA e),.grw 0 9 (0+e.segs.length) (cpS e),.grw 0 13 (0+e.flags.length) (cpF e),.grw 0 6 (0+e.layers.length) (cpL e),.grw 0 12 (0+e.expts.length) (cpX e)])
noncomputable abbrev wCp (e:ENV):List (List Nat×Vw):=[([1,1,1,1,1,1],Ce (Bn 5 (cpA e)) (Ce (Bn 9 (cpS e)) (Ce (Bn 13 (cpF e)) (Ce (Bn 17 (cpL e)) (Bn 21 (cpX e))))))]
noncomputable def VSo:Env:={V0 with
 hint:=λf t=>cond (Nat.beq f k6) (hn [3,4,9] [3,4,12,100012,200012,300012,400012] [] []) (V0.hint f t)
 trim:=λf p=>cond (Nat.beq f k6) (yy [([1,1,0,1,0,1,1,1,1,1,1,1,1,1,1,1,1,1,1,1,0,1],hn [3,4,9] [3,4,12,100012,200012,300012,400012] [] []),tr [1,1,0,1,0,1,1,1,1,1,1,1] [0,3,4,14,61] [3,4,12,100012,200012,300012,400012],tr [1,1,0,1,0,1,1,1,1,1,1,1,1,1,1,1,1,1,1,1,0,1,0,0,0,1,1] [3,4] [3,4,12,100012,200012,300012,400012],tr [1,1,0,1,0,1,1,1,1,1,1,1,1,1,1,1,1,1,1,1,0,1,0,0,1] [3,4,9] [3,4,12,100012,200012,300012,400012],tr [1,1,0,1,0,1,1,1,1,1,1,1,1,1,1,1,1,1,1,1,0,1,0,0,1,1] [3,4,9] [3,4,12,100012,200012,300012,400012],tr [1,1,1] [3,4] [3,4,12,100012,200012,300012,400012]] p) (V0.trim f p)}
noncomputable instance:EnvOk VSo wd:=⟨rfl,rfl,nd,ny⟩
def zK (i:Nat):List UInt8:=[122]++(Utf8.encode (IntKind.wrap .i32 (IntKind.wrap .i64 (97+(i:Int))))).data.toList
def uS (l:List SEG) (j:Nat):SEG:=bif Nat.blt j l.length then l.getD j default else SEG.mk (zK (j - l.length)) (l.getD (l.length - 1) default).kind (l.getD (l.length - 1) default).incl (l.getD (l.length - 1) default).excl (l.getD (l.length - 1) default).when
def zG (l:List SEG):Nat->List AV:=λj=>(uS l j).c
abbrev PSo:List Nat:=[1,1,0,1,0,1,1,1,1,1,1,1,1,1,1,1,1,1,1,1,0,1,0]
noncomputable abbrev wSo (e:ENV):List (List Nat×Vw):=[(PSo++[0,1,1],Bn 100012 (zG e.segs))]
structure SOV where
 s:Bool
 n:Nat
 C:CODES
 i:Int
instance:Inhabited SOV:=⟨⟨false,0,default,0⟩⟩
def soO (e:ENV) (v:SOV) (g:Nat->List AV):List (Nat×AO):=[(3,.cells [.str e.salt,.str e.hkind,.int .i64 e.hold,.gsl 12 3 (0+e.attrs.length),.gsl 100012 9 v.n,.gsl 200012 13 (0+e.flags.length),.gsl 300012 6 (0+e.layers.length),.gsl 400012 12 (0+e.expts.length)]),(4,.cells zE),(12,.grw 0 3 (0+e.attrs.length) (cpA e)),(100012,.grw 0 9 v.n g),(200012,.grw 0 13 (0+e.flags.length) (cpF e)),(300012,.grw 0 6 (0+e.layers.length) (cpL e)),(400012,.grw 0 12 (0+e.expts.length) (cpX e)),(aa,aK v.C)]
def soS (e:ENV) (v:SOV):St:={env:=[(3,.ref 3 0),(4,.ref 4 0),(9,.int .i64 v.i)],objs:=soO e v (bif v.s then zG e.segs else cpS e)}
def soE (e:ENV) (v:SOV) (k:Ex->St->Res):Res:=cond v.s (k (.exit 1) {env:=[(3,.ref 3 0),(4,.ref 4 0)],objs:=soO e v (zG e.segs)}) (k (.exit 1) {env:=[(3,.ref 3 0),(4,.ref 4 0)],objs:=soO e v (cpS e)})
end Go.T

namespace Go.T
open Go Go.Ab Go.Proofs Go.SH
open Go.SM (ENV ATT mG dh pM pJ pr)
open Go.SO (SmG SmT SmF SmL SmX SmE ATB)
theorem Lq (e:ENV) (he:e.attrs.length<=1000/\e.segs.length<=1000/\e.flags.length<=1000/\e.layers.length<=1000/\e.expts.length<=1000):aB wd F4 φCp (rIs e) [.agg e.c] []:=by
 obtain ⟨h1,h2,h3,h4,h5⟩:=he
 have cs:∀ {n:Nat} {g:Nat->List AV},uV (0+n) (af 0 n (λ_=>[]) g) g=true:=fun {n g}=>jC λj hj=>(nI (by omega)).symm
 exact cM (V:=VCp) (T:=[]) (d:=1) (W:=wCp e) 2 aE (bE (mM (iU _ _) (mM (iU _ _) (mM (iU _ _) (mM (iU _ _) (iU _ _))))) aD)
  (.n (c:=roomy 40 (0+e.attrs.length)) (kH (by omega)) (.n (c:=roomy 168 (0+e.segs.length)) (kH (by omega)) (.n (c:=roomy 216 (0+e.flags.length)) (kH (by omega)) (.n (c:=roomy 88 (0+e.layers.length)) (kH (by omega)) (.n (c:=roomy 208 (0+e.expts.length)) (kH (by omega))
  (.n (cs (n:=e.attrs.length) (g:=cpA e)) (.n (cs (n:=e.segs.length) (g:=cpS e)) (.n (cs (n:=e.flags.length) (g:=cpF e)) (.n (cs (n:=e.layers.length) (g:=cpL e)) (.n (cs (n:=e.expts.length) (g:=cpX e)) (.r e rfl)))))))))) ) (by kernel_rfl)
abbrev atc (a:ATT):List AV:=[.str a.1,.str a.2.1,.int .i64 a.2.2]
def RAt (cs:List AV):Prop:=∃a:ATT,(a.1.length<=1000/\a.2.1.length<=1000)/\TellL cs (atc a)
def RSg (b:Nat) (cs:List AV):Prop:=∃x:SEG,SmG b x/\TellL cs x.c
def RFg (b:Nat) (cs:List AV):Prop:=∃x:FLAG,SmF b x/\TellL cs x.c
def RLr (b:Nat) (cs:List AV):Prop:=∃x:LAYER,SmL b x/\TellL cs x.c
def RXt (b:Nat) (cs:List AV):Prop:=∃x:EXPT,SmX b x/\TellL cs x.c
def rSo (b:Nat) (_:List AV) (_:List AO) (x:ENV×CODES):Prop:=SmE (b+40) x.1/\x.2.Ok
structure EL (b:Nat) (a s f l x:RW):Prop where
 a:a.n<=b/\∀j,j < a.n->RAt (a.g j)
 s:s.n<=b/\∀j,j < s.n->RSg b (s.g j)
 f:f.n<=b/\∀j,j < f.n->RFg b (f.g j)
 l:l.n<=b/\∀j,j < l.n->RLr b (l.g j)
 x:x.n<=b/\∀j,j < x.n->RXt b (x.g j)
theorem II {b:Nat} {s k:List UInt8} {ho:Int} {a1 a2 a3 a4 a5:RW} (hs:s.length<=1000) (hk:k.length<=1000) (h:EL b a1 a2 a3 a4 a5) :
  ∃e:ENV,SmE b e/\TellL [.str s,.str k,.int .i64 ho,.sl .no 3 a1.n a1.g,.sl .no 9 a2.n a2.g,.sl .no 13 a3.n a3.g,.sl .no 6 a4.n a4.g,.sl .no 12 a5.n a5.g] e.c:=by
 obtain ⟨l1,p1,q1,r1⟩:=bH (R:=atc) h.a.2
 obtain ⟨l2,p2,q2,r2⟩:=bH (R:=SEG.c) h.s.2
 obtain ⟨l3,p3,q3,r3⟩:=bH (R:=FLAG.c) h.f.2
 obtain ⟨l4,p4,q4,r4⟩:=bH (R:=LAYER.c) h.l.2
 obtain ⟨l5,p5,q5,r5⟩:=bH (R:=EXPT.c) h.x.2
 exact ⟨ENV.mk s k ho l1 l2 l3 l4 l5,⟨hs,hk,⟨by show l1.length<=b;rw [p1];exact h.a.1,q1⟩,⟨by show l2.length<=b;rw [p2];exact h.s.1,q2⟩,⟨by show l3.length<=b;rw [p3];exact h.f.1,q3⟩,⟨by show l4.length<=b;rw [p4];exact h.l.1,q4⟩,⟨by show l5.length<=b;rw [p5];exact h.x.1,q5⟩⟩,
  .cons (.same rfl) (.cons (.same rfl) (.cons (.same rfl) (.cons (r1 .no 3 λ_=>⟨rfl,rfl⟩) (.cons (r2 .no 9 λ_=>⟨rfl,rfl⟩) (.cons (r3 .no 13 λ_=>⟨rfl,rfl⟩) (.cons (r4 .no 6 λ_=>⟨rfl,rfl⟩) (.cons (r5 .no 12 λ_=>⟨rfl,rfl⟩) .nil)))))))⟩
theorem kq {b:Nat} {s k:List UInt8} {ho:Int} {a1 a2 a3 a4 a5:RW} (hs:s.length<=1000) (hk:k.length<=1000) (h:EL (b+40) a1 a2 a3 a4 a5) {D:CODES} (hD:D.Ok) {l:List AV} {os:List AO} :
  Run (rSo b l os) φEn (cond (Nat.beq 3 3&&Nat.beq a1.n a1.n) (cond (Nat.beq 9 9&&Nat.beq a2.n a2.n) (cond (Nat.beq 13 13&&Nat.beq a3.n a3.n) (cond (Nat.beq 6 6&&Nat.beq a4.n a4.n) (cond (Nat.beq 12 12&&Nat.beq a5.n a5.n)
   (some (.agg [.str s,.str k,.int .i64 ho,.sl .no 3 a1.n a1.g,.sl .no 9 a2.n a2.g,.sl .no 13 a3.n a3.g,.sl .no 6 a4.n a4.g,.sl .no 12 a5.n a5.g],[aK D])) none) none) none) none) none):=by
 obtain ⟨e,h1,h2⟩:=II (ho:=ho) hs hk h
 exact .n (by simp) (.n (by simp) (.n (by simp) (.n (by simp) (.n (by simp) (.t (e,D) ⟨h1,hD⟩ (.agg h2))))))
theorem IK (i:Nat):(zK i).length<=1000:=by
 unfold zK
 rw [List.length_append]
 have:=mD (IntKind.wrap .i32 (IntKind.wrap .i64 (97+(i:Int))))
 show 1+_<=1000
 omega
theorem uR {l:List SEG} {j:Nat} (h:j < l.length):uS l j=l.getD j default:=by unfold uS;rw [hH h];rfl
theorem yI {l:List SEG} {j:Nat} (h:¬ j < l.length):uS l j=SEG.mk (zK (j - l.length)) (l.getD (l.length - 1) default).kind (l.getD (l.length - 1) default).incl (l.getD (l.length - 1) default).excl (l.getD (l.length - 1) default).when:=by
 unfold uS
 rw [vW,decide_eq_false h];rfl
theorem J1 {b:Nat} {l:List SEG} (h:∀g∈l,SmG b g) (h0:0 < l.length) (j:Nat):SmG b (uS l j):=by
 by_cases hj:j < l.length
 ·rw [uR hj];exact h _ (aN hj)
 ·rw [yI hj]
  have hm:=h _ (aN (l:=l) (i:=l.length - 1) (by omega))
  exact ⟨IK _,hm.kind,hm.incl,hm.excl,hm.when⟩
theorem xc {l:List SEG} (h0:0 < l.length) {n:Nat} (hn:l.length<=n):SEG.mk (zK (n - l.length)) (uS l (n - 1)).kind (uS l (n - 1)).incl (uS l (n - 1)).excl (uS l (n - 1)).when=uS l n:=by
 rw [yI (show ¬ n < l.length by omega)]
 by_cases h:n - 1 < l.length
 ·rw [uR h,show n - 1=l.length - 1 by omega]
 ·rw [yI h]
def soI (e:ENV) (v:SOV):Prop:=(v.s=false->v.i=0/\v.n=0+e.segs.length)/\(v.s=true->0 < e.segs.length)/\((v.n:Int)=(0+e.segs.length:Nat)+v.i/\0<=v.i/\v.i<=20)/\v.C.Ok
noncomputable abbrev tSo (b:Nat) (e:ENV):List Ent:=[fD,eNo,eNm,Aa,eG2 b,eF2 b,eL2 b,eX2 b,kf F4 [.agg e.c] [] e φCp]
theorem JY (b:Nat) (e:ENV) (he:e.segs.length<=1000):∃ (u:St->Bool) (w:St->SOV),(∀v,soI e v->bU u w (soS e v) (soI e))/\∀L:List (List Nat×Orc),bu (VSo.run (tSo b e) 1 [] L (wSo e) k6) k6 PSo (mkO u w (soE e)):=
 ov (Lf:=λL=>L) (soS e) (soI e) (λv=>(21 - v.i).toNat) (soE e) (soI e) (by kernel_rfl) λv hv=>by
  obtain ⟨s,n,C,i⟩:=v
  obtain ⟨hf,ht,⟨hn,hi0,hi1⟩,hC⟩:=hv
  have hn:(n:Int)=(0+e.segs.length:Nat)+i:=hn
  have hi0:0<=i:=hi0
  have hi1:i<=20:=hi1
  have hC:C.Ok:=hC
  have hk:∀ {z:Int},i=z->IntKind.wrap .i64 (97+i)=IntKind.wrap .i64 (97+((n - e.segs.length:Nat):Int)):=λ_=>by congr 1;omega
  have ez:[122]++(Utf8.encode (IntKind.wrap .i32 (IntKind.wrap .i64 (97+i)))).data.toList=zK (n - e.segs.length):=by unfold zK;rw [hk rfl]
  have hd:∀ {X:Bool},(bif decide ((n:Int) > 0) then X else false)=true->0 < n/\X=true:=fun {X} h=>by
   cases hp:decide ((n:Int) > 0) with
   | true=>rw [hp] at h;exact ⟨by have:=of_decide_eq_true hp;omega,h⟩
   | false=>rw [hp] at h;cases h
  have w1:0 < n->IntKind.wrap .i64 ((n:Int) - 1)=((n - 1:Nat):Int):=λh=>by rw [wrap_i64 (by omega) (by omega)];omega
  have hw:IntKind.wrap .i64 (i+1)=i+1:=wrap_i64 (by omega) (by omega)
  cases s with
  | false=>
   obtain ⟨f1,f2⟩:=hf rfl
   have f2:n=0+e.segs.length:=f2
   exact ⟨_,.b (bif decide ((n:Int) > 0) then decide (i < 20) else false) (λh=>
     have h1:=hd h
     have h20:=of_decide_eq_true h1.2
     .n (c:=within (IntKind.wrap .i64 ((n:Int) - 1)) n&&Nat.beq n n) (by rw [w1 h1.1,cw (show n - 1 < n by omega),Nat.beq_refl];rfl) (.n (c:=Nat.blt (Int.toNat (IntKind.wrap .i64 ((n:Int) - 1))) n&&Nat.beq n n) (by rw [w1 h1.1,Int.toNat_natCast,hH (by omega),Nat.beq_refl];rfl)
     (.n (oD (r:=IntKind.wrap .i32 (IntKind.wrap .i64 (97+i))) (s:=[122]) (by decide)) (.n (av (b:=168) (n:=n+1) (m:=n) (by omega))
     (.n (c:=uV (n+1) (af n 1 (cpS e) (ab zS [(0,.agg (SEG.mk ([122]++(Utf8.encode (IntKind.wrap .i32 (IntKind.wrap .i64 (97+i)))).data.toList) (e.segs.getD (Int.toNat (IntKind.wrap .i64 ((n:Int) - 1))) default).kind (e.segs.getD (Int.toNat (IntKind.wrap .i64 ((n:Int) - 1))) default).incl (e.segs.getD (Int.toNat (IntKind.wrap .i64 ((n:Int) - 1))) default).excl (e.segs.getD (Int.toNat (IntKind.wrap .i64 ((n:Int) - 1))) default).when).c)])) (zG e.segs)) (jC λj hj=>by
       by_cases hj':j < n
       ·rw [du hj'];show (uS e.segs j).c=(e.segs.getD j default).c;rw [uR (by omega)]
       ·obtain rfl:j=n:=(by omega)
        rw [dv (Nat.le_refl _) (by omega),Nat.sub_self,ez,w1 h1.1,Int.toNat_natCast,<-uR (l:=e.segs) (j:=j - 1) (by omega)]
        show (uS e.segs j).c=(SEG.mk _ _ _ _ _).c
        rw [xc (by omega) (by omega)])
     (.go (soS e ⟨true,n+1,C,IntKind.wrap .i64 (i+1)⟩) (SOV.mk true (n+1) C (IntKind.wrap .i64 (i+1))) ⟨λh=>(by cases h),λ_=>(by omega),⟨by show ((n+1:Nat):Int)=(0+e.segs.length:Nat)+IntKind.wrap .i64 (i+1);omega,by show 0<=IntKind.wrap .i64 (i+1);omega,by show IntKind.wrap .i64 (i+1)<=20;omega⟩,hC⟩ (by show (21 - IntKind.wrap .i64 (i+1)).toNat < (21 - i).toNat;omega) rfl))))))
    λ_=>.fi (SOV.mk false n C i) ⟨hf,ht,⟨hn,hi0,hi1⟩,hC⟩,λL k kn=>by kernel_rfl⟩
  | true=>
   have h0:0 < e.segs.length:=ht rfl
   exact ⟨_,.b (bif decide ((n:Int) > 0) then decide (i < 20) else false) (λh=>
     have h1:=hd h
     have h20:=of_decide_eq_true h1.2
     .n (c:=within (IntKind.wrap .i64 ((n:Int) - 1)) n&&Nat.beq n n) (by rw [w1 h1.1,cw (show n - 1 < n by omega),Nat.beq_refl];rfl) (.n (c:=Nat.blt (Int.toNat (IntKind.wrap .i64 ((n:Int) - 1))) n&&Nat.beq n n) (by rw [w1 h1.1,Int.toNat_natCast,hH (by omega),Nat.beq_refl];rfl)
     (.n (oD (r:=IntKind.wrap .i32 (IntKind.wrap .i64 (97+i))) (s:=[122]) (by decide)) (.n (av (b:=168) (n:=n+1) (m:=n) (by omega))
     (.n (c:=uV (n+1) (af n 1 (zG e.segs) (ab zS [(0,.agg (SEG.mk ([122]++(Utf8.encode (IntKind.wrap .i32 (IntKind.wrap .i64 (97+i)))).data.toList) (uS e.segs (Int.toNat (IntKind.wrap .i64 ((n:Int) - 1)))).kind (uS e.segs (Int.toNat (IntKind.wrap .i64 ((n:Int) - 1)))).incl (uS e.segs (Int.toNat (IntKind.wrap .i64 ((n:Int) - 1)))).excl (uS e.segs (Int.toNat (IntKind.wrap .i64 ((n:Int) - 1)))).when).c)])) (zG e.segs)) (jC λj hj=>by
       by_cases hj':j < n
       ·rw [du hj']
       ·obtain rfl:j=n:=(by omega)
        rw [dv (Nat.le_refl _) (by omega),Nat.sub_self,ez,w1 h1.1,Int.toNat_natCast]
        show (uS e.segs j).c=(SEG.mk _ _ _ _ _).c
        rw [xc (by omega) (by omega)])
     (.go (soS e ⟨true,n+1,C,IntKind.wrap .i64 (i+1)⟩) (SOV.mk true (n+1) C (IntKind.wrap .i64 (i+1))) ⟨λh=>(by cases h),λ_=>h0,⟨by show ((n+1:Nat):Int)=(0+e.segs.length:Nat)+IntKind.wrap .i64 (i+1);omega,by show 0<=IntKind.wrap .i64 (i+1);omega,by show IntKind.wrap .i64 (i+1)<=20;omega⟩,hC⟩ (by show (21 - IntKind.wrap .i64 (i+1)).toNat < (21 - i).toNat;omega) rfl))))))
    λ_=>.fi (SOV.mk true n C i) ⟨hf,ht,⟨hn,hi0,hi1⟩,hC⟩,λL k kn=>by kernel_rfl⟩
end Go.T

namespace Go.T
open Go Go.Ab Go.Proofs Go.SH
open Go.SM (ENV ATT mG dh pM pJ pr)
open Go.SO (SmG SmT SmF SmL SmX SmE ATB)
section
variable {n:Nat} {i:Int}
theorem gd1 (h:0<=i/\i < ((0+n:Nat):Int)):(within i (0+n)&&Nat.beq (0+n) (0+n))=true:=by rw [ay h.1 h.2,Nat.beq_refl];rfl
theorem gd2 (h:0<=i/\i < ((0+n:Nat):Int)):(Nat.blt i.toNat (0+n)&&Nat.beq (0+n) (0+n))=true:=by rw [hH (by omega),Nat.beq_refl];rfl
theorem gd3 (h:0<=i/\i < ((0+n:Nat):Int)):(Nat.ble 0 1&&(Nat.blt i.toNat (0+n)&&Nat.beq (0+n) (0+n)))=true:=by rw [gd2 h];rfl
theorem gk1 {k:Nat} (h:k < 0+n):(within (k:Int) (0+n)&&Nat.beq (0+n) (0+n))=true:=by rw [cw h,Nat.beq_refl];rfl
theorem gk2 {k:Nat} (h:k < 0+n):(Nat.blt k (0+n)&&Nat.beq (0+n) (0+n))=true:=by rw [hH h,Nat.beq_refl];rfl
theorem gk3 {k:Nat} (h:k < 0+n):(Nat.ble 0 1&&(Nat.blt k (0+n)&&Nat.beq (0+n) (0+n)))=true:=by rw [gk2 h];rfl
end
theorem OX {b b':Nat} (hb:b<=b') {g:SEG} (h:SmG b g):SmG b' g:=⟨h.key,h.kind,iB hb h.incl,iB hb h.excl,h.when.mono hb⟩
theorem PX {b b':Nat} (hb:b<=b') {f:FLAG} (h:SmF b f):SmF b' f:=
 ⟨h.key,⟨Nat.le_trans h.vars.1 hb,h.vars.2⟩,⟨Nat.le_trans h.prqs.1 hb,h.prqs.2⟩,⟨Nat.le_trans h.tgts.1 hb,λt ht=>⟨(h.tgts.2 t ht).1,iB hb (h.tgts.2 t ht).2⟩⟩,⟨Nat.le_trans h.rules.1 hb,λr hr=>⟨(h.rules.2 r hr).1,(h.rules.2 r hr).2.1.mono hb,mQ hb (h.rules.2 r hr).2.2⟩⟩,mQ hb h.dflt⟩
theorem PO {b b':Nat} (hb:b<=b') {l:LAYER} (h:SmL b l):SmL b' l:=⟨h.1,Nat.le_trans h.2 hb⟩
theorem Pr {b b':Nat} (hb:b<=b') {x:EXPT} (h:SmX b x):SmX b' x:=⟨h.key,h.layer,h.flag,h.salt,Nat.le_trans h.claims (by omega),Nat.le_trans h.arms hb,h.when.mono hb⟩
theorem uP {P:List AV->Prop} {n i:Nat} {cs:List AV} {g:Nat->List AV} (hc:P cs) (hg:∀j,j < n->P (g j)):∀j,j < n->P (bif Nat.beq j i then cs else g j):=λj hj=>by
 cases Nat.beq j i
 ·exact hg j hj
 ·exact hc
theorem A2 {P:List AV->Prop} {n:Nat} {g:Nat->List AV} (h1:1 < n) (hg:∀j,j < n->P (g j)):∀j,j < n->P (bif Nat.beq j 1 then g 0 else bif Nat.beq j 0 then g 1 else g j):=λj hj=>by
 cases Nat.beq j 1
 ·cases Nat.beq j 0
  ·exact hg j hj
  ·exact hg 1 h1
 ·exact hg 0 (by omega)
abbrev z3a:List AV:=[.str [],.str [],.int .i64 0]
theorem A3 (b:Nat) (hb:20<=b/\b<=900) (e:ENV) (he:SmE b e) {C:CODES} (hC:C.Ok):aB wd k6 φEn (rSo b) [cR,.agg e.c] [aK C]:=by
 obtain ⟨u,w,hu,hl⟩:=JY b e (by have:=he.segs.1;omega)
 obtain ⟨t0,ht0,hcp⟩:=Lq e ⟨by have:=he.attrs.1;omega,by have:=he.segs.1;omega,by have:=he.flags.1;omega,by have:=he.layers.1;omega,by have:=he.expts.1;omega⟩
 have ht0:t0=e:=ht0
 subst ht0
 haveI:=gB (T:=[]) hcp
 obtain ⟨h1,h2,hA,hS,hF,hL,hX⟩:=he
 have le:b<=b+40:=by omega
 have k40:∀ {s:List UInt8},s.length<=40->s.length<=1000:=λh=>Nat.le_trans h (by decide)
 have rA:∀j,j < 0+t0.attrs.length->RAt (cpA t0 j):=λj hj=>⟨t0.attrs.getD j ([],[],0),hA.2 _ (aN (l:=t0.attrs) (by omega)),TellL.refl rfl⟩
 have rS:∀j,j < 0+t0.segs.length->RSg (b+40) (cpS t0 j):=λj hj=>⟨t0.segs.getD j default,OX le (hS.2 _ (aN (by omega))),TellL.refl rfl⟩
 have rF:∀j,j < 0+t0.flags.length->RFg (b+40) (cpF t0 j):=λj hj=>⟨t0.flags.getD j default,PX le (hF.2 _ (aN (by omega))),TellL.refl rfl⟩
 have rL:∀j,j < 0+t0.layers.length->RLr (b+40) (cpL t0 j):=λj hj=>⟨t0.layers.getD j default,PO le (hL.2 _ (aN (by omega))),TellL.refl rfl⟩
 have rX:∀j,j < 0+t0.expts.length->RXt (b+40) (cpX t0 j):=λj hj=>⟨t0.expts.getD j default,Pr le (hX.2 _ (aN (by omega))),TellL.refl rfl⟩
 have nA:0+t0.attrs.length<=b+40:=by have:=hA.1;omega
 have nS:0+t0.segs.length<=b+40:=by have:=hS.1;omega
 have nF:0+t0.flags.length<=b+40:=by have:=hF.1;omega
 have nL:0+t0.layers.length<=b+40:=by have:=hL.1;omega
 have nX:0+t0.expts.length<=b+40:=by have:=hX.1;omega
 have al:EL (b+40) ⟨0+t0.attrs.length,cpA t0⟩ ⟨0+t0.segs.length,cpS t0⟩ ⟨0+t0.flags.length,cpF t0⟩ ⟨0+t0.layers.length,cpL t0⟩ ⟨0+t0.expts.length,cpX t0⟩:=⟨⟨nA,rA⟩,⟨nS,rS⟩,⟨nF,rF⟩,⟨nL,rL⟩,⟨nX,rX⟩⟩
 have id0:=λ(D:CODES) (hD:D.Ok)=>kq (l:=[cR,.agg t0.c]) (os:=[aK C]) (ho:=t0.hold) h1 h2 al hD
 have edS:=λ(D:CODES) (hD:D.Ok)=>Run.b (Post:=rSo b [cR,.agg t0.c] [aK C]) (φ:=φEn) (decide (((0+t0.segs.length:Nat):Int) > 0)) (λhp=>.call (ao hD ((0+t0.segs.length:Nat):Int) (by have hp:=of_decide_eq_true hp;have:=hS.1;omega)) λi p=>
   have hi:0<=i.1/\i.1 < ((0+t0.segs.length:Nat):Int):=p.1
   .n (gd1 hi) (.n (gd2 hi) (.call (Cn b hb _ (hS.2 _ (aN (l:=t0.segs) (i:=i.1.toNat) (by omega))) p.2) λs o=>.n (gd1 hi) (.n (gd3 hi)
    (kq (l:=[cR,.agg t0.c]) (os:=[aK C]) (ho:=t0.hold) (a1:=⟨0+t0.attrs.length,cpA t0⟩) (a2:=⟨0+t0.segs.length,λj=>bif Nat.beq j i.1.toNat then s.1.c else (t0.segs.getD j default).c⟩) (a3:=⟨0+t0.flags.length,cpF t0⟩) (a4:=⟨0+t0.layers.length,cpL t0⟩) (a5:=⟨0+t0.expts.length,cpX t0⟩) h1 h2 ⟨⟨nA,rA⟩,⟨nS,uP ⟨_,o.1,TellL.refl rfl⟩ rS⟩,⟨nF,rF⟩,⟨nL,rL⟩,⟨nX,rX⟩⟩ o.2)))))
  λ_=>id0 D hD
 have edF:=λ(D:CODES) (hD:D.Ok)=>Run.b (Post:=rSo b [cR,.agg t0.c] [aK C]) (φ:=φEn) (decide (((0+t0.flags.length:Nat):Int) > 0)) (λhp=>.call (ao hD ((0+t0.flags.length:Nat):Int) (by have hp:=of_decide_eq_true hp;have:=hF.1;omega)) λi p=>
   have hi:0<=i.1/\i.1 < ((0+t0.flags.length:Nat):Int):=p.1
   .n (gd1 hi) (.n (gd2 hi) (.call (Iy b hb _ (hF.2 _ (aN (l:=t0.flags) (i:=i.1.toNat) (by omega))) p.2) λs o=>.n (gd1 hi) (.n (gd3 hi)
    (kq (l:=[cR,.agg t0.c]) (os:=[aK C]) (ho:=t0.hold) (a1:=⟨0+t0.attrs.length,cpA t0⟩) (a2:=⟨0+t0.segs.length,cpS t0⟩) (a3:=⟨0+t0.flags.length,λj=>bif Nat.beq j i.1.toNat then s.1.c else (t0.flags.getD j default).c⟩) (a4:=⟨0+t0.layers.length,cpL t0⟩) (a5:=⟨0+t0.expts.length,cpX t0⟩) h1 h2 ⟨⟨nA,rA⟩,⟨nS,rS⟩,⟨nF,uP ⟨_,o.1,TellL.refl rfl⟩ rF⟩,⟨nL,rL⟩,⟨nX,rX⟩⟩ o.2)))))
  λ_=>id0 D hD
 have edL:=λ(D:CODES) (hD:D.Ok)=>Run.b (Post:=rSo b [cR,.agg t0.c] [aK C]) (φ:=φEn) (decide (((0+t0.layers.length:Nat):Int) > 0)) (λhp=>.call (ao hD ((0+t0.layers.length:Nat):Int) (by have hp:=of_decide_eq_true hp;have:=hL.1;omega)) λi p=>
   have hi:0<=i.1/\i.1 < ((0+t0.layers.length:Nat):Int):=p.1
   .n (gd1 hi) (.n (gd2 hi) (.call (Fl b hb.2 _ (hL.2 _ (aN (l:=t0.layers) (i:=i.1.toNat) (by omega))) p.2) λs o=>.n (gd1 hi) (.n (gd3 hi)
    (kq (l:=[cR,.agg t0.c]) (os:=[aK C]) (ho:=t0.hold) (a1:=⟨0+t0.attrs.length,cpA t0⟩) (a2:=⟨0+t0.segs.length,cpS t0⟩) (a3:=⟨0+t0.flags.length,cpF t0⟩) (a4:=⟨0+t0.layers.length,λj=>bif Nat.beq j i.1.toNat then s.1.c else (t0.layers.getD j default).c⟩) (a5:=⟨0+t0.expts.length,cpX t0⟩) h1 h2 ⟨⟨nA,rA⟩,⟨nS,rS⟩,⟨nF,rF⟩,⟨nL,uP ⟨_,o.1,TellL.refl rfl⟩ rL⟩,⟨nX,rX⟩⟩ o.2)))))
  λ_=>id0 D hD
 have edX:=λ(D:CODES) (hD:D.Ok)=>Run.b (Post:=rSo b [cR,.agg t0.c] [aK C]) (φ:=φEn) (decide (((0+t0.expts.length:Nat):Int) > 0)) (λhp=>.call (ao hD ((0+t0.expts.length:Nat):Int) (by have hp:=of_decide_eq_true hp;have:=hX.1;omega)) λi p=>
   have hi:0<=i.1/\i.1 < ((0+t0.expts.length:Nat):Int):=p.1
   .n (gd1 hi) (.n (gd2 hi) (.call (IC b hb _ (hX.2 _ (aN (l:=t0.expts) (i:=i.1.toNat) (by omega))) p.2) λs o=>.n (gd1 hi) (.n (gd3 hi)
    (kq (l:=[cR,.agg t0.c]) (os:=[aK C]) (ho:=t0.hold) (a1:=⟨0+t0.attrs.length,cpA t0⟩) (a2:=⟨0+t0.segs.length,cpS t0⟩) (a3:=⟨0+t0.flags.length,cpF t0⟩) (a4:=⟨0+t0.layers.length,cpL t0⟩) (a5:=⟨0+t0.expts.length,λj=>bif Nat.beq j i.1.toNat then s.1.c else (t0.expts.getD j default).c⟩) h1 h2 ⟨⟨nA,rA⟩,⟨nS,rS⟩,⟨nF,rF⟩,⟨nL,rL⟩,⟨nX,uP ⟨_,o.1,TellL.refl rfl⟩ rX⟩⟩ o.2)))))
  λ_=>id0 D hD
 have e7s:=λ(D:CODES) (hD:D.Ok)=>Run.b (Post:=rSo b [cR,.agg t0.c] [aK C]) (φ:=φEn) (decide (((0+t0.segs.length:Nat):Int) > 1)) (λhp=>
   have h1':1 < 0+t0.segs.length:=(by have hp:=of_decide_eq_true hp;omega)
   have h0':0 < 0+t0.segs.length:=(by omega)
   .n (gk1 h1') (.n (gk2 h1') (.n (gk1 h0') (.n (gk2 h0') (.n (gk1 h0') (.n (gk3 h0') (.n (gk1 h1') (.n (gk3 h1')
    (kq (l:=[cR,.agg t0.c]) (os:=[aK C]) (ho:=t0.hold) (a1:=⟨0+t0.attrs.length,cpA t0⟩) (a2:=⟨0+t0.segs.length,λj=>bif Nat.beq j 1 then (t0.segs.getD 0 default).c else bif Nat.beq j 0 then (t0.segs.getD 1 default).c else (t0.segs.getD j default).c⟩) (a3:=⟨0+t0.flags.length,cpF t0⟩) (a4:=⟨0+t0.layers.length,cpL t0⟩) (a5:=⟨0+t0.expts.length,cpX t0⟩) h1 h2 ⟨⟨nA,rA⟩,⟨nS,A2 h1' rS⟩,⟨nF,rF⟩,⟨nL,rL⟩,⟨nX,rX⟩⟩ hD)))))))))
  λ_=>id0 D hD
 have e7:=λ(D:CODES) (hD:D.Ok)=>Run.b (Post:=rSo b [cR,.agg t0.c] [aK C]) (φ:=φEn) (decide (((0+t0.flags.length:Nat):Int) > 1)) (λhp=>
   have h1':1 < 0+t0.flags.length:=(by have hp:=of_decide_eq_true hp;omega)
   have h0':0 < 0+t0.flags.length:=(by omega)
   .n (gk1 h1') (.n (gk2 h1') (.n (gk1 h0') (.n (gk2 h0') (.n (gk1 h0') (.n (gk3 h0') (.n (gk1 h1') (.n (gk3 h1')
    (kq (l:=[cR,.agg t0.c]) (os:=[aK C]) (ho:=t0.hold) (a1:=⟨0+t0.attrs.length,cpA t0⟩) (a2:=⟨0+t0.segs.length,cpS t0⟩) (a3:=⟨0+t0.flags.length,λj=>bif Nat.beq j 1 then (t0.flags.getD 0 default).c else bif Nat.beq j 0 then (t0.flags.getD 1 default).c else (t0.flags.getD j default).c⟩) (a4:=⟨0+t0.layers.length,cpL t0⟩) (a5:=⟨0+t0.expts.length,cpX t0⟩) h1 h2 ⟨⟨nA,rA⟩,⟨nS,rS⟩,⟨nF,A2 h1' rF⟩,⟨nL,rL⟩,⟨nX,rX⟩⟩ hD)))))))))
  λ_=>e7s D hD
 have e8:=λ(D:CODES) (hD:D.Ok)=>Run.lp (Post:=rSo b [cR,.agg t0.c] [aK C]) (φ:=φEn) (hu (SOV.mk false (0+t0.segs.length) D 0) ⟨λ_=>⟨rfl,rfl⟩,λh=>(by cases h),⟨(by show ((0+t0.segs.length:Nat):Int)=(0+t0.segs.length:Nat)+0;omega),Int.le_refl _,(by show (0:Int)<=20;decide)⟩,hD⟩) λv hv=>
  have hn:v.n<=b+40:=(by have:=hv.2.2.1;have:=hS.1;omega)
  .b v.s (λhs=>kq (l:=[cR,.agg t0.c]) (os:=[aK C]) (ho:=t0.hold) (a1:=⟨0+t0.attrs.length,cpA t0⟩) (a2:=⟨v.n,zG t0.segs⟩) (a3:=⟨0+t0.flags.length,cpF t0⟩) (a4:=⟨0+t0.layers.length,cpL t0⟩) (a5:=⟨0+t0.expts.length,cpX t0⟩) h1 h2 ⟨⟨nA,rA⟩,⟨hn,λj _=>⟨uS t0.segs j,OX le (J1 hS.2 (hv.2.1 hs) j),TellL.refl rfl⟩⟩,⟨nF,rF⟩,⟨nL,rL⟩,⟨nX,rX⟩⟩ hv.2.2.2)
   λhs=>kq (l:=[cR,.agg t0.c]) (os:=[aK C]) (ho:=t0.hold) (a1:=⟨0+t0.attrs.length,cpA t0⟩) (a2:=⟨v.n,cpS t0⟩) (a3:=⟨0+t0.flags.length,cpF t0⟩) (a4:=⟨0+t0.layers.length,cpL t0⟩) (a5:=⟨0+t0.expts.length,cpX t0⟩) h1 h2 ⟨⟨nA,rA⟩,⟨hn,λj hj=>rS j (by have hj:j < v.n:=hj;have:=(hv.1 hs).2;omega)⟩,⟨nF,rF⟩,⟨nL,rL⟩,⟨nX,rX⟩⟩ hv.2.2.2
 have f8:=λ(t:Int) (D:CODES) (hD:D.Ok)=>Run.b (t==8) (λ_=>e8 D hD) λ_=>id0 D hD
 have f7:=λ(t:Int) (D:CODES) (hD:D.Ok)=>Run.b (t==7) (λ_=>e7 D hD) λ_=>f8 t D hD
 have f6:=λ(t:Int) (D:CODES) (hD:D.Ok)=>Run.b (t==6) (λ_=>edX D hD) λ_=>f7 t D hD
 have f5:=λ(t:Int) (D:CODES) (hD:D.Ok)=>Run.b (t==5) (λ_=>edL D hD) λ_=>f6 t D hD
 exact cM (V:=VSo) (T:=tSo b t0) (d:=1) (W:=wSo t0) 0 (ag (hl _) aE) (bE (iU _ _) aD)
  (.n (eL [.agg t0.c] []) (.call (ao hC 9 (by decide)) λt q=>.b (t.1==0)
  (λ_=>.call (me q.2) λs p=>.call (dj p.2) λs2 p2=>.call (bZ p2.2) λs3 p3=>kq (s:=s.1) (k:=s2.1) (ho:=s3.1) (k40 (mN _ p.1)) (k40 p2.1) al p3) λ_=>.b (t.1==1)
  (λ_=>.call (dj q.2) λs p=>.call (dj p.2) λs2 p2=>.call (ao p2.2 7 (by decide)) λs3 p3=>.n (av (b:=40) (n:=0+t0.attrs.length+1) (m:=0+t0.attrs.length) (by have:=hA.1;omega))
   (kq (ho:=t0.hold) (a1:=⟨0+t0.attrs.length+1,af (0+t0.attrs.length) 1 (cpA t0) (ab z3a [(0,.agg [.str s.1,.str s2.1,.int .i64 s3.1])])⟩) (a2:=⟨0+t0.segs.length,cpS t0⟩) (a3:=⟨0+t0.flags.length,cpF t0⟩) (a4:=⟨0+t0.layers.length,cpL t0⟩) (a5:=⟨0+t0.expts.length,cpX t0⟩) h1 h2
    ⟨⟨(by have:=hA.1;show 0+t0.attrs.length+1<=b+40;omega),ba (P:=RAt) rA ⟨(s.1,s2.1,s3.1),⟨k40 p.1,k40 p2.1⟩,TellL.refl rfl⟩⟩,⟨nS,rS⟩,⟨nF,rF⟩,⟨nL,rL⟩,⟨nX,rX⟩⟩ p3.2)) λ_=>.b (t.1==2)
  (λ_=>edS t.2 q.2) λ_=>.b (t.1==3)
  (λ_=>.b (t.1==3) (λ_=>edF t.2 q.2) λ_=>f5 t.1 t.2 q.2) λ_=>.b (t.1==4) (λ_=>edF t.2 q.2) λ_=>f5 t.1 t.2 q.2)) (by kernel_rfl)
end Go.T

namespace Go.T
open Go Go.Ab Go.Proofs Go.SH
open Go.SM (ENV mK)
def φNw (C:CODES):AV×List AO:=(.ref 1000000 0,[aK C])
def rNw (_:List AV) (_:List AO) (C:CODES):Prop:=C.Ok
theorem Ky {n:Nat} {g:Nat->Int} (hg:∀j,j < n->0<=g j/\g j < 256):aB wd Nd φNw rNw [.sl .no 1 n λj=>[.int .u8 (g j)],.int .i64 400] []:=
 cM (V:=V0) (T:=[]) (d:=1) 1 aE aD (.b (decide ((n:Int) > 400)) (λh=>
   have h:=of_decide_eq_true h
   .n (c:=decide ((0:Int)<=((0:Nat):Int))&&(decide (((0:Nat):Int)<=400)&&decide ((400:Int)<=(n:Int)))) (slT (Int.le_refl _) (by decide) (by omega))
    (.e (CODES.mk 400 g 0) (r:=(.ref 1000000 0,[.cells [.sl .no 1 400 λj=>[.int .u8 (g (Int.toNat ((0:Nat):Int)+j))],.int .i64 0]])) ⟨⟨Int.le_refl _,by show (0:Int)<=((400:Nat):Int);decide⟩,by show 400<=4611686018427387904;decide,λj hj=>hg j (by have hj:j < 400:=hj;omega)⟩ (by
     have e:(λj=>[AV.int .u8 (g (Int.toNat ((0:Nat):Int)+j))])=λj=>[AV.int .u8 (g j)]:=by
      funext j;show [AV.int .u8 (g (0+j))]=_;rw [Nat.zero_add]
     rw [e];rfl)))
  λh=>.r (CODES.mk n g 0) ⟨⟨Int.le_refl _,by show (0:Int)<=(n:Int);omega⟩,by have h:=of_decide_eq_false h;show n<=_;omega,hg⟩) (by kernel_rfl)
noncomputable abbrev eNw:Ent:=aY wd Nd φNw rNw
def eZ:ENV:=⟨[],[],0,[],[],[],[],[]⟩
theorem O5:mK eZ=0:=by kernel_rfl
abbrev cZ:List AV:=[.str [],.str [],.int .i64 0,nA,nA,nA,nA,nA]
theorem Ls:TellL cZ eZ.c:=.cons (.same rfl) (.cons (.same rfl) (.cons (.same rfl) (.cons aU (.cons aU (.cons aU (.cons aU (.cons aU .nil)))))))
abbrev rZ1:AV:=.sl .fit 3 1 (ab z3 [(0,.agg [.int .i64 0,.int .i64 10000,.int .i64 2])])
theorem Kd:cv rZ1 (lF [(0,10000,2)]):=uz (n:=1) λj hj=>by
 obtain rfl:j=0:=(by omega)
 exact TellL.refl rfl
def rAw (l:List AV) (_:List AO) (x:Int):Prop:=(l=[rZ1,.int .i64 2]->x=0)/\(l=[rZ1,.int .i64 1]->x=3)
theorem DH {τ:Type} {f:FuncId} {φ:τ->AV×List AO} {P:τ->Prop} {x y:AV} {r:List AV} {os:List AO} (h:∀c v,Rep c x v->Rep c y v) (hk:y.keys=[]) (hd:aB wd f φ (λ_ _=>P) (y::r) os):aB wd f φ (λ_ _=>P) (x::r) os:=by
 obtain ⟨t,ht,hc⟩:=hd
 refine ⟨t,ht,Ct.Nr hc rfl (λk hk'=>?_) λi u u' hu hu' c v hv=>?_⟩
 ·simp only [ak,hk,List.nil_append,List.mem_append] at hk' ⊢
  exact .inr hk'
 ·match i,hu,hu' with
  | 0,hu,hu'=>
   simp only [List.getElem?_cons_zero,Option.some.injEq] at hu hu'
   subst hu hu'
   exact h c v hv
  | i+1,hu,hu'=>
   simp only [List.getElem?_cons_succ] at hu hu'
   rw [hu] at hu';cases hu';exact hv
theorem I1 (n:Int):aB wd iD SH.φE (rIs (dJ [(0,10000,2)] n)) [rZ1,.int .i64 n] []:=DH (P:=λx=>x=dJ [(0,10000,2)] n) Kd.2 rfl (qS [(0,10000,2)] n (by decide))
theorem IT:aB wd BJ φB (rIs true) [] []:=by
 have he:aB wd ec SH.φE (rIs 0) [.agg cZ] []:=uA (P:=λx=>x=0) (λ_ _=>nT Ls) rfl ((D6 eZ ⟨Nat.zero_le _,Nat.zero_le _,⟨Nat.zero_le _,λx hx=>(List.not_mem_nil hx).elim⟩,⟨Nat.zero_le _,λx hx=>(List.not_mem_nil hx).elim⟩,⟨Nat.zero_le _,λx hx=>(List.not_mem_nil hx).elim⟩,⟨Nat.zero_le _,λx hx=>(List.not_mem_nil hx).elim⟩,⟨Nat.zero_le _,λx hx=>(List.not_mem_nil hx).elim⟩⟩).mono λx h=>(show x=mK eZ from h).trans O5)
 have h2:aB wd iD SH.φE rAw [rZ1,.int .i64 2] []:=(I1 2).mono λx h=>⟨λ_=>(show x=dJ [(0,10000,2)] 2 from h).trans (by kernel_rfl),λh=>by simp at h⟩
 have h1:aB wd iD SH.φE rAw [rZ1,.int .i64 1] []:=(I1 1).mono λx h=>⟨λh=>by simp at h,λ_=>(show x=dJ [(0,10000,2)] 1 from h).trans (by kernel_rfl)⟩
 exact ea (V:=V0) [aY wd ec SH.φE (rIs 0),aY wd iD SH.φE rAw] 1 (.call he λa qa=>.call h2 λb qb=>.call h1 λc qc=>.r (bif bif a==0 then b==0 else false then c==3 else false) (by
  rw [show a=0 from qa,qb.1 rfl,qc.2 rfl];rfl)) (by kernel_rfl)
noncomputable abbrev eAw:Ent:=aY wd BJ φB (rIs true)
end Go.T

namespace Go.T
open Go Go.Ab Go.Proofs Go.SH
open Go.SM (ENV ATT mG dh pM pJ pr mK)
open Go.SO (SmG SmT SmF SmL SmX SmE)
theorem mV {T:Type} {d:T} {R:T->List AV} (hi:∀a b,R a=R b->a=b) {sz:Nat} {l l':List T} (h:AV.sl .no sz l.length (λj=>R (l.getD j d))=.sl .no sz l'.length λj=>R (l'.getD j d)):l=l':=by
 simp only [AV.sl.injEq,true_and] at h
 obtain ⟨h1,h2⟩:=h
 refine List.ext_getElem h1 λi k1 k2=>?_
 have:=hi _ _ (congrFun h2 i)
 rw [List.getD_eq_getElem?_getD,List.getD_eq_getElem?_getD,List.getElem?_eq_getElem k1,List.getElem?_eq_getElem k2] at this
 exact this
theorem FN {a b:ENV} (h:a.c=b.c):a=b:=by
 obtain ⟨s,k,ho,l1,l2,l3,l4,l5⟩:=a
 obtain ⟨s',k',ho',m1,m2,m3,m4,m5⟩:=b
 have h:[AV.str s,.str k,.int .i64 ho,mG l1,dh l2,pM l3,pJ l4,pr l5]=[AV.str s',.str k',.int .i64 ho',mG m1,dh m2,pM m3,pJ m4,pr m5]:=h
 simp only [List.cons.injEq,AV.str.injEq,AV.int.injEq,true_and,and_true] at h
 obtain ⟨rfl,rfl,rfl,h1,h2,h3,h4,h5⟩:=h
 rw [mV (R:=atc) (d:=([],[],0)) (λa b h=>by
   obtain ⟨a1,a2,a3⟩:=a
   obtain ⟨b1,b2,b3⟩:=b
   simp only [atc,List.cons.injEq,AV.str.injEq,AV.int.injEq,true_and,and_true] at h
   obtain ⟨rfl,rfl,rfl⟩:=h
   rfl) h1,
  mV (R:=SEG.c) (λa b h=>SM.SEG.cK h) h2,mV (R:=FLAG.c) (λa b h=>SM.FLAG.cK h) h3,mV (R:=LAYER.c) (λa b h=>SM.LAYER.cK h) h4,mV (R:=EXPT.c) (λa b h=>SM.EXPT.cK h) h5]
abbrev LK (e:ENV):List AV:=[.agg e.c]
theorem JM (a b:ENV) (h:LK a=LK b):a=b:=FN (by simpa using h)
noncomputable abbrev eSE:Ent:=aY wd ec SH.φE (rC LK mK)
noncomputable abbrev eRE:Ent:=aY wd fN SH.φE (rC LK mK)
noncomputable abbrev eSF:Ent:=aY wd qX SH.φE (rC JL kV)
noncomputable abbrev eRF:Ent:=aY wd yZ SH.φE (rC JL kV)
noncomputable abbrev eSS:Ent:=aY wd lC SH.φE (rC JH Bd)
noncomputable abbrev eRS:Ent:=aY wd og SH.φE (rC JH Bd)
noncomputable abbrev eSL:Ent:=aY wd mT SH.φE (rC JK gC)
noncomputable abbrev eRL:Ent:=aY wd qB SH.φE (rC JK gC)
noncomputable abbrev QG:Ent:=aY wd gI SH.φE (rC JF mz)
noncomputable abbrev QH:Ent:=aY wd jI SH.φE (rC JF mz)
theorem Qz {b b':Nat} (hb:b<=b') {e:ENV} (h:SmE b e):SmE b' e:=⟨h.salt,h.hkind,⟨Nat.le_trans h.attrs.1 hb,h.attrs.2⟩,⟨Nat.le_trans h.segs.1 hb,λg hg=>OX hb (h.segs.2 g hg)⟩,⟨Nat.le_trans h.flags.1 hb,λg hg=>PX hb (h.flags.2 g hg)⟩,⟨Nat.le_trans h.layers.1 hb,λg hg=>PO hb (h.layers.2 g hg)⟩,⟨Nat.le_trans h.expts.1 hb,λg hg=>Pr hb (h.expts.2 g hg)⟩⟩
def Oj (l:List AV) (_:List AO) (x:ENV×CODES):Prop:=(∀e,l=[cR,.agg e.c]->(SmE 50 e->SmE 90 x.1))/\SmE 130 x.1/\x.2.Ok
theorem I0 (e:ENV) (he:SmE 50 e) {C:CODES} (hC:C.Ok):aB wd k6 φEn Oj [cR,.agg e.c] [aK C]:=(A3 50 (by decide) e he hC).mono λx h=>⟨λ_ _ _=>h.1,Qz (by decide) h.1,h.2⟩
theorem LR (e:ENV) (he:SmE 90 e) {C:CODES} (hC:C.Ok):aB wd k6 φEn Oj [cR,.agg e.c] [aK C]:=by
 by_cases h:SmE 50 e
 ·exact I0 e h hC
 ·exact (A3 90 (by decide) e he hC).mono λx hx=>⟨λe' e1 e2=>absurd (by
   have:e=e':=FN (by simpa using e1)
   rw [this];exact e2) h,hx.1,hx.2⟩
noncomputable abbrev tW:List Ent:=[eAw,eNw,QO,aY wd k6 φEn Oj,eSE,eRE,eSF,eRF,eSS,eRS,eSL,eRL,QG,QH]
structure LWV where
 u:ENV
 i:Int
instance:Inhabited LWV:=⟨⟨SO.e0,0⟩⟩
def lwS (t:Nat) (v:LWV):St:={env:=[(6,.ref 6 0),(t,.int .i64 v.i)],objs:=[(6,.cells v.u.c)]}
def lwO (id:Nat) (v:LWV) (k:Ex->St->Res):Res:=k (.exit id) {env:=[(6,.ref 6 0)],objs:=[(6,.cells v.u.c)]}
def lwE (v:LWV) (k:Ex->St->Res):Res:=k (.exit 6) {env:=[],objs:=[]}
end Go.T

namespace Go.T
open Go Go.Ab Go.Proofs Go.SH
open Go.SM (ENV mK)
open Go.SO (SmE)
theorem _root_.Go.Ab.RT.no {α σ ι:Type} {S:α->St} {Inv:α->Prop} {μ:α->Nat} {out:σ->(Ex->St->Res)->Res} {Post:α->σ->Prop} {v:α} {s:St} (h:False):RT S Inv μ out Post v (λ(_:ι) k _=>k .ret s):=h.elim
theorem Ie {a b x:Int} (h1:a=x) (h2:b=x) (h:(a !=b)=true):False:=by rw [h1,h2] at h;simp at h
def lwI (n:ENV->Nat) (v:LWV):Prop:=SmE 130 v.u/\ix (n v.u) v.i
theorem lw1:∃ (u:St->Bool) (w:St->LWV),(∀v,lwI (λe=>e.flags.length) v->bU u w (lwS 7 v) λv=>SmE 130 v.u)/\∀L:List (List Nat×Orc),bu (V0.run tW 1 [] L [] bc) bc [1,1,1,1,1,1,1,0,1,0] (mkO u w (lwO 0)):=
 aA (Lf:=λL=>L) (lwS 7) (lwI λe=>e.flags.length) (λv=>(v.u.flags.length - v.i).toNat) (lwO 0) (λv=>SmE 130 v.u) (by kernel_rfl)
  (λv hv=>.b (decide (v.i < (v.u.flags.length:Int))) (λh=>
    have hn:=ax (n:=v.u.flags.length) hv.2 (by have:=hv.1.flags.1;omega) (of_decide_eq_true h)
    have hi:v.i.toNat < v.u.flags.length:=by have:=of_decide_eq_true h;have:=hv.2.1;omega
    have ok:=(hv.1.ok (by decide)).flags
    have h1:aB wd qX SH.φE (rC JL kV) (JL (v.u.flags.getD v.i.toNat default)) []:=aB.rC (λa b h=>SM.FLAG.cK (by simpa using h)) (A9 _ (ok.at hi))
    have h2:aB wd yZ SH.φE (rC JL kV) (JL (v.u.flags.getD v.i.toNat default)) []:=aB.rC (λa b h=>SM.FLAG.cK (by simpa using h)) (Bp _ (ok.at hi))
    .n (bw hv.2 h) (.call h1 λa qa=>.n (bw hv.2 h) (.call h2 λb qb=>.b (a !=b) (λhb=>.no (s:={env:=[(2,.bool false)],objs:=[]}) (Ie (qa _ rfl) (qb _ rfl) hb))
     λ_=>.to {v with i:=IntKind.wrap .i64 (v.i+1)} ⟨hv.1,hn.1⟩ hn.2)))
   λ_=>.fi v hv.1) (λv L k kn=>by kernel_rfl)
theorem lw2:∃ (u:St->Bool) (w:St->LWV),(∀v,lwI (λe=>e.segs.length) v->bU u w (lwS 8 v) λv=>SmE 130 v.u)/\∀L:List (List Nat×Orc),bu (V0.run tW 1 [] L [] bc) bc [1,1,1,1,1,1,1,1,0,1,0] (mkO u w (lwO 2)):=
 aA (Lf:=λL=>L) (lwS 8) (lwI λe=>e.segs.length) (λv=>(v.u.segs.length - v.i).toNat) (lwO 2) (λv=>SmE 130 v.u) (by kernel_rfl)
  (λv hv=>.b (decide (v.i < (v.u.segs.length:Int))) (λh=>
    have hn:=ax (n:=v.u.segs.length) hv.2 (by have:=hv.1.segs.1;omega) (of_decide_eq_true h)
    have hi:v.i.toNat < v.u.segs.length:=by have:=of_decide_eq_true h;have:=hv.2.1;omega
    have ok:=(hv.1.ok (by decide)).segs
    have h1:aB wd lC SH.φE (rC JH Bd) (JH (v.u.segs.getD v.i.toNat default)) []:=aB.rC (λa b h=>SM.SEG.cK (by simpa using h)) (DR _ (ok.at hi))
    have h2:aB wd og SH.φE (rC JH Bd) (JH (v.u.segs.getD v.i.toNat default)) []:=aB.rC (λa b h=>SM.SEG.cK (by simpa using h)) (Eo _ (ok.at hi))
    .n (bw hv.2 h) (.call h1 λa qa=>.n (bw hv.2 h) (.call h2 λb qb=>.b (a !=b) (λhb=>.no (s:={env:=[(2,.bool false)],objs:=[]}) (Ie (qa _ rfl) (qb _ rfl) hb))
     λ_=>.to {v with i:=IntKind.wrap .i64 (v.i+1)} ⟨hv.1,hn.1⟩ hn.2)))
   λ_=>.fi v hv.1) (λv L k kn=>by kernel_rfl)
theorem lw3:∃ (u:St->Bool) (w:St->LWV),(∀v,lwI (λe=>e.layers.length) v->bU u w (lwS 9 v) λv=>SmE 130 v.u)/\∀L:List (List Nat×Orc),bu (V0.run tW 1 [] L [] bc) bc [1,1,1,1,1,1,1,1,1,0,1,0] (mkO u w (lwO 4)):=
 aA (Lf:=λL=>L) (lwS 9) (lwI λe=>e.layers.length) (λv=>(v.u.layers.length - v.i).toNat) (lwO 4) (λv=>SmE 130 v.u) (by kernel_rfl)
  (λv hv=>.b (decide (v.i < (v.u.layers.length:Int))) (λh=>
    have hn:=ax (n:=v.u.layers.length) hv.2 (by have:=hv.1.layers.1;omega) (of_decide_eq_true h)
    have hi:v.i.toNat < v.u.layers.length:=by have:=of_decide_eq_true h;have:=hv.2.1;omega
    have ok:=(hv.1.ok (by decide)).layers
    have h1:aB wd mT SH.φE (rC JK gC) (JK (v.u.layers.getD v.i.toNat default)) []:=aB.rC (λa b h=>SM.LAYER.cK (by simpa using h)) (w6 _ (ok.at hi))
    have h2:aB wd qB SH.φE (rC JK gC) (JK (v.u.layers.getD v.i.toNat default)) []:=aB.rC (λa b h=>SM.LAYER.cK (by simpa using h)) (xj _ (ok.at hi))
    .n (bw hv.2 h) (.call h1 λa qa=>.n (bw hv.2 h) (.call h2 λb qb=>.b (a !=b) (λhb=>.no (s:={env:=[(2,.bool false)],objs:=[]}) (Ie (qa _ rfl) (qb _ rfl) hb))
     λ_=>.to {v with i:=IntKind.wrap .i64 (v.i+1)} ⟨hv.1,hn.1⟩ hn.2)))
   λ_=>.fi v hv.1) (λv L k kn=>by kernel_rfl)
theorem lw4:∃ (u:St->Bool) (w:St->LWV),(∀v,lwI (λe=>e.expts.length) v->bU u w (lwS 10 v) λv=>SmE 130 v.u)/\∀L:List (List Nat×Orc),bu (V0.run tW 1 [] L [] bc) bc [1,1,1,1,1,1,1,1,1,1,0,1,0] (mkO u w lwE):=
 aA (Lf:=λL=>L) (lwS 10) (lwI λe=>e.expts.length) (λv=>(v.u.expts.length - v.i).toNat) lwE (λv=>SmE 130 v.u) (by kernel_rfl)
  (λv hv=>.b (decide (v.i < (v.u.expts.length:Int))) (λh=>
    have hn:=ax (n:=v.u.expts.length) hv.2 (by have:=hv.1.expts.1;omega) (of_decide_eq_true h)
    have hi:v.i.toNat < v.u.expts.length:=by have:=of_decide_eq_true h;have:=hv.2.1;omega
    have ok:=(hv.1.ok (by decide)).expts
    have h1:aB wd gI SH.φE (rC JF mz) (JF (v.u.expts.getD v.i.toNat default)) []:=aB.rC (λa b h=>SM.EXPT.cK (by simpa using h)) (Ba _ (ok.at hi))
    have h2:aB wd jI SH.φE (rC JF mz) (JF (v.u.expts.getD v.i.toNat default)) []:=aB.rC (λa b h=>SM.EXPT.cK (by simpa using h)) (Bq _ (ok.at hi))
    .n (bw hv.2 h) (.call h1 λa qa=>.n (bw hv.2 h) (.call h2 λb qb=>.b (a !=b) (λhb=>.no (s:={env:=[(2,.bool false)],objs:=[]}) (Ie (qa _ rfl) (qb _ rfl) hb))
     λ_=>.to {v with i:=IntKind.wrap .i64 (v.i+1)} ⟨hv.1,hn.1⟩ hn.2)))
   λ_=>.fi v hv.1) (λv L k kn=>by kernel_rfl)
theorem MK {n:Nat} {g:Nat->Int} (hg:∀j,j < n->0<=g j/\g j < 256):aB wd bc φB (rIs true) [.sl .no 1 n λj=>[.int .u8 (g j)]] []:=by
 obtain ⟨u1,w1,h1,l1⟩:=lw1
 obtain ⟨u2,w2,h2,l2⟩:=lw2
 obtain ⟨u3,w3,h3,l3⟩:=lw3
 obtain ⟨u4,w4,h4,l4⟩:=lw4
 have es:∀e:ENV,e.Ok->aB wd ec SH.φE (rC LK mK) [.agg e.c] []:=λe he=>aB.rC JM (D6 e he)
 have er:∀e:ENV,e.Ok->aB wd fN SH.φE (rC LK mK) [.agg e.c] []:=λe he=>aB.rC JM (Ez e he)
 exact cM (V:=V0) (T:=tW) (d:=1) 0 (ag (l1 _) (ag (l2 _) (ag (l3 _) (ag (l4 _) aE)))) aD
  (.call IT λa qa=>.b (!a) (λh=>.r false (by rw [show a=true from qa] at h;cases h)) λ_=>.call (Ky hg) λC hC=>.call (M0 10 hC) λv qv=>.call (I0 v.1 qv.1.1.sm qv.2) λx qx=>
  have x9:SmE 90 x.1:=qx.1 v.1 rfl qv.1.1.sm
  .call (LR x.1 x9 qx.2.2) λy qy=>.call (es v.1 qv.1.1.ok) λt1 q1=>.call (es x.1 (x9.ok (by decide))) λt2 q2=>.call (er x.1 (x9.ok (by decide))) λt3 q3=>.call (es y.1 (qy.2.1.ok (by decide))) λt4 q4=>.call (er y.1 (qy.2.1.ok (by decide))) λt5 q5=>
  .b (bif bif t1 !=0 then true else t2 !=t3 then true else t4 !=t5) (λh=>.r false (by
    rw [(q1 _ rfl).trans qv.1.2,q2 _ rfl,q3 _ rfl,q4 _ rfl,q5 _ rfl] at h
    simp at h)) λ_=>
  .lp (h1 ⟨y.1,0⟩ ⟨qy.2.1,ix0 _⟩) λv1 k1=>.lp (h2 ⟨v1.u,0⟩ ⟨k1,ix0 _⟩) λv2 k2=>.lp (h3 ⟨v2.u,0⟩ ⟨k2,ix0 _⟩) λv3 k3=>.lp (h4 ⟨v3.u,0⟩ ⟨k3,ix0 _⟩) λv4 k4=>.r true rfl) (by kernel_rfl)
theorem Qt {n:Nat} {g:Nat->Int} (hg:∀j,j < n->0<=g j/\g j < 256):Ct wd.P wd.G 3 [.sl .no 1 n λj=>[.int .u8 (g j)]] [] (φB true):=by
 obtain ⟨x,hx,hc⟩:=MK hg
 rw [show x=true from hx] at hc
 exact hc
end Go.T

namespace Go.T
open Go Go.Ab Go.Proofs Go.RowKit Go.Proofs.YtpkipeakklpadaaGreatDoor
def dints:List (DataW Unit)->List Int
 | .lit (.int _ z)::r=>z::dints r
 | _=>[]
def dpairs:List (DataW Unit)->List (Int×Int)
 | .agg [.lit (.int _ y),.lit (.int _ z)]::r=>(y,z)::dpairs r
 | _=>[]
def parts:DataW Unit->List (DataW Unit)
 | .agg ds=>ds
 | _=>[]
theorem Ef {w:World} {d:DataW Unit} (hd:d=.agg ((dints (parts d)).map λz=>.lit (.int .u8 z))) (hl:(dints (parts d)).length=256) (hc:dcells d=(dints (parts d)).map λz=>.int .u8 z):Go.Ab.RX (λ_=>()) Tryz.prog w false 222 d (dcells d):=by
 rw [hc]
 have:=J4 (enc:=λ_=>()) (P:=Tryz.prog) (w:=w) (held:=false) (t:=222) (e:=5) (m:=256) (k:=.u8) (zs:=dints (parts d)) Tryz.underlying222 Tryz.underlying5 (by kernel_rfl) (by kernel_rfl) hl
 rwa [<-hd] at this
theorem Hz {w:World} {d:DataW Unit} (hd:d=.agg ((dpairs (parts d)).map λp=>.agg [.lit (.int .u8 p.1),.lit (.int .u8 p.2)])) (hl:(dpairs (parts d)).length=16) (hc:dcells d=((dpairs (parts d)).map λp=>[AV.int .u8 p.1]++[AV.int .u8 p.2]).flatten):Go.Ab.RX (λ_=>()) Tryz.prog w false 225 d (dcells d):=by
 rw [hc]
 have:=p6 (enc:=λ_=>()) (P:=Tryz.prog) (w:=w) (held:=false) (t:=225) (e:=224) (m:=16) (sz:=2) (ds:=(dpairs (parts d)).map λp=>.agg [.lit (.int .u8 p.1),.lit (.int .u8 p.2)]) (us:=(dpairs (parts d)).map λp=>[AV.int .u8 p.1]++[AV.int .u8 p.2]) Tryz.underlying225 (by kernel_rfl) (by kernel_rfl) (by simpa using hl) (λi d u hd hu=>by
  rw [List.getElem?_map,Option.map_eq_some_iff] at hd hu
  obtain ⟨z,hz,rfl⟩:=hd
  obtain ⟨z',hz',rfl⟩:=hu
  obtain rfl:z=z':=by rw [hz] at hz';exact Option.some.inj hz'
  exact LX Tryz.underlying224 (Ed Tryz.underlying5 (by kernel_rfl)) (Ed Tryz.underlying5 (by kernel_rfl)) rfl (by kernel_rfl) (by kernel_rfl)) (by simpa using hl)
 rwa [<-hd] at this
set_option maxRecDepth 100000 in
theorem zk {w:World} (h:w.ShapedOpen Tryz.prog):Rep (cE w) (.elt [.num .i64] 0) (.pointer (some ⟨8,0,none⟩)):=by
 obtain ⟨cs,h1,h2,h3⟩:=h.1 8 #[.int .i64 0] 3 (of_decide_eq_true (by kernel_rfl)) (by kernel_rfl)
 obtain ⟨ts,e1,e2,e3⟩:=h3 (by kernel_rfl)
 have e0:Tryz.prog.cellTypes Tryz.prog.depth 3=some [3]:=by kernel_rfl
 rw [e0] at e1
 obtain rfl:=Option.some.inj e1
 have hlt:0 < cs.size:=by rw [h2];decide
 obtain ⟨u,hu,hok⟩:=e3 0 cs[0] (Array.getElem?_eq_getElem hlt)
 simp only [List.length_singleton,Nat.mod_one,List.getElem?_cons_zero,Option.some.injEq] at hu
 subst hu
 unfold Cell.ok at hok
 rw [show Tryz.prog.underlying 3=some (.int .i64) from Tryz.underlying3] at hok
 have hcell:∀i,w.cell? ⟨8,i,none⟩=cs[i]?:=λi=>by
  unfold World.cell?
  simp [h1]
 refine xm hcell ⟨by simpa using h2,λu hu=>by simp at hu;subst hu;exact ⟨rfl,rfl⟩,λi u hu=>?_⟩
 cases i with
 | succ i=>simp at hu
 | zero=>
  simp at hu;subst hu
  rw [List.getD_eq_getElem?_getD,Array.getElem?_toList,Array.getElem?_eq_getElem hlt]
  show Rep _ _ cs[0]
  generalize cs[0]=v at hok ⊢
  cases v with
  | int k n=>obtain ⟨rfl,_⟩:=hok;exact .num _ _
  | _=>simp at hok
def dtexts:List (DataW Unit)->List (List UInt8)
 | .lit (.string s)::r=>s::dtexts r
 | _=>[]
def dlists:List (DataW Unit)->List (List (List UInt8))
 | .slice es _::r=>dtexts es::dlists r
 | _=>[]
theorem Bi {w:World} {t m:Nat} {d:DataW Unit} (ht:Tryz.prog.underlying t=some (.array m 9)) (hc:Tryz.prog.cellsOf t=m*1) (hd:d=.agg ((dtexts (parts d)).map λs=>.lit (.string s))) (hl:(dtexts (parts d)).length=m) (he:dcells d=(dtexts (parts d)).map λs=>.str s):Go.Ab.RX (λ_=>()) Tryz.prog w false t d (dcells d):=by
 rw [he]
 have:=p6 (enc:=λ_=>()) (P:=Tryz.prog) (w:=w) (held:=false) (t:=t) (e:=9) (m:=m) (sz:=1) (ds:=(dtexts (parts d)).map λs=>.lit (.string s)) (us:=(dtexts (parts d)).map λs=>[AV.str s]) ht (by kernel_rfl) hc (by simpa using hl) (λi d u hd hu=>by
  rw [List.getElem?_map,Option.map_eq_some_iff] at hd hu
  obtain ⟨z,hz,rfl⟩:=hd
  obtain ⟨z',hz',rfl⟩:=hu
  obtain rfl:z=z':=by rw [hz] at hz';exact Option.some.inj hz'
  exact I8 Tryz.underlying9 (by kernel_rfl)) (by simpa using hl)
 rw [<-hd] at this
 have hf:∀l:List (List UInt8),(l.map λs=>[AV.str s]).flatten=l.map λs=>AV.str s:=λl=>by induction l with | nil=>rfl | cons s r ih=>simp [ih]
 rwa [hf] at this
theorem Hy {w:World} {t m:Nat} {d:DataW Unit} (ht:Tryz.prog.underlying t=some (.array m 50)) (hc:Tryz.prog.cellsOf t=m*1) (hd:d=.agg ((dlists (parts d)).map λl=>.slice (l.map λs=>.lit (.string s)) [])) (hl:(dlists (parts d)).length=m) (he:dcells d=(dlists (parts d)).map λl=>DJ l):Go.Ab.RX (λ_=>()) Tryz.prog w false t d (dcells d):=by
 rw [he]
 have:=p6 (enc:=λ_=>()) (P:=Tryz.prog) (w:=w) (held:=false) (t:=t) (e:=50) (m:=m) (sz:=1) (ds:=(dlists (parts d)).map λl=>.slice (l.map λs=>.lit (.string s)) []) (us:=(dlists (parts d)).map λl=>[DJ l]) ht (by kernel_rfl) hc (by simpa using hl) (λi d u hd hu=>by
  rw [List.getElem?_map,Option.map_eq_some_iff] at hd hu
  obtain ⟨z,hz,rfl⟩:=hd
  obtain ⟨z',hz',rfl⟩:=hu
  obtain rfl:z=z':=by rw [hz] at hz';exact Option.some.inj hz'
  exact J3 Tryz.underlying50 Tryz.underlying9 (by kernel_rfl) (by kernel_rfl)) (by simpa using hl)
 rw [<-hd] at this
 have hf:∀l:List (List (List UInt8)),(l.map λs=>[DJ s]).flatten=l.map λs=>DJ s:=λl=>by induction l with | nil=>rfl | cons s r ih=>simp [ih]
 rwa [hf] at this
theorem Fz {w:World} {laid:List (String×DataW Unit)} (h:laidMet Tryz.prog laid w) (ho:w.ShapedOpen Tryz.prog)
  (m1:("flagstone/flagstonedraw.texts",Rows.laid_flagstone_flagstonedraw_texts)∈laid)
  (m2:("flagstone/flagstonedraw.versions",Rows.laid_flagstone_flagstonedraw_versions)∈laid)
  (m3:("flagstone/flagstonedraw.lists",Rows.laid_flagstone_flagstonedraw_lists)∈laid)
  (m4:("unicode/utf8.first",Rows.laid_unicode_utf8_first)∈laid)
  (m5:("unicode/utf8.acceptRanges",Rows.laid_unicode_utf8_acceptRanges)∈laid)
  (m6:("strings.asciiSpace",Rows.laid_strings_asciiSpace)∈laid)
  (m9:("strconv.ErrSyntax",Rows.laid_strconv_ErrSyntax)∈laid)
  (m10:("strconv.ErrRange",Rows.laid_strconv_ErrRange)∈laid) :
  ∀g cs,glb g=some cs->Rep (cE w) (.elt cs 0) (.pointer (some ⟨g,0,none⟩)):=by
 intro g cs hg
 unfold glb at hg
 by_cases h1:g=1
 ·subst h1
  obtain rfl:=Option.some.inj hg
  exact iG h m1 (by kernel_rfl) (by kernel_rfl) (Bi (m:=11) (t:=152) (by kernel_rfl) (by kernel_rfl) (by kernel_rfl) (by kernel_rfl) (by kernel_rfl))
 rw [lS h1,cond_false] at hg
 by_cases h2:g=2
 ·subst h2
  obtain rfl:=Option.some.inj hg
  exact iG h m2 (by kernel_rfl) (by kernel_rfl) (Bi (m:=6) (t:=144) (by kernel_rfl) (by kernel_rfl) (by kernel_rfl) (by kernel_rfl) (by kernel_rfl))
 rw [lS h2,cond_false] at hg
 by_cases h3:g=3
 ·subst h3
  obtain rfl:=Option.some.inj hg
  exact iG h m3 (by kernel_rfl) (by kernel_rfl) (Hy (m:=5) (t:=200) (by kernel_rfl) (by kernel_rfl) (by kernel_rfl) (by kernel_rfl) (by kernel_rfl))
 rw [lS h3,cond_false] at hg
 by_cases h4:g=4
 ·subst h4
  obtain rfl:=Option.some.inj hg
  exact iG h m4 (by kernel_rfl) (by kernel_rfl) (Ef (by kernel_rfl) (by kernel_rfl) (by kernel_rfl))
 rw [lS h4,cond_false] at hg
 by_cases h5:g=5
 ·subst h5
  obtain rfl:=Option.some.inj hg
  exact iG h m5 (by kernel_rfl) (by kernel_rfl) (Hz (by kernel_rfl) (by kernel_rfl) (by kernel_rfl))
 rw [lS h5,cond_false] at hg
 by_cases h6:g=6
 ·subst h6
  obtain rfl:=Option.some.inj hg
  exact iG h m6 (by kernel_rfl) (by kernel_rfl) (Ef (by kernel_rfl) (by kernel_rfl) (by kernel_rfl))
 rw [lS h6,cond_false] at hg
 by_cases h8:g=8
 ·subst h8
  obtain rfl:=Option.some.inj hg
  exact zk ho
 rw [lS h8,cond_false] at hg
 by_cases h9:g=9
 ·subst h9
  obtain rfl:=Option.some.inj hg
  exact iG h m9 (by kernel_rfl) (by kernel_rfl) (Bj Tryz.underlying281 (by kernel_rfl))
 rw [lS h9,cond_false] at hg
 by_cases h10:g=10
 ·subst h10
  obtain rfl:=Option.some.inj hg
  exact iG h m10 (by kernel_rfl) (by kernel_rfl) (Bj Tryz.underlying281 (by kernel_rfl))
 rw [lS h10,cond_false] at hg
 cases hg
section
variable {H:Type} {enc:TypeId×Value->H} {w:World} {N:Nat}
def IQ (z:Int):Prop:=0<=z/\z < 256
theorem L7 (n:Nat):Reads enc Tryz.prog w N n 5 (λz:Int=>[.int .u8 z]) IQ:=(EC Tryz.underlying5).map id (λ_=>rfl) λz h=>by
 simp [Lit.wf,IntKind.min,IntKind.max,IntKind.signed,IntKind.bits] at h
 exact ⟨h.1,by show z < 256;omega⟩
def Nl (l:List Int):AV:=.sl .no 1 l.length λj=>[.int .u8 (l.getD j 0)]
theorem Kb (n:Nat):Reads enc Tryz.prog w N n 22 (λl:List Int=>[Nl l]) (λl=>∀z∈l,IQ z):=
 (yU (e:=5) (sz:=1) (α:=Int) (cl:=λz=>[.int .u8 z]) (Ok:=IQ) (λl j=>[.int .u8 (l.getD j 0)]) Tryz.underlying22 (by kernel_rfl) (by omega) (λ_=>rfl) (λ_ _ _=>rfl) (λm _=>L7 m)).map id (λ_=>rfl) λl h=>h.2.2
end
theorem DW {P:Program} {H:Type} {enc:TypeId×Value->H} {W:World} {base:Nat} {t e:TypeId} {v:Value} {d:DataW H} {p:List MemPlace} {α:Type} {cl:α->AV} {Ok:α->Prop} (hs:P.underlying t=some (.slice e))
  (hv:Value.okWide P W .any base t v) (h:DataW.Trod enc P W 0 (λ_=>true) true t v d p) {N:Nat} (hr:∀n,Reads enc P W N n t (λa=>[cl a]) Ok) (hb:mE d<=N) :
  ∃a,Ok a/\Rep (cE W) (cl a) v/\(cl a).keys=[]:=by
 obtain ⟨a,len,cap,rfl⟩:=Go.WideShapes.okWide_slice hs hv
 obtain ⟨n,hn⟩:=h
 obtain ⟨x,h1,h2⟩:=hr n (Value.slice a len cap).cells.toList (d,p) hn hb
 refine ⟨x,h2,?_,(h1.one _ (by simp)).2⟩
 simpa [Value.cells] using h1.rep 0 _ rfl
end Go.T
