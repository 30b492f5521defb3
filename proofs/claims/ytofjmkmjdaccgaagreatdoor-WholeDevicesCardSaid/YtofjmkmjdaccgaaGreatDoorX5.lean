/- text.Key. Registers that are valid. The open slot of a layer. Assign. A view: a slice in a variable's cell, nobody's from here on. Merge. Registers stay valid. The register's links and the events' links. The slot at a time. The open slot of an id. The sanity check of registers. The ids of made data. Forced assignments and ranges of buckets: any answers. -/
import Derived.Test.YtofjmkmjdaccgaaGreatDoorX4
set_option linter.unusedVariables false
set_option linter.unusedSimpArgs false
namespace Go.WF
open Go Go.Ab Go.Proofs
set_option linter.unusedSectionVars false
def tE:List UInt8:=[97,110,100,32,97,114,109,115,32,97,116,116,114,105,98,117,116,101,32,98,111,111,108,32,99,108,97,105,109,115,32,99,111,110,116,97,105,110,115,32,99,111,111,108,32,99,111,111,108,105,110,103,32,100,101,102,97,117,108,116,32,100,114,97,102,116,32,101,110,100,115,32,101,120,99,108,117,100,101,32,101,120,105,115,116,115,32,101,120,112,101,114,105,109,101,110,116,32,102,97,108,115,101,32,102,108,97,103,32,104,111,108,100,111,117,116,32,105,110,32,105,110,99,108,117,100,101,32,105,115,32,108,97,121,101,114,32,108,105,115,116,32,109,101,109,98,101,114,32,110,101,101,100,115,32,110,111,116,32,110,117,109,98,101,114,32,111,102,102,32,111,110,32,111,114,32,114,117,108,101,32,114,117,110,110,105,110,103,32,115,97,108,116,32,115,101,103,109,101,110,116,32,115,101,114,118,101,32,115,101,116,116,105,110,103,115,32,115,112,108,105,116,32,115,116,97,114,116,115,32,115,116,111,112,112,101,100,32,116,97,114,103,101,116,32,116,101,120,116,32,116,111,32,116,114,117,101,32,117,110,116,105,108,32,118,97,114,105,97,116,105,111,110,115,32,118,101,114,115,105,111,110,32,119,104,101,110]
def Dd:List UInt8->List UInt8->List (List UInt8)
 | [],w=>[w]
 | c::r,w=>if c=32 then w::Dd r [] else Dd r (w++[c])
def rC:List (List UInt8):=Dd tE []
def qx:Option (AV×List AO)->Bool
 | some (.sl _ 1 46 get,[])=>uj 46 (λj=>[.str (rC.getD j [])]) get
 | _=>false
theorem qw {x:Option (AV×List AO)} (h:qx x=true):∃o get,x=some (.sl o 1 46 get,[])/\uj 46 (λj=>[.str (rC.getD j [])]) get=true:=by
 unfold qx at h
 split at h
 ·exact ⟨_,_,rfl,h⟩
 ·cases h
def vV (l:List (List UInt8)):AV:=.sl .no 1 l.length λj=>[.str (l.getD j [])]
theorem rB:rC.length=46:=by kernel_rfl
def Sa (s:List UInt8) (i:Nat):St:={env:=[(0,.str s),(17,.ref 17 0)],objs:=[(17,.iter s i)]}
def kf (i:Nat) (c:Nat):Bool:=bif !bif decide ((c:Int)≥97) then decide ((c:Int)<=122) else false then bif (i:Int)==0 then true else bif bif !bif decide ((c:Int)≥48) then decide ((c:Int)<=57) else false then (c:Int) !=45 else false then (c:Int) !=95 else false else false
def ny (s:List UInt8):Bool×Bool:=seek s.length (·+1) (λi=>kf i (s.getD i 0).toNat) false
def vN (s:List UInt8):Bool:=!(ny s).1&&decide (0 < s.length)
def pY (s:List UInt8):Bool×Bool:=seek rC.length (·+1) (λi=>rC.getD i []==s) false
def cC (s:List UInt8):Bool:=vN s&&(decide (s.length<=32)&&!(pY s).1)
def φB (b:Bool):AV×List AO:=(.bool b,[])
def φS (l:List (List UInt8)):AV×List AO:=(vV l,[])
theorem kN {i c:Nat} (h:128<=c):kf i c=true:=by
 unfold kf
 rw [decide_eq_true (show (c:Int)≥97 by omega),decide_eq_false (show ¬ (c:Int)<=122 by omega),decide_eq_true (show (c:Int)≥48 by omega),decide_eq_false (show ¬ (c:Int)<=57 by omega)]
 rw [show ((c:Int) !=45)=true by simp;omega,show ((c:Int) !=95)=true by simp;omega]
 cases ((i:Int)==0) <;> rfl
theorem kM (i c:Nat):(bif !bif decide ((c:Int)≥97) then decide ((c:Int)<=122) else false then bif (i:Int)==0 then true else bif bif bif decide ((c:Int) < 48) then true else decide ((c:Int) > 57) then (c:Int) !=45 else false then (c:Int) !=95 else false else false)=kf i c:=by
 unfold kf
 have e1:decide ((c:Int) < 48)=!decide ((c:Int)≥48):=by
  by_cases h:(c:Int)≥48
  ·rw [decide_eq_true h,decide_eq_false (by omega)];rfl
  ·rw [decide_eq_false h,decide_eq_true (by omega)];rfl
 have e2:decide ((c:Int) > 57)=!decide ((c:Int)<=57):=by
  by_cases h:(c:Int)<=57
  ·rw [decide_eq_true h,decide_eq_false (by omega)];rfl
  ·rw [decide_eq_false h,decide_eq_true (by omega)];rfl
 rw [e1,e2]
 cases decide ((c:Int)≥48) <;> cases decide ((c:Int)<=57) <;> rfl
def kW (s:List UInt8) (i:Nat):Bool:=kf i (Utf8.decode ⟨s.toArray⟩ i).1
theorem ng (s:List UInt8):seek s.length (iU s) (kW s) false=ny s:=
 mM s (kW s) _ false (λi hi hl=>by unfold kW;rw [qN hl]) (λi hi hh=>⟨kN (sf hi hh).1,kN hh⟩)
def rIs {τ:Type} (v:τ) (_:List AV) (_:List AO) (x:τ):Prop:=x=v
def rS {τ:Type} (w:List UInt8->τ) (l:List AV) (_:List AO) (x:τ):Prop:=∀s,l=[.str s]->x=w s
theorem rS.mk {τ:Type} {w:List UInt8->τ} {s:List UInt8} {os:List AO} {x:τ} (h:x=w s):rS w [.str s] os x:=λs' e=>by
 simp only [List.cons.injEq,AV.str.injEq,and_true] at e
 rw [<-e];exact h
theorem AQ {τ:Type} {t:τ} {b:Bool} (h:b=true):(bif b then some t else none)=some t:=by rw [h];rfl
theorem AR {τ:Type} {t:τ} {b:Bool} (h:b=false):(bif b then some t else none)=none:=by rw [h];rfl
section
variable {τ:Type} [Inhabited τ] {n:Nat} {nxt:Nat->Nat} {stop:Nat->Option τ} {i:Nat}
structure SN (n:Nat) (nxt:Nat->Nat) (stop:Nat->Option τ) (i:Nat):Prop where
 b:i<=n
 e:dQ n nxt stop i=dQ n nxt stop 0
structure SA (n:Nat) (nxt:Nat->Nat) (stop:Nat->Option τ) (i:Nat):Prop where
 lt:i < n
 s:SN n nxt stop i
 x:∀i,i < n->i < nxt i/\nxt i<=n
theorem SA.hit (h:SA n nxt stop i) {t:τ} (hs:stop i=some t):(true,t)=dQ n nxt stop 0:=by
 rw [<-h.s.e,jg (λi hi=>(h.x i hi).1) h.lt,hs]
theorem SA.on (h:SA n nxt stop i) (hs:stop i=none):SN n nxt stop (nxt i):=⟨(h.x i h.lt).2,by rw [<-h.s.e,jg (λi hi=>(h.x i hi).1) h.lt,hs]⟩
variable {ι:Type} {S:Nat->St} {outS:τ->(Ex->St->Res)->Res} {outE:(Ex->St->Res)->Res}
abbrev RS (S:Nat->St) (n:Nat) (nxt:Nat->Nat) (stop:Nat->Option τ) (outS:τ->(Ex->St->Res)->Res) (outE:(Ex->St->Res)->Res) (i:Nat) (e:ι->(Ex->St->Res)->(St->Res)->Res):Prop:=RT S (SN n nxt stop) (λi=>n - i) (yY outS outE) (λ_ o=>o=dQ n nxt stop 0) i e
theorem _root_.Go.Ab.RT.sp (t:τ) (a:SA n nxt stop i) (h:stop i=some t):RS S n nxt stop outS outE i (λ(_:ι) k _=>outS t k):=RT.fi (S:=S) (out:=yY outS outE) (true,t) (a.hit h)
theorem _root_.Go.Ab.RT.on (s:St) (a:SA n nxt stop i) (h:stop i=none) (e:s=S (nxt i)):RS S n nxt stop outS outE i (λ(_:ι) _ kn=>kn s):=RT.nx s (nxt i) (a.on h) (by have:=a.x i a.lt;show n - nxt i < n - i;omega) (λ_ h=>h) e
theorem ua {V:Env} {T:List Ent} {d:Nat} {Lf:ι->List (List Nat×Orc)} {W:List (List Nat×Vw)} {f:FuncId} {p:List Nat} (S:Nat->St) (n:Nat) (nxt:Nat->Nat) (hx:∀i,i < n->i < nxt i/\nxt i<=n) (stop:Nat->Option τ) (outS:τ->(Ex->St->Res)->Res) (outE:Nat->(Ex->St->Res)->Res) (lt:Nat->Bool) (hlt:∀i,lt i=decide (i < n)) (hb:rP (dw (bA V.P f) p)=true)
  {e:Nat->ι->(Ex->St->Res)->(St->Res)->Res} (h1:∀i,SA n nxt stop i->RS S n nxt stop outS (outE n) i (e i)) (he:∀i j k kn,fq (V.run T d [] (Lf j) W f) f 9 p (S i) kn k=cond (lt i) (e i j k kn) (outE i k)) :
  ∃ (u:St->Bool) (w:St->Bool×τ),cg u w (S 0) (λo=>o=dQ n nxt stop 0)/\∀j,bW (V.run T d [] (Lf j) W f) f p (mkO u w (yY outS (outE n))):=by
 obtain ⟨u,w,h,hl⟩:=c6 (V:=V) (T:=T) (d:=d) (Lf:=Lf) (W:=W) (f:=f) (p:=p) S (SN n nxt stop) (λi=>n - i) (yY outS (outE n)) (λo=>o=dQ n nxt stop 0) hb (e:=λi j k kn=>cond (lt i) (e i j k kn) (outE i k))
  (λi hi=>.b (lt i) (λh=>h1 i ⟨of_decide_eq_true ((hlt i).symm.trans h),hi,hx⟩) λh=>by
   have hg:¬ i < n:=of_decide_eq_false ((hlt i).symm.trans h)
   have hn:i=n:=by have:=hi.b;omega
   subst hn
   exact .fi (out:=yY outS (outE i)) (false,default) (by rw [<-hi.e,fR _ _ _ hg])) he
 exact ⟨u,w,h 0 ⟨Nat.zero_le _,rfl⟩,hl⟩
end
section
variable {τ:Type} [Inhabited τ] {ι:Type} {S:Int->St} {n:Nat} {stop:Nat->Option τ} {outS:τ->(Ex->St->Res)->Res} {outE:(Ex->St->Res)->Res} {i:Nat}
theorem s1 (n:Nat):∀i,i < n->i < i+1/\i+1<=n:=λi h=>⟨Nat.lt_succ_self i,h⟩
theorem E1 (i n:Nat):decide ((i:Int) < (n:Int))=decide (i < n):=by
 by_cases h:i < n
 ·rw [decide_eq_true h,decide_eq_true (by omega)]
 ·rw [decide_eq_false h,decide_eq_false (by omega)]
theorem _root_.Go.Ab.RT.up (a:SA n (·+1) stop i) (hn:n<=4611686018427387904) (h:stop i=none):RS (λj:Nat=>S j) n (·+1) stop outS outE i (λ(_:ι) _ kn=>kn (S (IntKind.wrap .i64 ((i:Int)+1)))):=RT.on _ a h (by rw [c8 (by have:=a.lt;omega)])
theorem xH {V:Env} {T:List Ent} {d:Nat} {Lf:ι->List (List Nat×Orc)} {W:List (List Nat×Vw)} {f:FuncId} {p:List Nat} (S:Int->St) (n:Nat) (stop:Nat->Option τ) (outS:τ->(Ex->St->Res)->Res) (outE:(Ex->St->Res)->Res) (hb:rP (dw (bA V.P f) p)=true)
  {e:Nat->ι->(Ex->St->Res)->(St->Res)->Res} (h1:∀i,SA n (·+1) stop i->RS (λj:Nat=>S j) n (·+1) stop outS outE i (e i)) (he:∀ (i:Nat) j k kn,fq (V.run T d [] (Lf j) W f) f 9 p (S i) kn k=cond (decide ((i:Int) < (n:Int))) (e i j k kn) (outE k)) :
  ∃ (u:St->Bool) (w:St->Bool×τ),cg u w (S 0) (λo=>o=dQ n (·+1) stop 0)/\∀j,bW (V.run T d [] (Lf j) W f) f p (mkO u w (yY outS outE)):=
 ua (λj:Nat=>S j) n (·+1) (s1 n) stop outS (λ_=>outE) (λi=>decide ((i:Int) < (n:Int))) (λi=>E1 i n) hb h1 he
end
theorem DK (s:List UInt8):decide ((s.length:Int) > 32)=!decide (s.length<=32):=by
 by_cases h:s.length<=32
 ·rw [decide_eq_true h,decide_eq_false (by omega)];rfl
 ·rw [decide_eq_false h,decide_eq_true (by omega)];rfl
set_option maxRecDepth 100000 in
theorem sY:qx (E V0 400 lV [.str tE] [])=true:=by kernel_rfl
theorem ve:bo wd lV φS (rIs rC) [.str tE] []:=by
 obtain ⟨o,get,h1,h2⟩:=qw sY
 refine ⟨rC,rfl,?_⟩
 refine (yI (V:=V0) gX ig (λ_=>rfl) h1).res rfl λc v hr=>?_
 unfold vV
 rw [rB]
 exact Rep.zz (uh h2) hr
noncomputable abbrev C8:Ent:=du wd lV φS (rIs rC)
def SbZ (s:List UInt8) (i:Int):St:={env:=[(0,.str s),(50,vV rC),(51,.int .i64 rC.length),(52,.int .i64 i)],objs:=[]}
theorem yO (i n:Nat):Nat.blt i n=decide (i < n):=by
 by_cases h:i < n
 ·rw [decide_eq_true h];exact tA h
 ·rw [decide_eq_false h]
  cases e:Nat.blt i n with
  | false=>rfl
  | true=>exact absurd (ltB e) h
theorem lt1 (s:List UInt8):decide ((s.length:Int) < 1)=!decide (0 < s.length):=by
 by_cases h:0 < s.length
 ·rw [decide_eq_true h,decide_eq_false (by omega)];rfl
 ·rw [decide_eq_false h,decide_eq_true (by omega)];rfl
theorem dP (s:List UInt8):bo wd rj φB (rS cC) [.str s] []:=by
 obtain ⟨u1,o1,h1,l1⟩:=ua (V:=V0) (T:=[C8]) (d:=1) (W:=[]) (f:=rj) (p:=[1,1,0,1,0]) (Lf:=λL=>L) (Sa s) s.length (iU s) (λi h=>uC h) (λi=>bif kW s i then some false else none) (DE 2) (λ_ k=>k (.exit 0) {env:=[(0,.str s)],objs:=[]}) (λi=>Nat.blt i s.length) (λi=>yO i _) (by kernel_rfl)
  (λi a=>.b (bif !bif decide (((Utf8.decode ⟨s.toArray⟩ i).1:Int)≥97) then decide (((Utf8.decode ⟨s.toArray⟩ i).1:Int)<=122) else false then bif (i:Int)==0 then true else bif bif bif decide (((Utf8.decode ⟨s.toArray⟩ i).1:Int) < 48) then true else decide (((Utf8.decode ⟨s.toArray⟩ i).1:Int) > 57) then ((Utf8.decode ⟨s.toArray⟩ i).1:Int) !=45 else false then ((Utf8.decode ⟨s.toArray⟩ i).1:Int) !=95 else false else false)
   (λh=>.sp false a (AQ (by unfold kW;rw [<-kM];exact h))) λh=>.on _ a (AR (by unfold kW;rw [<-kM];exact h)) rfl) (λi L k kn=>by kernel_rfl)
 obtain ⟨u2,o2,h2,l2⟩:=xH (V:=V0) (T:=[C8]) (d:=1) (W:=[]) (f:=rj) (p:=[1,1,1,0,1,0]) (Lf:=λL=>L) (SbZ s) rC.length (λi=>bif rC.getD i []==s then some false else none) (DE 2) (λk=>k (.exit 2) {env:=[],objs:=[]}) (by kernel_rfl)
  (λi a=>.n (bJ a.lt) (.b (rC.getD i []==s) (λh=>.sp false a (AQ h)) λh=>.up a (by rw [rB];decide) (AR h))) (λi L k kn=>by kernel_rfl)
 exact a7 (V:=V0) (T:=[C8]) (d:=1) 0 (aZ (l1 _) (aZ (l2 _) aq)) ao
  (.b (bif decide ((s.length:Int) < 1) then true else decide ((s.length:Int) > 32)) (λh=>.r false (.mk (by
    rw [lt1,DK] at h
    unfold cC vN
    cases hd:decide (s.length<=32) <;> cases hw:decide (0 < s.length) <;> simp_all))) λh=>.lp h1 λt q=>.b t.1 (λht=>.r t.2 (.mk (by
     have q:t=seek s.length (iU s) (kW s) false:=q
     rw [ng] at q
     rw [q] at ht ⊢
     have hv:(ny s).2=false:=rk ht
     unfold cC vN;rw [hv,ht];simp))) λht=>.call ve λr qr=>
   have qr:r=rC:=qr
   have hu:cg u2 o2 {env:=[(0,.str s),(50,vV r),(51,.int .i64 r.length),(52,.int .i64 0)],objs:=[]} (λt=>t=pY s):=by rw [qr];exact h2
   .lp hu λt2 q2=>.b t2.1 (λh2=>.r t2.2 (.mk (by
    rw [q2] at h2 ⊢
    have hv:(pY s).2=false:=rk h2
    unfold cC;rw [hv,h2];simp))) λh2=>.r true (.mk (by
    have q:t=seek s.length (iU s) (kW s) false:=q
    rw [ng] at q
    rw [q] at ht
    rw [lt1,DK] at h
    rw [q2] at h2
    unfold cC vN
    cases hd:decide (s.length<=32) <;> cases hw:decide (0 < s.length) <;> simp_all))) (by kernel_rfl)
noncomputable abbrev kG:Ent:=du wd rj φB (rS cC)
end Go.WF

namespace Go.WF
open Go Go.Ab Go.Proofs
set_option linter.unusedSectionVars false
theorem _root_.Go.Ab.Run.no {τ:Type} {Post:τ->Prop} {φ:τ->AV×List AO} {c:Bool} {a b:Res} (h:c=false) (h1:Run Post φ b):Run Post φ (cond c a b):=by subst h;exact h1
theorem _root_.Go.Ab.RT.no {α τ ι:Type} {S:α->St} {Inv:α->Prop} {μ:α->Nat} {out:τ->(Ex->St->Res)->Res} {Post:α->τ->Prop} {v:α} {c:Bool} {A B:ι->(Ex->St->Res)->(St->Res)->Res} (h:c=false) (h1:RT S Inv μ out Post v B):RT S Inv μ out Post v (λi k kn=>cond c (A i k kn) (B i k kn)):=by subst h;exact h1
theorem _root_.Go.Ab.Run.yea {τ:Type} {Post:τ->Prop} {φ:τ->AV×List AO} {c:Bool} {a b:Res} (h:c=true) (h1:Run Post φ a):Run Post φ (cond c a b):=by subst h;exact h1
theorem _root_.Go.Ab.RT.yea {α τ ι:Type} {S:α->St} {Inv:α->Prop} {μ:α->Nat} {out:τ->(Ex->St->Res)->Res} {Post:α->τ->Prop} {v:α} {c:Bool} {A B:ι->(Ex->St->Res)->(St->Res)->Res} (h:c=true) (h1:RT S Inv μ out Post v A):RT S Inv μ out Post v (λi k kn=>cond c (A i k kn) (B i k kn)):=by subst h;exact h1
theorem o9 {n v:Nat} (h:v < n):n - (v+1) < n - v:=by omega
structure SV (now:Int) (s:SL):Prop where
 id:cC s.id=true
 layer:cC s.layer=true
 exp:cC s.exp=true
 arm:1<=s.arm/\s.arm<=8
 fr:0<=s.fr/\s.fr<=now
 fin:s.fin=0/\s.to=0∨(s.fin=1∨s.fin=2)/\s.fr<=s.to/\s.to<=now
section
variable {r:RG} {s:SL}
theorem SV.a (h:SV r.now s) {r1 r2 r3:Bool} (h1:r1=cC s.id) (h2:r2=cC s.layer) (h3:r3=cC s.exp):(bif bif bif bif bif bif !r1 then true else !r2 then true else !r3 then true else decide (SL.arm s < 1) then true else decide (SL.arm s > 8) then true else decide (SL.fr s < 0) then true else decide (SL.fr s > RG.now r))=false:=by
 rw [h1,h2,h3,h.id,h.layer,h.exp,decide_eq_false (show ¬ s.arm < 1 by have:=h.arm;omega),decide_eq_false (show ¬ s.arm > 8 by have:=h.arm;omega),decide_eq_false (show ¬ s.fr < 0 by have:=h.fr;omega),decide_eq_false (show ¬ s.fr > r.now by have:=h.fr;omega)]
 rfl
theorem SV.z (h:SV r.now s) (h5:(s.fin==0)=true):(s.to==0)=true:=by
 have h5:s.fin=0:=by simpa using h5
 have:=h.fin
 simp;omega
theorem SV.m (h:SV r.now s) (h5:(s.fin==0)=false):(bif decide (SL.fr s<=SL.to s) then decide (SL.to s<=RG.now r) else false)=true:=by
 have h5:s.fin≠0:=by simpa using h5
 have h1:=h.fin
 rw [decide_eq_true (show s.fr<=s.to by omega),decide_eq_true (show s.to<=r.now by omega)];rfl
theorem SV.d (_:SV r.now s) (h6:(s.fin==1)=true) (h7:(s.fin==1)=false):false=true:=by rw [h6] at h7;cases h7
theorem SV.n (h:SV r.now s) (h5:(s.fin==0)=false) (h6:(s.fin==1)=false) (h8:(s.fin==2)=false):false=true:=by
 have h5:s.fin≠0:=by simpa using h5
 have h6:s.fin≠1:=by simpa using h6
 have h8:s.fin≠2:=by simpa using h8
 have:=h.fin
 omega
theorem zy (h:SV r.now s):bo wd lT φBo (rE true) [rgA r,.agg s.c] []:=
 a7 (V:=V0) (T:=[kG]) (d:=1) 0 aq ao (.call (dP _) λr1 q1=>
  .call (dP _) λr2 q2=>
  .call (dP _) λr3 q3=>
  .no (c:=bif bif bif bif bif bif !r1 then true else !r2 then true else !r3 then true else decide (SL.arm s < 1) then true else decide (SL.arm s > 8) then true else decide (SL.fr s < 0) then true else decide (SL.fr s > RG.now r)) (a:=some ((.bool false,[]))) (h.a (q1 _ rfl) (q2 _ rfl) (q3 _ rfl)) (
  .b (SL.fin s==0) (λh5=>
   .r (SL.to s==0) (h.z h5)) λh5=>
  .b (SL.fin s==1) (λh6=>
   .b (SL.fin s==1) (λh7=>
    .r _ (h.m h5)) λh7=>
   .r false (h.d h6 h7)) λh6=>
  .b (SL.fin s==2) (λh8=>
   .r _ (h.m h5)) λh8=>
  .r false (h.n h5 h6 h8))) (by kernel_rfl)
end
noncomputable abbrev Bb:Ent:=du wd lT φBo (rE true)
def vL (r:RG):Nat->Int
 | 0=>0
 | i+1=>(r.ls.getD i default).t
def vx (r:RG):Nat->Int
 | 0=>0
 | i+1=>(r.ss.getD i default).fr
def mQ (q:List (TX×TX)) (l:List AV):Bool:=q.any λp=>cD l [.str p.1,.str p.2]
def mqO (q:List (TX×TX)):AO:=.mp true [.str,.str] (mQ q) λl=>.bool (mQ q l)
noncomputable def opQ (r:RG):Nat->List (TX×TX)
 | 0=>[]
 | i+1=>cond ((r.ss.getD i default).fin !=0) (opQ r i) (((r.ss.getD i default).layer,ar (ofF r.ls) (r.ss.getD i default).id)::opQ r i)
structure VR (r:RG):Prop where
 now:0<=r.now/\r.now<=1099511627776
 nls:r.ls.length<=64
 nss:r.ss.length<=128
 lk:∀i,i < r.ls.length->cC (r.ls.getD i default).a=true/\cC (r.ls.getD i default).b=true/\(r.ls.getD i default).a≠(r.ls.getD i default).b/\vL r i<=(r.ls.getD i default).t/\(r.ls.getD i default).t<=r.now
 sv:∀ {i},i < r.ss.length->SV r.now (r.ss.getD i default)
 sb:∀i,i < r.ss.length->vx r i<=(r.ss.getD i default).fr
 one:∀i j,j < i->i < r.ss.length->(r.ss.getD i default).fin=0->(r.ss.getD j default).fin=0->(r.ss.getD j default).layer=(r.ss.getD i default).layer->ar (ofF r.ls) (r.ss.getD j default).id=ar (ofF r.ls) (r.ss.getD i default).id->False
theorem C5 (a b x y:TX):cD [.str a,.str b] [.str x,.str y]=true->a=x/\b=y:=by
 intro h
 simp [cD,eqC] at h
 exact h
theorem rJ {a b:TX}:∀ {q:List (TX×TX)},mQ q [.str a,.str b]=true->(a,b)∈q
 | [],h=>by cases h
 | p::q,h=>by
  unfold mQ at h
  rw [List.any_cons,Bool.or_eq_true] at h
  rcases h with h | h
  ·obtain ⟨h1,h2⟩:=C5 _ _ _ _ h
   rw [h1,h2];exact List.mem_cons_self
  ·exact List.mem_cons_of_mem _ (rJ h)
theorem B5 (q:List (TX×TX)) (a b:TX):AO.mp true [KD.str,KD.str] (λl=>bif cD l [.str a,.str b] then true else mQ q l) (λl=>bif cD l [.str a,.str b] then .bool true else .bool (mQ q l))=mqO ((a,b)::q):=by
 unfold mqO
 congr 1
 ·funext l
  show _=AV.bool (cD l [.str a,.str b]||mQ q l)
  cases cD l [.str a,.str b] <;> rfl
theorem qa {r:RG} {a b:TX}:∀ {i:Nat},(a,b)∈opQ r i->∃j,j < i/\(r.ss.getD j default).fin=0/\(r.ss.getD j default).layer=a/\ar (ofF r.ls) (r.ss.getD j default).id=b
 | 0,h=>by cases h
 | i+1,h=>by
  unfold opQ at h
  cases hf:(r.ss.getD i default).fin !=0 with
  | true=>
   rw [hf,cond_true] at h
   obtain ⟨j,h1,h2⟩:=qa h
   exact ⟨j,by omega,h2⟩
  | false=>
   rw [hf,cond_false] at h
   rcases List.mem_cons.1 h with h | h
   ·injection h with h1 h2
    exact ⟨i,by omega,by simpa using hf,h1.symm,h2.symm⟩
   ·obtain ⟨j,h1,h2⟩:=qa h
    exact ⟨j,by omega,h2⟩
section
variable {r:RG} {v:Nat}
theorem VR.b (h:VR r):(bif bif bif decide (RG.now r < 0) then true else decide (RG.now r > 1099511627776) then true else decide ((List.length (RG.ls r):Int) > 64) then true else decide ((List.length (RG.ss r):Int) > 128))=false:=by
 have:=h.nls;have:=h.nss;have:=h.now
 rw [decide_eq_false (show ¬ r.now < 0 by omega),decide_eq_false (show ¬ r.now > 1099511627776 by omega),decide_eq_false (show ¬ (r.ls.length:Int) > 64 by omega),decide_eq_false (show ¬ (r.ss.length:Int) > 128 by omega)];rfl
theorem VR.la (h:VR r) (hv:v < r.ls.length) {r2 r3:Bool} (q2:r2=cC (r.ls.getD v default).a) (q3:r3=cC (r.ls.getD v default).b):(bif bif bif bif !r2 then true else !r3 then true else LK.a (List.getD (RG.ls r) v default)==LK.b (List.getD (RG.ls r) v default) then true else decide (LK.t (List.getD (RG.ls r) v default) < vL r v) then true else decide (LK.t (List.getD (RG.ls r) v default) > RG.now r))=false:=by
 obtain ⟨h1,h2,h3,h4,h5⟩:=h.lk v hv
 rw [q2,q3,h1,h2,beq_eq_false_iff_ne.2 h3,decide_eq_false (Int.not_lt.2 h4),decide_eq_false (show ¬ (r.ls.getD v default).t > r.now from Int.not_lt.2 h5)];rfl
theorem VR.sa (h:VR r) (hv:v < r.ss.length) {r2:Bool} {l:List AV} {os:List AO} (q2:rE true l os r2):(bif !r2 then true else decide (SL.fr (List.getD (RG.ss r) v default) < vx r v))=false:=by
 have q2:r2=true:=q2
 rw [q2,decide_eq_false (Int.not_lt.2 (h.sb v hv))];rfl
theorem VR.op (h:VR r) (hv:v < r.ss.length) (h2:((r.ss.getD v default).fin !=0)=false) {x:TX} (q:x=ar (ofF r.ls) (r.ss.getD v default).id):mQ (opQ r v) [.str (SL.layer (List.getD (RG.ss r) v default)),.str x]=false:=by
 cases hm:mQ (opQ r v) [.str (SL.layer (List.getD (RG.ss r) v default)),.str x] with
 | false=>rfl
 | true=>
  obtain ⟨j,h3,h4,h5,h6⟩:=qa (rJ hm)
  exact (h.one v j h3 hv (by simpa using h2) h4 h5 (h6.trans q)).elim
theorem Ec (hl:r.ls.length<=1000000) (hv:v < r.ls.length):{env:=[(1,.ref 1 0),(3,.int .i64 (LK.t (List.getD (RG.ls r) v default))),(33,lkA (RG.ls r)),(34,.int .i64 (List.length (RG.ls r):Int)),(35,.int .i64 (IntKind.wrap .i64 ((v:Int)+1)))],objs:=[(1,.cells (RG.c r))]}=(λv:Nat=>({env:=[(1,.ref 1 0),(3,.int .i64 (vL r v)),(33,lkA r.ls),(34,.int .i64 r.ls.length),(35,.int .i64 (v:Int))],objs:=[(1,.cells r.c)]}:St)) (v+1):=by
 rw [c8 (by omega)];rfl
theorem Eb (hl:r.ss.length<=1000000) (hv:v < r.ss.length):{env:=[(1,.ref 1 0),(3,.int .i64 (SL.fr (List.getD (RG.ss r) v default))),(73,slA (RG.ss r)),(74,.int .i64 (List.length (RG.ss r):Int)),(75,.int .i64 (IntKind.wrap .i64 ((v:Int)+1)))],objs:=[(1,.cells (RG.c r))]}=(λv:Nat=>({env:=[(1,.ref 1 0),(3,.int .i64 (vx r v)),(73,slA r.ss),(74,.int .i64 r.ss.length),(75,.int .i64 (v:Int))],objs:=[(1,.cells r.c)]}:St)) (v+1):=by
 rw [c8 (by omega)];rfl
theorem Ea (hl:r.ss.length<=1000000) (hv:v < r.ss.length) (h2:((r.ss.getD v default).fin !=0)=true):{env:=[(1,.ref 1 0),(8,.mref 92),(94,slA (RG.ss r)),(95,.int .i64 (List.length (RG.ss r):Int)),(96,.int .i64 (IntKind.wrap .i64 ((v:Int)+1)))],objs:=[(1,.cells (RG.c r)),(92,AO.mp true [KD.str,KD.str] (mQ (opQ r v)) λl=>.bool (mQ (opQ r v) l))]}=(λv:Nat=>({env:=[(1,.ref 1 0),(8,.mref 92),(94,slA r.ss),(95,.int .i64 r.ss.length),(96,.int .i64 (v:Int))],objs:=[(1,.cells r.c),(92,mqO (opQ r v))]}:St)) (v+1):=by
 show _=({env:=[(1,.ref 1 0),(8,.mref 92),(94,slA r.ss),(95,.int .i64 r.ss.length),(96,.int .i64 ((v+1:Nat):Int))],objs:=[(1,.cells r.c),(92,mqO (opQ r (v+1)))]}:St)
 rw [c8 (by omega),show opQ r (v+1)=opQ r v by rw [opQ,h2];rfl];rfl
theorem D9 (hl:r.ss.length<=1000000) (hv:v < r.ss.length) (h2:((r.ss.getD v default).fin !=0)=false) {x:TX} (q:x=ar (ofF r.ls) (r.ss.getD v default).id):{env:=[(1,.ref 1 0),(8,.mref 92),(94,slA (RG.ss r)),(95,.int .i64 (List.length (RG.ss r):Int)),(96,.int .i64 (IntKind.wrap .i64 ((v:Int)+1)))],objs:=[(1,.cells (RG.c r)),(92,AO.mp true [KD.str,KD.str] (λl=>bif cD l [.str (SL.layer (List.getD (RG.ss r) v default)),.str x] then true else mQ (opQ r v) l) λl=>bif cD l [.str (SL.layer (List.getD (RG.ss r) v default)),.str x] then .bool true else .bool (mQ (opQ r v) l))]}=(λv:Nat=>({env:=[(1,.ref 1 0),(8,.mref 92),(94,slA r.ss),(95,.int .i64 r.ss.length),(96,.int .i64 (v:Int))],objs:=[(1,.cells r.c),(92,mqO (opQ r v))]}:St)) (v+1):=by
 show _=({env:=[(1,.ref 1 0),(8,.mref 92),(94,slA r.ss),(95,.int .i64 r.ss.length),(96,.int .i64 ((v+1:Nat):Int))],objs:=[(1,.cells r.c),(92,mqO (opQ r (v+1)))]}:St)
 rw [c8 (by omega),B5,show opQ r (v+1)=_ by rw [opQ,h2],q];rfl
end
theorem Em {r:RG} (h:VR r):∃ (u:St->Bool) (w:St->Unit),(∀v:Nat,v<=r.ls.length->cg u w ((λv:Nat=>({env:=[(1,.ref 1 0),(3,.int .i64 (vL r v)),(33,lkA r.ls),(34,.int .i64 r.ls.length),(35,.int .i64 (v:Int))],objs:=[(1,.cells r.c)]}:St)) v) λ_=>True)/\∀L:List (List Nat×Orc),bW (V0.run [kG,Bb,eRo] 1 [] L [] cL) cL [1,1,1,0,1,0] (mkO u w λ_ k=>k (.exit 0) {env:=[(1,.ref 1 0)],objs:=[(1,.cells r.c)]}):=
 c6 (Lf:=λL=>L) (λv:Nat=>{env:=[(1,.ref 1 0),(3,.int .i64 (vL r v)),(33,lkA r.ls),(34,.int .i64 r.ls.length),(35,.int .i64 (v:Int))],objs:=[(1,.cells r.c)]}) (λv=>v<=r.ls.length) (λv=>r.ls.length - v) (λ(_:Unit) k=>k (.exit 0) {env:=[(1,.ref 1 0)],objs:=[(1,.cells r.c)]}) (λ_=>True) (by kernel_rfl) (λv hv=>.b (decide ((↑v:Int) < (↑(List.length (RG.ls r)):Int))) (λh1=>
   .n (c:=within (↑v:Int) (List.length (RG.ls r))) (bJ (bF h1)) (
   .call (dP _) λr2 q2=>
   .call (dP _) λr3 q3=>
   .no (c:=bif bif bif bif !r2 then true else !r3 then true else LK.a (List.getD (RG.ls r) v default)==LK.b (List.getD (RG.ls r) v default) then true else decide (LK.t (List.getD (RG.ls r) v default) < vL r v) then true else decide (LK.t (List.getD (RG.ls r) v default) > RG.now r)) (A:=λ_ k kn=>k (.ret) ({env:=[(2,.bool false)],objs:=[]})) (h.la (bF h1) (q2 _ rfl) (q3 _ rfl)) (
   .go {env:=[(1,.ref 1 0),(3,.int .i64 (LK.t (List.getD (RG.ls r) v default))),(33,lkA (RG.ls r)),(34,.int .i64 (↑(List.length (RG.ls r)):Int)),(35,.int .i64 (IntKind.wrap .i64 ((↑v:Int)+1)))],objs:=[(1,.cells (RG.c r))]} (v+1) (bF h1) (o9 (bF h1)) (Ec (by have:=h.nls;omega) (bF h1))))) λh1=>
  .fi () trivial) (λv L k kn=>by kernel_rfl)
theorem El {r:RG} (h:VR r):∃ (u:St->Bool) (w:St->Unit),(∀v:Nat,v<=r.ss.length->cg u w ((λv:Nat=>({env:=[(1,.ref 1 0),(3,.int .i64 (vx r v)),(73,slA r.ss),(74,.int .i64 r.ss.length),(75,.int .i64 (v:Int))],objs:=[(1,.cells r.c)]}:St)) v) λ_=>True)/\∀L:List (List Nat×Orc),bW (V0.run [kG,Bb,eRo] 1 [] L [] cL) cL [1,1,1,1,1,0,1,0] (mkO u w λ_ k=>k (.exit 2) {env:=[(1,.ref 1 0)],objs:=[(1,.cells r.c)]}):=
 c6 (Lf:=λL=>L) (λv:Nat=>{env:=[(1,.ref 1 0),(3,.int .i64 (vx r v)),(73,slA r.ss),(74,.int .i64 r.ss.length),(75,.int .i64 (v:Int))],objs:=[(1,.cells r.c)]}) (λv=>v<=r.ss.length) (λv=>r.ss.length - v) (λ(_:Unit) k=>k (.exit 2) {env:=[(1,.ref 1 0)],objs:=[(1,.cells r.c)]}) (λ_=>True) (by kernel_rfl) (λv hv=>.b (decide ((↑v:Int) < (↑(List.length (RG.ss r)):Int))) (λh1=>
   .n (c:=within (↑v:Int) (List.length (RG.ss r))) (bJ (bF h1)) (
   .call (zy (h.sv (bF h1))) λr2 q2=>
   .no (c:=bif !r2 then true else decide (SL.fr (List.getD (RG.ss r) v default) < vx r v)) (A:=λ_ k kn=>k (.ret) ({env:=[(2,.bool false)],objs:=[]})) (h.sa (bF h1) q2) (
   .go {env:=[(1,.ref 1 0),(3,.int .i64 (SL.fr (List.getD (RG.ss r) v default))),(73,slA (RG.ss r)),(74,.int .i64 (↑(List.length (RG.ss r)):Int)),(75,.int .i64 (IntKind.wrap .i64 ((↑v:Int)+1)))],objs:=[(1,.cells (RG.c r))]} (v+1) (bF h1) (o9 (bF h1)) (Eb (by have:=h.nss;omega) (bF h1))))) λh1=>
  .fi () trivial) (λv L k kn=>by kernel_rfl)
theorem Ek {r:RG} (h:VR r):∃ (u:St->Bool) (w:St->Unit),(∀v:Nat,v<=r.ss.length->cg u w ((λv:Nat=>({env:=[(1,.ref 1 0),(8,.mref 92),(94,slA r.ss),(95,.int .i64 r.ss.length),(96,.int .i64 (v:Int))],objs:=[(1,.cells r.c),(92,mqO (opQ r v))]}:St)) v) λ_=>True)/\∀L:List (List Nat×Orc),bW (V0.run [kG,Bb,eRo] 1 [] L [] cL) cL [1,1,1,1,1,1,1,0,1,0] (mkO u w λ_ k=>k (.exit 4) {env:=[],objs:=[]}):=
 c6 (Lf:=λL=>L) (λv:Nat=>{env:=[(1,.ref 1 0),(8,.mref 92),(94,slA r.ss),(95,.int .i64 r.ss.length),(96,.int .i64 (v:Int))],objs:=[(1,.cells r.c),(92,mqO (opQ r v))]}) (λv=>v<=r.ss.length) (λv=>r.ss.length - v) (λ(_:Unit) k=>k (.exit 4) {env:=[],objs:=[]}) (λ_=>True) (by kernel_rfl) (λv hv=>.b (decide ((↑v:Int) < (↑(List.length (RG.ss r)):Int))) (λh1=>
   .n (c:=within (↑v:Int) (List.length (RG.ss r))) (bJ (bF h1)) (
   .b (SL.fin (List.getD (RG.ss r) v default) !=0) (λh2=>
    .go {env:=[(1,.ref 1 0),(8,.mref 92),(94,slA (RG.ss r)),(95,.int .i64 (↑(List.length (RG.ss r)):Int)),(96,.int .i64 (IntKind.wrap .i64 ((↑v:Int)+1)))],objs:=[(1,.cells (RG.c r)),(92,AO.mp true [KD.str,KD.str] (mQ (opQ r v)) λl=>.bool (mQ (opQ r v) l))]} (v+1) (bF h1) (o9 (bF h1)) (Ea (by have:=h.nss;omega) (bF h1) h2)) λh2=>
   .call (nH _ _ (by have:=h.nls;omega)) λr3 q3=>
   .no (c:=mQ (opQ r v) [.str (SL.layer (List.getD (RG.ss r) v default)),.str r3]) (A:=λ_ k kn=>cond (mQ (opQ r v) [.str (SL.layer (List.getD (RG.ss r) v default)),.str r3]) (k (.ret) ({env:=[(2,.bool false)],objs:=[]})) (kn ({env:=[(1,.ref 1 0),(8,.mref 92),(94,slA (RG.ss r)),(95,.int .i64 (↑(List.length (RG.ss r)):Int)),(96,.int .i64 (IntKind.wrap .i64 ((↑v:Int)+1)))],objs:=[(1,.cells (RG.c r)),(92,AO.mp true [KD.str,KD.str] (λl=>bif cD l [.str (SL.layer (List.getD (RG.ss r) v default)),.str r3] then true else mQ (opQ r v) l) λl=>bif cD l [.str (SL.layer (List.getD (RG.ss r) v default)),.str r3] then .bool true else .bool (mQ (opQ r v) l))]}))) (h.op (bF h1) h2 q3.eq) (
   .go {env:=[(1,.ref 1 0),(8,.mref 92),(94,slA (RG.ss r)),(95,.int .i64 (↑(List.length (RG.ss r)):Int)),(96,.int .i64 (IntKind.wrap .i64 ((↑v:Int)+1)))],objs:=[(1,.cells (RG.c r)),(92,AO.mp true [KD.str,KD.str] (λl=>bif cD l [.str (SL.layer (List.getD (RG.ss r) v default)),.str r3] then true else mQ (opQ r v) l) λl=>bif cD l [.str (SL.layer (List.getD (RG.ss r) v default)),.str r3] then .bool true else .bool (mQ (opQ r v) l))]} (v+1) (bF h1) (o9 (bF h1)) (D9 (by have:=h.nss;omega) (bF h1) h2 q3.eq)))) λh1=>
  .fi () trivial) (λv L k kn=>by kernel_rfl)
theorem Ed {r:RG} {u:St->Bool} {w:St->Unit} {Q:Unit->Prop} (hu:∀v:Nat,v<=r.ss.length->cg u w ((λv:Nat=>({env:=[(1,.ref 1 0),(8,.mref 92),(94,slA r.ss),(95,.int .i64 r.ss.length),(96,.int .i64 (v:Int))],objs:=[(1,.cells r.c),(92,mqO (opQ r v))]}:St)) v) Q):cg u w {env:=[(1,.ref 1 0),(8,.mref 92),(94,slA (RG.ss r)),(95,.int .i64 (List.length (RG.ss r):Int)),(96,.int .i64 0)],objs:=[(1,.cells (RG.c r)),(92,AO.mp true [KD.str,KD.str] (λx=>false) λx=>.bool false)]} Q:=hu 0 (Nat.zero_le _)
theorem tH {r:RG} (h:VR r):bo wd cL φBo (rE true) [rgA r] []:=by
 obtain ⟨u1,w1,hu1,hc1⟩:=Em h
 obtain ⟨u2,w2,hu2,hc2⟩:=El h
 obtain ⟨u3,w3,hu3,hc3⟩:=Ek h
 exact a7 (V:=V0) (T:=[kG,Bb,eRo]) (d:=1) 0 (aZ (hc1 _) (aZ (hc2 _) (aZ (hc3 _) aq))) ao (.no (c:=bif bif bif decide (RG.now r < 0) then true else decide (RG.now r > 1099511627776) then true else decide ((↑(List.length (RG.ls r)):Int) > 64) then true else decide ((↑(List.length (RG.ss r)):Int) > 128)) (a:=some ((.bool false,[]))) (h.b) (
  .lp (hu1 0 (Nat.zero_le _)) λr2 q2=>
  .lp (hu2 0 (Nat.zero_le _)) λr3 q3=>
  .lp (Ed hu3) λr4 q4=>
  .r true rfl)) (by kernel_rfl)
noncomputable abbrev eVa:Ent:=du wd cL φBo (rE true)
end Go.WF

namespace Go.WF
open Go Go.Ab Go.Proofs
set_option linter.unusedSectionVars false
abbrev CUX:Type:=Bool×TX×RG×TX
def φCu (x:CUX):AV×List AO:=(.bool x.1,[.cells [.str x.2.1],.cells x.2.2.1.c,.cells [.str x.2.2.2] ])
abbrev CIX:Type:=Int×TX×RG×TX
def φCi (x:CIX):AV×List AO:=(.int .i64 x.1,[.cells [.str x.2.1],.cells x.2.2.1.c,.cells [.str x.2.2.2] ])
theorem DF {x:Bool} {l:List AV} {os:List AO} (q:rE true l os x):(!x)=false:=by have q:x=true:=q;rw [q];rfl
theorem EK {r:RG} {n:Int} (h:r.now<=n/\n<=1099511627776):(bif decide (n < RG.now r) then true else decide (n > 1099511627776))=false:=by
 rw [decide_eq_false (show ¬ n < r.now by omega),decide_eq_false (show ¬ n > 1099511627776 by omega)];rfl
theorem zG {r:RG} {n:Int} (h:VR r) (hn:r.now<=n/\n<=1099511627776):bo wd kP φIn (rE 0) [rgA r,.int .i64 n] []:=
 a7 (V:=V0) (T:=[eVa]) (d:=1) 0 aq ao (.call (tH h) λr1 q1=>
  .no (c:=!r1) (a:=some ((.int .i64 25,[]))) (DF q1) (
  .no (c:=bif decide (n < RG.now r) then true else decide (n > 1099511627776)) (a:=some ((.int .i64 26,[]))) (EK hn) (
  .r _ rfl))) (by kernel_rfl)
noncomputable abbrev eRd:Ent:=du wd kP φIn (rE 0)
def FI (p:Nat->Bool) (n:Nat) (x:Int):Prop:=(∃i:Nat,x=i/\i < n/\p i=true/\∀j,j < i->p j=false)∨(x = -1/\∀j,j < n->p j=false)
noncomputable def y9 (r:RG) (y z:TX) (s:SL):Bool:=bif bif s.fin==0 then s.layer==y else false then ar (ofF r.ls) s.id==z else false
def rCu (l:List AV) (os:List AO) (x:CUX):Prop:=∀s y z r,l=[.agg (SL.c s),.ref ae 0,.ref (ae+1) 0,.ref (ae+2) 0]->os=[.cells [.str y],.cells (RG.c r),.cells [.str z]]->x=(y9 r y z s,y,r,z)
theorem rCu.mk {s:SL} {y z:TX} {r:RG} {x:TX} (h:x=ar (ofF r.ls) s.id):rCu [.agg s.c,.ref ae 0,.ref (ae+1) 0,.ref (ae+2) 0] [.cells [.str y],.cells r.c,.cells [.str z]] (bif bif s.fin==0 then s.layer==y else false then x==z else false,y,r,z):=λs' y' z' r' h1 h2=>by
 injection h1 with h1 _
 injection h1 with h1
 injection h2 with h2 h3
 injection h3 with h3 h4
 injection h4 with h4 _
 injection h2 with h2
 injection h2 with h2 _
 injection h2 with h2
 injection h3 with h3
 injection h4 with h4
 injection h4 with h4 _
 injection h4 with h4
 rw [<-SL.ju h1,<-RG.ju h3,<-h2,<-h4,h];rfl
theorem rCu.eq {s:SL} {y z:TX} {r:RG} {x:CUX} (h:rCu [.agg s.c,.ref ae 0,.ref (ae+1) 0,.ref (ae+2) 0] [.cells [.str y],.cells r.c,.cells [.str z]] x):x=(y9 r y z s,y,r,z):=h s y z r rfl rfl
theorem De (s:SL) (y z:TX) (r:RG) (hl:r.ls.length<=1000000):bo wd aW φCu rCu [.agg s.c,.ref ae 0,.ref (ae+1) 0,.ref (ae+2) 0] [.cells [.str y],.cells r.c,.cells [.str z]]:=
 a7 (V:=V0) (T:=[eRo]) (d:=1) 1 aq ao (.call (nH _ _ hl) λr1 q1=>
  .r (bif bif s.fin==0 then s.layer==y else false then r1==z else false,y,r,z) (rCu.mk q1.eq)) (by kernel_rfl)
noncomputable abbrev DR:Ent:=du wd aW φCu rCu
section
variable {l:List SL} {y z:TX} {r:RG} {v:Nat}
noncomputable abbrev pIx (r:RG) (y z:TX) (l:List SL) (j:Nat):Bool:=y9 r y z (l.getD j default)
def IxI (r:RG) (y z:TX) (l:List SL) (v:Nat):Prop:=v<=l.length/\∀j,j < v->pIx r y z l j=false
def IxP (r:RG) (y z:TX) (l:List SL) (t:Bool×CIX):Prop:=(t.1=true/\FI (pIx r y z l) l.length t.2.1/\t.2.2=(y,r,z))∨(t.1=false/\t.2.2=(y,r,z)/\∀j,j < l.length->pIx r y z l j=false)
abbrev CUQ (r:RG) (y z:TX) (l:List SL) (v:Nat) (t:CUX):Prop:=rCu [.agg (l.getD v default).c,.ref ae 0,.ref (ae+1) 0,.ref (ae+2) 0] [.cells [.str y],.cells r.c,.cells [.str z]] t
theorem E6 (hv:IxI r y z l v) (h:v < l.length) {t:CUX} (q:CUQ r y z l v t) (ht:t.1=true):IxP r y z l (true,(v:Int),t.2):=by
 have:=q.eq
 subst this
 exact .inl ⟨rfl,.inl ⟨v,rfl,h,ht,hv.2⟩,rfl⟩
theorem E5 (hv:IxI r y z l v) (h:v < l.length) {t:CUX} (q:CUQ r y z l v t) (ht:t.1=false):IxI r y z l (v+1):=by
 have:=q.eq
 subst this
 refine ⟨h,λj hj=>?_⟩
 by_cases e:j < v
 ·exact hv.2 j e
 ·obtain rfl:j=v:=by omega
  exact ht
theorem E7 (hv:IxI r y z l v) (h:l.length<=v):IxP r y z l (false,-1,y,r,z):=.inr ⟨rfl,rfl,λj hj=>hv.2 j (by omega)⟩
theorem E4 (hl:l.length<=1000000) (h:v < l.length) {t:CUX} (q:CUQ r y z l v t):{env:=[(0,slA l),(1,.fn aW [] [.ref 1000000 0,.ref 1000001 0,.ref 1000002 0]),(7,.int .i64 (List.length l:Int)),(8,.int .i64 (IntKind.wrap .i64 ((v:Int)+1)))],objs:=[(1000000,.cells [.str t.2.1]),(1000001,.cells (RG.c t.2.2.1)),(1000002,.cells [.str t.2.2.2])]}=(λv:Nat=>({env:=[(0,slA l),(1,.fn aW [] [.ref 1000000 0,.ref 1000001 0,.ref 1000002 0]),(7,.int .i64 l.length),(8,.int .i64 (v:Int))],objs:=[(1000000,.cells [.str y]),(1000001,.cells r.c),(1000002,.cells [.str z])]}:St)) (v+1):=by
 have:=q.eq
 subst this
 rw [c8 (by omega)]
theorem E9 {t:Bool×CIX} (q:IxP r y z l t) (h:t.1=true):FI (pIx r y z l) l.length t.2.1/\t.2.2=(y,r,z):=by
 rcases q with q | q
 ·exact q.2
 ·rw [h] at q;cases q.1
theorem E8 {t:Bool×CIX} (q:IxP r y z l t) (h:t.1=false):FI (pIx r y z l) l.length (-1)/\t.2.2=(y,r,z):=by
 rcases q with q | q
 ·rw [h] at q;cases q.1
 ·exact ⟨.inr ⟨rfl,q.2.2⟩,q.2.1⟩
end
theorem yd (l:List SL) (y z:TX) (r:RG) (hr:r.ls.length<=1000000) (hl:l.length<=1000000):∃ (u:St->Bool) (w:St->Bool×CIX),(∀v:Nat,IxI r y z l v->cg u w ((λv:Nat=>({env:=[(0,slA l),(1,.fn aW [] [.ref 1000000 0,.ref 1000001 0,.ref 1000002 0]),(7,.int .i64 l.length),(8,.int .i64 (v:Int))],objs:=[(1000000,.cells [.str y]),(1000001,.cells r.c),(1000002,.cells [.str z])]}:St)) v) (IxP r y z l))/\∀L:List (List Nat×Orc),bW (V0.run [DR] 1 [] L [] dp) dp [1,0,1,0] (mkO u w (λ(t:Bool×CIX) k=>cond t.1 (k .ret {env:=[(4,.int .i64 t.2.1)],objs:=[(1000000,.cells [.str t.2.2.1]),(1000001,.cells t.2.2.2.1.c),(1000002,.cells [.str t.2.2.2.2])]}) (k (.exit 0) {env:=[],objs:=[(1000000,.cells [.str t.2.2.1]),(1000001,.cells t.2.2.2.1.c),(1000002,.cells [.str t.2.2.2.2])]}))):=
 c6 (Lf:=λL=>L) (λv:Nat=>{env:=[(0,slA l),(1,.fn aW [] [.ref 1000000 0,.ref 1000001 0,.ref 1000002 0]),(7,.int .i64 l.length),(8,.int .i64 (v:Int))],objs:=[(1000000,.cells [.str y]),(1000001,.cells r.c),(1000002,.cells [.str z])]}) (IxI r y z l) (λv=>l.length - v) (λ(t:Bool×CIX) k=>cond t.1 (k .ret {env:=[(4,.int .i64 t.2.1)],objs:=[(1000000,.cells [.str t.2.2.1]),(1000001,.cells t.2.2.2.1.c),(1000002,.cells [.str t.2.2.2.2])]}) (k (.exit 0) {env:=[],objs:=[(1000000,.cells [.str t.2.2.1]),(1000001,.cells t.2.2.2.1.c),(1000002,.cells [.str t.2.2.2.2])]})) (IxP r y z l) (by kernel_rfl) (λv hv=>.b (decide ((↑v:Int) < (↑(List.length l):Int))) (λh1=>
   .n (c:=within (↑v:Int) (List.length l)) (bJ (bF h1)) (
   .call (De _ y z r hr) λr2 q2=>
   .b (r2.1) (λh3=>
    .fi (true,(v:Int),r2.2) (E6 hv (bF h1) q2 h3)) λh3=>
   .go {env:=[(0,slA l),(1,.fn aW [] [.ref 1000000 0,.ref 1000001 0,.ref 1000002 0]),(7,.int .i64 (↑(List.length l):Int)),(8,.int .i64 (IntKind.wrap .i64 ((↑v:Int)+1)))],objs:=[(1000000,.cells [.str r2.2.1]),(1000001,.cells (RG.c r2.2.2.1)),(1000002,.cells [.str r2.2.2.2])]} (v+1) (E5 hv (bF h1) q2 h3) (o9 (bF h1)) (E4 hl (bF h1) q2))) λh1=>
  .fi (false,-1,y,r,z) (E7 hv (lJ h1))) (λv L k kn=>by kernel_rfl)
def rIx (l:List AV) (os:List AO) (x:CIX):Prop:=∀s y z r,l=[slA s,.fn aW [] [.ref ae 0,.ref (ae+1) 0,.ref (ae+2) 0]]->os=[.cells [.str y],.cells (RG.c r),.cells [.str z]]->FI (pIx r y z s) s.length x.1/\x.2=(y,r,z)
theorem rIx.mk {s:List SL} {y z:TX} {r:RG} {x:CIX} (h:FI (pIx r y z s) s.length x.1/\x.2=(y,r,z)):rIx [slA s,.fn aW [] [.ref ae 0,.ref (ae+1) 0,.ref (ae+2) 0]] [.cells [.str y],.cells r.c,.cells [.str z]] x:=λs' y' z' r' h1 h2=>by
 injection h1 with h1 _
 injection h2 with h2 h3
 injection h3 with h3 h4
 injection h4 with h4 _
 injection h2 with h2
 injection h2 with h2 _
 injection h2 with h2
 injection h3 with h3
 injection h4 with h4
 injection h4 with h4 _
 injection h4 with h4
 rw [<-pR h1,<-RG.ju h3,<-h2,<-h4];exact h
theorem CB (l:List SL) (y z:TX) (r:RG) (hr:r.ls.length<=1000000) (hl:l.length<=1000000):bo wd dp φCi rIx [slA l,.fn aW [] [.ref ae 0,.ref (ae+1) 0,.ref (ae+2) 0]] [.cells [.str y],.cells r.c,.cells [.str z]]:=by
 obtain ⟨u,w,hu,hc⟩:=yd l y z r hr hl
 exact (a7 (V:=V0) (T:=[DR]) (d:=1) (R:=λ_ _ x=>FI (pIx r y z l) l.length x.1/\x.2=(y,r,z)) 1 (aZ (hc _) aq) ao (.lp (hu 0 ⟨Nat.zero_le _,λj h=>absurd h (Nat.not_lt_zero _)⟩) λr1 q1=>
  .b (r1.1) (λh2=>
   .r r1.2 (E9 q1 h2)) λh2=>
  .r (-1,r1.2.2) (E8 q1 h2)) (by kernel_rfl)).mono λx hx=>rIx.mk hx
noncomputable abbrev eIx:Ent:=du wd dp φCi rIx
def vI (l:List AV) (_:List AO) (x:Int):Prop:=∀r a y,l=[rgA r,.str a,.str y]->FI (pIx r y (ar (ofF r.ls) a) r.ss) r.ss.length x
theorem vI.mk {r:RG} {a y x:TX} {t:CIX} {os:List AO} (h:x=ar (ofF r.ls) a) (q:rIx [slA r.ss,.fn aW [] [.ref ae 0,.ref (ae+1) 0,.ref (ae+2) 0]] [.cells [.str y],.cells r.c,.cells [.str x]] t):vI [rgA r,.str a,.str y] os t.1:=λr' a' y' h1=>by
 injection h1 with h1 h2
 injection h2 with h2 h3
 injection h3 with h3 _
 injection h2 with h2
 injection h3 with h3
 have:=(q r.ss y x r rfl rfl).1
 rw [h] at this
 rw [<-gT h1,<-h2,<-h3];exact this
theorem xq (r:RG) (a y:TX) (h1:r.ls.length<=1000000) (h2:r.ss.length<=1000000):bo wd iW φIn vI [rgA r,.str a,.str y] []:=
 a7 (V:=V0) (T:=[eRo,eIx]) (d:=1) 0 aq ao (.call (nH _ _ h1) λr1 q1=>
  .call (CB r.ss y r1 r h1 h2) λr2 q2=>
  .r r2.1 (vI.mk q1.eq q2)) (by kernel_rfl)
noncomputable abbrev Bc:Ent:=du wd iW φIn vI
end Go.WF

namespace Go.WF
open Go Go.Ab Go.Proofs
set_option linter.unusedSectionVars false
def vM (ks:List Nat) (h:Hint):Hint:={h with objs:=h.objs++ks}
noncomputable def VAs:Env:={V0 with grow:=onD [158],hint:=λf t=>cond (Nat.beq f 21) (vM [55,100055] (V0.hint f t)) (V0.hint f t),trim:=λf p=>cond (Nat.beq f 21) ((V0.trim f p).map (vM [55,100055])) (V0.trim f p)}
noncomputable instance envAs:EnvOk VAs wd:=⟨rfl,rfl,gX,ig⟩
abbrev ASX:Type:=RG×SL×Int
def φAs (x:ASX):AV×List AO:=(.tup [rgA x.1,.agg x.2.1.c,.int .i64 x.2.2],[])
abbrev rg0:RG:=⟨0,[],[]⟩
def lK (id al ax:TX) (aa n:Int):SL:=⟨id,al,ax,aa,n,0,0⟩
def AsR (r:RG) (id al ax:TX) (aa:Int) (ah:Bool) (n:Int) (x:ASX):Prop:=
 (x.2.2=6/\(cC id&&cC al)=false)∨(x.2.2=11/\(ah||(!cC ax||(decide (aa < 1)||decide (aa > 8))))=true) ∨
 (x.2.2=0/\x.1=⟨n,r.ls,r.ss⟩/\∃i:Nat,i < r.ss.length/\x.2.1=r.ss.getD i default) ∨
 (x.2.2=0/\cC id=true/\cC al=true/\cC ax=true/\1<=aa/\aa<=8/\(∀j,j < r.ss.length->pIx r al (ar (ofF r.ls) id) r.ss j=false)/\x.1=⟨n,r.ls,r.ss++[lK id al ax aa n]⟩/\x.2.1=lK id al ax aa n)
section
variable {r:RG} {id al ax z:TX} {ab aa n:Int} {ah:Bool} {v:Nat}
theorem D6 {x:Int} {l:List AV} {os:List AO} (q:rE 0 l os x):(x !=0)=false:=by have q:x=0:=q;rw [q];rfl
theorem FI.lt {p:Nat->Bool} {m:Nat} {x:Int} (h:FI p m x) (h0:decide (x≥0)=true):∃i:Nat,x=i/\i < m:=by
 have h0:=of_decide_eq_true h0
 rcases h with ⟨i,h1,h2,_⟩ | ⟨h1,_⟩
 ·exact ⟨i,h1,h2⟩
 ·omega
theorem D4 {x:Int} {os:List AO} (q:vI [rgA r,.str id,.str al] os x) (h0:decide (x≥0)=true):within x r.ss.length=true:=by
 obtain ⟨i,h1,h2⟩:=(q r id al rfl).lt h0
 rw [h1];exact bJ h2
theorem D5 {x:RG} (q:x=⟨n,r.ls,r.ss⟩):(Nat.beq 7 7&&Nat.beq (List.length (RG.ss x)) (List.length (RG.ss x)))=true:=by simp
theorem Dr {x y:Bool} (h1:x=cC id) (h2:y=cC al) (h:(bif !x then true else !y)=true):AsR r id al ax aa ah n (rg0,default,6):=.inl ⟨rfl,by
 rw [h1,h2] at h
 revert h;cases cC id <;> cases cC al <;> simp⟩
theorem Ds {x:RG} {y:Int} {os:List AO} (q:x=⟨n,r.ls,r.ss⟩) (h:vI [rgA r,.str id,.str al] os y) (h0:decide (y≥0)=true):AsR r id al ax aa ah n (x,r.ss.getD (Int.toNat y) default,0):=by
 obtain ⟨i,h1,h2⟩:=(h r id al rfl).lt h0
 subst h1
 exact .inr (.inr (.inl ⟨rfl,q,i,h2,rfl⟩))
theorem Dq {x:Bool} (h1:x=cC ax) (h:(bif bif bif ah then true else !x then true else decide (aa < 1) then true else decide (aa > 8))=true):AsR r id al ax aa ah n (rg0,default,11):=.inr (.inl ⟨rfl,by
 rw [h1] at h
 revert h;cases ah <;> cases cC ax <;> cases decide (aa < 1) <;> cases decide (aa > 8) <;> simp⟩)
theorem Dt {x y w:Bool} {i:Int} {os:List AO} (h1:x=cC id) (h2:y=cC al) (h:(bif !x then true else !y)=false) (q:vI [rgA r,.str id,.str al] os i) (h0:decide (i≥0)=false) (h3:w=cC ax) (h4:(bif bif bif ah then true else !w then true else decide (aa < 1) then true else decide (aa > 8))=false):AsR r id al ax aa ah n (⟨n,r.ls,r.ss++[lK id al ax aa n]⟩,lK id al ax aa n,0):=by
 rw [h1,h2] at h
 rw [h3] at h4
 have k1:cC id=true:=by revert h;cases cC id <;> simp
 have k2:cC al=true:=by revert h;cases cC al <;> cases cC id <;> simp
 have k3:cC ax=true:=by revert h4;cases ah <;> cases cC ax <;> simp
 have k4:decide (aa < 1)=false:=by revert h4;cases ah <;> cases cC ax <;> cases decide (aa < 1) <;> simp
 have k5:decide (aa > 8)=false:=by revert h4;cases ah <;> cases cC ax <;> cases decide (aa < 1) <;> cases decide (aa > 8) <;> simp
 have k4:=of_decide_eq_false k4
 have k5:=of_decide_eq_false k5
 refine .inr (.inr (.inr ⟨rfl,k1,k2,k3,by omega,by omega,?_,rfl,rfl⟩))
 rcases q r id al rfl with ⟨j,e,_⟩ | ⟨_,e⟩
 ·have:=of_decide_eq_false h0;omega
 ·exact e
theorem nz {a a' b b' c c':AV} {os:List AO} (ha:∀k v,Rep k a v->Rep k a' v) (hb:∀k v,Rep k b v->Rep k b' v) (hc:∀k v,Rep k c v->Rep k c' v) (hk:ak [a',b',c']=[]):Tr (.tup [a,b,c],os) (.tup [a',b',c'],os):=by
 refine ⟨.inr ⟨hk,λk v h=>?_⟩,.inl rfl⟩
 cases h with
 | tup _ vs h1 h2=>
  refine .tup _ vs h1 λi u hu=>?_
  match i,hu with
  | 0,hu=>injection hu with hu;subst hu;exact ha _ _ (h2 0 _ rfl)
  | 1,hu=>injection hu with hu;subst hu;exact hb _ _ (h2 1 _ rfl)
  | 2,hu=>injection hu with hu;subst hu;exact hc _ _ (h2 2 _ rfl)
theorem AY (e:Int):Tr (.tup [.agg [.int .i64 0,.sl .fit 0 0 λx=>[],.sl .fit 0 0 λx=>[]],.agg [.str [],.str [],.str [],.int .i64 0,.int .i64 0,.int .i64 0,.int .i64 0],.int .i64 e],[]) (φAs (rg0,default,e)):=
 nz (λk v h=>fH (.cons (.same rfl) (.cons bZ (.cons bZ .nil))) h) (λk v h=>h) (λk v h=>h) rfl
theorem e9 {α:Type} [Inhabited α] {l:List α} {a:α} {j:Nat} (h:j < l.length):(l++[a]).getD j default=l.getD j default:=by
 rw [List.getD_eq_getElem?_getD,List.getD_eq_getElem?_getD,List.getElem?_append_left h]
theorem fw {α:Type} [Inhabited α] {l:List α} {a:α}:(l++[a]).getD l.length default=a:=by simp [List.getD_eq_getElem?_getD]
theorem Dv:Tr (.tup [.agg [.int .i64 n,lkA (RG.ls r),.sl .no 7 (List.length (RG.ss r)+1) (ay (List.length (RG.ss r)) 1 (λj=>(SL.c (List.getD (RG.ss r) j default))) (ai [.str [],.str [],.str [],.int .i64 0,.int .i64 0,.int .i64 0,.int .i64 0] [(0,.agg [.str id,.str al,.str ax,.int .i64 aa,.int .i64 n,.int .i64 0,.int .i64 0])]))],.agg [.str id,.str al,.str ax,.int .i64 aa,.int .i64 n,.int .i64 0,.int .i64 0],.int .i64 0],[]) (φAs (⟨n,r.ls,r.ss++[lK id al ax aa n]⟩,lK id al ax aa n,0)):=by
 refine nz (λk v h=>?_) (λk v h=>h) (λk v h=>h) rfl
 have e:slA (r.ss++[lK id al ax aa n])=.sl .no 7 (r.ss.length+1) λj=>((r.ss++[lK id al ax aa n]).getD j default).c:=by unfold slA;simp
 unfold rgA RG.c
 dsimp only
 rw [e]
 refine fH (.cons (.same rfl) (.cons (.same rfl) (.cons (eE λj hj=>?_) .nil))) h
 by_cases hj':j < r.ss.length
 ·rw [cU hj',e9 hj']
 ·obtain rfl:j=r.ss.length:=by omega
  rw [dy (Nat.le_refl _) (by omega),Nat.sub_self,fw];rfl
theorem FZ (h:VR r) (hn:r.now<=n/\n<=1099511627776) (hv:v < r.ss.length) {x:TX}:(bif bif bif SL.layer (List.getD (RG.ss r) v default)==al then SL.fin (List.getD (RG.ss r) v default) !=0 else false then decide (IntKind.wrap .i64 (n - SL.to (List.getD (RG.ss r) v default)) < 0) else false then x==z else false)=false:=by
 have hs:=h.sv hv
 have h1:=hs.fin
 have h2:=hs.fr
 have h3:0<=(r.ss.getD v default).to/\(r.ss.getD v default).to<=r.now:=by omega
 rw [wrap_i64 (by omega) (by omega),decide_eq_false (show ¬ n - (r.ss.getD v default).to < 0 by omega)]
 cases SL.layer (List.getD (RG.ss r) v default)==al <;> cases SL.fin (List.getD (RG.ss r) v default) !=0 <;> rfl
abbrev asS (r:RG) (id al ax z:TX) (ab aa:Int) (ah:Bool) (n:Int) (v:Nat):St:={env:=[(1,.str id),(3,.int .i64 0),(4,.int .i64 n),(5,.ref 5 0),(7,.ref 7 0),(10,.ref 10 0),(11,.ref 11 0),(13,.fn 62 [] []),(15,.ref 15 0),(17,.str z),(97,slA r.ss),(98,.int .i64 r.ss.length),(99,.int .i64 (v:Int))],objs:=[(5,.cells r.c),(7,.cells [.str al,.str ax,.int .i64 ab,.int .i64 aa,.bool ah]),(10,.cells [.int .i64 0,.sl .fit 0 0 λx=>[],.sl .fit 0 0 λx=>[] ]),(11,.cells [.str [],.str [],.str [],.int .i64 0,.int .i64 0,.int .i64 0,.int .i64 0]),(15,.cells [.int .i64 n,.sl (.key 55) 3 r.ls.length λj=>(r.ls.getD j default).c,.gsl 100055 7 r.ss.length]),(55,.own 3 r.ls.length),(100055,.grw 0 7 r.ss.length λj=>(r.ss.getD j default).c)]}
theorem FW (hl:r.ss.length<=1000000) (hv:v < r.ss.length):{env:=[(1,.str id),(3,.int .i64 0),(4,.int .i64 n),(5,.ref 5 0),(7,.ref 7 0),(10,.ref 10 0),(11,.ref 11 0),(13,.fn 62 [] []),(15,.ref 15 0),(17,.str z),(97,slA r.ss),(98,.int .i64 r.ss.length),(99,.int .i64 (IntKind.wrap .i64 ((v:Int)+1)))],objs:=[(5,.cells r.c),(7,.cells [.str al,.str ax,.int .i64 ab,.int .i64 aa,.bool ah]),(10,.cells [.int .i64 0,.sl .fit 0 0 λx=>[],.sl .fit 0 0 λx=>[] ]),(11,.cells [.str [],.str [],.str [],.int .i64 0,.int .i64 0,.int .i64 0,.int .i64 0]),(15,.cells [.int .i64 n,.sl (.key 55) 3 r.ls.length λj=>(r.ls.getD j default).c,.gsl 100055 7 r.ss.length]),(55,.own 3 r.ls.length),(100055,.grw 0 7 r.ss.length λj=>(r.ss.getD j default).c)]}=asS r id al ax z ab aa ah n (v+1):=by
 rw [c8 (by omega)]
theorem FY {u:St->Bool} {w:St->Unit} {Q:Unit->Prop} (hu:∀v:Nat,v<=r.ss.length->cg u w (asS r id al ax z ab aa ah n v) Q) {x:RG} (q:x=⟨n,r.ls,r.ss⟩):cg u w {env:=[(1,.str id),(3,.int .i64 0),(4,.int .i64 n),(5,.ref 5 0),(7,.ref 7 0),(10,.ref 10 0),(11,.ref 11 0),(13,.fn 62 [] []),(15,.ref 15 0),(17,.str z),(97,slA r.ss),(98,.int .i64 r.ss.length),(99,.int .i64 0)],objs:=[(5,.cells r.c),(7,.cells [.str al,.str ax,.int .i64 ab,.int .i64 aa,.bool ah]),(10,.cells [.int .i64 0,.sl .fit 0 0 λx=>[],.sl .fit 0 0 λx=>[] ]),(11,.cells [.str [],.str [],.str [],.int .i64 0,.int .i64 0,.int .i64 0,.int .i64 0]),(15,.cells [.int .i64 (RG.now x),.sl (.key 55) 3 (List.length (RG.ls x)) λj=>(LK.c (List.getD (RG.ls x) j default)),.gsl 100055 7 (List.length (RG.ss x))]),(55,.own 3 (List.length (RG.ls x))),(100055,.grw 0 7 (List.length (RG.ss x)) λj=>(SL.c (List.getD (RG.ss x) j default)))]} Q:=by
 rw [q];exact hu 0 (Nat.zero_le _)
theorem F0 (hb:r.ss.length < 128):decide ((List.length (RG.ss r):Int)≥128)=false:=decide_eq_false (by omega)
theorem FX (hb:r.ss.length<=1000000):(roomy 80 (List.length (RG.ss r)+1)&&Nat.beq (List.length (RG.ss r)) (List.length (RG.ss r)))=true:=bL (by omega)
theorem Dw:(Nat.beq 7 7&&Nat.beq (List.length (RG.ss r)+1) (List.length (RG.ss r)+1))=true:=by simp
end
theorem yS (r:RG) (id al ax:TX) (ab aa:Int) (ah:Bool) (n:Int) (h:VR r) (hn:r.now<=n/\n<=1099511627776) (hl:r.ls.length<=1000000):∃ (u:St->Bool) (w:St->Unit),(∀ (z:TX) (v:Nat),v<=r.ss.length->cg u w (asS r id al ax z ab aa ah n v) λ_=>True)/\∀L:List (List Nat×Orc),bW (VAs.run [kG,eRd,eCp,Bc,eRo] 2 [] L [] bG) bG [1,1,1,1,1,1,1,1,1,0,1,0] (mkO u w λ(_:Unit) k=>k (.exit 0) {env:=[(1,.str id),(4,.int .i64 n),(5,.ref 5 0),(7,.ref 7 0),(10,.ref 10 0),(11,.ref 11 0),(13,.fn 62 [] []),(15,.ref 15 0)],objs:=[(5,.cells r.c),(7,.cells [.str al,.str ax,.int .i64 ab,.int .i64 aa,.bool ah]),(10,.cells [.int .i64 0,.sl .fit 0 0 λx=>[],.sl .fit 0 0 λx=>[] ]),(11,.cells [.str [],.str [],.str [],.int .i64 0,.int .i64 0,.int .i64 0,.int .i64 0]),(15,.cells [.int .i64 n,.sl (.key 55) 3 r.ls.length λj=>(r.ls.getD j default).c,.gsl 100055 7 r.ss.length]),(55,.own 3 r.ls.length),(100055,.grw 0 7 r.ss.length λj=>(r.ss.getD j default).c)]}):=by
 obtain ⟨u,w,hu,hc⟩:=c6 (V:=VAs) (T:=[kG,eRd,eCp,Bc,eRo]) (d:=2) (W:=[]) (f:=bG) (p:=[1,1,1,1,1,1,1,1,1,0,1,0]) (Lf:=λL=>L) (λv:TX×Nat=>asS r id al ax v.1 ab aa ah n v.2) (λv=>v.2<=r.ss.length) (λv=>r.ss.length - v.2) (λ(_:Unit) k=>k (.exit 0) {env:=[(1,.str id),(4,.int .i64 n),(5,.ref 5 0),(7,.ref 7 0),(10,.ref 10 0),(11,.ref 11 0),(13,.fn 62 [] []),(15,.ref 15 0)],objs:=[(5,.cells r.c),(7,.cells [.str al,.str ax,.int .i64 ab,.int .i64 aa,.bool ah]),(10,.cells [.int .i64 0,.sl .fit 0 0 λx=>[],.sl .fit 0 0 λx=>[] ]),(11,.cells [.str [],.str [],.str [],.int .i64 0,.int .i64 0,.int .i64 0,.int .i64 0]),(15,.cells [.int .i64 n,.sl (.key 55) 3 r.ls.length λj=>(r.ls.getD j default).c,.gsl 100055 7 r.ss.length]),(55,.own 3 r.ls.length),(100055,.grw 0 7 r.ss.length λj=>(r.ss.getD j default).c)]}) (λ_=>True) (by kernel_rfl) (λv hv=>.b (decide ((↑v.2:Int) < (↑(List.length (RG.ss r)):Int))) (λh1=>
   .n (c:=within (↑v.2:Int) (List.length (RG.ss r))) (bJ (bF h1)) (
   .call (nH r.ls (r.ss.getD v.2 default).id hl) λr2 q2=>
   .no (c:=bif bif bif SL.layer (List.getD (RG.ss r) v.2 default)==al then SL.fin (List.getD (RG.ss r) v.2 default) !=0 else false then decide (IntKind.wrap .i64 (n - SL.to (List.getD (RG.ss r) v.2 default)) < 0) else false then r2==v.1 else false) (A:=λ_ k kn=>k (.ret) ({env:=[(10,.ref 10 0),(11,.ref 11 0),(12,.int .i64 28)],objs:=[(10,.cells [.int .i64 0,.sl .fit 0 0 λx=>[],.sl .fit 0 0 λx=>[] ]),(11,.cells [.str [],.str [],.str [],.int .i64 0,.int .i64 0,.int .i64 0,.int .i64 0]),(55,.own 3 (List.length (RG.ls r))),(100055,AO.grw 0 7 (List.length (RG.ss r)) λj=>(SL.c (List.getD (RG.ss r) j default)))]})) (FZ h hn (bF h1)) (
   .go {env:=[(1,.str id),(3,.int .i64 0),(4,.int .i64 n),(5,.ref 5 0),(7,.ref 7 0),(10,.ref 10 0),(11,.ref 11 0),(13,.fn 62 [] []),(15,.ref 15 0),(17,.str v.1),(97,slA (RG.ss r)),(98,.int .i64 (↑(List.length (RG.ss r)):Int)),(99,.int .i64 (IntKind.wrap .i64 ((↑v.2:Int)+1)))],objs:=[(5,.cells (RG.c r)),(7,.cells [.str al,.str ax,.int .i64 ab,.int .i64 aa,.bool ah]),(10,.cells [.int .i64 0,.sl .fit 0 0 λx=>[],.sl .fit 0 0 λx=>[] ]),(11,.cells [.str [],.str [],.str [],.int .i64 0,.int .i64 0,.int .i64 0,.int .i64 0]),(15,.cells [.int .i64 n,.sl (.key 55) 3 (List.length (RG.ls r)) λj=>[.str (LK.a (List.getD (RG.ls r) j default)),.str (LK.b (List.getD (RG.ls r) j default)),.int .i64 (LK.t (List.getD (RG.ls r) j default))],AV.gsl 100055 7 (List.length (RG.ss r))]),(55,.own 3 (List.length (RG.ls r))),(100055,AO.grw 0 7 (List.length (RG.ss r)) λj=>(SL.c (List.getD (RG.ss r) j default)))]} (v.1,v.2+1) (bF h1) (o9 (bF h1)) (FW (by have:=h.nss;omega) (bF h1))))) λh1=>
  .fi () trivial) (λv L k kn=>by kernel_rfl)
 exact ⟨u,w,λz v hv=>hu (z,v) hv,hc⟩
def rAs (l:List AV) (_:List AO) (x:ASX):Prop:=∀r id al ax ab aa ah n,l=[rgA r,.str id,.agg [.str al,.str ax,.int .i64 ab,.int .i64 aa,.bool ah],.int .i64 0,.int .i64 n]->AsR r id al ax aa ah n x
theorem rAs.mk {r:RG} {id al ax:TX} {ab aa:Int} {ah:Bool} {n:Int} {os:List AO} {x:ASX} (h:AsR r id al ax aa ah n x):rAs [rgA r,.str id,.agg [.str al,.str ax,.int .i64 ab,.int .i64 aa,.bool ah],.int .i64 0,.int .i64 n] os x:=by
 intro r' id' al' ax' ab' aa' ah' n' e
 simp only [List.cons.injEq,AV.str.injEq,AV.agg.injEq,AV.int.injEq,AV.bool.injEq,true_and,and_true] at e
 obtain ⟨e1,e2,⟨e3,e4,_,e5,e6⟩,e7⟩:=e
 rw [<-gT e1,<-e2,<-e3,<-e4,<-e5,<-e6,<-e7];exact h
theorem A0 (r:RG) (id al ax:TX) (ab aa:Int) (ah:Bool) (n:Int) (h:VR r) (hn:r.now<=n/\n<=1099511627776) (hb:r.ss.length < 128):bo wd bG φAs rAs [rgA r,.str id,.agg [.str al,.str ax,.int .i64 ab,.int .i64 aa,.bool ah],.int .i64 0,.int .i64 n] []:=by
 have hl:r.ls.length<=1000000:=by have:=h.nls;omega
 obtain ⟨u,w,hu,hc⟩:=yS r id al ax ab aa ah n h hn hl
 exact (a7 (V:=VAs) (T:=[kG,eRd,eCp,Bc,eRo]) (d:=2) (R:=λ_ _ x=>AsR r id al ax aa ah n x) 0 (aZ (hc _) aq) ao (.call (zG h hn) λr1 q1=>
  .no (c:=r1 !=0) (a:=some ((.tup [.agg [.int .i64 0,.sl .fit 0 0 λx=>[],.sl .fit 0 0 λx=>[] ],.agg [.str [],.str [],.str [],.int .i64 0,.int .i64 0,.int .i64 0,.int .i64 0],.int .i64 r1],[]))) (D6 q1) (
  .call (dP id) λr3 q3=>
  .call (dP al) λr4 q4=>
  .b (bif !r3 then true else !r4) (λh5=>
   .t (rg0,default,6) (Dr (q3 _ rfl) (q4 _ rfl) h5) (AY 6)) λh5=>
  .call (AB r n hl (by have:=h.nss;omega)) λr6 q6=>
  .call (xq r id al hl (by have:=h.nss;omega)) λr7 q7=>
  .b (decide (r7≥0)) (λh8=>
   .n (c:=within r7 (List.length (RG.ss r))) (D4 q7 h8) (
   .n (c:=Nat.beq 7 7&&Nat.beq (List.length (RG.ss r6)) (List.length (RG.ss r6))) (D5 q6.eq) (
   .r (r6,r.ss.getD (Int.toNat r7) default,0) (Ds q6.eq q7 h8)))) λh8=>
  .call (dP ax) λr9 q9=>
  .b (bif bif bif ah then true else !r9 then true else decide (aa < 1) then true else decide (aa > 8)) (λh10=>
   .t (rg0,default,11) (Dq (q9 _ rfl) h10) (AY 11)) λh10=>
  .call (nH r.ls id hl) λr11 q11=>
  .lp (FY (hu r11) q6.eq) λr12 q12=>
  .no (c:=decide ((↑(List.length (RG.ss r)):Int)≥128)) (a:=some ((.tup [.agg [.int .i64 0,.sl .fit 0 0 λx=>[],.sl .fit 0 0 λx=>[] ],.agg [.str [],.str [],.str [],.int .i64 0,.int .i64 0,.int .i64 0,.int .i64 0],.int .i64 19],[]))) (F0 hb) (
  .n (c:=roomy 80 (List.length (RG.ss r)+1)&&Nat.beq (List.length (RG.ss r)) (List.length (RG.ss r))) (FX (by have:=h.nss;omega)) (
  .n (c:=Nat.beq 7 7&&Nat.beq (List.length (RG.ss r)+1) (List.length (RG.ss r)+1)) (Dw) (
  .t (⟨n,r.ls,r.ss++[lK id al ax aa n]⟩,lK id al ax aa n,0) (Dt (q3 _ rfl) (q4 _ rfl) h5 q7 h8 (q9 _ rfl) h10) Dv))))) (by kernel_rfl)).mono λx hx=>rAs.mk hx
noncomputable abbrev eAs:Ent:=du wd bG φAs rAs
end Go.WF

namespace Go.Ab
open Go Go.RowKit
def oO (oi ci:Nat):Vw:=λs f=>
 match s.obj oi with
 | some (.cells cs)=>
  (match cs[ci]? with
  | some (.sl o sz n g)=>f {env:=s.env,objs:=aput s.objs oi (.cells (cs.set ci (.sl .no sz n g)))}
  | _=>f s)
 | _=>f s
theorem tY (oi ci:Nat):iB (oO oi ci):=by
 intro s f r h
 unfold oO at h
 split at h
 ·rename_i cs ho
  split at h
  ·rename_i o sz n g hc
   refine ⟨_,h,λB c a hr hn=>⟨c,rfl,?_,λt v ht=>hn t v ht⟩⟩
   obtain ⟨⟨⟨vs,t,hh,hvs,hv⟩,hone⟩,hI,hfr⟩:=hr.objs.rep oi _ ho
   have hci:ci < cs.length:=(List.getElem?_eq_some_iff.1 hc).1
   have hX:Rep c (.sl .no sz n g) (vs.getD ci undef):=lI (hv ci _ hc) λ_ _=>rfl
   have hrow:RowAt c (c.β oi) (cs.set ci (.sl .no sz n g)):=by
    refine ⟨⟨vs,t,hh,by rw [List.length_set];exact hvs,λi u hu=>?_⟩,λi u hu=>?_⟩
    ·rw [List.getElem?_set] at hu
     by_cases e:ci=i
     ·subst e;rw [if_pos rfl,if_pos hci] at hu;cases hu;exact hX
     ·rw [if_neg e] at hu;exact hv i u hu
    ·rw [List.getElem?_set] at hu
     by_cases e:ci=i
     ·subst e;rw [if_pos rfl,if_pos hci] at hu;cases hu;rfl
     ·rw [if_neg e] at hu;exact hone i u hu
   refine hr.obj (k:=oi) (o:=.cells (cs.set ci (.sl .no sz n g))) ((Keeps.refl c _).but oi) (Grow.refl hr.good) ⟨hrow,hI,hfr⟩ (λp o' b hp hne hb e=>?_) (λq hq=>?_) (λb hb=>hr.mine oi _ b ho hb)
   ·exact hr.objs.apart p o' oi _ b hp ho hne hb e
   ·have hq:q∈ak (cs.set ci (.sl .no sz n g)):=hq
    rcases mg q hq with hq | hq
    ·simp [AV.keys] at hq
    ·exact .inr (hr.objs.closed oi _ ho q hq)
  ·exact ⟨s,h,λB c a hr hn=>⟨c,rfl,hr,hn⟩⟩
 ·exact ⟨s,h,λB c a hr hn=>⟨c,rfl,hr,hn⟩⟩
end Go.Ab

namespace Go.WF
open Go Go.Ab Go.Proofs
set_option linter.unusedSectionVars false
noncomputable def VMe:Env:={V0 with hint:=λf t=>cond (Nat.beq f 9) (vM [40,100040] (V0.hint f t)) (V0.hint f t),trim:=λf p=>cond (Nat.beq f 9) ((V0.trim f p).map (vM [40,100040])) (V0.trim f p)}
def kz (q:List TX) (l:List AV):Bool:=q.any λp=>cD l [.str p]
def mhO (q:List TX):AO:=.mp false [.str] (kz q) λl=>.bool (kz q l)
noncomputable instance envMe:EnvOk VMe wd:=⟨rfl,rfl,gX,ig⟩
abbrev MEX:Type:=RG×RWN×Int
def φMe (x:MEX):AV×List AO:=(.tup [rgA x.1,.sl .no 7 x.2.1.1 x.2.1.2,.int .i64 x.2.2],[])
def lP (s:SL) (n:Int):SL:=⟨s.id,s.layer,s.exp,s.arm,s.fr,n,2⟩
noncomputable def mgS (f:FR) (z:TX) (n:Int) (i:Nat) (x:List SL×List TX):List SL×List TX:=
 cond ((x.1.getD i default).fin !=0||!(ar f (x.1.getD i default).id==z)) x
  (cond (kz x.2 [.str (x.1.getD i default).layer]) (x.1.set i (lP (x.1.getD i default) n),(x.1.getD i default).layer::x.2) (x.1,(x.1.getD i default).layer::x.2))
noncomputable def mgF (f:FR) (z:TX) (n:Int) (ss:List SL):Nat->List SL×List TX
 | 0=>(ss,[])
 | i+1=>mgS f z n i (mgF f z n ss i)
abbrev MV:Type:=Fin 52×List SL×List TX×RWN
def MeI (f:FR) (z:TX) (n:Int) (ss:List SL) (v:MV):Prop:=v.1.val<=ss.length/\v.2.1.length=ss.length/\(v.2.1,v.2.2.1)=mgF f z n ss v.1.val/\v.2.2.2.1<=v.1.val
theorem zW (q:List TX) (a:TX):AO.mp false [KD.str] (λl=>bif cD l [.str a] then true else kz q l) (λl=>bif cD l [.str a] then .bool true else .bool (kz q l))=mhO (a::q):=by
 unfold mhO
 congr 1
 ·funext l
  show _=AV.bool (cD l [.str a]||kz q l)
  cases cD l [.str a] <;> rfl
theorem xG {t:List SL} {i:Nat} (hi:i < t.length) (s:SL) (x:List AV):(λj=>bif Nat.beq j i then s.c else bif Nat.beq j i then x else (t.getD j default).c)=λj=>((t.set i s).getD j default).c:=by
 funext j
 by_cases e:j=i
 ·subst e
  rw [Nat.beq_refl,cond_true,List.getD_eq_getElem?_getD,List.getElem?_set_self hi];rfl
 ·rw [gN e,cond_false,cond_false,List.getD_eq_getElem?_getD,List.getD_eq_getElem?_getD,List.getElem?_set_ne (λh=>e h.symm)]
section
variable {f:FR} {z:TX} {n:Int} {ss:List SL} {v:MV} {L:List LK} {m:Nat}
theorem EZ {i:Nat} {t:List SL} (h:i < t.length):(within (i:Int) t.length&&Nat.beq t.length t.length)=true:=by rw [bJ h];simp
theorem yZ {i:Nat} {t:List SL} (h:i < t.length):(true&&(Nat.blt i t.length&&Nat.beq t.length t.length))=true:=by rw [tA h];simp
theorem EY {i:Nat} {t:List SL} {c:Bool} (h:i < t.length):(bif true&&(Nat.blt i t.length&&Nat.beq t.length t.length) then true else c)=true:=by rw [yZ h];rfl
theorem DJ {i:Nat} {t:List SL} (h:i < t.length):(Nat.ble 0 1&&(Nat.blt i t.length&&Nat.beq t.length t.length))=true:=by rw [tA h];simp
abbrev wo (v:MV) (hl:ss.length<=51) (hv:MeI f z n ss v) (h:v.1.val < v.2.1.length):Fin 52:=⟨v.1.val+1,by have:=hv.2.1;omega⟩
theorem ET (hv:MeI f z n ss v) (hl:ss.length<=51):(roomy 80 (v.2.2.2.1+1)&&Nat.beq v.2.2.2.1 v.2.2.2.1)=true:=bL (by have:=hv.2.2.2;have:=hv.1;omega)
theorem Co {r:TX} {s:SL} (q:r=ar f s.id) (h:(bif s.fin !=0 then true else !r==z)=true):(s.fin !=0||!(ar f s.id==z))=true:=by rw [<-q];exact h
theorem z1 {r:TX} {s:SL} (q:r=ar f s.id) (h:(bif s.fin !=0 then true else !r==z)=false):(s.fin !=0||!(ar f s.id==z))=false:=by rw [<-q];exact h
theorem uF (hv:MeI f z n ss v):mgF f z n ss (v.1.val+1)=mgS f z n v.1.val (v.2.1,v.2.2.1):=by rw [hv.2.2.1];rfl
theorem Cn (hv:MeI f z n ss v) (h:v.1.val < v.2.1.length) (hc:((v.2.1.getD v.1.val default).fin !=0||!(ar f (v.2.1.getD v.1.val default).id==z))=true) {hl:ss.length<=51}:MeI f z n ss (wo v hl hv h,v.2):=by
 refine ⟨by show v.1.val+1<=_;have:=hv.2.1;omega,hv.2.1,?_,Nat.le_succ_of_le hv.2.2.2⟩
 show _=mgF f z n ss (v.1.val+1)
 rw [uF hv];unfold mgS;dsimp only;rw [hc];rfl
theorem Cm (hv:MeI f z n ss v) (h:v.1.val < v.2.1.length) (hc:((v.2.1.getD v.1.val default).fin !=0||!(ar f (v.2.1.getD v.1.val default).id==z))=false) (hm:kz v.2.2.1 [.str (v.2.1.getD v.1.val default).layer]=true) {g:Nat->List AV} {hl:ss.length<=51}:MeI f z n ss (wo v hl hv h,(v.2.1.set v.1.val (lP (v.2.1.getD v.1.val default) n)),((v.2.1.getD v.1.val default).layer::v.2.2.1),(v.2.2.2.1+1,g)):=by
 refine ⟨by show v.1.val+1<=_;have:=hv.2.1;omega,by show List.length (v.2.1.set v.1.val (lP (v.2.1.getD v.1.val default) n))=_;rw [List.length_set];exact hv.2.1,?_,by show _+1<=v.1.val+1;have:=hv.2.2.2;omega⟩
 show _=mgF f z n ss (v.1.val+1)
 rw [uF hv];unfold mgS;dsimp only;rw [hc,hm];rfl
theorem Cl (hv:MeI f z n ss v) (h:v.1.val < v.2.1.length) (hc:((v.2.1.getD v.1.val default).fin !=0||!(ar f (v.2.1.getD v.1.val default).id==z))=false) (hm:kz v.2.2.1 [.str (v.2.1.getD v.1.val default).layer]=false) {hl:ss.length<=51}:MeI f z n ss (wo v hl hv h,v.2.1,((v.2.1.getD v.1.val default).layer::v.2.2.1),v.2.2.2):=by
 refine ⟨by show v.1.val+1<=_;have:=hv.2.1;omega,hv.2.1,?_,Nat.le_succ_of_le hv.2.2.2⟩
 show _=mgF f z n ss (v.1.val+1)
 rw [uF hv];unfold mgS;dsimp only;rw [hc,hm];rfl
theorem xX (hv:MeI f z n ss v) (h:v.1.val < v.2.1.length):ss.length - (v.1.val+1) < ss.length - v.1.val:=by have:=hv.2.1;omega
theorem Ch (hv:MeI f z n ss v) (h:v.1.val < v.2.1.length) {hl:ss.length<=51}:{env:=[(3,.int .i64 n),(8,.ref 8 0),(12,.ref 12 0),(13,.str z),(14,.mref 65),(15,.sl (.key 110) 7 v.2.2.2.1 v.2.2.2.2),(68,.int .i64 (↑(List.length v.2.1):Int)),(69,.int .i64 (IntKind.wrap .i64 ((↑v.1.val:Int)+1)))],objs:=[(8,.cells [.int .i64 0,.sl .fit 0 0 λx=>[],.sl .fit 0 0 λx=>[] ]),(12,.cells [.int .i64 n,lkA L,AV.gsl 100040 7 (List.length v.2.1)]),(65,AO.mp false [KD.str] (kz v.2.2.1) λl=>.bool (kz v.2.2.1 l)),(110,.own 7 v.2.2.2.1),(40,.own 3 m),(100040,AO.grw 0 7 (List.length v.2.1) λj=>(SL.c (List.getD v.2.1 j default)))]}=(λv:MV=>({env:=[(3,.int .i64 n),(8,.ref 8 0),(12,.ref 12 0),(13,.str z),(14,.mref 65),(15,.sl (.key 110) 7 v.2.2.2.1 v.2.2.2.2),(68,.int .i64 (v.2.1).length),(69,.int .i64 ((v.1.val:Nat):Int))],objs:=[(8,.cells [.int .i64 0,.sl .fit 0 0 λx=>[],.sl .fit 0 0 λx=>[] ]),(12,.cells [.int .i64 n,lkA L,.gsl 100040 7 (v.2.1).length]),(65,mhO v.2.2.1),(110,.own 7 v.2.2.2.1),(40,.own 3 m),(100040,.grw 0 7 (v.2.1).length λj=>((v.2.1).getD j default).c)]}:St)) (wo v hl hv h,v.2):=by
 rw [c8 (by have:=hv.2.1;omega)]
 rfl
theorem Cg (hv:MeI f z n ss v) (h:v.1.val < v.2.1.length) {g:Nat->List AV} {hl:ss.length<=51}:{env:=[(3,.int .i64 n),(8,.ref 8 0),(12,.ref 12 0),(13,.str z),(14,.mref 65),(15,.sl (.key 110) 7 (v.2.2.2.1+1) g),(68,.int .i64 (↑(List.length v.2.1):Int)),(69,.int .i64 (IntKind.wrap .i64 ((↑v.1.val:Int)+1)))],objs:=[(8,.cells [.int .i64 0,.sl .fit 0 0 λx=>[],.sl .fit 0 0 λx=>[] ]),(12,.cells [.int .i64 n,lkA L,AV.gsl 100040 7 (List.length v.2.1)]),(65,AO.mp false [KD.str] (λl=>bif cD l [.str (SL.layer (List.getD v.2.1 v.1.val default))] then true else kz v.2.2.1 l) λl=>bif cD l [.str (SL.layer (List.getD v.2.1 v.1.val default))] then .bool true else .bool (kz v.2.2.1 l)),(110,.own 7 (v.2.2.2.1+1)),(40,.own 3 m),(100040,AO.grw 0 7 (List.length v.2.1) λj=>bif Nat.beq j v.1.val then [.str (SL.id (List.getD v.2.1 v.1.val default)),.str (SL.layer (List.getD v.2.1 v.1.val default)),.str (SL.exp (List.getD v.2.1 v.1.val default)),.int .i64 (SL.arm (List.getD v.2.1 v.1.val default)),.int .i64 (SL.fr (List.getD v.2.1 v.1.val default)),.int .i64 n,.int .i64 2] else bif Nat.beq j v.1.val then [.str (SL.id (List.getD v.2.1 v.1.val default)),.str (SL.layer (List.getD v.2.1 v.1.val default)),.str (SL.exp (List.getD v.2.1 v.1.val default)),.int .i64 (SL.arm (List.getD v.2.1 v.1.val default)),.int .i64 (SL.fr (List.getD v.2.1 v.1.val default)),.int .i64 n,.int .i64 (SL.fin (List.getD v.2.1 v.1.val default))] else (SL.c (List.getD v.2.1 j default)))]}=(λv:MV=>({env:=[(3,.int .i64 n),(8,.ref 8 0),(12,.ref 12 0),(13,.str z),(14,.mref 65),(15,.sl (.key 110) 7 v.2.2.2.1 v.2.2.2.2),(68,.int .i64 (v.2.1).length),(69,.int .i64 ((v.1.val:Nat):Int))],objs:=[(8,.cells [.int .i64 0,.sl .fit 0 0 λx=>[],.sl .fit 0 0 λx=>[] ]),(12,.cells [.int .i64 n,lkA L,.gsl 100040 7 (v.2.1).length]),(65,mhO v.2.2.1),(110,.own 7 v.2.2.2.1),(40,.own 3 m),(100040,.grw 0 7 (v.2.1).length λj=>((v.2.1).getD j default).c)]}:St)) (wo v hl hv h,(v.2.1.set v.1.val (lP (v.2.1.getD v.1.val default) n)),((v.2.1.getD v.1.val default).layer::v.2.2.1),(v.2.2.2.1+1,g)):=by
 show _=({env:=[(3,.int .i64 n),(8,.ref 8 0),(12,.ref 12 0),(13,.str z),(14,.mref 65),(15,.sl (.key 110) 7 (v.2.2.2.1+1,g).1 (v.2.2.2.1+1,g).2),(68,.int .i64 ((v.2.1.set v.1.val (lP (v.2.1.getD v.1.val default) n))).length),(69,.int .i64 (((v.1.val+1):Nat):Int))],objs:=[(8,.cells [.int .i64 0,.sl .fit 0 0 λx=>[],.sl .fit 0 0 λx=>[] ]),(12,.cells [.int .i64 n,lkA L,.gsl 100040 7 ((v.2.1.set v.1.val (lP (v.2.1.getD v.1.val default) n))).length]),(65,mhO ((v.2.1.getD v.1.val default).layer::v.2.2.1)),(110,.own 7 (v.2.2.2.1+1,g).1),(40,.own 3 m),(100040,.grw 0 7 ((v.2.1.set v.1.val (lP (v.2.1.getD v.1.val default) n))).length λj=>(((v.2.1.set v.1.val (lP (v.2.1.getD v.1.val default) n))).getD j default).c)]}:St)
 rw [c8 (by have:=hv.2.1;omega),zW,List.length_set,<-xG h (lP (v.2.1.getD v.1.val default) n) [.str (SL.id (List.getD v.2.1 v.1.val default)),.str (SL.layer (List.getD v.2.1 v.1.val default)),.str (SL.exp (List.getD v.2.1 v.1.val default)),.int .i64 (SL.arm (List.getD v.2.1 v.1.val default)),.int .i64 (SL.fr (List.getD v.2.1 v.1.val default)),.int .i64 n,.int .i64 (SL.fin (List.getD v.2.1 v.1.val default))]]
 rfl
theorem Ce (hv:MeI f z n ss v) (h:v.1.val < v.2.1.length) {hl:ss.length<=51}:{env:=[(3,.int .i64 n),(8,.ref 8 0),(12,.ref 12 0),(13,.str z),(14,.mref 65),(15,.sl (.key 110) 7 v.2.2.2.1 v.2.2.2.2),(68,.int .i64 (↑(List.length v.2.1):Int)),(69,.int .i64 (IntKind.wrap .i64 ((↑v.1.val:Int)+1)))],objs:=[(8,.cells [.int .i64 0,.sl .fit 0 0 λx=>[],.sl .fit 0 0 λx=>[] ]),(12,.cells [.int .i64 n,lkA L,AV.gsl 100040 7 (List.length v.2.1)]),(65,AO.mp false [KD.str] (λl=>bif cD l [.str (SL.layer (List.getD v.2.1 v.1.val default))] then true else kz v.2.2.1 l) λl=>bif cD l [.str (SL.layer (List.getD v.2.1 v.1.val default))] then .bool true else .bool (kz v.2.2.1 l)),(110,.own 7 v.2.2.2.1),(40,.own 3 m),(100040,AO.grw 0 7 (List.length v.2.1) λj=>(SL.c (List.getD v.2.1 j default)))]}=(λv:MV=>({env:=[(3,.int .i64 n),(8,.ref 8 0),(12,.ref 12 0),(13,.str z),(14,.mref 65),(15,.sl (.key 110) 7 v.2.2.2.1 v.2.2.2.2),(68,.int .i64 (v.2.1).length),(69,.int .i64 ((v.1.val:Nat):Int))],objs:=[(8,.cells [.int .i64 0,.sl .fit 0 0 λx=>[],.sl .fit 0 0 λx=>[] ]),(12,.cells [.int .i64 n,lkA L,.gsl 100040 7 (v.2.1).length]),(65,mhO v.2.2.1),(110,.own 7 v.2.2.2.1),(40,.own 3 m),(100040,.grw 0 7 (v.2.1).length λj=>((v.2.1).getD j default).c)]}:St)) (wo v hl hv h,v.2.1,((v.2.1.getD v.1.val default).layer::v.2.2.1),v.2.2.2):=by
 rw [c8 (by have:=hv.2.1;omega),zW]
theorem EW (hv:MeI f z n ss v) (h:v.2.1.length<=v.1.val):v.2.1=(mgF f z n ss ss.length).1:=by
 have h1:(v.2.1,v.2.2.1)=mgF f z n ss v.1.val:=hv.2.2.1
 have h2:v.1.val=ss.length:=by have:=hv.1;have:=hv.2.1;omega
 rw [<-h2,<-h1]
end
theorem x0 (L:List LK) (m:Nat) (z:TX) (n:Int) (ss:List SL) (hL:L.length<=1000000) (hl:ss.length<=51):∃ (u:St->Bool) (w:St->List SL×RWN),(∀v:MV,MeI (ofF L) z n ss v->cg u w ((λv:MV=>({env:=[(3,.int .i64 n),(8,.ref 8 0),(12,.ref 12 0),(13,.str z),(14,.mref 65),(15,.sl (.key 110) 7 v.2.2.2.1 v.2.2.2.2),(68,.int .i64 (v.2.1).length),(69,.int .i64 ((v.1.val:Nat):Int))],objs:=[(8,.cells [.int .i64 0,.sl .fit 0 0 λx=>[],.sl .fit 0 0 λx=>[] ]),(12,.cells [.int .i64 n,lkA L,.gsl 100040 7 (v.2.1).length]),(65,mhO v.2.2.1),(110,.own 7 v.2.2.2.1),(40,.own 3 m),(100040,.grw 0 7 (v.2.1).length λj=>((v.2.1).getD j default).c)]}:St)) v) λx=>x.1=(mgF (ofF L) z n ss ss.length).1)/\∀C:List (List Nat×Orc),bW (VMe.run [kG,eRd,eCp,eSa,eRo] 2 [] C [([1,1,1,1,1,1,1,1],oO 12 1)] eF) eF [1,1,1,1,1,1,1,1,1,1,1,0,1,0] (mkO u w λ(x:List SL×RWN) k=>k (.exit 0) {env:=[(8,.ref 8 0),(12,.ref 12 0),(15,.sl (.key 110) 7 x.2.1 x.2.2)],objs:=[(8,.cells [.int .i64 0,.sl .fit 0 0 λx=>[],.sl .fit 0 0 λx=>[] ]),(12,.cells [.int .i64 n,lkA L,.gsl 100040 7 (x.1).length]),(110,.own 7 x.2.1),(40,.own 3 m),(100040,.grw 0 7 (x.1).length λj=>((x.1).getD j default).c)]}):=by
 exact c6 (V:=VMe) (T:=[kG,eRd,eCp,eSa,eRo]) (d:=2) (W:=[([1,1,1,1,1,1,1,1],oO 12 1)]) (f:=eF) (p:=[1,1,1,1,1,1,1,1,1,1,1,0,1,0]) (Lf:=λL=>L) (λv:MV=>{env:=[(3,.int .i64 n),(8,.ref 8 0),(12,.ref 12 0),(13,.str z),(14,.mref 65),(15,.sl (.key 110) 7 v.2.2.2.1 v.2.2.2.2),(68,.int .i64 (v.2.1).length),(69,.int .i64 ((v.1.val:Nat):Int))],objs:=[(8,.cells [.int .i64 0,.sl .fit 0 0 λx=>[],.sl .fit 0 0 λx=>[] ]),(12,.cells [.int .i64 n,lkA L,.gsl 100040 7 (v.2.1).length]),(65,mhO v.2.2.1),(110,.own 7 v.2.2.2.1),(40,.own 3 m),(100040,.grw 0 7 (v.2.1).length λj=>((v.2.1).getD j default).c)]}) (MeI (ofF L) z n ss) (λv=>ss.length - v.1.val) (λ(x:List SL×RWN) k=>k (.exit 0) {env:=[(8,.ref 8 0),(12,.ref 12 0),(15,.sl (.key 110) 7 x.2.1 x.2.2)],objs:=[(8,.cells [.int .i64 0,.sl .fit 0 0 λx=>[],.sl .fit 0 0 λx=>[] ]),(12,.cells [.int .i64 n,lkA L,.gsl 100040 7 (x.1).length]),(110,.own 7 x.2.1),(40,.own 3 m),(100040,.grw 0 7 (x.1).length λj=>((x.1).getD j default).c)]}) (λx=>x.1=(mgF (ofF L) z n ss ss.length).1) (by kernel_rfl) (λv hv=>.b (decide ((↑v.1.val:Int) < (↑(List.length v.2.1):Int))) (λh1=>
   .n (c:=within (↑v.1.val:Int) (List.length v.2.1)&&Nat.beq (List.length v.2.1) (List.length v.2.1)) (EZ (bF h1)) (
   .n (c:=true&&(Nat.blt v.1.val (List.length v.2.1)&&Nat.beq (List.length v.2.1) (List.length v.2.1))) (yZ (bF h1)) (
   .n (c:=bif true&&(Nat.blt v.1.val (List.length v.2.1)&&Nat.beq (List.length v.2.1) (List.length v.2.1)) then true else !bif (SL.fin (List.getD v.2.1 v.1.val default) !=0)==false then true else false) (EY (bF h1)) (
   .call (nH L (v.2.1.getD v.1.val default).id hL) λr2 q2=>
   .b (bif SL.fin (List.getD v.2.1 v.1.val default) !=0 then true else !r2==z) (λh3=>
    .go {env:=[(3,.int .i64 n),(8,.ref 8 0),(12,.ref 12 0),(13,.str z),(14,.mref 65),(15,.sl (.key 110) 7 v.2.2.2.1 v.2.2.2.2),(68,.int .i64 (↑(List.length v.2.1):Int)),(69,.int .i64 (IntKind.wrap .i64 ((↑v.1.val:Int)+1)))],objs:=[(8,.cells [.int .i64 0,.sl .fit 0 0 λx=>[],.sl .fit 0 0 λx=>[] ]),(12,.cells [.int .i64 n,lkA L,AV.gsl 100040 7 (List.length v.2.1)]),(65,AO.mp false [KD.str] (kz v.2.2.1) λl=>.bool (kz v.2.2.1 l)),(110,.own 7 v.2.2.2.1),(40,.own 3 m),(100040,AO.grw 0 7 (List.length v.2.1) λj=>(SL.c (List.getD v.2.1 j default)))]} (wo v hl hv (bF h1),v.2) (Cn hv (bF h1) (Co q2.eq h3)) (xX hv (bF h1)) (Ch hv (bF h1))) λh3=>
   .n (c:=true&&(Nat.blt v.1.val (List.length v.2.1)&&Nat.beq (List.length v.2.1) (List.length v.2.1))) (yZ (bF h1)) (
   .b (kz v.2.2.1 [.str (SL.layer (List.getD v.2.1 v.1.val default))]) (λh4=>
    .yea (c:=kz v.2.2.1 [.str (SL.layer (List.getD v.2.1 v.1.val default))]) (B:=λ_ k kn=>cond (true&&(Nat.blt v.1.val (List.length v.2.1)&&Nat.beq (List.length v.2.1) (List.length v.2.1))) (kn ({env:=[(3,.int .i64 n),(8,.ref 8 0),(12,.ref 12 0),(13,.str z),(14,.mref 65),(15,.sl (.key 110) 7 v.2.2.2.1 v.2.2.2.2),(68,.int .i64 (↑(List.length v.2.1):Int)),(69,.int .i64 (IntKind.wrap .i64 ((↑v.1.val:Int)+1)))],objs:=[(8,.cells [.int .i64 0,.sl .fit 0 0 λx=>[],.sl .fit 0 0 λx=>[] ]),(12,.cells [.int .i64 n,lkA L,AV.gsl 100040 7 (List.length v.2.1)]),(65,AO.mp false [KD.str] (λl=>bif cD l [.str (SL.layer (List.getD v.2.1 v.1.val default))] then true else kz v.2.2.1 l) λl=>bif cD l [.str (SL.layer (List.getD v.2.1 v.1.val default))] then .bool true else .bool (kz v.2.2.1 l)),(110,.own 7 v.2.2.2.1),(40,.own 3 m),(100040,AO.grw 0 7 (List.length v.2.1) λj=>(SL.c (List.getD v.2.1 j default)))]})) (none)) (h4) (
    .n (c:=Nat.ble 0 1&&(Nat.blt v.1.val (List.length v.2.1)&&Nat.beq (List.length v.2.1) (List.length v.2.1))) (DJ (bF h1)) (
    .n (c:=Nat.ble 0 1&&(Nat.blt v.1.val (List.length v.2.1)&&Nat.beq (List.length v.2.1) (List.length v.2.1))) (DJ (bF h1)) (
    .n (c:=true&&(Nat.blt v.1.val (List.length v.2.1)&&Nat.beq (List.length v.2.1) (List.length v.2.1))) (yZ (bF h1)) (
    .n (c:=roomy 80 (v.2.2.2.1+1)&&Nat.beq v.2.2.2.1 v.2.2.2.1) (ET hv hl) (
    .n (c:=true&&(Nat.blt v.1.val (List.length v.2.1)&&Nat.beq (List.length v.2.1) (List.length v.2.1))) (yZ (bF h1)) (
    .go {env:=[(3,.int .i64 n),(8,.ref 8 0),(12,.ref 12 0),(13,.str z),(14,.mref 65),(15,.sl (.key 110) 7 (v.2.2.2.1+1) (ay v.2.2.2.1 1 v.2.2.2.2 (ai [.str [],.str [],.str [],.int .i64 0,.int .i64 0,.int .i64 0,.int .i64 0] [(0,.agg [.str (SL.id (List.getD v.2.1 v.1.val default)),.str (SL.layer (List.getD v.2.1 v.1.val default)),.str (SL.exp (List.getD v.2.1 v.1.val default)),.int .i64 (SL.arm (List.getD v.2.1 v.1.val default)),.int .i64 (SL.fr (List.getD v.2.1 v.1.val default)),.int .i64 n,.int .i64 2])]))),(68,.int .i64 (↑(List.length v.2.1):Int)),(69,.int .i64 (IntKind.wrap .i64 ((↑v.1.val:Int)+1)))],objs:=[(8,.cells [.int .i64 0,.sl .fit 0 0 λx=>[],.sl .fit 0 0 λx=>[] ]),(12,.cells [.int .i64 n,lkA L,AV.gsl 100040 7 (List.length v.2.1)]),(65,AO.mp false [KD.str] (λl=>bif cD l [.str (SL.layer (List.getD v.2.1 v.1.val default))] then true else kz v.2.2.1 l) λl=>bif cD l [.str (SL.layer (List.getD v.2.1 v.1.val default))] then .bool true else .bool (kz v.2.2.1 l)),(110,.own 7 (v.2.2.2.1+1)),(40,.own 3 m),(100040,AO.grw 0 7 (List.length v.2.1) λj=>bif Nat.beq j v.1.val then [.str (SL.id (List.getD v.2.1 v.1.val default)),.str (SL.layer (List.getD v.2.1 v.1.val default)),.str (SL.exp (List.getD v.2.1 v.1.val default)),.int .i64 (SL.arm (List.getD v.2.1 v.1.val default)),.int .i64 (SL.fr (List.getD v.2.1 v.1.val default)),.int .i64 n,.int .i64 2] else bif Nat.beq j v.1.val then [.str (SL.id (List.getD v.2.1 v.1.val default)),.str (SL.layer (List.getD v.2.1 v.1.val default)),.str (SL.exp (List.getD v.2.1 v.1.val default)),.int .i64 (SL.arm (List.getD v.2.1 v.1.val default)),.int .i64 (SL.fr (List.getD v.2.1 v.1.val default)),.int .i64 n,.int .i64 (SL.fin (List.getD v.2.1 v.1.val default))] else (SL.c (List.getD v.2.1 j default)))]} (wo v hl hv (bF h1),v.2.1.set v.1.val (lP (v.2.1.getD v.1.val default) n),(v.2.1.getD v.1.val default).layer::v.2.2.1,(v.2.2.2.1+1,_)) (Cm hv (bF h1) (z1 q2.eq h3) h4) (xX hv (bF h1)) (Cg hv (bF h1))))))))) λh4=>
   .n (c:=true&&(Nat.blt v.1.val (List.length v.2.1)&&Nat.beq (List.length v.2.1) (List.length v.2.1))) (yZ (bF h1)) (
   .go {env:=[(3,.int .i64 n),(8,.ref 8 0),(12,.ref 12 0),(13,.str z),(14,.mref 65),(15,.sl (.key 110) 7 v.2.2.2.1 v.2.2.2.2),(68,.int .i64 (↑(List.length v.2.1):Int)),(69,.int .i64 (IntKind.wrap .i64 ((↑v.1.val:Int)+1)))],objs:=[(8,.cells [.int .i64 0,.sl .fit 0 0 λx=>[],.sl .fit 0 0 λx=>[] ]),(12,.cells [.int .i64 n,lkA L,AV.gsl 100040 7 (List.length v.2.1)]),(65,AO.mp false [KD.str] (λl=>bif cD l [.str (SL.layer (List.getD v.2.1 v.1.val default))] then true else kz v.2.2.1 l) λl=>bif cD l [.str (SL.layer (List.getD v.2.1 v.1.val default))] then .bool true else .bool (kz v.2.2.1 l)),(110,.own 7 v.2.2.2.1),(40,.own 3 m),(100040,AO.grw 0 7 (List.length v.2.1) λj=>(SL.c (List.getD v.2.1 j default)))]} (wo v hl hv (bF h1),v.2.1,(v.2.1.getD v.1.val default).layer::v.2.2.1,v.2.2.2) (Cl hv (bF h1) (z1 q2.eq h3) h4) (xX hv (bF h1)) (Ce hv (bF h1)))))))) λh1=>
  .fi (v.2.1,v.2.2.2) (EW hv (lJ h1))) (λv L k kn=>by
  obtain ⟨⟨i,hi⟩,w⟩:=v
  match i,hi with
  | 0,_=>show _=_;kernel_rfl
  | 1,_=>show _=_;kernel_rfl
  | 2,_=>show _=_;kernel_rfl
  | 3,_=>show _=_;kernel_rfl
  | 4,_=>show _=_;kernel_rfl
  | 5,_=>show _=_;kernel_rfl
  | 6,_=>show _=_;kernel_rfl
  | 7,_=>show _=_;kernel_rfl
  | 8,_=>show _=_;kernel_rfl
  | 9,_=>show _=_;kernel_rfl
  | 10,_=>show _=_;kernel_rfl
  | 11,_=>show _=_;kernel_rfl
  | 12,_=>show _=_;kernel_rfl
  | 13,_=>show _=_;kernel_rfl
  | 14,_=>show _=_;kernel_rfl
  | 15,_=>show _=_;kernel_rfl
  | 16,_=>show _=_;kernel_rfl
  | 17,_=>show _=_;kernel_rfl
  | 18,_=>show _=_;kernel_rfl
  | 19,_=>show _=_;kernel_rfl
  | 20,_=>show _=_;kernel_rfl
  | 21,_=>show _=_;kernel_rfl
  | 22,_=>show _=_;kernel_rfl
  | 23,_=>show _=_;kernel_rfl
  | 24,_=>show _=_;kernel_rfl
  | 25,_=>show _=_;kernel_rfl
  | 26,_=>show _=_;kernel_rfl
  | 27,_=>show _=_;kernel_rfl
  | 28,_=>show _=_;kernel_rfl
  | 29,_=>show _=_;kernel_rfl
  | 30,_=>show _=_;kernel_rfl
  | 31,_=>show _=_;kernel_rfl
  | 32,_=>show _=_;kernel_rfl
  | 33,_=>show _=_;kernel_rfl
  | 34,_=>show _=_;kernel_rfl
  | 35,_=>show _=_;kernel_rfl
  | 36,_=>show _=_;kernel_rfl
  | 37,_=>show _=_;kernel_rfl
  | 38,_=>show _=_;kernel_rfl
  | 39,_=>show _=_;kernel_rfl
  | 40,_=>show _=_;kernel_rfl
  | 41,_=>show _=_;kernel_rfl
  | 42,_=>show _=_;kernel_rfl
  | 43,_=>show _=_;kernel_rfl
  | 44,_=>show _=_;kernel_rfl
  | 45,_=>show _=_;kernel_rfl
  | 46,_=>show _=_;kernel_rfl
  | 47,_=>show _=_;kernel_rfl
  | 48,_=>show _=_;kernel_rfl
  | 49,_=>show _=_;kernel_rfl
  | 50,_=>show _=_;kernel_rfl
  | 51,_=>show _=_;kernel_rfl
  | i+52,hi=>exact absurd hi (by omega))
theorem uO (ls:List LK) (a b:TX) (n:Int):AV.sl .no 3 (List.length ls+1) (ay (List.length ls) 1 (λj=>(LK.c (List.getD ls j default))) (ai [.str [],.str [],.int .i64 0] [(0,.agg [.str a,.str b,.int .i64 n])]))=lkA (ls++[⟨a,b,n⟩]):=by
 unfold lkA
 rw [List.length_append,List.length_singleton]
 congr 1
 funext j
 by_cases h:j < ls.length
 ·rw [cU h,e9 h]
 ·by_cases e:j=ls.length
  ·subst e
   rw [dy (Nat.le_refl _) (by omega),Nat.sub_self,fw];rfl
  ·have e1:(ls++[(⟨a,b,n⟩:LK)]).getD j default=default:=gC (by simp;omega)
   have e2:ls.getD j default=default:=gC (by omega)
   unfold ay
   rw [xc (show ls.length<=j by omega),xc (show ls.length+1<=j by omega),e1]
   show (ls.getD j default).c=_
   rw [e2]
def MeR (r:RG) (a b:TX) (n:Int) (x:MEX):Prop:=
 (x.2.2=6/\(cC a&&cC b)=false)∨(x.2.2=15/\a=b)∨(x.2.2=0/\ar (ofF r.ls) a=ar (ofF r.ls) b/\x.1=⟨n,r.ls,r.ss⟩) ∨
 (x.2.2=0/\ar (ofF r.ls) a≠ar (ofF r.ls) b/\cC a=true/\cC b=true/\a≠b/\x.1=⟨n,r.ls++[⟨a,b,n⟩],(mgF (ofF (r.ls++[⟨a,b,n⟩])) (ar (ofF (r.ls++[⟨a,b,n⟩])) a) n r.ss r.ss.length).1⟩)
section
variable {r x:RG} {a b:TX} {n:Int}
theorem Cb {p q:Bool} (h1:p=cC a) (h2:q=cC b) (h:(bif !p then true else !q)=true):MeR r a b n (rg0,(0,λ_=>[]),6):=.inl ⟨rfl,by
 rw [h1,h2] at h
 revert h;cases cC a <;> cases cC b <;> simp⟩
theorem B9 (h:(a==b)=true):MeR r a b n (rg0,(0,λ_=>[]),15):=.inr (.inl ⟨rfl,eq_of_beq h⟩)
theorem Cc {p:Bool} {g:RWN} (q7:x=⟨n,r.ls,r.ss⟩) (q8:p=(ar (ofF r.ls) a==ar (ofF r.ls) b)) (h:p=true):MeR r a b n (x,g,0):=.inr (.inr (.inl ⟨rfl,eq_of_beq (q8.symm.trans h),q7⟩))
theorem Ca {p:Bool} {k1 k2:Bool} (e1:k1=cC a) (e2:k2=cC b) (h5:(bif !k1 then true else !k2)=false) (h6:(a==b)=false) (q8:p=(ar (ofF r.ls) a==ar (ofF r.ls) b)) (h:p=false) {t:List SL×RWN} (q:t.1=(mgF (ofF (r.ls++[⟨a,b,n⟩])) (ar (ofF (r.ls++[⟨a,b,n⟩])) a) n r.ss r.ss.length).1):MeR r a b n (⟨n,r.ls++[⟨a,b,n⟩],t.1⟩,t.2,0):=by
 rw [e1,e2] at h5
 have k1:cC a=true:=by revert h5;cases cC a <;> simp
 have k2:cC b=true:=by revert h5;cases cC b <;> cases cC a <;> simp
 exact .inr (.inr (.inr ⟨rfl,λe=>(by rw [q8,beq_iff_eq.2 e] at h;cases h),k1,k2,λe=>(by rw [beq_iff_eq.2 e] at h6;cases h6),(by rw [q])⟩))
theorem zY (e:Int):Tr (.tup [.agg [.int .i64 0,.sl .fit 0 0 λx=>[],.sl .fit 0 0 λx=>[]],.sl .fit 0 0 λx=>[],.int .i64 e],[]) (φMe (rg0,(0,λ_=>[]),e)):=
 nz (λk v h=>fH (.cons (.same rfl) (.cons bZ (.cons bZ .nil))) h) (λk v h=>bZ.2 _ _ h) (λk v h=>h) rfl
theorem Cd:Tr (.tup [rgA x,.sl .fit 0 0 λx=>[],.int .i64 0],[]) (φMe (x,(0,λ_=>[]),0)):=
 nz (λk v h=>h) (λk v h=>bZ.2 _ _ h) (λk v h=>h) rfl
theorem EX (hb:r.ls.length < 64):decide ((List.length (RG.ls r):Int)≥64)=false:=decide_eq_false (by omega)
theorem Ck (q:x=⟨n,r.ls,r.ss⟩) (hl:r.ls.length<=1000000):(roomy 40 (List.length (RG.ls x)+1)&&Nat.beq (List.length (RG.ls x)) (List.length (RG.ls x)))=true:=by rw [q];exact bL (by show (r.ls.length+1)*40<=_;omega)
abbrev zH (x:RG) (a b:TX) (n:Int):AV:=.sl .no 3 (List.length (RG.ls x)+1) (ay (List.length (RG.ls x)) 1 (λj=>(LK.c (List.getD (RG.ls x) j default))) (ai [.str [],.str [],.int .i64 0] [(0,.agg [.str a,.str b,.int .i64 n])]))
theorem Ci (q:x=⟨n,r.ls,r.ss⟩) (hl:r.ls.length<=100000):bo wd gB φTX rRo [zH x a b n,.str a] []:=by
 unfold zH;rw [uO,q];exact nH _ _ (by simp;omega)
theorem Cj (q:x=⟨n,r.ls,r.ss⟩) {y:TX} (h:rRo [zH x a b n,.str a] [] y):y=ar (ofF (r.ls++[⟨a,b,n⟩])) a:=by
 unfold zH at h;rw [uO,q] at h;exact h.eq
theorem EU {u:St->Bool} {w:St->List SL×RWN} {Q:List SL×RWN->Prop} {L:List LK} {m:Nat} {z:TX} (hL:L=r.ls++[⟨a,b,n⟩]) (hm:m=r.ls.length+1) (hz:z=ar (ofF L) a) (hu:∀v:MV,MeI (ofF L) z n r.ss v->cg u w ((λv:MV=>({env:=[(3,.int .i64 n),(8,.ref 8 0),(12,.ref 12 0),(13,.str z),(14,.mref 65),(15,.sl (.key 110) 7 v.2.2.2.1 v.2.2.2.2),(68,.int .i64 (v.2.1).length),(69,.int .i64 ((v.1.val:Nat):Int))],objs:=[(8,.cells [.int .i64 0,.sl .fit 0 0 λx=>[],.sl .fit 0 0 λx=>[] ]),(12,.cells [.int .i64 n,lkA L,.gsl 100040 7 (v.2.1).length]),(65,mhO v.2.2.1),(110,.own 7 v.2.2.2.1),(40,.own 3 m),(100040,.grw 0 7 (v.2.1).length λj=>((v.2.1).getD j default).c)]}:St)) v) Q) {r7:RG} (q7:r7=⟨n,r.ls,r.ss⟩) {r11:TX} (q11:rRo [zH r7 a b n,.str a] [] r11):cg u w {env:=[(3,.int .i64 n),(8,.ref 8 0),(12,.ref 12 0),(13,.str r11),(14,.mref 65),(15,.sl (.key 110) 7 0 λx=>[.str [],.str [],.str [],.int .i64 0,.int .i64 0,.int .i64 0,.int .i64 0]),(68,.int .i64 (↑(List.length (RG.ss r7)):Int)),(69,.int .i64 0)],objs:=[(8,.cells [.int .i64 0,.sl .fit 0 0 λx=>[],.sl .fit 0 0 λx=>[] ]),(12,.cells [.int .i64 (RG.now r7),.sl .no 3 (List.length (RG.ls r7)+1) (ay (List.length (RG.ls r7)) 1 (λj=>[.str (LK.a (List.getD (RG.ls r7) j default)),.str (LK.b (List.getD (RG.ls r7) j default)),.int .i64 (LK.t (List.getD (RG.ls r7) j default))]) (ai [.str [],.str [],.int .i64 0] [(0,.agg [.str a,.str b,.int .i64 n])])),AV.gsl 100040 7 (List.length (RG.ss r7))]),(65,AO.mp false [KD.str] (λx=>false) λx=>.bool false),(110,.own 7 0),(40,.own 3 (List.length (RG.ls r7)+1)),(100040,AO.grw 0 7 (List.length (RG.ss r7)) λj=>(SL.c (List.getD (RG.ss r7) j default)))]} Q:=by
 have e:=Cj q7 q11
 subst q7
 have e2:r11=z:=by rw [e,hz,hL]
 rw [e2]
 have h:=hu (⟨0,by decide⟩,r.ss,[],(0,λ_=>[.str [],.str [],.str [],.int .i64 0,.int .i64 0,.int .i64 0,.int .i64 0])) ⟨Nat.zero_le _,rfl,rfl,Nat.le_refl _⟩
 have e3:=uO r.ls a b n
 rw [<-hL] at e3
 rw [hm] at h
 simp only [<-e3] at h
 exact h
theorem AZ {t:List SL}:(Nat.beq 7 7&&Nat.beq (List.length t) (List.length t))=true:=by simp
end
def rMe (l:List AV) (_:List AO) (x:MEX):Prop:=∀r a b n,l=[rgA r,.str a,.str b,.int .i64 n]->MeR r a b n x
theorem rMe.mk {r:RG} {a b:TX} {n:Int} {os:List AO} {x:MEX} (h:MeR r a b n x):rMe [rgA r,.str a,.str b,.int .i64 n] os x:=by
 intro r' a' b' n' e
 simp only [List.cons.injEq,AV.str.injEq,AV.int.injEq,true_and,and_true] at e
 obtain ⟨e1,e2,e3,e4⟩:=e
 rw [<-gT e1,<-e2,<-e3,<-e4];exact h
theorem zZ (r:RG) (a b:TX) (n:Int) (h:VR r) (hn:r.now<=n/\n<=1099511627776) (hb:r.ls.length < 64) (h2':r.ss.length<=51):bo wd eF φMe rMe [rgA r,.str a,.str b,.int .i64 n] []:=by
 have hl:r.ls.length<=1000000:=by omega
 have h2:r.ss.length<=1000000:=by omega
 obtain ⟨u,w,hu,hc⟩:=x0 (r.ls++[⟨a,b,n⟩]) (r.ls.length+1) (ar (ofF (r.ls++[⟨a,b,n⟩])) a) n r.ss (by simp;omega) h2'
 exact (a7 (V:=VMe) (T:=[kG,eRd,eCp,eSa,eRo]) (d:=2) (W:=[([1,1,1,1,1,1,1,1],oO 12 1)]) (R:=λ_ _ x=>MeR r a b n x) 0 (aZ (hc _) aq) (kg (tY 12 1) ao) (.call (zG h hn) λr1 q1=>
  .no (c:=r1 !=0) (a:=some ((.tup [.agg [.int .i64 0,.sl .fit 0 0 λx=>[],.sl .fit 0 0 λx=>[] ],.sl .fit 0 0 λx=>[],.int .i64 r1],[]))) (D6 q1) (
  .call (dP a) λr3 q3=>
  .call (dP b) λr4 q4=>
  .b (bif !r3 then true else !r4) (λh5=>
   .t (rg0,(0,λ_=>[]),6) (Cb (q3 _ rfl) (q4 _ rfl) h5) (zY 6)) λh5=>
  .b (a==b) (λh6=>
   .t (rg0,(0,λ_=>[]),15) (B9 h6) (zY 15)) λh6=>
  .call (AB r n hl h2) λr7 q7=>
  .call (BN r.ls a b hl) λr8 q8=>
  .b (r8) (λh9=>
   .n (c:=Nat.beq 7 7&&Nat.beq (List.length (RG.ss r7)) (List.length (RG.ss r7))) (D5 q7.eq) (
   .t (r7,(0,λ_=>[]),0) (Cc q7.eq q8.eq h9) Cd)) λh9=>
  .no (c:=decide ((↑(List.length (RG.ls r)):Int)≥64)) (a:=some ((.tup [.agg [.int .i64 0,.sl .fit 0 0 λx=>[],.sl .fit 0 0 λx=>[] ],.sl .fit 0 0 λx=>[],.int .i64 19],[]))) (EX hb) (
  .n (c:=roomy 40 (List.length (RG.ls r7)+1)&&Nat.beq (List.length (RG.ls r7)) (List.length (RG.ls r7))) (Ck q7.eq hl) (
  .call (Ci q7.eq (by have:=h.nls;omega)) λr11 q11=>
  .lp (EU rfl rfl rfl hu q7.eq q11) λr12 q12=>
  .n (c:=Nat.beq 7 7&&Nat.beq (List.length r12.1) (List.length r12.1)) (AZ) (
  .t (⟨n,r.ls++[⟨a,b,n⟩],r12.1⟩,r12.2,0) (Ca (q3 _ rfl) (q4 _ rfl) h5 h6 q8.eq h9 q12) (Tr.refl _)))))) (by kernel_rfl)).mono λx hx=>rMe.mk hx
noncomputable abbrev eMe:Ent:=du wd eF φMe rMe
end Go.WF

namespace Go.WF
open Go Go.Ab Go.Proofs
theorem SV.now {a b:Int} {s:SL} (h:SV a s) (hab:a<=b):SV b s:=⟨h.id,h.layer,h.exp,h.arm,⟨h.fr.1,by have:=h.fr.2;omega⟩,by have:=h.fin;omega⟩
theorem rb {r:RG} {n:Int} (h:VR r) (hn:r.now<=n/\n<=1099511627776):VR ⟨n,r.ls,r.ss⟩:=
 ⟨by have:=h.now;show 0<=n/\n<=_;omega,h.nls,h.nss,λi hi=>by
  obtain ⟨h1,h2,h3,h4,h5⟩:=h.lk i hi
  exact ⟨h1,h2,h3,h4,Int.le_trans h5 hn.1⟩,λhi=>(h.sv hi).now hn.1,h.sb,h.one⟩
theorem xd {r:RG} {n:Int} {x:List SL} {L:List LK}:∀ {i:Nat},i<=r.ss.length->vx ⟨n,L,r.ss++x⟩ i=vx r i
 | 0,_=>rfl
 | i+1,hi=>by
  show ((r.ss++x).getD i default).fr=(r.ss.getD i default).fr
  rw [List.getD_eq_getElem?_getD,List.getD_eq_getElem?_getD,List.getElem?_append_left (by omega)]
theorem yQ {r:RG} (h:VR r):∀ {i:Nat},i<=r.ss.length->vx r i<=r.now
 | 0,_=>h.now.1
 | i+1,hi=>(h.sv (i:=i) (by omega)).fr.2
theorem xe {r:RG} {n:Int} (h:VR r) (hn:r.now<=n/\n<=1099511627776) (hb:r.ss.length < 128) {id al ax:TX} {aa:Int} (k1:cC id=true) (k2:cC al=true) (k3:cC ax=true) (ha:1<=aa/\aa<=8) (hp:∀j,j < r.ss.length->pIx r al (ar (ofF r.ls) id) r.ss j=false):VR ⟨n,r.ls,r.ss++[lK id al ax aa n]⟩:=by
 have hv:=rb h hn
 have h0:=h.now
 refine ⟨hv.now,h.nls,by show (r.ss++[lK id al ax aa n]).length<=128;simp;omega,hv.lk,fun {i} hi=>?_,λi hi=>?_,λi j hj hi o1 o2 e1 e2=>?_⟩
 ·have hi:i < (r.ss++[lK id al ax aa n]).length:=hi
  show SV n ((r.ss++[lK id al ax aa n]).getD i default)
  by_cases e:i < r.ss.length
  ·rw [e9 e];exact hv.sv e
  ·obtain rfl:i=r.ss.length:=by simp at hi;omega
   rw [fw];exact ⟨k1,k2,k3,ha,⟨by show 0<=n;omega,Int.le_refl n⟩,.inl ⟨rfl,rfl⟩⟩
 ·have hi:i < (r.ss++[lK id al ax aa n]).length:=hi
  have hi':i<=r.ss.length:=by simp at hi;omega
  rw [xd hi']
  show _<=((r.ss++[lK id al ax aa n]).getD i default).fr
  by_cases e:i < r.ss.length
  ·rw [e9 e];exact h.sb i e
  ·obtain rfl:i=r.ss.length:=by omega
   rw [fw];exact Int.le_trans (yQ h (Nat.le_refl _)) hn.1
 ·have hi:i < (r.ss++[lK id al ax aa n]).length:=hi
  have o1:((r.ss++[lK id al ax aa n]).getD i default).fin=0:=o1
  have o2:((r.ss++[lK id al ax aa n]).getD j default).fin=0:=o2
  have e1:((r.ss++[lK id al ax aa n]).getD j default).layer=((r.ss++[lK id al ax aa n]).getD i default).layer:=e1
  have e2:ar (ofF r.ls) ((r.ss++[lK id al ax aa n]).getD j default).id=ar (ofF r.ls) ((r.ss++[lK id al ax aa n]).getD i default).id:=e2
  have hj':j < r.ss.length:=by simp at hi;omega
  rw [e9 hj'] at o2 e1 e2
  by_cases e:i < r.ss.length
  ·rw [e9 e] at o1 e1 e2
   exact h.one i j hj e o1 o2 e1 e2
  ·obtain rfl:i=r.ss.length:=by simp at hi;omega
   rw [fw] at e1 e2
   have:=hp j hj'
   unfold pIx y9 at this
   rw [o2,e1,e2] at this
   simp [lK] at this
theorem Du {r:RG} {id al ax:TX} {aa:Int} {ah:Bool} {n:Int} {x:ASX} (h:VR r) (hn:r.now<=n/\n<=1099511627776) (hb:r.ss.length < 128) (q:AsR r id al ax aa ah n x) (h0:x.2.2=0):VR x.1/\x.1.now=n/\x.1.ls=r.ls/\x.1.ss.length<=r.ss.length+1:=by
 rcases q with ⟨e,_⟩ | ⟨e,_⟩ | ⟨_,e,_⟩ | ⟨_,k1,k2,k3,k4,k5,k6,e,_⟩
 ·omega
 ·omega
 ·rw [e];exact ⟨rb h hn,rfl,rfl,Nat.le_succ _⟩
 ·rw [e];exact ⟨xe h hn hb k1 k2 k3 ⟨k4,k5⟩ k6,rfl,rfl,by simp⟩
theorem wy {f:FR} {a b:TX} (h:ar f a≠ar f b):dg f a b=up f (tmax (ar f a) (ar f b)) (tmin (ar f a) (ar f b)):=by
 unfold dg;rw [beq_eq_false_iff_ne.2 h];rfl
theorem wz {f:FR} {a b:TX} (h:ar f a=ar f b):dg f a b=f:=by
 unfold dg;rw [beq_iff_eq.2 h];rfl
theorem xA {f:FR} {k v x:TX} (h:x≠k):up f k v x=f x:=by unfold up;rw [beq_eq_false_iff_ne.2 h];rfl
theorem Bv {f:FR} {k v:TX}:up f k v k=some v:=by unfold up;rw [beq_self_eq_true];rfl
theorem xM {f:FR} {M m:TX} (hM:f M=none) (hm:f m=none) (hne:m≠M) {x y:TX} (h:RootOf f x y):RootOf (up f M m) x (if y=M then m else y):=by
 induction h with
 | stop hx=>
  rename_i x
  by_cases e:x=M
  ·rw [if_pos e,e];exact .step Bv (.stop ((xA hne).trans hm))
  ·rw [if_neg e];exact .stop ((xA e).trans hx)
 | @step x y z hx _ ih=>
  have e:x≠M:=λe=>by rw [e,hM] at hx;cases hx
  exact .step ((xA e).trans hx) ih
theorem l3 {f:FR} {D:List TX} (h:Fo f D) {a b:TX} (hab:ar f a≠ar f b) (x:TX):ar (dg f a b) x=if ar f x=tmax (ar f a) (ar f b) then tmin (ar f a) (ar f b) else ar f x:=by
 have ha:=(lG h a).end
 have hb:=(lG h b).end
 have hne:=tmm hab
 rw [wy hab]
 refine lH (xM ?_ ?_ ?_ (lG h x))
 ·unfold tmax;cases aN (ar f a) (ar f b)
  ·exact ha
  ·exact hb
 ·unfold tmin;cases aN (ar f a) (ar f b)||ar f a==ar f b
  ·exact hb
  ·exact ha
 ·intro e;rw [e,n7] at hne;cases hne
theorem ma (l:List LK) (k:LK):ofF (l++[k])=dg (ofF l) k.a k.b:=by unfold ofF;rw [List.foldl_append];rfl
theorem xg {f:FR} {D:List TX} (h:Fo f D) {a b:TX} (hab:ar f a≠ar f b):ar (dg f a b) a=tmin (ar f a) (ar f b):=by
 rw [l3 h hab]
 have hne:=tmm hab
 cases hl:aN (ar f a) (ar f b) with
 | true=>
  have e1:tmax (ar f a) (ar f b)=ar f b:=by unfold tmax;rw [hl];rfl
  have e2:tmin (ar f a) (ar f b)=ar f a:=by unfold tmin;rw [hl];rfl
  rw [e1,e2,if_neg hab]
 | false=>
  have e1:tmax (ar f a) (ar f b)=ar f a:=by unfold tmax;rw [hl];rfl
  rw [e1,if_pos rfl]
theorem ry {f:FR} {D:List TX} (h:Fo f D) {a b:TX} (hab:ar f a≠ar f b) {x:TX} (hx:ar (dg f a b) x≠ar (dg f a b) a):ar (dg f a b) x=ar f x:=by
 rw [xg h hab] at hx
 rw [l3 h hab] at hx ⊢
 by_cases e:ar f x=tmax (ar f a) (ar f b)
 ·rw [if_pos e] at hx;exact absurd rfl hx
 ·rw [if_neg e]
theorem wk {q:List TX} {a:TX}:kz q [.str a]=true↔a∈q:=by
 unfold kz
 rw [List.any_eq_true]
 constructor
 ·rintro ⟨p,hp,h⟩
  simp [cD,eqC] at h
  rw [h];exact hp
 ·intro h
  exact ⟨a,h,by simp [cD,eqC]⟩
structure MgI (f:FR) (z:TX) (n:Int) (ss:List SL) (i:Nat) (x:List SL×List TX):Prop where
 len:x.1.length=ss.length
 rest:∀j,i<=j->x.1.getD j default=ss.getD j default
 slot:∀j,x.1.getD j default=ss.getD j default∨(x.1.getD j default=lP (ss.getD j default) n/\(ss.getD j default).fin=0)
 held:∀j,j < i->(x.1.getD j default).fin=0->ar f (x.1.getD j default).id=z->(x.1.getD j default).layer∈x.2
 one:∀j k,j < k->k < i->(x.1.getD j default).fin=0->(x.1.getD k default).fin=0->ar f (x.1.getD j default).id=z->ar f (x.1.getD k default).id=z->(x.1.getD j default).layer=(x.1.getD k default).layer->False
theorem B8 (f:FR) (z:TX) (n:Int) (ss:List SL):MgI f z n ss 0 (ss,[]):=
 ⟨rfl,λ_ _=>rfl,λ_=>.inl rfl,λ_ h=>absurd h (Nat.not_lt_zero _),λ_ _ _ h=>absurd h (Nat.not_lt_zero _)⟩
theorem B7 {f:FR} {z:TX} {n:Int} {ss:List SL} {i:Nat} {x:List SL×List TX} (h:MgI f z n ss i x) (hi:i < ss.length):MgI f z n ss (i+1) (mgS f z n i x):=by
 have hlt:∀ {j},j < i+1->j < i∨j=i:=λhj=>by omega
 unfold mgS
 cases hc:((x.1.getD i default).fin !=0||!(ar f (x.1.getD i default).id==z)) with
 | true=>
  rw [cond_true]
  have hno:(x.1.getD i default).fin=0->ar f (x.1.getD i default).id=z->False:=λh1 h2=>by
   rw [h1,h2] at hc;simp at hc
  refine ⟨h.len,λj hj=>h.rest j (by omega),h.slot,λj hj h1 h2=>?_,λj k hjk hk h1 h2 h3 h4 h5=>?_⟩
  ·rcases hlt hj with hj | rfl
   ·exact h.held j hj h1 h2
   ·exact (hno h1 h2).elim
  ·rcases hlt hk with hk | rfl
   ·exact h.one j k hjk hk h1 h2 h3 h4 h5
   ·exact (hno h2 h4).elim
 | false=>
  rw [cond_false]
  simp only [Bool.or_eq_false_iff,bne_eq_false_iff_eq,Bool.not_eq_false',beq_iff_eq] at hc
  cases hm:kz x.2 [.str (x.1.getD i default).layer] with
  | true=>
   rw [cond_true]
   have hi':i < x.1.length:=by rw [h.len];exact hi
   have hat:(x.1.set i (lP (x.1.getD i default) n)).getD i default=lP (x.1.getD i default) n:=by rw [List.getD_eq_getElem?_getD,List.getElem?_set_self hi'];rfl
   have hne:∀j,j≠i->(x.1.set i (lP (x.1.getD i default) n)).getD j default=x.1.getD j default:=λj e=>by rw [List.getD_eq_getElem?_getD,List.getElem?_set_ne (λh=>e h.symm),<-List.getD_eq_getElem?_getD]
   have hfin:((x.1.set i (lP (x.1.getD i default) n)).getD i default).fin=0->False:=λh1=>by
    rw [hat] at h1
    have h1:(2:Int)=0:=h1
    omega
   refine ⟨by show List.length (x.1.set i _)=_;rw [List.length_set];exact h.len,λj hj=>(hne j (by omega)).trans (h.rest j (by omega)),λj=>?_,λj hj h1 h2=>?_,λj k hjk hk h1 h2 h3 h4 h5=>?_⟩
   ·by_cases e:j=i
    ·subst e
     have hr:=h.rest j (Nat.le_refl _)
     refine .inr ⟨hat.trans (by rw [hr]),by rw [<-hr];exact hc.1⟩
    ·show (x.1.set i _).getD j default=_∨_
     rw [hne j e];exact h.slot j
   ·rcases hlt hj with hj | rfl
    ·have h1:((x.1.set i (lP (x.1.getD i default) n)).getD j default).fin=0:=h1
     have h2:ar f ((x.1.set i (lP (x.1.getD i default) n)).getD j default).id=z:=h2
     show ((x.1.set i (lP (x.1.getD i default) n)).getD j default).layer∈_
     rw [hne j (by omega)] at h1 h2 ⊢
     exact List.mem_cons_of_mem _ (h.held j hj h1 h2)
    ·exact (hfin h1).elim
   ·have h1:((x.1.set i (lP (x.1.getD i default) n)).getD j default).fin=0:=h1
    have h3:ar f ((x.1.set i (lP (x.1.getD i default) n)).getD j default).id=z:=h3
    rcases hlt hk with hk | rfl
    ·have h2:((x.1.set i (lP (x.1.getD i default) n)).getD k default).fin=0:=h2
     have h4:ar f ((x.1.set i (lP (x.1.getD i default) n)).getD k default).id=z:=h4
     have h5:((x.1.set i (lP (x.1.getD i default) n)).getD j default).layer=((x.1.set i (lP (x.1.getD i default) n)).getD k default).layer:=h5
     rw [hne j (by omega)] at h1 h3 h5
     rw [hne k (by omega)] at h2 h4 h5
     exact h.one j k hjk hk h1 h2 h3 h4 h5
    ·exact hfin h2
  | false=>
   rw [cond_false]
   have hno:(x.1.getD i default).layer ∉ x.2:=λe=>by rw [wk.2 e] at hm;cases hm
   refine ⟨h.len,λj hj=>h.rest j (by omega),h.slot,λj hj h1 h2=>?_,λj k hjk hk h1 h2 h3 h4 h5=>?_⟩
   ·rcases hlt hj with hj | rfl
    ·exact List.mem_cons_of_mem _ (h.held j hj h1 h2)
    ·exact List.mem_cons_self
   ·rcases hlt hk with hk | rfl
    ·exact h.one j k hjk hk h1 h2 h3 h4 h5
    ·exact hno (h5 ▸ h.held j hjk h1 h3)
theorem xY (f:FR) (z:TX) (n:Int) (ss:List SL):∀i,i<=ss.length->MgI f z n ss i (mgF f z n ss i)
 | 0,_=>B8 f z n ss
 | i+1,hi=>B7 (xY f z n ss i (by omega)) (by omega)
theorem wm {r:RG} {a b:TX} {n:Int} {x:MEX} (h:VR r) (hn:r.now<=n/\n<=1099511627776) (hb:r.ls.length < 64) (q:MeR r a b n x) (h0:x.2.2=0):VR x.1/\x.1.now=n/\x.1.ss.length=r.ss.length /\
  ((ar (ofF r.ls) a=ar (ofF r.ls) b/\x.1.ls=r.ls)∨(ar (ofF r.ls) a≠ar (ofF r.ls) b/\x.1.ls=r.ls++[⟨a,b,n⟩])):=by
 rcases q with ⟨e,_⟩ | ⟨e,_⟩ | ⟨_,he,e⟩ | ⟨_,hr,k1,k2,k3,e⟩
 ·omega
 ·omega
 ·rw [e];exact ⟨rb h hn,rfl,rfl,.inl ⟨he,rfl⟩⟩
 obtain ⟨D,hD⟩:=rY r.ls
 have hv:=rb h hn
 have hn0:=h.now
 have hL:ofF (r.ls++[⟨a,b,n⟩])=dg (ofF r.ls) a b:=ma _ _
 rw [hL] at e
 have I:=xY (dg (ofF r.ls) a b) (ar (dg (ofF r.ls) a b) a) n r.ss r.ss.length (Nat.le_refl _)
 generalize (mgF (dg (ofF r.ls) a b) (ar (dg (ofF r.ls) a b) a) n r.ss r.ss.length)=X at e I
 have hfr:∀j,(X.1.getD j default).fr=(r.ss.getD j default).fr:=λj=>by
  rcases I.slot j with e | ⟨e,_⟩ <;> rw [e];rfl
 have hbs:∀i,vx ⟨n,r.ls++[⟨a,b,n⟩],X.1⟩ i=vx r i:=λi=>by
  cases i with
  | zero=>rfl
  | succ i=>exact hfr i
 have hbl:∀i,i<=r.ls.length->vL ⟨n,r.ls++[⟨a,b,n⟩],X.1⟩ i=vL r i:=λi hi=>by
  cases i with
  | zero=>rfl
  | succ i=>
   show ((r.ls++[(⟨a,b,n⟩:LK)]).getD i default).t=(r.ls.getD i default).t
   rw [e9 (by omega)]
 have hbn:∀i,i<=r.ls.length->vL r i<=r.now:=λi hi=>by
  cases i with
  | zero=>exact h.now.1
  | succ i=>exact (h.lk i (by omega)).2.2.2.2
 have hopen:∀j,(X.1.getD j default).fin=0->X.1.getD j default=r.ss.getD j default:=λj hj=>by
  rcases I.slot j with e | ⟨e,_⟩
  ·exact e
  ·rw [e] at hj
   have hj:(2:Int)=0:=hj
   omega
 rw [e]
 refine ⟨⟨by show 0<=n/\n<=_;omega,by show (r.ls++[(⟨a,b,n⟩:LK)]).length<=64;simp;omega,by show X.1.length<=128;rw [I.len];exact h.nss,λi hi=>?_,fun {i} hi=>?_,λi hi=>?_,λi j hj hi o1 o2 e1 e2=>?_⟩,rfl,I.len,.inr ⟨hr,rfl⟩⟩
 ·have hi:i < (r.ls++[(⟨a,b,n⟩:LK)]).length:=hi
  have hi':i<=r.ls.length:=by simp at hi;omega
  rw [hbl i hi']
  show cC ((r.ls++[(⟨a,b,n⟩:LK)]).getD i default).a=true/\cC ((r.ls++[(⟨a,b,n⟩:LK)]).getD i default).b=true/\((r.ls++[(⟨a,b,n⟩:LK)]).getD i default).a≠((r.ls++[(⟨a,b,n⟩:LK)]).getD i default).b/\vL r i<=((r.ls++[(⟨a,b,n⟩:LK)]).getD i default).t/\((r.ls++[(⟨a,b,n⟩:LK)]).getD i default).t<=n
  by_cases e:i < r.ls.length
  ·rw [e9 e]
   obtain ⟨g1,g2,g3,g4,g5⟩:=h.lk i e
   exact ⟨g1,g2,g3,g4,Int.le_trans g5 hn.1⟩
  ·obtain rfl:i=r.ls.length:=by omega
   rw [fw]
   exact ⟨k1,k2,k3,Int.le_trans (hbn _ (Nat.le_refl _)) hn.1,Int.le_refl n⟩
 ·have hi:i < X.1.length:=hi
  rw [I.len] at hi
  show SV n (X.1.getD i default)
  have hs:=h.sv hi
  rcases I.slot i with e | ⟨e,hz⟩
  ·rw [e];exact hs.now hn.1
  ·rw [e]
   exact ⟨hs.id,hs.layer,hs.exp,hs.arm,⟨hs.fr.1,Int.le_trans hs.fr.2 hn.1⟩,.inr ⟨.inr rfl,Int.le_trans hs.fr.2 hn.1,Int.le_refl n⟩⟩
 ·have hi:i < X.1.length:=hi
  rw [I.len] at hi
  rw [hbs]
  show _<=(X.1.getD i default).fr
  rw [hfr];exact h.sb i hi
 ·have hi:i < X.1.length:=hi
  rw [I.len] at hi
  have o1:(X.1.getD i default).fin=0:=o1
  have o2:(X.1.getD j default).fin=0:=o2
  have e1:(X.1.getD j default).layer=(X.1.getD i default).layer:=e1
  have e2:ar (ofF (r.ls++[⟨a,b,n⟩])) (X.1.getD j default).id=ar (ofF (r.ls++[⟨a,b,n⟩])) (X.1.getD i default).id:=e2
  rw [hL] at e2
  by_cases ez:ar (dg (ofF r.ls) a b) (X.1.getD i default).id=ar (dg (ofF r.ls) a b) a
  ·exact I.one j i hj hi o2 o1 (e2.trans ez) ez e1
  ·have g1:=ry hD hr ez
   have g2:=ry hD hr (x:=(X.1.getD j default).id) (λe=>ez (e2.symm.trans e))
   rw [g1,g2] at e2
   have p1:=hopen i o1
   have p2:=hopen j o2
   rw [p1] at o1 e1 e2
   rw [p2] at o2 e1 e2
   exact h.one i j hj hi o1 o2 e1 e2
end Go.WF

namespace Go.WF
open Go Go.Ab Go.Proofs
structure Lin (p q:List LK) (n:Int):Prop where
 eq:∀t,ofF (bq p t)=ofF (bq q t)
 pt:∀k∈p,k.t<=n
 qt:∀k∈q,k.t<=n
theorem iG {l:List LK} {n t:Int} (h:∀k∈l,k.t<=n) (ht:n<=t):bq l t=l:=by
 unfold bq
 exact List.filter_eq_self.2 λk hk=>decide_eq_true (Int.le_trans (h k hk) ht)
theorem kj (l:List LK) (k:LK) (t:Int):bq (l++[k]) t=bq l t++(if k.t<=t then [k] else []):=by
 unfold bq
 rw [List.filter_append]
 congr 1
 by_cases h:k.t<=t
 ·rw [if_pos h];simp [h]
 ·rw [if_neg h];simp [h]
theorem Lin.at {p q:List LK} {n:Int} (h:Lin p q n):ofF p=ofF q:=by
 have:=h.eq n
 rwa [iG h.pt (Int.le_refl n),iG h.qt (Int.le_refl n)] at this
theorem Lin.mono {p q:List LK} {n m:Int} (h:Lin p q n) (hm:n<=m):Lin p q m:=⟨h.eq,λk hk=>Int.le_trans (h.pt k hk) hm,λk hk=>Int.le_trans (h.qt k hk) hm⟩
theorem x8 (n:Int):Lin [] [] n:=⟨λ_=>rfl,λ_ h=>(List.not_mem_nil h).elim,λ_ h=>(List.not_mem_nil h).elim⟩
theorem Lin.skip {p q:List LK} {n m:Int} (h:Lin p q n) (hm:n<=m) {a b:TX} (he:ar (ofF p) a=ar (ofF p) b):Lin p (q++[⟨a,b,m⟩]) m:=by
 refine ⟨λt=>?_,λk hk=>Int.le_trans (h.pt k hk) hm,λk hk=>?_⟩
 ·rw [kj]
  by_cases ht:m<=t
  ·rw [if_pos ht,iG h.pt (Int.le_trans hm ht),iG h.qt (Int.le_trans hm ht),ma,<-h.at]
   exact (wz he).symm
  ·rw [if_neg ht,List.append_nil];exact h.eq t
 ·rcases List.mem_append.1 hk with hk | hk
  ·exact Int.le_trans (h.qt k hk) hm
  ·rw [List.mem_singleton.1 hk];exact Int.le_refl m
theorem Lin.both {p q:List LK} {n m:Int} (h:Lin p q n) (hm:n<=m) (a b:TX):Lin (p++[⟨a,b,m⟩]) (q++[⟨a,b,m⟩]) m:=by
 refine ⟨λt=>?_,λk hk=>?_,λk hk=>?_⟩
 ·rw [kj,kj]
  by_cases ht:m<=t
  ·rw [if_pos ht,ma,ma,h.eq t]
  ·rw [if_neg ht,List.append_nil,List.append_nil];exact h.eq t
 ·rcases List.mem_append.1 hk with hk | hk
  ·exact Int.le_trans (h.pt k hk) hm
  ·rw [List.mem_singleton.1 hk];exact Int.le_refl m
 ·rcases List.mem_append.1 hk with hk | hk
  ·exact Int.le_trans (h.qt k hk) hm
  ·rw [List.mem_singleton.1 hk];exact Int.le_refl m
theorem pf (l:List EV) (e:EV) (h:e.kind=3):eP (l++[e])=eP l++[⟨e.id,e.other,e.time⟩]:=by
 unfold eP evK
 rw [List.filter_append,List.map_append]
 congr 1
 simp [h]
theorem nN (l:List EV) (e:EV) (h:e.kind≠3):eP (l++[e])=eP l:=by
 unfold eP evK
 rw [List.filter_append]
 simp [h]
end Go.WF

namespace Go.WF
open Go Go.Ab Go.Proofs
abbrev ATX:Type:=SL×Bool
def φAt (x:ATX):AV×List AO:=(.tup [.agg x.1.c,.bool x.2],[])
noncomputable def VAt:Env:={V0 with hint:=λf t=>cond (Nat.beq f 43) (hn [2,3,8,10,11,22,23,24] [8] [] []) (V0.hint f t)}
noncomputable instance envAt:EnvOk VAt wd:=⟨rfl,rfl,gX,ig⟩
noncomputable abbrev eUt:Ent:=du wd cv φLk rUt
theorem FT {l x:List LK} {t:Int} {os:List AO} (hl:l.length<=1000000) (q:rUt [lkA l,.int .i64 t] os x):x.length<=1000000:=by
 rw [q l t rfl];exact Nat.le_trans (lS l t) hl
def ec {τ:Type} (_:List AV) (_:List AO) (_:τ):Prop:=True
noncomputable def atB (l:List LK) (y z:TX) (n:Int) (s:SL):Bool:=bif bif bif s.layer==y then decide (s.fr<=n) else false then bif s.fin==0 then true else decide (s.to > n) else false then ar (ofF l) s.id==z else false
noncomputable def atG (l:List LK) (y z:TX) (n:Int) (ss:List SL):ATX:=match ss.find? (atB l y z n) with
 | some s=>(s,true)
 | none=>(default,false)
noncomputable def atF (r:RG) (a y:TX) (n:Int):ATX:=atG (bq r.ls n) y (ar (ofF (bq r.ls n)) a) n r.ss
def AtI (l:List LK) (y z:TX) (n:Int) (ss:List SL) (v:Nat):Prop:=v<=ss.length/\ss.find? (atB l y z n)=(ss.drop v).find? (atB l y z n)
def AtP (l:List LK) (y z:TX) (n:Int) (ss:List SL) (t:Bool×SL):Prop:=(t.2,t.1)=atG l y z n ss
section
variable {r:RG} {l:List LK} {y z:TX} {n:Int} {v:Nat}
theorem FP (hs:r.ss.length<=1000000) (h:v < r.ss.length):{env:=[(2,.str y),(3,.int .i64 n),(8,.ref 8 0),(10,lkA l),(11,.str z),(22,slA r.ss),(23,.int .i64 r.ss.length),(24,.int .i64 (IntKind.wrap .i64 ((v:Int)+1)))],objs:=[(8,.cells [.str [],.str [],.str [],.int .i64 0,.int .i64 0,.int .i64 0,.int .i64 0])]}=(λv:Nat=>({env:=[(2,.str y),(3,.int .i64 n),(8,.ref 8 0),(10,lkA l),(11,.str z),(22,slA r.ss),(23,.int .i64 r.ss.length),(24,.int .i64 (v:Int))],objs:=[(8,.cells [.str [],.str [],.str [],.int .i64 0,.int .i64 0,.int .i64 0,.int .i64 0])]}:St)) (v+1):=by
 rw [c8 (by omega)]
theorem vy (h:v < r.ss.length):r.ss.drop v=r.ss.getD v default::r.ss.drop (v+1):=by
 rw [List.getD_eq_getElem?_getD,List.getElem?_eq_getElem h]
 exact List.drop_eq_getElem_cons h
theorem AU (hv:AtI l y z n r.ss v) (h:v < r.ss.length) {x:TX} (q:x=ar (ofF l) (r.ss.getD v default).id) (h3:(bif bif bif SL.layer (List.getD (RG.ss r) v default)==y then decide (SL.fr (List.getD (RG.ss r) v default)<=n) else false then bif SL.fin (List.getD (RG.ss r) v default)==0 then true else decide (SL.to (List.getD (RG.ss r) v default) > n) else false then x==z else false)=true):AtP l y z n r.ss (true,r.ss.getD v default):=by
 have hb:atB l y z n (r.ss.getD v default)=true:=by rw [q] at h3;exact h3
 unfold AtP atG
 rw [hv.2,vy h,List.find?_cons,hb]
theorem Dp (hv:AtI l y z n r.ss v) (h:v < r.ss.length) {x:TX} (q:x=ar (ofF l) (r.ss.getD v default).id) (h3:(bif bif bif SL.layer (List.getD (RG.ss r) v default)==y then decide (SL.fr (List.getD (RG.ss r) v default)<=n) else false then bif SL.fin (List.getD (RG.ss r) v default)==0 then true else decide (SL.to (List.getD (RG.ss r) v default) > n) else false then x==z else false)=false):AtI l y z n r.ss (v+1):=by
 have hb:atB l y z n (r.ss.getD v default)=false:=by rw [q] at h3;exact h3
 refine ⟨h,?_⟩
 rw [hv.2,vy h,List.find?_cons,hb]
theorem AW (hv:AtI l y z n r.ss v) (h:decide ((v:Int) < (r.ss.length:Int))=false):AtP l y z n r.ss (false,default):=by
 have h:=of_decide_eq_false h
 have:=hv.1
 unfold AtP atG
 rw [hv.2,List.drop_eq_nil_of_le (by omega)]
 rfl
end
theorem yR (r:RG) (l:List LK) (y z:TX) (n:Int) (hl:l.length<=1000000) (hs:r.ss.length<=1000000):∃ (u:St->Bool) (w:St->Bool×SL),(∀v:Nat,AtI l y z n r.ss v->cg u w ((λv:Nat=>({env:=[(2,.str y),(3,.int .i64 n),(8,.ref 8 0),(10,lkA l),(11,.str z),(22,slA r.ss),(23,.int .i64 r.ss.length),(24,.int .i64 (v:Int))],objs:=[(8,.cells [.str [],.str [],.str [],.int .i64 0,.int .i64 0,.int .i64 0,.int .i64 0])]}:St)) v) (AtP l y z n r.ss))/\∀L:List (List Nat×Orc),bW (VAt.run [eUt,eRo] 1 [] L [] fP) fP [1,1,1,0,1,0] (mkO u w (λ(t:Bool×SL) k=>cond t.1 (k .ret {env:=[(8,.ref 8 0),(9,.bool true)],objs:=[(8,.cells t.2.c)]}) (k (.exit 0) {env:=[(8,.ref 8 0)],objs:=[(8,.cells t.2.c)]}))):=
 c6 (Lf:=λL=>L) (λv:Nat=>{env:=[(2,.str y),(3,.int .i64 n),(8,.ref 8 0),(10,lkA l),(11,.str z),(22,slA r.ss),(23,.int .i64 r.ss.length),(24,.int .i64 (v:Int))],objs:=[(8,.cells [.str [],.str [],.str [],.int .i64 0,.int .i64 0,.int .i64 0,.int .i64 0])]}) (AtI l y z n r.ss) (λv=>r.ss.length - v) (λ(t:Bool×SL) k=>cond t.1 (k .ret {env:=[(8,.ref 8 0),(9,.bool true)],objs:=[(8,.cells t.2.c)]}) (k (.exit 0) {env:=[(8,.ref 8 0)],objs:=[(8,.cells t.2.c)]})) (AtP l y z n r.ss) (by kernel_rfl) (λv hv=>.b (decide ((↑v:Int) < (↑(List.length (RG.ss r)):Int))) (λh1=>
   .n (c:=within (↑v:Int) (List.length (RG.ss r))) (bJ (bF h1)) (
   .call (nH l (r.ss.getD v default).id hl) λr2 q2=>
   .b (bif bif bif SL.layer (List.getD (RG.ss r) v default)==y then decide (SL.fr (List.getD (RG.ss r) v default)<=n) else false then bif SL.fin (List.getD (RG.ss r) v default)==0 then true else decide (SL.to (List.getD (RG.ss r) v default) > n) else false then r2==z else false) (λh3=>
    .fi (true,r.ss.getD v default) (AU hv (bF h1) (rRo.eq q2) h3)) λh3=>
   .go {env:=[(2,.str y),(3,.int .i64 n),(8,.ref 8 0),(10,lkA l),(11,.str z),(22,slA (RG.ss r)),(23,.int .i64 (↑(List.length (RG.ss r)):Int)),(24,.int .i64 (IntKind.wrap .i64 ((↑v:Int)+1)))],objs:=[(8,.cells [.str [],.str [],.str [],.int .i64 0,.int .i64 0,.int .i64 0,.int .i64 0])]} (v+1) (Dp hv (bF h1) (rRo.eq q2) h3) (o9 (bF h1)) (FP hs (bF h1)))) λh1=>
  .fi (false,default) (AW hv h1)) (λv L k kn=>by kernel_rfl)
theorem FU {r:RG} {a y:TX} {n:Int} {u:St->Bool} {w:St->Bool×SL} {Q:Bool×SL->Prop} (hu:∀v:Nat,AtI (bq r.ls n) y (ar (ofF (bq r.ls n)) a) n r.ss v->cg u w ((λv:Nat=>({env:=[(2,.str y),(3,.int .i64 n),(8,.ref 8 0),(10,lkA (bq r.ls n)),(11,.str (ar (ofF (bq r.ls n)) a)),(22,slA r.ss),(23,.int .i64 r.ss.length),(24,.int .i64 (v:Int))],objs:=[(8,.cells [.str [],.str [],.str [],.int .i64 0,.int .i64 0,.int .i64 0,.int .i64 0])]}:St)) v) Q) {os:List AO} {x:List LK} (q:rUt [lkA r.ls,.int .i64 n] os x) {t:TX} (q2:rRo [lkA x,.str a] [] t):cg u w {env:=[(2,.str y),(3,.int .i64 n),(8,.ref 8 0),(10,lkA x),(11,.str t),(22,slA r.ss),(23,.int .i64 r.ss.length),(24,.int .i64 0)],objs:=[(8,.cells [.str [],.str [],.str [],.int .i64 0,.int .i64 0,.int .i64 0,.int .i64 0])]} Q:=by
 rw [rRo.eq q2,q r.ls n rfl];exact hu 0 ⟨Nat.zero_le _,rfl⟩
def rAt (A:List AV) (_:List AO) (x:ATX):Prop:=∀r a y n,A=[rgA r,.str a,.str y,.int .i64 n]->x=atF r a y n
theorem rAt.mk {r:RG} {a y:TX} {n:Int} {os:List AO} {x:ATX} (h:x=atF r a y n):rAt [rgA r,.str a,.str y,.int .i64 n] os x:=by
 intro r' a' y' n' e
 simp only [List.cons.injEq,AV.str.injEq,AV.int.injEq,true_and,and_true] at e
 obtain ⟨e1,e2,e3,e4⟩:=e
 rw [<-gT e1,<-e2,<-e3,<-e4];exact h
section
variable {r:RG} {a y:TX} {n:Int} {os:List AO} {t:Bool×SL}
theorem FQ (q:AtP (bq r.ls n) y (ar (ofF (bq r.ls n)) a) n r.ss t) (h:t.1=true):rAt [rgA r,.str a,.str y,.int .i64 n] os (t.2,true):=.mk (by rw [<-h];exact q)
theorem Dn (q:AtP (bq r.ls n) y (ar (ofF (bq r.ls n)) a) n r.ss t) (h:t.1=false):rAt [rgA r,.str a,.str y,.int .i64 n] os (default,false):=.mk (by
 have q:(t.2,t.1)=atF r a y n:=q
 unfold atF atG at q ⊢
 rw [h] at q
 split at q
 ·injection q with _ q;cases q
 ·rfl)
end
theorem AX (r:RG) (a y:TX) (n:Int) (hl:r.ls.length<=1000000) (hs:r.ss.length<=1000000):bo wd fP φAt rAt [rgA r,.str a,.str y,.int .i64 n] []:=by
 obtain ⟨u,w,hu,hc⟩:=yR r (bq r.ls n) y (ar (ofF (bq r.ls n)) a) n (Nat.le_trans (lS _ _) hl) hs
 exact a7 (V:=VAt) (T:=[eUt,eRo]) (d:=1) 0 (aZ (hc _) aq) ao (.call (zo r.ls n hl) λr1 q1=>
  .call (nH r1 a (FT hl q1)) λr2 q2=>
  .lp (FU hu q1 q2) λr3 q3=>
  .b (r3.1) (λh4=>
   .r (r3.2,true) (FQ q3 h4)) λh4=>
  .r (default,false) (Dn q3 h4)) (by kernel_rfl)
noncomputable abbrev eAt:Ent:=du wd fP φAt rAt
end Go.WF

namespace Go.WF
open Go Go.Ab Go.Proofs
def CcR (r:RG) (a y:TX) (x:ATX):Prop:=
 (x.2=true/\∃i:Nat,i < r.ss.length/\pIx r y (ar (ofF r.ls) a) r.ss i=true/\(∀j,j < i->pIx r y (ar (ofF r.ls) a) r.ss j=false)/\x.1=r.ss.getD i default) ∨
 (x=(default,false)/\∀j,j < r.ss.length->pIx r y (ar (ofF r.ls) a) r.ss j=false)
section
variable {r:RG} {a y:TX} {i:Int} {os:List AO}
theorem FO (q:vI [rgA r,.str a,.str y] os i) (h:decide (i≥0)=true):CcR r a y (r.ss.getD (Int.toNat i) default,true):=by
 have h:=of_decide_eq_true h
 rcases q r a y rfl with ⟨j,e,h1,h2,h3⟩ | ⟨e,_⟩
 ·subst e;exact .inl ⟨rfl,j,h1,h2,h3,rfl⟩
 ·omega
theorem FN (q:vI [rgA r,.str a,.str y] os i) (h:decide (i≥0)=false):CcR r a y (default,false):=by
 have h:=of_decide_eq_false h
 rcases q r a y rfl with ⟨j,e,_⟩ | ⟨_,e⟩
 ·omega
 ·exact .inr ⟨rfl,e⟩
end
def rCc (l:List AV) (_:List AO) (x:ATX):Prop:=∀r a y,l=[rgA r,.str a,.str y]->CcR r a y x
theorem rCc.mk {r:RG} {a y:TX} {os:List AO} {x:ATX} (h:CcR r a y x):rCc [rgA r,.str a,.str y] os x:=by
 intro r' a' y' e
 simp only [List.cons.injEq,AV.str.injEq,and_true] at e
 obtain ⟨e1,e2,e3⟩:=e
 rw [<-gT e1,<-e2,<-e3];exact h
theorem AJ (r:RG) (a y:TX) (h:VR r):bo wd iX φAt rCc [rgA r,.str a,.str y] []:=by
 have hl:r.ls.length<=1000000:=by have:=h.nls;omega
 have hs:r.ss.length<=1000000:=by have:=h.nss;omega
 exact (a7 (V:=V0) (T:=[eVa,Bc]) (d:=1) (R:=λ_ _ x=>CcR r a y x) 0 aq ao (.call (tH h) λr1 q1=>
  .no (c:=!r1) (a:=some ((.tup [.agg [.str [],.str [],.str [],.int .i64 0,.int .i64 0,.int .i64 0,.int .i64 0],.bool false],[]))) (DF q1) (
  .call (xq r a y hl hs) λr3 q3=>
  .b (decide (r3≥0)) (λh4=>
   .n (c:=within r3 (List.length (RG.ss r))) (D4 q3 h4) (
   .r (r.ss.getD (Int.toNat r3) default,true) (FO q3 h4))) λh4=>
  .r (default,false) (FN q3 h4))) (by kernel_rfl)).mono λx hx=>rCc.mk hx
noncomputable abbrev eCc:Ent:=du wd iX φAt rCc
end Go.WF

namespace Go.WF
open Go Go.Ab Go.Proofs
abbrev bB:TX:=[97,110,110]
abbrev aB:TX:=[104,111,109,101]
abbrev cR:TX:=[98,108,117,101]
theorem nO:cC bB=true:=by kernel_rfl
theorem rN:cC aB=true:=by kernel_rfl
theorem wx:cC cR=true:=by kernel_rfl
theorem Bi:VR rg0:=⟨⟨by decide,by decide⟩,by decide,by decide,λi h=>absurd h (Nat.not_lt_zero _),λh=>absurd h (Nat.not_lt_zero _),λi h=>absurd h (Nat.not_lt_zero _),λi j _ h=>absurd h (Nat.not_lt_zero _)⟩
end Go.WF

namespace Go.WF
open Go Go.Ab Go.Proofs
def nQ:List TX:=[[97,110,110],[98,111,98],[99,97,116],[100,97,110],[101,118,101],[102,97,121]]
theorem yh:∀x∈nQ,cC x=true:=by
 intro x hx
 simp only [nQ,List.mem_cons,List.not_mem_nil,or_false] at hx
 rcases hx with rfl | rfl | rfl | rfl | rfl | rfl <;> kernel_rfl
theorem CF:Tr (.sl .fit 1 6 (ai [.str []] [(0,.str [97,110,110]),(1,.str [98,111,98]),(2,.str [99,97,116]),(3,.str [100,97,110]),(4,.str [101,118,101]),(5,.str [102,97,121])]),[]) (φS nQ):=
 .one (eE λj hj=>by
  match j,hj with
  | 0,_=>rfl
  | 1,_=>rfl
  | 2,_=>rfl
  | 3,_=>rfl
  | 4,_=>rfl
  | 5,_=>rfl)
theorem xk:bo wd fX φS (rE nQ) [] []:=
 a7 (V:=V0) (T:=[]) (d:=1) 0 aq ao (.t nQ rfl CF) (by kernel_rfl)
noncomputable abbrev FC:Ent:=du wd fX φS (rE nQ)
def idF (n:Nat):TX:=nQ.getD (n % 6) []
theorem uY (n:Nat):idF n∈nQ:=by
 have h:n % 6 < nQ.length:=Nat.mod_lt _ (by decide)
 unfold idF
 rw [List.getD_eq_getElem?_getD,List.getElem?_eq_getElem h]
 exact List.getElem_mem h
theorem uZ (n:Nat):cC (idF n)=true:=yh _ (uY n)
section
variable {l:List AV} {os:List AO} {x y:List TX}
theorem Fi (h:rE nQ l os y):((List.length y:Int) !=0)=true:=by
 have h:y=nQ:=h
 subst h;rfl
theorem zt (n:Nat):Int.tmod (n:Int) 6=((n % 6:Nat):Int):=by
 rw [Int.tmod_eq_emod_of_nonneg (by omega)];omega
theorem Fh (h:rE nQ l os x) (h2:rE nQ l os y) (n:Nat):within (Int.tmod (n:Int) (List.length y:Int)) (List.length y)=true:=by
 have h2:y=nQ:=h2
 subst h2
 show within (Int.tmod (n:Int) 6) 6=true
 rw [zt];exact bJ (Nat.mod_lt _ (by decide))
theorem Fg (h:rE nQ l os x) (h2:rE nQ l os y) (n:Nat):List.getD y (Int.toNat (Int.tmod (n:Int) (List.length y:Int))) []=idF n:=by
 have h2:y=nQ:=h2
 subst h2
 show List.getD nQ (Int.toNat (Int.tmod (n:Int) 6)) []=idF n
 rw [zt,Int.toNat_natCast];rfl
end
def rId (l:List AV) (_:List AO) (x:TX):Prop:=∀n:Nat,l=[.int .i64 (n:Int)]->x=idF n
theorem CG (n:Nat):bo wd eQ φTX rId [.int .i64 (n:Int)] []:=
 (a7 (V:=V0) (T:=[FC]) (d:=1) (R:=rE (idF n)) 0 aq ao (.call (xk) λr1 q1=>
  .call (xk) λr2 q2=>
  .n (c:=(↑(List.length r2):Int) !=0) (Fi q2) (
  .n (c:=within (Int.tmod (↑n:Int) (↑(List.length r2):Int)) (List.length r2)) (Fh q1 q2 n) (
  .r _ (Fg q1 q2 n)))) (by kernel_rfl)).mono λx hx m hm=>by
  injection hm with hm _
  injection hm with _ hm
  have hx:x=idF n:=hx
  rw [hx,show n=m by omega]
noncomputable abbrev eId:Ent:=du wd eQ φTX rId
end Go.WF

namespace Go.WF
open Go Go.Ab Go.Proofs
structure FD where
 layer:TX
 exp:TX
 arm:Int
instance:Inhabited FD:=⟨⟨[],[],0⟩⟩
def FD.c (x:FD):List AV:=[.str x.layer,.str x.exp,.int .i64 x.arm]
def fdA (l:List FD):AV:=.sl .no 3 l.length λj=>(l.getD j default).c
structure SPN where
 fr:Int
 to:Int
 v:Int
instance:Inhabited SPN:=⟨⟨0,0,0⟩⟩
def SPN.c (x:SPN):List AV:=[.int .i64 x.fr,.int .i64 x.to,.int .i64 x.v]
def spA (l:List SPN):AV:=.sl .no 3 l.length λj=>(l.getD j default).c
abbrev FOX:Type:=FD×Bool
def φFo (x:FOX):AV×List AO:=(.tup [.agg x.1.c,.bool x.2],[])
def FnI {α:Type} (p:α->Bool) (l:List α) (v:Nat):Prop:=v<=l.length/\l.find? p=(l.drop v).find? p
section
variable {α:Type} [Inhabited α] {p:α->Bool} {l:List α} {v:Nat}
theorem vd (h:v < l.length):l.drop v=l.getD v default::l.drop (v+1):=by
 rw [List.getD_eq_getElem?_getD,List.getElem?_eq_getElem h]
 exact List.drop_eq_getElem_cons h
theorem xl (hv:FnI p l v) (h:v < l.length) (hp:p (l.getD v default)=true):l.find? p=cond true (some (l.getD v default)) none:=by
 rw [hv.2,vd h,List.find?_cons,hp];rfl
theorem Ai (hv:FnI p l v) (h:v < l.length) (hp:p (l.getD v default)=false):FnI p l (v+1):=
 ⟨h,by rw [hv.2,vd h,List.find?_cons,hp]⟩
omit [Inhabited α] in
theorem xm (hv:FnI p l v) (h:l.length<=v):l.find? p=none:=by
 rw [hv.2,List.drop_eq_nil_of_le h];rfl
theorem DM {a b:Nat} (h:decide ((a:Int) < (b:Int))=false):b<=a:=by have:=of_decide_eq_false h;omega
end
theorem FD.ju {x y:FD} (h:x.c=y.c):x=y:=by
 cases x;cases y
 simp only [FD.c,List.cons.injEq,AV.str.injEq,AV.int.injEq,true_and,and_true] at h
 obtain ⟨h1,h2,h3⟩:=h
 subst h1 h2 h3;rfl
theorem SPN.ju {x y:SPN} (h:x.c=y.c):x=y:=by
 cases x;cases y
 simp only [SPN.c,List.cons.injEq,AV.int.injEq,true_and,and_true] at h
 obtain ⟨h1,h2,h3⟩:=h
 subst h1 h2 h3;rfl
theorem vh {a b:List FD} (h:fdA a=fdA b):a=b:=by
 injection h with _ _ h1 h2
 exact jP (f:=FD.c) (λ_ _=>FD.ju) h1 h2
theorem xE {a b:List SPN} (h:spA a=spA b):a=b:=by
 injection h with _ _ h1 h2
 exact jP (f:=SPN.c) (λ_ _=>SPN.ju) h1 h2
def foB (y:TX) (f:FD):Bool:=f.layer==y
def foF (l:List FD) (y:TX):FOX:=match l.find? (foB y) with
 | some f=>(f,true)
 | none=>(default,false)
def rFo (A:List AV) (_:List AO) (x:FOX):Prop:=∀l y,A=[fdA l,.str y]->x=foF l y
def pkB (b:Int) (r:SPN):Bool:=bif decide (r.fr<=b) then decide (b < r.to) else false
def pkF (l:List SPN) (b:Int):Int:=match l.find? (pkB b) with
 | some r=>r.v
 | none=>0
def rPk (A:List AV) (_:List AO) (x:Int):Prop:=∀l b,A=[spA l,.int .i64 b]->x=pkF l b
section
variable {l:List FD} {y:TX} {os:List AO} {t:Bool×FD} {s:Bool×Int} {m:List SPN} {b:Int} {v:Nat}
theorem Ag {x:FOX} (h:x=foF l y):rFo [fdA l,.str y] os x:=by
 intro l' y' e
 simp only [List.cons.injEq,AV.str.injEq,and_true] at e
 rw [<-vh e.1,<-e.2];exact h
theorem Fm (q:l.find? (foB y)=cond t.1 (some t.2) none) (h:t.1=true):rFo [fdA l,.str y] os (t.2,true):=Ag (by unfold foF;rw [q,h];rfl)
theorem CH (q:l.find? (foB y)=cond t.1 (some t.2) none) (h:t.1=false):rFo [fdA l,.str y] os (default,false):=Ag (by unfold foF;rw [q,h];rfl)
theorem zO {x:Int} (h:x=pkF m b):rPk [spA m,.int .i64 b] os x:=by
 intro l' y' e
 simp only [List.cons.injEq,AV.int.injEq,true_and,and_true] at e
 rw [<-xE e.1,<-e.2];exact h
theorem zN (hv:FnI (pkB b) m v) (h:v < m.length) (hp:pkB b (m.getD v default)=true):pkF m b=cond true (m.getD v default).v 0:=by
 have:=xl hv h hp
 unfold pkF;rw [this];rfl
theorem zP (hv:FnI (pkB b) m v) (h:m.length<=v):pkF m b=cond false 0 0:=by
 unfold pkF;rw [xm hv h];rfl
theorem EO (q:pkF m b=cond s.1 s.2 0) (h:s.1=true):rPk [spA m,.int .i64 b] os s.2:=zO (by rw [q,h];rfl)
theorem BX (q:pkF m b=cond s.1 s.2 0) (h:s.1=false):rPk [spA m,.int .i64 b] os 0:=zO (by rw [q,h];rfl)
end
section
variable {v:Nat}
theorem Fl {l:List FD} {y:TX} (hl:l.length<=1000000) (h:v < l.length):{env:=[(1,.str y),(4,.ref 4 0),(8,fdA l),(9,.int .i64 l.length),(10,.int .i64 (IntKind.wrap .i64 ((v:Int)+1)))],objs:=[(4,.cells [.str [],.str [],.int .i64 0])]}=(λv:Nat=>({env:=[(1,.str y),(4,.ref 4 0),(8,fdA l),(9,.int .i64 l.length),(10,.int .i64 (v:Int))],objs:=[(4,.cells [.str [],.str [],.int .i64 0])]}:St)) (v+1):=by
 rw [c8 (by omega)]
theorem EN {l:List SPN} {b:Int} (hl:l.length<=1000000) (h:v < l.length):{env:=[(1,.int .i64 b),(7,spA l),(8,.int .i64 l.length),(9,.int .i64 (IntKind.wrap .i64 ((v:Int)+1)))],objs:=[]}=(λv:Nat=>({env:=[(1,.int .i64 b),(7,spA l),(8,.int .i64 l.length),(9,.int .i64 (v:Int))],objs:=[]}:St)) (v+1):=by
 rw [c8 (by omega)]
end
theorem yl (l:List FD) (y:TX) (hl:l.length<=1000000):∃ (u:St->Bool) (w:St->Bool×FD),(∀v:Nat,FnI (foB y) l v->cg u w ((λv:Nat=>({env:=[(1,.str y),(4,.ref 4 0),(8,fdA l),(9,.int .i64 l.length),(10,.int .i64 (v:Int))],objs:=[(4,.cells [.str [],.str [],.int .i64 0])]}:St)) v) λt=>l.find? (foB y)=cond t.1 (some t.2) none)/\∀L:List (List Nat×Orc),bW (V0.run [] 1 [] L [] ff) ff [1,0,1,0] (mkO u w (λ(t:Bool×FD) k=>cond t.1 (k .ret {env:=[(4,.ref 4 0),(5,.bool true)],objs:=[(4,.cells t.2.c)]}) (k (.exit 0) {env:=[(4,.ref 4 0)],objs:=[(4,.cells t.2.c)]}))):=
 c6 (Lf:=λL=>L) (λv:Nat=>{env:=[(1,.str y),(4,.ref 4 0),(8,fdA l),(9,.int .i64 l.length),(10,.int .i64 (v:Int))],objs:=[(4,.cells [.str [],.str [],.int .i64 0])]}) (FnI (foB y) l) (λv=>l.length - v) (λ(t:Bool×FD) k=>cond t.1 (k .ret {env:=[(4,.ref 4 0),(5,.bool true)],objs:=[(4,.cells t.2.c)]}) (k (.exit 0) {env:=[(4,.ref 4 0)],objs:=[(4,.cells t.2.c)]})) (λt=>l.find? (foB y)=cond t.1 (some t.2) none) (by kernel_rfl) (λv hv=>.b (decide ((↑v:Int) < (↑(List.length l):Int))) (λh1=>
   .n (c:=within (↑v:Int) (List.length l)) (bJ (bF h1)) (
   .b (FD.layer (List.getD l v default)==y) (λh2=>
    .fi (true,l.getD v default) (xl hv (bF h1) h2)) λh2=>
   .go {env:=[(1,.str y),(4,.ref 4 0),(8,fdA l),(9,.int .i64 (↑(List.length l):Int)),(10,.int .i64 (IntKind.wrap .i64 ((↑v:Int)+1)))],objs:=[(4,.cells [.str [],.str [],.int .i64 0])]} (v+1) (Ai hv (bF h1) h2) (o9 (bF h1)) (Fl hl (bF h1)))) λh1=>
  .fi (false,default) (xm hv (DM h1))) (λv L k kn=>by kernel_rfl)
theorem CI (l:List FD) (y:TX) (hl:l.length<=1000000):bo wd ff φFo rFo [fdA l,.str y] []:=by
 obtain ⟨u,w,hu,hc⟩:=yl l y hl
 exact a7 (V:=V0) (T:=[]) (d:=1) 0 (aZ (hc _) aq) ao (.lp (hu 0 ⟨Nat.zero_le _,rfl⟩) λr1 q1=>
  .b (r1.1) (λh2=>
   .r (r1.2,true) (Fm q1 h2)) λh2=>
  .r (default,false) (CH q1 h2)) (by kernel_rfl)
theorem xS (l:List SPN) (b:Int) (hl:l.length<=1000000):∃ (u:St->Bool) (w:St->Bool×Int),(∀v:Nat,FnI (pkB b) l v->cg u w ((λv:Nat=>({env:=[(1,.int .i64 b),(7,spA l),(8,.int .i64 l.length),(9,.int .i64 (v:Int))],objs:=[]}:St)) v) λt=>pkF l b=cond t.1 t.2 0)/\∀L:List (List Nat×Orc),bW (V0.run [] 1 [] L [] fy) fy [1,0,1,0] (mkO u w (λ(t:Bool×Int) k=>cond t.1 (k .ret {env:=[(4,.int .i64 t.2)],objs:=[]}) (k (.exit 0) {env:=[],objs:=[]}))):=
 c6 (Lf:=λL=>L) (λv:Nat=>{env:=[(1,.int .i64 b),(7,spA l),(8,.int .i64 l.length),(9,.int .i64 (v:Int))],objs:=[]}) (FnI (pkB b) l) (λv=>l.length - v) (λ(t:Bool×Int) k=>cond t.1 (k .ret {env:=[(4,.int .i64 t.2)],objs:=[]}) (k (.exit 0) {env:=[],objs:=[]})) (λt=>pkF l b=cond t.1 t.2 0) (by kernel_rfl) (λv hv=>.b (decide ((↑v:Int) < (↑(List.length l):Int))) (λh1=>
   .n (c:=within (↑v:Int) (List.length l)) (bJ (bF h1)) (
   .b (bif decide (SPN.fr (List.getD l v default)<=b) then decide (b < SPN.to (List.getD l v default)) else false) (λh2=>
    .fi (true,(l.getD v default).v) (zN hv (bF h1) h2)) λh2=>
   .go {env:=[(1,.int .i64 b),(7,spA l),(8,.int .i64 (↑(List.length l):Int)),(9,.int .i64 (IntKind.wrap .i64 ((↑v:Int)+1)))],objs:=[]} (v+1) (Ai hv (bF h1) h2) (o9 (bF h1)) (EN hl (bF h1)))) λh1=>
  .fi (false,0) (zP hv (DM h1))) (λv L k kn=>by kernel_rfl)
theorem BZ (l:List SPN) (b:Int) (hl:l.length<=1000000):bo wd fy φIn rPk [spA l,.int .i64 b] []:=by
 obtain ⟨u,w,hu,hc⟩:=xS l b hl
 exact a7 (V:=V0) (T:=[]) (d:=1) 0 (aZ (hc _) aq) ao (.lp (hu 0 ⟨Nat.zero_le _,rfl⟩) λr1 q1=>
  .b (r1.1) (λh2=>
   .r r1.2 (EO q1 h2)) λh2=>
  .r 0 (BX q1 h2)) (by kernel_rfl)
noncomputable abbrev FE:Ent:=du wd ff φFo rFo
end Go.WF
