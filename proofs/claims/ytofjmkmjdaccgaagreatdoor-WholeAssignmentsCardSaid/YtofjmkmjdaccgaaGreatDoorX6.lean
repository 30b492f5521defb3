/- text.Key. Registers that are valid. The open slot of a layer. Assign. A view: a slice in a variable's cell, nobody's from here on. Merge. Registers stay valid. The register's links and the events' links. The slot at a time. The open slot of an id. The sanity check of registers. The ids of made data. Forced assignments and ranges of buckets: any answers. -/
import Derived.Test.YtofjmkmjdaccgaaGreatDoorX5
set_option linter.unusedVariables false
set_option linter.unusedSimpArgs false
namespace Go.WF
open Go Go.Ab Go.Proofs
set_option linter.unusedSectionVars false
def vW:List UInt8:=[97,110,100,32,97,114,109,115,32,97,116,116,114,105,98,117,116,101,32,98,111,111,108,32,99,108,97,105,109,115,32,99,111,110,116,97,105,110,115,32,99,111,111,108,32,99,111,111,108,105,110,103,32,100,101,102,97,117,108,116,32,100,114,97,102,116,32,101,110,100,115,32,101,120,99,108,117,100,101,32,101,120,105,115,116,115,32,101,120,112,101,114,105,109,101,110,116,32,102,97,108,115,101,32,102,108,97,103,32,104,111,108,100,111,117,116,32,105,110,32,105,110,99,108,117,100,101,32,105,115,32,108,97,121,101,114,32,108,105,115,116,32,109,101,109,98,101,114,32,110,101,101,100,115,32,110,111,116,32,110,117,109,98,101,114,32,111,102,102,32,111,110,32,111,114,32,114,117,108,101,32,114,117,110,110,105,110,103,32,115,97,108,116,32,115,101,103,109,101,110,116,32,115,101,114,118,101,32,115,101,116,116,105,110,103,115,32,115,112,108,105,116,32,115,116,97,114,116,115,32,115,116,111,112,112,101,100,32,116,97,114,103,101,116,32,116,101,120,116,32,116,111,32,116,114,117,101,32,117,110,116,105,108,32,118,97,114,105,97,116,105,111,110,115,32,118,101,114,115,105,111,110,32,119,104,101,110]
def Ig:List UInt8->List UInt8->List (List UInt8)
 | [],w=>[w]
 | c::r,w=>if c=32 then w::Ig r [] else Ig r (w++[c])
def tZ:List (List UInt8):=Ig vW []
def sK:Option (AV×List AO)->Bool
 | some (.sl _ 1 46 get,[])=>wL 46 (λj=>[.str (tZ.getD j [])]) get
 | _=>false
theorem sJ {x:Option (AV×List AO)} (h:sK x=true):∃o get,x=some (.sl o 1 46 get,[])/\wL 46 (λj=>[.str (tZ.getD j [])]) get=true:=by
 unfold sK at h
 split at h
 ·exact ⟨_,_,rfl,h⟩
 ·cases h
def yA (l:List (List UInt8)):AV:=.sl .no 1 l.length λj=>[.str (l.getD j [])]
theorem tY:tZ.length=46:=by kernel_rfl
def Sa (s:List UInt8) (i:Nat):St:={env:=[(0,.str s),(17,.ref 17 0)],objs:=[(17,.iter s i)]}
def lF (i:Nat) (c:Nat):Bool:=bif !bif decide ((c:Int)≥97) then decide ((c:Int)<=122) else false then bif (i:Int)==0 then true else bif bif !bif decide ((c:Int)≥48) then decide ((c:Int)<=57) else false then (c:Int) !=45 else false then (c:Int) !=95 else false else false
def oQ (s:List UInt8):Bool×Bool:=seek s.length (·+1) (λi=>lF i (s.getD i 0).toNat) false
def yq (s:List UInt8):Bool:=!(oQ s).1&&decide (0 < s.length)
def rR (s:List UInt8):Bool×Bool:=seek tZ.length (·+1) (λi=>tZ.getD i []==s) false
def cw (s:List UInt8):Bool:=yq s&&(decide (s.length<=32)&&!(rR s).1)
def φB (b:Bool):AV×List AO:=(.bool b,[])
def φS (l:List (List UInt8)):AV×List AO:=(yA l,[])
theorem mb {i c:Nat} (h:128<=c):lF i c=true:=by
 unfold lF
 rw [decide_eq_true (show (c:Int)≥97 by omega),decide_eq_false (show ¬ (c:Int)<=122 by omega),decide_eq_true (show (c:Int)≥48 by omega),decide_eq_false (show ¬ (c:Int)<=57 by omega)]
 rw [show ((c:Int) !=45)=true by simp;omega,show ((c:Int) !=95)=true by simp;omega]
 cases ((i:Int)==0) <;> rfl
theorem ma (i c:Nat):(bif !bif decide ((c:Int)≥97) then decide ((c:Int)<=122) else false then bif (i:Int)==0 then true else bif bif bif decide ((c:Int) < 48) then true else decide ((c:Int) > 57) then (c:Int) !=45 else false then (c:Int) !=95 else false else false)=lF i c:=by
 unfold lF
 have e1:decide ((c:Int) < 48)=!decide ((c:Int)≥48):=by
  by_cases h:(c:Int)≥48
  ·rw [decide_eq_true h,decide_eq_false (by omega)];rfl
  ·rw [decide_eq_false h,decide_eq_true (by omega)];rfl
 have e2:decide ((c:Int) > 57)=!decide ((c:Int)<=57):=by
  by_cases h:(c:Int)<=57
  ·rw [decide_eq_true h,decide_eq_false (by omega)];rfl
  ·rw [decide_eq_false h,decide_eq_true (by omega)];rfl
 rw [e1,e2]
 cases decide ((c:Int)≥48) <;> cases decide ((c:Int)<=57) <;> rfl
def mn (s:List UInt8) (i:Nat):Bool:=lF i (Utf8.decode ⟨s.toArray⟩ i).1
theorem oB (s:List UInt8):seek s.length (jW s) (mn s) false=oQ s:=
 n5 s (mn s) _ false (λi hi hl=>by unfold mn;rw [td hl]) (λi hi hh=>⟨mb (uD hi hh).1,mb hh⟩)
def rIs {τ:Type} (v:τ) (_:List AV) (_:List AO) (x:τ):Prop:=x=v
def rS {τ:Type} (w:List UInt8->τ) (l:List AV) (_:List AO) (x:τ):Prop:=∀s,l=[.str s]->x=w s
theorem rS.mk {τ:Type} {w:List UInt8->τ} {s:List UInt8} {os:List AO} {x:τ} (h:x=w s):rS w [.str s] os x:=λs' e=>by
 simp only [List.cons.injEq,AV.str.injEq,and_true] at e
 rw [<-e];exact h
theorem EA {τ:Type} {t:τ} {b:Bool} (h:b=true):(bif b then some t else none)=some t:=by rw [h];rfl
theorem EB {τ:Type} {t:τ} {b:Bool} (h:b=false):(bif b then some t else none)=none:=by rw [h];rfl
section
variable {τ:Type} [Inhabited τ] {n:Nat} {nxt:Nat->Nat} {stop:Nat->Option τ} {i:Nat}
structure SN (n:Nat) (nxt:Nat->Nat) (stop:Nat->Option τ) (i:Nat):Prop where
 b:i<=n
 e:eB n nxt stop i=eB n nxt stop 0
structure SA (n:Nat) (nxt:Nat->Nat) (stop:Nat->Option τ) (i:Nat):Prop where
 lt:i < n
 s:SN n nxt stop i
 x:∀i,i < n->i < nxt i/\nxt i<=n
theorem SA.hit (h:SA n nxt stop i) {t:τ} (hs:stop i=some t):(true,t)=eB n nxt stop 0:=by
 rw [<-h.s.e,ke (λi hi=>(h.x i hi).1) h.lt,hs]
theorem SA.on (h:SA n nxt stop i) (hs:stop i=none):SN n nxt stop (nxt i):=⟨(h.x i h.lt).2,by rw [<-h.s.e,ke (λi hi=>(h.x i hi).1) h.lt,hs]⟩
variable {ι:Type} {S:Nat->St} {outS:τ->(Ex->St->Res)->Res} {outE:(Ex->St->Res)->Res}
abbrev RS (S:Nat->St) (n:Nat) (nxt:Nat->Nat) (stop:Nat->Option τ) (outS:τ->(Ex->St->Res)->Res) (outE:(Ex->St->Res)->Res) (i:Nat) (e:ι->(Ex->St->Res)->(St->Res)->Res):Prop:=RT S (SN n nxt stop) (λi=>n - i) (Ch outS outE) (λ_ o=>o=eB n nxt stop 0) i e
theorem _root_.Go.Ab.RT.sp (t:τ) (a:SA n nxt stop i) (h:stop i=some t):RS S n nxt stop outS outE i (λ(_:ι) k _=>outS t k):=RT.fi (S:=S) (out:=Ch outS outE) (true,t) (a.hit h)
theorem _root_.Go.Ab.RT.on (s:St) (a:SA n nxt stop i) (h:stop i=none) (e:s=S (nxt i)):RS S n nxt stop outS outE i (λ(_:ι) _ kn=>kn s):=RT.nx s (nxt i) (a.on h) (by have:=a.x i a.lt;show n - nxt i < n - i;omega) (λ_ h=>h) e
theorem wD {V:Env} {T:List Ent} {d:Nat} {Lf:ι->List (List Nat×Orc)} {W:List (List Nat×Vw)} {f:FuncId} {p:List Nat} (S:Nat->St) (n:Nat) (nxt:Nat->Nat) (hx:∀i,i < n->i < nxt i/\nxt i<=n) (stop:Nat->Option τ) (outS:τ->(Ex->St->Res)->Res) (outE:Nat->(Ex->St->Res)->Res) (lt:Nat->Bool) (hlt:∀i,lt i=decide (i < n)) (hb:qS (dL (bE V.P f) p)=true)
  {e:Nat->ι->(Ex->St->Res)->(St->Res)->Res} (h1:∀i,SA n nxt stop i->RS S n nxt stop outS (outE n) i (e i)) (he:∀i j k kn,eO (V.run T d [] (Lf j) W f) f 9 p (S i) kn k=cond (lt i) (e i j k kn) (outE i k)) :
  ∃ (u:St->Bool) (w:St->Bool×τ),aW u w (S 0) (λo=>o=eB n nxt stop 0)/\∀j,bq (V.run T d [] (Lf j) W f) f p (mkO u w (Ch outS (outE n))):=by
 obtain ⟨u,w,h,hl⟩:=bX (V:=V) (T:=T) (d:=d) (Lf:=Lf) (W:=W) (f:=f) (p:=p) S (SN n nxt stop) (λi=>n - i) (Ch outS (outE n)) (λo=>o=eB n nxt stop 0) hb (e:=λi j k kn=>cond (lt i) (e i j k kn) (outE i k))
  (λi hi=>.b (lt i) (λh=>h1 i ⟨of_decide_eq_true ((hlt i).symm.trans h),hi,hx⟩) λh=>by
   have hg:¬ i < n:=of_decide_eq_false ((hlt i).symm.trans h)
   have hn:i=n:=by have:=hi.b;omega
   subst hn
   exact .fi (out:=Ch outS (outE i)) (false,default) (by rw [<-hi.e,gO _ _ _ hg])) he
 exact ⟨u,w,h 0 ⟨Nat.zero_le _,rfl⟩,hl⟩
end
section
variable {τ:Type} [Inhabited τ] {ι:Type} {S:Int->St} {n:Nat} {stop:Nat->Option τ} {outS:τ->(Ex->St->Res)->Res} {outE:(Ex->St->Res)->Res} {i:Nat}
theorem s1 (n:Nat):∀i,i < n->i < i+1/\i+1<=n:=λi h=>⟨Nat.lt_succ_self i,h⟩
theorem KV (i n:Nat):decide ((i:Int) < (n:Int))=decide (i < n):=by
 by_cases h:i < n
 ·rw [decide_eq_true h,decide_eq_true (by omega)]
 ·rw [decide_eq_false h,decide_eq_false (by omega)]
theorem _root_.Go.Ab.RT.up (a:SA n (·+1) stop i) (hn:n<=4611686018427387904) (h:stop i=none):RS (λj:Nat=>S j) n (·+1) stop outS outE i (λ(_:ι) _ kn=>kn (S (IntKind.wrap .i64 ((i:Int)+1)))):=RT.on _ a h (by rw [bC (by have:=a.lt;omega)])
theorem AL {V:Env} {T:List Ent} {d:Nat} {Lf:ι->List (List Nat×Orc)} {W:List (List Nat×Vw)} {f:FuncId} {p:List Nat} (S:Int->St) (n:Nat) (stop:Nat->Option τ) (outS:τ->(Ex->St->Res)->Res) (outE:(Ex->St->Res)->Res) (hb:qS (dL (bE V.P f) p)=true)
  {e:Nat->ι->(Ex->St->Res)->(St->Res)->Res} (h1:∀i,SA n (·+1) stop i->RS (λj:Nat=>S j) n (·+1) stop outS outE i (e i)) (he:∀ (i:Nat) j k kn,eO (V.run T d [] (Lf j) W f) f 9 p (S i) kn k=cond (decide ((i:Int) < (n:Int))) (e i j k kn) (outE k)) :
  ∃ (u:St->Bool) (w:St->Bool×τ),aW u w (S 0) (λo=>o=eB n (·+1) stop 0)/\∀j,bq (V.run T d [] (Lf j) W f) f p (mkO u w (Ch outS outE)):=
 wD (λj:Nat=>S j) n (·+1) (s1 n) stop outS (λ_=>outE) (λi=>decide ((i:Int) < (n:Int))) (λi=>KV i n) hb h1 he
end
theorem I4 (s:List UInt8):decide ((s.length:Int) > 32)=!decide (s.length<=32):=by
 by_cases h:s.length<=32
 ·rw [decide_eq_true h,decide_eq_false (by omega)];rfl
 ·rw [decide_eq_false h,decide_eq_true (by omega)];rfl
set_option maxRecDepth 100000 in
theorem vw:sK (E V0 400 m3 [.str vW] [])=true:=by kernel_rfl
theorem xQ:bz wd m3 φS (rIs tZ) [.str vW] []:=by
 obtain ⟨o,get,h1,h2⟩:=sJ vw
 refine ⟨tZ,rfl,?_⟩
 refine (B1 (V:=V0) eu eH (λ_=>rfl) h1).res rfl λc v hr=>?_
 unfold yA
 rw [tY]
 exact Rep.CZ (wK h2) hr
noncomputable abbrev H3:Ent:=dK wd m3 φS (rIs tZ)
def SbZ (s:List UInt8) (i:Int):St:={env:=[(0,.str s),(50,yA tZ),(51,.int .i64 tZ.length),(52,.int .i64 i)],objs:=[]}
theorem B7 (i n:Nat):Nat.blt i n=decide (i < n):=by
 by_cases h:i < n
 ·rw [decide_eq_true h];exact tj h
 ·rw [decide_eq_false h]
  cases e:Nat.blt i n with
  | false=>rfl
  | true=>exact absurd (ltB e) h
theorem lt1 (s:List UInt8):decide ((s.length:Int) < 1)=!decide (0 < s.length):=by
 by_cases h:0 < s.length
 ·rw [decide_eq_true h,decide_eq_false (by omega)];rfl
 ·rw [decide_eq_false h,decide_eq_true (by omega)];rfl
theorem cS (s:List UInt8):bz wd tH φB (rS cw) [.str s] []:=by
 obtain ⟨u1,o1,h1,l1⟩:=wD (V:=V0) (T:=[H3]) (d:=1) (W:=[]) (f:=tH) (p:=[1,1,0,1,0]) (Lf:=λL=>L) (Sa s) s.length (jW s) (λi h=>w5 h) (λi=>bif mn s i then some false else none) (IW 2) (λ_ k=>k (.exit 0) {env:=[(0,.str s)],objs:=[]}) (λi=>Nat.blt i s.length) (λi=>B7 i _) (by kernel_rfl)
  (λi a=>.b (bif !bif decide (((Utf8.decode ⟨s.toArray⟩ i).1:Int)≥97) then decide (((Utf8.decode ⟨s.toArray⟩ i).1:Int)<=122) else false then bif (i:Int)==0 then true else bif bif bif decide (((Utf8.decode ⟨s.toArray⟩ i).1:Int) < 48) then true else decide (((Utf8.decode ⟨s.toArray⟩ i).1:Int) > 57) then ((Utf8.decode ⟨s.toArray⟩ i).1:Int) !=45 else false then ((Utf8.decode ⟨s.toArray⟩ i).1:Int) !=95 else false else false)
   (λh=>.sp false a (EA (by unfold mn;rw [<-ma];exact h))) λh=>.on _ a (EB (by unfold mn;rw [<-ma];exact h)) rfl) (λi L k kn=>by kernel_rfl)
 obtain ⟨u2,o2,h2,l2⟩:=AL (V:=V0) (T:=[H3]) (d:=1) (W:=[]) (f:=tH) (p:=[1,1,1,0,1,0]) (Lf:=λL=>L) (SbZ s) tZ.length (λi=>bif tZ.getD i []==s then some false else none) (IW 2) (λk=>k (.exit 2) {env:=[],objs:=[]}) (by kernel_rfl)
  (λi a=>.n (aO a.lt) (.b (tZ.getD i []==s) (λh=>.sp false a (EA h)) λh=>.up a (by rw [tY];decide) (EB h))) (λi L k kn=>by kernel_rfl)
 exact bn (V:=V0) (T:=[H3]) (d:=1) 0 (aE (l1 _) (aE (l2 _) ao)) ak
  (.b (bif decide ((s.length:Int) < 1) then true else decide ((s.length:Int) > 32)) (λh=>.r false (.mk (by
    rw [lt1,I4] at h
    unfold cw yq
    cases hd:decide (s.length<=32) <;> cases hw:decide (0 < s.length) <;> simp_all))) λh=>.lp h1 λt q=>.b t.1 (λht=>.r t.2 (.mk (by
     have q:t=seek s.length (jW s) (mn s) false:=q
     rw [oB] at q
     rw [q] at ht ⊢
     have hv:(oQ s).2=false:=tL ht
     unfold cw yq;rw [hv,ht];simp))) λht=>.call xQ λr qr=>
   have qr:r=tZ:=qr
   have hu:aW u2 o2 {env:=[(0,.str s),(50,yA r),(51,.int .i64 r.length),(52,.int .i64 0)],objs:=[]} (λt=>t=rR s):=by rw [qr];exact h2
   .lp hu λt2 q2=>.b t2.1 (λh2=>.r t2.2 (.mk (by
    rw [q2] at h2 ⊢
    have hv:(rR s).2=false:=tL h2
    unfold cw;rw [hv,h2];simp))) λh2=>.r true (.mk (by
    have q:t=seek s.length (jW s) (mn s) false:=q
    rw [oB] at q
    rw [q] at ht
    rw [lt1,I4] at h
    rw [q2] at h2
    unfold cw yq
    cases hd:decide (s.length<=32) <;> cases hw:decide (0 < s.length) <;> simp_all))) (by kernel_rfl)
noncomputable abbrev jX:Ent:=dK wd tH φB (rS cw)
end Go.WF

namespace Go.WF
open Go Go.Ab Go.Proofs
set_option linter.unusedSectionVars false
theorem _root_.Go.Ab.Run.no {τ:Type} {Post:τ->Prop} {φ:τ->AV×List AO} {c:Bool} {a b:Res} (h:c=false) (h1:Run Post φ b):Run Post φ (cond c a b):=by subst h;exact h1
theorem _root_.Go.Ab.RT.no {α τ ι:Type} {S:α->St} {Inv:α->Prop} {μ:α->Nat} {out:τ->(Ex->St->Res)->Res} {Post:α->τ->Prop} {v:α} {c:Bool} {A B:ι->(Ex->St->Res)->(St->Res)->Res} (h:c=false) (h1:RT S Inv μ out Post v B):RT S Inv μ out Post v (λi k kn=>cond c (A i k kn) (B i k kn)):=by subst h;exact h1
theorem _root_.Go.Ab.Run.yea {τ:Type} {Post:τ->Prop} {φ:τ->AV×List AO} {c:Bool} {a b:Res} (h:c=true) (h1:Run Post φ a):Run Post φ (cond c a b):=by subst h;exact h1
theorem _root_.Go.Ab.RT.yea {α τ ι:Type} {S:α->St} {Inv:α->Prop} {μ:α->Nat} {out:τ->(Ex->St->Res)->Res} {Post:α->τ->Prop} {v:α} {c:Bool} {A B:ι->(Ex->St->Res)->(St->Res)->Res} (h:c=true) (h1:RT S Inv μ out Post v A):RT S Inv μ out Post v (λi k kn=>cond c (A i k kn) (B i k kn)):=by subst h;exact h1
theorem iz {n v:Nat} (h:v < n):n - (v+1) < n - v:=by omega
structure SV (now:Int) (s:SL):Prop where
 id:cw s.id=true
 layer:cw s.layer=true
 exp:cw s.exp=true
 arm:1<=s.arm/\s.arm<=8
 fr:0<=s.fr/\s.fr<=now
 fin:s.fin=0/\s.to=0∨(s.fin=1∨s.fin=2)/\s.fr<=s.to/\s.to<=now
section
variable {r:RG} {s:SL}
theorem SV.a (h:SV r.now s) {r1 r2 r3:Bool} (h1:r1=cw s.id) (h2:r2=cw s.layer) (h3:r3=cw s.exp):(bif bif bif bif bif bif !r1 then true else !r2 then true else !r3 then true else decide (SL.arm s < 1) then true else decide (SL.arm s > 8) then true else decide (SL.fr s < 0) then true else decide (SL.fr s > RG.now r))=false:=by
 rw [h1,h2,h3,h.id,h.layer,h.exp,decide_eq_false (show ¬ s.arm < 1 by have:=h.arm;omega),decide_eq_false (show ¬ s.arm > 8 by have:=h.arm;omega),decide_eq_false (show ¬ s.fr < 0 by have:=h.fr;omega),decide_eq_false (show ¬ s.fr > r.now by have:=h.fr;omega)]
 rfl
theorem SV.z (h:SV r.now s) (h5:(s.fin==0)=true):(s.to==0)=true:=by
 have h5:s.fin=0:=by simpa using h5
 have:=h.fin
 simp;omega
theorem SV.m (h:SV r.now s) (h5:(s.fin==0)=false):(bif decide (SL.fr s<=SL.to s) then decide (SL.to s<=RG.now r) else false)=true:=by
 have h5:s.fin≠0:=by simpa using h5
 have h1:=h.fin
 rw [decide_eq_true (show s.fr<=s.to by omega),decide_eq_true (show s.to<=r.now by omega)];rfl
theorem SV.d (_:SV r.now s) (h6:(s.fin==1)=true) (h7:(s.fin==1)=false):false=true:=by rw [h6] at h7;cases h7
theorem SV.n (h:SV r.now s) (h5:(s.fin==0)=false) (h6:(s.fin==1)=false) (h8:(s.fin==2)=false):false=true:=by
 have h5:s.fin≠0:=by simpa using h5
 have h6:s.fin≠1:=by simpa using h6
 have h8:s.fin≠2:=by simpa using h8
 have:=h.fin
 omega
theorem CY (h:SV r.now s):bz wd mZ φBo (rE true) [rgA r,.agg s.c] []:=
 bn (V:=V0) (T:=[jX]) (d:=1) 0 ao ak (.call (cS _) λr1 q1=>
  .call (cS _) λr2 q2=>
  .call (cS _) λr3 q3=>
  .no (c:=bif bif bif bif bif bif !r1 then true else !r2 then true else !r3 then true else decide (SL.arm s < 1) then true else decide (SL.arm s > 8) then true else decide (SL.fr s < 0) then true else decide (SL.fr s > RG.now r)) (a:=some ((.bool false,[]))) (h.a (q1 _ rfl) (q2 _ rfl) (q3 _ rfl)) (
  .b (SL.fin s==0) (λh5=>
   .r (SL.to s==0) (h.z h5)) λh5=>
  .b (SL.fin s==1) (λh6=>
   .b (SL.fin s==1) (λh7=>
    .r _ (h.m h5)) λh7=>
   .r false (h.d h6 h7)) λh6=>
  .b (SL.fin s==2) (λh8=>
   .r _ (h.m h5)) λh8=>
  .r false (h.n h5 h6 h8))) (by kernel_rfl)
end
noncomputable abbrev E3:Ent:=dK wd mZ φBo (rE true)
def yl (r:RG):Nat->Int
 | 0=>0
 | i+1=>(r.ls.getD i default).t
def x5 (r:RG):Nat->Int
 | 0=>0
 | i+1=>(r.ss.getD i default).fr
def n9 (q:List (TX×TX)) (l:List AV):Bool:=q.any λp=>bO l [.str p.1,.str p.2]
def mqO (q:List (TX×TX)):AO:=.mp true [.str,.str] (n9 q) λl=>.bool (n9 q l)
noncomputable def opQ (r:RG):Nat->List (TX×TX)
 | 0=>[]
 | i+1=>cond ((r.ss.getD i default).fin !=0) (opQ r i) (((r.ss.getD i default).layer,aj (ofF r.ls) (r.ss.getD i default).id)::opQ r i)
structure VR (r:RG):Prop where
 now:0<=r.now/\r.now<=1099511627776
 nls:r.ls.length<=64
 nss:r.ss.length<=128
 lk:∀i,i < r.ls.length->cw (r.ls.getD i default).a=true/\cw (r.ls.getD i default).b=true/\(r.ls.getD i default).a≠(r.ls.getD i default).b/\yl r i<=(r.ls.getD i default).t/\(r.ls.getD i default).t<=r.now
 sv:∀ {i},i < r.ss.length->SV r.now (r.ss.getD i default)
 sb:∀i,i < r.ss.length->x5 r i<=(r.ss.getD i default).fr
 one:∀i j,j < i->i < r.ss.length->(r.ss.getD i default).fin=0->(r.ss.getD j default).fin=0->(r.ss.getD j default).layer=(r.ss.getD i default).layer->aj (ofF r.ls) (r.ss.getD j default).id=aj (ofF r.ls) (r.ss.getD i default).id->False
theorem H0 (a b x y:TX):bO [.str a,.str b] [.str x,.str y]=true->a=x/\b=y:=by
 intro h
 simp [bO,eqC] at h
 exact h
theorem ue {a b:TX}:∀ {q:List (TX×TX)},n9 q [.str a,.str b]=true->(a,b)∈q
 | [],h=>by cases h
 | p::q,h=>by
  unfold n9 at h
  rw [List.any_cons,Bool.or_eq_true] at h
  rcases h with h | h
  ·obtain ⟨h1,h2⟩:=H0 _ _ _ _ h
   rw [h1,h2];exact List.mem_cons_self
  ·exact List.mem_cons_of_mem _ (ue h)
theorem GQ (q:List (TX×TX)) (a b:TX):AO.mp true [KD.str,KD.str] (λl=>bif bO l [.str a,.str b] then true else n9 q l) (λl=>bif bO l [.str a,.str b] then .bool true else .bool (n9 q l))=mqO ((a,b)::q):=by
 unfold mqO
 congr 1
 ·funext l
  show _=AV.bool (bO l [.str a,.str b]||n9 q l)
  cases bO l [.str a,.str b] <;> rfl
theorem se {r:RG} {a b:TX}:∀ {i:Nat},(a,b)∈opQ r i->∃j,j < i/\(r.ss.getD j default).fin=0/\(r.ss.getD j default).layer=a/\aj (ofF r.ls) (r.ss.getD j default).id=b
 | 0,h=>by cases h
 | i+1,h=>by
  unfold opQ at h
  cases hf:(r.ss.getD i default).fin !=0 with
  | true=>
   rw [hf,cond_true] at h
   obtain ⟨j,h1,h2⟩:=se h
   exact ⟨j,by omega,h2⟩
  | false=>
   rw [hf,cond_false] at h
   rcases List.mem_cons.1 h with h | h
   ·injection h with h1 h2
    exact ⟨i,by omega,by simpa using hf,h1.symm,h2.symm⟩
   ·obtain ⟨j,h1,h2⟩:=se h
    exact ⟨j,by omega,h2⟩
section
variable {r:RG} {v:Nat}
theorem VR.b (h:VR r):(bif bif bif decide (RG.now r < 0) then true else decide (RG.now r > 1099511627776) then true else decide ((List.length (RG.ls r):Int) > 64) then true else decide ((List.length (RG.ss r):Int) > 128))=false:=by
 have:=h.nls;have:=h.nss;have:=h.now
 rw [decide_eq_false (show ¬ r.now < 0 by omega),decide_eq_false (show ¬ r.now > 1099511627776 by omega),decide_eq_false (show ¬ (r.ls.length:Int) > 64 by omega),decide_eq_false (show ¬ (r.ss.length:Int) > 128 by omega)];rfl
theorem VR.la (h:VR r) (hv:v < r.ls.length) {r2 r3:Bool} (q2:r2=cw (r.ls.getD v default).a) (q3:r3=cw (r.ls.getD v default).b):(bif bif bif bif !r2 then true else !r3 then true else LK.a (List.getD (RG.ls r) v default)==LK.b (List.getD (RG.ls r) v default) then true else decide (LK.t (List.getD (RG.ls r) v default) < yl r v) then true else decide (LK.t (List.getD (RG.ls r) v default) > RG.now r))=false:=by
 obtain ⟨h1,h2,h3,h4,h5⟩:=h.lk v hv
 rw [q2,q3,h1,h2,beq_eq_false_iff_ne.2 h3,decide_eq_false (Int.not_lt.2 h4),decide_eq_false (show ¬ (r.ls.getD v default).t > r.now from Int.not_lt.2 h5)];rfl
theorem VR.sa (h:VR r) (hv:v < r.ss.length) {r2:Bool} {l:List AV} {os:List AO} (q2:rE true l os r2):(bif !r2 then true else decide (SL.fr (List.getD (RG.ss r) v default) < x5 r v))=false:=by
 have q2:r2=true:=q2
 rw [q2,decide_eq_false (Int.not_lt.2 (h.sb v hv))];rfl
theorem VR.op (h:VR r) (hv:v < r.ss.length) (h2:((r.ss.getD v default).fin !=0)=false) {x:TX} (q:x=aj (ofF r.ls) (r.ss.getD v default).id):n9 (opQ r v) [.str (SL.layer (List.getD (RG.ss r) v default)),.str x]=false:=by
 cases hm:n9 (opQ r v) [.str (SL.layer (List.getD (RG.ss r) v default)),.str x] with
 | false=>rfl
 | true=>
  obtain ⟨j,h3,h4,h5,h6⟩:=se (ue hm)
  exact (h.one v j h3 hv (by simpa using h2) h4 h5 (h6.trans q)).elim
theorem JK (hl:r.ls.length<=1000000) (hv:v < r.ls.length):{env:=[(1,.ref 1 0),(3,.int .i64 (LK.t (List.getD (RG.ls r) v default))),(33,lkA (RG.ls r)),(34,.int .i64 (List.length (RG.ls r):Int)),(35,.int .i64 (IntKind.wrap .i64 ((v:Int)+1)))],objs:=[(1,.cells (RG.c r))]}=(λv:Nat=>({env:=[(1,.ref 1 0),(3,.int .i64 (yl r v)),(33,lkA r.ls),(34,.int .i64 r.ls.length),(35,.int .i64 (v:Int))],objs:=[(1,.cells r.c)]}:St)) (v+1):=by
 rw [bC (by omega)];rfl
theorem JJ (hl:r.ss.length<=1000000) (hv:v < r.ss.length):{env:=[(1,.ref 1 0),(3,.int .i64 (SL.fr (List.getD (RG.ss r) v default))),(73,slA (RG.ss r)),(74,.int .i64 (List.length (RG.ss r):Int)),(75,.int .i64 (IntKind.wrap .i64 ((v:Int)+1)))],objs:=[(1,.cells (RG.c r))]}=(λv:Nat=>({env:=[(1,.ref 1 0),(3,.int .i64 (x5 r v)),(73,slA r.ss),(74,.int .i64 r.ss.length),(75,.int .i64 (v:Int))],objs:=[(1,.cells r.c)]}:St)) (v+1):=by
 rw [bC (by omega)];rfl
theorem JI (hl:r.ss.length<=1000000) (hv:v < r.ss.length) (h2:((r.ss.getD v default).fin !=0)=true):{env:=[(1,.ref 1 0),(8,.mref 92),(94,slA (RG.ss r)),(95,.int .i64 (List.length (RG.ss r):Int)),(96,.int .i64 (IntKind.wrap .i64 ((v:Int)+1)))],objs:=[(1,.cells (RG.c r)),(92,AO.mp true [KD.str,KD.str] (n9 (opQ r v)) λl=>.bool (n9 (opQ r v) l))]}=(λv:Nat=>({env:=[(1,.ref 1 0),(8,.mref 92),(94,slA r.ss),(95,.int .i64 r.ss.length),(96,.int .i64 (v:Int))],objs:=[(1,.cells r.c),(92,mqO (opQ r v))]}:St)) (v+1):=by
 show _=({env:=[(1,.ref 1 0),(8,.mref 92),(94,slA r.ss),(95,.int .i64 r.ss.length),(96,.int .i64 ((v+1:Nat):Int))],objs:=[(1,.cells r.c),(92,mqO (opQ r (v+1)))]}:St)
 rw [bC (by omega),show opQ r (v+1)=opQ r v by rw [opQ,h2];rfl];rfl
theorem JH (hl:r.ss.length<=1000000) (hv:v < r.ss.length) (h2:((r.ss.getD v default).fin !=0)=false) {x:TX} (q:x=aj (ofF r.ls) (r.ss.getD v default).id):{env:=[(1,.ref 1 0),(8,.mref 92),(94,slA (RG.ss r)),(95,.int .i64 (List.length (RG.ss r):Int)),(96,.int .i64 (IntKind.wrap .i64 ((v:Int)+1)))],objs:=[(1,.cells (RG.c r)),(92,AO.mp true [KD.str,KD.str] (λl=>bif bO l [.str (SL.layer (List.getD (RG.ss r) v default)),.str x] then true else n9 (opQ r v) l) λl=>bif bO l [.str (SL.layer (List.getD (RG.ss r) v default)),.str x] then .bool true else .bool (n9 (opQ r v) l))]}=(λv:Nat=>({env:=[(1,.ref 1 0),(8,.mref 92),(94,slA r.ss),(95,.int .i64 r.ss.length),(96,.int .i64 (v:Int))],objs:=[(1,.cells r.c),(92,mqO (opQ r v))]}:St)) (v+1):=by
 show _=({env:=[(1,.ref 1 0),(8,.mref 92),(94,slA r.ss),(95,.int .i64 r.ss.length),(96,.int .i64 ((v+1:Nat):Int))],objs:=[(1,.cells r.c),(92,mqO (opQ r (v+1)))]}:St)
 rw [bC (by omega),GQ,show opQ r (v+1)=_ by rw [opQ,h2],q];rfl
end
theorem JU {r:RG} (h:VR r):∃ (u:St->Bool) (w:St->Unit),(∀v:Nat,v<=r.ls.length->aW u w ((λv:Nat=>({env:=[(1,.ref 1 0),(3,.int .i64 (yl r v)),(33,lkA r.ls),(34,.int .i64 r.ls.length),(35,.int .i64 (v:Int))],objs:=[(1,.cells r.c)]}:St)) v) λ_=>True)/\∀L:List (List Nat×Orc),bq (V0.run [jX,E3,eRo] 1 [] L [] c6) c6 [1,1,1,0,1,0] (mkO u w λ_ k=>k (.exit 0) {env:=[(1,.ref 1 0)],objs:=[(1,.cells r.c)]}):=
 bX (Lf:=λL=>L) (λv:Nat=>{env:=[(1,.ref 1 0),(3,.int .i64 (yl r v)),(33,lkA r.ls),(34,.int .i64 r.ls.length),(35,.int .i64 (v:Int))],objs:=[(1,.cells r.c)]}) (λv=>v<=r.ls.length) (λv=>r.ls.length - v) (λ(_:Unit) k=>k (.exit 0) {env:=[(1,.ref 1 0)],objs:=[(1,.cells r.c)]}) (λ_=>True) (by kernel_rfl) (λv hv=>.b (decide ((↑v:Int) < (↑(List.length (RG.ls r)):Int))) (λh1=>
   .n (c:=within (↑v:Int) (List.length (RG.ls r))) (aO (aN h1)) (
   .call (cS _) λr2 q2=>
   .call (cS _) λr3 q3=>
   .no (c:=bif bif bif bif !r2 then true else !r3 then true else LK.a (List.getD (RG.ls r) v default)==LK.b (List.getD (RG.ls r) v default) then true else decide (LK.t (List.getD (RG.ls r) v default) < yl r v) then true else decide (LK.t (List.getD (RG.ls r) v default) > RG.now r)) (A:=λ_ k kn=>k (.ret) ({env:=[(2,.bool false)],objs:=[]})) (h.la (aN h1) (q2 _ rfl) (q3 _ rfl)) (
   .go {env:=[(1,.ref 1 0),(3,.int .i64 (LK.t (List.getD (RG.ls r) v default))),(33,lkA (RG.ls r)),(34,.int .i64 (↑(List.length (RG.ls r)):Int)),(35,.int .i64 (IntKind.wrap .i64 ((↑v:Int)+1)))],objs:=[(1,.cells (RG.c r))]} (v+1) (aN h1) (iz (aN h1)) (JK (by have:=h.nls;omega) (aN h1))))) λh1=>
  .fi () trivial) (λv L k kn=>by kernel_rfl)
theorem JT {r:RG} (h:VR r):∃ (u:St->Bool) (w:St->Unit),(∀v:Nat,v<=r.ss.length->aW u w ((λv:Nat=>({env:=[(1,.ref 1 0),(3,.int .i64 (x5 r v)),(73,slA r.ss),(74,.int .i64 r.ss.length),(75,.int .i64 (v:Int))],objs:=[(1,.cells r.c)]}:St)) v) λ_=>True)/\∀L:List (List Nat×Orc),bq (V0.run [jX,E3,eRo] 1 [] L [] c6) c6 [1,1,1,1,1,0,1,0] (mkO u w λ_ k=>k (.exit 2) {env:=[(1,.ref 1 0)],objs:=[(1,.cells r.c)]}):=
 bX (Lf:=λL=>L) (λv:Nat=>{env:=[(1,.ref 1 0),(3,.int .i64 (x5 r v)),(73,slA r.ss),(74,.int .i64 r.ss.length),(75,.int .i64 (v:Int))],objs:=[(1,.cells r.c)]}) (λv=>v<=r.ss.length) (λv=>r.ss.length - v) (λ(_:Unit) k=>k (.exit 2) {env:=[(1,.ref 1 0)],objs:=[(1,.cells r.c)]}) (λ_=>True) (by kernel_rfl) (λv hv=>.b (decide ((↑v:Int) < (↑(List.length (RG.ss r)):Int))) (λh1=>
   .n (c:=within (↑v:Int) (List.length (RG.ss r))) (aO (aN h1)) (
   .call (CY (h.sv (aN h1))) λr2 q2=>
   .no (c:=bif !r2 then true else decide (SL.fr (List.getD (RG.ss r) v default) < x5 r v)) (A:=λ_ k kn=>k (.ret) ({env:=[(2,.bool false)],objs:=[]})) (h.sa (aN h1) q2) (
   .go {env:=[(1,.ref 1 0),(3,.int .i64 (SL.fr (List.getD (RG.ss r) v default))),(73,slA (RG.ss r)),(74,.int .i64 (↑(List.length (RG.ss r)):Int)),(75,.int .i64 (IntKind.wrap .i64 ((↑v:Int)+1)))],objs:=[(1,.cells (RG.c r))]} (v+1) (aN h1) (iz (aN h1)) (JJ (by have:=h.nss;omega) (aN h1))))) λh1=>
  .fi () trivial) (λv L k kn=>by kernel_rfl)
theorem JS {r:RG} (h:VR r):∃ (u:St->Bool) (w:St->Unit),(∀v:Nat,v<=r.ss.length->aW u w ((λv:Nat=>({env:=[(1,.ref 1 0),(8,.mref 92),(94,slA r.ss),(95,.int .i64 r.ss.length),(96,.int .i64 (v:Int))],objs:=[(1,.cells r.c),(92,mqO (opQ r v))]}:St)) v) λ_=>True)/\∀L:List (List Nat×Orc),bq (V0.run [jX,E3,eRo] 1 [] L [] c6) c6 [1,1,1,1,1,1,1,0,1,0] (mkO u w λ_ k=>k (.exit 4) {env:=[],objs:=[]}):=
 bX (Lf:=λL=>L) (λv:Nat=>{env:=[(1,.ref 1 0),(8,.mref 92),(94,slA r.ss),(95,.int .i64 r.ss.length),(96,.int .i64 (v:Int))],objs:=[(1,.cells r.c),(92,mqO (opQ r v))]}) (λv=>v<=r.ss.length) (λv=>r.ss.length - v) (λ(_:Unit) k=>k (.exit 4) {env:=[],objs:=[]}) (λ_=>True) (by kernel_rfl) (λv hv=>.b (decide ((↑v:Int) < (↑(List.length (RG.ss r)):Int))) (λh1=>
   .n (c:=within (↑v:Int) (List.length (RG.ss r))) (aO (aN h1)) (
   .b (SL.fin (List.getD (RG.ss r) v default) !=0) (λh2=>
    .go {env:=[(1,.ref 1 0),(8,.mref 92),(94,slA (RG.ss r)),(95,.int .i64 (↑(List.length (RG.ss r)):Int)),(96,.int .i64 (IntKind.wrap .i64 ((↑v:Int)+1)))],objs:=[(1,.cells (RG.c r)),(92,AO.mp true [KD.str,KD.str] (n9 (opQ r v)) λl=>.bool (n9 (opQ r v) l))]} (v+1) (aN h1) (iz (aN h1)) (JI (by have:=h.nss;omega) (aN h1) h2)) λh2=>
   .call (pa _ _ (by have:=h.nls;omega)) λr3 q3=>
   .no (c:=n9 (opQ r v) [.str (SL.layer (List.getD (RG.ss r) v default)),.str r3]) (A:=λ_ k kn=>cond (n9 (opQ r v) [.str (SL.layer (List.getD (RG.ss r) v default)),.str r3]) (k (.ret) ({env:=[(2,.bool false)],objs:=[]})) (kn ({env:=[(1,.ref 1 0),(8,.mref 92),(94,slA (RG.ss r)),(95,.int .i64 (↑(List.length (RG.ss r)):Int)),(96,.int .i64 (IntKind.wrap .i64 ((↑v:Int)+1)))],objs:=[(1,.cells (RG.c r)),(92,AO.mp true [KD.str,KD.str] (λl=>bif bO l [.str (SL.layer (List.getD (RG.ss r) v default)),.str r3] then true else n9 (opQ r v) l) λl=>bif bO l [.str (SL.layer (List.getD (RG.ss r) v default)),.str r3] then .bool true else .bool (n9 (opQ r v) l))]}))) (h.op (aN h1) h2 q3.eq) (
   .go {env:=[(1,.ref 1 0),(8,.mref 92),(94,slA (RG.ss r)),(95,.int .i64 (↑(List.length (RG.ss r)):Int)),(96,.int .i64 (IntKind.wrap .i64 ((↑v:Int)+1)))],objs:=[(1,.cells (RG.c r)),(92,AO.mp true [KD.str,KD.str] (λl=>bif bO l [.str (SL.layer (List.getD (RG.ss r) v default)),.str r3] then true else n9 (opQ r v) l) λl=>bif bO l [.str (SL.layer (List.getD (RG.ss r) v default)),.str r3] then .bool true else .bool (n9 (opQ r v) l))]} (v+1) (aN h1) (iz (aN h1)) (JH (by have:=h.nss;omega) (aN h1) h2 q3.eq)))) λh1=>
  .fi () trivial) (λv L k kn=>by kernel_rfl)
theorem JL {r:RG} {u:St->Bool} {w:St->Unit} {Q:Unit->Prop} (hu:∀v:Nat,v<=r.ss.length->aW u w ((λv:Nat=>({env:=[(1,.ref 1 0),(8,.mref 92),(94,slA r.ss),(95,.int .i64 r.ss.length),(96,.int .i64 (v:Int))],objs:=[(1,.cells r.c),(92,mqO (opQ r v))]}:St)) v) Q):aW u w {env:=[(1,.ref 1 0),(8,.mref 92),(94,slA (RG.ss r)),(95,.int .i64 (List.length (RG.ss r):Int)),(96,.int .i64 0)],objs:=[(1,.cells (RG.c r)),(92,AO.mp true [KD.str,KD.str] (λx=>false) λx=>.bool false)]} Q:=hu 0 (Nat.zero_le _)
theorem rH {r:RG} (h:VR r):bz wd c6 φBo (rE true) [rgA r] []:=by
 obtain ⟨u1,w1,hu1,hc1⟩:=JU h
 obtain ⟨u2,w2,hu2,hc2⟩:=JT h
 obtain ⟨u3,w3,hu3,hc3⟩:=JS h
 exact bn (V:=V0) (T:=[jX,E3,eRo]) (d:=1) 0 (aE (hc1 _) (aE (hc2 _) (aE (hc3 _) ao))) ak (.no (c:=bif bif bif decide (RG.now r < 0) then true else decide (RG.now r > 1099511627776) then true else decide ((↑(List.length (RG.ls r)):Int) > 64) then true else decide ((↑(List.length (RG.ss r)):Int) > 128)) (a:=some ((.bool false,[]))) (h.b) (
  .lp (hu1 0 (Nat.zero_le _)) λr2 q2=>
  .lp (hu2 0 (Nat.zero_le _)) λr3 q3=>
  .lp (JL hu3) λr4 q4=>
  .r true rfl)) (by kernel_rfl)
noncomputable abbrev eVa:Ent:=dK wd c6 φBo (rE true)
end Go.WF

namespace Go.WF
open Go Go.Ab Go.Proofs
set_option linter.unusedSectionVars false
abbrev CUX:Type:=Bool×TX×RG×TX
def φCu (x:CUX):AV×List AO:=(.bool x.1,[.cells [.str x.2.1],.cells x.2.2.1.c,.cells [.str x.2.2.2] ])
abbrev CIX:Type:=Int×TX×RG×TX
def φCi (x:CIX):AV×List AO:=(.int .i64 x.1,[.cells [.str x.2.1],.cells x.2.2.1.c,.cells [.str x.2.2.2] ])
theorem Kp {x:Bool} {l:List AV} {os:List AO} (q:rE true l os x):(!x)=false:=by have q:x=true:=q;rw [q];rfl
theorem Ko {r:RG} {n:Int} (h:r.now<=n/\n<=1099511627776):(bif decide (n < RG.now r) then true else decide (n > 1099511627776))=false:=by
 rw [decide_eq_false (show ¬ n < r.now by omega),decide_eq_false (show ¬ n > 1099511627776 by omega)];rfl
theorem Dc {r:RG} {n:Int} (h:VR r) (hn:r.now<=n/\n<=1099511627776):bz wd me φIn (rE 0) [rgA r,.int .i64 n] []:=
 bn (V:=V0) (T:=[eVa]) (d:=1) 0 ao ak (.call (rH h) λr1 q1=>
  .no (c:=!r1) (a:=some ((.int .i64 25,[]))) (Kp q1) (
  .no (c:=bif decide (n < RG.now r) then true else decide (n > 1099511627776)) (a:=some ((.int .i64 26,[]))) (Ko hn) (
  .r _ rfl))) (by kernel_rfl)
noncomputable abbrev eRd:Ent:=dK wd me φIn (rE 0)
def FI (p:Nat->Bool) (n:Nat) (x:Int):Prop:=(∃i:Nat,x=i/\i < n/\p i=true/\∀j,j < i->p j=false)∨(x = -1/\∀j,j < n->p j=false)
noncomputable def xW (r:RG) (y z:TX) (s:SL):Bool:=bif bif s.fin==0 then s.layer==y else false then aj (ofF r.ls) s.id==z else false
def rCu (l:List AV) (os:List AO) (x:CUX):Prop:=∀s y z r,l=[.agg (SL.c s),.ref ae 0,.ref (ae+1) 0,.ref (ae+2) 0]->os=[.cells [.str y],.cells (RG.c r),.cells [.str z]]->x=(xW r y z s,y,r,z)
theorem rCu.mk {s:SL} {y z:TX} {r:RG} {x:TX} (h:x=aj (ofF r.ls) s.id):rCu [.agg s.c,.ref ae 0,.ref (ae+1) 0,.ref (ae+2) 0] [.cells [.str y],.cells r.c,.cells [.str z]] (bif bif s.fin==0 then s.layer==y else false then x==z else false,y,r,z):=λs' y' z' r' h1 h2=>by
 injection h1 with h1 _
 injection h1 with h1
 injection h2 with h2 h3
 injection h3 with h3 h4
 injection h4 with h4 _
 injection h2 with h2
 injection h2 with h2 _
 injection h2 with h2
 injection h3 with h3
 injection h4 with h4
 injection h4 with h4 _
 injection h4 with h4
 rw [<-SL.jb h1,<-RG.jb h3,<-h2,<-h4,h];rfl
theorem rCu.eq {s:SL} {y z:TX} {r:RG} {x:CUX} (h:rCu [.agg s.c,.ref ae 0,.ref (ae+1) 0,.ref (ae+2) 0] [.cells [.str y],.cells r.c,.cells [.str z]] x):x=(xW r y z s,y,r,z):=h s y z r rfl rfl
theorem Ih (s:SL) (y z:TX) (r:RG) (hl:r.ls.length<=1000000):bz wd bo φCu rCu [.agg s.c,.ref ae 0,.ref (ae+1) 0,.ref (ae+2) 0] [.cells [.str y],.cells r.c,.cells [.str z]]:=
 bn (V:=V0) (T:=[eRo]) (d:=1) 1 ao ak (.call (pa _ _ hl) λr1 q1=>
  .r (bif bif s.fin==0 then s.layer==y else false then r1==z else false,y,r,z) (rCu.mk q1.eq)) (by kernel_rfl)
noncomputable abbrev Jf:Ent:=dK wd bo φCu rCu
section
variable {l:List SL} {y z:TX} {r:RG} {v:Nat}
noncomputable abbrev pIx (r:RG) (y z:TX) (l:List SL) (j:Nat):Bool:=xW r y z (l.getD j default)
def IxI (r:RG) (y z:TX) (l:List SL) (v:Nat):Prop:=v<=l.length/\∀j,j < v->pIx r y z l j=false
def IxP (r:RG) (y z:TX) (l:List SL) (t:Bool×CIX):Prop:=(t.1=true/\FI (pIx r y z l) l.length t.2.1/\t.2.2=(y,r,z))∨(t.1=false/\t.2.2=(y,r,z)/\∀j,j < l.length->pIx r y z l j=false)
abbrev CUQ (r:RG) (y z:TX) (l:List SL) (v:Nat) (t:CUX):Prop:=rCu [.agg (l.getD v default).c,.ref ae 0,.ref (ae+1) 0,.ref (ae+2) 0] [.cells [.str y],.cells r.c,.cells [.str z]] t
theorem Lt (hv:IxI r y z l v) (h:v < l.length) {t:CUX} (q:CUQ r y z l v t) (ht:t.1=true):IxP r y z l (true,(v:Int),t.2):=by
 have:=q.eq
 subst this
 exact .inl ⟨rfl,.inl ⟨v,rfl,h,ht,hv.2⟩,rfl⟩
theorem Ls (hv:IxI r y z l v) (h:v < l.length) {t:CUX} (q:CUQ r y z l v t) (ht:t.1=false):IxI r y z l (v+1):=by
 have:=q.eq
 subst this
 refine ⟨h,λj hj=>?_⟩
 by_cases e:j < v
 ·exact hv.2 j e
 ·obtain rfl:j=v:=by omega
  exact ht
theorem Lu (hv:IxI r y z l v) (h:l.length<=v):IxP r y z l (false,-1,y,r,z):=.inr ⟨rfl,rfl,λj hj=>hv.2 j (by omega)⟩
theorem Lr (hl:l.length<=1000000) (h:v < l.length) {t:CUX} (q:CUQ r y z l v t):{env:=[(0,slA l),(1,.fn bo [] [.ref 1000000 0,.ref 1000001 0,.ref 1000002 0]),(7,.int .i64 (List.length l:Int)),(8,.int .i64 (IntKind.wrap .i64 ((v:Int)+1)))],objs:=[(1000000,.cells [.str t.2.1]),(1000001,.cells (RG.c t.2.2.1)),(1000002,.cells [.str t.2.2.2])]}=(λv:Nat=>({env:=[(0,slA l),(1,.fn bo [] [.ref 1000000 0,.ref 1000001 0,.ref 1000002 0]),(7,.int .i64 l.length),(8,.int .i64 (v:Int))],objs:=[(1000000,.cells [.str y]),(1000001,.cells r.c),(1000002,.cells [.str z])]}:St)) (v+1):=by
 have:=q.eq
 subst this
 rw [bC (by omega)]
theorem Lw {t:Bool×CIX} (q:IxP r y z l t) (h:t.1=true):FI (pIx r y z l) l.length t.2.1/\t.2.2=(y,r,z):=by
 rcases q with q | q
 ·exact q.2
 ·rw [h] at q;cases q.1
theorem Lv {t:Bool×CIX} (q:IxP r y z l t) (h:t.1=false):FI (pIx r y z l) l.length (-1)/\t.2.2=(y,r,z):=by
 rcases q with q | q
 ·rw [h] at q;cases q.1
 ·exact ⟨.inr ⟨rfl,q.2.2⟩,q.2.1⟩
end
theorem Bo (l:List SL) (y z:TX) (r:RG) (hr:r.ls.length<=1000000) (hl:l.length<=1000000):∃ (u:St->Bool) (w:St->Bool×CIX),(∀v:Nat,IxI r y z l v->aW u w ((λv:Nat=>({env:=[(0,slA l),(1,.fn bo [] [.ref 1000000 0,.ref 1000001 0,.ref 1000002 0]),(7,.int .i64 l.length),(8,.int .i64 (v:Int))],objs:=[(1000000,.cells [.str y]),(1000001,.cells r.c),(1000002,.cells [.str z])]}:St)) v) (IxP r y z l))/\∀L:List (List Nat×Orc),bq (V0.run [Jf] 1 [] L [] dM) dM [1,0,1,0] (mkO u w (λ(t:Bool×CIX) k=>cond t.1 (k .ret {env:=[(4,.int .i64 t.2.1)],objs:=[(1000000,.cells [.str t.2.2.1]),(1000001,.cells t.2.2.2.1.c),(1000002,.cells [.str t.2.2.2.2])]}) (k (.exit 0) {env:=[],objs:=[(1000000,.cells [.str t.2.2.1]),(1000001,.cells t.2.2.2.1.c),(1000002,.cells [.str t.2.2.2.2])]}))):=
 bX (Lf:=λL=>L) (λv:Nat=>{env:=[(0,slA l),(1,.fn bo [] [.ref 1000000 0,.ref 1000001 0,.ref 1000002 0]),(7,.int .i64 l.length),(8,.int .i64 (v:Int))],objs:=[(1000000,.cells [.str y]),(1000001,.cells r.c),(1000002,.cells [.str z])]}) (IxI r y z l) (λv=>l.length - v) (λ(t:Bool×CIX) k=>cond t.1 (k .ret {env:=[(4,.int .i64 t.2.1)],objs:=[(1000000,.cells [.str t.2.2.1]),(1000001,.cells t.2.2.2.1.c),(1000002,.cells [.str t.2.2.2.2])]}) (k (.exit 0) {env:=[],objs:=[(1000000,.cells [.str t.2.2.1]),(1000001,.cells t.2.2.2.1.c),(1000002,.cells [.str t.2.2.2.2])]})) (IxP r y z l) (by kernel_rfl) (λv hv=>.b (decide ((↑v:Int) < (↑(List.length l):Int))) (λh1=>
   .n (c:=within (↑v:Int) (List.length l)) (aO (aN h1)) (
   .call (Ih _ y z r hr) λr2 q2=>
   .b (r2.1) (λh3=>
    .fi (true,(v:Int),r2.2) (Lt hv (aN h1) q2 h3)) λh3=>
   .go {env:=[(0,slA l),(1,.fn bo [] [.ref 1000000 0,.ref 1000001 0,.ref 1000002 0]),(7,.int .i64 (↑(List.length l):Int)),(8,.int .i64 (IntKind.wrap .i64 ((↑v:Int)+1)))],objs:=[(1000000,.cells [.str r2.2.1]),(1000001,.cells (RG.c r2.2.2.1)),(1000002,.cells [.str r2.2.2.2])]} (v+1) (Ls hv (aN h1) q2 h3) (iz (aN h1)) (Lr hl (aN h1) q2))) λh1=>
  .fi (false,-1,y,r,z) (Lu hv (gu h1))) (λv L k kn=>by kernel_rfl)
def rIx (l:List AV) (os:List AO) (x:CIX):Prop:=∀s y z r,l=[slA s,.fn bo [] [.ref ae 0,.ref (ae+1) 0,.ref (ae+2) 0]]->os=[.cells [.str y],.cells (RG.c r),.cells [.str z]]->FI (pIx r y z s) s.length x.1/\x.2=(y,r,z)
theorem rIx.mk {s:List SL} {y z:TX} {r:RG} {x:CIX} (h:FI (pIx r y z s) s.length x.1/\x.2=(y,r,z)):rIx [slA s,.fn bo [] [.ref ae 0,.ref (ae+1) 0,.ref (ae+2) 0]] [.cells [.str y],.cells r.c,.cells [.str z]] x:=λs' y' z' r' h1 h2=>by
 injection h1 with h1 _
 injection h2 with h2 h3
 injection h3 with h3 h4
 injection h4 with h4 _
 injection h2 with h2
 injection h2 with h2 _
 injection h2 with h2
 injection h3 with h3
 injection h4 with h4
 injection h4 with h4 _
 injection h4 with h4
 rw [<-rL h1,<-RG.jb h3,<-h2,<-h4];exact h
theorem Hz (l:List SL) (y z:TX) (r:RG) (hr:r.ls.length<=1000000) (hl:l.length<=1000000):bz wd dM φCi rIx [slA l,.fn bo [] [.ref ae 0,.ref (ae+1) 0,.ref (ae+2) 0]] [.cells [.str y],.cells r.c,.cells [.str z]]:=by
 obtain ⟨u,w,hu,hc⟩:=Bo l y z r hr hl
 exact (bn (V:=V0) (T:=[Jf]) (d:=1) (R:=λ_ _ x=>FI (pIx r y z l) l.length x.1/\x.2=(y,r,z)) 1 (aE (hc _) ao) ak (.lp (hu 0 ⟨Nat.zero_le _,λj h=>absurd h (Nat.not_lt_zero _)⟩) λr1 q1=>
  .b (r1.1) (λh2=>
   .r r1.2 (Lw q1 h2)) λh2=>
  .r (-1,r1.2.2) (Lv q1 h2)) (by kernel_rfl)).mono λx hx=>rIx.mk hx
noncomputable abbrev eIx:Ent:=dK wd dM φCi rIx
def zW (l:List AV) (_:List AO) (x:Int):Prop:=∀r a y,l=[rgA r,.str a,.str y]->FI (pIx r y (aj (ofF r.ls) a) r.ss) r.ss.length x
theorem zW.mk {r:RG} {a y x:TX} {t:CIX} {os:List AO} (h:x=aj (ofF r.ls) a) (q:rIx [slA r.ss,.fn bo [] [.ref ae 0,.ref (ae+1) 0,.ref (ae+2) 0]] [.cells [.str y],.cells r.c,.cells [.str x]] t):zW [rgA r,.str a,.str y] os t.1:=λr' a' y' h1=>by
 injection h1 with h1 h2
 injection h2 with h2 h3
 injection h3 with h3 _
 injection h2 with h2
 injection h3 with h3
 have:=(q r.ss y x r rfl rfl).1
 rw [h] at this
 rw [<-jh h1,<-h2,<-h3];exact this
theorem Em (r:RG) (a y:TX) (h1:r.ls.length<=1000000) (h2:r.ss.length<=1000000):bz wd j1 φIn zW [rgA r,.str a,.str y] []:=
 bn (V:=V0) (T:=[eRo,eIx]) (d:=1) 0 ao ak (.call (pa _ _ h1) λr1 q1=>
  .call (Hz r.ss y r1 r h1 h2) λr2 q2=>
  .r r2.1 (zW.mk q1.eq q2)) (by kernel_rfl)
noncomputable abbrev H4:Ent:=dK wd j1 φIn zW
end Go.WF

namespace Go.WF
open Go Go.Ab Go.Proofs
set_option linter.unusedSectionVars false
def uM (ks:List Nat) (h:Hint):Hint:={h with objs:=h.objs++ks}
noncomputable def VAs:Env:={V0 with grow:=onD [158],hint:=λf t=>cond (Nat.beq f 21) (uM [55,100055] (V0.hint f t)) (V0.hint f t),trim:=λf p=>cond (Nat.beq f 21) ((V0.trim f p).map (uM [55,100055])) (V0.trim f p)}
noncomputable instance envAs:EnvOk VAs wd:=⟨rfl,rfl,eu,eH⟩
abbrev ASX:Type:=RG×SL×Int
def φAs (x:ASX):AV×List AO:=(.tup [rgA x.1,.agg x.2.1.c,.int .i64 x.2.2],[])
abbrev rg0:RG:=⟨0,[],[]⟩
def lR (id al ax:TX) (aa n:Int):SL:=⟨id,al,ax,aa,n,0,0⟩
def AsR (r:RG) (id al ax:TX) (aa:Int) (ah:Bool) (n:Int) (x:ASX):Prop:=
 (x.2.2=6/\(cw id&&cw al)=false)∨(x.2.2=11/\(ah||(!cw ax||(decide (aa < 1)||decide (aa > 8))))=true) ∨
 (x.2.2=0/\x.1=⟨n,r.ls,r.ss⟩/\∃i:Nat,i < r.ss.length/\pIx r al (aj (ofF r.ls) id) r.ss i=true/\x.2.1=r.ss.getD i default) ∨
 (x.2.2=0/\cw id=true/\cw al=true/\cw ax=true/\1<=aa/\aa<=8/\(∀j,j < r.ss.length->pIx r al (aj (ofF r.ls) id) r.ss j=false)/\x.1=⟨n,r.ls,r.ss++[lR id al ax aa n]⟩/\x.2.1=lR id al ax aa n)
section
variable {r:RG} {id al ax z:TX} {ab aa n:Int} {ah:Bool} {v:Nat}
theorem Jv {x:Int} {l:List AV} {os:List AO} (q:rE 0 l os x):(x !=0)=false:=by have q:x=0:=q;rw [q];rfl
theorem FI.lt {p:Nat->Bool} {m:Nat} {x:Int} (h:FI p m x) (h0:decide (x≥0)=true):∃i:Nat,x=i/\i < m:=by
 have h0:=of_decide_eq_true h0
 rcases h with ⟨i,h1,h2,_⟩ | ⟨h1,_⟩
 ·exact ⟨i,h1,h2⟩
 ·omega
theorem Mk {x:Int} {os:List AO} (q:zW [rgA r,.str id,.str al] os x) (h0:decide (x≥0)=true):within x r.ss.length=true:=by
 obtain ⟨i,h1,h2⟩:=(q r id al rfl).lt h0
 rw [h1];exact aO h2
theorem Ju {x:RG} (q:x=⟨n,r.ls,r.ss⟩):(Nat.beq 7 7&&Nat.beq (List.length (RG.ss x)) (List.length (RG.ss x)))=true:=by simp
theorem Iz {x y:Bool} (h1:x=cw id) (h2:y=cw al) (h:(bif !x then true else !y)=true):AsR r id al ax aa ah n (rg0,default,6):=.inl ⟨rfl,by
 rw [h1,h2] at h
 revert h;cases cw id <;> cases cw al <;> simp⟩
theorem IA {x:RG} {y:Int} {os:List AO} (q:x=⟨n,r.ls,r.ss⟩) (h:zW [rgA r,.str id,.str al] os y) (h0:decide (y≥0)=true):AsR r id al ax aa ah n (x,r.ss.getD (Int.toNat y) default,0):=by
 have h0:=of_decide_eq_true h0
 rcases h r id al rfl with ⟨i,h1,h2,h3,_⟩ | ⟨h1,_⟩
 ·subst h1
  exact .inr (.inr (.inl ⟨rfl,q,i,h2,h3,rfl⟩))
 ·omega
theorem Iy {x:Bool} (h1:x=cw ax) (h:(bif bif bif ah then true else !x then true else decide (aa < 1) then true else decide (aa > 8))=true):AsR r id al ax aa ah n (rg0,default,11):=.inr (.inl ⟨rfl,by
 rw [h1] at h
 revert h;cases ah <;> cases cw ax <;> cases decide (aa < 1) <;> cases decide (aa > 8) <;> simp⟩)
theorem IB {x y w:Bool} {i:Int} {os:List AO} (h1:x=cw id) (h2:y=cw al) (h:(bif !x then true else !y)=false) (q:zW [rgA r,.str id,.str al] os i) (h0:decide (i≥0)=false) (h3:w=cw ax) (h4:(bif bif bif ah then true else !w then true else decide (aa < 1) then true else decide (aa > 8))=false):AsR r id al ax aa ah n (⟨n,r.ls,r.ss++[lR id al ax aa n]⟩,lR id al ax aa n,0):=by
 rw [h1,h2] at h
 rw [h3] at h4
 have k1:cw id=true:=by revert h;cases cw id <;> simp
 have k2:cw al=true:=by revert h;cases cw al <;> cases cw id <;> simp
 have k3:cw ax=true:=by revert h4;cases ah <;> cases cw ax <;> simp
 have k4:decide (aa < 1)=false:=by revert h4;cases ah <;> cases cw ax <;> cases decide (aa < 1) <;> simp
 have k5:decide (aa > 8)=false:=by revert h4;cases ah <;> cases cw ax <;> cases decide (aa < 1) <;> cases decide (aa > 8) <;> simp
 have k4:=of_decide_eq_false k4
 have k5:=of_decide_eq_false k5
 refine .inr (.inr (.inr ⟨rfl,k1,k2,k3,by omega,by omega,?_,rfl,rfl⟩))
 rcases q r id al rfl with ⟨j,e,_⟩ | ⟨_,e⟩
 ·have:=of_decide_eq_false h0;omega
 ·exact e
theorem oT {a a' b b' c c':AV} {os:List AO} (ha:∀k v,Rep k a v->Rep k a' v) (hb:∀k v,Rep k b v->Rep k b' v) (hc:∀k v,Rep k c v->Rep k c' v) (hk:au [a',b',c']=[]):Tr (.tup [a,b,c],os) (.tup [a',b',c'],os):=by
 refine ⟨.inr ⟨hk,λk v h=>?_⟩,.inl rfl⟩
 cases h with
 | tup _ vs h1 h2=>
  refine .tup _ vs h1 λi u hu=>?_
  match i,hu with
  | 0,hu=>injection hu with hu;subst hu;exact ha _ _ (h2 0 _ rfl)
  | 1,hu=>injection hu with hu;subst hu;exact hb _ _ (h2 1 _ rfl)
  | 2,hu=>injection hu with hu;subst hu;exact hc _ _ (h2 2 _ rfl)
theorem EI (e:Int):Tr (.tup [.agg [.int .i64 0,.sl .fit 0 0 λx=>[],.sl .fit 0 0 λx=>[]],.agg [.str [],.str [],.str [],.int .i64 0,.int .i64 0,.int .i64 0,.int .i64 0],.int .i64 e],[]) (φAs (rg0,default,e)):=
 oT (λk v h=>iP (.cons (.same rfl) (.cons cz (.cons cz .nil))) h) (λk v h=>h) (λk v h=>h) rfl
theorem eY {α:Type} [Inhabited α] {l:List α} {a:α} {j:Nat} (h:j < l.length):(l++[a]).getD j default=l.getD j default:=by
 rw [List.getD_eq_getElem?_getD,List.getD_eq_getElem?_getD,List.getElem?_append_left h]
theorem eG {α:Type} [Inhabited α] {l:List α} {a:α}:(l++[a]).getD l.length default=a:=by simp [List.getD_eq_getElem?_getD]
theorem IC:Tr (.tup [.agg [.int .i64 n,lkA (RG.ls r),.sl .no 7 (List.length (RG.ss r)+1) (ar (List.length (RG.ss r)) 1 (λj=>(SL.c (List.getD (RG.ss r) j default))) (ag [.str [],.str [],.str [],.int .i64 0,.int .i64 0,.int .i64 0,.int .i64 0] [(0,.agg [.str id,.str al,.str ax,.int .i64 aa,.int .i64 n,.int .i64 0,.int .i64 0])]))],.agg [.str id,.str al,.str ax,.int .i64 aa,.int .i64 n,.int .i64 0,.int .i64 0],.int .i64 0],[]) (φAs (⟨n,r.ls,r.ss++[lR id al ax aa n]⟩,lR id al ax aa n,0)):=by
 refine oT (λk v h=>?_) (λk v h=>h) (λk v h=>h) rfl
 have e:slA (r.ss++[lR id al ax aa n])=.sl .no 7 (r.ss.length+1) λj=>((r.ss++[lR id al ax aa n]).getD j default).c:=by unfold slA;simp
 unfold rgA RG.c
 dsimp only
 rw [e]
 refine iP (.cons (.same rfl) (.cons (.same rfl) (.cons (ff λj hj=>?_) .nil))) h
 by_cases hj':j < r.ss.length
 ·rw [df hj',eY hj']
 ·obtain rfl:j=r.ss.length:=by omega
  rw [dS (Nat.le_refl _) (by omega),Nat.sub_self,eG];rfl
theorem Mo (h:VR r) (hn:r.now<=n/\n<=1099511627776) (hv:v < r.ss.length) {x:TX}:(bif bif bif SL.layer (List.getD (RG.ss r) v default)==al then SL.fin (List.getD (RG.ss r) v default) !=0 else false then decide (IntKind.wrap .i64 (n - SL.to (List.getD (RG.ss r) v default)) < 0) else false then x==z else false)=false:=by
 have hs:=h.sv hv
 have h1:=hs.fin
 have h2:=hs.fr
 have h3:0<=(r.ss.getD v default).to/\(r.ss.getD v default).to<=r.now:=by omega
 rw [wrap_i64 (by omega) (by omega),decide_eq_false (show ¬ n - (r.ss.getD v default).to < 0 by omega)]
 cases SL.layer (List.getD (RG.ss r) v default)==al <;> cases SL.fin (List.getD (RG.ss r) v default) !=0 <;> rfl
abbrev asS (r:RG) (id al ax z:TX) (ab aa:Int) (ah:Bool) (n:Int) (v:Nat):St:={env:=[(1,.str id),(3,.int .i64 0),(4,.int .i64 n),(5,.ref 5 0),(7,.ref 7 0),(10,.ref 10 0),(11,.ref 11 0),(13,.fn 62 [] []),(15,.ref 15 0),(17,.str z),(97,slA r.ss),(98,.int .i64 r.ss.length),(99,.int .i64 (v:Int))],objs:=[(5,.cells r.c),(7,.cells [.str al,.str ax,.int .i64 ab,.int .i64 aa,.bool ah]),(10,.cells [.int .i64 0,.sl .fit 0 0 λx=>[],.sl .fit 0 0 λx=>[] ]),(11,.cells [.str [],.str [],.str [],.int .i64 0,.int .i64 0,.int .i64 0,.int .i64 0]),(15,.cells [.int .i64 n,.sl (.key 55) 3 r.ls.length λj=>(r.ls.getD j default).c,.gsl 100055 7 r.ss.length]),(55,.own 3 r.ls.length),(100055,.grw 0 7 r.ss.length λj=>(r.ss.getD j default).c)]}
theorem Ml (hl:r.ss.length<=1000000) (hv:v < r.ss.length):{env:=[(1,.str id),(3,.int .i64 0),(4,.int .i64 n),(5,.ref 5 0),(7,.ref 7 0),(10,.ref 10 0),(11,.ref 11 0),(13,.fn 62 [] []),(15,.ref 15 0),(17,.str z),(97,slA r.ss),(98,.int .i64 r.ss.length),(99,.int .i64 (IntKind.wrap .i64 ((v:Int)+1)))],objs:=[(5,.cells r.c),(7,.cells [.str al,.str ax,.int .i64 ab,.int .i64 aa,.bool ah]),(10,.cells [.int .i64 0,.sl .fit 0 0 λx=>[],.sl .fit 0 0 λx=>[] ]),(11,.cells [.str [],.str [],.str [],.int .i64 0,.int .i64 0,.int .i64 0,.int .i64 0]),(15,.cells [.int .i64 n,.sl (.key 55) 3 r.ls.length λj=>(r.ls.getD j default).c,.gsl 100055 7 r.ss.length]),(55,.own 3 r.ls.length),(100055,.grw 0 7 r.ss.length λj=>(r.ss.getD j default).c)]}=asS r id al ax z ab aa ah n (v+1):=by
 rw [bC (by omega)]
theorem Mn {u:St->Bool} {w:St->Unit} {Q:Unit->Prop} (hu:∀v:Nat,v<=r.ss.length->aW u w (asS r id al ax z ab aa ah n v) Q) {x:RG} (q:x=⟨n,r.ls,r.ss⟩):aW u w {env:=[(1,.str id),(3,.int .i64 0),(4,.int .i64 n),(5,.ref 5 0),(7,.ref 7 0),(10,.ref 10 0),(11,.ref 11 0),(13,.fn 62 [] []),(15,.ref 15 0),(17,.str z),(97,slA r.ss),(98,.int .i64 r.ss.length),(99,.int .i64 0)],objs:=[(5,.cells r.c),(7,.cells [.str al,.str ax,.int .i64 ab,.int .i64 aa,.bool ah]),(10,.cells [.int .i64 0,.sl .fit 0 0 λx=>[],.sl .fit 0 0 λx=>[] ]),(11,.cells [.str [],.str [],.str [],.int .i64 0,.int .i64 0,.int .i64 0,.int .i64 0]),(15,.cells [.int .i64 (RG.now x),.sl (.key 55) 3 (List.length (RG.ls x)) λj=>(LK.c (List.getD (RG.ls x) j default)),.gsl 100055 7 (List.length (RG.ss x))]),(55,.own 3 (List.length (RG.ls x))),(100055,.grw 0 7 (List.length (RG.ss x)) λj=>(SL.c (List.getD (RG.ss x) j default)))]} Q:=by
 rw [q];exact hu 0 (Nat.zero_le _)
theorem Mp (hb:r.ss.length < 128):decide ((List.length (RG.ss r):Int)≥128)=false:=decide_eq_false (by omega)
theorem Mm (hb:r.ss.length<=1000000):(roomy 80 (List.length (RG.ss r)+1)&&Nat.beq (List.length (RG.ss r)) (List.length (RG.ss r)))=true:=bd (by omega)
theorem ID:(Nat.beq 7 7&&Nat.beq (List.length (RG.ss r)+1) (List.length (RG.ss r)+1))=true:=by simp
end
theorem Cc (r:RG) (id al ax:TX) (ab aa:Int) (ah:Bool) (n:Int) (h:VR r) (hn:r.now<=n/\n<=1099511627776) (hl:r.ls.length<=1000000):∃ (u:St->Bool) (w:St->Unit),(∀ (z:TX) (v:Nat),v<=r.ss.length->aW u w (asS r id al ax z ab aa ah n v) λ_=>True)/\∀L:List (List Nat×Orc),bq (VAs.run [jX,eRd,eCp,H4,eRo] 2 [] L [] ca) ca [1,1,1,1,1,1,1,1,1,0,1,0] (mkO u w λ(_:Unit) k=>k (.exit 0) {env:=[(1,.str id),(4,.int .i64 n),(5,.ref 5 0),(7,.ref 7 0),(10,.ref 10 0),(11,.ref 11 0),(13,.fn 62 [] []),(15,.ref 15 0)],objs:=[(5,.cells r.c),(7,.cells [.str al,.str ax,.int .i64 ab,.int .i64 aa,.bool ah]),(10,.cells [.int .i64 0,.sl .fit 0 0 λx=>[],.sl .fit 0 0 λx=>[] ]),(11,.cells [.str [],.str [],.str [],.int .i64 0,.int .i64 0,.int .i64 0,.int .i64 0]),(15,.cells [.int .i64 n,.sl (.key 55) 3 r.ls.length λj=>(r.ls.getD j default).c,.gsl 100055 7 r.ss.length]),(55,.own 3 r.ls.length),(100055,.grw 0 7 r.ss.length λj=>(r.ss.getD j default).c)]}):=by
 obtain ⟨u,w,hu,hc⟩:=bX (V:=VAs) (T:=[jX,eRd,eCp,H4,eRo]) (d:=2) (W:=[]) (f:=ca) (p:=[1,1,1,1,1,1,1,1,1,0,1,0]) (Lf:=λL=>L) (λv:TX×Nat=>asS r id al ax v.1 ab aa ah n v.2) (λv=>v.2<=r.ss.length) (λv=>r.ss.length - v.2) (λ(_:Unit) k=>k (.exit 0) {env:=[(1,.str id),(4,.int .i64 n),(5,.ref 5 0),(7,.ref 7 0),(10,.ref 10 0),(11,.ref 11 0),(13,.fn 62 [] []),(15,.ref 15 0)],objs:=[(5,.cells r.c),(7,.cells [.str al,.str ax,.int .i64 ab,.int .i64 aa,.bool ah]),(10,.cells [.int .i64 0,.sl .fit 0 0 λx=>[],.sl .fit 0 0 λx=>[] ]),(11,.cells [.str [],.str [],.str [],.int .i64 0,.int .i64 0,.int .i64 0,.int .i64 0]),(15,.cells [.int .i64 n,.sl (.key 55) 3 r.ls.length λj=>(r.ls.getD j default).c,.gsl 100055 7 r.ss.length]),(55,.own 3 r.ls.length),(100055,.grw 0 7 r.ss.length λj=>(r.ss.getD j default).c)]}) (λ_=>True) (by kernel_rfl) (λv hv=>.b (decide ((↑v.2:Int) < (↑(List.length (RG.ss r)):Int))) (λh1=>
   .n (c:=within (↑v.2:Int) (List.length (RG.ss r))) (aO (aN h1)) (
   .call (pa r.ls (r.ss.getD v.2 default).id hl) λr2 q2=>
   .no (c:=bif bif bif SL.layer (List.getD (RG.ss r) v.2 default)==al then SL.fin (List.getD (RG.ss r) v.2 default) !=0 else false then decide (IntKind.wrap .i64 (n - SL.to (List.getD (RG.ss r) v.2 default)) < 0) else false then r2==v.1 else false) (A:=λ_ k kn=>k (.ret) ({env:=[(10,.ref 10 0),(11,.ref 11 0),(12,.int .i64 28)],objs:=[(10,.cells [.int .i64 0,.sl .fit 0 0 λx=>[],.sl .fit 0 0 λx=>[] ]),(11,.cells [.str [],.str [],.str [],.int .i64 0,.int .i64 0,.int .i64 0,.int .i64 0]),(55,.own 3 (List.length (RG.ls r))),(100055,AO.grw 0 7 (List.length (RG.ss r)) λj=>(SL.c (List.getD (RG.ss r) j default)))]})) (Mo h hn (aN h1)) (
   .go {env:=[(1,.str id),(3,.int .i64 0),(4,.int .i64 n),(5,.ref 5 0),(7,.ref 7 0),(10,.ref 10 0),(11,.ref 11 0),(13,.fn 62 [] []),(15,.ref 15 0),(17,.str v.1),(97,slA (RG.ss r)),(98,.int .i64 (↑(List.length (RG.ss r)):Int)),(99,.int .i64 (IntKind.wrap .i64 ((↑v.2:Int)+1)))],objs:=[(5,.cells (RG.c r)),(7,.cells [.str al,.str ax,.int .i64 ab,.int .i64 aa,.bool ah]),(10,.cells [.int .i64 0,.sl .fit 0 0 λx=>[],.sl .fit 0 0 λx=>[] ]),(11,.cells [.str [],.str [],.str [],.int .i64 0,.int .i64 0,.int .i64 0,.int .i64 0]),(15,.cells [.int .i64 n,.sl (.key 55) 3 (List.length (RG.ls r)) λj=>[.str (LK.a (List.getD (RG.ls r) j default)),.str (LK.b (List.getD (RG.ls r) j default)),.int .i64 (LK.t (List.getD (RG.ls r) j default))],AV.gsl 100055 7 (List.length (RG.ss r))]),(55,.own 3 (List.length (RG.ls r))),(100055,AO.grw 0 7 (List.length (RG.ss r)) λj=>(SL.c (List.getD (RG.ss r) j default)))]} (v.1,v.2+1) (aN h1) (iz (aN h1)) (Ml (by have:=h.nss;omega) (aN h1))))) λh1=>
  .fi () trivial) (λv L k kn=>by kernel_rfl)
 exact ⟨u,w,λz v hv=>hu (z,v) hv,hc⟩
def rAs (l:List AV) (_:List AO) (x:ASX):Prop:=∀r id al ax ab aa ah n,l=[rgA r,.str id,.agg [.str al,.str ax,.int .i64 ab,.int .i64 aa,.bool ah],.int .i64 0,.int .i64 n]->AsR r id al ax aa ah n x
theorem rAs.mk {r:RG} {id al ax:TX} {ab aa:Int} {ah:Bool} {n:Int} {os:List AO} {x:ASX} (h:AsR r id al ax aa ah n x):rAs [rgA r,.str id,.agg [.str al,.str ax,.int .i64 ab,.int .i64 aa,.bool ah],.int .i64 0,.int .i64 n] os x:=by
 intro r' id' al' ax' ab' aa' ah' n' e
 simp only [List.cons.injEq,AV.str.injEq,AV.agg.injEq,AV.int.injEq,AV.bool.injEq,true_and,and_true] at e
 obtain ⟨e1,e2,⟨e3,e4,_,e5,e6⟩,e7⟩:=e
 rw [<-jh e1,<-e2,<-e3,<-e4,<-e5,<-e6,<-e7];exact h
theorem EK (r:RG) (id al ax:TX) (ab aa:Int) (ah:Bool) (n:Int) (h:VR r) (hn:r.now<=n/\n<=1099511627776) (hb:r.ss.length < 128):bz wd ca φAs rAs [rgA r,.str id,.agg [.str al,.str ax,.int .i64 ab,.int .i64 aa,.bool ah],.int .i64 0,.int .i64 n] []:=by
 have hl:r.ls.length<=1000000:=by have:=h.nls;omega
 obtain ⟨u,w,hu,hc⟩:=Cc r id al ax ab aa ah n h hn hl
 exact (bn (V:=VAs) (T:=[jX,eRd,eCp,H4,eRo]) (d:=2) (R:=λ_ _ x=>AsR r id al ax aa ah n x) 0 (aE (hc _) ao) ak (.call (Dc h hn) λr1 q1=>
  .no (c:=r1 !=0) (a:=some ((.tup [.agg [.int .i64 0,.sl .fit 0 0 λx=>[],.sl .fit 0 0 λx=>[] ],.agg [.str [],.str [],.str [],.int .i64 0,.int .i64 0,.int .i64 0,.int .i64 0],.int .i64 r1],[]))) (Jv q1) (
  .call (cS id) λr3 q3=>
  .call (cS al) λr4 q4=>
  .b (bif !r3 then true else !r4) (λh5=>
   .t (rg0,default,6) (Iz (q3 _ rfl) (q4 _ rfl) h5) (EI 6)) λh5=>
  .call (En r n hl (by have:=h.nss;omega)) λr6 q6=>
  .call (Em r id al hl (by have:=h.nss;omega)) λr7 q7=>
  .b (decide (r7≥0)) (λh8=>
   .n (c:=within r7 (List.length (RG.ss r))) (Mk q7 h8) (
   .n (c:=Nat.beq 7 7&&Nat.beq (List.length (RG.ss r6)) (List.length (RG.ss r6))) (Ju q6.eq) (
   .r (r6,r.ss.getD (Int.toNat r7) default,0) (IA q6.eq q7 h8)))) λh8=>
  .call (cS ax) λr9 q9=>
  .b (bif bif bif ah then true else !r9 then true else decide (aa < 1) then true else decide (aa > 8)) (λh10=>
   .t (rg0,default,11) (Iy (q9 _ rfl) h10) (EI 11)) λh10=>
  .call (pa r.ls id hl) λr11 q11=>
  .lp (Mn (hu r11) q6.eq) λr12 q12=>
  .no (c:=decide ((↑(List.length (RG.ss r)):Int)≥128)) (a:=some ((.tup [.agg [.int .i64 0,.sl .fit 0 0 λx=>[],.sl .fit 0 0 λx=>[] ],.agg [.str [],.str [],.str [],.int .i64 0,.int .i64 0,.int .i64 0,.int .i64 0],.int .i64 19],[]))) (Mp hb) (
  .n (c:=roomy 80 (List.length (RG.ss r)+1)&&Nat.beq (List.length (RG.ss r)) (List.length (RG.ss r))) (Mm (by have:=h.nss;omega)) (
  .n (c:=Nat.beq 7 7&&Nat.beq (List.length (RG.ss r)+1) (List.length (RG.ss r)+1)) (ID) (
  .t (⟨n,r.ls,r.ss++[lR id al ax aa n]⟩,lR id al ax aa n,0) (IB (q3 _ rfl) (q4 _ rfl) h5 q7 h8 (q9 _ rfl) h10) IC))))) (by kernel_rfl)).mono λx hx=>rAs.mk hx
noncomputable abbrev eAs:Ent:=dK wd ca φAs rAs
end Go.WF

namespace Go.Ab
open Go Go.RowKit
def qu (oi ci:Nat):Vw:=λs f=>
 match s.obj oi with
 | some (.cells cs)=>
  (match cs[ci]? with
  | some (.sl o sz n g)=>f {env:=s.env,objs:=aput s.objs oi (.cells (cs.set ci (.sl .no sz n g)))}
  | _=>f s)
 | _=>f s
theorem wB (oi ci:Nat):gm (qu oi ci):=by
 intro s f r h
 unfold qu at h
 split at h
 ·rename_i cs ho
  split at h
  ·rename_i o sz n g hc
   refine ⟨_,h,λB c a hr hn=>⟨c,rfl,?_,λt v ht=>hn t v ht⟩⟩
   obtain ⟨⟨⟨vs,t,hh,hvs,hv⟩,hone⟩,hI,hfr⟩:=hr.objs.rep oi _ ho
   have hci:ci < cs.length:=(List.getElem?_eq_some_iff.1 hc).1
   have hX:Rep c (.sl .no sz n g) (vs.getD ci undef):=kM (hv ci _ hc) λ_ _=>rfl
   have hrow:RowAt c (c.β oi) (cs.set ci (.sl .no sz n g)):=by
    refine ⟨⟨vs,t,hh,by rw [List.length_set];exact hvs,λi u hu=>?_⟩,λi u hu=>?_⟩
    ·rw [List.getElem?_set] at hu
     by_cases e:ci=i
     ·subst e;rw [if_pos rfl,if_pos hci] at hu;cases hu;exact hX
     ·rw [if_neg e] at hu;exact hv i u hu
    ·rw [List.getElem?_set] at hu
     by_cases e:ci=i
     ·subst e;rw [if_pos rfl,if_pos hci] at hu;cases hu;rfl
     ·rw [if_neg e] at hu;exact hone i u hu
   refine hr.obj (k:=oi) (o:=.cells (cs.set ci (.sl .no sz n g))) ((Keeps.refl c _).but oi) (Grow.refl hr.good) ⟨hrow,hI,hfr⟩ (λp o' b hp hne hb e=>?_) (λq hq=>?_) (λb hb=>hr.mine oi _ b ho hb)
   ·exact hr.objs.apart p o' oi _ b hp ho hne hb e
   ·have hq:q∈au (cs.set ci (.sl .no sz n g)):=hq
    rcases nA q hq with hq | hq
    ·simp [AV.keys] at hq
    ·exact .inr (hr.objs.closed oi _ ho q hq)
  ·exact ⟨s,h,λB c a hr hn=>⟨c,rfl,hr,hn⟩⟩
 ·exact ⟨s,h,λB c a hr hn=>⟨c,rfl,hr,hn⟩⟩
end Go.Ab

namespace Go.WF
open Go Go.Ab Go.Proofs
set_option linter.unusedSectionVars false
noncomputable def VMe:Env:={V0 with hint:=λf t=>cond (Nat.beq f 9) (uM [40,100040] (V0.hint f t)) (V0.hint f t),trim:=λf p=>cond (Nat.beq f 9) ((V0.trim f p).map (uM [40,100040])) (V0.trim f p)}
def lS (q:List TX) (l:List AV):Bool:=q.any λp=>bO l [.str p]
def mhO (q:List TX):AO:=.mp false [.str] (lS q) λl=>.bool (lS q l)
noncomputable instance envMe:EnvOk VMe wd:=⟨rfl,rfl,eu,eH⟩
abbrev MEX:Type:=RG×RWN×Int
def φMe (x:MEX):AV×List AO:=(.tup [rgA x.1,.sl .no 7 x.2.1.1 x.2.1.2,.int .i64 x.2.2],[])
def l3 (s:SL) (n:Int):SL:=⟨s.id,s.layer,s.exp,s.arm,s.fr,n,2⟩
noncomputable def mgS (f:FR) (z:TX) (n:Int) (i:Nat) (x:List SL×List TX):List SL×List TX:=
 cond ((x.1.getD i default).fin !=0||!(aj f (x.1.getD i default).id==z)) x
  (cond (lS x.2 [.str (x.1.getD i default).layer]) (x.1.set i (l3 (x.1.getD i default) n),(x.1.getD i default).layer::x.2) (x.1,(x.1.getD i default).layer::x.2))
noncomputable def mgF (f:FR) (z:TX) (n:Int) (ss:List SL):Nat->List SL×List TX
 | 0=>(ss,[])
 | i+1=>mgS f z n i (mgF f z n ss i)
abbrev MV:Type:=Fin 52×List SL×List TX×RWN
def MeI (f:FR) (z:TX) (n:Int) (ss:List SL) (v:MV):Prop:=v.1.val<=ss.length/\v.2.1.length=ss.length/\(v.2.1,v.2.2.1)=mgF f z n ss v.1.val/\v.2.2.2.1<=v.1.val
theorem DB (q:List TX) (a:TX):AO.mp false [KD.str] (λl=>bif bO l [.str a] then true else lS q l) (λl=>bif bO l [.str a] then .bool true else .bool (lS q l))=mhO (a::q):=by
 unfold mhO
 congr 1
 ·funext l
  show _=AV.bool (bO l [.str a]||lS q l)
  cases bO l [.str a] <;> rfl
theorem AK {t:List SL} {i:Nat} (hi:i < t.length) (s:SL) (x:List AV):(λj=>bif Nat.beq j i then s.c else bif Nat.beq j i then x else (t.getD j default).c)=λj=>((t.set i s).getD j default).c:=by
 funext j
 by_cases e:j=i
 ·subst e
  rw [Nat.beq_refl,cond_true,List.getD_eq_getElem?_getD,List.getElem?_set_self hi];rfl
 ·rw [il e,cond_false,cond_false,List.getD_eq_getElem?_getD,List.getD_eq_getElem?_getD,List.getElem?_set_ne (λh=>e h.symm)]
section
variable {f:FR} {z:TX} {n:Int} {ss:List SL} {v:MV} {L:List LK} {m:Nat}
theorem KN {i:Nat} {t:List SL} (h:i < t.length):(within (i:Int) t.length&&Nat.beq t.length t.length)=true:=by rw [aO h];simp
theorem Ci {i:Nat} {t:List SL} (h:i < t.length):(true&&(Nat.blt i t.length&&Nat.beq t.length t.length))=true:=by rw [tj h];simp
theorem KM {i:Nat} {t:List SL} {c:Bool} (h:i < t.length):(bif true&&(Nat.blt i t.length&&Nat.beq t.length t.length) then true else c)=true:=by rw [Ci h];rfl
theorem I1 {i:Nat} {t:List SL} (h:i < t.length):(Nat.ble 0 1&&(Nat.blt i t.length&&Nat.beq t.length t.length))=true:=by rw [tj h];simp
abbrev yS (v:MV) (hl:ss.length<=51) (hv:MeI f z n ss v) (h:v.1.val < v.2.1.length):Fin 52:=⟨v.1.val+1,by have:=hv.2.1;omega⟩
theorem KI (hv:MeI f z n ss v) (hl:ss.length<=51):(roomy 80 (v.2.2.2.1+1)&&Nat.beq v.2.2.2.1 v.2.2.2.1)=true:=bd (by have:=hv.2.2.2;have:=hv.1;omega)
theorem Hc {r:TX} {s:SL} (q:r=aj f s.id) (h:(bif s.fin !=0 then true else !r==z)=true):(s.fin !=0||!(aj f s.id==z))=true:=by rw [<-q];exact h
theorem DF {r:TX} {s:SL} (q:r=aj f s.id) (h:(bif s.fin !=0 then true else !r==z)=false):(s.fin !=0||!(aj f s.id==z))=false:=by rw [<-q];exact h
theorem xc (hv:MeI f z n ss v):mgF f z n ss (v.1.val+1)=mgS f z n v.1.val (v.2.1,v.2.2.1):=by rw [hv.2.2.1];rfl
theorem G9 (hv:MeI f z n ss v) (h:v.1.val < v.2.1.length) (hc:((v.2.1.getD v.1.val default).fin !=0||!(aj f (v.2.1.getD v.1.val default).id==z))=true) {hl:ss.length<=51}:MeI f z n ss (yS v hl hv h,v.2):=by
 refine ⟨by show v.1.val+1<=_;have:=hv.2.1;omega,hv.2.1,?_,Nat.le_succ_of_le hv.2.2.2⟩
 show _=mgF f z n ss (v.1.val+1)
 rw [xc hv];unfold mgS;dsimp only;rw [hc];rfl
theorem G8 (hv:MeI f z n ss v) (h:v.1.val < v.2.1.length) (hc:((v.2.1.getD v.1.val default).fin !=0||!(aj f (v.2.1.getD v.1.val default).id==z))=false) (hm:lS v.2.2.1 [.str (v.2.1.getD v.1.val default).layer]=true) {g:Nat->List AV} {hl:ss.length<=51}:MeI f z n ss (yS v hl hv h,(v.2.1.set v.1.val (l3 (v.2.1.getD v.1.val default) n)),((v.2.1.getD v.1.val default).layer::v.2.2.1),(v.2.2.2.1+1,g)):=by
 refine ⟨by show v.1.val+1<=_;have:=hv.2.1;omega,by show List.length (v.2.1.set v.1.val (l3 (v.2.1.getD v.1.val default) n))=_;rw [List.length_set];exact hv.2.1,?_,by show _+1<=v.1.val+1;have:=hv.2.2.2;omega⟩
 show _=mgF f z n ss (v.1.val+1)
 rw [xc hv];unfold mgS;dsimp only;rw [hc,hm];rfl
theorem G7 (hv:MeI f z n ss v) (h:v.1.val < v.2.1.length) (hc:((v.2.1.getD v.1.val default).fin !=0||!(aj f (v.2.1.getD v.1.val default).id==z))=false) (hm:lS v.2.2.1 [.str (v.2.1.getD v.1.val default).layer]=false) {hl:ss.length<=51}:MeI f z n ss (yS v hl hv h,v.2.1,((v.2.1.getD v.1.val default).layer::v.2.2.1),v.2.2.2):=by
 refine ⟨by show v.1.val+1<=_;have:=hv.2.1;omega,hv.2.1,?_,Nat.le_succ_of_le hv.2.2.2⟩
 show _=mgF f z n ss (v.1.val+1)
 rw [xc hv];unfold mgS;dsimp only;rw [hc,hm];rfl
theorem A7 (hv:MeI f z n ss v) (h:v.1.val < v.2.1.length):ss.length - (v.1.val+1) < ss.length - v.1.val:=by have:=hv.2.1;omega
theorem G3 (hv:MeI f z n ss v) (h:v.1.val < v.2.1.length) {hl:ss.length<=51}:{env:=[(3,.int .i64 n),(8,.ref 8 0),(12,.ref 12 0),(13,.str z),(14,.mref 65),(15,.sl (.key 110) 7 v.2.2.2.1 v.2.2.2.2),(68,.int .i64 (↑(List.length v.2.1):Int)),(69,.int .i64 (IntKind.wrap .i64 ((↑v.1.val:Int)+1)))],objs:=[(8,.cells [.int .i64 0,.sl .fit 0 0 λx=>[],.sl .fit 0 0 λx=>[] ]),(12,.cells [.int .i64 n,lkA L,AV.gsl 100040 7 (List.length v.2.1)]),(65,AO.mp false [KD.str] (lS v.2.2.1) λl=>.bool (lS v.2.2.1 l)),(110,.own 7 v.2.2.2.1),(40,.own 3 m),(100040,AO.grw 0 7 (List.length v.2.1) λj=>(SL.c (List.getD v.2.1 j default)))]}=(λv:MV=>({env:=[(3,.int .i64 n),(8,.ref 8 0),(12,.ref 12 0),(13,.str z),(14,.mref 65),(15,.sl (.key 110) 7 v.2.2.2.1 v.2.2.2.2),(68,.int .i64 (v.2.1).length),(69,.int .i64 ((v.1.val:Nat):Int))],objs:=[(8,.cells [.int .i64 0,.sl .fit 0 0 λx=>[],.sl .fit 0 0 λx=>[] ]),(12,.cells [.int .i64 n,lkA L,.gsl 100040 7 (v.2.1).length]),(65,mhO v.2.2.1),(110,.own 7 v.2.2.2.1),(40,.own 3 m),(100040,.grw 0 7 (v.2.1).length λj=>((v.2.1).getD j default).c)]}:St)) (yS v hl hv h,v.2):=by
 rw [bC (by have:=hv.2.1;omega)]
 rfl
theorem G2 (hv:MeI f z n ss v) (h:v.1.val < v.2.1.length) {g:Nat->List AV} {hl:ss.length<=51}:{env:=[(3,.int .i64 n),(8,.ref 8 0),(12,.ref 12 0),(13,.str z),(14,.mref 65),(15,.sl (.key 110) 7 (v.2.2.2.1+1) g),(68,.int .i64 (↑(List.length v.2.1):Int)),(69,.int .i64 (IntKind.wrap .i64 ((↑v.1.val:Int)+1)))],objs:=[(8,.cells [.int .i64 0,.sl .fit 0 0 λx=>[],.sl .fit 0 0 λx=>[] ]),(12,.cells [.int .i64 n,lkA L,AV.gsl 100040 7 (List.length v.2.1)]),(65,AO.mp false [KD.str] (λl=>bif bO l [.str (SL.layer (List.getD v.2.1 v.1.val default))] then true else lS v.2.2.1 l) λl=>bif bO l [.str (SL.layer (List.getD v.2.1 v.1.val default))] then .bool true else .bool (lS v.2.2.1 l)),(110,.own 7 (v.2.2.2.1+1)),(40,.own 3 m),(100040,AO.grw 0 7 (List.length v.2.1) λj=>bif Nat.beq j v.1.val then [.str (SL.id (List.getD v.2.1 v.1.val default)),.str (SL.layer (List.getD v.2.1 v.1.val default)),.str (SL.exp (List.getD v.2.1 v.1.val default)),.int .i64 (SL.arm (List.getD v.2.1 v.1.val default)),.int .i64 (SL.fr (List.getD v.2.1 v.1.val default)),.int .i64 n,.int .i64 2] else bif Nat.beq j v.1.val then [.str (SL.id (List.getD v.2.1 v.1.val default)),.str (SL.layer (List.getD v.2.1 v.1.val default)),.str (SL.exp (List.getD v.2.1 v.1.val default)),.int .i64 (SL.arm (List.getD v.2.1 v.1.val default)),.int .i64 (SL.fr (List.getD v.2.1 v.1.val default)),.int .i64 n,.int .i64 (SL.fin (List.getD v.2.1 v.1.val default))] else (SL.c (List.getD v.2.1 j default)))]}=(λv:MV=>({env:=[(3,.int .i64 n),(8,.ref 8 0),(12,.ref 12 0),(13,.str z),(14,.mref 65),(15,.sl (.key 110) 7 v.2.2.2.1 v.2.2.2.2),(68,.int .i64 (v.2.1).length),(69,.int .i64 ((v.1.val:Nat):Int))],objs:=[(8,.cells [.int .i64 0,.sl .fit 0 0 λx=>[],.sl .fit 0 0 λx=>[] ]),(12,.cells [.int .i64 n,lkA L,.gsl 100040 7 (v.2.1).length]),(65,mhO v.2.2.1),(110,.own 7 v.2.2.2.1),(40,.own 3 m),(100040,.grw 0 7 (v.2.1).length λj=>((v.2.1).getD j default).c)]}:St)) (yS v hl hv h,(v.2.1.set v.1.val (l3 (v.2.1.getD v.1.val default) n)),((v.2.1.getD v.1.val default).layer::v.2.2.1),(v.2.2.2.1+1,g)):=by
 show _=({env:=[(3,.int .i64 n),(8,.ref 8 0),(12,.ref 12 0),(13,.str z),(14,.mref 65),(15,.sl (.key 110) 7 (v.2.2.2.1+1,g).1 (v.2.2.2.1+1,g).2),(68,.int .i64 ((v.2.1.set v.1.val (l3 (v.2.1.getD v.1.val default) n))).length),(69,.int .i64 (((v.1.val+1):Nat):Int))],objs:=[(8,.cells [.int .i64 0,.sl .fit 0 0 λx=>[],.sl .fit 0 0 λx=>[] ]),(12,.cells [.int .i64 n,lkA L,.gsl 100040 7 ((v.2.1.set v.1.val (l3 (v.2.1.getD v.1.val default) n))).length]),(65,mhO ((v.2.1.getD v.1.val default).layer::v.2.2.1)),(110,.own 7 (v.2.2.2.1+1,g).1),(40,.own 3 m),(100040,.grw 0 7 ((v.2.1.set v.1.val (l3 (v.2.1.getD v.1.val default) n))).length λj=>(((v.2.1.set v.1.val (l3 (v.2.1.getD v.1.val default) n))).getD j default).c)]}:St)
 rw [bC (by have:=hv.2.1;omega),DB,List.length_set,<-AK h (l3 (v.2.1.getD v.1.val default) n) [.str (SL.id (List.getD v.2.1 v.1.val default)),.str (SL.layer (List.getD v.2.1 v.1.val default)),.str (SL.exp (List.getD v.2.1 v.1.val default)),.int .i64 (SL.arm (List.getD v.2.1 v.1.val default)),.int .i64 (SL.fr (List.getD v.2.1 v.1.val default)),.int .i64 n,.int .i64 (SL.fin (List.getD v.2.1 v.1.val default))]]
 rfl
theorem G1 (hv:MeI f z n ss v) (h:v.1.val < v.2.1.length) {hl:ss.length<=51}:{env:=[(3,.int .i64 n),(8,.ref 8 0),(12,.ref 12 0),(13,.str z),(14,.mref 65),(15,.sl (.key 110) 7 v.2.2.2.1 v.2.2.2.2),(68,.int .i64 (↑(List.length v.2.1):Int)),(69,.int .i64 (IntKind.wrap .i64 ((↑v.1.val:Int)+1)))],objs:=[(8,.cells [.int .i64 0,.sl .fit 0 0 λx=>[],.sl .fit 0 0 λx=>[] ]),(12,.cells [.int .i64 n,lkA L,AV.gsl 100040 7 (List.length v.2.1)]),(65,AO.mp false [KD.str] (λl=>bif bO l [.str (SL.layer (List.getD v.2.1 v.1.val default))] then true else lS v.2.2.1 l) λl=>bif bO l [.str (SL.layer (List.getD v.2.1 v.1.val default))] then .bool true else .bool (lS v.2.2.1 l)),(110,.own 7 v.2.2.2.1),(40,.own 3 m),(100040,AO.grw 0 7 (List.length v.2.1) λj=>(SL.c (List.getD v.2.1 j default)))]}=(λv:MV=>({env:=[(3,.int .i64 n),(8,.ref 8 0),(12,.ref 12 0),(13,.str z),(14,.mref 65),(15,.sl (.key 110) 7 v.2.2.2.1 v.2.2.2.2),(68,.int .i64 (v.2.1).length),(69,.int .i64 ((v.1.val:Nat):Int))],objs:=[(8,.cells [.int .i64 0,.sl .fit 0 0 λx=>[],.sl .fit 0 0 λx=>[] ]),(12,.cells [.int .i64 n,lkA L,.gsl 100040 7 (v.2.1).length]),(65,mhO v.2.2.1),(110,.own 7 v.2.2.2.1),(40,.own 3 m),(100040,.grw 0 7 (v.2.1).length λj=>((v.2.1).getD j default).c)]}:St)) (yS v hl hv h,v.2.1,((v.2.1.getD v.1.val default).layer::v.2.2.1),v.2.2.2):=by
 rw [bC (by have:=hv.2.1;omega),DB]
theorem KK (hv:MeI f z n ss v) (h:v.2.1.length<=v.1.val):v.2.1=(mgF f z n ss ss.length).1:=by
 have h1:(v.2.1,v.2.2.1)=mgF f z n ss v.1.val:=hv.2.2.1
 have h2:v.1.val=ss.length:=by have:=hv.1;have:=hv.2.1;omega
 rw [<-h2,<-h1]
end
theorem A9 (L:List LK) (m:Nat) (z:TX) (n:Int) (ss:List SL) (hL:L.length<=1000000) (hl:ss.length<=51):∃ (u:St->Bool) (w:St->List SL×RWN),(∀v:MV,MeI (ofF L) z n ss v->aW u w ((λv:MV=>({env:=[(3,.int .i64 n),(8,.ref 8 0),(12,.ref 12 0),(13,.str z),(14,.mref 65),(15,.sl (.key 110) 7 v.2.2.2.1 v.2.2.2.2),(68,.int .i64 (v.2.1).length),(69,.int .i64 ((v.1.val:Nat):Int))],objs:=[(8,.cells [.int .i64 0,.sl .fit 0 0 λx=>[],.sl .fit 0 0 λx=>[] ]),(12,.cells [.int .i64 n,lkA L,.gsl 100040 7 (v.2.1).length]),(65,mhO v.2.2.1),(110,.own 7 v.2.2.2.1),(40,.own 3 m),(100040,.grw 0 7 (v.2.1).length λj=>((v.2.1).getD j default).c)]}:St)) v) λx=>x.1=(mgF (ofF L) z n ss ss.length).1)/\∀C:List (List Nat×Orc),bq (VMe.run [jX,eRd,eCp,eSa,eRo] 2 [] C [([1,1,1,1,1,1,1,1],qu 12 1)] fg) fg [1,1,1,1,1,1,1,1,1,1,1,0,1,0] (mkO u w λ(x:List SL×RWN) k=>k (.exit 0) {env:=[(8,.ref 8 0),(12,.ref 12 0),(15,.sl (.key 110) 7 x.2.1 x.2.2)],objs:=[(8,.cells [.int .i64 0,.sl .fit 0 0 λx=>[],.sl .fit 0 0 λx=>[] ]),(12,.cells [.int .i64 n,lkA L,.gsl 100040 7 (x.1).length]),(110,.own 7 x.2.1),(40,.own 3 m),(100040,.grw 0 7 (x.1).length λj=>((x.1).getD j default).c)]}):=by
 exact bX (V:=VMe) (T:=[jX,eRd,eCp,eSa,eRo]) (d:=2) (W:=[([1,1,1,1,1,1,1,1],qu 12 1)]) (f:=fg) (p:=[1,1,1,1,1,1,1,1,1,1,1,0,1,0]) (Lf:=λL=>L) (λv:MV=>{env:=[(3,.int .i64 n),(8,.ref 8 0),(12,.ref 12 0),(13,.str z),(14,.mref 65),(15,.sl (.key 110) 7 v.2.2.2.1 v.2.2.2.2),(68,.int .i64 (v.2.1).length),(69,.int .i64 ((v.1.val:Nat):Int))],objs:=[(8,.cells [.int .i64 0,.sl .fit 0 0 λx=>[],.sl .fit 0 0 λx=>[] ]),(12,.cells [.int .i64 n,lkA L,.gsl 100040 7 (v.2.1).length]),(65,mhO v.2.2.1),(110,.own 7 v.2.2.2.1),(40,.own 3 m),(100040,.grw 0 7 (v.2.1).length λj=>((v.2.1).getD j default).c)]}) (MeI (ofF L) z n ss) (λv=>ss.length - v.1.val) (λ(x:List SL×RWN) k=>k (.exit 0) {env:=[(8,.ref 8 0),(12,.ref 12 0),(15,.sl (.key 110) 7 x.2.1 x.2.2)],objs:=[(8,.cells [.int .i64 0,.sl .fit 0 0 λx=>[],.sl .fit 0 0 λx=>[] ]),(12,.cells [.int .i64 n,lkA L,.gsl 100040 7 (x.1).length]),(110,.own 7 x.2.1),(40,.own 3 m),(100040,.grw 0 7 (x.1).length λj=>((x.1).getD j default).c)]}) (λx=>x.1=(mgF (ofF L) z n ss ss.length).1) (by kernel_rfl) (λv hv=>.b (decide ((↑v.1.val:Int) < (↑(List.length v.2.1):Int))) (λh1=>
   .n (c:=within (↑v.1.val:Int) (List.length v.2.1)&&Nat.beq (List.length v.2.1) (List.length v.2.1)) (KN (aN h1)) (
   .n (c:=true&&(Nat.blt v.1.val (List.length v.2.1)&&Nat.beq (List.length v.2.1) (List.length v.2.1))) (Ci (aN h1)) (
   .n (c:=bif true&&(Nat.blt v.1.val (List.length v.2.1)&&Nat.beq (List.length v.2.1) (List.length v.2.1)) then true else !bif (SL.fin (List.getD v.2.1 v.1.val default) !=0)==false then true else false) (KM (aN h1)) (
   .call (pa L (v.2.1.getD v.1.val default).id hL) λr2 q2=>
   .b (bif SL.fin (List.getD v.2.1 v.1.val default) !=0 then true else !r2==z) (λh3=>
    .go {env:=[(3,.int .i64 n),(8,.ref 8 0),(12,.ref 12 0),(13,.str z),(14,.mref 65),(15,.sl (.key 110) 7 v.2.2.2.1 v.2.2.2.2),(68,.int .i64 (↑(List.length v.2.1):Int)),(69,.int .i64 (IntKind.wrap .i64 ((↑v.1.val:Int)+1)))],objs:=[(8,.cells [.int .i64 0,.sl .fit 0 0 λx=>[],.sl .fit 0 0 λx=>[] ]),(12,.cells [.int .i64 n,lkA L,AV.gsl 100040 7 (List.length v.2.1)]),(65,AO.mp false [KD.str] (lS v.2.2.1) λl=>.bool (lS v.2.2.1 l)),(110,.own 7 v.2.2.2.1),(40,.own 3 m),(100040,AO.grw 0 7 (List.length v.2.1) λj=>(SL.c (List.getD v.2.1 j default)))]} (yS v hl hv (aN h1),v.2) (G9 hv (aN h1) (Hc q2.eq h3)) (A7 hv (aN h1)) (G3 hv (aN h1))) λh3=>
   .n (c:=true&&(Nat.blt v.1.val (List.length v.2.1)&&Nat.beq (List.length v.2.1) (List.length v.2.1))) (Ci (aN h1)) (
   .b (lS v.2.2.1 [.str (SL.layer (List.getD v.2.1 v.1.val default))]) (λh4=>
    .yea (c:=lS v.2.2.1 [.str (SL.layer (List.getD v.2.1 v.1.val default))]) (B:=λ_ k kn=>cond (true&&(Nat.blt v.1.val (List.length v.2.1)&&Nat.beq (List.length v.2.1) (List.length v.2.1))) (kn ({env:=[(3,.int .i64 n),(8,.ref 8 0),(12,.ref 12 0),(13,.str z),(14,.mref 65),(15,.sl (.key 110) 7 v.2.2.2.1 v.2.2.2.2),(68,.int .i64 (↑(List.length v.2.1):Int)),(69,.int .i64 (IntKind.wrap .i64 ((↑v.1.val:Int)+1)))],objs:=[(8,.cells [.int .i64 0,.sl .fit 0 0 λx=>[],.sl .fit 0 0 λx=>[] ]),(12,.cells [.int .i64 n,lkA L,AV.gsl 100040 7 (List.length v.2.1)]),(65,AO.mp false [KD.str] (λl=>bif bO l [.str (SL.layer (List.getD v.2.1 v.1.val default))] then true else lS v.2.2.1 l) λl=>bif bO l [.str (SL.layer (List.getD v.2.1 v.1.val default))] then .bool true else .bool (lS v.2.2.1 l)),(110,.own 7 v.2.2.2.1),(40,.own 3 m),(100040,AO.grw 0 7 (List.length v.2.1) λj=>(SL.c (List.getD v.2.1 j default)))]})) (none)) (h4) (
    .n (c:=Nat.ble 0 1&&(Nat.blt v.1.val (List.length v.2.1)&&Nat.beq (List.length v.2.1) (List.length v.2.1))) (I1 (aN h1)) (
    .n (c:=Nat.ble 0 1&&(Nat.blt v.1.val (List.length v.2.1)&&Nat.beq (List.length v.2.1) (List.length v.2.1))) (I1 (aN h1)) (
    .n (c:=true&&(Nat.blt v.1.val (List.length v.2.1)&&Nat.beq (List.length v.2.1) (List.length v.2.1))) (Ci (aN h1)) (
    .n (c:=roomy 80 (v.2.2.2.1+1)&&Nat.beq v.2.2.2.1 v.2.2.2.1) (KI hv hl) (
    .n (c:=true&&(Nat.blt v.1.val (List.length v.2.1)&&Nat.beq (List.length v.2.1) (List.length v.2.1))) (Ci (aN h1)) (
    .go {env:=[(3,.int .i64 n),(8,.ref 8 0),(12,.ref 12 0),(13,.str z),(14,.mref 65),(15,.sl (.key 110) 7 (v.2.2.2.1+1) (ar v.2.2.2.1 1 v.2.2.2.2 (ag [.str [],.str [],.str [],.int .i64 0,.int .i64 0,.int .i64 0,.int .i64 0] [(0,.agg [.str (SL.id (List.getD v.2.1 v.1.val default)),.str (SL.layer (List.getD v.2.1 v.1.val default)),.str (SL.exp (List.getD v.2.1 v.1.val default)),.int .i64 (SL.arm (List.getD v.2.1 v.1.val default)),.int .i64 (SL.fr (List.getD v.2.1 v.1.val default)),.int .i64 n,.int .i64 2])]))),(68,.int .i64 (↑(List.length v.2.1):Int)),(69,.int .i64 (IntKind.wrap .i64 ((↑v.1.val:Int)+1)))],objs:=[(8,.cells [.int .i64 0,.sl .fit 0 0 λx=>[],.sl .fit 0 0 λx=>[] ]),(12,.cells [.int .i64 n,lkA L,AV.gsl 100040 7 (List.length v.2.1)]),(65,AO.mp false [KD.str] (λl=>bif bO l [.str (SL.layer (List.getD v.2.1 v.1.val default))] then true else lS v.2.2.1 l) λl=>bif bO l [.str (SL.layer (List.getD v.2.1 v.1.val default))] then .bool true else .bool (lS v.2.2.1 l)),(110,.own 7 (v.2.2.2.1+1)),(40,.own 3 m),(100040,AO.grw 0 7 (List.length v.2.1) λj=>bif Nat.beq j v.1.val then [.str (SL.id (List.getD v.2.1 v.1.val default)),.str (SL.layer (List.getD v.2.1 v.1.val default)),.str (SL.exp (List.getD v.2.1 v.1.val default)),.int .i64 (SL.arm (List.getD v.2.1 v.1.val default)),.int .i64 (SL.fr (List.getD v.2.1 v.1.val default)),.int .i64 n,.int .i64 2] else bif Nat.beq j v.1.val then [.str (SL.id (List.getD v.2.1 v.1.val default)),.str (SL.layer (List.getD v.2.1 v.1.val default)),.str (SL.exp (List.getD v.2.1 v.1.val default)),.int .i64 (SL.arm (List.getD v.2.1 v.1.val default)),.int .i64 (SL.fr (List.getD v.2.1 v.1.val default)),.int .i64 n,.int .i64 (SL.fin (List.getD v.2.1 v.1.val default))] else (SL.c (List.getD v.2.1 j default)))]} (yS v hl hv (aN h1),v.2.1.set v.1.val (l3 (v.2.1.getD v.1.val default) n),(v.2.1.getD v.1.val default).layer::v.2.2.1,(v.2.2.2.1+1,_)) (G8 hv (aN h1) (DF q2.eq h3) h4) (A7 hv (aN h1)) (G2 hv (aN h1))))))))) λh4=>
   .n (c:=true&&(Nat.blt v.1.val (List.length v.2.1)&&Nat.beq (List.length v.2.1) (List.length v.2.1))) (Ci (aN h1)) (
   .go {env:=[(3,.int .i64 n),(8,.ref 8 0),(12,.ref 12 0),(13,.str z),(14,.mref 65),(15,.sl (.key 110) 7 v.2.2.2.1 v.2.2.2.2),(68,.int .i64 (↑(List.length v.2.1):Int)),(69,.int .i64 (IntKind.wrap .i64 ((↑v.1.val:Int)+1)))],objs:=[(8,.cells [.int .i64 0,.sl .fit 0 0 λx=>[],.sl .fit 0 0 λx=>[] ]),(12,.cells [.int .i64 n,lkA L,AV.gsl 100040 7 (List.length v.2.1)]),(65,AO.mp false [KD.str] (λl=>bif bO l [.str (SL.layer (List.getD v.2.1 v.1.val default))] then true else lS v.2.2.1 l) λl=>bif bO l [.str (SL.layer (List.getD v.2.1 v.1.val default))] then .bool true else .bool (lS v.2.2.1 l)),(110,.own 7 v.2.2.2.1),(40,.own 3 m),(100040,AO.grw 0 7 (List.length v.2.1) λj=>(SL.c (List.getD v.2.1 j default)))]} (yS v hl hv (aN h1),v.2.1,(v.2.1.getD v.1.val default).layer::v.2.2.1,v.2.2.2) (G7 hv (aN h1) (DF q2.eq h3) h4) (A7 hv (aN h1)) (G1 hv (aN h1)))))))) λh1=>
  .fi (v.2.1,v.2.2.2) (KK hv (gu h1))) (λv L k kn=>by
  obtain ⟨⟨i,hi⟩,w⟩:=v
  match i,hi with
  | 0,_=>show _=_;kernel_rfl
  | 1,_=>show _=_;kernel_rfl
  | 2,_=>show _=_;kernel_rfl
  | 3,_=>show _=_;kernel_rfl
  | 4,_=>show _=_;kernel_rfl
  | 5,_=>show _=_;kernel_rfl
  | 6,_=>show _=_;kernel_rfl
  | 7,_=>show _=_;kernel_rfl
  | 8,_=>show _=_;kernel_rfl
  | 9,_=>show _=_;kernel_rfl
  | 10,_=>show _=_;kernel_rfl
  | 11,_=>show _=_;kernel_rfl
  | 12,_=>show _=_;kernel_rfl
  | 13,_=>show _=_;kernel_rfl
  | 14,_=>show _=_;kernel_rfl
  | 15,_=>show _=_;kernel_rfl
  | 16,_=>show _=_;kernel_rfl
  | 17,_=>show _=_;kernel_rfl
  | 18,_=>show _=_;kernel_rfl
  | 19,_=>show _=_;kernel_rfl
  | 20,_=>show _=_;kernel_rfl
  | 21,_=>show _=_;kernel_rfl
  | 22,_=>show _=_;kernel_rfl
  | 23,_=>show _=_;kernel_rfl
  | 24,_=>show _=_;kernel_rfl
  | 25,_=>show _=_;kernel_rfl
  | 26,_=>show _=_;kernel_rfl
  | 27,_=>show _=_;kernel_rfl
  | 28,_=>show _=_;kernel_rfl
  | 29,_=>show _=_;kernel_rfl
  | 30,_=>show _=_;kernel_rfl
  | 31,_=>show _=_;kernel_rfl
  | 32,_=>show _=_;kernel_rfl
  | 33,_=>show _=_;kernel_rfl
  | 34,_=>show _=_;kernel_rfl
  | 35,_=>show _=_;kernel_rfl
  | 36,_=>show _=_;kernel_rfl
  | 37,_=>show _=_;kernel_rfl
  | 38,_=>show _=_;kernel_rfl
  | 39,_=>show _=_;kernel_rfl
  | 40,_=>show _=_;kernel_rfl
  | 41,_=>show _=_;kernel_rfl
  | 42,_=>show _=_;kernel_rfl
  | 43,_=>show _=_;kernel_rfl
  | 44,_=>show _=_;kernel_rfl
  | 45,_=>show _=_;kernel_rfl
  | 46,_=>show _=_;kernel_rfl
  | 47,_=>show _=_;kernel_rfl
  | 48,_=>show _=_;kernel_rfl
  | 49,_=>show _=_;kernel_rfl
  | 50,_=>show _=_;kernel_rfl
  | 51,_=>show _=_;kernel_rfl
  | i+52,hi=>exact absurd hi (by omega))
theorem xp (ls:List LK) (a b:TX) (n:Int):AV.sl .no 3 (List.length ls+1) (ar (List.length ls) 1 (λj=>(LK.c (List.getD ls j default))) (ag [.str [],.str [],.int .i64 0] [(0,.agg [.str a,.str b,.int .i64 n])]))=lkA (ls++[⟨a,b,n⟩]):=by
 unfold lkA
 rw [List.length_append,List.length_singleton]
 congr 1
 funext j
 by_cases h:j < ls.length
 ·rw [df h,eY h]
 ·by_cases e:j=ls.length
  ·subst e
   rw [dS (Nat.le_refl _) (by omega),Nat.sub_self,eG];rfl
  ·have e1:(ls++[(⟨a,b,n⟩:LK)]).getD j default=default:=gd (by simp;omega)
   have e2:ls.getD j default=default:=gd (by omega)
   unfold ar
   rw [zL (show ls.length<=j by omega),zL (show ls.length+1<=j by omega),e1]
   show (ls.getD j default).c=_
   rw [e2]
def MeR (r:RG) (a b:TX) (n:Int) (x:MEX):Prop:=
 (x.2.2=6/\(cw a&&cw b)=false)∨(x.2.2=15/\a=b)∨(x.2.2=0/\aj (ofF r.ls) a=aj (ofF r.ls) b/\x.1=⟨n,r.ls,r.ss⟩) ∨
 (x.2.2=0/\aj (ofF r.ls) a≠aj (ofF r.ls) b/\cw a=true/\cw b=true/\a≠b/\x.1=⟨n,r.ls++[⟨a,b,n⟩],(mgF (ofF (r.ls++[⟨a,b,n⟩])) (aj (ofF (r.ls++[⟨a,b,n⟩])) a) n r.ss r.ss.length).1⟩)
section
variable {r x:RG} {a b:TX} {n:Int}
theorem GX {p q:Bool} (h1:p=cw a) (h2:q=cw b) (h:(bif !p then true else !q)=true):MeR r a b n (rg0,(0,λ_=>[]),6):=.inl ⟨rfl,by
 rw [h1,h2] at h
 revert h;cases cw a <;> cases cw b <;> simp⟩
theorem GV (h:(a==b)=true):MeR r a b n (rg0,(0,λ_=>[]),15):=.inr (.inl ⟨rfl,eq_of_beq h⟩)
theorem GY {p:Bool} {g:RWN} (q7:x=⟨n,r.ls,r.ss⟩) (q8:p=(aj (ofF r.ls) a==aj (ofF r.ls) b)) (h:p=true):MeR r a b n (x,g,0):=.inr (.inr (.inl ⟨rfl,eq_of_beq (q8.symm.trans h),q7⟩))
theorem GW {p:Bool} {k1 k2:Bool} (e1:k1=cw a) (e2:k2=cw b) (h5:(bif !k1 then true else !k2)=false) (h6:(a==b)=false) (q8:p=(aj (ofF r.ls) a==aj (ofF r.ls) b)) (h:p=false) {t:List SL×RWN} (q:t.1=(mgF (ofF (r.ls++[⟨a,b,n⟩])) (aj (ofF (r.ls++[⟨a,b,n⟩])) a) n r.ss r.ss.length).1):MeR r a b n (⟨n,r.ls++[⟨a,b,n⟩],t.1⟩,t.2,0):=by
 rw [e1,e2] at h5
 have k1:cw a=true:=by revert h5;cases cw a <;> simp
 have k2:cw b=true:=by revert h5;cases cw b <;> cases cw a <;> simp
 exact .inr (.inr (.inr ⟨rfl,λe=>(by rw [q8,beq_iff_eq.2 e] at h;cases h),k1,k2,λe=>(by rw [beq_iff_eq.2 e] at h6;cases h6),(by rw [q])⟩))
theorem DE (e:Int):Tr (.tup [.agg [.int .i64 0,.sl .fit 0 0 λx=>[],.sl .fit 0 0 λx=>[]],.sl .fit 0 0 λx=>[],.int .i64 e],[]) (φMe (rg0,(0,λ_=>[]),e)):=
 oT (λk v h=>iP (.cons (.same rfl) (.cons cz (.cons cz .nil))) h) (λk v h=>cz.2 _ _ h) (λk v h=>h) rfl
theorem G0:Tr (.tup [rgA x,.sl .fit 0 0 λx=>[],.int .i64 0],[]) (φMe (x,(0,λ_=>[]),0)):=
 oT (λk v h=>h) (λk v h=>cz.2 _ _ h) (λk v h=>h) rfl
theorem KL (hb:r.ls.length < 64):decide ((List.length (RG.ls r):Int)≥64)=false:=decide_eq_false (by omega)
theorem G6 (q:x=⟨n,r.ls,r.ss⟩) (hl:r.ls.length<=1000000):(roomy 40 (List.length (RG.ls x)+1)&&Nat.beq (List.length (RG.ls x)) (List.length (RG.ls x)))=true:=by rw [q];exact bd (by show (r.ls.length+1)*40<=_;omega)
abbrev Dd (x:RG) (a b:TX) (n:Int):AV:=.sl .no 3 (List.length (RG.ls x)+1) (ar (List.length (RG.ls x)) 1 (λj=>(LK.c (List.getD (RG.ls x) j default))) (ag [.str [],.str [],.int .i64 0] [(0,.agg [.str a,.str b,.int .i64 n])]))
theorem G4 (q:x=⟨n,r.ls,r.ss⟩) (hl:r.ls.length<=100000):bz wd iG φTX rRo [Dd x a b n,.str a] []:=by
 unfold Dd;rw [xp,q];exact pa _ _ (by simp;omega)
theorem G5 (q:x=⟨n,r.ls,r.ss⟩) {y:TX} (h:rRo [Dd x a b n,.str a] [] y):y=aj (ofF (r.ls++[⟨a,b,n⟩])) a:=by
 unfold Dd at h;rw [xp,q] at h;exact h.eq
theorem KJ {u:St->Bool} {w:St->List SL×RWN} {Q:List SL×RWN->Prop} {L:List LK} {m:Nat} {z:TX} (hL:L=r.ls++[⟨a,b,n⟩]) (hm:m=r.ls.length+1) (hz:z=aj (ofF L) a) (hu:∀v:MV,MeI (ofF L) z n r.ss v->aW u w ((λv:MV=>({env:=[(3,.int .i64 n),(8,.ref 8 0),(12,.ref 12 0),(13,.str z),(14,.mref 65),(15,.sl (.key 110) 7 v.2.2.2.1 v.2.2.2.2),(68,.int .i64 (v.2.1).length),(69,.int .i64 ((v.1.val:Nat):Int))],objs:=[(8,.cells [.int .i64 0,.sl .fit 0 0 λx=>[],.sl .fit 0 0 λx=>[] ]),(12,.cells [.int .i64 n,lkA L,.gsl 100040 7 (v.2.1).length]),(65,mhO v.2.2.1),(110,.own 7 v.2.2.2.1),(40,.own 3 m),(100040,.grw 0 7 (v.2.1).length λj=>((v.2.1).getD j default).c)]}:St)) v) Q) {r7:RG} (q7:r7=⟨n,r.ls,r.ss⟩) {r11:TX} (q11:rRo [Dd r7 a b n,.str a] [] r11):aW u w {env:=[(3,.int .i64 n),(8,.ref 8 0),(12,.ref 12 0),(13,.str r11),(14,.mref 65),(15,.sl (.key 110) 7 0 λx=>[.str [],.str [],.str [],.int .i64 0,.int .i64 0,.int .i64 0,.int .i64 0]),(68,.int .i64 (↑(List.length (RG.ss r7)):Int)),(69,.int .i64 0)],objs:=[(8,.cells [.int .i64 0,.sl .fit 0 0 λx=>[],.sl .fit 0 0 λx=>[] ]),(12,.cells [.int .i64 (RG.now r7),.sl .no 3 (List.length (RG.ls r7)+1) (ar (List.length (RG.ls r7)) 1 (λj=>[.str (LK.a (List.getD (RG.ls r7) j default)),.str (LK.b (List.getD (RG.ls r7) j default)),.int .i64 (LK.t (List.getD (RG.ls r7) j default))]) (ag [.str [],.str [],.int .i64 0] [(0,.agg [.str a,.str b,.int .i64 n])])),AV.gsl 100040 7 (List.length (RG.ss r7))]),(65,AO.mp false [KD.str] (λx=>false) λx=>.bool false),(110,.own 7 0),(40,.own 3 (List.length (RG.ls r7)+1)),(100040,AO.grw 0 7 (List.length (RG.ss r7)) λj=>(SL.c (List.getD (RG.ss r7) j default)))]} Q:=by
 have e:=G5 q7 q11
 subst q7
 have e2:r11=z:=by rw [e,hz,hL]
 rw [e2]
 have h:=hu (⟨0,by decide⟩,r.ss,[],(0,λ_=>[.str [],.str [],.str [],.int .i64 0,.int .i64 0,.int .i64 0,.int .i64 0])) ⟨Nat.zero_le _,rfl,rfl,Nat.le_refl _⟩
 have e3:=xp r.ls a b n
 rw [<-hL] at e3
 rw [hm] at h
 simp only [<-e3] at h
 exact h
theorem EJ {t:List SL}:(Nat.beq 7 7&&Nat.beq (List.length t) (List.length t))=true:=by simp
end
def rMe (l:List AV) (_:List AO) (x:MEX):Prop:=∀r a b n,l=[rgA r,.str a,.str b,.int .i64 n]->MeR r a b n x
theorem rMe.mk {r:RG} {a b:TX} {n:Int} {os:List AO} {x:MEX} (h:MeR r a b n x):rMe [rgA r,.str a,.str b,.int .i64 n] os x:=by
 intro r' a' b' n' e
 simp only [List.cons.injEq,AV.str.injEq,AV.int.injEq,true_and,and_true] at e
 obtain ⟨e1,e2,e3,e4⟩:=e
 rw [<-jh e1,<-e2,<-e3,<-e4];exact h
theorem Hb (r:RG) (a b:TX) (n:Int) (h:VR r) (hn:r.now<=n/\n<=1099511627776) (hb:r.ls.length < 64) (h2':r.ss.length<=51):bz wd fg φMe rMe [rgA r,.str a,.str b,.int .i64 n] []:=by
 have hl:r.ls.length<=1000000:=by omega
 have h2:r.ss.length<=1000000:=by omega
 obtain ⟨u,w,hu,hc⟩:=A9 (r.ls++[⟨a,b,n⟩]) (r.ls.length+1) (aj (ofF (r.ls++[⟨a,b,n⟩])) a) n r.ss (by simp;omega) h2'
 exact (bn (V:=VMe) (T:=[jX,eRd,eCp,eSa,eRo]) (d:=2) (W:=[([1,1,1,1,1,1,1,1],qu 12 1)]) (R:=λ_ _ x=>MeR r a b n x) 0 (aE (hc _) ao) (fP (wB 12 1) ak) (.call (Dc h hn) λr1 q1=>
  .no (c:=r1 !=0) (a:=some ((.tup [.agg [.int .i64 0,.sl .fit 0 0 λx=>[],.sl .fit 0 0 λx=>[] ],.sl .fit 0 0 λx=>[],.int .i64 r1],[]))) (Jv q1) (
  .call (cS a) λr3 q3=>
  .call (cS b) λr4 q4=>
  .b (bif !r3 then true else !r4) (λh5=>
   .t (rg0,(0,λ_=>[]),6) (GX (q3 _ rfl) (q4 _ rfl) h5) (DE 6)) λh5=>
  .b (a==b) (λh6=>
   .t (rg0,(0,λ_=>[]),15) (GV h6) (DE 15)) λh6=>
  .call (En r n hl h2) λr7 q7=>
  .call (Gq r.ls a b hl) λr8 q8=>
  .b (r8) (λh9=>
   .n (c:=Nat.beq 7 7&&Nat.beq (List.length (RG.ss r7)) (List.length (RG.ss r7))) (Ju q7.eq) (
   .t (r7,(0,λ_=>[]),0) (GY q7.eq q8.eq h9) G0)) λh9=>
  .no (c:=decide ((↑(List.length (RG.ls r)):Int)≥64)) (a:=some ((.tup [.agg [.int .i64 0,.sl .fit 0 0 λx=>[],.sl .fit 0 0 λx=>[] ],.sl .fit 0 0 λx=>[],.int .i64 19],[]))) (KL hb) (
  .n (c:=roomy 40 (List.length (RG.ls r7)+1)&&Nat.beq (List.length (RG.ls r7)) (List.length (RG.ls r7))) (G6 q7.eq hl) (
  .call (G4 q7.eq (by have:=h.nls;omega)) λr11 q11=>
  .lp (KJ rfl rfl rfl hu q7.eq q11) λr12 q12=>
  .n (c:=Nat.beq 7 7&&Nat.beq (List.length r12.1) (List.length r12.1)) (EJ) (
  .t (⟨n,r.ls++[⟨a,b,n⟩],r12.1⟩,r12.2,0) (GW (q3 _ rfl) (q4 _ rfl) h5 h6 q8.eq h9 q12) (Tr.refl _)))))) (by kernel_rfl)).mono λx hx=>rMe.mk hx
noncomputable abbrev eMe:Ent:=dK wd fg φMe rMe
end Go.WF

namespace Go.WF
open Go Go.Ab Go.Proofs
theorem SV.now {a b:Int} {s:SL} (h:SV a s) (hab:a<=b):SV b s:=⟨h.id,h.layer,h.exp,h.arm,⟨h.fr.1,by have:=h.fr.2;omega⟩,by have:=h.fin;omega⟩
theorem p5 {r:RG} {n:Int} (h:VR r) (hn:r.now<=n/\n<=1099511627776):VR ⟨n,r.ls,r.ss⟩:=
 ⟨by have:=h.now;show 0<=n/\n<=_;omega,h.nls,h.nss,λi hi=>by
  obtain ⟨h1,h2,h3,h4,h5⟩:=h.lk i hi
  exact ⟨h1,h2,h3,h4,Int.le_trans h5 hn.1⟩,λhi=>(h.sv hi).now hn.1,h.sb,h.one⟩
theorem zM {r:RG} {n:Int} {x:List SL} {L:List LK}:∀ {i:Nat},i<=r.ss.length->x5 ⟨n,L,r.ss++x⟩ i=x5 r i
 | 0,_=>rfl
 | i+1,hi=>by
  show ((r.ss++x).getD i default).fr=(r.ss.getD i default).fr
  rw [List.getD_eq_getElem?_getD,List.getD_eq_getElem?_getD,List.getElem?_append_left (by omega)]
theorem B9 {r:RG} (h:VR r):∀ {i:Nat},i<=r.ss.length->x5 r i<=r.now
 | 0,_=>h.now.1
 | i+1,hi=>(h.sv (i:=i) (by omega)).fr.2
theorem zP {r:RG} {n:Int} (h:VR r) (hn:r.now<=n/\n<=1099511627776) (hb:r.ss.length < 128) {id al ax:TX} {aa:Int} (k1:cw id=true) (k2:cw al=true) (k3:cw ax=true) (ha:1<=aa/\aa<=8) (hp:∀j,j < r.ss.length->pIx r al (aj (ofF r.ls) id) r.ss j=false):VR ⟨n,r.ls,r.ss++[lR id al ax aa n]⟩:=by
 have hv:=p5 h hn
 have h0:=h.now
 refine ⟨hv.now,h.nls,by show (r.ss++[lR id al ax aa n]).length<=128;simp;omega,hv.lk,fun {i} hi=>?_,λi hi=>?_,λi j hj hi o1 o2 e1 e2=>?_⟩
 ·have hi:i < (r.ss++[lR id al ax aa n]).length:=hi
  show SV n ((r.ss++[lR id al ax aa n]).getD i default)
  by_cases e:i < r.ss.length
  ·rw [eY e];exact hv.sv e
  ·obtain rfl:i=r.ss.length:=by simp at hi;omega
   rw [eG];exact ⟨k1,k2,k3,ha,⟨by show 0<=n;omega,Int.le_refl n⟩,.inl ⟨rfl,rfl⟩⟩
 ·have hi:i < (r.ss++[lR id al ax aa n]).length:=hi
  have hi':i<=r.ss.length:=by simp at hi;omega
  rw [zM hi']
  show _<=((r.ss++[lR id al ax aa n]).getD i default).fr
  by_cases e:i < r.ss.length
  ·rw [eY e];exact h.sb i e
  ·obtain rfl:i=r.ss.length:=by omega
   rw [eG];exact Int.le_trans (B9 h (Nat.le_refl _)) hn.1
 ·have hi:i < (r.ss++[lR id al ax aa n]).length:=hi
  have o1:((r.ss++[lR id al ax aa n]).getD i default).fin=0:=o1
  have o2:((r.ss++[lR id al ax aa n]).getD j default).fin=0:=o2
  have e1:((r.ss++[lR id al ax aa n]).getD j default).layer=((r.ss++[lR id al ax aa n]).getD i default).layer:=e1
  have e2:aj (ofF r.ls) ((r.ss++[lR id al ax aa n]).getD j default).id=aj (ofF r.ls) ((r.ss++[lR id al ax aa n]).getD i default).id:=e2
  have hj':j < r.ss.length:=by simp at hi;omega
  rw [eY hj'] at o2 e1 e2
  by_cases e:i < r.ss.length
  ·rw [eY e] at o1 e1 e2
   exact h.one i j hj e o1 o2 e1 e2
  ·obtain rfl:i=r.ss.length:=by simp at hi;omega
   rw [eG] at e1 e2
   have:=hp j hj'
   unfold pIx xW at this
   rw [o2,e1,e2] at this
   simp [lR] at this
theorem EH {r:RG} {id al ax:TX} {aa:Int} {ah:Bool} {n:Int} {x:ASX} (h:VR r) (hn:r.now<=n/\n<=1099511627776) (hb:r.ss.length < 128) (q:AsR r id al ax aa ah n x) (h0:x.2.2=0):VR x.1/\x.1.now=n/\x.1.ls=r.ls/\x.1.ss.length<=r.ss.length+1:=by
 rcases q with ⟨e,_⟩ | ⟨e,_⟩ | ⟨_,e,_⟩ | ⟨_,k1,k2,k3,k4,k5,k6,e,_⟩
 ·omega
 ·omega
 ·rw [e];exact ⟨p5 h hn,rfl,rfl,Nat.le_succ _⟩
 ·rw [e];exact ⟨zP h hn hb k1 k2 k3 ⟨k4,k5⟩ k6,rfl,rfl,by simp⟩
theorem yZ {f:FR} {a b:TX} (h:aj f a≠aj f b):cB f a b=up f (tmax (aj f a) (aj f b)) (tmin (aj f a) (aj f b)):=by
 unfold cB;rw [beq_eq_false_iff_ne.2 h];rfl
theorem pq {f:FR} {a b:TX} (h:aj f a=aj f b):cB f a b=f:=by
 unfold cB;rw [beq_iff_eq.2 h];rfl
theorem Az {f:FR} {k v x:TX} (h:x≠k):up f k v x=f x:=by unfold up;rw [beq_eq_false_iff_ne.2 h];rfl
theorem FQ {f:FR} {k v:TX}:up f k v k=some v:=by unfold up;rw [beq_self_eq_true];rfl
theorem AQ {f:FR} {M m:TX} (hM:f M=none) (hm:f m=none) (hne:m≠M) {x y:TX} (h:RootOf f x y):RootOf (up f M m) x (if y=M then m else y):=by
 induction h with
 | stop hx=>
  rename_i x
  by_cases e:x=M
  ·rw [if_pos e,e];exact .step FQ (.stop ((Az hne).trans hm))
  ·rw [if_neg e];exact .stop ((Az e).trans hx)
 | @step x y z hx _ ih=>
  have e:x≠M:=λe=>by rw [e,hM] at hx;cases hx
  exact .step ((Az e).trans hx) ih
theorem gQ {f:FR} {D:List TX} (h:Fo f D) {a b:TX} (hab:aj f a≠aj f b) (x:TX):aj (cB f a b) x=if aj f x=tmax (aj f a) (aj f b) then tmin (aj f a) (aj f b) else aj f x:=by
 have ha:=(mT h a).end
 have hb:=(mT h b).end
 have hne:=tmm hab
 rw [yZ hab]
 refine kK (AQ ?_ ?_ ?_ (mT h x))
 ·unfold tmax;cases aZ (aj f a) (aj f b)
  ·exact ha
  ·exact hb
 ·unfold tmin;cases aZ (aj f a) (aj f b)||aj f a==aj f b
  ·exact hb
  ·exact ha
 ·intro e;rw [e,pN] at hne;cases hne
theorem nu (l:List LK) (k:LK):ofF (l++[k])=cB (ofF l) k.a k.b:=by unfold ofF;rw [List.foldl_append];rfl
theorem zT {f:FR} {D:List TX} (h:Fo f D) {a b:TX} (hab:aj f a≠aj f b):aj (cB f a b) a=tmin (aj f a) (aj f b):=by
 rw [gQ h hab]
 have hne:=tmm hab
 cases hl:aZ (aj f a) (aj f b) with
 | true=>
  have e1:tmax (aj f a) (aj f b)=aj f b:=by unfold tmax;rw [hl];rfl
  have e2:tmin (aj f a) (aj f b)=aj f a:=by unfold tmin;rw [hl];rfl
  rw [e1,e2,if_neg hab]
 | false=>
  have e1:tmax (aj f a) (aj f b)=aj f a:=by unfold tmax;rw [hl];rfl
  rw [e1,if_pos rfl]
theorem tU {f:FR} {D:List TX} (h:Fo f D) {a b:TX} (hab:aj f a≠aj f b) {x:TX} (hx:aj (cB f a b) x≠aj (cB f a b) a):aj (cB f a b) x=aj f x:=by
 rw [zT h hab] at hx
 rw [gQ h hab] at hx ⊢
 by_cases e:aj f x=tmax (aj f a) (aj f b)
 ·rw [if_pos e] at hx;exact absurd rfl hx
 ·rw [if_neg e]
theorem yR {q:List TX} {a:TX}:lS q [.str a]=true↔a∈q:=by
 unfold lS
 rw [List.any_eq_true]
 constructor
 ·rintro ⟨p,hp,h⟩
  simp [bO,eqC] at h
  rw [h];exact hp
 ·intro h
  exact ⟨a,h,by simp [bO,eqC]⟩
structure MgI (f:FR) (z:TX) (n:Int) (ss:List SL) (i:Nat) (x:List SL×List TX):Prop where
 len:x.1.length=ss.length
 rest:∀j,i<=j->x.1.getD j default=ss.getD j default
 slot:∀j,x.1.getD j default=ss.getD j default∨(x.1.getD j default=l3 (ss.getD j default) n/\(ss.getD j default).fin=0)
 held:∀j,j < i->(x.1.getD j default).fin=0->aj f (x.1.getD j default).id=z->(x.1.getD j default).layer∈x.2
 one:∀j k,j < k->k < i->(x.1.getD j default).fin=0->(x.1.getD k default).fin=0->aj f (x.1.getD j default).id=z->aj f (x.1.getD k default).id=z->(x.1.getD j default).layer=(x.1.getD k default).layer->False
theorem GU (f:FR) (z:TX) (n:Int) (ss:List SL):MgI f z n ss 0 (ss,[]):=
 ⟨rfl,λ_ _=>rfl,λ_=>.inl rfl,λ_ h=>absurd h (Nat.not_lt_zero _),λ_ _ _ h=>absurd h (Nat.not_lt_zero _)⟩
theorem GS {f:FR} {z:TX} {n:Int} {ss:List SL} {i:Nat} {x:List SL×List TX} (h:MgI f z n ss i x) (hi:i < ss.length):MgI f z n ss (i+1) (mgS f z n i x):=by
 have hlt:∀ {j},j < i+1->j < i∨j=i:=λhj=>by omega
 unfold mgS
 cases hc:((x.1.getD i default).fin !=0||!(aj f (x.1.getD i default).id==z)) with
 | true=>
  rw [cond_true]
  have hno:(x.1.getD i default).fin=0->aj f (x.1.getD i default).id=z->False:=λh1 h2=>by
   rw [h1,h2] at hc;simp at hc
  refine ⟨h.len,λj hj=>h.rest j (by omega),h.slot,λj hj h1 h2=>?_,λj k hjk hk h1 h2 h3 h4 h5=>?_⟩
  ·rcases hlt hj with hj | rfl
   ·exact h.held j hj h1 h2
   ·exact (hno h1 h2).elim
  ·rcases hlt hk with hk | rfl
   ·exact h.one j k hjk hk h1 h2 h3 h4 h5
   ·exact (hno h2 h4).elim
 | false=>
  rw [cond_false]
  simp only [Bool.or_eq_false_iff,bne_eq_false_iff_eq,Bool.not_eq_false',beq_iff_eq] at hc
  cases hm:lS x.2 [.str (x.1.getD i default).layer] with
  | true=>
   rw [cond_true]
   have hi':i < x.1.length:=by rw [h.len];exact hi
   have hat:(x.1.set i (l3 (x.1.getD i default) n)).getD i default=l3 (x.1.getD i default) n:=by rw [List.getD_eq_getElem?_getD,List.getElem?_set_self hi'];rfl
   have hne:∀j,j≠i->(x.1.set i (l3 (x.1.getD i default) n)).getD j default=x.1.getD j default:=λj e=>by rw [List.getD_eq_getElem?_getD,List.getElem?_set_ne (λh=>e h.symm),<-List.getD_eq_getElem?_getD]
   have hfin:((x.1.set i (l3 (x.1.getD i default) n)).getD i default).fin=0->False:=λh1=>by
    rw [hat] at h1
    have h1:(2:Int)=0:=h1
    omega
   refine ⟨by show List.length (x.1.set i _)=_;rw [List.length_set];exact h.len,λj hj=>(hne j (by omega)).trans (h.rest j (by omega)),λj=>?_,λj hj h1 h2=>?_,λj k hjk hk h1 h2 h3 h4 h5=>?_⟩
   ·by_cases e:j=i
    ·subst e
     have hr:=h.rest j (Nat.le_refl _)
     refine .inr ⟨hat.trans (by rw [hr]),by rw [<-hr];exact hc.1⟩
    ·show (x.1.set i _).getD j default=_∨_
     rw [hne j e];exact h.slot j
   ·rcases hlt hj with hj | rfl
    ·have h1:((x.1.set i (l3 (x.1.getD i default) n)).getD j default).fin=0:=h1
     have h2:aj f ((x.1.set i (l3 (x.1.getD i default) n)).getD j default).id=z:=h2
     show ((x.1.set i (l3 (x.1.getD i default) n)).getD j default).layer∈_
     rw [hne j (by omega)] at h1 h2 ⊢
     exact List.mem_cons_of_mem _ (h.held j hj h1 h2)
    ·exact (hfin h1).elim
   ·have h1:((x.1.set i (l3 (x.1.getD i default) n)).getD j default).fin=0:=h1
    have h3:aj f ((x.1.set i (l3 (x.1.getD i default) n)).getD j default).id=z:=h3
    rcases hlt hk with hk | rfl
    ·have h2:((x.1.set i (l3 (x.1.getD i default) n)).getD k default).fin=0:=h2
     have h4:aj f ((x.1.set i (l3 (x.1.getD i default) n)).getD k default).id=z:=h4
     have h5:((x.1.set i (l3 (x.1.getD i default) n)).getD j default).layer=((x.1.set i (l3 (x.1.getD i default) n)).getD k default).layer:=h5
     rw [hne j (by omega)] at h1 h3 h5
     rw [hne k (by omega)] at h2 h4 h5
     exact h.one j k hjk hk h1 h2 h3 h4 h5
    ·exact hfin h2
  | false=>
   rw [cond_false]
   have hno:(x.1.getD i default).layer ∉ x.2:=λe=>by rw [yR.2 e] at hm;cases hm
   refine ⟨h.len,λj hj=>h.rest j (by omega),h.slot,λj hj h1 h2=>?_,λj k hjk hk h1 h2 h3 h4 h5=>?_⟩
   ·rcases hlt hj with hj | rfl
    ·exact List.mem_cons_of_mem _ (h.held j hj h1 h2)
    ·exact List.mem_cons_self
   ·rcases hlt hk with hk | rfl
    ·exact h.one j k hjk hk h1 h2 h3 h4 h5
    ·exact hno (h5 ▸ h.held j hjk h1 h3)
theorem xa (f:FR) (z:TX) (n:Int) (ss:List SL):∀i,i<=ss.length->MgI f z n ss i (mgF f z n ss i)
 | 0,_=>GU f z n ss
 | i+1,hi=>GS (xa f z n ss i (by omega)) (by omega)
theorem GZ {r:RG} {a b:TX} {n:Int} {x:MEX} (h:VR r) (hn:r.now<=n/\n<=1099511627776) (hb:r.ls.length < 64) (q:MeR r a b n x) (h0:x.2.2=0):VR x.1/\x.1.now=n/\x.1.ss.length=r.ss.length /\
  ((aj (ofF r.ls) a=aj (ofF r.ls) b/\x.1.ls=r.ls)∨(aj (ofF r.ls) a≠aj (ofF r.ls) b/\x.1.ls=r.ls++[⟨a,b,n⟩])):=by
 rcases q with ⟨e,_⟩ | ⟨e,_⟩ | ⟨_,he,e⟩ | ⟨_,hr,k1,k2,k3,e⟩
 ·omega
 ·omega
 ·rw [e];exact ⟨p5 h hn,rfl,rfl,.inl ⟨he,rfl⟩⟩
 obtain ⟨D,hD⟩:=uw r.ls
 have hv:=p5 h hn
 have hn0:=h.now
 have hL:ofF (r.ls++[⟨a,b,n⟩])=cB (ofF r.ls) a b:=nu _ _
 rw [hL] at e
 have I:=xa (cB (ofF r.ls) a b) (aj (cB (ofF r.ls) a b) a) n r.ss r.ss.length (Nat.le_refl _)
 generalize (mgF (cB (ofF r.ls) a b) (aj (cB (ofF r.ls) a b) a) n r.ss r.ss.length)=X at e I
 have hfr:∀j,(X.1.getD j default).fr=(r.ss.getD j default).fr:=λj=>by
  rcases I.slot j with e | ⟨e,_⟩ <;> rw [e];rfl
 have hbs:∀i,x5 ⟨n,r.ls++[⟨a,b,n⟩],X.1⟩ i=x5 r i:=λi=>by
  cases i with
  | zero=>rfl
  | succ i=>exact hfr i
 have hbl:∀i,i<=r.ls.length->yl ⟨n,r.ls++[⟨a,b,n⟩],X.1⟩ i=yl r i:=λi hi=>by
  cases i with
  | zero=>rfl
  | succ i=>
   show ((r.ls++[(⟨a,b,n⟩:LK)]).getD i default).t=(r.ls.getD i default).t
   rw [eY (by omega)]
 have hbn:∀i,i<=r.ls.length->yl r i<=r.now:=λi hi=>by
  cases i with
  | zero=>exact h.now.1
  | succ i=>exact (h.lk i (by omega)).2.2.2.2
 have hopen:∀j,(X.1.getD j default).fin=0->X.1.getD j default=r.ss.getD j default:=λj hj=>by
  rcases I.slot j with e | ⟨e,_⟩
  ·exact e
  ·rw [e] at hj
   have hj:(2:Int)=0:=hj
   omega
 rw [e]
 refine ⟨⟨by show 0<=n/\n<=_;omega,by show (r.ls++[(⟨a,b,n⟩:LK)]).length<=64;simp;omega,by show X.1.length<=128;rw [I.len];exact h.nss,λi hi=>?_,fun {i} hi=>?_,λi hi=>?_,λi j hj hi o1 o2 e1 e2=>?_⟩,rfl,I.len,.inr ⟨hr,rfl⟩⟩
 ·have hi:i < (r.ls++[(⟨a,b,n⟩:LK)]).length:=hi
  have hi':i<=r.ls.length:=by simp at hi;omega
  rw [hbl i hi']
  show cw ((r.ls++[(⟨a,b,n⟩:LK)]).getD i default).a=true/\cw ((r.ls++[(⟨a,b,n⟩:LK)]).getD i default).b=true/\((r.ls++[(⟨a,b,n⟩:LK)]).getD i default).a≠((r.ls++[(⟨a,b,n⟩:LK)]).getD i default).b/\yl r i<=((r.ls++[(⟨a,b,n⟩:LK)]).getD i default).t/\((r.ls++[(⟨a,b,n⟩:LK)]).getD i default).t<=n
  by_cases e:i < r.ls.length
  ·rw [eY e]
   obtain ⟨g1,g2,g3,g4,g5⟩:=h.lk i e
   exact ⟨g1,g2,g3,g4,Int.le_trans g5 hn.1⟩
  ·obtain rfl:i=r.ls.length:=by omega
   rw [eG]
   exact ⟨k1,k2,k3,Int.le_trans (hbn _ (Nat.le_refl _)) hn.1,Int.le_refl n⟩
 ·have hi:i < X.1.length:=hi
  rw [I.len] at hi
  show SV n (X.1.getD i default)
  have hs:=h.sv hi
  rcases I.slot i with e | ⟨e,hz⟩
  ·rw [e];exact hs.now hn.1
  ·rw [e]
   exact ⟨hs.id,hs.layer,hs.exp,hs.arm,⟨hs.fr.1,Int.le_trans hs.fr.2 hn.1⟩,.inr ⟨.inr rfl,Int.le_trans hs.fr.2 hn.1,Int.le_refl n⟩⟩
 ·have hi:i < X.1.length:=hi
  rw [I.len] at hi
  rw [hbs]
  show _<=(X.1.getD i default).fr
  rw [hfr];exact h.sb i hi
 ·have hi:i < X.1.length:=hi
  rw [I.len] at hi
  have o1:(X.1.getD i default).fin=0:=o1
  have o2:(X.1.getD j default).fin=0:=o2
  have e1:(X.1.getD j default).layer=(X.1.getD i default).layer:=e1
  have e2:aj (ofF (r.ls++[⟨a,b,n⟩])) (X.1.getD j default).id=aj (ofF (r.ls++[⟨a,b,n⟩])) (X.1.getD i default).id:=e2
  rw [hL] at e2
  by_cases ez:aj (cB (ofF r.ls) a b) (X.1.getD i default).id=aj (cB (ofF r.ls) a b) a
  ·exact I.one j i hj hi o2 o1 (e2.trans ez) ez e1
  ·have g1:=tU hD hr ez
   have g2:=tU hD hr (x:=(X.1.getD j default).id) (λe=>ez (e2.symm.trans e))
   rw [g1,g2] at e2
   have p1:=hopen i o1
   have p2:=hopen j o2
   rw [p1] at o1 e1 e2
   rw [p2] at o2 e1 e2
   exact h.one i j hj hi o1 o2 e1 e2
end Go.WF

namespace Go.WF
open Go Go.Ab Go.Proofs
structure Lin (p q:List LK) (n:Int):Prop where
 eq:∀t,ofF (aD p t)=ofF (aD q t)
 pt:∀k∈p,k.t<=n
 qt:∀k∈q,k.t<=n
theorem jJ {l:List LK} {n t:Int} (h:∀k∈l,k.t<=n) (ht:n<=t):aD l t=l:=by
 unfold aD
 exact List.filter_eq_self.2 λk hk=>decide_eq_true (Int.le_trans (h k hk) ht)
theorem jI (l:List LK) (k:LK) (t:Int):aD (l++[k]) t=aD l t++(if k.t<=t then [k] else []):=by
 unfold aD
 rw [List.filter_append]
 congr 1
 by_cases h:k.t<=t
 ·rw [if_pos h];simp [h]
 ·rw [if_neg h];simp [h]
theorem Lin.at {p q:List LK} {n:Int} (h:Lin p q n):ofF p=ofF q:=by
 have:=h.eq n
 rwa [jJ h.pt (Int.le_refl n),jJ h.qt (Int.le_refl n)] at this
theorem Lin.mono {p q:List LK} {n m:Int} (h:Lin p q n) (hm:n<=m):Lin p q m:=⟨h.eq,λk hk=>Int.le_trans (h.pt k hk) hm,λk hk=>Int.le_trans (h.qt k hk) hm⟩
theorem Be (n:Int):Lin [] [] n:=⟨λ_=>rfl,λ_ h=>(List.not_mem_nil h).elim,λ_ h=>(List.not_mem_nil h).elim⟩
theorem Lin.skip {p q:List LK} {n m:Int} (h:Lin p q n) (hm:n<=m) {a b:TX} (he:aj (ofF p) a=aj (ofF p) b):Lin p (q++[⟨a,b,m⟩]) m:=by
 refine ⟨λt=>?_,λk hk=>Int.le_trans (h.pt k hk) hm,λk hk=>?_⟩
 ·rw [jI]
  by_cases ht:m<=t
  ·rw [if_pos ht,jJ h.pt (Int.le_trans hm ht),jJ h.qt (Int.le_trans hm ht),nu,<-h.at]
   exact (pq he).symm
  ·rw [if_neg ht,List.append_nil];exact h.eq t
 ·rcases List.mem_append.1 hk with hk | hk
  ·exact Int.le_trans (h.qt k hk) hm
  ·rw [List.mem_singleton.1 hk];exact Int.le_refl m
theorem Lin.both {p q:List LK} {n m:Int} (h:Lin p q n) (hm:n<=m) (a b:TX):Lin (p++[⟨a,b,m⟩]) (q++[⟨a,b,m⟩]) m:=by
 refine ⟨λt=>?_,λk hk=>?_,λk hk=>?_⟩
 ·rw [jI,jI]
  by_cases ht:m<=t
  ·rw [if_pos ht,nu,nu,h.eq t]
  ·rw [if_neg ht,List.append_nil,List.append_nil];exact h.eq t
 ·rcases List.mem_append.1 hk with hk | hk
  ·exact Int.le_trans (h.pt k hk) hm
  ·rw [List.mem_singleton.1 hk];exact Int.le_refl m
 ·rcases List.mem_append.1 hk with hk | hk
  ·exact Int.le_trans (h.qt k hk) hm
  ·rw [List.mem_singleton.1 hk];exact Int.le_refl m
theorem qO (l:List EV) (e:EV) (h:e.kind=3):bx (l++[e])=bx l++[⟨e.id,e.other,e.time⟩]:=by
 unfold bx evK
 rw [List.filter_append,List.map_append]
 congr 1
 simp [h]
theorem pj (l:List EV) (e:EV) (h:e.kind≠3):bx (l++[e])=bx l:=by
 unfold bx evK
 rw [List.filter_append]
 simp [h]
end Go.WF

namespace Go.WF
open Go Go.Ab Go.Proofs
abbrev ATX:Type:=SL×Bool
def φAt (x:ATX):AV×List AO:=(.tup [.agg x.1.c,.bool x.2],[])
noncomputable def VAt:Env:={V0 with hint:=λf t=>cond (Nat.beq f 43) (hn [2,3,8,10,11,22,23,24] [8] [] []) (V0.hint f t)}
noncomputable instance envAt:EnvOk VAt wd:=⟨rfl,rfl,eu,eH⟩
noncomputable abbrev eUt:Ent:=dK wd cN φLk rUt
theorem Mh {l x:List LK} {t:Int} {os:List AO} (hl:l.length<=1000000) (q:rUt [lkA l,.int .i64 t] os x):x.length<=1000000:=by
 rw [q l t rfl];exact Nat.le_trans (fS l t) hl
def gS {τ:Type} (_:List AV) (_:List AO) (_:τ):Prop:=True
noncomputable def atB (l:List LK) (y z:TX) (n:Int) (s:SL):Bool:=bif bif bif s.layer==y then decide (s.fr<=n) else false then bif s.fin==0 then true else decide (s.to > n) else false then aj (ofF l) s.id==z else false
noncomputable def atG (l:List LK) (y z:TX) (n:Int) (ss:List SL):ATX:=match ss.find? (atB l y z n) with
 | some s=>(s,true)
 | none=>(default,false)
noncomputable def atF (r:RG) (a y:TX) (n:Int):ATX:=atG (aD r.ls n) y (aj (ofF (aD r.ls n)) a) n r.ss
def AtI (l:List LK) (y z:TX) (n:Int) (ss:List SL) (v:Nat):Prop:=v<=ss.length/\ss.find? (atB l y z n)=(ss.drop v).find? (atB l y z n)
def AtP (l:List LK) (y z:TX) (n:Int) (ss:List SL) (t:Bool×SL):Prop:=(t.2,t.1)=atG l y z n ss
section
variable {r:RG} {l:List LK} {y z:TX} {n:Int} {v:Nat}
theorem Mf (hs:r.ss.length<=1000000) (h:v < r.ss.length):{env:=[(2,.str y),(3,.int .i64 n),(8,.ref 8 0),(10,lkA l),(11,.str z),(22,slA r.ss),(23,.int .i64 r.ss.length),(24,.int .i64 (IntKind.wrap .i64 ((v:Int)+1)))],objs:=[(8,.cells [.str [],.str [],.str [],.int .i64 0,.int .i64 0,.int .i64 0,.int .i64 0])]}=(λv:Nat=>({env:=[(2,.str y),(3,.int .i64 n),(8,.ref 8 0),(10,lkA l),(11,.str z),(22,slA r.ss),(23,.int .i64 r.ss.length),(24,.int .i64 (v:Int))],objs:=[(8,.cells [.str [],.str [],.str [],.int .i64 0,.int .i64 0,.int .i64 0,.int .i64 0])]}:St)) (v+1):=by
 rw [bC (by omega)]
theorem x7 (h:v < r.ss.length):r.ss.drop v=r.ss.getD v default::r.ss.drop (v+1):=by
 rw [List.getD_eq_getElem?_getD,List.getElem?_eq_getElem h]
 exact List.drop_eq_getElem_cons h
theorem EC (hv:AtI l y z n r.ss v) (h:v < r.ss.length) {x:TX} (q:x=aj (ofF l) (r.ss.getD v default).id) (h3:(bif bif bif SL.layer (List.getD (RG.ss r) v default)==y then decide (SL.fr (List.getD (RG.ss r) v default)<=n) else false then bif SL.fin (List.getD (RG.ss r) v default)==0 then true else decide (SL.to (List.getD (RG.ss r) v default) > n) else false then x==z else false)=true):AtP l y z n r.ss (true,r.ss.getD v default):=by
 have hb:atB l y z n (r.ss.getD v default)=true:=by rw [q] at h3;exact h3
 unfold AtP atG
 rw [hv.2,x7 h,List.find?_cons,hb]
theorem Ix (hv:AtI l y z n r.ss v) (h:v < r.ss.length) {x:TX} (q:x=aj (ofF l) (r.ss.getD v default).id) (h3:(bif bif bif SL.layer (List.getD (RG.ss r) v default)==y then decide (SL.fr (List.getD (RG.ss r) v default)<=n) else false then bif SL.fin (List.getD (RG.ss r) v default)==0 then true else decide (SL.to (List.getD (RG.ss r) v default) > n) else false then x==z else false)=false):AtI l y z n r.ss (v+1):=by
 have hb:atB l y z n (r.ss.getD v default)=false:=by rw [q] at h3;exact h3
 refine ⟨h,?_⟩
 rw [hv.2,x7 h,List.find?_cons,hb]
theorem EF (hv:AtI l y z n r.ss v) (h:decide ((v:Int) < (r.ss.length:Int))=false):AtP l y z n r.ss (false,default):=by
 have h:=of_decide_eq_false h
 have:=hv.1
 unfold AtP atG
 rw [hv.2,List.drop_eq_nil_of_le (by omega)]
 rfl
end
theorem Cb (r:RG) (l:List LK) (y z:TX) (n:Int) (hl:l.length<=1000000) (hs:r.ss.length<=1000000):∃ (u:St->Bool) (w:St->Bool×SL),(∀v:Nat,AtI l y z n r.ss v->aW u w ((λv:Nat=>({env:=[(2,.str y),(3,.int .i64 n),(8,.ref 8 0),(10,lkA l),(11,.str z),(22,slA r.ss),(23,.int .i64 r.ss.length),(24,.int .i64 (v:Int))],objs:=[(8,.cells [.str [],.str [],.str [],.int .i64 0,.int .i64 0,.int .i64 0,.int .i64 0])]}:St)) v) (AtP l y z n r.ss))/\∀L:List (List Nat×Orc),bq (VAt.run [eUt,eRo] 1 [] L [] gM) gM [1,1,1,0,1,0] (mkO u w (λ(t:Bool×SL) k=>cond t.1 (k .ret {env:=[(8,.ref 8 0),(9,.bool true)],objs:=[(8,.cells t.2.c)]}) (k (.exit 0) {env:=[(8,.ref 8 0)],objs:=[(8,.cells t.2.c)]}))):=
 bX (Lf:=λL=>L) (λv:Nat=>{env:=[(2,.str y),(3,.int .i64 n),(8,.ref 8 0),(10,lkA l),(11,.str z),(22,slA r.ss),(23,.int .i64 r.ss.length),(24,.int .i64 (v:Int))],objs:=[(8,.cells [.str [],.str [],.str [],.int .i64 0,.int .i64 0,.int .i64 0,.int .i64 0])]}) (AtI l y z n r.ss) (λv=>r.ss.length - v) (λ(t:Bool×SL) k=>cond t.1 (k .ret {env:=[(8,.ref 8 0),(9,.bool true)],objs:=[(8,.cells t.2.c)]}) (k (.exit 0) {env:=[(8,.ref 8 0)],objs:=[(8,.cells t.2.c)]})) (AtP l y z n r.ss) (by kernel_rfl) (λv hv=>.b (decide ((↑v:Int) < (↑(List.length (RG.ss r)):Int))) (λh1=>
   .n (c:=within (↑v:Int) (List.length (RG.ss r))) (aO (aN h1)) (
   .call (pa l (r.ss.getD v default).id hl) λr2 q2=>
   .b (bif bif bif SL.layer (List.getD (RG.ss r) v default)==y then decide (SL.fr (List.getD (RG.ss r) v default)<=n) else false then bif SL.fin (List.getD (RG.ss r) v default)==0 then true else decide (SL.to (List.getD (RG.ss r) v default) > n) else false then r2==z else false) (λh3=>
    .fi (true,r.ss.getD v default) (EC hv (aN h1) (rRo.eq q2) h3)) λh3=>
   .go {env:=[(2,.str y),(3,.int .i64 n),(8,.ref 8 0),(10,lkA l),(11,.str z),(22,slA (RG.ss r)),(23,.int .i64 (↑(List.length (RG.ss r)):Int)),(24,.int .i64 (IntKind.wrap .i64 ((↑v:Int)+1)))],objs:=[(8,.cells [.str [],.str [],.str [],.int .i64 0,.int .i64 0,.int .i64 0,.int .i64 0])]} (v+1) (Ix hv (aN h1) (rRo.eq q2) h3) (iz (aN h1)) (Mf hs (aN h1)))) λh1=>
  .fi (false,default) (EF hv h1)) (λv L k kn=>by kernel_rfl)
theorem Mi {r:RG} {a y:TX} {n:Int} {u:St->Bool} {w:St->Bool×SL} {Q:Bool×SL->Prop} (hu:∀v:Nat,AtI (aD r.ls n) y (aj (ofF (aD r.ls n)) a) n r.ss v->aW u w ((λv:Nat=>({env:=[(2,.str y),(3,.int .i64 n),(8,.ref 8 0),(10,lkA (aD r.ls n)),(11,.str (aj (ofF (aD r.ls n)) a)),(22,slA r.ss),(23,.int .i64 r.ss.length),(24,.int .i64 (v:Int))],objs:=[(8,.cells [.str [],.str [],.str [],.int .i64 0,.int .i64 0,.int .i64 0,.int .i64 0])]}:St)) v) Q) {os:List AO} {x:List LK} (q:rUt [lkA r.ls,.int .i64 n] os x) {t:TX} (q2:rRo [lkA x,.str a] [] t):aW u w {env:=[(2,.str y),(3,.int .i64 n),(8,.ref 8 0),(10,lkA x),(11,.str t),(22,slA r.ss),(23,.int .i64 r.ss.length),(24,.int .i64 0)],objs:=[(8,.cells [.str [],.str [],.str [],.int .i64 0,.int .i64 0,.int .i64 0,.int .i64 0])]} Q:=by
 rw [rRo.eq q2,q r.ls n rfl];exact hu 0 ⟨Nat.zero_le _,rfl⟩
def rAt (A:List AV) (_:List AO) (x:ATX):Prop:=∀r a y n,A=[rgA r,.str a,.str y,.int .i64 n]->x=atF r a y n
theorem rAt.mk {r:RG} {a y:TX} {n:Int} {os:List AO} {x:ATX} (h:x=atF r a y n):rAt [rgA r,.str a,.str y,.int .i64 n] os x:=by
 intro r' a' y' n' e
 simp only [List.cons.injEq,AV.str.injEq,AV.int.injEq,true_and,and_true] at e
 obtain ⟨e1,e2,e3,e4⟩:=e
 rw [<-jh e1,<-e2,<-e3,<-e4];exact h
section
variable {r:RG} {a y:TX} {n:Int} {os:List AO} {t:Bool×SL}
theorem Mg (q:AtP (aD r.ls n) y (aj (ofF (aD r.ls n)) a) n r.ss t) (h:t.1=true):rAt [rgA r,.str a,.str y,.int .i64 n] os (t.2,true):=.mk (by rw [<-h];exact q)
theorem Iw (q:AtP (aD r.ls n) y (aj (ofF (aD r.ls n)) a) n r.ss t) (h:t.1=false):rAt [rgA r,.str a,.str y,.int .i64 n] os (default,false):=.mk (by
 have q:(t.2,t.1)=atF r a y n:=q
 unfold atF atG at q ⊢
 rw [h] at q
 split at q
 ·injection q with _ q;cases q
 ·rfl)
end
theorem zN (r:RG) (a y:TX) (n:Int) (hl:r.ls.length<=1000000) (hs:r.ss.length<=1000000):bz wd gM φAt rAt [rgA r,.str a,.str y,.int .i64 n] []:=by
 obtain ⟨u,w,hu,hc⟩:=Cb r (aD r.ls n) y (aj (ofF (aD r.ls n)) a) n (Nat.le_trans (fS _ _) hl) hs
 exact bn (V:=VAt) (T:=[eUt,eRo]) (d:=1) 0 (aE (hc _) ao) ak (.call (yx r.ls n hl) λr1 q1=>
  .call (pa r1 a (Mh hl q1)) λr2 q2=>
  .lp (Mi hu q1 q2) λr3 q3=>
  .b (r3.1) (λh4=>
   .r (r3.2,true) (Mg q3 h4)) λh4=>
  .r (default,false) (Iw q3 h4)) (by kernel_rfl)
noncomputable abbrev eAt:Ent:=dK wd gM φAt rAt
end Go.WF

namespace Go.WF
open Go Go.Ab Go.Proofs
def CcR (r:RG) (a y:TX) (x:ATX):Prop:=
 (x.2=true/\∃i:Nat,i < r.ss.length/\pIx r y (aj (ofF r.ls) a) r.ss i=true/\(∀j,j < i->pIx r y (aj (ofF r.ls) a) r.ss j=false)/\x.1=r.ss.getD i default) ∨
 (x=(default,false)/\∀j,j < r.ss.length->pIx r y (aj (ofF r.ls) a) r.ss j=false)
section
variable {r:RG} {a y:TX} {i:Int} {os:List AO}
end
def rCc (l:List AV) (_:List AO) (x:ATX):Prop:=∀r a y,l=[rgA r,.str a,.str y]->CcR r a y x
theorem rCc.mk {r:RG} {a y:TX} {os:List AO} {x:ATX} (h:CcR r a y x):rCc [rgA r,.str a,.str y] os x:=by
 intro r' a' y' e
 simp only [List.cons.injEq,AV.str.injEq,and_true] at e
 obtain ⟨e1,e2,e3⟩:=e
 rw [<-jh e1,<-e2,<-e3];exact h
end Go.WF

namespace Go.WF
open Go Go.Ab Go.Proofs
abbrev bZ:TX:=[97,110,110]
abbrev aI:TX:=[104,111,109,101]
abbrev lu:TX:=[98,108,117,101]
theorem po:cw bZ=true:=by kernel_rfl
theorem uk:cw aI=true:=by kernel_rfl
theorem yY:cw lu=true:=by kernel_rfl
theorem Fz:VR rg0:=⟨⟨by decide,by decide⟩,by decide,by decide,λi h=>absurd h (Nat.not_lt_zero _),λh=>absurd h (Nat.not_lt_zero _),λi h=>absurd h (Nat.not_lt_zero _),λi j _ h=>absurd h (Nat.not_lt_zero _)⟩
end Go.WF

namespace Go.WF
open Go Go.Ab Go.Proofs
def pw:List TX:=[[97,110,110],[98,111,98],[99,97,116],[100,97,110],[101,118,101],[102,97,121]]
theorem Bt:∀x∈pw,cw x=true:=by
 intro x hx
 simp only [pw,List.mem_cons,List.not_mem_nil,or_false] at hx
 rcases hx with rfl | rfl | rfl | rfl | rfl | rfl <;> kernel_rfl
theorem HC:Tr (.sl .fit 1 6 (ag [.str []] [(0,.str [97,110,110]),(1,.str [98,111,98]),(2,.str [99,97,116]),(3,.str [100,97,110]),(4,.str [101,118,101]),(5,.str [102,97,121])]),[]) (φS pw):=
 .one (ff λj hj=>by
  match j,hj with
  | 0,_=>rfl
  | 1,_=>rfl
  | 2,_=>rfl
  | 3,_=>rfl
  | 4,_=>rfl
  | 5,_=>rfl)
theorem Ad:bz wd gY φS (rE pw) [] []:=
 bn (V:=V0) (T:=[]) (d:=1) 0 ao ak (.t pw rfl HC) (by kernel_rfl)
noncomputable abbrev L2:Ent:=dK wd gY φS (rE pw)
def idF (n:Nat):TX:=pw.getD (n % 6) []
theorem xH (n:Nat):idF n∈pw:=by
 have h:n % 6 < pw.length:=Nat.mod_lt _ (by decide)
 unfold idF
 rw [List.getD_eq_getElem?_getD,List.getElem?_eq_getElem h]
 exact List.getElem_mem h
theorem Bu (n:Nat):cw (idF n)=true:=Bt _ (xH n)
section
variable {l:List AV} {os:List AO} {x y:List TX}
theorem LG (h:rE pw l os y):((List.length y:Int) !=0)=true:=by
 have h:y=pw:=h
 subst h;rfl
theorem CS (n:Nat):Int.tmod (n:Int) 6=((n % 6:Nat):Int):=by
 rw [Int.tmod_eq_emod_of_nonneg (by omega)];omega
theorem LF (h:rE pw l os x) (h2:rE pw l os y) (n:Nat):within (Int.tmod (n:Int) (List.length y:Int)) (List.length y)=true:=by
 have h2:y=pw:=h2
 subst h2
 show within (Int.tmod (n:Int) 6) 6=true
 rw [CS];exact aO (Nat.mod_lt _ (by decide))
theorem LD (h:rE pw l os x) (h2:rE pw l os y) (n:Nat):List.getD y (Int.toNat (Int.tmod (n:Int) (List.length y:Int))) []=idF n:=by
 have h2:y=pw:=h2
 subst h2
 show List.getD pw (Int.toNat (Int.tmod (n:Int) 6)) []=idF n
 rw [CS,Int.toNat_natCast];rfl
end
def rId (l:List AV) (_:List AO) (x:TX):Prop:=∀n:Nat,l=[.int .i64 (n:Int)]->x=idF n
theorem HD (n:Nat):bz wd fB φTX rId [.int .i64 (n:Int)] []:=
 (bn (V:=V0) (T:=[L2]) (d:=1) (R:=rE (idF n)) 0 ao ak (.call (Ad) λr1 q1=>
  .call (Ad) λr2 q2=>
  .n (c:=(↑(List.length r2):Int) !=0) (LG q2) (
  .n (c:=within (Int.tmod (↑n:Int) (↑(List.length r2):Int)) (List.length r2)) (LF q1 q2 n) (
  .r _ (LD q1 q2 n)))) (by kernel_rfl)).mono λx hx m hm=>by
  injection hm with hm _
  injection hm with _ hm
  have hx:x=idF n:=hx
  rw [hx,show n=m by omega]
noncomputable abbrev eId:Ent:=dK wd fB φTX rId
end Go.WF

namespace Go.WF
open Go Go.Ab Go.Proofs
structure FD where
 layer:TX
 exp:TX
 arm:Int
instance:Inhabited FD:=⟨⟨[],[],0⟩⟩
def FD.c (x:FD):List AV:=[.str x.layer,.str x.exp,.int .i64 x.arm]
def fdA (l:List FD):AV:=.sl .no 3 l.length λj=>(l.getD j default).c
structure SPN where
 fr:Int
 to:Int
 v:Int
instance:Inhabited SPN:=⟨⟨0,0,0⟩⟩
def SPN.c (x:SPN):List AV:=[.int .i64 x.fr,.int .i64 x.to,.int .i64 x.v]
def spA (l:List SPN):AV:=.sl .no 3 l.length λj=>(l.getD j default).c
abbrev FOX:Type:=FD×Bool
def φFo (x:FOX):AV×List AO:=(.tup [.agg x.1.c,.bool x.2],[])
def FnI {α:Type} (p:α->Bool) (l:List α) (v:Nat):Prop:=v<=l.length/\l.find? p=(l.drop v).find? p
section
variable {α:Type} [Inhabited α] {p:α->Bool} {l:List α} {v:Nat}
theorem xN (h:v < l.length):l.drop v=l.getD v default::l.drop (v+1):=by
 rw [List.getD_eq_getElem?_getD,List.getElem?_eq_getElem h]
 exact List.drop_eq_getElem_cons h
theorem Af (hv:FnI p l v) (h:v < l.length) (hp:p (l.getD v default)=true):l.find? p=cond true (some (l.getD v default)) none:=by
 rw [hv.2,xN h,List.find?_cons,hp];rfl
theorem Ea (hv:FnI p l v) (h:v < l.length) (hp:p (l.getD v default)=false):FnI p l (v+1):=
 ⟨h,by rw [hv.2,xN h,List.find?_cons,hp]⟩
omit [Inhabited α] in
theorem Ag (hv:FnI p l v) (h:l.length<=v):l.find? p=none:=by
 rw [hv.2,List.drop_eq_nil_of_le h];rfl
theorem Jb {a b:Nat} (h:decide ((a:Int) < (b:Int))=false):b<=a:=by have:=of_decide_eq_false h;omega
end
theorem FD.jb {x y:FD} (h:x.c=y.c):x=y:=by
 cases x;cases y
 simp only [FD.c,List.cons.injEq,AV.str.injEq,AV.int.injEq,true_and,and_true] at h
 obtain ⟨h1,h2,h3⟩:=h
 subst h1 h2 h3;rfl
theorem SPN.jb {x y:SPN} (h:x.c=y.c):x=y:=by
 cases x;cases y
 simp only [SPN.c,List.cons.injEq,AV.int.injEq,true_and,and_true] at h
 obtain ⟨h1,h2,h3⟩:=h
 subst h1 h2 h3;rfl
theorem xS {a b:List FD} (h:fdA a=fdA b):a=b:=by
 injection h with _ _ h1 h2
 exact jN (f:=FD.c) (λ_ _=>FD.jb) h1 h2
theorem AF {a b:List SPN} (h:spA a=spA b):a=b:=by
 injection h with _ _ h1 h2
 exact jN (f:=SPN.c) (λ_ _=>SPN.jb) h1 h2
def foB (y:TX) (f:FD):Bool:=f.layer==y
def foF (l:List FD) (y:TX):FOX:=match l.find? (foB y) with
 | some f=>(f,true)
 | none=>(default,false)
def rFo (A:List AV) (_:List AO) (x:FOX):Prop:=∀l y,A=[fdA l,.str y]->x=foF l y
def pkB (b:Int) (r:SPN):Bool:=bif decide (r.fr<=b) then decide (b < r.to) else false
def pkF (l:List SPN) (b:Int):Int:=match l.find? (pkB b) with
 | some r=>r.v
 | none=>0
def rPk (A:List AV) (_:List AO) (x:Int):Prop:=∀l b,A=[spA l,.int .i64 b]->x=pkF l b
section
variable {l:List FD} {y:TX} {os:List AO} {t:Bool×FD} {s:Bool×Int} {m:List SPN} {b:Int} {v:Nat}
theorem D8 {x:FOX} (h:x=foF l y):rFo [fdA l,.str y] os x:=by
 intro l' y' e
 simp only [List.cons.injEq,AV.str.injEq,and_true] at e
 rw [<-xS e.1,<-e.2];exact h
theorem LR (q:l.find? (foB y)=cond t.1 (some t.2) none) (h:t.1=true):rFo [fdA l,.str y] os (t.2,true):=D8 (by unfold foF;rw [q,h];rfl)
theorem HF (q:l.find? (foB y)=cond t.1 (some t.2) none) (h:t.1=false):rFo [fdA l,.str y] os (default,false):=D8 (by unfold foF;rw [q,h];rfl)
theorem Dl {x:Int} (h:x=pkF m b):rPk [spA m,.int .i64 b] os x:=by
 intro l' y' e
 simp only [List.cons.injEq,AV.int.injEq,true_and,and_true] at e
 rw [<-AF e.1,<-e.2];exact h
theorem Dk (hv:FnI (pkB b) m v) (h:v < m.length) (hp:pkB b (m.getD v default)=true):pkF m b=cond true (m.getD v default).v 0:=by
 have:=Af hv h hp
 unfold pkF;rw [this];rfl
theorem Dm (hv:FnI (pkB b) m v) (h:m.length<=v):pkF m b=cond false 0 0:=by
 unfold pkF;rw [Ag hv h];rfl
theorem Kz (q:pkF m b=cond s.1 s.2 0) (h:s.1=true):rPk [spA m,.int .i64 b] os s.2:=Dl (by rw [q,h];rfl)
theorem GF (q:pkF m b=cond s.1 s.2 0) (h:s.1=false):rPk [spA m,.int .i64 b] os 0:=Dl (by rw [q,h];rfl)
end
section
variable {v:Nat}
theorem LQ {l:List FD} {y:TX} (hl:l.length<=1000000) (h:v < l.length):{env:=[(1,.str y),(4,.ref 4 0),(8,fdA l),(9,.int .i64 l.length),(10,.int .i64 (IntKind.wrap .i64 ((v:Int)+1)))],objs:=[(4,.cells [.str [],.str [],.int .i64 0])]}=(λv:Nat=>({env:=[(1,.str y),(4,.ref 4 0),(8,fdA l),(9,.int .i64 l.length),(10,.int .i64 (v:Int))],objs:=[(4,.cells [.str [],.str [],.int .i64 0])]}:St)) (v+1):=by
 rw [bC (by omega)]
theorem Ky {l:List SPN} {b:Int} (hl:l.length<=1000000) (h:v < l.length):{env:=[(1,.int .i64 b),(7,spA l),(8,.int .i64 l.length),(9,.int .i64 (IntKind.wrap .i64 ((v:Int)+1)))],objs:=[]}=(λv:Nat=>({env:=[(1,.int .i64 b),(7,spA l),(8,.int .i64 l.length),(9,.int .i64 (v:Int))],objs:=[]}:St)) (v+1):=by
 rw [bC (by omega)]
end
theorem BC (l:List FD) (y:TX) (hl:l.length<=1000000):∃ (u:St->Bool) (w:St->Bool×FD),(∀v:Nat,FnI (foB y) l v->aW u w ((λv:Nat=>({env:=[(1,.str y),(4,.ref 4 0),(8,fdA l),(9,.int .i64 l.length),(10,.int .i64 (v:Int))],objs:=[(4,.cells [.str [],.str [],.int .i64 0])]}:St)) v) λt=>l.find? (foB y)=cond t.1 (some t.2) none)/\∀L:List (List Nat×Orc),bq (V0.run [] 1 [] L [] fO) fO [1,0,1,0] (mkO u w (λ(t:Bool×FD) k=>cond t.1 (k .ret {env:=[(4,.ref 4 0),(5,.bool true)],objs:=[(4,.cells t.2.c)]}) (k (.exit 0) {env:=[(4,.ref 4 0)],objs:=[(4,.cells t.2.c)]}))):=
 bX (Lf:=λL=>L) (λv:Nat=>{env:=[(1,.str y),(4,.ref 4 0),(8,fdA l),(9,.int .i64 l.length),(10,.int .i64 (v:Int))],objs:=[(4,.cells [.str [],.str [],.int .i64 0])]}) (FnI (foB y) l) (λv=>l.length - v) (λ(t:Bool×FD) k=>cond t.1 (k .ret {env:=[(4,.ref 4 0),(5,.bool true)],objs:=[(4,.cells t.2.c)]}) (k (.exit 0) {env:=[(4,.ref 4 0)],objs:=[(4,.cells t.2.c)]})) (λt=>l.find? (foB y)=cond t.1 (some t.2) none) (by kernel_rfl) (λv hv=>.b (decide ((↑v:Int) < (↑(List.length l):Int))) (λh1=>
   .n (c:=within (↑v:Int) (List.length l)) (aO (aN h1)) (
   .b (FD.layer (List.getD l v default)==y) (λh2=>
    .fi (true,l.getD v default) (Af hv (aN h1) h2)) λh2=>
   .go {env:=[(1,.str y),(4,.ref 4 0),(8,fdA l),(9,.int .i64 (↑(List.length l):Int)),(10,.int .i64 (IntKind.wrap .i64 ((↑v:Int)+1)))],objs:=[(4,.cells [.str [],.str [],.int .i64 0])]} (v+1) (Ea hv (aN h1) h2) (iz (aN h1)) (LQ hl (aN h1)))) λh1=>
  .fi (false,default) (Ag hv (Jb h1))) (λv L k kn=>by kernel_rfl)
theorem HH (l:List FD) (y:TX) (hl:l.length<=1000000):bz wd fO φFo rFo [fdA l,.str y] []:=by
 obtain ⟨u,w,hu,hc⟩:=BC l y hl
 exact bn (V:=V0) (T:=[]) (d:=1) 0 (aE (hc _) ao) ak (.lp (hu 0 ⟨Nat.zero_le _,rfl⟩) λr1 q1=>
  .b (r1.1) (λh2=>
   .r (r1.2,true) (LR q1 h2)) λh2=>
  .r (default,false) (HF q1 h2)) (by kernel_rfl)
theorem A1 (l:List SPN) (b:Int) (hl:l.length<=1000000):∃ (u:St->Bool) (w:St->Bool×Int),(∀v:Nat,FnI (pkB b) l v->aW u w ((λv:Nat=>({env:=[(1,.int .i64 b),(7,spA l),(8,.int .i64 l.length),(9,.int .i64 (v:Int))],objs:=[]}:St)) v) λt=>pkF l b=cond t.1 t.2 0)/\∀L:List (List Nat×Orc),bq (V0.run [] 1 [] L [] gg) gg [1,0,1,0] (mkO u w (λ(t:Bool×Int) k=>cond t.1 (k .ret {env:=[(4,.int .i64 t.2)],objs:=[]}) (k (.exit 0) {env:=[],objs:=[]}))):=
 bX (Lf:=λL=>L) (λv:Nat=>{env:=[(1,.int .i64 b),(7,spA l),(8,.int .i64 l.length),(9,.int .i64 (v:Int))],objs:=[]}) (FnI (pkB b) l) (λv=>l.length - v) (λ(t:Bool×Int) k=>cond t.1 (k .ret {env:=[(4,.int .i64 t.2)],objs:=[]}) (k (.exit 0) {env:=[],objs:=[]})) (λt=>pkF l b=cond t.1 t.2 0) (by kernel_rfl) (λv hv=>.b (decide ((↑v:Int) < (↑(List.length l):Int))) (λh1=>
   .n (c:=within (↑v:Int) (List.length l)) (aO (aN h1)) (
   .b (bif decide (SPN.fr (List.getD l v default)<=b) then decide (b < SPN.to (List.getD l v default)) else false) (λh2=>
    .fi (true,(l.getD v default).v) (Dk hv (aN h1) h2)) λh2=>
   .go {env:=[(1,.int .i64 b),(7,spA l),(8,.int .i64 (↑(List.length l):Int)),(9,.int .i64 (IntKind.wrap .i64 ((↑v:Int)+1)))],objs:=[]} (v+1) (Ea hv (aN h1) h2) (iz (aN h1)) (Ky hl (aN h1)))) λh1=>
  .fi (false,0) (Dm hv (Jb h1))) (λv L k kn=>by kernel_rfl)
theorem GG (l:List SPN) (b:Int) (hl:l.length<=1000000):bz wd gg φIn rPk [spA l,.int .i64 b] []:=by
 obtain ⟨u,w,hu,hc⟩:=A1 l b hl
 exact bn (V:=V0) (T:=[]) (d:=1) 0 (aE (hc _) ao) ak (.lp (hu 0 ⟨Nat.zero_le _,rfl⟩) λr1 q1=>
  .b (r1.1) (λh2=>
   .r r1.2 (Kz q1 h2)) λh2=>
  .r 0 (GF q1 h2)) (by kernel_rfl)
noncomputable abbrev L3:Ent:=dK wd fO φFo rFo
end Go.WF
