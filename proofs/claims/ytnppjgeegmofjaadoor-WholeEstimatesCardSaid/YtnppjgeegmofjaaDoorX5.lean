/- The reference's numbers: product. The reference's numbers: a shift. The reference's numbers: bits, division. The reference's numbers: the greatest common divisor; a number in decimal. The reference: reading and writing fractions. The reference: Of, Add. estimate: definitions. estimate: totals, covariances, means. estimate: means, differences. Samples: an arm's, their scores. The scores of samples. The samples of the law. Fractions in lowest terms: what is the same is told the same. The sum of the scores; the sanity check. The law. Reading a row's data as abstract values: numbers, texts, bools, slices, structs, to any depth. The package variables that a row lists, as the evaluator's globals. Listed variables that hold slices of texts. The globals of the seat out of a row's list; a slice of pairs that came in. -/
import Derived.Test.YtnppjgeegmofjaaDoorX4
import Derived.ChangeArms
import Derived.ChangeShapes
import Derived.FnData
import Derived.MakeChecks
import Derived.OpenShut
import Derived.Test.YtnppjgeegmofjaaDoorCards
import Derived.Test.YtnppjgeegmofjaaDoorTie
set_option linter.unusedVariables false
set_option linter.unusedSimpArgs false
namespace Go.WE
open Go Go.Ab Go.Proofs
set_option linter.unusedSectionVars false
def tuR (v w n:Nat) (i:Nat) (c k:Int) (r:Nat->List AV):St:={env:=[(0,ao BW v),(1,ao BW w),(5,.msl 15 1 0 n),(6,.int .i64 (i:Int)),(7,.int .u64 c),(8,.int .i64 k)],objs:=[(15,.arr 1 n r)]}
theorem yl {v w n i:Nat} {c c' k k':Int} {r r':Nat->List AV} (h1:c=c') (h2:k=k') (h3:r=r'):tuR v w n i c k r=tuR v w n i c' k' r':=by rw [h1,h2,h3]
def tuS (v w n:Nat) (x:R4):St:=tuR v w n x.1 x.2.2.1 x.2.1 λj=>[.int .u32 (x.2.2.2 j:Int)]
def tuO (v w n:Nat) (x:R3) (k:Ex->St->Res):Res:=k (.exit 2) {env:=[(0,ao BW v),(1,ao BW w),(5,.msl 15 1 0 n),(6,.int .i64 (x.1:Int)),(7,.int .u64 (x.2.1:Int))],objs:=[(15,.arr 1 n λj=>[.int .u32 (x.2.2 j:Int)])]}
structure TuI (v w n:Nat) (x:R4):Prop where
 i:x.1 < dl BW v
 k:x.2.1<=dl BW w
 c:x.2.2.1 < 4294967296
 d:∀j,x.2.2.2 j < 4294967296
 z:∀j,x.1+dl BW w<=j->x.2.2.2 j=0
 n:n=dl BW v+dl BW w/\n<=1000
 e:vF BW x.2.2.2 (x.1+dl BW w)+x.2.2.1*BW ^ (x.1+x.2.1)=vF BW (dg BW v) x.1*w+dg BW v x.1*vF BW (dg BW w) x.2.1*BW ^ x.1
def lN (v w:Nat) (x:R4):Nat:=dg BW v x.1*dg BW w x.2.1+x.2.2.2 (0+(x.1+x.2.1))+x.2.2.1
section
variable {v w n:Nat} {x:R4} (hx:TuI v w n x)
include hx
theorem sd:IntKind.wrap .i64 ((x.1:Int)+(x.2.1:Int))=((x.1+x.2.1:Nat):Int):=by
 have:=hx.i;have:=hx.k;have:=hx.n
 rw [wrap_i64 (by omega) (by omega)];omega
theorem uj (h:x.2.1 < dl BW w):x.1+x.2.1 < n:=by
 have:=hx.i;have:=hx.n;omega
theorem yk (h:x.2.1 < dl BW w):lN v w x < 18446744073709551616:=by
 have h1:=sQ (b:=4294967296) (show dg BW v x.1 < 4294967296 from aY (by decide)) (show dg BW w x.2.1 < 4294967296 from aY (by decide)) (by decide)
 have h2:=hx.d (0+(x.1+x.2.1));have h3:=hx.c
 unfold lN;omega
theorem El (h:x.2.1 < dl BW w):IntKind.wrap .u64 (IntKind.wrap .u64 (IntKind.wrap .u64 (IntKind.wrap .u64 ((dg BW v x.1:Nat):Int)*IntKind.wrap .u64 ((dg BW w x.2.1:Nat):Int))+IntKind.wrap .u64 ((x.2.2.2 (0+Int.toNat ((x.1+x.2.1:Nat):Int)):Nat):Int))+((x.2.2.1:Nat):Int))=((lN v w x:Nat):Int):=by
 have h0:=yk hx h
 have h1:=dgw v x.1;have h2:=dgw w x.2.1
 have h3:=hx.d (0+(x.1+x.2.1));have h4:=hx.c
 have h5:lN v w x=dg BW v x.1*dg BW w x.2.1+x.2.2.2 (0+(x.1+x.2.1))+x.2.2.1:=rfl
 show IntKind.wrap .u64 (IntKind.wrap .u64 (_+IntKind.wrap .u64 ((x.2.2.2 (0+(x.1+x.2.1)):Nat):Int))+_)=_
 rw [w64 (x:=x.2.2.2 (0+(x.1+x.2.1))) (by omega),w64 (x:=dg BW v x.1) (by omega),w64 (x:=dg BW w x.2.1) (by omega),<-Int.natCast_mul,w64 (x:=dg BW v x.1*dg BW w x.2.1) (by omega),<-Int.natCast_add,w64 (x:=dg BW v x.1*dg BW w x.2.1+x.2.2.2 (0+(x.1+x.2.1))) (by omega),<-Int.natCast_add]
 exact w64 (x:=dg BW v x.1*dg BW w x.2.1+x.2.2.2 (0+(x.1+x.2.1))+x.2.2.1) (by omega)
theorem En (h:x.2.1 < dl BW w):TuI v w n (x.1,x.2.1+1,lN v w x / BW,bc x.2.2.2 (0+(x.1+x.2.1)) (lN v w x % BW)):=by
 have hs:=yk hx h
 refine ⟨hx.i,h,by show lN v w x / 4294967296 < 4294967296;omega,λj=>?_,λj hj=>?_,hx.n,?_⟩
 ·show bc x.2.2.2 (0+(x.1+x.2.1)) (lN v w x % BW) j < 4294967296
  by_cases e:j=0+(x.1+x.2.1)
  ·rw [e,bC];exact Nat.mod_lt _ (by decide)
  ·rw [aW _ _ e];exact hx.d j
 ·have hj:x.1+dl BW w<=j:=hj
  show bc x.2.2.2 (0+(x.1+x.2.1)) (lN v w x % BW) j=0
  rw [aW _ _ (by omega)];exact hx.z j hj
 ·show vF BW (bc x.2.2.2 (0+(x.1+x.2.1)) (lN v w x % BW)) (x.1+dl BW w)+lN v w x / BW*BW ^ (x.1+(x.2.1+1))=vF BW (dg BW v) x.1*w+dg BW v x.1*(vF BW (dg BW w) x.2.1+dg BW w x.2.1*BW ^ x.2.1)*BW ^ x.1
  have e:=hx.e
  rw [Nat.zero_add]
  have u:=p8 (b:=BW) (g:=x.2.2.2) (i:=x.1+x.2.1) (x:=lN v w x % BW) (n:=x.1+dl BW w) (by omega)
  have s1:lN v w x % BW*BW ^ (x.1+x.2.1)+lN v w x / BW*BW ^ (x.1+(x.2.1+1))=lN v w x*BW ^ (x.1+x.2.1):=by
   rw [<-Nat.add_assoc,Nat.pow_succ,Nat.mul_comm (BW ^ (x.1+x.2.1)) BW,<-Nat.mul_assoc,<-Nat.add_mul]
   congr 1
   rw [Nat.mul_comm (lN v w x / BW) BW]
   exact Nat.mod_add_div _ _
  have s2:lN v w x*BW ^ (x.1+x.2.1)=dg BW v x.1*dg BW w x.2.1*BW ^ (x.1+x.2.1)+x.2.2.2 (x.1+x.2.1)*BW ^ (x.1+x.2.1)+x.2.2.1*BW ^ (x.1+x.2.1):=by
   unfold lN;rw [Nat.zero_add,Nat.add_mul,Nat.add_mul]
  have s3:dg BW v x.1*(vF BW (dg BW w) x.2.1+dg BW w x.2.1*BW ^ x.2.1)*BW ^ x.1=dg BW v x.1*vF BW (dg BW w) x.2.1*BW ^ x.1+dg BW v x.1*dg BW w x.2.1*BW ^ (x.1+x.2.1):=by
   rw [Nat.mul_add,Nat.add_mul,Nat.pow_add,Nat.mul_comm (BW ^ x.1) (BW ^ x.2.1),<-Nat.mul_assoc,<-Nat.mul_assoc]
  omega
end
structure ToP (v w n i:Nat) (o:R3):Prop where
 c:o.2.1 < 4294967296
 d:∀j,o.2.2 j < 4294967296
 z:∀j,i+dl BW w<=j->o.2.2 j=0
 e:vF BW o.2.2 (i+dl BW w)+o.2.1*BW ^ (i+dl BW w)=vF BW (dg BW v) (i+1)*w
theorem Em {v w n:Nat} {x:R4} (hx:TuI v w n x) (h:dl BW w<=x.2.1):ToP v w n x.1 (x.1,x.2.2.1,x.2.2.2):=by
 have e:=hx.e
 have h1:x.2.1=dl BW w:=by have:=hx.k;omega
 refine ⟨hx.c,hx.d,hx.z,?_⟩
 show vF BW x.2.2.2 (x.1+dl BW w)+x.2.2.1*BW ^ (x.1+dl BW w)=(vF BW (dg BW v) x.1+dg BW v x.1*BW ^ x.1)*w
 rw [h1] at e
 rw [e,en bw,Nat.add_mul,Nat.mul_assoc,Nat.mul_assoc,Nat.mul_comm w]
theorem vd (v w n:Nat):∃ (u:St->Bool) (z:St->R3),(∀x,TuI v w n x->bq u z (tuS v w n x) λo=>o.1=x.1/\ToP v w n x.1 o)/\∀L:List (List Nat×Orc),aE (V0.run [ig] 2 [] L [] fY) fY [1,1,0,1,0,0,1,0,0,1,0,1,0] (mkO u z (tuO v w n)):=
 eu (Lf:=λL=>L) (tuS v w n) (TuI v w n) (λx=>dl BW w - x.2.1) (tuO v w n) (λx o=>o.1=x.1/\ToP v w n x.1 o) (by kernel_rfl) (λa b x h hp=>by
   have e:a.1=b.1:=by
    unfold tuS tuR at h
    simp only [St.mk.injEq,List.cons.injEq,Prod.mk.injEq,AV.int.injEq,true_and] at h
    have:=h.1.1;omega
   rw [<-e];exact hp)
  (λx hx=>.b (decide ((↑x.2.1:Int) < (↑(dl BW w):Int))) (λh1=>
   .n (c:=within (↑x.1:Int) (dl BW v)) (ag hx.i) (
   .n (c:=within (↑x.2.1:Int) (dl BW w)) (ag (aB h1)) (
   .n (c:=within (IntKind.wrap IntKind.i64 ((↑x.1:Int)+(↑x.2.1:Int))) n) (by rw [sd hx];exact ag (by have:=uj hx (aB h1);omega)) (
   .n (c:=Nat.blt (0+Int.toNat (IntKind.wrap IntKind.i64 ((↑x.1:Int)+(↑x.2.1:Int)))) n) (by rw [sd hx];exact eI (by have:=uj hx (aB h1);show 0+(x.1+x.2.1) < n;omega)) (
   .n (c:=within (IntKind.wrap IntKind.i64 ((↑x.1:Int)+(↑x.2.1:Int))) n) (by rw [sd hx];exact ag (by have:=uj hx (aB h1);omega)) (
   .n (c:=Nat.blt (0+Int.toNat (IntKind.wrap IntKind.i64 ((↑x.1:Int)+(↑x.2.1:Int)))) n) (by rw [sd hx];exact eI (by have:=uj hx (aB h1);show 0+(x.1+x.2.1) < n;omega)) (
   .nx {env:=[(0,ao BW v),(1,ao BW w),(5,.msl 15 1 0 n),(6,.int .i64 (↑x.1:Int)),(7,.int .u64 (Int.fdiv (IntKind.wrap IntKind.u64 (IntKind.wrap IntKind.u64 (IntKind.wrap IntKind.u64 (IntKind.wrap IntKind.u64 (↑(dg BW v x.1):Int)*IntKind.wrap IntKind.u64 (↑(dg BW w x.2.1):Int))+IntKind.wrap IntKind.u64 (↑(x.2.2.2 (0+Int.toNat (IntKind.wrap IntKind.i64 ((↑x.1:Int)+(↑x.2.1:Int))))):Int))+(↑x.2.2.1:Int))) (2 ^ min (Int.toNat 32) (IntKind.bits IntKind.u64)))),(8,.int .i64 (IntKind.wrap IntKind.i64 ((↑x.2.1:Int)+1)))],objs:=[(15,.arr 1 n λj=>bif Nat.beq j (0+Int.toNat (IntKind.wrap IntKind.i64 ((↑x.1:Int)+(↑x.2.1:Int)))) then [.int .u32 (IntKind.wrap IntKind.u32 (IntKind.wrap IntKind.u64 (IntKind.wrap IntKind.u64 (IntKind.wrap IntKind.u64 (IntKind.wrap IntKind.u64 (↑(dg BW v x.1):Int)*IntKind.wrap IntKind.u64 (↑(dg BW w x.2.1):Int))+IntKind.wrap IntKind.u64 (↑(x.2.2.2 (0+Int.toNat (IntKind.wrap IntKind.i64 ((↑x.1:Int)+(↑x.2.1:Int))))):Int))+(↑x.2.2.1:Int))))] else [.int .u32 (↑(x.2.2.2 j):Int)])]} (x.1,x.2.1+1,lN v w x / BW,bc x.2.2.2 (0+(x.1+x.2.1)) (lN v w x % BW)) (En hx (aB h1)) (by have:=aB h1;show dl BW w - (x.2.1+1) < dl BW w - x.2.1;omega) (λo ho=>ho) (by rw [sd hx,El hx (aB h1),AF];exact yl rfl (aZ (by have:=hx.k;have:=hx.n;omega)) (ck _ _ _ _ (xY _)))))))))) λh1=>
  .fi (x.1,x.2.2.1,x.2.2.2) ⟨rfl,Em hx (aF h1)⟩)
  (λv L k kn=>by kernel_rfl)
def toR (v w n:Nat) (i:Int) (r:Nat->List AV):St:={env:=[(0,ao BW v),(1,ao BW w),(5,.msl 15 1 0 n),(6,.int .i64 i)],objs:=[(15,.arr 1 n r)]}
theorem yq {v w n:Nat} {i i':Int} {r r':Nat->List AV} (h2:i=i') (h3:r=r'):toR v w n i r=toR v w n i' r':=by rw [h2,h3]
def toS (v w n:Nat) (x:R1):St:=toR v w n x.1 λj=>[.int .u32 (x.2 j:Int)]
def toO (n:Nat) (x:R1) (k:Ex->St->Res):Res:=k (.exit 0) {env:=[(5,.msl 15 1 0 n)],objs:=[(15,.arr 1 n λj=>[.int .u32 (x.2 j:Int)])]}
structure ToI (v w n:Nat) (x:R1):Prop where
 i:x.1<=dl BW v
 z:∀j,x.1+dl BW w<=j->x.2 j=0
 d:∀j,x.2 j < 4294967296
 e:vF BW x.2 (x.1+dl BW w)=vF BW (dg BW v) x.1*w
 n:n=dl BW v+dl BW w/\n<=1000
theorem Es {v w:Nat} (h1:dl BW v<=500) (h2:dl BW w<=500):ToI v w (dl BW v+dl BW w) (0,λ_=>0):=⟨Nat.zero_le _,λ_ _=>rfl,λ_=>(by decide:(0:Nat) < 4294967296),by rw [fH λ_ _=>rfl];show 0=0*w;rw [Nat.zero_mul],rfl,by omega⟩
section
variable {v w n:Nat} {x:R1} (hx:ToI v w n x)
include hx
theorem AP (h:x.1 < dl BW v):TuI v w n (x.1,0,0,x.2):=⟨h,Nat.zero_le _,(by decide:(0:Nat) < 4294967296),hx.d,hx.z,hx.n,by
 show vF BW x.2 (x.1+dl BW w)+0*_=_+dg BW v x.1*0*BW ^ x.1
 rw [hx.e,Nat.zero_mul,Nat.mul_zero,Nat.zero_mul]⟩
theorem vZ:IntKind.wrap .i64 ((x.1:Int)+(dl BW w:Int))=((x.1+dl BW w:Nat):Int):=by
 have:=hx.i;have:=hx.n
 rw [wrap_i64 (by omega) (by omega)];omega
theorem yn (h:x.1 < dl BW v):x.1+dl BW w < n:=by have:=hx.n;omega
theorem Er (h:x.1 < dl BW v) {o:R3} (ho:o.1=x.1/\ToP v w n x.1 o):ToI v w n (x.1+1,bc o.2.2 (0+(x.1+dl BW w)) o.2.1):=by
 have hp:=ho.2
 refine ⟨h,λj hj=>?_,λj=>?_,?_,hx.n⟩
 ·have hj:x.1+1+dl BW w<=j:=hj
  show bc _ _ _ j=0
  rw [aW _ _ (by omega)];exact hp.z j (by omega)
 ·show bc _ _ _ j < _
  by_cases e:j=0+(x.1+dl BW w)
  ·rw [e,bC];exact hp.c
  ·rw [aW _ _ e];exact hp.d j
 ·show vF BW (bc o.2.2 (0+(x.1+dl BW w)) o.2.1) (x.1+1+dl BW w)=_
  rw [Nat.zero_add,show x.1+1+dl BW w=x.1+dl BW w+1 by omega,jF,hp.e]
end
theorem Ep {v w n i:Nat} {o:R3} (ho:o.1=i/\ToP v w n i o):IntKind.wrap .u32 (o.2.1:Int)=(o.2.1:Int):=w32 (x:=o.2.1) (by have:=ho.2.c;omega)
theorem yp {v w n:Nat} {x:R1} (h:ToI v w n x/\x.1=dl BW v):vF BW x.2 (dl BW v+dl BW w)=v*w:=by
 have:=h.1.e
 rw [h.2,en bw] at this;exact this
theorem gJ {v w:Nat} (h1:dl BW v<=500) (h2:dl BW w<=500):aR wd fY φNW (rB BW λv w x=>x=v*w) [ao BW v,ao BW w] []:=by
 obtain ⟨u2,z2,hin,l2⟩:=vd v w (dl BW v+dl BW w)
 obtain ⟨u,z,hu,l1⟩:∃ (u:St->Bool) (z:St->R1),(∀x,ToI v w (dl BW v+dl BW w) x->bq u z (toS v w (dl BW v+dl BW w) x) λx=>ToI v w (dl BW v+dl BW w) x/\x.1=dl BW v)/\∀g:Orc,aE (V0.run [ig] 2 [] [([1,1,0,1,0],g),([1,1,0,1,0,0,1,0,0,1,0,1,0],mkO u2 z2 (tuO v w (dl BW v+dl BW w)))] [] fY) fY [1,1,0,1,0] (mkO u z (toO (dl BW v+dl BW w))):=
  aQ (Lf:=λg=>[([1,1,0,1,0],g),([1,1,0,1,0,0,1,0,0,1,0,1,0],mkO u2 z2 (tuO v w (dl BW v+dl BW w)))]) (toS v w (dl BW v+dl BW w)) (ToI v w (dl BW v+dl BW w)) (λx=>dl BW v - x.1) (toO (dl BW v+dl BW w)) (λx=>ToI v w (dl BW v+dl BW w) x/\x.1=dl BW v) (by kernel_rfl)
   (λx hx=>.b (decide ((↑x.1:Int) < (↑(dl BW v):Int))) (λh1=>
   .lp (hin (x.1,0,0,x.2) (AP hx (aB h1))) λr2 q2=>
   .n (c:=within (IntKind.wrap IntKind.i64 ((↑r2.1:Int)+(↑(dl BW w):Int))) (dl BW v+dl BW w)) (by rw [q2.1,vZ hx];exact ag (by have:=yn hx (aB h1);omega)) (
   .n (c:=Nat.blt (0+Int.toNat (IntKind.wrap IntKind.i64 ((↑r2.1:Int)+(↑(dl BW w):Int)))) (dl BW v+dl BW w)) (by rw [q2.1,vZ hx];exact eI (by have:=yn hx (aB h1);show 0+(x.1+dl BW w) < dl BW v+dl BW w;omega)) (
   .go {env:=[(0,ao BW v),(1,ao BW w),(5,.msl 15 1 0 (dl BW v+dl BW w)),(6,.int .i64 (IntKind.wrap IntKind.i64 ((↑r2.1:Int)+1)))],objs:=[(15,.arr 1 (dl BW v+dl BW w) λj=>bif Nat.beq j (0+Int.toNat (IntKind.wrap IntKind.i64 ((↑r2.1:Int)+(↑(dl BW w):Int)))) then [.int .u32 (IntKind.wrap IntKind.u32 (↑r2.2.1:Int))] else [.int .u32 (↑(r2.2.2 j):Int)])]} (x.1+1,bc r2.2.2 (0+(x.1+dl BW w)) r2.2.1) (Er hx (aB h1) q2) (by have:=aB h1;show dl BW v - (x.1+1) < dl BW v - x.1;omega) (by rw [q2.1,vZ hx];exact yq (aZ (by have:=hx.i;have:=hx.n;omega)) (ck _ _ _ _ (Ep q2)))))) λh1=>
  .fi x ⟨hx,by have:=aF h1;have:=hx.i;omega⟩)
   (λv L k kn=>by kernel_rfl)
 exact iU (V:=V0) (T:=[ig]) (d:=2) 0 (aK (l1 _) (aK (l2 _) bK)) bI (.n (c:=decide (IntKind.wrap IntKind.i64 ((↑(dl BW v):Int)+(↑(dl BW w):Int))=IntKind.wrap IntKind.i64 ((↑(dl BW v):Int)+(↑(dl BW w):Int)))&&(decide (0<=IntKind.wrap IntKind.i64 ((↑(dl BW v):Int)+(↑(dl BW w):Int)))&&(roomy 4 (Int.toNat (IntKind.wrap IntKind.i64 ((↑(dl BW v):Int)+(↑(dl BW w):Int))))&&decide (IntKind.wrap IntKind.i64 ((↑(dl BW v):Int)+(↑(dl BW w):Int))<=140737488355328)))) (y7 (by omega)) (
  .lp (s:={env:=[(0,ao BW v),(1,ao BW w),(5,.msl 15 1 0 (Int.toNat (IntKind.wrap IntKind.i64 ((↑(dl BW v):Int)+(↑(dl BW w):Int))))),(6,.int .i64 0)],objs:=[(15,.arr 1 (Int.toNat (IntKind.wrap IntKind.i64 ((↑(dl BW v):Int)+(↑(dl BW w):Int)))) λx=>[.int .u32 0])]}) (Q:=λx=>ToI v w (dl BW v+dl BW w) x/\x.1=dl BW v) (by rw [wrap_i64 (by omega) (by omega)];exact hu (0,λ_=>0) (Es h1 h2)) λr1 q1=>
  .n (c:=Nat.beq 1 1&&Nat.ble (0+(dl BW v+dl BW w)) (dl BW v+dl BW w)) (ix _ _) (
  .call (ef (n:=dl BW v+dl BW w) (g:=λj=>r1.2 (0+j)) ⟨by omega,λj hj=>q1.1.d _⟩) λr2 q2=>
  .r r2 (rB.mk bw (by rw [q2.at (n:=dl BW v+dl BW w) (g:=λj=>r1.2 (0+j)) rfl,cu (g:=λj=>r1.2 (0+j)) (h:=r1.2) λj _=>by rw [Nat.zero_add]];exact yp q1))))) (by kernel_rfl)
noncomputable abbrev zy:Ent:=bN wd fY φNW (rB BW λv w x=>x=v*w)
end Go.WE

namespace Go.WE
open Go Go.Ab Go.Proofs
set_option linter.unusedSectionVars false
def zf (_:Nat):Nat:=0
def oB (n g c:Nat):Nat:=2 ^ (n % 32)*g+c
theorem Dm {n g c:Nat} (hg:g < 4294967296) (hc:c < 2 ^ (n % 32)):oB n g c < 2 ^ (n % 32)*4294967296:=by
 unfold oB
 have:2 ^ (n % 32)*(g+1)<=2 ^ (n % 32)*4294967296:=Nat.mul_le_mul_left _ hg
 rw [Nat.mul_add,Nat.mul_one] at this;omega
theorem A9 (n:Nat):2 ^ (n % 32)<=2147483648:=Nat.le_trans (Nat.pow_le_pow_right (by decide) (show n % 32<=31 by omega)) (by decide)
theorem Dk (n:Nat) {g c:Nat} (hg:g < 4294967296) (hc:c < 2 ^ (n % 32)):(IntKind.wrap .u64 ((BitVec.toNat (BitVec.ofInt (IntKind.bits .u64) (IntKind.wrap .u64 (IntKind.wrap .u64 ((g:Nat):Int)*2 ^ min (Int.toNat (IntKind.wrap .u64 (Int.tmod (n:Int) 32))) (IntKind.bits .u64))) ||| BitVec.ofInt (IntKind.bits .u64) (c:Int)):Nat):Int))=((oB n g c:Nat):Int):=by
 have hb:=Dm hg hc
 have hp:=A9 n
 have h1:2 ^ (n % 32)*4294967296<=2147483648*4294967296:=Nat.mul_le_mul_right _ hp
 have e1:IntKind.wrap .u64 (Int.tmod (n:Int) 32)=((n % 32:Nat):Int):=w64 (x:=n % 32) (by omega)
 have e2:min (Int.toNat ((n % 32:Nat):Int)) (IntKind.bits .u64)=n % 32:=by
  show min (n % 32) 64=n % 32
  omega
 have e3:IntKind.wrap .u64 (IntKind.wrap .u64 ((g:Nat):Int)*2 ^ (n % 32))=((2 ^ (n % 32)*g:Nat):Int):=by
  rw [w64 (x:=g) (by omega),Int.mul_comm,show (2:Int) ^ (n % 32)=((2 ^ (n % 32):Nat):Int) by rw [Int.natCast_pow];rfl,<-Int.natCast_mul]
  exact w64 (by unfold oB at hb;omega)
 rw [e1,e2,e3]
 show IntKind.wrap .u64 ((BitVec.toNat (BitVec.ofInt 64 ((2 ^ (n % 32)*g:Nat):Int) ||| BitVec.ofInt 64 (c:Int)):Nat):Int)=_
 unfold oB at hb
 rw [xG 64 _ _ (by show _ < 18446744073709551616;omega) (by show _ < 18446744073709551616;omega),sY hc]
 exact w64 (x:=oB n g c) (by unfold oB;omega)
structure SfI (v n:Nat) (x:R3):Prop where
 i':x.1<=dl BW v
 c':x.2.1 < 2 ^ (n % 32)
 l':dl BW v<=500
 n':n<=3200
 d':∀j,j < n / 32+x.1->x.2.2 j < 4294967296
 e':vF BW x.2.2 (n / 32+x.1)+x.2.1*BW ^ (n / 32+x.1)=vF BW (dg BW v) x.1*2 ^ n
theorem E0 {v n:Nat} (hl:dl BW v<=500) (hn:n<=3200):SfI v n (0,0,zf):=⟨Nat.zero_le _,Nat.pow_pos (by decide),hl,hn,λ_ _=>(by decide:(0:Nat) < 4294967296),by
 show vF BW zf (n / 32+0)+0*_=0*_
 rw [fH (g:=zf) λ_ _=>rfl,Nat.zero_mul,Nat.zero_mul]⟩
theorem Dn {v n:Nat} {x:R3} (hx:SfI v n x) (h:x.1 < dl BW v):SfI v n (x.1+1,oB n (dg BW v x.1) x.2.1 / 4294967296,bc x.2.2 (n / 32+x.1) (oB n (dg BW v x.1) x.2.1 % 4294967296)):=by
 have hb:=Dm (dgw v x.1) hx.c'
 refine ⟨h,(Nat.div_lt_iff_lt_mul (by decide)).2 hb,hx.l',hx.n',?_,?_⟩
 ·show ∀j,j < n / 32+(x.1+1)->_
  rw [<-Nat.add_assoc]
  exact fc hx.d' (Nat.mod_lt _ (by decide))
 ·show vF BW (bc x.2.2 (n / 32+x.1) (oB n (dg BW v x.1) x.2.1 % BW)) (n / 32+(x.1+1))+oB n (dg BW v x.1) x.2.1 / BW*BW ^ (n / 32+(x.1+1))=(vF BW (dg BW v) x.1+dg BW v x.1*BW ^ x.1)*2 ^ n
  have e:=hx.e'
  rw [<-Nat.add_assoc,sa,Nat.add_mul,<-e]
  have e1:2 ^ n=2 ^ (n % 32)*BW ^ (n / 32):=by
   rw [show BW=2 ^ 32 from rfl,<-Nat.pow_mul,<-Nat.pow_add];congr 1;omega
  unfold oB
  rw [Nat.add_mul,e1,Nat.pow_add,Nat.mul_assoc (dg BW v x.1),Nat.mul_comm (BW ^ x.1),Nat.mul_assoc (2 ^ (n % 32)) (BW ^ (n / 32)),<-Nat.mul_assoc (dg BW v x.1),Nat.mul_comm (dg BW v x.1)]
  omega
def sfA (v n:Nat):St:={env:=[(0,ao BW v),(1,.int .i64 (n:Int)),(5,.sl .fit 1 (n / 32) λ_=>[.int .u32 0]),(6,.int .u64 0),(7,.int .i64 0)],objs:=[]}
def sfB (v n:Nat) (x:R3):St:={env:=[(0,ao BW v),(1,.int .i64 (n:Int)),(5,.sl (.key 33) 1 (n / 32+x.1) λj=>[.int .u32 (x.2.2 j:Int)]),(6,.int .u64 (x.2.1:Int)),(7,.int .i64 (x.1:Int))],objs:=[(33,.own 1 (n / 32+x.1))]}
def sfS (v n:Nat) (y:Bool×R3):St:=cond y.1 (sfA v n) (sfB v n y.2)
def sfO (n:Nat) (x:R3) (k:Ex->St->Res):Res:=k (.exit 0) {env:=[(5,.sl (.key 33) 1 (n / 32+x.1) λj=>[.int .u32 (x.2.2 j:Int)]),(6,.int .u64 (x.2.1:Int))],objs:=[(33,.own 1 (n / 32+x.1))]}
def SfJ (v n:Nat) (y:Bool×R3):Prop:=(y.1=true/\0 < dl BW v/\dl BW v<=500/\n<=3200)∨(y.1=false/\SfI v n y.2)
theorem yI {p:Prop} {m:Nat} (h:0 < m) (h1:decide ((0:Int) < (m:Int))=false):p:=by
 have:=of_decide_eq_false h1
 omega
theorem wX {α τ ι:Type} [Inhabited τ] {V:Env} {T:List Ent} {d:Nat} {Lf:ι->List (List Nat×Orc)} {W:List (List Nat×Vw)} {f:FuncId} {p:List Nat} (S:α->St) (Inv:α->Prop) (μ:α->Nat) (out:τ->(Ex->St->Res)->Res) (Post:τ->Prop) (hb:qt (cY (bt V.P f) p)=true)
  (h:∀v,Inv v->∃e:ι->(Ex->St->Res)->(St->Res)->Res,RT S Inv μ out (λ_ o=>Post o) v e/\∀i k kn,cW (V.run T d [] (Lf i) W f) f 9 p (S v) kn k=e i k kn) :
  ∃ (u:St->Bool) (w:St->τ),(∀v,Inv v->bq u w (S v) Post)/\∀i,aE (V.run T d [] (Lf i) W f) f p (mkO u w out):=by
 obtain ⟨b,hb⟩:∃b,cY (bt V.P f) p=.loop b:=by
  cases hc:cY (bt V.P f) p with
  | loop b=>exact ⟨b,rfl⟩
  | _=>rw [hc] at hb;cases hb
 obtain ⟨w,hw,hl⟩:=mF (Xf:=λi=>V.run T d [] (Lf i) W f) (f:=f) (p:=p) (b:=b) S Inv μ out (λ_ o=>Post o) (λ_=>hb) 9 λv hv=>by
  obtain ⟨e,h1,h2⟩:=h v hv
  exact RT.eq h2 h1
 exact ⟨pq S Inv,uh S Inv w,λv hv=>⟨kr hv,iv (Post:=λ_ o=>Post o) hw (λ_ _ _ _ h=>h) hv⟩,hl⟩
abbrev sfM (v:Nat) (y:Bool×R3):Nat:=cond y.1 (dl BW v+1) (dl BW v - y.2.1+0)
theorem EZ (v n:Nat) (hp:0 < dl BW v) (hl:dl BW v<=500) (hn:n<=3200) (x:R3):∃e:List (List Nat×Orc)->(Ex->St->Res)->(St->Res)->Res,RT (sfS v n) (SfJ v n) (sfM v) (sfO n) (λ_ o=>SfI v n o/\o.1=dl BW v) (true,x) e/\∀i k kn,cW (VSh.run [ig] 2 [] i [] eg) eg 9 [1,1,1,0,1,0] (sfA v n) kn k=e i k kn:=
 ⟨_,.b (decide (0 < (↑(dl BW v):Int))) (λh1=>
   .n (c:=within 0 (dl BW v)) (ag (n:=dl BW v) (i:=0) hp) (
   .n (c:=roomy 4 (n / 32+1)) (kk (by omega)) (
   .go {env:=[(0,ao BW v),(1,.int .i64 (↑n:Int)),(5,.sl (.key 33) 1 (n / 32+1) (av (n / 32) 1 (λj=>[.int .u32 ((zf j:Nat):Int)]) (al [.int .u32 0] [(0,.int .u32 (IntKind.wrap IntKind.u32 (IntKind.wrap IntKind.u64 (↑(BitVec.toNat (BitVec.ofInt (IntKind.bits IntKind.u64) (IntKind.wrap IntKind.u64 (IntKind.wrap IntKind.u64 (↑(dg BW v 0):Int)*2 ^ min (Int.toNat (IntKind.wrap IntKind.u64 (Int.tmod (↑n:Int) 32))) (IntKind.bits IntKind.u64))) ||| BitVec.ofInt (IntKind.bits IntKind.u64) ((0:Nat):Int))):Int))))]))),(6,.int .u64 (Int.fdiv (IntKind.wrap IntKind.u64 (↑(BitVec.toNat (BitVec.ofInt (IntKind.bits IntKind.u64) (IntKind.wrap IntKind.u64 (IntKind.wrap IntKind.u64 (↑(dg BW v 0):Int)*2 ^ min (Int.toNat (IntKind.wrap IntKind.u64 (Int.tmod (↑n:Int) 32))) (IntKind.bits IntKind.u64))) ||| BitVec.ofInt (IntKind.bits IntKind.u64) ((0:Nat):Int))):Int)) (2 ^ min (Int.toNat 32) (IntKind.bits IntKind.u64)))),(7,.int .i64 (IntKind.wrap IntKind.i64 (0+1)))],objs:=[(33,.own 1 (n / 32+1))]} (false,0+1,oB n (dg BW v 0) 0 / 4294967296,bc zf (n / 32+0) (oB n (dg BW v 0) 0 % 4294967296)) (.inr ⟨rfl,Dn (E0 hl hn) hp⟩) (by show dl BW v - 1+0 < dl BW v+1;omega) (by rw [Dk n (dgw v 0) (Nat.pow_pos (by decide)),AF,fO _ _ (xY _)];rfl)))) λh1=>
  .fq (e:=.exit 0) (s:={env:=[(5,.sl .fit 1 (n / 32) λ_=>[.int .u32 0]),(6,.int .u64 0)],objs:=[]}) default (yI hp h1) (yI hp h1),λi k kn=>by kernel_rfl⟩
theorem EY (v n:Nat) (x:R3) (hx:SfI v n x):∃e:List (List Nat×Orc)->(Ex->St->Res)->(St->Res)->Res,RT (sfS v n) (SfJ v n) (sfM v) (sfO n) (λ_ o=>SfI v n o/\o.1=dl BW v) (false,x) e/\∀i k kn,cW (VSh.run [ig] 2 [] i [] eg) eg 9 [1,1,1,0,1,0] (sfB v n x) kn k=e i k kn:=
 ⟨_,.b (decide ((↑x.1:Int) < (↑(dl BW v):Int))) (λh1=>
   .n (c:=within (↑x.1:Int) (dl BW v)) (ag (aB h1)) (
   .n (c:=roomy 4 (n / 32+x.1+1)&&Nat.beq (n / 32+x.1) (n / 32+x.1)) (cb (by have:=hx.i';have:=hx.l';have:=hx.n';omega)) (
   .go {env:=[(0,ao BW v),(1,.int .i64 (↑n:Int)),(5,.sl (.key 33) 1 (n / 32+x.1+1) (av (n / 32+x.1) 1 (λj=>[.int .u32 (↑(x.2.2 j):Int)]) (al [.int .u32 0] [(0,.int .u32 (IntKind.wrap IntKind.u32 (IntKind.wrap IntKind.u64 (↑(BitVec.toNat (BitVec.ofInt (IntKind.bits IntKind.u64) (IntKind.wrap IntKind.u64 (IntKind.wrap IntKind.u64 (↑(dg BW v x.1):Int)*2 ^ min (Int.toNat (IntKind.wrap IntKind.u64 (Int.tmod (↑n:Int) 32))) (IntKind.bits IntKind.u64))) ||| BitVec.ofInt (IntKind.bits IntKind.u64) (↑x.2.1:Int))):Int))))]))),(6,.int .u64 (Int.fdiv (IntKind.wrap IntKind.u64 (↑(BitVec.toNat (BitVec.ofInt (IntKind.bits IntKind.u64) (IntKind.wrap IntKind.u64 (IntKind.wrap IntKind.u64 (↑(dg BW v x.1):Int)*2 ^ min (Int.toNat (IntKind.wrap IntKind.u64 (Int.tmod (↑n:Int) 32))) (IntKind.bits IntKind.u64))) ||| BitVec.ofInt (IntKind.bits IntKind.u64) (↑x.2.1:Int))):Int)) (2 ^ min (Int.toNat 32) (IntKind.bits IntKind.u64)))),(7,.int .i64 (IntKind.wrap IntKind.i64 ((↑x.1:Int)+1)))],objs:=[(33,.own 1 (n / 32+x.1+1))]} (false,x.1+1,oB n (dg BW v x.1) x.2.1 / 4294967296,bc x.2.2 (n / 32+x.1) (oB n (dg BW v x.1) x.2.1 % 4294967296)) (.inr ⟨rfl,Dn hx (aB h1)⟩) (by have:=aB h1;show dl BW v - (x.1+1)+0 < dl BW v - x.1+0;omega) (by rw [Dk n (dgw v x.1) hx.c',AF,aZ (by have:=hx.i';have:=hx.l';omega),fO _ _ (xY _)];rfl)))) λh1=>
  .fi x ⟨hx,by have:=aF h1;have:=hx.i';omega⟩,λi k kn=>by kernel_rfl⟩
theorem n5 (v n:Nat):∃ (u:St->Bool) (z:St->R3),(∀y,SfJ v n y->bq u z (sfS v n y) λo=>SfI v n o/\o.1=dl BW v)/\∀L:List (List Nat×Orc),aE (VSh.run [ig] 2 [] L [] eg) eg [1,1,1,0,1,0] (mkO u z (sfO n)):=
 wX (Lf:=λL=>L) (sfS v n) (SfJ v n) (sfM v) (sfO n) (λo=>SfI v n o/\o.1=dl BW v) (by kernel_rfl) λy hy=>by
  obtain ⟨b,x⟩:=y
  rcases hy with ⟨h,hp,hl,hn⟩ | ⟨h,hx⟩
  ·have h:b=true:=h
   subst h
   exact EZ v n hp hl hn x
  ·have h:b=false:=h
   subst h
   exact EY v n x hx
theorem Dl {n:Nat} (hn:n<=3200):IntKind.wrap .i64 (Int.tdiv (n:Int) 32)=((n / 32:Nat):Int):=by
 rw [show Int.tdiv (n:Int) 32=((n / 32:Nat):Int) from rfl,wrap_i64 (by omega) (by omega)]
theorem Ba {n:Nat} (hn:n<=3200):(decide (IntKind.wrap .i64 (Int.tdiv (n:Int) 32)=IntKind.wrap .i64 (Int.tdiv (n:Int) 32))&&(decide (0<=IntKind.wrap .i64 (Int.tdiv (n:Int) 32))&&(roomy 4 (Int.toNat (IntKind.wrap .i64 (Int.tdiv (n:Int) 32)))&&decide (IntKind.wrap .i64 (Int.tdiv (n:Int) 32)<=140737488355328))))=true:=by
 rw [Dl hn]
 exact mB (by omega)
theorem vx {v n:Nat} {x:R3} (q:SfI v n x/\x.1=dl BW v):av (n / 32+x.1) 1 (λj=>[AV.int .u32 (x.2.2 j:Int)]) (al [.int .u32 0] [(0,.int .u32 (IntKind.wrap .u32 (x.2.1:Int)))])=λj=>[.int .u32 ((bc x.2.2 (n / 32+x.1) x.2.1 j:Nat):Int)]:=by
 have:=q.1.c';have:=A9 n
 exact fO _ _ (w32 (x:=x.2.1) (by omega))
theorem EX {v n:Nat} {x:R3} (q:SfI v n x/\x.1=dl BW v):aR wd k0 φNW (j3 BW) [.sl .no 1 (n / 32+x.1+1) (av (n / 32+x.1) 1 (λj=>[.int .u32 (x.2.2 j:Int)]) (al [.int .u32 0] [(0,.int .u32 (IntKind.wrap .u32 (x.2.1:Int)))]))] []:=by
 rw [vx q]
 have:=q.1.c';have:=A9 n;have:=q.1.i';have:=q.1.l';have:=q.1.n'
 exact ef (n:=n / 32+x.1+1) (g:=bc x.2.2 (n / 32+x.1) x.2.1) ⟨by omega,fc q.1.d' (show x.2.1 < 4294967296 by omega)⟩
theorem yJ {v n r:Nat} {x:R3} (q:SfI v n x/\x.1=dl BW v) (h:j3 BW [.sl .no 1 (n / 32+x.1+1) (av (n / 32+x.1) 1 (λj=>[.int .u32 (x.2.2 j:Int)]) (al [.int .u32 0] [(0,.int .u32 (IntKind.wrap .u32 (x.2.1:Int)))]))] [] r):r=v*2 ^ n:=by
 rw [vx q] at h
 have e:=q.1.e'
 rw [h.at rfl,jF,e,q.2,en bw]
def rSh (l:List AV) (_:List AO) (x:Nat):Prop:=∀v n:Nat,l=[ao BW v,.int .i64 (n:Int)]->x=v*2 ^ n
theorem rSh.mk {v n:Nat} {os:List AO} {x:Nat} (h:x=v*2 ^ n):rSh [ao BW v,.int .i64 (n:Int)] os x:=λv' n' e=>by
 injection e with e1 e
 injection e with e2 _
 injection e2 with _ e2
 rw [<-bJ bw e1,show n'=n by omega];exact h
theorem ru {v n:Nat} (hp:0 < dl BW v) (hl:dl BW v<=500) (hn:n<=3200):aR wd eg φNW rSh [ao BW v,.int .i64 (n:Int)] []:=by
 obtain ⟨u,z,hu,l1⟩:=n5 v n
 exact lb (V:=VSh) [ig] 2 (p:=[1,1,1,0,1,0]) l1 (.n (c:=decide (IntKind.wrap IntKind.i64 (Int.tdiv (↑n:Int) 32)=IntKind.wrap IntKind.i64 (Int.tdiv (↑n:Int) 32))&&(decide (0<=IntKind.wrap IntKind.i64 (Int.tdiv (↑n:Int) 32))&&(roomy 4 (Int.toNat (IntKind.wrap IntKind.i64 (Int.tdiv (↑n:Int) 32)))&&decide (IntKind.wrap IntKind.i64 (Int.tdiv (↑n:Int) 32)<=140737488355328)))) (Ba hn) (
  .lp (s:={env:=[(0,ao BW v),(1,.int .i64 (↑n:Int)),(5,.sl .fit 1 (Int.toNat (IntKind.wrap IntKind.i64 (Int.tdiv (↑n:Int) 32))) λx=>[.int .u32 0]),(6,.int .u64 0),(7,.int .i64 0)],objs:=[]}) (Q:=λx:R3=>SfI v n x/\x.1=dl BW v) (by rw [Dl hn];exact hu (true,0,0,zf) (.inl ⟨rfl,hp,hl,hn⟩)) λr1 q1=>
  .n (c:=roomy 4 (n / 32+r1.1+1)&&Nat.beq (n / 32+r1.1) (n / 32+r1.1)) (cb (by have:=q1.1.i';have:=q1.1.l';have:=q1.1.n';omega)) (
  .call (EX q1) λr2 q2=>
  .r r2 (rSh.mk (yJ q1 q2))))) (by kernel_rfl)
noncomputable abbrev vM:Ent:=bN wd eg φNW rSh
end Go.WE

namespace Go.WE
open Go Go.Ab Go.Proofs
set_option linter.unusedSectionVars false
theorem two:1 < 2:=by decide
theorem tK (t:Nat) (h:t≠0):dl 2 t=dl 2 (t / 2)+1:=AI two h
theorem zU (v:Nat):∀j,v / 2 ^ j≠0->dl 2 v=dl 2 (v / 2 ^ j)+j
 | 0,_=>by rw [Nat.pow_zero,Nat.div_one,Nat.add_zero]
 | j+1,h=>by
  have e:v / 2 ^ (j+1)=v / 2 ^ j / 2:=by rw [Nat.pow_succ,Nat.div_div_eq_div_mul]
  have h1:v / 2 ^ j≠0:=λh0=>h (by rw [e,h0])
  rw [zU v j h1,tK _ h1,e];omega
theorem Ah {v:Nat} (h:0 < dl BW v):dg BW v (dl BW v - 1)=v / 2 ^ (32*(dl BW v - 1))/\v / 2 ^ (32*(dl BW v - 1))≠0:=by
 have h1:=(nP bw v).top (by omega)
 have e:dg BW v (dl BW v - 1)=v / 2 ^ (32*(dl BW v - 1)):=by
  unfold dg
  rw [Nat.pow_mul,show (2:Nat) ^ 32=BW from rfl]
  refine Nat.mod_eq_of_lt ((Nat.div_lt_iff_lt_mul (Nat.pow_pos (by decide))).2 ?_)
  rw [<-Nat.pow_succ',show (dl BW v - 1).succ=dl BW v by omega]
  exact lM bw
 exact ⟨e,by rw [<-e];exact h1⟩
theorem Ai {v:Nat} (h:0 < dl BW v):dl 2 v=32*(dl BW v - 1)+dl 2 (dg BW v (dl BW v - 1)):=by
 have h1:=Ah h
 rw [h1.1,zU v _ h1.2];omega
def BtI (X:Nat) (x:Nat×Nat):Prop:=x.1<=100000/\x.1+dl 2 x.2=X/\X<=100000
theorem G7 (t:Nat):Int.fdiv (t:Int) (2 ^ min (Int.toNat 1) (IntKind.bits .u32))=((t / 2:Nat):Int):=by
 show Int.fdiv (t:Int) 2=_
 rw [Int.fdiv_eq_ediv_of_nonneg _ (by decide)];rfl
theorem CZ {t:Nat} (h:decide ((t:Int) > 0)=true):0 < t:=by have:=of_decide_eq_true h;omega
theorem G9 {X:Nat} {x:Nat×Nat} (hx:BtI X x) (h:decide ((x.2:Int) > 0)=true):BtI X (x.1+1,x.2 / 2):=by
 have h1:=tK x.2 (by have:=CZ h;omega)
 have h2:=hx.2.1;have h3:=hx.2.2
 exact ⟨by show x.1+1<=_;omega,by show x.1+1+dl 2 (x.2 / 2)=X;omega,h3⟩
theorem G4 {x:Nat×Nat} (h:decide ((x.2:Int) > 0)=true):x.2 / 2 < x.2:=Nat.div_lt_self (CZ h) two
theorem G8 {X:Nat} {x:Nat×Nat} (hx:BtI X x) (h:decide ((x.2:Int) > 0)=false):x.1=X:=by
 have h1:x.2=0:=by have:=of_decide_eq_false h;omega
 have h2:=hx.2.1
 rw [h1,lH] at h2;exact h2
theorem xH (X:Nat):∃ (u:St->Bool) (z:St->Nat×Nat),(∀x:Nat×Nat,BtI X x->bq u z {env:=[(3,.int .i64 (x.1:Int)),(4,.int .u32 (x.2:Int))],objs:=[]} λx=>x.1=X)/\∀L:List (List Nat×Orc),aE (V0.run [] 2 [] L [] qE) qE [1,1,1,0,1,0] (mkO u z λ(x:Nat×Nat) k=>k (.exit 0) {env:=[(3,.int .i64 (x.1:Int))],objs:=[]}):=
 aQ (Lf:=λL=>L) (λx:Nat×Nat=>{env:=[(3,.int .i64 (x.1:Int)),(4,.int .u32 (x.2:Int))],objs:=[]}) (BtI X) (λx=>x.2) (λ(x:Nat×Nat) k=>k (.exit 0) {env:=[(3,.int .i64 (x.1:Int))],objs:=[]}) (λx=>x.1=X) (by kernel_rfl)
  (λx hx=>.b (decide ((↑x.2:Int) > 0)) (λh1=>
   .go {env:=[(3,.int .i64 (IntKind.wrap IntKind.i64 ((↑x.1:Int)+1))),(4,.int .u32 (Int.fdiv (↑x.2:Int) (2 ^ min (Int.toNat 1) (IntKind.bits IntKind.u32))))],objs:=[]} (x.1+1,x.2 / 2) (G9 hx h1) (G4 h1) (by rw [G7,aZ (by have:=hx.1;omega)])) λh1=>
  .fi x (G8 hx h1))
  (λv L k kn=>by kernel_rfl)
theorem G2 {v:Nat} (h:(((dl BW v:Nat):Int)==0)=true):0=dl 2 v:=by
 have:=eq_of_beq h
 rw [(fw bw).1 (show dl BW v=0 by omega),lH]
section
variable {v:Nat} (h:dl BW v<=900) (h1:(((dl BW v:Nat):Int)==0)=false)
include h h1
theorem C0:0 < dl BW v:=by
 have:¬ ((dl BW v:Int)=0):=by simpa using h1
 omega
theorem Ea:IntKind.wrap .i64 ((dl BW v:Int) - 1)=((dl BW v - 1:Nat):Int):=gX (C0 h h1) (by omega)
theorem G3:within (IntKind.wrap .i64 ((dl BW v:Int) - 1)) (dl BW v)=true:=by
 rw [Ea h h1];exact ag (by have:=C0 h h1;omega)
theorem G6:IntKind.wrap .i64 (32*((dl BW v - 1:Nat):Int))=((32*(dl BW v - 1):Nat):Int):=by rw [wrap_i64 (by omega) (by omega)];omega
theorem G5:dg BW v (Int.toNat ((dl BW v - 1:Nat):Int))=dg BW v (dl BW v - 1):=rfl
theorem Ha:BtI (dl 2 v) (32*(dl BW v - 1),dg BW v (dl BW v - 1)):=by
 have e:=Ai (C0 h h1)
 have:dl 2 (dg BW v (dl BW v - 1))<=32:=eh two (dgw v _)
 exact ⟨by show 32*(dl BW v - 1)<=_;omega,e.symm,by omega⟩
end
theorem oc {v:Nat} (h:dl BW v<=900):aR wd qE φIn (rU BW λv x=>x=dl 2 v) [ao BW v] []:=by
 obtain ⟨u,z,hu,l1⟩:=xH (dl 2 v)
 exact lb (V:=V0) [] 2 (p:=[1,1,1,0,1,0]) l1 (.b ((↑(dl BW v):Int)==0) (λh1=>
   .r 0 (rU.mk bw (G2 h1))) λh1=>
  .n (c:=within (IntKind.wrap IntKind.i64 ((↑(dl BW v):Int) - 1)) (dl BW v)) (G3 h h1) (
  .lp (s:={env:=[(3,.int .i64 (IntKind.wrap IntKind.i64 (32*IntKind.wrap IntKind.i64 ((↑(dl BW v):Int) - 1)))),(4,.int .u32 (↑(dg BW v (Int.toNat (IntKind.wrap IntKind.i64 ((↑(dl BW v):Int) - 1)))):Int))],objs:=[]}) (Q:=λx:Nat×Nat=>x.1=dl 2 v) (by rw [Ea h h1,G6 h h1,G5 h h1];exact hu (32*(dl BW v - 1),dg BW v (dl BW v - 1)) (Ha h h1)) λr2 q2=>
  .r r2.1 (rU.mk bw q2))) (by kernel_rfl)
noncomputable abbrev zC:Ent:=bN wd qE φIn (rU BW λv x=>x=dl 2 v)
abbrev R8:=Nat×Nat×(Nat->Nat)
structure DdI (a b m:Nat) (x:R8):Prop where
 i':x.1<=4000
 l':dl BW x.2.1<=900
 b':dl BW (b*2 ^ x.1 / 2)<=900
 m':x.1<=32*m
 h':x.2.1 < b*2 ^ x.1
 d':∀j,j < m->x.2.2 j < 4294967296
 v':vF BW x.2.2 m % 2 ^ x.1=0
 e':a=x.2.1+b*vF BW x.2.2 m
def DdP (a b m:Nat) (x:R1):Prop:=(∀j,j < m->x.2 j < 4294967296)/\x.1 < b/\a=x.1+b*vF BW x.2 m
def ddR (m a d:Nat) (i:Int) (r:Nat->List AV):St:={env:=[(0,ao BW a),(7,.msl 21 1 0 m),(8,ao BW d),(9,.int .i64 i)],objs:=[(21,.arr 1 m r)]}
theorem Aa {m a d:Nat} {i:Int} {r r':Nat->List AV} (h:r=r'):ddR m a d i r=ddR m a d i r':=by rw [h]
def ddS (b m:Nat) (x:R8):St:=ddR m x.2.1 (b*2 ^ x.1 / 2) ((x.1:Int) - 1) λj=>[.int .u32 (x.2.2 j:Int)]
def ddO (m:Nat) (x:R1) (k:Ex->St->Res):Res:=k (.exit 0) {env:=[(0,ao BW x.1),(7,.msl 21 1 0 m)],objs:=[(21,.arr 1 m λj=>[.int .u32 (x.2 j:Int)])]}
theorem z9 {b k:Nat} (h:0 < k):b*2 ^ k / 2=b*2 ^ (k - 1):=by
 obtain ⟨j,rfl⟩:∃j,k=j+1:=⟨k - 1,by omega⟩
 rw [Nat.pow_succ,<-Nat.mul_assoc,Nat.mul_div_cancel _ (by decide)];rfl
theorem AK {b k:Nat} (h:0 < k):b*2 ^ k / 2 / 2=b*2 ^ (k - 1) / 2:=by rw [z9 h]
section
variable {a b m:Nat} {x:R8} (hx:DdI a b m x)
include hx
theorem D6:dl BW (b*2 ^ x.1 / 2)<=1000:=Nat.le_trans hx.b' (by decide)
theorem CQ (h:decide ((x.1:Int) - 1≥0)=true):IntKind.wrap .i64 (Int.tdiv ((x.1:Int) - 1) 32)=(((x.1 - 1) / 32:Nat):Int):=by
 have:=fW h;have:=hx.i'
 rw [show (x.1:Int) - 1=((x.1 - 1:Nat):Int) by omega,show Int.tdiv ((x.1 - 1:Nat):Int) 32=(((x.1 - 1) / 32:Nat):Int) from rfl,wrap_i64 (by omega) (by omega)]
theorem AJ (h:0 < x.1):(x.1 - 1) / 32 < m:=by have:=hx.m';omega
theorem D3 (h:decide ((x.1:Int) - 1≥0)=true):within (IntKind.wrap .i64 (Int.tdiv ((x.1:Int) - 1) 32)) m=true:=by
 rw [CQ hx h];exact ag (AJ hx (fW h))
theorem D7 (h:decide ((x.1:Int) - 1≥0)=true):Nat.blt (0+Int.toNat (IntKind.wrap .i64 (Int.tdiv ((x.1:Int) - 1) 32))) m=true:=by
 rw [CQ hx h];exact eI (show 0+(x.1 - 1) / 32 < m by have:=AJ hx (fW h);omega)
theorem D5 (h:0 < x.1):IntKind.wrap .u64 (Int.tmod ((x.1:Int) - 1) 32)=(((x.1 - 1) % 32:Nat):Int):=by
 rw [show (x.1:Int) - 1=((x.1 - 1:Nat):Int) by omega]
 exact w64 (x:=(x.1 - 1) % 32) (by omega)
theorem GV (h:decide ((x.1:Int) - 1≥0)=true):decide (0<=IntKind.wrap .u64 (Int.tmod ((x.1:Int) - 1) 32))=true:=by
 rw [D5 hx (fW h)];exact decide_eq_true (by omega)
theorem GR (h:0 < x.1):∃s,x.2.2 ((x.1 - 1) / 32)=2 ^ ((x.1 - 1) % 32+1)*s/\2 ^ ((x.1 - 1) % 32+1)*s+2 ^ ((x.1 - 1) % 32+1)<=4294967296:=by
 have e:=z5 (b:=BW) (g:=x.2.2) (by decide) hx.d' _ (AJ hx h)
 have ev:=Nat.div_add_mod (vF BW x.2.2 m) (2 ^ x.1)
 rw [hx.v',Nat.add_zero] at ev
 generalize vF BW x.2.2 m / 2 ^ x.1=t at ev
 have h1:x.1=32*((x.1 - 1) / 32)+((x.1 - 1) % 32+1):=by omega
 have e2:vF BW x.2.2 m / BW ^ ((x.1 - 1) / 32)=2 ^ ((x.1 - 1) % 32+1)*t:=by
  rw [<-ev,show BW=2 ^ 32 from rfl,<-Nat.pow_mul]
  conv=>lhs;lhs;lhs;rw [h1,Nat.pow_add]
  rw [Nat.mul_assoc,Nat.mul_div_cancel_left _ (Nat.pow_pos (by decide))]
 unfold dg at e
 rw [e2] at e
 have e3:BW=2 ^ ((x.1 - 1) % 32+1)*2 ^ (31 - (x.1 - 1) % 32):=by
  rw [<-Nat.pow_add,show (x.1 - 1) % 32+1+(31 - (x.1 - 1) % 32)=32 by omega]
 rw [e3,Nat.mul_mod_mul_left] at e
 refine ⟨t % 2 ^ (31 - (x.1 - 1) % 32),e.symm,?_⟩
 have h2:=Nat.mod_lt t (show 0 < 2 ^ (31 - (x.1 - 1) % 32) from Nat.pow_pos (by decide))
 have h3:2 ^ ((x.1 - 1) % 32+1)*(t % 2 ^ (31 - (x.1 - 1) % 32)+1)<=2 ^ ((x.1 - 1) % 32+1)*2 ^ (31 - (x.1 - 1) % 32):=Nat.mul_le_mul_left _ h2
 rw [<-e3,Nat.mul_add,Nat.mul_one] at h3
 exact h3
theorem D4 (h:0 < x.1):x.2.2 ((x.1 - 1) / 32)+2 ^ ((x.1 - 1) % 32) < 4294967296/\x.2.2 ((x.1 - 1) / 32) ||| 2 ^ ((x.1 - 1) % 32)=x.2.2 ((x.1 - 1) / 32)+2 ^ ((x.1 - 1) % 32):=by
 obtain ⟨s,h1,h2⟩:=GR hx h
 have h3:2 ^ ((x.1 - 1) % 32) < 2 ^ ((x.1 - 1) % 32+1):=Nat.pow_lt_pow_right (by decide) (by omega)
 rw [h1]
 exact ⟨by omega,sY h3⟩
theorem GS (h:0 < x.1):IntKind.wrap .u32 ((BitVec.toNat (BitVec.ofInt (IntKind.bits .u32) ((x.2.2 (0+Int.toNat (((x.1 - 1) / 32:Nat):Int)):Nat):Int) ||| BitVec.ofInt (IntKind.bits .u32) (IntKind.wrap .u32 (1*2 ^ min (Int.toNat (IntKind.wrap .u64 (Int.tmod ((x.1:Int) - 1) 32))) (IntKind.bits .u32)))):Nat):Int)=((x.2.2 (0+(x.1 - 1) / 32)+2 ^ ((x.1 - 1) % 32):Nat):Int):=by
 have ht:=D4 hx h
 have hp:2 ^ ((x.1 - 1) % 32) < 4294967296:=by omega
 rw [D5 hx h]
 show IntKind.wrap .u32 ((BitVec.toNat (BitVec.ofInt 32 ((x.2.2 (0+(x.1 - 1) / 32):Nat):Int) ||| BitVec.ofInt 32 (IntKind.wrap .u32 (1*2 ^ min ((x.1 - 1) % 32) 32))):Nat):Int)=_
 simp only [Nat.zero_add]
 rw [Nat.min_eq_left (by omega),Int.one_mul,show (2:Int) ^ ((x.1 - 1) % 32)=((2 ^ ((x.1 - 1) % 32):Nat):Int) by rw [Int.natCast_pow];rfl,w32 hp,xG 32 (x.2.2 ((x.1 - 1) / 32)) (2 ^ ((x.1 - 1) % 32)) (Nat.lt_of_le_of_lt (Nat.le_add_right _ _) ht.1) hp,ht.2]
 exact w32 ht.1
theorem GX (h:0 < x.1) (hle:b*2 ^ x.1 / 2<=x.2.1):DdI a b m (x.1 - 1,x.2.1 - b*2 ^ x.1 / 2,bc x.2.2 (0+(x.1 - 1) / 32) (x.2.2 (0+(x.1 - 1) / 32)+2 ^ ((x.1 - 1) % 32))):=by
 have ht:=D4 hx h
 have hq:=AJ hx h
 have hh:=hx.h'
 have e2:b*2 ^ x.1=2*(b*2 ^ (x.1 - 1)):=by
  conv=>lhs;rw [show x.1=x.1 - 1+1 by omega,Nat.pow_succ,<-Nat.mul_assoc,Nat.mul_comm]
 have hp:=z9 (b:=b) h
 have u:=p8 (b:=BW) (g:=x.2.2) (i:=(x.1 - 1) / 32) (x:=x.2.2 ((x.1 - 1) / 32)+2 ^ ((x.1 - 1) % 32)) hq
 have e3:2 ^ ((x.1 - 1) % 32)*BW ^ ((x.1 - 1) / 32)=2 ^ (x.1 - 1):=by
  rw [show BW=2 ^ 32 from rfl,<-Nat.pow_mul,<-Nat.pow_add];congr 1;omega
 rw [Nat.add_mul,e3] at u
 have u:vF BW (bc x.2.2 ((x.1 - 1) / 32) (x.2.2 ((x.1 - 1) / 32)+2 ^ ((x.1 - 1) % 32))) m=vF BW x.2.2 m+2 ^ (x.1 - 1):=by omega
 rw [Nat.zero_add]
 refine ⟨by show x.1 - 1<=_;have:=hx.i';omega,Nat.le_trans (eX bw (Nat.sub_le _ _)) hx.l',?_,by show x.1 - 1<=_;have:=hx.m';omega,?_,λj hj=>?_,?_,?_⟩
 ·show dl BW (b*2 ^ (x.1 - 1) / 2)<=900
  rw [<-AK h]
  exact Nat.le_trans (eX bw (Nat.div_le_self _ _)) hx.b'
 ·show x.2.1 - b*2 ^ x.1 / 2 < b*2 ^ (x.1 - 1)
  rw [hp];rw [hp] at hle;omega
 ·show bc _ _ _ j < _
  by_cases e:j=(x.1 - 1) / 32
  ·rw [e,bC];exact ht.1
  ·rw [aW _ _ e];exact hx.d' j hj
 ·show vF BW (bc _ _ _) m % 2 ^ (x.1 - 1)=0
  rw [u,Nat.add_mod_right]
  have ev:=Nat.div_add_mod (vF BW x.2.2 m) (2 ^ x.1)
  rw [hx.v',Nat.add_zero,show x.1=x.1 - 1+1 by omega,Nat.pow_succ,Nat.mul_assoc] at ev
  rw [<-ev,Nat.mul_mod_right]
 ·show a=x.2.1 - b*2 ^ x.1 / 2+b*vF BW (bc _ _ _) m
  have e:=hx.e'
  rw [u,Nat.mul_add,hp];rw [hp] at hle;omega
theorem GW (h:0 < x.1) (hlt:x.2.1 < b*2 ^ x.1 / 2):DdI a b m (x.1 - 1,x.2.1,x.2.2):=by
 refine ⟨by show x.1 - 1<=_;have:=hx.i';omega,hx.l',?_,by show x.1 - 1<=_;have:=hx.m';omega,?_,hx.d',?_,hx.e'⟩
 ·show dl BW (b*2 ^ (x.1 - 1) / 2)<=900
  rw [<-AK h]
  exact Nat.le_trans (eX bw (Nat.div_le_self _ _)) hx.b'
 ·show x.2.1 < b*2 ^ (x.1 - 1)
  rw [z9 h] at hlt;exact hlt
 ·show vF BW x.2.2 m % 2 ^ (x.1 - 1)=0
  have ev:=Nat.div_add_mod (vF BW x.2.2 m) (2 ^ x.1)
  rw [hx.v',Nat.add_zero,show x.1=x.1 - 1+1 by omega,Nat.pow_succ,Nat.mul_assoc] at ev
  rw [<-ev,Nat.mul_mod_right]
theorem GU (h:decide ((x.1:Int) - 1≥0)=false):DdP a b m (x.2.1,x.2.2):=by
 have h0:x.1=0:=by have:=of_decide_eq_false h;omega
 have hh:=hx.h'
 rw [h0,Nat.pow_zero,Nat.mul_one] at hh
 exact ⟨hx.d',hh,hx.e'⟩
end
theorem mL (a b m:Nat):∃ (u:St->Bool) (z:St->R1),(∀x,DdI a b m x->bq u z (ddS b m x) (DdP a b m))/\∀L:List (List Nat×Orc),aE (V0.run [AG,tC,zB,zC,vM,ig] 2 [] L [] gL) gL [1,1,1,1,1,0,1,0] (mkO u z (ddO m)):=
 aQ (Lf:=λL=>L) (ddS b m) (DdI a b m) (λx=>x.1) (ddO m) (DdP a b m) (by kernel_rfl)
  (λx hx=>.b (decide ((↑x.1:Int) - 1≥0)) (λh1=>
   .call (mN (v:=x.2.1) (w:=b*2 ^ x.1 / 2) (Nat.le_trans hx.l' (by decide))) λr2 q2=>
   .b (decide (r2≥0)) (λh3=>
    .call (ju (v:=x.2.1) (w:=b*2 ^ x.1 / 2) (Nat.le_trans hx.l' (by decide)) (xS (q2 _ _ rfl) h3)) λr4 q4=>
    .n (c:=within (IntKind.wrap IntKind.i64 (Int.tdiv ((↑x.1:Int) - 1) 32)) m) (D3 hx h1) (
    .n (c:=Nat.blt (0+Int.toNat (IntKind.wrap IntKind.i64 (Int.tdiv ((↑x.1:Int) - 1) 32))) m) (D7 hx h1) (
    .n (c:=decide (0<=IntKind.wrap IntKind.u64 (Int.tmod ((↑x.1:Int) - 1) 32))) (GV hx h1) (
    .n (c:=within (IntKind.wrap IntKind.i64 (Int.tdiv ((↑x.1:Int) - 1) 32)) m) (D3 hx h1) (
    .n (c:=Nat.blt (0+Int.toNat (IntKind.wrap IntKind.i64 (Int.tdiv ((↑x.1:Int) - 1) 32))) m) (D7 hx h1) (
    .call (n9 (v:=b*2 ^ x.1 / 2) (D6 hx)) λr5 q5=>
    .go {env:=[(0,ao BW r4),(7,.msl 21 1 0 m),(8,ao BW r5),(9,.int .i64 (IntKind.wrap IntKind.i64 ((↑x.1:Int) - 1 - 1)))],objs:=[(21,.arr 1 m λj=>bif Nat.beq j (0+Int.toNat (IntKind.wrap IntKind.i64 (Int.tdiv ((↑x.1:Int) - 1) 32))) then [.int .u32 (IntKind.wrap IntKind.u32 (↑(BitVec.toNat (BitVec.ofInt (IntKind.bits IntKind.u32) (↑(x.2.2 (0+Int.toNat (IntKind.wrap IntKind.i64 (Int.tdiv ((↑x.1:Int) - 1) 32)))):Int) ||| BitVec.ofInt (IntKind.bits IntKind.u32) (IntKind.wrap IntKind.u32 (1*2 ^ min (Int.toNat (IntKind.wrap IntKind.u64 (Int.tmod ((↑x.1:Int) - 1) 32))) (IntKind.bits IntKind.u32))))):Int))] else [.int .u32 (↑(x.2.2 j):Int)])]} (x.1 - 1,x.2.1 - b*2 ^ x.1 / 2,bc x.2.2 (0+(x.1 - 1) / 32) (x.2.2 (0+(x.1 - 1) / 32)+2 ^ ((x.1 - 1) % 32))) (GX hx (fW h1) (xS (q2 _ _ rfl) h3)) (by have:=fW h1;show x.1 - 1 < x.1;omega) (by rw [q4 _ _ rfl,q5 _ rfl,AK (fW h1),CQ hx h1,sR (fW h1) (by have:=hx.i';omega)];exact Aa (ck _ _ _ _ (GS hx (fW h1)))))))))) λh3=>
   .call (n9 (v:=b*2 ^ x.1 / 2) (D6 hx)) λr6 q6=>
   .go {env:=[(0,ao BW x.2.1),(7,.msl 21 1 0 m),(8,ao BW r6),(9,.int .i64 (IntKind.wrap IntKind.i64 ((↑x.1:Int) - 1 - 1)))],objs:=[(21,.arr 1 m λj=>[.int .u32 (↑(x.2.2 j):Int)])]} (x.1 - 1,x.2.1,x.2.2) (GW hx (fW h1) (yD (q2 _ _ rfl) h3)) (by have:=fW h1;show x.1 - 1 < x.1;omega) (by rw [q6 _ rfl,AK (fW h1),sR (fW h1) (by have:=hx.i';omega)];rfl)) λh1=>
  .fi (x.2.1,x.2.2) (GU hx h1))
  (λv L k kn=>by kernel_rfl)
theorem iT (a:Nat):dl 2 a<=32*dl BW a:=by
 refine eh two ?_
 rw [Nat.pow_mul]
 exact lM (v:=a) bw
section
variable {a b:Nat} {r1 r2:Nat} (q1:rU BW (λv x=>x=dl 2 v) [ao BW a] [] r1) (q2:rU BW (λv x=>x=dl 2 v) [ao BW b] [] r2)
include q1 q2
theorem Cq:r1=dl 2 a/\r2=dl 2 b:=⟨q1 a rfl,q2 b rfl⟩
theorem Cn (h1:dl BW a<=100) (h2:dl BW b<=100) (h3:decide (IntKind.wrap .i64 ((r1:Int) - (r2:Int)) < 0)=true):((0,a):Nat×Nat)=(a / b,a % b):=by
 obtain ⟨e1,e2⟩:=Cq q1 q2
 have h3:=of_decide_eq_true h3
 have a1:=iT a;have a2:=iT b
 rw [wrap_i64 (by omega) (by omega)] at h3
 have:a < b:=k9 two (by omega)
 rw [Nat.div_eq_of_lt this,Nat.mod_eq_of_lt this]
theorem vQ (h1:dl BW a<=100) (h2:dl BW b<=100) (h3:decide (IntKind.wrap .i64 ((r1:Int) - (r2:Int)) < 0)=false):dl 2 b<=dl 2 a:=by
 obtain ⟨e1,e2⟩:=Cq q1 q2
 have h3:=of_decide_eq_false h3
 have a1:=iT a;have a2:=iT b
 rw [wrap_i64 (by omega) (by omega)] at h3
 omega
theorem AH (h1:dl BW a<=100) (h2:dl BW b<=100) (h3:decide (IntKind.wrap .i64 ((r1:Int) - (r2:Int)) < 0)=false):IntKind.wrap .i64 ((r1:Int) - (r2:Int))=((dl 2 a - dl 2 b:Nat):Int):=by
 have hg:=vQ q1 q2 h1 h2 h3
 obtain ⟨e1,e2⟩:=Cq q1 q2
 have a1:=iT a;have a2:=iT b
 rw [wrap_i64 (by omega) (by omega)];omega
theorem Co (h1:dl BW a<=100) (h2:dl BW b<=100) (h0:0 < b) (h3:decide (IntKind.wrap .i64 ((r1:Int) - (r2:Int)) < 0)=false):aR wd eg φNW rSh [ao BW b,.int .i64 (IntKind.wrap .i64 ((r1:Int) - (r2:Int)))] []:=by
 rw [AH q1 q2 h1 h2 h3]
 have a1:=iT a
 have:dl BW b≠0:=λe=>by have:=(fw bw).1 e;omega
 exact ru (by omega) (by omega) (by omega)
theorem Cp (h1:dl BW a<=100) (h2:dl BW b<=100) (h3:decide (IntKind.wrap .i64 ((r1:Int) - (r2:Int)) < 0)=false) {r4:Nat} (q4:rSh [ao BW b,.int .i64 (IntKind.wrap .i64 ((r1:Int) - (r2:Int)))] [] r4):r4=b*2 ^ (dl 2 a - dl 2 b+1) / 2:=by
 rw [z9 (by omega),q4 b (dl 2 a - dl 2 b) (by rw [AH q1 q2 h1 h2 h3])];rfl
end
theorem xu {a b:Nat} (h:dl BW a<=100):dl 2 a - dl 2 b<=3200:=by have:=iT a;omega
theorem zK {n:Nat} (h:n<=3200):IntKind.wrap .i64 (IntKind.wrap .i64 (Int.tdiv (n:Int) 32)+1)=((n / 32+1:Nat):Int):=by
 rw [show Int.tdiv (n:Int) 32=((n / 32:Nat):Int) from rfl,wrap_i64 (x:=((n / 32:Nat):Int)) (by omega) (by omega),aZ (by omega)]
theorem zJ {n:Nat} (h:n<=3200):(decide (IntKind.wrap .i64 (IntKind.wrap .i64 (Int.tdiv (n:Int) 32)+1)=IntKind.wrap .i64 (IntKind.wrap .i64 (Int.tdiv (n:Int) 32)+1))&&(decide (0<=IntKind.wrap .i64 (IntKind.wrap .i64 (Int.tdiv (n:Int) 32)+1))&&(roomy 4 (Int.toNat (IntKind.wrap .i64 (IntKind.wrap .i64 (Int.tdiv (n:Int) 32)+1)))&&decide (IntKind.wrap .i64 (IntKind.wrap .i64 (Int.tdiv (n:Int) 32)+1)<=140737488355328))))=true:=by
 rw [zK h]
 exact mB (by omega)
theorem Cs (n:Nat):(n:Int)=((n+1:Nat):Int) - 1:=by omega
theorem Cz {a b:Nat} (h1:dl BW a<=100) (h0:0 < b) (hg:dl 2 b<=dl 2 a):DdI a b ((dl 2 a - dl 2 b) / 32+1) (dl 2 a - dl 2 b+1,a,λ_=>0):=by
 have a1:=iT a
 have b1:b < 2 ^ dl 2 b:=lM two
 have b2:2 ^ (dl 2 b - 1)<=b:=Dc two (by omega)
 have b3:dl 2 b≠0:=λe=>by have:=(fw two).1 e;omega
 have c1:a < 2 ^ dl 2 a:=lM two
 refine ⟨by show dl 2 a - dl 2 b+1<=_;omega,by show dl BW a<=_;omega,?_,by show dl 2 a - dl 2 b+1<=_;omega,?_,λ_ _=>(by decide:(0:Nat) < 4294967296),?_,?_⟩
 ·show dl BW (b*2 ^ (dl 2 a - dl 2 b+1) / 2)<=900
  rw [z9 (by omega),Nat.add_sub_cancel]
  refine Nat.le_trans (eh bw (n:=dl BW a) ?_) (by omega)
  have:b*2 ^ (dl 2 a - dl 2 b) < 2 ^ dl 2 b*2 ^ (dl 2 a - dl 2 b):=Nat.mul_lt_mul_of_pos_right b1 (Nat.pow_pos (by decide))
  rw [<-Nat.pow_add,show dl 2 b+(dl 2 a - dl 2 b)=dl 2 a by omega] at this
  exact Nat.lt_of_lt_of_le this (by rw [show BW=2 ^ 32 from rfl,<-Nat.pow_mul];exact Nat.pow_le_pow_right (by decide) a1)
 ·show a < b*2 ^ (dl 2 a - dl 2 b+1)
  have:2 ^ (dl 2 b - 1)*2 ^ (dl 2 a - dl 2 b+1)<=b*2 ^ (dl 2 a - dl 2 b+1):=Nat.mul_le_mul_right _ b2
  rw [<-Nat.pow_add,show dl 2 b - 1+(dl 2 a - dl 2 b+1)=dl 2 a by omega] at this
  omega
 ·show vF BW (λ_=>0) _ % _=0
  rw [fH λ_ _=>rfl,Nat.zero_mod]
 ·show a=a+b*vF BW (λ_=>0) _
  rw [fH λ_ _=>rfl,Nat.mul_zero,Nat.add_zero]
theorem zM {a b m r6:Nat} {x:R1} (q:DdP a b m x) (h:r6=vF BW (λj=>x.2 (0+j)) m):(r6,x.1)=(a / b,a % b):=by
 rw [cu (g:=λj=>x.2 (0+j)) (h:=x.2) λj _=>by rw [Nat.zero_add]] at h
 obtain ⟨_,h1,h2⟩:=q
 have hb:0 < b:=by omega
 rw [<-h] at h2
 have e1:a / b=r6:=by rw [h2,Nat.add_comm,Nat.mul_add_div hb,Nat.div_eq_of_lt h1,Nat.add_zero]
 have e2:a % b=x.1:=by rw [h2,Nat.add_comm,Nat.mul_add_mod,Nat.mod_eq_of_lt h1]
 rw [e1,e2]
theorem fp {a b:Nat} (h1:dl BW a<=100) (h2:dl BW b<=100) (h0:0 < b):aR wd gL φ2W (rB BW λa b x=>x=(a / b,a % b)) [ao BW a,ao BW b] []:=by
 obtain ⟨u,z,hu,l1⟩:=mL a b ((dl 2 a - dl 2 b) / 32+1)
 exact lb (V:=V0) [AG,tC,zB,zC,vM,ig] 2 (p:=[1,1,1,1,1,0,1,0]) l1 (.call (oc (v:=a) (by omega)) λr1 q1=>
  .call (oc (v:=b) (by omega)) λr2 q2=>
  .b (decide (IntKind.wrap IntKind.i64 ((↑r1:Int) - (↑r2:Int)) < 0)) (λh3=>
   .t (r:=(.tup [.sl .fit 0 0 λx=>[],ao BW a],[])) (0,a) (rB.mk bw (Cn q1 q2 h1 h2 h3)) (Tr.tup (.cons fI (.cons (.same rfl) .nil)))) λh3=>
  .n (c:=decide (IntKind.wrap IntKind.i64 (IntKind.wrap IntKind.i64 (Int.tdiv (IntKind.wrap IntKind.i64 ((↑r1:Int) - (↑r2:Int))) 32)+1)=IntKind.wrap IntKind.i64 (IntKind.wrap IntKind.i64 (Int.tdiv (IntKind.wrap IntKind.i64 ((↑r1:Int) - (↑r2:Int))) 32)+1))&&(decide (0<=IntKind.wrap IntKind.i64 (IntKind.wrap IntKind.i64 (Int.tdiv (IntKind.wrap IntKind.i64 ((↑r1:Int) - (↑r2:Int))) 32)+1))&&(roomy 4 (Int.toNat (IntKind.wrap IntKind.i64 (IntKind.wrap IntKind.i64 (Int.tdiv (IntKind.wrap IntKind.i64 ((↑r1:Int) - (↑r2:Int))) 32)+1)))&&decide (IntKind.wrap IntKind.i64 (IntKind.wrap IntKind.i64 (Int.tdiv (IntKind.wrap IntKind.i64 ((↑r1:Int) - (↑r2:Int))) 32)+1)<=140737488355328)))) (by rw [AH q1 q2 h1 h2 h3];exact zJ (xu h1)) (
  .call (Co q1 q2 h1 h2 h0 h3) λr4 q4=>
  .lp (s:={env:=[(0,ao BW a),(7,.msl 21 1 0 (Int.toNat (IntKind.wrap IntKind.i64 (IntKind.wrap IntKind.i64 (Int.tdiv (IntKind.wrap IntKind.i64 ((↑r1:Int) - (↑r2:Int))) 32)+1)))),(8,ao BW r4),(9,.int .i64 (IntKind.wrap IntKind.i64 ((↑r1:Int) - (↑r2:Int))))],objs:=[(21,.arr 1 (Int.toNat (IntKind.wrap IntKind.i64 (IntKind.wrap IntKind.i64 (Int.tdiv (IntKind.wrap IntKind.i64 ((↑r1:Int) - (↑r2:Int))) 32)+1))) λx=>[.int .u32 0])]}) (Q:=λx:R1=>DdP a b ((dl 2 a - dl 2 b) / 32+1) x) (by rw [AH q1 q2 h1 h2 h3,zK (xu h1),Cp q1 q2 h1 h2 h3 q4,Cs (dl 2 a - dl 2 b)];exact hu (dl 2 a - dl 2 b+1,a,λ_=>0) (Cz h1 h0 (vQ q1 q2 h1 h2 h3))) λr5 q5=>
  .n (c:=Nat.beq 1 1&&Nat.ble (0+((dl 2 a - dl 2 b) / 32+1)) ((dl 2 a - dl 2 b) / 32+1)) (ix _ _) (
  .call (ef (n:=(dl 2 a - dl 2 b) / 32+1) (g:=λj=>r5.2 (0+j)) ⟨by have:=xu (b:=b) h1;omega,λj hj=>by show r5.2 (0+j) < 4294967296;rw [Nat.zero_add];exact q5.1 j hj⟩) λr6 q6=>
  .r (r6,r5.1) (rB.mk bw (zM q5 (q6.at (n:=(dl 2 a - dl 2 b) / 32+1) (g:=λj=>r5.2 (0+j)) rfl)))))) (by kernel_rfl)
noncomputable abbrev pI:Ent:=bN wd gL φ2W (rB BW λa b x=>x=(a / b,a % b))
end Go.WE

namespace Go.WE
open Go Go.Ab Go.Proofs
set_option linter.unusedSectionVars false
structure GwI (G:Nat) (x:Nat×Nat):Prop where
 a':dl BW x.1<=100
 b':dl BW x.2<=100
 g':Nat.gcd x.1 x.2=G
theorem AE {a:Nat} (h:decide (((dl BW a:Nat):Int) > 0)=true):0 < a:=by
 have:=of_decide_eq_true h
 rcases Nat.eq_zero_or_pos a with e | e
 ·rw [e,lH] at this;omega
 ·exact e
theorem DI {a b:Nat} {r:Nat×Nat} (q:rB BW (λa b x=>x=(a / b,a % b)) [ao BW b,ao BW a] [] r):r=(b / a,b % a):=q b a rfl
theorem DJ {a b:Nat} (h:decide (((dl BW a:Nat):Int) > 0)=true) {r:Nat×Nat} (q:rB BW (λa b x=>x=(a / b,a % b)) [ao BW b,ao BW a] [] r):r.2 < a:=by
 rw [DI q];exact Nat.mod_lt _ (AE h)
theorem Gj {G:Nat} {x:Nat×Nat} (hx:GwI G x) (h:decide (((dl BW x.1:Nat):Int) > 0)=true) {r:Nat×Nat} (q:rB BW (λa b x=>x=(a / b,a % b)) [ao BW x.2,ao BW x.1] [] r):GwI G (r.2,x.1):=by
 refine ⟨Nat.le_trans (eX bw (Nat.le_of_lt (DJ h q))) hx.a',hx.a',?_⟩
 show Nat.gcd r.2 x.1=G
 rw [DI q,<-hx.g',Nat.gcd_rec x.1 x.2]
theorem Gi {G:Nat} {x:Nat×Nat} (hx:GwI G x) (h:decide (((dl BW x.1:Nat):Int) > 0)=false):x.2=G:=by
 have h1:=of_decide_eq_false h
 have:x.1=0:=(fw bw).1 (by omega)
 rw [<-hx.g',this,Nat.gcd_zero_left]
theorem xg (G:Nat):∃ (u:St->Bool) (z:St->Nat),(∀x:Nat×Nat,GwI G x->bq u z {env:=[(0,ao BW x.1),(1,ao BW x.2)],objs:=[]} λr=>r=G)/\∀L:List (List Nat×Orc),aE (V0.run [pI] 2 [] L [] iM) iM [1,0,0] (mkO u z λ(x:Nat) k=>k (.exit 0) {env:=[(1,ao BW x)],objs:=[]}):=
 aQ (Lf:=λL=>L) (λx:Nat×Nat=>{env:=[(0,ao BW x.1),(1,ao BW x.2)],objs:=[]}) (GwI G) (λx=>x.1) (λ(x:Nat) k=>k (.exit 0) {env:=[(1,ao BW x)],objs:=[]}) (λr=>r=G) (by kernel_rfl)
  (λx hx=>.b (decide ((↑(dl BW x.1):Int) > 0)) (λh1=>
   .call (fp (a:=x.2) (b:=x.1) hx.b' hx.a' (AE h1)) λr2 q2=>
   .go {env:=[(0,ao BW r2.2),(1,ao BW x.1)],objs:=[]} (r2.2,x.1) (Gj hx h1 q2) (by have:=DJ h1 q2;exact this) rfl) λh1=>
  .fi x.2 (Gi hx h1))
  (λv L k kn=>by kernel_rfl)
theorem oa {a b:Nat} (h1:dl BW a<=100) (h2:dl BW b<=100):aR wd iM φNW (rB BW λa b x=>x=Nat.gcd a b) [ao BW a,ao BW b] []:=by
 obtain ⟨u,z,hu,l1⟩:=xg (Nat.gcd a b)
 exact lb (V:=V0) [pI] 2 (p:=[1,0,0]) l1 (.lp (hu (a,b) ⟨h1,h2,rfl⟩) λx hx=>.r x (rB.mk bw hx)) (by kernel_rfl)
noncomputable abbrev Gq:Ent:=bN wd iM φNW (rB BW λa b x=>x=Nat.gcd a b)
theorem tI {s:Nat} (h0:0 < s) (h:s < 4294967296):dl BW s=1:=by
 have h1:=eh (b:=BW) (v:=s) (n:=1) bw (by rw [Nat.pow_one];exact h)
 have h2:dl BW s≠0:=λe=>by have:=(fw bw).1 e;omega
 omega
theorem qa {s:Nat} (h0:0 < s) (h:s < 4294967296):gV (SC s) (ao BW s):=by
 refine mi bw (n:=1) (λ_=>s) ⟨λ_ _=>h,λ_=>by show s≠0;omega⟩ (λj hj=>?_) (by show 0+s*BW ^ 0=s;rw [Nat.pow_zero];omega)
 obtain rfl:j=0:=by omega
 rfl
theorem sC {τ:Type} {f:FuncId} {φ:τ->AV×List AO} {F:Nat->Nat->τ->Prop} {v s:Nat} (h0:0 < s) (h:s < 4294967296) (hd:aR wd f φ (rB BW F) [ao BW v,ao BW s] []):aR wd f φ (λl _ x=>∀v,l=[ao BW v,SC s]->F v s x) [ao BW v,SC s] []:=by
 obtain ⟨x,hx,hc⟩:=hd
 refine ⟨x,λv' e=>?_,Ct.args hc rfl rfl λi u u' hu hu' c w hr=>?_⟩
 ·injection e with e _
  rw [<-bJ bw e];exact hx v s rfl
 ·match i with
  | 0=>cases hu;cases hu';exact hr
  | 1=>cases hu;cases hu';exact (qa h0 h).2 _ _ hr
  | i+2=>cases hu
abbrev yT (l:List AV) (_:List AO) (x:Nat×Nat):Prop:=∀v,l=[ao BW v,SC 1000000000]->x=(v / 1000000000,v % 1000000000)
theorem zH {v:Nat} (h:dl BW v<=100):aR wd gL φ2W yT [ao BW v,SC 1000000000] []:=
 (sC (F:=λa b x=>x=(a / b,a % b)) (by decide) (by decide) (fp h (by rw [tI (by decide) (by decide)];decide) (by decide))).mono λx hx v e=>hx v e
abbrev ShJ (v:Nat):Prop:=dl BW v<=100
structure ShI (v:Nat) (x:Nat×Nat):Prop where
 k':x.2<=9
 l':dl BW v<=100
 d':9*x.1+x.2<=dl 10 v
abbrev ShP (v t:Nat) (o:Txt×Nat):Prop:=o.1=dcs v (min (9*(t+1)) (dl 10 v))/\o.2=v / 10 ^ (9*(t+1))
theorem EN {v t:Nat} (hv:dl BW v<=100):dl BW (v / 10 ^ (9*t))<=100:=Nat.le_trans (eX bw (Nat.div_le_self _ _)) hv
theorem CK {v:Nat} (h:dl BW v<=100):dl 10 v<=1000:=by
 refine Nat.le_trans (eh (n:=10*dl BW v) (by decide) (Nat.lt_of_lt_of_le (lM (v:=v) bw) ?_)) (by omega)
 have:BW ^ dl BW v<=(10 ^ 10) ^ dl BW v:=Nat.pow_le_pow_left (by decide) _
 rw [<-Nat.pow_mul] at this
 exact this
theorem tL {v k:Nat}:v / 10 ^ k=0↔dl 10 v<=k:=by
 constructor
 ·intro h
  refine eh (by decide) ?_
  rcases Nat.lt_or_ge v (10 ^ k) with h1 | h1
  ·exact h1
  ·have:=Nat.div_pos h1 (Nat.pow_pos (by decide));omega
 ·intro h
  exact Nat.div_eq_of_lt (Nat.lt_of_lt_of_le (lM (by decide)) (Nat.pow_le_pow_right (by decide) h))
theorem Dj (v t k:Nat) (hk:k<=9):v / 10 ^ (9*t+k)=v / 10 ^ (9*(t+1))*10 ^ (9 - k)+v / 10 ^ (9*t) % 1000000000 / 10 ^ k:=by
 rw [Nat.pow_add,<-Nat.div_div_eq_div_mul,show 9*(t+1)=9*t+9 by omega,Nat.pow_add,<-Nat.div_div_eq_div_mul]
 generalize v / 10 ^ (9*t)=a
 have e:(1000000000:Nat)=10 ^ k*10 ^ (9 - k):=by rw [<-Nat.pow_add,show k+(9 - k)=9 by omega]
 have e1:=Nat.div_add_mod a 1000000000
 conv=>lhs;rw [<-e1,e,Nat.mul_assoc,Nat.mul_add_div (Nat.pow_pos (by decide)),<-e]
 rw [Nat.mul_comm]
theorem EL (v t:Nat):v / 10 ^ (9*t) / 1000000000=v / 10 ^ (9*(t+1)):=by
 rw [Nat.div_div_eq_div_mul,show (1000000000:Nat)=10 ^ 9 from rfl,<-Nat.pow_add,Nat.mul_succ]
section
variable {v:Nat} {x:Nat×Nat} (hx:ShI v x)
include hx
theorem A5:Nat.ble (List.length (bytesOf 1 (al [.int .u8 0] [(0,.int .u8 (IntKind.wrap .u8 (IntKind.wrap .u64 (48+Int.tmod ((v / 10 ^ (9*x.1) % 1000000000 / 10 ^ x.2:Nat):Int) 10))))]))+List.length (dcs v (9*x.1+x.2))) 4611686018427387904=true:=by
 have:=CK hx.l';have:=hx.d'
 refine Nat.ble_eq_true_of_le ?_
 rw [cB]
 show 1+_<=_
 omega
theorem A7 (h:(bif decide ((x.2:Int) < 9) then bif decide (((dl BW (v / 10 ^ (9*(x.1+1))):Nat):Int) > 0) then true else decide (((v / 10 ^ (9*x.1) % 1000000000 / 10 ^ x.2:Nat):Int) > 0) else false)=true):x.2 < 9/\v / 10 ^ (9*x.1+x.2)≠0:=by
 cases h9:decide ((x.2:Int) < 9) with
 | false=>rw [h9] at h;cases h
 | true=>
  rw [h9,cond_true] at h
  refine ⟨wV h9,?_⟩
  rw [Dj v x.1 x.2 hx.k']
  cases hq:decide (((dl BW (v / 10 ^ (9*(x.1+1))):Nat):Int) > 0) with
  | true=>
   have h1:1*1<=v / 10 ^ (9*(x.1+1))*10 ^ (9 - x.2):=Nat.mul_le_mul (AE hq) (Nat.pow_pos (by decide))
   exact λe=>by rw [(Nat.add_eq_zero_iff.1 e).1] at h1;omega
  | false=>
   rw [hq,cond_false] at h
   have:=CZ h
   exact λe=>by rw [(Nat.add_eq_zero_iff.1 e).2] at this;omega
theorem EW (h:(bif decide ((x.2:Int) < 9) then bif decide (((dl BW (v / 10 ^ (9*(x.1+1))):Nat):Int) > 0) then true else decide (((v / 10 ^ (9*x.1) % 1000000000 / 10 ^ x.2:Nat):Int) > 0) else false)=true):ShI v (x.1,x.2+1):=by
 have hc:=A7 hx h
 have:=hx.d'
 refine ⟨hc.1,hx.l',?_⟩
 show 9*x.1+(x.2+1)<=dl 10 v
 rcases Nat.lt_or_ge (9*x.1+x.2) (dl 10 v) with h1 | h1
 ·omega
 ·exact absurd (tL.2 h1) hc.2
theorem EV (h:x.2 < 9):v / 10 ^ (9*x.1) % 1000000000 / 10 ^ x.2 % 10=dg 10 v (9*x.1+x.2):=by
 rw [<-dg9 v x.1 x.2 h]
 unfold dg
 rw [show B9=10 ^ 9 from rfl,<-Nat.pow_mul]
theorem EI (h:(bif decide ((x.2:Int) < 9) then bif decide (((dl BW (v / 10 ^ (9*(x.1+1))):Nat):Int) > 0) then true else decide (((v / 10 ^ (9*x.1) % 1000000000 / 10 ^ x.2:Nat):Int) > 0) else false)=true):({env:=[(3,.str (bytesOf 1 (al [.int .u8 0] [(0,.int .u8 (IntKind.wrap .u8 (IntKind.wrap .u64 (48+Int.tmod ((v / 10 ^ (9*x.1) % 1000000000 / 10 ^ x.2:Nat):Int) 10))))])++dcs v (9*x.1+x.2))),(4,ao BW (v / 10 ^ (9*(x.1+1)))),(6,.int .u64 (IntKind.wrap .u64 (Int.tdiv ((v / 10 ^ (9*x.1) % 1000000000 / 10 ^ x.2:Nat):Int) 10))),(7,.int .i64 (IntKind.wrap .i64 ((x.2:Int)+1)))],objs:=[]}:St)={env:=[(3,.str (dcs v (9*x.1+(x.2+1)))),(4,ao BW (v / 10 ^ (9*(x.1+1)))),(6,.int .u64 ((v / 10 ^ (9*x.1) % 1000000000 / 10 ^ (x.2+1):Nat):Int)),(7,.int .i64 ((x.2+1:Nat):Int))],objs:=[]}:=by
 have hc:=(A7 hx h).1
 have hm:v / 10 ^ (9*x.1) % 1000000000 / 10 ^ x.2 < 1000000000:=Nat.lt_of_le_of_lt (Nat.div_le_self _ _) (Nat.mod_lt _ (by decide))
 have hd:=mW v (9*x.1+x.2)
 rw [show Int.tmod ((v / 10 ^ (9*x.1) % 1000000000 / 10 ^ x.2:Nat):Int) 10=((v / 10 ^ (9*x.1) % 1000000000 / 10 ^ x.2 % 10:Nat):Int) from rfl,EV hx hc,aZ (by omega)]
 rw [show IntKind.wrap .u64 (Int.tdiv ((v / 10 ^ (9*x.1) % 1000000000 / 10 ^ x.2:Nat):Int) 10)=((v / 10 ^ (9*x.1) % 1000000000 / 10 ^ x.2 / 10:Nat):Int) from w64 (x:=v / 10 ^ (9*x.1) % 1000000000 / 10 ^ x.2 / 10) (Nat.lt_of_le_of_lt (Nat.div_le_self _ _) (by omega)),Nat.div_div_eq_div_mul _ (10 ^ x.2) 10,<-Nat.pow_succ]
 rw [show IntKind.wrap .u8 (IntKind.wrap .u64 (48+((dg 10 v (9*x.1+x.2):Nat):Int)))=((48+dg 10 v (9*x.1+x.2):Nat):Int) by
  simp only [wL]
  show ((48+((dg 10 v (9*x.1+x.2):Nat):Int)) % 18446744073709551616) % 256=_
  omega]
 rfl
theorem ES (h:(bif decide ((x.2:Int) < 9) then bif decide (((dl BW (v / 10 ^ (9*(x.1+1))):Nat):Int) > 0) then true else decide (((v / 10 ^ (9*x.1) % 1000000000 / 10 ^ x.2:Nat):Int) > 0) else false)=false):ShP v x.1 (dcs v (9*x.1+x.2),v / 10 ^ (9*(x.1+1))):=by
 refine ⟨?_,rfl⟩
 show dcs v (9*x.1+x.2)=dcs v (min (9*(x.1+1)) (dl 10 v))
 congr 1
 have hk:=hx.k';have hd:=hx.d'
 cases h9:decide ((x.2:Int) < 9) with
 | false=>
  have:=of_decide_eq_false h9
  omega
 | true=>
  rw [h9,cond_true] at h
  cases hq:decide (((dl BW (v / 10 ^ (9*(x.1+1))):Nat):Int) > 0) with
  | true=>rw [hq,cond_true] at h;cases h
  | false=>
   rw [hq,cond_false] at h
   have h1:=of_decide_eq_false h
   have h2:=of_decide_eq_false hq
   have h3:v / 10 ^ (9*(x.1+1))=0:=(fw bw).1 (by omega)
   have h4:=Dj v x.1 x.2 hk
   rw [h3,Nat.zero_mul] at h4
   have h7:v / 10 ^ (9*x.1) % 1000000000 / 10 ^ x.2=0:=by
    revert h1
    generalize v / 10 ^ (9*x.1) % 1000000000 / 10 ^ x.2=n
    intro h1;omega
   rw [h7] at h4
   have h5:=tL.1 h4
   have h6:=wV h9
   omega
end
def shS (v:Nat) (x:Nat×Nat):St:={env:=[(3,.str (dcs v (9*x.1+x.2))),(4,ao BW (v / 10 ^ (9*(x.1+1)))),(6,.int .u64 ((v / 10 ^ (9*x.1) % 1000000000 / 10 ^ x.2:Nat):Int)),(7,.int .i64 (x.2:Int))],objs:=[]}
def shO (x:Txt×Nat) (k:Ex->St->Res):Res:=k (.exit 2) {env:=[(3,.str x.1),(4,ao BW x.2)],objs:=[]}
noncomputable abbrev TSh:List Ent:=[bN wd gL φ2W yT,xn]
theorem A6 (v:Nat):∃ (u:St->Bool) (z:St->Txt×Nat),(∀x,ShI v x->bq u z (shS v x) (ShP v x.1))/\∀L:List (List Nat×Orc),aE (V0.run TSh 2 [] L [] ma) ma [1,1,1,0,0,0,1,0,1,1,0,1,0] (mkO u z shO):=
 eu (Lf:=λL=>L) (shS v) (ShI v) (λx=>9 - x.2) shO (λx=>ShP v x.1) (by kernel_rfl) (λa b x h hp=>by
   unfold shS at h
   simp only [St.mk.injEq,List.cons.injEq,Prod.mk.injEq,AV.int.injEq,AV.str.injEq,true_and,and_true] at h
   have e1:a.2=b.2:=by omega
   have e2:=congrArg List.length h.1
   rw [cB,cB] at e2
   rw [show b.1=a.1 by omega];exact hp)
  (λx hx=>.b (bif decide ((↑x.2:Int) < 9) then bif decide ((↑(dl BW (v / 10 ^ (9*(x.1+1)))):Int) > 0) then true else decide ((↑(v / 10 ^ (9*x.1) % 1000000000 / 10 ^ x.2):Int) > 0) else false) (λh1=>
   .n (c:=Nat.ble (List.length (bytesOf 1 (al [.int .u8 0] [(0,.int .u8 (IntKind.wrap IntKind.u8 (IntKind.wrap IntKind.u64 (48+Int.tmod (↑(v / 10 ^ (9*x.1) % 1000000000 / 10 ^ x.2):Int) 10))))]))+List.length (dcs v (9*x.1+x.2))) 4611686018427387904) (A5 hx) (
   .nx {env:=[(3,.str (bytesOf 1 (al [.int .u8 0] [(0,.int .u8 (IntKind.wrap IntKind.u8 (IntKind.wrap IntKind.u64 (48+Int.tmod (↑(v / 10 ^ (9*x.1) % 1000000000 / 10 ^ x.2):Int) 10))))])++dcs v (9*x.1+x.2))),(4,.sl .no 1 (dl BW (v / 10 ^ (9*(x.1+1)))) λj=>[.int .u32 (↑(dg BW (v / 10 ^ (9*(x.1+1))) j):Int)]),(6,.int .u64 (IntKind.wrap IntKind.u64 (Int.tdiv (↑(v / 10 ^ (9*x.1) % 1000000000 / 10 ^ x.2):Int) 10))),(7,.int .i64 (IntKind.wrap IntKind.i64 ((↑x.2:Int)+1)))],objs:=[]} (x.1,x.2+1) (EW hx h1) (by have:=A7 hx h1;show 9 - (x.2+1) < 9 - x.2;omega) (λo h=>h) (EI hx h1))) λh1=>
  .fi (dcs v (9*x.1+x.2),v / 10 ^ (9*(x.1+1))) (ES hx h1))
  (λv L k kn=>by kernel_rfl)
def Av (v x:Nat):St:={env:=[(0,ao BW (v / 10 ^ (9*x))),(3,.str (dcs v (min (9*x) (dl 10 v))))],objs:=[]}
def De (x:Txt) (k:Ex->St->Res):Res:=k (.exit 0) {env:=[(3,.str x)],objs:=[]}
section
variable {v t:Nat} {r:Nat×Nat} {r3:Nat}
theorem EK (q:yT [ao BW (v / 10 ^ (9*t)),SC 1000000000] [] r):r.1=v / 10 ^ (9*(t+1)):=by rw [q _ rfl];exact EL v t
theorem EU (q:yT [ao BW (v / 10 ^ (9*t)),SC 1000000000] [] r):aR wd mM φDi rDi [ao BW r.2,.int .i64 0] []:=dY r.2 0
theorem EJ (q:yT [ao BW (v / 10 ^ (9*t)),SC 1000000000] [] r) (q3:rDi [ao BW r.2,.int .i64 0] [] r3):r3=v / 10 ^ (9*t) % 1000000000 / 10 ^ 0:=by
 rw [q3 r.2 0 rfl,q _ rfl]
 unfold dg
 rw [Nat.pow_zero,Nat.div_one]
 simp only [Nat.div_one]
 show v / 10 ^ (9*t) % 1000000000 % BW=v / 10 ^ (9*t) % 1000000000
 exact Nat.mod_eq_of_lt (Nat.lt_trans (Nat.mod_lt _ (by decide)) (by decide))
theorem wi (h:decide (((dl BW (v / 10 ^ (9*t)):Nat):Int) > 0)=true):9*t < dl 10 v:=by
 have h1:=AE h
 rcases Nat.lt_or_ge (9*t) (dl 10 v) with h2 | h2
 ·exact h2
 ·have:=tL.2 h2;omega
theorem EH (hx:ShJ v) (h:decide (((dl BW (v / 10 ^ (9*t)):Nat):Int) > 0)=true):min (9*t) (dl 10 v)=9*t+0:=by have:=wi h;omega
theorem EO (hx:ShJ v) (h:decide (((dl BW (v / 10 ^ (9*t)):Nat):Int) > 0)=true):ShI v (t,0):=⟨Nat.zero_le _,hx,by show 9*t+0<=_;have:=wi h;omega⟩
theorem EM (hx:ShJ v) (h:decide (((dl BW (v / 10 ^ (9*t)):Nat):Int) > 0)=true):dl 10 v - 9*(t+1) < dl 10 v - 9*t:=by have:=wi h;omega
theorem ER (h:decide (((dl BW (v / 10 ^ (9*t)):Nat):Int) > 0)=false):dcs v (min (9*t) (dl 10 v))=dcs v (dl 10 v):=by
 have h1:=of_decide_eq_false h
 have h2:v / 10 ^ (9*t)=0:=(fw bw).1 (by omega)
 have:=tL.1 h2
 rw [Nat.min_eq_right this]
theorem wh (h:(((dl BW v:Nat):Int)==0)=true):[48]=dec v:=by
 have:=eq_of_beq h
 have:v=0:=(fw bw).1 (by omega)
 rw [this]
 unfold dec dl1
 rw [lH,if_pos rfl];rfl
theorem yH (h:(((dl BW v:Nat):Int)==0)=false):v≠0:=λe=>by rw [e,lH] at h;cases h
theorem A8 (v:Nat):({env:=[(0,ao BW v),(3,.str [])],objs:=[]}:St)=Av v 0:=by
 unfold Av
 rw [Nat.mul_zero,Nat.zero_min,Nat.pow_zero,Nat.div_one];rfl
end
theorem n4 {v:Nat} (hv:dl BW v<=100):aR wd ma φTx (rU BW λv x=>x=dec v) [ao BW v] []:=by
 obtain ⟨u2,z2,hin,l2⟩:=A6 v
 obtain ⟨u,z,hu,l1⟩:∃ (u:St->Bool) (z:St->Txt),(∀x,ShJ v->bq u z (Av v x) λx=>x=dcs v (dl 10 v))/\∀g:Orc,aE (V0.run TSh 2 [] [([1,1,1,0,0],g),([1,1,1,0,0,0,1,0,1,1,0,1,0],mkO u2 z2 shO)] [] ma) ma [1,1,1,0,0] (mkO u z De):=
  aQ (Lf:=λg=>[([1,1,1,0,0],g),([1,1,1,0,0,0,1,0,1,1,0,1,0],mkO u2 z2 shO)]) (Av v) (λ_=>ShJ v) (λx=>dl 10 v - 9*x) De (λx=>x=dcs v (dl 10 v)) (by kernel_rfl)
   (λx hx=>.b (decide ((↑(dl BW (v / 10 ^ (9*x))):Int) > 0)) (λh1=>
   .call (zH (EN hv)) λr2 q2=>
   .call (EU q2) λr3 q3=>
   .lp (s:={env:=[(3,.str (dcs v (min (9*x) (dl 10 v)))),(4,ao BW r2.1),(6,.int .u64 (↑r3:Int)),(7,.int .i64 0)],objs:=[]}) (Q:=ShP v x) (by rw [EK q2,EJ q2 q3,EH hx h1];exact hin (x,0) (EO hx h1)) λr4 q4=>
   .go {env:=[(0,ao BW r4.2),(3,.str r4.1)],objs:=[]} (x+1) hx (EM hv h1) (by rw [q4.1,q4.2];rfl)) λh1=>
  .fi (dcs v (min (9*x) (dl 10 v))) (ER h1))
   (λv L k kn=>by kernel_rfl)
 exact iU (V:=V0) (T:=TSh) (d:=2) 0 (aK (l1 _) (aK (l2 _) bK)) bI (.b ((↑(dl BW v):Int)==0) (λh1=>
   .r [48] (rU.mk bw (wh h1))) λh1=>
  .lp (s:={env:=[(0,ao BW v),(3,.str [])],objs:=[]}) (Q:=λx:Txt=>x=dcs v (dl 10 v)) (by rw [A8 v];exact hu 0 hv) λr2 q2=>
  .r r2 (rU.mk bw (by rw [q2,vT (yH h1)]))) (by kernel_rfl)
def frW (x:Bool×Nat×Nat):AV:=.agg [.bool x.1,ao BW x.2.1,ao BW x.2.2]
def φFr (x:Bool×Nat×Nat):AV×List AO:=(frW x,[])
noncomputable abbrev B4:Ent:=bN wd ma φTx (rU BW λv x=>x=dec v)
end Go.WE

namespace Go.WE
open Go Go.Ab Go.Proofs
set_option linter.unusedSectionVars false
def PwI (v n x:Nat):Prop:=dl 10 v<=n/\n<=100/\x<=n
theorem y5:ao BW 0=.sl .no 1 0 λ_=>[.int .u32 0]:=by
 unfold ao lz
 rw [lH]
 congr 1
 funext j
 unfold dg
 rw [Nat.zero_div,Nat.zero_mod];rfl
def pwS (v n x:Nat):St:={env:=[(0,.str (dcs v n)),(3,ao BW (v / 10 ^ (n - x))),(4,.int .i64 (x:Int))],objs:=[]}
theorem Bm {v n:Nat} (hn:dl 10 v<=n):({env:=[(0,.str (dcs v n)),(3,.sl .no 1 0 λx=>[.int .u32 0]),(4,.int .i64 0)],objs:=[]}:St)=pwS v n 0:=by
 unfold pwS
 rw [Nat.sub_zero,tL.2 hn,y5];rfl
theorem mf {v n:Nat} (h:dl 10 v<=n):dl BW v<=n:=by
 refine eh bw (Nat.lt_of_lt_of_le (lM (b:=10) (v:=v) (by decide)) ?_)
 exact Nat.le_trans (Nat.pow_le_pow_left (by decide) _) (Nat.pow_le_pow_right (by decide) h)
theorem rk {v n x:Nat} (h:decide ((x:Int) < ((dcs v n).length:Int))=true):x < n:=by have:=aB h;rw [cB] at this;exact this
abbrev Bk (l:List AV) (_:List AO) (x:Nat):Prop:=∀v,l=[ao BW v,SC 10]->x=v*10
section
variable {v n x:Nat} (hx:PwI v n x)
include hx
theorem Dt (k:Nat):dl BW (v / 10 ^ k)<=100:=Nat.le_trans (eX bw (Nat.div_le_self _ _)) (Nat.le_trans (mf hx.1) hx.2.1)
theorem Fa (h:decide ((x:Int) < ((dcs v n).length:Int))=true):aR wd fY φNW Bk [ao BW (v / 10 ^ (n - x)),SC 10] []:=
 (sC (F:=λa b x=>x=a*b) (by decide) (by decide) (gJ (Nat.le_trans (Dt hx _) (by decide)) (by rw [tI (by decide) (by decide)];decide))).mono λx hx v e=>hx v e
theorem Du (h:decide ((x:Int) < ((dcs v n).length:Int))=true):IntKind.wrap .u64 (IntKind.wrap .u8 (((UInt8.toNat (List.getD (dcs v n) x 0):Nat):Int) - 48))=((dg 10 v (n - 1 - x):Nat):Int):=by
 have:=mW v (n - 1 - x)
 rw [gZ _ _ _ (rk h),lI]
 simp only [wL]
 show (((((48+dg 10 v (n - 1 - x):Nat):Int) - 48) % 256) % 18446744073709551616)=_
 omega
theorem Fc (h:decide ((x:Int) < ((dcs v n).length:Int))=true):aR wd eS φNW (mu BW) [.int .u64 (IntKind.wrap .u64 (IntKind.wrap .u8 (((UInt8.toNat (List.getD (dcs v n) x 0):Nat):Int) - 48)))] []:=by
 rw [Du hx h]
 exact fZ (by have:=mW v (n - 1 - x);omega)
theorem Dr (h:decide ((x:Int) < ((dcs v n).length:Int))=true):v / 10 ^ (n - x)*10+dg 10 v (n - 1 - x)=v / 10 ^ (n - (x+1)):=by
 have:=rk h
 unfold dg
 rw [show n - x=n - 1 - x+1 by omega,Nat.pow_succ,<-Nat.div_div_eq_div_mul,show n - (x+1)=n - 1 - x by omega,Nat.mul_comm]
 exact Nat.div_add_mod _ _
variable {r2 r3 r4:Nat} (q2:Bk [ao BW (v / 10 ^ (n - x)),SC 10] [] r2)
include q2
theorem Ds (h:decide ((x:Int) < ((dcs v n).length:Int))=true) (q3:mu BW [.int .u64 (IntKind.wrap .u64 (IntKind.wrap .u8 (((UInt8.toNat (List.getD (dcs v n) x 0):Nat):Int) - 48)))] [] r3):r2=v / 10 ^ (n - x)*10/\r3=dg 10 v (n - 1 - x):=⟨q2 _ rfl,q3 _ (by rw [Du hx h])⟩
theorem Fb (h:decide ((x:Int) < ((dcs v n).length:Int))=true) (q3:mu BW [.int .u64 (IntKind.wrap .u64 (IntKind.wrap .u8 (((UInt8.toNat (List.getD (dcs v n) x 0):Nat):Int) - 48)))] [] r3):aR wd n7 φNW (rB BW λv w x=>x=v+w) [ao BW r2,ao BW r3] []:=by
 obtain ⟨e2,e3⟩:=Ds hx q2 h q3
 have h1:=Dr hx h
 have h2:=Dt hx (n - (x+1))
 rw [<-h1] at h2
 exact n6 (Nat.le_trans (eX bw (by omega:r2<=v / 10 ^ (n - x)*10+dg 10 v (n - 1 - x))) (by omega)) (Nat.le_trans (eX bw (by omega:r3<=v / 10 ^ (n - x)*10+dg 10 v (n - 1 - x))) (by omega))
theorem E9 (h:decide ((x:Int) < ((dcs v n).length:Int))=true) (q3:mu BW [.int .u64 (IntKind.wrap .u64 (IntKind.wrap .u8 (((UInt8.toNat (List.getD (dcs v n) x 0):Nat):Int) - 48)))] [] r3) (q4:rB BW (λv w x=>x=v+w) [ao BW r2,ao BW r3] [] r4):r4=v / 10 ^ (n - (x+1)):=by
 obtain ⟨e2,e3⟩:=Ds hx q2 h q3
 rw [q4 _ _ rfl,e2,e3];exact Dr hx h
end
theorem Ff {v n x:Nat} (hx:PwI v n x) (h:decide ((x:Int) < ((dcs v n).length:Int))=true):PwI v n (x+1):=⟨hx.1,hx.2.1,rk h⟩
theorem Fe {v n x:Nat} (hx:PwI v n x) (h:decide ((x:Int) < ((dcs v n).length:Int))=false):v / 10 ^ (n - x)=v:=by
 have h1:=aF h
 rw [cB] at h1
 rw [show n - x=0 by omega,Nat.pow_zero,Nat.div_one]
noncomputable abbrev TPw:List Ent:=[bN wd fY φNW Bk,zz,bN wd eS φNW (mu BW)]
theorem wG (v n:Nat):∃ (u:St->Bool) (z:St->Nat),(∀x,PwI v n x->bq u z (pwS v n x) λr=>r=v)/\∀L:List (List Nat×Orc),aE (V0.run TPw 2 [] L [([1,1],yu [(3,1,[.int .u32 0])])] ic) ic [1,1,0,1,0] (mkO u z λ(x:Nat) k=>k (.exit 0) {env:=[(3,ao BW x)],objs:=[]}):=
 aQ (Lf:=λL=>L) (pwS v n) (PwI v n) (λx=>n - x) (λ(x:Nat) k=>k (.exit 0) {env:=[(3,ao BW x)],objs:=[]}) (λr=>r=v) (by kernel_rfl)
  (λx hx=>.b (decide ((↑x:Int) < (↑(List.length (dcs v n)):Int))) (λh1=>
   .call (Fa hx h1) λr2 q2=>
   .n (c:=within (↑x:Int) (List.length (dcs v n))) (by rw [cB];exact ag (rk h1)) (
   .call (Fc hx h1) λr3 q3=>
   .call (Fb hx q2 h1 q3) λr4 q4=>
   .go {env:=[(0,.str (dcs v n)),(3,ao BW r4),(4,.int .i64 (IntKind.wrap IntKind.i64 ((↑x:Int)+1)))],objs:=[]} (x+1) (Ff hx h1) (by have:=rk h1;show n - (x+1) < n - x;omega) (by rw [E9 hx q2 h1 q3 q4,aZ (by have:=rk h1;have:=hx.2.1;omega)];rfl))) λh1=>
  .fi (v / 10 ^ (n - x)) (Fe hx h1))
  (λv L k kn=>by kernel_rfl)
theorem rv {v n:Nat} (hn:dl 10 v<=n) (hl:n<=100):aR wd ic φNW (λl _ x=>l=[.str (dcs v n)]->x=v) [.str (dcs v n)] []:=by
 obtain ⟨u,z,hu,l1⟩:=wG v n
 exact iU (V:=V0) (T:=TPw) (d:=2) 0 (aK (l1 _) bK) (lK (uu _) bI) (.lp (s:={env:=[(0,.str (dcs v n)),(3,.sl .no 1 0 λx=>[.int .u32 0]),(4,.int .i64 0)],objs:=[]}) (Q:=λx:Nat=>x=v) (by rw [Bm hn];exact hu 0 ⟨hn,hl,Nat.zero_le _⟩) λr1 q1=>
  .r r1 λ_=>q1) (by kernel_rfl)
theorem qA {v:Nat} (h:dl1 v<=100):aR wd ic φNW (jI λv x=>x=v) [.str (dec v)] []:=(rv (gY v) h).mono λx hx=>jI.mk (hx rfl)
noncomputable abbrev B6:Ent:=bN wd ic φNW (jI λv x=>x=v)
def dwS (v x:Nat):St:={env:=[(0,.str (dec v)),(3,.int .i64 (x:Int))],objs:=[]}
theorem z4 {v:Nat} (h:dl1 v<=400) (h1:(bif bif ((List.length (dec v):Nat):Int)==0 then true else decide (((List.length (dec v):Nat):Int) > 400) then true else bif decide (((List.length (dec v):Nat):Int) > 1) then ((UInt8.toNat (List.getD (dec v) (Int.toNat 0) 0):Nat):Int)==48 else false)=true):false=true:=by
 have h0:=la v
 have e0:(((dl1 v:Nat):Int)==0)=false:=by rw [beq_eq_false_iff_ne];omega
 rw [dq,e0,decide_eq_false (show ¬ ((dl1 v:Nat):Int) > 400 by omega),cond_false,cond_false,show Int.toNat 0=0 from rfl] at h1
 by_cases e:v=0
 ·have:dl1 v=1:=by unfold dl1;rw [e,lH];rfl
  rw [this] at h1
  rw [decide_eq_false (show ¬ ((1:Nat):Int) > 1 by omega)] at h1
  exact h1
 ·have h2:=pQ e
  have h3:dl1 v=dl 10 v:=by unfold dl1;rw [if_neg e];rfl
  unfold dec at h1
  rw [gZ _ _ _ h0,lI,Nat.sub_zero,h3] at h1
  have:((((48+dg 10 v (dl 10 v - 1):Nat):Int))==48)=false:=by
   rw [beq_eq_false_iff_ne];omega
  rw [this] at h1
  revert h1
  cases decide (((dl 10 v:Nat):Int) > 1) <;> exact id
theorem xt (v:Nat):∃ (u:St->Bool) (z:St->Bool),(∀x:Nat,dl1 v<=400/\x<=(dec v).length->bq u z (dwS v x) λr=>r=true)/\∀L:List (List Nat×Orc),aE (V0.run [] 2 [] L [] gM) gM [1,1,0,1,0] (mkO u z dgO):=
 aQ (Lf:=λL=>L) (dwS v) (λx=>dl1 v<=400/\x<=(dec v).length) (λx=>(dec v).length - x) dgO (λr=>r=true) (by kernel_rfl)
  (λx hx'=>have hx:(dec v).length<=400/\True:=⟨by rw [dq];exact hx'.1,trivial⟩;.b (decide ((↑x:Int) < (↑(List.length (dec v)):Int))) (λh1=>
   .n (c:=within (↑x:Int) (List.length (dec v))) (ag (aB h1)) (
   .n (c:=bif within (↑x:Int) (List.length (dec v)) then true else !bif decide ((↑(UInt8.toNat (List.getD (dec v) x 0)):Int) < 48)==false then true else false) (by rw [ag (aB h1)];rfl) (
   .b (bif decide ((↑(UInt8.toNat (List.getD (dec v) x 0)):Int) < 48) then true else decide ((↑(UInt8.toNat (List.getD (dec v) x 0)):Int) > 57)) (λh2=>
    .fi false (z6 hx h1 h2)) λh2=>
   .go {env:=[(0,.str (dec v)),(3,.int .i64 (IntKind.wrap IntKind.i64 ((↑x:Int)+1)))],objs:=[]} (x+1) ⟨hx'.1,aB h1⟩ (by have:=aB h1;show (dec v).length - (x+1) < (dec v).length - x;omega) (by rw [aZ (by have:=aB h1;have:=hx.1;omega)];rfl)))) λh1=>
  .fi true rfl)
  (λv L k kn=>by kernel_rfl)
theorem l9 {v:Nat} (h:dl1 v<=400):aR wd gM φBo (jI λ_ x=>x=true) [.str (dec v)] []:=by
 obtain ⟨u,z,hu,l1⟩:=xt v
 exact lb (V:=V0) [] 2 (p:=[1,1,0,1,0]) l1 (.n (c:=bif within 0 (List.length (dec v)) then true else !bif decide ((↑(List.length (dec v)):Int) > 1)==true then bif (bif (↑(List.length (dec v)):Int)==0 then true else decide ((↑(List.length (dec v)):Int) > 400))==false then true else false else false) (by rw [show within 0 (dec v).length=true from ag (n:=(dec v).length) (i:=0) (pR v)];rfl) (
  .b (bif bif (↑(List.length (dec v)):Int)==0 then true else decide ((↑(List.length (dec v)):Int) > 400) then true else bif decide ((↑(List.length (dec v)):Int) > 1) then (↑(UInt8.toNat (List.getD (dec v) (Int.toNat 0) 0)):Int)==48 else false) (λh1=>
   .r false (jI.mk (z4 h h1))) λh1=>
  .lp (hu 0 ⟨h,Nat.zero_le _⟩) λr2 q2=>
  .b r2 (λh3=>
   .r true (jI.mk rfl)) λh3=>
  .r false (jI.mk (h3.symm.trans q2)))) (by kernel_rfl)
noncomputable abbrev Ca:Ent:=bN wd gM φBo (jI λ_ x=>x=true)
def rLw (l:List AV) (_:List AO) (x:Bool×Nat×Nat):Prop:=∀b n d,l=[.bool b,ao BW n,ao BW d]->x=dL b n d
theorem rLw.mk {b:Bool} {n d:Nat} {os:List AO} {x:Bool×Nat×Nat} (h:x=dL b n d):rLw [.bool b,ao BW n,ao BW d] os x:=λb' n' d' e=>by
 injection e with e1 e
 injection e with e2 e
 injection e with e3 _
 injection e1 with e1
 rw [<-e1,<-bJ bw e2,<-bJ bw e3];exact h
section
variable {b:Bool} {n d r2:Nat} {r3 r4:Nat×Nat}
theorem FR (h0:0 < d) (h:(((dl BW n:Nat):Int)==0)=true):(false,0,1)=dL b n d:=by
 have:=eq_of_beq h
 have:n=0:=(fw bw).1 (by omega)
 rw [this]
 unfold dL
 rw [Nat.gcd_zero_right,Nat.zero_div,Nat.div_self h0]
 cases b <;> rfl
variable (q2:rB BW (λa b x=>x=Nat.gcd a b) [ao BW n,ao BW d] [] r2)
include q2
theorem Dy (hd:dl BW d<=100) (h0:0 < d):dl BW r2<=100:=by
 rw [q2 n d rfl]
 exact Nat.le_trans (eX bw (Nat.gcd_le_right _ h0)) hd
theorem Dx (h0:0 < d):0 < r2:=by rw [q2 n d rfl];exact Nat.gcd_pos_of_pos_right _ h0
theorem BF (h:(((dl BW n:Nat):Int)==0)=false) (q3:rB BW (λa b x=>x=(a / b,a % b)) [ao BW n,ao BW r2] [] r3) (q4:rB BW (λa b x=>x=(a / b,a % b)) [ao BW d,ao BW r2] [] r4):(b,r3.1,r4.1)=dL b n d:=by
 have hn:=yH h
 have e2:r2=Nat.gcd d n:=by rw [q2 n d rfl,Nat.gcd_comm]
 rw [q3 _ _ rfl,q4 _ _ rfl,e2]
 unfold dL
 simp [hn]
end
theorem kQ {b:Bool} {n d:Nat} (hn:dl BW n<=100) (hd:dl BW d<=100) (h0:0 < d):aR wd gK φFr rLw [.bool b,ao BW n,ao BW d] []:=
 lx (V:=V0) [pI,Gq] 2 (.b ((↑(dl BW n):Int)==0) (λh1=>
   .t (r:=(.agg [.bool false,.sl .fit 0 0 λx=>[],.sl .fit 1 1 (al [.int .u32 0] [(0,.int .u32 1)])],[])) (false,0,1) (rLw.mk (FR h0 h1)) (Tr.agg (.cons (.same rfl) (.cons fI (.cons (qa (s:=1) (by decide) (by decide)) .nil))))) λh1=>
  .call (oa (a:=n) (b:=d) hn hd) λr2 q2=>
  .call (fp (a:=n) (b:=r2) hn (Dy q2 hd h0) (Dx q2 h0)) λr3 q3=>
  .call (fp (a:=d) (b:=r2) hd (Dy q2 hd h0) (Dx q2 h0)) λr4 q4=>
  .r (b,r3.1,r4.1) (rLw.mk (BF q2 h1 q3 q4))) (by kernel_rfl)
noncomputable abbrev B8:Ent:=bN wd gK φFr rLw
def φRw (x:Bool×Nat×Nat×Bool):AV×List AO:=(.tup [.agg [.bool x.1,ao BW x.2.1,ao BW x.2.2.1],.bool x.2.2.2],[])
def rRw (l:List AV) (_:List AO) (x:Bool×Nat×Nat×Bool):Prop:=∀n d,l=[rat n d]->x=(false,n,d,true)
theorem z8 (n:Nat):(bif decide (((List.length (dec n):Nat):Int) > 0) then ((UInt8.toNat (List.getD (dec n) (Int.toNat 0) 0):Nat):Int)==45 else false)=false:=by
 have h:=pR n
 rw [decide_eq_true (show (((dec n).length:Nat):Int) > 0 by omega),cond_true,show Int.toNat 0=0 from rfl]
 rw [dq] at h
 unfold dec
 rw [gZ _ _ _ h,lI,beq_eq_false_iff_ne];omega
theorem fP {p:Prop} {n:Nat} (h1:(bif decide (((List.length (dec n):Nat):Int) > 0) then ((UInt8.toNat (List.getD (dec n) (Int.toNat 0) 0):Nat):Int)==45 else false)=true):p:=by rw [z8] at h1;cases h1
theorem E6 (n:Nat):(bif within 0 (List.length (dec n)) then true else !bif decide (((List.length (dec n):Nat):Int) > 0)==true then true else false)=true:=by
 rw [show within 0 (dec n).length=true from ag (n:=(dec n).length) (i:=0) (pR n)];rfl
section
variable {n d r13 r14:Nat} {r15:Bool×Nat×Nat}
theorem yM {p:Prop} {a b:Bool} (h0:0 < d) (ha:a=true) (hb:b=true) (h1:(bif decide (((List.length (dec n):Nat):Int) > 0) then ((UInt8.toNat (List.getD (dec n) (Int.toNat 0) 0):Nat):Int)==45 else false)=false) (h:(bif bif bif !a then true else !b then true else dec d==[48] then true else bif (bif decide (((List.length (dec n):Nat):Int) > 0) then ((UInt8.toNat (List.getD (dec n) (Int.toNat 0) 0):Nat):Int)==45 else false) then dec n==[48] else false)=true):p:=by
 rw [ha,hb,z7 h0,h1] at h;cases h
variable (h1:(bif decide (((List.length (dec n):Nat):Int) > 0) then ((UInt8.toNat (List.getD (dec n) (Int.toNat 0) 0):Nat):Int)==45 else false)=false) (q13:jI (λv x=>x=v) [.str (dec n)] [] r13) (q14:jI (λv x=>x=v) [.str (dec d)] [] r14)
include h1 q13 q14
theorem E5 (h3:dl1 n<=100) (h4:dl1 d<=100) (h0:0 < d):aR wd gK φFr rLw [.bool (bif decide (((List.length (dec n):Nat):Int) > 0) then ((UInt8.toNat (List.getD (dec n) (Int.toNat 0) 0):Nat):Int)==45 else false),ao BW r13,ao BW r14] []:=by
 rw [h1,q13 n rfl,q14 d rfl]
 exact kQ (Nat.le_trans (mf (gY n)) h3) (Nat.le_trans (mf (gY d)) h4) h0
variable (hg:Nat.gcd d n=1) (q15:rLw [.bool (bif decide (((List.length (dec n):Nat):Int) > 0) then ((UInt8.toNat (List.getD (dec n) (Int.toNat 0) 0):Nat):Int)==45 else false),ao BW r13,ao BW r14] [] r15)
include hg q15
theorem wu:r15=(false,n,d):=by
 rw [q15 _ _ _ rfl,h1,q13 n rfl,q14 d rfl]
 unfold dL
 rw [hg,Nat.div_one,Nat.div_one];rfl
theorem Be (h4:dl1 d<=100):aR wd eU φI (rB BW λv w x=>x=kd v w) [ao BW r15.2.2,ao BW r14] []:=by
 rw [wu h1 q13 q14 hg q15,q14 d rfl]
 exact mN (v:=d) (w:=d) (Nat.le_trans (mf (gY d)) (by omega))
theorem vA {p:Prop} {z:Int} (q16:rB BW (λv w x=>x=kd v w) [ao BW r15.2.2,ao BW r14] [] z) (h:(z !=0)=true):p:=by
 rw [q16 _ _ rfl,wu h1 q13 q14 hg q15,q14 d rfl,lf rfl] at h;cases h
theorem Bd:rRw [rat n d] [] (r15.1,r15.2.1,r15.2.2,true):=λn' d' e=>by
 injection e with e _
 obtain ⟨rfl,rfl⟩:=mr e
 rw [wu h1 q13 q14 hg q15]
end
theorem xO {n d:Nat} (h3:dl1 n<=100) (h4:dl1 d<=100) (h0:0 < d) (hg:Nat.gcd d n=1):aR wd tB φRw rRw [rat n d] []:=
 lx (V:=V0) [Ca,B6,B8,AG] 2 (.n (c:=bif within 0 (List.length (dec n)) then true else !bif decide ((↑(List.length (dec n)):Int) > 0)==true then true else false) (E6 n) (
  .b (bif decide ((↑(List.length (dec n)):Int) > 0) then (↑(UInt8.toNat (List.getD (dec n) (Int.toNat 0) 0)):Int)==45 else false) (λh1=>
   .n (c:=decide (0<=1)&&(decide (1<=(↑(List.length (dec n)):Int))&&decide ((↑(List.length (dec n)):Int)<=(↑(List.length (dec n)):Int)))) (by simp;have:=pR n;omega) (
   .call (fP h1:aR wd gM φBo (jI λ_ x=>x=true) [.str (List.take (Int.toNat (↑(List.length (dec n)):Int) - Int.toNat 1) (List.drop (Int.toNat 1) (dec n)))] []) λr2 q2=>
   .call (fP h1:aR wd gM φBo (jI λ_ x=>x=true) [.str (dec d)] []) λr3 q3=>
   .b (bif bif bif !r2 then true else !r3 then true else dec d==[48] then true else bif bif decide ((↑(List.length (dec n)):Int) > 0) then (↑(UInt8.toNat (List.getD (dec n) (Int.toNat 0) 0)):Int)==45 else false then List.take (Int.toNat (↑(List.length (dec n)):Int) - Int.toNat 1) (List.drop (Int.toNat 1) (dec n))==[48] else false) (λh4=>
    .t (r:=(.tup [.agg [.bool false,.sl .fit 0 0 λx=>[],.sl .fit 0 0 λx=>[]],.bool false],[])) default (fP h1) (fP h1)) λh4=>
   .call (fP h1:aR wd ic φNW (jI λv x=>x=v) [.str (List.take (Int.toNat (↑(List.length (dec n)):Int) - Int.toNat 1) (List.drop (Int.toNat 1) (dec n)))] []) λr5 q5=>
   .call (fP h1:aR wd ic φNW (jI λv x=>x=v) [.str (dec d)] []) λr6 q6=>
   .call (fP h1:aR wd gK φFr (rLw) [.bool (bif decide ((↑(List.length (dec n)):Int) > 0) then (↑(UInt8.toNat (List.getD (dec n) (Int.toNat 0) 0)):Int)==45 else false),ao BW r5,ao BW r6 ] []) λr7 q7=>
   .call (fP h1:aR wd eU φI (rB BW λv w x=>x=kd v w) [ao BW r7.2.2,ao BW r6 ] []) λr8 q8=>
   .b (r8 !=0) (λh9=>
    .t (r:=(.tup [.agg [.bool false,.sl .fit 0 0 λx=>[],.sl .fit 0 0 λx=>[]],.bool false],[])) default (fP h1) (fP h1)) λh9=>
   .r (r7.1,r7.2.1,r7.2.2,true) (fP h1))) λh1=>
  .call (l9 (v:=n) (by omega)) λr10 q10=>
  .call (l9 (v:=d) (by omega)) λr11 q11=>
  .b (bif bif bif !r10 then true else !r11 then true else dec d==[48] then true else bif bif decide ((↑(List.length (dec n)):Int) > 0) then (↑(UInt8.toNat (List.getD (dec n) (Int.toNat 0) 0)):Int)==45 else false then dec n==[48] else false) (λh12=>
   .t (r:=(.tup [.agg [.bool false,.sl .fit 0 0 λx=>[],.sl .fit 0 0 λx=>[]],.bool false],[])) default (yM h0 (q10 n rfl) (q11 d rfl) h1 h12) (yM h0 (q10 n rfl) (q11 d rfl) h1 h12)) λh12=>
  .call (qA (v:=n) (by omega)) λr13 q13=>
  .call (qA (v:=d) (by omega)) λr14 q14=>
  .call (E5 h1 q13 q14 h3 h4 h0) λr15 q15=>
  .call (Be h1 q13 q14 hg q15 h4) λr16 q16=>
  .b (r16 !=0) (λh17=>
   .t (r:=(.tup [.agg [.bool false,.sl .fit 0 0 λx=>[],.sl .fit 0 0 λx=>[]],.bool false],[])) default (vA h1 q13 q14 hg q15 q16 h17) (vA h1 q13 q14 hg q15 q16 h17)) λh17=>
  .r (r15.1,r15.2.1,r15.2.2,true) (Bd h1 q13 q14 hg q15))) (by kernel_rfl)
noncomputable abbrev B5:Ent:=bN wd tB φRw rRw
theorem pA {x y:Bool×Nat×Nat} (h:frW x=frW y):x=y:=by
 unfold frW at h
 injection h with h
 injection h with h1 h
 injection h with h2 h
 injection h with h3 _
 injection h1 with h1
 obtain ⟨a,b,c⟩:=x
 obtain ⟨a',b',c'⟩:=y
 have h1:a=a':=h1
 have h2:b=b':=bJ bw h2
 have h3:c=c':=bJ bw h3
 rw [h1,h2,h3]
def rWw (l:List AV) (_:List AO) (x:Bool×Nat×Nat):Prop:=∀y,l=[frW y]->x=y
theorem rWw.mk {x y:Bool×Nat×Nat} {os:List AO} (h:x=y):rWw [frW y] os x:=λy' e=>by
 injection e with e _
 rw [<-pA e];exact h
section
variable {b:Bool} {n d:Nat} {r1 r2:Txt} (q1:rU BW (λv x=>x=dec v) [ao BW n] [] r1) (q2:rU BW (λv x=>x=dec v) [ao BW d] [] r2)
include q1
theorem AM (h:dl1 n<=100):Nat.ble (List.length ([45]:List UInt8)+List.length r1) 4611686018427387904=true:=by
 rw [q1 n rfl,dq]
 exact Nat.ble_eq_true_of_le (by show 1+_<=_;omega)
include q2
theorem ye {p:Prop} (hn:dl1 n<=100) (hd:dl1 d<=100) (h:(bif decide (((List.length r1:Nat):Int) > 400) then true else decide (((List.length r2:Nat):Int) > 400))=true):p:=by
 rw [q1 n rfl,q2 d rfl,dq,dq,decide_eq_false (by omega),decide_eq_false (by omega)] at h
 cases h
theorem Eg (h:b=true):Tr (.tup [.agg [.str ([45]++r1),.str r2],.bool true],[]) (φWr (b,n,d)):=by
 rw [h,q1 n rfl,q2 d rfl];exact Tr.refl _
theorem Ef (h:b=false):Tr (.tup [.agg [.str r1,.str r2],.bool true],[]) (φWr (b,n,d)):=by
 rw [h,q1 n rfl,q2 d rfl];exact Tr.refl _
end
theorem qV {b:Bool} {n d:Nat} (hnl:dl1 n<=100) (hdl:dl1 d<=100):aR wd mO φWr rWw [frW (b,n,d)] []:=
 have hn:dl BW n<=100:=Nat.le_trans (mf (gY n)) hnl
 have hd:dl BW d<=100:=Nat.le_trans (mf (gY d)) hdl
 lx (V:=V0) [B4] 2 (.call (n4 (v:=n) hn) λr1 q1=>
  .call (n4 (v:=d) hd) λr2 q2=>
  .b (bif decide ((↑(List.length r1):Int) > 400) then true else decide ((↑(List.length r2):Int) > 400)) (λh3=>
   .t (r:=(.tup [.agg [.str [],.str []],.bool false],[])) default (ye q1 q2 hnl hdl h3) (ye q1 q2 hnl hdl h3)) λh3=>
  .b (b) (λh4=>
   .n (c:=Nat.ble (List.length ([45])+List.length r1) 4611686018427387904) (AM q1 hnl) (
   .t (r:=(.tup [.agg [.str ([45]++r1),.str r2],.bool true],[])) (b,n,d) (rWw.mk rfl) (Eg q1 q2 h4))) λh4=>
  .t (r:=(.tup [.agg [.str r1,.str r2],.bool true],[])) (b,n,d) (rWw.mk rfl) (Ef q1 q2 h4)) (by kernel_rfl)
noncomputable abbrev vL:Ent:=bN wd mO φWr rWw
end Go.WE

namespace Go.WE
open Go Go.Ab Go.Proofs
set_option linter.unusedSectionVars false
theorem EA {n:Int} (h:decide (n < 0)=true) (hn:n.natAbs < 1000000000000000000):aR wd eS φNW (mu BW) [.int .u64 (IntKind.wrap .u64 (0 - IntKind.wrap .u64 n))] []:=by
 have:=of_decide_eq_true h
 rw [show IntKind.wrap .u64 (0 - IntKind.wrap .u64 n)=((n.natAbs:Nat):Int) by simp only [wL];omega]
 exact fZ (by omega)
theorem Ez {n:Int} (h:decide (n < 0)=false) (hn:n.natAbs < 1000000000000000000):aR wd eS φNW (mu BW) [.int .u64 (IntKind.wrap .u64 n)] []:=by
 have:=of_decide_eq_false h
 rw [show IntKind.wrap .u64 n=((n.natAbs:Nat):Int) by simp only [wL];omega]
 exact fZ (by omega)
theorem AU {n:Int} (h:decide (n < 0)=true) (hn:n.natAbs < 1000000000000000000) {x:Nat} (q:mu BW [.int .u64 (IntKind.wrap .u64 (0 - IntKind.wrap .u64 n))] [] x):x=n.natAbs:=by
 have:=of_decide_eq_true h
 exact q n.natAbs (by rw [show IntKind.wrap .u64 (0 - IntKind.wrap .u64 n)=((n.natAbs:Nat):Int) by simp only [wL];omega])
theorem AQ {n:Int} (h:decide (n < 0)=false) (hn:n.natAbs < 1000000000000000000) {x:Nat} (q:mu BW [.int .u64 (IntKind.wrap .u64 n)] [] x):x=n.natAbs:=by
 have:=of_decide_eq_false h
 exact q n.natAbs (by rw [show IntKind.wrap .u64 n=((n.natAbs:Nat):Int) by simp only [wL];omega])
def rSz (l:List AV) (_:List AO) (x:Nat):Prop:=∀n:Int,l=[.int .i64 n]->x=n.natAbs
theorem rSz.mk {n:Int} {os:List AO} {x:Nat} (h:x=n.natAbs):rSz [.int .i64 n] os x:=λn' e=>by
 injection e with e _
 injection e with _ e
 rw [<-e];exact h
theorem sx {n:Int} (hn:n.natAbs < 1000000000000000000):aR wd vJ φNW rSz [.int .i64 n] []:=
 lx (V:=V0) [bN wd eS φNW (mu BW)] 2 (.b (decide (n < 0)) (λh1=>
   .call (EA h1 hn) λr2 q2=>
   .r r2 (rSz.mk (AU h1 hn q2))) λh1=>
  .call (Ez h1 hn) λr3 q3=>
  .r r3 (rSz.mk (AQ h1 hn q3))) (by kernel_rfl)
noncomputable abbrev B3:Ent:=bN wd vJ φNW rSz
theorem jv {v:Nat} (h:v < 1000000000000000000):dl BW v<=2:=eh bw (Nat.lt_trans h (by decide))
def rMk (l:List AV) (_:List AO) (x:Bool×Nat×Nat):Prop:=∀n d:Int,l=[.int .i64 n,.int .i64 d]->x=ofT n d
theorem rMk.mk {n d:Int} {os:List AO} {x:Bool×Nat×Nat} (h:x=ofT n d):rMk [.int .i64 n,.int .i64 d] os x:=λn' d' e=>by
 injection e with e1 e
 injection e with e2 _
 injection e1 with _ e1
 injection e2 with _ e2
 rw [<-e1,<-e2];exact h
section
variable {n d:Int} {r1 r2:Nat} {r3:Bool×Nat×Nat} (q1:rSz [.int .i64 n] [] r1) (q2:rSz [.int .i64 d] [] r2)
include q1 q2
theorem FQ (hn:n.natAbs < 1000000000000000000) (hd:d.natAbs < 1000000000000000000) (h0:d≠0):aR wd gK φFr rLw [.bool (!(decide (n < 0)==decide (d < 0))),ao BW r1,ao BW r2] []:=by
 rw [q1 n rfl,q2 d rfl]
 exact kQ (Nat.le_trans (jv hn) (by decide)) (Nat.le_trans (jv hd) (by decide)) (by omega)
theorem FP (q3:rLw [.bool (!(decide (n < 0)==decide (d < 0))),ao BW r1,ao BW r2] [] r3):r3=ofT n d:=by
 rw [q3 _ _ _ rfl,q1 n rfl,q2 d rfl];rfl
end
theorem xQ {n d:Int} (hn:n.natAbs < 1000000000000000000) (hd:d.natAbs < 1000000000000000000) (h0:d≠0):aR wd vK φFr rMk [.int .i64 n,.int .i64 d] []:=
 lx (V:=V0) [B3,B8] 2 (.call (sx (n:=n) hn) λr1 q1=>
  .call (sx (n:=d) hd) λr2 q2=>
  .call (FQ q1 q2 hn hd h0) λr3 q3=>
  .r r3 (rMk.mk (FP q1 q2 q3))) (by kernel_rfl)
noncomputable abbrev B7:Ent:=bN wd vK φFr rMk
theorem jx {v:Nat} (h:v < 1000000000000000000):dl1 v<=100:=Nat.le_trans (qL h) (by decide)
theorem tb {b:Bool} {n d:Nat} (hn:n < 1000000000000000000) (hd:d < 1000000000000000000):(dL b n d).2.1 < 1000000000000000000/\(dL b n d).2.2 < 1000000000000000000:=⟨Nat.lt_of_le_of_lt (Nat.div_le_self _ _) hn,Nat.lt_of_le_of_lt (Nat.div_le_self _ _) hd⟩
theorem Bv {n d:Int} {r:Bool×Nat×Nat} (q:rMk [.int .i64 n,.int .i64 d] [] r) (hn:n.natAbs < 1000000000000000000) (hd:d.natAbs < 1000000000000000000) (h0:d≠0):aR wd mO φWr rWw [frW (r.1,r.2.1,r.2.2)] []:=by
 have h:=tb (b:=!(decide (n < 0)==decide (d < 0))) hn hd
 rw [q n d rfl]
 exact qV (jx h.1) (jx h.2)
theorem Bw {n d:Int} {r r3:Bool×Nat×Nat} (q:rMk [.int .i64 n,.int .i64 d] [] r) (q3:rWw [frW (r.1,r.2.1,r.2.2)] [] r3):rOf [.int .i64 n,.int .i64 d] [] r3:=λn' d' e=>by
 injection e with e1 e
 injection e with e2 _
 injection e1 with _ e1
 injection e2 with _ e2
 rw [<-e1,<-e2,q3 _ rfl,q n d rfl]
theorem zA {n d:Int} (hn:n.natAbs < 1000000000000000000) (hd:d.natAbs < 1000000000000000000) (h0:d≠0):aR wd B2 φWr rOf [.int .i64 n,.int .i64 d] []:=
 lx (V:=V0) [B7,vL] 2 (.b (d==0) (λh1=>
   .t (r:=(.tup [.agg [.str [],.str []],.bool false],[])) default (uP h0 h1) (uP h0 h1)) λh1=>
  .call (xQ hn hd h0) λr2 q2=>
  .call (Bv q2 hn hd h0) λr3 q3=>
  .r r3 (Bw q2 q3)) (by kernel_rfl)
noncomputable abbrev fOf:Ent:=bN wd B2 φWr rOf
def vo (y z:Bool×Nat×Nat):Bool×Nat×Nat:=bif y.1==z.1 then (y.1,y.2.1*z.2.2+z.2.1*y.2.2,y.2.2*z.2.2) else bif Nat.ble (z.2.1*y.2.2) (y.2.1*z.2.2) then (y.1,y.2.1*z.2.2 - z.2.1*y.2.2,y.2.2*z.2.2) else (z.1,z.2.1*y.2.2 - y.2.1*z.2.2,y.2.2*z.2.2)
def vH (x:Bool×Nat×Nat):Bool×Nat×Nat:=dL x.1 x.2.1 x.2.2
def rPl (l:List AV) (_:List AO) (x:Bool×Nat×Nat):Prop:=∀y z,l=[frW y,frW z]->x=vH (vo y z)
theorem rPl.mk {y z x:Bool×Nat×Nat} {os:List AO} (h:x=vH (vo y z)):rPl [frW y,frW z] os x:=λy' z' e=>by
 injection e with e1 e
 injection e with e2 _
 rw [<-pA e1,<-pA e2];exact h
section
variable {b c:Bool} {n d m e r1 r2 r3 r:Nat} {x:Bool×Nat×Nat}
theorem sT (hh:dl BW (d*e)<=100) (q3:rB BW (λv w x=>x=v*w) [ao BW d,ao BW e] [] r3) (hd:0 < d) (he:0 < e) (h:dl BW n<=100):aR wd gK φFr rLw [.bool b,ao BW n,ao BW r3] []:=by
 rw [q3 _ _ rfl]
 exact kQ h hh (Nat.mul_pos hd he)
variable (e1:r1=n*e) (e2:r2=m*d) (e3:r3=d*e)
include e1 e2 e3
theorem Br (h:(b==c)=true) (e4:r=r1+r2) (q:rLw [.bool b,ao BW r,ao BW r3] [] x):x=vH (vo (b,n,d) (c,m,e)):=by
 rw [q _ _ _ rfl]
 unfold vH vo
 rw [<-Dh (n:=n) (d:=d) (m:=m) (e:=e) h e1 e2 e3 e4]
theorem Bq (h:(b==c)=false) (hl:r2<=r1) (e4:r=r1 - r2) (q:rLw [.bool b,ao BW r,ao BW r3] [] x):x=vH (vo (b,n,d) (c,m,e)):=by
 rw [q _ _ _ rfl]
 unfold vH vo
 rw [<-Dg (n:=n) (d:=d) (m:=m) (e:=e) h e1 e2 e3 hl e4]
theorem Bp (h:(b==c)=false) (hl:r1 < r2) (e4:r=r2 - r1) (q:rLw [.bool c,ao BW r,ao BW r3] [] x):x=vH (vo (b,n,d) (c,m,e)):=by
 rw [q _ _ _ rfl]
 unfold vH vo
 rw [<-Df (n:=n) (d:=d) (m:=m) (e:=e) h e1 e2 e3 hl e4]
end
theorem xP {b c:Bool} {n d m e:Nat} (h1:dl BW n<=500) (h2:dl BW d<=500) (h3:dl BW m<=500) (h4:dl BW e<=500) (h5:dl BW (n*e)<=100) (h6:dl BW (m*d)<=100) (h7:dl BW (n*e+m*d)<=100) (hh:dl BW (d*e)<=100) (hd:0 < d) (he:0 < e):aR wd qF φFr rPl [frW (b,n,d),frW (c,m,e)] []:=
 lx (V:=V0) [zy,zz,tC,AG,B8] 2 (.call (gJ (v:=n) (w:=e) h1 h4) λr1 q1=>
  .call (gJ (v:=m) (w:=d) h3 h2) λr2 q2=>
  .call (gJ (v:=d) (w:=e) h2 h4) λr3 q3=>
  .b (b==c) (λh4_=>
   .call (n6 (v:=r1) (w:=r2) (by rw [q1 n e rfl];omega) (by rw [q2 m d rfl];omega)) λr5 q5=>
   .call (sT hh q3 hd he (b:=b) (n:=r5) (by rw [q5 _ _ rfl,q1 n e rfl,q2 m d rfl];exact h7)) λr6 q6=>
   .r r6 (rPl.mk (Br (q1 n e rfl) (q2 m d rfl) (q3 d e rfl) h4_ (q5 _ _ rfl) q6))) λh4_=>
  .call (mN (v:=r1) (w:=r2) (by rw [q1 n e rfl];omega)) λr7 q7=>
  .b (decide (r7≥0)) (λh8=>
   .call (ju (v:=r1) (w:=r2) (by rw [q1 n e rfl];omega) (xS (q7 _ _ rfl) h8)) λr9 q9=>
   .call (sT hh q3 hd he (b:=b) (n:=r9) (by rw [q9 _ _ rfl,q1 n e rfl];exact Nat.le_trans (eX bw (Nat.sub_le _ _)) h5)) λr10 q10=>
   .r r10 (rPl.mk (Bq (q1 n e rfl) (q2 m d rfl) (q3 d e rfl) h4_ (xS (q7 _ _ rfl) h8) (q9 _ _ rfl) q10))) λh8=>
  .call (ju (v:=r2) (w:=r1) (by rw [q2 m d rfl];omega) (Nat.le_of_lt (yD (q7 _ _ rfl) h8))) λr11 q11=>
  .call (sT hh q3 hd he (b:=c) (n:=r11) (by rw [q11 _ _ rfl,q2 m d rfl];exact Nat.le_trans (eX bw (Nat.sub_le _ _)) h6)) λr12 q12=>
  .r r12 (rPl.mk (Bp (q1 n e rfl) (q2 m d rfl) (q3 d e rfl) h4_ (yD (q7 _ _ rfl) h8) (q11 _ _ rfl) q12))) (by kernel_rfl)
noncomputable abbrev fPl:Ent:=bN wd qF φFr rPl
theorem Fr.Read {n d:Nat} (h:Fr n d):aR wd tB φRw rRw [rat n d] []:=xO (jx h.n') (jx h.d') h.p' h.g'
section
variable {n d m e:Nat} {r1 r2:Bool×Nat×Nat×Bool} {r4 r5:Bool×Nat×Nat}
theorem ya (q1:rRw [rat n d] [] r1):r1=(false,n,d,true):=q1 n d rfl
theorem Ak {p:Prop} (q1:rRw [rat n d] [] r1) (q2:rRw [rat m e] [] r2) (h:(!bif r1.2.2.2 then r2.2.2.2 else false)=true):p:=by
 rw [ya q1,ya q2] at h;cases h
theorem Hc (q1:rRw [rat n d] [] r1) (q2:rRw [rat m e] [] r2) (h1:Fr n d) (h2:Fr m e):aR wd qF φFr rPl [frW (r1.1,r1.2.1,r1.2.2.1),frW (r2.1,r2.2.1,r2.2.2.1)] []:=by
 rw [ya q1,ya q2]
 show aR wd qF φFr rPl [frW (false,n,d),frW (false,m,e)] []
 have a1:=jv h1.n';have a2:=jv h1.d';have a3:=jv h2.n';have a4:=jv h2.d'
 have b1:=Nat.mul_lt_mul_of_lt_of_le h1.n' (Nat.le_of_lt h2.d') (by decide)
 have b2:=Nat.mul_lt_mul_of_lt_of_le h2.n' (Nat.le_of_lt h1.d') (by decide)
 have b3:=Nat.mul_lt_mul_of_lt_of_le h1.d' (Nat.le_of_lt h2.d') (by decide)
 have g:∀x:Nat,x < 1000000000000000000*1000000000000000000+1000000000000000000*1000000000000000000->dl BW x<=100:=λx hx=>Nat.le_trans (eh (n:=5) bw (Nat.lt_of_lt_of_le hx (by decide))) (by decide)
 exact xP (by omega) (by omega) (by omega) (by omega) (g _ (by omega)) (g _ (by omega)) (g _ (by omega)) (g _ (by omega)) h1.p' h2.p'
abbrev qP (r1 r2:Bool×Nat×Nat×Bool) (r4:Bool×Nat×Nat):Prop:=rPl [frW (r1.1,r1.2.1,r1.2.2.1),frW (r2.1,r2.2.1,r2.2.2.1)] [] r4
theorem Eb (q1:rRw [rat n d] [] r1) (q2:rRw [rat m e] [] r2) (q4:qP r1 r2 r4):r4=dL false (n*e+m*d) (d*e):=by
 have:=q4 _ _ rfl
 rw [this,ya q1,ya q2];rfl
theorem Hb (q1:rRw [rat n d] [] r1) (q2:rRw [rat m e] [] r2) (q4:qP r1 r2 r4) (h1:Fr n d) (h2:Fr m e) (h3:n*e+m*d < 1000000000000000000) (h4:d*e < 1000000000000000000):aR wd mO φWr rWw [frW (r4.1,r4.2.1,r4.2.2)] []:=by
 have h:=tb (b:=false) h3 h4
 rw [Eb q1 q2 q4]
 exact qV (jx h.1) (jx h.2)
theorem C2 (q1:rRw [rat n d] [] r1) (q2:rRw [rat m e] [] r2) (q4:qP r1 r2 r4) (q5:rWw [frW (r4.1,r4.2.1,r4.2.2)] [] r5):ji (λn d m e x=>x=dL false (n*e+m*d) (d*e)) [rat n d,rat m e] [] r5:=ji.mk (by rw [q5 _ rfl,Eb q1 q2 q4])
end
theorem xp {n d m e:Nat} (h1:Fr n d) (h2:Fr m e) (h3:n*e+m*d < 1000000000000000000) (h4:d*e < 1000000000000000000):aR wd xm φWr (ji λn d m e x=>x=dL false (n*e+m*d) (d*e)) [rat n d,rat m e] []:=
 lx (V:=V0) [B5,fPl,vL] 4 (.call (Fr.Read h1) λr1 q1=>
  .call (Fr.Read h2) λr2 q2=>
  .b (!bif r1.2.2.2 then r2.2.2.2 else false) (λh3_=>
   .t (r:=(.tup [.agg [.str [],.str []],.bool false],[])) default (Ak q1 q2 h3_) (Ak q1 q2 h3_)) λh3_=>
  .call (Hc q1 q2 h1 h2) λr4 q4=>
  .call (Hb q1 q2 q4 h1 h2 h3 h4) λr5 q5=>
  .r r5 (C2 q1 q2 q4 q5)) (by kernel_rfl)
noncomputable abbrev ve:Ent:=bN wd xm φWr (ji λn d m e x=>x=dL false (n*e+m*d) (d*e))
end Go.WE

namespace Go.WE
open Go Go.Ab Go.Proofs
def lsA (n:Nat) (x:Nat->Nat):AV:=.sl .no 1 n λj=>[.int .i64 (x j:Int)]
def yd (x:Bool×Nat×Nat):AV×List AO:=(oD x.1 x.2.1 x.2.2,[.cells [.bool false]])
abbrev EST:=Nat×(Bool×Nat×Nat)×(Bool×Nat×Nat)
def pK (x:EST):AV:=.agg [.int .i64 (x.1:Int),.str (bif x.2.1.1 then [45]++dec x.2.1.2.1 else dec x.2.1.2.1),.str (dec x.2.1.2.2),.str (bif x.2.2.1 then [45]++dec x.2.2.2.1 else dec x.2.2.2.1),.str (dec x.2.2.2.2)]
def fG (x:EST):AV×List AO:=(.tup [pK x,.bool true],[])
end Go.WE

namespace Go.WE
open Go Go.Ab Go.Proofs
set_option linter.unusedSectionVars false
def br (f:Nat->Nat):Nat->Nat
 | 0=>0
 | n+1=>br f n+f n
theorem kB {f:Nat->Nat} {c:Nat}:∀ {n:Nat},(∀j,j < n->f j<=c)->br f n<=n*c
 | 0,_=>by rw [Nat.zero_mul];exact Nat.le_refl _
 | n+1,h=>by
  have h1:=kB (n:=n) λj hj=>h j (by omega)
  have h2:=h n (by omega)
  rw [br,Nat.add_mul,Nat.one_mul];omega
structure Sml (n:Nat) (x:Nat->Nat):Prop where
 n':n<=100
 two:2<=n
 b':∀j,j < n->x j<=255
section
variable {n:Nat} {x:Nat->Nat} (hs:Sml n x)
include hs
theorem uy {i:Nat} (h:i<=n):br x i<=25500:=by
 have h1:=kB (n:=i) (c:=255) λj hj=>hs.b' j (by omega)
 have:=hs.n';omega
theorem yC {j:Nat} (h:j < n):x j*x j<=65025:=Nat.mul_le_mul (hs.b' j h) (hs.b' j h)
theorem yF {i:Nat} (h:i<=n):br (λj=>x j*x j) i<=6502500:=by
 have h1:=kB (f:=λj=>x j*x j) (n:=i) (c:=65025) λj hj=>yC hs (by omega)
 have:=hs.n';omega
theorem Eo {i:Nat} (h:i < n):IntKind.wrap .i64 ((br x i:Int)+(x i:Int))=(br x (i+1):Int):=by
 have h1:=uy hs (Nat.le_of_lt h);have h2:=hs.b' i h
 rw [wrap_i64 (by omega) (by omega)];rfl
theorem G0 {i:Nat} (h:i < n):IntKind.wrap .i64 ((br (λj=>x j*x j) i:Int)+IntKind.wrap .i64 ((x i:Int)*(x i:Int)))=(br (λj=>x j*x j) (i+1):Int):=by
 have h1:=yF hs (Nat.le_of_lt h);have h2:=yC hs h
 rw [<-Int.natCast_mul,wrap_i64 (x:=((x i*x i:Nat):Int)) (by omega) (by omega),wrap_i64 (by omega) (by omega)];rfl
end
theorem ta {n m:Nat} {x y:Nat->Nat} (h:lsA n x=lsA m y):n=m/\x=y:=by
 unfold lsA at h
 injection h with _ _ h1 h2
 refine ⟨h1,funext λj=>?_⟩
 have:=congrFun h2 j
 injection this with h3
 injection h3 with _ h4
 omega
def rLs {τ:Type} (F:Nat->(Nat->Nat)->τ->Prop) (l:List AV) (_:List AO) (r:τ):Prop:=∀n x,l=[lsA n x]->F n x r
theorem rLs.mk {τ:Type} {F:Nat->(Nat->Nat)->τ->Prop} {n:Nat} {x:Nat->Nat} {os:List AO} {r:τ} (h:F n x r):rLs F [lsA n x] os r:=λn' x' e=>by
 injection e with e _
 obtain ⟨rfl,rfl⟩:=ta e
 exact h
theorem uq (n:Nat) (x:Nat->Nat) (hs:n<=100/\Sml n x):∃ (u:St->Bool) (z:St->Nat),(∀i:Nat,i<=n->bq u z {env:=[(3,.int .i64 (br x i:Int)),(6,lsA n x),(7,.int .i64 (n:Int)),(8,.int .i64 (i:Int))],objs:=[]} λi=>i=n)/\∀L:List (List Nat×Orc),aE (V0.run [] 2 [] L [] mR) mR [1,1,0,1,0] (mkO u z λ(i:Nat) k=>k (.exit 0) {env:=[(3,.int .i64 (br x i:Int))],objs:=[]}):=
 aQ (Lf:=λL=>L) (λi:Nat=>{env:=[(3,.int .i64 (br x i:Int)),(6,lsA n x),(7,.int .i64 (n:Int)),(8,.int .i64 (i:Int))],objs:=[]}) (λi=>i<=n) (λi=>n - i) (λ(i:Nat) k=>k (.exit 0) {env:=[(3,.int .i64 (br x i:Int))],objs:=[]}) (λi=>i=n) (by kernel_rfl)
  (λi hi=>.b (decide ((↑i:Int) < (↑n:Int))) (λh1=>
   .n (c:=within (↑i:Int) n) (ag (aB h1)) (
   .go {env:=[(3,.int .i64 (IntKind.wrap IntKind.i64 ((↑(br x i):Int)+(↑(x i):Int)))),(6,.sl .no 1 n λj=>[.int .i64 (↑(x j):Int)]),(7,.int .i64 (↑n:Int)),(8,.int .i64 (IntKind.wrap IntKind.i64 ((↑i:Int)+1)))],objs:=[]} (i+1) (aB h1) (by have:=aB h1;show n - (i+1) < n - i;omega) (by rw [Eo hs.2 (aB h1),aZ (by have:=aB h1;have:=hs.1;omega)];rfl))) λh1=>
  .fi i (by have:=aF h1;have hi:i<=n:=hi;omega))
  (λv L k kn=>by kernel_rfl)
theorem sf {n:Nat} {x:Nat->Nat} (hs:Sml n x):aR wd mR φIn (rLs λn x r=>r=br x n) [lsA n x] []:=by
 obtain ⟨u,z,hu,l1⟩:=uq n x ⟨hs.n',hs⟩
 exact lb (V:=V0) [] 2 (p:=[1,1,0,1,0]) l1 (.lp (hu 0 (Nat.zero_le _)) λi hi=>.r (br x i) (rLs.mk (by rw [hi]))) (by kernel_rfl)
noncomputable abbrev Cb:Ent:=bN wd mR φIn (rLs λn x r=>r=br x n)
def ftL (n:Nat) (x:Nat->Nat):List AV:=[.int .i64 2,.sl .fit 1 1 (al [.sl .fit 0 0 λ_=>[]] [(0,lsA n x)])]
def ftR (n:Nat) (x:Nat->Nat) (l:List AV) (_:List AO) (r:Bool):Prop:=l=ftL n x->r=true
theorem ftR.mk {n:Nat} {x:Nat->Nat} {r:Bool} {os:List AO} {l:List AV} (h:r=true):ftR n x l os r:=λ_=>h
theorem B1 {n:Nat} {x:Nat->Nat} {p:Prop} (hs:n<=100/\Sml n x) {i:Nat} (h:i < n) (h2:(bif decide ((x i:Int) < -1048576) then true else decide ((x i:Int) > 1048576))=true):p:=by
 have:=hs.2.b' i h
 rw [decide_eq_false (by omega),decide_eq_false (by omega)] at h2;cases h2
theorem Gn {n:Nat} {x:Nat->Nat} {p:Prop} (hs:Sml n x) (h:(bif bif (n:Int) !=(n:Int) then true else decide ((n:Int) < 2) then true else decide ((n:Int) > 512))=true):p:=by
 have:=hs.two;have:=hs.n'
 rw [show ((n:Int) !=(n:Int))=false by simp,decide_eq_false (show ¬ (n:Int) < 2 by omega),decide_eq_false (show ¬ (n:Int) > 512 by omega)] at h;cases h
def ftS (n:Nat) (x:Nat->Nat) (i:Nat):St:={env:=[(0,.int .i64 2),(1,.sl .fit 1 1 (al [.sl .fit 0 0 λ_=>[]] [(0,lsA n x)])),(9,.sl .fit 1 1 (al [.sl .fit 0 0 λ_=>[]] [(0,lsA n x)])),(10,.int .i64 1),(11,.int .i64 0),(33,lsA n x),(34,.int .i64 (n:Int)),(35,.int .i64 (i:Int))],objs:=[]}
def ftO (n:Nat) (x:Nat->Nat) (b:Bool) (k:Ex->St->Res):Res:=cond b (k (.exit 2) {env:=[(0,.int .i64 2),(1,.sl .fit 1 1 (al [.sl .fit 0 0 λ_=>[]] [(0,lsA n x)])),(9,.sl .fit 1 1 (al [.sl .fit 0 0 λ_=>[]] [(0,lsA n x)])),(10,.int .i64 1),(11,.int .i64 0)],objs:=[]}) (k .ret {env:=[(4,.bool false)],objs:=[]})
theorem tz (n:Nat) (x:Nat->Nat) (hs:n<=100/\Sml n x):∃ (u:St->Bool) (z:St->Bool),(∀i:Nat,i<=n->bq u z (ftS n x i) λb=>b=true)/\∀L:List (List Nat×Orc),aE (V0.run [] 2 [] L [] qJ) qJ [1,0,1,0,0,1,1,0,0,1,1,1,0] (mkO u z (ftO n x)):=
 aQ (Lf:=λL=>L) (ftS n x) (λi=>i<=n) (λi=>n - i) (ftO n x) (λb=>b=true) (by kernel_rfl)
  (λi hi=>.b (decide ((↑i:Int) < (↑n:Int))) (λh1=>
   .n (c:=within (↑i:Int) n) (ag (aB h1)) (
   .b (bif decide ((↑(x i):Int) < -1048576) then true else decide ((↑(x i):Int) > 1048576)) (λh2=>
    .fi false (B1 hs (aB h1) h2)) λh2=>
   .go {env:=[(0,.int .i64 2),(1,.sl .fit 1 1 (al [.sl .fit 0 0 λx=>[] ] [(0,.sl .no 1 n λj=>[.int .i64 (↑(x j):Int)])])),(9,.sl .fit 1 1 (al [.sl .fit 0 0 λx=>[] ] [(0,.sl .no 1 n λj=>[.int .i64 (↑(x j):Int)])])),(10,.int .i64 1),(11,.int .i64 0),(33,.sl .no 1 n λj=>[.int .i64 (↑(x j):Int)]),(34,.int .i64 (↑n:Int)),(35,.int .i64 (IntKind.wrap IntKind.i64 ((↑i:Int)+1)))],objs:=[]} (i+1) (aB h1) (by have:=aB h1;show n - (i+1) < n - i;omega) (by rw [aZ (by have:=aB h1;have:=hs.1;omega)];rfl))) λh1=>
  .fi true rfl)
  (λv L k kn=>by kernel_rfl)
theorem xl {n:Nat} {x:Nat->Nat} (hs:Sml n x):aR wd qJ φBo (ftR n x) (ftL n x) []:=by
 obtain ⟨u,z,hu,l1⟩:=tz n x ⟨hs.n',hs⟩
 exact lb (V:=V0) [] 2 (p:=[1,0,1,0,0,1,1,0,0,1,1,1,0]) l1 (.b (bif bif (↑n:Int) !=(↑n:Int) then true else decide ((↑n:Int) < 2) then true else decide ((↑n:Int) > 512)) (λh1=>
   .r false (Gn hs h1)) λh1=>
  .lp (hu 0 (Nat.zero_le _)) λr2 q2=>
  .b r2 (λh3=>
   .r true (ftR.mk rfl)) λh3=>
  .r false (ftR.mk (h3.symm.trans q2))) (by kernel_rfl)
def vV (n:Nat) (x:Nat->Nat):Nat:=n*br (λj=>x j*x j) n - br x n*br x n
theorem yj (a b:Nat):2*(a*b)<=a*a+b*b:=by
 rcases Nat.le_total a b with h | h
 ·obtain ⟨d,rfl⟩:=Nat.exists_eq_add_of_le h
  simp only [Nat.mul_add,Nat.add_mul]
  have:=Nat.mul_comm d a;have:=Nat.zero_le (d*d);omega
 ·obtain ⟨d,rfl⟩:=Nat.exists_eq_add_of_le h
  simp only [Nat.mul_add,Nat.add_mul]
  have:=Nat.mul_comm d b;have:=Nat.zero_le (d*d);omega
theorem cauchy (x:Nat->Nat):∀n:Nat,br x n*br x n<=n*br (λj=>x j*x j) n
 | 0=>Nat.zero_le _
 | n+1=>by
  have ih:=cauchy x n
  rw [br,br]
  have h:∀m,m<=n->2*(br x m*x n)<=br (λj=>x j*x j) m+m*(x n*x n):=by
   intro m
   induction m with
   | zero=>intro _;rw [br,Nat.zero_mul];omega
   | succ m ihm=>
    intro hm
    have h1:=ihm (by omega)
    have h2:=yj (x m) (x n)
    rw [br,br,Nat.add_mul,Nat.add_mul];omega
  have h1:=h n (Nat.le_refl _)
  have e1:(br x n+x n)*(br x n+x n)=br x n*br x n+2*(br x n*x n)+x n*x n:=by
   rw [Nat.add_mul,Nat.mul_add,Nat.mul_add,Nat.mul_comm (x n) (br x n)];omega
  have e2:(n+1)*(br (λj=>x j*x j) n+x n*x n)=n*br (λj=>x j*x j) n+n*(x n*x n)+br (λj=>x j*x j) n+x n*x n:=by
   rw [Nat.add_mul,Nat.mul_add,Nat.one_mul];omega
  rw [e1,e2];omega
def cvL (n:Nat) (x:Nat->Nat):List AV:=[.ref 1000000 0,lsA n x,lsA n x]
def rCv (n:Nat) (x:Nat->Nat) (l:List AV) (_:List AO) (r:Bool×Nat×Nat):Prop:=l=cvL n x->r=dL false (vV n x) (n*(n - 1))
theorem rCv.mk {n:Nat} {x:Nat->Nat} {l:List AV} {os:List AO} {r:Bool×Nat×Nat} (h:r=dL false (vV n x) (n*(n - 1))):rCv n x l os r:=λ_=>h
theorem sZ (n d:Nat):ofT (n:Int) (d:Int)=dL false n d:=by
 unfold ofT
 rw [decide_eq_false (show ¬ (n:Int) < 0 by omega),decide_eq_false (show ¬ (d:Int) < 0 by omega)];rfl
def cvS (n:Nat) (x:Nat->Nat) (i:Nat):St:={env:=[(0,.ref 1000000 0),(1,lsA n x),(2,lsA n x),(6,.ref 6 0),(7,.int .i64 (n:Int)),(8,.int .i64 (br (λj=>x j*x j) i:Int)),(13,lsA n x),(14,.int .i64 (n:Int)),(15,.int .i64 (i:Int))],objs:=[(6,.cells [.str [],.str []]),(1000000,.cells [.bool false])]}
def cvO (n:Nat) (x:Nat->Nat) (i:Nat) (k:Ex->St->Res):Res:=k (.exit 0) {env:=[(0,.ref 1000000 0),(1,lsA n x),(2,lsA n x),(6,.ref 6 0),(7,.int .i64 (n:Int)),(8,.int .i64 (br (λj=>x j*x j) i:Int))],objs:=[(6,.cells [.str [],.str []]),(1000000,.cells [.bool false])]}
section
variable {n:Nat} {x:Nat->Nat} (hs:Sml n x)
include hs
theorem CW:n*br (λj=>x j*x j) n<=650250000/\br x n*br x n<=650250000/\vV n x<=650250000/\n*(n - 1)<=10000/\0 < n*(n - 1):=by
 have h1:=uy hs (Nat.le_refl _);have h2:=yF hs (Nat.le_refl _);have h3:=hs.n'
 have a1:n*br (λj=>x j*x j) n<=100*6502500:=Nat.mul_le_mul h3 h2
 have a2:br x n*br x n<=25500*25500:=Nat.mul_le_mul h1 h1
 have a3:n*(n - 1)<=100*100:=Nat.mul_le_mul h3 (by omega)
 have a4:0 < n*(n - 1):=Nat.mul_pos (by have:=hs.two;omega) (by have:=hs.two;omega)
 unfold vV
 omega
theorem D9 {r1 r2 r3:Nat} (q1:r1=n) (q2:rLs (λn x r=>r=br x n) [lsA n x] [] r2) (q3:rLs (λn x r=>r=br x n) [lsA n x] [] r3):[AV.int .i64 (IntKind.wrap .i64 (IntKind.wrap .i64 ((n:Int)*(br (λj=>x j*x j) r1:Int)) - IntKind.wrap .i64 ((r2:Int)*(r3:Int)))),.int .i64 (IntKind.wrap .i64 ((n:Int)*IntKind.wrap .i64 ((n:Int) - 1)))]=[.int .i64 (vV n x:Int),.int .i64 ((n*(n - 1):Nat):Int)]:=by
 have hc:=CW hs
 have hC:=cauchy x n
 rw [q1,q2 n x rfl,q3 n x rfl,gX (by have:=hs.two;omega) (by have:=hs.n';omega),<-Int.natCast_mul,<-Int.natCast_mul,<-Int.natCast_mul,wrap_i64 (x:=((n*br (λj=>x j*x j) n:Nat):Int)) (by omega) (by omega),wrap_i64 (x:=((br x n*br x n:Nat):Int)) (by omega) (by omega),wrap_i64 (x:=((n*(n - 1):Nat):Int)) (by omega) (by omega),wrap_i64 (by omega) (by omega)]
 unfold vV
 rw [Int.natCast_sub hC]
theorem CV {r1 r2 r3:Nat} (q1:r1=n) (q2:rLs (λn x r=>r=br x n) [lsA n x] [] r2) (q3:rLs (λn x r=>r=br x n) [lsA n x] [] r3):aR wd yU φWr rOf [.int .i64 (IntKind.wrap .i64 (IntKind.wrap .i64 ((n:Int)*(br (λj=>x j*x j) r1:Int)) - IntKind.wrap .i64 ((r2:Int)*(r3:Int)))),.int .i64 (IntKind.wrap .i64 ((n:Int)*IntKind.wrap .i64 ((n:Int) - 1)))] []:=by
 have hc:=CW hs
 rw [D9 hs q1 q2 q3]
 exact wM (by omega) (by omega) (by omega)
theorem G1 {r1 r2 r3:Nat} {r:Bool×Nat×Nat} (q1:r1=n) (q2:rLs (λn x r=>r=br x n) [lsA n x] [] r2) (q3:rLs (λn x r=>r=br x n) [lsA n x] [] r3) (q4:rOf [.int .i64 (IntKind.wrap .i64 (IntKind.wrap .i64 ((n:Int)*(br (λj=>x j*x j) r1:Int)) - IntKind.wrap .i64 ((r2:Int)*(r3:Int)))),.int .i64 (IntKind.wrap .i64 ((n:Int)*IntKind.wrap .i64 ((n:Int) - 1)))] [] r):r=dL false (vV n x) (n*(n - 1)):=by
 rw [q4 _ _ (D9 hs q1 q2 q3),sZ]
end
theorem vj (n:Nat) (x:Nat->Nat) (hs:n<=100/\Sml n x):∃ (u:St->Bool) (z:St->Nat),(∀i:Nat,i<=n->bq u z (cvS n x i) λi=>i=n)/\∀L:List (List Nat×Orc),aE (V0.run [Cb,Ce] 5 [] L [] ez) ez [1,1,0,1,0] (mkO u z (cvO n x)):=
 aQ (Lf:=λL=>L) (cvS n x) (λi=>i<=n) (λi=>n - i) (cvO n x) (λi=>i=n) (by kernel_rfl)
  (λi hi=>.b (decide ((↑i:Int) < (↑n:Int))) (λh1=>
   .n (c:=within (↑i:Int) n) (ag (aB h1)) (
   .n (c:=within (↑i:Int) n) (ag (aB h1)) (
   .go {env:=[(0,.ref 1000000 0),(1,.sl .no 1 n λj=>[.int .i64 (↑(x j):Int)]),(2,.sl .no 1 n λj=>[.int .i64 (↑(x j):Int)]),(6,.ref 6 0),(7,.int .i64 (↑n:Int)),(8,.int .i64 (IntKind.wrap IntKind.i64 ((↑(br (λj=>x j*x j) i):Int)+IntKind.wrap IntKind.i64 ((↑(x i):Int)*(↑(x i):Int))))),(13,.sl .no 1 n λj=>[.int .i64 (↑(x j):Int)]),(14,.int .i64 (↑n:Int)),(15,.int .i64 (IntKind.wrap IntKind.i64 ((↑i:Int)+1)))],objs:=[(6,.cells [.str [],.str [] ]),(1000000,.cells [.bool false])]} (i+1) (aB h1) (by have:=aB h1;show n - (i+1) < n - i;omega) (by rw [G0 hs.2 (aB h1),aZ (by have:=aB h1;have:=hs.1;omega)];rfl)))) λh1=>
  .fi i (by have:=aF h1;have hi:i<=n:=hi;omega))
  (λv L k kn=>by kernel_rfl)
theorem Af {n:Nat} {x:Nat->Nat} (hs:Sml n x):aR wd ez yd (rCv n x) (cvL n x) [.cells [.bool false]]:=by
 obtain ⟨u,z,hu,l1⟩:=vj n x ⟨hs.n',hs⟩
 exact iU (V:=V0) (T:=[Cb,Ce]) (d:=5) 1 (aK (l1 _) bK) bI (.lp (hu 0 (Nat.zero_le _)) λr1 q1=>
  .call (sf hs) λr2 q2=>
  .call (sf hs) λr3 q3=>
  .call (CV hs q1 q2 q3) λr4 q4=>
  .r r4 (rCv.mk (G1 hs q1 q2 q3 q4))) (by kernel_rfl)
end Go.WE

namespace Go.WE
open Go Go.Ab Go.Proofs
set_option linter.unusedSectionVars false
noncomputable abbrev Gy (n:Nat) (x:Nat->Nat):Ent:=bN wd ez yd (rCv n x)
noncomputable abbrev Ci (n:Nat) (x:Nat->Nat):Ent:=bN wd qJ φBo (ftR n x)
theorem frL {n d:Nat} (hn:n < 1000000000000000000) (hd:d < 1000000000000000000) (h0:0 < d):Fr (n / Nat.gcd d n) (d / Nat.gcd d n):=by
 have hg:0 < Nat.gcd d n:=Nat.gcd_pos_of_pos_left _ h0
 refine ⟨Nat.lt_of_le_of_lt (Nat.div_le_self _ _) hn,Nat.lt_of_le_of_lt (Nat.div_le_self _ _) hd,Nat.div_pos (Nat.gcd_le_left _ h0) hg,?_⟩
 exact Nat.gcd_div_gcd_div_gcd_of_pos_left h0
def uN (n:Nat):Bool×Nat×Nat:=dL false n 1
theorem yY (n:Nat):uN n=(false,n,1):=by
 unfold uN dL
 rw [Nat.gcd_one_left,Nat.div_one,Nat.div_one];rfl
def pT (n:Nat) (x:Nat->Nat):Bool×Nat×Nat:=dL false (vV n x) (n*(n - 1))
def fB (n:Nat) (x:Nat->Nat):Bool×Nat×Nat:=dL false ((pT n x).2.1*1) ((pT n x).2.2*n)
def cI (n:Nat) (x:Nat->Nat):Bool×Nat×Nat:=dL false (br x n) n
def pJ (n:Nat) (x:Nat->Nat):EST:=(n,cI n x,fB n x)
section
variable {n:Nat} {x:Nat->Nat} (hs:Sml n x)
include hs
theorem zE {p:Prop} {r:Bool} (q:ftR n x (ftL n x) [] r) (h:(!r)=true):p:=by rw [q rfl] at h;cases h
theorem Gv {r:Nat} (q:rLs (λn x r=>r=br x n) [lsA n x] [] r):aR wd yU φWr rOf [.int .i64 (r:Int),.int .i64 (n:Int)] []:=by
 have h:=uy hs (Nat.le_refl _);have:=hs.n';have:=hs.two
 rw [q n x rfl]
 exact wM (by omega) (by omega) (by omega)
theorem Gs:aR wd yU φWr rOf [.int .i64 (n:Int),.int .i64 1] []:=by
 have:=hs.n'
 exact wM (by omega) (by decide) (by decide)
theorem DQ {r:Bool×Nat×Nat} (q:rOf [.int .i64 (n:Int),.int .i64 1] [] r):r=(false,n,1):=by
 rw [q n 1 rfl,show ofT (n:Int) 1=dL false n 1 from sZ n 1]
 exact yY n
theorem vU:Fr (pT n x).2.1 (pT n x).2.2/\(pT n x).2.1<=650250000/\(pT n x).2.2<=10000:=by
 have h:=CW hs
 exact ⟨frL (by omega) (by omega) (by omega),Nat.le_trans (Nat.div_le_self _ _) h.2.2.1,Nat.le_trans (Nat.div_le_self _ _) h.2.2.2.1⟩
theorem FC:Fr n 1:=⟨by have:=hs.n';omega,by decide,by decide,Nat.gcd_one_left _⟩
theorem Gt {r5 r6:Bool×Nat×Nat} (q5:rCv n x (cvL n x) [.cells [.bool false]] r5) (q6:rOf [.int .i64 (n:Int),.int .i64 1] [] r6):aR wd wE φWr (ji λn d m e x=>x=dL false (n*e) (d*m)) [oD r5.1 r5.2.1 r5.2.2,oD r6.1 r6.2.1 r6.2.2] []:=by
 have hc:=vU hs
 have h1:(pT n x).2.2*n<=10000*100:=Nat.mul_le_mul hc.2.2 hs.n'
 rw [DQ hs q6,q5 rfl]
 have h2:(pT n x).2.1*1 < 1000000000000000000:=by omega
 have h3:(pT n x).2.2*n < 1000000000000000000:=by omega
 have h4:=hs.two
 exact zV (n:=(pT n x).2.1) (d:=(pT n x).2.2) (m:=n) (e:=1) hc.1 (FC hs) h2 h3 (by omega)
theorem Gu {r5 r6 r7:Bool×Nat×Nat} (q5:rCv n x (cvL n x) [.cells [.bool false]] r5) (q6:rOf [.int .i64 (n:Int),.int .i64 1] [] r6) (q7:ji (λn d m e x=>x=dL false (n*e) (d*m)) [oD r5.1 r5.2.1 r5.2.2,oD r6.1 r6.2.1 r6.2.2] [] r7):r7=fB n x:=by
 rw [DQ hs q6,q5 rfl] at q7
 exact q7 (pT n x).2.1 (pT n x).2.2 n 1 rfl
def rEs (l:List AV) (_:List AO) (r:EST):Prop:=∀n x,l=[lsA n x]->r=pJ n x
omit hs in
theorem rEs.mk {os:List AO} {r:EST} (h:r=pJ n x):rEs [lsA n x] os r:=λn' x' e=>by
 injection e with e _
 obtain ⟨rfl,rfl⟩:=ta e
 exact h
theorem Gr {r3:Nat} {r4 r5 r6 r7:Bool×Nat×Nat} (q3:rLs (λn x r=>r=br x n) [lsA n x] [] r3) (q4:rOf [.int .i64 (r3:Int),.int .i64 (n:Int)] [] r4) (q5:rCv n x (cvL n x) [.cells [.bool false]] r5) (q6:rOf [.int .i64 (n:Int),.int .i64 1] [] r6) (q7:ji (λn d m e x=>x=dL false (n*e) (d*m)) [oD r5.1 r5.2.1 r5.2.2,oD r6.1 r6.2.1 r6.2.2] [] r7):(n,r4,r7)=pJ n x:=by
 rw [Gu hs q5 q6 q7,q4 _ _ rfl,q3 n x rfl,sZ];rfl
end
theorem tE {n:Nat} {x:Nat->Nat} (hs:Sml n x):aR wd vf fG rEs [lsA n x] []:=
 lx (V:=V0) [Ci n x,Cb,Gy n x,Ce,Cf] 5 (.call (xl hs) λr1 q1=>
  .b (!r1) (λh2=>
   .t (r:=(.tup [.agg [.int .i64 0,.str [],.str [],.str [],.str []],.bool false],[])) default (zE hs q1 h2) (zE hs q1 h2)) λh2=>
  .call (sf hs) λr3 q3=>
  .call (Gv hs q3) λr4 q4=>
  .call (Af hs) λr5 q5=>
  .call (Gs hs) λr6 q6=>
  .call (Gt hs q5 q6) λr7 q7=>
  .r (n,r4,r7) (rEs.mk (Gr hs q3 q4 q5 q6 q7))) (by kernel_rfl)
section
variable {n:Nat} {x y:Nat->Nat} (hx:Sml n x) (hy:Sml n y)
include hx
theorem s8:Fr (cI n x).2.1 (cI n x).2.2/\(cI n x).2.1<=25500/\(cI n x).2.2<=100:=by
 have h:=uy hx (Nat.le_refl _);have h2:=hx.n';have:=hx.two
 exact ⟨frL (by omega) (by omega) (by omega),Nat.le_trans (Nat.div_le_self _ _) h,Nat.le_trans (Nat.div_le_self _ _) h2⟩
theorem lL:Fr (fB n x).2.1 (fB n x).2.2/\(fB n x).2.1<=650250000/\(fB n x).2.2<=1000000:=by
 have hc:=vU hx
 have h1:(pT n x).2.2*n<=10000*100:=Nat.mul_le_mul hc.2.2 hx.n'
 have h2:0 < (pT n x).2.2*n:=Nat.mul_pos hc.1.p' (by have:=hx.two;omega)
 exact ⟨frL (by omega) (by omega) h2,Nat.le_trans (Nat.div_le_self _ _) (by omega),Nat.le_trans (Nat.div_le_self _ _) (by omega)⟩
end
def gT (n:Nat) (x y:Nat->Nat):Bool×Nat×Nat:=dL (!Nat.ble ((cI n x).2.1*(cI n y).2.2) ((cI n y).2.1*(cI n x).2.2)) (gap ((cI n y).2.1*(cI n x).2.2) ((cI n x).2.1*(cI n y).2.2)) ((cI n y).2.2*(cI n x).2.2)
def pS (n:Nat) (x y:Nat->Nat):Bool×Nat×Nat:=dL false ((fB n x).2.1*(fB n y).2.2+(fB n y).2.1*(fB n x).2.2) ((fB n x).2.2*(fB n y).2.2)
def rDf (n:Nat) (x y:Nat->Nat) (l:List AV) (_:List AO) (r:EST):Prop:=l=[pK (pJ n x),pK (pJ n y)]->r=(n+n,gT n x y,pS n x y)
theorem rDf.mk {n:Nat} {x y:Nat->Nat} {l:List AV} {os:List AO} {r:EST} (h:r=(n+n,gT n x y,pS n x y)):rDf n x y l os r:=λ_=>h
theorem tU {n:Nat} {x y:Nat->Nat} (hx:Sml n x) (hy:Sml n y):(fB n x).2.1*(fB n y).2.2+(fB n y).2.1*(fB n x).2.2 < 1000000000000000000/\(fB n x).2.2*(fB n y).2.2 < 1000000000000000000:=by
 have h1:=lL hx;have h2:=lL hy
 have a1:(fB n x).2.1*(fB n y).2.2<=650250000*1000000:=Nat.mul_le_mul h1.2.1 h2.2.2
 have a2:(fB n y).2.1*(fB n x).2.2<=650250000*1000000:=Nat.mul_le_mul h2.2.1 h1.2.2
 have a3:(fB n x).2.2*(fB n y).2.2<=1000000*1000000:=Nat.mul_le_mul h1.2.2 h2.2.2
 omega
section
variable {n:Nat} {x y:Nat->Nat} {p q:EST} (hp:Sml n x/\p=pJ n x) (hq:Sml n y/\q=pJ n y)
include hp hq
theorem GO:aR wd wD φWr (ji λn d m e x=>x=dL (!Nat.ble (m*d) (n*e)) (gap (n*e) (m*d)) (d*e)) [oD q.2.1.1 q.2.1.2.1 q.2.1.2.2,oD p.2.1.1 p.2.1.2.1 p.2.1.2.2] []:=by
 have h1:=s8 hp.1;have h2:=s8 hq.1
 have a1:(cI n y).2.1*(cI n x).2.2<=25500*100:=Nat.mul_le_mul h2.2.1 h1.2.2
 have a2:(cI n x).2.1*(cI n y).2.2<=25500*100:=Nat.mul_le_mul h1.2.1 h2.2.2
 have a3:(cI n y).2.2*(cI n x).2.2<=100*100:=Nat.mul_le_mul h2.2.2 h1.2.2
 rw [hp.2,hq.2]
 exact yy (n:=(cI n y).2.1) (d:=(cI n y).2.2) (m:=(cI n x).2.1) (e:=(cI n x).2.2) h2.1 h1.1 (by omega) (by omega)
theorem GQ:aR wd wF φWr (ji λn d m e x=>x=dL false (n*e+m*d) (d*e)) [oD p.2.2.1 p.2.2.2.1 p.2.2.2.2,oD q.2.2.1 q.2.2.2.1 q.2.2.2.2] []:=by
 have h:=tU hp.1 hq.1
 rw [hp.2,hq.2]
 exact An (lL hp.1).1 (lL hq.1).1 h.1 h.2
theorem GP {r1 r2:Bool×Nat×Nat} (q1:ji (λn d m e x=>x=dL (!Nat.ble (m*d) (n*e)) (gap (n*e) (m*d)) (d*e)) [oD q.2.1.1 q.2.1.2.1 q.2.1.2.2,oD p.2.1.1 p.2.1.2.1 p.2.1.2.2] [] r1) (q2:ji (λn d m e x=>x=dL false (n*e+m*d) (d*e)) [oD p.2.2.1 p.2.2.2.1 p.2.2.2.2,oD q.2.2.1 q.2.2.2.1 q.2.2.2.2] [] r2):(p.1+q.1,r1,r2)=(n+n,gT n x y,pS n x y):=by
 rw [hp.2,hq.2] at q1 q2
 rw [q1 _ _ _ _ rfl,q2 _ _ _ _ rfl,hp.2,hq.2];rfl
theorem GN {r1 r2:Bool×Nat×Nat}:Tr (.tup [.agg [.int .i64 (IntKind.wrap .i64 ((p.1:Int)+(q.1:Int))),.str (bif r1.1 then [45]++dec r1.2.1 else dec r1.2.1),.str (dec r1.2.2),.str (bif r2.1 then [45]++dec r2.2.1 else dec r2.2.1),.str (dec r2.2.2)],.bool true],[]) (fG (p.1+q.1,r1,r2)):=by
 have:=hp.1.n'
 have e1:p.1=n:=by rw [hp.2];rfl
 have e2:q.1=n:=by rw [hq.2];rfl
 rw [wrap_i64 (by omega) (by omega),<-Int.natCast_add]
 exact Tr.refl _
theorem xz:aR wd cA fG (rDf n x y) [pK p,pK q] []:=
 lx (V:=V0) [Cd,Cg] 5 (.call (GO hp hq) λr1 q1=>
  .call (GQ hp hq) λr2 q2=>
  .t (r:=(.tup [.agg [.int .i64 (IntKind.wrap .i64 ((p.1:Int)+(q.1:Int))),.str (bif r1.1 then [45]++dec r1.2.1 else dec r1.2.1),.str (dec r1.2.2),.str (bif r2.1 then [45]++dec r2.2.1 else dec r2.2.1),.str (dec r2.2.2)],.bool true],[])) (p.1+q.1,r1,r2) (rDf.mk (GP hp hq q1 q2)) (GN hp hq)) (by kernel_rfl)
end
end Go.WE

namespace Go.WE
open Go Go.Ab Go.Proofs
set_option linter.unusedSectionVars false
def smA (N e:Nat) (g y:Nat->Nat):AV:=.sl .no 10 N λj=>[.str [],.str [],.int .i64 0,.int .i64 0,.int .i64 ((g j:Nat):Int),.int .i64 ((e:Nat):Int),.int .i64 ((y j:Nat):Int),.int .i64 0,.int .i64 0,.bool false]
theorem oJ {N e N' e':Nat} {g y g' y':Nat->Nat} (h:smA N e g y=smA N' e' g' y'):N=N'/\g=g'/\y=y':=by
 unfold smA at h
 injection h with _ _ h1 h2
 refine ⟨h1,funext λj=>?_,funext λj=>?_⟩ <;> have h3:=congrFun h2 j
 ·injection h3 with _ h3;injection h3 with _ h3;injection h3 with _ h3;injection h3 with _ h3;injection h3 with h3 _;injection h3 with _ h3;omega
 ·injection h3 with _ h3;injection h3 with _ h3;injection h3 with _ h3;injection h3 with _ h3;injection h3 with _ h3;injection h3 with _ h3;injection h3 with h3 _;injection h3 with _ h3;omega
structure Smps (N:Nat) (g y:Nat->Nat):Prop where
 n':N<=100
 g':∀j,j < N->g j=1+j % 2
 y':∀j,j < N->y j<=255
theorem Bf (n:Nat) (f:Nat->Nat) {y:Int} {c:Nat} (h:y=c):av n 1 (λj=>[AV.int .i64 (f j:Int)]) (al [.int .i64 0] [(0,.int .i64 y)])=λj=>[.int .i64 ((bc f n c j:Nat):Int)]:=by
 rw [h];exact lr (λx:Nat=>[AV.int .i64 (x:Int)]) n f _ c rfl
theorem C4 (n:Nat):av n 1 (λ_=>[AV.int .i64 0]) (al [.int .i64 0] [(0,.int .i64 0)])=λ_=>[.int .i64 0]:=by
 funext j
 unfold av al
 cases Nat.blt j n <;> cases Nat.blt j (n+1) <;> first | rfl | (cases Nat.beq 0 (j - n) <;> rfl)
abbrev ArT:Type:=Nat×Nat×(Nat->Nat)
structure ArI (N a:Nat) (y:Nat->Nat) (x:ArT):Prop where
 i':x.1<=N
 c':x.2.1=(x.1+2 - a) / 2
 a':a=1∨a=2
 f':∀j,j < x.2.1->x.2.2 j=y (2*j+a - 1)
def arS (N a e:Nat) (g y:Nat->Nat) (x:ArT):St:={env:=[(1,.int .i64 (a:Int)),(4,.sl (.key 24) 1 x.2.1 λj=>[.int .i64 (x.2.2 j:Int)]),(5,.sl (.key 29) 1 x.2.1 λ_=>[.int .i64 0]),(6,.sl (.key 34) 1 x.2.1 λ_=>[.int .i64 0]),(9,smA N e g y),(10,.int .i64 (N:Int)),(11,.int .i64 (x.1:Int))],objs:=[(24,.own 1 x.2.1),(29,.own 1 x.2.1),(34,.own 1 x.2.1)]}
def arO (x:ArT) (k:Ex->St->Res):Res:=k (.exit 0) {env:=[(4,.sl (.key 24) 1 x.2.1 λj=>[.int .i64 (x.2.2 j:Int)]),(5,.sl (.key 29) 1 x.2.1 λ_=>[.int .i64 0]),(6,.sl (.key 34) 1 x.2.1 λ_=>[.int .i64 0])],objs:=[(24,.own 1 x.2.1),(29,.own 1 x.2.1),(34,.own 1 x.2.1)]}
section
variable {N a e:Nat} {g y:Nat->Nat} (hs:Smps N g y)
include hs
theorem C3 {x:ArT} (hx:ArI N a y x):(roomy 8 (x.2.1+1)&&Nat.beq x.2.1 x.2.1)=true:=by
 have:=hs.n';have:=hx.i';have:=hx.c'
 exact cb (by omega)
theorem Hg (ha:a=1∨a=2):ArI N a y (0,0,zf):=⟨Nat.zero_le _,by show 0=(0+2 - a) / 2;omega,ha,λj h=>absurd h (Nat.not_lt_zero _)⟩
omit hs in
theorem Hf {x:ArT} (hx:ArI N a y x) (h1:x.1 < N) (hs:Smps N g y) (h2:((g x.1:Int)==(a:Int))=true):ArI N a y (x.1+1,x.2.1+1,bc x.2.2 x.2.1 (y x.1)):=by
 have h:=hs.g' _ h1;have h2:=eq_of_beq h2;have hc:=hx.c';have ha:=hx.a'
 refine ⟨h1,by show x.2.1+1=(x.1+1+2 - a) / 2;omega,ha,λj hj=>?_⟩
 have hj:j < x.2.1+1:=hj
 show bc x.2.2 x.2.1 (y x.1) j=_
 by_cases e:j=x.2.1
 ·rw [e,bC,show 2*x.2.1+a - 1=x.1 by omega]
 ·rw [aW _ _ e];exact hx.f' j (by omega)
omit hs in
theorem He {x:ArT} (hx:ArI N a y x) (h1:x.1 < N) (hs:Smps N g y) (h2:((g x.1:Int)==(a:Int))=false):ArI N a y (x.1+1,x.2.1,x.2.2):=by
 have h:=hs.g' _ h1;have h2:=ne_of_beq_false h2;have hc:=hx.c';have ha:=hx.a'
 exact ⟨h1,by show x.2.1=(x.1+1+2 - a) / 2;omega,ha,hx.f'⟩
theorem xJ (e:Nat):∃ (u:St->Bool) (z:St->ArT),(∀x:ArT,ArI N a y x->bq u z (arS N a e g y x) λo=>ArI N a y o/\N<=o.1)/\∀L:List (List Nat×Orc),aE (V0.run [] 2 [] L [] mS) mS [1,0,1,0] (mkO u z arO):=
 aQ (Lf:=λL=>L) (arS N a e g y) (ArI N a y) (λx=>N - x.1) arO (λo=>ArI N a y o/\N<=o.1) (by kernel_rfl)
  (λx hx=>.b (decide ((↑x.1:Int) < (↑N:Int))) (λh1=>
   .n (c:=within (↑x.1:Int) N) (ag (aB h1)) (
   .b ((↑(g x.1):Int)==(↑a:Int)) (λh2=>
    .n (c:=roomy 8 (x.2.1+1)&&Nat.beq x.2.1 x.2.1) (C3 hs hx) (
    .n (c:=roomy 8 (x.2.1+1)&&Nat.beq x.2.1 x.2.1) (C3 hs hx) (
    .n (c:=roomy 8 (x.2.1+1)&&Nat.beq x.2.1 x.2.1) (C3 hs hx) (
    .go {env:=[(1,.int .i64 (↑a:Int)),(4,.sl (.key 24) 1 (x.2.1+1) (av x.2.1 1 (λj=>[.int .i64 (↑(x.2.2 j):Int)]) (al [.int .i64 0] [(0,.int .i64 (↑(y x.1):Int))]))),(5,.sl (.key 29) 1 (x.2.1+1) (av x.2.1 1 (λx=>[.int .i64 0]) (al [.int .i64 0] [(0,.int .i64 0)]))),(6,.sl (.key 34) 1 (x.2.1+1) (av x.2.1 1 (λx=>[.int .i64 0]) (al [.int .i64 0] [(0,.int .i64 0)]))),(9,.sl .no 10 N λj=>[.str [],.str [],.int .i64 0,.int .i64 0,.int .i64 (↑(g j):Int),.int .i64 (↑e:Int),.int .i64 (↑(y j):Int),.int .i64 0,.int .i64 0,.bool false]),(10,.int .i64 (↑N:Int)),(11,.int .i64 (IntKind.wrap IntKind.i64 ((↑x.1:Int)+1)))],objs:=[(24,.own 1 (x.2.1+1)),(29,.own 1 (x.2.1+1)),(34,.own 1 (x.2.1+1))]} (x.1+1,x.2.1+1,bc x.2.2 x.2.1 (y x.1)) (Hf hx (aB h1) hs h2) (by have:=aB h1;show N - (x.1+1) < N - x.1;omega) (by rw [aZ (by have:=aB h1;have:=hs.n';omega),Bf _ _ rfl,C4];rfl))))) λh2=>
   .go {env:=[(1,.int .i64 (↑a:Int)),(4,.sl (.key 24) 1 x.2.1 λj=>[.int .i64 (↑(x.2.2 j):Int)]),(5,.sl (.key 29) 1 x.2.1 λx=>[.int .i64 0]),(6,.sl (.key 34) 1 x.2.1 λx=>[.int .i64 0]),(9,.sl .no 10 N λj=>[.str [],.str [],.int .i64 0,.int .i64 0,.int .i64 (↑(g j):Int),.int .i64 (↑e:Int),.int .i64 (↑(y j):Int),.int .i64 0,.int .i64 0,.bool false]),(10,.int .i64 (↑N:Int)),(11,.int .i64 (IntKind.wrap IntKind.i64 ((↑x.1:Int)+1)))],objs:=[(24,.own 1 x.2.1),(29,.own 1 x.2.1),(34,.own 1 x.2.1)]} (x.1+1,x.2.1,x.2.2) (He hx (aB h1) hs h2) (by have:=aB h1;show N - (x.1+1) < N - x.1;omega) (by rw [aZ (by have:=aB h1;have:=hs.n';omega)];rfl))) λh1=>
  .fi x ⟨hx,aF h1⟩)
  (λv L k kn=>by kernel_rfl)
theorem Hd {x:ArT} (q:ArI N a y x/\N<=x.1):x.2.1=(N+2 - a) / 2/\∀j,j < x.2.1->x.2.2 j=y (2*j+a - 1):=by
 have h1:=q.1.i';have h2:=q.2
 obtain h:x.1=N:=by omega
 exact ⟨by rw [<-h];exact q.1.c',q.1.f'⟩
end
abbrev AR:Type:=Nat×(Nat->Nat)
def oG (x:AR):AV×List AO:=(.tup [lsA x.1 x.2,.sl .no 1 x.1 λ_=>[.int .i64 0],.sl .no 1 x.1 λ_=>[.int .i64 0]],[])
def Az (l:List AV) (_:List AO) (r:AR):Prop:=∀N e a g y,l=[smA N e g y,.int .i64 ((a:Nat):Int)]->r.1=(N+2 - a) / 2/\∀j,j < r.1->r.2 j=y (2*j+a - 1)
theorem Az.mk {N e a:Nat} {g y:Nat->Nat} {os:List AO} {r:AR} (h:r.1=(N+2 - a) / 2/\∀j,j < r.1->r.2 j=y (2*j+a - 1)):Az [smA N e g y,.int .i64 (a:Int)] os r:=λN' e' a' g' y' q=>by
 injection q with q1 q
 injection q with q2 _
 injection q2 with _ q2
 obtain ⟨rfl,rfl,rfl⟩:=oJ q1
 rw [show a'=a by omega];exact h
theorem Al {N a e:Nat} {g y:Nat->Nat} (hs:Smps N g y) (ha:a=1∨a=2):aR wd mS oG Az [smA N e g y,.int .i64 (a:Int)] []:=by
 obtain ⟨u,z,hu,l1⟩:=xJ (a:=a) hs e
 exact lb (V:=V0) [] 2 (p:=[1,0,1,0]) l1 (.lp (hu (0,0,zf) (Hg hs ha)) λr1 q1=>
  .r (r1.2.1,r1.2.2) (Az.mk (Hd hs q1))) (by kernel_rfl)
structure Sco (N k c cap:Nat) (g y:Nat->Nat):Prop where
 n':N<=100
 k':k < N
 c':1<=c/\c<=10000
 u':1<=cap/\cap<=255
 y':∀j,j<=k->y j<=cap
 g':g k=1∨g k=2
def koS (N k e c cap:Nat) (g y:Nat->Nat) (i:Nat):St:={env:=[(0,smA N e g y),(1,.int .i64 (↑k:Int)),(3,.int .i64 (cap:Int)),(4,.bool false),(10,.ref 10 0),(12,.ref 12 0),(49,smA (k+1) e (λj=>g (0+j)) λj=>y (0+j)),(50,.int .i64 ((k+1:Nat):Int)),(51,.int .i64 (i:Int))],objs:=[(10,.cells [.int .i64 0,.int .i64 0,.int .i64 0]),(12,.cells [.int .i64 (c:Int),.int .i64 (c:Int)])]}
def koO (N k e c cap:Nat) (g y:Nat->Nat) (_:Unit) (r:Ex->St->Res):Res:=r (.exit 0) {env:=[(0,smA N e g y),(1,.int .i64 (↑k:Int)),(3,.int .i64 (cap:Int)),(4,.bool false),(10,.ref 10 0),(12,.ref 12 0)],objs:=[(10,.cells [.int .i64 0,.int .i64 0,.int .i64 0]),(12,.cells [.int .i64 (c:Int),.int .i64 (c:Int)])]}
def koG (c:Nat) (g:Nat) (y:Nat):Int:=if g=1 then -((2*(c*c)*y:Nat):Int) else ((2*(c*c)*y:Nat):Int)
section
variable {N k e c cap:Nat} {g y:Nat->Nat} (hs:Sco N k c cap g y)
include hs
theorem DC {p:Prop} {i:Nat} (h1:i < k+1) (h2:(bif decide ((y (0+i):Int) < 0) then true else decide ((y (0+i):Int) > (cap:Int)))=true):p:=by
 have:=hs.y' (0+i) (by omega)
 rw [decide_eq_false (by omega),decide_eq_false (by omega)] at h2;cases h2
theorem Ga:(decide (0<=((0:Nat):Int))&&(decide (((0:Nat):Int)<=IntKind.wrap .i64 ((k:Int)+1))&&decide (IntKind.wrap .i64 ((k:Int)+1)<=(N:Int))))=true:=by
 have:=hs.k';have:=hs.n'
 rw [aZ (by omega)]
 rw [decide_eq_true (show (0:Int)<=((0:Nat):Int) by omega),decide_eq_true (show ((0:Nat):Int)<=((k+1:Nat):Int) by omega),decide_eq_true (show ((k+1:Nat):Int)<=(N:Int) by omega)];rfl
theorem F9:Int.toNat (IntKind.wrap .i64 ((k:Int)+1)) - 0=k+1:=by
 have:=hs.k';have:=hs.n'
 rw [aZ (by omega)];rfl
theorem w7:c*c<=100000000/\c*c*cap<=25500000000:=by
 have h:=hs.c'.2
 have h1:c*c<=10000*10000:=Nat.mul_le_mul h h
 exact ⟨h1,Nat.mul_le_mul h1 hs.u'.2⟩
theorem F8:IntKind.wrap .i64 ((c:Int)*(c:Int))=((c*c:Nat):Int):=by
 have:=(w7 hs).1
 rw [<-Int.natCast_mul];exact wrap_i64 (by omega) (by omega)
theorem DD:(IntKind.wrap .i64 (IntKind.wrap .i64 ((c:Int)*(c:Int))*(cap:Int)))=((c*c*cap:Nat):Int):=by
 have:=(w7 hs).2
 rw [F8 hs,<-Int.natCast_mul];exact wrap_i64 (by omega) (by omega)
theorem DE:IntKind.wrap .i64 (IntKind.wrap .i64 (IntKind.wrap .i64 ((c:Int)+(c:Int))*(c:Int))*IntKind.wrap .i64 ((y k:Int) - 0))=((2*(c*c)*y k:Nat):Int)/\2*(c*c)*y k<=51000000000:=by
 have h1:=(w7 hs).1;have h2:=hs.y' k (Nat.le_refl _);have h3:=hs.u'.2;have h4:=hs.c'.2
 have a1:2*(c*c)*y k<=200000000*255:=Nat.mul_le_mul (by omega) (by omega)
 have e1:(c+c)*c=2*(c*c):=by rw [Nat.add_mul];omega
 refine ⟨?_,a1⟩
 have w1:IntKind.wrap .i64 ((c:Int)+(c:Int))=((c+c:Nat):Int):=wrap_i64 (by omega) (by omega)
 have w2:IntKind.wrap .i64 (((c+c:Nat):Int)*(c:Int))=((2*(c*c):Nat):Int):=by rw [<-Int.natCast_mul,e1];exact wrap_i64 (by omega) (by omega)
 have w3:IntKind.wrap .i64 ((y k:Int) - 0)=(y k:Int):=by rw [Int.sub_zero];exact wrap_i64 (by omega) (by omega)
 rw [w1,w2,w3,<-Int.natCast_mul]
 exact wrap_i64 (by omega) (by omega)
theorem Gc (h3:((g k:Int)==1)=true):(IntKind.wrap .i64 (IntKind.wrap .i64 (IntKind.wrap .i64 ((c:Int)*(c:Int))*IntKind.wrap .i64 (0 - 0)) - IntKind.wrap .i64 (IntKind.wrap .i64 (IntKind.wrap .i64 ((c:Int)+(c:Int))*(c:Int))*IntKind.wrap .i64 ((y k:Int) - 0))))=koG c (g k) (y k):=by
 have h:=DE hs;have h3:=eq_of_beq h3
 unfold koG
 rw [if_pos (show g k=1 by omega),h.1,Int.sub_self,show IntKind.wrap .i64 0=0 from rfl,Int.mul_zero,show IntKind.wrap .i64 0=0 from rfl,Int.zero_sub]
 exact wrap_i64 (by omega) (by omega)
theorem Gb (h3:((g k:Int)==1)=false) (h4:((g k:Int)==2)=true):(IntKind.wrap .i64 (IntKind.wrap .i64 (IntKind.wrap .i64 ((c:Int)*(c:Int))*IntKind.wrap .i64 (0 - 0))+IntKind.wrap .i64 (IntKind.wrap .i64 (IntKind.wrap .i64 ((c:Int)+(c:Int))*(c:Int))*IntKind.wrap .i64 ((y k:Int) - 0))))=koG c (g k) (y k):=by
 have h:=DE hs;have h4:=eq_of_beq h4
 unfold koG
 rw [if_neg (show ¬ g k=1 by omega),h.1,Int.sub_self,show IntKind.wrap .i64 0=0 from rfl,Int.mul_zero,show IntKind.wrap .i64 0=0 from rfl,Int.zero_add]
 exact wrap_i64 (by omega) (by omega)
theorem DF {p:Prop} (h3:((g k:Int)==1)=false) (h4:((g k:Int)==2)=false):p:=by
 have:=hs.g';have:=ne_of_beq_false h3;have:=ne_of_beq_false h4;omega
theorem DG {p:Prop} (h:(bif bif bif bif decide ((k:Int) < 0) then true else decide ((k:Int)≥(N:Int)) then true else !bif bif bif decide ((c:Int)≥1) then decide ((c:Int)<=10000) else false then decide ((c:Int)≥1) else false then decide ((c:Int)<=10000) else false then true else decide ((cap:Int) < 1) then true else decide ((cap:Int) > 1048576))=true):p:=by
 have:=hs.k';have:=hs.c';have:=hs.u'
 rw [decide_eq_false (show ¬ (k:Int) < 0 by omega),decide_eq_false (show ¬ (k:Int)≥(N:Int) by omega),decide_eq_true (show (c:Int)≥1 by omega),decide_eq_true (show (c:Int)<=10000 by omega),decide_eq_false (show ¬ (cap:Int) < 1 by omega),decide_eq_false (show ¬ (cap:Int) > 1048576 by omega)] at h
 cases h
theorem w6 (e:Nat):∃ (u:St->Bool) (z:St->Unit),(∀i:Nat,i<=k+1->bq u z (koS N k e c cap g y i) λ_=>True)/\∀L:List (List Nat×Orc),aE (V0.run [] 2 [] L [] wm) wm [1,1,1,0,1,0] (mkO u z (koO N k e c cap g y)):=
 aQ (Lf:=λL=>L) (koS N k e c cap g y) (λi=>i<=k+1) (λi=>k+1 - i) (koO N k e c cap g y) (λ_=>True) (by kernel_rfl)
  (λi hi=>.b (decide ((↑i:Int) < (↑(k+1):Int))) (λh1=>
   .n (c:=within (↑i:Int) (k+1)) (ag (aB h1)) (
   .b (bif decide ((↑(y (0+i)):Int) < 0) then true else decide ((↑(y (0+i)):Int) > (↑cap:Int))) (λh2=>
    .fq (e:=.ret) (s:={env:=[(10,.ref 10 0),(11,.bool false)],objs:=[(10,.cells [.int .i64 0,.int .i64 0,.int .i64 0])]}) default (DC hs (aB h1) h2) (DC hs (aB h1) h2)) λh2=>
   .go {env:=[(0,.sl .no 10 N λj=>[.str [],.str [],.int .i64 0,.int .i64 0,.int .i64 (↑(g j):Int),.int .i64 (↑e:Int),.int .i64 (↑(y j):Int),.int .i64 0,.int .i64 0,.bool false]),(1,.int .i64 (↑k:Int)),(3,.int .i64 (↑cap:Int)),(4,.bool false),(10,.ref 10 0),(12,.ref 12 0),(49,.sl .no 10 (k+1) λj=>[.str [],.str [],.int .i64 0,.int .i64 0,.int .i64 (↑(g (0+j)):Int),.int .i64 (↑e:Int),.int .i64 (↑(y (0+j)):Int),.int .i64 0,.int .i64 0,.bool false]),(50,.int .i64 (↑(k+1):Int)),(51,.int .i64 (IntKind.wrap IntKind.i64 ((↑i:Int)+1)))],objs:=[(10,.cells [.int .i64 0,.int .i64 0,.int .i64 0]),(12,.cells [.int .i64 (↑c:Int),.int .i64 (↑c:Int)])]} (i+1) (aB h1) (by have:=aB h1;show k+1 - (i+1) < k+1 - i;omega) (by rw [aZ (by have:=aB h1;have:=hs.k';have:=hs.n';omega)];rfl))) λh1=>
  .fi () trivial)
  (λv L k kn=>by kernel_rfl)
end
def φSk (x:Int×Int×Int):AV×List AO:=(.tup [.agg [.int .i64 x.1,.int .i64 x.2.1,.int .i64 x.2.2],.bool true],[])
def koL (N k e c cap:Nat) (g y:Nat->Nat):List AV:=[smA N e g y,.int .i64 (k:Int),.agg [.int .i64 (e:Int),.int .i64 (c:Int),.int .i64 (c:Int)],.int .i64 (cap:Int),.bool false]
def rSk (l:List AV) (_:List AO) (r:Int×Int×Int):Prop:=∀N k e c cap g y,l=koL N k e c cap g y->r.1=koG c (g k) (y k)/\r.2.1=((c*c*cap:Nat):Int)
theorem rSk.mk {N k e c cap:Nat} {g y:Nat->Nat} {os:List AO} {r:Int×Int×Int} (hs:Sco N k c cap g y) (h:r.1=koG c (g k) (y k)/\r.2.1=((c*c*cap:Nat):Int)):rSk (koL N k e c cap g y) os r:=λN' k' e' c' cap' g' y' q=>by
 injection q with q1 q
 injection q with q2 q
 injection q with q3 q
 injection q with q4 _
 injection q2 with _ q2
 injection q3 with q3
 injection q3 with _ q3
 injection q3 with q3 _
 injection q3 with _ q3
 injection q4 with _ q4
 obtain ⟨rfl,rfl,rfl⟩:=oJ q1
 rw [show k'=k by omega,show c'=c by omega,show cap'=cap by omega];exact h
theorem vz {N k e c cap:Nat} {g y:Nat->Nat} (hs:Sco N k c cap g y):aR wd wm φSk rSk (koL N k e c cap g y) []:=by
 obtain ⟨u,z,hu,l1⟩:=w6 hs e
 exact lb (V:=V0) [] 2 (p:=[1,1,1,0,1,0]) l1 (.b (bif bif bif bif decide ((↑k:Int) < 0) then true else decide ((↑k:Int)≥(↑N:Int)) then true else !bif bif bif decide ((↑c:Int)≥1) then decide ((↑c:Int)<=10000) else false then decide ((↑c:Int)≥1) else false then decide ((↑c:Int)<=10000) else false then true else decide ((↑cap:Int) < 1) then true else decide ((↑cap:Int) > 1048576)) (λh1=>
   .t (r:=(.tup [.agg [.int .i64 0,.int .i64 0,.int .i64 0],.bool false],[])) default (DG hs h1) (DG hs h1)) λh1=>
  .n (c:=decide (0<=(↑0:Int))&&(decide ((↑0:Int)<=IntKind.wrap IntKind.i64 ((↑k:Int)+1))&&decide (IntKind.wrap IntKind.i64 ((↑k:Int)+1)<=(↑N:Int)))) (Ga hs) (
  .lp (s:={env:=[(0,.sl .no 10 N λj=>[.str [],.str [],.int .i64 0,.int .i64 0,.int .i64 (↑(g j):Int),.int .i64 (↑e:Int),.int .i64 (↑(y j):Int),.int .i64 0,.int .i64 0,.bool false]),(1,.int .i64 (↑k:Int)),(3,.int .i64 (↑cap:Int)),(4,.bool false),(10,.ref 10 0),(12,.ref 12 0),(49,.sl .no 10 (Int.toNat (IntKind.wrap IntKind.i64 ((↑k:Int)+1)) - 0) λj=>[.str [],.str [],.int .i64 0,.int .i64 0,.int .i64 (↑(g (0+j)):Int),.int .i64 (↑e:Int),.int .i64 (↑(y (0+j)):Int),.int .i64 0,.int .i64 0,.bool false]),(50,.int .i64 (↑(Int.toNat (IntKind.wrap IntKind.i64 ((↑k:Int)+1)) - 0):Int)),(51,.int .i64 0)],objs:=[(10,.cells [.int .i64 0,.int .i64 0,.int .i64 0]),(12,.cells [.int .i64 (↑c:Int),.int .i64 (↑c:Int)])]}) (Q:=λ_:Unit=>True) (by rw [F9 hs];exact hu 0 (Nat.zero_le _)) λr2 q2=>
  .n (c:=within (↑k:Int) N) (ag hs.k') (
  .n (c:=within (↑k:Int) N) (ag hs.k') (
  .b ((↑(g k):Int)==1) (λh3=>
   .r ((IntKind.wrap .i64 (IntKind.wrap .i64 (IntKind.wrap .i64 ((c:Int)*(c:Int))*IntKind.wrap .i64 (0 - 0)) - IntKind.wrap .i64 (IntKind.wrap .i64 (IntKind.wrap .i64 ((c:Int)+(c:Int))*(c:Int))*IntKind.wrap .i64 ((y k:Int) - 0)))),(IntKind.wrap .i64 (IntKind.wrap .i64 ((c:Int)*(c:Int))*(cap:Int))),(IntKind.wrap .i64 ((cap:Int)*IntKind.wrap .i64 (IntKind.wrap .i64 (2*IntKind.wrap .i64 ((c:Int)*(c:Int)))+IntKind.wrap .i64 (IntKind.wrap .i64 ((c:Int)+(c:Int))*bif decide ((c:Int) > (c:Int)) then (c:Int) else (c:Int)))))) (rSk.mk hs ⟨Gc hs h3,DD hs⟩)) λh3=>
  .b ((↑(g k):Int)==2) (λh4=>
   .r ((IntKind.wrap .i64 (IntKind.wrap .i64 (IntKind.wrap .i64 ((c:Int)*(c:Int))*IntKind.wrap .i64 (0 - 0))+IntKind.wrap .i64 (IntKind.wrap .i64 (IntKind.wrap .i64 ((c:Int)+(c:Int))*(c:Int))*IntKind.wrap .i64 ((y k:Int) - 0)))),(IntKind.wrap .i64 (IntKind.wrap .i64 ((c:Int)*(c:Int))*(cap:Int))),(IntKind.wrap .i64 ((cap:Int)*IntKind.wrap .i64 (IntKind.wrap .i64 (2*IntKind.wrap .i64 ((c:Int)*(c:Int)))+IntKind.wrap .i64 (IntKind.wrap .i64 ((c:Int)+(c:Int))*bif decide ((c:Int) > (c:Int)) then (c:Int) else (c:Int)))))) (rSk.mk hs ⟨Gb hs h3 h4,DD hs⟩)) λh4=>
  .t (r:=(.tup [.agg [.int .i64 0,.int .i64 0,.int .i64 0],.bool false],[])) default (DF hs h3 h4) (DF hs h3 h4))))) (by kernel_rfl)
end Go.WE

namespace Go.WE
open Go Go.Ab Go.Proofs
set_option linter.unusedSectionVars false
abbrev SC3:Type:=Int×Int×Int
abbrev SL:Type:=Nat×(Nat->SC3)
noncomputable abbrev Cc:Ent:=bN wd wm φSk rSk
def scR (f:Nat->SC3) (j:Nat):List AV:=[.int .i64 (f j).1,.int .i64 (f j).2.1,.int .i64 (f j).2.2]
def wtA (n:Nat):AV:=.sl .no 3 n λ_=>[.int .i64 1,.int .i64 5000,.int .i64 5000]
structure AlI (N:Nat) (g y:Nat->Nat) (x:SL):Prop where
 i':x.1<=N
 f':∀j,j < x.1->(x.2 j).1=koG 5000 (g j) (y j)/\(x.2 j).2.1=6375000000
abbrev AlJ (N:Nat) (g y:Nat->Nat) (x:SL):Prop:=x.1 < N/\∀j,j < x.1->(x.2 j).1=koG 5000 (g j) (y j)/\(x.2 j).2.1=6375000000
abbrev AlP (N:Nat) (g y:Nat->Nat) (x:SL) (o:SC3×SL):Prop:=o.2.1=x.1/\AlJ N g y o.2/\o.1.1=koG 5000 (g o.2.1) (y o.2.1)/\o.1.2.1=6375000000
def aiS (N n:Nat) (g y:Nat->Nat) (x:SL):St:={env:=[(0,smA N 1 g y),(1,wtA n),(2,.int .i64 255),(3,.bool false),(9,.sl (.key 48) 3 x.1 (scR x.2)),(10,.int .i64 (x.1:Int)),(11,.ref 11 0),(16,smA N 1 g y),(17,.int .i64 (N:Int)),(18,.int .i64 (x.1:Int)),(23,wtA n),(24,.int .i64 (n:Int)),(25,.int .i64 0)],objs:=[(11,.cells [.str [],.str [],.int .i64 0,.int .i64 0,.int .i64 (g x.1:Int),.int .i64 1,.int .i64 (y x.1:Int),.int .i64 0,.int .i64 0,.bool false]),(48,.own 3 x.1)]}
def aiO (N n:Nat) (g y:Nat->Nat) (o:SC3×SL) (k:Ex->St->Res):Res:=k (.exit 2) {env:=[(0,smA N 1 g y),(1,wtA n),(2,.int .i64 255),(3,.bool false),(9,.sl (.key 48) 3 (o.2.1+1) (av o.2.1 1 (scR o.2.2) (al [.int .i64 0,.int .i64 0,.int .i64 0] [(0,.agg [.int .i64 o.1.1,.int .i64 o.1.2.1,.int .i64 o.1.2.2])]))),(16,smA N 1 g y),(17,.int .i64 (N:Int)),(18,.int .i64 (o.2.1:Int))],objs:=[(48,.own 3 (o.2.1+1))]}
def aoS (N n:Nat) (g y:Nat->Nat) (x:SL):St:={env:=[(0,smA N 1 g y),(1,wtA n),(2,.int .i64 255),(3,.bool false),(9,.sl (.key 48) 3 x.1 (scR x.2)),(16,smA N 1 g y),(17,.int .i64 (N:Int)),(18,.int .i64 (x.1:Int))],objs:=[(48,.own 3 x.1)]}
def aoO (x:SL) (k:Ex->St->Res):Res:=k (.exit 0) {env:=[(9,.sl (.key 48) 3 x.1 (scR x.2))],objs:=[(48,.own 3 x.1)]}
theorem wk (n:Nat) (f:Nat->SC3) (x:SC3):av n 1 (scR f) (al [.int .i64 0,.int .i64 0,.int .i64 0] [(0,.agg [.int .i64 x.1,.int .i64 x.2.1,.int .i64 x.2.2])])=scR (bc f n x):=lr (λx:SC3=>[AV.int .i64 x.1,.int .i64 x.2.1,.int .i64 x.2.2]) n f _ x rfl
theorem Hm (N:Nat) (g y:Nat->Nat):AlI N g y (0,λ_=>(0,0,0)):=⟨Nat.zero_le _,λj h=>absurd h (Nat.not_lt_zero _)⟩
theorem Ec {n:Nat} {p:Prop} (hn:0 < n) (h:decide ((0:Int) < (n:Int))=false):p:=by have:=of_decide_eq_false h;omega
section
variable {N n:Nat} {g y:Nat->Nat}
theorem Hl {x:SL} {o:SC3×SL} (q:AlP N g y x o):AlI N g y (o.2.1+1,bc o.2.2 o.2.1 o.1):=⟨q.2.1.1,λj hj=>by
 have hj:j < o.2.1+1:=hj
 show (bc o.2.2 o.2.1 o.1 j).1=_/\(bc o.2.2 o.2.1 o.1 j).2.1=_
 by_cases e:j=o.2.1
 ·rw [e,bC];exact q.2.2
 ·rw [aW _ _ e];exact q.2.1.2 j (by omega)⟩
theorem Hj {x:SL} {o:SC3×SL} (q:AlP N g y x o) (h:x.1 < N):N - (o.2.1+1) < N - x.1:=by have:=q.1;omega
theorem Hk {x:SL} (q:AlI N g y x/\N<=x.1):x.1=N/\∀j,j < N->(x.2 j).1=koG 5000 (g j) (y j)/\(x.2 j).2.1=6375000000:=by
 have h1:=q.1.i';have h2:=q.2
 obtain h:x.1=N:=by omega
 exact ⟨h,by rw [<-h];exact q.1.f'⟩
variable (hs:Smps N g y)
include hs
theorem C5 {x:SL} (hx:AlJ N g y x):aR wd wm φSk rSk [smA N 1 g y,.int .i64 (x.1:Int),.agg [.int .i64 1,.int .i64 5000,.int .i64 5000],.int .i64 255,.bool false] []:=by
 have h:=hs.g' _ hx.1
 exact vz (e:=1) (c:=5000) (cap:=255) ⟨hs.n',hx.1,by omega,by omega,λj hj=>hs.y' j (by have:=hx.1;omega),by omega⟩
theorem Hi {x:SL} (hx:AlJ N g y x):(roomy 24 (x.1+1)&&Nat.beq x.1 x.1)=true:=by
 have:=hs.n';have:=hx.1
 exact cb (by omega)
theorem Hh {x:SL} {o:SC3×SL} (q:AlP N g y x o):{env:=[(0,smA N 1 g y),(1,wtA n),(2,.int .i64 255),(3,.bool false),(9,.sl (.key 48) 3 (o.2.1+1) (av o.2.1 1 (scR o.2.2) (al [.int .i64 0,.int .i64 0,.int .i64 0] [(0,.agg [.int .i64 o.1.1,.int .i64 o.1.2.1,.int .i64 o.1.2.2])]))),(16,smA N 1 g y),(17,.int .i64 (N:Int)),(18,.int .i64 (IntKind.wrap .i64 ((o.2.1:Int)+1)))],objs:=[(48,.own 3 (o.2.1+1))]}=aoS N n g y (o.2.1+1,bc o.2.2 o.2.1 o.1):=by
 rw [aZ (by have:=hs.n';have:=q.2.1.1;omega),wk];rfl
theorem xM (hn:0 < n):∃ (u:St->Bool) (z:St->SC3×SL),(∀x:SL,AlJ N g y x->bq u z (aiS N n g y x) (AlP N g y x))/\∀L:List (List Nat×Orc),aE (V0.run [Cc] 5 [] L [] kH) kH [1,1,0,1,0,0,1,1,0,0,1,1,0] (mkO u z (aiO N n g y)):=
 eu (Lf:=λL=>L) (aiS N n g y) (AlJ N g y) (λ_=>0) (aiO N n g y) (AlP N g y) (by kernel_rfl) (λa b x h hp=>by
   have h1:(10,AV.int .i64 (a.1:Int))=(10,AV.int .i64 (b.1:Int)):=by
    have h:=congrArg St.env h
    injection h with _ h;injection h with _ h;injection h with _ h;injection h with _ h;injection h with _ h;injection h with h _
   injection h1 with _ h1
   injection h1 with _ h1
   exact ⟨by have:=hp.1;omega,hp.2⟩)
  (λx hx=>.b (decide (0 < (↑n:Int))) (λh1=>
   .n (c:=within 0 n) (ag hn) (
   .call (C5 hs hx) λr2 q2=>
   .n (c:=roomy 24 (x.1+1)&&Nat.beq x.1 x.1) (Hi hs hx) (
   .fi (r2,x) ⟨rfl,hx,(q2 _ _ _ _ _ _ _ rfl).1,(q2 _ _ _ _ _ _ _ rfl).2⟩))) λh1=>
  .fq (e:=.exit 2) (s:={env:=[(0,.sl .no 10 N λj=>[.str [],.str [],.int .i64 0,.int .i64 0,.int .i64 ((g j:Nat):Int),.int .i64 1,.int .i64 ((y j:Nat):Int),.int .i64 0,.int .i64 0,.bool false]),(1,.sl .no 3 n λ_=>[.int .i64 1,.int .i64 5000,.int .i64 5000]),(2,.int .i64 255),(3,.bool false),(9,.sl (.key 48) 3 x.1 λj=>[.int .i64 (x.2 j).1,.int .i64 (x.2 j).2.1,.int .i64 (x.2 j).2.2]),(16,.sl .no 10 N λj=>[.str [],.str [],.int .i64 0,.int .i64 0,.int .i64 ((g j:Nat):Int),.int .i64 1,.int .i64 ((y j:Nat):Int),.int .i64 0,.int .i64 0,.bool false]),(17,.int .i64 (N:Int)),(18,.int .i64 (x.1:Int))],objs:=[(48,.own 3 x.1)]}) default (Ec hn h1) (Ec hn h1))
  (λv L k kn=>by kernel_rfl)
theorem xK (hn:0 < n) {u:St->Bool} {z:St->SC3×SL} (hv:∀x:SL,AlJ N g y x->bq u z (aiS N n g y x) (AlP N g y x)):∃ (u':St->Bool) (z':St->SL),(∀x:SL,AlI N g y x->bq u' z' (aoS N n g y x) λo=>AlI N g y o/\N<=o.1)/\∀L:List (List Nat×Orc),aE (V0.run [Cc] 5 [] (([1,1,0,1,0,0,1,1,0,0,1,1,0],mkO u z (aiO N n g y))::L) [] kH) kH [1,1,0,1,0] (mkO u' z' aoO):=
 aQ (Lf:=λL=>([1,1,0,1,0,0,1,1,0,0,1,1,0],mkO u z (aiO N n g y))::L) (aoS N n g y) (AlI N g y) (λx=>N - x.1) aoO (λo=>AlI N g y o/\N<=o.1) (by kernel_rfl)
  (λx hx=>.b (decide ((↑x.1:Int) < (↑N:Int))) (λh1=>
   .n (c:=within (↑x.1:Int) N) (ag (aB h1)) (
   .lp (hv x ⟨aB h1,hx.2⟩) λr2 q2=>
   .go {env:=[(0,.sl .no 10 N λj=>[.str [],.str [],.int .i64 0,.int .i64 0,.int .i64 (↑(g j):Int),.int .i64 1,.int .i64 (↑(y j):Int),.int .i64 0,.int .i64 0,.bool false]),(1,.sl .no 3 n λx=>[.int .i64 1,.int .i64 5000,.int .i64 5000]),(2,.int .i64 255),(3,.bool false),(9,.sl (.key 48) 3 (r2.2.1+1) (av r2.2.1 1 (λj=>[.int .i64 (Prod.fst (r2.2.2 j)),.int .i64 (Prod.fst (Prod.snd (r2.2.2 j))),.int .i64 (Prod.snd (Prod.snd (r2.2.2 j)))]) (al [.int .i64 0,.int .i64 0,.int .i64 0] [(0,.agg [.int .i64 r2.1.1,.int .i64 r2.1.2.1,.int .i64 r2.1.2.2])]))),(16,.sl .no 10 N λj=>[.str [],.str [],.int .i64 0,.int .i64 0,.int .i64 (↑(g j):Int),.int .i64 1,.int .i64 (↑(y j):Int),.int .i64 0,.int .i64 0,.bool false]),(17,.int .i64 (↑N:Int)),(18,.int .i64 (IntKind.wrap IntKind.i64 ((↑r2.2.1:Int)+1)))],objs:=[(48,.own 3 (r2.2.1+1))]} (r2.2.1+1,bc r2.2.2 r2.2.1 r2.1) (Hl q2) (Hj q2 (aB h1)) (Hh hs q2))) λh1=>
  .fi x ⟨hx,aF h1⟩)
  (λv L k kn=>by kernel_rfl)
end
def φSl (x:SL):AV×List AO:=(.sl .no 3 x.1 (scR x.2),[])
def rSl (l:List AV) (_:List AO) (r:SL):Prop:=∀N n g y,l=[smA N 1 g y,wtA n,.int .i64 255,.bool false]->r.1=N/\∀j,j < N->(r.2 j).1=koG 5000 (g j) (y j)/\(r.2 j).2.1=6375000000
theorem rSl.mk {N n:Nat} {g y:Nat->Nat} {os:List AO} {r:SL} (h:r.1=N/\∀j,j < N->(r.2 j).1=koG 5000 (g j) (y j)/\(r.2 j).2.1=6375000000):rSl [smA N 1 g y,wtA n,.int .i64 255,.bool false] os r:=λN' n' g' y' q=>by
 injection q with q1 _
 obtain ⟨rfl,rfl,rfl⟩:=oJ q1
 exact h
theorem Am {N n:Nat} {g y:Nat->Nat} (hs:Smps N g y) (hn:0 < n):aR wd kH φSl rSl [smA N 1 g y,wtA n,.int .i64 255,.bool false] []:=by
 obtain ⟨v,w,hv,l2⟩:=xM hs hn
 obtain ⟨u,z,hu,l1⟩:=xK hs hn hv
 exact iU (V:=V0) (T:=[Cc]) (d:=5) 0 (aK (l2 _) (aK (l1 _) bK)) bI (.lp (hu (0,λ_=>(0,0,0)) (Hm N g y)) λr1 q1=>
  .r r1 (rSl.mk (Hk q1))) (by kernel_rfl)
end Go.WE

namespace Go.WE
open Go Go.Ab Go.Proofs
set_option linter.unusedSectionVars false
theorem wY {α τ ι:Type} [Inhabited τ] {V:Env} {T:List Ent} {d:Nat} {Lf:ι->List (List Nat×Orc)} {W:List (List Nat×Vw)} {f:FuncId} {p:List Nat} (S:α->St) (Inv:α->Prop) (μ:α->Nat) (out:τ->(Ex->St->Res)->Res) (Post:α->τ->Prop) (hb:qt (cY (bt V.P f) p)=true) (hi:∀a b x,S a=S b->Post a x->Post b x)
  (h:∀v,Inv v->∃e:ι->(Ex->St->Res)->(St->Res)->Res,RT S Inv μ out Post v e/\∀i k kn,cW (V.run T d [] (Lf i) W f) f 9 p (S v) kn k=e i k kn) :
  ∃ (u:St->Bool) (w:St->τ),(∀v,Inv v->bq u w (S v) (Post v))/\∀i,aE (V.run T d [] (Lf i) W f) f p (mkO u w out):=by
 obtain ⟨b,hb⟩:∃b,cY (bt V.P f) p=.loop b:=by
  cases hc:cY (bt V.P f) p with
  | loop b=>exact ⟨b,rfl⟩
  | _=>rw [hc] at hb;cases hb
 obtain ⟨w,hw,hl⟩:=mF (Xf:=λi=>V.run T d [] (Lf i) W f) (f:=f) (p:=p) (b:=b) S Inv μ out Post (λ_=>hb) 9 λv hv=>by
  obtain ⟨e,he,hr⟩:=h v hv
  exact RT.eq (λi k kn=>hr i k kn) he
 exact ⟨pq S Inv,uh S Inv w,λv hv=>⟨kr hv,iv hw hi hv⟩,hl⟩
def prA (n:Nat) (p q:Nat->Nat):AV:=.sl .no 2 n λj=>[.int .u8 ((p j:Nat):Int),.int .u8 ((q j:Nat):Int)]
def ver:Nat->Int
 | 0=>0
 | _+1=>1
def mmR (f:Nat->Nat×Nat) (j:Nat):List AV:=[.str [],.str [],.int .i64 0,.int .i64 0,.int .i64 (((f j).1:Nat):Int),.int .i64 (ver (f j).1),.int .i64 (((f j).2:Nat):Int),.int .i64 0,.int .i64 0,.bool false]
theorem vw (n:Nat) (f:Nat->Nat×Nat) (a v:Nat) {y z:Int} (h1:y=((a+1:Nat):Int)) (h2:z=v):av n 1 (mmR f) (al [.str [],.str [],.int .i64 0,.int .i64 0,.int .i64 0,.int .i64 0,.int .i64 0,.int .i64 0,.int .i64 0,.bool false] [(0,.agg [.str [],.str [],.int .i64 0,.int .i64 0,.int .i64 y,.int .i64 1,.int .i64 z,.int .i64 0,.int .i64 0,.bool false])])=mmR (bc f n (a+1,v)):=by
 rw [h1,h2]
 exact lr (λx:Nat×Nat=>[AV.str [],.str [],.int .i64 0,.int .i64 0,.int .i64 (x.1:Int),.int .i64 (ver x.1),.int .i64 (x.2:Int),.int .i64 0,.int .i64 0,.bool false]) n f _ (a+1,v) rfl
structure Two (n:Nat) (p q:Nat->Nat):Prop where
 n':n<=40
 two:2<=n
 p':∀j,p j<=255
 q':∀j,q j<=255
def Wri (p q:Nat->Nat) (i:Nat) (f:Nat->Nat×Nat):Prop:=∀k,k < i->f (2*k)=(1,p k)/\f (2*k+1)=(2,q k)
abbrev LwT:Type:=Nat×Nat×(Nat->Nat×Nat)
abbrev LoT:Type:=Nat×(Nat->Nat×Nat)
abbrev LwI (n:Nat) (p q:Nat->Nat) (x:LwT):Prop:=x.1 < n/\Two n p q/\Wri p q x.1 x.2.2/\(1<=x.2.1->x.2.2 (2*x.1)=(1,p x.1))/\(2<=x.2.1->x.2.2 (2*x.1+1)=(2,q x.1))
abbrev LwJ (n:Nat) (p q:Nat->Nat) (x:LwT):Prop:=x.2.1<=2/\LwI n p q x
abbrev LoI (n:Nat) (p q:Nat->Nat) (x:LoT):Prop:=x.1<=n/\Two n p q/\Wri p q x.1 x.2
def lwS (n:Nat) (p q:Nat->Nat) (x:LwT):St:={env:=[(0,prA n p q),(3,.sl (.key 58) 10 (2*x.1+x.2.1) (mmR x.2.2)),(4,.int .i64 (x.1:Int)),(5,.int .i64 ((x.2.1+1:Nat):Int))],objs:=[(58,.own 10 (2*x.1+x.2.1))]}
def lwO (n:Nat) (p q:Nat->Nat) (o:LoT) (k:Ex->St->Res):Res:=k (.exit 2) {env:=[(0,prA n p q),(3,.sl (.key 58) 10 (2*o.1+2) (mmR o.2)),(4,.int .i64 (o.1:Int))],objs:=[(58,.own 10 (2*o.1+2))]}
def loS (n:Nat) (p q:Nat->Nat) (x:LoT):St:={env:=[(0,prA n p q),(3,.sl (.key 58) 10 (2*x.1) (mmR x.2)),(4,.int .i64 (x.1:Int))],objs:=[(58,.own 10 (2*x.1))]}
def loO (x:LoT) (k:Ex->St->Res):Res:=k (.exit 0) {env:=[(3,.sl (.key 58) 10 (2*x.1) (mmR x.2))],objs:=[(58,.own 10 (2*x.1))]}
section
variable {n:Nat} {p q:Nat->Nat} {i t:Nat} {f:Nat->Nat×Nat} (hx:LwI n p q (i,t,f))
include hx
theorem Dz {m:Nat} (hm:m=2*i∨m=2*i+1:=by omega):(roomy 96 (m+1)&&Nat.beq m m)=true:=by
 have:=hx.1;have:=hx.2.1.n'
 have h:i < n:=hx.1
 exact cb (by omega)
theorem FU:IntKind.wrap .i64 (p i:Int)=(p i:Int):=by
 have:=hx.2.1.p' i
 exact wrap_i64 (by omega) (by omega)
theorem FT:IntKind.wrap .i64 (q i:Int)=(q i:Int):=by
 have:=hx.2.1.q' i
 exact wrap_i64 (by omega) (by omega)
theorem rV {m:Nat} (hm:2*i<=m) (x:Nat×Nat):Wri p q i (bc f m x):=λk hk=>by
 rw [aW _ _ (by omega),aW _ _ (by omega)];exact hx.2.2.1 k hk
theorem F0:LwJ n p q (i,1,bc f (2*i+0) (1,p i)):=⟨(by decide:1<=2),hx.1,hx.2.1,rV hx (by omega) _,λ_=>bC _ _ _,λh=>absurd (show 2<=1 from h) (by decide)⟩
end
section
variable {n:Nat} {p q:Nat->Nat} {i:Nat} {f:Nat->Nat×Nat}
theorem FZ (hx:LwI n p q (i,1,f)):LwJ n p q (i,2,bc f (2*i+1) (2,q i)):=⟨Nat.le_refl _,hx.1,hx.2.1,rV hx (by omega) _,λ_=>by
 show bc f (2*i+1) (2,q i) (2*i)=_
 rw [aW _ _ (by omega)];exact hx.2.2.2.1 (Nat.le_refl 1),λ_=>bC _ _ _⟩
theorem FY (hx:LwI n p q (i,2,f)):Wri p q (i+1) f:=λk hk=>by
 by_cases h:k=i
 ·rw [h];exact ⟨hx.2.2.2.1 (by decide:1<=2),hx.2.2.2.2 (Nat.le_refl 2)⟩
 ·exact hx.2.2.1 k (by show k < i;omega)
theorem BH {t:Nat} (hx:LwI n p q (i,t,f)):({env:=[(0,.sl .no 2 n λj=>[.int .u8 (↑(p j):Int),.int .u8 (↑(q j):Int)]),(3,.sl (.key 58) 10 (2*i+1) (av (2*i) 1 (λj=>[.str [],.str [],.int .i64 0,.int .i64 0,.int .i64 (↑(Prod.fst (f j)):Int),.int .i64 (ver (Prod.fst (f j))),.int .i64 (↑(Prod.snd (f j)):Int),.int .i64 0,.int .i64 0,.bool false]) (al [.str [],.str [],.int .i64 0,.int .i64 0,.int .i64 0,.int .i64 0,.int .i64 0,.int .i64 0,.int .i64 0,.bool false] [(0,.agg [.str [],.str [],.int .i64 0,.int .i64 0,.int .i64 1,.int .i64 1,.int .i64 (IntKind.wrap IntKind.i64 (↑(p i):Int)),.int .i64 0,.int .i64 0,.bool false])]))),(4,.int .i64 (↑i:Int)),(5,.int .i64 (IntKind.wrap IntKind.i64 (1+1)))],objs:=[(58,.own 10 (2*i+1))]}:St)=lwS n p q (i,1,bc f (2*i+0) (1,p i)):=by
 rw [show (λj=>[AV.str [],.str [],.int .i64 0,.int .i64 0,.int .i64 (((f j).1:Nat):Int),.int .i64 (ver (f j).1),.int .i64 (((f j).2:Nat):Int),.int .i64 0,.int .i64 0,.bool false])=mmR f from rfl,vw (y:=1) (2*i) f 0 (p i) rfl (FU hx)];rfl
theorem BG {t:Nat} (hx:LwI n p q (i,t,f)):({env:=[(0,.sl .no 2 n λj=>[.int .u8 (↑(p j):Int),.int .u8 (↑(q j):Int)]),(3,.sl (.key 58) 10 (2*i+1+1) (av (2*i+1) 1 (λj=>[.str [],.str [],.int .i64 0,.int .i64 0,.int .i64 (↑(Prod.fst (f j)):Int),.int .i64 (ver (Prod.fst (f j))),.int .i64 (↑(Prod.snd (f j)):Int),.int .i64 0,.int .i64 0,.bool false]) (al [.str [],.str [],.int .i64 0,.int .i64 0,.int .i64 0,.int .i64 0,.int .i64 0,.int .i64 0,.int .i64 0,.bool false] [(0,.agg [.str [],.str [],.int .i64 0,.int .i64 0,.int .i64 2,.int .i64 1,.int .i64 (IntKind.wrap IntKind.i64 (↑(q i):Int)),.int .i64 0,.int .i64 0,.bool false])]))),(4,.int .i64 (↑i:Int)),(5,.int .i64 (IntKind.wrap IntKind.i64 (2+1)))],objs:=[(58,.own 10 (2*i+1+1))]}:St)=lwS n p q (i,2,bc f (2*i+1) (2,q i)):=by
 rw [show (λj=>[AV.str [],.str [],.int .i64 0,.int .i64 0,.int .i64 (((f j).1:Nat):Int),.int .i64 (ver (f j).1),.int .i64 (((f j).2:Nat):Int),.int .i64 0,.int .i64 0,.bool false])=mmR f from rfl,vw (y:=2) (2*i+1) f 1 (q i) rfl (FT hx)];rfl
end
section
variable {n:Nat} {p q:Nat->Nat}
abbrev LwP (p q:Nat->Nat) (x:LwT) (o:LoT):Prop:=o.1=x.1/\Wri p q (x.1+1) o.2
theorem FX (T:List Ent) (n:Nat) (p q:Nat->Nat) (i:Nat) (f:Nat->Nat×Nat) (hx:LwI n p q (i,0,f)):∃e:List (List Nat×Orc)->(Ex->St->Res)->(St->Res)->Res,RT (lwS n p q) (LwJ n p q) (λx=>2 - x.2.1) (lwO n p q) (LwP p q) (i,0,f) e/\∀L k kn,cW (V0.run T 5 [] L [] az) az 9 [1,1,1,1,0,1,0,0,1,0,0,1,0] (lwS n p q (i,0,f)) kn k=e L k kn:=
 ⟨_,.n (c:=within (↑i:Int) n) (ag hx.1) (
  .n (c:=roomy 96 (2*i+1)&&Nat.beq (2*i) (2*i)) (Dz hx) (
  .nx {env:=[(0,.sl .no 2 n λj=>[.int .u8 (↑(p j):Int),.int .u8 (↑(q j):Int)]),(3,.sl (.key 58) 10 (2*i+1) (av (2*i) 1 (λj=>[.str [],.str [],.int .i64 0,.int .i64 0,.int .i64 (↑(Prod.fst (f j)):Int),.int .i64 (ver (Prod.fst (f j))),.int .i64 (↑(Prod.snd (f j)):Int),.int .i64 0,.int .i64 0,.bool false]) (al [.str [],.str [],.int .i64 0,.int .i64 0,.int .i64 0,.int .i64 0,.int .i64 0,.int .i64 0,.int .i64 0,.bool false] [(0,.agg [.str [],.str [],.int .i64 0,.int .i64 0,.int .i64 1,.int .i64 1,.int .i64 (IntKind.wrap IntKind.i64 (↑(p i):Int)),.int .i64 0,.int .i64 0,.bool false])]))),(4,.int .i64 (↑i:Int)),(5,.int .i64 (IntKind.wrap IntKind.i64 (1+1)))],objs:=[(58,.own 10 (2*i+1))]} (i,1,bc f (2*i+0) (1,p i)) (F0 hx) (by show 2 - 1 < 2 - 0;decide) (λ_ h=>h) (BH hx))),λL k kn=>by kernel_rfl⟩
theorem FW (T:List Ent) (n:Nat) (p q:Nat->Nat) (i:Nat) (f:Nat->Nat×Nat) (hx:LwI n p q (i,1,f)):∃e:List (List Nat×Orc)->(Ex->St->Res)->(St->Res)->Res,RT (lwS n p q) (LwJ n p q) (λx=>2 - x.2.1) (lwO n p q) (LwP p q) (i,1,f) e/\∀L k kn,cW (V0.run T 5 [] L [] az) az 9 [1,1,1,1,0,1,0,0,1,0,0,1,0] (lwS n p q (i,1,f)) kn k=e L k kn:=
 ⟨_,.n (c:=within (↑i:Int) n) (ag hx.1) (
  .n (c:=roomy 96 (2*i+1+1)&&Nat.beq (2*i+1) (2*i+1)) (Dz hx) (
  .nx {env:=[(0,.sl .no 2 n λj=>[.int .u8 (↑(p j):Int),.int .u8 (↑(q j):Int)]),(3,.sl (.key 58) 10 (2*i+1+1) (av (2*i+1) 1 (λj=>[.str [],.str [],.int .i64 0,.int .i64 0,.int .i64 (↑(Prod.fst (f j)):Int),.int .i64 (ver (Prod.fst (f j))),.int .i64 (↑(Prod.snd (f j)):Int),.int .i64 0,.int .i64 0,.bool false]) (al [.str [],.str [],.int .i64 0,.int .i64 0,.int .i64 0,.int .i64 0,.int .i64 0,.int .i64 0,.int .i64 0,.bool false] [(0,.agg [.str [],.str [],.int .i64 0,.int .i64 0,.int .i64 2,.int .i64 1,.int .i64 (IntKind.wrap IntKind.i64 (↑(q i):Int)),.int .i64 0,.int .i64 0,.bool false])]))),(4,.int .i64 (↑i:Int)),(5,.int .i64 (IntKind.wrap IntKind.i64 (2+1)))],objs:=[(58,.own 10 (2*i+1+1))]} (i,2,bc f (2*i+1) (2,q i)) (FZ hx) (by show 2 - 2 < 2 - 1;decide) (λ_ h=>h) (BG hx))),λL k kn=>by kernel_rfl⟩
theorem FV (T:List Ent) (n:Nat) (p q:Nat->Nat) (i:Nat) (f:Nat->Nat×Nat) (hx:LwI n p q (i,2,f)):∃e:List (List Nat×Orc)->(Ex->St->Res)->(St->Res)->Res,RT (lwS n p q) (LwJ n p q) (λx=>2 - x.2.1) (lwO n p q) (LwP p q) (i,2,f) e/\∀L k kn,cW (V0.run T 5 [] L [] az) az 9 [1,1,1,1,0,1,0,0,1,0,0,1,0] (lwS n p q (i,2,f)) kn k=e L k kn:=
 ⟨_,.fi (i,f) ⟨rfl,FY hx⟩,λL k kn=>by kernel_rfl⟩
theorem wT (T:List Ent) (n:Nat) (p q:Nat->Nat):∃ (u:St->Bool) (z:St->LoT),(∀x,LwJ n p q x->bq u z (lwS n p q x) (LwP p q x))/\∀L:List (List Nat×Orc),aE (V0.run T 5 [] L [] az) az [1,1,1,1,0,1,0,0,1,0,0,1,0] (mkO u z (lwO n p q)):=
 wY (Lf:=λL=>L) (lwS n p q) (LwJ n p q) (λx=>2 - x.2.1) (lwO n p q) (LwP p q) (by kernel_rfl) (λa b x h hp=>by
   have h1:(4,AV.int .i64 (a.1:Int))=(4,AV.int .i64 (b.1:Int)):=by
    have h:=congrArg St.env h
    injection h with _ h;injection h with _ h;injection h with h _
   injection h1 with _ h1
   injection h1 with _ h1
   rw [LwP,show b.1=a.1 by omega];exact hp) λx hx=>by
  obtain ⟨i,t,f⟩:=x
  have ht:t<=2:=hx.1
  match t,ht,hx with
  | 0,_,hx=>exact FX T n p q i f hx.2
  | 1,_,hx=>exact FW T n p q i f hx.2
  | 2,_,hx=>exact FV T n p q i f hx.2
  | t+3,h,_=>exact absurd h (by omega)
theorem wZ (T:List Ent) (n:Nat) (p q:Nat->Nat) {u:St->Bool} {z:St->LoT} (hv:∀x,LwJ n p q x->bq u z (lwS n p q x) (LwP p q x)):∃ (u':St->Bool) (z':St->LoT),(∀x,LoI n p q x->bq u' z' (loS n p q x) λo=>LoI n p q o/\n<=o.1)/\∀L:List (List Nat×Orc),aE (V0.run T 5 [] (([1,1,1,1,0,1,0,0,1,0,0,1,0],mkO u z (lwO n p q))::L) [] az) az [1,1,1,1,0,1,0] (mkO u' z' loO):=
 aQ (Lf:=λL=>([1,1,1,1,0,1,0,0,1,0,0,1,0],mkO u z (lwO n p q))::L) (loS n p q) (LoI n p q) (λx=>n - x.1) loO (λo=>LoI n p q o/\n<=o.1) (by kernel_rfl)
  (λx hx=>.b (decide ((↑x.1:Int) < (↑n:Int))) (λh1=>
   .lp (hv (x.1,0,x.2) ⟨Nat.zero_le 2,aB h1,hx.2.1,hx.2.2,λh=>absurd (show 1<=0 from h) (by decide),λh=>absurd (show 2<=0 from h) (by decide)⟩) λr2 q2=>
   .go {env:=[(0,.sl .no 2 n λj=>[.int .u8 (↑(p j):Int),.int .u8 (↑(q j):Int)]),(3,.sl (.key 58) 10 (2*r2.1+2) λj=>[.str [],.str [],.int .i64 0,.int .i64 0,.int .i64 (↑(Prod.fst (r2.2 j)):Int),.int .i64 (ver (Prod.fst (r2.2 j))),.int .i64 (↑(Prod.snd (r2.2 j)):Int),.int .i64 0,.int .i64 0,.bool false]),(4,.int .i64 (IntKind.wrap IntKind.i64 ((↑r2.1:Int)+1)))],objs:=[(58,.own 10 (2*r2.1+2))]} (r2.1+1,r2.2) ⟨by have:=aB h1;have:=q2.1;show r2.1+1<=n;omega,hx.2.1,by rw [q2.1];exact q2.2⟩ (by have:=aB h1;have:=q2.1;show n - (r2.1+1) < n - x.1;omega) (by rw [aZ (by have:=q2.1;have:=aB h1;have:=hx.2.1.n';have h9:r2.1=x.1:=q2.1;omega)];rfl)) λh1=>
  .fi x ⟨hx,aF h1⟩)
  (λv L k kn=>by kernel_rfl)
end
end Go.WE

namespace Go.WE
open Go Go.Ab Go.Proofs
theorem wW {a b a' b':Nat} (hb:0 < b) (hb':0 < b') (h:a*b'=a'*b):a / Nat.gcd b a=a' / Nat.gcd b' a'/\b / Nat.gcd b a=b' / Nat.gcd b' a':=by
 have g0:0 < Nat.gcd b a:=Nat.gcd_pos_of_pos_left _ hb
 have g0':0 < Nat.gcd b' a':=Nat.gcd_pos_of_pos_left _ hb'
 have c1:Nat.Coprime (b / Nat.gcd b a) (a / Nat.gcd b a):=Nat.gcd_div_gcd_div_gcd_of_pos_left hb
 have c2:Nat.Coprime (b' / Nat.gcd b' a') (a' / Nat.gcd b' a'):=Nat.gcd_div_gcd_div_gcd_of_pos_left hb'
 have e1:=Nat.mul_div_cancel' (Nat.gcd_dvd_right b a)
 have e2:=Nat.mul_div_cancel' (Nat.gcd_dvd_left b a)
 have e3:=Nat.mul_div_cancel' (Nat.gcd_dvd_right b' a')
 have e4:=Nat.mul_div_cancel' (Nat.gcd_dvd_left b' a')
 have q0:0 < b / Nat.gcd b a:=Nat.div_pos (Nat.gcd_le_left _ hb) g0
 generalize Nat.gcd b a=g at *
 generalize Nat.gcd b' a'=g' at *
 generalize a / g=p at *
 generalize b / g=q at *
 generalize a' / g'=p' at *
 generalize b' / g'=q' at *
 subst e1 e2 e3 e4
 have h1:p*q'=p'*q:=by
  refine Nat.eq_of_mul_eq_mul_left (Nat.mul_pos g0 g0') ?_
  have h2:g*p*(g'*q')=g'*p'*(g*q):=h
  rw [Nat.mul_mul_mul_comm] at h2
  rw [h2,Nat.mul_mul_mul_comm,Nat.mul_comm g' g]
 have d1:q ∣ q':=c1.dvd_of_dvd_mul_left (by rw [h1];exact Nat.dvd_mul_left _ _)
 have d2:q' ∣ q:=c2.dvd_of_dvd_mul_left (by rw [<-h1];exact Nat.dvd_mul_left _ _)
 have e:=Nat.dvd_antisymm d1 d2
 subst e
 exact ⟨Nat.eq_of_mul_eq_mul_right q0 h1,rfl⟩
theorem uT {s:Bool} {a b a' b':Nat} (hb:0 < b) (hb':0 < b') (h:a*b'=a'*b):dL s a b=dL s a' b':=by
 obtain ⟨h1,h2⟩:=wW hb hb' h
 have h3:(a==0)=(a'==0):=by
  rw [Bool.eq_iff_iff,beq_iff_eq,beq_iff_eq]
  constructor
  ·intro e
   rw [e,Nat.zero_mul] at h
   rcases Nat.mul_eq_zero.mp h.symm with h | h <;> omega
  ·intro e
   rw [e,Nat.zero_mul] at h
   rcases Nat.mul_eq_zero.mp h with h | h <;> omega
 unfold dL
 rw [h1,h2,h3]
theorem tv (k a b:Nat):k*gap a b=gap (k*a) (k*b):=by
 unfold gap
 rw [Nat.mul_add,Nat.mul_sub,Nat.mul_sub]
theorem vi {n:Nat} {x y:Nat->Nat} (hn:0 < n):gT n x y=ofT (2*((br y n:Int) - (br x n:Int))) ((2*n:Nat):Int):=by
 have e1:(2*((br y n:Int) - (br x n:Int))).natAbs=2*gap (br y n) (br x n):=by unfold gap;omega
 have e2:(!(decide (2*((br y n:Int) - (br x n:Int)) < 0)==decide (((2*n:Nat):Int) < 0)))=!Nat.ble (br x n) (br y n):=by
  rw [decide_eq_false (show ¬ ((2*n:Nat):Int) < 0 by omega)]
  by_cases h:br x n<=br y n
  ·rw [decide_eq_false (by omega),Nat.ble_eq_true_of_le h];rfl
  ·rw [decide_eq_true (by omega),show Nat.ble (br x n) (br y n)=false from Bool.eq_false_iff.mpr λh'=>h (Nat.le_of_ble_eq_true h')];rfl
 unfold ofT
 rw [e1,e2,Int.natAbs_natCast]
 show dL (!Nat.ble (br x n / Nat.gcd n (br x n)*(n / Nat.gcd n (br y n))) (br y n / Nat.gcd n (br y n)*(n / Nat.gcd n (br x n)))) (gap (br y n / Nat.gcd n (br y n)*(n / Nat.gcd n (br x n))) (br x n / Nat.gcd n (br x n)*(n / Nat.gcd n (br y n)))) (n / Nat.gcd n (br y n)*(n / Nat.gcd n (br x n)))=_
 generalize br x n=A
 generalize br y n=B
 have gA:0 < Nat.gcd n A:=Nat.gcd_pos_of_pos_left _ hn
 have gB:0 < Nat.gcd n B:=Nat.gcd_pos_of_pos_left _ hn
 have p1:=Nat.div_pos (Nat.gcd_le_left A hn) gA
 have p2:=Nat.div_pos (Nat.gcd_le_left B hn) gB
 have a1:=Nat.mul_div_cancel' (Nat.gcd_dvd_right n A)
 have a2:=Nat.mul_div_cancel' (Nat.gcd_dvd_left n A)
 have b1:=Nat.mul_div_cancel' (Nat.gcd_dvd_right n B)
 have b2:=Nat.mul_div_cancel' (Nat.gcd_dvd_left n B)
 generalize Nat.gcd n A=g at *
 generalize Nat.gcd n B=f at *
 generalize A / g=a at *
 generalize B / f=b at *
 generalize n / g=e at *
 generalize n / f=d at *
 have k1:f*g*(b*e)=n*B:=by rw [Nat.mul_mul_mul_comm,b1,a2,Nat.mul_comm]
 have k2:f*g*(a*d)=n*A:=by rw [Nat.mul_comm a d,Nat.mul_mul_mul_comm,b2,a1]
 have k3:f*g*(d*e)=n*n:=by rw [Nat.mul_mul_mul_comm,b2,a2]
 have hG:0 < f*g:=Nat.mul_pos gB gA
 have s1:Nat.ble (a*d) (b*e)=Nat.ble A B:=by
  rw [Bool.eq_iff_iff,Nat.ble_eq,Nat.ble_eq]
  constructor
  ·intro h
   have h:=Nat.mul_le_mul_left (f*g) h
   rw [k1,k2] at h
   exact Nat.le_of_mul_le_mul_left h hn
  ·intro h
   refine Nat.le_of_mul_le_mul_left (c:=f*g) ?_ hG
   rw [k1,k2]
   exact Nat.mul_le_mul_left n h
 rw [s1]
 refine uT (Nat.mul_pos p2 p1) (by omega) (Nat.eq_of_mul_eq_mul_left hG ?_)
 have k4:f*g*gap (b*e) (a*d)=n*gap B A:=by rw [tv,k1,k2,<-tv]
 rw [<-Nat.mul_assoc,k4,Nat.mul_left_comm (f*g),k3]
 generalize gap B A=z
 rw [Nat.mul_left_comm (n*z),Nat.mul_assoc 2 z,Nat.mul_comm n z,Nat.mul_assoc z]
end Go.WE

namespace Go.WE
open Go Go.Ab Go.Proofs
set_option linter.unusedSectionVars false
abbrev ET:Type:=Nat×Txt×Txt×Txt×Txt
structure L3 where
 c:Nat
 m:Nat
 i:Nat
 r:Nat->List AV
 w:Nat->SC3
 a8:ET
 a9:ET
 a10:ET
 s:Int
instance:Inhabited L3:=⟨⟨0,0,0,λ_=>[],λ_=>(0,0,0),(0,[],[],[],[]),(0,[],[],[],[]),(0,[],[],[],[]),0⟩⟩
def hW (w:Nat->SC3) (j:Nat):Int:=Int.tdiv (w j).1 25000000
def sW (w:Nat->SC3):Nat->Int
 | 0=>0
 | n+1=>sW w n+hW w n
def Wok (w:Nat->SC3) (m:Nat):Prop:=∀j,j < m->(w j).1=25000000*hW w j/\-510<=hW w j/\hW w j<=510/\(w j).2.1=6375000000
structure L3I (x:L3):Prop where
 i':x.i<=x.m
 m':x.m<=100
 w':Wok x.w x.m
 s':x.s=sW x.w x.i
def l3S (x:L3):St:={env:=[(3,.sl (.key 58) 10 x.c x.r),(6,.sl .no 3 x.m (scR x.w)),(13,.ref 13 0),(15,.ref 15 0),(17,.ref 17 0),(19,.int .i64 x.s),(20,.int .i64 (x.i:Int))],objs:=[(13,.cells [.int .i64 (x.a8.1:Int),.str x.a8.2.1,.str x.a8.2.2.1,.str x.a8.2.2.2.1,.str x.a8.2.2.2.2]),(15,.cells [.int .i64 (x.a9.1:Int),.str x.a9.2.1,.str x.a9.2.2.1,.str x.a9.2.2.2.1,.str x.a9.2.2.2.2]),(17,.cells [.int .i64 (x.a10.1:Int),.str x.a10.2.1,.str x.a10.2.2.1,.str x.a10.2.2.2.1,.str x.a10.2.2.2.2]),(58,.own 10 x.c)]}
def l3O (x:L3) (k:Ex->St->Res):Res:=k (.exit 4) {env:=[(3,.sl (.key 58) 10 x.c x.r),(6,.sl .no 3 x.m (scR x.w)),(13,.ref 13 0),(15,.ref 15 0),(17,.ref 17 0),(19,.int .i64 x.s)],objs:=[(13,.cells [.int .i64 (x.a8.1:Int),.str x.a8.2.1,.str x.a8.2.2.1,.str x.a8.2.2.2.1,.str x.a8.2.2.2.2]),(15,.cells [.int .i64 (x.a9.1:Int),.str x.a9.2.1,.str x.a9.2.2.1,.str x.a9.2.2.2.1,.str x.a9.2.2.2.2]),(17,.cells [.int .i64 (x.a10.1:Int),.str x.a10.2.1,.str x.a10.2.2.1,.str x.a10.2.2.2.1,.str x.a10.2.2.2.2]),(58,.own 10 x.c)]}
def L3P (x o:L3):Prop:=o.c=x.c/\o.m=x.m/\o.a8=x.a8/\o.a9=x.a9/\o.a10=x.a10/\o.s=sW x.w x.m
theorem wj {w w':Nat->SC3} (h:scR w=scR w'):w=w':=funext λj=>by
 have h:=congrFun h j
 injection h with h1 h
 injection h with h2 h
 injection h with h3 _
 injection h1 with _ h1
 injection h2 with _ h2
 injection h3 with _ h3
 exact Prod.ext h1 (Prod.ext h2 h3)
theorem tD {a b:ET} (h:AO.cells [.int .i64 (a.1:Int),.str a.2.1,.str a.2.2.1,.str a.2.2.2.1,.str a.2.2.2.2]=AO.cells [.int .i64 (b.1:Int),.str b.2.1,.str b.2.2.1,.str b.2.2.2.1,.str b.2.2.2.2]):a=b:=by
 injection h with h
 injection h with h1 h
 injection h with h2 h
 injection h with h3 h
 injection h with h4 h
 injection h with h5 _
 injection h1 with _ h1
 injection h2 with h2
 injection h3 with h3
 injection h4 with h4
 injection h5 with h5
 exact Prod.ext (by omega) (Prod.ext h2 (Prod.ext h3 (Prod.ext h4 h5)))
theorem zo {a b:L3} (h1:a.c=b.c) (h2:a.m=b.m) (h3:a.i=b.i) (h4:a.r=b.r) (h5:a.w=b.w) (h6:a.a8=b.a8) (h7:a.a9=b.a9) (h8:a.a10=b.a10) (h9:a.s=b.s):a=b:=by
 cases a with
 | mk c m i r w a8 a9 a10 s=>
  cases b with
  | mk c' m' i' r' w' a8' a9' a10' s'=>
   have h1:c=c':=h1
   have h2:m=m':=h2
   have h3:i=i':=h3
   have h4:r=r':=h4
   have h5:w=w':=h5
   have h6:a8=a8':=h6
   have h7:a9=a9':=h7
   have h8:a10=a10':=h8
   have h9:s=s':=h9
   subst h1 h2 h3 h4 h5 h6 h7 h8 h9
   rfl
theorem w5 {a b:L3} (h:l3S a=l3S b):a=b:=by
 have h1:=congrArg St.env h
 have h2:=congrArg St.objs h
 injection h1 with x1 h1
 injection h1 with x2 h1
 injection h1 with _ h1
 injection h1 with _ h1
 injection h1 with _ h1
 injection h1 with x3 h1
 injection h1 with x4 _
 injection h2 with y1 h2
 injection h2 with y2 h2
 injection h2 with y3 _
 injection x1 with _ x1
 injection x1 with _ _ x1 x5
 injection x2 with _ x2
 injection x2 with _ _ x2 x6
 injection x3 with _ x3
 injection x3 with _ x3
 injection x4 with _ x4
 injection x4 with _ x4
 injection y1 with _ y1
 injection y2 with _ y2
 injection y3 with _ y3
 have y1:=tD y1
 have y2:=tD y2
 have y3:=tD y3
 have x6:=wj x6
 exact zo x1 x2 (by omega) x5 x6 y1 y2 y3 x3
theorem F4 {i m:Nat} {z:Bool} (h:i < m):(bif within (i:Int) m then true else z)=true:=by rw [ag h];rfl
section
variable {x:L3} (hx:L3I x)
include hx
theorem Bc {k:Nat} (h:k<=x.m) : -(510*(k:Int))<=sW x.w k/\sW x.w k<=510*(k:Int):=by
 induction k with
 | zero=>exact ⟨Int.le_refl 0,Int.le_refl 0⟩
 | succ k ih=>
  have h1:=ih (by omega);have h2:=hx.w' k (by omega)
  rw [sW];omega
theorem zn {p:Prop} (h:x.i < x.m) (h2:(bif Int.tmod (x.w x.i).1 25000000 !=0 then true else (x.w x.i).2.1 !=6375000000)=true):p:=by
 have h1:=hx.w' _ h
 rw [h1.2.2.2,h1.1,Int.mul_tmod_right] at h2;cases h2
theorem F5 (h:x.i < x.m):IntKind.wrap .i64 (x.s+IntKind.wrap .i64 (Int.tdiv (x.w x.i).1 25000000))=sW x.w (x.i+1):=by
 have h1:=hx.w' _ h;have h2:=Bc hx (k:=x.i) (by omega);have:=hx.m'
 have h3:IntKind.wrap .i64 (hW x.w x.i)=hW x.w x.i:=wrap_i64 (by omega) (by omega)
 show IntKind.wrap .i64 (x.s+IntKind.wrap .i64 (hW x.w x.i))=_
 rw [h3,hx.s']
 exact wrap_i64 (by omega) (by omega)
theorem F6 (h:x.i < x.m):L3I {x with i:=x.i+1,s:=sW x.w (x.i+1)}:=⟨h,hx.m',hx.w',rfl⟩
theorem F7 (h:x.m<=x.i):x.s=sW x.w x.m:=by
 have h1:=hx.i'
 rw [hx.s',show x.i=x.m by omega]
end
theorem w4 (T:List Ent):∃ (u:St->Bool) (z:St->L3),(∀x,L3I x->bq u z (l3S x) (L3P x))/\∀L:List (List Nat×Orc),aE (V0.run T 5 [] L [] az) az [1,1,1,1,1,1,1,1,1,1,1,1,1,0,1,0] (mkO u z l3O):=
 eu (Lf:=λL=>L) l3S L3I (λx=>x.m - x.i) l3O L3P (by kernel_rfl) (λa b x h hp=>by rw [<-w5 h];exact hp)
  (λx hx=>.b (decide ((↑x.i:Int) < (↑x.m:Int))) (λh1=>
   .n (c:=within (↑x.i:Int) x.m) (ag (aB h1)) (
   .n (c:=within (↑x.i:Int) x.m) (ag (aB h1)) (
   .n (c:=bif within (↑x.i:Int) x.m then true else !bif (Int.tmod (Prod.fst (x.w x.i)) 25000000 !=0)==false then true else false) (F4 (aB h1)) (
   .b (bif Int.tmod (Prod.fst (x.w x.i)) 25000000 !=0 then true else Prod.fst (Prod.snd (x.w x.i)) !=6375000000) (λh2=>
    .fq (e:=.ret) (s:={env:=[(2,.bool false)],objs:=[]}) default (zn hx (aB h1) h2) (zn hx (aB h1) h2)) λh2=>
   .nx {env:=[(3,.sl (.key 58) 10 x.c x.r),(6,.sl .no 3 x.m (scR x.w)),(13,.ref 13 0),(15,.ref 15 0),(17,.ref 17 0),(19,.int .i64 (IntKind.wrap IntKind.i64 (x.s+IntKind.wrap IntKind.i64 (Int.tdiv (Prod.fst (x.w x.i)) 25000000)))),(20,.int .i64 (IntKind.wrap IntKind.i64 ((↑x.i:Int)+1)))],objs:=[(13,.cells [.int .i64 (↑(Prod.fst x.a8):Int),.str (Prod.fst (Prod.snd x.a8)),.str (Prod.fst (Prod.snd (Prod.snd x.a8))),.str (Prod.fst (Prod.snd (Prod.snd (Prod.snd x.a8)))),.str (Prod.snd (Prod.snd (Prod.snd (Prod.snd x.a8))))]),(15,.cells [.int .i64 (↑(Prod.fst x.a9):Int),.str (Prod.fst (Prod.snd x.a9)),.str (Prod.fst (Prod.snd (Prod.snd x.a9))),.str (Prod.fst (Prod.snd (Prod.snd (Prod.snd x.a9)))),.str (Prod.snd (Prod.snd (Prod.snd (Prod.snd x.a9))))]),(17,.cells [.int .i64 (↑(Prod.fst x.a10):Int),.str (Prod.fst (Prod.snd x.a10)),.str (Prod.fst (Prod.snd (Prod.snd x.a10))),.str (Prod.fst (Prod.snd (Prod.snd (Prod.snd x.a10)))),.str (Prod.snd (Prod.snd (Prod.snd (Prod.snd x.a10))))]),(58,.own 10 x.c)]} {x with i:=x.i+1,s:=sW x.w (x.i+1)} (F6 hx (aB h1)) (by have:=aB h1;show x.m - (x.i+1) < x.m - x.i;omega) (λ_ h=>h) (by rw [F5 hx (aB h1),aZ (by have:=aB h1;have:=hx.m';omega)];rfl))))) λh1=>
  .fi x ⟨rfl,rfl,rfl,rfl,rfl,F7 hx (aF h1)⟩)
  (λv L k kn=>by kernel_rfl)
def LSO:AV:=.sl .fit 10 1 (al [.str [],.str [],.int .i64 0,.int .i64 0,.int .i64 0,.int .i64 0,.int .i64 0,.int .i64 0,.int .i64 0,.bool false] [(0,.agg [.str [],.str [],.int .i64 0,.int .i64 0,.int .i64 2,.int .i64 0,.int .i64 4,.int .i64 0,.int .i64 0,.bool false])])
def LEO:AV:=.sl .fit 1 3 (al [.int .i64 0] [(0,.int .i64 1),(1,.int .i64 2),(2,.int .i64 3)])
theorem v3:gV LSO (smA 1 0 (λ_=>2) λ_=>4):=by
 refine eK λj hj=>?_
 obtain rfl:j=0:=by omega
 rfl
def Ap (j:Nat):Nat:=j+1
theorem v5:gV LEO (lsA 3 Ap):=by
 refine eK λj hj=>?_
 match j,hj with
 | 0,_=>rfl
 | 1,_=>rfl
 | 2,_=>rfl
theorem E3:aR wd wm φSk (λ_ _ x=>x.1=8) [LSO,.int .i64 0,.agg [.int .i64 0,.int .i64 1,.int .i64 1],.int .i64 10,.bool false] []:=by
 obtain ⟨x,hx,hc⟩:=vz (N:=1) (k:=0) (e:=0) (c:=1) (cap:=10) (g:=λ_=>2) (y:=λ_=>4) ⟨by decide,by decide,by decide,by decide,λj hj=>(by decide:4<=10),.inr rfl⟩
 refine ⟨x,(hx 1 0 0 1 10 _ _ rfl).1,Ct.args hc rfl rfl λi u u' hu hu' c w hr=>?_⟩
 match i with
 | 0=>cases hu;cases hu';exact v3.2 _ _ hr
 | 1=>cases hu;cases hu';exact hr
 | 2=>cases hu;cases hu';exact hr
 | 3=>cases hu;cases hu';exact hr
 | 4=>cases hu;cases hu';exact hr
 | i+5=>cases hu
theorem E2:aR wd vf fG (λ_ _ x=>x.2.1=(false,2,1)) [LEO] []:=by
 obtain ⟨x,hx,hc⟩:=tE (n:=3) (x:=Ap) ⟨by decide,by decide,λj hj=>by show j+1<=255;omega⟩
 refine ⟨x,?_,Ct.args hc rfl rfl λi u u' hu hu' c w hr=>?_⟩
 ·rw [hx 3 Ap rfl]
  show cI 3 Ap=_
  decide
 ·match i with
  | 0=>cases hu;cases hu';exact v5.2 _ _ hr
  | i+1=>cases hu
theorem CP:dec 2=[50]:=by
 have h1:=la 2
 have h2:dl1 2<=1:=vS (by decide) (eh (by decide) (by decide))
 unfold dec
 rw [show dl1 2=1 by omega];rfl
theorem E1 {r1:Int×Int×Int} {r2:EST} (q1:r1.1=8) (q2:r2.2.1=(false,2,1)):(bif bif bif true then true else false then r1.1==8 else false then (bif r2.2.1.1 then [45]++dec r2.2.1.2.1 else dec r2.2.1.2.1)==[50] else false)=true:=by
 rw [q1,q2]
 show (bif true then dec 2==[50] else false)=true
 rw [CP];rfl
theorem sA:aR wd iu φBo (λ_ _ r=>r=true) [] []:=
 lx (V:=V0) [bN wd wm φSk (λ_ _ x=>x.1=8),bN wd vf fG (λ_ _ x=>x.2.1=(false,2,1))] 5 (.call (E3) λr1 q1=>
  .call (E2) λr2 q2=>
  .r (bif bif bif true then true else false then r1.1==8 else false then (bif r2.2.1.1 then [45]++dec r2.2.1.2.1 else dec r2.2.1.2.1)==[50] else false) (E1 q1 q2)) (by kernel_rfl)
end Go.WE

namespace Go.WE
open Go Go.Ab Go.Proofs
set_option linter.unusedSectionVars false
def wtL:AV:=.sl .fit 3 1 (al [.int .i64 0,.int .i64 0,.int .i64 0] [(0,.agg [.int .i64 1,.int .i64 5000,.int .i64 5000])])
def smM (N:Nat) (f:Nat->Nat×Nat):AV:=.sl .no 10 N (mmR f)
theorem yr:gV wtL (wtA 1):=by
 refine eK λj hj=>?_
 obtain rfl:j=0:=by omega
 rfl
theorem vn {N:Nat} {f:Nat->Nat×Nat} (h:∀j,j < N->(f j).1≠0):gV (smM N f) (smA N 1 (λj=>(f j).1) λj=>(f j).2):=by
 refine eK λj hj=>?_
 have h1:ver (f j).1=((1:Nat):Int):=by
  have h2:=h j hj
  cases h3:(f j).1 with
  | zero=>exact absurd h3 h2
  | succ k=>rfl
 unfold mmR
 rw [h1]
theorem wS {f g:Nat->Nat×Nat} (h:mmR f=mmR g):f=g:=funext λj=>by
 have h3:=congrFun h j
 injection h3 with _ h3;injection h3 with _ h3;injection h3 with _ h3;injection h3 with _ h3;injection h3 with h1 h3;injection h3 with _ h3;injection h3 with h2 h3
 injection h1 with _ h1
 injection h2 with _ h2
 exact Prod.ext (by omega) (by omega)
theorem su {N M:Nat} {f g:Nat->Nat×Nat} (h:smM N f=smM M g):N=M/\f=g:=by
 injection h with _ _ h1 h2
 exact ⟨h1,wS h2⟩
theorem rX {n:Nat} {p q:Nat->Nat} {f:Nat->Nat×Nat} (h:Wri p q n f) {j:Nat} (hj:j < 2*n):f j=(1+j % 2,if j % 2=0 then p (j / 2) else q (j / 2)):=by
 have h1:=h (j / 2) (by omega)
 rcases Nat.mod_two_eq_zero_or_one j with e | e
 ·rw [e,if_pos rfl,<-h1.1,show 2*(j / 2)=j by omega]
 ·rw [e,if_neg (by decide),<-h1.2,show 2*(j / 2)+1=j by omega]
section
variable {n:Nat} {p q:Nat->Nat} {f:Nat->Nat×Nat} (hT:Two n p q) (hw:Wri p q n f)
include hT hw
theorem zi:Smps (2*n) (λj=>(f j).1) λj=>(f j).2:=by
 refine ⟨by have:=hT.n';omega,λj hj=>by show (f j).1=_;rw [rX hw hj],λj hj=>?_⟩
 show (f j).2<=255
 rw [rX hw hj]
 show (if j % 2=0 then p (j / 2) else q (j / 2))<=255
 split
 ·exact hT.p' _
 ·exact hT.q' _
omit hT in
theorem zl:∀j,j < 2*n->(f j).1≠0:=λj hj=>by rw [rX hw hj];show 1+j % 2≠0;omega
end
def wC (l:List AV) (_:List AO) (r:SL):Prop:=∀N f,l=[smM N f,wtL,.int .i64 255,.bool false]->r.1=N/\∀j,j < N->(r.2 j).1=koG 5000 (f j).1 (f j).2/\(r.2 j).2.1=6375000000
def nF (l:List AV) (_:List AO) (r:AR):Prop:=∀N a f,l=[smM N f,.int .i64 ((a:Nat):Int)]->r.1=(N+2 - a) / 2/\∀j,j < r.1->r.2 j=(f (2*j+a - 1)).2
theorem xL {n:Nat} {p q:Nat->Nat} {f:Nat->Nat×Nat} (hT:Two n p q) (hw:Wri p q n f):aR wd kH φSl wC [smM (2*n) f,wtL,.int .i64 255,.bool false] []:=by
 obtain ⟨x,hx,hc⟩:=Am (n:=1) (zi hT hw) (by decide)
 refine ⟨x,λN' f' e=>?_,Ct.args hc rfl rfl λi u u' hu hu' c w hr=>?_⟩
 ·injection e with e _
  obtain ⟨rfl,rfl⟩:=su e
  exact hx _ _ _ _ rfl
 ·match i with
  | 0=>cases hu;cases hu';exact (vn (zl hw)).2 _ _ hr
  | 1=>cases hu;cases hu';exact yr.2 _ _ hr
  | 2=>cases hu;cases hu';exact hr
  | 3=>cases hu;cases hu';exact hr
  | i+4=>cases hu
theorem xI {n a:Nat} {p q:Nat->Nat} {f:Nat->Nat×Nat} (hT:Two n p q) (hw:Wri p q n f) (ha:a=1∨a=2):aR wd mS oG nF [smM (2*n) f,.int .i64 (a:Int)] []:=by
 obtain ⟨x,hx,hc⟩:=Al (e:=1) (zi hT hw) ha
 refine ⟨x,λN' a' f' e=>?_,Ct.args hc rfl rfl λi u u' hu hu' c w hr=>?_⟩
 ·injection e with e1 e
  injection e with e2 _
  injection e2 with _ e2
  obtain ⟨rfl,rfl⟩:=su e1
  rw [show a'=a by omega]
  exact hx _ _ _ _ _ rfl
 ·match i with
  | 0=>cases hu;cases hu';exact (vn (zl hw)).2 _ _ hr
  | 1=>cases hu;cases hu';exact hr
  | i+2=>cases hu
def rDg (l:List AV) (_:List AO) (r:EST):Prop:=∀n x y,l=[pK (pJ n x),pK (pJ n y)]->r=(n+n,gT n x y,pS n x y)
theorem qH {n m:Nat} {x y:Nat->Nat} (h:pK (pJ n x)=pK (pJ m y)):n=m/\(cI n x).2=(cI m y).2/\(fB n x).2=(fB m y).2:=by
 injection h with h
 injection h with h1 h
 injection h with h2 h
 injection h with h3 h
 injection h with h4 h
 injection h with h5 _
 injection h1 with _ h1
 injection h2 with h2
 injection h3 with h3
 injection h4 with h4
 injection h5 with h5
 have h1:(n:Int)=(m:Int):=h1
 have h2:dec (cI n x).2.1=dec (cI m y).2.1:=h2
 have h3:dec (cI n x).2.2=dec (cI m y).2.2:=h3
 have h4:dec (fB n x).2.1=dec (fB m y).2.1:=h4
 have h5:dec (fB n x).2.2=dec (fB m y).2.2:=h5
 exact ⟨by omega,Prod.ext (gf h2) (gf h3),Prod.ext (gf h4) (gf h5)⟩
theorem vh {n:Nat} {x y:Nat->Nat} {p q:EST} (hp:Sml n x/\p=pJ n x) (hq:Sml n y/\q=pJ n y):aR wd cA fG rDg [pK p,pK q] []:=
 (xz hp hq).mono λr h n' x' y' e=>by
  rw [h (by rw [hp.2,hq.2])]
  rw [hp.2,hq.2] at e
  injection e with e1 e
  injection e with e2 _
  obtain ⟨rfl,a1,a2⟩:=qH e1
  obtain ⟨_,b1,b2⟩:=qH e2
  unfold gT pS
  rw [a1,a2,b1,b2]
theorem je {f g:Nat->Nat}:∀n,(∀j,j < n->f j=g j)->br f n=br g n
 | 0,_=>rfl
 | n+1,h=>by rw [br,br,je n λj hj=>h j (by omega),h n (by omega)]
theorem BS (v:Nat):koG 5000 1 v=25000000 * -(2*(v:Int)):=by
 unfold koG
 rw [if_pos rfl];omega
theorem BR (v:Nat):koG 5000 2 v=25000000*(2*(v:Int)):=by
 unfold koG
 rw [if_neg (by decide)];omega
theorem qI (a b:Txt):ft [.str a,.str b] [.str a,.str b]=true:=by
 exact (il (ks:=[.str,.str]) rfl rfl).mpr rfl
def eT (r:EST):ET:=(r.1,(bif r.2.1.1 then [45]++dec r.2.1.2.1 else dec r.2.1.2.1),dec r.2.1.2.2,(bif r.2.2.1 then [45]++dec r.2.2.2.1 else dec r.2.2.2.1),dec r.2.2.2.2)
def BK (r4:LoT) (r5:SL) (r8 r9 r10:EST):L3:=⟨2*r4.1,r5.1,0,mmR r4.2,r5.2,eT r8,eT r9,eT r10,0⟩
section
variable {n:Nat} {p q:Nat->Nat} (hp:∀j,p j<=255) (hq:∀j,q j<=255)
theorem zh (hp:∀j,p j<=255) (hq:∀j,q j<=255) (h:(bif decide ((n:Int) < 2) then true else decide ((n:Int) > 40))=false):Two n p q:=by
 cases h1:decide ((n:Int) < 2) with
 | true=>rw [h1] at h;cases h
 | false=>
  rw [h1] at h
  have h1:=of_decide_eq_false h1
  have h2:=of_decide_eq_false (show decide ((n:Int) > 40)=false from h)
  exact ⟨by omega,by omega,hp,hq⟩
variable {r4:LoT} {r5:SL} {r6 r7:AR} {r8 r9 r10:EST} {r12:L3} {r13 r14:Bool×Nat×Nat}
 (q4:LoI n p q r4/\n<=r4.1)
 (q5:wC [.sl .no 10 (2*r4.1) (mmR r4.2),wtL,.int .i64 255,.bool false] [] r5)
 (q6:nF [.sl .no 10 (2*r4.1) (mmR r4.2),.int .i64 1] [] r6)
 (q7:nF [.sl .no 10 (2*r4.1) (mmR r4.2),.int .i64 2] [] r7)
 (q8:rEs [lsA r6.1 r6.2] [] r8)
 (q9:rEs [lsA r7.1 r7.2] [] r9)
 (q10:rDg [pK r8,pK r9] [] r10)
 (q12:L3P (BK r4 r5 r8 r9 r10) r12)
include q4
theorem ud:r4.1=n/\Two n p q/\Wri p q n r4.2:=by
 have h1:=q4.1.1;have h2:=q4.2
 have e:r4.1=n:=by omega
 exact ⟨e,q4.1.2.1,by rw [<-e];exact q4.1.2.2⟩
theorem F3:aR wd kH φSl wC [.sl .no 10 (2*r4.1) (mmR r4.2),wtL,.int .i64 255,.bool false] []:=by
 obtain ⟨e,h1,h2⟩:=ud q4
 rw [e];exact xL h1 h2
theorem DB {a:Nat} (ha:a=1∨a=2):aR wd mS oG nF [.sl .no 10 (2*r4.1) (mmR r4.2),.int .i64 (a:Int)] []:=by
 obtain ⟨e,h1,h2⟩:=ud q4
 rw [e];exact xI h1 h2 ha
include q5 in
theorem BL:r5.1=2*n/\Wok r5.2 (2*n)/\∀k,k<=n->sW r5.2 (2*k)=2*((br q k:Int) - (br p k:Int)):=by
 obtain ⟨e,h1,h2⟩:=ud q4
 have h:=q5 _ _ rfl
 rw [e] at h
 have k1:∀k,k < n->hW r5.2 (2*k) = -(2*(p k:Int))/\(r5.2 (2*k)).1=25000000 * -(2*(p k:Int)):=λk hk=>by
  have h3:=(h.2 (2*k) (by omega)).1
  rw [(h2 k hk).1] at h3
  have h3:(r5.2 (2*k)).1=koG 5000 1 (p k):=h3
  rw [BS] at h3
  exact ⟨by unfold hW;rw [h3];exact Int.mul_tdiv_cancel_left _ (by decide),h3⟩
 have k2:∀k,k < n->hW r5.2 (2*k+1)=2*(q k:Int)/\(r5.2 (2*k+1)).1=25000000*(2*(q k:Int)):=λk hk=>by
  have h3:=(h.2 (2*k+1) (by omega)).1
  rw [(h2 k hk).2] at h3
  have h3:(r5.2 (2*k+1)).1=koG 5000 2 (q k):=h3
  rw [BR] at h3
  exact ⟨by unfold hW;rw [h3];exact Int.mul_tdiv_cancel_left _ (by decide),h3⟩
 refine ⟨h.1,λj hj=>?_,λk hk=>?_⟩
 ·have h4:=(h.2 j hj).2
  rcases Nat.mod_two_eq_zero_or_one j with e | e
  ·have a:=k1 (j / 2) (by omega);have b:=h1.p' (j / 2)
   rw [show 2*(j / 2)=j by omega] at a
   rw [a.1,a.2];exact ⟨rfl,by omega,by omega,h4⟩
  ·have a:=k2 (j / 2) (by omega);have b:=h1.q' (j / 2)
   rw [show 2*(j / 2)+1=j by omega] at a
   rw [a.1,a.2];exact ⟨rfl,by omega,by omega,h4⟩
 ·induction k with
  | zero=>rfl
  | succ k ih=>
   have ih:=ih (by omega)
   show sW r5.2 (2*k)+hW r5.2 (2*k)+hW r5.2 (2*k+1)=_
   rw [ih,(k1 k (by omega)).1,(k2 k (by omega)).1,br,br];omega
include q6 in
theorem zk:r6.1=n/\Sml n r6.2/\br r6.2 n=br p n:=by
 obtain ⟨e,h1,h2⟩:=ud q4
 have h:=q6 (2*r4.1) 1 r4.2 rfl
 rw [e] at h
 have e6:r6.1=n:=by have:=h.1;omega
 rw [e6] at h
 have k:∀j,j < n->r6.2 j=p j:=λj hj=>by rw [h.2 j hj,show 2*j+1 - 1=2*j by omega,(h2 j hj).1]
 exact ⟨e6,⟨by have:=h1.n';omega,h1.two,λj hj=>by rw [k j hj];exact h1.p' j⟩,je n k⟩
include q7 in
theorem zj:r7.1=n/\Sml n r7.2/\br r7.2 n=br q n:=by
 obtain ⟨e,h1,h2⟩:=ud q4
 have h:=q7 (2*r4.1) 2 r4.2 rfl
 rw [e] at h
 have e7:r7.1=n:=by have:=h.1;omega
 rw [e7] at h
 have k:∀j,j < n->r7.2 j=q j:=λj hj=>by rw [h.2 j hj,show 2*j+2 - 1=2*j+1 by omega,(h2 j hj).2]
 exact ⟨e7,⟨by have:=h1.n';omega,h1.two,λj hj=>by rw [k j hj];exact h1.q' j⟩,je n k⟩
include q6 in
theorem F2:aR wd vf fG rEs [lsA r6.1 r6.2] []:=by
 have h:=zk q4 q6
 rw [h.1];exact tE h.2.1
include q7 in
theorem F1:aR wd vf fG rEs [lsA r7.1 r7.2] []:=by
 have h:=zj q4 q7
 rw [h.1];exact tE h.2.1
include q6 q8 in
theorem uZ:r8=pJ n r6.2:=by rw [q8 _ _ rfl,(zk q4 q6).1]
include q7 q9 in
theorem uY:r9=pJ n r7.2:=by rw [q9 _ _ rfl,(zj q4 q7).1]
include q6 q7 q8 q9 in
theorem BQ:aR wd cA fG rDg [pK r8,pK r9] []:=vh ⟨(zk q4 q6).2.1,uZ q4 q6 q8⟩ ⟨(zj q4 q7).2.1,uY q4 q7 q9⟩
include q5 in
theorem BP {P:Prop} (h:(bif bif bif !true then true else !true then true else !true then true else (r5.1:Int) !=((2*r4.1:Nat):Int))=true):P:=by
 rw [(BL q4 q5).1,(ud q4).1,show (((2*n:Nat):Int) !=((2*n:Nat):Int))=false by simp] at h
 cases h
include q5 in
theorem BO:L3I (BK r4 r5 r8 r9 r10):=by
 have h:=BL q4 q5;have h1:=(ud q4).2.1.n'
 refine ⟨Nat.zero_le _,?_,?_,rfl⟩
 ·show r5.1<=100
  omega
 ·show Wok r5.2 r5.1
  rw [h.1];exact h.2.1
include q5 q12 in
theorem DA:r12.s=2*((br q n:Int) - (br p n:Int))/\r12.m=2*n:=by
 have h:=BL q4 q5
 have h1:r12.s=sW r5.2 r5.1:=q12.2.2.2.2.2
 have h2:r12.m=r5.1:=q12.2.1
 rw [h1,h2,h.1]
 exact ⟨h.2.2 n (Nat.le_refl _),rfl⟩
include q5 q12 in
theorem BN:aR wd B2 φWr rOf [.int .i64 r12.s,.int .i64 (r12.m:Int)] []:=by
 have h:=DA q4 q5 q12;have hT:=(ud q4).2.1
 have h1:=kB (f:=p) (n:=n) (c:=255) λj _=>hT.p' j
 have h2:=kB (f:=q) (n:=n) (c:=255) λj _=>hT.q' j
 have:=hT.n';have:=hT.two
 rw [h.1,h.2]
 exact zA (by omega) (by omega) (by omega)
include q6 q7 q8 q9 q12 in
theorem BM:aR wd xm φWr (ji λn d m e x=>x=dL false (n*e+m*d) (d*e)) [.agg [.str r12.a8.2.2.2.1,.str r12.a8.2.2.2.2],.agg [.str r12.a9.2.2.2.1,.str r12.a9.2.2.2.2]] []:=by
 have h8:r12.a8=eT r8:=q12.2.2.1
 have h9:r12.a9=eT r9:=q12.2.2.2.1
 have hp:=(zk q4 q6).2.1;have hq:=(zj q4 q7).2.1
 have h:=tU hp hq
 rw [h8,h9,uZ q4 q6 q8,uY q4 q7 q9]
 exact xp (n:=(fB n r6.2).2.1) (d:=(fB n r6.2).2.2) (m:=(fB n r7.2).2.1) (e:=(fB n r7.2).2.2) (lL hp).1 (lL hq).1 h.1 h.2
include q5 q6 q7 q8 q9 q10 q12 in
theorem zm (q13:rOf [.int .i64 r12.s,.int .i64 (r12.m:Int)] [] r13) (q14:ji (λn d m e x=>x=dL false (n*e+m*d) (d*e)) [.agg [.str r12.a8.2.2.2.1,.str r12.a8.2.2.2.2],.agg [.str r12.a9.2.2.2.1,.str r12.a9.2.2.2.2]] [] r14):(bif bif ft [.str r12.a10.2.1,.str r12.a10.2.2.1] [.str (bif r13.1 then [45]++dec r13.2.1 else dec r13.2.1),.str (dec r13.2.2)] then ft [.str r12.a10.2.2.2.1,.str r12.a10.2.2.2.2] [.str (bif r14.1 then [45]++dec r14.2.1 else dec r14.2.1),.str (dec r14.2.2)] else false then (r12.a10.1:Int)==(r12.c:Int) else false)=true:=by
 have h8:r12.a8=eT r8:=q12.2.2.1
 have h9:r12.a9=eT r9:=q12.2.2.2.1
 have hc:r12.c=2*r4.1:=q12.1
 have h10:r12.a10=eT r10:=q12.2.2.2.2.1
 have hs:=DA q4 q5 q12
 have e10:r10=(n+n,gT n r6.2 r7.2,pS n r6.2 r7.2):=q10 n r6.2 r7.2 (by rw [uZ q4 q6 q8,uY q4 q7 q9])
 have e13:r13=gT n r6.2 r7.2:=by
  rw [vi (by have:=(ud q4).2.1.two;omega),(zk q4 q6).2.2,(zj q4 q7).2.2,<-hs.1,<-hs.2]
  exact q13 _ _ rfl
 have e14:r14=pS n r6.2 r7.2:=by
  rw [h8,h9,uZ q4 q6 q8,uY q4 q7 q9] at q14
  exact q14 (fB n r6.2).2.1 (fB n r6.2).2.2 (fB n r7.2).2.1 (fB n r7.2).2.2 rfl
 rw [h10,hc,e10,e13,e14,(ud q4).1]
 show (bif bif ft [.str (bif (gT n r6.2 r7.2).1 then [45]++dec (gT n r6.2 r7.2).2.1 else dec (gT n r6.2 r7.2).2.1),.str (dec (gT n r6.2 r7.2).2.2)] [.str (bif (gT n r6.2 r7.2).1 then [45]++dec (gT n r6.2 r7.2).2.1 else dec (gT n r6.2 r7.2).2.1),.str (dec (gT n r6.2 r7.2).2.2)] then ft [.str (bif (pS n r6.2 r7.2).1 then [45]++dec (pS n r6.2 r7.2).2.1 else dec (pS n r6.2 r7.2).2.1),.str (dec (pS n r6.2 r7.2).2.2)] [.str (bif (pS n r6.2 r7.2).1 then [45]++dec (pS n r6.2 r7.2).2.1 else dec (pS n r6.2 r7.2).2.1),.str (dec (pS n r6.2 r7.2).2.2)] else false then ((n+n:Nat):Int)==((2*n:Nat):Int) else false)=true
 rw [qI,qI,show n+n=2*n by omega,beq_self_eq_true];rfl
end
theorem zg {n:Nat} {p q:Nat->Nat} (hp:∀j,p j<=255) (hq:∀j,q j<=255):aR wd az φBo (λ_ _ r=>r=true) [prA n p q] []:=by
 obtain ⟨v,w,hv,l2⟩:=wT [bN wd iu φBo (λ_ _ r=>r=true),bN wd kH φSl wC,bN wd mS oG nF,bN wd vf fG rEs,bN wd cA fG rDg,fOf,ve] n p q
 obtain ⟨u,z,hu,l1⟩:=wZ [bN wd iu φBo (λ_ _ r=>r=true),bN wd kH φSl wC,bN wd mS oG nF,bN wd vf fG rEs,bN wd cA fG rDg,fOf,ve] n p q hv
 obtain ⟨u3,z3,hs,l3⟩:=w4 [bN wd iu φBo (λ_ _ r=>r=true),bN wd kH φSl wC,bN wd mS oG nF,bN wd vf fG rEs,bN wd cA fG rDg,fOf,ve]
 exact iU (V:=V0) (T:=[bN wd iu φBo (λ_ _ r=>r=true),bN wd kH φSl wC,bN wd mS oG nF,bN wd vf fG rEs,bN wd cA fG rDg,fOf,ve]) (d:=5) 0 (aK (l2 _) (aK (l1 _) (aK (l3 _) bK))) bI (.call (sA) λr1 q1=>
  .b (!r1) (λh2=>
   .r false (by rw [q1] at h2;cases h2)) λh2=>
  .b (bif decide ((↑n:Int) < 2) then true else decide ((↑n:Int) > 40)) (λh3=>
   .r true rfl) λh3=>
  .lp (hu (0,λ_=>(0,0)) ⟨Nat.zero_le n,zh hp hq h3,λk hk=>absurd hk (Nat.not_lt_zero _)⟩) λr4 q4=>
  .call (F3 q4) λr5 q5=>
  .call (DB q4 (.inl rfl)) λr6 q6=>
  .call (DB q4 (.inr rfl)) λr7 q7=>
  .call (F2 q4 q6) λr8 q8=>
  .call (F1 q4 q7) λr9 q9=>
  .call (BQ q4 q6 q7 q8 q9) λr10 q10=>
  .b (bif bif bif !true then true else !true then true else !true then true else (↑r5.1:Int) !=(↑(2*r4.1):Int)) (λh11=>
   .r false (BP q4 q5 h11)) λh11=>
  .lp (hs (BK r4 r5 r8 r9 r10) (BO q4 q5)) λr12 q12=>
  .call (BN q4 q5 q12) λr13 q13=>
  .call (BM q4 q6 q7 q8 q9 q12) λr14 q14=>
  .r (bif bif ft [.str r12.a10.2.1,.str r12.a10.2.2.1] [.str (bif r13.1 then [45]++dec r13.2.1 else dec r13.2.1),.str (dec r13.2.2)] then ft [.str r12.a10.2.2.2.1,.str r12.a10.2.2.2.2] [.str (bif r14.1 then [45]++dec r14.2.1 else dec r14.2.1),.str (dec r14.2.2)] else false then (r12.a10.1:Int)==(r12.c:Int) else false) (zm q4 q5 q6 q7 q8 q9 q10 q12 q13 q14)) (by kernel_rfl)
end Go.WE

namespace Go.Ab
open Go Go.RowKit Go.ChangeShapes
mutual
def gU {H:Type}:DataW H->Nat
 | .lit (.string bytes)=>bytes.length+1
 | .lit _=>1
 | .nil=>1
 | .ptr d=>gU d+1
 | .slice elems spare=>jA elems+jA spare+1
 | .agg parts=>jA parts+1
 | .iface _ d=>gU d+1
 | .map entries=>Ag entries+1
 | .held _=>1
def jA {H:Type}:List (DataW H)->Nat
 | []=>0
 | d::r=>gU d+jA r
def Ag {H:Type}:List (Lit×DataW H)->Nat
 | []=>0
 | x::r=>CY x+Ag r
def CY {H:Type}:Lit×DataW H->Nat
 | (.string bytes,d)=>bytes.length+gU d+1
 | (_,d)=>gU d+1
end
theorem tQ {H:Type} (d:DataW H):1<=gU d:=by
 cases d with
 | lit l=>cases l <;> simp [gU]
 | _=>simp [gU]
theorem ot {H:Type}:∀l:List (DataW H),l.length<=jA l
 | []=>by simp [jA]
 | d::r=>by have:=tQ d;have:=ot r;simp only [List.length_cons,jA];omega
theorem qT {H:Type}:∀ {l:List (DataW H)} {i:Nat} {d:DataW H},l[i]?=some d->gU d<=jA l
 | [],_,_,h=>by simp at h
 | e::r,0,d,h=>by simp at h;subst h;simp only [jA];omega
 | e::r,i+1,d,h=>by have:=qT (l:=r) (i:=i) (by simpa using h);simp only [jA];omega
structure CellsR (c:Cx) (us:List AV) (vs:List Value):Prop where
 len:vs.length=us.length
 one:∀u∈us,u.one=true/\u.keys=[]
 rep:∀ (i:Nat) (u:AV),us[i]?=some u->Rep c u (vs.getD i undef)
theorem iG:∀ {us:List AV},(∀u∈us,u.keys=[])->ah us=[]
 | [],_=>rfl
 | u::r,h=>by rw [ah,h u (by simp),iG λv hv=>h v (List.mem_cons_of_mem _ hv)];rfl
theorem CellsR.nil (c:Cx):CellsR c [] []:=⟨rfl,λ_ h=>by simp at h,λi u h=>by simp at h⟩
theorem CellsR.append {c:Cx} {us us':List AV} {vs vs':List Value} (h:CellsR c us vs) (h':CellsR c us' vs'):CellsR c (us++us') (vs++vs'):=by
 refine ⟨by simp [h.len,h'.len],λu hu=>?_,λi u hu=>?_⟩
 ·rcases List.mem_append.1 hu with hu | hu
  ·exact h.one u hu
  ·exact h'.one u hu
 ·by_cases hi:i < us.length
  ·rw [List.getElem?_append_left hi] at hu
   have:=h.rep i u hu
   rw [List.getD_eq_getElem?_getD] at this ⊢
   rwa [List.getElem?_append_left (by rw [h.len];exact hi)]
  ·rw [List.getElem?_append_right (by omega)] at hu
   have:=h'.rep _ u hu
   rw [List.getD_eq_getElem?_getD] at this ⊢
   rw [List.getElem?_append_right (by rw [h.len];omega),h.len]
   exact this
theorem CellsR.uN {c:Cx} {u:AV} {v:Value} (h1:u.one=true) (h2:u.keys=[]) (h:Rep c u v):CellsR c [u] [v]:=
 ⟨rfl,λx hx=>by simp at hx;subst hx;exact ⟨h1,h2⟩,λi x hx=>by
  cases i with
  | zero=>simp at hx;subst hx;exact h
  | succ i=>simp at hx⟩
theorem CellsR.agg {c:Cx} {us:List AV} {vs:Array Value} (h:CellsR c us vs.toList):Rep c (.agg us) (.agg vs)/\(AV.agg us).keys=[]:=by
 refine ⟨.agg _ _ (by simpa using h.len) (λi u hu=>(h.one u (List.mem_of_getElem? hu)).1) (λi u hu=>?_),?_⟩
 ·have:=h.rep i u hu
  rw [List.getD_eq_getElem?_getD] at this
  rw [Array.getD_eq_getD_getElem?]
  simpa using this
 ·simp only [AV.keys]
  exact iG λu hu=>(h.one u hu).2
section
variable {H:Type} (enc:TypeId×Value->H) (P:Program) (w:World) (N:Nat)
variable {α β:Type}
def Reads (n:Nat) (t:TypeId) (cl:α->List AV) (Ok:α->Prop):Prop:=
 ∀cs x,DataW.trod enc P w 0 (λ_=>true) true n t cs=some x->gU x.1<=N->∃a,CellsR (cj w) (cl a) cs/\Ok a
variable {enc P w N}
theorem Reads.map {n:Nat} {t:TypeId} {cl:α->List AV} {Ok:α->Prop} {cl':β->List AV} {Ok':β->Prop} (h:Reads enc P w N n t cl Ok) (g:α->β) (hc:∀a,cl' (g a)=cl a) (ho:∀a,Ok a->Ok' (g a)):Reads enc P w N n t cl' Ok':=λcs x hx hb=>by
 obtain ⟨a,h1,h2⟩:=h cs x hx hb
 exact ⟨g a,by rw [hc];exact h1,ho a h2⟩
theorem sM {n:Nat} {t:TypeId} {k:IntKind} (ht:P.underlying t=some (.int k)):Reads enc P w N n t (λz:Int=>[.int k z]) (λz=>(Lit.int k z).wf=true):=λcs x hx hb=>by
 obtain ⟨z,rfl,rfl,hw⟩:=DataW.trod_int ht hx
 exact ⟨z,.uN rfl rfl (.int _ _),hw⟩
theorem pc {γ δ:Type} {f:γ->Option δ}:∀ {l:List γ} {r:List δ},l.mapM f=some r->r.length=l.length/\∀ (i:Nat) (a:γ),l[i]?=some a->f a=r[i]?
 | [],r,h=>by simp at h;subst h;simp
 | x::l,r,h=>by
  simp only [List.mapM_cons,Option.bind_eq_bind,Option.bind_eq_some_iff,Option.pure_def,Option.some.injEq] at h
  obtain ⟨y,hy,ys,hys,rfl⟩:=h
  obtain ⟨h1,h2⟩:=pc hys
  refine ⟨by simp [h1],λi a ha=>?_⟩
  cases i with
  | zero=>simp at ha;subst ha;simpa using hy
  | succ i=>simpa using h2 i a (by simpa using ha)
theorem oq {a:Addr} {n:Nat} {cs:List Value} (h:w.cells? 0 a n=some cs):cs.length=n/\∀i,i < n->w.cell? (a.add i)=cs[i]?:=by
 unfold World.cells? at h
 rw [if_pos (Nat.zero_le _)] at h
 obtain ⟨h1,h2⟩:=pc h
 refine ⟨by simpa using h1,λi hi=>?_⟩
 exact h2 i i (by simp [hi])
open Classical in
theorem oS {n:Nat} {t e:TypeId} {sz:Nat} [Inhabited α] {cl:α->List AV} {Ok:α->Prop} (get:List α->Nat->List AV) (ht:P.underlying t=some (.slice e)) (hz:P.cellsOf e=sz) (hp:0 < sz) (hlen:∀a,(cl a).length=sz)
  (hget:∀ (l:List α) j,j < l.length->get l j=cl (l.getD j default)) (h:∀m,n=m+1->Reads enc P w N m e cl Ok) :
  Reads enc P w N n t (λl:List α=>[.sl .no sz l.length (get l)]) (λl=>l.length<=maxLen/\l.length+1<=N/\∀a∈l,Ok a):=λcs x hx hb=>by
 rcases DataW.trod_slice ht hx with ⟨rfl,rfl⟩ | ⟨ad,len,cap,elems,rest,m,rfl,rfl,rfl,_,hle,hcap,hel,hat,hsp,_⟩
 ·refine ⟨[],.uN rfl rfl ?_,by simp,by simpa [gU] using hb,by simp⟩
  exact .slNil .no sz _ trivial
 ·simp only [gU] at hb
  rw [hz] at hat hsp
  have hb1:elems.length<=jA (elems.map (·.1)):=by have:=ot (elems.map (·.1));simpa using this
  have hel1:∀i,i < len->∃vs y a,elems[i]?=some y/\w.cells? 0 (ad.add (i*sz)) sz=some vs/\CellsR (cj w) (cl a) vs/\Ok a:=by
   intro i hi
   have hi':i < elems.length:=by omega
   have:=hat i hi
   rw [List.getElem?_eq_getElem hi',Option.bind_eq_some_iff] at this
   obtain ⟨vs,h1,h2⟩:=this
   have hbi:gU (elems[i]).1<=jA (elems.map (·.1)):=qT (i:=i) (by simp [List.getElem?_eq_getElem hi'])
   obtain ⟨a,h3,h4⟩:=h m rfl vs _ h2 (by omega)
   exact ⟨vs,_,a,List.getElem?_eq_getElem hi',h1,h3,h4⟩
  have hspot:0 < cap->ad.spot=none:=by
   intro hc
   have:∃vs,w.cells? 0 (ad.add (0*sz)) sz=some vs:=by
    by_cases h0:0 < len
    ·obtain ⟨vs,_,_,_,h2,_⟩:=hel1 0 h0
     exact ⟨vs,h2⟩
    ·obtain rfl:len=0:=by omega
     have h1:=(hsp rfl).2 0 (by omega)
     have h2:=(hsp rfl).1
     cases hr:rest with
     | nil=>rw [hr] at h2;simp at h2;omega
     | cons y r=>
      rw [hr] at h1
      simp only [List.getElem?_cons_zero,Option.bind_eq_some_iff] at h1
      obtain ⟨vs,h3,_⟩:=h1
      exact ⟨vs,by simpa using h3⟩
   obtain ⟨vs,h2⟩:=this
   obtain ⟨h3,h4⟩:=oq h2
   have h5:=h4 0 hp
   rw [Nat.zero_mul] at h5
   have e0:((ad.add 0).add 0)=ad:=by unfold Addr.add;simp
   rw [e0,List.getElem?_eq_getElem (by omega)] at h5
   exact World.cell?_spot h5
  let l:List α:=(List.range len).map λi=>if hi:i < len then (hel1 i hi).choose_spec.choose_spec.choose else default
  have hl:l.length=len:=by simp [l]
  have hli:∀i (hi:i < len),∃vs,w.cells? 0 (ad.add (i*sz)) sz=some vs/\CellsR (cj w) (cl (l.getD i default)) vs/\Ok (l.getD i default):=by
   intro i hi
   have e:l.getD i default=(hel1 i hi).choose_spec.choose_spec.choose:=by
    simp [l,List.getD,hi]
   rw [e]
   exact ⟨_,(hel1 i hi).choose_spec.choose_spec.choose_spec.2⟩
  have hadd:∀i,i < len->∀q,q < sz->(ad.add (i*sz)).add q=⟨ad.block,ad.off+(i*sz+q),none⟩:=by
   intro i hi q _
   have hs:=hspot (by omega)
   obtain ⟨b,o,sp⟩:=ad
   simp only at hs
   subst hs
   unfold Addr.add
   by_cases c1:i*sz=0
   ·by_cases c2:q=0 <;> simp [c1,c2]
   ·by_cases c2:q=0 <;> simp [c1,c2,Nat.add_assoc]
  refine ⟨l,.uN rfl rfl ?_,by omega,by omega,λa ha=>?_⟩
  ·rw [hl]
   have hgl:∀j,j < len->get l j=cl (l.getD j default):=λj hj=>hget l j (by omega)
   have hcell:∀ (j i:Nat) (u:AV),j < len->(get l j)[i]?=some u->∃v,w.cell? ⟨ad.block,ad.off+(j*sz+i),none⟩=some v/\Rep (cj w) u v:=by
    intro j i u hj hu
    rw [hgl j hj] at hu
    obtain ⟨vs,h1,h2,_⟩:=hli j hj
    obtain ⟨g1,g2⟩:=oq h1
    have hi:i < sz:=by have:=(List.getElem?_eq_some_iff.1 hu).1;rw [hlen] at this;exact this
    have g3:=g2 i hi
    rw [hadd j hj i hi,List.getElem?_eq_getElem (by omega)] at g3
    refine ⟨_,g3,?_⟩
    have:=h2.rep i u hu
    rwa [List.getD_eq_getElem?_getD,List.getElem?_eq_getElem (by omega)] at this
   refine .sl .no sz len (get l) ad cap (λj i=>(w.cell? ⟨ad.block,ad.off+(j*sz+i),none⟩).getD undef) hspot hle trivial (λj hj=>?_) (λj i u hj hu=>?_) (λj i u hj hu=>?_)
   ·rw [hgl j hj]
    obtain ⟨vs,_,h2,_⟩:=hli j hj
    exact ⟨hlen _,iG λu hu=>(h2.one u hu).2⟩
   ·obtain ⟨v,h1,_⟩:=hcell j i u hj hu
    have hone:u.one=true:=by
     rw [hgl j hj] at hu
     obtain ⟨vs,_,h2,_⟩:=hli j hj
     exact (h2.one u (List.mem_of_getElem? hu)).1
    refine ⟨hone,?_,v,h1⟩
    show w.cell? _=_
    rw [h1];rfl
   ·obtain ⟨v,h1,h2⟩:=hcell j i u hj hu
    rw [h1];exact h2
  ·obtain ⟨i,hi,rfl⟩:=List.getElem_of_mem ha
   obtain ⟨_,_,_,h4⟩:=hli i (by omega)
   rwa [List.getD_eq_getElem?_getD,List.getElem?_eq_getElem hi] at h4
end
end Go.Ab

namespace Go.Ab
open Go Go.RowKit
section
variable {H:Type} (enc:TypeId×Value->H) (P:Program) (w:World) (held:Bool)
def RX (t:TypeId) (d:DataW H) (us:List AV):Prop:=
 us.length=P.cellsOf t/\∀n cs p,DataW.trod enc P w 0 (λ_=>true) held n t cs=some (d,p)->CellsR (cj w) us cs
variable {enc P w held}
theorem sD {t:TypeId} {k:IntKind} {z:Int} (ht:P.underlying t=some (.int k)) (hc:P.cellsOf t=1):RX enc P w held t (.lit (.int k z)) [.int k z]:=⟨hc.symm,λn cs p h=>by
 obtain ⟨z',rfl,hx,_⟩:=DataW.trod_int ht h
 simp only [Prod.mk.injEq,DataW.lit.injEq,Lit.int.injEq,true_and] at hx
 obtain ⟨rfl,_⟩:=hx
 exact .uN rfl rfl (.int _ _)⟩
theorem sE {c:Cx} {cs:List Value} {sz:Nat}:∀ (us:List (List AV)) (k:Nat),(∀ (i:Nat) (u:List AV),us[i]?=some u->CellsR c u ((cs.drop ((k+i)*sz)).take sz)/\u.length=sz)->cs.length=(k+us.length)*sz->CellsR c us.flatten (cs.drop (k*sz))
 | [],k,_,hl=>by
  rw [List.drop_eq_nil_of_le (by simp at hl;omega)]
  exact .nil _
 | u::us,k,h,hl=>by
  have h0:=h 0 u rfl
  have ih:=sE us (k+1) (λi v hv=>by
   have:=h (i+1) v (by simpa using hv)
   rwa [show k+(i+1)=k+1+i by omega] at this) (by rw [hl];simp only [List.length_cons];congr 1;omega)
  have e:cs.drop (k*sz)=(cs.drop (k*sz)).take sz++cs.drop ((k+1)*sz):=by
   rw [show (k+1)*sz=k*sz+sz by rw [Nat.add_mul,Nat.one_mul],<-List.drop_drop,List.take_append_drop]
  rw [e,List.flatten_cons]
  exact h0.1.append ih
theorem qd {t e:TypeId} {m sz:Nat} {ds:List (DataW H)} {us:List (List AV)} (ht:P.underlying t=some (.array m e)) (he:P.cellsOf e=sz) (hc:P.cellsOf t=m*sz) (hl:us.length=m)
  (h:∀ (i:Nat) (d:DataW H) (u:List AV),ds[i]?=some d->us[i]?=some u->RX enc P w held e d u) (hd:ds.length=m):RX enc P w held t (.agg ds) us.flatten:=by
 have hu:∀ (i:Nat) (u:List AV),us[i]?=some u->u.length=sz:=λi u hi=>by
  have hlt:=(List.getElem?_eq_some_iff.1 hi).1
  rw [(h i (ds[i]'(by omega)) u (List.getElem?_eq_getElem _) hi).1,he]
 refine ⟨?_,λn cs p hx=>?_⟩
 ·rw [hc,List.length_flatten,<-hl]
  have:∀l:List (List AV),(∀ (i:Nat) (u:List AV),l[i]?=some u->u.length=sz)->(l.map List.length).sum=l.length*sz:=by
   intro l
   induction l with
   | nil=>intro _;simp
   | cons a r ih=>
    intro h
    have h0:=h 0 a rfl
    have h1:=ih λi u hi=>h (i+1) u (by simpa using hi)
    simp only [List.map_cons,List.sum_cons,h1,h0,List.length_cons,Nat.add_mul,Nat.one_mul];omega
  exact this us hu
 ·cases n with
  | zero=>simp [DataW.trod] at hx
  | succ n=>
   simp only [DataW.trod,ht,he,hc] at hx
   split at hx
   ·rename_i hcl
    obtain ⟨xs,hm,hxe⟩:=Option.map_eq_some_iff.1 hx
    have hxs:xs.map (·.1)=ds:=by
     have:=congrArg Prod.fst hxe
     simpa using this
    obtain ⟨hxl,hat⟩:=pc hm
    have hxl:xs.length=m:=by simpa using hxl
    have:=sE (c:=cj w) (cs:=cs) (sz:=sz) us 0 (λi u hi=>by
     have hlt:=(List.getElem?_eq_some_iff.1 hi).1
     have hlt2:i < xs.length:=by omega
     have hf:=hat i i (List.getElem?_range (by omega))
     rw [List.getElem?_eq_getElem hlt2] at hf
     have hdi:ds[i]?=some (xs[i]'hlt2).1:=by
      have:=congrArg (·[i]?) hxs
      simp only [List.getElem?_map,List.getElem?_eq_getElem hlt2,Option.map_some] at this
      exact this.symm
     refine ⟨?_,hu i u hi⟩
     rw [Nat.zero_add]
     exact (h i _ u hdi hi).2 n _ (xs[i]'hlt2).2 hf) (by rw [hcl,Nat.zero_add,hl])
    simpa using this
   ·cases hx
theorem yL {t:TypeId} {f0 f1:Field} {d0 d1:DataW H} {u0 u1:List AV} (ht:P.underlying t=some (.struct #[f0,f1])) (h0:RX enc P w held f0.type d0 u0) (h1:RX enc P w held f1.type d1 u1) (o0:f0.offset=0) (o1:f1.offset=P.cellsOf f0.type) (hc:P.cellsOf t=P.cellsOf f0.type+P.cellsOf f1.type) :
  RX enc P w held t (.agg [d0,d1]) (u0++u1):=by
 refine ⟨by rw [List.length_append,h0.1,h1.1,hc],λn cs p hx=>?_⟩
 obtain ⟨xs,m,rfl,hxe,hl,hxl,hf⟩:=DataW.trod_struct ht hx
 match xs,hxl with
 | [y0,y1],_=>
  simp only [List.map_cons,List.map_nil,Prod.mk.injEq,DataW.agg.injEq,List.cons.injEq,and_true] at hxe
  obtain ⟨⟨rfl,rfl⟩,_⟩:=hxe
  have a0:=hf 0 f0 rfl
  have a1:=hf 1 f1 rfl
  rw [o0,List.drop_zero] at a0
  rw [o1] at a1
  have b0:=h0.2 m _ y0.2 a0
  have b1:=h1.2 m _ y1.2 a1
  have e:cs=cs.take (P.cellsOf f0.type)++(cs.drop (P.cellsOf f0.type)).take (P.cellsOf f1.type):=by
   rw [List.take_of_length_le (l:=cs.drop (P.cellsOf f0.type)) (by rw [List.length_drop];omega),List.take_append_drop]
  rw [e]
  exact b0.append b1
theorem wo {t e:TypeId} {m:Nat} {k:IntKind} {zs:List Int} (ht:P.underlying t=some (.array m e)) (he:P.underlying e=some (.int k)) (hc:P.cellsOf e=1) (hct:P.cellsOf t=m) (hl:zs.length=m) :
  RX enc P w held t (.agg (zs.map λz=>.lit (.int k z))) (zs.map λz=>.int k z):=by
 have:=qd (enc:=enc) (P:=P) (w:=w) (held:=held) (ds:=zs.map λz=>(.lit (.int k z):DataW H)) (us:=zs.map λz=>[AV.int k z]) ht hc (by rw [hct,Nat.mul_one]) (by simpa using hl) (λi d u hd hu=>by
  rw [List.getElem?_map,Option.map_eq_some_iff] at hd hu
  obtain ⟨z,hz,rfl⟩:=hd
  obtain ⟨z',hz',rfl⟩:=hu
  obtain rfl:z=z':=by rw [hz] at hz';exact Option.some.inj hz'
  exact sD he hc) (by simpa using hl)
 rwa [show (zs.map λz=>[AV.int k z]).flatten=zs.map λz=>AV.int k z by induction zs with
  | nil=>rfl
  | cons a r ih=>rw [List.map_cons,List.flatten_cons,List.map_cons,List.singleton_append];congr 1;clear hl this ih;induction r with
   | nil=>rfl
   | cons b q ih=>rw [List.map_cons,List.flatten_cons,ih];rfl] at this
end
theorem ti {P:Program} {w:World}:∀ {laid:List (String×DataW Unit)} {ps:List MemPlace},DataW.LaidVars P w laid ps->∀ {nm:String} {d:DataW Unit},(nm,d)∈laid->
  ∃g t cs fuel p,P.globalNamed nm=some g/\(P.globals[g]?).map (·.type)=some t/\w.var? P nm=some cs/\DataW.trod (λ_=>()) P w 0 (λ_=>true) false fuel t cs.toList=some (d,p)
 | [],_,_,_,_,hm=>by simp at hm
 | (n0,d0)::r,ps,h,nm,d,hm=>by
  obtain ⟨g,t,cs,fuel,p,q,h1,h2,h3,h4,h5,_⟩:=h
  rcases List.mem_cons.1 hm with e | hm
  ·simp only [Prod.mk.injEq] at e
   obtain ⟨rfl,rfl⟩:=e
   exact ⟨g,t,cs,fuel,p,h1,h2,h3,h4⟩
  ·exact ti h5 hm
theorem nE {w:World} {g:Nat} {us:List AV} {cs:Array Value} (hv:∀i,w.cell? ⟨g,i,none⟩=cs[i]?) (h:CellsR (cj w) us cs.toList):Rep (cj w) (.elt us 0) (.pointer (some ⟨g,0,none⟩)):=by
 have hi:∀ (i:Nat) (u:AV),us[i]?=some u->∃v,cs[i]?=some v/\Rep (cj w) u v:=λi u hu=>by
  have hlt:=(List.getElem?_eq_some_iff.1 hu).1
  have hlt':i < cs.size:=by have:=h.len;simp at this;omega
  refine ⟨cs[i],Array.getElem?_eq_getElem hlt',?_⟩
  have:=h.rep i u hu
  rwa [List.getD_eq_getElem?_getD,Array.getElem?_toList,Array.getElem?_eq_getElem hlt'] at this
 refine .elt us 0 g 0 (λi=>(cs[i]?).getD undef) (iG λu hu=>(h.one u hu).2) (λi u hu=>?_) (λi u hu=>?_)
 ·obtain ⟨v,h1,h2⟩:=hi i u hu
  rw [Nat.zero_add]
  refine ⟨(h.one u (List.mem_of_getElem? hu)).1,?_,v,?_⟩
  ·show w.cell? _=_
   rw [hv,h1];rfl
  ·rw [hv,h1]
 ·obtain ⟨v,h1,h2⟩:=hi i u hu
  rw [h1];exact h2
theorem qj {P:Program} {w:World} {laid:List (String×DataW Unit)} (h:laidMet P laid w) {nm:String} {d:DataW Unit} {g:Nat} {t:TypeId} {us:List AV} (hm:(nm,d)∈laid) (hg:P.globalNamed nm=some g) (ht:(P.globals[g]?).map (·.type)=some t)
  (hr:RX (λ_=>()) P w false t d us):Rep (cj w) (.elt us 0) (.pointer (some ⟨g,0,none⟩)):=by
 obtain ⟨ps,hl,_⟩:=h
 obtain ⟨g',t',cs,fuel,p,h1,h2,h3,h4⟩:=ti hl hm
 obtain rfl:=Option.some.inj (hg.symm.trans h1)
 obtain rfl:=Option.some.inj (ht.symm.trans h2)
 exact nE (λi=>World.var?_cell h1 h3 i) (hr.2 fuel _ p h4)
theorem mX {P:Program} {G:Nat->Option (List AV)} {f:FuncId} {l:List AV} {os:List AO} {xs:List Value} {w:World} (hg:∀g cs,G g=some cs->Rep (cj w) (.elt cs 0) (.pointer (some ⟨g,0,none⟩))) (h:Ct P G f l [] (.bool true,os)) (hs:tW w l xs) :
  Calls P f xs.toArray w λe w'=>e=.returned (.bool true)/\Below w.heap.size w w':=by
 obtain ⟨h1,h2,h3⟩:=hs.spec
 refine (h.1 (cj w) xs.toArray ⟨λ_ _ h=>h,hg⟩ (nv w) (by simpa using h1) (λi u hu=>?_) (by rw [h2];simp)).mono ?_
 ·have:=h3 i u hu
  simpa [Array.getD_eq_getD_getElem?,List.getD_eq_getElem?_getD] using this
 ·rintro e w' ⟨c',x,rfl,rfl,_,hF,_,hr,_,_⟩
  cases hr
  refine ⟨rfl,hF.os,hF.tape,hF.output,hF.size,λb hb=>hF.block b hb ?_⟩
  rintro ⟨k,o,ho,_⟩
  simp [ab,alook] at ho
end Go.Ab

namespace Go.Ab
open Go Go.RowKit
section
variable {H:Type} {enc:TypeId×Value->H} {P:Program} {w:World} {held:Bool}
end
end Go.Ab

namespace Go.WE
open Go Go.Ab Go.Proofs Go.RowKit Go.Proofs.YtnppjgeegmofjaaDoor
def dints:List (DataW Unit)->List Int
 | .lit (.int _ z)::r=>z::dints r
 | _=>[]
def dpairs:List (DataW Unit)->List (Int×Int)
 | .agg [.lit (.int _ y),.lit (.int _ z)]::r=>(y,z)::dpairs r
 | _=>[]
def parts:DataW Unit->List (DataW Unit)
 | .agg ds=>ds
 | _=>[]
theorem wq {w:World} {d:DataW Unit} (hd:d=.agg ((dints (parts d)).map λz=>.lit (.int .u8 z))) (hl:(dints (parts d)).length=256) (hc:dcells d=(dints (parts d)).map λz=>.int .u8 z):Go.Ab.RX (λ_=>()) Tryd.prog w false 139 d (dcells d):=by
 rw [hc]
 have:=wo (enc:=λ_=>()) (P:=Tryd.prog) (w:=w) (held:=false) (t:=139) (e:=5) (m:=256) (k:=.u8) (zs:=dints (parts d)) Tryd.underlying139 Tryd.underlying5 (by kernel_rfl) (by kernel_rfl) hl
 rwa [<-hd] at this
theorem uB {w:World} {d:DataW Unit} (hd:d=.agg ((dpairs (parts d)).map λp=>.agg [.lit (.int .u8 p.1),.lit (.int .u8 p.2)])) (hl:(dpairs (parts d)).length=16) (hc:dcells d=((dpairs (parts d)).map λp=>[AV.int .u8 p.1]++[AV.int .u8 p.2]).flatten):Go.Ab.RX (λ_=>()) Tryd.prog w false 142 d (dcells d):=by
 rw [hc]
 have:=qd (enc:=λ_=>()) (P:=Tryd.prog) (w:=w) (held:=false) (t:=142) (e:=141) (m:=16) (sz:=2) (ds:=(dpairs (parts d)).map λp=>.agg [.lit (.int .u8 p.1),.lit (.int .u8 p.2)]) (us:=(dpairs (parts d)).map λp=>[AV.int .u8 p.1]++[AV.int .u8 p.2]) Tryd.underlying142 (by kernel_rfl) (by kernel_rfl) (by simpa using hl) (λi d u hd hu=>by
  rw [List.getElem?_map,Option.map_eq_some_iff] at hd hu
  obtain ⟨z,hz,rfl⟩:=hd
  obtain ⟨z',hz',rfl⟩:=hu
  obtain rfl:z=z':=by rw [hz] at hz';exact Option.some.inj hz'
  exact yL Tryd.underlying141 (sD Tryd.underlying5 (by kernel_rfl)) (sD Tryd.underlying5 (by kernel_rfl)) rfl (by kernel_rfl) (by kernel_rfl)) (by simpa using hl)
 rwa [<-hd] at this
set_option maxRecDepth 100000 in
theorem o8 {w:World} (h:w.ShapedOpen Tryd.prog):Rep (cj w) (.elt [.num .i64] 0) (.pointer (some ⟨2,0,none⟩)):=by
 obtain ⟨cs,h1,h2,h3⟩:=h.1 2 #[.int .i64 0] 3 (of_decide_eq_true (by kernel_rfl)) (by kernel_rfl)
 obtain ⟨ts,e1,e2,e3⟩:=h3 (by kernel_rfl)
 have e0:Tryd.prog.cellTypes Tryd.prog.depth 3=some [3]:=by kernel_rfl
 rw [e0] at e1
 obtain rfl:=Option.some.inj e1
 have hlt:0 < cs.size:=by rw [h2];decide
 obtain ⟨u,hu,hok⟩:=e3 0 cs[0] (Array.getElem?_eq_getElem hlt)
 simp only [List.length_singleton,Nat.mod_one,List.getElem?_cons_zero,Option.some.injEq] at hu
 subst hu
 unfold Cell.ok at hok
 rw [show Tryd.prog.underlying 3=some (.int .i64) from Tryd.underlying3] at hok
 have hcell:∀i,w.cell? ⟨2,i,none⟩=cs[i]?:=λi=>by
  unfold World.cell?
  simp [h1]
 refine nE hcell ⟨by simpa using h2,λu hu=>by simp at hu;subst hu;exact ⟨rfl,rfl⟩,λi u hu=>?_⟩
 cases i with
 | succ i=>simp at hu
 | zero=>
  simp at hu;subst hu
  rw [List.getD_eq_getElem?_getD,Array.getElem?_toList,Array.getElem?_eq_getElem hlt]
  show Rep _ _ cs[0]
  generalize cs[0]=v at hok ⊢
  cases v with
  | int k n=>obtain ⟨rfl,_⟩:=hok;exact .num _ _
  | _=>simp at hok
theorem u7 {w:World} {laid:List (String×DataW Unit)} (h:laidMet Tryd.prog laid w) (ho:w.ShapedOpen Tryd.prog)
  (m0:("unicode/utf8.first",Rows.laid_unicode_utf8_first)∈laid)
  (m1:("unicode/utf8.acceptRanges",Rows.laid_unicode_utf8_acceptRanges)∈laid) :
  ∀g cs,glb g=some cs->Rep (cj w) (.elt cs 0) (.pointer (some ⟨g,0,none⟩)):=by
 intro g cs hg
 unfold glb at hg
 by_cases h0:g=0
 ·subst h0
  obtain rfl:=Option.some.inj hg
  exact qj h m0 (by kernel_rfl) (by kernel_rfl) (wq (by kernel_rfl) (by kernel_rfl) (by kernel_rfl))
 rw [jb h0,cond_false] at hg
 by_cases h1:g=1
 ·subst h1
  obtain rfl:=Option.some.inj hg
  exact qj h m1 (by kernel_rfl) (by kernel_rfl) (uB (by kernel_rfl) (by kernel_rfl) (by kernel_rfl))
 rw [jb h1,cond_false] at hg
 by_cases h2:g=2
 ·subst h2
  obtain rfl:=Option.some.inj hg
  exact o8 ho
 rw [jb h2,cond_false] at hg
 cases hg
section
variable {H:Type} {enc:TypeId×Value->H} {w:World} {N:Nat}
def gh (z:Int):Prop:=0<=z/\z < 256
theorem vD (n:Nat):Reads enc Tryd.prog w N n 5 (λz:Int=>[.int .u8 z]) gh:=(sM Tryd.underlying5).map id (λ_=>rfl) λz h=>by
 simp [Lit.wf,IntKind.min,IntKind.max,IntKind.signed,IntKind.bits] at h
 exact ⟨h.1,by show z < 256;omega⟩
def uM (p:Int×Int):List AV:=[.int .u8 p.1,.int .u8 p.2]
theorem rdPair (n:Nat):Reads enc Tryd.prog w N n 27 uM (λp=>gh p.1/\gh p.2):=λcs x hx hb=>by
 obtain ⟨xs,m,_,rfl,hlen,hl,hel⟩:=DataW.trod_array Tryd.underlying27 hx
 have c5:Tryd.prog.cellsOf 5=1:=by kernel_rfl
 rw [show Tryd.prog.cellsOf 27=2 by kernel_rfl] at hlen
 rw [c5] at hel
 match cs,hlen with
 | [a,b],_=>
  match xs,hl with
  | [y0,y1],_=>
   have h0:=hel 0 (by decide)
   have h1:=hel 1 (by decide)
   simp only [gU,List.map_cons,List.map_nil,jA] at hb
   obtain ⟨u,c1,d1⟩:=vD (N:=N) (enc:=enc) (w:=w) m _ y0 h0 (by omega)
   obtain ⟨v,c2,d2⟩:=vD (N:=N) (enc:=enc) (w:=w) m _ y1 h1 (by omega)
   exact ⟨(u,v),c1.append c2,d1,d2⟩
def sX (l:List (Int×Int)):AV:=.sl .no 2 l.length λj=>uM (l.getD j (0,0))
theorem wA (n:Nat):Reads enc Tryd.prog w N n 22 (λl:List (Int×Int)=>[sX l]) (λl=>∀p∈l,gh p.1/\gh p.2):=
 (oS (e:=27) (sz:=2) (α:=Int×Int) (cl:=uM) (Ok:=λp=>gh p.1/\gh p.2) (λl j=>uM (l.getD j (0,0))) Tryd.underlying22 (by kernel_rfl) (by omega) (λ_=>rfl) (λl j h=>by rw [List.getD_eq_getElem?_getD,List.getD_eq_getElem?_getD,List.getElem?_eq_getElem h];rfl) (λm _=>rdPair m)).map id (λ_=>rfl) λl h=>h.2.2
end
theorem uL {l:List (Int×Int)} (h:∀p∈l,gh p.1/\gh p.2):sX l=prA l.length (λj=>(l.getD j (0,0)).1.toNat) (λj=>(l.getD j (0,0)).2.toNat):=by
 unfold sX prA
 congr 1
 funext j
 have h1:gh (l.getD j (0,0)).1/\gh (l.getD j (0,0)).2:=by
  by_cases hj:j < l.length
  ·rw [List.getD_eq_getElem?_getD,List.getElem?_eq_getElem hj];exact h _ (List.getElem_mem hj)
  ·rw [List.getD_eq_getElem?_getD,List.getElem?_eq_none (by omega)];exact ⟨⟨Int.le_refl 0,by decide⟩,Int.le_refl 0,by decide⟩
 unfold gh at h1
 show [AV.int .u8 (l.getD j (0,0)).1,AV.int .u8 (l.getD j (0,0)).2]=[AV.int .u8 (((l.getD j (0,0)).1.toNat:Nat):Int),AV.int .u8 (((l.getD j (0,0)).2.toNat:Nat):Int)]
 rw [Int.toNat_of_nonneg h1.1.1,Int.toNat_of_nonneg h1.2.1]
theorem uW {l:List (Int×Int)} (h:∀p∈l,gh p.1/\gh p.2):Ct prog glb az [sX l] [] (.bool true,[]):=by
 have hb:∀j,gh (l.getD j (0,0)).1/\gh (l.getD j (0,0)).2:=λj=>by
  by_cases hj:j < l.length
  ·rw [List.getD_eq_getElem?_getD,List.getElem?_eq_getElem hj];exact h _ (List.getElem_mem hj)
  ·rw [List.getD_eq_getElem?_getD,List.getElem?_eq_none (by omega)];exact ⟨⟨Int.le_refl 0,by decide⟩,Int.le_refl 0,by decide⟩
 unfold gh at hb
 rw [uL h]
 obtain ⟨x,hx,hc⟩:=zg (n:=l.length) (p:=λj=>(l.getD j (0,0)).1.toNat) (q:=λj=>(l.getD j (0,0)).2.toNat) (λj=>by have:=hb j;show (l.getD j (0,0)).1.toNat<=255;omega) (λj=>by have:=hb j;show (l.getD j (0,0)).2.toNat<=255;omega)
 have hx:x=true:=hx
 subst hx
 exact hc
theorem sv {P:Program} {H:Type} {enc:TypeId×Value->H} {W:World} {base:Nat} {t e:TypeId} {v:Value} {d:DataW H} {p:List MemPlace} {α:Type} {cl:α->AV} {Ok:α->Prop} (hs:P.underlying t=some (.slice e))
  (hv:Value.okWide P W .any base t v) (h:DataW.Trod enc P W 0 (λ_=>true) true t v d p) {N:Nat} (hr:∀n,Reads enc P W N n t (λa=>[cl a]) Ok) (hb:gU d<=N) :
  ∃a,Ok a/\Rep (cj W) (cl a) v/\(cl a).keys=[]:=by
 obtain ⟨a,len,cap,rfl⟩:=Go.WideShapes.okWide_slice hs hv
 obtain ⟨n,hn⟩:=h
 obtain ⟨x,h1,h2⟩:=hr n (Value.slice a len cap).cells.toList (d,p) hn hb
 refine ⟨x,h2,?_,(h1.one _ (by simp)).2⟩
 simpa [Value.cells] using h1.rep 0 _ rfl
end Go.WE
