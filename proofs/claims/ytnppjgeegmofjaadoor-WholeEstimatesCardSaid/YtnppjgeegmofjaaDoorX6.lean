/- WholeEstimates: the row's reading, its witness, the call. -/
import Derived.Test.YtnppjgeegmofjaaDoorX5
import Derived.ProofKit
import Derived.Lay
import Derived.LaidOnce
import Derived.OpenShut
import Derived.Below
import Derived.ChangeOld
import Derived.SevenTiedAt
import Derived.Deep.DeepHandedRow
import Derived.Deep.DeepWitnessRowRef
set_option linter.unusedVariables false
set_option linter.unusedSimpArgs false
namespace Go.Proofs.YtnppjgeegmofjaaDoor
open Go Go.ChangeShapes Go.WideShapes Go.ChangeAt Go.RowKit Go.Ab Go.WE
theorem FB:ownKnob Tryd.prog.godebug=none:=by kernel_rfl
theorem uX:laidOutB Tryd.prog=true:=by kernel_rfl
def lJ:Array Value:=#[.slice none 0 0]
abbrev uV:List (String×DataW Unit):=Rows.wholeEstimatesRow.laid
theorem wH (w:World):laidMetH Tryd.prog uV w=laidMet Tryd.prog uV w:=MakeChecks.laidMetH_plain _ _ _ (by kernel_rfl)
noncomputable def Aq (os:Os):World:=World.laidAll Tryd.prog os uV
theorem th (os:Os):laidMet Tryd.prog uV ((Aq os).forCall (λ_ _=>0) ⟨#[],lJ,[]⟩).memory:=laidMet_laidAll _ (by kernel_rfl) (by kernel_rfl)
set_option maxRecDepth 100000 in
theorem nf (os:Os) {H:Type} (enc:TypeId×Value->H) :
  (OpenSpec.ofChange Rows.wholeEstimatesSpec).preRow enc Tryd.prog Tryd.f3 Rows.wholeEstimatesRow.domain false uV ((Aq os).forCall (λ_ _=>0) ⟨#[],lJ,[]⟩).memory lJ:=by
 have hw:(DataW.whole enc Tryd.prog ((Aq os).forCall (λ_ _=>0) ⟨#[],lJ,[]⟩).memory Tryd.f3.params.toList (OpenSpec.ofChange Rows.wholeEstimatesSpec).vars false lJ.toList 12).map (λx=>(x.1,x.2.1))=some
   ([.nil],[]):=by kernel_rfl
 obtain ⟨⟨x1,x2,x3⟩,hx,hx1⟩:=Option.map_eq_some_iff.1 hw
 simp only [Prod.mk.injEq] at hx1
 obtain ⟨rfl,rfl⟩:=hx1
 exact OpenSpec.preRow_of_cond 12 hx (by kernel_rfl) (λk hk=>by cases hk) (by kernel_rfl) (th os)
set_option maxRecDepth 100000 in
theorem w0 (os:Os) (started:os.Started) (H:Type) (enc:TypeId×Value->H) (F:Stop.Interp) :
  ReturnsInHanded {} Tryd.checked os 3 .any ((OpenSpec.ofChange Rows.wholeEstimatesSpec).preRow enc Tryd.prog Tryd.f3 Rows.wholeEstimatesRow.domain false uV) (((OpenSpec.ofChange Rows.wholeEstimatesSpec).at F).post enc Tryd.prog Tryd.f3 false true false false):=by
 refine returnsInHanded_of_row (C:=Tryd.checked) (s:=OpenSpec.ofChange Rows.wholeEstimatesSpec) FB started (by kernel_rfl) Tryd.func3
  (witness_row_atRef (enc:=enc) (C:=Tryd.checked) false (Aq os) lJ (World.laidAll_os _ _ _) (by kernel_rfl) (by kernel_rfl) (by kernel_rfl) (nf os enc)) ?_
 intro W base args ds gs before hval0 hW _ _ _ hL hO _
 have hval:∀ (j:Nat) t v,Tryd.f3.params[j]?=some t->args[j]?=some v->Value.okWide Tryd.prog W .any base t v:=hval0
 have hW':=hW
 obtain ⟨p,q,hA0,hV,rfl,_,_⟩:=hW
 have hA:DataW.TrodAll enc Tryd.prog W 0 (λ_=>true) true Tryd.f3.params.toList args.toList ds p:=hA0
 rw [Tryd.params3] at hA hval
 obtain ⟨v0,vs0,d0,ds0,p0,q0,hargs,rfl,rfl,h0,r0⟩:=trodAll_cons hA
 obtain ⟨rfl,rfl,rfl⟩:=trodAll_nil r0
 obtain rfl:args=#[v0]:=by cases args;simp_all
 obtain ⟨rfl,rfl⟩:=trodVars_none hV
 have lt0:∀x∈p0,x.block < W.heap.size:=by obtain ⟨m,hm⟩:=h0;exact DataW.trod_lt m _ _ _ hm
 obtain ⟨l0,ol0,rl0,kl0⟩:=sv Tryd.underlying22 (hval 0 22 v0 rfl rfl) h0 (N:=gU d0) wA (Nat.le_refl _)
 have hL':laidMet Tryd.prog uV W:=by rw [<-wH];exact hL
 have hG:=u7 hL' hO (by simp [uV,Rows.wholeEstimatesRow]) (by simp [uV,Rows.wholeEstimatesRow])
 have hct:=Go.WE.uW ol0
 have hstand:tW W [sX l0] [v0]:=⟨⟨rl0,kl0⟩,trivial⟩
 refine (mX hG hct hstand).mono λe W' ⟨he,bel⟩=>?_
 subst he
 exact ⟨_,rfl,_,_,_,[],_,[],hW',trodAll_mk1 (shut_bool Tryd.underlying4 _),(trodAll_cons_mk (Below.trod uX (by kernel_rfl) (of_decide_eq_true (by kernel_rfl)) h0 bel lt0) trodAll_mk0),rfl,bel.frame _,λh=>by cases h⟩
end Go.Proofs.YtnppjgeegmofjaaDoor
