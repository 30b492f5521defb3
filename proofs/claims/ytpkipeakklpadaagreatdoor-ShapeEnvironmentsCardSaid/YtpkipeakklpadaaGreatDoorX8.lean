/- ShapeEnvironments: the row's reading, its witness, the call. -/
import Derived.Test.YtpkipeakklpadaaGreatDoorX7
import Derived.ProofKit
import Derived.Lay
import Derived.LaidOnce
import Derived.OpenShut
import Derived.Below
import Derived.ChangeOld
import Derived.SevenTiedAt
import Derived.Deep.DeepHandedRow
import Derived.Deep.DeepWitnessRowRef
set_option linter.unusedVariables false
set_option linter.unusedSimpArgs false
namespace Go.Proofs.YtpkipeakklpadaaGreatDoor
open Go Go.ChangeShapes Go.WideShapes Go.ChangeAt Go.RowKit Go.Deep Go.Ab Go.T Go.SH
theorem Qn:ownKnob Tryz.prog.godebug=none:=by kernel_rfl
theorem Iq:laidOutB Tryz.prog=true:=by kernel_rfl
def tj:Array Value:=#[.slice none 0 0]
abbrev zH:List (String×DataW Unit):=Rows.shapeEnvironmentsRow.laid
theorem Kj (w:World):laidMetH Tryz.prog zH w=laidMet Tryz.prog zH w:=MakeChecks.laidMetH_plain _ _ _ (by kernel_rfl)
noncomputable def NG (os:Os):World:=World.laidAll Tryz.prog os zH
theorem Fm (os:Os):laidMet Tryz.prog zH ((NG os).forCall (λ_ _=>0) ⟨#[],tj,[]⟩).memory:=laidMet_laidAll _ (by kernel_rfl) (by kernel_rfl)
set_option maxRecDepth 100000 in
theorem wC (os:Os) {H:Type} (enc:TypeId×Value->H) :
  (OpenSpec.ofChange Rows.shapeEnvironmentsSpec).preRow enc Tryz.prog Tryz.f3 Rows.shapeEnvironmentsRow.domain false zH ((NG os).forCall (λ_ _=>0) ⟨#[],tj,[]⟩).memory tj:=by
 have hw:(DataW.whole enc Tryz.prog ((NG os).forCall (λ_ _=>0) ⟨#[],tj,[]⟩).memory Tryz.f3.params.toList (OpenSpec.ofChange Rows.shapeEnvironmentsSpec).vars false tj.toList 12).map (λx=>(x.1,x.2.1))=some
   ([.nil],[]):=by kernel_rfl
 obtain ⟨⟨x1,x2,x3⟩,hx,hx1⟩:=Option.map_eq_some_iff.1 hw
 simp only [Prod.mk.injEq] at hx1
 obtain ⟨rfl,rfl⟩:=hx1
 exact OpenSpec.preRow_of_cond 12 hx (by kernel_rfl) (λk hk=>by cases hk) (by kernel_rfl) (Fm os)
set_option maxRecDepth 100000 in
theorem KH (os:Os) (started:os.Started) (H:Type) (enc:TypeId×Value->H) (F:Stop.Interp) :
  ReturnsInHanded {} Tryz.checked os 3 .any ((OpenSpec.ofChange Rows.shapeEnvironmentsSpec).preRow enc Tryz.prog Tryz.f3 Rows.shapeEnvironmentsRow.domain false zH) (((OpenSpec.ofChange Rows.shapeEnvironmentsSpec).at F).post enc Tryz.prog Tryz.f3 false true false false):=by
 refine returnsInHanded_of_row (C:=Tryz.checked) (s:=OpenSpec.ofChange Rows.shapeEnvironmentsSpec) Qn started (by kernel_rfl) Tryz.func3
  (witness_row_atRef (enc:=enc) (C:=Tryz.checked) false (NG os) tj (World.laidAll_os _ _ _) (by kernel_rfl) (by kernel_rfl) (by kernel_rfl) (wC os enc)) ?_
 intro W base args ds gs before hval0 hW _ _ _ hL hO _
 have hval:∀ (j:Nat) t v,Tryz.f3.params[j]?=some t->args[j]?=some v->Value.okWide Tryz.prog W .any base t v:=hval0
 have hW':=hW
 obtain ⟨p,q,hA0,hV,rfl,_,_⟩:=hW
 have hA:DataW.TrodAll enc Tryz.prog W 0 (λ_=>true) true Tryz.f3.params.toList args.toList ds p:=hA0
 rw [Tryz.params3] at hA hval
 obtain ⟨v0,vs0,d0,ds0,p0,q0,hargs,rfl,rfl,h0,r0⟩:=trodAll_cons hA
 obtain ⟨rfl,rfl,rfl⟩:=trodAll_nil r0
 obtain rfl:args=#[v0]:=by cases args;simp_all
 obtain ⟨rfl,rfl⟩:=trodVars_none hV
 have lt0:∀x∈p0,x.block < W.heap.size:=by obtain ⟨m,hm⟩:=h0;exact DataW.trod_lt m _ _ _ hm
 obtain ⟨l0,ol0,rl0,kl0⟩:=DW Tryz.underlying22 (hval 0 22 v0 rfl rfl) h0 (N:=mE d0) Kb (Nat.le_refl _)
 have hL':laidMet Tryz.prog zH W:=by rw [<-Kj];exact hL
 have hG:=Fz hL' hO (by simp [zH,Rows.shapeEnvironmentsRow]) (by simp [zH,Rows.shapeEnvironmentsRow]) (by simp [zH,Rows.shapeEnvironmentsRow]) (by simp [zH,Rows.shapeEnvironmentsRow]) (by simp [zH,Rows.shapeEnvironmentsRow]) (by simp [zH,Rows.shapeEnvironmentsRow]) (by simp [zH,Rows.shapeEnvironmentsRow]) (by simp [zH,Rows.shapeEnvironmentsRow])
 have hct:=Go.T.Qt (n:=l0.length) (g:=λj=>l0.getD j 0) (λj hj=>by rw [List.getD_eq_getElem?_getD,List.getElem?_eq_getElem hj];exact ol0 _ (List.getElem_mem hj))
 have hstand:Gv W [Nl l0] [v0]:=⟨⟨rl0,kl0⟩,trivial⟩
 refine (vU hG hct hstand).mono λe W' ⟨he,bel⟩=>?_
 subst he
 exact ⟨_,rfl,_,_,_,[],_,[],hW',trodAll_mk1 (shut_bool Tryz.underlying4 _),(trodAll_cons_mk (Below.trod Iq (by kernel_rfl) (of_decide_eq_true (by kernel_rfl)) h0 bel lt0) trodAll_mk0),rfl,bel.frame _,λh=>by cases h⟩
end Go.Proofs.YtpkipeakklpadaaGreatDoor
