/- EncodeDistinct: the row's reading, its witness, the call. -/
import Derived.Test.YtkmecnnkfpfjiaaGreatDoorX9
import Derived.ProofKit
import Derived.Lay
import Derived.LaidOnce
import Derived.OpenShut
import Derived.Below
import Derived.ChangeOld
import Derived.SevenTiedAt
import Derived.Deep.DeepHandedRow
import Derived.Deep.DeepWitnessRowRef
set_option linter.unusedVariables false
set_option linter.unusedSimpArgs false
namespace Go.Proofs.YtkmecnnkfpfjiaaGreatDoor
open Go Go.ChangeShapes Go.WideShapes Go.ChangeAt Go.RowKit Go.Deep Go.Ab Go.T Go.SH
theorem VR:ownKnob Tryz.prog.godebug=none:=by kernel_rfl
theorem DB:laidOutB Tryz.prog=true:=by kernel_rfl
def vj:Array Value:=#[.slice none 0 0,.slice none 0 0,.bool false]
abbrev BI:List (String×DataW Unit):=Rows.encodeDistinctRow.laid
theorem NW (w:World):laidMetH Tryz.prog BI w=laidMet Tryz.prog BI w:=MakeChecks.laidMetH_plain _ _ _ (by kernel_rfl)
noncomputable def So (os:Os):World:=World.laidAll Tryz.prog os BI
theorem HW (os:Os):laidMet Tryz.prog BI ((So os).forCall (λ_ _=>0) ⟨#[],vj,[]⟩).memory:=laidMet_laidAll _ (by kernel_rfl) (by kernel_rfl)
set_option maxRecDepth 100000 in
theorem yy (os:Os) {H:Type} (enc:TypeId×Value->H) :
  (OpenSpec.ofChange Rows.encodeDistinctSpec).preRow enc Tryz.prog Tryz.f3 Rows.encodeDistinctRow.domain false BI ((So os).forCall (λ_ _=>0) ⟨#[],vj,[]⟩).memory vj:=by
 have hw:(DataW.whole enc Tryz.prog ((So os).forCall (λ_ _=>0) ⟨#[],vj,[]⟩).memory Tryz.f3.params.toList (OpenSpec.ofChange Rows.encodeDistinctSpec).vars false vj.toList 12).map (λx=>(x.1,x.2.1))=some
   ([.nil,.nil,.lit (.bool false)],[]):=by kernel_rfl
 obtain ⟨⟨x1,x2,x3⟩,hx,hx1⟩:=Option.map_eq_some_iff.1 hw
 simp only [Prod.mk.injEq] at hx1
 obtain ⟨rfl,rfl⟩:=hx1
 exact OpenSpec.preRow_of_cond 12 hx (by kernel_rfl) (λk hk=>by cases hk) (by kernel_rfl) (HW os)
set_option maxRecDepth 100000 in
theorem Om (os:Os) (started:os.Started) (H:Type) (enc:TypeId×Value->H) (F:Stop.Interp) :
  ReturnsInHanded {} Tryz.checked os 3 .any ((OpenSpec.ofChange Rows.encodeDistinctSpec).preRow enc Tryz.prog Tryz.f3 Rows.encodeDistinctRow.domain false BI) (((OpenSpec.ofChange Rows.encodeDistinctSpec).at F).post enc Tryz.prog Tryz.f3 false true false false):=by
 refine returnsInHanded_of_row (C:=Tryz.checked) (s:=OpenSpec.ofChange Rows.encodeDistinctSpec) VR started (by kernel_rfl) Tryz.func3
  (witness_row_atRef (enc:=enc) (C:=Tryz.checked) false (So os) vj (World.laidAll_os _ _ _) (by kernel_rfl) (by kernel_rfl) (by kernel_rfl) (yy os enc)) ?_
 intro W base args ds gs before hval0 hW _ _ _ hL hO _
 have hval:∀ (j:Nat) t v,Tryz.f3.params[j]?=some t->args[j]?=some v->Value.okWide Tryz.prog W .any base t v:=hval0
 have hW':=hW
 obtain ⟨p,q,hA0,hV,rfl,_,_⟩:=hW
 have hA:DataW.TrodAll enc Tryz.prog W 0 (λ_=>true) true Tryz.f3.params.toList args.toList ds p:=hA0
 rw [Tryz.params3] at hA hval
 obtain ⟨v0,vs0,d0,ds0,p0,q0,hargs,rfl,rfl,h0,r0⟩:=trodAll_cons hA
 obtain ⟨v1,vs1,d1,ds1,p1,q1,rfl,rfl,rfl,h1,r1⟩:=trodAll_cons r0
 obtain ⟨v2,vs2,d2,ds2,p2,q2,rfl,rfl,rfl,h2,r2⟩:=trodAll_cons r1
 obtain ⟨rfl,rfl,rfl⟩:=trodAll_nil r2
 obtain rfl:args=#[v0,v1,v2]:=by cases args;simp_all
 obtain ⟨rfl,rfl⟩:=trodVars_none hV
 have lt0:∀x∈p0,x.block < W.heap.size:=by obtain ⟨m,hm⟩:=h0;exact DataW.trod_lt m _ _ _ hm
 have lt1:∀x∈p1,x.block < W.heap.size:=by obtain ⟨m,hm⟩:=h1;exact DataW.trod_lt m _ _ _ hm
 obtain ⟨l0,ol0,rl0,kl0⟩:=yU Tryz.underlying22 (hval 0 22 v0 rfl rfl) h0 (N:=nf d0) He (Nat.le_refl _)
 obtain ⟨l1,ol1,rl1,kl1⟩:=yU Tryz.underlying22 (hval 1 22 v1 rfl rfl) h1 (N:=nf d1) He (Nat.le_refl _)
 obtain ⟨a2,rfl,rfl,rfl⟩:=open_bool Tryz.underlying4 (hval 2 4 v2 rfl rfl) h2
 have hL':laidMet Tryz.prog BI W:=by rw [<-NW];exact hL
 have hG:=H9 hL' hO (by simp [BI,Rows.encodeDistinctRow]) (by simp [BI,Rows.encodeDistinctRow]) (by simp [BI,Rows.encodeDistinctRow]) (by simp [BI,Rows.encodeDistinctRow]) (by simp [BI,Rows.encodeDistinctRow]) (by simp [BI,Rows.encodeDistinctRow]) (by simp [BI,Rows.encodeDistinctRow]) (by simp [BI,Rows.encodeDistinctRow])
 have hct:=Go.T.TJ (n:=l0.length) (m:=l1.length) (g:=λj=>l0.getD j 0) (h:=λj=>l1.getD j 0) (λj hj=>by rw [List.getD_eq_getElem?_getD,List.getElem?_eq_getElem hj];exact ol0 _ (List.getElem_mem hj)) (λj hj=>by rw [List.getD_eq_getElem?_getD,List.getElem?_eq_getElem hj];exact ol1 _ (List.getElem_mem hj)) a2
 have hstand:Jh W [Pj l0,Pj l1,.bool a2] [v0,v1,.bool a2]:=⟨⟨rl0,kl0⟩,⟨rl1,kl1⟩,⟨.bool _,rfl⟩,trivial⟩
 refine (x8 hG hct hstand).mono λe W' ⟨he,bel⟩=>?_
 subst he
 exact ⟨_,rfl,_,_,_,[],_,[],hW',trodAll_mk1 (shut_bool Tryz.underlying4 _),(trodAll_cons_mk (Below.trod DB (by kernel_rfl) (of_decide_eq_true (by kernel_rfl)) h0 bel lt0) (trodAll_cons_mk (Below.trod DB (by kernel_rfl) (of_decide_eq_true (by kernel_rfl)) h1 bel lt1) (trodAll_cons_mk (shut_bool Tryz.underlying4 _) trodAll_mk0))),rfl,bel.frame _,λh=>by cases h⟩
end Go.Proofs.YtkmecnnkfpfjiaaGreatDoor
