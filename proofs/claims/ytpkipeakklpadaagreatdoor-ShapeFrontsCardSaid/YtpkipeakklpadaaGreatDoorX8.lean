/- ShapeFronts: the row's reading, its witness, the call. -/
import Derived.Test.YtpkipeakklpadaaGreatDoorX7
import Derived.ProofKit
import Derived.Lay
import Derived.LaidOnce
import Derived.OpenShut
import Derived.Below
import Derived.ChangeOld
import Derived.SevenTiedAt
import Derived.Deep.DeepHandedRow
import Derived.Deep.DeepWitnessRowRef
set_option linter.unusedVariables false
set_option linter.unusedSimpArgs false
namespace Go.Proofs.YtpkipeakklpadaaGreatDoor
open Go Go.ChangeShapes Go.WideShapes Go.ChangeAt Go.RowKit Go.Deep Go.Ab Go.T Go.SH
theorem Qa:ownKnob Tryz.prog.godebug=none:=by kernel_rfl
theorem HK:laidOutB Tryz.prog=true:=by kernel_rfl
def sX:Array Value:=#[.slice none 0 0,.int .i64 0,.int .i64 0,.int .i64 0,.int .i64 0]
abbrev y4:List (String×DataW Unit):=Rows.shapeFrontsRow.laid
theorem JL (w:World):laidMetH Tryz.prog y4 w=laidMet Tryz.prog y4 w:=MakeChecks.laidMetH_plain _ _ _ (by kernel_rfl)
noncomputable def M4 (os:Os):World:=World.laidAll Tryz.prog os y4
theorem EE (os:Os):laidMet Tryz.prog y4 ((M4 os).forCall (λ_ _=>0) ⟨#[],sX,[]⟩).memory:=laidMet_laidAll _ (by kernel_rfl) (by kernel_rfl)
set_option maxRecDepth 100000 in
theorem vP (os:Os) {H:Type} (enc:TypeId×Value->H) :
  (OpenSpec.ofChange Rows.shapeFrontsSpec).preRow enc Tryz.prog Tryz.f4 Rows.shapeFrontsRow.domain false y4 ((M4 os).forCall (λ_ _=>0) ⟨#[],sX,[]⟩).memory sX:=by
 have hw:(DataW.whole enc Tryz.prog ((M4 os).forCall (λ_ _=>0) ⟨#[],sX,[]⟩).memory Tryz.f4.params.toList (OpenSpec.ofChange Rows.shapeFrontsSpec).vars false sX.toList 12).map (λx=>(x.1,x.2.1))=some
   ([.nil,.lit (.int .i64 0),.lit (.int .i64 0),.lit (.int .i64 0),.lit (.int .i64 0)],[]):=by kernel_rfl
 obtain ⟨⟨x1,x2,x3⟩,hx,hx1⟩:=Option.map_eq_some_iff.1 hw
 simp only [Prod.mk.injEq] at hx1
 obtain ⟨rfl,rfl⟩:=hx1
 exact OpenSpec.preRow_of_cond 12 hx (by kernel_rfl) (λk hk=>by cases hk) (by kernel_rfl) (EE os)
set_option maxRecDepth 100000 in
theorem J5 (os:Os) (started:os.Started) (H:Type) (enc:TypeId×Value->H) (F:Stop.Interp) :
  ReturnsInHanded {} Tryz.checked os 4 .any ((OpenSpec.ofChange Rows.shapeFrontsSpec).preRow enc Tryz.prog Tryz.f4 Rows.shapeFrontsRow.domain false y4) (((OpenSpec.ofChange Rows.shapeFrontsSpec).at F).post enc Tryz.prog Tryz.f4 false true false false):=by
 refine returnsInHanded_of_row (C:=Tryz.checked) (s:=OpenSpec.ofChange Rows.shapeFrontsSpec) Qa started (by kernel_rfl) Tryz.func4
  (witness_row_atRef (enc:=enc) (C:=Tryz.checked) false (M4 os) sX (World.laidAll_os _ _ _) (by kernel_rfl) (by kernel_rfl) (by kernel_rfl) (vP os enc)) ?_
 intro W base args ds gs before hval0 hW _ _ _ hL hO _
 have hval:∀ (j:Nat) t v,Tryz.f4.params[j]?=some t->args[j]?=some v->Value.okWide Tryz.prog W .any base t v:=hval0
 have hW':=hW
 obtain ⟨p,q,hA0,hV,rfl,_,_⟩:=hW
 have hA:DataW.TrodAll enc Tryz.prog W 0 (λ_=>true) true Tryz.f4.params.toList args.toList ds p:=hA0
 rw [Tryz.params4] at hA hval
 obtain ⟨v0,vs0,d0,ds0,p0,q0,hargs,rfl,rfl,h0,r0⟩:=trodAll_cons hA
 obtain ⟨v1,vs1,d1,ds1,p1,q1,rfl,rfl,rfl,h1,r1⟩:=trodAll_cons r0
 obtain ⟨v2,vs2,d2,ds2,p2,q2,rfl,rfl,rfl,h2,r2⟩:=trodAll_cons r1
 obtain ⟨v3,vs3,d3,ds3,p3,q3,rfl,rfl,rfl,h3,r3⟩:=trodAll_cons r2
 obtain ⟨v4,vs4,d4,ds4,p4,q4,rfl,rfl,rfl,h4,r4⟩:=trodAll_cons r3
 obtain ⟨rfl,rfl,rfl⟩:=trodAll_nil r4
 obtain rfl:args=#[v0,v1,v2,v3,v4]:=by cases args;simp_all
 obtain ⟨rfl,rfl⟩:=trodVars_none hV
 have lt0:∀x∈p0,x.block < W.heap.size:=by obtain ⟨m,hm⟩:=h0;exact DataW.trod_lt m _ _ _ hm
 obtain ⟨l0,ol0,rl0,kl0⟩:=De Tryz.underlying22 (hval 0 22 v0 rfl rfl) h0 (N:=my d0) JC (Nat.le_refl _)
 obtain ⟨a1,rfl,rfl,rfl,wa1⟩:=open_int Tryz.underlying3 (hval 1 3 v1 rfl rfl) h1
 obtain ⟨a2,rfl,rfl,rfl,wa2⟩:=open_int Tryz.underlying3 (hval 2 3 v2 rfl rfl) h2
 obtain ⟨a3,rfl,rfl,rfl,wa3⟩:=open_int Tryz.underlying3 (hval 3 3 v3 rfl rfl) h3
 obtain ⟨a4,rfl,rfl,rfl,wa4⟩:=open_int Tryz.underlying3 (hval 4 3 v4 rfl rfl) h4
 have hL':laidMet Tryz.prog y4 W:=by rw [<-JL];exact hL
 have hG:=ET hL' hO (by simp [y4,Rows.shapeFrontsRow]) (by simp [y4,Rows.shapeFrontsRow]) (by simp [y4,Rows.shapeFrontsRow]) (by simp [y4,Rows.shapeFrontsRow]) (by simp [y4,Rows.shapeFrontsRow]) (by simp [y4,Rows.shapeFrontsRow]) (by simp [y4,Rows.shapeFrontsRow]) (by simp [y4,Rows.shapeFrontsRow])
 have hct:=Go.T.Qf (n:=l0.length) (g:=λj=>l0.getD j 0) (λj hj=>by rw [List.getD_eq_getElem?_getD,List.getElem?_eq_getElem hj];exact ol0 _ (List.getElem_mem hj)) a1 a2 a3 a4
 have hstand:FT W [MN l0,.int .i64 a1,.int .i64 a2,.int .i64 a3,.int .i64 a4] [v0,.int .i64 a1,.int .i64 a2,.int .i64 a3,.int .i64 a4]:=⟨⟨rl0,kl0⟩,⟨.int _ _,rfl⟩,⟨.int _ _,rfl⟩,⟨.int _ _,rfl⟩,⟨.int _ _,rfl⟩,trivial⟩
 refine (vw hG hct hstand).mono λe W' ⟨he,bel⟩=>?_
 subst he
 exact ⟨_,rfl,_,_,_,[],_,[],hW',trodAll_mk1 (shut_bool Tryz.underlying4 _),(trodAll_cons_mk (Below.trod HK (by kernel_rfl) (of_decide_eq_true (by kernel_rfl)) h0 bel lt0) (trodAll_cons_mk (shut_int Tryz.underlying3 wa1) (trodAll_cons_mk (shut_int Tryz.underlying3 wa2) (trodAll_cons_mk (shut_int Tryz.underlying3 wa3) (trodAll_cons_mk (shut_int Tryz.underlying3 wa4) trodAll_mk0))))),rfl,bel.frame _,λh=>by cases h⟩
end Go.Proofs.YtpkipeakklpadaaGreatDoor
