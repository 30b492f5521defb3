/- WholeAssignments: the row's reading, its witness, the call. -/
import Derived.Test.YtofjmkmjdaccgaaGreatDoorX9
import Derived.ProofKit
import Derived.Lay
import Derived.LaidOnce
import Derived.OpenShut
import Derived.Below
import Derived.ChangeOld
import Derived.SevenTiedAt
import Derived.Deep.Fields
import Derived.Deep.DeepHandedRow
import Derived.Deep.DeepWitnessRowRef
set_option linter.unusedVariables false
set_option linter.unusedSimpArgs false
namespace Go.Proofs.YtofjmkmjdaccgaaGreatDoor
open Go Go.ChangeShapes Go.WideShapes Go.ChangeAt Go.RowKit Go.Deep Go.Ab Go.WF
section
variable {H:Type} {enc:TypeId×Value->H} {P:Program} {w:World} {base:Nat} {spare:Nat->Bool} {held:Bool}
theorem wY {r:Reach} {b0:Nat} {t:TypeId} {f0 f1 f2 f3 f4:Field} {v:Value} {d:DataW H} {p:List MemPlace} (hs:P.underlying t=some (.struct #[f0,f1,f2,f3,f4])) (hone:oneCellFields P #[f0,f1,f2,f3,f4]=true) (hC:P.cellsOf t=5)
  (hv:Value.okWide P w r b0 t v) (h:DataW.Trod enc P w base spare held t v d p) :
  ∃ (v0 v1 v2 v3 v4:Value) (y0 y1 y2 y3 y4:DataW H×List MemPlace) (n:Nat),v=.agg #[v0,v1,v2,v3,v4] /\
   DataW.trod enc P w base spare held n f0.type [v0]=some y0/\DataW.trod enc P w base spare held n f1.type [v1]=some y1/\DataW.trod enc P w base spare held n f2.type [v2]=some y2/\DataW.trod enc P w base spare held n f3.type [v3]=some y3/\DataW.trod enc P w base spare held n f4.type [v4]=some y4:=by
 obtain ⟨cs,rfl,hsz⟩:=okWide_struct hs hv
 obtain ⟨l⟩:=cs
 match l,hsz.trans hC with
 | [c0,c1,c2,c3,c4],_=>
  obtain ⟨fuel,hf⟩:=h
  obtain ⟨xs,n,_,hx,_,hlen,hg⟩:=DataW.trod_struct hs hf
  obtain ⟨o0,k0⟩:=hone_of hone 0 f0 rfl
  obtain ⟨o1,k1⟩:=hone_of hone 1 f1 rfl
  obtain ⟨o2,k2⟩:=hone_of hone 2 f2 rfl
  obtain ⟨o3,k3⟩:=hone_of hone 3 f3 rfl
  obtain ⟨o4,k4⟩:=hone_of hone 4 f4 rfl
  match xs,hlen with
  | [y0,y1,y2,y3,y4],_=>
   exact ⟨c0,c1,c2,c3,c4,y0,y1,y2,y3,y4,n,rfl,by simpa [Value.cells,o0,k0] using hg 0 f0 rfl,by simpa [Value.cells,o1,k1] using hg 1 f1 rfl,by simpa [Value.cells,o2,k2] using hg 2 f2 rfl,by simpa [Value.cells,o3,k3] using hg 3 f3 rfl,by simpa [Value.cells,o4,k4] using hg 4 f4 rfl⟩
end
theorem KA:ownKnob Tryz.prog.godebug=none:=by kernel_rfl
theorem uj:laidOutB Tryz.prog=true:=by kernel_rfl
def ot:Array Value:=#[.agg #[.int .u8 0,.int .u8 0,.int .u16 0,.int .u16 0,.int .u16 0],.slice none 0 0]
abbrev uh:List (String×DataW Unit):=Rows.wholeAssignmentsRow.laid
theorem A0 (w:World):laidMetH Tryz.prog uh w=laidMet Tryz.prog uh w:=MakeChecks.laidMetH_plain _ _ _ (by kernel_rfl)
noncomputable def ES (os:Os):World:=World.laidAll Tryz.prog os uh
theorem xx (os:Os):laidMet Tryz.prog uh ((ES os).forCall (λ_ _=>0) ⟨#[],ot,[]⟩).memory:=laidMet_laidAll _ (by kernel_rfl) (by kernel_rfl)
set_option maxRecDepth 100000 in
theorem p4 (os:Os) {H:Type} (enc:TypeId×Value->H) :
  (OpenSpec.ofChange Rows.wholeAssignmentsSpec).preRow enc Tryz.prog Tryz.f4 Rows.wholeAssignmentsRow.domain false uh ((ES os).forCall (λ_ _=>0) ⟨#[],ot,[]⟩).memory ot:=by
 have hw:(DataW.whole enc Tryz.prog ((ES os).forCall (λ_ _=>0) ⟨#[],ot,[]⟩).memory Tryz.f4.params.toList (OpenSpec.ofChange Rows.wholeAssignmentsSpec).vars false ot.toList 12).map (λx=>(x.1,x.2.1))=some
   ([.agg [.lit (.int .u8 0),.lit (.int .u8 0),.lit (.int .u16 0),.lit (.int .u16 0),.lit (.int .u16 0)],.nil],[]):=by kernel_rfl
 obtain ⟨⟨x1,x2,x3⟩,hx,hx1⟩:=Option.map_eq_some_iff.1 hw
 simp only [Prod.mk.injEq] at hx1
 obtain ⟨rfl,rfl⟩:=hx1
 exact OpenSpec.preRow_of_cond 12 hx (by kernel_rfl) (λk hk=>by cases hk) (by kernel_rfl) (xx os)
set_option maxRecDepth 100000 in
theorem Bf (os:Os) (started:os.Started) (H:Type) (enc:TypeId×Value->H) (F:Stop.Interp) :
  ReturnsInHanded {} Tryz.checked os 4 .any ((OpenSpec.ofChange Rows.wholeAssignmentsSpec).preRow enc Tryz.prog Tryz.f4 Rows.wholeAssignmentsRow.domain false uh) (((OpenSpec.ofChange Rows.wholeAssignmentsSpec).at F).post enc Tryz.prog Tryz.f4 false true false false):=by
 refine returnsInHanded_of_row (C:=Tryz.checked) (s:=OpenSpec.ofChange Rows.wholeAssignmentsSpec) KA started (by kernel_rfl) Tryz.func4
  (witness_row_atRef (enc:=enc) (C:=Tryz.checked) false (ES os) ot (World.laidAll_os _ _ _) (by kernel_rfl) (by kernel_rfl) (by kernel_rfl) (p4 os enc)) ?_
 intro W base args ds gs before hval0 hW _ _ _ hL hO _
 have hval:∀ (j:Nat) t v,Tryz.f4.params[j]?=some t->args[j]?=some v->Value.okWide Tryz.prog W .any base t v:=hval0
 have hW':=hW
 obtain ⟨p,q,hA0,hV,rfl,_,_⟩:=hW
 have hA:DataW.TrodAll enc Tryz.prog W 0 (λ_=>true) true Tryz.f4.params.toList args.toList ds p:=hA0
 rw [Tryz.params4] at hA hval
 obtain ⟨v0,vs0,d0,ds0,p0,q0,hargs,rfl,rfl,h0,r0⟩:=trodAll_cons hA
 obtain ⟨v1,vs1,d1,ds1,p1,q1,rfl,rfl,rfl,h1,r1⟩:=trodAll_cons r0
 obtain ⟨rfl,rfl,rfl⟩:=trodAll_nil r1
 obtain rfl:args=#[v0,v1]:=by cases args;simp_all
 obtain ⟨rfl,rfl⟩:=trodVars_none hV
 have lt0:∀x∈p0,x.block < W.heap.size:=by obtain ⟨m,hm⟩:=h0;exact DataW.trod_lt m _ _ _ hm
 have lt1:∀x∈p1,x.block < W.heap.size:=by obtain ⟨m,hm⟩:=h1;exact DataW.trod_lt m _ _ _ hm
 have k0:=h0
 obtain ⟨a,b,c,d,e,y0,y1,y2,y3,y4,n,rfl,g0,g1,g2,g3,g4⟩:=wY Tryz.underlying24 (by kernel_rfl) (by kernel_rfl) (hval 0 24 v0 rfl rfl) h0
 obtain ⟨sa,e0,_,wsa⟩:=DataW.trod_int Tryz.underlying5 g0
 obtain ⟨ho,e1,_,who⟩:=DataW.trod_int Tryz.underlying5 g1
 obtain ⟨cu,e2,_,wcu⟩:=DataW.trod_int Tryz.underlying22 g2
 obtain ⟨on,e3,_,won⟩:=DataW.trod_int Tryz.underlying22 g3
 obtain ⟨tw,e4,_,wtw⟩:=DataW.trod_int Tryz.underlying22 g4
 simp only [List.cons.injEq,and_true] at e0 e1 e2 e3 e4
 subst e0 e1 e2 e3 e4
 obtain ⟨l1,ol1,rl1,kl1⟩:=wy Tryz.underlying25 (hval 1 25 v1 rfl rfl) h1 (N:=jY d1) Gy (Nat.le_refl _)
 have bho:nS ho:=by unfold nS;simp [Lit.wf,IntKind.min,IntKind.max,IntKind.signed,IntKind.bits] at who;omega
 have bon:0<=on/\on < 65536:=by simp [Lit.wf,IntKind.min,IntKind.max,IntKind.signed,IntKind.bits] at won;omega
 have hL':laidMet Tryz.prog uh W:=by rw [<-A0];exact hL
 have hG:=za hL' hO (by simp [uh,Rows.wholeAssignmentsRow]) (by simp [uh,Rows.wholeAssignmentsRow]) (by simp [uh,Rows.wholeAssignmentsRow]) (by simp [uh,Rows.wholeAssignmentsRow]) (by simp [uh,Rows.wholeAssignmentsRow]) (by simp [uh,Rows.wholeAssignmentsRow]) (by simp [uh,Rows.wholeAssignmentsRow])
 have hct:=Go.WF.yW (sa:=sa) (cu:=cu) (tw:=tw) bho bon ol1
 have hstand:yd W [.agg [.int .u8 sa,.int .u8 ho,.int .u16 cu,.int .u16 on,.int .u16 tw],CG l1] [.agg #[.int .u8 sa,.int .u8 ho,.int .u16 cu,.int .u16 on,.int .u16 tw],v1]:=by
  refine ⟨⟨.agg _ _ rfl (λi u hu=>?_) (λi u hu=>?_),rfl⟩,⟨rl1,kl1⟩,trivial⟩
  ·match i with
   | 0 | 1 | 2 | 3 | 4=>simp at hu;subst hu;rfl
   | i+5=>simp at hu
  ·match i with
   | 0 | 1 | 2 | 3 | 4=>simp at hu;subst hu;exact .int _ _
   | i+5=>simp at hu
 refine (pL hG hct hstand).mono λe W' ⟨he,bel⟩=>?_
 subst he
 exact ⟨_,rfl,_,_,_,[],_,[],hW',trodAll_mk1 (shut_bool Tryz.underlying4 _),(trodAll_cons_mk (Below.trod uj (by kernel_rfl) (of_decide_eq_true (by kernel_rfl)) k0 bel lt0) (trodAll_cons_mk (Below.trod uj (by kernel_rfl) (of_decide_eq_true (by kernel_rfl)) h1 bel lt1) trodAll_mk0)),rfl,bel.frame _,λh=>by cases h⟩
end Go.Proofs.YtofjmkmjdaccgaaGreatDoor
