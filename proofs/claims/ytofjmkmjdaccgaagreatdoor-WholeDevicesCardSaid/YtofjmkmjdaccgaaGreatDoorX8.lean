/- WholeDevices: the row's reading, its witness, the call. -/
import Derived.Test.YtofjmkmjdaccgaaGreatDoorX7
import Derived.ProofKit
import Derived.Lay
import Derived.LaidOnce
import Derived.OpenShut
import Derived.Below
import Derived.ChangeOld
import Derived.SevenTiedAt
import Derived.Deep.Fields
import Derived.Deep.DeepHandedRow
import Derived.Deep.DeepWitnessRowRef
set_option linter.unusedVariables false
set_option linter.unusedSimpArgs false
namespace Go.Proofs.YtofjmkmjdaccgaaGreatDoor
open Go Go.ChangeShapes Go.WideShapes Go.ChangeAt Go.RowKit Go.Deep Go.Ab Go.WF
section
variable {H:Type} {enc:TypeId×Value->H} {P:Program} {w:World} {base:Nat} {spare:Nat->Bool} {held:Bool}
theorem uz {r:Reach} {b0:Nat} {t:TypeId} {f0 f1 f2 f3 f4:Field} {v:Value} {d:DataW H} {p:List MemPlace} (hs:P.underlying t=some (.struct #[f0,f1,f2,f3,f4])) (hone:oneCellFields P #[f0,f1,f2,f3,f4]=true) (hC:P.cellsOf t=5)
  (hv:Value.okWide P w r b0 t v) (h:DataW.Trod enc P w base spare held t v d p) :
  ∃ (v0 v1 v2 v3 v4:Value) (y0 y1 y2 y3 y4:DataW H×List MemPlace) (n:Nat),v=.agg #[v0,v1,v2,v3,v4] /\
   DataW.trod enc P w base spare held n f0.type [v0]=some y0/\DataW.trod enc P w base spare held n f1.type [v1]=some y1/\DataW.trod enc P w base spare held n f2.type [v2]=some y2/\DataW.trod enc P w base spare held n f3.type [v3]=some y3/\DataW.trod enc P w base spare held n f4.type [v4]=some y4:=by
 obtain ⟨cs,rfl,hsz⟩:=okWide_struct hs hv
 obtain ⟨l⟩:=cs
 match l,hsz.trans hC with
 | [c0,c1,c2,c3,c4],_=>
  obtain ⟨fuel,hf⟩:=h
  obtain ⟨xs,n,_,hx,_,hlen,hg⟩:=DataW.trod_struct hs hf
  obtain ⟨o0,k0⟩:=hone_of hone 0 f0 rfl
  obtain ⟨o1,k1⟩:=hone_of hone 1 f1 rfl
  obtain ⟨o2,k2⟩:=hone_of hone 2 f2 rfl
  obtain ⟨o3,k3⟩:=hone_of hone 3 f3 rfl
  obtain ⟨o4,k4⟩:=hone_of hone 4 f4 rfl
  match xs,hlen with
  | [y0,y1,y2,y3,y4],_=>
   exact ⟨c0,c1,c2,c3,c4,y0,y1,y2,y3,y4,n,rfl,by simpa [Value.cells,o0,k0] using hg 0 f0 rfl,by simpa [Value.cells,o1,k1] using hg 1 f1 rfl,by simpa [Value.cells,o2,k2] using hg 2 f2 rfl,by simpa [Value.cells,o3,k3] using hg 3 f3 rfl,by simpa [Value.cells,o4,k4] using hg 4 f4 rfl⟩
end
theorem ER:ownKnob Tryz.prog.godebug=none:=by kernel_rfl
theorem rM:laidOutB Tryz.prog=true:=by kernel_rfl
def mZ:Array Value:=#[.agg #[.int .u8 0,.int .u8 0,.int .u16 0,.int .u16 0,.int .u16 0],.int .u8 0,.slice none 0 0,.int .u8 0,.int .u8 0]
abbrev rL:List (String×DataW Unit):=Rows.wholeDevicesRow.laid
theorem xR (w:World):laidMetH Tryz.prog rL w=laidMet Tryz.prog rL w:=MakeChecks.laidMetH_plain _ _ _ (by kernel_rfl)
noncomputable def A4 (os:Os):World:=World.laidAll Tryz.prog os rL
theorem uS (os:Os):laidMet Tryz.prog rL ((A4 os).forCall (λ_ _=>0) ⟨#[],mZ,[]⟩).memory:=laidMet_laidAll _ (by kernel_rfl) (by kernel_rfl)
set_option maxRecDepth 100000 in
theorem ot (os:Os) {H:Type} (enc:TypeId×Value->H) :
  (OpenSpec.ofChange Rows.wholeDevicesSpec).preRow enc Tryz.prog Tryz.f3 Rows.wholeDevicesRow.domain false rL ((A4 os).forCall (λ_ _=>0) ⟨#[],mZ,[]⟩).memory mZ:=by
 have hw:(DataW.whole enc Tryz.prog ((A4 os).forCall (λ_ _=>0) ⟨#[],mZ,[]⟩).memory Tryz.f3.params.toList (OpenSpec.ofChange Rows.wholeDevicesSpec).vars false mZ.toList 12).map (λx=>(x.1,x.2.1))=some
   ([.agg [.lit (.int .u8 0),.lit (.int .u8 0),.lit (.int .u16 0),.lit (.int .u16 0),.lit (.int .u16 0)],.lit (.int .u8 0),.nil,.lit (.int .u8 0),.lit (.int .u8 0)],[]):=by kernel_rfl
 obtain ⟨⟨x1,x2,x3⟩,hx,hx1⟩:=Option.map_eq_some_iff.1 hw
 simp only [Prod.mk.injEq] at hx1
 obtain ⟨rfl,rfl⟩:=hx1
 exact OpenSpec.preRow_of_cond 12 hx (by kernel_rfl) (λk hk=>by cases hk) (by kernel_rfl) (uS os)
set_option maxRecDepth 100000 in
theorem x9 (os:Os) (started:os.Started) (H:Type) (enc:TypeId×Value->H) (F:Stop.Interp) :
  ReturnsInHanded {} Tryz.checked os 3 .any ((OpenSpec.ofChange Rows.wholeDevicesSpec).preRow enc Tryz.prog Tryz.f3 Rows.wholeDevicesRow.domain false rL) (((OpenSpec.ofChange Rows.wholeDevicesSpec).at F).post enc Tryz.prog Tryz.f3 false true false false):=by
 refine returnsInHanded_of_row (C:=Tryz.checked) (s:=OpenSpec.ofChange Rows.wholeDevicesSpec) ER started (by kernel_rfl) Tryz.func3
  (witness_row_atRef (enc:=enc) (C:=Tryz.checked) false (A4 os) mZ (World.laidAll_os _ _ _) (by kernel_rfl) (by kernel_rfl) (by kernel_rfl) (ot os enc)) ?_
 intro W base args ds gs before hval0 hW _ _ _ hL hO _
 have hval:∀ (j:Nat) t v,Tryz.f3.params[j]?=some t->args[j]?=some v->Value.okWide Tryz.prog W .any base t v:=hval0
 have hW':=hW
 obtain ⟨p,q,hA0,hV,rfl,_,_⟩:=hW
 have hA:DataW.TrodAll enc Tryz.prog W 0 (λ_=>true) true Tryz.f3.params.toList args.toList ds p:=hA0
 rw [Tryz.params3] at hA hval
 obtain ⟨v0,vs0,d0,ds0,p0,q0,hargs,rfl,rfl,h0,r0⟩:=trodAll_cons hA
 obtain ⟨v1,vs1,d1,ds1,p1,q1,rfl,rfl,rfl,h1,r1⟩:=trodAll_cons r0
 obtain ⟨v2,vs2,d2,ds2,p2,q2,rfl,rfl,rfl,h2,r2⟩:=trodAll_cons r1
 obtain ⟨v3,vs3,d3,ds3,p3,q3,rfl,rfl,rfl,h3,r3⟩:=trodAll_cons r2
 obtain ⟨v4,vs4,d4,ds4,p4,q4,rfl,rfl,rfl,h4,r4⟩:=trodAll_cons r3
 obtain ⟨rfl,rfl,rfl⟩:=trodAll_nil r4
 obtain rfl:args=#[v0,v1,v2,v3,v4]:=by cases args;simp_all
 obtain ⟨rfl,rfl⟩:=trodVars_none hV
 have lt0:∀x∈p0,x.block < W.heap.size:=by obtain ⟨m,hm⟩:=h0;exact DataW.trod_lt m _ _ _ hm
 have lt2:∀x∈p2,x.block < W.heap.size:=by obtain ⟨m,hm⟩:=h2;exact DataW.trod_lt m _ _ _ hm
 have k0:=h0
 obtain ⟨a,b,c,d,e,y0,y1,y2,y3,y4,n,rfl,g0,g1,g2,g3,g4⟩:=uz Tryz.underlying24 (by kernel_rfl) (by kernel_rfl) (hval 0 24 v0 rfl rfl) h0
 obtain ⟨sa,e0,_,wsa⟩:=DataW.trod_int Tryz.underlying5 g0
 obtain ⟨ho,e1,_,who⟩:=DataW.trod_int Tryz.underlying5 g1
 obtain ⟨cu,e2,_,wcu⟩:=DataW.trod_int Tryz.underlying22 g2
 obtain ⟨on,e3,_,won⟩:=DataW.trod_int Tryz.underlying22 g3
 obtain ⟨tw,e4,_,wtw⟩:=DataW.trod_int Tryz.underlying22 g4
 simp only [List.cons.injEq,and_true] at e0 e1 e2 e3 e4
 subst e0 e1 e2 e3 e4
 obtain ⟨a1,rfl,rfl,rfl,wa1⟩:=open_int Tryz.underlying5 (hval 1 5 v1 rfl rfl) h1
 obtain ⟨l2,ol2,rl2,kl2⟩:=tW Tryz.underlying25 (hval 2 25 v2 rfl rfl) h2 (N:=iV d2) BV (Nat.le_refl _)
 obtain ⟨a3,rfl,rfl,rfl,wa3⟩:=open_int Tryz.underlying5 (hval 3 5 v3 rfl rfl) h3
 obtain ⟨a4,rfl,rfl,rfl,wa4⟩:=open_int Tryz.underlying5 (hval 4 5 v4 rfl rfl) h4
 have bho:gf ho:=by unfold gf;simp [Lit.wf,IntKind.min,IntKind.max,IntKind.signed,IntKind.bits] at who;omega
 have bon:0<=on/\on < 65536:=by simp [Lit.wf,IntKind.min,IntKind.max,IntKind.signed,IntKind.bits] at won;omega
 have b1:gf a1:=by unfold gf;simp [Lit.wf,IntKind.min,IntKind.max,IntKind.signed,IntKind.bits] at wa1;omega
 have b3:gf a3:=by unfold gf;simp [Lit.wf,IntKind.min,IntKind.max,IntKind.signed,IntKind.bits] at wa3;omega
 have b4:gf a4:=by unfold gf;simp [Lit.wf,IntKind.min,IntKind.max,IntKind.signed,IntKind.bits] at wa4;omega
 have hL':laidMet Tryz.prog rL W:=by rw [<-xR];exact hL
 have hG:=wD hL' hO (by simp [rL,Rows.wholeDevicesRow]) (by simp [rL,Rows.wholeDevicesRow]) (by simp [rL,Rows.wholeDevicesRow]) (by simp [rL,Rows.wholeDevicesRow]) (by simp [rL,Rows.wholeDevicesRow]) (by simp [rL,Rows.wholeDevicesRow]) (by simp [rL,Rows.wholeDevicesRow])
 have hct:=Go.WF.wv (sa:=sa) (cu:=cu) (tw:=tw) (w:=a1) bho bon b1 ol2 b3 b4
 have hstand:vC W [.agg [.int .u8 sa,.int .u8 ho,.int .u16 cu,.int .u16 on,.int .u16 tw],.int .u8 a1,zi l2,.int .u8 a3,.int .u8 a4] [.agg #[.int .u8 sa,.int .u8 ho,.int .u16 cu,.int .u16 on,.int .u16 tw],.int .u8 a1,v2,.int .u8 a3,.int .u8 a4]:=by
  refine ⟨⟨.agg _ _ rfl (λi u hu=>?_) (λi u hu=>?_),rfl⟩,⟨.int _ _,rfl⟩,⟨rl2,kl2⟩,⟨.int _ _,rfl⟩,⟨.int _ _,rfl⟩,trivial⟩
  ·match i with
   | 0 | 1 | 2 | 3 | 4=>simp at hu;subst hu;rfl
   | i+5=>simp at hu
  ·match i with
   | 0 | 1 | 2 | 3 | 4=>simp at hu;subst hu;exact .int _ _
   | i+5=>simp at hu
 refine (n5 hG hct hstand).mono λe W' ⟨he,bel⟩=>?_
 subst he
 exact ⟨_,rfl,_,_,_,[],_,[],hW',trodAll_mk1 (shut_bool Tryz.underlying4 _),(trodAll_cons_mk (Below.trod rM (by kernel_rfl) (of_decide_eq_true (by kernel_rfl)) k0 bel lt0) (trodAll_cons_mk (shut_int Tryz.underlying5 wa1) (trodAll_cons_mk (Below.trod rM (by kernel_rfl) (of_decide_eq_true (by kernel_rfl)) h2 bel lt2) (trodAll_cons_mk (shut_int Tryz.underlying5 wa3) (trodAll_cons_mk (shut_int Tryz.underlying5 wa4) trodAll_mk0))))),rfl,bel.frame _,λh=>by cases h⟩
end Go.Proofs.YtofjmkmjdaccgaaGreatDoor
