/- shape: prerequisites, targets, rules. shape: Segment, Layer, Experiment, Flag. shape: attributes, the lists, Environment. The draws, spoilt: names, numbers, values. The draws, spoilt: a condition. The draws, spoilt: a condition: its contract. The draws, spoilt: a condition: the whole. The draws, spoilt: a split. The draws, spoilt: a split: its contract; a Serve. The draws, spoilt: a Serve, long texts, a segment. The draws, spoilt: a layer. The draws, spoilt: an experiment. The draws, spoilt: a flag. The draws, spoilt: a flag: its contract. Copy; Spoil: hints. Spoil: its contract. Change: states. Change: its contract. ShapeFronts: the first elements of each list of a well-formed environment are well-formed. Spoil: its contract: the whole. The law's own: New, awake. ShapeEnvironments: the law answers true. ShapeFronts: the law answers true. The globals of the seat out of a row's list; a slice of bytes that came in. -/
import Derived.Test.YtpkipeakklpadaaGreatDoorX6
import Derived.Test.YtpkipeakklpadaaGreatDoorCards
import Derived.Test.YtpkipeakklpadaaGreatDoorTie
set_option linter.unusedVariables false
set_option linter.unusedSimpArgs false
namespace Go.T
open Go Go.Ab Go.Proofs Go.SH
def OW:List AV->Int
 | [.int _ v]=>v
 | _=>0
def orN:Nat->Nat->(Nat->List AV)->Int
 | 0,_,_=>0
 | k+1,j,g=>bif OW (g j) !=0 then OW (g j) else orN k (j+1) g
def Ho (l:List AV) (_:List AO) (x:Int):Prop:=∀n g,l=[.sl .fit 1 n g]->x=orN n 0 g
abbrev fI (l:List (Nat×AV)):Nat->List AV:=ae [.int .i64 0] l
theorem Ho.mk {n:Nat} {g:Nat->List AV} {x:Int} (h:x=orN n 0 g):Ho [.sl .fit 1 n g] [] x:=λn' g' e=>by
 simp only [List.cons.injEq,AV.sl.injEq,true_and,and_true] at e
 rw [h,e.1,e.2]
theorem Pd {x:Int} (h:(x !=0)=false):(0:Int)=x:=(by simpa using h:x=0).symm
theorem wX {b:Bool} {x y:Int} (h:b=true):x=bif b then x else y:=by rw [h];rfl
theorem iK {b:Bool} {x y z:Int} (h:b=false) (e:z=y):z=bif b then x else y:=by rw [h];exact e
theorem IQ (a b:Int):aG wd mK SH.φE Ho [.sl .fit 1 2 (fI [(0,.int .i64 a),(1,.int .i64 b)])] []:=
 ef (V:=V0) [] 9 (.b (a !=0) (λh=>.r a (.mk (wX h))) λh=>.b (b !=0) (λh2=>.r b (.mk (iK h (wX h2)))) λh2=>.r 0 (.mk (iK h (iK h2 rfl)))) (by kernel_rfl)
theorem IP (a b c:Int):aG wd mK SH.φE Ho [.sl .fit 1 3 (fI [(0,.int .i64 a),(1,.int .i64 b),(2,.int .i64 c)])] []:=
 ef (V:=V0) [] 9 (.b (a !=0) (λh=>.r a (.mk (wX h))) λh=>.b (b !=0) (λh2=>.r b (.mk (iK h (wX h2)))) λh2=>.b (c !=0) (λh3=>.r c (.mk (iK h (iK h2 (wX h3))))) λh3=>.r 0 (.mk (iK h (iK h2 (iK h3 rfl))))) (by kernel_rfl)
theorem xv (a b c d:Int):aG wd mK SH.φE Ho [.sl .fit 1 4 (fI [(0,.int .i64 a),(1,.int .i64 b),(2,.int .i64 c),(3,.int .i64 d)])] []:=
 ef (V:=V0) [] 9 (.b (a !=0) (λh=>.r a (.mk (wX h))) λh=>.b (b !=0) (λh2=>.r b (.mk (iK h (wX h2)))) λh2=>.b (c !=0) (λh3=>.r c (.mk (iK h (iK h2 (wX h3))))) λh3=>.b (d !=0) (λh4=>.r d (.mk (iK h (iK h2 (iK h3 (wX h4)))))) λh4=>.r 0 (.mk (iK h (iK h2 (iK h3 (iK h4 rfl)))))) (by kernel_rfl)
theorem Mq (a b c d e f:Int):aG wd mK SH.φE Ho [.sl .fit 1 6 (fI [(0,.int .i64 a),(1,.int .i64 b),(2,.int .i64 c),(3,.int .i64 d),(4,.int .i64 e),(5,.int .i64 f)])] []:=
 ef (V:=V0) [] 9 (.b (a !=0) (λh=>.r a (.mk (wX h))) λh=>.b (b !=0) (λh2=>.r b (.mk (iK h (wX h2)))) λh2=>.b (c !=0) (λh3=>.r c (.mk (iK h (iK h2 (wX h3))))) λh3=>.b (d !=0) (λh4=>.r d (.mk (iK h (iK h2 (iK h3 (wX h4)))))) λh4=>
  .b (e !=0) (λh5=>.r e (.mk (iK h (iK h2 (iK h3 (iK h4 (wX h5))))))) λh5=>.b (f !=0) (λh6=>.r f (.mk (iK h (iK h2 (iK h3 (iK h4 (iK h5 (wX h6)))))))) λh6=>.r 0 (.mk (iK h (iK h2 (iK h3 (iK h4 (iK h5 (iK h6 rfl)))))))) (by kernel_rfl)
noncomputable abbrev jb:Ent:=aY wd mK SH.φE Ho
def mxI (i:Nat):Int:=bif decide (0 > IntKind.wrap .i64 ((i:Int) - 1)) then 0 else IntKind.wrap .i64 ((i:Int) - 1)
theorem IE {i n:Nat} (h:i < n) (hn:n<=4611686018427387904):mxI i=((i - 1:Nat):Int):=by
 unfold mxI
 rw [wrap_i64 (by omega) (by omega)]
 by_cases h0:i=0
 ·subst h0;rfl
 ·rw [decide_eq_false (by omega),cond_false];omega
theorem N9 {i n:Nat} (c:Bool) (h:i < n) (hn:n<=4611686018427387904):(bif within (mxI i) n then true else c)=true:=gw (by rw [IE h hn];exact c6 (by omega))
theorem N8 (G:Nat->Bool) {i n:Nat} (h:i < n) (hn:n<=4611686018427387904):(bif decide ((i:Int) > 0) then G (Int.toNat (mxI i)) else false)=(decide (i > 0)&&G (i - 1)):=by
 rw [IE h hn,Int.toNat_natCast]
 by_cases h0:i > 0
 ·rw [decide_eq_true h0,decide_eq_true (show (i:Int) > 0 by omega)];rfl
 ·rw [decide_eq_false h0,decide_eq_false (show ¬ (i:Int) > 0 by omega)];rfl
def PqZ (l:List PRQ) (i:Int):St:={env:=[(0,IB l),(9,IB l),(10,.int .i64 l.length),(11,.int .i64 i)],objs:=[]}
theorem Gy (l:List PRQ) (hl:okL (λp:PRQ=>hJ p.flag) l):aG wd gh SH.φE (rIs (F5 l)) [IB l] []:=by
 have hm:=hl.big
 obtain ⟨u,w,hu,hlo⟩:=bD (V:=V0) (T:=[jI,lS,jb]) (d:=3) (W:=[]) (f:=gh) (p:=[1,1,0,1,0]) (Lf:=λL=>L) (PqZ l) l.length (jy l) (p6 2) (λk=>k (.exit 0) {env:=[],objs:=[]}) (by kernel_rfl)
  (λi a=>
   have c:=N8 (λj=>aA (l.getD i default).flag (l.getD j default).flag||(l.getD i default).flag==(l.getD j default).flag) a.lt hm
   .n a.w (.call (dq (l.getD i default).flag) λb q=>.call (bG (!b) 6) λt1 q1=>.n (N9 (!bif decide ((i:Int) > 0)==true then true else false) a.lt hm)
   (.call (bG (bif decide ((i:Int) > 0) then (aA (l.getD i default).flag (l.getD (Int.toNat (mxI i)) default).flag||(l.getD i default).flag==(l.getD (Int.toNat (mxI i)) default).flag) else false) 9) λt2 q2=>
   .call (bG (bif decide ((l.getD i default).var < 1) then true else decide ((l.getD i default).var > 8)) 3) λt3 q3=>.call (IP t1 t2 t3) λt qt=>
   have e:jy l i=bif t !=0 then some t else none:=by
    have y:t=bif t1 !=0 then t1 else bif t2 !=0 then t2 else bif t3 !=0 then t3 else 0:=qt _ _ rfl
    rw [y,q1 _ _ rfl,q2 _ _ rfl,q3 _ _ rfl,q _ rfl,c,Bool.cond_true_left]
    unfold jy
    cases !dT (l.getD i default).flag <;> cases (decide (i > 0)&&(aA (l.getD i default).flag (l.getD (i - 1) default).flag||(l.getD i default).flag==(l.getD (i - 1) default).flag)) <;> cases (decide ((l.getD i default).var < 1)||decide ((l.getD i default).var > 8)) <;> rfl
   .b (t !=0) (λh=>.sp t a (by rw [e,h];rfl)) λh=>.up a hm (by rw [e,h];rfl)))) (λi L k kn=>by kernel_rfl)
 exact fJ (V:=V0) [jI,lS,jb] 3 hlo (.b (decide ((l.length:Int) > 4)) (λh=>fC (n:=4) h) λh=>.lp hu λt q=>fB (n:=4) q h) (by kernel_rfl)
noncomputable abbrev KE:Ent:=aY wd uu SH.φE (rC aM BX)
noncomputable abbrev eSX:Ent:=aY wd uy SH.φE (rC aX gk)
noncomputable abbrev No (n:Nat):Ent:=aY wd pV SH.φE (rC (aS n) λv=>ca v n)
theorem Dd (l:List (List UInt8)) (hl:im l):aG wd uu SH.φE (rC aM BX) [bO l] []:=aG.rC Jd (GB l hl)
theorem Nw (e:EXP) (he:e.Ok):aG wd uy SH.φE (rC aX gk) [.agg e.x] []:=by rw [EXP.CA];exact aG.rC Jb (GL e he)
theorem Ln (n:Nat) (v:SERVE) (hv:v.Ok):aG wd pV SH.φE (rC (aS n) λv=>ca v n) [.agg v.c,.int .i64 n] []:=aG.rC (E:=λv=>ca v n) (Jc n) (Da v n hv)
def TgZ (l:List TGT) (n:Nat) (i:Int):St:={env:=[(1,.int .i64 n),(11,Jj l),(12,.int .i64 l.length),(13,.int .i64 i)],objs:=[]}
theorem Gw (l:List TGT) (n:Nat) (hl:okL TGT.Ok l):aG wd nQ SH.φE (rIs (Gn l n)) [Jj l,.int .i64 n] []:=by
 have hm:=hl.big
 obtain ⟨u,w,hu,hlo⟩:=bD (V:=V0) (T:=[jI,lS,jb,KE]) (d:=3) (W:=[]) (f:=nQ) (p:=[1,1,0,1,0]) (Lf:=λL=>L) (TgZ l n) l.length (jl l n) (p6 4) (λk=>k (.exit 0) {env:=[],objs:=[]}) (by kernel_rfl)
  (λi a=>.n a.w (.call (dq (l.getD i default).kind) λb q=>.call (bG (!b) 6) λt1 q1=>.call (bG (bif decide ((l.getD i default).var < 1) then true else decide ((l.getD i default).var > (n:Int))) 3) λt2 q2=>
   .call (bG (((l.getD i default).keys.length:Int)==0) 3) λt3 q3=>.call (Dd _ (hl.at a.lt).2) λt4 q4=>.call (xv t1 t2 t3 t4) λt qt=>
   have e:jl l n i=bif t !=0 then some t else none:=by
    have y:t=bif t1 !=0 then t1 else bif t2 !=0 then t2 else bif t3 !=0 then t3 else bif t4 !=0 then t4 else 0:=qt _ _ rfl
    rw [y,q1 _ _ rfl,q2 _ _ rfl,q3 _ _ rfl,q4 _ rfl,q _ rfl,cU,Bool.cond_true_left]
    unfold jl
    generalize BX (l.getD i default).keys=m
    cases hm:(m !=0) <;> cases !dT (l.getD i default).kind <;> cases decide ((l.getD i default).var < 1) <;> cases decide ((l.getD i default).var > (n:Int)) <;> cases (l.getD i default).keys.length==0 <;> first | rfl | (show some m=(bif m !=0 then some m else none);rw [hm];rfl)
   .b (t !=0) (λh=>.sp t a (by rw [e,h];rfl)) λh=>.up a hm (by rw [e,h];rfl))) (λi L k kn=>by kernel_rfl)
 exact fJ (V:=V0) [jI,lS,jb,KE] 3 hlo (.b (decide ((l.length:Int) > 8)) (λh=>fC (n:=8) h) λh=>.lp hu λt q=>fB (n:=8) q h) (by kernel_rfl)
def QE (l:List RULE) (n:Nat) (i:Int):St:={env:=[(0,mc l),(1,.int .i64 n),(13,mc l),(14,.int .i64 l.length),(15,.int .i64 i)],objs:=[]}
abbrev PSi:List Nat:=[1,0,1,1,0,1,0,0,1,1,0,0,1,1,0,1,0]
def R2Z (l:List RULE) (n:Nat) (x:Nat×Nat):St:=Qz l n x.1 x.2
theorem Db (l:List RULE) (n:Nat) (hl:okL RULE.Ok l):aG wd pU SH.φE (rIs (F4 l n)) [mc l,.int .i64 n] []:=by
 have hm:=hl.big
 obtain ⟨u2,w2,h2,l2⟩:=oe (V:=V0) (T:=[jI,lS,jb,eSX,No n]) (d:=9) (W:=[]) (f:=pU) (p:=PSi) (Lf:=λL=>L) (R2Z l n) (λx=>(x.2<=x.1/\x.1 < l.length)/\rX l x.1 x.2=rX l x.1 0) (λx=>x.1 - x.2) (LY l n) (λs o=>(o.1:Int)=slI 15 s/\o.2=rX l o.1 0) (by kernel_rfl)
  (λx hx=>.b (decide ((x.2:Int) < (x.1:Int))) (λh=>
    have hk:x.2 < x.1:=od h
    have st:=xC l x.1 hk
    .n (c6 hk) (.b ((l.getD (0+Int.toNat (x.2:Int)) default).name==(l.getD x.1 default).name) (λhb=>.fi (x.1,true) ⟨rfl,by
      have hb:((l.getD x.2 default).name==(l.getD x.1 default).name)=true:=by rw [Int.toNat_natCast,Nat.zero_add] at hb;exact hb
      show true=rX l x.1 0;rw [<-hx.2,st,hb];rfl⟩)
     λhb=>.nx {env:=[(0,mc l),(1,.int .i64 n),(6,.ref 6 0),(13,mc l),(14,.int .i64 l.length),(15,.int .i64 x.1),(26,OZ l x.1),(27,.int .i64 x.1),(28,.int .i64 (IntKind.wrap .i64 ((x.2:Int)+1)))],objs:=[(6,.cells (l.getD x.1 default).c)]} (x.1,x.2+1) ⟨⟨hk,hx.1.2⟩,by
      have hb:((l.getD x.2 default).name==(l.getD x.1 default).name)=false:=by rw [Int.toNat_natCast,Nat.zero_add] at hb;exact hb
      show rX l x.1 (x.2+1)=_;rw [<-hx.2,st,hb];rfl⟩ (by show x.1 - (x.2+1) < x.1 - x.2;omega) (λ_ h=>h) (by rw [ba (by omega)];rfl)))
   λh=>.fi (x.1,false) ⟨rfl,by show false=rX l x.1 0;rw [<-hx.2,Bh];have:=of_decide_eq_false h;omega⟩) (λv L k kn=>by kernel_rfl)
 obtain ⟨u,w,hu,hlo⟩:=ke (V:=V0) (T:=[jI,lS,jb,eSX,No n]) (d:=9) (W:=[]) (f:=pU) (p:=[1,0,1,1,0,1,0]) (Lf:=λo:Orc=>[([1,0,1,1,0,1,0],o),(PSi,mkO u2 w2 (LY l n))]) (B72 l n) l.length (·+1) (s1 _) (eh l n) (p6 4) (λ_ k=>k (.exit 0) {env:=[],objs:=[]}) (λi=>decide ((i:Int) < (l.length:Int))) (λi=>J2 i _) (by kernel_rfl)
  (λi a=>.n a.w (.call (dq (l.getD i default).name) λb q=>.b (!b) (λh=>.sp 6 a (by rw [q _ rfl] at h;unfold eh;rw [h];rfl)) λh=>
   have h:(!dT (l.getD i default).name)=false:=by rw [<-q _ rfl];exact h
   .n (c:=decide ((0:Int)<=((0:Nat):Int))&&(decide (((0:Nat):Int)<=(i:Int))&&decide ((i:Int)<=(l.length:Int)))) (slT (Int.le_refl _) (by omega) (by have:=a.lt;omega))
   (.lp (h2 (i,0) ⟨⟨Nat.zero_le _,a.lt⟩,rfl⟩) λo qo=>
   have e1:o.1=i:=Int.ofNat.inj qo.1
   .b o.2 (λhd=>.sp 10 a (by rw [qo.2,e1] at hd;unfold eh;rw [h,hd];rfl)) λhd=>
   have hd:rX l i 0=false:=by rw [qo.2,e1] at hd;exact hd
   .call (f:=uy) (R:=rC aX gk) (ψ:=SH.φE) (l:=[.agg (l.getD o.1 default).when.x]) (os:=[]) (by rw [e1];exact Nw _ (hl.at a.lt).2.1) λt qt=>
   .call (f:=pV) (R:=rC (aS n) λv=>ca v n) (ψ:=SH.φE) (l:=[.agg (l.getD o.1 default).serve.c,.int .i64 n]) (os:=[]) (by rw [e1];exact Ln n _ (hl.at a.lt).2.2) λs qs=>
   .call (IQ t s) λr qr=>
   have e:eh l n i=bif r !=0 then some r else none:=by
    have y:r=bif t !=0 then t else bif s !=0 then s else 0:=qr _ _ rfl
    have yt:t=gk (l.getD i default).when:=by rw [qt (l.getD o.1 default).when (by rw [EXP.CA]),e1]
    have ys:s=ca (l.getD i default).serve n:=by rw [qs (l.getD o.1 default).serve rfl,e1]
    rw [y]
    unfold eh
    rw [h,hd,<-yt,<-ys]
    cases h1:(t !=0) <;> cases h2:(s !=0) <;> first | rfl | (show some t=(bif t !=0 then some t else none);rw [h1];rfl) | (show some s=(bif s !=0 then some s else none);rw [h2];rfl)
   .b (r==0) (λh0=>.on (QE l n (IntKind.wrap .i64 ((o.1:Int)+1))) a (by rw [e,show r=0 by simpa using h0];rfl) (by rw [e1,ba (by have:=a.lt;omega)];rfl)) λh0=>.sp r a (by rw [e,show (r !=0)=true by simpa using h0];rfl)))) (λi L k kn=>by kernel_rfl)
 exact de (V:=V0) (T:=[jI,lS,jb,eSX,No n]) (d:=9) 0 (ah (hlo _) (ah (l2 _) aE)) aD (.b (decide ((l.length:Int) > 12)) (λh=>fC (n:=12) h) λh=>.lp hu λt q=>fB (n:=12) q h) (by kernel_rfl)
end Go.T

namespace Go.T
open Go Go.Ab Go.Proofs Go.SH
theorem ch {t o r:Int}:(bif (bif t !=0 then t else o) !=0 then (bif t !=0 then t else o) else r)=bif t !=0 then t else (bif o !=0 then o else r):=by
 cases h:(t !=0) with
 | true=>rw [cond_true,h];rfl
 | false=>rfl
theorem wh {b:Bool} {c r:Int} (hc:(c !=0)=true):(bif (bif b then c else 0) !=0 then (bif b then c else 0) else r)=bif b then c else r:=by
 cases b with
 | true=>rw [cond_true,hc]
 | false=>rfl
theorem zr {r:Int}:(bif (0:Int) !=0 then 0 else r)=r:=rfl
theorem L4 (e:EXP):aG wd yd φB (rIs (ml e)) [.agg e.x] []:=by rw [EXP.CA];exact JZ e
theorem id0 {t:Int}:(bif t !=0 then t else 0)=t:=by
 cases h:(t !=0) with
 | true=>rfl
 | false=>exact Pd h
theorem Jp (f:SEG) (hf:f.Ok):aG wd tb SH.φE (rIs (Dp f)) [.agg f.c] []:=by
 obtain ⟨h1,h2,h3,h4,h5⟩:=hf
 exact ef (V:=V0) [jI,lS,jb,KE,aY wd yd φB (rIs (ml f.when)),eSX] 9 (.call (dq f.key) λx qx=>.call (dq f.kind) λy qy=>.call (bG (bif !x then true else !y) 6) λt1 q1=>.call (Dd f.incl h3) λt2 q2=>.call (Dd f.excl h4) λt3 q3=>.call (IP t1 t2 t3) λt qt=>.call (L4 f.when) λz qz=>
  have e:Dp f=bif t !=0 then t else bif z then 0 else gk f.when:=by
   rw [show t=bif t1 !=0 then t1 else bif t2 !=0 then t2 else bif t3 !=0 then t3 else 0 from qt _ _ rfl,ch,ch,ch,zr,q1 _ _ rfl,wh rfl,q2 _ rfl,q3 _ rfl,qx _ rfl,qy _ rfl,Bool.cond_true_left,show z=ml f.when from qz];rfl
  .b (bif t !=0 then true else z) (λh=>.r t (by
    unfold rIs;rw [e]
    cases h0:(t !=0) with
    | true=>rfl
    | false=>rw [h0] at h;rw [show z=true from h];exact (Pd h0).symm)) λh=>.call (Nw f.when h5) λs q=>.r s (by
    unfold rIs;rw [e,q f.when (by rw [EXP.CA])]
    rw [Bool.cond_true_left] at h
    rw [(Bool.or_eq_false_iff.1 h).1,(Bool.or_eq_false_iff.1 h).2];rfl)) (by kernel_rfl)
theorem GK (f:EXPT) (hf:f.Ok):aG wd mL SH.φE (rIs (pG f)) [.agg f.c] []:=by
 obtain ⟨h1,h2,h3,h4,h5,h6,h7⟩:=hf
 exact ef (V:=V0) [jI,F9,lS,jb,aY wd uw SH.φE (rIs (oK f.claims)),aY wd iu SH.φE (rIs (dA f.arms 8)),eSX] 9 (.call (dq f.key) λx qx=>.call (dq f.layer) λy qy=>.call (dq f.flag) λz qz=>.call (bG (bif bif !x then true else !y then true else !z) 6) λt1 q1=>
  .call (jk f.salt h4) λv qv=>.call (bG (!v) 2) λt2 q2=>.call (bG (bif decide (f.status < 1) then true else decide (f.status > 3)) 7) λt3 q3=>.call (C9 f.claims (by omega)) λt4 q4=>.call (qL f.arms 8 (by omega)) λt5 q5=>.call (Nw f.when h7) λt6 q6=>.call (Mq t1 t2 t3 t4 t5 t6) λt qt=>.r t (by
  have q6:t6=gk f.when:=q6 f.when (by rw [EXP.CA])
  unfold rIs
  rw [show t=bif t1 !=0 then t1 else bif t2 !=0 then t2 else bif t3 !=0 then t3 else bif t4 !=0 then t4 else bif t5 !=0 then t5 else bif t6 !=0 then t6 else 0 from qt _ _ rfl,id0,q1 _ _ rfl,wh rfl,q2 _ _ rfl,wh rfl,q3 _ _ rfl,wh rfl,qx _ rfl,qy _ rfl,qz _ rfl,qv _ rfl,q6,show t4=oK f.claims from q4,show t5=dA f.arms 8 from q5,Bool.cond_true_left,Bool.cond_true_left,Bool.cond_true_left,Bool.or_assoc];rfl)) (by kernel_rfl)
def LyZ (f:LAYER) (i:Int):St:={env:=[(1,.ref 1 0),(52,mP f.cooling),(53,.int .i64 f.cooling.length),(54,.int .i64 i)],objs:=[(1,.cells f.c)]}
theorem Dg (f:LAYER) (hf:f.Ok):aG wd ux SH.φE (rIs (iX f)) [.agg f.c] []:=by
 obtain ⟨h1,h2,h3,h4⟩:=hf
 have hm:f.cooling.length<=4611686018427387904:=by omega
 obtain ⟨u,w,hu,hlo⟩:=bD (V:=V0) (T:=[jI,F9,lS,jb]) (d:=9) (W:=[]) (f:=ux) (p:=[1,1,0,1,0]) (Lf:=λL=>L) (LyZ f) f.cooling.length (gH f.cooling) (p6 2) (λk=>k (.exit 0) {env:=[],objs:=[]}) (by kernel_rfl)
  (λi a=>
   have c:=pv (λj=>decide ((f.cooling.getD i (0,0,0)).1 < (f.cooling.getD j (0,0,0)).2.1)) a.lt hm
   .n a.w (.b (bif bif !bif bif decide (0<=(f.cooling.getD i (0,0,0)).1) then decide ((f.cooling.getD i (0,0,0)).1 < (f.cooling.getD i (0,0,0)).2.1) else false then decide ((f.cooling.getD i (0,0,0)).2.1<=10000) else false then true else decide ((f.cooling.getD i (0,0,0)).2.2 < 0) then true else decide ((f.cooling.getD i (0,0,0)).2.2 > 1099511627776))
    (λh=>.sp 3 a (by rw [MQ] at h;unfold gH;rw [h];rfl)) λh=>
   have h:ma (f.cooling.getD i (0,0,0)).1 (f.cooling.getD i (0,0,0)).2.1 (f.cooling.getD i (0,0,0)).2.2=false:=by rw [<-MQ];exact h
   .gp true a.lt hm (.b (bif decide ((i:Int) > 0) then decide ((f.cooling.getD i (0,0,0)).1 < (f.cooling.getD (Int.toNat (IntKind.wrap .i64 ((i:Int) - 1))) (0,0,0)).2.1) else false)
    (λh2=>.sp 9 a (by rw [c] at h2;unfold gH;rw [h,h2];rfl)) λh2=>.up a hm (by rw [c] at h2;unfold gH;rw [h,h2];rfl)))) (λi L k kn=>by kernel_rfl)
 exact fJ (V:=V0) [jI,F9,lS,jb] 9 hlo (.call (dq f.key) λx qx=>.call (dq f.kind) λy qy=>.call (bG (bif !x then true else !y) 6) λt1 q1=>.call (jk f.salt h3) λz qz=>.call (bG (!z) 2) λt2 q2=>
  .call (bG (bif bif bif decide (f.hold < 0) then true else decide (f.hold > 10000) then true else decide (f.cool < 0) then true else decide (f.cool > 1099511627776)) 3) λt3 q3=>.call (bG (decide ((f.cooling.length:Int) > 32)) 5) λt4 q4=>.call (xv t1 t2 t3 t4) λt qt=>
  have e:iX f=bif t !=0 then t else bif (lK f.cooling).1 then (lK f.cooling).2 else 0:=by
   rw [show t=bif t1 !=0 then t1 else bif t2 !=0 then t2 else bif t3 !=0 then t3 else bif t4 !=0 then t4 else 0 from qt _ _ rfl,ch,ch,ch,ch,zr,q1 _ _ rfl,wh rfl,q2 _ _ rfl,wh rfl,q3 _ _ rfl,wh rfl,q4 _ _ rfl,wh rfl,qx _ rfl,qy _ rfl,qz _ rfl,nd]
   simp only [Bool.cond_true_left,Bool.or_assoc]
   rfl
  .b (t !=0) (λh=>.r t (by unfold rIs;rw [e,h];rfl)) λh=>.lp hu λs qs=>have qs:s=lK f.cooling:=qs
  .b s.1 (λh3=>.r s.2 (by rw [qs] at h3 ⊢;unfold rIs;rw [e,h,h3];rfl)) λh3=>.r 0 (by rw [qs] at h3;unfold rIs;rw [e,h,h3];rfl)) (by kernel_rfl)
def FlZ (f:FLAG) (i:Int):St:={env:=[(1,.ref 1 0),(3,.int .i64 f.vars.length),(38,iP f.vars),(39,.int .i64 f.vars.length),(40,.int .i64 i)],objs:=[(1,.cells f.c)]}
noncomputable abbrev OY (f:FLAG):List Ent:=[jI,lS,jb,Nr,aY wd gh SH.φE (rIs (F5 f.prqs)),aY wd nQ SH.φE (rIs (Gn f.tgts f.vars.length)),aY wd pU SH.φE (rIs (F4 f.rules f.vars.length)),No f.vars.length]
theorem GJ (f:FLAG) (hf:f.Ok):aG wd ye SH.φE (rIs (nq f)) [.agg f.c] []:=by
 obtain ⟨h1,h2,h3,h4,h5,h6⟩:=hf
 have hm:=h2.big
 obtain ⟨u,w,hu,hlo⟩:=bD (V:=V0) (T:=OY f) (d:=9) (W:=[]) (f:=ye) (p:=[1,1,1,0,1,0]) (Lf:=λL=>L) (FlZ f) f.vars.length (ji f) (p6 2) (λk=>k (.exit 0) (P5 f)) (by kernel_rfl)
  (λi a=>.n a.w (.call (Bm _ (h2.at a.lt)) λt1 q1=>.call (bG ((f.vars.getD i default).kind !=f.kind) 8) λt2 q2=>.call (IQ t1 t2) λt qt=>
   have e:ji f i=bif t !=0 then some t else none:=by
    rw [show t=bif t1 !=0 then t1 else bif t2 !=0 then t2 else 0 from qt _ _ rfl]
    unfold ji
    rw [<-q1 _ rfl,q2 _ _ rfl]
    cases h:(t1 !=0) with
    | true=>rw [cond_true,cond_true,h];rfl
    | false=>cases (f.vars.getD i default).kind !=f.kind <;> rfl
   .b (t !=0) (λh=>.sp t a (by rw [e,h];rfl)) λh=>.up a hm (by rw [e,h];rfl))) (λi L k kn=>by kernel_rfl)
 exact fJ (V:=V0) (OY f) 9 hlo (.call (dq f.key) λx qx=>.call (bG (!x) 6) λt1 q1=>.call (bG (bif decide (f.kind < 1) then true else decide (f.kind > 5)) 7) λt2 q2=>.call (bG (decide ((f.vars.length:Int) > 8)) 5) λt3 q3=>.call (bG ((f.vars.length:Int)==0) 3) λt4 q4=>.call (xv t1 t2 t3 t4) λt qt=>
  have e:nq f=bif t !=0 then t else bif (gT f).1 then (gT f).2 else bif decide (f.off < 1)||decide (f.off > f.vars.length) then 3 else bif F5 f.prqs !=0 then F5 f.prqs else bif Gn f.tgts f.vars.length !=0 then Gn f.tgts f.vars.length else bif F4 f.rules f.vars.length !=0 then F4 f.rules f.vars.length else ca f.dflt f.vars.length:=by
   rw [show t=bif t1 !=0 then t1 else bif t2 !=0 then t2 else bif t3 !=0 then t3 else bif t4 !=0 then t4 else 0 from qt _ _ rfl,ch,ch,ch,ch,zr,q1 _ _ rfl,wh rfl,q2 _ _ rfl,wh rfl,q3 _ _ rfl,wh rfl,q4 _ _ rfl,wh rfl,qx _ rfl,vc,cU,Bool.cond_true_left]
   have hs:=Bt f
   unfold nq FY
   cases decide (f.vars.length > 8) <;> cases f.vars.length==0 <;> cases hv:(gT f).1 <;> cases (decide (f.off < 1)||decide (f.off > f.vars.length)) <;> first | rfl | (simp only [cond_true,cond_false];rw [hs hv];rfl)
  .b (t !=0) (λh=>.r t (by unfold rIs;rw [e,h];rfl)) λh=>.lp hu λs qs=>have qs:s=gT f:=qs
  .b s.1 (λh3=>.r s.2 (by rw [qs] at h3 ⊢;unfold rIs;rw [e,h,h3];rfl)) λh3'=>.call (bG (bif decide (f.off < 1) then true else decide (f.off > (f.vars.length:Int))) 3) λt1 q1=>.call (Gy f.prqs h3) λt2 q2=>.call (Gw f.tgts _ h4) λt3 q3=>.call (Db f.rules _ h5) λt4 q4=>.call (xv t1 t2 t3 t4) λr qr=>
  have e2:nq f=bif r !=0 then r else ca f.dflt f.vars.length:=by
   rw [show r=bif t1 !=0 then t1 else bif t2 !=0 then t2 else bif t3 !=0 then t3 else bif t4 !=0 then t4 else 0 from qr _ _ rfl,ch,ch,ch,ch,zr,q1 _ _ rfl,wh rfl,show t2=F5 f.prqs from q2,show t3=Gn f.tgts f.vars.length from q3,show t4=F4 f.rules f.vars.length from q4,Bool.cond_true_left,e,h,show (gT f).1=false by rw [<-qs];exact h3'];rfl
  .b (r !=0) (λh=>.r r (by unfold rIs;rw [e2,h];rfl)) λh=>.call (Ln _ f.dflt h6) λt5 q5=>.r t5 (by unfold rIs;rw [e2,h,q5 _ rfl];rfl)) (by kernel_rfl)
end Go.T

namespace Go.T
open Go Go.Ab Go.Proofs Go.SH
open Go.SM (ATT ATT.Ok lN Co I8 sW ENV cL np mU mD nS om oc qF tV nT pr jY)
theorem L0 (a b:Int):aG wd xK SM.φI' Ho [.sl .fit 1 2 (fI [(0,.int .i64 a),(1,.int .i64 b)])] []:=
 ef (V:=V0) [] 9 (.b (a !=0) (λh=>.r a (.mk (wX h))) λh=>.b (b !=0) (λh2=>.r b (.mk (iK h (wX h2)))) λh2=>.r 0 (.mk (iK h (iK h2 rfl)))) (by kernel_rfl)
noncomputable abbrev Pu:Ent:=aY wd xK SM.φI' Ho
def AtZ (l:List ATT) (i:Int):St:={env:=[(0,lN l),(8,lN l),(9,.int .i64 l.length),(10,.int .i64 i)],objs:=[]}
theorem GS (l:List ATT) (hl:okL ATT.Ok l):aG wd jq SH.φE (rIs (sW l)) [lN l] []:=by
 have hm:=hl.big
 obtain ⟨u,w,hu,hlo⟩:=bD (V:=V0) (T:=[jI,PF,Pu]) (d:=9) (W:=[]) (f:=jq) (p:=[1,1,0,1,0]) (Lf:=λL=>L) (AtZ l) l.length (ig (Co l) (I8 l)) (p6 2) (λk=>k (.exit 0) {env:=[],objs:=[]}) (by kernel_rfl)
  (λi a=>
   .n a.w (.call (dq (l.getD i aE0).1) λx qx=>.call (dq (l.getD i aE0).2.1) λy qy=>
   .b (bif bif !x then true else !y then true else (l.getD i aE0).2.1==[107,101,121]) (λh=>.sp 6 a (by rw [qx _ rfl,qy _ rfl] at h;unfold ig Co;rw [h];rfl)) λh=>
   have h:(bif bif !dT (l.getD i aE0).1 then true else !dT (l.getD i aE0).2.1 then true else (l.getD i aE0).2.1==[107,101,121])=false:=by rw [<-qx _ rfl,<-qy _ rfl];exact h
   .b (bif decide ((l.getD i aE0).2.2 < 1) then true else decide ((l.getD i aE0).2.2 > 5)) (λh2=>.sp 7 a (by unfold ig Co;rw [h,h2];rfl)) λh2=>
   .gp true a.lt hm (.call (tS (l.getD (Int.toNat (IntKind.wrap .i64 ((i:Int) - 1))) aE0).1 (l.getD i aE0).1) λt1 q1=>.gp true a.lt hm (.call (tS (l.getD (Int.toNat (IntKind.wrap .i64 ((i:Int) - 1))) aE0).2.1 (l.getD i aE0).2.1) λt2 q2=>.call (L0 t1 t2) λt q=>
   have e:(bif decide ((i:Int) > 0) then decide (t≥0) else false)=I8 l i:=by
    rw [show t=bif t1 !=0 then t1 else bif t2 !=0 then t2 else 0 from q _ _ rfl,id0,q1 _ _ rfl,q2 _ _ rfl,SM.Hu]
    exact MU a.lt hm
   .b (bif decide ((i:Int) > 0) then decide (t≥0) else false) (λh3=>.sp 9 a (by rw [e] at h3;unfold ig Co;rw [h,h2,h3];rfl)) λh3=>.up a hm (by rw [e] at h3;unfold ig Co;rw [h,h2,h3];rfl))))) (λi L k kn=>by kernel_rfl)
 exact fJ (V:=V0) [jI,PF,Pu] 9 hlo (.b (decide ((l.length:Int) > 30)) (λh=>uB h) λh=>.lp hu λt q=>uA q h) (by kernel_rfl)
def HsZ (x:AV) (f g:FuncId) (n:Nat) (i:Int):St:={env:=[(0,x),(2,.fn f [] []),(3,.fn g [] []),(16,x),(17,.int .i64 n),(18,.int .i64 i)],objs:=[]}
abbrev PHs:List Nat:=[1,1,0,1,0]
theorem uV {α:Type} [Inhabited α] {f g h:FuncId} {A:α->List AV} {E:α->Int} (key:α->List UInt8) (x:AV) (most:Int) (l:List α) (hl:l.length<=1048576) (hg:∀i,i < l.length->aG wd g SH.φE (rC A E) (A (l.getD i default)) []) (hb:kC (dM (bu V0.P f) PHs)=true)
  (he:∀ (i:Nat) (L:List (List Nat×Orc)) (k:Ex->St->Res) (kn:St->Res),dS (V0.run [aY wd g SH.φE (rC A E)] 2 [] L [] f) f 9 PHs (HsZ x g h l.length i) kn k=cond (decide ((i:Int) < (l.length:Int))) (cond (within (i:Int) l.length) (cond (gR wd g SH.φE (rC A E) (A (l.getD i default)) []) (cond (wR wd g SH.φE (rC A E) (A (l.getD i default)) [] !=0) (k .ret {env:=[(8,.int .i64 (wR wd g SH.φE (rC A E) (A (l.getD i default)) []))],objs:=[]})
   (cond (bif within (IntKind.wrap .i64 ((i:Int) - 1)) l.length then true else !bif decide ((i:Int) > 0)==true then true else false) (cond (kP (λj=>key (l.getD j default)) i) (k .ret {env:=[(8,.int .i64 9)],objs:=[]}) (kn (HsZ x g h l.length (IntKind.wrap .i64 ((i:Int)+1))))) none)) none) none) (k (.exit 0) {env:=[],objs:=[]}))
  (hr:∀ (u:St->Bool) (w:St->Bool×Int),yj (V0.run [aY wd g SH.φE (rC A E)] 2 [] [(PHs,mkO u w (Ht (p6 8) λk=>k (.exit 0) {env:=[],objs:=[]}))] [] f) 9 f [x,.int .i64 most,.fn g [] [],.fn h [] []] []=cond (decide ((l.length:Int) > most)) (some (.int .i64 5,[])) (cond (u (HsZ x g h l.length 0)) (cond (w (HsZ x g h l.length 0)).1 (some (.int .i64 (w (HsZ x g h l.length 0)).2,[])) (some (.int .i64 0,[]))) none)) :
  aG wd f SH.φE (rIs (SM.bB most l.length (λi=>E (l.getD i default)) (tV λi=>key (l.getD i default)))) [x,.int .i64 most,.fn g [] [],.fn h [] []] []:=by
 have hm:l.length<=4611686018427387904:=by omega
 obtain ⟨u,w,hu,hlo⟩:=bD (V:=V0) (T:=[aY wd g SH.φE (rC A E)]) (d:=2) (W:=[]) (f:=f) (p:=PHs) (Lf:=λL=>L) (HsZ x g h l.length) l.length (ig (λi=>E (l.getD i default)) (tV λi=>key (l.getD i default))) (p6 8) (λk=>k (.exit 0) {env:=[],objs:=[]}) hb
  (λi a=>
   have e:kP (λj=>key (l.getD j default)) i=tV (λj=>key (l.getD j default)) i:=SM.bad_eq (key:=λj=>key (l.getD j default)) (by have:=a.lt;omega)
   .n a.w (.call (hg i a.lt) λt q=>.b (t !=0) (λh=>.sp t a (by rw [q _ rfl] at h ⊢;unfold ig;rw [h];rfl)) λh=>.gp true a.lt hm
   (.b (kP (λj=>key (l.getD j default)) i) (λh2=>.sp 9 a (by rw [q _ rfl] at h;rw [e] at h2;unfold ig;rw [h,h2];rfl)) λh2=>.up a hm (by rw [q _ rfl] at h;rw [e] at h2;unfold ig;rw [h,h2];rfl)))) he
 exact fJ (V:=V0) [aY wd g SH.φE (rC A E)] 2 hlo (.b (decide ((l.length:Int) > most)) (λh=>uB h) λh=>.lp hu λt q=>uA q h) (hr u w)
theorem Gx (l:List SEG) (hl:okL SEG.Ok l):aG wd j8 SH.φE (rIs (nS l)) [cL l,.int .i64 20,.fn tb [] [],.fn pq [] []] []:=uV (A:=PM) (E:=Dp) SEG.key (cL l) 20 l hl.1 (λi hi=>aG.rC (λa b h=>SM.SEG.df (by simpa using h)) (Jp _ (hl.at hi))) (by kernel_rfl) (λi L k kn=>by kernel_rfl) λu w=>by kernel_rfl
theorem Dj (l:List FLAG) (hl:okL FLAG.Ok l):aG wd oL SH.φE (rIs (om l)) [np l,.int .i64 30,.fn ye [] [],.fn po [] []] []:=uV (A:=PR) (E:=nq) FLAG.key (np l) 30 l hl.1 (λi hi=>aG.rC (λa b h=>SM.FLAG.df (by simpa using h)) (GJ _ (hl.at hi))) (by kernel_rfl) (λi L k kn=>by kernel_rfl) λu w=>by kernel_rfl
theorem BF (l:List LAYER) (hl:okL LAYER.Ok l):aG wd mJ SH.φE (rIs (oc l)) [mU l,.int .i64 6,.fn ux [] [],.fn pk [] []] []:=uV (A:=PO) (E:=iX) LAYER.key (mU l) 6 l hl.1 (λi hi=>aG.rC (λa b h=>SM.LAYER.df (by simpa using h)) (Dg _ (hl.at hi))) (by kernel_rfl) (λi L k kn=>by kernel_rfl) λu w=>by kernel_rfl
theorem Dk (l:List EXPT) (hl:okL EXPT.Ok l):aG wd ir SH.φE (rIs (qF l)) [mD l,.int .i64 16,.fn mL [] [],.fn pj [] []] []:=uV (A:=PL) (E:=pG) EXPT.key (mD l) 16 l hl.1 (λi hi=>aG.rC (λa b h=>SM.EXPT.df (by simpa using h)) (GK _ (hl.at hi))) (by kernel_rfl) (λi L k kn=>by kernel_rfl) λu w=>by kernel_rfl
theorem yf (e:ENV) (he:e.Ok):aG wd cC SH.φE (rIs (jY e)) [.agg e.c] []:=
 ef (V:=V0) [F9,jI,lS,jb,aY wd jq SH.φE (rIs (sW e.attrs)),aY wd j8 SH.φE (rIs (nS e.segs)),aY wd oL SH.φE (rIs (om e.flags)),aY wd mJ SH.φE (rIs (oc e.layers)),aY wd ir SH.φE (rIs (qF e.expts))] 2
  (.call (jk e.salt he.salt) λx qx=>.call (bG (!x) 2) λt1 q1=>.call (bG (bif decide (e.hold < 0) then true else decide (e.hold > 10000)) 3) λt2 q2=>.call (dq e.hkind) λy qy=>.call (bG (bif !y then bif !e.hkind==[] then true else e.hold !=0 else false) 6) λt3 q3=>.call (GS e.attrs he.attrs) λt4 q4=>.call (xv t1 t2 t3 t4) λt qt=>
  have h:jY e=bif t !=0 then t else bif nS e.segs !=0 then nS e.segs else bif om e.flags !=0 then om e.flags else bif oc e.layers !=0 then oc e.layers else qF e.expts:=by
   rw [show t=bif t1 !=0 then t1 else bif t2 !=0 then t2 else bif t3 !=0 then t3 else bif t4 !=0 then t4 else 0 from qt _ _ rfl,ch,ch,ch,ch,zr,q1 _ _ rfl,wh rfl,q2 _ _ rfl,wh rfl,q3 _ _ rfl,wh rfl,qx _ rfl,qy _ rfl,show t4=sW e.attrs from q4]
   unfold jY pr
   cases !cX e.salt <;> cases (bif decide (e.hold < 0) then true else decide (e.hold > 10000)) <;> cases (bif !dT e.hkind then bif !e.hkind==[] then true else e.hold !=0 else false) <;> rfl
  .b (t !=0) (λh0=>.r t (by unfold rIs;rw [h,h0];rfl)) λh0=>by
   rw [h,h0]
   exact .call (Gx _ he.segs) λt6 q6=>pass q6 λ_=>.call (Dj _ he.flags) λt7 q7=>pass q7 λ_=>.call (BF _ he.layers) λt8 q8=>pass q8 λ_=>.call (Dk _ he.expts) λt9 q9=>.r t9 q9) (by kernel_rfl)
end Go.T

namespace Go.T
open Go Go.Ab Go.Proofs Go.SH
end Go.T

namespace Go.T
open Go Go.Ab Go.Proofs Go.SH
noncomputable def VC:Env:={Vb [14,15,16] [20] [] with
 hint:=λf t=>cond (Nat.beq f sb) (cond (Nat.beq t 23) (hn [0,3,4,6] [3,4] [] []) (cond (Nat.beq t 29) (hn [0,3,4,7,8] [3,4,7] [] []) {})) (V0.hint f t)
 trim:=λf p=>cond (Nat.beq f sb) (vV [tr [1,1,0,1,0,1,1,1,1,1,1,1,1,1,1,1,1,1,1,1,0,1,0,0,0,1,1] [3,4] [3,4],tr [1,1,0,1,0,1,1,1,1,1,1,1,1,1,1,1,1,1,1,1,1,1,0,1,0,1,0,0,0,1,1] [3,4,7] [3,4,7],tr [1,0,1,0,1] [0,3,4] [3,4,20],tr [1,0,1,0,1,1,1] [3,4] [3,4,20],tr [1,1] [0,3,4] [3,4],tr [1,1,1] [3,4] [3,4,61,65,83,87],tr [1,1,0,1,0,1,1,1,1,1,1,1,1,1,1,1,1,1,1,1,0,1,0,0,1,1] [0,3,4,6] [3,4],tr [1,1,0,1,0,1,1,1,1,1,1,1,1,1,1,1,1,1,1,1,1,1,0,1,0,1,0,0,1,1] [0,3,4,7,8] [3,4,7,110,114]] p) (V0.trim f p)}
noncomputable instance:EnvOk VC wd:=⟨rfl,rfl,ku,kD⟩
noncomputable def Ju (n:Nat) (g g':Nat->List AV):Bool:=@decide (∀j,j < n->g' j=g j) (Classical.propDecidable _)
noncomputable def Hc (k:Nat) (g':Nat->List AV):Vw:=λs f=>
 match alook s.objs k with
 | some (.grw q sz n g)=>cond (Ju n g g') (f {env:=s.env,objs:=aput s.objs k (.grw q sz n g')}) none
 | _=>none
theorem GW {n:Nat} {g g':Nat->List AV} (h:∀j,j < n->g' j=g j):Ju n g g'=true:=@decide_eq_true _ (Classical.propDecidable _) h
theorem AW:∀l:List (Nat×AO),ObjsLe l l
 | []=>.nil
 | (k,o)::r=>.cons k o o r r (.same o) (AW r)
theorem EC {k:Nat} {o o':AO} (h:ObjLe o o'):∀l:List (Nat×AO),alook l k=some o->ObjsLe l (aput l k o')
 | [],e=>by cases e
 | (i,x)::r,e=>by
  unfold aput
  unfold alook at e
  cases hb:Nat.beq i k with
  | true=>
   rw [hb] at e
   have e:some x=some o:=e
   cases e
   exact .cons _ _ _ _ _ h (AW r)
  | false=>rw [hb] at e;exact .cons _ _ _ _ _ (.same x) (EC h r e)
def BH:AV->AV
 | .sl _ sz n g=>.sl .no sz n g
 | v=>v
def okS:AV->Bool
 | .sl _ _ _ _=>true
 | .int _ _=>true
 | .str _=>true
 | .bool _=>true
 | _=>false
theorem BG {v:AV} (h:okS v=true):(BH v).keys=[]/\(BH v).one=true/\∀c x,Rep c v x->Rep c (BH v) x:=by
 cases v <;> simp only [okS,reduceCtorEq] at h
 all_goals first
  | exact ⟨rfl,rfl,λc x hx=>hx⟩
  | exact ⟨rfl,rfl,λc x hx=>jr hx λ_ _=>rfl⟩
theorem gL:∀ {cs:List AV},cs.all okS=true->ak (cs.map BH)=[]
 | [],_=>rfl
 | v::r,h=>by
  simp only [List.all_cons,Bool.and_eq_true] at h
  show (BH v).keys++ak (r.map BH)=[]
  rw [(BG h.1).1,gL h.2];rfl
theorem qX (k:Nat) (g':Nat->List AV):eY (Hc k g'):=λs f r h=>by
 unfold Hc at h
 split at h
 ·rename_i q sz n g hk
  obtain ⟨hb,h⟩:=bn h
  have hb:∀j,j < n->g' j=g j:=@of_decide_eq_true _ (Classical.propDecidable _) hb
  exact ⟨_,h,λB c a hr hn=>⟨c,rfl,hr.weak (EC (.grw q sz n g g' hb) _ hk),hn⟩⟩
 ·cases h
end Go.T

namespace Go.T
open Go Go.Ab Go.Proofs Go.SH
def RX (b:Nat) (cs:List AV):Prop:=∃x:EXP,Fit b x/\TellL cs (eC x)
def LVl (b:Nat) (A:AV):Prop:=∃l:List VAL,l.length<=b/\(∀v∈l,v.Ok)/\di A (iP l)
def LKd (b:Nat) (B:AV):Prop:=∃l:List EXP,l.length<=b/\(∀x∈l,Fit b x)/\di B (.sl .no 5 l.length (EXP.row l))
theorem H7 {n:Nat} {z g:Nat->List AV} {j:Nat} (hj:j < n):ag 0 n z g j=g j:=by rw [fY (Nat.zero_le _) (by omega),Nat.sub_zero]
structure CW where
 op:Int
 kd:List UInt8
 nm:List UInt8
 m:Nat
 gv:Nat->List AV
 n:Nat
 g:Nat->List AV
instance:Inhabited CW:=⟨⟨0,[],[],0,λ_=>[],0,λ_=>[]⟩⟩
def CW.c (x:CW):List AV:=[.int .i64 x.op,.str x.kd,.str x.nm,.sl .no 4 x.m x.gv,.sl .no 5 x.n x.g]
structure CW.Ok (b n:Nat) (x:CW):Prop where
 kd:hJ x.kd
 nm:hJ x.nm
 v:x.m<=b/\∀j,j < x.m->rVl (x.gv j)
 k:x.n<=n/\∀j,j < x.n->RX b (x.g j)
theorem RX.mono {b b':Nat} (hb:b<=b') {cs:List AV} (h:RX b cs):RX b' cs:=by
 obtain ⟨x,h1,h2⟩:=h
 exact ⟨x,h1.mono hb,h2⟩
theorem CW.Ok.mono {b b' n n':Nat} (hb:b<=b') (hn:n<=n') {x:CW} (h:x.Ok b n):x.Ok b' n':=⟨h.kd,h.nm,⟨Nat.le_trans h.v.1 hb,h.v.2⟩,⟨Nat.le_trans h.k.1 hn,λj hj=>(h.k.2 j hj).mono hb⟩⟩
structure CNV where
 s:Bool
 x:CW
 g:Nat->List AV
 C:CODES
 i:Int
instance:Inhabited CNV:=⟨⟨false,default,λ_=>[],default,0⟩⟩
structure CKV where
 y:CW
 x:CW
 C:CODES
 i:Int
instance:Inhabited CKV:=⟨⟨default,default,default,0⟩⟩
theorem DM {b n:Nat} (h:n*b<=1000000):roomy b n=true:=Nat.ble_eq_true_of_le (by omega)
end Go.T

namespace Go.T
open Go Go.Ab Go.Proofs Go.SH
theorem LVl.mono {b b':Nat} (hb:b<=b') {A:AV} (h:LVl b A):LVl b' A:=by
 obtain ⟨l,h1,h2⟩:=h
 exact ⟨l,Nat.le_trans h1 hb,h2⟩
theorem LKd.mono {b b':Nat} (hb:b<=b') {A:AV} (h:LKd b A):LKd b' A:=by
 obtain ⟨l,h1,h2,h3⟩:=h
 exact ⟨l,Nat.le_trans h1 hb,λx hx=>(h2 x hx).mono hb,h3⟩
end Go.T

namespace Go.T
open Go Go.Ab Go.Proofs Go.SH
noncomputable def VR:Env:={Vb [] [8,75] [] with
 hint:=λf t=>cond (Nat.beq f Bj) (hn [0,1,6] [75] [] []) (V0.hint f t)
 trim:=λf p=>cond (Nat.beq f Bj) (vV [tr [1,1,1] [0,1] [8],tr [1,1,1,1,0,1,0,1,1,1,1,1,1,1,1,1,1,1,0,1,0,1,0,0,0,1,1] [1] [75],tr [1,1,1,1,0,1,0,1,1,1,1,1,1,1,1,1,1,1,0,1,0,1,0,0,1] [0,1,6] [75],tr [1,1,1,1,0,1,0,1,1,1,1,1,1,1,1,1,1,1,0,1,0,1,0,0,1,1] [0,1,6] [75],tr [1,1,1,1,0,1,0,1,1,1,1,1,1,1,1,1,1,1,0,1,1] [1] [75],tr [1,1,1,1,1] [1] [8,75]] p) (V0.trim f p)}
noncomputable instance:EnvOk VR wd:=⟨rfl,rfl,ku,kD⟩
structure RGV where
 s:Bool
 n:Nat
 g:Nat->List AV
 C:CODES
 i:Int
instance:Inhabited RGV:=⟨⟨false,0,λ_=>[],default,0⟩⟩
end Go.T

namespace Go.T
open Go Go.Ab Go.Proofs Go.SH
end Go.T

namespace Go.T
open Go Go.Ab Go.Proofs Go.SH
open Go.SO (SmG SmT SmF SmL SmX)
def RSt (cs:List AV):Prop:=∃s:List UInt8,s.length<=1000/\TellL cs [.str s]
def LSt (b:Nat) (A:AV):Prop:=∃l:List (List UInt8),SmT l b/\di A (bO l)
instance:Inhabited (SEG×CODES):=⟨(default,default)⟩
end Go.T

namespace Go.T
open Go Go.Ab Go.Proofs Go.SH
open Go.SO (SmG SmT SmF SmL SmX zl)
structure L2V where
 x:LAYER
 q:Nat
 r:RW
 C:CODES
 i:Int
instance:Inhabited L2V:=⟨⟨default,0,default,default,0⟩⟩
end Go.T

namespace Go.T
open Go Go.Ab Go.Proofs Go.SH
open Go.SO (SmG SmT SmF SmL SmX)
structure X2V where
 q:Nat
 r:RW
 C:CODES
 i:Int
instance:Inhabited X2V:=⟨⟨0,default,default,0⟩⟩
end Go.T

namespace Go.T
open Go Go.Ab Go.Proofs Go.SH
noncomputable def VF:Env:={Vb [] [13] [] with
 hint:=λf t=>cond (Nat.beq f I4) (hn [0,3,4] [3,4,9,13,17,21,42,71,83,97,110,191] [] []) (V0.hint f t)
 trim:=λf p=>cond (Nat.beq f I4) (vV [tr [1,1,1,1,1] [0,3,4] [3,4,9,13,17,21],tr [1,1,1,1,1,0,1,0,1,1,1,1,1,1,1,1,1,1,1,1,1,1,1,1,1,1,1] [0,3,4,24,112] [3,4,9,13,17,21,42,71,83,97,110,191],tr [1,1,1,1,1,0,1,0,1,1,1,1,1,1,1,1,1,1,1,1,1,1,1,1,1,1,1,1,1,1,1,1,1,0,0,0,0,1,1] [3,4] [3,4,9,13,17,21,42,71,83,97,110,191],tr [1,1,1,1,1,0,1,0,1,1,1,1,1,1,1,1,1,1,1,1,1,1,1,1,1,1,1,1,1,1,1,1,1,0,0,0,1] [0,3,4] [3,4,9,13,17,21,42,71,83,97,110,191],tr [1,1,1,1,1,1] [3,4] [3,4,9,13,17,21,42,71,83,97,110,191]] p) (V0.trim f p)}
noncomputable instance:EnvOk VF wd:=⟨rfl,rfl,ku,kD⟩
structure F2V where
 a:RW
 b:RW
 c:RW
 r:RW
 C:CODES
instance:Inhabited F2V:=⟨⟨default,default,default,default,default⟩⟩
end Go.T

namespace Go.T
open Go Go.Ab Go.Proofs Go.SH
open Go.SO (SmG SmT SmF SmL SmX)
end Go.T

namespace Go.T
open Go Go.Ab Go.Proofs Go.SH
open Go.SM (ENV)
noncomputable def VCp:Env:={Vb [] [5,9,13,17,21] [] with
 trim:=λf p=>cond (Nat.beq f Fm) (vV [tr [1,1,1,1,1,1] [1,2] [1,2,5,9,13,17,21]] p) (V0.trim f p)}
noncomputable instance:EnvOk VCp wd:=⟨rfl,rfl,ku,kD⟩
def cpA (e:ENV):Nat->List AV:=λj=>[.str (e.attrs.getD j ([],[],0)).1,.str (e.attrs.getD j ([],[],0)).2.1,.int .i64 (e.attrs.getD j ([],[],0)).2.2]
def cpS (e:ENV):Nat->List AV:=λj=>(e.segs.getD j default).c
def cpF (e:ENV):Nat->List AV:=λj=>(e.flags.getD j default).c
def cpL (e:ENV):Nat->List AV:=λj=>(e.layers.getD j default).c
def cpX (e:ENV):Nat->List AV:=λj=>(e.expts.getD j default).c
def φCp (e:ENV):AV×List AO:=(.agg [.str e.salt,.str e.hkind,.int .i64 e.hold,.gsl 1000000 3 (0+e.attrs.length),.gsl 1000001 9 (0+e.segs.length),.gsl 1000002 13 (0+e.flags.length),.gsl 1000003 6 (0+e.layers.length),.gsl 1000004 12 (0+e.expts.length)],
 [.grw 0 3 (0+e.attrs.length) (cpA e),.grw 0 9 (0+e.segs.length) (cpS e),.grw 0 13 (0+e.flags.length) (cpF e),.grw 0 6 (0+e.layers.length) (cpL e),.grw 0 12 (0+e.expts.length) (cpX e)])
noncomputable abbrev wCp (e:ENV):List (List Nat×Vw):=[([1,1,1,1,1,1],Bv (Hc 5 (cpA e)) (Bv (Hc 9 (cpS e)) (Bv (Hc 13 (cpF e)) (Bv (Hc 17 (cpL e)) (Hc 21 (cpX e))))))]
noncomputable def VSo:Env:={V0 with
 hint:=λf t=>cond (Nat.beq f Fk) (hn [3,4,9] [3,4,12,100012,200012,300012,400012] [] []) (V0.hint f t)
 trim:=λf p=>cond (Nat.beq f Fk) (vV [([1,1,0,1,0,1,1,1,1,1,1,1,1,1,1,1,1,1,1,1,0,1],hn [3,4,9] [3,4,12,100012,200012,300012,400012] [] []),tr [1,1,0,1,0,1,1,1,1,1,1,1] [0,3,4,14,61] [3,4,12,100012,200012,300012,400012],tr [1,1,0,1,0,1,1,1,1,1,1,1,1,1,1,1,1,1,1,1,0,1,0,0,0,1,1] [3,4] [3,4,12,100012,200012,300012,400012],tr [1,1,0,1,0,1,1,1,1,1,1,1,1,1,1,1,1,1,1,1,0,1,0,0,1] [3,4,9] [3,4,12,100012,200012,300012,400012],tr [1,1,0,1,0,1,1,1,1,1,1,1,1,1,1,1,1,1,1,1,0,1,0,0,1,1] [3,4,9] [3,4,12,100012,200012,300012,400012],tr [1,1,1] [3,4] [3,4,12,100012,200012,300012,400012]] p) (V0.trim f p)}
noncomputable instance:EnvOk VSo wd:=⟨rfl,rfl,ku,kD⟩
structure SOV where
 s:Bool
 n:Nat
 C:CODES
 i:Int
instance:Inhabited SOV:=⟨⟨false,0,default,0⟩⟩
end Go.T

namespace Go.T
open Go Go.Ab Go.Proofs Go.SH
open Go.SM (ENV ATT lN cL np mU mD)
open Go.SO (SmG SmT SmF SmL SmX SmE ATB)
theorem KP (e:ENV) (he:e.attrs.length<=1000/\e.segs.length<=1000/\e.flags.length<=1000/\e.layers.length<=1000/\e.expts.length<=1000):aG wd Fm φCp (rIs e) [.agg e.c] []:=by
 obtain ⟨h1,h2,h3,h4,h5⟩:=he
 have cs:∀ {n:Nat} {g:Nat->List AV},Ju (0+n) (ag 0 n (λ_=>[]) g) g=true:=fun {n g}=>GW λj hj=>(H7 (by omega)).symm
 exact de (V:=VCp) (T:=[]) (d:=1) (W:=wCp e) 2 aE (cw (mF (qX _ _) (mF (qX _ _) (mF (qX _ _) (mF (qX _ _) (qX _ _))))) aD)
  (.n (c:=roomy 40 (0+e.attrs.length)) (DM (by omega)) (.n (c:=roomy 168 (0+e.segs.length)) (DM (by omega)) (.n (c:=roomy 216 (0+e.flags.length)) (DM (by omega)) (.n (c:=roomy 88 (0+e.layers.length)) (DM (by omega)) (.n (c:=roomy 208 (0+e.expts.length)) (DM (by omega))
  (.n (cs (n:=e.attrs.length) (g:=cpA e)) (.n (cs (n:=e.segs.length) (g:=cpS e)) (.n (cs (n:=e.flags.length) (g:=cpF e)) (.n (cs (n:=e.layers.length) (g:=cpL e)) (.n (cs (n:=e.expts.length) (g:=cpX e)) (.r e rfl)))))))))) ) (by kernel_rfl)
abbrev atc (a:ATT):List AV:=[.str a.1,.str a.2.1,.int .i64 a.2.2]
def RAt (cs:List AV):Prop:=∃a:ATT,(a.1.length<=1000/\a.2.1.length<=1000)/\TellL cs (atc a)
def RSg (b:Nat) (cs:List AV):Prop:=∃x:SEG,SmG b x/\TellL cs x.c
def RFg (b:Nat) (cs:List AV):Prop:=∃x:FLAG,SmF b x/\TellL cs x.c
def RLr (b:Nat) (cs:List AV):Prop:=∃x:LAYER,SmL b x/\TellL cs x.c
def RXt (b:Nat) (cs:List AV):Prop:=∃x:EXPT,SmX b x/\TellL cs x.c
structure EL (b:Nat) (a s f l x:RW):Prop where
 a:a.n<=b/\∀j,j < a.n->RAt (a.g j)
 s:s.n<=b/\∀j,j < s.n->RSg b (s.g j)
 f:f.n<=b/\∀j,j < f.n->RFg b (f.g j)
 l:l.n<=b/\∀j,j < l.n->RLr b (l.g j)
 x:x.n<=b/\∀j,j < x.n->RXt b (x.g j)
theorem H4 {b:Nat} {s k:List UInt8} {ho:Int} {a1 a2 a3 a4 a5:RW} (hs:s.length<=1000) (hk:k.length<=1000) (h:EL b a1 a2 a3 a4 a5) :
  ∃e:ENV,SmE b e/\TellL [.str s,.str k,.int .i64 ho,.sl .no 3 a1.n a1.g,.sl .no 9 a2.n a2.g,.sl .no 13 a3.n a3.g,.sl .no 6 a4.n a4.g,.sl .no 12 a5.n a5.g] e.c:=by
 obtain ⟨l1,p1,q1,r1⟩:=bR (R:=atc) h.a.2
 obtain ⟨l2,p2,q2,r2⟩:=bR (R:=SEG.c) h.s.2
 obtain ⟨l3,p3,q3,r3⟩:=bR (R:=FLAG.c) h.f.2
 obtain ⟨l4,p4,q4,r4⟩:=bR (R:=LAYER.c) h.l.2
 obtain ⟨l5,p5,q5,r5⟩:=bR (R:=EXPT.c) h.x.2
 exact ⟨ENV.mk s k ho l1 l2 l3 l4 l5,⟨hs,hk,⟨by show l1.length<=b;rw [p1];exact h.a.1,q1⟩,⟨by show l2.length<=b;rw [p2];exact h.s.1,q2⟩,⟨by show l3.length<=b;rw [p3];exact h.f.1,q3⟩,⟨by show l4.length<=b;rw [p4];exact h.l.1,q4⟩,⟨by show l5.length<=b;rw [p5];exact h.x.1,q5⟩⟩,
  .cons (.same rfl) (.cons (.same rfl) (.cons (.same rfl) (.cons (r1 .no 3 λ_=>⟨rfl,rfl⟩) (.cons (r2 .no 9 λ_=>⟨rfl,rfl⟩) (.cons (r3 .no 13 λ_=>⟨rfl,rfl⟩) (.cons (r4 .no 6 λ_=>⟨rfl,rfl⟩) (.cons (r5 .no 12 λ_=>⟨rfl,rfl⟩) .nil)))))))⟩
end Go.T

namespace Go.T
open Go Go.Ab Go.Proofs Go.SH
open Go.SM (ENV)
open Go.SO (SmG SmT SmF SmL SmX SmE)
structure LR where
 l:LAYER
 z:Bool
def LR.c (x:LR):List AV:=[.str x.l.key,.str x.l.kind,.str x.l.salt,.int .i64 x.l.hold,.int .i64 x.l.cool,bif x.z then nA else mP x.l.cooling]
structure XR where
 x:EXPT
 cl:SM.SO
def XR.c (r:XR):List AV:=[.str r.x.key,.str r.x.layer,.str r.x.flag,.str r.x.salt,.int .i64 r.x.status,.sl .no 2 r.cl.n (SM.SP r.cl.F r.cl.T),mP r.x.arms,.int .i64 r.x.when.op,.str r.x.when.kind,.str r.x.when.name,iP r.x.when.vals,.sl .no 5 r.x.when.kids.length (EXP.row r.x.when.kids)]
structure CHV where
 s:List UInt8
 k:List UInt8
 ho:Int
 a:RW
 sg:SGR
 fn:Nat
 fg:Nat->FLAG
 ln:Nat
 lg:Nat->LR
 xn:Nat
 xg:Nat->XR
 C:CODES
 i:Int
instance:Inhabited CHV:=⟨⟨[],[],0,default,default,0,λ_=>default,0,λ_=>⟨⟨[],[],[],0,0,[]⟩,false⟩,0,λ_=>⟨⟨[],[],[],[],0,[],[],default⟩,default⟩,default,0⟩⟩
abbrev OBc:List Nat:=[6,7,100018,200018,300018,400018,113,232]
noncomputable def VCq:Env:={V0 with
 byRef:=λf=>Nat.beq f dJ||Nat.beq f bZ
 brk:=onD [204,205,206]
 hint:=λf t=>cond (Nat.beq f lG) (hn [0,6,7,8] OBc [] []) (V0.hint f t)
 trim:=λf p=>cond (Nat.beq f lG) (vV [([1,1,0,1],hn [0,6,7,8] OBc [] []),tn 931 [6,7] OBc,tn 467 [0,6,7,8] OBc,tn 15 [6,7] OBc] p) (V0.trim f p)}
noncomputable instance:EnvOk VCq wd:=⟨rfl,rfl,ku,kD⟩
noncomputable abbrev wCh:List (List Nat×Vw):=[([1,1],Oq 7 3),([1,1,0,1,0,0,1,1],Bv (Nb 7 5 200018) (Nb 7 7 400018))]
abbrev PCh:List Nat:=[1,1,0,1,0]
def chF (v:CHV):Nat->List AV:=λj=>(v.fg j).c
def chL (v:CHV):Nat->List AV:=λj=>(v.lg j).c
def chX (v:CHV):Nat->List AV:=λj=>(v.xg j).c
def chO (v:CHV):List (Nat×AO):=[(6,.cells zE),(7,.cells [.str v.s,.str v.k,.int .i64 v.ho,.sl .no 3 v.a.n v.a.g,.gsl 100018 9 v.sg.n,.gsl 200018 13 v.fn,.gsl 300018 6 v.ln,.gsl 400018 12 v.xn]),(100018,sgQ v.sg),(200018,.grw 0 13 v.fn (chF v)),(300018,.grw 0 6 v.ln (chL v)),(400018,.grw 0 12 v.xn (chX v)),(aa,aO v.C)]
def CHS (v:CHV):St:={env:=[(0,cR),(6,.ref 6 0),(7,.ref 7 0),(8,.int .i64 v.i)],objs:=chO v}
def CHO (v:CHV) (k:Ex->St->Res):Res:=k (.exit 0) {env:=[(6,.ref 6 0),(7,.ref 7 0)],objs:=chO v}
noncomputable abbrev eFq:Ent:=aY wd dJ φFq rFq
noncomputable abbrev tCh (e:ENV):List Ent:=[kJ,zo,zn,Fe,OB,Pz,eFq,lE Fm [.agg e.c] [] e φCp]
end Go.T

namespace Go.T
open Go Go.Ab Go.Proofs Go.SH
open Go.SM (ENV ATT)
open Go.SO (SmG SmT SmF SmL SmX SmE)
structure CHI (v:CHV):Prop where
 s:v.s.length<=1000
 k:v.k.length<=1000
 a:v.a.n<=50/\∀j,j < v.a.n->RAt (v.a.g j)
 sg:v.sg.n<=7/\∀j,j < v.sg.n->SmG 50 (v.sg.g j)/\(v.sg.g j).key.length<=40
 f:(v.fn:Int)<=4+v.i/\∀j,j < v.fn->DF (v.fg j)
 l:v.ln<=10/\∀j,j < v.ln->SmL 50 (v.lg j).l
 x:v.xn<=10/\∀j,j < v.xn->SmX 50 (v.xg j).x/\(v.xg j).cl.n<=10050
 C:v.C.Ok
 i:0<=v.i/\v.i<=3
theorem k8 {T:Type} (R:T->List AV) (g:Nat->T) (k:Nat) (x:T):(λj=>bif Nat.beq j k then R x else R (g j))=λj=>R (jU g k x j):=funext λj=>by unfold jU;cases Nat.beq j k <;> rfl
theorem nR {T:Type} {P:T->Prop} {g:Nat->T} {n k:Nat} {x:T} (h:∀j,j < n->P (g j)) (hx:P x):∀j,j < n->P (jU g k x j):=λj hj=>by
 unfold jU
 cases Nat.beq j k
 ·exact h j hj
 ·exact hx
def chR (v:CHV) (o:AO) (a b c:Nat->List AV):St:={env:=[(0,cR),(6,.ref 6 0),(7,.ref 7 0),(8,.int .i64 v.i)],objs:=[(6,.cells zE),(7,.cells [.str v.s,.str v.k,.int .i64 v.ho,.sl .no 3 v.a.n v.a.g,.gsl 100018 9 v.sg.n,.gsl 200018 13 v.fn,.gsl 300018 6 v.ln,.gsl 400018 12 v.xn]),(100018,o),(200018,.grw 0 13 v.fn a),(300018,.grw 0 6 v.ln b),(400018,.grw 0 12 v.xn c),(aa,aO v.C)]}
theorem nz {v:CHV} {o:AO} {a b c:Nat->List AV} (ho:o=sgQ v.sg) (ha:a=chF v) (hb:b=chL v) (hc:c=chX v):chR v o a b c=CHS v:=by rw [ho,ha,hb,hc];rfl
abbrev dN (n:Nat) (k:Int):Nat:=Int.toNat k - Int.toNat ((0:Nat):Int)+(Int.toNat ((n:Nat):Int) - Int.toNat (IntKind.wrap .i64 (k+1)))
def Lg {T:Type} (n:Nat) (k:Int) (g:Nat->T):Nat->T:=Gb (Int.toNat k - Int.toNat ((0:Nat):Int)) (Int.toNat ((n:Nat):Int) - Int.toNat (IntKind.wrap .i64 (k+1))) g λj=>g (Int.toNat (IntKind.wrap .i64 (k+1))+j)
abbrev dG (n:Nat) (k:Int) (g:Nat->List AV):Nat->List AV:=ag (Int.toNat k - Int.toNat ((0:Nat):Int)) (Int.toNat ((n:Nat):Int) - Int.toNat (IntKind.wrap .i64 (k+1))) g λj=>g (Int.toNat (IntKind.wrap .i64 (k+1))+j)
theorem vt {n:Nat} {k:Int} (h0:0<=k) (h1:k < (n:Int)) (hn:n<=1000):Int.toNat k - Int.toNat ((0:Nat):Int)=k.toNat/\Int.toNat ((n:Nat):Int)=n/\Int.toNat (IntKind.wrap .i64 (k+1))=k.toNat+1/\dN n k+1=n:=by
 have e1:Int.toNat ((0:Nat):Int)=0:=rfl
 have e2:Int.toNat ((n:Nat):Int)=n:=rfl
 have e3:Int.toNat (IntKind.wrap .i64 (k+1))=k.toNat+1:=by rw [wrap_i64 (by omega) (by omega)];omega
 refine ⟨by omega,e2,e3,?_⟩
 show Int.toNat k - Int.toNat ((0:Nat):Int)+(Int.toNat ((n:Nat):Int) - Int.toNat (IntKind.wrap .i64 (k+1)))+1=n
 rw [e1,e2,e3];omega
theorem Bi {T:Type} {P:T->Prop} {g:Nat->T} {n:Nat} {k:Int} (h0:0<=k) (h1:k < (n:Int)) (hn:n<=1000) (h:∀j,j < n->P (g j)):∀j,j < dN n k->P (Lg n k g j):=λj hj=>by
 obtain ⟨e1,e2,e3,e4⟩:=vt h0 h1 hn
 have hj:j < dN n k:=hj
 unfold Lg
 by_cases hk:j < Int.toNat k - Int.toNat ((0:Nat):Int)
 ·rw [KY _ _ hk];exact h j (by omega)
 ·obtain ⟨m,rfl⟩:∃m,j=Int.toNat k - Int.toNat ((0:Nat):Int)+m:=⟨j - (Int.toNat k - Int.toNat ((0:Nat):Int)),by omega⟩
  rw [KZ _ _ (by have:dN n k=Int.toNat k - Int.toNat ((0:Nat):Int)+(Int.toNat ((n:Nat):Int) - Int.toNat (IntKind.wrap .i64 (k+1))):=rfl;omega)]
  exact h _ (by omega)
theorem IZ {n:Nat} {k:Int} (h0:0<=k) (h1:k < (n:Int)):(decide ((0:Int)<=((0:Nat):Int))&&(decide (((0:Nat):Int)<=k)&&decide (k<=(n:Int))))=true:=slT (Int.le_refl _) h0 (by omega)
theorem IY {n:Nat} {k:Int} (h0:0<=k) (h1:k < (n:Int)) (hn:n<=1000):(decide (0<=IntKind.wrap .i64 (k+1))&&(decide (IntKind.wrap .i64 (k+1)<=(n:Int))&&decide ((n:Int)<=(n:Int))))=true:=by
 rw [wrap_i64 (by omega) (by omega)]
 exact slT (by omega) (by omega) (Int.le_refl _)
theorem I1 {b n:Nat} {k:Int} (h0:0<=k) (h1:k < (n:Int)) (hn:n<=1000) (hb:b<=1000):((Nat.beq n n&&Nat.ble (Int.toNat (IntKind.wrap .i64 (k+1))+(Int.toNat ((n:Nat):Int) - Int.toNat (IntKind.wrap .i64 (k+1)))) n)&&(jR 0 (Int.toNat k - Int.toNat ((0:Nat):Int))&&(roomy b (dN n k)&&(Nat.beq n n&&Nat.ble (Int.toNat k - Int.toNat ((0:Nat):Int)) n))))=true:=by
 obtain ⟨e1,e2,e3,e4⟩:=vt h0 h1 hn
 have hr:roomy b (dN n k)=true:=by
  have:dN n k*b<=1000*1000:=Nat.mul_le_mul (by omega) hb
  exact Nat.ble_eq_true_of_le (Nat.le_trans this (by decide))
 rw [hr,Nat.beq_refl,Nat.ble_eq_true_of_le (show Int.toNat (IntKind.wrap .i64 (k+1))+(Int.toNat ((n:Nat):Int) - Int.toNat (IntKind.wrap .i64 (k+1)))<=n by omega),Nat.ble_eq_true_of_le (show Int.toNat k - Int.toNat ((0:Nat):Int)<=n by omega)]
 rfl
theorem I0 (sz K D m:Nat) (h:(Nat.beq sz sz&&(!(Nat.beq D 7)&&!(Nat.beq K 7)))=true):(Nat.beq sz sz&&(Nat.beq m m&&(jR 0 m&&(!(Nat.beq D 7)&&!(Nat.beq K 7)))))=true:=by
 rw [Nat.beq_refl m];exact h
theorem H8 {k:Int} {n:Nat} (h0:0<=k) (h:decide (k < (n:Int))=true):(within k n&&Nat.beq n n)=true:=by rw [ax h0 (of_decide_eq_true h),Nat.beq_refl];rfl
theorem Ns {k:Int} {n:Nat} (h0:0<=k) (h:decide (k < (n:Int))=true):(Nat.blt k.toNat n&&Nat.beq n n)=true:=by
 have:=of_decide_eq_true h
 rw [jM (by omega),Nat.beq_refl];rfl
theorem Lh {k:Int} {n:Nat} (h0:0<=k) (h:decide (k < (n:Int))=true):(Nat.ble 0 1&&(Nat.blt k.toNat n&&Nat.beq n n))=true:=by rw [Ns h0 h];rfl
section
variable (v:CHV) (C:CODES)
def CHV.idU:CHV:={v with C:=C,i:=IntKind.wrap .i64 (v.i+1)}
def CHV.tU (s k:List UInt8) (ho:Int):CHV:={v with s:=s,k:=k,ho:=ho,C:=C,i:=IntKind.wrap .i64 (v.i+1)}
def CHV.aU (a:RW):CHV:={v with a:=a,C:=C,i:=IntKind.wrap .i64 (v.i+1)}
def CHV.sU (k:Nat) (x:SEG):CHV:={v with sg:=⟨v.sg.n,jU v.sg.g k x⟩,C:=C,i:=IntKind.wrap .i64 (v.i+1)}
def CHV.fU (n:Nat) (g:Nat->FLAG):CHV:={v with fn:=n,fg:=g,C:=C,i:=IntKind.wrap .i64 (v.i+1)}
def CHV.lU (k:Nat) (x:LR):CHV:={v with lg:=jU v.lg k x,C:=C,i:=IntKind.wrap .i64 (v.i+1)}
def CHV.xU (n:Nat) (g:Nat->XR):CHV:={v with xn:=n,xg:=g,C:=C,i:=IntKind.wrap .i64 (v.i+1)}
end
def rCg (_:List AV) (_:List AO) (x:ENV×CODES):Prop:=SmE 50 x.1/\x.2.Ok
abbrev fzB:List UInt8:=[102,122]
abbrev sgX (g:SEG) (l:List (List UInt8)):SEG:=SEG.mk g.key g.kind l g.excl g.when
abbrev fOn (f:FLAG):FLAG:=FLAG.mk f.key f.kind f.vars (!f.on) f.off f.prqs f.tgts f.rules f.dflt
abbrev fDf (f:FLAG) (s:SERVE):FLAG:=FLAG.mk f.key f.kind f.vars f.on f.off f.prqs f.tgts f.rules s
abbrev xSt (r:XR) (n:Int):XR:=XR.mk (EXPT.mk r.x.key r.x.layer r.x.flag r.x.salt n r.x.claims r.x.arms r.x.when) r.cl
theorem FC {n:Nat} (X:Bool) (h:X=true∨n=0):(bif X then true else !bif ((n:Int)==0)==false then true else false)=true:=by
 rcases h with h | h
 ·rw [h];rfl
 ·subst h;cases X <;> rfl
theorem KQ (e:ENV):∃ (u:St->Bool) (w:St->CHV),(∀v,CHI v->bT u w (CHS v) CHI)/\∀L:List (List Nat×Orc),bw (VCq.run (tCh e) 1 [] L wCh lG) lG PCh (mkO u w CHO):=
 ay (Lf:=λL=>L) CHS CHI (λv=>(4 - v.i).toNat) CHO CHI (by kernel_rfl) (λv hv=>
  have hi:=hv.i
  .call (aq hv.C 3 (by decide)) λt0 q0=>.b (decide (v.i<=t0.1)) (λhle=>
   have h2:v.i<=2:=by have:=of_decide_eq_true hle;have q:0<=t0.1/\t0.1 < 3:=q0.1;omega
   have hw:IntKind.wrap .i64 (v.i+1)=v.i+1:=wrap_i64 (by omega) (by omega)
   have mu:(4 - IntKind.wrap .i64 (v.i+1)).toNat < (4 - v.i).toNat:=by rw [hw];omega
   have ii:0<=IntKind.wrap .i64 (v.i+1)/\IntKind.wrap .i64 (v.i+1)<=3:=by rw [hw];omega
   have ff:(v.fn:Int)<=4+IntKind.wrap .i64 (v.i+1):=by have:=hv.f.1;rw [hw];omega
   have f6:v.fn<=1000:=by have:=hv.f.1;omega
   have x6:v.xn<=1000:=Nat.le_trans hv.x.1 (by decide)
   have idI:∀ {D:CODES},D.Ok->CHI (v.idU D):=λhD=>⟨hv.s,hv.k,hv.a,hv.sg,⟨ff,hv.f.2⟩,hv.l,hv.x,hD,ii⟩
   have tI:∀ {D:CODES} {s k:List UInt8} {ho:Int},D.Ok->s.length<=1000->k.length<=1000->CHI (v.tU D s k ho):=λhD h1 h2=>⟨h1,h2,hv.a,hv.sg,⟨ff,hv.f.2⟩,hv.l,hv.x,hD,ii⟩
   have sI:∀ {D:CODES} {k:Nat} {x:SEG},D.Ok->SmG 50 x/\x.key.length<=40->CHI (v.sU D k x):=λhD hx=>⟨hv.s,hv.k,hv.a,⟨hv.sg.1,nR (P:=λx:SEG=>SmG 50 x/\x.key.length<=40) hv.sg.2 hx⟩,⟨ff,hv.f.2⟩,hv.l,hv.x,hD,ii⟩
   have fI:∀ {D:CODES} {n:Nat} {g:Nat->FLAG},D.Ok->(n:Int)<=4+IntKind.wrap .i64 (v.i+1)->(∀j,j < n->DF (g j))->CHI (v.fU D n g):=λhD h1 h2=>⟨hv.s,hv.k,hv.a,hv.sg,⟨h1,h2⟩,hv.l,hv.x,hD,ii⟩
   have lI:∀ {D:CODES} {k:Nat} {x:LR},D.Ok->SmL 50 x.l->CHI (v.lU D k x):=λhD hx=>⟨hv.s,hv.k,hv.a,hv.sg,⟨ff,hv.f.2⟩,⟨hv.l.1,nR (P:=λx:LR=>SmL 50 x.l) hv.l.2 hx⟩,hv.x,hD,ii⟩
   have xI:∀ {D:CODES} {n:Nat} {g:Nat->XR},D.Ok->n<=10->(∀j,j < n->SmX 50 (g j).x/\(g j).cl.n<=10050)->CHI (v.xU D n g):=λhD h1 h2=>⟨hv.s,hv.k,hv.a,hv.sg,⟨ff,hv.f.2⟩,hv.l,⟨h1,h2⟩,hD,ii⟩
   have delX:=λ(D:CODES) (hD:D.Ok)=>RT.call (S:=CHS) (Inv:=CHI) (μ:=λv=>(4 - v.i).toNat) (out:=CHO) (Post:=λ_ o=>CHI o) (v:=v) (ι:=List (List Nat×Orc)) (aq hD 4 (by decide)) λk p=>.b (decide (k.1 < (v.xn:Int))) (λh=>
    have h0:0<=k.1:=p.1.1
    have h1:=of_decide_eq_true h
    .n (IZ h0 h1) (.n (IY h0 h1 x6) (.n (I1 (b:=208) h0 h1 x6 (by decide)) (.n (I0 12 400018 232 (dN v.xn k.1) rfl)
     (.go (chR (v.xU k.2 (dN v.xn k.1) (Lg v.xn k.1 v.xg)) (sgQ v.sg) (chF v) (chL v) (dG v.xn k.1 (chX v))) (v.xU k.2 (dN v.xn k.1) (Lg v.xn k.1 v.xg)) (xI p.2 (by have:=(vt h0 h1 x6).2.2.2;have:=hv.x.1;omega) (Bi (P:=λx:XR=>SmX 50 x.x/\x.cl.n<=10050) h0 h1 x6 hv.x.2)) mu (nz rfl rfl rfl (vI XR.c _ _ _ _)))))))
    λ_=>.to (v.idU k.2) (idI p.2) mu
   .call (aq q0.2 10 (by decide)) λt q=>.b (t.1==0) (λ_=>.call (l8 q.2) λs p=>.call (gS p.2 2500 (by decide)) λw r=>.to (v.tU w.2 s.1 pg w.1) (tI r.2 (Nat.le_trans (mG _ p.1) (by decide)) (by decide)) mu) λ_=>
   .b (t.1==1) (λ_=>.call (aq q.2 4 (by decide)) λk p=>.b (decide (k.1 < (v.sg.n:Int))) (λh=>
     have h0:0<=k.1:=p.1.1
     have o:=hv.sg.2 k.1.toNat (by have:=of_decide_eq_true h;omega)
     .call (rB p.2) λks qk=>.n (H8 h0 h) (.n (Lh h0 h) (.go (chR (v.sU ks.2 k.1.toNat (sgX (v.sg.g k.1.toNat) ks.1)) (.grw 0 9 v.sg.n λj=>bif Nat.beq j k.1.toNat then (sgX (v.sg.g k.1.toNat) ks.1).c else (v.sg.g j).c) (chF v) (chL v) (chX v)) (v.sU ks.2 k.1.toNat (sgX (v.sg.g k.1.toNat) ks.1))
      (sI qk.2 ⟨⟨o.1.key,o.1.kind,mo qk.1,o.1.excl,o.1.when⟩,o.2⟩) mu (nz (congrArg (AO.grw 0 9 v.sg.n) (k8 SEG.c v.sg.g _ _)) rfl rfl rfl))))
     λ_=>.to (v.idU k.2) (idI p.2) mu) λ_=>
   .b (t.1==2) (λ_=>.call (aq q.2 4 (by decide)) λk p=>.b (decide (k.1 < (v.fn:Int))) (λh=>
     have h0:0<=k.1:=p.1.1
     have o:=hv.f.2 k.1.toNat (by have:=of_decide_eq_true h;omega)
     .n (H8 h0 h) (.n (Ns h0 h) (.n (H8 h0 h) (.n (Lh h0 h) (.go (chR (v.fU k.2 v.fn (jU v.fg k.1.toNat (fOn (v.fg k.1.toNat)))) (sgQ v.sg) (λj=>bif Nat.beq j k.1.toNat then (fOn (v.fg k.1.toNat)).c else (v.fg j).c) (chL v) (chX v)) (v.fU k.2 v.fn (jU v.fg k.1.toNat (fOn (v.fg k.1.toNat))))
      (fI p.2 ff (nR hv.f.2 ⟨⟨o.1.key,o.1.vars,o.1.prqs,o.1.tgts,o.1.rules,o.1.dflt⟩,o.2⟩)) mu (nz rfl (k8 FLAG.c v.fg _ _) rfl rfl))))))
     λ_=>.to (v.idU k.2) (idI p.2) mu) λ_=>
   .b (t.1==3) (λ_=>.call (aq q.2 4 (by decide)) λk p=>.b (decide (k.1 < (v.fn:Int))) (λh=>
     have h0:0<=k.1:=p.1.1
     have o:=hv.f.2 k.1.toNat (by have:=of_decide_eq_true h;omega)
     .n (H8 h0 h) (.n (Ns h0 h) (.call (mM p.2 ((v.fg k.1.toNat).vars.length:Int) (by have:=o.2;omega)) λs qs=>.n (H8 h0 h) (.n (Lh h0 h) (.go (chR (v.fU s.2 v.fn (jU v.fg k.1.toNat (fDf (v.fg k.1.toNat) s.1))) (sgQ v.sg) (λj=>bif Nat.beq j k.1.toNat then (fDf (v.fg k.1.toNat) s.1).c else (v.fg j).c) (chL v) (chX v)) (v.fU s.2 v.fn (jU v.fg k.1.toNat (fDf (v.fg k.1.toNat) s.1)))
      (fI qs.2 ff (nR hv.f.2 ⟨⟨o.1.key,o.1.vars,o.1.prqs,o.1.tgts,o.1.rules,smv qs.1⟩,o.2⟩)) mu (nz rfl (k8 FLAG.c v.fg _ _) rfl rfl))))))
     λ_=>.to (v.idU k.2) (idI p.2) mu) λ_=>
   .b (t.1==4) (λ_=>.call (aq q.2 4 (by decide)) λk p=>.b (decide (k.1 < (v.fn:Int))) (λh=>
     have h0:0<=k.1:=p.1.1
     have h1:=of_decide_eq_true h
     .n (IZ h0 h1) (.n (IY h0 h1 f6) (.n (I1 (b:=216) h0 h1 f6 (by decide)) (.n (I0 13 200018 113 (dN v.fn k.1) rfl)
      (.go (chR (v.fU k.2 (dN v.fn k.1) (Lg v.fn k.1 v.fg)) (sgQ v.sg) (dG v.fn k.1 (chF v)) (chL v) (chX v)) (v.fU k.2 (dN v.fn k.1) (Lg v.fn k.1 v.fg)) (fI p.2 (by have:=(vt h0 h1 f6).2.2.2;omega) (Bi h0 h1 f6 hv.f.2)) mu (nz rfl (vI FLAG.c _ _ _ _) rfl rfl))))))
     λ_=>.to (v.idU k.2) (idI p.2) mu) λ_=>
   .b (t.1==5) (λ_=>
     have w1:v.fn≠0->IntKind.wrap .i64 ((v.fn:Int) - 1)=((v.fn - 1:Nat):Int):=λh=>by rw [wrap_i64 (by omega) (by omega)];omega
     .n (c:=bif within (IntKind.wrap .i64 ((v.fn:Int) - 1)) v.fn&&Nat.beq v.fn v.fn then true else !bif ((v.fn:Int)==0)==false then true else false) (FC _ (by
      by_cases h:v.fn=0
      ·exact .inr h
      ·left;rw [w1 h,c6 (show v.fn - 1 < v.fn by omega),Nat.beq_refl];rfl))
     (.n (c:=bif Nat.blt (Int.toNat (IntKind.wrap .i64 ((v.fn:Int) - 1))) v.fn&&Nat.beq v.fn v.fn then true else !bif ((v.fn:Int)==0)==false then true else false) (FC _ (by
      by_cases h:v.fn=0
      ·exact .inr h
      ·left;rw [w1 h,Int.toNat_natCast,jM (show v.fn - 1 < v.fn by omega),Nat.beq_refl];rfl))
     (.b (bif (v.fn:Int)==0 then true else aA (v.fg (Int.toNat (IntKind.wrap .i64 ((v.fn:Int) - 1)))).key fzB) (λ_=>.call (HW v.sg ⟨hv.sg.1,λj hj=>(hv.sg.2 j hj).2⟩ fzB (by decide) q.2) λf qf=>.n (aH (b:=216) (n:=v.fn+1) (m:=v.fn) (by omega))
      (.go (chR (v.fU f.1.2 (v.fn+1) (jU v.fg v.fn f.1.1)) (sgQ f.2) (ag v.fn 1 (chF v) (ae zF [(0,.agg f.1.1.c)])) (chL v) (chX v)) (v.fU f.1.2 (v.fn+1) (jU v.fg v.fn f.1.1))
       (fI qf.1.2 (by have:=hv.f.1;rw [hw];omega) (λj hj=>by
        by_cases h:j < v.fn
        ·rw [qP _ _ (by omega)];exact hv.f.2 j h
        ·obtain rfl:j=v.fn:=by omega
         rw [uz];exact qf.1.1)) mu (nz (qf.2 _ _ rfl) (vJ FLAG.c v.fn v.fg _ _ rfl) rfl rfl)))
      λ_=>.to (v.idU t.2) (idI q.2) mu))) λ_=>
   .b (t.1==6) (λ_=>.call (aq q.2 3 (by decide)) λk p=>.b (decide (k.1 < (v.ln:Int))) (λh=>
     have h0:0<=k.1:=p.1.1
     have o:=hv.l.2 k.1.toNat (by have:=of_decide_eq_true h;omega)
     .n (H8 h0 h) (.n (Lh h0 h) (.go (chR (v.lU k.2 k.1.toNat (LR.mk (v.lg k.1.toNat).l true)) (sgQ v.sg) (chF v) (λj=>bif Nat.beq j k.1.toNat then (LR.mk (v.lg k.1.toNat).l true).c else (v.lg j).c) (chX v)) (v.lU k.2 k.1.toNat (LR.mk (v.lg k.1.toNat).l true))
      (lI p.2 o) mu (nz rfl rfl (k8 LR.c v.lg _ _) rfl))))
     λ_=>.to (v.idU k.2) (idI p.2) mu) λ_=>
   .b (t.1==7) (λ_=>.call (aq q.2 4 (by decide)) λk p=>.b (decide (k.1 < (v.xn:Int))) (λh=>
     have h0:0<=k.1:=p.1.1
     have o:=hv.x.2 k.1.toNat (by have:=of_decide_eq_true h;omega)
     .call (aq p.2 3 (by decide)) λs r=>.n (H8 h0 h) (.n (Lh h0 h) (.go (chR (v.xU s.2 v.xn (jU v.xg k.1.toNat (xSt (v.xg k.1.toNat) (IntKind.wrap .i64 (1+s.1))))) (sgQ v.sg) (chF v) (chL v) (λj=>bif Nat.beq j k.1.toNat then (xSt (v.xg k.1.toNat) (IntKind.wrap .i64 (1+s.1))).c else (v.xg j).c)) (v.xU s.2 v.xn (jU v.xg k.1.toNat (xSt (v.xg k.1.toNat) (IntKind.wrap .i64 (1+s.1)))))
      (xI r.2 hv.x.1 (nR (P:=λx:XR=>SmX 50 x.x/\x.cl.n<=10050) hv.x.2 ⟨⟨o.1.key,o.1.layer,o.1.flag,o.1.salt,o.1.claims,o.1.arms,o.1.when⟩,o.2⟩)) mu (nz rfl rfl rfl (k8 XR.c v.xg _ _)))))
     λ_=>.to (v.idU k.2) (idI p.2) mu) λ_=>
   .b (t.1==8) (λ_=>.call (aq q.2 4 (by decide)) λk p=>.b (decide (k.1 < (v.xn:Int))) (λh=>
     have h0:0<=k.1:=p.1.1
     have o:=hv.x.2 k.1.toNat (by have:=of_decide_eq_true h;omega)
     .n (H8 h0 h) (.n (Ns h0 h) (.call (gS p.2 4000 (by decide)) λw r=>.call (Bf (v.xg k.1.toNat).cl w.1 (Nat.le_trans o.2 (by decide))) λc qc=>.n (H8 h0 h) (.n (Lh h0 h) (.go (chR (v.xU w.2 v.xn (jU v.xg k.1.toNat (XR.mk (v.xg k.1.toNat).x c))) (sgQ v.sg) (chF v) (chL v) (λj=>bif Nat.beq j k.1.toNat then (XR.mk (v.xg k.1.toNat).x c).c else (v.xg j).c)) (v.xU w.2 v.xn (jU v.xg k.1.toNat (XR.mk (v.xg k.1.toNat).x c)))
      (xI r.2 hv.x.1 (nR (P:=λx:XR=>SmX 50 x.x/\x.cl.n<=10050) hv.x.2 ⟨o.1,Nat.le_trans qc (by decide)⟩)) mu (nz rfl rfl rfl (k8 XR.c v.xg _ _)))))))
     λ_=>.to (v.idU k.2) (idI p.2) mu) λ_=>
   .b (t.1==9) (λ_=>.b (decide ((v.a.n:Int) > 0)) (λha=>
     have ha:=of_decide_eq_true ha
     have a5:=hv.a.1
     have w1:IntKind.wrap .i64 ((v.a.n:Int) - 1)=((v.a.n - 1:Nat):Int):=by rw [wrap_i64 (by omega) (by omega)];omega
     .call (aq q.2 2 (by decide)) λs r=>.b (bif true then s.1==1 else false) (λ_=>.n (c:=decide ((0:Int)<=((0:Nat):Int))&&(decide (((0:Nat):Int)<=IntKind.wrap .i64 ((v.a.n:Int) - 1))&&decide (IntKind.wrap .i64 ((v.a.n:Int) - 1)<=(v.a.n:Int)))) (slT (Int.le_refl _) (by rw [w1];omega) (by rw [w1];omega))
      (.to (v.aU s.2 ⟨Int.toNat (IntKind.wrap .i64 ((v.a.n:Int) - 1)) - Int.toNat ((0:Nat):Int),λj=>v.a.g (Int.toNat ((0:Nat):Int)+j)⟩)
       ⟨hv.s,hv.k,⟨by show Int.toNat (IntKind.wrap .i64 ((v.a.n:Int) - 1)) - 0<=50;rw [w1];omega,λj hj=>by
        have hj:j < Int.toNat (IntKind.wrap .i64 ((v.a.n:Int) - 1)) - 0:=hj
        rw [w1] at hj
        show RAt (v.a.g (0+j))
        rw [Nat.zero_add];exact hv.a.2 j (by omega)⟩,hv.sg,⟨ff,hv.f.2⟩,hv.l,hv.x,r.2,ii⟩ mu))
     λ_=>delX s.2 r.2)
    λ_=>delX t.2 q.2)
   λ_=>.to (v.idU t.2) (idI q.2) mu)
  λ_=>.fi {v with C:=t0.2} ⟨hv.s,hv.k,hv.a,hv.sg,hv.f,hv.l,hv.x,q0.2,hv.i⟩) (λv L k kn=>by kernel_rfl)
theorem OP (x:LR) (h:SmL 50 x.l):RLr 50 x.c:=by
 obtain ⟨l,z⟩:=x
 cases z with
 | false=>exact ⟨l,h,TellL.refl rfl⟩
 | true=>exact ⟨LAYER.mk l.key l.kind l.salt l.hold l.cool [],⟨h.1,Nat.zero_le _⟩,.cons (.same rfl) (.cons (.same rfl) (.cons (.same rfl) (.cons (.same rfl) (.cons (.same rfl) (.cons aW .nil)))))⟩
theorem OO (r:XR) (h:SmX 50 r.x/\r.cl.n<=10050):RXt 50 r.c:=by
 obtain ⟨l,h1,_,h3⟩:=bR (T:=Int×Int) (Q:=λ_=>True) (R:=K6) (n:=r.cl.n) (get:=SM.SP r.cl.F r.cl.T) λj _=>⟨(r.cl.F j,r.cl.T j),trivial,TellL.refl rfl⟩
 have hx:=h.1
 exact ⟨EXPT.mk r.x.key r.x.layer r.x.flag r.x.salt r.x.status l r.x.arms r.x.when,⟨hx.key,hx.layer,hx.flag,hx.salt,by show l.length<=10000+50;rw [h1];exact h.2,hx.arms,hx.when⟩,.cons (.same rfl) (.cons (.same rfl) (.cons (.same rfl) (.cons (.same rfl) (.cons (.same rfl) (.cons (h3 .no 2 λ_=>⟨rfl,rfl⟩) (TellL.refl rfl))))))⟩
theorem MM {v:CHV} (hv:CHI v) {l:List AV} {os:List AO} :
  Run (rCg l os) φEn (cond (Nat.beq 9 9&&Nat.beq v.sg.n v.sg.n) (cond (Nat.beq 13 13&&Nat.beq v.fn v.fn) (cond (Nat.beq 6 6&&Nat.beq v.ln v.ln) (cond (Nat.beq 12 12&&Nat.beq v.xn v.xn)
   (some (.agg [.str v.s,.str v.k,.int .i64 v.ho,.sl .no 3 v.a.n v.a.g,.sl .no 9 v.sg.n (sgR v.sg),.sl .no 13 v.fn (chF v),.sl .no 6 v.ln (chL v),.sl .no 12 v.xn (chX v)],[aO v.C])) none) none) none) none):=by
 have hi:=hv.i
 obtain ⟨e,h1,h2⟩:=H4 (b:=50) (ho:=v.ho) (a1:=v.a) (a2:=⟨v.sg.n,sgR v.sg⟩) (a3:=⟨v.fn,chF v⟩) (a4:=⟨v.ln,chL v⟩) (a5:=⟨v.xn,chX v⟩) hv.s hv.k
  ⟨hv.a,⟨Nat.le_trans hv.sg.1 (by decide),λj hj=>⟨v.sg.g j,(hv.sg.2 j hj).1,TellL.refl rfl⟩⟩,⟨by have:=hv.f.1;show v.fn<=50;omega,λj hj=>⟨v.fg j,(hv.f.2 j hj).1,TellL.refl rfl⟩⟩,⟨Nat.le_trans hv.l.1 (by decide),λj hj=>OP _ (hv.l.2 j hj)⟩,⟨Nat.le_trans hv.x.1 (by decide),λj hj=>OO _ (hv.x.2 j hj)⟩⟩
 exact .n (by simp) (.n (by simp) (.n (by simp) (.n (by simp) (.t (e,v.C) ⟨h1,hv.C⟩ (.agg h2)))))
theorem FB (e:ENV) (he:BE e) (now:Int) {C:CODES} (hC:C.Ok):aG wd lG φEn rCg [cR,.agg e.c,.int .i64 now] [aO C]:=by
 obtain ⟨t0,ht0,hcp⟩:=KP e ⟨by rw [he.attrs];decide,Nat.le_trans he.segs.1 (by decide),Nat.le_trans he.flags.1 (by decide),Nat.le_trans he.layers.1 (by decide),Nat.le_trans he.expts.1 (by decide)⟩
 have ht0:t0=e:=ht0
 subst ht0
 haveI:=il (T:=[]) hcp
 obtain ⟨u,w,hu,hl⟩:=KQ t0
 have sm:=he.sm
 exact de (V:=VCq) (T:=tCh t0) (d:=1) (W:=wCh) 0 (ah (hl _) aE) (cw (Km _ _) (cw (mF (DY _ _ _) (DY _ _ _)) aD))
  (.n (eX [.agg t0.c] []) (.n (c:=Nat.beq 3 3&&Nat.beq (0+t0.attrs.length) (0+t0.attrs.length)) (by simp)
   (.lp (hu (CHV.mk t0.salt t0.hkind t0.hold ⟨0+t0.attrs.length,cpA t0⟩ ⟨0+t0.segs.length,λj=>t0.segs.getD j default⟩ (0+t0.flags.length) (λj=>t0.flags.getD j default) (0+t0.layers.length) (λj=>LR.mk (t0.layers.getD j default) false)
     (0+t0.expts.length) (λj=>XR.mk (t0.expts.getD j default) (SM.SO.mk (t0.expts.getD j default).claims.length (λi=>((t0.expts.getD j default).claims.getD i (0,0)).1) λi=>((t0.expts.getD j default).claims.getD i (0,0)).2)) C 0)
    ⟨sm.salt,sm.hkind,⟨by have:=sm.attrs.1;show 0+t0.attrs.length<=50;omega,λj hj=>⟨t0.attrs.getD j ([],[],0),sm.attrs.2 _ (bQ (l:=t0.attrs) (by have hj:j < 0+t0.attrs.length:=hj;omega)),TellL.refl rfl⟩⟩,
     ⟨by have:=he.segs.1;show 0+t0.segs.length<=7;omega,λj hj=>he.segs.2 _ (bQ (by have hj:j < 0+t0.segs.length:=hj;omega))⟩,
     ⟨by have:=he.flags.1;show ((0+t0.flags.length:Nat):Int)<=4+0;omega,λj hj=>he.flags.2 _ (bQ (by have hj:j < 0+t0.flags.length:=hj;omega))⟩,
     ⟨by have:=he.layers.1;show 0+t0.layers.length<=10;omega,λj hj=>sm.layers.2 _ (bQ (by have hj:j < 0+t0.layers.length:=hj;omega))⟩,
     ⟨by have:=he.expts.1;show 0+t0.expts.length<=10;omega,λj hj=>⟨he.expts.2 _ (bQ (by have hj:j < 0+t0.expts.length:=hj;omega)),(he.expts.2 _ (bQ (by have hj:j < 0+t0.expts.length:=hj;omega))).claims⟩⟩,hC,by show (0:Int)<=0/\(0:Int)<=3;decide⟩) λv hv=>MM hv))) (by kernel_rfl)
end Go.T

namespace Go.T
open Go Go.Ab Go.Proofs Go.SH
open Go.SM (ENV jY nS om oc qF tV nT)
theorem td {chk chk':Nat->Int} {bad bad':Nat->Bool}:∀r r' i,r'<=r->(∀j,i<=j->j < i+r'->chk' j=chk j/\bad' j=bad j)->nT chk bad r i=0->nT chk' bad' r' i=0
 | _,0,_,_,_,_=>rfl
 | 0,r'+1,_,h,_,_=>absurd h (Nat.not_succ_le_zero _)
 | r+1,r'+1,i,h,he,hs=>by
  obtain ⟨e1,e2⟩:=he i (Nat.le_refl _) (by omega)
  rw [nT] at hs
  rw [nT,e1,e2]
  obtain ⟨h1,h2⟩:=SM.bW hs
  obtain ⟨h3,h4⟩:=SM.kS (by decide) h2
  rw [h1,h3]
  exact td r r' (i+1) (by omega) (λj hj hj'=>he j (by omega) (by omega)) h4
theorem B2 {most:Nat} {n n':Nat} {chk chk':Nat->Int} {bad bad':Nat->Bool} (hn:n'<=n) (he:∀j,j < n'->chk' j=chk j/\bad' j=bad j) (h:SM.bB most n chk bad=0):SM.bB most n' chk' bad'=0:=by
 unfold SM.bB at h ⊢
 obtain ⟨h1,h2⟩:=SM.kS (by decide) h
 have h1:=of_decide_eq_false h1
 rw [decide_eq_false (show ¬ ((n':Int) > (most:Int)) by omega)]
 exact td n n' 0 hn (λj _ hj=>he j (by omega)) h2
theorem oj {α:Type} {d:α} {l:List α} {k j:Nat} (h:j < k):(l.take k).getD j d=l.getD j d:=by
 rw [List.getD_eq_getElem?_getD,List.getD_eq_getElem?_getD,List.getElem?_take_of_lt h]
theorem EJ {key key':Nat->List UInt8} {n:Nat} (h:∀j,j < n->key' j=key j) {j:Nat} (hj:j < n):tV key' j=tV key j:=by
 unfold tV
 rw [h j hj,h (j - 1) (by omega)]
theorem lD {α:Type} [Inhabited α] {most:Nat} {l:List α} {k:Nat} (hk:k<=l.length) {f:α->Int} {key:α->List UInt8} (h:SM.bB most l.length (λi=>f (l.getD i default)) (tV λi=>key (l.getD i default))=0) :
  SM.bB most (l.take k).length (λi=>f ((l.take k).getD i default)) (tV λi=>key ((l.take k).getD i default))=0:=by
 rw [List.length_take,Nat.min_eq_left hk]
 exact B2 hk (λj hj=>⟨by rw [oj hj],EJ (λi hi=>by rw [oj hi]) hj⟩) h
def Bc (e:ENV) (a b c d:Nat):ENV:=ENV.mk e.salt e.hkind e.hold e.attrs (e.segs.take a) (e.flags.take b) (e.layers.take c) (e.expts.take d)
theorem HQ {e:ENV} {a b c d:Nat} (ha:a<=e.segs.length) (hb:b<=e.flags.length) (hc:c<=e.layers.length) (hd:d<=e.expts.length) (h:jY e=0):jY (Bc e a b c d)=0:=by
 unfold jY at h ⊢
 obtain ⟨h1,h⟩:=SM.bW h
 obtain ⟨h2,h⟩:=SM.bW h
 obtain ⟨h3,h⟩:=SM.bW h
 obtain ⟨h4,h⟩:=SM.bW h
 obtain ⟨h5,h6⟩:=SM.bW h
 have k3:nS (e.segs.take a)=0:=lD (f:=Dp) (key:=λx=>x.key) ha h3
 have k4:om (e.flags.take b)=0:=lD (f:=nq) (key:=λx=>x.key) hb h4
 have k5:oc (e.layers.take c)=0:=lD (f:=iX) (key:=λx=>x.key) hc h5
 have k6:qF (e.expts.take d)=0:=lD (f:=pG) (key:=λx=>x.key) hd h6
 show (bif SM.pr e.salt e.hkind e.hold !=0 then _ else bif SM.sW e.attrs !=0 then _ else bif nS (e.segs.take a) !=0 then _ else bif om (e.flags.take b) !=0 then _ else bif oc (e.layers.take c) !=0 then _ else qF (e.expts.take d))=0
 rw [h1,h2,k3,k4,k5,k6];rfl
end Go.T

namespace Go.T
open Go Go.Ab Go.Proofs Go.SH
open Go.SM (ENV ATT lN cL np mU mD)
open Go.SO (SmG SmT SmF SmL SmX SmE ATB)
section
variable {n:Nat} {i:Int}
end
end Go.T

namespace Go.T
open Go Go.Ab Go.Proofs Go.SH
open Go.SM (ENV jY)
def φNw (C:CODES):AV×List AO:=(.ref 1000000 0,[aO C])
def rNw (_:List AV) (_:List AO) (C:CODES):Prop:=C.Ok
theorem J0 {n:Nat} {g:Nat->Int} (hg:∀j,j < n->0<=g j/\g j < 256):aG wd MI φNw rNw [.sl .no 1 n λj=>[.int .u8 (g j)],.int .i64 400] []:=
 de (V:=V0) (T:=[]) (d:=1) 1 aE aD (.b (decide ((n:Int) > 400)) (λh=>
   have h:=of_decide_eq_true h
   .n (c:=decide ((0:Int)<=((0:Nat):Int))&&(decide (((0:Nat):Int)<=400)&&decide ((400:Int)<=(n:Int)))) (slT (Int.le_refl _) (by decide) (by omega))
    (.e (CODES.mk 400 g 0) (r:=(.ref 1000000 0,[.cells [.sl .no 1 400 λj=>[.int .u8 (g (Int.toNat ((0:Nat):Int)+j))],.int .i64 0]])) ⟨⟨Int.le_refl _,by show (0:Int)<=((400:Nat):Int);decide⟩,by show 400<=4611686018427387904;decide,λj hj=>hg j (by have hj:j < 400:=hj;omega)⟩ (by
     have e:(λj=>[AV.int .u8 (g (Int.toNat ((0:Nat):Int)+j))])=λj=>[AV.int .u8 (g j)]:=by
      funext j;show [AV.int .u8 (g (0+j))]=_;rw [Nat.zero_add]
     rw [e];rfl)))
  λh=>.r (CODES.mk n g 0) ⟨⟨Int.le_refl _,by show (0:Int)<=(n:Int);omega⟩,by have h:=of_decide_eq_false h;show n<=_;omega,hg⟩) (by kernel_rfl)
noncomputable abbrev eNw:Ent:=aY wd MI φNw rNw
def eZ:ENV:=⟨[],[],0,[],[],[],[],[]⟩
theorem Oy:jY eZ=0:=by kernel_rfl
abbrev cZ:List AV:=[.str [],.str [],.int .i64 0,nA,nA,nA,nA,nA]
theorem KT:TellL cZ eZ.c:=.cons (.same rfl) (.cons (.same rfl) (.cons (.same rfl) (.cons aW (.cons aW (.cons aW (.cons aW (.cons aW .nil)))))))
abbrev rZ1:AV:=.sl .fit 3 1 (ae z3 [(0,.agg [.int .i64 0,.int .i64 10000,.int .i64 2])])
theorem JE:di rZ1 (mP [(0,10000,2)]):=pN (n:=1) λj hj=>by
 obtain rfl:j=0:=(by omega)
 exact TellL.refl rfl
def rAw (l:List AV) (_:List AO) (x:Int):Prop:=(l=[rZ1,.int .i64 2]->x=0)/\(l=[rZ1,.int .i64 1]->x=3)
theorem C0 {τ:Type} {f:FuncId} {φ:τ->AV×List AO} {P:τ->Prop} {x y:AV} {r:List AV} {os:List AO} (h:∀c v,Rep c x v->Rep c y v) (hk:y.keys=[]) (hd:aG wd f φ (λ_ _=>P) (y::r) os):aG wd f φ (λ_ _=>P) (x::r) os:=by
 obtain ⟨t,ht,hc⟩:=hd
 refine ⟨t,ht,Ct.MS hc rfl (λk hk'=>?_) λi u u' hu hu' c v hv=>?_⟩
 ·simp only [ak,hk,List.nil_append,List.mem_append] at hk' ⊢
  exact .inr hk'
 ·match i,hu,hu' with
  | 0,hu,hu'=>
   simp only [List.getElem?_cons_zero,Option.some.injEq] at hu hu'
   subst hu hu'
   exact h c v hv
  | i+1,hu,hu'=>
   simp only [List.getElem?_cons_succ] at hu hu'
   rw [hu] at hu';cases hu';exact hv
theorem Ik (n:Int):aG wd iu SH.φE (rIs (dA [(0,10000,2)] n)) [rZ1,.int .i64 n] []:=C0 (P:=λx=>x=dA [(0,10000,2)] n) JE.2 rfl (qL [(0,10000,2)] n (by decide))
theorem Ib:aG wd AZ φB (rIs true) [] []:=by
 have he:aG wd cC SH.φE (rIs 0) [.agg cZ] []:=pO (P:=λx=>x=0) (λ_ _=>lQ KT) rfl ((yf eZ ⟨Nat.zero_le _,Nat.zero_le _,⟨Nat.zero_le _,λx hx=>(List.not_mem_nil hx).elim⟩,⟨Nat.zero_le _,λx hx=>(List.not_mem_nil hx).elim⟩,⟨Nat.zero_le _,λx hx=>(List.not_mem_nil hx).elim⟩,⟨Nat.zero_le _,λx hx=>(List.not_mem_nil hx).elim⟩,⟨Nat.zero_le _,λx hx=>(List.not_mem_nil hx).elim⟩⟩).mono λx h=>(show x=jY eZ from h).trans Oy)
 have h2:aG wd iu SH.φE rAw [rZ1,.int .i64 2] []:=(Ik 2).mono λx h=>⟨λ_=>(show x=dA [(0,10000,2)] 2 from h).trans (by kernel_rfl),λh=>by simp at h⟩
 have h1:aG wd iu SH.φE rAw [rZ1,.int .i64 1] []:=(Ik 1).mono λx h=>⟨λh=>by simp at h,λ_=>(show x=dA [(0,10000,2)] 1 from h).trans (by kernel_rfl)⟩
 exact ef (V:=V0) [aY wd cC SH.φE (rIs 0),aY wd iu SH.φE rAw] 1 (.call he λa qa=>.call h2 λb qb=>.call h1 λc qc=>.r (bif bif a==0 then b==0 else false then c==3 else false) (by
  rw [show a=0 from qa,qb.1 rfl,qc.2 rfl];rfl)) (by kernel_rfl)
noncomputable abbrev eAw:Ent:=aY wd AZ φB (rIs true)
end Go.T

namespace Go.T
open Go Go.Ab Go.Proofs Go.SH
open Go.SM (ENV ATT lN cL np mU mD jY)
open Go.SO (SmG SmT SmF SmL SmX SmE)
theorem lj {T:Type} {d:T} {R:T->List AV} (hi:∀a b,R a=R b->a=b) {sz:Nat} {l l':List T} (h:AV.sl .no sz l.length (λj=>R (l.getD j d))=.sl .no sz l'.length λj=>R (l'.getD j d)):l=l':=by
 simp only [AV.sl.injEq,true_and] at h
 obtain ⟨h1,h2⟩:=h
 refine List.ext_getElem h1 λi k1 k2=>?_
 have:=hi _ _ (congrFun h2 i)
 rw [List.getD_eq_getElem?_getD,List.getD_eq_getElem?_getD,List.getElem?_eq_getElem k1,List.getElem?_eq_getElem k2] at this
 exact this
theorem Kw {a b:ENV} (h:a.c=b.c):a=b:=by
 obtain ⟨s,k,ho,l1,l2,l3,l4,l5⟩:=a
 obtain ⟨s',k',ho',m1,m2,m3,m4,m5⟩:=b
 have h:[AV.str s,.str k,.int .i64 ho,lN l1,cL l2,np l3,mU l4,mD l5]=[AV.str s',.str k',.int .i64 ho',lN m1,cL m2,np m3,mU m4,mD m5]:=h
 simp only [List.cons.injEq,AV.str.injEq,AV.int.injEq,true_and,and_true] at h
 obtain ⟨rfl,rfl,rfl,h1,h2,h3,h4,h5⟩:=h
 rw [lj (R:=atc) (d:=([],[],0)) (λa b h=>by
   obtain ⟨a1,a2,a3⟩:=a
   obtain ⟨b1,b2,b3⟩:=b
   simp only [atc,List.cons.injEq,AV.str.injEq,AV.int.injEq,true_and,and_true] at h
   obtain ⟨rfl,rfl,rfl⟩:=h
   rfl) h1,
  lj (R:=SEG.c) (λa b h=>SM.SEG.df h) h2,lj (R:=FLAG.c) (λa b h=>SM.FLAG.df h) h3,lj (R:=LAYER.c) (λa b h=>SM.LAYER.df h) h4,lj (R:=EXPT.c) (λa b h=>SM.EXPT.df h) h5]
abbrev Je (e:ENV):List AV:=[.agg e.c]
theorem Jf (a b:ENV) (h:Je a=Je b):a=b:=Kw (by simpa using h)
noncomputable abbrev eRE:Ent:=aY wd fE SH.φE (rC Je jY)
structure LWV where
 u:ENV
 i:Int
instance:Inhabited LWV:=⟨⟨SO.e0,0⟩⟩
end Go.T

namespace Go.T
open Go Go.Ab Go.Proofs Go.SH
open Go.SM (ENV ATT lN cL np mU mD jY)
open Go.SO (SmE)
def rMd (l:List AV) (_:List AO) (x:Int):Prop:=∀a n,l=[.int .i64 a,.int .i64 n]->0<=x/\x < n
theorem Mb (a n:Int) (hn:1<=n/\n<=1000000):aG wd KK SM.φI' rMd [.int .i64 a,.int .i64 n] []:=by
 have h1:a.tmod n < n:=Int.tmod_lt_of_pos a (by omega)
 have h2 : -n < a.tmod n:=by
  have:=Int.lt_tmod_of_pos a (show 0 < n by omega)
  omega
 have e:∀ {x:Int},0<=x/\x < n->rMd [.int .i64 a,.int .i64 n] [] x:=λh a' n' e=>by
  simp only [List.cons.injEq,AV.int.injEq,true_and,and_true] at e
  rw [<-e.2];exact h
 exact ef (V:=V0) [] 1 (.n (c:=n !=0) (by simp;omega) (.b (decide (a.tmod n < 0)) (λh=>.r (IntKind.wrap .i64 (a.tmod n+n)) (e (by
   have:=of_decide_eq_true h
   rw [wrap_i64 (by omega) (by omega)];omega))) λh=>.r (a.tmod n) (e ⟨by have:=of_decide_eq_false h;omega,h1⟩))) (by kernel_rfl)
abbrev frC (e:ENV) (a b c d:Int):List AV:=[.str e.salt,.str e.hkind,.int .i64 e.hold,lN e.attrs,.sl .no 9 (Int.toNat a - Int.toNat ((0:Nat):Int)) λj=>(e.segs.getD (Int.toNat ((0:Nat):Int)+j) default).c,
 .sl .no 13 (Int.toNat b - Int.toNat ((0:Nat):Int)) λj=>(e.flags.getD (Int.toNat ((0:Nat):Int)+j) default).c,.sl .no 6 (Int.toNat c - Int.toNat ((0:Nat):Int)) λj=>(e.layers.getD (Int.toNat ((0:Nat):Int)+j) default).c,.sl .no 12 (Int.toNat d - Int.toNat ((0:Nat):Int)) λj=>(e.expts.getD (Int.toNat ((0:Nat):Int)+j) default).c]
theorem lC {T:Type} [Inhabited T] {R:T->List AV} {sz k:Nat} {l:List T} (hk:k<=l.length) (hR:∀x,(R x).length=sz/\ak (R x)=[]) (hl:∀x,TellL (R x) (R x)):di (.sl .no sz (k - 0) λj=>R (l.getD (0+j) default)) (.sl .no sz (l.take k).length λj=>R ((l.take k).getD j default)):=by
 rw [List.length_take,Nat.min_eq_left hk]
 exact pN (n:=k) (λj hj=>by rw [oj hj,Nat.zero_add];exact hl _) λj _=>hR _
theorem front_eq {T:Type} [Inhabited T] {R:T->List AV} (hi:∀a b,R a=R b->a=b) {sz k:Nat} {l l':List T} (hk:k<=l.length) (h:AV.sl .no sz (k - 0) (λj=>R (l.getD (0+j) default))=.sl .no sz l'.length λj=>R (l'.getD j default)):l.take k=l':=by
 simp only [AV.sl.injEq,true_and] at h
 obtain ⟨h1,h2⟩:=h
 refine List.ext_getElem (by rw [List.length_take,Nat.min_eq_left hk];omega) λi k1 k2=>?_
 have:=hi _ _ (congrFun h2 i)
 rw [Nat.zero_add,List.getD_eq_getElem?_getD,List.getD_eq_getElem?_getD,List.getElem?_eq_getElem k2,List.getElem?_eq_getElem (by omega)] at this
 rw [List.getElem_take]
 exact this
def rSf (l:List AV) (_:List AO) (x:Int):Prop:=(∀e,l=Je e->x=jY e)/\((∀e,l≠Je e)->x=0)
theorem Ap {e:ENV} (he:e.Ok):aG wd cC SH.φE rSf [.agg e.c] []:=(aG.rC Jf (yf e he)).mono λx hx=>⟨hx,λh=>absurd rfl (h e)⟩
theorem yc {e:ENV} (he:e.Ok) (h0:jY e=0) {a b c d:Int} (ha:0<=a/\a<=e.segs.length) (hb:0<=b/\b<=e.flags.length) (hc:0<=c/\c<=e.layers.length) (hd:0<=d/\d<=e.expts.length) :
  aG wd cC SH.φE (λl os x=>rSf l os x/\x=0) [.agg (frC e a b c d)] []:=by
 have ka:a.toNat<=e.segs.length:=by omega
 have kb:b.toNat<=e.flags.length:=by omega
 have kc:c.toNat<=e.layers.length:=by omega
 have kd:d.toNat<=e.expts.length:=by omega
 have f0:=HQ ka kb kc kd h0
 have fo:(Bc e a.toNat b.toNat c.toNat d.toNat).Ok:=⟨he.salt,he.hkind,he.attrs,⟨by show (e.segs.take a.toNat).length<=_;rw [List.length_take];have:=he.segs.1;omega,λx hx=>he.segs.2 x (List.mem_of_mem_take hx)⟩,⟨by show (e.flags.take b.toNat).length<=_;rw [List.length_take];have:=he.flags.1;omega,λx hx=>he.flags.2 x (List.mem_of_mem_take hx)⟩,
  ⟨by show (e.layers.take c.toNat).length<=_;rw [List.length_take];have:=he.layers.1;omega,λx hx=>he.layers.2 x (List.mem_of_mem_take hx)⟩,⟨by show (e.expts.take d.toNat).length<=_;rw [List.length_take];have:=he.expts.1;omega,λx hx=>he.expts.2 x (List.mem_of_mem_take hx)⟩⟩
 by_cases h:∃e',[AV.agg (frC e a b c d)]=Je e'
 ·obtain ⟨e',h⟩:=h
  have h:frC e a b c d=e'.c:=by simpa using h
  have:Bc e a.toNat b.toNat c.toNat d.toNat=e':=by
   obtain ⟨s',k',ho',m1,m2,m3,m4,m5⟩:=e'
   have h:frC e a b c d=[AV.str s',.str k',.int .i64 ho',lN m1,cL m2,np m3,mU m4,mD m5]:=h
   simp only [frC,List.cons.injEq,AV.str.injEq,AV.int.injEq,true_and,and_true] at h
   obtain ⟨rfl,rfl,rfl,h1,h2,h3,h4,h5⟩:=h
   rw [lj (R:=atc) (d:=([],[],0)) (λa b h=>by
     obtain ⟨a1,a2,a3⟩:=a
     obtain ⟨b1,b2,b3⟩:=b
     simp only [atc,List.cons.injEq,AV.str.injEq,AV.int.injEq,true_and,and_true] at h
     obtain ⟨rfl,rfl,rfl⟩:=h
     rfl) h1.symm,
    <-front_eq (R:=SEG.c) (λa b h=>SM.SEG.df h) ka h2,<-front_eq (R:=FLAG.c) (λa b h=>SM.FLAG.df h) kb h3,<-front_eq (R:=LAYER.c) (λa b h=>SM.LAYER.df h) kc h4,<-front_eq (R:=EXPT.c) (λa b h=>SM.EXPT.df h) kd h5]
   rfl
  rw [h,<-this]
  exact (Ap fo).mono λx hx=>⟨hx,(hx.1 _ rfl).trans f0⟩
 ·have h:=not_exists.1 h
  have ht:TellL (frC e a b c d) (Bc e a.toNat b.toNat c.toNat d.toNat).c:=.cons (.same rfl) (.cons (.same rfl) (.cons (.same rfl) (.cons (.same rfl) (.cons (lC (R:=SEG.c) ka (λ_=>⟨rfl,rfl⟩) λ_=>TellL.refl rfl)
   (.cons (lC (R:=FLAG.c) kb (λ_=>⟨rfl,rfl⟩) λ_=>TellL.refl rfl) (.cons (lC (R:=LAYER.c) kc (λ_=>⟨rfl,rfl⟩) λ_=>TellL.refl rfl) (.cons (lC (R:=EXPT.c) kd (λ_=>⟨rfl,rfl⟩) λ_=>TellL.refl rfl) .nil)))))))
  have hz:aG wd cC SH.φE (λ_ _ x=>x=0) [.agg (frC e a b c d)] []:=pO (P:=λx=>x=0) (λ_ _=>lQ ht) rfl ((yf _ fo).mono λx hx=>(show x=jY _ from hx).trans f0)
  exact hz.mono λx hx=>⟨⟨λe' he'=>absurd he' (h e'),λ_=>hx⟩,hx⟩
noncomputable abbrev tFr:List Ent:=[eAw,eNw,Qr,aY wd lG φEn rCg,aY wd cC SH.φE rSf,eRE,aY wd KK SM.φI' rMd]
theorem HR {n:Nat} {m:Int} (h:0<=m/\m < IntKind.wrap .i64 ((n:Int)+1)) (hn:n<=1000):(decide ((0:Int)<=((0:Nat):Int))&&(decide (((0:Nat):Int)<=m)&&decide (m<=(n:Int))))=true:=by
 rw [wrap_i64 (by omega) (by omega)] at h
 exact slT (Int.le_refl _) h.1 (by omega)
theorem HU {n:Nat} {m:Int} (h:0<=m/\m < IntKind.wrap .i64 ((n:Int)+1)) (hn:n<=1000):0<=m/\m<=(n:Int):=by
 rw [wrap_i64 (by omega) (by omega)] at h
 omega
theorem HS (a:Int) {n:Nat} (hn:n<=1000):aG wd KK SM.φI' rMd [.int .i64 a,.int .i64 (IntKind.wrap .i64 ((n:Int)+1))] []:=Mb a _ (by rw [wrap_i64 (by omega) (by omega)];omega)
theorem EZ {n:Nat} {g:Nat->Int} (hg:∀j,j < n->0<=g j/\g j < 256) (a b d e:Int):aG wd sO φB (rIs true) [.sl .no 1 n λj=>[.int .u8 (g j)],.int .i64 a,.int .i64 b,.int .i64 d,.int .i64 e] []:=by
 have er:∀e:ENV,e.Ok->aG wd fE SH.φE (rC Je jY) [.agg e.c] []:=λe he=>aG.rC Jf (DU e he)
 exact ef (V:=V0) tFr 1 (.call Ib λx qa=>.b (!x) (λh=>.r false (by rw [show x=true from qa] at h;cases h)) λ_=>.call (J0 hg) λC hC=>.call (Mv 10 hC) λv qv=>.call (FB v.1 qv.1.1 10 qv.2) λw qw=>
  have ok:=qw.1.ok (by decide)
  have l1:w.1.segs.length<=1000:=Nat.le_trans qw.1.segs.1 (by decide)
  have l2:w.1.flags.length<=1000:=Nat.le_trans qw.1.flags.1 (by decide)
  have l3:w.1.layers.length<=1000:=Nat.le_trans qw.1.layers.1 (by decide)
  have l4:w.1.expts.length<=1000:=Nat.le_trans qw.1.expts.1 (by decide)
  .call (er w.1 ok) λt1 q1=>.b (t1 !=0) (λh=>.call (Ap ok) λt2 q2=>.r (t2 !=0) (by have e:t2=t1:=(q2.1 _ rfl).trans (q1 _ rfl).symm;rw [e];exact h)) λh=>
  .call (HS a l1) λm1 k1=>.n (HR (k1 _ _ rfl) l1) (.call (HS b l2) λm2 k2=>.n (HR (k2 _ _ rfl) l2) (.call (HS d l3) λm3 k3=>.n (HR (k3 _ _ rfl) l3) (.call (HS e l4) λm4 k4=>.n (HR (k4 _ _ rfl) l4)
  (have h0:jY w.1=0:=by rw [<-q1 _ rfl];simpa using h
   have sf:=yc ok h0 (HU (k1 _ _ rfl) l1) (HU (k2 _ _ rfl) l2) (HU (k3 _ _ rfl) l3) (HU (k4 _ _ rfl) l4)
   .call (sf.mono λx hx=>hx.1) λt3 q3=>.r (t3==0) (by
   have q:t3=0:=by
    by_cases hx:∃e',[AV.agg (frC w.1 m1 m2 m3 m4)]=Je e'
    ·obtain ⟨e',hx⟩:=hx
     obtain ⟨y,hy,_⟩:=sf
     rw [q3.1 _ hx,<-hy.1.1 _ hx];exact hy.2
    ·exact q3.2 (not_exists.1 hx)
   rw [q];rfl)))))) (by kernel_rfl)
theorem Qf {n:Nat} {g:Nat->Int} (hg:∀j,j < n->0<=g j/\g j < 256) (a b d e:Int):Ct wd.P wd.G 4 [.sl .no 1 n λj=>[.int .u8 (g j)],.int .i64 a,.int .i64 b,.int .i64 d,.int .i64 e] [] (φB true):=by
 obtain ⟨x,hx,hc⟩:=EZ hg a b d e
 rw [show x=true from hx] at hc
 exact hc
end Go.T

namespace Go.T
open Go Go.Ab Go.Proofs Go.RowKit Go.Proofs.YtpkipeakklpadaaGreatDoor
def dints:List (DataW Unit)->List Int
 | .lit (.int _ z)::r=>z::dints r
 | _=>[]
def dpairs:List (DataW Unit)->List (Int×Int)
 | .agg [.lit (.int _ y),.lit (.int _ z)]::r=>(y,z)::dpairs r
 | _=>[]
def parts:DataW Unit->List (DataW Unit)
 | .agg ds=>ds
 | _=>[]
theorem Dw {w:World} {d:DataW Unit} (hd:d=.agg ((dints (parts d)).map λz=>.lit (.int .u8 z))) (hl:(dints (parts d)).length=256) (hc:dcells d=(dints (parts d)).map λz=>.int .u8 z):Go.Ab.RX (λ_=>()) Tryz.prog w false 222 d (dcells d):=by
 rw [hc]
 have:=Jw (enc:=λ_=>()) (P:=Tryz.prog) (w:=w) (held:=false) (t:=222) (e:=5) (m:=256) (k:=.u8) (zs:=dints (parts d)) Tryz.underlying222 Tryz.underlying5 (by kernel_rfl) (by kernel_rfl) hl
 rwa [<-hd] at this
theorem GZ {w:World} {d:DataW Unit} (hd:d=.agg ((dpairs (parts d)).map λp=>.agg [.lit (.int .u8 p.1),.lit (.int .u8 p.2)])) (hl:(dpairs (parts d)).length=16) (hc:dcells d=((dpairs (parts d)).map λp=>[AV.int .u8 p.1]++[AV.int .u8 p.2]).flatten):Go.Ab.RX (λ_=>()) Tryz.prog w false 225 d (dcells d):=by
 rw [hc]
 have:=pW (enc:=λ_=>()) (P:=Tryz.prog) (w:=w) (held:=false) (t:=225) (e:=224) (m:=16) (sz:=2) (ds:=(dpairs (parts d)).map λp=>.agg [.lit (.int .u8 p.1),.lit (.int .u8 p.2)]) (us:=(dpairs (parts d)).map λp=>[AV.int .u8 p.1]++[AV.int .u8 p.2]) Tryz.underlying225 (by kernel_rfl) (by kernel_rfl) (by simpa using hl) (λi d u hd hu=>by
  rw [List.getElem?_map,Option.map_eq_some_iff] at hd hu
  obtain ⟨z,hz,rfl⟩:=hd
  obtain ⟨z',hz',rfl⟩:=hu
  obtain rfl:z=z':=by rw [hz] at hz';exact Option.some.inj hz'
  exact Lr Tryz.underlying224 (Du Tryz.underlying5 (by kernel_rfl)) (Du Tryz.underlying5 (by kernel_rfl)) rfl (by kernel_rfl) (by kernel_rfl)) (by simpa using hl)
 rwa [<-hd] at this
set_option maxRecDepth 100000 in
theorem yM {w:World} (h:w.ShapedOpen Tryz.prog):Rep (cB w) (.elt [.num .i64] 0) (.pointer (some ⟨8,0,none⟩)):=by
 obtain ⟨cs,h1,h2,h3⟩:=h.1 8 #[.int .i64 0] 3 (of_decide_eq_true (by kernel_rfl)) (by kernel_rfl)
 obtain ⟨ts,e1,e2,e3⟩:=h3 (by kernel_rfl)
 have e0:Tryz.prog.cellTypes Tryz.prog.depth 3=some [3]:=by kernel_rfl
 rw [e0] at e1
 obtain rfl:=Option.some.inj e1
 have hlt:0 < cs.size:=by rw [h2];decide
 obtain ⟨u,hu,hok⟩:=e3 0 cs[0] (Array.getElem?_eq_getElem hlt)
 simp only [List.length_singleton,Nat.mod_one,List.getElem?_cons_zero,Option.some.injEq] at hu
 subst hu
 unfold Cell.ok at hok
 rw [show Tryz.prog.underlying 3=some (.int .i64) from Tryz.underlying3] at hok
 have hcell:∀i,w.cell? ⟨8,i,none⟩=cs[i]?:=λi=>by
  unfold World.cell?
  simp [h1]
 refine wM hcell ⟨by simpa using h2,λu hu=>by simp at hu;subst hu;exact ⟨rfl,rfl⟩,λi u hu=>?_⟩
 cases i with
 | succ i=>simp at hu
 | zero=>
  simp at hu;subst hu
  rw [List.getD_eq_getElem?_getD,Array.getElem?_toList,Array.getElem?_eq_getElem hlt]
  show Rep _ _ cs[0]
  generalize cs[0]=v at hok ⊢
  cases v with
  | int k n=>obtain ⟨rfl,_⟩:=hok;exact .num _ _
  | _=>simp at hok
def dtexts:List (DataW Unit)->List (List UInt8)
 | .lit (.string s)::r=>s::dtexts r
 | _=>[]
def dlists:List (DataW Unit)->List (List (List UInt8))
 | .slice es _::r=>dtexts es::dlists r
 | _=>[]
theorem Ay {w:World} {t m:Nat} {d:DataW Unit} (ht:Tryz.prog.underlying t=some (.array m 9)) (hc:Tryz.prog.cellsOf t=m*1) (hd:d=.agg ((dtexts (parts d)).map λs=>.lit (.string s))) (hl:(dtexts (parts d)).length=m) (he:dcells d=(dtexts (parts d)).map λs=>.str s):Go.Ab.RX (λ_=>()) Tryz.prog w false t d (dcells d):=by
 rw [he]
 have:=pW (enc:=λ_=>()) (P:=Tryz.prog) (w:=w) (held:=false) (t:=t) (e:=9) (m:=m) (sz:=1) (ds:=(dtexts (parts d)).map λs=>.lit (.string s)) (us:=(dtexts (parts d)).map λs=>[AV.str s]) ht (by kernel_rfl) hc (by simpa using hl) (λi d u hd hu=>by
  rw [List.getElem?_map,Option.map_eq_some_iff] at hd hu
  obtain ⟨z,hz,rfl⟩:=hd
  obtain ⟨z',hz',rfl⟩:=hu
  obtain rfl:z=z':=by rw [hz] at hz';exact Option.some.inj hz'
  exact It Tryz.underlying9 (by kernel_rfl)) (by simpa using hl)
 rw [<-hd] at this
 have hf:∀l:List (List UInt8),(l.map λs=>[AV.str s]).flatten=l.map λs=>AV.str s:=λl=>by induction l with | nil=>rfl | cons s r ih=>simp [ih]
 rwa [hf] at this
theorem GY {w:World} {t m:Nat} {d:DataW Unit} (ht:Tryz.prog.underlying t=some (.array m 50)) (hc:Tryz.prog.cellsOf t=m*1) (hd:d=.agg ((dlists (parts d)).map λl=>.slice (l.map λs=>.lit (.string s)) [])) (hl:(dlists (parts d)).length=m) (he:dcells d=(dlists (parts d)).map λl=>C2 l):Go.Ab.RX (λ_=>()) Tryz.prog w false t d (dcells d):=by
 rw [he]
 have:=pW (enc:=λ_=>()) (P:=Tryz.prog) (w:=w) (held:=false) (t:=t) (e:=50) (m:=m) (sz:=1) (ds:=(dlists (parts d)).map λl=>.slice (l.map λs=>.lit (.string s)) []) (us:=(dlists (parts d)).map λl=>[C2 l]) ht (by kernel_rfl) hc (by simpa using hl) (λi d u hd hu=>by
  rw [List.getElem?_map,Option.map_eq_some_iff] at hd hu
  obtain ⟨z,hz,rfl⟩:=hd
  obtain ⟨z',hz',rfl⟩:=hu
  obtain rfl:z=z':=by rw [hz] at hz';exact Option.some.inj hz'
  exact Jv Tryz.underlying50 Tryz.underlying9 (by kernel_rfl) (by kernel_rfl)) (by simpa using hl)
 rw [<-hd] at this
 have hf:∀l:List (List (List UInt8)),(l.map λs=>[C2 s]).flatten=l.map λs=>C2 s:=λl=>by induction l with | nil=>rfl | cons s r ih=>simp [ih]
 rwa [hf] at this
theorem ET {w:World} {laid:List (String×DataW Unit)} (h:laidMet Tryz.prog laid w) (ho:w.ShapedOpen Tryz.prog)
  (m1:("flagstone/flagstonedraw.texts",Rows.laid_flagstone_flagstonedraw_texts)∈laid)
  (m2:("flagstone/flagstonedraw.versions",Rows.laid_flagstone_flagstonedraw_versions)∈laid)
  (m3:("flagstone/flagstonedraw.lists",Rows.laid_flagstone_flagstonedraw_lists)∈laid)
  (m4:("unicode/utf8.first",Rows.laid_unicode_utf8_first)∈laid)
  (m5:("unicode/utf8.acceptRanges",Rows.laid_unicode_utf8_acceptRanges)∈laid)
  (m6:("strings.asciiSpace",Rows.laid_strings_asciiSpace)∈laid)
  (m9:("strconv.ErrSyntax",Rows.laid_strconv_ErrSyntax)∈laid)
  (m10:("strconv.ErrRange",Rows.laid_strconv_ErrRange)∈laid) :
  ∀g cs,glb g=some cs->Rep (cB w) (.elt cs 0) (.pointer (some ⟨g,0,none⟩)):=by
 intro g cs hg
 unfold glb at hg
 by_cases h1:g=1
 ·subst h1
  obtain rfl:=Option.some.inj hg
  exact iw h m1 (by kernel_rfl) (by kernel_rfl) (Ay (m:=11) (t:=152) (by kernel_rfl) (by kernel_rfl) (by kernel_rfl) (by kernel_rfl) (by kernel_rfl))
 rw [lL h1,cond_false] at hg
 by_cases h2:g=2
 ·subst h2
  obtain rfl:=Option.some.inj hg
  exact iw h m2 (by kernel_rfl) (by kernel_rfl) (Ay (m:=6) (t:=144) (by kernel_rfl) (by kernel_rfl) (by kernel_rfl) (by kernel_rfl) (by kernel_rfl))
 rw [lL h2,cond_false] at hg
 by_cases h3:g=3
 ·subst h3
  obtain rfl:=Option.some.inj hg
  exact iw h m3 (by kernel_rfl) (by kernel_rfl) (GY (m:=5) (t:=200) (by kernel_rfl) (by kernel_rfl) (by kernel_rfl) (by kernel_rfl) (by kernel_rfl))
 rw [lL h3,cond_false] at hg
 by_cases h4:g=4
 ·subst h4
  obtain rfl:=Option.some.inj hg
  exact iw h m4 (by kernel_rfl) (by kernel_rfl) (Dw (by kernel_rfl) (by kernel_rfl) (by kernel_rfl))
 rw [lL h4,cond_false] at hg
 by_cases h5:g=5
 ·subst h5
  obtain rfl:=Option.some.inj hg
  exact iw h m5 (by kernel_rfl) (by kernel_rfl) (GZ (by kernel_rfl) (by kernel_rfl) (by kernel_rfl))
 rw [lL h5,cond_false] at hg
 by_cases h6:g=6
 ·subst h6
  obtain rfl:=Option.some.inj hg
  exact iw h m6 (by kernel_rfl) (by kernel_rfl) (Dw (by kernel_rfl) (by kernel_rfl) (by kernel_rfl))
 rw [lL h6,cond_false] at hg
 by_cases h8:g=8
 ·subst h8
  obtain rfl:=Option.some.inj hg
  exact yM ho
 rw [lL h8,cond_false] at hg
 by_cases h9:g=9
 ·subst h9
  obtain rfl:=Option.some.inj hg
  exact iw h m9 (by kernel_rfl) (by kernel_rfl) (Az Tryz.underlying281 (by kernel_rfl))
 rw [lL h9,cond_false] at hg
 by_cases h10:g=10
 ·subst h10
  obtain rfl:=Option.some.inj hg
  exact iw h m10 (by kernel_rfl) (by kernel_rfl) (Az Tryz.underlying281 (by kernel_rfl))
 rw [lL h10,cond_false] at hg
 cases hg
section
variable {H:Type} {enc:TypeId×Value->H} {w:World} {N:Nat}
def Ia (z:Int):Prop:=0<=z/\z < 256
theorem Lw (n:Nat):Reads enc Tryz.prog w N n 5 (λz:Int=>[.int .u8 z]) Ia:=(D1 Tryz.underlying5).map id (λ_=>rfl) λz h=>by
 simp [Lit.wf,IntKind.min,IntKind.max,IntKind.signed,IntKind.bits] at h
 exact ⟨h.1,by show z < 256;omega⟩
def MN (l:List Int):AV:=.sl .no 1 l.length λj=>[.int .u8 (l.getD j 0)]
theorem JC (n:Nat):Reads enc Tryz.prog w N n 22 (λl:List Int=>[MN l]) (λl=>∀z∈l,Ia z):=
 (yr (e:=5) (sz:=1) (α:=Int) (cl:=λz=>[.int .u8 z]) (Ok:=Ia) (λl j=>[.int .u8 (l.getD j 0)]) Tryz.underlying22 (by kernel_rfl) (by omega) (λ_=>rfl) (λ_ _ _=>rfl) (λm _=>Lw m)).map id (λ_=>rfl) λl h=>h.2.2
end
theorem De {P:Program} {H:Type} {enc:TypeId×Value->H} {W:World} {base:Nat} {t e:TypeId} {v:Value} {d:DataW H} {p:List MemPlace} {α:Type} {cl:α->AV} {Ok:α->Prop} (hs:P.underlying t=some (.slice e))
  (hv:Value.okWide P W .any base t v) (h:DataW.Trod enc P W 0 (λ_=>true) true t v d p) {N:Nat} (hr:∀n,Reads enc P W N n t (λa=>[cl a]) Ok) (hb:my d<=N) :
  ∃a,Ok a/\Rep (cB W) (cl a) v/\(cl a).keys=[]:=by
 obtain ⟨a,len,cap,rfl⟩:=Go.WideShapes.okWide_slice hs hv
 obtain ⟨n,hn⟩:=h
 obtain ⟨x,h1,h2⟩:=hr n (Value.slice a len cap).cells.toList (d,p) hn hb
 refine ⟨x,h2,?_,(h1.one _ (by simp)).2⟩
 simpa [Value.cells] using h1.rep 0 _ rfl
end Go.T
