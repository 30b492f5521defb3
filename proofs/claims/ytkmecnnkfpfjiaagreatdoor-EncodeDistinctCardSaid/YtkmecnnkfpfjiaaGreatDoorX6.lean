/- flagstoneref1.ParseNumber. -/
import Derived.Test.YtkmecnnkfpfjiaaGreatDoorX5
set_option linter.unusedVariables false
set_option linter.unusedSimpArgs false
namespace Go.T
open Go Go.Ab Go.Proofs Go.SH
def YrZ (s d:List UInt8) (i:Int):St:={env:=[(0,.str s),(4,.str d),(5,.int .i64 i)],objs:=[]}
def YnZ (s d:List UInt8) (v:Int×Int):St:={env:=[(0,.str s),(4,.str d),(6,.int .i64 v.1),(7,.int .i64 v.2)],objs:=[]}
def Te (s d:List UInt8) (n:Int) (k:Ex->St->Res):Res:=k (.exit 2) {env:=[(0,.str s),(4,.str d),(6,.int .i64 n)],objs:=[]}
def Lo (s d:List UInt8):Bool:=bif d==[] then true else bif ((d.getD 0 0).toNat:Int)==48 then !s==[48] else false
theorem DK {s d:List UInt8} (hd:(gB s).1=d):Lo s d=(d==[]||(d.getD 0 0).toNat==48&&(decide (d.length > 1)||(gB s).2)):=by
 unfold Lo
 rw [Va]
 rcases gA s with ⟨r,rfl,hc⟩ | ⟨hh,hc⟩
 ·rw [hc] at hd ⊢
  have hd:r=d:=hd
  subst hd
  rw [show ((45::r:List UInt8)==[48])=false by simp]
  cases r==[] <;> cases (r.getD 0 0).toNat==48 <;> cases decide (r.length > 1) <;> rfl
 ·rw [hc] at hd ⊢
  have hd:s=d:=hd
  subst hd
  cases s with
  | nil=>rfl
  | cons c r=>
   show (bif c.toNat==48 then !(c::r==[48]) else false)=(c.toNat==48&&(decide ((c::r).length > 1)||false))
   cases h:c.toNat==48 with
   | false=>rfl
   | true=>
    have:c=48:=UInt8.toNat_inj.1 (by simpa using h)
    subst this
    cases r <;> simp
theorem Pl {s d:List UInt8} (hd:(gB s).1=d) (hb:yv s=false) (hl:d.length > 13):val 0 d > yp:=by
 unfold yv at hb
 rw [hd] at hb
 simp only [Bool.or_eq_false_iff] at hb
 obtain ⟨⟨e1,e2⟩,e3⟩:=hb
 obtain ⟨c,r,rfl⟩:∃c r,d=c::r:=by cases d with
  | nil=>simp at hl
  | cons c r=>exact ⟨c,r,rfl⟩
 have hc:=Ca e3 c (List.mem_cons_self ..)
 rw [show decide ((c::r).length > 1)=true from decide_eq_true (by omega)] at e2
 have hne:¬ c.toNat=48:=by simpa using e2
 have hg:=FV r (put 0 c)
 rw [rP]
 have hr:13<=r.length:=by simp at hl;omega
 have hp:10 ^ 13<=10 ^ r.length:=Nat.pow_le_pow_right (by decide) hr
 have hq:1<=put 0 c:=by rw [put_eq];omega
 have:10 ^ r.length<=put 0 c*10 ^ r.length:=Nat.le_mul_of_pos_left _ hq
 unfold yp;omega
theorem Cn {s d:List UInt8} (hd:(gB s).1=d):yv s=((d==[]||(d.getD 0 0).toNat==48&&(decide (d.length > 1)||(gB s).2))||(MR d).1):=by
 unfold yv;rw [hd,Ek]
theorem HF {s d:List UInt8} (hd:(gB s).1=d):decide ((d.length:Int) < (s.length:Int))=(gB s).2:=by
 rcases gA s with ⟨r,rfl,hc⟩ | ⟨hh,hc⟩ <;> rw [hc] at hd ⊢ <;> subst hd
 ·exact decide_eq_true (by rw [List.length_cons];show (r.length:Int) < _;omega)
 ·exact decide_eq_false (by show ¬ (s.length:Int) < _;omega)
theorem x7 {s:List UInt8}:((bif decide ((s.length:Int) > 0) then ((s.getD 0 0).toNat:Int)==45 else false)=true->(gB s).1=s.drop 1/\1<=s.length)/\((bif decide ((s.length:Int) > 0) then ((s.getD 0 0).toNat:Int)==45 else false)=false->(gB s).1=s):=by
 cases s with
 | nil=>exact ⟨λh=>by simp at h,λ_=>rfl⟩
 | cons c r=>
  rw [decide_eq_true (show ((c::r).length:Int) > 0 by rw [List.length_cons];omega)]
  constructor
  ·intro h
   have h:c.toNat=45:=by have h:((c.toNat:Int)==45)=true:=h;have:=eq_of_beq h;omega
   have:c=45:=UInt8.toNat_inj.1 h
   subst this
   exact ⟨rfl,by simp⟩
  ·intro h
   have h:((c.toNat:Int)==45)=false:=h
   have hc:¬ c=45:=λe=>by subst e;simp at h
   unfold gB
   show ((bif c==45 then (r,true) else (c::r,false)):List UInt8×Bool).1=_
   rw [show (c==45)=false by simpa using hc];rfl
theorem K8 {d:List UInt8} {i:Nat} (h:i < d.length) (hd:digs d) (hl:d.length<=13):IntKind.wrap .i64 (IntKind.wrap .i64 (10*((val 0 (d.take i):Nat):Int))+IntKind.wrap .i64 (IntKind.wrap .u8 (((d.getD i 0).toNat:Int) - 48)))=((val 0 (d.take (i+1)):Nat):Int):=by
 have hc:48<=(d.getD i 0).toNat/\(d.getD i 0).toNat<=57:=by
  have e:d.getD i 0=d[i]:=by simp [List.getD,h]
  rw [e];exact hd _ (List.getElem_mem _)
 have hb:=Ew hd hl i
 have e:val 0 (d.take (i+1))=put (val 0 (d.take i)) (d.getD i 0):=by
  have:d.take (i+1)=d.take i++[d.getD i 0]:=by rw [List.take_succ_eq_append_getElem h];simp [List.getD,h]
  rw [this,JE]
 rw [e,put_eq,wrap_u8 (n:=((d.getD i 0).toNat:Int) - 48) (by omega) (by omega)]
 have w1:IntKind.wrap .i64 (10*((val 0 (d.take i):Nat):Int))=10*((val 0 (d.take i):Nat):Int):=wrap_i64 (by omega) (by omega)
 have w2:IntKind.wrap .i64 (((d.getD i 0).toNat:Int) - 48)=((d.getD i 0).toNat:Int) - 48:=wrap_i64 (by omega) (by omega)
 rw [w1,w2,wrap_i64 (by omega) (by omega)]
 omega
theorem A2 (s:List UInt8) (hs:s.length<=1048576):aJ wd gK SH.φN (rS uQ) [.str s] []:=by
 obtain ⟨d,hd⟩:∃d,(gB s).1=d:=⟨_,rfl⟩
 have hlen:d.length<=s.length:=by
  rcases gA s with ⟨r,rfl,hc⟩ | ⟨hh,hc⟩ <;> rw [hc] at hd <;> subst hd <;> simp
 obtain ⟨u1,w1,h1,l1⟩:=bQ (V:=V0) (T:=[]) (d:=1) (W:=[]) (f:=gK) (p:=PB) (Lf:=λL=>L) (YrZ s d) d.length (λi=>bif Em (d.getD i 0).toNat then some () else none) Sy (λk=>k (.exit 0) {env:=[(0,.str s),(4,.str d)],objs:=[]}) (by kernel_rfl)
  (λi a=>.n a.w (.n (c:=bif within (i:Int) d.length then true else !bif decide (((d.getD i 0).toNat:Int) < 48)==false then true else false) (gw a.w) (.b (Em (d.getD i 0).toNat) (λh=>.sp () a (pa h)) λh=>.up a (by omega) (pb h)))) (λi L k kn=>by kernel_rfl)
 obtain ⟨u2,w2,h2,l2⟩:=aw (V:=V0) (T:=[]) (d:=1) (W:=[]) (f:=gK) (p:=[1,1,1,1,1,1,1,0,1,0]) (Lf:=λL=>L) (λi:Nat=>YnZ s d (((val 0 (d.take i):Nat):Int),(i:Int))) (Wk d) (λi=>d.length - i) (Te s d) (λo=>o=((val 0 d:Nat):Int)) (by kernel_rfl)
  (λi hi=>.b (decide ((i:Int) < (d.length:Int))) (λh=>
    have hlt:i < d.length:=pN h
    .n (dD hlt) (.go {env:=[(0,.str s),(4,.str d),(6,.int .i64 (IntKind.wrap .i64 (IntKind.wrap .i64 (10*((val 0 (d.take i):Nat):Int))+IntKind.wrap .i64 (IntKind.wrap .u8 (((d.getD i 0).toNat:Int) - 48))))),(7,.int .i64 (IntKind.wrap .i64 ((i:Int)+1)))],objs:=[]} (i+1) ⟨hlt,hi.2⟩ (by show d.length - (i+1) < d.length - i;omega) (by rw [K8 hlt hi.2.1 hi.2.2,bg (by have:=hi.2.2;omega)];rfl)))
   λh=>.fi ((val 0 (d.take i):Nat):Int) (by rw [List.take_of_length_le (Rl h)])) (λv L k kn=>by kernel_rfl)
 have good:(MR d).1=false->Lo s d=false->yv s=false:=λe1 e2=>by rw [Cn hd,<-DK hd,e1,e2];rfl
 have bad:yv s=true->uQ s=(0,1):=λh=>by unfold uQ;rw [h];rfl
 have big:yv s=false->val 0 d > yp->uQ s=(0,3):=λh h'=>by unfold uQ;rw [h,hd,decide_eq_true h'];rfl
 have fine:yv s=false->¬ val 0 d > yp->uQ s=(bif (gB s).2 then -(val 0 d:Int) else (val 0 d:Int),0):=λh h'=>by unfold uQ;rw [h,hd,decide_eq_false h'];rfl
 have tail:=λ(d':List UInt8) (e:d'=d)=>Run.lp (Post:=rS uQ [.str s] []) (φ:=SH.φN) (g:=u1) (w:=w1) (s:=YrZ s d' 0) (Q:=λo=>o=MR d) (by rw [e];exact h1) λt q=>.b t.1 (λh=>.r (0,1) (.mk (bad (by rw [q] at h;rw [Cn hd,h,Bool.or_true])).symm)) λh=>.n (c:=bif within 0 d.length then true else !bif (d==[])==false then true else false) (Rk d)
  (.b (Lo s d) (λh=>.r (0,1) (.mk (bad (by rw [Cn hd,<-DK hd,h];rfl)).symm)) λhh=>
   have g:=good (q ▸ h) hh
   .b (decide ((d.length:Int) > 13)) (λhl=>.r (0,3) (.mk (big g (Pl hd g (by have:=of_decide_eq_true hl;omega))).symm)) λhl=>
   have hl:d.length<=13:=by have:=of_decide_eq_false hl;omega
   have hg:digs d:=by
    have g':=g
    unfold yv at g'
    rw [hd] at g'
    simp only [Bool.or_eq_false_iff] at g'
    exact Ca g'.2
   .lp (h2 0 ⟨Nat.zero_le _,hg,hl⟩) λn qn=>.b (decide (n > 1099511627776)) (λhm=>.r (0,3) (.mk (big g (by have:=of_decide_eq_true hm;unfold yp;omega)).symm)) λhm=>
    have hm:¬ val 0 d > yp:=by have:=of_decide_eq_false hm;unfold yp;omega
    .b (decide ((d.length:Int) < (s.length:Int))) (λhn=>.r (IntKind.wrap .i64 (0 - n),0) (.mk (by
      rw [HF hd] at hn
      unfold yp at hm
      rw [fine g (by unfold yp;exact hm),hn,qn,wrap_i64 (by omega) (by omega),Int.zero_sub];rfl)))
     λhn=>.r (n,0) (.mk (by rw [HF hd] at hn;rw [fine g hm,hn,qn];rfl)))
 refine dy (V:=V0) (T:=[]) (d:=1) 0 (ah (l1 _) (ah (l2 _) aE)) aB (.n (c:=bif within 0 s.length then true else !bif decide ((s.length:Int) > 0)==true then true else false) ?_
  (.b (bif decide ((s.length:Int) > 0) then ((s.getD 0 0).toNat:Int)==45 else false) (λh=>.n (c:=decide ((0:Int)<=1)&&(decide ((1:Int)<=(s.length:Int))&&decide ((s.length:Int)<=(s.length:Int)))) ?_
   (tail (List.take (Int.toNat (s.length:Int) - Int.toNat 1) (List.drop (Int.toNat 1) s)) ?_)) λh=>tail s ((x7.2 h).symm.trans hd))) (by kernel_rfl)
 ·cases s with
  | nil=>rfl
  | cons c r=>rw [show within 0 (c::r).length=true from aA (by omega) (by rw [List.length_cons];omega)];rfl
 ·have:=(x7.1 h).2
  rw [decide_eq_true (show (1:Int)<=(s.length:Int) by omega),decide_eq_true (Int.le_refl (s.length:Int))];rfl
 ·rw [<-hd,(x7.1 h).1]
  show List.take (s.length - 1) (s.drop 1)=s.drop 1
  rw [<-List.length_drop,List.take_length]
noncomputable abbrev RH:Ent:=bc wd gK SH.φN (rS uQ)
end Go.T
