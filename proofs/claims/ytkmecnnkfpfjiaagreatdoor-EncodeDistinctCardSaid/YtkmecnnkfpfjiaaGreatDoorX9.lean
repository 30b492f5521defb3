/- The encoding of an environment, in plain words; that it tells environments apart. How long the encoding of a well-formed environment is at most. A well-formed environment is small: what its encoding asks. Numbers, texts and truth values are put. Writers: texts, values, conditions, spans, serves. Writers: conditions, spans, serves, segments, flags, layers, experiments, environments. Writers: attributes, segments, flags, layers, experiments, environments. encode.Environment; what the chapter's example asks. Same: rows of data compared. Same: exactly whether two environments are equal. Same: segments, flags, layers, experiments, environments. EncodeDistinct: the law answers true. The globals of the seat out of a row's list; a slice of bytes that came in. -/
import Derived.Test.YtkmecnnkfpfjiaaGreatDoorX8
import Derived.Laws.BitsLemmas
import Derived.Test.YtkmecnnkfpfjiaaGreatDoorCards
import Derived.Test.YtkmecnnkfpfjiaaGreatDoorTie
set_option linter.unusedVariables false
set_option linter.unusedSimpArgs false
namespace Go.T
open Go Go.Ab Go.Proofs Go.SH
open Go.SM (ENV ATT)
def grp (u:Nat):List UInt8:=if u < 128 then [UInt8.ofNat u] else UInt8.ofNat (u % 128+128)::grp (u / 128)
termination_by u
def zig (n:Int):Int:=IntKind.wrap .u64 ((BitVec.ofInt 64 (IntKind.wrap .u64 (IntKind.wrap .u64 n*2 ^ min (Int.toNat 1) (IntKind.bits .u64))) ^^^ BitVec.ofInt 64 (IntKind.wrap .u64 (Int.fdiv n (2 ^ min (Int.toNat 63) (IntKind.bits .u64))))).toNat:Nat)
def num (n:Int):List UInt8:=grp (zig n).toNat
def txt (s:List UInt8):List UInt8:=num s.length++s
def bol (b:Bool):List UInt8:=[cond b 1 0]
def Code {α:Type} (P:α->Prop) (f:α->List UInt8):Prop:=∀a b x y,P a->P b->f a++x=f b++y->a=b/\x=y
theorem Et {a b:Nat} (ha:a < 256) (hb:b < 256) (h:UInt8.ofNat a=UInt8.ofNat b):a=b:=by
 have:=congrArg UInt8.toNat h
 simp only [UInt8.toNat_ofNat'] at this
 omega
theorem Lq:∀ (n a b:Nat) (x y:List UInt8),a<=n->grp a++x=grp b++y->a=b/\x=y:=by
 intro n
 induction n with
 | zero=>
  intro a b x y ha h
  obtain rfl:a=0:=by omega
  rw [grp.eq_1 0,if_pos (by decide),grp.eq_1 b] at h
  by_cases hb:b < 128
  ·rw [if_pos hb] at h
   simp only [List.cons_append,List.nil_append,List.cons.injEq] at h
   exact ⟨Et (by decide) (by omega) h.1,h.2⟩
  ·rw [if_neg hb] at h
   simp only [List.cons_append,List.nil_append,List.cons.injEq] at h
   have:=Et (by decide) (by omega) h.1
   omega
 | succ n ih=>
  intro a b x y ha h
  rw [grp.eq_1 a,grp.eq_1 b] at h
  by_cases h1:a < 128 <;> by_cases h2:b < 128
  ·rw [if_pos h1,if_pos h2] at h
   simp only [List.cons_append,List.nil_append,List.cons.injEq] at h
   exact ⟨Et (by omega) (by omega) h.1,h.2⟩
  ·rw [if_pos h1,if_neg h2] at h
   simp only [List.cons_append,List.nil_append,List.cons.injEq] at h
   have:=Et (by omega) (by omega) h.1
   omega
  ·rw [if_neg h1,if_pos h2] at h
   simp only [List.cons_append,List.nil_append,List.cons.injEq] at h
   have:=Et (by omega) (by omega) h.1
   omega
  ·rw [if_neg h1,if_neg h2] at h
   simp only [List.cons_append,List.cons.injEq] at h
   have e:=Et (by omega) (by omega) h.1
   obtain ⟨h3,h4⟩:=ih (a / 128) (b / 128) x y (by omega) h.2
   exact ⟨by omega,h4⟩
theorem wrap64 (n:Int):IntKind.wrap .u64 n=n % 18446744073709551616:=by
 simp only [IntKind.wrap,IntKind.bits,IntKind.signed,Bool.false_and,Bool.false_eq_true,if_false]
 rfl
def Rg (n:Int):Prop:=-1152921504606846976<=n/\n<=1152921504606846976
theorem yw {n:Int} (h:Rg n):zig n=if 0<=n then 2*n else -2*n - 1:=by
 obtain ⟨h1,h2⟩:=h
 unfold zig
 have e2:(2:Int) ^ min (Int.toNat 63) (IntKind.bits .u64)=9223372036854775808:=by decide
 have e1:(2:Int) ^ min (Int.toNat 1) (IntKind.bits .u64)=2:=by decide
 rw [e1,e2]
 by_cases h0:0<=n
 ·rw [if_pos h0]
  have f0:Int.fdiv n 9223372036854775808=0:=by rw [Int.fdiv_eq_ediv_of_nonneg _ (by decide)];omega
  have w1:IntKind.wrap .u64 n=n:=by rw [wrap64];omega
  have w2:IntKind.wrap .u64 (n*2)=n*2:=by rw [wrap64];omega
  rw [f0,w1,w2,show IntKind.wrap .u64 0=0 from by decide,show BitVec.ofInt 64 0=0#64 from rfl,BitVec.xor_zero,BitVec.toNat_ofInt]
  rw [wrap64]
  omega
 ·rw [if_neg h0]
  have f0:Int.fdiv n 9223372036854775808 = -1:=by rw [Int.fdiv_eq_ediv_of_nonneg _ (by decide)];omega
  have w1:IntKind.wrap .u64 n=n+18446744073709551616:=by rw [wrap64];omega
  have w2:IntKind.wrap .u64 ((n+18446744073709551616)*2)=2*n+18446744073709551616:=by rw [wrap64];omega
  have w3:BitVec.ofInt 64 (IntKind.wrap .u64 (-1))=BitVec.allOnes 64:=by decide
  rw [f0,w1,w2,w3,BitVec.xor_allOnes,BitVec.toNat_not,BitVec.toNat_ofInt,wrap64]
  omega
theorem cu:Code Rg num:=λa b x y ha hb h=>by
 obtain ⟨h1,h2⟩:=Lq _ _ _ x y (Nat.le_refl _) h
 have e:zig a=zig b:=by
  have za:=yw ha
  have zb:=yw hb
  by_cases p:0<=a <;> by_cases q:0<=b <;> simp only [p,q,if_true,if_false] at za zb <;> omega
 rw [yw ha,yw hb] at e
 refine ⟨?_,h2⟩
 by_cases p:0<=a <;> by_cases q:0<=b <;> simp only [p,q,if_true,if_false] at e <;> omega
theorem vB {n:Nat} (h:n<=1152921504606846976):Rg n:=⟨by omega,by omega⟩
def Sh (b:Nat) (s:List UInt8):Prop:=s.length<=b/\s.length<=1048576
theorem bE {b:Nat}:Code (Sh b) txt:=λa b x y ha hb h=>by
 unfold txt at h
 rw [List.append_assoc,List.append_assoc] at h
 obtain ⟨h1,h2⟩:=cu _ _ _ _ (vB (Nat.le_trans ha.2 (by decide))) (vB (Nat.le_trans hb.2 (by decide))) h
 exact List.append_inj h2 (by omega)
theorem LQ:Code (λ_=>True) bol:=λa b x y _ _ h=>by
 cases a <;> cases b <;> simp [bol] at h ⊢ <;> exact h
section
variable {α β:Type} {P:α->Prop} {Q:β->Prop} {f:α->List UInt8} {g:β->List UInt8}
def yr (f:α->List UInt8):List α->List UInt8
 | []=>[]
 | a::r=>f a++yr f r
theorem Ei (hf:Code P f):∀ (l m:List α) (x y:List UInt8),l.length=m.length->(∀a∈l,P a)->(∀a∈m,P a)->yr f l++x=yr f m++y->l=m/\x=y
 | [],[],x,y,_,_,_,h=>⟨rfl,h⟩
 | [],_::_,_,_,e,_,_,_=>by cases e
 | _::_,[],_,_,e,_,_,_=>by cases e
 | a::l,b::m,x,y,e,hl,hm,h=>by
  unfold yr at h
  rw [List.append_assoc,List.append_assoc] at h
  obtain ⟨h1,h2⟩:=hf _ _ _ _ (hl a (List.mem_cons_self ..)) (hm b (List.mem_cons_self ..)) h
  obtain ⟨h3,h4⟩:=Ei hf l m x y (by simpa using e) (λa ha=>hl a (List.mem_cons_of_mem _ ha)) (λa ha=>hm a (List.mem_cons_of_mem _ ha)) h2
  exact ⟨by rw [h1,h3],h4⟩
def ij (f:α->List UInt8) (l:List α):List UInt8:=num l.length++yr f l
def Ls (n:Nat) (P:α->Prop) (l:List α):Prop:=(l.length<=n/\l.length<=1048576)/\∀a∈l,P a
theorem cU {n:Nat} (hf:Code P f):Code (Ls n P) (ij f):=λl m x y hl hm h=>by
 unfold ij at h
 rw [List.append_assoc,List.append_assoc] at h
 obtain ⟨h1,h2⟩:=cu _ _ _ _ (vB (Nat.le_trans hl.1.2 (by decide))) (vB (Nat.le_trans hm.1.2 (by decide))) h
 exact Ei hf l m x y (by omega) hl.2 hm.2 h2
end
def CF (v:VAL):List UInt8:=num v.kind++(num v.num++(txt v.text++ij txt v.list))
structure VB (v:VAL):Prop where
 kind:Rg v.kind
 num:Rg v.num
 text:Sh 1048576 v.text
 list:Ls 20 (Sh 200) v.list
theorem CD:Code VB CF:=λa b x y ha hb h=>by
 simp only [CF,List.append_assoc] at h
 obtain ⟨e1,h⟩:=cu _ _ _ _ ha.kind hb.kind h
 obtain ⟨e2,h⟩:=cu _ _ _ _ ha.num hb.num h
 obtain ⟨e3,h⟩:=bE _ _ _ _ ha.text hb.text h
 obtain ⟨e4,h⟩:=cU bE _ _ _ _ ha.list hb.list h
 exact ⟨by cases a;cases b;congr 1,h⟩
mutual
def u7:EXP->List UInt8
 | .mk o k n v ks=>num o++(txt k++(txt n++(ij CF v++(num ks.length++u6 ks))))
def u6:List EXP->List UInt8
 | []=>[]
 | e::r=>u7 e++u6 r
end
mutual
def XB:EXP->Prop
 | .mk o k n v ks=>Rg o/\Sh 32 k/\Sh 32 n/\Ls 20 VB v/\ks.length<=12/\XBs ks
def XBs:List EXP->Prop
 | []=>True
 | e::r=>XB e/\XBs r
end
mutual
theorem sH:∀ (a b:EXP) (x y:List UInt8),XB a->XB b->u7 a++x=u7 b++y->a=b/\x=y
 | .mk o k n v ks,.mk o' k' n' v' ks',x,y,ha,hb,h=>by
  simp only [XB] at ha hb
  simp only [u7,List.append_assoc] at h
  obtain ⟨e1,h⟩:=cu _ _ _ _ ha.1 hb.1 h
  obtain ⟨e2,h⟩:=bE _ _ _ _ ha.2.1 hb.2.1 h
  obtain ⟨e3,h⟩:=bE _ _ _ _ ha.2.2.1 hb.2.2.1 h
  obtain ⟨e4,h⟩:=cU CD _ _ _ _ ha.2.2.2.1 hb.2.2.2.1 h
  obtain ⟨e5,h⟩:=cu _ _ _ _ (vB (Nat.le_trans ha.2.2.2.2.1 (by decide))) (vB (Nat.le_trans hb.2.2.2.2.1 (by decide))) h
  obtain ⟨e6,h⟩:=Aa ks ks' x y (by omega) ha.2.2.2.2.2 hb.2.2.2.2.2 h
  exact ⟨by rw [e1,e2,e3,e4,e6],h⟩
theorem Aa:∀ (l m:List EXP) (x y:List UInt8),l.length=m.length->XBs l->XBs m->u6 l++x=u6 m++y->l=m/\x=y
 | [],[],x,y,_,_,_,h=>⟨rfl,h⟩
 | [],_::_,_,_,e,_,_,_=>by cases e
 | _::_,[],_,_,e,_,_,_=>by cases e
 | a::l,b::m,x,y,e,hl,hm,h=>by
  simp only [XBs] at hl hm
  simp only [u6,List.append_assoc] at h
  obtain ⟨e1,h⟩:=sH a b _ _ hl.1 hm.1 h
  obtain ⟨e2,h⟩:=Aa l m x y (by simpa using e) hl.2 hm.2 h
  exact ⟨by rw [e1,e2],h⟩
end
def rgB (r:Int×Int×Int):List UInt8:=num r.1++(num r.2.1++num r.2.2)
def RB (r:Int×Int×Int):Prop:=Rg r.1/\Rg r.2.1/\Rg r.2.2
theorem A3:Code RB rgB:=λa b x y ha hb h=>by
 simp only [rgB,List.append_assoc] at h
 obtain ⟨e1,h⟩:=cu _ _ _ _ ha.1 hb.1 h
 obtain ⟨e2,h⟩:=cu _ _ _ _ ha.2.1 hb.2.1 h
 obtain ⟨e3,h⟩:=cu _ _ _ _ ha.2.2 hb.2.2 h
 exact ⟨Prod.ext e1 (Prod.ext e2 e3),h⟩
def spB (r:Int×Int):List UInt8:=num r.1++num r.2
def PB2 (r:Int×Int):Prop:=Rg r.1/\Rg r.2
theorem Ng:Code PB2 spB:=λa b x y ha hb h=>by
 simp only [spB,List.append_assoc] at h
 obtain ⟨e1,h⟩:=cu _ _ _ _ ha.1 hb.1 h
 obtain ⟨e2,h⟩:=cu _ _ _ _ ha.2 hb.2 h
 exact ⟨Prod.ext e1 e2,h⟩
def svB (v:SERVE):List UInt8:=num v.var++(txt v.kind++(txt v.by'++(txt v.salt++ij rgB v.split)))
structure SB (v:SERVE):Prop where
 var:Rg v.var
 kind:Sh 32 v.kind
 by':Sh 32 v.by'
 salt:Sh 200 v.salt
 split:Ls 16 RB v.split
theorem Gd:Code SB svB:=λa b x y ha hb h=>by
 simp only [svB,List.append_assoc] at h
 obtain ⟨e1,h⟩:=cu _ _ _ _ ha.var hb.var h
 obtain ⟨e2,h⟩:=bE _ _ _ _ ha.kind hb.kind h
 obtain ⟨e3,h⟩:=bE _ _ _ _ ha.by' hb.by' h
 obtain ⟨e4,h⟩:=bE _ _ _ _ ha.salt hb.salt h
 obtain ⟨e5,h⟩:=cU A3 _ _ _ _ ha.split hb.split h
 exact ⟨by cases a;cases b;congr 1,h⟩
def vf (a:ATT):List UInt8:=txt a.1++(txt a.2.1++num a.2.2)
def AB (a:ATT):Prop:=Sh 32 a.1/\Sh 32 a.2.1/\Rg a.2.2
theorem LS:Code AB vf:=λa b x y ha hb h=>by
 simp only [vf,List.append_assoc] at h
 obtain ⟨e1,h⟩:=bE _ _ _ _ ha.1 hb.1 h
 obtain ⟨e2,h⟩:=bE _ _ _ _ ha.2.1 hb.2.1 h
 obtain ⟨e3,h⟩:=cu _ _ _ _ ha.2.2 hb.2.2 h
 exact ⟨Prod.ext e1 (Prod.ext e2 e3),h⟩
def Fz (g:SEG):List UInt8:=txt g.key++(txt g.kind++(ij txt g.incl++(ij txt g.excl++u7 g.when)))
structure GB (g:SEG):Prop where
 key:Sh 32 g.key
 kind:Sh 32 g.kind
 incl:Ls 40 (Sh 200) g.incl
 excl:Ls 40 (Sh 200) g.excl
 when:XB g.when/\g.when.size<=60
theorem J9:Code GB Fz:=λa b x y ha hb h=>by
 simp only [Fz,List.append_assoc] at h
 obtain ⟨e1,h⟩:=bE _ _ _ _ ha.key hb.key h
 obtain ⟨e2,h⟩:=bE _ _ _ _ ha.kind hb.kind h
 obtain ⟨e3,h⟩:=cU bE _ _ _ _ ha.incl hb.incl h
 obtain ⟨e4,h⟩:=cU bE _ _ _ _ ha.excl hb.excl h
 obtain ⟨e5,h⟩:=sH _ _ _ _ ha.when.1 hb.when.1 h
 exact ⟨by cases a;cases b;congr 1,h⟩
def Hr (p:PRQ):List UInt8:=txt p.flag++num p.var
def QRB (p:PRQ):Prop:=Sh 32 p.flag/\Rg p.var
theorem KW:Code QRB Hr:=λa b x y ha hb h=>by
 simp only [Hr,List.append_assoc] at h
 obtain ⟨e1,h⟩:=bE _ _ _ _ ha.1 hb.1 h
 obtain ⟨e2,h⟩:=cu _ _ _ _ ha.2 hb.2 h
 exact ⟨by cases a;cases b;congr 1,h⟩
def F5 (t:TGT):List UInt8:=txt t.kind++(num t.var++ij txt t.keys)
def TB (t:TGT):Prop:=Sh 32 t.kind/\Rg t.var/\Ls 40 (Sh 200) t.keys
theorem JI:Code TB F5:=λa b x y ha hb h=>by
 simp only [F5,List.append_assoc] at h
 obtain ⟨e1,h⟩:=bE _ _ _ _ ha.1 hb.1 h
 obtain ⟨e2,h⟩:=cu _ _ _ _ ha.2.1 hb.2.1 h
 obtain ⟨e3,h⟩:=cU bE _ _ _ _ ha.2.2 hb.2.2 h
 exact ⟨by cases a;cases b;congr 1,h⟩
def GO (r:RULE):List UInt8:=txt r.name++(u7 r.when++svB r.serve)
def UB (r:RULE):Prop:=Sh 32 r.name/\(XB r.when/\r.when.size<=60)/\SB r.serve
theorem Ko:Code UB GO:=λa b x y ha hb h=>by
 simp only [GO,List.append_assoc] at h
 obtain ⟨e1,h⟩:=bE _ _ _ _ ha.1 hb.1 h
 obtain ⟨e2,h⟩:=sH _ _ _ _ ha.2.1.1 hb.2.1.1 h
 obtain ⟨e3,h⟩:=Gd _ _ _ _ ha.2.2 hb.2.2 h
 exact ⟨by cases a;cases b;congr 1,h⟩
def FF (f:FLAG):List UInt8:=txt f.key++(num f.kind++(ij CF f.vars++(bol f.on++(num f.off++(ij Hr f.prqs++(ij F5 f.tgts++(ij GO f.rules++svB f.dflt)))))))
structure FB (f:FLAG):Prop where
 key:Sh 32 f.key
 kind:Rg f.kind
 vars:Ls 8 VB f.vars
 off:Rg f.off
 prqs:Ls 4 QRB f.prqs
 tgts:Ls 8 TB f.tgts
 rules:Ls 12 UB f.rules
 dflt:SB f.dflt
theorem Lw:Code FB FF:=λa b x y ha hb h=>by
 simp only [FF,List.append_assoc] at h
 obtain ⟨e1,h⟩:=bE _ _ _ _ ha.key hb.key h
 obtain ⟨e2,h⟩:=cu _ _ _ _ ha.kind hb.kind h
 obtain ⟨e3,h⟩:=cU CD _ _ _ _ ha.vars hb.vars h
 obtain ⟨e4,h⟩:=LQ _ _ _ _ trivial trivial h
 obtain ⟨e5,h⟩:=cu _ _ _ _ ha.off hb.off h
 obtain ⟨e6,h⟩:=cU KW _ _ _ _ ha.prqs hb.prqs h
 obtain ⟨e7,h⟩:=cU JI _ _ _ _ ha.tgts hb.tgts h
 obtain ⟨e8,h⟩:=cU Ko _ _ _ _ ha.rules hb.rules h
 obtain ⟨e9,h⟩:=Gd _ _ _ _ ha.dflt hb.dflt h
 exact ⟨by cases a;cases b;congr 1,h⟩
def FC (l:LAYER):List UInt8:=txt l.key++(txt l.kind++(txt l.salt++(num l.hold++(num l.cool++ij rgB l.cooling))))
structure LB (l:LAYER):Prop where
 key:Sh 32 l.key
 kind:Sh 32 l.kind
 salt:Sh 200 l.salt
 hold:Rg l.hold
 cool:Rg l.cool
 cooling:Ls 32 RB l.cooling
theorem Le:Code LB FC:=λa b x y ha hb h=>by
 simp only [FC,List.append_assoc] at h
 obtain ⟨e1,h⟩:=bE _ _ _ _ ha.key hb.key h
 obtain ⟨e2,h⟩:=bE _ _ _ _ ha.kind hb.kind h
 obtain ⟨e3,h⟩:=bE _ _ _ _ ha.salt hb.salt h
 obtain ⟨e4,h⟩:=cu _ _ _ _ ha.hold hb.hold h
 obtain ⟨e5,h⟩:=cu _ _ _ _ ha.cool hb.cool h
 obtain ⟨e6,h⟩:=cU A3 _ _ _ _ ha.cooling hb.cooling h
 exact ⟨by cases a;cases b;congr 1,h⟩
def Fx (x:EXPT):List UInt8:=txt x.key++(txt x.layer++(txt x.flag++(txt x.salt++(num x.status++(ij spB x.claims++(ij rgB x.arms++u7 x.when))))))
structure PX (x:EXPT):Prop where
 key:Sh 32 x.key
 layer:Sh 32 x.layer
 flag:Sh 32 x.flag
 salt:Sh 200 x.salt
 status:Rg x.status
 claims:Ls 16 PB2 x.claims
 arms:Ls 16 RB x.arms
 when:XB x.when/\x.when.size<=60
theorem Jx:Code PX Fx:=λa b x y ha hb h=>by
 simp only [Fx,List.append_assoc] at h
 obtain ⟨e1,h⟩:=bE _ _ _ _ ha.key hb.key h
 obtain ⟨e2,h⟩:=bE _ _ _ _ ha.layer hb.layer h
 obtain ⟨e3,h⟩:=bE _ _ _ _ ha.flag hb.flag h
 obtain ⟨e4,h⟩:=bE _ _ _ _ ha.salt hb.salt h
 obtain ⟨e5,h⟩:=cu _ _ _ _ ha.status hb.status h
 obtain ⟨e6,h⟩:=cU Ng _ _ _ _ ha.claims hb.claims h
 obtain ⟨e7,h⟩:=cU A3 _ _ _ _ ha.arms hb.arms h
 obtain ⟨e8,h⟩:=sH _ _ _ _ ha.when.1 hb.when.1 h
 exact ⟨by cases a;cases b;congr 1,h⟩
def yq (e:ENV):List UInt8:=txt e.salt++(txt e.hkind++(num e.hold++(ij vf e.attrs++(ij Fz e.segs++(ij FF e.flags++(ij FC e.layers++ij Fx e.expts))))))
structure EB (e:ENV):Prop where
 salt:Sh 200 e.salt
 hkind:Sh 32 e.hkind
 hold:Rg e.hold
 attrs:Ls 30 AB e.attrs
 segs:Ls 20 GB e.segs
 flags:Ls 30 FB e.flags
 layers:Ls 6 LB e.layers
 expts:Ls 16 PX e.expts
theorem LG:Code EB yq:=λa b x y ha hb h=>by
 simp only [yq,List.append_assoc] at h
 obtain ⟨e1,h⟩:=bE _ _ _ _ ha.salt hb.salt h
 obtain ⟨e2,h⟩:=bE _ _ _ _ ha.hkind hb.hkind h
 obtain ⟨e3,h⟩:=cu _ _ _ _ ha.hold hb.hold h
 obtain ⟨e4,h⟩:=cU LS _ _ _ _ ha.attrs hb.attrs h
 obtain ⟨e5,h⟩:=cU J9 _ _ _ _ ha.segs hb.segs h
 obtain ⟨e6,h⟩:=cU Lw _ _ _ _ ha.flags hb.flags h
 obtain ⟨e7,h⟩:=cU Le _ _ _ _ ha.layers hb.layers h
 obtain ⟨e8,h⟩:=cU Jx _ _ _ _ ha.expts hb.expts h
 exact ⟨by cases a;cases b;congr 1,h⟩
theorem Ad {a b:ENV} (ha:EB a) (hb:EB b):yq a=yq b↔a=b:=
 ⟨λh=>(LG a b [] [] ha hb (by rw [h])).1,λh=>by rw [h]⟩
theorem H6:∀ (k u:Nat),u < 128 ^ (k+1)->(grp u).length<=k+1
 | 0,u,h=>by rw [grp.eq_1,if_pos (by simpa using h)];exact Nat.le_refl _
 | k+1,u,h=>by
  rw [grp.eq_1]
  by_cases hu:u < 128
  ·rw [if_pos hu];simp
  ·rw [if_neg hu,List.length_cons]
   have:=H6 k (u / 128) (by rw [Nat.pow_succ] at h;omega)
   omega
theorem L2 (n:Int):0<=zig n/\zig n < 18446744073709551616:=by
 unfold zig
 rw [wrap64]
 omega
theorem cN (n:Int):(num n).length<=10:=by
 obtain ⟨h1,h2⟩:=L2 n
 exact H6 9 _ (by omega)
theorem cE {b:Nat} {s:List UInt8} (h:Sh b s):(txt s).length<=10+b:=by
 unfold txt
 rw [List.length_append]
 have:=cN s.length
 have:=h.1
 omega
theorem I0 {α:Type} {f:α->List UInt8} {c:Nat}:∀ (l:List α),(∀a∈l,(f a).length<=c)->(yr f l).length<=l.length*c
 | [],_=>Nat.zero_le _
 | a::r,h=>by
  unfold yr
  rw [List.length_append,List.length_cons,Nat.succ_mul]
  have h1:=h a (List.mem_cons_self ..)
  have h2:=I0 r λb hb=>h b (List.mem_cons_of_mem _ hb)
  omega
theorem eG {α:Type} {P:α->Prop} {f:α->List UInt8} {n:Nat} (c:Nat) (hf:∀a,P a->(f a).length<=c) {l:List α} (hl:Ls n P l):(ij f l).length<=10+n*c:=by
 unfold ij
 rw [List.length_append]
 have h1:=cN l.length
 have h2:=I0 l λa ha=>hf a (hl.2 a ha)
 have h3:=Nat.mul_le_mul_right c hl.1.1
 omega
theorem FU {v:VAL} (h:VB v):(CF v).length<=1053000:=by
 simp only [CF,List.length_append]
 have h1:=cN v.kind
 have h2:=cN v.num
 have h3:=cE h.text
 have h4:=eG (f:=txt) 210 (λs hs=>cE hs) h.list
 omega
mutual
theorem Im:∀ (e:EXP),XB e->(u7 e).length<=e.size*21100000
 | .mk o k n v ks,h=>by
  simp only [XB] at h
  simp only [u7,List.length_append,EXP.size]
  have h1:=cN o
  have h2:=cE h.2.1
  have h3:=cE h.2.2.1
  have h4:=eG (f:=CF) 1053000 (λv hv=>FU hv) h.2.2.2.1
  have h5:=cN ks.length
  have h6:=DU ks h.2.2.2.2.2
  rw [Nat.add_mul]
  omega
theorem DU:∀ (l:List EXP),XBs l->(u6 l).length<=cG l*21100000
 | [],_=>Nat.zero_le _
 | e::r,h=>by
  simp only [XBs] at h
  simp only [u6,List.length_append,cG]
  have h1:=Im e h.1
  have h2:=DU r h.2
  rw [Nat.add_mul]
  omega
end
theorem wC {e:EXP} (h:XB e/\e.size<=60):(u7 e).length<=1266000000:=by
 have h1:=Im e h.1
 have h2:=Nat.mul_le_mul_right 21100000 h.2
 omega
theorem G6 (r:Int×Int×Int):(rgB r).length<=30:=by
 simp only [rgB,List.length_append]
 have h1:=cN r.1
 have h2:=cN r.2.1
 have h3:=cN r.2.2
 omega
theorem P4 (r:Int×Int):(spB r).length<=20:=by
 simp only [spB,List.length_append]
 have h1:=cN r.1
 have h2:=cN r.2
 omega
theorem L4 {v:SERVE} (h:SB v):(svB v).length<=1000:=by
 simp only [svB,List.length_append]
 have h1:=cN v.var
 have h2:=cE h.kind
 have h3:=cE h.by'
 have h4:=cE h.salt
 have h5:=eG (f:=rgB) 30 (λr _=>G6 r) h.split
 omega
theorem Po {a:ATT} (h:AB a):(vf a).length<=100:=by
 simp only [vf,List.length_append]
 have h1:=cE h.1
 have h2:=cE h.2.1
 have h3:=cN a.2.2
 omega
theorem xG {n:Nat} {l:List (List UInt8)} (h:Ls n (Sh 200) l):(ij txt l).length<=10+n*210:=eG (f:=txt) 210 (λs hs=>cE hs) h
theorem Ns {g:SEG} (h:GB g):(Fz g).length<=1266020000:=by
 simp only [Fz,List.length_append]
 have h1:=cE h.key
 have h2:=cE h.kind
 have h3:=xG h.incl
 have h4:=xG h.excl
 have h5:=wC h.when
 omega
theorem NS {p:PRQ} (h:QRB p):(Hr p).length<=60:=by
 simp only [Hr,List.length_append]
 have h1:=cE h.1
 have h2:=cN p.var
 omega
theorem M4 {t:TGT} (h:TB t):(F5 t).length<=8500:=by
 simp only [F5,List.length_append]
 have h1:=cE h.1
 have h2:=cN t.var
 have h3:=xG h.2.2
 omega
theorem Ny {r:RULE} (h:UB r):(GO r).length<=1266002000:=by
 simp only [GO,List.length_append]
 have h1:=cE h.1
 have h2:=wC h.2.1
 have h3:=L4 h.2.2
 omega
theorem OJ {f:FLAG} (h:FB f):(FF f).length<=15201000000:=by
 simp only [FF,List.length_append]
 have h1:=cE h.key
 have h2:=cN f.kind
 have h3:=eG (f:=CF) 1053000 (λv hv=>FU hv) h.vars
 have h4:(bol f.on).length=1:=rfl
 have h5:=cN f.off
 have h6:=eG (f:=Hr) 60 (λp hp=>NS hp) h.prqs
 have h7:=eG (f:=F5) 8500 (λt ht=>M4 ht) h.tgts
 have h8:=eG (f:=GO) 1266002000 (λr hr=>Ny hr) h.rules
 have h9:=L4 h.dflt
 omega
theorem Oh {l:LAYER} (h:LB l):(FC l).length<=2000:=by
 simp only [FC,List.length_append]
 have h1:=cE h.key
 have h2:=cE h.kind
 have h3:=cE h.salt
 have h4:=cN l.hold
 have h5:=cN l.cool
 have h6:=eG (f:=rgB) 30 (λr _=>G6 r) h.cooling
 omega
theorem MY {x:EXPT} (h:PX x):(Fx x).length<=1266003000:=by
 simp only [Fx,List.length_append]
 have h1:=cE h.key
 have h2:=cE h.layer
 have h3:=cE h.flag
 have h4:=cE h.salt
 have h5:=cN x.status
 have h6:=eG (f:=spB) 20 (λr _=>P4 r) h.claims
 have h7:=eG (f:=rgB) 30 (λr _=>G6 r) h.arms
 have h8:=wC h.when
 omega
theorem OX {e:ENV} (h:EB e):(yq e).length<=1000000000000:=by
 simp only [yq,List.length_append]
 have h1:=cE h.salt
 have h2:=cE h.hkind
 have h3:=cN e.hold
 have h4:=eG (f:=vf) 100 (λa ha=>Po ha) h.attrs
 have h5:=eG (f:=Fz) 1266020000 (λg hg=>Ns hg) h.segs
 have h6:=eG (f:=FF) 15201000000 (λf hf=>OJ hf) h.flags
 have h7:=eG (f:=FC) 2000 (λl hl=>Oh hl) h.layers
 have h8:=eG (f:=Fx) 1266003000 (λx hx=>MY hx) h.expts
 omega
open Go.SM (ENV ATT iG om ja bw cb iD dJ)
theorem K6:∀t:Int,(none:Option Int)=some t->t≠0:=λ_ h=>by cases h
theorem Az {c:Bool} {k:Int} {r:Option Int} (hr:∀t,r=some t->t≠0) (hk:k≠0:=by decide):∀t,(bif c then some k else r)=some t->t≠0:=λt h=>by
 cases c with
 | true=>rw [<-Option.some.inj h];exact hk
 | false=>exact hr t h
theorem QW {e:Int} {r:Option Int} (hr:∀t,r=some t->t≠0):∀t,(bif e !=0 then some e else r)=some t->t≠0:=λt h=>by
 cases hz:(e !=0) with
 | true=>
  rw [hz] at h
  rw [<-Option.some.inj h];simpa using hz
 | false=>rw [hz] at h;exact hr t h
theorem Dx {τ:Type} {c:Bool} {k:τ} {r:Option τ} (h:(bif c then some k else r)=none):c=false/\r=none:=by
 cases c with
 | true=>cases h
 | false=>exact ⟨rfl,h⟩
theorem Q1 {e:Int} {r:Option Int} (h:(bif e !=0 then some e else r)=none):e=0/\r=none:=by
 obtain ⟨h1,h2⟩:=Dx h
 exact ⟨by simpa using h1,h2⟩
theorem kD {n:Nat} {stop:Nat->Option Int} {X:Int} (hp:∀i t,stop i=some t->t≠0) (h:(bif (bp n (·+1) stop 0).1 then (bp n (·+1) stop 0).2 else X)=0):(∀j,j < n->stop j=none)/\X=0:=by
 cases hb:(bp n (·+1) stop 0).1 with
 | true=>
  have:=mF (P:=λt=>t≠0) (λi t _ ht=>hp i t ht) 0 hb
  rw [hb] at h
  exact absurd h this
 | false=>
  rw [hb] at h
  exact ⟨λj hj=>om 0 hb j (Nat.zero_le _) hj,h⟩
theorem dj {a b:Bool} (h:(a||b)=false):a=false/\b=false:=Bool.or_eq_false_iff.1 h
theorem fJ {s:List UInt8} (h:(!ea s)=false):Sh 32 s:=⟨ja h,Nat.le_trans (ja h) (by decide)⟩
theorem mB {s:List UInt8} (h:(!df s)=false):Sh 200 s:=by
 unfold df at h
 simp only [Bool.not_eq_false',Bool.and_eq_true,decide_eq_true_eq] at h
 exact ⟨h.1,Nat.le_trans h.1 (by decide)⟩
theorem qM {b:Nat} {s:List UInt8} (h:(s==[])=true):Sh b s:=by
 rw [show s=[] by simpa using h];exact ⟨Nat.zero_le _,Nat.zero_le _⟩
theorem oC {α:Type} [Inhabited α] {P:α->Prop} {n:Nat} {l:List α} (hn:n<=1048576) (h:l.length<=n) (hp:∀j,j < l.length->P (l.getD j default)):Ls n P l:=⟨⟨h,Nat.le_trans h hn⟩,SM.sB hp⟩
theorem zG {α:Type} {P:α->Prop} {n:Nat} {l:List α} (h:l.length=0):Ls n P l:=by
 rw [List.length_eq_zero_iff.1 h];exact ⟨⟨Nat.zero_le _,Nat.zero_le _⟩,λa ha=>(List.not_mem_nil ha).elim⟩
theorem rg_of {n:Int} {a b:Int} (h1:decide (n < a)=false) (h2:decide (n > b)=false) (ha : -1152921504606846976<=a:=by decide) (hb:b<=1152921504606846976:=by decide):Rg n:=by
 have h1:=of_decide_eq_false h1
 have h2:=of_decide_eq_false h2
 exact ⟨by omega,by omega⟩
theorem TH {l:List (List UInt8)} (h:SH.bR l=0):Ls 20 (Sh 200) l:=by
 unfold SH.bR at h
 obtain ⟨h1,h⟩:=cb (by decide) h
 obtain ⟨h2,_⟩:=cb (by decide) h
 exact oC (by decide) (dJ h1) λj hj=>mB (Dx (om 0 h2 j (Nat.zero_le _) hj)).1
theorem PR {v:VAL} (ok:v.Ok) (h:cy v=0):VB v:=by
 unfold cy at h
 obtain ⟨h1,h⟩:=cb (by decide) h
 obtain ⟨h2,h⟩:=cb (by decide) h
 obtain ⟨k1,k2⟩:=dj h1
 have tx:Sh 1048576 v.text:=⟨ok.1,ok.1⟩
 have hs:jl v=true:=by simpa using h2
 unfold jl at hs
 by_cases a1:v.kind=1
 ·rw [a1] at h hs
  have hs:(v.text==[]&&v.list.length==0)=true:=hs
  simp only [Bool.and_eq_true,beq_iff_eq] at hs
  have h:(bif v.num !=0&&v.num !=1 then (3:Int) else 0)=0:=h
  have:=(cb (by decide) h).1
  simp only [Bool.and_eq_false_iff,bne_eq_false_iff_eq] at this
  exact ⟨rg_of k1 k2,⟨by omega,by omega⟩,tx,zG hs.2⟩
 by_cases a2:v.kind=2
 ·rw [a2] at h hs
  have hs:(v.text==[]&&v.list.length==0)=true:=hs
  simp only [Bool.and_eq_true,beq_iff_eq] at hs
  have h:(bif decide (v.num < -1099511627776)||decide (v.num > 1099511627776) then (3:Int) else 0)=0:=h
  have:=dj (cb (by decide) h).1
  exact ⟨rg_of k1 k2,rg_of this.1 this.2,tx,zG hs.2⟩
 have n0:v.num=0:=by
  rw [decide_eq_false (show ¬ v.kind<=2 by have:=of_decide_eq_false k1;omega)] at hs
  cases h4:decide (v.kind<=4) with
  | true=>rw [h4] at hs;simp only [cond_true,cond_false,Bool.and_eq_true,beq_iff_eq] at hs;exact hs.1
  | false=>rw [h4] at hs;simp only [cond_false,Bool.and_eq_true,beq_iff_eq] at hs;exact hs.1
 refine ⟨rg_of k1 k2,by rw [n0];exact ⟨by decide,by decide⟩,tx,?_⟩
 by_cases a5:v.kind=5
 ·rw [a5] at h;exact TH h
 ·rw [decide_eq_false (show ¬ v.kind<=2 by have:=of_decide_eq_false k1;omega),decide_eq_true (show v.kind<=4 by have:=of_decide_eq_false k2;omega)] at hs
  simp only [cond_true,cond_false,Bool.and_eq_true,beq_iff_eq] at hs
  exact zG hs.2
theorem FQ {n:Nat} {l:List VAL} (hn:n<=1048576) (hl:l.length<=n) (ok:∀v∈l,v.Ok) (h:∀j,j < l.length->cy (l.getD j default)=0):Ls n VB l:=
 oC hn hl λj hj=>PR (ok _ (by rw [List.getD_eq_getElem?_getD,List.getElem?_eq_getElem hj];exact List.getElem_mem hj)) (h j hj)
structure PTW (p:PART):Prop where
 op:Rg p.op
 kind:Sh 32 p.kind
 name:Sh 32 p.name
 vals:Ls 20 VB p.vals
 n:p.n<=12
theorem NY {p:PART} (ok:∀v∈p.vals,v.Ok) (h:jZ p=0):PTW p:=by
 unfold jZ at h
 obtain ⟨h1,h⟩:=cb (by decide) h
 obtain ⟨h2,h⟩:=cb (by decide) h
 obtain ⟨h3,h⟩:=cb (by decide) h
 have h:=(cb (by decide) h).2
 obtain ⟨h4,h⟩:=cb (by decide) h
 obtain ⟨h5,_⟩:=kD (λi=>QW K6) h
 have hc:countB p=true:=by simpa using h2
 unfold countB at hc
 simp only [Bool.and_eq_true] at hc
 have hc:=hc.2.1
 obtain ⟨g1,g2⟩:=dj h4
 refine ⟨rg_of (dj h1).1 (dj h1).2,?_,?_,FQ (by decide) (dJ (dj h3).2) ok λj hj=>(Q1 (h5 j hj)).1,dJ (dj h3).1⟩
 ·cases ht:ee p.op with
  | true=>rw [ht] at g1;exact fJ g1
  | false=>
   rw [ht] at hc
   simp only [Bool.false_or,Bool.and_eq_true] at hc
   exact qM hc.1
 ·cases ht:ee p.op with
  | true=>rw [ht] at g2;exact fJ g2
  | false=>
   rw [ht] at hc g2
   simp only [Bool.false_or,Bool.and_eq_true] at hc g2
   cases h5:(p.op==5) with
   | true=>rw [h5] at g2;exact fJ g2
   | false=>
    rw [h5,Bool.or_false] at hc
    exact qM hc.2
mutual
theorem FK:∀ (e:EXP) (d n:Nat),e.Ok->(gS e d n).1=0->XB e
 | .mk o k nm v ks,d,n,ok,h=>by
  rw [gS] at h
  cases hn:decide (n≥60) with
  | true=>rw [hn] at h;exact absurd (show (5:Int)=0 from h) (by decide)
  | false=>
   rw [hn,cond_false] at h
   cases hl:(fH (.mk o k nm v ks) d !=0) with
   | true=>
    rw [hl] at h
    have h:fH (.mk o k nm v ks) d=0:=h
    rw [h] at hl;cases hl
   | false=>
    rw [hl,cond_false] at h
    have hl:fH (.mk o k nm v ks) d=0:=by simpa using hl
    unfold fH at hl
    have hp:=NY (p:=(EXP.mk o k nm v ks).part) (by cases ok with | mk _ _ _ h3 _ _=>exact h3.2) (cb (by decide) hl).2
    have okk:∀k∈ks,k.Ok:=by cases ok with | mk _ _ _ _ _ h5=>exact h5
    simp only [XB]
    exact ⟨hp.op,hp.kind,hp.name,hp.vals,hp.n,Cw ks (d+1) (n+1) okk h⟩
theorem Cw:∀ (l:List EXP) (d n:Nat),(∀k∈l,k.Ok)->(jN l d n).1=0->XBs l
 | [],d,n,ok,h=>by simp only [XBs]
 | e::r,d,n,ok,h=>by
  rw [jN] at h
  cases hz:((gS e d n).1 !=0) with
  | true=>
   rw [hz] at h
   have h:(gS e d n).1=0:=h
   rw [h] at hz;cases hz
  | false=>
   rw [hz,cond_false] at h
   simp only [XBs]
   exact ⟨FK e d n (ok e (List.mem_cons_self ..)) (by simpa using hz),Cw r d _ (λk hk=>ok k (List.mem_cons_of_mem _ hk)) h⟩
end
theorem Il {e:EXP} (ok:e.Ok) (h:gq e=0):XB e/\e.size<=60:=⟨FK e 0 0 ok h,(SM.xQ h).2⟩
theorem Od {e:EXP} (h:kS e=true):XB e/\e.size<=60:=by
 refine ⟨?_,(SM.HA h).2⟩
 obtain ⟨o,k,n,v,ks⟩:=e
 unfold kS at h
 simp only [Bool.and_eq_true,beq_iff_eq] at h
 obtain ⟨h1,h2,h3,h4,h5⟩:=h
 have hk:ks=[]:=List.length_eq_zero_iff.1 h5
 subst hk
 simp only [XB,XBs]
 exact ⟨by rw [show o=0 from h1];exact ⟨by decide,by decide⟩,qM (by rw [show k=[] from h2];rfl),qM (by rw [show n=[] from h3];rfl),zG h4,Nat.zero_le _,trivial⟩
theorem HH {l:List (List UInt8)} (h:Br l=0):Ls 40 (Sh 200) l:=by
 unfold Br at h
 obtain ⟨h1,h⟩:=cb (by decide) h
 obtain ⟨h2,_⟩:=kD (λi=>Az (Az K6)) h
 exact oC (by decide) (dJ h1) λj hj=>mB (dj (Dx (h2 j hj)).1).2
theorem CU {l:List (Int×Int×Int)} {n:Nat} (hn:n<=1000) (h:eI l n=0):Ls 16 RB l:=by
 unfold eI at h
 obtain ⟨h1,h⟩:=cb (by decide) h
 obtain ⟨h2,h⟩:=kD (λi=>Az (Az K6)) h
 have he:(eF l l.length).2.1=10000:=by simpa using (cb (by decide) h).1
 have st:∀j,j < l.length->(1<=(l.getD j (0,0,0)).2.2/\(l.getD j (0,0,0)).2.2<=n)/\(l.getD j (0,0,0)).1=(eF l j).2.1/\(l.getD j (0,0,0)).1 < (l.getD j (0,0,0)).2.1:=λj hj=>by
  obtain ⟨c1,c2⟩:=Dx (h2 j hj)
  obtain ⟨c1,c3⟩:=dj c1
  obtain ⟨c4,c5⟩:=dj (Dx c2).1
  have c1:=of_decide_eq_false c1
  have c3:=of_decide_eq_false c3
  have c6:=of_decide_eq_false (dj c5).1
  exact ⟨⟨by omega,by omega⟩,by simpa using c4,by omega⟩
 have up:∀j,j<=l.length->0<=(eF l j).2.1:=λj=>by
  induction j with
  | zero=>intro _;exact Int.le_refl _
  | succ j ih=>
   intro hj
   rw [jY]
   have:=st j (by omega)
   have:=ih (by omega)
   omega
 have dn:∀d j,j+d=l.length->(eF l j).2.1<=10000:=λd=>by
  induction d with
  | zero=>intro j hj;rw [show j=l.length by omega,he];exact Int.le_refl _
  | succ d ih=>
   intro j hj
   have:=ih (j+1) (by omega)
   rw [jY] at this
   have:=st j (by omega)
   omega
 refine oC (by decide) (dJ h1) λj hj=>?_
 have s:=st j hj
 have u1:=up j (by omega)
 have d1:=dn (l.length - (j+1)) (j+1) (by omega)
 rw [jY] at d1
 show RB (l.getD j (0,0,0))
 exact ⟨⟨by omega,by omega⟩,⟨by omega,by omega⟩,⟨by omega,by omega⟩⟩
theorem JV {l:List (Int×Int)} (h:nh l=0):Ls 16 PB2 l:=by
 unfold nh at h
 obtain ⟨h1,h⟩:=cb (by decide) h
 obtain ⟨h2,_⟩:=kD (λi=>Az (Az K6)) h
 refine oC (by decide) (dJ h1) λj hj=>?_
 obtain ⟨c1,c2⟩:=dj (Dx (h2 j hj)).1
 have c1:=of_decide_eq_false c1
 have c3:=of_decide_eq_false (dj c2).1
 have c4:=of_decide_eq_false (dj c2).2
 show PB2 (l.getD j (0,0))
 exact ⟨⟨by omega,by omega⟩,⟨by omega,by omega⟩⟩
theorem C4 {v:SERVE} {n:Nat} (hn:n<=1000) (h:cB v n=0):SB v:=by
 unfold cB at h
 cases hv:(v.var !=0) with
 | true=>
  rw [hv] at h
  obtain ⟨h1,h⟩:=cb (by decide) (show (bif decide (v.var < 1)||decide (v.var > (n:Int)) then (3:Int) else _)=0 from h)
  have h2:=(cb (by decide) h).1
  obtain ⟨k1,h2⟩:=dj h2
  obtain ⟨k2,h2⟩:=dj h2
  obtain ⟨k3,k4⟩:=dj h2
  have c1:=of_decide_eq_false (dj h1).1
  have c2:=of_decide_eq_false (dj h1).2
  exact ⟨⟨by omega,by omega⟩,qM (by simpa using k1),qM (by simpa using k2),qM (by simpa using k3),zG (by have:=of_decide_eq_false k4;omega)⟩
 | false=>
  rw [hv] at h
  obtain ⟨h1,h⟩:=cb (by decide) (show (bif !ea v.kind||!ea v.by' then (6:Int) else _)=0 from h)
  obtain ⟨h2,h⟩:=cb (by decide) h
  exact ⟨by rw [show v.var=0 by simpa using hv];exact ⟨by decide,by decide⟩,fJ (dj h1).1,fJ (dj h1).2,mB h2,CU hn h⟩
theorem M0 {e:EXP} (ok:e.Ok) (h:(bif kS e then 0 else gq e)=0):XB e/\e.size<=60:=by
 cases hb:kS e with
 | true=>exact Od hb
 | false=>rw [hb] at h;exact Il ok h
theorem Qi {g:SEG} (ok:g.Ok) (h:Fy g=0):GB g:=by
 unfold Fy at h
 obtain ⟨h1,h⟩:=cb (by decide) h
 obtain ⟨h2,h⟩:=bw h
 obtain ⟨h3,h⟩:=bw h
 exact ⟨fJ (dj h1).1,fJ (dj h1).2,HH h2,HH h3,M0 ok.2.2.2.2 h⟩
theorem kV {α:Type} [Inhabited α] {l:List α} {j:Nat} (h:j < l.length):l.getD j default∈l:=by rw [List.getD_eq_getElem?_getD,List.getElem?_eq_getElem h];exact List.getElem_mem h
theorem OL {f:FLAG} (ok:f.Ok) (h:nU f=0):FB f:=by
 unfold nU at h
 obtain ⟨h1,h⟩:=cb (by decide) h
 obtain ⟨h2,h⟩:=cb (by decide) h
 obtain ⟨h3,h⟩:=bw h
 obtain ⟨h4,h⟩:=bw h
 obtain ⟨h5,h⟩:=bw h
 obtain ⟨h6,h⟩:=bw h
 unfold FP at h3
 obtain ⟨v1,h3⟩:=cb (by decide) h3
 have h3:=(cb (by decide) h3).2
 obtain ⟨v2,h3⟩:=kD (λi=>QW (Az K6)) h3
 have v3:=(cb (by decide) h3).1
 have v8:=dJ v1
 have c1:=of_decide_eq_false (dj v3).1
 have c2:=of_decide_eq_false (dj v3).2
 have hv:f.vars.length<=1000:=Nat.le_trans v8 (by decide)
 unfold Hq at h4
 obtain ⟨p1,h4⟩:=cb (by decide) h4
 obtain ⟨p2,_⟩:=kD (λi=>Az (Az (Az K6))) h4
 unfold Jn at h5
 obtain ⟨t1,h5⟩:=cb (by decide) h5
 obtain ⟨t2,_⟩:=kD (λi=>Az (Az (QW K6))) h5
 unfold GN at h6
 obtain ⟨r1,h6⟩:=cb (by decide) h6
 obtain ⟨r2,_⟩:=kD (λi=>Az (Az (QW (QW K6)))) h6
 refine ⟨fJ h1,rg_of (dj h2).1 (dj h2).2,FQ (by decide) v8 ok.2.1.2 λj hj=>(Q1 (v2 j hj)).1,⟨by omega,by omega⟩,oC (by decide) (dJ p1) λj hj=>?_,oC (by decide) (dJ t1) λj hj=>?_,oC (by decide) (dJ r1) λj hj=>?_,C4 hv h⟩
 ·obtain ⟨a1,a2⟩:=Dx (p2 j hj)
  have a3:=dj (Dx (Dx a2).2).1
  exact ⟨fJ a1,rg_of a3.1 a3.2⟩
 ·obtain ⟨a1,a2⟩:=Dx (t2 j hj)
  obtain ⟨a3,a4⟩:=Dx a2
  have b1:=of_decide_eq_false (dj a3).1
  have b2:=of_decide_eq_false (dj (dj a3).2).1
  exact ⟨fJ a1,⟨by omega,by omega⟩,HH (Q1 a4).1⟩
 ·obtain ⟨a1,a2⟩:=Dx (r2 j hj)
  obtain ⟨_,a2⟩:=Dx a2
  obtain ⟨a3,a4⟩:=Q1 a2
  exact ⟨fJ a1,Il (ok.2.2.2.2.1.2 _ (kV hj)).2.1 a3,C4 hv (Q1 a4).1⟩
theorem Lk {l:LAYER} (h:jt l=0):LB l:=by
 unfold jt at h
 obtain ⟨h1,h⟩:=cb (by decide) h
 obtain ⟨h2,h⟩:=cb (by decide) h
 obtain ⟨h3,h⟩:=cb (by decide) h
 obtain ⟨h4,h⟩:=cb (by decide) h
 obtain ⟨h5,_⟩:=kD (λi=>Az (Az K6)) h
 obtain ⟨a1,h3⟩:=dj h3
 obtain ⟨a2,h3⟩:=dj h3
 refine ⟨fJ (dj h1).1,fJ (dj h1).2,mB h2,rg_of a1 a2,rg_of (dj h3).1 (dj h3).2,oC (by decide) (dJ h4) λj hj=>?_⟩
 have hb:=(Dx (h5 j hj)).1
 unfold lG at hb
 cases hd:(decide (0<=(l.cooling.getD j (0,0,0)).1)&&(decide ((l.cooling.getD j (0,0,0)).1 < (l.cooling.getD j (0,0,0)).2.1)&&decide ((l.cooling.getD j (0,0,0)).2.1<=10000))) with
 | false=>rw [hd] at hb;cases hb
 | true=>
  rw [hd] at hb
  simp only [Bool.and_eq_true,decide_eq_true_eq] at hd
  cases hc:decide ((l.cooling.getD j (0,0,0)).2.2 < 0) with
  | true=>rw [hc] at hb;cases hb
  | false=>
   rw [hc] at hb
   show RB (l.cooling.getD j (0,0,0))
   exact ⟨⟨by omega,by omega⟩,⟨by omega,by omega⟩,rg_of hc hb⟩
theorem OQ {x:EXPT} (ok:x.Ok) (h:pX x=0):PX x:=by
 unfold pX at h
 obtain ⟨h1,h⟩:=cb (by decide) h
 obtain ⟨h2,h⟩:=cb (by decide) h
 obtain ⟨h3,h⟩:=cb (by decide) h
 obtain ⟨h4,h⟩:=bw h
 obtain ⟨h5,h⟩:=bw h
 obtain ⟨a1,h1⟩:=dj h1
 exact ⟨fJ a1,fJ (dj h1).1,fJ (dj h1).2,mB h2,rg_of (dj h3).1 (dj h3).2,JV h4,CU (n:=8) (by decide) h5,Il ok.2.2.2.2.2.2 h⟩
theorem DW {e:ENV} (ok:e.Ok) (h:iG e=0):EB e:=by
 unfold iG at h
 obtain ⟨h1,h⟩:=bw h
 obtain ⟨h2,h⟩:=bw h
 obtain ⟨h3,h⟩:=bw h
 obtain ⟨h4,h⟩:=bw h
 obtain ⟨h5,h6⟩:=bw h
 unfold SM.rA at h1
 obtain ⟨s1,h1⟩:=cb (by decide) h1
 obtain ⟨s2,h1⟩:=cb (by decide) h1
 have s3:=(cb (by decide) h1).1
 have l2:=iD (most:=30) h2
 have l3:=iD (most:=20) h3
 have l4:=iD (most:=30) h4
 have l5:=iD (most:=6) h5
 have l6:=iD (most:=16) h6
 have hk:Sh 32 e.hkind:=by
  cases hk:ea e.hkind with
  | true=>exact fJ (by rw [hk];rfl)
  | false=>
   rw [hk] at s3
   cases hn:e.hkind==[] with
   | true=>exact qM hn
   | false=>rw [hn] at s3;cases s3
 have hh:Rg e.hold:=by
  cases hn:decide (e.hold < 0) with
  | true=>rw [hn] at s2;cases s2
  | false=>rw [hn] at s2;exact rg_of hn s2
 refine ⟨mB s1,hk,hh,oC (by decide) l2.1 λj hj=>?_,oC (by decide) l3.1 λj hj=>Qi (ok.segs.2 _ (kV hj)) (l3.2 j hj),oC (by decide) l4.1 λj hj=>OL (ok.flags.2 _ (kV hj)) (l4.2 j hj),oC (by decide) l5.1 λj hj=>Lk (l5.2 j hj),oC (by decide) l6.1 λj hj=>OQ (ok.expts.2 _ (kV hj)) (l6.2 j hj)⟩
 have ha:=l2.2 j hj
 unfold SM.En at ha
 obtain ⟨a1,ha⟩:=cb (by decide) ha
 have a4:=(cb (by decide) ha).1
 show AB (e.attrs.getD j ([],[],0))
 cases k1:!ea (e.attrs.getD j ([],[],0)).1 with
 | true=>rw [k1] at a1;cases a1
 | false=>
  rw [k1] at a1
  cases k2:!ea (e.attrs.getD j ([],[],0)).2.1 with
  | true=>rw [k2] at a1;cases a1
  | false=>
   cases k3:decide ((e.attrs.getD j ([],[],0)).2.2 < 1) with
   | true=>rw [k3] at a4;cases a4
   | false=>
    rw [k3] at a4
    exact ⟨fJ k1,fJ k2,rg_of k3 a4⟩
theorem Tw (u:Nat):IntKind.wrap .u8 (((BitVec.ofInt (IntKind.bits .u8) (IntKind.wrap .u8 (u:Int)) ||| BitVec.ofInt (IntKind.bits .u8) 128).toNat:Nat):Int)=((u % 128+128:Nat):Int):=by
 have h1:IntKind.wrap .u8 (u:Int)=((u % 256:Nat):Int):=by rw [IntKind.wrap_u8];omega
 rw [h1]
 have h2:(BitVec.ofInt (IntKind.bits .u8) ((u % 256:Nat):Int) ||| BitVec.ofInt (IntKind.bits .u8) 128).toNat=(u % 256) ||| 128:=by
  show (BitVec.ofInt 8 ((u % 256:Nat):Int) ||| BitVec.ofInt 8 128).toNat=_
  rw [BitVec.toNat_or]
  congr 1
  simp only [BitVec.toNat_ofInt]
  omega
 rw [h2]
 have h3:∀x,x < 256->x ||| 128=x % 128+128:=by decide +kernel
 rw [h3 _ (by omega),IntKind.wrap_u8]
 omega
structure GRV where
 u:Nat
 r:RW
instance:Inhabited GRV:=⟨⟨0,default⟩⟩
def grS (u:Int) (r:RW):St:={env:=[(3,.int .u64 u),(4,.sl (.key 19) 1 r.n r.g)],objs:=[(19,.own 1 r.n)]}
def grO (x:GRV) (k:Ex->St->Res):Res:=k (.exit 0) (grS x.u x.r)
def φGr (r:RW):AV×List AO:=(.sl (.key aa) 1 r.n r.g,[.own 1 r.n])
def φRw (x:RW):AV×List AO:=(.sl .no 1 x.n x.g,[])
def rBy {α:Type} (A:α->List AV) (f:α->List UInt8) (l:List AV) (_:List AO) (r:RW):Prop:=∀a,l=A a->Byt r (f a)
abbrev Sd (n:Int):List AV:=[.int .i64 n]
theorem LY {a b:Int} (h:Sd a=Sd b):a=b:=by simpa using h
theorem Lp (n:Int):∃ (u:St->Bool) (w:St->GRV),(∀v:GRV,((∃m,v.r.n+m<=10/\v.u < 128 ^ m)/\∃l,Byt v.r l/\l++grp v.u=num n)->cn u w (grS v.u v.r) (λx=>x.u < 128/\x.r.n<=10/\∃l,Byt x.r l/\l++[UInt8.ofNat x.u]=num n))/\∀L:List (List Nat×Orc),bH (V0.run [] 1 [] L [] n7) n7 [1,1,1,0,0] (mkO u w grO):=
 aw (Lf:=λL=>L) (λv:GRV=>grS v.u v.r) _ (λv=>v.u) grO _ (by kernel_rfl) (λv hv=>.b (decide ((v.u:Int)≥128)) (λh=>
   have h1:128<=v.u:=by have:=of_decide_eq_true h;omega
   have hr:v.r.n<=9:=by
    obtain ⟨⟨m,hm,hu⟩,_⟩:=hv
    cases m with
    | zero=>simp at hu;omega
    | succ m=>omega
   .n (c:=roomy 1 (v.r.n+1)&&Nat.beq v.r.n v.r.n) (av (by omega)) (.go (grS (Int.fdiv v.u (2 ^ min (Int.toNat 7) (IntKind.bits .u64))) ⟨v.r.n+1,af v.r.n 1 v.r.g (ae [.int .u8 0] [(0,.int .u8 (IntKind.wrap .u8 (((BitVec.ofInt (IntKind.bits .u8) (IntKind.wrap .u8 (v.u:Int)) ||| BitVec.ofInt (IntKind.bits .u8) 128).toNat:Nat):Int)))])⟩)
    (GRV.mk (v.u / 128) ⟨v.r.n+1,af v.r.n 1 v.r.g (ae [.int .u8 0] [(0,.int .u8 (((v.u % 128+128:Nat):Int)))])⟩)
    (by
     obtain ⟨⟨m,hm,hu⟩,l,hl,e⟩:=hv
     obtain ⟨m',rfl⟩:∃m',m=m'+1:=⟨m - 1,by cases m with | zero=>simp at hu;omega | succ m=>rfl⟩
     refine ⟨⟨m',by show v.r.n+1+m'<=10;omega,by show v.u / 128 < 128 ^ m';rw [Nat.pow_succ] at hu;omega⟩,_,Byt.app (n:=v.r.n) (g:=v.r.g) hl (Cj (z:=[.int .u8 0]) (n:=((v.u % 128+128:Nat):Int)) (by omega)),?_⟩
     rw [<-e,List.append_assoc]
     congr 1
     rw [grp.eq_1 v.u,if_neg (by omega)]
     rfl)
    (by show v.u / 128 < v.u;omega)
    (by
     rw [Tw]
     have:Int.fdiv (v.u:Int) (2 ^ min (Int.toNat 7) (IntKind.bits .u64))=((v.u / 128:Nat):Int):=by show Int.fdiv (v.u:Int) 128=_;rw [Int.fdiv_eq_ediv_of_nonneg _ (by omega)];omega
     rw [this])))
  λh=>.fi v (by
   have h:=of_decide_eq_false h
   obtain ⟨⟨m,hm,hu⟩,l,hl,e⟩:=hv
   refine ⟨by omega,by omega,l,hl,?_⟩
   rw [<-e,grp.eq_1 v.u,if_pos (by omega)])) (λv L k kn=>by kernel_rfl)
theorem zQ (n:Int):aJ wd n7 φGr (rBy Sd num) (Sd n) []:=by
 obtain ⟨u,w,hu,hl⟩:=Lp n
 obtain ⟨z1,z2⟩:=L2 n
 have hz:zig n=((zig n).toNat:Int):=by omega
 have hL:cn u w (grS (zig n) ⟨0,λ_=>[.int .u8 0]⟩) (λx=>x.u < 128/\x.r.n<=10/\∃l,Byt x.r l/\l++[UInt8.ofNat x.u]=num n):=by
  rw [hz]
  exact hu ⟨(zig n).toNat,⟨0,λ_=>[.int .u8 0]⟩⟩ ⟨⟨10,Nat.le_refl _,by show (zig n).toNat < 128 ^ 10;omega⟩,[],uA,rfl⟩
 exact dy (V:=V0) (T:=[]) (d:=1) 2 (ah (hl _) aE) aB (.lp hL λt ht=>.n (c:=roomy 1 (t.r.n+1)&&Nat.beq t.r.n t.r.n) (av (by have:=ht.2.1;omega))
  (.r (RW.mk (t.r.n+1) (af t.r.n 1 t.r.g (ae [.int .u8 0] [(0,.int .u8 (IntKind.wrap .u8 (t.u:Int)))]))) (λm hm=>by
   rw [<-LY hm]
   obtain ⟨h1,h2,l',h3,h4⟩:=ht
   rw [<-h4]
   have e:IntKind.wrap .u8 (t.u:Int)=(t.u:Int):=by rw [IntKind.wrap_u8];omega
   rw [e]
   exact Byt.app (n:=t.r.n) (g:=t.r.g) h3 (Cj (by omega))))) (by kernel_rfl)
noncomputable abbrev Vm:Ent:=bc wd n7 φGr (rBy Sd num)
theorem Q8 {m:Nat} (h:m<=1099511627776):(decide ((0:Int)=0)&&(decide (0<=IntKind.wrap .i64 (((0:Nat):Int)+(m:Int)))&&(roomy 1 (IntKind.wrap .i64 (((0:Nat):Int)+(m:Int))).toNat&&decide (IntKind.wrap .i64 (((0:Nat):Int)+(m:Int))<=140737488355328))))=true:=by
 have e:IntKind.wrap .i64 (((0:Nat):Int)+(m:Int))=m:=by rw [wrap_i64 (by omega) (by omega)];omega
 rw [e,decide_eq_true (show (0:Int)<=m by omega),decide_eq_true (show (m:Int)<=140737488355328 by omega),Di (by rw [Int.toNat_natCast];omega)]
 rfl
abbrev aPn (n:Int):List AV:=[nA,.int .i64 n]
abbrev aPt (s:List UInt8):List AV:=[nA,.str s]
abbrev aPb (b:Bool):List AV:=[nA,.bool b]
theorem zk (n:Int):aJ wd bV φRw (rBy aPn num) (aPn n) []:=
 cW (V:=V0) [Vm] 2 (.call (zQ n) λt ht=>
  have hb:=ht n rfl
  have hn:t.n<=10:=by rw [hb.1];exact cN n
  .n (Q8 (m:=t.n) (by omega)) (.n (av (b:=1) (n:=0+0+t.n) (m:=0+0) (by omega))
   (.r (RW.mk (0+0+t.n) (af (0+0) t.n (af 0 0 (λ_=>[.int .u8 0]) λ_=>[]) t.g)) λa ha=>by
    rw [show a=n by have h:=ha;simp only [List.cons.injEq,AV.int.injEq,true_and,and_true] at h;exact h.symm]
    exact Byt.app (a:=[]) uA hb))) (by kernel_rfl)
theorem vG (s:List UInt8) (hs:s.length<=1048576):aJ wd pq φRw (rBy aPt txt) (aPt s) []:=
 cW (V:=V0) [Vm] 2 (.call (zQ s.length) λt ht=>
  have hb:=ht _ rfl
  have hn:t.n<=10:=by rw [hb.1];exact cN _
  .n (av (b:=1) (n:=t.n+s.length) (m:=t.n) (by omega)) (.n (Q8 (m:=t.n+s.length) (by omega)) (.n (av (b:=1) (n:=0+0+(t.n+s.length)) (m:=0+0) (by omega))
   (.r (RW.mk (0+0+(t.n+s.length)) (af (0+0) (t.n+s.length) (af 0 0 (λ_=>[.int .u8 0]) λ_=>[]) (af t.n s.length t.g (rowOf s)))) λa ha=>by
    rw [show a=s by have h:=ha;simp only [List.cons.injEq,AV.str.injEq,true_and,and_true] at h;exact h.symm]
    exact Byt.app (a:=[]) uA (Byt.app (n:=t.n) (g:=t.g) hb (Pk s)))))) (by kernel_rfl)
theorem EU (b:Bool):aJ wd pr φRw (rBy aPb bol) (aPb b) []:=by
 have z:∀n:Int,0<=n/\n < 256->Byt ⟨1,af (0+0) 1 (af 0 0 (λ_=>[.int .u8 0]) λ_=>[]) (ae [.int .u8 0] [(0,.int .u8 n)])⟩ [UInt8.ofNat n.toNat]:=λn h=>Byt.app (n:=0) (a:=[]) uA (Cj h)
 have e:∀ {x:RW},Byt x (bol b)->rBy aPb bol (aPb b) [] x:=λh a ha=>by
  rw [show a=b by have h:=ha;simp only [List.cons.injEq,AV.bool.injEq,true_and,and_true] at h;exact h.symm];exact h
 exact cW (V:=V0) [] 2 (.b b (λh=>.r (RW.mk 1 (af (0+0) 1 (af 0 0 (λ_=>[.int .u8 0]) λ_=>[]) (ae [.int .u8 0] [(0,.int .u8 1)]))) (e (by rw [h];exact z 1 (by omega))))
  λh=>.r (RW.mk 1 (af (0+0) 1 (af 0 0 (λ_=>[.int .u8 0]) λ_=>[]) (ae [.int .u8 0] [(0,.int .u8 0)]))) (e (by rw [h];exact z 0 (by omega)))) (by kernel_rfl)
noncomputable abbrev eNu:Ent:=bc wd bV φRw (rBy aPn num)
noncomputable abbrev Fc:Ent:=bc wd pq φRw (rBy aPt txt)
noncomputable abbrev Wc:Ent:=bc wd pr φRw (rBy aPb bol)
def Ext (r q:RW) (b:List UInt8):Prop:=q.n=r.n+b.length/\∀l,Byt r l->Byt q (l++b)
theorem Ext.trans {r q p:RW} {b c:List UInt8} (h1:Ext r q b) (h2:Ext q p c):Ext r p (b++c):=
 ⟨by rw [h2.1,h1.1,List.length_append];omega,λl hl=>by rw [<-List.append_assoc];exact h2.2 _ (h1.2 l hl)⟩
theorem Ext.of {r t:RW} {b:List UInt8} (h:Byt t b):Ext r ⟨r.n+t.n,af r.n t.n r.g t.g⟩ b:=⟨by show r.n+t.n=_;rw [h.1],λl hl=>Byt.app (n:=r.n) (g:=r.g) hl h⟩
def wO (r:RW):List AO:=[.cells [.sl (.key 1000001) 1 r.n r.g],.own 1 r.n]
def cO (r:RW):List AO:=[.cells [.sl (.key 1000002) 1 r.n r.g],.cells [.ref 1000000 0],.own 1 r.n]
def dO (r:RW):List AO:=[.cells [.ref 1000001 0],.cells [.sl (.key 1000002) 1 r.n r.g],.own 1 r.n]
theorem Nx {a b:RW} (h:AV.sl .no 1 a.n a.g=.sl .no 1 b.n b.g):a=b:=by
 obtain ⟨a1,a2⟩:=a
 obtain ⟨b1,b2⟩:=b
 simp only [AV.sl.injEq,true_and] at h
 obtain ⟨h1,h2⟩:=h
 subst h1 h2;rfl
theorem fq {a b:RW} (h:wO a=wO b):a=b:=by
 simp only [wO,List.cons.injEq,AO.cells.injEq,AV.sl.injEq,true_and,and_true] at h
 exact Nx (by rw [h.1.1,h.1.2])
theorem wz {a b:RW} (h:cO a=cO b):a=b:=by
 simp only [cO,List.cons.injEq,AO.cells.injEq,AV.sl.injEq,true_and,and_true] at h
 exact Nx (by rw [h.1.1,h.1.2])
theorem wm {a b:RW} (h:dO a=dO b):a=b:=by
 simp only [dO,List.cons.injEq,AO.cells.injEq,AV.sl.injEq,true_and,and_true] at h
 exact Nx (by rw [h.1.1,h.1.2])
def φWq (O:RW->List AO) (r:RW):AV×List AO:=(.tup [],O r)
def Wr (r0 r:RW) (b rest all:List UInt8):Prop:=Ext r0 r b/\b++rest=all/\r0.n+all.length<=1099511627776
theorem Wr.start {r:RW} {all:List UInt8} (h:r.n+all.length<=1099511627776):Wr r r [] all all:=⟨⟨rfl,λl hl=>by rw [List.append_nil];exact hl⟩,rfl,h⟩
theorem Wr.room {r0 r:RW} {b c rest all:List UInt8} (h:Wr r0 r b (c++rest) all):r.n+c.length<=1099511627776:=by
 obtain ⟨h1,h2,h3⟩:=h
 rw [h1.1]
 have:=congrArg List.length h2
 simp only [List.length_append] at this
 omega
theorem Wr.step {r0 r q:RW} {b c rest all:List UInt8} (h:Wr r0 r b (c++rest) all) (e:Ext r q c):Wr r0 q (b++c) rest all:=⟨h.1.trans e,by rw [List.append_assoc];exact h.2.1,h.2.2⟩
theorem Wr.last {r0 r q:RW} {b c all:List UInt8} (h:Wr r0 r b c all) (e:Ext r q c):Ext r0 q all:=by
 rw [<-h.2.1];exact h.1.trans e
theorem Wr.lroom {r0 r:RW} {b c all:List UInt8} (h:Wr r0 r b c all):r.n+c.length<=1099511627776:=Wr.room (rest:=[]) (by rw [List.append_nil];exact h)
noncomputable abbrev puE (f:FuncId) (R:List AV->List AO->RW->Prop) (A:List AV) (r:RW) (T:RW->Res):Res:=cond (gR wd f φRw R A []) (cond (roomy 1 (r.n+(wR wd f φRw R A []).n)&&Nat.beq r.n r.n) (T ⟨r.n+(wR wd f φRw R A []).n,af r.n (wR wd f φRw R A []).n r.g (wR wd f φRw R A []).g⟩) none) none
section
variable {τ:Type} {Post:τ->Prop} {φ:τ->AV×List AO}
theorem _root_.Go.Ab.Run.pu {f:FuncId} {R:List AV->List AO->RW->Prop} {A:List AV} {b c rest all:List UInt8} {r0 r:RW} {T:RW->Res} (hr:Wr r0 r b (c++rest) all) (h:aJ wd f φRw R A []) (hb:∀t,R A [] t->Byt t c) (k:∀q,Wr r0 q (b++c) rest all->Run Post φ (T q)):Run Post φ (puE f R A r T):=
 Run.call (T:=λt=>cond (roomy 1 (r.n+t.n)&&Nat.beq r.n r.n) (T ⟨r.n+t.n,af r.n t.n r.g t.g⟩) none) h λt ht=>Run.n (av (by have:=(hb t ht).1;have:=hr.room;omega)) (k _ (hr.step (Ext.of (hb t ht))))
theorem _root_.Go.Ab.Run.pl {f:FuncId} {R:List AV->List AO->RW->Prop} {A:List AV} {b c all:List UInt8} {r0 r:RW} {T:RW->Res} (hr:Wr r0 r b c all) (h:aJ wd f φRw R A []) (hb:∀t,R A [] t->Byt t c) (k:∀q,Ext r0 q all->Run Post φ (T q)):Run Post φ (puE f R A r T):=
 Run.call (T:=λt=>cond (roomy 1 (r.n+t.n)&&Nat.beq r.n r.n) (T ⟨r.n+t.n,af r.n t.n r.g t.g⟩) none) h λt ht=>Run.n (av (by have:=(hb t ht).1;have:=hr.lroom;omega)) (k _ (hr.last (Ext.of (hb t ht))))
theorem _root_.Go.Ab.Run.nu {n:Int} {b rest all:List UInt8} {r0 r:RW} {T:RW->Res} (hr:Wr r0 r b (num n++rest) all) (k:∀q,Wr r0 q (b++num n) rest all->Run Post φ (T q)):Run Post φ (puE bV (rBy aPn num) (aPn n) r T):=.pu hr (zk n) (λt ht=>ht n rfl) k
theorem _root_.Go.Ab.Run.nl {n:Int} {b all:List UInt8} {r0 r:RW} {T:RW->Res} (hr:Wr r0 r b (num n) all) (k:∀q,Ext r0 q all->Run Post φ (T q)):Run Post φ (puE bV (rBy aPn num) (aPn n) r T):=.pl hr (zk n) (λt ht=>ht n rfl) k
theorem _root_.Go.Ab.Run.tx {s:List UInt8} (hs:s.length<=1048576) {b rest all:List UInt8} {r0 r:RW} {T:RW->Res} (hr:Wr r0 r b (txt s++rest) all) (k:∀q,Wr r0 q (b++txt s) rest all->Run Post φ (T q)):Run Post φ (puE pq (rBy aPt txt) (aPt s) r T):=.pu hr (vG s hs) (λt ht=>ht s rfl) k
theorem _root_.Go.Ab.Run.bo {v:Bool} {b rest all:List UInt8} {r0 r:RW} {T:RW->Res} (hr:Wr r0 r b (bol v++rest) all) (k:∀q,Wr r0 q (b++bol v) rest all->Run Post φ (T q)):Run Post φ (puE pr (rBy aPb bol) (aPb v) r T):=.pu hr (EU v) (λt ht=>ht v rfl) k
end
def rWq {α:Type} (O:RW->List AO) (A:α->List AV) (f:α->List UInt8) (l:List AV) (os:List AO) (q:RW):Prop:=∀x r,l=A x->os=O r->Ext r q (f x)
theorem lA {α:Type} {O:RW->List AO} {A:α->List AV} {f:α->List UInt8} {x:α} {r q:RW} (hO:∀ {a b},O a=O b->a=b) (hi:∀a b,A a=A b->a=b) (h:Ext r q (f x)):rWq O A f (A x) (O r) q:=λy s hy hs=>by
 rw [<-hi _ _ hy,<-hO hs];exact h
noncomputable abbrev eW {α:Type} (id:FuncId) (O:RW->List AO) (A:α->List AV) (f:α->List UInt8):Ent:=bc wd id (φWq O) (rWq O A f)
def Wrs {α:Type} (id:FuncId) (O:RW->List AO) (A:α->List AV) (f:α->List UInt8) (x:α):Prop:=∀r:RW,r.n+(f x).length<=1099511627776->aJ wd id (φWq O) (rWq O A f) (A x) (O r)
section
variable {τ:Type} {Post:τ->Prop} {φ:τ->AV×List AO} {α:Type} {id:FuncId} {O:RW->List AO} {A:α->List AV} {f:α->List UInt8} {x:α}
theorem _root_.Go.Ab.Run.w {b rest all:List UInt8} {r0 r:RW} {T:RW->Res} (h:Wrs id O A f x) (hr:Wr r0 r b (f x++rest) all) (k:∀q,Wr r0 q (b++f x) rest all->Run Post φ (T q)) :
  Run Post φ (cond (gR wd id (φWq O) (rWq O A f) (A x) (O r)) (T (wR wd id (φWq O) (rWq O A f) (A x) (O r))) none):=Run.call (h r hr.room) λq hq=>k q (hr.step (hq x r rfl rfl))
theorem _root_.Go.Ab.Run.wl {b all:List UInt8} {r0 r:RW} {T:RW->Res} (h:Wrs id O A f x) (hr:Wr r0 r b (f x) all) (k:∀q,Ext r0 q all->Run Post φ (T q)) :
  Run Post φ (cond (gR wd id (φWq O) (rWq O A f) (A x) (O r)) (T (wR wd id (φWq O) (rWq O A f) (A x) (O r))) none):=Run.call (h r hr.lroom) λq hq=>k q (hr.last (hq x r rfl rfl))
end
structure PTV where
 r:RW
 i:Int
instance:Inhabited PTV:=⟨⟨default,0⟩⟩
def ptS (F:AV) (sz n:Nat) (G:Nat->List AV) (O:RW->List AO) (v:PTV):St:={env:=[(2,F),(13,.sl .no sz n G),(14,.int .i64 n),(15,.int .i64 v.i)],objs:=ab (O v.r) aa}
def ptO (O:RW->List AO) (r:RW) (k:Ex->St->Res):Res:=k (.exit 0) {env:=[],objs:=ab (O r) aa}
theorem MQ {α:Type} [Inhabited α] (f:α->List UInt8) (l:List α) {i:Nat} (h:i < l.length):yr f (l.drop i)=f (l.getD i default)++yr f (l.drop (i+1)):=by
 rw [List.drop_eq_getElem_cons h]
 simp [yr,List.getD,h]
theorem fE {α:Type} [Inhabited α] {id m:FuncId} (O O':RW->List AO) (F:AV) (sz:Nat) (G B:List α->Nat->List AV) (A':α->List AV) (f:α->List UInt8) (l:List α) (hO:∀ {a b},O a=O b->a=b)
  (hA:∀a b:List α,AV.sl .no sz a.length (G a)=.sl .no sz b.length (G b)->a=b) (hB:∀j,j < l.length->B l j=A' (l.getD j default)) (hm:∀x∈l,Wrs m O' A' f x) (hl:l.length<=1048576) (hb:jv (ef (bD V0.P id) [1,1,0])=true)
  (hr:∀ (v:PTV) (L:List (List Nat×Orc)) k kn,dP (V0.run [eNu,eW m O' A' f] 3 [] L [] id) id 9 [1,1,0] (ptS F sz l.length (G l) O v) kn k=cond (decide (v.i < (l.length:Int))) (cond (within v.i l.length) (cond (gR wd m (φWq O') (rWq O' A' f) (B l v.i.toNat) (O' v.r)) (kn (ptS F sz l.length (G l) O ⟨wR wd m (φWq O') (rWq O' A' f) (B l v.i.toNat) (O' v.r),IntKind.wrap .i64 (v.i+1)⟩)) none) none) (k (.exit 0) {env:=[],objs:=ab (O v.r) aa}))
  (hx:∀u w r,xf (V0.run [eNu,eW m O' A' f] 3 [] [([1,1,0],mkO u w (ptO O))] [] id) 9 id [.ref aa 0,.sl .no sz l.length (G l),F] (O r)=cond (gR wd bV φRw (rBy aPn num) (aPn (l.length:Int)) []) (cond (roomy 1 (r.n+(wR wd bV φRw (rBy aPn num) (aPn (l.length:Int)) []).n)&&Nat.beq r.n r.n)
   (cond (u (ptS F sz l.length (G l) O ⟨⟨r.n+(wR wd bV φRw (rBy aPn num) (aPn (l.length:Int)) []).n,af r.n (wR wd bV φRw (rBy aPn num) (aPn (l.length:Int)) []).n r.g (wR wd bV φRw (rBy aPn num) (aPn (l.length:Int)) []).g⟩,0⟩)) (some (φWq O (w (ptS F sz l.length (G l) O ⟨⟨r.n+(wR wd bV φRw (rBy aPn num) (aPn (l.length:Int)) []).n,af r.n (wR wd bV φRw (rBy aPn num) (aPn (l.length:Int)) []).n r.g (wR wd bV φRw (rBy aPn num) (aPn (l.length:Int)) []).g⟩,0⟩)))) none) none) none) :
  Wrs id O (λl:List α=>[.ref aa 0,.sl .no sz l.length (G l),F]) (ij f) l:=λr0 hr0=>by
 obtain ⟨u,w,hu,hlp⟩:=aw (V:=V0) (T:=[eNu,eW m O' A' f]) (d:=3) (W:=[]) (f:=id) (p:=[1,1,0]) (Lf:=λL=>L) (ptS F sz l.length (G l) O) (λv=>ix l.length v.i/\∃b,Wr r0 v.r b (yr f (l.drop v.i.toNat)) (ij f l)) (λv=>(l.length - v.i).toNat) (ptO O) (λq=>Ext r0 q (ij f l)) hb
  (λv hv=>.b (decide (v.i < (l.length:Int))) (λh=>
    have hi:v.i.toNat < l.length:=by have:=of_decide_eq_true h;have:=hv.1.1;omega
    have hn:=ax hv.1 (by omega) (of_decide_eq_true h)
    have hs:(IntKind.wrap .i64 (v.i+1)).toNat=v.i.toNat+1:=by have:=hv.1.1;rw [wrap_i64 (by omega) (by omega)];omega
    .n (bu hv.1 h) (.call (l:=B l v.i.toNat) (by
     rw [hB _ hi]
     obtain ⟨b,hw⟩:=hv.2
     rw [MQ f l hi] at hw
     exact hm _ (kV hi) v.r hw.room) λq hq=>.to (PTV.mk q (IntKind.wrap .i64 (v.i+1))) ⟨hn.1,by
     obtain ⟨b,hw⟩:=hv.2
     rw [MQ f l hi] at hw
     exact ⟨_,by show Wr r0 q _ (yr f (l.drop (IntKind.wrap .i64 (v.i+1)).toNat)) _;rw [hs];exact hw.step (hq _ _ (hB _ hi) rfl)⟩⟩ hn.2))
   λh=>.fi v.r (by
    obtain ⟨b,hw⟩:=hv.2
    have h:=of_decide_eq_false h
    rw [show l.drop v.i.toNat=[] from List.drop_eq_nil_of_le (by have:=hv.1.1;omega)] at hw
    have e:=hw.2.1
    rw [show yr f ([]:List α)=[] from rfl,List.append_nil] at e
    rw [<-e];exact hw.1)) hr
 have h0:=Wr.start (r:=r0) (all:=ij f l) hr0
 exact dy (V:=V0) (T:=[eNu,eW m O' A' f]) (d:=3) 0 (ah (hlp _) aE) aB (.nu (rest:=yr f l) h0 λq hq=>.lp (hu ⟨q,0⟩ ⟨ix0 _,_,hq⟩) λt ht=>.r t (lA hO (λa b e=>hA a b (by simpa using e)) ht)) (hx u w r0)
open Go.SM (ENV ATT lp pO tG exL)
theorem vi {α:Type} {C:α->List AV} (h:∀a b,C a=C b->a=b) (a b:α) (e:[AV.ref aa 0,.agg (C a)]=[.ref aa 0,.agg (C b)]):a=b:=h a b (by simpa using e)
theorem I7 {α:Type} {C:α->List AV} (h:∀a b,C a=C b->a=b) (a b:α) (e:[AV.agg (C a),.ref 1000000 0]=[.agg (C b),.ref 1000000 0]):a=b:=h a b (by simpa using e)
abbrev aMe {α:Type} (C:α->List AV) (x:α):List AV:=[.ref aa 0,.agg (C x)]
abbrev aD {α:Type} (C:α->List AV) (x:α):List AV:=[.agg (C x),.ref 1000000 0]
abbrev fM (m:FuncId):AV:=.fn m [.ref aa 0] []
abbrev fC (m:FuncId):AV:=.fn m [] [.ref 1000001 0]
abbrev aT1 (s:List UInt8):List AV:=[.str s,.ref 1000000 0]
theorem PT {s:List UInt8} (hs:s.length<=1048576):Wrs p6 dO aT1 txt s:=λr hr=>
 cW (V:=V0) [Fc] 3 (.pl (Wr.start hr) (vG s hs) (λt ht=>ht s rfl) λq hq=>.r q (lA wm (λa b h=>by simpa using h) hq)) (by kernel_rfl)
abbrev aPs (l:List (List UInt8)):List AV:=[.ref aa 0,.sl .no 1 l.length λj=>[.str (l.getD j default)],fC p6]
theorem NR {l:List (List UInt8)} (hl:l.length<=1048576) (hs:∀s∈l,s.length<=1048576):Wrs oT cO aPs (ij txt) l:=
 fE cO dO (fC p6) 1 (λl j=>[.str (l.getD j default)]) (λl j=>[.str (l.getD j default),.ref 1000000 0]) aT1 txt l wz (λa b h=>fu h) (λ_ _=>rfl) (λs h=>PT (hs s h)) hl (by kernel_rfl) (λv L k kn=>by kernel_rfl) (λu w r=>by kernel_rfl)
abbrev aTs (l:List (List UInt8)):List AV:=[.ref aa 0,cr l]
theorem rR {n b:Nat} {l:List (List UInt8)} (h:Ls n (Sh b) l):Wrs DY wO aTs (ij txt) l:=λr hr=>
 cW (V:=V0) [eW oT cO aPs (ij txt)] 2 (.wl (NR h.1.2 λs hs=>(h.2 s hs).2) (Wr.start hr) λq hq=>.r q (lA fq (λa b h=>fu (by simpa using h)) hq)) (by kernel_rfl)
noncomputable abbrev eTs:Ent:=eW DY wO aTs (ij txt)
theorem JC {v:VAL} (h:VB v):Wrs sJ wO (aMe VAL.c) CF v:=λr hr=>
 cW (V:=V0) [eNu,Fc,eTs] 4 (.nu (Wr.start (all:=CF v) hr) λq1 h1=>.nu h1 λq2 h2=>.tx h.text.2 h2 λq3 h3=>.wl (rR h.list) h3 λq4 h4=>.r q4 (lA fq (vi λa b e=>VAL.br e) h4)) (by kernel_rfl)
abbrev aL (F:AV) (sz:Nat) {α:Type} [Inhabited α] (C:α->List AV) (l:List α):List AV:=[.ref aa 0,.sl .no sz l.length λj=>C (l.getD j default),F]
theorem Dq {n:Nat} {l:List VAL} (h:Ls n VB l):Wrs qZ wO (aL (fM sJ) 4 VAL.c) (ij CF) l:=
 fE wO wO (fM sJ) 4 (λl j=>(l.getD j default).c) (λl j=>aMe VAL.c (l.getD j default)) (aMe VAL.c) CF l fq (λa b e=>bj (λa b e=>VAL.br e) e) (λ_ _=>rfl) (λv hv=>JC (h.2 v hv)) h.1.2 (by kernel_rfl) (λv L k kn=>by kernel_rfl) (λu w r=>by kernel_rfl)
noncomputable abbrev eVs:Ent:=eW qZ wO (aL (fM sJ) 4 VAL.c) (ij CF)
theorem wg {a b:EXP} (h:eC a=eC b):a=b:=EXP.br _ _ (by rw [EXP.yu,EXP.yu];exact h)
theorem zO {l:List EXP} {j:Nat} (h:j < l.length):vO (lp l) j=eC (l.getD j default):=by rw [tG h,EXP.yu];rfl
theorem Eh:∀l:List EXP,yr u7 l=u6 l
 | []=>by simp only [yr,u6]
 | e::r=>by simp only [yr,u6,Eh r]
theorem Io (e:EXP):u7 e=num e.op++(txt e.kind++(txt e.name++(ij CF e.vals++ij u7 e.kids))):=by
 cases e with
 | mk o k n v ks=>simp only [u7,ij,Eh];rfl
theorem PL {e:EXP} (h:XB e):Rg e.op/\Sh 32 e.kind/\Sh 32 e.name/\Ls 20 VB e.vals/\e.kids.length<=12/\XBs e.kids:=by
 cases e with
 | mk o k n v ks=>simp only [XB] at h;exact h
theorem sM:∀ {l:List EXP},XBs l->∀x∈l,XB x/\x.size<=cG l
 | [],_,x,hx=>(List.not_mem_nil hx).elim
 | e::r,h,x,hx=>by
  simp only [XBs] at h
  rw [cG]
  rcases List.mem_cons.1 hx with rfl | hx
  ·exact ⟨h.1,by omega⟩
  ·have:=sM h.2 x hx
   exact ⟨this.1,by omega⟩
abbrev aXs (l:List EXP):List AV:=[.ref aa 0,exL l,fM mc]
theorem GX {α:Type} [Inhabited α] {C:α->List AV} (hC:∀a b,C a=C b->a=b) {sz:Nat} {G:List α->Nat->List AV} (hG:∀ (l:List α) j,j < l.length->G l j=C (l.getD j default)) (a b:List α) (h:AV.sl .no sz a.length (G a)=.sl .no sz b.length (G b)):a=b:=by
 simp only [AV.sl.injEq,true_and] at h
 obtain ⟨h1,h2⟩:=h
 refine List.ext_getElem h1 λi k1 k2=>hC _ _ ?_
 have:=congrFun h2 i
 rw [hG a i k1,hG b i k2] at this
 simpa [List.getD,k1,k2] using this
theorem KT {l:List EXP} (hl:l.length<=1048576) (hm:∀x∈l,Wrs mc wO (aMe eC) u7 x):Wrs nY wO aXs (ij u7) l:=by
 have h:=fE (id:=nY) wO wO (fM mc) 5 (λl j=>vO (lp l) j) (λl j=>[.ref aa 0,.agg (vO (lp l) j)]) (aMe eC) u7 l fq (GX (λa b e=>wg e) λl j hj=>zO hj) (λj hj=>by rw [zO hj]) hm hl (by kernel_rfl) (λv L k kn=>by kernel_rfl) (λu w r=>by kernel_rfl)
 have e:(λl:List EXP=>[AV.ref aa 0,.sl .no 5 l.length λj=>vO (lp l) j,fM mc])=aXs:=funext λl=>by show [AV.ref aa 0,rI (lp l),fM mc]=_;rw [pO]
 rw [e] at h
 exact h
noncomputable abbrev eXs:Ent:=eW nY wO aXs (ij u7)
theorem Ij:∀ (n:Nat) (e:EXP),e.size<=n->XB e->Wrs mc wO (aMe eC) u7 e
 | 0,e,hs,_=>by rw [e.size_eq] at hs;omega
 | n+1,e,hs,h=>λr hr=>by
  rw [e.size_eq] at hs
  obtain ⟨h1,h2,h3,h4,h5,h6⟩:=PL h
  have hk:=KT (l:=e.kids) (Nat.le_trans h5 (by decide)) λx hx=>Ij n x (by have:=(sM h6 x hx).2;omega) (sM h6 x hx).1
  rw [Io] at hr
  exact cW (V:=V0) [eNu,Fc,eVs,eXs] 6 (.nu (Wr.start hr) λq1 k1=>.tx h2.2 k1 λq2 k2=>.tx h3.2 k2 λq3 k3=>.w (Dq h4) k3 λq4 k4=>.wl hk k4 λq5 k5=>.r q5 (lA fq (vi λa b e=>wg e) (by rw [Io];exact k5))) (by kernel_rfl)
theorem AF {e:EXP} (h:XB e/\e.size<=60):Wrs mc wO (aMe eC) u7 e:=Ij 60 e h.2 h.1
noncomputable abbrev eEp:Ent:=eW mc wO (aMe eC) u7
theorem kE {a b:Int×Int×Int} (h:kl a=kl b):a=b:=by
 obtain ⟨a1,a2,a3⟩:=a
 obtain ⟨b1,b2,b3⟩:=b
 simp only [kl,List.cons.injEq,AV.int.injEq,true_and,and_true] at h
 obtain ⟨rfl,rfl,rfl⟩:=h
 rfl
theorem wT {a b:Int×Int} (h:uK a=uK b):a=b:=by
 obtain ⟨a1,a2⟩:=a
 obtain ⟨b1,b2⟩:=b
 simp only [uK,List.cons.injEq,AV.int.injEq,true_and,and_true] at h
 obtain ⟨rfl,rfl⟩:=h
 rfl
theorem Nf (x:Int×Int×Int):Wrs xS wO (aMe kl) rgB x:=λr hr=>
 cW (V:=V0) [eNu] 6 (.nu (Wr.start (all:=rgB x) hr) λq1 h1=>.nu h1 λq2 h2=>.nl h2 λq3 h3=>.r q3 (lA fq (vi λa b e=>kE e) h3)) (by kernel_rfl)
theorem Dr {n:Nat} {l:List (Int×Int×Int)} (h:Ls n RB l):Wrs ra wO (aL (fM xS) 3 kl) (ij rgB) l:=
 fE wO wO (fM xS) 3 (λl j=>kl (l.getD j default)) (λl j=>aMe kl (l.getD j default)) (aMe kl) rgB l fq (λa b e=>bj (λa b e=>kE e) e) (λ_ _=>rfl) (λx _=>Nf x) h.1.2 (by kernel_rfl) (λv L k kn=>by kernel_rfl) (λu w r=>by kernel_rfl)
noncomputable abbrev Ve:Ent:=eW ra wO (aL (fM xS) 3 kl) (ij rgB)
theorem SERVE.br {a b:SERVE} (h:a.c=b.c):a=b:=by
 obtain ⟨a1,a2,a3,a4,a5⟩:=a
 obtain ⟨b1,b2,b3,b4,b5⟩:=b
 simp only [SERVE.c,List.cons.injEq,AV.int.injEq,AV.str.injEq,true_and,and_true] at h
 obtain ⟨rfl,rfl,rfl,rfl,h⟩:=h
 rw [bj (R:=kl) (d:=(0,0,0)) (λa b e=>kE e) h]
theorem C2 {v:SERVE} (h:SB v):Wrs DZ wO (aMe SERVE.c) svB v:=λr hr=>
 cW (V:=V0) [eNu,Fc,Ve] 6 (.nu (Wr.start (all:=svB v) hr) λq1 h1=>.tx h.kind.2 h1 λq2 h2=>.tx h.by'.2 h2 λq3 h3=>.tx h.salt.2 h3 λq4 h4=>.wl (Dr h.split) h4 λq5 h5=>.r q5 (lA fq (vi λa b e=>SERVE.br e) h5)) (by kernel_rfl)
noncomputable abbrev eSv:Ent:=eW DZ wO (aMe SERVE.c) svB
theorem Co {a b:ATT} (h:atc a=atc b):a=b:=by
 obtain ⟨a1,a2,a3⟩:=a
 obtain ⟨b1,b2,b3⟩:=b
 simp only [atc,List.cons.injEq,AV.str.injEq,AV.int.injEq,true_and,and_true] at h
 obtain ⟨rfl,rfl,rfl⟩:=h
 rfl
abbrev Sg (id m:FuncId) (sz:Nat) {α:Type} [Inhabited α] (C:α->List AV) (f:α->List UInt8) (l:List α):Prop:=Wrs id wO (aL (fM m) sz C) (ij f) l
abbrev Si (id m:FuncId) (sz:Nat) {α:Type} [Inhabited α] (C:α->List AV) (f:α->List UInt8) (l:List α):Prop:=Wrs id cO (aL (fC m) sz C) (ij f) l
theorem R7 {a:ATT} (h:AB a):Wrs jy wO (aMe atc) vf a:=λr hr=>
 cW (V:=V0) [eNu,Fc] 6 (.tx h.1.2 (Wr.start (all:=vf a) hr) λq1 h1=>.tx h.2.1.2 h1 λq2 h2=>.nl h2 λq3 h3=>.r q3 (lA fq (vi λa b e=>Co e) h3)) (by kernel_rfl)
theorem KU {n:Nat} {l:List ATT} (h:Ls n AB l):Sg mb jy 3 atc vf l:=
 fE wO wO (fM jy) 3 (λl j=>atc (l.getD j default)) (λl j=>aMe atc (l.getD j default)) (aMe atc) vf l fq (λa b e=>bj (λa b e=>Co e) e) (λ_ _=>rfl) (λx hx=>R7 (h.2 x hx)) h.1.2 (by kernel_rfl) (λv L k kn=>by kernel_rfl) (λu w r=>by kernel_rfl)
theorem Qg {g:SEG} (h:GB g):Wrs mP wO (aMe SEG.c) Fz g:=λr hr=>
 cW (V:=V0) [Fc,eTs,eEp] 6 (.tx h.key.2 (Wr.start (all:=Fz g) hr) λq1 h1=>.tx h.kind.2 h1 λq2 h2=>.w (rR h.incl) h2 λq3 h3=>.w (rR h.excl) h3 λq4 h4=>.wl (AF h.when) h4 λq5 h5=>.r q5 (lA fq (vi λa b e=>SM.SEG.br e) h5)) (by kernel_rfl)
theorem KM {n:Nat} {l:List SEG} (h:Ls n GB l):Sg nv mP 9 SEG.c Fz l:=
 fE wO wO (fM mP) 9 (λl j=>(l.getD j default).c) (λl j=>aMe SEG.c (l.getD j default)) (aMe SEG.c) Fz l fq (λa b e=>bj (λa b e=>SM.SEG.br e) e) (λ_ _=>rfl) (λx hx=>Qg (h.2 x hx)) h.1.2 (by kernel_rfl) (λv L k kn=>by kernel_rfl) (λu w r=>by kernel_rfl)
theorem PRQ.br {a b:PRQ} (h:a.c=b.c):a=b:=by
 obtain ⟨a1,a2⟩:=a
 obtain ⟨b1,b2⟩:=b
 simp only [PRQ.c,List.cons.injEq,AV.str.injEq,AV.int.injEq,true_and,and_true] at h
 obtain ⟨rfl,rfl⟩:=h
 rfl
theorem TGT.br {a b:TGT} (h:a.c=b.c):a=b:=by
 obtain ⟨a1,a2,a3⟩:=a
 obtain ⟨b1,b2,b3⟩:=b
 simp only [TGT.c,List.cons.injEq,AV.str.injEq,AV.int.injEq,true_and,and_true] at h
 obtain ⟨rfl,rfl,h⟩:=h
 rw [fu h]
theorem RULE.br {a b:RULE} (h:a.c=b.c):a=b:=by
 obtain ⟨a1,a2,a3⟩:=a
 obtain ⟨b1,b2,b3⟩:=b
 have h:AV.str a1::(eC a2++a3.c)=.str b1::(eC b2++b3.c):=h
 simp only [List.cons.injEq,AV.str.injEq] at h
 obtain ⟨h1,h2⟩:=List.append_inj h.2 rfl
 rw [h.1,wg h1,SERVE.br h2]
theorem Qx {x:PRQ} (h:QRB x):Wrs oX dO (aD PRQ.c) Hr x:=λr hr=>
 cW (V:=V0) [eNu,Fc] 6 (.tx h.1.2 (Wr.start (all:=Hr x) hr) λq1 h1=>.nl h1 λq2 h2=>.r q2 (lA wm (I7 λa b e=>PRQ.br e) h2)) (by kernel_rfl)
theorem KP {n:Nat} {l:List PRQ} (h:Ls n QRB l):Si jc oX 2 PRQ.c Hr l:=
 fE cO dO (fC oX) 2 (λl j=>(l.getD j default).c) (λl j=>aD PRQ.c (l.getD j default)) (aD PRQ.c) Hr l wz (λa b e=>bj (λa b e=>PRQ.br e) e) (λ_ _=>rfl) (λx hx=>Qx (h.2 x hx)) h.1.2 (by kernel_rfl) (λv L k kn=>by kernel_rfl) (λu w r=>by kernel_rfl)
theorem PY {x:TGT} (h:TB x):Wrs oW dO (aD TGT.c) F5 x:=λr hr=>
 cW (V:=V0) [eNu,Fc,eTs] 6 (.tx h.1.2 (Wr.start (all:=F5 x) hr) λq1 h1=>.nu h1 λq2 h2=>.wl (rR h.2.2) h2 λq3 h3=>.r q3 (lA wm (I7 λa b e=>TGT.br e) h3)) (by kernel_rfl)
theorem KK {n:Nat} {l:List TGT} (h:Ls n TB l):Si oU oW 3 TGT.c F5 l:=
 fE cO dO (fC oW) 3 (λl j=>(l.getD j default).c) (λl j=>aD TGT.c (l.getD j default)) (aD TGT.c) F5 l wz (λa b e=>bj (λa b e=>TGT.br e) e) (λ_ _=>rfl) (λx hx=>PY (h.2 x hx)) h.1.2 (by kernel_rfl) (λv L k kn=>by kernel_rfl) (λu w r=>by kernel_rfl)
theorem Ql {x:RULE} (h:UB x):Wrs oV dO (aD RULE.c) GO x:=λr hr=>
 cW (V:=V0) [Fc,eEp,eSv] 6 (.tx h.1.2 (Wr.start (all:=GO x) hr) λq1 h1=>.w (AF h.2.1) h1 λq2 h2=>.wl (C2 h.2.2) h2 λq3 h3=>.r q3 (lA wm (I7 λa b e=>RULE.br e) h3)) (by kernel_rfl)
theorem KN {n:Nat} {l:List RULE} (h:Ls n UB l):Si ud oV 11 RULE.c GO l:=
 fE cO dO (fC oV) 11 (λl j=>(l.getD j default).c) (λl j=>aD RULE.c (l.getD j default)) (aD RULE.c) GO l wz (λa b e=>bj (λa b e=>RULE.br e) e) (λ_ _=>rfl) (λx hx=>Ql (h.2 x hx)) h.1.2 (by kernel_rfl) (λv L k kn=>by kernel_rfl) (λu w r=>by kernel_rfl)
noncomputable abbrev ePM (id m:FuncId) (sz:Nat) {α:Type} [Inhabited α] (C:α->List AV) (f:α->List UInt8):Ent:=eW id wO (aL (fM m) sz C) (ij f)
noncomputable abbrev ePC (id m:FuncId) (sz:Nat) {α:Type} [Inhabited α] (C:α->List AV) (f:α->List UInt8):Ent:=eW id cO (aL (fC m) sz C) (ij f)
theorem Rm {f:FLAG} (h:FB f):Wrs xT wO (aMe FLAG.c) FF f:=λr hr=>
 cW (V:=V0) [eNu,Fc,Wc,eVs,ePC jc oX 2 PRQ.c Hr,ePC oU oW 3 TGT.c F5,ePC ud oV 11 RULE.c GO,eSv] 6
  (.tx h.key.2 (Wr.start (all:=FF f) hr) λq1 h1=>.nu h1 λq2 h2=>.w (Dq h.vars) h2 λq3 h3=>.bo h3 λq4 h4=>.nu h4 λq5 h5=>.w (KP h.prqs) h5 λq6 h6=>.w (KK h.tgts) h6 λq7 h7=>.w (KN h.rules) h7 λq8 h8=>.wl (C2 h.dflt) h8 λq9 h9=>
  .r q9 (lA fq (vi λa b e=>SM.FLAG.br e) h9)) (by kernel_rfl)
theorem KR {n:Nat} {l:List FLAG} (h:Ls n FB l):Sg ue xT 13 FLAG.c FF l:=
 fE wO wO (fM xT) 13 (λl j=>(l.getD j default).c) (λl j=>aMe FLAG.c (l.getD j default)) (aMe FLAG.c) FF l fq (λa b e=>bj (λa b e=>SM.FLAG.br e) e) (λ_ _=>rfl) (λx hx=>Rm (h.2 x hx)) h.1.2 (by kernel_rfl) (λv L k kn=>by kernel_rfl) (λu w r=>by kernel_rfl)
theorem Pf (x:Int×Int×Int):Wrs mQ dO (aD kl) rgB x:=λr hr=>
 cW (V:=V0) [eNu] 6 (.nu (Wr.start (all:=rgB x) hr) λq1 h1=>.nu h1 λq2 h2=>.nl h2 λq3 h3=>.r q3 (lA wm (I7 λa b e=>kE e) h3)) (by kernel_rfl)
theorem Ho {n:Nat} {l:List (Int×Int×Int)} (h:Ls n RB l):Si uf mQ 3 kl rgB l:=
 fE cO dO (fC mQ) 3 (λl j=>kl (l.getD j default)) (λl j=>aD kl (l.getD j default)) (aD kl) rgB l wz (λa b e=>bj (λa b e=>kE e) e) (λ_ _=>rfl) (λx _=>Pf x) h.1.2 (by kernel_rfl) (λv L k kn=>by kernel_rfl) (λu w r=>by kernel_rfl)
theorem Ra {x:LAYER} (h:LB x):Wrs sK wO (aMe LAYER.c) FC x:=λr hr=>
 cW (V:=V0) [eNu,Fc,ePC uf mQ 3 kl rgB] 6 (.tx h.key.2 (Wr.start (all:=FC x) hr) λq1 h1=>.tx h.kind.2 h1 λq2 h2=>.tx h.salt.2 h2 λq3 h3=>.nu h3 λq4 h4=>.nu h4 λq5 h5=>.wl (Ho h.cooling) h5 λq6 h6=>.r q6 (lA fq (vi λa b e=>SM.LAYER.br e) h6)) (by kernel_rfl)
theorem KQ {n:Nat} {l:List LAYER} (h:Ls n LB l):Sg rb sK 6 LAYER.c FC l:=
 fE wO wO (fM sK) 6 (λl j=>(l.getD j default).c) (λl j=>aMe LAYER.c (l.getD j default)) (aMe LAYER.c) FC l fq (λa b e=>bj (λa b e=>SM.LAYER.br e) e) (λ_ _=>rfl) (λx hx=>Ra (h.2 x hx)) h.1.2 (by kernel_rfl) (λv L k kn=>by kernel_rfl) (λu w r=>by kernel_rfl)
theorem P1 (x:Int×Int):Wrs fQ dO (aD uK) spB x:=λr hr=>
 cW (V:=V0) [eNu] 6 (.nu (Wr.start (all:=spB x) hr) λq1 h1=>.nl h1 λq2 h2=>.r q2 (lA wm (I7 λa b e=>wT e) h2)) (by kernel_rfl)
theorem KL {n:Nat} {l:List (Int×Int)} (h:Ls n PB2 l):Si uc fQ 2 uK spB l:=
 fE cO dO (fC fQ) 2 (λl j=>uK (l.getD j default)) (λl j=>aD uK (l.getD j default)) (aD uK) spB l wz (λa b e=>bj (λa b e=>wT e) e) (λ_ _=>rfl) (λx _=>P1 x) h.1.2 (by kernel_rfl) (λv L k kn=>by kernel_rfl) (λu w r=>by kernel_rfl)
theorem PK {x:EXPT} (h:PX x):Wrs iH wO (aMe EXPT.c) Fx x:=λr hr=>
 cW (V:=V0) [eNu,Fc,ePC uc fQ 2 uK spB,Ve,eEp] 6 (.tx h.key.2 (Wr.start (all:=Fx x) hr) λq1 h1=>.tx h.layer.2 h1 λq2 h2=>.tx h.flag.2 h2 λq3 h3=>.tx h.salt.2 h3 λq4 h4=>.nu h4 λq5 h5=>.w (KL h.claims) h5 λq6 h6=>.w (Dr h.arms) h6 λq7 h7=>.wl (AF h.when) h7 λq8 h8=>
  .r q8 (lA fq (vi λa b e=>SM.EXPT.br e) h8)) (by kernel_rfl)
theorem KJ {n:Nat} {l:List EXPT} (h:Ls n PX l):Sg j6 iH 12 EXPT.c Fx l:=
 fE wO wO (fM iH) 12 (λl j=>(l.getD j default).c) (λl j=>aMe EXPT.c (l.getD j default)) (aMe EXPT.c) Fx l fq (λa b e=>bj (λa b e=>SM.EXPT.br e) e) (λ_ _=>rfl) (λx hx=>PK (h.2 x hx)) h.1.2 (by kernel_rfl) (λv L k kn=>by kernel_rfl) (λu w r=>by kernel_rfl)
theorem Rv {e:ENV} (h:EB e):Wrs nw wO (aMe ENV.c) yq e:=λr hr=>
 cW (V:=V0) [eNu,Fc,ePM mb jy 3 atc vf,ePM nv mP 9 SEG.c Fz,ePM ue xT 13 FLAG.c FF,ePM rb sK 6 LAYER.c FC,ePM j6 iH 12 EXPT.c Fx] 6
  (.tx h.salt.2 (Wr.start (all:=yq e) hr) λq1 h1=>.tx h.hkind.2 h1 λq2 h2=>.nu h2 λq3 h3=>.w (KU h.attrs) h3 λq4 h4=>.w (KM h.segs) h4 λq5 h5=>.w (KR h.flags) h5 λq6 h6=>.w (KQ h.layers) h6 λq7 h7=>.wl (KJ h.expts) h7 λq8 h8=>
  .r q8 (lA fq (vi λa b e=>BZ e) h8)) (by kernel_rfl)
noncomputable abbrev eEv:Ent:=eW nw wO (aMe ENV.c) yq
open Go.SM (ENV ATT iG)
structure ENC where
 r:RW
 e:Int
instance:Inhabited ENC:=⟨⟨default,0⟩⟩
def φEc (x:ENC):AV×List AO:=(.tup [.sl .no 1 x.r.n x.r.g,.int .i64 x.e],[])
def rEc (l:List AV) (_:List AO) (x:ENC):Prop:=∀e:ENV,l=kp e->(iG e≠0->x.e=iG e)/\(iG e=0->x.e=4/\1048576 < (yq e).length∨x.e=0/\Byt x.r (yq e))
theorem ub (e:ENV) (ok:e.Ok):aJ wd ay φEc rEc (kp e) []:=by
 have es:aJ wd jE SH.φE (rC kp iG) [.agg e.c] []:=aJ.rC Jg (Nq e ok)
 have fin:∀ {x:ENC},((iG e≠0->x.e=iG e)/\(iG e=0->x.e=4/\1048576 < (yq e).length∨x.e=0/\Byt x.r (yq e)))->rEc (kp e) [] x:=λh e' he=>by rw [<-Jg _ _ he];exact h
 exact cW (V:=V0) [eSE,eEv] 6 (.call es λt qt=>.b (t !=0) (λh=>.t (r:=(.tup [nA,.int .i64 t],[])) (ENC.mk ⟨0,λ_=>[]⟩ t) (fin ⟨λ_=>qt _ rfl,λh0=>by rw [qt _ rfl,h0] at h;cases h⟩) (.tup (.cons aW (.cons (.same rfl) .nil))))
  λh=>
  have h0:iG e=0:=by rw [<-qt _ rfl];simpa using h
  .call (Rv (DW ok h0) ⟨0,λ_=>[.int .u8 0]⟩ (by have:=OX (DW ok h0);show 0+_<=_;omega)) λq hq=>
  have hb:=(hq _ _ rfl rfl).2 [] uA
  .b (decide ((q.n:Int) > 1048576)) (λhl=>.t (r:=(.tup [nA,.int .i64 4],[])) (ENC.mk ⟨0,λ_=>[]⟩ 4) (fin ⟨λhn=>absurd h0 hn,λ_=>.inl ⟨rfl,by have:=of_decide_eq_true hl;have:=hb.1;rw [List.nil_append] at this;omega⟩⟩) (.tup (.cons aW (.cons (.same rfl) .nil))))
   λ_=>.r (ENC.mk q 0) (fin ⟨λhn=>absurd h0 hn,λ_=>.inr ⟨rfl,hb⟩⟩)) (by kernel_rfl)
noncomputable abbrev eEc:Ent:=bc wd ay φEc rEc
def eV0:ENV:=⟨[],[],0,[],[],[],[],[]⟩
abbrev cV0:List AV:=[.str [],.str [],.int .i64 0,nA,nA,nA,nA,nA]
theorem LN:TellL cV0 eV0.c:=.cons (.same rfl) (.cons (.same rfl) (.cons (.same rfl) (.cons aW (.cons aW (.cons aW (.cons aW (.cons aW .nil)))))))
theorem Ty:num 0=[0]:=by
 unfold num
 rw [yw ⟨by decide,by decide⟩,grp.eq_1]
 rfl
theorem Ix:yq eV0=[0,0,0,0,0,0,0,0]:=by
 have t0:txt []=[0]:=by unfold txt;rw [List.append_nil];exact Ty
 have l0:∀ {α:Type} (f:α->List UInt8),ij f []=[0]:=λf=>by unfold ij yr;rw [List.append_nil];exact Ty
 show txt []++(txt []++(num 0++(ij vf []++(ij Fz []++(ij FF []++(ij FC []++ij Fx []))))))=_
 rw [t0,Ty,l0,l0,l0,l0,l0];rfl
theorem It:Ct wd.P wd.G ay [.agg cV0] [] (.tup [.sl .no 1 8 (rowOf [0,0,0,0,0,0,0,0]),.int .i64 0],[]):=by
 have ok:eV0.Ok:=⟨Nat.zero_le _,Nat.zero_le _,⟨Nat.zero_le _,λx hx=>(List.not_mem_nil hx).elim⟩,⟨Nat.zero_le _,λx hx=>(List.not_mem_nil hx).elim⟩,⟨Nat.zero_le _,λx hx=>(List.not_mem_nil hx).elim⟩,⟨Nat.zero_le _,λx hx=>(List.not_mem_nil hx).elim⟩,⟨Nat.zero_le _,λx hx=>(List.not_mem_nil hx).elim⟩⟩
 have h0:iG eV0=0:=by kernel_rfl
 have hd:aJ wd ay φEc (λ_ _ x=>x.e=0/\Byt x.r [0,0,0,0,0,0,0,0]) [.agg cV0] []:=wK (P:=λx=>x.e=0/\Byt x.r [0,0,0,0,0,0,0,0]) (λ_ _=>ph LN) rfl ((ub eV0 ok).mono λx hx=>by
  have h:=(hx eV0 rfl).2 h0
  rw [Ix] at h
  rcases h with ⟨_,h⟩ | h
  ·exact absurd h (by decide)
  ·exact h)
 obtain ⟨⟨⟨n,g⟩,e⟩,⟨h1,h2⟩,hc⟩:=hd
 have h1:e=0:=h1
 have h3:n=8:=h2.1
 subst h1 h3
 exact Ct.res hc rfl λc v hr=>CM (.cons (jQ λj hj=>(h2.2 j hj).symm) (.cons (.same rfl) .nil)) hr
def φU (x:Int):AV×List AO:=(.int .u64 x,[])
def φEx (_:Unit):AV×List AO:=(.tup [.sl .no 1 8 (rowOf [0,0,0,0,0,0,0,0]),.int .i64 0],[])
theorem OP:aJ wd jL φU (rIs 7893159121253551925) [.agg cV0] []:=by
 haveI:=iq (T:=[]) (x:=()) (φ:=φEx) It
 exact cW (V:=V0) [lD ay [.agg cV0] [] () φEx] 40 (.n (fp [.agg cV0] []) (.r (7893159121253551925:Int) rfl)) (by kernel_rfl)
theorem Pn:aJ wd zN φB (rIs true) [] []:=by
 haveI:=iq (T:=[bc wd jL φU (rIs 7893159121253551925)]) (x:=()) (φ:=φEx) It
 exact cW (V:=V0) [lD ay [.agg cV0] [] () φEx,bc wd jL φU (rIs 7893159121253551925)] 9 (.n (fp [.agg cV0] []) (.call OP λt qt=>.r (t !=0) (by rw [show t=7893159121253551925 from qt];rfl))) (by kernel_rfl)
noncomputable abbrev We:Ent:=bc wd zN φB (rIs true)
open Go.SM (ENV ATT lp pO tG exL yn pP Rc)
def rSa {α:Type} (B:α->α->List AV) (l:List AV) (_:List AO) (x:Bool):Prop:=∀a b,l=B a b->(x=true↔a=b)
theorem oo {α:Type} {B:α->α->List AV} {a b:α} {x:Bool} (hB:∀a b a' b',B a b=B a' b'->a=a'/\b=b') (h:x=true↔a=b):rSa B (B a b) [] x:=λa' b' e=>by
 obtain ⟨rfl,rfl⟩:=hB _ _ _ _ e
 exact h
abbrev Sam {α:Type} (id:FuncId) (B:α->α->List AV) (a b:α):Prop:=aJ wd id φB (rSa B) (B a b) []
noncomputable abbrev eSa {α:Type} (id:FuncId) (B:α->α->List AV):Ent:=bc wd id φB (rSa B)
abbrev bA {α:Type} (C:α->List AV) (a b:α):List AV:=[.agg (C a),.agg (C b)]
abbrev bL {α:Type} (sz:Nat) (G:List α->Nat->List AV) (l r:List α):List AV:=[.sl .no sz l.length (G l),.sl .no sz r.length (G r)]
theorem rh {α:Type} {C:α->List AV} (h:∀a b,C a=C b->a=b) (a b a' b':α) (e:bA C a b=bA C a' b'):a=a'/\b=b':=by
 simp only [bA,List.cons.injEq,AV.agg.injEq,and_true] at e
 exact ⟨h _ _ e.1,h _ _ e.2⟩
theorem R6 {α:Type} {sz:Nat} {G:List α->Nat->List AV} (h:∀a b:List α,AV.sl .no sz a.length (G a)=.sl .no sz b.length (G b)->a=b) (a b a' b':List α) (e:bL sz G a b=bL sz G a' b'):a=a'/\b=b':=by
 simp only [bL,List.cons.injEq,and_true] at e
 exact ⟨h _ _ e.1,h _ _ e.2⟩
theorem LX {α:Type} [Inhabited α] {l r:List α} (hl:l.length=r.length) (h:∀j,j < l.length->l.getD j default=r.getD j default):l=r:=List.ext_getElem hl λi k1 k2=>by
 have:=h i k1
 simpa [List.getD,k1,k2] using this
section
variable {α:Type} [Inhabited α]
abbrev saI (l r:List α) (i:Int):Prop:=(ix l.length i/\l.length=r.length)/\∀j,j < i.toNat->l.getD j default=r.getD j default
theorem r8 {l r:List α} {i:Int} (hl:l.length<=4611686018427387904) (h:saI l r i) (hi:decide (i < (l.length:Int))=true) (e:l.getD i.toNat default=r.getD i.toNat default):saI l r (IntKind.wrap .i64 (i+1))/\(l.length - IntKind.wrap .i64 (i+1)).toNat < (l.length - i).toNat:=by
 have hn:=ax h.1.1 hl (of_decide_eq_true hi)
 refine ⟨⟨⟨hn.1,h.1.2⟩,λj hj=>?_⟩,hn.2⟩
 have h0:=h.1.1.1
 have h1:=of_decide_eq_true hi
 rw [wrap_i64 (by omega) (by omega)] at hj
 by_cases hj':j < i.toNat
 ·exact h.2 j hj'
 ·rw [show j=i.toNat by omega];exact e
theorem Db {l r:List α} {i:Int} (e:l.getD i.toNat default≠r.getD i.toNat default):l≠r:=λh=>e (by rw [h])
theorem xc {l r:List α} {i:Int} (h:saI l r i) (hi:decide (i < (l.length:Int))=false):l=r:=LX h.1.2 λj hj=>h.2 j (by have:=of_decide_eq_false hi;have:=h.1.1.1;omega)
theorem Da {id:FuncId} {T:List Ent} [TabI wd T] {d sz:Nat} {G:List α->Nat->List AV} {l r:List α} (hA:∀a b:List α,AV.sl .no sz a.length (G a)=.sl .no sz b.length (G b)->a=b)
  (hlp:∃ (u:St->Bool) (o:St->Bool),(∀i,saI l r i->cn u o (SQ (.sl .no sz l.length (G l)) (.sl .no sz r.length (G r)) i) λb=>b=true↔l=r)/\∀L:List (List Nat×Orc),bH (V0.run T d [] L [] id) id pP (mkO u o yn))
  (hx:∀u o,xf (V0.run T d [] [(pP,mkO u o yn)] [] id) 9 id (bL sz G l r) []=cond ((l.length:Int) !=r.length) (some (φB false)) (cond (u (SQ (.sl .no sz l.length (G l)) (.sl .no sz r.length (G r)) 0)) (cond (o (SQ (.sl .no sz l.length (G l)) (.sl .no sz r.length (G r)) 0)) (some (φB true)) (some (φB false))) none)):Sam id (bL sz G) l r:=by
 obtain ⟨u,o,hu,h⟩:=hlp
 have fin:∀ {x:Bool},(x=true↔l=r)->rSa (bL sz G) (bL sz G l r) [] x:=λh=>oo (R6 hA) h
 exact gC (V:=V0) T d h (.b ((l.length:Int) !=r.length) (λh=>.r false (fin ⟨λh=>(by cases h),λe=>by rw [e] at h;simp at h⟩)) λh=>.lp (hu 0 ⟨⟨ix0 _,Rc _ _ h⟩,λj hj=>absurd hj (Nat.not_lt_zero _)⟩) λt ht=>.b t (λh=>.r true (fin ⟨λ_=>ht.1 h,λ_=>rfl⟩)) λh=>.r false (fin ⟨λh=>(by cases h),λe=>by rw [ht.2 e] at h;cases h⟩)) (hx u o)
theorem jS {id m:FuncId} (sz:Nat) (G:List α->Nat->List AV) (B:α->α->List AV) (Bi:List α->List α->Nat->List AV) (l r:List α) (hA:∀a b:List α,AV.sl .no sz a.length (G a)=.sl .no sz b.length (G b)->a=b)
  (hB:∀j,j < l.length->j < r.length->Bi l r j=B (l.getD j default) (r.getD j default)) (he:∀a∈l,∀b∈r,Sam m B a b) (hl:l.length<=1048576) (hb:jv (ef (bD V0.P id) pP)=true)
  (hr:∀i (L:List (List Nat×Orc)) k kn,dP (V0.run [eSa m B] 1 [] L [] id) id 9 pP (SQ (.sl .no sz l.length (G l)) (.sl .no sz r.length (G r)) i) kn k=cond (decide (i < (l.length:Int))) (cond (within i l.length) (cond (within i r.length) (cond (gR wd m φB (rSa B) (Bi l r i.toNat) []) (cond (!wR wd m φB (rSa B) (Bi l r i.toNat) []) (yn false k) (kn (SQ (.sl .no sz l.length (G l)) (.sl .no sz r.length (G r)) (IntKind.wrap .i64 (i+1))))) none) none) none) (yn true k))
  (hx:∀u o,xf (V0.run [eSa m B] 1 [] [(pP,mkO u o yn)] [] id) 9 id (bL sz G l r) []=cond ((l.length:Int) !=r.length) (some (φB false)) (cond (u (SQ (.sl .no sz l.length (G l)) (.sl .no sz r.length (G r)) 0)) (cond (o (SQ (.sl .no sz l.length (G l)) (.sl .no sz r.length (G r)) 0)) (some (φB true)) (some (φB false))) none)):Sam id (bL sz G) l r:=
 Da hA (aw (V:=V0) (T:=[eSa m B]) (d:=1) (W:=[]) (f:=id) (p:=pP) (Lf:=λL=>L) (SQ (.sl .no sz l.length (G l)) (.sl .no sz r.length (G r))) (saI l r) (λi=>(l.length - i).toNat) yn (λb=>b=true↔l=r) hb
  (λi hi=>.b (decide (i < (l.length:Int))) (λh=>
    have h0:i.toNat < l.length:=by have:=of_decide_eq_true h;have:=hi.1.1.1;omega
    have h1:i.toNat < r.length:=hi.1.2 ▸ h0
    .n (bu hi.1.1 h) (.n (bu (n:=r.length) (hi.1.2 ▸ hi.1.1) (hi.1.2 ▸ h)) (.call (l:=Bi l r i.toNat) (by rw [hB _ h0 h1];exact he _ (kV h0) _ (kV h1)) λt qt=>
     have q:=qt _ _ (hB _ h0 h1)
     .b (!t) (λht=>.fi false ⟨λh=>(by cases h),λe=>absurd e (Db λe=>by rw [q.2 e] at ht;cases ht)⟩)
      λht=>
      have hn:=r8 (Nat.le_trans hl (by decide)) hi h (q.1 (by cases t;cases ht;rfl))
      .to (IntKind.wrap .i64 (i+1)) hn.1 hn.2)))
   λh=>.fi true ⟨λ_=>xc hi h,λ_=>rfl⟩) hr) hx
theorem jR {id:FuncId} (sz:Nat) (G:List α->Nat->List AV) (ne:α->α->Bool) (l r:List α) (hA:∀a b:List α,AV.sl .no sz a.length (G a)=.sl .no sz b.length (G b)->a=b) (hne:∀a b,ne a b=false↔a=b) (hl:l.length<=1048576) (hb:jv (ef (bD V0.P id) pP)=true)
  (hr:∀i (L:List (List Nat×Orc)) k kn,dP (V0.run [] 1 [] L [] id) id 9 pP (SQ (.sl .no sz l.length (G l)) (.sl .no sz r.length (G r)) i) kn k=cond (decide (i < (l.length:Int))) (cond (within i l.length) (cond (within i r.length) (cond (ne (l.getD i.toNat default) (r.getD i.toNat default)) (yn false k) (kn (SQ (.sl .no sz l.length (G l)) (.sl .no sz r.length (G r)) (IntKind.wrap .i64 (i+1))))) none) none) (yn true k))
  (hx:∀u o,xf (V0.run [] 1 [] [(pP,mkO u o yn)] [] id) 9 id (bL sz G l r) []=cond ((l.length:Int) !=r.length) (some (φB false)) (cond (u (SQ (.sl .no sz l.length (G l)) (.sl .no sz r.length (G r)) 0)) (cond (o (SQ (.sl .no sz l.length (G l)) (.sl .no sz r.length (G r)) 0)) (some (φB true)) (some (φB false))) none)):Sam id (bL sz G) l r:=
 Da (T:=[]) hA (aw (V:=V0) (T:=[]) (d:=1) (W:=[]) (f:=id) (p:=pP) (Lf:=λL=>L) (SQ (.sl .no sz l.length (G l)) (.sl .no sz r.length (G r))) (saI l r) (λi=>(l.length - i).toNat) yn (λb=>b=true↔l=r) hb
  (λi hi=>.b (decide (i < (l.length:Int))) (λh=>.n (bu hi.1.1 h) (.n (bu (n:=r.length) (hi.1.2 ▸ hi.1.1) (hi.1.2 ▸ h)) (.b (ne (l.getD i.toNat default) (r.getD i.toNat default))
     (λht=>.fi false ⟨λh=>(by cases h),λe=>absurd e (Db λe=>by rw [(hne _ _).2 e] at ht;cases ht)⟩)
     λht=>
     have hn:=r8 (Nat.le_trans hl (by decide)) hi h ((hne _ _).1 ht)
     .to (IntKind.wrap .i64 (i+1)) hn.1 hn.2)))
   λh=>.fi true ⟨λ_=>xc hi h,λ_=>rfl⟩) hr) hx
end
theorem aO {a b:Bool} {p q:Prop} (h1:a=true↔p) (h2:b=true↔q):(bif a then b else false)=true↔p/\q:=by
 cases a with
 | true=>exact ⟨λh=>⟨h1.1 rfl,h2.1 h⟩,λh=>h2.2 h.2⟩
 | false=>exact ⟨λh=>(by cases h),λh=>absurd (h1.2 h.1) (by decide)⟩
theorem beq_iff {α:Type} [BEq α] [LawfulBEq α] (a b:α):(a==b)=true↔a=b:=beq_iff_eq
open Go.SM (ENV ATT lp pO tG exL yn pP)
theorem OV (a b:List UInt8):eqC (.str a) (.str b)=(a==b):=rfl
theorem Iq (a b:Int):eqC (.int .i64 a) (.int .i64 b)=(a==b):=rfl
theorem ne_iff {α:Type} {C:α->List AV} (hC:∀a b,di (C a) (C b)=true↔a=b) (a b:α):(!di (C a) (C b))=false↔a=b:=by rw [<-hC];cases di (C a) (C b) <;> simp
theorem Mi (a b:Int×Int×Int):di (kl a) (kl b)=true↔a=b:=by
 obtain ⟨a1,a2,a3⟩:=a
 obtain ⟨b1,b2,b3⟩:=b
 simp [kl,di,Iq]
theorem P2 (a b:Int×Int):di (uK a) (uK b)=true↔a=b:=by
 obtain ⟨a1,a2⟩:=a
 obtain ⟨b1,b2⟩:=b
 simp [uK,di,Iq]
theorem R8 (a b:ATT):di (atc a) (atc b)=true↔a=b:=by
 obtain ⟨a1,a2,a3⟩:=a
 obtain ⟨b1,b2,b3⟩:=b
 simp [atc,di,Iq,OV]
theorem Qy (a b:PRQ):di a.c b.c=true↔a=b:=by
 obtain ⟨a1,a2⟩:=a
 obtain ⟨b1,b2⟩:=b
 simp [PRQ.c,di,Iq,OV]
abbrev gR1 {α:Type} [Inhabited α] (C:α->List AV) (l:List α) (j:Nat):List AV:=C (l.getD j default)
abbrev bS:List (List UInt8)->List (List UInt8)->List AV:=bL 1 (gR1 λs=>[.str s])
theorem CY (l r:List (List UInt8)) (hl:l.length<=1048576):Sam tj bS l r:=
 jR 1 (gR1 λs=>[.str s]) (λa b=>!(a==b)) l r (λa b h=>fu h) (λa b=>by simp) hl (by kernel_rfl) (λi L k kn=>by kernel_rfl) (λu o=>by kernel_rfl)
theorem L9 (l r:List (Int×Int×Int)) (hl:l.length<=1048576):Sam oy (bL 3 (gR1 kl)) l r:=
 jR 3 (gR1 kl) (λa b=>!di (kl a) (kl b)) l r (λa b h=>bj (λa b e=>kE e) h) (ne_iff Mi) hl (by kernel_rfl) (λi L k kn=>by kernel_rfl) (λu o=>by kernel_rfl)
theorem Np (l r:List (Int×Int×Int)) (hl:l.length<=1048576):Sam nk (bL 3 (gR1 kl)) l r:=
 jR 3 (gR1 kl) (λa b=>!di (kl a) (kl b)) l r (λa b h=>bj (λa b e=>kE e) h) (ne_iff Mi) hl (by kernel_rfl) (λi L k kn=>by kernel_rfl) (λu o=>by kernel_rfl)
theorem P7 (l r:List (Int×Int)) (hl:l.length<=1048576):Sam qI (bL 2 (gR1 uK)) l r:=
 jR 2 (gR1 uK) (λa b=>!di (uK a) (uK b)) l r (λa b h=>bj (λa b e=>wT e) h) (ne_iff P2) hl (by kernel_rfl) (λi L k kn=>by kernel_rfl) (λu o=>by kernel_rfl)
theorem Qd (l r:List ATT) (hl:l.length<=1048576):Sam lS (bL 3 (gR1 atc)) l r:=
 jR 3 (gR1 atc) (λa b=>!di (atc a) (atc b)) l r (λa b h=>bj (λa b e=>Co e) h) (ne_iff R8) hl (by kernel_rfl) (λi L k kn=>by kernel_rfl) (λu o=>by kernel_rfl)
theorem P9 (l r:List PRQ) (hl:l.length<=1048576):Sam ir (bL 2 (gR1 PRQ.c)) l r:=
 jR 2 (gR1 PRQ.c) (λa b=>!di a.c b.c) l r (λa b h=>bj (λa b e=>PRQ.br e) h) (ne_iff Qy) hl (by kernel_rfl) (λi L k kn=>by kernel_rfl) (λu o=>by kernel_rfl)
noncomputable abbrev eSs:Ent:=eSa tj bS
theorem P6 (a b:VAL) (h:VB a):Sam sx (bA VAL.c) a b:=
 cW (V:=V0) [eSs] 1 (.call (CY a.list b.list h.list.1.2) λt qt=>.r (bif bif bif a.kind==b.kind then a.num==b.num else false then a.text==b.text else false then t else false)
  (oo (rh λa b e=>VAL.br e) ((aO (aO (aO (beq_iff _ _) (beq_iff _ _)) (beq_iff _ _)) (qt _ _ rfl)).trans ⟨λh=>by cases a;cases b;obtain ⟨⟨⟨h1,h2⟩,h3⟩,h4⟩:=h;congr 1,λh=>by rw [h];exact ⟨⟨⟨rfl,rfl⟩,rfl⟩,rfl⟩⟩))) (by kernel_rfl)
theorem Gq {n:Nat} (l r:List VAL) (h:Ls n VB l):Sam fy (bL 4 (gR1 VAL.c)) l r:=
 jS (m:=sx) 4 (gR1 VAL.c) (bA VAL.c) (λl r j=>bA VAL.c (l.getD j default) (r.getD j default)) l r (λa b h=>bj (λa b e=>VAL.br e) h) (λ_ _ _=>rfl) (λa ha b _=>P6 a b (h.2 a ha)) h.1.2 (by kernel_rfl) (λi L k kn=>by kernel_rfl) (λu o=>by kernel_rfl)
noncomputable abbrev Vd:Ent:=eSa fy (bL 4 (gR1 VAL.c))
abbrev bX (l r:List EXP):List AV:=[exL l,exL r]
theorem No (l r:List EXP) (hl:l.length<=1048576) (he:∀a∈l,∀b:EXP,Sam db (bA eC) a b):Sam fe bX l r:=by
 have h:=jS (id:=fe) (m:=db) 5 (λl j=>vO (lp l) j) (bA eC) (λl r j=>[.agg (vO (lp l) j),.agg (vO (lp r) j)]) l r (GX (λa b e=>wg e) λl j hj=>zO hj) (λj h1 h2=>by rw [zO h1,zO h2]) (λa ha b _=>he a ha b) hl (by kernel_rfl) (λi L k kn=>by kernel_rfl) (λu o=>by kernel_rfl)
 have e:bL 5 (λl j=>vO (lp l) j)=bX:=funext λl=>funext λr=>by show [rI (lp l),rI (lp r)]=_;rw [pO,pO]
 rw [e] at h
 exact h
noncomputable abbrev V6:Ent:=eSa fe bX
theorem EXP.VY {a b:EXP} (h1:a.op=b.op) (h2:a.kind=b.kind) (h3:a.name=b.name) (h4:a.vals=b.vals) (h5:a.kids=b.kids):a=b:=by
 cases a;cases b
 simp only [EXP.op,EXP.kind,EXP.name,EXP.vals,EXP.kids] at h1 h2 h3 h4 h5
 subst h1 h2 h3 h4 h5;rfl
theorem Ma:∀ (n:Nat) (a b:EXP),a.size<=n->XB a->Sam db (bA eC) a b
 | 0,a,b,hs,_=>by rw [a.size_eq] at hs;omega
 | n+1,a,b,hs,h=>by
  rw [a.size_eq] at hs
  obtain ⟨h1,h2,h3,h4,h5,h6⟩:=PL h
  exact cW (V:=V0) [Vd,V6] 1 (.call (Gq a.vals b.vals h4) λt qt=>.call (No a.kids b.kids (Nat.le_trans h5 (by decide)) λx hx y=>Ma n x y (by have:=(sM h6 x hx).2;omega) (sM h6 x hx).1) λs qs=>
   .r (bif bif bif bif a.op==b.op then a.kind==b.kind else false then a.name==b.name else false then t else false then s else false)
    (oo (rh λa b e=>wg e) ((aO (aO (aO (aO (beq_iff _ _) (beq_iff _ _)) (beq_iff _ _)) (qt _ _ rfl)) (qs _ _ rfl)).trans ⟨λh=>EXP.VY h.1.1.1.1 h.1.1.1.2 h.1.1.2 h.1.2 h.2,λh=>by rw [h];exact ⟨⟨⟨⟨rfl,rfl⟩,rfl⟩,rfl⟩,rfl⟩⟩))) (by kernel_rfl)
theorem AQ {a:EXP} (b:EXP) (h:XB a/\a.size<=60):Sam db (bA eC) a b:=Ma 60 a b h.2 h.1
noncomputable abbrev eSx:Ent:=eSa db (bA eC)
noncomputable abbrev eSr:Ent:=eSa oy (bL 3 (gR1 kl))
theorem L8 {a:SERVE} (b:SERVE) (h:SB a):Sam qJ (bA SERVE.c) a b:=
 cW (V:=V0) [eSr] 1 (.call (L9 a.split b.split h.split.1.2) λt qt=>.r (bif bif bif bif a.var==b.var then a.kind==b.kind else false then a.by'==b.by' else false then a.salt==b.salt else false then t else false)
  (oo (rh λa b e=>SERVE.br e) ((aO (aO (aO (aO (beq_iff _ _) (beq_iff _ _)) (beq_iff _ _)) (beq_iff _ _)) (qt _ _ rfl)).trans ⟨λh=>by cases a;cases b;obtain ⟨⟨⟨⟨h1,h2⟩,h3⟩,h4⟩,h5⟩:=h;congr 1,λh=>by rw [h];exact ⟨⟨⟨⟨rfl,rfl⟩,rfl⟩,rfl⟩,rfl⟩⟩))) (by kernel_rfl)
noncomputable abbrev Ug:Ent:=eSa qJ (bA SERVE.c)
theorem My {w:Bool} (X:Bool) (h:w=true):(bif w then true else X)=true:=by rw [h];rfl
theorem or3 {x y z:Bool} (h:(bif bif x then true else y then true else z)=false):x=false/\y=false/\z=false:=by cases x <;> cases y <;> cases z <;> simp_all
theorem Ni {n:Nat} (l r:List TGT) (hl:Ls n TB l):Sam jH (bL 3 (gR1 TGT.c)) l r:=
 Da (T:=[eSs]) (d:=1) (λa b h=>bj (λa b e=>TGT.br e) h) (aw (V:=V0) (T:=[eSs]) (d:=1) (W:=[]) (f:=jH) (p:=pP) (Lf:=λL=>L) (SQ (.sl .no 3 l.length (gR1 TGT.c l)) (.sl .no 3 r.length (gR1 TGT.c r))) (saI l r) (λi=>(l.length - i).toNat) yn (λb=>b=true↔l=r) (by kernel_rfl)
  (λi hi=>.b (decide (i < (l.length:Int))) (λh=>
    have h0:i.toNat < l.length:=by have:=of_decide_eq_true h;have:=hi.1.1.1;omega
    have a1:=bu hi.1.1 h
    have a2:=bu (n:=r.length) (hi.1.2 ▸ hi.1.1) (hi.1.2 ▸ h)
    .n a1 (.n a2 (.n (My (!bif (!((l.getD i.toNat default).kind==(r.getD i.toNat default).kind))==false then true else false) a1) (.n (My (!bif (!((l.getD i.toNat default).kind==(r.getD i.toNat default).kind))==false then true else false) a2)
    (.n (My (!bif (bif !((l.getD i.toNat default).kind==(r.getD i.toNat default).kind) then true else (l.getD i.toNat default).var !=(r.getD i.toNat default).var)==false then true else false) a1) (.n (My (!bif (bif !((l.getD i.toNat default).kind==(r.getD i.toNat default).kind) then true else (l.getD i.toNat default).var !=(r.getD i.toNat default).var)==false then true else false) a2)
    (.call (CY (l.getD i.toNat default).keys (r.getD i.toNat default).keys (hl.2 _ (kV h0)).2.2.1.2) λt qt=>
     have q:=qt _ _ rfl
     .b (bif bif !((l.getD i.toNat default).kind==(r.getD i.toNat default).kind) then true else (l.getD i.toNat default).var !=(r.getD i.toNat default).var then true else !t)
      (λht=>.fi false ⟨λh=>(by cases h),λe=>absurd e (Db λe=>by
       have:t=true:=q.2 (by rw [e])
       rw [this,e] at ht;simp at ht)⟩)
      λht=>
      have hq:=or3 ht
      have hn:=r8 (Nat.le_trans hl.1.2 (by decide)) hi h (by
       have e1:(l.getD i.toNat default).kind=(r.getD i.toNat default).kind:=by simpa using hq.1
       have e2:(l.getD i.toNat default).var=(r.getD i.toNat default).var:=by simpa using hq.2.1
       have e3:=q.1 (by simpa using hq.2.2)
       generalize l.getD i.toNat default=a at e1 e2 e3
       generalize r.getD i.toNat default=b at e1 e2 e3
       cases a;cases b;congr 1)
      .to (IntKind.wrap .i64 (i+1)) hn.1 hn.2)))))))
   λh=>.fi true ⟨λ_=>xc hi h,λ_=>rfl⟩) (λi L k kn=>by kernel_rfl)) (λu o=>by kernel_rfl)
theorem Nk {n:Nat} (l r:List RULE) (hl:Ls n UB l):Sam lT (bL 11 (gR1 RULE.c)) l r:=
 Da (T:=[eSx,Ug]) (d:=1) (λa b h=>bj (λa b e=>RULE.br e) h) (aw (V:=V0) (T:=[eSx,Ug]) (d:=1) (W:=[]) (f:=lT) (p:=pP) (Lf:=λL=>L) (SQ (.sl .no 11 l.length (gR1 RULE.c l)) (.sl .no 11 r.length (gR1 RULE.c r))) (saI l r) (λi=>(l.length - i).toNat) yn (λb=>b=true↔l=r) (by kernel_rfl)
  (λi hi=>.b (decide (i < (l.length:Int))) (λh=>
    have h0:i.toNat < l.length:=by have:=of_decide_eq_true h;have:=hi.1.1.1;omega
    have a1:=bu hi.1.1 h
    have a2:=bu (n:=r.length) (hi.1.2 ▸ hi.1.1) (hi.1.2 ▸ h)
    have hu:=hl.2 _ (kV h0)
    .n a1 (.n a2 (.n (My (!bif (!((l.getD i.toNat default).name==(r.getD i.toNat default).name))==false then true else false) a1) (.n (My (!bif (!((l.getD i.toNat default).name==(r.getD i.toNat default).name))==false then true else false) a2)
    (.call (AQ (r.getD i.toNat default).when hu.2.1) λt qt=>
    .n (My (!bif (bif !((l.getD i.toNat default).name==(r.getD i.toNat default).name) then true else !t)==false then true else false) a1) (.n (My (!bif (bif !((l.getD i.toNat default).name==(r.getD i.toNat default).name) then true else !t)==false then true else false) a2)
    (.call (L8 (r.getD i.toNat default).serve hu.2.2) λs qs=>
     have q:=qt _ _ rfl
     have q':=qs _ _ rfl
     .b (bif bif !((l.getD i.toNat default).name==(r.getD i.toNat default).name) then true else !t then true else !s)
      (λht=>.fi false ⟨λh=>(by cases h),λe=>absurd e (Db λe=>by
       have e1:t=true:=q.2 (by rw [e])
       have e2:s=true:=q'.2 (by rw [e])
       rw [e1,e2,e] at ht;simp at ht)⟩)
      λht=>
      have hq:=or3 ht
      have hn:=r8 (Nat.le_trans hl.1.2 (by decide)) hi h (by
       have e1:(l.getD i.toNat default).name=(r.getD i.toNat default).name:=by simpa using hq.1
       have e2:=q.1 (by simpa using hq.2.1)
       have e3:=q'.1 (by simpa using hq.2.2)
       generalize l.getD i.toNat default=a at e1 e2 e3
       generalize r.getD i.toNat default=b at e1 e2 e3
       cases a;cases b;congr 1)
      .to (IntKind.wrap .i64 (i+1)) hn.1 hn.2)))))))
   λh=>.fi true ⟨λ_=>xc hi h,λ_=>rfl⟩) (λi L k kn=>by kernel_rfl)) (λu o=>by kernel_rfl)
noncomputable abbrev eLi (id:FuncId) (sz:Nat) {α:Type} [Inhabited α] (C:α->List AV):Ent:=eSa id (bL sz (gR1 C))
theorem P8 {a:SEG} (b:SEG) (h:GB a):Sam nq (bA SEG.c) a b:=
 cW (V:=V0) [eSs,eSx] 1 (.call (CY a.incl b.incl h.incl.1.2) λt qt=>.call (CY a.excl b.excl h.excl.1.2) λs qs=>.call (AQ b.when h.when) λx qx=>
  .r (bif bif bif bif a.key==b.key then a.kind==b.kind else false then t else false then s else false then x else false)
  (oo (rh λa b e=>SM.SEG.br e) ((aO (aO (aO (aO (beq_iff _ _) (beq_iff _ _)) (qt _ _ rfl)) (qs _ _ rfl)) (qx _ _ rfl)).trans ⟨λh=>by cases a;cases b;obtain ⟨⟨⟨⟨h1,h2⟩,h3⟩,h4⟩,h5⟩:=h;congr 1,λh=>by rw [h];exact ⟨⟨⟨⟨rfl,rfl⟩,rfl⟩,rfl⟩,rfl⟩⟩))) (by kernel_rfl)
theorem Nj {n:Nat} (l r:List SEG) (h:Ls n GB l):Sam lR (bL 9 (gR1 SEG.c)) l r:=
 jS (m:=nq) 9 (gR1 SEG.c) (bA SEG.c) (λl r j=>bA SEG.c (l.getD j default) (r.getD j default)) l r (λa b h=>bj (λa b e=>SM.SEG.br e) h) (λ_ _ _=>rfl) (λa ha b _=>P8 b (h.2 a ha)) h.1.2 (by kernel_rfl) (λi L k kn=>by kernel_rfl) (λu o=>by kernel_rfl)
theorem Qb {a:FLAG} (b:FLAG) (h:FB a):Sam ti (bA FLAG.c) a b:=
 cW (V:=V0) [Vd,eLi ir 2 PRQ.c,eLi jH 3 TGT.c,eLi lT 11 RULE.c,Ug] 1 (.call (Gq a.vars b.vars h.vars) λt1 q1=>.call (P9 a.prqs b.prqs h.prqs.1.2) λt2 q2=>.call (Ni a.tgts b.tgts h.tgts) λt3 q3=>.call (Nk a.rules b.rules h.rules) λt4 q4=>.call (L8 b.dflt h.dflt) λt5 q5=>
  .r (bif bif bif bif bif bif bif bif a.key==b.key then a.kind==b.kind else false then t1 else false then a.on==b.on else false then a.off==b.off else false then t2 else false then t3 else false then t4 else false then t5 else false)
  (oo (rh λa b e=>SM.FLAG.br e) ((aO (aO (aO (aO (aO (aO (aO (aO (beq_iff _ _) (beq_iff _ _)) (q1 _ _ rfl)) (beq_iff _ _)) (beq_iff _ _)) (q2 _ _ rfl)) (q3 _ _ rfl)) (q4 _ _ rfl)) (q5 _ _ rfl)).trans
   ⟨λh=>by cases a;cases b;obtain ⟨⟨⟨⟨⟨⟨⟨⟨h1,h2⟩,h3⟩,h4⟩,h5⟩,h6⟩,h7⟩,h8⟩,h9⟩:=h;congr 1,λh=>by rw [h];exact ⟨⟨⟨⟨⟨⟨⟨⟨rfl,rfl⟩,rfl⟩,rfl⟩,rfl⟩,rfl⟩,rfl⟩,rfl⟩,rfl⟩⟩))) (by kernel_rfl)
theorem Nn {n:Nat} (l r:List FLAG) (h:Ls n FB l):Sam qH (bL 13 (gR1 FLAG.c)) l r:=
 jS (m:=ti) 13 (gR1 FLAG.c) (bA FLAG.c) (λl r j=>bA FLAG.c (l.getD j default) (r.getD j default)) l r (λa b h=>bj (λa b e=>SM.FLAG.br e) h) (λ_ _ _=>rfl) (λa ha b _=>Qb b (h.2 a ha)) h.1.2 (by kernel_rfl) (λi L k kn=>by kernel_rfl) (λu o=>by kernel_rfl)
theorem Qa {a:LAYER} (b:LAYER) (h:LB a):Sam qK (bA LAYER.c) a b:=
 cW (V:=V0) [eLi nk 3 kl] 1 (.call (Np a.cooling b.cooling h.cooling.1.2) λt q=>
  .r (bif bif bif bif bif a.key==b.key then a.kind==b.kind else false then a.salt==b.salt else false then a.hold==b.hold else false then a.cool==b.cool else false then t else false)
  (oo (rh λa b e=>SM.LAYER.br e) ((aO (aO (aO (aO (aO (beq_iff _ _) (beq_iff _ _)) (beq_iff _ _)) (beq_iff _ _)) (beq_iff _ _)) (q _ _ rfl)).trans ⟨λh=>by cases a;cases b;obtain ⟨⟨⟨⟨⟨h1,h2⟩,h3⟩,h4⟩,h5⟩,h6⟩:=h;congr 1,λh=>by rw [h];exact ⟨⟨⟨⟨⟨rfl,rfl⟩,rfl⟩,rfl⟩,rfl⟩,rfl⟩⟩))) (by kernel_rfl)
theorem Nl {n:Nat} (l r:List LAYER) (h:Ls n LB l):Sam ov (bL 6 (gR1 LAYER.c)) l r:=
 jS (m:=qK) 6 (gR1 LAYER.c) (bA LAYER.c) (λl r j=>bA LAYER.c (l.getD j default) (r.getD j default)) l r (λa b h=>bj (λa b e=>SM.LAYER.br e) h) (λ_ _ _=>rfl) (λa ha b _=>Qa b (h.2 a ha)) h.1.2 (by kernel_rfl) (λi L k kn=>by kernel_rfl) (λu o=>by kernel_rfl)
theorem P5 {a:EXPT} (b:EXPT) (h:PX a):Sam jW (bA EXPT.c) a b:=
 cW (V:=V0) [eLi qI 2 uK,eSr,eSx] 1 (.call (P7 a.claims b.claims h.claims.1.2) λt1 q1=>.call (L9 a.arms b.arms h.arms.1.2) λt2 q2=>.call (AQ b.when h.when) λt3 q3=>
  .r (bif bif bif bif bif bif bif a.key==b.key then a.layer==b.layer else false then a.flag==b.flag else false then a.salt==b.salt else false then a.status==b.status else false then t1 else false then t2 else false then t3 else false)
  (oo (rh λa b e=>SM.EXPT.br e) ((aO (aO (aO (aO (aO (aO (aO (beq_iff _ _) (beq_iff _ _)) (beq_iff _ _)) (beq_iff _ _)) (beq_iff _ _)) (q1 _ _ rfl)) (q2 _ _ rfl)) (q3 _ _ rfl)).trans
   ⟨λh=>by cases a;cases b;obtain ⟨⟨⟨⟨⟨⟨⟨h1,h2⟩,h3⟩,h4⟩,h5⟩,h6⟩,h7⟩,h8⟩:=h;congr 1,λh=>by rw [h];exact ⟨⟨⟨⟨⟨⟨⟨rfl,rfl⟩,rfl⟩,rfl⟩,rfl⟩,rfl⟩,rfl⟩,rfl⟩⟩))) (by kernel_rfl)
theorem Nh {n:Nat} (l r:List EXPT) (h:Ls n PX l):Sam jq (bL 12 (gR1 EXPT.c)) l r:=
 jS (m:=jW) 12 (gR1 EXPT.c) (bA EXPT.c) (λl r j=>bA EXPT.c (l.getD j default) (r.getD j default)) l r (λa b h=>bj (λa b e=>SM.EXPT.br e) h) (λ_ _ _=>rfl) (λa ha b _=>P5 b (h.2 a ha)) h.1.2 (by kernel_rfl) (λi L k kn=>by kernel_rfl) (λu o=>by kernel_rfl)
theorem Qf (a b:ENV):di [.str a.salt,.str a.hkind,.int .i64 a.hold] [.str b.salt,.str b.hkind,.int .i64 b.hold]=true↔(a.salt=b.salt/\a.hkind=b.hkind)/\a.hold=b.hold:=by simp [di,Iq,OV,and_assoc]
theorem Qc {a:ENV} (b:ENV) (h:EB a):Sam xl (bA ENV.c) a b:=
 cW (V:=V0) [eLi lS 3 atc,eLi lR 9 SEG.c,eLi qH 13 FLAG.c,eLi ov 6 LAYER.c,eLi jq 12 EXPT.c] 1 (.call (Qd a.attrs b.attrs h.attrs.1.2) λt1 q1=>.call (Nj a.segs b.segs h.segs) λt2 q2=>.call (Nn a.flags b.flags h.flags) λt3 q3=>.call (Nl a.layers b.layers h.layers) λt4 q4=>.call (Nh a.expts b.expts h.expts) λt5 q5=>
  .r (bif bif bif bif bif di [.str a.salt,.str a.hkind,.int .i64 a.hold] [.str b.salt,.str b.hkind,.int .i64 b.hold] then t1 else false then t2 else false then t3 else false then t4 else false then t5 else false)
  (oo (rh λa b e=>BZ e) ((aO (aO (aO (aO (aO (Qf a b) (q1 _ _ rfl)) (q2 _ _ rfl)) (q3 _ _ rfl)) (q4 _ _ rfl)) (q5 _ _ rfl)).trans
   ⟨λh=>by cases a;cases b;obtain ⟨⟨⟨⟨⟨⟨⟨h1,h2⟩,h3⟩,h4⟩,h5⟩,h6⟩,h7⟩,h8⟩:=h;congr 1,λh=>by rw [h];exact ⟨⟨⟨⟨⟨⟨⟨rfl,rfl⟩,rfl⟩,rfl⟩,rfl⟩,rfl⟩,rfl⟩,rfl⟩⟩))) (by kernel_rfl)
theorem I2 {r:RW} {l:List UInt8} (h:Byt r l):lj r.n r.g=true:=by
 unfold lj
 rw [List.all_eq_true]
 intro j hj
 rw [h.2 j (List.mem_range.1 hj)];rfl
theorem I1 {r:RW} {l:List UInt8} (h:Byt r l):bytesOf r.n r.g=l:=by
 unfold bytesOf
 refine List.ext_getElem (by rw [List.length_map,List.length_range];exact h.1) λi k1 k2=>?_
 rw [List.getElem_map,List.getElem_range,h.2 i (by rw [h.1];exact k2)]
 simp only [rowOf,List.getD,List.getElem?_eq_getElem k2,Option.getD_some]
 show UInt8.ofNat (((l[i].toNat:Nat):Int).toNat)=l[i]
 rw [Int.toNat_natCast]
 simp
open Go.SM (ENV iG)
open Go.SO (SmE)
noncomputable abbrev tDi:List Ent:=[We,eNw,Wb,bc wd mS φEn rCg,eEc,eRE,eSa xl (bA ENV.c)]
abbrev byA (n:Nat) (g:Nat->Int):AV:=.sl .no 1 n λj=>[.int .u8 (g j)]
theorem MG {l:List AV} {os:List AO} {v w:ENV} (hv:v.Ok) (h0:iG v=0) (hw:w.Ok):Run (rIs true l os) φB
  (cond (gR wd ay φEc rEc (kp v) []) (cond (gR wd ay φEc rEc (kp w) []) (cond (bif (wR wd ay φEc rEc (kp v) []).e !=0 then true else (wR wd ay φEc rEc (kp w) []).e !=0)
   (cond (gR wd bO SH.φE (rC kp iG) (kp v) []) (cond (gR wd bO SH.φE (rC kp iG) (kp w) []) (some (φB (bif bif bif (wR wd ay φEc rEc (kp v) []).e==wR wd bO SH.φE (rC kp iG) (kp v) [] then (wR wd ay φEc rEc (kp w) []).e==wR wd bO SH.φE (rC kp iG) (kp w) [] else false then true else (wR wd ay φEc rEc (kp v) []).e==4 then true else (wR wd ay φEc rEc (kp w) []).e==4))) none) none)
   (cond (lj (wR wd ay φEc rEc (kp v) []).r.n (wR wd ay φEc rEc (kp v) []).r.g) (cond (lj (wR wd ay φEc rEc (kp w) []).r.n (wR wd ay φEc rEc (kp w) []).r.g) (cond (gR wd xl φB (rSa (bA ENV.c)) (bA ENV.c v w) [])
    (some (φB ((bytesOf (wR wd ay φEc rEc (kp v) []).r.n (wR wd ay φEc rEc (kp v) []).r.g==bytesOf (wR wd ay φEc rEc (kp w) []).r.n (wR wd ay φEc rEc (kp w) []).r.g)==wR wd xl φB (rSa (bA ENV.c)) (bA ENV.c v w) []))) none) none) none)) none) none):=by
 have er:∀e:ENV,e.Ok->aJ wd bO SH.φE (rC kp iG) (kp e) []:=λe he=>aJ.rC Jg (G9 e he)
 obtain ⟨gx,qx,_⟩:=(ub v hv).at
 obtain ⟨gy,qy,_⟩:=(ub w hw).at
 have hx:=(qx v rfl).2 h0
 have hy:=qy w rfl
 generalize wR wd ay φEc rEc (kp v) []=x at hx
 generalize wR wd ay φEc rEc (kp w) []=y at hy
 refine .n gx (.n gy (.b _ (λh=>.call (T:=λt1=>cond (gR wd bO SH.φE (rC kp iG) (kp w) []) (some (φB (bif bif bif x.e==t1 then y.e==wR wd bO SH.φE (rC kp iG) (kp w) [] else false then true else x.e==4 then true else y.e==4))) none) (er v hv) λt1 q1=>.call (T:=λt2=>some (φB (bif bif bif x.e==t1 then y.e==t2 else false then true else x.e==4 then true else y.e==4))) (er w hw) λt2 q2=>.r _ ?_) λh=>?_))
 ·have e1:t1=0:=(q1 v rfl).trans h0
  have e2:t2=iG w:=q2 w rfl
  show (bif bif bif x.e==t1 then y.e==t2 else false then true else x.e==4 then true else y.e==4)=true
  rcases hx with ⟨hx,_⟩ | ⟨hx,_⟩
  ·rw [hx];cases (bif (4:Int)==t1 then y.e==t2 else false) <;> rfl
  ·by_cases hz:iG w=0
   ·rcases hy.2 hz with ⟨hy,_⟩ | ⟨hy,_⟩
    ·rw [hy];cases (bif x.e==t1 then (4:Int)==t2 else false) <;> cases (x.e==4) <;> rfl
    ·rw [hx,hy] at h;cases h
   ·rw [hx,e1,hy.1 hz,e2];simp
 ·have h1:x.e=0/\y.e=0:=by
   cases hxe:(x.e !=0) with
   | true=>rw [hxe] at h;cases h
   | false=>rw [hxe] at h;exact ⟨by simpa using hxe,by simpa using h⟩
  have hz:iG w=0:=by
   apply Classical.byContradiction
   intro hz
   exact hz ((hy.1 hz).symm.trans h1.2)
  have bx:Byt x.r (yq v):=by
   rcases hx with ⟨hx,_⟩ | ⟨_,hx⟩
   ·rw [h1.1] at hx;cases hx
   ·exact hx
  have by':Byt y.r (yq w):=by
   rcases hy.2 hz with ⟨hy,_⟩ | ⟨_,hy⟩
   ·rw [h1.2] at hy;cases hy
   ·exact hy
  have ev:=DW hv h0
  have ew:=DW hw hz
  refine .n (I2 bx) (.n (I2 by') (.call (T:=λt=>some (φB ((bytesOf x.r.n x.r.g==bytesOf y.r.n y.r.g)==t))) (Qc w ev) λt qt=>.r _ ?_))
  have q:=qt v w rfl
  show ((bytesOf x.r.n x.r.g==bytesOf y.r.n y.r.g)==t)=true
  rw [I1 bx,I1 by']
  by_cases hb:yq v=yq w
  ·rw [hb,q.2 ((Ad ev ew).1 hb)];simp
  ·have:t=false:=by
    cases t with
    | false=>rfl
    | true=>exact absurd ((Ad ev ew).2 (q.1 rfl)) hb
   rw [this];simp [hb]
theorem B9 {n m:Nat} {g h:Nat->Int} (hg:∀j,j < n->0<=g j/\g j < 256) (hh:∀j,j < m->0<=h j/\h j < 256) (near:Bool):aJ wd oG φB (rIs true) [byA n g,byA m h,.bool near] []:=
 cW (V:=V0) tDi 2 (.call Pn λx qa=>.b (!x) (λh=>.r false (by rw [show x=true from qa] at h;cases h)) λ_=>.call (HE hg) λC hC=>.call (HE hh) λD hD=>.call (MC 10 hC) λv qv=>.call (MC 10 hD) λw qw=>
  .b near (λ_=>.call (IY v.1 qv.1.1 10 qw.2) λu qu=>MG qv.1.1.ok qv.1.2 (qu.1.ok (by decide))) λ_=>MG qv.1.1.ok qv.1.2 qw.1.1.ok) (by kernel_rfl)
theorem TJ {n m:Nat} {g h:Nat->Int} (hg:∀j,j < n->0<=g j/\g j < 256) (hh:∀j,j < m->0<=h j/\h j < 256) (near:Bool):Ct wd.P wd.G 3 [byA n g,byA m h,.bool near] [] (φB true):=by
 obtain ⟨x,hx,hc⟩:=B9 hg hh near
 rw [show x=true from hx] at hc
 exact hc
open Go Go.Ab Go.Proofs Go.RowKit Go.Proofs.YtkmecnnkfpfjiaaGreatDoor
def dints:List (DataW Unit)->List Int
 | .lit (.int _ z)::r=>z::dints r
 | _=>[]
def dpairs:List (DataW Unit)->List (Int×Int)
 | .agg [.lit (.int _ y),.lit (.int _ z)]::r=>(y,z)::dpairs r
 | _=>[]
def parts:DataW Unit->List (DataW Unit)
 | .agg ds=>ds
 | _=>[]
theorem GH {w:World} {d:DataW Unit} (hd:d=.agg ((dints (parts d)).map λz=>.lit (.int .u8 z))) (hl:(dints (parts d)).length=256) (hc:dcells d=(dints (parts d)).map λz=>.int .u8 z):Go.Ab.RX (λ_=>()) Tryz.prog w false 252 d (dcells d):=by
 rw [hc]
 have:=Nw (enc:=λ_=>()) (P:=Tryz.prog) (w:=w) (held:=false) (t:=252) (e:=5) (m:=256) (k:=.u8) (zs:=dints (parts d)) Tryz.underlying252 Tryz.underlying5 (by kernel_rfl) (by kernel_rfl) hl
 rwa [<-hd] at this
theorem Kj {w:World} {d:DataW Unit} (hd:d=.agg ((dpairs (parts d)).map λp=>.agg [.lit (.int .u8 p.1),.lit (.int .u8 p.2)])) (hl:(dpairs (parts d)).length=16) (hc:dcells d=((dpairs (parts d)).map λp=>[AV.int .u8 p.1]++[AV.int .u8 p.2]).flatten):Go.Ab.RX (λ_=>()) Tryz.prog w false 255 d (dcells d):=by
 rw [hc]
 have:=r9 (enc:=λ_=>()) (P:=Tryz.prog) (w:=w) (held:=false) (t:=255) (e:=254) (m:=16) (sz:=2) (ds:=(dpairs (parts d)).map λp=>.agg [.lit (.int .u8 p.1),.lit (.int .u8 p.2)]) (us:=(dpairs (parts d)).map λp=>[AV.int .u8 p.1]++[AV.int .u8 p.2]) Tryz.underlying255 (by kernel_rfl) (by kernel_rfl) (by simpa using hl) (λi d u hd hu=>by
  rw [List.getElem?_map,Option.map_eq_some_iff] at hd hu
  obtain ⟨z,hz,rfl⟩:=hd
  obtain ⟨z',hz',rfl⟩:=hu
  obtain rfl:z=z':=by rw [hz] at hz';exact Option.some.inj hz'
  exact Qk Tryz.underlying254 (GF Tryz.underlying5 (by kernel_rfl)) (GF Tryz.underlying5 (by kernel_rfl)) rfl (by kernel_rfl) (by kernel_rfl)) (by simpa using hl)
 rwa [<-hd] at this
set_option maxRecDepth 100000 in
theorem Bs {w:World} (h:w.ShapedOpen Tryz.prog):Rep (c8 w) (.elt [.num .i64] 0) (.pointer (some ⟨7,0,none⟩)):=by
 obtain ⟨cs,h1,h2,h3⟩:=h.1 7 #[.int .i64 0] 3 (of_decide_eq_true (by kernel_rfl)) (by kernel_rfl)
 obtain ⟨ts,e1,e2,e3⟩:=h3 (by kernel_rfl)
 have e0:Tryz.prog.cellTypes Tryz.prog.depth 3=some [3]:=by kernel_rfl
 rw [e0] at e1
 obtain rfl:=Option.some.inj e1
 have hlt:0 < cs.size:=by rw [h2];decide
 obtain ⟨u,hu,hok⟩:=e3 0 cs[0] (Array.getElem?_eq_getElem hlt)
 simp only [List.length_singleton,Nat.mod_one,List.getElem?_cons_zero,Option.some.injEq] at hu
 subst hu
 unfold Cell.ok at hok
 rw [show Tryz.prog.underlying 3=some (.int .i64) from Tryz.underlying3] at hok
 have hcell:∀i,w.cell? ⟨7,i,none⟩=cs[i]?:=λi=>by
  unfold World.cell?
  simp [h1]
 refine zd hcell ⟨by simpa using h2,λu hu=>by simp at hu;subst hu;exact ⟨rfl,rfl⟩,λi u hu=>?_⟩
 cases i with
 | succ i=>simp at hu
 | zero=>
  simp at hu;subst hu
  rw [List.getD_eq_getElem?_getD,Array.getElem?_toList,Array.getElem?_eq_getElem hlt]
  show Rep _ _ cs[0]
  generalize cs[0]=v at hok ⊢
  cases v with
  | int k n=>obtain ⟨rfl,_⟩:=hok;exact .num _ _
  | _=>simp at hok
def dtexts:List (DataW Unit)->List (List UInt8)
 | .lit (.string s)::r=>s::dtexts r
 | _=>[]
def dlists:List (DataW Unit)->List (List (List UInt8))
 | .slice es _::r=>dtexts es::dlists r
 | _=>[]
theorem Dc {w:World} {t m:Nat} {d:DataW Unit} (ht:Tryz.prog.underlying t=some (.array m 9)) (hc:Tryz.prog.cellsOf t=m*1) (hd:d=.agg ((dtexts (parts d)).map λs=>.lit (.string s))) (hl:(dtexts (parts d)).length=m) (he:dcells d=(dtexts (parts d)).map λs=>.str s):Go.Ab.RX (λ_=>()) Tryz.prog w false t d (dcells d):=by
 rw [he]
 have:=r9 (enc:=λ_=>()) (P:=Tryz.prog) (w:=w) (held:=false) (t:=t) (e:=9) (m:=m) (sz:=1) (ds:=(dtexts (parts d)).map λs=>.lit (.string s)) (us:=(dtexts (parts d)).map λs=>[AV.str s]) ht (by kernel_rfl) hc (by simpa using hl) (λi d u hd hu=>by
  rw [List.getElem?_map,Option.map_eq_some_iff] at hd hu
  obtain ⟨z,hz,rfl⟩:=hd
  obtain ⟨z',hz',rfl⟩:=hu
  obtain rfl:z=z':=by rw [hz] at hz';exact Option.some.inj hz'
  exact Mf Tryz.underlying9 (by kernel_rfl)) (by simpa using hl)
 rw [<-hd] at this
 have hf:∀l:List (List UInt8),(l.map λs=>[AV.str s]).flatten=l.map λs=>AV.str s:=λl=>by induction l with | nil=>rfl | cons s r ih=>simp [ih]
 rwa [hf] at this
theorem Ki {w:World} {t m:Nat} {d:DataW Unit} (ht:Tryz.prog.underlying t=some (.array m 52)) (hc:Tryz.prog.cellsOf t=m*1) (hd:d=.agg ((dlists (parts d)).map λl=>.slice (l.map λs=>.lit (.string s)) [])) (hl:(dlists (parts d)).length=m) (he:dcells d=(dlists (parts d)).map λl=>Ge l):Go.Ab.RX (λ_=>()) Tryz.prog w false t d (dcells d):=by
 rw [he]
 have:=r9 (enc:=λ_=>()) (P:=Tryz.prog) (w:=w) (held:=false) (t:=t) (e:=52) (m:=m) (sz:=1) (ds:=(dlists (parts d)).map λl=>.slice (l.map λs=>.lit (.string s)) []) (us:=(dlists (parts d)).map λl=>[Ge l]) ht (by kernel_rfl) hc (by simpa using hl) (λi d u hd hu=>by
  rw [List.getElem?_map,Option.map_eq_some_iff] at hd hu
  obtain ⟨z,hz,rfl⟩:=hd
  obtain ⟨z',hz',rfl⟩:=hu
  obtain rfl:z=z':=by rw [hz] at hz';exact Option.some.inj hz'
  exact Nv Tryz.underlying52 Tryz.underlying9 (by kernel_rfl) (by kernel_rfl)) (by simpa using hl)
 rw [<-hd] at this
 have hf:∀l:List (List (List UInt8)),(l.map λs=>[Ge s]).flatten=l.map λs=>Ge s:=λl=>by induction l with | nil=>rfl | cons s r ih=>simp [ih]
 rwa [hf] at this
theorem H9 {w:World} {laid:List (String×DataW Unit)} (h:laidMet Tryz.prog laid w) (ho:w.ShapedOpen Tryz.prog)
  (m1:("flagstone/flagstonedraw.texts",Rows.laid_flagstone_flagstonedraw_texts)∈laid)
  (m2:("flagstone/flagstonedraw.versions",Rows.laid_flagstone_flagstonedraw_versions)∈laid)
  (m3:("flagstone/flagstonedraw.lists",Rows.laid_flagstone_flagstonedraw_lists)∈laid)
  (m4:("unicode/utf8.first",Rows.laid_unicode_utf8_first)∈laid)
  (m5:("unicode/utf8.acceptRanges",Rows.laid_unicode_utf8_acceptRanges)∈laid)
  (m6:("strings.asciiSpace",Rows.laid_strings_asciiSpace)∈laid)
  (m9:("strconv.ErrSyntax",Rows.laid_strconv_ErrSyntax)∈laid)
  (m10:("strconv.ErrRange",Rows.laid_strconv_ErrRange)∈laid) :
  ∀g cs,glb g=some cs->Rep (c8 w) (.elt cs 0) (.pointer (some ⟨g,0,none⟩)):=by
 intro g cs hg
 unfold glb at hg
 by_cases h1:g=0
 ·subst h1
  obtain rfl:=Option.some.inj hg
  exact jo h m1 (by kernel_rfl) (by kernel_rfl) (Dc (m:=11) (t:=100) (by kernel_rfl) (by kernel_rfl) (by kernel_rfl) (by kernel_rfl) (by kernel_rfl))
 rw [mW h1,cond_false] at hg
 by_cases h2:g=1
 ·subst h2
  obtain rfl:=Option.some.inj hg
  exact jo h m2 (by kernel_rfl) (by kernel_rfl) (Dc (m:=6) (t:=163) (by kernel_rfl) (by kernel_rfl) (by kernel_rfl) (by kernel_rfl) (by kernel_rfl))
 rw [mW h2,cond_false] at hg
 by_cases h3:g=2
 ·subst h3
  obtain rfl:=Option.some.inj hg
  exact jo h m3 (by kernel_rfl) (by kernel_rfl) (Ki (m:=5) (t:=164) (by kernel_rfl) (by kernel_rfl) (by kernel_rfl) (by kernel_rfl) (by kernel_rfl))
 rw [mW h3,cond_false] at hg
 by_cases h4:g=3
 ·subst h4
  obtain rfl:=Option.some.inj hg
  exact jo h m4 (by kernel_rfl) (by kernel_rfl) (GH (by kernel_rfl) (by kernel_rfl) (by kernel_rfl))
 rw [mW h4,cond_false] at hg
 by_cases h5:g=4
 ·subst h5
  obtain rfl:=Option.some.inj hg
  exact jo h m5 (by kernel_rfl) (by kernel_rfl) (Kj (by kernel_rfl) (by kernel_rfl) (by kernel_rfl))
 rw [mW h5,cond_false] at hg
 by_cases h6:g=5
 ·subst h6
  obtain rfl:=Option.some.inj hg
  exact jo h m6 (by kernel_rfl) (by kernel_rfl) (GH (by kernel_rfl) (by kernel_rfl) (by kernel_rfl))
 rw [mW h6,cond_false] at hg
 by_cases h8:g=7
 ·subst h8
  obtain rfl:=Option.some.inj hg
  exact Bs ho
 rw [mW h8,cond_false] at hg
 by_cases h9:g=8
 ·subst h9
  obtain rfl:=Option.some.inj hg
  exact jo h m9 (by kernel_rfl) (by kernel_rfl) (Dd Tryz.underlying313 (by kernel_rfl))
 rw [mW h9,cond_false] at hg
 by_cases h10:g=9
 ·subst h10
  obtain rfl:=Option.some.inj hg
  exact jo h m10 (by kernel_rfl) (by kernel_rfl) (Dd Tryz.underlying313 (by kernel_rfl))
 rw [mW h10,cond_false] at hg
 cases hg
section
variable {H:Type} {enc:TypeId×Value->H} {w:World} {N:Nat}
def LP (z:Int):Prop:=0<=z/\z < 256
theorem Qq (n:Nat):Reads enc Tryz.prog w N n 5 (λz:Int=>[.int .u8 z]) LP:=(Hd Tryz.underlying5).map id (λ_=>rfl) λz h=>by
 simp [Lit.wf,IntKind.min,IntKind.max,IntKind.signed,IntKind.bits] at h
 exact ⟨h.1,by show z < 256;omega⟩
def Pj (l:List Int):AV:=.sl .no 1 l.length λj=>[.int .u8 (l.getD j 0)]
theorem He (n:Nat):Reads enc Tryz.prog w N n 22 (λl:List Int=>[Pj l]) (λl=>∀z∈l,LP z):=
 (A8 (e:=5) (sz:=1) (α:=Int) (cl:=λz=>[.int .u8 z]) (Ok:=LP) (λl j=>[.int .u8 (l.getD j 0)]) Tryz.underlying22 (by kernel_rfl) (by omega) (λ_=>rfl) (λ_ _ _=>rfl) (λm _=>Qq m)).map id (λ_=>rfl) λl h=>h.2.2
end
theorem yU {P:Program} {H:Type} {enc:TypeId×Value->H} {W:World} {base:Nat} {t e:TypeId} {v:Value} {d:DataW H} {p:List MemPlace} {α:Type} {cl:α->AV} {Ok:α->Prop} (hs:P.underlying t=some (.slice e))
  (hv:Value.okWide P W .any base t v) (h:DataW.Trod enc P W 0 (λ_=>true) true t v d p) {N:Nat} (hr:∀n,Reads enc P W N n t (λa=>[cl a]) Ok) (hb:nf d<=N) :
  ∃a,Ok a/\Rep (c8 W) (cl a) v/\(cl a).keys=[]:=by
 obtain ⟨a,len,cap,rfl⟩:=Go.WideShapes.okWide_slice hs hv
 obtain ⟨n,hn⟩:=h
 obtain ⟨x,h1,h2⟩:=hr n (Value.slice a len cap).cells.toList (d,p) hn hb
 refine ⟨x,h2,?_,(h1.one _ (by simp)).2⟩
 simpa [Value.cells] using h1.rep 0 _ rfl
end Go.T
