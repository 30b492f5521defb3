/- Is an experiment running: any answer. Library calls that write a slice of texts in place (a sort, a shortening): their contracts of worlds told as contracts. -/
import Derived.Test.YtofjmkmjdaccgaaGreatDoorX6
import Derived.Sort.Grow
import Derived.Sort.EncStr
set_option linter.unusedVariables false
set_option linter.unusedSimpArgs false
namespace Go.WF
open Go Go.Ab Go.Proofs
structure EVP where
 s1:TX
 s2:TX
 s3:TX
 s4:TX
 s5:TX
 s6:TX
 g1:TX
 g2:TX
 g3:TX
 g4:TX
 ho:Int
 c:Int
 a1:Int
 a2:Int
 fl:Nat->List AV
def ik (p:EVP):AV:=.agg [.str [],.str [],.int .i64 0,.sl .fit 0 0 λx=>[] ,.sl .fit 0 0 λx=>[] ,.sl .no 13 4 p.fl,.sl .no 6 2 (λj=>cond (Nat.beq j 0) [.str [104,111,109,101],.str [117,115,101,114],.str p.s1,.int .i64 p.ho,.int .i64 0,.sl .fit 0 0 λx=>[] ] [.str [115,104,111,112],.str [117,115,101,114],.str p.s2,.int .i64 p.ho,.int .i64 0,.sl .fit 0 0 λx=>[] ]),.sl .no 12 4 (λj=>cond (Nat.beq j 0) [.str [98,108,117,101],.str [104,111,109,101],.str p.g1,.str p.s3,.int .i64 2,.sl .fit 2 1 (ag [.int .i64 0,.int .i64 0] [(0,.agg [.int .i64 p.ho,.int .i64 p.c])]),.sl .fit 3 3 (ag [.int .i64 0,.int .i64 0,.int .i64 0] [(0,.agg [.int .i64 0,.int .i64 p.a1,.int .i64 1]),(1,.agg [.int .i64 p.a1,.int .i64 p.a2,.int .i64 2]),(2,.agg [.int .i64 p.a2,.int .i64 10000,.int .i64 3])]),.int .i64 1,.str [],.str [],.sl .fit 0 0 λx=>[] ,.sl .fit 0 0 λx=>[] ] (cond (Nat.beq j 1) [.str [102,97,115,116],.str [115,104,111,112],.str p.g2,.str p.s4,.int .i64 2,.sl .fit 2 1 (ag [.int .i64 0,.int .i64 0] [(0,.agg [.int .i64 p.ho,.int .i64 p.c])]),.sl .fit 3 3 (ag [.int .i64 0,.int .i64 0,.int .i64 0] [(0,.agg [.int .i64 0,.int .i64 p.a1,.int .i64 1]),(1,.agg [.int .i64 p.a1,.int .i64 p.a2,.int .i64 2]),(2,.agg [.int .i64 p.a2,.int .i64 10000,.int .i64 3])]),.int .i64 1,.str [],.str [],.sl .fit 0 0 λx=>[] ,.sl .fit 0 0 λx=>[] ] (cond (Nat.beq j 2) [.str [103,114,101,101,110],.str [104,111,109,101],.str p.g3,.str p.s5,.int .i64 2,.sl .fit 2 1 (ag [.int .i64 0,.int .i64 0] [(0,.agg [.int .i64 p.c,.int .i64 10000])]),.sl .fit 3 3 (ag [.int .i64 0,.int .i64 0,.int .i64 0] [(0,.agg [.int .i64 0,.int .i64 p.a1,.int .i64 1]),(1,.agg [.int .i64 p.a1,.int .i64 p.a2,.int .i64 2]),(2,.agg [.int .i64 p.a2,.int .i64 10000,.int .i64 3])]),.int .i64 1,.str [],.str [],.sl .fit 0 0 λx=>[] ,.sl .fit 0 0 λx=>[] ] [.str [115,108,111,119],.str [115,104,111,112],.str p.g4,.str p.s6,.int .i64 2,.sl .fit 2 1 (ag [.int .i64 0,.int .i64 0] [(0,.agg [.int .i64 p.c,.int .i64 10000])]),.sl .fit 3 3 (ag [.int .i64 0,.int .i64 0,.int .i64 0] [(0,.agg [.int .i64 0,.int .i64 p.a1,.int .i64 1]),(1,.agg [.int .i64 p.a1,.int .i64 p.a2,.int .i64 2]),(2,.agg [.int .i64 p.a2,.int .i64 10000,.int .i64 3])]),.int .i64 1,.str [],.str [],.sl .fit 0 0 λx=>[] ,.sl .fit 0 0 λx=>[] ]))) ]
theorem C8 (p:EVP) (f:FD):bz wd cP φBo gS [ik p,.agg f.c] []:=
 bn (V:=Vb [22,23,24,25] [] []) (T:=[]) (d:=16) 0 ao ak (.b (bif bif [98,108,117,101]==FD.exp f then [104,111,109,101]==FD.layer f else false then 2==2 else false) (λh1=>
   .b (1==FD.arm f) (λh2=>
    .r ((decide (0≥0))) trivial) λh2=>
   .b (2==FD.arm f) (λh3=>
    .r ((decide (0≥0))) trivial) λh3=>
   .b (3==FD.arm f) (λh4=>
    .r ((decide (0≥0))) trivial) λh4=>
   .b (bif bif [102,97,115,116]==FD.exp f then [115,104,111,112]==FD.layer f else false then 2==2 else false) (λh5=>
    .b (1==FD.arm f) (λh6=>
     .r ((decide (IntKind.wrap .i64 (0+1)≥0))) trivial) λh6=>
    .b (2==FD.arm f) (λh7=>
     .r ((decide (IntKind.wrap .i64 (0+1)≥0))) trivial) λh7=>
    .b (3==FD.arm f) (λh8=>
     .r ((decide (IntKind.wrap .i64 (0+1)≥0))) trivial) λh8=>
    .b (bif bif [103,114,101,101,110]==FD.exp f then [104,111,109,101]==FD.layer f else false then 2==2 else false) (λh9=>
     .b (1==FD.arm f) (λh10=>
      .r ((decide (IntKind.wrap .i64 (IntKind.wrap .i64 (0+1)+1)≥0))) trivial) λh10=>
     .b (2==FD.arm f) (λh11=>
      .r ((decide (IntKind.wrap .i64 (IntKind.wrap .i64 (0+1)+1)≥0))) trivial) λh11=>
     .b (3==FD.arm f) (λh12=>
      .r ((decide (IntKind.wrap .i64 (IntKind.wrap .i64 (0+1)+1)≥0))) trivial) λh12=>
     .b (bif bif [115,108,111,119]==FD.exp f then [115,104,111,112]==FD.layer f else false then 2==2 else false) (λh13=>
      .b (1==FD.arm f) (λh14=>
       .r ((decide (IntKind.wrap .i64 (IntKind.wrap .i64 (IntKind.wrap .i64 (0+1)+1)+1)≥0))) trivial) λh14=>
      .b (2==FD.arm f) (λh15=>
       .r ((decide (IntKind.wrap .i64 (IntKind.wrap .i64 (IntKind.wrap .i64 (0+1)+1)+1)≥0))) trivial) λh15=>
      .b (3==FD.arm f) (λh16=>
       .r ((decide (IntKind.wrap .i64 (IntKind.wrap .i64 (IntKind.wrap .i64 (0+1)+1)+1)≥0))) trivial) λh16=>
      .r ((decide (-1≥0))) trivial) λh13=>
     .r ((decide (-1≥0))) trivial) λh9=>
    .b (bif bif [115,108,111,119]==FD.exp f then [115,104,111,112]==FD.layer f else false then 2==2 else false) (λh17=>
     .b (1==FD.arm f) (λh18=>
      .r ((decide (IntKind.wrap .i64 (IntKind.wrap .i64 (IntKind.wrap .i64 (0+1)+1)+1)≥0))) trivial) λh18=>
     .b (2==FD.arm f) (λh19=>
      .r ((decide (IntKind.wrap .i64 (IntKind.wrap .i64 (IntKind.wrap .i64 (0+1)+1)+1)≥0))) trivial) λh19=>
     .b (3==FD.arm f) (λh20=>
      .r ((decide (IntKind.wrap .i64 (IntKind.wrap .i64 (IntKind.wrap .i64 (0+1)+1)+1)≥0))) trivial) λh20=>
     .r ((decide (-1≥0))) trivial) λh17=>
    .r ((decide (-1≥0))) trivial) λh5=>
   .b (bif bif [103,114,101,101,110]==FD.exp f then [104,111,109,101]==FD.layer f else false then 2==2 else false) (λh21=>
    .b (1==FD.arm f) (λh22=>
     .r ((decide (IntKind.wrap .i64 (IntKind.wrap .i64 (0+1)+1)≥0))) trivial) λh22=>
    .b (2==FD.arm f) (λh23=>
     .r ((decide (IntKind.wrap .i64 (IntKind.wrap .i64 (0+1)+1)≥0))) trivial) λh23=>
    .b (3==FD.arm f) (λh24=>
     .r ((decide (IntKind.wrap .i64 (IntKind.wrap .i64 (0+1)+1)≥0))) trivial) λh24=>
    .b (bif bif [115,108,111,119]==FD.exp f then [115,104,111,112]==FD.layer f else false then 2==2 else false) (λh25=>
     .b (1==FD.arm f) (λh26=>
      .r ((decide (IntKind.wrap .i64 (IntKind.wrap .i64 (IntKind.wrap .i64 (0+1)+1)+1)≥0))) trivial) λh26=>
     .b (2==FD.arm f) (λh27=>
      .r ((decide (IntKind.wrap .i64 (IntKind.wrap .i64 (IntKind.wrap .i64 (0+1)+1)+1)≥0))) trivial) λh27=>
     .b (3==FD.arm f) (λh28=>
      .r ((decide (IntKind.wrap .i64 (IntKind.wrap .i64 (IntKind.wrap .i64 (0+1)+1)+1)≥0))) trivial) λh28=>
     .r ((decide (-1≥0))) trivial) λh25=>
    .r ((decide (-1≥0))) trivial) λh21=>
   .b (bif bif [115,108,111,119]==FD.exp f then [115,104,111,112]==FD.layer f else false then 2==2 else false) (λh29=>
    .b (1==FD.arm f) (λh30=>
     .r ((decide (IntKind.wrap .i64 (IntKind.wrap .i64 (IntKind.wrap .i64 (0+1)+1)+1)≥0))) trivial) λh30=>
    .b (2==FD.arm f) (λh31=>
     .r ((decide (IntKind.wrap .i64 (IntKind.wrap .i64 (IntKind.wrap .i64 (0+1)+1)+1)≥0))) trivial) λh31=>
    .b (3==FD.arm f) (λh32=>
     .r ((decide (IntKind.wrap .i64 (IntKind.wrap .i64 (IntKind.wrap .i64 (0+1)+1)+1)≥0))) trivial) λh32=>
    .r ((decide (-1≥0))) trivial) λh29=>
   .r ((decide (-1≥0))) trivial) λh1=>
  .b (bif bif [102,97,115,116]==FD.exp f then [115,104,111,112]==FD.layer f else false then 2==2 else false) (λh33=>
   .b (1==FD.arm f) (λh34=>
    .r ((decide (IntKind.wrap .i64 (0+1)≥0))) trivial) λh34=>
   .b (2==FD.arm f) (λh35=>
    .r ((decide (IntKind.wrap .i64 (0+1)≥0))) trivial) λh35=>
   .b (3==FD.arm f) (λh36=>
    .r ((decide (IntKind.wrap .i64 (0+1)≥0))) trivial) λh36=>
   .b (bif bif [103,114,101,101,110]==FD.exp f then [104,111,109,101]==FD.layer f else false then 2==2 else false) (λh37=>
    .b (1==FD.arm f) (λh38=>
     .r ((decide (IntKind.wrap .i64 (IntKind.wrap .i64 (0+1)+1)≥0))) trivial) λh38=>
    .b (2==FD.arm f) (λh39=>
     .r ((decide (IntKind.wrap .i64 (IntKind.wrap .i64 (0+1)+1)≥0))) trivial) λh39=>
    .b (3==FD.arm f) (λh40=>
     .r ((decide (IntKind.wrap .i64 (IntKind.wrap .i64 (0+1)+1)≥0))) trivial) λh40=>
    .b (bif bif [115,108,111,119]==FD.exp f then [115,104,111,112]==FD.layer f else false then 2==2 else false) (λh41=>
     .b (1==FD.arm f) (λh42=>
      .r ((decide (IntKind.wrap .i64 (IntKind.wrap .i64 (IntKind.wrap .i64 (0+1)+1)+1)≥0))) trivial) λh42=>
     .b (2==FD.arm f) (λh43=>
      .r ((decide (IntKind.wrap .i64 (IntKind.wrap .i64 (IntKind.wrap .i64 (0+1)+1)+1)≥0))) trivial) λh43=>
     .b (3==FD.arm f) (λh44=>
      .r ((decide (IntKind.wrap .i64 (IntKind.wrap .i64 (IntKind.wrap .i64 (0+1)+1)+1)≥0))) trivial) λh44=>
     .r ((decide (-1≥0))) trivial) λh41=>
    .r ((decide (-1≥0))) trivial) λh37=>
   .b (bif bif [115,108,111,119]==FD.exp f then [115,104,111,112]==FD.layer f else false then 2==2 else false) (λh45=>
    .b (1==FD.arm f) (λh46=>
     .r ((decide (IntKind.wrap .i64 (IntKind.wrap .i64 (IntKind.wrap .i64 (0+1)+1)+1)≥0))) trivial) λh46=>
    .b (2==FD.arm f) (λh47=>
     .r ((decide (IntKind.wrap .i64 (IntKind.wrap .i64 (IntKind.wrap .i64 (0+1)+1)+1)≥0))) trivial) λh47=>
    .b (3==FD.arm f) (λh48=>
     .r ((decide (IntKind.wrap .i64 (IntKind.wrap .i64 (IntKind.wrap .i64 (0+1)+1)+1)≥0))) trivial) λh48=>
    .r ((decide (-1≥0))) trivial) λh45=>
   .r ((decide (-1≥0))) trivial) λh33=>
  .b (bif bif [103,114,101,101,110]==FD.exp f then [104,111,109,101]==FD.layer f else false then 2==2 else false) (λh49=>
   .b (1==FD.arm f) (λh50=>
    .r ((decide (IntKind.wrap .i64 (IntKind.wrap .i64 (0+1)+1)≥0))) trivial) λh50=>
   .b (2==FD.arm f) (λh51=>
    .r ((decide (IntKind.wrap .i64 (IntKind.wrap .i64 (0+1)+1)≥0))) trivial) λh51=>
   .b (3==FD.arm f) (λh52=>
    .r ((decide (IntKind.wrap .i64 (IntKind.wrap .i64 (0+1)+1)≥0))) trivial) λh52=>
   .b (bif bif [115,108,111,119]==FD.exp f then [115,104,111,112]==FD.layer f else false then 2==2 else false) (λh53=>
    .b (1==FD.arm f) (λh54=>
     .r ((decide (IntKind.wrap .i64 (IntKind.wrap .i64 (IntKind.wrap .i64 (0+1)+1)+1)≥0))) trivial) λh54=>
    .b (2==FD.arm f) (λh55=>
     .r ((decide (IntKind.wrap .i64 (IntKind.wrap .i64 (IntKind.wrap .i64 (0+1)+1)+1)≥0))) trivial) λh55=>
    .b (3==FD.arm f) (λh56=>
     .r ((decide (IntKind.wrap .i64 (IntKind.wrap .i64 (IntKind.wrap .i64 (0+1)+1)+1)≥0))) trivial) λh56=>
    .r ((decide (-1≥0))) trivial) λh53=>
   .r ((decide (-1≥0))) trivial) λh49=>
  .b (bif bif [115,108,111,119]==FD.exp f then [115,104,111,112]==FD.layer f else false then 2==2 else false) (λh57=>
   .b (1==FD.arm f) (λh58=>
    .r ((decide (IntKind.wrap .i64 (IntKind.wrap .i64 (IntKind.wrap .i64 (0+1)+1)+1)≥0))) trivial) λh58=>
   .b (2==FD.arm f) (λh59=>
    .r ((decide (IntKind.wrap .i64 (IntKind.wrap .i64 (IntKind.wrap .i64 (0+1)+1)+1)≥0))) trivial) λh59=>
   .b (3==FD.arm f) (λh60=>
    .r ((decide (IntKind.wrap .i64 (IntKind.wrap .i64 (IntKind.wrap .i64 (0+1)+1)+1)≥0))) trivial) λh60=>
   .r ((decide (-1≥0))) trivial) λh57=>
  .r ((decide (-1≥0))) trivial) (by kernel_rfl)
abbrev gy:TX:=[103,114,101,101,110]
def FdG (f:FD):Prop:=f.layer=aI/\(f.exp=lu∨f.exp=gy)/\(f.arm=1∨f.arm=2∨f.arm=3)
theorem Gx (p:EVP):bz wd cP φBo (rE true) [ik p,.agg (FD.mk aI lu 1).c] []:=bn (V:=Vb [22,23,24,25] [] []) (T:=[]) (d:=16) 0 ao ak (.r true rfl) (by kernel_rfl)
theorem Gw (p:EVP):bz wd cP φBo (rE true) [ik p,.agg (FD.mk aI lu 2).c] []:=bn (V:=Vb [22,23,24,25] [] []) (T:=[]) (d:=16) 0 ao ak (.r true rfl) (by kernel_rfl)
theorem Gv (p:EVP):bz wd cP φBo (rE true) [ik p,.agg (FD.mk aI lu 3).c] []:=bn (V:=Vb [22,23,24,25] [] []) (T:=[]) (d:=16) 0 ao ak (.r true rfl) (by kernel_rfl)
theorem Gt (p:EVP):bz wd cP φBo (rE true) [ik p,.agg (FD.mk aI gy 1).c] []:=bn (V:=Vb [22,23,24,25] [] []) (T:=[]) (d:=16) 0 ao ak (.r true rfl) (by kernel_rfl)
theorem Gs (p:EVP):bz wd cP φBo (rE true) [ik p,.agg (FD.mk aI gy 2).c] []:=bn (V:=Vb [22,23,24,25] [] []) (T:=[]) (d:=16) 0 ao ak (.r true rfl) (by kernel_rfl)
theorem Gr (p:EVP):bz wd cP φBo (rE true) [ik p,.agg (FD.mk aI gy 3).c] []:=bn (V:=Vb [22,23,24,25] [] []) (T:=[]) (d:=16) 0 ao ak (.r true rfl) (by kernel_rfl)
def rRu (A:List AV) (_:List AO) (x:Bool):Prop:=∀f:FD,A.getD 1 .nilp=.agg f.c->FdG f->x=true
theorem Gu (p:EVP) (f:FD):bz wd cP φBo rRu [ik p,.agg f.c] []:=by
 by_cases hg:FdG f
 ·have key:bz wd cP φBo (rE true) [ik p,.agg f.c] []:=by
   obtain ⟨l,x,a⟩:=f
   obtain ⟨h1,h2,h3⟩:=hg
   have h1:l=aI:=h1
   have h2:x=lu∨x=gy:=h2
   have h3:a=1∨a=2∨a=3:=h3
   subst h1
   rcases h2 with rfl | rfl <;> rcases h3 with rfl | rfl | rfl
   ·exact Gx p
   ·exact Gw p
   ·exact Gv p
   ·exact Gt p
   ·exact Gs p
   ·exact Gr p
  exact key.mono λx hx _ _ _=>hx
 ·exact (C8 p f).mono λx hx g e h=>by
   have e:AV.agg f.c=.agg g.c:=e
   injection e with e
   rw [FD.jb e] at hg
   exact absurd h hg
noncomputable abbrev eRu:Ent:=dK wd cP φBo rRu
end Go.WF

namespace Go.WF
open Go Go.Ab Go.Proofs Go.Sort
def txR (l:List (List UInt8)) (j:Nat):List AV:=[.str (l.getD j [])]
def Ie (c:Cx) (W:World) (b m:Nat):Cx:={c with w:=W,I:=λx o=>c.I x o∨(x=b/\o < m)}
theorem Df {l:List (List UInt8)} {vs:Array Value} {j:Nat} (hs:l.length<=vs.size) (hj:j < l.length):(putCells encStr 0 l.toArray vs)[j]?=some (.string ⟨(l.getD j []).toArray⟩):=by
 have h1:j < vs.size:=Nat.lt_of_lt_of_le hj hs
 simp [putCells,Array.getElem?_mapIdx,h1,hj,getElem!_pos]
theorem yL {l:List (List UInt8)} {vs:Array Value}:(putCells encStr 0 l.toArray vs).size=vs.size:=by simp [putCells]
section
variable {c:Cx} {b q:Nat} {l:List (List UInt8)} {os:Array Obj}
theorem wb {vs:Array Value} {t:TypeId} {fz:Nat×Nat} (h:c.w.heap[b]?=some (.cells vs t fz)):(grow (putRow encStr (Go.Sort.ahead c.w q) b 0 l.toArray) os).heap[b]?=some (.cells (putCells encStr 0 l.toArray vs) t fz):=by
 have hb:=aQ h
 have:b < (putRow encStr (Go.Sort.ahead c.w q) b 0 l.toArray).heap.size:=by simpa [putRow,mapBlock,Go.Sort.ahead] using hb
 rw [heap_grow_old _ _ this]
 simp [putRow,mapBlock,Go.Sort.ahead,Array.getElem?_modify,h,onCells]
theorem wa {x:Nat} (hx:x < c.w.heap.size) (hne:x≠b):(grow (putRow encStr (Go.Sort.ahead c.w q) b 0 l.toArray) os).heap[x]?=c.w.heap[x]?:=by
 have:x < (putRow encStr (Go.Sort.ahead c.w q) b 0 l.toArray).heap.size:=by simpa [putRow,mapBlock,Go.Sort.ahead] using hx
 rw [heap_grow_old _ _ this]
 simp only [putRow,mapBlock,Go.Sort.ahead,Array.getElem?_modify]
 rw [if_neg λe=>hne (Eq.symm e)]
end
theorem tR {G:Nat->Option (List AV)} {c:Cx} {k n:Nat} {get:Nat->List AV} {a:Addr} {cap:Nat} (hg:Good G c) (ho:dh c k (.grw 0 1 n get)) (hκ:c.κ k=some (a,cap)) (hc:0 < cap) (hn:n<=cap) {l:List (List UInt8)} (hl:l.length=n) {m:Nat} (hm:m<=n) (q:Nat) (os:Array Obj) {D K:Nat->Prop} (hD:D a.block) {N:Nat} :
  let c':=Ie c (grow (putRow encStr (Go.Sort.ahead c.w q) a.block 0 l.toArray) os) a.block m
  Good G c'/\Go.Ab.Frame {c0:=c,D:=D,K:=K,G:=G,N:=N} c'/\(∃vs t,c'.w.heap[a.block]?=some (.cells vs t (0,0))/\vs.size=cap/\∀j,j < n->vs[j]?=some (.string ⟨(l.getD j []).toArray⟩))/\a.off=0/\a.spot=none/\∀o,¬ c.I a.block o:=by
 intro c'
 have h3:=ho.2.2
 simp only [hκ] at h3
 obtain ⟨⟨vs,t,hh,hs,hv⟩,⟨a1,a2⟩,_,_,hfree⟩:=h3.2 hc
 have hfree':∀o,¬ c.I a.block o:=λo=>hfree o (by omega)
 rw [Nat.mul_one] at hs
 have hat:c'.w.heap[a.block]?=some (.cells (putCells encStr 0 l.toArray vs) t (0,0)):=wb hh
 have hne:∀ {x},x < c.w.heap.size->x≠a.block->c'.w.heap[x]?=c.w.heap[x]?:=λhx hne=>wa hx hne
 have hsz:c.w.heap.size<=c'.w.heap.size:=by
  show _<=(grow (putRow encStr (Go.Sort.ahead c.w q) a.block 0 l.toArray) os).heap.size
  rw [size_grow]
  have:(putRow encStr (Go.Sort.ahead c.w q) a.block 0 l.toArray).heap.size=c.w.heap.size:=by simp [putRow,mapBlock,Go.Sort.ahead]
  omega
 have hcells:∀j,j < n->(putCells encStr 0 l.toArray vs)[j]?=some (.string ⟨(l.getD j []).toArray⟩):=λj hj=>Df (by omega) (by omega)
 have hb:∀ {x o},c.I x o->x < c.w.heap.size/\x≠a.block:=fun {x o} hi=>⟨hg.lt hi,λe=>hfree' o (e ▸ hi)⟩
 have ext:∀ks:Nat->Prop,Ext c c' ks:=λks=>⟨λx o v hi hv=>by rw [World.bN (hne (hb hi).1 (hb hi).2)];exact hv,λ_ _ hi=>.inl hi,λ_ _=>rfl,λ_ _ _ _ h=>h,λx o ob hi he _=>by rw [hne (hb hi).1 (hb hi).2];exact he⟩
 refine ⟨⟨λx o hi=>?_,λg cs hgl=>(hg.globs g cs hgl).ext (ext λ_=>True) (by simp [AV.keys])⟩,⟨rfl,rfl,rfl,hsz,λx hx hd=>hne hx λe=>hd (e ▸ hD),ext _,λx o hx hd hi=>?_⟩,⟨_,t,hat,by rw [yL];exact hs,hcells⟩,a1,a2,hfree'⟩
 ·rcases hi with hi | ⟨rfl,ho⟩
  ·exact hg.block hi (hne (hb hi).1 (hb hi).2)
  ·exact .inl ⟨_,by rw [aY hat];exact hcells o (by omega)⟩
 ·rcases hi with hi | ⟨rfl,_⟩
  ·exact hi
  ·exact absurd hD hd
theorem x9 {c:Cx} {k n:Nat} {get:Nat->List AV} {x:Value} (ho:dh c k (.grw 0 1 n get)) (hx:Rep c (.gsl k 1 n) x):x=kF (c.κ k) n:=by
 have hf:c.fr k=some n:=ho.2.1
 have key:aG c (.key k) n x:=by cases hx with | gslNil _ _ h=>exact h | gsl _ _ _ a cap _ h=>exact h
 obtain ⟨m,h1,_,h3⟩:=key
 rw [hf] at h1
 exact h3 (Option.some.inj h1)
theorem holds_of {c:Cx} {k:Nat} {l:List (List UInt8)} {a:Addr} {cap:Nat} (ho:dh c k (.grw 0 1 l.length (txR l))) (hκ:c.κ k=some (a,cap)) (hc:0 < cap):Holds encStr c.w a.block 0 l.toArray/\a.block < c.w.heap.size/\a=⟨a.block,0,none⟩:=by
 have h3:=ho.2.2
 simp only [hκ] at h3
 obtain ⟨⟨vs,t,hh,hs,hv⟩,⟨a1,a2⟩,_,_,_⟩:=h3.2 hc
 refine ⟨λj hj=>?_,aQ hh,by cases a;simp at a1 a2;simp [a1,a2]⟩
 have hj':j < l.length:=by simpa using hj
 have:=hv j 0 (.str (l.getD j [])) hj' rfl
 rw [Nat.mul_one,Nat.add_zero] at this
 have hlt:j < vs.size:=by rw [hs];have:=h3.1;omega
 rw [Array.getD_eq_getD_getElem?,Array.getElem?_eq_getElem hlt,Option.getD_some] at this
 refine ⟨?_,by simpa using pC hh⟩
 rw [Nat.zero_add,aY hh,Array.getElem?_eq_getElem hlt]
 generalize vs[j]=y at this
 cases this
 simp [hj',getElem!_pos]
theorem sf {c:Cx} {o:AO} (h:dh c ae o) (hk:o.keys=[]):Objs c (af [o] ae):=by
 have look:∀ {k o'},alook (af [o] ae) k=some o'->k=ae/\o'=o:=fun {k o'} hk=>by
  simp only [af,alook] at hk
  cases e:Nat.beq ae k with
  | true=>rw [e] at hk;exact ⟨(Nat.eq_of_beq_eq_true e).symm,(Option.some.inj hk).symm⟩
  | false=>rw [e] at hk;cases hk
 refine ⟨λk o' hk=>?_,λk o1 k' o2 b h1 h2 hne=>?_,λk o' h1 q hq=>?_⟩
 ·obtain ⟨rfl,rfl⟩:=look hk;exact h
 ·exact absurd ((look h1).1.trans (look h2).1.symm) hne
 ·obtain ⟨rfl,rfl⟩:=look h1;rw [hk] at hq;cases hq
theorem oM {P:Program} {G:Nat->Option (List AV)} {f:FuncId} (hf:∃fn,P.funcs[f]?=some fn/\(fn.name=="runtime.NumGoroutine")=false/\fn.body.isSome=true) {l l':List (List UInt8)} (hl:l'.length=l.length)
  (hs:∀blk cap w,Holds encStr w blk 0 l.toArray->blk < w.heap.size->Calls P f #[.slice (some ⟨blk,0,none⟩) l.length cap] w λe w'=>e=.returned (.tuple #[])/\∃n os,w'=grow (putRow encStr (Go.Sort.ahead w n) blk 0 l'.toArray) os)
  (h0:∀p cap w,l.length=0->Calls P f #[.slice p 0 cap] w λe w'=>e=.returned (.tuple #[])/\w'=w) :
  Ct P G f [.gsl ae 1 l.length] [.grw 0 1 l.length (txR l)] (.tup [],[.grw 0 1 l'.length (txR l')]):=by
 refine ⟨λc vs hg ho hsz hr _=>?_,hf⟩
 have hob:dh c ae (.grw 0 1 l.length (txR l)):=ho.rep ae _ rfl
 have hx:=x9 hob (hr 0 _ rfl)
 have hvs:vs=#[kF (c.κ ae) l.length]:=by
  have:vs.size=1:=hsz
  apply Array.ext (by simpa using this)
  intro i h1 h2
  have hi:i=0:=by omega
  subst hi
  rw [Array.getD_eq_getD_getElem?,Array.getElem?_eq_getElem h1,Option.getD_some] at hx
  simpa using hx
 rw [hvs]
 rcases Nat.eq_zero_or_pos l.length with hz | hp
 ·have same:(AO.grw 0 1 l'.length (txR l'))=.grw 0 1 l.length (txR l):=by
   have e1:l=[]:=List.length_eq_zero_iff.1 hz
   have e2:l'=[]:=List.length_eq_zero_iff.1 (hl.trans hz)
   rw [e1,e2]
  have hx0:∃p cap,kF (c.κ ae) l.length=.slice p 0 cap:=by
   rw [hz]
   cases c.κ ae with
   | none=>exact ⟨_,_,rfl⟩
   | some ac=>exact ⟨_,_,rfl⟩
  obtain ⟨p,cap,hx0⟩:=hx0
  rw [hx0]
  refine (h0 p cap c.w hz).mono ?_
  rintro e w' ⟨rfl,rfl⟩
  refine ⟨c,_,rfl,rfl,hg,⟨rfl,rfl,rfl,Nat.le_refl _,λ_ _ _=>rfl,Ext.refl _ _,λ_ _ _ _ h=>h⟩,by show Objs c (af [_] ae);rw [same];exact ho,.tup _ _ rfl (by simp),by simp [AV.keys,au],λk o b hk hb=>?_⟩
  exact .inr ⟨k,o,by rw [<-same];exact hk,hb⟩
 ·cases hκ:c.κ ae with
  | none=>have h3:=hob.2.2;simp only [hκ] at h3;omega
  | some ac=>
   obtain ⟨a,cap⟩:=ac
   have h3:=hob.2.2
   simp only [hκ] at h3
   have hc:0 < cap:=by omega
   obtain ⟨hH,hlt,ha⟩:=holds_of hob hκ hc
   have hD:held c (af [.grw 0 1 l.length (txR l)] ae) a.block:=⟨ae,_,rfl,by simp [excl,hκ,hc]⟩
   show Calls P f #[.slice (some a) l.length cap] c.w _
   rw [congrArg some ha]
   refine (hs a.block cap c.w hH hlt).mono ?_
   rintro e w' ⟨rfl,n,os,rfl⟩
   obtain ⟨k1,k2,⟨vs',t,e1,e2,e3⟩,e4,e5,e6⟩:=tR (m:=0) (K:=live (af [.grw 0 1 l.length (txR l)] ae)) (N:=0) hg hob hκ hc h3.1 hl (Nat.zero_le _) n os hD
   refine ⟨_,_,rfl,rfl,k1,k2,sf ⟨⟨Nat.one_pos,Nat.zero_le _⟩,by rw [hl];exact hob.2.1,?_⟩ rfl,.tup _ _ rfl (by simp),by simp [AV.keys,au],λk o b hk hb=>?_⟩
   ·show (match c.κ ae with | none=>l'.length=0 | some (a,cap)=>l'.length<=cap/\(0 < cap->GrwAt _ a 0 1 l'.length cap (txR l')))
    rw [hκ]
    refine ⟨by omega,λ_=>⟨⟨vs',t,e1,by omega,λj i u hj hu=>?_⟩,⟨e4,e5⟩,λj hj=>⟨rfl,by simp [txR,au,AV.keys]⟩,λj i u hj hu=>?_,λo _ hi=>?_⟩⟩
    ·have hi:i=0:=by rcases i with _ | i <;> simp [txR] at hu ⊢
     subst hi
     simp [txR] at hu
     subst hu
     rw [Nat.mul_one,Nat.add_zero,Array.getD_eq_getD_getElem?,e3 j (by omega)]
     exact .str _
    ·rcases i with _ | i <;> simp [txR] at hu
     subst hu;rfl
    ·rcases hi with hi | ⟨_,hi⟩
     ·exact e6 o hi
     ·omega
   ·right
    refine ⟨ae,_,rfl,?_⟩
    simp only [af,alook] at hk
    cases e:Nat.beq ae k with
    | true=>
     rw [e] at hk
     cases Option.some.inj hk
     cases (Nat.eq_of_beq_eq_true e)
     exact hb
    | false=>rw [e] at hk;cases hk
theorem oL {P:Program} {G:Nat->Option (List AV)} {f:FuncId} (hf:∃fn,P.funcs[f]?=some fn/\(fn.name=="runtime.NumGoroutine")=false/\fn.body.isSome=true) {l l':List (List UInt8)} {m:Nat} (hl:l'.length=l.length) (hm:m<=l.length)
  (hs:∀blk cap w,Holds encStr w blk 0 l.toArray->l.length<=cap->Calls P f #[.slice (some ⟨blk,0,none⟩) l.length cap] w λe w'=>e=.returned (.slice (some ⟨blk,0,none⟩) m cap)/\∃n,w'=putRow encStr (Go.Sort.ahead w n) blk 0 l'.toArray)
  (h0:∀p cap w,l.length=0->Calls P f #[.slice p 0 cap] w λe w'=>e=.returned (.slice p 0 cap)/\w'=w) :
  Ct P G f [.gsl ae 1 l.length] [.grw 0 1 l.length (txR l)] (.sl .no 1 m (txR l'),[.gone]):=by
 refine ⟨λc vs hg ho hsz hr _=>?_,hf⟩
 have hob:dh c ae (.grw 0 1 l.length (txR l)):=ho.rep ae _ rfl
 have hx:=x9 hob (hr 0 _ rfl)
 have hvs:vs=#[kF (c.κ ae) l.length]:=by
  have:vs.size=1:=hsz
  apply Array.ext (by simpa using this)
  intro i h1 h2
  have hi:i=0:=by omega
  subst hi
  rw [Array.getD_eq_getD_getElem?,Array.getElem?_eq_getElem h1,Option.getD_some] at hx
  simpa using hx
 have last:∀ {c':Cx} {k o b},alook (af [AO.gone] ae) k=some o->excl c' k o b->c.w.heap.size<=b∨held c (af [.grw 0 1 l.length (txR l)] ae) b:=fun {c' k o b} hk hb=>by
  simp only [af,alook] at hk
  cases e:Nat.beq ae k with
  | true=>rw [e] at hk;cases Option.some.inj hk;cases hb
  | false=>rw [e] at hk;cases hk
 rw [hvs]
 rcases Nat.eq_zero_or_pos l.length with hz | hp
 ·have hm0:m=0:=by omega
  subst hm0
  have fin:∀p cap,kF (c.κ ae) l.length=.slice p 0 cap->Rep c (.sl .no 1 0 (txR l')) (.slice p 0 cap):=λp cap e=>by
   rw [hz] at e
   cases hκ:c.κ ae with
   | none=>rw [hκ] at e;cases e;exact .slNil _ _ _ trivial
   | some ac=>
    obtain ⟨a,cap'⟩:=ac
    rw [hκ] at e;cases e
    have h3:=hob.2.2
    simp only [hκ] at h3
    exact .sl _ _ _ _ _ _ (λ_ _=>undef) (λhc=>(h3.2 hc).addr.2) (Nat.zero_le _) trivial (λj hj=>absurd hj (Nat.not_lt_zero _)) (λj i u hj=>absurd hj (Nat.not_lt_zero _)) (λj i u hj=>absurd hj (Nat.not_lt_zero _))
  have hx0:∃p cap,kF (c.κ ae) l.length=.slice p 0 cap:=by
   rw [hz]
   cases c.κ ae with
   | none=>exact ⟨_,_,rfl⟩
   | some ac=>exact ⟨_,_,rfl⟩
  obtain ⟨p,cap,hx0⟩:=hx0
  have hfin:=fin p cap hx0
  rw [hx0]
  refine (h0 p cap c.w hz).mono ?_
  rintro e w' ⟨rfl,rfl⟩
  exact ⟨c,_,rfl,rfl,hg,⟨rfl,rfl,rfl,Nat.le_refl _,λ_ _ _=>rfl,Ext.refl _ _,λ_ _ _ _ h=>h⟩,sf trivial rfl,hfin,by simp [AV.keys],λk o b hk hb=>last hk hb⟩
 ·cases hκ:c.κ ae with
  | none=>have h3:=hob.2.2;simp only [hκ] at h3;omega
  | some ac=>
   obtain ⟨a,cap⟩:=ac
   have h3:=hob.2.2
   simp only [hκ] at h3
   have hc:0 < cap:=by omega
   obtain ⟨hH,hlt,ha⟩:=holds_of hob hκ hc
   have hD:held c (af [.grw 0 1 l.length (txR l)] ae) a.block:=⟨ae,_,rfl,by simp [excl,hκ,hc]⟩
   show Calls P f #[.slice (some a) l.length cap] c.w _
   rw [congrArg some ha]
   refine (hs a.block cap c.w hH h3.1).mono ?_
   rintro e w' ⟨rfl,n,rfl⟩
   obtain ⟨k1,k2,⟨vs',t,e1,e2,e3⟩,e4,e5,e6⟩:=tR (m:=m) (K:=live (af [.grw 0 1 l.length (txR l)] ae)) (N:=0) hg hob hκ hc h3.1 hl hm n #[] hD
   refine ⟨_,_,rfl,grow_empty _,k1,k2,sf trivial rfl,?_,by simp [AV.keys],λk o b hk hb=>last hk hb⟩
   refine .sl _ _ _ _ _ _ (λj _=>.string ⟨(l'.getD j []).toArray⟩) (λ_=>rfl) (by omega) trivial (λj hj=>⟨rfl,by simp [txR,au,AV.keys]⟩) (λj i u hj hu=>?_) (λj i u hj hu=>?_)
   ·rcases i with _ | i <;> simp [txR] at hu
    subst hu
    refine ⟨rfl,?_,.inr ⟨rfl,by simpa using hj⟩⟩
    show World.cell? _ ⟨a.block,0+(j*1+0),none⟩=_
    rw [Nat.zero_add,Nat.mul_one,Nat.add_zero,aY e1]
    exact e3 j (by omega)
   ·rcases i with _ | i <;> simp [txR] at hu
    subst hu
    exact .str _
end Go.WF
