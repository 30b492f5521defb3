/- The relation between abstract states and the model's frames. -/
import Derived.Test.YtmiiklmfnagbbaaDoorAbsRep
namespace Go.Ab
open Go Go.RowKit

theorem World.cell?_block {w w' : World} {b : Nat} (h : w'.heap[b]? = w.heap[b]?) (o : Nat) : w'.cell? ⟨b, o, none⟩ = w.cell? ⟨b, o, none⟩ := by
  unfold World.cell?; simp only [h]
theorem heap_setCell_ne (w : World) (b o : Nat) (v : Value) (b' : Nat) (h : b' ≠ b) : (w.setCell ⟨b, o, none⟩ v).heap[b']? = w.heap[b']? := by
  simp only [World.setCell, Array.getElem?_modify]; rw [if_neg (fun e => h e.symm)]
theorem heap_setCell_eq (w : World) (b o : Nat) (v : Value) (cs : Array Value) (t : TypeId) (fz : Nat × Nat) (h : w.heap[b]? = some (.cells cs t fz)) :
    (w.setCell ⟨b, o, none⟩ v).heap[b]? = some (.cells (cs.setIfInBounds o v) t fz) := by
  simp [World.setCell, Array.getElem?_modify, h]
theorem cell?_cells {w : World} {b o : Nat} {cs : Array Value} {t : TypeId} {fz : Nat × Nat} (h : w.heap[b]? = some (.cells cs t fz)) : w.cell? ⟨b, o, none⟩ = cs[o]? := by
  simp [World.cell?, h]
theorem frozen?_cells {w : World} {b o : Nat} {cs : Array Value} {t : TypeId} (h : w.heap[b]? = some (.cells cs t (0, 0))) : w.frozen? ⟨b, o, none⟩ = false := by
  simp [World.frozen?, h]
theorem heap_alloc_lt (w : World) (o : Obj) (b : Nat) (h : b < w.heap.size) : (w.alloc o).heap[b]? = w.heap[b]? := by
  show (w.heap.push o)[b]? = _
  rw [Array.getElem?_push, if_neg (Nat.ne_of_lt h)]
theorem heap_alloc_eq (w : World) (o : Obj) : (w.alloc o).heap[w.heap.size]? = some o := by
  show (w.heap.push o)[w.heap.size]? = _
  simp
theorem lt_of_heap {w : World} {b : Nat} {o : Obj} (h : w.heap[b]? = some o) : b < w.heap.size := by
  rcases Nat.lt_or_ge b w.heap.size with h' | h'
  · exact h'
  · simp [Array.getElem?_eq_none h'] at h
theorem lt_of_cell {w : World} {b o : Nat} {v : Value} (h : w.cell? ⟨b, o, none⟩ = some v) : b < w.heap.size := World.block_lt_of_cell? (a := ⟨b, o, none⟩) w h

/-- Where a call began: its context, the blocks that were handed over, the keys that were, the globals that are read, the number of slots. -/
structure Base where
  c0 : Cx
  D : Nat → Prop
  K : Nat → Prop
  G : Nat → Option (List AV)
  N : Nat

structure Frame (B : Base) (c : Cx) : Prop where
  os : c.w.os = B.c0.w.os
  output : c.w.output = B.c0.w.output
  tape : c.w.tape = B.c0.w.tape
  size : B.c0.w.heap.size ≤ c.w.heap.size
  block : ∀ b, b < B.c0.w.heap.size → ¬ B.D b → c.w.heap[b]? = B.c0.w.heap[b]?
  ext : Ext B.c0 c B.K
  new : ∀ b o, b < B.c0.w.heap.size → ¬ B.D b → c.I b o → B.c0.I b o

/-- From c to c' the world has grown, and nothing else that was there when the call began has turned. -/
structure Grow (B : Base) (c c' : Cx) : Prop where
  os : c'.w.os = c.w.os
  output : c'.w.output = c.w.output
  tape : c'.w.tape = c.w.tape
  size : c.w.heap.size ≤ c'.w.heap.size
  block : ∀ b, b < B.c0.w.heap.size → ¬ B.D b → c'.w.heap[b]? = c.w.heap[b]?
  new : ∀ b o, b < B.c0.w.heap.size → ¬ B.D b → c'.I b o → c.I b o
  there : ∀ b o, c'.I b o → ∃ v, c'.w.cell? ⟨b, o, none⟩ = some v

theorem Frame.grow {B : Base} {c c' : Cx} {ks : Nat → Prop} (h : Frame B c) (e : Ext c c' ks) (g : Grow B c c') (hk : ∀ k, B.K k → ks k) : Frame B c' :=
  ⟨g.os.trans h.os, g.output.trans h.output, g.tape.trans h.tape, Nat.le_trans h.size g.size, fun b hb hd => (g.block b hb hd).trans (h.block b hb hd),
   h.ext.trans (e.sub hk), fun b o hb hd hi => h.new b o hb hd (g.new b o hb hd hi)⟩

theorem Good.grow {B : Base} {c c' : Cx} {ks : Nat → Prop} (h : Good B.G c) (e : Ext c c' ks) (g : Grow B c c') : Good B.G c' :=
  ⟨g.there, fun gl cs hg => (h.globs gl cs hg).ext (ks := ks) e (by simp [AV.keys])⟩

def EnvRep (c : Cx) (a : Act) (t : Nat) : AV → Prop
  | .grd tc w v => (a.tmps.getD tc undef = .bool w → Rep c v (a.tmps.getD t undef)) ∧ (a.tmps.getD tc undef ≠ .bool w → a.tmps.getD t undef = undef)
  | v => Rep c v (a.tmps.getD t undef)

theorem EnvRep.ext {c c' : Cx} {a : Act} {t : Nat} {v : AV} {ks : Nat → Prop} (h : EnvRep c a t v) (e : Ext c c' ks) (hk : ∀ k ∈ v.keys, ks k) : EnvRep c' a t v := by
  cases v with
  | grd tc w v => exact ⟨fun hw => (h.1 hw).ext e (by simpa [AV.keys] using hk), h.2⟩
  | _ => exact Rep.ext h e hk

structure Rel (B : Base) (c : Cx) (s : St) (a : Act) : Prop where
  good : Good B.G c
  frame : Frame B c
  objs : Objs c s.objs
  env : ∀ t v, s.get t = some v → EnvRep c a t v
  closed : ∀ t v, s.get t = some v → ∀ k ∈ v.keys, live s.objs k
  mine : ∀ k o b, s.obj k = some o → excl c k o = some b → B.c0.w.heap.size ≤ b ∨ B.D b
  tmps : a.tmps.size = B.N
  defers : a.defers = []
  kept : ∀ k, B.K k → live s.objs k

theorem Rel.keep {B : Base} {c c' : Cx} {s : St} {a : Act} (h : Rel B c s a) (k : Keeps c c' s.objs) (g : Grow B c c') : Rel B c' s a :=
  ⟨h.good.grow k.ext g, h.frame.grow k.ext g h.kept, h.objs.keep k, fun t v hv => (h.env t v hv).ext k.ext (h.closed t v hv), h.closed,
   fun q o b hq hb => h.mine q o b hq (by rwa [excl_same (k.β q ⟨o, hq⟩) (k.κ q ⟨o, hq⟩)] at hb), h.tmps, h.defers, h.kept⟩

theorem live_aput {objs : List (Nat × AO)} {k : Nat} {o : AO} {q : Nat} (h : live objs q) : live (aput objs k o) q := by
  obtain ⟨o', h⟩ := h
  by_cases e : k = q
  · exact ⟨o, by simp [alook_aput, e]⟩
  · exact ⟨o', by simp [alook_aput, e, h]⟩
theorem live_aput_self {objs : List (Nat × AO)} {k : Nat} {o : AO} : live (aput objs k o) k := ⟨o, by simp [alook_aput]⟩

theorem Rel.obj {B : Base} {c c' : Cx} {s : St} {a : Act} {k : Nat} {o : AO} (h : Rel B c s a) (kb : KeepsBut c c' s.objs k) (g : Grow B c c')
    (hr : ObjRep c' k o) (ha : ∀ q o' b, alook s.objs q = some o' → q ≠ k → excl c q o' = some b → excl c' k o ≠ some b)
    (hc : ∀ r ∈ o.keys, r = k ∨ live s.objs r) (hm : ∀ b, excl c' k o = some b → B.c0.w.heap.size ≤ b ∨ B.D b) : Rel B c' (s.setObj k o) a :=
  ⟨h.good.grow kb.ext g, h.frame.grow kb.ext g h.kept, h.objs.put kb hr ha hc, fun t v hv => (h.env t v hv).ext kb.ext (h.closed t v hv),
   fun t v hv q hq => live_aput (h.closed t v hv q hq),
   fun q o' b hq hb => by
     rw [St.obj_setObj] at hq
     by_cases e : k = q
     · subst e; simp at hq; subst hq; exact hm b hb
     · simp [e] at hq
       exact h.mine q o' b hq (by rwa [excl_same (kb.β q ⟨o', hq⟩ (fun x => e x.symm)) (kb.κ q ⟨o', hq⟩ (fun x => e x.symm))] at hb),
   h.tmps, h.defers, fun q hq => live_aput (h.kept q hq)⟩

theorem getD_set {xs : Array Value} {d : Nat} {x : Value} {t : Nat} (hd : d < xs.size) : (xs.setIfInBounds d x).getD t undef = if d = t then x else xs.getD t undef := by
  simp only [Array.getD_eq_getD_getElem?, Array.getElem?_setIfInBounds]
  by_cases e : d = t
  · subst e; simp [hd]
  · simp [e]

/-- No slot's value waits for slot d. -/
def FreeOf (s : St) (d : Nat) : Prop := ∀ t tc w v, s.get t = some (.grd tc w v) → tc ≠ d

theorem EnvRep.of_rep {c : Cx} {a : Act} {t : Nat} {v : AV} (hg : v.isGrd = false) (h : Rep c v (a.tmps.getD t undef)) : EnvRep c a t v := by
  cases v <;> first | exact h | simp [AV.isGrd] at hg

theorem EnvRep.other {c : Cx} {a : Act} {t d : Nat} {v : AV} {x : Value} (h : EnvRep c a t v) (hd : d < a.tmps.size) (hne : d ≠ t) (hf : ∀ tc w v', v = .grd tc w v' → tc ≠ d) :
    EnvRep c (a.put (some d) x) t v := by
  have e1 : (a.put (some d) x).tmps.getD t undef = a.tmps.getD t undef := by simp only [Act.put]; rw [getD_set hd, if_neg hne]
  cases v with
  | grd tc w v =>
    have e2 : (a.put (some d) x).tmps.getD tc undef = a.tmps.getD tc undef := by simp only [Act.put]; rw [getD_set hd, if_neg (fun e => hf tc w v rfl e.symm)]
    simp only [EnvRep, e1, e2]; exact h
  | _ => simp only [EnvRep, e1]; exact h

theorem Rel.put {B : Base} {c : Cx} {s : St} {a : Act} {d : Nat} {v : AV} {x : Value} (h : Rel B c s a) (hd : d < B.N) (hr : Rep c v x) (hg : v.isGrd = false)
    (hk : ∀ k ∈ v.keys, live s.objs k) (hf : FreeOf s d) : Rel B c (s.put (some d) v) (a.put (some d) x) := by
  refine ⟨h.good, h.frame, by rw [St.objs_put]; exact h.objs, fun t u hu => ?_, fun t u hu k hk' => ?_, fun k o b ho => h.mine k o b (by simpa using ho), ?_, h.defers, by rw [St.objs_put]; exact h.kept⟩
  · rw [St.get_put] at hu
    by_cases e : d = t
    · subst e; simp at hu; subst hu
      refine EnvRep.of_rep hg ?_
      simp only [Act.put]; rw [getD_set (by rw [h.tmps]; exact hd), if_pos rfl]; exact hr
    · simp [e] at hu
      exact (h.env t u hu).other (by rw [h.tmps]; exact hd) e (fun tc w v' e' => hf t tc w v' (e' ▸ hu))
  · rw [St.objs_put]
    rw [St.get_put] at hu
    by_cases e : d = t
    · subst e; simp at hu; subst hu; exact hk k hk'
    · simp [e] at hu; exact h.closed t u hu k hk'
  · simp only [Act.put, Array.size_setIfInBounds]; exact h.tmps

theorem Rel.putG {B : Base} {c : Cx} {s : St} {a : Act} {d t : Nat} {w : Bool} {v : AV} {x : Value} (h : Rel B c s a) (hd : d < B.N) (hdt : d ≠ t)
    (hr : a.tmps.getD t undef = .bool w → Rep c v x) (hu : a.tmps.getD t undef ≠ .bool w → x = undef)
    (hk : ∀ k ∈ v.keys, live s.objs k) (hf : FreeOf s d) : Rel B c (s.put (some d) (.grd t w v)) (a.put (some d) x) := by
  have hsz : d < a.tmps.size := by rw [h.tmps]; exact hd
  have e1 : (a.put (some d) x).tmps.getD d undef = x := by simp only [Act.put]; rw [getD_set hsz, if_pos rfl]
  have e2 : (a.put (some d) x).tmps.getD t undef = a.tmps.getD t undef := by simp only [Act.put]; rw [getD_set hsz, if_neg hdt]
  refine ⟨h.good, h.frame, by rw [St.objs_put]; exact h.objs, fun q u hu' => ?_, fun q u hu' k hk' => ?_, fun k o b ho => h.mine k o b (by simpa using ho), ?_, h.defers, by rw [St.objs_put]; exact h.kept⟩
  · rw [St.get_put] at hu'
    by_cases e : d = q
    · subst e; simp at hu'; subst hu'
      simp only [EnvRep, e1, e2]; exact ⟨hr, hu⟩
    · simp [e] at hu'
      exact (h.env q u hu').other hsz e (fun tc w v' e' => hf q tc w v' (e' ▸ hu'))
  · rw [St.objs_put]
    rw [St.get_put] at hu'
    by_cases e : d = q
    · subst e; simp at hu'; subst hu'; exact hk k (by simpa [AV.keys] using hk')
    · simp [e] at hu'; exact h.closed q u hu' k hk'
  · simp only [Act.put, Array.size_setIfInBounds]; exact h.tmps

/-- An abstract state that knows less. -/
theorem Rel.less {B : Base} {c : Cx} {s s' : St} {a : Act} (h : Rel B c s a) (hkept : ∀ k, B.K k → live s'.objs k) (he : ∀ t v, s'.get t = some v → s.get t = some v) (ho : ∀ k o, s'.obj k = some o → s.obj k = some o)
    (hc : ∀ t v, s'.get t = some v → ∀ k ∈ v.keys, live s'.objs k) (hoc : ∀ k o, s'.obj k = some o → ∀ q ∈ o.keys, live s'.objs q) : Rel B c s' a :=
  ⟨h.good, h.frame, ⟨fun k o hk => h.objs.rep k o (ho k o hk), fun k o k' o' b hk hk' => h.objs.apart k o k' o' b (ho k o hk) (ho k' o' hk'), hoc⟩,
   fun t v hv => h.env t v (he t v hv), hc, fun k o b hk => h.mine k o b (ho k o hk), h.tmps, h.defers, hkept⟩

/-! ### ways for the context to move -/

/-- A draw. -/
def Cx.drew (c : Cx) : Cx := { c with w := c.w.drew }
theorem Cx.drew_keeps (c : Cx) (objs : List (Nat × AO)) : Keeps c c.drew objs :=
  ⟨⟨fun _ _ _ _ h => h, fun _ _ h => h, fun _ _ => rfl, fun _ _ _ _ h => h⟩, fun _ _ => rfl, fun _ _ => rfl, fun _ _ => rfl, fun _ _ _ _ _ => ⟨rfl, fun _ h => h⟩⟩
theorem Cx.drew_grow {B : Base} {c : Cx} (h : Good B.G c) : Grow B c c.drew := ⟨rfl, rfl, rfl, Nat.le_refl _, fun _ _ _ => rfl, fun _ _ _ _ h => h, h.there⟩

/-- A new block, of which the first n cells are never written again. -/
def Cx.row (c : Cx) (vs : Array Value) (t : TypeId) (fz : Nat × Nat) (n : Nat) : Cx :=
  { c with w := c.w.alloc (.cells vs t fz), I := fun b o => c.I b o ∨ (b = c.w.heap.size ∧ o < n) }
theorem ext_alloc {G : Nat → Option (List AV)} {c c' : Cx} {ks : Nat → Prop} {o : Obj} (_hg : Good G c) (hw : c'.w = c.w.alloc o) (hI : ∀ b o, c.I b o → c'.I b o)
    (hβ : ∀ k, ks k → c'.β k = c.β k) (hκ : ∀ k, ks k → c'.κ k = c.κ k) (hf : ∀ k, ks k → c'.fr k = c.fr k) : Ext c c' ks := by
  refine ⟨fun b off v hi hv => ?_, hI, hβ, fun k hk n v => ?_⟩
  · rw [hw, World.cell?_block (heap_alloc_lt c.w o b (lt_of_cell hv))]; exact hv
  · simp only [OwnRep, hκ k hk, hf k hk]; exact id
theorem excl_lt {c : Cx} {k : Nat} {o : AO} {b : Nat} (h : ObjRep c k o) (hb : excl c k o = some b) : b < c.w.heap.size := by
  cases o with
  | cells cs => obtain ⟨⟨⟨vs, t, hh, _⟩, _⟩, _⟩ := h; simp [excl] at hb; subst hb; exact lt_of_heap hh
  | arr sz n get => obtain ⟨⟨⟨vs, t, hh, _⟩, _⟩, _⟩ := h; simp [excl] at hb; subst hb; exact lt_of_heap hh
  | frz sz n get => obtain ⟨⟨⟨vs, t, hh, _⟩, _⟩, _⟩ := h; simp [excl] at hb; subst hb; exact lt_of_heap hh
  | own sz n =>
    obtain ⟨_, _, hm⟩ := h
    cases hc : c.κ k with
    | none => simp [excl, hc] at hb
    | some p =>
      obtain ⟨a, cap⟩ := p
      simp [excl, hc] at hb
      simp only [hc] at hm
      obtain ⟨⟨vs, t, hh, _⟩, _⟩ := hm.2.2 hb.1
      rw [← hb.2]; exact lt_of_heap hh
  | iter s p => simp [excl] at hb
theorem Cx.row_keeps {G : Nat → Option (List AV)} {c : Cx} (hg : Good G c) {objs : List (Nat × AO)} (ho : Objs c objs) (vs : Array Value) (t : TypeId) (fz : Nat × Nat) (n : Nat) : Keeps c (c.row vs t fz n) objs := by
  refine ⟨ext_alloc hg rfl (fun _ _ h => .inl h) (fun _ _ => rfl) (fun _ _ => rfl) (fun _ _ => rfl), fun _ _ => rfl, fun _ _ => rfl, fun _ _ => rfl, fun q o b hq hb => ?_⟩
  have hlt := excl_lt (ho.rep q o hq) hb
  refine ⟨heap_alloc_lt _ _ _ hlt, fun off hi => ?_⟩
  rcases hi with hi | ⟨rfl, _⟩
  · exact hi
  · omega
theorem Cx.row_grow {B : Base} {c : Cx} (hg : Good B.G c) (hf : Frame B c) (vs : Array Value) (t : TypeId) (fz : Nat × Nat) (n : Nat) (hn : n ≤ vs.size) : Grow B c (c.row vs t fz n) := by
  refine ⟨rfl, rfl, rfl, by simp [Cx.row], fun b hb _ => heap_alloc_lt _ _ _ (Nat.lt_of_lt_of_le hb hf.size), fun b o hb _ hi => ?_, fun b o hi => ?_⟩
  · rcases hi with hi | ⟨rfl, _⟩
    · exact hi
    · have := hf.size; omega
  · rcases hi with hi | ⟨rfl, ho⟩
    · obtain ⟨v, hv⟩ := hg.there b o hi
      exact ⟨v, by show (c.w.alloc _).cell? _ = _; rw [World.cell?_block (heap_alloc_lt c.w _ b (lt_of_cell hv))]; exact hv⟩
    · exact ⟨vs[o], by show (c.w.alloc _).cell? _ = _; rw [cell?_cells (heap_alloc_eq c.w _)]; simp⟩

theorem Keeps.trans {a b c : Cx} {objs : List (Nat × AO)} (h : Keeps a b objs) (k : Keeps b c objs) : Keeps a c objs :=
  ⟨h.ext.trans k.ext, fun q hq => (k.β q hq).trans (h.β q hq), fun q hq => (k.κ q hq).trans (h.κ q hq), fun q hq => (k.fr q hq).trans (h.fr q hq),
   fun q o bl hq hb => by
     have h1 := h.heap q o bl hq hb
     have h2 := k.heap q o bl hq (by rw [excl_same (h.β q ⟨o, hq⟩) (h.κ q ⟨o, hq⟩)]; exact hb)
     exact ⟨h2.1.trans h1.1, fun off hi => h1.2 off (h2.2 off hi)⟩⟩
theorem Grow.trans {B : Base} {a b c : Cx} (h : Grow B a b) (k : Grow B b c) : Grow B a c :=
  ⟨k.os.trans h.os, k.output.trans h.output, k.tape.trans h.tape, Nat.le_trans h.size k.size, fun bl hb hd => (k.block bl hb hd).trans (h.block bl hb hd),
   fun bl o hb hd hi => h.new bl o hb hd (k.new bl o hb hd hi), k.there⟩

/-- A new variable, key k's. -/
def Cx.var (c : Cx) (k : Nat) (vs : Array Value) (t : TypeId) : Cx :=
  { c with w := c.w.alloc (.cells vs t), β := fun q => if q = k then c.w.heap.size else c.β q, fr := fun q => if q = k then none else c.fr q }
theorem live_ne {objs : List (Nat × AO)} {k q : Nat} (hk : alook objs k = none) (hq : live objs q) : q ≠ k := by
  rintro rfl; obtain ⟨o, h⟩ := hq; simp [hk] at h
theorem Cx.var_keeps {G : Nat → Option (List AV)} {c : Cx} (hg : Good G c) {objs : List (Nat × AO)} (ho : Objs c objs) {k : Nat} (hk : alook objs k = none) (vs : Array Value) (t : TypeId) : KeepsBut c (c.var k vs t) objs k := by
  refine ⟨ext_alloc hg rfl (fun _ _ h => h) (fun q hq => by simp [Cx.var, live_ne hk hq]) (fun _ _ => rfl) (fun q hq => by simp [Cx.var, live_ne hk hq]), fun q _ hne => by simp [Cx.var, hne], fun _ _ _ => rfl, fun q _ hne => by simp [Cx.var, hne], fun q o b hq _ hb => ?_⟩
  exact ⟨heap_alloc_lt _ _ _ (excl_lt (ho.rep q o hq) hb), fun _ h => h⟩
theorem Cx.var_grow {B : Base} {c : Cx} (hg : Good B.G c) (hf : Frame B c) (k : Nat) (vs : Array Value) (t : TypeId) : Grow B c (c.var k vs t) := by
  refine ⟨rfl, rfl, rfl, by simp [Cx.var], fun b hb _ => heap_alloc_lt _ _ _ (Nat.lt_of_lt_of_le hb hf.size), fun b o hb _ hi => hi, fun b o hi => ?_⟩
  obtain ⟨v, hv⟩ := hg.there b o hi
  exact ⟨v, by show (c.w.alloc _).cell? _ = _; rw [World.cell?_block (heap_alloc_lt c.w _ b (lt_of_cell hv))]; exact hv⟩

/-- Block b, which belongs to key k alone, holds other cells. -/
def Cx.write (c : Cx) (w' : World) : Cx := { c with w := w' }
structure Wrote (c : Cx) (b : Nat) (w' : World) : Prop where
  os : w'.os = c.w.os
  output : w'.output = c.w.output
  tape : w'.tape = c.w.tape
  size : w'.heap.size = c.w.heap.size
  other : ∀ b', b' ≠ b → w'.heap[b']? = c.w.heap[b']?
theorem Cx.write_keeps {c : Cx} {objs : List (Nat × AO)} (ho : Objs c objs) {k : Nat} {o : AO} {b : Nat} {w' : World} (hk : alook objs k = some o) (hb : excl c k o = some b) (hI : ∀ off, ¬ c.I b off) (hw : Wrote c b w') :
    KeepsBut c (c.write w') objs k := by
  refine ⟨⟨fun b' off v hi hv => ?_, fun _ _ h => h, fun _ _ => rfl, fun _ _ _ _ h => h⟩, fun _ _ _ => rfl, fun _ _ _ => rfl, fun _ _ _ => rfl, fun q o' b' hq hne hb' => ⟨hw.other b' ?_, fun _ h => h⟩⟩
  · show w'.cell? _ = _
    rw [World.cell?_block (hw.other b' (fun e => hI off (e ▸ hi)))]; exact hv
  · rintro rfl; exact ho.apart q o' k o b' hq hk hne hb' hb
theorem Cx.write_grow {B : Base} {c : Cx} (hg : Good B.G c) {b : Nat} {w' : World} (hI : ∀ off, ¬ c.I b off) (hw : Wrote c b w') (hm : B.c0.w.heap.size ≤ b ∨ B.D b) : Grow B c (c.write w') := by
  refine ⟨hw.os, hw.output, hw.tape, Nat.le_of_eq hw.size.symm, fun b' hb' hd => hw.other b' ?_, fun _ _ _ _ h => h, fun b' o hi => ?_⟩
  · rintro rfl; rcases hm with h | h
    · omega
    · exact hd h
  · obtain ⟨v, hv⟩ := hg.there b' o hi
    exact ⟨v, by show w'.cell? _ = _; rw [World.cell?_block (hw.other b' (fun e => hI o (e ▸ hi)))]; exact hv⟩

end Go.Ab
