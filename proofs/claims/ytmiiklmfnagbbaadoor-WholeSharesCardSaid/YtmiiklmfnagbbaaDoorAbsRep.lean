/- The relation between abstract values and the model's values in a world. -/
import Derived.Test.YtmiiklmfnagbbaaDoorAbsDefs
import Derived.Below
import Derived.Laws.Cells
namespace Go.Ab
open Go Go.RowKit

/-- What the relation knows of the memory: the world; the cells that are never written again; each key's block; an owner's base and capacity; an owner's frontier. -/
structure Cx where
  w : World
  I : Nat → Nat → Prop
  β : Nat → Nat
  κ : Nat → Option (Addr × Nat)
  fr : Nat → Option Nat

def slOf : Option (Addr × Nat) → Nat → Value
  | none, _ => .slice none 0 0
  | some (a, cap), n => .slice (some a) n cap

def OwnRep (c : Cx) (o : Own) (n : Nat) (v : Value) : Prop :=
  match o with
  | .no => True
  | .fit => match v with | .slice (some _) _ cap => cap = n | _ => True
  | .key k => ∃ m, c.fr k = some m ∧ n ≤ m ∧ (n = m → v = slOf (c.κ k) n)

inductive Rep (c : Cx) : AV → Value → Prop
  | bool (b) : Rep c (.bool b) (.bool b)
  | int (k n) : Rep c (.int k n) (.int k n)
  | str (s : List UInt8) : Rep c (.str s) (.string ⟨s.toArray⟩)
  | nilp : Rep c .nilp (.pointer none)
  | nilf : Rep c .nilf .nilFunc
  | nilm : Rep c .nilm (.map none)
  | nili : Rep c .nili .nilIface
  | undef (v) : Rep c .undef v
  | slNil (o : Own) (sz : Nat) (get : Nat → List AV) : OwnRep c o 0 (.slice none 0 0) → Rep c (.sl o sz 0 get) (.slice none 0 0)
  | sl (o : Own) (sz n : Nat) (get : Nat → List AV) (a : Addr) (cap : Nat) (vals : Nat → Nat → Value) : a.spot = none → n ≤ cap → OwnRep c o n (.slice (some a) n cap) →
      (∀ j, j < n → (get j).length = sz ∧ keysL (get j) = []) →
      (∀ (j i : Nat) (u : AV), j < n → (get j)[i]? = some u → u.one = true ∧ c.w.cell? ⟨a.block, a.off + (j * sz + i), none⟩ = some (vals j i) ∧ c.I a.block (a.off + (j * sz + i))) →
      (∀ (j i : Nat) (u : AV), j < n → (get j)[i]? = some u → Rep c u (vals j i)) → Rep c (.sl o sz n get) (.slice (some a) n cap)
  | agg (cs : List AV) (vs : Array Value) : vs.size = cs.length → (∀ (i : Nat) (u : AV), cs[i]? = some u → u.one = true) →
      (∀ (i : Nat) (u : AV), cs[i]? = some u → Rep c u (vs.getD i undef)) → Rep c (.agg cs) (.agg vs)
  | arr (sz n : Nat) (get : Nat → List AV) (vs : Array Value) : vs.size = n * sz → (∀ j, j < n → (get j).length = sz ∧ keysL (get j) = []) →
      (∀ (j i : Nat) (u : AV), j < n → (get j)[i]? = some u → u.one = true) →
      (∀ (j i : Nat) (u : AV), j < n → (get j)[i]? = some u → Rep c u (vs.getD (j * sz + i) undef)) → Rep c (.arr sz n get) (.agg vs)
  | tup (us : List AV) (vs : Array Value) : vs.size = us.length → (∀ (i : Nat) (u : AV), us[i]? = some u → Rep c u (vs.getD i undef)) → Rep c (.tup us) (.tuple vs)
  | ref (k off) : Rep c (.ref k off) (.pointer (some ⟨c.β k, off, none⟩))
  | aref (k sz i off) : Rep c (.aref k sz i off) (.pointer (some ⟨c.β k, i * sz + off, none⟩))
  | elt (cs : List AV) (off : Nat) (b o : Nat) (vals : Nat → Value) : keysL cs = [] →
      (∀ (i : Nat) (u : AV), cs[i]? = some u → u.one = true ∧ c.w.cell? ⟨b, o + i, none⟩ = some (vals i) ∧ c.I b (o + i)) →
      (∀ (i : Nat) (u : AV), cs[i]? = some u → Rep c u (vals i)) → Rep c (.elt cs off) (.pointer (some ⟨b, o + off, none⟩))
  | msl (k sz off len cap o) : len ≤ cap → (0 < len → o = off * sz) → Rep c (.msl k sz off len) (.slice (some ⟨c.β k, o, none⟩) len cap)
  | fn (f : FuncId) (a b : List AV) (va vb : Array Value) : va.size = a.length → vb.size = b.length →
      (∀ (i : Nat) (u : AV), a[i]? = some u → Rep c u (va.getD i undef)) → (∀ (i : Nat) (u : AV), b[i]? = some u → Rep c u (vb.getD i undef)) → Rep c (.fn f a b) (.func (.func f) va vb)

theorem keysL_append : ∀ a b, keysL (a ++ b) = keysL a ++ keysL b
  | [], b => by simp [keysL]
  | v :: r, b => by simp [keysL, keysL_append r b]
theorem keys_mem_of {l : List AV} {i : Nat} {u : AV} (h : l[i]? = some u) : ∀ k ∈ u.keys, k ∈ keysL l := by
  induction l generalizing i with
  | nil => simp at h
  | cons v r ih =>
    intro k hk
    simp only [keysL, List.mem_append]
    cases i with
    | zero => simp at h; subst h; exact .inl hk
    | succ i => exact .inr (ih (by simpa using h) k hk)
theorem keys_nil_of {l : List AV} (hl : keysL l = []) {i : Nat} {u : AV} (h : l[i]? = some u) : u.keys = [] := by
  cases hk : u.keys with
  | nil => rfl
  | cons k r => have := keys_mem_of h k (by simp [hk]); simp [hl] at this

/-- From c to c' nothing that a value rests on has turned; ks: the keys that count. -/
structure Ext (c c' : Cx) (ks : Nat → Prop) : Prop where
  cell : ∀ b o v, c.I b o → c.w.cell? ⟨b, o, none⟩ = some v → c'.w.cell? ⟨b, o, none⟩ = some v
  I : ∀ b o, c.I b o → c'.I b o
  β : ∀ k, ks k → c'.β k = c.β k
  own : ∀ k, ks k → ∀ n v, OwnRep c (.key k) n v → OwnRep c' (.key k) n v

theorem Ext.sub {c c' : Cx} {ks ks' : Nat → Prop} (h : Ext c c' ks) (hs : ∀ k, ks' k → ks k) : Ext c c' ks' :=
  ⟨h.cell, h.I, fun k hk => h.β k (hs k hk), fun k hk => h.own k (hs k hk)⟩
theorem Ext.refl (c : Cx) (ks : Nat → Prop) : Ext c c ks := ⟨fun _ _ _ _ h => h, fun _ _ h => h, fun _ _ => rfl, fun _ _ _ _ h => h⟩
theorem Ext.trans {a b c : Cx} {ks : Nat → Prop} (h : Ext a b ks) (h' : Ext b c ks) : Ext a c ks :=
  ⟨fun _ _ _ hi hv => h'.cell _ _ _ (h.I _ _ hi) (h.cell _ _ _ hi hv), fun _ _ hi => h'.I _ _ (h.I _ _ hi),
   fun k hk => (h'.β k hk).trans (h.β k hk), fun k hk n v hv => h'.own k hk n v (h.own k hk n v hv)⟩

theorem OwnRep.ext {c c' : Cx} {ks : Nat → Prop} (h : Ext c c' ks) {o : Own} {n : Nat} {v : Value} (hr : OwnRep c o n v) (hk : ∀ k, o = .key k → ks k) : OwnRep c' o n v := by
  cases o with
  | no => trivial
  | fit => exact hr
  | key k => exact h.own k (hk k rfl) n v hr

theorem Rep.ext {c c' : Cx} {v : AV} {x : Value} (hr : Rep c v x) : ∀ {ks : Nat → Prop}, Ext c c' ks → (∀ k ∈ v.keys, ks k) → Rep c' v x := by
  induction hr with
  | bool b => intros; exact .bool b
  | int k n => intros; exact .int k n
  | str s => intros; exact .str s
  | nilp => intros; exact .nilp
  | nilf => intros; exact .nilf
  | nilm => intros; exact .nilm
  | nili => intros; exact .nili
  | undef v => intros; exact .undef v
  | slNil o sz get ho => intro ks h hk; exact .slNil o sz get (ho.ext h fun k e => hk k (by subst e; simp [AV.keys]))
  | sl o sz n get a cap vals hsp hn ho hl hc hr ih =>
    intro ks h hk
    refine .sl o sz n get a cap vals hsp hn (ho.ext h fun k e => hk k (by subst e; simp [AV.keys])) hl
      (fun j i u hj hu => ⟨(hc j i u hj hu).1, h.cell _ _ _ (hc j i u hj hu).2.2 (hc j i u hj hu).2.1, h.I _ _ (hc j i u hj hu).2.2⟩)
      (fun j i u hj hu => ih j i u hj hu h fun k hk => ?_)
    rw [keys_nil_of (hl j hj).2 hu] at hk; simp at hk
  | agg cs vs hs h1 hr ih =>
    intro ks h hk
    exact .agg cs vs hs h1 fun i u hu => ih i u hu h fun k hk' => hk k (by simpa [AV.keys] using keys_mem_of hu k hk')
  | arr sz n get vs hs hl h1 hr ih =>
    intro ks h hk
    refine .arr sz n get vs hs hl h1 fun j i u hj hu => ih j i u hj hu h fun k hk' => ?_
    rw [keys_nil_of (hl j hj).2 hu] at hk'; simp at hk'
  | tup us vs hs hr ih =>
    intro ks h hk
    exact .tup us vs hs fun i u hu => ih i u hu h fun k hk' => hk k (by simpa [AV.keys] using keys_mem_of hu k hk')
  | ref k off => intro ks h hk; rw [← h.β k (hk k (by simp [AV.keys]))]; exact .ref k off
  | aref k sz i off => intro ks h hk; rw [← h.β k (hk k (by simp [AV.keys]))]; exact .aref k sz i off
  | elt cs off b o vals hl hc hr ih =>
    intro ks h hk
    refine .elt cs off b o vals hl (fun i u hu => ⟨(hc i u hu).1, h.cell _ _ _ (hc i u hu).2.2 (hc i u hu).2.1, h.I _ _ (hc i u hu).2.2⟩) fun i u hu => ih i u hu h fun k hk' => ?_
    rw [keys_nil_of hl hu] at hk'; simp at hk'
  | msl k sz off len cap o hlen ho => intro ks h hk; rw [← h.β k (hk k (by simp [AV.keys]))]; exact .msl k sz off len cap o hlen ho
  | fn f a b va vb ha hb hra hrb iha ihb =>
    intro ks h hk
    exact .fn f a b va vb ha hb (fun i u hu => iha i u hu h fun k hk' => hk k (by simpa [AV.keys] using .inl (keys_mem_of hu k hk')))
      (fun i u hu => ihb i u hu h fun k hk' => hk k (by simpa [AV.keys] using .inr (keys_mem_of hu k hk')))

/-- The cells of a row of memory. -/
structure RowAt (c : Cx) (b : Nat) (cs : List AV) : Prop where
  row : ∃ (vs : Array Value) (t : TypeId), c.w.heap[b]? = some (.cells vs t (0, 0)) ∧ vs.size = cs.length ∧ ∀ (i : Nat) (u : AV), cs[i]? = some u → Rep c u (vs.getD i undef)
  one : ∀ (i : Nat) (u : AV), cs[i]? = some u → u.one = true

structure ArrAt (c : Cx) (b sz n : Nat) (get : Nat → List AV) : Prop where
  row : ∃ (vs : Array Value) (t : TypeId), c.w.heap[b]? = some (.cells vs t (0, 0)) ∧ vs.size = n * sz ∧ ∀ (j i : Nat) (u : AV), j < n → (get j)[i]? = some u → Rep c u (vs.getD (j * sz + i) undef)
  len : ∀ j, j < n → (get j).length = sz ∧ keysL (get j) = []
  one : ∀ (j i : Nat) (u : AV), j < n → (get j)[i]? = some u → u.one = true

/-- The room that an owner may fill: from the frontier to the capacity. -/
structure RoomAt (c : Cx) (a : Addr) (sz n cap : Nat) : Prop where
  row : ∃ (vs : Array Value) (t : TypeId), c.w.heap[a.block]? = some (.cells vs t (0, 0)) ∧ vs.size = cap * sz
  off : a.off = 0
  free : ∀ o, n * sz ≤ o → ¬ c.I a.block o

def ObjRep (c : Cx) (k : Nat) : AO → Prop
  | .cells cs => RowAt c (c.β k) cs ∧ (∀ o, ¬ c.I (c.β k) o) ∧ c.fr k = none
  | .arr sz n get => ArrAt c (c.β k) sz n get ∧ (∀ o, ¬ c.I (c.β k) o) ∧ c.fr k = none
  | .frz sz n get => ArrAt c (c.β k) sz n get ∧ (∀ o, o < n * sz → c.I (c.β k) o) ∧ c.fr k = none
  | .own sz n => 0 < sz ∧ c.fr k = some n ∧ (match c.κ k with
    | none => n = 0
    | some (a, cap) => a.spot = none ∧ n ≤ cap ∧ (n < cap → RoomAt c a sz n cap))
  | .iter .. => False

/-- The block that belongs to a key alone. -/
def excl (c : Cx) (k : Nat) : AO → Option Nat
  | .cells _ | .arr .. | .frz .. => some (c.β k)
  | .own _ n => (match c.κ k with
    | some (a, cap) => if n < cap then some a.block else none
    | none => none)
  | .iter .. => none

/-- Objects stand in memory, apart. -/
structure Objs (c : Cx) (objs : List (Nat × AO)) : Prop where
  rep : ∀ k o, alook objs k = some o → ObjRep c k o
  apart : ∀ k o k' o' b, alook objs k = some o → alook objs k' = some o' → k ≠ k' → excl c k o = some b → excl c k' o' ≠ some b
  closed : ∀ k o, alook objs k = some o → ∀ q ∈ o.keys, ∃ o', alook objs q = some o'

theorem beqF {a b : Nat} (h : ¬ a = b) : Nat.beq a b = false := by
  cases hb : Nat.beq a b with
  | false => rfl
  | true => exact absurd (Nat.eq_of_beq_eq_true hb) h
theorem beqT {a b : Nat} (h : Nat.beq a b = true) : a = b := Nat.eq_of_beq_eq_true h
theorem alook_aput {α : Type} (l : List (Nat × α)) (k : Nat) (x : α) (i : Nat) : alook (aput l k x) i = if k = i then some x else alook l i := by
  induction l with
  | nil => simp only [aput, alook]; by_cases h : k = i <;> simp [h, beqF]
  | cons p r ih =>
    obtain ⟨q, y⟩ := p
    by_cases hq : q = k
    · subst hq; simp only [aput, Nat.beq_refl, cond_true, alook]; by_cases h : q = i <;> simp [h, beqF]
    · have hq' : Nat.beq q k = false := beqF hq
      simp only [aput, hq', cond_false, alook, ih]
      by_cases h : q = i
      · subst h; simp; intro e; exact absurd e.symm hq
      · have : Nat.beq q i = false := beqF h
        simp [this]
theorem St.obj_setObj (s : St) (k : Nat) (o : AO) (i : Nat) : (s.setObj k o).obj i = if k = i then some o else s.obj i := alook_aput _ _ _ _
theorem St.get_put (s : St) (d : Nat) (v : AV) (i : Nat) : (s.put (some d) v).get i = if d = i then some v else s.get i := alook_aput _ _ _ _
@[simp] theorem St.obj_put (s : St) (d : Option Nat) (v : AV) (i : Nat) : (s.put d v).obj i = s.obj i := by cases d <;> rfl
@[simp] theorem St.get_setObj (s : St) (k : Nat) (o : AO) (i : Nat) : (s.setObj k o).get i = s.get i := rfl
@[simp] theorem St.objs_put (s : St) (d : Option Nat) (v : AV) : (s.put d v).objs = s.objs := by cases d <;> rfl

def live (objs : List (Nat × AO)) (k : Nat) : Prop := ∃ o, alook objs k = some o

/-- But for key k the objects stand as they stood. -/
structure KeepsBut (c c' : Cx) (objs : List (Nat × AO)) (k : Nat) : Prop where
  ext : Ext c c' (live objs)
  β : ∀ q, live objs q → q ≠ k → c'.β q = c.β q
  κ : ∀ q, live objs q → q ≠ k → c'.κ q = c.κ q
  fr : ∀ q, live objs q → q ≠ k → c'.fr q = c.fr q
  heap : ∀ q o b, alook objs q = some o → q ≠ k → excl c q o = some b → c'.w.heap[b]? = c.w.heap[b]? ∧ ∀ off, c'.I b off → c.I b off

theorem excl_same {c c' : Cx} {q : Nat} {o : AO} (hβ : c'.β q = c.β q) (hκ : c'.κ q = c.κ q) : excl c' q o = excl c q o := by
  cases o <;> simp [excl, hβ, hκ]

theorem Objs.rep_keep {c c' : Cx} {objs : List (Nat × AO)} {k : Nat} (h : Objs c objs) (hk : KeepsBut c c' objs k) {q : Nat} {o : AO} (hq : alook objs q = some o) (hne : q ≠ k) : ObjRep c' q o := by
  have hr := h.rep q o hq
  have hl : live objs q := ⟨o, hq⟩
  have hβ := hk.β q hl hne
  have hκ := hk.κ q hl hne
  have hf := hk.fr q hl hne
  cases o with
  | cells cs =>
    obtain ⟨⟨⟨vs, t, hh, hs, hv⟩, h1⟩, hI, hfr⟩ := hr
    have hh' := hk.heap q _ (c.β q) hq hne rfl
    refine ⟨⟨⟨vs, t, ?_, hs, fun i u hu => (hv i u hu).ext hk.ext fun r hr => h.closed q _ hq r (by simpa [AO.keys] using keys_mem_of hu r hr)⟩, h1⟩, ?_, hf.trans hfr⟩
    · rw [hβ, hh'.1]; exact hh
    · intro o ho; rw [hβ] at ho; exact hI o (hh'.2 o ho)
  | arr sz n get =>
    obtain ⟨⟨⟨vs, t, hh, hs, hv⟩, hl', h1⟩, hI, hfr⟩ := hr
    have hh' := hk.heap q _ (c.β q) hq hne rfl
    refine ⟨⟨⟨vs, t, ?_, hs, fun j i u hj hu => (hv j i u hj hu).ext hk.ext fun r hr => ?_⟩, hl', h1⟩, ?_, hf.trans hfr⟩
    · rw [hβ, hh'.1]; exact hh
    · rw [keys_nil_of (hl' j hj).2 hu] at hr; simp at hr
    · intro o ho; rw [hβ] at ho; exact hI o (hh'.2 o ho)
  | frz sz n get =>
    obtain ⟨⟨⟨vs, t, hh, hs, hv⟩, hl', h1⟩, hI, hfr⟩ := hr
    have hh' := hk.heap q _ (c.β q) hq hne rfl
    refine ⟨⟨⟨vs, t, ?_, hs, fun j i u hj hu => (hv j i u hj hu).ext hk.ext fun r hr => ?_⟩, hl', h1⟩, ?_, hf.trans hfr⟩
    · rw [hβ, hh'.1]; exact hh
    · rw [keys_nil_of (hl' j hj).2 hu] at hr; simp at hr
    · intro o ho; rw [hβ]; exact hk.ext.I _ _ (hI o ho)
  | own sz n =>
    obtain ⟨h0, hfr, hm⟩ := hr
    refine ⟨h0, hf.trans hfr, ?_⟩
    rw [hκ]
    cases hc : c.κ q with
    | none => simpa [hc] using hm
    | some p =>
      obtain ⟨a, cap⟩ := p
      simp only [hc] at hm ⊢
      obtain ⟨h1, h2, h3⟩ := hm
      refine ⟨h1, h2, fun hlt => ?_⟩
      obtain ⟨⟨vs, t, hh, hs⟩, hoff, hfree⟩ := h3 hlt
      have hh' := hk.heap q _ a.block hq hne (by simp [excl, hc, hlt])
      exact ⟨⟨vs, t, hh'.1.trans hh, hs⟩, hoff, fun o ho hi => hfree o ho (hh'.2 o hi)⟩
  | iter s p => exact hr.elim

/-- Key k is laid anew; all else stands as it stood. -/
theorem Objs.put {c c' : Cx} {objs : List (Nat × AO)} {k : Nat} {o : AO} (h : Objs c objs) (hk : KeepsBut c c' objs k)
    (hr : ObjRep c' k o) (ha : ∀ q o' b, alook objs q = some o' → q ≠ k → excl c q o' = some b → excl c' k o ≠ some b)
    (hc : ∀ r ∈ o.keys, r = k ∨ live objs r) : Objs c' (aput objs k o) := by
  refine ⟨fun q o' hq => ?_, fun q o' q' o'' b hq hq' hne hb => ?_, fun q o' hq r hr' => ?_⟩
  · rw [alook_aput] at hq
    by_cases e : k = q
    · subst e; simp at hq; subst hq; exact hr
    · simp [e] at hq; exact h.rep_keep hk hq (fun e' => e e'.symm)
  · rw [alook_aput] at hq hq'
    by_cases e : k = q
    · subst e; simp at hq; subst hq
      simp [hne] at hq'
      intro hb'
      have := excl_same (o := o'') (hk.β q' ⟨_, hq'⟩ (Ne.symm hne)) (hk.κ q' ⟨_, hq'⟩ (Ne.symm hne))
      exact ha q' o'' b hq' (Ne.symm hne) (this ▸ hb') hb
    · simp [e] at hq
      have e1 := excl_same (o := o') (hk.β q ⟨_, hq⟩ (fun e' => e e'.symm)) (hk.κ q ⟨_, hq⟩ (fun e' => e e'.symm))
      by_cases e' : k = q'
      · subst e'; simp at hq'; subst hq'; exact ha q o' b hq (fun x => e x.symm) (e1 ▸ hb)
      · simp [e'] at hq'
        have e2 := excl_same (o := o'') (hk.β q' ⟨_, hq'⟩ (fun x => e' x.symm)) (hk.κ q' ⟨_, hq'⟩ (fun x => e' x.symm))
        rw [e2]; exact h.apart q o' q' o'' b hq hq' hne (e1 ▸ hb)
  · rw [alook_aput] at hq
    by_cases e : k = q
    · subst e; simp at hq; subst hq
      rcases hc r hr' with rfl | ⟨o2, h2⟩
      · exact ⟨o, by simp [alook_aput]⟩
      · by_cases e2 : k = r
        · exact ⟨o, by simp [alook_aput, e2]⟩
        · exact ⟨o2, by simp [alook_aput, e2, h2]⟩
    · simp [e] at hq
      obtain ⟨o2, h2⟩ := h.closed q o' hq r hr'
      by_cases e2 : k = r
      · exact ⟨o, by simp [alook_aput, e2]⟩
      · exact ⟨o2, by simp [alook_aput, e2, h2]⟩

/-- Nothing of the objects has turned. -/
structure Keeps (c c' : Cx) (objs : List (Nat × AO)) : Prop where
  ext : Ext c c' (live objs)
  β : ∀ q, live objs q → c'.β q = c.β q
  κ : ∀ q, live objs q → c'.κ q = c.κ q
  fr : ∀ q, live objs q → c'.fr q = c.fr q
  heap : ∀ q o b, alook objs q = some o → excl c q o = some b → c'.w.heap[b]? = c.w.heap[b]? ∧ ∀ off, c'.I b off → c.I b off
theorem Keeps.but {c c' : Cx} {objs : List (Nat × AO)} (h : Keeps c c' objs) (k : Nat) : KeepsBut c c' objs k :=
  ⟨h.ext, fun q hq _ => h.β q hq, fun q hq _ => h.κ q hq, fun q hq _ => h.fr q hq, fun q o b hq _ => h.heap q o b hq⟩
theorem Objs.keep {c c' : Cx} {objs : List (Nat × AO)} (h : Objs c objs) (hk : Keeps c c' objs) : Objs c' objs := by
  refine ⟨fun q o hq => ?_, fun q o q' o' b hq hq' hne hb => ?_, h.closed⟩
  · exact h.rep_keep (hk.but (q + 1)) hq (by omega)
  · rw [excl_same (hk.β q' ⟨_, hq'⟩) (hk.κ q' ⟨_, hq'⟩)]
    rw [excl_same (hk.β q ⟨_, hq⟩) (hk.κ q ⟨_, hq⟩)] at hb
    exact h.apart q o q' o' b hq hq' hne hb

/-- What a whole context must be: immutable cells are there and not frozen out; the globals that are read stand in it. -/
structure Good (G : Nat → Option (List AV)) (c : Cx) : Prop where
  there : ∀ b o, c.I b o → ∃ v, c.w.cell? ⟨b, o, none⟩ = some v
  globs : ∀ g cs, G g = some cs → Rep c (.elt cs 0) (.pointer (some ⟨g, 0, none⟩))

end Go.Ab
