/- Soundness of the pure operations, first part: operands, numbers, strings. -/
import Derived.Test.YtmiiklmfnagbbaaDoorAbsRel
import Derived.Laws.Concat
import Derived.Laws.Cover1
import Derived.Laws.StructEq
import Derived.Laws.Tables
import Derived.Lib.Strings
namespace Go.Ab
open Go Go.RowKit
variable {P : Program} {B : Base} {c : Cx} {s : St} {a : Act}

theorem ofCell_rep {v : Value} {u : AV} (h : ofCell v = some u) : Rep c u v ∧ u.keys = [] ∧ u.isGrd = false ∧ u.one = true := by
  unfold ofCell at h
  split at h <;> simp at h <;> subst h
  · exact ⟨.bool _, rfl, rfl, rfl⟩
  · exact ⟨.int _ _, rfl, rfl, rfl⟩
  · exact ⟨.str _, rfl, rfl, rfl⟩
  · exact ⟨.nilp, rfl, rfl, rfl⟩
  · exact ⟨.slNil _ _ _ trivial, rfl, rfl, rfl⟩
  · exact ⟨.nilm, rfl, rfl, rfl⟩
  · exact ⟨.nilf, rfl, rfl, rfl⟩
  · exact ⟨.nili, rfl, rfl, rfl⟩

theorem ofCells_rep : ∀ {vs : List Value} {us : List AV}, ofCells vs = some us → us.length = vs.length ∧ keysL us = [] ∧
    ∀ (i : Nat) (u : AV), us[i]? = some u → u.one = true ∧ Rep c u (vs.getD i undef)
  | [], us, h => by simp [ofCells] at h; subst h; simp [keysL]
  | v :: r, us, h => by
    simp only [ofCells] at h
    cases hv : ofCell v with
    | none => simp [hv] at h
    | some x =>
      cases hr : ofCells r with
      | none => simp [hv, hr] at h
      | some l =>
        simp [hv, hr] at h
        subst h
        obtain ⟨h1, h2, h3⟩ := ofCells_rep hr
        have hx := ofCell_rep (c := c) hv
        refine ⟨by simp [h1], by simp [keysL, hx.2.1, h2], fun i u hu => ?_⟩
        cases i with
        | zero => simp at hu; subst hu; exact ⟨hx.2.2.2, by simpa using hx.1⟩
        | succ i => simpa using h3 i u (by simpa using hu)

theorem ofValue_rep {v : Value} {u : AV} (h : ofValue v = some u) : Rep c u v ∧ u.keys = [] ∧ u.isGrd = false := by
  unfold ofValue at h
  split at h
  · rename_i cs
    cases hc : ofCells cs.toList with
    | none => simp [hc] at h
    | some l =>
      simp [hc] at h; subst h
      obtain ⟨h1, h2, h3⟩ := ofCells_rep (c := c) hc
      refine ⟨.agg _ _ (by simpa using h1.symm) (fun i u hu => (h3 i u hu).1) (fun i u hu => ?_), by simpa [AV.keys] using h2, rfl⟩
      have := (h3 i u hu).2
      simpa [Array.getD_eq_getD_getElem?, List.getD_eq_getElem?_getD] using this
  · exact ⟨(ofCell_rep h).1, (ofCell_rep (c := c) h).2.1, (ofCell_rep (c := c) h).2.2.1⟩

/-- The guards hold. -/
def ChOk (a : Act) (ch : Chain) : Prop := ∀ t w, (t, w) ∈ ch → a.tmps.getD t undef = .bool w
theorem Chain.has_mem {ch : Chain} {t : Nat} {w : Bool} (h : ch.has t w = true) : (t, w) ∈ ch := by
  unfold Chain.has at h
  rw [List.any_eq_true] at h
  obtain ⟨⟨t', w'⟩, hm, hp⟩ := h
  simp only [Bool.and_eq_true, beq_iff_eq] at hp
  have := beqT hp.1
  subst this
  obtain ⟨_, rfl⟩ := hp
  exact hm

structure Sees (B : Base) (c : Cx) (s : St) (v : AV) (x : Value) : Prop where
  rep : Rep c v x
  live : ∀ k ∈ v.keys, live s.objs k
  plain : v.isGrd = false

theorem evalO_sound (h : Rel B c s a) {ch : Chain} (hc : ChOk a ch) {o : Operand} {v : AV} (he : evalO ⟨s, B.G, ch⟩ o = some v) : Sees B c s v (a.eval o) := by
  cases o with
  | tmp t =>
    simp only [evalO] at he
    cases hg : s.get t with
    | none => simp [hg] at he
    | some u =>
      have hr := h.env t u hg
      have hl := h.closed t u hg
      cases u with
      | grd tc w v' =>
        simp only [hg] at he
        cases hb : (Chain.has ch tc w && !v'.isGrd) with
        | false => simp [hb] at he
        | true =>
          simp only [hb, cond_true, Option.some.injEq] at he
          subst he
          simp only [Bool.and_eq_true, Bool.not_eq_true'] at hb
          exact ⟨hr.1 (hc _ _ (Chain.has_mem hb.1)), by simpa [AV.keys] using hl, hb.2⟩
      | _ => simp only [hg, Option.some.injEq] at he; subst he; exact ⟨hr, hl, rfl⟩
  | const v' => exact ⟨(ofValue_rep he).1, by rw [(ofValue_rep (c := c) he).2.1]; simp, (ofValue_rep (c := c) he).2.2⟩
  | global g =>
    simp only [evalO] at he
    cases hg : B.G g with
    | none => simp [hg] at he
    | some cs => simp [hg] at he; subst he; exact ⟨h.good.globs g cs hg, by simp [AV.keys], rfl⟩
  | func f =>
    simp only [evalO, Option.some.injEq] at he; subst he
    exact ⟨.fn f [] [] #[] #[] rfl rfl (by simp) (by simp), by simp [AV.keys, keysL], rfl⟩

/-- The result of a pure operation. -/
def Goes (P : Program) (B : Base) (c : Cx) (s : St) (m : Sem Value) (v : AV) : Prop :=
  ∃ x c', m.run P c.w = .ok x c'.w ∧ Keeps c c' s.objs ∧ Grow B c c' ∧ Sees B c' s v x

theorem Keeps.refl (c : Cx) (objs : List (Nat × AO)) : Keeps c c objs := ⟨Ext.refl _ _, fun _ _ => rfl, fun _ _ => rfl, fun _ _ => rfl, fun _ _ _ _ _ => ⟨rfl, fun _ h => h⟩⟩
theorem Grow.refl (h : Good B.G c) : Grow B c c := ⟨rfl, rfl, rfl, Nat.le_refl _, fun _ _ _ => rfl, fun _ _ _ _ h => h, h.there⟩

/-- An operation that turns nothing. -/
theorem Goes.still (h : Rel B c s a) {m : Sem Value} {v : AV} {x : Value} (hm : m.run P c.w = .ok x c.w) (hs : Sees B c s v x) : Goes P B c s m v :=
  ⟨x, c, hm, Keeps.refl _ _, Grow.refl h.good, hs⟩
theorem Sees.int {k : IntKind} {n : Int} : Sees B c s (.int k n) (.int k n) := ⟨.int _ _, by simp [AV.keys], rfl⟩
theorem Sees.bool {b : Bool} : Sees B c s (.bool b) (.bool b) := ⟨.bool _, by simp [AV.keys], rfl⟩
theorem Sees.str {l : List UInt8} : Sees B c s (.str l) (.string ⟨l.toArray⟩) := ⟨.str _, by simp [AV.keys], rfl⟩

theorem intOp_sound (h : Rel B c s a) {op : BinOp} {k : IntKind} {x y : Int} {v : AV} (he : intOp op k x y = some (true, v)) (hs : isShift op = false) {t : TypeId} : Goes P B c s (binOp op t (.int k x) (.int k y)) v := by
  cases op <;> simp only [intOp, ok1, isShift, Option.some.injEq, Prod.mk.injEq, true_and, reduceCtorEq, bne_iff_ne, ne_eq] at he hs
  case quo => obtain ⟨hy, rfl⟩ := he; exact Goes.still h (by rw [binOp_quo]; simp [Op.intDiv, hy]) Sees.int
  case rem => obtain ⟨hy, rfl⟩ := he; exact Goes.still h (by rw [binOp_rem]; simp [Op.intDiv, hy]) Sees.int
  all_goals (subst he)
  case add => exact Goes.still h (by rw [binOp_add]; rfl) Sees.int
  case sub => exact Goes.still h (by rw [binOp_sub]; rfl) Sees.int
  case mul => exact Goes.still h (by rw [binOp_mul]; rfl) Sees.int
  case and => exact Goes.still h (by rw [binOp_and]; rfl) Sees.int
  case or => exact Goes.still h (by rw [binOp_or]; rfl) Sees.int
  case xor => exact Goes.still h (by rw [binOp_xor]; rfl) Sees.int
  case andNot => exact Goes.still h (by rw [binOp_andNot]; rfl) Sees.int
  case eql => exact Goes.still h (by rw [binOp_eql]; rfl) Sees.bool
  case neq => exact Goes.still h (by rw [binOp_neq]; rfl) Sees.bool
  case lss => exact Goes.still h (by rw [binOp_lss]; rfl) Sees.bool
  case leq => exact Goes.still h (by rw [binOp_leq]; rfl) Sees.bool
  case gtr => exact Goes.still h (by rw [binOp_gtr]; rfl) Sees.bool
  case geq => exact Goes.still h (by rw [binOp_geq]; rfl) Sees.bool

theorem shiftOp_sound (h : Rel B c s a) {op : BinOp} {k k' : IntKind} {x y : Int} {v : AV} (he : shiftOp op k x y = some (true, v)) {t : TypeId} : Goes P B c s (binOp op t (.int k x) (.int k' y)) v := by
  cases op <;> simp [shiftOp] at he
  case shl =>
    obtain ⟨hy, rfl⟩ := he
    refine Goes.still h ?_ Sees.int
    rw [binOp_shl, Op.shift, if_neg (by omega)]; rfl
  case shr =>
    obtain ⟨hy, rfl⟩ := he
    refine Goes.still h ?_ Sees.int
    rw [binOp_shr, Op.shift, if_neg (by omega)]; rfl

theorem strOp_sound (h : Rel B c s a) {op : BinOp} {x y : List UInt8} {v : AV} (he : strOp op x y = some (true, v)) {t : TypeId} : Goes P B c s (binOp op t (.string ⟨x.toArray⟩) (.string ⟨y.toArray⟩)) v := by
  cases op <;> simp only [strOp, ok1, Option.some.injEq, Prod.mk.injEq, true_and, reduceCtorEq] at he
  case add =>
    obtain ⟨hy, rfl⟩ := he
    refine Goes.still h ?_ Sees.str
    have hle : x.length + y.length ≤ 4611686018427387904 := Nat.le_of_ble_eq_true hy
    have e : binOp .add t (.string ⟨x.toArray⟩) (.string ⟨y.toArray⟩) = Op.stringOp .add ⟨x.toArray⟩ ⟨y.toArray⟩ := by simp [binOp]
    rw [e, run_string_add_sum (P := P) (w := c.w) ⟨x.toArray⟩ ⟨y.toArray⟩ (by show x.toArray.size + y.toArray.size ≤ 9223372036854775807; simp; omega)]
    congr 2
  all_goals (subst he)
  case eql => exact Goes.still h (by rw [binOp_string_eql]; simp) Sees.bool
  case neq => exact Goes.still h (by rw [binOp_string_neq]; simp) Sees.bool
  case lss => exact Goes.still h (by rw [binOp_string_lss]; simp [bytesLt]) Sees.bool
  case leq => exact Goes.still h (by rw [binOp_string_leq]; simp [bytesLt]) Sees.bool
  case gtr => exact Goes.still h (by rw [binOp_string_gtr]; simp [bytesLt]) Sees.bool
  case geq => exact Goes.still h (by rw [binOp_string_geq]; simp [bytesLt]) Sees.bool

theorem binA_sound (h : Rel B c s a) {op : BinOp} {t : TypeId} {x y v : AV} {X Y : Value} (hx : Rep c x X) (hy : Rep c y Y) (he : binA P op t x y = some (true, v)) {xo yo : Operand} :
    Goes P B c s (do eqGuard op t xo yo X Y; binOp op t X Y) v := by
  cases x with
  | int k m =>
    cases y with
    | int k' n =>
      cases hx; cases hy
      rw [eqGuard_at_int]
      simp only [binA] at he
      cases hs : isShift op with
      | true => simp only [hs, cond_true] at he; exact shiftOp_sound h he
      | false =>
        simp only [hs, cond_false] at he
        by_cases hk : k = k'
        · subst hk; simp only [decide_true, cond_true] at he; exact intOp_sound h he hs
        · simp [hk] at he
    | _ => simp [binA] at he
  | str m =>
    cases y with
    | str n => cases hx; cases hy; rw [eqGuard_at_string]; exact strOp_sound h he
    | _ => simp [binA] at he
  | bool m =>
    cases y with
    | bool n =>
      cases hx; cases hy
      rw [eqGuard_at_bool]
      simp only [binA] at he
      split at he
      · rename_i hu
        have e1 : (Op.equal t (.bool m) (.bool n)).run P c.w = .ok (m == n) c.w := by
          simp only [Op.equal, Op.maxDepth]
          unfold Op.equalIn
          simp [run_underlying hu]
        cases op <;> simp [ok1] at he
        · subst he
          refine Goes.still h (x := .bool (m == n)) ?_ Sees.bool
          show (binOp .eql t (.bool m) (.bool n)).run P c.w = _
          simp [binOp, e1]
        · subst he
          refine Goes.still h (x := .bool (!(m == n))) ?_ Sees.bool
          show (binOp .neq t (.bool m) (.bool n)).run P c.w = _
          simp [binOp, e1]
      · simp at he
    | _ => simp [binA] at he
  | _ => simp [binA] at he

theorem unA_sound (h : Rel B c s a) {op : UnOp} {x v : AV} {X : Value} (hx : Rep c x X) (he : unA op x = some (true, v)) : Goes P B c s (Op.unary op X) v := by
  cases op <;> cases x <;> simp [unA, ok1] at he <;> subst he <;> cases hx
  · exact Goes.still h (by simp [Op.unary, Op.intArith]) Sees.int
  · exact Goes.still h (by simp [Op.unary]) Sees.bool

theorem lenA_sound (h : Rel B c s a) {x v : AV} {X : Value} {t ty : TypeId} (hx : Rep c x X) (he : lenA P t x = some (true, v)) : Goes P B c s (Builtin.len_ #[t] ty #[X]) v := by
  unfold lenA at he
  split at he <;> simp [ok1] at he <;> subst he
  · rename_i hu; cases hx <;> exact Goes.still h (by simp [Builtin.len_, run_underlying hu, goInt]) Sees.int
  · rename_i hu; cases hx; exact Goes.still h (by simp [Builtin.len_, run_underlying hu, goInt]) Sees.int
  · rename_i hu; cases hx; exact Goes.still h (by simp [Builtin.len_, run_underlying hu, goInt]; rfl) Sees.int
  · rename_i hu; cases hx; exact Goes.still h (by simp [Builtin.len_, run_underlying hu, goInt]) Sees.int
end Go.Ab
