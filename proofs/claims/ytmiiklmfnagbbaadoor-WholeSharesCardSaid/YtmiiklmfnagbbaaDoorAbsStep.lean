/- One operation of a region, sound. -/
import Derived.Test.YtmiiklmfnagbbaaDoorAbsCall2
namespace Go.Ab
open Go Go.RowKit
variable {P : Program} {B : Base} {c : Cx} {s : St} {a : Act}

/-- What the calls of a configuration are known to do. -/
def CallsOk (X : Cfg) : Prop := ∀ f l os r os', X.pre f l os = true → X.call f l os = some (r, os') →
  CallOk X.P X.G f l os r os' ∧ ∃ fn, X.P.funcs[f]? = some fn ∧ (fn.name == "runtime.NumGoroutine") = false ∧ fn.body.isSome = true

theorem opt_bind {α β : Type} {x : Option α} {f : α → Option β} {r : β} (h : x.bind f = some r) : ∃ y, x = some y ∧ f y = some r := by
  cases x with
  | none => simp at h
  | some y => exact ⟨y, rfl, h⟩
theorem opt_map {α β : Type} {x : Option α} {f : α → β} {r : β} (h : x.map f = some r) : ∃ y, x = some y ∧ f y = r := by
  cases x with
  | none => simp at h
  | some y => exact ⟨y, rfl, by simpa using h⟩
theorem guardO_inv {α : Type} {b : Bool} {x : Option α} {r : α} (h : guardO b x = some r) : b = true ∧ x = some r := by
  cases b with
  | false => simp [guardO] at h
  | true => exact ⟨rfl, h⟩
theorem cond_none {α : Type} {b : Bool} {x : Option α} {r : α} (h : cond b x none = some r) : b = true ∧ x = some r := by
  cases b with
  | false => simp at h
  | true => exact ⟨rfl, h⟩
theorem cond_none' {α : Type} {b : Bool} {x : Option α} {r : α} (h : cond b none x = some r) : b = false ∧ x = some r := by
  cases b with
  | false => exact ⟨rfl, h⟩
  | true => simp at h

theorem doCall_sound {X : Cfg} (hX : CallsOk X) (hG : X.G = B.G) (h : Rel B c s a) {f : FuncId} {l : List AV} {xs : List Value} {v : AV} {objs' : List (Nat × AO)} (hs : SeesL B c s l xs)
    (he : doCall X s.objs f l = some (true, v, objs')) :
    (Calls X.P f xs.toArray c.w fun e w' => ∃ c2 x, e = .returned x ∧ c2.w = w' ∧ Rel B c2 (s.with objs') a ∧ Sees B c2 (s.with objs') v x) ∧
      ∃ fn, X.P.funcs[f]? = some fn ∧ (fn.name == "runtime.NumGoroutine") = false ∧ fn.body.isSome = true := by
  unfold doCall at he
  obtain ⟨⟨l1, o1⟩, h1, he⟩ := opt_bind he
  have hfz : ∃ c1, c1.w = c.w ∧ Rel B c1 (s.with o1) a ∧ SeesL B c1 (s.with o1) l1 xs := by
    cases hb : X.byRef f with
    | true => simp [hb] at h1; obtain ⟨rfl, rfl⟩ := h1; exact ⟨c, rfl, h, hs⟩
    | false =>
      simp [hb] at h1
      obtain ⟨c1, e1, e2, e3, _, _⟩ := freezeVs_sound h hs h1
      exact ⟨c1, e1, e2, e3⟩
  obtain ⟨c1, hw, hr1, hs1⟩ := hfz
  dsimp only at he
  obtain ⟨hcl, he⟩ := cond_none he
  obtain ⟨os, hos, he⟩ := opt_bind he
  obtain ⟨⟨r, os'⟩, hcall, he⟩ := opt_bind he
  obtain ⟨hlen, he⟩ := cond_none he
  dsimp only at hlen he
  simp only [Option.some.injEq, Prod.mk.injEq] at he
  obtain ⟨hpre, rfl, rfl⟩ := he
  obtain ⟨hok, hfn⟩ := hX _ _ _ _ _ hpre hcall
  rw [hG] at hok
  obtain ⟨hn, hk⟩ := reachK_spec o1 (keysL (shedL l1))
  have hcore := call_core (P := X.P) hr1 hn hos (subK_spec hcl) hs1.shed hk hok (beqT hlen)
  rw [hw] at hcore
  exact ⟨hcore, hfn⟩

theorem Rel.put' {d : Option Nat} {v : AV} {x : Value} (h : Rel B c s a) (hd : ∀ t, d = some t → t < B.N ∧ FreeOf s t) (hs : Sees B c s v x) : Rel B c (s.put d v) (a.put d x) := by
  cases d with
  | none => exact h
  | some d => exact h.put (hd d rfl).1 hs.rep hs.plain hs.live (hd d rfl).2

theorem run_program_bind {α : Type} (k : Program → Sem α) (w : World) : (program >>= k).run P w = (k P).run P w := rfl
theorem run_callFunc {f : FuncId} {args : Array Value} {w : World} {fn : Func} (h1 : P.funcs[f]? = some fn) (h2 : (fn.name == "runtime.NumGoroutine") = false) (h3 : fn.body.isSome = true) :
    (callFunc f args).run P w = .ok (.enter f args) w := by
  have h3' : fn.body.isNone = false := by cases hb : fn.body <;> simp_all
  unfold callFunc
  rw [run_program_bind, h1]
  simp only [h2, h3', Bool.false_eq_true, if_false, Sem.run_pure]

theorem SeesL.append {l m : List AV} {xs ys : List Value} (h : SeesL B c s l xs) (k : SeesL B c s m ys) : SeesL B c s (l ++ m) (xs ++ ys) := by
  refine ⟨by simp [h.1, k.1], fun i u hu => ?_⟩
  by_cases hi : i < l.length
  · rw [List.getElem?_append_left hi] at hu
    have : (xs ++ ys).getD i undef = xs.getD i undef := by simp [List.getD_eq_getElem?_getD, List.getElem?_append_left (show i < xs.length by rw [h.1]; exact hi)]
    rw [this]; exact h.2 i u hu
  · rw [List.getElem?_append_right (by omega)] at hu
    have : (xs ++ ys).getD i undef = ys.getD (i - l.length) undef := by
      simp only [List.getD_eq_getElem?_getD]
      rw [List.getElem?_append_right (by rw [h.1]; omega), h.1]
    rw [this]; exact k.2 _ u hu

theorem calleeA_sound (h : Rel B c s a) {ch : Chain} (hc : ChOk a ch) {o : Oper} {q : Operand} {args : Array Operand} {ts : Array TypeId} (ho : o.op = .call { callee := .value q, args, argTypes := ts }) {f : FuncId} {l : List AV}
    (he : calleeA ⟨s, B.G, ch⟩ { callee := .value q, args, argTypes := ts } = some (f, l)) :
    ∃ xs, SeesL B c s l xs ∧ ∀ (fn : Func), P.funcs[f]? = some fn → (fn.name == "runtime.NumGoroutine") = false → fn.body.isSome = true → (execOp a.eval o).run P c.w = .ok (.enter f xs.toArray) c.w := by
  unfold calleeA at he
  dsimp only at he
  obtain ⟨fv, h1, he⟩ := opt_bind he
  obtain ⟨vs, h2, he⟩ := opt_bind he
  have hf := evalO_sound h hc h1
  have hv := evalL_sound h hc h2
  cases fv with
  | fn f' first caps =>
    simp only [Option.some.injEq, Prod.mk.injEq] at he
    obtain ⟨rfl, rfl⟩ := he
    obtain ⟨hr, hl, _⟩ := hf
    generalize hq : a.eval q = Q at hr
    cases hr with
    | fn _ _ _ va vb e1 e2 e3 e4 =>
      have hfirst : SeesL B c s first va.toList := ⟨by simpa using e1, fun i u hu => ⟨by
        have := e3 i u hu
        simpa [Array.getD_eq_getD_getElem?, List.getD_eq_getElem?_getD] using this, fun k hk => hl k (by simp only [AV.keys, List.mem_append]; exact .inl (keys_mem_of hu k hk)), (e3 i u hu).plain⟩⟩
      have hcaps : SeesL B c s caps vb.toList := ⟨by simpa using e2, fun i u hu => ⟨by
        have := e4 i u hu
        simpa [Array.getD_eq_getD_getElem?, List.getD_eq_getElem?_getD] using this, fun k hk => hl k (by simp only [AV.keys, List.mem_append]; exact .inr (keys_mem_of hu k hk)), (e4 i u hu).plain⟩⟩
      refine ⟨_, (hfirst.append hv).append hcaps, fun fn g1 g2 g3 => ?_⟩
      have e : (va.toList ++ args.toList.map a.eval ++ vb.toList).toArray = va ++ args.map a.eval ++ vb := by apply Array.ext'; simp
      rw [e]
      simp only [execOp, ho, resolve, hq, Deferred.ofValue, pure_bind, invoke]
      exact run_callFunc g1 g2 g3
  | _ => simp at he

/-- A step of one operation: the next state stands for the next world. -/
def OStep (P : Program) (B : Base) (c : Cx) (a : Act) (o : Oper) (s' : St) : Prop :=
  ∀ Q, o.wp P a c.w (fun a' w' => ∃ c', c'.w = w' ∧ Rel B c' s' a') Q

theorem OStep.value {c' : Cx} {o : Oper} {x : Value} {v : AV} {objs' : List (Nat × AO)} (hd : ∀ t, o.dst = some t → t < B.N ∧ FreeOf s t) (hrun : (execOp a.eval o).run P c.w = .ok (.value x) c'.w)
    (hr : Rel B c' (s.with objs') a) (hs : Sees B c' (s.with objs') v x) : OStep P B c a o (s.after o.dst v objs') := by
  intro Q
  simp only [Oper.wp, hrun, Oper.upon]
  exact ⟨c', rfl, hr.put' hd hs⟩
theorem OStep.skip {c' : Cx} {o : Oper} {objs' : List (Nat × AO)} (hd : ∀ t, o.dst = some t → t < B.N ∧ FreeOf s t) (hrun : (execOp a.eval o).run P c.w = .ok .skip c'.w)
    (hr : Rel B c' (s.with objs') a) : OStep P B c a o (s.after o.dst .undef objs') := by
  intro Q
  simp only [Oper.wp, hrun, Oper.upon]
  exact ⟨c', rfl, hr.put' hd ⟨.undef _, by simp [AV.keys], rfl⟩⟩
theorem OpGoes.step {o : Oper} {v : AV} (h : Rel B c s a) (hd : ∀ t, o.dst = some t → t < B.N ∧ FreeOf s t) (hg : OpGoes P B c s a o v) : OStep P B c a o (s.after o.dst v s.objs) := by
  obtain ⟨x, c', h1, h2, h3, h4⟩ := hg
  exact OStep.value hd h1 (h.keep h2 h3) h4

theorem execOp_v {o : Oper} {m : Sem Value} {x : Value} {w w' : World} (he : execOp a.eval o = (do let x ← m; pure (Next.value x))) (hm : m.run P w = .ok x w') : (execOp a.eval o).run P w = .ok (.value x) w' := by
  rw [he]; simp [hm]

theorem effA_sound {X : Cfg} (hX : CallsOk X) (hG : X.G = B.G) (h : Rel B c s a) {o : Oper} (hd : ∀ t, o.dst = some t → t < B.N ∧ FreeOf s t) {v : AV} {objs' : List (Nat × AO)}
    (he : effA X s o = some (true, v, objs')) : OStep X.P B c a o (s.after o.dst v objs') ∧ v.isGrd = false := by
  have hch : ChOk a [] := fun t w hm => by simp at hm
  have hpure : (pureA X.P ⟨s, X.G, []⟩ o.op).map (fun r => (r.1, r.2, s.objs)) = some (true, v, objs') → OStep X.P B c a o (s.after o.dst v objs') ∧ v.isGrd = false := by
    intro he
    obtain ⟨⟨b, u⟩, h1, h2⟩ := opt_map he
    simp only [Prod.mk.injEq] at h2
    obtain ⟨rfl, rfl, rfl⟩ := h2
    rw [hG] at h1
    have hg := pureA_sound h hch h1
    refine ⟨hg.step h hd, ?_⟩
    obtain ⟨_, _, _, _, _, h4⟩ := hg
    exact h4.plain
  cases ho : o.op with
  | alloc t =>
    simp only [effA, ho] at he
    cases hdst : o.dst with
    | none => simp [hdst] at he
    | some d =>
      simp only [hdst] at he
      cases hob : s.obj d with
      | some _ => simp [hob] at he
      | none =>
        simp only [hob] at he
        obtain ⟨ob, h1, h2⟩ := opt_map he
        simp only [Prod.mk.injEq] at h2
        obtain ⟨_, rfl, rfl⟩ := h2
        obtain ⟨x, c', e1, e2, e3⟩ := alloc_sound h hob h1
        exact ⟨hdst ▸ OStep.value hd (execOp_v (by simp [execOp, ho]) e1) e2 e3, e3.plain⟩
  | box t x =>
    simp only [effA, ho] at he
    cases hdst : o.dst with
    | none => simp [hdst] at he
    | some d =>
      simp only [hdst] at he
      cases hob : s.obj d with
      | some _ => simp [hob] at he
      | none =>
        simp only [hob] at he
        obtain ⟨u, h1, he⟩ := opt_bind he
        rw [hG] at h1
        have hu := evalO_sound h hch h1
        have hcells : guardO (allOne u.cells && (sizeOf? X.P t == some u.cells.length)) (some (true, AV.ref d 0, aput s.objs d (AO.cells u.cells))) = some (true, v, objs') → OStep X.P B c a o (s.after (some d) v objs') ∧ v.isGrd = false := by
          intro he
          obtain ⟨hb, he⟩ := guardO_inv he
          simp only [Option.some.injEq, Prod.mk.injEq] at he
          obtain ⟨_, rfl, rfl⟩ := he
          simp only [Bool.and_eq_true] at hb
          obtain ⟨y, c', e1, e2, e3⟩ := box_cells_sound (P := X.P) (t := t) h hob hu hb.1
          exact ⟨hdst ▸ OStep.value hd (execOp_v (by simp [execOp, ho]) e1) e2 e3, e3.plain⟩
        cases u with
        | arr sz n get =>
          dsimp only at he
          obtain ⟨hb, he⟩ := guardO_inv he
          simp only [Option.some.injEq, Prod.mk.injEq] at he
          obtain ⟨_, rfl, rfl⟩ := he
          obtain ⟨y, c', e1, e2, e3⟩ := box_arr_sound (P := X.P) (t := t) h hob hu.rep
          exact ⟨hdst ▸ OStep.value hd (execOp_v (by simp [execOp, ho]) e1) e2 e3, e3.plain⟩
        | _ => exact hcells he
  | store t x y =>
    simp only [effA, ho] at he
    obtain ⟨u, h1, he⟩ := opt_bind he
    obtain ⟨q, h2, he⟩ := opt_bind he
    obtain ⟨⟨b, k, ob⟩, h3, he⟩ := opt_map he
    simp only [Prod.mk.injEq] at he
    obtain ⟨rfl, rfl, rfl⟩ := he
    rw [hG] at h1 h2
    obtain ⟨c', e1, e2⟩ := storeA_sound h (evalO_sound h hch h1) (evalO_sound h hch h2) h3
    exact ⟨OStep.skip hd (by simp only [execOp, ho]; simp [e1]) e2, rfl⟩
  | makeSlice t l n =>
    simp only [effA, ho] at he
    cases hdst : o.dst with
    | none => simp [hdst] at he
    | some d =>
      simp only [hdst] at he
      obtain ⟨u, h1, he⟩ := opt_bind he
      obtain ⟨q, h2, he⟩ := opt_bind he
      obtain ⟨⟨b, v', k, ob⟩, h3, he⟩ := opt_map he
      simp only [Prod.mk.injEq] at he
      obtain ⟨rfl, rfl, rfl⟩ := he
      rw [hG] at h1 h2
      obtain ⟨z, c', e1, e2, e3⟩ := makeSliceA_sound h (evalO_sound h hch h1).rep (evalO_sound h hch h2).rep h3
      exact ⟨hdst ▸ OStep.value hd (execOp_v (by simp [execOp, ho]) e1) e2 e3, e3.plain⟩
  | call q =>
    obtain ⟨callee, args, argTypes⟩ := q
    cases callee with
    | builtin b =>
      cases b with
      | append =>
        simp only [effA, ho] at he
        split at he
        · rename_i d t t' hdst hts
          obtain ⟨hb, he'⟩ := guardO_inv he
          have := beqT hb
          subst this
          clear he
          obtain ⟨l, h1, he⟩ := opt_bind he'
          rw [hG] at h1
          split at he
          · rename_i x y
            obtain ⟨⟨b, v', k, ob⟩, h3, he⟩ := opt_map he
            simp only [Prod.mk.injEq] at he
            obtain ⟨rfl, rfl, rfl⟩ := he
            have hs := evalL_sound h hch h1
            obtain ⟨x1, R, hXR, hx, hr⟩ := hs.cons_inv
            obtain ⟨x2, R2, hXR2, hy, hr2⟩ := hr.cons_inv
            have hR := hr2.nil_inv
            subst hR hXR2
            have e1 : args.map a.eval = #[x1, x2] := by apply Array.ext'; simpa using hXR
            have e2 : argTypes = #[t, t] := by apply Array.ext'; simpa using hts
            obtain ⟨V, c', g1, g2, g3⟩ := appendA_sound (ty := o.type) h hx.rep hy.rep h3
            refine ⟨hdst ▸ OStep.value hd (execOp_v (m := Builtin.append_ #[t, t] o.type #[x1, x2]) ?_ g1) g2 g3, g3.plain⟩
            simp only [execOp, ho, resolve, pure_bind, invoke, builtin, e1, e2]
          · simp at he
        · simp at he
      | _ => simp only [effA, ho] at he; exact hpure (by rw [ho]; exact he)
    | value f =>
      simp only [effA, ho] at he
      obtain ⟨⟨g, l⟩, h1, he⟩ := opt_bind he
      rw [hG] at h1
      obtain ⟨xs, hs, hrun⟩ := calleeA_sound (P := X.P) h hch ho h1
      obtain ⟨hcall, fn, g1, g2, g3⟩ := doCall_sound hX hG h hs he
      refine ⟨?_, ?_⟩
      case refine_2 =>
        obtain ⟨e, w', fr, ⟨c2, x, _, _, _, hx⟩, _⟩ := hcall []
        exact hx.plain
      intro Q
      simp only [Oper.wp, hrun fn g1 g2 g3, Oper.upon]
      refine hcall.mono ?_
      rintro e w' ⟨c2, x, rfl, rfl, hr, hx⟩
      exact ⟨c2, rfl, hr.put' hd hx⟩
    | invoke r m => simp only [effA, ho] at he; exact hpure (by rw [ho]; exact he)
  | _ => simp only [effA, ho] at he; exact hpure (by rw [ho]; exact he)
end Go.Ab
