/- Soundness of the operations that make and write memory: new variables, stores, make, append; and of all pure operations together. -/
import Derived.Test.YtmiiklmfnagbbaaDoorAbsOps4
namespace Go.Ab
open Go Go.RowKit
variable {P : Program} {B : Base} {c : Cx} {s : St} {a : Act}

/-- An operation of a frame that goes to a value. -/
def OpGoes (P : Program) (B : Base) (c : Cx) (s : St) (a : Act) (o : Oper) (v : AV) : Prop :=
  ∃ x c', (execOp a.eval o).run P c.w = .ok (.value x) c'.w ∧ Keeps c c' s.objs ∧ Grow B c c' ∧ Sees B c' s v x

theorem OpGoes.of {o : Oper} {m : Sem Value} {v : AV} (hm : execOp a.eval o = (do let x ← m; pure (Next.value x))) (hg : Goes P B c s m v) : OpGoes P B c s a o v := by
  obtain ⟨x, c', h1, h2, h3, h4⟩ := hg
  exact ⟨x, c', by rw [hm]; simp [h1], h2, h3, h4⟩
theorem OpGoes.now (h : Rel B c s a) {o : Oper} {v : AV} {x : Value} (hr : (execOp a.eval o).run P c.w = .ok (.value x) c.w) (hs : Sees B c s v x) : OpGoes P B c s a o v :=
  ⟨x, c, hr, Keeps.refl _ _, Grow.refl h.good, hs⟩

theorem evalM_sound (h : Rel B c s a) {ch : Chain} (hc : ChOk a ch) {x : Option Operand} {v : Option AV} (he : pureA.evalM ⟨s, B.G, ch⟩ x = some v) : OSees B c s v (x.map a.eval) := by
  cases x with
  | none => simp [pureA.evalM] at he; subst he; exact .none
  | some o =>
    simp only [pureA.evalM] at he
    cases ho : evalO ⟨s, B.G, ch⟩ o with
    | none => simp [ho] at he
    | some u => simp [ho] at he; subst he; exact .some (evalO_sound h hc ho)

theorem SeesL.fn {l : List AV} {xs : List Value} (h : SeesL B c s l xs) : xs.toArray.size = l.length ∧ (∀ (i : Nat) (u : AV), l[i]? = some u → Rep c u (xs.toArray.getD i undef)) ∧ ∀ k ∈ keysL l, live s.objs k := by
  refine ⟨by simpa using h.1, fun i u hu => ?_, ?_⟩
  · have := (h.2 i u hu).rep
    simpa [Array.getD_eq_getD_getElem?, List.getD_eq_getElem?_getD] using this
  · have aux : ∀ (l : List AV) (xs : List Value), SeesL B c s l xs → ∀ k ∈ keysL l, live s.objs k := by
      intro l
      induction l with
      | nil => intro xs _ k hk; simp [keysL] at hk
      | cons v r ih =>
        intro xs h k hk
        obtain ⟨x, q, rfl, h1, h2⟩ := h.cons_inv
        simp only [keysL, List.mem_append] at hk
        rcases hk with hk | hk
        · exact h1.live k hk
        · exact ih _ h2 k hk
    exact aux l xs h

theorem pureA_sound (h : Rel B c s a) {ch : Chain} (hc : ChOk a ch) {o : Oper} {v : AV} (he : pureA P ⟨s, B.G, ch⟩ o.op = some (true, v)) : OpGoes P B c s a o v := by
  cases ho : o.op with
  | move x =>
    simp only [ho, pureA, val1] at he
    cases hx : evalO ⟨s, B.G, ch⟩ x with
    | none => simp [hx] at he
    | some u => simp [hx] at he; subst he; exact OpGoes.now h (x := a.eval x) (by simp [execOp, ho]) (evalO_sound h hc hx)
  | assign x =>
    simp only [ho, pureA, val1] at he
    cases hx : evalO ⟨s, B.G, ch⟩ x with
    | none => simp [hx] at he
    | some u => simp [hx] at he; subst he; exact OpGoes.now h (x := a.eval x) (by simp [execOp, ho]) (evalO_sound h hc hx)
  | pick z x y =>
    simp only [ho, pureA] at he
    cases z with
    | tmp t =>
      obtain ⟨q, h1, h2⟩ := pickA_sound (P := P) h hc he ho
      exact OpGoes.now h h1 h2
    | _ => simp at he
  | build t ps =>
    simp only [ho, pureA] at he
    cases hp : evalParts ⟨s, B.G, ch⟩ ps.toList with
    | none => simp [hp] at he
    | some l =>
      simp [hp] at he
      refine OpGoes.of ?_ (buildA_sound h (evalParts_sound h hc hp) he)
      simp only [execOp, ho]
      congr 1
      congr 1
      apply Array.ext'
      simp
  | buildSlice t n ps =>
    simp only [ho, pureA] at he
    cases hp : evalParts ⟨s, B.G, ch⟩ ps.toList with
    | none => simp [hp] at he
    | some l =>
      simp [hp] at he
      refine OpGoes.of ?_ (buildSliceA_sound h (evalParts_sound h hc hp) he)
      simp only [execOp, ho]
      congr 1
      congr 1
      apply Array.ext'
      simp
  | load t x =>
    simp only [ho, pureA] at he
    cases hx : evalO ⟨s, B.G, ch⟩ x with
    | none => simp [hx] at he
    | some u => simp [hx] at he; exact OpGoes.of (by simp only [execOp, ho]) (loadA_sound h (evalO_sound h hc hx).rep he)
  | nilCheck x =>
    simp only [ho, pureA] at he
    cases hx : evalO ⟨s, B.G, ch⟩ x with
    | none => simp [hx] at he
    | some u => simp only [hx, Option.bind_some] at he; exact nilCheck_sound h (evalO_sound h hc hx) he ho rfl
  | binOp op t x y yt =>
    simp only [ho, pureA] at he
    cases hx : evalO ⟨s, B.G, ch⟩ x with
    | none => simp [hx] at he
    | some u =>
      cases hy : evalO ⟨s, B.G, ch⟩ y with
      | none => simp [hx, hy] at he
      | some w =>
        simp [hx, hy] at he
        exact OpGoes.of (by simp only [execOp, ho]) (binA_sound (xo := x) (yo := y) h (evalO_sound h hc hx).rep (evalO_sound h hc hy).rep he)
  | unOp op t x =>
    simp only [ho, pureA] at he
    cases hx : evalO ⟨s, B.G, ch⟩ x with
    | none => simp [hx] at he
    | some u => simp [hx] at he; exact OpGoes.of (by simp only [execOp, ho]) (unA_sound h (evalO_sound h hc hx).rep he)
  | convert t1 t2 x =>
    simp only [ho, pureA] at he
    cases hx : evalO ⟨s, B.G, ch⟩ x with
    | none => simp [hx] at he
    | some u => simp [hx] at he; exact OpGoes.of (by simp only [execOp, ho]) (convA_sound h (evalO_sound h hc hx) he)
  | makeFunc fn p q =>
    simp only [ho, pureA] at he
    cases fn with
    | func f =>
      simp only at he
      cases hx : evalL ⟨s, B.G, ch⟩ p.toList with
      | none => simp [hx] at he
      | some l1 =>
        cases hy : evalL ⟨s, B.G, ch⟩ q.toList with
        | none => simp [hx, hy] at he
        | some l2 =>
          simp [hx, hy, ok1] at he; subst he
          have s1 := (evalL_sound h hc hx).fn
          have s2 := (evalL_sound h hc hy).fn
          have e1 : (p.toList.map a.eval).toArray = p.map a.eval := by apply Array.ext'; simp
          have e2 : (q.toList.map a.eval).toArray = q.map a.eval := by apply Array.ext'; simp
          rw [e1] at s1
          rw [e2] at s2
          refine OpGoes.now h (x := .func (.func f) (p.map a.eval) (q.map a.eval)) (by simp [execOp, ho, Instr.makeFunc]) ⟨.fn f l1 l2 _ _ s1.1 s2.1 s1.2.1 s2.2.1, fun k hk => ?_, rfl⟩
          simp only [AV.keys, List.mem_append] at hk
          exact hk.elim (s1.2.2 k) (s2.2.2 k)
    | _ => simp at he
  | slice t x l hi m =>
    simp only [ho, pureA] at he
    cases hx : evalO ⟨s, B.G, ch⟩ x with
    | none => simp [hx] at he
    | some u =>
      cases hl : pureA.evalM ⟨s, B.G, ch⟩ l with
      | none => simp [hx, hl] at he
      | some l' =>
        cases hh : pureA.evalM ⟨s, B.G, ch⟩ hi with
        | none => simp [hx, hl, hh] at he
        | some hi' =>
          cases hm : pureA.evalM ⟨s, B.G, ch⟩ m with
          | none => simp [hx, hl, hh, hm] at he
          | some m' =>
            simp [hx, hl, hh, hm] at he
            exact OpGoes.of (by simp only [execOp, ho]) (sliceA_sound h (evalO_sound h hc hx) (evalM_sound h hc hl) (evalM_sound h hc hh) (evalM_sound h hc hm) he)
  | fieldAddr t x f =>
    simp only [ho, pureA] at he
    cases hx : evalO ⟨s, B.G, ch⟩ x with
    | none => simp [hx] at he
    | some u => simp [hx] at he; exact OpGoes.of (by simp only [execOp, ho]) (fieldAddrA_sound h (evalO_sound h hc hx) he)
  | field t x f =>
    simp only [ho, pureA] at he
    cases hx : evalO ⟨s, B.G, ch⟩ x with
    | none => simp [hx] at he
    | some u => simp [hx] at he; exact OpGoes.of (by simp only [execOp, ho]) (fieldA_sound h (evalO_sound h hc hx) he)
  | indexAddr t x y =>
    simp only [ho, pureA] at he
    cases hx : evalO ⟨s, B.G, ch⟩ x with
    | none => simp [hx] at he
    | some u =>
      cases hy : evalO ⟨s, B.G, ch⟩ y with
      | none => simp [hx, hy] at he
      | some w => simp [hx, hy] at he; exact OpGoes.of (by simp only [execOp, ho]) (indexAddrA_sound h (evalO_sound h hc hx) (evalO_sound h hc hy) he)
  | index t x y =>
    simp only [ho, pureA] at he
    cases hx : evalO ⟨s, B.G, ch⟩ x with
    | none => simp [hx] at he
    | some u =>
      cases hy : evalO ⟨s, B.G, ch⟩ y with
      | none => simp [hx, hy] at he
      | some w => simp [hx, hy] at he; exact OpGoes.of (by simp only [execOp, ho]) (indexA_sound h (evalO_sound h hc hx) (evalO_sound h hc hy) he)
  | extract x i =>
    simp only [ho, pureA] at he
    cases hx : evalO ⟨s, B.G, ch⟩ x with
    | none => simp [hx] at he
    | some u => simp [hx] at he; exact OpGoes.of (by simp only [execOp, ho]) (extractA_sound h (evalO_sound h hc hx) he)
  | call q =>
    obtain ⟨callee, args, argTypes⟩ := q
    cases callee with
    | builtin b =>
      have hexec : ∀ (m : Sem Value), (∀ consts, builtin b argTypes o.type consts (args.map a.eval) = (do let x ← m; pure (Next.value x))) → execOp a.eval o = (do let x ← m; pure (Next.value x)) := by
        intro m hm
        simp only [execOp, ho, resolve, pure_bind, invoke]
        exact hm _
      cases b with
      | len =>
        simp only [ho, pureA] at he
        cases hl : evalL ⟨s, B.G, ch⟩ args.toList with
        | none => simp [hl] at he
        | some l =>
          simp only [hl, Option.bind_some] at he
          split at he
          · rename_i x t ht
            have hs := evalL_sound h hc hl
            obtain ⟨X, R, hXR, hx, hr⟩ := hs.cons_inv
            have hR := hr.nil_inv
            subst hR
            have e1 : args.map a.eval = #[X] := by apply Array.ext'; simpa using hXR
            have e2 : argTypes = #[t] := by apply Array.ext'; simpa using ht
            exact OpGoes.of (hexec _ (fun _ => by rw [e1, e2]; rfl)) (lenA_sound (ty := o.type) h hx.rep he)
          · simp at he
      | max =>
        simp only [ho, pureA] at he
        cases hl : evalL ⟨s, B.G, ch⟩ args.toList with
        | none => simp [hl] at he
        | some l =>
          simp only [hl, Option.bind_some] at he
          have hs := evalL_sound h hc hl
          refine OpGoes.of (hexec _ (fun _ => ?_)) (max_sound (ts := argTypes) (ty := o.type) h hs he)
          have e1 : args.map a.eval = (args.toList.map a.eval).toArray := by apply Array.ext'; simp
          rw [e1]; rfl
      | min =>
        simp only [ho, pureA] at he
        cases hl : evalL ⟨s, B.G, ch⟩ args.toList with
        | none => simp [hl] at he
        | some l =>
          simp only [hl, Option.bind_some] at he
          have hs := evalL_sound h hc hl
          refine OpGoes.of (hexec _ (fun _ => ?_)) (min_sound (ts := argTypes) (ty := o.type) h hs he)
          have e1 : args.map a.eval = (args.toList.map a.eval).toArray := by apply Array.ext'; simp
          rw [e1]; rfl
      | _ => simp [ho, pureA] at he
    | _ => simp [ho, pureA] at he
  | _ => simp [ho, pureA] at he
end Go.Ab
