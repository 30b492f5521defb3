/- What an operation of a region depends on: calls, guards. -/
import Derived.Test.YtmiiklmfnagbbaaDoorAbsDrawn1
namespace Go.Ab
open Go Go.RowKit

mutual
theorem shed_nil : ∀ (v : AV), v.keys = [] → v.shed = v
  | .sl o sz n get, h => by cases o <;> simp_all [AV.keys, AV.shed]
  | .agg cs, h => by simp only [AV.shed]; rw [shedL_nil cs (by simpa [AV.keys] using h)]
  | .tup vs, h => by simp only [AV.shed]; rw [shedL_nil vs (by simpa [AV.keys] using h)]
  | .ref .., _ | .aref .., _ | .msl .., _ | .fn .., _ | .bool _, _ | .int .., _ | .str _, _ | .nilp, _ | .nilf, _ | .nilm, _ | .nili, _ | .undef, _ | .arr .., _ | .elt .., _ | .grd .., _ => rfl
theorem shedL_nil : ∀ (l : List AV), keysL l = [] → shedL l = l
  | [], _ => rfl
  | v :: r, h => by
    simp only [keysL, List.append_eq_nil_iff] at h
    simp only [shedL]; rw [shed_nil v h.1, shedL_nil r h.2]
end
theorem freezeA_nil {O : List (Nat × AO)} {v : AV} (h : v.keys = []) : freezeA O v = some (v, O) := by
  cases v <;> first | rfl | (simp [AV.keys] at h; done)
theorem freezeL_nil {O : List (Nat × AO)} : ∀ {l : List AV}, keysL l = [] → freezeL O l = some (l, O)
  | [], _ => rfl
  | v :: r, h => by
    simp only [keysL, List.append_eq_nil_iff] at h
    simp only [freezeL, freezeA_nil h.1, freezeL_nil h.2, Option.bind_some]
theorem freezeV_nil {O : List (Nat × AO)} {v : AV} (h : v.keys = []) : freezeV O v = some (v, O) := by
  cases v with
  | agg cs => simp only [freezeV, freezeL_nil (show keysL cs = [] by simpa [AV.keys] using h), Option.map_some]
  | _ => exact freezeA_nil h
theorem freezeVs_nil {O : List (Nat × AO)} : ∀ {l : List AV}, keysL l = [] → freezeVs O l = some (l, O)
  | [], _ => rfl
  | v :: r, h => by
    simp only [keysL, List.append_eq_nil_iff] at h
    simp only [freezeVs, freezeV_nil h.1, freezeVs_nil h.2, Option.bind_some]

theorem doCall_nil {X : Cfg} {O : List (Nat × AO)} {f : FuncId} {l : List AV} (h : keysL l = []) :
    doCall X O f l = (X.call f l []).bind fun r => cond (Nat.beq r.2.length 0) (some (X.pre f l [], r.1.ren (fun k => nthD [] (k - keyBase)), O)) none := by
  have h1 : (cond (X.byRef f) (some (l, O)) (freezeVs O l)) = some (l, O) := by cases X.byRef f <;> simp [freezeVs_nil h]
  unfold doCall
  rw [h1]
  simp only [Option.bind_some, shedL_nil l h, h]
  have h2 : reachK O [] = [] := rfl
  have h3 : ∀ m : List AO, putObjs O [] m = O := by intro m; cases m <;> rfl
  simp only [h2, h3, objKeys, subK, cond_true, getObjs, Option.bind_some, List.map_nil, renL_nil _ l h, List.length_nil]

section
variable {s1 s2 : St} {G : Nat → Option (List AV)} {ch : Chain}

theorem calleeA_congr {f : Operand} {args : Array Operand} {ts : Array TypeId} (h : Agree s1 s2 (opTmps (Op.call { callee := .value f, args, argTypes := ts }).operands.toList)) :
    calleeA ⟨s1, G, ch⟩ { callee := .value f, args, argTypes := ts } = calleeA ⟨s2, G, ch⟩ { callee := .value f, args, argTypes := ts } := by
  simp only [calleeA]
  rw [evalO_congr (x := f) (h.sub (by simp [Op.operands, Call.operands])), evalL_congr (l := args.toList) (h.sub (by simp +contextual [Op.operands, Call.operands]))]

/-- A quiet operation that is no call leaves the objects. -/
theorem effA_pure {X : Cfg} {s : St} {o : Oper} (h1 : isLoud o.op = false) (h2 : isCallV o.op = false) : effA X s o = (pureA X.P ⟨s, X.G, []⟩ o.op).map fun r => (r.1, r.2, s.objs) := by
  cases hop : o.op with
  | call q =>
    obtain ⟨callee, args, ts⟩ := q
    cases callee with
    | builtin b => cases b <;> first | (simp [hop, isLoud] at h1; done) | simp only [effA, hop]
    | value f => simp [hop, isCallV] at h2
    | invoke r m => simp only [effA, hop]
  | alloc _ => simp [hop, isLoud] at h1
  | box _ _ => simp [hop, isLoud] at h1
  | store _ _ _ => simp [hop, isLoud] at h1
  | makeSlice _ _ _ => simp [hop, isLoud] at h1
  | _ => simp only [effA, hop]

theorem keysL_evalL {s : St} : ∀ {l : List Operand} {vs : List AV}, opKeys ⟨s, G, ch⟩ l = [] → evalL ⟨s, G, ch⟩ l = some vs → keysL vs = []
  | [], vs, _, h => by simp [evalL] at h; subst h; rfl
  | x :: r, vs, hk, h => by
    simp only [evalL] at h
    obtain ⟨v, h1, h⟩ := opt_bind h
    obtain ⟨l, h2, h⟩ := opt_map h
    subst h
    simp only [opKeys, h1, List.append_eq_nil_iff] at hk
    simp only [keysL, hk.1, keysL_evalL hk.2 h2, List.append_nil]

theorem opKeys_sub {c : Ctx} {l : List Operand} (h : opKeys c l = []) : ∀ {m : List Operand}, (∀ x ∈ m, x ∈ l) → opKeys c m = []
  | [], _ => rfl
  | x :: r, hs => by
    obtain ⟨v, h1, h2⟩ := opKeys_nil h x (hs x (by simp))
    simp only [opKeys, h1, h2, List.nil_append]
    exact opKeys_sub h fun y hy => hs y (List.mem_cons_of_mem _ hy)

theorem calleeA_keys {s : St} {f : Operand} {args : Array Operand} {ts : Array TypeId} (h : opKeys ⟨s, G, ch⟩ (Op.call { callee := .value f, args, argTypes := ts }).operands.toList = []) {g : FuncId} {l : List AV}
    (he : calleeA ⟨s, G, ch⟩ { callee := .value f, args, argTypes := ts } = some (g, l)) : keysL l = [] := by
  unfold calleeA at he
  dsimp only at he
  obtain ⟨fv, h1, he⟩ := opt_bind he
  obtain ⟨vs, h2, he⟩ := opt_bind he
  obtain ⟨v, h3, h4⟩ := opKeys_nil h f (by simp [Op.operands, Call.operands])
  rw [h1] at h3; cases h3
  have h5 := keysL_evalL (opKeys_sub h (m := args.toList) (by simp +contextual [Op.operands, Call.operands])) h2
  cases fv with
  | fn f' first caps =>
    simp only [Option.some.injEq, Prod.mk.injEq] at he
    obtain ⟨_, rfl⟩ := he
    simp only [AV.keys, List.append_eq_nil_iff] at h4
    simp only [keysL_append, h4.1, h4.2, h5, List.append_nil]
  | _ => simp at he

/-- A call that is handed no object: it leaves them, and it does not ask for them. -/
theorem effA_quiet {X : Cfg} {o : Oper} (h1 : isCallV o.op = true) (hk : opKeys ⟨s2, X.G, []⟩ o.op.operands.toList = []) (h : Agree s1 s2 (opTmps o.op.operands.toList)) {b : Bool} {v : AV} {O' : List (Nat × AO)} (he : effA X s2 o = some (b, v, O')) :
    O' = s2.objs ∧ effA X s1 o = some (b, v, s1.objs) := by
  cases hop : o.op with
  | call q =>
    obtain ⟨callee, args, ts⟩ := q
    cases callee with
    | value f =>
      rw [hop] at hk h
      simp only [effA, hop] at he ⊢
      obtain ⟨⟨g, l⟩, e1, he⟩ := opt_bind he
      have hl := calleeA_keys hk e1
      have e2 := he
      dsimp only at e2
      rw [doCall_nil hl] at e2
      rw [calleeA_congr h, e1]
      simp only [Option.bind_some]
      rw [doCall_nil hl]
      obtain ⟨⟨r', os⟩, e3, e2⟩ := opt_bind e2
      obtain ⟨e4, e2⟩ := cond_none e2
      simp only [Option.some.injEq, Prod.mk.injEq] at e2
      obtain ⟨rfl, rfl, rfl⟩ := e2
      exact ⟨rfl, by rw [e3]; simp only [Option.bind_some]; rw [e4]; rfl⟩
    | builtin b => simp [hop, isCallV] at h1
    | invoke r m => simp [hop, isCallV] at h1
  | _ => simp [hop, isCallV] at h1

/-! ### the same objects, in whatever order they are listed -/
def SameO (O1 O2 : List (Nat × AO)) : Prop := ∀ k, alook O1 k = alook O2 k
theorem SameO.put {O1 O2 : List (Nat × AO)} (h : SameO O1 O2) (k : Nat) (o : AO) : SameO (aput O1 k o) (aput O2 k o) := fun q => by rw [alook_aput, alook_aput, h q]
theorem freezeA_same {O1 O2 : List (Nat × AO)} (h : SameO O1 O2) {v v' : AV} {O2' : List (Nat × AO)} (he : freezeA O2 v = some (v', O2')) : ∃ O1', freezeA O1 v = some (v', O1') ∧ SameO O1' O2' := by
  cases v with
  | msl k sz off n =>
    simp only [freezeA] at he ⊢
    rw [h k]
    cases ho : alook O2 k with
    | none => simp [ho] at he
    | some ob =>
      cases ob with
      | arr sz' m get =>
        simp only [ho] at he ⊢
        obtain ⟨hb, he⟩ := guardO_inv he
        simp only [Option.some.injEq, Prod.mk.injEq] at he
        obtain ⟨rfl, rfl⟩ := he
        exact ⟨_, by rw [hb]; rfl, h.put _ _⟩
      | frz sz' m get =>
        simp only [ho] at he ⊢
        obtain ⟨hb, he⟩ := guardO_inv he
        simp only [Option.some.injEq, Prod.mk.injEq] at he
        obtain ⟨rfl, rfl⟩ := he
        exact ⟨_, by rw [hb]; rfl, h⟩
      | _ => simp [ho] at he
  | _ => simp only [freezeA, Option.some.injEq, Prod.mk.injEq] at he ⊢; obtain ⟨rfl, rfl⟩ := he; exact ⟨_, ⟨rfl, rfl⟩, h⟩
theorem freezeL_same : ∀ {l l' : List AV} {O1 O2 O2' : List (Nat × AO)}, SameO O1 O2 → freezeL O2 l = some (l', O2') → ∃ O1', freezeL O1 l = some (l', O1') ∧ SameO O1' O2'
  | [], l', O1, O2, O2', h, he => by simp only [freezeL, Option.some.injEq, Prod.mk.injEq] at he; obtain ⟨rfl, rfl⟩ := he; exact ⟨_, rfl, h⟩
  | v :: r, l', O1, O2, O2', h, he => by
    simp only [freezeL] at he ⊢
    obtain ⟨⟨v', o1⟩, e1, he⟩ := opt_bind he
    obtain ⟨⟨r', o2⟩, e2, he⟩ := opt_bind he
    simp only [Option.some.injEq, Prod.mk.injEq] at he
    obtain ⟨rfl, rfl⟩ := he
    obtain ⟨p1, g1, g2⟩ := freezeA_same h e1
    obtain ⟨p2, g3, g4⟩ := freezeL_same g2 e2
    exact ⟨p2, by rw [g1]; simp only [Option.bind_some]; rw [g3]; rfl, g4⟩
theorem freezeV_same {O1 O2 : List (Nat × AO)} (h : SameO O1 O2) {v v' : AV} {O2' : List (Nat × AO)} (he : freezeV O2 v = some (v', O2')) : ∃ O1', freezeV O1 v = some (v', O1') ∧ SameO O1' O2' := by
  cases v with
  | agg cs =>
    simp only [freezeV] at he ⊢
    obtain ⟨⟨l, o⟩, e1, he⟩ := opt_map he
    simp only [Prod.mk.injEq] at he
    obtain ⟨rfl, rfl⟩ := he
    obtain ⟨p, g1, g2⟩ := freezeL_same h e1
    exact ⟨p, by rw [g1]; rfl, g2⟩
  | _ => simp only [freezeV] at he ⊢; exact freezeA_same h he
theorem freezeVs_same : ∀ {l l' : List AV} {O1 O2 O2' : List (Nat × AO)}, SameO O1 O2 → freezeVs O2 l = some (l', O2') → ∃ O1', freezeVs O1 l = some (l', O1') ∧ SameO O1' O2'
  | [], l', O1, O2, O2', h, he => by simp only [freezeVs, Option.some.injEq, Prod.mk.injEq] at he; obtain ⟨rfl, rfl⟩ := he; exact ⟨_, rfl, h⟩
  | v :: r, l', O1, O2, O2', h, he => by
    simp only [freezeVs] at he ⊢
    obtain ⟨⟨v', o1⟩, e1, he⟩ := opt_bind he
    obtain ⟨⟨r', o2⟩, e2, he⟩ := opt_bind he
    simp only [Option.some.injEq, Prod.mk.injEq] at he
    obtain ⟨rfl, rfl⟩ := he
    obtain ⟨p1, g1, g2⟩ := freezeV_same h e1
    obtain ⟨p2, g3, g4⟩ := freezeVs_same g2 e2
    exact ⟨p2, by rw [g1]; simp only [Option.bind_some]; rw [g3]; rfl, g4⟩
theorem objKeys_same {O1 O2 : List (Nat × AO)} (h : SameO O1 O2) : ∀ l, objKeys O1 l = objKeys O2 l
  | [] => rfl
  | k :: r => by simp only [objKeys, h k, objKeys_same h r]
theorem getObjs_same {O1 O2 : List (Nat × AO)} (h : SameO O1 O2) : ∀ l, getObjs O1 l = getObjs O2 l
  | [] => rfl
  | k :: r => by simp only [getObjs, h k, getObjs_same h r]
theorem putObjs_same : ∀ {ks : List Nat} {l : List AO} {O1 O2 : List (Nat × AO)}, SameO O1 O2 → SameO (putObjs O1 ks l) (putObjs O2 ks l)
  | [], l, O1, O2, h => by cases l <;> exact h
  | k :: r, [], O1, O2, h => h
  | k :: r, o :: l, O1, O2, h => putObjs_same (ks := r) (l := l) (h.put k o)
theorem doCall_same {X : Cfg} {O1 O2 : List (Nat × AO)} (h : SameO O1 O2) {f : FuncId} {l : List AV} {b : Bool} {v : AV} {O2' : List (Nat × AO)} (he : doCall X O2 f l = some (b, v, O2')) : ∃ O1', doCall X O1 f l = some (b, v, O1') ∧ SameO O1' O2' := by
  unfold doCall at he ⊢
  obtain ⟨⟨l1, o1⟩, h1, he⟩ := opt_bind he
  have hfz : ∃ p, cond (X.byRef f) (some (l, O1)) (freezeVs O1 l) = some (l1, p) ∧ SameO p o1 := by
    cases hb : X.byRef f with
    | true => simp only [hb, cond_true, Option.some.injEq, Prod.mk.injEq] at h1; obtain ⟨rfl, rfl⟩ := h1; exact ⟨O1, rfl, h⟩
    | false => simp only [hb, cond_false] at h1; exact freezeVs_same h h1
  obtain ⟨p, g1, g2⟩ := hfz
  rw [g1]
  dsimp only [Option.bind_some] at he ⊢
  have e1 : reachK p (keysL (shedL l1)) = reachK o1 (keysL (shedL l1)) := by simp only [reachK, objKeys_same g2]
  obtain ⟨hcl, he⟩ := cond_none he
  obtain ⟨os, hos, he⟩ := opt_bind he
  obtain ⟨⟨r, os'⟩, hcall, he⟩ := opt_bind he
  obtain ⟨hlen, he⟩ := cond_none he
  dsimp only at hlen he
  simp only [Option.some.injEq, Prod.mk.injEq] at he
  obtain ⟨rfl, rfl, rfl⟩ := he
  refine ⟨putObjs p _ _, ?_, putObjs_same g2⟩
  rw [e1, objKeys_same g2, hcl, getObjs_same g2, hos]
  simp only [cond_true, Option.bind_some]
  rw [hcall]
  simp only [Option.bind_some, hlen, cond_true]

theorem effA_call_same {X : Cfg} {o : Oper} (h1 : isCallV o.op = true) (hO : SameO s1.objs s2.objs) (h : Agree s1 s2 (opTmps o.op.operands.toList)) {b : Bool} {v : AV} {O' : List (Nat × AO)} (he : effA X s2 o = some (b, v, O')) :
    ∃ O1', effA X s1 o = some (b, v, O1') ∧ SameO O1' O' := by
  cases hop : o.op with
  | call q =>
    obtain ⟨callee, args, ts⟩ := q
    cases callee with
    | value f =>
      rw [hop] at h
      simp only [effA, hop] at he ⊢
      obtain ⟨⟨g, l⟩, e1, he⟩ := opt_bind he
      obtain ⟨p, g1, g2⟩ := doCall_same hO he
      rw [calleeA_congr h, e1]
      exact ⟨p, by simp only [Option.bind_some]; rw [g1], g2⟩
    | builtin b => simp [hop, isCallV] at h1
    | invoke r m => simp [hop, isCallV] at h1
  | _ => simp [hop, isCallV] at h1

/-- An operation that makes or turns one object. -/
theorem effA_loud {X : Cfg} {o : Oper} (h1 : isLoud o.op = true) (h : Agree s1 s2 (opTmps o.op.operands.toList)) (hK : SameK s1 s2 (o.dst.toList ++ opKeys ⟨s2, X.G, []⟩ o.op.operands.toList)) {b : Bool} {v : AV} {O' : List (Nat × AO)} (he : effA X s2 o = some (b, v, O')) :
    ∃ q ob, q ∈ o.dst.toList ++ opKeys ⟨s2, X.G, []⟩ o.op.operands.toList ∧ O' = aput s2.objs q ob ∧ effA X s1 o = some (b, v, aput s1.objs q ob) := by
  have E : ∀ {x : Operand}, x ∈ o.op.operands.toList → evalO ⟨s1, X.G, []⟩ x = evalO ⟨s2, X.G, []⟩ x := fun {x} hx => evalO_congr (h.sub (m := [x]) (by simpa using hx))
  have K : ∀ {x : Operand} {v : AV}, x ∈ o.op.operands.toList → evalO ⟨s2, X.G, []⟩ x = some v → ∀ k ∈ v.keys, k ∈ o.dst.toList ++ opKeys ⟨s2, X.G, []⟩ o.op.operands.toList := fun {x v} hx hv k hk => List.mem_append_right _ (opKeys_mem hv hx k hk)
  have D : ∀ d, o.dst = some d → d ∈ o.dst.toList ++ opKeys ⟨s2, X.G, []⟩ o.op.operands.toList := fun d hd => List.mem_append_left _ (by rw [hd]; simp)
  cases hop : o.op with
  | alloc t =>
    simp only [effA, hop] at he ⊢
    cases hdst : o.dst with
    | none => simp [hdst] at he
    | some d =>
      simp only [hdst] at he ⊢
      rw [hK d (D d hdst)]
      cases hob : s2.obj d with
      | some _ => simp [hob] at he
      | none =>
        simp only [hob] at he ⊢
        obtain ⟨ob, e1, e2⟩ := opt_map he
        simp only [Prod.mk.injEq] at e2
        obtain ⟨rfl, rfl, rfl⟩ := e2
        exact ⟨d, ob, by simp, rfl, by rw [e1]; rfl⟩
  | box t x =>
    have hE := E (x := x) (by simp [hop, Op.operands])
    simp only [effA, hop] at he ⊢
    cases hdst : o.dst with
    | none => simp [hdst] at he
    | some d =>
      simp only [hdst] at he ⊢
      rw [hK d (D d hdst), hE]
      cases hob : s2.obj d with
      | some _ => simp [hob] at he
      | none =>
        simp only [hob] at he ⊢
        obtain ⟨u, e1, he⟩ := opt_bind he
        rw [e1]
        simp only [Option.bind_some]
        cases u with
        | arr sz n get =>
          dsimp only at he ⊢
          obtain ⟨hb, he⟩ := guardO_inv he
          simp only [Option.some.injEq, Prod.mk.injEq] at he
          obtain ⟨rfl, rfl, rfl⟩ := he
          exact ⟨d, _, by simp, rfl, by rw [hb]; rfl⟩
        | _ =>
          dsimp only at he ⊢
          obtain ⟨hb, he⟩ := guardO_inv he
          simp only [Option.some.injEq, Prod.mk.injEq] at he
          obtain ⟨rfl, rfl, rfl⟩ := he
          exact ⟨d, _, by simp, rfl, by rw [hb]; rfl⟩
  | store t x y =>
    have hE := E (x := x) (by simp [hop, Op.operands])
    have hE' := E (x := y) (by simp [hop, Op.operands])
    have hKx : ∀ {v : AV}, evalO ⟨s2, X.G, []⟩ x = some v → ∀ k ∈ v.keys, k ∈ o.dst.toList ++ opKeys ⟨s2, X.G, []⟩ o.op.operands.toList := fun {v} => K (x := x) (v := v) (by simp [hop, Op.operands])
    simp only [effA, hop] at he ⊢
    rw [hE, hE']
    obtain ⟨u, e1, he⟩ := opt_bind he
    obtain ⟨q, e2, he⟩ := opt_bind he
    obtain ⟨⟨b', k, ob⟩, e3, he⟩ := opt_map he
    simp only [Prod.mk.injEq] at he
    obtain ⟨rfl, rfl, rfl⟩ := he
    rw [e1, e2]
    simp only [Option.bind_some]
    have hku := hKx e1
    rw [storeA_congr (fun k hk => hK k (hku k hk)), e3]
    refine ⟨k, ob, ?_, rfl, rfl⟩
    have hk : k ∈ u.keys := by
      cases u with
      | ref k' off =>
        have : k = k' := by
          simp only [storeA] at e3
          cases ho : s2.obj k' with
          | none => simp [ho] at e3
          | some o' =>
            cases o' with
            | cells cs =>
              simp only [ho] at e3
              obtain ⟨_, e3⟩ := guardO_inv e3
              obtain ⟨_, _, e3⟩ := opt_map e3
              simp only [Prod.mk.injEq] at e3; exact e3.2.1.symm
            | arr sz n get =>
              simp only [ho] at e3
              cases q <;> simp only [] at e3 <;> first
                | (cases e3; done)
                | (obtain ⟨_, e3⟩ := guardO_inv e3; simp only [Option.some.injEq, Prod.mk.injEq] at e3; exact e3.2.1.symm)
            | _ => simp [ho] at e3
        simp [AV.keys, this]
      | aref k' sz' i off =>
        have : k = k' := by
          simp only [storeA] at e3
          cases ho : s2.obj k' with
          | none => simp [ho] at e3
          | some o' =>
            cases o' with
            | arr sz n get =>
              simp only [ho] at e3
              obtain ⟨_, e3⟩ := guardO_inv e3
              obtain ⟨_, _, e3⟩ := opt_map e3
              simp only [Prod.mk.injEq] at e3; exact e3.2.1.symm
            | _ => simp [ho] at e3
        simp [AV.keys, this]
      | _ => simp [storeA] at e3
    rw [← hop]; exact hku k hk
  | makeSlice t x y =>
    have hE := E (x := x) (by simp [hop, Op.operands])
    have hE' := E (x := y) (by simp [hop, Op.operands])
    simp only [effA, hop] at he ⊢
    rw [hE, hE']
    cases hdst : o.dst with
    | none => simp [hdst] at he
    | some d =>
      simp only [hdst] at he ⊢
      obtain ⟨u, e1, he⟩ := opt_bind he
      obtain ⟨q, e2, he⟩ := opt_bind he
      obtain ⟨⟨b', v', k, ob⟩, e3, he⟩ := opt_map he
      simp only [Prod.mk.injEq] at he
      obtain ⟨rfl, rfl, rfl⟩ := he
      rw [e1, e2]
      simp only [Option.bind_some]
      rw [makeSliceA_congr (hK d (D d hdst)), e3]
      have hk : k = d := by
        clear he hE hE' e1 e2
        unfold makeSliceA at e3
        split at e3
        · rename_i e l m hu
          split at e3
          · obtain ⟨_, e3⟩ := guardO_inv e3
            by_cases hb : l = m
            · rw [decide_eq_true hb] at e3; simp only [cond_true, Option.some.injEq, Prod.mk.injEq] at e3; exact e3.2.2.1.symm
            · rw [decide_eq_false hb] at e3; simp only [cond_false, Option.some.injEq, Prod.mk.injEq] at e3; exact e3.2.2.1.symm
          · cases e3
        · cases e3
      exact ⟨k, ob, by simp [hk], rfl, rfl⟩
  | call q =>
    obtain ⟨callee, args, ts⟩ := q
    cases callee with
    | builtin bi =>
      cases bi with
      | append =>
        have hl : evalL ⟨s1, X.G, []⟩ args.toList = evalL ⟨s2, X.G, []⟩ args.toList := evalL_congr (h.sub (by rw [hop]; simp +contextual [Op.operands, Call.operands]))
        simp only [effA, hop] at he ⊢
        split at he
        · rename_i d t t' hdst hts
          obtain ⟨hb, he⟩ := guardO_inv he
          obtain ⟨l, e1, he⟩ := opt_bind he
          rw [hl, e1, hb]
          split at he
          · rename_i x y
            obtain ⟨⟨b', v', k, ob⟩, e3, he⟩ := opt_map he
            simp only [Prod.mk.injEq] at he
            obtain ⟨rfl, rfl, rfl⟩ := he
            have hkeys : ∀ k ∈ keysL [x, y], k ∈ o.dst.toList ++ opKeys ⟨s2, X.G, []⟩ o.op.operands.toList := by
              have aux : ∀ (as : List Operand) (l : List AV), evalL ⟨s2, X.G, []⟩ as = some l → ∀ k ∈ keysL l, k ∈ opKeys ⟨s2, X.G, []⟩ as := by
                intro as
                induction as with
                | nil => intro l hl k hk; simp [evalL] at hl; subst hl; simp [keysL] at hk
                | cons x r ih =>
                  intro l hl k hk
                  simp only [evalL] at hl
                  obtain ⟨v, g1, hl⟩ := opt_bind hl
                  obtain ⟨l', g2, hl⟩ := opt_map hl
                  subst hl
                  simp only [keysL, List.mem_append] at hk
                  simp only [opKeys, g1, List.mem_append]
                  rcases hk with hk | hk
                  · exact .inl hk
                  · exact .inr (ih l' g2 k hk)
              intro k hk
              have := aux _ _ e1 k hk
              refine List.mem_append_right _ ?_
              rw [hop]
              simpa [Op.operands, Call.operands] using this
            have hsx : SameK s1 s2 x.keys := fun k hk => hK k (hkeys k (by simp only [keysL, List.mem_append]; exact .inl hk))
            have hsy : SameK s1 s2 y.keys := fun k hk => hK k (hkeys k (by simp only [keysL, List.mem_append]; exact .inr (.inl hk)))
            simp only [guardO, cond_true, Option.bind_some]
            rw [appendA_congr (hK d (D d hdst)) hsx hsy, e3]
            refine ⟨k, ob, ?_, rfl, rfl⟩
            have hk : k = d ∨ k ∈ x.keys := by
              unfold appendA at e3
              split at e3
              · split at e3
                · rename_i ow sz0 n get sz2 m get2 _ _ _ _
                  obtain ⟨_, e3⟩ := guardO_inv e3
                  cases ow with
                  | no => cases e3
                  | fit =>
                    simp only [] at e3
                    split at e3
                    · simp only [Option.some.injEq, Prod.mk.injEq] at e3; exact .inl e3.2.2.1.symm
                    · cases e3
                  | key k' =>
                    simp only [] at e3
                    split at e3
                    · obtain ⟨_, e3⟩ := guardO_inv e3
                      simp only [Option.some.injEq, Prod.mk.injEq] at e3; exact .inr (by simp [AV.keys, e3.2.2.1])
                    · cases e3
                · cases e3
              · cases e3
            rw [← hop]
            rcases hk with rfl | hk
            · exact List.mem_append_left _ (by simp [hdst])
            · exact hkeys k (by simp only [keysL, List.mem_append]; exact .inl hk)
          · cases he
        · cases he
      | _ => simp [hop, isLoud] at h1
    | _ => simp [hop, isLoud] at h1
  | _ => simp [hop, isLoud] at h1

/-! ### guards -/
theorem chainOf_congr : ∀ {n t : Nat} {w : Bool}, Agree s1 s2 ((chainOf s2 n t w).map (·.1)) → chainOf s1 n t w = chainOf s2 n t w
  | 0, _, _, _ => rfl
  | n + 1, t, w, h => by
    have ht : s1.get t = s2.get t := h t (by simp [chainOf])
    simp only [chainOf] at h ⊢
    rw [ht]
    cases hg : s2.get t with
    | none => rfl
    | some u =>
      cases u with
      | grd tc wc u' =>
        simp only [hg] at h ⊢
        rw [chainOf_congr (n := n) fun q hq => h q (by simp only [List.map_cons, List.mem_cons]; exact .inr hq)]
      | _ => rfl
theorem holdsA_congr : ∀ {ch : Chain}, Agree s1 s2 (ch.map (·.1)) → holdsA s1 ch = holdsA s2 ch
  | [], _ => rfl
  | (t, w) :: r, h => by
    have ht : s1.get t = s2.get t := h t (by simp)
    simp only [holdsA]
    rw [ht, holdsA_congr (ch := r) fun q hq => h q (by simp only [List.map_cons, List.mem_cons]; exact .inr hq)]

theorem subK_domK {O1 O2 : List (Nat × AO)} : ∀ {l : List Nat}, (∀ k ∈ l, alook O1 k = alook O2 k) → subK l (domK O2) = true → subK l (domK O1) = true
  | [], _, _ => rfl
  | k :: r, h, he => by
    simp only [subK, Bool.and_eq_true] at he ⊢
    refine ⟨any_beq.2 (live_domK ?_), subK_domK (fun q hq => h q (List.mem_cons_of_mem _ hq)) he.2⟩
    obtain ⟨o, ho⟩ := domK_live (any_beq.1 he.1)
    exact ⟨o, by rw [h k (by simp)]; exact ho⟩

theorem effG_congr {X : Cfg} {o : Oper} {t : Nat} {w : Bool} {b : Bool} {v : AV} (he : effG X s2 o t w = some (b, v)) (h : Agree s1 s2 ((chainOf s2 4 t w).map (·.1) ++ opTmps o.op.operands.toList))
    (ho : SameK s1 s2 (cond (readsObj o.op) (opKeys ⟨s2, X.G, chainOf s2 4 t w⟩ o.op.operands.toList) [] ++ v.keys)) : effG X s1 o t w = some (b, v) := by
  have hc : Agree s1 s2 ((chainOf s2 4 t w).map (·.1)) := fun q hq => h q (List.mem_append_left _ hq)
  have hop' : Agree s1 s2 (opTmps o.op.operands.toList) := fun q hq => h q (List.mem_append_right _ hq)
  have e1 := chainOf_congr hc
  have e2 := holdsA_congr hc
  have hp : (holdsA s2 (chainOf s2 4 t w)).bind (fun g => (pureA X.P ⟨s2, X.G, chainOf s2 4 t w⟩ o.op).bind fun r => guardO (subK r.2.keys (domK s2.objs)) (some (cond r.1 true (!g), r.2))) = some (b, v) →
      (holdsA s1 (chainOf s1 4 t w)).bind (fun g => (pureA X.P ⟨s1, X.G, chainOf s1 4 t w⟩ o.op).bind fun r => guardO (subK r.2.keys (domK s1.objs)) (some (cond r.1 true (!g), r.2))) = some (b, v) := by
    intro he
    rw [e1, e2, pureA_congr X.P hop' (fun k hk => ho k (List.mem_append_left _ hk))]
    obtain ⟨g, f1, he⟩ := opt_bind he
    obtain ⟨⟨b', v'⟩, f2, he⟩ := opt_bind he
    obtain ⟨f3, he⟩ := guardO_inv he
    simp only [Option.some.injEq, Prod.mk.injEq] at he
    obtain ⟨rfl, rfl⟩ := he
    rw [f1, f2]
    simp only [Option.bind_some]
    rw [subK_domK (fun k hk => ho k (List.mem_append_right _ hk)) f3]; rfl
  cases hop : o.op with
  | call q =>
    obtain ⟨callee, args, ts⟩ := q
    cases callee with
    | value f => simp only [effG, hop] at he ⊢; rw [e1, calleeA_congr (by rw [← hop]; exact hop')]; exact he
    | _ => simp only [effG, hop] at he ⊢; rw [hop] at hp; exact hp he
  | _ => simp only [effG, hop] at he ⊢; rw [hop] at hp; exact hp he
end
end Go.Ab
