/- What an operation of a region depends on. -/
import Derived.Test.YtmiiklmfnagbbaaDoorAbsRegion
namespace Go.Ab
open Go Go.RowKit

def Agree (s1 s2 : St) (l : List Nat) : Prop := ∀ t ∈ l, s1.get t = s2.get t

theorem opTmps_mem {l : List Operand} {t : Nat} : t ∈ opTmps l ↔ Operand.tmp t ∈ l := by
  induction l with
  | nil => simp [opTmps]
  | cons o r ih => cases o <;> simp [opTmps, ih]
theorem Agree.sub {s1 s2 : St} {l m : List Operand} (h : Agree s1 s2 (opTmps l)) (hs : ∀ x ∈ m, x ∈ l) : Agree s1 s2 (opTmps m) :=
  fun t ht => h t (opTmps_mem.2 (hs _ (opTmps_mem.1 ht)))

section
variable {s1 s2 : St} {G : Nat → Option (List AV)} {ch : Chain}
theorem evalO_congr {x : Operand} (h : Agree s1 s2 (opTmps [x])) : evalO ⟨s1, G, ch⟩ x = evalO ⟨s2, G, ch⟩ x := by
  cases x with
  | tmp t => simp only [evalO]; rw [h t (by simp [opTmps])]
  | _ => rfl
theorem evalL_congr : ∀ {l : List Operand}, Agree s1 s2 (opTmps l) → evalL ⟨s1, G, ch⟩ l = evalL ⟨s2, G, ch⟩ l
  | [], _ => rfl
  | x :: r, h => by
    simp only [evalL]
    rw [evalO_congr (h.sub (by simp)), evalL_congr (l := r) (h.sub (by simp +contextual))]
theorem evalParts_congr : ∀ {l : List (Nat × Operand)}, Agree s1 s2 (opTmps (l.map (·.2))) → evalParts ⟨s1, G, ch⟩ l = evalParts ⟨s2, G, ch⟩ l
  | [], _ => rfl
  | (i, x) :: r, h => by
    simp only [evalParts]
    rw [evalO_congr (h.sub (by simp)), evalParts_congr (l := r) (h.sub (by simp +contextual))]
theorem evalM_congr {x : Option Operand} (h : Agree s1 s2 (opTmps x.toList)) : pureA.evalM ⟨s1, G, ch⟩ x = pureA.evalM ⟨s2, G, ch⟩ x := by
  cases x with
  | none => rfl
  | some o => simp only [pureA.evalM]; rw [evalO_congr (h.sub (by simp))]

/-- The same objects under these keys. -/
def SameK (s1 s2 : St) (l : List Nat) : Prop := ∀ k ∈ l, s1.obj k = s2.obj k

theorem srcA_congr {x : AV} (h : SameK s1 s2 x.keys) : srcA s1 x = srcA s2 x := by
  cases x with
  | msl k sz off n => simp only [srcA, h k (by simp [AV.keys])]
  | _ => rfl
theorem loadA_congr {x : AV} (h : SameK s1 s2 x.keys) (P : Program) (t : TypeId) : loadA P s1 t x = loadA P s2 t x := by
  cases x with
  | ref k off => simp only [loadA, h k (by simp [AV.keys])]
  | aref k sz i off => simp only [loadA, h k (by simp [AV.keys])]
  | _ => rfl
theorem indexAddrA_congr {x : AV} (h : SameK s1 s2 x.keys) (P : Program) (t : TypeId) (i : AV) : indexAddrA P s1 t x i = indexAddrA P s2 t x i := by
  cases i <;> try rfl
  simp only [indexAddrA]
  cases P.underlying t with
  | none => rfl
  | some d =>
    cases x with
    | ref k off => cases d <;> first | rfl | (cases off <;> simp only [h k (by simp [AV.keys])])
    | _ => cases d <;> rfl
theorem convA_congr {x : AV} (h : SameK s1 s2 x.keys) (P : Program) (a b : TypeId) : convA P s1 a b x = convA P s2 a b x := by
  unfold convA
  cases P.underlying b with
  | none => rfl
  | some d =>
    cases x with
    | msl k sz off n => cases d <;> first | rfl | simp only [srcA, h k (by simp [AV.keys])]
    | _ => cases d <;> rfl
theorem storeA_congr {x : AV} (h : SameK s1 s2 x.keys) (P : Program) (t : TypeId) (v : AV) : storeA P s1 t x v = storeA P s2 t x v := by
  cases x with
  | ref k off => simp only [storeA, h k (by simp [AV.keys])]
  | aref k sz i off => simp only [storeA, h k (by simp [AV.keys])]
  | _ => rfl
theorem makeSliceA_congr {d : Nat} (h : s1.obj d = s2.obj d) (P : Program) (t : TypeId) (x v : AV) : makeSliceA P s1 d t x v = makeSliceA P s2 d t x v := by
  simp only [makeSliceA, h]
theorem appendA_congr {d : Nat} {x y : AV} (h : s1.obj d = s2.obj d) (hx : SameK s1 s2 x.keys) (hy : SameK s1 s2 y.keys) (P : Program) (t : TypeId) : appendA P s1 d t x y = appendA P s2 d t x y := by
  unfold appendA
  rw [srcA_congr hy]
  cases P.underlying t with
  | none => rfl
  | some D =>
    cases D with
    | slice e =>
      dsimp only
      cases sizeOf? P e with
      | none => rfl
      | some sz => cases zeroCells P e with
        | none => rfl
        | some z => cases P.info? e with
          | none => rfl
          | some inf => cases x with
            | sl o sz0 n get => cases srcA s2 y with
              | none => rfl
              | some q => cases o with
                | no => rfl
                | fit => dsimp only; rw [h]
                | key k => dsimp only; rw [hx k (by simp [AV.keys])]
            | _ => rfl
    | _ => rfl

theorem opKeys_mem {c : Ctx} {x : Operand} {v : AV} (hv : evalO c x = some v) : ∀ {l : List Operand}, x ∈ l → ∀ k ∈ v.keys, k ∈ opKeys c l
  | [], hx, _, _ => by simp at hx
  | y :: r, hx, k, hk => by
    simp only [opKeys, List.mem_append]
    rcases List.mem_cons.1 hx with rfl | hx
    · left; rw [hv]; exact hk
    · exact .inr (opKeys_mem hv hx k hk)

theorem pureA_congr (P : Program) {op : Op} (h : Agree s1 s2 (opTmps op.operands.toList)) (ho : SameK s1 s2 (cond (readsObj op) (opKeys ⟨s2, G, ch⟩ op.operands.toList) [])) : pureA P ⟨s1, G, ch⟩ op = pureA P ⟨s2, G, ch⟩ op := by
  have E : ∀ {x : Operand} {ch : Chain}, x ∈ op.operands.toList → evalO ⟨s1, G, ch⟩ x = evalO ⟨s2, G, ch⟩ x := fun {x ch} hx => evalO_congr (h.sub (m := [x]) (by simpa using hx))
  have K : readsObj op = true → ∀ {x : Operand} {v : AV}, x ∈ op.operands.toList → evalO ⟨s2, G, ch⟩ x = some v → SameK s1 s2 v.keys := fun hr {x v} hx hv k hk => ho k (by rw [hr]; exact opKeys_mem hv hx k hk)
  cases op with
  | move x | assign x | nilCheck x | unOp _ _ x | extract x _ | fieldAddr _ x _ | field _ x _ => simp only [pureA]; rw [E (by simp [Op.operands])]
  | load t x =>
    simp only [pureA]; rw [E (by simp [Op.operands])]
    cases hx : evalO ⟨s2, G, ch⟩ x with
    | none => rfl
    | some v => simp only [Option.bind_some]; exact loadA_congr (K rfl (by simp [Op.operands]) hx) P t
  | convert a b x =>
    simp only [pureA]; rw [E (by simp [Op.operands])]
    cases hx : evalO ⟨s2, G, ch⟩ x with
    | none => rfl
    | some v => simp only [Option.bind_some]; exact convA_congr (K rfl (by simp [Op.operands]) hx) P a b
  | pick q a b =>
    cases q with
    | tmp t => simp only [pureA]; rw [E (x := .tmp t) (by simp [Op.operands]), E (x := a) (by simp [Op.operands]), E (x := b) (by simp [Op.operands])]
    | _ => rfl
  | build t ps | buildSlice t n ps =>
    simp only [pureA]; rw [evalParts_congr (h.sub (by simp [Op.operands]))]
  | binOp op t x y z => simp only [pureA]; rw [E (x := x) (by simp [Op.operands]), E (x := y) (by simp [Op.operands])]
  | indexAddr t x y =>
    simp only [pureA]; rw [E (x := x) (by simp [Op.operands]), E (x := y) (by simp [Op.operands])]
    cases hx : evalO ⟨s2, G, ch⟩ x with
    | none => rfl
    | some v => simp only [Option.bind_some, indexAddrA_congr (K rfl (by simp [Op.operands]) hx)]
  | index t x y =>
    simp only [pureA]; rw [E (x := x) (by simp [Op.operands]), E (x := y) (by simp [Op.operands])]
  | makeFunc f a b =>
    cases f with
    | func f => simp only [pureA]; rw [evalL_congr (l := a.toList) (h.sub (by simp +contextual [Op.operands])), evalL_congr (l := b.toList) (h.sub (by simp +contextual [Op.operands]))]
    | _ => rfl
  | slice t x l hi m =>
    simp only [pureA]
    rw [E (x := x) (by simp [Op.operands]), evalM_congr (x := l) (h.sub (by simp +contextual [Op.operands])), evalM_congr (x := hi) (h.sub (by simp +contextual [Op.operands])), evalM_congr (x := m) (h.sub (by simp +contextual [Op.operands]))]
  | call q =>
    obtain ⟨callee, args, ts⟩ := q
    cases callee with
    | builtin b =>
      have hl : evalL ⟨s1, G, ch⟩ args.toList = evalL ⟨s2, G, ch⟩ args.toList := evalL_congr (h.sub (by simp +contextual [Op.operands, Call.operands]))
      cases b <;> first | rfl | (simp only [pureA]; rw [hl])
    | _ => rfl
  | _ => rfl

theorem opKeys_nil {c : Ctx} : ∀ {l : List Operand}, opKeys c l = [] → ∀ x ∈ l, ∃ v, evalO c x = some v ∧ v.keys = []
  | [], _, x, hx => by simp at hx
  | y :: r, h, x, hx => by
    simp only [opKeys, List.append_eq_nil_iff] at h
    rcases List.mem_cons.1 hx with rfl | hx
    · cases hv : evalO c x with
      | none => simp [hv] at h
      | some v => simp [hv] at h; exact ⟨v, rfl, h.1⟩
    · exact opKeys_nil h.2 x hx
end
end Go.Ab
