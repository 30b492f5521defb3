/- Contracts: a function's run with its calls and loops known beforehand. -/
import Derived.Test.YtmiiklmfnagbbaaDoorAbsE
namespace Go.Ab
open Go Go.RowKit

/-- A function's contract. -/
def Ct (P : Program) (G : Nat → Option (List AV)) (f : FuncId) (l : List AV) (os : List AO) (r : AV × List AO) : Prop :=
  CallOk P G f l os r.1 r.2 ∧ ∃ fn, P.funcs[f]? = some fn ∧ (fn.name == "runtime.NumGoroutine") = false ∧ fn.body.isSome = true

/-- A callee: when it may be asked, and its answer. -/
structure Ent where
  f : FuncId
  pre : List AV → List AO → Bool
  ans : List AV → List AO → AV × List AO

def mkE {τ : Type} (f : FuncId) (g : List AV → List AO → Bool) (v : List AV → List AO → τ) (φ : τ → AV × List AO) : Ent := ⟨f, g, fun l os => φ (v l os)⟩

def tabGet : List Ent → FuncId → Option Ent
  | [], _ => none
  | e :: r, f => cond (Nat.beq e.f f) (some e) (tabGet r f)

abbrev Orc := St → (Ex → St → Res) → Res
abbrev Vw := St → (St → Res) → Res

def eqP : List Nat → List Nat → Bool
  | [], [] => true
  | a :: r, b :: q => Nat.beq a b && eqP r q
  | _, _ => false
def orGet {α : Type} : List (List Nat × α) → List Nat → Option α
  | [], _ => none
  | e :: r, p => cond (eqP e.1 p) (some e.2) (orGet r p)

def tr (p k o : List Nat) : List Nat × Hint := (p, { keep := k, objs := o })
def trGet : List (List Nat × Hint) → List Nat → Option Hint
  | [], _ => none
  | e :: r, p => cond (eqP e.1 p) (some e.2) (trGet r p)

/-- What is known of a loop or a cut: when, the value, what it comes to. -/
def mkO {τ : Type} (g : St → Bool) (v : St → τ) (out : τ → (Ex → St → Res) → Res) : Orc := fun s k => cond (g s) (out (v s) k) none

/-- A state in another form. -/
def mkV {τ : Type} (g : St → Bool) (v : St → τ) (S : τ → St) : Vw := fun s k => cond (g s) (k (S (v s))) none

def Env.tab (V : Env) (T : List Ent) : Env :=
  { V with ext := fun f l os => (tabGet T f).map fun e => e.ans l os, isExt := fun f => (tabGet T f).isSome, pre := fun f l os => match tabGet T f with | some e => e.pre l os | none => false }

/-- The run of function f: its callees by the table T, else entered d deep; its cuts and loops by C and L. -/
def Env.run (V : Env) (T : List Ent) (d : Nat) (C L : List (List Nat × Orc)) (W : List (List Nat × Vw)) (f : FuncId) : Cfg :=
  { (V.tab T).cfg (E (V.tab T) d) with cutO := fun g p => cond (Nat.beq g f) (orGet C p) none, loopO := fun g p => cond (Nat.beq g f) (orGet L p) none, viewO := fun g p => cond (Nat.beq g f) (orGet W p) none }

def TabOk (V : Env) (T : List Ent) : Prop := ∀ e ∈ T, ∀ l os, e.pre l os = true → Ct V.P V.G e.f l os (e.ans l os)

theorem tabGet_mem {T : List Ent} {f : FuncId} {e : Ent} (h : tabGet T f = some e) : e ∈ T ∧ e.f = f := by
  induction T with
  | nil => simp [tabGet] at h
  | cons x r ih =>
    simp only [tabGet] at h
    cases hb : Nat.beq x.f f with
    | true => simp only [hb, cond_true, Option.some.injEq] at h; subst h; exact ⟨by simp, beqT hb⟩
    | false => simp only [hb, cond_false] at h; exact ⟨List.mem_cons_of_mem _ (ih h).1, (ih h).2⟩

theorem orGet_mem {α : Type} {C : List (List Nat × α)} {p : List Nat} {g : α} (h : orGet C p = some g) : (p, g) ∈ C := by
  have eqP_eq : ∀ {a b : List Nat}, eqP a b = true → a = b := by
    intro a
    induction a with
    | nil => intro b h; cases b <;> simp [eqP] at h ⊢
    | cons x r ih =>
      intro b h
      cases b with
      | nil => simp [eqP] at h
      | cons y q => simp only [eqP, Bool.and_eq_true] at h; rw [beqT h.1, ih h.2]
  induction C with
  | nil => simp [orGet] at h
  | cons x r ih =>
    simp only [orGet] at h
    cases hb : eqP x.1 p with
    | true => simp only [hb, cond_true, Option.some.injEq] at h; subst h; rw [← eqP_eq hb]; simp
    | false => simp only [hb, cond_false] at h; exact List.mem_cons_of_mem _ (ih h)

/-- Each known cut and loop is right. -/
def CutOk (X : Cfg) (f : FuncId) (p : List Nat) (g : Orc) : Prop := ∀ s k r, g s k = some r → ∃ n, runC X f n (subC (bodyOf X.P f) p) p s k = some r
def ViewOk (g : Vw) : Prop := ∀ s k r, g s k = some r → ∃ s', k s' = some r ∧ ∀ (B : Base) (c : Cx) (a : Act), Rel B c s a → NoGrd s → ∃ c', c'.w = c.w ∧ Rel B c' s' a ∧ NoGrd s'
def LoopOk (X : Cfg) (f : FuncId) (p : List Nat) (g : Orc) : Prop := ∀ s k r, g s k = some r → ∃ n m, loopR X f n m (subC (bodyOf X.P f) p) p s k = some r

theorem calls_tab {V : Env} {T : List Ent} (hm : V.P.follows .mixedOrders = true) (hP : FuncsOk V.P) (hT : TabOk V T) (d : Nat) (C L : List (List Nat × Orc)) (W : List (List Nat × Vw)) (f : FuncId) : CallsOk (V.run T d C L W f) := by
  have h := E_sound (V := V.tab T) hm hP (fun g l os r os' hi hp he => by
    simp only [Env.tab] at hi hp he
    cases hg : tabGet T g with
    | none => simp [hg] at hi
    | some e =>
      obtain ⟨hmem, hf⟩ := tabGet_mem hg
      simp only [hg] at hp
      simp only [hg, Option.map_some, Option.some.injEq] at he
      have := hT e hmem l os hp
      rw [hf, he] at this
      exact this) d
  exact h

theorem ct_of_run {V : Env} {T : List Ent} {d : Nat} {C L : List (List Nat × Orc)} {W : List (List Nat × Vw)} {f : FuncId} {n : Nat} {l : List AV} {os : List AO} {r : AV × List AO} (hm : V.P.follows .mixedOrders = true) (hP : FuncsOk V.P) (hT : TabOk V T)
    (hC : ∀ e ∈ C, CutOk (V.run T d C L W f) f e.1 e.2) (hL : ∀ e ∈ L, LoopOk (V.run T d C L W f) f e.1 e.2) (hW : ∀ e ∈ W, ViewOk e.2)
    (he : runF (V.run T d C L W f) n f l os = some r) : Ct V.P V.G f l os r := by
  have hO : OracOk (V.run T d C L W f) f := by
    refine ⟨fun p g hg => ?_, fun p g hg => ?_, fun p g hg => ?_⟩
    · simp only [Env.run, Nat.beq_refl, cond_true] at hg
      exact hC _ (orGet_mem hg)
    · simp only [Env.run, Nat.beq_refl, cond_true] at hg
      exact hW _ (orGet_mem hg)
    · simp only [Env.run, Nat.beq_refl, cond_true] at hg
      exact hL _ (orGet_mem hg)
  have hh := he
  unfold runF at hh
  cases hf : (V.run T d C L W f).P.funcs[f]? with
  | none => simp only [hf] at hh; cases hh
  | some fn =>
    have hf' : V.P.funcs[f]? = some fn := hf
    obtain ⟨h1, h2⟩ := hP f fn hf'
    refine ⟨runF_sound (X := V.run T d C L W f) (calls_tab hm hP hT d C L W f) hm hO hf h2 he, fn, hf', h1, ?_⟩
    cases hb : fn.body with
    | none => simp only [hf, hb] at hh; cases hh
    | some c => rfl

/-- A contract by the evaluator alone. -/
theorem ct_of_E {V : Env} (hm : V.P.follows .mixedOrders = true) (hP : FuncsOk V.P) (hE : ∀ f, V.isExt f = false) {n : Nat} {f : FuncId} {l : List AV} {os : List AO} {r : AV × List AO} (he : E V n f l os = some r) : Ct V.P V.G f l os r :=
  E_sound hm hP (fun f _ _ _ _ h => by rw [hE f] at h; cases h) n f l os r.1 r.2 (by simp [Env.cfg, hE]) he

/-- A contract serves arguments of which more is known. -/
theorem Ct.args {P : Program} {G : Nat → Option (List AV)} {f : FuncId} {l l' : List AV} {os : List AO} {r : AV × List AO} (h : Ct P G f l os r) (hl : l'.length = l.length) (hk : keysL l = [])
    (hw : ∀ (i : Nat) (u u' : AV), l[i]? = some u → l'[i]? = some u' → ∀ c v, Rep c u' v → Rep c u v) : Ct P G f l' os r := by
  refine ⟨fun c0 vs hg ho hs hr _ => h.1 c0 vs hg ho (by rw [hs, hl]) (fun i u hu => ?_) (fun k hk' => by rw [hk] at hk'; simp at hk'), h.2⟩
  have hlt := (List.getElem?_eq_some_iff.1 hu).1
  have hu' : l'[i]? = some (l'[i]'(by omega)) := List.getElem?_eq_getElem _
  exact hw i u _ hu hu' c0 _ (hr i _ hu')
theorem Rep.slWeak {c : Cx} {o : Own} {sz n : Nat} {get get' : Nat → List AV} {v : Value} (he : ∀ j, j < n → get' j = get j) (h : Rep c (.sl o sz n get) v) : Rep c (.sl .no sz n get') v := by
  cases h with
  | slNil => exact .slNil .no sz get' trivial
  | sl _ _ _ _ a cap vals h1 h2 h3 h4 h5 h6 =>
    exact .sl .no sz n get' a cap vals h1 h2 trivial (fun j hj => by rw [he j hj]; exact h4 j hj) (fun j i u hj hu => h5 j i u hj (by rw [← he j hj]; exact hu)) (fun j i u hj hu => h6 j i u hj (by rw [← he j hj]; exact hu))

/-- The next rounds of a loop, from their head. -/
def nextR (X : Cfg) (f : FuncId) (n : Nat) (c : Code) (p : List Nat) (k : Ex → St → Res) : Nat → St → Res
  | 0, _ => none
  | m + 1, s => loopR X f n m c p s k

/-- One round of the loop at path p: kn is what stands behind the round. -/
def roundR (X : Cfg) (f : FuncId) (n : Nat) (p : List Nat) (s : St) (kn : St → Res) (k : Ex → St → Res) : Res :=
  runC X f n (subC (bodyOf X.P f) (p ++ [0])) (p ++ [0]) s fun e s' => match e with
    | .nor => (atHead X.P (X.hint f (tagOf (subC (bodyOf X.P f) (p ++ [0])))) s').bind kn
    | e => k e s'

theorem loop_run {X : Cfg} {f : FuncId} {n : Nat} {p : List Nat} {b : Code} {σ : Type} (S : σ → St) (Inv : σ → Prop) (μ : σ → Nat) (out : σ → (Ex → St → Res) → Res) (hb : subC (bodyOf X.P f) p = .loop b)
    (round : ∀ v, Inv v → ∀ (k : Ex → St → Res) (kn : St → Res), (∀ v', Inv v' → μ v' < μ v → kn (S v') = out v' k) → roundR X f n p (S v) kn k = out v k) :
    ∀ (m : Nat) (v : σ), Inv v → μ v ≤ m → ∀ k, loopR X f n m (subC (bodyOf X.P f) p) p (S v) k = out v k := by
  have hb0 : subC (bodyOf X.P f) (p ++ [0]) = b := by rw [subC_append, hb]; simp [subC]
  have hnext : ∀ (m : Nat) (s : St) (k : Ex → St → Res), loopN X.P (runC X f n b (p ++ [0])) (X.hint f (tagOf b)) m s k = (atHead X.P (X.hint f (tagOf b)) s).bind (nextR X f n (.loop b) p k m) := by
    intro m s k
    cases m with
    | zero =>
      simp only [loopN]
      cases atHead X.P (X.hint f (tagOf b)) s <;> rfl
    | succ m => rfl
  intro m
  induction m with
  | zero =>
    intro v hv hm k
    rw [hb]
    simp only [loopR, hnext]
    have := round v hv k (nextR X f n (.loop b) p k 0) (fun v' _ h => by omega)
    simp only [roundR, hb0] at this
    exact this
  | succ m ih =>
    intro v hv hm k
    rw [hb]
    simp only [loopR, hnext]
    have := round v hv k (nextR X f n (.loop b) p k (m + 1)) (fun v' hv' h => by
      have := ih v' hv' (by omega) k
      rw [hb] at this
      exact this)
    simp only [roundR, hb0] at this
    exact this

section
open Classical
variable {α τ : Type}
/-- When one of a family of states or arguments is met; which. -/
noncomputable def goodS (S : α → St) (Inv : α → Prop) (s : St) : Bool := decide (∃ v, Inv v ∧ S v = s)
noncomputable def valS [Inhabited τ] (S : α → St) (Inv : α → Prop) (w : α → τ) (s : St) : τ := if h : ∃ v, Inv v ∧ S v = s then w h.choose else default
noncomputable def goodA (A : α → List AV) (O : α → List AO) (Pre : α → Prop) (l : List AV) (os : List AO) : Bool := decide (∃ v, Pre v ∧ A v = l ∧ O v = os)
noncomputable def valA [Inhabited τ] (A : α → List AV) (O : α → List AO) (Pre : α → Prop) (w : α → τ) (l : List AV) (os : List AO) : τ := if h : ∃ v, Pre v ∧ A v = l ∧ O v = os then w h.choose else default

theorem goodS_eq {S : α → St} {Inv : α → Prop} {v : α} (h : Inv v) : goodS S Inv (S v) = true := decide_eq_true ⟨v, h, rfl⟩
theorem valS_eq [Inhabited τ] {S : α → St} {Inv : α → Prop} {w : α → τ} (hi : ∀ a b, Inv a → Inv b → S a = S b → w a = w b) {v : α} (h : Inv v) : valS S Inv w (S v) = w v := by
  have hx : ∃ u, Inv u ∧ S u = S v := ⟨v, h, rfl⟩
  unfold valS
  rw [dif_pos hx]
  exact hi _ _ hx.choose_spec.1 h hx.choose_spec.2
theorem goodA_eq {A : α → List AV} {O : α → List AO} {Pre : α → Prop} {v : α} (h : Pre v) : goodA A O Pre (A v) (O v) = true := decide_eq_true ⟨v, h, rfl, rfl⟩
theorem valA_eq [Inhabited τ] {A : α → List AV} {O : α → List AO} {Pre : α → Prop} {w : α → τ} (hi : ∀ a b, Pre a → Pre b → A a = A b → O a = O b → w a = w b) {v : α} (h : Pre v) : valA A O Pre w (A v) (O v) = w v := by
  have hx : ∃ u, Pre u ∧ A u = A v ∧ O u = O v := ⟨v, h, rfl, rfl⟩
  unfold valA
  rw [dif_pos hx]
  exact hi _ _ hx.choose_spec.1 h hx.choose_spec.2.1 hx.choose_spec.2.2

/-- A contract as an entry of the table. -/
noncomputable def entC [Inhabited τ] (f : FuncId) (A : α → List AV) (O : α → List AO) (Pre : α → Prop) (w : α → τ) (φ : τ → AV × List AO) : Ent := mkE f (goodA A O Pre) (valA A O Pre w) φ

theorem entC_ok [Inhabited τ] {V : Env} {f : FuncId} {A : α → List AV} {O : α → List AO} {Pre : α → Prop} {w : α → τ} {φ : τ → AV × List AO} (h : ∀ a, Pre a → Ct V.P V.G f (A a) (O a) (φ (w a))) :
    ∀ l os, (entC f A O Pre w φ).pre l os = true → Ct V.P V.G (entC f A O Pre w φ).f l os ((entC f A O Pre w φ).ans l os) := by
  intro l os hp
  have hx : ∃ v, Pre v ∧ A v = l ∧ O v = os := of_decide_eq_true hp
  show Ct V.P V.G f l os (φ (valA A O Pre w l os))
  unfold valA
  rw [dif_pos hx]
  have := h _ hx.choose_spec.1
  rw [hx.choose_spec.2.1, hx.choose_spec.2.2] at this
  exact this

/-- A loop whose rounds are known. -/
theorem loopOk_of [Inhabited τ] {X : Cfg} {f : FuncId} {p : List Nat} {b : Code} (S : α → St) (Inv : α → Prop) (μ : α → Nat) (w : α → τ) (out : τ → (Ex → St → Res) → Res) (hb : subC (bodyOf X.P f) p = .loop b) (n : Nat)
    (round : ∀ v, Inv v → ∀ (k : Ex → St → Res) (kn : St → Res), (∀ v', Inv v' → μ v' < μ v → kn (S v') = out (w v') k) → roundR X f n p (S v) kn k = out (w v) k) :
    LoopOk X f p (mkO (goodS S Inv) (valS S Inv w) out) := by
  intro s k r h
  unfold mkO at h
  obtain ⟨hg, h⟩ := cond_none h
  have hx : ∃ v, Inv v ∧ S v = s := of_decide_eq_true hg
  unfold valS at h
  rw [dif_pos hx] at h
  refine ⟨n, μ hx.choose, ?_⟩
  have := loop_run S Inv μ (fun v => out (w v)) hb round (μ hx.choose) hx.choose hx.choose_spec.1 (Nat.le_refl _) k
  rw [hx.choose_spec.2] at this
  rw [this]; exact h

theorem cutOk_of [Inhabited τ] {X : Cfg} {f : FuncId} {p : List Nat} (S : α → St) (Inv : α → Prop) (w : α → τ) (out : τ → (Ex → St → Res) → Res)
    (h : ∀ v, Inv v → ∃ n, ∀ k : Ex → St → Res, runC X f n (subC (bodyOf X.P f) p) p (S v) k = out (w v) k) : CutOk X f p (mkO (goodS S Inv) (valS S Inv w) out) := by
  intro s k r hr
  unfold mkO at hr
  obtain ⟨hg, hr⟩ := cond_none hr
  have hx : ∃ v, Inv v ∧ S v = s := of_decide_eq_true hg
  unfold valS at hr
  rw [dif_pos hx] at hr
  obtain ⟨n, hn⟩ := h _ hx.choose_spec.1
  refine ⟨n, ?_⟩
  have := hn k
  rw [hx.choose_spec.2] at this
  rw [this]; exact hr
end

open Classical in
theorem viewOk_of {α : Type} [Inhabited α] (S : α → St) (Inv : α → Prop) : ViewOk (mkV (goodS S Inv) (valS S Inv id) S) := by
  intro s k r h
  unfold mkV at h
  obtain ⟨hg, h⟩ := cond_none h
  have hx : ∃ v, Inv v ∧ S v = s := of_decide_eq_true hg
  unfold valS at h
  rw [dif_pos hx, id, hx.choose_spec.2] at h
  exact ⟨s, h, fun B c a h1 h2 => ⟨c, rfl, h1, h2⟩⟩

theorem wrap_i64 {x : Int} (h0 : -9223372036854775808 ≤ x) (h1 : x < 9223372036854775808) : IntKind.i64.wrap x = x := by
  simp [IntKind.wrap, IntKind.signed, IntKind.bits] <;> (try split) <;> omega
theorem within_of {x : Int} {n : Nat} (h0 : 0 ≤ x) (h1 : x < n) : within x n = true := by simp [within, h0, h1]
end Go.Ab
