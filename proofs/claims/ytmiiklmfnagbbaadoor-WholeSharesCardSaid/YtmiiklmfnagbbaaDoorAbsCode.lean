/- Code, sound. -/
import Derived.Test.YtmiiklmfnagbbaaDoorAbsLoop
namespace Go.Ab
open Go Go.RowKit
variable {B : Base} {c : Cx} {s : St} {a : Act} {X : Cfg}

def Ex.to : Ex → Exit
  | .nor => .normal
  | .exit id => .exit id
  | .ret => .ret

/-- What stands behind a loop's round. -/
def LoopWp (P : Program) (c : Code) (Q : Exit → Act → World → Prop) (a : Act) (w : World) : Prop :=
  ∀ (b : Go.Frame) (k : List Item) (cs : List Go.Frame), ∃ e a' w', Q e a' w' ∧ Arrives P (lone (b.at a (.code c :: .inLoop c :: k)) cs w) b k cs e a' w'

theorem LoopWp.unroll {P : Program} {c : Code} {Q : Exit → Act → World → Prop} {a : Act} {w : World} (h : c.wp P (Exit.then (LoopWp P c Q) Q) a w) : LoopWp P c Q a w := by
  intro b k cs
  obtain ⟨e, a₁, w₁, hq, harr⟩ := h b (.inLoop c :: k) cs
  cases e with
  | normal =>
    obtain ⟨e₂, a₂, w₂, hq₂, harr₂⟩ := hq b k cs
    exact ⟨e₂, a₂, w₂, hq₂, .of_steps (Steps.trans harr (.one step_inLoop)) harr₂⟩
  | exit id => exact ⟨_, a₁, w₁, hq, .pass (x := .inLoop c) rfl (fun _ _ => .inl (by simp)) harr⟩
  | goto l => exact ⟨_, a₁, w₁, hq, .pass (x := .inLoop c) rfl (fun _ _ => .inl (by simp)) harr⟩
  | ret => exact ⟨_, a₁, w₁, hq, .pass (x := .inLoop c) rfl (fun _ _ => .inl (by simp)) harr⟩
  | panic ch => exact ⟨_, a₁, w₁, hq, .pass (x := .inLoop c) rfl (fun _ _ => .inl (by simp)) harr⟩
  | outgrown => exact ⟨_, a₁, w₁, hq, .pass (x := .inLoop c) rfl (fun _ _ => .inl (by simp)) harr⟩
theorem LoopWp.wp {P : Program} {c : Code} {Q : Exit → Act → World → Prop} {a : Act} {w : World} (h : LoopWp P c Q a w) : (Code.loop c).wp P Q a w := fun b k cs =>
  let ⟨e, a', w', q, r⟩ := h b k cs; ⟨e, a', w', q, .of_steps (.one step_loop) r⟩

/-- What a piece of code is known to do. -/
def Sound (X : Cfg) (B : Base) (code : Code) (run : St → (Ex → St → Res) → Res) : Prop :=
  ∀ (s : St) (c : Cx) (a : Act) (k : Ex → St → Res) (r : AV × List AO) (Q : Exit → Act → World → Prop), run s k = some r → Rel B c s a → NoGrd s →
    (∀ ex s' c' a', k ex s' = some r → Rel B c' s' a' → NoGrd s' → Q ex.to a' c'.w) → code.wp X.P Q a c.w

theorem loopN_sound {body : Code} {run : St → (Ex → St → Res) → Res} (hb : Sound X B body run) (hK : ∀ k, B.K k → keyBase ≤ k) {h : Hint} : ∀ (n : Nat) (s : St) (c : Cx) (a : Act) (k : Ex → St → Res) (r : AV × List AO) (Q : Exit → Act → World → Prop),
    loopN X.P run h n s k = some r → Rel B c s a → NoGrd s → (∀ ex s' c' a', k ex s' = some r → Rel B c' s' a' → NoGrd s' → Q ex.to a' c'.w) → LoopWp X.P body Q a c.w
  | 0, s, c, a, k, r, Q, he, _, _, _ => by simp [loopN] at he
  | n + 1, s, c, a, k, r, Q, he, hr, hn, hk => by
    simp only [loopN] at he
    obtain ⟨s1, h1, he⟩ := opt_bind he
    obtain ⟨c1, e1, e2, e3⟩ := atHead_sound hr hn hK h1
    apply LoopWp.unroll
    rw [← e1]
    refine hb s1 c1 a _ r _ he e2 e3 fun ex s' c' a' hex hr' hn' => ?_
    cases ex with
    | nor => exact loopN_sound hb hK n s' c' a' k r Q hex hr' hn' hk
    | exit id => exact hk _ s' c' a' hex hr' hn'
    | ret => exact hk _ s' c' a' hex hr' hn'

theorem subC_append : ∀ (c : Code) (p : List Nat) (i : Nat), subC c (p ++ [i]) = subC (subC c p) [i]
  | c, [], i => by simp [subC]
  | .seq a b, 0 :: r, i => by simp only [List.cons_append, subC]; exact subC_append a r i
  | .seq a b, (j + 1) :: r, i => by simp only [List.cons_append, subC]; exact subC_append b r i
  | .cond q a b, 0 :: r, i => by simp only [List.cons_append, subC]; exact subC_append a r i
  | .cond q a b, (j + 1) :: r, i => by simp only [List.cons_append, subC]; exact subC_append b r i
  | .block id b, j :: r, i => by simp only [List.cons_append, subC]; exact subC_append b r i
  | .loop b, j :: r, i => by simp only [List.cons_append, subC]; exact subC_append b r i
  | .scope b, j :: r, i => by simp only [List.cons_append, subC]; exact subC_append b r i
  | .skip, _ :: _, i | .region .., _ :: _, i | .exit _, _ :: _, i | .ret, _ :: _, i | .goto _, _ :: _, i | .label _, _ :: _, i | .rangeFunc .., _ :: _, i | .refuse _, _ :: _, i => by simp [subC]

theorem trimS_sound {P : Program} (h : Rel B c s a) (hn : NoGrd s) (hK : ∀ k, B.K k → keyBase ≤ k) {hint : Option Hint} {s' : St} (he : trimS P hint s = some s') : ∃ c', c'.w = c.w ∧ Rel B c' s' a ∧ NoGrd s' := by
  cases hint with
  | none =>
    simp only [trimS, Option.some.injEq] at he
    subst he
    exact ⟨c, rfl, h, hn⟩
  | some _ => exact atHead_sound h hn hK he

/-- The rest of a loop, from its head. -/
def loopR (X : Cfg) (f : FuncId) (n m : Nat) (c : Code) (p : List Nat) (s : St) (k : Ex → St → Res) : Res :=
  match c with
  | .loop b => runC X f n b (p ++ [0]) s fun e s' => match e with
    | .nor => loopN X.P (runC X f n b (p ++ [0])) (X.hint f (tagOf b)) m s' k
    | e => k e s'
  | _ => none

/-- What stands in place of runs is right. -/
structure OracOk (X : Cfg) (f : FuncId) : Prop where
  cut : ∀ p g, X.cutO f p = some g → ∀ s k r, g s k = some r → ∃ n, runC X f n (subC (bodyOf X.P f) p) p s k = some r
  view : ∀ p g, X.viewO f p = some g → ∀ s k r, g s k = some r → ∃ s', k s' = some r ∧ ∀ (B : Base) (c : Cx) (a : Act), Rel B c s a → NoGrd s → ∃ c', c'.w = c.w ∧ Rel B c' s' a ∧ NoGrd s'
  loop : ∀ p g, X.loopO f p = some g → ∀ s k r, g s k = some r → ∃ n m, loopR X f n m (subC (bodyOf X.P f) p) p s k = some r

theorem runC_sound (hX : CallsOk X) (hG : X.G = B.G) (hm : X.P.follows .mixedOrders = true) (hK : ∀ k, B.K k → keyBase ≤ k) (f : FuncId) (hO : OracOk X f) : ∀ (code : Code) (p : List Nat), subC (bodyOf X.P f) p = code → codeOk B.N code = true → ∀ n, Sound X B code (runC X f n code p)
  | .skip, _, _, _, n => fun s c a k r Q he hr hn hk => wp_skip (hk .nor s c a he hr hn)
  | .region id ops draw, p, _, hN, n => fun s c a k r Q he hr hn hk => by
    have hN' : ∀ o ∈ ops.toList, ∀ d, o.dst = some d → d < B.N := by
      intro o ho d hd
      simp only [codeOk] at hN
      have := List.all_eq_true.1 hN o ho
      simp only [hd] at this
      exact ltB this
    simp only [runC] at he
    cases draw with
    | true => exact runDrawn_sound hX hG hm he hr hn hN' fun s' c' a' e1 e2 e3 => hk .nor s' c' a' e1 e2 e3
    | false => exact runRegion_sound hX hG he hr hn hN' fun s' c' a' e1 e2 e3 => hk .nor s' c' a' e1 e2 e3
  | .seq x y, p, hp, hN, n => fun s c a k r Q he hr hn hk => by
    simp only [codeOk, Bool.and_eq_true] at hN
    simp only [runC] at he
    have hp1 : subC (bodyOf X.P f) (p ++ [0]) = x := by rw [subC_append, hp]; simp [subC]
    have hp2 : subC (bodyOf X.P f) (p ++ [1]) = y := by rw [subC_append, hp]; simp [subC]
    apply wp_seq
    refine runC_sound hX hG hm hK f hO x _ hp1 hN.1 n s c a _ r _ he hr hn fun ex s' c' a' hex hr' hn' => ?_
    cases ex with
    | nor =>
      obtain ⟨s1, h1, hex⟩ := opt_bind hex
      obtain ⟨c0, e01, e02, e03⟩ := trimS_sound hr' hn' hK h1
      have hv : ∃ s2 c2, (match X.cutO f (p ++ [1]) with | none => runC X f n y (p ++ [1]) s2 k | some g => g s2 k) = some r ∧ c2.w = c0.w ∧ Rel B c2 s2 a' ∧ NoGrd s2 := by
        cases hv : X.viewO f (p ++ [1]) with
        | none => simp only [viewS, hv] at hex; exact ⟨s1, c0, hex, rfl, e02, e03⟩
        | some g =>
          simp only [viewS, hv] at hex
          obtain ⟨s2, g1, g2⟩ := hO.view _ g hv _ _ _ hex
          obtain ⟨c2, g3, g4, g5⟩ := g2 B c0 a' e02 e03
          exact ⟨s2, c2, g1, g3, g4, g5⟩
      clear hex
      obtain ⟨s1, c1, hex, e1, e2, e3⟩ := hv
      rw [← e01, ← e1]
      cases hc : X.cutO f (p ++ [1]) with
      | none =>
        simp only [hc] at hex
        exact runC_sound hX hG hm hK f hO y _ hp2 hN.2 n s1 c1 a' k r Q hex e2 e3 hk
      | some g =>
        simp only [hc] at hex
        obtain ⟨n', hn'⟩ := hO.cut _ g hc s1 k r hex
        rw [hp2] at hn'
        exact runC_sound hX hG hm hK f hO y _ hp2 hN.2 n' s1 c1 a' k r Q hn' e2 e3 hk
    | exit id => exact hk _ s' c' a' hex hr' hn'
    | ret => exact hk _ s' c' a' hex hr' hn'
  | .cond q x y, p, hp, hN, n => fun s c a k r Q he hr hn hk => by
    simp only [codeOk, Bool.and_eq_true] at hN
    simp only [runC] at he
    have hp1 : subC (bodyOf X.P f) (p ++ [0]) = x := by rw [subC_append, hp]; simp [subC]
    have hp2 : subC (bodyOf X.P f) (p ++ [1]) = y := by rw [subC_append, hp]; simp [subC]
    split at he
    · rename_i t ht
      rw [hG] at ht
      have hs := (evalO_sound hr (ch := []) (fun t w hm => by simp at hm) ht).rep
      have hq : a.eval q = .bool t := by generalize a.eval q = V at hs; cases hs; rfl
      cases t with
      | true => exact wp_cond hq (runC_sound hX hG hm hK f hO x _ hp1 hN.1 n s c a k r Q he hr hn hk)
      | false => exact wp_cond hq (runC_sound hX hG hm hK f hO y _ hp2 hN.2 n s c a k r Q he hr hn hk)
    · simp at he
  | .block id b, p, hp, hN, n => fun s c a k r Q he hr hn hk => by
    simp only [codeOk] at hN
    simp only [runC] at he
    have hp1 : subC (bodyOf X.P f) (p ++ [0]) = b := by rw [subC_append, hp]; simp [subC]
    apply wp_block
    refine runC_sound hX hG hm hK f hO b _ hp1 hN n s c a _ r _ he hr hn fun ex s' c' a' hex hr' hn' => ?_
    cases ex with
    | nor => exact hk _ s' c' a' hex hr' hn'
    | exit id' =>
      simp only [Ex.to, Exit.inBlock]
      by_cases e : id' = id
      · subst e
        simp only [Nat.beq_refl, cond_true] at hex
        rw [if_pos rfl]; exact hk .nor s' c' a' hex hr' hn'
      · simp only [beqF e, cond_false] at hex
        rw [if_neg e]; exact hk (.exit id') s' c' a' hex hr' hn'
    | ret => exact hk _ s' c' a' hex hr' hn'
  | .loop b, p, hp, hN, n => fun s c a k r Q he hr hn hk => by
    simp only [codeOk] at hN
    simp only [runC] at he
    have hp1 : subC (bodyOf X.P f) (p ++ [0]) = b := by rw [subC_append, hp]; simp [subC]
    have hb := runC_sound hX hG hm hK f hO b _ hp1 hN
    cases hc : X.loopO f p with
    | none =>
      simp only [hc] at he
      exact (loopN_sound (hb n) hK n s c a k r Q he hr hn hk).wp
    | some g =>
      simp only [hc] at he
      obtain ⟨s1, h1, he⟩ := opt_bind he
      obtain ⟨n', m, he⟩ := hO.loop _ g hc s1 k r he
      rw [hp] at he
      simp only [loopR] at he
      obtain ⟨c1, e1, e2, e3⟩ := atHead_sound hr hn hK h1
      refine LoopWp.wp (LoopWp.unroll ?_)
      rw [← e1]
      refine hb n' s1 c1 a _ r _ he e2 e3 fun ex s' c' a' hex hr' hn' => ?_
      cases ex with
      | nor => exact loopN_sound (hb n') hK m s' c' a' k r Q hex hr' hn' hk
      | exit id => exact hk _ s' c' a' hex hr' hn'
      | ret => exact hk _ s' c' a' hex hr' hn'
  | .exit id, _, _, _, n => fun s c a k r Q he hr hn hk => by
    simp only [runC] at he
    obtain ⟨s1, h1, he⟩ := opt_bind he
    obtain ⟨c1, e1, e2, e3⟩ := trimS_sound hr hn hK h1
    rw [← e1]
    exact wp_exit (hk (.exit id) s1 c1 a he e2 e3)
  | .ret, _, _, _, n => fun s c a k r Q he hr hn hk => by
    simp only [runC] at he
    obtain ⟨s1, h1, he⟩ := opt_bind he
    obtain ⟨c1, e1, e2, e3⟩ := trimS_sound hr hn hK h1
    rw [← e1]
    exact wp_ret (hk .ret s1 c1 a he e2 e3)
  | .goto _, _, _, _, n => fun s c a k r Q he hr hn hk => by simp [runC] at he
  | .label _, _, _, _, n => fun s c a k r Q he hr hn hk => by simp [runC] at he
  | .scope _, _, _, _, n => fun s c a k r Q he hr hn hk => by simp [runC] at he
  | .rangeFunc .., _, _, _, n => fun s c a k r Q he hr hn hk => by simp [runC] at he
  | .refuse _, _, _, _, n => fun s c a k r Q he hr hn hk => by simp [runC] at he
end Go.Ab
