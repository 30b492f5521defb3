/- The draws: Test: its contract. The draws: Test: its contract. The draws: Test: one contract. The draws: Wide, Number, Name, Split: equations; Pick. The draws: Wide, Number, Name: contracts; a split: its contract. The draws: a split: its contract. A view of a state in which less is told: variables' cells told in other words. A view in which a slice that was stored into is read alone from here on. The draws: a split that is spoilt: equations. The draws: a split that is spoilt: its contract. The draws: a split that is spoilt: its contract. The draws: Expr: equations. The draws: Expr: its loop. The draws: Expr at one level: equations. The draws: Expr: how its answers are told. The draws: Expr: its contract. The draws: Condition: equations. -/
import Derived.Test.YtnldpiohcmgkdaaGreatDoorX4
namespace Go.SH
open Go Go.Ab Go.Proofs
set_option linter.unusedVariables false
set_option linter.unusedSimpArgs false
section
open Classical
noncomputable def gB (m : Int) (C : CODES) (l : List AV) (os : List AO) : Bool := decide ((∃ a, nP a ∧ nA a = l ∧ nO a = os) ∧ (argN m l = true → os = [codO C]))
noncomputable def entB (m : Int) (C : CODES) (x : Int × CODES) : Ent := mkE 19 (gB m C) (fun l os => cond (argN m l) x (vN l os)) φX
theorem entB_ok {m : Int} {C : CODES} (hm : 1 ≤ m) (hC : C.Ok) {x : Int × CODES} (hx : nextR C m = x) : ∀ l os, (entB m C x).pre l os = true → Ct V2.P V2.G (entB m C x).f l os ((entB m C x).ans l os) := by
  intro l os hp
  obtain ⟨⟨a, h1, h2, h3⟩, h4⟩ : (∃ a, nP a ∧ nA a = l ∧ nO a = os) ∧ (argN m l = true → os = [codO C]) := of_decide_eq_true hp
  show Ct V2.P V2.G 19 l os (φX (cond (argN m l) x (vN l os)))
  cases hb : argN m l with
  | true =>
    have := h4 hb
    subst h2
    have hm2 : a.2 = m := by simpa [argN, nA] using hb
    rw [this]
    have hn := next_ok C hC m hm
    rw [hx] at hn
    show Ct V2.P V2.G 19 [.ref keyBase 0, .int .i64 a.2] _ _
    rw [hm2]; exact hn
  | false =>
    subst h2 h3
    have : vN (nA a) (nO a) = nW a := valA_eq (fun a b _ _ h1 h2 => nInj a b h1 h2) h1
    rw [show cond false x (vN (nA a) (nO a)) = vN (nA a) (nO a) from rfl, this]
    exact next_ok a.1 h1.1 a.2 h1.2
theorem gB_eq {m : Int} {C D : CODES} {n : Int} (h : D.Ok) (hn : 1 ≤ n) (he : n = m → D = C) : gB m C [.ref 1000000 0, .int .i64 n] [codO D] = true := by
  refine decide_eq_true ⟨⟨(D, n), ⟨h, hn⟩, rfl, rfl⟩, fun ha => ?_⟩
  have : n = m := by simpa [argN] using ha
  rw [he this]
end
theorem argN_ne {m n : Int} (h : n ≠ m) : argN m [.ref 1000000 0, .int .i64 n] = false := by simpa [argN] using h
theorem vA_kind (a b : CODES × Int) (x : VAL × CODES) (h : vA a = vA b) (_ : vO a = vO b) (hx : vPost a x) : vPost b x := by
  simp only [vA, List.cons.injEq, AV.int.injEq, true_and, and_true] at h
  unfold vPost at *
  rw [← h]; exact hx
def φQ (x : EXP × CODES) : AV × List AO := (.agg x.1.c, [codO x.2])
def tPost (x : EXP × CODES) : Prop := testOk x.1 ∧ x.2.Ok
theorem fill_one {v : VAL} : ∀ j, j < [v].length → fillGet zV [(0, .agg v.c)] j = ([v].getD j default).c := fun j hj => by
  match j, hj with
  | 0, _ => rfl
theorem getV_at {l : List VAL} : ∀ j, j < l.length → getV l j = (l.getD j default).c := fun j hj => by
  unfold getV
  simp [List.getD, hj]
def opOk (op kind : Int) : Prop := 6 ≤ op ∧ op ≤ 15 ∧ op ≠ 8 ∧ op ≠ 6 ∧ (needsText op = true → kind = 3)
section
variable {C : CODES} {dk dn : List UInt8} (h1 : keyB dk = true) (h2 : keyB dn = true) (h3 : dk.length ≤ 100) (h4 : dn.length ≤ 100)
include h1 h2 h3 h4
theorem leaf0 {D : CODES} (hD : D.Ok) {g : Nat → List AV} (hct : Ct V2.P V2.G 47 (cA C) (cO C) (.agg (exC 6 dk dn (.sl .fit 0 0 g)), [codO D])) : ∃ x, tPost x ∧ Ct V2.P V2.G 47 (cA C) (cO C) (φQ x) := by
  refine ⟨(.mk 6 dk dn [] [], D), ⟨⟨part_test (by omega) (by omega) h1 h2 (by intro v hv; cases hv) (by simp) rfl (by intro h; cases h), rfl, .mk _ (by show dk.length ≤ maxS; unfold maxS; omega) (by show dn.length ≤ maxS; unfold maxS; omega) ⟨by show 0 ≤ _; omega, by intro v hv; cases hv⟩ (by show 0 ≤ _; omega) (by intro v hv; cases hv)⟩, hD⟩, ?_⟩
  refine hct.res ?_ fun c v hv => ?_
  · show (AV.agg (EXP.c (.mk 6 dk dn [] []))).keys = []
    rw [EXP.c_eq]; simp [expC, AV.keys, keysL, valL]
  · show Rep c (.agg (EXP.c (.mk 6 dk dn [] []))) v
    rw [EXP.c_eq]
    show Rep c (.agg [.int .i64 6, .str dk, .str dn, valL [], .sl .no 5 0 (EXP.row [])]) v
    refine agg_map (us := [.int .i64 6, .str dk, .str dn, .sl .fit 0 0 g, .sl .fit 0 0 fun _ => []]) rfl (fun i u u' hu hu' => ?_) hv
    match i with
    | 0 => simp only [List.getElem?_cons_zero, Option.some.injEq] at hu hu'; subst hu hu'; exact ⟨rfl, fun x h => h⟩
    | 1 => simp only [List.getElem?_cons_succ, List.getElem?_cons_zero, Option.some.injEq] at hu hu'; subst hu hu'; exact ⟨rfl, fun x h => h⟩
    | 2 => simp only [List.getElem?_cons_succ, List.getElem?_cons_zero, Option.some.injEq] at hu hu'; subst hu hu'; exact ⟨rfl, fun x h => h⟩
    | 3 => simp only [List.getElem?_cons_succ, List.getElem?_cons_zero, Option.some.injEq] at hu hu'; subst hu hu'; exact ⟨rfl, sl_fit⟩
    | 4 => simp only [List.getElem?_cons_succ, List.getElem?_cons_zero, Option.some.injEq] at hu hu'; subst hu hu'; exact ⟨rfl, sl_fit⟩
    | i + 5 => simp at hu
theorem leaf1 {C2 : CODES} {kind op : Int} {y : VAL × CODES} (hy : vPost (C2, kind) y) (hop : opOk op kind) (hct : Ct V2.P V2.G 47 (cA C) (cO C) (.agg (exC op dk dn (.sl .fit 4 1 (fillGet zV [(0, .agg (VAL.c y.1))]))), [codO y.2])) : ∃ x, tPost x ∧ Ct V2.P V2.G 47 (cA C) (cO C) (φQ x) := by
  obtain ⟨⟨g1, g2, g3⟩, g4⟩ := hy
  obtain ⟨o1, o2, o3, o4, o5⟩ := hop
  refine ⟨(.mk op dk dn [y.1] [], y.2), ⟨⟨part_test o1 o2 h1 h2 (by intro v hv; simp at hv; subst hv; exact g2) (by simp) (by rw [beq_eq_false_iff_ne.2 o3, show (op != 6) = true by simp [o4]]; rfl) (fun h => by show y.1.kind = 3; rw [g1]; exact o5 h), rfl, .mk _ (by show dk.length ≤ maxS; unfold maxS; omega) (by show dn.length ≤ maxS; unfold maxS; omega) ⟨by show 1 ≤ _; omega, by intro v hv; have : v ∈ [y.1] := hv; simp at this; subst this; exact g3⟩ (by show 0 ≤ _; omega) (by intro v hv; cases hv)⟩, g4⟩, ?_⟩
  exact test_ct (l := [y.1]) (same_cells fill_one) hct
theorem leafL {kind : Int} {z : List VAL × CODES} (hz : 1 ≤ z.1.length ∧ z.1.length ≤ 3 ∧ (∀ v ∈ z.1, goodVal kind v) ∧ z.2.Ok) {o : Own} (hct : Ct V2.P V2.G 47 (cA C) (cO C) (.agg (exC 8 dk dn (.sl o 4 z.1.length (getV z.1))), [codO z.2])) : ∃ x, tPost x ∧ Ct V2.P V2.G 47 (cA C) (cO C) (φQ x) := by
  obtain ⟨z1, z2, z3, z4⟩ := hz
  refine ⟨(.mk 8 dk dn z.1 [], z.2), ⟨⟨part_test (by omega) (by omega) h1 h2 (fun v hv => (z3 v hv).2.1) (by omega) (by show decide (z.1.length > 0) = true; exact decide_eq_true (by omega)) (by intro h; cases h), rfl, .mk _ (by show dk.length ≤ maxS; unfold maxS; omega) (by show dn.length ≤ maxS; unfold maxS; omega) ⟨by show z.1.length ≤ _; omega, fun v hv => (z3 v hv).2.2⟩ (by show 0 ≤ _; omega) (by intro v hv; cases hv)⟩, z4⟩, ?_⟩
  exact test_ct (l := z.1) (same_cells getV_at) hct
end
abbrev TSt := CODES ⊕ (List VAL × CODES)
def tS (dk dn : List UInt8) (dt : Int) : TSt → St
  | .inl C => TS0 dk dn dt C
  | .inr (l, C) => TS dk dn dt l.length (getV l) C l.length
def tI (dt : Int) : TSt → Prop
  | .inl C => C.Ok
  | .inr (l, C) => C.Ok ∧ 1 ≤ l.length ∧ l.length ≤ 3 ∧ ∀ v ∈ l, goodVal dt v
def tM : TSt → Nat
  | .inl _ => 5
  | .inr (l, _) => 4 - l.length
def tZ (dt : Int) (z : List VAL × CODES) : Prop := 1 ≤ z.1.length ∧ z.1.length ≤ 3 ∧ (∀ v ∈ z.1, goodVal dt v) ∧ z.2.Ok
instance : Inhabited (List VAL × CODES) := ⟨([], default)⟩
theorem getV_app (l : List VAL) (v : VAL) : appGet l.length 1 (getV l) (fillGet zV [(0, .agg v.c)]) = getV (l ++ [v]) := by
  funext j
  unfold appGet getV
  by_cases h : j < l.length
  · rw [bltT h]
    simp [List.getD, h, List.getElem?_append_left]
  · have hb : Nat.blt j l.length = false := by
      cases e : Nat.blt j l.length with
      | false => rfl
      | true => exact absurd (ltB e) h
    rw [hb, cond_false]
    by_cases h1 : j = l.length
    · subst h1
      rw [bltT (by omega), cond_true, Nat.sub_self]
      simp [fillGet, AV.cells, List.getD]
    · have hb1 : Nat.blt j (l.length + 1) = false := by
        cases e : Nat.blt j (l.length + 1) with
        | false => rfl
        | true => exact absurd (ltB e) (by omega)
      rw [hb1, cond_false]
      simp only [List.map_append, List.map_cons, List.map_nil, List.getD]
      rw [List.getElem?_eq_none (by simp; omega), List.getElem?_eq_none (by simp; omega)]
theorem test_loop (dk dn : List UInt8) (dt : Int) (h1 : 1 ≤ dt) (h5 : dt ≤ 5) (ge : List AV → List AO → Bool) (ve : List AV → List AO → Int × CODES) (hge : ∀ C : CODES, C.Ok → ge [.ref 1000000 0, .int .i64 3] [codO C] = true) (hve : ∀ C : CODES, C.Ok → ve [.ref 1000000 0, .int .i64 3] [codO C] = nextR C 3)
    (wv : CODES × Int → VAL × CODES) (hwv : ∀ a, vP a → vPost a (wv a)) (T : List Ent) :
    ∃ w : TSt → List VAL × CODES, (∀ v, tI dt v → tZ dt (w v)) ∧ ∀ L, LoopOk (V2.run (mkE 19 ge ve φX :: entC 58 vA vO vP wv φV :: T) 3 [] L [] 47) 47 [1, 1, 1, 1, 1, 1, 0, 1, 0, 0, 0, 0, 0, 0, 0, 1, 0, 1, 0, 1, 0, 1, 0] (mkO (goodS (tS dk dn dt) (tI dt)) (valS (tS dk dn dt) (tI dt) w) (outT dk dn)) := by
  refine loop_ex (Xf := fun L => V2.run (mkE 19 ge ve φX :: entC 58 vA vO vP wv φV :: T) 3 [] L [] 47) (b := subC (bodyOf V2.P 47) ([1, 1, 1, 1, 1, 1, 0, 1, 0, 0, 0, 0, 0, 0, 0, 1, 0, 1, 0, 1, 0, 1, 0] ++ [0])) (tS dk dn dt) (tI dt) tM (outT dk dn) (fun _ => tZ dt) (fun _ => by kernel_rfl) 9 fun v hv => ?_
  have hgv : ∀ C : CODES, C.Ok → goodA vA vO vP [.ref 1000000 0, .int .i64 dt] [codO C] = true := fun C hC => goodA_eq (A := vA) (O := vO) (v := (C, dt)) ⟨hC, h1, h5⟩
  have hvv : ∀ C : CODES, C.Ok → vPost (C, dt) (valA vA vO vP wv [.ref 1000000 0, .int .i64 dt] [codO C]) := fun C hC => valA_post (A := vA) (O := vO) (a := (C, dt)) hwv vA_kind ⟨hC, h1, h5⟩
  cases v with
  | inl C =>
    have hC : C.Ok := hv
    obtain ⟨q0, q1, q2⟩ := nextR_ok hC (m := 3) (by omega)
    refine .inr ⟨.inr ([(valA vA vO vP wv [.ref 1000000 0, .int .i64 dt] [codO (nextR C 3).2]).1], (valA vA vO vP wv [.ref 1000000 0, .int .i64 dt] [codO (nextR C 3).2]).2), ?_, by show 4 - 1 < 5; omega, fun _ h => h, fun L k kn => ?_⟩
    · obtain ⟨g1, g2⟩ := hvv _ q2
      exact ⟨g2, by show 1 ≤ 1; omega, by show 1 ≤ 3; omega, fun v hv => by simp at hv; subst hv; exact g1⟩
    · refine (test_r0 ge _ ve _ T L _ dk dn dt C kn k (hve C hC) rfl).trans ?_
      rw [hge C hC, decide_eq_true q0, hgv _ q2]
      have := getV_app [] (valA vA vO vP wv [.ref 1000000 0, .int .i64 dt] [codO (nextR C 3).2]).1
      show kn _ = kn _
      congr 1
      show TS dk dn dt 1 (appGet 0 1 (fun _ => zV) _) _ _ = TS dk dn dt 1 (getV [_]) _ 1
      rw [show (fun _ : Nat => zV) = getV [] by funext j; rfl]
      exact congrArg (fun g => TS dk dn dt 1 g _ 1) this
  | inr x =>
    obtain ⟨l, C⟩ := x
    obtain ⟨hC, l1, l3, lv⟩ := hv
    obtain ⟨q0, q1, q2⟩ := nextR_ok hC (m := 3) (by omega)
    obtain ⟨n, hn⟩ : ∃ n, l.length = n + 1 := ⟨l.length - 1, by omega⟩
    by_cases hi : (l.length : Int) ≤ (nextR C 3).1
    · refine .inr ⟨.inr (l ++ [(valA vA vO vP wv [.ref 1000000 0, .int .i64 dt] [codO (nextR C 3).2]).1], (valA vA vO vP wv [.ref 1000000 0, .int .i64 dt] [codO (nextR C 3).2]).2), ?_, ?_, fun _ h => h, fun L k kn => ?_⟩
      · obtain ⟨g1, g2⟩ := hvv _ q2
        refine ⟨g2, by simp, by simp; omega, fun v hv => ?_⟩
        rcases List.mem_append.1 hv with hv | hv
        · exact lv v hv
        · simp at hv; subst hv; exact g1
      · show 4 - (l ++ [_]).length < 4 - l.length
        rw [List.length_append, List.length_singleton]; omega
      · have := test_r ge (goodA vA vO vP) ve (valA vA vO vP wv) T L 9 dk dn dt n (getV l) C l.length kn k (hve C hC) rfl
        rw [← hn] at this
        refine this.trans ?_
        rw [hge C hC, decide_eq_true hi, hgv _ q2, getV_app, wrap_next (n := 4) (by omega) (by omega)]
        have hr : (roomy 56 (l.length + 1) && Nat.beq l.length l.length) = true := by
          have : l.length = 1 ∨ l.length = 2 ∨ l.length = 3 := by omega
          rcases this with e | e | e <;> rw [e] <;> rfl
        rw [hr]
        show kn _ = kn (TS dk dn dt (l ++ [_]).length (getV (l ++ [_])) _ (l ++ [_]).length)
        rw [List.length_append, List.length_singleton]; rfl
    · refine .inl ⟨(l, (nextR C 3).2), ⟨l1, l3, lv, q2⟩, fun L k kn => ?_⟩
      have := test_r ge (goodA vA vO vP) ve (valA vA vO vP wv) T L 9 dk dn dt n (getV l) C l.length kn k (hve C hC) rfl
      rw [← hn] at this
      refine this.trans ?_
      rw [hge C hC, decide_eq_false hi]; rfl
theorem tS_good (dk dn : List UInt8) (dt : Int) {C : CODES} (h : C.Ok) : goodS (tS dk dn dt) (tI dt) (TS0 dk dn dt C) = true := goodS_eq (S := tS dk dn dt) (v := Sum.inl C) h
theorem tS_post (dk dn : List UInt8) (dt : Int) {w : TSt → List VAL × CODES} (hw : ∀ v, tI dt v → tZ dt (w v)) {C : CODES} (h : C.Ok) : tZ dt (valS (tS dk dn dt) (tI dt) w (TS0 dk dn dt C)) :=
  valS_post (S := tS dk dn dt) (a := Sum.inl C) (Post := fun (_ : TSt) (x : List VAL × CODES) => tZ dt x) hw (fun _ _ _ _ h => h) h
theorem vA_good {dt : Int} (h1 : 1 ≤ dt) (h5 : dt ≤ 5) {C : CODES} (h : C.Ok) : goodA vA vO vP [.ref 1000000 0, .int .i64 dt] [codO C] = true := goodA_eq (A := vA) (O := vO) (v := (C, dt)) ⟨h, h1, h5⟩
theorem vA_post {dt : Int} {wv : CODES × Int → VAL × CODES} (hwv : ∀ a, vP a → vPost a (wv a)) (h1 : 1 ≤ dt) (h5 : dt ≤ 5) {C : CODES} (h : C.Ok) : vPost (C, dt) (valA vA vO vP wv [.ref 1000000 0, .int .i64 dt] [codO C]) := valA_post (A := vA) (O := vO) (a := (C, dt)) hwv vA_kind ⟨h, h1, h5⟩
end Go.SH

namespace Go.SH
open Go Go.Ab Go.Proofs
set_option linter.unusedVariables false
set_option linter.unusedSimpArgs false
set_option linter.unusedSectionVars false
theorem wrap_lit {a b : Int} (h : a + b < 100) (h0 : 0 ≤ a + b) : IntKind.wrap .i64 (a + b) = a + b := wrap_i64 (by omega) (by omega)
section
variable {C D : CODES} (hC : C.Ok) (hD : D.Ok) {wv : CODES × Int → VAL × CODES} (hwv : ∀ a, vP a → vPost a (wv a)) (htv : ∀ l os, (entC 58 vA vO vP wv φV).pre l os = true → Ct V2.P V2.G (entC 58 vA vO vP wv φV).f l os ((entC 58 vA vO vP wv φV).ans l os))
  {wk : CODES → List UInt8 × CODES} (hwk : ∀ C, C.Ok → (wk C).1 ∈ keysL10 ∧ (wk C).2.Ok) (htk : ∀ l os, (entC 104 cA cO CODES.Ok wk φT).pre l os = true → Ct V2.P V2.G (entC 104 cA cO CODES.Ok wk φT).f l os ((entC 104 cA cO CODES.Ok wk φT).ans l os))
include hC hD hwv htv hwk htk
set_option maxHeartbeats 400000 in
set_option maxRecDepth 100000 in
theorem test_ex0 (h9 : nextR C 9 = (0, D)) : ∃ x, tPost x ∧ Ct V2.P V2.G 47 (cA C) (cO C) (φQ x) := by
  have hT := entB_ok (m := 9) (by omega) hC h9
  have k1 : keyB [100, 101, 118, 105, 99, 101] = true := by kernel_rfl
  have k2 : keyB [99, 111, 114, 101, 115] = true := by kernel_rfl
  obtain ⟨w, hw, hl⟩ := test_loop [100, 101, 118, 105, 99, 101] [99, 111, 114, 101, 115] 2 (by omega) (by omega) (gB 9 C) (fun l os => cond (argN 9 l) (0, D) (vN l os)) (fun C' h' => gB_eq h' (by omega) (by omega)) (fun C' h' => by
    show cond (argN 9 [.ref 1000000 0, .int .i64 3]) (0, D) (vN [.ref 1000000 0, .int .i64 3] [codO C']) = _
    rw [argN_ne (by decide)]; exact vN_eq h' (by omega)) wv hwv [entC 104 cA cO CODES.Ok wk φT]
  have hc := fun r he => ct_loops (V := V2) (f := 47) (l := cA C) (os := cO C) (r := r) (n := 9) (d := 3) (T := [entB 9 C (0, D), entC 58 vA vO vP wv φV, entC 104 cA cO CODES.Ok wk φT]) mixed2 funcs2 (tabOk_cons hT (tabOk_cons htv (tabOk_cons htk tabOk_nil))) (loopsOk_cons (hl _) loopsOk_nil) he
  obtain ⟨q0, q1, q2⟩ := nextR_ok hD (m := 5) (by omega)
  cases h5e : nextR D 5 with
  | mk r C2 =>
  rw [h5e] at q0 q1 q2
  have q0 : 0 ≤ r := q0
  have q1 : r < 5 := q1
  have q2 : C2.Ok := q2
  have ht5 : vN [.ref 1000000 0, .int .i64 5] [codO D] = (r, C2) := (vN_eq hD (by omega)).trans h5e
  have a5 : argN 9 [.ref 1000000 0, .int .i64 5] = false := argN_ne (by decide)
  have a4 : argN 9 [.ref 1000000 0, .int .i64 4] = false := argN_ne (by decide)
  have a2 : argN 9 [.ref 1000000 0, .int .i64 2] = false := argN_ne (by decide)
  have hg9 : gB 9 C [.ref 1000000 0, .int .i64 (IntKind.wrap .i64 (((8 : Nat) : Int) + 1))] [codO C] = true := gB_eq (n := 9) hC (by omega) fun _ => rfl
  have hg5 : gB 9 C [.ref 1000000 0, .int .i64 5] [codO D] = true := gB_eq hD (by omega) (by omega)
  have hn4 : gB 9 C [.ref 1000000 0, .int .i64 4] [codO C2] = true := gB_eq q2 (by omega) (by omega)
  have hn2 : gB 9 C [.ref 1000000 0, .int .i64 2] [codO C2] = true := gB_eq q2 (by omega) (by omega)
  have hv2 : goodA vA vO vP [.ref 1000000 0, .int .i64 2] [codO C2] = true := vA_good (by omega) (by omega) q2
  have hv3 : goodA vA vO vP [.ref 1000000 0, .int .i64 3] [codO C2] = true := vA_good (by omega) (by omega) q2
  have hy2 : vPost (C2, 2) (valA vA vO vP wv [.ref 1000000 0, .int .i64 2] [codO C2]) := vA_post hwv (by omega) (by omega) q2
  have hy3 : vPost (C2, 3) (valA vA vO vP wv [.ref 1000000 0, .int .i64 3] [codO C2]) := vA_post hwv (by omega) (by omega) q2
  have hz : goodS (tS [100, 101, 118, 105, 99, 101] [99, 111, 114, 101, 115] 2) (tI 2) (TS0 [100, 101, 118, 105, 99, 101] [99, 111, 114, 101, 115] 2 C2) = true := tS_good [100, 101, 118, 105, 99, 101] [99, 111, 114, 101, 115] 2 q2
  have hzp : tZ 2 (valS (tS [100, 101, 118, 105, 99, 101] [99, 111, 114, 101, 115] 2) (tI 2) w (TS0 [100, 101, 118, 105, 99, 101] [99, 111, 114, 101, 115] 2 C2)) := tS_post [100, 101, 118, 105, 99, 101] [99, 111, 114, 101, 115] 2 hw q2
  have hr : r = 0 ∨ r = 1 ∨ r = 2 ∨ r = 3 ∨ r = 4 := by omega
  have h3 : ([100, 101, 118, 105, 99, 101] : List UInt8).length ≤ 100 := by decide
  have h4 : ([99, 111, 114, 101, 115] : List UInt8).length ≤ 100 := by decide
  rcases hr with rfl | rfl | rfl | rfl | rfl
  · exact leaf0 (D := C2) k1 k2 h3 h4 q2 (hc _ ((test_0 (gB 9 C) (goodA vA vO vP) (goodA cA cO CODES.Ok) vN (valA vA vO vP wv) (valA cA cO CODES.Ok wk) (goodS (tS [100, 101, 118, 105, 99, 101] [99, 111, 114, 101, 115] 2) (tI 2)) (valS (tS [100, 101, 118, 105, 99, 101] [99, 111, 114, 101, 115] 2) (tI 2) w) C D (t1 := (0, C2)) ht5 rfl rfl rfl rfl).trans ((congrArg (fun b => cond b _ _) hg9).trans (by simp only [a5, a4, a2, cond_false, cond_true, hg5, hn4, hn2, hv2, hv3, hz] <;> rfl))))
  · generalize hz2 : valS (tS [100, 101, 118, 105, 99, 101] [99, 111, 114, 101, 115] 2) (tI 2) w (TS0 [100, 101, 118, 105, 99, 101] [99, 111, 114, 101, 115] 2 C2) = z at hzp
    exact leafL (o := .no) k1 k2 h3 h4 hzp (hc (.agg (exC 8 [100, 101, 118, 105, 99, 101] [99, 111, 114, 101, 115] (.sl .no 4 z.1.length (getV z.1))), [codO z.2]) ((test_0 (gB 9 C) (goodA vA vO vP) (goodA cA cO CODES.Ok) vN (valA vA vO vP wv) (valA cA cO CODES.Ok wk) (goodS (tS [100, 101, 118, 105, 99, 101] [99, 111, 114, 101, 115] 2) (tI 2)) (valS (tS [100, 101, 118, 105, 99, 101] [99, 111, 114, 101, 115] 2) (tI 2) w) C D (t1 := (1, C2)) ht5 (t2 := z) (by simp only [a5, cond_false]; exact hz2) rfl rfl rfl).trans ((congrArg (fun b => cond b _ _) hg9).trans (by simp only [a5, a4, a2, cond_false, cond_true, hg5, hn4, hn2, hv2, hv3, hz] <;> rfl))))
  · exact leaf1 (op := 7) (y := valA vA vO vP wv [.ref 1000000 0, .int .i64 2] [codO C2]) k1 k2 h3 h4 hy2 ⟨by omega, by omega, by omega, by omega, by intro h; cases h⟩ (hc _ ((test_0 (gB 9 C) (goodA vA vO vP) (goodA cA cO CODES.Ok) vN (valA vA vO vP wv) (valA cA cO CODES.Ok wk) (goodS (tS [100, 101, 118, 105, 99, 101] [99, 111, 114, 101, 115] 2) (tI 2)) (valS (tS [100, 101, 118, 105, 99, 101] [99, 111, 114, 101, 115] 2) (tI 2) w) C D (t1 := (2, C2)) ht5 rfl rfl rfl rfl).trans ((congrArg (fun b => cond b _ _) hg9).trans (by simp only [a5, a4, a2, cond_false, cond_true, hg5, hn4, hn2, hv2, hv3, hz] <;> rfl))))
  · obtain ⟨p0, p1, p2⟩ := nextR_ok q2 (m := 4) (by omega)
    cases hne : nextR C2 4 with
    | mk u C3 =>
    rw [hne] at p0 p1 p2
    have p0 : 0 ≤ u := p0
    have p1 : u < 4 := p1
    have p2 : C3.Ok := p2
    have htn : vN [.ref 1000000 0, .int .i64 4] [codO C2] = (u, C3) := (vN_eq q2 (by omega)).trans hne
    have hvC : goodA vA vO vP [.ref 1000000 0, .int .i64 2] [codO C3] = true := vA_good (by omega) (by omega) p2
    have hyC : vPost (C3, 2) (valA vA vO vP wv [.ref 1000000 0, .int .i64 2] [codO C3]) := vA_post hwv (by omega) (by omega) p2
    have hwr : IntKind.wrap .i64 (12 + u) = 12 + u := wrap_lit (by omega) (by omega)
    exact leaf1 (op := 12 + u) (y := valA vA vO vP wv [.ref 1000000 0, .int .i64 2] [codO C3]) k1 k2 h3 h4 hyC ⟨by omega, by omega, by omega, by omega, fun h => by rcases (show u = 0 ∨ u = 1 ∨ u = 2 ∨ u = 3 by omega) with rfl | rfl | rfl | rfl <;> cases h⟩ (hc _ ((test_0 (gB 9 C) (goodA vA vO vP) (goodA cA cO CODES.Ok) vN (valA vA vO vP wv) (valA cA cO CODES.Ok wk) (goodS (tS [100, 101, 118, 105, 99, 101] [99, 111, 114, 101, 115] 2) (tI 2)) (valS (tS [100, 101, 118, 105, 99, 101] [99, 111, 114, 101, 115] 2) (tI 2) w) C D (t1 := (3, C2)) ht5 rfl rfl (t4 := (u, C3)) htn rfl).trans ((congrArg (fun b => cond b _ _) hg9).trans (by simp only [a5, a4, a2, cond_false, cond_true, hg5, hn4, hn2, hv2, hv3, hz, hvC, hwr] <;> rfl))))
  · obtain ⟨p0, p1, p2⟩ := nextR_ok q2 (m := 4) (by omega)
    cases hne : nextR C2 4 with
    | mk u C3 =>
    rw [hne] at p0 p1 p2
    have p0 : 0 ≤ u := p0
    have p1 : u < 4 := p1
    have p2 : C3.Ok := p2
    have htn : vN [.ref 1000000 0, .int .i64 4] [codO C2] = (u, C3) := (vN_eq q2 (by omega)).trans hne
    have hvC : goodA vA vO vP [.ref 1000000 0, .int .i64 2] [codO C3] = true := vA_good (by omega) (by omega) p2
    have hyC : vPost (C3, 2) (valA vA vO vP wv [.ref 1000000 0, .int .i64 2] [codO C3]) := vA_post hwv (by omega) (by omega) p2
    have hwr : IntKind.wrap .i64 (12 + u) = 12 + u := wrap_lit (by omega) (by omega)
    exact leaf1 (op := 12 + u) (y := valA vA vO vP wv [.ref 1000000 0, .int .i64 2] [codO C3]) k1 k2 h3 h4 hyC ⟨by omega, by omega, by omega, by omega, fun h => by rcases (show u = 0 ∨ u = 1 ∨ u = 2 ∨ u = 3 by omega) with rfl | rfl | rfl | rfl <;> cases h⟩ (hc _ ((test_0 (gB 9 C) (goodA vA vO vP) (goodA cA cO CODES.Ok) vN (valA vA vO vP wv) (valA cA cO CODES.Ok wk) (goodS (tS [100, 101, 118, 105, 99, 101] [99, 111, 114, 101, 115] 2) (tI 2)) (valS (tS [100, 101, 118, 105, 99, 101] [99, 111, 114, 101, 115] 2) (tI 2) w) C D (t1 := (4, C2)) ht5 rfl rfl (t4 := (u, C3)) htn rfl).trans ((congrArg (fun b => cond b _ _) hg9).trans (by simp only [a5, a4, a2, cond_false, cond_true, hg5, hn4, hn2, hv2, hv3, hz, hvC, hwr] <;> rfl))))
set_option maxHeartbeats 400000 in
set_option maxRecDepth 100000 in
theorem test_ex1 (h9 : nextR C 9 = (1, D)) : ∃ x, tPost x ∧ Ct V2.P V2.G 47 (cA C) (cO C) (φQ x) := by
  have hT := entB_ok (m := 9) (by omega) hC h9
  have k1 : keyB [100, 101, 118, 105, 99, 101] = true := by kernel_rfl
  have k2 : keyB [111, 115] = true := by kernel_rfl
  obtain ⟨w, hw, hl⟩ := test_loop [100, 101, 118, 105, 99, 101] [111, 115] 3 (by omega) (by omega) (gB 9 C) (fun l os => cond (argN 9 l) (1, D) (vN l os)) (fun C' h' => gB_eq h' (by omega) (by omega)) (fun C' h' => by
    show cond (argN 9 [.ref 1000000 0, .int .i64 3]) (1, D) (vN [.ref 1000000 0, .int .i64 3] [codO C']) = _
    rw [argN_ne (by decide)]; exact vN_eq h' (by omega)) wv hwv [entC 104 cA cO CODES.Ok wk φT]
  have hc := fun r he => ct_loops (V := V2) (f := 47) (l := cA C) (os := cO C) (r := r) (n := 9) (d := 3) (T := [entB 9 C (1, D), entC 58 vA vO vP wv φV, entC 104 cA cO CODES.Ok wk φT]) mixed2 funcs2 (tabOk_cons hT (tabOk_cons htv (tabOk_cons htk tabOk_nil))) (loopsOk_cons (hl _) loopsOk_nil) he
  obtain ⟨q0, q1, q2⟩ := nextR_ok hD (m := 5) (by omega)
  cases h5e : nextR D 5 with
  | mk r C2 =>
  rw [h5e] at q0 q1 q2
  have q0 : 0 ≤ r := q0
  have q1 : r < 5 := q1
  have q2 : C2.Ok := q2
  have ht5 : vN [.ref 1000000 0, .int .i64 5] [codO D] = (r, C2) := (vN_eq hD (by omega)).trans h5e
  have a5 : argN 9 [.ref 1000000 0, .int .i64 5] = false := argN_ne (by decide)
  have a4 : argN 9 [.ref 1000000 0, .int .i64 4] = false := argN_ne (by decide)
  have a2 : argN 9 [.ref 1000000 0, .int .i64 2] = false := argN_ne (by decide)
  have hg9 : gB 9 C [.ref 1000000 0, .int .i64 (IntKind.wrap .i64 (((8 : Nat) : Int) + 1))] [codO C] = true := gB_eq (n := 9) hC (by omega) fun _ => rfl
  have hg5 : gB 9 C [.ref 1000000 0, .int .i64 5] [codO D] = true := gB_eq hD (by omega) (by omega)
  have hn4 : gB 9 C [.ref 1000000 0, .int .i64 4] [codO C2] = true := gB_eq q2 (by omega) (by omega)
  have hn2 : gB 9 C [.ref 1000000 0, .int .i64 2] [codO C2] = true := gB_eq q2 (by omega) (by omega)
  have hv2 : goodA vA vO vP [.ref 1000000 0, .int .i64 3] [codO C2] = true := vA_good (by omega) (by omega) q2
  have hv3 : goodA vA vO vP [.ref 1000000 0, .int .i64 3] [codO C2] = true := vA_good (by omega) (by omega) q2
  have hy2 : vPost (C2, 3) (valA vA vO vP wv [.ref 1000000 0, .int .i64 3] [codO C2]) := vA_post hwv (by omega) (by omega) q2
  have hy3 : vPost (C2, 3) (valA vA vO vP wv [.ref 1000000 0, .int .i64 3] [codO C2]) := vA_post hwv (by omega) (by omega) q2
  have hz : goodS (tS [100, 101, 118, 105, 99, 101] [111, 115] 3) (tI 3) (TS0 [100, 101, 118, 105, 99, 101] [111, 115] 3 C2) = true := tS_good [100, 101, 118, 105, 99, 101] [111, 115] 3 q2
  have hzp : tZ 3 (valS (tS [100, 101, 118, 105, 99, 101] [111, 115] 3) (tI 3) w (TS0 [100, 101, 118, 105, 99, 101] [111, 115] 3 C2)) := tS_post [100, 101, 118, 105, 99, 101] [111, 115] 3 hw q2
  have hr : r = 0 ∨ r = 1 ∨ r = 2 ∨ r = 3 ∨ r = 4 := by omega
  have h3 : ([100, 101, 118, 105, 99, 101] : List UInt8).length ≤ 100 := by decide
  have h4 : ([111, 115] : List UInt8).length ≤ 100 := by decide
  rcases hr with rfl | rfl | rfl | rfl | rfl
  · exact leaf0 (D := C2) k1 k2 h3 h4 q2 (hc _ ((test_1 (gB 9 C) (goodA vA vO vP) (goodA cA cO CODES.Ok) vN (valA vA vO vP wv) (valA cA cO CODES.Ok wk) (goodS (tS [100, 101, 118, 105, 99, 101] [111, 115] 3) (tI 3)) (valS (tS [100, 101, 118, 105, 99, 101] [111, 115] 3) (tI 3) w) C D (t1 := (0, C2)) ht5 rfl rfl rfl rfl rfl rfl).trans ((congrArg (fun b => cond b _ _) hg9).trans (by simp only [a5, a4, a2, cond_false, cond_true, hg5, hn4, hn2, hv2, hv3, hz] <;> rfl))))
  · generalize hz2 : valS (tS [100, 101, 118, 105, 99, 101] [111, 115] 3) (tI 3) w (TS0 [100, 101, 118, 105, 99, 101] [111, 115] 3 C2) = z at hzp
    exact leafL (o := .no) k1 k2 h3 h4 hzp (hc (.agg (exC 8 [100, 101, 118, 105, 99, 101] [111, 115] (.sl .no 4 z.1.length (getV z.1))), [codO z.2]) ((test_1 (gB 9 C) (goodA vA vO vP) (goodA cA cO CODES.Ok) vN (valA vA vO vP wv) (valA cA cO CODES.Ok wk) (goodS (tS [100, 101, 118, 105, 99, 101] [111, 115] 3) (tI 3)) (valS (tS [100, 101, 118, 105, 99, 101] [111, 115] 3) (tI 3) w) C D (t1 := (1, C2)) ht5 (t2 := z) (by simp only [a5, cond_false]; exact hz2) rfl rfl rfl rfl rfl).trans ((congrArg (fun b => cond b _ _) hg9).trans (by simp only [a5, a4, a2, cond_false, cond_true, hg5, hn4, hn2, hv2, hv3, hz] <;> rfl))))
  · exact leaf1 (op := 11) (y := valA vA vO vP wv [.ref 1000000 0, .int .i64 3] [codO C2]) k1 k2 h3 h4 hy3 ⟨by omega, by omega, by omega, by omega, fun _ => rfl⟩ (hc _ ((test_1 (gB 9 C) (goodA vA vO vP) (goodA cA cO CODES.Ok) vN (valA vA vO vP wv) (valA cA cO CODES.Ok wk) (goodS (tS [100, 101, 118, 105, 99, 101] [111, 115] 3) (tI 3)) (valS (tS [100, 101, 118, 105, 99, 101] [111, 115] 3) (tI 3) w) C D (t1 := (2, C2)) ht5 rfl rfl rfl rfl rfl rfl).trans ((congrArg (fun b => cond b _ _) hg9).trans (by simp only [a5, a4, a2, cond_false, cond_true, hg5, hn4, hn2, hv2, hv3, hz] <;> rfl))))
  · obtain ⟨p0, p1, p2⟩ := nextR_ok q2 (m := 2) (by omega)
    cases hne : nextR C2 2 with
    | mk u C3 =>
    rw [hne] at p0 p1 p2
    have p0 : 0 ≤ u := p0
    have p1 : u < 2 := p1
    have p2 : C3.Ok := p2
    have htn : vN [.ref 1000000 0, .int .i64 2] [codO C2] = (u, C3) := (vN_eq q2 (by omega)).trans hne
    have hvC : goodA vA vO vP [.ref 1000000 0, .int .i64 3] [codO C3] = true := vA_good (by omega) (by omega) p2
    have hyC : vPost (C3, 3) (valA vA vO vP wv [.ref 1000000 0, .int .i64 3] [codO C3]) := vA_post hwv (by omega) (by omega) p2
    have hwr : IntKind.wrap .i64 (9 + u) = 9 + u := wrap_lit (by omega) (by omega)
    exact leaf1 (op := 9 + u) (y := valA vA vO vP wv [.ref 1000000 0, .int .i64 3] [codO C3]) k1 k2 h3 h4 hyC ⟨by omega, by omega, by omega, by omega, fun _ => rfl⟩ (hc _ ((test_1 (gB 9 C) (goodA vA vO vP) (goodA cA cO CODES.Ok) vN (valA vA vO vP wv) (valA cA cO CODES.Ok wk) (goodS (tS [100, 101, 118, 105, 99, 101] [111, 115] 3) (tI 3)) (valS (tS [100, 101, 118, 105, 99, 101] [111, 115] 3) (tI 3) w) C D (t1 := (3, C2)) ht5 rfl rfl (t4 := (u, C3)) htn rfl rfl rfl).trans ((congrArg (fun b => cond b _ _) hg9).trans (by simp only [a5, a4, a2, cond_false, cond_true, hg5, hn4, hn2, hv2, hv3, hz, hvC, hwr] <;> rfl))))
  · obtain ⟨p0, p1, p2⟩ := nextR_ok q2 (m := 4) (by omega)
    cases hne : nextR C2 4 with
    | mk u C3 =>
    rw [hne] at p0 p1 p2
    have p0 : 0 ≤ u := p0
    have p1 : u < 4 := p1
    have p2 : C3.Ok := p2
    have htn : vN [.ref 1000000 0, .int .i64 4] [codO C2] = (u, C3) := (vN_eq q2 (by omega)).trans hne
    have hvC : goodA vA vO vP [.ref 1000000 0, .int .i64 3] [codO C3] = true := vA_good (by omega) (by omega) p2
    have hyC : vPost (C3, 3) (valA vA vO vP wv [.ref 1000000 0, .int .i64 3] [codO C3]) := vA_post hwv (by omega) (by omega) p2
    have hwr : IntKind.wrap .i64 (12 + u) = 12 + u := wrap_lit (by omega) (by omega)
    exact leaf1 (op := 12 + u) (y := valA vA vO vP wv [.ref 1000000 0, .int .i64 3] [codO C3]) k1 k2 h3 h4 hyC ⟨by omega, by omega, by omega, by omega, fun _ => rfl⟩ (hc _ ((test_1 (gB 9 C) (goodA vA vO vP) (goodA cA cO CODES.Ok) vN (valA vA vO vP wv) (valA cA cO CODES.Ok wk) (goodS (tS [100, 101, 118, 105, 99, 101] [111, 115] 3) (tI 3)) (valS (tS [100, 101, 118, 105, 99, 101] [111, 115] 3) (tI 3) w) C D (t1 := (4, C2)) ht5 rfl rfl rfl rfl (t6 := (u, C3)) htn rfl).trans ((congrArg (fun b => cond b _ _) hg9).trans (by simp only [a5, a4, a2, cond_false, cond_true, hg5, hn4, hn2, hv2, hv3, hz, hvC, hwr] <;> rfl))))
set_option maxHeartbeats 400000 in
set_option maxRecDepth 100000 in
theorem test_ex2 (h9 : nextR C 9 = (2, D)) : ∃ x, tPost x ∧ Ct V2.P V2.G 47 (cA C) (cO C) (φQ x) := by
  have hT := entB_ok (m := 9) (by omega) hC h9
  have k1 : keyB [117, 115, 101, 114] = true := by kernel_rfl
  have k2 : keyB [97, 103, 101] = true := by kernel_rfl
  obtain ⟨w, hw, hl⟩ := test_loop [117, 115, 101, 114] [97, 103, 101] 2 (by omega) (by omega) (gB 9 C) (fun l os => cond (argN 9 l) (2, D) (vN l os)) (fun C' h' => gB_eq h' (by omega) (by omega)) (fun C' h' => by
    show cond (argN 9 [.ref 1000000 0, .int .i64 3]) (2, D) (vN [.ref 1000000 0, .int .i64 3] [codO C']) = _
    rw [argN_ne (by decide)]; exact vN_eq h' (by omega)) wv hwv [entC 104 cA cO CODES.Ok wk φT]
  have hc := fun r he => ct_loops (V := V2) (f := 47) (l := cA C) (os := cO C) (r := r) (n := 9) (d := 3) (T := [entB 9 C (2, D), entC 58 vA vO vP wv φV, entC 104 cA cO CODES.Ok wk φT]) mixed2 funcs2 (tabOk_cons hT (tabOk_cons htv (tabOk_cons htk tabOk_nil))) (loopsOk_cons (hl _) loopsOk_nil) he
  obtain ⟨q0, q1, q2⟩ := nextR_ok hD (m := 5) (by omega)
  cases h5e : nextR D 5 with
  | mk r C2 =>
  rw [h5e] at q0 q1 q2
  have q0 : 0 ≤ r := q0
  have q1 : r < 5 := q1
  have q2 : C2.Ok := q2
  have ht5 : vN [.ref 1000000 0, .int .i64 5] [codO D] = (r, C2) := (vN_eq hD (by omega)).trans h5e
  have a5 : argN 9 [.ref 1000000 0, .int .i64 5] = false := argN_ne (by decide)
  have a4 : argN 9 [.ref 1000000 0, .int .i64 4] = false := argN_ne (by decide)
  have a2 : argN 9 [.ref 1000000 0, .int .i64 2] = false := argN_ne (by decide)
  have hg9 : gB 9 C [.ref 1000000 0, .int .i64 (IntKind.wrap .i64 (((8 : Nat) : Int) + 1))] [codO C] = true := gB_eq (n := 9) hC (by omega) fun _ => rfl
  have hg5 : gB 9 C [.ref 1000000 0, .int .i64 5] [codO D] = true := gB_eq hD (by omega) (by omega)
  have hn4 : gB 9 C [.ref 1000000 0, .int .i64 4] [codO C2] = true := gB_eq q2 (by omega) (by omega)
  have hn2 : gB 9 C [.ref 1000000 0, .int .i64 2] [codO C2] = true := gB_eq q2 (by omega) (by omega)
  have hv2 : goodA vA vO vP [.ref 1000000 0, .int .i64 2] [codO C2] = true := vA_good (by omega) (by omega) q2
  have hv3 : goodA vA vO vP [.ref 1000000 0, .int .i64 3] [codO C2] = true := vA_good (by omega) (by omega) q2
  have hy2 : vPost (C2, 2) (valA vA vO vP wv [.ref 1000000 0, .int .i64 2] [codO C2]) := vA_post hwv (by omega) (by omega) q2
  have hy3 : vPost (C2, 3) (valA vA vO vP wv [.ref 1000000 0, .int .i64 3] [codO C2]) := vA_post hwv (by omega) (by omega) q2
  have hz : goodS (tS [117, 115, 101, 114] [97, 103, 101] 2) (tI 2) (TS0 [117, 115, 101, 114] [97, 103, 101] 2 C2) = true := tS_good [117, 115, 101, 114] [97, 103, 101] 2 q2
  have hzp : tZ 2 (valS (tS [117, 115, 101, 114] [97, 103, 101] 2) (tI 2) w (TS0 [117, 115, 101, 114] [97, 103, 101] 2 C2)) := tS_post [117, 115, 101, 114] [97, 103, 101] 2 hw q2
  have hr : r = 0 ∨ r = 1 ∨ r = 2 ∨ r = 3 ∨ r = 4 := by omega
  have h3 : ([117, 115, 101, 114] : List UInt8).length ≤ 100 := by decide
  have h4 : ([97, 103, 101] : List UInt8).length ≤ 100 := by decide
  rcases hr with rfl | rfl | rfl | rfl | rfl
  · exact leaf0 (D := C2) k1 k2 h3 h4 q2 (hc _ ((test_2 (gB 9 C) (goodA vA vO vP) (goodA cA cO CODES.Ok) vN (valA vA vO vP wv) (valA cA cO CODES.Ok wk) (goodS (tS [117, 115, 101, 114] [97, 103, 101] 2) (tI 2)) (valS (tS [117, 115, 101, 114] [97, 103, 101] 2) (tI 2) w) C D (t1 := (0, C2)) ht5 rfl rfl rfl rfl).trans ((congrArg (fun b => cond b _ _) hg9).trans (by simp only [a5, a4, a2, cond_false, cond_true, hg5, hn4, hn2, hv2, hv3, hz] <;> rfl))))
  · generalize hz2 : valS (tS [117, 115, 101, 114] [97, 103, 101] 2) (tI 2) w (TS0 [117, 115, 101, 114] [97, 103, 101] 2 C2) = z at hzp
    exact leafL (o := .no) k1 k2 h3 h4 hzp (hc (.agg (exC 8 [117, 115, 101, 114] [97, 103, 101] (.sl .no 4 z.1.length (getV z.1))), [codO z.2]) ((test_2 (gB 9 C) (goodA vA vO vP) (goodA cA cO CODES.Ok) vN (valA vA vO vP wv) (valA cA cO CODES.Ok wk) (goodS (tS [117, 115, 101, 114] [97, 103, 101] 2) (tI 2)) (valS (tS [117, 115, 101, 114] [97, 103, 101] 2) (tI 2) w) C D (t1 := (1, C2)) ht5 (t2 := z) (by simp only [a5, cond_false]; exact hz2) rfl rfl rfl).trans ((congrArg (fun b => cond b _ _) hg9).trans (by simp only [a5, a4, a2, cond_false, cond_true, hg5, hn4, hn2, hv2, hv3, hz] <;> rfl))))
  · exact leaf1 (op := 7) (y := valA vA vO vP wv [.ref 1000000 0, .int .i64 2] [codO C2]) k1 k2 h3 h4 hy2 ⟨by omega, by omega, by omega, by omega, by intro h; cases h⟩ (hc _ ((test_2 (gB 9 C) (goodA vA vO vP) (goodA cA cO CODES.Ok) vN (valA vA vO vP wv) (valA cA cO CODES.Ok wk) (goodS (tS [117, 115, 101, 114] [97, 103, 101] 2) (tI 2)) (valS (tS [117, 115, 101, 114] [97, 103, 101] 2) (tI 2) w) C D (t1 := (2, C2)) ht5 rfl rfl rfl rfl).trans ((congrArg (fun b => cond b _ _) hg9).trans (by simp only [a5, a4, a2, cond_false, cond_true, hg5, hn4, hn2, hv2, hv3, hz] <;> rfl))))
  · obtain ⟨p0, p1, p2⟩ := nextR_ok q2 (m := 4) (by omega)
    cases hne : nextR C2 4 with
    | mk u C3 =>
    rw [hne] at p0 p1 p2
    have p0 : 0 ≤ u := p0
    have p1 : u < 4 := p1
    have p2 : C3.Ok := p2
    have htn : vN [.ref 1000000 0, .int .i64 4] [codO C2] = (u, C3) := (vN_eq q2 (by omega)).trans hne
    have hvC : goodA vA vO vP [.ref 1000000 0, .int .i64 2] [codO C3] = true := vA_good (by omega) (by omega) p2
    have hyC : vPost (C3, 2) (valA vA vO vP wv [.ref 1000000 0, .int .i64 2] [codO C3]) := vA_post hwv (by omega) (by omega) p2
    have hwr : IntKind.wrap .i64 (12 + u) = 12 + u := wrap_lit (by omega) (by omega)
    exact leaf1 (op := 12 + u) (y := valA vA vO vP wv [.ref 1000000 0, .int .i64 2] [codO C3]) k1 k2 h3 h4 hyC ⟨by omega, by omega, by omega, by omega, fun h => by rcases (show u = 0 ∨ u = 1 ∨ u = 2 ∨ u = 3 by omega) with rfl | rfl | rfl | rfl <;> cases h⟩ (hc _ ((test_2 (gB 9 C) (goodA vA vO vP) (goodA cA cO CODES.Ok) vN (valA vA vO vP wv) (valA cA cO CODES.Ok wk) (goodS (tS [117, 115, 101, 114] [97, 103, 101] 2) (tI 2)) (valS (tS [117, 115, 101, 114] [97, 103, 101] 2) (tI 2) w) C D (t1 := (3, C2)) ht5 rfl rfl (t4 := (u, C3)) htn rfl).trans ((congrArg (fun b => cond b _ _) hg9).trans (by simp only [a5, a4, a2, cond_false, cond_true, hg5, hn4, hn2, hv2, hv3, hz, hvC, hwr] <;> rfl))))
  · obtain ⟨p0, p1, p2⟩ := nextR_ok q2 (m := 4) (by omega)
    cases hne : nextR C2 4 with
    | mk u C3 =>
    rw [hne] at p0 p1 p2
    have p0 : 0 ≤ u := p0
    have p1 : u < 4 := p1
    have p2 : C3.Ok := p2
    have htn : vN [.ref 1000000 0, .int .i64 4] [codO C2] = (u, C3) := (vN_eq q2 (by omega)).trans hne
    have hvC : goodA vA vO vP [.ref 1000000 0, .int .i64 2] [codO C3] = true := vA_good (by omega) (by omega) p2
    have hyC : vPost (C3, 2) (valA vA vO vP wv [.ref 1000000 0, .int .i64 2] [codO C3]) := vA_post hwv (by omega) (by omega) p2
    have hwr : IntKind.wrap .i64 (12 + u) = 12 + u := wrap_lit (by omega) (by omega)
    exact leaf1 (op := 12 + u) (y := valA vA vO vP wv [.ref 1000000 0, .int .i64 2] [codO C3]) k1 k2 h3 h4 hyC ⟨by omega, by omega, by omega, by omega, fun h => by rcases (show u = 0 ∨ u = 1 ∨ u = 2 ∨ u = 3 by omega) with rfl | rfl | rfl | rfl <;> cases h⟩ (hc _ ((test_2 (gB 9 C) (goodA vA vO vP) (goodA cA cO CODES.Ok) vN (valA vA vO vP wv) (valA cA cO CODES.Ok wk) (goodS (tS [117, 115, 101, 114] [97, 103, 101] 2) (tI 2)) (valS (tS [117, 115, 101, 114] [97, 103, 101] 2) (tI 2) w) C D (t1 := (4, C2)) ht5 rfl rfl (t4 := (u, C3)) htn rfl).trans ((congrArg (fun b => cond b _ _) hg9).trans (by simp only [a5, a4, a2, cond_false, cond_true, hg5, hn4, hn2, hv2, hv3, hz, hvC, hwr] <;> rfl))))
set_option maxHeartbeats 400000 in
set_option maxRecDepth 100000 in
theorem test_ex3 (h9 : nextR C 9 = (3, D)) : ∃ x, tPost x ∧ Ct V2.P V2.G 47 (cA C) (cO C) (φQ x) := by
  have hT := entB_ok (m := 9) (by omega) hC h9
  have k1 : keyB [117, 115, 101, 114] = true := by kernel_rfl
  have k2 : keyB [97, 112, 112] = true := by kernel_rfl
  obtain ⟨w, hw, hl⟩ := test_loop [117, 115, 101, 114] [97, 112, 112] 4 (by omega) (by omega) (gB 9 C) (fun l os => cond (argN 9 l) (3, D) (vN l os)) (fun C' h' => gB_eq h' (by omega) (by omega)) (fun C' h' => by
    show cond (argN 9 [.ref 1000000 0, .int .i64 3]) (3, D) (vN [.ref 1000000 0, .int .i64 3] [codO C']) = _
    rw [argN_ne (by decide)]; exact vN_eq h' (by omega)) wv hwv [entC 104 cA cO CODES.Ok wk φT]
  have hc := fun r he => ct_loops (V := V2) (f := 47) (l := cA C) (os := cO C) (r := r) (n := 9) (d := 3) (T := [entB 9 C (3, D), entC 58 vA vO vP wv φV, entC 104 cA cO CODES.Ok wk φT]) mixed2 funcs2 (tabOk_cons hT (tabOk_cons htv (tabOk_cons htk tabOk_nil))) (loopsOk_cons (hl _) loopsOk_nil) he
  obtain ⟨q0, q1, q2⟩ := nextR_ok hD (m := 5) (by omega)
  cases h5e : nextR D 5 with
  | mk r C2 =>
  rw [h5e] at q0 q1 q2
  have q0 : 0 ≤ r := q0
  have q1 : r < 5 := q1
  have q2 : C2.Ok := q2
  have ht5 : vN [.ref 1000000 0, .int .i64 5] [codO D] = (r, C2) := (vN_eq hD (by omega)).trans h5e
  have a5 : argN 9 [.ref 1000000 0, .int .i64 5] = false := argN_ne (by decide)
  have a4 : argN 9 [.ref 1000000 0, .int .i64 4] = false := argN_ne (by decide)
  have a2 : argN 9 [.ref 1000000 0, .int .i64 2] = false := argN_ne (by decide)
  have hg9 : gB 9 C [.ref 1000000 0, .int .i64 (IntKind.wrap .i64 (((8 : Nat) : Int) + 1))] [codO C] = true := gB_eq (n := 9) hC (by omega) fun _ => rfl
  have hg5 : gB 9 C [.ref 1000000 0, .int .i64 5] [codO D] = true := gB_eq hD (by omega) (by omega)
  have hn4 : gB 9 C [.ref 1000000 0, .int .i64 4] [codO C2] = true := gB_eq q2 (by omega) (by omega)
  have hn2 : gB 9 C [.ref 1000000 0, .int .i64 2] [codO C2] = true := gB_eq q2 (by omega) (by omega)
  have hv2 : goodA vA vO vP [.ref 1000000 0, .int .i64 4] [codO C2] = true := vA_good (by omega) (by omega) q2
  have hv3 : goodA vA vO vP [.ref 1000000 0, .int .i64 3] [codO C2] = true := vA_good (by omega) (by omega) q2
  have hy2 : vPost (C2, 4) (valA vA vO vP wv [.ref 1000000 0, .int .i64 4] [codO C2]) := vA_post hwv (by omega) (by omega) q2
  have hy3 : vPost (C2, 3) (valA vA vO vP wv [.ref 1000000 0, .int .i64 3] [codO C2]) := vA_post hwv (by omega) (by omega) q2
  have hz : goodS (tS [117, 115, 101, 114] [97, 112, 112] 4) (tI 4) (TS0 [117, 115, 101, 114] [97, 112, 112] 4 C2) = true := tS_good [117, 115, 101, 114] [97, 112, 112] 4 q2
  have hzp : tZ 4 (valS (tS [117, 115, 101, 114] [97, 112, 112] 4) (tI 4) w (TS0 [117, 115, 101, 114] [97, 112, 112] 4 C2)) := tS_post [117, 115, 101, 114] [97, 112, 112] 4 hw q2
  have hr : r = 0 ∨ r = 1 ∨ r = 2 ∨ r = 3 ∨ r = 4 := by omega
  have h3 : ([117, 115, 101, 114] : List UInt8).length ≤ 100 := by decide
  have h4 : ([97, 112, 112] : List UInt8).length ≤ 100 := by decide
  rcases hr with rfl | rfl | rfl | rfl | rfl
  · exact leaf0 (D := C2) k1 k2 h3 h4 q2 (hc _ ((test_3 (gB 9 C) (goodA vA vO vP) (goodA cA cO CODES.Ok) vN (valA vA vO vP wv) (valA cA cO CODES.Ok wk) (goodS (tS [117, 115, 101, 114] [97, 112, 112] 4) (tI 4)) (valS (tS [117, 115, 101, 114] [97, 112, 112] 4) (tI 4) w) C D (t1 := (0, C2)) ht5 rfl rfl rfl rfl).trans ((congrArg (fun b => cond b _ _) hg9).trans (by simp only [a5, a4, a2, cond_false, cond_true, hg5, hn4, hn2, hv2, hv3, hz] <;> rfl))))
  · generalize hz2 : valS (tS [117, 115, 101, 114] [97, 112, 112] 4) (tI 4) w (TS0 [117, 115, 101, 114] [97, 112, 112] 4 C2) = z at hzp
    exact leafL (o := .no) k1 k2 h3 h4 hzp (hc (.agg (exC 8 [117, 115, 101, 114] [97, 112, 112] (.sl .no 4 z.1.length (getV z.1))), [codO z.2]) ((test_3 (gB 9 C) (goodA vA vO vP) (goodA cA cO CODES.Ok) vN (valA vA vO vP wv) (valA cA cO CODES.Ok wk) (goodS (tS [117, 115, 101, 114] [97, 112, 112] 4) (tI 4)) (valS (tS [117, 115, 101, 114] [97, 112, 112] 4) (tI 4) w) C D (t1 := (1, C2)) ht5 (t2 := z) (by simp only [a5, cond_false]; exact hz2) rfl rfl rfl).trans ((congrArg (fun b => cond b _ _) hg9).trans (by simp only [a5, a4, a2, cond_false, cond_true, hg5, hn4, hn2, hv2, hv3, hz] <;> rfl))))
  · exact leaf1 (op := 7) (y := valA vA vO vP wv [.ref 1000000 0, .int .i64 4] [codO C2]) k1 k2 h3 h4 hy2 ⟨by omega, by omega, by omega, by omega, by intro h; cases h⟩ (hc _ ((test_3 (gB 9 C) (goodA vA vO vP) (goodA cA cO CODES.Ok) vN (valA vA vO vP wv) (valA cA cO CODES.Ok wk) (goodS (tS [117, 115, 101, 114] [97, 112, 112] 4) (tI 4)) (valS (tS [117, 115, 101, 114] [97, 112, 112] 4) (tI 4) w) C D (t1 := (2, C2)) ht5 rfl rfl rfl rfl).trans ((congrArg (fun b => cond b _ _) hg9).trans (by simp only [a5, a4, a2, cond_false, cond_true, hg5, hn4, hn2, hv2, hv3, hz] <;> rfl))))
  · obtain ⟨p0, p1, p2⟩ := nextR_ok q2 (m := 4) (by omega)
    cases hne : nextR C2 4 with
    | mk u C3 =>
    rw [hne] at p0 p1 p2
    have p0 : 0 ≤ u := p0
    have p1 : u < 4 := p1
    have p2 : C3.Ok := p2
    have htn : vN [.ref 1000000 0, .int .i64 4] [codO C2] = (u, C3) := (vN_eq q2 (by omega)).trans hne
    have hvC : goodA vA vO vP [.ref 1000000 0, .int .i64 4] [codO C3] = true := vA_good (by omega) (by omega) p2
    have hyC : vPost (C3, 4) (valA vA vO vP wv [.ref 1000000 0, .int .i64 4] [codO C3]) := vA_post hwv (by omega) (by omega) p2
    have hwr : IntKind.wrap .i64 (12 + u) = 12 + u := wrap_lit (by omega) (by omega)
    exact leaf1 (op := 12 + u) (y := valA vA vO vP wv [.ref 1000000 0, .int .i64 4] [codO C3]) k1 k2 h3 h4 hyC ⟨by omega, by omega, by omega, by omega, fun h => by rcases (show u = 0 ∨ u = 1 ∨ u = 2 ∨ u = 3 by omega) with rfl | rfl | rfl | rfl <;> cases h⟩ (hc _ ((test_3 (gB 9 C) (goodA vA vO vP) (goodA cA cO CODES.Ok) vN (valA vA vO vP wv) (valA cA cO CODES.Ok wk) (goodS (tS [117, 115, 101, 114] [97, 112, 112] 4) (tI 4)) (valS (tS [117, 115, 101, 114] [97, 112, 112] 4) (tI 4) w) C D (t1 := (3, C2)) ht5 rfl rfl (t4 := (u, C3)) htn rfl).trans ((congrArg (fun b => cond b _ _) hg9).trans (by simp only [a5, a4, a2, cond_false, cond_true, hg5, hn4, hn2, hv2, hv3, hz, hvC, hwr] <;> rfl))))
  · obtain ⟨p0, p1, p2⟩ := nextR_ok q2 (m := 4) (by omega)
    cases hne : nextR C2 4 with
    | mk u C3 =>
    rw [hne] at p0 p1 p2
    have p0 : 0 ≤ u := p0
    have p1 : u < 4 := p1
    have p2 : C3.Ok := p2
    have htn : vN [.ref 1000000 0, .int .i64 4] [codO C2] = (u, C3) := (vN_eq q2 (by omega)).trans hne
    have hvC : goodA vA vO vP [.ref 1000000 0, .int .i64 4] [codO C3] = true := vA_good (by omega) (by omega) p2
    have hyC : vPost (C3, 4) (valA vA vO vP wv [.ref 1000000 0, .int .i64 4] [codO C3]) := vA_post hwv (by omega) (by omega) p2
    have hwr : IntKind.wrap .i64 (12 + u) = 12 + u := wrap_lit (by omega) (by omega)
    exact leaf1 (op := 12 + u) (y := valA vA vO vP wv [.ref 1000000 0, .int .i64 4] [codO C3]) k1 k2 h3 h4 hyC ⟨by omega, by omega, by omega, by omega, fun h => by rcases (show u = 0 ∨ u = 1 ∨ u = 2 ∨ u = 3 by omega) with rfl | rfl | rfl | rfl <;> cases h⟩ (hc _ ((test_3 (gB 9 C) (goodA vA vO vP) (goodA cA cO CODES.Ok) vN (valA vA vO vP wv) (valA cA cO CODES.Ok wk) (goodS (tS [117, 115, 101, 114] [97, 112, 112] 4) (tI 4)) (valS (tS [117, 115, 101, 114] [97, 112, 112] 4) (tI 4) w) C D (t1 := (4, C2)) ht5 rfl rfl (t4 := (u, C3)) htn rfl).trans ((congrArg (fun b => cond b _ _) hg9).trans (by simp only [a5, a4, a2, cond_false, cond_true, hg5, hn4, hn2, hv2, hv3, hz, hvC, hwr] <;> rfl))))
set_option maxHeartbeats 400000 in
set_option maxRecDepth 100000 in
theorem test_ex4 (h9 : nextR C 9 = (4, D)) : ∃ x, tPost x ∧ Ct V2.P V2.G 47 (cA C) (cO C) (φQ x) := by
  have hT := entB_ok (m := 9) (by omega) hC h9
  have k1 : keyB [117, 115, 101, 114] = true := by kernel_rfl
  have k2 : keyB [98, 101, 116, 97] = true := by kernel_rfl
  obtain ⟨w, hw, hl⟩ := test_loop [117, 115, 101, 114] [98, 101, 116, 97] 1 (by omega) (by omega) (gB 9 C) (fun l os => cond (argN 9 l) (4, D) (vN l os)) (fun C' h' => gB_eq h' (by omega) (by omega)) (fun C' h' => by
    show cond (argN 9 [.ref 1000000 0, .int .i64 3]) (4, D) (vN [.ref 1000000 0, .int .i64 3] [codO C']) = _
    rw [argN_ne (by decide)]; exact vN_eq h' (by omega)) wv hwv [entC 104 cA cO CODES.Ok wk φT]
  have hc := fun r he => ct_loops (V := V2) (f := 47) (l := cA C) (os := cO C) (r := r) (n := 9) (d := 3) (T := [entB 9 C (4, D), entC 58 vA vO vP wv φV, entC 104 cA cO CODES.Ok wk φT]) mixed2 funcs2 (tabOk_cons hT (tabOk_cons htv (tabOk_cons htk tabOk_nil))) (loopsOk_cons (hl _) loopsOk_nil) he
  obtain ⟨q0, q1, q2⟩ := nextR_ok hD (m := 5) (by omega)
  cases h5e : nextR D 5 with
  | mk r C2 =>
  rw [h5e] at q0 q1 q2
  have q0 : 0 ≤ r := q0
  have q1 : r < 5 := q1
  have q2 : C2.Ok := q2
  have ht5 : vN [.ref 1000000 0, .int .i64 5] [codO D] = (r, C2) := (vN_eq hD (by omega)).trans h5e
  have a5 : argN 9 [.ref 1000000 0, .int .i64 5] = false := argN_ne (by decide)
  have a4 : argN 9 [.ref 1000000 0, .int .i64 4] = false := argN_ne (by decide)
  have a2 : argN 9 [.ref 1000000 0, .int .i64 2] = false := argN_ne (by decide)
  have hg9 : gB 9 C [.ref 1000000 0, .int .i64 (IntKind.wrap .i64 (((8 : Nat) : Int) + 1))] [codO C] = true := gB_eq (n := 9) hC (by omega) fun _ => rfl
  have hg5 : gB 9 C [.ref 1000000 0, .int .i64 5] [codO D] = true := gB_eq hD (by omega) (by omega)
  have hn4 : gB 9 C [.ref 1000000 0, .int .i64 4] [codO C2] = true := gB_eq q2 (by omega) (by omega)
  have hn2 : gB 9 C [.ref 1000000 0, .int .i64 2] [codO C2] = true := gB_eq q2 (by omega) (by omega)
  have hv2 : goodA vA vO vP [.ref 1000000 0, .int .i64 1] [codO C2] = true := vA_good (by omega) (by omega) q2
  have hv3 : goodA vA vO vP [.ref 1000000 0, .int .i64 3] [codO C2] = true := vA_good (by omega) (by omega) q2
  have hy2 : vPost (C2, 1) (valA vA vO vP wv [.ref 1000000 0, .int .i64 1] [codO C2]) := vA_post hwv (by omega) (by omega) q2
  have hy3 : vPost (C2, 3) (valA vA vO vP wv [.ref 1000000 0, .int .i64 3] [codO C2]) := vA_post hwv (by omega) (by omega) q2
  have hz : goodS (tS [117, 115, 101, 114] [98, 101, 116, 97] 1) (tI 1) (TS0 [117, 115, 101, 114] [98, 101, 116, 97] 1 C2) = true := tS_good [117, 115, 101, 114] [98, 101, 116, 97] 1 q2
  have hzp : tZ 1 (valS (tS [117, 115, 101, 114] [98, 101, 116, 97] 1) (tI 1) w (TS0 [117, 115, 101, 114] [98, 101, 116, 97] 1 C2)) := tS_post [117, 115, 101, 114] [98, 101, 116, 97] 1 hw q2
  have hr : r = 0 ∨ r = 1 ∨ r = 2 ∨ r = 3 ∨ r = 4 := by omega
  have h3 : ([117, 115, 101, 114] : List UInt8).length ≤ 100 := by decide
  have h4 : ([98, 101, 116, 97] : List UInt8).length ≤ 100 := by decide
  rcases hr with rfl | rfl | rfl | rfl | rfl
  · exact leaf0 (D := C2) k1 k2 h3 h4 q2 (hc _ ((test_4 (gB 9 C) (goodA vA vO vP) (goodA cA cO CODES.Ok) vN (valA vA vO vP wv) (valA cA cO CODES.Ok wk) (goodS (tS [117, 115, 101, 114] [98, 101, 116, 97] 1) (tI 1)) (valS (tS [117, 115, 101, 114] [98, 101, 116, 97] 1) (tI 1) w) C D (t1 := (0, C2)) ht5 rfl rfl).trans ((congrArg (fun b => cond b _ _) hg9).trans (by simp only [a5, a4, a2, cond_false, cond_true, hg5, hn4, hn2, hv2, hv3, hz] <;> rfl))))
  · generalize hz2 : valS (tS [117, 115, 101, 114] [98, 101, 116, 97] 1) (tI 1) w (TS0 [117, 115, 101, 114] [98, 101, 116, 97] 1 C2) = z at hzp
    exact leafL (o := .no) k1 k2 h3 h4 hzp (hc (.agg (exC 8 [117, 115, 101, 114] [98, 101, 116, 97] (.sl .no 4 z.1.length (getV z.1))), [codO z.2]) ((test_4 (gB 9 C) (goodA vA vO vP) (goodA cA cO CODES.Ok) vN (valA vA vO vP wv) (valA cA cO CODES.Ok wk) (goodS (tS [117, 115, 101, 114] [98, 101, 116, 97] 1) (tI 1)) (valS (tS [117, 115, 101, 114] [98, 101, 116, 97] 1) (tI 1) w) C D (t1 := (1, C2)) ht5 (t2 := z) (by simp only [a5, cond_false]; exact hz2) rfl).trans ((congrArg (fun b => cond b _ _) hg9).trans (by simp only [a5, a4, a2, cond_false, cond_true, hg5, hn4, hn2, hv2, hv3, hz] <;> rfl))))
  · exact leaf1 (op := 7) (y := valA vA vO vP wv [.ref 1000000 0, .int .i64 1] [codO C2]) k1 k2 h3 h4 hy2 ⟨by omega, by omega, by omega, by omega, by intro h; cases h⟩ (hc _ ((test_4 (gB 9 C) (goodA vA vO vP) (goodA cA cO CODES.Ok) vN (valA vA vO vP wv) (valA cA cO CODES.Ok wk) (goodS (tS [117, 115, 101, 114] [98, 101, 116, 97] 1) (tI 1)) (valS (tS [117, 115, 101, 114] [98, 101, 116, 97] 1) (tI 1) w) C D (t1 := (2, C2)) ht5 rfl rfl).trans ((congrArg (fun b => cond b _ _) hg9).trans (by simp only [a5, a4, a2, cond_false, cond_true, hg5, hn4, hn2, hv2, hv3, hz] <;> rfl))))
  · exact leaf1 (op := 7) (y := valA vA vO vP wv [.ref 1000000 0, .int .i64 1] [codO C2]) k1 k2 h3 h4 hy2 ⟨by omega, by omega, by omega, by omega, by intro h; cases h⟩ (hc _ ((test_4 (gB 9 C) (goodA vA vO vP) (goodA cA cO CODES.Ok) vN (valA vA vO vP wv) (valA cA cO CODES.Ok wk) (goodS (tS [117, 115, 101, 114] [98, 101, 116, 97] 1) (tI 1)) (valS (tS [117, 115, 101, 114] [98, 101, 116, 97] 1) (tI 1) w) C D (t1 := (3, C2)) ht5 rfl rfl).trans ((congrArg (fun b => cond b _ _) hg9).trans (by simp only [a5, a4, a2, cond_false, cond_true, hg5, hn4, hn2, hv2, hv3, hz] <;> rfl))))
  · exact leaf1 (op := 7) (y := valA vA vO vP wv [.ref 1000000 0, .int .i64 1] [codO C2]) k1 k2 h3 h4 hy2 ⟨by omega, by omega, by omega, by omega, by intro h; cases h⟩ (hc _ ((test_4 (gB 9 C) (goodA vA vO vP) (goodA cA cO CODES.Ok) vN (valA vA vO vP wv) (valA cA cO CODES.Ok wk) (goodS (tS [117, 115, 101, 114] [98, 101, 116, 97] 1) (tI 1)) (valS (tS [117, 115, 101, 114] [98, 101, 116, 97] 1) (tI 1) w) C D (t1 := (4, C2)) ht5 rfl rfl).trans ((congrArg (fun b => cond b _ _) hg9).trans (by simp only [a5, a4, a2, cond_false, cond_true, hg5, hn4, hn2, hv2, hv3, hz] <;> rfl))))
set_option maxHeartbeats 400000 in
set_option maxRecDepth 100000 in
theorem test_ex5 (h9 : nextR C 9 = (5, D)) : ∃ x, tPost x ∧ Ct V2.P V2.G 47 (cA C) (cO C) (φQ x) := by
  have hT := entB_ok (m := 9) (by omega) hC h9
  have k1 : keyB [117, 115, 101, 114] = true := by kernel_rfl
  have k2 : keyB [99, 111, 117, 110, 116, 114, 121] = true := by kernel_rfl
  obtain ⟨w, hw, hl⟩ := test_loop [117, 115, 101, 114] [99, 111, 117, 110, 116, 114, 121] 3 (by omega) (by omega) (gB 9 C) (fun l os => cond (argN 9 l) (5, D) (vN l os)) (fun C' h' => gB_eq h' (by omega) (by omega)) (fun C' h' => by
    show cond (argN 9 [.ref 1000000 0, .int .i64 3]) (5, D) (vN [.ref 1000000 0, .int .i64 3] [codO C']) = _
    rw [argN_ne (by decide)]; exact vN_eq h' (by omega)) wv hwv [entC 104 cA cO CODES.Ok wk φT]
  have hc := fun r he => ct_loops (V := V2) (f := 47) (l := cA C) (os := cO C) (r := r) (n := 9) (d := 3) (T := [entB 9 C (5, D), entC 58 vA vO vP wv φV, entC 104 cA cO CODES.Ok wk φT]) mixed2 funcs2 (tabOk_cons hT (tabOk_cons htv (tabOk_cons htk tabOk_nil))) (loopsOk_cons (hl _) loopsOk_nil) he
  obtain ⟨q0, q1, q2⟩ := nextR_ok hD (m := 5) (by omega)
  cases h5e : nextR D 5 with
  | mk r C2 =>
  rw [h5e] at q0 q1 q2
  have q0 : 0 ≤ r := q0
  have q1 : r < 5 := q1
  have q2 : C2.Ok := q2
  have ht5 : vN [.ref 1000000 0, .int .i64 5] [codO D] = (r, C2) := (vN_eq hD (by omega)).trans h5e
  have a5 : argN 9 [.ref 1000000 0, .int .i64 5] = false := argN_ne (by decide)
  have a4 : argN 9 [.ref 1000000 0, .int .i64 4] = false := argN_ne (by decide)
  have a2 : argN 9 [.ref 1000000 0, .int .i64 2] = false := argN_ne (by decide)
  have hg9 : gB 9 C [.ref 1000000 0, .int .i64 (IntKind.wrap .i64 (((8 : Nat) : Int) + 1))] [codO C] = true := gB_eq (n := 9) hC (by omega) fun _ => rfl
  have hg5 : gB 9 C [.ref 1000000 0, .int .i64 5] [codO D] = true := gB_eq hD (by omega) (by omega)
  have hn4 : gB 9 C [.ref 1000000 0, .int .i64 4] [codO C2] = true := gB_eq q2 (by omega) (by omega)
  have hn2 : gB 9 C [.ref 1000000 0, .int .i64 2] [codO C2] = true := gB_eq q2 (by omega) (by omega)
  have hv2 : goodA vA vO vP [.ref 1000000 0, .int .i64 3] [codO C2] = true := vA_good (by omega) (by omega) q2
  have hv3 : goodA vA vO vP [.ref 1000000 0, .int .i64 3] [codO C2] = true := vA_good (by omega) (by omega) q2
  have hy2 : vPost (C2, 3) (valA vA vO vP wv [.ref 1000000 0, .int .i64 3] [codO C2]) := vA_post hwv (by omega) (by omega) q2
  have hy3 : vPost (C2, 3) (valA vA vO vP wv [.ref 1000000 0, .int .i64 3] [codO C2]) := vA_post hwv (by omega) (by omega) q2
  have hz : goodS (tS [117, 115, 101, 114] [99, 111, 117, 110, 116, 114, 121] 3) (tI 3) (TS0 [117, 115, 101, 114] [99, 111, 117, 110, 116, 114, 121] 3 C2) = true := tS_good [117, 115, 101, 114] [99, 111, 117, 110, 116, 114, 121] 3 q2
  have hzp : tZ 3 (valS (tS [117, 115, 101, 114] [99, 111, 117, 110, 116, 114, 121] 3) (tI 3) w (TS0 [117, 115, 101, 114] [99, 111, 117, 110, 116, 114, 121] 3 C2)) := tS_post [117, 115, 101, 114] [99, 111, 117, 110, 116, 114, 121] 3 hw q2
  have hr : r = 0 ∨ r = 1 ∨ r = 2 ∨ r = 3 ∨ r = 4 := by omega
  have h3 : ([117, 115, 101, 114] : List UInt8).length ≤ 100 := by decide
  have h4 : ([99, 111, 117, 110, 116, 114, 121] : List UInt8).length ≤ 100 := by decide
  rcases hr with rfl | rfl | rfl | rfl | rfl
  · exact leaf0 (D := C2) k1 k2 h3 h4 q2 (hc _ ((test_5 (gB 9 C) (goodA vA vO vP) (goodA cA cO CODES.Ok) vN (valA vA vO vP wv) (valA cA cO CODES.Ok wk) (goodS (tS [117, 115, 101, 114] [99, 111, 117, 110, 116, 114, 121] 3) (tI 3)) (valS (tS [117, 115, 101, 114] [99, 111, 117, 110, 116, 114, 121] 3) (tI 3) w) C D (t1 := (0, C2)) ht5 rfl rfl rfl rfl rfl rfl).trans ((congrArg (fun b => cond b _ _) hg9).trans (by simp only [a5, a4, a2, cond_false, cond_true, hg5, hn4, hn2, hv2, hv3, hz] <;> rfl))))
  · generalize hz2 : valS (tS [117, 115, 101, 114] [99, 111, 117, 110, 116, 114, 121] 3) (tI 3) w (TS0 [117, 115, 101, 114] [99, 111, 117, 110, 116, 114, 121] 3 C2) = z at hzp
    exact leafL (o := .no) k1 k2 h3 h4 hzp (hc (.agg (exC 8 [117, 115, 101, 114] [99, 111, 117, 110, 116, 114, 121] (.sl .no 4 z.1.length (getV z.1))), [codO z.2]) ((test_5 (gB 9 C) (goodA vA vO vP) (goodA cA cO CODES.Ok) vN (valA vA vO vP wv) (valA cA cO CODES.Ok wk) (goodS (tS [117, 115, 101, 114] [99, 111, 117, 110, 116, 114, 121] 3) (tI 3)) (valS (tS [117, 115, 101, 114] [99, 111, 117, 110, 116, 114, 121] 3) (tI 3) w) C D (t1 := (1, C2)) ht5 (t2 := z) (by simp only [a5, cond_false]; exact hz2) rfl rfl rfl rfl rfl).trans ((congrArg (fun b => cond b _ _) hg9).trans (by simp only [a5, a4, a2, cond_false, cond_true, hg5, hn4, hn2, hv2, hv3, hz] <;> rfl))))
  · exact leaf1 (op := 11) (y := valA vA vO vP wv [.ref 1000000 0, .int .i64 3] [codO C2]) k1 k2 h3 h4 hy3 ⟨by omega, by omega, by omega, by omega, fun _ => rfl⟩ (hc _ ((test_5 (gB 9 C) (goodA vA vO vP) (goodA cA cO CODES.Ok) vN (valA vA vO vP wv) (valA cA cO CODES.Ok wk) (goodS (tS [117, 115, 101, 114] [99, 111, 117, 110, 116, 114, 121] 3) (tI 3)) (valS (tS [117, 115, 101, 114] [99, 111, 117, 110, 116, 114, 121] 3) (tI 3) w) C D (t1 := (2, C2)) ht5 rfl rfl rfl rfl rfl rfl).trans ((congrArg (fun b => cond b _ _) hg9).trans (by simp only [a5, a4, a2, cond_false, cond_true, hg5, hn4, hn2, hv2, hv3, hz] <;> rfl))))
  · obtain ⟨p0, p1, p2⟩ := nextR_ok q2 (m := 2) (by omega)
    cases hne : nextR C2 2 with
    | mk u C3 =>
    rw [hne] at p0 p1 p2
    have p0 : 0 ≤ u := p0
    have p1 : u < 2 := p1
    have p2 : C3.Ok := p2
    have htn : vN [.ref 1000000 0, .int .i64 2] [codO C2] = (u, C3) := (vN_eq q2 (by omega)).trans hne
    have hvC : goodA vA vO vP [.ref 1000000 0, .int .i64 3] [codO C3] = true := vA_good (by omega) (by omega) p2
    have hyC : vPost (C3, 3) (valA vA vO vP wv [.ref 1000000 0, .int .i64 3] [codO C3]) := vA_post hwv (by omega) (by omega) p2
    have hwr : IntKind.wrap .i64 (9 + u) = 9 + u := wrap_lit (by omega) (by omega)
    exact leaf1 (op := 9 + u) (y := valA vA vO vP wv [.ref 1000000 0, .int .i64 3] [codO C3]) k1 k2 h3 h4 hyC ⟨by omega, by omega, by omega, by omega, fun _ => rfl⟩ (hc _ ((test_5 (gB 9 C) (goodA vA vO vP) (goodA cA cO CODES.Ok) vN (valA vA vO vP wv) (valA cA cO CODES.Ok wk) (goodS (tS [117, 115, 101, 114] [99, 111, 117, 110, 116, 114, 121] 3) (tI 3)) (valS (tS [117, 115, 101, 114] [99, 111, 117, 110, 116, 114, 121] 3) (tI 3) w) C D (t1 := (3, C2)) ht5 rfl rfl (t4 := (u, C3)) htn rfl rfl rfl).trans ((congrArg (fun b => cond b _ _) hg9).trans (by simp only [a5, a4, a2, cond_false, cond_true, hg5, hn4, hn2, hv2, hv3, hz, hvC, hwr] <;> rfl))))
  · obtain ⟨p0, p1, p2⟩ := nextR_ok q2 (m := 4) (by omega)
    cases hne : nextR C2 4 with
    | mk u C3 =>
    rw [hne] at p0 p1 p2
    have p0 : 0 ≤ u := p0
    have p1 : u < 4 := p1
    have p2 : C3.Ok := p2
    have htn : vN [.ref 1000000 0, .int .i64 4] [codO C2] = (u, C3) := (vN_eq q2 (by omega)).trans hne
    have hvC : goodA vA vO vP [.ref 1000000 0, .int .i64 3] [codO C3] = true := vA_good (by omega) (by omega) p2
    have hyC : vPost (C3, 3) (valA vA vO vP wv [.ref 1000000 0, .int .i64 3] [codO C3]) := vA_post hwv (by omega) (by omega) p2
    have hwr : IntKind.wrap .i64 (12 + u) = 12 + u := wrap_lit (by omega) (by omega)
    exact leaf1 (op := 12 + u) (y := valA vA vO vP wv [.ref 1000000 0, .int .i64 3] [codO C3]) k1 k2 h3 h4 hyC ⟨by omega, by omega, by omega, by omega, fun _ => rfl⟩ (hc _ ((test_5 (gB 9 C) (goodA vA vO vP) (goodA cA cO CODES.Ok) vN (valA vA vO vP wv) (valA cA cO CODES.Ok wk) (goodS (tS [117, 115, 101, 114] [99, 111, 117, 110, 116, 114, 121] 3) (tI 3)) (valS (tS [117, 115, 101, 114] [99, 111, 117, 110, 116, 114, 121] 3) (tI 3) w) C D (t1 := (4, C2)) ht5 rfl rfl rfl rfl (t6 := (u, C3)) htn rfl).trans ((congrArg (fun b => cond b _ _) hg9).trans (by simp only [a5, a4, a2, cond_false, cond_true, hg5, hn4, hn2, hv2, hv3, hz, hvC, hwr] <;> rfl))))
set_option maxHeartbeats 400000 in
set_option maxRecDepth 100000 in
theorem test_ex6 (h9 : nextR C 9 = (6, D)) : ∃ x, tPost x ∧ Ct V2.P V2.G 47 (cA C) (cO C) (φQ x) := by
  have hT := entB_ok (m := 9) (by omega) hC h9
  have k1 : keyB [117, 115, 101, 114] = true := by kernel_rfl
  have k2 : keyB [112, 108, 97, 110] = true := by kernel_rfl
  obtain ⟨w, hw, hl⟩ := test_loop [117, 115, 101, 114] [112, 108, 97, 110] 3 (by omega) (by omega) (gB 9 C) (fun l os => cond (argN 9 l) (6, D) (vN l os)) (fun C' h' => gB_eq h' (by omega) (by omega)) (fun C' h' => by
    show cond (argN 9 [.ref 1000000 0, .int .i64 3]) (6, D) (vN [.ref 1000000 0, .int .i64 3] [codO C']) = _
    rw [argN_ne (by decide)]; exact vN_eq h' (by omega)) wv hwv [entC 104 cA cO CODES.Ok wk φT]
  have hc := fun r he => ct_loops (V := V2) (f := 47) (l := cA C) (os := cO C) (r := r) (n := 9) (d := 3) (T := [entB 9 C (6, D), entC 58 vA vO vP wv φV, entC 104 cA cO CODES.Ok wk φT]) mixed2 funcs2 (tabOk_cons hT (tabOk_cons htv (tabOk_cons htk tabOk_nil))) (loopsOk_cons (hl _) loopsOk_nil) he
  obtain ⟨q0, q1, q2⟩ := nextR_ok hD (m := 5) (by omega)
  cases h5e : nextR D 5 with
  | mk r C2 =>
  rw [h5e] at q0 q1 q2
  have q0 : 0 ≤ r := q0
  have q1 : r < 5 := q1
  have q2 : C2.Ok := q2
  have ht5 : vN [.ref 1000000 0, .int .i64 5] [codO D] = (r, C2) := (vN_eq hD (by omega)).trans h5e
  have a5 : argN 9 [.ref 1000000 0, .int .i64 5] = false := argN_ne (by decide)
  have a4 : argN 9 [.ref 1000000 0, .int .i64 4] = false := argN_ne (by decide)
  have a2 : argN 9 [.ref 1000000 0, .int .i64 2] = false := argN_ne (by decide)
  have hg9 : gB 9 C [.ref 1000000 0, .int .i64 (IntKind.wrap .i64 (((8 : Nat) : Int) + 1))] [codO C] = true := gB_eq (n := 9) hC (by omega) fun _ => rfl
  have hg5 : gB 9 C [.ref 1000000 0, .int .i64 5] [codO D] = true := gB_eq hD (by omega) (by omega)
  have hn4 : gB 9 C [.ref 1000000 0, .int .i64 4] [codO C2] = true := gB_eq q2 (by omega) (by omega)
  have hn2 : gB 9 C [.ref 1000000 0, .int .i64 2] [codO C2] = true := gB_eq q2 (by omega) (by omega)
  have hv2 : goodA vA vO vP [.ref 1000000 0, .int .i64 3] [codO C2] = true := vA_good (by omega) (by omega) q2
  have hv3 : goodA vA vO vP [.ref 1000000 0, .int .i64 3] [codO C2] = true := vA_good (by omega) (by omega) q2
  have hy2 : vPost (C2, 3) (valA vA vO vP wv [.ref 1000000 0, .int .i64 3] [codO C2]) := vA_post hwv (by omega) (by omega) q2
  have hy3 : vPost (C2, 3) (valA vA vO vP wv [.ref 1000000 0, .int .i64 3] [codO C2]) := vA_post hwv (by omega) (by omega) q2
  have hz : goodS (tS [117, 115, 101, 114] [112, 108, 97, 110] 3) (tI 3) (TS0 [117, 115, 101, 114] [112, 108, 97, 110] 3 C2) = true := tS_good [117, 115, 101, 114] [112, 108, 97, 110] 3 q2
  have hzp : tZ 3 (valS (tS [117, 115, 101, 114] [112, 108, 97, 110] 3) (tI 3) w (TS0 [117, 115, 101, 114] [112, 108, 97, 110] 3 C2)) := tS_post [117, 115, 101, 114] [112, 108, 97, 110] 3 hw q2
  have hr : r = 0 ∨ r = 1 ∨ r = 2 ∨ r = 3 ∨ r = 4 := by omega
  have h3 : ([117, 115, 101, 114] : List UInt8).length ≤ 100 := by decide
  have h4 : ([112, 108, 97, 110] : List UInt8).length ≤ 100 := by decide
  rcases hr with rfl | rfl | rfl | rfl | rfl
  · exact leaf0 (D := C2) k1 k2 h3 h4 q2 (hc _ ((test_6 (gB 9 C) (goodA vA vO vP) (goodA cA cO CODES.Ok) vN (valA vA vO vP wv) (valA cA cO CODES.Ok wk) (goodS (tS [117, 115, 101, 114] [112, 108, 97, 110] 3) (tI 3)) (valS (tS [117, 115, 101, 114] [112, 108, 97, 110] 3) (tI 3) w) C D (t1 := (0, C2)) ht5 rfl rfl rfl rfl rfl rfl).trans ((congrArg (fun b => cond b _ _) hg9).trans (by simp only [a5, a4, a2, cond_false, cond_true, hg5, hn4, hn2, hv2, hv3, hz] <;> rfl))))
  · generalize hz2 : valS (tS [117, 115, 101, 114] [112, 108, 97, 110] 3) (tI 3) w (TS0 [117, 115, 101, 114] [112, 108, 97, 110] 3 C2) = z at hzp
    exact leafL (o := .no) k1 k2 h3 h4 hzp (hc (.agg (exC 8 [117, 115, 101, 114] [112, 108, 97, 110] (.sl .no 4 z.1.length (getV z.1))), [codO z.2]) ((test_6 (gB 9 C) (goodA vA vO vP) (goodA cA cO CODES.Ok) vN (valA vA vO vP wv) (valA cA cO CODES.Ok wk) (goodS (tS [117, 115, 101, 114] [112, 108, 97, 110] 3) (tI 3)) (valS (tS [117, 115, 101, 114] [112, 108, 97, 110] 3) (tI 3) w) C D (t1 := (1, C2)) ht5 (t2 := z) (by simp only [a5, cond_false]; exact hz2) rfl rfl rfl rfl rfl).trans ((congrArg (fun b => cond b _ _) hg9).trans (by simp only [a5, a4, a2, cond_false, cond_true, hg5, hn4, hn2, hv2, hv3, hz] <;> rfl))))
  · exact leaf1 (op := 11) (y := valA vA vO vP wv [.ref 1000000 0, .int .i64 3] [codO C2]) k1 k2 h3 h4 hy3 ⟨by omega, by omega, by omega, by omega, fun _ => rfl⟩ (hc _ ((test_6 (gB 9 C) (goodA vA vO vP) (goodA cA cO CODES.Ok) vN (valA vA vO vP wv) (valA cA cO CODES.Ok wk) (goodS (tS [117, 115, 101, 114] [112, 108, 97, 110] 3) (tI 3)) (valS (tS [117, 115, 101, 114] [112, 108, 97, 110] 3) (tI 3) w) C D (t1 := (2, C2)) ht5 rfl rfl rfl rfl rfl rfl).trans ((congrArg (fun b => cond b _ _) hg9).trans (by simp only [a5, a4, a2, cond_false, cond_true, hg5, hn4, hn2, hv2, hv3, hz] <;> rfl))))
  · obtain ⟨p0, p1, p2⟩ := nextR_ok q2 (m := 2) (by omega)
    cases hne : nextR C2 2 with
    | mk u C3 =>
    rw [hne] at p0 p1 p2
    have p0 : 0 ≤ u := p0
    have p1 : u < 2 := p1
    have p2 : C3.Ok := p2
    have htn : vN [.ref 1000000 0, .int .i64 2] [codO C2] = (u, C3) := (vN_eq q2 (by omega)).trans hne
    have hvC : goodA vA vO vP [.ref 1000000 0, .int .i64 3] [codO C3] = true := vA_good (by omega) (by omega) p2
    have hyC : vPost (C3, 3) (valA vA vO vP wv [.ref 1000000 0, .int .i64 3] [codO C3]) := vA_post hwv (by omega) (by omega) p2
    have hwr : IntKind.wrap .i64 (9 + u) = 9 + u := wrap_lit (by omega) (by omega)
    exact leaf1 (op := 9 + u) (y := valA vA vO vP wv [.ref 1000000 0, .int .i64 3] [codO C3]) k1 k2 h3 h4 hyC ⟨by omega, by omega, by omega, by omega, fun _ => rfl⟩ (hc _ ((test_6 (gB 9 C) (goodA vA vO vP) (goodA cA cO CODES.Ok) vN (valA vA vO vP wv) (valA cA cO CODES.Ok wk) (goodS (tS [117, 115, 101, 114] [112, 108, 97, 110] 3) (tI 3)) (valS (tS [117, 115, 101, 114] [112, 108, 97, 110] 3) (tI 3) w) C D (t1 := (3, C2)) ht5 rfl rfl (t4 := (u, C3)) htn rfl rfl rfl).trans ((congrArg (fun b => cond b _ _) hg9).trans (by simp only [a5, a4, a2, cond_false, cond_true, hg5, hn4, hn2, hv2, hv3, hz, hvC, hwr] <;> rfl))))
  · obtain ⟨p0, p1, p2⟩ := nextR_ok q2 (m := 4) (by omega)
    cases hne : nextR C2 4 with
    | mk u C3 =>
    rw [hne] at p0 p1 p2
    have p0 : 0 ≤ u := p0
    have p1 : u < 4 := p1
    have p2 : C3.Ok := p2
    have htn : vN [.ref 1000000 0, .int .i64 4] [codO C2] = (u, C3) := (vN_eq q2 (by omega)).trans hne
    have hvC : goodA vA vO vP [.ref 1000000 0, .int .i64 3] [codO C3] = true := vA_good (by omega) (by omega) p2
    have hyC : vPost (C3, 3) (valA vA vO vP wv [.ref 1000000 0, .int .i64 3] [codO C3]) := vA_post hwv (by omega) (by omega) p2
    have hwr : IntKind.wrap .i64 (12 + u) = 12 + u := wrap_lit (by omega) (by omega)
    exact leaf1 (op := 12 + u) (y := valA vA vO vP wv [.ref 1000000 0, .int .i64 3] [codO C3]) k1 k2 h3 h4 hyC ⟨by omega, by omega, by omega, by omega, fun _ => rfl⟩ (hc _ ((test_6 (gB 9 C) (goodA vA vO vP) (goodA cA cO CODES.Ok) vN (valA vA vO vP wv) (valA cA cO CODES.Ok wk) (goodS (tS [117, 115, 101, 114] [112, 108, 97, 110] 3) (tI 3)) (valS (tS [117, 115, 101, 114] [112, 108, 97, 110] 3) (tI 3) w) C D (t1 := (4, C2)) ht5 rfl rfl rfl rfl (t6 := (u, C3)) htn rfl).trans ((congrArg (fun b => cond b _ _) hg9).trans (by simp only [a5, a4, a2, cond_false, cond_true, hg5, hn4, hn2, hv2, hv3, hz, hvC, hwr] <;> rfl))))
set_option maxHeartbeats 400000 in
set_option maxRecDepth 100000 in
theorem test_ex7 (h9 : nextR C 9 = (7, D)) : ∃ x, tPost x ∧ Ct V2.P V2.G 47 (cA C) (cO C) (φQ x) := by
  have hT := entB_ok (m := 9) (by omega) hC h9
  have k1 : keyB [117, 115, 101, 114] = true := by kernel_rfl
  have k2 : keyB [116, 97, 103, 115] = true := by kernel_rfl
  obtain ⟨w, hw, hl⟩ := test_loop [117, 115, 101, 114] [116, 97, 103, 115] 5 (by omega) (by omega) (gB 9 C) (fun l os => cond (argN 9 l) (7, D) (vN l os)) (fun C' h' => gB_eq h' (by omega) (by omega)) (fun C' h' => by
    show cond (argN 9 [.ref 1000000 0, .int .i64 3]) (7, D) (vN [.ref 1000000 0, .int .i64 3] [codO C']) = _
    rw [argN_ne (by decide)]; exact vN_eq h' (by omega)) wv hwv [entC 104 cA cO CODES.Ok wk φT]
  have hc := fun r he => ct_loops (V := V2) (f := 47) (l := cA C) (os := cO C) (r := r) (n := 9) (d := 3) (T := [entB 9 C (7, D), entC 58 vA vO vP wv φV, entC 104 cA cO CODES.Ok wk φT]) mixed2 funcs2 (tabOk_cons hT (tabOk_cons htv (tabOk_cons htk tabOk_nil))) (loopsOk_cons (hl _) loopsOk_nil) he
  obtain ⟨q0, q1, q2⟩ := nextR_ok hD (m := 5) (by omega)
  cases h5e : nextR D 5 with
  | mk r C2 =>
  rw [h5e] at q0 q1 q2
  have q0 : 0 ≤ r := q0
  have q1 : r < 5 := q1
  have q2 : C2.Ok := q2
  have ht5 : vN [.ref 1000000 0, .int .i64 5] [codO D] = (r, C2) := (vN_eq hD (by omega)).trans h5e
  have a5 : argN 9 [.ref 1000000 0, .int .i64 5] = false := argN_ne (by decide)
  have a4 : argN 9 [.ref 1000000 0, .int .i64 4] = false := argN_ne (by decide)
  have a2 : argN 9 [.ref 1000000 0, .int .i64 2] = false := argN_ne (by decide)
  have hg9 : gB 9 C [.ref 1000000 0, .int .i64 (IntKind.wrap .i64 (((8 : Nat) : Int) + 1))] [codO C] = true := gB_eq (n := 9) hC (by omega) fun _ => rfl
  have hg5 : gB 9 C [.ref 1000000 0, .int .i64 5] [codO D] = true := gB_eq hD (by omega) (by omega)
  have hn4 : gB 9 C [.ref 1000000 0, .int .i64 4] [codO C2] = true := gB_eq q2 (by omega) (by omega)
  have hn2 : gB 9 C [.ref 1000000 0, .int .i64 2] [codO C2] = true := gB_eq q2 (by omega) (by omega)
  have hv2 : goodA vA vO vP [.ref 1000000 0, .int .i64 5] [codO C2] = true := vA_good (by omega) (by omega) q2
  have hv3 : goodA vA vO vP [.ref 1000000 0, .int .i64 3] [codO C2] = true := vA_good (by omega) (by omega) q2
  have hy2 : vPost (C2, 5) (valA vA vO vP wv [.ref 1000000 0, .int .i64 5] [codO C2]) := vA_post hwv (by omega) (by omega) q2
  have hy3 : vPost (C2, 3) (valA vA vO vP wv [.ref 1000000 0, .int .i64 3] [codO C2]) := vA_post hwv (by omega) (by omega) q2
  have hz : goodS (tS [117, 115, 101, 114] [116, 97, 103, 115] 5) (tI 5) (TS0 [117, 115, 101, 114] [116, 97, 103, 115] 5 C2) = true := tS_good [117, 115, 101, 114] [116, 97, 103, 115] 5 q2
  have hzp : tZ 5 (valS (tS [117, 115, 101, 114] [116, 97, 103, 115] 5) (tI 5) w (TS0 [117, 115, 101, 114] [116, 97, 103, 115] 5 C2)) := tS_post [117, 115, 101, 114] [116, 97, 103, 115] 5 hw q2
  have hr : r = 0 ∨ r = 1 ∨ r = 2 ∨ r = 3 ∨ r = 4 := by omega
  have h3 : ([117, 115, 101, 114] : List UInt8).length ≤ 100 := by decide
  have h4 : ([116, 97, 103, 115] : List UInt8).length ≤ 100 := by decide
  rcases hr with rfl | rfl | rfl | rfl | rfl
  · exact leaf0 (D := C2) k1 k2 h3 h4 q2 (hc _ ((test_7 (gB 9 C) (goodA vA vO vP) (goodA cA cO CODES.Ok) vN (valA vA vO vP wv) (valA cA cO CODES.Ok wk) (goodS (tS [117, 115, 101, 114] [116, 97, 103, 115] 5) (tI 5)) (valS (tS [117, 115, 101, 114] [116, 97, 103, 115] 5) (tI 5) w) C D (t1 := (0, C2)) ht5 rfl rfl).trans ((congrArg (fun b => cond b _ _) hg9).trans (by simp only [a5, a4, a2, cond_false, cond_true, hg5, hn4, hn2, hv2, hv3, hz] <;> rfl))))
  · exact leaf1 (op := 7) (y := valA vA vO vP wv [.ref 1000000 0, .int .i64 5] [codO C2]) k1 k2 h3 h4 hy2 ⟨by omega, by omega, by omega, by omega, by intro h; cases h⟩ (hc _ ((test_7 (gB 9 C) (goodA vA vO vP) (goodA cA cO CODES.Ok) vN (valA vA vO vP wv) (valA cA cO CODES.Ok wk) (goodS (tS [117, 115, 101, 114] [116, 97, 103, 115] 5) (tI 5)) (valS (tS [117, 115, 101, 114] [116, 97, 103, 115] 5) (tI 5) w) C D (t1 := (1, C2)) ht5 rfl rfl).trans ((congrArg (fun b => cond b _ _) hg9).trans (by simp only [a5, a4, a2, cond_false, cond_true, hg5, hn4, hn2, hv2, hv3, hz] <;> rfl))))
  · exact leaf1 (op := 11) (y := valA vA vO vP wv [.ref 1000000 0, .int .i64 3] [codO C2]) k1 k2 h3 h4 hy3 ⟨by omega, by omega, by omega, by omega, fun _ => rfl⟩ (hc _ ((test_7 (gB 9 C) (goodA vA vO vP) (goodA cA cO CODES.Ok) vN (valA vA vO vP wv) (valA cA cO CODES.Ok wk) (goodS (tS [117, 115, 101, 114] [116, 97, 103, 115] 5) (tI 5)) (valS (tS [117, 115, 101, 114] [116, 97, 103, 115] 5) (tI 5) w) C D (t1 := (2, C2)) ht5 rfl rfl).trans ((congrArg (fun b => cond b _ _) hg9).trans (by simp only [a5, a4, a2, cond_false, cond_true, hg5, hn4, hn2, hv2, hv3, hz] <;> rfl))))
  · exact leaf1 (op := 7) (y := valA vA vO vP wv [.ref 1000000 0, .int .i64 5] [codO C2]) k1 k2 h3 h4 hy2 ⟨by omega, by omega, by omega, by omega, by intro h; cases h⟩ (hc _ ((test_7 (gB 9 C) (goodA vA vO vP) (goodA cA cO CODES.Ok) vN (valA vA vO vP wv) (valA cA cO CODES.Ok wk) (goodS (tS [117, 115, 101, 114] [116, 97, 103, 115] 5) (tI 5)) (valS (tS [117, 115, 101, 114] [116, 97, 103, 115] 5) (tI 5) w) C D (t1 := (3, C2)) ht5 rfl rfl).trans ((congrArg (fun b => cond b _ _) hg9).trans (by simp only [a5, a4, a2, cond_false, cond_true, hg5, hn4, hn2, hv2, hv3, hz] <;> rfl))))
  · exact leaf1 (op := 7) (y := valA vA vO vP wv [.ref 1000000 0, .int .i64 5] [codO C2]) k1 k2 h3 h4 hy2 ⟨by omega, by omega, by omega, by omega, by intro h; cases h⟩ (hc _ ((test_7 (gB 9 C) (goodA vA vO vP) (goodA cA cO CODES.Ok) vN (valA vA vO vP wv) (valA cA cO CODES.Ok wk) (goodS (tS [117, 115, 101, 114] [116, 97, 103, 115] 5) (tI 5)) (valS (tS [117, 115, 101, 114] [116, 97, 103, 115] 5) (tI 5) w) C D (t1 := (4, C2)) ht5 rfl rfl).trans ((congrArg (fun b => cond b _ _) hg9).trans (by simp only [a5, a4, a2, cond_false, cond_true, hg5, hn4, hn2, hv2, hv3, hz] <;> rfl))))
end
end Go.SH

namespace Go.SH
open Go Go.Ab Go.Proofs
set_option linter.unusedVariables false
set_option linter.unusedSimpArgs false
theorem key_cells (s : List UInt8) : ∀ j, j < [(⟨3, 0, s, []⟩ : VAL)].length → ∀ (i : Nat) (u u' : AV), (fillGet zV [(0, .agg [.int .i64 3, .int .i64 0, .str s, .sl .fit 0 0 fun _ => []])] j)[i]? = some u → (([(⟨3, 0, s, []⟩ : VAL)].getD j default).c)[i]? = some u' → u'.one = true ∧ ∀ c x, Rep c u x → Rep c u' x := fun j hj i u u' hu hu' => by
  match j, hj with
  | 0, _ =>
    have hu : [AV.int .i64 3, .int .i64 0, .str s, .sl .fit 0 0 fun _ => []][i]? = some u := hu
    match i with
    | 0 => simp only [List.getElem?_cons_zero, Option.some.injEq] at hu; subst hu; have hu' : some (AV.int .i64 3) = some u' := hu'; simp only [Option.some.injEq] at hu'; subst hu'; exact ⟨rfl, fun _ _ h => h⟩
    | 1 => simp only [List.getElem?_cons_succ, List.getElem?_cons_zero, Option.some.injEq] at hu; subst hu; have hu' : some (AV.int .i64 0) = some u' := hu'; simp only [Option.some.injEq] at hu'; subst hu'; exact ⟨rfl, fun _ _ h => h⟩
    | 2 => simp only [List.getElem?_cons_succ, List.getElem?_cons_zero, Option.some.injEq] at hu; subst hu; have hu' : some (AV.str s) = some u' := hu'; simp only [Option.some.injEq] at hu'; subst hu'; exact ⟨rfl, fun _ _ h => h⟩
    | 3 => simp only [List.getElem?_cons_succ, List.getElem?_cons_zero, Option.some.injEq] at hu; subst hu; have hu' : some (strsA []) = some u' := hu'; simp only [Option.some.injEq] at hu'; subst hu'; exact ⟨rfl, fun _ => sl_fit⟩
    | i + 4 => simp at hu
section
variable {C D : CODES} (hC : C.Ok) (hD : D.Ok) {wv : CODES × Int → VAL × CODES} (hwv : ∀ a, vP a → vPost a (wv a)) (htv : ∀ l os, (entC 58 vA vO vP wv φV).pre l os = true → Ct V2.P V2.G (entC 58 vA vO vP wv φV).f l os ((entC 58 vA vO vP wv φV).ans l os))
  {wk : CODES → List UInt8 × CODES} (hwk : ∀ C, C.Ok → (wk C).1 ∈ keysL10 ∧ (wk C).2.Ok) (htk : ∀ l os, (entC 104 cA cO CODES.Ok wk φT).pre l os = true → Ct V2.P V2.G (entC 104 cA cO CODES.Ok wk φT).f l os ((entC 104 cA cO CODES.Ok wk φT).ans l os))
include hC hD hwv htv hwk htk
set_option maxHeartbeats 400000 in
set_option maxRecDepth 100000 in
theorem test_ex8 (h9 : nextR C 9 = (8, D)) : ∃ x, tPost x ∧ Ct V2.P V2.G 47 (cA C) (cO C) (φQ x) := by
  have hT := entB_ok (m := 9) (by omega) hC h9
  have k1 : keyB [117, 115, 101, 114] = true := by kernel_rfl
  have k2 : keyB [107, 101, 121] = true := by kernel_rfl
  obtain ⟨w, hw, hl⟩ := test_loop [] [] 2 (by omega) (by omega) (gB 9 C) (fun l os => cond (argN 9 l) (8, D) (vN l os)) (fun C' h' => gB_eq h' (by omega) (by omega)) (fun C' h' => by
    show cond (argN 9 [.ref 1000000 0, .int .i64 3]) (8, D) (vN [.ref 1000000 0, .int .i64 3] [codO C']) = _
    rw [argN_ne (by decide)]; exact vN_eq h' (by omega)) wv hwv [entC 104 cA cO CODES.Ok wk φT]
  have hc := fun r he => ct_loops (V := V2) (f := 47) (l := cA C) (os := cO C) (r := r) (n := 9) (d := 3) (T := [entB 9 C (8, D), entC 58 vA vO vP wv φV, entC 104 cA cO CODES.Ok wk φT]) mixed2 funcs2 (tabOk_cons hT (tabOk_cons htv (tabOk_cons htk tabOk_nil))) (loopsOk_cons (hl _) loopsOk_nil) he
  have hg9 : gB 9 C [.ref 1000000 0, .int .i64 (IntKind.wrap .i64 (((8 : Nat) : Int) + 1))] [codO C] = true := gB_eq (n := 9) hC (by omega) fun _ => rfl
  have hgk : goodA cA cO CODES.Ok [.ref 1000000 0] [codO D] = true := goodA_eq (A := cA) (O := cO) (v := D) hD
  have hvk : (valA cA cO CODES.Ok wk [.ref 1000000 0] [codO D]).1 ∈ keysL10 ∧ (valA cA cO CODES.Ok wk [.ref 1000000 0] [codO D]).2.Ok := valA_post (A := cA) (O := cO) (Post := fun (_ : CODES) (x : List UInt8 × CODES) => x.1 ∈ keysL10 ∧ x.2.Ok) hwk (fun a b x _ _ hx => hx) hD
  generalize hy : valA cA cO CODES.Ok wk [.ref 1000000 0] [codO D] = y at hvk
  obtain ⟨v1, v2⟩ := hvk
  obtain ⟨g1, g2, g3⟩ := keys_good _ v1
  have e1 := hc (.agg (exC 7 [117, 115, 101, 114] [107, 101, 121] (.sl .fit 4 1 (fillGet zV [(0, .agg [.int .i64 3, .int .i64 0, .str y.1, .sl .fit 0 0 fun _ => []])]))), [codO y.2]) ((test_8 (gB 9 C) (goodA vA vO vP) (goodA cA cO CODES.Ok) vN (valA vA vO vP wv) (valA cA cO CODES.Ok wk) (goodS (tS [] [] 2) (tI 2)) (valS (tS [] [] 2) (tI 2) w) C D (t1 := y) hy).trans ((congrArg (fun b => cond b _ _) hg9).trans ((congrArg (fun b => cond b _ _) hgk).trans rfl)))
  exact ⟨(.mk 7 [117, 115, 101, 114] [107, 101, 121] [⟨3, 0, y.1, []⟩] [], y.2), ⟨⟨part_test (by omega) (by omega) k1 k2 (by intro v hv; simp at hv; subst hv; exact g2) (by simp) rfl (by intro h; cases h), rfl, .mk _ (by show 4 ≤ maxS; unfold maxS; omega) (by show 3 ≤ maxS; unfold maxS; omega) ⟨by show 1 ≤ _; omega, by intro v hv; have : v ∈ [(⟨3, 0, y.1, []⟩ : VAL)] := hv; simp at this; subst this; exact g3⟩ (by show 0 ≤ _; omega) (by intro v hv; cases hv)⟩, v2⟩, test_ct (l := [⟨3, 0, y.1, []⟩]) (key_cells y.1) e1⟩
end
theorem test_ex (C : CODES) (hC : C.Ok) : ∃ x, tPost x ∧ Ct V2.P V2.G 47 (cA C) (cO C) (φQ x) := by
  obtain ⟨wv, hwv, htv⟩ := ent_ex (V := V2) (f := 58) (A := vA) (O := vO) (Pre := vP) (φ := φV) (Post := vPost) value_ex
  obtain ⟨wk, hwk, htk⟩ := ent_ex (V := V2) (f := 104) (A := cA) (O := cO) (Pre := CODES.Ok) (φ := φT) (Post := fun (_ : CODES) (x : List UInt8 × CODES) => x.1 ∈ keysL10 ∧ x.2.Ok) key_ex
  obtain ⟨h0, h1, h2⟩ := nextR_ok hC (m := 9) (by omega)
  cases h9 : nextR C 9 with
  | mk r D =>
  rw [h9] at h0 h1 h2
  have h0 : 0 ≤ r := h0
  have h1 : r < 9 := h1
  have hr : r = 0 ∨ r = 1 ∨ r = 2 ∨ r = 3 ∨ r = 4 ∨ r = 5 ∨ r = 6 ∨ r = 7 ∨ r = 8 := by omega
  rcases hr with rfl | rfl | rfl | rfl | rfl | rfl | rfl | rfl | rfl
  · exact test_ex0 hC h2 hwv htv hwk htk h9
  · exact test_ex1 hC h2 hwv htv hwk htk h9
  · exact test_ex2 hC h2 hwv htv hwk htk h9
  · exact test_ex3 hC h2 hwv htv hwk htk h9
  · exact test_ex4 hC h2 hwv htv hwk htk h9
  · exact test_ex5 hC h2 hwv htv hwk htk h9
  · exact test_ex6 hC h2 hwv htv hwk htk h9
  · exact test_ex7 hC h2 hwv htv hwk htk h9
  · exact test_ex8 hC h2 hwv htv hwk htk h9
end Go.SH

namespace Go.SH
open Go Go.Ab Go.Proofs
set_option linter.unusedVariables false
set_option linter.unusedSimpArgs false
def getR (l : List (Int × Int × Int)) (j : Nat) : List AV := rngC (l.getD j (0, 0, 0))
def SS0 (k : Int) (C : CODES) : St := { env := [(0, .ref keyBase 0), (1, .int .i64 k), (5, .sl (.key 46) 3 0 fun _ => rngC (0, 0, 0)), (6, .int .i64 0), (7, .int .i64 0), (8, .int .i64 0)], objs := [(keyBase, codO C), (46, .own 3 0)] }
def SS (k at' last : Int) (m : Nat) (get : Nat → List AV) (C : CODES) (i : Int) : St := { env := [(0, .ref keyBase 0), (1, .int .i64 k), (5, .sl (.key 46) 3 m get), (6, .int .i64 at'), (7, .int .i64 last), (8, .int .i64 i)], objs := [(46, .own 3 m), (keyBase, codO C)] }
def SE (k at' last : Int) (m : Nat) (get : Nat → List AV) (C : CODES) : St := { env := [(0, .ref keyBase 0), (1, .int .i64 k), (5, .sl (.key 46) 3 m get), (6, .int .i64 at'), (7, .int .i64 last)], objs := [(46, .own 3 m), (keyBase, codO C)] }
structure SY where
  b : Bool
  l : List (Int × Int × Int)
  q : Nat
  a : Int
  v : Int
  C : CODES
instance : Inhabited SY := ⟨⟨true, [], 0, 0, 0, default⟩⟩
def outS (n : Int) (y : SY) (k : Ex → St → Res) : Res := cond y.b (k (.exit 0) (SE n 0 0 0 (fun _ => rngC (0, 0, 0)) y.C)) (k (.exit 0) (SE n y.a y.v (y.q + 1) (getR y.l) y.C))
def φRg (x : List (Int × Int × Int) × CODES) : AV × List AO := (rngL x.1, [codO x.2])
def K28 (l : List (Int × Int × Int)) (b : Int) (i : Nat) : St := { env := [(0, rngL l), (1, .int .i64 b), (5, .int .i64 i)], objs := [] }
set_option maxRecDepth 100000 in
theorem wide_m (ge : List AV → List AO → Bool) (ve : List AV → List AO → Int × CODES) (C : CODES) (m : Int) {t1 : Int × CODES} (h_t1 : ve [.ref 1000000 0, .int .i64 256] [codO C] = t1) {t2 : Int × CODES} (h_t2 : ve [.ref 1000000 0, .int .i64 256] [codO (Prod.snd t1)] = t2) : runF (V2.run [mkE 19 ge ve φX] 3 [] [] [] 22) 9 22 [.ref keyBase 0, .int .i64 m] [codO C] =
  cond (ge [.ref 1000000 0, .int .i64 256] [codO C]) (cond (ge [.ref 1000000 0, .int .i64 256] [codO (Prod.snd t1)]) (cond (m != 0) (some ((.int .i64 (Int.tmod (IntKind.wrap IntKind.i64 (IntKind.wrap IntKind.i64 (256 * Prod.fst t1) + Prod.fst t2)) m), [codO (Prod.snd t2)]))) (none)) (none)) (none) := by subst h_t2 h_t1; kernel_rfl
set_option maxRecDepth 100000 in
theorem number_0 (ge : List AV → List AO → Bool) (C D : CODES)  : runF (V2.run [mkE 19 ge (fun _ _ => (0, D)) φX] 3 [] [] [] 51) 9 51 [.ref keyBase 0] [codO C] =
  cond (ge [.ref 1000000 0, .int .i64 (↑15 : Int)] [codO C]) (some ((.int .i64 0, [codO D]))) (none) := by kernel_rfl
set_option maxRecDepth 100000 in
theorem number_1 (ge : List AV → List AO → Bool) (C D : CODES)  : runF (V2.run [mkE 19 ge (fun _ _ => (1, D)) φX] 3 [] [] [] 51) 9 51 [.ref keyBase 0] [codO C] =
  cond (ge [.ref 1000000 0, .int .i64 (↑15 : Int)] [codO C]) (some ((.int .i64 (-1), [codO D]))) (none) := by kernel_rfl
set_option maxRecDepth 100000 in
theorem number_2 (ge : List AV → List AO → Bool) (C D : CODES)  : runF (V2.run [mkE 19 ge (fun _ _ => (2, D)) φX] 3 [] [] [] 51) 9 51 [.ref keyBase 0] [codO C] =
  cond (ge [.ref 1000000 0, .int .i64 (↑15 : Int)] [codO C]) (some ((.int .i64 1, [codO D]))) (none) := by kernel_rfl
set_option maxRecDepth 100000 in
theorem number_3 (ge : List AV → List AO → Bool) (C D : CODES)  : runF (V2.run [mkE 19 ge (fun _ _ => (3, D)) φX] 3 [] [] [] 51) 9 51 [.ref keyBase 0] [codO C] =
  cond (ge [.ref 1000000 0, .int .i64 (↑15 : Int)] [codO C]) (some ((.int .i64 2, [codO D]))) (none) := by kernel_rfl
set_option maxRecDepth 100000 in
theorem number_4 (ge : List AV → List AO → Bool) (C D : CODES)  : runF (V2.run [mkE 19 ge (fun _ _ => (4, D)) φX] 3 [] [] [] 51) 9 51 [.ref keyBase 0] [codO C] =
  cond (ge [.ref 1000000 0, .int .i64 (↑15 : Int)] [codO C]) (some ((.int .i64 8, [codO D]))) (none) := by kernel_rfl
set_option maxRecDepth 100000 in
theorem number_5 (ge : List AV → List AO → Bool) (C D : CODES)  : runF (V2.run [mkE 19 ge (fun _ _ => (5, D)) φX] 3 [] [] [] 51) 9 51 [.ref keyBase 0] [codO C] =
  cond (ge [.ref 1000000 0, .int .i64 (↑15 : Int)] [codO C]) (some ((.int .i64 9, [codO D]))) (none) := by kernel_rfl
set_option maxRecDepth 100000 in
theorem number_6 (ge : List AV → List AO → Bool) (C D : CODES)  : runF (V2.run [mkE 19 ge (fun _ _ => (6, D)) φX] 3 [] [] [] 51) 9 51 [.ref keyBase 0] [codO C] =
  cond (ge [.ref 1000000 0, .int .i64 (↑15 : Int)] [codO C]) (some ((.int .i64 10000, [codO D]))) (none) := by kernel_rfl
set_option maxRecDepth 100000 in
theorem number_7 (ge : List AV → List AO → Bool) (C D : CODES)  : runF (V2.run [mkE 19 ge (fun _ _ => (7, D)) φX] 3 [] [] [] 51) 9 51 [.ref keyBase 0] [codO C] =
  cond (ge [.ref 1000000 0, .int .i64 (↑15 : Int)] [codO C]) (some ((.int .i64 10001, [codO D]))) (none) := by kernel_rfl
set_option maxRecDepth 100000 in
theorem number_8 (ge : List AV → List AO → Bool) (C D : CODES)  : runF (V2.run [mkE 19 ge (fun _ _ => (8, D)) φX] 3 [] [] [] 51) 9 51 [.ref keyBase 0] [codO C] =
  cond (ge [.ref 1000000 0, .int .i64 (↑15 : Int)] [codO C]) (some ((.int .i64 1099511627776, [codO D]))) (none) := by kernel_rfl
set_option maxRecDepth 100000 in
theorem number_9 (ge : List AV → List AO → Bool) (C D : CODES)  : runF (V2.run [mkE 19 ge (fun _ _ => (9, D)) φX] 3 [] [] [] 51) 9 51 [.ref keyBase 0] [codO C] =
  cond (ge [.ref 1000000 0, .int .i64 (↑15 : Int)] [codO C]) (some ((.int .i64 1099511627777, [codO D]))) (none) := by kernel_rfl
set_option maxRecDepth 100000 in
theorem number_10 (ge : List AV → List AO → Bool) (C D : CODES)  : runF (V2.run [mkE 19 ge (fun _ _ => (10, D)) φX] 3 [] [] [] 51) 9 51 [.ref keyBase 0] [codO C] =
  cond (ge [.ref 1000000 0, .int .i64 (↑15 : Int)] [codO C]) (some ((.int .i64 (-1099511627777), [codO D]))) (none) := by kernel_rfl
set_option maxRecDepth 100000 in
theorem number_11 (ge : List AV → List AO → Bool) (C D : CODES)  : runF (V2.run [mkE 19 ge (fun _ _ => (11, D)) φX] 3 [] [] [] 51) 9 51 [.ref keyBase 0] [codO C] =
  cond (ge [.ref 1000000 0, .int .i64 (↑15 : Int)] [codO C]) (some ((.int .i64 1099511627777, [codO D]))) (none) := by kernel_rfl
set_option maxRecDepth 100000 in
theorem number_12 (ge : List AV → List AO → Bool) (C D : CODES)  : runF (V2.run [mkE 19 ge (fun _ _ => (12, D)) φX] 3 [] [] [] 51) 9 51 [.ref keyBase 0] [codO C] =
  cond (ge [.ref 1000000 0, .int .i64 (↑15 : Int)] [codO C]) (some ((.int .i64 4, [codO D]))) (none) := by kernel_rfl
set_option maxRecDepth 100000 in
theorem number_13 (ge : List AV → List AO → Bool) (C D : CODES)  : runF (V2.run [mkE 19 ge (fun _ _ => (13, D)) φX] 3 [] [] [] 51) 9 51 [.ref keyBase 0] [codO C] =
  cond (ge [.ref 1000000 0, .int .i64 (↑15 : Int)] [codO C]) (some ((.int .i64 5, [codO D]))) (none) := by kernel_rfl
set_option maxRecDepth 100000 in
theorem number_14 (ge : List AV → List AO → Bool) (C D : CODES)  : runF (V2.run [mkE 19 ge (fun _ _ => (14, D)) φX] 3 [] [] [] 51) 9 51 [.ref keyBase 0] [codO C] =
  cond (ge [.ref 1000000 0, .int .i64 (↑15 : Int)] [codO C]) (some ((.int .i64 6, [codO D]))) (none) := by kernel_rfl
set_option maxRecDepth 100000 in
theorem name_0 (ge : List AV → List AO → Bool) (C D : CODES)  : runF (V2.run [mkE 19 ge (fun _ _ => (0, D)) φX] 3 [] [] [] 50) 9 50 [.ref keyBase 0] [codO C] =
  cond (ge [.ref 1000000 0, .int .i64 (↑15 : Int)] [codO C]) (some ((.str [], [codO D]))) (none) := by kernel_rfl
set_option maxRecDepth 100000 in
theorem name_1 (ge : List AV → List AO → Bool) (C D : CODES)  : runF (V2.run [mkE 19 ge (fun _ _ => (1, D)) φX] 3 [] [] [] 50) 9 50 [.ref keyBase 0] [codO C] =
  cond (ge [.ref 1000000 0, .int .i64 (↑15 : Int)] [codO C]) (some ((.str [66, 97, 100], [codO D]))) (none) := by kernel_rfl
set_option maxRecDepth 100000 in
theorem name_2 (ge : List AV → List AO → Bool) (C D : CODES)  : runF (V2.run [mkE 19 ge (fun _ _ => (2, D)) φX] 3 [] [] [] 50) 9 50 [.ref keyBase 0] [codO C] =
  cond (ge [.ref 1000000 0, .int .i64 (↑15 : Int)] [codO C]) (some ((.str [57, 97], [codO D]))) (none) := by kernel_rfl
set_option maxRecDepth 100000 in
theorem name_3 (ge : List AV → List AO → Bool) (C D : CODES)  : runF (V2.run [mkE 19 ge (fun _ _ => (3, D)) φX] 3 [] [] [] 50) 9 50 [.ref keyBase 0] [codO C] =
  cond (ge [.ref 1000000 0, .int .i64 (↑15 : Int)] [codO C]) (some ((.str [111, 110], [codO D]))) (none) := by kernel_rfl
set_option maxRecDepth 100000 in
theorem name_4 (ge : List AV → List AO → Bool) (C D : CODES)  : runF (V2.run [mkE 19 ge (fun _ _ => (4, D)) φX] 3 [] [] [] 50) 9 50 [.ref keyBase 0] [codO C] =
  cond (ge [.ref 1000000 0, .int .i64 (↑15 : Int)] [codO C]) (some ((.str [107, 101, 121], [codO D]))) (none) := by kernel_rfl
set_option maxRecDepth 100000 in
theorem name_5 (ge : List AV → List AO → Bool) (C D : CODES)  : runF (V2.run [mkE 19 ge (fun _ _ => (5, D)) φX] 3 [] [] [] 50) 9 50 [.ref keyBase 0] [codO C] =
  cond (ge [.ref 1000000 0, .int .i64 (↑15 : Int)] [codO C]) (some ((.str [122, 122], [codO D]))) (none) := by kernel_rfl
set_option maxRecDepth 100000 in
theorem name_6 (ge : List AV → List AO → Bool) (C D : CODES)  : runF (V2.run [mkE 19 ge (fun _ _ => (6, D)) φX] 3 [] [] [] 50) 9 50 [.ref keyBase 0] [codO C] =
  cond (ge [.ref 1000000 0, .int .i64 (↑15 : Int)] [codO C]) (some ((.str [97], [codO D]))) (none) := by kernel_rfl
set_option maxRecDepth 100000 in
theorem name_7 (ge : List AV → List AO → Bool) (C D : CODES)  : runF (V2.run [mkE 19 ge (fun _ _ => (7, D)) φX] 3 [] [] [] 50) 9 50 [.ref keyBase 0] [codO C] =
  cond (ge [.ref 1000000 0, .int .i64 (↑15 : Int)] [codO C]) (some ((.str [97, 108, 112, 104, 97], [codO D]))) (none) := by kernel_rfl
set_option maxRecDepth 100000 in
theorem name_8 (ge : List AV → List AO → Bool) (C D : CODES)  : runF (V2.run [mkE 19 ge (fun _ _ => (8, D)) φX] 3 [] [] [] 50) 9 50 [.ref keyBase 0] [codO C] =
  cond (ge [.ref 1000000 0, .int .i64 (↑15 : Int)] [codO C]) (some ((.str [102, 97], [codO D]))) (none) := by kernel_rfl
set_option maxRecDepth 100000 in
theorem name_9 (ge : List AV → List AO → Bool) (C D : CODES)  : runF (V2.run [mkE 19 ge (fun _ _ => (9, D)) φX] 3 [] [] [] 50) 9 50 [.ref keyBase 0] [codO C] =
  cond (ge [.ref 1000000 0, .int .i64 (↑15 : Int)] [codO C]) (some ((.str [102, 98], [codO D]))) (none) := by kernel_rfl
set_option maxRecDepth 100000 in
theorem name_10 (ge : List AV → List AO → Bool) (C D : CODES)  : runF (V2.run [mkE 19 ge (fun _ _ => (10, D)) φX] 3 [] [] [] 50) 9 50 [.ref keyBase 0] [codO C] =
  cond (ge [.ref 1000000 0, .int .i64 (↑15 : Int)] [codO C]) (some ((.str [108, 97], [codO D]))) (none) := by kernel_rfl
set_option maxRecDepth 100000 in
theorem name_11 (ge : List AV → List AO → Bool) (C D : CODES)  : runF (V2.run [mkE 19 ge (fun _ _ => (11, D)) φX] 3 [] [] [] 50) 9 50 [.ref keyBase 0] [codO C] =
  cond (ge [.ref 1000000 0, .int .i64 (↑15 : Int)] [codO C]) (some ((.str [120, 97], [codO D]))) (none) := by kernel_rfl
set_option maxRecDepth 100000 in
theorem name_12 (ge : List AV → List AO → Bool) (C D : CODES)  : runF (V2.run [mkE 19 ge (fun _ _ => (12, D)) φX] 3 [] [] [] 50) 9 50 [.ref keyBase 0] [codO C] =
  cond (ge [.ref 1000000 0, .int .i64 (↑15 : Int)] [codO C]) (some ((.str [97, 98, 99, 100, 101, 102, 103, 104, 105, 106, 107, 108, 109, 110, 111, 112, 113, 114, 115, 116, 117, 118, 119, 120, 121, 122, 48, 49, 50, 51, 52, 53, 54], [codO D]))) (none) := by kernel_rfl
set_option maxRecDepth 100000 in
theorem name_13 (ge : List AV → List AO → Bool) (C D : CODES)  : runF (V2.run [mkE 19 ge (fun _ _ => (13, D)) φX] 3 [] [] [] 50) 9 50 [.ref keyBase 0] [codO C] =
  cond (ge [.ref 1000000 0, .int .i64 (↑15 : Int)] [codO C]) (some ((.str [117, 115, 101, 114], [codO D]))) (none) := by kernel_rfl
set_option maxRecDepth 100000 in
theorem name_14 (ge : List AV → List AO → Bool) (C D : CODES)  : runF (V2.run [mkE 19 ge (fun _ _ => (14, D)) φX] 3 [] [] [] 50) 9 50 [.ref keyBase 0] [codO C] =
  cond (ge [.ref 1000000 0, .int .i64 (↑15 : Int)] [codO C]) (some ((.str [97, 46, 98], [codO D]))) (none) := by kernel_rfl
set_option maxRecDepth 100000 in
theorem dsp_r0 (ge gw : List AV → List AO → Bool) (ve vw : List AV → List AO → Int × CODES) (L : List (List Nat × Orc)) (m : Nat) (n : Int) (C : CODES) (kn : St → Res) (k : Ex → St → Res) {t1 : Int × CODES} (h_t1 : ve [.ref 1000000 0, .int .i64 4] [codO C] = t1) {t2 : Int × CODES} (h_t2 : vw [.ref 1000000 0, .int .i64 5000] [codO (Prod.snd t1)] = t2) {t3 : Int × CODES} (h_t3 : ve [.ref 1000000 0, .int .i64 n] [codO (Prod.snd t2)] = t3) : roundR (V2.run [mkE 19 ge ve φX, mkE 22 gw vw φX] 3 [] L [] 20) 20 m [1, 1, 1, 0, 1, 0] (SS0 n C) kn k =
  cond (ge [.ref 1000000 0, .int .i64 4] [codO C]) (cond (bif decide (0 < Prod.fst t1) then decide (n > 1) else false) (cond (gw [.ref 1000000 0, .int .i64 5000] [codO (Prod.snd t1)]) (cond (ge [.ref 1000000 0, .int .i64 n] [codO (Prod.snd t2)]) (cond (IntKind.wrap IntKind.i64 (1 + Prod.fst t3) == 0) (cond (n != 0) (cond (decide (IntKind.wrap IntKind.i64 (IntKind.wrap IntKind.i64 (0 + 1) + Prod.fst t2) ≥ 10000)) (k (.exit 0) (SE n 0 0 0 (fun x => [.int .i64 0, .int .i64 0, .int .i64 0]) (Prod.snd t3))) (kn (SS n (IntKind.wrap IntKind.i64 (IntKind.wrap IntKind.i64 (0 + 1) + Prod.fst t2)) (IntKind.wrap IntKind.i64 (1 + Int.tmod (IntKind.wrap IntKind.i64 (1 + Prod.fst t3)) n)) 1 (appGet 0 1 (fun x => [.int .i64 0, .int .i64 0, .int .i64 0]) (fillGet [.int .i64 0, .int .i64 0, .int .i64 0] [(0, .agg [.int .i64 0, .int .i64 (IntKind.wrap IntKind.i64 (IntKind.wrap IntKind.i64 (0 + 1) + Prod.fst t2)), .int .i64 (IntKind.wrap IntKind.i64 (1 + Int.tmod (IntKind.wrap IntKind.i64 (1 + Prod.fst t3)) n))])])) (Prod.snd t3) (IntKind.wrap IntKind.i64 (0 + 1))))) (none)) (cond (decide (IntKind.wrap IntKind.i64 (IntKind.wrap IntKind.i64 (0 + 1) + Prod.fst t2) ≥ 10000)) (k (.exit 0) (SE n 0 0 0 (fun x => [.int .i64 0, .int .i64 0, .int .i64 0]) (Prod.snd t3))) (kn (SS n (IntKind.wrap IntKind.i64 (IntKind.wrap IntKind.i64 (0 + 1) + Prod.fst t2)) (IntKind.wrap IntKind.i64 (1 + Prod.fst t3)) 1 (appGet 0 1 (fun x => [.int .i64 0, .int .i64 0, .int .i64 0]) (fillGet [.int .i64 0, .int .i64 0, .int .i64 0] [(0, .agg [.int .i64 0, .int .i64 (IntKind.wrap IntKind.i64 (IntKind.wrap IntKind.i64 (0 + 1) + Prod.fst t2)), .int .i64 (IntKind.wrap IntKind.i64 (1 + Prod.fst t3))])])) (Prod.snd t3) (IntKind.wrap IntKind.i64 (0 + 1)))))) (none)) (none)) (k (.exit 0) (SE n 0 0 0 (fun x => [.int .i64 0, .int .i64 0, .int .i64 0]) (Prod.snd t1)))) (none) := by subst h_t3 h_t2 h_t1; kernel_rfl
set_option maxRecDepth 100000 in
theorem dsp_r (ge gw : List AV → List AO → Bool) (ve vw : List AV → List AO → Int × CODES) (L : List (List Nat × Orc)) (m : Nat) (n at' last : Int) (q : Nat) (get : Nat → List AV) (C : CODES) (i : Int) (kn : St → Res) (k : Ex → St → Res) {t1 : Int × CODES} (h_t1 : ve [.ref 1000000 0, .int .i64 4] [codO C] = t1) {t2 : Int × CODES} (h_t2 : vw [.ref 1000000 0, .int .i64 5000] [codO (Prod.snd t1)] = t2) {t3 : Int × CODES} (h_t3 : ve [.ref 1000000 0, .int .i64 n] [codO (Prod.snd t2)] = t3) : roundR (V2.run [mkE 19 ge ve φX, mkE 22 gw vw φX] 3 [] L [] 20) 20 m [1, 1, 1, 0, 1, 0] (SS n at' last (q + 1) get C i) kn k =
  cond (ge [.ref 1000000 0, .int .i64 4] [codO C]) (cond (bif decide (i < Prod.fst t1) then decide (n > 1) else false) (cond (gw [.ref 1000000 0, .int .i64 5000] [codO (Prod.snd t1)]) (cond (ge [.ref 1000000 0, .int .i64 n] [codO (Prod.snd t2)]) (cond (IntKind.wrap IntKind.i64 (1 + Prod.fst t3) == last) (cond (n != 0) (cond (decide (IntKind.wrap IntKind.i64 (IntKind.wrap IntKind.i64 (at' + 1) + Prod.fst t2) ≥ 10000)) (k (.exit 0) (SE n at' last (q + 1) get (Prod.snd t3))) (cond (roomy (24) (q + 1 + 1) && Nat.beq (q + 1) (q + 1)) (kn (SS n (IntKind.wrap IntKind.i64 (IntKind.wrap IntKind.i64 (at' + 1) + Prod.fst t2)) (IntKind.wrap IntKind.i64 (1 + Int.tmod (IntKind.wrap IntKind.i64 (1 + Prod.fst t3)) n)) (q + 1 + 1) (appGet (q + 1) 1 get (fillGet [.int .i64 0, .int .i64 0, .int .i64 0] [(0, .agg [.int .i64 at', .int .i64 (IntKind.wrap IntKind.i64 (IntKind.wrap IntKind.i64 (at' + 1) + Prod.fst t2)), .int .i64 (IntKind.wrap IntKind.i64 (1 + Int.tmod (IntKind.wrap IntKind.i64 (1 + Prod.fst t3)) n))])])) (Prod.snd t3) (IntKind.wrap IntKind.i64 (i + 1)))) (none))) (none)) (cond (decide (IntKind.wrap IntKind.i64 (IntKind.wrap IntKind.i64 (at' + 1) + Prod.fst t2) ≥ 10000)) (k (.exit 0) (SE n at' last (q + 1) get (Prod.snd t3))) (cond (roomy (24) (q + 1 + 1) && Nat.beq (q + 1) (q + 1)) (kn (SS n (IntKind.wrap IntKind.i64 (IntKind.wrap IntKind.i64 (at' + 1) + Prod.fst t2)) (IntKind.wrap IntKind.i64 (1 + Prod.fst t3)) (q + 1 + 1) (appGet (q + 1) 1 get (fillGet [.int .i64 0, .int .i64 0, .int .i64 0] [(0, .agg [.int .i64 at', .int .i64 (IntKind.wrap IntKind.i64 (IntKind.wrap IntKind.i64 (at' + 1) + Prod.fst t2)), .int .i64 (IntKind.wrap IntKind.i64 (1 + Prod.fst t3))])])) (Prod.snd t3) (IntKind.wrap IntKind.i64 (i + 1)))) (none)))) (none)) (none)) (k (.exit 0) (SE n at' last (q + 1) get (Prod.snd t1)))) (none) := by subst h_t3 h_t2 h_t1; kernel_rfl
set_option maxRecDepth 100000 in
theorem dsp_m (ge gw : List AV → List AO → Bool) (ve vw : List AV → List AO → Int × CODES) (g : St → Bool) (v : St → SY) (n : Int) (C : CODES) {t1 : SY} (h_t1 : v (SS0 n C) = t1) {t2 : Int × CODES} (h_t2 : ve [.ref 1000000 0, .int .i64 n] [codO (SY.C t1)] = t2) : runF (V2.run [mkE 19 ge ve φX, mkE 22 gw vw φX] 3 [] [([1, 1, 1, 0, 1, 0], mkO g v (outS n))] [] 20) 9 20 [.ref keyBase 0, .int .i64 n] [codO C] =
  cond (g (SS0 n C)) (cond (SY.b t1) (cond (ge [.ref 1000000 0, .int .i64 n] [codO (SY.C t1)]) (cond (IntKind.wrap IntKind.i64 (1 + Prod.fst t2) == 0) (cond (n != 0) (some ((.sl .no 3 1 (appGet 0 1 (fun x => [.int .i64 0, .int .i64 0, .int .i64 0]) (fillGet [.int .i64 0, .int .i64 0, .int .i64 0] [(0, .agg [.int .i64 0, .int .i64 10000, .int .i64 (IntKind.wrap IntKind.i64 (1 + Int.tmod (IntKind.wrap IntKind.i64 (1 + Prod.fst t2)) n))])])), [codO (Prod.snd t2)]))) (none)) (some ((.sl .no 3 1 (appGet 0 1 (fun x => [.int .i64 0, .int .i64 0, .int .i64 0]) (fillGet [.int .i64 0, .int .i64 0, .int .i64 0] [(0, .agg [.int .i64 0, .int .i64 10000, .int .i64 (IntKind.wrap IntKind.i64 (1 + Prod.fst t2))])])), [codO (Prod.snd t2)])))) (none)) (cond (ge [.ref 1000000 0, .int .i64 n] [codO (SY.C t1)]) (cond (IntKind.wrap IntKind.i64 (1 + Prod.fst t2) == SY.v t1) (cond (n != 0) (cond (roomy (24) (SY.q t1 + 1 + 1) && Nat.beq (SY.q t1 + 1) (SY.q t1 + 1)) (some ((.sl .no 3 (SY.q t1 + 1 + 1) (appGet (SY.q t1 + 1) 1 (getR (SY.l t1)) (fillGet [.int .i64 0, .int .i64 0, .int .i64 0] [(0, .agg [.int .i64 (SY.a t1), .int .i64 10000, .int .i64 (IntKind.wrap IntKind.i64 (1 + Int.tmod (IntKind.wrap IntKind.i64 (1 + Prod.fst t2)) n))])])), [codO (Prod.snd t2)]))) (none)) (none)) (cond (roomy (24) (SY.q t1 + 1 + 1) && Nat.beq (SY.q t1 + 1) (SY.q t1 + 1)) (some ((.sl .no 3 (SY.q t1 + 1 + 1) (appGet (SY.q t1 + 1) 1 (getR (SY.l t1)) (fillGet [.int .i64 0, .int .i64 0, .int .i64 0] [(0, .agg [.int .i64 (SY.a t1), .int .i64 10000, .int .i64 (IntKind.wrap IntKind.i64 (1 + Prod.fst t2))])])), [codO (Prod.snd t2)]))) (none))) (none))) (none) := by subst h_t2 h_t1; kernel_rfl
set_option maxRecDepth 100000 in
theorem dpk_r (L : List (List Nat × Orc)) (m : Nat) (l : List (Int × Int × Int)) (b : Int) (i : Nat) (kn : St → Res) (k : Ex → St → Res)  : roundR (V2.run [] 3 [] L [] 28) 28 m [1, 0, 1, 0] (K28 l b i) kn k =
  cond (decide ((↑i : Int) < (↑(List.length l) : Int))) (cond (within (↑i : Int) (List.length l)) (cond (bif within (↑i : Int) (List.length l) then true else !bif decide (Prod.fst (List.getD l (Int.toNat (↑i : Int)) (0, 0, 0)) ≤ b) == true then true else false) (cond (bif decide (Prod.fst (List.getD l (Int.toNat (↑i : Int)) (0, 0, 0)) ≤ b) then decide (b < Prod.fst (Prod.snd (List.getD l (Int.toNat (↑i : Int)) (0, 0, 0)))) else false) (cond (within (↑i : Int) (List.length l)) (k (.ret) ({ env := [(4, .int .i64 (Prod.snd (Prod.snd (List.getD l (Int.toNat (↑i : Int)) (0, 0, 0)))))], objs := [] })) (none)) (kn ({ env := [(0, rngL l), (1, .int .i64 b), (5, .int .i64 (IntKind.wrap IntKind.i64 ((↑i : Int) + 1)))], objs := [] }))) (none)) (none)) (k (.exit 0) ({ env := [], objs := [] })) := by kernel_rfl
set_option maxRecDepth 100000 in
theorem dpk_m (g : St → Bool) (v : St → Bool × Int) (l : List (Int × Int × Int)) (b : Int) {t1 : Bool × Int} (h_t1 : v { env := [(0, rngL l), (1, .int .i64 b), (5, .int .i64 0)], objs := [] } = t1) : runF (V2.run [] 3 [] [([1, 0, 1, 0], mkO g v (outB (fun x k => k .ret { env := [(4, .int .i64 x)], objs := [] }) (fun k => k (.exit 0) { env := [], objs := [] })))] [] 28) 9 28 [rngL l, .int .i64 b] [] =
  cond (g { env := [(0, rngL l), (1, .int .i64 b), (5, .int .i64 0)], objs := [] }) (cond (Prod.fst t1) (some ((.int .i64 (Prod.snd t1), []))) (some ((.int .i64 0, [])))) (none) := by subst h_t1; kernel_rfl
end Go.SH

namespace Go.SH
open Go Go.Ab Go.Proofs
set_option linter.unusedVariables false
set_option linter.unusedSimpArgs false
theorem cT {α : Sort _} {b : Bool} {x y : α} (h : b = true) : cond b x y = x := by rw [h]; rfl
theorem cF {α : Sort _} {b : Bool} {x y : α} (h : b = false) : cond b x y = y := by rw [h]; rfl
def wdP (x : CODES × Int) : Prop := x.1.Ok ∧ 1 ≤ x.2 ∧ x.2 ≤ 65536
def wdPost (x : CODES × Int) (y : Int × CODES) : Prop := 0 ≤ y.1 ∧ y.1 < x.2 ∧ y.2.Ok
theorem wdPost_kind (a b : CODES × Int) (y : Int × CODES) (h : nA a = nA b) (_ : nO a = nO b) (hy : wdPost a y) : wdPost b y := by
  simp only [nA, List.cons.injEq, AV.int.injEq, true_and, and_true] at h
  unfold wdPost at *
  rw [← h]; exact hy
theorem wide_ex (x : CODES × Int) (hx : wdP x) : ∃ y : Int × CODES, wdPost x y ∧ Ct V2.P V2.G 22 (nA x) (nO x) (φX y) := by
  obtain ⟨C, m⟩ := x
  obtain ⟨hC, m1, m2⟩ := hx
  have hC : C.Ok := hC
  have m1 : 1 ≤ m := m1
  have m2 : m ≤ 65536 := m2
  obtain ⟨a0, a1, aD⟩ := nextR_ok hC (m := 256) (by omega)
  obtain ⟨b0, b1, bD⟩ := nextR_ok aD (m := 256) (by omega)
  have e := wide_m gN vN C m (t1 := nextR C 256) (vN_eq hC (by omega)) (t2 := nextR (nextR C 256).2 256) (vN_eq aD (by omega))
  have hw : IntKind.wrap .i64 (IntKind.wrap .i64 (256 * (nextR C 256).1) + (nextR (nextR C 256).2 256).1) = 256 * (nextR C 256).1 + (nextR (nextR C 256).2 256).1 := by
    rw [wrap_i64 (x := 256 * (nextR C 256).1) (by omega) (by omega), wrap_i64 (by omega) (by omega)]
  rw [hw, gN_eq hC (by omega), gN_eq aD (by omega), show (m != 0) = true by simp; omega] at e
  refine ⟨(Int.tmod (256 * (nextR C 256).1 + (nextR (nextR C 256).2 256).1) m, (nextR (nextR C 256).2 256).2), ⟨Int.tmod_nonneg _ (by omega), Int.tmod_lt_of_pos _ (by omega), bD⟩, ?_⟩
  exact ct_loops (V := V2) (f := 22) (n := 9) (d := 3) (T := [entN]) (L := []) mixed2 funcs2 (tabOk_cons entN_ok tabOk_nil) loopsOk_nil e
theorem number_ex (C : CODES) (h : C.Ok) : ∃ x : Int × CODES, ((-2305843009213693952 ≤ x.1 ∧ x.1 ≤ 2305843009213693952) ∧ x.2.Ok) ∧ Ct V2.P V2.G 51 (cA C) (cO C) (φX x) := by
  obtain ⟨h0, h1, h2⟩ := nextR_ok h (m := 15) (by omega)
  have hn := next_ok C h 15 (by omega)
  revert h0 h1 h2 hn
  generalize nextR C 15 = y
  obtain ⟨r, D⟩ := y
  intro h0 h1 h2 hn
  have hr : r = 0 ∨ r = 1 ∨ r = 2 ∨ r = 3 ∨ r = 4 ∨ r = 5 ∨ r = 6 ∨ r = 7 ∨ r = 8 ∨ r = 9 ∨ r = 10 ∨ r = 11 ∨ r = 12 ∨ r = 13 ∨ r = 14 := by have h0 : 0 ≤ r := h0; have h1 : r < 15 := h1; omega
  have hT := entK_ok (φ := φX) hn
  have hg : goodA (fun _ : Unit => [.ref keyBase 0, .int .i64 15]) (fun _ => [codO C]) (fun _ => True) [.ref 1000000 0, .int .i64 15] [codO C] = true := gK_eq _ _
  rcases hr with rfl | rfl | rfl | rfl | rfl | rfl | rfl | rfl | rfl | rfl | rfl | rfl | rfl | rfl | rfl
  · exact ⟨(0, D), ⟨(show (-2305843009213693952 : Int) ≤ 0 ∧ 0 ≤ (2305843009213693952 : Int) by decide), h2⟩, ct_loops (V := V2) (f := 51) (n := 9) (d := 3) (L := []) (T := [entK 19 [.ref keyBase 0, .int .i64 15] [codO C] (0, D) φX]) mixed2 funcs2 (tabOk_cons hT tabOk_nil) loopsOk_nil ((number_0 _ C D).trans (cT hg))⟩
  · exact ⟨((-1), D), ⟨(show (-2305843009213693952 : Int) ≤ (-1) ∧ (-1) ≤ (2305843009213693952 : Int) by decide), h2⟩, ct_loops (V := V2) (f := 51) (n := 9) (d := 3) (L := []) (T := [entK 19 [.ref keyBase 0, .int .i64 15] [codO C] (1, D) φX]) mixed2 funcs2 (tabOk_cons hT tabOk_nil) loopsOk_nil ((number_1 _ C D).trans (cT hg))⟩
  · exact ⟨(1, D), ⟨(show (-2305843009213693952 : Int) ≤ 1 ∧ 1 ≤ (2305843009213693952 : Int) by decide), h2⟩, ct_loops (V := V2) (f := 51) (n := 9) (d := 3) (L := []) (T := [entK 19 [.ref keyBase 0, .int .i64 15] [codO C] (2, D) φX]) mixed2 funcs2 (tabOk_cons hT tabOk_nil) loopsOk_nil ((number_2 _ C D).trans (cT hg))⟩
  · exact ⟨(2, D), ⟨(show (-2305843009213693952 : Int) ≤ 2 ∧ 2 ≤ (2305843009213693952 : Int) by decide), h2⟩, ct_loops (V := V2) (f := 51) (n := 9) (d := 3) (L := []) (T := [entK 19 [.ref keyBase 0, .int .i64 15] [codO C] (3, D) φX]) mixed2 funcs2 (tabOk_cons hT tabOk_nil) loopsOk_nil ((number_3 _ C D).trans (cT hg))⟩
  · exact ⟨(8, D), ⟨(show (-2305843009213693952 : Int) ≤ 8 ∧ 8 ≤ (2305843009213693952 : Int) by decide), h2⟩, ct_loops (V := V2) (f := 51) (n := 9) (d := 3) (L := []) (T := [entK 19 [.ref keyBase 0, .int .i64 15] [codO C] (4, D) φX]) mixed2 funcs2 (tabOk_cons hT tabOk_nil) loopsOk_nil ((number_4 _ C D).trans (cT hg))⟩
  · exact ⟨(9, D), ⟨(show (-2305843009213693952 : Int) ≤ 9 ∧ 9 ≤ (2305843009213693952 : Int) by decide), h2⟩, ct_loops (V := V2) (f := 51) (n := 9) (d := 3) (L := []) (T := [entK 19 [.ref keyBase 0, .int .i64 15] [codO C] (5, D) φX]) mixed2 funcs2 (tabOk_cons hT tabOk_nil) loopsOk_nil ((number_5 _ C D).trans (cT hg))⟩
  · exact ⟨(10000, D), ⟨(show (-2305843009213693952 : Int) ≤ 10000 ∧ 10000 ≤ (2305843009213693952 : Int) by decide), h2⟩, ct_loops (V := V2) (f := 51) (n := 9) (d := 3) (L := []) (T := [entK 19 [.ref keyBase 0, .int .i64 15] [codO C] (6, D) φX]) mixed2 funcs2 (tabOk_cons hT tabOk_nil) loopsOk_nil ((number_6 _ C D).trans (cT hg))⟩
  · exact ⟨(10001, D), ⟨(show (-2305843009213693952 : Int) ≤ 10001 ∧ 10001 ≤ (2305843009213693952 : Int) by decide), h2⟩, ct_loops (V := V2) (f := 51) (n := 9) (d := 3) (L := []) (T := [entK 19 [.ref keyBase 0, .int .i64 15] [codO C] (7, D) φX]) mixed2 funcs2 (tabOk_cons hT tabOk_nil) loopsOk_nil ((number_7 _ C D).trans (cT hg))⟩
  · exact ⟨(1099511627776, D), ⟨(show (-2305843009213693952 : Int) ≤ 1099511627776 ∧ 1099511627776 ≤ (2305843009213693952 : Int) by decide), h2⟩, ct_loops (V := V2) (f := 51) (n := 9) (d := 3) (L := []) (T := [entK 19 [.ref keyBase 0, .int .i64 15] [codO C] (8, D) φX]) mixed2 funcs2 (tabOk_cons hT tabOk_nil) loopsOk_nil ((number_8 _ C D).trans (cT hg))⟩
  · exact ⟨(1099511627777, D), ⟨(show (-2305843009213693952 : Int) ≤ 1099511627777 ∧ 1099511627777 ≤ (2305843009213693952 : Int) by decide), h2⟩, ct_loops (V := V2) (f := 51) (n := 9) (d := 3) (L := []) (T := [entK 19 [.ref keyBase 0, .int .i64 15] [codO C] (9, D) φX]) mixed2 funcs2 (tabOk_cons hT tabOk_nil) loopsOk_nil ((number_9 _ C D).trans (cT hg))⟩
  · exact ⟨((-1099511627777), D), ⟨(show (-2305843009213693952 : Int) ≤ (-1099511627777) ∧ (-1099511627777) ≤ (2305843009213693952 : Int) by decide), h2⟩, ct_loops (V := V2) (f := 51) (n := 9) (d := 3) (L := []) (T := [entK 19 [.ref keyBase 0, .int .i64 15] [codO C] (10, D) φX]) mixed2 funcs2 (tabOk_cons hT tabOk_nil) loopsOk_nil ((number_10 _ C D).trans (cT hg))⟩
  · exact ⟨(1099511627777, D), ⟨(show (-2305843009213693952 : Int) ≤ 1099511627777 ∧ 1099511627777 ≤ (2305843009213693952 : Int) by decide), h2⟩, ct_loops (V := V2) (f := 51) (n := 9) (d := 3) (L := []) (T := [entK 19 [.ref keyBase 0, .int .i64 15] [codO C] (11, D) φX]) mixed2 funcs2 (tabOk_cons hT tabOk_nil) loopsOk_nil ((number_11 _ C D).trans (cT hg))⟩
  · exact ⟨(4, D), ⟨(show (-2305843009213693952 : Int) ≤ 4 ∧ 4 ≤ (2305843009213693952 : Int) by decide), h2⟩, ct_loops (V := V2) (f := 51) (n := 9) (d := 3) (L := []) (T := [entK 19 [.ref keyBase 0, .int .i64 15] [codO C] (12, D) φX]) mixed2 funcs2 (tabOk_cons hT tabOk_nil) loopsOk_nil ((number_12 _ C D).trans (cT hg))⟩
  · exact ⟨(5, D), ⟨(show (-2305843009213693952 : Int) ≤ 5 ∧ 5 ≤ (2305843009213693952 : Int) by decide), h2⟩, ct_loops (V := V2) (f := 51) (n := 9) (d := 3) (L := []) (T := [entK 19 [.ref keyBase 0, .int .i64 15] [codO C] (13, D) φX]) mixed2 funcs2 (tabOk_cons hT tabOk_nil) loopsOk_nil ((number_13 _ C D).trans (cT hg))⟩
  · exact ⟨(6, D), ⟨(show (-2305843009213693952 : Int) ≤ 6 ∧ 6 ≤ (2305843009213693952 : Int) by decide), h2⟩, ct_loops (V := V2) (f := 51) (n := 9) (d := 3) (L := []) (T := [entK 19 [.ref keyBase 0, .int .i64 15] [codO C] (14, D) φX]) mixed2 funcs2 (tabOk_cons hT tabOk_nil) loopsOk_nil ((number_14 _ C D).trans (cT hg))⟩
theorem name_ex (C : CODES) (h : C.Ok) : ∃ x : List UInt8 × CODES, (x.1.length ≤ 40 ∧ x.2.Ok) ∧ Ct V2.P V2.G 50 (cA C) (cO C) (φT x) := by
  obtain ⟨h0, h1, h2⟩ := nextR_ok h (m := 15) (by omega)
  have hn := next_ok C h 15 (by omega)
  revert h0 h1 h2 hn
  generalize nextR C 15 = y
  obtain ⟨r, D⟩ := y
  intro h0 h1 h2 hn
  have hr : r = 0 ∨ r = 1 ∨ r = 2 ∨ r = 3 ∨ r = 4 ∨ r = 5 ∨ r = 6 ∨ r = 7 ∨ r = 8 ∨ r = 9 ∨ r = 10 ∨ r = 11 ∨ r = 12 ∨ r = 13 ∨ r = 14 := by have h0 : 0 ≤ r := h0; have h1 : r < 15 := h1; omega
  have hT := entK_ok (φ := φX) hn
  have hg : goodA (fun _ : Unit => [.ref keyBase 0, .int .i64 15]) (fun _ => [codO C]) (fun _ => True) [.ref 1000000 0, .int .i64 15] [codO C] = true := gK_eq _ _
  rcases hr with rfl | rfl | rfl | rfl | rfl | rfl | rfl | rfl | rfl | rfl | rfl | rfl | rfl | rfl | rfl
  · exact ⟨([], D), ⟨(show ([] : List UInt8).length ≤ 40 by decide), h2⟩, ct_loops (V := V2) (f := 50) (n := 9) (d := 3) (L := []) (T := [entK 19 [.ref keyBase 0, .int .i64 15] [codO C] (0, D) φX]) mixed2 funcs2 (tabOk_cons hT tabOk_nil) loopsOk_nil ((name_0 _ C D).trans (cT hg))⟩
  · exact ⟨([66, 97, 100], D), ⟨(show ([66, 97, 100] : List UInt8).length ≤ 40 by decide), h2⟩, ct_loops (V := V2) (f := 50) (n := 9) (d := 3) (L := []) (T := [entK 19 [.ref keyBase 0, .int .i64 15] [codO C] (1, D) φX]) mixed2 funcs2 (tabOk_cons hT tabOk_nil) loopsOk_nil ((name_1 _ C D).trans (cT hg))⟩
  · exact ⟨([57, 97], D), ⟨(show ([57, 97] : List UInt8).length ≤ 40 by decide), h2⟩, ct_loops (V := V2) (f := 50) (n := 9) (d := 3) (L := []) (T := [entK 19 [.ref keyBase 0, .int .i64 15] [codO C] (2, D) φX]) mixed2 funcs2 (tabOk_cons hT tabOk_nil) loopsOk_nil ((name_2 _ C D).trans (cT hg))⟩
  · exact ⟨([111, 110], D), ⟨(show ([111, 110] : List UInt8).length ≤ 40 by decide), h2⟩, ct_loops (V := V2) (f := 50) (n := 9) (d := 3) (L := []) (T := [entK 19 [.ref keyBase 0, .int .i64 15] [codO C] (3, D) φX]) mixed2 funcs2 (tabOk_cons hT tabOk_nil) loopsOk_nil ((name_3 _ C D).trans (cT hg))⟩
  · exact ⟨([107, 101, 121], D), ⟨(show ([107, 101, 121] : List UInt8).length ≤ 40 by decide), h2⟩, ct_loops (V := V2) (f := 50) (n := 9) (d := 3) (L := []) (T := [entK 19 [.ref keyBase 0, .int .i64 15] [codO C] (4, D) φX]) mixed2 funcs2 (tabOk_cons hT tabOk_nil) loopsOk_nil ((name_4 _ C D).trans (cT hg))⟩
  · exact ⟨([122, 122], D), ⟨(show ([122, 122] : List UInt8).length ≤ 40 by decide), h2⟩, ct_loops (V := V2) (f := 50) (n := 9) (d := 3) (L := []) (T := [entK 19 [.ref keyBase 0, .int .i64 15] [codO C] (5, D) φX]) mixed2 funcs2 (tabOk_cons hT tabOk_nil) loopsOk_nil ((name_5 _ C D).trans (cT hg))⟩
  · exact ⟨([97], D), ⟨(show ([97] : List UInt8).length ≤ 40 by decide), h2⟩, ct_loops (V := V2) (f := 50) (n := 9) (d := 3) (L := []) (T := [entK 19 [.ref keyBase 0, .int .i64 15] [codO C] (6, D) φX]) mixed2 funcs2 (tabOk_cons hT tabOk_nil) loopsOk_nil ((name_6 _ C D).trans (cT hg))⟩
  · exact ⟨([97, 108, 112, 104, 97], D), ⟨(show ([97, 108, 112, 104, 97] : List UInt8).length ≤ 40 by decide), h2⟩, ct_loops (V := V2) (f := 50) (n := 9) (d := 3) (L := []) (T := [entK 19 [.ref keyBase 0, .int .i64 15] [codO C] (7, D) φX]) mixed2 funcs2 (tabOk_cons hT tabOk_nil) loopsOk_nil ((name_7 _ C D).trans (cT hg))⟩
  · exact ⟨([102, 97], D), ⟨(show ([102, 97] : List UInt8).length ≤ 40 by decide), h2⟩, ct_loops (V := V2) (f := 50) (n := 9) (d := 3) (L := []) (T := [entK 19 [.ref keyBase 0, .int .i64 15] [codO C] (8, D) φX]) mixed2 funcs2 (tabOk_cons hT tabOk_nil) loopsOk_nil ((name_8 _ C D).trans (cT hg))⟩
  · exact ⟨([102, 98], D), ⟨(show ([102, 98] : List UInt8).length ≤ 40 by decide), h2⟩, ct_loops (V := V2) (f := 50) (n := 9) (d := 3) (L := []) (T := [entK 19 [.ref keyBase 0, .int .i64 15] [codO C] (9, D) φX]) mixed2 funcs2 (tabOk_cons hT tabOk_nil) loopsOk_nil ((name_9 _ C D).trans (cT hg))⟩
  · exact ⟨([108, 97], D), ⟨(show ([108, 97] : List UInt8).length ≤ 40 by decide), h2⟩, ct_loops (V := V2) (f := 50) (n := 9) (d := 3) (L := []) (T := [entK 19 [.ref keyBase 0, .int .i64 15] [codO C] (10, D) φX]) mixed2 funcs2 (tabOk_cons hT tabOk_nil) loopsOk_nil ((name_10 _ C D).trans (cT hg))⟩
  · exact ⟨([120, 97], D), ⟨(show ([120, 97] : List UInt8).length ≤ 40 by decide), h2⟩, ct_loops (V := V2) (f := 50) (n := 9) (d := 3) (L := []) (T := [entK 19 [.ref keyBase 0, .int .i64 15] [codO C] (11, D) φX]) mixed2 funcs2 (tabOk_cons hT tabOk_nil) loopsOk_nil ((name_11 _ C D).trans (cT hg))⟩
  · exact ⟨([97, 98, 99, 100, 101, 102, 103, 104, 105, 106, 107, 108, 109, 110, 111, 112, 113, 114, 115, 116, 117, 118, 119, 120, 121, 122, 48, 49, 50, 51, 52, 53, 54], D), ⟨(show ([97, 98, 99, 100, 101, 102, 103, 104, 105, 106, 107, 108, 109, 110, 111, 112, 113, 114, 115, 116, 117, 118, 119, 120, 121, 122, 48, 49, 50, 51, 52, 53, 54] : List UInt8).length ≤ 40 by decide), h2⟩, ct_loops (V := V2) (f := 50) (n := 9) (d := 3) (L := []) (T := [entK 19 [.ref keyBase 0, .int .i64 15] [codO C] (12, D) φX]) mixed2 funcs2 (tabOk_cons hT tabOk_nil) loopsOk_nil ((name_12 _ C D).trans (cT hg))⟩
  · exact ⟨([117, 115, 101, 114], D), ⟨(show ([117, 115, 101, 114] : List UInt8).length ≤ 40 by decide), h2⟩, ct_loops (V := V2) (f := 50) (n := 9) (d := 3) (L := []) (T := [entK 19 [.ref keyBase 0, .int .i64 15] [codO C] (13, D) φX]) mixed2 funcs2 (tabOk_cons hT tabOk_nil) loopsOk_nil ((name_13 _ C D).trans (cT hg))⟩
  · exact ⟨([97, 46, 98], D), ⟨(show ([97, 46, 98] : List UInt8).length ≤ 40 by decide), h2⟩, ct_loops (V := V2) (f := 50) (n := 9) (d := 3) (L := []) (T := [entK 19 [.ref keyBase 0, .int .i64 15] [codO C] (14, D) φX]) mixed2 funcs2 (tabOk_cons hT tabOk_nil) loopsOk_nil ((name_14 _ C D).trans (cT hg))⟩
abbrev RG := Int × Int × Int
def chainR (n : Int) : Int → Int → List RG → Prop
  | _, _, [] => True
  | a, v, r :: l => r.1 = a ∧ a < r.2.1 ∧ 1 ≤ r.2.2 ∧ r.2.2 ≤ n ∧ r.2.2 ≠ v ∧ chainR n r.2.1 r.2.2 l
def endR : Int → Int → List RG → Int × Int
  | a, v, [] => (a, v)
  | _, _, r :: l => endR r.2.1 r.2.2 l
theorem chainR_app {n : Int} {r : RG} : ∀ {l : List RG} {a v : Int}, chainR n a v l → r.1 = (endR a v l).1 → (endR a v l).1 < r.2.1 → 1 ≤ r.2.2 → r.2.2 ≤ n → r.2.2 ≠ (endR a v l).2 → chainR n a v (l ++ [r])
  | [], a, v, _, h1, h2, h3, h4, h5 => ⟨h1, h2, h3, h4, h5, trivial⟩
  | q :: l, a, v, h, h1, h2, h3, h4, h5 => ⟨h.1, h.2.1, h.2.2.1, h.2.2.2.1, h.2.2.2.2.1, chainR_app h.2.2.2.2.2 h1 h2 h3 h4 h5⟩
theorem endR_app {r : RG} : ∀ {l : List RG} {a v : Int}, endR a v (l ++ [r]) = (r.2.1, r.2.2)
  | [], _, _ => rfl
  | q :: l, _, _ => endR_app (l := l)
theorem getR_app (l : List RG) (r : RG) : appGet l.length 1 (getR l) (fillGet (rngC (0, 0, 0)) [(0, .agg (rngC r))]) = getR (l ++ [r]) := by
  funext j
  unfold appGet getR
  by_cases h : j < l.length
  · rw [bltT h]
    simp [List.getD, h, List.getElem?_append_left]
  · have hb : Nat.blt j l.length = false := by
      cases e : Nat.blt j l.length with
      | false => rfl
      | true => exact absurd (ltB e) h
    rw [hb, cond_false]
    by_cases h1 : j = l.length
    · subst h1
      rw [bltT (by omega), cond_true, Nat.sub_self]
      simp [fillGet, AV.cells, List.getD]
    · have hb1 : Nat.blt j (l.length + 1) = false := by
        cases e : Nat.blt j (l.length + 1) with
        | false => rfl
        | true => exact absurd (ltB e) (by omega)
      rw [hb1, cond_false]
      simp only [List.getD]
      rw [List.getElem?_eq_none (by omega), List.getElem?_eq_none (by simp; omega)]
abbrev SSt := CODES ⊕ (List RG × CODES)
def sS (n : Int) : SSt → St
  | .inl C => SS0 n C
  | .inr (l, C) => SS n (endR 0 0 l).1 (endR 0 0 l).2 l.length (getR l) C l.length
def sI (n : Int) : SSt → Prop
  | .inl C => C.Ok
  | .inr (l, C) => C.Ok ∧ 1 ≤ l.length ∧ l.length ≤ 3 ∧ chainR n 0 0 l ∧ 0 ≤ (endR 0 0 l).1 ∧ (endR 0 0 l).1 < 10000 ∧ 1 ≤ (endR 0 0 l).2 ∧ (endR 0 0 l).2 ≤ n ∧ 2 ≤ n
def sM : SSt → Nat
  | .inl _ => 5
  | .inr (l, _) => 4 - l.length
def sZ (n : Int) (y : SY) : Prop := y.C.Ok ∧ (y.b = false → y.l.length = y.q + 1 ∧ y.l.length ≤ 3 ∧ chainR n 0 0 y.l ∧ (y.a, y.v) = endR 0 0 y.l ∧ 0 ≤ y.a ∧ y.a < 10000 ∧ 1 ≤ y.v ∧ y.v ≤ n ∧ 2 ≤ n)
theorem turn_var {n v w : Int} (hn : n ≤ 1000) (h1 : 1 ≤ v) (h2 : v ≤ n) (h : v = w) (hn2 : 2 ≤ n) : IntKind.wrap .i64 (1 + Int.tmod v n) ≠ w ∧ 1 ≤ IntKind.wrap .i64 (1 + Int.tmod v n) ∧ IntKind.wrap .i64 (1 + Int.tmod v n) ≤ n := by
  have t0 := Int.tmod_nonneg n (show 0 ≤ v by omega)
  have t1 := Int.tmod_lt_of_pos v (show 0 < n by omega)
  rw [wrap_i64 (by omega) (by omega)]
  refine ⟨?_, by omega, by omega⟩
  by_cases he : v = n
  · subst he
    rw [Int.tmod_self]; omega
  · rw [Int.tmod_eq_of_lt (by omega) (by omega)]; omega
theorem getR_nil : getR [] = fun _ => rngC (0, 0, 0) := by funext j; rfl
def splN (n at' last tt : Int) (q : Nat) (get : Nat → List AV) (C : CODES) (i : Int) (kn : St → Res) (k : Ex → St → Res) (vv : Int) : Res :=
  cond (decide (tt ≥ 10000)) (k (.exit 0) (SE n at' last (q + 1) get C))
    (cond (roomy 24 (q + 1 + 1) && Nat.beq (q + 1) (q + 1)) (kn (SS n tt vv (q + 1 + 1) (appGet (q + 1) 1 get (fillGet (rngC (0, 0, 0)) [(0, .agg (rngC (at', tt, vv)))])) C (IntKind.wrap .i64 (i + 1)))) none)
theorem vary {n t last : Int} (hn : n ≤ 1000) (h2 : 2 ≤ n) (t0 : 0 ≤ t) (t1 : t < n) : ∃ vv : Int, vv ≠ last ∧ 1 ≤ vv ∧ vv ≤ n ∧ ∀ X : Int → Res, cond (IntKind.wrap .i64 (1 + t) == last) (cond (n != 0) (X (IntKind.wrap .i64 (1 + Int.tmod (IntKind.wrap .i64 (1 + t)) n))) none) (X (IntKind.wrap .i64 (1 + t))) = X vv := by
  have hw : IntKind.wrap .i64 (1 + t) = 1 + t := wrap_i64 (by omega) (by omega)
  rw [hw]
  by_cases hl : 1 + t = last
  · obtain ⟨a, b, c⟩ := turn_var hn (v := 1 + t) (by omega) (by omega) hl h2
    refine ⟨_, a, b, c, fun X => ?_⟩
    rw [beq_iff_eq.2 hl, show (n != 0) = true by simp; omega]; rfl
  · refine ⟨1 + t, hl, by omega, by omega, fun X => ?_⟩
    rw [beq_eq_false_iff_ne.2 hl]; rfl
theorem split_loop (n : Int) (h1 : 1 ≤ n) (h8 : n ≤ 1000) (ww : CODES × Int → Int × CODES) (hww : ∀ x, wdP x → wdPost x (ww x)) :
    ∃ w : SSt → SY, (∀ v, sI n v → sZ n (w v)) ∧ ∀ L, LoopOk (V2.run [mkE 19 gN vN φX, entC 22 nA nO wdP ww φX] 3 [] L [] 20) 20 [1, 1, 1, 0, 1, 0] (mkO (goodS (sS n) (sI n)) (valS (sS n) (sI n) w) (outS n)) := by
  refine loop_ex (Xf := fun L => V2.run [mkE 19 gN vN φX, entC 22 nA nO wdP ww φX] 3 [] L [] 20) (b := subC (bodyOf V2.P 20) ([1, 1, 1, 0, 1, 0] ++ [0])) (sS n) (sI n) sM (outS n) (fun _ => sZ n) (fun _ => by kernel_rfl) 9 fun v hv => ?_
  have hgw : ∀ D : CODES, D.Ok → goodA nA nO wdP [.ref 1000000 0, .int .i64 5000] [codO D] = true := fun D hD => goodA_eq (A := nA) (O := nO) (v := (D, 5000)) ⟨hD, by show (1 : Int) ≤ 5000; omega, by show (5000 : Int) ≤ 65536; omega⟩
  have hpw : ∀ D : CODES, D.Ok → wdPost (D, 5000) (valA nA nO wdP ww [.ref 1000000 0, .int .i64 5000] [codO D]) := fun D hD => valA_post (A := nA) (O := nO) (a := (D, 5000)) (Post := wdPost) hww wdPost_kind ⟨hD, by show (1 : Int) ≤ 5000; omega, by show (5000 : Int) ≤ 65536; omega⟩
  cases v with
  | inl C =>
    have hC : C.Ok := hv
    obtain ⟨a0, a1, aD⟩ := nextR_ok hC (m := 4) (by omega)
    obtain ⟨b0, b1, bD⟩ := hpw _ aD
    generalize hy2 : valA nA nO wdP ww [.ref 1000000 0, .int .i64 5000] [codO (nextR C 4).2] = y2 at b0 b1 bD
    have b1 : y2.1 < 5000 := b1
    obtain ⟨c0, c1, cD⟩ := nextR_ok bD (m := n) h1
    by_cases hgo : 0 < (nextR C 4).1 ∧ n > 1
    · have hv1 : IntKind.wrap .i64 (1 + (nextR y2.2 n).1) = 1 + (nextR y2.2 n).1 := wrap_i64 (by omega) (by omega)
      have ht1 : IntKind.wrap .i64 (IntKind.wrap .i64 (0 + 1) + y2.1) = 1 + y2.1 := by rw [show IntKind.wrap .i64 (0 + 1) = 1 from rfl]; exact wrap_i64 (by omega) (by omega)
      refine .inr ⟨.inr ([(0, 1 + y2.1, 1 + (nextR y2.2 n).1)], (nextR y2.2 n).2), ⟨cD, by simp, by simp, ⟨rfl, by show 0 < 1 + y2.1; omega, by show 1 ≤ 1 + (nextR y2.2 n).1; omega, by show 1 + (nextR y2.2 n).1 ≤ n; omega, by show 1 + (nextR y2.2 n).1 ≠ 0; omega, trivial⟩, by show 0 ≤ 1 + y2.1; omega, by show 1 + y2.1 < 10000; omega, by show 1 ≤ 1 + (nextR y2.2 n).1; omega, by show 1 + (nextR y2.2 n).1 ≤ n; omega, by omega⟩, by show 4 - 1 < 5; omega, fun _ h => h, fun L k kn => ?_⟩
      refine (dsp_r0 gN (goodA nA nO wdP) vN (valA nA nO wdP ww) L 9 n C kn k (t1 := nextR C 4) (vN_eq hC (by omega)) (t2 := y2) hy2 (t3 := nextR y2.2 n) (vN_eq bD h1)).trans ?_
      rw [hv1, ht1]
      refine (cT (gN_eq hC (by omega))).trans ?_
      refine (cT (by rw [decide_eq_true hgo.1, decide_eq_true hgo.2]; rfl)).trans ?_
      refine (cT (hgw _ aD)).trans ?_
      refine (cT (gN_eq bD h1)).trans ?_
      refine (cF (beq_eq_false_iff_ne.2 (by omega))).trans ?_
      refine (cF (decide_eq_false (by omega))).trans ?_
      have hg := getR_app [] (0, 1 + y2.1, 1 + (nextR y2.2 n).1)
      rw [getR_nil] at hg
      show kn (SS n (1 + y2.1) (1 + (nextR y2.2 n).1) 1 (appGet 0 1 (fun _ => rngC (0, 0, 0)) (fillGet (rngC (0, 0, 0)) [(0, .agg (rngC (0, 1 + y2.1, 1 + (nextR y2.2 n).1)))])) (nextR y2.2 n).2 1) = kn (SS n (1 + y2.1) (1 + (nextR y2.2 n).1) 1 (getR [(0, 1 + y2.1, 1 + (nextR y2.2 n).1)]) (nextR y2.2 n).2 1)
      exact congrArg (fun g => kn (SS n (1 + y2.1) (1 + (nextR y2.2 n).1) 1 g (nextR y2.2 n).2 1)) hg
    · refine .inl ⟨⟨true, [], 0, 0, 0, (nextR C 4).2⟩, ⟨aD, fun h => by cases h⟩, fun L k kn => ?_⟩
      refine (dsp_r0 gN (goodA nA nO wdP) vN (valA nA nO wdP ww) L 9 n C kn k (t1 := nextR C 4) (vN_eq hC (by omega)) (t2 := y2) hy2 (t3 := nextR y2.2 n) (vN_eq bD h1)).trans ?_
      refine (cT (gN_eq hC (by omega))).trans ?_
      refine (cF ?_).trans rfl
      by_cases h0 : 0 < (nextR C 4).1
      · rw [decide_eq_true h0, decide_eq_false (show ¬ n > 1 from fun h => hgo ⟨h0, h⟩)]; rfl
      · rw [decide_eq_false h0]; rfl
  | inr y =>
    obtain ⟨l, C⟩ := y
    obtain ⟨hC, l1, l3, hch, e0, e1, e2, e3, n2⟩ := hv
    obtain ⟨q, hq⟩ : ∃ q, l.length = q + 1 := ⟨l.length - 1, by omega⟩
    obtain ⟨a0, a1, aD⟩ := nextR_ok hC (m := 4) (by omega)
    obtain ⟨b0, b1, bD⟩ := hpw _ aD
    generalize hy2 : valA nA nO wdP ww [.ref 1000000 0, .int .i64 5000] [codO (nextR C 4).2] = y2 at b0 b1 bD
    have b1 : y2.1 < 5000 := b1
    obtain ⟨c0, c1, cD⟩ := nextR_ok bD (m := n) h1
    generalize ha : (endR 0 0 l).1 = at' at e0 e1
    generalize hl : (endR 0 0 l).2 = last at e2 e3
    have hS : sS n (.inr (l, C)) = SS n at' last (q + 1) (getR l) C (l.length : Int) := by
      show SS n (endR 0 0 l).1 (endR 0 0 l).2 l.length (getR l) C l.length = _
      rw [ha, hl, hq]
    have ht1 : IntKind.wrap .i64 (IntKind.wrap .i64 (at' + 1) + y2.1) = at' + 1 + y2.1 := by rw [wrap_i64 (x := at' + 1) (by omega) (by omega)]; exact wrap_i64 (by omega) (by omega)
    obtain ⟨vv, v1, v2, v3, hvv⟩ := vary (last := last) h8 n2 c0 c1
    have hE : ∀ D : CODES, D.Ok → sZ n ⟨false, l, q, at', last, D⟩ := fun D hD => ⟨hD, fun _ => ⟨hq, l3, hch, by show (at', last) = endR 0 0 l; rw [← ha, ← hl], e0, e1, e2, e3, n2⟩⟩
    have hround : ∀ L (k : Ex → St → Res) (kn : St → Res), roundR (V2.run [mkE 19 gN vN φX, entC 22 nA nO wdP ww φX] 3 [] L [] 20) 20 9 [1, 1, 1, 0, 1, 0] (sS n (.inr (l, C))) kn k =
        cond (decide ((l.length : Int) < (nextR C 4).1)) (splN n at' last (at' + 1 + y2.1) q (getR l) (nextR y2.2 n).2 l.length kn k vv) (k (.exit 0) (SE n at' last (q + 1) (getR l) (nextR C 4).2)) := fun L k kn => by
      rw [hS]
      refine (dsp_r gN (goodA nA nO wdP) vN (valA nA nO wdP ww) L 9 n at' last q (getR l) C l.length kn k (t1 := nextR C 4) (vN_eq hC (by omega)) (t2 := y2) hy2 (t3 := nextR y2.2 n) (vN_eq bD h1)).trans ?_
      rw [ht1]
      refine (cT (gN_eq hC (by omega))).trans ?_
      rw [decide_eq_true (show n > 1 by omega)]
      by_cases hgo : (l.length : Int) < (nextR C 4).1
      · rw [decide_eq_true hgo]
        refine (cT rfl).trans ?_
        refine (cT (hgw _ aD)).trans ?_
        refine (cT (gN_eq bD h1)).trans ?_
        exact hvv (splN n at' last (at' + 1 + y2.1) q (getR l) (nextR y2.2 n).2 l.length kn k)
      · rw [decide_eq_false hgo]
        exact cF rfl
    by_cases hgo : (l.length : Int) < (nextR C 4).1
    · by_cases hto : at' + 1 + y2.1 ≥ 10000
      · refine .inl ⟨⟨false, l, q, at', last, (nextR y2.2 n).2⟩, hE _ cD, fun L k kn => ?_⟩
        refine (hround L k kn).trans ?_
        rw [decide_eq_true hgo]
        unfold splN
        rw [decide_eq_true hto]; rfl
      · have hl3 : l.length + 1 ≤ 3 := by omega
        refine .inr ⟨.inr (l ++ [(at', at' + 1 + y2.1, vv)], (nextR y2.2 n).2), ⟨cD, by simp, by rw [List.length_append, List.length_singleton]; exact hl3, chainR_app hch ha.symm (by show (endR 0 0 l).1 < at' + 1 + y2.1; omega) v2 v3 (by show vv ≠ (endR 0 0 l).2; rw [hl]; exact v1), by rw [endR_app]; show 0 ≤ at' + 1 + y2.1; omega, by rw [endR_app]; show at' + 1 + y2.1 < 10000; omega, by rw [endR_app]; exact v2, by rw [endR_app]; exact v3, n2⟩, by show 4 - (l ++ [_]).length < 4 - l.length; rw [List.length_append, List.length_singleton]; omega, fun _ h => h, fun L k kn => ?_⟩
        refine (hround L k kn).trans ?_
        rw [decide_eq_true hgo]
        unfold splN
        rw [decide_eq_false hto]
        have hr : (roomy 24 (q + 1 + 1) && Nat.beq (q + 1) (q + 1)) = true := by
          rw [Nat.beq_refl, Bool.and_true]
          unfold roomy
          exact Nat.ble_eq_true_of_le (by omega)
        rw [hr]
        have hg := getR_app l (at', at' + 1 + y2.1, vv)
        rw [hq] at hg
        show kn (SS n (at' + 1 + y2.1) vv (q + 1 + 1) (appGet (q + 1) 1 (getR l) (fillGet (rngC (0, 0, 0)) [(0, .agg (rngC (at', at' + 1 + y2.1, vv)))])) (nextR y2.2 n).2 (IntKind.wrap .i64 ((l.length : Int) + 1))) = kn (SS n (endR 0 0 (l ++ [_])).1 (endR 0 0 (l ++ [_])).2 (l ++ [_]).length (getR (l ++ [_])) (nextR y2.2 n).2 ((l ++ [_]).length : Nat))
        rw [hg, endR_app, List.length_append, List.length_singleton, wrap_i64 (by omega) (by omega), hq]
        rfl
    · refine .inl ⟨⟨false, l, q, at', last, (nextR C 4).2⟩, hE _ aD, fun L k kn => ?_⟩
      refine (hround L k kn).trans ?_
      rw [decide_eq_false hgo]; rfl
end Go.SH

namespace Go.SH
open Go Go.Ab Go.Proofs
set_option linter.unusedVariables false
set_option linter.unusedSimpArgs false
def spP (x : CODES × Int) : Prop := x.1.Ok ∧ 1 ≤ x.2 ∧ x.2 ≤ 1000
def spPost (x : CODES × Int) (y : List RG × CODES) : Prop := chainR x.2 0 0 y.1 ∧ (endR 0 0 y.1).1 = 10000 ∧ 1 ≤ y.1.length ∧ y.1.length ≤ 4 ∧ y.2.Ok
theorem spPost_kind (a b : CODES × Int) (y : List RG × CODES) (h : nA a = nA b) (_ : nO a = nO b) (hy : spPost a y) : spPost b y := by
  simp only [nA, List.cons.injEq, AV.int.injEq, true_and, and_true] at h
  unfold spPost at *
  rw [← h]; exact hy
instance : Inhabited (List RG × CODES) := ⟨([], default)⟩
theorem dsplit_ex (x : CODES × Int) (hx : spP x) : ∃ y : List RG × CODES, spPost x y ∧ Ct V2.P V2.G 20 (nA x) (nO x) (φRg y) := by
  obtain ⟨C, n⟩ := x
  obtain ⟨hC, h1, h8⟩ := hx
  have hC : C.Ok := hC
  have h1 : 1 ≤ n := h1
  have h8 : n ≤ 1000 := h8
  obtain ⟨ww, hww, htw⟩ := ent_ex (V := V2) (f := 22) (A := nA) (O := nO) (Pre := wdP) (φ := φX) (Post := wdPost) wide_ex
  obtain ⟨w, hw, hl⟩ := split_loop n h1 h8 ww hww
  have hc := fun r he => ct_loops (V := V2) (f := 20) (l := nA (C, n)) (os := nO (C, n)) (r := r) (n := 9) (d := 3) (T := [entN, entC 22 nA nO wdP ww φX]) mixed2 funcs2 (tabOk_cons entN_ok (tabOk_cons htw tabOk_nil)) (loopsOk_cons (hl _) loopsOk_nil) he
  have hg : goodS (sS n) (sI n) (SS0 n C) = true := goodS_eq (S := sS n) (v := Sum.inl C) hC
  have hp : sZ n (valS (sS n) (sI n) w (SS0 n C)) := valS_post (S := sS n) (a := Sum.inl C) (Post := fun (_ : SSt) (y : SY) => sZ n y) hw (fun _ _ _ _ h => h) hC
  generalize hy : valS (sS n) (sI n) w (SS0 n C) = y at hp
  obtain ⟨yD, yp⟩ := hp
  have e := dsp_m gN (goodA nA nO wdP) vN (valA nA nO wdP ww) (goodS (sS n) (sI n)) (valS (sS n) (sI n) w) n C (t1 := y) hy (t2 := nextR y.C n) (vN_eq yD h1)
  obtain ⟨c0, c1, cD⟩ := nextR_ok yD (m := n) h1
  have e := e.trans (cT hg)
  cases hb : y.b with
  | true =>
    rw [hb] at e
    have e := (e.trans (cT rfl)).trans (cT (gN_eq yD h1))
    have hv : IntKind.wrap .i64 (1 + (nextR y.C n).1) = 1 + (nextR y.C n).1 := wrap_i64 (by omega) (by omega)
    rw [hv] at e
    have e := e.trans (cF (beq_eq_false_iff_ne.2 (by omega)))
    refine ⟨([(0, 10000, 1 + (nextR y.C n).1)], (nextR y.C n).2), ⟨⟨rfl, by show (0 : Int) < 10000; omega, by show 1 ≤ 1 + (nextR y.C n).1; omega, by show 1 + (nextR y.C n).1 ≤ n; omega, by show 1 + (nextR y.C n).1 ≠ 0; omega, trivial⟩, rfl, by simp, by simp, cD⟩, hc _ (e.trans ?_)⟩
    have hgr := getR_app [] (0, 10000, 1 + (nextR y.C n).1)
    rw [getR_nil] at hgr
    exact congrArg (fun g => some (AV.sl .no 3 1 g, [codO (nextR y.C n).2])) hgr
  | false =>
    obtain ⟨p1, p2, p3, p4, p5, p6, p7, p8, p9⟩ := yp hb
    rw [hb] at e
    have e := (e.trans (cF rfl)).trans (cT (gN_eq yD h1))
    obtain ⟨vv, v1, v2, v3, hvv⟩ := vary (last := y.v) h8 p9 c0 c1
    have e := e.trans (hvv fun vv => cond (roomy 24 (y.q + 1 + 1) && Nat.beq (y.q + 1) (y.q + 1)) (some (.sl .no 3 (y.q + 1 + 1) (appGet (y.q + 1) 1 (getR y.l) (fillGet (rngC (0, 0, 0)) [(0, .agg (rngC (y.a, 10000, vv)))])), [codO (nextR y.C n).2])) none)
    have hr : (roomy 24 (y.q + 1 + 1) && Nat.beq (y.q + 1) (y.q + 1)) = true := by
      rw [Nat.beq_refl, Bool.and_true]
      unfold roomy
      exact Nat.ble_eq_true_of_le (by omega)
    have ha : y.a = (endR 0 0 y.l).1 := by rw [← p4]
    have hv : y.v = (endR 0 0 y.l).2 := by rw [← p4]
    refine ⟨(y.l ++ [(y.a, 10000, vv)], (nextR y.C n).2), ⟨chainR_app p3 ha (by rw [← ha]; exact p6) v2 v3 (by rw [← hv]; exact v1), by rw [endR_app], by simp, by simp; omega, cD⟩, hc _ ((e.trans (cT hr)).trans ?_)⟩
    have hgr := getR_app y.l (y.a, 10000, vv)
    rw [p1] at hgr
    unfold φRg rngL
    simp only [List.length_append, List.length_singleton, p1]
    exact congrArg (fun g => some (AV.sl .no 3 (y.q + 1 + 1) g, [codO (nextR y.C n).2])) hgr
theorem chain_at {n : Int} : ∀ {l : List RG} {a v : Int} (i : Nat), chainR n a v l → i < l.length → 1 ≤ (l.getD i (0, 0, 0)).2.2 ∧ (l.getD i (0, 0, 0)).2.2 ≤ n ∧ (l.getD i (0, 0, 0)).1 < (l.getD i (0, 0, 0)).2.1 ∧
    (i = 0 → (l.getD i (0, 0, 0)).1 = a ∧ (l.getD i (0, 0, 0)).2.2 ≠ v) ∧ (∀ j, i = j + 1 → (l.getD i (0, 0, 0)).1 = (l.getD j (0, 0, 0)).2.1 ∧ (l.getD i (0, 0, 0)).2.2 ≠ (l.getD j (0, 0, 0)).2.2)
  | [], _, _, i, _, hi => by simp at hi
  | r :: l, a, v, 0, h, _ => ⟨h.2.2.1, h.2.2.2.1, by have := h.1; have := h.2.1; show r.1 < r.2.1; omega, fun _ => ⟨h.1, h.2.2.2.2.1⟩, fun j hj => by omega⟩
  | r :: l, a, v, i + 1, h, hi => by
    obtain ⟨p1, p2, p3, p4, p5⟩ := chain_at i h.2.2.2.2.2 (by simpa using hi)
    refine ⟨p1, p2, p3, fun h => by omega, fun j hj => ?_⟩
    obtain rfl : i = j := by omega
    cases i with
    | zero => exact p4 rfl
    | succ i => exact p5 i rfl
theorem endR_last : ∀ {l : List RG} {a v : Int}, l ≠ [] → endR a v l = ((l.getD (l.length - 1) (0, 0, 0)).2.1, (l.getD (l.length - 1) (0, 0, 0)).2.2)
  | [], _, _, h => absurd rfl h
  | [r], _, _, _ => rfl
  | r :: q :: l, a, v, _ => by
    have := endR_last (l := q :: l) (a := r.2.1) (v := r.2.2) (by simp)
    show endR r.2.1 r.2.2 (q :: l) = _
    rw [this]
    simp
theorem scan_nothing {τ : Type} [Inhabited τ] {n : Nat} {stop : Nat → Option τ} (h : ∀ i, i < n → stop i = none) : ∀ d i, (scan n (· + 1) stop d i).1 = false
  | 0, _ => rfl
  | d + 1, i => by
    simp only [scan]
    by_cases hi : i < n
    · rw [if_pos hi, h i hi]; exact scan_nothing h d (i + 1)
    · rw [if_neg hi]
theorem split_good {n : Int} {l : List RG} (h : chainR n 0 0 l) (he : (endR 0 0 l).1 = 10000) (h1 : 1 ≤ l.length) (h16 : l.length ≤ 16) : splitE l n = 0 := by
  have hs : (splitSeek l n).1 = false := scan_nothing (fun i hi => by
    obtain ⟨p1, p2, p3, p4, p5⟩ := chain_at i h hi
    have hp : (l.getD i (0, 0, 0)).1 = (prevR l i).2.1 ∧ (l.getD i (0, 0, 0)).2.2 ≠ (prevR l i).2.2 := by
      cases i with
      | zero => exact p4 rfl
      | succ i => rw [prevR_succ]; exact p5 i rfl
    unfold splitStop
    rw [decide_eq_false (show ¬ (l.getD i (0, 0, 0)).2.2 < 1 by omega), decide_eq_false (show ¬ (l.getD i (0, 0, 0)).2.2 > n by omega), hp.1, decide_eq_false (show ¬ (l.getD i (0, 0, 0)).2.1 ≤ (prevR l i).2.1 by omega), beq_eq_false_iff_ne.2 hp.2]
    simp) _ _
  have hl : (prevR l l.length).2.1 = 10000 := by
    obtain ⟨k, hk⟩ : ∃ k, l.length = k + 1 := ⟨l.length - 1, by omega⟩
    rw [hk, prevR_succ, ← he, endR_last (by intro h0; subst h0; simp at h1)]
    rw [hk]; rfl
  unfold splitE
  rw [decide_eq_false (by omega), hs, hl]; rfl
def inR (b : Int) (r : RG) : Bool := decide (r.1 ≤ b) && decide (b < r.2.1)
def hits (b : Int) : List RG → Nat
  | [] => 0
  | r :: l => (bif inR b r then 1 else 0) + hits b l
theorem hits_before {n b : Int} : ∀ {l : List RG} {a v : Int}, chainR n a v l → b < a → hits b l = 0
  | [], _, _, _, _ => rfl
  | r :: l, a, v, h, hb => by
    have hr : inR b r = false := by unfold inR; rw [decide_eq_false (by have := h.1; omega)]; rfl
    rw [hits, hr, hits_before h.2.2.2.2.2 (by have := h.1; have := h.2.1; omega)]; rfl
theorem hits_one {n b : Int} : ∀ {l : List RG} {a v : Int}, chainR n a v l → a ≤ b → b < (endR a v l).1 → hits b l = 1
  | [], a, v, _, h1, h2 => by have h2 : b < a := h2; omega
  | r :: l, a, v, h, h1, h2 => by
    by_cases hb : b < r.2.1
    · have hr : inR b r = true := by unfold inR; rw [decide_eq_true (by have := h.1; omega), decide_eq_true hb]; rfl
      rw [hits, hr, hits_before h.2.2.2.2.2 hb]; rfl
    · have hr : inR b r = false := by unfold inR; rw [decide_eq_false hb, Bool.and_false]
      rw [hits, hr, hits_one h.2.2.2.2.2 (by omega) h2]; rfl
def pickL (b : Int) : List RG → Int
  | [] => 0
  | r :: l => bif inR b r then r.2.2 else pickL b l
theorem pick_one {n b : Int} : ∀ {l : List RG} {a v : Int}, chainR n a v l → hits b l = 1 → 1 ≤ pickL b l
  | [], _, _, _, h => by cases h
  | r :: l, a, v, h, hh => by
    rw [pickL]
    rw [hits] at hh
    cases hr : inR b r with
    | true => exact h.2.2.1
    | false => rw [hr] at hh; exact pick_one h.2.2.2.2.2 (by simpa using hh)
end Go.SH

namespace Go.Ab
open Go Go.RowKit
variable {B : Base} {c : Cx} {s : St} {a : Act}
def Told (cs cs' : List AV) : Prop := cs'.length = cs.length ∧ keysL cs' = [] ∧ ∀ (i : Nat) (u u' : AV), cs[i]? = some u → cs'[i]? = some u' → u'.one = true ∧ ∀ c x, Rep c u x → Rep c u' x
inductive ObjLe : AO → AO → Prop
  | same (o) : ObjLe o o
  | cells (cs cs') : Told cs cs' → ObjLe (.cells cs) (.cells cs')
  | grw (sz n get get') : (∀ j, j < n → get' j = get j) → ObjLe (.grw sz n get) (.grw sz n get')
inductive ObjsLe : List (Nat × AO) → List (Nat × AO) → Prop
  | nil : ObjsLe [] []
  | cons (k o o' r r') : ObjLe o o' → ObjsLe r r' → ObjsLe ((k, o) :: r) ((k, o') :: r')
theorem ObjsLe.look {l l' : List (Nat × AO)} (h : ObjsLe l l') (k : Nat) : (alook l k = none ∧ alook l' k = none) ∨ ∃ o o', alook l k = some o ∧ alook l' k = some o' ∧ ObjLe o o' := by
  induction h with
  | nil => exact .inl ⟨rfl, rfl⟩
  | cons q o o' r r' h1 _ ih =>
    simp only [alook]
    cases hb : Nat.beq q k with
    | true => exact .inr ⟨o, o', rfl, rfl, h1⟩
    | false => exact ih
theorem ObjLe.excl {o o' : AO} (h : ObjLe o o') (k : Nat) : excl c k o' = excl c k o := by cases h <;> rfl
theorem ObjLe.keys {o o' : AO} (h : ObjLe o o') : o' = o ∨ o'.keys = [] := by
  cases h with
  | same => exact .inl rfl
  | cells cs cs' h => exact .inr h.2.1
  | grw sz n get get' h => exact .inr rfl
theorem ObjLe.rep {o o' : AO} (h : ObjLe o o') {k : Nat} (hr : ObjRep c k o) : ObjRep c k o' := by
  cases h with
  | same => exact hr
  | cells cs cs' h =>
    obtain ⟨⟨⟨vs, t, hh, hs, hv⟩, h1⟩, hI, hf⟩ := hr
    have hg : ∀ (i : Nat) (u' : AV), cs'[i]? = some u' → ∃ u, cs[i]? = some u := fun i u' hu => by
      have := (List.getElem?_eq_some_iff.1 hu).1
      rw [h.1] at this
      exact ⟨_, List.getElem?_eq_getElem this⟩
    refine ⟨⟨⟨vs, t, hh, by rw [h.1]; exact hs, fun i u' hu => ?_⟩, fun i u' hu => ?_⟩, hI, hf⟩
    · obtain ⟨u, hu0⟩ := hg i u' hu
      exact (h.2.2 i u u' hu0 hu).2 _ _ (hv i u hu0)
    · obtain ⟨u, hu0⟩ := hg i u' hu
      exact (h.2.2 i u u' hu0 hu).1
  | grw sz n get get' h =>
    obtain ⟨h0, hfr, hm⟩ := hr
    refine ⟨h0, hfr, ?_⟩
    cases hc : c.κ k with
    | none => simp only [hc] at hm; exact hm
    | some p =>
      obtain ⟨a, cap⟩ := p
      simp only [hc] at hm ⊢
      refine ⟨hm.1, fun hlt => ?_⟩
      obtain ⟨⟨vs, t, hh, hs, hv⟩, had, hl, h1, hfree⟩ := hm.2 hlt
      exact ⟨⟨vs, t, hh, hs, fun j i u hj hu => hv j i u hj (by rwa [h j hj] at hu)⟩, had, fun j hj => by rw [h j hj]; exact hl j hj, fun j i u hj hu => h1 j i u hj (by rwa [h j hj] at hu), hfree⟩
theorem Rel.weak (h : Rel B c s a) {objs' : List (Nat × AO)} (hw : ObjsLe s.objs objs') : Rel B c { env := s.env, objs := objs' } a := by
  have hlive : ∀ k, live s.objs k → live objs' k := fun k hk => by
    obtain ⟨o, hk⟩ := hk
    rcases hw.look k with ⟨h1, _⟩ | ⟨_, o', _, h2, _⟩
    · rw [h1] at hk; cases hk
    · exact ⟨o', h2⟩
  have hback : ∀ {k o'}, alook objs' k = some o' → ∃ o, alook s.objs k = some o ∧ ObjLe o o' := fun {k o'} hk => by
    rcases hw.look k with ⟨_, h1⟩ | ⟨o, o2, h1, h2, h3⟩
    · rw [h1] at hk; cases hk
    · rw [h2] at hk; cases hk; exact ⟨o, h1, h3⟩
  refine ⟨h.good, h.frame, ⟨fun k o' hk => ?_, fun k o' q o2 b hk hq hne hb => ?_, fun k o' hk q hq => ?_⟩, h.env, fun t v hv k hk => hlive k (h.closed t v hv k hk), fun k o' b hk hb => ?_, h.tmps, h.defers, fun k hk => hlive k (h.kept k hk)⟩
  · obtain ⟨o, h1, h2⟩ := hback hk
    exact h2.rep (h.objs.rep k o h1)
  · obtain ⟨o, h1, h2⟩ := hback hk
    obtain ⟨o3, h3, h4⟩ := hback hq
    rw [h4.excl]
    rw [h2.excl] at hb
    exact h.objs.apart k o q o3 b h1 h3 hne hb
  · obtain ⟨o, h1, h2⟩ := hback hk
    rcases h2.keys with rfl | h0
    · exact hlive q (h.objs.closed k _ h1 q hq)
    · rw [h0] at hq; cases hq
  · obtain ⟨o, h1, h2⟩ := hback hk
    rw [h2.excl] at hb
    exact h.mine k o b h1 hb
open Classical in
theorem viewOk_weak {α : Type} [Inhabited α] (S S' : α → St) (Inv : α → Prop) (hS : ∀ v, Inv v → (S' v).env = (S v).env ∧ ObjsLe (S v).objs (S' v).objs) : ViewOk (mkV (goodS S Inv) (valS S Inv id) S') := by
  intro s k r h
  unfold mkV at h
  obtain ⟨hg, h⟩ := cond_none h
  have hx : ∃ v, Inv v ∧ S v = s := of_decide_eq_true hg
  unfold valS at h
  rw [dif_pos hx, id] at h
  obtain ⟨h1, h2⟩ := hx.choose_spec
  obtain ⟨e1, e2⟩ := hS _ h1
  refine ⟨_, h, fun B c a hr hn => ⟨c, rfl, ?_, ?_⟩⟩
  · rw [h2] at e1 e2
    have := hr.weak e2
    rw [← e1] at this
    exact this
  · intro t v hv
    refine hn t v ?_
    rw [← h2]
    show alook (S hx.choose).env t = some v
    rw [← e1]; exact hv
end Go.Ab

namespace Go.Ab
open Go Go.RowKit
variable {B : Base} {c : Cx} {s : St} {a : Act}
def fzSlot (s : St) (t : Nat) : Option St := (s.get t).bind fun v => (freezeA s.objs v).map fun r => ({ env := s.env, objs := r.2 } : St).put (some t) r.1
def fzCell (s : St) (ob off : Nat) : Option St :=
  match s.obj ob with
  | some (.cells cs) => (cs[off]?).bind fun v => (freezeA s.objs v).bind fun r => (match alook r.2 ob with
    | some (.cells cs') => some { env := s.env, objs := aput r.2 ob (.cells (cs'.set off r.1)) }
    | _ => none)
  | _ => none
theorem fzSlot_sound {t : Nat} {s' : St} (h : Rel B c s a) (hn : NoGrd s) (he : fzSlot s t = some s') : ∃ c', c'.w = c.w ∧ Rel B c' s' a ∧ NoGrd s' := by
  unfold fzSlot at he
  obtain ⟨v, hv, he⟩ := opt_bind he
  obtain ⟨⟨v', objs'⟩, hf, rfl⟩ := opt_map he
  have hp := hn t v hv
  have hr : Rep c v (a.tmps.getD t undef) := by
    have := h.env t v hv
    cases v <;> first | exact this | simp [AV.isGrd] at hp
  obtain ⟨c', e1, e2, e3, _, _⟩ := freezeA_sound h ⟨hr, h.closed t v hv, hp⟩ hf
  have hn' : NoGrd { env := s.env, objs := objs' } := fun q u hu => hn q u hu
  exact ⟨c', e1, e2.reslot e3 hn', hn'.put e3.plain⟩
theorem freezeA_keep {objs objs' : List (Nat × AO)} {v v' : AV} (h : freezeA objs v = some (v', objs')) {ob : Nat} {cs : List AV} (ho : alook objs ob = some (.cells cs)) : alook objs' ob = some (.cells cs) := by
  cases v with
  | msl k sz off n =>
    simp only [freezeA] at h
    split at h
    · rename_i hk
      obtain ⟨_, h⟩ := guardO_inv h
      simp only [Option.some.injEq, Prod.mk.injEq] at h
      rw [← h.2, alook_aput]
      by_cases e : k = ob
      · subst e; rw [hk] at ho; cases ho
      · rw [if_neg e]; exact ho
    · obtain ⟨_, h⟩ := guardO_inv h
      simp only [Option.some.injEq, Prod.mk.injEq] at h
      rw [← h.2]; exact ho
    · cases h
  | gsl k sz n =>
    simp only [freezeA] at h
    split at h
    · rename_i hk
      obtain ⟨_, h⟩ := guardO_inv h
      simp only [Option.some.injEq, Prod.mk.injEq] at h
      rw [← h.2, alook_aput]
      by_cases e : k = ob
      · subst e; rw [hk] at ho; cases ho
      · rw [if_neg e]; exact ho
    · cases h
  | _ => simp only [freezeA, Option.some.injEq, Prod.mk.injEq] at h; rw [← h.2]; exact ho
theorem fzCell_sound {ob off : Nat} {s' : St} (h : Rel B c s a) (hn : NoGrd s) (he : fzCell s ob off = some s') : ∃ c', c'.w = c.w ∧ Rel B c' s' a ∧ NoGrd s' := by
  unfold fzCell at he
  split at he
  · rename_i cs hob
    obtain ⟨v, hg, he⟩ := opt_bind he
    obtain ⟨⟨v', objs'⟩, hf, he⟩ := opt_bind he
    have hob1 := freezeA_keep hf hob
    simp only [hob1, Option.some.injEq] at he
    subst he
    obtain ⟨⟨⟨vs, t, hh, hs, hv⟩, h1⟩, hI, hfr⟩ := h.objs.rep ob _ hob
    have hsee : Sees B c s v (vs.getD off undef) := ⟨hv off v hg, fun k hk => h.objs.closed ob _ hob k (by simpa [AO.keys] using keys_mem_of hg k hk), (hv off v hg).plain⟩
    obtain ⟨c1, e1, e2, e3, _, e6⟩ := freezeA_sound h hsee hf
    obtain ⟨⟨⟨vs1, t1, hh1, hs1, hv1⟩, h11⟩, hI1, hfr1⟩ := e2.objs.rep ob _ hob1
    have hβ : c1.β ob = c.β ob := e6.β ob ⟨_, hob⟩
    rw [e1, hβ, hh] at hh1
    simp only [Option.some.injEq, Obj.cells.injEq] at hh1
    obtain ⟨rfl, rfl, _⟩ := hh1
    have hoff : off < cs.length := (List.getElem?_eq_some_iff.1 hg).1
    have hget : ∀ (i : Nat) (u : AV), (cs.set off v')[i]? = some u → (i = off ∧ u = v') ∨ cs[i]? = some u := by
      intro i u hu
      rw [List.getElem?_set] at hu
      by_cases e : off = i
      · subst e; simp [hoff] at hu; exact .inl ⟨rfl, hu.symm⟩
      · rw [if_neg e] at hu; exact .inr hu
    let s1 : St := { env := s.env, objs := objs' }
    have hrel : Rel B c1 (s1.setObj ob (.cells (cs.set off v'))) a := by
      refine e2.obj (k := ob) ((Keeps.refl c1 s1.objs).but ob) (Grow.refl e2.good) ⟨⟨⟨vs, t, by rw [e1, hβ]; exact hh, by rw [hs, List.length_set], fun i u hu => ?_⟩, fun i u hu => ?_⟩, hI1, hfr1⟩
        (fun q o' b hq hne' hb' e => e2.objs.apart q o' ob _ b hq hob1 hne' hb' e) (fun q hq => ?_) (fun b hb' => e2.mine ob _ b hob1 hb')
      · rcases hget i u hu with ⟨rfl, rfl⟩ | hu
        · exact e3.rep
        · exact hv1 i u hu
      · rcases hget i u hu with ⟨rfl, rfl⟩ | hu
        · rw [freezeA_one hf]; exact h1 _ _ hg
        · exact h1 i u hu
      · simp only [AO.keys] at hq
        rcases keysL_set q hq with hq | hq
        · exact .inr (e3.live q hq)
        · exact .inr (e2.objs.closed ob _ hob1 q (by simpa [AO.keys] using hq))
    exact ⟨c1, e1, hrel, fun q u hu => hn q u hu⟩
  · cases he
open Classical in
theorem viewOk_step {α : Type} [Inhabited α] (S S' : α → St) (Inv : α → Prop) (hS : ∀ v, Inv v → ∀ (B : Base) (c : Cx) (a : Act), Rel B c (S v) a → NoGrd (S v) → ∃ c', c'.w = c.w ∧ Rel B c' (S' v) a ∧ NoGrd (S' v)) : ViewOk (mkV (goodS S Inv) (valS S Inv id) S') := by
  intro s k r h
  unfold mkV at h
  obtain ⟨hg, h⟩ := cond_none h
  have hx : ∃ v, Inv v ∧ S v = s := of_decide_eq_true hg
  unfold valS at h
  rw [dif_pos hx, id] at h
  obtain ⟨h1, h2⟩ := hx.choose_spec
  exact ⟨_, h, fun B c a hr hn => hS _ h1 B c a (by rw [h2]; exact hr) (by rw [h2]; exact hn)⟩
end Go.Ab

namespace Go.SH
open Go Go.Ab Go.Proofs
set_option linter.unusedVariables false
set_option linter.unusedSimpArgs false
noncomputable def V3 : Env := { V2 with hint := fun f t => cond (Nat.beq f 55) (hn [0, 1, 6] [75] [] []) (V2.hint f t), grow := fun o => cond (Nat.beq o.type 37) (match o.dst with | some d => Nat.beq d 8 || Nat.beq d 75 | none => false) false, brk := fun o => match o.dst with | some d => cond (Nat.beq d 14) (Nat.beq o.type 29) (cond (Nat.beq d 15) (Nat.beq o.type 3) (Nat.beq d 16 && Nat.beq o.type 4)) | none => false }
structure RV where
  k : Nat
  n : Nat
  get : Nat → List AV
  C : CODES
instance : Inhabited RV := ⟨⟨0, 0, fun _ => [], default⟩⟩
def RS1 (n : Nat) (x : List (Int × Int × Int) × CODES) : St := { env := [(0, .ref keyBase 0), (1, .gsl 8 3 n)], objs := [(8, .grw 3 n (getR x.1)), (keyBase, codO x.2)] }
def RS2 (x : RV) : St := { env := [(1, .sl .no 3 x.n x.get)], objs := [(keyBase, codO x.C), (x.k, .own 3 x.n)] }
def RL0 (C : CODES) : St := { env := [(0, .ref keyBase 0), (1, .sl .fit 0 0 fun _ => []), (6, .int .i64 0)], objs := [(keyBase, codO C)] }
def RL (m : Nat) (get : Nat → List AV) (C : CODES) (i : Int) : St := { env := [(0, .ref keyBase 0), (1, .gsl 75 3 m), (6, .int .i64 i)], objs := [(75, .grw 3 m get), (keyBase, codO C)] }
def RE (m : Nat) (get : Nat → List AV) (C : CODES) : St := { env := [(1, .gsl 75 3 m)], objs := [(75, .grw 3 m get), (keyBase, codO C)] }
structure RO where
  m : Nat
  get : Nat → List AV
  C : CODES
instance : Inhabited RO := ⟨⟨0, fun _ => [], default⟩⟩
def outR (x : RO) (k : Ex → St → Res) : Res := k (.exit 1) (RE x.m x.get x.C)
structure RP where
  m : Nat
  l : List (Int × Int × Int)
  C : CODES
instance : Inhabited RP := ⟨⟨0, [], default⟩⟩
def RS3 (x : RP) : St := RE x.m (getR x.l) x.C
set_option maxRecDepth 100000 in
theorem rg_nil (ge gu : List AV → List AO → Bool) (ve vu : List AV → List AO → Int × CODES) (get : Nat → List AV) (C : CODES)  : runF (V2.run [mkE 19 ge ve φX, mkE 51 gu vu φX] 3 [] [] [] 55) 9 55 [.ref keyBase 0, .sl .no 3 0 get] [codO C] =
  some ((.sl .no 3 0 (appGet 0 0 (fun x => []) get), [codO C])) := by kernel_rfl
set_option maxRecDepth 100000 in
theorem rg_r0 (ge : List AV → List AO → Bool) (ve : List AV → List AO → Int × CODES) (T : List Ent) (L : List (List Nat × Orc)) (v1 v2 v3 : Vw) (m : Nat) (C : CODES) (kn : St → Res) (k : Ex → St → Res) {t1 : Int × CODES} (h_t1 : ve [.ref 1000000 0, .int .i64 2] [codO C] = t1) : roundR (V3.run (mkE 19 ge ve φX :: T) 3 [] L [([1, 1, 1], v1), ([1, 1, 1, 1, 1], v2), ([1, 1, 1, 1, 0, 1, 0, 1, 1, 1, 1, 1, 1, 1, 1, 1, 1, 1, 0, 1, 1], v3)] 55) 55 m [1, 1, 1, 1, 0, 1, 0, 1, 1, 1, 1, 1, 1, 1, 1, 1, 1, 1, 0, 1, 0, 1, 0] (RL0 C) kn k =
  cond (ge [.ref 1000000 0, .int .i64 2] [codO C]) (cond (decide (0 < IntKind.wrap IntKind.i64 (16 + Prod.fst t1))) (kn (RL 1 (appGet 0 1 (fun x => []) (fillGet [.int .i64 0, .int .i64 0, .int .i64 0] [(0, .agg [.int .i64 0, .int .i64 (IntKind.wrap IntKind.i64 (0 + 1)), .int .i64 (IntKind.wrap IntKind.i64 (1 + Int.tmod 0 2))])])) (Prod.snd t1) (IntKind.wrap IntKind.i64 (0 + 1)))) (k (.exit 1) ({ env := [(1, .sl .fit 0 0 fun x => [])], objs := [(1000000, codO (Prod.snd t1))] }))) (none) := by subst h_t1; kernel_rfl
set_option maxRecDepth 100000 in
theorem rg_r (ge : List AV → List AO → Bool) (ve : List AV → List AO → Int × CODES) (T : List Ent) (L : List (List Nat × Orc)) (v1 v2 v3 : Vw) (m : Nat) (q : Nat) (get : Nat → List AV) (C : CODES) (i : Nat) (kn : St → Res) (k : Ex → St → Res) {t1 : Int × CODES} (h_t1 : ve [.ref 1000000 0, .int .i64 2] [codO C] = t1) : roundR (V3.run (mkE 19 ge ve φX :: T) 3 [] L [([1, 1, 1], v1), ([1, 1, 1, 1, 1], v2), ([1, 1, 1, 1, 0, 1, 0, 1, 1, 1, 1, 1, 1, 1, 1, 1, 1, 1, 0, 1, 1], v3)] 55) 55 m [1, 1, 1, 1, 0, 1, 0, 1, 1, 1, 1, 1, 1, 1, 1, 1, 1, 1, 0, 1, 0, 1, 0] (RL (q + 1) get C i) kn k =
  cond (ge [.ref 1000000 0, .int .i64 2] [codO C]) (cond (decide ((↑i : Int) < IntKind.wrap IntKind.i64 (16 + Prod.fst t1))) (cond (roomy (24) (q + 1 + 1) && Nat.beq (q + 1) (q + 1)) (kn (RL (q + 1 + 1) (appGet (q + 1) 1 get (fillGet [.int .i64 0, .int .i64 0, .int .i64 0] [(0, .agg [.int .i64 (↑i : Int), .int .i64 (IntKind.wrap IntKind.i64 ((↑i : Int) + 1)), .int .i64 (IntKind.wrap IntKind.i64 (1 + Int.tmod (↑i : Int) 2))])])) (Prod.snd t1) (IntKind.wrap IntKind.i64 ((↑i : Int) + 1)))) (none)) (k (.exit 1) (RE (q + 1) get (Prod.snd t1)))) (none) := by subst h_t1; kernel_rfl
set_option maxRecDepth 100000 in
theorem rg_3 (ge gu : List AV → List AO → Bool) (ve vu : List AV → List AO → Int × CODES) (D : CODES) (q : Nat) (get : Nat → List AV) (C : CODES) {t1 : Int × CODES} (h_t1 : ve [.ref 1000000 0, .int .i64 (↑(0 + (q + 1)) : Int)] [codO C] = t1) : runF (V2.run [mkE 19 ge (fun l os => cond (argN 6 l) (3, D) (ve l os)) φX, mkE 51 gu vu φX] 3 [] [] [] 55) 9 55 [.ref keyBase 0, .sl .no 3 (q + 1) get] [codO C] =
  cond (roomy (24) (0 + (q + 1))) (cond (ge [.ref 1000000 0, .int .i64 (↑(0 + (q + 1)) : Int)] [codO C]) (cond (ge [.ref 1000000 0, .int .i64 6] [codO (Prod.snd (bif argN 6 [.ref 1000000 0, .int .i64 (↑(0 + (q + 1)) : Int)] then (3, D) else t1))]) (cond (decide (0 ≤ (↑0 : Int)) && (decide ((↑0 : Int) ≤ Prod.fst (bif argN 6 [.ref 1000000 0, .int .i64 (↑(0 + (q + 1)) : Int)] then (3, D) else t1)) && decide (Prod.fst (bif argN 6 [.ref 1000000 0, .int .i64 (↑(0 + (q + 1)) : Int)] then (3, D) else t1) ≤ (↑(0 + (q + 1)) : Int)))) (some ((.sl .no 3 (Int.toNat (Prod.fst (bif argN 6 [.ref 1000000 0, .int .i64 (↑(0 + (q + 1)) : Int)] then (3, D) else t1)) - Int.toNat (↑0 : Int)) fun j => appGet 0 (q + 1) (fun x => []) get (Int.toNat (↑0 : Int) + j), [codO D]))) (none)) (none)) (none)) (none) := by subst h_t1; kernel_rfl
set_option maxRecDepth 100000 in
theorem rg_m (ge gu : List AV → List AO → Bool) (ve vu : List AV → List AO → Int × CODES) (g1 g2 g3 g4 : St → Bool) (v1 : St → List (Int × Int × Int) × CODES) (v2 : St → RV) (v3 : St → RO) (v4 : St → RP) (q : Nat) (l : List (Int × Int × Int)) (C : CODES) {t1 : List (Int × Int × Int) × CODES} (h_t1 : v1 { env := [(0, .ref 1000000 0), (1, AV.gsl 8 3 (0 + (q + 1)))], objs := [(8, AO.grw 3 (0 + (q + 1)) (appGet 0 (q + 1) (fun x => []) (getR l))), (1000000, codO C)] } = t1) {t2 : Int × CODES} (h_t2 : ve [.ref 1000000 0, .int .i64 (↑(q + 1) : Int)] [codO (Prod.snd t1)] = t2) {t3 : Int × CODES} (h_t3 : ve [.ref 1000000 0, .int .i64 6] [codO (Prod.snd t2)] = t3) {t4 : Int × CODES} (h_t4 : vu [.ref 1000000 0] [codO (Prod.snd t3)] = t4) {t5 : RV} (h_t5 : v2 { env := [(1, AV.gsl 8 3 (q + 1))], objs := [(8, AO.grw 3 (q + 1) fun j => bif Nat.beq j (Int.toNat (Prod.fst t2)) then [.int .i64 (Prod.fst t4), .int .i64 (Prod.fst (Prod.snd (List.getD (Prod.fst t1) (Int.toNat (Prod.fst t2)) (0, 0, 0)))), .int .i64 (Prod.snd (Prod.snd (List.getD (Prod.fst t1) (Int.toNat (Prod.fst t2)) (0, 0, 0))))] else rngC (List.getD (Prod.fst t1) j (0, 0, 0))), (1000000, codO (Prod.snd t4))] } = t5) {t6 : RV} (h_t6 : v2 { env := [(1, AV.gsl 8 3 (q + 1))], objs := [(8, AO.grw 3 (q + 1) fun j => bif Nat.beq j (Int.toNat (Prod.fst t2)) then [.int .i64 (Prod.fst (List.getD (Prod.fst t1) (Int.toNat (Prod.fst t2)) (0, 0, 0))), .int .i64 (Prod.fst t4), .int .i64 (Prod.snd (Prod.snd (List.getD (Prod.fst t1) (Int.toNat (Prod.fst t2)) (0, 0, 0))))] else rngC (List.getD (Prod.fst t1) j (0, 0, 0))), (1000000, codO (Prod.snd t4))] } = t6) {t7 : RV} (h_t7 : v2 { env := [(1, AV.gsl 8 3 (q + 1))], objs := [(8, AO.grw 3 (q + 1) fun j => bif Nat.beq j (Int.toNat (Prod.fst t2)) then [.int .i64 (Prod.fst (List.getD (Prod.fst t1) (Int.toNat (Prod.fst t2)) (0, 0, 0))), .int .i64 (Prod.fst (Prod.snd (List.getD (Prod.fst t1) (Int.toNat (Prod.fst t2)) (0, 0, 0)))), .int .i64 (Prod.fst t4)] else rngC (List.getD (Prod.fst t1) j (0, 0, 0))), (1000000, codO (Prod.snd t4))] } = t7) {t8 : RV} (h_t8 : v2 { env := [(1, AV.gsl 8 3 (q + 1 + 1))], objs := [(8, AO.grw 3 (q + 1 + 1) (appGet (q + 1) 1 (getR (Prod.fst t1)) (fillGet [.int .i64 0, .int .i64 0, .int .i64 0] [(0, .agg (rngC (List.getD (Prod.fst t1) (Int.toNat (Prod.fst t2)) (0, 0, 0))))]))), (1000000, codO (Prod.snd t3))] } = t8) {t9 : RO} (h_t9 : v3 { env := [(0, .ref 1000000 0), (1, .sl .fit 0 0 fun x => []), (6, .int .i64 0)], objs := [(1000000, codO (Prod.snd t3))] } = t9) {t10 : RP} (h_t10 : v4 (RE (RO.m t9) (RO.get t9) (RO.C t9)) = t10) {t11 : RV} (h_t11 : v2 (RE (RP.m t10) (fun j => bif Nat.beq j (Int.toNat (IntKind.wrap IntKind.i64 ((↑(RP.m t10) : Int) - 1))) then [.int .i64 (Prod.fst (List.getD (RP.l t10) (Int.toNat (IntKind.wrap IntKind.i64 ((↑(RP.m t10) : Int) - 1))) (0, 0, 0))), .int .i64 10000, .int .i64 (Prod.snd (Prod.snd (List.getD (RP.l t10) (Int.toNat (IntKind.wrap IntKind.i64 ((↑(RP.m t10) : Int) - 1))) (0, 0, 0))))] else rngC (List.getD (RP.l t10) j (0, 0, 0))) (RP.C t10)) = t11) {t12 : RV} (h_t12 : v2 { env := [(1, AV.gsl 8 3 (q + 1))], objs := [(8, AO.grw 3 (q + 1) (getR (Prod.fst t1))), (1000000, codO (Prod.snd t3))] } = t12) : runF (V3.run [mkE 19 ge ve φX, mkE 51 gu vu φX] 3 [] [([1, 1, 1, 1, 0, 1, 0, 1, 1, 1, 1, 1, 1, 1, 1, 1, 1, 1, 0, 1, 0, 1, 0], mkO g3 v3 outR)] [([1, 1, 1], mkV g1 v1 (RS1 (q + 1))), ([1, 1, 1, 1, 1], mkV g2 v2 RS2), ([1, 1, 1, 1, 0, 1, 0, 1, 1, 1, 1, 1, 1, 1, 1, 1, 1, 1, 0, 1, 1], mkV g4 v4 RS3)] 55) 9 55 [.ref keyBase 0, .sl .no 3 (q + 1) (getR l)] [codO C] =
  cond (roomy (24) (0 + (q + 1))) (cond (g1 { env := [(0, .ref 1000000 0), (1, AV.gsl 8 3 (0 + (q + 1)))], objs := [(8, AO.grw 3 (0 + (q + 1)) (appGet 0 (q + 1) (fun x => []) (getR l))), (1000000, codO C)] }) (cond (ge [.ref 1000000 0, .int .i64 (↑(q + 1) : Int)] [codO (Prod.snd t1)]) (cond (ge [.ref 1000000 0, .int .i64 6] [codO (Prod.snd t2)]) (cond (Prod.fst t3 == 0) (cond (gu [.ref 1000000 0] [codO (Prod.snd t3)]) (cond (within (Prod.fst t2) (q + 1) && Nat.beq (q + 1) (q + 1)) (cond (Nat.blt (Int.toNat (Prod.fst t2)) (q + 1) && Nat.beq (q + 1) (q + 1)) (cond (g2 { env := [(1, AV.gsl 8 3 (q + 1))], objs := [(8, AO.grw 3 (q + 1) fun j => bif Nat.beq j (Int.toNat (Prod.fst t2)) then [.int .i64 (Prod.fst t4), .int .i64 (Prod.fst (Prod.snd (List.getD (Prod.fst t1) (Int.toNat (Prod.fst t2)) (0, 0, 0)))), .int .i64 (Prod.snd (Prod.snd (List.getD (Prod.fst t1) (Int.toNat (Prod.fst t2)) (0, 0, 0))))] else rngC (List.getD (Prod.fst t1) j (0, 0, 0))), (1000000, codO (Prod.snd t4))] }) (some ((.sl .no 3 (RV.n t5) (RV.get t5), [codO (RV.C t5)]))) (none)) (none)) (none)) (none)) (cond (Prod.fst t3 == 1) (cond (gu [.ref 1000000 0] [codO (Prod.snd t3)]) (cond (within (Prod.fst t2) (q + 1) && Nat.beq (q + 1) (q + 1)) (cond (Nat.blt (Int.toNat (Prod.fst t2)) (q + 1) && Nat.beq (q + 1) (q + 1)) (cond (g2 { env := [(1, AV.gsl 8 3 (q + 1))], objs := [(8, AO.grw 3 (q + 1) fun j => bif Nat.beq j (Int.toNat (Prod.fst t2)) then [.int .i64 (Prod.fst (List.getD (Prod.fst t1) (Int.toNat (Prod.fst t2)) (0, 0, 0))), .int .i64 (Prod.fst t4), .int .i64 (Prod.snd (Prod.snd (List.getD (Prod.fst t1) (Int.toNat (Prod.fst t2)) (0, 0, 0))))] else rngC (List.getD (Prod.fst t1) j (0, 0, 0))), (1000000, codO (Prod.snd t4))] }) (some ((.sl .no 3 (RV.n t6) (RV.get t6), [codO (RV.C t6)]))) (none)) (none)) (none)) (none)) (cond (Prod.fst t3 == 2) (cond (gu [.ref 1000000 0] [codO (Prod.snd t3)]) (cond (within (Prod.fst t2) (q + 1) && Nat.beq (q + 1) (q + 1)) (cond (Nat.blt (Int.toNat (Prod.fst t2)) (q + 1) && Nat.beq (q + 1) (q + 1)) (cond (g2 { env := [(1, AV.gsl 8 3 (q + 1))], objs := [(8, AO.grw 3 (q + 1) fun j => bif Nat.beq j (Int.toNat (Prod.fst t2)) then [.int .i64 (Prod.fst (List.getD (Prod.fst t1) (Int.toNat (Prod.fst t2)) (0, 0, 0))), .int .i64 (Prod.fst (Prod.snd (List.getD (Prod.fst t1) (Int.toNat (Prod.fst t2)) (0, 0, 0)))), .int .i64 (Prod.fst t4)] else rngC (List.getD (Prod.fst t1) j (0, 0, 0))), (1000000, codO (Prod.snd t4))] }) (some ((.sl .no 3 (RV.n t7) (RV.get t7), [codO (RV.C t7)]))) (none)) (none)) (none)) (none)) (cond (Prod.fst t3 == 3) (none) (cond (Prod.fst t3 == 4) (cond (within (Prod.fst t2) (q + 1) && Nat.beq (q + 1) (q + 1)) (cond (Nat.blt (Int.toNat (Prod.fst t2)) (q + 1) && Nat.beq (q + 1) (q + 1)) (cond (roomy (24) (q + 1 + 1) && Nat.beq (q + 1) (q + 1)) (cond (g2 { env := [(1, AV.gsl 8 3 (q + 1 + 1))], objs := [(8, AO.grw 3 (q + 1 + 1) (appGet (q + 1) 1 (getR (Prod.fst t1)) (fillGet [.int .i64 0, .int .i64 0, .int .i64 0] [(0, .agg (rngC (List.getD (Prod.fst t1) (Int.toNat (Prod.fst t2)) (0, 0, 0))))]))), (1000000, codO (Prod.snd t3))] }) (some ((.sl .no 3 (RV.n t8) (RV.get t8), [codO (RV.C t8)]))) (none)) (none)) (none)) (none)) (cond (Prod.fst t3 == 5) (cond (g3 { env := [(0, .ref 1000000 0), (1, .sl .fit 0 0 fun x => []), (6, .int .i64 0)], objs := [(1000000, codO (Prod.snd t3))] }) (cond (g4 (RE (RO.m t9) (RO.get t9) (RO.C t9))) (cond (within (IntKind.wrap IntKind.i64 ((↑(RP.m t10) : Int) - 1)) (RP.m t10) && Nat.beq (RP.m t10) (RP.m t10)) (cond (Nat.blt (Int.toNat (IntKind.wrap IntKind.i64 ((↑(RP.m t10) : Int) - 1))) (RP.m t10) && Nat.beq (RP.m t10) (RP.m t10)) (cond (g2 (RE (RP.m t10) (fun j => bif Nat.beq j (Int.toNat (IntKind.wrap IntKind.i64 ((↑(RP.m t10) : Int) - 1))) then [.int .i64 (Prod.fst (List.getD (RP.l t10) (Int.toNat (IntKind.wrap IntKind.i64 ((↑(RP.m t10) : Int) - 1))) (0, 0, 0))), .int .i64 10000, .int .i64 (Prod.snd (Prod.snd (List.getD (RP.l t10) (Int.toNat (IntKind.wrap IntKind.i64 ((↑(RP.m t10) : Int) - 1))) (0, 0, 0))))] else rngC (List.getD (RP.l t10) j (0, 0, 0))) (RP.C t10))) (some ((.sl .no 3 (RV.n t11) (RV.get t11), [codO (RV.C t11)]))) (none)) (none)) (none)) (none)) (none)) (cond (g2 { env := [(1, AV.gsl 8 3 (q + 1))], objs := [(8, AO.grw 3 (q + 1) (getR (Prod.fst t1))), (1000000, codO (Prod.snd t3))] }) (some ((.sl .no 3 (RV.n t12) (RV.get t12), [codO (RV.C t12)]))) (none)))))))) (none)) (none)) (none)) (none) := by subst h_t12 h_t11 h_t10 h_t9 h_t8 h_t7 h_t6 h_t5 h_t4 h_t3 h_t2 h_t1; kernel_rfl
end Go.SH

namespace Go.SH
open Go Go.Ab Go.Proofs
set_option linter.unusedVariables false
set_option linter.unusedSimpArgs false
theorem mixed3 : V3.P.follows .mixedOrders = true := mixed
theorem funcs3 : FuncsOk V3.P := funcs
def rdec : List AV → RG
  | [.int _ a, .int _ b, .int _ c] => (a, b, c)
  | _ => (0, 0, 0)
def rowOk (a : List AV) : Prop := a = rngC (rdec a)
theorem rowOk_rng (r : RG) : rowOk (rngC r) := rfl
theorem rng_told {f : FuncId} {A : List AV} {O os : List AO} {n : Nat} {get : Nat → List AV} (hg : ∀ j, j < n → rowOk (get j)) (h : Ct V2.P V2.G f A O (.sl .no 3 n get, os)) : Ct V2.P V2.G f A O (rngL ((List.range n).map fun j => rdec (get j)), os) := by
  refine h.res (by simp [rngL, AV.keys]) fun c v hv => ?_
  have hl : ((List.range n).map fun j => rdec (get j)).length = n := by simp
  have := Rep.slWeak (get' := fun j => rngC (((List.range n).map fun j => rdec (get j)).getD j (0, 0, 0))) (fun j hj => by
    rw [hg j hj]
    simp [List.getD, hj]) hv
  unfold rngL
  rw [hl]; exact this
abbrev RSt := CODES ⊕ RO
def rS : RSt → St
  | .inl C => RL0 C
  | .inr x => RL x.m x.get x.C x.m
def rI : RSt → Prop
  | .inl C => C.Ok
  | .inr x => x.C.Ok ∧ 1 ≤ x.m ∧ x.m ≤ 17 ∧ ∀ j, j < x.m → rowOk (x.get j)
def rM : RSt → Nat
  | .inl _ => 20
  | .inr x => 18 - x.m
def rZ (x : RO) : Prop := x.C.Ok ∧ 16 ≤ x.m ∧ x.m ≤ 17 ∧ ∀ j, j < x.m → rowOk (x.get j)
theorem rowOk_app {m : Nat} {get : Nat → List AV} {z : List AV} {a b c : Int} (h : ∀ j, j < m → rowOk (get j)) : ∀ j, j < m + 1 → rowOk (appGet m 1 get (fillGet z [(0, .agg [.int .i64 a, .int .i64 b, .int .i64 c])]) j) := by
  intro j hj
  by_cases hm : j < m
  · rw [appGet_lt hm]; exact h j hm
  · obtain rfl : j = m := by omega
    rw [appGet_ge (Nat.le_refl _) (by omega), Nat.sub_self]
    exact rowOk_rng (a, b, c)
theorem ranges_loop (T : List Ent) : ∃ w : RSt → RO, (∀ v, rI v → rZ (w v)) ∧ ∀ (i : Vw × Vw × Vw × List (List Nat × Orc)), LoopOk (V3.run (mkE 19 gN vN φX :: T) 3 [] i.2.2.2 [([1, 1, 1], i.1), ([1, 1, 1, 1, 1], i.2.1), ([1, 1, 1, 1, 0, 1, 0, 1, 1, 1, 1, 1, 1, 1, 1, 1, 1, 1, 0, 1, 1], i.2.2.1)] 55) 55 [1, 1, 1, 1, 0, 1, 0, 1, 1, 1, 1, 1, 1, 1, 1, 1, 1, 1, 0, 1, 0, 1, 0] (mkO (goodS rS rI) (valS rS rI w) outR) := by
  refine loop_ex (Xf := fun i : Vw × Vw × Vw × List (List Nat × Orc) => V3.run (mkE 19 gN vN φX :: T) 3 [] i.2.2.2 [([1, 1, 1], i.1), ([1, 1, 1, 1, 1], i.2.1), ([1, 1, 1, 1, 0, 1, 0, 1, 1, 1, 1, 1, 1, 1, 1, 1, 1, 1, 0, 1, 1], i.2.2.1)] 55) (b := subC (bodyOf V3.P 55) ([1, 1, 1, 1, 0, 1, 0, 1, 1, 1, 1, 1, 1, 1, 1, 1, 1, 1, 0, 1, 0, 1, 0] ++ [0])) rS rI rM outR (fun _ => rZ) (fun _ => by kernel_rfl) 9 fun v hv => ?_
  cases v with
  | inl C =>
    have hC : C.Ok := hv
    obtain ⟨a0, a1, aD⟩ := nextR_ok hC (m := 2) (by omega)
    refine .inr ⟨.inr ⟨1, appGet 0 1 (fun _ => []) (fillGet (rngC (0, 0, 0)) [(0, .agg [.int .i64 0, .int .i64 (IntKind.wrap .i64 (0 + 1)), .int .i64 (IntKind.wrap .i64 (1 + Int.tmod 0 2))])]), (nextR C 2).2⟩, ⟨aD, Nat.le_refl _, by show 1 ≤ 17; omega, rowOk_app (m := 0) (fun j hj => absurd hj (by omega))⟩, by show 18 - 1 < 20; omega, fun _ h => h, fun i k kn => ?_⟩
    refine (rg_r0 gN vN T i.2.2.2 i.1 i.2.1 i.2.2.1 9 C kn k (t1 := nextR C 2) (vN_eq hC (by omega))).trans ?_
    refine (cT (gN_eq hC (by omega))).trans ?_
    refine (cT (decide_eq_true (by rw [wrap_i64 (by omega) (by omega)]; omega))).trans ?_
    rfl
  | inr x =>
    obtain ⟨m, get, C⟩ := x
    obtain ⟨hC, m1, m17, hr⟩ : C.Ok ∧ 1 ≤ m ∧ m ≤ 17 ∧ ∀ j, j < m → rowOk (get j) := hv
    obtain ⟨q, rfl⟩ : ∃ q, m = q + 1 := ⟨m - 1, by omega⟩
    obtain ⟨a0, a1, aD⟩ := nextR_ok hC (m := 2) (by omega)
    have hw : IntKind.wrap .i64 (16 + (nextR C 2).1) = 16 + (nextR C 2).1 := wrap_i64 (by omega) (by omega)
    by_cases hi : ((q + 1 : Nat) : Int) < 16 + (nextR C 2).1
    · refine .inr ⟨.inr ⟨q + 1 + 1, appGet (q + 1) 1 get (fillGet (rngC (0, 0, 0)) [(0, .agg [.int .i64 ((q + 1 : Nat) : Int), .int .i64 (IntKind.wrap .i64 (((q + 1 : Nat) : Int) + 1)), .int .i64 (IntKind.wrap .i64 (1 + Int.tmod ((q + 1 : Nat) : Int) 2))])]), (nextR C 2).2⟩, ⟨aD, by show 1 ≤ q + 1 + 1; omega, by show q + 1 + 1 ≤ 17; omega, rowOk_app hr⟩, by show 18 - (q + 1 + 1) < 18 - (q + 1); omega, fun _ h => h, fun i k kn => ?_⟩
      refine (rg_r gN vN T i.2.2.2 i.1 i.2.1 i.2.2.1 9 q get C (q + 1) kn k (t1 := nextR C 2) (vN_eq hC (by omega))).trans ?_
      refine (cT (gN_eq hC (by omega))).trans ?_
      refine (cT (by rw [hw]; exact decide_eq_true hi)).trans ?_
      have hro : (roomy 24 (q + 1 + 1) && Nat.beq (q + 1) (q + 1)) = true := by
        rw [Nat.beq_refl, Bool.and_true]
        unfold roomy
        exact Nat.ble_eq_true_of_le (by omega)
      refine (cT hro).trans ?_
      rw [wrap_i64 (x := ((q + 1 : Nat) : Int) + 1) (by omega) (by omega)]
      rfl
    · refine .inl ⟨⟨q + 1, get, (nextR C 2).2⟩, ⟨aD, by show 16 ≤ q + 1; omega, m17, hr⟩, fun i k kn => ?_⟩
      refine (rg_r gN vN T i.2.2.2 i.1 i.2.1 i.2.2.1 9 q get C (q + 1) kn k (t1 := nextR C 2) (vN_eq hC (by omega))).trans ?_
      refine (cT (gN_eq hC (by omega))).trans ?_
      exact (cF (by rw [hw]; exact decide_eq_false hi)).trans rfl
def rV1 (q : Nat) (l : List RG) (C : CODES) : St := { env := [(0, .ref keyBase 0), (1, .gsl 8 3 (0 + (q + 1)))], objs := [(8, .grw 3 (0 + (q + 1)) (appGet 0 (q + 1) (fun _ => []) (getR l))), (keyBase, codO C)] }
theorem view1_ok (q : Nat) (l : List RG) (C : CODES) : ViewOk (mkV (goodS (fun _ : Unit => rV1 q l C) (fun _ => True)) (fun _ => (l, C)) (RS1 (q + 1))) := by
  have h0 : 0 + (q + 1) = q + 1 := by omega
  have := viewOk_weak (α := Unit) (fun _ => rV1 q l C) (fun _ => RS1 (q + 1) (l, C)) (fun _ => True) fun _ _ => by
    refine ⟨by unfold rV1 RS1; rw [h0], .cons _ _ _ _ _ ?_ (.cons _ _ _ _ _ (.same _) .nil)⟩
    rw [h0]
    exact .grw _ _ _ _ fun j hj => by
      rw [appGet_ge (Nat.zero_le _) (by omega)]; rfl
  exact this
def rV3 (z : RO) : St := RE z.m z.get z.C
def rlOf (z : RO) : List RG := (List.range z.m).map fun j => rdec (z.get j)
theorem view3_ok (z : RO) (hz : rZ z) : ViewOk (mkV (goodS (fun _ : Unit => rV3 z) (fun _ => True)) (fun _ => (⟨z.m, rlOf z, z.C⟩ : RP)) RS3) := by
  have := viewOk_weak (α := Unit) (fun _ => rV3 z) (fun _ => RS3 ⟨z.m, rlOf z, z.C⟩) (fun _ => True) fun _ _ => by
    refine ⟨rfl, .cons _ _ _ _ _ (.grw _ _ _ _ fun j hj => ?_) (.cons _ _ _ _ _ (.same _) .nil)⟩
    have h := hz.2.2.2 j hj
    show rngC ((rlOf z).getD j (0, 0, 0)) = z.get j
    unfold rlOf
    simp only [List.getD, List.getElem?_map, List.getElem?_range hj, Option.map_some, Option.getD_some]
    exact h.symm
  exact this
def rV2 (v : RV) : St := { env := [(1, .gsl v.k 3 v.n)], objs := [(v.k, .grw 3 v.n v.get), (keyBase, codO v.C)] }
theorem rV2_inj (a b : RV) (h : rV2 a = rV2 b) : a = b := by
  obtain ⟨k, n, g, C⟩ := a
  obtain ⟨k', n', g', C'⟩ := b
  simp only [rV2, St.mk.injEq, List.cons.injEq, Prod.mk.injEq, AV.gsl.injEq, AO.grw.injEq, true_and, and_true] at h
  obtain ⟨⟨h1, h2⟩, ⟨_, _, h3⟩, h4⟩ := h
  have h5 := codO_inj h4
  subst h1 h2 h3 h5; rfl
theorem Rel.perm {B : Base} {c : Cx} {s : St} {a : Act} (h : Rel B c s a) {objs' : List (Nat × AO)} (hp : ∀ q, alook objs' q = alook s.objs q) : Rel B c { env := s.env, objs := objs' } a := by
  have hl : ∀ q, live s.objs q → live objs' q := fun q ⟨o, ho⟩ => ⟨o, by rw [hp]; exact ho⟩
  refine h.less (fun k hk => hl k (h.kept k hk)) (fun t v hv => hv) (fun k o ho => ?_) (fun t v hv k hk => hl k (h.closed t v hv k hk)) (fun k o ho q hq => ?_)
  · have : alook objs' k = some o := ho
    rw [hp] at this; exact this
  · have : alook objs' k = some o := ho
    rw [hp] at this
    exact hl q (h.objs.closed k o this q hq)
theorem alook_swap {α : Type} {a b : Nat} (h : a ≠ b) (x y : α) (q : Nat) : alook [(a, x), (b, y)] q = alook [(b, y), (a, x)] q := by
  simp only [alook]
  by_cases ha : a = q
  · subst ha; rw [Nat.beq_refl, beqF (fun e => h e.symm)]; rfl
  · rw [beqF ha]
    by_cases hb : b = q
    · subst hb; rw [Nat.beq_refl]; rfl
    · rw [beqF hb]; rfl
theorem view2_ok : ViewOk (mkV (goodS rV2 (fun v => v.k ≠ keyBase)) (valS rV2 (fun v => v.k ≠ keyBase) id) RS2) := by
  refine viewOk_step rV2 RS2 (fun v => v.k ≠ keyBase) fun v hk B c a hr hn => ?_
  have hf : fzSlot (rV2 v) 1 = some ({ env := [(1, .sl .no 3 v.n v.get)], objs := [(v.k, .own 3 v.n), (keyBase, codO v.C)] } : St) := by
    simp [fzSlot, rV2, St.get, alook, freezeA, Nat.beq_refl, guardO, aput, St.put]
  obtain ⟨c', e1, e2, e3⟩ := fzSlot_sound hr hn hf
  exact ⟨c', e1, Rel.perm e2 fun q => alook_swap (fun e => hk e.symm) _ _ q, fun t u hu => e3 t u hu⟩
end Go.SH

namespace Go.SH
open Go Go.Ab Go.Proofs
set_option linter.unusedVariables false
set_option linter.unusedSimpArgs false
def rgPost (y : List RG × CODES) : Prop := y.1.length ≤ 17 ∧ y.2.Ok
theorem number_cA (C : CODES) (h : C.Ok) : ∃ x : Int × CODES, x.2.Ok ∧ Ct V2.P V2.G 51 (cA C) (cO C) (φX x) := by
  obtain ⟨x, h1, h2⟩ := number_ex C h
  exact ⟨x, h1.2, h2⟩
theorem rowOk_if {i : Nat} {a b c : Int} {l : List RG} : ∀ j, rowOk (bif Nat.beq j i then [.int .i64 a, .int .i64 b, .int .i64 c] else rngC (l.getD j (0, 0, 0))) := fun j => by
  cases Nat.beq j i with
  | true => exact rowOk_rng (a, b, c)
  | false => exact rowOk_rng _
theorem rg_fin {C : CODES} {l : List RG} {n : Nat} {get : Nat → List AV} {D : CODES} (hn : n ≤ 17) (hD : D.Ok) (hg : ∀ j, j < n → rowOk (get j)) (h : Ct V2.P V2.G 55 [.ref keyBase 0, rngL l] [codO C] (.sl .no 3 n get, [codO D])) :
    ∃ y : List RG × CODES, rgPost y ∧ Ct V2.P V2.G 55 [.ref keyBase 0, rngL l] [codO C] (φRg y) :=
  ⟨((List.range n).map fun j => rdec (get j), D), ⟨by simpa using hn, hD⟩, rng_told hg h⟩
theorem ranges_ex (C : CODES) (hC : C.Ok) (l : List RG) (hl : l.length ≤ 5) : ∃ y : List RG × CODES, rgPost y ∧ Ct V2.P V2.G 55 [.ref keyBase 0, rngL l] [codO C] (φRg y) := by
  obtain ⟨wu, hwu, htu⟩ := ent_ex (V := V2) (f := 51) (A := cA) (O := cO) (Pre := CODES.Ok) (φ := φX) (Post := fun (_ : CODES) (x : Int × CODES) => x.2.Ok) number_cA
  have hgu : ∀ D : CODES, D.Ok → goodA cA cO CODES.Ok [.ref 1000000 0] [codO D] = true := fun D hD => goodA_eq (A := cA) (O := cO) (v := D) hD
  have hpu : ∀ D : CODES, D.Ok → (valA cA cO CODES.Ok wu [.ref 1000000 0] [codO D]).2.Ok := fun D hD => valA_post (A := cA) (O := cO) (a := D) (Post := fun (_ : CODES) (x : Int × CODES) => x.2.Ok) hwu (fun _ _ _ _ _ h => h) hD
  rcases hq : l.length with _ | q
  · have hc := ct_loops (V := V2) (f := 55) (n := 9) (d := 3) (L := []) (T := [entN, entC 51 cA cO CODES.Ok wu φX]) mixed2 funcs2 (tabOk_cons entN_ok (tabOk_cons htu tabOk_nil)) loopsOk_nil (rg_nil gN (goodA cA cO CODES.Ok) vN (valA cA cO CODES.Ok wu) (getR l) C)
    have ha : [AV.ref keyBase 0, rngL l] = [.ref keyBase 0, .sl .no 3 0 (getR l)] := by unfold rngL; rw [hq]; rfl
    refine rg_fin (n := 0) (get := appGet 0 0 (fun x => []) (getR l)) (by omega) hC (fun j hj => absurd hj (by omega)) ?_
    rw [ha]; exact hc
  · have ha : [AV.ref keyBase 0, rngL l] = [.ref keyBase 0, .sl .no 3 (q + 1) (getR l)] := by unfold rngL; rw [hq]; rfl
    have hq5 : q + 1 ≤ 5 := by omega
    obtain ⟨a0, a1, aD⟩ := nextR_ok hC (m := ((q + 1 : Nat) : Int)) (by omega)
    obtain ⟨b0, b1, bD⟩ := nextR_ok aD (m := 6) (by omega)
    by_cases h3 : (nextR (nextR C ((q + 1 : Nat) : Int)).2 6).1 = 3
    · -- a front of it
      cases hx : nextR (nextR C ((q + 1 : Nat) : Int)).2 6 with
      | mk r D =>
      rw [hx] at h3 bD
      have h3 : r = 3 := h3
      subst h3
      have hT := entB_ok (m := 6) (by omega) aD hx
      have e := rg_3 (gB 6 (nextR C ((q + 1 : Nat) : Int)).2) (goodA cA cO CODES.Ok) vN (valA cA cO CODES.Ok wu) D q (getR l) C (t1 := nextR C ((q + 1 : Nat) : Int)) (by rw [Nat.zero_add]; exact vN_eq hC (by omega))
      rw [Nat.zero_add] at e
      rw [argN_ne (m := 6) (n := ((q + 1 : Nat) : Int)) (by omega)] at e
      simp only [cond_false] at e
      have hr : roomy 24 (q + 1) = true := by unfold roomy; exact Nat.ble_eq_true_of_le (by omega)
      have e := e.trans (cT hr)
      have e := e.trans (cT (gB_eq (m := 6) hC (by omega) (fun h => by omega)))
      have e := e.trans (cT (gB_eq (m := 6) aD (by omega) (fun h => rfl)))
      have e := e.trans (cT (by
        rw [decide_eq_true (show (0 : Int) ≤ 0 by omega), decide_eq_true a0, decide_eq_true (Int.le_of_lt a1)]; rfl))
      have hc := ct_loops (V := V2) (f := 55) (n := 9) (d := 3) (L := []) (T := [entB 6 (nextR C ((q + 1 : Nat) : Int)).2 (3, D), entC 51 cA cO CODES.Ok wu φX]) mixed2 funcs2 (tabOk_cons hT (tabOk_cons htu tabOk_nil)) loopsOk_nil e
      refine rg_fin (n := Int.toNat (nextR C ((q + 1 : Nat) : Int)).1 - 0) (get := fun j => appGet 0 (q + 1) (fun x => []) (getR l) (0 + j)) (by omega) bD (fun j hj => ?_) ?_
      · rw [appGet_ge (Nat.zero_le _) (by omega)]
        exact rowOk_rng _
      · rw [ha]; exact hc
    · obtain ⟨w, hw, hlp⟩ := ranges_loop [entC 51 cA cO CODES.Ok wu φX]
      cases hx : nextR (nextR C ((q + 1 : Nat) : Int)).2 6 with
      | mk r D =>
      rw [hx] at h3 b0 b1 bD
      have h3 : r ≠ 3 := h3
      have b0 : 0 ≤ r := b0
      have b1 : r < 6 := b1
      have bD : D.Ok := bD
      have hz : rZ (valS rS rI w (RL0 D)) := valS_post (S := rS) (a := Sum.inl D) (Post := fun (_ : RSt) (y : RO) => rZ y) hw (fun _ _ _ _ h => h) bD
      have hgz : goodS rS rI (RL0 D) = true := goodS_eq (S := rS) (v := Sum.inl D) bD
      generalize hzz : valS rS rI w (RL0 D) = z at hz
      have hv2 : ∀ v : RV, v.k ≠ keyBase → valS rV2 (fun v => v.k ≠ keyBase) id (rV2 v) = v := fun v hv => valS_eq (S := rV2) (fun a b _ _ h => rV2_inj a b h) hv
      have hg2 : ∀ v : RV, v.k ≠ keyBase → goodS rV2 (fun v => v.k ≠ keyBase) (rV2 v) = true := fun v hv => goodS_eq (S := rV2) hv
      have k8 : (8 : Nat) ≠ keyBase := by decide
      have k75 : (75 : Nat) ≠ keyBase := by decide
      cases hy : nextR C ((q + 1 : Nat) : Int) with
      | mk i D1 =>
      rw [hy] at a0 a1 aD hx
      have a0 : 0 ≤ i := a0
      have a1 : i < ((q + 1 : Nat) : Int) := a1
      have aD : D1.Ok := aD
      have hc := fun r he => ct_of_run (V := V3) (f := 55) (l := [.ref keyBase 0, .sl .no 3 (q + 1) (getR l)]) (os := [codO C]) (r := r) (n := 9) (d := 3) (C := []) (T := [entN, entC 51 cA cO CODES.Ok wu φX])
        (L := [([1, 1, 1, 1, 0, 1, 0, 1, 1, 1, 1, 1, 1, 1, 1, 1, 1, 1, 0, 1, 0, 1, 0], mkO (goodS rS rI) (valS rS rI w) outR)])
        (W := [([1, 1, 1], mkV (goodS (fun _ : Unit => rV1 q l C) (fun _ => True)) (fun _ => (l, C)) (RS1 (q + 1))), ([1, 1, 1, 1, 1], mkV (goodS rV2 (fun v => v.k ≠ keyBase)) (valS rV2 (fun v => v.k ≠ keyBase) id) RS2), ([1, 1, 1, 1, 0, 1, 0, 1, 1, 1, 1, 1, 1, 1, 1, 1, 1, 1, 0, 1, 1], mkV (goodS (fun _ : Unit => rV3 z) (fun _ => True)) (fun _ => (⟨z.m, rlOf z, z.C⟩ : RP)) RS3)])
        mixed3 funcs3 (tabOk_cons entN_ok (tabOk_cons htu tabOk_nil)) (fun _ h => (List.not_mem_nil h).elim) (loopsOk_cons (hlp (_, _, _, _)) loopsOk_nil)
        (fun q hq => by
          simp only [List.mem_cons, List.not_mem_nil, or_false] at hq
          rcases hq with rfl | rfl | rfl
          · exact view1_ok _ _ _
          · exact view2_ok
          · exact view3_ok z hz) he
      have hin : (within i (q + 1) && Nat.beq (q + 1) (q + 1)) = true := by
        rw [Nat.beq_refl, Bool.and_true]; exact within_of a0 a1
      have hlt : (Nat.blt i.toNat (q + 1) && Nat.beq (q + 1) (q + 1)) = true := by
        rw [Nat.beq_refl, Bool.and_true]; exact bltT (by omega)
      have hzi : IntKind.wrap .i64 ((z.m : Int) - 1) = ((z.m - 1 : Nat) : Int) := by
        obtain ⟨_, z1, z2, _⟩ := hz
        rw [wrap_i64 (by omega) (by omega)]; omega
      have e := rg_m gN (goodA cA cO CODES.Ok) vN (valA cA cO CODES.Ok wu) (goodS (fun _ : Unit => rV1 q l C) (fun _ => True)) (goodS rV2 (fun v => v.k ≠ keyBase)) (goodS rS rI) (goodS (fun _ : Unit => rV3 z) (fun _ => True)) (fun _ => (l, C)) (valS rV2 (fun v => v.k ≠ keyBase) id) (valS rS rI w) (fun _ => (⟨z.m, rlOf z, z.C⟩ : RP)) q l C
        (t1 := (l, C)) rfl (t2 := (i, D1)) ((vN_eq hC (by omega)).trans hy) (t3 := (r, D)) ((vN_eq aD (by omega)).trans hx) (t4 := valA cA cO CODES.Ok wu [.ref 1000000 0] [codO D]) rfl
        (hv2 ⟨8, q + 1, _, _⟩ k8) (hv2 ⟨8, q + 1, _, _⟩ k8) (hv2 ⟨8, q + 1, _, _⟩ k8) (hv2 ⟨8, q + 1 + 1, _, _⟩ k8) (t9 := z) hzz (t10 := ⟨z.m, rlOf z, z.C⟩) rfl (hv2 ⟨75, z.m, _, _⟩ k75) (hv2 ⟨8, q + 1, _, _⟩ k8)
      have hr : roomy 24 (0 + (q + 1)) = true := by unfold roomy; exact Nat.ble_eq_true_of_le (by omega)
      have hr1 : (roomy 24 (q + 1 + 1) && Nat.beq (q + 1) (q + 1)) = true := by
        rw [Nat.beq_refl, Bool.and_true]; unfold roomy; exact Nat.ble_eq_true_of_le (by omega)
      have e := (((e.trans (cT hr)).trans (cT (goodS_eq (S := fun _ : Unit => rV1 q l C) (v := ()) trivial))).trans (cT (gN_eq hC (by omega)))).trans (cT (gN_eq aD (by omega)))
      have hu := hpu D bD
      have hrr : r = 0 ∨ r = 1 ∨ r = 2 ∨ r = 4 ∨ r = 5 := by omega
      rw [ha]
      have fin : ∀ (n : Nat) (get : Nat → List AV) (E : CODES), n ≤ 17 → E.Ok → (∀ j, j < n → rowOk (get j)) → Ct V2.P V2.G 55 [.ref keyBase 0, .sl .no 3 (q + 1) (getR l)] [codO C] (.sl .no 3 n get, [codO E]) →
          ∃ y : List RG × CODES, rgPost y ∧ Ct V2.P V2.G 55 [.ref keyBase 0, .sl .no 3 (q + 1) (getR l)] [codO C] (φRg y) := fun n get E h1 h2 h4 h5 => by
        have := rg_fin (C := C) (l := l) h1 h2 h4 (by rw [ha]; exact h5)
        rw [ha] at this; exact this
      rcases hrr with rfl | rfl | rfl | rfl | rfl
      · have e := ((((e.trans (cT rfl)).trans (cT (hgu D bD))).trans (cT hin)).trans (cT hlt)).trans (cT (hg2 ⟨8, q + 1, _, _⟩ k8))
        exact fin (q + 1) _ _ (by omega) hu (fun j _ => rowOk_if j) (hc _ e)
      · have e := (((((e.trans (cF rfl)).trans (cT rfl)).trans (cT (hgu D bD))).trans (cT hin)).trans (cT hlt)).trans (cT (hg2 ⟨8, q + 1, _, _⟩ k8))
        exact fin (q + 1) _ _ (by omega) hu (fun j _ => rowOk_if j) (hc _ e)
      · have e := ((((((e.trans (cF rfl)).trans (cF rfl)).trans (cT rfl)).trans (cT (hgu D bD))).trans (cT hin)).trans (cT hlt)).trans (cT (hg2 ⟨8, q + 1, _, _⟩ k8))
        exact fin (q + 1) _ _ (by omega) hu (fun j _ => rowOk_if j) (hc _ e)
      · have e := ((((((((e.trans (cF rfl)).trans (cF rfl)).trans (cF rfl)).trans (cF rfl)).trans (cT rfl)).trans (cT hin)).trans (cT hlt)).trans (cT hr1)).trans (cT (hg2 ⟨8, q + 1 + 1, _, _⟩ k8))
        exact fin (q + 1 + 1) _ _ (by omega) bD (rowOk_app (fun j _ => rowOk_rng _)) (hc _ e)
      · obtain ⟨z0, z1, z2, z3⟩ := hz
        have hin5 : (within (IntKind.wrap .i64 ((z.m : Int) - 1)) z.m && Nat.beq z.m z.m) = true := by
          rw [Nat.beq_refl, Bool.and_true, hzi]; exact within_of (by omega) (by omega)
        have hlt5 : (Nat.blt (IntKind.wrap .i64 ((z.m : Int) - 1)).toNat z.m && Nat.beq z.m z.m) = true := by
          rw [Nat.beq_refl, Bool.and_true, hzi]; exact bltT (by omega)
        have e := (((((e.trans (cF rfl)).trans (cF rfl)).trans (cF rfl)).trans (cF rfl)).trans (cF rfl)).trans (cT rfl)
        have e := ((e.trans (cT hgz)).trans (cT (goodS_eq (S := fun _ : Unit => rV3 z) (v := ()) trivial)))
        have e := ((e.trans (cT hin5)).trans (cT hlt5)).trans (cT (hg2 ⟨75, z.m, _, _⟩ k75))
        exact fin z.m _ _ z2 z0 (fun j _ => rowOk_if j) (hc _ e)
end Go.SH

namespace Go.SH
open Go Go.Ab Go.Proofs
set_option linter.unusedVariables false
set_option linter.unusedSimpArgs false
def nilS : AV := .sl .fit 0 0 fun _ => []
def φC (x : EXP × CODES) : AV × List AO := (.agg (expC x.1.op x.1.kind x.1.name x.1.vals x.1.kids.length (EXP.row x.1.kids)), [codO x.2])
def exK (op : Int) (ks : AV) : List AV := [.int .i64 op, .str [], .str [], .sl .fit 0 0 fun _ => [], ks]
inductive KID where
  | plain (e : EXP)
  | neg (e : EXP)
def KID.e : KID → EXP
  | .plain e => e
  | .neg e => notX e
def eC (e : EXP) : List AV := expC e.op e.kind e.name e.vals e.kids.length (EXP.row e.kids)
def KID.c : KID → List AV
  | .plain e => eC e
  | .neg e => exK 4 (.sl .fit 5 1 (fillGet ex0 [(0, .agg (eC e))]))
def getX (l : List KID) (j : Nat) : List AV := (l.map KID.c).getD j ex0
def XS0 (op lv n : Int) (C : CODES) : St := { env := [(0, .ref keyBase 0), (1, nilS), (2, .int .i64 lv), (6, .ref 6 0), (8, .int .i64 op), (9, .ref 9 0), (10, .int .i64 n), (11, .int .i64 0)], objs := [(6, .cells ex0), (9, .cells (exK op (.sl (.key 81) 5 0 fun _ => ex0))), (keyBase, codO C), (81, .own 5 0)] }
def XS (op lv n : Int) (m : Nat) (get : Nat → List AV) (C : CODES) (i : Nat) : St := { env := [(0, .ref keyBase 0), (1, nilS), (2, .int .i64 lv), (6, .ref 6 0), (8, .int .i64 op), (9, .ref 9 0), (10, .int .i64 n), (11, .int .i64 i)], objs := [(6, .cells ex0), (9, .cells (exK op (.sl (.key 81) 5 m get))), (81, .own 5 m), (keyBase, codO C)] }
def XE (op : Int) (m : Nat) (get : Nat → List AV) (C : CODES) : St := { env := [(6, .ref 6 0), (9, .ref 9 0)], objs := [(6, .cells ex0), (9, .cells (exK op (.sl (.key 81) 5 m get))), (81, .own 5 m), (keyBase, codO C)] }
def outX (op : Int) (x : List KID × CODES) (k : Ex → St → Res) : Res := k (.exit 1) (XE op x.1.length (getX x.1) x.2)
end Go.SH

namespace Go.SH
open Go Go.Ab Go.Proofs
set_option linter.unusedVariables false
set_option linter.unusedSimpArgs false
abbrev XSt := CODES ⊕ (List KID × CODES)
def xA (lv : Int) (_ : CODES) : List AV := [.ref keyBase 0, nilS, .int .i64 lv]
def xPost (q : Nat) (x : EXP × CODES) : Prop := (VE q x.1 ∧ x.1.Ok) ∧ x.2.Ok
def okK (op : Int) (q : Nat) (k : KID) : Prop := VE (q + 1) k.e ∧ k.e.op ≠ op ∧ k.e.Ok
def xS (op lv : Int) (n : Nat) : XSt → St
  | .inl C => XS0 op lv n C
  | .inr (l, C) => XS op lv n l.length (getX l) C l.length
def xI (op : Int) (q n : Nat) : XSt → Prop
  | .inl C => C.Ok
  | .inr (l, C) => C.Ok ∧ 1 ≤ l.length ∧ l.length ≤ n ∧ ∀ k ∈ l, okK op q k
def xM : XSt → Nat
  | .inl _ => 5
  | .inr (l, _) => 4 - l.length
def xZ (op : Int) (q n : Nat) (z : List KID × CODES) : Prop := z.1.length = n ∧ (∀ k ∈ z.1, okK op q k) ∧ z.2.Ok
instance : Inhabited (List KID × CODES) := ⟨([], default)⟩
def kidOf (op : Int) (e : EXP) : KID := bif e.op == op then .neg e else .plain e
end Go.SH

namespace Go.SH
open Go Go.Ab Go.Proofs
set_option linter.unusedVariables false
set_option linter.unusedSimpArgs false
end Go.SH

namespace Go.SH
open Go Go.Ab Go.Proofs
set_option linter.unusedVariables false
set_option linter.unusedSimpArgs false
theorem expC_keys (op : Int) (kd nm : List UInt8) (vs : List VAL) (n : Nat) (g : Nat → List AV) : keysL (expC op kd nm vs n g) = [] := by simp [expC, AV.keys, keysL, valL]
theorem expC_one {op : Int} {kd nm : List UInt8} {vs : List VAL} {n : Nat} {g : Nat → List AV} {i : Nat} {u : AV} (h : (expC op kd nm vs n g)[i]? = some u) : u.one = true := by
  match i with
  | 0 => simp [expC] at h; subst h; rfl
  | 1 => simp [expC] at h; subst h; rfl
  | 2 => simp [expC] at h; subst h; rfl
  | 3 => simp [expC] at h; subst h; rfl
  | 4 => simp [expC] at h; subst h; rfl
  | i + 5 => simp [expC] at h
def Tells (a b : List AV) : Prop := ∀ (i : Nat) (u u' : AV), a[i]? = some u → b[i]? = some u' → u'.one = true ∧ ∀ c x, Rep c u x → Rep c u' x
theorem tells_refl (e : EXP) : Tells (eC e) (eC e) := fun i u u' h1 h2 => by
  rw [h1] at h2
  simp only [Option.some.injEq] at h2
  subst h2
  exact ⟨expC_one h1, fun _ _ h => h⟩
theorem row_eC {l : List EXP} {j : Nat} (h : j < l.length) : EXP.row l j = eC (l.getD j default) := by rw [EXP.row_at h, EXP.c_eq]; rfl
theorem tells_exK {op : Int} {ks : List EXP} {o : Own} {get : Nat → List AV} (hg : ∀ j, j < ks.length → Tells (get j) (EXP.row ks j)) : Tells (exK op (.sl o 5 ks.length get)) (expC op [] [] [] ks.length (EXP.row ks)) := fun i u u' hu hu' => by
  unfold exK expC at *
  match i with
  | 0 => simp only [List.getElem?_cons_zero, Option.some.injEq] at hu hu'; subst hu hu'; exact ⟨rfl, fun _ x h => h⟩
  | 1 => simp only [List.getElem?_cons_succ, List.getElem?_cons_zero, Option.some.injEq] at hu hu'; subst hu hu'; exact ⟨rfl, fun _ x h => h⟩
  | 2 => simp only [List.getElem?_cons_succ, List.getElem?_cons_zero, Option.some.injEq] at hu hu'; subst hu hu'; exact ⟨rfl, fun _ x h => h⟩
  | 3 => simp only [List.getElem?_cons_succ, List.getElem?_cons_zero, Option.some.injEq] at hu hu'; subst hu hu'; exact ⟨rfl, fun _ => sl_fit⟩
  | 4 =>
    simp only [List.getElem?_cons_succ, List.getElem?_cons_zero, Option.some.injEq] at hu hu'; subst hu hu'
    exact ⟨rfl, fun c => sl_map (fun j hj => by rw [row_eC hj]; exact ⟨rfl, expC_keys _ _ _ _ _ _⟩) fun j i u u' hj h1 h2 => ⟨(hg j hj i u u' h1 h2).1, fun x => (hg j hj i u u' h1 h2).2 c x⟩⟩
  | i + 5 => simp at hu
theorem tells_ct {f : FuncId} {A : List AV} {O : List AO} {a : List AV} {e : EXP} {D : CODES} (hl : a.length = 5) (ht : Tells a (eC e)) (h : Ct V2.P V2.G f A O (.agg a, [codO D])) : Ct V2.P V2.G f A O (φC (e, D)) :=
  h.res (by show (AV.agg (eC e)).keys = []; exact expC_keys _ _ _ _ _ _) fun c v hv => agg_map (us := a) (us' := eC e) (by rw [hl]; rfl) (fun i u u' hu hu' => ⟨(ht i u u' hu hu').1, fun x => (ht i u u' hu hu').2 c x⟩) hv
theorem tells_not (e : EXP) : Tells (exK 4 (.sl .fit 5 1 (fillGet ex0 [(0, .agg (eC e))]))) (eC (notX e)) :=
  tells_exK (ks := [e]) fun j hj => by
    match j, hj with
    | 0, _ =>
      rw [row_eC (by simp)]
      exact tells_refl e
end Go.SH

namespace Go.SH
open Go Go.Ab Go.Proofs
set_option linter.unusedVariables false
set_option linter.unusedSimpArgs false
set_option linter.unusedSectionVars false
theorem testC_ex (C : CODES) (hC : C.Ok) : ∃ x, tPost x ∧ Ct V2.P V2.G 47 (cA C) (cO C) (φC x) := by
  obtain ⟨x, h1, h2⟩ := test_ex C hC
  refine ⟨x, h1, ?_⟩
  unfold φQ at h2
  rw [x.1.c_eq] at h2
  exact h2
theorem tPost.x {x : EXP × CODES} (h : tPost x) (d : Nat) : xPost (2 * d + 1) x := ⟨⟨h.1.ve.le (by omega), h.1.2.2⟩, h.2⟩
section
variable {C : CODES} (hC : C.Ok) {wt : CODES → EXP × CODES} (hwt : ∀ C, C.Ok → tPost (wt C)) (htt : ∀ l os, (entC 47 cA cO CODES.Ok wt φC).pre l os = true → Ct V2.P V2.G (entC 47 cA cO CODES.Ok wt φC).f l os ((entC 47 cA cO CODES.Ok wt φC).ans l os))
include hC hwt htt
variable {d : Nat} (hd : 1 ≤ d) (hd3 : d ≤ 3) {wx : CODES → EXP × CODES} (hwx : ∀ C, C.Ok → xPost (2 * d - 1) (wx C)) (htx : ∀ l os, (entC 13 (xA d) cO CODES.Ok wx φC).pre l os = true → Ct V2.P V2.G (entC 13 (xA d) cO CODES.Ok wx φC).f l os ((entC 13 (xA d) cO CODES.Ok wx φC).ans l os))
include hd hd3 hwx htx
end
end Go.SH

namespace Go.SH
open Go Go.Ab Go.Proofs
set_option linter.unusedVariables false
set_option linter.unusedSimpArgs false
noncomputable def V4 : Env := { V3 with
  hint := fun f t => cond (Nat.beq f 14) (cond (Nat.beq t 23) (hn [0, 3, 4, 6] [3, 4] [] []) (cond (Nat.beq t 29) (hn [0, 3, 4, 7, 8] [3, 4, 7] [] []) (V3.hint f t))) (V3.hint f t)
  trim := fun f p => cond (Nat.beq f 14) (trGet [tr [1, 1, 0, 1, 0, 1, 1, 1, 1, 1, 1, 1, 1, 1, 1, 1, 1, 1, 1, 1, 0, 1, 0, 0, 0, 1, 1] [3, 4] [3, 4], tr [1, 1, 0, 1, 0, 1, 1, 1, 1, 1, 1, 1, 1, 1, 1, 1, 1, 1, 1, 1, 1, 1, 0, 1, 0, 1, 0, 0, 0, 1, 1] [3, 4, 7] [3, 4, 7], tr [1, 0, 1, 0, 1] [0, 3, 4] [3, 4, 20], tr [1, 0, 1, 0, 1, 1, 1] [3, 4] [3, 4, 20], tr [1, 1] [0, 3, 4] [3, 4], tr [1, 1, 1] [3, 4] [3, 4, 61, 65, 83, 87], tr [1, 1, 0, 1, 0, 1, 1, 1, 1, 1, 1, 1, 1, 1, 1, 1, 1, 1, 1, 1, 0, 1, 0, 0, 1, 1] [0, 3, 4, 6] [3, 4], tr [1, 1, 0, 1, 0, 1, 1, 1, 1, 1, 1, 1, 1, 1, 1, 1, 1, 1, 1, 1, 1, 1, 0, 1, 0, 1, 0, 0, 1, 1] [0, 3, 4, 7, 8] [3, 4, 7, 110, 114] ] p) (V3.trim f p)
  grow := fun o => cond (Nat.beq o.type 23) (match o.dst with | some d => Nat.beq d 20 | none => false) (V3.grow o) }
def xc (op : Int) (kd nm : List UInt8) (m : Nat) (gv : Nat → List AV) (n : Nat) (g : Nat → List AV) : List AV := [.int .i64 op, .str kd, .str nm, .sl .no 4 m gv, .sl .no 5 n g]
structure KV where
  op : Int
  kd : List UInt8
  nm : List UInt8
  m : Nat
  gv : Nat → List AV
  n : Nat
  g : Nat → List AV
  C : CODES
instance : Inhabited KV := ⟨⟨0, [], [], 0, fun _ => [], 0, fun _ => [], default⟩⟩
def gcell (op : Int) (kd nm : List UInt8) (m : Nat) (gv : Nat → List AV) (n : Nat) : List AV := [.int .i64 op, .str kd, .str nm, .sl .no 4 m gv, .gsl 20 5 n]
structure K1 where
  op : Int
  kd : List UInt8
  nm : List UInt8
  m : Nat
  gv : Nat → List AV
  l : List EXP
  C : CODES
instance : Inhabited K1 := ⟨⟨0, [], [], 0, fun _ => [], [], default⟩⟩
def getE (l : List EXP) (j : Nat) : List AV := eC (l.getD j default)
def CS1 (n : Nat) (x : K1) : St := { env := [(0, .ref keyBase 0), (3, .ref 3 0), (4, .ref 4 0)], objs := [(3, .cells (gcell x.op x.kd x.nm x.m x.gv n)), (4, .cells ex0), (20, .grw 5 n (getE x.l)), (keyBase, codO x.C)] }
def CS2 (x : KV) : St := { env := [(3, .ref 3 0), (4, .ref 4 0)], objs := [(3, .cells (xc x.op x.kd x.nm x.m x.gv x.n x.g)), (4, .cells ex0), (20, .own 5 x.n), (keyBase, codO x.C)] }
def NL (t : EXP) (C : CODES) (i : Int) : St := { env := [(0, .ref keyBase 0), (3, .ref 3 0), (4, .ref 4 0), (6, .int .i64 i)], objs := [(3, .cells (eC t)), (4, .cells ex0), (keyBase, codO C)] }
def SN (x : EXP × CODES × Int) : St := NL x.1 x.2.1 x.2.2
def KL (y : KV) (op : Int) (kd nm : List UInt8) (m : Nat) (gv : Nat → List AV) (n : Nat) (g : Nat → List AV) (C : CODES) (i : Int) : St := { env := [(0, .ref keyBase 0), (3, .ref 3 0), (4, .ref 4 0), (7, .ref 7 0), (8, .int .i64 i)], objs := [(3, .cells (xc y.op y.kd y.nm y.m y.gv y.n y.g)), (4, .cells ex0), (7, .cells (xc op kd nm m gv n g)), (keyBase, codO C)] }
def SK (y : KV) (x : KV × Int) : St := { env := [(0, .ref keyBase 0), (3, .ref 3 0), (4, .ref 4 0), (7, .ref 7 0), (8, .int .i64 x.2)], objs := [(3, .cells (xc y.op y.kd y.nm y.m y.gv y.n y.g)), (4, .cells ex0), (7, .cells (xc x.1.op x.1.kd x.1.nm x.1.m x.1.gv (x.1.n + 1) x.1.g)), (110, .own 5 (x.1.n + 1)), (keyBase, codO x.1.C)] }
def outN (x : EXP × CODES) (k : Ex → St → Res) : Res := k (.exit 1) { env := [(3, .ref 3 0), (4, .ref 4 0)], objs := [(3, .cells (eC x.1)), (4, .cells ex0), (keyBase, codO x.2)] }
def outK (y : KV) (x : KV) (k : Ex → St → Res) : Res := k (.exit 3) { env := [(3, .ref 3 0), (4, .ref 4 0), (7, .ref 7 0)], objs := [(3, .cells (xc y.op y.kd y.nm y.m y.gv y.n y.g)), (4, .cells ex0), (7, .cells (xc x.op x.kd x.nm x.m x.gv (x.n + 1) x.g)), (keyBase, codO x.C)] }
set_option maxRecDepth 100000 in
theorem any_m (ge gv : List AV → List AO → Bool) (ve : List AV → List AO → Int × CODES) (vv : List AV → List AO → VAL × CODES) (C : CODES) {t1 : Int × CODES} (h_t1 : ve [.ref 1000000 0, .int .i64 5] [codO C] = t1) {t2 : VAL × CODES} (h_t2 : vv [.ref 1000000 0, .int .i64 (IntKind.wrap IntKind.i64 (1 + Prod.fst t1))] [codO (Prod.snd t1)] = t2) : runF (V2.run [mkE 19 ge ve φX, mkE 58 gv vv φV] 3 [] [] [] 29) 9 29 [.ref keyBase 0] [codO C] =
  cond (ge [.ref 1000000 0, .int .i64 5] [codO C]) (cond (gv [.ref 1000000 0, .int .i64 (IntKind.wrap IntKind.i64 (1 + Prod.fst t1))] [codO (Prod.snd t1)]) (some ((.agg (VAL.c (Prod.fst t2)), [codO (Prod.snd t2)]))) (none)) (none) := by subst h_t2 h_t1; kernel_rfl
set_option maxRecDepth 100000 in
theorem c_rec (ge gc : List AV → List AO → Bool) (ve : List AV → List AO → Int × CODES) (vc : List AV → List AO → EXP × CODES) (g1 g2 : St → Bool) (v1 : St → K1) (v2 : St → KV) (op : Int) (kd nm : List UInt8) (m : Nat) (gv : Nat → List AV) (q : Nat) (g : Nat → List AV) (C : CODES) {t1 : Int × CODES} (h_t1 : ve [.ref 1000000 0, .int .i64 3] [codO C] = t1) {t2 : K1} (h_t2 : v1 { env := [(0, .ref 1000000 0), (3, .ref 3 0), (4, .ref 4 0)], objs := [(3, .cells (gcell op kd nm m gv (0 + (q + 1)))), (4, .cells ex0), (20, AO.grw 5 (0 + (q + 1)) (appGet 0 (q + 1) (fun x => []) g)), (1000000, codO (Prod.snd t1))] } = t2) {t3 : Int × CODES} (h_t3 : ve [.ref 1000000 0, .int .i64 (↑(q + 1) : Int)] [codO (K1.C t2)] = t3) {t4 : EXP × CODES} (h_t4 : vc [.ref 1000000 0, .agg (eC (List.getD (K1.l t2) (Int.toNat (Prod.fst t3)) default))] [codO (Prod.snd t3)] = t4) {t5 : KV} (h_t5 : v2 { env := [(3, .ref 3 0), (4, .ref 4 0)], objs := [(3, .cells (gcell (K1.op t2) (K1.kd t2) (K1.nm t2) (K1.m t2) (K1.gv t2) (q + 1))), (4, .cells ex0), (20, AO.grw 5 (q + 1) fun j => bif Nat.beq j (Int.toNat (Prod.fst t3)) then eC (Prod.fst t4) else eC (List.getD (K1.l t2) j default)), (1000000, codO (Prod.snd t4))] } = t5) : runF (V4.run [mkE 19 ge ve φX, mkE 14 gc vc φC] 1 [([1, 1], mkO (fun _ => false) (fun _ => ()) (fun _ _ => none))] [] [([1, 0, 1, 0, 1], mkV g1 v1 (CS1 (q + 1))), ([1, 0, 1, 0, 1, 1, 1], mkV g2 v2 CS2)] 14) 9 14 [.ref keyBase 0, .agg (xc op kd nm m gv (q + 1) g)] [codO C] =
  cond (decide ((↑(q + 1) : Int) > 0)) (cond (ge [.ref 1000000 0, .int .i64 3] [codO C]) (cond (bif true then decide (Prod.fst t1 > 0) else false) (cond (roomy (88) (0 + (q + 1))) (cond (g1 { env := [(0, .ref 1000000 0), (3, .ref 3 0), (4, .ref 4 0)], objs := [(3, .cells (gcell op kd nm m gv (0 + (q + 1)))), (4, .cells ex0), (20, AO.grw 5 (0 + (q + 1)) (appGet 0 (q + 1) (fun x => []) g)), (1000000, codO (Prod.snd t1))] }) (cond (ge [.ref 1000000 0, .int .i64 (↑(q + 1) : Int)] [codO (K1.C t2)]) (cond (within (Prod.fst t3) (q + 1) && Nat.beq (q + 1) (q + 1)) (cond (Nat.blt (Int.toNat (Prod.fst t3)) (q + 1) && Nat.beq (q + 1) (q + 1)) (cond (gc [.ref 1000000 0, .agg (eC (List.getD (K1.l t2) (Int.toNat (Prod.fst t3)) default))] [codO (Prod.snd t3)]) (cond (within (Prod.fst t3) (q + 1) && Nat.beq (q + 1) (q + 1)) (cond (Nat.blt (Int.toNat (Prod.fst t3)) (q + 1) && Nat.beq (q + 1) (q + 1)) (cond (g2 { env := [(3, .ref 3 0), (4, .ref 4 0)], objs := [(3, .cells (gcell (K1.op t2) (K1.kd t2) (K1.nm t2) (K1.m t2) (K1.gv t2) (q + 1))), (4, .cells ex0), (20, AO.grw 5 (q + 1) fun j => bif Nat.beq j (Int.toNat (Prod.fst t3)) then eC (Prod.fst t4) else eC (List.getD (K1.l t2) j default)), (1000000, codO (Prod.snd t4))] }) (some ((.agg (xc (KV.op t5) (KV.kd t5) (KV.nm t5) (KV.m t5) (KV.gv t5) (KV.n t5) (KV.g t5)), [codO (KV.C t5)]))) (none)) (none)) (none)) (none)) (none)) (none)) (none)) (none)) (none)) (none)) (none)) (none) := by subst h_t5 h_t4 h_t3 h_t2 h_t1; kernel_rfl
set_option maxRecDepth 100000 in
theorem c_kr0 (ge : List AV → List AO → Bool) (ve : List AV → List AO → Int × CODES) (gt : List AV → List AO → Bool) (vt : List AV → List AO → EXP × CODES) (T : List Ent) (L : List (List Nat × Orc)) (gw : St → Bool) (vw : St → KV × Int) (m : Nat) (op : Int) (kd nm : List UInt8) (mv : Nat) (gv g : Nat → List AV) (y : KV) (C : CODES) (i : Int) (kn : St → Res) (k : Ex → St → Res) {t1 : EXP × CODES} (h_t1 : vt [.ref 1000000 0] [codO C] = t1) {t2 : KV × Int} (h_t2 : vw { env := [(0, .ref 1000000 0), (3, .ref 3 0), (4, .ref 4 0), (7, .ref 7 0), (8, .int .i64 i)], objs := [(3, .cells (xc (KV.op y) (KV.kd y) (KV.nm y) (KV.m y) (KV.gv y) (KV.n y) (KV.g y))), (4, .cells ex0), (7, .cells [.int .i64 op, .str kd, .str nm, .sl .no 4 mv gv, .sl (.key 110) 5 1 (appGet 0 1 (appGet 0 0 (fun x => []) g) (fillGet ex0 [(0, .agg (eC (Prod.fst t1)))]))]), (110, .own 5 1), (1000000, codO (Prod.snd t1))] } = t2) : roundR (V4.run (mkE 19 ge ve φX :: mkE 47 gt vt φC :: T) 1 [] L [([1, 0, 1, 0, 1], fun _ _ => none), ([1, 1, 0, 1, 0, 1, 1, 1, 1, 1, 1, 1, 1, 1, 1, 1, 1, 1, 1, 1, 1, 1, 0, 1, 0, 1, 0, 0, 1, 1], mkV gw vw (SK y))] 14) 14 m [1, 1, 0, 1, 0, 1, 1, 1, 1, 1, 1, 1, 1, 1, 1, 1, 1, 1, 1, 1, 1, 1, 0, 1, 0, 1, 0] (KL y op kd nm mv gv 0 g C i) kn k =
  cond (decide (i < 11)) (cond (gt [.ref 1000000 0] [codO C]) (cond (gw { env := [(0, .ref 1000000 0), (3, .ref 3 0), (4, .ref 4 0), (7, .ref 7 0), (8, .int .i64 i)], objs := [(3, .cells (xc (KV.op y) (KV.kd y) (KV.nm y) (KV.m y) (KV.gv y) (KV.n y) (KV.g y))), (4, .cells ex0), (7, .cells [.int .i64 op, .str kd, .str nm, .sl .no 4 mv gv, .sl (.key 110) 5 1 (appGet 0 1 (appGet 0 0 (fun x => []) g) (fillGet ex0 [(0, .agg (eC (Prod.fst t1)))]))]), (110, .own 5 1), (1000000, codO (Prod.snd t1))] }) (kn (KL y (KV.op (Prod.fst t2)) (KV.kd (Prod.fst t2)) (KV.nm (Prod.fst t2)) (KV.m (Prod.fst t2)) (KV.gv (Prod.fst t2)) (KV.n (Prod.fst t2) + 1) (KV.g (Prod.fst t2)) (KV.C (Prod.fst t2)) (IntKind.wrap IntKind.i64 (Prod.snd t2 + 1)))) (none)) (none)) (k (.exit 3) ({ env := [(3, .ref 3 0), (4, .ref 4 0), (7, .ref 7 0)], objs := [(3, .cells (xc (KV.op y) (KV.kd y) (KV.nm y) (KV.m y) (KV.gv y) (KV.n y) (KV.g y))), (4, .cells ex0), (7, .cells (xc op kd nm mv gv 0 g)), (1000000, codO C)] })) := by subst h_t2 h_t1; kernel_rfl
set_option maxRecDepth 100000 in
theorem c_kr (ge : List AV → List AO → Bool) (ve : List AV → List AO → Int × CODES) (gt : List AV → List AO → Bool) (vt : List AV → List AO → EXP × CODES) (T : List Ent) (L : List (List Nat × Orc)) (gw : St → Bool) (vw : St → KV × Int) (m : Nat) (op : Int) (kd nm : List UInt8) (mv : Nat) (gv g : Nat → List AV) (q : Nat) (y : KV) (C : CODES) (i : Int) (kn : St → Res) (k : Ex → St → Res) {t1 : EXP × CODES} (h_t1 : vt [.ref 1000000 0] [codO C] = t1) {t2 : KV × Int} (h_t2 : vw { env := [(0, .ref 1000000 0), (3, .ref 3 0), (4, .ref 4 0), (7, .ref 7 0), (8, .int .i64 i)], objs := [(3, .cells (xc (KV.op y) (KV.kd y) (KV.nm y) (KV.m y) (KV.gv y) (KV.n y) (KV.g y))), (4, .cells ex0), (7, .cells [.int .i64 op, .str kd, .str nm, .sl .no 4 mv gv, .sl (.key 110) 5 (0 + (q + 1) + 1) (appGet (0 + (q + 1)) 1 (appGet 0 (q + 1) (fun x => []) g) (fillGet ex0 [(0, .agg (eC (Prod.fst t1)))]))]), (110, .own 5 (0 + (q + 1) + 1)), (1000000, codO (Prod.snd t1))] } = t2) : roundR (V4.run (mkE 19 ge ve φX :: mkE 47 gt vt φC :: T) 1 [] L [([1, 0, 1, 0, 1], fun _ _ => none), ([1, 1, 0, 1, 0, 1, 1, 1, 1, 1, 1, 1, 1, 1, 1, 1, 1, 1, 1, 1, 1, 1, 0, 1, 0, 1, 0, 0, 1, 1], mkV gw vw (SK y))] 14) 14 m [1, 1, 0, 1, 0, 1, 1, 1, 1, 1, 1, 1, 1, 1, 1, 1, 1, 1, 1, 1, 1, 1, 0, 1, 0, 1, 0] (KL y op kd nm mv gv (q + 1) g C i) kn k =
  cond (decide (i < 11)) (cond (roomy (88) (0 + (q + 1))) (cond (gt [.ref 1000000 0] [codO C]) (cond (roomy (88) (0 + (q + 1) + 1) && Nat.beq (0 + (q + 1)) (0 + (q + 1))) (cond (gw { env := [(0, .ref 1000000 0), (3, .ref 3 0), (4, .ref 4 0), (7, .ref 7 0), (8, .int .i64 i)], objs := [(3, .cells (xc (KV.op y) (KV.kd y) (KV.nm y) (KV.m y) (KV.gv y) (KV.n y) (KV.g y))), (4, .cells ex0), (7, .cells [.int .i64 op, .str kd, .str nm, .sl .no 4 mv gv, .sl (.key 110) 5 (0 + (q + 1) + 1) (appGet (0 + (q + 1)) 1 (appGet 0 (q + 1) (fun x => []) g) (fillGet ex0 [(0, .agg (eC (Prod.fst t1)))]))]), (110, .own 5 (0 + (q + 1) + 1)), (1000000, codO (Prod.snd t1))] }) (kn (KL y (KV.op (Prod.fst t2)) (KV.kd (Prod.fst t2)) (KV.nm (Prod.fst t2)) (KV.m (Prod.fst t2)) (KV.gv (Prod.fst t2)) (KV.n (Prod.fst t2) + 1) (KV.g (Prod.fst t2)) (KV.C (Prod.fst t2)) (IntKind.wrap IntKind.i64 (Prod.snd t2 + 1)))) (none)) (none)) (none)) (none)) (k (.exit 3) ({ env := [(3, .ref 3 0), (4, .ref 4 0), (7, .ref 7 0)], objs := [(3, .cells (xc (KV.op y) (KV.kd y) (KV.nm y) (KV.m y) (KV.gv y) (KV.n y) (KV.g y))), (4, .cells ex0), (7, .cells (xc op kd nm mv gv (q + 1) g)), (1000000, codO C)] })) := by subst h_t2 h_t1; kernel_rfl
set_option maxRecDepth 100000 in
theorem c_nr (ge : List AV → List AO → Bool) (ve : List AV → List AO → Int × CODES) (T : List Ent) (L : List (List Nat × Orc)) (gw : St → Bool) (vw : St → EXP × CODES × Int) (m : Nat) (t : EXP) (C : CODES) (i : Int) (kn : St → Res) (k : Ex → St → Res) {t1 : Int × CODES} (h_t1 : ve [.ref 1000000 0, .int .i64 3] [codO C] = t1) {t2 : EXP × CODES × Int} (h_t2 : vw { env := [(0, .ref 1000000 0), (3, .ref 3 0), (4, .ref 4 0), (6, .int .i64 i)], objs := [(3, .cells (exK 4 (.sl .fit 5 1 (fillGet ex0 [(0, .agg (eC t))])))), (4, .cells ex0), (1000000, codO (Prod.snd t1))] } = t2) : roundR (V4.run (mkE 19 ge ve φX :: T) 1 [] L [([1, 0, 1, 0, 1], fun _ _ => none), ([1, 1, 0, 1, 0, 1, 1, 1, 1, 1, 1, 1, 1, 1, 1, 1, 1, 1, 1, 1, 0, 1, 0, 0, 1, 1], mkV gw vw SN)] 14) 14 m [1, 1, 0, 1, 0, 1, 1, 1, 1, 1, 1, 1, 1, 1, 1, 1, 1, 1, 1, 1, 0, 1, 0] (NL t C i) kn k =
  cond (ge [.ref 1000000 0, .int .i64 3] [codO C]) (cond (decide (i < IntKind.wrap IntKind.i64 (9 + Prod.fst t1))) (cond (gw { env := [(0, .ref 1000000 0), (3, .ref 3 0), (4, .ref 4 0), (6, .int .i64 i)], objs := [(3, .cells (exK 4 (.sl .fit 5 1 (fillGet ex0 [(0, .agg (eC t))])))), (4, .cells ex0), (1000000, codO (Prod.snd t1))] }) (kn (NL (Prod.fst t2) (Prod.fst (Prod.snd t2)) (IntKind.wrap IntKind.i64 (Prod.snd (Prod.snd t2) + 1)))) (none)) (k (.exit 1) ({ env := [(3, .ref 3 0), (4, .ref 4 0)], objs := [(3, .cells (eC t)), (4, .cells ex0), (1000000, codO (Prod.snd t1))] }))) (none) := by subst h_t2 h_t1; kernel_rfl
set_option maxRecDepth 100000 in
theorem c_0_0 (ge : List AV → List AO → Bool) (ve : List AV → List AO → Int × CODES) (op : Int) (kd nm : List UInt8) (m : Nat) (gv : Nat → List AV) (g : Nat → List AV) (C D : CODES) {t1 : Int × CODES} (h_t1 : ve [.ref 1000000 0, .int .i64 18] [codO D] = t1) : runF (V4.run [mkE 19 ge (fun l os => cond (argN 10 l) (0, D) (ve l os)) φX] 1 [] [] [([1, 0, 1, 0, 1], fun _ _ => none)] 14) 9 14 [.ref keyBase 0, .agg (xc op kd nm m gv 0 g)] [codO C] =
  cond (ge [.ref 1000000 0, .int .i64 10] [codO C]) (cond (ge [.ref 1000000 0, .int .i64 18] [codO D]) (some ((.agg (xc (IntKind.wrap IntKind.i64 (Prod.fst (bif argN 10 [.ref 1000000 0, .int .i64 18] then (0, D) else t1) - 1)) kd nm m gv 0 g), [codO (Prod.snd (bif argN 10 [.ref 1000000 0, .int .i64 18] then (0, D) else t1))]))) (none)) (none) := by subst h_t1; kernel_rfl
set_option maxRecDepth 100000 in
theorem c_1_0 (ge : List AV → List AO → Bool) (ve : List AV → List AO → Int × CODES) (gn : List AV → List AO → Bool) (vn : List AV → List AO → List UInt8 × CODES) (op : Int) (kd nm : List UInt8) (m : Nat) (gv : Nat → List AV) (g : Nat → List AV) (C D : CODES) {t1 : List UInt8 × CODES} (h_t1 : vn [.ref 1000000 0] [codO D] = t1) : runF (V4.run [mkE 19 ge (fun l os => cond (argN 10 l) (1, D) (ve l os)) φX, mkE 50 gn vn φT] 1 [] [] [([1, 0, 1, 0, 1], fun _ _ => none)] 14) 9 14 [.ref keyBase 0, .agg (xc op kd nm m gv 0 g)] [codO C] =
  cond (ge [.ref 1000000 0, .int .i64 10] [codO C]) (cond (gn [.ref 1000000 0] [codO D]) (some ((.agg (xc op (Prod.fst t1) nm m gv 0 g), [codO (Prod.snd t1)]))) (none)) (none) := by subst h_t1; kernel_rfl
set_option maxRecDepth 100000 in
theorem c_2_0 (ge : List AV → List AO → Bool) (ve : List AV → List AO → Int × CODES) (gn : List AV → List AO → Bool) (vn : List AV → List AO → List UInt8 × CODES) (op : Int) (kd nm : List UInt8) (m : Nat) (gv : Nat → List AV) (g : Nat → List AV) (C D : CODES) {t1 : List UInt8 × CODES} (h_t1 : vn [.ref 1000000 0] [codO D] = t1) : runF (V4.run [mkE 19 ge (fun l os => cond (argN 10 l) (2, D) (ve l os)) φX, mkE 50 gn vn φT] 1 [] [] [([1, 0, 1, 0, 1], fun _ _ => none)] 14) 9 14 [.ref keyBase 0, .agg (xc op kd nm m gv 0 g)] [codO C] =
  cond (ge [.ref 1000000 0, .int .i64 10] [codO C]) (cond (gn [.ref 1000000 0] [codO D]) (some ((.agg (xc op kd (Prod.fst t1) m gv 0 g), [codO (Prod.snd t1)]))) (none)) (none) := by subst h_t1; kernel_rfl
set_option maxRecDepth 100000 in
theorem c_3_00 (ge : List AV → List AO → Bool) (ve : List AV → List AO → Int × CODES) (ga : List AV → List AO → Bool) (va : List AV → List AO → VAL × CODES) (op : Int) (kd nm : List UInt8) (gv : Nat → List AV) (g : Nat → List AV) (C D : CODES) {t1 : VAL × CODES} (h_t1 : va [.ref 1000000 0] [codO D] = t1) : runF (V4.run [mkE 19 ge (fun l os => cond (argN 10 l) (3, D) (ve l os)) φX, mkE 29 ga va φV] 1 [] [] [([1, 0, 1, 0, 1], fun _ _ => none)] 14) 9 14 [.ref keyBase 0, .agg (xc op kd nm 0 gv 0 g)] [codO C] =
  cond (ge [.ref 1000000 0, .int .i64 10] [codO C]) (cond (ga [.ref 1000000 0] [codO D]) (some ((.agg (xc op kd nm 1 (appGet 0 1 (appGet 0 0 (fun x => []) gv) (fillGet [.int .i64 0, .int .i64 0, .str [], .sl .fit 0 0 fun x => [] ] [(0, .agg (VAL.c (Prod.fst t1)))])) 0 g), [codO (Prod.snd t1)]))) (none)) (none) := by subst h_t1; kernel_rfl
set_option maxRecDepth 100000 in
theorem c_3_01 (ge : List AV → List AO → Bool) (ve : List AV → List AO → Int × CODES) (ga : List AV → List AO → Bool) (va : List AV → List AO → VAL × CODES) (op : Int) (kd nm : List UInt8) (p : Nat) (gv : Nat → List AV) (g : Nat → List AV) (C D : CODES) {t1 : VAL × CODES} (h_t1 : va [.ref 1000000 0] [codO D] = t1) : runF (V4.run [mkE 19 ge (fun l os => cond (argN 10 l) (3, D) (ve l os)) φX, mkE 29 ga va φV] 1 [] [] [([1, 0, 1, 0, 1], fun _ _ => none)] 14) 9 14 [.ref keyBase 0, .agg (xc op kd nm (p + 1) gv 0 g)] [codO C] =
  cond (ge [.ref 1000000 0, .int .i64 10] [codO C]) (cond (roomy (56) (0 + (p + 1))) (cond (ga [.ref 1000000 0] [codO D]) (cond (roomy (56) (0 + (p + 1) + 1) && Nat.beq (0 + (p + 1)) (0 + (p + 1))) (some ((.agg (xc op kd nm (0 + (p + 1) + 1) (appGet (0 + (p + 1)) 1 (appGet 0 (p + 1) (fun x => []) gv) (fillGet [.int .i64 0, .int .i64 0, .str [], .sl .fit 0 0 fun x => [] ] [(0, .agg (VAL.c (Prod.fst t1)))])) 0 g), [codO (Prod.snd t1)]))) (none)) (none)) (none)) (none) := by subst h_t1; kernel_rfl
set_option maxRecDepth 100000 in
theorem c_4_0 (ge : List AV → List AO → Bool) (ve : List AV → List AO → Int × CODES) (op : Int) (kd nm : List UInt8) (m : Nat) (gv : Nat → List AV) (g : Nat → List AV) (C D : CODES)  : runF (V4.run [mkE 19 ge (fun l os => cond (argN 10 l) (4, D) (ve l os)) φX] 1 [] [] [([1, 0, 1, 0, 1], fun _ _ => none)] 14) 9 14 [.ref keyBase 0, .agg (xc op kd nm m gv 0 g)] [codO C] =
  cond (ge [.ref 1000000 0, .int .i64 10] [codO C]) (some ((.agg [.int .i64 op, .str kd, .str nm, .sl .fit 0 0 fun x => [], .sl .no 5 0 g], [codO D]))) (none) := by kernel_rfl
set_option maxRecDepth 100000 in
theorem c_5_0 (ge : List AV → List AO → Bool) (ve : List AV → List AO → Int × CODES) (gu : List AV → List AO → Bool) (vu : List AV → List AO → Int × CODES) (op : Int) (kd nm : List UInt8) (m : Nat) (gv : Nat → List AV) (g : Nat → List AV) (C D : CODES) {t1 : Int × CODES} (h_t1 : ve [.ref 1000000 0, .int .i64 7] [codO D] = t1) {t2 : Int × CODES} (h_t2 : vu [.ref 1000000 0] [codO (Prod.snd (bif argN 10 [.ref 1000000 0, .int .i64 7] then (5, D) else t1))] = t2) : runF (V4.run [mkE 19 ge (fun l os => cond (argN 10 l) (5, D) (ve l os)) φX, mkE 51 gu vu φX] 1 [] [] [([1, 0, 1, 0, 1], fun _ _ => none)] 14) 9 14 [.ref keyBase 0, .agg (xc op kd nm m gv 0 g)] [codO C] =
  cond (ge [.ref 1000000 0, .int .i64 10] [codO C]) (cond (ge [.ref 1000000 0, .int .i64 7] [codO D]) (cond (gu [.ref 1000000 0] [codO (Prod.snd (bif argN 10 [.ref 1000000 0, .int .i64 7] then (5, D) else t1))]) (some ((.agg [.int .i64 op, .str kd, .str nm, .sl .fit 4 1 (fillGet [.int .i64 0, .int .i64 0, .str [], .sl .fit 0 0 fun x => [] ] [(0, .agg [.int .i64 (Prod.fst (bif argN 10 [.ref 1000000 0, .int .i64 7] then (5, D) else t1)), .int .i64 (Prod.fst t2), .str [], .sl .fit 0 0 fun x => [] ])]), .sl .no 5 0 g], [codO (Prod.snd t2)]))) (none)) (none)) (none) := by subst h_t2 h_t1; kernel_rfl
set_option maxRecDepth 100000 in
theorem c_6_0 (ge : List AV → List AO → Bool) (ve : List AV → List AO → Int × CODES) (gt : List AV → List AO → Bool) (vt : List AV → List AO → EXP × CODES) (op : Int) (kd nm : List UInt8) (m : Nat) (gv : Nat → List AV) (g : Nat → List AV) (C D : CODES) {t1 : EXP × CODES} (h_t1 : vt [.ref 1000000 0] [codO D] = t1) : runF (V4.run [mkE 19 ge (fun l os => cond (argN 10 l) (6, D) (ve l os)) φX, mkE 47 gt vt φC] 1 [] [] [([1, 0, 1, 0, 1], fun _ _ => none)] 14) 9 14 [.ref keyBase 0, .agg (xc op kd nm m gv 0 g)] [codO C] =
  cond (ge [.ref 1000000 0, .int .i64 10] [codO C]) (cond (gt [.ref 1000000 0] [codO D]) (some ((.agg (xc op kd nm m gv 1 (appGet 0 1 (appGet 0 0 (fun x => []) g) (fillGet ex0 [(0, .agg (eC (Prod.fst t1)))]))), [codO (Prod.snd t1)]))) (none)) (none) := by subst h_t1; kernel_rfl
set_option maxRecDepth 100000 in
theorem c_7_0 (ge : List AV → List AO → Bool) (ve : List AV → List AO → Int × CODES) (g1 : St → Bool) (v1 : St → EXP × CODES) (wn : Vw) (op : Int) (kd nm : List UInt8) (m : Nat) (gv : Nat → List AV) (g : Nat → List AV) (C D : CODES) {t1 : EXP × CODES} (h_t1 : v1 { env := [(0, .ref 1000000 0), (3, .ref 3 0), (4, .ref 4 0), (6, .int .i64 0)], objs := [(3, .cells (xc op kd nm m gv 0 g)), (4, .cells ex0), (1000000, codO D)] } = t1) : runF (V4.run [mkE 19 ge (fun l os => cond (argN 10 l) (7, D) (ve l os)) φX] 1 [] [([1, 1, 0, 1, 0, 1, 1, 1, 1, 1, 1, 1, 1, 1, 1, 1, 1, 1, 1, 1, 0, 1, 0], mkO g1 v1 outN)] [([1, 0, 1, 0, 1], fun _ _ => none), ([1, 1, 0, 1, 0, 1, 1, 1, 1, 1, 1, 1, 1, 1, 1, 1, 1, 1, 1, 1, 0, 1, 0, 0, 1, 1], wn)] 14) 9 14 [.ref keyBase 0, .agg (xc op kd nm m gv 0 g)] [codO C] =
  cond (ge [.ref 1000000 0, .int .i64 10] [codO C]) (cond (g1 { env := [(0, .ref 1000000 0), (3, .ref 3 0), (4, .ref 4 0), (6, .int .i64 0)], objs := [(3, .cells (xc op kd nm m gv 0 g)), (4, .cells ex0), (1000000, codO D)] }) (some ((.agg (eC (Prod.fst t1)), [codO (Prod.snd t1)]))) (none)) (none) := by subst h_t1; kernel_rfl
set_option maxRecDepth 100000 in
theorem c_8_0 (ge : List AV → List AO → Bool) (ve : List AV → List AO → Int × CODES) (gt : List AV → List AO → Bool) (vt : List AV → List AO → EXP × CODES) (g1 : St → Bool) (v1 : St → KV) (wk : Vw) (op : Int) (kd nm : List UInt8) (m : Nat) (gv : Nat → List AV) (g : Nat → List AV) (C D : CODES) {t1 : KV} (h_t1 : v1 { env := [(0, .ref 1000000 0), (3, .ref 3 0), (4, .ref 4 0), (7, .ref 7 0), (8, .int .i64 0)], objs := [(3, .cells (xc op kd nm m gv 0 g)), (4, .cells ex0), (7, .cells (xc op kd nm m gv 0 g)), (1000000, codO D)] } = t1) : runF (V4.run [mkE 19 ge (fun l os => cond (argN 10 l) (8, D) (ve l os)) φX, mkE 47 gt vt φC] 1 [] [([1, 1, 0, 1, 0, 1, 1, 1, 1, 1, 1, 1, 1, 1, 1, 1, 1, 1, 1, 1, 1, 1, 0, 1, 0, 1, 0], mkO g1 v1 (outK ⟨op, kd, nm, m, gv, 0, g, D⟩))] [([1, 0, 1, 0, 1], fun _ _ => none), ([1, 1, 0, 1, 0, 1, 1, 1, 1, 1, 1, 1, 1, 1, 1, 1, 1, 1, 1, 1, 1, 1, 0, 1, 0, 1, 0, 0, 1, 1], wk)] 14) 9 14 [.ref keyBase 0, .agg (xc op kd nm m gv 0 g)] [codO C] =
  cond (ge [.ref 1000000 0, .int .i64 10] [codO C]) (cond (g1 { env := [(0, .ref 1000000 0), (3, .ref 3 0), (4, .ref 4 0), (7, .ref 7 0), (8, .int .i64 0)], objs := [(3, .cells (xc op kd nm m gv 0 g)), (4, .cells ex0), (7, .cells (xc op kd nm m gv 0 g)), (1000000, codO D)] }) (some ((.agg (xc (KV.op t1) (KV.kd t1) (KV.nm t1) (KV.m t1) (KV.gv t1) (KV.n t1 + 1) (KV.g t1)), [codO (KV.C t1)]))) (none)) (none) := by subst h_t1; kernel_rfl
set_option maxRecDepth 100000 in
theorem c_9_0 (ge : List AV → List AO → Bool) (ve : List AV → List AO → Int × CODES) (gt : List AV → List AO → Bool) (vt : List AV → List AO → EXP × CODES) (op : Int) (kd nm : List UInt8) (m : Nat) (gv : Nat → List AV) (g : Nat → List AV) (C D : CODES) {t1 : EXP × CODES} (h_t1 : vt [.ref 1000000 0] [codO D] = t1) : runF (V4.run [mkE 19 ge (fun l os => cond (argN 10 l) (9, D) (ve l os)) φX, mkE 47 gt vt φC] 1 [] [] [([1, 0, 1, 0, 1], fun _ _ => none)] 14) 9 14 [.ref keyBase 0, .agg (xc op kd nm m gv 0 g)] [codO C] =
  cond (ge [.ref 1000000 0, .int .i64 10] [codO C]) (cond (gt [.ref 1000000 0] [codO D]) (some ((.agg (exK 2 (.sl .fit 5 2 (fillGet ex0 [(0, .agg (xc op kd nm m gv 0 g)), (1, .agg (eC (Prod.fst t1)))]))), [codO (Prod.snd t1)]))) (none)) (none) := by subst h_t1; kernel_rfl
set_option maxRecDepth 100000 in
theorem c_0_1 (ge : List AV → List AO → Bool) (ve : List AV → List AO → Int × CODES) (op : Int) (kd nm : List UInt8) (m : Nat) (gv : Nat → List AV) (q : Nat) (g : Nat → List AV) (C D : CODES) {t1 : Int × CODES} (h_t1 : ve [.ref 1000000 0, .int .i64 3] [codO C] = t1) {t2 : Int × CODES} (h_t2 : ve [.ref 1000000 0, .int .i64 18] [codO D] = t2) : runF (V4.run [mkE 19 ge (fun l os => cond (argN 10 l) (0, D) (ve l os)) φX] 1 [] [] [([1, 0, 1, 0, 1], fun _ _ => none)] 14) 9 14 [.ref keyBase 0, .agg (xc op kd nm m gv (q + 1) g)] [codO C] =
  cond (decide ((↑(q + 1) : Int) > 0)) (cond (ge [.ref 1000000 0, .int .i64 3] [codO C]) (cond (bif true then decide (Prod.fst (bif argN 10 [.ref 1000000 0, .int .i64 3] then (0, D) else t1) > 0) else false) (cond (roomy (88) (0 + (q + 1))) (none) (none)) (cond (ge [.ref 1000000 0, .int .i64 10] [codO (Prod.snd (bif argN 10 [.ref 1000000 0, .int .i64 3] then (0, D) else t1))]) (cond (ge [.ref 1000000 0, .int .i64 18] [codO D]) (some ((.agg (xc (IntKind.wrap IntKind.i64 (Prod.fst (bif argN 10 [.ref 1000000 0, .int .i64 18] then (0, D) else t2) - 1)) kd nm m gv (q + 1) g), [codO (Prod.snd (bif argN 10 [.ref 1000000 0, .int .i64 18] then (0, D) else t2))]))) (none)) (none))) (none)) (cond (ge [.ref 1000000 0, .int .i64 10] [codO C]) (cond (ge [.ref 1000000 0, .int .i64 18] [codO D]) (some ((.agg (xc (IntKind.wrap IntKind.i64 (Prod.fst (bif argN 10 [.ref 1000000 0, .int .i64 18] then (0, D) else t2) - 1)) kd nm m gv (q + 1) g), [codO (Prod.snd (bif argN 10 [.ref 1000000 0, .int .i64 18] then (0, D) else t2))]))) (none)) (none)) := by subst h_t2 h_t1; kernel_rfl
set_option maxRecDepth 100000 in
theorem c_1_1 (ge : List AV → List AO → Bool) (ve : List AV → List AO → Int × CODES) (gn : List AV → List AO → Bool) (vn : List AV → List AO → List UInt8 × CODES) (op : Int) (kd nm : List UInt8) (m : Nat) (gv : Nat → List AV) (q : Nat) (g : Nat → List AV) (C D : CODES) {t1 : Int × CODES} (h_t1 : ve [.ref 1000000 0, .int .i64 3] [codO C] = t1) {t2 : List UInt8 × CODES} (h_t2 : vn [.ref 1000000 0] [codO D] = t2) : runF (V4.run [mkE 19 ge (fun l os => cond (argN 10 l) (1, D) (ve l os)) φX, mkE 50 gn vn φT] 1 [] [] [([1, 0, 1, 0, 1], fun _ _ => none)] 14) 9 14 [.ref keyBase 0, .agg (xc op kd nm m gv (q + 1) g)] [codO C] =
  cond (decide ((↑(q + 1) : Int) > 0)) (cond (ge [.ref 1000000 0, .int .i64 3] [codO C]) (cond (bif true then decide (Prod.fst (bif argN 10 [.ref 1000000 0, .int .i64 3] then (1, D) else t1) > 0) else false) (cond (roomy (88) (0 + (q + 1))) (none) (none)) (cond (ge [.ref 1000000 0, .int .i64 10] [codO (Prod.snd (bif argN 10 [.ref 1000000 0, .int .i64 3] then (1, D) else t1))]) (cond (gn [.ref 1000000 0] [codO D]) (some ((.agg (xc op (Prod.fst t2) nm m gv (q + 1) g), [codO (Prod.snd t2)]))) (none)) (none))) (none)) (cond (ge [.ref 1000000 0, .int .i64 10] [codO C]) (cond (gn [.ref 1000000 0] [codO D]) (some ((.agg (xc op (Prod.fst t2) nm m gv (q + 1) g), [codO (Prod.snd t2)]))) (none)) (none)) := by subst h_t2 h_t1; kernel_rfl
set_option maxRecDepth 100000 in
theorem c_2_1 (ge : List AV → List AO → Bool) (ve : List AV → List AO → Int × CODES) (gn : List AV → List AO → Bool) (vn : List AV → List AO → List UInt8 × CODES) (op : Int) (kd nm : List UInt8) (m : Nat) (gv : Nat → List AV) (q : Nat) (g : Nat → List AV) (C D : CODES) {t1 : Int × CODES} (h_t1 : ve [.ref 1000000 0, .int .i64 3] [codO C] = t1) {t2 : List UInt8 × CODES} (h_t2 : vn [.ref 1000000 0] [codO D] = t2) : runF (V4.run [mkE 19 ge (fun l os => cond (argN 10 l) (2, D) (ve l os)) φX, mkE 50 gn vn φT] 1 [] [] [([1, 0, 1, 0, 1], fun _ _ => none)] 14) 9 14 [.ref keyBase 0, .agg (xc op kd nm m gv (q + 1) g)] [codO C] =
  cond (decide ((↑(q + 1) : Int) > 0)) (cond (ge [.ref 1000000 0, .int .i64 3] [codO C]) (cond (bif true then decide (Prod.fst (bif argN 10 [.ref 1000000 0, .int .i64 3] then (2, D) else t1) > 0) else false) (cond (roomy (88) (0 + (q + 1))) (none) (none)) (cond (ge [.ref 1000000 0, .int .i64 10] [codO (Prod.snd (bif argN 10 [.ref 1000000 0, .int .i64 3] then (2, D) else t1))]) (cond (gn [.ref 1000000 0] [codO D]) (some ((.agg (xc op kd (Prod.fst t2) m gv (q + 1) g), [codO (Prod.snd t2)]))) (none)) (none))) (none)) (cond (ge [.ref 1000000 0, .int .i64 10] [codO C]) (cond (gn [.ref 1000000 0] [codO D]) (some ((.agg (xc op kd (Prod.fst t2) m gv (q + 1) g), [codO (Prod.snd t2)]))) (none)) (none)) := by subst h_t2 h_t1; kernel_rfl
set_option maxRecDepth 100000 in
theorem c_3_10 (ge : List AV → List AO → Bool) (ve : List AV → List AO → Int × CODES) (ga : List AV → List AO → Bool) (va : List AV → List AO → VAL × CODES) (op : Int) (kd nm : List UInt8) (gv : Nat → List AV) (q : Nat) (g : Nat → List AV) (C D : CODES) {t1 : Int × CODES} (h_t1 : ve [.ref 1000000 0, .int .i64 3] [codO C] = t1) {t2 : VAL × CODES} (h_t2 : va [.ref 1000000 0] [codO D] = t2) : runF (V4.run [mkE 19 ge (fun l os => cond (argN 10 l) (3, D) (ve l os)) φX, mkE 29 ga va φV] 1 [] [] [([1, 0, 1, 0, 1], fun _ _ => none)] 14) 9 14 [.ref keyBase 0, .agg (xc op kd nm 0 gv (q + 1) g)] [codO C] =
  cond (decide ((↑(q + 1) : Int) > 0)) (cond (ge [.ref 1000000 0, .int .i64 3] [codO C]) (cond (bif true then decide (Prod.fst (bif argN 10 [.ref 1000000 0, .int .i64 3] then (3, D) else t1) > 0) else false) (cond (roomy (88) (0 + (q + 1))) (none) (none)) (cond (ge [.ref 1000000 0, .int .i64 10] [codO (Prod.snd (bif argN 10 [.ref 1000000 0, .int .i64 3] then (3, D) else t1))]) (cond (ga [.ref 1000000 0] [codO D]) (some ((.agg (xc op kd nm 1 (appGet 0 1 (appGet 0 0 (fun x => []) gv) (fillGet [.int .i64 0, .int .i64 0, .str [], .sl .fit 0 0 fun x => [] ] [(0, .agg (VAL.c (Prod.fst t2)))])) (q + 1) g), [codO (Prod.snd t2)]))) (none)) (none))) (none)) (cond (ge [.ref 1000000 0, .int .i64 10] [codO C]) (cond (ga [.ref 1000000 0] [codO D]) (some ((.agg (xc op kd nm 1 (appGet 0 1 (appGet 0 0 (fun x => []) gv) (fillGet [.int .i64 0, .int .i64 0, .str [], .sl .fit 0 0 fun x => [] ] [(0, .agg (VAL.c (Prod.fst t2)))])) (q + 1) g), [codO (Prod.snd t2)]))) (none)) (none)) := by subst h_t2 h_t1; kernel_rfl
set_option maxRecDepth 100000 in
theorem c_3_11 (ge : List AV → List AO → Bool) (ve : List AV → List AO → Int × CODES) (ga : List AV → List AO → Bool) (va : List AV → List AO → VAL × CODES) (op : Int) (kd nm : List UInt8) (p : Nat) (gv : Nat → List AV) (q : Nat) (g : Nat → List AV) (C D : CODES) {t1 : Int × CODES} (h_t1 : ve [.ref 1000000 0, .int .i64 3] [codO C] = t1) {t2 : VAL × CODES} (h_t2 : va [.ref 1000000 0] [codO D] = t2) : runF (V4.run [mkE 19 ge (fun l os => cond (argN 10 l) (3, D) (ve l os)) φX, mkE 29 ga va φV] 1 [] [] [([1, 0, 1, 0, 1], fun _ _ => none)] 14) 9 14 [.ref keyBase 0, .agg (xc op kd nm (p + 1) gv (q + 1) g)] [codO C] =
  cond (decide ((↑(q + 1) : Int) > 0)) (cond (ge [.ref 1000000 0, .int .i64 3] [codO C]) (cond (bif true then decide (Prod.fst (bif argN 10 [.ref 1000000 0, .int .i64 3] then (3, D) else t1) > 0) else false) (cond (roomy (88) (0 + (q + 1))) (none) (none)) (cond (ge [.ref 1000000 0, .int .i64 10] [codO (Prod.snd (bif argN 10 [.ref 1000000 0, .int .i64 3] then (3, D) else t1))]) (cond (roomy (56) (0 + (p + 1))) (cond (ga [.ref 1000000 0] [codO D]) (cond (roomy (56) (0 + (p + 1) + 1) && Nat.beq (0 + (p + 1)) (0 + (p + 1))) (some ((.agg (xc op kd nm (0 + (p + 1) + 1) (appGet (0 + (p + 1)) 1 (appGet 0 (p + 1) (fun x => []) gv) (fillGet [.int .i64 0, .int .i64 0, .str [], .sl .fit 0 0 fun x => [] ] [(0, .agg (VAL.c (Prod.fst t2)))])) (q + 1) g), [codO (Prod.snd t2)]))) (none)) (none)) (none)) (none))) (none)) (cond (ge [.ref 1000000 0, .int .i64 10] [codO C]) (cond (roomy (56) (0 + (p + 1))) (cond (ga [.ref 1000000 0] [codO D]) (cond (roomy (56) (0 + (p + 1) + 1) && Nat.beq (0 + (p + 1)) (0 + (p + 1))) (some ((.agg (xc op kd nm (0 + (p + 1) + 1) (appGet (0 + (p + 1)) 1 (appGet 0 (p + 1) (fun x => []) gv) (fillGet [.int .i64 0, .int .i64 0, .str [], .sl .fit 0 0 fun x => [] ] [(0, .agg (VAL.c (Prod.fst t2)))])) (q + 1) g), [codO (Prod.snd t2)]))) (none)) (none)) (none)) (none)) := by subst h_t2 h_t1; kernel_rfl
set_option maxRecDepth 100000 in
theorem c_4_1 (ge : List AV → List AO → Bool) (ve : List AV → List AO → Int × CODES) (op : Int) (kd nm : List UInt8) (m : Nat) (gv : Nat → List AV) (q : Nat) (g : Nat → List AV) (C D : CODES) {t1 : Int × CODES} (h_t1 : ve [.ref 1000000 0, .int .i64 3] [codO C] = t1) : runF (V4.run [mkE 19 ge (fun l os => cond (argN 10 l) (4, D) (ve l os)) φX] 1 [] [] [([1, 0, 1, 0, 1], fun _ _ => none)] 14) 9 14 [.ref keyBase 0, .agg (xc op kd nm m gv (q + 1) g)] [codO C] =
  cond (decide ((↑(q + 1) : Int) > 0)) (cond (ge [.ref 1000000 0, .int .i64 3] [codO C]) (cond (bif true then decide (Prod.fst (bif argN 10 [.ref 1000000 0, .int .i64 3] then (4, D) else t1) > 0) else false) (cond (roomy (88) (0 + (q + 1))) (none) (none)) (cond (ge [.ref 1000000 0, .int .i64 10] [codO (Prod.snd (bif argN 10 [.ref 1000000 0, .int .i64 3] then (4, D) else t1))]) (some ((.agg [.int .i64 op, .str kd, .str nm, .sl .fit 0 0 fun x => [], .sl .no 5 (q + 1) g], [codO D]))) (none))) (none)) (cond (ge [.ref 1000000 0, .int .i64 10] [codO C]) (some ((.agg [.int .i64 op, .str kd, .str nm, .sl .fit 0 0 fun x => [], .sl .no 5 (q + 1) g], [codO D]))) (none)) := by subst h_t1; kernel_rfl
set_option maxRecDepth 100000 in
theorem c_5_1 (ge : List AV → List AO → Bool) (ve : List AV → List AO → Int × CODES) (gu : List AV → List AO → Bool) (vu : List AV → List AO → Int × CODES) (op : Int) (kd nm : List UInt8) (m : Nat) (gv : Nat → List AV) (q : Nat) (g : Nat → List AV) (C D : CODES) {t1 : Int × CODES} (h_t1 : ve [.ref 1000000 0, .int .i64 3] [codO C] = t1) {t2 : Int × CODES} (h_t2 : ve [.ref 1000000 0, .int .i64 7] [codO D] = t2) {t3 : Int × CODES} (h_t3 : vu [.ref 1000000 0] [codO (Prod.snd (bif argN 10 [.ref 1000000 0, .int .i64 7] then (5, D) else t2))] = t3) : runF (V4.run [mkE 19 ge (fun l os => cond (argN 10 l) (5, D) (ve l os)) φX, mkE 51 gu vu φX] 1 [] [] [([1, 0, 1, 0, 1], fun _ _ => none)] 14) 9 14 [.ref keyBase 0, .agg (xc op kd nm m gv (q + 1) g)] [codO C] =
  cond (decide ((↑(q + 1) : Int) > 0)) (cond (ge [.ref 1000000 0, .int .i64 3] [codO C]) (cond (bif true then decide (Prod.fst (bif argN 10 [.ref 1000000 0, .int .i64 3] then (5, D) else t1) > 0) else false) (cond (roomy (88) (0 + (q + 1))) (none) (none)) (cond (ge [.ref 1000000 0, .int .i64 10] [codO (Prod.snd (bif argN 10 [.ref 1000000 0, .int .i64 3] then (5, D) else t1))]) (cond (ge [.ref 1000000 0, .int .i64 7] [codO D]) (cond (gu [.ref 1000000 0] [codO (Prod.snd (bif argN 10 [.ref 1000000 0, .int .i64 7] then (5, D) else t2))]) (some ((.agg [.int .i64 op, .str kd, .str nm, .sl .fit 4 1 (fillGet [.int .i64 0, .int .i64 0, .str [], .sl .fit 0 0 fun x => [] ] [(0, .agg [.int .i64 (Prod.fst (bif argN 10 [.ref 1000000 0, .int .i64 7] then (5, D) else t2)), .int .i64 (Prod.fst t3), .str [], .sl .fit 0 0 fun x => [] ])]), .sl .no 5 (q + 1) g], [codO (Prod.snd t3)]))) (none)) (none)) (none))) (none)) (cond (ge [.ref 1000000 0, .int .i64 10] [codO C]) (cond (ge [.ref 1000000 0, .int .i64 7] [codO D]) (cond (gu [.ref 1000000 0] [codO (Prod.snd (bif argN 10 [.ref 1000000 0, .int .i64 7] then (5, D) else t2))]) (some ((.agg [.int .i64 op, .str kd, .str nm, .sl .fit 4 1 (fillGet [.int .i64 0, .int .i64 0, .str [], .sl .fit 0 0 fun x => [] ] [(0, .agg [.int .i64 (Prod.fst (bif argN 10 [.ref 1000000 0, .int .i64 7] then (5, D) else t2)), .int .i64 (Prod.fst t3), .str [], .sl .fit 0 0 fun x => [] ])]), .sl .no 5 (q + 1) g], [codO (Prod.snd t3)]))) (none)) (none)) (none)) := by subst h_t3 h_t2 h_t1; kernel_rfl
set_option maxRecDepth 100000 in
theorem c_6_1 (ge : List AV → List AO → Bool) (ve : List AV → List AO → Int × CODES) (gt : List AV → List AO → Bool) (vt : List AV → List AO → EXP × CODES) (op : Int) (kd nm : List UInt8) (m : Nat) (gv : Nat → List AV) (q : Nat) (g : Nat → List AV) (C D : CODES) {t1 : Int × CODES} (h_t1 : ve [.ref 1000000 0, .int .i64 3] [codO C] = t1) {t2 : EXP × CODES} (h_t2 : vt [.ref 1000000 0] [codO D] = t2) : runF (V4.run [mkE 19 ge (fun l os => cond (argN 10 l) (6, D) (ve l os)) φX, mkE 47 gt vt φC] 1 [] [] [([1, 0, 1, 0, 1], fun _ _ => none)] 14) 9 14 [.ref keyBase 0, .agg (xc op kd nm m gv (q + 1) g)] [codO C] =
  cond (decide ((↑(q + 1) : Int) > 0)) (cond (ge [.ref 1000000 0, .int .i64 3] [codO C]) (cond (bif true then decide (Prod.fst (bif argN 10 [.ref 1000000 0, .int .i64 3] then (6, D) else t1) > 0) else false) (cond (roomy (88) (0 + (q + 1))) (none) (none)) (cond (ge [.ref 1000000 0, .int .i64 10] [codO (Prod.snd (bif argN 10 [.ref 1000000 0, .int .i64 3] then (6, D) else t1))]) (cond (roomy (88) (0 + (q + 1))) (cond (gt [.ref 1000000 0] [codO D]) (cond (roomy (88) (0 + (q + 1) + 1) && Nat.beq (0 + (q + 1)) (0 + (q + 1))) (some ((.agg (xc op kd nm m gv (0 + (q + 1) + 1) (appGet (0 + (q + 1)) 1 (appGet 0 (q + 1) (fun x => []) g) (fillGet ex0 [(0, .agg (eC (Prod.fst t2)))]))), [codO (Prod.snd t2)]))) (none)) (none)) (none)) (none))) (none)) (cond (ge [.ref 1000000 0, .int .i64 10] [codO C]) (cond (roomy (88) (0 + (q + 1))) (cond (gt [.ref 1000000 0] [codO D]) (cond (roomy (88) (0 + (q + 1) + 1) && Nat.beq (0 + (q + 1)) (0 + (q + 1))) (some ((.agg (xc op kd nm m gv (0 + (q + 1) + 1) (appGet (0 + (q + 1)) 1 (appGet 0 (q + 1) (fun x => []) g) (fillGet ex0 [(0, .agg (eC (Prod.fst t2)))]))), [codO (Prod.snd t2)]))) (none)) (none)) (none)) (none)) := by subst h_t2 h_t1; kernel_rfl
set_option maxRecDepth 100000 in
theorem c_7_1 (ge : List AV → List AO → Bool) (ve : List AV → List AO → Int × CODES) (g1 : St → Bool) (v1 : St → EXP × CODES) (wn : Vw) (op : Int) (kd nm : List UInt8) (m : Nat) (gv : Nat → List AV) (q : Nat) (g : Nat → List AV) (C D : CODES) {t1 : Int × CODES} (h_t1 : ve [.ref 1000000 0, .int .i64 3] [codO C] = t1) {t2 : EXP × CODES} (h_t2 : v1 { env := [(0, .ref 1000000 0), (3, .ref 3 0), (4, .ref 4 0), (6, .int .i64 0)], objs := [(3, .cells (xc op kd nm m gv (q + 1) g)), (4, .cells ex0), (1000000, codO D)] } = t2) : runF (V4.run [mkE 19 ge (fun l os => cond (argN 10 l) (7, D) (ve l os)) φX] 1 [] [([1, 1, 0, 1, 0, 1, 1, 1, 1, 1, 1, 1, 1, 1, 1, 1, 1, 1, 1, 1, 0, 1, 0], mkO g1 v1 outN)] [([1, 0, 1, 0, 1], fun _ _ => none), ([1, 1, 0, 1, 0, 1, 1, 1, 1, 1, 1, 1, 1, 1, 1, 1, 1, 1, 1, 1, 0, 1, 0, 0, 1, 1], wn)] 14) 9 14 [.ref keyBase 0, .agg (xc op kd nm m gv (q + 1) g)] [codO C] =
  cond (decide ((↑(q + 1) : Int) > 0)) (cond (ge [.ref 1000000 0, .int .i64 3] [codO C]) (cond (bif true then decide (Prod.fst (bif argN 10 [.ref 1000000 0, .int .i64 3] then (7, D) else t1) > 0) else false) (cond (roomy (88) (0 + (q + 1))) (none) (none)) (cond (ge [.ref 1000000 0, .int .i64 10] [codO (Prod.snd (bif argN 10 [.ref 1000000 0, .int .i64 3] then (7, D) else t1))]) (cond (g1 { env := [(0, .ref 1000000 0), (3, .ref 3 0), (4, .ref 4 0), (6, .int .i64 0)], objs := [(3, .cells (xc op kd nm m gv (q + 1) g)), (4, .cells ex0), (1000000, codO D)] }) (some ((.agg (eC (Prod.fst t2)), [codO (Prod.snd t2)]))) (none)) (none))) (none)) (cond (ge [.ref 1000000 0, .int .i64 10] [codO C]) (cond (g1 { env := [(0, .ref 1000000 0), (3, .ref 3 0), (4, .ref 4 0), (6, .int .i64 0)], objs := [(3, .cells (xc op kd nm m gv (q + 1) g)), (4, .cells ex0), (1000000, codO D)] }) (some ((.agg (eC (Prod.fst t2)), [codO (Prod.snd t2)]))) (none)) (none)) := by subst h_t2 h_t1; kernel_rfl
set_option maxRecDepth 100000 in
theorem c_8_1 (ge : List AV → List AO → Bool) (ve : List AV → List AO → Int × CODES) (gt : List AV → List AO → Bool) (vt : List AV → List AO → EXP × CODES) (g1 : St → Bool) (v1 : St → KV) (wk : Vw) (op : Int) (kd nm : List UInt8) (m : Nat) (gv : Nat → List AV) (q : Nat) (g : Nat → List AV) (C D : CODES) {t1 : Int × CODES} (h_t1 : ve [.ref 1000000 0, .int .i64 3] [codO C] = t1) {t2 : KV} (h_t2 : v1 { env := [(0, .ref 1000000 0), (3, .ref 3 0), (4, .ref 4 0), (7, .ref 7 0), (8, .int .i64 0)], objs := [(3, .cells (xc op kd nm m gv (q + 1) g)), (4, .cells ex0), (7, .cells (xc op kd nm m gv (q + 1) g)), (1000000, codO D)] } = t2) : runF (V4.run [mkE 19 ge (fun l os => cond (argN 10 l) (8, D) (ve l os)) φX, mkE 47 gt vt φC] 1 [] [([1, 1, 0, 1, 0, 1, 1, 1, 1, 1, 1, 1, 1, 1, 1, 1, 1, 1, 1, 1, 1, 1, 0, 1, 0, 1, 0], mkO g1 v1 (outK ⟨op, kd, nm, m, gv, (q + 1), g, D⟩))] [([1, 0, 1, 0, 1], fun _ _ => none), ([1, 1, 0, 1, 0, 1, 1, 1, 1, 1, 1, 1, 1, 1, 1, 1, 1, 1, 1, 1, 1, 1, 0, 1, 0, 1, 0, 0, 1, 1], wk)] 14) 9 14 [.ref keyBase 0, .agg (xc op kd nm m gv (q + 1) g)] [codO C] =
  cond (decide ((↑(q + 1) : Int) > 0)) (cond (ge [.ref 1000000 0, .int .i64 3] [codO C]) (cond (bif true then decide (Prod.fst (bif argN 10 [.ref 1000000 0, .int .i64 3] then (8, D) else t1) > 0) else false) (cond (roomy (88) (0 + (q + 1))) (none) (none)) (cond (ge [.ref 1000000 0, .int .i64 10] [codO (Prod.snd (bif argN 10 [.ref 1000000 0, .int .i64 3] then (8, D) else t1))]) (cond (g1 { env := [(0, .ref 1000000 0), (3, .ref 3 0), (4, .ref 4 0), (7, .ref 7 0), (8, .int .i64 0)], objs := [(3, .cells (xc op kd nm m gv (q + 1) g)), (4, .cells ex0), (7, .cells (xc op kd nm m gv (q + 1) g)), (1000000, codO D)] }) (some ((.agg (xc (KV.op t2) (KV.kd t2) (KV.nm t2) (KV.m t2) (KV.gv t2) (KV.n t2 + 1) (KV.g t2)), [codO (KV.C t2)]))) (none)) (none))) (none)) (cond (ge [.ref 1000000 0, .int .i64 10] [codO C]) (cond (g1 { env := [(0, .ref 1000000 0), (3, .ref 3 0), (4, .ref 4 0), (7, .ref 7 0), (8, .int .i64 0)], objs := [(3, .cells (xc op kd nm m gv (q + 1) g)), (4, .cells ex0), (7, .cells (xc op kd nm m gv (q + 1) g)), (1000000, codO D)] }) (some ((.agg (xc (KV.op t2) (KV.kd t2) (KV.nm t2) (KV.m t2) (KV.gv t2) (KV.n t2 + 1) (KV.g t2)), [codO (KV.C t2)]))) (none)) (none)) := by subst h_t2 h_t1; kernel_rfl
set_option maxRecDepth 100000 in
theorem c_9_1 (ge : List AV → List AO → Bool) (ve : List AV → List AO → Int × CODES) (gt : List AV → List AO → Bool) (vt : List AV → List AO → EXP × CODES) (op : Int) (kd nm : List UInt8) (m : Nat) (gv : Nat → List AV) (q : Nat) (g : Nat → List AV) (C D : CODES) {t1 : Int × CODES} (h_t1 : ve [.ref 1000000 0, .int .i64 3] [codO C] = t1) {t2 : EXP × CODES} (h_t2 : vt [.ref 1000000 0] [codO D] = t2) : runF (V4.run [mkE 19 ge (fun l os => cond (argN 10 l) (9, D) (ve l os)) φX, mkE 47 gt vt φC] 1 [] [] [([1, 0, 1, 0, 1], fun _ _ => none)] 14) 9 14 [.ref keyBase 0, .agg (xc op kd nm m gv (q + 1) g)] [codO C] =
  cond (decide ((↑(q + 1) : Int) > 0)) (cond (ge [.ref 1000000 0, .int .i64 3] [codO C]) (cond (bif true then decide (Prod.fst (bif argN 10 [.ref 1000000 0, .int .i64 3] then (9, D) else t1) > 0) else false) (cond (roomy (88) (0 + (q + 1))) (none) (none)) (cond (ge [.ref 1000000 0, .int .i64 10] [codO (Prod.snd (bif argN 10 [.ref 1000000 0, .int .i64 3] then (9, D) else t1))]) (cond (gt [.ref 1000000 0] [codO D]) (some ((.agg (exK 2 (.sl .fit 5 2 (fillGet ex0 [(0, .agg (xc op kd nm m gv (q + 1) g)), (1, .agg (eC (Prod.fst t2)))]))), [codO (Prod.snd t2)]))) (none)) (none))) (none)) (cond (ge [.ref 1000000 0, .int .i64 10] [codO C]) (cond (gt [.ref 1000000 0] [codO D]) (some ((.agg (exK 2 (.sl .fit 5 2 (fillGet ex0 [(0, .agg (xc op kd nm m gv (q + 1) g)), (1, .agg (eC (Prod.fst t2)))]))), [codO (Prod.snd t2)]))) (none)) (none)) := by subst h_t2 h_t1; kernel_rfl
end Go.SH
