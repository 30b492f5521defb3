/- The draws: Test: its contract. The draws: Test: one contract. The draws: Wide, Number, Name, Split: equations; Pick. The draws: Wide, Number, Name: contracts; a split: its contract. The draws: a split: its contract. A view of a state in which less is told: variables' cells told in other words. A view in which a slice that was stored into is read alone from here on. The draws: a split that is spoilt: equations. The draws: a split that is spoilt: its contract. The draws: a split that is spoilt: its contract. The draws: Expr: equations. The draws: Expr: its loop. The draws: Expr at one level: equations. The draws: Expr: how its answers are told. The draws: Expr: its contract. The draws: Condition: equations. The draws: Condition: how its answers are told; its loops and views. The draws: Condition: its loops and views. The draws: Condition: its contract. The draws: Condition: its contract, any condition. The draws: an experiment that is spoilt: equations. -/
import Derived.Test.YtnldpiohcmgkdaaGreatDoorX5
namespace Go.SH
open Go Go.Ab Go.Proofs
set_option linter.unusedVariables false
set_option linter.unusedSimpArgs false
set_option linter.unusedSectionVars false
theorem wrap_lit {a b : Int} (h : a + b < 100) (h0 : 0 ≤ a + b) : IntKind.wrap .i64 (a + b) = a + b := wrap_i64 (by omega) (by omega)
section
variable {C D : CODES} (hC : C.Ok) (hD : D.Ok) {wv : CODES × Int → VAL × CODES} (hwv : ∀ a, vP a → vPost a (wv a)) (htv : ∀ l os, (entC 58 vA vO vP wv φV).pre l os = true → Ct V2.P V2.G (entC 58 vA vO vP wv φV).f l os ((entC 58 vA vO vP wv φV).ans l os))
  {wk : CODES → List UInt8 × CODES} (hwk : ∀ C, C.Ok → (wk C).1 ∈ keysL10 ∧ (wk C).2.Ok) (htk : ∀ l os, (entC 104 cA cO CODES.Ok wk φT).pre l os = true → Ct V2.P V2.G (entC 104 cA cO CODES.Ok wk φT).f l os ((entC 104 cA cO CODES.Ok wk φT).ans l os))
include hC hD hwv htv hwk htk
set_option maxHeartbeats 400000 in
set_option maxRecDepth 100000 in
theorem test_ex0 (h9 : nextR C 9 = (0, D)) : ∃ x, tPost x ∧ Ct V2.P V2.G 47 (cA C) (cO C) (φQ x) := by
  have hT := entB_ok (m := 9) (by omega) hC h9
  have k1 : keyB [100, 101, 118, 105, 99, 101] = true := by kernel_rfl
  have k2 : keyB [99, 111, 114, 101, 115] = true := by kernel_rfl
  obtain ⟨w, hw, hl⟩ := test_loop [100, 101, 118, 105, 99, 101] [99, 111, 114, 101, 115] 2 (by omega) (by omega) (gB 9 C) (fun l os => cond (argN 9 l) (0, D) (vN l os)) (fun C' h' => gB_eq h' (by omega) (by omega)) (fun C' h' => by
    show cond (argN 9 [.ref 1000000 0, .int .i64 3]) (0, D) (vN [.ref 1000000 0, .int .i64 3] [codO C']) = _
    rw [argN_ne (by decide)]; exact vN_eq h' (by omega)) wv hwv [entC 104 cA cO CODES.Ok wk φT]
  have hc := fun r he => ct_loops (V := V2) (f := 47) (l := cA C) (os := cO C) (r := r) (n := 9) (d := 3) (T := [entB 9 C (0, D), entC 58 vA vO vP wv φV, entC 104 cA cO CODES.Ok wk φT]) mixed2 funcs2 (tabOk_cons hT (tabOk_cons htv (tabOk_cons htk tabOk_nil))) (loopsOk_cons (hl _) loopsOk_nil) he
  obtain ⟨q0, q1, q2⟩ := nextR_ok hD (m := 5) (by omega)
  cases h5e : nextR D 5 with
  | mk r C2 =>
  rw [h5e] at q0 q1 q2
  have q0 : 0 ≤ r := q0
  have q1 : r < 5 := q1
  have q2 : C2.Ok := q2
  have ht5 : vN [.ref 1000000 0, .int .i64 5] [codO D] = (r, C2) := (vN_eq hD (by omega)).trans h5e
  have a5 : argN 9 [.ref 1000000 0, .int .i64 5] = false := argN_ne (by decide)
  have a4 : argN 9 [.ref 1000000 0, .int .i64 4] = false := argN_ne (by decide)
  have a2 : argN 9 [.ref 1000000 0, .int .i64 2] = false := argN_ne (by decide)
  have hg9 : gB 9 C [.ref 1000000 0, .int .i64 (IntKind.wrap .i64 (((8 : Nat) : Int) + 1))] [codO C] = true := gB_eq (n := 9) hC (by omega) fun _ => rfl
  have hg5 : gB 9 C [.ref 1000000 0, .int .i64 5] [codO D] = true := gB_eq hD (by omega) (by omega)
  have hn4 : gB 9 C [.ref 1000000 0, .int .i64 4] [codO C2] = true := gB_eq q2 (by omega) (by omega)
  have hn2 : gB 9 C [.ref 1000000 0, .int .i64 2] [codO C2] = true := gB_eq q2 (by omega) (by omega)
  have hv2 : goodA vA vO vP [.ref 1000000 0, .int .i64 2] [codO C2] = true := vA_good (by omega) (by omega) q2
  have hv3 : goodA vA vO vP [.ref 1000000 0, .int .i64 3] [codO C2] = true := vA_good (by omega) (by omega) q2
  have hy2 : vPost (C2, 2) (valA vA vO vP wv [.ref 1000000 0, .int .i64 2] [codO C2]) := vA_post hwv (by omega) (by omega) q2
  have hy3 : vPost (C2, 3) (valA vA vO vP wv [.ref 1000000 0, .int .i64 3] [codO C2]) := vA_post hwv (by omega) (by omega) q2
  have hz : goodS (tS [100, 101, 118, 105, 99, 101] [99, 111, 114, 101, 115] 2) (tI 2) (TS0 [100, 101, 118, 105, 99, 101] [99, 111, 114, 101, 115] 2 C2) = true := tS_good [100, 101, 118, 105, 99, 101] [99, 111, 114, 101, 115] 2 q2
  have hzp : tZ 2 (valS (tS [100, 101, 118, 105, 99, 101] [99, 111, 114, 101, 115] 2) (tI 2) w (TS0 [100, 101, 118, 105, 99, 101] [99, 111, 114, 101, 115] 2 C2)) := tS_post [100, 101, 118, 105, 99, 101] [99, 111, 114, 101, 115] 2 hw q2
  have hr : r = 0 ∨ r = 1 ∨ r = 2 ∨ r = 3 ∨ r = 4 := by omega
  have h3 : ([100, 101, 118, 105, 99, 101] : List UInt8).length ≤ 100 := by decide
  have h4 : ([99, 111, 114, 101, 115] : List UInt8).length ≤ 100 := by decide
  rcases hr with rfl | rfl | rfl | rfl | rfl
  · exact leaf0 (D := C2) k1 k2 h3 h4 q2 (hc _ ((test_0 (gB 9 C) (goodA vA vO vP) (goodA cA cO CODES.Ok) vN (valA vA vO vP wv) (valA cA cO CODES.Ok wk) (goodS (tS [100, 101, 118, 105, 99, 101] [99, 111, 114, 101, 115] 2) (tI 2)) (valS (tS [100, 101, 118, 105, 99, 101] [99, 111, 114, 101, 115] 2) (tI 2) w) C D (t1 := (0, C2)) ht5 rfl rfl rfl rfl).trans ((congrArg (fun b => cond b _ _) hg9).trans (by simp only [a5, a4, a2, cond_false, cond_true, hg5, hn4, hn2, hv2, hv3, hz] <;> rfl))))
  · generalize hz2 : valS (tS [100, 101, 118, 105, 99, 101] [99, 111, 114, 101, 115] 2) (tI 2) w (TS0 [100, 101, 118, 105, 99, 101] [99, 111, 114, 101, 115] 2 C2) = z at hzp
    exact leafL (o := .no) k1 k2 h3 h4 hzp (hc (.agg (exC 8 [100, 101, 118, 105, 99, 101] [99, 111, 114, 101, 115] (.sl .no 4 z.1.length (getV z.1))), [codO z.2]) ((test_0 (gB 9 C) (goodA vA vO vP) (goodA cA cO CODES.Ok) vN (valA vA vO vP wv) (valA cA cO CODES.Ok wk) (goodS (tS [100, 101, 118, 105, 99, 101] [99, 111, 114, 101, 115] 2) (tI 2)) (valS (tS [100, 101, 118, 105, 99, 101] [99, 111, 114, 101, 115] 2) (tI 2) w) C D (t1 := (1, C2)) ht5 (t2 := z) (by simp only [a5, cond_false]; exact hz2) rfl rfl rfl).trans ((congrArg (fun b => cond b _ _) hg9).trans (by simp only [a5, a4, a2, cond_false, cond_true, hg5, hn4, hn2, hv2, hv3, hz] <;> rfl))))
  · exact leaf1 (op := 7) (y := valA vA vO vP wv [.ref 1000000 0, .int .i64 2] [codO C2]) k1 k2 h3 h4 hy2 ⟨by omega, by omega, by omega, by omega, by intro h; cases h⟩ (hc _ ((test_0 (gB 9 C) (goodA vA vO vP) (goodA cA cO CODES.Ok) vN (valA vA vO vP wv) (valA cA cO CODES.Ok wk) (goodS (tS [100, 101, 118, 105, 99, 101] [99, 111, 114, 101, 115] 2) (tI 2)) (valS (tS [100, 101, 118, 105, 99, 101] [99, 111, 114, 101, 115] 2) (tI 2) w) C D (t1 := (2, C2)) ht5 rfl rfl rfl rfl).trans ((congrArg (fun b => cond b _ _) hg9).trans (by simp only [a5, a4, a2, cond_false, cond_true, hg5, hn4, hn2, hv2, hv3, hz] <;> rfl))))
  · obtain ⟨p0, p1, p2⟩ := nextR_ok q2 (m := 4) (by omega)
    cases hne : nextR C2 4 with
    | mk u C3 =>
    rw [hne] at p0 p1 p2
    have p0 : 0 ≤ u := p0
    have p1 : u < 4 := p1
    have p2 : C3.Ok := p2
    have htn : vN [.ref 1000000 0, .int .i64 4] [codO C2] = (u, C3) := (vN_eq q2 (by omega)).trans hne
    have hvC : goodA vA vO vP [.ref 1000000 0, .int .i64 2] [codO C3] = true := vA_good (by omega) (by omega) p2
    have hyC : vPost (C3, 2) (valA vA vO vP wv [.ref 1000000 0, .int .i64 2] [codO C3]) := vA_post hwv (by omega) (by omega) p2
    have hwr : IntKind.wrap .i64 (12 + u) = 12 + u := wrap_lit (by omega) (by omega)
    exact leaf1 (op := 12 + u) (y := valA vA vO vP wv [.ref 1000000 0, .int .i64 2] [codO C3]) k1 k2 h3 h4 hyC ⟨by omega, by omega, by omega, by omega, fun h => by rcases (show u = 0 ∨ u = 1 ∨ u = 2 ∨ u = 3 by omega) with rfl | rfl | rfl | rfl <;> cases h⟩ (hc _ ((test_0 (gB 9 C) (goodA vA vO vP) (goodA cA cO CODES.Ok) vN (valA vA vO vP wv) (valA cA cO CODES.Ok wk) (goodS (tS [100, 101, 118, 105, 99, 101] [99, 111, 114, 101, 115] 2) (tI 2)) (valS (tS [100, 101, 118, 105, 99, 101] [99, 111, 114, 101, 115] 2) (tI 2) w) C D (t1 := (3, C2)) ht5 rfl rfl (t4 := (u, C3)) htn rfl).trans ((congrArg (fun b => cond b _ _) hg9).trans (by simp only [a5, a4, a2, cond_false, cond_true, hg5, hn4, hn2, hv2, hv3, hz, hvC, hwr] <;> rfl))))
  · obtain ⟨p0, p1, p2⟩ := nextR_ok q2 (m := 4) (by omega)
    cases hne : nextR C2 4 with
    | mk u C3 =>
    rw [hne] at p0 p1 p2
    have p0 : 0 ≤ u := p0
    have p1 : u < 4 := p1
    have p2 : C3.Ok := p2
    have htn : vN [.ref 1000000 0, .int .i64 4] [codO C2] = (u, C3) := (vN_eq q2 (by omega)).trans hne
    have hvC : goodA vA vO vP [.ref 1000000 0, .int .i64 2] [codO C3] = true := vA_good (by omega) (by omega) p2
    have hyC : vPost (C3, 2) (valA vA vO vP wv [.ref 1000000 0, .int .i64 2] [codO C3]) := vA_post hwv (by omega) (by omega) p2
    have hwr : IntKind.wrap .i64 (12 + u) = 12 + u := wrap_lit (by omega) (by omega)
    exact leaf1 (op := 12 + u) (y := valA vA vO vP wv [.ref 1000000 0, .int .i64 2] [codO C3]) k1 k2 h3 h4 hyC ⟨by omega, by omega, by omega, by omega, fun h => by rcases (show u = 0 ∨ u = 1 ∨ u = 2 ∨ u = 3 by omega) with rfl | rfl | rfl | rfl <;> cases h⟩ (hc _ ((test_0 (gB 9 C) (goodA vA vO vP) (goodA cA cO CODES.Ok) vN (valA vA vO vP wv) (valA cA cO CODES.Ok wk) (goodS (tS [100, 101, 118, 105, 99, 101] [99, 111, 114, 101, 115] 2) (tI 2)) (valS (tS [100, 101, 118, 105, 99, 101] [99, 111, 114, 101, 115] 2) (tI 2) w) C D (t1 := (4, C2)) ht5 rfl rfl (t4 := (u, C3)) htn rfl).trans ((congrArg (fun b => cond b _ _) hg9).trans (by simp only [a5, a4, a2, cond_false, cond_true, hg5, hn4, hn2, hv2, hv3, hz, hvC, hwr] <;> rfl))))
set_option maxHeartbeats 400000 in
set_option maxRecDepth 100000 in
theorem test_ex1 (h9 : nextR C 9 = (1, D)) : ∃ x, tPost x ∧ Ct V2.P V2.G 47 (cA C) (cO C) (φQ x) := by
  have hT := entB_ok (m := 9) (by omega) hC h9
  have k1 : keyB [100, 101, 118, 105, 99, 101] = true := by kernel_rfl
  have k2 : keyB [111, 115] = true := by kernel_rfl
  obtain ⟨w, hw, hl⟩ := test_loop [100, 101, 118, 105, 99, 101] [111, 115] 3 (by omega) (by omega) (gB 9 C) (fun l os => cond (argN 9 l) (1, D) (vN l os)) (fun C' h' => gB_eq h' (by omega) (by omega)) (fun C' h' => by
    show cond (argN 9 [.ref 1000000 0, .int .i64 3]) (1, D) (vN [.ref 1000000 0, .int .i64 3] [codO C']) = _
    rw [argN_ne (by decide)]; exact vN_eq h' (by omega)) wv hwv [entC 104 cA cO CODES.Ok wk φT]
  have hc := fun r he => ct_loops (V := V2) (f := 47) (l := cA C) (os := cO C) (r := r) (n := 9) (d := 3) (T := [entB 9 C (1, D), entC 58 vA vO vP wv φV, entC 104 cA cO CODES.Ok wk φT]) mixed2 funcs2 (tabOk_cons hT (tabOk_cons htv (tabOk_cons htk tabOk_nil))) (loopsOk_cons (hl _) loopsOk_nil) he
  obtain ⟨q0, q1, q2⟩ := nextR_ok hD (m := 5) (by omega)
  cases h5e : nextR D 5 with
  | mk r C2 =>
  rw [h5e] at q0 q1 q2
  have q0 : 0 ≤ r := q0
  have q1 : r < 5 := q1
  have q2 : C2.Ok := q2
  have ht5 : vN [.ref 1000000 0, .int .i64 5] [codO D] = (r, C2) := (vN_eq hD (by omega)).trans h5e
  have a5 : argN 9 [.ref 1000000 0, .int .i64 5] = false := argN_ne (by decide)
  have a4 : argN 9 [.ref 1000000 0, .int .i64 4] = false := argN_ne (by decide)
  have a2 : argN 9 [.ref 1000000 0, .int .i64 2] = false := argN_ne (by decide)
  have hg9 : gB 9 C [.ref 1000000 0, .int .i64 (IntKind.wrap .i64 (((8 : Nat) : Int) + 1))] [codO C] = true := gB_eq (n := 9) hC (by omega) fun _ => rfl
  have hg5 : gB 9 C [.ref 1000000 0, .int .i64 5] [codO D] = true := gB_eq hD (by omega) (by omega)
  have hn4 : gB 9 C [.ref 1000000 0, .int .i64 4] [codO C2] = true := gB_eq q2 (by omega) (by omega)
  have hn2 : gB 9 C [.ref 1000000 0, .int .i64 2] [codO C2] = true := gB_eq q2 (by omega) (by omega)
  have hv2 : goodA vA vO vP [.ref 1000000 0, .int .i64 3] [codO C2] = true := vA_good (by omega) (by omega) q2
  have hv3 : goodA vA vO vP [.ref 1000000 0, .int .i64 3] [codO C2] = true := vA_good (by omega) (by omega) q2
  have hy2 : vPost (C2, 3) (valA vA vO vP wv [.ref 1000000 0, .int .i64 3] [codO C2]) := vA_post hwv (by omega) (by omega) q2
  have hy3 : vPost (C2, 3) (valA vA vO vP wv [.ref 1000000 0, .int .i64 3] [codO C2]) := vA_post hwv (by omega) (by omega) q2
  have hz : goodS (tS [100, 101, 118, 105, 99, 101] [111, 115] 3) (tI 3) (TS0 [100, 101, 118, 105, 99, 101] [111, 115] 3 C2) = true := tS_good [100, 101, 118, 105, 99, 101] [111, 115] 3 q2
  have hzp : tZ 3 (valS (tS [100, 101, 118, 105, 99, 101] [111, 115] 3) (tI 3) w (TS0 [100, 101, 118, 105, 99, 101] [111, 115] 3 C2)) := tS_post [100, 101, 118, 105, 99, 101] [111, 115] 3 hw q2
  have hr : r = 0 ∨ r = 1 ∨ r = 2 ∨ r = 3 ∨ r = 4 := by omega
  have h3 : ([100, 101, 118, 105, 99, 101] : List UInt8).length ≤ 100 := by decide
  have h4 : ([111, 115] : List UInt8).length ≤ 100 := by decide
  rcases hr with rfl | rfl | rfl | rfl | rfl
  · exact leaf0 (D := C2) k1 k2 h3 h4 q2 (hc _ ((test_1 (gB 9 C) (goodA vA vO vP) (goodA cA cO CODES.Ok) vN (valA vA vO vP wv) (valA cA cO CODES.Ok wk) (goodS (tS [100, 101, 118, 105, 99, 101] [111, 115] 3) (tI 3)) (valS (tS [100, 101, 118, 105, 99, 101] [111, 115] 3) (tI 3) w) C D (t1 := (0, C2)) ht5 rfl rfl rfl rfl rfl rfl).trans ((congrArg (fun b => cond b _ _) hg9).trans (by simp only [a5, a4, a2, cond_false, cond_true, hg5, hn4, hn2, hv2, hv3, hz] <;> rfl))))
  · generalize hz2 : valS (tS [100, 101, 118, 105, 99, 101] [111, 115] 3) (tI 3) w (TS0 [100, 101, 118, 105, 99, 101] [111, 115] 3 C2) = z at hzp
    exact leafL (o := .no) k1 k2 h3 h4 hzp (hc (.agg (exC 8 [100, 101, 118, 105, 99, 101] [111, 115] (.sl .no 4 z.1.length (getV z.1))), [codO z.2]) ((test_1 (gB 9 C) (goodA vA vO vP) (goodA cA cO CODES.Ok) vN (valA vA vO vP wv) (valA cA cO CODES.Ok wk) (goodS (tS [100, 101, 118, 105, 99, 101] [111, 115] 3) (tI 3)) (valS (tS [100, 101, 118, 105, 99, 101] [111, 115] 3) (tI 3) w) C D (t1 := (1, C2)) ht5 (t2 := z) (by simp only [a5, cond_false]; exact hz2) rfl rfl rfl rfl rfl).trans ((congrArg (fun b => cond b _ _) hg9).trans (by simp only [a5, a4, a2, cond_false, cond_true, hg5, hn4, hn2, hv2, hv3, hz] <;> rfl))))
  · exact leaf1 (op := 11) (y := valA vA vO vP wv [.ref 1000000 0, .int .i64 3] [codO C2]) k1 k2 h3 h4 hy3 ⟨by omega, by omega, by omega, by omega, fun _ => rfl⟩ (hc _ ((test_1 (gB 9 C) (goodA vA vO vP) (goodA cA cO CODES.Ok) vN (valA vA vO vP wv) (valA cA cO CODES.Ok wk) (goodS (tS [100, 101, 118, 105, 99, 101] [111, 115] 3) (tI 3)) (valS (tS [100, 101, 118, 105, 99, 101] [111, 115] 3) (tI 3) w) C D (t1 := (2, C2)) ht5 rfl rfl rfl rfl rfl rfl).trans ((congrArg (fun b => cond b _ _) hg9).trans (by simp only [a5, a4, a2, cond_false, cond_true, hg5, hn4, hn2, hv2, hv3, hz] <;> rfl))))
  · obtain ⟨p0, p1, p2⟩ := nextR_ok q2 (m := 2) (by omega)
    cases hne : nextR C2 2 with
    | mk u C3 =>
    rw [hne] at p0 p1 p2
    have p0 : 0 ≤ u := p0
    have p1 : u < 2 := p1
    have p2 : C3.Ok := p2
    have htn : vN [.ref 1000000 0, .int .i64 2] [codO C2] = (u, C3) := (vN_eq q2 (by omega)).trans hne
    have hvC : goodA vA vO vP [.ref 1000000 0, .int .i64 3] [codO C3] = true := vA_good (by omega) (by omega) p2
    have hyC : vPost (C3, 3) (valA vA vO vP wv [.ref 1000000 0, .int .i64 3] [codO C3]) := vA_post hwv (by omega) (by omega) p2
    have hwr : IntKind.wrap .i64 (9 + u) = 9 + u := wrap_lit (by omega) (by omega)
    exact leaf1 (op := 9 + u) (y := valA vA vO vP wv [.ref 1000000 0, .int .i64 3] [codO C3]) k1 k2 h3 h4 hyC ⟨by omega, by omega, by omega, by omega, fun _ => rfl⟩ (hc _ ((test_1 (gB 9 C) (goodA vA vO vP) (goodA cA cO CODES.Ok) vN (valA vA vO vP wv) (valA cA cO CODES.Ok wk) (goodS (tS [100, 101, 118, 105, 99, 101] [111, 115] 3) (tI 3)) (valS (tS [100, 101, 118, 105, 99, 101] [111, 115] 3) (tI 3) w) C D (t1 := (3, C2)) ht5 rfl rfl (t4 := (u, C3)) htn rfl rfl rfl).trans ((congrArg (fun b => cond b _ _) hg9).trans (by simp only [a5, a4, a2, cond_false, cond_true, hg5, hn4, hn2, hv2, hv3, hz, hvC, hwr] <;> rfl))))
  · obtain ⟨p0, p1, p2⟩ := nextR_ok q2 (m := 4) (by omega)
    cases hne : nextR C2 4 with
    | mk u C3 =>
    rw [hne] at p0 p1 p2
    have p0 : 0 ≤ u := p0
    have p1 : u < 4 := p1
    have p2 : C3.Ok := p2
    have htn : vN [.ref 1000000 0, .int .i64 4] [codO C2] = (u, C3) := (vN_eq q2 (by omega)).trans hne
    have hvC : goodA vA vO vP [.ref 1000000 0, .int .i64 3] [codO C3] = true := vA_good (by omega) (by omega) p2
    have hyC : vPost (C3, 3) (valA vA vO vP wv [.ref 1000000 0, .int .i64 3] [codO C3]) := vA_post hwv (by omega) (by omega) p2
    have hwr : IntKind.wrap .i64 (12 + u) = 12 + u := wrap_lit (by omega) (by omega)
    exact leaf1 (op := 12 + u) (y := valA vA vO vP wv [.ref 1000000 0, .int .i64 3] [codO C3]) k1 k2 h3 h4 hyC ⟨by omega, by omega, by omega, by omega, fun _ => rfl⟩ (hc _ ((test_1 (gB 9 C) (goodA vA vO vP) (goodA cA cO CODES.Ok) vN (valA vA vO vP wv) (valA cA cO CODES.Ok wk) (goodS (tS [100, 101, 118, 105, 99, 101] [111, 115] 3) (tI 3)) (valS (tS [100, 101, 118, 105, 99, 101] [111, 115] 3) (tI 3) w) C D (t1 := (4, C2)) ht5 rfl rfl rfl rfl (t6 := (u, C3)) htn rfl).trans ((congrArg (fun b => cond b _ _) hg9).trans (by simp only [a5, a4, a2, cond_false, cond_true, hg5, hn4, hn2, hv2, hv3, hz, hvC, hwr] <;> rfl))))
set_option maxHeartbeats 400000 in
set_option maxRecDepth 100000 in
theorem test_ex2 (h9 : nextR C 9 = (2, D)) : ∃ x, tPost x ∧ Ct V2.P V2.G 47 (cA C) (cO C) (φQ x) := by
  have hT := entB_ok (m := 9) (by omega) hC h9
  have k1 : keyB [117, 115, 101, 114] = true := by kernel_rfl
  have k2 : keyB [97, 103, 101] = true := by kernel_rfl
  obtain ⟨w, hw, hl⟩ := test_loop [117, 115, 101, 114] [97, 103, 101] 2 (by omega) (by omega) (gB 9 C) (fun l os => cond (argN 9 l) (2, D) (vN l os)) (fun C' h' => gB_eq h' (by omega) (by omega)) (fun C' h' => by
    show cond (argN 9 [.ref 1000000 0, .int .i64 3]) (2, D) (vN [.ref 1000000 0, .int .i64 3] [codO C']) = _
    rw [argN_ne (by decide)]; exact vN_eq h' (by omega)) wv hwv [entC 104 cA cO CODES.Ok wk φT]
  have hc := fun r he => ct_loops (V := V2) (f := 47) (l := cA C) (os := cO C) (r := r) (n := 9) (d := 3) (T := [entB 9 C (2, D), entC 58 vA vO vP wv φV, entC 104 cA cO CODES.Ok wk φT]) mixed2 funcs2 (tabOk_cons hT (tabOk_cons htv (tabOk_cons htk tabOk_nil))) (loopsOk_cons (hl _) loopsOk_nil) he
  obtain ⟨q0, q1, q2⟩ := nextR_ok hD (m := 5) (by omega)
  cases h5e : nextR D 5 with
  | mk r C2 =>
  rw [h5e] at q0 q1 q2
  have q0 : 0 ≤ r := q0
  have q1 : r < 5 := q1
  have q2 : C2.Ok := q2
  have ht5 : vN [.ref 1000000 0, .int .i64 5] [codO D] = (r, C2) := (vN_eq hD (by omega)).trans h5e
  have a5 : argN 9 [.ref 1000000 0, .int .i64 5] = false := argN_ne (by decide)
  have a4 : argN 9 [.ref 1000000 0, .int .i64 4] = false := argN_ne (by decide)
  have a2 : argN 9 [.ref 1000000 0, .int .i64 2] = false := argN_ne (by decide)
  have hg9 : gB 9 C [.ref 1000000 0, .int .i64 (IntKind.wrap .i64 (((8 : Nat) : Int) + 1))] [codO C] = true := gB_eq (n := 9) hC (by omega) fun _ => rfl
  have hg5 : gB 9 C [.ref 1000000 0, .int .i64 5] [codO D] = true := gB_eq hD (by omega) (by omega)
  have hn4 : gB 9 C [.ref 1000000 0, .int .i64 4] [codO C2] = true := gB_eq q2 (by omega) (by omega)
  have hn2 : gB 9 C [.ref 1000000 0, .int .i64 2] [codO C2] = true := gB_eq q2 (by omega) (by omega)
  have hv2 : goodA vA vO vP [.ref 1000000 0, .int .i64 2] [codO C2] = true := vA_good (by omega) (by omega) q2
  have hv3 : goodA vA vO vP [.ref 1000000 0, .int .i64 3] [codO C2] = true := vA_good (by omega) (by omega) q2
  have hy2 : vPost (C2, 2) (valA vA vO vP wv [.ref 1000000 0, .int .i64 2] [codO C2]) := vA_post hwv (by omega) (by omega) q2
  have hy3 : vPost (C2, 3) (valA vA vO vP wv [.ref 1000000 0, .int .i64 3] [codO C2]) := vA_post hwv (by omega) (by omega) q2
  have hz : goodS (tS [117, 115, 101, 114] [97, 103, 101] 2) (tI 2) (TS0 [117, 115, 101, 114] [97, 103, 101] 2 C2) = true := tS_good [117, 115, 101, 114] [97, 103, 101] 2 q2
  have hzp : tZ 2 (valS (tS [117, 115, 101, 114] [97, 103, 101] 2) (tI 2) w (TS0 [117, 115, 101, 114] [97, 103, 101] 2 C2)) := tS_post [117, 115, 101, 114] [97, 103, 101] 2 hw q2
  have hr : r = 0 ∨ r = 1 ∨ r = 2 ∨ r = 3 ∨ r = 4 := by omega
  have h3 : ([117, 115, 101, 114] : List UInt8).length ≤ 100 := by decide
  have h4 : ([97, 103, 101] : List UInt8).length ≤ 100 := by decide
  rcases hr with rfl | rfl | rfl | rfl | rfl
  · exact leaf0 (D := C2) k1 k2 h3 h4 q2 (hc _ ((test_2 (gB 9 C) (goodA vA vO vP) (goodA cA cO CODES.Ok) vN (valA vA vO vP wv) (valA cA cO CODES.Ok wk) (goodS (tS [117, 115, 101, 114] [97, 103, 101] 2) (tI 2)) (valS (tS [117, 115, 101, 114] [97, 103, 101] 2) (tI 2) w) C D (t1 := (0, C2)) ht5 rfl rfl rfl rfl).trans ((congrArg (fun b => cond b _ _) hg9).trans (by simp only [a5, a4, a2, cond_false, cond_true, hg5, hn4, hn2, hv2, hv3, hz] <;> rfl))))
  · generalize hz2 : valS (tS [117, 115, 101, 114] [97, 103, 101] 2) (tI 2) w (TS0 [117, 115, 101, 114] [97, 103, 101] 2 C2) = z at hzp
    exact leafL (o := .no) k1 k2 h3 h4 hzp (hc (.agg (exC 8 [117, 115, 101, 114] [97, 103, 101] (.sl .no 4 z.1.length (getV z.1))), [codO z.2]) ((test_2 (gB 9 C) (goodA vA vO vP) (goodA cA cO CODES.Ok) vN (valA vA vO vP wv) (valA cA cO CODES.Ok wk) (goodS (tS [117, 115, 101, 114] [97, 103, 101] 2) (tI 2)) (valS (tS [117, 115, 101, 114] [97, 103, 101] 2) (tI 2) w) C D (t1 := (1, C2)) ht5 (t2 := z) (by simp only [a5, cond_false]; exact hz2) rfl rfl rfl).trans ((congrArg (fun b => cond b _ _) hg9).trans (by simp only [a5, a4, a2, cond_false, cond_true, hg5, hn4, hn2, hv2, hv3, hz] <;> rfl))))
  · exact leaf1 (op := 7) (y := valA vA vO vP wv [.ref 1000000 0, .int .i64 2] [codO C2]) k1 k2 h3 h4 hy2 ⟨by omega, by omega, by omega, by omega, by intro h; cases h⟩ (hc _ ((test_2 (gB 9 C) (goodA vA vO vP) (goodA cA cO CODES.Ok) vN (valA vA vO vP wv) (valA cA cO CODES.Ok wk) (goodS (tS [117, 115, 101, 114] [97, 103, 101] 2) (tI 2)) (valS (tS [117, 115, 101, 114] [97, 103, 101] 2) (tI 2) w) C D (t1 := (2, C2)) ht5 rfl rfl rfl rfl).trans ((congrArg (fun b => cond b _ _) hg9).trans (by simp only [a5, a4, a2, cond_false, cond_true, hg5, hn4, hn2, hv2, hv3, hz] <;> rfl))))
  · obtain ⟨p0, p1, p2⟩ := nextR_ok q2 (m := 4) (by omega)
    cases hne : nextR C2 4 with
    | mk u C3 =>
    rw [hne] at p0 p1 p2
    have p0 : 0 ≤ u := p0
    have p1 : u < 4 := p1
    have p2 : C3.Ok := p2
    have htn : vN [.ref 1000000 0, .int .i64 4] [codO C2] = (u, C3) := (vN_eq q2 (by omega)).trans hne
    have hvC : goodA vA vO vP [.ref 1000000 0, .int .i64 2] [codO C3] = true := vA_good (by omega) (by omega) p2
    have hyC : vPost (C3, 2) (valA vA vO vP wv [.ref 1000000 0, .int .i64 2] [codO C3]) := vA_post hwv (by omega) (by omega) p2
    have hwr : IntKind.wrap .i64 (12 + u) = 12 + u := wrap_lit (by omega) (by omega)
    exact leaf1 (op := 12 + u) (y := valA vA vO vP wv [.ref 1000000 0, .int .i64 2] [codO C3]) k1 k2 h3 h4 hyC ⟨by omega, by omega, by omega, by omega, fun h => by rcases (show u = 0 ∨ u = 1 ∨ u = 2 ∨ u = 3 by omega) with rfl | rfl | rfl | rfl <;> cases h⟩ (hc _ ((test_2 (gB 9 C) (goodA vA vO vP) (goodA cA cO CODES.Ok) vN (valA vA vO vP wv) (valA cA cO CODES.Ok wk) (goodS (tS [117, 115, 101, 114] [97, 103, 101] 2) (tI 2)) (valS (tS [117, 115, 101, 114] [97, 103, 101] 2) (tI 2) w) C D (t1 := (3, C2)) ht5 rfl rfl (t4 := (u, C3)) htn rfl).trans ((congrArg (fun b => cond b _ _) hg9).trans (by simp only [a5, a4, a2, cond_false, cond_true, hg5, hn4, hn2, hv2, hv3, hz, hvC, hwr] <;> rfl))))
  · obtain ⟨p0, p1, p2⟩ := nextR_ok q2 (m := 4) (by omega)
    cases hne : nextR C2 4 with
    | mk u C3 =>
    rw [hne] at p0 p1 p2
    have p0 : 0 ≤ u := p0
    have p1 : u < 4 := p1
    have p2 : C3.Ok := p2
    have htn : vN [.ref 1000000 0, .int .i64 4] [codO C2] = (u, C3) := (vN_eq q2 (by omega)).trans hne
    have hvC : goodA vA vO vP [.ref 1000000 0, .int .i64 2] [codO C3] = true := vA_good (by omega) (by omega) p2
    have hyC : vPost (C3, 2) (valA vA vO vP wv [.ref 1000000 0, .int .i64 2] [codO C3]) := vA_post hwv (by omega) (by omega) p2
    have hwr : IntKind.wrap .i64 (12 + u) = 12 + u := wrap_lit (by omega) (by omega)
    exact leaf1 (op := 12 + u) (y := valA vA vO vP wv [.ref 1000000 0, .int .i64 2] [codO C3]) k1 k2 h3 h4 hyC ⟨by omega, by omega, by omega, by omega, fun h => by rcases (show u = 0 ∨ u = 1 ∨ u = 2 ∨ u = 3 by omega) with rfl | rfl | rfl | rfl <;> cases h⟩ (hc _ ((test_2 (gB 9 C) (goodA vA vO vP) (goodA cA cO CODES.Ok) vN (valA vA vO vP wv) (valA cA cO CODES.Ok wk) (goodS (tS [117, 115, 101, 114] [97, 103, 101] 2) (tI 2)) (valS (tS [117, 115, 101, 114] [97, 103, 101] 2) (tI 2) w) C D (t1 := (4, C2)) ht5 rfl rfl (t4 := (u, C3)) htn rfl).trans ((congrArg (fun b => cond b _ _) hg9).trans (by simp only [a5, a4, a2, cond_false, cond_true, hg5, hn4, hn2, hv2, hv3, hz, hvC, hwr] <;> rfl))))
set_option maxHeartbeats 400000 in
set_option maxRecDepth 100000 in
theorem test_ex3 (h9 : nextR C 9 = (3, D)) : ∃ x, tPost x ∧ Ct V2.P V2.G 47 (cA C) (cO C) (φQ x) := by
  have hT := entB_ok (m := 9) (by omega) hC h9
  have k1 : keyB [117, 115, 101, 114] = true := by kernel_rfl
  have k2 : keyB [97, 112, 112] = true := by kernel_rfl
  obtain ⟨w, hw, hl⟩ := test_loop [117, 115, 101, 114] [97, 112, 112] 4 (by omega) (by omega) (gB 9 C) (fun l os => cond (argN 9 l) (3, D) (vN l os)) (fun C' h' => gB_eq h' (by omega) (by omega)) (fun C' h' => by
    show cond (argN 9 [.ref 1000000 0, .int .i64 3]) (3, D) (vN [.ref 1000000 0, .int .i64 3] [codO C']) = _
    rw [argN_ne (by decide)]; exact vN_eq h' (by omega)) wv hwv [entC 104 cA cO CODES.Ok wk φT]
  have hc := fun r he => ct_loops (V := V2) (f := 47) (l := cA C) (os := cO C) (r := r) (n := 9) (d := 3) (T := [entB 9 C (3, D), entC 58 vA vO vP wv φV, entC 104 cA cO CODES.Ok wk φT]) mixed2 funcs2 (tabOk_cons hT (tabOk_cons htv (tabOk_cons htk tabOk_nil))) (loopsOk_cons (hl _) loopsOk_nil) he
  obtain ⟨q0, q1, q2⟩ := nextR_ok hD (m := 5) (by omega)
  cases h5e : nextR D 5 with
  | mk r C2 =>
  rw [h5e] at q0 q1 q2
  have q0 : 0 ≤ r := q0
  have q1 : r < 5 := q1
  have q2 : C2.Ok := q2
  have ht5 : vN [.ref 1000000 0, .int .i64 5] [codO D] = (r, C2) := (vN_eq hD (by omega)).trans h5e
  have a5 : argN 9 [.ref 1000000 0, .int .i64 5] = false := argN_ne (by decide)
  have a4 : argN 9 [.ref 1000000 0, .int .i64 4] = false := argN_ne (by decide)
  have a2 : argN 9 [.ref 1000000 0, .int .i64 2] = false := argN_ne (by decide)
  have hg9 : gB 9 C [.ref 1000000 0, .int .i64 (IntKind.wrap .i64 (((8 : Nat) : Int) + 1))] [codO C] = true := gB_eq (n := 9) hC (by omega) fun _ => rfl
  have hg5 : gB 9 C [.ref 1000000 0, .int .i64 5] [codO D] = true := gB_eq hD (by omega) (by omega)
  have hn4 : gB 9 C [.ref 1000000 0, .int .i64 4] [codO C2] = true := gB_eq q2 (by omega) (by omega)
  have hn2 : gB 9 C [.ref 1000000 0, .int .i64 2] [codO C2] = true := gB_eq q2 (by omega) (by omega)
  have hv2 : goodA vA vO vP [.ref 1000000 0, .int .i64 4] [codO C2] = true := vA_good (by omega) (by omega) q2
  have hv3 : goodA vA vO vP [.ref 1000000 0, .int .i64 3] [codO C2] = true := vA_good (by omega) (by omega) q2
  have hy2 : vPost (C2, 4) (valA vA vO vP wv [.ref 1000000 0, .int .i64 4] [codO C2]) := vA_post hwv (by omega) (by omega) q2
  have hy3 : vPost (C2, 3) (valA vA vO vP wv [.ref 1000000 0, .int .i64 3] [codO C2]) := vA_post hwv (by omega) (by omega) q2
  have hz : goodS (tS [117, 115, 101, 114] [97, 112, 112] 4) (tI 4) (TS0 [117, 115, 101, 114] [97, 112, 112] 4 C2) = true := tS_good [117, 115, 101, 114] [97, 112, 112] 4 q2
  have hzp : tZ 4 (valS (tS [117, 115, 101, 114] [97, 112, 112] 4) (tI 4) w (TS0 [117, 115, 101, 114] [97, 112, 112] 4 C2)) := tS_post [117, 115, 101, 114] [97, 112, 112] 4 hw q2
  have hr : r = 0 ∨ r = 1 ∨ r = 2 ∨ r = 3 ∨ r = 4 := by omega
  have h3 : ([117, 115, 101, 114] : List UInt8).length ≤ 100 := by decide
  have h4 : ([97, 112, 112] : List UInt8).length ≤ 100 := by decide
  rcases hr with rfl | rfl | rfl | rfl | rfl
  · exact leaf0 (D := C2) k1 k2 h3 h4 q2 (hc _ ((test_3 (gB 9 C) (goodA vA vO vP) (goodA cA cO CODES.Ok) vN (valA vA vO vP wv) (valA cA cO CODES.Ok wk) (goodS (tS [117, 115, 101, 114] [97, 112, 112] 4) (tI 4)) (valS (tS [117, 115, 101, 114] [97, 112, 112] 4) (tI 4) w) C D (t1 := (0, C2)) ht5 rfl rfl rfl rfl).trans ((congrArg (fun b => cond b _ _) hg9).trans (by simp only [a5, a4, a2, cond_false, cond_true, hg5, hn4, hn2, hv2, hv3, hz] <;> rfl))))
  · generalize hz2 : valS (tS [117, 115, 101, 114] [97, 112, 112] 4) (tI 4) w (TS0 [117, 115, 101, 114] [97, 112, 112] 4 C2) = z at hzp
    exact leafL (o := .no) k1 k2 h3 h4 hzp (hc (.agg (exC 8 [117, 115, 101, 114] [97, 112, 112] (.sl .no 4 z.1.length (getV z.1))), [codO z.2]) ((test_3 (gB 9 C) (goodA vA vO vP) (goodA cA cO CODES.Ok) vN (valA vA vO vP wv) (valA cA cO CODES.Ok wk) (goodS (tS [117, 115, 101, 114] [97, 112, 112] 4) (tI 4)) (valS (tS [117, 115, 101, 114] [97, 112, 112] 4) (tI 4) w) C D (t1 := (1, C2)) ht5 (t2 := z) (by simp only [a5, cond_false]; exact hz2) rfl rfl rfl).trans ((congrArg (fun b => cond b _ _) hg9).trans (by simp only [a5, a4, a2, cond_false, cond_true, hg5, hn4, hn2, hv2, hv3, hz] <;> rfl))))
  · exact leaf1 (op := 7) (y := valA vA vO vP wv [.ref 1000000 0, .int .i64 4] [codO C2]) k1 k2 h3 h4 hy2 ⟨by omega, by omega, by omega, by omega, by intro h; cases h⟩ (hc _ ((test_3 (gB 9 C) (goodA vA vO vP) (goodA cA cO CODES.Ok) vN (valA vA vO vP wv) (valA cA cO CODES.Ok wk) (goodS (tS [117, 115, 101, 114] [97, 112, 112] 4) (tI 4)) (valS (tS [117, 115, 101, 114] [97, 112, 112] 4) (tI 4) w) C D (t1 := (2, C2)) ht5 rfl rfl rfl rfl).trans ((congrArg (fun b => cond b _ _) hg9).trans (by simp only [a5, a4, a2, cond_false, cond_true, hg5, hn4, hn2, hv2, hv3, hz] <;> rfl))))
  · obtain ⟨p0, p1, p2⟩ := nextR_ok q2 (m := 4) (by omega)
    cases hne : nextR C2 4 with
    | mk u C3 =>
    rw [hne] at p0 p1 p2
    have p0 : 0 ≤ u := p0
    have p1 : u < 4 := p1
    have p2 : C3.Ok := p2
    have htn : vN [.ref 1000000 0, .int .i64 4] [codO C2] = (u, C3) := (vN_eq q2 (by omega)).trans hne
    have hvC : goodA vA vO vP [.ref 1000000 0, .int .i64 4] [codO C3] = true := vA_good (by omega) (by omega) p2
    have hyC : vPost (C3, 4) (valA vA vO vP wv [.ref 1000000 0, .int .i64 4] [codO C3]) := vA_post hwv (by omega) (by omega) p2
    have hwr : IntKind.wrap .i64 (12 + u) = 12 + u := wrap_lit (by omega) (by omega)
    exact leaf1 (op := 12 + u) (y := valA vA vO vP wv [.ref 1000000 0, .int .i64 4] [codO C3]) k1 k2 h3 h4 hyC ⟨by omega, by omega, by omega, by omega, fun h => by rcases (show u = 0 ∨ u = 1 ∨ u = 2 ∨ u = 3 by omega) with rfl | rfl | rfl | rfl <;> cases h⟩ (hc _ ((test_3 (gB 9 C) (goodA vA vO vP) (goodA cA cO CODES.Ok) vN (valA vA vO vP wv) (valA cA cO CODES.Ok wk) (goodS (tS [117, 115, 101, 114] [97, 112, 112] 4) (tI 4)) (valS (tS [117, 115, 101, 114] [97, 112, 112] 4) (tI 4) w) C D (t1 := (3, C2)) ht5 rfl rfl (t4 := (u, C3)) htn rfl).trans ((congrArg (fun b => cond b _ _) hg9).trans (by simp only [a5, a4, a2, cond_false, cond_true, hg5, hn4, hn2, hv2, hv3, hz, hvC, hwr] <;> rfl))))
  · obtain ⟨p0, p1, p2⟩ := nextR_ok q2 (m := 4) (by omega)
    cases hne : nextR C2 4 with
    | mk u C3 =>
    rw [hne] at p0 p1 p2
    have p0 : 0 ≤ u := p0
    have p1 : u < 4 := p1
    have p2 : C3.Ok := p2
    have htn : vN [.ref 1000000 0, .int .i64 4] [codO C2] = (u, C3) := (vN_eq q2 (by omega)).trans hne
    have hvC : goodA vA vO vP [.ref 1000000 0, .int .i64 4] [codO C3] = true := vA_good (by omega) (by omega) p2
    have hyC : vPost (C3, 4) (valA vA vO vP wv [.ref 1000000 0, .int .i64 4] [codO C3]) := vA_post hwv (by omega) (by omega) p2
    have hwr : IntKind.wrap .i64 (12 + u) = 12 + u := wrap_lit (by omega) (by omega)
    exact leaf1 (op := 12 + u) (y := valA vA vO vP wv [.ref 1000000 0, .int .i64 4] [codO C3]) k1 k2 h3 h4 hyC ⟨by omega, by omega, by omega, by omega, fun h => by rcases (show u = 0 ∨ u = 1 ∨ u = 2 ∨ u = 3 by omega) with rfl | rfl | rfl | rfl <;> cases h⟩ (hc _ ((test_3 (gB 9 C) (goodA vA vO vP) (goodA cA cO CODES.Ok) vN (valA vA vO vP wv) (valA cA cO CODES.Ok wk) (goodS (tS [117, 115, 101, 114] [97, 112, 112] 4) (tI 4)) (valS (tS [117, 115, 101, 114] [97, 112, 112] 4) (tI 4) w) C D (t1 := (4, C2)) ht5 rfl rfl (t4 := (u, C3)) htn rfl).trans ((congrArg (fun b => cond b _ _) hg9).trans (by simp only [a5, a4, a2, cond_false, cond_true, hg5, hn4, hn2, hv2, hv3, hz, hvC, hwr] <;> rfl))))
set_option maxHeartbeats 400000 in
set_option maxRecDepth 100000 in
theorem test_ex4 (h9 : nextR C 9 = (4, D)) : ∃ x, tPost x ∧ Ct V2.P V2.G 47 (cA C) (cO C) (φQ x) := by
  have hT := entB_ok (m := 9) (by omega) hC h9
  have k1 : keyB [117, 115, 101, 114] = true := by kernel_rfl
  have k2 : keyB [98, 101, 116, 97] = true := by kernel_rfl
  obtain ⟨w, hw, hl⟩ := test_loop [117, 115, 101, 114] [98, 101, 116, 97] 1 (by omega) (by omega) (gB 9 C) (fun l os => cond (argN 9 l) (4, D) (vN l os)) (fun C' h' => gB_eq h' (by omega) (by omega)) (fun C' h' => by
    show cond (argN 9 [.ref 1000000 0, .int .i64 3]) (4, D) (vN [.ref 1000000 0, .int .i64 3] [codO C']) = _
    rw [argN_ne (by decide)]; exact vN_eq h' (by omega)) wv hwv [entC 104 cA cO CODES.Ok wk φT]
  have hc := fun r he => ct_loops (V := V2) (f := 47) (l := cA C) (os := cO C) (r := r) (n := 9) (d := 3) (T := [entB 9 C (4, D), entC 58 vA vO vP wv φV, entC 104 cA cO CODES.Ok wk φT]) mixed2 funcs2 (tabOk_cons hT (tabOk_cons htv (tabOk_cons htk tabOk_nil))) (loopsOk_cons (hl _) loopsOk_nil) he
  obtain ⟨q0, q1, q2⟩ := nextR_ok hD (m := 5) (by omega)
  cases h5e : nextR D 5 with
  | mk r C2 =>
  rw [h5e] at q0 q1 q2
  have q0 : 0 ≤ r := q0
  have q1 : r < 5 := q1
  have q2 : C2.Ok := q2
  have ht5 : vN [.ref 1000000 0, .int .i64 5] [codO D] = (r, C2) := (vN_eq hD (by omega)).trans h5e
  have a5 : argN 9 [.ref 1000000 0, .int .i64 5] = false := argN_ne (by decide)
  have a4 : argN 9 [.ref 1000000 0, .int .i64 4] = false := argN_ne (by decide)
  have a2 : argN 9 [.ref 1000000 0, .int .i64 2] = false := argN_ne (by decide)
  have hg9 : gB 9 C [.ref 1000000 0, .int .i64 (IntKind.wrap .i64 (((8 : Nat) : Int) + 1))] [codO C] = true := gB_eq (n := 9) hC (by omega) fun _ => rfl
  have hg5 : gB 9 C [.ref 1000000 0, .int .i64 5] [codO D] = true := gB_eq hD (by omega) (by omega)
  have hn4 : gB 9 C [.ref 1000000 0, .int .i64 4] [codO C2] = true := gB_eq q2 (by omega) (by omega)
  have hn2 : gB 9 C [.ref 1000000 0, .int .i64 2] [codO C2] = true := gB_eq q2 (by omega) (by omega)
  have hv2 : goodA vA vO vP [.ref 1000000 0, .int .i64 1] [codO C2] = true := vA_good (by omega) (by omega) q2
  have hv3 : goodA vA vO vP [.ref 1000000 0, .int .i64 3] [codO C2] = true := vA_good (by omega) (by omega) q2
  have hy2 : vPost (C2, 1) (valA vA vO vP wv [.ref 1000000 0, .int .i64 1] [codO C2]) := vA_post hwv (by omega) (by omega) q2
  have hy3 : vPost (C2, 3) (valA vA vO vP wv [.ref 1000000 0, .int .i64 3] [codO C2]) := vA_post hwv (by omega) (by omega) q2
  have hz : goodS (tS [117, 115, 101, 114] [98, 101, 116, 97] 1) (tI 1) (TS0 [117, 115, 101, 114] [98, 101, 116, 97] 1 C2) = true := tS_good [117, 115, 101, 114] [98, 101, 116, 97] 1 q2
  have hzp : tZ 1 (valS (tS [117, 115, 101, 114] [98, 101, 116, 97] 1) (tI 1) w (TS0 [117, 115, 101, 114] [98, 101, 116, 97] 1 C2)) := tS_post [117, 115, 101, 114] [98, 101, 116, 97] 1 hw q2
  have hr : r = 0 ∨ r = 1 ∨ r = 2 ∨ r = 3 ∨ r = 4 := by omega
  have h3 : ([117, 115, 101, 114] : List UInt8).length ≤ 100 := by decide
  have h4 : ([98, 101, 116, 97] : List UInt8).length ≤ 100 := by decide
  rcases hr with rfl | rfl | rfl | rfl | rfl
  · exact leaf0 (D := C2) k1 k2 h3 h4 q2 (hc _ ((test_4 (gB 9 C) (goodA vA vO vP) (goodA cA cO CODES.Ok) vN (valA vA vO vP wv) (valA cA cO CODES.Ok wk) (goodS (tS [117, 115, 101, 114] [98, 101, 116, 97] 1) (tI 1)) (valS (tS [117, 115, 101, 114] [98, 101, 116, 97] 1) (tI 1) w) C D (t1 := (0, C2)) ht5 rfl rfl).trans ((congrArg (fun b => cond b _ _) hg9).trans (by simp only [a5, a4, a2, cond_false, cond_true, hg5, hn4, hn2, hv2, hv3, hz] <;> rfl))))
  · generalize hz2 : valS (tS [117, 115, 101, 114] [98, 101, 116, 97] 1) (tI 1) w (TS0 [117, 115, 101, 114] [98, 101, 116, 97] 1 C2) = z at hzp
    exact leafL (o := .no) k1 k2 h3 h4 hzp (hc (.agg (exC 8 [117, 115, 101, 114] [98, 101, 116, 97] (.sl .no 4 z.1.length (getV z.1))), [codO z.2]) ((test_4 (gB 9 C) (goodA vA vO vP) (goodA cA cO CODES.Ok) vN (valA vA vO vP wv) (valA cA cO CODES.Ok wk) (goodS (tS [117, 115, 101, 114] [98, 101, 116, 97] 1) (tI 1)) (valS (tS [117, 115, 101, 114] [98, 101, 116, 97] 1) (tI 1) w) C D (t1 := (1, C2)) ht5 (t2 := z) (by simp only [a5, cond_false]; exact hz2) rfl).trans ((congrArg (fun b => cond b _ _) hg9).trans (by simp only [a5, a4, a2, cond_false, cond_true, hg5, hn4, hn2, hv2, hv3, hz] <;> rfl))))
  · exact leaf1 (op := 7) (y := valA vA vO vP wv [.ref 1000000 0, .int .i64 1] [codO C2]) k1 k2 h3 h4 hy2 ⟨by omega, by omega, by omega, by omega, by intro h; cases h⟩ (hc _ ((test_4 (gB 9 C) (goodA vA vO vP) (goodA cA cO CODES.Ok) vN (valA vA vO vP wv) (valA cA cO CODES.Ok wk) (goodS (tS [117, 115, 101, 114] [98, 101, 116, 97] 1) (tI 1)) (valS (tS [117, 115, 101, 114] [98, 101, 116, 97] 1) (tI 1) w) C D (t1 := (2, C2)) ht5 rfl rfl).trans ((congrArg (fun b => cond b _ _) hg9).trans (by simp only [a5, a4, a2, cond_false, cond_true, hg5, hn4, hn2, hv2, hv3, hz] <;> rfl))))
  · exact leaf1 (op := 7) (y := valA vA vO vP wv [.ref 1000000 0, .int .i64 1] [codO C2]) k1 k2 h3 h4 hy2 ⟨by omega, by omega, by omega, by omega, by intro h; cases h⟩ (hc _ ((test_4 (gB 9 C) (goodA vA vO vP) (goodA cA cO CODES.Ok) vN (valA vA vO vP wv) (valA cA cO CODES.Ok wk) (goodS (tS [117, 115, 101, 114] [98, 101, 116, 97] 1) (tI 1)) (valS (tS [117, 115, 101, 114] [98, 101, 116, 97] 1) (tI 1) w) C D (t1 := (3, C2)) ht5 rfl rfl).trans ((congrArg (fun b => cond b _ _) hg9).trans (by simp only [a5, a4, a2, cond_false, cond_true, hg5, hn4, hn2, hv2, hv3, hz] <;> rfl))))
  · exact leaf1 (op := 7) (y := valA vA vO vP wv [.ref 1000000 0, .int .i64 1] [codO C2]) k1 k2 h3 h4 hy2 ⟨by omega, by omega, by omega, by omega, by intro h; cases h⟩ (hc _ ((test_4 (gB 9 C) (goodA vA vO vP) (goodA cA cO CODES.Ok) vN (valA vA vO vP wv) (valA cA cO CODES.Ok wk) (goodS (tS [117, 115, 101, 114] [98, 101, 116, 97] 1) (tI 1)) (valS (tS [117, 115, 101, 114] [98, 101, 116, 97] 1) (tI 1) w) C D (t1 := (4, C2)) ht5 rfl rfl).trans ((congrArg (fun b => cond b _ _) hg9).trans (by simp only [a5, a4, a2, cond_false, cond_true, hg5, hn4, hn2, hv2, hv3, hz] <;> rfl))))
set_option maxHeartbeats 400000 in
set_option maxRecDepth 100000 in
theorem test_ex5 (h9 : nextR C 9 = (5, D)) : ∃ x, tPost x ∧ Ct V2.P V2.G 47 (cA C) (cO C) (φQ x) := by
  have hT := entB_ok (m := 9) (by omega) hC h9
  have k1 : keyB [117, 115, 101, 114] = true := by kernel_rfl
  have k2 : keyB [99, 111, 117, 110, 116, 114, 121] = true := by kernel_rfl
  obtain ⟨w, hw, hl⟩ := test_loop [117, 115, 101, 114] [99, 111, 117, 110, 116, 114, 121] 3 (by omega) (by omega) (gB 9 C) (fun l os => cond (argN 9 l) (5, D) (vN l os)) (fun C' h' => gB_eq h' (by omega) (by omega)) (fun C' h' => by
    show cond (argN 9 [.ref 1000000 0, .int .i64 3]) (5, D) (vN [.ref 1000000 0, .int .i64 3] [codO C']) = _
    rw [argN_ne (by decide)]; exact vN_eq h' (by omega)) wv hwv [entC 104 cA cO CODES.Ok wk φT]
  have hc := fun r he => ct_loops (V := V2) (f := 47) (l := cA C) (os := cO C) (r := r) (n := 9) (d := 3) (T := [entB 9 C (5, D), entC 58 vA vO vP wv φV, entC 104 cA cO CODES.Ok wk φT]) mixed2 funcs2 (tabOk_cons hT (tabOk_cons htv (tabOk_cons htk tabOk_nil))) (loopsOk_cons (hl _) loopsOk_nil) he
  obtain ⟨q0, q1, q2⟩ := nextR_ok hD (m := 5) (by omega)
  cases h5e : nextR D 5 with
  | mk r C2 =>
  rw [h5e] at q0 q1 q2
  have q0 : 0 ≤ r := q0
  have q1 : r < 5 := q1
  have q2 : C2.Ok := q2
  have ht5 : vN [.ref 1000000 0, .int .i64 5] [codO D] = (r, C2) := (vN_eq hD (by omega)).trans h5e
  have a5 : argN 9 [.ref 1000000 0, .int .i64 5] = false := argN_ne (by decide)
  have a4 : argN 9 [.ref 1000000 0, .int .i64 4] = false := argN_ne (by decide)
  have a2 : argN 9 [.ref 1000000 0, .int .i64 2] = false := argN_ne (by decide)
  have hg9 : gB 9 C [.ref 1000000 0, .int .i64 (IntKind.wrap .i64 (((8 : Nat) : Int) + 1))] [codO C] = true := gB_eq (n := 9) hC (by omega) fun _ => rfl
  have hg5 : gB 9 C [.ref 1000000 0, .int .i64 5] [codO D] = true := gB_eq hD (by omega) (by omega)
  have hn4 : gB 9 C [.ref 1000000 0, .int .i64 4] [codO C2] = true := gB_eq q2 (by omega) (by omega)
  have hn2 : gB 9 C [.ref 1000000 0, .int .i64 2] [codO C2] = true := gB_eq q2 (by omega) (by omega)
  have hv2 : goodA vA vO vP [.ref 1000000 0, .int .i64 3] [codO C2] = true := vA_good (by omega) (by omega) q2
  have hv3 : goodA vA vO vP [.ref 1000000 0, .int .i64 3] [codO C2] = true := vA_good (by omega) (by omega) q2
  have hy2 : vPost (C2, 3) (valA vA vO vP wv [.ref 1000000 0, .int .i64 3] [codO C2]) := vA_post hwv (by omega) (by omega) q2
  have hy3 : vPost (C2, 3) (valA vA vO vP wv [.ref 1000000 0, .int .i64 3] [codO C2]) := vA_post hwv (by omega) (by omega) q2
  have hz : goodS (tS [117, 115, 101, 114] [99, 111, 117, 110, 116, 114, 121] 3) (tI 3) (TS0 [117, 115, 101, 114] [99, 111, 117, 110, 116, 114, 121] 3 C2) = true := tS_good [117, 115, 101, 114] [99, 111, 117, 110, 116, 114, 121] 3 q2
  have hzp : tZ 3 (valS (tS [117, 115, 101, 114] [99, 111, 117, 110, 116, 114, 121] 3) (tI 3) w (TS0 [117, 115, 101, 114] [99, 111, 117, 110, 116, 114, 121] 3 C2)) := tS_post [117, 115, 101, 114] [99, 111, 117, 110, 116, 114, 121] 3 hw q2
  have hr : r = 0 ∨ r = 1 ∨ r = 2 ∨ r = 3 ∨ r = 4 := by omega
  have h3 : ([117, 115, 101, 114] : List UInt8).length ≤ 100 := by decide
  have h4 : ([99, 111, 117, 110, 116, 114, 121] : List UInt8).length ≤ 100 := by decide
  rcases hr with rfl | rfl | rfl | rfl | rfl
  · exact leaf0 (D := C2) k1 k2 h3 h4 q2 (hc _ ((test_5 (gB 9 C) (goodA vA vO vP) (goodA cA cO CODES.Ok) vN (valA vA vO vP wv) (valA cA cO CODES.Ok wk) (goodS (tS [117, 115, 101, 114] [99, 111, 117, 110, 116, 114, 121] 3) (tI 3)) (valS (tS [117, 115, 101, 114] [99, 111, 117, 110, 116, 114, 121] 3) (tI 3) w) C D (t1 := (0, C2)) ht5 rfl rfl rfl rfl rfl rfl).trans ((congrArg (fun b => cond b _ _) hg9).trans (by simp only [a5, a4, a2, cond_false, cond_true, hg5, hn4, hn2, hv2, hv3, hz] <;> rfl))))
  · generalize hz2 : valS (tS [117, 115, 101, 114] [99, 111, 117, 110, 116, 114, 121] 3) (tI 3) w (TS0 [117, 115, 101, 114] [99, 111, 117, 110, 116, 114, 121] 3 C2) = z at hzp
    exact leafL (o := .no) k1 k2 h3 h4 hzp (hc (.agg (exC 8 [117, 115, 101, 114] [99, 111, 117, 110, 116, 114, 121] (.sl .no 4 z.1.length (getV z.1))), [codO z.2]) ((test_5 (gB 9 C) (goodA vA vO vP) (goodA cA cO CODES.Ok) vN (valA vA vO vP wv) (valA cA cO CODES.Ok wk) (goodS (tS [117, 115, 101, 114] [99, 111, 117, 110, 116, 114, 121] 3) (tI 3)) (valS (tS [117, 115, 101, 114] [99, 111, 117, 110, 116, 114, 121] 3) (tI 3) w) C D (t1 := (1, C2)) ht5 (t2 := z) (by simp only [a5, cond_false]; exact hz2) rfl rfl rfl rfl rfl).trans ((congrArg (fun b => cond b _ _) hg9).trans (by simp only [a5, a4, a2, cond_false, cond_true, hg5, hn4, hn2, hv2, hv3, hz] <;> rfl))))
  · exact leaf1 (op := 11) (y := valA vA vO vP wv [.ref 1000000 0, .int .i64 3] [codO C2]) k1 k2 h3 h4 hy3 ⟨by omega, by omega, by omega, by omega, fun _ => rfl⟩ (hc _ ((test_5 (gB 9 C) (goodA vA vO vP) (goodA cA cO CODES.Ok) vN (valA vA vO vP wv) (valA cA cO CODES.Ok wk) (goodS (tS [117, 115, 101, 114] [99, 111, 117, 110, 116, 114, 121] 3) (tI 3)) (valS (tS [117, 115, 101, 114] [99, 111, 117, 110, 116, 114, 121] 3) (tI 3) w) C D (t1 := (2, C2)) ht5 rfl rfl rfl rfl rfl rfl).trans ((congrArg (fun b => cond b _ _) hg9).trans (by simp only [a5, a4, a2, cond_false, cond_true, hg5, hn4, hn2, hv2, hv3, hz] <;> rfl))))
  · obtain ⟨p0, p1, p2⟩ := nextR_ok q2 (m := 2) (by omega)
    cases hne : nextR C2 2 with
    | mk u C3 =>
    rw [hne] at p0 p1 p2
    have p0 : 0 ≤ u := p0
    have p1 : u < 2 := p1
    have p2 : C3.Ok := p2
    have htn : vN [.ref 1000000 0, .int .i64 2] [codO C2] = (u, C3) := (vN_eq q2 (by omega)).trans hne
    have hvC : goodA vA vO vP [.ref 1000000 0, .int .i64 3] [codO C3] = true := vA_good (by omega) (by omega) p2
    have hyC : vPost (C3, 3) (valA vA vO vP wv [.ref 1000000 0, .int .i64 3] [codO C3]) := vA_post hwv (by omega) (by omega) p2
    have hwr : IntKind.wrap .i64 (9 + u) = 9 + u := wrap_lit (by omega) (by omega)
    exact leaf1 (op := 9 + u) (y := valA vA vO vP wv [.ref 1000000 0, .int .i64 3] [codO C3]) k1 k2 h3 h4 hyC ⟨by omega, by omega, by omega, by omega, fun _ => rfl⟩ (hc _ ((test_5 (gB 9 C) (goodA vA vO vP) (goodA cA cO CODES.Ok) vN (valA vA vO vP wv) (valA cA cO CODES.Ok wk) (goodS (tS [117, 115, 101, 114] [99, 111, 117, 110, 116, 114, 121] 3) (tI 3)) (valS (tS [117, 115, 101, 114] [99, 111, 117, 110, 116, 114, 121] 3) (tI 3) w) C D (t1 := (3, C2)) ht5 rfl rfl (t4 := (u, C3)) htn rfl rfl rfl).trans ((congrArg (fun b => cond b _ _) hg9).trans (by simp only [a5, a4, a2, cond_false, cond_true, hg5, hn4, hn2, hv2, hv3, hz, hvC, hwr] <;> rfl))))
  · obtain ⟨p0, p1, p2⟩ := nextR_ok q2 (m := 4) (by omega)
    cases hne : nextR C2 4 with
    | mk u C3 =>
    rw [hne] at p0 p1 p2
    have p0 : 0 ≤ u := p0
    have p1 : u < 4 := p1
    have p2 : C3.Ok := p2
    have htn : vN [.ref 1000000 0, .int .i64 4] [codO C2] = (u, C3) := (vN_eq q2 (by omega)).trans hne
    have hvC : goodA vA vO vP [.ref 1000000 0, .int .i64 3] [codO C3] = true := vA_good (by omega) (by omega) p2
    have hyC : vPost (C3, 3) (valA vA vO vP wv [.ref 1000000 0, .int .i64 3] [codO C3]) := vA_post hwv (by omega) (by omega) p2
    have hwr : IntKind.wrap .i64 (12 + u) = 12 + u := wrap_lit (by omega) (by omega)
    exact leaf1 (op := 12 + u) (y := valA vA vO vP wv [.ref 1000000 0, .int .i64 3] [codO C3]) k1 k2 h3 h4 hyC ⟨by omega, by omega, by omega, by omega, fun _ => rfl⟩ (hc _ ((test_5 (gB 9 C) (goodA vA vO vP) (goodA cA cO CODES.Ok) vN (valA vA vO vP wv) (valA cA cO CODES.Ok wk) (goodS (tS [117, 115, 101, 114] [99, 111, 117, 110, 116, 114, 121] 3) (tI 3)) (valS (tS [117, 115, 101, 114] [99, 111, 117, 110, 116, 114, 121] 3) (tI 3) w) C D (t1 := (4, C2)) ht5 rfl rfl rfl rfl (t6 := (u, C3)) htn rfl).trans ((congrArg (fun b => cond b _ _) hg9).trans (by simp only [a5, a4, a2, cond_false, cond_true, hg5, hn4, hn2, hv2, hv3, hz, hvC, hwr] <;> rfl))))
set_option maxHeartbeats 400000 in
set_option maxRecDepth 100000 in
theorem test_ex6 (h9 : nextR C 9 = (6, D)) : ∃ x, tPost x ∧ Ct V2.P V2.G 47 (cA C) (cO C) (φQ x) := by
  have hT := entB_ok (m := 9) (by omega) hC h9
  have k1 : keyB [117, 115, 101, 114] = true := by kernel_rfl
  have k2 : keyB [112, 108, 97, 110] = true := by kernel_rfl
  obtain ⟨w, hw, hl⟩ := test_loop [117, 115, 101, 114] [112, 108, 97, 110] 3 (by omega) (by omega) (gB 9 C) (fun l os => cond (argN 9 l) (6, D) (vN l os)) (fun C' h' => gB_eq h' (by omega) (by omega)) (fun C' h' => by
    show cond (argN 9 [.ref 1000000 0, .int .i64 3]) (6, D) (vN [.ref 1000000 0, .int .i64 3] [codO C']) = _
    rw [argN_ne (by decide)]; exact vN_eq h' (by omega)) wv hwv [entC 104 cA cO CODES.Ok wk φT]
  have hc := fun r he => ct_loops (V := V2) (f := 47) (l := cA C) (os := cO C) (r := r) (n := 9) (d := 3) (T := [entB 9 C (6, D), entC 58 vA vO vP wv φV, entC 104 cA cO CODES.Ok wk φT]) mixed2 funcs2 (tabOk_cons hT (tabOk_cons htv (tabOk_cons htk tabOk_nil))) (loopsOk_cons (hl _) loopsOk_nil) he
  obtain ⟨q0, q1, q2⟩ := nextR_ok hD (m := 5) (by omega)
  cases h5e : nextR D 5 with
  | mk r C2 =>
  rw [h5e] at q0 q1 q2
  have q0 : 0 ≤ r := q0
  have q1 : r < 5 := q1
  have q2 : C2.Ok := q2
  have ht5 : vN [.ref 1000000 0, .int .i64 5] [codO D] = (r, C2) := (vN_eq hD (by omega)).trans h5e
  have a5 : argN 9 [.ref 1000000 0, .int .i64 5] = false := argN_ne (by decide)
  have a4 : argN 9 [.ref 1000000 0, .int .i64 4] = false := argN_ne (by decide)
  have a2 : argN 9 [.ref 1000000 0, .int .i64 2] = false := argN_ne (by decide)
  have hg9 : gB 9 C [.ref 1000000 0, .int .i64 (IntKind.wrap .i64 (((8 : Nat) : Int) + 1))] [codO C] = true := gB_eq (n := 9) hC (by omega) fun _ => rfl
  have hg5 : gB 9 C [.ref 1000000 0, .int .i64 5] [codO D] = true := gB_eq hD (by omega) (by omega)
  have hn4 : gB 9 C [.ref 1000000 0, .int .i64 4] [codO C2] = true := gB_eq q2 (by omega) (by omega)
  have hn2 : gB 9 C [.ref 1000000 0, .int .i64 2] [codO C2] = true := gB_eq q2 (by omega) (by omega)
  have hv2 : goodA vA vO vP [.ref 1000000 0, .int .i64 3] [codO C2] = true := vA_good (by omega) (by omega) q2
  have hv3 : goodA vA vO vP [.ref 1000000 0, .int .i64 3] [codO C2] = true := vA_good (by omega) (by omega) q2
  have hy2 : vPost (C2, 3) (valA vA vO vP wv [.ref 1000000 0, .int .i64 3] [codO C2]) := vA_post hwv (by omega) (by omega) q2
  have hy3 : vPost (C2, 3) (valA vA vO vP wv [.ref 1000000 0, .int .i64 3] [codO C2]) := vA_post hwv (by omega) (by omega) q2
  have hz : goodS (tS [117, 115, 101, 114] [112, 108, 97, 110] 3) (tI 3) (TS0 [117, 115, 101, 114] [112, 108, 97, 110] 3 C2) = true := tS_good [117, 115, 101, 114] [112, 108, 97, 110] 3 q2
  have hzp : tZ 3 (valS (tS [117, 115, 101, 114] [112, 108, 97, 110] 3) (tI 3) w (TS0 [117, 115, 101, 114] [112, 108, 97, 110] 3 C2)) := tS_post [117, 115, 101, 114] [112, 108, 97, 110] 3 hw q2
  have hr : r = 0 ∨ r = 1 ∨ r = 2 ∨ r = 3 ∨ r = 4 := by omega
  have h3 : ([117, 115, 101, 114] : List UInt8).length ≤ 100 := by decide
  have h4 : ([112, 108, 97, 110] : List UInt8).length ≤ 100 := by decide
  rcases hr with rfl | rfl | rfl | rfl | rfl
  · exact leaf0 (D := C2) k1 k2 h3 h4 q2 (hc _ ((test_6 (gB 9 C) (goodA vA vO vP) (goodA cA cO CODES.Ok) vN (valA vA vO vP wv) (valA cA cO CODES.Ok wk) (goodS (tS [117, 115, 101, 114] [112, 108, 97, 110] 3) (tI 3)) (valS (tS [117, 115, 101, 114] [112, 108, 97, 110] 3) (tI 3) w) C D (t1 := (0, C2)) ht5 rfl rfl rfl rfl rfl rfl).trans ((congrArg (fun b => cond b _ _) hg9).trans (by simp only [a5, a4, a2, cond_false, cond_true, hg5, hn4, hn2, hv2, hv3, hz] <;> rfl))))
  · generalize hz2 : valS (tS [117, 115, 101, 114] [112, 108, 97, 110] 3) (tI 3) w (TS0 [117, 115, 101, 114] [112, 108, 97, 110] 3 C2) = z at hzp
    exact leafL (o := .no) k1 k2 h3 h4 hzp (hc (.agg (exC 8 [117, 115, 101, 114] [112, 108, 97, 110] (.sl .no 4 z.1.length (getV z.1))), [codO z.2]) ((test_6 (gB 9 C) (goodA vA vO vP) (goodA cA cO CODES.Ok) vN (valA vA vO vP wv) (valA cA cO CODES.Ok wk) (goodS (tS [117, 115, 101, 114] [112, 108, 97, 110] 3) (tI 3)) (valS (tS [117, 115, 101, 114] [112, 108, 97, 110] 3) (tI 3) w) C D (t1 := (1, C2)) ht5 (t2 := z) (by simp only [a5, cond_false]; exact hz2) rfl rfl rfl rfl rfl).trans ((congrArg (fun b => cond b _ _) hg9).trans (by simp only [a5, a4, a2, cond_false, cond_true, hg5, hn4, hn2, hv2, hv3, hz] <;> rfl))))
  · exact leaf1 (op := 11) (y := valA vA vO vP wv [.ref 1000000 0, .int .i64 3] [codO C2]) k1 k2 h3 h4 hy3 ⟨by omega, by omega, by omega, by omega, fun _ => rfl⟩ (hc _ ((test_6 (gB 9 C) (goodA vA vO vP) (goodA cA cO CODES.Ok) vN (valA vA vO vP wv) (valA cA cO CODES.Ok wk) (goodS (tS [117, 115, 101, 114] [112, 108, 97, 110] 3) (tI 3)) (valS (tS [117, 115, 101, 114] [112, 108, 97, 110] 3) (tI 3) w) C D (t1 := (2, C2)) ht5 rfl rfl rfl rfl rfl rfl).trans ((congrArg (fun b => cond b _ _) hg9).trans (by simp only [a5, a4, a2, cond_false, cond_true, hg5, hn4, hn2, hv2, hv3, hz] <;> rfl))))
  · obtain ⟨p0, p1, p2⟩ := nextR_ok q2 (m := 2) (by omega)
    cases hne : nextR C2 2 with
    | mk u C3 =>
    rw [hne] at p0 p1 p2
    have p0 : 0 ≤ u := p0
    have p1 : u < 2 := p1
    have p2 : C3.Ok := p2
    have htn : vN [.ref 1000000 0, .int .i64 2] [codO C2] = (u, C3) := (vN_eq q2 (by omega)).trans hne
    have hvC : goodA vA vO vP [.ref 1000000 0, .int .i64 3] [codO C3] = true := vA_good (by omega) (by omega) p2
    have hyC : vPost (C3, 3) (valA vA vO vP wv [.ref 1000000 0, .int .i64 3] [codO C3]) := vA_post hwv (by omega) (by omega) p2
    have hwr : IntKind.wrap .i64 (9 + u) = 9 + u := wrap_lit (by omega) (by omega)
    exact leaf1 (op := 9 + u) (y := valA vA vO vP wv [.ref 1000000 0, .int .i64 3] [codO C3]) k1 k2 h3 h4 hyC ⟨by omega, by omega, by omega, by omega, fun _ => rfl⟩ (hc _ ((test_6 (gB 9 C) (goodA vA vO vP) (goodA cA cO CODES.Ok) vN (valA vA vO vP wv) (valA cA cO CODES.Ok wk) (goodS (tS [117, 115, 101, 114] [112, 108, 97, 110] 3) (tI 3)) (valS (tS [117, 115, 101, 114] [112, 108, 97, 110] 3) (tI 3) w) C D (t1 := (3, C2)) ht5 rfl rfl (t4 := (u, C3)) htn rfl rfl rfl).trans ((congrArg (fun b => cond b _ _) hg9).trans (by simp only [a5, a4, a2, cond_false, cond_true, hg5, hn4, hn2, hv2, hv3, hz, hvC, hwr] <;> rfl))))
  · obtain ⟨p0, p1, p2⟩ := nextR_ok q2 (m := 4) (by omega)
    cases hne : nextR C2 4 with
    | mk u C3 =>
    rw [hne] at p0 p1 p2
    have p0 : 0 ≤ u := p0
    have p1 : u < 4 := p1
    have p2 : C3.Ok := p2
    have htn : vN [.ref 1000000 0, .int .i64 4] [codO C2] = (u, C3) := (vN_eq q2 (by omega)).trans hne
    have hvC : goodA vA vO vP [.ref 1000000 0, .int .i64 3] [codO C3] = true := vA_good (by omega) (by omega) p2
    have hyC : vPost (C3, 3) (valA vA vO vP wv [.ref 1000000 0, .int .i64 3] [codO C3]) := vA_post hwv (by omega) (by omega) p2
    have hwr : IntKind.wrap .i64 (12 + u) = 12 + u := wrap_lit (by omega) (by omega)
    exact leaf1 (op := 12 + u) (y := valA vA vO vP wv [.ref 1000000 0, .int .i64 3] [codO C3]) k1 k2 h3 h4 hyC ⟨by omega, by omega, by omega, by omega, fun _ => rfl⟩ (hc _ ((test_6 (gB 9 C) (goodA vA vO vP) (goodA cA cO CODES.Ok) vN (valA vA vO vP wv) (valA cA cO CODES.Ok wk) (goodS (tS [117, 115, 101, 114] [112, 108, 97, 110] 3) (tI 3)) (valS (tS [117, 115, 101, 114] [112, 108, 97, 110] 3) (tI 3) w) C D (t1 := (4, C2)) ht5 rfl rfl rfl rfl (t6 := (u, C3)) htn rfl).trans ((congrArg (fun b => cond b _ _) hg9).trans (by simp only [a5, a4, a2, cond_false, cond_true, hg5, hn4, hn2, hv2, hv3, hz, hvC, hwr] <;> rfl))))
set_option maxHeartbeats 400000 in
set_option maxRecDepth 100000 in
theorem test_ex7 (h9 : nextR C 9 = (7, D)) : ∃ x, tPost x ∧ Ct V2.P V2.G 47 (cA C) (cO C) (φQ x) := by
  have hT := entB_ok (m := 9) (by omega) hC h9
  have k1 : keyB [117, 115, 101, 114] = true := by kernel_rfl
  have k2 : keyB [116, 97, 103, 115] = true := by kernel_rfl
  obtain ⟨w, hw, hl⟩ := test_loop [117, 115, 101, 114] [116, 97, 103, 115] 5 (by omega) (by omega) (gB 9 C) (fun l os => cond (argN 9 l) (7, D) (vN l os)) (fun C' h' => gB_eq h' (by omega) (by omega)) (fun C' h' => by
    show cond (argN 9 [.ref 1000000 0, .int .i64 3]) (7, D) (vN [.ref 1000000 0, .int .i64 3] [codO C']) = _
    rw [argN_ne (by decide)]; exact vN_eq h' (by omega)) wv hwv [entC 104 cA cO CODES.Ok wk φT]
  have hc := fun r he => ct_loops (V := V2) (f := 47) (l := cA C) (os := cO C) (r := r) (n := 9) (d := 3) (T := [entB 9 C (7, D), entC 58 vA vO vP wv φV, entC 104 cA cO CODES.Ok wk φT]) mixed2 funcs2 (tabOk_cons hT (tabOk_cons htv (tabOk_cons htk tabOk_nil))) (loopsOk_cons (hl _) loopsOk_nil) he
  obtain ⟨q0, q1, q2⟩ := nextR_ok hD (m := 5) (by omega)
  cases h5e : nextR D 5 with
  | mk r C2 =>
  rw [h5e] at q0 q1 q2
  have q0 : 0 ≤ r := q0
  have q1 : r < 5 := q1
  have q2 : C2.Ok := q2
  have ht5 : vN [.ref 1000000 0, .int .i64 5] [codO D] = (r, C2) := (vN_eq hD (by omega)).trans h5e
  have a5 : argN 9 [.ref 1000000 0, .int .i64 5] = false := argN_ne (by decide)
  have a4 : argN 9 [.ref 1000000 0, .int .i64 4] = false := argN_ne (by decide)
  have a2 : argN 9 [.ref 1000000 0, .int .i64 2] = false := argN_ne (by decide)
  have hg9 : gB 9 C [.ref 1000000 0, .int .i64 (IntKind.wrap .i64 (((8 : Nat) : Int) + 1))] [codO C] = true := gB_eq (n := 9) hC (by omega) fun _ => rfl
  have hg5 : gB 9 C [.ref 1000000 0, .int .i64 5] [codO D] = true := gB_eq hD (by omega) (by omega)
  have hn4 : gB 9 C [.ref 1000000 0, .int .i64 4] [codO C2] = true := gB_eq q2 (by omega) (by omega)
  have hn2 : gB 9 C [.ref 1000000 0, .int .i64 2] [codO C2] = true := gB_eq q2 (by omega) (by omega)
  have hv2 : goodA vA vO vP [.ref 1000000 0, .int .i64 5] [codO C2] = true := vA_good (by omega) (by omega) q2
  have hv3 : goodA vA vO vP [.ref 1000000 0, .int .i64 3] [codO C2] = true := vA_good (by omega) (by omega) q2
  have hy2 : vPost (C2, 5) (valA vA vO vP wv [.ref 1000000 0, .int .i64 5] [codO C2]) := vA_post hwv (by omega) (by omega) q2
  have hy3 : vPost (C2, 3) (valA vA vO vP wv [.ref 1000000 0, .int .i64 3] [codO C2]) := vA_post hwv (by omega) (by omega) q2
  have hz : goodS (tS [117, 115, 101, 114] [116, 97, 103, 115] 5) (tI 5) (TS0 [117, 115, 101, 114] [116, 97, 103, 115] 5 C2) = true := tS_good [117, 115, 101, 114] [116, 97, 103, 115] 5 q2
  have hzp : tZ 5 (valS (tS [117, 115, 101, 114] [116, 97, 103, 115] 5) (tI 5) w (TS0 [117, 115, 101, 114] [116, 97, 103, 115] 5 C2)) := tS_post [117, 115, 101, 114] [116, 97, 103, 115] 5 hw q2
  have hr : r = 0 ∨ r = 1 ∨ r = 2 ∨ r = 3 ∨ r = 4 := by omega
  have h3 : ([117, 115, 101, 114] : List UInt8).length ≤ 100 := by decide
  have h4 : ([116, 97, 103, 115] : List UInt8).length ≤ 100 := by decide
  rcases hr with rfl | rfl | rfl | rfl | rfl
  · exact leaf0 (D := C2) k1 k2 h3 h4 q2 (hc _ ((test_7 (gB 9 C) (goodA vA vO vP) (goodA cA cO CODES.Ok) vN (valA vA vO vP wv) (valA cA cO CODES.Ok wk) (goodS (tS [117, 115, 101, 114] [116, 97, 103, 115] 5) (tI 5)) (valS (tS [117, 115, 101, 114] [116, 97, 103, 115] 5) (tI 5) w) C D (t1 := (0, C2)) ht5 rfl rfl).trans ((congrArg (fun b => cond b _ _) hg9).trans (by simp only [a5, a4, a2, cond_false, cond_true, hg5, hn4, hn2, hv2, hv3, hz] <;> rfl))))
  · exact leaf1 (op := 7) (y := valA vA vO vP wv [.ref 1000000 0, .int .i64 5] [codO C2]) k1 k2 h3 h4 hy2 ⟨by omega, by omega, by omega, by omega, by intro h; cases h⟩ (hc _ ((test_7 (gB 9 C) (goodA vA vO vP) (goodA cA cO CODES.Ok) vN (valA vA vO vP wv) (valA cA cO CODES.Ok wk) (goodS (tS [117, 115, 101, 114] [116, 97, 103, 115] 5) (tI 5)) (valS (tS [117, 115, 101, 114] [116, 97, 103, 115] 5) (tI 5) w) C D (t1 := (1, C2)) ht5 rfl rfl).trans ((congrArg (fun b => cond b _ _) hg9).trans (by simp only [a5, a4, a2, cond_false, cond_true, hg5, hn4, hn2, hv2, hv3, hz] <;> rfl))))
  · exact leaf1 (op := 11) (y := valA vA vO vP wv [.ref 1000000 0, .int .i64 3] [codO C2]) k1 k2 h3 h4 hy3 ⟨by omega, by omega, by omega, by omega, fun _ => rfl⟩ (hc _ ((test_7 (gB 9 C) (goodA vA vO vP) (goodA cA cO CODES.Ok) vN (valA vA vO vP wv) (valA cA cO CODES.Ok wk) (goodS (tS [117, 115, 101, 114] [116, 97, 103, 115] 5) (tI 5)) (valS (tS [117, 115, 101, 114] [116, 97, 103, 115] 5) (tI 5) w) C D (t1 := (2, C2)) ht5 rfl rfl).trans ((congrArg (fun b => cond b _ _) hg9).trans (by simp only [a5, a4, a2, cond_false, cond_true, hg5, hn4, hn2, hv2, hv3, hz] <;> rfl))))
  · exact leaf1 (op := 7) (y := valA vA vO vP wv [.ref 1000000 0, .int .i64 5] [codO C2]) k1 k2 h3 h4 hy2 ⟨by omega, by omega, by omega, by omega, by intro h; cases h⟩ (hc _ ((test_7 (gB 9 C) (goodA vA vO vP) (goodA cA cO CODES.Ok) vN (valA vA vO vP wv) (valA cA cO CODES.Ok wk) (goodS (tS [117, 115, 101, 114] [116, 97, 103, 115] 5) (tI 5)) (valS (tS [117, 115, 101, 114] [116, 97, 103, 115] 5) (tI 5) w) C D (t1 := (3, C2)) ht5 rfl rfl).trans ((congrArg (fun b => cond b _ _) hg9).trans (by simp only [a5, a4, a2, cond_false, cond_true, hg5, hn4, hn2, hv2, hv3, hz] <;> rfl))))
  · exact leaf1 (op := 7) (y := valA vA vO vP wv [.ref 1000000 0, .int .i64 5] [codO C2]) k1 k2 h3 h4 hy2 ⟨by omega, by omega, by omega, by omega, by intro h; cases h⟩ (hc _ ((test_7 (gB 9 C) (goodA vA vO vP) (goodA cA cO CODES.Ok) vN (valA vA vO vP wv) (valA cA cO CODES.Ok wk) (goodS (tS [117, 115, 101, 114] [116, 97, 103, 115] 5) (tI 5)) (valS (tS [117, 115, 101, 114] [116, 97, 103, 115] 5) (tI 5) w) C D (t1 := (4, C2)) ht5 rfl rfl).trans ((congrArg (fun b => cond b _ _) hg9).trans (by simp only [a5, a4, a2, cond_false, cond_true, hg5, hn4, hn2, hv2, hv3, hz] <;> rfl))))
end
end Go.SH

namespace Go.SH
open Go Go.Ab Go.Proofs
set_option linter.unusedVariables false
set_option linter.unusedSimpArgs false
theorem key_cells (s : List UInt8) : ∀ j, j < [(⟨3, 0, s, []⟩ : VAL)].length → ∀ (i : Nat) (u u' : AV), (fillGet zV [(0, .agg [.int .i64 3, .int .i64 0, .str s, .sl .fit 0 0 fun _ => []])] j)[i]? = some u → (([(⟨3, 0, s, []⟩ : VAL)].getD j default).c)[i]? = some u' → u'.one = true ∧ ∀ c x, Rep c u x → Rep c u' x := fun j hj i u u' hu hu' => by
  match j, hj with
  | 0, _ =>
    have hu : [AV.int .i64 3, .int .i64 0, .str s, .sl .fit 0 0 fun _ => []][i]? = some u := hu
    match i with
    | 0 => simp only [List.getElem?_cons_zero, Option.some.injEq] at hu; subst hu; have hu' : some (AV.int .i64 3) = some u' := hu'; simp only [Option.some.injEq] at hu'; subst hu'; exact ⟨rfl, fun _ _ h => h⟩
    | 1 => simp only [List.getElem?_cons_succ, List.getElem?_cons_zero, Option.some.injEq] at hu; subst hu; have hu' : some (AV.int .i64 0) = some u' := hu'; simp only [Option.some.injEq] at hu'; subst hu'; exact ⟨rfl, fun _ _ h => h⟩
    | 2 => simp only [List.getElem?_cons_succ, List.getElem?_cons_zero, Option.some.injEq] at hu; subst hu; have hu' : some (AV.str s) = some u' := hu'; simp only [Option.some.injEq] at hu'; subst hu'; exact ⟨rfl, fun _ _ h => h⟩
    | 3 => simp only [List.getElem?_cons_succ, List.getElem?_cons_zero, Option.some.injEq] at hu; subst hu; have hu' : some (strsA []) = some u' := hu'; simp only [Option.some.injEq] at hu'; subst hu'; exact ⟨rfl, fun _ => sl_fit⟩
    | i + 4 => simp at hu
section
variable {C D : CODES} (hC : C.Ok) (hD : D.Ok) {wv : CODES × Int → VAL × CODES} (hwv : ∀ a, vP a → vPost a (wv a)) (htv : ∀ l os, (entC 58 vA vO vP wv φV).pre l os = true → Ct V2.P V2.G (entC 58 vA vO vP wv φV).f l os ((entC 58 vA vO vP wv φV).ans l os))
  {wk : CODES → List UInt8 × CODES} (hwk : ∀ C, C.Ok → (wk C).1 ∈ keysL10 ∧ (wk C).2.Ok) (htk : ∀ l os, (entC 104 cA cO CODES.Ok wk φT).pre l os = true → Ct V2.P V2.G (entC 104 cA cO CODES.Ok wk φT).f l os ((entC 104 cA cO CODES.Ok wk φT).ans l os))
include hC hD hwv htv hwk htk
set_option maxHeartbeats 400000 in
set_option maxRecDepth 100000 in
theorem test_ex8 (h9 : nextR C 9 = (8, D)) : ∃ x, tPost x ∧ Ct V2.P V2.G 47 (cA C) (cO C) (φQ x) := by
  have hT := entB_ok (m := 9) (by omega) hC h9
  have k1 : keyB [117, 115, 101, 114] = true := by kernel_rfl
  have k2 : keyB [107, 101, 121] = true := by kernel_rfl
  obtain ⟨w, hw, hl⟩ := test_loop [] [] 2 (by omega) (by omega) (gB 9 C) (fun l os => cond (argN 9 l) (8, D) (vN l os)) (fun C' h' => gB_eq h' (by omega) (by omega)) (fun C' h' => by
    show cond (argN 9 [.ref 1000000 0, .int .i64 3]) (8, D) (vN [.ref 1000000 0, .int .i64 3] [codO C']) = _
    rw [argN_ne (by decide)]; exact vN_eq h' (by omega)) wv hwv [entC 104 cA cO CODES.Ok wk φT]
  have hc := fun r he => ct_loops (V := V2) (f := 47) (l := cA C) (os := cO C) (r := r) (n := 9) (d := 3) (T := [entB 9 C (8, D), entC 58 vA vO vP wv φV, entC 104 cA cO CODES.Ok wk φT]) mixed2 funcs2 (tabOk_cons hT (tabOk_cons htv (tabOk_cons htk tabOk_nil))) (loopsOk_cons (hl _) loopsOk_nil) he
  have hg9 : gB 9 C [.ref 1000000 0, .int .i64 (IntKind.wrap .i64 (((8 : Nat) : Int) + 1))] [codO C] = true := gB_eq (n := 9) hC (by omega) fun _ => rfl
  have hgk : goodA cA cO CODES.Ok [.ref 1000000 0] [codO D] = true := goodA_eq (A := cA) (O := cO) (v := D) hD
  have hvk : (valA cA cO CODES.Ok wk [.ref 1000000 0] [codO D]).1 ∈ keysL10 ∧ (valA cA cO CODES.Ok wk [.ref 1000000 0] [codO D]).2.Ok := valA_post (A := cA) (O := cO) (Post := fun (_ : CODES) (x : List UInt8 × CODES) => x.1 ∈ keysL10 ∧ x.2.Ok) hwk (fun a b x _ _ hx => hx) hD
  generalize hy : valA cA cO CODES.Ok wk [.ref 1000000 0] [codO D] = y at hvk
  obtain ⟨v1, v2⟩ := hvk
  obtain ⟨g1, g2, g3⟩ := keys_good _ v1
  have e1 := hc (.agg (exC 7 [117, 115, 101, 114] [107, 101, 121] (.sl .fit 4 1 (fillGet zV [(0, .agg [.int .i64 3, .int .i64 0, .str y.1, .sl .fit 0 0 fun _ => []])]))), [codO y.2]) ((test_8 (gB 9 C) (goodA vA vO vP) (goodA cA cO CODES.Ok) vN (valA vA vO vP wv) (valA cA cO CODES.Ok wk) (goodS (tS [] [] 2) (tI 2)) (valS (tS [] [] 2) (tI 2) w) C D (t1 := y) hy).trans ((congrArg (fun b => cond b _ _) hg9).trans ((congrArg (fun b => cond b _ _) hgk).trans rfl)))
  exact ⟨(.mk 7 [117, 115, 101, 114] [107, 101, 121] [⟨3, 0, y.1, []⟩] [], y.2), ⟨⟨part_test (by omega) (by omega) k1 k2 (by intro v hv; simp at hv; subst hv; exact g2) (by simp) rfl (by intro h; cases h), rfl, .mk _ (by show 4 ≤ maxS; unfold maxS; omega) (by show 3 ≤ maxS; unfold maxS; omega) ⟨by show 1 ≤ _; omega, by intro v hv; have : v ∈ [(⟨3, 0, y.1, []⟩ : VAL)] := hv; simp at this; subst this; exact g3⟩ (by show 0 ≤ _; omega) (by intro v hv; cases hv)⟩, v2⟩, test_ct (l := [⟨3, 0, y.1, []⟩]) (key_cells y.1) e1⟩
end
theorem test_ex (C : CODES) (hC : C.Ok) : ∃ x, tPost x ∧ Ct V2.P V2.G 47 (cA C) (cO C) (φQ x) := by
  obtain ⟨wv, hwv, htv⟩ := ent_ex (V := V2) (f := 58) (A := vA) (O := vO) (Pre := vP) (φ := φV) (Post := vPost) value_ex
  obtain ⟨wk, hwk, htk⟩ := ent_ex (V := V2) (f := 104) (A := cA) (O := cO) (Pre := CODES.Ok) (φ := φT) (Post := fun (_ : CODES) (x : List UInt8 × CODES) => x.1 ∈ keysL10 ∧ x.2.Ok) key_ex
  obtain ⟨h0, h1, h2⟩ := nextR_ok hC (m := 9) (by omega)
  cases h9 : nextR C 9 with
  | mk r D =>
  rw [h9] at h0 h1 h2
  have h0 : 0 ≤ r := h0
  have h1 : r < 9 := h1
  have hr : r = 0 ∨ r = 1 ∨ r = 2 ∨ r = 3 ∨ r = 4 ∨ r = 5 ∨ r = 6 ∨ r = 7 ∨ r = 8 := by omega
  rcases hr with rfl | rfl | rfl | rfl | rfl | rfl | rfl | rfl | rfl
  · exact test_ex0 hC h2 hwv htv hwk htk h9
  · exact test_ex1 hC h2 hwv htv hwk htk h9
  · exact test_ex2 hC h2 hwv htv hwk htk h9
  · exact test_ex3 hC h2 hwv htv hwk htk h9
  · exact test_ex4 hC h2 hwv htv hwk htk h9
  · exact test_ex5 hC h2 hwv htv hwk htk h9
  · exact test_ex6 hC h2 hwv htv hwk htk h9
  · exact test_ex7 hC h2 hwv htv hwk htk h9
  · exact test_ex8 hC h2 hwv htv hwk htk h9
end Go.SH

namespace Go.SH
open Go Go.Ab Go.Proofs
set_option linter.unusedVariables false
set_option linter.unusedSimpArgs false
def getR (l : List (Int × Int × Int)) (j : Nat) : List AV := rngC (l.getD j (0, 0, 0))
def SS0 (k : Int) (C : CODES) : St := { env := [(0, .ref keyBase 0), (1, .int .i64 k), (5, .sl (.key 46) 3 0 fun _ => rngC (0, 0, 0)), (6, .int .i64 0), (7, .int .i64 0), (8, .int .i64 0)], objs := [(keyBase, codO C), (46, .own 3 0)] }
def SS (k at' last : Int) (m : Nat) (get : Nat → List AV) (C : CODES) (i : Int) : St := { env := [(0, .ref keyBase 0), (1, .int .i64 k), (5, .sl (.key 46) 3 m get), (6, .int .i64 at'), (7, .int .i64 last), (8, .int .i64 i)], objs := [(46, .own 3 m), (keyBase, codO C)] }
def SE (k at' last : Int) (m : Nat) (get : Nat → List AV) (C : CODES) : St := { env := [(0, .ref keyBase 0), (1, .int .i64 k), (5, .sl (.key 46) 3 m get), (6, .int .i64 at'), (7, .int .i64 last)], objs := [(46, .own 3 m), (keyBase, codO C)] }
structure SY where
  b : Bool
  l : List (Int × Int × Int)
  q : Nat
  a : Int
  v : Int
  C : CODES
instance : Inhabited SY := ⟨⟨true, [], 0, 0, 0, default⟩⟩
def outS (n : Int) (y : SY) (k : Ex → St → Res) : Res := cond y.b (k (.exit 0) (SE n 0 0 0 (fun _ => rngC (0, 0, 0)) y.C)) (k (.exit 0) (SE n y.a y.v (y.q + 1) (getR y.l) y.C))
def φRg (x : List (Int × Int × Int) × CODES) : AV × List AO := (rngL x.1, [codO x.2])
def K28 (l : List (Int × Int × Int)) (b : Int) (i : Nat) : St := { env := [(0, rngL l), (1, .int .i64 b), (5, .int .i64 i)], objs := [] }
set_option maxRecDepth 100000 in
theorem number_0 (ge : List AV → List AO → Bool) (C D : CODES)  : runF (V2.run [mkE 19 ge (fun _ _ => (0, D)) φX] 3 [] [] [] 51) 9 51 [.ref keyBase 0] [codO C] =
  cond (ge [.ref 1000000 0, .int .i64 (↑15 : Int)] [codO C]) (some ((.int .i64 0, [codO D]))) (none) := by kernel_rfl
set_option maxRecDepth 100000 in
theorem number_1 (ge : List AV → List AO → Bool) (C D : CODES)  : runF (V2.run [mkE 19 ge (fun _ _ => (1, D)) φX] 3 [] [] [] 51) 9 51 [.ref keyBase 0] [codO C] =
  cond (ge [.ref 1000000 0, .int .i64 (↑15 : Int)] [codO C]) (some ((.int .i64 (-1), [codO D]))) (none) := by kernel_rfl
set_option maxRecDepth 100000 in
theorem number_2 (ge : List AV → List AO → Bool) (C D : CODES)  : runF (V2.run [mkE 19 ge (fun _ _ => (2, D)) φX] 3 [] [] [] 51) 9 51 [.ref keyBase 0] [codO C] =
  cond (ge [.ref 1000000 0, .int .i64 (↑15 : Int)] [codO C]) (some ((.int .i64 1, [codO D]))) (none) := by kernel_rfl
set_option maxRecDepth 100000 in
theorem number_3 (ge : List AV → List AO → Bool) (C D : CODES)  : runF (V2.run [mkE 19 ge (fun _ _ => (3, D)) φX] 3 [] [] [] 51) 9 51 [.ref keyBase 0] [codO C] =
  cond (ge [.ref 1000000 0, .int .i64 (↑15 : Int)] [codO C]) (some ((.int .i64 2, [codO D]))) (none) := by kernel_rfl
set_option maxRecDepth 100000 in
theorem number_4 (ge : List AV → List AO → Bool) (C D : CODES)  : runF (V2.run [mkE 19 ge (fun _ _ => (4, D)) φX] 3 [] [] [] 51) 9 51 [.ref keyBase 0] [codO C] =
  cond (ge [.ref 1000000 0, .int .i64 (↑15 : Int)] [codO C]) (some ((.int .i64 8, [codO D]))) (none) := by kernel_rfl
set_option maxRecDepth 100000 in
theorem number_5 (ge : List AV → List AO → Bool) (C D : CODES)  : runF (V2.run [mkE 19 ge (fun _ _ => (5, D)) φX] 3 [] [] [] 51) 9 51 [.ref keyBase 0] [codO C] =
  cond (ge [.ref 1000000 0, .int .i64 (↑15 : Int)] [codO C]) (some ((.int .i64 9, [codO D]))) (none) := by kernel_rfl
set_option maxRecDepth 100000 in
theorem number_6 (ge : List AV → List AO → Bool) (C D : CODES)  : runF (V2.run [mkE 19 ge (fun _ _ => (6, D)) φX] 3 [] [] [] 51) 9 51 [.ref keyBase 0] [codO C] =
  cond (ge [.ref 1000000 0, .int .i64 (↑15 : Int)] [codO C]) (some ((.int .i64 10000, [codO D]))) (none) := by kernel_rfl
set_option maxRecDepth 100000 in
theorem number_7 (ge : List AV → List AO → Bool) (C D : CODES)  : runF (V2.run [mkE 19 ge (fun _ _ => (7, D)) φX] 3 [] [] [] 51) 9 51 [.ref keyBase 0] [codO C] =
  cond (ge [.ref 1000000 0, .int .i64 (↑15 : Int)] [codO C]) (some ((.int .i64 10001, [codO D]))) (none) := by kernel_rfl
set_option maxRecDepth 100000 in
theorem number_8 (ge : List AV → List AO → Bool) (C D : CODES)  : runF (V2.run [mkE 19 ge (fun _ _ => (8, D)) φX] 3 [] [] [] 51) 9 51 [.ref keyBase 0] [codO C] =
  cond (ge [.ref 1000000 0, .int .i64 (↑15 : Int)] [codO C]) (some ((.int .i64 1099511627776, [codO D]))) (none) := by kernel_rfl
set_option maxRecDepth 100000 in
theorem number_9 (ge : List AV → List AO → Bool) (C D : CODES)  : runF (V2.run [mkE 19 ge (fun _ _ => (9, D)) φX] 3 [] [] [] 51) 9 51 [.ref keyBase 0] [codO C] =
  cond (ge [.ref 1000000 0, .int .i64 (↑15 : Int)] [codO C]) (some ((.int .i64 1099511627777, [codO D]))) (none) := by kernel_rfl
set_option maxRecDepth 100000 in
theorem number_10 (ge : List AV → List AO → Bool) (C D : CODES)  : runF (V2.run [mkE 19 ge (fun _ _ => (10, D)) φX] 3 [] [] [] 51) 9 51 [.ref keyBase 0] [codO C] =
  cond (ge [.ref 1000000 0, .int .i64 (↑15 : Int)] [codO C]) (some ((.int .i64 (-1099511627777), [codO D]))) (none) := by kernel_rfl
set_option maxRecDepth 100000 in
theorem number_11 (ge : List AV → List AO → Bool) (C D : CODES)  : runF (V2.run [mkE 19 ge (fun _ _ => (11, D)) φX] 3 [] [] [] 51) 9 51 [.ref keyBase 0] [codO C] =
  cond (ge [.ref 1000000 0, .int .i64 (↑15 : Int)] [codO C]) (some ((.int .i64 1099511627777, [codO D]))) (none) := by kernel_rfl
set_option maxRecDepth 100000 in
theorem number_12 (ge : List AV → List AO → Bool) (C D : CODES)  : runF (V2.run [mkE 19 ge (fun _ _ => (12, D)) φX] 3 [] [] [] 51) 9 51 [.ref keyBase 0] [codO C] =
  cond (ge [.ref 1000000 0, .int .i64 (↑15 : Int)] [codO C]) (some ((.int .i64 4, [codO D]))) (none) := by kernel_rfl
set_option maxRecDepth 100000 in
theorem number_13 (ge : List AV → List AO → Bool) (C D : CODES)  : runF (V2.run [mkE 19 ge (fun _ _ => (13, D)) φX] 3 [] [] [] 51) 9 51 [.ref keyBase 0] [codO C] =
  cond (ge [.ref 1000000 0, .int .i64 (↑15 : Int)] [codO C]) (some ((.int .i64 5, [codO D]))) (none) := by kernel_rfl
set_option maxRecDepth 100000 in
theorem number_14 (ge : List AV → List AO → Bool) (C D : CODES)  : runF (V2.run [mkE 19 ge (fun _ _ => (14, D)) φX] 3 [] [] [] 51) 9 51 [.ref keyBase 0] [codO C] =
  cond (ge [.ref 1000000 0, .int .i64 (↑15 : Int)] [codO C]) (some ((.int .i64 6, [codO D]))) (none) := by kernel_rfl
set_option maxRecDepth 100000 in
theorem name_0 (ge : List AV → List AO → Bool) (C D : CODES)  : runF (V2.run [mkE 19 ge (fun _ _ => (0, D)) φX] 3 [] [] [] 50) 9 50 [.ref keyBase 0] [codO C] =
  cond (ge [.ref 1000000 0, .int .i64 (↑15 : Int)] [codO C]) (some ((.str [], [codO D]))) (none) := by kernel_rfl
set_option maxRecDepth 100000 in
theorem name_1 (ge : List AV → List AO → Bool) (C D : CODES)  : runF (V2.run [mkE 19 ge (fun _ _ => (1, D)) φX] 3 [] [] [] 50) 9 50 [.ref keyBase 0] [codO C] =
  cond (ge [.ref 1000000 0, .int .i64 (↑15 : Int)] [codO C]) (some ((.str [66, 97, 100], [codO D]))) (none) := by kernel_rfl
set_option maxRecDepth 100000 in
theorem name_2 (ge : List AV → List AO → Bool) (C D : CODES)  : runF (V2.run [mkE 19 ge (fun _ _ => (2, D)) φX] 3 [] [] [] 50) 9 50 [.ref keyBase 0] [codO C] =
  cond (ge [.ref 1000000 0, .int .i64 (↑15 : Int)] [codO C]) (some ((.str [57, 97], [codO D]))) (none) := by kernel_rfl
set_option maxRecDepth 100000 in
theorem name_3 (ge : List AV → List AO → Bool) (C D : CODES)  : runF (V2.run [mkE 19 ge (fun _ _ => (3, D)) φX] 3 [] [] [] 50) 9 50 [.ref keyBase 0] [codO C] =
  cond (ge [.ref 1000000 0, .int .i64 (↑15 : Int)] [codO C]) (some ((.str [111, 110], [codO D]))) (none) := by kernel_rfl
set_option maxRecDepth 100000 in
theorem name_4 (ge : List AV → List AO → Bool) (C D : CODES)  : runF (V2.run [mkE 19 ge (fun _ _ => (4, D)) φX] 3 [] [] [] 50) 9 50 [.ref keyBase 0] [codO C] =
  cond (ge [.ref 1000000 0, .int .i64 (↑15 : Int)] [codO C]) (some ((.str [107, 101, 121], [codO D]))) (none) := by kernel_rfl
set_option maxRecDepth 100000 in
theorem name_5 (ge : List AV → List AO → Bool) (C D : CODES)  : runF (V2.run [mkE 19 ge (fun _ _ => (5, D)) φX] 3 [] [] [] 50) 9 50 [.ref keyBase 0] [codO C] =
  cond (ge [.ref 1000000 0, .int .i64 (↑15 : Int)] [codO C]) (some ((.str [122, 122], [codO D]))) (none) := by kernel_rfl
set_option maxRecDepth 100000 in
theorem name_6 (ge : List AV → List AO → Bool) (C D : CODES)  : runF (V2.run [mkE 19 ge (fun _ _ => (6, D)) φX] 3 [] [] [] 50) 9 50 [.ref keyBase 0] [codO C] =
  cond (ge [.ref 1000000 0, .int .i64 (↑15 : Int)] [codO C]) (some ((.str [97], [codO D]))) (none) := by kernel_rfl
set_option maxRecDepth 100000 in
theorem name_7 (ge : List AV → List AO → Bool) (C D : CODES)  : runF (V2.run [mkE 19 ge (fun _ _ => (7, D)) φX] 3 [] [] [] 50) 9 50 [.ref keyBase 0] [codO C] =
  cond (ge [.ref 1000000 0, .int .i64 (↑15 : Int)] [codO C]) (some ((.str [97, 108, 112, 104, 97], [codO D]))) (none) := by kernel_rfl
set_option maxRecDepth 100000 in
theorem name_8 (ge : List AV → List AO → Bool) (C D : CODES)  : runF (V2.run [mkE 19 ge (fun _ _ => (8, D)) φX] 3 [] [] [] 50) 9 50 [.ref keyBase 0] [codO C] =
  cond (ge [.ref 1000000 0, .int .i64 (↑15 : Int)] [codO C]) (some ((.str [102, 97], [codO D]))) (none) := by kernel_rfl
set_option maxRecDepth 100000 in
theorem name_9 (ge : List AV → List AO → Bool) (C D : CODES)  : runF (V2.run [mkE 19 ge (fun _ _ => (9, D)) φX] 3 [] [] [] 50) 9 50 [.ref keyBase 0] [codO C] =
  cond (ge [.ref 1000000 0, .int .i64 (↑15 : Int)] [codO C]) (some ((.str [102, 98], [codO D]))) (none) := by kernel_rfl
set_option maxRecDepth 100000 in
theorem name_10 (ge : List AV → List AO → Bool) (C D : CODES)  : runF (V2.run [mkE 19 ge (fun _ _ => (10, D)) φX] 3 [] [] [] 50) 9 50 [.ref keyBase 0] [codO C] =
  cond (ge [.ref 1000000 0, .int .i64 (↑15 : Int)] [codO C]) (some ((.str [108, 97], [codO D]))) (none) := by kernel_rfl
set_option maxRecDepth 100000 in
theorem name_11 (ge : List AV → List AO → Bool) (C D : CODES)  : runF (V2.run [mkE 19 ge (fun _ _ => (11, D)) φX] 3 [] [] [] 50) 9 50 [.ref keyBase 0] [codO C] =
  cond (ge [.ref 1000000 0, .int .i64 (↑15 : Int)] [codO C]) (some ((.str [120, 97], [codO D]))) (none) := by kernel_rfl
set_option maxRecDepth 100000 in
theorem name_12 (ge : List AV → List AO → Bool) (C D : CODES)  : runF (V2.run [mkE 19 ge (fun _ _ => (12, D)) φX] 3 [] [] [] 50) 9 50 [.ref keyBase 0] [codO C] =
  cond (ge [.ref 1000000 0, .int .i64 (↑15 : Int)] [codO C]) (some ((.str [97, 98, 99, 100, 101, 102, 103, 104, 105, 106, 107, 108, 109, 110, 111, 112, 113, 114, 115, 116, 117, 118, 119, 120, 121, 122, 48, 49, 50, 51, 52, 53, 54], [codO D]))) (none) := by kernel_rfl
set_option maxRecDepth 100000 in
theorem name_13 (ge : List AV → List AO → Bool) (C D : CODES)  : runF (V2.run [mkE 19 ge (fun _ _ => (13, D)) φX] 3 [] [] [] 50) 9 50 [.ref keyBase 0] [codO C] =
  cond (ge [.ref 1000000 0, .int .i64 (↑15 : Int)] [codO C]) (some ((.str [117, 115, 101, 114], [codO D]))) (none) := by kernel_rfl
set_option maxRecDepth 100000 in
theorem name_14 (ge : List AV → List AO → Bool) (C D : CODES)  : runF (V2.run [mkE 19 ge (fun _ _ => (14, D)) φX] 3 [] [] [] 50) 9 50 [.ref keyBase 0] [codO C] =
  cond (ge [.ref 1000000 0, .int .i64 (↑15 : Int)] [codO C]) (some ((.str [97, 46, 98], [codO D]))) (none) := by kernel_rfl
end Go.SH

namespace Go.SH
open Go Go.Ab Go.Proofs
set_option linter.unusedVariables false
set_option linter.unusedSimpArgs false
theorem cT {α : Sort _} {b : Bool} {x y : α} (h : b = true) : cond b x y = x := by rw [h]; rfl
theorem cF {α : Sort _} {b : Bool} {x y : α} (h : b = false) : cond b x y = y := by rw [h]; rfl
def wdP (x : CODES × Int) : Prop := x.1.Ok ∧ 1 ≤ x.2 ∧ x.2 ≤ 65536
def wdPost (x : CODES × Int) (y : Int × CODES) : Prop := 0 ≤ y.1 ∧ y.1 < x.2 ∧ y.2.Ok
theorem number_ex (C : CODES) (h : C.Ok) : ∃ x : Int × CODES, ((-2305843009213693952 ≤ x.1 ∧ x.1 ≤ 2305843009213693952) ∧ x.2.Ok) ∧ Ct V2.P V2.G 51 (cA C) (cO C) (φX x) := by
  obtain ⟨h0, h1, h2⟩ := nextR_ok h (m := 15) (by omega)
  have hn := next_ok C h 15 (by omega)
  revert h0 h1 h2 hn
  generalize nextR C 15 = y
  obtain ⟨r, D⟩ := y
  intro h0 h1 h2 hn
  have hr : r = 0 ∨ r = 1 ∨ r = 2 ∨ r = 3 ∨ r = 4 ∨ r = 5 ∨ r = 6 ∨ r = 7 ∨ r = 8 ∨ r = 9 ∨ r = 10 ∨ r = 11 ∨ r = 12 ∨ r = 13 ∨ r = 14 := by have h0 : 0 ≤ r := h0; have h1 : r < 15 := h1; omega
  have hT := entK_ok (φ := φX) hn
  have hg : goodA (fun _ : Unit => [.ref keyBase 0, .int .i64 15]) (fun _ => [codO C]) (fun _ => True) [.ref 1000000 0, .int .i64 15] [codO C] = true := gK_eq _ _
  rcases hr with rfl | rfl | rfl | rfl | rfl | rfl | rfl | rfl | rfl | rfl | rfl | rfl | rfl | rfl | rfl
  · exact ⟨(0, D), ⟨(show (-2305843009213693952 : Int) ≤ 0 ∧ 0 ≤ (2305843009213693952 : Int) by decide), h2⟩, ct_loops (V := V2) (f := 51) (n := 9) (d := 3) (L := []) (T := [entK 19 [.ref keyBase 0, .int .i64 15] [codO C] (0, D) φX]) mixed2 funcs2 (tabOk_cons hT tabOk_nil) loopsOk_nil ((number_0 _ C D).trans (cT hg))⟩
  · exact ⟨((-1), D), ⟨(show (-2305843009213693952 : Int) ≤ (-1) ∧ (-1) ≤ (2305843009213693952 : Int) by decide), h2⟩, ct_loops (V := V2) (f := 51) (n := 9) (d := 3) (L := []) (T := [entK 19 [.ref keyBase 0, .int .i64 15] [codO C] (1, D) φX]) mixed2 funcs2 (tabOk_cons hT tabOk_nil) loopsOk_nil ((number_1 _ C D).trans (cT hg))⟩
  · exact ⟨(1, D), ⟨(show (-2305843009213693952 : Int) ≤ 1 ∧ 1 ≤ (2305843009213693952 : Int) by decide), h2⟩, ct_loops (V := V2) (f := 51) (n := 9) (d := 3) (L := []) (T := [entK 19 [.ref keyBase 0, .int .i64 15] [codO C] (2, D) φX]) mixed2 funcs2 (tabOk_cons hT tabOk_nil) loopsOk_nil ((number_2 _ C D).trans (cT hg))⟩
  · exact ⟨(2, D), ⟨(show (-2305843009213693952 : Int) ≤ 2 ∧ 2 ≤ (2305843009213693952 : Int) by decide), h2⟩, ct_loops (V := V2) (f := 51) (n := 9) (d := 3) (L := []) (T := [entK 19 [.ref keyBase 0, .int .i64 15] [codO C] (3, D) φX]) mixed2 funcs2 (tabOk_cons hT tabOk_nil) loopsOk_nil ((number_3 _ C D).trans (cT hg))⟩
  · exact ⟨(8, D), ⟨(show (-2305843009213693952 : Int) ≤ 8 ∧ 8 ≤ (2305843009213693952 : Int) by decide), h2⟩, ct_loops (V := V2) (f := 51) (n := 9) (d := 3) (L := []) (T := [entK 19 [.ref keyBase 0, .int .i64 15] [codO C] (4, D) φX]) mixed2 funcs2 (tabOk_cons hT tabOk_nil) loopsOk_nil ((number_4 _ C D).trans (cT hg))⟩
  · exact ⟨(9, D), ⟨(show (-2305843009213693952 : Int) ≤ 9 ∧ 9 ≤ (2305843009213693952 : Int) by decide), h2⟩, ct_loops (V := V2) (f := 51) (n := 9) (d := 3) (L := []) (T := [entK 19 [.ref keyBase 0, .int .i64 15] [codO C] (5, D) φX]) mixed2 funcs2 (tabOk_cons hT tabOk_nil) loopsOk_nil ((number_5 _ C D).trans (cT hg))⟩
  · exact ⟨(10000, D), ⟨(show (-2305843009213693952 : Int) ≤ 10000 ∧ 10000 ≤ (2305843009213693952 : Int) by decide), h2⟩, ct_loops (V := V2) (f := 51) (n := 9) (d := 3) (L := []) (T := [entK 19 [.ref keyBase 0, .int .i64 15] [codO C] (6, D) φX]) mixed2 funcs2 (tabOk_cons hT tabOk_nil) loopsOk_nil ((number_6 _ C D).trans (cT hg))⟩
  · exact ⟨(10001, D), ⟨(show (-2305843009213693952 : Int) ≤ 10001 ∧ 10001 ≤ (2305843009213693952 : Int) by decide), h2⟩, ct_loops (V := V2) (f := 51) (n := 9) (d := 3) (L := []) (T := [entK 19 [.ref keyBase 0, .int .i64 15] [codO C] (7, D) φX]) mixed2 funcs2 (tabOk_cons hT tabOk_nil) loopsOk_nil ((number_7 _ C D).trans (cT hg))⟩
  · exact ⟨(1099511627776, D), ⟨(show (-2305843009213693952 : Int) ≤ 1099511627776 ∧ 1099511627776 ≤ (2305843009213693952 : Int) by decide), h2⟩, ct_loops (V := V2) (f := 51) (n := 9) (d := 3) (L := []) (T := [entK 19 [.ref keyBase 0, .int .i64 15] [codO C] (8, D) φX]) mixed2 funcs2 (tabOk_cons hT tabOk_nil) loopsOk_nil ((number_8 _ C D).trans (cT hg))⟩
  · exact ⟨(1099511627777, D), ⟨(show (-2305843009213693952 : Int) ≤ 1099511627777 ∧ 1099511627777 ≤ (2305843009213693952 : Int) by decide), h2⟩, ct_loops (V := V2) (f := 51) (n := 9) (d := 3) (L := []) (T := [entK 19 [.ref keyBase 0, .int .i64 15] [codO C] (9, D) φX]) mixed2 funcs2 (tabOk_cons hT tabOk_nil) loopsOk_nil ((number_9 _ C D).trans (cT hg))⟩
  · exact ⟨((-1099511627777), D), ⟨(show (-2305843009213693952 : Int) ≤ (-1099511627777) ∧ (-1099511627777) ≤ (2305843009213693952 : Int) by decide), h2⟩, ct_loops (V := V2) (f := 51) (n := 9) (d := 3) (L := []) (T := [entK 19 [.ref keyBase 0, .int .i64 15] [codO C] (10, D) φX]) mixed2 funcs2 (tabOk_cons hT tabOk_nil) loopsOk_nil ((number_10 _ C D).trans (cT hg))⟩
  · exact ⟨(1099511627777, D), ⟨(show (-2305843009213693952 : Int) ≤ 1099511627777 ∧ 1099511627777 ≤ (2305843009213693952 : Int) by decide), h2⟩, ct_loops (V := V2) (f := 51) (n := 9) (d := 3) (L := []) (T := [entK 19 [.ref keyBase 0, .int .i64 15] [codO C] (11, D) φX]) mixed2 funcs2 (tabOk_cons hT tabOk_nil) loopsOk_nil ((number_11 _ C D).trans (cT hg))⟩
  · exact ⟨(4, D), ⟨(show (-2305843009213693952 : Int) ≤ 4 ∧ 4 ≤ (2305843009213693952 : Int) by decide), h2⟩, ct_loops (V := V2) (f := 51) (n := 9) (d := 3) (L := []) (T := [entK 19 [.ref keyBase 0, .int .i64 15] [codO C] (12, D) φX]) mixed2 funcs2 (tabOk_cons hT tabOk_nil) loopsOk_nil ((number_12 _ C D).trans (cT hg))⟩
  · exact ⟨(5, D), ⟨(show (-2305843009213693952 : Int) ≤ 5 ∧ 5 ≤ (2305843009213693952 : Int) by decide), h2⟩, ct_loops (V := V2) (f := 51) (n := 9) (d := 3) (L := []) (T := [entK 19 [.ref keyBase 0, .int .i64 15] [codO C] (13, D) φX]) mixed2 funcs2 (tabOk_cons hT tabOk_nil) loopsOk_nil ((number_13 _ C D).trans (cT hg))⟩
  · exact ⟨(6, D), ⟨(show (-2305843009213693952 : Int) ≤ 6 ∧ 6 ≤ (2305843009213693952 : Int) by decide), h2⟩, ct_loops (V := V2) (f := 51) (n := 9) (d := 3) (L := []) (T := [entK 19 [.ref keyBase 0, .int .i64 15] [codO C] (14, D) φX]) mixed2 funcs2 (tabOk_cons hT tabOk_nil) loopsOk_nil ((number_14 _ C D).trans (cT hg))⟩
theorem name_ex (C : CODES) (h : C.Ok) : ∃ x : List UInt8 × CODES, (x.1.length ≤ 40 ∧ x.2.Ok) ∧ Ct V2.P V2.G 50 (cA C) (cO C) (φT x) := by
  obtain ⟨h0, h1, h2⟩ := nextR_ok h (m := 15) (by omega)
  have hn := next_ok C h 15 (by omega)
  revert h0 h1 h2 hn
  generalize nextR C 15 = y
  obtain ⟨r, D⟩ := y
  intro h0 h1 h2 hn
  have hr : r = 0 ∨ r = 1 ∨ r = 2 ∨ r = 3 ∨ r = 4 ∨ r = 5 ∨ r = 6 ∨ r = 7 ∨ r = 8 ∨ r = 9 ∨ r = 10 ∨ r = 11 ∨ r = 12 ∨ r = 13 ∨ r = 14 := by have h0 : 0 ≤ r := h0; have h1 : r < 15 := h1; omega
  have hT := entK_ok (φ := φX) hn
  have hg : goodA (fun _ : Unit => [.ref keyBase 0, .int .i64 15]) (fun _ => [codO C]) (fun _ => True) [.ref 1000000 0, .int .i64 15] [codO C] = true := gK_eq _ _
  rcases hr with rfl | rfl | rfl | rfl | rfl | rfl | rfl | rfl | rfl | rfl | rfl | rfl | rfl | rfl | rfl
  · exact ⟨([], D), ⟨(show ([] : List UInt8).length ≤ 40 by decide), h2⟩, ct_loops (V := V2) (f := 50) (n := 9) (d := 3) (L := []) (T := [entK 19 [.ref keyBase 0, .int .i64 15] [codO C] (0, D) φX]) mixed2 funcs2 (tabOk_cons hT tabOk_nil) loopsOk_nil ((name_0 _ C D).trans (cT hg))⟩
  · exact ⟨([66, 97, 100], D), ⟨(show ([66, 97, 100] : List UInt8).length ≤ 40 by decide), h2⟩, ct_loops (V := V2) (f := 50) (n := 9) (d := 3) (L := []) (T := [entK 19 [.ref keyBase 0, .int .i64 15] [codO C] (1, D) φX]) mixed2 funcs2 (tabOk_cons hT tabOk_nil) loopsOk_nil ((name_1 _ C D).trans (cT hg))⟩
  · exact ⟨([57, 97], D), ⟨(show ([57, 97] : List UInt8).length ≤ 40 by decide), h2⟩, ct_loops (V := V2) (f := 50) (n := 9) (d := 3) (L := []) (T := [entK 19 [.ref keyBase 0, .int .i64 15] [codO C] (2, D) φX]) mixed2 funcs2 (tabOk_cons hT tabOk_nil) loopsOk_nil ((name_2 _ C D).trans (cT hg))⟩
  · exact ⟨([111, 110], D), ⟨(show ([111, 110] : List UInt8).length ≤ 40 by decide), h2⟩, ct_loops (V := V2) (f := 50) (n := 9) (d := 3) (L := []) (T := [entK 19 [.ref keyBase 0, .int .i64 15] [codO C] (3, D) φX]) mixed2 funcs2 (tabOk_cons hT tabOk_nil) loopsOk_nil ((name_3 _ C D).trans (cT hg))⟩
  · exact ⟨([107, 101, 121], D), ⟨(show ([107, 101, 121] : List UInt8).length ≤ 40 by decide), h2⟩, ct_loops (V := V2) (f := 50) (n := 9) (d := 3) (L := []) (T := [entK 19 [.ref keyBase 0, .int .i64 15] [codO C] (4, D) φX]) mixed2 funcs2 (tabOk_cons hT tabOk_nil) loopsOk_nil ((name_4 _ C D).trans (cT hg))⟩
  · exact ⟨([122, 122], D), ⟨(show ([122, 122] : List UInt8).length ≤ 40 by decide), h2⟩, ct_loops (V := V2) (f := 50) (n := 9) (d := 3) (L := []) (T := [entK 19 [.ref keyBase 0, .int .i64 15] [codO C] (5, D) φX]) mixed2 funcs2 (tabOk_cons hT tabOk_nil) loopsOk_nil ((name_5 _ C D).trans (cT hg))⟩
  · exact ⟨([97], D), ⟨(show ([97] : List UInt8).length ≤ 40 by decide), h2⟩, ct_loops (V := V2) (f := 50) (n := 9) (d := 3) (L := []) (T := [entK 19 [.ref keyBase 0, .int .i64 15] [codO C] (6, D) φX]) mixed2 funcs2 (tabOk_cons hT tabOk_nil) loopsOk_nil ((name_6 _ C D).trans (cT hg))⟩
  · exact ⟨([97, 108, 112, 104, 97], D), ⟨(show ([97, 108, 112, 104, 97] : List UInt8).length ≤ 40 by decide), h2⟩, ct_loops (V := V2) (f := 50) (n := 9) (d := 3) (L := []) (T := [entK 19 [.ref keyBase 0, .int .i64 15] [codO C] (7, D) φX]) mixed2 funcs2 (tabOk_cons hT tabOk_nil) loopsOk_nil ((name_7 _ C D).trans (cT hg))⟩
  · exact ⟨([102, 97], D), ⟨(show ([102, 97] : List UInt8).length ≤ 40 by decide), h2⟩, ct_loops (V := V2) (f := 50) (n := 9) (d := 3) (L := []) (T := [entK 19 [.ref keyBase 0, .int .i64 15] [codO C] (8, D) φX]) mixed2 funcs2 (tabOk_cons hT tabOk_nil) loopsOk_nil ((name_8 _ C D).trans (cT hg))⟩
  · exact ⟨([102, 98], D), ⟨(show ([102, 98] : List UInt8).length ≤ 40 by decide), h2⟩, ct_loops (V := V2) (f := 50) (n := 9) (d := 3) (L := []) (T := [entK 19 [.ref keyBase 0, .int .i64 15] [codO C] (9, D) φX]) mixed2 funcs2 (tabOk_cons hT tabOk_nil) loopsOk_nil ((name_9 _ C D).trans (cT hg))⟩
  · exact ⟨([108, 97], D), ⟨(show ([108, 97] : List UInt8).length ≤ 40 by decide), h2⟩, ct_loops (V := V2) (f := 50) (n := 9) (d := 3) (L := []) (T := [entK 19 [.ref keyBase 0, .int .i64 15] [codO C] (10, D) φX]) mixed2 funcs2 (tabOk_cons hT tabOk_nil) loopsOk_nil ((name_10 _ C D).trans (cT hg))⟩
  · exact ⟨([120, 97], D), ⟨(show ([120, 97] : List UInt8).length ≤ 40 by decide), h2⟩, ct_loops (V := V2) (f := 50) (n := 9) (d := 3) (L := []) (T := [entK 19 [.ref keyBase 0, .int .i64 15] [codO C] (11, D) φX]) mixed2 funcs2 (tabOk_cons hT tabOk_nil) loopsOk_nil ((name_11 _ C D).trans (cT hg))⟩
  · exact ⟨([97, 98, 99, 100, 101, 102, 103, 104, 105, 106, 107, 108, 109, 110, 111, 112, 113, 114, 115, 116, 117, 118, 119, 120, 121, 122, 48, 49, 50, 51, 52, 53, 54], D), ⟨(show ([97, 98, 99, 100, 101, 102, 103, 104, 105, 106, 107, 108, 109, 110, 111, 112, 113, 114, 115, 116, 117, 118, 119, 120, 121, 122, 48, 49, 50, 51, 52, 53, 54] : List UInt8).length ≤ 40 by decide), h2⟩, ct_loops (V := V2) (f := 50) (n := 9) (d := 3) (L := []) (T := [entK 19 [.ref keyBase 0, .int .i64 15] [codO C] (12, D) φX]) mixed2 funcs2 (tabOk_cons hT tabOk_nil) loopsOk_nil ((name_12 _ C D).trans (cT hg))⟩
  · exact ⟨([117, 115, 101, 114], D), ⟨(show ([117, 115, 101, 114] : List UInt8).length ≤ 40 by decide), h2⟩, ct_loops (V := V2) (f := 50) (n := 9) (d := 3) (L := []) (T := [entK 19 [.ref keyBase 0, .int .i64 15] [codO C] (13, D) φX]) mixed2 funcs2 (tabOk_cons hT tabOk_nil) loopsOk_nil ((name_13 _ C D).trans (cT hg))⟩
  · exact ⟨([97, 46, 98], D), ⟨(show ([97, 46, 98] : List UInt8).length ≤ 40 by decide), h2⟩, ct_loops (V := V2) (f := 50) (n := 9) (d := 3) (L := []) (T := [entK 19 [.ref keyBase 0, .int .i64 15] [codO C] (14, D) φX]) mixed2 funcs2 (tabOk_cons hT tabOk_nil) loopsOk_nil ((name_14 _ C D).trans (cT hg))⟩
abbrev RG := Int × Int × Int
def chainR (n : Int) : Int → Int → List RG → Prop
  | _, _, [] => True
  | a, v, r :: l => r.1 = a ∧ a < r.2.1 ∧ 1 ≤ r.2.2 ∧ r.2.2 ≤ n ∧ r.2.2 ≠ v ∧ chainR n r.2.1 r.2.2 l
def endR : Int → Int → List RG → Int × Int
  | a, v, [] => (a, v)
  | _, _, r :: l => endR r.2.1 r.2.2 l
abbrev SSt := CODES ⊕ (List RG × CODES)
def sS (n : Int) : SSt → St
  | .inl C => SS0 n C
  | .inr (l, C) => SS n (endR 0 0 l).1 (endR 0 0 l).2 l.length (getR l) C l.length
def sI (n : Int) : SSt → Prop
  | .inl C => C.Ok
  | .inr (l, C) => C.Ok ∧ 1 ≤ l.length ∧ l.length ≤ 3 ∧ chainR n 0 0 l ∧ 0 ≤ (endR 0 0 l).1 ∧ (endR 0 0 l).1 < 10000 ∧ 1 ≤ (endR 0 0 l).2 ∧ (endR 0 0 l).2 ≤ n ∧ 2 ≤ n
def sM : SSt → Nat
  | .inl _ => 5
  | .inr (l, _) => 4 - l.length
def sZ (n : Int) (y : SY) : Prop := y.C.Ok ∧ (y.b = false → y.l.length = y.q + 1 ∧ y.l.length ≤ 3 ∧ chainR n 0 0 y.l ∧ (y.a, y.v) = endR 0 0 y.l ∧ 0 ≤ y.a ∧ y.a < 10000 ∧ 1 ≤ y.v ∧ y.v ≤ n ∧ 2 ≤ n)
def splN (n at' last tt : Int) (q : Nat) (get : Nat → List AV) (C : CODES) (i : Int) (kn : St → Res) (k : Ex → St → Res) (vv : Int) : Res :=
  cond (decide (tt ≥ 10000)) (k (.exit 0) (SE n at' last (q + 1) get C))
    (cond (roomy 24 (q + 1 + 1) && Nat.beq (q + 1) (q + 1)) (kn (SS n tt vv (q + 1 + 1) (appGet (q + 1) 1 get (fillGet (rngC (0, 0, 0)) [(0, .agg (rngC (at', tt, vv)))])) C (IntKind.wrap .i64 (i + 1)))) none)
end Go.SH

namespace Go.SH
open Go Go.Ab Go.Proofs
set_option linter.unusedVariables false
set_option linter.unusedSimpArgs false
def spP (x : CODES × Int) : Prop := x.1.Ok ∧ 1 ≤ x.2 ∧ x.2 ≤ 1000
def spPost (x : CODES × Int) (y : List RG × CODES) : Prop := chainR x.2 0 0 y.1 ∧ (endR 0 0 y.1).1 = 10000 ∧ 1 ≤ y.1.length ∧ y.1.length ≤ 4 ∧ y.2.Ok
instance : Inhabited (List RG × CODES) := ⟨([], default)⟩
def inR (b : Int) (r : RG) : Bool := decide (r.1 ≤ b) && decide (b < r.2.1)
def hits (b : Int) : List RG → Nat
  | [] => 0
  | r :: l => (bif inR b r then 1 else 0) + hits b l
def pickL (b : Int) : List RG → Int
  | [] => 0
  | r :: l => bif inR b r then r.2.2 else pickL b l
end Go.SH

namespace Go.Ab
open Go Go.RowKit
variable {B : Base} {c : Cx} {s : St} {a : Act}
def Told (cs cs' : List AV) : Prop := cs'.length = cs.length ∧ keysL cs' = [] ∧ ∀ (i : Nat) (u u' : AV), cs[i]? = some u → cs'[i]? = some u' → u'.one = true ∧ ∀ c x, Rep c u x → Rep c u' x
inductive ObjLe : AO → AO → Prop
  | same (o) : ObjLe o o
  | cells (cs cs') : Told cs cs' → ObjLe (.cells cs) (.cells cs')
  | grw (sz n get get') : (∀ j, j < n → get' j = get j) → ObjLe (.grw sz n get) (.grw sz n get')
inductive ObjsLe : List (Nat × AO) → List (Nat × AO) → Prop
  | nil : ObjsLe [] []
  | cons (k o o' r r') : ObjLe o o' → ObjsLe r r' → ObjsLe ((k, o) :: r) ((k, o') :: r')
theorem ObjsLe.look {l l' : List (Nat × AO)} (h : ObjsLe l l') (k : Nat) : (alook l k = none ∧ alook l' k = none) ∨ ∃ o o', alook l k = some o ∧ alook l' k = some o' ∧ ObjLe o o' := by
  induction h with
  | nil => exact .inl ⟨rfl, rfl⟩
  | cons q o o' r r' h1 _ ih =>
    simp only [alook]
    cases hb : Nat.beq q k with
    | true => exact .inr ⟨o, o', rfl, rfl, h1⟩
    | false => exact ih
theorem ObjLe.excl {o o' : AO} (h : ObjLe o o') (k : Nat) : excl c k o' = excl c k o := by cases h <;> rfl
theorem ObjLe.keys {o o' : AO} (h : ObjLe o o') : o' = o ∨ o'.keys = [] := by
  cases h with
  | same => exact .inl rfl
  | cells cs cs' h => exact .inr h.2.1
  | grw sz n get get' h => exact .inr rfl
theorem ObjLe.rep {o o' : AO} (h : ObjLe o o') {k : Nat} (hr : ObjRep c k o) : ObjRep c k o' := by
  cases h with
  | same => exact hr
  | cells cs cs' h =>
    obtain ⟨⟨⟨vs, t, hh, hs, hv⟩, h1⟩, hI, hf⟩ := hr
    have hg : ∀ (i : Nat) (u' : AV), cs'[i]? = some u' → ∃ u, cs[i]? = some u := fun i u' hu => by
      have := (List.getElem?_eq_some_iff.1 hu).1
      rw [h.1] at this
      exact ⟨_, List.getElem?_eq_getElem this⟩
    refine ⟨⟨⟨vs, t, hh, by rw [h.1]; exact hs, fun i u' hu => ?_⟩, fun i u' hu => ?_⟩, hI, hf⟩
    · obtain ⟨u, hu0⟩ := hg i u' hu
      exact (h.2.2 i u u' hu0 hu).2 _ _ (hv i u hu0)
    · obtain ⟨u, hu0⟩ := hg i u' hu
      exact (h.2.2 i u u' hu0 hu).1
  | grw sz n get get' h =>
    obtain ⟨h0, hfr, hm⟩ := hr
    refine ⟨h0, hfr, ?_⟩
    cases hc : c.κ k with
    | none => simp only [hc] at hm; exact hm
    | some p =>
      obtain ⟨a, cap⟩ := p
      simp only [hc] at hm ⊢
      refine ⟨hm.1, fun hlt => ?_⟩
      obtain ⟨⟨vs, t, hh, hs, hv⟩, had, hl, h1, hfree⟩ := hm.2 hlt
      exact ⟨⟨vs, t, hh, hs, fun j i u hj hu => hv j i u hj (by rwa [h j hj] at hu)⟩, had, fun j hj => by rw [h j hj]; exact hl j hj, fun j i u hj hu => h1 j i u hj (by rwa [h j hj] at hu), hfree⟩
theorem Rel.weak (h : Rel B c s a) {objs' : List (Nat × AO)} (hw : ObjsLe s.objs objs') : Rel B c { env := s.env, objs := objs' } a := by
  have hlive : ∀ k, live s.objs k → live objs' k := fun k hk => by
    obtain ⟨o, hk⟩ := hk
    rcases hw.look k with ⟨h1, _⟩ | ⟨_, o', _, h2, _⟩
    · rw [h1] at hk; cases hk
    · exact ⟨o', h2⟩
  have hback : ∀ {k o'}, alook objs' k = some o' → ∃ o, alook s.objs k = some o ∧ ObjLe o o' := fun {k o'} hk => by
    rcases hw.look k with ⟨_, h1⟩ | ⟨o, o2, h1, h2, h3⟩
    · rw [h1] at hk; cases hk
    · rw [h2] at hk; cases hk; exact ⟨o, h1, h3⟩
  refine ⟨h.good, h.frame, ⟨fun k o' hk => ?_, fun k o' q o2 b hk hq hne hb => ?_, fun k o' hk q hq => ?_⟩, h.env, fun t v hv k hk => hlive k (h.closed t v hv k hk), fun k o' b hk hb => ?_, h.tmps, h.defers, fun k hk => hlive k (h.kept k hk)⟩
  · obtain ⟨o, h1, h2⟩ := hback hk
    exact h2.rep (h.objs.rep k o h1)
  · obtain ⟨o, h1, h2⟩ := hback hk
    obtain ⟨o3, h3, h4⟩ := hback hq
    rw [h4.excl]
    rw [h2.excl] at hb
    exact h.objs.apart k o q o3 b h1 h3 hne hb
  · obtain ⟨o, h1, h2⟩ := hback hk
    rcases h2.keys with rfl | h0
    · exact hlive q (h.objs.closed k _ h1 q hq)
    · rw [h0] at hq; cases hq
  · obtain ⟨o, h1, h2⟩ := hback hk
    rw [h2.excl] at hb
    exact h.mine k o b h1 hb
open Classical in
theorem viewOk_weak {α : Type} [Inhabited α] (S S' : α → St) (Inv : α → Prop) (hS : ∀ v, Inv v → (S' v).env = (S v).env ∧ ObjsLe (S v).objs (S' v).objs) : ViewOk (mkV (goodS S Inv) (valS S Inv id) S') := by
  intro s k r h
  unfold mkV at h
  obtain ⟨hg, h⟩ := cond_none h
  have hx : ∃ v, Inv v ∧ S v = s := of_decide_eq_true hg
  unfold valS at h
  rw [dif_pos hx, id] at h
  obtain ⟨h1, h2⟩ := hx.choose_spec
  obtain ⟨e1, e2⟩ := hS _ h1
  refine ⟨_, h, fun B c a hr hn => ⟨c, rfl, ?_, ?_⟩⟩
  · rw [h2] at e1 e2
    have := hr.weak e2
    rw [← e1] at this
    exact this
  · intro t v hv
    refine hn t v ?_
    rw [← h2]
    show alook (S hx.choose).env t = some v
    rw [← e1]; exact hv
end Go.Ab

namespace Go.Ab
open Go Go.RowKit
variable {B : Base} {c : Cx} {s : St} {a : Act}
def fzSlot (s : St) (t : Nat) : Option St := (s.get t).bind fun v => (freezeA s.objs v).map fun r => ({ env := s.env, objs := r.2 } : St).put (some t) r.1
def fzCell (s : St) (ob off : Nat) : Option St :=
  match s.obj ob with
  | some (.cells cs) => (cs[off]?).bind fun v => (freezeA s.objs v).bind fun r => (match alook r.2 ob with
    | some (.cells cs') => some { env := s.env, objs := aput r.2 ob (.cells (cs'.set off r.1)) }
    | _ => none)
  | _ => none
theorem freezeA_keep {objs objs' : List (Nat × AO)} {v v' : AV} (h : freezeA objs v = some (v', objs')) {ob : Nat} {cs : List AV} (ho : alook objs ob = some (.cells cs)) : alook objs' ob = some (.cells cs) := by
  cases v with
  | msl k sz off n =>
    simp only [freezeA] at h
    split at h
    · rename_i hk
      obtain ⟨_, h⟩ := guardO_inv h
      simp only [Option.some.injEq, Prod.mk.injEq] at h
      rw [← h.2, alook_aput]
      by_cases e : k = ob
      · subst e; rw [hk] at ho; cases ho
      · rw [if_neg e]; exact ho
    · obtain ⟨_, h⟩ := guardO_inv h
      simp only [Option.some.injEq, Prod.mk.injEq] at h
      rw [← h.2]; exact ho
    · cases h
  | gsl k sz n =>
    simp only [freezeA] at h
    split at h
    · rename_i hk
      obtain ⟨_, h⟩ := guardO_inv h
      simp only [Option.some.injEq, Prod.mk.injEq] at h
      rw [← h.2, alook_aput]
      by_cases e : k = ob
      · subst e; rw [hk] at ho; cases ho
      · rw [if_neg e]; exact ho
    · cases h
  | _ => simp only [freezeA, Option.some.injEq, Prod.mk.injEq] at h; rw [← h.2]; exact ho
theorem fzCell_sound {ob off : Nat} {s' : St} (h : Rel B c s a) (hn : NoGrd s) (he : fzCell s ob off = some s') : ∃ c', c'.w = c.w ∧ Rel B c' s' a ∧ NoGrd s' := by
  unfold fzCell at he
  split at he
  · rename_i cs hob
    obtain ⟨v, hg, he⟩ := opt_bind he
    obtain ⟨⟨v', objs'⟩, hf, he⟩ := opt_bind he
    have hob1 := freezeA_keep hf hob
    simp only [hob1, Option.some.injEq] at he
    subst he
    obtain ⟨⟨⟨vs, t, hh, hs, hv⟩, h1⟩, hI, hfr⟩ := h.objs.rep ob _ hob
    have hsee : Sees B c s v (vs.getD off undef) := ⟨hv off v hg, fun k hk => h.objs.closed ob _ hob k (by simpa [AO.keys] using keys_mem_of hg k hk), (hv off v hg).plain⟩
    obtain ⟨c1, e1, e2, e3, _, e6⟩ := freezeA_sound h hsee hf
    obtain ⟨⟨⟨vs1, t1, hh1, hs1, hv1⟩, h11⟩, hI1, hfr1⟩ := e2.objs.rep ob _ hob1
    have hβ : c1.β ob = c.β ob := e6.β ob ⟨_, hob⟩
    rw [e1, hβ, hh] at hh1
    simp only [Option.some.injEq, Obj.cells.injEq] at hh1
    obtain ⟨rfl, rfl, _⟩ := hh1
    have hoff : off < cs.length := (List.getElem?_eq_some_iff.1 hg).1
    have hget : ∀ (i : Nat) (u : AV), (cs.set off v')[i]? = some u → (i = off ∧ u = v') ∨ cs[i]? = some u := by
      intro i u hu
      rw [List.getElem?_set] at hu
      by_cases e : off = i
      · subst e; simp [hoff] at hu; exact .inl ⟨rfl, hu.symm⟩
      · rw [if_neg e] at hu; exact .inr hu
    let s1 : St := { env := s.env, objs := objs' }
    have hrel : Rel B c1 (s1.setObj ob (.cells (cs.set off v'))) a := by
      refine e2.obj (k := ob) ((Keeps.refl c1 s1.objs).but ob) (Grow.refl e2.good) ⟨⟨⟨vs, t, by rw [e1, hβ]; exact hh, by rw [hs, List.length_set], fun i u hu => ?_⟩, fun i u hu => ?_⟩, hI1, hfr1⟩
        (fun q o' b hq hne' hb' e => e2.objs.apart q o' ob _ b hq hob1 hne' hb' e) (fun q hq => ?_) (fun b hb' => e2.mine ob _ b hob1 hb')
      · rcases hget i u hu with ⟨rfl, rfl⟩ | hu
        · exact e3.rep
        · exact hv1 i u hu
      · rcases hget i u hu with ⟨rfl, rfl⟩ | hu
        · rw [freezeA_one hf]; exact h1 _ _ hg
        · exact h1 i u hu
      · simp only [AO.keys] at hq
        rcases keysL_set q hq with hq | hq
        · exact .inr (e3.live q hq)
        · exact .inr (e2.objs.closed ob _ hob1 q (by simpa [AO.keys] using hq))
    exact ⟨c1, e1, hrel, fun q u hu => hn q u hu⟩
  · cases he
open Classical in
theorem viewOk_step {α : Type} [Inhabited α] (S S' : α → St) (Inv : α → Prop) (hS : ∀ v, Inv v → ∀ (B : Base) (c : Cx) (a : Act), Rel B c (S v) a → NoGrd (S v) → ∃ c', c'.w = c.w ∧ Rel B c' (S' v) a ∧ NoGrd (S' v)) : ViewOk (mkV (goodS S Inv) (valS S Inv id) S') := by
  intro s k r h
  unfold mkV at h
  obtain ⟨hg, h⟩ := cond_none h
  have hx : ∃ v, Inv v ∧ S v = s := of_decide_eq_true hg
  unfold valS at h
  rw [dif_pos hx, id] at h
  obtain ⟨h1, h2⟩ := hx.choose_spec
  exact ⟨_, h, fun B c a hr hn => hS _ h1 B c a (by rw [h2]; exact hr) (by rw [h2]; exact hn)⟩
end Go.Ab

namespace Go.SH
open Go Go.Ab Go.Proofs
set_option linter.unusedVariables false
set_option linter.unusedSimpArgs false
noncomputable def V3 : Env := { V2 with hint := fun f t => cond (Nat.beq f 55) (hn [0, 1, 6] [75] [] []) (V2.hint f t), grow := fun o => cond (Nat.beq o.type 37) (match o.dst with | some d => Nat.beq d 8 || Nat.beq d 75 | none => false) false, brk := fun o => match o.dst with | some d => cond (Nat.beq d 14) (Nat.beq o.type 29) (cond (Nat.beq d 15) (Nat.beq o.type 3) (Nat.beq d 16 && Nat.beq o.type 4)) | none => false }
structure RV where
  k : Nat
  n : Nat
  get : Nat → List AV
  C : CODES
instance : Inhabited RV := ⟨⟨0, 0, fun _ => [], default⟩⟩
def RS1 (n : Nat) (x : List (Int × Int × Int) × CODES) : St := { env := [(0, .ref keyBase 0), (1, .gsl 8 3 n)], objs := [(8, .grw 3 n (getR x.1)), (keyBase, codO x.2)] }
def RS2 (x : RV) : St := { env := [(1, .sl .no 3 x.n x.get)], objs := [(keyBase, codO x.C), (x.k, .own 3 x.n)] }
def RL0 (C : CODES) : St := { env := [(0, .ref keyBase 0), (1, .sl .fit 0 0 fun _ => []), (6, .int .i64 0)], objs := [(keyBase, codO C)] }
def RL (m : Nat) (get : Nat → List AV) (C : CODES) (i : Int) : St := { env := [(0, .ref keyBase 0), (1, .gsl 75 3 m), (6, .int .i64 i)], objs := [(75, .grw 3 m get), (keyBase, codO C)] }
def RE (m : Nat) (get : Nat → List AV) (C : CODES) : St := { env := [(1, .gsl 75 3 m)], objs := [(75, .grw 3 m get), (keyBase, codO C)] }
structure RO where
  m : Nat
  get : Nat → List AV
  C : CODES
instance : Inhabited RO := ⟨⟨0, fun _ => [], default⟩⟩
def outR (x : RO) (k : Ex → St → Res) : Res := k (.exit 1) (RE x.m x.get x.C)
structure RP where
  m : Nat
  l : List (Int × Int × Int)
  C : CODES
instance : Inhabited RP := ⟨⟨0, [], default⟩⟩
def RS3 (x : RP) : St := RE x.m (getR x.l) x.C
end Go.SH

namespace Go.SH
open Go Go.Ab Go.Proofs
set_option linter.unusedVariables false
set_option linter.unusedSimpArgs false
def rdec : List AV → RG
  | [.int _ a, .int _ b, .int _ c] => (a, b, c)
  | _ => (0, 0, 0)
def rowOk (a : List AV) : Prop := a = rngC (rdec a)
abbrev RSt := CODES ⊕ RO
def rS : RSt → St
  | .inl C => RL0 C
  | .inr x => RL x.m x.get x.C x.m
def rI : RSt → Prop
  | .inl C => C.Ok
  | .inr x => x.C.Ok ∧ 1 ≤ x.m ∧ x.m ≤ 17 ∧ ∀ j, j < x.m → rowOk (x.get j)
def rM : RSt → Nat
  | .inl _ => 20
  | .inr x => 18 - x.m
def rZ (x : RO) : Prop := x.C.Ok ∧ 16 ≤ x.m ∧ x.m ≤ 17 ∧ ∀ j, j < x.m → rowOk (x.get j)
def rV1 (q : Nat) (l : List RG) (C : CODES) : St := { env := [(0, .ref keyBase 0), (1, .gsl 8 3 (0 + (q + 1)))], objs := [(8, .grw 3 (0 + (q + 1)) (appGet 0 (q + 1) (fun _ => []) (getR l))), (keyBase, codO C)] }
def rV3 (z : RO) : St := RE z.m z.get z.C
def rlOf (z : RO) : List RG := (List.range z.m).map fun j => rdec (z.get j)
def rV2 (v : RV) : St := { env := [(1, .gsl v.k 3 v.n)], objs := [(v.k, .grw 3 v.n v.get), (keyBase, codO v.C)] }
end Go.SH

namespace Go.SH
open Go Go.Ab Go.Proofs
set_option linter.unusedVariables false
set_option linter.unusedSimpArgs false
def rgPost (y : List RG × CODES) : Prop := y.1.length ≤ 17 ∧ y.2.Ok
theorem number_cA (C : CODES) (h : C.Ok) : ∃ x : Int × CODES, x.2.Ok ∧ Ct V2.P V2.G 51 (cA C) (cO C) (φX x) := by
  obtain ⟨x, h1, h2⟩ := number_ex C h
  exact ⟨x, h1.2, h2⟩
end Go.SH

namespace Go.SH
open Go Go.Ab Go.Proofs
set_option linter.unusedVariables false
set_option linter.unusedSimpArgs false
def nilS : AV := .sl .fit 0 0 fun _ => []
def φC (x : EXP × CODES) : AV × List AO := (.agg (expC x.1.op x.1.kind x.1.name x.1.vals x.1.kids.length (EXP.row x.1.kids)), [codO x.2])
def exK (op : Int) (ks : AV) : List AV := [.int .i64 op, .str [], .str [], .sl .fit 0 0 fun _ => [], ks]
inductive KID where
  | plain (e : EXP)
  | neg (e : EXP)
def KID.e : KID → EXP
  | .plain e => e
  | .neg e => notX e
def eC (e : EXP) : List AV := expC e.op e.kind e.name e.vals e.kids.length (EXP.row e.kids)
def KID.c : KID → List AV
  | .plain e => eC e
  | .neg e => exK 4 (.sl .fit 5 1 (fillGet ex0 [(0, .agg (eC e))]))
def getX (l : List KID) (j : Nat) : List AV := (l.map KID.c).getD j ex0
def XS0 (op lv n : Int) (C : CODES) : St := { env := [(0, .ref keyBase 0), (1, nilS), (2, .int .i64 lv), (6, .ref 6 0), (8, .int .i64 op), (9, .ref 9 0), (10, .int .i64 n), (11, .int .i64 0)], objs := [(6, .cells ex0), (9, .cells (exK op (.sl (.key 81) 5 0 fun _ => ex0))), (keyBase, codO C), (81, .own 5 0)] }
def XS (op lv n : Int) (m : Nat) (get : Nat → List AV) (C : CODES) (i : Nat) : St := { env := [(0, .ref keyBase 0), (1, nilS), (2, .int .i64 lv), (6, .ref 6 0), (8, .int .i64 op), (9, .ref 9 0), (10, .int .i64 n), (11, .int .i64 i)], objs := [(6, .cells ex0), (9, .cells (exK op (.sl (.key 81) 5 m get))), (81, .own 5 m), (keyBase, codO C)] }
def XE (op : Int) (m : Nat) (get : Nat → List AV) (C : CODES) : St := { env := [(6, .ref 6 0), (9, .ref 9 0)], objs := [(6, .cells ex0), (9, .cells (exK op (.sl (.key 81) 5 m get))), (81, .own 5 m), (keyBase, codO C)] }
def outX (op : Int) (x : List KID × CODES) (k : Ex → St → Res) : Res := k (.exit 1) (XE op x.1.length (getX x.1) x.2)
end Go.SH

namespace Go.SH
open Go Go.Ab Go.Proofs
set_option linter.unusedVariables false
set_option linter.unusedSimpArgs false
abbrev XSt := CODES ⊕ (List KID × CODES)
def xA (lv : Int) (_ : CODES) : List AV := [.ref keyBase 0, nilS, .int .i64 lv]
def xPost (q : Nat) (x : EXP × CODES) : Prop := (VE q x.1 ∧ x.1.Ok) ∧ x.2.Ok
def okK (op : Int) (q : Nat) (k : KID) : Prop := VE (q + 1) k.e ∧ k.e.op ≠ op ∧ k.e.Ok
def xS (op lv : Int) (n : Nat) : XSt → St
  | .inl C => XS0 op lv n C
  | .inr (l, C) => XS op lv n l.length (getX l) C l.length
def xI (op : Int) (q n : Nat) : XSt → Prop
  | .inl C => C.Ok
  | .inr (l, C) => C.Ok ∧ 1 ≤ l.length ∧ l.length ≤ n ∧ ∀ k ∈ l, okK op q k
def xM : XSt → Nat
  | .inl _ => 5
  | .inr (l, _) => 4 - l.length
def xZ (op : Int) (q n : Nat) (z : List KID × CODES) : Prop := z.1.length = n ∧ (∀ k ∈ z.1, okK op q k) ∧ z.2.Ok
instance : Inhabited (List KID × CODES) := ⟨([], default)⟩
theorem getX_app (l : List KID) (k : KID) : appGet l.length 1 (getX l) (fillGet ex0 [(0, .agg k.c)]) = getX (l ++ [k]) := by
  funext j
  unfold appGet getX
  by_cases h : j < l.length
  · rw [bltT h]
    simp [List.getD, h, List.getElem?_append_left]
  · have hb : Nat.blt j l.length = false := by
      cases e : Nat.blt j l.length with
      | false => rfl
      | true => exact absurd (ltB e) h
    rw [hb, cond_false]
    by_cases h1 : j = l.length
    · subst h1
      rw [bltT (by omega), cond_true, Nat.sub_self]
      simp [fillGet, AV.cells, List.getD]
    · have hb1 : Nat.blt j (l.length + 1) = false := by
        cases e : Nat.blt j (l.length + 1) with
        | false => rfl
        | true => exact absurd (ltB e) (by omega)
      rw [hb1, cond_false]
      simp only [List.map_append, List.map_cons, List.map_nil, List.getD]
      rw [List.getElem?_eq_none (by simp; omega), List.getElem?_eq_none (by simp; omega)]
theorem notX_ok {e : EXP} (h : e.Ok) : (notX e).Ok := .mk _ (by show 0 ≤ maxS; unfold maxS; omega) (by show 0 ≤ maxS; unfold maxS; omega) ⟨by show 0 ≤ _; omega, by intro v hv; cases hv⟩ (by show 1 ≤ _; omega) (by intro v hv; have : v ∈ [e] := hv; simp at this; subst this; exact h)
def kidOf (op : Int) (e : EXP) : KID := bif e.op == op then .neg e else .plain e
theorem kidOf_ok {op : Int} {q : Nat} {x : EXP × CODES} (hop : op = 2 ∨ op = 3) (h : xPost q x) : okK op q (kidOf op x.1) := by
  unfold kidOf
  cases hb : (x.1.op == op) with
  | true => exact ⟨h.1.1.not, by show (4 : Int) ≠ op; omega, notX_ok h.1.2⟩
  | false => exact ⟨h.1.1.up, beq_eq_false_iff_ne.1 hb, h.1.2⟩
end Go.SH

namespace Go.SH
open Go Go.Ab Go.Proofs
set_option linter.unusedVariables false
set_option linter.unusedSimpArgs false
end Go.SH

namespace Go.SH
open Go Go.Ab Go.Proofs
set_option linter.unusedVariables false
set_option linter.unusedSimpArgs false
theorem expC_keys (op : Int) (kd nm : List UInt8) (vs : List VAL) (n : Nat) (g : Nat → List AV) : keysL (expC op kd nm vs n g) = [] := by simp [expC, AV.keys, keysL, valL]
theorem expC_one {op : Int} {kd nm : List UInt8} {vs : List VAL} {n : Nat} {g : Nat → List AV} {i : Nat} {u : AV} (h : (expC op kd nm vs n g)[i]? = some u) : u.one = true := by
  match i with
  | 0 => simp [expC] at h; subst h; rfl
  | 1 => simp [expC] at h; subst h; rfl
  | 2 => simp [expC] at h; subst h; rfl
  | 3 => simp [expC] at h; subst h; rfl
  | 4 => simp [expC] at h; subst h; rfl
  | i + 5 => simp [expC] at h
def Tells (a b : List AV) : Prop := ∀ (i : Nat) (u u' : AV), a[i]? = some u → b[i]? = some u' → u'.one = true ∧ ∀ c x, Rep c u x → Rep c u' x
theorem tells_refl (e : EXP) : Tells (eC e) (eC e) := fun i u u' h1 h2 => by
  rw [h1] at h2
  simp only [Option.some.injEq] at h2
  subst h2
  exact ⟨expC_one h1, fun _ _ h => h⟩
theorem row_eC {l : List EXP} {j : Nat} (h : j < l.length) : EXP.row l j = eC (l.getD j default) := by rw [EXP.row_at h, EXP.c_eq]; rfl
theorem tells_exK {op : Int} {ks : List EXP} {o : Own} {get : Nat → List AV} (hg : ∀ j, j < ks.length → Tells (get j) (EXP.row ks j)) : Tells (exK op (.sl o 5 ks.length get)) (expC op [] [] [] ks.length (EXP.row ks)) := fun i u u' hu hu' => by
  unfold exK expC at *
  match i with
  | 0 => simp only [List.getElem?_cons_zero, Option.some.injEq] at hu hu'; subst hu hu'; exact ⟨rfl, fun _ x h => h⟩
  | 1 => simp only [List.getElem?_cons_succ, List.getElem?_cons_zero, Option.some.injEq] at hu hu'; subst hu hu'; exact ⟨rfl, fun _ x h => h⟩
  | 2 => simp only [List.getElem?_cons_succ, List.getElem?_cons_zero, Option.some.injEq] at hu hu'; subst hu hu'; exact ⟨rfl, fun _ x h => h⟩
  | 3 => simp only [List.getElem?_cons_succ, List.getElem?_cons_zero, Option.some.injEq] at hu hu'; subst hu hu'; exact ⟨rfl, fun _ => sl_fit⟩
  | 4 =>
    simp only [List.getElem?_cons_succ, List.getElem?_cons_zero, Option.some.injEq] at hu hu'; subst hu hu'
    exact ⟨rfl, fun c => sl_map (fun j hj => by rw [row_eC hj]; exact ⟨rfl, expC_keys _ _ _ _ _ _⟩) fun j i u u' hj h1 h2 => ⟨(hg j hj i u u' h1 h2).1, fun x => (hg j hj i u u' h1 h2).2 c x⟩⟩
  | i + 5 => simp at hu
theorem tells_ex0 {op : Int} {g : Nat → List AV} : Tells (exK op (.sl .fit 0 0 g)) (expC op [] [] [] 0 (EXP.row [])) := fun i u u' hu hu' => by
  unfold exK expC at *
  match i with
  | 0 => simp only [List.getElem?_cons_zero, Option.some.injEq] at hu hu'; subst hu hu'; exact ⟨rfl, fun _ x h => h⟩
  | 1 => simp only [List.getElem?_cons_succ, List.getElem?_cons_zero, Option.some.injEq] at hu hu'; subst hu hu'; exact ⟨rfl, fun _ x h => h⟩
  | 2 => simp only [List.getElem?_cons_succ, List.getElem?_cons_zero, Option.some.injEq] at hu hu'; subst hu hu'; exact ⟨rfl, fun _ x h => h⟩
  | 3 => simp only [List.getElem?_cons_succ, List.getElem?_cons_zero, Option.some.injEq] at hu hu'; subst hu hu'; exact ⟨rfl, fun _ => sl_fit⟩
  | 4 => simp only [List.getElem?_cons_succ, List.getElem?_cons_zero, Option.some.injEq] at hu hu'; subst hu hu'; exact ⟨rfl, fun _ => sl_fit⟩
  | i + 5 => simp at hu
theorem tells_ct {f : FuncId} {A : List AV} {O : List AO} {a : List AV} {e : EXP} {D : CODES} (hl : a.length = 5) (ht : Tells a (eC e)) (h : Ct V2.P V2.G f A O (.agg a, [codO D])) : Ct V2.P V2.G f A O (φC (e, D)) :=
  h.res (by show (AV.agg (eC e)).keys = []; exact expC_keys _ _ _ _ _ _) fun c v hv => agg_map (us := a) (us' := eC e) (by rw [hl]; rfl) (fun i u u' hu hu' => ⟨(ht i u u' hu hu').1, fun x => (ht i u u' hu hu').2 c x⟩) hv
theorem tells_not (e : EXP) : Tells (exK 4 (.sl .fit 5 1 (fillGet ex0 [(0, .agg (eC e))]))) (eC (notX e)) :=
  tells_exK (ks := [e]) fun j hj => by
    match j, hj with
    | 0, _ =>
      rw [row_eC (by simp)]
      exact tells_refl e
theorem tells_kid (k : KID) : Tells k.c (eC k.e) := by
  cases k with
  | plain e => exact tells_refl e
  | neg e => exact tells_not e
theorem tells_pair (op : Int) (l : List KID) {o : Own} : Tells (exK op (.sl o 5 l.length (getX l))) (eC (pairX op (l.map KID.e))) := by
  have h := tells_exK (op := op) (ks := l.map KID.e) (o := o) (get := getX l) fun j hj => by
    have hj : j < l.length := by simpa using hj
    rw [row_eC (by simpa using hj)]
    unfold getX
    simp only [List.getD, List.getElem?_map, List.getElem?_eq_getElem hj, Option.map_some, Option.getD_some]
    exact tells_kid _
  rw [List.length_map] at h
  exact fun i u u' h1 h2 => h i u u' h1 (by rw [← h2]; unfold eC pairX; simp only [EXP.op, EXP.kind, EXP.name, EXP.vals, EXP.kids, List.length_map])
theorem nul_ok (op : Int) : (EXP.mk op [] [] [] []).Ok := .mk _ (by show 0 ≤ maxS; unfold maxS; omega) (by show 0 ≤ maxS; unfold maxS; omega) ⟨by show 0 ≤ _; omega, by intro v hv; cases hv⟩ (by show 0 ≤ _; omega) (by intro v hv; cases hv)
theorem true_ve : VE 1 (.mk 1 [] [] [] []) := .mk _ _ (by kernel_rfl) fun k hk => by cases hk
theorem pair_ok {op : Int} {ks : List EXP} (h : ks.length ≤ 3) (hk : ∀ k ∈ ks, k.Ok) : (pairX op ks).Ok := .mk _ (by show 0 ≤ maxS; unfold maxS; omega) (by show 0 ≤ maxS; unfold maxS; omega) ⟨by show 0 ≤ _; omega, by intro v hv; cases hv⟩ (by show ks.length ≤ _; omega) hk
end Go.SH

namespace Go.SH
open Go Go.Ab Go.Proofs
set_option linter.unusedVariables false
set_option linter.unusedSimpArgs false
set_option linter.unusedSectionVars false
theorem testC_ex (C : CODES) (hC : C.Ok) : ∃ x, tPost x ∧ Ct V2.P V2.G 47 (cA C) (cO C) (φC x) := by
  obtain ⟨x, h1, h2⟩ := test_ex C hC
  refine ⟨x, h1, ?_⟩
  unfold φQ at h2
  rw [x.1.c_eq] at h2
  exact h2
theorem tPost.x {x : EXP × CODES} (h : tPost x) (d : Nat) : xPost (2 * d + 1) x := ⟨⟨h.1.ve.le (by omega), h.1.2.2⟩, h.2⟩
section
variable {C : CODES} (hC : C.Ok) {wt : CODES → EXP × CODES} (hwt : ∀ C, C.Ok → tPost (wt C)) (htt : ∀ l os, (entC 47 cA cO CODES.Ok wt φC).pre l os = true → Ct V2.P V2.G (entC 47 cA cO CODES.Ok wt φC).f l os ((entC 47 cA cO CODES.Ok wt φC).ans l os))
include hC hwt htt
variable {d : Nat} (hd : 1 ≤ d) (hd3 : d ≤ 3) {wx : CODES → EXP × CODES} (hwx : ∀ C, C.Ok → xPost (2 * d - 1) (wx C)) (htx : ∀ l os, (entC 13 (xA d) cO CODES.Ok wx φC).pre l os = true → Ct V2.P V2.G (entC 13 (xA d) cO CODES.Ok wx φC).f l os ((entC 13 (xA d) cO CODES.Ok wx φC).ans l os))
include hd hd3 hwx htx
end
end Go.SH

namespace Go.SH
open Go Go.Ab Go.Proofs
set_option linter.unusedVariables false
set_option linter.unusedSimpArgs false
noncomputable def V4 : Env := { V3 with
  hint := fun f t => cond (Nat.beq f 14) (cond (Nat.beq t 23) (hn [0, 3, 4, 6] [3, 4] [] []) (cond (Nat.beq t 29) (hn [0, 3, 4, 7, 8] [3, 4, 7] [] []) (V3.hint f t))) (V3.hint f t)
  trim := fun f p => cond (Nat.beq f 14) (trGet [tr [1, 1, 0, 1, 0, 1, 1, 1, 1, 1, 1, 1, 1, 1, 1, 1, 1, 1, 1, 1, 0, 1, 0, 0, 0, 1, 1] [3, 4] [3, 4], tr [1, 1, 0, 1, 0, 1, 1, 1, 1, 1, 1, 1, 1, 1, 1, 1, 1, 1, 1, 1, 1, 1, 0, 1, 0, 1, 0, 0, 0, 1, 1] [3, 4, 7] [3, 4, 7], tr [1, 0, 1, 0, 1] [0, 3, 4] [3, 4, 20], tr [1, 0, 1, 0, 1, 1, 1] [3, 4] [3, 4, 20], tr [1, 1] [0, 3, 4] [3, 4], tr [1, 1, 1] [3, 4] [3, 4, 61, 65, 83, 87], tr [1, 1, 0, 1, 0, 1, 1, 1, 1, 1, 1, 1, 1, 1, 1, 1, 1, 1, 1, 1, 0, 1, 0, 0, 1, 1] [0, 3, 4, 6] [3, 4], tr [1, 1, 0, 1, 0, 1, 1, 1, 1, 1, 1, 1, 1, 1, 1, 1, 1, 1, 1, 1, 1, 1, 0, 1, 0, 1, 0, 0, 1, 1] [0, 3, 4, 7, 8] [3, 4, 7, 110, 114] ] p) (V3.trim f p)
  grow := fun o => cond (Nat.beq o.type 23) (match o.dst with | some d => Nat.beq d 20 | none => false) (V3.grow o) }
def xc (op : Int) (kd nm : List UInt8) (m : Nat) (gv : Nat → List AV) (n : Nat) (g : Nat → List AV) : List AV := [.int .i64 op, .str kd, .str nm, .sl .no 4 m gv, .sl .no 5 n g]
structure KV where
  op : Int
  kd : List UInt8
  nm : List UInt8
  m : Nat
  gv : Nat → List AV
  n : Nat
  g : Nat → List AV
  C : CODES
instance : Inhabited KV := ⟨⟨0, [], [], 0, fun _ => [], 0, fun _ => [], default⟩⟩
def gcell (op : Int) (kd nm : List UInt8) (m : Nat) (gv : Nat → List AV) (n : Nat) : List AV := [.int .i64 op, .str kd, .str nm, .sl .no 4 m gv, .gsl 20 5 n]
structure K1 where
  op : Int
  kd : List UInt8
  nm : List UInt8
  m : Nat
  gv : Nat → List AV
  l : List EXP
  C : CODES
instance : Inhabited K1 := ⟨⟨0, [], [], 0, fun _ => [], [], default⟩⟩
def getE (l : List EXP) (j : Nat) : List AV := eC (l.getD j default)
def CS1 (n : Nat) (x : K1) : St := { env := [(0, .ref keyBase 0), (3, .ref 3 0), (4, .ref 4 0)], objs := [(3, .cells (gcell x.op x.kd x.nm x.m x.gv n)), (4, .cells ex0), (20, .grw 5 n (getE x.l)), (keyBase, codO x.C)] }
def CS2 (x : KV) : St := { env := [(3, .ref 3 0), (4, .ref 4 0)], objs := [(3, .cells (xc x.op x.kd x.nm x.m x.gv x.n x.g)), (4, .cells ex0), (20, .own 5 x.n), (keyBase, codO x.C)] }
def NL (t : EXP) (C : CODES) (i : Int) : St := { env := [(0, .ref keyBase 0), (3, .ref 3 0), (4, .ref 4 0), (6, .int .i64 i)], objs := [(3, .cells (eC t)), (4, .cells ex0), (keyBase, codO C)] }
def SN (x : EXP × CODES × Int) : St := NL x.1 x.2.1 x.2.2
def KL (y : KV) (op : Int) (kd nm : List UInt8) (m : Nat) (gv : Nat → List AV) (n : Nat) (g : Nat → List AV) (C : CODES) (i : Int) : St := { env := [(0, .ref keyBase 0), (3, .ref 3 0), (4, .ref 4 0), (7, .ref 7 0), (8, .int .i64 i)], objs := [(3, .cells (xc y.op y.kd y.nm y.m y.gv y.n y.g)), (4, .cells ex0), (7, .cells (xc op kd nm m gv n g)), (keyBase, codO C)] }
def SK (y : KV) (x : KV × Int) : St := { env := [(0, .ref keyBase 0), (3, .ref 3 0), (4, .ref 4 0), (7, .ref 7 0), (8, .int .i64 x.2)], objs := [(3, .cells (xc y.op y.kd y.nm y.m y.gv y.n y.g)), (4, .cells ex0), (7, .cells (xc x.1.op x.1.kd x.1.nm x.1.m x.1.gv (x.1.n + 1) x.1.g)), (110, .own 5 (x.1.n + 1)), (keyBase, codO x.1.C)] }
def outN (x : EXP × CODES) (k : Ex → St → Res) : Res := k (.exit 1) { env := [(3, .ref 3 0), (4, .ref 4 0)], objs := [(3, .cells (eC x.1)), (4, .cells ex0), (keyBase, codO x.2)] }
def outK (y : KV) (x : KV) (k : Ex → St → Res) : Res := k (.exit 3) { env := [(3, .ref 3 0), (4, .ref 4 0), (7, .ref 7 0)], objs := [(3, .cells (xc y.op y.kd y.nm y.m y.gv y.n y.g)), (4, .cells ex0), (7, .cells (xc x.op x.kd x.nm x.m x.gv (x.n + 1) x.g)), (keyBase, codO x.C)] }
set_option maxRecDepth 100000 in
theorem any_m (ge gv : List AV → List AO → Bool) (ve : List AV → List AO → Int × CODES) (vv : List AV → List AO → VAL × CODES) (C : CODES) {t1 : Int × CODES} (h_t1 : ve [.ref 1000000 0, .int .i64 5] [codO C] = t1) {t2 : VAL × CODES} (h_t2 : vv [.ref 1000000 0, .int .i64 (IntKind.wrap IntKind.i64 (1 + Prod.fst t1))] [codO (Prod.snd t1)] = t2) : runF (V2.run [mkE 19 ge ve φX, mkE 58 gv vv φV] 3 [] [] [] 29) 9 29 [.ref keyBase 0] [codO C] =
  cond (ge [.ref 1000000 0, .int .i64 5] [codO C]) (cond (gv [.ref 1000000 0, .int .i64 (IntKind.wrap IntKind.i64 (1 + Prod.fst t1))] [codO (Prod.snd t1)]) (some ((.agg (VAL.c (Prod.fst t2)), [codO (Prod.snd t2)]))) (none)) (none) := by subst h_t2 h_t1; kernel_rfl
set_option maxRecDepth 100000 in
theorem c_rec (ge gc : List AV → List AO → Bool) (ve : List AV → List AO → Int × CODES) (vc : List AV → List AO → EXP × CODES) (g1 g2 : St → Bool) (v1 : St → K1) (v2 : St → KV) (op : Int) (kd nm : List UInt8) (m : Nat) (gv : Nat → List AV) (q : Nat) (g : Nat → List AV) (C : CODES) {t1 : Int × CODES} (h_t1 : ve [.ref 1000000 0, .int .i64 3] [codO C] = t1) {t2 : K1} (h_t2 : v1 { env := [(0, .ref 1000000 0), (3, .ref 3 0), (4, .ref 4 0)], objs := [(3, .cells (gcell op kd nm m gv (0 + (q + 1)))), (4, .cells ex0), (20, AO.grw 5 (0 + (q + 1)) (appGet 0 (q + 1) (fun x => []) g)), (1000000, codO (Prod.snd t1))] } = t2) {t3 : Int × CODES} (h_t3 : ve [.ref 1000000 0, .int .i64 (↑(q + 1) : Int)] [codO (K1.C t2)] = t3) {t4 : EXP × CODES} (h_t4 : vc [.ref 1000000 0, .agg (eC (List.getD (K1.l t2) (Int.toNat (Prod.fst t3)) default))] [codO (Prod.snd t3)] = t4) {t5 : KV} (h_t5 : v2 { env := [(3, .ref 3 0), (4, .ref 4 0)], objs := [(3, .cells (gcell (K1.op t2) (K1.kd t2) (K1.nm t2) (K1.m t2) (K1.gv t2) (q + 1))), (4, .cells ex0), (20, AO.grw 5 (q + 1) fun j => bif Nat.beq j (Int.toNat (Prod.fst t3)) then eC (Prod.fst t4) else eC (List.getD (K1.l t2) j default)), (1000000, codO (Prod.snd t4))] } = t5) : runF (V4.run [mkE 19 ge ve φX, mkE 14 gc vc φC] 1 [([1, 1], mkO (fun _ => false) (fun _ => ()) (fun _ _ => none))] [] [([1, 0, 1, 0, 1], mkV g1 v1 (CS1 (q + 1))), ([1, 0, 1, 0, 1, 1, 1], mkV g2 v2 CS2)] 14) 9 14 [.ref keyBase 0, .agg (xc op kd nm m gv (q + 1) g)] [codO C] =
  cond (decide ((↑(q + 1) : Int) > 0)) (cond (ge [.ref 1000000 0, .int .i64 3] [codO C]) (cond (bif true then decide (Prod.fst t1 > 0) else false) (cond (roomy (88) (0 + (q + 1))) (cond (g1 { env := [(0, .ref 1000000 0), (3, .ref 3 0), (4, .ref 4 0)], objs := [(3, .cells (gcell op kd nm m gv (0 + (q + 1)))), (4, .cells ex0), (20, AO.grw 5 (0 + (q + 1)) (appGet 0 (q + 1) (fun x => []) g)), (1000000, codO (Prod.snd t1))] }) (cond (ge [.ref 1000000 0, .int .i64 (↑(q + 1) : Int)] [codO (K1.C t2)]) (cond (within (Prod.fst t3) (q + 1) && Nat.beq (q + 1) (q + 1)) (cond (Nat.blt (Int.toNat (Prod.fst t3)) (q + 1) && Nat.beq (q + 1) (q + 1)) (cond (gc [.ref 1000000 0, .agg (eC (List.getD (K1.l t2) (Int.toNat (Prod.fst t3)) default))] [codO (Prod.snd t3)]) (cond (within (Prod.fst t3) (q + 1) && Nat.beq (q + 1) (q + 1)) (cond (Nat.blt (Int.toNat (Prod.fst t3)) (q + 1) && Nat.beq (q + 1) (q + 1)) (cond (g2 { env := [(3, .ref 3 0), (4, .ref 4 0)], objs := [(3, .cells (gcell (K1.op t2) (K1.kd t2) (K1.nm t2) (K1.m t2) (K1.gv t2) (q + 1))), (4, .cells ex0), (20, AO.grw 5 (q + 1) fun j => bif Nat.beq j (Int.toNat (Prod.fst t3)) then eC (Prod.fst t4) else eC (List.getD (K1.l t2) j default)), (1000000, codO (Prod.snd t4))] }) (some ((.agg (xc (KV.op t5) (KV.kd t5) (KV.nm t5) (KV.m t5) (KV.gv t5) (KV.n t5) (KV.g t5)), [codO (KV.C t5)]))) (none)) (none)) (none)) (none)) (none)) (none)) (none)) (none)) (none)) (none)) (none)) (none) := by subst h_t5 h_t4 h_t3 h_t2 h_t1; kernel_rfl
set_option maxRecDepth 100000 in
theorem c_kr0 (ge : List AV → List AO → Bool) (ve : List AV → List AO → Int × CODES) (gt : List AV → List AO → Bool) (vt : List AV → List AO → EXP × CODES) (T : List Ent) (L : List (List Nat × Orc)) (gw : St → Bool) (vw : St → KV × Int) (m : Nat) (op : Int) (kd nm : List UInt8) (mv : Nat) (gv g : Nat → List AV) (y : KV) (C : CODES) (i : Int) (kn : St → Res) (k : Ex → St → Res) {t1 : EXP × CODES} (h_t1 : vt [.ref 1000000 0] [codO C] = t1) {t2 : KV × Int} (h_t2 : vw { env := [(0, .ref 1000000 0), (3, .ref 3 0), (4, .ref 4 0), (7, .ref 7 0), (8, .int .i64 i)], objs := [(3, .cells (xc (KV.op y) (KV.kd y) (KV.nm y) (KV.m y) (KV.gv y) (KV.n y) (KV.g y))), (4, .cells ex0), (7, .cells [.int .i64 op, .str kd, .str nm, .sl .no 4 mv gv, .sl (.key 110) 5 1 (appGet 0 1 (appGet 0 0 (fun x => []) g) (fillGet ex0 [(0, .agg (eC (Prod.fst t1)))]))]), (110, .own 5 1), (1000000, codO (Prod.snd t1))] } = t2) : roundR (V4.run (mkE 19 ge ve φX :: mkE 47 gt vt φC :: T) 1 [] L [([1, 0, 1, 0, 1], fun _ _ => none), ([1, 1, 0, 1, 0, 1, 1, 1, 1, 1, 1, 1, 1, 1, 1, 1, 1, 1, 1, 1, 1, 1, 0, 1, 0, 1, 0, 0, 1, 1], mkV gw vw (SK y))] 14) 14 m [1, 1, 0, 1, 0, 1, 1, 1, 1, 1, 1, 1, 1, 1, 1, 1, 1, 1, 1, 1, 1, 1, 0, 1, 0, 1, 0] (KL y op kd nm mv gv 0 g C i) kn k =
  cond (decide (i < 11)) (cond (gt [.ref 1000000 0] [codO C]) (cond (gw { env := [(0, .ref 1000000 0), (3, .ref 3 0), (4, .ref 4 0), (7, .ref 7 0), (8, .int .i64 i)], objs := [(3, .cells (xc (KV.op y) (KV.kd y) (KV.nm y) (KV.m y) (KV.gv y) (KV.n y) (KV.g y))), (4, .cells ex0), (7, .cells [.int .i64 op, .str kd, .str nm, .sl .no 4 mv gv, .sl (.key 110) 5 1 (appGet 0 1 (appGet 0 0 (fun x => []) g) (fillGet ex0 [(0, .agg (eC (Prod.fst t1)))]))]), (110, .own 5 1), (1000000, codO (Prod.snd t1))] }) (kn (KL y (KV.op (Prod.fst t2)) (KV.kd (Prod.fst t2)) (KV.nm (Prod.fst t2)) (KV.m (Prod.fst t2)) (KV.gv (Prod.fst t2)) (KV.n (Prod.fst t2) + 1) (KV.g (Prod.fst t2)) (KV.C (Prod.fst t2)) (IntKind.wrap IntKind.i64 (Prod.snd t2 + 1)))) (none)) (none)) (k (.exit 3) ({ env := [(3, .ref 3 0), (4, .ref 4 0), (7, .ref 7 0)], objs := [(3, .cells (xc (KV.op y) (KV.kd y) (KV.nm y) (KV.m y) (KV.gv y) (KV.n y) (KV.g y))), (4, .cells ex0), (7, .cells (xc op kd nm mv gv 0 g)), (1000000, codO C)] })) := by subst h_t2 h_t1; kernel_rfl
set_option maxRecDepth 100000 in
theorem c_kr (ge : List AV → List AO → Bool) (ve : List AV → List AO → Int × CODES) (gt : List AV → List AO → Bool) (vt : List AV → List AO → EXP × CODES) (T : List Ent) (L : List (List Nat × Orc)) (gw : St → Bool) (vw : St → KV × Int) (m : Nat) (op : Int) (kd nm : List UInt8) (mv : Nat) (gv g : Nat → List AV) (q : Nat) (y : KV) (C : CODES) (i : Int) (kn : St → Res) (k : Ex → St → Res) {t1 : EXP × CODES} (h_t1 : vt [.ref 1000000 0] [codO C] = t1) {t2 : KV × Int} (h_t2 : vw { env := [(0, .ref 1000000 0), (3, .ref 3 0), (4, .ref 4 0), (7, .ref 7 0), (8, .int .i64 i)], objs := [(3, .cells (xc (KV.op y) (KV.kd y) (KV.nm y) (KV.m y) (KV.gv y) (KV.n y) (KV.g y))), (4, .cells ex0), (7, .cells [.int .i64 op, .str kd, .str nm, .sl .no 4 mv gv, .sl (.key 110) 5 (0 + (q + 1) + 1) (appGet (0 + (q + 1)) 1 (appGet 0 (q + 1) (fun x => []) g) (fillGet ex0 [(0, .agg (eC (Prod.fst t1)))]))]), (110, .own 5 (0 + (q + 1) + 1)), (1000000, codO (Prod.snd t1))] } = t2) : roundR (V4.run (mkE 19 ge ve φX :: mkE 47 gt vt φC :: T) 1 [] L [([1, 0, 1, 0, 1], fun _ _ => none), ([1, 1, 0, 1, 0, 1, 1, 1, 1, 1, 1, 1, 1, 1, 1, 1, 1, 1, 1, 1, 1, 1, 0, 1, 0, 1, 0, 0, 1, 1], mkV gw vw (SK y))] 14) 14 m [1, 1, 0, 1, 0, 1, 1, 1, 1, 1, 1, 1, 1, 1, 1, 1, 1, 1, 1, 1, 1, 1, 0, 1, 0, 1, 0] (KL y op kd nm mv gv (q + 1) g C i) kn k =
  cond (decide (i < 11)) (cond (roomy (88) (0 + (q + 1))) (cond (gt [.ref 1000000 0] [codO C]) (cond (roomy (88) (0 + (q + 1) + 1) && Nat.beq (0 + (q + 1)) (0 + (q + 1))) (cond (gw { env := [(0, .ref 1000000 0), (3, .ref 3 0), (4, .ref 4 0), (7, .ref 7 0), (8, .int .i64 i)], objs := [(3, .cells (xc (KV.op y) (KV.kd y) (KV.nm y) (KV.m y) (KV.gv y) (KV.n y) (KV.g y))), (4, .cells ex0), (7, .cells [.int .i64 op, .str kd, .str nm, .sl .no 4 mv gv, .sl (.key 110) 5 (0 + (q + 1) + 1) (appGet (0 + (q + 1)) 1 (appGet 0 (q + 1) (fun x => []) g) (fillGet ex0 [(0, .agg (eC (Prod.fst t1)))]))]), (110, .own 5 (0 + (q + 1) + 1)), (1000000, codO (Prod.snd t1))] }) (kn (KL y (KV.op (Prod.fst t2)) (KV.kd (Prod.fst t2)) (KV.nm (Prod.fst t2)) (KV.m (Prod.fst t2)) (KV.gv (Prod.fst t2)) (KV.n (Prod.fst t2) + 1) (KV.g (Prod.fst t2)) (KV.C (Prod.fst t2)) (IntKind.wrap IntKind.i64 (Prod.snd t2 + 1)))) (none)) (none)) (none)) (none)) (k (.exit 3) ({ env := [(3, .ref 3 0), (4, .ref 4 0), (7, .ref 7 0)], objs := [(3, .cells (xc (KV.op y) (KV.kd y) (KV.nm y) (KV.m y) (KV.gv y) (KV.n y) (KV.g y))), (4, .cells ex0), (7, .cells (xc op kd nm mv gv (q + 1) g)), (1000000, codO C)] })) := by subst h_t2 h_t1; kernel_rfl
set_option maxRecDepth 100000 in
theorem c_nr (ge : List AV → List AO → Bool) (ve : List AV → List AO → Int × CODES) (T : List Ent) (L : List (List Nat × Orc)) (gw : St → Bool) (vw : St → EXP × CODES × Int) (m : Nat) (t : EXP) (C : CODES) (i : Int) (kn : St → Res) (k : Ex → St → Res) {t1 : Int × CODES} (h_t1 : ve [.ref 1000000 0, .int .i64 3] [codO C] = t1) {t2 : EXP × CODES × Int} (h_t2 : vw { env := [(0, .ref 1000000 0), (3, .ref 3 0), (4, .ref 4 0), (6, .int .i64 i)], objs := [(3, .cells (exK 4 (.sl .fit 5 1 (fillGet ex0 [(0, .agg (eC t))])))), (4, .cells ex0), (1000000, codO (Prod.snd t1))] } = t2) : roundR (V4.run (mkE 19 ge ve φX :: T) 1 [] L [([1, 0, 1, 0, 1], fun _ _ => none), ([1, 1, 0, 1, 0, 1, 1, 1, 1, 1, 1, 1, 1, 1, 1, 1, 1, 1, 1, 1, 0, 1, 0, 0, 1, 1], mkV gw vw SN)] 14) 14 m [1, 1, 0, 1, 0, 1, 1, 1, 1, 1, 1, 1, 1, 1, 1, 1, 1, 1, 1, 1, 0, 1, 0] (NL t C i) kn k =
  cond (ge [.ref 1000000 0, .int .i64 3] [codO C]) (cond (decide (i < IntKind.wrap IntKind.i64 (9 + Prod.fst t1))) (cond (gw { env := [(0, .ref 1000000 0), (3, .ref 3 0), (4, .ref 4 0), (6, .int .i64 i)], objs := [(3, .cells (exK 4 (.sl .fit 5 1 (fillGet ex0 [(0, .agg (eC t))])))), (4, .cells ex0), (1000000, codO (Prod.snd t1))] }) (kn (NL (Prod.fst t2) (Prod.fst (Prod.snd t2)) (IntKind.wrap IntKind.i64 (Prod.snd (Prod.snd t2) + 1)))) (none)) (k (.exit 1) ({ env := [(3, .ref 3 0), (4, .ref 4 0)], objs := [(3, .cells (eC t)), (4, .cells ex0), (1000000, codO (Prod.snd t1))] }))) (none) := by subst h_t2 h_t1; kernel_rfl
set_option maxRecDepth 100000 in
theorem c_0_0 (ge : List AV → List AO → Bool) (ve : List AV → List AO → Int × CODES) (op : Int) (kd nm : List UInt8) (m : Nat) (gv : Nat → List AV) (g : Nat → List AV) (C D : CODES) {t1 : Int × CODES} (h_t1 : ve [.ref 1000000 0, .int .i64 18] [codO D] = t1) : runF (V4.run [mkE 19 ge (fun l os => cond (argN 10 l) (0, D) (ve l os)) φX] 1 [] [] [([1, 0, 1, 0, 1], fun _ _ => none)] 14) 9 14 [.ref keyBase 0, .agg (xc op kd nm m gv 0 g)] [codO C] =
  cond (ge [.ref 1000000 0, .int .i64 10] [codO C]) (cond (ge [.ref 1000000 0, .int .i64 18] [codO D]) (some ((.agg (xc (IntKind.wrap IntKind.i64 (Prod.fst (bif argN 10 [.ref 1000000 0, .int .i64 18] then (0, D) else t1) - 1)) kd nm m gv 0 g), [codO (Prod.snd (bif argN 10 [.ref 1000000 0, .int .i64 18] then (0, D) else t1))]))) (none)) (none) := by subst h_t1; kernel_rfl
set_option maxRecDepth 100000 in
theorem c_1_0 (ge : List AV → List AO → Bool) (ve : List AV → List AO → Int × CODES) (gn : List AV → List AO → Bool) (vn : List AV → List AO → List UInt8 × CODES) (op : Int) (kd nm : List UInt8) (m : Nat) (gv : Nat → List AV) (g : Nat → List AV) (C D : CODES) {t1 : List UInt8 × CODES} (h_t1 : vn [.ref 1000000 0] [codO D] = t1) : runF (V4.run [mkE 19 ge (fun l os => cond (argN 10 l) (1, D) (ve l os)) φX, mkE 50 gn vn φT] 1 [] [] [([1, 0, 1, 0, 1], fun _ _ => none)] 14) 9 14 [.ref keyBase 0, .agg (xc op kd nm m gv 0 g)] [codO C] =
  cond (ge [.ref 1000000 0, .int .i64 10] [codO C]) (cond (gn [.ref 1000000 0] [codO D]) (some ((.agg (xc op (Prod.fst t1) nm m gv 0 g), [codO (Prod.snd t1)]))) (none)) (none) := by subst h_t1; kernel_rfl
set_option maxRecDepth 100000 in
theorem c_2_0 (ge : List AV → List AO → Bool) (ve : List AV → List AO → Int × CODES) (gn : List AV → List AO → Bool) (vn : List AV → List AO → List UInt8 × CODES) (op : Int) (kd nm : List UInt8) (m : Nat) (gv : Nat → List AV) (g : Nat → List AV) (C D : CODES) {t1 : List UInt8 × CODES} (h_t1 : vn [.ref 1000000 0] [codO D] = t1) : runF (V4.run [mkE 19 ge (fun l os => cond (argN 10 l) (2, D) (ve l os)) φX, mkE 50 gn vn φT] 1 [] [] [([1, 0, 1, 0, 1], fun _ _ => none)] 14) 9 14 [.ref keyBase 0, .agg (xc op kd nm m gv 0 g)] [codO C] =
  cond (ge [.ref 1000000 0, .int .i64 10] [codO C]) (cond (gn [.ref 1000000 0] [codO D]) (some ((.agg (xc op kd (Prod.fst t1) m gv 0 g), [codO (Prod.snd t1)]))) (none)) (none) := by subst h_t1; kernel_rfl
set_option maxRecDepth 100000 in
theorem c_3_00 (ge : List AV → List AO → Bool) (ve : List AV → List AO → Int × CODES) (ga : List AV → List AO → Bool) (va : List AV → List AO → VAL × CODES) (op : Int) (kd nm : List UInt8) (gv : Nat → List AV) (g : Nat → List AV) (C D : CODES) {t1 : VAL × CODES} (h_t1 : va [.ref 1000000 0] [codO D] = t1) : runF (V4.run [mkE 19 ge (fun l os => cond (argN 10 l) (3, D) (ve l os)) φX, mkE 29 ga va φV] 1 [] [] [([1, 0, 1, 0, 1], fun _ _ => none)] 14) 9 14 [.ref keyBase 0, .agg (xc op kd nm 0 gv 0 g)] [codO C] =
  cond (ge [.ref 1000000 0, .int .i64 10] [codO C]) (cond (ga [.ref 1000000 0] [codO D]) (some ((.agg (xc op kd nm 1 (appGet 0 1 (appGet 0 0 (fun x => []) gv) (fillGet [.int .i64 0, .int .i64 0, .str [], .sl .fit 0 0 fun x => [] ] [(0, .agg (VAL.c (Prod.fst t1)))])) 0 g), [codO (Prod.snd t1)]))) (none)) (none) := by subst h_t1; kernel_rfl
set_option maxRecDepth 100000 in
theorem c_3_01 (ge : List AV → List AO → Bool) (ve : List AV → List AO → Int × CODES) (ga : List AV → List AO → Bool) (va : List AV → List AO → VAL × CODES) (op : Int) (kd nm : List UInt8) (p : Nat) (gv : Nat → List AV) (g : Nat → List AV) (C D : CODES) {t1 : VAL × CODES} (h_t1 : va [.ref 1000000 0] [codO D] = t1) : runF (V4.run [mkE 19 ge (fun l os => cond (argN 10 l) (3, D) (ve l os)) φX, mkE 29 ga va φV] 1 [] [] [([1, 0, 1, 0, 1], fun _ _ => none)] 14) 9 14 [.ref keyBase 0, .agg (xc op kd nm (p + 1) gv 0 g)] [codO C] =
  cond (ge [.ref 1000000 0, .int .i64 10] [codO C]) (cond (roomy (56) (0 + (p + 1))) (cond (ga [.ref 1000000 0] [codO D]) (cond (roomy (56) (0 + (p + 1) + 1) && Nat.beq (0 + (p + 1)) (0 + (p + 1))) (some ((.agg (xc op kd nm (0 + (p + 1) + 1) (appGet (0 + (p + 1)) 1 (appGet 0 (p + 1) (fun x => []) gv) (fillGet [.int .i64 0, .int .i64 0, .str [], .sl .fit 0 0 fun x => [] ] [(0, .agg (VAL.c (Prod.fst t1)))])) 0 g), [codO (Prod.snd t1)]))) (none)) (none)) (none)) (none) := by subst h_t1; kernel_rfl
set_option maxRecDepth 100000 in
theorem c_4_0 (ge : List AV → List AO → Bool) (ve : List AV → List AO → Int × CODES) (op : Int) (kd nm : List UInt8) (m : Nat) (gv : Nat → List AV) (g : Nat → List AV) (C D : CODES)  : runF (V4.run [mkE 19 ge (fun l os => cond (argN 10 l) (4, D) (ve l os)) φX] 1 [] [] [([1, 0, 1, 0, 1], fun _ _ => none)] 14) 9 14 [.ref keyBase 0, .agg (xc op kd nm m gv 0 g)] [codO C] =
  cond (ge [.ref 1000000 0, .int .i64 10] [codO C]) (some ((.agg [.int .i64 op, .str kd, .str nm, .sl .fit 0 0 fun x => [], .sl .no 5 0 g], [codO D]))) (none) := by kernel_rfl
set_option maxRecDepth 100000 in
theorem c_5_0 (ge : List AV → List AO → Bool) (ve : List AV → List AO → Int × CODES) (gu : List AV → List AO → Bool) (vu : List AV → List AO → Int × CODES) (op : Int) (kd nm : List UInt8) (m : Nat) (gv : Nat → List AV) (g : Nat → List AV) (C D : CODES) {t1 : Int × CODES} (h_t1 : ve [.ref 1000000 0, .int .i64 7] [codO D] = t1) {t2 : Int × CODES} (h_t2 : vu [.ref 1000000 0] [codO (Prod.snd (bif argN 10 [.ref 1000000 0, .int .i64 7] then (5, D) else t1))] = t2) : runF (V4.run [mkE 19 ge (fun l os => cond (argN 10 l) (5, D) (ve l os)) φX, mkE 51 gu vu φX] 1 [] [] [([1, 0, 1, 0, 1], fun _ _ => none)] 14) 9 14 [.ref keyBase 0, .agg (xc op kd nm m gv 0 g)] [codO C] =
  cond (ge [.ref 1000000 0, .int .i64 10] [codO C]) (cond (ge [.ref 1000000 0, .int .i64 7] [codO D]) (cond (gu [.ref 1000000 0] [codO (Prod.snd (bif argN 10 [.ref 1000000 0, .int .i64 7] then (5, D) else t1))]) (some ((.agg [.int .i64 op, .str kd, .str nm, .sl .fit 4 1 (fillGet [.int .i64 0, .int .i64 0, .str [], .sl .fit 0 0 fun x => [] ] [(0, .agg [.int .i64 (Prod.fst (bif argN 10 [.ref 1000000 0, .int .i64 7] then (5, D) else t1)), .int .i64 (Prod.fst t2), .str [], .sl .fit 0 0 fun x => [] ])]), .sl .no 5 0 g], [codO (Prod.snd t2)]))) (none)) (none)) (none) := by subst h_t2 h_t1; kernel_rfl
set_option maxRecDepth 100000 in
theorem c_6_0 (ge : List AV → List AO → Bool) (ve : List AV → List AO → Int × CODES) (gt : List AV → List AO → Bool) (vt : List AV → List AO → EXP × CODES) (op : Int) (kd nm : List UInt8) (m : Nat) (gv : Nat → List AV) (g : Nat → List AV) (C D : CODES) {t1 : EXP × CODES} (h_t1 : vt [.ref 1000000 0] [codO D] = t1) : runF (V4.run [mkE 19 ge (fun l os => cond (argN 10 l) (6, D) (ve l os)) φX, mkE 47 gt vt φC] 1 [] [] [([1, 0, 1, 0, 1], fun _ _ => none)] 14) 9 14 [.ref keyBase 0, .agg (xc op kd nm m gv 0 g)] [codO C] =
  cond (ge [.ref 1000000 0, .int .i64 10] [codO C]) (cond (gt [.ref 1000000 0] [codO D]) (some ((.agg (xc op kd nm m gv 1 (appGet 0 1 (appGet 0 0 (fun x => []) g) (fillGet ex0 [(0, .agg (eC (Prod.fst t1)))]))), [codO (Prod.snd t1)]))) (none)) (none) := by subst h_t1; kernel_rfl
set_option maxRecDepth 100000 in
theorem c_7_0 (ge : List AV → List AO → Bool) (ve : List AV → List AO → Int × CODES) (g1 : St → Bool) (v1 : St → EXP × CODES) (wn : Vw) (op : Int) (kd nm : List UInt8) (m : Nat) (gv : Nat → List AV) (g : Nat → List AV) (C D : CODES) {t1 : EXP × CODES} (h_t1 : v1 { env := [(0, .ref 1000000 0), (3, .ref 3 0), (4, .ref 4 0), (6, .int .i64 0)], objs := [(3, .cells (xc op kd nm m gv 0 g)), (4, .cells ex0), (1000000, codO D)] } = t1) : runF (V4.run [mkE 19 ge (fun l os => cond (argN 10 l) (7, D) (ve l os)) φX] 1 [] [([1, 1, 0, 1, 0, 1, 1, 1, 1, 1, 1, 1, 1, 1, 1, 1, 1, 1, 1, 1, 0, 1, 0], mkO g1 v1 outN)] [([1, 0, 1, 0, 1], fun _ _ => none), ([1, 1, 0, 1, 0, 1, 1, 1, 1, 1, 1, 1, 1, 1, 1, 1, 1, 1, 1, 1, 0, 1, 0, 0, 1, 1], wn)] 14) 9 14 [.ref keyBase 0, .agg (xc op kd nm m gv 0 g)] [codO C] =
  cond (ge [.ref 1000000 0, .int .i64 10] [codO C]) (cond (g1 { env := [(0, .ref 1000000 0), (3, .ref 3 0), (4, .ref 4 0), (6, .int .i64 0)], objs := [(3, .cells (xc op kd nm m gv 0 g)), (4, .cells ex0), (1000000, codO D)] }) (some ((.agg (eC (Prod.fst t1)), [codO (Prod.snd t1)]))) (none)) (none) := by subst h_t1; kernel_rfl
set_option maxRecDepth 100000 in
theorem c_8_0 (ge : List AV → List AO → Bool) (ve : List AV → List AO → Int × CODES) (gt : List AV → List AO → Bool) (vt : List AV → List AO → EXP × CODES) (g1 : St → Bool) (v1 : St → KV) (wk : Vw) (op : Int) (kd nm : List UInt8) (m : Nat) (gv : Nat → List AV) (g : Nat → List AV) (C D : CODES) {t1 : KV} (h_t1 : v1 { env := [(0, .ref 1000000 0), (3, .ref 3 0), (4, .ref 4 0), (7, .ref 7 0), (8, .int .i64 0)], objs := [(3, .cells (xc op kd nm m gv 0 g)), (4, .cells ex0), (7, .cells (xc op kd nm m gv 0 g)), (1000000, codO D)] } = t1) : runF (V4.run [mkE 19 ge (fun l os => cond (argN 10 l) (8, D) (ve l os)) φX, mkE 47 gt vt φC] 1 [] [([1, 1, 0, 1, 0, 1, 1, 1, 1, 1, 1, 1, 1, 1, 1, 1, 1, 1, 1, 1, 1, 1, 0, 1, 0, 1, 0], mkO g1 v1 (outK ⟨op, kd, nm, m, gv, 0, g, D⟩))] [([1, 0, 1, 0, 1], fun _ _ => none), ([1, 1, 0, 1, 0, 1, 1, 1, 1, 1, 1, 1, 1, 1, 1, 1, 1, 1, 1, 1, 1, 1, 0, 1, 0, 1, 0, 0, 1, 1], wk)] 14) 9 14 [.ref keyBase 0, .agg (xc op kd nm m gv 0 g)] [codO C] =
  cond (ge [.ref 1000000 0, .int .i64 10] [codO C]) (cond (g1 { env := [(0, .ref 1000000 0), (3, .ref 3 0), (4, .ref 4 0), (7, .ref 7 0), (8, .int .i64 0)], objs := [(3, .cells (xc op kd nm m gv 0 g)), (4, .cells ex0), (7, .cells (xc op kd nm m gv 0 g)), (1000000, codO D)] }) (some ((.agg (xc (KV.op t1) (KV.kd t1) (KV.nm t1) (KV.m t1) (KV.gv t1) (KV.n t1 + 1) (KV.g t1)), [codO (KV.C t1)]))) (none)) (none) := by subst h_t1; kernel_rfl
set_option maxRecDepth 100000 in
theorem c_9_0 (ge : List AV → List AO → Bool) (ve : List AV → List AO → Int × CODES) (gt : List AV → List AO → Bool) (vt : List AV → List AO → EXP × CODES) (op : Int) (kd nm : List UInt8) (m : Nat) (gv : Nat → List AV) (g : Nat → List AV) (C D : CODES) {t1 : EXP × CODES} (h_t1 : vt [.ref 1000000 0] [codO D] = t1) : runF (V4.run [mkE 19 ge (fun l os => cond (argN 10 l) (9, D) (ve l os)) φX, mkE 47 gt vt φC] 1 [] [] [([1, 0, 1, 0, 1], fun _ _ => none)] 14) 9 14 [.ref keyBase 0, .agg (xc op kd nm m gv 0 g)] [codO C] =
  cond (ge [.ref 1000000 0, .int .i64 10] [codO C]) (cond (gt [.ref 1000000 0] [codO D]) (some ((.agg (exK 2 (.sl .fit 5 2 (fillGet ex0 [(0, .agg (xc op kd nm m gv 0 g)), (1, .agg (eC (Prod.fst t1)))]))), [codO (Prod.snd t1)]))) (none)) (none) := by subst h_t1; kernel_rfl
set_option maxRecDepth 100000 in
theorem c_0_1 (ge : List AV → List AO → Bool) (ve : List AV → List AO → Int × CODES) (op : Int) (kd nm : List UInt8) (m : Nat) (gv : Nat → List AV) (q : Nat) (g : Nat → List AV) (C D : CODES) {t1 : Int × CODES} (h_t1 : ve [.ref 1000000 0, .int .i64 3] [codO C] = t1) {t2 : Int × CODES} (h_t2 : ve [.ref 1000000 0, .int .i64 18] [codO D] = t2) : runF (V4.run [mkE 19 ge (fun l os => cond (argN 10 l) (0, D) (ve l os)) φX] 1 [] [] [([1, 0, 1, 0, 1], fun _ _ => none)] 14) 9 14 [.ref keyBase 0, .agg (xc op kd nm m gv (q + 1) g)] [codO C] =
  cond (decide ((↑(q + 1) : Int) > 0)) (cond (ge [.ref 1000000 0, .int .i64 3] [codO C]) (cond (bif true then decide (Prod.fst (bif argN 10 [.ref 1000000 0, .int .i64 3] then (0, D) else t1) > 0) else false) (cond (roomy (88) (0 + (q + 1))) (none) (none)) (cond (ge [.ref 1000000 0, .int .i64 10] [codO (Prod.snd (bif argN 10 [.ref 1000000 0, .int .i64 3] then (0, D) else t1))]) (cond (ge [.ref 1000000 0, .int .i64 18] [codO D]) (some ((.agg (xc (IntKind.wrap IntKind.i64 (Prod.fst (bif argN 10 [.ref 1000000 0, .int .i64 18] then (0, D) else t2) - 1)) kd nm m gv (q + 1) g), [codO (Prod.snd (bif argN 10 [.ref 1000000 0, .int .i64 18] then (0, D) else t2))]))) (none)) (none))) (none)) (cond (ge [.ref 1000000 0, .int .i64 10] [codO C]) (cond (ge [.ref 1000000 0, .int .i64 18] [codO D]) (some ((.agg (xc (IntKind.wrap IntKind.i64 (Prod.fst (bif argN 10 [.ref 1000000 0, .int .i64 18] then (0, D) else t2) - 1)) kd nm m gv (q + 1) g), [codO (Prod.snd (bif argN 10 [.ref 1000000 0, .int .i64 18] then (0, D) else t2))]))) (none)) (none)) := by subst h_t2 h_t1; kernel_rfl
set_option maxRecDepth 100000 in
theorem c_1_1 (ge : List AV → List AO → Bool) (ve : List AV → List AO → Int × CODES) (gn : List AV → List AO → Bool) (vn : List AV → List AO → List UInt8 × CODES) (op : Int) (kd nm : List UInt8) (m : Nat) (gv : Nat → List AV) (q : Nat) (g : Nat → List AV) (C D : CODES) {t1 : Int × CODES} (h_t1 : ve [.ref 1000000 0, .int .i64 3] [codO C] = t1) {t2 : List UInt8 × CODES} (h_t2 : vn [.ref 1000000 0] [codO D] = t2) : runF (V4.run [mkE 19 ge (fun l os => cond (argN 10 l) (1, D) (ve l os)) φX, mkE 50 gn vn φT] 1 [] [] [([1, 0, 1, 0, 1], fun _ _ => none)] 14) 9 14 [.ref keyBase 0, .agg (xc op kd nm m gv (q + 1) g)] [codO C] =
  cond (decide ((↑(q + 1) : Int) > 0)) (cond (ge [.ref 1000000 0, .int .i64 3] [codO C]) (cond (bif true then decide (Prod.fst (bif argN 10 [.ref 1000000 0, .int .i64 3] then (1, D) else t1) > 0) else false) (cond (roomy (88) (0 + (q + 1))) (none) (none)) (cond (ge [.ref 1000000 0, .int .i64 10] [codO (Prod.snd (bif argN 10 [.ref 1000000 0, .int .i64 3] then (1, D) else t1))]) (cond (gn [.ref 1000000 0] [codO D]) (some ((.agg (xc op (Prod.fst t2) nm m gv (q + 1) g), [codO (Prod.snd t2)]))) (none)) (none))) (none)) (cond (ge [.ref 1000000 0, .int .i64 10] [codO C]) (cond (gn [.ref 1000000 0] [codO D]) (some ((.agg (xc op (Prod.fst t2) nm m gv (q + 1) g), [codO (Prod.snd t2)]))) (none)) (none)) := by subst h_t2 h_t1; kernel_rfl
set_option maxRecDepth 100000 in
theorem c_2_1 (ge : List AV → List AO → Bool) (ve : List AV → List AO → Int × CODES) (gn : List AV → List AO → Bool) (vn : List AV → List AO → List UInt8 × CODES) (op : Int) (kd nm : List UInt8) (m : Nat) (gv : Nat → List AV) (q : Nat) (g : Nat → List AV) (C D : CODES) {t1 : Int × CODES} (h_t1 : ve [.ref 1000000 0, .int .i64 3] [codO C] = t1) {t2 : List UInt8 × CODES} (h_t2 : vn [.ref 1000000 0] [codO D] = t2) : runF (V4.run [mkE 19 ge (fun l os => cond (argN 10 l) (2, D) (ve l os)) φX, mkE 50 gn vn φT] 1 [] [] [([1, 0, 1, 0, 1], fun _ _ => none)] 14) 9 14 [.ref keyBase 0, .agg (xc op kd nm m gv (q + 1) g)] [codO C] =
  cond (decide ((↑(q + 1) : Int) > 0)) (cond (ge [.ref 1000000 0, .int .i64 3] [codO C]) (cond (bif true then decide (Prod.fst (bif argN 10 [.ref 1000000 0, .int .i64 3] then (2, D) else t1) > 0) else false) (cond (roomy (88) (0 + (q + 1))) (none) (none)) (cond (ge [.ref 1000000 0, .int .i64 10] [codO (Prod.snd (bif argN 10 [.ref 1000000 0, .int .i64 3] then (2, D) else t1))]) (cond (gn [.ref 1000000 0] [codO D]) (some ((.agg (xc op kd (Prod.fst t2) m gv (q + 1) g), [codO (Prod.snd t2)]))) (none)) (none))) (none)) (cond (ge [.ref 1000000 0, .int .i64 10] [codO C]) (cond (gn [.ref 1000000 0] [codO D]) (some ((.agg (xc op kd (Prod.fst t2) m gv (q + 1) g), [codO (Prod.snd t2)]))) (none)) (none)) := by subst h_t2 h_t1; kernel_rfl
set_option maxRecDepth 100000 in
theorem c_3_10 (ge : List AV → List AO → Bool) (ve : List AV → List AO → Int × CODES) (ga : List AV → List AO → Bool) (va : List AV → List AO → VAL × CODES) (op : Int) (kd nm : List UInt8) (gv : Nat → List AV) (q : Nat) (g : Nat → List AV) (C D : CODES) {t1 : Int × CODES} (h_t1 : ve [.ref 1000000 0, .int .i64 3] [codO C] = t1) {t2 : VAL × CODES} (h_t2 : va [.ref 1000000 0] [codO D] = t2) : runF (V4.run [mkE 19 ge (fun l os => cond (argN 10 l) (3, D) (ve l os)) φX, mkE 29 ga va φV] 1 [] [] [([1, 0, 1, 0, 1], fun _ _ => none)] 14) 9 14 [.ref keyBase 0, .agg (xc op kd nm 0 gv (q + 1) g)] [codO C] =
  cond (decide ((↑(q + 1) : Int) > 0)) (cond (ge [.ref 1000000 0, .int .i64 3] [codO C]) (cond (bif true then decide (Prod.fst (bif argN 10 [.ref 1000000 0, .int .i64 3] then (3, D) else t1) > 0) else false) (cond (roomy (88) (0 + (q + 1))) (none) (none)) (cond (ge [.ref 1000000 0, .int .i64 10] [codO (Prod.snd (bif argN 10 [.ref 1000000 0, .int .i64 3] then (3, D) else t1))]) (cond (ga [.ref 1000000 0] [codO D]) (some ((.agg (xc op kd nm 1 (appGet 0 1 (appGet 0 0 (fun x => []) gv) (fillGet [.int .i64 0, .int .i64 0, .str [], .sl .fit 0 0 fun x => [] ] [(0, .agg (VAL.c (Prod.fst t2)))])) (q + 1) g), [codO (Prod.snd t2)]))) (none)) (none))) (none)) (cond (ge [.ref 1000000 0, .int .i64 10] [codO C]) (cond (ga [.ref 1000000 0] [codO D]) (some ((.agg (xc op kd nm 1 (appGet 0 1 (appGet 0 0 (fun x => []) gv) (fillGet [.int .i64 0, .int .i64 0, .str [], .sl .fit 0 0 fun x => [] ] [(0, .agg (VAL.c (Prod.fst t2)))])) (q + 1) g), [codO (Prod.snd t2)]))) (none)) (none)) := by subst h_t2 h_t1; kernel_rfl
set_option maxRecDepth 100000 in
theorem c_3_11 (ge : List AV → List AO → Bool) (ve : List AV → List AO → Int × CODES) (ga : List AV → List AO → Bool) (va : List AV → List AO → VAL × CODES) (op : Int) (kd nm : List UInt8) (p : Nat) (gv : Nat → List AV) (q : Nat) (g : Nat → List AV) (C D : CODES) {t1 : Int × CODES} (h_t1 : ve [.ref 1000000 0, .int .i64 3] [codO C] = t1) {t2 : VAL × CODES} (h_t2 : va [.ref 1000000 0] [codO D] = t2) : runF (V4.run [mkE 19 ge (fun l os => cond (argN 10 l) (3, D) (ve l os)) φX, mkE 29 ga va φV] 1 [] [] [([1, 0, 1, 0, 1], fun _ _ => none)] 14) 9 14 [.ref keyBase 0, .agg (xc op kd nm (p + 1) gv (q + 1) g)] [codO C] =
  cond (decide ((↑(q + 1) : Int) > 0)) (cond (ge [.ref 1000000 0, .int .i64 3] [codO C]) (cond (bif true then decide (Prod.fst (bif argN 10 [.ref 1000000 0, .int .i64 3] then (3, D) else t1) > 0) else false) (cond (roomy (88) (0 + (q + 1))) (none) (none)) (cond (ge [.ref 1000000 0, .int .i64 10] [codO (Prod.snd (bif argN 10 [.ref 1000000 0, .int .i64 3] then (3, D) else t1))]) (cond (roomy (56) (0 + (p + 1))) (cond (ga [.ref 1000000 0] [codO D]) (cond (roomy (56) (0 + (p + 1) + 1) && Nat.beq (0 + (p + 1)) (0 + (p + 1))) (some ((.agg (xc op kd nm (0 + (p + 1) + 1) (appGet (0 + (p + 1)) 1 (appGet 0 (p + 1) (fun x => []) gv) (fillGet [.int .i64 0, .int .i64 0, .str [], .sl .fit 0 0 fun x => [] ] [(0, .agg (VAL.c (Prod.fst t2)))])) (q + 1) g), [codO (Prod.snd t2)]))) (none)) (none)) (none)) (none))) (none)) (cond (ge [.ref 1000000 0, .int .i64 10] [codO C]) (cond (roomy (56) (0 + (p + 1))) (cond (ga [.ref 1000000 0] [codO D]) (cond (roomy (56) (0 + (p + 1) + 1) && Nat.beq (0 + (p + 1)) (0 + (p + 1))) (some ((.agg (xc op kd nm (0 + (p + 1) + 1) (appGet (0 + (p + 1)) 1 (appGet 0 (p + 1) (fun x => []) gv) (fillGet [.int .i64 0, .int .i64 0, .str [], .sl .fit 0 0 fun x => [] ] [(0, .agg (VAL.c (Prod.fst t2)))])) (q + 1) g), [codO (Prod.snd t2)]))) (none)) (none)) (none)) (none)) := by subst h_t2 h_t1; kernel_rfl
set_option maxRecDepth 100000 in
theorem c_4_1 (ge : List AV → List AO → Bool) (ve : List AV → List AO → Int × CODES) (op : Int) (kd nm : List UInt8) (m : Nat) (gv : Nat → List AV) (q : Nat) (g : Nat → List AV) (C D : CODES) {t1 : Int × CODES} (h_t1 : ve [.ref 1000000 0, .int .i64 3] [codO C] = t1) : runF (V4.run [mkE 19 ge (fun l os => cond (argN 10 l) (4, D) (ve l os)) φX] 1 [] [] [([1, 0, 1, 0, 1], fun _ _ => none)] 14) 9 14 [.ref keyBase 0, .agg (xc op kd nm m gv (q + 1) g)] [codO C] =
  cond (decide ((↑(q + 1) : Int) > 0)) (cond (ge [.ref 1000000 0, .int .i64 3] [codO C]) (cond (bif true then decide (Prod.fst (bif argN 10 [.ref 1000000 0, .int .i64 3] then (4, D) else t1) > 0) else false) (cond (roomy (88) (0 + (q + 1))) (none) (none)) (cond (ge [.ref 1000000 0, .int .i64 10] [codO (Prod.snd (bif argN 10 [.ref 1000000 0, .int .i64 3] then (4, D) else t1))]) (some ((.agg [.int .i64 op, .str kd, .str nm, .sl .fit 0 0 fun x => [], .sl .no 5 (q + 1) g], [codO D]))) (none))) (none)) (cond (ge [.ref 1000000 0, .int .i64 10] [codO C]) (some ((.agg [.int .i64 op, .str kd, .str nm, .sl .fit 0 0 fun x => [], .sl .no 5 (q + 1) g], [codO D]))) (none)) := by subst h_t1; kernel_rfl
set_option maxRecDepth 100000 in
theorem c_5_1 (ge : List AV → List AO → Bool) (ve : List AV → List AO → Int × CODES) (gu : List AV → List AO → Bool) (vu : List AV → List AO → Int × CODES) (op : Int) (kd nm : List UInt8) (m : Nat) (gv : Nat → List AV) (q : Nat) (g : Nat → List AV) (C D : CODES) {t1 : Int × CODES} (h_t1 : ve [.ref 1000000 0, .int .i64 3] [codO C] = t1) {t2 : Int × CODES} (h_t2 : ve [.ref 1000000 0, .int .i64 7] [codO D] = t2) {t3 : Int × CODES} (h_t3 : vu [.ref 1000000 0] [codO (Prod.snd (bif argN 10 [.ref 1000000 0, .int .i64 7] then (5, D) else t2))] = t3) : runF (V4.run [mkE 19 ge (fun l os => cond (argN 10 l) (5, D) (ve l os)) φX, mkE 51 gu vu φX] 1 [] [] [([1, 0, 1, 0, 1], fun _ _ => none)] 14) 9 14 [.ref keyBase 0, .agg (xc op kd nm m gv (q + 1) g)] [codO C] =
  cond (decide ((↑(q + 1) : Int) > 0)) (cond (ge [.ref 1000000 0, .int .i64 3] [codO C]) (cond (bif true then decide (Prod.fst (bif argN 10 [.ref 1000000 0, .int .i64 3] then (5, D) else t1) > 0) else false) (cond (roomy (88) (0 + (q + 1))) (none) (none)) (cond (ge [.ref 1000000 0, .int .i64 10] [codO (Prod.snd (bif argN 10 [.ref 1000000 0, .int .i64 3] then (5, D) else t1))]) (cond (ge [.ref 1000000 0, .int .i64 7] [codO D]) (cond (gu [.ref 1000000 0] [codO (Prod.snd (bif argN 10 [.ref 1000000 0, .int .i64 7] then (5, D) else t2))]) (some ((.agg [.int .i64 op, .str kd, .str nm, .sl .fit 4 1 (fillGet [.int .i64 0, .int .i64 0, .str [], .sl .fit 0 0 fun x => [] ] [(0, .agg [.int .i64 (Prod.fst (bif argN 10 [.ref 1000000 0, .int .i64 7] then (5, D) else t2)), .int .i64 (Prod.fst t3), .str [], .sl .fit 0 0 fun x => [] ])]), .sl .no 5 (q + 1) g], [codO (Prod.snd t3)]))) (none)) (none)) (none))) (none)) (cond (ge [.ref 1000000 0, .int .i64 10] [codO C]) (cond (ge [.ref 1000000 0, .int .i64 7] [codO D]) (cond (gu [.ref 1000000 0] [codO (Prod.snd (bif argN 10 [.ref 1000000 0, .int .i64 7] then (5, D) else t2))]) (some ((.agg [.int .i64 op, .str kd, .str nm, .sl .fit 4 1 (fillGet [.int .i64 0, .int .i64 0, .str [], .sl .fit 0 0 fun x => [] ] [(0, .agg [.int .i64 (Prod.fst (bif argN 10 [.ref 1000000 0, .int .i64 7] then (5, D) else t2)), .int .i64 (Prod.fst t3), .str [], .sl .fit 0 0 fun x => [] ])]), .sl .no 5 (q + 1) g], [codO (Prod.snd t3)]))) (none)) (none)) (none)) := by subst h_t3 h_t2 h_t1; kernel_rfl
set_option maxRecDepth 100000 in
theorem c_6_1 (ge : List AV → List AO → Bool) (ve : List AV → List AO → Int × CODES) (gt : List AV → List AO → Bool) (vt : List AV → List AO → EXP × CODES) (op : Int) (kd nm : List UInt8) (m : Nat) (gv : Nat → List AV) (q : Nat) (g : Nat → List AV) (C D : CODES) {t1 : Int × CODES} (h_t1 : ve [.ref 1000000 0, .int .i64 3] [codO C] = t1) {t2 : EXP × CODES} (h_t2 : vt [.ref 1000000 0] [codO D] = t2) : runF (V4.run [mkE 19 ge (fun l os => cond (argN 10 l) (6, D) (ve l os)) φX, mkE 47 gt vt φC] 1 [] [] [([1, 0, 1, 0, 1], fun _ _ => none)] 14) 9 14 [.ref keyBase 0, .agg (xc op kd nm m gv (q + 1) g)] [codO C] =
  cond (decide ((↑(q + 1) : Int) > 0)) (cond (ge [.ref 1000000 0, .int .i64 3] [codO C]) (cond (bif true then decide (Prod.fst (bif argN 10 [.ref 1000000 0, .int .i64 3] then (6, D) else t1) > 0) else false) (cond (roomy (88) (0 + (q + 1))) (none) (none)) (cond (ge [.ref 1000000 0, .int .i64 10] [codO (Prod.snd (bif argN 10 [.ref 1000000 0, .int .i64 3] then (6, D) else t1))]) (cond (roomy (88) (0 + (q + 1))) (cond (gt [.ref 1000000 0] [codO D]) (cond (roomy (88) (0 + (q + 1) + 1) && Nat.beq (0 + (q + 1)) (0 + (q + 1))) (some ((.agg (xc op kd nm m gv (0 + (q + 1) + 1) (appGet (0 + (q + 1)) 1 (appGet 0 (q + 1) (fun x => []) g) (fillGet ex0 [(0, .agg (eC (Prod.fst t2)))]))), [codO (Prod.snd t2)]))) (none)) (none)) (none)) (none))) (none)) (cond (ge [.ref 1000000 0, .int .i64 10] [codO C]) (cond (roomy (88) (0 + (q + 1))) (cond (gt [.ref 1000000 0] [codO D]) (cond (roomy (88) (0 + (q + 1) + 1) && Nat.beq (0 + (q + 1)) (0 + (q + 1))) (some ((.agg (xc op kd nm m gv (0 + (q + 1) + 1) (appGet (0 + (q + 1)) 1 (appGet 0 (q + 1) (fun x => []) g) (fillGet ex0 [(0, .agg (eC (Prod.fst t2)))]))), [codO (Prod.snd t2)]))) (none)) (none)) (none)) (none)) := by subst h_t2 h_t1; kernel_rfl
set_option maxRecDepth 100000 in
theorem c_7_1 (ge : List AV → List AO → Bool) (ve : List AV → List AO → Int × CODES) (g1 : St → Bool) (v1 : St → EXP × CODES) (wn : Vw) (op : Int) (kd nm : List UInt8) (m : Nat) (gv : Nat → List AV) (q : Nat) (g : Nat → List AV) (C D : CODES) {t1 : Int × CODES} (h_t1 : ve [.ref 1000000 0, .int .i64 3] [codO C] = t1) {t2 : EXP × CODES} (h_t2 : v1 { env := [(0, .ref 1000000 0), (3, .ref 3 0), (4, .ref 4 0), (6, .int .i64 0)], objs := [(3, .cells (xc op kd nm m gv (q + 1) g)), (4, .cells ex0), (1000000, codO D)] } = t2) : runF (V4.run [mkE 19 ge (fun l os => cond (argN 10 l) (7, D) (ve l os)) φX] 1 [] [([1, 1, 0, 1, 0, 1, 1, 1, 1, 1, 1, 1, 1, 1, 1, 1, 1, 1, 1, 1, 0, 1, 0], mkO g1 v1 outN)] [([1, 0, 1, 0, 1], fun _ _ => none), ([1, 1, 0, 1, 0, 1, 1, 1, 1, 1, 1, 1, 1, 1, 1, 1, 1, 1, 1, 1, 0, 1, 0, 0, 1, 1], wn)] 14) 9 14 [.ref keyBase 0, .agg (xc op kd nm m gv (q + 1) g)] [codO C] =
  cond (decide ((↑(q + 1) : Int) > 0)) (cond (ge [.ref 1000000 0, .int .i64 3] [codO C]) (cond (bif true then decide (Prod.fst (bif argN 10 [.ref 1000000 0, .int .i64 3] then (7, D) else t1) > 0) else false) (cond (roomy (88) (0 + (q + 1))) (none) (none)) (cond (ge [.ref 1000000 0, .int .i64 10] [codO (Prod.snd (bif argN 10 [.ref 1000000 0, .int .i64 3] then (7, D) else t1))]) (cond (g1 { env := [(0, .ref 1000000 0), (3, .ref 3 0), (4, .ref 4 0), (6, .int .i64 0)], objs := [(3, .cells (xc op kd nm m gv (q + 1) g)), (4, .cells ex0), (1000000, codO D)] }) (some ((.agg (eC (Prod.fst t2)), [codO (Prod.snd t2)]))) (none)) (none))) (none)) (cond (ge [.ref 1000000 0, .int .i64 10] [codO C]) (cond (g1 { env := [(0, .ref 1000000 0), (3, .ref 3 0), (4, .ref 4 0), (6, .int .i64 0)], objs := [(3, .cells (xc op kd nm m gv (q + 1) g)), (4, .cells ex0), (1000000, codO D)] }) (some ((.agg (eC (Prod.fst t2)), [codO (Prod.snd t2)]))) (none)) (none)) := by subst h_t2 h_t1; kernel_rfl
set_option maxRecDepth 100000 in
theorem c_8_1 (ge : List AV → List AO → Bool) (ve : List AV → List AO → Int × CODES) (gt : List AV → List AO → Bool) (vt : List AV → List AO → EXP × CODES) (g1 : St → Bool) (v1 : St → KV) (wk : Vw) (op : Int) (kd nm : List UInt8) (m : Nat) (gv : Nat → List AV) (q : Nat) (g : Nat → List AV) (C D : CODES) {t1 : Int × CODES} (h_t1 : ve [.ref 1000000 0, .int .i64 3] [codO C] = t1) {t2 : KV} (h_t2 : v1 { env := [(0, .ref 1000000 0), (3, .ref 3 0), (4, .ref 4 0), (7, .ref 7 0), (8, .int .i64 0)], objs := [(3, .cells (xc op kd nm m gv (q + 1) g)), (4, .cells ex0), (7, .cells (xc op kd nm m gv (q + 1) g)), (1000000, codO D)] } = t2) : runF (V4.run [mkE 19 ge (fun l os => cond (argN 10 l) (8, D) (ve l os)) φX, mkE 47 gt vt φC] 1 [] [([1, 1, 0, 1, 0, 1, 1, 1, 1, 1, 1, 1, 1, 1, 1, 1, 1, 1, 1, 1, 1, 1, 0, 1, 0, 1, 0], mkO g1 v1 (outK ⟨op, kd, nm, m, gv, (q + 1), g, D⟩))] [([1, 0, 1, 0, 1], fun _ _ => none), ([1, 1, 0, 1, 0, 1, 1, 1, 1, 1, 1, 1, 1, 1, 1, 1, 1, 1, 1, 1, 1, 1, 0, 1, 0, 1, 0, 0, 1, 1], wk)] 14) 9 14 [.ref keyBase 0, .agg (xc op kd nm m gv (q + 1) g)] [codO C] =
  cond (decide ((↑(q + 1) : Int) > 0)) (cond (ge [.ref 1000000 0, .int .i64 3] [codO C]) (cond (bif true then decide (Prod.fst (bif argN 10 [.ref 1000000 0, .int .i64 3] then (8, D) else t1) > 0) else false) (cond (roomy (88) (0 + (q + 1))) (none) (none)) (cond (ge [.ref 1000000 0, .int .i64 10] [codO (Prod.snd (bif argN 10 [.ref 1000000 0, .int .i64 3] then (8, D) else t1))]) (cond (g1 { env := [(0, .ref 1000000 0), (3, .ref 3 0), (4, .ref 4 0), (7, .ref 7 0), (8, .int .i64 0)], objs := [(3, .cells (xc op kd nm m gv (q + 1) g)), (4, .cells ex0), (7, .cells (xc op kd nm m gv (q + 1) g)), (1000000, codO D)] }) (some ((.agg (xc (KV.op t2) (KV.kd t2) (KV.nm t2) (KV.m t2) (KV.gv t2) (KV.n t2 + 1) (KV.g t2)), [codO (KV.C t2)]))) (none)) (none))) (none)) (cond (ge [.ref 1000000 0, .int .i64 10] [codO C]) (cond (g1 { env := [(0, .ref 1000000 0), (3, .ref 3 0), (4, .ref 4 0), (7, .ref 7 0), (8, .int .i64 0)], objs := [(3, .cells (xc op kd nm m gv (q + 1) g)), (4, .cells ex0), (7, .cells (xc op kd nm m gv (q + 1) g)), (1000000, codO D)] }) (some ((.agg (xc (KV.op t2) (KV.kd t2) (KV.nm t2) (KV.m t2) (KV.gv t2) (KV.n t2 + 1) (KV.g t2)), [codO (KV.C t2)]))) (none)) (none)) := by subst h_t2 h_t1; kernel_rfl
set_option maxRecDepth 100000 in
theorem c_9_1 (ge : List AV → List AO → Bool) (ve : List AV → List AO → Int × CODES) (gt : List AV → List AO → Bool) (vt : List AV → List AO → EXP × CODES) (op : Int) (kd nm : List UInt8) (m : Nat) (gv : Nat → List AV) (q : Nat) (g : Nat → List AV) (C D : CODES) {t1 : Int × CODES} (h_t1 : ve [.ref 1000000 0, .int .i64 3] [codO C] = t1) {t2 : EXP × CODES} (h_t2 : vt [.ref 1000000 0] [codO D] = t2) : runF (V4.run [mkE 19 ge (fun l os => cond (argN 10 l) (9, D) (ve l os)) φX, mkE 47 gt vt φC] 1 [] [] [([1, 0, 1, 0, 1], fun _ _ => none)] 14) 9 14 [.ref keyBase 0, .agg (xc op kd nm m gv (q + 1) g)] [codO C] =
  cond (decide ((↑(q + 1) : Int) > 0)) (cond (ge [.ref 1000000 0, .int .i64 3] [codO C]) (cond (bif true then decide (Prod.fst (bif argN 10 [.ref 1000000 0, .int .i64 3] then (9, D) else t1) > 0) else false) (cond (roomy (88) (0 + (q + 1))) (none) (none)) (cond (ge [.ref 1000000 0, .int .i64 10] [codO (Prod.snd (bif argN 10 [.ref 1000000 0, .int .i64 3] then (9, D) else t1))]) (cond (gt [.ref 1000000 0] [codO D]) (some ((.agg (exK 2 (.sl .fit 5 2 (fillGet ex0 [(0, .agg (xc op kd nm m gv (q + 1) g)), (1, .agg (eC (Prod.fst t2)))]))), [codO (Prod.snd t2)]))) (none)) (none))) (none)) (cond (ge [.ref 1000000 0, .int .i64 10] [codO C]) (cond (gt [.ref 1000000 0] [codO D]) (some ((.agg (exK 2 (.sl .fit 5 2 (fillGet ex0 [(0, .agg (xc op kd nm m gv (q + 1) g)), (1, .agg (eC (Prod.fst t2)))]))), [codO (Prod.snd t2)]))) (none)) (none)) := by subst h_t2 h_t1; kernel_rfl
end Go.SH

namespace Go.SH
open Go Go.Ab Go.Proofs
set_option linter.unusedVariables false
set_option linter.unusedSimpArgs false
theorem mixed4 : V4.P.follows .mixedOrders = true := mixed
theorem funcs4 : FuncsOk V4.P := funcs
theorem list_of {α : Type} [Inhabited α] {P : Nat → α → Prop} : ∀ n, (∀ j, j < n → ∃ x, P j x) → ∃ l : List α, l.length = n ∧ ∀ j, j < n → P j (l.getD j default)
  | 0, _ => ⟨[], rfl, fun j hj => absurd hj (by omega)⟩
  | n + 1, h => by
    obtain ⟨l, hl, hP⟩ := list_of n fun j hj => h j (by omega)
    obtain ⟨x, hx⟩ := h n (by omega)
    refine ⟨l ++ [x], by simp [hl], fun j hj => ?_⟩
    by_cases hj' : j < n
    · rw [show (l ++ [x]).getD j default = l.getD j default by simp [List.getD, List.getElem?_append_left (by omega : j < l.length)]]
      exact hP j hj'
    · obtain rfl : j = n := by omega
      rw [show (l ++ [x]).getD j default = x by simp [List.getD, ← hl]]
      exact hx
inductive Fit (b : Nat) : EXP → Prop
  | mk (e : EXP) : lenS e.kind → lenS e.name → e.vals.length ≤ b → (∀ v ∈ e.vals, v.Ok) → e.kids.length ≤ b → (∀ k ∈ e.kids, Fit b k) → Fit b e
theorem Fit.ok {b : Nat} (hb : b ≤ 1048576) {e : EXP} (h : Fit b e) : e.Ok := by
  induction h with
  | mk e h1 h2 h3 h4 h5 _ ih => exact .mk e h1 h2 ⟨by omega, h4⟩ (Nat.le_trans h5 hb) ih
theorem Fit.mono {b b' : Nat} (hb : b ≤ b') {e : EXP} (h : Fit b e) : Fit b' e := by
  induction h with
  | mk e h1 h2 h3 h4 h5 _ ih => exact .mk e h1 h2 (Nat.le_trans h3 hb) h4 (Nat.le_trans h5 hb) ih
theorem VE.fit {l : Nat} {e : EXP} (h : VE l e) (ho : e.Ok) : Fit 20 e := by
  induction h with
  | mk l e h1 h2 ih =>
    cases ho with
    | mk _ o1 o2 o3 o4 o5 =>
      have hp : e.part.n ≤ 12 ∧ e.part.vals.length ≤ 20 := by
        unfold partE at h1
        by_cases hc : (decide (e.part.n > 12) || decide (e.part.vals.length > 20)) = true
        · rw [hc] at h1
          cases h5 : (decide (e.part.op < 1) || decide (e.part.op > 15)) <;> cases h6 : !countB e.part <;> simp [h5, h6] at h1
        · simp only [Bool.or_eq_true, decide_eq_true_eq, not_or] at hc
          omega
      exact .mk e o1 o2 hp.2 o3.2 (show e.part.n ≤ 20 by omega) fun k hk => ih k hk (o5 k hk)
def TA (u u' : AV) : Prop := u'.one = true ∧ ∀ c x, Rep c u x → Rep c u' x
def rowV (a : List AV) : Prop := ∃ v : VAL, v.Ok ∧ Tells a v.c
def rowX (b : Nat) (a : List AV) : Prop := ∃ e : EXP, Fit b e ∧ Tells a (eC e)
theorem tells_same (a : List AV) (h : ∀ (i : Nat) (u : AV), a[i]? = some u → u.one = true) : Tells a a := fun i u u' h1 h2 => by
  rw [h1] at h2
  simp only [Option.some.injEq] at h2
  subst h2
  exact ⟨h i _ h1, fun _ _ h => h⟩
theorem valC_one {v : VAL} {i : Nat} {u : AV} (h : v.c[i]? = some u) : u.one = true := by
  match i with
  | 0 => simp [VAL.c] at h; subst h; rfl
  | 1 => simp [VAL.c] at h; subst h; rfl
  | 2 => simp [VAL.c] at h; subst h; rfl
  | 3 => simp [VAL.c] at h; subst h; rfl
  | i + 4 => simp [VAL.c] at h
theorem rowV_c {v : VAL} (h : v.Ok) : rowV v.c := ⟨v, h, tells_same _ fun i u => valC_one⟩
theorem rowX_c {b : Nat} {e : EXP} (h : Fit b e) : rowX b (eC e) := ⟨e, h, tells_refl e⟩
theorem slV {o : Own} {m : Nat} {gv : Nat → List AV} (h : ∀ j, j < m → rowV (gv j)) : ∃ l : List VAL, l.length = m ∧ (∀ v ∈ l, v.Ok) ∧ TA (.sl o 4 m gv) (valL l) := by
  obtain ⟨l, hl, hP⟩ := list_of (P := fun j (v : VAL) => v.Ok ∧ Tells (gv j) v.c) m h
  subst hl
  refine ⟨l, rfl, fun v hv => ?_, rfl, fun c => sl_map (fun j hj => ⟨rfl, valC_keys _⟩) fun j i u u' hj h1 h2 => ⟨((hP j hj).2 i u u' h1 h2).1, fun x => ((hP j hj).2 i u u' h1 h2).2 c x⟩⟩
  obtain ⟨j, hj, rfl⟩ := List.getElem_of_mem hv
  have := (hP j hj).1
  rw [List.getD_eq_getElem?_getD, List.getElem?_eq_getElem hj] at this
  exact this
theorem slV0 {g : Nat → List AV} : TA (.sl .fit 0 0 g) (valL []) := ⟨rfl, fun _ => sl_fit⟩
theorem slX {b : Nat} {o : Own} {n : Nat} {g : Nat → List AV} (h : ∀ j, j < n → rowX b (g j)) : ∃ l : List EXP, l.length = n ∧ (∀ v ∈ l, Fit b v) ∧ TA (.sl o 5 n g) (.sl .no 5 l.length (EXP.row l)) := by
  obtain ⟨l, hl, hP⟩ := list_of (P := fun j (v : EXP) => Fit b v ∧ Tells (g j) (eC v)) n h
  subst hl
  refine ⟨l, rfl, fun v hv => ?_, rfl, fun c => sl_map (fun j hj => by rw [row_eC hj]; exact ⟨rfl, expC_keys _ _ _ _ _ _⟩) fun j i u u' hj h1 h2 => by
    rw [row_eC hj] at h2
    exact ⟨((hP j hj).2 i u u' h1 h2).1, fun x => ((hP j hj).2 i u u' h1 h2).2 c x⟩⟩
  obtain ⟨j, hj, rfl⟩ := List.getElem_of_mem hv
  have := (hP j hj).1
  rw [List.getD_eq_getElem?_getD, List.getElem?_eq_getElem hj] at this
  exact this
theorem tells_x {op : Int} {kd nm : List UInt8} {a b : AV} {l : List VAL} {ks : List EXP} (ha : TA a (valL l)) (hb : TA b (.sl .no 5 ks.length (EXP.row ks))) : Tells [.int .i64 op, .str kd, .str nm, a, b] (eC (.mk op kd nm l ks)) := fun i u u' hu hu' => by
  unfold eC expC at *
  match i with
  | 0 => simp only [List.getElem?_cons_zero, Option.some.injEq] at hu hu'; subst hu hu'; exact ⟨rfl, fun _ x h => h⟩
  | 1 => simp only [List.getElem?_cons_succ, List.getElem?_cons_zero, Option.some.injEq] at hu hu'; subst hu hu'; exact ⟨rfl, fun _ x h => h⟩
  | 2 => simp only [List.getElem?_cons_succ, List.getElem?_cons_zero, Option.some.injEq] at hu hu'; subst hu hu'; exact ⟨rfl, fun _ x h => h⟩
  | 3 => simp only [List.getElem?_cons_succ, List.getElem?_cons_zero, Option.some.injEq] at hu hu'; subst hu hu'; exact ha
  | 4 => simp only [List.getElem?_cons_succ, List.getElem?_cons_zero, Option.some.injEq] at hu hu'; subst hu hu'; exact hb
  | i + 5 => simp at hu
def ccPost (b : Nat) (x : EXP × CODES) : Prop := Fit (b + 11) x.1 ∧ x.2.Ok
def kA (x : EXP × CODES) : List AV := [.ref keyBase 0, .agg (eC x.1)]
def kO (x : EXP × CODES) : List AO := [codO x.2]
theorem c_fin {b : Nat} {A : List AV} {O : List AO} {op : Int} {kd nm : List UInt8} {a3 a4 : AV} {l : List VAL} {ks : List EXP} {D : CODES} (hk : lenS kd) (hn : lenS nm) (hl : l.length ≤ b + 11) (hv : ∀ v ∈ l, v.Ok) (hks : ks.length ≤ b + 11) (hx : ∀ k ∈ ks, Fit (b + 11) k) (ha : TA a3 (valL l)) (hb : TA a4 (.sl .no 5 ks.length (EXP.row ks))) (hD : D.Ok)
    (h : Ct V2.P V2.G 14 A O (.agg [.int .i64 op, .str kd, .str nm, a3, a4], [codO D])) : ∃ x, ccPost b x ∧ Ct V2.P V2.G 14 A O (φC x) :=
  ⟨(.mk op kd nm l ks, D), ⟨.mk _ hk hn hl hv hks hx, hD⟩, tells_ct rfl (tells_x ha hb) h⟩
theorem c_finX {b : Nat} {A : List AV} {O : List AO} {op : Int} {kd nm : List UInt8} {m n : Nat} {gv g : Nat → List AV} {D : CODES} (hk : lenS kd) (hn : lenS nm) (hm : m ≤ b + 11) (hv : ∀ j, j < m → rowV (gv j)) (hn' : n ≤ b + 11) (hx : ∀ j, j < n → rowX (b + 11) (g j)) (hD : D.Ok)
    (h : Ct V2.P V2.G 14 A O (.agg (xc op kd nm m gv n g), [codO D])) : ∃ x, ccPost b x ∧ Ct V2.P V2.G 14 A O (φC x) := by
  obtain ⟨l, hl, hlo, hlt⟩ := slV (o := .no) hv
  obtain ⟨ks, hks, hko, hkt⟩ := slX (o := .no) hx
  exact c_fin hk hn (by omega) hlo (by omega) hko hlt hkt hD h
def gVl (l : List VAL) (j : Nat) : List AV := (l.getD j default).c
theorem eC_xc {e : EXP} {n : Nat} (h : e.kids.length = n) : eC e = xc e.op e.kind e.name e.vals.length (gVl e.vals) n (EXP.row e.kids) := by subst h; rfl
theorem rowsV {b : Nat} {e : EXP} (he : Fit b e) : ∀ j, j < e.vals.length → rowV (gVl e.vals j) := fun j hj => by
  cases he with
  | mk _ _ _ _ h4 _ _ =>
    unfold gVl
    rw [List.getD_eq_getElem?_getD, List.getElem?_eq_getElem hj]
    exact rowV_c (h4 _ (List.getElem_mem hj))
theorem rowsX {b : Nat} {e : EXP} (he : Fit b e) : ∀ j, j < e.kids.length → rowX b (EXP.row e.kids j) := fun j hj => by
  cases he with
  | mk _ _ _ _ _ _ h6 =>
    rw [row_eC hj, List.getD_eq_getElem?_getD, List.getElem?_eq_getElem hj]
    exact rowX_c (h6 _ (List.getElem_mem hj))
theorem rowX.mono {b b' : Nat} (h : b ≤ b') {a : List AV} (hr : rowX b a) : rowX b' a := by
  obtain ⟨e, h1, h2⟩ := hr
  exact ⟨e, h1.mono h, h2⟩
theorem rows_app {P : List AV → Prop} {m : Nat} {get : Nat → List AV} {z a : List AV} (h : ∀ j, j < m → P (get j)) (ha : P (fillGet z [(0, .agg a)] 0)) : ∀ j, j < m + 1 → P (appGet m 1 get (fillGet z [(0, .agg a)]) j) := by
  intro j hj
  by_cases hm : j < m
  · rw [appGet_lt hm]; exact h j hm
  · obtain rfl : j = m := by omega
    rw [appGet_ge (Nat.le_refl _) (by omega), Nat.sub_self]
    exact ha
theorem rows_cp {P : List AV → Prop} {m : Nat} {get : Nat → List AV} (h : ∀ j, j < m → P (get j)) : ∀ j, j < 0 + m → P (appGet 0 m (fun _ => []) get j) := by
  intro j hj
  rw [appGet_ge (Nat.zero_le _) (by omega), Nat.sub_zero]
  exact h j (by omega)
theorem any_ex (C : CODES) (hC : C.Ok) : ∃ x : VAL × CODES, (x.1.Ok ∧ x.2.Ok) ∧ Ct V2.P V2.G 29 (cA C) (cO C) (φV x) := by
  obtain ⟨wv, hwv, htv⟩ := ent_ex (V := V2) (f := 58) (A := vA) (O := vO) (Pre := vP) (φ := φV) (Post := vPost) value_ex
  obtain ⟨h0, h1, h2⟩ := nextR_ok hC (m := 5) (by omega)
  have hw : IntKind.wrap .i64 (1 + (nextR C 5).1) = 1 + (nextR C 5).1 := wrap_i64 (by omega) (by omega)
  have hP : vP ((nextR C 5).2, 1 + (nextR C 5).1) := ⟨h2, by show 1 ≤ 1 + (nextR C 5).1; omega, by show 1 + (nextR C 5).1 ≤ 5; omega⟩
  have hp : vPost ((nextR C 5).2, 1 + (nextR C 5).1) (valA vA vO vP wv (vA ((nextR C 5).2, 1 + (nextR C 5).1)) (vO ((nextR C 5).2, 1 + (nextR C 5).1))) := valA_post hwv vA_kind hP
  have e := any_m gN (goodA vA vO vP) vN (valA vA vO vP wv) C (t1 := nextR C 5) (vN_eq hC (by omega)) (t2 := valA vA vO vP wv (vA ((nextR C 5).2, 1 + (nextR C 5).1)) (vO ((nextR C 5).2, 1 + (nextR C 5).1))) (by rw [hw]; rfl)
  rw [hw] at e
  have e := (e.trans (cT (gN_eq hC (by omega)))).trans (cT (goodA_eq (A := vA) (O := vO) hP))
  exact ⟨_, ⟨hp.1.2.2, hp.2⟩, ct_loops (V := V2) (f := 29) (n := 9) (d := 3) (L := []) (T := [entN, entC 58 vA vO vP wv φV]) mixed2 funcs2 (tabOk_cons entN_ok (tabOk_cons htv tabOk_nil)) loopsOk_nil e⟩
end Go.SH

namespace Go.SH
open Go Go.Ab Go.Proofs
set_option linter.unusedVariables false
set_option linter.unusedSimpArgs false
def PA : List Nat := [1, 0, 1, 0, 1]
def nB (x : EXP × CODES × Int) : St := { env := [(0, .ref keyBase 0), (3, .ref 3 0), (4, .ref 4 0), (6, .int .i64 x.2.2)], objs := [(3, .cells (exK 4 (.sl .fit 5 1 (fillGet ex0 [(0, .agg (eC x.1))])))), (4, .cells ex0), (keyBase, codO x.2.1)] }
def nBI (b : Nat) (x : EXP × CODES × Int) : Prop := Fit b x.1
theorem notX_fit {b : Nat} (hb : 1 ≤ b) {e : EXP} (h : Fit b e) : Fit b (notX e) := .mk _ (by show 0 ≤ maxS; unfold maxS; omega) (by show 0 ≤ maxS; unfold maxS; omega) (Nat.zero_le _) (by intro v hv; cases hv) hb (by
  intro k hk
  have hk : k ∈ [e] := hk
  simp at hk; subst hk; exact h)
noncomputable def vwN (b : Nat) (s : St) : EXP × CODES × Int := (notX (valS nB (nBI b) id s).1, (valS nB (nBI b) id s).2)
instance : Inhabited (EXP × CODES × Int) := ⟨(default, default, 0)⟩
theorem viewN_ok (b : Nat) : ViewOk (mkV (goodS nB (nBI b)) (vwN b) SN) := by
  have := viewOk_weak nB (fun x => SN (notX x.1, x.2)) (nBI b) fun x _ => by
    exact ⟨rfl, .cons _ _ _ _ _ (.cells _ _ ⟨rfl, expC_keys _ _ _ _ _ _, tells_not x.1⟩) (.cons _ _ _ _ _ (.same _) (.cons _ _ _ _ _ (.same _) .nil))⟩
  exact this
theorem vwN_post {b : Nat} {x : EXP × CODES × Int} (h : nBI b x) : Fit b (valS nB (nBI b) id (nB x)).1 ∧ (valS nB (nBI b) id (nB x)).2 = x.2 :=
  valS_post (S := nB) (Inv := nBI b) (w := id) (Post := fun a y => Fit b y.1 ∧ y.2 = a.2) (fun a ha => ⟨ha, rfl⟩) (fun a c y hac hy => by
    refine ⟨hy.1, hy.2.trans ?_⟩
    obtain ⟨e, C, i⟩ := a
    obtain ⟨e', C', i'⟩ := c
    simp only [nB, St.mk.injEq, List.cons.injEq, Prod.mk.injEq, AV.int.injEq, true_and, and_true] at hac
    obtain ⟨h1, _, h3⟩ := hac
    rw [h1, codO_inj h3]) h
def nS (x : EXP × CODES × Nat) : St := NL x.1 x.2.1 (x.2.2 : Int)
def nI (b : Nat) (x : EXP × CODES × Nat) : Prop := Fit b x.1 ∧ x.2.1.Ok ∧ x.2.2 ≤ 12
instance : Inhabited (EXP × CODES × Nat) := ⟨(default, default, 0)⟩
theorem nots_loop (b : Nat) (hb : 1 ≤ b) (ge : List AV → List AO → Bool) (ve : List AV → List AO → Int × CODES) (hge : ∀ C : CODES, C.Ok → ge [.ref 1000000 0, .int .i64 3] [codO C] = true) (hve : ∀ C : CODES, C.Ok → ve [.ref 1000000 0, .int .i64 3] [codO C] = nextR C 3) (T : List Ent) :
    ∃ w : EXP × CODES × Nat → EXP × CODES, (∀ v, nI b v → Fit b (w v).1 ∧ (w v).2.Ok) ∧ ∀ L : List (List Nat × Orc), LoopOk (V4.run (mkE 19 ge ve φX :: T) 1 [] L [([1, 0, 1, 0, 1], fun _ _ => none), ([1, 1, 0, 1, 0, 1, 1, 1, 1, 1, 1, 1, 1, 1, 1, 1, 1, 1, 1, 1, 0, 1, 0, 0, 1, 1], mkV (goodS nB (nBI b)) (vwN b) SN)] 14) 14 [1, 1, 0, 1, 0, 1, 1, 1, 1, 1, 1, 1, 1, 1, 1, 1, 1, 1, 1, 1, 0, 1, 0] (mkO (goodS nS (nI b)) (valS nS (nI b) w) outN) := by
  refine loop_ex (Xf := fun L : List (List Nat × Orc) => V4.run (mkE 19 ge ve φX :: T) 1 [] L [([1, 0, 1, 0, 1], fun _ _ => none), ([1, 1, 0, 1, 0, 1, 1, 1, 1, 1, 1, 1, 1, 1, 1, 1, 1, 1, 1, 1, 0, 1, 0, 0, 1, 1], mkV (goodS nB (nBI b)) (vwN b) SN)] 14) (b := subC (bodyOf V4.P 14) ([1, 1, 0, 1, 0, 1, 1, 1, 1, 1, 1, 1, 1, 1, 1, 1, 1, 1, 1, 1, 0, 1, 0] ++ [0])) nS (nI b) (fun x => 12 - x.2.2) outN (fun _ x => Fit b x.1 ∧ x.2.Ok) (fun _ => by kernel_rfl) 14 fun v hv => ?_
  obtain ⟨t, C, i⟩ := v
  obtain ⟨ht, hC, hi⟩ : Fit b t ∧ C.Ok ∧ i ≤ 12 := hv
  obtain ⟨a0, a1, aD⟩ := nextR_ok hC (m := 3) (by omega)
  have hw : IntKind.wrap .i64 (9 + (nextR C 3).1) = 9 + (nextR C 3).1 := wrap_i64 (by omega) (by omega)
  have hB : nBI b (t, (nextR C 3).2, (i : Int)) := ht
  obtain ⟨p1, p2⟩ := vwN_post hB
  by_cases hlt : (i : Int) < 9 + (nextR C 3).1
  · refine .inr ⟨(notX (valS nB (nBI b) id (nB (t, (nextR C 3).2, (i : Int)))).1, (nextR C 3).2, i + 1), ⟨notX_fit hb p1, aD, by show i + 1 ≤ 12; omega⟩, by show 12 - (i + 1) < 12 - i; omega, fun _ h => h, fun L k kn => ?_⟩
    refine (c_nr ge ve T L (goodS nB (nBI b)) (vwN b) 14 t C (i : Int) kn k (t1 := nextR C 3) (hve C hC) (t2 := vwN b (nB (t, (nextR C 3).2, (i : Int)))) rfl).trans ?_
    refine (cT (hge C hC)).trans ?_
    refine (cT (by rw [hw]; exact decide_eq_true hlt)).trans ?_
    refine (cT (goodS_eq (S := nB) hB)).trans ?_
    unfold vwN
    rw [p2]
    rw [show IntKind.wrap .i64 (((t, (nextR C 3).2, (i : Int)) : EXP × CODES × Int).2.2 + 1) = ((i + 1 : Nat) : Int) by
      show IntKind.wrap .i64 ((i : Int) + 1) = _
      rw [wrap_i64 (by omega) (by omega)]; rfl]
    rfl
  · refine .inl ⟨(t, (nextR C 3).2), ⟨ht, aD⟩, fun L k kn => ?_⟩
    refine (c_nr ge ve T L (goodS nB (nBI b)) (vwN b) 14 t C (i : Int) kn k (t1 := nextR C 3) (hve C hC) (t2 := vwN b (nB (t, (nextR C 3).2, (i : Int)))) rfl).trans ?_
    refine (cT (hge C hC)).trans ?_
    refine (cF (by rw [hw]; exact decide_eq_false hlt)).trans ?_
    rfl
def kB (y : KV) (x : KV × Int) : St := { env := [(0, .ref keyBase 0), (3, .ref 3 0), (4, .ref 4 0), (7, .ref 7 0), (8, .int .i64 x.2)], objs := [(3, .cells (xc y.op y.kd y.nm y.m y.gv y.n y.g)), (4, .cells ex0), (7, .cells [.int .i64 x.1.op, .str x.1.kd, .str x.1.nm, .sl .no 4 x.1.m x.1.gv, .sl (.key 110) 5 (x.1.n + 1) x.1.g]), (110, .own 5 (x.1.n + 1)), (keyBase, codO x.1.C)] }
instance : Inhabited (KV × Int) := ⟨(default, 0)⟩
theorem kB_inj {y : KV} (a b : KV × Int) (h : kB y a = kB y b) : a = b := by
  obtain ⟨⟨op, kd, nm, m, gv, n, g, C⟩, i⟩ := a
  obtain ⟨⟨op', kd', nm', m', gv', n', g', C'⟩, i'⟩ := b
  simp only [kB, St.mk.injEq, List.cons.injEq, Prod.mk.injEq, AV.int.injEq, AV.str.injEq, AV.sl.injEq, AO.cells.injEq, true_and, and_true, Nat.add_right_cancel_iff] at h
  obtain ⟨h1, ⟨h2, h3, h4, ⟨h5, h6⟩, h7, h8⟩, _, h9⟩ := h
  have := codO_inj h9
  subst h1 h2 h3 h4 h5 h6 h7 h8 this; rfl
theorem keys_xc (op : Int) (kd nm : List UInt8) (m : Nat) (gv : Nat → List AV) (n : Nat) (g : Nat → List AV) : keysL (xc op kd nm m gv n g) = [] := by simp [xc, AV.keys, keysL]
theorem tells_key {op : Int} {kd nm : List UInt8} {m : Nat} {gv : Nat → List AV} {o : Own} {n : Nat} {g g' : Nat → List AV} (hg : ∀ j, j < n → g' j = g j) : Go.Ab.Told [.int .i64 op, .str kd, .str nm, .sl .no 4 m gv, .sl o 5 n g] (xc op kd nm m gv n g') := by
  refine ⟨rfl, keys_xc _ _ _ _ _ _ _, fun i u u' hu hu' => ?_⟩
  unfold xc at *
  match i with
  | 0 => simp only [List.getElem?_cons_zero, Option.some.injEq] at hu hu'; subst hu hu'; exact ⟨rfl, fun _ x h => h⟩
  | 1 => simp only [List.getElem?_cons_succ, List.getElem?_cons_zero, Option.some.injEq] at hu hu'; subst hu hu'; exact ⟨rfl, fun _ x h => h⟩
  | 2 => simp only [List.getElem?_cons_succ, List.getElem?_cons_zero, Option.some.injEq] at hu hu'; subst hu hu'; exact ⟨rfl, fun _ x h => h⟩
  | 3 => simp only [List.getElem?_cons_succ, List.getElem?_cons_zero, Option.some.injEq] at hu hu'; subst hu hu'; exact ⟨rfl, fun _ x h => h⟩
  | 4 => simp only [List.getElem?_cons_succ, List.getElem?_cons_zero, Option.some.injEq] at hu hu'; subst hu hu'; exact ⟨rfl, fun _ x h => h.slWeak hg⟩
  | i + 5 => simp at hu
theorem viewK_ok (y : KV) : ViewOk (mkV (goodS (kB y) (fun _ => True)) (valS (kB y) (fun _ => True) id) (SK y)) :=
  viewOk_weak (kB y) (SK y) (fun _ => True) fun x _ =>
    ⟨rfl, .cons _ _ _ _ _ (.same _) (.cons _ _ _ _ _ (.same _) (.cons _ _ _ _ _ (.cells _ _ (tells_key fun _ _ => rfl)) (.cons _ _ _ _ _ (.same _) (.cons _ _ _ _ _ (.same _) .nil))))⟩
def kS (y : KV) (v : KV × Nat) : St := KL y v.1.op v.1.kd v.1.nm v.1.m v.1.gv v.1.n v.1.g v.1.C (v.2 : Int)
structure kOk (b m0 : Nat) (x : KV) : Prop where
  kd : lenS x.kd
  nm : lenS x.nm
  m : x.m ≤ m0
  gv : ∀ j, j < x.m → rowV (x.gv j)
  C : x.C.Ok
def kI (b m0 : Nat) (v : KV × Nat) : Prop := kOk b m0 v.1 ∧ v.2 ≤ 11 ∧ v.2 ≤ v.1.n ∧ v.1.n ≤ b + v.2 ∧ ∀ j, j < v.1.n → rowX b (v.1.g j)
def kZ (b m0 : Nat) (x : KV) : Prop := kOk b m0 x ∧ x.n + 1 ≤ b + 11 ∧ ∀ j, j < x.n + 1 → rowX b (x.g j)
instance : Inhabited (KV × Nat) := ⟨(default, 0)⟩
theorem test_fit {t : EXP} (h : testOk t) {b : Nat} (hb : 20 ≤ b) : Fit b t := (VE.fit h.ve h.2.2).mono hb
theorem adds_loop8 (ge : List AV → List AO → Bool) (ve : List AV → List AO → Int × CODES) (b m0 : Nat) (hb : 20 ≤ b) (hb' : b ≤ 1000000) (y : KV) {wt : CODES → EXP × CODES} (hwt : ∀ C, C.Ok → tPost (wt C)) (htt : ∀ l os, (entC 47 cA cO CODES.Ok wt φC).pre l os = true → Ct V2.P V2.G (entC 47 cA cO CODES.Ok wt φC).f l os ((entC 47 cA cO CODES.Ok wt φC).ans l os))  :
    ∃ w : KV × Nat → KV, (∀ v, kI b m0 v → kZ b m0 (w v)) ∧ ∀ L : List (List Nat × Orc), LoopOk (V4.run [mkE 19 ge ve φX, entC 47 cA cO CODES.Ok wt φC] 1 [] L [([1, 0, 1, 0, 1], fun _ _ => none), ([1, 1, 0, 1, 0, 1, 1, 1, 1, 1, 1, 1, 1, 1, 1, 1, 1, 1, 1, 1, 1, 1, 0, 1, 0, 1, 0, 0, 1, 1], mkV (goodS (kB y) (fun _ => True)) (valS (kB y) (fun _ => True) id) (SK y))] 14) 14 [1, 1, 0, 1, 0, 1, 1, 1, 1, 1, 1, 1, 1, 1, 1, 1, 1, 1, 1, 1, 1, 1, 0, 1, 0, 1, 0] (mkO (goodS (kS y) (kI b m0)) (valS (kS y) (kI b m0) w) (outK y)) := by
  refine loop_ex (Xf := fun L : List (List Nat × Orc) => V4.run [mkE 19 ge ve φX, entC 47 cA cO CODES.Ok wt φC] 1 [] L [([1, 0, 1, 0, 1], fun _ _ => none), ([1, 1, 0, 1, 0, 1, 1, 1, 1, 1, 1, 1, 1, 1, 1, 1, 1, 1, 1, 1, 1, 1, 0, 1, 0, 1, 0, 0, 1, 1], mkV (goodS (kB y) (fun _ => True)) (valS (kB y) (fun _ => True) id) (SK y))] 14) (b := subC (bodyOf V4.P 14) ([1, 1, 0, 1, 0, 1, 1, 1, 1, 1, 1, 1, 1, 1, 1, 1, 1, 1, 1, 1, 1, 1, 0, 1, 0, 1, 0] ++ [0])) (kS y) (kI b m0) (fun x => 11 - x.2) (outK y) (fun _ => kZ b m0) (fun _ => by kernel_rfl) 14 fun v hv => ?_
  obtain ⟨⟨op, kd, nm, m, gv, n, g, C⟩, i⟩ := v
  obtain ⟨⟨h1, h2, h3, h4, h5⟩, hi, hin, hn, hg⟩ := hv
  have h5 : C.Ok := h5
  have hi : i ≤ 11 := hi
  have hin : i ≤ n := hin
  have hn : n ≤ b + i := hn
  have hg : ∀ j, j < n → rowX b (g j) := hg
  have hgt : goodA cA cO CODES.Ok [.ref 1000000 0] [codO C] = true := goodA_eq (A := cA) (O := cO) (v := C) h5
  have hp : tPost (valA cA cO CODES.Ok wt [.ref 1000000 0] [codO C]) := valA_post (A := cA) (O := cO) (a := C) (Post := fun (_ : CODES) (x : EXP × CODES) => tPost x) hwt (fun _ _ _ _ _ h => h) h5
  generalize ht : valA cA cO CODES.Ok wt [.ref 1000000 0] [codO C] = t at hp
  have hft : rowX b (fillGet ex0 [(0, .agg (eC t.1))] 0) := rowX_c (test_fit hp.1 hb)
  have hvk : ∀ v : KV × Int, valS (kB y) (fun _ => True) id (kB y v) = v := fun v => valS_eq (S := kB y) (fun a b _ _ h => kB_inj a b h) trivial
  have hgk : ∀ v : KV × Int, goodS (kB y) (fun _ => True) (kB y v) = true := fun v => goodS_eq (S := kB y) trivial
  have hwi : IntKind.wrap .i64 ((i : Int) + 1) = ((i + 1 : Nat) : Int) := by rw [wrap_i64 (by omega) (by omega)]; rfl
  rcases n with _ | q
  · obtain rfl : i = 0 := by omega
    refine .inr ⟨(⟨op, kd, nm, m, gv, 1, appGet 0 1 (appGet 0 0 (fun _ => []) g) (fillGet ex0 [(0, .agg (eC t.1))]), t.2⟩, 1), ⟨⟨h1, h2, h3, h4, hp.2⟩, by show 1 ≤ 11; omega, Nat.le_refl _, by show 1 ≤ b + 1; omega, rows_app (m := 0) (fun j hj => absurd hj (by omega)) hft⟩, by show 11 - 1 < 11 - 0; omega, fun _ h => h, fun L k kn => ?_⟩
    refine (c_kr0 ge ve (goodA cA cO CODES.Ok) (valA cA cO CODES.Ok wt) [] L (goodS (kB y) (fun _ => True)) (valS (kB y) (fun _ => True) id) 14 op kd nm m gv g y C ((0 : Nat) : Int) kn k (t1 := t) ht (hvk (⟨op, kd, nm, m, gv, 0, _, t.2⟩, ((0 : Nat) : Int)))).trans ?_
    refine (cT (by decide)).trans ?_
    refine (cT hgt).trans ?_
    refine (cT (hgk (⟨op, kd, nm, m, gv, 0, _, t.2⟩, ((0 : Nat) : Int)))).trans ?_
    rfl
  · by_cases hlt : i < 11
    · refine .inr ⟨(⟨op, kd, nm, m, gv, 0 + (q + 1) + 1, appGet (0 + (q + 1)) 1 (appGet 0 (q + 1) (fun _ => []) g) (fillGet ex0 [(0, .agg (eC t.1))]), t.2⟩, i + 1), ⟨⟨h1, h2, h3, h4, hp.2⟩, by show i + 1 ≤ 11; omega, by show i + 1 ≤ 0 + (q + 1) + 1; omega, by show 0 + (q + 1) + 1 ≤ b + (i + 1); omega, rows_app (rows_cp hg) hft⟩, by show 11 - (i + 1) < 11 - i; omega, fun _ h => h, fun L k kn => ?_⟩
      refine (c_kr ge ve (goodA cA cO CODES.Ok) (valA cA cO CODES.Ok wt) [] L (goodS (kB y) (fun _ => True)) (valS (kB y) (fun _ => True) id) 14 op kd nm m gv g q y C (i : Int) kn k (t1 := t) ht (hvk (⟨op, kd, nm, m, gv, 0 + (q + 1), _, t.2⟩, (i : Int)))).trans ?_
      refine (cT (decide_eq_true (by omega))).trans ?_
      refine (cT (show roomy 88 (0 + (q + 1)) = true from Nat.ble_eq_true_of_le (by omega))).trans ?_
      refine (cT hgt).trans ?_
      refine (cT (show (roomy 88 (0 + (q + 1) + 1) && Nat.beq (0 + (q + 1)) (0 + (q + 1))) = true by
        rw [Nat.beq_refl, Bool.and_true]; exact Nat.ble_eq_true_of_le (by omega))).trans ?_
      refine (cT (hgk (⟨op, kd, nm, m, gv, 0 + (q + 1), _, t.2⟩, (i : Int)))).trans ?_
      show kn (KL y op kd nm m gv _ _ t.2 (IntKind.wrap .i64 ((i : Int) + 1))) = _
      rw [hwi]; rfl
    · refine .inl ⟨⟨op, kd, nm, m, gv, q, g, C⟩, ⟨⟨h1, h2, h3, h4, h5⟩, by show q + 1 ≤ b + 11; omega, hg⟩, fun L k kn => ?_⟩
      refine (c_kr ge ve (goodA cA cO CODES.Ok) (valA cA cO CODES.Ok wt) [] L (goodS (kB y) (fun _ => True)) (valS (kB y) (fun _ => True) id) 14 op kd nm m gv g q y C (i : Int) kn k (t1 := t) ht (hvk (⟨op, kd, nm, m, gv, 0 + (q + 1), _, t.2⟩, (i : Int)))).trans ?_
      exact (cF (decide_eq_false (by omega))).trans rfl
theorem viewA_ok {op : Int} {kd nm : List UInt8} {m : Nat} {gv : Nat → List AV} {q : Nat} {l : List EXP} {C : CODES} (hl : l.length = q + 1) : ViewOk (mkV (goodS (fun _ : Unit => ({ env := [(0, .ref keyBase 0), (3, .ref 3 0), (4, .ref 4 0)], objs := [(3, .cells (gcell op kd nm m gv (0 + (q + 1)))), (4, .cells ex0), (20, .grw 5 (0 + (q + 1)) (appGet 0 (q + 1) (fun _ => []) (EXP.row l))), (keyBase, codO C)] } : St)) (fun _ => True)) (fun _ => (⟨op, kd, nm, m, gv, l, C⟩ : K1)) (CS1 (q + 1))) := by
  have h0 : 0 + (q + 1) = q + 1 := by omega
  have := viewOk_weak (α := Unit) (fun _ => ({ env := [(0, .ref keyBase 0), (3, .ref 3 0), (4, .ref 4 0)], objs := [(3, .cells (gcell op kd nm m gv (0 + (q + 1)))), (4, .cells ex0), (20, .grw 5 (0 + (q + 1)) (appGet 0 (q + 1) (fun _ => []) (EXP.row l))), (keyBase, codO C)] } : St)) (fun _ => CS1 (q + 1) (⟨op, kd, nm, m, gv, l, C⟩ : K1)) (fun _ => True) fun _ _ => by
    refine ⟨rfl, .cons _ _ _ _ _ (by rw [h0]; exact .same _) (.cons _ _ _ _ _ (.same _) (.cons _ _ _ _ _ ?_ (.cons _ _ _ _ _ (.same _) .nil)))⟩
    rw [h0]
    exact .grw _ _ _ _ fun j hj => by
      rw [appGet_ge (Nat.zero_le _) (by omega), Nat.sub_zero, row_eC (by omega)]; rfl
  exact this
def bB (x : KV) : St := { env := [(3, .ref 3 0), (4, .ref 4 0)], objs := [(3, .cells (gcell x.op x.kd x.nm x.m x.gv x.n)), (4, .cells ex0), (20, .grw 5 x.n x.g), (keyBase, codO x.C)] }
theorem bB_inj (a b : KV) (h : bB a = bB b) : a = b := by
  obtain ⟨op, kd, nm, m, gv, n, g, C⟩ := a
  obtain ⟨op', kd', nm', m', gv', n', g', C'⟩ := b
  simp only [bB, gcell, St.mk.injEq, List.cons.injEq, Prod.mk.injEq, AV.int.injEq, AV.str.injEq, AV.sl.injEq, AV.gsl.injEq, AO.cells.injEq, AO.grw.injEq, true_and, and_true] at h
  obtain ⟨⟨h2, h3, h4, ⟨h5, h6⟩, h7⟩, ⟨_, h8⟩, h9⟩ := h
  have := codO_inj h9
  subst h2 h3 h4 h5 h6 h7 h8 this; rfl
theorem viewB_ok : ViewOk (mkV (goodS bB (fun _ => True)) (valS bB (fun _ => True) id) CS2) := by
  refine viewOk_step bB CS2 (fun _ => True) fun v _ B c a hr hn => ?_
  have hf : fzCell (bB v) 3 4 = some (CS2 v) := by
    have h1 : Nat.beq 3 20 = false := rfl
    have h2 : Nat.beq 4 20 = false := rfl
    simp [fzCell, bB, CS2, gcell, xc, St.obj, alook, freezeA, Nat.beq_refl, guardO, aput, St.put, h1, h2]
  exact fzCell_sound hr hn hf
end Go.SH

namespace Go.SH
open Go Go.Ab Go.Proofs
set_option linter.unusedVariables false
set_option linter.unusedSimpArgs false
set_option linter.unusedSectionVars false
theorem Fit.kd {b : Nat} {e : EXP} (h : Fit b e) : lenS e.kind := by cases h; assumption
theorem Fit.nm {b : Nat} {e : EXP} (h : Fit b e) : lenS e.name := by cases h; assumption
theorem Fit.vl {b : Nat} {e : EXP} (h : Fit b e) : e.vals.length ≤ b := by cases h; assumption
theorem Fit.kl {b : Nat} {e : EXP} (h : Fit b e) : e.kids.length ≤ b := by cases h; assumption
theorem lenS_40 {s : List UInt8} (h : s.length ≤ 40) : lenS s := by unfold lenS maxS; omega
theorem viewZ_ok : ViewOk (fun _ _ => none) := fun _ _ _ h => by cases h
theorem viewsZ {W : List (List Nat × Vw)} (h : ∀ q ∈ W, ViewOk q.2) {p : List Nat} : ∀ q ∈ (p, fun _ _ => none) :: W, ViewOk q.2 := fun q hq => by
  rcases List.mem_cons.1 hq with rfl | hq
  · exact viewZ_ok
  · exact h q hq
theorem views1 {p : List Nat} {g : Vw} (h : ViewOk g) : ∀ q ∈ [(p, g)], ViewOk q.2 := fun q hq => by
  rw [List.mem_singleton] at hq; subst hq; exact h
theorem rowV_made (k n : Int) : rowV [.int .i64 k, .int .i64 n, .str [], .sl .fit 0 0 fun _ => [] ] := ⟨⟨k, n, [], []⟩, ⟨by show 0 ≤ _; omega, by show 0 ≤ _; omega, by intro s hs; cases hs⟩, fun i u u' hu hu' => by
  unfold VAL.c at hu'
  match i with
  | 0 => simp only [List.getElem?_cons_zero, Option.some.injEq] at hu hu'; subst hu hu'; exact ⟨rfl, fun _ x h => h⟩
  | 1 => simp only [List.getElem?_cons_succ, List.getElem?_cons_zero, Option.some.injEq] at hu hu'; subst hu hu'; exact ⟨rfl, fun _ x h => h⟩
  | 2 => simp only [List.getElem?_cons_succ, List.getElem?_cons_zero, Option.some.injEq] at hu hu'; subst hu hu'; exact ⟨rfl, fun _ x h => h⟩
  | 3 => simp only [List.getElem?_cons_succ, List.getElem?_cons_zero, Option.some.injEq] at hu hu'; subst hu hu'; exact ⟨rfl, fun _ => sl_fit⟩
  | i + 4 => simp at hu⟩
theorem rows1 {P : List AV → Prop} {get : Nat → List AV} (h : P (get 0)) : ∀ j, j < 1 → P (get j) := fun j hj => by
  obtain rfl : j = 0 := by omega
  exact h
theorem rows2 {P : List AV → Prop} {get : Nat → List AV} (h : P (get 0)) (h' : P (get 1)) : ∀ j, j < 2 → P (get j) := fun j hj => by
  match j, hj with
  | 0, _ => exact h
  | 1, _ => exact h'
section
variable {b : Nat} (hb : 20 ≤ b) (hb' : b ≤ 1000) {e : EXP} (he : Fit b e) {C D0 D : CODES} (hC : C.Ok) (hD0 : D0.Ok) (hD : D.Ok) (hs : (e.kids.length = 0 ∧ D0 = C) ∨ (∃ q, e.kids.length = q + 1 ∧ nextR C 3 = (0, D0)))
include hb hb' he hC hD0 hD hs
theorem cnd_0 (h10 : nextR D0 10 = (0, D)) : ∃ x, ccPost b x ∧ Ct V2.P V2.G 14 (kA (e, C)) (kO (e, C)) (φC x) := by
  have hT := entB_ok (m := 10) (by omega) hD0 h10
  have hkl := he.kl
  have hvl := he.vl
  obtain ⟨s0, s1, sD⟩ := nextR_ok hD (m := 18) (by omega)
  have hg10 : gB 10 D0 [.ref 1000000 0, .int .i64 10] [codO D0] = true := gB_eq hD0 (by omega) (fun _ => rfl)
  rcases hs with ⟨hq, rfl⟩ | ⟨q, hq, h3⟩
  · have hx : ∀ j, j < 0 → rowX (b + 11) (EXP.row e.kids j) := fun j hj => (rowsX he j (by omega)).mono (by omega)
    have hc := fun r he' => ct_of_run (V := V4) (f := 14) (l := kA (e, D0)) (os := kO (e, D0)) (r := r) (n := 9) (d := 1) (C := []) (T := [entB 10 D0 (0, D)]) (L := []) (W := [([1, 0, 1, 0, 1], fun _ _ => none)]) mixed4 funcs4 (tabOk_cons hT (tabOk_nil)) (fun _ h => (List.not_mem_nil h).elim) (loopsOk_nil) (viewsZ (fun q hq => by cases hq)) he'
    have ha : kA (e, D0) = [.ref keyBase 0, .agg (xc e.op e.kind e.name e.vals.length (gVl e.vals) 0 (EXP.row e.kids))] := by show [_, AV.agg (eC e)] = _; rw [eC_xc hq]
    have e1 := c_0_0 (gB 10 D0) vN e.op e.kind e.name e.vals.length (gVl e.vals) (EXP.row e.kids) D0 D (vN_eq hD (by omega))
    have e1 := e1.trans (cT hg10)
    have e1 := e1.trans (cT (gB_eq hD (by omega) (fun h => by omega)))
    rw [argN_ne (m := 10) (n := 18) (by omega)] at e1
    simp only [cond_false] at e1
    exact c_finX he.kd he.nm (by omega) (rowsV he) (by omega) hx sD (hc _ (by rw [ha]; exact e1))
  · have hx : ∀ j, j < (q + 1) → rowX (b + 11) (EXP.row e.kids j) := fun j hj => (rowsX he j (by omega)).mono (by omega)
    have hc := fun r he' => ct_of_run (V := V4) (f := 14) (l := kA (e, C)) (os := kO (e, C)) (r := r) (n := 9) (d := 1) (C := []) (T := [entB 10 D0 (0, D)]) (L := []) (W := [([1, 0, 1, 0, 1], fun _ _ => none)]) mixed4 funcs4 (tabOk_cons hT (tabOk_nil)) (fun _ h => (List.not_mem_nil h).elim) (loopsOk_nil) (viewsZ (fun q hq => by cases hq)) he'
    have ha : kA (e, C) = [.ref keyBase 0, .agg (xc e.op e.kind e.name e.vals.length (gVl e.vals) (q + 1) (EXP.row e.kids))] := by show [_, AV.agg (eC e)] = _; rw [eC_xc hq]
    have e1 := c_0_1 (gB 10 D0) vN e.op e.kind e.name e.vals.length (gVl e.vals) q (EXP.row e.kids) C D ((vN_eq hC (by omega)).trans h3) (vN_eq hD (by omega))
    have e1 := ((e1.trans (cT (decide_eq_true (by omega)))).trans (cT (gB_eq hC (by omega) (fun h => by omega)))).trans (cF rfl)
    have e1 := e1.trans (cT hg10)
    have e1 := e1.trans (cT (gB_eq hD (by omega) (fun h => by omega)))
    rw [argN_ne (m := 10) (n := 18) (by omega)] at e1
    simp only [cond_false] at e1
    exact c_finX he.kd he.nm (by omega) (rowsV he) (by omega) hx sD (hc _ (by rw [ha]; exact e1))
theorem cnd_1 (h10 : nextR D0 10 = (1, D)) : ∃ x, ccPost b x ∧ Ct V2.P V2.G 14 (kA (e, C)) (kO (e, C)) (φC x) := by
  have hT := entB_ok (m := 10) (by omega) hD0 h10
  have hkl := he.kl
  have hvl := he.vl
  obtain ⟨wn, hwn, htn⟩ := ent_ex (V := V2) (f := 50) (A := cA) (O := cO) (Pre := CODES.Ok) (φ := φT) (Post := fun (_ : CODES) (x : List UInt8 × CODES) => x.1.length ≤ 40 ∧ x.2.Ok) name_ex
  have hgn : goodA cA cO CODES.Ok [.ref 1000000 0] [codO D] = true := goodA_eq (A := cA) (O := cO) (v := D) hD
  have hpn : (valA cA cO CODES.Ok wn [.ref 1000000 0] [codO D]).1.length ≤ 40 ∧ (valA cA cO CODES.Ok wn [.ref 1000000 0] [codO D]).2.Ok := valA_post (A := cA) (O := cO) (a := D) (Post := fun (_ : CODES) (x : List UInt8 × CODES) => x.1.length ≤ 40 ∧ x.2.Ok) hwn (fun _ _ _ _ _ h => h) hD
  have hg10 : gB 10 D0 [.ref 1000000 0, .int .i64 10] [codO D0] = true := gB_eq hD0 (by omega) (fun _ => rfl)
  rcases hs with ⟨hq, rfl⟩ | ⟨q, hq, h3⟩
  · have hx : ∀ j, j < 0 → rowX (b + 11) (EXP.row e.kids j) := fun j hj => (rowsX he j (by omega)).mono (by omega)
    have hc := fun r he' => ct_of_run (V := V4) (f := 14) (l := kA (e, D0)) (os := kO (e, D0)) (r := r) (n := 9) (d := 1) (C := []) (T := [entB 10 D0 (1, D), entC 50 cA cO CODES.Ok wn φT]) (L := []) (W := [([1, 0, 1, 0, 1], fun _ _ => none)]) mixed4 funcs4 (tabOk_cons hT (tabOk_cons htn tabOk_nil)) (fun _ h => (List.not_mem_nil h).elim) (loopsOk_nil) (viewsZ (fun q hq => by cases hq)) he'
    have ha : kA (e, D0) = [.ref keyBase 0, .agg (xc e.op e.kind e.name e.vals.length (gVl e.vals) 0 (EXP.row e.kids))] := by show [_, AV.agg (eC e)] = _; rw [eC_xc hq]
    have e1 := c_1_0 (gB 10 D0) vN (goodA cA cO CODES.Ok) (valA cA cO CODES.Ok wn) e.op e.kind e.name e.vals.length (gVl e.vals) (EXP.row e.kids) D0 D rfl
    have e1 := e1.trans (cT hg10)
    have e1 := e1.trans (cT hgn)
    exact c_finX (lenS_40 hpn.1) he.nm (by omega) (rowsV he) (by omega) hx hpn.2 (hc _ (by rw [ha]; exact e1))
  · have hx : ∀ j, j < (q + 1) → rowX (b + 11) (EXP.row e.kids j) := fun j hj => (rowsX he j (by omega)).mono (by omega)
    have hc := fun r he' => ct_of_run (V := V4) (f := 14) (l := kA (e, C)) (os := kO (e, C)) (r := r) (n := 9) (d := 1) (C := []) (T := [entB 10 D0 (1, D), entC 50 cA cO CODES.Ok wn φT]) (L := []) (W := [([1, 0, 1, 0, 1], fun _ _ => none)]) mixed4 funcs4 (tabOk_cons hT (tabOk_cons htn tabOk_nil)) (fun _ h => (List.not_mem_nil h).elim) (loopsOk_nil) (viewsZ (fun q hq => by cases hq)) he'
    have ha : kA (e, C) = [.ref keyBase 0, .agg (xc e.op e.kind e.name e.vals.length (gVl e.vals) (q + 1) (EXP.row e.kids))] := by show [_, AV.agg (eC e)] = _; rw [eC_xc hq]
    have e1 := c_1_1 (gB 10 D0) vN (goodA cA cO CODES.Ok) (valA cA cO CODES.Ok wn) e.op e.kind e.name e.vals.length (gVl e.vals) q (EXP.row e.kids) C D ((vN_eq hC (by omega)).trans h3) rfl
    have e1 := ((e1.trans (cT (decide_eq_true (by omega)))).trans (cT (gB_eq hC (by omega) (fun h => by omega)))).trans (cF rfl)
    have e1 := e1.trans (cT hg10)
    have e1 := e1.trans (cT hgn)
    exact c_finX (lenS_40 hpn.1) he.nm (by omega) (rowsV he) (by omega) hx hpn.2 (hc _ (by rw [ha]; exact e1))
theorem cnd_2 (h10 : nextR D0 10 = (2, D)) : ∃ x, ccPost b x ∧ Ct V2.P V2.G 14 (kA (e, C)) (kO (e, C)) (φC x) := by
  have hT := entB_ok (m := 10) (by omega) hD0 h10
  have hkl := he.kl
  have hvl := he.vl
  obtain ⟨wn, hwn, htn⟩ := ent_ex (V := V2) (f := 50) (A := cA) (O := cO) (Pre := CODES.Ok) (φ := φT) (Post := fun (_ : CODES) (x : List UInt8 × CODES) => x.1.length ≤ 40 ∧ x.2.Ok) name_ex
  have hgn : goodA cA cO CODES.Ok [.ref 1000000 0] [codO D] = true := goodA_eq (A := cA) (O := cO) (v := D) hD
  have hpn : (valA cA cO CODES.Ok wn [.ref 1000000 0] [codO D]).1.length ≤ 40 ∧ (valA cA cO CODES.Ok wn [.ref 1000000 0] [codO D]).2.Ok := valA_post (A := cA) (O := cO) (a := D) (Post := fun (_ : CODES) (x : List UInt8 × CODES) => x.1.length ≤ 40 ∧ x.2.Ok) hwn (fun _ _ _ _ _ h => h) hD
  have hg10 : gB 10 D0 [.ref 1000000 0, .int .i64 10] [codO D0] = true := gB_eq hD0 (by omega) (fun _ => rfl)
  rcases hs with ⟨hq, rfl⟩ | ⟨q, hq, h3⟩
  · have hx : ∀ j, j < 0 → rowX (b + 11) (EXP.row e.kids j) := fun j hj => (rowsX he j (by omega)).mono (by omega)
    have hc := fun r he' => ct_of_run (V := V4) (f := 14) (l := kA (e, D0)) (os := kO (e, D0)) (r := r) (n := 9) (d := 1) (C := []) (T := [entB 10 D0 (2, D), entC 50 cA cO CODES.Ok wn φT]) (L := []) (W := [([1, 0, 1, 0, 1], fun _ _ => none)]) mixed4 funcs4 (tabOk_cons hT (tabOk_cons htn tabOk_nil)) (fun _ h => (List.not_mem_nil h).elim) (loopsOk_nil) (viewsZ (fun q hq => by cases hq)) he'
    have ha : kA (e, D0) = [.ref keyBase 0, .agg (xc e.op e.kind e.name e.vals.length (gVl e.vals) 0 (EXP.row e.kids))] := by show [_, AV.agg (eC e)] = _; rw [eC_xc hq]
    have e1 := c_2_0 (gB 10 D0) vN (goodA cA cO CODES.Ok) (valA cA cO CODES.Ok wn) e.op e.kind e.name e.vals.length (gVl e.vals) (EXP.row e.kids) D0 D rfl
    have e1 := e1.trans (cT hg10)
    have e1 := e1.trans (cT hgn)
    exact c_finX he.kd (lenS_40 hpn.1) (by omega) (rowsV he) (by omega) hx hpn.2 (hc _ (by rw [ha]; exact e1))
  · have hx : ∀ j, j < (q + 1) → rowX (b + 11) (EXP.row e.kids j) := fun j hj => (rowsX he j (by omega)).mono (by omega)
    have hc := fun r he' => ct_of_run (V := V4) (f := 14) (l := kA (e, C)) (os := kO (e, C)) (r := r) (n := 9) (d := 1) (C := []) (T := [entB 10 D0 (2, D), entC 50 cA cO CODES.Ok wn φT]) (L := []) (W := [([1, 0, 1, 0, 1], fun _ _ => none)]) mixed4 funcs4 (tabOk_cons hT (tabOk_cons htn tabOk_nil)) (fun _ h => (List.not_mem_nil h).elim) (loopsOk_nil) (viewsZ (fun q hq => by cases hq)) he'
    have ha : kA (e, C) = [.ref keyBase 0, .agg (xc e.op e.kind e.name e.vals.length (gVl e.vals) (q + 1) (EXP.row e.kids))] := by show [_, AV.agg (eC e)] = _; rw [eC_xc hq]
    have e1 := c_2_1 (gB 10 D0) vN (goodA cA cO CODES.Ok) (valA cA cO CODES.Ok wn) e.op e.kind e.name e.vals.length (gVl e.vals) q (EXP.row e.kids) C D ((vN_eq hC (by omega)).trans h3) rfl
    have e1 := ((e1.trans (cT (decide_eq_true (by omega)))).trans (cT (gB_eq hC (by omega) (fun h => by omega)))).trans (cF rfl)
    have e1 := e1.trans (cT hg10)
    have e1 := e1.trans (cT hgn)
    exact c_finX he.kd (lenS_40 hpn.1) (by omega) (rowsV he) (by omega) hx hpn.2 (hc _ (by rw [ha]; exact e1))
theorem cnd_3 (h10 : nextR D0 10 = (3, D)) : ∃ x, ccPost b x ∧ Ct V2.P V2.G 14 (kA (e, C)) (kO (e, C)) (φC x) := by
  have hT := entB_ok (m := 10) (by omega) hD0 h10
  have hkl := he.kl
  have hvl := he.vl
  obtain ⟨wa, hwa, hta⟩ := ent_ex (V := V2) (f := 29) (A := cA) (O := cO) (Pre := CODES.Ok) (φ := φV) (Post := fun (_ : CODES) (x : VAL × CODES) => x.1.Ok ∧ x.2.Ok) any_ex
  have hga : goodA cA cO CODES.Ok [.ref 1000000 0] [codO D] = true := goodA_eq (A := cA) (O := cO) (v := D) hD
  have hpa : (valA cA cO CODES.Ok wa [.ref 1000000 0] [codO D]).1.Ok ∧ (valA cA cO CODES.Ok wa [.ref 1000000 0] [codO D]).2.Ok := valA_post (A := cA) (O := cO) (a := D) (Post := fun (_ : CODES) (x : VAL × CODES) => x.1.Ok ∧ x.2.Ok) hwa (fun _ _ _ _ _ h => h) hD
  have hg10 : gB 10 D0 [.ref 1000000 0, .int .i64 10] [codO D0] = true := gB_eq hD0 (by omega) (fun _ => rfl)
  rcases hs with ⟨hq, rfl⟩ | ⟨q, hq, h3⟩
  · have hx : ∀ j, j < 0 → rowX (b + 11) (EXP.row e.kids j) := fun j hj => (rowsX he j (by omega)).mono (by omega)
    have hc := fun r he' => ct_of_run (V := V4) (f := 14) (l := kA (e, D0)) (os := kO (e, D0)) (r := r) (n := 9) (d := 1) (C := []) (T := [entB 10 D0 (3, D), entC 29 cA cO CODES.Ok wa φV]) (L := []) (W := [([1, 0, 1, 0, 1], fun _ _ => none)]) mixed4 funcs4 (tabOk_cons hT (tabOk_cons hta tabOk_nil)) (fun _ h => (List.not_mem_nil h).elim) (loopsOk_nil) (viewsZ (fun q hq => by cases hq)) he'
    rcases hm : e.vals.length with _ | p
    · have ha : kA (e, D0) = [.ref keyBase 0, .agg (xc e.op e.kind e.name 0 (gVl e.vals) 0 (EXP.row e.kids))] := by show [_, AV.agg (eC e)] = _; rw [eC_xc hq, hm]
      have e1 := c_3_00 (gB 10 D0) vN (goodA cA cO CODES.Ok) (valA cA cO CODES.Ok wa) e.op e.kind e.name (gVl e.vals) (EXP.row e.kids) D0 D rfl
      have e1 := e1.trans (cT hg10)
      have e1 := e1.trans (cT hga)
      have hv := rowsV he
      rw [hm] at hv
      exact c_finX he.kd he.nm (by omega) (rows_app (m := 0) (fun j hj => absurd hj (by omega)) (rowV_c hpa.1)) (by omega) hx hpa.2 (hc _ (by rw [ha]; exact e1))
    · have ha : kA (e, D0) = [.ref keyBase 0, .agg (xc e.op e.kind e.name (p + 1) (gVl e.vals) 0 (EXP.row e.kids))] := by show [_, AV.agg (eC e)] = _; rw [eC_xc hq, hm]
      have e1 := c_3_01 (gB 10 D0) vN (goodA cA cO CODES.Ok) (valA cA cO CODES.Ok wa) e.op e.kind e.name p (gVl e.vals) (EXP.row e.kids) D0 D rfl
      have e1 := e1.trans (cT hg10)
      have e1 := e1.trans (cT (show roomy 56 (0 + (p + 1)) = true from Nat.ble_eq_true_of_le (by omega)))
      have e1 := e1.trans (cT hga)
      have e1 := e1.trans (cT (show (roomy 56 (0 + (p + 1) + 1) && Nat.beq (0 + (p + 1)) (0 + (p + 1))) = true by rw [Nat.beq_refl, Bool.and_true]; exact Nat.ble_eq_true_of_le (by omega)))
      have hv := rowsV he
      rw [hm] at hv
      exact c_finX he.kd he.nm (by omega) (rows_app (rows_cp hv) (rowV_c hpa.1)) (by omega) hx hpa.2 (hc _ (by rw [ha]; exact e1))
  · have hx : ∀ j, j < (q + 1) → rowX (b + 11) (EXP.row e.kids j) := fun j hj => (rowsX he j (by omega)).mono (by omega)
    have hc := fun r he' => ct_of_run (V := V4) (f := 14) (l := kA (e, C)) (os := kO (e, C)) (r := r) (n := 9) (d := 1) (C := []) (T := [entB 10 D0 (3, D), entC 29 cA cO CODES.Ok wa φV]) (L := []) (W := [([1, 0, 1, 0, 1], fun _ _ => none)]) mixed4 funcs4 (tabOk_cons hT (tabOk_cons hta tabOk_nil)) (fun _ h => (List.not_mem_nil h).elim) (loopsOk_nil) (viewsZ (fun q hq => by cases hq)) he'
    rcases hm : e.vals.length with _ | p
    · have ha : kA (e, C) = [.ref keyBase 0, .agg (xc e.op e.kind e.name 0 (gVl e.vals) (q + 1) (EXP.row e.kids))] := by show [_, AV.agg (eC e)] = _; rw [eC_xc hq, hm]
      have e1 := c_3_10 (gB 10 D0) vN (goodA cA cO CODES.Ok) (valA cA cO CODES.Ok wa) e.op e.kind e.name (gVl e.vals) q (EXP.row e.kids) C D ((vN_eq hC (by omega)).trans h3) rfl
      have e1 := ((e1.trans (cT (decide_eq_true (by omega)))).trans (cT (gB_eq hC (by omega) (fun h => by omega)))).trans (cF rfl)
      have e1 := e1.trans (cT hg10)
      have e1 := e1.trans (cT hga)
      have hv := rowsV he
      rw [hm] at hv
      exact c_finX he.kd he.nm (by omega) (rows_app (m := 0) (fun j hj => absurd hj (by omega)) (rowV_c hpa.1)) (by omega) hx hpa.2 (hc _ (by rw [ha]; exact e1))
    · have ha : kA (e, C) = [.ref keyBase 0, .agg (xc e.op e.kind e.name (p + 1) (gVl e.vals) (q + 1) (EXP.row e.kids))] := by show [_, AV.agg (eC e)] = _; rw [eC_xc hq, hm]
      have e1 := c_3_11 (gB 10 D0) vN (goodA cA cO CODES.Ok) (valA cA cO CODES.Ok wa) e.op e.kind e.name p (gVl e.vals) q (EXP.row e.kids) C D ((vN_eq hC (by omega)).trans h3) rfl
      have e1 := ((e1.trans (cT (decide_eq_true (by omega)))).trans (cT (gB_eq hC (by omega) (fun h => by omega)))).trans (cF rfl)
      have e1 := e1.trans (cT hg10)
      have e1 := e1.trans (cT (show roomy 56 (0 + (p + 1)) = true from Nat.ble_eq_true_of_le (by omega)))
      have e1 := e1.trans (cT hga)
      have e1 := e1.trans (cT (show (roomy 56 (0 + (p + 1) + 1) && Nat.beq (0 + (p + 1)) (0 + (p + 1))) = true by rw [Nat.beq_refl, Bool.and_true]; exact Nat.ble_eq_true_of_le (by omega)))
      have hv := rowsV he
      rw [hm] at hv
      exact c_finX he.kd he.nm (by omega) (rows_app (rows_cp hv) (rowV_c hpa.1)) (by omega) hx hpa.2 (hc _ (by rw [ha]; exact e1))
theorem cnd_4 (h10 : nextR D0 10 = (4, D)) : ∃ x, ccPost b x ∧ Ct V2.P V2.G 14 (kA (e, C)) (kO (e, C)) (φC x) := by
  have hT := entB_ok (m := 10) (by omega) hD0 h10
  have hkl := he.kl
  have hvl := he.vl
  have hg10 : gB 10 D0 [.ref 1000000 0, .int .i64 10] [codO D0] = true := gB_eq hD0 (by omega) (fun _ => rfl)
  rcases hs with ⟨hq, rfl⟩ | ⟨q, hq, h3⟩
  · have hx : ∀ j, j < 0 → rowX (b + 11) (EXP.row e.kids j) := fun j hj => (rowsX he j (by omega)).mono (by omega)
    have hc := fun r he' => ct_of_run (V := V4) (f := 14) (l := kA (e, D0)) (os := kO (e, D0)) (r := r) (n := 9) (d := 1) (C := []) (T := [entB 10 D0 (4, D)]) (L := []) (W := [([1, 0, 1, 0, 1], fun _ _ => none)]) mixed4 funcs4 (tabOk_cons hT (tabOk_nil)) (fun _ h => (List.not_mem_nil h).elim) (loopsOk_nil) (viewsZ (fun q hq => by cases hq)) he'
    have ha : kA (e, D0) = [.ref keyBase 0, .agg (xc e.op e.kind e.name e.vals.length (gVl e.vals) 0 (EXP.row e.kids))] := by show [_, AV.agg (eC e)] = _; rw [eC_xc hq]
    have e1 := c_4_0 (gB 10 D0) vN e.op e.kind e.name e.vals.length (gVl e.vals) (EXP.row e.kids) D0 D 
    have e1 := e1.trans (cT hg10)
    obtain ⟨ks, k1, k2, k3⟩ := slX (o := .no) hx
    exact c_fin (l := []) he.kd he.nm (Nat.zero_le _) (by intro v hv; cases hv) (by omega) k2 slV0 k3 hD (hc _ (by rw [ha]; exact e1))
  · have hx : ∀ j, j < (q + 1) → rowX (b + 11) (EXP.row e.kids j) := fun j hj => (rowsX he j (by omega)).mono (by omega)
    have hc := fun r he' => ct_of_run (V := V4) (f := 14) (l := kA (e, C)) (os := kO (e, C)) (r := r) (n := 9) (d := 1) (C := []) (T := [entB 10 D0 (4, D)]) (L := []) (W := [([1, 0, 1, 0, 1], fun _ _ => none)]) mixed4 funcs4 (tabOk_cons hT (tabOk_nil)) (fun _ h => (List.not_mem_nil h).elim) (loopsOk_nil) (viewsZ (fun q hq => by cases hq)) he'
    have ha : kA (e, C) = [.ref keyBase 0, .agg (xc e.op e.kind e.name e.vals.length (gVl e.vals) (q + 1) (EXP.row e.kids))] := by show [_, AV.agg (eC e)] = _; rw [eC_xc hq]
    have e1 := c_4_1 (gB 10 D0) vN e.op e.kind e.name e.vals.length (gVl e.vals) q (EXP.row e.kids) C D ((vN_eq hC (by omega)).trans h3)
    have e1 := ((e1.trans (cT (decide_eq_true (by omega)))).trans (cT (gB_eq hC (by omega) (fun h => by omega)))).trans (cF rfl)
    have e1 := e1.trans (cT hg10)
    obtain ⟨ks, k1, k2, k3⟩ := slX (o := .no) hx
    exact c_fin (l := []) he.kd he.nm (Nat.zero_le _) (by intro v hv; cases hv) (by omega) k2 slV0 k3 hD (hc _ (by rw [ha]; exact e1))
theorem cnd_5 (h10 : nextR D0 10 = (5, D)) : ∃ x, ccPost b x ∧ Ct V2.P V2.G 14 (kA (e, C)) (kO (e, C)) (φC x) := by
  have hT := entB_ok (m := 10) (by omega) hD0 h10
  have hkl := he.kl
  have hvl := he.vl
  obtain ⟨s0, s1, sD⟩ := nextR_ok hD (m := 7) (by omega)
  obtain ⟨wu, hwu, htu⟩ := ent_ex (V := V2) (f := 51) (A := cA) (O := cO) (Pre := CODES.Ok) (φ := φX) (Post := fun (_ : CODES) (x : Int × CODES) => x.2.Ok) number_cA
  have hgu : goodA cA cO CODES.Ok [.ref 1000000 0] [codO (nextR D 7).2] = true := goodA_eq (A := cA) (O := cO) (v := (nextR D 7).2) sD
  have hpu : (valA cA cO CODES.Ok wu [.ref 1000000 0] [codO (nextR D 7).2]).2.Ok := valA_post (A := cA) (O := cO) (a := (nextR D 7).2) (Post := fun (_ : CODES) (x : Int × CODES) => x.2.Ok) hwu (fun _ _ _ _ _ h => h) sD
  have hg10 : gB 10 D0 [.ref 1000000 0, .int .i64 10] [codO D0] = true := gB_eq hD0 (by omega) (fun _ => rfl)
  rcases hs with ⟨hq, rfl⟩ | ⟨q, hq, h3⟩
  · have hx : ∀ j, j < 0 → rowX (b + 11) (EXP.row e.kids j) := fun j hj => (rowsX he j (by omega)).mono (by omega)
    have hc := fun r he' => ct_of_run (V := V4) (f := 14) (l := kA (e, D0)) (os := kO (e, D0)) (r := r) (n := 9) (d := 1) (C := []) (T := [entB 10 D0 (5, D), entC 51 cA cO CODES.Ok wu φX]) (L := []) (W := [([1, 0, 1, 0, 1], fun _ _ => none)]) mixed4 funcs4 (tabOk_cons hT (tabOk_cons htu tabOk_nil)) (fun _ h => (List.not_mem_nil h).elim) (loopsOk_nil) (viewsZ (fun q hq => by cases hq)) he'
    have ha : kA (e, D0) = [.ref keyBase 0, .agg (xc e.op e.kind e.name e.vals.length (gVl e.vals) 0 (EXP.row e.kids))] := by show [_, AV.agg (eC e)] = _; rw [eC_xc hq]
    have e1 := c_5_0 (gB 10 D0) vN (goodA cA cO CODES.Ok) (valA cA cO CODES.Ok wu) e.op e.kind e.name e.vals.length (gVl e.vals) (EXP.row e.kids) D0 D (vN_eq hD (by omega)) rfl
    have e1 := e1.trans (cT hg10)
    rw [argN_ne (m := 10) (n := 7) (by omega)] at e1
    simp only [cond_false] at e1
    have e1 := (e1.trans (cT (gB_eq hD (by omega) (fun h => by omega)))).trans (cT hgu)
    obtain ⟨ks, k1, k2, k3⟩ := slX (o := .no) hx
    obtain ⟨l, l1, l2, l3⟩ := slV (o := .fit) (rows1 (get := fillGet [.int .i64 0, .int .i64 0, .str [], .sl .fit 0 0 fun _ => [] ] [(0, .agg [.int .i64 (nextR D 7).1, .int .i64 (valA cA cO CODES.Ok wu [.ref 1000000 0] [codO (nextR D 7).2]).1, .str [], .sl .fit 0 0 fun _ => [] ])]) (rowV_made _ _))
    exact c_fin he.kd he.nm (by omega) l2 (by omega) k2 l3 k3 hpu (hc _ (by rw [ha]; exact e1))
  · have hx : ∀ j, j < (q + 1) → rowX (b + 11) (EXP.row e.kids j) := fun j hj => (rowsX he j (by omega)).mono (by omega)
    have hc := fun r he' => ct_of_run (V := V4) (f := 14) (l := kA (e, C)) (os := kO (e, C)) (r := r) (n := 9) (d := 1) (C := []) (T := [entB 10 D0 (5, D), entC 51 cA cO CODES.Ok wu φX]) (L := []) (W := [([1, 0, 1, 0, 1], fun _ _ => none)]) mixed4 funcs4 (tabOk_cons hT (tabOk_cons htu tabOk_nil)) (fun _ h => (List.not_mem_nil h).elim) (loopsOk_nil) (viewsZ (fun q hq => by cases hq)) he'
    have ha : kA (e, C) = [.ref keyBase 0, .agg (xc e.op e.kind e.name e.vals.length (gVl e.vals) (q + 1) (EXP.row e.kids))] := by show [_, AV.agg (eC e)] = _; rw [eC_xc hq]
    have e1 := c_5_1 (gB 10 D0) vN (goodA cA cO CODES.Ok) (valA cA cO CODES.Ok wu) e.op e.kind e.name e.vals.length (gVl e.vals) q (EXP.row e.kids) C D ((vN_eq hC (by omega)).trans h3) (vN_eq hD (by omega)) rfl
    have e1 := ((e1.trans (cT (decide_eq_true (by omega)))).trans (cT (gB_eq hC (by omega) (fun h => by omega)))).trans (cF rfl)
    have e1 := e1.trans (cT hg10)
    rw [argN_ne (m := 10) (n := 7) (by omega)] at e1
    simp only [cond_false] at e1
    have e1 := (e1.trans (cT (gB_eq hD (by omega) (fun h => by omega)))).trans (cT hgu)
    obtain ⟨ks, k1, k2, k3⟩ := slX (o := .no) hx
    obtain ⟨l, l1, l2, l3⟩ := slV (o := .fit) (rows1 (get := fillGet [.int .i64 0, .int .i64 0, .str [], .sl .fit 0 0 fun _ => [] ] [(0, .agg [.int .i64 (nextR D 7).1, .int .i64 (valA cA cO CODES.Ok wu [.ref 1000000 0] [codO (nextR D 7).2]).1, .str [], .sl .fit 0 0 fun _ => [] ])]) (rowV_made _ _))
    exact c_fin he.kd he.nm (by omega) l2 (by omega) k2 l3 k3 hpu (hc _ (by rw [ha]; exact e1))
theorem cnd_6 (h10 : nextR D0 10 = (6, D)) : ∃ x, ccPost b x ∧ Ct V2.P V2.G 14 (kA (e, C)) (kO (e, C)) (φC x) := by
  have hT := entB_ok (m := 10) (by omega) hD0 h10
  have hkl := he.kl
  have hvl := he.vl
  obtain ⟨wt, hwt, htt⟩ := ent_ex (V := V2) (f := 47) (A := cA) (O := cO) (Pre := CODES.Ok) (φ := φC) (Post := fun (_ : CODES) (x : EXP × CODES) => tPost x) testC_ex
  have hgt : goodA cA cO CODES.Ok [.ref 1000000 0] [codO D] = true := goodA_eq (A := cA) (O := cO) (v := D) hD
  have hpt : tPost (valA cA cO CODES.Ok wt [.ref 1000000 0] [codO D]) := valA_post (A := cA) (O := cO) (a := D) (Post := fun (_ : CODES) (x : EXP × CODES) => tPost x) hwt (fun _ _ _ _ _ h => h) hD
  have hg10 : gB 10 D0 [.ref 1000000 0, .int .i64 10] [codO D0] = true := gB_eq hD0 (by omega) (fun _ => rfl)
  rcases hs with ⟨hq, rfl⟩ | ⟨q, hq, h3⟩
  · have hx : ∀ j, j < 0 → rowX (b + 11) (EXP.row e.kids j) := fun j hj => (rowsX he j (by omega)).mono (by omega)
    have hc := fun r he' => ct_of_run (V := V4) (f := 14) (l := kA (e, D0)) (os := kO (e, D0)) (r := r) (n := 9) (d := 1) (C := []) (T := [entB 10 D0 (6, D), entC 47 cA cO CODES.Ok wt φC]) (L := []) (W := [([1, 0, 1, 0, 1], fun _ _ => none)]) mixed4 funcs4 (tabOk_cons hT (tabOk_cons htt tabOk_nil)) (fun _ h => (List.not_mem_nil h).elim) (loopsOk_nil) (viewsZ (fun q hq => by cases hq)) he'
    have ha : kA (e, D0) = [.ref keyBase 0, .agg (xc e.op e.kind e.name e.vals.length (gVl e.vals) 0 (EXP.row e.kids))] := by show [_, AV.agg (eC e)] = _; rw [eC_xc hq]
    have e1 := c_6_0 (gB 10 D0) vN (goodA cA cO CODES.Ok) (valA cA cO CODES.Ok wt) e.op e.kind e.name e.vals.length (gVl e.vals) (EXP.row e.kids) D0 D rfl
    have e1 := e1.trans (cT hg10)
    have e1 := e1.trans (cT hgt)
    exact c_finX he.kd he.nm (by omega) (rowsV he) (by omega) (rows_app (m := 0) (fun j hj => absurd hj (by omega)) (rowX_c (test_fit hpt.1 (by omega)))) hpt.2 (hc _ (by rw [ha]; exact e1))
  · have hx : ∀ j, j < (q + 1) → rowX (b + 11) (EXP.row e.kids j) := fun j hj => (rowsX he j (by omega)).mono (by omega)
    have hc := fun r he' => ct_of_run (V := V4) (f := 14) (l := kA (e, C)) (os := kO (e, C)) (r := r) (n := 9) (d := 1) (C := []) (T := [entB 10 D0 (6, D), entC 47 cA cO CODES.Ok wt φC]) (L := []) (W := [([1, 0, 1, 0, 1], fun _ _ => none)]) mixed4 funcs4 (tabOk_cons hT (tabOk_cons htt tabOk_nil)) (fun _ h => (List.not_mem_nil h).elim) (loopsOk_nil) (viewsZ (fun q hq => by cases hq)) he'
    have ha : kA (e, C) = [.ref keyBase 0, .agg (xc e.op e.kind e.name e.vals.length (gVl e.vals) (q + 1) (EXP.row e.kids))] := by show [_, AV.agg (eC e)] = _; rw [eC_xc hq]
    have e1 := c_6_1 (gB 10 D0) vN (goodA cA cO CODES.Ok) (valA cA cO CODES.Ok wt) e.op e.kind e.name e.vals.length (gVl e.vals) q (EXP.row e.kids) C D ((vN_eq hC (by omega)).trans h3) rfl
    have e1 := ((e1.trans (cT (decide_eq_true (by omega)))).trans (cT (gB_eq hC (by omega) (fun h => by omega)))).trans (cF rfl)
    have e1 := e1.trans (cT hg10)
    have e1 := e1.trans (cT (show roomy 88 (0 + (q + 1)) = true from Nat.ble_eq_true_of_le (by omega)))
    have e1 := e1.trans (cT hgt)
    have e1 := e1.trans (cT (show (roomy 88 (0 + (q + 1) + 1) && Nat.beq (0 + (q + 1)) (0 + (q + 1))) = true by rw [Nat.beq_refl, Bool.and_true]; exact Nat.ble_eq_true_of_le (by omega)))
    exact c_finX he.kd he.nm (by omega) (rowsV he) (by omega) (rows_app (rows_cp hx) (rowX_c (test_fit hpt.1 (by omega)))) hpt.2 (hc _ (by rw [ha]; exact e1))
theorem cnd_7 (h10 : nextR D0 10 = (7, D)) : ∃ x, ccPost b x ∧ Ct V2.P V2.G 14 (kA (e, C)) (kO (e, C)) (φC x) := by
  have hT := entB_ok (m := 10) (by omega) hD0 h10
  have hkl := he.kl
  have hvl := he.vl
  obtain ⟨w, hw, hlp⟩ := nots_loop b (by omega) (gB 10 D0) (fun l os => cond (argN 10 l) (7, D) (vN l os)) (fun E hE => gB_eq hE (by omega) (fun h => by omega)) (fun E hE => by
    show cond (argN 10 [.ref 1000000 0, .int .i64 3]) (7, D) (vN [.ref 1000000 0, .int .i64 3] [codO E]) = _
    rw [argN_ne (by decide)]; exact vN_eq hE (by omega)) []
  have hnI : nI b (e, D, 0) := ⟨he, hD, Nat.zero_le _⟩
  have hgl : goodS nS (nI b) (nS (e, D, 0)) = true := goodS_eq (S := nS) hnI
  have hpl : Fit b (valS nS (nI b) w (nS (e, D, 0))).1 ∧ (valS nS (nI b) w (nS (e, D, 0))).2.Ok := valS_post (S := nS) (Post := fun _ (x : EXP × CODES) => Fit b x.1 ∧ x.2.Ok) hw (fun _ _ _ _ h => h) hnI
  have hg10 : gB 10 D0 [.ref 1000000 0, .int .i64 10] [codO D0] = true := gB_eq hD0 (by omega) (fun _ => rfl)
  rcases hs with ⟨hq, rfl⟩ | ⟨q, hq, h3⟩
  · have hx : ∀ j, j < 0 → rowX (b + 11) (EXP.row e.kids j) := fun j hj => (rowsX he j (by omega)).mono (by omega)
    have hst : ({ env := [(0, .ref 1000000 0), (3, .ref 3 0), (4, .ref 4 0), (6, .int .i64 0)], objs := [(3, .cells (xc e.op e.kind e.name e.vals.length (gVl e.vals) 0 (EXP.row e.kids))), (4, .cells ex0), (1000000, codO D)] } : St) = nS (e, D, 0) := by unfold nS NL; rw [eC_xc hq]; rfl
    have hc := fun r he' => ct_of_run (V := V4) (f := 14) (l := kA (e, D0)) (os := kO (e, D0)) (r := r) (n := 9) (d := 1) (C := []) (T := [entB 10 D0 (7, D)]) (L := [([1, 1, 0, 1, 0, 1, 1, 1, 1, 1, 1, 1, 1, 1, 1, 1, 1, 1, 1, 1, 0, 1, 0], mkO (goodS nS (nI b)) (valS nS (nI b) w) outN)]) (W := [([1, 0, 1, 0, 1], fun _ _ => none), ([1, 1, 0, 1, 0, 1, 1, 1, 1, 1, 1, 1, 1, 1, 1, 1, 1, 1, 1, 1, 0, 1, 0, 0, 1, 1], mkV (goodS nB (nBI b)) (vwN b) SN)]) mixed4 funcs4 (tabOk_cons hT (tabOk_nil)) (fun _ h => (List.not_mem_nil h).elim) (loopsOk_cons (hlp _) loopsOk_nil) (viewsZ (views1 (viewN_ok b))) he'
    have ha : kA (e, D0) = [.ref keyBase 0, .agg (xc e.op e.kind e.name e.vals.length (gVl e.vals) 0 (EXP.row e.kids))] := by show [_, AV.agg (eC e)] = _; rw [eC_xc hq]
    have e1 := c_7_0 (gB 10 D0) vN (goodS nS (nI b)) (valS nS (nI b) w) (mkV (goodS nB (nBI b)) (vwN b) SN) e.op e.kind e.name e.vals.length (gVl e.vals) (EXP.row e.kids) D0 D (t1 := valS nS (nI b) w (nS (e, D, 0))) (by rw [hst])
    have e1 := e1.trans (cT hg10)
    have e1 := e1.trans (cT (by rw [hst]; exact hgl))
    exact ⟨_, ⟨hpl.1.mono (by omega), hpl.2⟩, (hc _ (by rw [ha]; exact e1))⟩
  · have hx : ∀ j, j < (q + 1) → rowX (b + 11) (EXP.row e.kids j) := fun j hj => (rowsX he j (by omega)).mono (by omega)
    have hst : ({ env := [(0, .ref 1000000 0), (3, .ref 3 0), (4, .ref 4 0), (6, .int .i64 0)], objs := [(3, .cells (xc e.op e.kind e.name e.vals.length (gVl e.vals) (q + 1) (EXP.row e.kids))), (4, .cells ex0), (1000000, codO D)] } : St) = nS (e, D, 0) := by unfold nS NL; rw [eC_xc hq]; rfl
    have hc := fun r he' => ct_of_run (V := V4) (f := 14) (l := kA (e, C)) (os := kO (e, C)) (r := r) (n := 9) (d := 1) (C := []) (T := [entB 10 D0 (7, D)]) (L := [([1, 1, 0, 1, 0, 1, 1, 1, 1, 1, 1, 1, 1, 1, 1, 1, 1, 1, 1, 1, 0, 1, 0], mkO (goodS nS (nI b)) (valS nS (nI b) w) outN)]) (W := [([1, 0, 1, 0, 1], fun _ _ => none), ([1, 1, 0, 1, 0, 1, 1, 1, 1, 1, 1, 1, 1, 1, 1, 1, 1, 1, 1, 1, 0, 1, 0, 0, 1, 1], mkV (goodS nB (nBI b)) (vwN b) SN)]) mixed4 funcs4 (tabOk_cons hT (tabOk_nil)) (fun _ h => (List.not_mem_nil h).elim) (loopsOk_cons (hlp _) loopsOk_nil) (viewsZ (views1 (viewN_ok b))) he'
    have ha : kA (e, C) = [.ref keyBase 0, .agg (xc e.op e.kind e.name e.vals.length (gVl e.vals) (q + 1) (EXP.row e.kids))] := by show [_, AV.agg (eC e)] = _; rw [eC_xc hq]
    have e1 := c_7_1 (gB 10 D0) vN (goodS nS (nI b)) (valS nS (nI b) w) (mkV (goodS nB (nBI b)) (vwN b) SN) e.op e.kind e.name e.vals.length (gVl e.vals) q (EXP.row e.kids) C D ((vN_eq hC (by omega)).trans h3) (t2 := valS nS (nI b) w (nS (e, D, 0))) (by rw [hst])
    have e1 := ((e1.trans (cT (decide_eq_true (by omega)))).trans (cT (gB_eq hC (by omega) (fun h => by omega)))).trans (cF rfl)
    have e1 := e1.trans (cT hg10)
    have e1 := e1.trans (cT (by rw [hst]; exact hgl))
    exact ⟨_, ⟨hpl.1.mono (by omega), hpl.2⟩, (hc _ (by rw [ha]; exact e1))⟩
theorem cnd_8 (h10 : nextR D0 10 = (8, D)) : ∃ x, ccPost b x ∧ Ct V2.P V2.G 14 (kA (e, C)) (kO (e, C)) (φC x) := by
  have hT := entB_ok (m := 10) (by omega) hD0 h10
  have hkl := he.kl
  have hvl := he.vl
  obtain ⟨wt, hwt, htt⟩ := ent_ex (V := V2) (f := 47) (A := cA) (O := cO) (Pre := CODES.Ok) (φ := φC) (Post := fun (_ : CODES) (x : EXP × CODES) => tPost x) testC_ex
  have hgt : goodA cA cO CODES.Ok [.ref 1000000 0] [codO D] = true := goodA_eq (A := cA) (O := cO) (v := D) hD
  have hpt : tPost (valA cA cO CODES.Ok wt [.ref 1000000 0] [codO D]) := valA_post (A := cA) (O := cO) (a := D) (Post := fun (_ : CODES) (x : EXP × CODES) => tPost x) hwt (fun _ _ _ _ _ h => h) hD
  have hg10 : gB 10 D0 [.ref 1000000 0, .int .i64 10] [codO D0] = true := gB_eq hD0 (by omega) (fun _ => rfl)
  rcases hs with ⟨hq, rfl⟩ | ⟨q, hq, h3⟩
  · have hx : ∀ j, j < 0 → rowX (b + 11) (EXP.row e.kids j) := fun j hj => (rowsX he j (by omega)).mono (by omega)
    let y : KV := ⟨e.op, e.kind, e.name, e.vals.length, gVl e.vals, 0, EXP.row e.kids, D⟩
    obtain ⟨w, hw, hlp⟩ := adds_loop8 (gB 10 D0) (fun l os => cond (argN 10 l) (8, D) (vN l os)) b b (by omega) (by omega) y hwt htt
    have hkI : kI b b (y, 0) := ⟨⟨he.kd, he.nm, by show e.vals.length ≤ b; omega, rowsV he, hD⟩, by show 0 ≤ 11; omega, Nat.zero_le _, by show 0 ≤ b + 0; omega, fun j hj => rowsX he j (by have : j < 0 := hj; omega)⟩
    have hgl : goodS (kS y) (kI b b) (kS y (y, 0)) = true := goodS_eq (S := kS y) hkI
    have hpl : kZ b b (valS (kS y) (kI b b) w (kS y (y, 0))) := valS_post (S := kS y) (Post := fun _ (x : KV) => kZ b b x) hw (fun _ _ _ _ h => h) hkI
    have hc := fun r he' => ct_of_run (V := V4) (f := 14) (l := kA (e, D0)) (os := kO (e, D0)) (r := r) (n := 9) (d := 1) (C := []) (T := [entB 10 D0 (8, D), entC 47 cA cO CODES.Ok wt φC]) (L := [([1, 1, 0, 1, 0, 1, 1, 1, 1, 1, 1, 1, 1, 1, 1, 1, 1, 1, 1, 1, 1, 1, 0, 1, 0, 1, 0], mkO (goodS (kS y) (kI b b)) (valS (kS y) (kI b b) w) (outK y))]) (W := [([1, 0, 1, 0, 1], fun _ _ => none), ([1, 1, 0, 1, 0, 1, 1, 1, 1, 1, 1, 1, 1, 1, 1, 1, 1, 1, 1, 1, 1, 1, 0, 1, 0, 1, 0, 0, 1, 1], mkV (goodS (kB y) (fun _ => True)) (valS (kB y) (fun _ => True) id) (SK y))]) mixed4 funcs4 (tabOk_cons hT (tabOk_cons htt tabOk_nil)) (fun _ h => (List.not_mem_nil h).elim) (loopsOk_cons (hlp _) loopsOk_nil) (viewsZ (views1 (viewK_ok y))) he'
    have ha : kA (e, D0) = [.ref keyBase 0, .agg (xc e.op e.kind e.name e.vals.length (gVl e.vals) 0 (EXP.row e.kids))] := by show [_, AV.agg (eC e)] = _; rw [eC_xc hq]
    have e1 := c_8_0 (gB 10 D0) vN (goodA cA cO CODES.Ok) (valA cA cO CODES.Ok wt) (goodS (kS y) (kI (b) b)) (valS (kS y) (kI (b) b) w) (mkV (goodS (kB y) (fun _ => True)) (valS (kB y) (fun _ => True) id) (SK y)) e.op e.kind e.name e.vals.length (gVl e.vals) (EXP.row e.kids) D0 D rfl
    have e1 := e1.trans (cT hg10)
    have e1 := e1.trans (cT hgl)
    exact c_finX hpl.1.kd hpl.1.nm (Nat.le_trans hpl.1.m (by omega)) hpl.1.gv hpl.2.1 (fun j hj => (hpl.2.2 j hj).mono (by omega)) hpl.1.C (hc _ (by rw [ha]; exact e1))
  · have hx : ∀ j, j < (q + 1) → rowX (b + 11) (EXP.row e.kids j) := fun j hj => (rowsX he j (by omega)).mono (by omega)
    let y : KV := ⟨e.op, e.kind, e.name, e.vals.length, gVl e.vals, (q + 1), EXP.row e.kids, D⟩
    obtain ⟨w, hw, hlp⟩ := adds_loop8 (gB 10 D0) (fun l os => cond (argN 10 l) (8, D) (vN l os)) b b (by omega) (by omega) y hwt htt
    have hkI : kI b b (y, 0) := ⟨⟨he.kd, he.nm, by show e.vals.length ≤ b; omega, rowsV he, hD⟩, by show 0 ≤ 11; omega, Nat.zero_le _, by show (q + 1) ≤ b + 0; omega, fun j hj => rowsX he j (by have : j < (q + 1) := hj; omega)⟩
    have hgl : goodS (kS y) (kI b b) (kS y (y, 0)) = true := goodS_eq (S := kS y) hkI
    have hpl : kZ b b (valS (kS y) (kI b b) w (kS y (y, 0))) := valS_post (S := kS y) (Post := fun _ (x : KV) => kZ b b x) hw (fun _ _ _ _ h => h) hkI
    have hc := fun r he' => ct_of_run (V := V4) (f := 14) (l := kA (e, C)) (os := kO (e, C)) (r := r) (n := 9) (d := 1) (C := []) (T := [entB 10 D0 (8, D), entC 47 cA cO CODES.Ok wt φC]) (L := [([1, 1, 0, 1, 0, 1, 1, 1, 1, 1, 1, 1, 1, 1, 1, 1, 1, 1, 1, 1, 1, 1, 0, 1, 0, 1, 0], mkO (goodS (kS y) (kI b b)) (valS (kS y) (kI b b) w) (outK y))]) (W := [([1, 0, 1, 0, 1], fun _ _ => none), ([1, 1, 0, 1, 0, 1, 1, 1, 1, 1, 1, 1, 1, 1, 1, 1, 1, 1, 1, 1, 1, 1, 0, 1, 0, 1, 0, 0, 1, 1], mkV (goodS (kB y) (fun _ => True)) (valS (kB y) (fun _ => True) id) (SK y))]) mixed4 funcs4 (tabOk_cons hT (tabOk_cons htt tabOk_nil)) (fun _ h => (List.not_mem_nil h).elim) (loopsOk_cons (hlp _) loopsOk_nil) (viewsZ (views1 (viewK_ok y))) he'
    have ha : kA (e, C) = [.ref keyBase 0, .agg (xc e.op e.kind e.name e.vals.length (gVl e.vals) (q + 1) (EXP.row e.kids))] := by show [_, AV.agg (eC e)] = _; rw [eC_xc hq]
    have e1 := c_8_1 (gB 10 D0) vN (goodA cA cO CODES.Ok) (valA cA cO CODES.Ok wt) (goodS (kS y) (kI (b) b)) (valS (kS y) (kI (b) b) w) (mkV (goodS (kB y) (fun _ => True)) (valS (kB y) (fun _ => True) id) (SK y)) e.op e.kind e.name e.vals.length (gVl e.vals) q (EXP.row e.kids) C D ((vN_eq hC (by omega)).trans h3) rfl
    have e1 := ((e1.trans (cT (decide_eq_true (by omega)))).trans (cT (gB_eq hC (by omega) (fun h => by omega)))).trans (cF rfl)
    have e1 := e1.trans (cT hg10)
    have e1 := e1.trans (cT hgl)
    exact c_finX hpl.1.kd hpl.1.nm (Nat.le_trans hpl.1.m (by omega)) hpl.1.gv hpl.2.1 (fun j hj => (hpl.2.2 j hj).mono (by omega)) hpl.1.C (hc _ (by rw [ha]; exact e1))
theorem cnd_9 (h10 : nextR D0 10 = (9, D)) : ∃ x, ccPost b x ∧ Ct V2.P V2.G 14 (kA (e, C)) (kO (e, C)) (φC x) := by
  have hT := entB_ok (m := 10) (by omega) hD0 h10
  have hkl := he.kl
  have hvl := he.vl
  obtain ⟨wt, hwt, htt⟩ := ent_ex (V := V2) (f := 47) (A := cA) (O := cO) (Pre := CODES.Ok) (φ := φC) (Post := fun (_ : CODES) (x : EXP × CODES) => tPost x) testC_ex
  have hgt : goodA cA cO CODES.Ok [.ref 1000000 0] [codO D] = true := goodA_eq (A := cA) (O := cO) (v := D) hD
  have hpt : tPost (valA cA cO CODES.Ok wt [.ref 1000000 0] [codO D]) := valA_post (A := cA) (O := cO) (a := D) (Post := fun (_ : CODES) (x : EXP × CODES) => tPost x) hwt (fun _ _ _ _ _ h => h) hD
  have hg10 : gB 10 D0 [.ref 1000000 0, .int .i64 10] [codO D0] = true := gB_eq hD0 (by omega) (fun _ => rfl)
  rcases hs with ⟨hq, rfl⟩ | ⟨q, hq, h3⟩
  · have hx : ∀ j, j < 0 → rowX (b + 11) (EXP.row e.kids j) := fun j hj => (rowsX he j (by omega)).mono (by omega)
    have hc := fun r he' => ct_of_run (V := V4) (f := 14) (l := kA (e, D0)) (os := kO (e, D0)) (r := r) (n := 9) (d := 1) (C := []) (T := [entB 10 D0 (9, D), entC 47 cA cO CODES.Ok wt φC]) (L := []) (W := [([1, 0, 1, 0, 1], fun _ _ => none)]) mixed4 funcs4 (tabOk_cons hT (tabOk_cons htt tabOk_nil)) (fun _ h => (List.not_mem_nil h).elim) (loopsOk_nil) (viewsZ (fun q hq => by cases hq)) he'
    have ha : kA (e, D0) = [.ref keyBase 0, .agg (xc e.op e.kind e.name e.vals.length (gVl e.vals) 0 (EXP.row e.kids))] := by show [_, AV.agg (eC e)] = _; rw [eC_xc hq]
    have e1 := c_9_0 (gB 10 D0) vN (goodA cA cO CODES.Ok) (valA cA cO CODES.Ok wt) e.op e.kind e.name e.vals.length (gVl e.vals) (EXP.row e.kids) D0 D rfl
    have e1 := e1.trans (cT hg10)
    have e1 := e1.trans (cT hgt)
    have hself : rowX (b + 11) (xc e.op e.kind e.name e.vals.length (gVl e.vals) 0 (EXP.row e.kids)) := by rw [← eC_xc hq]; exact rowX_c (he.mono (by omega))
    obtain ⟨ks, k1, k2, k3⟩ := slX (b := b + 11) (o := .fit) (rows2 (get := fillGet ex0 [(0, .agg (xc e.op e.kind e.name e.vals.length (gVl e.vals) 0 (EXP.row e.kids))), (1, .agg (eC (valA cA cO CODES.Ok wt [.ref 1000000 0] [codO D]).1))]) hself (rowX_c (test_fit hpt.1 (by omega))))
    exact c_fin (l := []) (kd := []) (nm := []) (Nat.zero_le _) (Nat.zero_le _) (Nat.zero_le _) (by intro v hv; cases hv) (by omega) k2 slV0 k3 hpt.2 (hc _ (by rw [ha]; exact e1))
  · have hx : ∀ j, j < (q + 1) → rowX (b + 11) (EXP.row e.kids j) := fun j hj => (rowsX he j (by omega)).mono (by omega)
    have hc := fun r he' => ct_of_run (V := V4) (f := 14) (l := kA (e, C)) (os := kO (e, C)) (r := r) (n := 9) (d := 1) (C := []) (T := [entB 10 D0 (9, D), entC 47 cA cO CODES.Ok wt φC]) (L := []) (W := [([1, 0, 1, 0, 1], fun _ _ => none)]) mixed4 funcs4 (tabOk_cons hT (tabOk_cons htt tabOk_nil)) (fun _ h => (List.not_mem_nil h).elim) (loopsOk_nil) (viewsZ (fun q hq => by cases hq)) he'
    have ha : kA (e, C) = [.ref keyBase 0, .agg (xc e.op e.kind e.name e.vals.length (gVl e.vals) (q + 1) (EXP.row e.kids))] := by show [_, AV.agg (eC e)] = _; rw [eC_xc hq]
    have e1 := c_9_1 (gB 10 D0) vN (goodA cA cO CODES.Ok) (valA cA cO CODES.Ok wt) e.op e.kind e.name e.vals.length (gVl e.vals) q (EXP.row e.kids) C D ((vN_eq hC (by omega)).trans h3) rfl
    have e1 := ((e1.trans (cT (decide_eq_true (by omega)))).trans (cT (gB_eq hC (by omega) (fun h => by omega)))).trans (cF rfl)
    have e1 := e1.trans (cT hg10)
    have e1 := e1.trans (cT hgt)
    have hself : rowX (b + 11) (xc e.op e.kind e.name e.vals.length (gVl e.vals) (q + 1) (EXP.row e.kids)) := by rw [← eC_xc hq]; exact rowX_c (he.mono (by omega))
    obtain ⟨ks, k1, k2, k3⟩ := slX (b := b + 11) (o := .fit) (rows2 (get := fillGet ex0 [(0, .agg (xc e.op e.kind e.name e.vals.length (gVl e.vals) (q + 1) (EXP.row e.kids))), (1, .agg (eC (valA cA cO CODES.Ok wt [.ref 1000000 0] [codO D]).1))]) hself (rowX_c (test_fit hpt.1 (by omega))))
    exact c_fin (l := []) (kd := []) (nm := []) (Nat.zero_le _) (Nat.zero_le _) (Nat.zero_le _) (by intro v hv; cases hv) (by omega) k2 slV0 k3 hpt.2 (hc _ (by rw [ha]; exact e1))
end
end Go.SH

namespace Go.SH
open Go Go.Ab Go.Proofs
set_option linter.unusedVariables false
set_option linter.unusedSimpArgs false
theorem cutZ_ok {X : Cfg} {f : FuncId} {p : List Nat} : CutOk X f p (mkO (fun _ => false) (fun _ => ()) (fun _ _ => none)) := fun _ _ _ h => by cases h
def kP (b n : Nat) (x : EXP × CODES) : Prop := Fit b x.1 ∧ x.2.Ok ∧ SizeOf.sizeOf x.1 < n
theorem cond_rec {b n : Nat} (hb : 20 ≤ b) (hb' : b ≤ 1000) {wc : EXP × CODES → EXP × CODES} (hwc : ∀ x, kP b n x → ccPost b (wc x)) (htc : ∀ l os, (entC 14 kA kO (kP b n) wc φC).pre l os = true → Ct V2.P V2.G (entC 14 kA kO (kP b n) wc φC).f l os ((entC 14 kA kO (kP b n) wc φC).ans l os))
    {e : EXP} (he : Fit b e) (hn : SizeOf.sizeOf e ≤ n) {C D0 : CODES} (hC : C.Ok) (hD0 : D0.Ok) {q : Nat} (hq : e.kids.length = q + 1) {k : Int} (hk : 0 < k) (h3 : nextR C 3 = (k, D0)) : ∃ x, ccPost b x ∧ Ct V2.P V2.G 14 (kA (e, C)) (kO (e, C)) (φC x) := by
  have hkl := he.kl
  obtain ⟨a0, a1, aD⟩ := nextR_ok hD0 (m := ((q + 1 : Nat) : Int)) (by omega)
  cases hx : nextR D0 ((q + 1 : Nat) : Int) with
  | mk i D1 =>
  rw [hx] at a0 a1 aD
  have a0 : 0 ≤ i := a0
  have a1 : i < ((q + 1 : Nat) : Int) := a1
  have aD : D1.Ok := aD
  have hj : i.toNat < e.kids.length := by omega
  have hmem : e.kids.getD i.toNat default ∈ e.kids := by
    rw [List.getD_eq_getElem?_getD, List.getElem?_eq_getElem hj]
    exact List.getElem_mem hj
  have hkf : Fit b (e.kids.getD i.toNat default) := by
    cases he with
    | mk _ _ _ _ _ _ h6 => exact h6 _ hmem
  have hks : SizeOf.sizeOf (e.kids.getD i.toNat default) < n := by
    have h1 := List.sizeOf_lt_of_mem hmem
    have h2 : SizeOf.sizeOf e.kids < SizeOf.sizeOf e := by
      cases e with
      | mk op kd nm vs ks => simp only [EXP.kids, EXP.mk.sizeOf_spec]; omega
    omega
  have hP : kP b n (e.kids.getD i.toNat default, D1) := ⟨hkf, aD, hks⟩
  have hgc : goodA kA kO (kP b n) [.ref 1000000 0, .agg (eC (e.kids.getD i.toNat default))] [codO D1] = true := goodA_eq (A := kA) (O := kO) hP
  have hpc : ccPost b (valA kA kO (kP b n) wc [.ref 1000000 0, .agg (eC (e.kids.getD i.toNat default))] [codO D1]) := valA_post (A := kA) (O := kO) (a := (e.kids.getD i.toNat default, D1)) (Post := fun _ (x : EXP × CODES) => ccPost b x) hwc (fun _ _ _ _ _ h => h) hP
  generalize ht : valA kA kO (kP b n) wc [.ref 1000000 0, .agg (eC (e.kids.getD i.toNat default))] [codO D1] = t at hpc
  have hvB : ∀ v : KV, valS bB (fun _ => True) id (bB v) = v := fun v => valS_eq (S := bB) (fun a b _ _ h => bB_inj a b h) trivial
  have hgB : ∀ v : KV, goodS bB (fun _ => True) (bB v) = true := fun v => goodS_eq (S := bB) trivial
  have e1 := c_rec gN (goodA kA kO (kP b n)) vN (valA kA kO (kP b n) wc)
    (goodS (fun _ : Unit => ({ env := [(0, .ref keyBase 0), (3, .ref 3 0), (4, .ref 4 0)], objs := [(3, .cells (gcell e.op e.kind e.name e.vals.length (gVl e.vals) (0 + (q + 1)))), (4, .cells ex0), (20, .grw 5 (0 + (q + 1)) (appGet 0 (q + 1) (fun _ => []) (EXP.row e.kids))), (keyBase, codO D0)] } : St)) (fun _ => True))
    (goodS bB (fun _ => True)) (fun _ => (⟨e.op, e.kind, e.name, e.vals.length, gVl e.vals, e.kids, D0⟩ : K1)) (valS bB (fun _ => True) id) e.op e.kind e.name e.vals.length (gVl e.vals) q (EXP.row e.kids) C
    (t1 := (k, D0)) ((vN_eq hC (by omega)).trans h3) (t2 := ⟨e.op, e.kind, e.name, e.vals.length, gVl e.vals, e.kids, D0⟩) rfl (t3 := (i, D1)) ((vN_eq hD0 (by omega)).trans hx) (t4 := t) ht (hvB ⟨e.op, e.kind, e.name, e.vals.length, gVl e.vals, q + 1, _, t.2⟩)
  have hin : (within i (q + 1) && Nat.beq (q + 1) (q + 1)) = true := by
    rw [Nat.beq_refl, Bool.and_true]; exact within_of a0 a1
  have hlt : (Nat.blt i.toNat (q + 1) && Nat.beq (q + 1) (q + 1)) = true := by
    rw [Nat.beq_refl, Bool.and_true]; exact bltT (by omega)
  have e1 := (e1.trans (cT (decide_eq_true (by omega)))).trans (cT (gN_eq hC (by omega)))
  have e1 := e1.trans (cT (decide_eq_true hk))
  have e1 := e1.trans (cT (show roomy 88 (0 + (q + 1)) = true from Nat.ble_eq_true_of_le (by omega)))
  have e1 := e1.trans (cT (goodS_eq (S := fun _ : Unit => ({ env := [(0, .ref keyBase 0), (3, .ref 3 0), (4, .ref 4 0)], objs := [(3, .cells (gcell e.op e.kind e.name e.vals.length (gVl e.vals) (0 + (q + 1)))), (4, .cells ex0), (20, .grw 5 (0 + (q + 1)) (appGet 0 (q + 1) (fun _ => []) (EXP.row e.kids))), (keyBase, codO D0)] } : St)) (v := ()) trivial))
  have e1 := e1.trans (cT (gN_eq hD0 (by omega)))
  have e1 := ((((e1.trans (cT hin)).trans (cT hlt)).trans (cT hgc)).trans (cT hin)).trans (cT hlt)
  have e1 := e1.trans (cT (hgB ⟨e.op, e.kind, e.name, e.vals.length, gVl e.vals, q + 1, _, t.2⟩))
  have ha : kA (e, C) = [.ref keyBase 0, .agg (xc e.op e.kind e.name e.vals.length (gVl e.vals) (q + 1) (EXP.row e.kids))] := by show [_, AV.agg (eC e)] = _; rw [eC_xc hq]
  have hc := fun r he' => ct_of_run (V := V4) (f := 14) (l := kA (e, C)) (os := kO (e, C)) (r := r) (n := 9) (d := 1) (C := [([1, 1], mkO (fun _ => false) (fun _ => ()) (fun _ _ => none))]) (T := [entN, entC 14 kA kO (kP b n) wc φC]) (L := [])
    (W := [([1, 0, 1, 0, 1], mkV (goodS (fun _ : Unit => ({ env := [(0, .ref keyBase 0), (3, .ref 3 0), (4, .ref 4 0)], objs := [(3, .cells (gcell e.op e.kind e.name e.vals.length (gVl e.vals) (0 + (q + 1)))), (4, .cells ex0), (20, .grw 5 (0 + (q + 1)) (appGet 0 (q + 1) (fun _ => []) (EXP.row e.kids))), (keyBase, codO D0)] } : St)) (fun _ => True)) (fun _ => (⟨e.op, e.kind, e.name, e.vals.length, gVl e.vals, e.kids, D0⟩ : K1)) (CS1 (q + 1))), ([1, 0, 1, 0, 1, 1, 1], mkV (goodS bB (fun _ => True)) (valS bB (fun _ => True) id) CS2)])
    mixed4 funcs4 (tabOk_cons entN_ok (tabOk_cons htc tabOk_nil)) (fun q hq => by rw [List.mem_singleton] at hq; subst hq; exact cutZ_ok) loopsOk_nil
    (fun q hq => by
      simp only [List.mem_cons, List.not_mem_nil, or_false] at hq
      rcases hq with rfl | rfl
      · exact viewA_ok (by omega)
      · exact viewB_ok) he'
  refine c_finX he.kd he.nm (Nat.le_trans he.vl (by omega)) (rowsV he) (n := q + 1) (by omega) (fun j hj => ?_) hpc.2 (hc _ (by rw [ha]; exact e1))
  show rowX (b + 11) (bif Nat.beq j i.toNat then eC t.1 else eC (e.kids.getD j default))
  cases Nat.beq j i.toNat with
  | true => exact rowX_c hpc.1
  | false =>
    have := (rowsX he j (by omega)).mono (b' := b + 11) (by omega)
    rw [row_eC (by omega)] at this
    exact this
theorem cond_all (b : Nat) (hb : 20 ≤ b) (hb' : b ≤ 1000) : ∀ n, ∀ x : EXP × CODES, kP b n x → ∃ y, ccPost b y ∧ Ct V2.P V2.G 14 (kA x) (kO x) (φC y)
  | 0 => fun x hx => absurd hx.2.2 (by omega)
  | n + 1 => fun ⟨e, C⟩ ⟨he, hC, hs⟩ => by
    have he : Fit b e := he
    have hC : C.Ok := hC
    have hs : SizeOf.sizeOf e < n + 1 := hs
    obtain ⟨wc, hwc, htc⟩ := ent_ex (V := V2) (f := 14) (A := kA) (O := kO) (Pre := kP b n) (φ := φC) (Post := fun _ y => ccPost b y) (cond_all b hb hb' n)
    have tail : ∀ D0 : CODES, D0.Ok → ((e.kids.length = 0 ∧ D0 = C) ∨ (∃ q, e.kids.length = q + 1 ∧ nextR C 3 = (0, D0))) → ∃ x, ccPost b x ∧ Ct V2.P V2.G 14 (kA (e, C)) (kO (e, C)) (φC x) := fun D0 hD0 h => by
      obtain ⟨r0, r1, rD⟩ := nextR_ok hD0 (m := 10) (by omega)
      cases h10 : nextR D0 10 with
      | mk r D =>
      rw [h10] at r0 r1 rD
      have r0 : 0 ≤ r := r0
      have r1 : r < 10 := r1
      have rD : D.Ok := rD
      have hr : r = 0 ∨ r = 1 ∨ r = 2 ∨ r = 3 ∨ r = 4 ∨ r = 5 ∨ r = 6 ∨ r = 7 ∨ r = 8 ∨ r = 9 := by omega
      rcases hr with rfl | rfl | rfl | rfl | rfl | rfl | rfl | rfl | rfl | rfl
      · exact cnd_0 hb hb' he hC hD0 rD h h10
      · exact cnd_1 hb hb' he hC hD0 rD h h10
      · exact cnd_2 hb hb' he hC hD0 rD h h10
      · exact cnd_3 hb hb' he hC hD0 rD h h10
      · exact cnd_4 hb hb' he hC hD0 rD h h10
      · exact cnd_5 hb hb' he hC hD0 rD h h10
      · exact cnd_6 hb hb' he hC hD0 rD h h10
      · exact cnd_7 hb hb' he hC hD0 rD h h10
      · exact cnd_8 hb hb' he hC hD0 rD h h10
      · exact cnd_9 hb hb' he hC hD0 rD h h10
    rcases hq : e.kids.length with _ | q
    · exact tail C hC (.inl ⟨hq, rfl⟩)
    · obtain ⟨s0, s1, sD⟩ := nextR_ok hC (m := 3) (by omega)
      cases h3 : nextR C 3 with
      | mk k D0 =>
      rw [h3] at s0 s1 sD
      have s0 : 0 ≤ k := s0
      have sD : D0.Ok := sD
      by_cases hk : k = 0
      · subst hk
        exact tail D0 sD (.inr ⟨q, hq, h3⟩)
      · exact cond_rec hb hb' hwc htc he (by omega) hC sD hq (by omega) h3
theorem cond_ex (b : Nat) (hb : 20 ≤ b) (hb' : b ≤ 1000) (x : EXP × CODES) (hx : Fit b x.1 ∧ x.2.Ok) : ∃ y, ccPost b y ∧ Ct V2.P V2.G 14 (kA x) (kO x) (φC y) := cond_all b hb hb' (SizeOf.sizeOf x.1 + 1) x ⟨hx.1, hx.2, by omega⟩
end Go.SH

namespace Go.SH
open Go Go.Ab Go.Proofs
set_option linter.unusedVariables false
set_option linter.unusedSimpArgs false
noncomputable def V5 : Env := { V4 with hint := fun f t => cond (Nat.beq f 21) (hn [0, 3, 4, 5] [3, 4, 64] [] [(3, 5, 64, 45)]) (V4.hint f t) }
def zE : EXP := .mk 0 [] [] [] []
def xC (k l f s : List UInt8) (st : Int) (cl ar : AV) (w : EXP) : List AV := [.str k, .str l, .str f, .str s, .int .i64 st, cl, ar, .int .i64 w.op, .str w.kind, .str w.name, valL w.vals, .sl .no 5 w.kids.length (EXP.row w.kids)]
def x0 : List AV := [.str [], .str [], .str [], .str [], .int .i64 0, .sl .fit 0 0 fun _ => [], .sl .fit 0 0 fun _ => [], .int .i64 0, .str [], .str [], .sl .fit 0 0 fun _ => [], .sl .fit 0 0 fun _ => [] ]
def spA (x : (Int × Int)) : Nat → List AV := fun _ => [.int .i64 x.1, .int .i64 x.2]
def XS0' (l : List RG) (C : CODES) : St := { env := [(0, .ref keyBase 0), (3, .ref 3 0), (4, .ref 4 0), (5, .int .i64 0)], objs := [(3, .cells (xC [] [] [] [] 0 (.sl (.key 64) 2 0 fun _ => [.int .i64 0, .int .i64 0]) (rngL l) zE)), (4, .cells x0), (keyBase, codO C), (64, .own 2 0)] }
def XSm (l : List RG) (m : Nat) (get : Nat → List AV) (C : CODES) (i : Int) : St := { env := [(0, .ref keyBase 0), (3, .ref 3 0), (4, .ref 4 0), (5, .int .i64 i)], objs := [(3, .cells (xC [] [] [] [] 0 (.sl (.key 64) 2 m get) (rngL l) zE)), (4, .cells x0), (64, .own 2 m), (keyBase, codO C)] }
structure XO where
  m : Nat
  get : Nat → List AV
  C : CODES
instance : Inhabited XO := ⟨⟨0, fun _ => [], default⟩⟩
def outX5 (l : List RG) (x : XO) (k : Ex → St → Res) : Res := k (.exit 1) { env := [(3, .ref 3 0), (4, .ref 4 0)], objs := [(3, .cells (xC [] [] [] [] 0 (.sl (.key 64) 2 x.m x.get) (rngL l) zE)), (4, .cells x0), (64, .own 2 x.m), (keyBase, codO x.C)] }
end Go.SH
