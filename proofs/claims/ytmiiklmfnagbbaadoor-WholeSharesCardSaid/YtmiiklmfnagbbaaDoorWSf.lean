/- WholeShares: its run answers true. -/
import Derived.Test.YtmiiklmfnagbbaaDoorWSe
import Derived.Test.YtmiiklmfnagbbaaDoorWS1
namespace Go.WS
open Go Go.Ab Go.Proofs
set_option linter.unusedVariables false
set_option linter.unusedSimpArgs false
theorem mul_bd {x y A B : Int} (h1 : 0 ≤ x) (h2 : x ≤ A) (h3 : 0 ≤ y) (h4 : y ≤ B) : 0 ≤ x * y ∧ x * y ≤ A * B :=
  ⟨Int.mul_nonneg h1 h3, Int.mul_le_mul h2 h4 h3 (by omega)⟩
theorem noExt (f : FuncId) : V.isExt f = false := rfl
theorem scores_ok : Ct V.P V.G 6 [] [] (φ6 true) := ct_of_E mixed funcs noExt (isTrue_eq scores_true)
theorem ct_plain {f : FuncId} {n : Nat} {l : List AV} {r : AV × List AO} (d : Nat) (h : runF (V.run [] d [] [] [] f) n f l [] = some r) : Ct V.P V.G f l [] r :=
  ct_of_run mixed funcs (fun e he => by simp at he) (fun e he => by simp at he) (fun e he => by simp at he) (fun e he => by simp at he) h

theorem env_ok {s h c o t a b hd e cc : Int} (h_a : IntKind.wrap .i64 (1 + Int.tmod (IntKind.wrap .i64 o) 9998) = a) (h_b : IntKind.wrap .i64 (IntKind.wrap .i64 (a + 1) + Int.tmod (IntKind.wrap .i64 t) (IntKind.wrap .i64 (9999 - a))) = b)
    (h_hd : IntKind.wrap .i64 (Int.tmod (IntKind.wrap .i64 h) 50 * 20) = hd) (h_e : IntKind.wrap .i64 (IntKind.wrap .i64 (10000 - hd) - 1) = e) (h_cc : IntKind.wrap .i64 (IntKind.wrap .i64 (hd + 1) + Int.tmod (IntKind.wrap .i64 c) e) = cc)
    (h1 : IntKind.wrap .i64 (9999 - a) ≠ 0) (h2 : e ≠ 0) : Ct V.P V.G 7 [.int .u8 s, .int .u8 h, .int .u16 c, .int .u16 o, .int .u16 t] [] (φ7 (s, a, b, hd, cc)) := by
  refine ct_plain 40 (n := 50) ?_
  refine (env_eq s h c o t h_a rfl h_b h_hd h_e h_cc).trans ?_
  rw [show (IntKind.wrap .i64 (9999 - a) != 0) = true by simp [h1], show (e != 0) = true by simp [h2]]
  rfl

section
variable {a b y : Int}
def sc (ct tr y : Int) (two : Bool) : Int × Int × Int × Bool :=
  (bif two then (ct + tr) * ct * y else - ((ct + tr) * tr * y), IntKind.wrap .i64 (IntKind.wrap .i64 (ct * tr) * 255), IntKind.wrap .i64 (255 * IntKind.wrap .i64 (IntKind.wrap .i64 (2 * IntKind.wrap .i64 (ct * tr)) + IntKind.wrap .i64 (IntKind.wrap .i64 (ct + tr) * bif decide (tr > ct) then tr else ct))), true)
theorem of_ok {ct tr : Int} (h1 : 1 ≤ ct) (h2 : ct ≤ 10000) (h3 : 1 ≤ tr) (h4 : tr ≤ 10000) (h5 : 0 ≤ y) (h6 : y ≤ 255) (two : Bool) : Ct V.P V.G 9 (A9 (bif two then 2 else 1) y ct tr) [] (φ9 (sc ct tr y two)) := by
  refine ct_plain 40 (n := 50) ?_
  have p1 := mul_bd (show 0 ≤ ct + tr by omega) (show ct + tr ≤ 20000 by omega) (show 0 ≤ tr by omega) h4
  have p2 := mul_bd (show 0 ≤ ct + tr by omega) (show ct + tr ≤ 20000 by omega) (show 0 ≤ ct by omega) h2
  have p3 := mul_bd p1.1 p1.2 h5 h6
  have p4 := mul_bd p2.1 p2.2 h5 h6
  have w1 : IntKind.wrap .i64 (ct + tr) = ct + tr := wrap_i64 (by omega) (by omega)
  have w2 : IntKind.wrap .i64 (y - 0) = y := by rw [wrap_i64 (by omega) (by omega)]; omega
  have w3 : IntKind.wrap .i64 (IntKind.wrap .i64 (ct * tr) * IntKind.wrap .i64 (0 - 0)) = 0 := by
    rw [show IntKind.wrap .i64 (0 - 0) = 0 from rfl, Int.mul_zero]; rfl
  have w4 : IntKind.wrap .i64 ((ct + tr) * tr) = (ct + tr) * tr := wrap_i64 (by omega) (by omega)
  have w5 : IntKind.wrap .i64 ((ct + tr) * ct) = (ct + tr) * ct := wrap_i64 (by omega) (by omega)
  have w6 : IntKind.wrap .i64 ((ct + tr) * tr * y) = (ct + tr) * tr * y := wrap_i64 (by omega) (by omega)
  have w7 : IntKind.wrap .i64 ((ct + tr) * ct * y) = (ct + tr) * ct * y := wrap_i64 (by omega) (by omega)
  have w8 : IntKind.wrap .i64 (0 - (ct + tr) * tr * y) = - ((ct + tr) * tr * y) := by rw [wrap_i64 (by omega) (by omega)]; omega
  have w9 : IntKind.wrap .i64 (0 + (ct + tr) * ct * y) = (ct + tr) * ct * y := by rw [wrap_i64 (by omega) (by omega)]; omega
  have c2 : (bif decide (y < 0) then true else decide (y > 255)) = false := by
    rw [decide_eq_false (show ¬ y < 0 by omega), decide_eq_false (show ¬ y > 255 by omega)]; rfl
  cases two with
  | true =>
    refine (of_two y ct tr).trans ?_
    simp only [w3]
    simp only [w1, w2, w5, w7, w9]
    rw [decide_eq_true (show ct ≥ 1 by omega), decide_eq_true (show ct ≤ 10000 by omega), decide_eq_true (show tr ≥ 1 by omega), decide_eq_true (show tr ≤ 10000 by omega), c2]
    simp only [φ9, sc, w1]
    rfl
  | false =>
    refine (of_one y ct tr).trans ?_
    simp only [w3]
    simp only [w1, w2, w4, w6, w8]
    rw [decide_eq_true (show ct ≥ 1 by omega), decide_eq_true (show ct ≤ 10000 by omega), decide_eq_true (show tr ≥ 1 by omega), decide_eq_true (show tr ≤ 10000 by omega), c2]
    simp only [φ9, sc, w1]
    rfl
end
theorem arms_ok {a b : Nat} (h1 : a ≤ b) (h2 : b ≤ 10000) : Ct V.P V.G 8 [armsA a b, .int .i64 3] [] (φ8 (cnt (outP (colAB a b) 10000) 10000)) := by
  refine (weights_ok h1 h2).args rfl rfl fun i u u' hu hu' c v hr => ?_
  match i with
  | 0 =>
    simp only [List.getElem?_cons_zero, Option.some.injEq] at hu hu'
    subst hu hu'
    refine Rep.slWeak (fun j hj => ?_) hr
    match j, hj with
    | 0, _ => rfl
    | 1, _ => rfl
    | 2, _ => rfl
  | 1 =>
    simp at hu hu'
    subst hu hu'
    exact hr
  | i + 2 => simp at hu

theorem arms_ex {a b : Nat} (h1 : a ≤ b) (h2 : b ≤ 10000) : ∃ C : Nat → Int, C 0 = (a : Int) ∧ C 1 = (b : Int) - a ∧ C 2 = 10000 - (b : Int) ∧ Ct V.P V.G 8 [armsA a b, .int .i64 3] [] (φ8 C) :=
  ⟨cnt (outP (colAB a b) 10000) 10000, by rw [cnt0 h1 h2 _ (Nat.le_refl _)]; omega, by rw [cnt1 h1 h2 _ (Nat.le_refl _)]; omega, by rw [cnt2 h1 h2 _ (Nat.le_refl _)]; omega, arms_ok h1 h2⟩
theorem law_ok {s h c o t v : Int} (ho : 0 ≤ o ∧ o < 65536) (ht : 0 ≤ t ∧ t < 65536) (hh : 0 ≤ h ∧ h < 256) (hv : 0 ≤ v ∧ v < 256) :
    Ct V.P V.G 3 [.agg [.int .u8 s, .int .u8 h, .int .u16 c, .int .u16 o, .int .u16 t], .int .u8 v] [] (.bool true, []) := by
  obtain ⟨a, ha⟩ : ∃ a : Nat, (a : Int) = 1 + o % 9998 := ⟨(1 + o % 9998).toNat, by omega⟩
  have ha1 : 1 ≤ a ∧ a ≤ 9998 := by omega
  have hd : 0 ≤ t % (9999 - (a : Int)) ∧ t % (9999 - (a : Int)) < 9999 - (a : Int) := ⟨Int.emod_nonneg _ (by omega), Int.emod_lt_of_pos _ (by omega)⟩
  obtain ⟨b, hb⟩ : ∃ b : Nat, (b : Int) = (a : Int) + 1 + t % (9999 - (a : Int)) := ⟨((a : Int) + 1 + t % (9999 - (a : Int))).toNat, by omega⟩
  have hb1 : a < b ∧ b < 10000 := by omega
  have e1 : IntKind.wrap .i64 (1 + Int.tmod (IntKind.wrap .i64 o) 9998) = (a : Int) := by
    rw [wrap_i64 (x := o) (by omega) (by omega), Int.tmod_eq_emod_of_nonneg ho.1, wrap_i64 (by omega) (by omega)]; exact ha.symm
  have e2 : IntKind.wrap .i64 (9999 - (a : Int)) = 9999 - (a : Int) := wrap_i64 (by omega) (by omega)
  have e3 : IntKind.wrap .i64 (IntKind.wrap .i64 ((a : Int) + 1) + Int.tmod (IntKind.wrap .i64 t) (IntKind.wrap .i64 (9999 - (a : Int)))) = (b : Int) := by
    rw [e2, wrap_i64 (x := t) (by omega) (by omega), Int.tmod_eq_emod_of_nonneg ht.1, wrap_i64 (x := (a : Int) + 1) (by omega) (by omega), wrap_i64 (by omega) (by omega)]; exact hb.symm
  have e4 : IntKind.wrap .i64 (Int.tmod (IntKind.wrap .i64 h) 50 * 20) = h % 50 * 20 := by
    rw [wrap_i64 (x := h) (by omega) (by omega), Int.tmod_eq_emod_of_nonneg hh.1, wrap_i64 (by omega) (by omega)]
  have e5 : IntKind.wrap .i64 (IntKind.wrap .i64 (10000 - h % 50 * 20) - 1) = 9999 - h % 50 * 20 := by
    rw [wrap_i64 (x := 10000 - h % 50 * 20) (by omega) (by omega), wrap_i64 (by omega) (by omega)]; omega
  have hy : IntKind.wrap .i64 v = v := wrap_i64 (by omega) (by omega)
  obtain ⟨C, k0, k1, k2, hE8⟩ := arms_ex (a := a) (b := b) (by omega) (by omega)
  have hE7 := env_ok (s := s) (c := c) e1 e3 e4 e5 rfl (by omega) (by omega)
  have hE9 := of_ok (y := v) (ct := (a : Int)) (tr := (b : Int) - a) (by omega) (by omega) (by omega) (by omega) hv.1 (by omega)
  let x7 : Int × Int × Int × Int × Int := (s, (a : Int), (b : Int), h % 50 * 20, IntKind.wrap .i64 (IntKind.wrap .i64 (h % 50 * 20 + 1) + Int.tmod (IntKind.wrap .i64 c) (9999 - h % 50 * 20)))
  let E6 : Ent := entC 6 (fun _ : Unit => []) (fun _ => []) (fun _ => True) (fun _ => true) φ6
  let E7 : Ent := entC 7 (fun _ : Unit => [.int .u8 s, .int .u8 h, .int .u16 c, .int .u16 o, .int .u16 t]) (fun _ => []) (fun _ => True) (fun _ => x7) φ7
  let E8 : Ent := entC 8 (fun _ : Unit => [armsA a b, .int .i64 3]) (fun _ => []) (fun _ => True) (fun _ => C) φ8
  let E9 : Ent := entC 9 (fun i : Bool => A9 (bif i then 2 else 1) v a ((b : Int) - a)) (fun _ => []) (fun _ => True) (fun i => sc a ((b : Int) - a) v i) φ9
  refine ct_of_run (T := [E6, E7, E8, E9]) (d := 1) (C := []) (L := []) (W := []) (n := 50) mixed funcs (fun e he l os hp => ?_) (fun e he => by simp at he) (fun e he => by simp at he) (fun e he => by simp at he) ?_
  · simp only [List.mem_cons, List.not_mem_nil, or_false] at he
    rcases he with rfl | rfl | rfl | rfl
    · exact entC_ok (w := fun _ : Unit => true) (φ := φ6) (fun _ _ => scores_ok) l os hp
    · exact entC_ok (w := fun _ : Unit => x7) (φ := φ7) (fun _ _ => hE7) l os hp
    · exact entC_ok (w := fun _ : Unit => C) (φ := φ8) (fun _ _ => hE8) l os hp
    · exact entC_ok (w := fun i => sc a ((b : Int) - a) v i) (φ := φ9) (fun i _ => hE9 i) l os hp
  · have hinj : ∀ i j : Bool, True → True → A9 (bif i then 2 else 1) v a ((b : Int) - a) = A9 (bif j then 2 else 1) v a ((b : Int) - a) → ([] : List AO) = [] → sc a ((b : Int) - a) v i = sc a ((b : Int) - a) v j := by
      intro i j _ _ he _
      have : smpA (bif i then 2 else 1) v = smpA (bif j then 2 else 1) v := by
        simp only [A9, List.cons.injEq] at he; exact he.1
      simp only [smpA, AV.sl.injEq, true_and] at this
      have := congrFun this 0
      simp only [fillGet, AV.cells, List.cons.injEq, AV.int.injEq, Nat.beq_refl, cond_true] at this
      cases i <;> cases j <;> simp_all
    have q0 : C (0 + Int.toNat 0) = (a : Int) := k0
    have q1 : C (0 + Int.toNat 1) = (b : Int) - a := k1
    have q2 : C (0 + Int.toNat 2) = 10000 - (b : Int) := k2
    have two : IntKind.wrap .i64 (1 + 1) = 2 := rfl
    have r0 : C (0 + Int.toNat (IntKind.wrap .i64 (1 - 1))) = (a : Int) := k0
    have r1 : C (0 + Int.toNat (IntKind.wrap .i64 (IntKind.wrap .i64 (1 + 1) - 1))) = (b : Int) - a := k1
    refine (main_eq _ _ _ _ _ _ _ _ s h c o t v (t1 := x7) (t2 := C) (t3 := sc a ((b : Int) - a) v false) (t4 := sc a ((b : Int) - a) v true) ?_ ?_ ?_ ?_).trans ?_
    · exact valA_eq (v := ()) (fun _ _ _ _ _ _ => rfl) trivial
    · exact valA_eq (v := ()) (fun _ _ _ _ _ _ => rfl) trivial
    · rw [q0, q1, hy]
      exact valA_eq (v := false) hinj trivial
    · rw [q0, q1, hy, two]
      exact valA_eq (v := true) hinj trivial
    · rw [q0, q1, q2, r0, r1, hy, two]
      rw [show goodA (fun _ : Unit => []) (fun _ => []) (fun _ => True) [] [] = true from goodA_eq (v := ()) trivial]
      rw [show valA (fun _ : Unit => []) (fun _ => []) (fun _ => True) (fun _ => true) [] [] = true from valA_eq (v := ()) (fun _ _ _ _ _ _ => rfl) trivial]
      rw [show goodA (fun _ : Unit => [.int .u8 s, .int .u8 h, .int .u16 c, .int .u16 o, .int .u16 t]) (fun _ => []) (fun _ => True) [.int .u8 s, .int .u8 h, .int .u16 c, .int .u16 o, .int .u16 t] [] = true from goodA_eq (v := ()) trivial]
      rw [show goodA (fun _ : Unit => [armsA a b, .int .i64 3]) (fun _ => []) (fun _ => True) [armsA (Prod.fst (Prod.snd x7)) (Prod.fst (Prod.snd (Prod.snd x7))), .int .i64 3] [] = true from goodA_eq (v := ()) trivial]
      rw [show goodA (fun i : Bool => A9 (bif i then 2 else 1) v a ((b : Int) - a)) (fun _ => []) (fun _ => True) [smpA 1 v, .int .i64 0, .agg [.int .i64 0, .int .i64 a, .int .i64 ((b : Int) - a)], .int .i64 255, .bool false] [] = true from goodA_eq (v := false) trivial]
      rw [show goodA (fun i : Bool => A9 (bif i then 2 else 1) v a ((b : Int) - a)) (fun _ => []) (fun _ => True) [smpA 2 v, .int .i64 0, .agg [.int .i64 0, .int .i64 a, .int .i64 ((b : Int) - a)], .int .i64 255, .bool false] [] = true from goodA_eq (v := true) trivial]
      simp only [cond_true, cond_false, Bool.not_true, sc]
      have p0 : (a : Int) + ((b : Int) - a) = b := by omega
      have p1 := mul_bd (show 0 ≤ (b : Int) by omega) (show (b : Int) ≤ 10000 by omega) (show 0 ≤ (b : Int) - a by omega) (show (b : Int) - a ≤ 10000 by omega)
      have p2 := mul_bd (show 0 ≤ (b : Int) by omega) (show (b : Int) ≤ 10000 by omega) (show 0 ≤ (a : Int) by omega) (show (a : Int) ≤ 10000 by omega)
      have p3 := mul_bd p1.1 p1.2 hv.1 (show v ≤ 255 by omega)
      have p4 := mul_bd p2.1 p2.2 hv.1 (show v ≤ 255 by omega)
      have p5 := mul_bd (show 0 ≤ (a : Int) by omega) (show (a : Int) ≤ 10000 by omega) p3.1 p3.2
      have p6 := mul_bd (show 0 ≤ (b : Int) - a by omega) (show (b : Int) - a ≤ 10000 by omega) p4.1 p4.2
      have key : (a : Int) * ((b : Int) * ((b : Int) - a) * v) = ((b : Int) - a) * ((b : Int) * a * v) := by
        simp only [Int.mul_comm, Int.mul_left_comm, Int.mul_assoc]
      have m1 : (a : Int) * -((b : Int) * ((b : Int) - a) * v) = - ((a : Int) * ((b : Int) * ((b : Int) - a) * v)) := by rw [Int.mul_neg]
      rw [p0, m1]
      have s1 : IntKind.wrap .i64 (IntKind.wrap .i64 (0 + IntKind.wrap .i64 (-((a : Int) * ((b : Int) * ((b : Int) - a) * v)))) + IntKind.wrap .i64 (((b : Int) - a) * ((b : Int) * a * v))) = 0 := by
        rw [wrap_i64 (x := -((a : Int) * ((b : Int) * ((b : Int) - a) * v))) (by omega) (by omega), wrap_i64 (x := ((b : Int) - a) * ((b : Int) * a * v)) (by omega) (by omega), wrap_i64 (x := 0 + -((a : Int) * ((b : Int) * ((b : Int) - a) * v))) (by omega) (by omega), wrap_i64 (by omega) (by omega)]
        omega
      have s2 : IntKind.wrap .i64 (IntKind.wrap .i64 (b : Int) + (10000 - (b : Int))) = 10000 := by
        rw [wrap_i64 (x := (b : Int)) (by omega) (by omega), wrap_i64 (by omega) (by omega)]; omega
      rw [s1, s2]
      rfl
end Go.WS
