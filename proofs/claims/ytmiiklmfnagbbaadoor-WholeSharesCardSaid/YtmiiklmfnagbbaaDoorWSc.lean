/- bucket.Weights: how many buckets each colour has. -/
import Derived.Test.YtmiiklmfnagbbaaDoorWSb
namespace Go.WS
open Go Go.Ab Go.Proofs
set_option linter.unusedVariables false
set_option linter.unusedSimpArgs false
def φ20 (o : Nat → Int) : AV × List AO := (.arr 1 10000 fun j => [.int .i64 (o j)], [])
def cntO (n : Nat) (c : Nat → Int) : AO := .arr 1 n fun j => [.int .i64 (c j)]
def S8 (o : Nat → Int) (i : Int) (c : Nat → Int) : St := { env := [(5, .msl 11 1 0 3), (13, .arr 1 10000 fun j => [.int .i64 (o j)]), (14, .int .i64 i)], objs := [(11, cntO 3 c)] }
def F8 (c : Nat → Int) (k : Ex → St → Res) : Res := k (.exit 0) { env := [(5, .msl 11 1 0 3)], objs := [(11, cntO 3 c)] }
set_option maxRecDepth 100000 in
theorem weights_r (g20 : List AV → List AO → Bool) (v20 : List AV → List AO → (Nat → Int)) (L : List (List Nat × Orc)) (m : Nat) (o : Nat → Int) (i : Int) (c : Nat → Int) (kn : St → Res) (k : Ex → St → Res)  : roundR (V.run [mkE 20 g20 v20 φ20] 1 [] L [] 8) 8 m [1, 1, 0, 1, 0] (S8 o i c) kn k =
  cond (decide (i < 10000)) (cond (within i 10000) (cond (bif decide (o (Int.toNat i) ≥ 1) then decide (o (Int.toNat i) ≤ ↑3) else false) (cond (within (IntKind.wrap IntKind.i64 (o (Int.toNat i) - 1)) 3) (cond (Nat.blt (0 + Int.toNat (IntKind.wrap IntKind.i64 (o (Int.toNat i) - 1))) 3) (cond (within (IntKind.wrap IntKind.i64 (o (Int.toNat i) - 1)) 3) (cond (Nat.blt (0 + Int.toNat (IntKind.wrap IntKind.i64 (o (Int.toNat i) - 1))) 3) (kn ({ env := [(5, .msl 11 1 0 3), (13, .arr 1 10000 fun j => [.int .i64 (o j)]), (14, .int .i64 (IntKind.wrap IntKind.i64 (i + 1)))], objs := [(11, .arr 1 3 fun j => bif Nat.beq j (0 + Int.toNat (IntKind.wrap IntKind.i64 (o (Int.toNat i) - 1))) then [.int .i64 (IntKind.wrap IntKind.i64 (c (0 + Int.toNat (IntKind.wrap IntKind.i64 (o (Int.toNat i) - 1))) + 1))] else [.int .i64 (c j)])] })) (none)) (none)) (none)) (none)) (kn (S8 o (IntKind.wrap IntKind.i64 (i + 1)) c))) (none)) (k (.exit 0) ({ env := [(5, .msl 11 1 0 3)], objs := [(11, cntO 3 c)] })) := by kernel_rfl
set_option maxRecDepth 100000 in
theorem weights_main (g20 : List AV → List AO → Bool) (v20 : List AV → List AO → (Nat → Int)) (g1 : St → Bool) (v1 : St → (Nat → Int)) (m : Nat) (n : Nat) (g : Nat → Int × Int × Int) {t1 : Nat → Int} (h_t1 : v20 [rngA n g] [] = t1) {t2 : Nat → Int} (h_t2 : v1 { env := [(5, .msl 11 1 0 3), (13, .arr 1 10000 fun j => [.int .i64 (t1 j)]), (14, .int .i64 0)], objs := [(11, cntO 3 fun j => 0)] } = t2) : runF (V.run [mkE 20 g20 v20 φ20] 1 [] [([1, 1, 0, 1, 0], mkO g1 v1 F8)] [] 8) m 8 [rngA n g, .int .i64 3] [] =
  cond (g20 [rngA n g] []) (cond (g1 (S8 (fun j => t1 j) 0 fun j => 0)) (some ((.sl .no 1 3 fun j => [.int .i64 (t2 (0 + j))], []))) (none)) (none) := by subst h_t2 h_t1; kernel_rfl

/-- How many of the first i buckets have colour k + 1. -/
def cnt (o : Nat → Int) : Nat → Nat → Int
  | 0, _ => 0
  | i + 1, k => cnt o i k + (if o i = (k : Int) + 1 then 1 else 0)
theorem cnt_bd (o : Nat → Int) : ∀ i k, 0 ≤ cnt o i k ∧ cnt o i k ≤ i
  | 0, _ => by simp [cnt]
  | i + 1, k => by have := cnt_bd o i k; simp only [cnt]; split <;> omega
theorem cntO_upd {c c' : Nat → Int} {i : Nat} {y : Int} (h : ∀ j, c' j = if j = i then y else c j) : (AO.arr 1 3 fun j => bif Nat.beq j i then [AV.int .i64 y] else [.int .i64 (c j)]) = cntO 3 c' := by
  unfold cntO
  congr 1
  funext j
  rw [h j]
  by_cases e : j = i
  · subst e; simp
  · simp [beqF e, e]
section
variable (o : Nat → Int) (ho : ∀ i, i < 10000 → 1 ≤ o i ∧ o i ≤ 3)
def s8 (i : Nat) : St := S8 o (i : Nat) (cnt o i)
noncomputable def o8 : Orc := mkO (goodS (s8 o) (· ≤ 10000)) (valS (s8 o) (· ≤ 10000) fun _ => cnt o 10000) F8
include ho in
theorem weights_loop (g20 : List AV → List AO → Bool) (v20 : List AV → List AO → (Nat → Int)) (L : List (List Nat × Orc)) : LoopOk (V.run [mkE 20 g20 v20 φ20] 1 [] L [] 8) 8 [1, 1, 0, 1, 0] (o8 o) := by
  refine loopOk_of (b := subC (bodyOf V.P 8) ([1, 1, 0, 1, 0] ++ [0])) (s8 o) (· ≤ 10000) (fun i => 10000 - i) (fun _ => cnt o 10000) F8 (by kernel_rfl) 0 fun i hi k kn hk => ?_
  have hi : i ≤ 10000 := hi
  refine (weights_r g20 v20 L 0 o _ _ kn k).trans ?_
  by_cases h : i < 10000
  · obtain ⟨h1, h2⟩ := ho i h
    obtain ⟨q, hq⟩ : ∃ q : Nat, o i = (q : Int) + 1 := ⟨(o i - 1).toNat, by omega⟩
    have hw : IntKind.wrap .i64 (o i - 1) = (q : Int) := by rw [hq, wrap_i64 (by omega) (by omega)]; omega
    have hw1 : IntKind.wrap .i64 ((i : Int) + 1) = ((i + 1 : Nat) : Int) := by rw [wrap_i64 (by omega) (by omega)]; rfl
    have hc := cnt_bd o i q
    have hw2 : IntKind.wrap .i64 (cnt o i q + 1) = cnt o i q + 1 := wrap_i64 (by omega) (by omega)
    rw [decide_eq_true (show ((i : Nat) : Int) < 10000 by omega), within_of (n := 10000) (by omega) (by omega)]
    simp only [Int.toNat_natCast, hw, Nat.zero_add, hw1, hw2]
    rw [decide_eq_true (show o i ≥ 1 by omega), decide_eq_true (show o i ≤ 3 by omega), within_of (n := 3) (by omega) (by omega), bltT (show q < 3 by omega)]
    rw [cntO_upd (c' := cnt o (i + 1)) (fun j => by
      simp only [cnt, hq]
      by_cases e : j = q
      · subst e; simp
      · rw [if_neg (by omega), if_neg e, Int.add_zero])]
    simp only [cond_true]
    exact hk (i + 1) (by omega) (by omega)
  · obtain rfl : i = 10000 := by omega
    rfl
end
def eAB (a b : Nat) (j : Nat) : Nat := if j = 0 then 0 else if j = 1 then a else if j = 2 then b else 10000
def colAB (a b : Nat) (i : Nat) : Int := if i < a then 1 else if i < b then 2 else 3
def cJ (j : Nat) : Int := (j : Int) + 1
def φ8 (c : Nat → Int) : AV × List AO := (.sl .no 1 3 fun j => [.int .i64 (c (0 + j))], [])
theorem weights_ok {a b : Nat} (h1 : a ≤ b) (h2 : b ≤ 10000) : Ct V.P V.G 8 [rngA 3 (gE (eAB a b) cJ), .int .i64 3] [] (φ8 (cnt (outP (colAB a b) 10000) 10000)) := by
  have hp := paint_ok 3 (eAB a b) cJ (colAB a b) rfl (fun j hj => by
    match j, hj with
    | 0, _ => exact Nat.zero_le _
    | 1, _ => exact h1
    | 2, _ => exact h2) rfl (fun j i hj hl hr => by
    match j, hj with
    | 0, _ => have hr : i < a := hr; simp [colAB, cJ, hr]
    | 1, _ => have hl : a ≤ i := hl; have hr : i < b := hr; simp [colAB, cJ, hr, show ¬ i < a by omega]
    | 2, _ => have hl : b ≤ i := hl; simp [colAB, cJ, show ¬ i < a by omega, show ¬ i < b by omega]) (by omega)
  have ho : ∀ i, i < 10000 → 1 ≤ outP (colAB a b) 10000 i ∧ outP (colAB a b) 10000 i ≤ 3 := fun i hi => by
    unfold outP colAB; rw [if_pos hi]; split <;> (try split) <;> omega
  refine ct_of_run (T := [entC 20 (fun _ : Unit => [rngA 3 (gE (eAB a b) cJ)]) (fun _ => []) (fun _ => True) (fun _ => outP (colAB a b) 10000) φ20]) (d := 1) (C := []) (L := [([1, 1, 0, 1, 0], o8 (outP (colAB a b) 10000))]) (W := []) (n := 0) mixed funcs
    (fun e he l os hpre => by
      simp only [List.mem_singleton] at he
      subst he
      exact entC_ok (w := fun _ : Unit => outP (colAB a b) 10000) (φ := φ20) (fun _ _ => hp) l os hpre) (fun e he => by simp at he)
    (fun e he => by simp only [List.mem_singleton] at he; subst he; exact weights_loop _ ho _ _ _) (fun e he => by simp at he) ?_
  have hs : S8 (outP (colAB a b) 10000) 0 (fun _ => 0) = s8 (outP (colAB a b) 10000) 0 := rfl
  refine (weights_main _ _ _ _ 0 3 _ (t1 := outP (colAB a b) 10000) (t2 := cnt (outP (colAB a b) 10000) 10000) ?_ ?_).trans ?_
  · exact valA_eq (v := ()) (fun _ _ _ _ _ _ => rfl) trivial
  · exact valS_eq (S := s8 (outP (colAB a b) 10000)) (w := fun _ => cnt (outP (colAB a b) 10000) 10000) (v := 0) (fun _ _ _ _ _ => rfl) (Nat.zero_le _)
  · rw [show goodA (fun _ : Unit => [rngA 3 (gE (eAB a b) cJ)]) (fun _ => []) (fun _ => True) [rngA 3 (gE (eAB a b) cJ)] [] = true from goodA_eq (v := ()) trivial]
    rw [show goodS (s8 (outP (colAB a b) 10000)) (· ≤ 10000) (S8 (fun j => outP (colAB a b) 10000 j) 0 fun _ => 0) = true from goodS_eq (S := s8 (outP (colAB a b) 10000)) (v := 0) (Nat.zero_le _)]
    rfl
theorem cnt0 {a b : Nat} (h1 : a ≤ b) (_ : b ≤ 10000) : ∀ i, i ≤ 10000 → cnt (outP (colAB a b) 10000) i 0 = (min i a : Nat)
  | 0, _ => by simp [cnt]
  | i + 1, h => by
    simp only [cnt, cnt0 h1 ‹_› i (by omega)]
    unfold outP colAB; rw [if_pos (show i < 10000 by omega)]; split <;> (repeat' split) <;> omega
theorem cnt1 {a b : Nat} (h1 : a ≤ b) (_ : b ≤ 10000) : ∀ i, i ≤ 10000 → cnt (outP (colAB a b) 10000) i 1 = ((min i b - min i a : Nat) : Int)
  | 0, _ => by simp [cnt]
  | i + 1, h => by
    simp only [cnt, cnt1 h1 ‹_› i (by omega)]
    unfold outP colAB; rw [if_pos (show i < 10000 by omega)]; split <;> (repeat' split) <;> omega
theorem cnt2 {a b : Nat} (h1 : a ≤ b) (_ : b ≤ 10000) : ∀ i, i ≤ 10000 → cnt (outP (colAB a b) 10000) i 2 = ((i - min i b : Nat) : Int)
  | 0, _ => by simp [cnt]
  | i + 1, h => by
    simp only [cnt, cnt2 h1 ‹_› i (by omega)]
    unfold outP colAB; rw [if_pos (show i < 10000 by omega)]; split <;> (repeat' split) <;> omega
end Go.WS
