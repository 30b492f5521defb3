/- shape.part, flagstoneref6.part: their contracts. Conditions: their cells, their parts, what the checks of a whole one answer. Serves; conditions that are none. The data of chapter 6: flags, segments, layers, experiments. Prerequisites, targets, rules, variations, flags, segments, layers, experiments: equations. shape.expr, flagstoneref6.walk, big: equations. shape.expr, flagstoneref6.walk, both Expr, big: their contracts. Both Expr, big: equations of calls. flagstoneref6.walk, both Expr, big: their contracts. Prerequisites, targets, variations: contracts. Rules: contracts. Flags, layers, segments, experiments: contracts. ShapeFlags: equations of the law. ShapeFlags: the law answers true. The draws: hints, trims, the evaluator with the tables of the draws. Contracts and loops of which only some answer is told. The draws: Next, Text, Value: equations. The draws: Next, Text, Value: contracts. The draws: Key, Test: equations. Conditions that are well-formed: how many parts they have, what the checks answer. The draws: Key, Test: contracts. The draws: Test: its contract. -/
import Derived.Test.YtnldpiohcmgkdaaGreatDoorX4
namespace Go.SH
open Go Go.Ab Go.Proofs
set_option linter.unusedVariables false
set_option linter.unusedSimpArgs false
theorem part_loop1 (p : PART) (hp : p.Ok) (T : List Ent) (L : List (List Nat × Orc)) : LoopOk (V.run T 9 [] L [] 106) 106 [1, 1, 1, 1, 1, 0, 1, 0] (mkO (goodS (X1 p) (· ≤ p.n)) (valS (X1 p) (· ≤ p.n) (scanAt p.n (· + 1) (fun i => bif (bif p.ko i == p.op then isPair p.op else false) then some () else none))) (outB (fun _ k => k .ret { env := [(4, .int .i64 15)], objs := [] }) fun k => k (.exit 0) { env := [(2, .ref 2 0)], objs := [(2, .cells p.c)] })) :=
  loopOk_seek (b := subC (bodyOf V.P 106) ([1, 1, 1, 1, 1, 0, 1, 0] ++ [0])) (X1 p) p.n (· + 1) _ () _ _ (by kernel_rfl) 9 (fun i h => ⟨by omega, by omega⟩)
    (fun i h kn k => by
      refine (part_1 T L _ p i kn k).trans ?_
      rw [lt_true h, within_lt h, wrap_next h hp.2.2.2, Int.toNat_natCast]
      rfl) (fun kn k => by refine (part_1 T L _ p _ kn k).trans ?_; rw [lt_false (Nat.lt_irrefl _)]; rfl)
theorem rpart_loop1 (p : PART) (hp : p.Ok) (T : List Ent) (L : List (List Nat × Orc)) : LoopOk (V.run T 9 [] L [] 107) 107 [1, 1, 1, 1, 0, 1, 0] (mkO (goodS (W1 p) (· ≤ p.n)) (valS (W1 p) (· ≤ p.n) (scanAt p.n (· + 1) (fun i => bif (bif p.ko i == p.op then p.op != 4 else false) then some () else none))) (outB (fun _ k => k .ret { env := [(2, .int .i64 15)], objs := [] }) fun k => k (.exit 0) { env := [(1, .ref 1 0)], objs := [(1, .cells p.c)] })) :=
  loopOk_seek (b := subC (bodyOf V.P 107) ([1, 1, 1, 1, 0, 1, 0] ++ [0])) (W1 p) p.n (· + 1) _ () _ _ (by kernel_rfl) 9 (fun i h => ⟨by omega, by omega⟩)
    (fun i h kn k => by
      refine (rpart_1 T L _ p i kn k).trans ?_
      rw [lt_true h, within_lt h, wrap_next h hp.2.2.2, Int.toNat_natCast]
      rfl) (fun kn k => by refine (rpart_1 T L _ p _ kn k).trans ?_; rw [lt_false (Nat.lt_irrefl _)]; rfl)
theorem part_loop2 (p : PART) (hp : p.Ok) (gk vk : List AV → List AO → Bool) (L : List (List Nat × Orc)) : LoopOk (V.run [mkE 69 gV vV φE, mkE 65 gk vk φB] 9 [] L [] 106) 106 [1, 1, 1, 1, 1, 1, 1, 0, 1, 0] (mkO (goodS (X2 p) (· ≤ p.vals.length)) (valS (X2 p) (· ≤ p.vals.length) (scanAt p.vals.length (· + 1) (valsStop p.vals))) (outB (retI 4) fun k => k (.exit 2) { env := [(2, .ref 2 0)], objs := [(2, .cells p.c)] })) :=
  loopOk_scan (b := subC (bodyOf V.P 106) ([1, 1, 1, 1, 1, 1, 1, 0, 1, 0] ++ [0])) (X2 p) p.vals.length (· + 1) (valsStop p.vals) _ _ (by kernel_rfl) 9 (fun i h => ⟨by omega, by omega⟩)
    (fun i h kn k => by
      refine (part_2 gV vV gk vk L _ p i kn k (vV_eq (by rw [Int.toNat_natCast]; exact hp.2.2.1.at h))).trans ?_
      rw [lt_true h, within_lt h, wrap_next h hp.2.2.1.1, Int.toNat_natCast, gV_eq (hp.2.2.1.at h)]
      unfold valsStop
      cases checkE (p.vals.getD i default) != 0 <;> rfl) (fun kn k => by refine (part_2 gV vV gk vk L _ p _ kn k rfl).trans ?_; rw [lt_false (Nat.lt_irrefl _)]; rfl)
theorem rpart_loop2 (p : PART) (hp : p.Ok) (gk vk : List AV → List AO → Bool) (L : List (List Nat × Orc)) : LoopOk (V.run [mkE 115 gV vV φE, mkE 67 gk vk φB] 9 [] L [] 107) 107 [1, 1, 1, 1, 1, 1, 0, 1, 0] (mkO (goodS (W2 p) (· ≤ p.vals.length)) (valS (W2 p) (· ≤ p.vals.length) (scanAt p.vals.length (· + 1) (valsStop p.vals))) (outB (retI 2) fun k => k (.exit 2) { env := [(1, .ref 1 0)], objs := [(1, .cells p.c)] })) :=
  loopOk_scan (b := subC (bodyOf V.P 107) ([1, 1, 1, 1, 1, 1, 0, 1, 0] ++ [0])) (W2 p) p.vals.length (· + 1) (valsStop p.vals) _ _ (by kernel_rfl) 9 (fun i h => ⟨by omega, by omega⟩)
    (fun i h kn k => by
      refine (rpart_2 gV vV gk vk L _ p i kn k (vV_eq (by rw [Int.toNat_natCast]; exact hp.2.2.1.at h))).trans ?_
      rw [lt_true h, within_lt h, wrap_next h hp.2.2.1.1, Int.toNat_natCast, gV_eq (hp.2.2.1.at h)]
      unfold valsStop
      cases checkE (p.vals.getD i default) != 0 <;> rfl) (fun kn k => by refine (rpart_2 gV vV gk vk L _ p _ kn k rfl).trans ?_; rw [lt_false (Nat.lt_irrefl _)]; rfl)
theorem lt2_cast (n : Nat) : decide ((n : Int) < 2) = !decide (n ≥ 2) := by
  by_cases h : n ≥ 2
  · rw [decide_eq_true h, decide_eq_false (by omega)]; rfl
  · rw [decide_eq_false h, decide_eq_true (by omega)]; rfl
theorem gt0_cast (n : Nat) : decide ((n : Int) > 0) = !(n == 0) := by
  by_cases h : n = 0
  · subst h; rfl
  · rw [decide_eq_true (by omega), beq_eq_false_iff_ne.2 h]; rfl
theorem gt0_nat (n : Nat) : decide (n > 0) = !(n == 0) := by
  by_cases h : n = 0
  · subst h; rfl
  · rw [decide_eq_true (by omega), beq_eq_false_iff_ne.2 h]; rfl
theorem beq1_cast (n : Nat) : ((n : Int) == 1) = (n == 1) := by
  by_cases h : n = 1
  · subst h; rfl
  · rw [beq_eq_false_iff_ne.2 h, beq_eq_false_iff_ne.2 (by omega)]
theorem bne1_cast (n : Nat) : ((n : Int) != 1) = !(n == 1) := by
  show (!((n : Int) == 1)) = _
  rw [beq1_cast]
theorem gt12_cast (n : Nat) : decide ((n : Int) > 12) = decide (n > 12) := gt_cast n 12
theorem gt20_cast (n : Nat) : decide ((n : Int) > 20) = decide (n > 20) := gt_cast n 20
theorem within0 (n : Nat) : within 0 n = !(n == 0) := by
  unfold within
  by_cases h : n = 0
  · subst h; rfl
  · rw [beq_eq_false_iff_ne.2 h, decide_eq_true (show (0 : Int) < n by omega)]; rfl
theorem part_ok (p : PART) (hp : p.Ok) (depth : Int) : Ct V.P V.G 106 [.agg p.c, .int .i64 depth] [] (φE (bif decide (depth ≥ 10) then 18 else partE p)) := by
  obtain ⟨a1, a2⟩ := seek_at (X1 p) p.n (· + 1) (fun i => bif p.ko i == p.op then isPair p.op else false) () (X1_inj p)
  obtain ⟨b1, b2⟩ := scan_start (X2 p) p.vals.length (· + 1) (valsStop p.vals) (X2_inj p)
  refine ct_loops (n := 9) (d := 9) (T := [entF 69 valA1 VAL.Ok checkE φE, entF 65 strA lenS keyB φB]) mixed funcs (tabOk_cons (entF_ok fun v hv => check_ok v hv) (tabOk_cons (entF_ok fun s _ => key_ok s) tabOk_nil)) (loopsOk_cons (part_loop1 p hp _ _) (loopsOk_cons (part_loop2 p hp _ _ _) loopsOk_nil)) ?_
  refine (part_m gV vV gS (vS keyB) _ _ _ _ p depth a2 b2).trans ?_
  rw [a1, b1, gS_eq hp.1, gS_eq hp.2.1, vS_eq _ hp.1, vS_eq _ hp.2.1, lt2_cast, eq_zero, gt0_cast, gt0_cast, beq1_cast, bne1_cast, gt12_cast, gt20_cast, within0]
  rw [show seek p.n (· + 1) (fun i => bif p.ko i == p.op then isPair p.op else false) () = kidSeek p (isPair p.op) from rfl, show scanAt p.vals.length (· + 1) (valsStop p.vals) 0 = valsSeek p.vals from rfl]
  have hz : ((p.vals.length == 0) && (p.vals.length == 1)) = false := by
    by_cases h : p.vals.length = 0
    · rw [h]; rfl
    · rw [beq_eq_false_iff_ne.2 h]; rfl
  unfold partE
  generalize (kidSeek p (isPair p.op)).1 = ck
  unfold countB
  rw [gt0_nat]
  generalize (valsSeek p.vals).1 = e1
  generalize (valsSeek p.vals).2 = e2
  revert hz
  generalize (p.vals.length == 0) = z0
  generalize (p.vals.length == 1) = z1
  generalize decide (p.vals.length > 20) = z20
  generalize decide (p.n ≥ 2) = n2
  generalize (p.n == 1) = n1
  generalize (p.n == 0) = n0
  generalize decide (p.n > 12) = n12
  generalize keyB p.kind = kk
  generalize keyB p.name = kn
  generalize (p.kind == []) = ek
  generalize (p.name == []) = en
  rw [show (p.vals.getD (Int.toNat 0) default) = p.vals.getD 0 default from rfl]
  generalize ((p.vals.getD 0 default).kind != 3) = vt
  intro hz
  cases hd : decide (depth ≥ 10) with
  | true => rfl
  | false =>
  generalize p.op = op
  by_cases k0 : op < 1
  · rw [decide_eq_true k0]; rfl
  · by_cases k5 : op > 15
    · rw [decide_eq_false k0, decide_eq_true k5]; rfl
    · have : op = 1 ∨ op = 2 ∨ op = 3 ∨ op = 4 ∨ op = 5 ∨ op = 6 ∨ op = 7 ∨ op = 8 ∨ op = 9 ∨ op = 10 ∨ op = 11 ∨ op = 12 ∨ op = 13 ∨ op = 14 ∨ op = 15 := by omega
      clear k0 k5
      rcases this with h | h | h | h | h | h | h | h | h | h | h | h | h | h | h <;> subst h
      · cases n0 <;> cases ek <;> cases en <;> cases z0 <;> cases n12 <;> cases z20 <;> cases ck <;> cases e1 <;> rfl
      · first | rfl | (cases n2 <;> first | rfl | (cases ek <;> first | rfl | (cases en <;> first | rfl | (cases z0 <;> first | rfl | (cases n12 <;> first | rfl | (cases z20 <;> first | rfl | (cases ck <;> first | rfl | (cases kk <;> first | rfl | (cases kn <;> first | rfl | (cases e1 <;> rfl))))))))))
      · first | rfl | (cases n2 <;> first | rfl | (cases ek <;> first | rfl | (cases en <;> first | rfl | (cases z0 <;> first | rfl | (cases n12 <;> first | rfl | (cases z20 <;> first | rfl | (cases ck <;> first | rfl | (cases kk <;> first | rfl | (cases kn <;> first | rfl | (cases e1 <;> rfl))))))))))
      · first | rfl | (cases n1 <;> first | rfl | (cases ek <;> first | rfl | (cases en <;> first | rfl | (cases z0 <;> first | rfl | (cases n12 <;> first | rfl | (cases z20 <;> first | rfl | (cases ck <;> first | rfl | (cases kk <;> first | rfl | (cases kn <;> first | rfl | (cases e1 <;> rfl))))))))))
      · first | rfl | (cases n0 <;> first | rfl | (cases ek <;> first | rfl | (cases en <;> first | rfl | (cases z0 <;> first | rfl | (cases n12 <;> first | rfl | (cases z20 <;> first | rfl | (cases ck <;> first | rfl | (cases kk <;> first | rfl | (cases kn <;> first | rfl | (cases e1 <;> rfl))))))))))
      · first | rfl | (cases n0 <;> first | rfl | (cases z0 <;> first | rfl | (cases n12 <;> first | rfl | (cases z20 <;> first | rfl | (cases ck <;> first | rfl | (cases kk <;> first | rfl | (cases kn <;> first | rfl | (cases e1 <;> rfl))))))))
      · cases z1 <;> cases z0 <;> first | exact absurd hz (by decide) | (first | rfl | (cases n0 <;> first | rfl | (cases n12 <;> first | rfl | (cases z20 <;> first | rfl | (cases ck <;> first | rfl | (cases kk <;> first | rfl | (cases kn <;> first | rfl | (cases e1 <;> rfl))))))))
      · first | rfl | (cases n0 <;> first | rfl | (cases z0 <;> first | rfl | (cases n12 <;> first | rfl | (cases z20 <;> first | rfl | (cases ck <;> first | rfl | (cases kk <;> first | rfl | (cases kn <;> first | rfl | (cases e1 <;> rfl))))))))
      · cases z1 <;> cases z0 <;> first | exact absurd hz (by decide) | (first | rfl | (cases n0 <;> first | rfl | (cases n12 <;> first | rfl | (cases z20 <;> first | rfl | (cases ck <;> first | rfl | (cases kk <;> first | rfl | (cases kn <;> first | rfl | (cases e1 <;> first | rfl | (cases vt <;> rfl)))))))))
      · cases z1 <;> cases z0 <;> first | exact absurd hz (by decide) | (first | rfl | (cases n0 <;> first | rfl | (cases n12 <;> first | rfl | (cases z20 <;> first | rfl | (cases ck <;> first | rfl | (cases kk <;> first | rfl | (cases kn <;> first | rfl | (cases e1 <;> first | rfl | (cases vt <;> rfl)))))))))
      · cases z1 <;> cases z0 <;> first | exact absurd hz (by decide) | (first | rfl | (cases n0 <;> first | rfl | (cases n12 <;> first | rfl | (cases z20 <;> first | rfl | (cases ck <;> first | rfl | (cases kk <;> first | rfl | (cases kn <;> first | rfl | (cases e1 <;> first | rfl | (cases vt <;> rfl)))))))))
      · cases z1 <;> cases z0 <;> first | exact absurd hz (by decide) | (first | rfl | (cases n0 <;> first | rfl | (cases n12 <;> first | rfl | (cases z20 <;> first | rfl | (cases ck <;> first | rfl | (cases kk <;> first | rfl | (cases kn <;> first | rfl | (cases e1 <;> rfl))))))))
      · cases z1 <;> cases z0 <;> first | exact absurd hz (by decide) | (first | rfl | (cases n0 <;> first | rfl | (cases n12 <;> first | rfl | (cases z20 <;> first | rfl | (cases ck <;> first | rfl | (cases kk <;> first | rfl | (cases kn <;> first | rfl | (cases e1 <;> rfl))))))))
      · cases z1 <;> cases z0 <;> first | exact absurd hz (by decide) | (first | rfl | (cases n0 <;> first | rfl | (cases n12 <;> first | rfl | (cases z20 <;> first | rfl | (cases ck <;> first | rfl | (cases kk <;> first | rfl | (cases kn <;> first | rfl | (cases e1 <;> rfl))))))))
      · cases z1 <;> cases z0 <;> first | exact absurd hz (by decide) | (first | rfl | (cases n0 <;> first | rfl | (cases n12 <;> first | rfl | (cases z20 <;> first | rfl | (cases ck <;> first | rfl | (cases kk <;> first | rfl | (cases kn <;> first | rfl | (cases e1 <;> rfl))))))))
theorem ge2_cast (n : Nat) : decide ((n : Int) ≥ 2) = decide (n ≥ 2) := by
  by_cases h : n ≥ 2
  · rw [decide_eq_true h, decide_eq_true (by omega)]
  · rw [decide_eq_false h, decide_eq_false (by omega)]
theorem kidSeek_zero (p : PART) (b : Bool) (h : p.n = 0) : (kidSeek p b).1 = false := by
  unfold kidSeek seek
  rw [scanAt_end _ _ _ (by omega)]
theorem rpart_ok (p : PART) (hp : p.Ok) : Ct V.P V.G 107 [.agg p.c] [] (φE (partE p)) := by
  obtain ⟨a1, a2⟩ := seek_at (W1 p) p.n (· + 1) (fun i => bif p.ko i == p.op then p.op != 4 else false) () (W1_inj p)
  obtain ⟨b1, b2⟩ := scan_start (W2 p) p.vals.length (· + 1) (valsStop p.vals) (W2_inj p)
  refine ct_loops (n := 9) (d := 9) (T := [entF 115 valA1 VAL.Ok checkE φE, entF 67 strA lenS keyB φB]) mixed funcs (tabOk_cons (entF_ok fun v hv => rcheck_ok v hv) (tabOk_cons (entF_ok fun s hs => rkey_ok s hs) tabOk_nil)) (loopsOk_cons (rpart_loop1 p hp _ _) (loopsOk_cons (rpart_loop2 p hp _ _ _) loopsOk_nil)) ?_
  refine (rpart_m gV vV gS (vS keyB) _ _ _ _ p a2 b2).trans ?_
  rw [a1, b1, gS_eq hp.1, gS_eq hp.2.1, vS_eq _ hp.1, vS_eq _ hp.2.1, ge2_cast, eq_zero, eq_zero, gt0_cast, beq1_cast, beq1_cast, gt12_cast, gt20_cast, within0]
  rw [show seek p.n (· + 1) (fun i => bif p.ko i == p.op then p.op != 4 else false) () = kidSeek p (p.op != 4) from rfl, show scanAt p.vals.length (· + 1) (valsStop p.vals) 0 = valsSeek p.vals from rfl]
  have hz : ((p.vals.length == 0) && (p.vals.length == 1)) = false := by
    by_cases h : p.vals.length = 0
    · rw [h]; rfl
    · rw [beq_eq_false_iff_ne.2 h]; rfl
  have h24 : (isPair p.op || p.op == 4) = true → (kidSeek p (p.op != 4)).1 = (kidSeek p (isPair p.op)).1 := by
    intro h
    have : (p.op != 4) = isPair p.op := by
      unfold isPair at h ⊢
      by_cases e : p.op = 4
      · rw [e]; rfl
      · have e1 : (p.op == 4) = false := beq_eq_false_iff_ne.2 e
        rw [e1, Bool.or_false] at h
        rw [h, show (p.op != 4) = !(p.op == 4) from rfl, e1]; rfl
    rw [this]
  have h0 : (p.n == 0) = true → (kidSeek p (isPair p.op)).1 = false ∧ (kidSeek p (p.op != 4)).1 = false := fun h =>
    ⟨kidSeek_zero p _ (by simpa using h), kidSeek_zero p _ (by simpa using h)⟩
  unfold partE
  revert h24 h0
  generalize (kidSeek p (isPair p.op)).1 = ck
  generalize (kidSeek p (p.op != 4)).1 = cq
  unfold countB
  rw [gt0_nat]
  generalize (valsSeek p.vals).1 = e1
  generalize (valsSeek p.vals).2 = e2
  revert hz
  generalize (p.vals.length == 0) = z0
  generalize (p.vals.length == 1) = z1
  generalize decide (p.vals.length > 20) = z20
  generalize decide (p.n ≥ 2) = n2
  generalize (p.n == 1) = n1
  generalize (p.n == 0) = n0
  generalize decide (p.n > 12) = n12
  generalize keyB p.kind = kk
  generalize keyB p.name = kn
  generalize (p.kind == []) = ek
  generalize (p.name == []) = en
  rw [show (p.vals.getD (Int.toNat 0) default) = p.vals.getD 0 default from rfl]
  generalize ((p.vals.getD 0 default).kind != 3) = vt
  generalize p.op = op
  intro hz h24 h0
  by_cases k0 : op < 1
  · rw [decide_eq_true k0]; rfl
  · by_cases k5 : op > 15
    · rw [decide_eq_false k0, decide_eq_true k5]; rfl
    · have : op = 1 ∨ op = 2 ∨ op = 3 ∨ op = 4 ∨ op = 5 ∨ op = 6 ∨ op = 7 ∨ op = 8 ∨ op = 9 ∨ op = 10 ∨ op = 11 ∨ op = 12 ∨ op = 13 ∨ op = 14 ∨ op = 15 := by omega
      clear k0 k5
      rcases this with h | h | h | h | h | h | h | h | h | h | h | h | h | h | h <;> subst h
      · cases n0 with
        | false => first | rfl | (cases z0 <;> first | rfl | (cases ek <;> first | rfl | (cases en <;> first | rfl | (cases n12 <;> first | rfl | (cases z20 <;> first | rfl | (cases ck <;> first | rfl | (cases kk <;> first | rfl | (cases kn <;> first | rfl | (cases e1 <;> rfl)))))))))
        | true => obtain ⟨rfl, rfl⟩ := h0 rfl; first | rfl | (cases z0 <;> first | rfl | (cases ek <;> first | rfl | (cases en <;> first | rfl | (cases n12 <;> first | rfl | (cases z20 <;> first | rfl | (first | rfl | (cases kk <;> first | rfl | (cases kn <;> first | rfl | (cases e1 <;> rfl)))))))))
      · obtain rfl := h24 rfl; first | rfl | (cases n2 <;> first | rfl | (cases z0 <;> first | rfl | (cases ek <;> first | rfl | (cases en <;> first | rfl | (cases n12 <;> first | rfl | (cases z20 <;> first | rfl | (cases cq <;> first | rfl | (cases kk <;> first | rfl | (cases kn <;> first | rfl | (cases e1 <;> rfl))))))))))
      · obtain rfl := h24 rfl; first | rfl | (cases n2 <;> first | rfl | (cases z0 <;> first | rfl | (cases ek <;> first | rfl | (cases en <;> first | rfl | (cases n12 <;> first | rfl | (cases z20 <;> first | rfl | (cases cq <;> first | rfl | (cases kk <;> first | rfl | (cases kn <;> first | rfl | (cases e1 <;> rfl))))))))))
      · obtain rfl := h24 rfl; first | rfl | (cases n1 <;> first | rfl | (cases z0 <;> first | rfl | (cases ek <;> first | rfl | (cases en <;> first | rfl | (cases n12 <;> first | rfl | (cases z20 <;> first | rfl | (cases cq <;> first | rfl | (cases kk <;> first | rfl | (cases kn <;> first | rfl | (cases e1 <;> rfl))))))))))
      · cases n0 with
        | false => first | rfl | (cases z0 <;> first | rfl | (cases ek <;> first | rfl | (cases en <;> first | rfl | (cases n12 <;> first | rfl | (cases z20 <;> first | rfl | (cases ck <;> first | rfl | (cases kk <;> first | rfl | (cases kn <;> first | rfl | (cases e1 <;> rfl)))))))))
        | true => obtain ⟨rfl, rfl⟩ := h0 rfl; first | rfl | (cases z0 <;> first | rfl | (cases ek <;> first | rfl | (cases en <;> first | rfl | (cases n12 <;> first | rfl | (cases z20 <;> first | rfl | (first | rfl | (cases kk <;> first | rfl | (cases kn <;> first | rfl | (cases e1 <;> rfl)))))))))
      · cases n0 with
        | false => first | rfl | (cases z0 <;> first | rfl | (cases n12 <;> first | rfl | (cases z20 <;> first | rfl | (cases ck <;> first | rfl | (cases kk <;> first | rfl | (cases kn <;> first | rfl | (cases e1 <;> rfl)))))))
        | true => obtain ⟨rfl, rfl⟩ := h0 rfl; first | rfl | (cases z0 <;> first | rfl | (cases n12 <;> first | rfl | (cases z20 <;> first | rfl | (first | rfl | (cases kk <;> first | rfl | (cases kn <;> first | rfl | (cases e1 <;> rfl)))))))
      · cases n0 with
        | false => cases z1 <;> cases z0 <;> first | exact absurd hz (by decide) | (first | rfl | (cases n12 <;> first | rfl | (cases z20 <;> first | rfl | (cases ck <;> first | rfl | (cases kk <;> first | rfl | (cases kn <;> first | rfl | (cases e1 <;> rfl)))))))
        | true => obtain ⟨rfl, rfl⟩ := h0 rfl; cases z1 <;> cases z0 <;> first | exact absurd hz (by decide) | (first | rfl | (cases n12 <;> first | rfl | (cases z20 <;> first | rfl | (first | rfl | (cases kk <;> first | rfl | (cases kn <;> first | rfl | (cases e1 <;> rfl)))))))
      · cases n0 with
        | false => first | rfl | (cases z0 <;> first | rfl | (cases n12 <;> first | rfl | (cases z20 <;> first | rfl | (cases ck <;> first | rfl | (cases kk <;> first | rfl | (cases kn <;> first | rfl | (cases e1 <;> rfl)))))))
        | true => obtain ⟨rfl, rfl⟩ := h0 rfl; first | rfl | (cases z0 <;> first | rfl | (cases n12 <;> first | rfl | (cases z20 <;> first | rfl | (first | rfl | (cases kk <;> first | rfl | (cases kn <;> first | rfl | (cases e1 <;> rfl)))))))
      · cases n0 with
        | false => cases z1 <;> cases z0 <;> first | exact absurd hz (by decide) | (first | rfl | (cases n12 <;> first | rfl | (cases z20 <;> first | rfl | (cases ck <;> first | rfl | (cases kk <;> first | rfl | (cases kn <;> first | rfl | (cases e1 <;> first | rfl | (cases vt <;> rfl))))))))
        | true => obtain ⟨rfl, rfl⟩ := h0 rfl; cases z1 <;> cases z0 <;> first | exact absurd hz (by decide) | (first | rfl | (cases n12 <;> first | rfl | (cases z20 <;> first | rfl | (first | rfl | (cases kk <;> first | rfl | (cases kn <;> first | rfl | (cases e1 <;> first | rfl | (cases vt <;> rfl))))))))
      · cases n0 with
        | false => cases z1 <;> cases z0 <;> first | exact absurd hz (by decide) | (first | rfl | (cases n12 <;> first | rfl | (cases z20 <;> first | rfl | (cases ck <;> first | rfl | (cases kk <;> first | rfl | (cases kn <;> first | rfl | (cases e1 <;> first | rfl | (cases vt <;> rfl))))))))
        | true => obtain ⟨rfl, rfl⟩ := h0 rfl; cases z1 <;> cases z0 <;> first | exact absurd hz (by decide) | (first | rfl | (cases n12 <;> first | rfl | (cases z20 <;> first | rfl | (first | rfl | (cases kk <;> first | rfl | (cases kn <;> first | rfl | (cases e1 <;> first | rfl | (cases vt <;> rfl))))))))
      · cases n0 with
        | false => cases z1 <;> cases z0 <;> first | exact absurd hz (by decide) | (first | rfl | (cases n12 <;> first | rfl | (cases z20 <;> first | rfl | (cases ck <;> first | rfl | (cases kk <;> first | rfl | (cases kn <;> first | rfl | (cases e1 <;> first | rfl | (cases vt <;> rfl))))))))
        | true => obtain ⟨rfl, rfl⟩ := h0 rfl; cases z1 <;> cases z0 <;> first | exact absurd hz (by decide) | (first | rfl | (cases n12 <;> first | rfl | (cases z20 <;> first | rfl | (first | rfl | (cases kk <;> first | rfl | (cases kn <;> first | rfl | (cases e1 <;> first | rfl | (cases vt <;> rfl))))))))
      · cases n0 with
        | false => cases z1 <;> cases z0 <;> first | exact absurd hz (by decide) | (first | rfl | (cases n12 <;> first | rfl | (cases z20 <;> first | rfl | (cases ck <;> first | rfl | (cases kk <;> first | rfl | (cases kn <;> first | rfl | (cases e1 <;> rfl)))))))
        | true => obtain ⟨rfl, rfl⟩ := h0 rfl; cases z1 <;> cases z0 <;> first | exact absurd hz (by decide) | (first | rfl | (cases n12 <;> first | rfl | (cases z20 <;> first | rfl | (first | rfl | (cases kk <;> first | rfl | (cases kn <;> first | rfl | (cases e1 <;> rfl)))))))
      · cases n0 with
        | false => cases z1 <;> cases z0 <;> first | exact absurd hz (by decide) | (first | rfl | (cases n12 <;> first | rfl | (cases z20 <;> first | rfl | (cases ck <;> first | rfl | (cases kk <;> first | rfl | (cases kn <;> first | rfl | (cases e1 <;> rfl)))))))
        | true => obtain ⟨rfl, rfl⟩ := h0 rfl; cases z1 <;> cases z0 <;> first | exact absurd hz (by decide) | (first | rfl | (cases n12 <;> first | rfl | (cases z20 <;> first | rfl | (first | rfl | (cases kk <;> first | rfl | (cases kn <;> first | rfl | (cases e1 <;> rfl)))))))
      · cases n0 with
        | false => cases z1 <;> cases z0 <;> first | exact absurd hz (by decide) | (first | rfl | (cases n12 <;> first | rfl | (cases z20 <;> first | rfl | (cases ck <;> first | rfl | (cases kk <;> first | rfl | (cases kn <;> first | rfl | (cases e1 <;> rfl)))))))
        | true => obtain ⟨rfl, rfl⟩ := h0 rfl; cases z1 <;> cases z0 <;> first | exact absurd hz (by decide) | (first | rfl | (cases n12 <;> first | rfl | (cases z20 <;> first | rfl | (first | rfl | (cases kk <;> first | rfl | (cases kn <;> first | rfl | (cases e1 <;> rfl)))))))
      · cases n0 with
        | false => cases z1 <;> cases z0 <;> first | exact absurd hz (by decide) | (first | rfl | (cases n12 <;> first | rfl | (cases z20 <;> first | rfl | (cases ck <;> first | rfl | (cases kk <;> first | rfl | (cases kn <;> first | rfl | (cases e1 <;> rfl)))))))
        | true => obtain ⟨rfl, rfl⟩ := h0 rfl; cases z1 <;> cases z0 <;> first | exact absurd hz (by decide) | (first | rfl | (cases n12 <;> first | rfl | (cases z20 <;> first | rfl | (first | rfl | (cases kk <;> first | rfl | (cases kn <;> first | rfl | (cases e1 <;> rfl)))))))
end Go.SH

namespace Go.SH
open Go Go.Ab Go.Proofs
set_option linter.unusedVariables false
set_option linter.unusedSimpArgs false
namespace EXP
def x (e : EXP) : List AV := expC e.op e.kind e.name e.vals e.kids.length (row e.kids)
theorem x_eq (e : EXP) : e.x = e.c := e.c_eq.symm
def kid (e : EXP) (j : Nat) : EXP := e.kids.getD j default
def part (e : EXP) : PART := ⟨e.op, e.kind, e.name, e.vals, e.kids.length, fun j => (e.kid j).op, fun j => (e.kid j).kind, fun j => (e.kid j).name, fun j => (e.kid j).vals, fun j => (e.kid j).kids.length, fun j => bif Nat.blt j e.kids.length then row (e.kid j).kids else fun _ => []⟩
theorem part_eq (e : EXP) : e.part.c = e.c := by
  rw [c_eq]
  unfold PART.c expC part
  simp only [List.cons.injEq, AV.sl.injEq, true_and, and_true]
  funext j
  by_cases h : j < e.kids.length
  · rw [bltT h, row_at h, c_eq]
    rfl
  · have hb : Nat.blt j e.kids.length = false := by
      cases e' : Nat.blt j e.kids.length with
      | false => rfl
      | true => exact absurd (ltB e') h
    rw [hb]
    unfold kid row
    simp only [List.getD, List.getElem?_map, List.getElem?_eq_none (Nat.le_of_not_lt h), Option.map_none, Option.getD_none, cond_false]
    rfl
theorem valL_inj {a b : List VAL} (h : valL a = valL b) : a = b := by
  unfold valL at h
  simp only [AV.sl.injEq, true_and] at h
  obtain ⟨h1, h2⟩ := h
  apply List.ext_getElem h1
  intro i hi hj
  have := congrFun h2 i
  simp only [List.getD, List.getElem?_eq_getElem hi, List.getElem?_eq_getElem hj, Option.getD_some] at this
  exact VAL.c_inj this
theorem c_inj : ∀ (a b : EXP), a.c = b.c → a = b
  | .mk o k n v ks, .mk o' k' n' v' ks', h => by
    rw [c_eq, c_eq] at h
    unfold expC at h
    simp only [List.cons.injEq, AV.int.injEq, AV.str.injEq, AV.sl.injEq, true_and, and_true] at h
    obtain ⟨h1, h2, h3, h4, h5, h6⟩ := h
    replace h4 := valL_inj h4
    simp only [op, kind, name, vals, kids] at h1 h2 h3 h4 h5 h6
    subst h1 h2 h3 h4
    have hk : ks = ks' := List.ext_getElem h5 fun j j1 j2 => by
      have hm := List.sizeOf_lt_of_mem (List.getElem_mem j1)
      have := congrFun h6 j
      rw [row_at j1, row_at j2] at this
      simp only [List.getD, List.getElem?_eq_getElem j1, List.getElem?_eq_getElem j2, Option.getD_some] at this
      exact c_inj _ _ this
    rw [hk]
  termination_by a => SizeOf.sizeOf a
  decreasing_by simp_wf; omega
inductive Ok : EXP → Prop
  | mk (e : EXP) : lenS e.kind → lenS e.name → valsOk e.vals → e.kids.length ≤ 1048576 → (∀ k ∈ e.kids, Ok k) → Ok e
theorem Ok.part {e : EXP} (h : e.Ok) : e.part.Ok := by
  cases h with
  | mk _ h1 h2 h3 h4 _ => exact ⟨h1, h2, h3, by show e.kids.length ≤ _; omega⟩
theorem Ok.kid {e : EXP} (h : e.Ok) {j : Nat} (hj : j < e.kids.length) : (e.kid j).Ok := by
  cases h with
  | mk _ h1 h2 h3 h4 h5 =>
    unfold EXP.kid
    rw [List.getD_eq_getElem?_getD, List.getElem?_eq_getElem hj]
    exact h5 _ (List.getElem_mem hj)
end EXP
def levelE (e : EXP) (d : Nat) : Int := bif decide (d ≥ 10) then 18 else partE e.part
mutual
def walkE : EXP → Nat → Nat → Int × Nat
  | .mk o k nm v ks, d, n => bif decide (n ≥ 60) then (5, n) else bif levelE (.mk o k nm v ks) d != 0 then (levelE (.mk o k nm v ks) d, n + 1) else walkL ks (d + 1) (n + 1)
def walkL : List EXP → Nat → Nat → Int × Nat
  | [], _, n => (0, n)
  | e :: r, d, n => bif (walkE e d n).1 != 0 then walkE e d n else walkL r d (walkE e d n).2
end
theorem walkE_eq (e : EXP) (d n : Nat) : walkE e d n = bif decide (n ≥ 60) then (5, n) else bif levelE e d != 0 then (levelE e d, n + 1) else walkL e.kids (d + 1) (n + 1) := by
  cases e with
  | mk o k nm v ks => rw [walkE]; rfl
def walkI (l : List EXP) (d i n : Nat) : Int × Nat := walkL (l.drop i) d n
theorem walkI_end (l : List EXP) (d n : Nat) {i : Nat} (h : ¬ i < l.length) : walkI l d i n = (0, n) := by
  unfold walkI
  rw [List.drop_eq_nil_of_le (by omega), walkL]
theorem walkI_step (l : List EXP) (d n : Nat) {i : Nat} (h : i < l.length) : walkI l d i n = bif (walkE (l.getD i default) d n).1 != 0 then walkE (l.getD i default) d n else walkI l d (i + 1) (walkE (l.getD i default) d n).2 := by
  unfold walkI
  rw [List.drop_eq_getElem_cons h, walkL]
  simp only [List.getD, List.getElem?_eq_getElem h, Option.getD_some]
def exprE (e : EXP) : Int := (walkE e 0 0).1
def sizeI (e : EXP) : Int := ((e.kids.length + e.vals.length : Nat) : Int)
mutual
def bigB : EXP → Bool
  | .mk o k nm v ks => (bif decide (ks.length + v.length < 200) then bigL ks else false) || decide (ks.length + v.length ≥ 200)
def bigL : List EXP → Bool
  | [] => false
  | e :: r => bigB e || bigL r
end
def bigI (l : List EXP) (i : Nat) : Bool := bigL (l.drop i)
theorem bigB_eq (e : EXP) : bigB e = ((bif decide (e.kids.length + e.vals.length < 200) then bigL e.kids else false) || decide (e.kids.length + e.vals.length ≥ 200)) := by
  cases e with
  | mk o k nm v ks => rw [bigB]; rfl
theorem bigI_end (l : List EXP) {i : Nat} (h : ¬ i < l.length) : bigI l i = false := by
  unfold bigI
  rw [List.drop_eq_nil_of_le (by omega), bigL]
theorem bigI_step (l : List EXP) {i : Nat} (h : i < l.length) : bigI l i = (bigB (l.getD i default) || bigI l (i + 1)) := by
  unfold bigI
  rw [List.drop_eq_getElem_cons h, bigL]
  simp only [List.getD, List.getElem?_eq_getElem h, Option.getD_some]
end Go.SH

namespace Go.SH
open Go Go.Ab Go.Proofs
set_option linter.unusedVariables false
set_option linter.unusedSimpArgs false
structure SERVE where
  var : Int
  kind : List UInt8
  by' : List UInt8
  salt : List UInt8
  split : List (Int × Int × Int)
def SERVE.c (v : SERVE) : List AV := [.int .i64 v.var, .str v.kind, .str v.by', .str v.salt, rngL v.split]
def SERVE.Ok (v : SERVE) : Prop := lenS v.kind ∧ lenS v.by' ∧ lenS v.salt ∧ v.split.length ≤ 4611686018427387904
def serveE (v : SERVE) (n : Int) : Int :=
  bif v.var != 0 then (bif decide (v.var < 1) || decide (v.var > n) then 3 else
    bif !(v.kind == []) || (!(v.by' == []) || (!(v.salt == []) || decide ((v.split.length : Int) > 0))) then 15 else 0)
  else bif !keyB v.kind || !keyB v.by' then 6 else bif !validB v.salt then 2 else splitE v.split n
section
variable (hu : UtfOk)
include hu
end
end Go.SH

namespace Go.SH
open Go Go.Ab Go.Proofs
set_option linter.unusedVariables false
set_option linter.unusedSimpArgs false
structure PRQ where
  flag : List UInt8
  var : Int
instance : Inhabited PRQ := ⟨⟨[], 0⟩⟩
def PRQ.c (p : PRQ) : List AV := [.str p.flag, .int .i64 p.var]
def prqL (l : List PRQ) : AV := .sl .no 2 l.length fun j => (l.getD j default).c
structure TGT where
  kind : List UInt8
  var : Int
  keys : List (List UInt8)
instance : Inhabited TGT := ⟨⟨[], 0, []⟩⟩
def TGT.c (p : TGT) : List AV := [.str p.kind, .int .i64 p.var, strsA p.keys]
def tgtL (l : List TGT) : AV := .sl .no 3 l.length fun j => (l.getD j default).c
instance : Inhabited SERVE := ⟨⟨0, [], [], [], []⟩⟩
structure RULE where
  name : List UInt8
  when : EXP
  serve : SERVE
instance : Inhabited RULE := ⟨⟨[], default, default⟩⟩
def RULE.c (p : RULE) : List AV := [.str p.name, .int .i64 p.when.op, .str p.when.kind, .str p.when.name, valL p.when.vals, .sl .no 5 p.when.kids.length (EXP.row p.when.kids), .int .i64 p.serve.var, .str p.serve.kind, .str p.serve.by', .str p.serve.salt, rngL p.serve.split]
def rulL (l : List RULE) : AV := .sl .no 11 l.length fun j => (l.getD j default).c
structure FLAG where
  key : List UInt8
  kind : Int
  vars : List VAL
  on : Bool
  off : Int
  prqs : List PRQ
  tgts : List TGT
  rules : List RULE
  dflt : SERVE
def FLAG.c (f : FLAG) : List AV := [.str f.key, .int .i64 f.kind, valL f.vars, .bool f.on, .int .i64 f.off, prqL f.prqs, tgtL f.tgts, rulL f.rules, .int .i64 f.dflt.var, .str f.dflt.kind, .str f.dflt.by', .str f.dflt.salt, rngL f.dflt.split]
structure SEG where
  key : List UInt8
  kind : List UInt8
  incl : List (List UInt8)
  excl : List (List UInt8)
  when : EXP
def SEG.c (g : SEG) : List AV := [.str g.key, .str g.kind, strsA g.incl, strsA g.excl, .int .i64 g.when.op, .str g.when.kind, .str g.when.name, valL g.when.vals, .sl .no 5 g.when.kids.length (EXP.row g.when.kids)]
structure LAYER where
  key : List UInt8
  kind : List UInt8
  salt : List UInt8
  hold : Int
  cool : Int
  cooling : List (Int × Int × Int)
def LAYER.c (l : LAYER) : List AV := [.str l.key, .str l.kind, .str l.salt, .int .i64 l.hold, .int .i64 l.cool, rngL l.cooling]
structure EXPT where
  key : List UInt8
  layer : List UInt8
  flag : List UInt8
  salt : List UInt8
  status : Int
  claims : List (Int × Int)
  arms : List (Int × Int × Int)
  when : EXP
def EXPT.c (x : EXPT) : List AV := [.str x.key, .str x.layer, .str x.flag, .str x.salt, .int .i64 x.status, spnL x.claims, rngL x.arms, .int .i64 x.when.op, .str x.when.kind, .str x.when.name, valL x.when.vals, .sl .no 5 x.when.kids.length (EXP.row x.when.kids)]
def okL {α : Type} (P : α → Prop) (l : List α) : Prop := l.length ≤ 1048576 ∧ ∀ v ∈ l, P v
theorem okL.at {α : Type} [Inhabited α] {P : α → Prop} {l : List α} (h : okL P l) {i : Nat} (hi : i < l.length) : P (l.getD i default) := by
  rw [List.getD_eq_getElem?_getD, List.getElem?_eq_getElem hi]
  exact h.2 _ (List.getElem_mem hi)
theorem okL.big {α : Type} {P : α → Prop} {l : List α} (h : okL P l) : l.length ≤ 4611686018427387904 := Nat.le_trans h.1 (by omega)
def TGT.Ok (t : TGT) : Prop := lenS t.kind ∧ strsOk t.keys
def RULE.Ok (r : RULE) : Prop := lenS r.name ∧ r.when.Ok ∧ r.serve.Ok
def FLAG.Ok (f : FLAG) : Prop := lenS f.key ∧ okL VAL.Ok f.vars ∧ okL (fun p : PRQ => lenS p.flag) f.prqs ∧ okL TGT.Ok f.tgts ∧ okL RULE.Ok f.rules ∧ f.dflt.Ok
def SEG.Ok (g : SEG) : Prop := lenS g.key ∧ lenS g.kind ∧ strsOk g.incl ∧ strsOk g.excl ∧ g.when.Ok
def LAYER.Ok (l : LAYER) : Prop := lenS l.key ∧ lenS l.kind ∧ lenS l.salt ∧ l.cooling.length ≤ 1048576
def EXPT.Ok (x : EXPT) : Prop := lenS x.key ∧ lenS x.layer ∧ lenS x.flag ∧ lenS x.salt ∧ x.claims.length ≤ 1048576 ∧ x.arms.length ≤ 1048576 ∧ x.when.Ok
end Go.SH

namespace Go.SH
open Go Go.Ab Go.Proofs
set_option linter.unusedVariables false
set_option linter.unusedSimpArgs false
def R0 : (Ex → St → Res) → Res := fun k => k (.exit 0) { env := [], objs := [] }
def B70 (l : List PRQ) (i : Nat) : St := { env := [(0, prqL l), (9, prqL l), (10, .int .i64 l.length), (11, .int .i64 i)], objs := [] }
def B74 (l : List PRQ) (i : Nat) : St := { env := [(0, prqL l), (3, .int .i64 i)], objs := [] }
def B71 (l : List TGT) (n : Nat) (i : Nat) : St := { env := [(1, .int .i64 n), (11, tgtL l), (12, .int .i64 l.length), (13, .int .i64 i)], objs := [] }
def B75 (l : List TGT) (n : Nat) (i : Nat) : St := { env := [(0, tgtL l), (1, .int .i64 n), (5, .int .i64 i)], objs := [] }
def B72 (l : List RULE) (n : Nat) (i : Nat) : St := { env := [(0, rulL l), (1, .int .i64 n), (13, rulL l), (14, .int .i64 l.length), (15, .int .i64 i)], objs := [] }
def B72e (l : List RULE) (n : Nat) (i : Nat) : St := { env := [(0, rulL l), (1, .int .i64 n), (6, .ref 6 0), (13, rulL l), (14, .int .i64 l.length), (15, .int .i64 i)], objs := [(6, .cells (l.getD i default).c)] }
def subA (l : List RULE) (i : Nat) : AV := .sl .no 11 i fun j => (l.getD (0 + j) default).c
def B72i (l : List RULE) (n : Nat) (i k : Nat) : St := { env := [(0, rulL l), (1, .int .i64 n), (6, .ref 6 0), (13, rulL l), (14, .int .i64 l.length), (15, .int .i64 i), (26, subA l i), (27, .int .i64 i), (28, .int .i64 k)], objs := [(6, .cells (l.getD i default).c)] }
def B76 (l : List RULE) (n : Nat) (i : Nat) : St := { env := [(0, rulL l), (1, .int .i64 n), (5, .int .i64 i)], objs := [] }
def B76i (l : List RULE) (n : Nat) (i k : Nat) : St := { env := [(0, rulL l), (1, .int .i64 n), (5, .int .i64 i), (6, .int .i64 k)], objs := [] }
def B34 (f : FLAG) (i : Nat) : St := { env := [(1, .ref 1 0), (3, .int .i64 f.vars.length), (38, valL f.vars), (39, .int .i64 f.vars.length), (40, .int .i64 i)], objs := [(1, .cells f.c)] }
def B34e (f : FLAG) : St := { env := [(1, .ref 1 0), (3, .int .i64 f.vars.length)], objs := [(1, .cells f.c)] }
def B73 (f : FLAG) (i : Nat) : St := { env := [(1, .ref 1 0), (3, .int .i64 f.vars.length), (4, .int .i64 i)], objs := [(1, .cells f.c)] }
def B38 (l : LAYER) (i : Nat) : St := { env := [(1, .ref 1 0), (52, rngL l.cooling), (53, .int .i64 l.cooling.length), (54, .int .i64 i)], objs := [(1, .cells l.c)] }
def B39 (l : LAYER) (i : Nat) : St := { env := [(1, .ref 1 0), (3, .int .i64 i)], objs := [(1, .cells l.c)] }
def out72 (l : List RULE) (n : Nat) (x : Nat × Bool) (k : Ex → St → Res) : Res := cond x.2 (k .ret { env := [(4, .int .i64 10)], objs := [] }) (k (.exit 2) (B72e l n x.1))
def out76 (l : List RULE) (n : Nat) (x : Nat × Bool) (k : Ex → St → Res) : Res := cond x.2 (k .ret { env := [(4, .int .i64 10)], objs := [] }) (k (.exit 2) (B76 l n x.1))
end Go.SH

namespace Go.SH
open Go Go.Ab Go.Proofs
set_option linter.unusedVariables false
set_option linter.unusedSimpArgs false
def φW (x : Int × Nat) : AV × List AO := (.int .i64 x.1, [.cells [.int .i64 x.2] ])
def kidsA (p : PART) : AV := .sl .no 5 p.n fun j => [.int .i64 (p.ko j), .str (p.kk j), .str (p.kn j), valL (p.kv j), .sl .no 5 (p.km j) (p.kg j)]
def kidC (p : PART) (j : Nat) : List AV := [.int .i64 (p.ko j), .str (p.kk j), .str (p.kn j), valL (p.kv j), .sl .no 5 (p.km j) (p.kg j)]
def cntO (n : Int) : AO := .cells [.int .i64 n]
def E1 (p : PART) (d i n : Nat) : St := { env := [(1, .int .i64 d), (2, .ref keyBase 0), (27, kidsA p), (28, .int .i64 p.n), (29, .int .i64 i)], objs := [(keyBase, cntO n)] }
def E2 (p : PART) (d i n : Nat) : St := { env := [(1, .int .i64 (d + 1 : Nat)), (2, .ref keyBase 0), (3, .ref 3 0), (8, .int .i64 i)], objs := [(3, .cells p.c), (keyBase, cntO n)] }
def E3 (p : PART) (i : Nat) : St := { env := [(1, .ref 1 0), (3, .int .i64 (p.n + p.vals.length : Nat)), (4, .int .i64 i)], objs := [(1, .cells p.c)] }
def outW (x : Int × Nat) (k : Ex → St → Res) : Res := cond (x.1 != 0) (k .ret { env := [(6, .int .i64 x.1)], objs := [(keyBase, cntO x.2)] }) (k (.exit 0) { env := [], objs := [(keyBase, cntO x.2)] })
def outG (p : PART) (b : Bool) (k : Ex → St → Res) : Res := cond b (k .ret { env := [(2, .bool true)], objs := [] }) (k (.exit 0) { env := [(3, .int .i64 (p.n + p.vals.length : Nat))], objs := [] })
set_option maxRecDepth 100000 in
theorem expr_r (gp : List AV → List AO → Bool) (vp : List AV → List AO → Int) (ge : List AV → List AO → Bool) (ve : List AV → List AO → Int × Nat) (L : List (List Nat × Orc)) (m : Nat) (p : PART) (d i n : Nat) (kn : St → Res) (k : Ex → St → Res) {t1 : Int × Nat} (h_t1 : ve [.agg (kidC p (Int.toNat (↑i : Int))), .int .i64 (IntKind.wrap IntKind.i64 ((↑d : Int) + 1)), .ref 1000000 0] [cntO (↑n : Int)] = t1) : roundR (V.run [mkE 106 gp vp φE, mkE 52 ge ve φW] 9 [] L [] 52) 52 m [1, 1, 1, 1, 0, 1, 0] (E1 p d i n) kn k =
  cond (decide ((↑i : Int) < (↑(PART.n p) : Int))) (cond (within (↑i : Int) (PART.n p)) (cond (ge [.agg (kidC p (Int.toNat (↑i : Int))), .int .i64 (IntKind.wrap IntKind.i64 ((↑d : Int) + 1)), .ref 1000000 0] [cntO (↑n : Int)]) (cond (Prod.fst t1 != 0) (k (.ret) ({ env := [(6, .int .i64 (Prod.fst t1))], objs := [(1000000, cntO (↑(Prod.snd t1) : Int))] })) (kn ({ env := [(1, .int .i64 (↑d : Int)), (2, .ref 1000000 0), (27, kidsA p), (28, .int .i64 (↑(PART.n p) : Int)), (29, .int .i64 (IntKind.wrap IntKind.i64 ((↑i : Int) + 1)))], objs := [(1000000, cntO (↑(Prod.snd t1) : Int))] }))) (none)) (none)) (k (.exit 0) ({ env := [], objs := [(1000000, cntO (↑n : Int))] })) := by subst h_t1; kernel_rfl
set_option maxRecDepth 100000 in
theorem walk_r (gp : List AV → List AO → Bool) (vp : List AV → List AO → Int) (ge : List AV → List AO → Bool) (ve : List AV → List AO → Int × Nat) (L : List (List Nat × Orc)) (m : Nat) (p : PART) (d i n : Nat) (kn : St → Res) (k : Ex → St → Res) {t1 : Int × Nat} (h_t1 : ve [.agg (kidC p (Int.toNat (↑i : Int))), .int .i64 (IntKind.wrap IntKind.i64 ((↑(d + 1) : Int) + 1)), .ref 1000000 0] [cntO (↑n : Int)] = t1) : roundR (V.run [mkE 107 gp vp φE, mkE 53 ge ve φW] 9 [] L [] 53) 53 m [1, 1, 1, 1, 1, 0, 1, 0] (E2 p d i n) kn k =
  cond (decide ((↑i : Int) < (↑(PART.n p) : Int))) (cond (within (↑i : Int) (PART.n p)) (cond (ge [.agg (kidC p (Int.toNat (↑i : Int))), .int .i64 (IntKind.wrap IntKind.i64 ((↑(d + 1) : Int) + 1)), .ref 1000000 0] [cntO (↑n : Int)]) (cond (Prod.fst t1 != 0) (k (.ret) ({ env := [(6, .int .i64 (Prod.fst t1))], objs := [(1000000, cntO (↑(Prod.snd t1) : Int))] })) (kn ({ env := [(1, .int .i64 (↑(d + 1) : Int)), (2, .ref 1000000 0), (3, .ref 3 0), (8, .int .i64 (IntKind.wrap IntKind.i64 ((↑i : Int) + 1)))], objs := [(3, .cells (PART.c p)), (1000000, cntO (↑(Prod.snd t1) : Int))] }))) (none)) (none)) (k (.exit 0) ({ env := [], objs := [(1000000, cntO (↑n : Int))] })) := by subst h_t1; kernel_rfl
set_option maxRecDepth 100000 in
theorem big_r (ge ve : List AV → List AO → Bool) (L : List (List Nat × Orc)) (m : Nat) (p : PART) (i : Nat) (kn : St → Res) (k : Ex → St → Res)  : roundR (V.run [mkE 11 ge ve φB] 9 [] L [] 11) 11 m [1, 1, 0, 1, 0] (E3 p i) kn k =
  cond (bif decide ((↑i : Int) < (↑(PART.n p) : Int)) then decide ((↑(PART.n p + List.length (PART.vals p)) : Int) < 200) else false) (cond (within (↑i : Int) (PART.n p)) (cond (ge [.agg (kidC p (Int.toNat (↑i : Int)))] []) (cond (ve [.agg (kidC p (Int.toNat (↑i : Int)))] []) (k (.ret) ({ env := [(2, .bool true)], objs := [] })) (kn ({ env := [(1, .ref 1 0), (3, .int .i64 (↑(PART.n p + List.length (PART.vals p)) : Int)), (4, .int .i64 (IntKind.wrap IntKind.i64 ((↑i : Int) + 1)))], objs := [(1, .cells (PART.c p))] }))) (none)) (none)) (k (.exit 0) ({ env := [(3, .int .i64 (↑(PART.n p + List.length (PART.vals p)) : Int))], objs := [] })) := by kernel_rfl
set_option maxRecDepth 100000 in
theorem expr_m (gp : List AV → List AO → Bool) (vp : List AV → List AO → Int) (ge : List AV → List AO → Bool) (ve : List AV → List AO → Int × Nat) (g : St → Bool) (v : St → Int × Nat) (p : PART) (d n : Nat) {t1 : Int} (h_t1 : vp [.agg (PART.c p), .int .i64 (↑d : Int)] [] = t1) {t2 : Int × Nat} (h_t2 : v { env := [(1, .int .i64 (↑d : Int)), (2, .ref 1000000 0), (27, kidsA p), (28, .int .i64 (↑(PART.n p) : Int)), (29, .int .i64 0)], objs := [(1000000, cntO (IntKind.wrap IntKind.i64 ((↑n : Int) + 1)))] } = t2) : runF (V.run [mkE 106 gp vp φE, mkE 52 ge ve φW] 9 [] [([1, 1, 1, 1, 0, 1, 0], mkO g v outW)] [] 52) 9 52 [.agg p.c, .int .i64 d, .ref keyBase 0] [cntO n] =
  cond (decide ((↑n : Int) ≥ 60)) (some ((.int .i64 5, [cntO (↑n : Int)]))) (cond (gp [.agg (PART.c p), .int .i64 (↑d : Int)] []) (cond (t1 != 0) (some ((.int .i64 t1, [cntO (IntKind.wrap IntKind.i64 ((↑n : Int) + 1))]))) (cond (g { env := [(1, .int .i64 (↑d : Int)), (2, .ref 1000000 0), (27, kidsA p), (28, .int .i64 (↑(PART.n p) : Int)), (29, .int .i64 0)], objs := [(1000000, cntO (IntKind.wrap IntKind.i64 ((↑n : Int) + 1)))] }) (cond (Prod.fst t2 != 0) (some ((.int .i64 (Prod.fst t2), [cntO (↑(Prod.snd t2) : Int)]))) (some ((.int .i64 0, [cntO (↑(Prod.snd t2) : Int)])))) (none))) (none)) := by subst h_t2 h_t1; kernel_rfl
set_option maxRecDepth 100000 in
theorem walk_m (gp : List AV → List AO → Bool) (vp : List AV → List AO → Int) (ge : List AV → List AO → Bool) (ve : List AV → List AO → Int × Nat) (g : St → Bool) (v : St → Int × Nat) (p : PART) (d n : Nat) {t1 : Int} (h_t1 : vp [.agg (PART.c p)] [] = t1) {t2 : Int × Nat} (h_t2 : v { env := [(1, .int .i64 (↑(d + 1) : Int)), (2, .ref 1000000 0), (3, .ref 3 0), (8, .int .i64 0)], objs := [(3, .cells (PART.c p)), (1000000, cntO (IntKind.wrap IntKind.i64 ((↑n : Int) + 1)))] } = t2) : runF (V.run [mkE 107 gp vp φE, mkE 53 ge ve φW] 9 [] [([1, 1, 1, 1, 1, 0, 1, 0], mkO g v outW)] [] 53) 9 53 [.agg p.c, .int .i64 (d + 1 : Nat), .ref keyBase 0] [cntO n] =
  cond (decide ((↑n : Int) ≥ 60)) (some ((.int .i64 5, [cntO (↑n : Int)]))) (cond (decide ((↑(d + 1) : Int) > 10)) (some ((.int .i64 18, [cntO (IntKind.wrap IntKind.i64 ((↑n : Int) + 1))]))) (cond (gp [.agg (PART.c p)] []) (cond (t1 != 0) (some ((.int .i64 t1, [cntO (IntKind.wrap IntKind.i64 ((↑n : Int) + 1))]))) (cond (g { env := [(1, .int .i64 (↑(d + 1) : Int)), (2, .ref 1000000 0), (3, .ref 3 0), (8, .int .i64 0)], objs := [(3, .cells (PART.c p)), (1000000, cntO (IntKind.wrap IntKind.i64 ((↑n : Int) + 1)))] }) (cond (Prod.fst t2 != 0) (some ((.int .i64 (Prod.fst t2), [cntO (↑(Prod.snd t2) : Int)]))) (some ((.int .i64 0, [cntO (↑(Prod.snd t2) : Int)])))) (none))) (none))) := by subst h_t2 h_t1; kernel_rfl
set_option maxRecDepth 100000 in
theorem big_m (ge ve : List AV → List AO → Bool) (g : St → Bool) (v : St → Bool) (p : PART)  : runF (V.run [mkE 11 ge ve φB] 9 [] [([1, 1, 0, 1, 0], mkO g v (outG p))] [] 11) 9 11 [.agg p.c] [] =
  cond (g { env := [(1, .ref 1 0), (3, .int .i64 (IntKind.wrap IntKind.i64 ((↑(PART.n p) : Int) + (↑(List.length (PART.vals p)) : Int)))), (4, .int .i64 0)], objs := [(1, .cells (PART.c p))] }) (cond (v { env := [(1, .ref 1 0), (3, .int .i64 (IntKind.wrap IntKind.i64 ((↑(PART.n p) : Int) + (↑(List.length (PART.vals p)) : Int)))), (4, .int .i64 0)], objs := [(1, .cells (PART.c p))] }) (some ((.bool true, []))) (some ((.bool (decide ((↑(PART.n p + List.length (PART.vals p)) : Int) ≥ 200)), [])))) (none) := by kernel_rfl
end Go.SH

namespace Go.SH
open Go Go.Ab Go.Proofs
set_option linter.unusedVariables false
set_option linter.unusedSimpArgs false
theorem kidC_eq {e : EXP} {j : Nat} (h : j < e.kids.length) : kidC e.part j = (e.kid j).c := by
  rw [EXP.c_eq]
  unfold kidC EXP.part
  simp only [bltT h]
  rfl
theorem kid_mem {e : EXP} {j : Nat} (h : j < e.kids.length) : e.kid j ∈ e.kids := by
  unfold EXP.kid
  rw [List.getD_eq_getElem?_getD, List.getElem?_eq_getElem h]
  exact List.getElem_mem h
theorem wrap_small {n : Nat} (h : n < 1000000) : IntKind.wrap .i64 ((n : Int) + 1) = ((n + 1 : Nat) : Int) := by rw [wrap_i64 (by omega) (by omega)]; rfl
theorem levelE_cast (e : EXP) (d : Nat) : (bif decide ((d : Int) ≥ 10) then 18 else partE e.part) = levelE e d := by
  unfold levelE
  by_cases h : d ≥ 10
  · rw [decide_eq_true h, decide_eq_true (by omega)]
  · rw [decide_eq_false h, decide_eq_false (by omega)]
theorem ge60 (n : Nat) : decide ((n : Int) ≥ 60) = decide (n ≥ 60) := by
  by_cases h : n ≥ 60
  · rw [decide_eq_true h, decide_eq_true (by omega)]
  · rw [decide_eq_false h, decide_eq_false (by omega)]
instance : Inhabited (Int × Nat) := ⟨(0, 0)⟩
section
variable (z : Nat)
def wA (x : EXP × Nat × Nat) : List AV := [.agg x.1.c, .int .i64 (x.2.1 + z : Nat), .ref keyBase 0]
def wO (x : EXP × Nat × Nat) : List AO := [cntO x.2.2]
def wW (x : EXP × Nat × Nat) : Int × Nat := walkE x.1 x.2.1 x.2.2
def wP (e : EXP) (x : EXP × Nat × Nat) : Prop := x.1 ∈ e.kids ∧ x.2.1 ≤ 10
theorem wInj (a b : EXP × Nat × Nat) (h : wA z a = wA z b) (h' : wO a = wO b) : wW a = wW b := by
  obtain ⟨e, d, n⟩ := a
  obtain ⟨e', d', n'⟩ := b
  simp only [wA, wO, cntO, List.cons.injEq, AV.agg.injEq, AV.int.injEq, AO.cells.injEq, true_and, and_true] at h h'
  obtain ⟨h1, h2⟩ := h
  have h1 := EXP.c_inj _ _ h1
  have h2 : d = d' := by omega
  have h3 : n = n' := by omega
  subst h1 h2 h3; rfl
noncomputable abbrev gW (e : EXP) : List AV → List AO → Bool := goodA (wA z) wO (wP e)
noncomputable abbrev vW (e : EXP) : List AV → List AO → Int × Nat := valA (wA z) wO (wP e) wW
theorem gW_eq {e k : EXP} {d n : Nat} (h : k ∈ e.kids) (hd : d ≤ 10) : gW z e [.agg k.c, .int .i64 (d + z : Nat), .ref 1000000 0] [cntO n] = true := goodA_eq (A := wA z) (O := wO) (v := (k, d, n)) ⟨h, hd⟩
theorem vW_eq {e k : EXP} {d n : Nat} (h : k ∈ e.kids) (hd : d ≤ 10) : vW z e [.agg k.c, .int .i64 (d + z : Nat), .ref 1000000 0] [cntO n] = walkE k d n := valA_eq (A := wA z) (O := wO) (v := (k, d, n)) (fun a b _ _ h1 h2 => wInj z a b h1 h2) ⟨h, hd⟩
end
theorem E1_inj (e : EXP) (d : Nat) (a b : Nat × Nat) (h : E1 e.part d a.1 a.2 = E1 e.part d b.1 b.2) : walkI e.kids (d + 1) a.1 a.2 = walkI e.kids (d + 1) b.1 b.2 := by
  simp only [E1, cntO, St.mk.injEq, List.cons.injEq, Prod.mk.injEq, AV.int.injEq, AO.cells.injEq, and_true, true_and] at h
  rw [show a.1 = b.1 by omega, show a.2 = b.2 by omega]
theorem E2_inj (e : EXP) (d : Nat) (a b : Nat × Nat) (h : E2 e.part d a.1 a.2 = E2 e.part d b.1 b.2) : walkI e.kids (d + 1) a.1 a.2 = walkI e.kids (d + 1) b.1 b.2 := by
  simp only [E2, cntO, St.mk.injEq, List.cons.injEq, Prod.mk.injEq, AV.int.injEq, AO.cells.injEq, and_true, true_and] at h
  rw [show a.1 = b.1 by omega, show a.2 = b.2 by omega]
theorem E3_inj (e : EXP) (a b : Nat) (h : E3 e.part a = E3 e.part b) : a = b := by
  simp only [E3, St.mk.injEq, List.cons.injEq, Prod.mk.injEq, AV.int.injEq, and_true, true_and] at h; omega
theorem Ok.len {e : EXP} (h : e.Ok) : e.kids.length ≤ 1048576 := by cases h with | mk _ h1 h2 h3 h4 h5 => exact h4
theorem Ok.vals {e : EXP} (h : e.Ok) : valsOk e.vals := by cases h with | mk _ h1 h2 h3 h4 h5 => exact h3
theorem expr_ok : ∀ e : EXP, e.Ok → ∀ d n : Nat, d ≤ 10 → Ct V.P V.G 52 [.agg e.c, .int .i64 d, .ref keyBase 0] [cntO n] (φW (walkE e d n)) := by
  intro e he
  induction he with
  | mk e h1 h2 h3 h4 h5 ih =>
  intro d n hd
  have he : e.Ok := .mk e h1 h2 h3 h4 h5
  have hl := fun (hd : d < 10) (gp : List AV → List AO → Bool) (vp : List AV → List AO → Int) L => loopOk_of (X := V.run [mkE 106 gp vp φE, mkE 52 (gW 0 e) (vW 0 e) φW] 9 [] L [] 52) (f := 52) (p := [1, 1, 1, 1, 0, 1, 0]) (b := subC (bodyOf V.P 52) ([1, 1, 1, 1, 0, 1, 0] ++ [0]))
    (fun x : Nat × Nat => E1 e.part d x.1 x.2) (fun x => x.1 ≤ e.kids.length) (fun x => e.kids.length - x.1) (fun x => walkI e.kids (d + 1) x.1 x.2) outW (by kernel_rfl) 9 (fun x hx k kn hk => by
      obtain ⟨i, n⟩ := x
      show roundR _ _ _ _ (E1 e.part d i n) kn k = outW (walkI e.kids (d + 1) i n) k
      by_cases h : i < e.kids.length
      · have w1 : IntKind.wrap .i64 ((d : Int) + 1) = ((d + 1 + 0 : Nat) : Int) := wrap_small (by omega)
        refine (expr_r gp vp (gW 0 e) (vW 0 e) L _ e.part d i n kn k (t1 := walkE (e.kid i) (d + 1) n) ?_).trans ?_
        · rw [Int.toNat_natCast, kidC_eq h, w1]; exact vW_eq 0 (d := d + 1) (n := n) (kid_mem h) (by omega)
        · rw [show e.part.n = e.kids.length from rfl, lt_true h, within_lt h, Int.toNat_natCast, kidC_eq h, w1, gW_eq 0 (d := d + 1) (n := n) (kid_mem h) (by omega), wrap_next h (by omega), walkI_step _ _ _ h]
          show cond _ _ _ = outW _ k
          rw [show e.kids.getD i default = e.kid i from rfl]
          generalize walkE (e.kid i) (d + 1) n = r at *
          cases hr : (r.1 != 0) with
          | true => simp only [cond_true]; unfold outW; rw [hr]; rfl
          | false => exact hk (i + 1, r.2) (by show i + 1 ≤ _; omega) (by show e.kids.length - (i + 1) < e.kids.length - i; omega)
      · refine (expr_r gp vp (gW 0 e) (vW 0 e) L _ e.part d i n kn k rfl).trans ?_
        rw [show e.part.n = e.kids.length from rfl, lt_false h, walkI_end _ _ _ h]; rfl)
  have he' := walkE_eq e d n
  refine ct_loops (n := 9) (d := 9) (T := [ent1 106 [.agg e.part.c, .int .i64 d] (levelE e d) φE, entC 52 (wA 0) wO (wP e) wW φW]) (L := if d < 10 then [([1, 1, 1, 1, 0, 1, 0], mkO (goodS (fun x : Nat × Nat => E1 e.part d x.1 x.2) (fun x => x.1 ≤ e.kids.length)) (valS (fun x : Nat × Nat => E1 e.part d x.1 x.2) (fun x => x.1 ≤ e.kids.length) (fun x => walkI e.kids (d + 1) x.1 x.2)) outW)] else [([1, 1, 1, 1, 0, 1, 0], mkO (fun _ => false) (fun _ => (0, 0)) outW)]) mixed funcs
    (tabOk_cons (ent1_ok (by have := part_ok e.part he.part d; rw [levelE_cast] at this; exact this)) (tabOk_cons (entC_ok fun x hx => ih x.1 hx.1 x.2.1 x.2.2 hx.2) tabOk_nil)) ?_ ?_
  · by_cases h : d < 10
    · rw [if_pos h]; exact loopsOk_cons (hl h _ _ _) loopsOk_nil
    · rw [if_neg h]
      exact loopsOk_cons (fun s k r h => by simp [mkO] at h) loopsOk_nil
  · rw [← e.part_eq]
    by_cases h : d < 10
    · rw [if_pos h]
      have hv : valS (fun x : Nat × Nat => E1 e.part d x.1 x.2) (fun x => x.1 ≤ e.kids.length) (fun x => walkI e.kids (d + 1) x.1 x.2) (E1 e.part d 0 (n + 1)) = walkI e.kids (d + 1) 0 (n + 1) := valS_eq (S := fun x : Nat × Nat => E1 e.part d x.1 x.2) (v := (0, n + 1)) (fun a b _ _ h => E1_inj e d a b h) (Nat.zero_le _)
      have hg : goodS (fun x : Nat × Nat => E1 e.part d x.1 x.2) (fun x => x.1 ≤ e.kids.length) (E1 e.part d 0 (n + 1)) = true := goodS_eq (S := fun x : Nat × Nat => E1 e.part d x.1 x.2) (v := (0, n + 1)) (Nat.zero_le _)
      by_cases hn : n ≥ 60
      · refine (expr_m _ _ (gW 0 e) (vW 0 e) _ _ e.part d n rfl rfl).trans ?_
        rw [ge60, he', decide_eq_true hn]; rfl
      · have w1 : IntKind.wrap .i64 ((n : Int) + 1) = ((n + 1 : Nat) : Int) := wrap_small (by omega)
        refine (expr_m (g1 [.agg e.part.c, .int .i64 d]) (v1 [.agg e.part.c, .int .i64 d] (levelE e d)) (gW 0 e) (vW 0 e) _ _ e.part d n (v1_eq _ _) (t2 := walkI e.kids (d + 1) 0 (n + 1)) (by rw [w1]; exact hv)).trans ?_
        rw [ge60, he', decide_eq_false hn, g1_eq, w1]
        rw [show goodS (fun x : Nat × Nat => E1 e.part d x.1 x.2) (fun x => x.1 ≤ e.kids.length) { env := [(1, .int .i64 (d : Int)), (2, .ref 1000000 0), (27, kidsA e.part), (28, .int .i64 (e.part.n : Int)), (29, .int .i64 0)], objs := [(1000000, cntO ((n + 1 : Nat) : Int))] } = true from hg]
        rw [show walkI e.kids (d + 1) 0 (n + 1) = walkL e.kids (d + 1) (n + 1) from rfl]
        generalize walkL e.kids (d + 1) (n + 1) = q
        cases hx : (levelE e d != 0) with
        | true => rfl
        | false =>
          obtain ⟨q1, q2⟩ := q
          by_cases hq : q1 = 0
          · subst hq; rfl
          · have : (q1 != 0) = true := by simp [hq]
            show (cond false _ (cond true (cond (q1 != 0) _ _) none)) = some (φW (cond false _ (cond false _ (q1, q2))))
            rw [this]; rfl
    · rw [if_neg h]
      have hd : levelE e d = 18 := by unfold levelE; rw [decide_eq_true (by omega)]; rfl
      refine (expr_m (g1 [.agg e.part.c, .int .i64 d]) (v1 [.agg e.part.c, .int .i64 d] (levelE e d)) (gW 0 e) (vW 0 e) _ _ e.part d n (v1_eq _ _) rfl).trans ?_
      rw [ge60, he', g1_eq, hd]
      by_cases hn : n ≥ 60
      · rw [decide_eq_true hn]; rfl
      · rw [decide_eq_false hn, wrap_small (by omega)]; rfl
end Go.SH

namespace Go.SH
open Go Go.Ab Go.Proofs
set_option linter.unusedVariables false
set_option linter.unusedSimpArgs false
set_option maxRecDepth 100000 in
theorem exp15_m (ge : List AV → List AO → Bool) (ve : List AV → List AO → Int × Nat) (p : PART) {t1 : Int × Nat} (h_t1 : ve [.agg (PART.c p), .int .i64 0, .ref 1000000 0] [cntO 0] = t1) : runF (V.run [mkE 52 ge ve φW] 9 [] [] [] 15) 9 15 [.agg p.c] [] =
  cond (ge [.agg (PART.c p), .int .i64 0, .ref 1000000 0] [cntO 0]) (some ((.int .i64 (Prod.fst t1), []))) (none) := by subst h_t1; kernel_rfl
set_option maxRecDepth 100000 in
theorem exp16_m (ge : List AV → List AO → Bool) (ve : List AV → List AO → Int × Nat) (p : PART) {t1 : Int × Nat} (h_t1 : ve [.agg (PART.c p), .int .i64 1, .ref 1000000 0] [cntO 0] = t1) : runF (V.run [mkE 53 ge ve φW] 9 [] [] [] 16) 9 16 [.agg p.c] [] =
  cond (ge [.agg (PART.c p), .int .i64 1, .ref 1000000 0] [cntO 0]) (some ((.int .i64 (Prod.fst t1), []))) (none) := by subst h_t1; kernel_rfl
end Go.SH

namespace Go.SH
open Go Go.Ab Go.Proofs
set_option linter.unusedVariables false
set_option linter.unusedSimpArgs false
theorem gt10 (d : Nat) : decide (((d + 1 : Nat) : Int) > 10) = decide (d ≥ 10) := by
  by_cases h : d ≥ 10
  · rw [decide_eq_true h, decide_eq_true (by omega)]
  · rw [decide_eq_false h, decide_eq_false (by omega)]
theorem walk_ok : ∀ e : EXP, e.Ok → ∀ d n : Nat, d ≤ 10 → Ct V.P V.G 53 [.agg e.c, .int .i64 (d + 1 : Nat), .ref keyBase 0] [cntO n] (φW (walkE e d n)) := by
  intro e he
  induction he with
  | mk e h1 h2 h3 h4 h5 ih =>
  intro d n hd
  have he : e.Ok := .mk e h1 h2 h3 h4 h5
  have hl := fun (hd : d < 10) (gp : List AV → List AO → Bool) (vp : List AV → List AO → Int) L => loopOk_of (X := V.run [mkE 107 gp vp φE, mkE 53 (gW 1 e) (vW 1 e) φW] 9 [] L [] 53) (f := 53) (p := [1, 1, 1, 1, 1, 0, 1, 0]) (b := subC (bodyOf V.P 53) ([1, 1, 1, 1, 1, 0, 1, 0] ++ [0]))
    (fun x : Nat × Nat => E2 e.part d x.1 x.2) (fun x => x.1 ≤ e.kids.length) (fun x => e.kids.length - x.1) (fun x => walkI e.kids (d + 1) x.1 x.2) outW (by kernel_rfl) 9 (fun x hx k kn hk => by
      obtain ⟨i, n⟩ := x
      show roundR _ _ _ _ (E2 e.part d i n) kn k = outW (walkI e.kids (d + 1) i n) k
      by_cases h : i < e.kids.length
      · have w1 : IntKind.wrap .i64 (((d + 1 : Nat) : Int) + 1) = ((d + 1 + 1 : Nat) : Int) := wrap_small (by omega)
        refine (walk_r gp vp (gW 1 e) (vW 1 e) L _ e.part d i n kn k (t1 := walkE (e.kid i) (d + 1) n) ?_).trans ?_
        · rw [Int.toNat_natCast, kidC_eq h, w1]; exact vW_eq 1 (d := d + 1) (n := n) (kid_mem h) (by omega)
        · rw [show e.part.n = e.kids.length from rfl, lt_true h, within_lt h, Int.toNat_natCast, kidC_eq h, w1, gW_eq 1 (d := d + 1) (n := n) (kid_mem h) (by omega), wrap_next h (by omega), walkI_step _ _ _ h]
          show cond _ _ _ = outW _ k
          rw [show e.kids.getD i default = e.kid i from rfl]
          generalize walkE (e.kid i) (d + 1) n = r at *
          cases hr : (r.1 != 0) with
          | true => simp only [cond_true]; unfold outW; rw [hr]; rfl
          | false => exact hk (i + 1, r.2) (by show i + 1 ≤ _; omega) (by show e.kids.length - (i + 1) < e.kids.length - i; omega)
      · refine (walk_r gp vp (gW 1 e) (vW 1 e) L _ e.part d i n kn k rfl).trans ?_
        rw [show e.part.n = e.kids.length from rfl, lt_false h, walkI_end _ _ _ h]; rfl)
  have he' := walkE_eq e d n
  refine ct_loops (n := 9) (d := 9) (T := [ent1 107 [.agg e.part.c] (partE e.part) φE, entC 53 (wA 1) wO (wP e) wW φW]) (L := if d < 10 then [([1, 1, 1, 1, 1, 0, 1, 0], mkO (goodS (fun x : Nat × Nat => E2 e.part d x.1 x.2) (fun x => x.1 ≤ e.kids.length)) (valS (fun x : Nat × Nat => E2 e.part d x.1 x.2) (fun x => x.1 ≤ e.kids.length) (fun x => walkI e.kids (d + 1) x.1 x.2)) outW)] else [([1, 1, 1, 1, 1, 0, 1, 0], mkO (fun _ => false) (fun _ => (0, 0)) outW)]) mixed funcs
    (tabOk_cons (ent1_ok (rpart_ok e.part he.part)) (tabOk_cons (entC_ok fun x hx => ih x.1 hx.1 x.2.1 x.2.2 hx.2) tabOk_nil)) ?_ ?_
  · by_cases h : d < 10
    · rw [if_pos h]; exact loopsOk_cons (hl h _ _ _) loopsOk_nil
    · rw [if_neg h]
      exact loopsOk_cons (fun s k r h => by simp [mkO] at h) loopsOk_nil
  · rw [← e.part_eq]
    by_cases h : d < 10
    · rw [if_pos h]
      have hv : valS (fun x : Nat × Nat => E2 e.part d x.1 x.2) (fun x => x.1 ≤ e.kids.length) (fun x => walkI e.kids (d + 1) x.1 x.2) (E2 e.part d 0 (n + 1)) = walkI e.kids (d + 1) 0 (n + 1) := valS_eq (S := fun x : Nat × Nat => E2 e.part d x.1 x.2) (v := (0, n + 1)) (fun a b _ _ h => E2_inj e d a b h) (Nat.zero_le _)
      have hg : goodS (fun x : Nat × Nat => E2 e.part d x.1 x.2) (fun x => x.1 ≤ e.kids.length) (E2 e.part d 0 (n + 1)) = true := goodS_eq (S := fun x : Nat × Nat => E2 e.part d x.1 x.2) (v := (0, n + 1)) (Nat.zero_le _)
      have hx0 : levelE e d = partE e.part := by unfold levelE; rw [decide_eq_false (by omega)]; rfl
      rw [hx0] at he'
      by_cases hn : n ≥ 60
      · refine (walk_m _ _ (gW 1 e) (vW 1 e) _ _ e.part d n rfl rfl).trans ?_
        rw [ge60, he', decide_eq_true hn]; rfl
      · have w1 : IntKind.wrap .i64 ((n : Int) + 1) = ((n + 1 : Nat) : Int) := wrap_small (by omega)
        refine (walk_m (g1 [.agg e.part.c]) (v1 [.agg e.part.c] (partE e.part)) (gW 1 e) (vW 1 e) _ _ e.part d n (v1_eq _ _) (t2 := walkI e.kids (d + 1) 0 (n + 1)) (by rw [w1]; exact hv)).trans ?_
        rw [ge60, he', decide_eq_false hn, g1_eq, w1, gt10, decide_eq_false (show ¬ d ≥ 10 by omega)]
        rw [show goodS (fun x : Nat × Nat => E2 e.part d x.1 x.2) (fun x => x.1 ≤ e.kids.length) { env := [(1, .int .i64 ((d + 1 : Nat) : Int)), (2, .ref 1000000 0), (3, .ref 3 0), (8, .int .i64 0)], objs := [(3, .cells e.part.c), (1000000, cntO ((n + 1 : Nat) : Int))] } = true from hg]
        rw [show walkI e.kids (d + 1) 0 (n + 1) = walkL e.kids (d + 1) (n + 1) from rfl]
        generalize walkL e.kids (d + 1) (n + 1) = q
        cases hx : (partE e.part != 0) with
        | true => rfl
        | false =>
          obtain ⟨q1, q2⟩ := q
          by_cases hq : q1 = 0
          · subst hq; rfl
          · have : (q1 != 0) = true := by simp [hq]
            show (cond false _ (cond true (cond (q1 != 0) _ _) none)) = some (φW (cond false _ (cond false _ (q1, q2))))
            rw [this]; rfl
    · rw [if_neg h]
      have hd : levelE e d = 18 := by unfold levelE; rw [decide_eq_true (by omega)]; rfl
      refine (walk_m (g1 [.agg e.part.c]) (v1 [.agg e.part.c] (partE e.part)) (gW 1 e) (vW 1 e) _ _ e.part d n (v1_eq _ _) rfl).trans ?_
      rw [ge60, he', hd, gt10, decide_eq_true (show d ≥ 10 by omega)]
      by_cases hn : n ≥ 60
      · rw [decide_eq_true hn]; rfl
      · rw [decide_eq_false hn, wrap_small (by omega)]; rfl
def w0 (e : EXP) (x : EXP × Nat × Nat) : Prop := x = (e, 0, 0)
theorem exp15_ok (e : EXP) (h : e.Ok) : Ct V.P V.G 15 [.agg e.c] [] (φE (exprE e)) := by
  refine ct_loops (n := 9) (d := 9) (L := []) (T := [entC 52 (wA 0) wO (w0 e) wW φW]) mixed funcs (tabOk_cons (entC_ok fun x hx => by obtain rfl := hx; exact expr_ok e h 0 0 (by omega)) tabOk_nil) loopsOk_nil ?_
  rw [← e.part_eq]
  have hg : goodA (wA 0) wO (w0 e) [.agg e.part.c, .int .i64 0, .ref 1000000 0] [cntO 0] = true := by
    rw [e.part_eq]; exact goodA_eq (A := wA 0) (O := wO) (v := (e, 0, 0)) rfl
  have hv : valA (wA 0) wO (w0 e) wW [.agg e.part.c, .int .i64 0, .ref 1000000 0] [cntO 0] = walkE e 0 0 := by
    rw [e.part_eq]; exact valA_eq (A := wA 0) (O := wO) (v := (e, 0, 0)) (fun a b _ _ h1 h2 => wInj 0 a b h1 h2) rfl
  refine (exp15_m _ _ e.part hv).trans ?_
  rw [hg]; rfl
theorem exp16_ok (e : EXP) (h : e.Ok) : Ct V.P V.G 16 [.agg e.c] [] (φE (exprE e)) := by
  refine ct_loops (n := 9) (d := 9) (L := []) (T := [entC 53 (wA 1) wO (w0 e) wW φW]) mixed funcs (tabOk_cons (entC_ok fun x hx => by obtain rfl := hx; exact walk_ok e h 0 0 (by omega)) tabOk_nil) loopsOk_nil ?_
  rw [← e.part_eq]
  have hg : goodA (wA 1) wO (w0 e) [.agg e.part.c, .int .i64 1, .ref 1000000 0] [cntO 0] = true := by
    rw [e.part_eq]; exact goodA_eq (A := wA 1) (O := wO) (v := (e, 0, 0)) rfl
  have hv : valA (wA 1) wO (w0 e) wW [.agg e.part.c, .int .i64 1, .ref 1000000 0] [cntO 0] = walkE e 0 0 := by
    rw [e.part_eq]; exact valA_eq (A := wA 1) (O := wO) (v := (e, 0, 0)) (fun a b _ _ h1 h2 => wInj 1 a b h1 h2) rfl
  refine (exp16_m _ _ e.part hv).trans ?_
  rw [hg]; rfl
def expA (e : EXP) : List AV := [.agg e.c]
theorem expA_inj {τ : Type} (w : EXP → τ) (a b : EXP) (h : expA a = expA b) : w a = w b := by
  simp only [expA, List.cons.injEq, AV.agg.injEq, and_true] at h
  rw [EXP.c_inj _ _ h]
def outG' (e : EXP) (b : Bool) (k : Ex → St → Res) : Res := outG e.part b k
theorem big_ok : ∀ e : EXP, e.Ok → Ct V.P V.G 11 [.agg e.c] [] (φB (bigB e)) := by
  intro e he
  induction he with
  | mk e h1 h2 h3 h4 h5 ih =>
  have hn : e.part.n + e.part.vals.length = e.kids.length + e.vals.length := rfl
  have hs := h3.1
  have hl := fun L => loopOk_of (X := V.run [mkE 11 (gF expA (· ∈ e.kids)) (vF expA (· ∈ e.kids) bigB) φB] 9 [] L [] 11) (f := 11) (p := [1, 1, 0, 1, 0]) (b := subC (bodyOf V.P 11) ([1, 1, 0, 1, 0] ++ [0]))
    (fun i : Nat => E3 e.part i) (fun i => i ≤ e.kids.length) (fun i => e.kids.length - i) (fun i => bif decide (e.kids.length + e.vals.length < 200) then bigI e.kids i else false) (outG e.part) (by kernel_rfl) 9 (fun i hx k kn hk => by
      refine (big_r _ _ L _ e.part i kn k).trans ?_
      rw [hn]
      by_cases h2 : e.kids.length + e.vals.length < 200
      · have hd : decide (((e.kids.length + e.vals.length : Nat) : Int) < 200) = true := decide_eq_true (by omega)
        rw [decide_eq_true h2]
        by_cases h : i < e.kids.length
        · rw [show e.part.n = e.kids.length from rfl, lt_true h, within_lt h, hd, Int.toNat_natCast, kidC_eq h, show gF expA (· ∈ e.kids) [.agg (e.kid i).c] [] = true from gF_eq (A := expA) (kid_mem h), show vF expA (· ∈ e.kids) bigB [.agg (e.kid i).c] [] = bigB (e.kid i) from vF_eq (A := expA) (expA_inj bigB) (kid_mem h), wrap_next h (by omega)]
          have hst := bigI_step e.kids h
          rw [show e.kids.getD i default = e.kid i from rfl] at hst
          cases hb : bigB (e.kid i) with
          | true => show _ = outG _ (cond true (bigI _ _) _) k; rw [hst, hb]; rfl
          | false =>
            refine (hk (i + 1) (by omega) (by omega)).trans ?_
            rw [decide_eq_true h2, hst, hb]; rfl
        · rw [show e.part.n = e.kids.length from rfl, lt_false h, bigI_end _ h]; rfl
      · have hd : decide (((e.kids.length + e.vals.length : Nat) : Int) < 200) = false := decide_eq_false (by omega)
        rw [hd, decide_eq_false h2]
        cases decide ((i : Int) < (e.part.n : Int)) <;> rfl)
  have hv : valS (fun i : Nat => E3 e.part i) (fun i => i ≤ e.kids.length) (fun i => bif decide (e.kids.length + e.vals.length < 200) then bigI e.kids i else false) (E3 e.part 0) = (bif decide (e.kids.length + e.vals.length < 200) then bigI e.kids 0 else false) := valS_eq (S := fun i : Nat => E3 e.part i) (v := 0) (fun a b _ _ h => by rw [E3_inj e a b h]) (Nat.zero_le _)
  have hg : goodS (fun i : Nat => E3 e.part i) (fun i => i ≤ e.kids.length) (E3 e.part 0) = true := goodS_eq (S := fun i : Nat => E3 e.part i) (v := 0) (Nat.zero_le _)
  refine ct_loops (n := 9) (d := 9) (T := [entF 11 expA (· ∈ e.kids) bigB φB]) mixed funcs (tabOk_cons (entF_ok fun k hk => ih k hk) tabOk_nil) (loopsOk_cons (hl _) loopsOk_nil) ?_
  rw [← e.part_eq]
  refine (big_m _ _ _ _ e.part).trans ?_
  have hw : IntKind.wrap .i64 ((e.part.n : Int) + (e.part.vals.length : Int)) = ((e.kids.length + e.vals.length : Nat) : Int) := by
    rw [show e.part.n = e.kids.length from rfl, show e.part.vals = e.vals from rfl, wrap_i64 (by omega) (by omega)]; rfl
  rw [hw, hn]
  have hg' : goodS (fun i : Nat => E3 e.part i) (fun i => i ≤ e.kids.length) { env := [(1, .ref 1 0), (3, .int .i64 ((e.kids.length + e.vals.length : Nat) : Int)), (4, .int .i64 0)], objs := [(1, .cells e.part.c)] } = true := hg
  have hv' : valS (fun i : Nat => E3 e.part i) (fun i => i ≤ e.kids.length) (fun i => bif decide (e.kids.length + e.vals.length < 200) then bigI e.kids i else false) { env := [(1, .ref 1 0), (3, .int .i64 ((e.kids.length + e.vals.length : Nat) : Int)), (4, .int .i64 0)], objs := [(1, .cells e.part.c)] } = (bif decide (e.kids.length + e.vals.length < 200) then bigI e.kids 0 else false) := hv
  rw [hg', hv', bigB_eq, show bigI e.kids 0 = bigL e.kids from rfl]
  have hd : decide (((e.kids.length + e.vals.length : Nat) : Int) ≥ 200) = decide (e.kids.length + e.vals.length ≥ 200) := by
    by_cases h : e.kids.length + e.vals.length ≥ 200
    · rw [decide_eq_true h, decide_eq_true (by omega)]
    · rw [decide_eq_false h, decide_eq_false (by omega)]
  rw [hd]
  cases decide (e.kids.length + e.vals.length < 200) <;> cases bigL e.kids <;> cases decide (e.kids.length + e.vals.length ≥ 200) <;> rfl
end Go.SH

namespace Go.SH
open Go Go.Ab Go.Proofs
set_option linter.unusedVariables false
set_option linter.unusedSimpArgs false
def prqStop (l : List PRQ) (i : Nat) : Option Int :=
  bif !keyB (l.getD i default).flag then some 6 else
  bif decide (i > 0) && (bytesLt (l.getD i default).flag (l.getD (i - 1) default).flag || (l.getD i default).flag == (l.getD (i - 1) default).flag) then some 9 else
  bif decide ((l.getD i default).var < 1) || decide ((l.getD i default).var > 8) then some 3 else none
def prqSeek (l : List PRQ) : Bool × Int := scanAt l.length (· + 1) (prqStop l) 0
def prqE (l : List PRQ) : Int := bif decide (l.length > 4) then 5 else bif (prqSeek l).1 then (prqSeek l).2 else 0
abbrev prqOk : List PRQ → Prop := okL (fun p : PRQ => lenS p.flag)
def memA (l : List (List UInt8)) : List AV := [strsA l]
noncomputable abbrev gM : List AV → List AO → Bool := gF memA strsOk
noncomputable abbrev vM : List AV → List AO → Int := vF memA strsOk memE
def tgtStop (l : List TGT) (n : Nat) (i : Nat) : Option Int :=
  bif !keyB (l.getD i default).kind then some 6 else
  bif decide ((l.getD i default).var < 1) || (decide ((l.getD i default).var > n) || (l.getD i default).keys.length == 0) then some 3 else
  bif memE (l.getD i default).keys != 0 then some (memE (l.getD i default).keys) else none
def tgtSeek (l : List TGT) (n : Nat) : Bool × Int := scanAt l.length (· + 1) (tgtStop l n) 0
def tgtE (l : List TGT) (n : Nat) : Int := bif decide (l.length > 8) then 5 else bif (tgtSeek l n).1 then (tgtSeek l n).2 else 0
end Go.SH

namespace Go.SH
open Go Go.Ab Go.Proofs
set_option linter.unusedVariables false
set_option linter.unusedSimpArgs false
theorem rngL_inj {a b : List (Int × Int × Int)} (h : rngL a = rngL b) : a = b := by
  unfold rngL at h
  simp only [AV.sl.injEq, true_and] at h
  obtain ⟨h1, h2⟩ := h
  apply List.ext_getElem h1
  intro i hi hj
  have := congrFun h2 i
  simp only [List.getD, List.getElem?_eq_getElem hi, List.getElem?_eq_getElem hj, Option.getD_some, rngC, List.cons.injEq, AV.int.injEq, true_and, and_true] at this
  obtain ⟨h3, h4, h5⟩ := this
  exact Prod.ext h3 (Prod.ext h4 h5)
theorem SERVE.c_inj {a b : SERVE} (h : a.c = b.c) : a = b := by
  obtain ⟨k, n, t, l, m⟩ := a
  obtain ⟨k', n', t', l', m'⟩ := b
  simp only [SERVE.c, List.cons.injEq, AV.int.injEq, AV.str.injEq, true_and, and_true] at h
  obtain ⟨rfl, rfl, rfl, rfl, h⟩ := h
  rw [rngL_inj h]
def exA (e : EXP) : List AV := [.agg e.x]
noncomputable abbrev gX : List AV → List AO → Bool := gF exA EXP.Ok
noncomputable abbrev vX : List AV → List AO → Int := vF exA EXP.Ok exprE
theorem exp15_x (e : EXP) (h : e.Ok) : Ct V.P V.G 15 (exA e) [] (φE (exprE e)) := by
  show Ct V.P V.G 15 [.agg e.x] [] _
  rw [e.x_eq]; exact exp15_ok e h
theorem exp16_x (e : EXP) (h : e.Ok) : Ct V.P V.G 16 (exA e) [] (φE (exprE e)) := by
  show Ct V.P V.G 16 [.agg e.x] [] _
  rw [e.x_eq]; exact exp16_ok e h
def svA (n : Nat) (v : SERVE) : List AV := [.agg v.c, .int .i64 n]
noncomputable abbrev gY (n : Nat) : List AV → List AO → Bool := gF (svA n) SERVE.Ok
noncomputable abbrev vY (n : Nat) : List AV → List AO → Int := vF (svA n) SERVE.Ok (fun v => serveE v n)
def dupStop (l : List RULE) (i : Nat) (k : Nat) : Option Unit := bif (l.getD k default).name == (l.getD i default).name then some () else none
def dupI (l : List RULE) (i k : Nat) : Bool := (scanAt i (· + 1) (dupStop l i) k).1
def rulStop (l : List RULE) (n : Nat) (i : Nat) : Option Int :=
  bif !keyB (l.getD i default).name then some 6 else
  bif dupI l i 0 then some 10 else
  bif exprE (l.getD i default).when != 0 then some (exprE (l.getD i default).when) else
  bif serveE (l.getD i default).serve n != 0 then some (serveE (l.getD i default).serve n) else none
def rulSeek (l : List RULE) (n : Nat) : Bool × Int := scanAt l.length (· + 1) (rulStop l n) 0
def rulE (l : List RULE) (n : Nat) : Int := bif decide (l.length > 12) then 5 else bif (rulSeek l n).1 then (rulSeek l n).2 else 0
def dupW (l : List RULE) (x : Nat × Nat) : Nat × Bool := (x.1, dupI l x.1 x.2)
instance : Inhabited (Nat × Bool) := ⟨(0, false)⟩
def S72i (l : List RULE) (n : Nat) (x : Nat × Nat) : St := B72i l n x.1 x.2
def S76i (l : List RULE) (n : Nat) (x : Nat × Nat) : St := B76i l n x.1 x.2
def inI (l : List RULE) (x : Nat × Nat) : Prop := x.2 ≤ x.1 ∧ x.1 < l.length
end Go.SH

namespace Go.SH
open Go Go.Ab Go.Proofs
set_option linter.unusedVariables false
set_option linter.unusedSimpArgs false
def varStop (f : FLAG) (i : Nat) : Option Int :=
  bif checkE (f.vars.getD i default) != 0 then some (checkE (f.vars.getD i default)) else
  bif (f.vars.getD i default).kind != f.kind then some 8 else none
def varSeek (f : FLAG) : Bool × Int := scanAt f.vars.length (· + 1) (varStop f) 0
def varE (f : FLAG) : Int :=
  bif decide (f.vars.length > 8) then 5 else bif f.vars.length == 0 then 3 else bif (varSeek f).1 then (varSeek f).2 else
  bif decide (f.off < 1) || decide (f.off > f.vars.length) then 3 else 0
def flagE (f : FLAG) : Int :=
  bif !keyB f.key then 6 else bif decide (f.kind < 1) || decide (f.kind > 5) then 7 else
  bif varE f != 0 then varE f else bif prqE f.prqs != 0 then prqE f.prqs else
  bif tgtE f.tgts f.vars.length != 0 then tgtE f.tgts f.vars.length else
  bif rulE f.rules f.vars.length != 0 then rulE f.rules f.vars.length else serveE f.dflt f.vars.length
def spanBad (a b c : Int) : Bool := bif !(decide (0 ≤ a) && (decide (a < b) && decide (b ≤ 10000))) then true else bif decide (c < 0) then true else decide (c > 1099511627776)
def coolStop (l : List (Int × Int × Int)) (i : Nat) : Option Int :=
  bif spanBad (l.getD i (0, 0, 0)).1 (l.getD i (0, 0, 0)).2.1 (l.getD i (0, 0, 0)).2.2 then some 3 else
  bif decide (i > 0) && decide ((l.getD i (0, 0, 0)).1 < (l.getD (i - 1) (0, 0, 0)).2.1) then some 9 else none
def coolSeek (l : List (Int × Int × Int)) : Bool × Int := scanAt l.length (· + 1) (coolStop l) 0
def layerE (f : LAYER) : Int :=
  bif !keyB f.key || !keyB f.kind then 6 else bif !validB f.salt then 2 else
  bif decide (f.hold < 0) || (decide (f.hold > 10000) || (decide (f.cool < 0) || decide (f.cool > 1099511627776))) then 3 else
  bif decide (f.cooling.length > 32) then 5 else bif (coolSeek f.cooling).1 then (coolSeek f.cooling).2 else 0
def segE (g : SEG) : Int :=
  bif !keyB g.key || !keyB g.kind then 6 else bif memE g.incl != 0 then memE g.incl else bif memE g.excl != 0 then memE g.excl else bif noneB g.when then 0 else exprE g.when
def exptE (x : EXPT) : Int :=
  bif !keyB x.key || (!keyB x.layer || !keyB x.flag) then 6 else bif !validB x.salt then 2 else
  bif decide (x.status < 1) || decide (x.status > 3) then 7 else bif spansE x.claims != 0 then spansE x.claims else
  bif splitE x.arms 8 != 0 then splitE x.arms 8 else exprE x.when
end Go.SH

namespace Go.SH
open Go Go.Ab Go.Proofs
set_option linter.unusedVariables false
set_option linter.unusedSimpArgs false
def K6 (f : FLAG) (g : SEG) (l : LAYER) (x : EXPT) (i : Nat) : St := { env := [(4, .ref 4 0), (5, .ref 5 0), (6, .ref 6 0), (7, .ref 7 0), (9, .int .i64 i)], objs := [(4, .cells f.c), (5, .cells g.c), (6, .cells l.c), (7, .cells x.c)] }
def K6e (f : FLAG) (g : SEG) (l : LAYER) (x : EXPT) : St := { env := [(4, .ref 4 0), (5, .ref 5 0), (6, .ref 6 0), (7, .ref 7 0)], objs := [(4, .cells f.c), (5, .cells g.c), (6, .cells l.c), (7, .cells x.c)] }
set_option maxRecDepth 100000 in
theorem awake_m (gk vk gv vv : List AV → List AO → Bool)  : runF (V.run [mkE 65 gk vk φB, mkE 66 gv vv φB] 9 [] [] [] 10) 9 10 [] [] =
  cond (gv [.str []] []) (cond (!vv [.str []] []) (cond (gk [.str []] []) (cond (bif !vk [.str []] [] then bif !([] : List UInt8) == [] then true else 0 != 0 else false) (some ((.bool (bif bif 2 == 0 then 0 == 0 else false then 3 == 3 else false), []))) (some ((.bool (bif bif 2 == 0 then 0 == 0 else false then 3 == 3 else false), [])))) (none)) (cond (gk [.str []] []) (cond (bif !vk [.str []] [] then bif !([] : List UInt8) == [] then true else 0 != 0 else false) (some ((.bool (bif bif 6 == 0 then 0 == 0 else false then 3 == 3 else false), []))) (some ((.bool (bif bif 0 == 0 then 0 == 0 else false then 3 == 3 else false), [])))) (none))) (none) := by kernel_rfl
end Go.SH

namespace Go.SH
open Go Go.Ab Go.Proofs
set_option linter.unusedVariables false
set_option linter.unusedSimpArgs false
theorem validB_nil : validB [] = true := by decide
theorem awake_ok : Ct V.P V.G 10 [] [] (φB true) := by
  have h0 : lenS [] := by unfold lenS; simp
  refine ct_loops (n := 9) (d := 9) (L := []) (T := [entF 65 strA lenS keyB φB, entF 66 strA lenS validB φB]) mixed funcs
    (tabOk_cons (entF_ok fun s _ => key_ok s) (tabOk_cons (entF_ok fun s hs => valid_ok utfOk s hs) tabOk_nil)) loopsOk_nil ?_
  refine (awake_m gS (vS keyB) gS (vS validB)).trans ?_
  rw [gS_eq h0, vS_eq _ h0, vS_eq _ h0, validB_nil]
  cases keyB [] <;> rfl
noncomputable abbrev vBig : List AV → List AO → Bool := vF exA EXP.Ok bigB
end Go.SH

namespace Go.SH
open Go Go.Ab Go.Proofs
def tcells : DataW Unit → List AV
  | .lit (.string s) => [.str s]
  | .slice es _ => [strsA (tstrs es)]
  | .agg ps => tcellsL ps
  | _ => []
where
  tstrs : List (DataW Unit) → List (List UInt8)
    | .lit (.string s) :: r => s :: tstrs r
    | _ => []
  tcellsL : List (DataW Unit) → List AV
    | [] => []
    | .lit (.string s) :: r => .str s :: tcellsL r
    | .slice es _ :: r => strsA (tstrs es) :: tcellsL r
    | _ :: r => tcellsL r
noncomputable def globs2 (g : Nat) : Option (List AV) := cond (Nat.beq g 0) (some (tcells Go.Proofs.YtnldpiohcmgkdaaGreatDoor.Rows.laid_flagstone_flagstonedraw_versions)) (cond (Nat.beq g 1) (some (tcells Go.Proofs.YtnldpiohcmgkdaaGreatDoor.Rows.laid_flagstone_flagstonedraw_lists)) (cond (Nat.beq g 2) (some (tcells Go.Proofs.YtnldpiohcmgkdaaGreatDoor.Rows.laid_flagstone_flagstonedraw_texts)) (globs g)))
noncomputable def hints2 : List (Nat × List (Nat × Hint)) := [
  (9, [(20, hn [1, 2, 9, 12, 59, 60, 61] [9, 12, 44] [] []), (16, hn [1, 2, 8, 9, 12, 13] [8, 9, 12, 44] [] []), (8, hn [1, 2, 7, 8, 9, 10] [8, 9, 12, 15, 19, 44] [] [(9, 4, 44, 25)])]),
  (13, [(18, hn [0, 1, 2, 6, 8, 9, 10, 11] [6, 9, 81] [] [(9, 4, 81, 25)])]),
  (47, [(18, hn [0, 2, 5, 6, 7] [2, 5, 6, 63] [] [(6, 3, 63, 58)])]),
  (49, [(3, hn [1, 3, 4] [1] [] [])]),
  (105, [(3, hn [1, 10, 11, 12] [] [] [])]),
  (3, [(12, hn [32, 33, 34] [] [] [])]),
  (4, [(25, hn [13, 19, 20, 21] [] [] []), (16, hn [4, 12, 13, 81, 82, 83] [] [] []), (10, hn [1, 3, 4, 12, 13, 14, 55, 56, 57] [14] [] [])]),
  (5, [(10, hn [2, 8, 9, 39, 40, 41] [9] [] [])]),
  (14, [(23, hn [0, 3, 4, 6] [3, 4, 20, 61, 65, 83, 87, 110, 114] [] []), (29, hn [0, 3, 4, 7, 8] [3, 4, 7, 20, 61, 65, 83, 87, 110] [] [(7, 4, 110, 25)])]),
  (20, [(4, hn [0, 1, 5, 6, 7, 8] [46, 65] [(5, 46, 52)] [])]),
  (21, [(16, hn [0, 3, 4, 5] [3, 4, 8, 43, 64] [] [(3, 5, 64, 45)])]),
  (28, [(2, hn [0, 1, 5] [] [] [])]),
  (31, [(36, hn [0, 3, 4] [3, 4, 9, 13, 17, 21, 42, 71, 83, 97, 110, 191] [] [(3, 7, 191, 76)])]),
  (55, [(19, hn [0, 1, 6] [8, 56, 75] [(1, 75, 52)] [])]),
  (61, [(8, hn [4, 6] [25] [] []), (4, hn [0, 3, 4, 5] [25] [(4, 25, 9)] [])]),
  (62, [(3, hn [0, 3, 4] [24] [(3, 24, 9)] [])])]
noncomputable def trims2 : List (Nat × List (List Nat × Hint)) := [
  (3, [tr [1, 1] [1, 2] [2], tr [1, 1, 1] [1, 2] [2], tr [1, 1, 1, 1, 1, 1, 1, 1] [2, 7, 8] [2, 7, 8], tr [1, 1, 1, 1, 1, 1, 1, 1, 0, 1, 0, 0, 1, 0, 1] [] [], tr [1, 1, 1, 1, 1, 1, 1, 1, 0, 1, 0, 0, 1, 1] [32, 33, 34] [], tr [1, 1, 1, 1, 1, 1, 1, 1, 0, 1, 0, 0, 1, 1, 0, 0, 1, 1, 0, 1] [4] [], tr [1, 1, 1, 1, 1, 1, 1, 1, 0, 1, 0, 0, 1, 1, 1] [32, 33, 34] [], tr [1, 1, 1, 1, 1, 1, 1, 1, 1] [] []]),
  (4, [tr [1, 1] [0, 1, 2, 3, 4] [], tr [1, 1, 1] [0, 1, 2, 3, 4] [], tr [1, 1, 1, 1, 1, 1, 1, 0, 1, 0, 0, 1, 0, 1] [1, 4, 12, 13, 14] [14], tr [1, 1, 1, 1, 1, 1, 1, 0, 1, 0, 0, 1, 1] [1, 3, 4, 12, 13, 14, 55, 56, 57] [14], tr [1, 1, 1, 1, 1, 1, 1, 0, 1, 0, 0, 1, 1, 0, 0, 1, 1, 0, 1] [10] [], tr [1, 1, 1, 1, 1, 1, 1, 0, 1, 0, 0, 1, 1, 1] [1, 3, 4, 12, 13, 14, 55, 56, 57] [14], tr [1, 1, 1, 1, 1, 1, 1, 1] [1, 4, 12, 13, 14] [14], tr [1, 1, 1, 1, 1, 1, 1, 1, 0, 1, 0, 0, 1, 0, 1] [4, 12, 13] [], tr [1, 1, 1, 1, 1, 1, 1, 1, 0, 1, 0, 0, 1, 1] [4, 12, 13, 81, 82, 83] [], tr [1, 1, 1, 1, 1, 1, 1, 1, 0, 1, 0, 0, 1, 1, 0, 0, 1, 1, 0, 1] [10] [], tr [1, 1, 1, 1, 1, 1, 1, 1, 0, 1, 0, 0, 1, 1, 1] [4, 12, 13, 81, 82, 83] [], tr [1, 1, 1, 1, 1, 1, 1, 1, 1] [4, 12, 13] [], tr [1, 1, 1, 1, 1, 1, 1, 1, 1, 1] [4, 13] [], tr [1, 1, 1, 1, 1, 1, 1, 1, 1, 1, 1, 0, 1, 0, 0, 0, 1, 1] [13, 19, 20] [], tr [1, 1, 1, 1, 1, 1, 1, 1, 1, 1, 1, 0, 1, 0, 0, 1] [13, 19, 20, 21] [], tr [1, 1, 1, 1, 1, 1, 1, 1, 1, 1, 1, 0, 1, 0, 0, 1, 1] [13, 19, 20, 21] [], tr [1, 1, 1, 1, 1, 1, 1, 1, 1, 1, 1, 1] [13, 19, 20] []]),
  (5, [tr [1, 1] [1, 2, 3] [3], tr [1, 1, 1] [1, 2, 3] [3], tr [1, 1, 1, 1, 1, 1, 1, 0, 1, 0, 0, 1, 0, 1] [8, 9] [9], tr [1, 1, 1, 1, 1, 1, 1, 0, 1, 0, 0, 1, 1] [2, 8, 9, 39, 40, 41] [9], tr [1, 1, 1, 1, 1, 1, 1, 0, 1, 0, 0, 1, 1, 0, 0, 1, 1, 0, 1] [6] [], tr [1, 1, 1, 1, 1, 1, 1, 0, 1, 0, 0, 1, 1, 1] [2, 8, 9, 39, 40, 41] [9], tr [1, 1, 1, 1, 1, 1, 1, 1] [8, 9] [9]]),
  (9, [tr [1, 1] [0, 1, 2] [], tr [1, 1, 1, 1, 1, 1, 0, 1, 0, 0, 0, 1, 1] [1, 2, 7, 8, 9] [8, 9, 19, 44], tr [1, 1, 1, 1, 1, 1, 0, 1, 0, 0, 1] [1, 2, 7, 8, 9, 10] [8, 9, 19, 44], tr [1, 1, 1, 1, 1, 1, 0, 1, 0, 0, 1, 0, 0, 1, 1] [1, 2, 7, 8, 9, 10, 11] [8, 9, 11, 19, 44], tr [1, 1, 1, 1, 1, 1, 0, 1, 0, 0, 1, 1] [1, 2, 7, 8, 9, 10] [8, 9, 19, 44], tr [1, 1, 1, 1, 1, 1, 1] [1, 2, 7, 8, 9] [8, 9, 19, 44], tr [1, 1, 1, 1, 1, 1, 1, 1, 0, 1, 0, 0, 0, 1, 1] [1, 2, 8, 9, 12] [8, 9, 12, 44], tr [1, 1, 1, 1, 1, 1, 1, 1, 0, 1, 0, 0, 1] [1, 2, 8, 9, 12, 13] [8, 9, 12, 44], tr [1, 1, 1, 1, 1, 1, 1, 1, 0, 1, 0, 0, 1, 1] [1, 2, 8, 9, 12, 13] [8, 9, 12, 44], tr [1, 1, 1, 1, 1, 1, 1, 1, 1] [1, 2, 8, 9, 12] [8, 9, 12, 44], tr [1, 1, 1, 1, 1, 1, 1, 1, 1, 0, 1, 0, 0, 1, 0, 1] [1, 2, 9, 12] [9, 12, 44], tr [1, 1, 1, 1, 1, 1, 1, 1, 1, 0, 1, 0, 0, 1, 1] [1, 2, 9, 12, 59, 60, 61] [9, 12, 44], tr [1, 1, 1, 1, 1, 1, 1, 1, 1, 0, 1, 0, 0, 1, 1, 0, 0, 1, 1, 0, 1] [6] [], tr [1, 1, 1, 1, 1, 1, 1, 1, 1, 0, 1, 0, 0, 1, 1, 1] [1, 2, 9, 12, 59, 60, 61] [9, 12, 44], tr [1, 1, 1, 1, 1, 1, 1, 1, 1, 1] [1, 2, 9, 12] [9, 12, 44]]),
  (12, [tr [1, 1] [0] []]),
  (13, [tr [1, 1, 1] [0, 1, 2, 6, 7] [6, 81], tr [1, 1, 1, 0, 1, 0, 1, 1, 1, 1, 1, 1, 1] [0, 1, 2, 6, 49] [6, 81], tr [1, 1, 1, 0, 1, 0, 1, 1, 1, 1, 1, 1, 1, 0, 1, 1, 1, 0, 1, 0, 0, 0, 1, 1] [6, 9] [6, 9, 81], tr [1, 1, 1, 0, 1, 0, 1, 1, 1, 1, 1, 1, 1, 0, 1, 1, 1, 0, 1, 0, 0, 1] [0, 1, 2, 6, 8, 9, 10, 11] [6, 9, 81], tr [1, 1, 1, 0, 1, 0, 1, 1, 1, 1, 1, 1, 1, 0, 1, 1, 1, 0, 1, 0, 0, 1, 0, 0, 1, 1] [0, 1, 2, 6, 8, 9, 10, 11, 12] [6, 9, 12, 81], tr [1, 1, 1, 0, 1, 0, 1, 1, 1, 1, 1, 1, 1, 0, 1, 1, 1, 0, 1, 0, 0, 1, 1] [0, 1, 2, 6, 8, 9, 10, 11] [6, 9, 81], tr [1, 1, 1, 0, 1, 0, 1, 1, 1, 1, 1, 1, 1, 0, 1, 1, 1, 1] [6, 9] [6, 9, 81], tr [1, 1, 1, 1] [0, 6] [6, 81]]),
  (14, [tr [1, 1] [0, 3, 4] [3, 4, 20, 61, 65, 83, 87, 110, 114], tr [1, 1, 0, 1, 0, 1, 1, 1, 1, 1, 1, 1, 1, 1, 1, 1, 1, 1, 1, 1, 0, 1, 0, 0, 0, 1, 1] [3, 4] [3, 4, 20, 61, 65, 83, 87, 110, 114], tr [1, 1, 0, 1, 0, 1, 1, 1, 1, 1, 1, 1, 1, 1, 1, 1, 1, 1, 1, 1, 0, 1, 0, 0, 1] [0, 3, 4, 6] [3, 4, 20, 61, 65, 83, 87, 110, 114], tr [1, 1, 0, 1, 0, 1, 1, 1, 1, 1, 1, 1, 1, 1, 1, 1, 1, 1, 1, 1, 0, 1, 0, 0, 1, 1] [0, 3, 4, 6] [3, 4, 20, 61, 65, 83, 87, 110, 114], tr [1, 1, 0, 1, 0, 1, 1, 1, 1, 1, 1, 1, 1, 1, 1, 1, 1, 1, 1, 1, 1, 1, 0, 1, 0, 1, 0, 0, 0, 1, 1] [3, 4, 7] [3, 4, 7, 20, 61, 65, 83, 87, 110, 114], tr [1, 1, 0, 1, 0, 1, 1, 1, 1, 1, 1, 1, 1, 1, 1, 1, 1, 1, 1, 1, 1, 1, 0, 1, 0, 1, 0, 0, 1] [0, 3, 4, 7, 8] [3, 4, 7, 20, 61, 65, 83, 87, 110, 114], tr [1, 1, 0, 1, 0, 1, 1, 1, 1, 1, 1, 1, 1, 1, 1, 1, 1, 1, 1, 1, 1, 1, 0, 1, 0, 1, 0, 0, 1, 1] [0, 3, 4, 7, 8] [3, 4, 7, 20, 61, 65, 83, 87, 110, 114], tr [1, 1, 0, 1, 0, 1, 1, 1, 1, 1, 1, 1, 1, 1, 1, 1, 1, 1, 1, 1, 1, 1, 0, 1, 1] [3, 4, 7] [3, 4, 7, 20, 61, 65, 83, 87, 110, 114], tr [1, 1, 1] [3, 4] [3, 4, 20, 61, 65, 83, 87, 110, 114]]),
  (19, [tr [1, 1] [0, 1] []]),
  (20, [tr [1, 1, 1, 0, 1, 0, 0, 0, 1, 1] [0, 1, 5, 6, 7] [46], tr [1, 1, 1, 0, 1, 0, 0, 1] [0, 1, 5, 6, 7, 8] [46], tr [1, 1, 1, 0, 1, 0, 0, 1, 0, 0, 1, 1, 1] [0, 1, 5, 6, 7, 8, 9, 10] [46], tr [1, 1, 1, 0, 1, 0, 0, 1, 0, 0, 1, 1, 1, 0, 1, 0] [0, 1, 5, 6, 7] [46], tr [1, 1, 1, 0, 1, 0, 0, 1, 0, 0, 1, 1, 1, 1] [0, 1, 5, 6, 8, 9, 10] [46], tr [1, 1, 1, 0, 1, 0, 0, 1, 1] [0, 1, 5, 6, 7, 8] [46], tr [1, 1, 1, 1] [0, 1, 5, 6, 7] [46], tr [1, 1, 1, 1, 1, 1] [5, 6, 11] [46]]),
  (21, [tr [1, 1, 0, 1, 0, 1, 1, 1, 1, 1, 1, 1, 1, 1, 1, 1, 0, 1, 1, 0, 0, 0, 1, 1] [3, 4] [3, 4, 8, 43, 64], tr [1, 1, 0, 1, 0, 1, 1, 1, 1, 1, 1, 1, 1, 1, 1, 1, 0, 1, 1, 0, 0, 1] [0, 3, 4, 5] [3, 4, 8, 43, 64], tr [1, 1, 0, 1, 0, 1, 1, 1, 1, 1, 1, 1, 1, 1, 1, 1, 0, 1, 1, 0, 0, 1, 1] [0, 3, 4, 5] [3, 4, 8, 43, 64], tr [1, 1, 0, 1, 0, 1, 1, 1, 1, 1, 1, 1, 1, 1, 1, 1, 1, 1] [0, 3, 4, 11, 66] [3, 4, 8, 43, 64], tr [1, 1, 1] [3, 4] [3, 4, 8, 43, 64]]),
  (27, [tr [1, 1, 1] [0] []]),
  (28, [tr [1, 0, 1, 0, 0, 0, 1, 1] [] [], tr [1, 0, 1, 0, 0, 1] [0, 1, 5] [], tr [1, 0, 1, 0, 0, 1, 0, 0, 1, 0, 1] [4] [], tr [1, 0, 1, 0, 0, 1, 1] [0, 1, 5] [], tr [1, 1] [] []]),
  (30, [tr [1, 1] [0, 1, 4] [4], tr [1, 1, 1, 1, 1] [4, 5] [4, 5]]),
  (31, [tr [1, 1, 1, 1, 1, 0, 1, 0, 1, 1, 1, 1, 1, 1, 1, 1, 1, 1, 1, 1, 1, 1, 1, 1, 1, 1, 1] [0, 3, 4, 24, 112] [3, 4, 9, 13, 17, 21, 42, 71, 83, 97, 110, 191], tr [1, 1, 1, 1, 1, 0, 1, 0, 1, 1, 1, 1, 1, 1, 1, 1, 1, 1, 1, 1, 1, 1, 1, 1, 1, 1, 1, 1, 1, 1, 1, 1, 1, 0, 0, 0, 0, 1, 1] [3, 4] [3, 4, 9, 13, 17, 21, 42, 71, 83, 97, 110, 191], tr [1, 1, 1, 1, 1, 0, 1, 0, 1, 1, 1, 1, 1, 1, 1, 1, 1, 1, 1, 1, 1, 1, 1, 1, 1, 1, 1, 1, 1, 1, 1, 1, 1, 0, 0, 0, 1] [0, 3, 4] [3, 4, 9, 13, 17, 21, 42, 71, 83, 97, 110, 191], tr [1, 1, 1, 1, 1, 1] [3, 4] [3, 4, 9, 13, 17, 21, 42, 71, 83, 97, 110, 191]]),
  (47, [tr [1, 1, 1, 1] [0, 2, 3, 4] [2, 63], tr [1, 1, 1, 1, 1, 1, 0, 1, 0, 0, 0, 0, 0, 0, 0, 0, 0, 0, 0, 0, 0, 1, 0] [2, 6] [2, 6, 63], tr [1, 1, 1, 1, 1, 1, 0, 1, 0, 0, 0, 0, 0, 0, 0, 0, 0, 0, 0, 0, 1] [0, 2, 5, 6, 33] [2, 5, 6, 63], tr [1, 1, 1, 1, 1, 1, 0, 1, 0, 0, 0, 0, 0, 0, 0, 0, 0, 0, 0, 0, 1, 0, 1, 0] [0, 2, 5, 6] [2, 5, 6, 63], tr [1, 1, 1, 1, 1, 1, 0, 1, 0, 0, 0, 0, 0, 0, 0, 0, 0, 0, 0, 0, 1, 1] [0, 2, 5, 6, 33] [2, 5, 6, 63], tr [1, 1, 1, 1, 1, 1, 0, 1, 0, 0, 0, 0, 0, 0, 0, 0, 0, 0, 0, 0, 1, 1, 0, 1, 0] [0, 2, 5, 6] [2, 5, 6, 63], tr [1, 1, 1, 1, 1, 1, 0, 1, 0, 0, 0, 0, 0, 0, 0, 0, 0, 0, 0, 0, 1, 1, 1] [0, 2, 5, 6, 33] [2, 5, 6, 63], tr [1, 1, 1, 1, 1, 1, 0, 1, 0, 0, 0, 0, 0, 0, 0, 0, 0, 0, 0, 0, 1, 1, 1, 0, 1, 0] [0, 2, 5, 6] [2, 5, 6, 63], tr [1, 1, 1, 1, 1, 1, 0, 1, 0, 0, 0, 0, 0, 0, 0, 0, 0, 0, 0, 0, 1, 1, 1, 1] [0, 2, 5, 6, 33] [2, 5, 6, 63], tr [1, 1, 1, 1, 1, 1, 0, 1, 0, 0, 0, 0, 0, 0, 0, 0, 0, 0, 0, 0, 1, 1, 1, 1, 1, 0] [0, 2, 5, 6] [2, 5, 6, 63], tr [1, 1, 1, 1, 1, 1, 0, 1, 0, 0, 0, 0, 0, 0, 0, 0, 0, 0, 0, 1] [0, 2, 5, 6] [2, 5, 6, 63], tr [1, 1, 1, 1, 1, 1, 0, 1, 0, 0, 0, 0, 0, 0, 0, 0, 0, 0, 0, 1] [0, 2, 5, 6] [2, 5, 6, 63], tr [1, 1, 1, 1, 1, 1, 0, 1, 0, 0, 0, 0, 0, 0, 0, 0, 0, 1] [2, 6] [2, 6, 63], tr [1, 1, 1, 1, 1, 1, 0, 1, 0, 0, 0, 0, 0, 0, 0, 0, 0, 1, 1] [0, 2, 5, 6] [2, 5, 6, 63], tr [1, 1, 1, 1, 1, 1, 0, 1, 0, 0, 0, 0, 0, 0, 0, 0, 0, 1, 1] [0, 2, 5, 6] [2, 5, 6, 63], tr [1, 1, 1, 1, 1, 1, 0, 1, 0, 0, 0, 0, 0, 0, 0, 1] [0, 2, 5, 6] [2, 5, 6, 63], tr [1, 1, 1, 1, 1, 1, 0, 1, 0, 0, 0, 0, 0, 0, 0, 1, 0, 1, 0, 1, 0, 1, 0, 0, 0, 1, 1] [2, 6] [2, 6, 63], tr [1, 1, 1, 1, 1, 1, 0, 1, 0, 0, 0, 0, 0, 0, 0, 1, 0, 1, 0, 1, 0, 1, 0, 0, 1] [0, 2, 5, 6, 7] [2, 5, 6, 63], tr [1, 1, 1, 1, 1, 1, 0, 1, 0, 0, 0, 0, 0, 0, 0, 1, 0, 1, 0, 1, 0, 1, 0, 0, 1, 1] [0, 2, 5, 6, 7] [2, 5, 6, 63], tr [1, 1, 1, 1, 1, 1, 0, 1, 0, 0, 0, 0, 0, 0, 0, 1, 0, 1, 0, 1, 1] [2, 6] [2, 6, 63], tr [1, 1, 1, 1, 1, 1, 0, 1, 0, 0, 0, 0, 0, 0, 0, 1, 1] [0, 2, 5, 6] [2, 5, 6, 63], tr [1, 1, 1, 1, 1, 1, 0, 1, 0, 0, 0, 0, 0, 0, 0, 1, 1] [0, 2, 5, 6] [2, 5, 6, 63], tr [1, 1, 1, 1, 1, 1, 0, 1, 0, 0, 0, 0, 0, 1] [0, 2, 5, 6] [2, 5, 6, 63], tr [1, 1, 1, 1, 1, 1, 0, 1, 0, 0, 0, 0, 0, 1, 1] [0, 2, 5, 6] [2, 5, 6, 63], tr [1, 1, 1, 1, 1, 1, 0, 1, 0, 0, 0, 0, 0, 1, 1] [0, 2, 5, 6] [2, 5, 6, 63], tr [1, 1, 1, 1, 1, 1, 0, 1, 0, 0, 0, 1] [0, 2, 5, 6] [2, 5, 6, 63], tr [1, 1, 1, 1, 1, 1, 0, 1, 0, 1] [0, 2, 5, 6] [2, 5, 6, 63], tr [1, 1, 1, 1, 1, 1, 0, 1, 0, 1, 1] [0, 2, 5, 6] [2, 5, 6, 63], tr [1, 1, 1, 1, 1, 1, 0, 1, 0, 1, 1] [0, 2, 5, 6] [2, 5, 6, 63], tr [1, 1, 1, 1, 1, 1, 1] [0, 2, 5, 6] [2, 5, 6, 63]]),
  (49, [tr [1, 1, 0, 1, 0, 0, 0, 1, 1] [3] [], tr [1, 1, 0, 1, 0, 0, 1] [1, 3, 4] [1], tr [1, 1, 0, 1, 0, 0, 1, 1] [1, 3, 4] [1], tr [1, 1, 1] [3] []]),
  (55, [tr [1, 1, 1] [0, 1] [8, 56, 75], tr [1, 1, 1, 1, 0, 1, 0, 1, 1, 1, 1, 1, 1, 1, 1, 1, 1, 1, 0, 1, 0, 1, 0, 0, 0, 1, 1] [1] [8, 56, 75], tr [1, 1, 1, 1, 0, 1, 0, 1, 1, 1, 1, 1, 1, 1, 1, 1, 1, 1, 0, 1, 0, 1, 0, 0, 1] [0, 1, 6] [8, 56, 75], tr [1, 1, 1, 1, 0, 1, 0, 1, 1, 1, 1, 1, 1, 1, 1, 1, 1, 1, 0, 1, 0, 1, 0, 0, 1, 1] [0, 1, 6] [8, 56, 75], tr [1, 1, 1, 1, 0, 1, 0, 1, 1, 1, 1, 1, 1, 1, 1, 1, 1, 1, 0, 1, 1] [1] [8, 56, 75], tr [1, 1, 1, 1, 1] [1] [8, 56, 75]]),
  (58, [tr [1, 1] [0, 4] [4, 43]]),
  (61, [tr [1, 1, 1, 0, 1, 0, 0, 0, 1, 1] [4] [25], tr [1, 1, 1, 0, 1, 0, 0, 1] [0, 3, 4, 5] [25], tr [1, 1, 1, 0, 1, 0, 0, 1, 1] [0, 3, 4, 5] [25], tr [1, 1, 1, 1] [4] [25], tr [1, 1, 1, 1, 0, 1, 0, 0, 0, 1, 1] [4] [25], tr [1, 1, 1, 1, 0, 1, 0, 0, 1] [4, 6] [25], tr [1, 1, 1, 1, 0, 1, 0, 0, 1, 0, 0, 1, 0, 1] [2] [25], tr [1, 1, 1, 1, 0, 1, 0, 0, 1, 1] [4, 6] [25], tr [1, 1, 1, 1, 1] [4] [25]]),
  (62, [tr [1, 1, 0, 1, 0, 0, 0, 1, 1] [3] [24], tr [1, 1, 0, 1, 0, 0, 1] [0, 3, 4] [24], tr [1, 1, 0, 1, 0, 0, 1, 1] [0, 3, 4] [24], tr [1, 1, 1] [3] [24]]),
  (63, [tr [1, 1] [3, 4] [3, 4]]),
  (105, [tr [1, 1, 0, 1, 0, 0, 1, 0, 1] [1] [], tr [1, 1, 0, 1, 0, 0, 1, 1] [1, 10, 11, 12] [], tr [1, 1, 0, 1, 0, 0, 1, 1, 0, 0, 1, 0, 1, 0] [1] [], tr [1, 1, 0, 1, 0, 0, 1, 1, 0, 0, 1, 1] [1, 6, 10, 11, 12] [6], tr [1, 1, 0, 1, 0, 0, 1, 1, 1] [1, 10, 11, 12] [], tr [1, 1, 1] [1] []])]
noncomputable def V2 : Env := { P := Tryz.prog, G := globs2, hint := fun f t => ((alook hints2 f).bind fun l => alook l t).getD {}, trim := fun f p => (alook trims2 f).bind fun l => trGet l p }
theorem globs_sub : ∀ g cs, globs g = some cs → globs2 g = some cs := by
  intro g cs h
  have h0 : ∀ g, g = 0 ∨ g = 1 ∨ g = 2 → globs g = none := fun g hg => by rcases hg with rfl | rfl | rfl <;> rfl
  unfold globs2
  by_cases e0 : g = 0
  · rw [h0 g (.inl e0)] at h; cases h
  by_cases e1 : g = 1
  · rw [h0 g (.inr (.inl e1))] at h; cases h
  by_cases e2 : g = 2
  · rw [h0 g (.inr (.inr e2))] at h; cases h
  rw [beqF e0, beqF e1, beqF e2]; exact h
theorem Ct.more {P : Program} {G G' : Nat → Option (List AV)} (hs : ∀ g cs, G g = some cs → G' g = some cs) {f : FuncId} {l : List AV} {os : List AO} {r : AV × List AO} (h : Ct P G f l os r) : Ct P G' f l os r := by
  refine ⟨fun c0 vs hg ho h1 h2 h3 => (h.1 c0 vs ⟨hg.there, fun g cs e => hg.globs g cs (hs g cs e)⟩ ho h1 h2 h3).mono ?_, h.2⟩
  rintro e w' ⟨c', x, e1, e2, e3, e4, e5, e6, e7, e8⟩
  exact ⟨c', x, e1, e2, ⟨e3.there, fun g cs e => (hg.globs g cs e).ext e4.ext (by simp [AV.keys])⟩, ⟨e4.os, e4.output, e4.tape, e4.size, e4.block, e4.ext, e4.new⟩, e5, e6, e7, e8⟩
theorem Ct.v2 {f : FuncId} {l : List AV} {os : List AO} {r : AV × List AO} (h : Ct V.P V.G f l os r) : Ct V2.P V2.G f l os r := Ct.more globs_sub h
theorem mixed2 : V2.P.follows .mixedOrders = true := mixed
theorem funcs2 : FuncsOk V2.P := funcs
end Go.SH

namespace Go.Ab
open Go
section
variable {α τ : Type} [Inhabited τ]
open Classical in
theorem ent_ex {V : Env} {f : FuncId} {A : α → List AV} {O : α → List AO} {Pre : α → Prop} {φ : τ → AV × List AO} {Post : α → τ → Prop} (h : ∀ a, Pre a → ∃ x, Post a x ∧ Ct V.P V.G f (A a) (O a) (φ x)) :
    ∃ w : α → τ, (∀ a, Pre a → Post a (w a)) ∧ ∀ l os, (entC f A O Pre w φ).pre l os = true → Ct V.P V.G (entC f A O Pre w φ).f l os ((entC f A O Pre w φ).ans l os) := by
  refine ⟨fun a => if ha : Pre a then (h a ha).choose else default, fun a ha => ?_, entC_ok fun a ha => ?_⟩
  · simp only [ha, dif_pos]; exact (h a ha).choose_spec.1
  · simp only [ha, dif_pos]; exact (h a ha).choose_spec.2
theorem valA_post {A : α → List AV} {O : α → List AO} {Pre : α → Prop} {w : α → τ} {Post : α → τ → Prop} (hw : ∀ a, Pre a → Post a (w a)) (hi : ∀ a b x, A a = A b → O a = O b → Post a x → Post b x) {a : α} (h : Pre a) : Post a (valA A O Pre w (A a) (O a)) := by
  have hx : ∃ u, Pre u ∧ A u = A a ∧ O u = O a := ⟨a, h, rfl, rfl⟩
  unfold valA
  rw [dif_pos hx]
  exact hi _ _ _ hx.choose_spec.2.1 hx.choose_spec.2.2 (hw _ hx.choose_spec.1)
theorem valS_post {S : α → St} {Inv : α → Prop} {w : α → τ} {Post : α → τ → Prop} (hw : ∀ a, Inv a → Post a (w a)) (hi : ∀ a b x, S a = S b → Post a x → Post b x) {a : α} (h : Inv a) : Post a (valS S Inv w (S a)) := by
  have hx : ∃ u, Inv u ∧ S u = S a := ⟨a, h, rfl⟩
  unfold valS
  rw [dif_pos hx]
  exact hi _ _ _ hx.choose_spec.2 (hw _ hx.choose_spec.1)
open Classical in
theorem loop_ex {ι : Type} {Xf : ι → Cfg} {f : FuncId} {p : List Nat} {b : Code} (S : α → St) (Inv : α → Prop) (μ : α → Nat) (out : τ → (Ex → St → Res) → Res) (Post : α → τ → Prop) (hb : ∀ i, subC (bodyOf (Xf i).P f) p = .loop b) (n : Nat)
    (round : ∀ v, Inv v → (∃ o, Post v o ∧ ∀ (i : ι) (k : Ex → St → Res) (kn : St → Res), roundR (Xf i) f n p (S v) kn k = out o k) ∨
      ∃ v', Inv v' ∧ μ v' < μ v ∧ (∀ o, Post v' o → Post v o) ∧ ∀ (i : ι) (k : Ex → St → Res) (kn : St → Res), roundR (Xf i) f n p (S v) kn k = kn (S v')) :
    ∃ w : α → τ, (∀ v, Inv v → Post v (w v)) ∧ ∀ i, LoopOk (Xf i) f p (mkO (goodS S Inv) (valS S Inv w) out) := by
  let F : (v : α) → ((v' : α) → μ v' < μ v → τ) → τ := fun v rec =>
    if hi : Inv v then
      if h1 : ∃ o, Post v o ∧ ∀ (i : ι) (k : Ex → St → Res) (kn : St → Res), roundR (Xf i) f n p (S v) kn k = out o k then h1.choose
      else if h2 : ∃ v', Inv v' ∧ μ v' < μ v ∧ (∀ o, Post v' o → Post v o) ∧ ∀ (i : ι) (k : Ex → St → Res) (kn : St → Res), roundR (Xf i) f n p (S v) kn k = kn (S v') then rec h2.choose h2.choose_spec.2.1
      else default
    else default
  let w : α → τ := WellFounded.fix (measure μ).wf F
  have hw : ∀ v, w v = F v fun v' _ => w v' := fun v => WellFounded.fix_eq (measure μ).wf F v
  have hpost : ∀ (m : Nat) (v : α), μ v ≤ m → Inv v → Post v (w v) := by
    intro m
    induction m with
    | zero =>
      intro v hm hi
      rw [hw]
      simp only [F]
      rw [dif_pos hi]
      by_cases h1 : ∃ o, Post v o ∧ ∀ (i : ι) (k : Ex → St → Res) (kn : St → Res), roundR (Xf i) f n p (S v) kn k = out o k
      · rw [dif_pos h1]; exact h1.choose_spec.1
      · obtain ⟨v', _, h, _⟩ := (round v hi).resolve_left h1
        omega
    | succ m ih =>
      intro v hm hi
      rw [hw]
      simp only [F]
      rw [dif_pos hi]
      by_cases h1 : ∃ o, Post v o ∧ ∀ (i : ι) (k : Ex → St → Res) (kn : St → Res), roundR (Xf i) f n p (S v) kn k = out o k
      · rw [dif_pos h1]; exact h1.choose_spec.1
      · have h2 := (round v hi).resolve_left h1
        rw [dif_neg h1, dif_pos h2]
        have := h2.choose_spec
        exact this.2.2.1 _ (ih _ (by omega) this.1)
  refine ⟨w, fun v hi => hpost _ v (Nat.le_refl _) hi, fun i => ?_⟩
  refine loopOk_of S Inv μ w out (hb i) n fun v hi k kn hk => ?_
  rw [hw]
  simp only [F]
  rw [dif_pos hi]
  by_cases h1 : ∃ o, Post v o ∧ ∀ (i : ι) (k : Ex → St → Res) (kn : St → Res), roundR (Xf i) f n p (S v) kn k = out o k
  · rw [dif_pos h1]; exact h1.choose_spec.2 i k kn
  · have h2 := (round v hi).resolve_left h1
    rw [dif_neg h1, dif_pos h2]
    have := h2.choose_spec
    rw [this.2.2.2 i k kn]
    exact hk _ this.1 this.2.1
end
section
variable {τ : Type}
noncomputable def entK (f : FuncId) (A : List AV) (O : List AO) (x : τ) (φ : τ → AV × List AO) : Ent := mkE f (goodA (fun _ : Unit => A) (fun _ => O) (fun _ => True)) (fun _ _ => x) φ
open Classical in
theorem entK_ok {V : Env} {f : FuncId} {A : List AV} {O : List AO} {x : τ} {φ : τ → AV × List AO} (h : Ct V.P V.G f A O (φ x)) : ∀ l os, (entK f A O x φ).pre l os = true → Ct V.P V.G (entK f A O x φ).f l os ((entK f A O x φ).ans l os) := by
  intro l os hp
  obtain ⟨_, _, h1, h2⟩ : ∃ v : Unit, True ∧ A = l ∧ O = os := of_decide_eq_true hp
  subst h1 h2
  exact h
theorem gK_eq (A : List AV) (O : List AO) : goodA (fun _ : Unit => A) (fun _ => O) (fun _ => True) A O = true := goodA_eq (A := fun _ : Unit => A) (O := fun _ => O) (v := ()) trivial
end
end Go.Ab

namespace Go.SH
open Go Go.Ab Go.Proofs
set_option linter.unusedVariables false
set_option linter.unusedSimpArgs false
structure CODES where
  n : Nat
  g : Nat → Int
  at' : Nat
def CODES.c (C : CODES) : List AV := [.sl .no 1 C.n fun j => [.int .u8 (C.g j)], .int .i64 C.at']
def codO (C : CODES) : AO := .cells C.c
def φX (x : Int × CODES) : AV × List AO := (.int .i64 x.1, [codO x.2])
def φT (x : List UInt8 × CODES) : AV × List AO := (.str x.1, [codO x.2])
def φV (x : VAL × CODES) : AV × List AO := (.agg x.1.c, [codO x.2])
set_option maxRecDepth 100000 in
theorem next_m (C : CODES) (m : Int)  : runF (V2.run [] 3 [] [] [] 19) 9 19 [.ref keyBase 0, .int .i64 m] [codO C] =
  cond (!decide ((↑(CODES.at' C) : Int) < (↑(CODES.n C) : Int))) (some ((.int .i64 0, [codO C]))) (cond (within (IntKind.wrap IntKind.i64 (IntKind.wrap IntKind.i64 ((↑(CODES.at' C) : Int) + 1) - 1)) (CODES.n C)) (cond (m != 0) (some ((.int .i64 (Int.tmod (IntKind.wrap IntKind.i64 (CODES.g C (Int.toNat (IntKind.wrap IntKind.i64 (IntKind.wrap IntKind.i64 ((↑(CODES.at' C) : Int) + 1) - 1))))) m), [.cells [.sl .no 1 (CODES.n C) fun j => [.int .u8 (CODES.g C j)], .int .i64 (IntKind.wrap IntKind.i64 ((↑(CODES.at' C) : Int) + 1))] ]))) (none)) (none)) := by kernel_rfl
set_option maxRecDepth 100000 in
theorem text_0 (ge : List AV → List AO → Bool) (C D : CODES)  : runF (V2.run [mkE 19 ge (fun _ _ => (0, D)) φX] 3 [] [] [] 59) 9 59 [.ref keyBase 0] [codO C] =
  cond (ge [.ref 1000000 0, .int .i64 11] [codO C]) (some ((.str [115, 101], [codO D]))) (none) := by kernel_rfl
set_option maxRecDepth 100000 in
theorem text_1 (ge : List AV → List AO → Bool) (C D : CODES)  : runF (V2.run [mkE 19 ge (fun _ _ => (1, D)) φX] 3 [] [] [] 59) 9 59 [.ref keyBase 0] [codO C] =
  cond (ge [.ref 1000000 0, .int .i64 11] [codO C]) (some ((.str [100, 101], [codO D]))) (none) := by kernel_rfl
set_option maxRecDepth 100000 in
theorem text_2 (ge : List AV → List AO → Bool) (C D : CODES)  : runF (V2.run [mkE 19 ge (fun _ _ => (2, D)) φX] 3 [] [] [] 59) 9 59 [.ref keyBase 0] [codO C] =
  cond (ge [.ref 1000000 0, .int .i64 11] [codO C]) (some ((.str [117, 115], [codO D]))) (none) := by kernel_rfl
set_option maxRecDepth 100000 in
theorem text_3 (ge : List AV → List AO → Bool) (C D : CODES)  : runF (V2.run [mkE 19 ge (fun _ _ => (3, D)) φX] 3 [] [] [] 59) 9 59 [.ref keyBase 0] [codO C] =
  cond (ge [.ref 1000000 0, .int .i64 11] [codO C]) (some ((.str [112, 114, 111], [codO D]))) (none) := by kernel_rfl
set_option maxRecDepth 100000 in
theorem text_4 (ge : List AV → List AO → Bool) (C D : CODES)  : runF (V2.run [mkE 19 ge (fun _ _ => (4, D)) φX] 3 [] [] [] 59) 9 59 [.ref keyBase 0] [codO C] =
  cond (ge [.ref 1000000 0, .int .i64 11] [codO C]) (some ((.str [102, 114, 101, 101], [codO D]))) (none) := by kernel_rfl
set_option maxRecDepth 100000 in
theorem text_5 (ge : List AV → List AO → Bool) (C D : CODES)  : runF (V2.run [mkE 19 ge (fun _ _ => (5, D)) φX] 3 [] [] [] 59) 9 59 [.ref keyBase 0] [codO C] =
  cond (ge [.ref 1000000 0, .int .i64 11] [codO C]) (some ((.str [], [codO D]))) (none) := by kernel_rfl
set_option maxRecDepth 100000 in
theorem text_6 (ge : List AV → List AO → Bool) (C D : CODES)  : runF (V2.run [mkE 19 ge (fun _ _ => (6, D)) φX] 3 [] [] [] 59) 9 59 [.ref keyBase 0] [codO C] =
  cond (ge [.ref 1000000 0, .int .i64 11] [codO C]) (some ((.str [97, 34, 98], [codO D]))) (none) := by kernel_rfl
set_option maxRecDepth 100000 in
theorem text_7 (ge : List AV → List AO → Bool) (C D : CODES)  : runF (V2.run [mkE 19 ge (fun _ _ => (7, D)) φX] 3 [] [] [] 59) 9 59 [.ref keyBase 0] [codO C] =
  cond (ge [.ref 1000000 0, .int .i64 11] [codO C]) (some ((.str [99, 92], [codO D]))) (none) := by kernel_rfl
set_option maxRecDepth 100000 in
theorem text_8 (ge : List AV → List AO → Bool) (C D : CODES)  : runF (V2.run [mkE 19 ge (fun _ _ => (8, D)) φX] 3 [] [] [] 59) 9 59 [.ref keyBase 0] [codO C] =
  cond (ge [.ref 1000000 0, .int .i64 11] [codO C]) (some ((.str [195, 169], [codO D]))) (none) := by kernel_rfl
set_option maxRecDepth 100000 in
theorem text_9 (ge : List AV → List AO → Bool) (C D : CODES)  : runF (V2.run [mkE 19 ge (fun _ _ => (9, D)) φX] 3 [] [] [] 59) 9 59 [.ref keyBase 0] [codO C] =
  cond (ge [.ref 1000000 0, .int .i64 11] [codO C]) (some ((.str [112, 114, 111, 115, 101], [codO D]))) (none) := by kernel_rfl
set_option maxRecDepth 100000 in
theorem text_10 (ge : List AV → List AO → Bool) (C D : CODES)  : runF (V2.run [mkE 19 ge (fun _ _ => (10, D)) φX] 3 [] [] [] 59) 9 59 [.ref keyBase 0] [codO C] =
  cond (ge [.ref 1000000 0, .int .i64 11] [codO C]) (some ((.str [120, 32, 121], [codO D]))) (none) := by kernel_rfl
set_option maxRecDepth 100000 in
theorem value_1 (ge : List AV → List AO → Bool) (ve : List AV → List AO → Int × CODES) (gt : List AV → List AO → Bool) (vt : List AV → List AO → List UInt8 × CODES) (C : CODES) {t1 : Int × CODES} (h_t1 : ve [.ref 1000000 0, .int .i64 2] [codO C] = t1) : runF (V2.run [mkE 19 ge ve φX, mkE 59 gt vt φT] 3 [] [] [] 58) 9 58 [.ref keyBase 0, .int .i64 1] [codO C] =
  cond (ge [.ref 1000000 0, .int .i64 2] [codO C]) (some ((.agg [.int .i64 1, .int .i64 (Prod.fst t1), .str [], .sl .fit 0 0 fun x => [] ], [codO (Prod.snd t1)]))) (none) := by subst h_t1; kernel_rfl
set_option maxRecDepth 100000 in
theorem value_3 (ge : List AV → List AO → Bool) (ve : List AV → List AO → Int × CODES) (gt : List AV → List AO → Bool) (vt : List AV → List AO → List UInt8 × CODES) (C : CODES) {t1 : List UInt8 × CODES} (h_t1 : vt [.ref 1000000 0] [codO C] = t1) : runF (V2.run [mkE 19 ge ve φX, mkE 59 gt vt φT] 3 [] [] [] 58) 9 58 [.ref keyBase 0, .int .i64 3] [codO C] =
  cond (gt [.ref 1000000 0] [codO C]) (some ((.agg [.int .i64 3, .int .i64 0, .str (Prod.fst t1), .sl .fit 0 0 fun x => [] ], [codO (Prod.snd t1)]))) (none) := by subst h_t1; kernel_rfl
set_option maxRecDepth 100000 in
theorem value_2_0 (ge : List AV → List AO → Bool) (gt : List AV → List AO → Bool) (vt : List AV → List AO → List UInt8 × CODES) (C D : CODES)  : runF (V2.run [mkE 19 ge (fun _ _ => (0, D)) φX, mkE 59 gt vt φT] 3 [] [] [] 58) 9 58 [.ref keyBase 0, .int .i64 2] [codO C] =
  cond (ge [.ref 1000000 0, .int .i64 (↑9 : Int)] [codO C]) (some ((.agg [.int .i64 2, .int .i64 0, .str [], .sl .fit 0 0 fun x => [] ], [codO D]))) (none) := by kernel_rfl
set_option maxRecDepth 100000 in
theorem value_2_1 (ge : List AV → List AO → Bool) (gt : List AV → List AO → Bool) (vt : List AV → List AO → List UInt8 × CODES) (C D : CODES)  : runF (V2.run [mkE 19 ge (fun _ _ => (1, D)) φX, mkE 59 gt vt φT] 3 [] [] [] 58) 9 58 [.ref keyBase 0, .int .i64 2] [codO C] =
  cond (ge [.ref 1000000 0, .int .i64 (↑9 : Int)] [codO C]) (some ((.agg [.int .i64 2, .int .i64 1, .str [], .sl .fit 0 0 fun x => [] ], [codO D]))) (none) := by kernel_rfl
set_option maxRecDepth 100000 in
theorem value_2_2 (ge : List AV → List AO → Bool) (gt : List AV → List AO → Bool) (vt : List AV → List AO → List UInt8 × CODES) (C D : CODES)  : runF (V2.run [mkE 19 ge (fun _ _ => (2, D)) φX, mkE 59 gt vt φT] 3 [] [] [] 58) 9 58 [.ref keyBase 0, .int .i64 2] [codO C] =
  cond (ge [.ref 1000000 0, .int .i64 (↑9 : Int)] [codO C]) (some ((.agg [.int .i64 2, .int .i64 17, .str [], .sl .fit 0 0 fun x => [] ], [codO D]))) (none) := by kernel_rfl
set_option maxRecDepth 100000 in
theorem value_2_3 (ge : List AV → List AO → Bool) (gt : List AV → List AO → Bool) (vt : List AV → List AO → List UInt8 × CODES) (C D : CODES)  : runF (V2.run [mkE 19 ge (fun _ _ => (3, D)) φX, mkE 59 gt vt φT] 3 [] [] [] 58) 9 58 [.ref keyBase 0, .int .i64 2] [codO C] =
  cond (ge [.ref 1000000 0, .int .i64 (↑9 : Int)] [codO C]) (some ((.agg [.int .i64 2, .int .i64 18, .str [], .sl .fit 0 0 fun x => [] ], [codO D]))) (none) := by kernel_rfl
set_option maxRecDepth 100000 in
theorem value_2_4 (ge : List AV → List AO → Bool) (gt : List AV → List AO → Bool) (vt : List AV → List AO → List UInt8 × CODES) (C D : CODES)  : runF (V2.run [mkE 19 ge (fun _ _ => (4, D)) φX, mkE 59 gt vt φT] 3 [] [] [] 58) 9 58 [.ref keyBase 0, .int .i64 2] [codO C] =
  cond (ge [.ref 1000000 0, .int .i64 (↑9 : Int)] [codO C]) (some ((.agg [.int .i64 2, .int .i64 19, .str [], .sl .fit 0 0 fun x => [] ], [codO D]))) (none) := by kernel_rfl
set_option maxRecDepth 100000 in
theorem value_2_5 (ge : List AV → List AO → Bool) (gt : List AV → List AO → Bool) (vt : List AV → List AO → List UInt8 × CODES) (C D : CODES)  : runF (V2.run [mkE 19 ge (fun _ _ => (5, D)) φX, mkE 59 gt vt φT] 3 [] [] [] 58) 9 58 [.ref keyBase 0, .int .i64 2] [codO C] =
  cond (ge [.ref 1000000 0, .int .i64 (↑9 : Int)] [codO C]) (some ((.agg [.int .i64 2, .int .i64 (-5), .str [], .sl .fit 0 0 fun x => [] ], [codO D]))) (none) := by kernel_rfl
set_option maxRecDepth 100000 in
theorem value_2_6 (ge : List AV → List AO → Bool) (gt : List AV → List AO → Bool) (vt : List AV → List AO → List UInt8 × CODES) (C D : CODES)  : runF (V2.run [mkE 19 ge (fun _ _ => (6, D)) φX, mkE 59 gt vt φT] 3 [] [] [] 58) 9 58 [.ref keyBase 0, .int .i64 2] [codO C] =
  cond (ge [.ref 1000000 0, .int .i64 (↑9 : Int)] [codO C]) (some ((.agg [.int .i64 2, .int .i64 64, .str [], .sl .fit 0 0 fun x => [] ], [codO D]))) (none) := by kernel_rfl
set_option maxRecDepth 100000 in
theorem value_2_7 (ge : List AV → List AO → Bool) (gt : List AV → List AO → Bool) (vt : List AV → List AO → List UInt8 × CODES) (C D : CODES)  : runF (V2.run [mkE 19 ge (fun _ _ => (7, D)) φX, mkE 59 gt vt φT] 3 [] [] [] 58) 9 58 [.ref keyBase 0, .int .i64 2] [codO C] =
  cond (ge [.ref 1000000 0, .int .i64 (↑9 : Int)] [codO C]) (some ((.agg [.int .i64 2, .int .i64 1099511627776, .str [], .sl .fit 0 0 fun x => [] ], [codO D]))) (none) := by kernel_rfl
set_option maxRecDepth 100000 in
theorem value_2_8 (ge : List AV → List AO → Bool) (gt : List AV → List AO → Bool) (vt : List AV → List AO → List UInt8 × CODES) (C D : CODES)  : runF (V2.run [mkE 19 ge (fun _ _ => (8, D)) φX, mkE 59 gt vt φT] 3 [] [] [] 58) 9 58 [.ref keyBase 0, .int .i64 2] [codO C] =
  cond (ge [.ref 1000000 0, .int .i64 (↑9 : Int)] [codO C]) (some ((.agg [.int .i64 2, .int .i64 (-1099511627776), .str [], .sl .fit 0 0 fun x => [] ], [codO D]))) (none) := by kernel_rfl
set_option maxRecDepth 100000 in
theorem value_4_0 (ge : List AV → List AO → Bool) (gt : List AV → List AO → Bool) (vt : List AV → List AO → List UInt8 × CODES) (C D : CODES)  : runF (V2.run [mkE 19 ge (fun _ _ => (0, D)) φX, mkE 59 gt vt φT] 3 [] [] [] 58) 9 58 [.ref keyBase 0, .int .i64 4] [codO C] =
  cond (ge [.ref 1000000 0, .int .i64 6] [codO C]) (some ((.agg [.int .i64 4, .int .i64 0, .str [49, 46, 48, 46, 48], .sl .fit 0 0 fun x => [] ], [codO D]))) (none) := by kernel_rfl
set_option maxRecDepth 100000 in
theorem value_4_1 (ge : List AV → List AO → Bool) (gt : List AV → List AO → Bool) (vt : List AV → List AO → List UInt8 × CODES) (C D : CODES)  : runF (V2.run [mkE 19 ge (fun _ _ => (1, D)) φX, mkE 59 gt vt φT] 3 [] [] [] 58) 9 58 [.ref keyBase 0, .int .i64 4] [codO C] =
  cond (ge [.ref 1000000 0, .int .i64 6] [codO C]) (some ((.agg [.int .i64 4, .int .i64 0, .str [49, 46, 50, 46, 51], .sl .fit 0 0 fun x => [] ], [codO D]))) (none) := by kernel_rfl
set_option maxRecDepth 100000 in
theorem value_4_2 (ge : List AV → List AO → Bool) (gt : List AV → List AO → Bool) (vt : List AV → List AO → List UInt8 × CODES) (C D : CODES)  : runF (V2.run [mkE 19 ge (fun _ _ => (2, D)) φX, mkE 59 gt vt φT] 3 [] [] [] 58) 9 58 [.ref keyBase 0, .int .i64 4] [codO C] =
  cond (ge [.ref 1000000 0, .int .i64 6] [codO C]) (some ((.agg [.int .i64 4, .int .i64 0, .str [49, 46, 49, 48, 46, 48], .sl .fit 0 0 fun x => [] ], [codO D]))) (none) := by kernel_rfl
set_option maxRecDepth 100000 in
theorem value_4_3 (ge : List AV → List AO → Bool) (gt : List AV → List AO → Bool) (vt : List AV → List AO → List UInt8 × CODES) (C D : CODES)  : runF (V2.run [mkE 19 ge (fun _ _ => (3, D)) φX, mkE 59 gt vt φT] 3 [] [] [] 58) 9 58 [.ref keyBase 0, .int .i64 4] [codO C] =
  cond (ge [.ref 1000000 0, .int .i64 6] [codO C]) (some ((.agg [.int .i64 4, .int .i64 0, .str [50, 46, 48, 46, 49], .sl .fit 0 0 fun x => [] ], [codO D]))) (none) := by kernel_rfl
set_option maxRecDepth 100000 in
theorem value_4_4 (ge : List AV → List AO → Bool) (gt : List AV → List AO → Bool) (vt : List AV → List AO → List UInt8 × CODES) (C D : CODES)  : runF (V2.run [mkE 19 ge (fun _ _ => (4, D)) φX, mkE 59 gt vt φT] 3 [] [] [] 58) 9 58 [.ref keyBase 0, .int .i64 4] [codO C] =
  cond (ge [.ref 1000000 0, .int .i64 6] [codO C]) (some ((.agg [.int .i64 4, .int .i64 0, .str [48, 46, 48, 46, 48], .sl .fit 0 0 fun x => [] ], [codO D]))) (none) := by kernel_rfl
set_option maxRecDepth 100000 in
theorem value_4_5 (ge : List AV → List AO → Bool) (gt : List AV → List AO → Bool) (vt : List AV → List AO → List UInt8 × CODES) (C D : CODES)  : runF (V2.run [mkE 19 ge (fun _ _ => (5, D)) φX, mkE 59 gt vt φT] 3 [] [] [] 58) 9 58 [.ref keyBase 0, .int .i64 4] [codO C] =
  cond (ge [.ref 1000000 0, .int .i64 6] [codO C]) (some ((.agg [.int .i64 4, .int .i64 0, .str [57, 57, 57, 57, 57, 57, 46, 48, 46, 57, 57, 57, 57, 57, 57], .sl .fit 0 0 fun x => [] ], [codO D]))) (none) := by kernel_rfl
set_option maxRecDepth 100000 in
theorem value_5_0 (ge : List AV → List AO → Bool) (gt : List AV → List AO → Bool) (vt : List AV → List AO → List UInt8 × CODES) (C D : CODES)  : runF (V2.run [mkE 19 ge (fun _ _ => (0, D)) φX, mkE 59 gt vt φT] 3 [] [] [] 58) 9 58 [.ref keyBase 0, .int .i64 5] [codO C] =
  cond (ge [.ref 1000000 0, .int .i64 5] [codO C]) (some ((.agg [.int .i64 5, .int .i64 0, .str [], .sl .no 1 0 (appGet 0 (List.length (tcells.tstrs [])) (fun x => []) fun j => [.str (List.getD (tcells.tstrs []) j [])])], [codO D]))) (none) := by kernel_rfl
set_option maxRecDepth 100000 in
theorem value_5_1 (ge : List AV → List AO → Bool) (gt : List AV → List AO → Bool) (vt : List AV → List AO → List UInt8 × CODES) (C D : CODES)  : runF (V2.run [mkE 19 ge (fun _ _ => (1, D)) φX, mkE 59 gt vt φT] 3 [] [] [] 58) 9 58 [.ref keyBase 0, .int .i64 5] [codO C] =
  cond (ge [.ref 1000000 0, .int .i64 5] [codO C]) (some ((.agg [.int .i64 5, .int .i64 0, .str [], .sl .no 1 1 (appGet 0 (List.length (tcells.tstrs [DataW.lit (Lit.string [112, 114, 111])])) (fun x => []) fun j => [.str (List.getD (tcells.tstrs [DataW.lit (Lit.string [112, 114, 111])]) j [])])], [codO D]))) (none) := by kernel_rfl
set_option maxRecDepth 100000 in
theorem value_5_2 (ge : List AV → List AO → Bool) (gt : List AV → List AO → Bool) (vt : List AV → List AO → List UInt8 × CODES) (C D : CODES)  : runF (V2.run [mkE 19 ge (fun _ _ => (2, D)) φX, mkE 59 gt vt φT] 3 [] [] [] 58) 9 58 [.ref keyBase 0, .int .i64 5] [codO C] =
  cond (ge [.ref 1000000 0, .int .i64 5] [codO C]) (some ((.agg [.int .i64 5, .int .i64 0, .str [], .sl .no 1 2 (appGet 0 (List.length (tcells.tstrs [DataW.lit (Lit.string [100, 101]), DataW.lit (Lit.string [115, 101])])) (fun x => []) fun j => [.str (List.getD (tcells.tstrs [DataW.lit (Lit.string [100, 101]), DataW.lit (Lit.string [115, 101])]) j [])])], [codO D]))) (none) := by kernel_rfl
set_option maxRecDepth 100000 in
theorem value_5_3 (ge : List AV → List AO → Bool) (gt : List AV → List AO → Bool) (vt : List AV → List AO → List UInt8 × CODES) (C D : CODES)  : runF (V2.run [mkE 19 ge (fun _ _ => (3, D)) φX, mkE 59 gt vt φT] 3 [] [] [] 58) 9 58 [.ref keyBase 0, .int .i64 5] [codO C] =
  cond (ge [.ref 1000000 0, .int .i64 5] [codO C]) (some ((.agg [.int .i64 5, .int .i64 0, .str [], .sl .no 1 3 (appGet 0 (List.length (tcells.tstrs [DataW.lit (Lit.string []), DataW.lit (Lit.string [102, 114, 101, 101]), DataW.lit (Lit.string [117, 115])])) (fun x => []) fun j => [.str (List.getD (tcells.tstrs [DataW.lit (Lit.string []), DataW.lit (Lit.string [102, 114, 101, 101]), DataW.lit (Lit.string [117, 115])]) j [])])], [codO D]))) (none) := by kernel_rfl
set_option maxRecDepth 100000 in
theorem value_5_4 (ge : List AV → List AO → Bool) (gt : List AV → List AO → Bool) (vt : List AV → List AO → List UInt8 × CODES) (C D : CODES)  : runF (V2.run [mkE 19 ge (fun _ _ => (4, D)) φX, mkE 59 gt vt φT] 3 [] [] [] 58) 9 58 [.ref keyBase 0, .int .i64 5] [codO C] =
  cond (ge [.ref 1000000 0, .int .i64 5] [codO C]) (some ((.agg [.int .i64 5, .int .i64 0, .str [], .sl .no 1 1 (appGet 0 (List.length (tcells.tstrs [DataW.lit (Lit.string [120, 32, 121])])) (fun x => []) fun j => [.str (List.getD (tcells.tstrs [DataW.lit (Lit.string [120, 32, 121])]) j [])])], [codO D]))) (none) := by kernel_rfl
end Go.SH

namespace Go.SH
open Go Go.Ab Go.Proofs
set_option linter.unusedVariables false
set_option linter.unusedSimpArgs false
def CODES.Ok (C : CODES) : Prop := C.at' ≤ C.n ∧ C.n ≤ 4611686018427387904 ∧ ∀ j, j < C.n → 0 ≤ C.g j ∧ C.g j < 256
instance : Inhabited CODES := ⟨⟨0, fun _ => 0, 0⟩⟩
theorem CODES.c_inj {a b : CODES} (h : a.c = b.c) : a = b := by
  obtain ⟨n, g, p⟩ := a
  obtain ⟨n', g', p'⟩ := b
  simp only [CODES.c, List.cons.injEq, AV.sl.injEq, AV.int.injEq, true_and, and_true] at h
  obtain ⟨⟨rfl, h2⟩, h3⟩ := h
  have hg : g = g' := funext fun j => by
    have := congrFun h2 j
    simpa using this
  have hp : p = p' := by omega
  rw [hg, hp]
def nextR (C : CODES) (m : Int) : Int × CODES := bif decide (C.at' < C.n) then (Int.tmod (C.g C.at') m, { C with at' := C.at' + 1 }) else (0, C)
theorem nextR_ok {C : CODES} (h : C.Ok) {m : Int} (hm : 1 ≤ m) : 0 ≤ (nextR C m).1 ∧ (nextR C m).1 < m ∧ (nextR C m).2.Ok := by
  unfold nextR
  by_cases hc : C.at' < C.n
  · rw [decide_eq_true hc]
    have hg := h.2.2 _ hc
    refine ⟨Int.tmod_nonneg _ hg.1, Int.tmod_lt_of_pos _ (by omega), ?_, h.2.1, h.2.2⟩
    show C.at' + 1 ≤ C.n; omega
  · rw [decide_eq_false hc]
    exact ⟨Int.le_refl _, by show (0 : Int) < m; omega, h⟩
theorem next_ok (C : CODES) (h : C.Ok) (m : Int) (hm : 1 ≤ m) : Ct V2.P V2.G 19 [.ref keyBase 0, .int .i64 m] [codO C] (φX (nextR C m)) := by
  have h2 := h.2.1
  refine ct_loops (n := 9) (d := 3) (T := []) (L := []) mixed2 funcs2 tabOk_nil loopsOk_nil ((next_m C m).trans ?_)
  by_cases hc : C.at' < C.n
  · have hg := h.2.2 _ hc
    have w1 : IntKind.wrap .i64 ((C.at' : Int) + 1) = ((C.at' + 1 : Nat) : Int) := by rw [wrap_i64 (by omega) (by omega)]; rfl
    have w2 : IntKind.wrap .i64 (((C.at' + 1 : Nat) : Int) - 1) = (C.at' : Int) := by rw [wrap_i64 (by omega) (by omega)]; omega
    have w3 : IntKind.wrap .i64 (C.g C.at') = C.g C.at' := wrap_i64 (by omega) (by omega)
    rw [lt_true hc, w1, w2, within_lt hc, Int.toNat_natCast, w3, show (m != 0) = true by simp; omega]
    unfold nextR
    rw [decide_eq_true hc]; rfl
  · rw [lt_false hc]
    unfold nextR
    rw [decide_eq_false hc]; rfl
def nA (x : CODES × Int) : List AV := [.ref keyBase 0, .int .i64 x.2]
def nO (x : CODES × Int) : List AO := [codO x.1]
def nP (x : CODES × Int) : Prop := x.1.Ok ∧ 1 ≤ x.2
def nW (x : CODES × Int) : Int × CODES := nextR x.1 x.2
theorem codO_inj {a b : CODES} (h : codO a = codO b) : a = b := by
  unfold codO at h
  simp only [AO.cells.injEq] at h
  exact CODES.c_inj h
theorem nInj (a b : CODES × Int) (h : nA a = nA b) (h' : nO a = nO b) : nW a = nW b := by
  obtain ⟨C, m⟩ := a
  obtain ⟨C', m'⟩ := b
  simp only [nA, nO, List.cons.injEq, AV.int.injEq, true_and, and_true] at h h'
  have h2 := codO_inj h'
  subst h2 h; rfl
noncomputable abbrev gN : List AV → List AO → Bool := goodA nA nO nP
noncomputable abbrev vN : List AV → List AO → Int × CODES := valA nA nO nP nW
theorem gN_eq {C : CODES} (h : C.Ok) {m : Int} (hm : 1 ≤ m) : gN [.ref 1000000 0, .int .i64 m] [codO C] = true := goodA_eq (A := nA) (O := nO) (v := (C, m)) ⟨h, hm⟩
theorem vN_eq {C : CODES} (h : C.Ok) {m : Int} (hm : 1 ≤ m) : vN [.ref 1000000 0, .int .i64 m] [codO C] = nextR C m := valA_eq (A := nA) (O := nO) (v := (C, m)) (fun a b _ _ h1 h2 => nInj a b h1 h2) ⟨h, hm⟩
noncomputable abbrev entN : Ent := entC 19 nA nO nP nW φX
theorem entN_ok : ∀ l os, entN.pre l os = true → Ct V2.P V2.G entN.f l os (entN.ans l os) := entC_ok fun a ha => next_ok a.1 ha.1 a.2 ha.2
def cA (_ : CODES) : List AV := [.ref keyBase 0]
def cO (C : CODES) : List AO := [codO C]
def textsL : List (List UInt8) := [[115, 101], [100, 101], [117, 115], [112, 114, 111], [102, 114, 101, 101], [], [97, 34, 98], [99, 92], [195, 169], [112, 114, 111, 115, 101], [120, 32, 121]]
def numsL : List Int := [0, 1, 17, 18, 19, (-5), 64, 1099511627776, (-1099511627776)]
def versL : List (List UInt8) := [[49, 46, 48, 46, 48], [49, 46, 50, 46, 51], [49, 46, 49, 48, 46, 48], [50, 46, 48, 46, 49], [48, 46, 48, 46, 48], [57, 57, 57, 57, 57, 57, 46, 48, 46, 57, 57, 57, 57, 57, 57]]
def listsL : List (List (List UInt8)) := [[], [[112, 114, 111]], [[100, 101], [115, 101]], [[], [102, 114, 101, 101], [117, 115]], [[120, 32, 121]]]
theorem text_ex (C : CODES) (h : C.Ok) : ∃ x : List UInt8 × CODES, (x.1 ∈ textsL ∧ x.2.Ok) ∧ Ct V2.P V2.G 59 (cA C) (cO C) (φT x) := by
  obtain ⟨h0, h1, h2⟩ := nextR_ok h (m := 11) (by omega)
  have hn := next_ok C h 11 (by omega)
  revert h0 h1 h2 hn
  generalize nextR C 11 = y
  obtain ⟨r, D⟩ := y
  intro h0 h1 h2 hn
  have hr : r = 0 ∨ r = 1 ∨ r = 2 ∨ r = 3 ∨ r = 4 ∨ r = 5 ∨ r = 6 ∨ r = 7 ∨ r = 8 ∨ r = 9 ∨ r = 10 := by have h0 : 0 ≤ r := h0; have h1 : r < 11 := h1; omega
  have hT := entK_ok (φ := φX) hn
  rcases hr with rfl | rfl | rfl | rfl | rfl | rfl | rfl | rfl | rfl | rfl | rfl
  · exact ⟨([115, 101], D), ⟨(show ([115, 101] : List UInt8) ∈ textsL by decide), h2⟩, ct_loops (n := 9) (d := 3) (L := []) (T := [entK 19 [.ref keyBase 0, .int .i64 11] [codO C] (0, D) φX]) mixed2 funcs2 (tabOk_cons hT tabOk_nil) loopsOk_nil ((text_0 _ C D).trans (by rw [show goodA (fun _ : Unit => [.ref keyBase 0, .int .i64 11]) (fun _ => [codO C]) (fun _ => True) [.ref 1000000 0, .int .i64 11] [codO C] = true from gK_eq _ _]; rfl))⟩
  · exact ⟨([100, 101], D), ⟨(show ([100, 101] : List UInt8) ∈ textsL by decide), h2⟩, ct_loops (n := 9) (d := 3) (L := []) (T := [entK 19 [.ref keyBase 0, .int .i64 11] [codO C] (1, D) φX]) mixed2 funcs2 (tabOk_cons hT tabOk_nil) loopsOk_nil ((text_1 _ C D).trans (by rw [show goodA (fun _ : Unit => [.ref keyBase 0, .int .i64 11]) (fun _ => [codO C]) (fun _ => True) [.ref 1000000 0, .int .i64 11] [codO C] = true from gK_eq _ _]; rfl))⟩
  · exact ⟨([117, 115], D), ⟨(show ([117, 115] : List UInt8) ∈ textsL by decide), h2⟩, ct_loops (n := 9) (d := 3) (L := []) (T := [entK 19 [.ref keyBase 0, .int .i64 11] [codO C] (2, D) φX]) mixed2 funcs2 (tabOk_cons hT tabOk_nil) loopsOk_nil ((text_2 _ C D).trans (by rw [show goodA (fun _ : Unit => [.ref keyBase 0, .int .i64 11]) (fun _ => [codO C]) (fun _ => True) [.ref 1000000 0, .int .i64 11] [codO C] = true from gK_eq _ _]; rfl))⟩
  · exact ⟨([112, 114, 111], D), ⟨(show ([112, 114, 111] : List UInt8) ∈ textsL by decide), h2⟩, ct_loops (n := 9) (d := 3) (L := []) (T := [entK 19 [.ref keyBase 0, .int .i64 11] [codO C] (3, D) φX]) mixed2 funcs2 (tabOk_cons hT tabOk_nil) loopsOk_nil ((text_3 _ C D).trans (by rw [show goodA (fun _ : Unit => [.ref keyBase 0, .int .i64 11]) (fun _ => [codO C]) (fun _ => True) [.ref 1000000 0, .int .i64 11] [codO C] = true from gK_eq _ _]; rfl))⟩
  · exact ⟨([102, 114, 101, 101], D), ⟨(show ([102, 114, 101, 101] : List UInt8) ∈ textsL by decide), h2⟩, ct_loops (n := 9) (d := 3) (L := []) (T := [entK 19 [.ref keyBase 0, .int .i64 11] [codO C] (4, D) φX]) mixed2 funcs2 (tabOk_cons hT tabOk_nil) loopsOk_nil ((text_4 _ C D).trans (by rw [show goodA (fun _ : Unit => [.ref keyBase 0, .int .i64 11]) (fun _ => [codO C]) (fun _ => True) [.ref 1000000 0, .int .i64 11] [codO C] = true from gK_eq _ _]; rfl))⟩
  · exact ⟨([], D), ⟨(show ([] : List UInt8) ∈ textsL by decide), h2⟩, ct_loops (n := 9) (d := 3) (L := []) (T := [entK 19 [.ref keyBase 0, .int .i64 11] [codO C] (5, D) φX]) mixed2 funcs2 (tabOk_cons hT tabOk_nil) loopsOk_nil ((text_5 _ C D).trans (by rw [show goodA (fun _ : Unit => [.ref keyBase 0, .int .i64 11]) (fun _ => [codO C]) (fun _ => True) [.ref 1000000 0, .int .i64 11] [codO C] = true from gK_eq _ _]; rfl))⟩
  · exact ⟨([97, 34, 98], D), ⟨(show ([97, 34, 98] : List UInt8) ∈ textsL by decide), h2⟩, ct_loops (n := 9) (d := 3) (L := []) (T := [entK 19 [.ref keyBase 0, .int .i64 11] [codO C] (6, D) φX]) mixed2 funcs2 (tabOk_cons hT tabOk_nil) loopsOk_nil ((text_6 _ C D).trans (by rw [show goodA (fun _ : Unit => [.ref keyBase 0, .int .i64 11]) (fun _ => [codO C]) (fun _ => True) [.ref 1000000 0, .int .i64 11] [codO C] = true from gK_eq _ _]; rfl))⟩
  · exact ⟨([99, 92], D), ⟨(show ([99, 92] : List UInt8) ∈ textsL by decide), h2⟩, ct_loops (n := 9) (d := 3) (L := []) (T := [entK 19 [.ref keyBase 0, .int .i64 11] [codO C] (7, D) φX]) mixed2 funcs2 (tabOk_cons hT tabOk_nil) loopsOk_nil ((text_7 _ C D).trans (by rw [show goodA (fun _ : Unit => [.ref keyBase 0, .int .i64 11]) (fun _ => [codO C]) (fun _ => True) [.ref 1000000 0, .int .i64 11] [codO C] = true from gK_eq _ _]; rfl))⟩
  · exact ⟨([195, 169], D), ⟨(show ([195, 169] : List UInt8) ∈ textsL by decide), h2⟩, ct_loops (n := 9) (d := 3) (L := []) (T := [entK 19 [.ref keyBase 0, .int .i64 11] [codO C] (8, D) φX]) mixed2 funcs2 (tabOk_cons hT tabOk_nil) loopsOk_nil ((text_8 _ C D).trans (by rw [show goodA (fun _ : Unit => [.ref keyBase 0, .int .i64 11]) (fun _ => [codO C]) (fun _ => True) [.ref 1000000 0, .int .i64 11] [codO C] = true from gK_eq _ _]; rfl))⟩
  · exact ⟨([112, 114, 111, 115, 101], D), ⟨(show ([112, 114, 111, 115, 101] : List UInt8) ∈ textsL by decide), h2⟩, ct_loops (n := 9) (d := 3) (L := []) (T := [entK 19 [.ref keyBase 0, .int .i64 11] [codO C] (9, D) φX]) mixed2 funcs2 (tabOk_cons hT tabOk_nil) loopsOk_nil ((text_9 _ C D).trans (by rw [show goodA (fun _ : Unit => [.ref keyBase 0, .int .i64 11]) (fun _ => [codO C]) (fun _ => True) [.ref 1000000 0, .int .i64 11] [codO C] = true from gK_eq _ _]; rfl))⟩
  · exact ⟨([120, 32, 121], D), ⟨(show ([120, 32, 121] : List UInt8) ∈ textsL by decide), h2⟩, ct_loops (n := 9) (d := 3) (L := []) (T := [entK 19 [.ref keyBase 0, .int .i64 11] [codO C] (10, D) φX]) mixed2 funcs2 (tabOk_cons hT tabOk_nil) loopsOk_nil ((text_10 _ C D).trans (by rw [show goodA (fun _ : Unit => [.ref keyBase 0, .int .i64 11]) (fun _ => [codO C]) (fun _ => True) [.ref 1000000 0, .int .i64 11] [codO C] = true from gK_eq _ _]; rfl))⟩
theorem small_strs (l : List (List UInt8)) (h : (decide (l.length ≤ 10) && l.all fun s => decide (s.length ≤ 100)) = true) : strsOk l := by
  simp only [Bool.and_eq_true, decide_eq_true_eq, List.all_eq_true] at h
  exact ⟨by omega, fun s hs => by have := h.2 s hs; unfold lenS maxS; omega⟩
def goodVal (kind : Int) (v : VAL) : Prop := v.kind = kind ∧ checkE v = 0 ∧ v.Ok
theorem texts_good : ∀ s ∈ textsL, goodVal 3 ⟨3, 0, s, []⟩ := by
  intro s hs
  simp only [textsL, List.mem_cons, List.not_mem_nil, or_false] at hs
  rcases hs with rfl | rfl | rfl | rfl | rfl | rfl | rfl | rfl | rfl | rfl | rfl <;> exact ⟨rfl, by kernel_rfl, by decide, by decide, by simp⟩
theorem agg_last {c : Cx} {us : List AV} {o o' : Own} {sz sz' n : Nat} {get get' : Nat → List AV} {v : Value} (h : Rep c (.agg (us ++ [.sl o sz n get])) v) (hw : ∀ x, Rep c (.sl o sz n get) x → Rep c (.sl o' sz' n get') x) : Rep c (.agg (us ++ [.sl o' sz' n get'])) v := by
  cases h with
  | agg _ vs h1 h2 h3 =>
    refine .agg _ vs (by simpa using h1) (fun i u hu => ?_) (fun i u hu => ?_)
    · by_cases hi : i < us.length
      · rw [List.getElem?_append_left hi] at hu
        exact h2 i u (by rw [List.getElem?_append_left hi]; exact hu)
      · rw [List.getElem?_append_right (by omega)] at hu
        cases hj : i - us.length with
        | zero => rw [hj] at hu; simp at hu; subst hu; rfl
        | succ j => rw [hj] at hu; simp at hu
    · by_cases hi : i < us.length
      · rw [List.getElem?_append_left hi] at hu
        exact h3 i u (by rw [List.getElem?_append_left hi]; exact hu)
      · rw [List.getElem?_append_right (by omega)] at hu
        cases hj : i - us.length with
        | zero =>
          rw [hj] at hu; simp at hu; subst hu
          exact hw _ (h3 i _ (by rw [List.getElem?_append_right (by omega), hj]; rfl))
        | succ j => rw [hj] at hu; simp at hu
theorem sl_fit {c : Cx} {sz : Nat} {get get' : Nat → List AV} (x : Value) (h : Rep c (.sl .fit 0 0 get) x) : Rep c (.sl .no sz 0 get') x := by
  cases h with
  | slNil _ _ _ ho => exact .slNil _ _ _ trivial
  | sl _ _ _ _ ad cap vals h1 h2 h3 h4 h5 h6 => exact .sl _ _ _ _ ad cap vals h1 h2 trivial (fun j hj => by omega) (fun j i u hj => by omega) (fun j i u hj => by omega)
theorem val_ct {C D : CODES} {kind : Int} {k n : Int} {s : List UInt8} (h : Ct V2.P V2.G 58 [.ref keyBase 0, .int .i64 kind] [codO C] (.agg [.int .i64 k, .int .i64 n, .str s, .sl .fit 0 0 fun _ => []], [codO D])) :
    Ct V2.P V2.G 58 [.ref keyBase 0, .int .i64 kind] [codO C] (φV (⟨k, n, s, []⟩, D)) :=
  h.res (by simp [VAL.c, AV.keys, keysL, strsA]) fun c v hv => agg_last (us := [.int .i64 k, .int .i64 n, .str s]) hv sl_fit
theorem val_ct5 {C D : CODES} {kind : Int} {k n : Int} {s : List UInt8} {l : List (List UInt8)} {get : Nat → List AV} (hg : ∀ j, j < l.length → get j = [.str (l.getD j [])]) (h : Ct V2.P V2.G 58 [.ref keyBase 0, .int .i64 kind] [codO C] (.agg [.int .i64 k, .int .i64 n, .str s, .sl .no 1 l.length get], [codO D])) :
    Ct V2.P V2.G 58 [.ref keyBase 0, .int .i64 kind] [codO C] (φV (⟨k, n, s, l⟩, D)) :=
  h.res (by simp [VAL.c, AV.keys, keysL, strsA]) fun c v hv => agg_last (us := [.int .i64 k, .int .i64 n, .str s]) hv fun x hx => hx.slWeak fun j hj => (hg j hj).symm
def vA (x : CODES × Int) : List AV := [.ref keyBase 0, .int .i64 x.2]
def vO (x : CODES × Int) : List AO := [codO x.1]
def vP (x : CODES × Int) : Prop := x.1.Ok ∧ 1 ≤ x.2 ∧ x.2 ≤ 5
def vPost (x : CODES × Int) (y : VAL × CODES) : Prop := goodVal x.2 y.1 ∧ y.2.Ok
theorem value_ex (a : CODES × Int) (ha : vP a) : ∃ x : VAL × CODES, vPost a x ∧ Ct V2.P V2.G 58 (vA a) (vO a) (φV x) := by
  obtain ⟨C, kind⟩ := a
  obtain ⟨h, k1, k5⟩ := ha
  have hk : kind = 1 ∨ kind = 2 ∨ kind = 3 ∨ kind = 4 ∨ kind = 5 := by have k1 : 1 ≤ kind := k1; have k5 : kind ≤ 5 := k5; omega
  obtain ⟨wt, hwt, htt⟩ := ent_ex (V := V2) (f := 59) (A := cA) (O := cO) (Pre := CODES.Ok) (φ := φT) (Post := fun (_ : CODES) (x : List UInt8 × CODES) => x.1 ∈ textsL ∧ x.2.Ok) text_ex
  have hgt : goodA cA cO CODES.Ok [.ref 1000000 0] [codO C] = true := goodA_eq (A := cA) (O := cO) (v := C) h
  have hvt := valA_post (A := cA) (O := cO) (Post := fun (_ : CODES) (x : List UInt8 × CODES) => x.1 ∈ textsL ∧ x.2.Ok) hwt (fun a b x _ _ hx => hx) h
  rcases hk with rfl | rfl | rfl | rfl | rfl
  · obtain ⟨h0, h1, h2⟩ := nextR_ok h (m := 2) (by omega)
    have hc := ct_loops (V := V2) (f := 58) (n := 9) (d := 3) (L := []) (T := [entN, entC 59 cA cO CODES.Ok wt φT]) mixed2 funcs2 (tabOk_cons entN_ok (tabOk_cons htt tabOk_nil)) loopsOk_nil ((value_1 gN vN _ _ C (vN_eq h (by omega))).trans (by rw [gN_eq h (by omega)]; rfl))
    revert h0 h1 h2 hc
    generalize nextR C 2 = y
    obtain ⟨r, D⟩ := y
    intro h0 h1 h2 hc
    have hr : r = 0 ∨ r = 1 := by have h0 : 0 ≤ r := h0; have h1 : r < 2 := h1; omega
    rcases hr with rfl | rfl
    · exact ⟨(⟨1, 0, [], []⟩, D), ⟨(show goodVal 1 ⟨1, 0, [], []⟩ from ⟨rfl, by kernel_rfl, by decide, by decide, by simp⟩), h2⟩, val_ct hc⟩
    · exact ⟨(⟨1, 1, [], []⟩, D), ⟨(show goodVal 1 ⟨1, 1, [], []⟩ from ⟨rfl, by kernel_rfl, by decide, by decide, by simp⟩), h2⟩, val_ct hc⟩
  · obtain ⟨h0, h1, h2⟩ := nextR_ok h (m := 9) (by omega)
    have hn := next_ok C h 9 (by omega)
    revert h0 h1 h2 hn
    generalize nextR C 9 = y
    obtain ⟨r, D⟩ := y
    intro h0 h1 h2 hn
    have hr : r = 0 ∨ r = 1 ∨ r = 2 ∨ r = 3 ∨ r = 4 ∨ r = 5 ∨ r = 6 ∨ r = 7 ∨ r = 8 := by have h0 : 0 ≤ r := h0; have h1 : r < 9 := h1; omega
    have hT := entK_ok (φ := φX) hn
    have hg : goodA (fun _ : Unit => [.ref keyBase 0, .int .i64 9]) (fun _ => [codO C]) (fun _ => True) [.ref 1000000 0, .int .i64 9] [codO C] = true := gK_eq _ _
    rcases hr with rfl | rfl | rfl | rfl | rfl | rfl | rfl | rfl | rfl
    · exact ⟨(⟨2, 0, [], []⟩, D), ⟨(show goodVal 2 ⟨2, 0, [], []⟩ from ⟨rfl, by kernel_rfl, by decide, by decide, by simp⟩), h2⟩, val_ct (ct_loops (V := V2) (f := 58) (n := 9) (d := 3) (L := []) (T := [entK 19 [.ref keyBase 0, .int .i64 9] [codO C] (0, D) φX, entC 59 cA cO CODES.Ok wt φT]) mixed2 funcs2 (tabOk_cons hT (tabOk_cons htt tabOk_nil)) loopsOk_nil ((value_2_0 _ _ _ C D).trans (by first | (rw [hg]; rfl) | exact (congrArg (fun b => cond b _ none) hg).trans rfl)))⟩
    · exact ⟨(⟨2, 1, [], []⟩, D), ⟨(show goodVal 2 ⟨2, 1, [], []⟩ from ⟨rfl, by kernel_rfl, by decide, by decide, by simp⟩), h2⟩, val_ct (ct_loops (V := V2) (f := 58) (n := 9) (d := 3) (L := []) (T := [entK 19 [.ref keyBase 0, .int .i64 9] [codO C] (1, D) φX, entC 59 cA cO CODES.Ok wt φT]) mixed2 funcs2 (tabOk_cons hT (tabOk_cons htt tabOk_nil)) loopsOk_nil ((value_2_1 _ _ _ C D).trans (by first | (rw [hg]; rfl) | exact (congrArg (fun b => cond b _ none) hg).trans rfl)))⟩
    · exact ⟨(⟨2, 17, [], []⟩, D), ⟨(show goodVal 2 ⟨2, 17, [], []⟩ from ⟨rfl, by kernel_rfl, by decide, by decide, by simp⟩), h2⟩, val_ct (ct_loops (V := V2) (f := 58) (n := 9) (d := 3) (L := []) (T := [entK 19 [.ref keyBase 0, .int .i64 9] [codO C] (2, D) φX, entC 59 cA cO CODES.Ok wt φT]) mixed2 funcs2 (tabOk_cons hT (tabOk_cons htt tabOk_nil)) loopsOk_nil ((value_2_2 _ _ _ C D).trans (by first | (rw [hg]; rfl) | exact (congrArg (fun b => cond b _ none) hg).trans rfl)))⟩
    · exact ⟨(⟨2, 18, [], []⟩, D), ⟨(show goodVal 2 ⟨2, 18, [], []⟩ from ⟨rfl, by kernel_rfl, by decide, by decide, by simp⟩), h2⟩, val_ct (ct_loops (V := V2) (f := 58) (n := 9) (d := 3) (L := []) (T := [entK 19 [.ref keyBase 0, .int .i64 9] [codO C] (3, D) φX, entC 59 cA cO CODES.Ok wt φT]) mixed2 funcs2 (tabOk_cons hT (tabOk_cons htt tabOk_nil)) loopsOk_nil ((value_2_3 _ _ _ C D).trans (by first | (rw [hg]; rfl) | exact (congrArg (fun b => cond b _ none) hg).trans rfl)))⟩
    · exact ⟨(⟨2, 19, [], []⟩, D), ⟨(show goodVal 2 ⟨2, 19, [], []⟩ from ⟨rfl, by kernel_rfl, by decide, by decide, by simp⟩), h2⟩, val_ct (ct_loops (V := V2) (f := 58) (n := 9) (d := 3) (L := []) (T := [entK 19 [.ref keyBase 0, .int .i64 9] [codO C] (4, D) φX, entC 59 cA cO CODES.Ok wt φT]) mixed2 funcs2 (tabOk_cons hT (tabOk_cons htt tabOk_nil)) loopsOk_nil ((value_2_4 _ _ _ C D).trans (by first | (rw [hg]; rfl) | exact (congrArg (fun b => cond b _ none) hg).trans rfl)))⟩
    · exact ⟨(⟨2, (-5), [], []⟩, D), ⟨(show goodVal 2 ⟨2, (-5), [], []⟩ from ⟨rfl, by kernel_rfl, by decide, by decide, by simp⟩), h2⟩, val_ct (ct_loops (V := V2) (f := 58) (n := 9) (d := 3) (L := []) (T := [entK 19 [.ref keyBase 0, .int .i64 9] [codO C] (5, D) φX, entC 59 cA cO CODES.Ok wt φT]) mixed2 funcs2 (tabOk_cons hT (tabOk_cons htt tabOk_nil)) loopsOk_nil ((value_2_5 _ _ _ C D).trans (by first | (rw [hg]; rfl) | exact (congrArg (fun b => cond b _ none) hg).trans rfl)))⟩
    · exact ⟨(⟨2, 64, [], []⟩, D), ⟨(show goodVal 2 ⟨2, 64, [], []⟩ from ⟨rfl, by kernel_rfl, by decide, by decide, by simp⟩), h2⟩, val_ct (ct_loops (V := V2) (f := 58) (n := 9) (d := 3) (L := []) (T := [entK 19 [.ref keyBase 0, .int .i64 9] [codO C] (6, D) φX, entC 59 cA cO CODES.Ok wt φT]) mixed2 funcs2 (tabOk_cons hT (tabOk_cons htt tabOk_nil)) loopsOk_nil ((value_2_6 _ _ _ C D).trans (by first | (rw [hg]; rfl) | exact (congrArg (fun b => cond b _ none) hg).trans rfl)))⟩
    · exact ⟨(⟨2, 1099511627776, [], []⟩, D), ⟨(show goodVal 2 ⟨2, 1099511627776, [], []⟩ from ⟨rfl, by kernel_rfl, by decide, by decide, by simp⟩), h2⟩, val_ct (ct_loops (V := V2) (f := 58) (n := 9) (d := 3) (L := []) (T := [entK 19 [.ref keyBase 0, .int .i64 9] [codO C] (7, D) φX, entC 59 cA cO CODES.Ok wt φT]) mixed2 funcs2 (tabOk_cons hT (tabOk_cons htt tabOk_nil)) loopsOk_nil ((value_2_7 _ _ _ C D).trans (by first | (rw [hg]; rfl) | exact (congrArg (fun b => cond b _ none) hg).trans rfl)))⟩
    · exact ⟨(⟨2, (-1099511627776), [], []⟩, D), ⟨(show goodVal 2 ⟨2, (-1099511627776), [], []⟩ from ⟨rfl, by kernel_rfl, by decide, by decide, by simp⟩), h2⟩, val_ct (ct_loops (V := V2) (f := 58) (n := 9) (d := 3) (L := []) (T := [entK 19 [.ref keyBase 0, .int .i64 9] [codO C] (8, D) φX, entC 59 cA cO CODES.Ok wt φT]) mixed2 funcs2 (tabOk_cons hT (tabOk_cons htt tabOk_nil)) loopsOk_nil ((value_2_8 _ _ _ C D).trans (by first | (rw [hg]; rfl) | exact (congrArg (fun b => cond b _ none) hg).trans rfl)))⟩
  · obtain ⟨q1, q2⟩ := hvt
    have hc := ct_loops (V := V2) (f := 58) (n := 9) (d := 3) (L := []) (T := [entN, entC 59 cA cO CODES.Ok wt φT]) mixed2 funcs2 (tabOk_cons entN_ok (tabOk_cons htt tabOk_nil)) loopsOk_nil ((value_3 gN vN _ _ C rfl).trans (by rw [hgt]; rfl))
    exact ⟨(⟨3, 0, (valA cA cO CODES.Ok wt (cA C) (cO C)).1, []⟩, (valA cA cO CODES.Ok wt (cA C) (cO C)).2), ⟨texts_good _ q1, q2⟩, val_ct hc⟩
  · obtain ⟨h0, h1, h2⟩ := nextR_ok h (m := 6) (by omega)
    have hn := next_ok C h 6 (by omega)
    revert h0 h1 h2 hn
    generalize nextR C 6 = y
    obtain ⟨r, D⟩ := y
    intro h0 h1 h2 hn
    have hr : r = 0 ∨ r = 1 ∨ r = 2 ∨ r = 3 ∨ r = 4 ∨ r = 5 := by have h0 : 0 ≤ r := h0; have h1 : r < 6 := h1; omega
    have hT := entK_ok (φ := φX) hn
    have hg : goodA (fun _ : Unit => [.ref keyBase 0, .int .i64 6]) (fun _ => [codO C]) (fun _ => True) [.ref 1000000 0, .int .i64 6] [codO C] = true := gK_eq _ _
    rcases hr with rfl | rfl | rfl | rfl | rfl | rfl
    · exact ⟨(⟨4, 0, [49, 46, 48, 46, 48], []⟩, D), ⟨(show goodVal 4 ⟨4, 0, [49, 46, 48, 46, 48], []⟩ from ⟨rfl, by kernel_rfl, by decide, by decide, by simp⟩), h2⟩, val_ct (ct_loops (V := V2) (f := 58) (n := 9) (d := 3) (L := []) (T := [entK 19 [.ref keyBase 0, .int .i64 6] [codO C] (0, D) φX, entC 59 cA cO CODES.Ok wt φT]) mixed2 funcs2 (tabOk_cons hT (tabOk_cons htt tabOk_nil)) loopsOk_nil ((value_4_0 _ _ _ C D).trans (by first | (rw [hg]; rfl) | exact (congrArg (fun b => cond b _ none) hg).trans rfl)))⟩
    · exact ⟨(⟨4, 0, [49, 46, 50, 46, 51], []⟩, D), ⟨(show goodVal 4 ⟨4, 0, [49, 46, 50, 46, 51], []⟩ from ⟨rfl, by kernel_rfl, by decide, by decide, by simp⟩), h2⟩, val_ct (ct_loops (V := V2) (f := 58) (n := 9) (d := 3) (L := []) (T := [entK 19 [.ref keyBase 0, .int .i64 6] [codO C] (1, D) φX, entC 59 cA cO CODES.Ok wt φT]) mixed2 funcs2 (tabOk_cons hT (tabOk_cons htt tabOk_nil)) loopsOk_nil ((value_4_1 _ _ _ C D).trans (by first | (rw [hg]; rfl) | exact (congrArg (fun b => cond b _ none) hg).trans rfl)))⟩
    · exact ⟨(⟨4, 0, [49, 46, 49, 48, 46, 48], []⟩, D), ⟨(show goodVal 4 ⟨4, 0, [49, 46, 49, 48, 46, 48], []⟩ from ⟨rfl, by kernel_rfl, by decide, by decide, by simp⟩), h2⟩, val_ct (ct_loops (V := V2) (f := 58) (n := 9) (d := 3) (L := []) (T := [entK 19 [.ref keyBase 0, .int .i64 6] [codO C] (2, D) φX, entC 59 cA cO CODES.Ok wt φT]) mixed2 funcs2 (tabOk_cons hT (tabOk_cons htt tabOk_nil)) loopsOk_nil ((value_4_2 _ _ _ C D).trans (by first | (rw [hg]; rfl) | exact (congrArg (fun b => cond b _ none) hg).trans rfl)))⟩
    · exact ⟨(⟨4, 0, [50, 46, 48, 46, 49], []⟩, D), ⟨(show goodVal 4 ⟨4, 0, [50, 46, 48, 46, 49], []⟩ from ⟨rfl, by kernel_rfl, by decide, by decide, by simp⟩), h2⟩, val_ct (ct_loops (V := V2) (f := 58) (n := 9) (d := 3) (L := []) (T := [entK 19 [.ref keyBase 0, .int .i64 6] [codO C] (3, D) φX, entC 59 cA cO CODES.Ok wt φT]) mixed2 funcs2 (tabOk_cons hT (tabOk_cons htt tabOk_nil)) loopsOk_nil ((value_4_3 _ _ _ C D).trans (by first | (rw [hg]; rfl) | exact (congrArg (fun b => cond b _ none) hg).trans rfl)))⟩
    · exact ⟨(⟨4, 0, [48, 46, 48, 46, 48], []⟩, D), ⟨(show goodVal 4 ⟨4, 0, [48, 46, 48, 46, 48], []⟩ from ⟨rfl, by kernel_rfl, by decide, by decide, by simp⟩), h2⟩, val_ct (ct_loops (V := V2) (f := 58) (n := 9) (d := 3) (L := []) (T := [entK 19 [.ref keyBase 0, .int .i64 6] [codO C] (4, D) φX, entC 59 cA cO CODES.Ok wt φT]) mixed2 funcs2 (tabOk_cons hT (tabOk_cons htt tabOk_nil)) loopsOk_nil ((value_4_4 _ _ _ C D).trans (by first | (rw [hg]; rfl) | exact (congrArg (fun b => cond b _ none) hg).trans rfl)))⟩
    · exact ⟨(⟨4, 0, [57, 57, 57, 57, 57, 57, 46, 48, 46, 57, 57, 57, 57, 57, 57], []⟩, D), ⟨(show goodVal 4 ⟨4, 0, [57, 57, 57, 57, 57, 57, 46, 48, 46, 57, 57, 57, 57, 57, 57], []⟩ from ⟨rfl, by kernel_rfl, by decide, by decide, by simp⟩), h2⟩, val_ct (ct_loops (V := V2) (f := 58) (n := 9) (d := 3) (L := []) (T := [entK 19 [.ref keyBase 0, .int .i64 6] [codO C] (5, D) φX, entC 59 cA cO CODES.Ok wt φT]) mixed2 funcs2 (tabOk_cons hT (tabOk_cons htt tabOk_nil)) loopsOk_nil ((value_4_5 _ _ _ C D).trans (by first | (rw [hg]; rfl) | exact (congrArg (fun b => cond b _ none) hg).trans rfl)))⟩
  · obtain ⟨h0, h1, h2⟩ := nextR_ok h (m := 5) (by omega)
    have hn := next_ok C h 5 (by omega)
    revert h0 h1 h2 hn
    generalize nextR C 5 = y
    obtain ⟨r, D⟩ := y
    intro h0 h1 h2 hn
    have hr : r = 0 ∨ r = 1 ∨ r = 2 ∨ r = 3 ∨ r = 4 := by have h0 : 0 ≤ r := h0; have h1 : r < 5 := h1; omega
    have hT := entK_ok (φ := φX) hn
    have hg : goodA (fun _ : Unit => [.ref keyBase 0, .int .i64 5]) (fun _ => [codO C]) (fun _ => True) [.ref 1000000 0, .int .i64 5] [codO C] = true := gK_eq _ _
    rcases hr with rfl | rfl | rfl | rfl | rfl
    · refine ⟨(⟨5, 0, [], []⟩, D), ⟨(show goodVal 5 ⟨5, 0, [], []⟩ from ⟨rfl, by kernel_rfl, by decide, small_strs _ (by decide)⟩), h2⟩, val_ct5 (l := []) (fun j hj => ?_) (ct_loops (V := V2) (f := 58) (n := 9) (d := 3) (L := []) (T := [entK 19 [.ref keyBase 0, .int .i64 5] [codO C] (0, D) φX, entC 59 cA cO CODES.Ok wt φT]) mixed2 funcs2 (tabOk_cons hT (tabOk_cons htt tabOk_nil)) loopsOk_nil ((value_5_0 _ _ _ C D).trans (by first | (rw [hg]; rfl) | exact (congrArg (fun b => cond b _ none) hg).trans rfl)))⟩
      simp at hj
    · refine ⟨(⟨5, 0, [], [[112, 114, 111]]⟩, D), ⟨(show goodVal 5 ⟨5, 0, [], [[112, 114, 111]]⟩ from ⟨rfl, by kernel_rfl, by decide, small_strs _ (by decide)⟩), h2⟩, val_ct5 (l := [[112, 114, 111]]) (fun j hj => ?_) (ct_loops (V := V2) (f := 58) (n := 9) (d := 3) (L := []) (T := [entK 19 [.ref keyBase 0, .int .i64 5] [codO C] (1, D) φX, entC 59 cA cO CODES.Ok wt φT]) mixed2 funcs2 (tabOk_cons hT (tabOk_cons htt tabOk_nil)) loopsOk_nil ((value_5_1 _ _ _ C D).trans (by first | (rw [hg]; rfl) | exact (congrArg (fun b => cond b _ none) hg).trans rfl)))⟩
      simp only [List.length_cons, List.length_nil] at hj; match j, hj with
      | 0, _ => rfl
    · refine ⟨(⟨5, 0, [], [[100, 101], [115, 101]]⟩, D), ⟨(show goodVal 5 ⟨5, 0, [], [[100, 101], [115, 101]]⟩ from ⟨rfl, by kernel_rfl, by decide, small_strs _ (by decide)⟩), h2⟩, val_ct5 (l := [[100, 101], [115, 101]]) (fun j hj => ?_) (ct_loops (V := V2) (f := 58) (n := 9) (d := 3) (L := []) (T := [entK 19 [.ref keyBase 0, .int .i64 5] [codO C] (2, D) φX, entC 59 cA cO CODES.Ok wt φT]) mixed2 funcs2 (tabOk_cons hT (tabOk_cons htt tabOk_nil)) loopsOk_nil ((value_5_2 _ _ _ C D).trans (by first | (rw [hg]; rfl) | exact (congrArg (fun b => cond b _ none) hg).trans rfl)))⟩
      simp only [List.length_cons, List.length_nil] at hj; match j, hj with
      | 0, _ => rfl
      | 1, _ => rfl
    · refine ⟨(⟨5, 0, [], [[], [102, 114, 101, 101], [117, 115]]⟩, D), ⟨(show goodVal 5 ⟨5, 0, [], [[], [102, 114, 101, 101], [117, 115]]⟩ from ⟨rfl, by kernel_rfl, by decide, small_strs _ (by decide)⟩), h2⟩, val_ct5 (l := [[], [102, 114, 101, 101], [117, 115]]) (fun j hj => ?_) (ct_loops (V := V2) (f := 58) (n := 9) (d := 3) (L := []) (T := [entK 19 [.ref keyBase 0, .int .i64 5] [codO C] (3, D) φX, entC 59 cA cO CODES.Ok wt φT]) mixed2 funcs2 (tabOk_cons hT (tabOk_cons htt tabOk_nil)) loopsOk_nil ((value_5_3 _ _ _ C D).trans (by first | (rw [hg]; rfl) | exact (congrArg (fun b => cond b _ none) hg).trans rfl)))⟩
      simp only [List.length_cons, List.length_nil] at hj; match j, hj with
      | 0, _ => rfl
      | 1, _ => rfl
      | 2, _ => rfl
    · refine ⟨(⟨5, 0, [], [[120, 32, 121]]⟩, D), ⟨(show goodVal 5 ⟨5, 0, [], [[120, 32, 121]]⟩ from ⟨rfl, by kernel_rfl, by decide, small_strs _ (by decide)⟩), h2⟩, val_ct5 (l := [[120, 32, 121]]) (fun j hj => ?_) (ct_loops (V := V2) (f := 58) (n := 9) (d := 3) (L := []) (T := [entK 19 [.ref keyBase 0, .int .i64 5] [codO C] (4, D) φX, entC 59 cA cO CODES.Ok wt φT]) mixed2 funcs2 (tabOk_cons hT (tabOk_cons htt tabOk_nil)) loopsOk_nil ((value_5_4 _ _ _ C D).trans (by first | (rw [hg]; rfl) | exact (congrArg (fun b => cond b _ none) hg).trans rfl)))⟩
      simp only [List.length_cons, List.length_nil] at hj; match j, hj with
      | 0, _ => rfl
end Go.SH

namespace Go.SH
open Go Go.Ab Go.Proofs
set_option linter.unusedVariables false
set_option linter.unusedSimpArgs false
def argN (m : Int) (l : List AV) : Bool := match l with
  | [_, .int _ n] => n == m
  | _ => false
def zV : List AV := [.int .i64 0, .int .i64 0, .str [], .sl .fit 0 0 fun _ => [] ]
def getV (l : List VAL) (j : Nat) : List AV := (l.map VAL.c).getD j zV
def exC (op : Int) (kind name : List UInt8) (vs : AV) : List AV := [.int .i64 op, .str kind, .str name, vs, .sl .fit 0 0 fun _ => [] ]
def ex0 : List AV := [.int .i64 0, .str [], .str [], .sl .fit 0 0 fun _ => [], .sl .fit 0 0 fun _ => [] ]
def TS0 (dk dn : List UInt8) (dt : Int) (C : CODES) : St := { env := [(0, .ref keyBase 0), (2, .ref 2 0), (5, .ref 5 0), (6, .ref 6 0), (7, .int .i64 0)], objs := [(2, .cells ex0), (5, .cells [.str dk, .str dn, .int .i64 dt]), (6, .cells (exC 8 dk dn (.sl (.key 63) 4 0 fun _ => zV))), (keyBase, codO C), (63, .own 4 0)] }
def TS (dk dn : List UInt8) (dt : Int) (n : Nat) (get : Nat → List AV) (C : CODES) (i : Nat) : St := { env := [(0, .ref keyBase 0), (2, .ref 2 0), (5, .ref 5 0), (6, .ref 6 0), (7, .int .i64 i)], objs := [(2, .cells ex0), (5, .cells [.str dk, .str dn, .int .i64 dt]), (6, .cells (exC 8 dk dn (.sl (.key 63) 4 n get))), (63, .own 4 n), (keyBase, codO C)] }
def TE (dk dn : List UInt8) (n : Nat) (get : Nat → List AV) (C : CODES) : St := { env := [(2, .ref 2 0), (6, .ref 6 0)], objs := [(2, .cells ex0), (6, .cells (exC 8 dk dn (.sl (.key 63) 4 n get))), (63, .own 4 n), (keyBase, codO C)] }
def outT (dk dn : List UInt8) (x : List VAL × CODES) (k : Ex → St → Res) : Res := k (.exit 6) (TE dk dn x.1.length (getV x.1) x.2)
set_option maxRecDepth 100000 in
theorem key_e (ge : List AV → List AO → Bool) (ve : List AV → List AO → Int × CODES) (C : CODES) {t1 : Int × CODES} (h_t1 : ve [.ref 1000000 0, .int .i64 10] [codO C] = t1) : runF (V2.run [mkE 19 ge ve φX] 3 [] [] [] 104) 9 104 [.ref keyBase 0] [codO C] =
  cond (ge [.ref 1000000 0, .int .i64 10] [codO C]) (cond (Nat.ble (List.length ([107]) + List.length (Array.toList (ByteArray.data (Utf8.encode (IntKind.wrap IntKind.i32 (IntKind.wrap IntKind.i64 (48 + Prod.fst t1))))))) 4611686018427387904) (some ((.str ([107] ++ Array.toList (ByteArray.data (Utf8.encode (IntKind.wrap IntKind.i32 (IntKind.wrap IntKind.i64 (48 + Prod.fst t1)))))), [codO (Prod.snd t1)]))) (none)) (none) := by subst h_t1; kernel_rfl
set_option maxRecDepth 100000 in
theorem test_r0 (ge gv : List AV → List AO → Bool) (ve : List AV → List AO → Int × CODES) (vv : List AV → List AO → VAL × CODES) (T : List Ent) (L : List (List Nat × Orc)) (m : Nat) (dk dn : List UInt8) (dt : Int) (C : CODES) (kn : St → Res) (k : Ex → St → Res) {t1 : Int × CODES} (h_t1 : ve [.ref 1000000 0, .int .i64 3] [codO C] = t1) {t2 : VAL × CODES} (h_t2 : vv [.ref 1000000 0, .int .i64 dt] [codO (Prod.snd t1)] = t2) : roundR (V2.run (mkE 19 ge ve φX :: mkE 58 gv vv φV :: T) 3 [] L [] 47) 47 m [1, 1, 1, 1, 1, 1, 0, 1, 0, 0, 0, 0, 0, 0, 0, 1, 0, 1, 0, 1, 0, 1, 0] (TS0 dk dn dt C) kn k =
  cond (ge [.ref 1000000 0, .int .i64 3] [codO C]) (cond (decide (0 ≤ Prod.fst t1)) (cond (gv [.ref 1000000 0, .int .i64 dt] [codO (Prod.snd t1)]) (kn (TS dk dn dt 1 (appGet 0 1 (fun x => zV) (fillGet zV [(0, .agg (VAL.c (Prod.fst t2)))])) (Prod.snd t2) ((0 + 1) % Int.natAbs (2 ^ IntKind.bits IntKind.i64)))) (none)) (k (.exit 6) (TE dk dn 0 (fun x => zV) (Prod.snd t1)))) (none) := by subst h_t2 h_t1; kernel_rfl
set_option maxRecDepth 100000 in
theorem test_r (ge gv : List AV → List AO → Bool) (ve : List AV → List AO → Int × CODES) (vv : List AV → List AO → VAL × CODES) (T : List Ent) (L : List (List Nat × Orc)) (m : Nat) (dk dn : List UInt8) (dt : Int) (n : Nat) (get : Nat → List AV) (C : CODES) (i : Nat) (kn : St → Res) (k : Ex → St → Res) {t1 : Int × CODES} (h_t1 : ve [.ref 1000000 0, .int .i64 3] [codO C] = t1) {t2 : VAL × CODES} (h_t2 : vv [.ref 1000000 0, .int .i64 dt] [codO (Prod.snd t1)] = t2) : roundR (V2.run (mkE 19 ge ve φX :: mkE 58 gv vv φV :: T) 3 [] L [] 47) 47 m [1, 1, 1, 1, 1, 1, 0, 1, 0, 0, 0, 0, 0, 0, 0, 1, 0, 1, 0, 1, 0, 1, 0] (TS dk dn dt (n + 1) get C i) kn k =
  cond (ge [.ref 1000000 0, .int .i64 3] [codO C]) (cond (decide ((↑i : Int) ≤ Prod.fst t1)) (cond (gv [.ref 1000000 0, .int .i64 dt] [codO (Prod.snd t1)]) (cond (roomy (56) (n + 1 + 1) && Nat.beq (n + 1) (n + 1)) (kn ({ env := [(0, .ref 1000000 0), (2, .ref 2 0), (5, .ref 5 0), (6, .ref 6 0), (7, .int .i64 (IntKind.wrap IntKind.i64 ((↑i : Int) + 1)))], objs := [(2, .cells (exC 0 [] [] (.sl .fit 0 0 fun x => []))), (5, .cells [.str dk, .str dn, .int .i64 dt]), (6, .cells (exC 8 dk dn (.sl (.key 63) 4 (n + 1 + 1) (appGet (n + 1) 1 get (fillGet zV [(0, .agg (VAL.c (Prod.fst t2)))]))))), (63, .own 4 (n + 1 + 1)), (1000000, codO (Prod.snd t2))] })) (none)) (none)) (k (.exit 6) (TE dk dn (n + 1) get (Prod.snd t1)))) (none) := by subst h_t2 h_t1; kernel_rfl
set_option maxRecDepth 100000 in
theorem test_0 (ge gv gy : List AV → List AO → Bool) (ve : List AV → List AO → Int × CODES) (vv : List AV → List AO → VAL × CODES) (vy : List AV → List AO → List UInt8 × CODES) (w : St → Bool) (v : St → List VAL × CODES) (C D : CODES) {t1 : Int × CODES} (h_t1 : ve [.ref 1000000 0, .int .i64 5] [codO (Prod.snd (0, D))] = t1) {t2 : List VAL × CODES} (h_t2 : v (TS0 ([100, 101, 118, 105, 99, 101]) ([99, 111, 114, 101, 115]) 2 (Prod.snd (bif argN 9 [.ref 1000000 0, .int .i64 5] then (0, D) else t1))) = t2) {t3 : VAL × CODES} (h_t3 : vv [.ref 1000000 0, .int .i64 2] [codO (Prod.snd (bif argN 9 [.ref 1000000 0, .int .i64 5] then (0, D) else t1))] = t3) {t4 : Int × CODES} (h_t4 : ve [.ref 1000000 0, .int .i64 4] [codO (Prod.snd (bif argN 9 [.ref 1000000 0, .int .i64 5] then (0, D) else t1))] = t4) {t5 : VAL × CODES} (h_t5 : vv [.ref 1000000 0, .int .i64 2] [codO (Prod.snd (bif argN 9 [.ref 1000000 0, .int .i64 4] then (0, D) else t4))] = t5) : runF (V2.run [mkE 19 ge (fun l os => cond (argN 9 l) (0, D) (ve l os)) φX, mkE 58 gv vv φV, mkE 104 gy vy φT] 3 [] [([1, 1, 1, 1, 1, 1, 0, 1, 0, 0, 0, 0, 0, 0, 0, 1, 0, 1, 0, 1, 0, 1, 0], mkO w v (outT [100, 101, 118, 105, 99, 101] [99, 111, 114, 101, 115]))] [] 47) 9 47 [.ref keyBase 0] [codO C] =
  cond (ge [.ref 1000000 0, .int .i64 (IntKind.wrap IntKind.i64 ((↑8 : Int) + 1))] [codO C]) (cond (ge [.ref 1000000 0, .int .i64 5] [codO (Prod.snd (0, D))]) (cond (Prod.fst (bif argN 9 [.ref 1000000 0, .int .i64 5] then (0, D) else t1) == 0) (some ((.agg (exC 6 ([100, 101, 118, 105, 99, 101]) ([99, 111, 114, 101, 115]) (.sl .fit 0 0 fun x => [])), [codO (Prod.snd (bif argN 9 [.ref 1000000 0, .int .i64 5] then (0, D) else t1))]))) (cond (Prod.fst (bif argN 9 [.ref 1000000 0, .int .i64 5] then (0, D) else t1) == 1) (cond (w (TS0 ([100, 101, 118, 105, 99, 101]) ([99, 111, 114, 101, 115]) 2 (Prod.snd (bif argN 9 [.ref 1000000 0, .int .i64 5] then (0, D) else t1)))) (some ((.agg (exC 8 [100, 101, 118, 105, 99, 101] [99, 111, 114, 101, 115] (.sl .no 4 (List.length (Prod.fst t2)) (getV (Prod.fst t2)))), [codO (Prod.snd t2)]))) (none)) (cond (Prod.fst (bif argN 9 [.ref 1000000 0, .int .i64 5] then (0, D) else t1) == 2) (cond (gv [.ref 1000000 0, .int .i64 2] [codO (Prod.snd (bif argN 9 [.ref 1000000 0, .int .i64 5] then (0, D) else t1))]) (some ((.agg (exC 7 ([100, 101, 118, 105, 99, 101]) ([99, 111, 114, 101, 115]) (.sl .fit 4 1 (fillGet zV [(0, .agg (VAL.c (Prod.fst t3)))]))), [codO (Prod.snd t3)]))) (none)) (cond (Prod.fst (bif argN 9 [.ref 1000000 0, .int .i64 5] then (0, D) else t1) == 3) (cond (ge [.ref 1000000 0, .int .i64 4] [codO (Prod.snd (bif argN 9 [.ref 1000000 0, .int .i64 5] then (0, D) else t1))]) (cond (gv [.ref 1000000 0, .int .i64 2] [codO (Prod.snd (bif argN 9 [.ref 1000000 0, .int .i64 4] then (0, D) else t4))]) (some ((.agg (exC (IntKind.wrap IntKind.i64 (12 + Prod.fst (bif argN 9 [.ref 1000000 0, .int .i64 4] then (0, D) else t4))) ([100, 101, 118, 105, 99, 101]) ([99, 111, 114, 101, 115]) (.sl .fit 4 1 (fillGet zV [(0, .agg (VAL.c (Prod.fst t5)))]))), [codO (Prod.snd t5)]))) (none)) (none)) (cond (Prod.fst (bif argN 9 [.ref 1000000 0, .int .i64 5] then (0, D) else t1) == 4) (cond (ge [.ref 1000000 0, .int .i64 4] [codO (Prod.snd (bif argN 9 [.ref 1000000 0, .int .i64 5] then (0, D) else t1))]) (cond (gv [.ref 1000000 0, .int .i64 2] [codO (Prod.snd (bif argN 9 [.ref 1000000 0, .int .i64 4] then (0, D) else t4))]) (some ((.agg (exC (IntKind.wrap IntKind.i64 (12 + Prod.fst (bif argN 9 [.ref 1000000 0, .int .i64 4] then (0, D) else t4))) ([100, 101, 118, 105, 99, 101]) ([99, 111, 114, 101, 115]) (.sl .fit 4 1 (fillGet zV [(0, .agg (VAL.c (Prod.fst t5)))]))), [codO (Prod.snd t5)]))) (none)) (none)) (cond (gv [.ref 1000000 0, .int .i64 2] [codO (Prod.snd (bif argN 9 [.ref 1000000 0, .int .i64 5] then (0, D) else t1))]) (some ((.agg (exC 7 ([100, 101, 118, 105, 99, 101]) ([99, 111, 114, 101, 115]) (.sl .fit 4 1 (fillGet zV [(0, .agg (VAL.c (Prod.fst t3)))]))), [codO (Prod.snd t3)]))) (none))))))) (none)) (none) := by subst h_t5 h_t4 h_t3 h_t2 h_t1; kernel_rfl
set_option maxRecDepth 100000 in
theorem test_1 (ge gv gy : List AV → List AO → Bool) (ve : List AV → List AO → Int × CODES) (vv : List AV → List AO → VAL × CODES) (vy : List AV → List AO → List UInt8 × CODES) (w : St → Bool) (v : St → List VAL × CODES) (C D : CODES) {t1 : Int × CODES} (h_t1 : ve [.ref 1000000 0, .int .i64 5] [codO (Prod.snd (1, D))] = t1) {t2 : List VAL × CODES} (h_t2 : v (TS0 ([100, 101, 118, 105, 99, 101]) ([111, 115]) 3 (Prod.snd (bif argN 9 [.ref 1000000 0, .int .i64 5] then (1, D) else t1))) = t2) {t3 : VAL × CODES} (h_t3 : vv [.ref 1000000 0, .int .i64 3] [codO (Prod.snd (bif argN 9 [.ref 1000000 0, .int .i64 5] then (1, D) else t1))] = t3) {t4 : Int × CODES} (h_t4 : ve [.ref 1000000 0, .int .i64 2] [codO (Prod.snd (bif argN 9 [.ref 1000000 0, .int .i64 5] then (1, D) else t1))] = t4) {t5 : VAL × CODES} (h_t5 : vv [.ref 1000000 0, .int .i64 3] [codO (Prod.snd (bif argN 9 [.ref 1000000 0, .int .i64 2] then (1, D) else t4))] = t5) {t6 : Int × CODES} (h_t6 : ve [.ref 1000000 0, .int .i64 4] [codO (Prod.snd (bif argN 9 [.ref 1000000 0, .int .i64 5] then (1, D) else t1))] = t6) {t7 : VAL × CODES} (h_t7 : vv [.ref 1000000 0, .int .i64 3] [codO (Prod.snd (bif argN 9 [.ref 1000000 0, .int .i64 4] then (1, D) else t6))] = t7) : runF (V2.run [mkE 19 ge (fun l os => cond (argN 9 l) (1, D) (ve l os)) φX, mkE 58 gv vv φV, mkE 104 gy vy φT] 3 [] [([1, 1, 1, 1, 1, 1, 0, 1, 0, 0, 0, 0, 0, 0, 0, 1, 0, 1, 0, 1, 0, 1, 0], mkO w v (outT [100, 101, 118, 105, 99, 101] [111, 115]))] [] 47) 9 47 [.ref keyBase 0] [codO C] =
  cond (ge [.ref 1000000 0, .int .i64 (IntKind.wrap IntKind.i64 ((↑8 : Int) + 1))] [codO C]) (cond (ge [.ref 1000000 0, .int .i64 5] [codO (Prod.snd (1, D))]) (cond (Prod.fst (bif argN 9 [.ref 1000000 0, .int .i64 5] then (1, D) else t1) == 0) (some ((.agg (exC 6 ([100, 101, 118, 105, 99, 101]) ([111, 115]) (.sl .fit 0 0 fun x => [])), [codO (Prod.snd (bif argN 9 [.ref 1000000 0, .int .i64 5] then (1, D) else t1))]))) (cond (Prod.fst (bif argN 9 [.ref 1000000 0, .int .i64 5] then (1, D) else t1) == 1) (cond (w (TS0 ([100, 101, 118, 105, 99, 101]) ([111, 115]) 3 (Prod.snd (bif argN 9 [.ref 1000000 0, .int .i64 5] then (1, D) else t1)))) (some ((.agg (exC 8 [100, 101, 118, 105, 99, 101] [111, 115] (.sl .no 4 (List.length (Prod.fst t2)) (getV (Prod.fst t2)))), [codO (Prod.snd t2)]))) (none)) (cond (Prod.fst (bif argN 9 [.ref 1000000 0, .int .i64 5] then (1, D) else t1) == 2) (cond (gv [.ref 1000000 0, .int .i64 3] [codO (Prod.snd (bif argN 9 [.ref 1000000 0, .int .i64 5] then (1, D) else t1))]) (some ((.agg (exC 11 ([100, 101, 118, 105, 99, 101]) ([111, 115]) (.sl .fit 4 1 (fillGet zV [(0, .agg (VAL.c (Prod.fst t3)))]))), [codO (Prod.snd t3)]))) (none)) (cond (Prod.fst (bif argN 9 [.ref 1000000 0, .int .i64 5] then (1, D) else t1) == 3) (cond (ge [.ref 1000000 0, .int .i64 2] [codO (Prod.snd (bif argN 9 [.ref 1000000 0, .int .i64 5] then (1, D) else t1))]) (cond (gv [.ref 1000000 0, .int .i64 3] [codO (Prod.snd (bif argN 9 [.ref 1000000 0, .int .i64 2] then (1, D) else t4))]) (some ((.agg (exC (IntKind.wrap IntKind.i64 (9 + Prod.fst (bif argN 9 [.ref 1000000 0, .int .i64 2] then (1, D) else t4))) ([100, 101, 118, 105, 99, 101]) ([111, 115]) (.sl .fit 4 1 (fillGet zV [(0, .agg (VAL.c (Prod.fst t5)))]))), [codO (Prod.snd t5)]))) (none)) (none)) (cond (Prod.fst (bif argN 9 [.ref 1000000 0, .int .i64 5] then (1, D) else t1) == 4) (cond (ge [.ref 1000000 0, .int .i64 4] [codO (Prod.snd (bif argN 9 [.ref 1000000 0, .int .i64 5] then (1, D) else t1))]) (cond (gv [.ref 1000000 0, .int .i64 3] [codO (Prod.snd (bif argN 9 [.ref 1000000 0, .int .i64 4] then (1, D) else t6))]) (some ((.agg (exC (IntKind.wrap IntKind.i64 (12 + Prod.fst (bif argN 9 [.ref 1000000 0, .int .i64 4] then (1, D) else t6))) ([100, 101, 118, 105, 99, 101]) ([111, 115]) (.sl .fit 4 1 (fillGet zV [(0, .agg (VAL.c (Prod.fst t7)))]))), [codO (Prod.snd t7)]))) (none)) (none)) (cond (gv [.ref 1000000 0, .int .i64 3] [codO (Prod.snd (bif argN 9 [.ref 1000000 0, .int .i64 5] then (1, D) else t1))]) (some ((.agg (exC 7 ([100, 101, 118, 105, 99, 101]) ([111, 115]) (.sl .fit 4 1 (fillGet zV [(0, .agg (VAL.c (Prod.fst t3)))]))), [codO (Prod.snd t3)]))) (none))))))) (none)) (none) := by subst h_t7 h_t6 h_t5 h_t4 h_t3 h_t2 h_t1; kernel_rfl
set_option maxRecDepth 100000 in
theorem test_2 (ge gv gy : List AV → List AO → Bool) (ve : List AV → List AO → Int × CODES) (vv : List AV → List AO → VAL × CODES) (vy : List AV → List AO → List UInt8 × CODES) (w : St → Bool) (v : St → List VAL × CODES) (C D : CODES) {t1 : Int × CODES} (h_t1 : ve [.ref 1000000 0, .int .i64 5] [codO (Prod.snd (2, D))] = t1) {t2 : List VAL × CODES} (h_t2 : v (TS0 ([117, 115, 101, 114]) ([97, 103, 101]) 2 (Prod.snd (bif argN 9 [.ref 1000000 0, .int .i64 5] then (2, D) else t1))) = t2) {t3 : VAL × CODES} (h_t3 : vv [.ref 1000000 0, .int .i64 2] [codO (Prod.snd (bif argN 9 [.ref 1000000 0, .int .i64 5] then (2, D) else t1))] = t3) {t4 : Int × CODES} (h_t4 : ve [.ref 1000000 0, .int .i64 4] [codO (Prod.snd (bif argN 9 [.ref 1000000 0, .int .i64 5] then (2, D) else t1))] = t4) {t5 : VAL × CODES} (h_t5 : vv [.ref 1000000 0, .int .i64 2] [codO (Prod.snd (bif argN 9 [.ref 1000000 0, .int .i64 4] then (2, D) else t4))] = t5) : runF (V2.run [mkE 19 ge (fun l os => cond (argN 9 l) (2, D) (ve l os)) φX, mkE 58 gv vv φV, mkE 104 gy vy φT] 3 [] [([1, 1, 1, 1, 1, 1, 0, 1, 0, 0, 0, 0, 0, 0, 0, 1, 0, 1, 0, 1, 0, 1, 0], mkO w v (outT [117, 115, 101, 114] [97, 103, 101]))] [] 47) 9 47 [.ref keyBase 0] [codO C] =
  cond (ge [.ref 1000000 0, .int .i64 (IntKind.wrap IntKind.i64 ((↑8 : Int) + 1))] [codO C]) (cond (ge [.ref 1000000 0, .int .i64 5] [codO (Prod.snd (2, D))]) (cond (Prod.fst (bif argN 9 [.ref 1000000 0, .int .i64 5] then (2, D) else t1) == 0) (some ((.agg (exC 6 ([117, 115, 101, 114]) ([97, 103, 101]) (.sl .fit 0 0 fun x => [])), [codO (Prod.snd (bif argN 9 [.ref 1000000 0, .int .i64 5] then (2, D) else t1))]))) (cond (Prod.fst (bif argN 9 [.ref 1000000 0, .int .i64 5] then (2, D) else t1) == 1) (cond (w (TS0 ([117, 115, 101, 114]) ([97, 103, 101]) 2 (Prod.snd (bif argN 9 [.ref 1000000 0, .int .i64 5] then (2, D) else t1)))) (some ((.agg (exC 8 [117, 115, 101, 114] [97, 103, 101] (.sl .no 4 (List.length (Prod.fst t2)) (getV (Prod.fst t2)))), [codO (Prod.snd t2)]))) (none)) (cond (Prod.fst (bif argN 9 [.ref 1000000 0, .int .i64 5] then (2, D) else t1) == 2) (cond (gv [.ref 1000000 0, .int .i64 2] [codO (Prod.snd (bif argN 9 [.ref 1000000 0, .int .i64 5] then (2, D) else t1))]) (some ((.agg (exC 7 ([117, 115, 101, 114]) ([97, 103, 101]) (.sl .fit 4 1 (fillGet zV [(0, .agg (VAL.c (Prod.fst t3)))]))), [codO (Prod.snd t3)]))) (none)) (cond (Prod.fst (bif argN 9 [.ref 1000000 0, .int .i64 5] then (2, D) else t1) == 3) (cond (ge [.ref 1000000 0, .int .i64 4] [codO (Prod.snd (bif argN 9 [.ref 1000000 0, .int .i64 5] then (2, D) else t1))]) (cond (gv [.ref 1000000 0, .int .i64 2] [codO (Prod.snd (bif argN 9 [.ref 1000000 0, .int .i64 4] then (2, D) else t4))]) (some ((.agg (exC (IntKind.wrap IntKind.i64 (12 + Prod.fst (bif argN 9 [.ref 1000000 0, .int .i64 4] then (2, D) else t4))) ([117, 115, 101, 114]) ([97, 103, 101]) (.sl .fit 4 1 (fillGet zV [(0, .agg (VAL.c (Prod.fst t5)))]))), [codO (Prod.snd t5)]))) (none)) (none)) (cond (Prod.fst (bif argN 9 [.ref 1000000 0, .int .i64 5] then (2, D) else t1) == 4) (cond (ge [.ref 1000000 0, .int .i64 4] [codO (Prod.snd (bif argN 9 [.ref 1000000 0, .int .i64 5] then (2, D) else t1))]) (cond (gv [.ref 1000000 0, .int .i64 2] [codO (Prod.snd (bif argN 9 [.ref 1000000 0, .int .i64 4] then (2, D) else t4))]) (some ((.agg (exC (IntKind.wrap IntKind.i64 (12 + Prod.fst (bif argN 9 [.ref 1000000 0, .int .i64 4] then (2, D) else t4))) ([117, 115, 101, 114]) ([97, 103, 101]) (.sl .fit 4 1 (fillGet zV [(0, .agg (VAL.c (Prod.fst t5)))]))), [codO (Prod.snd t5)]))) (none)) (none)) (cond (gv [.ref 1000000 0, .int .i64 2] [codO (Prod.snd (bif argN 9 [.ref 1000000 0, .int .i64 5] then (2, D) else t1))]) (some ((.agg (exC 7 ([117, 115, 101, 114]) ([97, 103, 101]) (.sl .fit 4 1 (fillGet zV [(0, .agg (VAL.c (Prod.fst t3)))]))), [codO (Prod.snd t3)]))) (none))))))) (none)) (none) := by subst h_t5 h_t4 h_t3 h_t2 h_t1; kernel_rfl
set_option maxRecDepth 100000 in
theorem test_3 (ge gv gy : List AV → List AO → Bool) (ve : List AV → List AO → Int × CODES) (vv : List AV → List AO → VAL × CODES) (vy : List AV → List AO → List UInt8 × CODES) (w : St → Bool) (v : St → List VAL × CODES) (C D : CODES) {t1 : Int × CODES} (h_t1 : ve [.ref 1000000 0, .int .i64 5] [codO (Prod.snd (3, D))] = t1) {t2 : List VAL × CODES} (h_t2 : v (TS0 ([117, 115, 101, 114]) ([97, 112, 112]) 4 (Prod.snd (bif argN 9 [.ref 1000000 0, .int .i64 5] then (3, D) else t1))) = t2) {t3 : VAL × CODES} (h_t3 : vv [.ref 1000000 0, .int .i64 4] [codO (Prod.snd (bif argN 9 [.ref 1000000 0, .int .i64 5] then (3, D) else t1))] = t3) {t4 : Int × CODES} (h_t4 : ve [.ref 1000000 0, .int .i64 4] [codO (Prod.snd (bif argN 9 [.ref 1000000 0, .int .i64 5] then (3, D) else t1))] = t4) {t5 : VAL × CODES} (h_t5 : vv [.ref 1000000 0, .int .i64 4] [codO (Prod.snd (bif argN 9 [.ref 1000000 0, .int .i64 4] then (3, D) else t4))] = t5) : runF (V2.run [mkE 19 ge (fun l os => cond (argN 9 l) (3, D) (ve l os)) φX, mkE 58 gv vv φV, mkE 104 gy vy φT] 3 [] [([1, 1, 1, 1, 1, 1, 0, 1, 0, 0, 0, 0, 0, 0, 0, 1, 0, 1, 0, 1, 0, 1, 0], mkO w v (outT [117, 115, 101, 114] [97, 112, 112]))] [] 47) 9 47 [.ref keyBase 0] [codO C] =
  cond (ge [.ref 1000000 0, .int .i64 (IntKind.wrap IntKind.i64 ((↑8 : Int) + 1))] [codO C]) (cond (ge [.ref 1000000 0, .int .i64 5] [codO (Prod.snd (3, D))]) (cond (Prod.fst (bif argN 9 [.ref 1000000 0, .int .i64 5] then (3, D) else t1) == 0) (some ((.agg (exC 6 ([117, 115, 101, 114]) ([97, 112, 112]) (.sl .fit 0 0 fun x => [])), [codO (Prod.snd (bif argN 9 [.ref 1000000 0, .int .i64 5] then (3, D) else t1))]))) (cond (Prod.fst (bif argN 9 [.ref 1000000 0, .int .i64 5] then (3, D) else t1) == 1) (cond (w (TS0 ([117, 115, 101, 114]) ([97, 112, 112]) 4 (Prod.snd (bif argN 9 [.ref 1000000 0, .int .i64 5] then (3, D) else t1)))) (some ((.agg (exC 8 [117, 115, 101, 114] [97, 112, 112] (.sl .no 4 (List.length (Prod.fst t2)) (getV (Prod.fst t2)))), [codO (Prod.snd t2)]))) (none)) (cond (Prod.fst (bif argN 9 [.ref 1000000 0, .int .i64 5] then (3, D) else t1) == 2) (cond (gv [.ref 1000000 0, .int .i64 4] [codO (Prod.snd (bif argN 9 [.ref 1000000 0, .int .i64 5] then (3, D) else t1))]) (some ((.agg (exC 7 ([117, 115, 101, 114]) ([97, 112, 112]) (.sl .fit 4 1 (fillGet zV [(0, .agg (VAL.c (Prod.fst t3)))]))), [codO (Prod.snd t3)]))) (none)) (cond (Prod.fst (bif argN 9 [.ref 1000000 0, .int .i64 5] then (3, D) else t1) == 3) (cond (ge [.ref 1000000 0, .int .i64 4] [codO (Prod.snd (bif argN 9 [.ref 1000000 0, .int .i64 5] then (3, D) else t1))]) (cond (gv [.ref 1000000 0, .int .i64 4] [codO (Prod.snd (bif argN 9 [.ref 1000000 0, .int .i64 4] then (3, D) else t4))]) (some ((.agg (exC (IntKind.wrap IntKind.i64 (12 + Prod.fst (bif argN 9 [.ref 1000000 0, .int .i64 4] then (3, D) else t4))) ([117, 115, 101, 114]) ([97, 112, 112]) (.sl .fit 4 1 (fillGet zV [(0, .agg (VAL.c (Prod.fst t5)))]))), [codO (Prod.snd t5)]))) (none)) (none)) (cond (Prod.fst (bif argN 9 [.ref 1000000 0, .int .i64 5] then (3, D) else t1) == 4) (cond (ge [.ref 1000000 0, .int .i64 4] [codO (Prod.snd (bif argN 9 [.ref 1000000 0, .int .i64 5] then (3, D) else t1))]) (cond (gv [.ref 1000000 0, .int .i64 4] [codO (Prod.snd (bif argN 9 [.ref 1000000 0, .int .i64 4] then (3, D) else t4))]) (some ((.agg (exC (IntKind.wrap IntKind.i64 (12 + Prod.fst (bif argN 9 [.ref 1000000 0, .int .i64 4] then (3, D) else t4))) ([117, 115, 101, 114]) ([97, 112, 112]) (.sl .fit 4 1 (fillGet zV [(0, .agg (VAL.c (Prod.fst t5)))]))), [codO (Prod.snd t5)]))) (none)) (none)) (cond (gv [.ref 1000000 0, .int .i64 4] [codO (Prod.snd (bif argN 9 [.ref 1000000 0, .int .i64 5] then (3, D) else t1))]) (some ((.agg (exC 7 ([117, 115, 101, 114]) ([97, 112, 112]) (.sl .fit 4 1 (fillGet zV [(0, .agg (VAL.c (Prod.fst t3)))]))), [codO (Prod.snd t3)]))) (none))))))) (none)) (none) := by subst h_t5 h_t4 h_t3 h_t2 h_t1; kernel_rfl
set_option maxRecDepth 100000 in
theorem test_4 (ge gv gy : List AV → List AO → Bool) (ve : List AV → List AO → Int × CODES) (vv : List AV → List AO → VAL × CODES) (vy : List AV → List AO → List UInt8 × CODES) (w : St → Bool) (v : St → List VAL × CODES) (C D : CODES) {t1 : Int × CODES} (h_t1 : ve [.ref 1000000 0, .int .i64 5] [codO (Prod.snd (4, D))] = t1) {t2 : List VAL × CODES} (h_t2 : v (TS0 ([117, 115, 101, 114]) ([98, 101, 116, 97]) 1 (Prod.snd (bif argN 9 [.ref 1000000 0, .int .i64 5] then (4, D) else t1))) = t2) {t3 : VAL × CODES} (h_t3 : vv [.ref 1000000 0, .int .i64 1] [codO (Prod.snd (bif argN 9 [.ref 1000000 0, .int .i64 5] then (4, D) else t1))] = t3) : runF (V2.run [mkE 19 ge (fun l os => cond (argN 9 l) (4, D) (ve l os)) φX, mkE 58 gv vv φV, mkE 104 gy vy φT] 3 [] [([1, 1, 1, 1, 1, 1, 0, 1, 0, 0, 0, 0, 0, 0, 0, 1, 0, 1, 0, 1, 0, 1, 0], mkO w v (outT [117, 115, 101, 114] [98, 101, 116, 97]))] [] 47) 9 47 [.ref keyBase 0] [codO C] =
  cond (ge [.ref 1000000 0, .int .i64 (IntKind.wrap IntKind.i64 ((↑8 : Int) + 1))] [codO C]) (cond (ge [.ref 1000000 0, .int .i64 5] [codO (Prod.snd (4, D))]) (cond (Prod.fst (bif argN 9 [.ref 1000000 0, .int .i64 5] then (4, D) else t1) == 0) (some ((.agg (exC 6 ([117, 115, 101, 114]) ([98, 101, 116, 97]) (.sl .fit 0 0 fun x => [])), [codO (Prod.snd (bif argN 9 [.ref 1000000 0, .int .i64 5] then (4, D) else t1))]))) (cond (Prod.fst (bif argN 9 [.ref 1000000 0, .int .i64 5] then (4, D) else t1) == 1) (cond (w (TS0 ([117, 115, 101, 114]) ([98, 101, 116, 97]) 1 (Prod.snd (bif argN 9 [.ref 1000000 0, .int .i64 5] then (4, D) else t1)))) (some ((.agg (exC 8 [117, 115, 101, 114] [98, 101, 116, 97] (.sl .no 4 (List.length (Prod.fst t2)) (getV (Prod.fst t2)))), [codO (Prod.snd t2)]))) (none)) (cond (Prod.fst (bif argN 9 [.ref 1000000 0, .int .i64 5] then (4, D) else t1) == 2) (cond (gv [.ref 1000000 0, .int .i64 1] [codO (Prod.snd (bif argN 9 [.ref 1000000 0, .int .i64 5] then (4, D) else t1))]) (some ((.agg (exC 7 ([117, 115, 101, 114]) ([98, 101, 116, 97]) (.sl .fit 4 1 (fillGet zV [(0, .agg (VAL.c (Prod.fst t3)))]))), [codO (Prod.snd t3)]))) (none)) (cond (Prod.fst (bif argN 9 [.ref 1000000 0, .int .i64 5] then (4, D) else t1) == 3) (cond (gv [.ref 1000000 0, .int .i64 1] [codO (Prod.snd (bif argN 9 [.ref 1000000 0, .int .i64 5] then (4, D) else t1))]) (some ((.agg (exC 7 ([117, 115, 101, 114]) ([98, 101, 116, 97]) (.sl .fit 4 1 (fillGet zV [(0, .agg (VAL.c (Prod.fst t3)))]))), [codO (Prod.snd t3)]))) (none)) (cond (Prod.fst (bif argN 9 [.ref 1000000 0, .int .i64 5] then (4, D) else t1) == 4) (cond (gv [.ref 1000000 0, .int .i64 1] [codO (Prod.snd (bif argN 9 [.ref 1000000 0, .int .i64 5] then (4, D) else t1))]) (some ((.agg (exC 7 ([117, 115, 101, 114]) ([98, 101, 116, 97]) (.sl .fit 4 1 (fillGet zV [(0, .agg (VAL.c (Prod.fst t3)))]))), [codO (Prod.snd t3)]))) (none)) (cond (gv [.ref 1000000 0, .int .i64 1] [codO (Prod.snd (bif argN 9 [.ref 1000000 0, .int .i64 5] then (4, D) else t1))]) (some ((.agg (exC 7 ([117, 115, 101, 114]) ([98, 101, 116, 97]) (.sl .fit 4 1 (fillGet zV [(0, .agg (VAL.c (Prod.fst t3)))]))), [codO (Prod.snd t3)]))) (none))))))) (none)) (none) := by subst h_t3 h_t2 h_t1; kernel_rfl
set_option maxRecDepth 100000 in
theorem test_5 (ge gv gy : List AV → List AO → Bool) (ve : List AV → List AO → Int × CODES) (vv : List AV → List AO → VAL × CODES) (vy : List AV → List AO → List UInt8 × CODES) (w : St → Bool) (v : St → List VAL × CODES) (C D : CODES) {t1 : Int × CODES} (h_t1 : ve [.ref 1000000 0, .int .i64 5] [codO (Prod.snd (5, D))] = t1) {t2 : List VAL × CODES} (h_t2 : v (TS0 ([117, 115, 101, 114]) ([99, 111, 117, 110, 116, 114, 121]) 3 (Prod.snd (bif argN 9 [.ref 1000000 0, .int .i64 5] then (5, D) else t1))) = t2) {t3 : VAL × CODES} (h_t3 : vv [.ref 1000000 0, .int .i64 3] [codO (Prod.snd (bif argN 9 [.ref 1000000 0, .int .i64 5] then (5, D) else t1))] = t3) {t4 : Int × CODES} (h_t4 : ve [.ref 1000000 0, .int .i64 2] [codO (Prod.snd (bif argN 9 [.ref 1000000 0, .int .i64 5] then (5, D) else t1))] = t4) {t5 : VAL × CODES} (h_t5 : vv [.ref 1000000 0, .int .i64 3] [codO (Prod.snd (bif argN 9 [.ref 1000000 0, .int .i64 2] then (5, D) else t4))] = t5) {t6 : Int × CODES} (h_t6 : ve [.ref 1000000 0, .int .i64 4] [codO (Prod.snd (bif argN 9 [.ref 1000000 0, .int .i64 5] then (5, D) else t1))] = t6) {t7 : VAL × CODES} (h_t7 : vv [.ref 1000000 0, .int .i64 3] [codO (Prod.snd (bif argN 9 [.ref 1000000 0, .int .i64 4] then (5, D) else t6))] = t7) : runF (V2.run [mkE 19 ge (fun l os => cond (argN 9 l) (5, D) (ve l os)) φX, mkE 58 gv vv φV, mkE 104 gy vy φT] 3 [] [([1, 1, 1, 1, 1, 1, 0, 1, 0, 0, 0, 0, 0, 0, 0, 1, 0, 1, 0, 1, 0, 1, 0], mkO w v (outT [117, 115, 101, 114] [99, 111, 117, 110, 116, 114, 121]))] [] 47) 9 47 [.ref keyBase 0] [codO C] =
  cond (ge [.ref 1000000 0, .int .i64 (IntKind.wrap IntKind.i64 ((↑8 : Int) + 1))] [codO C]) (cond (ge [.ref 1000000 0, .int .i64 5] [codO (Prod.snd (5, D))]) (cond (Prod.fst (bif argN 9 [.ref 1000000 0, .int .i64 5] then (5, D) else t1) == 0) (some ((.agg (exC 6 ([117, 115, 101, 114]) ([99, 111, 117, 110, 116, 114, 121]) (.sl .fit 0 0 fun x => [])), [codO (Prod.snd (bif argN 9 [.ref 1000000 0, .int .i64 5] then (5, D) else t1))]))) (cond (Prod.fst (bif argN 9 [.ref 1000000 0, .int .i64 5] then (5, D) else t1) == 1) (cond (w (TS0 ([117, 115, 101, 114]) ([99, 111, 117, 110, 116, 114, 121]) 3 (Prod.snd (bif argN 9 [.ref 1000000 0, .int .i64 5] then (5, D) else t1)))) (some ((.agg (exC 8 [117, 115, 101, 114] [99, 111, 117, 110, 116, 114, 121] (.sl .no 4 (List.length (Prod.fst t2)) (getV (Prod.fst t2)))), [codO (Prod.snd t2)]))) (none)) (cond (Prod.fst (bif argN 9 [.ref 1000000 0, .int .i64 5] then (5, D) else t1) == 2) (cond (gv [.ref 1000000 0, .int .i64 3] [codO (Prod.snd (bif argN 9 [.ref 1000000 0, .int .i64 5] then (5, D) else t1))]) (some ((.agg (exC 11 ([117, 115, 101, 114]) ([99, 111, 117, 110, 116, 114, 121]) (.sl .fit 4 1 (fillGet zV [(0, .agg (VAL.c (Prod.fst t3)))]))), [codO (Prod.snd t3)]))) (none)) (cond (Prod.fst (bif argN 9 [.ref 1000000 0, .int .i64 5] then (5, D) else t1) == 3) (cond (ge [.ref 1000000 0, .int .i64 2] [codO (Prod.snd (bif argN 9 [.ref 1000000 0, .int .i64 5] then (5, D) else t1))]) (cond (gv [.ref 1000000 0, .int .i64 3] [codO (Prod.snd (bif argN 9 [.ref 1000000 0, .int .i64 2] then (5, D) else t4))]) (some ((.agg (exC (IntKind.wrap IntKind.i64 (9 + Prod.fst (bif argN 9 [.ref 1000000 0, .int .i64 2] then (5, D) else t4))) ([117, 115, 101, 114]) ([99, 111, 117, 110, 116, 114, 121]) (.sl .fit 4 1 (fillGet zV [(0, .agg (VAL.c (Prod.fst t5)))]))), [codO (Prod.snd t5)]))) (none)) (none)) (cond (Prod.fst (bif argN 9 [.ref 1000000 0, .int .i64 5] then (5, D) else t1) == 4) (cond (ge [.ref 1000000 0, .int .i64 4] [codO (Prod.snd (bif argN 9 [.ref 1000000 0, .int .i64 5] then (5, D) else t1))]) (cond (gv [.ref 1000000 0, .int .i64 3] [codO (Prod.snd (bif argN 9 [.ref 1000000 0, .int .i64 4] then (5, D) else t6))]) (some ((.agg (exC (IntKind.wrap IntKind.i64 (12 + Prod.fst (bif argN 9 [.ref 1000000 0, .int .i64 4] then (5, D) else t6))) ([117, 115, 101, 114]) ([99, 111, 117, 110, 116, 114, 121]) (.sl .fit 4 1 (fillGet zV [(0, .agg (VAL.c (Prod.fst t7)))]))), [codO (Prod.snd t7)]))) (none)) (none)) (cond (gv [.ref 1000000 0, .int .i64 3] [codO (Prod.snd (bif argN 9 [.ref 1000000 0, .int .i64 5] then (5, D) else t1))]) (some ((.agg (exC 7 ([117, 115, 101, 114]) ([99, 111, 117, 110, 116, 114, 121]) (.sl .fit 4 1 (fillGet zV [(0, .agg (VAL.c (Prod.fst t3)))]))), [codO (Prod.snd t3)]))) (none))))))) (none)) (none) := by subst h_t7 h_t6 h_t5 h_t4 h_t3 h_t2 h_t1; kernel_rfl
set_option maxRecDepth 100000 in
theorem test_6 (ge gv gy : List AV → List AO → Bool) (ve : List AV → List AO → Int × CODES) (vv : List AV → List AO → VAL × CODES) (vy : List AV → List AO → List UInt8 × CODES) (w : St → Bool) (v : St → List VAL × CODES) (C D : CODES) {t1 : Int × CODES} (h_t1 : ve [.ref 1000000 0, .int .i64 5] [codO (Prod.snd (6, D))] = t1) {t2 : List VAL × CODES} (h_t2 : v (TS0 ([117, 115, 101, 114]) ([112, 108, 97, 110]) 3 (Prod.snd (bif argN 9 [.ref 1000000 0, .int .i64 5] then (6, D) else t1))) = t2) {t3 : VAL × CODES} (h_t3 : vv [.ref 1000000 0, .int .i64 3] [codO (Prod.snd (bif argN 9 [.ref 1000000 0, .int .i64 5] then (6, D) else t1))] = t3) {t4 : Int × CODES} (h_t4 : ve [.ref 1000000 0, .int .i64 2] [codO (Prod.snd (bif argN 9 [.ref 1000000 0, .int .i64 5] then (6, D) else t1))] = t4) {t5 : VAL × CODES} (h_t5 : vv [.ref 1000000 0, .int .i64 3] [codO (Prod.snd (bif argN 9 [.ref 1000000 0, .int .i64 2] then (6, D) else t4))] = t5) {t6 : Int × CODES} (h_t6 : ve [.ref 1000000 0, .int .i64 4] [codO (Prod.snd (bif argN 9 [.ref 1000000 0, .int .i64 5] then (6, D) else t1))] = t6) {t7 : VAL × CODES} (h_t7 : vv [.ref 1000000 0, .int .i64 3] [codO (Prod.snd (bif argN 9 [.ref 1000000 0, .int .i64 4] then (6, D) else t6))] = t7) : runF (V2.run [mkE 19 ge (fun l os => cond (argN 9 l) (6, D) (ve l os)) φX, mkE 58 gv vv φV, mkE 104 gy vy φT] 3 [] [([1, 1, 1, 1, 1, 1, 0, 1, 0, 0, 0, 0, 0, 0, 0, 1, 0, 1, 0, 1, 0, 1, 0], mkO w v (outT [117, 115, 101, 114] [112, 108, 97, 110]))] [] 47) 9 47 [.ref keyBase 0] [codO C] =
  cond (ge [.ref 1000000 0, .int .i64 (IntKind.wrap IntKind.i64 ((↑8 : Int) + 1))] [codO C]) (cond (ge [.ref 1000000 0, .int .i64 5] [codO (Prod.snd (6, D))]) (cond (Prod.fst (bif argN 9 [.ref 1000000 0, .int .i64 5] then (6, D) else t1) == 0) (some ((.agg (exC 6 ([117, 115, 101, 114]) ([112, 108, 97, 110]) (.sl .fit 0 0 fun x => [])), [codO (Prod.snd (bif argN 9 [.ref 1000000 0, .int .i64 5] then (6, D) else t1))]))) (cond (Prod.fst (bif argN 9 [.ref 1000000 0, .int .i64 5] then (6, D) else t1) == 1) (cond (w (TS0 ([117, 115, 101, 114]) ([112, 108, 97, 110]) 3 (Prod.snd (bif argN 9 [.ref 1000000 0, .int .i64 5] then (6, D) else t1)))) (some ((.agg (exC 8 [117, 115, 101, 114] [112, 108, 97, 110] (.sl .no 4 (List.length (Prod.fst t2)) (getV (Prod.fst t2)))), [codO (Prod.snd t2)]))) (none)) (cond (Prod.fst (bif argN 9 [.ref 1000000 0, .int .i64 5] then (6, D) else t1) == 2) (cond (gv [.ref 1000000 0, .int .i64 3] [codO (Prod.snd (bif argN 9 [.ref 1000000 0, .int .i64 5] then (6, D) else t1))]) (some ((.agg (exC 11 ([117, 115, 101, 114]) ([112, 108, 97, 110]) (.sl .fit 4 1 (fillGet zV [(0, .agg (VAL.c (Prod.fst t3)))]))), [codO (Prod.snd t3)]))) (none)) (cond (Prod.fst (bif argN 9 [.ref 1000000 0, .int .i64 5] then (6, D) else t1) == 3) (cond (ge [.ref 1000000 0, .int .i64 2] [codO (Prod.snd (bif argN 9 [.ref 1000000 0, .int .i64 5] then (6, D) else t1))]) (cond (gv [.ref 1000000 0, .int .i64 3] [codO (Prod.snd (bif argN 9 [.ref 1000000 0, .int .i64 2] then (6, D) else t4))]) (some ((.agg (exC (IntKind.wrap IntKind.i64 (9 + Prod.fst (bif argN 9 [.ref 1000000 0, .int .i64 2] then (6, D) else t4))) ([117, 115, 101, 114]) ([112, 108, 97, 110]) (.sl .fit 4 1 (fillGet zV [(0, .agg (VAL.c (Prod.fst t5)))]))), [codO (Prod.snd t5)]))) (none)) (none)) (cond (Prod.fst (bif argN 9 [.ref 1000000 0, .int .i64 5] then (6, D) else t1) == 4) (cond (ge [.ref 1000000 0, .int .i64 4] [codO (Prod.snd (bif argN 9 [.ref 1000000 0, .int .i64 5] then (6, D) else t1))]) (cond (gv [.ref 1000000 0, .int .i64 3] [codO (Prod.snd (bif argN 9 [.ref 1000000 0, .int .i64 4] then (6, D) else t6))]) (some ((.agg (exC (IntKind.wrap IntKind.i64 (12 + Prod.fst (bif argN 9 [.ref 1000000 0, .int .i64 4] then (6, D) else t6))) ([117, 115, 101, 114]) ([112, 108, 97, 110]) (.sl .fit 4 1 (fillGet zV [(0, .agg (VAL.c (Prod.fst t7)))]))), [codO (Prod.snd t7)]))) (none)) (none)) (cond (gv [.ref 1000000 0, .int .i64 3] [codO (Prod.snd (bif argN 9 [.ref 1000000 0, .int .i64 5] then (6, D) else t1))]) (some ((.agg (exC 7 ([117, 115, 101, 114]) ([112, 108, 97, 110]) (.sl .fit 4 1 (fillGet zV [(0, .agg (VAL.c (Prod.fst t3)))]))), [codO (Prod.snd t3)]))) (none))))))) (none)) (none) := by subst h_t7 h_t6 h_t5 h_t4 h_t3 h_t2 h_t1; kernel_rfl
set_option maxRecDepth 100000 in
theorem test_7 (ge gv gy : List AV → List AO → Bool) (ve : List AV → List AO → Int × CODES) (vv : List AV → List AO → VAL × CODES) (vy : List AV → List AO → List UInt8 × CODES) (w : St → Bool) (v : St → List VAL × CODES) (C D : CODES) {t1 : Int × CODES} (h_t1 : ve [.ref 1000000 0, .int .i64 5] [codO (Prod.snd (7, D))] = t1) {t2 : VAL × CODES} (h_t2 : vv [.ref 1000000 0, .int .i64 5] [codO (Prod.snd (bif argN 9 [.ref 1000000 0, .int .i64 5] then (7, D) else t1))] = t2) {t3 : VAL × CODES} (h_t3 : vv [.ref 1000000 0, .int .i64 3] [codO (Prod.snd (bif argN 9 [.ref 1000000 0, .int .i64 5] then (7, D) else t1))] = t3) : runF (V2.run [mkE 19 ge (fun l os => cond (argN 9 l) (7, D) (ve l os)) φX, mkE 58 gv vv φV, mkE 104 gy vy φT] 3 [] [([1, 1, 1, 1, 1, 1, 0, 1, 0, 0, 0, 0, 0, 0, 0, 1, 0, 1, 0, 1, 0, 1, 0], mkO w v (outT [117, 115, 101, 114] [116, 97, 103, 115]))] [] 47) 9 47 [.ref keyBase 0] [codO C] =
  cond (ge [.ref 1000000 0, .int .i64 (IntKind.wrap IntKind.i64 ((↑8 : Int) + 1))] [codO C]) (cond (ge [.ref 1000000 0, .int .i64 5] [codO (Prod.snd (7, D))]) (cond (Prod.fst (bif argN 9 [.ref 1000000 0, .int .i64 5] then (7, D) else t1) == 0) (some ((.agg (exC 6 ([117, 115, 101, 114]) ([116, 97, 103, 115]) (.sl .fit 0 0 fun x => [])), [codO (Prod.snd (bif argN 9 [.ref 1000000 0, .int .i64 5] then (7, D) else t1))]))) (cond (Prod.fst (bif argN 9 [.ref 1000000 0, .int .i64 5] then (7, D) else t1) == 1) (cond (gv [.ref 1000000 0, .int .i64 5] [codO (Prod.snd (bif argN 9 [.ref 1000000 0, .int .i64 5] then (7, D) else t1))]) (some ((.agg (exC 7 ([117, 115, 101, 114]) ([116, 97, 103, 115]) (.sl .fit 4 1 (fillGet zV [(0, .agg (VAL.c (Prod.fst t2)))]))), [codO (Prod.snd t2)]))) (none)) (cond (Prod.fst (bif argN 9 [.ref 1000000 0, .int .i64 5] then (7, D) else t1) == 2) (cond (gv [.ref 1000000 0, .int .i64 3] [codO (Prod.snd (bif argN 9 [.ref 1000000 0, .int .i64 5] then (7, D) else t1))]) (some ((.agg (exC 11 ([117, 115, 101, 114]) ([116, 97, 103, 115]) (.sl .fit 4 1 (fillGet zV [(0, .agg (VAL.c (Prod.fst t3)))]))), [codO (Prod.snd t3)]))) (none)) (cond (Prod.fst (bif argN 9 [.ref 1000000 0, .int .i64 5] then (7, D) else t1) == 3) (cond (gv [.ref 1000000 0, .int .i64 5] [codO (Prod.snd (bif argN 9 [.ref 1000000 0, .int .i64 5] then (7, D) else t1))]) (some ((.agg (exC 7 ([117, 115, 101, 114]) ([116, 97, 103, 115]) (.sl .fit 4 1 (fillGet zV [(0, .agg (VAL.c (Prod.fst t2)))]))), [codO (Prod.snd t2)]))) (none)) (cond (Prod.fst (bif argN 9 [.ref 1000000 0, .int .i64 5] then (7, D) else t1) == 4) (cond (gv [.ref 1000000 0, .int .i64 5] [codO (Prod.snd (bif argN 9 [.ref 1000000 0, .int .i64 5] then (7, D) else t1))]) (some ((.agg (exC 7 ([117, 115, 101, 114]) ([116, 97, 103, 115]) (.sl .fit 4 1 (fillGet zV [(0, .agg (VAL.c (Prod.fst t2)))]))), [codO (Prod.snd t2)]))) (none)) (cond (gv [.ref 1000000 0, .int .i64 5] [codO (Prod.snd (bif argN 9 [.ref 1000000 0, .int .i64 5] then (7, D) else t1))]) (some ((.agg (exC 7 ([117, 115, 101, 114]) ([116, 97, 103, 115]) (.sl .fit 4 1 (fillGet zV [(0, .agg (VAL.c (Prod.fst t2)))]))), [codO (Prod.snd t2)]))) (none))))))) (none)) (none) := by subst h_t3 h_t2 h_t1; kernel_rfl
set_option maxRecDepth 100000 in
theorem test_8 (ge gv gy : List AV → List AO → Bool) (ve : List AV → List AO → Int × CODES) (vv : List AV → List AO → VAL × CODES) (vy : List AV → List AO → List UInt8 × CODES) (w : St → Bool) (v : St → List VAL × CODES) (C D : CODES) {t1 : List UInt8 × CODES} (h_t1 : vy [.ref 1000000 0] [codO (Prod.snd (8, D))] = t1) : runF (V2.run [mkE 19 ge (fun l os => cond (argN 9 l) (8, D) (ve l os)) φX, mkE 58 gv vv φV, mkE 104 gy vy φT] 3 [] [([1, 1, 1, 1, 1, 1, 0, 1, 0, 0, 0, 0, 0, 0, 0, 1, 0, 1, 0, 1, 0, 1, 0], mkO w v (outT [] []))] [] 47) 9 47 [.ref keyBase 0] [codO C] =
  cond (ge [.ref 1000000 0, .int .i64 (IntKind.wrap IntKind.i64 ((↑8 : Int) + 1))] [codO C]) (cond (gy [.ref 1000000 0] [codO (Prod.snd (8, D))]) (some ((.agg (exC 7 ([117, 115, 101, 114]) ([107, 101, 121]) (.sl .fit 4 1 (fillGet zV [(0, .agg [.int .i64 3, .int .i64 0, .str (Prod.fst t1), .sl .fit 0 0 fun x => [] ])]))), [codO (Prod.snd t1)]))) (none)) (none) := by subst h_t1; kernel_rfl
end Go.SH

namespace Go.SH
open Go Go.Ab Go.Proofs
set_option linter.unusedVariables false
set_option linter.unusedSimpArgs false
mutual
def EXP.size : EXP → Nat
  | .mk _ _ _ _ ks => 1 + sizeL ks
def sizeL : List EXP → Nat
  | [] => 0
  | e :: r => e.size + sizeL r
end
theorem EXP.size_eq (e : EXP) : e.size = 1 + sizeL e.kids := by cases e with | mk _ _ _ _ ks => rw [EXP.size]; rfl
inductive VE : Nat → EXP → Prop
  | mk (l : Nat) (e : EXP) : partE e.part = 0 → (∀ k ∈ e.kids, VE l k) → VE (l + 1) e
theorem VE.up {l : Nat} {e : EXP} (h : VE l e) : VE (l + 1) e := by
  induction h with
  | mk l e h1 h2 ih => exact .mk _ _ h1 ih
theorem VE.le {l m : Nat} {e : EXP} (h : VE l e) (hm : l ≤ m) : VE m e := by
  obtain ⟨d, rfl⟩ : ∃ d, m = l + d := ⟨m - l, by omega⟩
  clear hm
  induction d with
  | zero => exact h
  | succ d ih => exact ih.up
theorem walkL_good (d : Nat) : ∀ (ks : List EXP), (∀ k ∈ ks, ∀ n ≤ 60, (n + k.size ≤ 60 → walkE k d n = (0, n + k.size)) ∧ (60 < n + k.size → (walkE k d n).1 = 5)) →
    ∀ n ≤ 60, (n + sizeL ks ≤ 60 → walkL ks d n = (0, n + sizeL ks)) ∧ (60 < n + sizeL ks → (walkL ks d n).1 = 5)
  | [], _, n, hn => ⟨fun _ => by simp [walkL, sizeL], fun h => by simp [sizeL] at h; omega⟩
  | k :: r, h, n, hn => by
    obtain ⟨h1, h2⟩ := h k (by simp) n hn
    have ih := walkL_good d r fun q hq => h q (List.mem_cons_of_mem _ hq)
    by_cases hk : n + k.size ≤ 60
    · have e1 := h1 hk
      obtain ⟨i1, i2⟩ := ih (n + k.size) hk
      have e2 : walkL (k :: r) d n = walkL r d (n + k.size) := by rw [walkL, e1]; rfl
      rw [e2, sizeL]
      refine ⟨fun h => ?_, fun h => i2 (by omega)⟩
      rw [i1 (by omega)]; congr 1; omega
    · have e1 := h2 (by omega)
      refine ⟨fun h => by rw [sizeL] at h; omega, fun _ => ?_⟩
      rw [walkL]
      have : ((walkE k d n).1 != 0) = true := by rw [e1]; rfl
      rw [this]; exact e1
theorem walk_good {l : Nat} {e : EXP} (h : VE l e) : ∀ d n, d + l ≤ 10 → n ≤ 60 → (n + e.size ≤ 60 → walkE e d n = (0, n + e.size)) ∧ (60 < n + e.size → (walkE e d n).1 = 5) := by
  induction h with
  | mk l e h1 h2 ih =>
    intro d n hd hn
    rw [walkE_eq, e.size_eq]
    by_cases h60 : n ≥ 60
    · rw [decide_eq_true h60]
      exact ⟨fun h => by omega, fun _ => rfl⟩
    · have hl : levelE e d = 0 := by unfold levelE; rw [decide_eq_false (by omega)]; exact h1
      rw [decide_eq_false h60, hl]
      have := walkL_good (d + 1) e.kids (fun k hk m hm => ih k hk (d + 1) m (by omega) hm) (n + 1) (by omega)
      refine ⟨fun h => ?_, fun h => ?_⟩
      · show walkL e.kids (d + 1) (n + 1) = _
        rw [this.1 (by omega)]; congr 1; omega
      · exact this.2 (by omega)
theorem expr_good {l : Nat} {e : EXP} (h : VE l e) (hl : l ≤ 10) : (exprE e == 0) = decide (e.size ≤ 60) := by
  obtain ⟨h1, h2⟩ := walk_good h 0 0 (by omega) (by omega)
  unfold exprE
  by_cases hs : e.size ≤ 60
  · rw [h1 (by omega), decide_eq_true hs]; rfl
  · rw [h2 (by omega), decide_eq_false hs]; rfl
mutual
def countE : EXP → Nat → Nat
  | .mk _ _ _ _ ks, n => countL ks (n + 1)
def countL : List EXP → Nat → Nat
  | [], n => n
  | e :: r, n => bif decide (n > 60) then n else countL r (countE e n)
end
mutual
theorem count_min : ∀ (e : EXP) (n : Nat), n ≤ 60 → countE e n = min (n + e.size) 61
  | .mk o k nm v ks, n, h => by
    rw [countE, EXP.size, countL_min ks (n + 1) (by omega)]; congr 1; omega
theorem countL_min : ∀ (ks : List EXP) (n : Nat), n ≤ 61 → countL ks n = min (n + sizeL ks) 61
  | [], n, h => by rw [countL, sizeL]; omega
  | e :: r, n, h => by
    rw [countL, sizeL]
    by_cases hn : n > 60
    · rw [decide_eq_true hn]; show n = _; omega
    · rw [decide_eq_false hn, cond_false, count_min e n (by omega), countL_min r _ (by omega)]; omega
end
mutual
def rpartsE : EXP → Nat
  | .mk _ _ _ _ ks => min (rsumL ks 1) 61
def rsumL : List EXP → Nat → Nat
  | [], n => n
  | e :: r, n => bif decide (n ≤ 60) then rsumL r (n + rpartsE e) else n
end
mutual
theorem rparts_min : ∀ (e : EXP), rpartsE e = min e.size 61
  | .mk o k nm v ks => by rw [rpartsE, EXP.size, rsum_min ks 1]
theorem rsum_min : ∀ (ks : List EXP) (n : Nat), min (rsumL ks n) 61 = min (n + sizeL ks) 61
  | [], n => by rw [rsumL, sizeL]; omega
  | e :: r, n => by
    rw [rsumL, sizeL]
    by_cases hn : n ≤ 60
    · rw [decide_eq_true hn, cond_true, rsum_min r, rparts_min e]; omega
    · rw [decide_eq_false hn, cond_false]; omega
end
theorem scan_none {n : Nat} {stop : Nat → Option Unit} (h : ∀ i, i < n → stop i = none) : ∀ d i, (scan n (· + 1) stop d i).1 = false
  | 0, _ => rfl
  | d + 1, i => by
    simp only [scan]
    by_cases hi : i < n
    · rw [if_pos hi, h i hi]; exact scan_none h d (i + 1)
    · rw [if_neg hi]
theorem kidSeek_none {p : PART} {b : Bool} (h : ∀ i, i < p.n → (bif p.ko i == p.op then b else false) = false) : (kidSeek p b).1 = false := by
  unfold kidSeek seek scanAt
  exact scan_none (fun i hi => by show (bif (bif p.ko i == p.op then b else false) then some () else none) = none; rw [h i hi]; rfl) _ _
theorem vals_none {l : List VAL} (h : ∀ v ∈ l, checkE v = 0) : (valsSeek l).1 = false := by
  unfold valsSeek scanAt
  have : ∀ d i, (scan l.length (· + 1) (valsStop l) d i).1 = false := by
    intro d
    induction d with
    | zero => intro i; rfl
    | succ d ih =>
      intro i
      simp only [scan]
      by_cases hi : i < l.length
      · rw [if_pos hi]
        have hv : checkE (l.getD i default) = 0 := by
          rw [List.getD_eq_getElem?_getD, List.getElem?_eq_getElem hi]; exact h _ (List.getElem_mem hi)
        unfold valsStop
        rw [hv]; exact ih (i + 1)
      · rw [if_neg hi]
  exact this _ _
def notX (e : EXP) : EXP := .mk 4 [] [] [] [e]
theorem part_not (e : EXP) : partE (notX e).part = 0 := by
  have h1 : (kidSeek (notX e).part (isPair (notX e).part.op)).1 = false := kidSeek_none fun i _ => by
    show (bif _ == (4 : Int) then isPair 4 else false) = false
    cases ((notX e).part.ko i == (4 : Int)) <;> rfl
  have h2 : (valsSeek (notX e).part.vals).1 = false := vals_none (by intro v hv; cases hv)
  unfold partE
  rw [h1, h2]; rfl
theorem VE.not {l : Nat} {e : EXP} (h : VE l e) : VE (l + 1) (notX e) := .mk _ _ (part_not e) fun k hk => by
  have : k ∈ [e] := hk
  simp at this; subst this; exact h
def pairX (op : Int) (ks : List EXP) : EXP := .mk op [] [] [] ks
theorem kidSeek_op {op : Int} {ks : List EXP} (h : ∀ k ∈ ks, k.op ≠ op) (b : Bool) : (kidSeek (pairX op ks).part b).1 = false := kidSeek_none fun i hi => by
  have hi : i < ks.length := hi
  have : ((ks.getD i default).op == op) = false := by
    rw [List.getD_eq_getElem?_getD, List.getElem?_eq_getElem hi]
    exact beq_eq_false_iff_ne.2 (h _ (List.getElem_mem hi))
  show (bif (ks.getD i default).op == op then b else false) = false
  rw [this]; rfl
theorem part_pair {op : Int} {ks : List EXP} (hop : op = 2 ∨ op = 3) (h2 : 2 ≤ ks.length) (h12 : ks.length ≤ 12) (h : ∀ k ∈ ks, k.op ≠ op) : partE (pairX op ks).part = 0 := by
  have h1 : (kidSeek (pairX op ks).part (isPair (pairX op ks).part.op)).1 = false := kidSeek_op h _
  have h3 : (valsSeek (pairX op ks).part.vals).1 = false := vals_none (by intro v hv; cases hv)
  have e1 : (pairX op ks).part.n = ks.length := rfl
  have e2 : (pairX op ks).part.op = op := rfl
  have e3 : (pairX op ks).part.vals = [] := rfl
  have e4 : (pairX op ks).part.kind = [] := rfl
  have e5 : (pairX op ks).part.name = [] := rfl
  unfold partE countB
  rw [h1, h3, e1, e2, e3, e4, e5, decide_eq_true (show ks.length ≥ 2 from h2), decide_eq_false (show ¬ ks.length > 12 by omega)]
  rcases hop with rfl | rfl <;> rfl
theorem VE.pair {l : Nat} {op : Int} {ks : List EXP} (hop : op = 2 ∨ op = 3) (h2 : 2 ≤ ks.length) (h12 : ks.length ≤ 12) (h : ∀ k ∈ ks, k.op ≠ op) (hk : ∀ k ∈ ks, VE l k) : VE (l + 1) (pairX op ks) := .mk _ _ (part_pair hop h2 h12 h) hk
def notN : Nat → EXP → EXP
  | 0, e => e
  | k + 1, e => notX (notN k e)
end Go.SH

namespace Go.SH
open Go Go.Ab Go.Proofs
set_option linter.unusedVariables false
set_option linter.unusedSimpArgs false
theorem agg_map {c : Cx} {us us' : List AV} {v : Value} (hl : us'.length = us.length) (hm : ∀ (i : Nat) (u u' : AV), us[i]? = some u → us'[i]? = some u' → u'.one = true ∧ ∀ x, Rep c u x → Rep c u' x) (h : Rep c (.agg us) v) : Rep c (.agg us') v := by
  cases h with
  | agg _ vs h1 h2 h3 =>
    have hg : ∀ (i : Nat) (u' : AV), us'[i]? = some u' → ∃ u, us[i]? = some u := fun i u' hu => by
      have := (List.getElem?_eq_some_iff.1 hu).1
      exact ⟨us[i]'(by omega), List.getElem?_eq_getElem (by omega)⟩
    refine .agg _ vs (by rw [hl]; exact h1) (fun i u' hu => ?_) (fun i u' hu => ?_)
    · obtain ⟨u, h⟩ := hg i u' hu
      exact (hm i u u' h hu).1
    · obtain ⟨u, h⟩ := hg i u' hu
      exact (hm i u u' h hu).2 _ (h3 i u h)
theorem sl_map {c : Cx} {o : Own} {sz n : Nat} {get get' : Nat → List AV} (hl : ∀ j, j < n → (get' j).length = sz ∧ keysL (get' j) = []) (hm : ∀ (j i : Nat) (u u' : AV), j < n → (get j)[i]? = some u → (get' j)[i]? = some u' → u'.one = true ∧ ∀ x, Rep c u x → Rep c u' x) (x : Value) (h : Rep c (.sl o sz n get) x) : Rep c (.sl .no sz n get') x := by
  cases h with
  | slNil _ _ _ ho => exact .slNil _ _ _ trivial
  | sl _ _ _ _ ad cap vals h1 h2 h3 h4 h5 h6 =>
    have hg : ∀ (j i : Nat) (u' : AV), j < n → (get' j)[i]? = some u' → ∃ u, (get j)[i]? = some u := fun j i u' hj hu => by
      have := (List.getElem?_eq_some_iff.1 hu).1
      rw [(hl j hj).1, ← (h4 j hj).1] at this
      exact ⟨_, List.getElem?_eq_getElem this⟩
    refine .sl _ _ _ _ ad cap vals h1 h2 trivial hl (fun j i u' hj hu => ?_) (fun j i u' hj hu => ?_)
    · obtain ⟨u, h⟩ := hg j i u' hj hu
      exact ⟨(hm j i u u' hj h hu).1, (h5 j i u hj h).2⟩
    · obtain ⟨u, h⟩ := hg j i u' hj hu
      exact (hm j i u u' hj h hu).2 _ (h6 j i u hj h)
theorem valC_keys (v : VAL) : keysL v.c = [] := by simp [VAL.c, keysL, AV.keys, strsA]
theorem test_ct {f : FuncId} {A : List AV} {O os : List AO} {op : Int} {kd nm : List UInt8} {l : List VAL} {o : Own} {get g0 : Nat → List AV} (hg : ∀ j, j < l.length → ∀ (i : Nat) (u u' : AV), (get j)[i]? = some u → (l.getD j default).c[i]? = some u' → u'.one = true ∧ ∀ c x, Rep c u x → Rep c u' x)
    (h : Ct V2.P V2.G f A O (.agg [.int .i64 op, .str kd, .str nm, .sl o 4 l.length get, .sl .fit 0 0 g0], os)) : Ct V2.P V2.G f A O (.agg (EXP.c (.mk op kd nm l [])), os) := by
  refine h.res ?_ fun c v hv => ?_
  · rw [EXP.c_eq]; simp [expC, AV.keys, keysL, valL]
  · rw [EXP.c_eq]
    show Rep c (.agg [.int .i64 op, .str kd, .str nm, valL l, .sl .no 5 0 (EXP.row [])]) v
    refine agg_map (us := [.int .i64 op, .str kd, .str nm, .sl o 4 l.length get, .sl .fit 0 0 g0]) rfl (fun i u u' hu hu' => ?_) hv
    match i with
    | 0 => simp only [List.getElem?_cons_zero, Option.some.injEq] at hu hu'; subst hu hu'; exact ⟨rfl, fun x h => h⟩
    | 1 => simp only [List.getElem?_cons_succ, List.getElem?_cons_zero, Option.some.injEq] at hu hu'; subst hu hu'; exact ⟨rfl, fun x h => h⟩
    | 2 => simp only [List.getElem?_cons_succ, List.getElem?_cons_zero, Option.some.injEq] at hu hu'; subst hu hu'; exact ⟨rfl, fun x h => h⟩
    | 3 =>
      simp only [List.getElem?_cons_succ, List.getElem?_cons_zero, Option.some.injEq] at hu hu'; subst hu hu'
      exact ⟨rfl, sl_map (fun j hj => ⟨rfl, valC_keys _⟩) fun j i u u' hj h1 h2 => ⟨(hg j hj i u u' h1 h2).1, fun x => (hg j hj i u u' h1 h2).2 c x⟩⟩
    | 4 =>
      simp only [List.getElem?_cons_succ, List.getElem?_cons_zero, Option.some.injEq] at hu hu'; subst hu hu'
      exact ⟨rfl, sl_fit⟩
    | i + 5 => simp at hu
theorem same_cells {l : List VAL} {get : Nat → List AV} (h : ∀ j, j < l.length → get j = (l.getD j default).c) : ∀ j, j < l.length → ∀ (i : Nat) (u u' : AV), (get j)[i]? = some u → (l.getD j default).c[i]? = some u' → u'.one = true ∧ ∀ c x, Rep c u x → Rep c u' x := fun j hj i u u' h1 h2 => by
  rw [h j hj, h2] at h1
  simp only [Option.some.injEq] at h1
  subst h1
  refine ⟨?_, fun _ _ h => h⟩
  match i with
  | 0 => simp [VAL.c] at h2; subst h2; rfl
  | 1 => simp [VAL.c] at h2; subst h2; rfl
  | 2 => simp [VAL.c] at h2; subst h2; rfl
  | 3 => simp [VAL.c] at h2; subst h2; rfl
  | i + 4 => simp [VAL.c] at h2
def keysL10 : List (List UInt8) := (List.range 10).map fun r => [107, UInt8.ofNat (48 + r)]
theorem key_ex (C : CODES) (h : C.Ok) : ∃ x : List UInt8 × CODES, (x.1 ∈ keysL10 ∧ x.2.Ok) ∧ Ct V2.P V2.G 104 (cA C) (cO C) (φT x) := by
  obtain ⟨h0, h1, h2⟩ := nextR_ok h (m := 10) (by omega)
  have hc := fun r => ct_loops (V := V2) (f := 104) (n := 9) (d := 3) (L := []) (l := cA C) (os := cO C) (r := r) (T := [entN]) mixed2 funcs2 (tabOk_cons entN_ok tabOk_nil) loopsOk_nil
  have hk := key_e gN vN C (vN_eq h (by omega))
  rw [gN_eq h (by omega)] at hk
  revert h0 h1 h2 hk
  generalize nextR C 10 = y
  obtain ⟨r, D⟩ := y
  intro h0 h1 h2 hk
  have hr : r = 0 ∨ r = 1 ∨ r = 2 ∨ r = 3 ∨ r = 4 ∨ r = 5 ∨ r = 6 ∨ r = 7 ∨ r = 8 ∨ r = 9 := by have h0 : 0 ≤ r := h0; have h1 : r < 10 := h1; omega
  rcases hr with rfl | rfl | rfl | rfl | rfl | rfl | rfl | rfl | rfl | rfl
  · exact ⟨([107, 48], D), ⟨(show ([107, 48] : List UInt8) ∈ keysL10 by decide), h2⟩, hc _ (hk.trans rfl)⟩
  · exact ⟨([107, 49], D), ⟨(show ([107, 49] : List UInt8) ∈ keysL10 by decide), h2⟩, hc _ (hk.trans rfl)⟩
  · exact ⟨([107, 50], D), ⟨(show ([107, 50] : List UInt8) ∈ keysL10 by decide), h2⟩, hc _ (hk.trans rfl)⟩
  · exact ⟨([107, 51], D), ⟨(show ([107, 51] : List UInt8) ∈ keysL10 by decide), h2⟩, hc _ (hk.trans rfl)⟩
  · exact ⟨([107, 52], D), ⟨(show ([107, 52] : List UInt8) ∈ keysL10 by decide), h2⟩, hc _ (hk.trans rfl)⟩
  · exact ⟨([107, 53], D), ⟨(show ([107, 53] : List UInt8) ∈ keysL10 by decide), h2⟩, hc _ (hk.trans rfl)⟩
  · exact ⟨([107, 54], D), ⟨(show ([107, 54] : List UInt8) ∈ keysL10 by decide), h2⟩, hc _ (hk.trans rfl)⟩
  · exact ⟨([107, 55], D), ⟨(show ([107, 55] : List UInt8) ∈ keysL10 by decide), h2⟩, hc _ (hk.trans rfl)⟩
  · exact ⟨([107, 56], D), ⟨(show ([107, 56] : List UInt8) ∈ keysL10 by decide), h2⟩, hc _ (hk.trans rfl)⟩
  · exact ⟨([107, 57], D), ⟨(show ([107, 57] : List UInt8) ∈ keysL10 by decide), h2⟩, hc _ (hk.trans rfl)⟩
theorem keys_good : ∀ s ∈ keysL10, goodVal 3 ⟨3, 0, s, []⟩ := by
  intro s hs
  have hs : s ∈ ([[107, 48], [107, 49], [107, 50], [107, 51], [107, 52], [107, 53], [107, 54], [107, 55], [107, 56], [107, 57]] : List (List UInt8)) := hs
  simp only [List.mem_cons, List.not_mem_nil, or_false] at hs
  rcases hs with rfl | rfl | rfl | rfl | rfl | rfl | rfl | rfl | rfl | rfl <;> exact ⟨rfl, by kernel_rfl, by decide, by decide, by simp⟩
theorem part_test {op : Int} {kd nm : List UInt8} {l : List VAL} (h6 : 6 ≤ op) (h15 : op ≤ 15) (hk : keyB kd = true) (hn : keyB nm = true) (hv : ∀ v ∈ l, checkE v = 0) (h20 : l.length ≤ 20)
    (hc : (bif op == 8 then decide (l.length > 0) else bif op != 6 then l.length == 1 else l.length == 0) = true) (ht : needsText op = true → (l.getD 0 default).kind = 3) : partE (EXP.mk op kd nm l []).part = 0 := by
  have e1 : (EXP.mk op kd nm l []).part.n = 0 := rfl
  have e2 : (EXP.mk op kd nm l []).part.op = op := rfl
  have e3 : (EXP.mk op kd nm l []).part.vals = l := rfl
  have e4 : (EXP.mk op kd nm l []).part.kind = kd := rfl
  have e5 : (EXP.mk op kd nm l []).part.name = nm := rfl
  have ht1 : testB op = true := by unfold testB; rw [decide_eq_true (show op ≥ 6 from h6), decide_eq_true h15]; rfl
  have hp : isPair op = false := by
    unfold isPair
    rw [beq_eq_false_iff_ne.2 (show op ≠ 2 by omega), beq_eq_false_iff_ne.2 (show op ≠ 3 by omega)]; rfl
  have h4 : (op == 4) = false := beq_eq_false_iff_ne.2 (by omega)
  unfold partE countB
  rw [kidSeek_zero _ _ e1, e1, e2, e3, e4, e5, vals_none hv, hk, hn, ht1, hp, h4, decide_eq_false (show ¬ op < 1 by omega), decide_eq_false (show ¬ op > 15 by omega), decide_eq_false (show ¬ l.length > 20 by omega)]
  rw [show (true && op != 6) = (op != 6) from rfl, hc]
  cases hx : needsText op with
  | false => rfl
  | true =>
    rw [ht hx]; rfl
def testOk (e : EXP) : Prop := partE e.part = 0 ∧ e.kids = [] ∧ e.Ok
theorem testOk.ve {e : EXP} (h : testOk e) : VE 1 e := .mk _ _ h.1 fun k hk => by rw [h.2.1] at hk; cases hk
end Go.SH

namespace Go.SH
open Go Go.Ab Go.Proofs
set_option linter.unusedVariables false
set_option linter.unusedSimpArgs false
section
open Classical
noncomputable def gB (m : Int) (C : CODES) (l : List AV) (os : List AO) : Bool := decide ((∃ a, nP a ∧ nA a = l ∧ nO a = os) ∧ (argN m l = true → os = [codO C]))
noncomputable def entB (m : Int) (C : CODES) (x : Int × CODES) : Ent := mkE 19 (gB m C) (fun l os => cond (argN m l) x (vN l os)) φX
theorem entB_ok {m : Int} {C : CODES} (hm : 1 ≤ m) (hC : C.Ok) {x : Int × CODES} (hx : nextR C m = x) : ∀ l os, (entB m C x).pre l os = true → Ct V2.P V2.G (entB m C x).f l os ((entB m C x).ans l os) := by
  intro l os hp
  obtain ⟨⟨a, h1, h2, h3⟩, h4⟩ : (∃ a, nP a ∧ nA a = l ∧ nO a = os) ∧ (argN m l = true → os = [codO C]) := of_decide_eq_true hp
  show Ct V2.P V2.G 19 l os (φX (cond (argN m l) x (vN l os)))
  cases hb : argN m l with
  | true =>
    have := h4 hb
    subst h2
    have hm2 : a.2 = m := by simpa [argN, nA] using hb
    rw [this]
    have hn := next_ok C hC m hm
    rw [hx] at hn
    show Ct V2.P V2.G 19 [.ref keyBase 0, .int .i64 a.2] _ _
    rw [hm2]; exact hn
  | false =>
    subst h2 h3
    have : vN (nA a) (nO a) = nW a := valA_eq (fun a b _ _ h1 h2 => nInj a b h1 h2) h1
    rw [show cond false x (vN (nA a) (nO a)) = vN (nA a) (nO a) from rfl, this]
    exact next_ok a.1 h1.1 a.2 h1.2
theorem gB_eq {m : Int} {C D : CODES} {n : Int} (h : D.Ok) (hn : 1 ≤ n) (he : n = m → D = C) : gB m C [.ref 1000000 0, .int .i64 n] [codO D] = true := by
  refine decide_eq_true ⟨⟨(D, n), ⟨h, hn⟩, rfl, rfl⟩, fun ha => ?_⟩
  have : n = m := by simpa [argN] using ha
  rw [he this]
end
theorem argN_ne {m n : Int} (h : n ≠ m) : argN m [.ref 1000000 0, .int .i64 n] = false := by simpa [argN] using h
theorem vA_kind (a b : CODES × Int) (x : VAL × CODES) (h : vA a = vA b) (_ : vO a = vO b) (hx : vPost a x) : vPost b x := by
  simp only [vA, List.cons.injEq, AV.int.injEq, true_and, and_true] at h
  unfold vPost at *
  rw [← h]; exact hx
def φQ (x : EXP × CODES) : AV × List AO := (.agg x.1.c, [codO x.2])
def tPost (x : EXP × CODES) : Prop := testOk x.1 ∧ x.2.Ok
theorem fill_one {v : VAL} : ∀ j, j < [v].length → fillGet zV [(0, .agg v.c)] j = ([v].getD j default).c := fun j hj => by
  match j, hj with
  | 0, _ => rfl
theorem getV_at {l : List VAL} : ∀ j, j < l.length → getV l j = (l.getD j default).c := fun j hj => by
  unfold getV
  simp [List.getD, hj]
def opOk (op kind : Int) : Prop := 6 ≤ op ∧ op ≤ 15 ∧ op ≠ 8 ∧ op ≠ 6 ∧ (needsText op = true → kind = 3)
section
variable {C : CODES} {dk dn : List UInt8} (h1 : keyB dk = true) (h2 : keyB dn = true) (h3 : dk.length ≤ 100) (h4 : dn.length ≤ 100)
include h1 h2 h3 h4
theorem leaf0 {D : CODES} (hD : D.Ok) {g : Nat → List AV} (hct : Ct V2.P V2.G 47 (cA C) (cO C) (.agg (exC 6 dk dn (.sl .fit 0 0 g)), [codO D])) : ∃ x, tPost x ∧ Ct V2.P V2.G 47 (cA C) (cO C) (φQ x) := by
  refine ⟨(.mk 6 dk dn [] [], D), ⟨⟨part_test (by omega) (by omega) h1 h2 (by intro v hv; cases hv) (by simp) rfl (by intro h; cases h), rfl, .mk _ (by show dk.length ≤ maxS; unfold maxS; omega) (by show dn.length ≤ maxS; unfold maxS; omega) ⟨by show 0 ≤ _; omega, by intro v hv; cases hv⟩ (by show 0 ≤ _; omega) (by intro v hv; cases hv)⟩, hD⟩, ?_⟩
  refine hct.res ?_ fun c v hv => ?_
  · show (AV.agg (EXP.c (.mk 6 dk dn [] []))).keys = []
    rw [EXP.c_eq]; simp [expC, AV.keys, keysL, valL]
  · show Rep c (.agg (EXP.c (.mk 6 dk dn [] []))) v
    rw [EXP.c_eq]
    show Rep c (.agg [.int .i64 6, .str dk, .str dn, valL [], .sl .no 5 0 (EXP.row [])]) v
    refine agg_map (us := [.int .i64 6, .str dk, .str dn, .sl .fit 0 0 g, .sl .fit 0 0 fun _ => []]) rfl (fun i u u' hu hu' => ?_) hv
    match i with
    | 0 => simp only [List.getElem?_cons_zero, Option.some.injEq] at hu hu'; subst hu hu'; exact ⟨rfl, fun x h => h⟩
    | 1 => simp only [List.getElem?_cons_succ, List.getElem?_cons_zero, Option.some.injEq] at hu hu'; subst hu hu'; exact ⟨rfl, fun x h => h⟩
    | 2 => simp only [List.getElem?_cons_succ, List.getElem?_cons_zero, Option.some.injEq] at hu hu'; subst hu hu'; exact ⟨rfl, fun x h => h⟩
    | 3 => simp only [List.getElem?_cons_succ, List.getElem?_cons_zero, Option.some.injEq] at hu hu'; subst hu hu'; exact ⟨rfl, sl_fit⟩
    | 4 => simp only [List.getElem?_cons_succ, List.getElem?_cons_zero, Option.some.injEq] at hu hu'; subst hu hu'; exact ⟨rfl, sl_fit⟩
    | i + 5 => simp at hu
theorem leaf1 {C2 : CODES} {kind op : Int} {y : VAL × CODES} (hy : vPost (C2, kind) y) (hop : opOk op kind) (hct : Ct V2.P V2.G 47 (cA C) (cO C) (.agg (exC op dk dn (.sl .fit 4 1 (fillGet zV [(0, .agg (VAL.c y.1))]))), [codO y.2])) : ∃ x, tPost x ∧ Ct V2.P V2.G 47 (cA C) (cO C) (φQ x) := by
  obtain ⟨⟨g1, g2, g3⟩, g4⟩ := hy
  obtain ⟨o1, o2, o3, o4, o5⟩ := hop
  refine ⟨(.mk op dk dn [y.1] [], y.2), ⟨⟨part_test o1 o2 h1 h2 (by intro v hv; simp at hv; subst hv; exact g2) (by simp) (by rw [beq_eq_false_iff_ne.2 o3, show (op != 6) = true by simp [o4]]; rfl) (fun h => by show y.1.kind = 3; rw [g1]; exact o5 h), rfl, .mk _ (by show dk.length ≤ maxS; unfold maxS; omega) (by show dn.length ≤ maxS; unfold maxS; omega) ⟨by show 1 ≤ _; omega, by intro v hv; have : v ∈ [y.1] := hv; simp at this; subst this; exact g3⟩ (by show 0 ≤ _; omega) (by intro v hv; cases hv)⟩, g4⟩, ?_⟩
  exact test_ct (l := [y.1]) (same_cells fill_one) hct
theorem leafL {kind : Int} {z : List VAL × CODES} (hz : 1 ≤ z.1.length ∧ z.1.length ≤ 3 ∧ (∀ v ∈ z.1, goodVal kind v) ∧ z.2.Ok) {o : Own} (hct : Ct V2.P V2.G 47 (cA C) (cO C) (.agg (exC 8 dk dn (.sl o 4 z.1.length (getV z.1))), [codO z.2])) : ∃ x, tPost x ∧ Ct V2.P V2.G 47 (cA C) (cO C) (φQ x) := by
  obtain ⟨z1, z2, z3, z4⟩ := hz
  refine ⟨(.mk 8 dk dn z.1 [], z.2), ⟨⟨part_test (by omega) (by omega) h1 h2 (fun v hv => (z3 v hv).2.1) (by omega) (by show decide (z.1.length > 0) = true; exact decide_eq_true (by omega)) (by intro h; cases h), rfl, .mk _ (by show dk.length ≤ maxS; unfold maxS; omega) (by show dn.length ≤ maxS; unfold maxS; omega) ⟨by show z.1.length ≤ _; omega, fun v hv => (z3 v hv).2.2⟩ (by show 0 ≤ _; omega) (by intro v hv; cases hv)⟩, z4⟩, ?_⟩
  exact test_ct (l := z.1) (same_cells getV_at) hct
end
abbrev TSt := CODES ⊕ (List VAL × CODES)
def tS (dk dn : List UInt8) (dt : Int) : TSt → St
  | .inl C => TS0 dk dn dt C
  | .inr (l, C) => TS dk dn dt l.length (getV l) C l.length
def tI (dt : Int) : TSt → Prop
  | .inl C => C.Ok
  | .inr (l, C) => C.Ok ∧ 1 ≤ l.length ∧ l.length ≤ 3 ∧ ∀ v ∈ l, goodVal dt v
def tM : TSt → Nat
  | .inl _ => 5
  | .inr (l, _) => 4 - l.length
def tZ (dt : Int) (z : List VAL × CODES) : Prop := 1 ≤ z.1.length ∧ z.1.length ≤ 3 ∧ (∀ v ∈ z.1, goodVal dt v) ∧ z.2.Ok
instance : Inhabited (List VAL × CODES) := ⟨([], default)⟩
theorem getV_app (l : List VAL) (v : VAL) : appGet l.length 1 (getV l) (fillGet zV [(0, .agg v.c)]) = getV (l ++ [v]) := by
  funext j
  unfold appGet getV
  by_cases h : j < l.length
  · rw [bltT h]
    simp [List.getD, h, List.getElem?_append_left]
  · have hb : Nat.blt j l.length = false := by
      cases e : Nat.blt j l.length with
      | false => rfl
      | true => exact absurd (ltB e) h
    rw [hb, cond_false]
    by_cases h1 : j = l.length
    · subst h1
      rw [bltT (by omega), cond_true, Nat.sub_self]
      simp [fillGet, AV.cells, List.getD]
    · have hb1 : Nat.blt j (l.length + 1) = false := by
        cases e : Nat.blt j (l.length + 1) with
        | false => rfl
        | true => exact absurd (ltB e) (by omega)
      rw [hb1, cond_false]
      simp only [List.map_append, List.map_cons, List.map_nil, List.getD]
      rw [List.getElem?_eq_none (by simp; omega), List.getElem?_eq_none (by simp; omega)]
theorem test_loop (dk dn : List UInt8) (dt : Int) (h1 : 1 ≤ dt) (h5 : dt ≤ 5) (ge : List AV → List AO → Bool) (ve : List AV → List AO → Int × CODES) (hge : ∀ C : CODES, C.Ok → ge [.ref 1000000 0, .int .i64 3] [codO C] = true) (hve : ∀ C : CODES, C.Ok → ve [.ref 1000000 0, .int .i64 3] [codO C] = nextR C 3)
    (wv : CODES × Int → VAL × CODES) (hwv : ∀ a, vP a → vPost a (wv a)) (T : List Ent) :
    ∃ w : TSt → List VAL × CODES, (∀ v, tI dt v → tZ dt (w v)) ∧ ∀ L, LoopOk (V2.run (mkE 19 ge ve φX :: entC 58 vA vO vP wv φV :: T) 3 [] L [] 47) 47 [1, 1, 1, 1, 1, 1, 0, 1, 0, 0, 0, 0, 0, 0, 0, 1, 0, 1, 0, 1, 0, 1, 0] (mkO (goodS (tS dk dn dt) (tI dt)) (valS (tS dk dn dt) (tI dt) w) (outT dk dn)) := by
  refine loop_ex (Xf := fun L => V2.run (mkE 19 ge ve φX :: entC 58 vA vO vP wv φV :: T) 3 [] L [] 47) (b := subC (bodyOf V2.P 47) ([1, 1, 1, 1, 1, 1, 0, 1, 0, 0, 0, 0, 0, 0, 0, 1, 0, 1, 0, 1, 0, 1, 0] ++ [0])) (tS dk dn dt) (tI dt) tM (outT dk dn) (fun _ => tZ dt) (fun _ => by kernel_rfl) 9 fun v hv => ?_
  have hgv : ∀ C : CODES, C.Ok → goodA vA vO vP [.ref 1000000 0, .int .i64 dt] [codO C] = true := fun C hC => goodA_eq (A := vA) (O := vO) (v := (C, dt)) ⟨hC, h1, h5⟩
  have hvv : ∀ C : CODES, C.Ok → vPost (C, dt) (valA vA vO vP wv [.ref 1000000 0, .int .i64 dt] [codO C]) := fun C hC => valA_post (A := vA) (O := vO) (a := (C, dt)) hwv vA_kind ⟨hC, h1, h5⟩
  cases v with
  | inl C =>
    have hC : C.Ok := hv
    obtain ⟨q0, q1, q2⟩ := nextR_ok hC (m := 3) (by omega)
    refine .inr ⟨.inr ([(valA vA vO vP wv [.ref 1000000 0, .int .i64 dt] [codO (nextR C 3).2]).1], (valA vA vO vP wv [.ref 1000000 0, .int .i64 dt] [codO (nextR C 3).2]).2), ?_, by show 4 - 1 < 5; omega, fun _ h => h, fun L k kn => ?_⟩
    · obtain ⟨g1, g2⟩ := hvv _ q2
      exact ⟨g2, by show 1 ≤ 1; omega, by show 1 ≤ 3; omega, fun v hv => by simp at hv; subst hv; exact g1⟩
    · refine (test_r0 ge _ ve _ T L _ dk dn dt C kn k (hve C hC) rfl).trans ?_
      rw [hge C hC, decide_eq_true q0, hgv _ q2]
      have := getV_app [] (valA vA vO vP wv [.ref 1000000 0, .int .i64 dt] [codO (nextR C 3).2]).1
      show kn _ = kn _
      congr 1
      show TS dk dn dt 1 (appGet 0 1 (fun _ => zV) _) _ _ = TS dk dn dt 1 (getV [_]) _ 1
      rw [show (fun _ : Nat => zV) = getV [] by funext j; rfl]
      exact congrArg (fun g => TS dk dn dt 1 g _ 1) this
  | inr x =>
    obtain ⟨l, C⟩ := x
    obtain ⟨hC, l1, l3, lv⟩ := hv
    obtain ⟨q0, q1, q2⟩ := nextR_ok hC (m := 3) (by omega)
    obtain ⟨n, hn⟩ : ∃ n, l.length = n + 1 := ⟨l.length - 1, by omega⟩
    by_cases hi : (l.length : Int) ≤ (nextR C 3).1
    · refine .inr ⟨.inr (l ++ [(valA vA vO vP wv [.ref 1000000 0, .int .i64 dt] [codO (nextR C 3).2]).1], (valA vA vO vP wv [.ref 1000000 0, .int .i64 dt] [codO (nextR C 3).2]).2), ?_, ?_, fun _ h => h, fun L k kn => ?_⟩
      · obtain ⟨g1, g2⟩ := hvv _ q2
        refine ⟨g2, by simp, by simp; omega, fun v hv => ?_⟩
        rcases List.mem_append.1 hv with hv | hv
        · exact lv v hv
        · simp at hv; subst hv; exact g1
      · show 4 - (l ++ [_]).length < 4 - l.length
        rw [List.length_append, List.length_singleton]; omega
      · have := test_r ge (goodA vA vO vP) ve (valA vA vO vP wv) T L 9 dk dn dt n (getV l) C l.length kn k (hve C hC) rfl
        rw [← hn] at this
        refine this.trans ?_
        rw [hge C hC, decide_eq_true hi, hgv _ q2, getV_app, wrap_next (n := 4) (by omega) (by omega)]
        have hr : (roomy 56 (l.length + 1) && Nat.beq l.length l.length) = true := by
          have : l.length = 1 ∨ l.length = 2 ∨ l.length = 3 := by omega
          rcases this with e | e | e <;> rw [e] <;> rfl
        rw [hr]
        show kn _ = kn (TS dk dn dt (l ++ [_]).length (getV (l ++ [_])) _ (l ++ [_]).length)
        rw [List.length_append, List.length_singleton]; rfl
    · refine .inl ⟨(l, (nextR C 3).2), ⟨l1, l3, lv, q2⟩, fun L k kn => ?_⟩
      have := test_r ge (goodA vA vO vP) ve (valA vA vO vP wv) T L 9 dk dn dt n (getV l) C l.length kn k (hve C hC) rfl
      rw [← hn] at this
      refine this.trans ?_
      rw [hge C hC, decide_eq_false hi]; rfl
theorem tS_good (dk dn : List UInt8) (dt : Int) {C : CODES} (h : C.Ok) : goodS (tS dk dn dt) (tI dt) (TS0 dk dn dt C) = true := goodS_eq (S := tS dk dn dt) (v := Sum.inl C) h
theorem tS_post (dk dn : List UInt8) (dt : Int) {w : TSt → List VAL × CODES} (hw : ∀ v, tI dt v → tZ dt (w v)) {C : CODES} (h : C.Ok) : tZ dt (valS (tS dk dn dt) (tI dt) w (TS0 dk dn dt C)) :=
  valS_post (S := tS dk dn dt) (a := Sum.inl C) (Post := fun (_ : TSt) (x : List VAL × CODES) => tZ dt x) hw (fun _ _ _ _ h => h) h
theorem vA_good {dt : Int} (h1 : 1 ≤ dt) (h5 : dt ≤ 5) {C : CODES} (h : C.Ok) : goodA vA vO vP [.ref 1000000 0, .int .i64 dt] [codO C] = true := goodA_eq (A := vA) (O := vO) (v := (C, dt)) ⟨h, h1, h5⟩
theorem vA_post {dt : Int} {wv : CODES × Int → VAL × CODES} (hwv : ∀ a, vP a → vPost a (wv a)) (h1 : 1 ≤ dt) (h5 : dt ≤ 5) {C : CODES} (h : C.Ok) : vPost (C, dt) (valA vA vO vP wv [.ref 1000000 0, .int .i64 dt] [codO C]) := valA_post (A := vA) (O := vO) (a := (C, dt)) hwv vA_kind ⟨h, h1, h5⟩
end Go.SH
