/- Conditions that are well-formed: how many parts they have, what the checks answer. The draws: Key, Test: contracts. The draws: Test: its contract. The draws: Test: its contract. The draws: Test: one contract. The draws: Expr: equations. The draws: Expr: its loop. The draws: Expr at one level: equations. The draws: Expr: how its answers are told. The draws: Expr: its contract. The parts of a condition: equations. The parts of a condition: contracts. ShapeParts: the plain law. A function that hands back a pointer to a new object: its contract by a run. A view of a state in which less is told: variables' cells told in other words. New: its contract; ShapeParts: equations. ShapeParts: the law answers true. ShapeParts: the law answers true (the whole run). Reading a row's data as abstract values: numbers, texts, bools, slices, structs, to any depth. ShapeFlags: the row's data as flags, segments, layers, experiments. -/
import Derived.Test.YtnldpiohcmgkdaaGreatDoorX5
import Derived.ChangeArms
import Derived.ChangeShapes
namespace Go.SH
open Go Go.Ab Go.Proofs
set_option linter.unusedVariables false
set_option linter.unusedSimpArgs false
mutual
def EXP.size : EXP → Nat
  | .mk _ _ _ _ ks => 1 + sizeL ks
def sizeL : List EXP → Nat
  | [] => 0
  | e :: r => e.size + sizeL r
end
theorem EXP.size_eq (e : EXP) : e.size = 1 + sizeL e.kids := by cases e with | mk _ _ _ _ ks => rw [EXP.size]; rfl
/-- Well-formed with at most so many levels. -/
inductive VE : Nat → EXP → Prop
  | mk (l : Nat) (e : EXP) : partE e.part = 0 → (∀ k ∈ e.kids, VE l k) → VE (l + 1) e
theorem VE.up {l : Nat} {e : EXP} (h : VE l e) : VE (l + 1) e := by
  induction h with
  | mk l e h1 h2 ih => exact .mk _ _ h1 ih
theorem VE.le {l m : Nat} {e : EXP} (h : VE l e) (hm : l ≤ m) : VE m e := by
  obtain ⟨d, rfl⟩ : ∃ d, m = l + d := ⟨m - l, by omega⟩
  clear hm
  induction d with
  | zero => exact h
  | succ d ih => exact ih.up
theorem walkL_good (d : Nat) : ∀ (ks : List EXP), (∀ k ∈ ks, ∀ n ≤ 60, (n + k.size ≤ 60 → walkE k d n = (0, n + k.size)) ∧ (60 < n + k.size → (walkE k d n).1 = 5)) →
    ∀ n ≤ 60, (n + sizeL ks ≤ 60 → walkL ks d n = (0, n + sizeL ks)) ∧ (60 < n + sizeL ks → (walkL ks d n).1 = 5)
  | [], _, n, hn => ⟨fun _ => by simp [walkL, sizeL], fun h => by simp [sizeL] at h; omega⟩
  | k :: r, h, n, hn => by
    obtain ⟨h1, h2⟩ := h k (by simp) n hn
    have ih := walkL_good d r fun q hq => h q (List.mem_cons_of_mem _ hq)
    by_cases hk : n + k.size ≤ 60
    · have e1 := h1 hk
      obtain ⟨i1, i2⟩ := ih (n + k.size) hk
      have e2 : walkL (k :: r) d n = walkL r d (n + k.size) := by rw [walkL, e1]; rfl
      rw [e2, sizeL]
      refine ⟨fun h => ?_, fun h => i2 (by omega)⟩
      rw [i1 (by omega)]; congr 1; omega
    · have e1 := h2 (by omega)
      refine ⟨fun h => by rw [sizeL] at h; omega, fun _ => ?_⟩
      rw [walkL]
      have : ((walkE k d n).1 != 0) = true := by rw [e1]; rfl
      rw [this]; exact e1
theorem walk_good {l : Nat} {e : EXP} (h : VE l e) : ∀ d n, d + l ≤ 10 → n ≤ 60 → (n + e.size ≤ 60 → walkE e d n = (0, n + e.size)) ∧ (60 < n + e.size → (walkE e d n).1 = 5) := by
  induction h with
  | mk l e h1 h2 ih =>
    intro d n hd hn
    rw [walkE_eq, e.size_eq]
    by_cases h60 : n ≥ 60
    · rw [decide_eq_true h60]
      exact ⟨fun h => by omega, fun _ => rfl⟩
    · have hl : levelE e d = 0 := by unfold levelE; rw [decide_eq_false (by omega)]; exact h1
      rw [decide_eq_false h60, hl]
      have := walkL_good (d + 1) e.kids (fun k hk m hm => ih k hk (d + 1) m (by omega) hm) (n + 1) (by omega)
      refine ⟨fun h => ?_, fun h => ?_⟩
      · show walkL e.kids (d + 1) (n + 1) = _
        rw [this.1 (by omega)]; congr 1; omega
      · exact this.2 (by omega)
theorem expr_good {l : Nat} {e : EXP} (h : VE l e) (hl : l ≤ 10) : (exprE e == 0) = decide (e.size ≤ 60) := by
  obtain ⟨h1, h2⟩ := walk_good h 0 0 (by omega) (by omega)
  unfold exprE
  by_cases hs : e.size ≤ 60
  · rw [h1 (by omega), decide_eq_true hs]; rfl
  · rw [h2 (by omega), decide_eq_false hs]; rfl
mutual
/-- shape.count -/
def countE : EXP → Nat → Nat
  | .mk _ _ _ _ ks, n => countL ks (n + 1)
def countL : List EXP → Nat → Nat
  | [], n => n
  | e :: r, n => bif decide (n > 60) then n else countL r (countE e n)
end
theorem countE_eq (e : EXP) (n : Nat) : countE e n = countL e.kids (n + 1) := by cases e with | mk _ _ _ _ ks => rw [countE]; rfl
mutual
theorem count_min : ∀ (e : EXP) (n : Nat), n ≤ 60 → countE e n = min (n + e.size) 61
  | .mk o k nm v ks, n, h => by
    rw [countE, EXP.size, countL_min ks (n + 1) (by omega)]; congr 1; omega
theorem countL_min : ∀ (ks : List EXP) (n : Nat), n ≤ 61 → countL ks n = min (n + sizeL ks) 61
  | [], n, h => by rw [countL, sizeL]; omega
  | e :: r, n, h => by
    rw [countL, sizeL]
    by_cases hn : n > 60
    · rw [decide_eq_true hn]; show n = _; omega
    · rw [decide_eq_false hn, cond_false, count_min e n (by omega), countL_min r _ (by omega)]; omega
end
mutual
/-- flagstoneref6.Parts -/
def rpartsE : EXP → Nat
  | .mk _ _ _ _ ks => min (rsumL ks 1) 61
def rsumL : List EXP → Nat → Nat
  | [], n => n
  | e :: r, n => bif decide (n ≤ 60) then rsumL r (n + rpartsE e) else n
end
theorem rpartsE_eq (e : EXP) : rpartsE e = min (rsumL e.kids 1) 61 := by cases e with | mk _ _ _ _ ks => rw [rpartsE]; rfl
mutual
theorem rparts_min : ∀ (e : EXP), rpartsE e = min e.size 61
  | .mk o k nm v ks => by rw [rpartsE, EXP.size, rsum_min ks 1]
theorem rsum_min : ∀ (ks : List EXP) (n : Nat), min (rsumL ks n) 61 = min (n + sizeL ks) 61
  | [], n => by rw [rsumL, sizeL]; omega
  | e :: r, n => by
    rw [rsumL, sizeL]
    by_cases hn : n ≤ 60
    · rw [decide_eq_true hn, cond_true, rsum_min r, rparts_min e]; omega
    · rw [decide_eq_false hn, cond_false]; omega
end
theorem scan_none {n : Nat} {stop : Nat → Option Unit} (h : ∀ i, i < n → stop i = none) : ∀ d i, (scan n (· + 1) stop d i).1 = false
  | 0, _ => rfl
  | d + 1, i => by
    simp only [scan]
    by_cases hi : i < n
    · rw [if_pos hi, h i hi]; exact scan_none h d (i + 1)
    · rw [if_neg hi]
theorem kidSeek_none {p : PART} {b : Bool} (h : ∀ i, i < p.n → (bif p.ko i == p.op then b else false) = false) : (kidSeek p b).1 = false := by
  unfold kidSeek seek scanAt
  exact scan_none (fun i hi => by show (bif (bif p.ko i == p.op then b else false) then some () else none) = none; rw [h i hi]; rfl) _ _
theorem vals_none {l : List VAL} (h : ∀ v ∈ l, checkE v = 0) : (valsSeek l).1 = false := by
  unfold valsSeek scanAt
  have : ∀ d i, (scan l.length (· + 1) (valsStop l) d i).1 = false := by
    intro d
    induction d with
    | zero => intro i; rfl
    | succ d ih =>
      intro i
      simp only [scan]
      by_cases hi : i < l.length
      · rw [if_pos hi]
        have hv : checkE (l.getD i default) = 0 := by
          rw [List.getD_eq_getElem?_getD, List.getElem?_eq_getElem hi]; exact h _ (List.getElem_mem hi)
        unfold valsStop
        rw [hv]; exact ih (i + 1)
      · rw [if_neg hi]
  exact this _ _
def notX (e : EXP) : EXP := .mk 4 [] [] [] [e]
theorem part_not (e : EXP) : partE (notX e).part = 0 := by
  have h1 : (kidSeek (notX e).part (isPair (notX e).part.op)).1 = false := kidSeek_none fun i _ => by
    show (bif _ == (4 : Int) then isPair 4 else false) = false
    cases ((notX e).part.ko i == (4 : Int)) <;> rfl
  have h2 : (valsSeek (notX e).part.vals).1 = false := vals_none (by intro v hv; cases hv)
  unfold partE
  rw [h1, h2]; rfl
theorem VE.not {l : Nat} {e : EXP} (h : VE l e) : VE (l + 1) (notX e) := .mk _ _ (part_not e) fun k hk => by
  have : k ∈ [e] := hk
  simp at this; subst this; exact h
def pairX (op : Int) (ks : List EXP) : EXP := .mk op [] [] [] ks
theorem kidSeek_op {op : Int} {ks : List EXP} (h : ∀ k ∈ ks, k.op ≠ op) (b : Bool) : (kidSeek (pairX op ks).part b).1 = false := kidSeek_none fun i hi => by
  have hi : i < ks.length := hi
  have : ((ks.getD i default).op == op) = false := by
    rw [List.getD_eq_getElem?_getD, List.getElem?_eq_getElem hi]
    exact beq_eq_false_iff_ne.2 (h _ (List.getElem_mem hi))
  show (bif (ks.getD i default).op == op then b else false) = false
  rw [this]; rfl
theorem part_pair {op : Int} {ks : List EXP} (hop : op = 2 ∨ op = 3) (h2 : 2 ≤ ks.length) (h12 : ks.length ≤ 12) (h : ∀ k ∈ ks, k.op ≠ op) : partE (pairX op ks).part = 0 := by
  have h1 : (kidSeek (pairX op ks).part (isPair (pairX op ks).part.op)).1 = false := kidSeek_op h _
  have h3 : (valsSeek (pairX op ks).part.vals).1 = false := vals_none (by intro v hv; cases hv)
  have e1 : (pairX op ks).part.n = ks.length := rfl
  have e2 : (pairX op ks).part.op = op := rfl
  have e3 : (pairX op ks).part.vals = [] := rfl
  have e4 : (pairX op ks).part.kind = [] := rfl
  have e5 : (pairX op ks).part.name = [] := rfl
  unfold partE countB
  rw [h1, h3, e1, e2, e3, e4, e5, decide_eq_true (show ks.length ≥ 2 from h2), decide_eq_false (show ¬ ks.length > 12 by omega)]
  rcases hop with rfl | rfl <;> rfl
theorem part_wide {op : Int} {ks : List EXP} (hop : op = 2 ∨ op = 3) (h12 : 12 < ks.length) : partE (pairX op ks).part = 5 := by
  have e1 : (pairX op ks).part.n = ks.length := rfl
  have e2 : (pairX op ks).part.op = op := rfl
  have e3 : (pairX op ks).part.vals = [] := rfl
  have e4 : (pairX op ks).part.kind = [] := rfl
  have e5 : (pairX op ks).part.name = [] := rfl
  unfold partE countB
  rw [e1, e2, e3, e4, e5, decide_eq_true (show ks.length ≥ 2 by omega), decide_eq_true (show ks.length > 12 from h12)]
  rcases hop with rfl | rfl <;> rfl
theorem VE.pair {l : Nat} {op : Int} {ks : List EXP} (hop : op = 2 ∨ op = 3) (h2 : 2 ≤ ks.length) (h12 : ks.length ≤ 12) (h : ∀ k ∈ ks, k.op ≠ op) (hk : ∀ k ∈ ks, VE l k) : VE (l + 1) (pairX op ks) := .mk _ _ (part_pair hop h2 h12 h) hk
def notN : Nat → EXP → EXP
  | 0, e => e
  | k + 1, e => notX (notN k e)
theorem notN_good {l : Nat} {e : EXP} (h : VE l e) : ∀ k, VE (l + k) (notN k e)
  | 0 => h
  | k + 1 => (notN_good h k).not
theorem notN_size (e : EXP) : ∀ k, (notN k e).size = k + e.size
  | 0 => by rw [notN]; omega
  | k + 1 => by rw [notN, notX, EXP.size, sizeL, sizeL, notN_size e k]; omega
theorem notN_deep (e : EXP) : ∀ k d n, 10 ≤ d + k → n + k + 1 ≤ 60 → (walkE (notN k e) d n).1 = 18
  | 0, d, n, h, hn => by
    rw [walkE_eq, decide_eq_false (by omega)]
    have hl : levelE (notN 0 e) d = 18 := by unfold levelE; rw [decide_eq_true (by omega)]; rfl
    rw [hl]; rfl
  | k + 1, d, n, h, hn => by
    rw [walkE_eq, decide_eq_false (by omega)]
    by_cases hd : d ≥ 10
    · have hl : levelE (notN (k + 1) e) d = 18 := by unfold levelE; rw [decide_eq_true hd]; rfl
      rw [hl]; rfl
    · have hl : levelE (notN (k + 1) e) d = 0 := by unfold levelE; rw [decide_eq_false hd]; exact part_not _
      rw [hl]
      have ih := notN_deep e k (d + 1) (n + 1) (by omega) (by omega)
      show (walkL [notN k e] (d + 1) (n + 1)).1 = 18
      rw [walkL]
      have : ((walkE (notN k e) (d + 1) (n + 1)).1 != 0) = true := by rw [ih]; rfl
      rw [this]; exact ih
end Go.SH

namespace Go.SH
open Go Go.Ab Go.Proofs
set_option linter.unusedVariables false
set_option linter.unusedSimpArgs false
theorem agg_map {c : Cx} {us us' : List AV} {v : Value} (hl : us'.length = us.length) (hm : ∀ (i : Nat) (u u' : AV), us[i]? = some u → us'[i]? = some u' → u'.one = true ∧ ∀ x, Rep c u x → Rep c u' x) (h : Rep c (.agg us) v) : Rep c (.agg us') v := by
  cases h with
  | agg _ vs h1 h2 h3 =>
    have hg : ∀ (i : Nat) (u' : AV), us'[i]? = some u' → ∃ u, us[i]? = some u := fun i u' hu => by
      have := (List.getElem?_eq_some_iff.1 hu).1
      exact ⟨us[i]'(by omega), List.getElem?_eq_getElem (by omega)⟩
    refine .agg _ vs (by rw [hl]; exact h1) (fun i u' hu => ?_) (fun i u' hu => ?_)
    · obtain ⟨u, h⟩ := hg i u' hu
      exact (hm i u u' h hu).1
    · obtain ⟨u, h⟩ := hg i u' hu
      exact (hm i u u' h hu).2 _ (h3 i u h)
theorem sl_map {c : Cx} {o : Own} {sz n : Nat} {get get' : Nat → List AV} (hl : ∀ j, j < n → (get' j).length = sz ∧ keysL (get' j) = []) (hm : ∀ (j i : Nat) (u u' : AV), j < n → (get j)[i]? = some u → (get' j)[i]? = some u' → u'.one = true ∧ ∀ x, Rep c u x → Rep c u' x) (x : Value) (h : Rep c (.sl o sz n get) x) : Rep c (.sl .no sz n get') x := by
  cases h with
  | slNil _ _ _ ho => exact .slNil _ _ _ trivial
  | sl _ _ _ _ ad cap vals h1 h2 h3 h4 h5 h6 =>
    have hg : ∀ (j i : Nat) (u' : AV), j < n → (get' j)[i]? = some u' → ∃ u, (get j)[i]? = some u := fun j i u' hj hu => by
      have := (List.getElem?_eq_some_iff.1 hu).1
      rw [(hl j hj).1, ← (h4 j hj).1] at this
      exact ⟨_, List.getElem?_eq_getElem this⟩
    refine .sl _ _ _ _ ad cap vals h1 h2 trivial hl (fun j i u' hj hu => ?_) (fun j i u' hj hu => ?_)
    · obtain ⟨u, h⟩ := hg j i u' hj hu
      exact ⟨(hm j i u u' hj h hu).1, (h5 j i u hj h).2⟩
    · obtain ⟨u, h⟩ := hg j i u' hj hu
      exact (hm j i u u' hj h hu).2 _ (h6 j i u hj h)
theorem valC_keys (v : VAL) : keysL v.c = [] := by simp [VAL.c, keysL, AV.keys, strsA]
/-- The answer of a test, told as a condition. -/
theorem test_ct {f : FuncId} {A : List AV} {O os : List AO} {op : Int} {kd nm : List UInt8} {l : List VAL} {o : Own} {get g0 : Nat → List AV} (hg : ∀ j, j < l.length → ∀ (i : Nat) (u u' : AV), (get j)[i]? = some u → (l.getD j default).c[i]? = some u' → u'.one = true ∧ ∀ c x, Rep c u x → Rep c u' x)
    (h : Ct V2.P V2.G f A O (.agg [.int .i64 op, .str kd, .str nm, .sl o 4 l.length get, .sl .fit 0 0 g0], os)) : Ct V2.P V2.G f A O (.agg (EXP.c (.mk op kd nm l [])), os) := by
  refine h.res ?_ fun c v hv => ?_
  · rw [EXP.c_eq]; simp [expC, AV.keys, keysL, valL]
  · rw [EXP.c_eq]
    show Rep c (.agg [.int .i64 op, .str kd, .str nm, valL l, .sl .no 5 0 (EXP.row [])]) v
    refine agg_map (us := [.int .i64 op, .str kd, .str nm, .sl o 4 l.length get, .sl .fit 0 0 g0]) rfl (fun i u u' hu hu' => ?_) hv
    match i with
    | 0 => simp only [List.getElem?_cons_zero, Option.some.injEq] at hu hu'; subst hu hu'; exact ⟨rfl, fun x h => h⟩
    | 1 => simp only [List.getElem?_cons_succ, List.getElem?_cons_zero, Option.some.injEq] at hu hu'; subst hu hu'; exact ⟨rfl, fun x h => h⟩
    | 2 => simp only [List.getElem?_cons_succ, List.getElem?_cons_zero, Option.some.injEq] at hu hu'; subst hu hu'; exact ⟨rfl, fun x h => h⟩
    | 3 =>
      simp only [List.getElem?_cons_succ, List.getElem?_cons_zero, Option.some.injEq] at hu hu'; subst hu hu'
      exact ⟨rfl, sl_map (fun j hj => ⟨rfl, valC_keys _⟩) fun j i u u' hj h1 h2 => ⟨(hg j hj i u u' h1 h2).1, fun x => (hg j hj i u u' h1 h2).2 c x⟩⟩
    | 4 =>
      simp only [List.getElem?_cons_succ, List.getElem?_cons_zero, Option.some.injEq] at hu hu'; subst hu hu'
      exact ⟨rfl, sl_fit⟩
    | i + 5 => simp at hu
theorem same_cells {l : List VAL} {get : Nat → List AV} (h : ∀ j, j < l.length → get j = (l.getD j default).c) : ∀ j, j < l.length → ∀ (i : Nat) (u u' : AV), (get j)[i]? = some u → (l.getD j default).c[i]? = some u' → u'.one = true ∧ ∀ c x, Rep c u x → Rep c u' x := fun j hj i u u' h1 h2 => by
  rw [h j hj, h2] at h1
  simp only [Option.some.injEq] at h1
  subst h1
  refine ⟨?_, fun _ _ h => h⟩
  match i with
  | 0 => simp [VAL.c] at h2; subst h2; rfl
  | 1 => simp [VAL.c] at h2; subst h2; rfl
  | 2 => simp [VAL.c] at h2; subst h2; rfl
  | 3 => simp [VAL.c] at h2; subst h2; rfl
  | i + 4 => simp [VAL.c] at h2
def keysL10 : List (List UInt8) := (List.range 10).map fun r => [107, UInt8.ofNat (48 + r)]
theorem key_ex (C : CODES) (h : C.Ok) : ∃ x : List UInt8 × CODES, (x.1 ∈ keysL10 ∧ x.2.Ok) ∧ Ct V2.P V2.G 104 (cA C) (cO C) (φT x) := by
  obtain ⟨h0, h1, h2⟩ := nextR_ok h (m := 10) (by omega)
  have hc := fun r => ct_loops (V := V2) (f := 104) (n := 9) (d := 3) (L := []) (l := cA C) (os := cO C) (r := r) (T := [entN]) mixed2 funcs2 (tabOk_cons entN_ok tabOk_nil) loopsOk_nil
  have hk := key_e gN vN C (vN_eq h (by omega))
  rw [gN_eq h (by omega)] at hk
  revert h0 h1 h2 hk
  generalize nextR C 10 = y
  obtain ⟨r, D⟩ := y
  intro h0 h1 h2 hk
  have hr : r = 0 ∨ r = 1 ∨ r = 2 ∨ r = 3 ∨ r = 4 ∨ r = 5 ∨ r = 6 ∨ r = 7 ∨ r = 8 ∨ r = 9 := by have h0 : 0 ≤ r := h0; have h1 : r < 10 := h1; omega
  rcases hr with rfl | rfl | rfl | rfl | rfl | rfl | rfl | rfl | rfl | rfl
  · exact ⟨([107, 48], D), ⟨(show ([107, 48] : List UInt8) ∈ keysL10 by decide), h2⟩, hc _ (hk.trans rfl)⟩
  · exact ⟨([107, 49], D), ⟨(show ([107, 49] : List UInt8) ∈ keysL10 by decide), h2⟩, hc _ (hk.trans rfl)⟩
  · exact ⟨([107, 50], D), ⟨(show ([107, 50] : List UInt8) ∈ keysL10 by decide), h2⟩, hc _ (hk.trans rfl)⟩
  · exact ⟨([107, 51], D), ⟨(show ([107, 51] : List UInt8) ∈ keysL10 by decide), h2⟩, hc _ (hk.trans rfl)⟩
  · exact ⟨([107, 52], D), ⟨(show ([107, 52] : List UInt8) ∈ keysL10 by decide), h2⟩, hc _ (hk.trans rfl)⟩
  · exact ⟨([107, 53], D), ⟨(show ([107, 53] : List UInt8) ∈ keysL10 by decide), h2⟩, hc _ (hk.trans rfl)⟩
  · exact ⟨([107, 54], D), ⟨(show ([107, 54] : List UInt8) ∈ keysL10 by decide), h2⟩, hc _ (hk.trans rfl)⟩
  · exact ⟨([107, 55], D), ⟨(show ([107, 55] : List UInt8) ∈ keysL10 by decide), h2⟩, hc _ (hk.trans rfl)⟩
  · exact ⟨([107, 56], D), ⟨(show ([107, 56] : List UInt8) ∈ keysL10 by decide), h2⟩, hc _ (hk.trans rfl)⟩
  · exact ⟨([107, 57], D), ⟨(show ([107, 57] : List UInt8) ∈ keysL10 by decide), h2⟩, hc _ (hk.trans rfl)⟩
theorem keys_good : ∀ s ∈ keysL10, goodVal 3 ⟨3, 0, s, []⟩ := by
  intro s hs
  have hs : s ∈ ([[107, 48], [107, 49], [107, 50], [107, 51], [107, 52], [107, 53], [107, 54], [107, 55], [107, 56], [107, 57]] : List (List UInt8)) := hs
  simp only [List.mem_cons, List.not_mem_nil, or_false] at hs
  rcases hs with rfl | rfl | rfl | rfl | rfl | rfl | rfl | rfl | rfl | rfl <;> exact ⟨rfl, by kernel_rfl, by decide, by decide, by simp⟩
/-- A test that is well-formed. -/
theorem part_test {op : Int} {kd nm : List UInt8} {l : List VAL} (h6 : 6 ≤ op) (h15 : op ≤ 15) (hk : keyB kd = true) (hn : keyB nm = true) (hv : ∀ v ∈ l, checkE v = 0) (h20 : l.length ≤ 20)
    (hc : (bif op == 8 then decide (l.length > 0) else bif op != 6 then l.length == 1 else l.length == 0) = true) (ht : needsText op = true → (l.getD 0 default).kind = 3) : partE (EXP.mk op kd nm l []).part = 0 := by
  have e1 : (EXP.mk op kd nm l []).part.n = 0 := rfl
  have e2 : (EXP.mk op kd nm l []).part.op = op := rfl
  have e3 : (EXP.mk op kd nm l []).part.vals = l := rfl
  have e4 : (EXP.mk op kd nm l []).part.kind = kd := rfl
  have e5 : (EXP.mk op kd nm l []).part.name = nm := rfl
  have ht1 : testB op = true := by unfold testB; rw [decide_eq_true (show op ≥ 6 from h6), decide_eq_true h15]; rfl
  have hp : isPair op = false := by
    unfold isPair
    rw [beq_eq_false_iff_ne.2 (show op ≠ 2 by omega), beq_eq_false_iff_ne.2 (show op ≠ 3 by omega)]; rfl
  have h4 : (op == 4) = false := beq_eq_false_iff_ne.2 (by omega)
  unfold partE countB
  rw [kidSeek_zero _ _ e1, e1, e2, e3, e4, e5, vals_none hv, hk, hn, ht1, hp, h4, decide_eq_false (show ¬ op < 1 by omega), decide_eq_false (show ¬ op > 15 by omega), decide_eq_false (show ¬ l.length > 20 by omega)]
  rw [show (true && op != 6) = (op != 6) from rfl, hc]
  cases hx : needsText op with
  | false => rfl
  | true =>
    rw [ht hx]; rfl
def testOk (e : EXP) : Prop := partE e.part = 0 ∧ e.kids = [] ∧ e.Ok
theorem testOk.ve {e : EXP} (h : testOk e) : VE 1 e := .mk _ _ h.1 fun k hk => by rw [h.2.1] at hk; cases hk
end Go.SH

namespace Go.SH
open Go Go.Ab Go.Proofs
set_option linter.unusedVariables false
set_option linter.unusedSimpArgs false
section
open Classical
/-- Next, where what it answers for one number at one state is written out. -/
noncomputable def gB (m : Int) (C : CODES) (l : List AV) (os : List AO) : Bool := decide ((∃ a, nP a ∧ nA a = l ∧ nO a = os) ∧ (argN m l = true → os = [codO C]))
noncomputable def entB (m : Int) (C : CODES) (x : Int × CODES) : Ent := mkE 19 (gB m C) (fun l os => cond (argN m l) x (vN l os)) φX
theorem entB_ok {m : Int} {C : CODES} (hm : 1 ≤ m) (hC : C.Ok) {x : Int × CODES} (hx : nextR C m = x) : ∀ l os, (entB m C x).pre l os = true → Ct V2.P V2.G (entB m C x).f l os ((entB m C x).ans l os) := by
  intro l os hp
  obtain ⟨⟨a, h1, h2, h3⟩, h4⟩ : (∃ a, nP a ∧ nA a = l ∧ nO a = os) ∧ (argN m l = true → os = [codO C]) := of_decide_eq_true hp
  show Ct V2.P V2.G 19 l os (φX (cond (argN m l) x (vN l os)))
  cases hb : argN m l with
  | true =>
    have := h4 hb
    subst h2
    have hm2 : a.2 = m := by simpa [argN, nA] using hb
    rw [this]
    have hn := next_ok C hC m hm
    rw [hx] at hn
    show Ct V2.P V2.G 19 [.ref keyBase 0, .int .i64 a.2] _ _
    rw [hm2]; exact hn
  | false =>
    subst h2 h3
    have : vN (nA a) (nO a) = nW a := valA_eq (fun a b _ _ h1 h2 => nInj a b h1 h2) h1
    rw [show cond false x (vN (nA a) (nO a)) = vN (nA a) (nO a) from rfl, this]
    exact next_ok a.1 h1.1 a.2 h1.2
theorem gB_eq {m : Int} {C D : CODES} {n : Int} (h : D.Ok) (hn : 1 ≤ n) (he : n = m → D = C) : gB m C [.ref 1000000 0, .int .i64 n] [codO D] = true := by
  refine decide_eq_true ⟨⟨(D, n), ⟨h, hn⟩, rfl, rfl⟩, fun ha => ?_⟩
  have : n = m := by simpa [argN] using ha
  rw [he this]
end
theorem argN_ne {m n : Int} (h : n ≠ m) : argN m [.ref 1000000 0, .int .i64 n] = false := by simpa [argN] using h
theorem vA_kind (a b : CODES × Int) (x : VAL × CODES) (h : vA a = vA b) (_ : vO a = vO b) (hx : vPost a x) : vPost b x := by
  simp only [vA, List.cons.injEq, AV.int.injEq, true_and, and_true] at h
  unfold vPost at *
  rw [← h]; exact hx
def φQ (x : EXP × CODES) : AV × List AO := (.agg x.1.c, [codO x.2])
def tPost (x : EXP × CODES) : Prop := testOk x.1 ∧ x.2.Ok
theorem fill_one {v : VAL} : ∀ j, j < [v].length → fillGet zV [(0, .agg v.c)] j = ([v].getD j default).c := fun j hj => by
  match j, hj with
  | 0, _ => rfl
theorem getV_at {l : List VAL} : ∀ j, j < l.length → getV l j = (l.getD j default).c := fun j hj => by
  unfold getV
  simp [List.getD, hj]
def opOk (op kind : Int) : Prop := 6 ≤ op ∧ op ≤ 15 ∧ op ≠ 8 ∧ op ≠ 6 ∧ (needsText op = true → kind = 3)
section
variable {C : CODES} {dk dn : List UInt8} (h1 : keyB dk = true) (h2 : keyB dn = true) (h3 : dk.length ≤ 100) (h4 : dn.length ≤ 100)
include h1 h2 h3 h4
theorem leaf0 {D : CODES} (hD : D.Ok) {g : Nat → List AV} (hct : Ct V2.P V2.G 47 (cA C) (cO C) (.agg (exC 6 dk dn (.sl .fit 0 0 g)), [codO D])) : ∃ x, tPost x ∧ Ct V2.P V2.G 47 (cA C) (cO C) (φQ x) := by
  refine ⟨(.mk 6 dk dn [] [], D), ⟨⟨part_test (by omega) (by omega) h1 h2 (by intro v hv; cases hv) (by simp) rfl (by intro h; cases h), rfl, .mk _ (by show dk.length ≤ maxS; unfold maxS; omega) (by show dn.length ≤ maxS; unfold maxS; omega) ⟨by show 0 ≤ _; omega, by intro v hv; cases hv⟩ (by show 0 ≤ _; omega) (by intro v hv; cases hv)⟩, hD⟩, ?_⟩
  refine hct.res ?_ fun c v hv => ?_
  · show (AV.agg (EXP.c (.mk 6 dk dn [] []))).keys = []
    rw [EXP.c_eq]; simp [expC, AV.keys, keysL, valL]
  · show Rep c (.agg (EXP.c (.mk 6 dk dn [] []))) v
    rw [EXP.c_eq]
    show Rep c (.agg [.int .i64 6, .str dk, .str dn, valL [], .sl .no 5 0 (EXP.row [])]) v
    refine agg_map (us := [.int .i64 6, .str dk, .str dn, .sl .fit 0 0 g, .sl .fit 0 0 fun _ => []]) rfl (fun i u u' hu hu' => ?_) hv
    match i with
    | 0 => simp only [List.getElem?_cons_zero, Option.some.injEq] at hu hu'; subst hu hu'; exact ⟨rfl, fun x h => h⟩
    | 1 => simp only [List.getElem?_cons_succ, List.getElem?_cons_zero, Option.some.injEq] at hu hu'; subst hu hu'; exact ⟨rfl, fun x h => h⟩
    | 2 => simp only [List.getElem?_cons_succ, List.getElem?_cons_zero, Option.some.injEq] at hu hu'; subst hu hu'; exact ⟨rfl, fun x h => h⟩
    | 3 => simp only [List.getElem?_cons_succ, List.getElem?_cons_zero, Option.some.injEq] at hu hu'; subst hu hu'; exact ⟨rfl, sl_fit⟩
    | 4 => simp only [List.getElem?_cons_succ, List.getElem?_cons_zero, Option.some.injEq] at hu hu'; subst hu hu'; exact ⟨rfl, sl_fit⟩
    | i + 5 => simp at hu
theorem leaf1 {C2 : CODES} {kind op : Int} {y : VAL × CODES} (hy : vPost (C2, kind) y) (hop : opOk op kind) (hct : Ct V2.P V2.G 47 (cA C) (cO C) (.agg (exC op dk dn (.sl .fit 4 1 (fillGet zV [(0, .agg (VAL.c y.1))]))), [codO y.2])) : ∃ x, tPost x ∧ Ct V2.P V2.G 47 (cA C) (cO C) (φQ x) := by
  obtain ⟨⟨g1, g2, g3⟩, g4⟩ := hy
  obtain ⟨o1, o2, o3, o4, o5⟩ := hop
  refine ⟨(.mk op dk dn [y.1] [], y.2), ⟨⟨part_test o1 o2 h1 h2 (by intro v hv; simp at hv; subst hv; exact g2) (by simp) (by rw [beq_eq_false_iff_ne.2 o3, show (op != 6) = true by simp [o4]]; rfl) (fun h => by show y.1.kind = 3; rw [g1]; exact o5 h), rfl, .mk _ (by show dk.length ≤ maxS; unfold maxS; omega) (by show dn.length ≤ maxS; unfold maxS; omega) ⟨by show 1 ≤ _; omega, by intro v hv; have : v ∈ [y.1] := hv; simp at this; subst this; exact g3⟩ (by show 0 ≤ _; omega) (by intro v hv; cases hv)⟩, g4⟩, ?_⟩
  exact test_ct (l := [y.1]) (same_cells fill_one) hct
theorem leafL {kind : Int} {z : List VAL × CODES} (hz : 1 ≤ z.1.length ∧ z.1.length ≤ 3 ∧ (∀ v ∈ z.1, goodVal kind v) ∧ z.2.Ok) {o : Own} (hct : Ct V2.P V2.G 47 (cA C) (cO C) (.agg (exC 8 dk dn (.sl o 4 z.1.length (getV z.1))), [codO z.2])) : ∃ x, tPost x ∧ Ct V2.P V2.G 47 (cA C) (cO C) (φQ x) := by
  obtain ⟨z1, z2, z3, z4⟩ := hz
  refine ⟨(.mk 8 dk dn z.1 [], z.2), ⟨⟨part_test (by omega) (by omega) h1 h2 (fun v hv => (z3 v hv).2.1) (by omega) (by show decide (z.1.length > 0) = true; exact decide_eq_true (by omega)) (by intro h; cases h), rfl, .mk _ (by show dk.length ≤ maxS; unfold maxS; omega) (by show dn.length ≤ maxS; unfold maxS; omega) ⟨by show z.1.length ≤ _; omega, fun v hv => (z3 v hv).2.2⟩ (by show 0 ≤ _; omega) (by intro v hv; cases hv)⟩, z4⟩, ?_⟩
  exact test_ct (l := z.1) (same_cells getV_at) hct
end
/-- The loop of In. -/
abbrev TSt := CODES ⊕ (List VAL × CODES)
def tS (dk dn : List UInt8) (dt : Int) : TSt → St
  | .inl C => TS0 dk dn dt C
  | .inr (l, C) => TS dk dn dt l.length (getV l) C l.length
def tI (dt : Int) : TSt → Prop
  | .inl C => C.Ok
  | .inr (l, C) => C.Ok ∧ 1 ≤ l.length ∧ l.length ≤ 3 ∧ ∀ v ∈ l, goodVal dt v
def tM : TSt → Nat
  | .inl _ => 5
  | .inr (l, _) => 4 - l.length
def tZ (dt : Int) (z : List VAL × CODES) : Prop := 1 ≤ z.1.length ∧ z.1.length ≤ 3 ∧ (∀ v ∈ z.1, goodVal dt v) ∧ z.2.Ok
instance : Inhabited (List VAL × CODES) := ⟨([], default)⟩
theorem getV_app (l : List VAL) (v : VAL) : appGet l.length 1 (getV l) (fillGet zV [(0, .agg v.c)]) = getV (l ++ [v]) := by
  funext j
  unfold appGet getV
  by_cases h : j < l.length
  · rw [bltT h]
    simp [List.getD, h, List.getElem?_append_left]
  · have hb : Nat.blt j l.length = false := by
      cases e : Nat.blt j l.length with
      | false => rfl
      | true => exact absurd (ltB e) h
    rw [hb, cond_false]
    by_cases h1 : j = l.length
    · subst h1
      rw [bltT (by omega), cond_true, Nat.sub_self]
      simp [fillGet, AV.cells, List.getD]
    · have hb1 : Nat.blt j (l.length + 1) = false := by
        cases e : Nat.blt j (l.length + 1) with
        | false => rfl
        | true => exact absurd (ltB e) (by omega)
      rw [hb1, cond_false]
      simp only [List.map_append, List.map_cons, List.map_nil, List.getD]
      rw [List.getElem?_eq_none (by simp; omega), List.getElem?_eq_none (by simp; omega)]
theorem test_loop (dk dn : List UInt8) (dt : Int) (h1 : 1 ≤ dt) (h5 : dt ≤ 5) (ge : List AV → List AO → Bool) (ve : List AV → List AO → Int × CODES) (hge : ∀ C : CODES, C.Ok → ge [.ref 1000000 0, .int .i64 3] [codO C] = true) (hve : ∀ C : CODES, C.Ok → ve [.ref 1000000 0, .int .i64 3] [codO C] = nextR C 3)
    (wv : CODES × Int → VAL × CODES) (hwv : ∀ a, vP a → vPost a (wv a)) (T : List Ent) :
    ∃ w : TSt → List VAL × CODES, (∀ v, tI dt v → tZ dt (w v)) ∧ ∀ L, LoopOk (V2.run (mkE 19 ge ve φX :: entC 58 vA vO vP wv φV :: T) 3 [] L [] 47) 47 [1, 1, 1, 1, 1, 1, 0, 1, 0, 0, 0, 0, 0, 0, 0, 1, 0, 1, 0, 1, 0, 1, 0] (mkO (goodS (tS dk dn dt) (tI dt)) (valS (tS dk dn dt) (tI dt) w) (outT dk dn)) := by
  refine loop_ex (Xf := fun L => V2.run (mkE 19 ge ve φX :: entC 58 vA vO vP wv φV :: T) 3 [] L [] 47) (b := subC (bodyOf V2.P 47) ([1, 1, 1, 1, 1, 1, 0, 1, 0, 0, 0, 0, 0, 0, 0, 1, 0, 1, 0, 1, 0, 1, 0] ++ [0])) (tS dk dn dt) (tI dt) tM (outT dk dn) (fun _ => tZ dt) (fun _ => by kernel_rfl) 9 fun v hv => ?_
  have hgv : ∀ C : CODES, C.Ok → goodA vA vO vP [.ref 1000000 0, .int .i64 dt] [codO C] = true := fun C hC => goodA_eq (A := vA) (O := vO) (v := (C, dt)) ⟨hC, h1, h5⟩
  have hvv : ∀ C : CODES, C.Ok → vPost (C, dt) (valA vA vO vP wv [.ref 1000000 0, .int .i64 dt] [codO C]) := fun C hC => valA_post (A := vA) (O := vO) (a := (C, dt)) hwv vA_kind ⟨hC, h1, h5⟩
  cases v with
  | inl C =>
    have hC : C.Ok := hv
    obtain ⟨q0, q1, q2⟩ := nextR_ok hC (m := 3) (by omega)
    refine .inr ⟨.inr ([(valA vA vO vP wv [.ref 1000000 0, .int .i64 dt] [codO (nextR C 3).2]).1], (valA vA vO vP wv [.ref 1000000 0, .int .i64 dt] [codO (nextR C 3).2]).2), ?_, by show 4 - 1 < 5; omega, fun _ h => h, fun L k kn => ?_⟩
    · obtain ⟨g1, g2⟩ := hvv _ q2
      exact ⟨g2, by show 1 ≤ 1; omega, by show 1 ≤ 3; omega, fun v hv => by simp at hv; subst hv; exact g1⟩
    · refine (test_r0 ge _ ve _ T L _ dk dn dt C kn k (hve C hC) rfl).trans ?_
      rw [hge C hC, decide_eq_true q0, hgv _ q2]
      have := getV_app [] (valA vA vO vP wv [.ref 1000000 0, .int .i64 dt] [codO (nextR C 3).2]).1
      show kn _ = kn _
      congr 1
      show TS dk dn dt 1 (appGet 0 1 (fun _ => zV) _) _ _ = TS dk dn dt 1 (getV [_]) _ 1
      rw [show (fun _ : Nat => zV) = getV [] by funext j; rfl]
      exact congrArg (fun g => TS dk dn dt 1 g _ 1) this
  | inr x =>
    obtain ⟨l, C⟩ := x
    obtain ⟨hC, l1, l3, lv⟩ := hv
    obtain ⟨q0, q1, q2⟩ := nextR_ok hC (m := 3) (by omega)
    obtain ⟨n, hn⟩ : ∃ n, l.length = n + 1 := ⟨l.length - 1, by omega⟩
    by_cases hi : (l.length : Int) ≤ (nextR C 3).1
    · refine .inr ⟨.inr (l ++ [(valA vA vO vP wv [.ref 1000000 0, .int .i64 dt] [codO (nextR C 3).2]).1], (valA vA vO vP wv [.ref 1000000 0, .int .i64 dt] [codO (nextR C 3).2]).2), ?_, ?_, fun _ h => h, fun L k kn => ?_⟩
      · obtain ⟨g1, g2⟩ := hvv _ q2
        refine ⟨g2, by simp, by simp; omega, fun v hv => ?_⟩
        rcases List.mem_append.1 hv with hv | hv
        · exact lv v hv
        · simp at hv; subst hv; exact g1
      · show 4 - (l ++ [_]).length < 4 - l.length
        rw [List.length_append, List.length_singleton]; omega
      · have := test_r ge (goodA vA vO vP) ve (valA vA vO vP wv) T L 9 dk dn dt n (getV l) C l.length kn k (hve C hC) rfl
        rw [← hn] at this
        refine this.trans ?_
        rw [hge C hC, decide_eq_true hi, hgv _ q2, getV_app, wrap_next (n := 4) (by omega) (by omega)]
        have hr : (roomy 56 (l.length + 1) && Nat.beq l.length l.length) = true := by
          have : l.length = 1 ∨ l.length = 2 ∨ l.length = 3 := by omega
          rcases this with e | e | e <;> rw [e] <;> rfl
        rw [hr]
        show kn _ = kn (TS dk dn dt (l ++ [_]).length (getV (l ++ [_])) _ (l ++ [_]).length)
        rw [List.length_append, List.length_singleton]; rfl
    · refine .inl ⟨(l, (nextR C 3).2), ⟨l1, l3, lv, q2⟩, fun L k kn => ?_⟩
      have := test_r ge (goodA vA vO vP) ve (valA vA vO vP wv) T L 9 dk dn dt n (getV l) C l.length kn k (hve C hC) rfl
      rw [← hn] at this
      refine this.trans ?_
      rw [hge C hC, decide_eq_false hi]; rfl
theorem tS_good (dk dn : List UInt8) (dt : Int) {C : CODES} (h : C.Ok) : goodS (tS dk dn dt) (tI dt) (TS0 dk dn dt C) = true := goodS_eq (S := tS dk dn dt) (v := Sum.inl C) h
theorem tS_post (dk dn : List UInt8) (dt : Int) {w : TSt → List VAL × CODES} (hw : ∀ v, tI dt v → tZ dt (w v)) {C : CODES} (h : C.Ok) : tZ dt (valS (tS dk dn dt) (tI dt) w (TS0 dk dn dt C)) :=
  valS_post (S := tS dk dn dt) (a := Sum.inl C) (Post := fun (_ : TSt) (x : List VAL × CODES) => tZ dt x) hw (fun _ _ _ _ h => h) h
theorem vA_good {dt : Int} (h1 : 1 ≤ dt) (h5 : dt ≤ 5) {C : CODES} (h : C.Ok) : goodA vA vO vP [.ref 1000000 0, .int .i64 dt] [codO C] = true := goodA_eq (A := vA) (O := vO) (v := (C, dt)) ⟨h, h1, h5⟩
theorem vA_post {dt : Int} {wv : CODES × Int → VAL × CODES} (hwv : ∀ a, vP a → vPost a (wv a)) (h1 : 1 ≤ dt) (h5 : dt ≤ 5) {C : CODES} (h : C.Ok) : vPost (C, dt) (valA vA vO vP wv [.ref 1000000 0, .int .i64 dt] [codO C]) := valA_post (A := vA) (O := vO) (a := (C, dt)) hwv vA_kind ⟨h, h1, h5⟩
end Go.SH

namespace Go.SH
open Go Go.Ab Go.Proofs
set_option linter.unusedVariables false
set_option linter.unusedSimpArgs false
theorem wrap_lit {a b : Int} (h : a + b < 100) (h0 : 0 ≤ a + b) : IntKind.wrap .i64 (a + b) = a + b := wrap_i64 (by omega) (by omega)
section
variable {C D : CODES} (hC : C.Ok) (hD : D.Ok) {wv : CODES × Int → VAL × CODES} (hwv : ∀ a, vP a → vPost a (wv a)) (htv : ∀ l os, (entC 58 vA vO vP wv φV).pre l os = true → Ct V2.P V2.G (entC 58 vA vO vP wv φV).f l os ((entC 58 vA vO vP wv φV).ans l os))
  {wk : CODES → List UInt8 × CODES} (hwk : ∀ C, C.Ok → (wk C).1 ∈ keysL10 ∧ (wk C).2.Ok) (htk : ∀ l os, (entC 104 cA cO CODES.Ok wk φT).pre l os = true → Ct V2.P V2.G (entC 104 cA cO CODES.Ok wk φT).f l os ((entC 104 cA cO CODES.Ok wk φT).ans l os))
include hC hD hwv htv hwk htk
set_option maxHeartbeats 400000 in
set_option maxRecDepth 100000 in
theorem test_ex0 (h9 : nextR C 9 = (0, D)) : ∃ x, tPost x ∧ Ct V2.P V2.G 47 (cA C) (cO C) (φQ x) := by
  have hT := entB_ok (m := 9) (by omega) hC h9
  have k1 : keyB [100, 101, 118, 105, 99, 101] = true := by kernel_rfl
  have k2 : keyB [99, 111, 114, 101, 115] = true := by kernel_rfl
  obtain ⟨w, hw, hl⟩ := test_loop [100, 101, 118, 105, 99, 101] [99, 111, 114, 101, 115] 2 (by omega) (by omega) (gB 9 C) (fun l os => cond (argN 9 l) (0, D) (vN l os)) (fun C' h' => gB_eq h' (by omega) (by omega)) (fun C' h' => by
    show cond (argN 9 [.ref 1000000 0, .int .i64 3]) (0, D) (vN [.ref 1000000 0, .int .i64 3] [codO C']) = _
    rw [argN_ne (by decide)]; exact vN_eq h' (by omega)) wv hwv [entC 104 cA cO CODES.Ok wk φT]
  have hc := fun r he => ct_loops (V := V2) (f := 47) (l := cA C) (os := cO C) (r := r) (n := 9) (d := 3) (T := [entB 9 C (0, D), entC 58 vA vO vP wv φV, entC 104 cA cO CODES.Ok wk φT]) mixed2 funcs2 (tabOk_cons hT (tabOk_cons htv (tabOk_cons htk tabOk_nil))) (loopsOk_cons (hl _) loopsOk_nil) he
  obtain ⟨q0, q1, q2⟩ := nextR_ok hD (m := 5) (by omega)
  cases h5e : nextR D 5 with
  | mk r C2 =>
  rw [h5e] at q0 q1 q2
  have q0 : 0 ≤ r := q0
  have q1 : r < 5 := q1
  have q2 : C2.Ok := q2
  have ht5 : vN [.ref 1000000 0, .int .i64 5] [codO D] = (r, C2) := (vN_eq hD (by omega)).trans h5e
  have a5 : argN 9 [.ref 1000000 0, .int .i64 5] = false := argN_ne (by decide)
  have a4 : argN 9 [.ref 1000000 0, .int .i64 4] = false := argN_ne (by decide)
  have a2 : argN 9 [.ref 1000000 0, .int .i64 2] = false := argN_ne (by decide)
  have hg9 : gB 9 C [.ref 1000000 0, .int .i64 (IntKind.wrap .i64 (((8 : Nat) : Int) + 1))] [codO C] = true := gB_eq (n := 9) hC (by omega) fun _ => rfl
  have hg5 : gB 9 C [.ref 1000000 0, .int .i64 5] [codO D] = true := gB_eq hD (by omega) (by omega)
  have hn4 : gB 9 C [.ref 1000000 0, .int .i64 4] [codO C2] = true := gB_eq q2 (by omega) (by omega)
  have hn2 : gB 9 C [.ref 1000000 0, .int .i64 2] [codO C2] = true := gB_eq q2 (by omega) (by omega)
  have hv2 : goodA vA vO vP [.ref 1000000 0, .int .i64 2] [codO C2] = true := vA_good (by omega) (by omega) q2
  have hv3 : goodA vA vO vP [.ref 1000000 0, .int .i64 3] [codO C2] = true := vA_good (by omega) (by omega) q2
  have hy2 : vPost (C2, 2) (valA vA vO vP wv [.ref 1000000 0, .int .i64 2] [codO C2]) := vA_post hwv (by omega) (by omega) q2
  have hy3 : vPost (C2, 3) (valA vA vO vP wv [.ref 1000000 0, .int .i64 3] [codO C2]) := vA_post hwv (by omega) (by omega) q2
  have hz : goodS (tS [100, 101, 118, 105, 99, 101] [99, 111, 114, 101, 115] 2) (tI 2) (TS0 [100, 101, 118, 105, 99, 101] [99, 111, 114, 101, 115] 2 C2) = true := tS_good [100, 101, 118, 105, 99, 101] [99, 111, 114, 101, 115] 2 q2
  have hzp : tZ 2 (valS (tS [100, 101, 118, 105, 99, 101] [99, 111, 114, 101, 115] 2) (tI 2) w (TS0 [100, 101, 118, 105, 99, 101] [99, 111, 114, 101, 115] 2 C2)) := tS_post [100, 101, 118, 105, 99, 101] [99, 111, 114, 101, 115] 2 hw q2
  have hr : r = 0 ∨ r = 1 ∨ r = 2 ∨ r = 3 ∨ r = 4 := by omega
  have h3 : ([100, 101, 118, 105, 99, 101] : List UInt8).length ≤ 100 := by decide
  have h4 : ([99, 111, 114, 101, 115] : List UInt8).length ≤ 100 := by decide
  rcases hr with rfl | rfl | rfl | rfl | rfl
  · exact leaf0 (D := C2) k1 k2 h3 h4 q2 (hc _ ((test_0 (gB 9 C) (goodA vA vO vP) (goodA cA cO CODES.Ok) vN (valA vA vO vP wv) (valA cA cO CODES.Ok wk) (goodS (tS [100, 101, 118, 105, 99, 101] [99, 111, 114, 101, 115] 2) (tI 2)) (valS (tS [100, 101, 118, 105, 99, 101] [99, 111, 114, 101, 115] 2) (tI 2) w) C D (t1 := (0, C2)) ht5 rfl rfl rfl rfl).trans ((congrArg (fun b => cond b _ _) hg9).trans (by simp only [a5, a4, a2, cond_false, cond_true, hg5, hn4, hn2, hv2, hv3, hz] <;> rfl))))
  · generalize hz2 : valS (tS [100, 101, 118, 105, 99, 101] [99, 111, 114, 101, 115] 2) (tI 2) w (TS0 [100, 101, 118, 105, 99, 101] [99, 111, 114, 101, 115] 2 C2) = z at hzp
    exact leafL (o := .no) k1 k2 h3 h4 hzp (hc (.agg (exC 8 [100, 101, 118, 105, 99, 101] [99, 111, 114, 101, 115] (.sl .no 4 z.1.length (getV z.1))), [codO z.2]) ((test_0 (gB 9 C) (goodA vA vO vP) (goodA cA cO CODES.Ok) vN (valA vA vO vP wv) (valA cA cO CODES.Ok wk) (goodS (tS [100, 101, 118, 105, 99, 101] [99, 111, 114, 101, 115] 2) (tI 2)) (valS (tS [100, 101, 118, 105, 99, 101] [99, 111, 114, 101, 115] 2) (tI 2) w) C D (t1 := (1, C2)) ht5 (t2 := z) (by simp only [a5, cond_false]; exact hz2) rfl rfl rfl).trans ((congrArg (fun b => cond b _ _) hg9).trans (by simp only [a5, a4, a2, cond_false, cond_true, hg5, hn4, hn2, hv2, hv3, hz] <;> rfl))))
  · exact leaf1 (op := 7) (y := valA vA vO vP wv [.ref 1000000 0, .int .i64 2] [codO C2]) k1 k2 h3 h4 hy2 ⟨by omega, by omega, by omega, by omega, by intro h; cases h⟩ (hc _ ((test_0 (gB 9 C) (goodA vA vO vP) (goodA cA cO CODES.Ok) vN (valA vA vO vP wv) (valA cA cO CODES.Ok wk) (goodS (tS [100, 101, 118, 105, 99, 101] [99, 111, 114, 101, 115] 2) (tI 2)) (valS (tS [100, 101, 118, 105, 99, 101] [99, 111, 114, 101, 115] 2) (tI 2) w) C D (t1 := (2, C2)) ht5 rfl rfl rfl rfl).trans ((congrArg (fun b => cond b _ _) hg9).trans (by simp only [a5, a4, a2, cond_false, cond_true, hg5, hn4, hn2, hv2, hv3, hz] <;> rfl))))
  · obtain ⟨p0, p1, p2⟩ := nextR_ok q2 (m := 4) (by omega)
    cases hne : nextR C2 4 with
    | mk u C3 =>
    rw [hne] at p0 p1 p2
    have p0 : 0 ≤ u := p0
    have p1 : u < 4 := p1
    have p2 : C3.Ok := p2
    have htn : vN [.ref 1000000 0, .int .i64 4] [codO C2] = (u, C3) := (vN_eq q2 (by omega)).trans hne
    have hvC : goodA vA vO vP [.ref 1000000 0, .int .i64 2] [codO C3] = true := vA_good (by omega) (by omega) p2
    have hyC : vPost (C3, 2) (valA vA vO vP wv [.ref 1000000 0, .int .i64 2] [codO C3]) := vA_post hwv (by omega) (by omega) p2
    have hwr : IntKind.wrap .i64 (12 + u) = 12 + u := wrap_lit (by omega) (by omega)
    exact leaf1 (op := 12 + u) (y := valA vA vO vP wv [.ref 1000000 0, .int .i64 2] [codO C3]) k1 k2 h3 h4 hyC ⟨by omega, by omega, by omega, by omega, fun h => by rcases (show u = 0 ∨ u = 1 ∨ u = 2 ∨ u = 3 by omega) with rfl | rfl | rfl | rfl <;> cases h⟩ (hc _ ((test_0 (gB 9 C) (goodA vA vO vP) (goodA cA cO CODES.Ok) vN (valA vA vO vP wv) (valA cA cO CODES.Ok wk) (goodS (tS [100, 101, 118, 105, 99, 101] [99, 111, 114, 101, 115] 2) (tI 2)) (valS (tS [100, 101, 118, 105, 99, 101] [99, 111, 114, 101, 115] 2) (tI 2) w) C D (t1 := (3, C2)) ht5 rfl rfl (t4 := (u, C3)) htn rfl).trans ((congrArg (fun b => cond b _ _) hg9).trans (by simp only [a5, a4, a2, cond_false, cond_true, hg5, hn4, hn2, hv2, hv3, hz, hvC, hwr] <;> rfl))))
  · obtain ⟨p0, p1, p2⟩ := nextR_ok q2 (m := 4) (by omega)
    cases hne : nextR C2 4 with
    | mk u C3 =>
    rw [hne] at p0 p1 p2
    have p0 : 0 ≤ u := p0
    have p1 : u < 4 := p1
    have p2 : C3.Ok := p2
    have htn : vN [.ref 1000000 0, .int .i64 4] [codO C2] = (u, C3) := (vN_eq q2 (by omega)).trans hne
    have hvC : goodA vA vO vP [.ref 1000000 0, .int .i64 2] [codO C3] = true := vA_good (by omega) (by omega) p2
    have hyC : vPost (C3, 2) (valA vA vO vP wv [.ref 1000000 0, .int .i64 2] [codO C3]) := vA_post hwv (by omega) (by omega) p2
    have hwr : IntKind.wrap .i64 (12 + u) = 12 + u := wrap_lit (by omega) (by omega)
    exact leaf1 (op := 12 + u) (y := valA vA vO vP wv [.ref 1000000 0, .int .i64 2] [codO C3]) k1 k2 h3 h4 hyC ⟨by omega, by omega, by omega, by omega, fun h => by rcases (show u = 0 ∨ u = 1 ∨ u = 2 ∨ u = 3 by omega) with rfl | rfl | rfl | rfl <;> cases h⟩ (hc _ ((test_0 (gB 9 C) (goodA vA vO vP) (goodA cA cO CODES.Ok) vN (valA vA vO vP wv) (valA cA cO CODES.Ok wk) (goodS (tS [100, 101, 118, 105, 99, 101] [99, 111, 114, 101, 115] 2) (tI 2)) (valS (tS [100, 101, 118, 105, 99, 101] [99, 111, 114, 101, 115] 2) (tI 2) w) C D (t1 := (4, C2)) ht5 rfl rfl (t4 := (u, C3)) htn rfl).trans ((congrArg (fun b => cond b _ _) hg9).trans (by simp only [a5, a4, a2, cond_false, cond_true, hg5, hn4, hn2, hv2, hv3, hz, hvC, hwr] <;> rfl))))
set_option maxHeartbeats 400000 in
set_option maxRecDepth 100000 in
theorem test_ex1 (h9 : nextR C 9 = (1, D)) : ∃ x, tPost x ∧ Ct V2.P V2.G 47 (cA C) (cO C) (φQ x) := by
  have hT := entB_ok (m := 9) (by omega) hC h9
  have k1 : keyB [100, 101, 118, 105, 99, 101] = true := by kernel_rfl
  have k2 : keyB [111, 115] = true := by kernel_rfl
  obtain ⟨w, hw, hl⟩ := test_loop [100, 101, 118, 105, 99, 101] [111, 115] 3 (by omega) (by omega) (gB 9 C) (fun l os => cond (argN 9 l) (1, D) (vN l os)) (fun C' h' => gB_eq h' (by omega) (by omega)) (fun C' h' => by
    show cond (argN 9 [.ref 1000000 0, .int .i64 3]) (1, D) (vN [.ref 1000000 0, .int .i64 3] [codO C']) = _
    rw [argN_ne (by decide)]; exact vN_eq h' (by omega)) wv hwv [entC 104 cA cO CODES.Ok wk φT]
  have hc := fun r he => ct_loops (V := V2) (f := 47) (l := cA C) (os := cO C) (r := r) (n := 9) (d := 3) (T := [entB 9 C (1, D), entC 58 vA vO vP wv φV, entC 104 cA cO CODES.Ok wk φT]) mixed2 funcs2 (tabOk_cons hT (tabOk_cons htv (tabOk_cons htk tabOk_nil))) (loopsOk_cons (hl _) loopsOk_nil) he
  obtain ⟨q0, q1, q2⟩ := nextR_ok hD (m := 5) (by omega)
  cases h5e : nextR D 5 with
  | mk r C2 =>
  rw [h5e] at q0 q1 q2
  have q0 : 0 ≤ r := q0
  have q1 : r < 5 := q1
  have q2 : C2.Ok := q2
  have ht5 : vN [.ref 1000000 0, .int .i64 5] [codO D] = (r, C2) := (vN_eq hD (by omega)).trans h5e
  have a5 : argN 9 [.ref 1000000 0, .int .i64 5] = false := argN_ne (by decide)
  have a4 : argN 9 [.ref 1000000 0, .int .i64 4] = false := argN_ne (by decide)
  have a2 : argN 9 [.ref 1000000 0, .int .i64 2] = false := argN_ne (by decide)
  have hg9 : gB 9 C [.ref 1000000 0, .int .i64 (IntKind.wrap .i64 (((8 : Nat) : Int) + 1))] [codO C] = true := gB_eq (n := 9) hC (by omega) fun _ => rfl
  have hg5 : gB 9 C [.ref 1000000 0, .int .i64 5] [codO D] = true := gB_eq hD (by omega) (by omega)
  have hn4 : gB 9 C [.ref 1000000 0, .int .i64 4] [codO C2] = true := gB_eq q2 (by omega) (by omega)
  have hn2 : gB 9 C [.ref 1000000 0, .int .i64 2] [codO C2] = true := gB_eq q2 (by omega) (by omega)
  have hv2 : goodA vA vO vP [.ref 1000000 0, .int .i64 3] [codO C2] = true := vA_good (by omega) (by omega) q2
  have hv3 : goodA vA vO vP [.ref 1000000 0, .int .i64 3] [codO C2] = true := vA_good (by omega) (by omega) q2
  have hy2 : vPost (C2, 3) (valA vA vO vP wv [.ref 1000000 0, .int .i64 3] [codO C2]) := vA_post hwv (by omega) (by omega) q2
  have hy3 : vPost (C2, 3) (valA vA vO vP wv [.ref 1000000 0, .int .i64 3] [codO C2]) := vA_post hwv (by omega) (by omega) q2
  have hz : goodS (tS [100, 101, 118, 105, 99, 101] [111, 115] 3) (tI 3) (TS0 [100, 101, 118, 105, 99, 101] [111, 115] 3 C2) = true := tS_good [100, 101, 118, 105, 99, 101] [111, 115] 3 q2
  have hzp : tZ 3 (valS (tS [100, 101, 118, 105, 99, 101] [111, 115] 3) (tI 3) w (TS0 [100, 101, 118, 105, 99, 101] [111, 115] 3 C2)) := tS_post [100, 101, 118, 105, 99, 101] [111, 115] 3 hw q2
  have hr : r = 0 ∨ r = 1 ∨ r = 2 ∨ r = 3 ∨ r = 4 := by omega
  have h3 : ([100, 101, 118, 105, 99, 101] : List UInt8).length ≤ 100 := by decide
  have h4 : ([111, 115] : List UInt8).length ≤ 100 := by decide
  rcases hr with rfl | rfl | rfl | rfl | rfl
  · exact leaf0 (D := C2) k1 k2 h3 h4 q2 (hc _ ((test_1 (gB 9 C) (goodA vA vO vP) (goodA cA cO CODES.Ok) vN (valA vA vO vP wv) (valA cA cO CODES.Ok wk) (goodS (tS [100, 101, 118, 105, 99, 101] [111, 115] 3) (tI 3)) (valS (tS [100, 101, 118, 105, 99, 101] [111, 115] 3) (tI 3) w) C D (t1 := (0, C2)) ht5 rfl rfl rfl rfl rfl rfl).trans ((congrArg (fun b => cond b _ _) hg9).trans (by simp only [a5, a4, a2, cond_false, cond_true, hg5, hn4, hn2, hv2, hv3, hz] <;> rfl))))
  · generalize hz2 : valS (tS [100, 101, 118, 105, 99, 101] [111, 115] 3) (tI 3) w (TS0 [100, 101, 118, 105, 99, 101] [111, 115] 3 C2) = z at hzp
    exact leafL (o := .no) k1 k2 h3 h4 hzp (hc (.agg (exC 8 [100, 101, 118, 105, 99, 101] [111, 115] (.sl .no 4 z.1.length (getV z.1))), [codO z.2]) ((test_1 (gB 9 C) (goodA vA vO vP) (goodA cA cO CODES.Ok) vN (valA vA vO vP wv) (valA cA cO CODES.Ok wk) (goodS (tS [100, 101, 118, 105, 99, 101] [111, 115] 3) (tI 3)) (valS (tS [100, 101, 118, 105, 99, 101] [111, 115] 3) (tI 3) w) C D (t1 := (1, C2)) ht5 (t2 := z) (by simp only [a5, cond_false]; exact hz2) rfl rfl rfl rfl rfl).trans ((congrArg (fun b => cond b _ _) hg9).trans (by simp only [a5, a4, a2, cond_false, cond_true, hg5, hn4, hn2, hv2, hv3, hz] <;> rfl))))
  · exact leaf1 (op := 11) (y := valA vA vO vP wv [.ref 1000000 0, .int .i64 3] [codO C2]) k1 k2 h3 h4 hy3 ⟨by omega, by omega, by omega, by omega, fun _ => rfl⟩ (hc _ ((test_1 (gB 9 C) (goodA vA vO vP) (goodA cA cO CODES.Ok) vN (valA vA vO vP wv) (valA cA cO CODES.Ok wk) (goodS (tS [100, 101, 118, 105, 99, 101] [111, 115] 3) (tI 3)) (valS (tS [100, 101, 118, 105, 99, 101] [111, 115] 3) (tI 3) w) C D (t1 := (2, C2)) ht5 rfl rfl rfl rfl rfl rfl).trans ((congrArg (fun b => cond b _ _) hg9).trans (by simp only [a5, a4, a2, cond_false, cond_true, hg5, hn4, hn2, hv2, hv3, hz] <;> rfl))))
  · obtain ⟨p0, p1, p2⟩ := nextR_ok q2 (m := 2) (by omega)
    cases hne : nextR C2 2 with
    | mk u C3 =>
    rw [hne] at p0 p1 p2
    have p0 : 0 ≤ u := p0
    have p1 : u < 2 := p1
    have p2 : C3.Ok := p2
    have htn : vN [.ref 1000000 0, .int .i64 2] [codO C2] = (u, C3) := (vN_eq q2 (by omega)).trans hne
    have hvC : goodA vA vO vP [.ref 1000000 0, .int .i64 3] [codO C3] = true := vA_good (by omega) (by omega) p2
    have hyC : vPost (C3, 3) (valA vA vO vP wv [.ref 1000000 0, .int .i64 3] [codO C3]) := vA_post hwv (by omega) (by omega) p2
    have hwr : IntKind.wrap .i64 (9 + u) = 9 + u := wrap_lit (by omega) (by omega)
    exact leaf1 (op := 9 + u) (y := valA vA vO vP wv [.ref 1000000 0, .int .i64 3] [codO C3]) k1 k2 h3 h4 hyC ⟨by omega, by omega, by omega, by omega, fun _ => rfl⟩ (hc _ ((test_1 (gB 9 C) (goodA vA vO vP) (goodA cA cO CODES.Ok) vN (valA vA vO vP wv) (valA cA cO CODES.Ok wk) (goodS (tS [100, 101, 118, 105, 99, 101] [111, 115] 3) (tI 3)) (valS (tS [100, 101, 118, 105, 99, 101] [111, 115] 3) (tI 3) w) C D (t1 := (3, C2)) ht5 rfl rfl (t4 := (u, C3)) htn rfl rfl rfl).trans ((congrArg (fun b => cond b _ _) hg9).trans (by simp only [a5, a4, a2, cond_false, cond_true, hg5, hn4, hn2, hv2, hv3, hz, hvC, hwr] <;> rfl))))
  · obtain ⟨p0, p1, p2⟩ := nextR_ok q2 (m := 4) (by omega)
    cases hne : nextR C2 4 with
    | mk u C3 =>
    rw [hne] at p0 p1 p2
    have p0 : 0 ≤ u := p0
    have p1 : u < 4 := p1
    have p2 : C3.Ok := p2
    have htn : vN [.ref 1000000 0, .int .i64 4] [codO C2] = (u, C3) := (vN_eq q2 (by omega)).trans hne
    have hvC : goodA vA vO vP [.ref 1000000 0, .int .i64 3] [codO C3] = true := vA_good (by omega) (by omega) p2
    have hyC : vPost (C3, 3) (valA vA vO vP wv [.ref 1000000 0, .int .i64 3] [codO C3]) := vA_post hwv (by omega) (by omega) p2
    have hwr : IntKind.wrap .i64 (12 + u) = 12 + u := wrap_lit (by omega) (by omega)
    exact leaf1 (op := 12 + u) (y := valA vA vO vP wv [.ref 1000000 0, .int .i64 3] [codO C3]) k1 k2 h3 h4 hyC ⟨by omega, by omega, by omega, by omega, fun _ => rfl⟩ (hc _ ((test_1 (gB 9 C) (goodA vA vO vP) (goodA cA cO CODES.Ok) vN (valA vA vO vP wv) (valA cA cO CODES.Ok wk) (goodS (tS [100, 101, 118, 105, 99, 101] [111, 115] 3) (tI 3)) (valS (tS [100, 101, 118, 105, 99, 101] [111, 115] 3) (tI 3) w) C D (t1 := (4, C2)) ht5 rfl rfl rfl rfl (t6 := (u, C3)) htn rfl).trans ((congrArg (fun b => cond b _ _) hg9).trans (by simp only [a5, a4, a2, cond_false, cond_true, hg5, hn4, hn2, hv2, hv3, hz, hvC, hwr] <;> rfl))))
set_option maxHeartbeats 400000 in
set_option maxRecDepth 100000 in
theorem test_ex2 (h9 : nextR C 9 = (2, D)) : ∃ x, tPost x ∧ Ct V2.P V2.G 47 (cA C) (cO C) (φQ x) := by
  have hT := entB_ok (m := 9) (by omega) hC h9
  have k1 : keyB [117, 115, 101, 114] = true := by kernel_rfl
  have k2 : keyB [97, 103, 101] = true := by kernel_rfl
  obtain ⟨w, hw, hl⟩ := test_loop [117, 115, 101, 114] [97, 103, 101] 2 (by omega) (by omega) (gB 9 C) (fun l os => cond (argN 9 l) (2, D) (vN l os)) (fun C' h' => gB_eq h' (by omega) (by omega)) (fun C' h' => by
    show cond (argN 9 [.ref 1000000 0, .int .i64 3]) (2, D) (vN [.ref 1000000 0, .int .i64 3] [codO C']) = _
    rw [argN_ne (by decide)]; exact vN_eq h' (by omega)) wv hwv [entC 104 cA cO CODES.Ok wk φT]
  have hc := fun r he => ct_loops (V := V2) (f := 47) (l := cA C) (os := cO C) (r := r) (n := 9) (d := 3) (T := [entB 9 C (2, D), entC 58 vA vO vP wv φV, entC 104 cA cO CODES.Ok wk φT]) mixed2 funcs2 (tabOk_cons hT (tabOk_cons htv (tabOk_cons htk tabOk_nil))) (loopsOk_cons (hl _) loopsOk_nil) he
  obtain ⟨q0, q1, q2⟩ := nextR_ok hD (m := 5) (by omega)
  cases h5e : nextR D 5 with
  | mk r C2 =>
  rw [h5e] at q0 q1 q2
  have q0 : 0 ≤ r := q0
  have q1 : r < 5 := q1
  have q2 : C2.Ok := q2
  have ht5 : vN [.ref 1000000 0, .int .i64 5] [codO D] = (r, C2) := (vN_eq hD (by omega)).trans h5e
  have a5 : argN 9 [.ref 1000000 0, .int .i64 5] = false := argN_ne (by decide)
  have a4 : argN 9 [.ref 1000000 0, .int .i64 4] = false := argN_ne (by decide)
  have a2 : argN 9 [.ref 1000000 0, .int .i64 2] = false := argN_ne (by decide)
  have hg9 : gB 9 C [.ref 1000000 0, .int .i64 (IntKind.wrap .i64 (((8 : Nat) : Int) + 1))] [codO C] = true := gB_eq (n := 9) hC (by omega) fun _ => rfl
  have hg5 : gB 9 C [.ref 1000000 0, .int .i64 5] [codO D] = true := gB_eq hD (by omega) (by omega)
  have hn4 : gB 9 C [.ref 1000000 0, .int .i64 4] [codO C2] = true := gB_eq q2 (by omega) (by omega)
  have hn2 : gB 9 C [.ref 1000000 0, .int .i64 2] [codO C2] = true := gB_eq q2 (by omega) (by omega)
  have hv2 : goodA vA vO vP [.ref 1000000 0, .int .i64 2] [codO C2] = true := vA_good (by omega) (by omega) q2
  have hv3 : goodA vA vO vP [.ref 1000000 0, .int .i64 3] [codO C2] = true := vA_good (by omega) (by omega) q2
  have hy2 : vPost (C2, 2) (valA vA vO vP wv [.ref 1000000 0, .int .i64 2] [codO C2]) := vA_post hwv (by omega) (by omega) q2
  have hy3 : vPost (C2, 3) (valA vA vO vP wv [.ref 1000000 0, .int .i64 3] [codO C2]) := vA_post hwv (by omega) (by omega) q2
  have hz : goodS (tS [117, 115, 101, 114] [97, 103, 101] 2) (tI 2) (TS0 [117, 115, 101, 114] [97, 103, 101] 2 C2) = true := tS_good [117, 115, 101, 114] [97, 103, 101] 2 q2
  have hzp : tZ 2 (valS (tS [117, 115, 101, 114] [97, 103, 101] 2) (tI 2) w (TS0 [117, 115, 101, 114] [97, 103, 101] 2 C2)) := tS_post [117, 115, 101, 114] [97, 103, 101] 2 hw q2
  have hr : r = 0 ∨ r = 1 ∨ r = 2 ∨ r = 3 ∨ r = 4 := by omega
  have h3 : ([117, 115, 101, 114] : List UInt8).length ≤ 100 := by decide
  have h4 : ([97, 103, 101] : List UInt8).length ≤ 100 := by decide
  rcases hr with rfl | rfl | rfl | rfl | rfl
  · exact leaf0 (D := C2) k1 k2 h3 h4 q2 (hc _ ((test_2 (gB 9 C) (goodA vA vO vP) (goodA cA cO CODES.Ok) vN (valA vA vO vP wv) (valA cA cO CODES.Ok wk) (goodS (tS [117, 115, 101, 114] [97, 103, 101] 2) (tI 2)) (valS (tS [117, 115, 101, 114] [97, 103, 101] 2) (tI 2) w) C D (t1 := (0, C2)) ht5 rfl rfl rfl rfl).trans ((congrArg (fun b => cond b _ _) hg9).trans (by simp only [a5, a4, a2, cond_false, cond_true, hg5, hn4, hn2, hv2, hv3, hz] <;> rfl))))
  · generalize hz2 : valS (tS [117, 115, 101, 114] [97, 103, 101] 2) (tI 2) w (TS0 [117, 115, 101, 114] [97, 103, 101] 2 C2) = z at hzp
    exact leafL (o := .no) k1 k2 h3 h4 hzp (hc (.agg (exC 8 [117, 115, 101, 114] [97, 103, 101] (.sl .no 4 z.1.length (getV z.1))), [codO z.2]) ((test_2 (gB 9 C) (goodA vA vO vP) (goodA cA cO CODES.Ok) vN (valA vA vO vP wv) (valA cA cO CODES.Ok wk) (goodS (tS [117, 115, 101, 114] [97, 103, 101] 2) (tI 2)) (valS (tS [117, 115, 101, 114] [97, 103, 101] 2) (tI 2) w) C D (t1 := (1, C2)) ht5 (t2 := z) (by simp only [a5, cond_false]; exact hz2) rfl rfl rfl).trans ((congrArg (fun b => cond b _ _) hg9).trans (by simp only [a5, a4, a2, cond_false, cond_true, hg5, hn4, hn2, hv2, hv3, hz] <;> rfl))))
  · exact leaf1 (op := 7) (y := valA vA vO vP wv [.ref 1000000 0, .int .i64 2] [codO C2]) k1 k2 h3 h4 hy2 ⟨by omega, by omega, by omega, by omega, by intro h; cases h⟩ (hc _ ((test_2 (gB 9 C) (goodA vA vO vP) (goodA cA cO CODES.Ok) vN (valA vA vO vP wv) (valA cA cO CODES.Ok wk) (goodS (tS [117, 115, 101, 114] [97, 103, 101] 2) (tI 2)) (valS (tS [117, 115, 101, 114] [97, 103, 101] 2) (tI 2) w) C D (t1 := (2, C2)) ht5 rfl rfl rfl rfl).trans ((congrArg (fun b => cond b _ _) hg9).trans (by simp only [a5, a4, a2, cond_false, cond_true, hg5, hn4, hn2, hv2, hv3, hz] <;> rfl))))
  · obtain ⟨p0, p1, p2⟩ := nextR_ok q2 (m := 4) (by omega)
    cases hne : nextR C2 4 with
    | mk u C3 =>
    rw [hne] at p0 p1 p2
    have p0 : 0 ≤ u := p0
    have p1 : u < 4 := p1
    have p2 : C3.Ok := p2
    have htn : vN [.ref 1000000 0, .int .i64 4] [codO C2] = (u, C3) := (vN_eq q2 (by omega)).trans hne
    have hvC : goodA vA vO vP [.ref 1000000 0, .int .i64 2] [codO C3] = true := vA_good (by omega) (by omega) p2
    have hyC : vPost (C3, 2) (valA vA vO vP wv [.ref 1000000 0, .int .i64 2] [codO C3]) := vA_post hwv (by omega) (by omega) p2
    have hwr : IntKind.wrap .i64 (12 + u) = 12 + u := wrap_lit (by omega) (by omega)
    exact leaf1 (op := 12 + u) (y := valA vA vO vP wv [.ref 1000000 0, .int .i64 2] [codO C3]) k1 k2 h3 h4 hyC ⟨by omega, by omega, by omega, by omega, fun h => by rcases (show u = 0 ∨ u = 1 ∨ u = 2 ∨ u = 3 by omega) with rfl | rfl | rfl | rfl <;> cases h⟩ (hc _ ((test_2 (gB 9 C) (goodA vA vO vP) (goodA cA cO CODES.Ok) vN (valA vA vO vP wv) (valA cA cO CODES.Ok wk) (goodS (tS [117, 115, 101, 114] [97, 103, 101] 2) (tI 2)) (valS (tS [117, 115, 101, 114] [97, 103, 101] 2) (tI 2) w) C D (t1 := (3, C2)) ht5 rfl rfl (t4 := (u, C3)) htn rfl).trans ((congrArg (fun b => cond b _ _) hg9).trans (by simp only [a5, a4, a2, cond_false, cond_true, hg5, hn4, hn2, hv2, hv3, hz, hvC, hwr] <;> rfl))))
  · obtain ⟨p0, p1, p2⟩ := nextR_ok q2 (m := 4) (by omega)
    cases hne : nextR C2 4 with
    | mk u C3 =>
    rw [hne] at p0 p1 p2
    have p0 : 0 ≤ u := p0
    have p1 : u < 4 := p1
    have p2 : C3.Ok := p2
    have htn : vN [.ref 1000000 0, .int .i64 4] [codO C2] = (u, C3) := (vN_eq q2 (by omega)).trans hne
    have hvC : goodA vA vO vP [.ref 1000000 0, .int .i64 2] [codO C3] = true := vA_good (by omega) (by omega) p2
    have hyC : vPost (C3, 2) (valA vA vO vP wv [.ref 1000000 0, .int .i64 2] [codO C3]) := vA_post hwv (by omega) (by omega) p2
    have hwr : IntKind.wrap .i64 (12 + u) = 12 + u := wrap_lit (by omega) (by omega)
    exact leaf1 (op := 12 + u) (y := valA vA vO vP wv [.ref 1000000 0, .int .i64 2] [codO C3]) k1 k2 h3 h4 hyC ⟨by omega, by omega, by omega, by omega, fun h => by rcases (show u = 0 ∨ u = 1 ∨ u = 2 ∨ u = 3 by omega) with rfl | rfl | rfl | rfl <;> cases h⟩ (hc _ ((test_2 (gB 9 C) (goodA vA vO vP) (goodA cA cO CODES.Ok) vN (valA vA vO vP wv) (valA cA cO CODES.Ok wk) (goodS (tS [117, 115, 101, 114] [97, 103, 101] 2) (tI 2)) (valS (tS [117, 115, 101, 114] [97, 103, 101] 2) (tI 2) w) C D (t1 := (4, C2)) ht5 rfl rfl (t4 := (u, C3)) htn rfl).trans ((congrArg (fun b => cond b _ _) hg9).trans (by simp only [a5, a4, a2, cond_false, cond_true, hg5, hn4, hn2, hv2, hv3, hz, hvC, hwr] <;> rfl))))
set_option maxHeartbeats 400000 in
set_option maxRecDepth 100000 in
theorem test_ex3 (h9 : nextR C 9 = (3, D)) : ∃ x, tPost x ∧ Ct V2.P V2.G 47 (cA C) (cO C) (φQ x) := by
  have hT := entB_ok (m := 9) (by omega) hC h9
  have k1 : keyB [117, 115, 101, 114] = true := by kernel_rfl
  have k2 : keyB [97, 112, 112] = true := by kernel_rfl
  obtain ⟨w, hw, hl⟩ := test_loop [117, 115, 101, 114] [97, 112, 112] 4 (by omega) (by omega) (gB 9 C) (fun l os => cond (argN 9 l) (3, D) (vN l os)) (fun C' h' => gB_eq h' (by omega) (by omega)) (fun C' h' => by
    show cond (argN 9 [.ref 1000000 0, .int .i64 3]) (3, D) (vN [.ref 1000000 0, .int .i64 3] [codO C']) = _
    rw [argN_ne (by decide)]; exact vN_eq h' (by omega)) wv hwv [entC 104 cA cO CODES.Ok wk φT]
  have hc := fun r he => ct_loops (V := V2) (f := 47) (l := cA C) (os := cO C) (r := r) (n := 9) (d := 3) (T := [entB 9 C (3, D), entC 58 vA vO vP wv φV, entC 104 cA cO CODES.Ok wk φT]) mixed2 funcs2 (tabOk_cons hT (tabOk_cons htv (tabOk_cons htk tabOk_nil))) (loopsOk_cons (hl _) loopsOk_nil) he
  obtain ⟨q0, q1, q2⟩ := nextR_ok hD (m := 5) (by omega)
  cases h5e : nextR D 5 with
  | mk r C2 =>
  rw [h5e] at q0 q1 q2
  have q0 : 0 ≤ r := q0
  have q1 : r < 5 := q1
  have q2 : C2.Ok := q2
  have ht5 : vN [.ref 1000000 0, .int .i64 5] [codO D] = (r, C2) := (vN_eq hD (by omega)).trans h5e
  have a5 : argN 9 [.ref 1000000 0, .int .i64 5] = false := argN_ne (by decide)
  have a4 : argN 9 [.ref 1000000 0, .int .i64 4] = false := argN_ne (by decide)
  have a2 : argN 9 [.ref 1000000 0, .int .i64 2] = false := argN_ne (by decide)
  have hg9 : gB 9 C [.ref 1000000 0, .int .i64 (IntKind.wrap .i64 (((8 : Nat) : Int) + 1))] [codO C] = true := gB_eq (n := 9) hC (by omega) fun _ => rfl
  have hg5 : gB 9 C [.ref 1000000 0, .int .i64 5] [codO D] = true := gB_eq hD (by omega) (by omega)
  have hn4 : gB 9 C [.ref 1000000 0, .int .i64 4] [codO C2] = true := gB_eq q2 (by omega) (by omega)
  have hn2 : gB 9 C [.ref 1000000 0, .int .i64 2] [codO C2] = true := gB_eq q2 (by omega) (by omega)
  have hv2 : goodA vA vO vP [.ref 1000000 0, .int .i64 4] [codO C2] = true := vA_good (by omega) (by omega) q2
  have hv3 : goodA vA vO vP [.ref 1000000 0, .int .i64 3] [codO C2] = true := vA_good (by omega) (by omega) q2
  have hy2 : vPost (C2, 4) (valA vA vO vP wv [.ref 1000000 0, .int .i64 4] [codO C2]) := vA_post hwv (by omega) (by omega) q2
  have hy3 : vPost (C2, 3) (valA vA vO vP wv [.ref 1000000 0, .int .i64 3] [codO C2]) := vA_post hwv (by omega) (by omega) q2
  have hz : goodS (tS [117, 115, 101, 114] [97, 112, 112] 4) (tI 4) (TS0 [117, 115, 101, 114] [97, 112, 112] 4 C2) = true := tS_good [117, 115, 101, 114] [97, 112, 112] 4 q2
  have hzp : tZ 4 (valS (tS [117, 115, 101, 114] [97, 112, 112] 4) (tI 4) w (TS0 [117, 115, 101, 114] [97, 112, 112] 4 C2)) := tS_post [117, 115, 101, 114] [97, 112, 112] 4 hw q2
  have hr : r = 0 ∨ r = 1 ∨ r = 2 ∨ r = 3 ∨ r = 4 := by omega
  have h3 : ([117, 115, 101, 114] : List UInt8).length ≤ 100 := by decide
  have h4 : ([97, 112, 112] : List UInt8).length ≤ 100 := by decide
  rcases hr with rfl | rfl | rfl | rfl | rfl
  · exact leaf0 (D := C2) k1 k2 h3 h4 q2 (hc _ ((test_3 (gB 9 C) (goodA vA vO vP) (goodA cA cO CODES.Ok) vN (valA vA vO vP wv) (valA cA cO CODES.Ok wk) (goodS (tS [117, 115, 101, 114] [97, 112, 112] 4) (tI 4)) (valS (tS [117, 115, 101, 114] [97, 112, 112] 4) (tI 4) w) C D (t1 := (0, C2)) ht5 rfl rfl rfl rfl).trans ((congrArg (fun b => cond b _ _) hg9).trans (by simp only [a5, a4, a2, cond_false, cond_true, hg5, hn4, hn2, hv2, hv3, hz] <;> rfl))))
  · generalize hz2 : valS (tS [117, 115, 101, 114] [97, 112, 112] 4) (tI 4) w (TS0 [117, 115, 101, 114] [97, 112, 112] 4 C2) = z at hzp
    exact leafL (o := .no) k1 k2 h3 h4 hzp (hc (.agg (exC 8 [117, 115, 101, 114] [97, 112, 112] (.sl .no 4 z.1.length (getV z.1))), [codO z.2]) ((test_3 (gB 9 C) (goodA vA vO vP) (goodA cA cO CODES.Ok) vN (valA vA vO vP wv) (valA cA cO CODES.Ok wk) (goodS (tS [117, 115, 101, 114] [97, 112, 112] 4) (tI 4)) (valS (tS [117, 115, 101, 114] [97, 112, 112] 4) (tI 4) w) C D (t1 := (1, C2)) ht5 (t2 := z) (by simp only [a5, cond_false]; exact hz2) rfl rfl rfl).trans ((congrArg (fun b => cond b _ _) hg9).trans (by simp only [a5, a4, a2, cond_false, cond_true, hg5, hn4, hn2, hv2, hv3, hz] <;> rfl))))
  · exact leaf1 (op := 7) (y := valA vA vO vP wv [.ref 1000000 0, .int .i64 4] [codO C2]) k1 k2 h3 h4 hy2 ⟨by omega, by omega, by omega, by omega, by intro h; cases h⟩ (hc _ ((test_3 (gB 9 C) (goodA vA vO vP) (goodA cA cO CODES.Ok) vN (valA vA vO vP wv) (valA cA cO CODES.Ok wk) (goodS (tS [117, 115, 101, 114] [97, 112, 112] 4) (tI 4)) (valS (tS [117, 115, 101, 114] [97, 112, 112] 4) (tI 4) w) C D (t1 := (2, C2)) ht5 rfl rfl rfl rfl).trans ((congrArg (fun b => cond b _ _) hg9).trans (by simp only [a5, a4, a2, cond_false, cond_true, hg5, hn4, hn2, hv2, hv3, hz] <;> rfl))))
  · obtain ⟨p0, p1, p2⟩ := nextR_ok q2 (m := 4) (by omega)
    cases hne : nextR C2 4 with
    | mk u C3 =>
    rw [hne] at p0 p1 p2
    have p0 : 0 ≤ u := p0
    have p1 : u < 4 := p1
    have p2 : C3.Ok := p2
    have htn : vN [.ref 1000000 0, .int .i64 4] [codO C2] = (u, C3) := (vN_eq q2 (by omega)).trans hne
    have hvC : goodA vA vO vP [.ref 1000000 0, .int .i64 4] [codO C3] = true := vA_good (by omega) (by omega) p2
    have hyC : vPost (C3, 4) (valA vA vO vP wv [.ref 1000000 0, .int .i64 4] [codO C3]) := vA_post hwv (by omega) (by omega) p2
    have hwr : IntKind.wrap .i64 (12 + u) = 12 + u := wrap_lit (by omega) (by omega)
    exact leaf1 (op := 12 + u) (y := valA vA vO vP wv [.ref 1000000 0, .int .i64 4] [codO C3]) k1 k2 h3 h4 hyC ⟨by omega, by omega, by omega, by omega, fun h => by rcases (show u = 0 ∨ u = 1 ∨ u = 2 ∨ u = 3 by omega) with rfl | rfl | rfl | rfl <;> cases h⟩ (hc _ ((test_3 (gB 9 C) (goodA vA vO vP) (goodA cA cO CODES.Ok) vN (valA vA vO vP wv) (valA cA cO CODES.Ok wk) (goodS (tS [117, 115, 101, 114] [97, 112, 112] 4) (tI 4)) (valS (tS [117, 115, 101, 114] [97, 112, 112] 4) (tI 4) w) C D (t1 := (3, C2)) ht5 rfl rfl (t4 := (u, C3)) htn rfl).trans ((congrArg (fun b => cond b _ _) hg9).trans (by simp only [a5, a4, a2, cond_false, cond_true, hg5, hn4, hn2, hv2, hv3, hz, hvC, hwr] <;> rfl))))
  · obtain ⟨p0, p1, p2⟩ := nextR_ok q2 (m := 4) (by omega)
    cases hne : nextR C2 4 with
    | mk u C3 =>
    rw [hne] at p0 p1 p2
    have p0 : 0 ≤ u := p0
    have p1 : u < 4 := p1
    have p2 : C3.Ok := p2
    have htn : vN [.ref 1000000 0, .int .i64 4] [codO C2] = (u, C3) := (vN_eq q2 (by omega)).trans hne
    have hvC : goodA vA vO vP [.ref 1000000 0, .int .i64 4] [codO C3] = true := vA_good (by omega) (by omega) p2
    have hyC : vPost (C3, 4) (valA vA vO vP wv [.ref 1000000 0, .int .i64 4] [codO C3]) := vA_post hwv (by omega) (by omega) p2
    have hwr : IntKind.wrap .i64 (12 + u) = 12 + u := wrap_lit (by omega) (by omega)
    exact leaf1 (op := 12 + u) (y := valA vA vO vP wv [.ref 1000000 0, .int .i64 4] [codO C3]) k1 k2 h3 h4 hyC ⟨by omega, by omega, by omega, by omega, fun h => by rcases (show u = 0 ∨ u = 1 ∨ u = 2 ∨ u = 3 by omega) with rfl | rfl | rfl | rfl <;> cases h⟩ (hc _ ((test_3 (gB 9 C) (goodA vA vO vP) (goodA cA cO CODES.Ok) vN (valA vA vO vP wv) (valA cA cO CODES.Ok wk) (goodS (tS [117, 115, 101, 114] [97, 112, 112] 4) (tI 4)) (valS (tS [117, 115, 101, 114] [97, 112, 112] 4) (tI 4) w) C D (t1 := (4, C2)) ht5 rfl rfl (t4 := (u, C3)) htn rfl).trans ((congrArg (fun b => cond b _ _) hg9).trans (by simp only [a5, a4, a2, cond_false, cond_true, hg5, hn4, hn2, hv2, hv3, hz, hvC, hwr] <;> rfl))))
set_option maxHeartbeats 400000 in
set_option maxRecDepth 100000 in
theorem test_ex4 (h9 : nextR C 9 = (4, D)) : ∃ x, tPost x ∧ Ct V2.P V2.G 47 (cA C) (cO C) (φQ x) := by
  have hT := entB_ok (m := 9) (by omega) hC h9
  have k1 : keyB [117, 115, 101, 114] = true := by kernel_rfl
  have k2 : keyB [98, 101, 116, 97] = true := by kernel_rfl
  obtain ⟨w, hw, hl⟩ := test_loop [117, 115, 101, 114] [98, 101, 116, 97] 1 (by omega) (by omega) (gB 9 C) (fun l os => cond (argN 9 l) (4, D) (vN l os)) (fun C' h' => gB_eq h' (by omega) (by omega)) (fun C' h' => by
    show cond (argN 9 [.ref 1000000 0, .int .i64 3]) (4, D) (vN [.ref 1000000 0, .int .i64 3] [codO C']) = _
    rw [argN_ne (by decide)]; exact vN_eq h' (by omega)) wv hwv [entC 104 cA cO CODES.Ok wk φT]
  have hc := fun r he => ct_loops (V := V2) (f := 47) (l := cA C) (os := cO C) (r := r) (n := 9) (d := 3) (T := [entB 9 C (4, D), entC 58 vA vO vP wv φV, entC 104 cA cO CODES.Ok wk φT]) mixed2 funcs2 (tabOk_cons hT (tabOk_cons htv (tabOk_cons htk tabOk_nil))) (loopsOk_cons (hl _) loopsOk_nil) he
  obtain ⟨q0, q1, q2⟩ := nextR_ok hD (m := 5) (by omega)
  cases h5e : nextR D 5 with
  | mk r C2 =>
  rw [h5e] at q0 q1 q2
  have q0 : 0 ≤ r := q0
  have q1 : r < 5 := q1
  have q2 : C2.Ok := q2
  have ht5 : vN [.ref 1000000 0, .int .i64 5] [codO D] = (r, C2) := (vN_eq hD (by omega)).trans h5e
  have a5 : argN 9 [.ref 1000000 0, .int .i64 5] = false := argN_ne (by decide)
  have a4 : argN 9 [.ref 1000000 0, .int .i64 4] = false := argN_ne (by decide)
  have a2 : argN 9 [.ref 1000000 0, .int .i64 2] = false := argN_ne (by decide)
  have hg9 : gB 9 C [.ref 1000000 0, .int .i64 (IntKind.wrap .i64 (((8 : Nat) : Int) + 1))] [codO C] = true := gB_eq (n := 9) hC (by omega) fun _ => rfl
  have hg5 : gB 9 C [.ref 1000000 0, .int .i64 5] [codO D] = true := gB_eq hD (by omega) (by omega)
  have hn4 : gB 9 C [.ref 1000000 0, .int .i64 4] [codO C2] = true := gB_eq q2 (by omega) (by omega)
  have hn2 : gB 9 C [.ref 1000000 0, .int .i64 2] [codO C2] = true := gB_eq q2 (by omega) (by omega)
  have hv2 : goodA vA vO vP [.ref 1000000 0, .int .i64 1] [codO C2] = true := vA_good (by omega) (by omega) q2
  have hv3 : goodA vA vO vP [.ref 1000000 0, .int .i64 3] [codO C2] = true := vA_good (by omega) (by omega) q2
  have hy2 : vPost (C2, 1) (valA vA vO vP wv [.ref 1000000 0, .int .i64 1] [codO C2]) := vA_post hwv (by omega) (by omega) q2
  have hy3 : vPost (C2, 3) (valA vA vO vP wv [.ref 1000000 0, .int .i64 3] [codO C2]) := vA_post hwv (by omega) (by omega) q2
  have hz : goodS (tS [117, 115, 101, 114] [98, 101, 116, 97] 1) (tI 1) (TS0 [117, 115, 101, 114] [98, 101, 116, 97] 1 C2) = true := tS_good [117, 115, 101, 114] [98, 101, 116, 97] 1 q2
  have hzp : tZ 1 (valS (tS [117, 115, 101, 114] [98, 101, 116, 97] 1) (tI 1) w (TS0 [117, 115, 101, 114] [98, 101, 116, 97] 1 C2)) := tS_post [117, 115, 101, 114] [98, 101, 116, 97] 1 hw q2
  have hr : r = 0 ∨ r = 1 ∨ r = 2 ∨ r = 3 ∨ r = 4 := by omega
  have h3 : ([117, 115, 101, 114] : List UInt8).length ≤ 100 := by decide
  have h4 : ([98, 101, 116, 97] : List UInt8).length ≤ 100 := by decide
  rcases hr with rfl | rfl | rfl | rfl | rfl
  · exact leaf0 (D := C2) k1 k2 h3 h4 q2 (hc _ ((test_4 (gB 9 C) (goodA vA vO vP) (goodA cA cO CODES.Ok) vN (valA vA vO vP wv) (valA cA cO CODES.Ok wk) (goodS (tS [117, 115, 101, 114] [98, 101, 116, 97] 1) (tI 1)) (valS (tS [117, 115, 101, 114] [98, 101, 116, 97] 1) (tI 1) w) C D (t1 := (0, C2)) ht5 rfl rfl).trans ((congrArg (fun b => cond b _ _) hg9).trans (by simp only [a5, a4, a2, cond_false, cond_true, hg5, hn4, hn2, hv2, hv3, hz] <;> rfl))))
  · generalize hz2 : valS (tS [117, 115, 101, 114] [98, 101, 116, 97] 1) (tI 1) w (TS0 [117, 115, 101, 114] [98, 101, 116, 97] 1 C2) = z at hzp
    exact leafL (o := .no) k1 k2 h3 h4 hzp (hc (.agg (exC 8 [117, 115, 101, 114] [98, 101, 116, 97] (.sl .no 4 z.1.length (getV z.1))), [codO z.2]) ((test_4 (gB 9 C) (goodA vA vO vP) (goodA cA cO CODES.Ok) vN (valA vA vO vP wv) (valA cA cO CODES.Ok wk) (goodS (tS [117, 115, 101, 114] [98, 101, 116, 97] 1) (tI 1)) (valS (tS [117, 115, 101, 114] [98, 101, 116, 97] 1) (tI 1) w) C D (t1 := (1, C2)) ht5 (t2 := z) (by simp only [a5, cond_false]; exact hz2) rfl).trans ((congrArg (fun b => cond b _ _) hg9).trans (by simp only [a5, a4, a2, cond_false, cond_true, hg5, hn4, hn2, hv2, hv3, hz] <;> rfl))))
  · exact leaf1 (op := 7) (y := valA vA vO vP wv [.ref 1000000 0, .int .i64 1] [codO C2]) k1 k2 h3 h4 hy2 ⟨by omega, by omega, by omega, by omega, by intro h; cases h⟩ (hc _ ((test_4 (gB 9 C) (goodA vA vO vP) (goodA cA cO CODES.Ok) vN (valA vA vO vP wv) (valA cA cO CODES.Ok wk) (goodS (tS [117, 115, 101, 114] [98, 101, 116, 97] 1) (tI 1)) (valS (tS [117, 115, 101, 114] [98, 101, 116, 97] 1) (tI 1) w) C D (t1 := (2, C2)) ht5 rfl rfl).trans ((congrArg (fun b => cond b _ _) hg9).trans (by simp only [a5, a4, a2, cond_false, cond_true, hg5, hn4, hn2, hv2, hv3, hz] <;> rfl))))
  · exact leaf1 (op := 7) (y := valA vA vO vP wv [.ref 1000000 0, .int .i64 1] [codO C2]) k1 k2 h3 h4 hy2 ⟨by omega, by omega, by omega, by omega, by intro h; cases h⟩ (hc _ ((test_4 (gB 9 C) (goodA vA vO vP) (goodA cA cO CODES.Ok) vN (valA vA vO vP wv) (valA cA cO CODES.Ok wk) (goodS (tS [117, 115, 101, 114] [98, 101, 116, 97] 1) (tI 1)) (valS (tS [117, 115, 101, 114] [98, 101, 116, 97] 1) (tI 1) w) C D (t1 := (3, C2)) ht5 rfl rfl).trans ((congrArg (fun b => cond b _ _) hg9).trans (by simp only [a5, a4, a2, cond_false, cond_true, hg5, hn4, hn2, hv2, hv3, hz] <;> rfl))))
  · exact leaf1 (op := 7) (y := valA vA vO vP wv [.ref 1000000 0, .int .i64 1] [codO C2]) k1 k2 h3 h4 hy2 ⟨by omega, by omega, by omega, by omega, by intro h; cases h⟩ (hc _ ((test_4 (gB 9 C) (goodA vA vO vP) (goodA cA cO CODES.Ok) vN (valA vA vO vP wv) (valA cA cO CODES.Ok wk) (goodS (tS [117, 115, 101, 114] [98, 101, 116, 97] 1) (tI 1)) (valS (tS [117, 115, 101, 114] [98, 101, 116, 97] 1) (tI 1) w) C D (t1 := (4, C2)) ht5 rfl rfl).trans ((congrArg (fun b => cond b _ _) hg9).trans (by simp only [a5, a4, a2, cond_false, cond_true, hg5, hn4, hn2, hv2, hv3, hz] <;> rfl))))
set_option maxHeartbeats 400000 in
set_option maxRecDepth 100000 in
theorem test_ex5 (h9 : nextR C 9 = (5, D)) : ∃ x, tPost x ∧ Ct V2.P V2.G 47 (cA C) (cO C) (φQ x) := by
  have hT := entB_ok (m := 9) (by omega) hC h9
  have k1 : keyB [117, 115, 101, 114] = true := by kernel_rfl
  have k2 : keyB [99, 111, 117, 110, 116, 114, 121] = true := by kernel_rfl
  obtain ⟨w, hw, hl⟩ := test_loop [117, 115, 101, 114] [99, 111, 117, 110, 116, 114, 121] 3 (by omega) (by omega) (gB 9 C) (fun l os => cond (argN 9 l) (5, D) (vN l os)) (fun C' h' => gB_eq h' (by omega) (by omega)) (fun C' h' => by
    show cond (argN 9 [.ref 1000000 0, .int .i64 3]) (5, D) (vN [.ref 1000000 0, .int .i64 3] [codO C']) = _
    rw [argN_ne (by decide)]; exact vN_eq h' (by omega)) wv hwv [entC 104 cA cO CODES.Ok wk φT]
  have hc := fun r he => ct_loops (V := V2) (f := 47) (l := cA C) (os := cO C) (r := r) (n := 9) (d := 3) (T := [entB 9 C (5, D), entC 58 vA vO vP wv φV, entC 104 cA cO CODES.Ok wk φT]) mixed2 funcs2 (tabOk_cons hT (tabOk_cons htv (tabOk_cons htk tabOk_nil))) (loopsOk_cons (hl _) loopsOk_nil) he
  obtain ⟨q0, q1, q2⟩ := nextR_ok hD (m := 5) (by omega)
  cases h5e : nextR D 5 with
  | mk r C2 =>
  rw [h5e] at q0 q1 q2
  have q0 : 0 ≤ r := q0
  have q1 : r < 5 := q1
  have q2 : C2.Ok := q2
  have ht5 : vN [.ref 1000000 0, .int .i64 5] [codO D] = (r, C2) := (vN_eq hD (by omega)).trans h5e
  have a5 : argN 9 [.ref 1000000 0, .int .i64 5] = false := argN_ne (by decide)
  have a4 : argN 9 [.ref 1000000 0, .int .i64 4] = false := argN_ne (by decide)
  have a2 : argN 9 [.ref 1000000 0, .int .i64 2] = false := argN_ne (by decide)
  have hg9 : gB 9 C [.ref 1000000 0, .int .i64 (IntKind.wrap .i64 (((8 : Nat) : Int) + 1))] [codO C] = true := gB_eq (n := 9) hC (by omega) fun _ => rfl
  have hg5 : gB 9 C [.ref 1000000 0, .int .i64 5] [codO D] = true := gB_eq hD (by omega) (by omega)
  have hn4 : gB 9 C [.ref 1000000 0, .int .i64 4] [codO C2] = true := gB_eq q2 (by omega) (by omega)
  have hn2 : gB 9 C [.ref 1000000 0, .int .i64 2] [codO C2] = true := gB_eq q2 (by omega) (by omega)
  have hv2 : goodA vA vO vP [.ref 1000000 0, .int .i64 3] [codO C2] = true := vA_good (by omega) (by omega) q2
  have hv3 : goodA vA vO vP [.ref 1000000 0, .int .i64 3] [codO C2] = true := vA_good (by omega) (by omega) q2
  have hy2 : vPost (C2, 3) (valA vA vO vP wv [.ref 1000000 0, .int .i64 3] [codO C2]) := vA_post hwv (by omega) (by omega) q2
  have hy3 : vPost (C2, 3) (valA vA vO vP wv [.ref 1000000 0, .int .i64 3] [codO C2]) := vA_post hwv (by omega) (by omega) q2
  have hz : goodS (tS [117, 115, 101, 114] [99, 111, 117, 110, 116, 114, 121] 3) (tI 3) (TS0 [117, 115, 101, 114] [99, 111, 117, 110, 116, 114, 121] 3 C2) = true := tS_good [117, 115, 101, 114] [99, 111, 117, 110, 116, 114, 121] 3 q2
  have hzp : tZ 3 (valS (tS [117, 115, 101, 114] [99, 111, 117, 110, 116, 114, 121] 3) (tI 3) w (TS0 [117, 115, 101, 114] [99, 111, 117, 110, 116, 114, 121] 3 C2)) := tS_post [117, 115, 101, 114] [99, 111, 117, 110, 116, 114, 121] 3 hw q2
  have hr : r = 0 ∨ r = 1 ∨ r = 2 ∨ r = 3 ∨ r = 4 := by omega
  have h3 : ([117, 115, 101, 114] : List UInt8).length ≤ 100 := by decide
  have h4 : ([99, 111, 117, 110, 116, 114, 121] : List UInt8).length ≤ 100 := by decide
  rcases hr with rfl | rfl | rfl | rfl | rfl
  · exact leaf0 (D := C2) k1 k2 h3 h4 q2 (hc _ ((test_5 (gB 9 C) (goodA vA vO vP) (goodA cA cO CODES.Ok) vN (valA vA vO vP wv) (valA cA cO CODES.Ok wk) (goodS (tS [117, 115, 101, 114] [99, 111, 117, 110, 116, 114, 121] 3) (tI 3)) (valS (tS [117, 115, 101, 114] [99, 111, 117, 110, 116, 114, 121] 3) (tI 3) w) C D (t1 := (0, C2)) ht5 rfl rfl rfl rfl rfl rfl).trans ((congrArg (fun b => cond b _ _) hg9).trans (by simp only [a5, a4, a2, cond_false, cond_true, hg5, hn4, hn2, hv2, hv3, hz] <;> rfl))))
  · generalize hz2 : valS (tS [117, 115, 101, 114] [99, 111, 117, 110, 116, 114, 121] 3) (tI 3) w (TS0 [117, 115, 101, 114] [99, 111, 117, 110, 116, 114, 121] 3 C2) = z at hzp
    exact leafL (o := .no) k1 k2 h3 h4 hzp (hc (.agg (exC 8 [117, 115, 101, 114] [99, 111, 117, 110, 116, 114, 121] (.sl .no 4 z.1.length (getV z.1))), [codO z.2]) ((test_5 (gB 9 C) (goodA vA vO vP) (goodA cA cO CODES.Ok) vN (valA vA vO vP wv) (valA cA cO CODES.Ok wk) (goodS (tS [117, 115, 101, 114] [99, 111, 117, 110, 116, 114, 121] 3) (tI 3)) (valS (tS [117, 115, 101, 114] [99, 111, 117, 110, 116, 114, 121] 3) (tI 3) w) C D (t1 := (1, C2)) ht5 (t2 := z) (by simp only [a5, cond_false]; exact hz2) rfl rfl rfl rfl rfl).trans ((congrArg (fun b => cond b _ _) hg9).trans (by simp only [a5, a4, a2, cond_false, cond_true, hg5, hn4, hn2, hv2, hv3, hz] <;> rfl))))
  · exact leaf1 (op := 11) (y := valA vA vO vP wv [.ref 1000000 0, .int .i64 3] [codO C2]) k1 k2 h3 h4 hy3 ⟨by omega, by omega, by omega, by omega, fun _ => rfl⟩ (hc _ ((test_5 (gB 9 C) (goodA vA vO vP) (goodA cA cO CODES.Ok) vN (valA vA vO vP wv) (valA cA cO CODES.Ok wk) (goodS (tS [117, 115, 101, 114] [99, 111, 117, 110, 116, 114, 121] 3) (tI 3)) (valS (tS [117, 115, 101, 114] [99, 111, 117, 110, 116, 114, 121] 3) (tI 3) w) C D (t1 := (2, C2)) ht5 rfl rfl rfl rfl rfl rfl).trans ((congrArg (fun b => cond b _ _) hg9).trans (by simp only [a5, a4, a2, cond_false, cond_true, hg5, hn4, hn2, hv2, hv3, hz] <;> rfl))))
  · obtain ⟨p0, p1, p2⟩ := nextR_ok q2 (m := 2) (by omega)
    cases hne : nextR C2 2 with
    | mk u C3 =>
    rw [hne] at p0 p1 p2
    have p0 : 0 ≤ u := p0
    have p1 : u < 2 := p1
    have p2 : C3.Ok := p2
    have htn : vN [.ref 1000000 0, .int .i64 2] [codO C2] = (u, C3) := (vN_eq q2 (by omega)).trans hne
    have hvC : goodA vA vO vP [.ref 1000000 0, .int .i64 3] [codO C3] = true := vA_good (by omega) (by omega) p2
    have hyC : vPost (C3, 3) (valA vA vO vP wv [.ref 1000000 0, .int .i64 3] [codO C3]) := vA_post hwv (by omega) (by omega) p2
    have hwr : IntKind.wrap .i64 (9 + u) = 9 + u := wrap_lit (by omega) (by omega)
    exact leaf1 (op := 9 + u) (y := valA vA vO vP wv [.ref 1000000 0, .int .i64 3] [codO C3]) k1 k2 h3 h4 hyC ⟨by omega, by omega, by omega, by omega, fun _ => rfl⟩ (hc _ ((test_5 (gB 9 C) (goodA vA vO vP) (goodA cA cO CODES.Ok) vN (valA vA vO vP wv) (valA cA cO CODES.Ok wk) (goodS (tS [117, 115, 101, 114] [99, 111, 117, 110, 116, 114, 121] 3) (tI 3)) (valS (tS [117, 115, 101, 114] [99, 111, 117, 110, 116, 114, 121] 3) (tI 3) w) C D (t1 := (3, C2)) ht5 rfl rfl (t4 := (u, C3)) htn rfl rfl rfl).trans ((congrArg (fun b => cond b _ _) hg9).trans (by simp only [a5, a4, a2, cond_false, cond_true, hg5, hn4, hn2, hv2, hv3, hz, hvC, hwr] <;> rfl))))
  · obtain ⟨p0, p1, p2⟩ := nextR_ok q2 (m := 4) (by omega)
    cases hne : nextR C2 4 with
    | mk u C3 =>
    rw [hne] at p0 p1 p2
    have p0 : 0 ≤ u := p0
    have p1 : u < 4 := p1
    have p2 : C3.Ok := p2
    have htn : vN [.ref 1000000 0, .int .i64 4] [codO C2] = (u, C3) := (vN_eq q2 (by omega)).trans hne
    have hvC : goodA vA vO vP [.ref 1000000 0, .int .i64 3] [codO C3] = true := vA_good (by omega) (by omega) p2
    have hyC : vPost (C3, 3) (valA vA vO vP wv [.ref 1000000 0, .int .i64 3] [codO C3]) := vA_post hwv (by omega) (by omega) p2
    have hwr : IntKind.wrap .i64 (12 + u) = 12 + u := wrap_lit (by omega) (by omega)
    exact leaf1 (op := 12 + u) (y := valA vA vO vP wv [.ref 1000000 0, .int .i64 3] [codO C3]) k1 k2 h3 h4 hyC ⟨by omega, by omega, by omega, by omega, fun _ => rfl⟩ (hc _ ((test_5 (gB 9 C) (goodA vA vO vP) (goodA cA cO CODES.Ok) vN (valA vA vO vP wv) (valA cA cO CODES.Ok wk) (goodS (tS [117, 115, 101, 114] [99, 111, 117, 110, 116, 114, 121] 3) (tI 3)) (valS (tS [117, 115, 101, 114] [99, 111, 117, 110, 116, 114, 121] 3) (tI 3) w) C D (t1 := (4, C2)) ht5 rfl rfl rfl rfl (t6 := (u, C3)) htn rfl).trans ((congrArg (fun b => cond b _ _) hg9).trans (by simp only [a5, a4, a2, cond_false, cond_true, hg5, hn4, hn2, hv2, hv3, hz, hvC, hwr] <;> rfl))))
set_option maxHeartbeats 400000 in
set_option maxRecDepth 100000 in
theorem test_ex6 (h9 : nextR C 9 = (6, D)) : ∃ x, tPost x ∧ Ct V2.P V2.G 47 (cA C) (cO C) (φQ x) := by
  have hT := entB_ok (m := 9) (by omega) hC h9
  have k1 : keyB [117, 115, 101, 114] = true := by kernel_rfl
  have k2 : keyB [112, 108, 97, 110] = true := by kernel_rfl
  obtain ⟨w, hw, hl⟩ := test_loop [117, 115, 101, 114] [112, 108, 97, 110] 3 (by omega) (by omega) (gB 9 C) (fun l os => cond (argN 9 l) (6, D) (vN l os)) (fun C' h' => gB_eq h' (by omega) (by omega)) (fun C' h' => by
    show cond (argN 9 [.ref 1000000 0, .int .i64 3]) (6, D) (vN [.ref 1000000 0, .int .i64 3] [codO C']) = _
    rw [argN_ne (by decide)]; exact vN_eq h' (by omega)) wv hwv [entC 104 cA cO CODES.Ok wk φT]
  have hc := fun r he => ct_loops (V := V2) (f := 47) (l := cA C) (os := cO C) (r := r) (n := 9) (d := 3) (T := [entB 9 C (6, D), entC 58 vA vO vP wv φV, entC 104 cA cO CODES.Ok wk φT]) mixed2 funcs2 (tabOk_cons hT (tabOk_cons htv (tabOk_cons htk tabOk_nil))) (loopsOk_cons (hl _) loopsOk_nil) he
  obtain ⟨q0, q1, q2⟩ := nextR_ok hD (m := 5) (by omega)
  cases h5e : nextR D 5 with
  | mk r C2 =>
  rw [h5e] at q0 q1 q2
  have q0 : 0 ≤ r := q0
  have q1 : r < 5 := q1
  have q2 : C2.Ok := q2
  have ht5 : vN [.ref 1000000 0, .int .i64 5] [codO D] = (r, C2) := (vN_eq hD (by omega)).trans h5e
  have a5 : argN 9 [.ref 1000000 0, .int .i64 5] = false := argN_ne (by decide)
  have a4 : argN 9 [.ref 1000000 0, .int .i64 4] = false := argN_ne (by decide)
  have a2 : argN 9 [.ref 1000000 0, .int .i64 2] = false := argN_ne (by decide)
  have hg9 : gB 9 C [.ref 1000000 0, .int .i64 (IntKind.wrap .i64 (((8 : Nat) : Int) + 1))] [codO C] = true := gB_eq (n := 9) hC (by omega) fun _ => rfl
  have hg5 : gB 9 C [.ref 1000000 0, .int .i64 5] [codO D] = true := gB_eq hD (by omega) (by omega)
  have hn4 : gB 9 C [.ref 1000000 0, .int .i64 4] [codO C2] = true := gB_eq q2 (by omega) (by omega)
  have hn2 : gB 9 C [.ref 1000000 0, .int .i64 2] [codO C2] = true := gB_eq q2 (by omega) (by omega)
  have hv2 : goodA vA vO vP [.ref 1000000 0, .int .i64 3] [codO C2] = true := vA_good (by omega) (by omega) q2
  have hv3 : goodA vA vO vP [.ref 1000000 0, .int .i64 3] [codO C2] = true := vA_good (by omega) (by omega) q2
  have hy2 : vPost (C2, 3) (valA vA vO vP wv [.ref 1000000 0, .int .i64 3] [codO C2]) := vA_post hwv (by omega) (by omega) q2
  have hy3 : vPost (C2, 3) (valA vA vO vP wv [.ref 1000000 0, .int .i64 3] [codO C2]) := vA_post hwv (by omega) (by omega) q2
  have hz : goodS (tS [117, 115, 101, 114] [112, 108, 97, 110] 3) (tI 3) (TS0 [117, 115, 101, 114] [112, 108, 97, 110] 3 C2) = true := tS_good [117, 115, 101, 114] [112, 108, 97, 110] 3 q2
  have hzp : tZ 3 (valS (tS [117, 115, 101, 114] [112, 108, 97, 110] 3) (tI 3) w (TS0 [117, 115, 101, 114] [112, 108, 97, 110] 3 C2)) := tS_post [117, 115, 101, 114] [112, 108, 97, 110] 3 hw q2
  have hr : r = 0 ∨ r = 1 ∨ r = 2 ∨ r = 3 ∨ r = 4 := by omega
  have h3 : ([117, 115, 101, 114] : List UInt8).length ≤ 100 := by decide
  have h4 : ([112, 108, 97, 110] : List UInt8).length ≤ 100 := by decide
  rcases hr with rfl | rfl | rfl | rfl | rfl
  · exact leaf0 (D := C2) k1 k2 h3 h4 q2 (hc _ ((test_6 (gB 9 C) (goodA vA vO vP) (goodA cA cO CODES.Ok) vN (valA vA vO vP wv) (valA cA cO CODES.Ok wk) (goodS (tS [117, 115, 101, 114] [112, 108, 97, 110] 3) (tI 3)) (valS (tS [117, 115, 101, 114] [112, 108, 97, 110] 3) (tI 3) w) C D (t1 := (0, C2)) ht5 rfl rfl rfl rfl rfl rfl).trans ((congrArg (fun b => cond b _ _) hg9).trans (by simp only [a5, a4, a2, cond_false, cond_true, hg5, hn4, hn2, hv2, hv3, hz] <;> rfl))))
  · generalize hz2 : valS (tS [117, 115, 101, 114] [112, 108, 97, 110] 3) (tI 3) w (TS0 [117, 115, 101, 114] [112, 108, 97, 110] 3 C2) = z at hzp
    exact leafL (o := .no) k1 k2 h3 h4 hzp (hc (.agg (exC 8 [117, 115, 101, 114] [112, 108, 97, 110] (.sl .no 4 z.1.length (getV z.1))), [codO z.2]) ((test_6 (gB 9 C) (goodA vA vO vP) (goodA cA cO CODES.Ok) vN (valA vA vO vP wv) (valA cA cO CODES.Ok wk) (goodS (tS [117, 115, 101, 114] [112, 108, 97, 110] 3) (tI 3)) (valS (tS [117, 115, 101, 114] [112, 108, 97, 110] 3) (tI 3) w) C D (t1 := (1, C2)) ht5 (t2 := z) (by simp only [a5, cond_false]; exact hz2) rfl rfl rfl rfl rfl).trans ((congrArg (fun b => cond b _ _) hg9).trans (by simp only [a5, a4, a2, cond_false, cond_true, hg5, hn4, hn2, hv2, hv3, hz] <;> rfl))))
  · exact leaf1 (op := 11) (y := valA vA vO vP wv [.ref 1000000 0, .int .i64 3] [codO C2]) k1 k2 h3 h4 hy3 ⟨by omega, by omega, by omega, by omega, fun _ => rfl⟩ (hc _ ((test_6 (gB 9 C) (goodA vA vO vP) (goodA cA cO CODES.Ok) vN (valA vA vO vP wv) (valA cA cO CODES.Ok wk) (goodS (tS [117, 115, 101, 114] [112, 108, 97, 110] 3) (tI 3)) (valS (tS [117, 115, 101, 114] [112, 108, 97, 110] 3) (tI 3) w) C D (t1 := (2, C2)) ht5 rfl rfl rfl rfl rfl rfl).trans ((congrArg (fun b => cond b _ _) hg9).trans (by simp only [a5, a4, a2, cond_false, cond_true, hg5, hn4, hn2, hv2, hv3, hz] <;> rfl))))
  · obtain ⟨p0, p1, p2⟩ := nextR_ok q2 (m := 2) (by omega)
    cases hne : nextR C2 2 with
    | mk u C3 =>
    rw [hne] at p0 p1 p2
    have p0 : 0 ≤ u := p0
    have p1 : u < 2 := p1
    have p2 : C3.Ok := p2
    have htn : vN [.ref 1000000 0, .int .i64 2] [codO C2] = (u, C3) := (vN_eq q2 (by omega)).trans hne
    have hvC : goodA vA vO vP [.ref 1000000 0, .int .i64 3] [codO C3] = true := vA_good (by omega) (by omega) p2
    have hyC : vPost (C3, 3) (valA vA vO vP wv [.ref 1000000 0, .int .i64 3] [codO C3]) := vA_post hwv (by omega) (by omega) p2
    have hwr : IntKind.wrap .i64 (9 + u) = 9 + u := wrap_lit (by omega) (by omega)
    exact leaf1 (op := 9 + u) (y := valA vA vO vP wv [.ref 1000000 0, .int .i64 3] [codO C3]) k1 k2 h3 h4 hyC ⟨by omega, by omega, by omega, by omega, fun _ => rfl⟩ (hc _ ((test_6 (gB 9 C) (goodA vA vO vP) (goodA cA cO CODES.Ok) vN (valA vA vO vP wv) (valA cA cO CODES.Ok wk) (goodS (tS [117, 115, 101, 114] [112, 108, 97, 110] 3) (tI 3)) (valS (tS [117, 115, 101, 114] [112, 108, 97, 110] 3) (tI 3) w) C D (t1 := (3, C2)) ht5 rfl rfl (t4 := (u, C3)) htn rfl rfl rfl).trans ((congrArg (fun b => cond b _ _) hg9).trans (by simp only [a5, a4, a2, cond_false, cond_true, hg5, hn4, hn2, hv2, hv3, hz, hvC, hwr] <;> rfl))))
  · obtain ⟨p0, p1, p2⟩ := nextR_ok q2 (m := 4) (by omega)
    cases hne : nextR C2 4 with
    | mk u C3 =>
    rw [hne] at p0 p1 p2
    have p0 : 0 ≤ u := p0
    have p1 : u < 4 := p1
    have p2 : C3.Ok := p2
    have htn : vN [.ref 1000000 0, .int .i64 4] [codO C2] = (u, C3) := (vN_eq q2 (by omega)).trans hne
    have hvC : goodA vA vO vP [.ref 1000000 0, .int .i64 3] [codO C3] = true := vA_good (by omega) (by omega) p2
    have hyC : vPost (C3, 3) (valA vA vO vP wv [.ref 1000000 0, .int .i64 3] [codO C3]) := vA_post hwv (by omega) (by omega) p2
    have hwr : IntKind.wrap .i64 (12 + u) = 12 + u := wrap_lit (by omega) (by omega)
    exact leaf1 (op := 12 + u) (y := valA vA vO vP wv [.ref 1000000 0, .int .i64 3] [codO C3]) k1 k2 h3 h4 hyC ⟨by omega, by omega, by omega, by omega, fun _ => rfl⟩ (hc _ ((test_6 (gB 9 C) (goodA vA vO vP) (goodA cA cO CODES.Ok) vN (valA vA vO vP wv) (valA cA cO CODES.Ok wk) (goodS (tS [117, 115, 101, 114] [112, 108, 97, 110] 3) (tI 3)) (valS (tS [117, 115, 101, 114] [112, 108, 97, 110] 3) (tI 3) w) C D (t1 := (4, C2)) ht5 rfl rfl rfl rfl (t6 := (u, C3)) htn rfl).trans ((congrArg (fun b => cond b _ _) hg9).trans (by simp only [a5, a4, a2, cond_false, cond_true, hg5, hn4, hn2, hv2, hv3, hz, hvC, hwr] <;> rfl))))
set_option maxHeartbeats 400000 in
set_option maxRecDepth 100000 in
theorem test_ex7 (h9 : nextR C 9 = (7, D)) : ∃ x, tPost x ∧ Ct V2.P V2.G 47 (cA C) (cO C) (φQ x) := by
  have hT := entB_ok (m := 9) (by omega) hC h9
  have k1 : keyB [117, 115, 101, 114] = true := by kernel_rfl
  have k2 : keyB [116, 97, 103, 115] = true := by kernel_rfl
  obtain ⟨w, hw, hl⟩ := test_loop [117, 115, 101, 114] [116, 97, 103, 115] 5 (by omega) (by omega) (gB 9 C) (fun l os => cond (argN 9 l) (7, D) (vN l os)) (fun C' h' => gB_eq h' (by omega) (by omega)) (fun C' h' => by
    show cond (argN 9 [.ref 1000000 0, .int .i64 3]) (7, D) (vN [.ref 1000000 0, .int .i64 3] [codO C']) = _
    rw [argN_ne (by decide)]; exact vN_eq h' (by omega)) wv hwv [entC 104 cA cO CODES.Ok wk φT]
  have hc := fun r he => ct_loops (V := V2) (f := 47) (l := cA C) (os := cO C) (r := r) (n := 9) (d := 3) (T := [entB 9 C (7, D), entC 58 vA vO vP wv φV, entC 104 cA cO CODES.Ok wk φT]) mixed2 funcs2 (tabOk_cons hT (tabOk_cons htv (tabOk_cons htk tabOk_nil))) (loopsOk_cons (hl _) loopsOk_nil) he
  obtain ⟨q0, q1, q2⟩ := nextR_ok hD (m := 5) (by omega)
  cases h5e : nextR D 5 with
  | mk r C2 =>
  rw [h5e] at q0 q1 q2
  have q0 : 0 ≤ r := q0
  have q1 : r < 5 := q1
  have q2 : C2.Ok := q2
  have ht5 : vN [.ref 1000000 0, .int .i64 5] [codO D] = (r, C2) := (vN_eq hD (by omega)).trans h5e
  have a5 : argN 9 [.ref 1000000 0, .int .i64 5] = false := argN_ne (by decide)
  have a4 : argN 9 [.ref 1000000 0, .int .i64 4] = false := argN_ne (by decide)
  have a2 : argN 9 [.ref 1000000 0, .int .i64 2] = false := argN_ne (by decide)
  have hg9 : gB 9 C [.ref 1000000 0, .int .i64 (IntKind.wrap .i64 (((8 : Nat) : Int) + 1))] [codO C] = true := gB_eq (n := 9) hC (by omega) fun _ => rfl
  have hg5 : gB 9 C [.ref 1000000 0, .int .i64 5] [codO D] = true := gB_eq hD (by omega) (by omega)
  have hn4 : gB 9 C [.ref 1000000 0, .int .i64 4] [codO C2] = true := gB_eq q2 (by omega) (by omega)
  have hn2 : gB 9 C [.ref 1000000 0, .int .i64 2] [codO C2] = true := gB_eq q2 (by omega) (by omega)
  have hv2 : goodA vA vO vP [.ref 1000000 0, .int .i64 5] [codO C2] = true := vA_good (by omega) (by omega) q2
  have hv3 : goodA vA vO vP [.ref 1000000 0, .int .i64 3] [codO C2] = true := vA_good (by omega) (by omega) q2
  have hy2 : vPost (C2, 5) (valA vA vO vP wv [.ref 1000000 0, .int .i64 5] [codO C2]) := vA_post hwv (by omega) (by omega) q2
  have hy3 : vPost (C2, 3) (valA vA vO vP wv [.ref 1000000 0, .int .i64 3] [codO C2]) := vA_post hwv (by omega) (by omega) q2
  have hz : goodS (tS [117, 115, 101, 114] [116, 97, 103, 115] 5) (tI 5) (TS0 [117, 115, 101, 114] [116, 97, 103, 115] 5 C2) = true := tS_good [117, 115, 101, 114] [116, 97, 103, 115] 5 q2
  have hzp : tZ 5 (valS (tS [117, 115, 101, 114] [116, 97, 103, 115] 5) (tI 5) w (TS0 [117, 115, 101, 114] [116, 97, 103, 115] 5 C2)) := tS_post [117, 115, 101, 114] [116, 97, 103, 115] 5 hw q2
  have hr : r = 0 ∨ r = 1 ∨ r = 2 ∨ r = 3 ∨ r = 4 := by omega
  have h3 : ([117, 115, 101, 114] : List UInt8).length ≤ 100 := by decide
  have h4 : ([116, 97, 103, 115] : List UInt8).length ≤ 100 := by decide
  rcases hr with rfl | rfl | rfl | rfl | rfl
  · exact leaf0 (D := C2) k1 k2 h3 h4 q2 (hc _ ((test_7 (gB 9 C) (goodA vA vO vP) (goodA cA cO CODES.Ok) vN (valA vA vO vP wv) (valA cA cO CODES.Ok wk) (goodS (tS [117, 115, 101, 114] [116, 97, 103, 115] 5) (tI 5)) (valS (tS [117, 115, 101, 114] [116, 97, 103, 115] 5) (tI 5) w) C D (t1 := (0, C2)) ht5 rfl rfl).trans ((congrArg (fun b => cond b _ _) hg9).trans (by simp only [a5, a4, a2, cond_false, cond_true, hg5, hn4, hn2, hv2, hv3, hz] <;> rfl))))
  · exact leaf1 (op := 7) (y := valA vA vO vP wv [.ref 1000000 0, .int .i64 5] [codO C2]) k1 k2 h3 h4 hy2 ⟨by omega, by omega, by omega, by omega, by intro h; cases h⟩ (hc _ ((test_7 (gB 9 C) (goodA vA vO vP) (goodA cA cO CODES.Ok) vN (valA vA vO vP wv) (valA cA cO CODES.Ok wk) (goodS (tS [117, 115, 101, 114] [116, 97, 103, 115] 5) (tI 5)) (valS (tS [117, 115, 101, 114] [116, 97, 103, 115] 5) (tI 5) w) C D (t1 := (1, C2)) ht5 rfl rfl).trans ((congrArg (fun b => cond b _ _) hg9).trans (by simp only [a5, a4, a2, cond_false, cond_true, hg5, hn4, hn2, hv2, hv3, hz] <;> rfl))))
  · exact leaf1 (op := 11) (y := valA vA vO vP wv [.ref 1000000 0, .int .i64 3] [codO C2]) k1 k2 h3 h4 hy3 ⟨by omega, by omega, by omega, by omega, fun _ => rfl⟩ (hc _ ((test_7 (gB 9 C) (goodA vA vO vP) (goodA cA cO CODES.Ok) vN (valA vA vO vP wv) (valA cA cO CODES.Ok wk) (goodS (tS [117, 115, 101, 114] [116, 97, 103, 115] 5) (tI 5)) (valS (tS [117, 115, 101, 114] [116, 97, 103, 115] 5) (tI 5) w) C D (t1 := (2, C2)) ht5 rfl rfl).trans ((congrArg (fun b => cond b _ _) hg9).trans (by simp only [a5, a4, a2, cond_false, cond_true, hg5, hn4, hn2, hv2, hv3, hz] <;> rfl))))
  · exact leaf1 (op := 7) (y := valA vA vO vP wv [.ref 1000000 0, .int .i64 5] [codO C2]) k1 k2 h3 h4 hy2 ⟨by omega, by omega, by omega, by omega, by intro h; cases h⟩ (hc _ ((test_7 (gB 9 C) (goodA vA vO vP) (goodA cA cO CODES.Ok) vN (valA vA vO vP wv) (valA cA cO CODES.Ok wk) (goodS (tS [117, 115, 101, 114] [116, 97, 103, 115] 5) (tI 5)) (valS (tS [117, 115, 101, 114] [116, 97, 103, 115] 5) (tI 5) w) C D (t1 := (3, C2)) ht5 rfl rfl).trans ((congrArg (fun b => cond b _ _) hg9).trans (by simp only [a5, a4, a2, cond_false, cond_true, hg5, hn4, hn2, hv2, hv3, hz] <;> rfl))))
  · exact leaf1 (op := 7) (y := valA vA vO vP wv [.ref 1000000 0, .int .i64 5] [codO C2]) k1 k2 h3 h4 hy2 ⟨by omega, by omega, by omega, by omega, by intro h; cases h⟩ (hc _ ((test_7 (gB 9 C) (goodA vA vO vP) (goodA cA cO CODES.Ok) vN (valA vA vO vP wv) (valA cA cO CODES.Ok wk) (goodS (tS [117, 115, 101, 114] [116, 97, 103, 115] 5) (tI 5)) (valS (tS [117, 115, 101, 114] [116, 97, 103, 115] 5) (tI 5) w) C D (t1 := (4, C2)) ht5 rfl rfl).trans ((congrArg (fun b => cond b _ _) hg9).trans (by simp only [a5, a4, a2, cond_false, cond_true, hg5, hn4, hn2, hv2, hv3, hz] <;> rfl))))
end
end Go.SH

namespace Go.SH
open Go Go.Ab Go.Proofs
set_option linter.unusedVariables false
set_option linter.unusedSimpArgs false
theorem key_cells (s : List UInt8) : ∀ j, j < [(⟨3, 0, s, []⟩ : VAL)].length → ∀ (i : Nat) (u u' : AV), (fillGet zV [(0, .agg [.int .i64 3, .int .i64 0, .str s, .sl .fit 0 0 fun _ => []])] j)[i]? = some u → (([(⟨3, 0, s, []⟩ : VAL)].getD j default).c)[i]? = some u' → u'.one = true ∧ ∀ c x, Rep c u x → Rep c u' x := fun j hj i u u' hu hu' => by
  match j, hj with
  | 0, _ =>
    have hu : [AV.int .i64 3, .int .i64 0, .str s, .sl .fit 0 0 fun _ => []][i]? = some u := hu
    match i with
    | 0 => simp only [List.getElem?_cons_zero, Option.some.injEq] at hu; subst hu; have hu' : some (AV.int .i64 3) = some u' := hu'; simp only [Option.some.injEq] at hu'; subst hu'; exact ⟨rfl, fun _ _ h => h⟩
    | 1 => simp only [List.getElem?_cons_succ, List.getElem?_cons_zero, Option.some.injEq] at hu; subst hu; have hu' : some (AV.int .i64 0) = some u' := hu'; simp only [Option.some.injEq] at hu'; subst hu'; exact ⟨rfl, fun _ _ h => h⟩
    | 2 => simp only [List.getElem?_cons_succ, List.getElem?_cons_zero, Option.some.injEq] at hu; subst hu; have hu' : some (AV.str s) = some u' := hu'; simp only [Option.some.injEq] at hu'; subst hu'; exact ⟨rfl, fun _ _ h => h⟩
    | 3 => simp only [List.getElem?_cons_succ, List.getElem?_cons_zero, Option.some.injEq] at hu; subst hu; have hu' : some (strsA []) = some u' := hu'; simp only [Option.some.injEq] at hu'; subst hu'; exact ⟨rfl, fun _ => sl_fit⟩
    | i + 4 => simp at hu
section
variable {C D : CODES} (hC : C.Ok) (hD : D.Ok) {wv : CODES × Int → VAL × CODES} (hwv : ∀ a, vP a → vPost a (wv a)) (htv : ∀ l os, (entC 58 vA vO vP wv φV).pre l os = true → Ct V2.P V2.G (entC 58 vA vO vP wv φV).f l os ((entC 58 vA vO vP wv φV).ans l os))
  {wk : CODES → List UInt8 × CODES} (hwk : ∀ C, C.Ok → (wk C).1 ∈ keysL10 ∧ (wk C).2.Ok) (htk : ∀ l os, (entC 104 cA cO CODES.Ok wk φT).pre l os = true → Ct V2.P V2.G (entC 104 cA cO CODES.Ok wk φT).f l os ((entC 104 cA cO CODES.Ok wk φT).ans l os))
include hC hD hwv htv hwk htk
set_option maxHeartbeats 400000 in
set_option maxRecDepth 100000 in
theorem test_ex8 (h9 : nextR C 9 = (8, D)) : ∃ x, tPost x ∧ Ct V2.P V2.G 47 (cA C) (cO C) (φQ x) := by
  have hT := entB_ok (m := 9) (by omega) hC h9
  have k1 : keyB [117, 115, 101, 114] = true := by kernel_rfl
  have k2 : keyB [107, 101, 121] = true := by kernel_rfl
  obtain ⟨w, hw, hl⟩ := test_loop [] [] 2 (by omega) (by omega) (gB 9 C) (fun l os => cond (argN 9 l) (8, D) (vN l os)) (fun C' h' => gB_eq h' (by omega) (by omega)) (fun C' h' => by
    show cond (argN 9 [.ref 1000000 0, .int .i64 3]) (8, D) (vN [.ref 1000000 0, .int .i64 3] [codO C']) = _
    rw [argN_ne (by decide)]; exact vN_eq h' (by omega)) wv hwv [entC 104 cA cO CODES.Ok wk φT]
  have hc := fun r he => ct_loops (V := V2) (f := 47) (l := cA C) (os := cO C) (r := r) (n := 9) (d := 3) (T := [entB 9 C (8, D), entC 58 vA vO vP wv φV, entC 104 cA cO CODES.Ok wk φT]) mixed2 funcs2 (tabOk_cons hT (tabOk_cons htv (tabOk_cons htk tabOk_nil))) (loopsOk_cons (hl _) loopsOk_nil) he
  have hg9 : gB 9 C [.ref 1000000 0, .int .i64 (IntKind.wrap .i64 (((8 : Nat) : Int) + 1))] [codO C] = true := gB_eq (n := 9) hC (by omega) fun _ => rfl
  have hgk : goodA cA cO CODES.Ok [.ref 1000000 0] [codO D] = true := goodA_eq (A := cA) (O := cO) (v := D) hD
  have hvk : (valA cA cO CODES.Ok wk [.ref 1000000 0] [codO D]).1 ∈ keysL10 ∧ (valA cA cO CODES.Ok wk [.ref 1000000 0] [codO D]).2.Ok := valA_post (A := cA) (O := cO) (Post := fun (_ : CODES) (x : List UInt8 × CODES) => x.1 ∈ keysL10 ∧ x.2.Ok) hwk (fun a b x _ _ hx => hx) hD
  generalize hy : valA cA cO CODES.Ok wk [.ref 1000000 0] [codO D] = y at hvk
  obtain ⟨v1, v2⟩ := hvk
  obtain ⟨g1, g2, g3⟩ := keys_good _ v1
  have e1 := hc (.agg (exC 7 [117, 115, 101, 114] [107, 101, 121] (.sl .fit 4 1 (fillGet zV [(0, .agg [.int .i64 3, .int .i64 0, .str y.1, .sl .fit 0 0 fun _ => []])]))), [codO y.2]) ((test_8 (gB 9 C) (goodA vA vO vP) (goodA cA cO CODES.Ok) vN (valA vA vO vP wv) (valA cA cO CODES.Ok wk) (goodS (tS [] [] 2) (tI 2)) (valS (tS [] [] 2) (tI 2) w) C D (t1 := y) hy).trans ((congrArg (fun b => cond b _ _) hg9).trans ((congrArg (fun b => cond b _ _) hgk).trans rfl)))
  exact ⟨(.mk 7 [117, 115, 101, 114] [107, 101, 121] [⟨3, 0, y.1, []⟩] [], y.2), ⟨⟨part_test (by omega) (by omega) k1 k2 (by intro v hv; simp at hv; subst hv; exact g2) (by simp) rfl (by intro h; cases h), rfl, .mk _ (by show 4 ≤ maxS; unfold maxS; omega) (by show 3 ≤ maxS; unfold maxS; omega) ⟨by show 1 ≤ _; omega, by intro v hv; have : v ∈ [(⟨3, 0, y.1, []⟩ : VAL)] := hv; simp at this; subst this; exact g3⟩ (by show 0 ≤ _; omega) (by intro v hv; cases hv)⟩, v2⟩, test_ct (l := [⟨3, 0, y.1, []⟩]) (key_cells y.1) e1⟩
end
/-- Test: it answers a test, whatever the codes are. -/
theorem test_ex (C : CODES) (hC : C.Ok) : ∃ x, tPost x ∧ Ct V2.P V2.G 47 (cA C) (cO C) (φQ x) := by
  obtain ⟨wv, hwv, htv⟩ := ent_ex (V := V2) (f := 58) (A := vA) (O := vO) (Pre := vP) (φ := φV) (Post := vPost) value_ex
  obtain ⟨wk, hwk, htk⟩ := ent_ex (V := V2) (f := 104) (A := cA) (O := cO) (Pre := CODES.Ok) (φ := φT) (Post := fun (_ : CODES) (x : List UInt8 × CODES) => x.1 ∈ keysL10 ∧ x.2.Ok) key_ex
  obtain ⟨h0, h1, h2⟩ := nextR_ok hC (m := 9) (by omega)
  cases h9 : nextR C 9 with
  | mk r D =>
  rw [h9] at h0 h1 h2
  have h0 : 0 ≤ r := h0
  have h1 : r < 9 := h1
  have hr : r = 0 ∨ r = 1 ∨ r = 2 ∨ r = 3 ∨ r = 4 ∨ r = 5 ∨ r = 6 ∨ r = 7 ∨ r = 8 := by omega
  rcases hr with rfl | rfl | rfl | rfl | rfl | rfl | rfl | rfl | rfl
  · exact test_ex0 hC h2 hwv htv hwk htk h9
  · exact test_ex1 hC h2 hwv htv hwk htk h9
  · exact test_ex2 hC h2 hwv htv hwk htk h9
  · exact test_ex3 hC h2 hwv htv hwk htk h9
  · exact test_ex4 hC h2 hwv htv hwk htk h9
  · exact test_ex5 hC h2 hwv htv hwk htk h9
  · exact test_ex6 hC h2 hwv htv hwk htk h9
  · exact test_ex7 hC h2 hwv htv hwk htk h9
  · exact test_ex8 hC h2 hwv htv hwk htk h9
end Go.SH

namespace Go.SH
open Go Go.Ab Go.Proofs
set_option linter.unusedVariables false
set_option linter.unusedSimpArgs false
def nilS : AV := .sl .fit 0 0 fun _ => []
def φC (x : EXP × CODES) : AV × List AO := (.agg (expC x.1.op x.1.kind x.1.name x.1.vals x.1.kids.length (EXP.row x.1.kids)), [codO x.2])
def exK (op : Int) (ks : AV) : List AV := [.int .i64 op, .str [], .str [], .sl .fit 0 0 fun _ => [], ks]
inductive KID where
  | plain (e : EXP)
  | neg (e : EXP)
def KID.e : KID → EXP
  | .plain e => e
  | .neg e => notX e
def eC (e : EXP) : List AV := expC e.op e.kind e.name e.vals e.kids.length (EXP.row e.kids)
def KID.c : KID → List AV
  | .plain e => eC e
  | .neg e => exK 4 (.sl .fit 5 1 (fillGet ex0 [(0, .agg (eC e))]))
def getX (l : List KID) (j : Nat) : List AV := (l.map KID.c).getD j ex0
def XS0 (op lv n : Int) (C : CODES) : St := { env := [(0, .ref keyBase 0), (1, nilS), (2, .int .i64 lv), (6, .ref 6 0), (8, .int .i64 op), (9, .ref 9 0), (10, .int .i64 n), (11, .int .i64 0)], objs := [(6, .cells ex0), (9, .cells (exK op (.sl (.key 81) 5 0 fun _ => ex0))), (keyBase, codO C), (81, .own 5 0)] }
def XS (op lv n : Int) (m : Nat) (get : Nat → List AV) (C : CODES) (i : Nat) : St := { env := [(0, .ref keyBase 0), (1, nilS), (2, .int .i64 lv), (6, .ref 6 0), (8, .int .i64 op), (9, .ref 9 0), (10, .int .i64 n), (11, .int .i64 i)], objs := [(6, .cells ex0), (9, .cells (exK op (.sl (.key 81) 5 m get))), (81, .own 5 m), (keyBase, codO C)] }
def XE (op : Int) (m : Nat) (get : Nat → List AV) (C : CODES) : St := { env := [(6, .ref 6 0), (9, .ref 9 0)], objs := [(6, .cells ex0), (9, .cells (exK op (.sl (.key 81) 5 m get))), (81, .own 5 m), (keyBase, codO C)] }
def outX (op : Int) (x : List KID × CODES) (k : Ex → St → Res) : Res := k (.exit 1) (XE op x.1.length (getX x.1) x.2)
set_option maxRecDepth 100000 in
theorem xpr_r0 (ge gx : List AV → List AO → Bool) (ve : List AV → List AO → Int × CODES) (vx : List AV → List AO → EXP × CODES) (T : List Ent) (L : List (List Nat × Orc)) (m : Nat) (op lv n : Int) (C : CODES) (kn : St → Res) (k : Ex → St → Res) {t1 : EXP × CODES} (h_t1 : vx [.ref 1000000 0, .sl .fit 0 0 fun x => [], .int .i64 (IntKind.wrap IntKind.i64 (lv - 1))] [codO C] = t1) : roundR (V2.run (mkE 19 ge ve φX :: mkE 13 gx vx φC :: T) 3 [] L [] 13) 13 m [1, 1, 1, 0, 1, 0, 1, 1, 1, 1, 1, 1, 1, 0, 1, 1, 1, 0, 1, 0] (XS0 op lv n C) kn k =
  cond (decide (0 < n)) (cond (gx [.ref 1000000 0, .sl .fit 0 0 fun x => [], .int .i64 (IntKind.wrap IntKind.i64 (lv - 1))] [codO C]) (cond (EXP.op (Prod.fst t1) == op) (kn (XS op lv n 1 (appGet 0 1 (fun x => exK 0 (.sl .fit 0 0 fun x => [])) (fillGet (exK 0 (.sl .fit 0 0 fun x => [])) [(0, .agg (exK 4 (.sl .fit 5 1 (fillGet (exK 0 (.sl .fit 0 0 fun x => [])) [(0, .agg (eC (Prod.fst t1)))]))))])) (Prod.snd t1) ((0 + 1) % Int.natAbs (2 ^ IntKind.bits IntKind.i64)))) (kn (XS op lv n 1 (appGet 0 1 (fun x => exK 0 (.sl .fit 0 0 fun x => [])) (fillGet (exK 0 (.sl .fit 0 0 fun x => [])) [(0, .agg (eC (Prod.fst t1)))])) (Prod.snd t1) ((0 + 1) % Int.natAbs (2 ^ IntKind.bits IntKind.i64))))) (none)) (k (.exit 1) (XE op 0 (fun x => exK 0 (.sl .fit 0 0 fun x => [])) C)) := by subst h_t1; kernel_rfl
set_option maxRecDepth 100000 in
theorem xpr_r (ge gx : List AV → List AO → Bool) (ve : List AV → List AO → Int × CODES) (vx : List AV → List AO → EXP × CODES) (T : List Ent) (L : List (List Nat × Orc)) (m : Nat) (op lv n : Int) (q : Nat) (get : Nat → List AV) (C : CODES) (i : Nat) (kn : St → Res) (k : Ex → St → Res) {t1 : EXP × CODES} (h_t1 : vx [.ref 1000000 0, .sl .fit 0 0 fun x => [], .int .i64 (IntKind.wrap IntKind.i64 (lv - 1))] [codO C] = t1) : roundR (V2.run (mkE 19 ge ve φX :: mkE 13 gx vx φC :: T) 3 [] L [] 13) 13 m [1, 1, 1, 0, 1, 0, 1, 1, 1, 1, 1, 1, 1, 0, 1, 1, 1, 0, 1, 0] (XS op lv n (q + 1) get C i) kn k =
  cond (decide ((↑i : Int) < n)) (cond (gx [.ref 1000000 0, .sl .fit 0 0 fun x => [], .int .i64 (IntKind.wrap IntKind.i64 (lv - 1))] [codO C]) (cond (EXP.op (Prod.fst t1) == op) (cond (roomy (88) (q + 1 + 1) && Nat.beq (q + 1) (q + 1)) (kn ({ env := [(0, .ref 1000000 0), (1, .sl .fit 0 0 fun x => []), (2, .int .i64 lv), (6, .ref 6 0), (8, .int .i64 op), (9, .ref 9 0), (10, .int .i64 n), (11, .int .i64 (IntKind.wrap IntKind.i64 ((↑i : Int) + 1)))], objs := [(6, .cells (exK 0 (.sl .fit 0 0 fun x => []))), (9, .cells (exK op (.sl (.key 81) 5 (q + 1 + 1) (appGet (q + 1) 1 get (fillGet (exK 0 (.sl .fit 0 0 fun x => [])) [(0, .agg (exK 4 (.sl .fit 5 1 (fillGet (exK 0 (.sl .fit 0 0 fun x => [])) [(0, .agg (eC (Prod.fst t1)))]))))]))))), (81, .own 5 (q + 1 + 1)), (1000000, codO (Prod.snd t1))] })) (none)) (cond (roomy (88) (q + 1 + 1) && Nat.beq (q + 1) (q + 1)) (kn ({ env := [(0, .ref 1000000 0), (1, .sl .fit 0 0 fun x => []), (2, .int .i64 lv), (6, .ref 6 0), (8, .int .i64 op), (9, .ref 9 0), (10, .int .i64 n), (11, .int .i64 (IntKind.wrap IntKind.i64 ((↑i : Int) + 1)))], objs := [(6, .cells (exK 0 (.sl .fit 0 0 fun x => []))), (9, .cells (exK op (.sl (.key 81) 5 (q + 1 + 1) (appGet (q + 1) 1 get (fillGet (exK 0 (.sl .fit 0 0 fun x => [])) [(0, .agg (eC (Prod.fst t1)))]))))), (81, .own 5 (q + 1 + 1)), (1000000, codO (Prod.snd t1))] })) (none))) (none)) (k (.exit 1) (XE op (q + 1) get C)) := by subst h_t1; kernel_rfl
set_option maxRecDepth 100000 in
theorem xpr_e (ge gx gt : List AV → List AO → Bool) (ve : List AV → List AO → Int × CODES) (vx vt : List AV → List AO → EXP × CODES) (w : St → Bool) (v : St → List KID × CODES) (o lv : Int) (C : CODES) {t1 : Int × CODES} (h_t1 : ve [.ref 1000000 0, .int .i64 8] [codO C] = t1) {t2 : EXP × CODES} (h_t2 : vt [.ref 1000000 0] [codO (Prod.snd t1)] = t2) {t3 : EXP × CODES} (h_t3 : vx [.ref 1000000 0, .sl .fit 0 0 fun x => [], .int .i64 (IntKind.wrap IntKind.i64 (lv - 1))] [codO (Prod.snd t1)] = t3) {t4 : Int × CODES} (h_t4 : ve [.ref 1000000 0, .int .i64 2] [codO (Prod.snd t1)] = t4) {t5 : Int × CODES} (h_t5 : ve [.ref 1000000 0, .int .i64 2] [codO (Prod.snd t4)] = t5) {t6 : List KID × CODES} (h_t6 : v (XS0 (IntKind.wrap IntKind.i64 (2 + Prod.fst t4)) lv (IntKind.wrap IntKind.i64 (2 + Prod.fst t5)) (Prod.snd t5)) = t6) : runF (V2.run [mkE 19 ge ve φX, mkE 13 gx vx φC, mkE 47 gt vt φC] 3 [] [([1, 1, 1, 0, 1, 0, 1, 1, 1, 1, 1, 1, 1, 0, 1, 1, 1, 0, 1, 0], mkO w v (outX o))] [] 13) 9 13 [.ref keyBase 0, nilS, .int .i64 lv] [codO C] =
  cond (ge [.ref 1000000 0, .int .i64 8] [codO C]) (cond (bif decide (lv ≤ 1) then decide (Prod.fst t1 ≥ 4) else false) (cond (IntKind.wrap IntKind.i64 (Prod.fst t1 - 4) == 0) (some ((.agg (exK 1 (.sl .fit 0 0 fun x => [])), [codO (Prod.snd t1)]))) (cond (IntKind.wrap IntKind.i64 (Prod.fst t1 - 4) == 3) (cond (gt [.ref 1000000 0] [codO (Prod.snd t1)]) (some ((.agg (eC (Prod.fst t2)), [codO (Prod.snd t2)]))) (none)) (cond (IntKind.wrap IntKind.i64 (Prod.fst t1 - 4) == 4) (cond (gx [.ref 1000000 0, .sl .fit 0 0 fun x => [], .int .i64 (IntKind.wrap IntKind.i64 (lv - 1))] [codO (Prod.snd t1)]) (some ((.agg (exK 4 (.sl .fit 5 1 (fillGet (exK 0 (.sl .fit 0 0 fun x => [])) [(0, .agg (eC (Prod.fst t3)))]))), [codO (Prod.snd t3)]))) (none)) (cond (IntKind.wrap IntKind.i64 (Prod.fst t1 - 4) == 5) (cond (IntKind.wrap IntKind.i64 (Prod.fst t1 - 4) == 5) (cond (ge [.ref 1000000 0, .int .i64 2] [codO (Prod.snd t1)]) (cond (ge [.ref 1000000 0, .int .i64 2] [codO (Prod.snd t4)]) (cond (w (XS0 (IntKind.wrap IntKind.i64 (2 + Prod.fst t4)) lv (IntKind.wrap IntKind.i64 (2 + Prod.fst t5)) (Prod.snd t5))) (some ((.agg (exK o (.sl .no 5 (List.length (Prod.fst t6)) (getX (Prod.fst t6)))), [codO (Prod.snd t6)]))) (none)) (none)) (none)) (cond (gt [.ref 1000000 0] [codO (Prod.snd t1)]) (some ((.agg (eC (Prod.fst t2)), [codO (Prod.snd t2)]))) (none))) (cond (IntKind.wrap IntKind.i64 (Prod.fst t1 - 4) == 6) (cond (ge [.ref 1000000 0, .int .i64 2] [codO (Prod.snd t1)]) (cond (ge [.ref 1000000 0, .int .i64 2] [codO (Prod.snd t4)]) (cond (w (XS0 (IntKind.wrap IntKind.i64 (2 + Prod.fst t4)) lv (IntKind.wrap IntKind.i64 (2 + Prod.fst t5)) (Prod.snd t5))) (some ((.agg (exK o (.sl .no 5 (List.length (Prod.fst t6)) (getX (Prod.fst t6)))), [codO (Prod.snd t6)]))) (none)) (none)) (none)) (cond (gt [.ref 1000000 0] [codO (Prod.snd t1)]) (some ((.agg (eC (Prod.fst t2)), [codO (Prod.snd t2)]))) (none))))))) (cond (Prod.fst t1 == 0) (some ((.agg (exK 1 (.sl .fit 0 0 fun x => [])), [codO (Prod.snd t1)]))) (cond (Prod.fst t1 == 3) (cond (gt [.ref 1000000 0] [codO (Prod.snd t1)]) (some ((.agg (eC (Prod.fst t2)), [codO (Prod.snd t2)]))) (none)) (cond (Prod.fst t1 == 4) (cond (gx [.ref 1000000 0, .sl .fit 0 0 fun x => [], .int .i64 (IntKind.wrap IntKind.i64 (lv - 1))] [codO (Prod.snd t1)]) (some ((.agg (exK 4 (.sl .fit 5 1 (fillGet (exK 0 (.sl .fit 0 0 fun x => [])) [(0, .agg (eC (Prod.fst t3)))]))), [codO (Prod.snd t3)]))) (none)) (cond (Prod.fst t1 == 5) (cond (Prod.fst t1 == 5) (cond (ge [.ref 1000000 0, .int .i64 2] [codO (Prod.snd t1)]) (cond (ge [.ref 1000000 0, .int .i64 2] [codO (Prod.snd t4)]) (cond (w (XS0 (IntKind.wrap IntKind.i64 (2 + Prod.fst t4)) lv (IntKind.wrap IntKind.i64 (2 + Prod.fst t5)) (Prod.snd t5))) (some ((.agg (exK o (.sl .no 5 (List.length (Prod.fst t6)) (getX (Prod.fst t6)))), [codO (Prod.snd t6)]))) (none)) (none)) (none)) (cond (gt [.ref 1000000 0] [codO (Prod.snd t1)]) (some ((.agg (eC (Prod.fst t2)), [codO (Prod.snd t2)]))) (none))) (cond (Prod.fst t1 == 6) (cond (ge [.ref 1000000 0, .int .i64 2] [codO (Prod.snd t1)]) (cond (ge [.ref 1000000 0, .int .i64 2] [codO (Prod.snd t4)]) (cond (w (XS0 (IntKind.wrap IntKind.i64 (2 + Prod.fst t4)) lv (IntKind.wrap IntKind.i64 (2 + Prod.fst t5)) (Prod.snd t5))) (some ((.agg (exK o (.sl .no 5 (List.length (Prod.fst t6)) (getX (Prod.fst t6)))), [codO (Prod.snd t6)]))) (none)) (none)) (none)) (cond (gt [.ref 1000000 0] [codO (Prod.snd t1)]) (some ((.agg (eC (Prod.fst t2)), [codO (Prod.snd t2)]))) (none)))))))) (none) := by subst h_t6 h_t5 h_t4 h_t3 h_t2 h_t1; kernel_rfl
end Go.SH

namespace Go.SH
open Go Go.Ab Go.Proofs
set_option linter.unusedVariables false
set_option linter.unusedSimpArgs false
abbrev XSt := CODES ⊕ (List KID × CODES)
def xA (lv : Int) (_ : CODES) : List AV := [.ref keyBase 0, nilS, .int .i64 lv]
def xPost (q : Nat) (x : EXP × CODES) : Prop := (VE q x.1 ∧ x.1.Ok) ∧ x.2.Ok
def okK (op : Int) (q : Nat) (k : KID) : Prop := VE (q + 1) k.e ∧ k.e.op ≠ op ∧ k.e.Ok
def xS (op lv : Int) (n : Nat) : XSt → St
  | .inl C => XS0 op lv n C
  | .inr (l, C) => XS op lv n l.length (getX l) C l.length
def xI (op : Int) (q n : Nat) : XSt → Prop
  | .inl C => C.Ok
  | .inr (l, C) => C.Ok ∧ 1 ≤ l.length ∧ l.length ≤ n ∧ ∀ k ∈ l, okK op q k
def xM : XSt → Nat
  | .inl _ => 5
  | .inr (l, _) => 4 - l.length
def xZ (op : Int) (q n : Nat) (z : List KID × CODES) : Prop := z.1.length = n ∧ (∀ k ∈ z.1, okK op q k) ∧ z.2.Ok
instance : Inhabited (List KID × CODES) := ⟨([], default)⟩
theorem getX_app (l : List KID) (k : KID) : appGet l.length 1 (getX l) (fillGet ex0 [(0, .agg k.c)]) = getX (l ++ [k]) := by
  funext j
  unfold appGet getX
  by_cases h : j < l.length
  · rw [bltT h]
    simp [List.getD, h, List.getElem?_append_left]
  · have hb : Nat.blt j l.length = false := by
      cases e : Nat.blt j l.length with
      | false => rfl
      | true => exact absurd (ltB e) h
    rw [hb, cond_false]
    by_cases h1 : j = l.length
    · subst h1
      rw [bltT (by omega), cond_true, Nat.sub_self]
      simp [fillGet, AV.cells, List.getD]
    · have hb1 : Nat.blt j (l.length + 1) = false := by
        cases e : Nat.blt j (l.length + 1) with
        | false => rfl
        | true => exact absurd (ltB e) (by omega)
      rw [hb1, cond_false]
      simp only [List.map_append, List.map_cons, List.map_nil, List.getD]
      rw [List.getElem?_eq_none (by simp; omega), List.getElem?_eq_none (by simp; omega)]
theorem notX_ok {e : EXP} (h : e.Ok) : (notX e).Ok := .mk _ (by show 0 ≤ maxS; unfold maxS; omega) (by show 0 ≤ maxS; unfold maxS; omega) ⟨by show 0 ≤ _; omega, by intro v hv; cases hv⟩ (by show 1 ≤ _; omega) (by intro v hv; have : v ∈ [e] := hv; simp at this; subst this; exact h)
/-- The kid that comes of an answer. -/
def kidOf (op : Int) (e : EXP) : KID := bif e.op == op then .neg e else .plain e
theorem kidOf_ok {op : Int} {q : Nat} {x : EXP × CODES} (hop : op = 2 ∨ op = 3) (h : xPost q x) : okK op q (kidOf op x.1) := by
  unfold kidOf
  cases hb : (x.1.op == op) with
  | true => exact ⟨h.1.1.not, by show (4 : Int) ≠ op; omega, notX_ok h.1.2⟩
  | false => exact ⟨h.1.1.up, beq_eq_false_iff_ne.1 hb, h.1.2⟩
theorem xA_good {lv : Int} {C : CODES} (h : C.Ok) : goodA (xA lv) cO CODES.Ok [.ref 1000000 0, nilS, .int .i64 lv] [codO C] = true := goodA_eq (A := xA lv) (O := cO) (v := C) h
theorem xA_post {lv : Int} {q : Nat} {wx : CODES → EXP × CODES} (hwx : ∀ C, C.Ok → xPost q (wx C)) {C : CODES} (h : C.Ok) : xPost q (valA (xA lv) cO CODES.Ok wx [.ref 1000000 0, nilS, .int .i64 lv] [codO C]) := valA_post (A := xA lv) (O := cO) (a := C) (Post := fun (_ : CODES) (x : EXP × CODES) => xPost q x) hwx (fun _ _ _ _ _ h => h) h
theorem expr_loop (op lv : Int) (n q : Nat) (hop : op = 2 ∨ op = 3) (h2 : 2 ≤ n) (h3 : n ≤ 3) (ge : List AV → List AO → Bool) (ve : List AV → List AO → Int × CODES)
    (wx : CODES → EXP × CODES) (hwx : ∀ C, C.Ok → xPost q (wx C)) (T : List Ent) :
    ∃ w : XSt → List KID × CODES, (∀ v, xI op q n v → xZ op q n (w v)) ∧ ∀ L, LoopOk (V2.run (mkE 19 ge ve φX :: entC 13 (xA (IntKind.wrap .i64 (lv - 1))) cO CODES.Ok wx φC :: T) 3 [] L [] 13) 13 [1, 1, 1, 0, 1, 0, 1, 1, 1, 1, 1, 1, 1, 0, 1, 1, 1, 0, 1, 0] (mkO (goodS (xS op lv n) (xI op q n)) (valS (xS op lv n) (xI op q n) w) (outX op)) := by
  refine loop_ex (Xf := fun L => V2.run (mkE 19 ge ve φX :: entC 13 (xA (IntKind.wrap .i64 (lv - 1))) cO CODES.Ok wx φC :: T) 3 [] L [] 13) (b := subC (bodyOf V2.P 13) ([1, 1, 1, 0, 1, 0, 1, 1, 1, 1, 1, 1, 1, 0, 1, 1, 1, 0, 1, 0] ++ [0])) (xS op lv n) (xI op q n) xM (outX op) (fun _ => xZ op q n) (fun _ => by kernel_rfl) 9 fun v hv => ?_
  have hgv : ∀ C : CODES, C.Ok → goodA (xA (IntKind.wrap .i64 (lv - 1))) cO CODES.Ok [.ref 1000000 0, .sl .fit 0 0 fun x => [], .int .i64 (IntKind.wrap .i64 (lv - 1))] [codO C] = true := fun C hC => xA_good hC
  have hvv : ∀ C : CODES, C.Ok → xPost q (valA (xA (IntKind.wrap .i64 (lv - 1))) cO CODES.Ok wx [.ref 1000000 0, .sl .fit 0 0 fun x => [], .int .i64 (IntKind.wrap .i64 (lv - 1))] [codO C]) := fun C hC => xA_post hwx hC
  cases v with
  | inl C =>
    have hC : C.Ok := hv
    have hp := hvv C hC
    have hk := kidOf_ok hop hp
    have hn : (0 : Int) < (n : Int) := by omega
    refine .inr ⟨.inr ([kidOf op (valA (xA (IntKind.wrap .i64 (lv - 1))) cO CODES.Ok wx [.ref 1000000 0, .sl .fit 0 0 fun x => [], .int .i64 (IntKind.wrap .i64 (lv - 1))] [codO C]).1], (valA (xA (IntKind.wrap .i64 (lv - 1))) cO CODES.Ok wx [.ref 1000000 0, .sl .fit 0 0 fun x => [], .int .i64 (IntKind.wrap .i64 (lv - 1))] [codO C]).2), ?_, by show 4 - 1 < 5; omega, fun _ h => h, fun L k kn => ?_⟩
    · exact ⟨hp.2, by show 1 ≤ 1; omega, by show 1 ≤ n; omega, fun v hv => by simp at hv; subst hv; exact hk⟩
    · refine (xpr_r0 ge _ ve _ T L _ op lv n C kn k rfl).trans ?_
      rw [hgv C hC, decide_eq_true hn]
      revert hp hk
      generalize valA (xA (IntKind.wrap .i64 (lv - 1))) cO CODES.Ok wx [.ref 1000000 0, .sl .fit 0 0 fun x => [], .int .i64 (IntKind.wrap .i64 (lv - 1))] [codO C] = x
      intro hp hk
      have h1 := getX_app [] (kidOf op x.1)
      have h0 : (fun _ : Nat => ex0) = getX [] := by funext j; rfl
      unfold kidOf at h1 ⊢
      cases hb : (x.1.op == op) with
      | true =>
        rw [hb] at h1
        show kn _ = kn (XS op lv n 1 (getX [.neg x.1]) x.2 1)
        congr 1
        show XS op lv n 1 (appGet 0 1 (fun _ => ex0) (fillGet ex0 [(0, .agg (KID.c (.neg x.1)))])) x.2 1 = _
        rw [h0]; exact congrArg (fun g => XS op lv n 1 g x.2 1) h1
      | false =>
        rw [hb] at h1
        show kn _ = kn (XS op lv n 1 (getX [.plain x.1]) x.2 1)
        congr 1
        show XS op lv n 1 (appGet 0 1 (fun _ => ex0) (fillGet ex0 [(0, .agg (KID.c (.plain x.1)))])) x.2 1 = _
        rw [h0]; exact congrArg (fun g => XS op lv n 1 g x.2 1) h1
  | inr y =>
    obtain ⟨l, C⟩ := y
    obtain ⟨hC, l1, l3, lv'⟩ := hv
    obtain ⟨m, hm⟩ : ∃ m, l.length = m + 1 := ⟨l.length - 1, by omega⟩
    have hp := hvv C hC
    have hk := kidOf_ok hop hp
    by_cases hi : (l.length : Int) < (n : Int)
    · refine .inr ⟨.inr (l ++ [kidOf op (valA (xA (IntKind.wrap .i64 (lv - 1))) cO CODES.Ok wx [.ref 1000000 0, .sl .fit 0 0 fun x => [], .int .i64 (IntKind.wrap .i64 (lv - 1))] [codO C]).1], (valA (xA (IntKind.wrap .i64 (lv - 1))) cO CODES.Ok wx [.ref 1000000 0, .sl .fit 0 0 fun x => [], .int .i64 (IntKind.wrap .i64 (lv - 1))] [codO C]).2), ?_, ?_, fun _ h => h, fun L k kn => ?_⟩
      · refine ⟨hp.2, by simp, by simp; omega, fun v hv => ?_⟩
        rcases List.mem_append.1 hv with hv | hv
        · exact lv' v hv
        · simp at hv; subst hv; exact hk
      · show 4 - (l ++ [_]).length < 4 - l.length
        rw [List.length_append, List.length_singleton]; omega
      · have := xpr_r ge (goodA (xA (IntKind.wrap .i64 (lv - 1))) cO CODES.Ok) ve (valA (xA (IntKind.wrap .i64 (lv - 1))) cO CODES.Ok wx) T L 9 op lv n m (getX l) C l.length kn k rfl
        rw [← hm] at this
        refine this.trans ?_
        rw [decide_eq_true hi, hgv C hC, wrap_next (n := 4) (by omega) (by omega)]
        have hr : (roomy 88 (l.length + 1) && Nat.beq l.length l.length) = true := by
          have : l.length = 1 ∨ l.length = 2 ∨ l.length = 3 := by omega
          rcases this with e | e | e <;> rw [e] <;> rfl
        rw [hr]
        revert hp hk
        generalize valA (xA (IntKind.wrap .i64 (lv - 1))) cO CODES.Ok wx [.ref 1000000 0, .sl .fit 0 0 fun x => [], .int .i64 (IntKind.wrap .i64 (lv - 1))] [codO C] = x
        intro hp hk
        have h1 := getX_app l (kidOf op x.1)
        show _ = kn (XS op lv n (l ++ [_]).length (getX (l ++ [_])) _ (l ++ [_]).length)
        rw [List.length_append, List.length_singleton, ← h1]
        unfold kidOf
        cases hb : (x.1.op == op) with
        | true => rfl
        | false => rfl
    · refine .inl ⟨(l, C), ⟨by show l.length = n; omega, lv', hC⟩, fun L k kn => ?_⟩
      have := xpr_r ge (goodA (xA (IntKind.wrap .i64 (lv - 1))) cO CODES.Ok) ve (valA (xA (IntKind.wrap .i64 (lv - 1))) cO CODES.Ok wx) T L 9 op lv n m (getX l) C l.length kn k rfl
      rw [← hm] at this
      refine this.trans ?_
      rw [decide_eq_false hi]; rfl
end Go.SH

namespace Go.SH
open Go Go.Ab Go.Proofs
set_option linter.unusedVariables false
set_option linter.unusedSimpArgs false
set_option maxRecDepth 100000 in
theorem xpr1_0 (ge gt : List AV → List AO → Bool) (vt : List AV → List AO → EXP × CODES) (C D : CODES)  : runF (V2.run [mkE 19 ge (fun _ _ => (0, D)) φX, mkE 47 gt vt φC] 3 [] [] [] 13) 9 13 [.ref keyBase 0, nilS, .int .i64 1] [codO C] =
  cond (ge [.ref 1000000 0, .int .i64 8] [codO C]) (some ((.agg (exK 1 (.sl .fit 0 0 fun x => [])), [codO D]))) (none) := by kernel_rfl
set_option maxRecDepth 100000 in
theorem xpr1_1 (ge gt : List AV → List AO → Bool) (vt : List AV → List AO → EXP × CODES) (C D : CODES) {t1 : EXP × CODES} (h_t1 : vt [.ref 1000000 0] [codO D] = t1) : runF (V2.run [mkE 19 ge (fun _ _ => (1, D)) φX, mkE 47 gt vt φC] 3 [] [] [] 13) 9 13 [.ref keyBase 0, nilS, .int .i64 1] [codO C] =
  cond (ge [.ref 1000000 0, .int .i64 8] [codO C]) (cond (gt [.ref 1000000 0] [codO D]) (some ((.agg (eC (Prod.fst t1)), [codO (Prod.snd t1)]))) (none)) (none) := by subst h_t1; kernel_rfl
set_option maxRecDepth 100000 in
theorem xpr1_2 (ge gt : List AV → List AO → Bool) (vt : List AV → List AO → EXP × CODES) (C D : CODES) {t1 : EXP × CODES} (h_t1 : vt [.ref 1000000 0] [codO D] = t1) : runF (V2.run [mkE 19 ge (fun _ _ => (2, D)) φX, mkE 47 gt vt φC] 3 [] [] [] 13) 9 13 [.ref keyBase 0, nilS, .int .i64 1] [codO C] =
  cond (ge [.ref 1000000 0, .int .i64 8] [codO C]) (cond (gt [.ref 1000000 0] [codO D]) (some ((.agg (eC (Prod.fst t1)), [codO (Prod.snd t1)]))) (none)) (none) := by subst h_t1; kernel_rfl
set_option maxRecDepth 100000 in
theorem xpr1_3 (ge gt : List AV → List AO → Bool) (vt : List AV → List AO → EXP × CODES) (C D : CODES) {t1 : EXP × CODES} (h_t1 : vt [.ref 1000000 0] [codO D] = t1) : runF (V2.run [mkE 19 ge (fun _ _ => (3, D)) φX, mkE 47 gt vt φC] 3 [] [] [] 13) 9 13 [.ref keyBase 0, nilS, .int .i64 1] [codO C] =
  cond (ge [.ref 1000000 0, .int .i64 8] [codO C]) (cond (gt [.ref 1000000 0] [codO D]) (some ((.agg (eC (Prod.fst t1)), [codO (Prod.snd t1)]))) (none)) (none) := by subst h_t1; kernel_rfl
set_option maxRecDepth 100000 in
theorem xpr1_4 (ge gt : List AV → List AO → Bool) (vt : List AV → List AO → EXP × CODES) (C D : CODES)  : runF (V2.run [mkE 19 ge (fun _ _ => (4, D)) φX, mkE 47 gt vt φC] 3 [] [] [] 13) 9 13 [.ref keyBase 0, nilS, .int .i64 1] [codO C] =
  cond (ge [.ref 1000000 0, .int .i64 8] [codO C]) (some ((.agg (exK 1 (.sl .fit 0 0 fun x => [])), [codO D]))) (none) := by kernel_rfl
set_option maxRecDepth 100000 in
theorem xpr1_5 (ge gt : List AV → List AO → Bool) (vt : List AV → List AO → EXP × CODES) (C D : CODES) {t1 : EXP × CODES} (h_t1 : vt [.ref 1000000 0] [codO D] = t1) : runF (V2.run [mkE 19 ge (fun _ _ => (5, D)) φX, mkE 47 gt vt φC] 3 [] [] [] 13) 9 13 [.ref keyBase 0, nilS, .int .i64 1] [codO C] =
  cond (ge [.ref 1000000 0, .int .i64 8] [codO C]) (cond (gt [.ref 1000000 0] [codO D]) (some ((.agg (eC (Prod.fst t1)), [codO (Prod.snd t1)]))) (none)) (none) := by subst h_t1; kernel_rfl
set_option maxRecDepth 100000 in
theorem xpr1_6 (ge gt : List AV → List AO → Bool) (vt : List AV → List AO → EXP × CODES) (C D : CODES) {t1 : EXP × CODES} (h_t1 : vt [.ref 1000000 0] [codO D] = t1) : runF (V2.run [mkE 19 ge (fun _ _ => (6, D)) φX, mkE 47 gt vt φC] 3 [] [] [] 13) 9 13 [.ref keyBase 0, nilS, .int .i64 1] [codO C] =
  cond (ge [.ref 1000000 0, .int .i64 8] [codO C]) (cond (gt [.ref 1000000 0] [codO D]) (some ((.agg (eC (Prod.fst t1)), [codO (Prod.snd t1)]))) (none)) (none) := by subst h_t1; kernel_rfl
set_option maxRecDepth 100000 in
theorem xpr1_7 (ge gt : List AV → List AO → Bool) (vt : List AV → List AO → EXP × CODES) (C D : CODES) {t1 : EXP × CODES} (h_t1 : vt [.ref 1000000 0] [codO D] = t1) : runF (V2.run [mkE 19 ge (fun _ _ => (7, D)) φX, mkE 47 gt vt φC] 3 [] [] [] 13) 9 13 [.ref keyBase 0, nilS, .int .i64 1] [codO C] =
  cond (ge [.ref 1000000 0, .int .i64 8] [codO C]) (cond (gt [.ref 1000000 0] [codO D]) (some ((.agg (eC (Prod.fst t1)), [codO (Prod.snd t1)]))) (none)) (none) := by subst h_t1; kernel_rfl
end Go.SH

namespace Go.SH
open Go Go.Ab Go.Proofs
set_option linter.unusedVariables false
set_option linter.unusedSimpArgs false
theorem expC_keys (op : Int) (kd nm : List UInt8) (vs : List VAL) (n : Nat) (g : Nat → List AV) : keysL (expC op kd nm vs n g) = [] := by simp [expC, AV.keys, keysL, valL]
theorem expC_one {op : Int} {kd nm : List UInt8} {vs : List VAL} {n : Nat} {g : Nat → List AV} {i : Nat} {u : AV} (h : (expC op kd nm vs n g)[i]? = some u) : u.one = true := by
  match i with
  | 0 => simp [expC] at h; subst h; rfl
  | 1 => simp [expC] at h; subst h; rfl
  | 2 => simp [expC] at h; subst h; rfl
  | 3 => simp [expC] at h; subst h; rfl
  | 4 => simp [expC] at h; subst h; rfl
  | i + 5 => simp [expC] at h
/-- One list of cells may be told as another. -/
def Tells (a b : List AV) : Prop := ∀ (i : Nat) (u u' : AV), a[i]? = some u → b[i]? = some u' → u'.one = true ∧ ∀ c x, Rep c u x → Rep c u' x
theorem tells_refl (e : EXP) : Tells (eC e) (eC e) := fun i u u' h1 h2 => by
  rw [h1] at h2
  simp only [Option.some.injEq] at h2
  subst h2
  exact ⟨expC_one h1, fun _ _ h => h⟩
theorem row_eC {l : List EXP} {j : Nat} (h : j < l.length) : EXP.row l j = eC (l.getD j default) := by rw [EXP.row_at h, EXP.c_eq]; rfl
theorem tells_exK {op : Int} {ks : List EXP} {o : Own} {get : Nat → List AV} (hg : ∀ j, j < ks.length → Tells (get j) (EXP.row ks j)) : Tells (exK op (.sl o 5 ks.length get)) (expC op [] [] [] ks.length (EXP.row ks)) := fun i u u' hu hu' => by
  unfold exK expC at *
  match i with
  | 0 => simp only [List.getElem?_cons_zero, Option.some.injEq] at hu hu'; subst hu hu'; exact ⟨rfl, fun _ x h => h⟩
  | 1 => simp only [List.getElem?_cons_succ, List.getElem?_cons_zero, Option.some.injEq] at hu hu'; subst hu hu'; exact ⟨rfl, fun _ x h => h⟩
  | 2 => simp only [List.getElem?_cons_succ, List.getElem?_cons_zero, Option.some.injEq] at hu hu'; subst hu hu'; exact ⟨rfl, fun _ x h => h⟩
  | 3 => simp only [List.getElem?_cons_succ, List.getElem?_cons_zero, Option.some.injEq] at hu hu'; subst hu hu'; exact ⟨rfl, fun _ => sl_fit⟩
  | 4 =>
    simp only [List.getElem?_cons_succ, List.getElem?_cons_zero, Option.some.injEq] at hu hu'; subst hu hu'
    exact ⟨rfl, fun c => sl_map (fun j hj => by rw [row_eC hj]; exact ⟨rfl, expC_keys _ _ _ _ _ _⟩) fun j i u u' hj h1 h2 => ⟨(hg j hj i u u' h1 h2).1, fun x => (hg j hj i u u' h1 h2).2 c x⟩⟩
  | i + 5 => simp at hu
theorem tells_ex0 {op : Int} {g : Nat → List AV} : Tells (exK op (.sl .fit 0 0 g)) (expC op [] [] [] 0 (EXP.row [])) := fun i u u' hu hu' => by
  unfold exK expC at *
  match i with
  | 0 => simp only [List.getElem?_cons_zero, Option.some.injEq] at hu hu'; subst hu hu'; exact ⟨rfl, fun _ x h => h⟩
  | 1 => simp only [List.getElem?_cons_succ, List.getElem?_cons_zero, Option.some.injEq] at hu hu'; subst hu hu'; exact ⟨rfl, fun _ x h => h⟩
  | 2 => simp only [List.getElem?_cons_succ, List.getElem?_cons_zero, Option.some.injEq] at hu hu'; subst hu hu'; exact ⟨rfl, fun _ x h => h⟩
  | 3 => simp only [List.getElem?_cons_succ, List.getElem?_cons_zero, Option.some.injEq] at hu hu'; subst hu hu'; exact ⟨rfl, fun _ => sl_fit⟩
  | 4 => simp only [List.getElem?_cons_succ, List.getElem?_cons_zero, Option.some.injEq] at hu hu'; subst hu hu'; exact ⟨rfl, fun _ => sl_fit⟩
  | i + 5 => simp at hu
theorem tells_ct {f : FuncId} {A : List AV} {O : List AO} {a : List AV} {e : EXP} {D : CODES} (hl : a.length = 5) (ht : Tells a (eC e)) (h : Ct V2.P V2.G f A O (.agg a, [codO D])) : Ct V2.P V2.G f A O (φC (e, D)) :=
  h.res (by show (AV.agg (eC e)).keys = []; exact expC_keys _ _ _ _ _ _) fun c v hv => agg_map (us := a) (us' := eC e) (by rw [hl]; rfl) (fun i u u' hu hu' => ⟨(ht i u u' hu hu').1, fun x => (ht i u u' hu hu').2 c x⟩) hv
/-- A not, as it is built. -/
theorem tells_not (e : EXP) : Tells (exK 4 (.sl .fit 5 1 (fillGet ex0 [(0, .agg (eC e))]))) (eC (notX e)) :=
  tells_exK (ks := [e]) fun j hj => by
    match j, hj with
    | 0, _ =>
      rw [row_eC (by simp)]
      exact tells_refl e
theorem tells_kid (k : KID) : Tells k.c (eC k.e) := by
  cases k with
  | plain e => exact tells_refl e
  | neg e => exact tells_not e
theorem tells_pair (op : Int) (l : List KID) {o : Own} : Tells (exK op (.sl o 5 l.length (getX l))) (eC (pairX op (l.map KID.e))) := by
  have h := tells_exK (op := op) (ks := l.map KID.e) (o := o) (get := getX l) fun j hj => by
    have hj : j < l.length := by simpa using hj
    rw [row_eC (by simpa using hj)]
    unfold getX
    simp only [List.getD, List.getElem?_map, List.getElem?_eq_getElem hj, Option.map_some, Option.getD_some]
    exact tells_kid _
  rw [List.length_map] at h
  exact fun i u u' h1 h2 => h i u u' h1 (by rw [← h2]; unfold eC pairX; simp only [EXP.op, EXP.kind, EXP.name, EXP.vals, EXP.kids, List.length_map])
theorem nul_ok (op : Int) : (EXP.mk op [] [] [] []).Ok := .mk _ (by show 0 ≤ maxS; unfold maxS; omega) (by show 0 ≤ maxS; unfold maxS; omega) ⟨by show 0 ≤ _; omega, by intro v hv; cases hv⟩ (by show 0 ≤ _; omega) (by intro v hv; cases hv)
theorem true_ve : VE 1 (.mk 1 [] [] [] []) := .mk _ _ (by kernel_rfl) fun k hk => by cases hk
theorem pair_ok {op : Int} {ks : List EXP} (h : ks.length ≤ 3) (hk : ∀ k ∈ ks, k.Ok) : (pairX op ks).Ok := .mk _ (by show 0 ≤ maxS; unfold maxS; omega) (by show 0 ≤ maxS; unfold maxS; omega) ⟨by show 0 ≤ _; omega, by intro v hv; cases hv⟩ (by show ks.length ≤ _; omega) hk
end Go.SH

namespace Go.SH
open Go Go.Ab Go.Proofs
set_option linter.unusedVariables false
set_option linter.unusedSimpArgs false
set_option linter.unusedSectionVars false
theorem testC_ex (C : CODES) (hC : C.Ok) : ∃ x, tPost x ∧ Ct V2.P V2.G 47 (cA C) (cO C) (φC x) := by
  obtain ⟨x, h1, h2⟩ := test_ex C hC
  refine ⟨x, h1, ?_⟩
  unfold φQ at h2
  rw [x.1.c_eq] at h2
  exact h2
theorem tPost.x {x : EXP × CODES} (h : tPost x) (d : Nat) : xPost (2 * d + 1) x := ⟨⟨h.1.ve.le (by omega), h.1.2.2⟩, h.2⟩
section
variable {C : CODES} (hC : C.Ok) {wt : CODES → EXP × CODES} (hwt : ∀ C, C.Ok → tPost (wt C)) (htt : ∀ l os, (entC 47 cA cO CODES.Ok wt φC).pre l os = true → Ct V2.P V2.G (entC 47 cA cO CODES.Ok wt φC).f l os ((entC 47 cA cO CODES.Ok wt φC).ans l os))
include hC hwt htt
theorem xpr_ex1 : ∃ x, xPost 1 x ∧ Ct V2.P V2.G 13 (xA 1 C) (cO C) (φC x) := by
  obtain ⟨h0, h1, h2⟩ := nextR_ok hC (m := 8) (by omega)
  have hn := next_ok C hC 8 (by omega)
  revert h0 h1 h2 hn
  generalize nextR C 8 = y
  obtain ⟨r, D⟩ := y
  intro h0 h1 h2 hn
  have hr : r = 0 ∨ r = 1 ∨ r = 2 ∨ r = 3 ∨ r = 4 ∨ r = 5 ∨ r = 6 ∨ r = 7 := by have h0 : 0 ≤ r := h0; have h1 : r < 8 := h1; omega
  have hT := entK_ok (φ := φX) hn
  have h2 : D.Ok := h2
  have hg : goodA (fun _ : Unit => [.ref keyBase 0, .int .i64 8]) (fun _ => [codO C]) (fun _ => True) [.ref 1000000 0, .int .i64 8] [codO C] = true := gK_eq _ _
  have hgt : goodA cA cO CODES.Ok [.ref 1000000 0] [codO D] = true := goodA_eq (A := cA) (O := cO) (v := D) h2
  have hp : tPost (valA cA cO CODES.Ok wt [.ref 1000000 0] [codO D]) := valA_post (A := cA) (O := cO) (a := D) (Post := fun (_ : CODES) (x : EXP × CODES) => tPost x) hwt (fun _ _ _ _ _ h => h) h2
  rcases hr with rfl | rfl | rfl | rfl | rfl | rfl | rfl | rfl
  · have hc := ct_loops (V := V2) (f := 13) (l := xA 1 C) (os := cO C) (n := 9) (d := 3) (L := []) (T := [entK 19 [.ref keyBase 0, .int .i64 8] [codO C] ((0 : Int), D) φX, entC 47 cA cO CODES.Ok wt φC]) mixed2 funcs2 (tabOk_cons hT (tabOk_cons htt tabOk_nil)) loopsOk_nil ((xpr1_0 _ (goodA cA cO CODES.Ok) (valA cA cO CODES.Ok wt) C D).trans ((congrArg (fun b => cond b _ _) hg).trans rfl))
    exact ⟨(.mk 1 [] [] [] [], D), ⟨⟨true_ve, nul_ok 1⟩, h2⟩, tells_ct (a := exK 1 (.sl .fit 0 0 fun _ => [])) rfl tells_ex0 hc⟩
  · have hc := ct_loops (V := V2) (f := 13) (l := xA 1 C) (os := cO C) (n := 9) (d := 3) (L := []) (T := [entK 19 [.ref keyBase 0, .int .i64 8] [codO C] ((1 : Int), D) φX, entC 47 cA cO CODES.Ok wt φC]) mixed2 funcs2 (tabOk_cons hT (tabOk_cons htt tabOk_nil)) loopsOk_nil ((xpr1_1 _ (goodA cA cO CODES.Ok) (valA cA cO CODES.Ok wt) C D rfl).trans ((congrArg (fun b => cond b _ _) hg).trans ((congrArg (fun b => cond b _ _) hgt).trans rfl)))
    exact ⟨_, hp.x 0, hc⟩
  · have hc := ct_loops (V := V2) (f := 13) (l := xA 1 C) (os := cO C) (n := 9) (d := 3) (L := []) (T := [entK 19 [.ref keyBase 0, .int .i64 8] [codO C] ((2 : Int), D) φX, entC 47 cA cO CODES.Ok wt φC]) mixed2 funcs2 (tabOk_cons hT (tabOk_cons htt tabOk_nil)) loopsOk_nil ((xpr1_2 _ (goodA cA cO CODES.Ok) (valA cA cO CODES.Ok wt) C D rfl).trans ((congrArg (fun b => cond b _ _) hg).trans ((congrArg (fun b => cond b _ _) hgt).trans rfl)))
    exact ⟨_, hp.x 0, hc⟩
  · have hc := ct_loops (V := V2) (f := 13) (l := xA 1 C) (os := cO C) (n := 9) (d := 3) (L := []) (T := [entK 19 [.ref keyBase 0, .int .i64 8] [codO C] ((3 : Int), D) φX, entC 47 cA cO CODES.Ok wt φC]) mixed2 funcs2 (tabOk_cons hT (tabOk_cons htt tabOk_nil)) loopsOk_nil ((xpr1_3 _ (goodA cA cO CODES.Ok) (valA cA cO CODES.Ok wt) C D rfl).trans ((congrArg (fun b => cond b _ _) hg).trans ((congrArg (fun b => cond b _ _) hgt).trans rfl)))
    exact ⟨_, hp.x 0, hc⟩
  · have hc := ct_loops (V := V2) (f := 13) (l := xA 1 C) (os := cO C) (n := 9) (d := 3) (L := []) (T := [entK 19 [.ref keyBase 0, .int .i64 8] [codO C] ((4 : Int), D) φX, entC 47 cA cO CODES.Ok wt φC]) mixed2 funcs2 (tabOk_cons hT (tabOk_cons htt tabOk_nil)) loopsOk_nil ((xpr1_4 _ (goodA cA cO CODES.Ok) (valA cA cO CODES.Ok wt) C D).trans ((congrArg (fun b => cond b _ _) hg).trans rfl))
    exact ⟨(.mk 1 [] [] [] [], D), ⟨⟨true_ve, nul_ok 1⟩, h2⟩, tells_ct (a := exK 1 (.sl .fit 0 0 fun _ => [])) rfl tells_ex0 hc⟩
  · have hc := ct_loops (V := V2) (f := 13) (l := xA 1 C) (os := cO C) (n := 9) (d := 3) (L := []) (T := [entK 19 [.ref keyBase 0, .int .i64 8] [codO C] ((5 : Int), D) φX, entC 47 cA cO CODES.Ok wt φC]) mixed2 funcs2 (tabOk_cons hT (tabOk_cons htt tabOk_nil)) loopsOk_nil ((xpr1_5 _ (goodA cA cO CODES.Ok) (valA cA cO CODES.Ok wt) C D rfl).trans ((congrArg (fun b => cond b _ _) hg).trans ((congrArg (fun b => cond b _ _) hgt).trans rfl)))
    exact ⟨_, hp.x 0, hc⟩
  · have hc := ct_loops (V := V2) (f := 13) (l := xA 1 C) (os := cO C) (n := 9) (d := 3) (L := []) (T := [entK 19 [.ref keyBase 0, .int .i64 8] [codO C] ((6 : Int), D) φX, entC 47 cA cO CODES.Ok wt φC]) mixed2 funcs2 (tabOk_cons hT (tabOk_cons htt tabOk_nil)) loopsOk_nil ((xpr1_6 _ (goodA cA cO CODES.Ok) (valA cA cO CODES.Ok wt) C D rfl).trans ((congrArg (fun b => cond b _ _) hg).trans ((congrArg (fun b => cond b _ _) hgt).trans rfl)))
    exact ⟨_, hp.x 0, hc⟩
  · have hc := ct_loops (V := V2) (f := 13) (l := xA 1 C) (os := cO C) (n := 9) (d := 3) (L := []) (T := [entK 19 [.ref keyBase 0, .int .i64 8] [codO C] ((7 : Int), D) φX, entC 47 cA cO CODES.Ok wt φC]) mixed2 funcs2 (tabOk_cons hT (tabOk_cons htt tabOk_nil)) loopsOk_nil ((xpr1_7 _ (goodA cA cO CODES.Ok) (valA cA cO CODES.Ok wt) C D rfl).trans ((congrArg (fun b => cond b _ _) hg).trans ((congrArg (fun b => cond b _ _) hgt).trans rfl)))
    exact ⟨_, hp.x 0, hc⟩
variable {d : Nat} (hd : 1 ≤ d) (hd3 : d ≤ 3) {wx : CODES → EXP × CODES} (hwx : ∀ C, C.Ok → xPost (2 * d - 1) (wx C)) (htx : ∀ l os, (entC 13 (xA d) cO CODES.Ok wx φC).pre l os = true → Ct V2.P V2.G (entC 13 (xA d) cO CODES.Ok wx φC).f l os ((entC 13 (xA d) cO CODES.Ok wx φC).ans l os))
include hd hd3 hwx htx
theorem xpr_exS : ∃ x, xPost (2 * d + 1) x ∧ Ct V2.P V2.G 13 (xA ((d : Int) + 1) C) (cO C) (φC x) := by
  have hlv : IntKind.wrap .i64 ((d : Int) + 1 - 1) = (d : Int) := by rw [wrap_i64 (by omega) (by omega)]; omega
  obtain ⟨h0, h1, h2⟩ := nextR_ok hC (m := 8) (by omega)
  cases h8 : nextR C 8 with
  | mk r D =>
  rw [h8] at h0 h1 h2
  have h0 : 0 ≤ r := h0
  have h1 : r < 8 := h1
  have h2 : D.Ok := h2
  obtain ⟨p0, p1, p2⟩ := nextR_ok h2 (m := 2) (by omega)
  cases h4 : nextR D 2 with
  | mk u D2 =>
  rw [h4] at p0 p1 p2
  have p0 : 0 ≤ u := p0
  have p1 : u < 2 := p1
  have p2 : D2.Ok := p2
  obtain ⟨s0, s1, s2⟩ := nextR_ok p2 (m := 2) (by omega)
  cases h5 : nextR D2 2 with
  | mk n' D3 =>
  rw [h5] at s0 s1 s2
  have s0 : 0 ≤ n' := s0
  have s1 : n' < 2 := s1
  have s2 : D3.Ok := s2
  obtain ⟨n, hn⟩ : ∃ n : Nat, 2 + n' = (n : Int) := ⟨(2 + n').toNat, by omega⟩
  obtain ⟨w, hw, hl⟩ := expr_loop (2 + u) ((d : Int) + 1) n (2 * d - 1) (by omega) (by omega) (by omega) gN vN wx hwx [entC 47 cA cO CODES.Ok wt φC]
  rw [hlv] at hl
  have hc := fun r he => ct_loops (V := V2) (f := 13) (l := xA ((d : Int) + 1) C) (os := cO C) (r := r) (n := 9) (d := 3) (T := [entN, entC 13 (xA d) cO CODES.Ok wx φC, entC 47 cA cO CODES.Ok wt φC]) mixed2 funcs2 (tabOk_cons entN_ok (tabOk_cons htx (tabOk_cons htt tabOk_nil))) (loopsOk_cons (hl _) loopsOk_nil) he
  have hg8 : gN [.ref 1000000 0, .int .i64 8] [codO C] = true := gN_eq hC (by omega)
  have hgD : gN [.ref 1000000 0, .int .i64 2] [codO D] = true := gN_eq h2 (by omega)
  have hgD2 : gN [.ref 1000000 0, .int .i64 2] [codO D2] = true := gN_eq p2 (by omega)
  have hgt : goodA cA cO CODES.Ok [.ref 1000000 0] [codO D] = true := goodA_eq (A := cA) (O := cO) (v := D) h2
  have hp : tPost (valA cA cO CODES.Ok wt [.ref 1000000 0] [codO D]) := valA_post (A := cA) (O := cO) (a := D) (Post := fun (_ : CODES) (x : EXP × CODES) => tPost x) hwt (fun _ _ _ _ _ h => h) h2
  have hgx : goodA (xA d) cO CODES.Ok [.ref 1000000 0, .sl .fit 0 0 fun x => [], .int .i64 (d : Int)] [codO D] = true := xA_good h2
  have hpx : xPost (2 * d - 1) (valA (xA d) cO CODES.Ok wx [.ref 1000000 0, .sl .fit 0 0 fun x => [], .int .i64 (d : Int)] [codO D]) := xA_post hwx h2
  have w2 : IntKind.wrap .i64 (2 + u) = 2 + u := wrap_i64 (by omega) (by omega)
  have w3 : IntKind.wrap .i64 (2 + n') = (n : Int) := by rw [hn]; exact wrap_i64 (by omega) (by omega)
  have hz : goodS (xS (2 + u) ((d : Int) + 1) n) (xI (2 + u) (2 * d - 1) n) (XS0 (2 + u) ((d : Int) + 1) n D3) = true := goodS_eq (S := xS (2 + u) ((d : Int) + 1) n) (v := Sum.inl D3) s2
  have hzp : xZ (2 + u) (2 * d - 1) n (valS (xS (2 + u) ((d : Int) + 1) n) (xI (2 + u) (2 * d - 1) n) w (XS0 (2 + u) ((d : Int) + 1) n D3)) := valS_post (S := xS (2 + u) ((d : Int) + 1) n) (a := Sum.inl D3) (Post := fun (_ : XSt) (x : List KID × CODES) => xZ (2 + u) (2 * d - 1) n x) hw (fun _ _ _ _ h => h) s2
  have hlt : (bif decide ((d : Int) + 1 ≤ 1) then decide (r ≥ 4) else false) = false := by rw [decide_eq_false (by omega)]; rfl
  generalize hv : valS (xS (2 + u) ((d : Int) + 1) n) (xI (2 + u) (2 * d - 1) n) w (XS0 (2 + u) ((d : Int) + 1) n D3) = z at hzp
  generalize hy : valA (xA d) cO CODES.Ok wx [.ref 1000000 0, .sl .fit 0 0 fun x => [], .int .i64 (d : Int)] [codO D] = y at hpx
  generalize ht : valA cA cO CODES.Ok wt [.ref 1000000 0] [codO D] = t at hp
  have e := xpr_e gN (goodA (xA d) cO CODES.Ok) (goodA cA cO CODES.Ok) vN (valA (xA d) cO CODES.Ok wx) (valA cA cO CODES.Ok wt) (goodS (xS (2 + u) ((d : Int) + 1) n) (xI (2 + u) (2 * d - 1) n)) (valS (xS (2 + u) ((d : Int) + 1) n) (xI (2 + u) (2 * d - 1) n) w) (2 + u) ((d : Int) + 1) C (t1 := (r, D)) ((vN_eq hC (by omega)).trans h8) (t2 := t) ht (t3 := y) (by rw [hlv]; exact hy) (t4 := (u, D2)) ((vN_eq h2 (by omega)).trans h4) (t5 := (n', D3)) ((vN_eq p2 (by omega)).trans h5) (t6 := z) (by rw [show (2 : Int) + Prod.fst (u, D2) = 2 + u from rfl, show (2 : Int) + Prod.fst (n', D3) = 2 + n' from rfl, w2, w3]; exact hv)
  simp only [hlt, hg8, hgD, hgD2, hgt, hlv, hgx, w2, w3, hz, cond_true, cond_false] at e
  obtain ⟨z1, z2, z3⟩ := hzp
  have hpair : z.1.length = n → xPost (2 * d + 1) (pairX (2 + u) (z.1.map KID.e), z.2) := fun hzn => by
    refine ⟨⟨(VE.pair (l := 2 * d - 1 + 1) (by omega) (by rw [List.length_map]; omega) (by rw [List.length_map]; omega) (fun k hk => ?_) fun k hk => ?_).le (by omega), pair_ok (by rw [List.length_map]; omega) fun k hk => ?_⟩, z3⟩
    all_goals
      obtain ⟨q, hq, rfl⟩ := List.mem_map.1 hk
    · exact (z2 q hq).2.1
    · exact (z2 q hq).1
    · exact (z2 q hq).2.2
  have hr : r = 0 ∨ r = 1 ∨ r = 2 ∨ r = 3 ∨ r = 4 ∨ r = 5 ∨ r = 6 ∨ r = 7 := by omega
  rcases hr with rfl | rfl | rfl | rfl | rfl | rfl | rfl | rfl
  · exact ⟨(.mk 1 [] [] [] [], D), ⟨⟨true_ve.le (by omega), nul_ok 1⟩, h2⟩, tells_ct (a := exK 1 (.sl .fit 0 0 fun _ => [])) rfl tells_ex0 (hc _ (e.trans rfl))⟩
  · exact ⟨t, hp.x d, hc _ (e.trans rfl)⟩
  · exact ⟨t, hp.x d, hc _ (e.trans rfl)⟩
  · exact ⟨t, hp.x d, hc _ (e.trans rfl)⟩
  · exact ⟨(notX y.1, y.2), ⟨⟨hpx.1.1.not.le (by omega), notX_ok hpx.1.2⟩, hpx.2⟩, tells_ct (a := exK 4 (.sl .fit 5 1 (fillGet ex0 [(0, .agg (eC y.1))]))) rfl (tells_not y.1) (hc _ (e.trans rfl))⟩
  · exact ⟨(pairX (2 + u) (z.1.map KID.e), z.2), hpair z1, tells_ct (a := exK (2 + u) (.sl .no 5 z.1.length (getX z.1))) rfl (tells_pair (2 + u) z.1) (hc _ (e.trans rfl))⟩
  · exact ⟨(pairX (2 + u) (z.1.map KID.e), z.2), hpair z1, tells_ct (a := exK (2 + u) (.sl .no 5 z.1.length (getX z.1))) rfl (tells_pair (2 + u) z.1) (hc _ (e.trans rfl))⟩
  · exact ⟨t, hp.x d, hc _ (e.trans rfl)⟩
end
/-- Expr with no segments. -/
theorem xpr_ex : ∀ d : Nat, d ≤ 3 → ∀ C : CODES, C.Ok → ∃ x, xPost (2 * d + 1) x ∧ Ct V2.P V2.G 13 (xA ((d : Int) + 1) C) (cO C) (φC x)
  | 0, _, C, hC => by
    obtain ⟨wt, hwt, htt⟩ := ent_ex (V := V2) (f := 47) (A := cA) (O := cO) (Pre := CODES.Ok) (φ := φC) (Post := fun (_ : CODES) (x : EXP × CODES) => tPost x) testC_ex
    exact xpr_ex1 hC hwt htt
  | d + 1, hd, C, hC => by
    obtain ⟨wt, hwt, htt⟩ := ent_ex (V := V2) (f := 47) (A := cA) (O := cO) (Pre := CODES.Ok) (φ := φC) (Post := fun (_ : CODES) (x : EXP × CODES) => tPost x) testC_ex
    obtain ⟨wx, hwx, htx⟩ := ent_ex (V := V2) (f := 13) (A := xA ((d : Int) + 1)) (O := cO) (Pre := CODES.Ok) (φ := φC) (Post := fun (_ : CODES) (x : EXP × CODES) => xPost (2 * d + 1) x) (xpr_ex d (by omega))
    exact xpr_exS hC hwt htt (d := d + 1) (by omega) hd (wx := wx) hwx htx
end Go.SH

namespace Go.SH
open Go Go.Ab Go.Proofs
set_option linter.unusedVariables false
set_option linter.unusedSimpArgs false
def B1 (p : PART) (n i : Nat) : St := { env := [(1, .int .i64 n), (10, kidsA p), (11, .int .i64 p.n), (12, .int .i64 i)], objs := [] }
def B2 (p : PART) (n i : Nat) : St := { env := [(1, .ref 1 0), (3, .int .i64 n), (4, .int .i64 i)], objs := [(1, .cells p.c)] }
def outB1 (x : Nat) (k : Ex → St → Res) : Res := k (.exit 0) { env := [(1, .int .i64 x)], objs := [] }
def outB2 (x : Nat) (k : Ex → St → Res) : Res := k (.exit 0) { env := [(3, .int .i64 x)], objs := [] }
def φK (x : Nat) : AV × List AO := (.int .i64 x, [])
set_option maxRecDepth 100000 in
theorem count_r (ge : List AV → List AO → Bool) (ve : List AV → List AO → Nat) (L : List (List Nat × Orc)) (m : Nat) (p : PART) (n i : Nat) (kn : St → Res) (k : Ex → St → Res) {t1 : Nat} (h_t1 : ve [.agg (kidC p (Int.toNat (↑i : Int))), .int .i64 (↑n : Int)] [] = t1) : roundR (V2.run [mkE 105 ge ve φK] 3 [] L [] 105) 105 m [1, 1, 0, 1, 0] (B1 p n i) kn k =
  cond (decide ((↑i : Int) < (↑(PART.n p) : Int))) (cond (within (↑i : Int) (PART.n p)) (cond (decide ((↑n : Int) > 60)) (k (.exit 0) ({ env := [(1, .int .i64 (↑n : Int))], objs := [] })) (cond (ge [.agg (kidC p (Int.toNat (↑i : Int))), .int .i64 (↑n : Int)] []) (kn ({ env := [(1, .int .i64 (↑t1 : Int)), (10, kidsA p), (11, .int .i64 (↑(PART.n p) : Int)), (12, .int .i64 (IntKind.wrap IntKind.i64 ((↑i : Int) + 1)))], objs := [] })) (none))) (none)) (k (.exit 0) ({ env := [(1, .int .i64 (↑n : Int))], objs := [] })) := by subst h_t1; kernel_rfl
set_option maxRecDepth 100000 in
theorem count_m (ge : List AV → List AO → Bool) (ve : List AV → List AO → Nat) (g : St → Bool) (v : St → Nat) (p : PART) (n : Nat) {t1 : Nat} (h_t1 : v { env := [(1, .int .i64 (IntKind.wrap IntKind.i64 ((↑n : Int) + 1))), (10, kidsA p), (11, .int .i64 (↑(PART.n p) : Int)), (12, .int .i64 0)], objs := [] } = t1) : runF (V2.run [mkE 105 ge ve φK] 3 [] [([1, 1, 0, 1, 0], mkO g v outB1)] [] 105) 9 105 [.agg p.c, .int .i64 n] [] =
  cond (g { env := [(1, .int .i64 (IntKind.wrap IntKind.i64 ((↑n : Int) + 1))), (10, kidsA p), (11, .int .i64 (↑(PART.n p) : Int)), (12, .int .i64 0)], objs := [] }) (some ((.int .i64 (↑t1 : Int), []))) (none) := by subst h_t1; kernel_rfl
set_option maxRecDepth 100000 in
theorem parts_m (ge : List AV → List AO → Bool) (ve : List AV → List AO → Nat) (p : PART) {t1 : Nat} (h_t1 : ve [.agg (PART.c p), .int .i64 0] [] = t1) : runF (V2.run [mkE 105 ge ve φK] 3 [] [] [] 48) 9 48 [.agg p.c] [] =
  cond (ge [.agg (PART.c p), .int .i64 0] []) (some ((.int .i64 (↑t1 : Int), []))) (none) := by subst h_t1; kernel_rfl
set_option maxRecDepth 100000 in
theorem psum_r (ge : List AV → List AO → Bool) (ve : List AV → List AO → Nat) (L : List (List Nat × Orc)) (m : Nat) (p : PART) (n i : Nat) (kn : St → Res) (k : Ex → St → Res) {t1 : Nat} (h_t1 : ve [.agg (kidC p (Int.toNat (↑i : Int)))] [] = t1) : roundR (V2.run [mkE 49 ge ve φK] 3 [] L [] 49) 49 m [1, 1, 0, 1, 0] (B2 p n i) kn k =
  cond (bif decide ((↑i : Int) < (↑(PART.n p) : Int)) then decide ((↑n : Int) ≤ 60) else false) (cond (within (↑i : Int) (PART.n p)) (cond (ge [.agg (kidC p (Int.toNat (↑i : Int)))] []) (kn ({ env := [(1, .ref 1 0), (3, .int .i64 (IntKind.wrap IntKind.i64 ((↑n : Int) + (↑t1 : Int)))), (4, .int .i64 (IntKind.wrap IntKind.i64 ((↑i : Int) + 1)))], objs := [(1, .cells (PART.c p))] })) (none)) (none)) (k (.exit 0) ({ env := [(3, .int .i64 (↑n : Int))], objs := [] })) := by subst h_t1; kernel_rfl
set_option maxRecDepth 100000 in
theorem psum_m (ge : List AV → List AO → Bool) (ve : List AV → List AO → Nat) (g : St → Bool) (v : St → Nat) (p : PART) {t1 : Nat} (h_t1 : v (B2 p 1 0) = t1) : runF (V2.run [mkE 49 ge ve φK] 3 [] [([1, 1, 0, 1, 0], mkO g v outB2)] [] 49) 9 49 [.agg p.c] [] =
  cond (g (B2 p 1 0)) (some ((.int .i64 (bif decide (61 < (↑t1 : Int)) then 61 else (↑t1 : Int)), []))) (none) := by subst h_t1; kernel_rfl
end Go.SH

namespace Go.SH
open Go Go.Ab Go.Proofs
set_option linter.unusedVariables false
set_option linter.unusedSimpArgs false
def countI (l : List EXP) (i n : Nat) : Nat := countL (l.drop i) n
theorem countI_end (l : List EXP) (n : Nat) {i : Nat} (h : ¬ i < l.length) : countI l i n = n := by
  unfold countI
  rw [List.drop_eq_nil_of_le (by omega), countL]
theorem countI_step (l : List EXP) (n : Nat) {i : Nat} (h : i < l.length) : countI l i n = bif decide (n > 60) then n else countI l (i + 1) (countE (l.getD i default) n) := by
  unfold countI
  rw [List.drop_eq_getElem_cons h, countL]
  simp only [List.getD, List.getElem?_eq_getElem h, Option.getD_some]
def rsumI (l : List EXP) (i n : Nat) : Nat := rsumL (l.drop i) n
theorem rsumI_end (l : List EXP) (n : Nat) {i : Nat} (h : ¬ i < l.length) : rsumI l i n = n := by
  unfold rsumI
  rw [List.drop_eq_nil_of_le (by omega), rsumL]
theorem rsumI_step (l : List EXP) (n : Nat) {i : Nat} (h : i < l.length) : rsumI l i n = bif decide (n ≤ 60) then rsumI l (i + 1) (n + rpartsE (l.getD i default)) else n := by
  unfold rsumI
  rw [List.drop_eq_getElem_cons h, rsumL]
  simp only [List.getD, List.getElem?_eq_getElem h, Option.getD_some]
theorem rparts_le (e : EXP) : rpartsE e ≤ 61 := by rw [rparts_min]; omega
theorem count_le {e : EXP} {n : Nat} (h : n ≤ 60) : countE e n ≤ 61 := by rw [count_min e n h]; omega
def kA (x : EXP × Nat) : List AV := [.agg x.1.c, .int .i64 x.2]
def kW (x : EXP × Nat) : Nat := countE x.1 x.2
theorem kInj (a b : EXP × Nat) (h : kA a = kA b) : kW a = kW b := by
  obtain ⟨e, n⟩ := a
  obtain ⟨e', n'⟩ := b
  simp only [kA, List.cons.injEq, AV.agg.injEq, AV.int.injEq, true_and, and_true] at h
  have h1 := EXP.c_inj _ _ h.1
  have h2 : n = n' := by omega
  subst h1 h2; rfl
def kP (e : EXP) (x : EXP × Nat) : Prop := x.1 ∈ e.kids ∧ x.2 ≤ 60
theorem gK1 {P : EXP × Nat → Prop} {k : EXP} {n : Nat} (h : P (k, n)) : gF kA P [.agg k.c, .int .i64 n] [] = true := gF_eq (A := kA) (a := (k, n)) h
theorem vK1 {P : EXP × Nat → Prop} {k : EXP} {n : Nat} (h : P (k, n)) : vF kA P kW [.agg k.c, .int .i64 n] [] = countE k n := vF_eq (A := kA) (a := (k, n)) kInj h
theorem B1_inj (e : EXP) (a b : Nat × Nat) (h : B1 e.part a.2 a.1 = B1 e.part b.2 b.1) : countI e.kids a.1 a.2 = countI e.kids b.1 b.2 := by
  simp only [B1, St.mk.injEq, List.cons.injEq, Prod.mk.injEq, AV.int.injEq, and_true, true_and] at h
  rw [show a.1 = b.1 by omega, show a.2 = b.2 by omega]
theorem B2_inj (e : EXP) (a b : Nat × Nat) (h : B2 e.part a.2 a.1 = B2 e.part b.2 b.1) : rsumI e.kids a.1 a.2 = rsumI e.kids b.1 b.2 := by
  simp only [B2, St.mk.injEq, List.cons.injEq, Prod.mk.injEq, AV.int.injEq, and_true, true_and] at h
  rw [show a.1 = b.1 by omega, show a.2 = b.2 by omega]
theorem count_ok : ∀ e : EXP, e.Ok → ∀ n : Nat, n ≤ 60 → Ct V2.P V2.G 105 [.agg e.c, .int .i64 n] [] (φK (countE e n)) := by
  intro e he
  induction he with
  | mk e h1 h2 h3 h4 h5 ih =>
  intro n0 hn0
  have hl := fun L => loopOk_of (X := V2.run [mkE 105 (gF kA (kP e)) (vF kA (kP e) kW) φK] 3 [] L [] 105) (f := 105) (p := [1, 1, 0, 1, 0]) (b := subC (bodyOf V2.P 105) ([1, 1, 0, 1, 0] ++ [0]))
    (fun x : Nat × Nat => B1 e.part x.2 x.1) (fun x => x.1 ≤ e.kids.length ∧ x.2 ≤ 61) (fun x => e.kids.length - x.1) (fun x => countI e.kids x.1 x.2) outB1 (by kernel_rfl) 9 (fun x hx k kn hk => by
      obtain ⟨i, n⟩ := x
      obtain ⟨hx1, hx2⟩ := hx
      show roundR _ _ _ _ (B1 e.part n i) kn k = outB1 (countI e.kids i n) k
      by_cases h : i < e.kids.length
      · rw [countI_step _ _ h]
        by_cases h60 : n > 60
        · refine (count_r _ _ L _ e.part n i kn k rfl).trans ?_
          rw [show e.part.n = e.kids.length from rfl, lt_true h, within_lt h, decide_eq_true (show (n : Int) > 60 by omega), decide_eq_true h60]; rfl
        · have hm : kP e (e.kid i, n) := ⟨kid_mem h, by show n ≤ 60; omega⟩
          refine (count_r _ _ L _ e.part n i kn k (t1 := countE (e.kid i) n) (by rw [Int.toNat_natCast, kidC_eq h]; exact vK1 hm)).trans ?_
          rw [show e.part.n = e.kids.length from rfl, lt_true h, within_lt h, decide_eq_false (show ¬ (n : Int) > 60 by omega), decide_eq_false h60, Int.toNat_natCast, kidC_eq h, gK1 hm, wrap_next h (by omega)]
          exact hk (i + 1, countE (e.kid i) n) ⟨by show i + 1 ≤ _; omega, count_le (by omega)⟩ (by show e.kids.length - (i + 1) < e.kids.length - i; omega)
      · refine (count_r _ _ L _ e.part n i kn k rfl).trans ?_
        rw [show e.part.n = e.kids.length from rfl, lt_false h, countI_end _ _ h]; rfl)
  have hv : valS (fun x : Nat × Nat => B1 e.part x.2 x.1) (fun x => x.1 ≤ e.kids.length ∧ x.2 ≤ 61) (fun x => countI e.kids x.1 x.2) (B1 e.part (n0 + 1) 0) = countI e.kids 0 (n0 + 1) := valS_eq (S := fun x : Nat × Nat => B1 e.part x.2 x.1) (v := (0, n0 + 1)) (fun a b _ _ h => B1_inj e a b h) ⟨Nat.zero_le _, by show n0 + 1 ≤ 61; omega⟩
  have hg : goodS (fun x : Nat × Nat => B1 e.part x.2 x.1) (fun x => x.1 ≤ e.kids.length ∧ x.2 ≤ 61) (B1 e.part (n0 + 1) 0) = true := goodS_eq (S := fun x : Nat × Nat => B1 e.part x.2 x.1) (v := (0, n0 + 1)) ⟨Nat.zero_le _, by show n0 + 1 ≤ 61; omega⟩
  refine ct_loops (V := V2) (n := 9) (d := 3) (T := [entF 105 kA (kP e) kW φK]) mixed2 funcs2 (tabOk_cons (entF_ok fun x hx => ih x.1 hx.1 x.2 hx.2) tabOk_nil) (loopsOk_cons (hl _) loopsOk_nil) ?_
  rw [← e.part_eq]
  have w1 : IntKind.wrap .i64 ((n0 : Int) + 1) = ((n0 + 1 : Nat) : Int) := wrap_small (by omega)
  refine (count_m _ _ _ _ e.part n0 (t1 := countI e.kids 0 (n0 + 1)) (by rw [w1]; exact hv)).trans ?_
  rw [w1]
  refine (congrArg (fun b => cond b _ _) hg).trans ?_
  rw [countE_eq]; rfl
theorem cparts_ok (e : EXP) (h : e.Ok) : Ct V2.P V2.G 48 [.agg e.c] [] (φK (countE e 0)) := by
  refine ct_loops (V := V2) (n := 9) (d := 3) (L := []) (T := [entF 105 kA (fun x => x = (e, 0)) kW φK]) mixed2 funcs2 (tabOk_cons (entF_ok fun x hx => by subst hx; exact count_ok e h 0 (by omega)) tabOk_nil) loopsOk_nil ?_
  rw [← e.part_eq]
  refine (parts_m _ _ e.part (t1 := countE e 0) (by rw [e.part_eq]; exact vK1 (P := fun x => x = (e, 0)) rfl)).trans ?_
  rw [e.part_eq]
  exact (congrArg (fun b => cond b _ _) (gK1 (P := fun x => x = (e, 0)) (k := e) (n := 0) rfl)).trans rfl
theorem rsum_ok : ∀ e : EXP, e.Ok → Ct V2.P V2.G 49 [.agg e.c] [] (φK (rpartsE e)) := by
  intro e he
  induction he with
  | mk e h1 h2 h3 h4 h5 ih =>
  have hl := fun L => loopOk_of (X := V2.run [mkE 49 (gF expA (· ∈ e.kids)) (vF expA (· ∈ e.kids) rpartsE) φK] 3 [] L [] 49) (f := 49) (p := [1, 1, 0, 1, 0]) (b := subC (bodyOf V2.P 49) ([1, 1, 0, 1, 0] ++ [0]))
    (fun x : Nat × Nat => B2 e.part x.2 x.1) (fun x => x.1 ≤ e.kids.length ∧ x.2 ≤ 121) (fun x => e.kids.length - x.1) (fun x => rsumI e.kids x.1 x.2) outB2 (by kernel_rfl) 9 (fun x hx k kn hk => by
      obtain ⟨i, n⟩ := x
      obtain ⟨hx1, hx2⟩ := hx
      show roundR _ _ _ _ (B2 e.part n i) kn k = outB2 (rsumI e.kids i n) k
      by_cases h : i < e.kids.length
      · rw [rsumI_step _ _ h]
        by_cases h60 : n ≤ 60
        · have hm := kid_mem h
          refine (psum_r _ _ L _ e.part n i kn k (t1 := rpartsE (e.kid i)) (by rw [Int.toNat_natCast, kidC_eq h]; exact vF_eq (A := expA) (expA_inj rpartsE) hm)).trans ?_
          have hle := rparts_le (e.kid i)
          have w2 : IntKind.wrap .i64 ((n : Int) + (rpartsE (e.kid i) : Int)) = ((n + rpartsE (e.kid i) : Nat) : Int) := by rw [wrap_i64 (by omega) (by omega)]; rfl
          rw [show e.part.n = e.kids.length from rfl, lt_true h, within_lt h, decide_eq_true (show (n : Int) ≤ 60 by omega), decide_eq_true h60, Int.toNat_natCast, kidC_eq h, show gF expA (· ∈ e.kids) [.agg (e.kid i).c] [] = true from gF_eq (A := expA) hm, wrap_next h (by omega), w2]
          exact hk (i + 1, n + rpartsE (e.kid i)) ⟨by show i + 1 ≤ _; omega, by show n + rpartsE (e.kid i) ≤ 121; omega⟩ (by show e.kids.length - (i + 1) < e.kids.length - i; omega)
        · refine (psum_r _ _ L _ e.part n i kn k rfl).trans ?_
          rw [show e.part.n = e.kids.length from rfl, lt_true h, decide_eq_false (show ¬ (n : Int) ≤ 60 by omega), decide_eq_false h60]; rfl
      · refine (psum_r _ _ L _ e.part n i kn k rfl).trans ?_
        rw [show e.part.n = e.kids.length from rfl, lt_false h, rsumI_end _ _ h]; rfl)
  have hv : valS (fun x : Nat × Nat => B2 e.part x.2 x.1) (fun x => x.1 ≤ e.kids.length ∧ x.2 ≤ 121) (fun x => rsumI e.kids x.1 x.2) (B2 e.part 1 0) = rsumI e.kids 0 1 := valS_eq (S := fun x : Nat × Nat => B2 e.part x.2 x.1) (v := (0, 1)) (fun a b _ _ h => B2_inj e a b h) ⟨Nat.zero_le _, by show 1 ≤ 121; omega⟩
  have hg : goodS (fun x : Nat × Nat => B2 e.part x.2 x.1) (fun x => x.1 ≤ e.kids.length ∧ x.2 ≤ 121) (B2 e.part 1 0) = true := goodS_eq (S := fun x : Nat × Nat => B2 e.part x.2 x.1) (v := (0, 1)) ⟨Nat.zero_le _, by show 1 ≤ 121; omega⟩
  refine ct_loops (V := V2) (n := 9) (d := 3) (T := [entF 49 expA (· ∈ e.kids) rpartsE φK]) mixed2 funcs2 (tabOk_cons (entF_ok fun k hk => ih k hk) tabOk_nil) (loopsOk_cons (hl _) loopsOk_nil) ?_
  rw [← e.part_eq]
  refine (psum_m _ _ _ _ e.part (t1 := rsumI e.kids 0 1) hv).trans ?_
  refine (congrArg (fun b => cond b _ _) hg).trans ?_
  rw [rpartsE_eq]
  show some (AV.int .i64 (bif decide (61 < (((rsumL e.kids 1 : Nat)) : Int)) then 61 else ((rsumL e.kids 1 : Nat) : Int)), []) = some (AV.int .i64 ((min (rsumL e.kids 1) 61 : Nat) : Int), [])
  by_cases h : rsumL e.kids 1 ≤ 61
  · rw [decide_eq_false (by omega), show min (rsumL e.kids 1) 61 = rsumL e.kids 1 by omega]; rfl
  · rw [decide_eq_true (by omega), show min (rsumL e.kids 1) 61 = 61 by omega]; rfl
/-- Both count alike. -/
theorem parts_same (e : EXP) : countE e 0 = rpartsE e := by rw [count_min e 0 (by omega), rparts_min]; omega
end Go.SH

namespace Go.SH
open Go Go.Ab Go.Proofs
set_option linter.unusedVariables false
set_option linter.unusedSimpArgs false
/-- The kid of the wide condition. -/
def wideK (e : EXP) : EXP := (kidOf 3 e).e
def allX (e : EXP) (w : Nat) : EXP := pairX 3 (List.replicate w (wideK e))
theorem wideK_ok {e : EXP} {q : Nat} (h : VE q e) (h' : e.Ok) (C : CODES) (hC : C.Ok) : VE (q + 1) (wideK e) ∧ (wideK e).op ≠ 3 ∧ (wideK e).Ok := kidOf_ok (op := 3) (x := (e, C)) (.inr rfl) ⟨⟨h, h'⟩, hC⟩
theorem all_law {e : EXP} {w : Nat} (hv : VE 8 (wideK e)) (ho : (wideK e).op ≠ 3) (h2 : 2 ≤ w) (h13 : w ≤ 13) : (exprE (allX e w) == 0) = (decide (w ≤ 12) && decide (countE (allX e w) 0 ≤ 60)) := by
  have hl : (List.replicate w (wideK e)).length = w := List.length_replicate ..
  by_cases h : w ≤ 12
  · have hp : VE 9 (allX e w) := VE.pair (.inr rfl) (by rw [hl]; exact h2) (by rw [hl]; exact h) (fun k hk => by rw [(List.mem_replicate.1 hk).2]; exact ho) fun k hk => by rw [(List.mem_replicate.1 hk).2]; exact hv
    rw [expr_good hp (by omega), decide_eq_true h, Bool.true_and, count_min _ 0 (by omega)]
    by_cases hs : (allX e w).size ≤ 60
    · rw [decide_eq_true hs, decide_eq_true (by omega)]
    · rw [decide_eq_false hs, decide_eq_false (by omega)]
  · have hp : partE (allX e w).part = 5 := part_wide (.inr rfl) (by rw [hl]; omega)
    have hlv : levelE (allX e w) 0 = 5 := by unfold levelE; rw [decide_eq_false (by omega)]; exact hp
    rw [decide_eq_false h, Bool.false_and]
    unfold exprE
    rw [walkE_eq, decide_eq_false (by omega), hlv]; rfl
theorem nest_law {t : EXP} {d : Nat} (ht : testOk t) (hd : d ≤ 11) : (exprE (notN d t) == 0) = decide (d < 10) := by
  by_cases h : d < 10
  · have hs : t.size = 1 := by rw [t.size_eq, ht.2.1, sizeL]
    rw [expr_good (notN_good ht.ve d) (by omega), notN_size, hs, decide_eq_true (show d + 1 ≤ 60 by omega), decide_eq_true h]
  · have := notN_deep t d 0 0 (by omega) (by omega)
    unfold exprE
    rw [this, decide_eq_false h]; rfl
theorem notN_ok {t : EXP} (h : t.Ok) : ∀ d, (notN d t).Ok
  | 0 => h
  | d + 1 => notX_ok (notN_ok h d)
theorem all_ok {e : EXP} {w : Nat} (h13 : w ≤ 13) (h : (wideK e).Ok) : (allX e w).Ok := .mk _ (by show 0 ≤ maxS; unfold maxS; omega) (by show 0 ≤ maxS; unfold maxS; omega) ⟨by show 0 ≤ _; omega, by intro v hv; cases hv⟩ (by show (List.replicate w (wideK e)).length ≤ _; rw [List.length_replicate]; omega) fun k hk => by
  have hk : k ∈ List.replicate w (wideK e) := hk
  rw [(List.mem_replicate.1 hk).2]; exact h
/-- The wide condition, as its loop builds it. -/
theorem all_kids (e : EXP) (w : Nat) : (List.replicate w (kidOf 3 e)).map KID.e = List.replicate w (wideK e) := by rw [List.map_replicate]; rfl
theorem tells_all (e : EXP) (w : Nat) {o : Own} : Tells (exK 3 (.sl o 5 w (getX (List.replicate w (kidOf 3 e))))) (eC (allX e w)) := by
  have h := tells_pair 3 (List.replicate w (kidOf 3 e)) (o := o)
  rw [List.length_replicate, all_kids] at h
  exact h
end Go.SH

namespace Go.Ab
open Go Go.RowKit
/-- What such a function hands back: the pointer, the object behind it. -/
def finishN (X : Cfg) (fn : Func) (s : St) : Option (AV × List AO) :=
  match resultL X s fn.results.toList with
  | some [.ref k off] => (match alook s.objs k with
    | some o => cond (isNil o.keys) (some (.ref keyBase off, [o.ren fun _ => keyBase])) none
    | none => none)
  | _ => none
def runFN (X : Cfg) (n : Nat) (f : FuncId) (args : List AV) : Option (AV × List AO) :=
  match X.P.funcs[f]? with
  | some fn => (match fn.body with
    | some c => runC X f n c [] { env := enterEnv args 0, objs := enterObjs [] keyBase } fun e s =>
        (match e with
        | .exit _ => none
        | _ => finishN X fn s)
    | none => none)
  | none => none
theorem runFN_sound {X : Cfg} (hX : CallsOk X) (hm : X.P.follows .mixedOrders = true) {f : FuncId} (hO : OracOk X f) {fn : Func} (hf : X.P.funcs[f]? = some fn) (hok : ∀ c, fn.body = some c → codeOk fn.ntmps c = true) {n : Nat} {args : List AV}
    {r : AV} {os' : List AO} (he : runFN X n f args = some (r, os')) : CallOk X.P X.G f args [] r os' := by
  unfold runFN at he
  rw [hf] at he
  dsimp only at he
  cases hbody : fn.body with
  | none => simp [hbody] at he
  | some code =>
    simp only [hbody] at he
    have hcode := hok code hbody
    intro c0 vs hgood hobjs hsz hrep hkeys
    let a0 : Act := { tmps := vs ++ Array.replicate (fn.ntmps - vs.size) undef, defers := [] }
    let B : Base := { c0 := c0, D := held c0 (enterObjs [] keyBase), K := live (enterObjs [] keyBase), G := X.G, N := a0.tmps.size }
    let s0 : St := { env := enterEnv args 0, objs := enterObjs [] keyBase }
    have hN : fn.ntmps ≤ B.N := by simp [B, a0]; omega
    have hcode' : codeOk B.N code = true := codeOk_mono hN hcode
    have hget : ∀ t v, s0.get t = some v → args[t]? = some v := fun t v hv => by
      have : alook (enterEnv args 0) t = some v := hv
      rw [alook_enterEnv, if_pos (Nat.zero_le _)] at this; simpa using this
    have hval : ∀ t v, args[t]? = some v → Rep c0 v (a0.tmps.getD t undef) := fun t v hv => by
      have hlt : t < vs.size := by rw [hsz]; exact (List.getElem?_eq_some_iff.1 hv).1
      have e : a0.tmps.getD t undef = vs.getD t undef := by
        simp only [a0, Array.getD_eq_getD_getElem?]
        rw [Array.getElem?_append_left hlt]
      rw [e]; exact hrep t v hv
    have hplain : ∀ t v, s0.get t = some v → v.isGrd = false := fun t v hv => by
      have := hval t v (hget t v hv)
      generalize a0.tmps.getD t undef = V at this
      cases this <;> rfl
    have h0 : Rel B c0 s0 a0 := by
      refine ⟨hgood, ⟨rfl, rfl, rfl, Nat.le_refl _, fun _ _ _ => rfl, Ext.refl _ _, fun _ _ _ _ hi => hi⟩, hobjs, fun t v hv => EnvRep.of_rep (hplain t v hv) (hval t v (hget t v hv)),
        fun t v hv k hk => hkeys k (keys_mem_of (hget t v hv) k hk), fun k o b ho hb => .inr ⟨k, o, ho, hb⟩, rfl, rfl, fun k hk => hk⟩
    refine calls_of_wp hf hbody ?_
    refine runC_sound (B := B) hX rfl hm (fun k hk => (live_enter hk).1) f hO code [] (by simp [bodyOf, subC, hf, hbody]) hcode' n s0 c0 a0 _ (r, os') _ he h0 hplain fun ex s' c' a' hex hr' hn' => ?_
    have hfin : finishN X fn s' = some (r, os') → a'.defers = [] ∧ ∃ v, (results fn a'.tmps).run X.P c'.w = .ok v c'.w ∧ ∃ c2 x, Ending.returned v = .returned x ∧ c2.w = c'.w ∧ Good X.G c2 ∧
      Frame { c0 := c0, D := held c0 (enterObjs [] keyBase), K := live (enterObjs [] keyBase), G := X.G, N := 0 } c2 ∧
      Objs c2 (enterObjs os' keyBase) ∧ Rep c2 r x ∧ (∀ k ∈ r.keys, live (enterObjs os' keyBase) k) ∧
      ∀ k o b, alook (enterObjs os' keyBase) k = some o → excl c2 k o = some b → c0.w.heap.size ≤ b ∨ held c0 (enterObjs [] keyBase) b := by
      intro hfin
      refine ⟨hr'.defers, ?_⟩
      unfold finishN at hfin
      cases h1 : resultL X s' fn.results.toList with
      | none => simp [h1] at hfin
      | some rs =>
      rw [h1] at hfin
      split at hfin
      · rename_i k off hrs
        simp only [Option.some.injEq] at hrs
        subst hrs
        cases ho : alook s'.objs k with
        | none => simp [ho] at hfin
        | some o =>
        simp only [ho] at hfin
        obtain ⟨hb, hfin⟩ := cond_none hfin
        simp only [Option.some.injEq, Prod.mk.injEq] at hfin
        obtain ⟨rfl, rfl⟩ := hfin
        have hnil : o.keys = [] := by cases hk : o.keys with | nil => rfl | cons q l => simp [hk, isNil] at hb
        obtain ⟨xs, hs, hrun⟩ := resultL_sound X hr' hn' h1
        have hl : xs.length = 1 := by rw [hs.1]; rfl
        obtain ⟨x, rfl⟩ := List.length_eq_one_iff.1 hl
        have hx : Rep c' (.ref k off) x := (hs.2 0 (.ref k off) rfl).rep
        have hm' : (fn.results.mapM (m := Sem) (resF a'.tmps)).run X.P c'.w = .ok [x].toArray c'.w := by
          rw [Array.mapM_eq_mapM_toList]
          simp only [Sem.run_map]
          rw [hrun]; rfl
        have hres : (results fn a'.tmps).run X.P c'.w = .ok x c'.w := by
          rw [results_eq]
          simp only [Sem.run_bind, hm', Result.andThen_ok]
          rfl
        let c2 : Cx := { w := c'.w, I := c'.I, β := fun _ => c'.β k, κ := fun _ => c'.κ k, fr := fun _ => c'.fr k }
        have hone : ∀ q o', alook (enterObjs [o.ren fun _ => keyBase] keyBase) q = some o' → q = keyBase ∧ o' = o.ren fun _ => keyBase := by
          intro q o' h
          simp only [enterObjs, alook] at h
          cases hq : Nat.beq keyBase q with
          | true => rw [hq] at h; simp at h; exact ⟨(beqT hq).symm, h.symm⟩
          | false => rw [hq] at h; simp at h
        have hlive : live (enterObjs [o.ren fun _ => keyBase] keyBase) keyBase := ⟨_, rfl⟩
        have hno : ∀ q, ¬ live (enterObjs [] keyBase) q := by rintro q ⟨o', h⟩; cases h
        refine ⟨x, hres, c2, x, rfl, rfl, ⟨hr'.good.there, fun g cs hg => (hr'.good.globs g cs hg).ext (ks := fun _ => False) ⟨fun _ _ _ _ hv => hv, fun _ _ hi => hi, fun _ hk => hk.elim, fun _ hk => hk.elim⟩ (by simp [AV.keys])⟩,
          ⟨hr'.frame.os, hr'.frame.output, hr'.frame.tape, hr'.frame.size, hr'.frame.block, ⟨hr'.frame.ext.cell, hr'.frame.ext.I, fun q hq => absurd hq (hno q), fun q hq => absurd hq (hno q)⟩, hr'.frame.new⟩,
          ⟨fun q o' h => ?_, fun q o1 q' o2 b h h' hne => ?_, fun q o' h p hp => ?_⟩, ?_, fun q hq => ?_, fun q o' b h hb' => ?_⟩
        · obtain ⟨rfl, rfl⟩ := hone q o' h
          exact (hr'.objs.rep k o ho).ren rfl rfl rfl rfl rfl fun q hq => by rw [hnil] at hq; cases hq
        · obtain ⟨e1, _⟩ := hone q o1 h
          obtain ⟨e2, _⟩ := hone q' o2 h'
          exact absurd (e1.trans e2.symm) hne
        · obtain ⟨rfl, rfl⟩ := hone q o' h
          obtain ⟨q', hq', _⟩ := AO.ren_keys _ _ p hp
          rw [hnil] at hq'; cases hq'
        · exact Rep.ren (c := c') (c' := c2) (m := fun _ => keyBase) (fun _ _ _ _ hv => hv) (fun _ _ hi => hi) hx fun q hq => by
            have : q = k := by simpa [AV.keys] using hq
            subst this; exact ⟨rfl, fun _ _ h => h⟩
        · have : q = keyBase := by simpa [AV.keys] using hq
          subst this; exact hlive
        · obtain ⟨rfl, rfl⟩ := hone q o' h
          rw [show excl c2 keyBase (o.ren fun _ => keyBase) = excl c' k o from excl_ren rfl rfl] at hb'
          exact hr'.mine k o b ho hb'
      · cases hfin
    cases ex with
    | exit id => simp at hex
    | nor => exact hfin hex
    | ret => exact hfin hex
/-- Its contract, by a run without loops. -/
theorem ct_new {V : Env} {T : List Ent} {d : Nat} {f : FuncId} {n : Nat} {l : List AV} {r : AV × List AO} (hm : V.P.follows .mixedOrders = true) (hP : FuncsOk V.P) (hT : TabOk V T)
    (he : runFN (V.run T d [] [] [] f) n f l = some r) : Ct V.P V.G f l [] r := by
  have hO : OracOk (V.run T d [] [] [] f) f := by
    refine ⟨fun p g hg => ?_, fun p g hg => ?_, fun p g hg => ?_⟩
    all_goals
      simp only [Env.run, Nat.beq_refl, cond_true] at hg
      exact absurd (orGet_mem hg) (List.not_mem_nil)
  have hh := he
  unfold runFN at hh
  cases hf : (V.run T d [] [] [] f).P.funcs[f]? with
  | none => simp only [hf] at hh; cases hh
  | some fn =>
    have hf' : V.P.funcs[f]? = some fn := hf
    obtain ⟨h1, h2⟩ := hP f fn hf'
    refine ⟨runFN_sound (X := V.run T d [] [] [] f) (calls_tab hm hP hT d [] [] [] f) hm hO hf h2 he, fn, hf', h1, ?_⟩
    cases hb : fn.body with
    | none => simp only [hf, hb] at hh; cases hh
    | some c => rfl
end Go.Ab

namespace Go.Ab
open Go Go.RowKit
variable {B : Base} {c : Cx} {s : St} {a : Act}
/-- One list of cells may be told as another. -/
def Told (cs cs' : List AV) : Prop := cs'.length = cs.length ∧ keysL cs' = [] ∧ ∀ (i : Nat) (u u' : AV), cs[i]? = some u → cs'[i]? = some u' → u'.one = true ∧ ∀ c x, Rep c u x → Rep c u' x
inductive ObjLe : AO → AO → Prop
  | same (o) : ObjLe o o
  | cells (cs cs') : Told cs cs' → ObjLe (.cells cs) (.cells cs')
inductive ObjsLe : List (Nat × AO) → List (Nat × AO) → Prop
  | nil : ObjsLe [] []
  | cons (k o o' r r') : ObjLe o o' → ObjsLe r r' → ObjsLe ((k, o) :: r) ((k, o') :: r')
theorem ObjsLe.look {l l' : List (Nat × AO)} (h : ObjsLe l l') (k : Nat) : (alook l k = none ∧ alook l' k = none) ∨ ∃ o o', alook l k = some o ∧ alook l' k = some o' ∧ ObjLe o o' := by
  induction h with
  | nil => exact .inl ⟨rfl, rfl⟩
  | cons q o o' r r' h1 _ ih =>
    simp only [alook]
    cases hb : Nat.beq q k with
    | true => exact .inr ⟨o, o', rfl, rfl, h1⟩
    | false => exact ih
theorem ObjLe.excl {o o' : AO} (h : ObjLe o o') (k : Nat) : excl c k o' = excl c k o := by cases h <;> rfl
theorem ObjLe.keys {o o' : AO} (h : ObjLe o o') : o' = o ∨ o'.keys = [] := by
  cases h with
  | same => exact .inl rfl
  | cells cs cs' h => exact .inr h.2.1
theorem ObjLe.rep {o o' : AO} (h : ObjLe o o') {k : Nat} (hr : ObjRep c k o) : ObjRep c k o' := by
  cases h with
  | same => exact hr
  | cells cs cs' h =>
    obtain ⟨⟨⟨vs, t, hh, hs, hv⟩, h1⟩, hI, hf⟩ := hr
    have hg : ∀ (i : Nat) (u' : AV), cs'[i]? = some u' → ∃ u, cs[i]? = some u := fun i u' hu => by
      have := (List.getElem?_eq_some_iff.1 hu).1
      rw [h.1] at this
      exact ⟨_, List.getElem?_eq_getElem this⟩
    refine ⟨⟨⟨vs, t, hh, by rw [h.1]; exact hs, fun i u' hu => ?_⟩, fun i u' hu => ?_⟩, hI, hf⟩
    · obtain ⟨u, hu0⟩ := hg i u' hu
      exact (h.2.2 i u u' hu0 hu).2 _ _ (hv i u hu0)
    · obtain ⟨u, hu0⟩ := hg i u' hu
      exact (h.2.2 i u u' hu0 hu).1
theorem Rel.weak (h : Rel B c s a) {objs' : List (Nat × AO)} (hw : ObjsLe s.objs objs') : Rel B c { env := s.env, objs := objs' } a := by
  have hlive : ∀ k, live s.objs k → live objs' k := fun k hk => by
    obtain ⟨o, hk⟩ := hk
    rcases hw.look k with ⟨h1, _⟩ | ⟨_, o', _, h2, _⟩
    · rw [h1] at hk; cases hk
    · exact ⟨o', h2⟩
  have hback : ∀ {k o'}, alook objs' k = some o' → ∃ o, alook s.objs k = some o ∧ ObjLe o o' := fun {k o'} hk => by
    rcases hw.look k with ⟨_, h1⟩ | ⟨o, o2, h1, h2, h3⟩
    · rw [h1] at hk; cases hk
    · rw [h2] at hk; cases hk; exact ⟨o, h1, h3⟩
  refine ⟨h.good, h.frame, ⟨fun k o' hk => ?_, fun k o' q o2 b hk hq hne hb => ?_, fun k o' hk q hq => ?_⟩, h.env, fun t v hv k hk => hlive k (h.closed t v hv k hk), fun k o' b hk hb => ?_, h.tmps, h.defers, fun k hk => hlive k (h.kept k hk)⟩
  · obtain ⟨o, h1, h2⟩ := hback hk
    exact h2.rep (h.objs.rep k o h1)
  · obtain ⟨o, h1, h2⟩ := hback hk
    obtain ⟨o3, h3, h4⟩ := hback hq
    rw [h4.excl]
    rw [h2.excl] at hb
    exact h.objs.apart k o q o3 b h1 h3 hne hb
  · obtain ⟨o, h1, h2⟩ := hback hk
    rcases h2.keys with rfl | h0
    · exact hlive q (h.objs.closed k _ h1 q hq)
    · rw [h0] at hq; cases hq
  · obtain ⟨o, h1, h2⟩ := hback hk
    rw [h2.excl] at hb
    exact h.mine k o b h1 hb
open Classical in
/-- States of a family told in other words. -/
theorem viewOk_weak {α : Type} [Inhabited α] (S S' : α → St) (Inv : α → Prop) (hS : ∀ v, Inv v → (S' v).env = (S v).env ∧ ObjsLe (S v).objs (S' v).objs) : ViewOk (mkV (goodS S Inv) (valS S Inv id) S') := by
  intro s k r h
  unfold mkV at h
  obtain ⟨hg, h⟩ := cond_none h
  have hx : ∃ v, Inv v ∧ S v = s := of_decide_eq_true hg
  unfold valS at h
  rw [dif_pos hx, id] at h
  obtain ⟨h1, h2⟩ := hx.choose_spec
  obtain ⟨e1, e2⟩ := hS _ h1
  refine ⟨_, h, fun B c a hr hn => ⟨c, rfl, ?_, ?_⟩⟩
  · rw [h2] at e1 e2
    have := hr.weak e2
    rw [← e1] at this
    exact this
  · intro t v hv
    refine hn t v ?_
    rw [← h2]
    show alook (S hx.choose).env t = some v
    rw [← e1]; exact hv
end Go.Ab

namespace Go.SH
open Go Go.Ab Go.Proofs
set_option linter.unusedVariables false
set_option linter.unusedSimpArgs false
def φNew (C : CODES) : AV × List AO := (.ref keyBase 0, [codO C])
def NST (t : EXP) : Nat → List AV
  | 0 => eC t
  | n + 1 => exK 4 (.sl .fit 5 1 (fillGet ex0 [(0, .agg (NST t n))]))
structure QV where
  e : EXP
  a : EXP
  n : EXP
  w : Nat
  d : Nat
instance : Inhabited QV := ⟨⟨default, default, default, 0, 0⟩⟩
def PS (w d : Int) (e : EXP) (D : CODES) (m : Nat) (get : Nat → List AV) (i : Int) : St := { env := [(1, .int .i64 w), (2, .int .i64 d), (7, .ref 19 0), (8, .ref 8 0), (9, .ref 9 0), (10, .int .i64 i)], objs := [(8, .cells (eC e)), (9, .cells (exK 3 (.sl (.key 44) 5 m get))), (19, codO D), (44, .own 5 m)] }
def PE (w d : Int) (e : EXP) (D : CODES) (m : Nat) (get : Nat → List AV) : St := { env := [(1, .int .i64 w), (2, .int .i64 d), (7, .ref 19 0), (8, .ref 8 0), (9, .ref 9 0)], objs := [(8, .cells (eC e)), (9, .cells (exK 3 (.sl (.key 44) 5 m get))), (19, codO D), (44, .own 5 m)] }
def PN (w d : Int) (e : EXP) (m : Nat) (get : Nat → List AV) (x : List AV) (i : Int) : St := { env := [(1, .int .i64 w), (2, .int .i64 d), (8, .ref 8 0), (9, .ref 9 0), (12, .ref 12 0), (13, .int .i64 i)], objs := [(8, .cells (eC e)), (9, .cells (exK 3 (.sl (.key 44) 5 m get))), (12, .cells x), (44, .own 5 m)] }
def PQ (w d : Int) (e : EXP) (m : Nat) (get : Nat → List AV) (x : List AV) : St := { env := [(1, .int .i64 w), (2, .int .i64 d), (8, .ref 8 0), (9, .ref 9 0), (12, .ref 12 0)], objs := [(8, .cells (eC e)), (9, .cells (exK 3 (.sl (.key 44) 5 m get))), (12, .cells x), (44, .own 5 m)] }
def PV (x : QV) : St := { env := [(1, .int .i64 x.w), (2, .int .i64 x.d), (8, .ref 8 0), (9, .ref 9 0), (12, .ref 12 0)], objs := [(8, .cells (eC x.e)), (9, .cells (eC x.a)), (12, .cells (eC x.n)), (44, .own 5 x.w)] }
def outP1 (x : (EXP × CODES) × Nat × Int) (k : Ex → St → Res) : Res := k (.exit 0) (PE x.2.1 x.2.2 x.1.1 x.1.2 x.2.1 (getX (List.replicate x.2.1 (kidOf 3 x.1.1))))
structure NV where
  e : EXP
  w : Nat
  t : EXP
  b : Bool
  q : Nat
instance : Inhabited NV := ⟨⟨default, 0, default, true, 0⟩⟩
def outP2 (d : Int) (x : NV) (k : Ex → St → Res) : Res := cond x.b (k (.exit 2) (PQ x.w d x.e x.w (getX (List.replicate x.w (kidOf 3 x.e))) (eC x.t))) (k (.exit 2) (PQ x.w d x.e x.w (getX (List.replicate x.w (kidOf 3 x.e))) (exK 4 (.sl .fit 5 1 (fillGet ex0 [(0, .agg (NST x.t x.q))])))))
def P3 (x : QV) (i : Nat) : St := { env := [(1, .int .i64 x.w), (2, .int .i64 x.d), (9, .ref 9 0), (12, .ref 12 0), (59, .sl .fit 5 3 (fillGet ex0 [(0, .agg (eC x.e)), (1, .agg (eC x.a)), (2, .agg (eC x.n))])), (60, .int .i64 3), (61, .int .i64 i)], objs := [(9, .cells (eC x.a)), (12, .cells (eC x.n)), (44, .own 5 x.w)] }
def P3E (x : QV) : St := { env := [(1, .int .i64 x.w), (2, .int .i64 x.d), (9, .ref 9 0), (12, .ref 12 0)], objs := [(9, .cells (eC x.a)), (12, .cells (eC x.n)), (44, .own 5 x.w)] }
def outP3 (x : QV) (k : Ex → St → Res) : Res := k (.exit 4) (P3E x)
set_option maxRecDepth 100000 in
theorem new_m (n : Nat) (g : Nat → Int) (m : Int)  : runFN (V2.run [] 3 [] [] [] 12) 9 12 [.sl .no 1 n fun j => [.int .u8 (g j)], .int .i64 m] =
  cond (decide ((↑n : Int) > m)) (cond (decide (0 ≤ (↑0 : Int)) && (decide ((↑0 : Int) ≤ m) && decide (m ≤ (↑n : Int)))) (some ((.ref 1000000 0, [.cells [.sl .no 1 (Int.toNat m - Int.toNat (↑0 : Int)) fun j => [.int .u8 (g (Int.toNat (↑0 : Int) + j))], .int .i64 0] ]))) (none)) (some ((.ref 1000000 0, [.cells [.sl .no 1 n fun j => [.int .u8 (g j)], .int .i64 0] ]))) := by kernel_rfl
set_option maxRecDepth 100000 in
theorem mod_m (x m : Int)  : runF (V2.run [] 3 [] [] [] 27) 9 27 [.int .i64 x, .int .i64 m] [] =
  cond (m != 0) (cond (decide (Int.tmod x m < 0)) (some ((.int .i64 (IntKind.wrap IntKind.i64 (Int.tmod x m + m)), []))) (some ((.int .i64 (Int.tmod x m), [])))) (none) := by kernel_rfl
set_option maxRecDepth 100000 in
theorem par_r0 (T : List Ent) (L : List (List Nat × Orc)) (wv : Vw) (m : Nat) (w d : Int) (e : EXP) (D : CODES) (kn : St → Res) (k : Ex → St → Res)  : roundR (V2.run T 3 [] L [([1, 1, 1, 1, 1, 1, 1, 1, 1], wv)] 9) 9 m [1, 1, 1, 1, 1, 1, 0, 1, 0] (PS w d e D 0 (fun _ => ex0) 0) kn k =
  cond (decide (0 < w)) (cond (EXP.op e == 3) (kn (PS w d e D 1 (appGet 0 1 (fun x => exK 0 (.sl .fit 0 0 fun x => [])) (fillGet (exK 0 (.sl .fit 0 0 fun x => [])) [(0, .agg (exK 4 (.sl .fit 5 1 (fillGet (exK 0 (.sl .fit 0 0 fun x => [])) [(0, .agg (eC e))]))))])) (IntKind.wrap IntKind.i64 (0 + 1)))) (kn (PS w d e D 1 (appGet 0 1 (fun x => exK 0 (.sl .fit 0 0 fun x => [])) (fillGet (exK 0 (.sl .fit 0 0 fun x => [])) [(0, .agg (eC e))])) (IntKind.wrap IntKind.i64 (0 + 1))))) (k (.exit 0) (PE w d e D 0 fun x => exK 0 (.sl .fit 0 0 fun x => []))) := by kernel_rfl
set_option maxRecDepth 100000 in
theorem par_r (T : List Ent) (L : List (List Nat × Orc)) (wv : Vw) (m : Nat) (w d : Int) (e : EXP) (D : CODES) (q : Nat) (get : Nat → List AV) (i : Nat) (kn : St → Res) (k : Ex → St → Res)  : roundR (V2.run T 3 [] L [([1, 1, 1, 1, 1, 1, 1, 1, 1], wv)] 9) 9 m [1, 1, 1, 1, 1, 1, 0, 1, 0] (PS w d e D (q + 1) get i) kn k =
  cond (decide ((↑i : Int) < w)) (cond (EXP.op e == 3) (cond (roomy (88) (q + 1 + 1) && Nat.beq (q + 1) (q + 1)) (kn (PS w d e D (q + 1 + 1) (appGet (q + 1) 1 get (fillGet (exK 0 (.sl .fit 0 0 fun x => [])) [(0, .agg (exK 4 (.sl .fit 5 1 (fillGet (exK 0 (.sl .fit 0 0 fun x => [])) [(0, .agg (eC e))]))))])) (IntKind.wrap IntKind.i64 ((↑i : Int) + 1)))) (none)) (cond (roomy (88) (q + 1 + 1) && Nat.beq (q + 1) (q + 1)) (kn (PS w d e D (q + 1 + 1) (appGet (q + 1) 1 get (fillGet (exK 0 (.sl .fit 0 0 fun x => [])) [(0, .agg (eC e))])) (IntKind.wrap IntKind.i64 ((↑i : Int) + 1)))) (none))) (k (.exit 0) (PE w d e D (q + 1) get)) := by kernel_rfl
set_option maxRecDepth 100000 in
theorem par_n0 (T : List Ent) (L : List (List Nat × Orc)) (wv : Vw) (m : Nat) (w d : Int) (e : EXP) (q : Nat) (get : Nat → List AV) (t : EXP) (kn : St → Res) (k : Ex → St → Res)  : roundR (V2.run T 3 [] L [([1, 1, 1, 1, 1, 1, 1, 1, 1], wv)] 9) 9 m [1, 1, 1, 1, 1, 1, 1, 1, 0, 1, 0] (PN w d e q get (eC t) 0) kn k =
  cond (decide (0 < d)) (kn (PN w d e q get (exK 4 (.sl .fit 5 1 (fillGet (exK 0 (.sl .fit 0 0 fun x => [])) [(0, .agg (eC t))]))) (IntKind.wrap IntKind.i64 (0 + 1)))) (k (.exit 2) (PQ w d e q get (eC t))) := by kernel_rfl
set_option maxRecDepth 100000 in
theorem par_n (T : List Ent) (L : List (List Nat × Orc)) (wv : Vw) (m : Nat) (w d : Int) (e : EXP) (q : Nat) (get gx : Nat → List AV) (i : Nat) (kn : St → Res) (k : Ex → St → Res)  : roundR (V2.run T 3 [] L [([1, 1, 1, 1, 1, 1, 1, 1, 1], wv)] 9) 9 m [1, 1, 1, 1, 1, 1, 1, 1, 0, 1, 0] (PN w d e q get (exK 4 (.sl .fit 5 1 gx)) i) kn k =
  cond (decide ((↑i : Int) < d)) (kn (PN w d e q get (exK 4 (.sl .fit 5 1 (fillGet (exK 0 (.sl .fit 0 0 fun x => [])) [(0, .agg (exK 4 (.sl .fit 5 1 gx)))]))) (IntKind.wrap IntKind.i64 ((↑i : Int) + 1)))) (k (.exit 2) (PQ w d e q get (exK 4 (.sl .fit 5 1 gx)))) := by kernel_rfl
set_option maxRecDepth 100000 in
theorem par_l0 (gc gp ge gf : List AV → List AO → Bool) (vc vp : List AV → List AO → Nat) (ve vf : List AV → List AO → Int) (T : List Ent) (L : List (List Nat × Orc)) (wv : Vw) (m : Nat) (x : QV) (kn : St → Res) (k : Ex → St → Res) {t1 : Nat} (h_t1 : vc [.agg (eC (QV.e x))] [] = t1) {t2 : Nat} (h_t2 : vp [.agg (eC (QV.e x))] [] = t2) {t3 : Int} (h_t3 : ve [.agg (eC (QV.e x))] [] = t3) {t4 : Int} (h_t4 : vf [.agg (eC (QV.e x))] [] = t4) : roundR (V2.run (mkE 48 gc vc φK :: mkE 49 gp vp φK :: mkE 15 ge ve φE :: mkE 16 gf vf φE :: T) 3 [] L [([1, 1, 1, 1, 1, 1, 1, 1, 1], wv)] 9) 9 m [1, 1, 1, 1, 1, 1, 1, 1, 1, 0, 1, 0] (P3 x 0) kn k =
  cond (gc [.agg (eC (QV.e x))] []) (cond (gp [.agg (eC (QV.e x))] []) (cond (ge [.agg (eC (QV.e x))] []) (cond (gf [.agg (eC (QV.e x))] []) (cond (bif (↑t1 : Int) != (↑t2 : Int) then true else t3 != t4) (k (.ret) ({ env := [(6, .bool false)], objs := [] })) (kn (P3 x ((0 + 1) % Int.natAbs (2 ^ IntKind.bits IntKind.i64))))) (none)) (none)) (none)) (none) := by subst h_t4 h_t3 h_t2 h_t1; kernel_rfl
set_option maxRecDepth 100000 in
theorem par_l1 (gc gp ge gf : List AV → List AO → Bool) (vc vp : List AV → List AO → Nat) (ve vf : List AV → List AO → Int) (T : List Ent) (L : List (List Nat × Orc)) (wv : Vw) (m : Nat) (x : QV) (kn : St → Res) (k : Ex → St → Res) {t1 : Nat} (h_t1 : vc [.agg (eC (QV.a x))] [] = t1) {t2 : Nat} (h_t2 : vp [.agg (eC (QV.a x))] [] = t2) {t3 : Int} (h_t3 : ve [.agg (eC (QV.a x))] [] = t3) {t4 : Int} (h_t4 : vf [.agg (eC (QV.a x))] [] = t4) : roundR (V2.run (mkE 48 gc vc φK :: mkE 49 gp vp φK :: mkE 15 ge ve φE :: mkE 16 gf vf φE :: T) 3 [] L [([1, 1, 1, 1, 1, 1, 1, 1, 1], wv)] 9) 9 m [1, 1, 1, 1, 1, 1, 1, 1, 1, 0, 1, 0] (P3 x 1) kn k =
  cond (gc [.agg (eC (QV.a x))] []) (cond (gp [.agg (eC (QV.a x))] []) (cond (ge [.agg (eC (QV.a x))] []) (cond (gf [.agg (eC (QV.a x))] []) (cond (bif (↑t1 : Int) != (↑t2 : Int) then true else t3 != t4) (k (.ret) ({ env := [(6, .bool false)], objs := [] })) (kn (P3 x ((1 + 1) % Int.natAbs (2 ^ IntKind.bits IntKind.i64))))) (none)) (none)) (none)) (none) := by subst h_t4 h_t3 h_t2 h_t1; kernel_rfl
set_option maxRecDepth 100000 in
theorem par_l2 (gc gp ge gf : List AV → List AO → Bool) (vc vp : List AV → List AO → Nat) (ve vf : List AV → List AO → Int) (T : List Ent) (L : List (List Nat × Orc)) (wv : Vw) (m : Nat) (x : QV) (kn : St → Res) (k : Ex → St → Res) {t1 : Nat} (h_t1 : vc [.agg (eC (QV.n x))] [] = t1) {t2 : Nat} (h_t2 : vp [.agg (eC (QV.n x))] [] = t2) {t3 : Int} (h_t3 : ve [.agg (eC (QV.n x))] [] = t3) {t4 : Int} (h_t4 : vf [.agg (eC (QV.n x))] [] = t4) : roundR (V2.run (mkE 48 gc vc φK :: mkE 49 gp vp φK :: mkE 15 ge ve φE :: mkE 16 gf vf φE :: T) 3 [] L [([1, 1, 1, 1, 1, 1, 1, 1, 1], wv)] 9) 9 m [1, 1, 1, 1, 1, 1, 1, 1, 1, 0, 1, 0] (P3 x 2) kn k =
  cond (gc [.agg (eC (QV.n x))] []) (cond (gp [.agg (eC (QV.n x))] []) (cond (ge [.agg (eC (QV.n x))] []) (cond (gf [.agg (eC (QV.n x))] []) (cond (bif (↑t1 : Int) != (↑t2 : Int) then true else t3 != t4) (k (.ret) ({ env := [(6, .bool false)], objs := [] })) (kn (P3 x ((2 + 1) % Int.natAbs (2 ^ IntKind.bits IntKind.i64))))) (none)) (none)) (none)) (none) := by subst h_t4 h_t3 h_t2 h_t1; kernel_rfl
set_option maxRecDepth 100000 in
theorem par_l3 (gc gp ge gf : List AV → List AO → Bool) (vc vp : List AV → List AO → Nat) (ve vf : List AV → List AO → Int) (T : List Ent) (L : List (List Nat × Orc)) (wv : Vw) (m : Nat) (x : QV) (kn : St → Res) (k : Ex → St → Res)  : roundR (V2.run (mkE 48 gc vc φK :: mkE 49 gp vp φK :: mkE 15 ge ve φE :: mkE 16 gf vf φE :: T) 3 [] L [([1, 1, 1, 1, 1, 1, 1, 1, 1], wv)] 9) 9 m [1, 1, 1, 1, 1, 1, 1, 1, 1, 0, 1, 0] (P3 x 3) kn k =
  k (.exit 4) (P3E x) := by kernel_rfl
set_option maxRecDepth 100000 in
theorem par_m (ga gn gx gt gc gp ge gf gm : List AV → List AO → Bool) (va : List AV → List AO → Bool) (vn : List AV → List AO → CODES) (vx vt : List AV → List AO → EXP × CODES) (vc vp : List AV → List AO → Nat) (ve vf vm : List AV → List AO → Int) (T : List Ent) (g1 g2 g3 g4 : St → Bool) (v1 : St → (EXP × CODES) × Nat × Int) (v2 : St → NV) (dp : Int) (v3 v4 : St → QV) (n : Nat) (g : Nat → Int) (wide deep : Int) {t1 : CODES} (h_t1 : vn [.sl .no 1 n fun j => [.int .u8 (g j)], .int .i64 120] [] = t1) {t2 : EXP × CODES} (h_t2 : vx [.ref 1000000 0, .sl .fit 0 0 fun x => [], .int .i64 4] [.cells [.sl .no 1 (CODES.n t1) fun j => [.int .u8 (CODES.g t1 j)], .int .i64 (↑(CODES.at' t1) : Int)] ] = t2) {t3 : Int} (h_t3 : vm [.int .i64 wide, .int .i64 12] [] = t3) {t4 : Int} (h_t4 : vm [.int .i64 deep, .int .i64 12] [] = t4) {t5 : (EXP × CODES) × Nat × Int} (h_t5 : v1 { env := [(1, .int .i64 (IntKind.wrap IntKind.i64 (2 + t3))), (2, .int .i64 t4), (7, .ref 19 0), (8, .ref 8 0), (9, .ref 9 0), (10, .int .i64 0)], objs := [(8, .cells (eC (Prod.fst t2))), (9, .cells (exK 3 (.sl (.key 44) 5 0 fun x => exK 0 (.sl .fit 0 0 fun x => [])))), (19, codO (Prod.snd t2)), (44, .own 5 0)] } = t5) {t6 : EXP × CODES} (h_t6 : vt [.ref 1000000 0] [codO (Prod.snd (Prod.fst t5))] = t6) {t7 : NV} (h_t7 : v2 (PN (↑(Prod.fst (Prod.snd t5)) : Int) (Prod.snd (Prod.snd t5)) (Prod.fst (Prod.fst t5)) (Prod.fst (Prod.snd t5)) (getX (List.replicate (Prod.fst (Prod.snd t5)) (kidOf 3 (Prod.fst (Prod.fst t5))))) (eC (Prod.fst t6)) 0) = t7) {t8 : QV} (h_t8 : v3 (PQ (↑(NV.w t7) : Int) dp (NV.e t7) (NV.w t7) (getX (List.replicate (NV.w t7) (kidOf 3 (NV.e t7)))) (eC (NV.t t7))) = t8) {t9 : QV} (h_t9 : v4 { env := [(1, .int .i64 (↑(QV.w t8) : Int)), (2, .int .i64 (↑(QV.d t8) : Int)), (9, .ref 9 0), (12, .ref 12 0), (59, .sl .fit 5 3 (fillGet (exK 0 (.sl .fit 0 0 fun x => [])) [(0, .agg (eC (QV.e t8))), (1, .agg (eC (QV.a t8))), (2, .agg (eC (QV.n t8)))])), (60, .int .i64 (↑3 : Int)), (61, .int .i64 0)], objs := [(9, .cells (eC (QV.a t8))), (12, .cells (eC (QV.n t8))), (44, .own 5 (QV.w t8))] } = t9) {t10 : Int} (h_t10 : ve [.agg (eC (QV.n t9))] [] = t10) {t11 : Int} (h_t11 : ve [.agg (eC (QV.a t9))] [] = t11) {t12 : Nat} (h_t12 : vc [.agg (eC (QV.a t9))] [] = t12) {t13 : QV} (h_t13 : v3 (PQ (↑(NV.w t7) : Int) dp (NV.e t7) (NV.w t7) (getX (List.replicate (NV.w t7) (kidOf 3 (NV.e t7)))) (exK 4 (.sl .fit 5 1 (fillGet (exK 0 (.sl .fit 0 0 fun x => [])) [(0, .agg (NST (NV.t t7) (NV.q t7)))])))) = t13) {t14 : QV} (h_t14 : v4 { env := [(1, .int .i64 (↑(QV.w t13) : Int)), (2, .int .i64 (↑(QV.d t13) : Int)), (9, .ref 9 0), (12, .ref 12 0), (59, .sl .fit 5 3 (fillGet (exK 0 (.sl .fit 0 0 fun x => [])) [(0, .agg (eC (QV.e t13))), (1, .agg (eC (QV.a t13))), (2, .agg (eC (QV.n t13)))])), (60, .int .i64 (↑3 : Int)), (61, .int .i64 0)], objs := [(9, .cells (eC (QV.a t13))), (12, .cells (eC (QV.n t13))), (44, .own 5 (QV.w t13))] } = t14) {t15 : Int} (h_t15 : ve [.agg (eC (QV.n t14))] [] = t15) {t16 : Int} (h_t16 : ve [.agg (eC (QV.a t14))] [] = t16) {t17 : Nat} (h_t17 : vc [.agg (eC (QV.a t14))] [] = t17) : runF (V2.run (mkE 48 gc vc φK :: mkE 49 gp vp φK :: mkE 15 ge ve φE :: mkE 16 gf vf φE :: mkE 10 ga va φB :: mkE 12 gn vn φNew :: mkE 13 gx vx φC :: mkE 47 gt vt φC :: mkE 27 gm vm φE :: T) 3 [] [([1, 1, 1, 1, 1, 1, 0, 1, 0], mkO g1 v1 outP1), ([1, 1, 1, 1, 1, 1, 1, 1, 0, 1, 0], mkO g2 v2 (outP2 dp)), ([1, 1, 1, 1, 1, 1, 1, 1, 1, 0, 1, 0], mkO g4 v4 outP3)] [([1, 1, 1, 1, 1, 1, 1, 1, 1], mkV g3 v3 PV)] 9) 9 9 [.sl .no 1 n fun j => [.int .u8 (g j)], .int .i64 wide, .int .i64 deep] [] =
  cond (ga [] []) (cond (!va [] []) (some ((.bool false, []))) (cond (gn [.sl .no 1 n fun j => [.int .u8 (g j)], .int .i64 120] []) (cond (gx [.ref 1000000 0, .sl .fit 0 0 fun x => [], .int .i64 4] [.cells [.sl .no 1 (CODES.n t1) fun j => [.int .u8 (CODES.g t1 j)], .int .i64 (↑(CODES.at' t1) : Int)] ]) (cond (gm [.int .i64 wide, .int .i64 12] []) (cond (gm [.int .i64 deep, .int .i64 12] []) (cond (g1 { env := [(1, .int .i64 (IntKind.wrap IntKind.i64 (2 + t3))), (2, .int .i64 t4), (7, .ref 19 0), (8, .ref 8 0), (9, .ref 9 0), (10, .int .i64 0)], objs := [(8, .cells (eC (Prod.fst t2))), (9, .cells (exK 3 (.sl (.key 44) 5 0 fun x => exK 0 (.sl .fit 0 0 fun x => [])))), (19, codO (Prod.snd t2)), (44, .own 5 0)] }) (cond (gt [.ref 1000000 0] [codO (Prod.snd (Prod.fst t5))]) (cond (g2 (PN (↑(Prod.fst (Prod.snd t5)) : Int) (Prod.snd (Prod.snd t5)) (Prod.fst (Prod.fst t5)) (Prod.fst (Prod.snd t5)) (getX (List.replicate (Prod.fst (Prod.snd t5)) (kidOf 3 (Prod.fst (Prod.fst t5))))) (eC (Prod.fst t6)) 0)) (cond (NV.b t7) (cond (g3 (PQ (↑(NV.w t7) : Int) dp (NV.e t7) (NV.w t7) (getX (List.replicate (NV.w t7) (kidOf 3 (NV.e t7)))) (eC (NV.t t7)))) (cond (g4 { env := [(1, .int .i64 (↑(QV.w t8) : Int)), (2, .int .i64 (↑(QV.d t8) : Int)), (9, .ref 9 0), (12, .ref 12 0), (59, .sl .fit 5 3 (fillGet (exK 0 (.sl .fit 0 0 fun x => [])) [(0, .agg (eC (QV.e t8))), (1, .agg (eC (QV.a t8))), (2, .agg (eC (QV.n t8)))])), (60, .int .i64 (↑3 : Int)), (61, .int .i64 0)], objs := [(9, .cells (eC (QV.a t8))), (12, .cells (eC (QV.n t8))), (44, .own 5 (QV.w t8))] }) (cond (ge [.agg (eC (QV.n t9))] []) (cond (ge [.agg (eC (QV.a t9))] []) (cond (gc [.agg (eC (QV.a t9))] []) (some ((.bool (bif (t10 == 0) == decide ((↑(QV.d t9) : Int) < 10) then (t11 == 0) == bif decide ((↑(QV.w t9) : Int) ≤ 12) then decide ((↑t12 : Int) ≤ 60) else false else false), []))) (none)) (none)) (none)) (none)) (none)) (cond (g3 (PQ (↑(NV.w t7) : Int) dp (NV.e t7) (NV.w t7) (getX (List.replicate (NV.w t7) (kidOf 3 (NV.e t7)))) (exK 4 (.sl .fit 5 1 (fillGet (exK 0 (.sl .fit 0 0 fun x => [])) [(0, .agg (NST (NV.t t7) (NV.q t7)))]))))) (cond (g4 { env := [(1, .int .i64 (↑(QV.w t13) : Int)), (2, .int .i64 (↑(QV.d t13) : Int)), (9, .ref 9 0), (12, .ref 12 0), (59, .sl .fit 5 3 (fillGet (exK 0 (.sl .fit 0 0 fun x => [])) [(0, .agg (eC (QV.e t13))), (1, .agg (eC (QV.a t13))), (2, .agg (eC (QV.n t13)))])), (60, .int .i64 (↑3 : Int)), (61, .int .i64 0)], objs := [(9, .cells (eC (QV.a t13))), (12, .cells (eC (QV.n t13))), (44, .own 5 (QV.w t13))] }) (cond (ge [.agg (eC (QV.n t14))] []) (cond (ge [.agg (eC (QV.a t14))] []) (cond (gc [.agg (eC (QV.a t14))] []) (some ((.bool (bif (t15 == 0) == decide ((↑(QV.d t14) : Int) < 10) then (t16 == 0) == bif decide ((↑(QV.w t14) : Int) ≤ 12) then decide ((↑t17 : Int) ≤ 60) else false else false), []))) (none)) (none)) (none)) (none)) (none))) (none)) (none)) (none)) (none)) (none)) (none)) (none))) (none) := by subst h_t17 h_t16 h_t15 h_t14 h_t13 h_t12 h_t11 h_t10 h_t9 h_t8 h_t7 h_t6 h_t5 h_t4 h_t3 h_t2 h_t1; kernel_rfl
end Go.SH

namespace Go.SH
open Go Go.Ab Go.Proofs
set_option linter.unusedVariables false
set_option linter.unusedSimpArgs false
theorem new_ok {n : Nat} {g : Nat → Int} (hg : ∀ j, j < n → 0 ≤ g j ∧ g j < 256) {m : Int} (h0 : 0 ≤ m) (h1 : m ≤ 1000) : ∃ C : CODES, C.Ok ∧ Ct V2.P V2.G 12 [.sl .no 1 n fun j => [.int .u8 (g j)], .int .i64 m] [] (φNew C) := by
  have e := new_m n g m
  by_cases h : (n : Int) > m
  · rw [decide_eq_true h, decide_eq_true (show (0 : Int) ≤ 0 from Int.le_refl _), decide_eq_true (show (0 : Int) ≤ m from h0), decide_eq_true (show m ≤ (n : Int) by omega)] at e
    have hz : (fun j => [AV.int .u8 (g (Int.toNat 0 + j))]) = fun j => [AV.int .u8 (g j)] := by
      funext j; rw [show Int.toNat 0 = 0 from rfl, Nat.zero_add]
    rw [hz] at e
    exact ⟨⟨m.toNat, g, 0⟩, ⟨Nat.zero_le _, by show m.toNat ≤ _; omega, fun j hj => hg j (by have : j < m.toNat := hj; omega)⟩, ct_new mixed2 funcs2 tabOk_nil e⟩
  · rw [decide_eq_false h] at e
    exact ⟨⟨n, g, 0⟩, ⟨Nat.zero_le _, by show n ≤ _; omega, hg⟩, ct_new mixed2 funcs2 tabOk_nil e⟩
def mA (x : Int × Int) : List AV := [.int .i64 x.1, .int .i64 x.2]
theorem mod_ex (x : Int × Int) (hm : 1 ≤ x.2 ∧ x.2 ≤ 1000000) : ∃ z : Int, (0 ≤ z ∧ z < x.2) ∧ Ct V2.P V2.G 27 (mA x) [] (φE z) := by
  obtain ⟨x, m⟩ := x
  obtain ⟨h1, h2⟩ := hm
  have h1 : 1 ≤ m := h1
  have h2 : m ≤ 1000000 := h2
  have e := mod_m x m
  rw [show (m != 0) = true by simp; omega] at e
  have l1 := Int.tmod_lt_of_pos x (show 0 < m by omega)
  have l2 := Int.lt_tmod_of_pos x (show 0 < m by omega)
  have hc := fun r he => ct_loops (V := V2) (f := 27) (l := mA (x, m)) (os := []) (r := r) (n := 9) (d := 3) (T := []) (L := []) mixed2 funcs2 tabOk_nil loopsOk_nil he
  by_cases h : Int.tmod x m < 0
  · rw [decide_eq_true h, wrap_i64 (by omega) (by omega)] at e
    exact ⟨Int.tmod x m + m, ⟨by omega, by show Int.tmod x m + m < m; omega⟩, hc _ e⟩
  · rw [decide_eq_false h] at e
    exact ⟨Int.tmod x m, ⟨by omega, l1⟩, hc _ e⟩
def eA (e : EXP) : List AV := [.agg (eC e)]
theorem eA_eq (e : EXP) : eA e = expA e := by unfold eA expA eC; rw [e.c_eq]
theorem eA_inj {τ : Type} (w : EXP → τ) (a b : EXP) (h : eA a = eA b) : w a = w b := by rw [eA_eq, eA_eq] at h; exact expA_inj w a b h
theorem eA_15 (e : EXP) (h : e.Ok) : Ct V2.P V2.G 15 (eA e) [] (φE (exprE e)) := by
  have := Ct.v2 (exp15_x e h)
  unfold exA at this
  rw [EXP.x_eq] at this
  rw [eA_eq]; exact this
theorem eA_16 (e : EXP) (h : e.Ok) : Ct V2.P V2.G 16 (eA e) [] (φE (exprE e)) := by
  have := Ct.v2 (exp16_x e h)
  unfold exA at this
  rw [EXP.x_eq] at this
  rw [eA_eq]; exact this
theorem eA_48 (e : EXP) (h : e.Ok) : Ct V2.P V2.G 48 (eA e) [] (φK (countE e 0)) := by rw [eA_eq]; exact cparts_ok e h
theorem eA_49 (e : EXP) (h : e.Ok) : Ct V2.P V2.G 49 (eA e) [] (φK (rpartsE e)) := by rw [eA_eq]; exact rsum_ok e h
noncomputable abbrev gE : List AV → List AO → Bool := gF eA EXP.Ok
theorem gE_eq {e : EXP} (h : e.Ok) : gF eA EXP.Ok [.agg (eC e)] [] = true := gF_eq (A := eA) h
theorem vE_eq {τ : Type} [Inhabited τ] {w : EXP → τ} {e : EXP} (h : e.Ok) : vF eA EXP.Ok w [.agg (eC e)] [] = w e := vF_eq (A := eA) (eA_inj w) h
section
variable (w d : Int) (e : EXP) (D : CODES)
def S1 : Nat → St
  | 0 => PS w d e D 0 (fun _ => ex0) 0
  | q + 1 => PS w d e D (q + 1) (getX (List.replicate (q + 1) (kidOf 3 e))) ((q + 1 : Nat) : Int)
theorem loop1 (W : Nat) (h2 : 2 ≤ W) (h13 : W ≤ 13) (T : List Ent) (wv : Vw) : ∀ L, LoopOk (V2.run T 3 [] L [([1, 1, 1, 1, 1, 1, 1, 1, 1], wv)] 9) 9 [1, 1, 1, 1, 1, 1, 0, 1, 0] (mkO (goodS (S1 W d e D) (· ≤ W)) (valS (S1 W d e D) (· ≤ W) fun _ => ((e, D), W, d)) outP1) := fun L =>
  loopOk_of (X := V2.run T 3 [] L [([1, 1, 1, 1, 1, 1, 1, 1, 1], wv)] 9) (b := subC (bodyOf V2.P 9) ([1, 1, 1, 1, 1, 1, 0, 1, 0] ++ [0])) (S1 W d e D) (· ≤ W) (fun i => W - i) (fun _ => ((e, D), W, d)) outP1 (by kernel_rfl) 9 fun i hi k kn hk => by
    have h0 : (fun _ : Nat => ex0) = getX [] := by funext j; rfl
    cases i with
    | zero =>
      refine (par_r0 T L wv 9 W d e D kn k).trans ?_
      rw [decide_eq_true (show (0 : Int) < (W : Int) by omega), cond_true]
      have h1 := getX_app [] (kidOf 3 e)
      have hk := hk 1 (by omega) (by omega)
      refine Eq.trans ?_ hk
      unfold kidOf at h1
      show _ = kn (PS W d e D 1 (getX (List.replicate 1 (kidOf 3 e))) ((1 : Nat) : Int))
      unfold kidOf
      cases hb : (e.op == 3) with
      | true =>
        rw [hb] at h1
        show kn (PS W d e D 1 (appGet 0 1 (fun _ => ex0) (fillGet ex0 [(0, .agg (KID.c (.neg e)))])) _) = kn (PS W d e D 1 (getX [.neg e]) _)
        rw [h0]; exact congrArg (fun g => kn (PS W d e D 1 g 1)) h1
      | false =>
        rw [hb] at h1
        show kn (PS W d e D 1 (appGet 0 1 (fun _ => ex0) (fillGet ex0 [(0, .agg (KID.c (.plain e)))])) _) = kn (PS W d e D 1 (getX [.plain e]) _)
        rw [h0]; exact congrArg (fun g => kn (PS W d e D 1 g 1)) h1
    | succ q =>
      have hi : q + 1 ≤ W := hi
      refine (par_r T L wv 9 W d e D q (getX (List.replicate (q + 1) (kidOf 3 e))) (q + 1) kn k).trans ?_
      by_cases hq : q + 1 < W
      · rw [decide_eq_true (show ((q + 1 : Nat) : Int) < (W : Int) by omega), cond_true]
        have h1 := getX_app (List.replicate (q + 1) (kidOf 3 e)) (kidOf 3 e)
        rw [List.length_replicate, ← List.replicate_succ'] at h1
        have hk := hk (q + 1 + 1) (by show q + 1 + 1 ≤ W; omega) (by omega)
        refine Eq.trans ?_ hk
        have hr : (roomy 88 (q + 1 + 1) && Nat.beq (q + 1) (q + 1)) = true := by
          rw [Nat.beq_refl, Bool.and_true]
          unfold roomy
          exact Nat.ble_eq_true_of_le (by omega)
        rw [hr, wrap_next (n := W) (by omega) (by omega)]
        show _ = kn (PS W d e D (q + 1 + 1) (getX (List.replicate (q + 1 + 1) (kidOf 3 e))) ((q + 1 + 1 : Nat) : Int))
        rw [← h1]
        generalize getX (List.replicate (q + 1) (kidOf 3 e)) = get
        unfold kidOf
        cases hb : (e.op == 3) with
        | true => rfl
        | false => rfl
      · rw [decide_eq_false (show ¬ ((q + 1 : Nat) : Int) < (W : Int) by omega), cond_false]
        have : W = q + 1 := by omega
        subst this
        rfl
end
section
variable (W : Nat) (dn : Nat) (e : EXP) (t : EXP)
def nvOf : NV := match dn with
  | 0 => ⟨e, W, t, true, 0⟩
  | q + 1 => ⟨e, W, t, false, q⟩
def S2 : Nat → St
  | 0 => PN W dn e W (getX (List.replicate W (kidOf 3 e))) (eC t) 0
  | q + 1 => PN W dn e W (getX (List.replicate W (kidOf 3 e))) (exK 4 (.sl .fit 5 1 (fillGet ex0 [(0, .agg (NST t q))]))) ((q + 1 : Nat) : Int)
theorem loop2 (h : dn ≤ 11) (T : List Ent) (wv : Vw) : ∀ L, LoopOk (V2.run T 3 [] L [([1, 1, 1, 1, 1, 1, 1, 1, 1], wv)] 9) 9 [1, 1, 1, 1, 1, 1, 1, 1, 0, 1, 0] (mkO (goodS (S2 W dn e t) (· ≤ dn)) (valS (S2 W dn e t) (· ≤ dn) fun _ => nvOf W dn e t) (outP2 dn)) := fun L =>
  loopOk_of (X := V2.run T 3 [] L [([1, 1, 1, 1, 1, 1, 1, 1, 1], wv)] 9) (b := subC (bodyOf V2.P 9) ([1, 1, 1, 1, 1, 1, 1, 1, 0, 1, 0] ++ [0])) (S2 W dn e t) (· ≤ dn) (fun i => dn - i) (fun _ => nvOf W dn e t) (outP2 dn) (by kernel_rfl) 9 fun i hi k kn hk => by
    cases i with
    | zero =>
      refine (par_n0 T L wv 9 W dn e W _ t kn k).trans ?_
      cases dn with
      | zero => rfl
      | succ q =>
        rw [decide_eq_true (show (0 : Int) < ((q + 1 : Nat) : Int) by omega), cond_true]
        exact hk 1 (by show 1 ≤ q + 1; omega) (by omega)
    | succ i =>
      have hi : i + 1 ≤ dn := hi
      refine (par_n T L wv 9 W dn e W _ (fillGet ex0 [(0, .agg (NST t i))]) (i + 1) kn k).trans ?_
      by_cases hq : i + 1 < dn
      · rw [decide_eq_true (show ((i + 1 : Nat) : Int) < (dn : Int) by omega), cond_true, wrap_next (n := dn) (by omega) (by omega)]
        exact hk (i + 1 + 1) (by show i + 1 + 1 ≤ dn; omega) (by omega)
      · rw [decide_eq_false (show ¬ ((i + 1 : Nat) : Int) < (dn : Int) by omega), cond_false]
        have : dn = i + 1 := by omega
        subst this
        rfl
/-- The nest, as its loop builds it, told. -/
theorem nst_told : ∀ q, Go.Ab.Told (NST t q) (eC (notN q t))
  | 0 => ⟨rfl, expC_keys _ _ _ _ _ _, tells_refl t⟩
  | q + 1 => ⟨rfl, expC_keys _ _ _ _ _ _, tells_exK (ks := [notN q t]) fun j hj => by
      match j, hj with
      | 0, _ =>
        rw [row_eC (by simp)]
        exact (nst_told q).2.2⟩
def qvOf : QV := ⟨e, allX e W, notN dn t, W, dn⟩
def S3 : St := match dn with
  | 0 => PQ W dn e W (getX (List.replicate W (kidOf 3 e))) (eC t)
  | q + 1 => PQ W dn e W (getX (List.replicate W (kidOf 3 e))) (exK 4 (.sl .fit 5 1 (fillGet ex0 [(0, .agg (NST t q))])))
theorem view3 : ViewOk (mkV (goodS (fun _ : Unit => S3 W dn e t) (fun _ => True)) (fun _ => qvOf W dn e t) PV) := by
  have hall : ObjLe (.cells (exK 3 (.sl (.key 44) 5 W (getX (List.replicate W (kidOf 3 e)))))) (.cells (eC (allX e W))) := .cells _ _ ⟨rfl, expC_keys _ _ _ _ _ _, tells_all e W⟩
  have hn := nst_told t dn
  have hw := viewOk_weak (α := Unit) (fun _ => S3 W dn e t) (fun _ => PV (qvOf W dn e t)) (fun _ => True) fun _ _ => by
    cases dn with
    | zero => exact ⟨rfl, .cons _ _ _ _ _ (.same _) (.cons _ _ _ _ _ hall (.cons _ _ _ _ _ (.cells _ _ hn) (.cons _ _ _ _ _ (.same _) .nil)))⟩
    | succ q => exact ⟨rfl, .cons _ _ _ _ _ (.same _) (.cons _ _ _ _ _ hall (.cons _ _ _ _ _ (.cells _ _ hn) (.cons _ _ _ _ _ (.same _) .nil)))⟩
  exact hw
end
theorem loop3 (x : QV) (he : x.e.Ok) (ha : x.a.Ok) (hn : x.n.Ok) (T : List Ent) (wv : Vw) : ∀ L, LoopOk (V2.run (entF 48 eA EXP.Ok (fun e => countE e 0) φK :: entF 49 eA EXP.Ok rpartsE φK :: entF 15 eA EXP.Ok exprE φE :: entF 16 eA EXP.Ok exprE φE :: T) 3 [] L [([1, 1, 1, 1, 1, 1, 1, 1, 1], wv)] 9) 9 [1, 1, 1, 1, 1, 1, 1, 1, 1, 0, 1, 0] (mkO (goodS (P3 x) (· ≤ 3)) (valS (P3 x) (· ≤ 3) fun _ => x) outP3) := fun L =>
  loopOk_of (X := V2.run (entF 48 eA EXP.Ok (fun e => countE e 0) φK :: entF 49 eA EXP.Ok rpartsE φK :: entF 15 eA EXP.Ok exprE φE :: entF 16 eA EXP.Ok exprE φE :: T) 3 [] L [([1, 1, 1, 1, 1, 1, 1, 1, 1], wv)] 9) (b := subC (bodyOf V2.P 9) ([1, 1, 1, 1, 1, 1, 1, 1, 1, 0, 1, 0] ++ [0])) (P3 x) (· ≤ 3) (fun i => 3 - i) (fun _ => x) outP3 (by kernel_rfl) 9 fun i hi k kn hk => by
    have hc : ∀ {e : EXP}, (bif (((countE e 0 : Nat)) : Int) != ((rpartsE e : Nat) : Int) then true else exprE e != exprE e) = false := fun {e} => by
      rw [parts_same e]; simp
    match i, hi with
    | 0, _ =>
      refine (par_l0 (gF eA EXP.Ok) (gF eA EXP.Ok) (gF eA EXP.Ok) (gF eA EXP.Ok) (vF eA EXP.Ok fun e => countE e 0) (vF eA EXP.Ok rpartsE) (vF eA EXP.Ok exprE) (vF eA EXP.Ok exprE) T L wv 9 x kn k (vE_eq he) (vE_eq he) (vE_eq he) (vE_eq he)).trans ?_
      rw [gE_eq he, hc]
      exact hk 1 (by show 1 ≤ 3; omega) (by show 3 - 1 < 3 - 0; omega)
    | 1, _ =>
      refine (par_l1 (gF eA EXP.Ok) (gF eA EXP.Ok) (gF eA EXP.Ok) (gF eA EXP.Ok) (vF eA EXP.Ok fun e => countE e 0) (vF eA EXP.Ok rpartsE) (vF eA EXP.Ok exprE) (vF eA EXP.Ok exprE) T L wv 9 x kn k (vE_eq ha) (vE_eq ha) (vE_eq ha) (vE_eq ha)).trans ?_
      rw [gE_eq ha, hc]
      exact hk 2 (by show 2 ≤ 3; omega) (by show 3 - 2 < 3 - 1; omega)
    | 2, _ =>
      refine (par_l2 (gF eA EXP.Ok) (gF eA EXP.Ok) (gF eA EXP.Ok) (gF eA EXP.Ok) (vF eA EXP.Ok fun e => countE e 0) (vF eA EXP.Ok rpartsE) (vF eA EXP.Ok exprE) (vF eA EXP.Ok exprE) T L wv 9 x kn k (vE_eq hn) (vE_eq hn) (vE_eq hn) (vE_eq hn)).trans ?_
      rw [gE_eq hn, hc]
      exact hk 3 (by show 3 ≤ 3; omega) (by show 3 - 3 < 3 - 2; omega)
    | 3, _ => exact par_l3 (gF eA EXP.Ok) (gF eA EXP.Ok) (gF eA EXP.Ok) (gF eA EXP.Ok) (vF eA EXP.Ok fun e => countE e 0) (vF eA EXP.Ok rpartsE) (vF eA EXP.Ok exprE) (vF eA EXP.Ok exprE) T L wv 9 x kn k
    | i + 4, hi => exact absurd hi (by show ¬ i + 4 ≤ 3; omega)
end Go.SH

namespace Go.SH
open Go Go.Ab Go.Proofs
set_option linter.unusedVariables false
set_option linter.unusedSimpArgs false
def mP (x : Int × Int) : Prop := 1 ≤ x.2 ∧ x.2 ≤ 1000000
def mPost (x : Int × Int) (z : Int) : Prop := 0 ≤ z ∧ z < x.2
theorem mPost_kind (a b : Int × Int) (z : Int) (h : mA a = mA b) (_ : (fun _ : Int × Int => ([] : List AO)) a = (fun _ => []) b) (hz : mPost a z) : mPost b z := by
  simp only [mA, List.cons.injEq, AV.int.injEq, true_and, and_true] at h
  unfold mPost at *
  rw [← h.2]; exact hz
/-- The last line of the law. -/
theorem last_true {e t : EXP} {W dn : Nat} (h2 : 2 ≤ W) (h13 : W ≤ 13) (hd : dn ≤ 11) (ht : testOk t) (hv : VE 8 (wideK e)) (ho : (wideK e).op ≠ 3) :
    (bif (exprE (notN dn t) == 0) == decide ((dn : Int) < 10) then (exprE (allX e W) == 0) == bif decide ((W : Int) ≤ 12) then decide (((countE (allX e W) 0 : Nat) : Int) ≤ 60) else false else false) = true := by
  have h1 := nest_law ht hd
  have h3 := all_law hv ho h2 h13
  have e1 : decide ((dn : Int) < 10) = decide (dn < 10) := decide_eq_decide.2 (by omega)
  have e2 : decide ((W : Int) ≤ 12) = decide (W ≤ 12) := decide_eq_decide.2 (by omega)
  have e3 : decide (((countE (allX e W) 0 : Nat) : Int) ≤ 60) = decide (countE (allX e W) 0 ≤ 60) := decide_eq_decide.2 (by omega)
  rw [h1, h3, e1, e2, e3]
  cases decide (dn < 10) <;> cases decide (W ≤ 12) <;> cases decide (countE (allX e W) 0 ≤ 60) <;> rfl
theorem cT {α : Sort _} {b : Bool} {x y : α} (h : b = true) : cond b x y = x := by rw [h]; rfl
theorem cF {α : Sort _} {b : Bool} {x y : α} (h : b = false) : cond b x y = y := by rw [h]; rfl
theorem sparts_ok {n : Nat} {g : Nat → Int} (hg : ∀ j, j < n → 0 ≤ g j ∧ g j < 256) (wide deep : Int) : Ct V2.P V2.G 9 [.sl .no 1 n fun j => [.int .u8 (g j)], .int .i64 wide, .int .i64 deep] [] (φB true) := by
  obtain ⟨C0, hC0, hnew⟩ := new_ok hg (m := 120) (by omega) (by omega)
  obtain ⟨wx, hwx, htx⟩ := ent_ex (V := V2) (f := 13) (A := xA 4) (O := cO) (Pre := CODES.Ok) (φ := φC) (Post := fun (_ : CODES) (x : EXP × CODES) => xPost 7 x) (xpr_ex 3 (by omega))
  obtain ⟨wt, hwt, htt⟩ := ent_ex (V := V2) (f := 47) (A := cA) (O := cO) (Pre := CODES.Ok) (φ := φC) (Post := fun (_ : CODES) (x : EXP × CODES) => tPost x) testC_ex
  obtain ⟨wm, hwm, htm⟩ := ent_ex (V := V2) (f := 27) (A := mA) (O := fun _ => []) (Pre := mP) (φ := φE) (Post := mPost) mod_ex
  have gx : goodA (xA 4) cO CODES.Ok [.ref 1000000 0, .sl .fit 0 0 fun x => [], .int .i64 4] [codO C0] = true := xA_good hC0
  have px : xPost 7 (valA (xA 4) cO CODES.Ok wx [.ref 1000000 0, .sl .fit 0 0 fun x => [], .int .i64 4] [codO C0]) := xA_post hwx hC0
  generalize hx : valA (xA 4) cO CODES.Ok wx [.ref 1000000 0, .sl .fit 0 0 fun x => [], .int .i64 4] [codO C0] = x at px
  obtain ⟨e, D⟩ := x
  obtain ⟨⟨pv, pe⟩, pD⟩ := px
  have pD : D.Ok := pD
  have gt : goodA cA cO CODES.Ok [.ref 1000000 0] [codO D] = true := goodA_eq (A := cA) (O := cO) (v := D) pD
  have pt : tPost (valA cA cO CODES.Ok wt [.ref 1000000 0] [codO D]) := valA_post (A := cA) (O := cO) (a := D) (Post := fun (_ : CODES) (x : EXP × CODES) => tPost x) hwt (fun _ _ _ _ _ h => h) pD
  generalize ht : valA cA cO CODES.Ok wt [.ref 1000000 0] [codO D] = tt at pt
  obtain ⟨t, D2⟩ := tt
  have gm : ∀ z : Int, goodA mA (fun _ => []) mP [.int .i64 z, .int .i64 12] [] = true := fun z => goodA_eq (A := mA) (O := fun _ => []) (v := (z, 12)) ⟨by show (1 : Int) ≤ 12; omega, by show (12 : Int) ≤ 1000000; omega⟩
  have pm : ∀ z : Int, mPost (z, 12) (valA mA (fun _ => []) mP wm [.int .i64 z, .int .i64 12] []) := fun z => valA_post (A := mA) (O := fun _ => []) (a := (z, 12)) (Post := mPost) hwm mPost_kind ⟨by show (1 : Int) ≤ 12; omega, by show (12 : Int) ≤ 1000000; omega⟩
  obtain ⟨w0, w1⟩ := pm wide
  obtain ⟨d0, d1⟩ := pm deep
  generalize hw : valA mA (fun _ => []) mP wm [.int .i64 wide, .int .i64 12] [] = z1 at w0 w1
  generalize hd : valA mA (fun _ => []) mP wm [.int .i64 deep, .int .i64 12] [] = z2 at d0 d1
  have w1 : z1 < 12 := w1
  have d1 : z2 < 12 := d1
  obtain ⟨W, hW⟩ : ∃ W : Nat, (2 + z1) = (W : Int) := ⟨(2 + z1).toNat, by omega⟩
  obtain ⟨dn, hdn⟩ : ∃ d : Nat, z2 = (d : Int) := ⟨z2.toNat, by omega⟩
  have hwr : IntKind.wrap .i64 (2 + z1) = (W : Int) := by rw [hW]; exact wrap_i64 (by omega) (by omega)
  subst hdn
  have h2 : 2 ≤ W := by omega
  have h13 : W ≤ 13 := by omega
  have h11 : dn ≤ 11 := by omega
  have hk := wideK_ok pv pe D pD
  have qe : (qvOf W dn e t).e.Ok := pe
  have qa : (qvOf W dn e t).a.Ok := all_ok h13 hk.2.2
  have qn : (qvOf W dn e t).n.Ok := notN_ok pt.1.2.2 dn
  let T : List Ent := [ent1 10 [] true φB, ent1 12 [.sl .no 1 n fun j => [.int .u8 (g j)], .int .i64 120] C0 φNew, entC 13 (xA 4) cO CODES.Ok wx φC, entC 47 cA cO CODES.Ok wt φC, entC 27 mA (fun _ => []) mP wm φE]
  have hfin := last_true h2 h13 h11 pt.1 hk.1 hk.2.1
  refine ct_of_run (V := V2) (n := 9) (d := 3) (C := []) (T := entF 48 eA EXP.Ok (fun e => countE e 0) φK :: entF 49 eA EXP.Ok rpartsE φK :: entF 15 eA EXP.Ok exprE φE :: entF 16 eA EXP.Ok exprE φE :: T)
    (L := [([1, 1, 1, 1, 1, 1, 0, 1, 0], mkO (goodS (S1 W dn e D) (· ≤ W)) (valS (S1 W dn e D) (· ≤ W) fun _ => ((e, D), W, (dn : Int))) outP1), ([1, 1, 1, 1, 1, 1, 1, 1, 0, 1, 0], mkO (goodS (S2 W dn e t) (· ≤ dn)) (valS (S2 W dn e t) (· ≤ dn) fun _ => nvOf W dn e t) (outP2 dn)), ([1, 1, 1, 1, 1, 1, 1, 1, 1, 0, 1, 0], mkO (goodS (P3 (qvOf W dn e t)) (· ≤ 3)) (valS (P3 (qvOf W dn e t)) (· ≤ 3) fun _ => qvOf W dn e t) outP3)])
    (W := [([1, 1, 1, 1, 1, 1, 1, 1, 1], mkV (goodS (fun _ : Unit => S3 W dn e t) (fun _ => True)) (fun _ => qvOf W dn e t) PV)])
    mixed2 funcs2 (tabOk_cons (entF_ok eA_48) (tabOk_cons (entF_ok eA_49) (tabOk_cons (entF_ok eA_15) (tabOk_cons (entF_ok eA_16) (tabOk_cons (ent1_ok (Ct.v2 awake_ok)) (tabOk_cons (ent1_ok hnew) (tabOk_cons htx (tabOk_cons htt (tabOk_cons htm tabOk_nil)))))))))
    (fun _ h => (List.not_mem_nil h).elim)
    (loopsOk_cons (loop1 dn e D W h2 h13 _ _ _) (loopsOk_cons (loop2 W dn e t h11 _ _ _) (loopsOk_cons (loop3 (qvOf W dn e t) qe qa qn T _ _) loopsOk_nil)))
    (fun q hq => by simp at hq; subst hq; exact view3 W dn e t) ?_
  have hs1 : goodS (S1 W dn e D) (· ≤ W) (S1 W dn e D 0) = true := goodS_eq (S := S1 W dn e D) (v := 0) (Nat.zero_le _)
  have vs1 : valS (S1 W dn e D) (· ≤ W) (fun _ => ((e, D), W, (dn : Int))) (S1 W dn e D 0) = ((e, D), W, (dn : Int)) := valS_eq (S := S1 W dn e D) (v := 0) (fun _ _ _ _ _ => rfl) (Nat.zero_le _)
  have hs2 : goodS (S2 W dn e t) (· ≤ dn) (S2 W dn e t 0) = true := goodS_eq (S := S2 W dn e t) (v := 0) (Nat.zero_le _)
  have vs2 : valS (S2 W dn e t) (· ≤ dn) (fun _ => nvOf W dn e t) (S2 W dn e t 0) = nvOf W dn e t := valS_eq (S := S2 W dn e t) (v := 0) (fun _ _ _ _ _ => rfl) (Nat.zero_le _)
  have hs3 : goodS (fun _ : Unit => S3 W dn e t) (fun _ => True) (S3 W dn e t) = true := goodS_eq (S := fun _ : Unit => S3 W dn e t) (v := ()) trivial
  have hs4 : goodS (P3 (qvOf W dn e t)) (· ≤ 3) (P3 (qvOf W dn e t) 0) = true := goodS_eq (S := P3 (qvOf W dn e t)) (v := 0) (Nat.zero_le _)
  have vs4 : valS (P3 (qvOf W dn e t)) (· ≤ 3) (fun _ => qvOf W dn e t) (P3 (qvOf W dn e t) 0) = qvOf W dn e t := valS_eq (S := P3 (qvOf W dn e t)) (v := 0) (fun _ _ _ _ _ => rfl) (Nat.zero_le _)
  have h := par_m (g1 []) (g1 [.sl .no 1 n fun j => [.int .u8 (g j)], .int .i64 120]) (goodA (xA 4) cO CODES.Ok) (goodA cA cO CODES.Ok) (gF eA EXP.Ok) (gF eA EXP.Ok) (gF eA EXP.Ok) (gF eA EXP.Ok) (goodA mA (fun _ => []) mP) (v1 [] true) (v1 [.sl .no 1 n fun j => [.int .u8 (g j)], .int .i64 120] C0) (valA (xA 4) cO CODES.Ok wx) (valA cA cO CODES.Ok wt) (vF eA EXP.Ok fun e => countE e 0) (vF eA EXP.Ok rpartsE) (vF eA EXP.Ok exprE) (vF eA EXP.Ok exprE) (valA mA (fun _ => []) mP wm) []
    (goodS (S1 W dn e D) (· ≤ W)) (goodS (S2 W dn e t) (· ≤ dn)) (goodS (fun _ : Unit => S3 W dn e t) (fun _ => True)) (goodS (P3 (qvOf W dn e t)) (· ≤ 3)) (valS (S1 W dn e D) (· ≤ W) fun _ => ((e, D), W, (dn : Int))) (valS (S2 W dn e t) (· ≤ dn) fun _ => nvOf W dn e t) dn (fun _ => qvOf W dn e t) (valS (P3 (qvOf W dn e t)) (· ≤ 3) fun _ => qvOf W dn e t) n g wide deep
    (t1 := C0) (v1_eq _ _) (t2 := (e, D)) hx (t3 := z1) hw (t4 := (dn : Int)) hd (t5 := ((e, D), W, (dn : Int))) (by rw [hwr]; exact vs1) (t6 := (t, D2)) ht (t7 := nvOf W dn e t) vs2
    (t8 := qvOf W dn e t) rfl (t9 := qvOf W dn e t) vs4 (t10 := exprE (notN dn t)) (vE_eq qn) (t11 := exprE (allX e W)) (vE_eq qa) (t12 := countE (allX e W) 0) (vE_eq qa)
    (t13 := qvOf W dn e t) rfl (t14 := qvOf W dn e t) vs4 (t15 := exprE (notN dn t)) (vE_eq qn) (t16 := exprE (allX e W)) (vE_eq qa) (t17 := countE (allX e W) 0) (vE_eq qa)
  refine h.trans ?_
  refine (cT (g1_eq [])).trans ?_
  refine (cF (by rw [v1_eq]; rfl)).trans ?_
  refine (cT (g1_eq _)).trans ?_
  refine (cT gx).trans ?_
  refine (cT (gm wide)).trans ?_
  refine (cT (gm deep)).trans ?_
  refine (cT (by rw [hwr]; exact hs1)).trans ?_
  refine (cT gt).trans ?_
  refine (cT hs2).trans ?_
  cases dn with
  | zero =>
    refine (cT rfl).trans ?_
    refine (cT hs3).trans ?_
    refine (cT hs4).trans ?_
    refine (cT (gE_eq qn)).trans ?_
    refine (cT (gE_eq qa)).trans ?_
    refine (cT (gE_eq qa)).trans ?_
    exact congrArg (fun b => some (AV.bool b, ([] : List AO))) hfin
  | succ q =>
    refine (cF rfl).trans ?_
    refine (cT hs3).trans ?_
    refine (cT hs4).trans ?_
    refine (cT (gE_eq qn)).trans ?_
    refine (cT (gE_eq qa)).trans ?_
    refine (cT (gE_eq qa)).trans ?_
    exact congrArg (fun b => some (AV.bool b, ([] : List AO))) hfin
end Go.SH

namespace Go.Ab
open Go Go.RowKit Go.ChangeShapes
mutual
/-- The bulk of a datum. -/
def bulkD {H : Type} : DataW H → Nat
  | .lit (.string bytes) => bytes.length + 1
  | .lit _ => 1
  | .nil => 1
  | .ptr d => bulkD d + 1
  | .slice elems spare => bulkL elems + bulkL spare + 1
  | .agg parts => bulkL parts + 1
  | .iface _ d => bulkD d + 1
  | .map entries => bulkM entries + 1
  | .held _ => 1
def bulkL {H : Type} : List (DataW H) → Nat
  | [] => 0
  | d :: r => bulkD d + bulkL r
def bulkM {H : Type} : List (Lit × DataW H) → Nat
  | [] => 0
  | x :: r => bulkE x + bulkM r
def bulkE {H : Type} : Lit × DataW H → Nat
  | (.string bytes, d) => bytes.length + bulkD d + 1
  | (_, d) => bulkD d + 1
end
theorem bulkD_pos {H : Type} (d : DataW H) : 1 ≤ bulkD d := by
  cases d with
  | lit l => cases l <;> simp [bulkD]
  | _ => simp [bulkD]
theorem bulkL_len {H : Type} : ∀ l : List (DataW H), l.length ≤ bulkL l
  | [] => by simp [bulkL]
  | d :: r => by have := bulkD_pos d; have := bulkL_len r; simp only [List.length_cons, bulkL]; omega
theorem bulkL_at {H : Type} : ∀ {l : List (DataW H)} {i : Nat} {d : DataW H}, l[i]? = some d → bulkD d ≤ bulkL l
  | [], _, _, h => by simp at h
  | e :: r, 0, d, h => by simp at h; subst h; simp only [bulkL]; omega
  | e :: r, i + 1, d, h => by have := bulkL_at (l := r) (i := i) (by simpa using h); simp only [bulkL]; omega

/-- These cells stand for these values. -/
structure CellsR (c : Cx) (us : List AV) (vs : List Value) : Prop where
  len : vs.length = us.length
  one : ∀ u ∈ us, u.one = true ∧ u.keys = []
  rep : ∀ (i : Nat) (u : AV), us[i]? = some u → Rep c u (vs.getD i undef)
theorem keysL_nil : ∀ {us : List AV}, (∀ u ∈ us, u.keys = []) → keysL us = []
  | [], _ => rfl
  | u :: r, h => by rw [keysL, h u (by simp), keysL_nil fun v hv => h v (List.mem_cons_of_mem _ hv)]; rfl
theorem CellsR.nil (c : Cx) : CellsR c [] [] := ⟨rfl, fun _ h => by simp at h, fun i u h => by simp at h⟩
theorem CellsR.append {c : Cx} {us us' : List AV} {vs vs' : List Value} (h : CellsR c us vs) (h' : CellsR c us' vs') : CellsR c (us ++ us') (vs ++ vs') := by
  refine ⟨by simp [h.len, h'.len], fun u hu => ?_, fun i u hu => ?_⟩
  · rcases List.mem_append.1 hu with hu | hu
    · exact h.one u hu
    · exact h'.one u hu
  · by_cases hi : i < us.length
    · rw [List.getElem?_append_left hi] at hu
      have := h.rep i u hu
      rw [List.getD_eq_getElem?_getD] at this ⊢
      rwa [List.getElem?_append_left (by rw [h.len]; exact hi)]
    · rw [List.getElem?_append_right (by omega)] at hu
      have := h'.rep _ u hu
      rw [List.getD_eq_getElem?_getD] at this ⊢
      rw [List.getElem?_append_right (by rw [h.len]; omega), h.len]
      exact this
theorem CellsR.one1 {c : Cx} {u : AV} {v : Value} (h1 : u.one = true) (h2 : u.keys = []) (h : Rep c u v) : CellsR c [u] [v] :=
  ⟨rfl, fun x hx => by simp at hx; subst hx; exact ⟨h1, h2⟩, fun i x hx => by
    cases i with
    | zero => simp at hx; subst hx; exact h
    | succ i => simp at hx⟩
theorem CellsR.agg {c : Cx} {us : List AV} {vs : Array Value} (h : CellsR c us vs.toList) : Rep c (.agg us) (.agg vs) ∧ (AV.agg us).keys = [] := by
  refine ⟨.agg _ _ (by simpa using h.len) (fun i u hu => (h.one u (List.mem_of_getElem? hu)).1) (fun i u hu => ?_), ?_⟩
  · have := h.rep i u hu
    rw [List.getD_eq_getElem?_getD] at this
    rw [Array.getD_eq_getD_getElem?]
    simpa using this
  · simp only [AV.keys]
    exact keysL_nil fun u hu => (h.one u hu).2

section
variable {H : Type} (enc : TypeId × Value → H) (P : Program) (w : World) (N : Nat)
variable {α β : Type}
/-- What stands at type t in n levels is read as one of a family. -/
def Reads (n : Nat) (t : TypeId) (cl : α → List AV) (Ok : α → Prop) : Prop :=
  ∀ cs x, DataW.trod enc P w 0 (fun _ => true) true n t cs = some x → bulkD x.1 ≤ N → ∃ a, CellsR (startCx w) (cl a) cs ∧ Ok a
/-- The same of a struct's fields from one place on. -/
def ReadsF (n : Nat) (fs : List Field) (off len : Nat) (cl : α → List AV) (Ok : α → Prop) : Prop :=
  ∀ (cs : List Value) (xs : List (DataW H × List MemPlace)), xs.length = fs.length → off + len ≤ cs.length →
    (∀ (i : Nat) (f : Field), fs[i]? = some f → DataW.trod enc P w 0 (fun _ => true) true n f.type ((cs.drop f.offset).take (P.cellsOf f.type)) = xs[i]?) →
    bulkL (xs.map (·.1)) ≤ N → ∃ a, CellsR (startCx w) (cl a) ((cs.drop off).take len) ∧ Ok a
variable {enc P w N}
theorem Reads.map {n : Nat} {t : TypeId} {cl : α → List AV} {Ok : α → Prop} {cl' : β → List AV} {Ok' : β → Prop} (h : Reads enc P w N n t cl Ok) (g : α → β) (hc : ∀ a, cl' (g a) = cl a) (ho : ∀ a, Ok a → Ok' (g a)) : Reads enc P w N n t cl' Ok' := fun cs x hx hb => by
  obtain ⟨a, h1, h2⟩ := h cs x hx hb
  exact ⟨g a, by rw [hc]; exact h1, ho a h2⟩
theorem reads_int {n : Nat} {t : TypeId} {k : IntKind} (ht : P.underlying t = some (.int k)) : Reads enc P w N n t (fun z : Int => [.int k z]) (fun z => (Lit.int k z).wf = true) := fun cs x hx hb => by
  obtain ⟨z, rfl, rfl, hw⟩ := DataW.trod_int ht hx
  exact ⟨z, .one1 rfl rfl (.int _ _), hw⟩
theorem reads_bool {n : Nat} {t : TypeId} (ht : P.underlying t = some .bool) : Reads enc P w N n t (fun z : Bool => [.bool z]) (fun _ => True) := fun cs x hx hb => by
  obtain ⟨z, rfl, rfl⟩ := DataW.trod_bool ht hx
  exact ⟨z, .one1 rfl rfl (.bool _), trivial⟩
theorem reads_str {n : Nat} {t : TypeId} (ht : P.underlying t = some .string) : Reads enc P w N n t (fun s : List UInt8 => [.str s]) (fun s => s.length ≤ maxLen ∧ s.length + 1 ≤ N) := fun cs x hx hb => by
  obtain ⟨s, rfl, rfl, hs⟩ := DataW.trod_string ht hx
  simp only [bulkD] at hb
  refine ⟨s.data.toList, .one1 rfl rfl ?_, by rw [Array.length_toList]; exact hs, hb⟩
  have := Rep.str (c := startCx w) s.data.toList
  rwa [Array.toArray_toList] at this
theorem readsF_nil {n off : Nat} : ReadsF enc P w N n [] off 0 (fun _ : Unit => []) (fun _ => True) := fun cs xs _ _ _ _ => ⟨(), by rw [List.take_zero]; exact .nil _, trivial⟩
theorem readsF_cons {n off n1 n2 : Nat} {f : Field} {fs : List Field} {cl1 : α → List AV} {Ok1 : α → Prop} {cl2 : β → List AV} {Ok2 : β → Prop} (h1 : Reads enc P w N n f.type cl1 Ok1) (ho : f.offset = off) (hn : P.cellsOf f.type = n1)
    (h2 : ReadsF enc P w N n fs (off + n1) n2 cl2 Ok2) : ReadsF enc P w N n (f :: fs) off (n1 + n2) (fun p : α × β => cl1 p.1 ++ cl2 p.2) (fun p => Ok1 p.1 ∧ Ok2 p.2) := fun cs xs hl hlen hx hb => by
  cases xs with
  | nil => simp at hl
  | cons x xs =>
    simp only [List.map_cons, bulkL] at hb
    have hx0 := hx 0 f rfl
    rw [ho, hn] at hx0
    obtain ⟨a, e1, e2⟩ := h1 _ x (by simpa using hx0) (by omega)
    obtain ⟨b, g1, g2⟩ := h2 cs xs (by simpa using hl) (by omega) (fun i f' hf => by simpa using hx (i + 1) f' (by simpa using hf)) (by omega)
    refine ⟨(a, b), ?_, e2, g2⟩
    rw [List.take_add, List.drop_drop]
    exact e1.append g1
theorem reads_struct {n : Nat} {t : TypeId} {fs : Array Field} {sz : Nat} {cl : α → List AV} {Ok : α → Prop} (ht : P.underlying t = some (.struct fs)) (hz : P.cellsOf t = sz) (h : ∀ m, n = m + 1 → ReadsF enc P w N m fs.toList 0 sz cl Ok) : Reads enc P w N n t cl Ok := fun cs x hx hb => by
  obtain ⟨xs, m, rfl, rfl, hl, hxl, hf⟩ := DataW.trod_struct ht hx
  simp only [bulkD] at hb
  obtain ⟨a, h1, h2⟩ := h m rfl cs xs (by simpa using hxl) (by omega) (fun i f hi => hf i f (by simpa using hi)) (by omega)
  refine ⟨a, ?_, h2⟩
  rw [List.drop_zero, List.take_of_length_le (by omega)] at h1
  exact h1
theorem mapM_at {γ δ : Type} {f : γ → Option δ} : ∀ {l : List γ} {r : List δ}, l.mapM f = some r → r.length = l.length ∧ ∀ (i : Nat) (a : γ), l[i]? = some a → f a = r[i]?
  | [], r, h => by simp at h; subst h; simp
  | x :: l, r, h => by
    simp only [List.mapM_cons, Option.bind_eq_bind, Option.bind_eq_some_iff, Option.pure_def, Option.some.injEq] at h
    obtain ⟨y, hy, ys, hys, rfl⟩ := h
    obtain ⟨h1, h2⟩ := mapM_at hys
    refine ⟨by simp [h1], fun i a ha => ?_⟩
    cases i with
    | zero => simp at ha; subst ha; simpa using hy
    | succ i => simpa using h2 i a (by simpa using ha)
theorem cells?_at {a : Addr} {n : Nat} {cs : List Value} (h : w.cells? 0 a n = some cs) : cs.length = n ∧ ∀ i, i < n → w.cell? (a.add i) = cs[i]? := by
  unfold World.cells? at h
  rw [if_pos (Nat.zero_le _)] at h
  obtain ⟨h1, h2⟩ := mapM_at h
  refine ⟨by simpa using h1, fun i hi => ?_⟩
  exact h2 i i (by simp [hi])
open Classical in
theorem reads_slice {n : Nat} {t e : TypeId} {sz : Nat} [Inhabited α] {cl : α → List AV} {Ok : α → Prop} (get : List α → Nat → List AV) (ht : P.underlying t = some (.slice e)) (hz : P.cellsOf e = sz) (hp : 0 < sz) (hlen : ∀ a, (cl a).length = sz)
    (hget : ∀ (l : List α) j, j < l.length → get l j = cl (l.getD j default)) (h : ∀ m, n = m + 1 → Reads enc P w N m e cl Ok) :
    Reads enc P w N n t (fun l : List α => [.sl .no sz l.length (get l)]) (fun l => l.length ≤ maxLen ∧ l.length + 1 ≤ N ∧ ∀ a ∈ l, Ok a) := fun cs x hx hb => by
  rcases DataW.trod_slice ht hx with ⟨rfl, rfl⟩ | ⟨ad, len, cap, elems, rest, m, rfl, rfl, rfl, _, hle, hcap, hel, hat, hsp, _⟩
  · refine ⟨[], .one1 rfl rfl ?_, by simp, by simpa [bulkD] using hb, by simp⟩
    exact .slNil .no sz _ trivial
  · simp only [bulkD] at hb
    rw [hz] at hat hsp
    have hb1 : elems.length ≤ bulkL (elems.map (·.1)) := by have := bulkL_len (elems.map (·.1)); simpa using this
    -- each element
    have hel1 : ∀ i, i < len → ∃ vs y a, elems[i]? = some y ∧ w.cells? 0 (ad.add (i * sz)) sz = some vs ∧ CellsR (startCx w) (cl a) vs ∧ Ok a := by
      intro i hi
      have hi' : i < elems.length := by omega
      have := hat i hi
      rw [List.getElem?_eq_getElem hi', Option.bind_eq_some_iff] at this
      obtain ⟨vs, h1, h2⟩ := this
      have hbi : bulkD (elems[i]).1 ≤ bulkL (elems.map (·.1)) := bulkL_at (i := i) (by simp [List.getElem?_eq_getElem hi'])
      obtain ⟨a, h3, h4⟩ := h m rfl vs _ h2 (by omega)
      exact ⟨vs, _, a, List.getElem?_eq_getElem hi', h1, h3, h4⟩
    -- the address has no spot
    have hspot : 0 < cap → ad.spot = none := by
      intro hc
      have : ∃ vs, w.cells? 0 (ad.add (0 * sz)) sz = some vs := by
        by_cases h0 : 0 < len
        · obtain ⟨vs, _, _, _, h2, _⟩ := hel1 0 h0
          exact ⟨vs, h2⟩
        · obtain rfl : len = 0 := by omega
          have h1 := (hsp rfl).2 0 (by omega)
          have h2 := (hsp rfl).1
          cases hr : rest with
          | nil => rw [hr] at h2; simp at h2; omega
          | cons y r =>
            rw [hr] at h1
            simp only [List.getElem?_cons_zero, Option.bind_eq_some_iff] at h1
            obtain ⟨vs, h3, _⟩ := h1
            exact ⟨vs, by simpa using h3⟩
      obtain ⟨vs, h2⟩ := this
      obtain ⟨h3, h4⟩ := cells?_at h2
      have h5 := h4 0 hp
      rw [Nat.zero_mul] at h5
      have e0 : ((ad.add 0).add 0) = ad := by unfold Addr.add; simp
      rw [e0, List.getElem?_eq_getElem (by omega)] at h5
      exact World.cell?_spot h5
    let l : List α := (List.range len).map fun i => if hi : i < len then (hel1 i hi).choose_spec.choose_spec.choose else default
    have hl : l.length = len := by simp [l]
    have hli : ∀ i (hi : i < len), ∃ vs, w.cells? 0 (ad.add (i * sz)) sz = some vs ∧ CellsR (startCx w) (cl (l.getD i default)) vs ∧ Ok (l.getD i default) := by
      intro i hi
      have e : l.getD i default = (hel1 i hi).choose_spec.choose_spec.choose := by
        simp [l, List.getD, hi]
      rw [e]
      exact ⟨_, (hel1 i hi).choose_spec.choose_spec.choose_spec.2⟩
    have hadd : ∀ i, i < len → ∀ q, q < sz → (ad.add (i * sz)).add q = ⟨ad.block, ad.off + (i * sz + q), none⟩ := by
      intro i hi q _
      have hs := hspot (by omega)
      obtain ⟨b, o, sp⟩ := ad
      simp only at hs
      subst hs
      unfold Addr.add
      by_cases c1 : i * sz = 0
      · by_cases c2 : q = 0 <;> simp [c1, c2]
      · by_cases c2 : q = 0 <;> simp [c1, c2, Nat.add_assoc]
    refine ⟨l, .one1 rfl rfl ?_, by omega, by omega, fun a ha => ?_⟩
    · rw [hl]
      have hgl : ∀ j, j < len → get l j = cl (l.getD j default) := fun j hj => hget l j (by omega)
      have hcell : ∀ (j i : Nat) (u : AV), j < len → (get l j)[i]? = some u → ∃ v, w.cell? ⟨ad.block, ad.off + (j * sz + i), none⟩ = some v ∧ Rep (startCx w) u v := by
        intro j i u hj hu
        rw [hgl j hj] at hu
        obtain ⟨vs, h1, h2, _⟩ := hli j hj
        obtain ⟨g1, g2⟩ := cells?_at h1
        have hi : i < sz := by have := (List.getElem?_eq_some_iff.1 hu).1; rw [hlen] at this; exact this
        have g3 := g2 i hi
        rw [hadd j hj i hi, List.getElem?_eq_getElem (by omega)] at g3
        refine ⟨_, g3, ?_⟩
        have := h2.rep i u hu
        rwa [List.getD_eq_getElem?_getD, List.getElem?_eq_getElem (by omega)] at this
      refine .sl .no sz len (get l) ad cap (fun j i => (w.cell? ⟨ad.block, ad.off + (j * sz + i), none⟩).getD undef) hspot hle trivial (fun j hj => ?_) (fun j i u hj hu => ?_) (fun j i u hj hu => ?_)
      · rw [hgl j hj]
        obtain ⟨vs, _, h2, _⟩ := hli j hj
        exact ⟨hlen _, keysL_nil fun u hu => (h2.one u hu).2⟩
      · obtain ⟨v, h1, _⟩ := hcell j i u hj hu
        have hone : u.one = true := by
          rw [hgl j hj] at hu
          obtain ⟨vs, _, h2, _⟩ := hli j hj
          exact (h2.one u (List.mem_of_getElem? hu)).1
        refine ⟨hone, ?_, v, h1⟩
        show w.cell? _ = _
        rw [h1]; rfl
      · obtain ⟨v, h1, h2⟩ := hcell j i u hj hu
        rw [h1]; exact h2
    · obtain ⟨i, hi, rfl⟩ := List.getElem_of_mem ha
      obtain ⟨_, _, _, h4⟩ := hli i (by omega)
      rwa [List.getD_eq_getElem?_getD, List.getElem?_eq_getElem hi] at h4
end
end Go.Ab

namespace Go.SH
open Go Go.Ab Go.Proofs Go.RowKit
set_option linter.unusedVariables false
set_option linter.unusedSimpArgs false
section
variable {H : Type} {enc : TypeId × Value → H} {w : World}
theorem rdInt (n : Nat) : Reads enc Tryz.prog w 1048576 n 3 (fun z : Int => [.int .i64 z]) (fun _ => True) := (reads_int Tryz.underlying3).map id (fun _ => rfl) fun _ _ => trivial
theorem rdBool (n : Nat) : Reads enc Tryz.prog w 1048576 n 4 (fun z : Bool => [.bool z]) (fun _ => True) := reads_bool Tryz.underlying4
def txt (s : List UInt8) : Prop := s.length ≤ 1048575
theorem rdStr (n : Nat) : Reads enc Tryz.prog w 1048576 n 9 (fun s : List UInt8 => [.str s]) txt := (reads_str Tryz.underlying9).map id (fun _ => rfl) fun s h => by have := h.2; unfold txt; show s.length ≤ _; omega
theorem rdStrs (n : Nat) : Reads enc Tryz.prog w 1048576 n 32 (fun l : List (List UInt8) => [strsA l]) (okL txt) :=
  (reads_slice (e := 9) (sz := 1) (α := List UInt8) (cl := fun s => [.str s]) (Ok := txt) (fun l j => [.str (l.getD j [])]) Tryz.underlying32 (by kernel_rfl) (by omega) (fun _ => rfl) (fun _ _ _ => rfl) (fun m _ => rdStr m)).map id (fun _ => rfl) fun l h => ⟨by have := h.2.1; show l.length ≤ _; omega, h.2.2⟩
theorem txt.len {s : List UInt8} (h : txt s) : lenS s := by unfold txt at h; unfold lenS maxS; omega
theorem okL.strs {l : List (List UInt8)} (h : okL txt l) : strsOk l := ⟨h.big, fun s hs => (h.2 s hs).len⟩
theorem rdVal (n : Nat) : Reads enc Tryz.prog w 1048576 n 58 VAL.c VAL.Ok :=
  (reads_struct (sz := 1 + (1 + (1 + (1 + 0)))) Tryz.underlying58 (by kernel_rfl) fun m _ => readsF_cons (rdInt m) rfl (by kernel_rfl) (readsF_cons (rdInt m) rfl (by kernel_rfl) (readsF_cons (rdStr m) rfl (by kernel_rfl) (readsF_cons (rdStrs m) rfl (by kernel_rfl) readsF_nil)))).map
    (fun p => (⟨p.1, p.2.1, p.2.2.1, p.2.2.2.1⟩ : VAL)) (fun _ => rfl) fun p h => ⟨by have := h.2.2.1; unfold txt at this; show p.2.2.1.length ≤ _; omega, h.2.2.2.1.strs⟩
theorem rdList {α : Type} [Inhabited α] {t e sz : Nat} {cl : α → List AV} {Ok : α → Prop} (n : Nat) (ht : Tryz.prog.underlying t = some (.slice e)) (hz : Tryz.prog.cellsOf e = sz) (hp : 0 < sz) (hl : ∀ a, (cl a).length = sz) (h : ∀ m, Reads enc Tryz.prog w 1048576 m e cl Ok) :
    Reads enc Tryz.prog w 1048576 n t (fun l : List α => [.sl .no sz l.length fun j => cl (l.getD j default)]) (okL Ok) :=
  (reads_slice (fun l j => cl (l.getD j default)) ht hz hp hl (fun _ _ _ => rfl) (fun m _ => h m)).map id (fun _ => rfl) fun l h => ⟨by have := h.2.1; show l.length ≤ _; omega, h.2.2⟩
theorem rdVals (n : Nat) : Reads enc Tryz.prog w 1048576 n 22 (fun l : List VAL => [valL l]) (okL VAL.Ok) := rdList n Tryz.underlying22 (by kernel_rfl) (by omega) (fun _ => rfl) rdVal
theorem EXP.c_len (e : EXP) : e.c.length = 5 := by rw [e.c_eq]; rfl
theorem rdExp : ∀ n : Nat, Reads enc Tryz.prog w 1048576 n 25 EXP.c EXP.Ok := by
  intro n
  induction n using Nat.strongRecOn with
  | ind n ih =>
  have hk : ∀ m, n = m + 1 → Reads enc Tryz.prog w 1048576 m 23 (fun l : List EXP => [.sl .no 5 l.length (EXP.row l)]) (okL EXP.Ok) := fun m hm =>
    (reads_slice (e := 25) (sz := 5) (cl := EXP.c) (Ok := EXP.Ok) EXP.row Tryz.underlying23 (by kernel_rfl) (by omega) EXP.c_len (fun l j h => EXP.row_at h) (fun m' hm' => ih m' (by omega))).map id (fun _ => rfl) fun l h => ⟨by have := h.2.1; show l.length ≤ _; omega, h.2.2⟩
  refine (reads_struct (sz := 1 + (1 + (1 + (1 + (1 + 0))))) Tryz.underlying25 (by kernel_rfl) fun m hm => readsF_cons (rdInt m) rfl (by kernel_rfl) (readsF_cons (rdStr m) rfl (by kernel_rfl) (readsF_cons (rdStr m) rfl (by kernel_rfl) (readsF_cons (rdVals m) rfl (by kernel_rfl) (readsF_cons (hk m hm) rfl (by kernel_rfl) readsF_nil))))).map
    (fun p => EXP.mk p.1 p.2.1 p.2.2.1 p.2.2.2.1 p.2.2.2.2.1) (fun p => by rw [EXP.c_eq]; rfl) fun p h => ?_
  obtain ⟨_, h2, h3, h4, h5, _⟩ := h
  exact .mk _ h2.len h3.len ⟨h4.big, h4.2⟩ h5.1 h5.2
theorem rdPrq (n : Nat) : Reads enc Tryz.prog w 1048576 n 114 PRQ.c (fun p => lenS p.flag) :=
  (reads_struct (sz := 1 + (1 + 0)) Tryz.underlying114 (by kernel_rfl) fun m _ => readsF_cons (rdStr m) rfl (by kernel_rfl) (readsF_cons (rdInt m) rfl (by kernel_rfl) readsF_nil)).map (fun p => (⟨p.1, p.2.1⟩ : PRQ)) (fun _ => rfl) fun p h => h.1.len
theorem rdTgt (n : Nat) : Reads enc Tryz.prog w 1048576 n 117 TGT.c TGT.Ok :=
  (reads_struct (sz := 1 + (1 + (1 + 0))) Tryz.underlying117 (by kernel_rfl) fun m _ => readsF_cons (rdStr m) rfl (by kernel_rfl) (readsF_cons (rdInt m) rfl (by kernel_rfl) (readsF_cons (rdStrs m) rfl (by kernel_rfl) readsF_nil))).map (fun p => (⟨p.1, p.2.1, p.2.2.1⟩ : TGT)) (fun _ => rfl) fun p h => ⟨h.1.len, h.2.2.1.strs⟩
theorem rdRng (n : Nat) : Reads enc Tryz.prog w 1048576 n 52 rngC (fun _ => True) :=
  (reads_struct (sz := 1 + (1 + (1 + 0))) Tryz.underlying52 (by kernel_rfl) fun m _ => readsF_cons (rdInt m) rfl (by kernel_rfl) (readsF_cons (rdInt m) rfl (by kernel_rfl) (readsF_cons (rdInt m) rfl (by kernel_rfl) readsF_nil))).map (fun p => (p.1, p.2.1, p.2.2.1)) (fun _ => rfl) fun p h => trivial
theorem rdCool (n : Nat) : Reads enc Tryz.prog w 1048576 n 128 rngC (fun _ => True) :=
  (reads_struct (sz := 1 + (1 + (1 + 0))) Tryz.underlying128 (by kernel_rfl) fun m _ => readsF_cons (rdInt m) rfl (by kernel_rfl) (readsF_cons (rdInt m) rfl (by kernel_rfl) (readsF_cons (rdInt m) rfl (by kernel_rfl) readsF_nil))).map (fun p => (p.1, p.2.1, p.2.2.1)) (fun _ => rfl) fun p h => trivial
theorem rdSpn (n : Nat) : Reads enc Tryz.prog w 1048576 n 45 spnC (fun _ => True) :=
  (reads_struct (sz := 1 + (1 + 0)) Tryz.underlying45 (by kernel_rfl) fun m _ => readsF_cons (rdInt m) rfl (by kernel_rfl) (readsF_cons (rdInt m) rfl (by kernel_rfl) readsF_nil)).map (fun p => (p.1, p.2.1)) (fun _ => rfl) fun p h => trivial
theorem rdRngs (n : Nat) : Reads enc Tryz.prog w 1048576 n 37 (fun l : List (Int × Int × Int) => [rngL l]) (okL fun _ => True) := rdList n Tryz.underlying37 (by kernel_rfl) (by omega) (fun _ => rfl) rdRng
theorem rdCools (n : Nat) : Reads enc Tryz.prog w 1048576 n 72 (fun l : List (Int × Int × Int) => [rngL l]) (okL fun _ => True) := rdList n Tryz.underlying72 (by kernel_rfl) (by omega) (fun _ => rfl) rdCool
theorem rdSpns (n : Nat) : Reads enc Tryz.prog w 1048576 n 38 (fun l : List (Int × Int) => [spnL l]) (okL fun _ => True) := rdList n Tryz.underlying38 (by kernel_rfl) (by omega) (fun _ => rfl) rdSpn
theorem rdServe (n : Nat) : Reads enc Tryz.prog w 1048576 n 56 SERVE.c SERVE.Ok :=
  (reads_struct (sz := 1 + (1 + (1 + (1 + (1 + 0))))) Tryz.underlying56 (by kernel_rfl) fun m _ => readsF_cons (rdInt m) rfl (by kernel_rfl) (readsF_cons (rdStr m) rfl (by kernel_rfl) (readsF_cons (rdStr m) rfl (by kernel_rfl) (readsF_cons (rdStr m) rfl (by kernel_rfl) (readsF_cons (rdRngs m) rfl (by kernel_rfl) readsF_nil))))).map
    (fun p => (⟨p.1, p.2.1, p.2.2.1, p.2.2.2.1, p.2.2.2.2.1⟩ : SERVE)) (fun _ => rfl) fun p h => ⟨h.2.1.len, h.2.2.1.len, h.2.2.2.1.len, h.2.2.2.2.1.big⟩
theorem rdRule (n : Nat) : Reads enc Tryz.prog w 1048576 n 76 RULE.c RULE.Ok :=
  (reads_struct (sz := 1 + (5 + (5 + 0))) Tryz.underlying76 (by kernel_rfl) fun m _ => readsF_cons (rdStr m) rfl (by kernel_rfl) (readsF_cons (rdExp m) rfl (by kernel_rfl) (readsF_cons (rdServe m) rfl (by kernel_rfl) readsF_nil))).map
    (fun p => (⟨p.1, p.2.1, p.2.2.1⟩ : RULE)) (fun p => by rw [EXP.c_eq]; rfl) fun p h => ⟨h.1.len, h.2.1, h.2.2.1⟩
theorem rdPrqs (n : Nat) : Reads enc Tryz.prog w 1048576 n 61 (fun l : List PRQ => [prqL l]) prqOk := rdList n Tryz.underlying61 (by kernel_rfl) (by omega) (fun _ => rfl) rdPrq
theorem rdTgts (n : Nat) : Reads enc Tryz.prog w 1048576 n 62 (fun l : List TGT => [tgtL l]) (okL TGT.Ok) := rdList n Tryz.underlying62 (by kernel_rfl) (by omega) (fun _ => rfl) rdTgt
theorem rdRules (n : Nat) : Reads enc Tryz.prog w 1048576 n 63 (fun l : List RULE => [rulL l]) (okL RULE.Ok) := rdList n Tryz.underlying63 (by kernel_rfl) (by omega) (fun _ => rfl) rdRule
theorem rdFlag (n : Nat) : Reads enc Tryz.prog w 1048576 n 65 FLAG.c FLAG.Ok :=
  (reads_struct (sz := 1 + (1 + (1 + (1 + (1 + (1 + (1 + (1 + (5 + 0))))))))) Tryz.underlying65 (by kernel_rfl) fun m _ => readsF_cons (rdStr m) rfl (by kernel_rfl) (readsF_cons (rdInt m) rfl (by kernel_rfl) (readsF_cons (rdVals m) rfl (by kernel_rfl) (readsF_cons (rdBool m) rfl (by kernel_rfl) (readsF_cons (rdInt m) rfl (by kernel_rfl) (readsF_cons (rdPrqs m) rfl (by kernel_rfl) (readsF_cons (rdTgts m) rfl (by kernel_rfl) (readsF_cons (rdRules m) rfl (by kernel_rfl) (readsF_cons (rdServe m) rfl (by kernel_rfl) readsF_nil))))))))).map
    (fun p => (⟨p.1, p.2.1, p.2.2.1, p.2.2.2.1, p.2.2.2.2.1, p.2.2.2.2.2.1, p.2.2.2.2.2.2.1, p.2.2.2.2.2.2.2.1, p.2.2.2.2.2.2.2.2.1⟩ : FLAG)) (fun _ => rfl) fun p h => by
      obtain ⟨h1, h2, h3, h4, h5, h6, h7, h8, h9, _⟩ := h
      exact ⟨h1.len, h3, h6, h7, h8, h9⟩
theorem rdSeg (n : Nat) : Reads enc Tryz.prog w 1048576 n 71 SEG.c SEG.Ok :=
  (reads_struct (sz := 1 + (1 + (1 + (1 + (5 + 0))))) Tryz.underlying71 (by kernel_rfl) fun m _ => readsF_cons (rdStr m) rfl (by kernel_rfl) (readsF_cons (rdStr m) rfl (by kernel_rfl) (readsF_cons (rdStrs m) rfl (by kernel_rfl) (readsF_cons (rdStrs m) rfl (by kernel_rfl) (readsF_cons (rdExp m) rfl (by kernel_rfl) readsF_nil))))).map
    (fun p => (⟨p.1, p.2.1, p.2.2.1, p.2.2.2.1, p.2.2.2.2.1⟩ : SEG)) (fun p => by rw [EXP.c_eq]; rfl) fun p h => by
      obtain ⟨h1, h2, h3, h4, h5, _⟩ := h
      exact ⟨h1.len, h2.len, h3.strs, h4.strs, h5⟩
theorem rdLayer (n : Nat) : Reads enc Tryz.prog w 1048576 n 74 LAYER.c LAYER.Ok :=
  (reads_struct (sz := 1 + (1 + (1 + (1 + (1 + (1 + 0)))))) Tryz.underlying74 (by kernel_rfl) fun m _ => readsF_cons (rdStr m) rfl (by kernel_rfl) (readsF_cons (rdStr m) rfl (by kernel_rfl) (readsF_cons (rdStr m) rfl (by kernel_rfl) (readsF_cons (rdInt m) rfl (by kernel_rfl) (readsF_cons (rdInt m) rfl (by kernel_rfl) (readsF_cons (rdCools m) rfl (by kernel_rfl) readsF_nil)))))).map
    (fun p => (⟨p.1, p.2.1, p.2.2.1, p.2.2.2.1, p.2.2.2.2.1, p.2.2.2.2.2.1⟩ : LAYER)) (fun _ => rfl) fun p h => by
      obtain ⟨h1, h2, h3, h4, h5, h6, _⟩ := h
      exact ⟨h1.len, h2.len, h3.len, h6.1⟩
theorem rdExpt (n : Nat) : Reads enc Tryz.prog w 1048576 n 42 EXPT.c EXPT.Ok :=
  (reads_struct (sz := 1 + (1 + (1 + (1 + (1 + (1 + (1 + (5 + 0)))))))) Tryz.underlying42 (by kernel_rfl) fun m _ => readsF_cons (rdStr m) rfl (by kernel_rfl) (readsF_cons (rdStr m) rfl (by kernel_rfl) (readsF_cons (rdStr m) rfl (by kernel_rfl) (readsF_cons (rdStr m) rfl (by kernel_rfl) (readsF_cons (rdInt m) rfl (by kernel_rfl) (readsF_cons (rdSpns m) rfl (by kernel_rfl) (readsF_cons (rdRngs m) rfl (by kernel_rfl) (readsF_cons (rdExp m) rfl (by kernel_rfl) readsF_nil)))))))).map
    (fun p => (⟨p.1, p.2.1, p.2.2.1, p.2.2.2.1, p.2.2.2.2.1, p.2.2.2.2.2.1, p.2.2.2.2.2.2.1, p.2.2.2.2.2.2.2.1⟩ : EXPT)) (fun p => by rw [EXP.c_eq]; rfl) fun p h => by
      obtain ⟨h1, h2, h3, h4, h5, h6, h7, h8, _⟩ := h
      exact ⟨h1.len, h2.len, h3.len, h4.len, h6.1, h7.1, h8⟩
end
end Go.SH
