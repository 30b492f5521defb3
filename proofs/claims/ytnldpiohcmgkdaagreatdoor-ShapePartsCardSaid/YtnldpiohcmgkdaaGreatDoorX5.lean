/- shape.part, flagstoneref6.part: equations. shape.part, flagstoneref6.part: what they answer; their loops. shape.part, flagstoneref6.part: their contracts. Conditions: their cells, their parts, what the checks of a whole one answer. Serves; conditions that are none. The data of chapter 6: flags, segments, layers, experiments. Prerequisites, targets, rules, variations, flags, segments, layers, experiments: equations. shape.expr, flagstoneref6.walk, big: equations. shape.expr, flagstoneref6.walk, both Expr, big: their contracts. Both Expr, big: equations of calls. flagstoneref6.walk, both Expr, big: their contracts. Prerequisites, targets, variations: contracts. Rules: contracts. Flags, layers, segments, experiments: contracts. ShapeFlags: equations of the law. ShapeFlags: the law answers true. The draws: hints, trims, the evaluator with the tables of the draws. Contracts and loops of which only some answer is told. The draws: Next, Text, Value: equations. -/
import Derived.Test.YtnldpiohcmgkdaaGreatDoorX4
namespace Go.SH
open Go Go.Ab Go.Proofs
set_option linter.unusedVariables false
set_option linter.unusedSimpArgs false
/-- What is asked of a condition's own parts: its kids' operations alone. -/
structure PART where
  op : Int
  kind : List UInt8
  name : List UInt8
  vals : List VAL
  n : Nat
  ko : Nat → Int
  kk : Nat → List UInt8
  kn : Nat → List UInt8
  kv : Nat → List VAL
  km : Nat → Nat
  kg : Nat → Nat → List AV
def PART.c (p : PART) : List AV := [.int .i64 p.op, .str p.kind, .str p.name, valL p.vals, .sl .no 5 p.n fun j => [.int .i64 (p.ko j), .str (p.kk j), .str (p.kn j), valL (p.kv j), .sl .no 5 (p.km j) (p.kg j)] ]
def X1 (p : PART) (i : Nat) : St := { env := [(2, .ref 2 0), (35, .sl .no 5 p.n fun j => [.int .i64 (p.ko j), .str (p.kk j), .str (p.kn j), valL (p.kv j), .sl .no 5 (p.km j) (p.kg j)]), (36, .int .i64 p.n), (37, .int .i64 i)], objs := [(2, .cells p.c)] }
def X2 (p : PART) (i : Nat) : St := { env := [(2, .ref 2 0), (83, valL p.vals), (84, .int .i64 p.vals.length), (85, .int .i64 i)], objs := [(2, .cells p.c)] }
def W1 (p : PART) (i : Nat) : St := { env := [(1, .ref 1 0), (3, .int .i64 i)], objs := [(1, .cells p.c)] }
def W2 (p : PART) (i : Nat) : St := { env := [(1, .ref 1 0), (4, .int .i64 i)], objs := [(1, .cells p.c)] }
set_option maxRecDepth 100000 in
theorem part_1 (T : List Ent) (L : List (List Nat × Orc)) (m : Nat) (p : PART) (i : Nat) (kn : St → Res) (k : Ex → St → Res)  : roundR (V.run T 9 [] L [] 106) 106 m [1, 1, 1, 1, 1, 0, 1, 0] (X1 p i) kn k =
  cond (decide ((↑i : Int) < (↑(PART.n p) : Int))) (cond (within (↑i : Int) (PART.n p)) (cond (bif PART.ko p (Int.toNat (↑i : Int)) == PART.op p then bif PART.op p == 2 then true else PART.op p == 3 else false) (k (.ret) ({ env := [(4, .int .i64 15)], objs := [] })) (kn ({ env := [(2, .ref 2 0), (35, .sl .no 5 (PART.n p) fun j => [.int .i64 (PART.ko p j), .str (PART.kk p j), .str (PART.kn p j), valL (PART.kv p j), .sl .no 5 (PART.km p j) (PART.kg p j)]), (36, .int .i64 (↑(PART.n p) : Int)), (37, .int .i64 (IntKind.wrap IntKind.i64 ((↑i : Int) + 1)))], objs := [(2, .cells (PART.c p))] }))) (none)) (k (.exit 0) ({ env := [(2, .ref 2 0)], objs := [(2, .cells (PART.c p))] })) := by kernel_rfl
set_option maxRecDepth 100000 in
theorem part_2 (gv : List AV → List AO → Bool) (vv : List AV → List AO → Int) (gk vk : List AV → List AO → Bool) (L : List (List Nat × Orc)) (m : Nat) (p : PART) (i : Nat) (kn : St → Res) (k : Ex → St → Res) {t1 : Int} (h_t1 : vv [.agg (VAL.c (List.getD (PART.vals p) (Int.toNat (↑i : Int)) default))] [] = t1) : roundR (V.run [mkE 69 gv vv φE, mkE 65 gk vk φB] 9 [] L [] 106) 106 m [1, 1, 1, 1, 1, 1, 1, 0, 1, 0] (X2 p i) kn k =
  cond (decide ((↑i : Int) < (↑(List.length (PART.vals p)) : Int))) (cond (within (↑i : Int) (List.length (PART.vals p))) (cond (gv [.agg (VAL.c (List.getD (PART.vals p) (Int.toNat (↑i : Int)) default))] []) (cond (t1 != 0) (k (.ret) ({ env := [(4, .int .i64 t1)], objs := [] })) (kn ({ env := [(2, .ref 2 0), (83, valL (PART.vals p)), (84, .int .i64 (↑(List.length (PART.vals p)) : Int)), (85, .int .i64 (IntKind.wrap IntKind.i64 ((↑i : Int) + 1)))], objs := [(2, .cells (PART.c p))] }))) (none)) (none)) (k (.exit 2) ({ env := [(2, .ref 2 0)], objs := [(2, .cells (PART.c p))] })) := by subst h_t1; kernel_rfl
set_option maxRecDepth 100000 in
theorem rpart_1 (T : List Ent) (L : List (List Nat × Orc)) (m : Nat) (p : PART) (i : Nat) (kn : St → Res) (k : Ex → St → Res)  : roundR (V.run T 9 [] L [] 107) 107 m [1, 1, 1, 1, 0, 1, 0] (W1 p i) kn k =
  cond (decide ((↑i : Int) < (↑(PART.n p) : Int))) (cond (within (↑i : Int) (PART.n p)) (cond (bif PART.ko p (Int.toNat (↑i : Int)) == PART.op p then PART.op p != 4 else false) (k (.ret) ({ env := [(2, .int .i64 15)], objs := [] })) (kn ({ env := [(1, .ref 1 0), (3, .int .i64 (IntKind.wrap IntKind.i64 ((↑i : Int) + 1)))], objs := [(1, .cells (PART.c p))] }))) (none)) (k (.exit 0) ({ env := [(1, .ref 1 0)], objs := [(1, .cells (PART.c p))] })) := by kernel_rfl
set_option maxRecDepth 100000 in
theorem rpart_2 (gv : List AV → List AO → Bool) (vv : List AV → List AO → Int) (gk vk : List AV → List AO → Bool) (L : List (List Nat × Orc)) (m : Nat) (p : PART) (i : Nat) (kn : St → Res) (k : Ex → St → Res) {t1 : Int} (h_t1 : vv [.agg (VAL.c (List.getD (PART.vals p) (Int.toNat (↑i : Int)) default))] [] = t1) : roundR (V.run [mkE 115 gv vv φE, mkE 67 gk vk φB] 9 [] L [] 107) 107 m [1, 1, 1, 1, 1, 1, 0, 1, 0] (W2 p i) kn k =
  cond (decide ((↑i : Int) < (↑(List.length (PART.vals p)) : Int))) (cond (within (↑i : Int) (List.length (PART.vals p))) (cond (gv [.agg (VAL.c (List.getD (PART.vals p) (Int.toNat (↑i : Int)) default))] []) (cond (t1 != 0) (k (.ret) ({ env := [(2, .int .i64 t1)], objs := [] })) (kn ({ env := [(1, .ref 1 0), (4, .int .i64 (IntKind.wrap IntKind.i64 ((↑i : Int) + 1)))], objs := [(1, .cells (PART.c p))] }))) (none)) (none)) (k (.exit 2) ({ env := [(1, .ref 1 0)], objs := [(1, .cells (PART.c p))] })) := by subst h_t1; kernel_rfl
set_option maxRecDepth 100000 in
theorem part_m (gv : List AV → List AO → Bool) (vv : List AV → List AO → Int) (gk vk : List AV → List AO → Bool) (g1 : St → Bool) (v1 : St → Bool × Unit) (g2 : St → Bool) (v2 : St → Bool × Int) (p : PART) (depth : Int) {t1 : Bool × Unit} (h_t1 : v1 (X1 p 0) = t1) {t2 : Bool × Int} (h_t2 : v2 (X2 p 0) = t2) : runF (V.run [mkE 69 gv vv φE, mkE 65 gk vk φB] 9 [] [([1, 1, 1, 1, 1, 0, 1, 0], mkO g1 v1 (outB (fun _ k => k .ret { env := [(4, .int .i64 15)], objs := [] }) fun k => k (.exit 0) { env := [(2, .ref 2 0)], objs := [(2, .cells p.c)] })), ([1, 1, 1, 1, 1, 1, 1, 0, 1, 0], mkO g2 v2 (outB (retI 4) fun k => k (.exit 2) { env := [(2, .ref 2 0)], objs := [(2, .cells p.c)] }))] [] 106) 9 106 [.agg p.c, .int .i64 depth] [] =
  cond (decide (depth ≥ 10)) (some ((.int .i64 18, []))) (cond (bif decide (PART.op p < 1) then true else decide (PART.op p > 15)) (some ((.int .i64 7, []))) (cond (bif PART.op p == 2 then true else PART.op p == 3) (cond (decide ((↑(PART.n p) : Int) < 2)) (some ((.int .i64 15, []))) (cond (bif !bif decide (PART.op p ≥ 6) then decide (PART.op p ≤ 15) else false then bif !PART.kind p == [] then true else bif !PART.name p == [] then PART.op p != 5 else false else false) (some ((.int .i64 15, []))) (cond (PART.op p == 8) (cond (!decide ((↑(List.length (PART.vals p)) : Int) > 0)) (some ((.int .i64 15, []))) (cond (bif decide ((↑(PART.n p) : Int) > 12) then true else decide ((↑(List.length (PART.vals p)) : Int) > 20)) (some ((.int .i64 5, []))) (cond (g1 (X1 p 0)) (cond (Prod.fst t1) (some ((.int .i64 15, []))) (cond (gk [.str (PART.kind p)] []) (cond (gk [.str (PART.name p)] []) (cond (bif bif bif decide (PART.op p ≥ 6) then decide (PART.op p ≤ 15) else false then !vk [.str (PART.kind p)] [] else false then true else bif bif bif decide (PART.op p ≥ 6) then decide (PART.op p ≤ 15) else false then true else PART.op p == 5 then !vk [.str (PART.name p)] [] else false) (some ((.int .i64 6, []))) (cond (g2 (X2 p 0)) (cond (Prod.fst t2) (some ((.int .i64 (Prod.snd t2), []))) (cond (bif within 0 (List.length (PART.vals p)) then true else !bif (bif bif PART.op p == 9 then true else PART.op p == 10 then true else PART.op p == 11) == true then true else false) (cond (bif bif bif PART.op p == 9 then true else PART.op p == 10 then true else PART.op p == 11 then VAL.kind (List.getD (PART.vals p) (Int.toNat 0) default) != 3 else false) (some ((.int .i64 8, []))) (some ((.int .i64 0, [])))) (none))) (none))) (none)) (none))) (none)))) (cond (bif bif decide (PART.op p ≥ 6) then decide (PART.op p ≤ 15) else false then PART.op p != 6 else false) (cond (!(↑(List.length (PART.vals p)) : Int) == 1) (some ((.int .i64 15, []))) (cond (bif decide ((↑(PART.n p) : Int) > 12) then true else decide ((↑(List.length (PART.vals p)) : Int) > 20)) (some ((.int .i64 5, []))) (cond (g1 (X1 p 0)) (cond (Prod.fst t1) (some ((.int .i64 15, []))) (cond (gk [.str (PART.kind p)] []) (cond (gk [.str (PART.name p)] []) (cond (bif bif bif decide (PART.op p ≥ 6) then decide (PART.op p ≤ 15) else false then !vk [.str (PART.kind p)] [] else false then true else bif bif bif decide (PART.op p ≥ 6) then decide (PART.op p ≤ 15) else false then true else PART.op p == 5 then !vk [.str (PART.name p)] [] else false) (some ((.int .i64 6, []))) (cond (g2 (X2 p 0)) (cond (Prod.fst t2) (some ((.int .i64 (Prod.snd t2), []))) (cond (bif within 0 (List.length (PART.vals p)) then true else !bif (bif bif PART.op p == 9 then true else PART.op p == 10 then true else PART.op p == 11) == true then true else false) (cond (bif bif bif PART.op p == 9 then true else PART.op p == 10 then true else PART.op p == 11 then VAL.kind (List.getD (PART.vals p) (Int.toNat 0) default) != 3 else false) (some ((.int .i64 8, []))) (some ((.int .i64 0, [])))) (none))) (none))) (none)) (none))) (none)))) (cond (!(↑(List.length (PART.vals p)) : Int) == 0) (some ((.int .i64 15, []))) (cond (bif decide ((↑(PART.n p) : Int) > 12) then true else decide ((↑(List.length (PART.vals p)) : Int) > 20)) (some ((.int .i64 5, []))) (cond (g1 (X1 p 0)) (cond (Prod.fst t1) (some ((.int .i64 15, []))) (cond (gk [.str (PART.kind p)] []) (cond (gk [.str (PART.name p)] []) (cond (bif bif bif decide (PART.op p ≥ 6) then decide (PART.op p ≤ 15) else false then !vk [.str (PART.kind p)] [] else false then true else bif bif bif decide (PART.op p ≥ 6) then decide (PART.op p ≤ 15) else false then true else PART.op p == 5 then !vk [.str (PART.name p)] [] else false) (some ((.int .i64 6, []))) (cond (g2 (X2 p 0)) (cond (Prod.fst t2) (some ((.int .i64 (Prod.snd t2), []))) (cond (bif within 0 (List.length (PART.vals p)) then true else !bif (bif bif PART.op p == 9 then true else PART.op p == 10 then true else PART.op p == 11) == true then true else false) (cond (bif bif bif PART.op p == 9 then true else PART.op p == 10 then true else PART.op p == 11 then VAL.kind (List.getD (PART.vals p) (Int.toNat 0) default) != 3 else false) (some ((.int .i64 8, []))) (some ((.int .i64 0, [])))) (none))) (none))) (none)) (none))) (none)))))))) (cond (PART.op p == 4) (cond ((↑(PART.n p) : Int) != 1) (some ((.int .i64 15, []))) (cond (bif !bif decide (PART.op p ≥ 6) then decide (PART.op p ≤ 15) else false then bif !PART.kind p == [] then true else bif !PART.name p == [] then PART.op p != 5 else false else false) (some ((.int .i64 15, []))) (cond (PART.op p == 8) (cond (!decide ((↑(List.length (PART.vals p)) : Int) > 0)) (some ((.int .i64 15, []))) (cond (bif decide ((↑(PART.n p) : Int) > 12) then true else decide ((↑(List.length (PART.vals p)) : Int) > 20)) (some ((.int .i64 5, []))) (cond (g1 (X1 p 0)) (cond (Prod.fst t1) (some ((.int .i64 15, []))) (cond (gk [.str (PART.kind p)] []) (cond (gk [.str (PART.name p)] []) (cond (bif bif bif decide (PART.op p ≥ 6) then decide (PART.op p ≤ 15) else false then !vk [.str (PART.kind p)] [] else false then true else bif bif bif decide (PART.op p ≥ 6) then decide (PART.op p ≤ 15) else false then true else PART.op p == 5 then !vk [.str (PART.name p)] [] else false) (some ((.int .i64 6, []))) (cond (g2 (X2 p 0)) (cond (Prod.fst t2) (some ((.int .i64 (Prod.snd t2), []))) (cond (bif within 0 (List.length (PART.vals p)) then true else !bif (bif bif PART.op p == 9 then true else PART.op p == 10 then true else PART.op p == 11) == true then true else false) (cond (bif bif bif PART.op p == 9 then true else PART.op p == 10 then true else PART.op p == 11 then VAL.kind (List.getD (PART.vals p) (Int.toNat 0) default) != 3 else false) (some ((.int .i64 8, []))) (some ((.int .i64 0, [])))) (none))) (none))) (none)) (none))) (none)))) (cond (bif bif decide (PART.op p ≥ 6) then decide (PART.op p ≤ 15) else false then PART.op p != 6 else false) (cond (!(↑(List.length (PART.vals p)) : Int) == 1) (some ((.int .i64 15, []))) (cond (bif decide ((↑(PART.n p) : Int) > 12) then true else decide ((↑(List.length (PART.vals p)) : Int) > 20)) (some ((.int .i64 5, []))) (cond (g1 (X1 p 0)) (cond (Prod.fst t1) (some ((.int .i64 15, []))) (cond (gk [.str (PART.kind p)] []) (cond (gk [.str (PART.name p)] []) (cond (bif bif bif decide (PART.op p ≥ 6) then decide (PART.op p ≤ 15) else false then !vk [.str (PART.kind p)] [] else false then true else bif bif bif decide (PART.op p ≥ 6) then decide (PART.op p ≤ 15) else false then true else PART.op p == 5 then !vk [.str (PART.name p)] [] else false) (some ((.int .i64 6, []))) (cond (g2 (X2 p 0)) (cond (Prod.fst t2) (some ((.int .i64 (Prod.snd t2), []))) (cond (bif within 0 (List.length (PART.vals p)) then true else !bif (bif bif PART.op p == 9 then true else PART.op p == 10 then true else PART.op p == 11) == true then true else false) (cond (bif bif bif PART.op p == 9 then true else PART.op p == 10 then true else PART.op p == 11 then VAL.kind (List.getD (PART.vals p) (Int.toNat 0) default) != 3 else false) (some ((.int .i64 8, []))) (some ((.int .i64 0, [])))) (none))) (none))) (none)) (none))) (none)))) (cond (!(↑(List.length (PART.vals p)) : Int) == 0) (some ((.int .i64 15, []))) (cond (bif decide ((↑(PART.n p) : Int) > 12) then true else decide ((↑(List.length (PART.vals p)) : Int) > 20)) (some ((.int .i64 5, []))) (cond (g1 (X1 p 0)) (cond (Prod.fst t1) (some ((.int .i64 15, []))) (cond (gk [.str (PART.kind p)] []) (cond (gk [.str (PART.name p)] []) (cond (bif bif bif decide (PART.op p ≥ 6) then decide (PART.op p ≤ 15) else false then !vk [.str (PART.kind p)] [] else false then true else bif bif bif decide (PART.op p ≥ 6) then decide (PART.op p ≤ 15) else false then true else PART.op p == 5 then !vk [.str (PART.name p)] [] else false) (some ((.int .i64 6, []))) (cond (g2 (X2 p 0)) (cond (Prod.fst t2) (some ((.int .i64 (Prod.snd t2), []))) (cond (bif within 0 (List.length (PART.vals p)) then true else !bif (bif bif PART.op p == 9 then true else PART.op p == 10 then true else PART.op p == 11) == true then true else false) (cond (bif bif bif PART.op p == 9 then true else PART.op p == 10 then true else PART.op p == 11 then VAL.kind (List.getD (PART.vals p) (Int.toNat 0) default) != 3 else false) (some ((.int .i64 8, []))) (some ((.int .i64 0, [])))) (none))) (none))) (none)) (none))) (none)))))))) (cond (decide ((↑(PART.n p) : Int) > 0)) (some ((.int .i64 15, []))) (cond (bif !bif decide (PART.op p ≥ 6) then decide (PART.op p ≤ 15) else false then bif !PART.kind p == [] then true else bif !PART.name p == [] then PART.op p != 5 else false else false) (some ((.int .i64 15, []))) (cond (PART.op p == 8) (cond (!decide ((↑(List.length (PART.vals p)) : Int) > 0)) (some ((.int .i64 15, []))) (cond (bif decide ((↑(PART.n p) : Int) > 12) then true else decide ((↑(List.length (PART.vals p)) : Int) > 20)) (some ((.int .i64 5, []))) (cond (g1 (X1 p 0)) (cond (Prod.fst t1) (some ((.int .i64 15, []))) (cond (gk [.str (PART.kind p)] []) (cond (gk [.str (PART.name p)] []) (cond (bif bif bif decide (PART.op p ≥ 6) then decide (PART.op p ≤ 15) else false then !vk [.str (PART.kind p)] [] else false then true else bif bif bif decide (PART.op p ≥ 6) then decide (PART.op p ≤ 15) else false then true else PART.op p == 5 then !vk [.str (PART.name p)] [] else false) (some ((.int .i64 6, []))) (cond (g2 (X2 p 0)) (cond (Prod.fst t2) (some ((.int .i64 (Prod.snd t2), []))) (cond (bif within 0 (List.length (PART.vals p)) then true else !bif (bif bif PART.op p == 9 then true else PART.op p == 10 then true else PART.op p == 11) == true then true else false) (cond (bif bif bif PART.op p == 9 then true else PART.op p == 10 then true else PART.op p == 11 then VAL.kind (List.getD (PART.vals p) (Int.toNat 0) default) != 3 else false) (some ((.int .i64 8, []))) (some ((.int .i64 0, [])))) (none))) (none))) (none)) (none))) (none)))) (cond (bif bif decide (PART.op p ≥ 6) then decide (PART.op p ≤ 15) else false then PART.op p != 6 else false) (cond (!(↑(List.length (PART.vals p)) : Int) == 1) (some ((.int .i64 15, []))) (cond (bif decide ((↑(PART.n p) : Int) > 12) then true else decide ((↑(List.length (PART.vals p)) : Int) > 20)) (some ((.int .i64 5, []))) (cond (g1 (X1 p 0)) (cond (Prod.fst t1) (some ((.int .i64 15, []))) (cond (gk [.str (PART.kind p)] []) (cond (gk [.str (PART.name p)] []) (cond (bif bif bif decide (PART.op p ≥ 6) then decide (PART.op p ≤ 15) else false then !vk [.str (PART.kind p)] [] else false then true else bif bif bif decide (PART.op p ≥ 6) then decide (PART.op p ≤ 15) else false then true else PART.op p == 5 then !vk [.str (PART.name p)] [] else false) (some ((.int .i64 6, []))) (cond (g2 (X2 p 0)) (cond (Prod.fst t2) (some ((.int .i64 (Prod.snd t2), []))) (cond (bif within 0 (List.length (PART.vals p)) then true else !bif (bif bif PART.op p == 9 then true else PART.op p == 10 then true else PART.op p == 11) == true then true else false) (cond (bif bif bif PART.op p == 9 then true else PART.op p == 10 then true else PART.op p == 11 then VAL.kind (List.getD (PART.vals p) (Int.toNat 0) default) != 3 else false) (some ((.int .i64 8, []))) (some ((.int .i64 0, [])))) (none))) (none))) (none)) (none))) (none)))) (cond (!(↑(List.length (PART.vals p)) : Int) == 0) (some ((.int .i64 15, []))) (cond (bif decide ((↑(PART.n p) : Int) > 12) then true else decide ((↑(List.length (PART.vals p)) : Int) > 20)) (some ((.int .i64 5, []))) (cond (g1 (X1 p 0)) (cond (Prod.fst t1) (some ((.int .i64 15, []))) (cond (gk [.str (PART.kind p)] []) (cond (gk [.str (PART.name p)] []) (cond (bif bif bif decide (PART.op p ≥ 6) then decide (PART.op p ≤ 15) else false then !vk [.str (PART.kind p)] [] else false then true else bif bif bif decide (PART.op p ≥ 6) then decide (PART.op p ≤ 15) else false then true else PART.op p == 5 then !vk [.str (PART.name p)] [] else false) (some ((.int .i64 6, []))) (cond (g2 (X2 p 0)) (cond (Prod.fst t2) (some ((.int .i64 (Prod.snd t2), []))) (cond (bif within 0 (List.length (PART.vals p)) then true else !bif (bif bif PART.op p == 9 then true else PART.op p == 10 then true else PART.op p == 11) == true then true else false) (cond (bif bif bif PART.op p == 9 then true else PART.op p == 10 then true else PART.op p == 11 then VAL.kind (List.getD (PART.vals p) (Int.toNat 0) default) != 3 else false) (some ((.int .i64 8, []))) (some ((.int .i64 0, [])))) (none))) (none))) (none)) (none))) (none))))))))))) := by subst h_t2 h_t1; kernel_rfl
set_option maxRecDepth 100000 in
theorem rpart_m (gv : List AV → List AO → Bool) (vv : List AV → List AO → Int) (gk vk : List AV → List AO → Bool) (g1 : St → Bool) (v1 : St → Bool × Unit) (g2 : St → Bool) (v2 : St → Bool × Int) (p : PART) {t1 : Bool × Unit} (h_t1 : v1 (W1 p 0) = t1) {t2 : Bool × Int} (h_t2 : v2 (W2 p 0) = t2) : runF (V.run [mkE 115 gv vv φE, mkE 67 gk vk φB] 9 [] [([1, 1, 1, 1, 0, 1, 0], mkO g1 v1 (outB (fun _ k => k .ret { env := [(2, .int .i64 15)], objs := [] }) fun k => k (.exit 0) { env := [(1, .ref 1 0)], objs := [(1, .cells p.c)] })), ([1, 1, 1, 1, 1, 1, 0, 1, 0], mkO g2 v2 (outB (retI 2) fun k => k (.exit 2) { env := [(1, .ref 1 0)], objs := [(1, .cells p.c)] }))] [] 107) 9 107 [.agg p.c] [] =
  cond (bif decide (PART.op p < 1) then true else decide (PART.op p > 15)) (some ((.int .i64 7, []))) (cond (bif PART.op p == 2 then true else PART.op p == 3) (cond (!bif bif bif decide ((↑(PART.n p) : Int) ≥ 2) then (↑(List.length (PART.vals p)) : Int) == 0 else false then bif bif decide (PART.op p ≥ 6) then decide (PART.op p ≤ 15) else false then true else PART.kind p == [] else false then bif bif bif decide (PART.op p ≥ 6) then decide (PART.op p ≤ 15) else false then true else PART.op p == 5 then true else PART.name p == [] else false) (some ((.int .i64 15, []))) (cond (bif decide ((↑(PART.n p) : Int) > 12) then true else decide ((↑(List.length (PART.vals p)) : Int) > 20)) (some ((.int .i64 5, []))) (cond (g1 (W1 p 0)) (cond (Prod.fst t1) (some ((.int .i64 15, []))) (cond (gk [.str (PART.kind p)] []) (cond (gk [.str (PART.name p)] []) (cond (bif bif bif decide (PART.op p ≥ 6) then decide (PART.op p ≤ 15) else false then !vk [.str (PART.kind p)] [] else false then true else bif bif bif decide (PART.op p ≥ 6) then decide (PART.op p ≤ 15) else false then true else PART.op p == 5 then !vk [.str (PART.name p)] [] else false) (some ((.int .i64 6, []))) (cond (g2 (W2 p 0)) (cond (Prod.fst t2) (some ((.int .i64 (Prod.snd t2), []))) (cond (bif within 0 (List.length (PART.vals p)) then true else !bif (bif bif PART.op p == 9 then true else PART.op p == 10 then true else PART.op p == 11) == true then true else false) (cond (bif bif bif PART.op p == 9 then true else PART.op p == 10 then true else PART.op p == 11 then VAL.kind (List.getD (PART.vals p) (Int.toNat 0) default) != 3 else false) (some ((.int .i64 8, []))) (some ((.int .i64 0, [])))) (none))) (none))) (none)) (none))) (none)))) (cond (PART.op p == 4) (cond (!bif bif bif (↑(PART.n p) : Int) == 1 then (↑(List.length (PART.vals p)) : Int) == 0 else false then bif bif decide (PART.op p ≥ 6) then decide (PART.op p ≤ 15) else false then true else PART.kind p == [] else false then bif bif bif decide (PART.op p ≥ 6) then decide (PART.op p ≤ 15) else false then true else PART.op p == 5 then true else PART.name p == [] else false) (some ((.int .i64 15, []))) (cond (bif decide ((↑(PART.n p) : Int) > 12) then true else decide ((↑(List.length (PART.vals p)) : Int) > 20)) (some ((.int .i64 5, []))) (cond (g1 (W1 p 0)) (cond (Prod.fst t1) (some ((.int .i64 15, []))) (cond (gk [.str (PART.kind p)] []) (cond (gk [.str (PART.name p)] []) (cond (bif bif bif decide (PART.op p ≥ 6) then decide (PART.op p ≤ 15) else false then !vk [.str (PART.kind p)] [] else false then true else bif bif bif decide (PART.op p ≥ 6) then decide (PART.op p ≤ 15) else false then true else PART.op p == 5 then !vk [.str (PART.name p)] [] else false) (some ((.int .i64 6, []))) (cond (g2 (W2 p 0)) (cond (Prod.fst t2) (some ((.int .i64 (Prod.snd t2), []))) (cond (bif within 0 (List.length (PART.vals p)) then true else !bif (bif bif PART.op p == 9 then true else PART.op p == 10 then true else PART.op p == 11) == true then true else false) (cond (bif bif bif PART.op p == 9 then true else PART.op p == 10 then true else PART.op p == 11 then VAL.kind (List.getD (PART.vals p) (Int.toNat 0) default) != 3 else false) (some ((.int .i64 8, []))) (some ((.int .i64 0, [])))) (none))) (none))) (none)) (none))) (none)))) (cond (PART.op p == 8) (cond (!bif bif bif (↑(PART.n p) : Int) == 0 then decide ((↑(List.length (PART.vals p)) : Int) > 0) else false then bif bif decide (PART.op p ≥ 6) then decide (PART.op p ≤ 15) else false then true else PART.kind p == [] else false then bif bif bif decide (PART.op p ≥ 6) then decide (PART.op p ≤ 15) else false then true else PART.op p == 5 then true else PART.name p == [] else false) (some ((.int .i64 15, []))) (cond (bif decide ((↑(PART.n p) : Int) > 12) then true else decide ((↑(List.length (PART.vals p)) : Int) > 20)) (some ((.int .i64 5, []))) (cond (g1 (W1 p 0)) (cond (Prod.fst t1) (some ((.int .i64 15, []))) (cond (gk [.str (PART.kind p)] []) (cond (gk [.str (PART.name p)] []) (cond (bif bif bif decide (PART.op p ≥ 6) then decide (PART.op p ≤ 15) else false then !vk [.str (PART.kind p)] [] else false then true else bif bif bif decide (PART.op p ≥ 6) then decide (PART.op p ≤ 15) else false then true else PART.op p == 5 then !vk [.str (PART.name p)] [] else false) (some ((.int .i64 6, []))) (cond (g2 (W2 p 0)) (cond (Prod.fst t2) (some ((.int .i64 (Prod.snd t2), []))) (cond (bif within 0 (List.length (PART.vals p)) then true else !bif (bif bif PART.op p == 9 then true else PART.op p == 10 then true else PART.op p == 11) == true then true else false) (cond (bif bif bif PART.op p == 9 then true else PART.op p == 10 then true else PART.op p == 11 then VAL.kind (List.getD (PART.vals p) (Int.toNat 0) default) != 3 else false) (some ((.int .i64 8, []))) (some ((.int .i64 0, [])))) (none))) (none))) (none)) (none))) (none)))) (cond (bif bif decide (PART.op p ≥ 6) then decide (PART.op p ≤ 15) else false then PART.op p != 6 else false) (cond (!bif bif bif (↑(PART.n p) : Int) == 0 then (↑(List.length (PART.vals p)) : Int) == 1 else false then bif bif decide (PART.op p ≥ 6) then decide (PART.op p ≤ 15) else false then true else PART.kind p == [] else false then bif bif bif decide (PART.op p ≥ 6) then decide (PART.op p ≤ 15) else false then true else PART.op p == 5 then true else PART.name p == [] else false) (some ((.int .i64 15, []))) (cond (bif decide ((↑(PART.n p) : Int) > 12) then true else decide ((↑(List.length (PART.vals p)) : Int) > 20)) (some ((.int .i64 5, []))) (cond (g1 (W1 p 0)) (cond (Prod.fst t1) (some ((.int .i64 15, []))) (cond (gk [.str (PART.kind p)] []) (cond (gk [.str (PART.name p)] []) (cond (bif bif bif decide (PART.op p ≥ 6) then decide (PART.op p ≤ 15) else false then !vk [.str (PART.kind p)] [] else false then true else bif bif bif decide (PART.op p ≥ 6) then decide (PART.op p ≤ 15) else false then true else PART.op p == 5 then !vk [.str (PART.name p)] [] else false) (some ((.int .i64 6, []))) (cond (g2 (W2 p 0)) (cond (Prod.fst t2) (some ((.int .i64 (Prod.snd t2), []))) (cond (bif within 0 (List.length (PART.vals p)) then true else !bif (bif bif PART.op p == 9 then true else PART.op p == 10 then true else PART.op p == 11) == true then true else false) (cond (bif bif bif PART.op p == 9 then true else PART.op p == 10 then true else PART.op p == 11 then VAL.kind (List.getD (PART.vals p) (Int.toNat 0) default) != 3 else false) (some ((.int .i64 8, []))) (some ((.int .i64 0, [])))) (none))) (none))) (none)) (none))) (none)))) (cond (!bif bif bif (↑(PART.n p) : Int) == 0 then (↑(List.length (PART.vals p)) : Int) == 0 else false then bif bif decide (PART.op p ≥ 6) then decide (PART.op p ≤ 15) else false then true else PART.kind p == [] else false then bif bif bif decide (PART.op p ≥ 6) then decide (PART.op p ≤ 15) else false then true else PART.op p == 5 then true else PART.name p == [] else false) (some ((.int .i64 15, []))) (cond (bif decide ((↑(PART.n p) : Int) > 12) then true else decide ((↑(List.length (PART.vals p)) : Int) > 20)) (some ((.int .i64 5, []))) (cond (g1 (W1 p 0)) (cond (Prod.fst t1) (some ((.int .i64 15, []))) (cond (gk [.str (PART.kind p)] []) (cond (gk [.str (PART.name p)] []) (cond (bif bif bif decide (PART.op p ≥ 6) then decide (PART.op p ≤ 15) else false then !vk [.str (PART.kind p)] [] else false then true else bif bif bif decide (PART.op p ≥ 6) then decide (PART.op p ≤ 15) else false then true else PART.op p == 5 then !vk [.str (PART.name p)] [] else false) (some ((.int .i64 6, []))) (cond (g2 (W2 p 0)) (cond (Prod.fst t2) (some ((.int .i64 (Prod.snd t2), []))) (cond (bif within 0 (List.length (PART.vals p)) then true else !bif (bif bif PART.op p == 9 then true else PART.op p == 10 then true else PART.op p == 11) == true then true else false) (cond (bif bif bif PART.op p == 9 then true else PART.op p == 10 then true else PART.op p == 11 then VAL.kind (List.getD (PART.vals p) (Int.toNat 0) default) != 3 else false) (some ((.int .i64 8, []))) (some ((.int .i64 0, [])))) (none))) (none))) (none)) (none))) (none)))))))) := by subst h_t2 h_t1; kernel_rfl
end Go.SH

namespace Go.SH
open Go Go.Ab Go.Proofs
set_option linter.unusedVariables false
set_option linter.unusedSimpArgs false

theorem strsA_inj {a b : List (List UInt8)} (h : strsA a = strsA b) : a = b := by
  unfold strsA at h
  simp only [AV.sl.injEq, true_and] at h
  obtain ⟨h1, h2⟩ := h
  apply List.ext_getElem h1
  intro i hi hj
  have := congrFun h2 i
  simpa [List.getD, hi, hj] using this
theorem VAL.c_inj {a b : VAL} (h : a.c = b.c) : a = b := by
  obtain ⟨k, n, t, l⟩ := a
  obtain ⟨k', n', t', l'⟩ := b
  simp only [VAL.c, List.cons.injEq, AV.int.injEq, AV.str.injEq, true_and, and_true] at h
  obtain ⟨rfl, rfl, rfl, h⟩ := h
  rw [strsA_inj h]
def valA1 (v : VAL) : List AV := [.agg v.c]
theorem valA1_inj {τ : Type} (w : VAL → τ) (a b : VAL) (h : valA1 a = valA1 b) : w a = w b := by
  simp only [valA1, List.cons.injEq, AV.agg.injEq, and_true] at h
  rw [VAL.c_inj h]
noncomputable abbrev gV : List AV → List AO → Bool := gF valA1 VAL.Ok
noncomputable abbrev vV : List AV → List AO → Int := vF valA1 VAL.Ok checkE
theorem gV_eq {v : VAL} (h : v.Ok) : gV [.agg v.c] [] = true := gF_eq (A := valA1) h
theorem vV_eq {v : VAL} (h : v.Ok) : vV [.agg v.c] [] = checkE v := vF_eq (A := valA1) (valA1_inj checkE) h
def valsOk (l : List VAL) : Prop := l.length ≤ 4611686018427387904 ∧ ∀ v ∈ l, v.Ok
theorem valsOk.at {l : List VAL} (h : valsOk l) {i : Nat} (hi : i < l.length) : (l.getD i default).Ok := by
  rw [List.getD_eq_getElem?_getD, List.getElem?_eq_getElem hi]
  exact h.2 _ (List.getElem_mem hi)
def valsStop (l : List VAL) (i : Nat) : Option Int := bif checkE (l.getD i default) != 0 then some (checkE (l.getD i default)) else none
def valsSeek (l : List VAL) : Bool × Int := scanAt l.length (· + 1) (valsStop l) 0
def kidSeek (p : PART) (b : Bool) : Bool × Unit := seek p.n (· + 1) (fun i => bif p.ko i == p.op then b else false) ()
def testB (op : Int) : Bool := bif decide (op ≥ 6) then decide (op ≤ 15) else false
def isPair (op : Int) : Bool := bif op == 2 then true else op == 3
def needsText (op : Int) : Bool := bif bif op == 9 then true else op == 10 then true else op == 11
/-- The right numbers of kids and values, and no names where none belong. -/
def countB (p : PART) : Bool :=
  (bif isPair p.op then decide (p.n ≥ 2) else bif p.op == 4 then p.n == 1 else p.n == 0) &&
  ((testB p.op || (p.kind == [] && (p.name == [] || p.op == 5))) &&
  (bif p.op == 8 then decide (p.vals.length > 0) else bif testB p.op && p.op != 6 then p.vals.length == 1 else p.vals.length == 0))
def partE (p : PART) : Int :=
  bif decide (p.op < 1) || decide (p.op > 15) then 7 else bif !countB p then 15 else
  bif decide (p.n > 12) || decide (p.vals.length > 20) then 5 else
  bif (kidSeek p (isPair p.op)).1 then 15 else
  bif (testB p.op && !keyB p.kind) || ((testB p.op || p.op == 5) && !keyB p.name) then 6 else
  bif (valsSeek p.vals).1 then (valsSeek p.vals).2 else
  bif needsText p.op && (p.vals.getD 0 default).kind != 3 then 8 else 0
def PART.Ok (p : PART) : Prop := lenS p.kind ∧ lenS p.name ∧ valsOk p.vals ∧ p.n ≤ 4611686018427387904
theorem X1_inj (p : PART) (i j : Nat) (h : X1 p i = X1 p j) : i = j := by
  simp only [X1, St.mk.injEq, List.cons.injEq, Prod.mk.injEq, AV.int.injEq, and_true, true_and] at h; omega
theorem X2_inj (p : PART) (i j : Nat) (h : X2 p i = X2 p j) : i = j := by
  simp only [X2, St.mk.injEq, List.cons.injEq, Prod.mk.injEq, AV.int.injEq, and_true, true_and] at h; omega
theorem W1_inj (p : PART) (i j : Nat) (h : W1 p i = W1 p j) : i = j := by
  simp only [W1, St.mk.injEq, List.cons.injEq, Prod.mk.injEq, AV.int.injEq, and_true, true_and] at h; omega
theorem W2_inj (p : PART) (i j : Nat) (h : W2 p i = W2 p j) : i = j := by
  simp only [W2, St.mk.injEq, List.cons.injEq, Prod.mk.injEq, AV.int.injEq, and_true, true_and] at h; omega
end Go.SH

namespace Go.SH
open Go Go.Ab Go.Proofs
set_option linter.unusedVariables false
set_option linter.unusedSimpArgs false
theorem part_loop1 (p : PART) (hp : p.Ok) (T : List Ent) (L : List (List Nat × Orc)) : LoopOk (V.run T 9 [] L [] 106) 106 [1, 1, 1, 1, 1, 0, 1, 0] (mkO (goodS (X1 p) (· ≤ p.n)) (valS (X1 p) (· ≤ p.n) (scanAt p.n (· + 1) (fun i => bif (bif p.ko i == p.op then isPair p.op else false) then some () else none))) (outB (fun _ k => k .ret { env := [(4, .int .i64 15)], objs := [] }) fun k => k (.exit 0) { env := [(2, .ref 2 0)], objs := [(2, .cells p.c)] })) :=
  loopOk_seek (b := subC (bodyOf V.P 106) ([1, 1, 1, 1, 1, 0, 1, 0] ++ [0])) (X1 p) p.n (· + 1) _ () _ _ (by kernel_rfl) 9 (fun i h => ⟨by omega, by omega⟩)
    (fun i h kn k => by
      refine (part_1 T L _ p i kn k).trans ?_
      rw [lt_true h, within_lt h, wrap_next h hp.2.2.2, Int.toNat_natCast]
      rfl) (fun kn k => by refine (part_1 T L _ p _ kn k).trans ?_; rw [lt_false (Nat.lt_irrefl _)]; rfl)
theorem rpart_loop1 (p : PART) (hp : p.Ok) (T : List Ent) (L : List (List Nat × Orc)) : LoopOk (V.run T 9 [] L [] 107) 107 [1, 1, 1, 1, 0, 1, 0] (mkO (goodS (W1 p) (· ≤ p.n)) (valS (W1 p) (· ≤ p.n) (scanAt p.n (· + 1) (fun i => bif (bif p.ko i == p.op then p.op != 4 else false) then some () else none))) (outB (fun _ k => k .ret { env := [(2, .int .i64 15)], objs := [] }) fun k => k (.exit 0) { env := [(1, .ref 1 0)], objs := [(1, .cells p.c)] })) :=
  loopOk_seek (b := subC (bodyOf V.P 107) ([1, 1, 1, 1, 0, 1, 0] ++ [0])) (W1 p) p.n (· + 1) _ () _ _ (by kernel_rfl) 9 (fun i h => ⟨by omega, by omega⟩)
    (fun i h kn k => by
      refine (rpart_1 T L _ p i kn k).trans ?_
      rw [lt_true h, within_lt h, wrap_next h hp.2.2.2, Int.toNat_natCast]
      rfl) (fun kn k => by refine (rpart_1 T L _ p _ kn k).trans ?_; rw [lt_false (Nat.lt_irrefl _)]; rfl)
theorem part_loop2 (p : PART) (hp : p.Ok) (gk vk : List AV → List AO → Bool) (L : List (List Nat × Orc)) : LoopOk (V.run [mkE 69 gV vV φE, mkE 65 gk vk φB] 9 [] L [] 106) 106 [1, 1, 1, 1, 1, 1, 1, 0, 1, 0] (mkO (goodS (X2 p) (· ≤ p.vals.length)) (valS (X2 p) (· ≤ p.vals.length) (scanAt p.vals.length (· + 1) (valsStop p.vals))) (outB (retI 4) fun k => k (.exit 2) { env := [(2, .ref 2 0)], objs := [(2, .cells p.c)] })) :=
  loopOk_scan (b := subC (bodyOf V.P 106) ([1, 1, 1, 1, 1, 1, 1, 0, 1, 0] ++ [0])) (X2 p) p.vals.length (· + 1) (valsStop p.vals) _ _ (by kernel_rfl) 9 (fun i h => ⟨by omega, by omega⟩)
    (fun i h kn k => by
      refine (part_2 gV vV gk vk L _ p i kn k (vV_eq (by rw [Int.toNat_natCast]; exact hp.2.2.1.at h))).trans ?_
      rw [lt_true h, within_lt h, wrap_next h hp.2.2.1.1, Int.toNat_natCast, gV_eq (hp.2.2.1.at h)]
      unfold valsStop
      cases checkE (p.vals.getD i default) != 0 <;> rfl) (fun kn k => by refine (part_2 gV vV gk vk L _ p _ kn k rfl).trans ?_; rw [lt_false (Nat.lt_irrefl _)]; rfl)
theorem rpart_loop2 (p : PART) (hp : p.Ok) (gk vk : List AV → List AO → Bool) (L : List (List Nat × Orc)) : LoopOk (V.run [mkE 115 gV vV φE, mkE 67 gk vk φB] 9 [] L [] 107) 107 [1, 1, 1, 1, 1, 1, 0, 1, 0] (mkO (goodS (W2 p) (· ≤ p.vals.length)) (valS (W2 p) (· ≤ p.vals.length) (scanAt p.vals.length (· + 1) (valsStop p.vals))) (outB (retI 2) fun k => k (.exit 2) { env := [(1, .ref 1 0)], objs := [(1, .cells p.c)] })) :=
  loopOk_scan (b := subC (bodyOf V.P 107) ([1, 1, 1, 1, 1, 1, 0, 1, 0] ++ [0])) (W2 p) p.vals.length (· + 1) (valsStop p.vals) _ _ (by kernel_rfl) 9 (fun i h => ⟨by omega, by omega⟩)
    (fun i h kn k => by
      refine (rpart_2 gV vV gk vk L _ p i kn k (vV_eq (by rw [Int.toNat_natCast]; exact hp.2.2.1.at h))).trans ?_
      rw [lt_true h, within_lt h, wrap_next h hp.2.2.1.1, Int.toNat_natCast, gV_eq (hp.2.2.1.at h)]
      unfold valsStop
      cases checkE (p.vals.getD i default) != 0 <;> rfl) (fun kn k => by refine (rpart_2 gV vV gk vk L _ p _ kn k rfl).trans ?_; rw [lt_false (Nat.lt_irrefl _)]; rfl)
theorem dI (a b : Int) (c d : Prop) [Decidable c] [Decidable d] (h : c ↔ d) : decide c = decide d := by
  by_cases x : c
  · rw [decide_eq_true x, decide_eq_true (h.1 x)]
  · rw [decide_eq_false x, decide_eq_false (fun y => x (h.2 y))]
theorem lt2_cast (n : Nat) : decide ((n : Int) < 2) = !decide (n ≥ 2) := by
  by_cases h : n ≥ 2
  · rw [decide_eq_true h, decide_eq_false (by omega)]; rfl
  · rw [decide_eq_false h, decide_eq_true (by omega)]; rfl
theorem gt0_cast (n : Nat) : decide ((n : Int) > 0) = !(n == 0) := by
  by_cases h : n = 0
  · subst h; rfl
  · rw [decide_eq_true (by omega), beq_eq_false_iff_ne.2 h]; rfl
theorem gt0_nat (n : Nat) : decide (n > 0) = !(n == 0) := by
  by_cases h : n = 0
  · subst h; rfl
  · rw [decide_eq_true (by omega), beq_eq_false_iff_ne.2 h]; rfl
theorem beq1_cast (n : Nat) : ((n : Int) == 1) = (n == 1) := by
  by_cases h : n = 1
  · subst h; rfl
  · rw [beq_eq_false_iff_ne.2 h, beq_eq_false_iff_ne.2 (by omega)]
theorem bne1_cast (n : Nat) : ((n : Int) != 1) = !(n == 1) := by
  show (!((n : Int) == 1)) = _
  rw [beq1_cast]
theorem gt12_cast (n : Nat) : decide ((n : Int) > 12) = decide (n > 12) := gt_cast n 12
theorem gt20_cast (n : Nat) : decide ((n : Int) > 20) = decide (n > 20) := gt_cast n 20
theorem within0 (n : Nat) : within 0 n = !(n == 0) := by
  unfold within
  by_cases h : n = 0
  · subst h; rfl
  · rw [beq_eq_false_iff_ne.2 h, decide_eq_true (show (0 : Int) < n by omega)]; rfl
theorem part_ok (p : PART) (hp : p.Ok) (depth : Int) : Ct V.P V.G 106 [.agg p.c, .int .i64 depth] [] (φE (bif decide (depth ≥ 10) then 18 else partE p)) := by
  obtain ⟨a1, a2⟩ := seek_at (X1 p) p.n (· + 1) (fun i => bif p.ko i == p.op then isPair p.op else false) () (X1_inj p)
  obtain ⟨b1, b2⟩ := scan_start (X2 p) p.vals.length (· + 1) (valsStop p.vals) (X2_inj p)
  refine ct_loops (n := 9) (d := 9) (T := [entF 69 valA1 VAL.Ok checkE φE, entF 65 strA lenS keyB φB]) mixed funcs (tabOk_cons (entF_ok fun v hv => check_ok v hv) (tabOk_cons (entF_ok fun s _ => key_ok s) tabOk_nil)) (loopsOk_cons (part_loop1 p hp _ _) (loopsOk_cons (part_loop2 p hp _ _ _) loopsOk_nil)) ?_
  refine (part_m gV vV gS (vS keyB) _ _ _ _ p depth a2 b2).trans ?_
  rw [a1, b1, gS_eq hp.1, gS_eq hp.2.1, vS_eq _ hp.1, vS_eq _ hp.2.1, lt2_cast, eq_zero, gt0_cast, gt0_cast, beq1_cast, bne1_cast, gt12_cast, gt20_cast, within0]
  rw [show seek p.n (· + 1) (fun i => bif p.ko i == p.op then isPair p.op else false) () = kidSeek p (isPair p.op) from rfl, show scanAt p.vals.length (· + 1) (valsStop p.vals) 0 = valsSeek p.vals from rfl]
  have hz : ((p.vals.length == 0) && (p.vals.length == 1)) = false := by
    by_cases h : p.vals.length = 0
    · rw [h]; rfl
    · rw [beq_eq_false_iff_ne.2 h]; rfl
  unfold partE
  generalize (kidSeek p (isPair p.op)).1 = ck
  unfold countB
  rw [gt0_nat]
  generalize (valsSeek p.vals).1 = e1
  generalize (valsSeek p.vals).2 = e2
  revert hz
  generalize (p.vals.length == 0) = z0
  generalize (p.vals.length == 1) = z1
  generalize decide (p.vals.length > 20) = z20
  generalize decide (p.n ≥ 2) = n2
  generalize (p.n == 1) = n1
  generalize (p.n == 0) = n0
  generalize decide (p.n > 12) = n12
  generalize keyB p.kind = kk
  generalize keyB p.name = kn
  generalize (p.kind == []) = ek
  generalize (p.name == []) = en
  rw [show (p.vals.getD (Int.toNat 0) default) = p.vals.getD 0 default from rfl]
  generalize ((p.vals.getD 0 default).kind != 3) = vt
  intro hz
  cases hd : decide (depth ≥ 10) with
  | true => rfl
  | false =>
  generalize p.op = op
  by_cases k0 : op < 1
  · rw [decide_eq_true k0]; rfl
  · by_cases k5 : op > 15
    · rw [decide_eq_false k0, decide_eq_true k5]; rfl
    · have : op = 1 ∨ op = 2 ∨ op = 3 ∨ op = 4 ∨ op = 5 ∨ op = 6 ∨ op = 7 ∨ op = 8 ∨ op = 9 ∨ op = 10 ∨ op = 11 ∨ op = 12 ∨ op = 13 ∨ op = 14 ∨ op = 15 := by omega
      clear k0 k5
      rcases this with h | h | h | h | h | h | h | h | h | h | h | h | h | h | h <;> subst h
      · cases n0 <;> cases ek <;> cases en <;> cases z0 <;> cases n12 <;> cases z20 <;> cases ck <;> cases e1 <;> rfl
      · first | rfl | (cases n2 <;> first | rfl | (cases ek <;> first | rfl | (cases en <;> first | rfl | (cases z0 <;> first | rfl | (cases n12 <;> first | rfl | (cases z20 <;> first | rfl | (cases ck <;> first | rfl | (cases kk <;> first | rfl | (cases kn <;> first | rfl | (cases e1 <;> rfl))))))))))
      · first | rfl | (cases n2 <;> first | rfl | (cases ek <;> first | rfl | (cases en <;> first | rfl | (cases z0 <;> first | rfl | (cases n12 <;> first | rfl | (cases z20 <;> first | rfl | (cases ck <;> first | rfl | (cases kk <;> first | rfl | (cases kn <;> first | rfl | (cases e1 <;> rfl))))))))))
      · first | rfl | (cases n1 <;> first | rfl | (cases ek <;> first | rfl | (cases en <;> first | rfl | (cases z0 <;> first | rfl | (cases n12 <;> first | rfl | (cases z20 <;> first | rfl | (cases ck <;> first | rfl | (cases kk <;> first | rfl | (cases kn <;> first | rfl | (cases e1 <;> rfl))))))))))
      · first | rfl | (cases n0 <;> first | rfl | (cases ek <;> first | rfl | (cases en <;> first | rfl | (cases z0 <;> first | rfl | (cases n12 <;> first | rfl | (cases z20 <;> first | rfl | (cases ck <;> first | rfl | (cases kk <;> first | rfl | (cases kn <;> first | rfl | (cases e1 <;> rfl))))))))))
      · first | rfl | (cases n0 <;> first | rfl | (cases z0 <;> first | rfl | (cases n12 <;> first | rfl | (cases z20 <;> first | rfl | (cases ck <;> first | rfl | (cases kk <;> first | rfl | (cases kn <;> first | rfl | (cases e1 <;> rfl))))))))
      · cases z1 <;> cases z0 <;> first | exact absurd hz (by decide) | (first | rfl | (cases n0 <;> first | rfl | (cases n12 <;> first | rfl | (cases z20 <;> first | rfl | (cases ck <;> first | rfl | (cases kk <;> first | rfl | (cases kn <;> first | rfl | (cases e1 <;> rfl))))))))
      · first | rfl | (cases n0 <;> first | rfl | (cases z0 <;> first | rfl | (cases n12 <;> first | rfl | (cases z20 <;> first | rfl | (cases ck <;> first | rfl | (cases kk <;> first | rfl | (cases kn <;> first | rfl | (cases e1 <;> rfl))))))))
      · cases z1 <;> cases z0 <;> first | exact absurd hz (by decide) | (first | rfl | (cases n0 <;> first | rfl | (cases n12 <;> first | rfl | (cases z20 <;> first | rfl | (cases ck <;> first | rfl | (cases kk <;> first | rfl | (cases kn <;> first | rfl | (cases e1 <;> first | rfl | (cases vt <;> rfl)))))))))
      · cases z1 <;> cases z0 <;> first | exact absurd hz (by decide) | (first | rfl | (cases n0 <;> first | rfl | (cases n12 <;> first | rfl | (cases z20 <;> first | rfl | (cases ck <;> first | rfl | (cases kk <;> first | rfl | (cases kn <;> first | rfl | (cases e1 <;> first | rfl | (cases vt <;> rfl)))))))))
      · cases z1 <;> cases z0 <;> first | exact absurd hz (by decide) | (first | rfl | (cases n0 <;> first | rfl | (cases n12 <;> first | rfl | (cases z20 <;> first | rfl | (cases ck <;> first | rfl | (cases kk <;> first | rfl | (cases kn <;> first | rfl | (cases e1 <;> first | rfl | (cases vt <;> rfl)))))))))
      · cases z1 <;> cases z0 <;> first | exact absurd hz (by decide) | (first | rfl | (cases n0 <;> first | rfl | (cases n12 <;> first | rfl | (cases z20 <;> first | rfl | (cases ck <;> first | rfl | (cases kk <;> first | rfl | (cases kn <;> first | rfl | (cases e1 <;> rfl))))))))
      · cases z1 <;> cases z0 <;> first | exact absurd hz (by decide) | (first | rfl | (cases n0 <;> first | rfl | (cases n12 <;> first | rfl | (cases z20 <;> first | rfl | (cases ck <;> first | rfl | (cases kk <;> first | rfl | (cases kn <;> first | rfl | (cases e1 <;> rfl))))))))
      · cases z1 <;> cases z0 <;> first | exact absurd hz (by decide) | (first | rfl | (cases n0 <;> first | rfl | (cases n12 <;> first | rfl | (cases z20 <;> first | rfl | (cases ck <;> first | rfl | (cases kk <;> first | rfl | (cases kn <;> first | rfl | (cases e1 <;> rfl))))))))
      · cases z1 <;> cases z0 <;> first | exact absurd hz (by decide) | (first | rfl | (cases n0 <;> first | rfl | (cases n12 <;> first | rfl | (cases z20 <;> first | rfl | (cases ck <;> first | rfl | (cases kk <;> first | rfl | (cases kn <;> first | rfl | (cases e1 <;> rfl))))))))
theorem ge2_cast (n : Nat) : decide ((n : Int) ≥ 2) = decide (n ≥ 2) := by
  by_cases h : n ≥ 2
  · rw [decide_eq_true h, decide_eq_true (by omega)]
  · rw [decide_eq_false h, decide_eq_false (by omega)]
theorem kidSeek_zero (p : PART) (b : Bool) (h : p.n = 0) : (kidSeek p b).1 = false := by
  unfold kidSeek seek
  rw [scanAt_end _ _ _ (by omega)]
theorem rpart_ok (p : PART) (hp : p.Ok) : Ct V.P V.G 107 [.agg p.c] [] (φE (partE p)) := by
  obtain ⟨a1, a2⟩ := seek_at (W1 p) p.n (· + 1) (fun i => bif p.ko i == p.op then p.op != 4 else false) () (W1_inj p)
  obtain ⟨b1, b2⟩ := scan_start (W2 p) p.vals.length (· + 1) (valsStop p.vals) (W2_inj p)
  refine ct_loops (n := 9) (d := 9) (T := [entF 115 valA1 VAL.Ok checkE φE, entF 67 strA lenS keyB φB]) mixed funcs (tabOk_cons (entF_ok fun v hv => rcheck_ok v hv) (tabOk_cons (entF_ok fun s hs => rkey_ok s hs) tabOk_nil)) (loopsOk_cons (rpart_loop1 p hp _ _) (loopsOk_cons (rpart_loop2 p hp _ _ _) loopsOk_nil)) ?_
  refine (rpart_m gV vV gS (vS keyB) _ _ _ _ p a2 b2).trans ?_
  rw [a1, b1, gS_eq hp.1, gS_eq hp.2.1, vS_eq _ hp.1, vS_eq _ hp.2.1, ge2_cast, eq_zero, eq_zero, gt0_cast, beq1_cast, beq1_cast, gt12_cast, gt20_cast, within0]
  rw [show seek p.n (· + 1) (fun i => bif p.ko i == p.op then p.op != 4 else false) () = kidSeek p (p.op != 4) from rfl, show scanAt p.vals.length (· + 1) (valsStop p.vals) 0 = valsSeek p.vals from rfl]
  have hz : ((p.vals.length == 0) && (p.vals.length == 1)) = false := by
    by_cases h : p.vals.length = 0
    · rw [h]; rfl
    · rw [beq_eq_false_iff_ne.2 h]; rfl
  have h24 : (isPair p.op || p.op == 4) = true → (kidSeek p (p.op != 4)).1 = (kidSeek p (isPair p.op)).1 := by
    intro h
    have : (p.op != 4) = isPair p.op := by
      unfold isPair at h ⊢
      by_cases e : p.op = 4
      · rw [e]; rfl
      · have e1 : (p.op == 4) = false := beq_eq_false_iff_ne.2 e
        rw [e1, Bool.or_false] at h
        rw [h, show (p.op != 4) = !(p.op == 4) from rfl, e1]; rfl
    rw [this]
  have h0 : (p.n == 0) = true → (kidSeek p (isPair p.op)).1 = false ∧ (kidSeek p (p.op != 4)).1 = false := fun h =>
    ⟨kidSeek_zero p _ (by simpa using h), kidSeek_zero p _ (by simpa using h)⟩
  unfold partE
  revert h24 h0
  generalize (kidSeek p (isPair p.op)).1 = ck
  generalize (kidSeek p (p.op != 4)).1 = cq
  unfold countB
  rw [gt0_nat]
  generalize (valsSeek p.vals).1 = e1
  generalize (valsSeek p.vals).2 = e2
  revert hz
  generalize (p.vals.length == 0) = z0
  generalize (p.vals.length == 1) = z1
  generalize decide (p.vals.length > 20) = z20
  generalize decide (p.n ≥ 2) = n2
  generalize (p.n == 1) = n1
  generalize (p.n == 0) = n0
  generalize decide (p.n > 12) = n12
  generalize keyB p.kind = kk
  generalize keyB p.name = kn
  generalize (p.kind == []) = ek
  generalize (p.name == []) = en
  rw [show (p.vals.getD (Int.toNat 0) default) = p.vals.getD 0 default from rfl]
  generalize ((p.vals.getD 0 default).kind != 3) = vt
  generalize p.op = op
  intro hz h24 h0
  by_cases k0 : op < 1
  · rw [decide_eq_true k0]; rfl
  · by_cases k5 : op > 15
    · rw [decide_eq_false k0, decide_eq_true k5]; rfl
    · have : op = 1 ∨ op = 2 ∨ op = 3 ∨ op = 4 ∨ op = 5 ∨ op = 6 ∨ op = 7 ∨ op = 8 ∨ op = 9 ∨ op = 10 ∨ op = 11 ∨ op = 12 ∨ op = 13 ∨ op = 14 ∨ op = 15 := by omega
      clear k0 k5
      rcases this with h | h | h | h | h | h | h | h | h | h | h | h | h | h | h <;> subst h
      · cases n0 with
        | false => first | rfl | (cases z0 <;> first | rfl | (cases ek <;> first | rfl | (cases en <;> first | rfl | (cases n12 <;> first | rfl | (cases z20 <;> first | rfl | (cases ck <;> first | rfl | (cases kk <;> first | rfl | (cases kn <;> first | rfl | (cases e1 <;> rfl)))))))))
        | true => obtain ⟨rfl, rfl⟩ := h0 rfl; first | rfl | (cases z0 <;> first | rfl | (cases ek <;> first | rfl | (cases en <;> first | rfl | (cases n12 <;> first | rfl | (cases z20 <;> first | rfl | (first | rfl | (cases kk <;> first | rfl | (cases kn <;> first | rfl | (cases e1 <;> rfl)))))))))
      · obtain rfl := h24 rfl; first | rfl | (cases n2 <;> first | rfl | (cases z0 <;> first | rfl | (cases ek <;> first | rfl | (cases en <;> first | rfl | (cases n12 <;> first | rfl | (cases z20 <;> first | rfl | (cases cq <;> first | rfl | (cases kk <;> first | rfl | (cases kn <;> first | rfl | (cases e1 <;> rfl))))))))))
      · obtain rfl := h24 rfl; first | rfl | (cases n2 <;> first | rfl | (cases z0 <;> first | rfl | (cases ek <;> first | rfl | (cases en <;> first | rfl | (cases n12 <;> first | rfl | (cases z20 <;> first | rfl | (cases cq <;> first | rfl | (cases kk <;> first | rfl | (cases kn <;> first | rfl | (cases e1 <;> rfl))))))))))
      · obtain rfl := h24 rfl; first | rfl | (cases n1 <;> first | rfl | (cases z0 <;> first | rfl | (cases ek <;> first | rfl | (cases en <;> first | rfl | (cases n12 <;> first | rfl | (cases z20 <;> first | rfl | (cases cq <;> first | rfl | (cases kk <;> first | rfl | (cases kn <;> first | rfl | (cases e1 <;> rfl))))))))))
      · cases n0 with
        | false => first | rfl | (cases z0 <;> first | rfl | (cases ek <;> first | rfl | (cases en <;> first | rfl | (cases n12 <;> first | rfl | (cases z20 <;> first | rfl | (cases ck <;> first | rfl | (cases kk <;> first | rfl | (cases kn <;> first | rfl | (cases e1 <;> rfl)))))))))
        | true => obtain ⟨rfl, rfl⟩ := h0 rfl; first | rfl | (cases z0 <;> first | rfl | (cases ek <;> first | rfl | (cases en <;> first | rfl | (cases n12 <;> first | rfl | (cases z20 <;> first | rfl | (first | rfl | (cases kk <;> first | rfl | (cases kn <;> first | rfl | (cases e1 <;> rfl)))))))))
      · cases n0 with
        | false => first | rfl | (cases z0 <;> first | rfl | (cases n12 <;> first | rfl | (cases z20 <;> first | rfl | (cases ck <;> first | rfl | (cases kk <;> first | rfl | (cases kn <;> first | rfl | (cases e1 <;> rfl)))))))
        | true => obtain ⟨rfl, rfl⟩ := h0 rfl; first | rfl | (cases z0 <;> first | rfl | (cases n12 <;> first | rfl | (cases z20 <;> first | rfl | (first | rfl | (cases kk <;> first | rfl | (cases kn <;> first | rfl | (cases e1 <;> rfl)))))))
      · cases n0 with
        | false => cases z1 <;> cases z0 <;> first | exact absurd hz (by decide) | (first | rfl | (cases n12 <;> first | rfl | (cases z20 <;> first | rfl | (cases ck <;> first | rfl | (cases kk <;> first | rfl | (cases kn <;> first | rfl | (cases e1 <;> rfl)))))))
        | true => obtain ⟨rfl, rfl⟩ := h0 rfl; cases z1 <;> cases z0 <;> first | exact absurd hz (by decide) | (first | rfl | (cases n12 <;> first | rfl | (cases z20 <;> first | rfl | (first | rfl | (cases kk <;> first | rfl | (cases kn <;> first | rfl | (cases e1 <;> rfl)))))))
      · cases n0 with
        | false => first | rfl | (cases z0 <;> first | rfl | (cases n12 <;> first | rfl | (cases z20 <;> first | rfl | (cases ck <;> first | rfl | (cases kk <;> first | rfl | (cases kn <;> first | rfl | (cases e1 <;> rfl)))))))
        | true => obtain ⟨rfl, rfl⟩ := h0 rfl; first | rfl | (cases z0 <;> first | rfl | (cases n12 <;> first | rfl | (cases z20 <;> first | rfl | (first | rfl | (cases kk <;> first | rfl | (cases kn <;> first | rfl | (cases e1 <;> rfl)))))))
      · cases n0 with
        | false => cases z1 <;> cases z0 <;> first | exact absurd hz (by decide) | (first | rfl | (cases n12 <;> first | rfl | (cases z20 <;> first | rfl | (cases ck <;> first | rfl | (cases kk <;> first | rfl | (cases kn <;> first | rfl | (cases e1 <;> first | rfl | (cases vt <;> rfl))))))))
        | true => obtain ⟨rfl, rfl⟩ := h0 rfl; cases z1 <;> cases z0 <;> first | exact absurd hz (by decide) | (first | rfl | (cases n12 <;> first | rfl | (cases z20 <;> first | rfl | (first | rfl | (cases kk <;> first | rfl | (cases kn <;> first | rfl | (cases e1 <;> first | rfl | (cases vt <;> rfl))))))))
      · cases n0 with
        | false => cases z1 <;> cases z0 <;> first | exact absurd hz (by decide) | (first | rfl | (cases n12 <;> first | rfl | (cases z20 <;> first | rfl | (cases ck <;> first | rfl | (cases kk <;> first | rfl | (cases kn <;> first | rfl | (cases e1 <;> first | rfl | (cases vt <;> rfl))))))))
        | true => obtain ⟨rfl, rfl⟩ := h0 rfl; cases z1 <;> cases z0 <;> first | exact absurd hz (by decide) | (first | rfl | (cases n12 <;> first | rfl | (cases z20 <;> first | rfl | (first | rfl | (cases kk <;> first | rfl | (cases kn <;> first | rfl | (cases e1 <;> first | rfl | (cases vt <;> rfl))))))))
      · cases n0 with
        | false => cases z1 <;> cases z0 <;> first | exact absurd hz (by decide) | (first | rfl | (cases n12 <;> first | rfl | (cases z20 <;> first | rfl | (cases ck <;> first | rfl | (cases kk <;> first | rfl | (cases kn <;> first | rfl | (cases e1 <;> first | rfl | (cases vt <;> rfl))))))))
        | true => obtain ⟨rfl, rfl⟩ := h0 rfl; cases z1 <;> cases z0 <;> first | exact absurd hz (by decide) | (first | rfl | (cases n12 <;> first | rfl | (cases z20 <;> first | rfl | (first | rfl | (cases kk <;> first | rfl | (cases kn <;> first | rfl | (cases e1 <;> first | rfl | (cases vt <;> rfl))))))))
      · cases n0 with
        | false => cases z1 <;> cases z0 <;> first | exact absurd hz (by decide) | (first | rfl | (cases n12 <;> first | rfl | (cases z20 <;> first | rfl | (cases ck <;> first | rfl | (cases kk <;> first | rfl | (cases kn <;> first | rfl | (cases e1 <;> rfl)))))))
        | true => obtain ⟨rfl, rfl⟩ := h0 rfl; cases z1 <;> cases z0 <;> first | exact absurd hz (by decide) | (first | rfl | (cases n12 <;> first | rfl | (cases z20 <;> first | rfl | (first | rfl | (cases kk <;> first | rfl | (cases kn <;> first | rfl | (cases e1 <;> rfl)))))))
      · cases n0 with
        | false => cases z1 <;> cases z0 <;> first | exact absurd hz (by decide) | (first | rfl | (cases n12 <;> first | rfl | (cases z20 <;> first | rfl | (cases ck <;> first | rfl | (cases kk <;> first | rfl | (cases kn <;> first | rfl | (cases e1 <;> rfl)))))))
        | true => obtain ⟨rfl, rfl⟩ := h0 rfl; cases z1 <;> cases z0 <;> first | exact absurd hz (by decide) | (first | rfl | (cases n12 <;> first | rfl | (cases z20 <;> first | rfl | (first | rfl | (cases kk <;> first | rfl | (cases kn <;> first | rfl | (cases e1 <;> rfl)))))))
      · cases n0 with
        | false => cases z1 <;> cases z0 <;> first | exact absurd hz (by decide) | (first | rfl | (cases n12 <;> first | rfl | (cases z20 <;> first | rfl | (cases ck <;> first | rfl | (cases kk <;> first | rfl | (cases kn <;> first | rfl | (cases e1 <;> rfl)))))))
        | true => obtain ⟨rfl, rfl⟩ := h0 rfl; cases z1 <;> cases z0 <;> first | exact absurd hz (by decide) | (first | rfl | (cases n12 <;> first | rfl | (cases z20 <;> first | rfl | (first | rfl | (cases kk <;> first | rfl | (cases kn <;> first | rfl | (cases e1 <;> rfl)))))))
      · cases n0 with
        | false => cases z1 <;> cases z0 <;> first | exact absurd hz (by decide) | (first | rfl | (cases n12 <;> first | rfl | (cases z20 <;> first | rfl | (cases ck <;> first | rfl | (cases kk <;> first | rfl | (cases kn <;> first | rfl | (cases e1 <;> rfl)))))))
        | true => obtain ⟨rfl, rfl⟩ := h0 rfl; cases z1 <;> cases z0 <;> first | exact absurd hz (by decide) | (first | rfl | (cases n12 <;> first | rfl | (cases z20 <;> first | rfl | (first | rfl | (cases kk <;> first | rfl | (cases kn <;> first | rfl | (cases e1 <;> rfl)))))))
end Go.SH

namespace Go.SH
open Go Go.Ab Go.Proofs
set_option linter.unusedVariables false
set_option linter.unusedSimpArgs false
namespace EXP
/-- The cells of a condition. -/
def x (e : EXP) : List AV := expC e.op e.kind e.name e.vals e.kids.length (row e.kids)
theorem x_eq (e : EXP) : e.x = e.c := e.c_eq.symm
/-- The i-th kid. -/
def kid (e : EXP) (j : Nat) : EXP := e.kids.getD j default
/-- A condition with its kids' cells told apart. -/
def part (e : EXP) : PART := ⟨e.op, e.kind, e.name, e.vals, e.kids.length, fun j => (e.kid j).op, fun j => (e.kid j).kind, fun j => (e.kid j).name, fun j => (e.kid j).vals, fun j => (e.kid j).kids.length, fun j => bif Nat.blt j e.kids.length then row (e.kid j).kids else fun _ => []⟩
theorem part_eq (e : EXP) : e.part.c = e.c := by
  rw [c_eq]
  unfold PART.c expC part
  simp only [List.cons.injEq, AV.sl.injEq, true_and, and_true]
  funext j
  by_cases h : j < e.kids.length
  · rw [bltT h, row_at h, c_eq]
    rfl
  · have hb : Nat.blt j e.kids.length = false := by
      cases e' : Nat.blt j e.kids.length with
      | false => rfl
      | true => exact absurd (ltB e') h
    rw [hb]
    unfold kid row
    simp only [List.getD, List.getElem?_map, List.getElem?_eq_none (Nat.le_of_not_lt h), Option.map_none, Option.getD_none, cond_false]
    rfl
theorem valL_inj {a b : List VAL} (h : valL a = valL b) : a = b := by
  unfold valL at h
  simp only [AV.sl.injEq, true_and] at h
  obtain ⟨h1, h2⟩ := h
  apply List.ext_getElem h1
  intro i hi hj
  have := congrFun h2 i
  simp only [List.getD, List.getElem?_eq_getElem hi, List.getElem?_eq_getElem hj, Option.getD_some] at this
  exact VAL.c_inj this
theorem c_inj : ∀ (a b : EXP), a.c = b.c → a = b
  | .mk o k n v ks, .mk o' k' n' v' ks', h => by
    rw [c_eq, c_eq] at h
    unfold expC at h
    simp only [List.cons.injEq, AV.int.injEq, AV.str.injEq, AV.sl.injEq, true_and, and_true] at h
    obtain ⟨h1, h2, h3, h4, h5, h6⟩ := h
    replace h4 := valL_inj h4
    simp only [op, kind, name, vals, kids] at h1 h2 h3 h4 h5 h6
    subst h1 h2 h3 h4
    have hk : ks = ks' := List.ext_getElem h5 fun j j1 j2 => by
      have hm := List.sizeOf_lt_of_mem (List.getElem_mem j1)
      have := congrFun h6 j
      rw [row_at j1, row_at j2] at this
      simp only [List.getD, List.getElem?_eq_getElem j1, List.getElem?_eq_getElem j2, Option.getD_some] at this
      exact c_inj _ _ this
    rw [hk]
  termination_by a => SizeOf.sizeOf a
  decreasing_by simp_wf; omega
inductive Ok : EXP → Prop
  | mk (e : EXP) : lenS e.kind → lenS e.name → valsOk e.vals → e.kids.length ≤ 1048576 → (∀ k ∈ e.kids, Ok k) → Ok e
theorem Ok.part {e : EXP} (h : e.Ok) : e.part.Ok := by
  cases h with
  | mk _ h1 h2 h3 h4 _ => exact ⟨h1, h2, h3, by show e.kids.length ≤ _; omega⟩
theorem Ok.kid {e : EXP} (h : e.Ok) {j : Nat} (hj : j < e.kids.length) : (e.kid j).Ok := by
  cases h with
  | mk _ h1 h2 h3 h4 h5 =>
    unfold EXP.kid
    rw [List.getD_eq_getElem?_getD, List.getElem?_eq_getElem hj]
    exact h5 _ (List.getElem_mem hj)
end EXP
/-- The first error of a part at a level. -/
def levelE (e : EXP) (d : Nat) : Int := bif decide (d ≥ 10) then 18 else partE e.part
mutual
/-- The first error of a condition and how many parts were counted. -/
def walkE : EXP → Nat → Nat → Int × Nat
  | .mk o k nm v ks, d, n => bif decide (n ≥ 60) then (5, n) else bif levelE (.mk o k nm v ks) d != 0 then (levelE (.mk o k nm v ks) d, n + 1) else walkL ks (d + 1) (n + 1)
def walkL : List EXP → Nat → Nat → Int × Nat
  | [], _, n => (0, n)
  | e :: r, d, n => bif (walkE e d n).1 != 0 then walkE e d n else walkL r d (walkE e d n).2
end
theorem walkE_eq (e : EXP) (d n : Nat) : walkE e d n = bif decide (n ≥ 60) then (5, n) else bif levelE e d != 0 then (levelE e d, n + 1) else walkL e.kids (d + 1) (n + 1) := by
  cases e with
  | mk o k nm v ks => rw [walkE]; rfl
/-- The walk over the kids from the i-th on. -/
def walkI (l : List EXP) (d i n : Nat) : Int × Nat := walkL (l.drop i) d n
theorem walkI_end (l : List EXP) (d n : Nat) {i : Nat} (h : ¬ i < l.length) : walkI l d i n = (0, n) := by
  unfold walkI
  rw [List.drop_eq_nil_of_le (by omega), walkL]
theorem walkI_step (l : List EXP) (d n : Nat) {i : Nat} (h : i < l.length) : walkI l d i n = bif (walkE (l.getD i default) d n).1 != 0 then walkE (l.getD i default) d n else walkI l d (i + 1) (walkE (l.getD i default) d n).2 := by
  unfold walkI
  rw [List.drop_eq_getElem_cons h, walkL]
  simp only [List.getD, List.getElem?_eq_getElem h, Option.getD_some]
def exprE (e : EXP) : Int := (walkE e 0 0).1
/-- Is a condition too large to be looked at. -/
def sizeI (e : EXP) : Int := ((e.kids.length + e.vals.length : Nat) : Int)
mutual
def bigB : EXP → Bool
  | .mk o k nm v ks => (bif decide (ks.length + v.length < 200) then bigL ks else false) || decide (ks.length + v.length ≥ 200)
def bigL : List EXP → Bool
  | [] => false
  | e :: r => bigB e || bigL r
end
def bigI (l : List EXP) (i : Nat) : Bool := bigL (l.drop i)
theorem bigB_eq (e : EXP) : bigB e = ((bif decide (e.kids.length + e.vals.length < 200) then bigL e.kids else false) || decide (e.kids.length + e.vals.length ≥ 200)) := by
  cases e with
  | mk o k nm v ks => rw [bigB]; rfl
theorem bigI_end (l : List EXP) {i : Nat} (h : ¬ i < l.length) : bigI l i = false := by
  unfold bigI
  rw [List.drop_eq_nil_of_le (by omega), bigL]
theorem bigI_step (l : List EXP) {i : Nat} (h : i < l.length) : bigI l i = (bigB (l.getD i default) || bigI l (i + 1)) := by
  unfold bigI
  rw [List.drop_eq_getElem_cons h, bigL]
  simp only [List.getD, List.getElem?_eq_getElem h, Option.getD_some]
end Go.SH

namespace Go.SH
open Go Go.Ab Go.Proofs
set_option linter.unusedVariables false
set_option linter.unusedSimpArgs false
structure SERVE where
  var : Int
  kind : List UInt8
  by' : List UInt8
  salt : List UInt8
  split : List (Int × Int × Int)
def SERVE.c (v : SERVE) : List AV := [.int .i64 v.var, .str v.kind, .str v.by', .str v.salt, rngL v.split]
set_option maxRecDepth 100000 in
theorem serve_m (gk vk gv vv : List AV → List AO → Bool) (gs : List AV → List AO → Bool) (vs : List AV → List AO → Int) (v : SERVE) (n : Int) {t1 : Int} (h_t1 : vs [rngL (SERVE.split v), .int .i64 n] [] = t1) : runF (V.run [mkE 65 gk vk φB, mkE 66 gv vv φB, mkE 23 gs vs φE] 9 [] [] [] 32) 9 32 [.agg v.c, .int .i64 n] [] =
  cond (SERVE.var v != 0) (cond (bif decide (SERVE.var v < 1) then true else decide (SERVE.var v > n)) (cond (bif bif bif !SERVE.kind v == [] then true else !SERVE.by' v == [] then true else !SERVE.salt v == [] then true else decide ((↑(List.length (SERVE.split v)) : Int) > 0)) (some ((.int .i64 3, []))) (some ((.int .i64 3, [])))) (cond (bif bif bif !SERVE.kind v == [] then true else !SERVE.by' v == [] then true else !SERVE.salt v == [] then true else decide ((↑(List.length (SERVE.split v)) : Int) > 0)) (some ((.int .i64 15, []))) (some ((.int .i64 0, []))))) (cond (gk [.str (SERVE.kind v)] []) (cond (gk [.str (SERVE.by' v)] []) (cond (bif !vk [.str (SERVE.kind v)] [] then true else !vk [.str (SERVE.by' v)] []) (cond (gv [.str (SERVE.salt v)] []) (cond (!vv [.str (SERVE.salt v)] []) (cond (gs [rngL (SERVE.split v), .int .i64 n] []) (some ((.int .i64 6, []))) (none)) (cond (gs [rngL (SERVE.split v), .int .i64 n] []) (some ((.int .i64 6, []))) (none))) (none)) (cond (gv [.str (SERVE.salt v)] []) (cond (!vv [.str (SERVE.salt v)] []) (cond (gs [rngL (SERVE.split v), .int .i64 n] []) (some ((.int .i64 2, []))) (none)) (cond (gs [rngL (SERVE.split v), .int .i64 n] []) (cond (t1 != 0) (some ((.int .i64 t1, []))) (some ((.int .i64 0, [])))) (none))) (none))) (none)) (none)) := by subst h_t1; kernel_rfl
set_option maxRecDepth 100000 in
theorem rserve_m (gk vk gv vv : List AV → List AO → Bool) (gs : List AV → List AO → Bool) (vs : List AV → List AO → Int) (v : SERVE) (n : Int) {t1 : Int} (h_t1 : vs [rngL (SERVE.split v), .int .i64 n] [] = t1) : runF (V.run [mkE 67 gk vk φB, mkE 68 gv vv φB, mkE 24 gs vs φE] 9 [] [] [] 33) 9 33 [.agg v.c, .int .i64 n] [] =
  cond (SERVE.var v != 0) (cond (bif decide (SERVE.var v < 1) then true else decide (SERVE.var v > n)) (some ((.int .i64 3, []))) (cond (bif bif bif !SERVE.kind v == [] then true else !SERVE.by' v == [] then true else !SERVE.salt v == [] then true else decide ((↑(List.length (SERVE.split v)) : Int) > 0)) (some ((.int .i64 15, []))) (some ((.int .i64 0, []))))) (cond (gk [.str (SERVE.kind v)] []) (cond (gk [.str (SERVE.by' v)] []) (cond (bif !vk [.str (SERVE.kind v)] [] then true else !vk [.str (SERVE.by' v)] []) (some ((.int .i64 6, []))) (cond (gv [.str (SERVE.salt v)] []) (cond (!vv [.str (SERVE.salt v)] []) (some ((.int .i64 2, []))) (cond (gs [rngL (SERVE.split v), .int .i64 n] []) (some ((.int .i64 t1, []))) (none))) (none))) (none)) (none)) := by subst h_t1; kernel_rfl

def SERVE.Ok (v : SERVE) : Prop := lenS v.kind ∧ lenS v.by' ∧ lenS v.salt ∧ v.split.length ≤ 4611686018427387904
def serveE (v : SERVE) (n : Int) : Int :=
  bif v.var != 0 then (bif decide (v.var < 1) || decide (v.var > n) then 3 else
    bif !(v.kind == []) || (!(v.by' == []) || (!(v.salt == []) || decide ((v.split.length : Int) > 0))) then 15 else 0)
  else bif !keyB v.kind || !keyB v.by' then 6 else bif !validB v.salt then 2 else splitE v.split n
theorem ne_zero_id (e : Int) : (cond (e != 0) (some ((AV.int .i64 e, ([] : List AO)))) (some ((.int .i64 0, [])))) = some (.int .i64 e, []) := by
  by_cases h : e = 0
  · subst h; rfl
  · rw [show (e != 0) = true by simp [h]]; rfl
section
variable (hu : UtfOk)
include hu
theorem serve_ok (v : SERVE) (n : Int) (hv : v.Ok) : Ct V.P V.G 32 [.agg v.c, .int .i64 n] [] (φE (serveE v n)) := by
  obtain ⟨h1, h2, h3, h4⟩ := hv
  refine ct_loops (d := 9) (n := 9) (T := [entF 65 strA lenS keyB φB, entF 66 strA lenS validB φB, ent1 23 [rngL v.split, .int .i64 n] (splitE v.split n) φE]) mixed funcs
    (tabOk_cons (entF_ok fun s _ => key_ok s) (tabOk_cons (entF_ok fun s hs => valid_ok hu s hs) (tabOk_cons (ent1_ok (split_ok _ _ h4)) tabOk_nil))) loopsOk_nil ?_
  refine (serve_m gS (vS keyB) gS (vS validB) (g1 [rngL v.split, .int .i64 n]) (v1 [rngL v.split, .int .i64 n] (splitE v.split n)) v n (v1_eq _ _)).trans ?_
  rw [gS_eq h1, gS_eq h2, gS_eq h3, vS_eq _ h1, vS_eq _ h2, vS_eq _ h3, g1_eq, ne_zero_id]
  unfold serveE φE
  cases (v.var != 0)
  · cases keyB v.kind <;> cases keyB v.by' <;> cases validB v.salt <;> rfl
  · cases decide (v.var < 1) <;> cases decide (v.var > n) <;> cases (v.kind == []) <;> cases (v.by' == []) <;> cases (v.salt == []) <;> cases decide ((v.split.length : Int) > 0) <;> rfl
theorem rserve_ok (v : SERVE) (n : Int) (hv : v.Ok) : Ct V.P V.G 33 [.agg v.c, .int .i64 n] [] (φE (serveE v n)) := by
  obtain ⟨h1, h2, h3, h4⟩ := hv
  refine ct_loops (d := 9) (n := 9) (T := [entF 67 strA lenS keyB φB, entF 68 strA lenS validB φB, ent1 24 [rngL v.split, .int .i64 n] (splitE v.split n) φE]) mixed funcs
    (tabOk_cons (entF_ok fun s hs => rkey_ok s hs) (tabOk_cons (entF_ok fun s hs => rvalid_ok hu s hs) (tabOk_cons (ent1_ok (rsplit_ok _ _ h4)) tabOk_nil))) loopsOk_nil ?_
  refine (rserve_m gS (vS keyB) gS (vS validB) (g1 [rngL v.split, .int .i64 n]) (v1 [rngL v.split, .int .i64 n] (splitE v.split n)) v n (v1_eq _ _)).trans ?_
  rw [gS_eq h1, gS_eq h2, gS_eq h3, vS_eq _ h1, vS_eq _ h2, vS_eq _ h3, g1_eq]
  unfold serveE φE
  cases (v.var != 0)
  · cases keyB v.kind <;> cases keyB v.by' <;> cases validB v.salt <;> rfl
  · cases decide (v.var < 1) <;> cases decide (v.var > n) <;> cases (v.kind == []) <;> cases (v.by' == []) <;> cases (v.salt == []) <;> cases decide ((v.split.length : Int) > 0) <;> rfl
end
end Go.SH

namespace Go.SH
open Go Go.Ab Go.Proofs
set_option linter.unusedVariables false
set_option linter.unusedSimpArgs false
structure PRQ where
  flag : List UInt8
  var : Int
instance : Inhabited PRQ := ⟨⟨[], 0⟩⟩
def PRQ.c (p : PRQ) : List AV := [.str p.flag, .int .i64 p.var]
def prqL (l : List PRQ) : AV := .sl .no 2 l.length fun j => (l.getD j default).c
structure TGT where
  kind : List UInt8
  var : Int
  keys : List (List UInt8)
instance : Inhabited TGT := ⟨⟨[], 0, []⟩⟩
def TGT.c (p : TGT) : List AV := [.str p.kind, .int .i64 p.var, strsA p.keys]
def tgtL (l : List TGT) : AV := .sl .no 3 l.length fun j => (l.getD j default).c
instance : Inhabited SERVE := ⟨⟨0, [], [], [], []⟩⟩
structure RULE where
  name : List UInt8
  when : EXP
  serve : SERVE
instance : Inhabited RULE := ⟨⟨[], default, default⟩⟩
def RULE.c (p : RULE) : List AV := [.str p.name, .int .i64 p.when.op, .str p.when.kind, .str p.when.name, valL p.when.vals, .sl .no 5 p.when.kids.length (EXP.row p.when.kids), .int .i64 p.serve.var, .str p.serve.kind, .str p.serve.by', .str p.serve.salt, rngL p.serve.split]
def rulL (l : List RULE) : AV := .sl .no 11 l.length fun j => (l.getD j default).c
structure FLAG where
  key : List UInt8
  kind : Int
  vars : List VAL
  on : Bool
  off : Int
  prqs : List PRQ
  tgts : List TGT
  rules : List RULE
  dflt : SERVE
def FLAG.c (f : FLAG) : List AV := [.str f.key, .int .i64 f.kind, valL f.vars, .bool f.on, .int .i64 f.off, prqL f.prqs, tgtL f.tgts, rulL f.rules, .int .i64 f.dflt.var, .str f.dflt.kind, .str f.dflt.by', .str f.dflt.salt, rngL f.dflt.split]
structure SEG where
  key : List UInt8
  kind : List UInt8
  incl : List (List UInt8)
  excl : List (List UInt8)
  when : EXP
def SEG.c (g : SEG) : List AV := [.str g.key, .str g.kind, strsA g.incl, strsA g.excl, .int .i64 g.when.op, .str g.when.kind, .str g.when.name, valL g.when.vals, .sl .no 5 g.when.kids.length (EXP.row g.when.kids)]
structure LAYER where
  key : List UInt8
  kind : List UInt8
  salt : List UInt8
  hold : Int
  cool : Int
  cooling : List (Int × Int × Int)
def LAYER.c (l : LAYER) : List AV := [.str l.key, .str l.kind, .str l.salt, .int .i64 l.hold, .int .i64 l.cool, rngL l.cooling]
structure EXPT where
  key : List UInt8
  layer : List UInt8
  flag : List UInt8
  salt : List UInt8
  status : Int
  claims : List (Int × Int)
  arms : List (Int × Int × Int)
  when : EXP
def EXPT.c (x : EXPT) : List AV := [.str x.key, .str x.layer, .str x.flag, .str x.salt, .int .i64 x.status, spnL x.claims, rngL x.arms, .int .i64 x.when.op, .str x.when.kind, .str x.when.name, valL x.when.vals, .sl .no 5 x.when.kids.length (EXP.row x.when.kids)]
def okL {α : Type} (P : α → Prop) (l : List α) : Prop := l.length ≤ 1048576 ∧ ∀ v ∈ l, P v
theorem okL.at {α : Type} [Inhabited α] {P : α → Prop} {l : List α} (h : okL P l) {i : Nat} (hi : i < l.length) : P (l.getD i default) := by
  rw [List.getD_eq_getElem?_getD, List.getElem?_eq_getElem hi]
  exact h.2 _ (List.getElem_mem hi)
theorem okL.big {α : Type} {P : α → Prop} {l : List α} (h : okL P l) : l.length ≤ 4611686018427387904 := Nat.le_trans h.1 (by omega)
def TGT.Ok (t : TGT) : Prop := lenS t.kind ∧ strsOk t.keys
def RULE.Ok (r : RULE) : Prop := lenS r.name ∧ r.when.Ok ∧ r.serve.Ok
def FLAG.Ok (f : FLAG) : Prop := lenS f.key ∧ okL VAL.Ok f.vars ∧ okL (fun p : PRQ => lenS p.flag) f.prqs ∧ okL TGT.Ok f.tgts ∧ okL RULE.Ok f.rules ∧ f.dflt.Ok
def SEG.Ok (g : SEG) : Prop := lenS g.key ∧ lenS g.kind ∧ strsOk g.incl ∧ strsOk g.excl ∧ g.when.Ok
def LAYER.Ok (l : LAYER) : Prop := lenS l.key ∧ lenS l.kind ∧ lenS l.salt ∧ l.cooling.length ≤ 1048576
def EXPT.Ok (x : EXPT) : Prop := lenS x.key ∧ lenS x.layer ∧ lenS x.flag ∧ lenS x.salt ∧ x.claims.length ≤ 1048576 ∧ x.arms.length ≤ 1048576 ∧ x.when.Ok
end Go.SH

namespace Go.SH
open Go Go.Ab Go.Proofs
set_option linter.unusedVariables false
set_option linter.unusedSimpArgs false
def R0 : (Ex → St → Res) → Res := fun k => k (.exit 0) { env := [], objs := [] }
def B70 (l : List PRQ) (i : Nat) : St := { env := [(0, prqL l), (9, prqL l), (10, .int .i64 l.length), (11, .int .i64 i)], objs := [] }
def B74 (l : List PRQ) (i : Nat) : St := { env := [(0, prqL l), (3, .int .i64 i)], objs := [] }
def B71 (l : List TGT) (n : Nat) (i : Nat) : St := { env := [(1, .int .i64 n), (11, tgtL l), (12, .int .i64 l.length), (13, .int .i64 i)], objs := [] }
def B75 (l : List TGT) (n : Nat) (i : Nat) : St := { env := [(0, tgtL l), (1, .int .i64 n), (5, .int .i64 i)], objs := [] }
def B72 (l : List RULE) (n : Nat) (i : Nat) : St := { env := [(0, rulL l), (1, .int .i64 n), (13, rulL l), (14, .int .i64 l.length), (15, .int .i64 i)], objs := [] }
def B72e (l : List RULE) (n : Nat) (i : Nat) : St := { env := [(0, rulL l), (1, .int .i64 n), (6, .ref 6 0), (13, rulL l), (14, .int .i64 l.length), (15, .int .i64 i)], objs := [(6, .cells (l.getD i default).c)] }
def subA (l : List RULE) (i : Nat) : AV := .sl .no 11 i fun j => (l.getD (0 + j) default).c
def B72i (l : List RULE) (n : Nat) (i k : Nat) : St := { env := [(0, rulL l), (1, .int .i64 n), (6, .ref 6 0), (13, rulL l), (14, .int .i64 l.length), (15, .int .i64 i), (26, subA l i), (27, .int .i64 i), (28, .int .i64 k)], objs := [(6, .cells (l.getD i default).c)] }
def B76 (l : List RULE) (n : Nat) (i : Nat) : St := { env := [(0, rulL l), (1, .int .i64 n), (5, .int .i64 i)], objs := [] }
def B76i (l : List RULE) (n : Nat) (i k : Nat) : St := { env := [(0, rulL l), (1, .int .i64 n), (5, .int .i64 i), (6, .int .i64 k)], objs := [] }
def B34 (f : FLAG) (i : Nat) : St := { env := [(1, .ref 1 0), (3, .int .i64 f.vars.length), (38, valL f.vars), (39, .int .i64 f.vars.length), (40, .int .i64 i)], objs := [(1, .cells f.c)] }
def B34e (f : FLAG) : St := { env := [(1, .ref 1 0), (3, .int .i64 f.vars.length)], objs := [(1, .cells f.c)] }
def B73 (f : FLAG) (i : Nat) : St := { env := [(1, .ref 1 0), (3, .int .i64 f.vars.length), (4, .int .i64 i)], objs := [(1, .cells f.c)] }
def B38 (l : LAYER) (i : Nat) : St := { env := [(1, .ref 1 0), (52, rngL l.cooling), (53, .int .i64 l.cooling.length), (54, .int .i64 i)], objs := [(1, .cells l.c)] }
def B39 (l : LAYER) (i : Nat) : St := { env := [(1, .ref 1 0), (3, .int .i64 i)], objs := [(1, .cells l.c)] }
def out72 (l : List RULE) (n : Nat) (x : Nat × Bool) (k : Ex → St → Res) : Res := cond x.2 (k .ret { env := [(4, .int .i64 10)], objs := [] }) (k (.exit 2) (B72e l n x.1))
def out76 (l : List RULE) (n : Nat) (x : Nat × Bool) (k : Ex → St → Res) : Res := cond x.2 (k .ret { env := [(4, .int .i64 10)], objs := [] }) (k (.exit 2) (B76 l n x.1))
set_option maxRecDepth 100000 in
theorem prq_r (gk vk : List AV → List AO → Bool) (L : List (List Nat × Orc)) (m : Nat) (l : List PRQ) (i : Nat) (kn : St → Res) (k : Ex → St → Res)  : roundR (V.run [mkE 65 gk vk φB] 9 [] L [] 70) 70 m [1, 1, 0, 1, 0] (B70 l i) kn k =
  cond (decide ((↑i : Int) < (↑(List.length l) : Int))) (cond (within (↑i : Int) (List.length l)) (cond (gk [.str (PRQ.flag (List.getD l (Int.toNat (↑i : Int)) default))] []) (cond (!vk [.str (PRQ.flag (List.getD l (Int.toNat (↑i : Int)) default))] []) (cond (bif within (bif decide (0 > IntKind.wrap IntKind.i64 ((↑i : Int) - 1)) then 0 else IntKind.wrap IntKind.i64 ((↑i : Int) - 1)) (List.length l) then true else !bif decide ((↑i : Int) > 0) == true then true else false) (cond (bif decide ((↑i : Int) > 0) then bytesLt (PRQ.flag (List.getD l (Int.toNat (↑i : Int)) default)) (PRQ.flag (List.getD l (Int.toNat (bif decide (0 > IntKind.wrap IntKind.i64 ((↑i : Int) - 1)) then 0 else IntKind.wrap IntKind.i64 ((↑i : Int) - 1))) default)) || PRQ.flag (List.getD l (Int.toNat (↑i : Int)) default) == PRQ.flag (List.getD l (Int.toNat (bif decide (0 > IntKind.wrap IntKind.i64 ((↑i : Int) - 1)) then 0 else IntKind.wrap IntKind.i64 ((↑i : Int) - 1))) default) else false) (cond (bif decide (PRQ.var (List.getD l (Int.toNat (↑i : Int)) default) < 1) then true else decide (PRQ.var (List.getD l (Int.toNat (↑i : Int)) default) > 8)) (k (.ret) ({ env := [(2, .int .i64 6)], objs := [] })) (k (.ret) ({ env := [(2, .int .i64 6)], objs := [] }))) (cond (bif decide (PRQ.var (List.getD l (Int.toNat (↑i : Int)) default) < 1) then true else decide (PRQ.var (List.getD l (Int.toNat (↑i : Int)) default) > 8)) (k (.ret) ({ env := [(2, .int .i64 6)], objs := [] })) (k (.ret) ({ env := [(2, .int .i64 6)], objs := [] })))) (none)) (cond (bif within (bif decide (0 > IntKind.wrap IntKind.i64 ((↑i : Int) - 1)) then 0 else IntKind.wrap IntKind.i64 ((↑i : Int) - 1)) (List.length l) then true else !bif decide ((↑i : Int) > 0) == true then true else false) (cond (bif decide ((↑i : Int) > 0) then bytesLt (PRQ.flag (List.getD l (Int.toNat (↑i : Int)) default)) (PRQ.flag (List.getD l (Int.toNat (bif decide (0 > IntKind.wrap IntKind.i64 ((↑i : Int) - 1)) then 0 else IntKind.wrap IntKind.i64 ((↑i : Int) - 1))) default)) || PRQ.flag (List.getD l (Int.toNat (↑i : Int)) default) == PRQ.flag (List.getD l (Int.toNat (bif decide (0 > IntKind.wrap IntKind.i64 ((↑i : Int) - 1)) then 0 else IntKind.wrap IntKind.i64 ((↑i : Int) - 1))) default) else false) (cond (bif decide (PRQ.var (List.getD l (Int.toNat (↑i : Int)) default) < 1) then true else decide (PRQ.var (List.getD l (Int.toNat (↑i : Int)) default) > 8)) (k (.ret) ({ env := [(2, .int .i64 9)], objs := [] })) (k (.ret) ({ env := [(2, .int .i64 9)], objs := [] }))) (cond (bif decide (PRQ.var (List.getD l (Int.toNat (↑i : Int)) default) < 1) then true else decide (PRQ.var (List.getD l (Int.toNat (↑i : Int)) default) > 8)) (k (.ret) ({ env := [(2, .int .i64 3)], objs := [] })) (kn ({ env := [(0, prqL l), (9, prqL l), (10, .int .i64 (↑(List.length l) : Int)), (11, .int .i64 (IntKind.wrap IntKind.i64 ((↑i : Int) + 1)))], objs := [] })))) (none))) (none)) (none)) (k (.exit 0) ({ env := [], objs := [] })) := by kernel_rfl
set_option maxRecDepth 100000 in
theorem rprq_r (gk vk : List AV → List AO → Bool) (L : List (List Nat × Orc)) (m : Nat) (l : List PRQ) (i : Nat) (kn : St → Res) (k : Ex → St → Res)  : roundR (V.run [mkE 67 gk vk φB] 9 [] L [] 74) 74 m [1, 1, 0, 1, 0] (B74 l i) kn k =
  cond (decide ((↑i : Int) < (↑(List.length l) : Int))) (cond (within (↑i : Int) (List.length l)) (cond (gk [.str (PRQ.flag (List.getD l (Int.toNat (↑i : Int)) default))] []) (cond (!vk [.str (PRQ.flag (List.getD l (Int.toNat (↑i : Int)) default))] []) (k (.ret) ({ env := [(2, .int .i64 6)], objs := [] })) (cond (bif within (↑i : Int) (List.length l) then true else !bif decide ((↑i : Int) > 0) == true then true else false) (cond (bif within (IntKind.wrap IntKind.i64 ((↑i : Int) - 1)) (List.length l) then true else !bif decide ((↑i : Int) > 0) == true then true else false) (cond (bif decide ((↑i : Int) > 0) then bytesLt (PRQ.flag (List.getD l (Int.toNat (↑i : Int)) default)) (PRQ.flag (List.getD l (Int.toNat (IntKind.wrap IntKind.i64 ((↑i : Int) - 1))) default)) || PRQ.flag (List.getD l (Int.toNat (↑i : Int)) default) == PRQ.flag (List.getD l (Int.toNat (IntKind.wrap IntKind.i64 ((↑i : Int) - 1))) default) else false) (k (.ret) ({ env := [(2, .int .i64 9)], objs := [] })) (cond (within (↑i : Int) (List.length l)) (cond (bif within (↑i : Int) (List.length l) then true else !bif decide (PRQ.var (List.getD l (Int.toNat (↑i : Int)) default) < 1) == false then true else false) (cond (bif decide (PRQ.var (List.getD l (Int.toNat (↑i : Int)) default) < 1) then true else decide (PRQ.var (List.getD l (Int.toNat (↑i : Int)) default) > 8)) (k (.ret) ({ env := [(2, .int .i64 3)], objs := [] })) (kn ({ env := [(0, prqL l), (3, .int .i64 (IntKind.wrap IntKind.i64 ((↑i : Int) + 1)))], objs := [] }))) (none)) (none))) (none)) (none))) (none)) (none)) (k (.exit 0) ({ env := [], objs := [] })) := by kernel_rfl
set_option maxRecDepth 100000 in
theorem tgt_r (gk vk gm : List AV → List AO → Bool) (vm : List AV → List AO → Int) (L : List (List Nat × Orc)) (m : Nat) (l : List TGT) (n i : Nat) (kn : St → Res) (k : Ex → St → Res) {t1 : Int} (h_t1 : vm [strsA (TGT.keys (List.getD l (Int.toNat (↑i : Int)) default))] [] = t1) : roundR (V.run [mkE 65 gk vk φB, mkE 77 gm vm φE] 9 [] L [] 71) 71 m [1, 1, 0, 1, 0] (B71 l n i) kn k =
  cond (decide ((↑i : Int) < (↑(List.length l) : Int))) (cond (within (↑i : Int) (List.length l)) (cond (gk [.str (TGT.kind (List.getD l (Int.toNat (↑i : Int)) default))] []) (cond (!vk [.str (TGT.kind (List.getD l (Int.toNat (↑i : Int)) default))] []) (cond (bif decide (TGT.var (List.getD l (Int.toNat (↑i : Int)) default) < 1) then true else decide (TGT.var (List.getD l (Int.toNat (↑i : Int)) default) > (↑n : Int))) (cond ((↑(List.length (TGT.keys (List.getD l (Int.toNat (↑i : Int)) default))) : Int) == 0) (cond (gm [strsA (TGT.keys (List.getD l (Int.toNat (↑i : Int)) default))] []) (k (.ret) ({ env := [(4, .int .i64 6)], objs := [] })) (none)) (cond (gm [strsA (TGT.keys (List.getD l (Int.toNat (↑i : Int)) default))] []) (k (.ret) ({ env := [(4, .int .i64 6)], objs := [] })) (none))) (cond ((↑(List.length (TGT.keys (List.getD l (Int.toNat (↑i : Int)) default))) : Int) == 0) (cond (gm [strsA (TGT.keys (List.getD l (Int.toNat (↑i : Int)) default))] []) (k (.ret) ({ env := [(4, .int .i64 6)], objs := [] })) (none)) (cond (gm [strsA (TGT.keys (List.getD l (Int.toNat (↑i : Int)) default))] []) (k (.ret) ({ env := [(4, .int .i64 6)], objs := [] })) (none)))) (cond (bif decide (TGT.var (List.getD l (Int.toNat (↑i : Int)) default) < 1) then true else decide (TGT.var (List.getD l (Int.toNat (↑i : Int)) default) > (↑n : Int))) (cond ((↑(List.length (TGT.keys (List.getD l (Int.toNat (↑i : Int)) default))) : Int) == 0) (cond (gm [strsA (TGT.keys (List.getD l (Int.toNat (↑i : Int)) default))] []) (k (.ret) ({ env := [(4, .int .i64 3)], objs := [] })) (none)) (cond (gm [strsA (TGT.keys (List.getD l (Int.toNat (↑i : Int)) default))] []) (k (.ret) ({ env := [(4, .int .i64 3)], objs := [] })) (none))) (cond ((↑(List.length (TGT.keys (List.getD l (Int.toNat (↑i : Int)) default))) : Int) == 0) (cond (gm [strsA (TGT.keys (List.getD l (Int.toNat (↑i : Int)) default))] []) (k (.ret) ({ env := [(4, .int .i64 3)], objs := [] })) (none)) (cond (gm [strsA (TGT.keys (List.getD l (Int.toNat (↑i : Int)) default))] []) (cond (t1 != 0) (cond (t1 != 0) (k (.ret) ({ env := [(4, .int .i64 t1)], objs := [] })) (kn ({ env := [(1, .int .i64 (↑n : Int)), (11, tgtL l), (12, .int .i64 (↑(List.length l) : Int)), (13, .int .i64 (IntKind.wrap IntKind.i64 ((↑i : Int) + 1)))], objs := [] }))) (kn ({ env := [(1, .int .i64 (↑n : Int)), (11, tgtL l), (12, .int .i64 (↑(List.length l) : Int)), (13, .int .i64 (IntKind.wrap IntKind.i64 ((↑i : Int) + 1)))], objs := [] }))) (none))))) (none)) (none)) (k (.exit 0) ({ env := [], objs := [] })) := by subst h_t1; kernel_rfl
set_option maxRecDepth 100000 in
theorem rtgt_r (gk vk gm : List AV → List AO → Bool) (vm : List AV → List AO → Int) (L : List (List Nat × Orc)) (m : Nat) (l : List TGT) (n i : Nat) (kn : St → Res) (k : Ex → St → Res) {t1 : Int} (h_t1 : vm [strsA (TGT.keys (List.getD l (Int.toNat (↑i : Int)) default))] [] = t1) : roundR (V.run [mkE 67 gk vk φB, mkE 78 gm vm φE] 9 [] L [] 75) 75 m [1, 1, 0, 1, 0] (B75 l n i) kn k =
  cond (decide ((↑i : Int) < (↑(List.length l) : Int))) (cond (within (↑i : Int) (List.length l)) (cond (gk [.str (TGT.kind (List.getD l (Int.toNat (↑i : Int)) default))] []) (cond (!vk [.str (TGT.kind (List.getD l (Int.toNat (↑i : Int)) default))] []) (k (.ret) ({ env := [(4, .int .i64 6)], objs := [] })) (cond (within (↑i : Int) (List.length l)) (cond (bif within (↑i : Int) (List.length l) then true else !bif decide (TGT.var (List.getD l (Int.toNat (↑i : Int)) default) < 1) == false then true else false) (cond (bif within (↑i : Int) (List.length l) then true else !bif (bif decide (TGT.var (List.getD l (Int.toNat (↑i : Int)) default) < 1) then true else decide (TGT.var (List.getD l (Int.toNat (↑i : Int)) default) > (↑n : Int))) == false then true else false) (cond (bif bif decide (TGT.var (List.getD l (Int.toNat (↑i : Int)) default) < 1) then true else decide (TGT.var (List.getD l (Int.toNat (↑i : Int)) default) > (↑n : Int)) then true else (↑(List.length (TGT.keys (List.getD l (Int.toNat (↑i : Int)) default))) : Int) == 0) (k (.ret) ({ env := [(4, .int .i64 3)], objs := [] })) (cond (within (↑i : Int) (List.length l)) (cond (gm [strsA (TGT.keys (List.getD l (Int.toNat (↑i : Int)) default))] []) (cond (t1 != 0) (k (.ret) ({ env := [(4, .int .i64 t1)], objs := [] })) (kn ({ env := [(0, tgtL l), (1, .int .i64 (↑n : Int)), (5, .int .i64 (IntKind.wrap IntKind.i64 ((↑i : Int) + 1)))], objs := [] }))) (none)) (none))) (none)) (none)) (none))) (none)) (none)) (k (.exit 0) ({ env := [], objs := [] })) := by subst h_t1; kernel_rfl
set_option maxRecDepth 100000 in
theorem rul_i (T : List Ent) (L : List (List Nat × Orc)) (m : Nat) (l : List RULE) (n i k' : Nat) (kn : St → Res) (k : Ex → St → Res)  : roundR (V.run T 9 [] L [] 72) 72 m [1, 0, 1, 1, 0, 1, 0, 0, 1, 1, 0, 0, 1, 1, 0, 1, 0] (B72i l n i k') kn k =
  cond (decide ((↑k' : Int) < (↑i : Int))) (cond (within (↑k' : Int) i) (cond (RULE.name (List.getD l (0 + Int.toNat (↑k' : Int)) default) == RULE.name (List.getD l i default)) (k (.ret) ({ env := [(4, .int .i64 10)], objs := [] })) (kn ({ env := [(0, rulL l), (1, .int .i64 (↑n : Int)), (6, .ref 6 0), (13, rulL l), (14, .int .i64 (↑(List.length l) : Int)), (15, .int .i64 (↑i : Int)), (26, subA l i), (27, .int .i64 (↑i : Int)), (28, .int .i64 (IntKind.wrap IntKind.i64 ((↑k' : Int) + 1)))], objs := [(6, .cells (RULE.c (List.getD l i default)))] }))) (none)) (k (.exit 2) (B72e l n i)) := by kernel_rfl
set_option maxRecDepth 100000 in
theorem rrul_i (T : List Ent) (L : List (List Nat × Orc)) (m : Nat) (l : List RULE) (n i k' : Nat) (kn : St → Res) (k : Ex → St → Res)  : roundR (V.run T 9 [] L [] 76) 76 m [1, 1, 0, 1, 0, 0, 1, 0, 0, 1, 0, 1, 0] (B76i l n i k') kn k =
  cond (decide ((↑k' : Int) < (↑i : Int))) (cond (within (↑k' : Int) (List.length l)) (cond (within (↑i : Int) (List.length l)) (cond (RULE.name (List.getD l (Int.toNat (↑k' : Int)) default) == RULE.name (List.getD l (Int.toNat (↑i : Int)) default)) (k (.ret) ({ env := [(4, .int .i64 10)], objs := [] })) (kn ({ env := [(0, rulL l), (1, .int .i64 (↑n : Int)), (5, .int .i64 (↑i : Int)), (6, .int .i64 (IntKind.wrap IntKind.i64 ((↑k' : Int) + 1)))], objs := [] }))) (none)) (none)) (k (.exit 2) (B76 l n i)) := by kernel_rfl
set_option maxRecDepth 100000 in
theorem rul_r (gk vk ge gs : List AV → List AO → Bool) (ve vs : List AV → List AO → Int) (g : St → Bool) (v : St → Nat × Bool) (L : List (List Nat × Orc)) (m : Nat) (l : List RULE) (n i : Nat) (kn : St → Res) (k : Ex → St → Res) {t1 : Nat × Bool} (h_t1 : v (B72i l n i 0) = t1) {t2 : Int} (h_t2 : ve [.agg (EXP.x (RULE.when (List.getD l (Prod.fst t1) default)))] [] = t2) {t3 : Int} (h_t3 : vs [.agg (SERVE.c (RULE.serve (List.getD l (Prod.fst t1) default))), .int .i64 (↑n : Int)] [] = t3) : roundR (V.run [mkE 65 gk vk φB, mkE 15 ge ve φE, mkE 32 gs vs φE] 9 [] (([1, 0, 1, 1, 0, 1, 0, 0, 1, 1, 0, 0, 1, 1, 0, 1, 0], mkO g v (out72 l n)) :: L) [] 72) 72 m [1, 0, 1, 1, 0, 1, 0] (B72 l n i) kn k =
  cond (decide ((↑i : Int) < (↑(List.length l) : Int))) (cond (within (↑i : Int) (List.length l)) (cond (gk [.str (RULE.name (List.getD l (Int.toNat (↑i : Int)) default))] []) (cond (!vk [.str (RULE.name (List.getD l (Int.toNat (↑i : Int)) default))] []) (k (.ret) ({ env := [(4, .int .i64 6)], objs := [] })) (cond (decide (0 ≤ (↑0 : Int)) && (decide ((↑0 : Int) ≤ (↑i : Int)) && decide ((↑i : Int) ≤ (↑(List.length l) : Int)))) (cond (g (B72i l n i 0)) (cond (Prod.snd t1) (k (.ret) ({ env := [(4, .int .i64 10)], objs := [] })) (cond (ge [.agg (EXP.x (RULE.when (List.getD l (Prod.fst t1) default)))] []) (cond (gs [.agg (SERVE.c (RULE.serve (List.getD l (Prod.fst t1) default))), .int .i64 (↑n : Int)] []) (cond (t2 != 0) (cond (t2 == 0) (kn ({ env := [(0, rulL l), (1, .int .i64 (↑n : Int)), (13, rulL l), (14, .int .i64 (↑(List.length l) : Int)), (15, .int .i64 (IntKind.wrap IntKind.i64 ((↑(Prod.fst t1) : Int) + 1)))], objs := [] })) (k (.ret) ({ env := [(4, .int .i64 t2)], objs := [] }))) (cond (t3 != 0) (cond (t3 == 0) (kn ({ env := [(0, rulL l), (1, .int .i64 (↑n : Int)), (13, rulL l), (14, .int .i64 (↑(List.length l) : Int)), (15, .int .i64 (IntKind.wrap IntKind.i64 ((↑(Prod.fst t1) : Int) + 1)))], objs := [] })) (k (.ret) ({ env := [(4, .int .i64 t3)], objs := [] }))) (kn ({ env := [(0, rulL l), (1, .int .i64 (↑n : Int)), (13, rulL l), (14, .int .i64 (↑(List.length l) : Int)), (15, .int .i64 (IntKind.wrap IntKind.i64 ((↑(Prod.fst t1) : Int) + 1)))], objs := [] })))) (none)) (none))) (none)) (none))) (none)) (none)) (k (.exit 0) ({ env := [], objs := [] })) := by subst h_t3 h_t2 h_t1; kernel_rfl
set_option maxRecDepth 100000 in
theorem rrul_r (gk vk ge gs : List AV → List AO → Bool) (ve vs : List AV → List AO → Int) (g : St → Bool) (v : St → Nat × Bool) (L : List (List Nat × Orc)) (m : Nat) (l : List RULE) (n i : Nat) (kn : St → Res) (k : Ex → St → Res) {t1 : Nat × Bool} (h_t1 : v (B76i l n i 0) = t1) {t2 : Int} (h_t2 : ve [.agg (EXP.x (RULE.when (List.getD l (Int.toNat (↑(Prod.fst t1) : Int)) default)))] [] = t2) {t3 : Int} (h_t3 : vs [.agg (SERVE.c (RULE.serve (List.getD l (Int.toNat (↑(Prod.fst t1) : Int)) default))), .int .i64 (↑n : Int)] [] = t3) : roundR (V.run [mkE 67 gk vk φB, mkE 16 ge ve φE, mkE 33 gs vs φE] 9 [] (([1, 1, 0, 1, 0, 0, 1, 0, 0, 1, 0, 1, 0], mkO g v (out76 l n)) :: L) [] 76) 76 m [1, 1, 0, 1, 0] (B76 l n i) kn k =
  cond (decide ((↑i : Int) < (↑(List.length l) : Int))) (cond (within (↑i : Int) (List.length l)) (cond (gk [.str (RULE.name (List.getD l (Int.toNat (↑i : Int)) default))] []) (cond (!vk [.str (RULE.name (List.getD l (Int.toNat (↑i : Int)) default))] []) (k (.ret) ({ env := [(4, .int .i64 6)], objs := [] })) (cond (g (B76i l n i 0)) (cond (Prod.snd t1) (k (.ret) ({ env := [(4, .int .i64 10)], objs := [] })) (cond (within (↑(Prod.fst t1) : Int) (List.length l)) (cond (ge [.agg (EXP.x (RULE.when (List.getD l (Int.toNat (↑(Prod.fst t1) : Int)) default)))] []) (cond (t2 != 0) (k (.ret) ({ env := [(4, .int .i64 t2)], objs := [] })) (cond (within (↑(Prod.fst t1) : Int) (List.length l)) (cond (gs [.agg (SERVE.c (RULE.serve (List.getD l (Int.toNat (↑(Prod.fst t1) : Int)) default))), .int .i64 (↑n : Int)] []) (cond (t3 != 0) (k (.ret) ({ env := [(4, .int .i64 t3)], objs := [] })) (kn ({ env := [(0, rulL l), (1, .int .i64 (↑n : Int)), (5, .int .i64 (IntKind.wrap IntKind.i64 ((↑(Prod.fst t1) : Int) + 1)))], objs := [] }))) (none)) (none))) (none)) (none))) (none))) (none)) (none)) (k (.exit 0) ({ env := [], objs := [] })) := by subst h_t3 h_t2 h_t1; kernel_rfl
set_option maxRecDepth 100000 in
theorem prq_m (T : List Ent) (g : St → Bool) (v : St → Bool × Int) (l : List PRQ) {t1 : Bool × Int} (h_t1 : v (B70 l 0) = t1) : runF (V.run T 9 [] [([1, 1, 0, 1, 0], mkO g v (outB (retI 2) R0))] [] 70) 9 70 [prqL l] [] =
  cond (decide ((↑(List.length l) : Int) > 4)) (some ((.int .i64 5, []))) (cond (g (B70 l 0)) (cond (Prod.fst t1) (some ((.int .i64 (Prod.snd t1), []))) (some ((.int .i64 0, [])))) (none)) := by subst h_t1; kernel_rfl
set_option maxRecDepth 100000 in
theorem rprq_m (T : List Ent) (g : St → Bool) (v : St → Bool × Int) (l : List PRQ) {t1 : Bool × Int} (h_t1 : v (B74 l 0) = t1) : runF (V.run T 9 [] [([1, 1, 0, 1, 0], mkO g v (outB (retI 2) R0))] [] 74) 9 74 [prqL l] [] =
  cond (decide ((↑(List.length l) : Int) > 4)) (some ((.int .i64 5, []))) (cond (g (B74 l 0)) (cond (Prod.fst t1) (some ((.int .i64 (Prod.snd t1), []))) (some ((.int .i64 0, [])))) (none)) := by subst h_t1; kernel_rfl
set_option maxRecDepth 100000 in
theorem tgt_m (T : List Ent) (g : St → Bool) (v : St → Bool × Int) (l : List TGT) (n : Nat) {t1 : Bool × Int} (h_t1 : v (B71 l n 0) = t1) : runF (V.run T 9 [] [([1, 1, 0, 1, 0], mkO g v (outB (retI 4) R0))] [] 71) 9 71 [tgtL l, .int .i64 n] [] =
  cond (decide ((↑(List.length l) : Int) > 8)) (some ((.int .i64 5, []))) (cond (g (B71 l n 0)) (cond (Prod.fst t1) (some ((.int .i64 (Prod.snd t1), []))) (some ((.int .i64 0, [])))) (none)) := by subst h_t1; kernel_rfl
set_option maxRecDepth 100000 in
theorem rtgt_m (T : List Ent) (g : St → Bool) (v : St → Bool × Int) (l : List TGT) (n : Nat) {t1 : Bool × Int} (h_t1 : v (B75 l n 0) = t1) : runF (V.run T 9 [] [([1, 1, 0, 1, 0], mkO g v (outB (retI 4) R0))] [] 75) 9 75 [tgtL l, .int .i64 n] [] =
  cond (decide ((↑(List.length l) : Int) > 8)) (some ((.int .i64 5, []))) (cond (g (B75 l n 0)) (cond (Prod.fst t1) (some ((.int .i64 (Prod.snd t1), []))) (some ((.int .i64 0, [])))) (none)) := by subst h_t1; kernel_rfl
set_option maxRecDepth 100000 in
theorem rul_m (T : List Ent) (x : Orc) (g : St → Bool) (v : St → Bool × Int) (l : List RULE) (n : Nat) {t1 : Bool × Int} (h_t1 : v (B72 l n 0) = t1) : runF (V.run T 9 [] [([1, 0, 1, 1, 0, 1, 0, 0, 1, 1, 0, 0, 1, 1, 0, 1, 0], x), ([1, 0, 1, 1, 0, 1, 0], mkO g v (outB (retI 4) R0))] [] 72) 9 72 [rulL l, .int .i64 n] [] =
  cond (decide ((↑(List.length l) : Int) > 12)) (some ((.int .i64 5, []))) (cond (g (B72 l n 0)) (cond (Prod.fst t1) (some ((.int .i64 (Prod.snd t1), []))) (some ((.int .i64 0, [])))) (none)) := by subst h_t1; kernel_rfl
set_option maxRecDepth 100000 in
theorem rrul_m (T : List Ent) (x : Orc) (g : St → Bool) (v : St → Bool × Int) (l : List RULE) (n : Nat) {t1 : Bool × Int} (h_t1 : v (B76 l n 0) = t1) : runF (V.run T 9 [] [([1, 1, 0, 1, 0, 0, 1, 0, 0, 1, 0, 1, 0], x), ([1, 1, 0, 1, 0], mkO g v (outB (retI 4) R0))] [] 76) 9 76 [rulL l, .int .i64 n] [] =
  cond (decide ((↑(List.length l) : Int) > 12)) (some ((.int .i64 5, []))) (cond (g (B76 l n 0)) (cond (Prod.fst t1) (some ((.int .i64 (Prod.snd t1), []))) (some ((.int .i64 0, [])))) (none)) := by subst h_t1; kernel_rfl
set_option maxRecDepth 100000 in
theorem flag_r (gk vk gv gp gt gr gs : List AV → List AO → Bool) (vv vp vt vr vs : List AV → List AO → Int) (L : List (List Nat × Orc)) (m : Nat) (f : FLAG) (i : Nat) (kn : St → Res) (k : Ex → St → Res) {t1 : Int} (h_t1 : vv [.agg (VAL.c (List.getD (FLAG.vars f) (Int.toNat (↑i : Int)) default))] [] = t1) : roundR (V.run [mkE 69 gv vv φE, mkE 65 gk vk φB, mkE 70 gp vp φE, mkE 71 gt vt φE, mkE 72 gr vr φE, mkE 32 gs vs φE] 9 [] L [] 34) 34 m [1, 1, 1, 0, 1, 0] (B34 f i) kn k =
  cond (decide ((↑i : Int) < (↑(List.length (FLAG.vars f)) : Int))) (cond (within (↑i : Int) (List.length (FLAG.vars f))) (cond (gv [.agg (VAL.c (List.getD (FLAG.vars f) (Int.toNat (↑i : Int)) default))] []) (cond (VAL.kind (List.getD (FLAG.vars f) (Int.toNat (↑i : Int)) default) != FLAG.kind f) (cond (t1 != 0) (cond (t1 != 0) (k (.ret) ({ env := [(2, .int .i64 t1)], objs := [] })) (kn ({ env := [(1, .ref 1 0), (3, .int .i64 (↑(List.length (FLAG.vars f)) : Int)), (38, valL (FLAG.vars f)), (39, .int .i64 (↑(List.length (FLAG.vars f)) : Int)), (40, .int .i64 (IntKind.wrap IntKind.i64 ((↑i : Int) + 1)))], objs := [(1, .cells (FLAG.c f))] }))) (k (.ret) ({ env := [(2, .int .i64 8)], objs := [] }))) (cond (t1 != 0) (cond (t1 != 0) (k (.ret) ({ env := [(2, .int .i64 t1)], objs := [] })) (kn ({ env := [(1, .ref 1 0), (3, .int .i64 (↑(List.length (FLAG.vars f)) : Int)), (38, valL (FLAG.vars f)), (39, .int .i64 (↑(List.length (FLAG.vars f)) : Int)), (40, .int .i64 (IntKind.wrap IntKind.i64 ((↑i : Int) + 1)))], objs := [(1, .cells (FLAG.c f))] }))) (kn ({ env := [(1, .ref 1 0), (3, .int .i64 (↑(List.length (FLAG.vars f)) : Int)), (38, valL (FLAG.vars f)), (39, .int .i64 (↑(List.length (FLAG.vars f)) : Int)), (40, .int .i64 (IntKind.wrap IntKind.i64 ((↑i : Int) + 1)))], objs := [(1, .cells (FLAG.c f))] })))) (none)) (none)) (k (.exit 0) (B34e f)) := by subst h_t1; kernel_rfl
set_option maxRecDepth 100000 in
theorem rvar_r (gv : List AV → List AO → Bool) (vv : List AV → List AO → Int) (T : List Ent) (L : List (List Nat × Orc)) (m : Nat) (f : FLAG) (i : Nat) (kn : St → Res) (k : Ex → St → Res) {t1 : Int} (h_t1 : vv [.agg (VAL.c (List.getD (FLAG.vars f) (Int.toNat (↑i : Int)) default))] [] = t1) : roundR (V.run (mkE 115 gv vv φE :: T) 9 [] L [] 73) 73 m [1, 1, 1, 1, 0, 1, 0] (B73 f i) kn k =
  cond (decide ((↑i : Int) < (↑(List.length (FLAG.vars f)) : Int))) (cond (within (↑i : Int) (List.length (FLAG.vars f))) (cond (gv [.agg (VAL.c (List.getD (FLAG.vars f) (Int.toNat (↑i : Int)) default))] []) (cond (t1 != 0) (k (.ret) ({ env := [(2, .int .i64 t1)], objs := [] })) (cond (within (↑i : Int) (List.length (FLAG.vars f))) (cond (VAL.kind (List.getD (FLAG.vars f) (Int.toNat (↑i : Int)) default) != FLAG.kind f) (k (.ret) ({ env := [(2, .int .i64 8)], objs := [] })) (kn ({ env := [(1, .ref 1 0), (3, .int .i64 (↑(List.length (FLAG.vars f)) : Int)), (4, .int .i64 (IntKind.wrap IntKind.i64 ((↑i : Int) + 1)))], objs := [(1, .cells (FLAG.c f))] }))) (none))) (none)) (none)) (k (.exit 0) (B34e f)) := by subst h_t1; kernel_rfl
set_option maxRecDepth 100000 in
theorem rvar_m (T : List Ent) (g : St → Bool) (v : St → Bool × Int) (f : FLAG) {t1 : Bool × Int} (h_t1 : v (B73 f 0) = t1) : runF (V.run T 9 [] [([1, 1, 1, 1, 0, 1, 0], mkO g v (outB (retI 2) fun k => k (.exit 0) (B34e f)))] [] 73) 9 73 [.agg f.c] [] =
  cond (decide ((↑(List.length (FLAG.vars f)) : Int) > 8)) (some ((.int .i64 5, []))) (cond ((↑(List.length (FLAG.vars f)) : Int) == 0) (some ((.int .i64 3, []))) (cond (g (B73 f 0)) (cond (Prod.fst t1) (some ((.int .i64 (Prod.snd t1), []))) (cond (bif decide (FLAG.off f < 1) then true else decide (FLAG.off f > (↑(List.length (FLAG.vars f)) : Int))) (some ((.int .i64 3, []))) (some ((.int .i64 0, []))))) (none))) := by subst h_t1; kernel_rfl
set_option maxRecDepth 100000 in
theorem flag_m (gk vk gv gp gt gr gs : List AV → List AO → Bool) (vv vp vt vr vs : List AV → List AO → Int) (g : St → Bool) (v : St → Bool × Int) (f : FLAG) {t1 : Bool × Int} (h_t1 : v (B34 f 0) = t1) {t2 : Int} (h_t2 : vp [prqL (FLAG.prqs f)] [] = t2) {t3 : Int} (h_t3 : vs [.agg (SERVE.c (FLAG.dflt f)), .int .i64 (↑(List.length (FLAG.vars f)) : Int)] [] = t3) {t4 : Int} (h_t4 : vt [tgtL (FLAG.tgts f), .int .i64 (↑(List.length (FLAG.vars f)) : Int)] [] = t4) {t5 : Int} (h_t5 : vr [rulL (FLAG.rules f), .int .i64 (↑(List.length (FLAG.vars f)) : Int)] [] = t5) : runF (V.run [mkE 69 gv vv φE, mkE 65 gk vk φB, mkE 70 gp vp φE, mkE 71 gt vt φE, mkE 72 gr vr φE, mkE 32 gs vs φE] 9 [] [([1, 1, 1, 0, 1, 0], mkO g v (outB (retI 2) fun k => k (.exit 0) (B34e f)))] [] 34) 9 34 [.agg f.c] [] =
  cond (gk [.str (FLAG.key f)] []) (cond (!vk [.str (FLAG.key f)] []) (cond (bif decide (FLAG.kind f < 1) then true else decide (FLAG.kind f > 5)) (cond (decide ((↑(List.length (FLAG.vars f)) : Int) > 8)) (cond ((↑(List.length (FLAG.vars f)) : Int) == 0) (some ((.int .i64 6, []))) (some ((.int .i64 6, [])))) (cond ((↑(List.length (FLAG.vars f)) : Int) == 0) (some ((.int .i64 6, []))) (some ((.int .i64 6, []))))) (cond (decide ((↑(List.length (FLAG.vars f)) : Int) > 8)) (cond ((↑(List.length (FLAG.vars f)) : Int) == 0) (some ((.int .i64 6, []))) (some ((.int .i64 6, [])))) (cond ((↑(List.length (FLAG.vars f)) : Int) == 0) (some ((.int .i64 6, []))) (some ((.int .i64 6, [])))))) (cond (bif decide (FLAG.kind f < 1) then true else decide (FLAG.kind f > 5)) (cond (decide ((↑(List.length (FLAG.vars f)) : Int) > 8)) (cond ((↑(List.length (FLAG.vars f)) : Int) == 0) (some ((.int .i64 7, []))) (some ((.int .i64 7, [])))) (cond ((↑(List.length (FLAG.vars f)) : Int) == 0) (some ((.int .i64 7, []))) (some ((.int .i64 7, []))))) (cond (decide ((↑(List.length (FLAG.vars f)) : Int) > 8)) (cond ((↑(List.length (FLAG.vars f)) : Int) == 0) (some ((.int .i64 5, []))) (some ((.int .i64 5, [])))) (cond ((↑(List.length (FLAG.vars f)) : Int) == 0) (some ((.int .i64 3, []))) (cond (g (B34 f 0)) (cond (Prod.fst t1) (some ((.int .i64 (Prod.snd t1), []))) (cond (bif decide (FLAG.off f < 1) then true else decide (FLAG.off f > (↑(List.length (FLAG.vars f)) : Int))) (cond (gp [prqL (FLAG.prqs f)] []) (cond (gt [tgtL (FLAG.tgts f), .int .i64 (↑(List.length (FLAG.vars f)) : Int)] []) (cond (gr [rulL (FLAG.rules f), .int .i64 (↑(List.length (FLAG.vars f)) : Int)] []) (some ((.int .i64 3, []))) (none)) (none)) (none)) (cond (gp [prqL (FLAG.prqs f)] []) (cond (gt [tgtL (FLAG.tgts f), .int .i64 (↑(List.length (FLAG.vars f)) : Int)] []) (cond (gr [rulL (FLAG.rules f), .int .i64 (↑(List.length (FLAG.vars f)) : Int)] []) (cond (t2 != 0) (cond (t2 != 0) (some ((.int .i64 t2, []))) (cond (gs [.agg (SERVE.c (FLAG.dflt f)), .int .i64 (↑(List.length (FLAG.vars f)) : Int)] []) (some ((.int .i64 t3, []))) (none))) (cond (t4 != 0) (cond (t4 != 0) (some ((.int .i64 t4, []))) (cond (gs [.agg (SERVE.c (FLAG.dflt f)), .int .i64 (↑(List.length (FLAG.vars f)) : Int)] []) (some ((.int .i64 t3, []))) (none))) (cond (t5 != 0) (cond (t5 != 0) (some ((.int .i64 t5, []))) (cond (gs [.agg (SERVE.c (FLAG.dflt f)), .int .i64 (↑(List.length (FLAG.vars f)) : Int)] []) (some ((.int .i64 t3, []))) (none))) (cond (gs [.agg (SERVE.c (FLAG.dflt f)), .int .i64 (↑(List.length (FLAG.vars f)) : Int)] []) (some ((.int .i64 t3, []))) (none))))) (none)) (none)) (none)))) (none)))))) (none) := by subst h_t5 h_t4 h_t3 h_t2 h_t1; kernel_rfl
set_option maxRecDepth 100000 in
theorem rflag_m (gk vk gv gp gt gr gs : List AV → List AO → Bool) (vv vp vt vr vs : List AV → List AO → Int) (f : FLAG) {t1 : Int} (h_t1 : vv [.agg (FLAG.c f)] [] = t1) {t2 : Int} (h_t2 : vp [prqL (FLAG.prqs f)] [] = t2) {t3 : Int} (h_t3 : vt [tgtL (FLAG.tgts f), .int .i64 (↑(List.length (FLAG.vars f)) : Int)] [] = t3) {t4 : Int} (h_t4 : vr [rulL (FLAG.rules f), .int .i64 (↑(List.length (FLAG.vars f)) : Int)] [] = t4) {t5 : Int} (h_t5 : vs [.agg (SERVE.c (FLAG.dflt f)), .int .i64 (↑(List.length (FLAG.vars f)) : Int)] [] = t5) : runF (V.run [mkE 73 gv vv φE, mkE 67 gk vk φB, mkE 74 gp vp φE, mkE 75 gt vt φE, mkE 76 gr vr φE, mkE 33 gs vs φE] 9 [] [] [] 35) 9 35 [.agg f.c] [] =
  cond (gk [.str (FLAG.key f)] []) (cond (!vk [.str (FLAG.key f)] []) (some ((.int .i64 6, []))) (cond (bif decide (FLAG.kind f < 1) then true else decide (FLAG.kind f > 5)) (some ((.int .i64 7, []))) (cond (gv [.agg (FLAG.c f)] []) (cond (t1 != 0) (some ((.int .i64 t1, []))) (cond (gp [prqL (FLAG.prqs f)] []) (cond (t2 != 0) (some ((.int .i64 t2, []))) (cond (gt [tgtL (FLAG.tgts f), .int .i64 (↑(List.length (FLAG.vars f)) : Int)] []) (cond (t3 != 0) (some ((.int .i64 t3, []))) (cond (gr [rulL (FLAG.rules f), .int .i64 (↑(List.length (FLAG.vars f)) : Int)] []) (cond (t4 != 0) (some ((.int .i64 t4, []))) (cond (gs [.agg (SERVE.c (FLAG.dflt f)), .int .i64 (↑(List.length (FLAG.vars f)) : Int)] []) (some ((.int .i64 t5, []))) (none))) (none))) (none))) (none))) (none)))) (none) := by subst h_t5 h_t4 h_t3 h_t2 h_t1; kernel_rfl
set_option maxRecDepth 100000 in
theorem layer_r (gk vk gv vv : List AV → List AO → Bool) (L : List (List Nat × Orc)) (m : Nat) (f : LAYER) (i : Nat) (kn : St → Res) (k : Ex → St → Res)  : roundR (V.run [mkE 65 gk vk φB, mkE 66 gv vv φB] 9 [] L [] 38) 38 m [1, 1, 0, 1, 0] (B38 f i) kn k =
  cond (decide ((↑i : Int) < (↑(List.length (LAYER.cooling f)) : Int))) (cond (within (↑i : Int) (List.length (LAYER.cooling f))) (cond (bif bif !bif bif decide (0 ≤ Prod.fst (List.getD (LAYER.cooling f) (Int.toNat (↑i : Int)) (0, 0, 0))) then decide (Prod.fst (List.getD (LAYER.cooling f) (Int.toNat (↑i : Int)) (0, 0, 0)) < Prod.fst (Prod.snd (List.getD (LAYER.cooling f) (Int.toNat (↑i : Int)) (0, 0, 0)))) else false then decide (Prod.fst (Prod.snd (List.getD (LAYER.cooling f) (Int.toNat (↑i : Int)) (0, 0, 0))) ≤ 10000) else false then true else decide (Prod.snd (Prod.snd (List.getD (LAYER.cooling f) (Int.toNat (↑i : Int)) (0, 0, 0))) < 0) then true else decide (Prod.snd (Prod.snd (List.getD (LAYER.cooling f) (Int.toNat (↑i : Int)) (0, 0, 0))) > 1099511627776)) (k (.ret) ({ env := [(2, .int .i64 3)], objs := [] })) (cond (bif within (IntKind.wrap IntKind.i64 ((↑i : Int) - 1)) (List.length (LAYER.cooling f)) then true else !bif decide ((↑i : Int) > 0) == true then true else false) (cond (bif decide ((↑i : Int) > 0) then decide (Prod.fst (List.getD (LAYER.cooling f) (Int.toNat (↑i : Int)) (0, 0, 0)) < Prod.fst (Prod.snd (List.getD (LAYER.cooling f) (Int.toNat (IntKind.wrap IntKind.i64 ((↑i : Int) - 1))) (0, 0, 0)))) else false) (k (.ret) ({ env := [(2, .int .i64 9)], objs := [] })) (kn ({ env := [(1, .ref 1 0), (52, rngL (LAYER.cooling f)), (53, .int .i64 (↑(List.length (LAYER.cooling f)) : Int)), (54, .int .i64 (IntKind.wrap IntKind.i64 ((↑i : Int) + 1)))], objs := [(1, .cells (LAYER.c f))] }))) (none))) (none)) (k (.exit 0) ({ env := [], objs := [] })) := by kernel_rfl
set_option maxRecDepth 100000 in
theorem rlayer_r (T : List Ent) (L : List (List Nat × Orc)) (m : Nat) (f : LAYER) (i : Nat) (kn : St → Res) (k : Ex → St → Res)  : roundR (V.run T 9 [] L [] 39) 39 m [1, 1, 1, 1, 1, 0, 1, 0] (B39 f i) kn k =
  cond (decide ((↑i : Int) < (↑(List.length (LAYER.cooling f)) : Int))) (cond (within (↑i : Int) (List.length (LAYER.cooling f))) (cond (bif bif bif bif decide (Prod.fst (List.getD (LAYER.cooling f) (Int.toNat (↑i : Int)) (0, 0, 0)) < 0) then true else decide (Prod.fst (List.getD (LAYER.cooling f) (Int.toNat (↑i : Int)) (0, 0, 0)) ≥ Prod.fst (Prod.snd (List.getD (LAYER.cooling f) (Int.toNat (↑i : Int)) (0, 0, 0)))) then true else decide (Prod.fst (Prod.snd (List.getD (LAYER.cooling f) (Int.toNat (↑i : Int)) (0, 0, 0))) > 10000) then true else decide (Prod.snd (Prod.snd (List.getD (LAYER.cooling f) (Int.toNat (↑i : Int)) (0, 0, 0))) < 0) then true else decide (Prod.snd (Prod.snd (List.getD (LAYER.cooling f) (Int.toNat (↑i : Int)) (0, 0, 0))) > 1099511627776)) (k (.ret) ({ env := [(2, .int .i64 3)], objs := [] })) (cond (bif within (IntKind.wrap IntKind.i64 ((↑i : Int) - 1)) (List.length (LAYER.cooling f)) then true else !bif decide ((↑i : Int) > 0) == true then true else false) (cond (bif decide ((↑i : Int) > 0) then decide (Prod.fst (List.getD (LAYER.cooling f) (Int.toNat (↑i : Int)) (0, 0, 0)) < Prod.fst (Prod.snd (List.getD (LAYER.cooling f) (Int.toNat (IntKind.wrap IntKind.i64 ((↑i : Int) - 1))) (0, 0, 0)))) else false) (k (.ret) ({ env := [(2, .int .i64 9)], objs := [] })) (kn ({ env := [(1, .ref 1 0), (3, .int .i64 (IntKind.wrap IntKind.i64 ((↑i : Int) + 1)))], objs := [(1, .cells (LAYER.c f))] }))) (none))) (none)) (k (.exit 0) ({ env := [], objs := [] })) := by kernel_rfl
set_option maxRecDepth 100000 in
theorem layer_m (gk vk gv vv : List AV → List AO → Bool) (g : St → Bool) (v : St → Bool × Int) (f : LAYER) {t1 : Bool × Int} (h_t1 : v (B38 f 0) = t1) : runF (V.run [mkE 65 gk vk φB, mkE 66 gv vv φB] 9 [] [([1, 1, 0, 1, 0], mkO g v (outB (retI 2) R0))] [] 38) 9 38 [.agg f.c] [] =
  cond (gk [.str (LAYER.key f)] []) (cond (gk [.str (LAYER.kind f)] []) (cond (bif !vk [.str (LAYER.key f)] [] then true else !vk [.str (LAYER.kind f)] []) (cond (gv [.str (LAYER.salt f)] []) (cond (!vv [.str (LAYER.salt f)] []) (cond (bif bif bif decide (LAYER.hold f < 0) then true else decide (LAYER.hold f > 10000) then true else decide (LAYER.cool f < 0) then true else decide (LAYER.cool f > 1099511627776)) (cond (decide ((↑(List.length (LAYER.cooling f)) : Int) > 32)) (some ((.int .i64 6, []))) (some ((.int .i64 6, [])))) (cond (decide ((↑(List.length (LAYER.cooling f)) : Int) > 32)) (some ((.int .i64 6, []))) (some ((.int .i64 6, []))))) (cond (bif bif bif decide (LAYER.hold f < 0) then true else decide (LAYER.hold f > 10000) then true else decide (LAYER.cool f < 0) then true else decide (LAYER.cool f > 1099511627776)) (cond (decide ((↑(List.length (LAYER.cooling f)) : Int) > 32)) (some ((.int .i64 6, []))) (some ((.int .i64 6, [])))) (cond (decide ((↑(List.length (LAYER.cooling f)) : Int) > 32)) (some ((.int .i64 6, []))) (some ((.int .i64 6, [])))))) (none)) (cond (gv [.str (LAYER.salt f)] []) (cond (!vv [.str (LAYER.salt f)] []) (cond (bif bif bif decide (LAYER.hold f < 0) then true else decide (LAYER.hold f > 10000) then true else decide (LAYER.cool f < 0) then true else decide (LAYER.cool f > 1099511627776)) (cond (decide ((↑(List.length (LAYER.cooling f)) : Int) > 32)) (some ((.int .i64 2, []))) (some ((.int .i64 2, [])))) (cond (decide ((↑(List.length (LAYER.cooling f)) : Int) > 32)) (some ((.int .i64 2, []))) (some ((.int .i64 2, []))))) (cond (bif bif bif decide (LAYER.hold f < 0) then true else decide (LAYER.hold f > 10000) then true else decide (LAYER.cool f < 0) then true else decide (LAYER.cool f > 1099511627776)) (cond (decide ((↑(List.length (LAYER.cooling f)) : Int) > 32)) (some ((.int .i64 3, []))) (some ((.int .i64 3, [])))) (cond (decide ((↑(List.length (LAYER.cooling f)) : Int) > 32)) (some ((.int .i64 5, []))) (cond (g (B38 f 0)) (cond (Prod.fst t1) (some ((.int .i64 (Prod.snd t1), []))) (some ((.int .i64 0, [])))) (none))))) (none))) (none)) (none) := by subst h_t1; kernel_rfl
set_option maxRecDepth 100000 in
theorem rlayer_m (gk vk gv vv : List AV → List AO → Bool) (g : St → Bool) (v : St → Bool × Int) (f : LAYER) {t1 : Bool × Int} (h_t1 : v (B39 f 0) = t1) : runF (V.run [mkE 67 gk vk φB, mkE 68 gv vv φB] 9 [] [([1, 1, 1, 1, 1, 0, 1, 0], mkO g v (outB (retI 2) R0))] [] 39) 9 39 [.agg f.c] [] =
  cond (gk [.str (LAYER.key f)] []) (cond (gk [.str (LAYER.kind f)] []) (cond (bif !vk [.str (LAYER.key f)] [] then true else !vk [.str (LAYER.kind f)] []) (some ((.int .i64 6, []))) (cond (gv [.str (LAYER.salt f)] []) (cond (!vv [.str (LAYER.salt f)] []) (some ((.int .i64 2, []))) (cond (bif bif bif decide (LAYER.hold f < 0) then true else decide (LAYER.hold f > 10000) then true else decide (LAYER.cool f < 0) then true else decide (LAYER.cool f > 1099511627776)) (some ((.int .i64 3, []))) (cond (decide ((↑(List.length (LAYER.cooling f)) : Int) > 32)) (some ((.int .i64 5, []))) (cond (g (B39 f 0)) (cond (Prod.fst t1) (some ((.int .i64 (Prod.snd t1), []))) (some ((.int .i64 0, [])))) (none))))) (none))) (none)) (none) := by subst h_t1; kernel_rfl
set_option maxRecDepth 100000 in
theorem seg_m (gk vk gn vn : List AV → List AO → Bool) (gm ge : List AV → List AO → Bool) (vm ve : List AV → List AO → Int) (f : SEG) {t1 : Int} (h_t1 : vm [strsA (SEG.incl f)] [] = t1) {t2 : Int} (h_t2 : ve [.agg (EXP.x (SEG.when f))] [] = t2) {t3 : Int} (h_t3 : vm [strsA (SEG.excl f)] [] = t3) : runF (V.run [mkE 65 gk vk φB, mkE 77 gm vm φE, mkE 17 gn vn φB, mkE 15 ge ve φE] 9 [] [] [] 36) 9 36 [.agg f.c] [] =
  cond (gk [.str (SEG.key f)] []) (cond (gk [.str (SEG.kind f)] []) (cond (bif !vk [.str (SEG.key f)] [] then true else !vk [.str (SEG.kind f)] []) (cond (gm [strsA (SEG.incl f)] []) (cond (gm [strsA (SEG.excl f)] []) (cond (gn [.agg (EXP.x (SEG.when f))] []) (some ((.int .i64 6, []))) (none)) (none)) (none)) (cond (gm [strsA (SEG.incl f)] []) (cond (gm [strsA (SEG.excl f)] []) (cond (t1 != 0) (cond (gn [.agg (EXP.x (SEG.when f))] []) (cond (bif t1 != 0 then true else vn [.agg (EXP.x (SEG.when f))] []) (some ((.int .i64 t1, []))) (cond (ge [.agg (EXP.x (SEG.when f))] []) (some ((.int .i64 t2, []))) (none))) (none)) (cond (t3 != 0) (cond (gn [.agg (EXP.x (SEG.when f))] []) (cond (bif t3 != 0 then true else vn [.agg (EXP.x (SEG.when f))] []) (some ((.int .i64 t3, []))) (cond (ge [.agg (EXP.x (SEG.when f))] []) (some ((.int .i64 t2, []))) (none))) (none)) (cond (gn [.agg (EXP.x (SEG.when f))] []) (cond (vn [.agg (EXP.x (SEG.when f))] []) (some ((.int .i64 0, []))) (cond (ge [.agg (EXP.x (SEG.when f))] []) (some ((.int .i64 t2, []))) (none))) (none)))) (none)) (none))) (none)) (none) := by subst h_t3 h_t2 h_t1; kernel_rfl
set_option maxRecDepth 100000 in
theorem rseg_m (gk vk gn vn : List AV → List AO → Bool) (gm ge : List AV → List AO → Bool) (vm ve : List AV → List AO → Int) (f : SEG) {t1 : Int} (h_t1 : vm [strsA (SEG.incl f)] [] = t1) {t2 : Int} (h_t2 : vm [strsA (SEG.excl f)] [] = t2) {t3 : Int} (h_t3 : ve [.agg (EXP.x (SEG.when f))] [] = t3) : runF (V.run [mkE 67 gk vk φB, mkE 78 gm vm φE, mkE 18 gn vn φB, mkE 16 ge ve φE] 9 [] [] [] 37) 9 37 [.agg f.c] [] =
  cond (gk [.str (SEG.key f)] []) (cond (gk [.str (SEG.kind f)] []) (cond (bif !vk [.str (SEG.key f)] [] then true else !vk [.str (SEG.kind f)] []) (some ((.int .i64 6, []))) (cond (gm [strsA (SEG.incl f)] []) (cond (t1 != 0) (some ((.int .i64 t1, []))) (cond (gm [strsA (SEG.excl f)] []) (cond (t2 != 0) (some ((.int .i64 t2, []))) (cond (gn [.agg (EXP.x (SEG.when f))] []) (cond (vn [.agg (EXP.x (SEG.when f))] []) (some ((.int .i64 0, []))) (cond (ge [.agg (EXP.x (SEG.when f))] []) (some ((.int .i64 t3, []))) (none))) (none))) (none))) (none))) (none)) (none) := by subst h_t3 h_t2 h_t1; kernel_rfl
set_option maxRecDepth 100000 in
theorem expt_m (gk vk gv vv : List AV → List AO → Bool) (gp gs ge : List AV → List AO → Bool) (vp vs ve : List AV → List AO → Int) (f : EXPT) {t1 : Int} (h_t1 : vp [spnL (EXPT.claims f)] [] = t1) {t2 : Int} (h_t2 : vs [rngL (EXPT.arms f), .int .i64 8] [] = t2) {t3 : Int} (h_t3 : ve [.agg (EXP.x (EXPT.when f))] [] = t3) : runF (V.run [mkE 65 gk vk φB, mkE 66 gv vv φB, mkE 25 gp vp φE, mkE 23 gs vs φE, mkE 15 ge ve φE] 9 [] [] [] 40) 9 40 [.agg f.c] [] =
  cond (gk [.str (EXPT.key f)] []) (cond (gk [.str (EXPT.layer f)] []) (cond (gk [.str (EXPT.flag f)] []) (cond (bif bif !vk [.str (EXPT.key f)] [] then true else !vk [.str (EXPT.layer f)] [] then true else !vk [.str (EXPT.flag f)] []) (cond (gv [.str (EXPT.salt f)] []) (cond (!vv [.str (EXPT.salt f)] []) (cond (bif decide (EXPT.status f < 1) then true else decide (EXPT.status f > 3)) (cond (gp [spnL (EXPT.claims f)] []) (cond (gs [rngL (EXPT.arms f), .int .i64 8] []) (cond (ge [.agg (EXP.x (EXPT.when f))] []) (some ((.int .i64 6, []))) (none)) (none)) (none)) (cond (gp [spnL (EXPT.claims f)] []) (cond (gs [rngL (EXPT.arms f), .int .i64 8] []) (cond (ge [.agg (EXP.x (EXPT.when f))] []) (some ((.int .i64 6, []))) (none)) (none)) (none))) (cond (bif decide (EXPT.status f < 1) then true else decide (EXPT.status f > 3)) (cond (gp [spnL (EXPT.claims f)] []) (cond (gs [rngL (EXPT.arms f), .int .i64 8] []) (cond (ge [.agg (EXP.x (EXPT.when f))] []) (some ((.int .i64 6, []))) (none)) (none)) (none)) (cond (gp [spnL (EXPT.claims f)] []) (cond (gs [rngL (EXPT.arms f), .int .i64 8] []) (cond (ge [.agg (EXP.x (EXPT.when f))] []) (some ((.int .i64 6, []))) (none)) (none)) (none)))) (none)) (cond (gv [.str (EXPT.salt f)] []) (cond (!vv [.str (EXPT.salt f)] []) (cond (bif decide (EXPT.status f < 1) then true else decide (EXPT.status f > 3)) (cond (gp [spnL (EXPT.claims f)] []) (cond (gs [rngL (EXPT.arms f), .int .i64 8] []) (cond (ge [.agg (EXP.x (EXPT.when f))] []) (some ((.int .i64 2, []))) (none)) (none)) (none)) (cond (gp [spnL (EXPT.claims f)] []) (cond (gs [rngL (EXPT.arms f), .int .i64 8] []) (cond (ge [.agg (EXP.x (EXPT.when f))] []) (some ((.int .i64 2, []))) (none)) (none)) (none))) (cond (bif decide (EXPT.status f < 1) then true else decide (EXPT.status f > 3)) (cond (gp [spnL (EXPT.claims f)] []) (cond (gs [rngL (EXPT.arms f), .int .i64 8] []) (cond (ge [.agg (EXP.x (EXPT.when f))] []) (some ((.int .i64 7, []))) (none)) (none)) (none)) (cond (gp [spnL (EXPT.claims f)] []) (cond (gs [rngL (EXPT.arms f), .int .i64 8] []) (cond (ge [.agg (EXP.x (EXPT.when f))] []) (cond (t1 != 0) (some ((.int .i64 t1, []))) (cond (t2 != 0) (some ((.int .i64 t2, []))) (cond (t3 != 0) (some ((.int .i64 t3, []))) (some ((.int .i64 0, [])))))) (none)) (none)) (none)))) (none))) (none)) (none)) (none) := by subst h_t3 h_t2 h_t1; kernel_rfl
set_option maxRecDepth 100000 in
theorem rexpt_m (gk vk gv vv : List AV → List AO → Bool) (gp gs ge : List AV → List AO → Bool) (vp vs ve : List AV → List AO → Int) (f : EXPT) {t1 : Int} (h_t1 : vp [spnL (EXPT.claims f)] [] = t1) {t2 : Int} (h_t2 : vs [rngL (EXPT.arms f), .int .i64 8] [] = t2) {t3 : Int} (h_t3 : ve [.agg (EXP.x (EXPT.when f))] [] = t3) : runF (V.run [mkE 67 gk vk φB, mkE 68 gv vv φB, mkE 26 gp vp φE, mkE 24 gs vs φE, mkE 16 ge ve φE] 9 [] [] [] 41) 9 41 [.agg f.c] [] =
  cond (gk [.str (EXPT.key f)] []) (cond (gk [.str (EXPT.layer f)] []) (cond (gk [.str (EXPT.flag f)] []) (cond (bif bif !vk [.str (EXPT.key f)] [] then true else !vk [.str (EXPT.layer f)] [] then true else !vk [.str (EXPT.flag f)] []) (some ((.int .i64 6, []))) (cond (gv [.str (EXPT.salt f)] []) (cond (!vv [.str (EXPT.salt f)] []) (some ((.int .i64 2, []))) (cond (bif decide (EXPT.status f < 1) then true else decide (EXPT.status f > 3)) (some ((.int .i64 7, []))) (cond (gp [spnL (EXPT.claims f)] []) (cond (t1 != 0) (some ((.int .i64 t1, []))) (cond (gs [rngL (EXPT.arms f), .int .i64 8] []) (cond (t2 != 0) (some ((.int .i64 t2, []))) (cond (ge [.agg (EXP.x (EXPT.when f))] []) (some ((.int .i64 t3, []))) (none))) (none))) (none)))) (none))) (none)) (none)) (none) := by subst h_t3 h_t2 h_t1; kernel_rfl
end Go.SH

namespace Go.SH
open Go Go.Ab Go.Proofs
set_option linter.unusedVariables false
set_option linter.unusedSimpArgs false
def φW (x : Int × Nat) : AV × List AO := (.int .i64 x.1, [.cells [.int .i64 x.2] ])
def kidsA (p : PART) : AV := .sl .no 5 p.n fun j => [.int .i64 (p.ko j), .str (p.kk j), .str (p.kn j), valL (p.kv j), .sl .no 5 (p.km j) (p.kg j)]
def kidC (p : PART) (j : Nat) : List AV := [.int .i64 (p.ko j), .str (p.kk j), .str (p.kn j), valL (p.kv j), .sl .no 5 (p.km j) (p.kg j)]
def cntO (n : Int) : AO := .cells [.int .i64 n]
def E1 (p : PART) (d i n : Nat) : St := { env := [(1, .int .i64 d), (2, .ref keyBase 0), (27, kidsA p), (28, .int .i64 p.n), (29, .int .i64 i)], objs := [(keyBase, cntO n)] }
def E2 (p : PART) (d i n : Nat) : St := { env := [(1, .int .i64 (d + 1 : Nat)), (2, .ref keyBase 0), (3, .ref 3 0), (8, .int .i64 i)], objs := [(3, .cells p.c), (keyBase, cntO n)] }
def E3 (p : PART) (i : Nat) : St := { env := [(1, .ref 1 0), (3, .int .i64 (p.n + p.vals.length : Nat)), (4, .int .i64 i)], objs := [(1, .cells p.c)] }
def outW (x : Int × Nat) (k : Ex → St → Res) : Res := cond (x.1 != 0) (k .ret { env := [(6, .int .i64 x.1)], objs := [(keyBase, cntO x.2)] }) (k (.exit 0) { env := [], objs := [(keyBase, cntO x.2)] })
def outG (p : PART) (b : Bool) (k : Ex → St → Res) : Res := cond b (k .ret { env := [(2, .bool true)], objs := [] }) (k (.exit 0) { env := [(3, .int .i64 (p.n + p.vals.length : Nat))], objs := [] })
set_option maxRecDepth 100000 in
theorem expr_r (gp : List AV → List AO → Bool) (vp : List AV → List AO → Int) (ge : List AV → List AO → Bool) (ve : List AV → List AO → Int × Nat) (L : List (List Nat × Orc)) (m : Nat) (p : PART) (d i n : Nat) (kn : St → Res) (k : Ex → St → Res) {t1 : Int × Nat} (h_t1 : ve [.agg (kidC p (Int.toNat (↑i : Int))), .int .i64 (IntKind.wrap IntKind.i64 ((↑d : Int) + 1)), .ref 1000000 0] [cntO (↑n : Int)] = t1) : roundR (V.run [mkE 106 gp vp φE, mkE 52 ge ve φW] 9 [] L [] 52) 52 m [1, 1, 1, 1, 0, 1, 0] (E1 p d i n) kn k =
  cond (decide ((↑i : Int) < (↑(PART.n p) : Int))) (cond (within (↑i : Int) (PART.n p)) (cond (ge [.agg (kidC p (Int.toNat (↑i : Int))), .int .i64 (IntKind.wrap IntKind.i64 ((↑d : Int) + 1)), .ref 1000000 0] [cntO (↑n : Int)]) (cond (Prod.fst t1 != 0) (k (.ret) ({ env := [(6, .int .i64 (Prod.fst t1))], objs := [(1000000, cntO (↑(Prod.snd t1) : Int))] })) (kn ({ env := [(1, .int .i64 (↑d : Int)), (2, .ref 1000000 0), (27, kidsA p), (28, .int .i64 (↑(PART.n p) : Int)), (29, .int .i64 (IntKind.wrap IntKind.i64 ((↑i : Int) + 1)))], objs := [(1000000, cntO (↑(Prod.snd t1) : Int))] }))) (none)) (none)) (k (.exit 0) ({ env := [], objs := [(1000000, cntO (↑n : Int))] })) := by subst h_t1; kernel_rfl
set_option maxRecDepth 100000 in
theorem walk_r (gp : List AV → List AO → Bool) (vp : List AV → List AO → Int) (ge : List AV → List AO → Bool) (ve : List AV → List AO → Int × Nat) (L : List (List Nat × Orc)) (m : Nat) (p : PART) (d i n : Nat) (kn : St → Res) (k : Ex → St → Res) {t1 : Int × Nat} (h_t1 : ve [.agg (kidC p (Int.toNat (↑i : Int))), .int .i64 (IntKind.wrap IntKind.i64 ((↑(d + 1) : Int) + 1)), .ref 1000000 0] [cntO (↑n : Int)] = t1) : roundR (V.run [mkE 107 gp vp φE, mkE 53 ge ve φW] 9 [] L [] 53) 53 m [1, 1, 1, 1, 1, 0, 1, 0] (E2 p d i n) kn k =
  cond (decide ((↑i : Int) < (↑(PART.n p) : Int))) (cond (within (↑i : Int) (PART.n p)) (cond (ge [.agg (kidC p (Int.toNat (↑i : Int))), .int .i64 (IntKind.wrap IntKind.i64 ((↑(d + 1) : Int) + 1)), .ref 1000000 0] [cntO (↑n : Int)]) (cond (Prod.fst t1 != 0) (k (.ret) ({ env := [(6, .int .i64 (Prod.fst t1))], objs := [(1000000, cntO (↑(Prod.snd t1) : Int))] })) (kn ({ env := [(1, .int .i64 (↑(d + 1) : Int)), (2, .ref 1000000 0), (3, .ref 3 0), (8, .int .i64 (IntKind.wrap IntKind.i64 ((↑i : Int) + 1)))], objs := [(3, .cells (PART.c p)), (1000000, cntO (↑(Prod.snd t1) : Int))] }))) (none)) (none)) (k (.exit 0) ({ env := [], objs := [(1000000, cntO (↑n : Int))] })) := by subst h_t1; kernel_rfl
set_option maxRecDepth 100000 in
theorem big_r (ge ve : List AV → List AO → Bool) (L : List (List Nat × Orc)) (m : Nat) (p : PART) (i : Nat) (kn : St → Res) (k : Ex → St → Res)  : roundR (V.run [mkE 11 ge ve φB] 9 [] L [] 11) 11 m [1, 1, 0, 1, 0] (E3 p i) kn k =
  cond (bif decide ((↑i : Int) < (↑(PART.n p) : Int)) then decide ((↑(PART.n p + List.length (PART.vals p)) : Int) < 200) else false) (cond (within (↑i : Int) (PART.n p)) (cond (ge [.agg (kidC p (Int.toNat (↑i : Int)))] []) (cond (ve [.agg (kidC p (Int.toNat (↑i : Int)))] []) (k (.ret) ({ env := [(2, .bool true)], objs := [] })) (kn ({ env := [(1, .ref 1 0), (3, .int .i64 (↑(PART.n p + List.length (PART.vals p)) : Int)), (4, .int .i64 (IntKind.wrap IntKind.i64 ((↑i : Int) + 1)))], objs := [(1, .cells (PART.c p))] }))) (none)) (none)) (k (.exit 0) ({ env := [(3, .int .i64 (↑(PART.n p + List.length (PART.vals p)) : Int))], objs := [] })) := by kernel_rfl
set_option maxRecDepth 100000 in
theorem expr_m (gp : List AV → List AO → Bool) (vp : List AV → List AO → Int) (ge : List AV → List AO → Bool) (ve : List AV → List AO → Int × Nat) (g : St → Bool) (v : St → Int × Nat) (p : PART) (d n : Nat) {t1 : Int} (h_t1 : vp [.agg (PART.c p), .int .i64 (↑d : Int)] [] = t1) {t2 : Int × Nat} (h_t2 : v { env := [(1, .int .i64 (↑d : Int)), (2, .ref 1000000 0), (27, kidsA p), (28, .int .i64 (↑(PART.n p) : Int)), (29, .int .i64 0)], objs := [(1000000, cntO (IntKind.wrap IntKind.i64 ((↑n : Int) + 1)))] } = t2) : runF (V.run [mkE 106 gp vp φE, mkE 52 ge ve φW] 9 [] [([1, 1, 1, 1, 0, 1, 0], mkO g v outW)] [] 52) 9 52 [.agg p.c, .int .i64 d, .ref keyBase 0] [cntO n] =
  cond (decide ((↑n : Int) ≥ 60)) (some ((.int .i64 5, [cntO (↑n : Int)]))) (cond (gp [.agg (PART.c p), .int .i64 (↑d : Int)] []) (cond (t1 != 0) (some ((.int .i64 t1, [cntO (IntKind.wrap IntKind.i64 ((↑n : Int) + 1))]))) (cond (g { env := [(1, .int .i64 (↑d : Int)), (2, .ref 1000000 0), (27, kidsA p), (28, .int .i64 (↑(PART.n p) : Int)), (29, .int .i64 0)], objs := [(1000000, cntO (IntKind.wrap IntKind.i64 ((↑n : Int) + 1)))] }) (cond (Prod.fst t2 != 0) (some ((.int .i64 (Prod.fst t2), [cntO (↑(Prod.snd t2) : Int)]))) (some ((.int .i64 0, [cntO (↑(Prod.snd t2) : Int)])))) (none))) (none)) := by subst h_t2 h_t1; kernel_rfl
set_option maxRecDepth 100000 in
theorem walk_m (gp : List AV → List AO → Bool) (vp : List AV → List AO → Int) (ge : List AV → List AO → Bool) (ve : List AV → List AO → Int × Nat) (g : St → Bool) (v : St → Int × Nat) (p : PART) (d n : Nat) {t1 : Int} (h_t1 : vp [.agg (PART.c p)] [] = t1) {t2 : Int × Nat} (h_t2 : v { env := [(1, .int .i64 (↑(d + 1) : Int)), (2, .ref 1000000 0), (3, .ref 3 0), (8, .int .i64 0)], objs := [(3, .cells (PART.c p)), (1000000, cntO (IntKind.wrap IntKind.i64 ((↑n : Int) + 1)))] } = t2) : runF (V.run [mkE 107 gp vp φE, mkE 53 ge ve φW] 9 [] [([1, 1, 1, 1, 1, 0, 1, 0], mkO g v outW)] [] 53) 9 53 [.agg p.c, .int .i64 (d + 1 : Nat), .ref keyBase 0] [cntO n] =
  cond (decide ((↑n : Int) ≥ 60)) (some ((.int .i64 5, [cntO (↑n : Int)]))) (cond (decide ((↑(d + 1) : Int) > 10)) (some ((.int .i64 18, [cntO (IntKind.wrap IntKind.i64 ((↑n : Int) + 1))]))) (cond (gp [.agg (PART.c p)] []) (cond (t1 != 0) (some ((.int .i64 t1, [cntO (IntKind.wrap IntKind.i64 ((↑n : Int) + 1))]))) (cond (g { env := [(1, .int .i64 (↑(d + 1) : Int)), (2, .ref 1000000 0), (3, .ref 3 0), (8, .int .i64 0)], objs := [(3, .cells (PART.c p)), (1000000, cntO (IntKind.wrap IntKind.i64 ((↑n : Int) + 1)))] }) (cond (Prod.fst t2 != 0) (some ((.int .i64 (Prod.fst t2), [cntO (↑(Prod.snd t2) : Int)]))) (some ((.int .i64 0, [cntO (↑(Prod.snd t2) : Int)])))) (none))) (none))) := by subst h_t2 h_t1; kernel_rfl
set_option maxRecDepth 100000 in
theorem big_m (ge ve : List AV → List AO → Bool) (g : St → Bool) (v : St → Bool) (p : PART)  : runF (V.run [mkE 11 ge ve φB] 9 [] [([1, 1, 0, 1, 0], mkO g v (outG p))] [] 11) 9 11 [.agg p.c] [] =
  cond (g { env := [(1, .ref 1 0), (3, .int .i64 (IntKind.wrap IntKind.i64 ((↑(PART.n p) : Int) + (↑(List.length (PART.vals p)) : Int)))), (4, .int .i64 0)], objs := [(1, .cells (PART.c p))] }) (cond (v { env := [(1, .ref 1 0), (3, .int .i64 (IntKind.wrap IntKind.i64 ((↑(PART.n p) : Int) + (↑(List.length (PART.vals p)) : Int)))), (4, .int .i64 0)], objs := [(1, .cells (PART.c p))] }) (some ((.bool true, []))) (some ((.bool (decide ((↑(PART.n p + List.length (PART.vals p)) : Int) ≥ 200)), [])))) (none) := by kernel_rfl
end Go.SH

namespace Go.SH
open Go Go.Ab Go.Proofs
set_option linter.unusedVariables false
set_option linter.unusedSimpArgs false
theorem kidC_eq {e : EXP} {j : Nat} (h : j < e.kids.length) : kidC e.part j = (e.kid j).c := by
  rw [EXP.c_eq]
  unfold kidC EXP.part
  simp only [bltT h]
  rfl
theorem kid_mem {e : EXP} {j : Nat} (h : j < e.kids.length) : e.kid j ∈ e.kids := by
  unfold EXP.kid
  rw [List.getD_eq_getElem?_getD, List.getElem?_eq_getElem h]
  exact List.getElem_mem h
theorem wrap_small {n : Nat} (h : n < 1000000) : IntKind.wrap .i64 ((n : Int) + 1) = ((n + 1 : Nat) : Int) := by rw [wrap_i64 (by omega) (by omega)]; rfl
theorem levelE_cast (e : EXP) (d : Nat) : (bif decide ((d : Int) ≥ 10) then 18 else partE e.part) = levelE e d := by
  unfold levelE
  by_cases h : d ≥ 10
  · rw [decide_eq_true h, decide_eq_true (by omega)]
  · rw [decide_eq_false h, decide_eq_false (by omega)]
theorem ge60 (n : Nat) : decide ((n : Int) ≥ 60) = decide (n ≥ 60) := by
  by_cases h : n ≥ 60
  · rw [decide_eq_true h, decide_eq_true (by omega)]
  · rw [decide_eq_false h, decide_eq_false (by omega)]
instance : Inhabited (Int × Nat) := ⟨(0, 0)⟩
section
variable (z : Nat)
def wA (x : EXP × Nat × Nat) : List AV := [.agg x.1.c, .int .i64 (x.2.1 + z : Nat), .ref keyBase 0]
def wO (x : EXP × Nat × Nat) : List AO := [cntO x.2.2]
def wW (x : EXP × Nat × Nat) : Int × Nat := walkE x.1 x.2.1 x.2.2
def wP (e : EXP) (x : EXP × Nat × Nat) : Prop := x.1 ∈ e.kids ∧ x.2.1 ≤ 10
theorem wInj (a b : EXP × Nat × Nat) (h : wA z a = wA z b) (h' : wO a = wO b) : wW a = wW b := by
  obtain ⟨e, d, n⟩ := a
  obtain ⟨e', d', n'⟩ := b
  simp only [wA, wO, cntO, List.cons.injEq, AV.agg.injEq, AV.int.injEq, AO.cells.injEq, true_and, and_true] at h h'
  obtain ⟨h1, h2⟩ := h
  have h1 := EXP.c_inj _ _ h1
  have h2 : d = d' := by omega
  have h3 : n = n' := by omega
  subst h1 h2 h3; rfl
noncomputable abbrev gW (e : EXP) : List AV → List AO → Bool := goodA (wA z) wO (wP e)
noncomputable abbrev vW (e : EXP) : List AV → List AO → Int × Nat := valA (wA z) wO (wP e) wW
theorem gW_eq {e k : EXP} {d n : Nat} (h : k ∈ e.kids) (hd : d ≤ 10) : gW z e [.agg k.c, .int .i64 (d + z : Nat), .ref 1000000 0] [cntO n] = true := goodA_eq (A := wA z) (O := wO) (v := (k, d, n)) ⟨h, hd⟩
theorem vW_eq {e k : EXP} {d n : Nat} (h : k ∈ e.kids) (hd : d ≤ 10) : vW z e [.agg k.c, .int .i64 (d + z : Nat), .ref 1000000 0] [cntO n] = walkE k d n := valA_eq (A := wA z) (O := wO) (v := (k, d, n)) (fun a b _ _ h1 h2 => wInj z a b h1 h2) ⟨h, hd⟩
end
theorem E1_inj (e : EXP) (d : Nat) (a b : Nat × Nat) (h : E1 e.part d a.1 a.2 = E1 e.part d b.1 b.2) : walkI e.kids (d + 1) a.1 a.2 = walkI e.kids (d + 1) b.1 b.2 := by
  simp only [E1, cntO, St.mk.injEq, List.cons.injEq, Prod.mk.injEq, AV.int.injEq, AO.cells.injEq, and_true, true_and] at h
  rw [show a.1 = b.1 by omega, show a.2 = b.2 by omega]
theorem E2_inj (e : EXP) (d : Nat) (a b : Nat × Nat) (h : E2 e.part d a.1 a.2 = E2 e.part d b.1 b.2) : walkI e.kids (d + 1) a.1 a.2 = walkI e.kids (d + 1) b.1 b.2 := by
  simp only [E2, cntO, St.mk.injEq, List.cons.injEq, Prod.mk.injEq, AV.int.injEq, AO.cells.injEq, and_true, true_and] at h
  rw [show a.1 = b.1 by omega, show a.2 = b.2 by omega]
theorem E3_inj (e : EXP) (a b : Nat) (h : E3 e.part a = E3 e.part b) : a = b := by
  simp only [E3, St.mk.injEq, List.cons.injEq, Prod.mk.injEq, AV.int.injEq, and_true, true_and] at h; omega
theorem Ok.len {e : EXP} (h : e.Ok) : e.kids.length ≤ 1048576 := by cases h with | mk _ h1 h2 h3 h4 h5 => exact h4
theorem Ok.vals {e : EXP} (h : e.Ok) : valsOk e.vals := by cases h with | mk _ h1 h2 h3 h4 h5 => exact h3
theorem expr_ok : ∀ e : EXP, e.Ok → ∀ d n : Nat, d ≤ 10 → Ct V.P V.G 52 [.agg e.c, .int .i64 d, .ref keyBase 0] [cntO n] (φW (walkE e d n)) := by
  intro e he
  induction he with
  | mk e h1 h2 h3 h4 h5 ih =>
  intro d n hd
  have he : e.Ok := .mk e h1 h2 h3 h4 h5
  have hl := fun (hd : d < 10) (gp : List AV → List AO → Bool) (vp : List AV → List AO → Int) L => loopOk_of (X := V.run [mkE 106 gp vp φE, mkE 52 (gW 0 e) (vW 0 e) φW] 9 [] L [] 52) (f := 52) (p := [1, 1, 1, 1, 0, 1, 0]) (b := subC (bodyOf V.P 52) ([1, 1, 1, 1, 0, 1, 0] ++ [0]))
    (fun x : Nat × Nat => E1 e.part d x.1 x.2) (fun x => x.1 ≤ e.kids.length) (fun x => e.kids.length - x.1) (fun x => walkI e.kids (d + 1) x.1 x.2) outW (by kernel_rfl) 9 (fun x hx k kn hk => by
      obtain ⟨i, n⟩ := x
      show roundR _ _ _ _ (E1 e.part d i n) kn k = outW (walkI e.kids (d + 1) i n) k
      by_cases h : i < e.kids.length
      · have w1 : IntKind.wrap .i64 ((d : Int) + 1) = ((d + 1 + 0 : Nat) : Int) := wrap_small (by omega)
        refine (expr_r gp vp (gW 0 e) (vW 0 e) L _ e.part d i n kn k (t1 := walkE (e.kid i) (d + 1) n) ?_).trans ?_
        · rw [Int.toNat_natCast, kidC_eq h, w1]; exact vW_eq 0 (d := d + 1) (n := n) (kid_mem h) (by omega)
        · rw [show e.part.n = e.kids.length from rfl, lt_true h, within_lt h, Int.toNat_natCast, kidC_eq h, w1, gW_eq 0 (d := d + 1) (n := n) (kid_mem h) (by omega), wrap_next h (by omega), walkI_step _ _ _ h]
          show cond _ _ _ = outW _ k
          rw [show e.kids.getD i default = e.kid i from rfl]
          generalize walkE (e.kid i) (d + 1) n = r at *
          cases hr : (r.1 != 0) with
          | true => simp only [cond_true]; unfold outW; rw [hr]; rfl
          | false => exact hk (i + 1, r.2) (by show i + 1 ≤ _; omega) (by show e.kids.length - (i + 1) < e.kids.length - i; omega)
      · refine (expr_r gp vp (gW 0 e) (vW 0 e) L _ e.part d i n kn k rfl).trans ?_
        rw [show e.part.n = e.kids.length from rfl, lt_false h, walkI_end _ _ _ h]; rfl)
  have he' := walkE_eq e d n
  refine ct_loops (n := 9) (d := 9) (T := [ent1 106 [.agg e.part.c, .int .i64 d] (levelE e d) φE, entC 52 (wA 0) wO (wP e) wW φW]) (L := if d < 10 then [([1, 1, 1, 1, 0, 1, 0], mkO (goodS (fun x : Nat × Nat => E1 e.part d x.1 x.2) (fun x => x.1 ≤ e.kids.length)) (valS (fun x : Nat × Nat => E1 e.part d x.1 x.2) (fun x => x.1 ≤ e.kids.length) (fun x => walkI e.kids (d + 1) x.1 x.2)) outW)] else [([1, 1, 1, 1, 0, 1, 0], mkO (fun _ => false) (fun _ => (0, 0)) outW)]) mixed funcs
    (tabOk_cons (ent1_ok (by have := part_ok e.part he.part d; rw [levelE_cast] at this; exact this)) (tabOk_cons (entC_ok fun x hx => ih x.1 hx.1 x.2.1 x.2.2 hx.2) tabOk_nil)) ?_ ?_
  · by_cases h : d < 10
    · rw [if_pos h]; exact loopsOk_cons (hl h _ _ _) loopsOk_nil
    · rw [if_neg h]
      exact loopsOk_cons (fun s k r h => by simp [mkO] at h) loopsOk_nil
  · rw [← e.part_eq]
    by_cases h : d < 10
    · rw [if_pos h]
      have hv : valS (fun x : Nat × Nat => E1 e.part d x.1 x.2) (fun x => x.1 ≤ e.kids.length) (fun x => walkI e.kids (d + 1) x.1 x.2) (E1 e.part d 0 (n + 1)) = walkI e.kids (d + 1) 0 (n + 1) := valS_eq (S := fun x : Nat × Nat => E1 e.part d x.1 x.2) (v := (0, n + 1)) (fun a b _ _ h => E1_inj e d a b h) (Nat.zero_le _)
      have hg : goodS (fun x : Nat × Nat => E1 e.part d x.1 x.2) (fun x => x.1 ≤ e.kids.length) (E1 e.part d 0 (n + 1)) = true := goodS_eq (S := fun x : Nat × Nat => E1 e.part d x.1 x.2) (v := (0, n + 1)) (Nat.zero_le _)
      by_cases hn : n ≥ 60
      · refine (expr_m _ _ (gW 0 e) (vW 0 e) _ _ e.part d n rfl rfl).trans ?_
        rw [ge60, he', decide_eq_true hn]; rfl
      · have w1 : IntKind.wrap .i64 ((n : Int) + 1) = ((n + 1 : Nat) : Int) := wrap_small (by omega)
        refine (expr_m (g1 [.agg e.part.c, .int .i64 d]) (v1 [.agg e.part.c, .int .i64 d] (levelE e d)) (gW 0 e) (vW 0 e) _ _ e.part d n (v1_eq _ _) (t2 := walkI e.kids (d + 1) 0 (n + 1)) (by rw [w1]; exact hv)).trans ?_
        rw [ge60, he', decide_eq_false hn, g1_eq, w1]
        rw [show goodS (fun x : Nat × Nat => E1 e.part d x.1 x.2) (fun x => x.1 ≤ e.kids.length) { env := [(1, .int .i64 (d : Int)), (2, .ref 1000000 0), (27, kidsA e.part), (28, .int .i64 (e.part.n : Int)), (29, .int .i64 0)], objs := [(1000000, cntO ((n + 1 : Nat) : Int))] } = true from hg]
        rw [show walkI e.kids (d + 1) 0 (n + 1) = walkL e.kids (d + 1) (n + 1) from rfl]
        generalize walkL e.kids (d + 1) (n + 1) = q
        cases hx : (levelE e d != 0) with
        | true => rfl
        | false =>
          obtain ⟨q1, q2⟩ := q
          by_cases hq : q1 = 0
          · subst hq; rfl
          · have : (q1 != 0) = true := by simp [hq]
            show (cond false _ (cond true (cond (q1 != 0) _ _) none)) = some (φW (cond false _ (cond false _ (q1, q2))))
            rw [this]; rfl
    · rw [if_neg h]
      have hd : levelE e d = 18 := by unfold levelE; rw [decide_eq_true (by omega)]; rfl
      refine (expr_m (g1 [.agg e.part.c, .int .i64 d]) (v1 [.agg e.part.c, .int .i64 d] (levelE e d)) (gW 0 e) (vW 0 e) _ _ e.part d n (v1_eq _ _) rfl).trans ?_
      rw [ge60, he', g1_eq, hd]
      by_cases hn : n ≥ 60
      · rw [decide_eq_true hn]; rfl
      · rw [decide_eq_false hn, wrap_small (by omega)]; rfl
end Go.SH

namespace Go.SH
open Go Go.Ab Go.Proofs
set_option linter.unusedVariables false
set_option linter.unusedSimpArgs false
set_option maxRecDepth 100000 in
theorem exp15_m (ge : List AV → List AO → Bool) (ve : List AV → List AO → Int × Nat) (p : PART) {t1 : Int × Nat} (h_t1 : ve [.agg (PART.c p), .int .i64 0, .ref 1000000 0] [cntO 0] = t1) : runF (V.run [mkE 52 ge ve φW] 9 [] [] [] 15) 9 15 [.agg p.c] [] =
  cond (ge [.agg (PART.c p), .int .i64 0, .ref 1000000 0] [cntO 0]) (some ((.int .i64 (Prod.fst t1), []))) (none) := by subst h_t1; kernel_rfl
set_option maxRecDepth 100000 in
theorem exp16_m (ge : List AV → List AO → Bool) (ve : List AV → List AO → Int × Nat) (p : PART) {t1 : Int × Nat} (h_t1 : ve [.agg (PART.c p), .int .i64 1, .ref 1000000 0] [cntO 0] = t1) : runF (V.run [mkE 53 ge ve φW] 9 [] [] [] 16) 9 16 [.agg p.c] [] =
  cond (ge [.agg (PART.c p), .int .i64 1, .ref 1000000 0] [cntO 0]) (some ((.int .i64 (Prod.fst t1), []))) (none) := by subst h_t1; kernel_rfl
end Go.SH

namespace Go.SH
open Go Go.Ab Go.Proofs
set_option linter.unusedVariables false
set_option linter.unusedSimpArgs false
theorem gt10 (d : Nat) : decide (((d + 1 : Nat) : Int) > 10) = decide (d ≥ 10) := by
  by_cases h : d ≥ 10
  · rw [decide_eq_true h, decide_eq_true (by omega)]
  · rw [decide_eq_false h, decide_eq_false (by omega)]
theorem walk_ok : ∀ e : EXP, e.Ok → ∀ d n : Nat, d ≤ 10 → Ct V.P V.G 53 [.agg e.c, .int .i64 (d + 1 : Nat), .ref keyBase 0] [cntO n] (φW (walkE e d n)) := by
  intro e he
  induction he with
  | mk e h1 h2 h3 h4 h5 ih =>
  intro d n hd
  have he : e.Ok := .mk e h1 h2 h3 h4 h5
  have hl := fun (hd : d < 10) (gp : List AV → List AO → Bool) (vp : List AV → List AO → Int) L => loopOk_of (X := V.run [mkE 107 gp vp φE, mkE 53 (gW 1 e) (vW 1 e) φW] 9 [] L [] 53) (f := 53) (p := [1, 1, 1, 1, 1, 0, 1, 0]) (b := subC (bodyOf V.P 53) ([1, 1, 1, 1, 1, 0, 1, 0] ++ [0]))
    (fun x : Nat × Nat => E2 e.part d x.1 x.2) (fun x => x.1 ≤ e.kids.length) (fun x => e.kids.length - x.1) (fun x => walkI e.kids (d + 1) x.1 x.2) outW (by kernel_rfl) 9 (fun x hx k kn hk => by
      obtain ⟨i, n⟩ := x
      show roundR _ _ _ _ (E2 e.part d i n) kn k = outW (walkI e.kids (d + 1) i n) k
      by_cases h : i < e.kids.length
      · have w1 : IntKind.wrap .i64 (((d + 1 : Nat) : Int) + 1) = ((d + 1 + 1 : Nat) : Int) := wrap_small (by omega)
        refine (walk_r gp vp (gW 1 e) (vW 1 e) L _ e.part d i n kn k (t1 := walkE (e.kid i) (d + 1) n) ?_).trans ?_
        · rw [Int.toNat_natCast, kidC_eq h, w1]; exact vW_eq 1 (d := d + 1) (n := n) (kid_mem h) (by omega)
        · rw [show e.part.n = e.kids.length from rfl, lt_true h, within_lt h, Int.toNat_natCast, kidC_eq h, w1, gW_eq 1 (d := d + 1) (n := n) (kid_mem h) (by omega), wrap_next h (by omega), walkI_step _ _ _ h]
          show cond _ _ _ = outW _ k
          rw [show e.kids.getD i default = e.kid i from rfl]
          generalize walkE (e.kid i) (d + 1) n = r at *
          cases hr : (r.1 != 0) with
          | true => simp only [cond_true]; unfold outW; rw [hr]; rfl
          | false => exact hk (i + 1, r.2) (by show i + 1 ≤ _; omega) (by show e.kids.length - (i + 1) < e.kids.length - i; omega)
      · refine (walk_r gp vp (gW 1 e) (vW 1 e) L _ e.part d i n kn k rfl).trans ?_
        rw [show e.part.n = e.kids.length from rfl, lt_false h, walkI_end _ _ _ h]; rfl)
  have he' := walkE_eq e d n
  refine ct_loops (n := 9) (d := 9) (T := [ent1 107 [.agg e.part.c] (partE e.part) φE, entC 53 (wA 1) wO (wP e) wW φW]) (L := if d < 10 then [([1, 1, 1, 1, 1, 0, 1, 0], mkO (goodS (fun x : Nat × Nat => E2 e.part d x.1 x.2) (fun x => x.1 ≤ e.kids.length)) (valS (fun x : Nat × Nat => E2 e.part d x.1 x.2) (fun x => x.1 ≤ e.kids.length) (fun x => walkI e.kids (d + 1) x.1 x.2)) outW)] else [([1, 1, 1, 1, 1, 0, 1, 0], mkO (fun _ => false) (fun _ => (0, 0)) outW)]) mixed funcs
    (tabOk_cons (ent1_ok (rpart_ok e.part he.part)) (tabOk_cons (entC_ok fun x hx => ih x.1 hx.1 x.2.1 x.2.2 hx.2) tabOk_nil)) ?_ ?_
  · by_cases h : d < 10
    · rw [if_pos h]; exact loopsOk_cons (hl h _ _ _) loopsOk_nil
    · rw [if_neg h]
      exact loopsOk_cons (fun s k r h => by simp [mkO] at h) loopsOk_nil
  · rw [← e.part_eq]
    by_cases h : d < 10
    · rw [if_pos h]
      have hv : valS (fun x : Nat × Nat => E2 e.part d x.1 x.2) (fun x => x.1 ≤ e.kids.length) (fun x => walkI e.kids (d + 1) x.1 x.2) (E2 e.part d 0 (n + 1)) = walkI e.kids (d + 1) 0 (n + 1) := valS_eq (S := fun x : Nat × Nat => E2 e.part d x.1 x.2) (v := (0, n + 1)) (fun a b _ _ h => E2_inj e d a b h) (Nat.zero_le _)
      have hg : goodS (fun x : Nat × Nat => E2 e.part d x.1 x.2) (fun x => x.1 ≤ e.kids.length) (E2 e.part d 0 (n + 1)) = true := goodS_eq (S := fun x : Nat × Nat => E2 e.part d x.1 x.2) (v := (0, n + 1)) (Nat.zero_le _)
      have hx0 : levelE e d = partE e.part := by unfold levelE; rw [decide_eq_false (by omega)]; rfl
      rw [hx0] at he'
      by_cases hn : n ≥ 60
      · refine (walk_m _ _ (gW 1 e) (vW 1 e) _ _ e.part d n rfl rfl).trans ?_
        rw [ge60, he', decide_eq_true hn]; rfl
      · have w1 : IntKind.wrap .i64 ((n : Int) + 1) = ((n + 1 : Nat) : Int) := wrap_small (by omega)
        refine (walk_m (g1 [.agg e.part.c]) (v1 [.agg e.part.c] (partE e.part)) (gW 1 e) (vW 1 e) _ _ e.part d n (v1_eq _ _) (t2 := walkI e.kids (d + 1) 0 (n + 1)) (by rw [w1]; exact hv)).trans ?_
        rw [ge60, he', decide_eq_false hn, g1_eq, w1, gt10, decide_eq_false (show ¬ d ≥ 10 by omega)]
        rw [show goodS (fun x : Nat × Nat => E2 e.part d x.1 x.2) (fun x => x.1 ≤ e.kids.length) { env := [(1, .int .i64 ((d + 1 : Nat) : Int)), (2, .ref 1000000 0), (3, .ref 3 0), (8, .int .i64 0)], objs := [(3, .cells e.part.c), (1000000, cntO ((n + 1 : Nat) : Int))] } = true from hg]
        rw [show walkI e.kids (d + 1) 0 (n + 1) = walkL e.kids (d + 1) (n + 1) from rfl]
        generalize walkL e.kids (d + 1) (n + 1) = q
        cases hx : (partE e.part != 0) with
        | true => rfl
        | false =>
          obtain ⟨q1, q2⟩ := q
          by_cases hq : q1 = 0
          · subst hq; rfl
          · have : (q1 != 0) = true := by simp [hq]
            show (cond false _ (cond true (cond (q1 != 0) _ _) none)) = some (φW (cond false _ (cond false _ (q1, q2))))
            rw [this]; rfl
    · rw [if_neg h]
      have hd : levelE e d = 18 := by unfold levelE; rw [decide_eq_true (by omega)]; rfl
      refine (walk_m (g1 [.agg e.part.c]) (v1 [.agg e.part.c] (partE e.part)) (gW 1 e) (vW 1 e) _ _ e.part d n (v1_eq _ _) rfl).trans ?_
      rw [ge60, he', hd, gt10, decide_eq_true (show d ≥ 10 by omega)]
      by_cases hn : n ≥ 60
      · rw [decide_eq_true hn]; rfl
      · rw [decide_eq_false hn, wrap_small (by omega)]; rfl
def w0 (e : EXP) (x : EXP × Nat × Nat) : Prop := x = (e, 0, 0)
theorem exp15_ok (e : EXP) (h : e.Ok) : Ct V.P V.G 15 [.agg e.c] [] (φE (exprE e)) := by
  refine ct_loops (n := 9) (d := 9) (L := []) (T := [entC 52 (wA 0) wO (w0 e) wW φW]) mixed funcs (tabOk_cons (entC_ok fun x hx => by obtain rfl := hx; exact expr_ok e h 0 0 (by omega)) tabOk_nil) loopsOk_nil ?_
  rw [← e.part_eq]
  have hg : goodA (wA 0) wO (w0 e) [.agg e.part.c, .int .i64 0, .ref 1000000 0] [cntO 0] = true := by
    rw [e.part_eq]; exact goodA_eq (A := wA 0) (O := wO) (v := (e, 0, 0)) rfl
  have hv : valA (wA 0) wO (w0 e) wW [.agg e.part.c, .int .i64 0, .ref 1000000 0] [cntO 0] = walkE e 0 0 := by
    rw [e.part_eq]; exact valA_eq (A := wA 0) (O := wO) (v := (e, 0, 0)) (fun a b _ _ h1 h2 => wInj 0 a b h1 h2) rfl
  refine (exp15_m _ _ e.part hv).trans ?_
  rw [hg]; rfl
theorem exp16_ok (e : EXP) (h : e.Ok) : Ct V.P V.G 16 [.agg e.c] [] (φE (exprE e)) := by
  refine ct_loops (n := 9) (d := 9) (L := []) (T := [entC 53 (wA 1) wO (w0 e) wW φW]) mixed funcs (tabOk_cons (entC_ok fun x hx => by obtain rfl := hx; exact walk_ok e h 0 0 (by omega)) tabOk_nil) loopsOk_nil ?_
  rw [← e.part_eq]
  have hg : goodA (wA 1) wO (w0 e) [.agg e.part.c, .int .i64 1, .ref 1000000 0] [cntO 0] = true := by
    rw [e.part_eq]; exact goodA_eq (A := wA 1) (O := wO) (v := (e, 0, 0)) rfl
  have hv : valA (wA 1) wO (w0 e) wW [.agg e.part.c, .int .i64 1, .ref 1000000 0] [cntO 0] = walkE e 0 0 := by
    rw [e.part_eq]; exact valA_eq (A := wA 1) (O := wO) (v := (e, 0, 0)) (fun a b _ _ h1 h2 => wInj 1 a b h1 h2) rfl
  refine (exp16_m _ _ e.part hv).trans ?_
  rw [hg]; rfl
def expA (e : EXP) : List AV := [.agg e.c]
theorem expA_inj {τ : Type} (w : EXP → τ) (a b : EXP) (h : expA a = expA b) : w a = w b := by
  simp only [expA, List.cons.injEq, AV.agg.injEq, and_true] at h
  rw [EXP.c_inj _ _ h]
def outG' (e : EXP) (b : Bool) (k : Ex → St → Res) : Res := outG e.part b k
theorem big_ok : ∀ e : EXP, e.Ok → Ct V.P V.G 11 [.agg e.c] [] (φB (bigB e)) := by
  intro e he
  induction he with
  | mk e h1 h2 h3 h4 h5 ih =>
  have hn : e.part.n + e.part.vals.length = e.kids.length + e.vals.length := rfl
  have hs := h3.1
  have hl := fun L => loopOk_of (X := V.run [mkE 11 (gF expA (· ∈ e.kids)) (vF expA (· ∈ e.kids) bigB) φB] 9 [] L [] 11) (f := 11) (p := [1, 1, 0, 1, 0]) (b := subC (bodyOf V.P 11) ([1, 1, 0, 1, 0] ++ [0]))
    (fun i : Nat => E3 e.part i) (fun i => i ≤ e.kids.length) (fun i => e.kids.length - i) (fun i => bif decide (e.kids.length + e.vals.length < 200) then bigI e.kids i else false) (outG e.part) (by kernel_rfl) 9 (fun i hx k kn hk => by
      refine (big_r _ _ L _ e.part i kn k).trans ?_
      rw [hn]
      by_cases h2 : e.kids.length + e.vals.length < 200
      · have hd : decide (((e.kids.length + e.vals.length : Nat) : Int) < 200) = true := decide_eq_true (by omega)
        rw [decide_eq_true h2]
        by_cases h : i < e.kids.length
        · rw [show e.part.n = e.kids.length from rfl, lt_true h, within_lt h, hd, Int.toNat_natCast, kidC_eq h, show gF expA (· ∈ e.kids) [.agg (e.kid i).c] [] = true from gF_eq (A := expA) (kid_mem h), show vF expA (· ∈ e.kids) bigB [.agg (e.kid i).c] [] = bigB (e.kid i) from vF_eq (A := expA) (expA_inj bigB) (kid_mem h), wrap_next h (by omega)]
          have hst := bigI_step e.kids h
          rw [show e.kids.getD i default = e.kid i from rfl] at hst
          cases hb : bigB (e.kid i) with
          | true => show _ = outG _ (cond true (bigI _ _) _) k; rw [hst, hb]; rfl
          | false =>
            refine (hk (i + 1) (by omega) (by omega)).trans ?_
            rw [decide_eq_true h2, hst, hb]; rfl
        · rw [show e.part.n = e.kids.length from rfl, lt_false h, bigI_end _ h]; rfl
      · have hd : decide (((e.kids.length + e.vals.length : Nat) : Int) < 200) = false := decide_eq_false (by omega)
        rw [hd, decide_eq_false h2]
        cases decide ((i : Int) < (e.part.n : Int)) <;> rfl)
  have hv : valS (fun i : Nat => E3 e.part i) (fun i => i ≤ e.kids.length) (fun i => bif decide (e.kids.length + e.vals.length < 200) then bigI e.kids i else false) (E3 e.part 0) = (bif decide (e.kids.length + e.vals.length < 200) then bigI e.kids 0 else false) := valS_eq (S := fun i : Nat => E3 e.part i) (v := 0) (fun a b _ _ h => by rw [E3_inj e a b h]) (Nat.zero_le _)
  have hg : goodS (fun i : Nat => E3 e.part i) (fun i => i ≤ e.kids.length) (E3 e.part 0) = true := goodS_eq (S := fun i : Nat => E3 e.part i) (v := 0) (Nat.zero_le _)
  refine ct_loops (n := 9) (d := 9) (T := [entF 11 expA (· ∈ e.kids) bigB φB]) mixed funcs (tabOk_cons (entF_ok fun k hk => ih k hk) tabOk_nil) (loopsOk_cons (hl _) loopsOk_nil) ?_
  rw [← e.part_eq]
  refine (big_m _ _ _ _ e.part).trans ?_
  have hw : IntKind.wrap .i64 ((e.part.n : Int) + (e.part.vals.length : Int)) = ((e.kids.length + e.vals.length : Nat) : Int) := by
    rw [show e.part.n = e.kids.length from rfl, show e.part.vals = e.vals from rfl, wrap_i64 (by omega) (by omega)]; rfl
  rw [hw, hn]
  have hg' : goodS (fun i : Nat => E3 e.part i) (fun i => i ≤ e.kids.length) { env := [(1, .ref 1 0), (3, .int .i64 ((e.kids.length + e.vals.length : Nat) : Int)), (4, .int .i64 0)], objs := [(1, .cells e.part.c)] } = true := hg
  have hv' : valS (fun i : Nat => E3 e.part i) (fun i => i ≤ e.kids.length) (fun i => bif decide (e.kids.length + e.vals.length < 200) then bigI e.kids i else false) { env := [(1, .ref 1 0), (3, .int .i64 ((e.kids.length + e.vals.length : Nat) : Int)), (4, .int .i64 0)], objs := [(1, .cells e.part.c)] } = (bif decide (e.kids.length + e.vals.length < 200) then bigI e.kids 0 else false) := hv
  rw [hg', hv', bigB_eq, show bigI e.kids 0 = bigL e.kids from rfl]
  have hd : decide (((e.kids.length + e.vals.length : Nat) : Int) ≥ 200) = decide (e.kids.length + e.vals.length ≥ 200) := by
    by_cases h : e.kids.length + e.vals.length ≥ 200
    · rw [decide_eq_true h, decide_eq_true (by omega)]
    · rw [decide_eq_false h, decide_eq_false (by omega)]
  rw [hd]
  cases decide (e.kids.length + e.vals.length < 200) <;> cases bigL e.kids <;> cases decide (e.kids.length + e.vals.length ≥ 200) <;> rfl
end Go.SH

namespace Go.SH
open Go Go.Ab Go.Proofs
set_option linter.unusedVariables false
set_option linter.unusedSimpArgs false
theorem prev_max {i n : Nat} (h : i < n) (hm : n ≤ 4611686018427387904) (h0 : i ≠ 0) : (bif decide (0 > IntKind.wrap .i64 ((i : Int) - 1)) then 0 else IntKind.wrap .i64 ((i : Int) - 1)) = ((i - 1 : Nat) : Int) := by
  rw [wrap_i64 (by omega) (by omega), decide_eq_false (by omega)]
  show (i : Int) - 1 = _
  omega
def prqStop (l : List PRQ) (i : Nat) : Option Int :=
  bif !keyB (l.getD i default).flag then some 6 else
  bif decide (i > 0) && (bytesLt (l.getD i default).flag (l.getD (i - 1) default).flag || (l.getD i default).flag == (l.getD (i - 1) default).flag) then some 9 else
  bif decide ((l.getD i default).var < 1) || decide ((l.getD i default).var > 8) then some 3 else none
def prqSeek (l : List PRQ) : Bool × Int := scanAt l.length (· + 1) (prqStop l) 0
def prqE (l : List PRQ) : Int := bif decide (l.length > 4) then 5 else bif (prqSeek l).1 then (prqSeek l).2 else 0
abbrev prqOk : List PRQ → Prop := okL (fun p : PRQ => lenS p.flag)
theorem B70_inj (l : List PRQ) (i j : Nat) (h : B70 l i = B70 l j) : i = j := by
  simp only [B70, St.mk.injEq, List.cons.injEq, Prod.mk.injEq, AV.int.injEq, and_true, true_and] at h; omega
theorem B74_inj (l : List PRQ) (i j : Nat) (h : B74 l i = B74 l j) : i = j := by
  simp only [B74, St.mk.injEq, List.cons.injEq, Prod.mk.injEq, AV.int.injEq, and_true, true_and] at h; omega
theorem gt4_cast (n : Nat) : decide ((n : Int) > 4) = decide (n > 4) := gt_cast n 4
theorem gt8_cast (n : Nat) : decide ((n : Int) > 8) = decide (n > 8) := gt_cast n 8
theorem gt32_cast (n : Nat) : decide ((n : Int) > 32) = decide (n > 32) := gt_cast n 32
theorem prq_ok (l : List PRQ) (hl : prqOk l) : Ct V.P V.G 70 [prqL l] [] (φE (prqE l)) := by
  have hm := hl.big
  have hs := fun L => loopOk_scan (X := V.run [entF 65 strA lenS keyB φB] 9 [] L [] 70) (f := 70) (p := [1, 1, 0, 1, 0]) (b := subC (bodyOf V.P 70) ([1, 1, 0, 1, 0] ++ [0])) (B70 l) l.length (· + 1) (prqStop l) (retI 2) R0 (by kernel_rfl) 9 (fun i h => ⟨by omega, by omega⟩)
    (fun i h kn k => by
      refine (prq_r gS (vS keyB) L _ l i kn k).trans ?_
      rw [lt_true h, wrap_next h hm, Int.toNat_natCast, gS_eq (hl.at h), vS_eq _ (hl.at h)]
      simp only [within_lt h, cond_true]
      unfold prqStop
      by_cases h0 : i = 0
      · subst h0
        rw [zero_gt]
        generalize within _ _ = w
        cases w <;> cases keyB (l.getD 0 default).flag <;> cases decide ((l.getD 0 default).var < 1) <;> cases decide ((l.getD 0 default).var > 8) <;> simp <;> rfl
      · rw [prev_max h hm h0, (prev_in h hm h0).2.2, within_lt (show i - 1 < l.length by omega), Int.toNat_natCast, decide_eq_true (show i > 0 by omega)]
        generalize (bytesLt (l.getD i default).flag (l.getD (i - 1) default).flag || (l.getD i default).flag == (l.getD (i - 1) default).flag) = o
        cases o <;> cases keyB (l.getD i default).flag <;> cases decide ((l.getD i default).var < 1) <;> cases decide ((l.getD i default).var > 8) <;> rfl) (fun kn k => by refine (prq_r gS (vS keyB) L _ l _ kn k).trans ?_; rw [lt_false (Nat.lt_irrefl _)]; rfl)
  obtain ⟨h1, h2⟩ := scan_start (B70 l) l.length (· + 1) (prqStop l) (B70_inj l)
  refine ct_loops (n := 9) (d := 9) (T := [entF 65 strA lenS keyB φB]) mixed funcs (tabOk_cons (entF_ok fun s _ => key_ok s) tabOk_nil) (loopsOk_cons (hs _) loopsOk_nil) ?_
  refine (prq_m _ _ _ l h2).trans ?_
  rw [h1, gt4_cast]
  unfold prqE φE
  rw [show scanAt l.length (· + 1) (prqStop l) 0 = prqSeek l from rfl]
  cases decide (l.length > 4) <;> cases (prqSeek l).1 <;> rfl
theorem rprq_ok (l : List PRQ) (hl : prqOk l) : Ct V.P V.G 74 [prqL l] [] (φE (prqE l)) := by
  have hm := hl.big
  have hs := fun L => loopOk_scan (X := V.run [entF 67 strA lenS keyB φB] 9 [] L [] 74) (f := 74) (p := [1, 1, 0, 1, 0]) (b := subC (bodyOf V.P 74) ([1, 1, 0, 1, 0] ++ [0])) (B74 l) l.length (· + 1) (prqStop l) (retI 2) R0 (by kernel_rfl) 9 (fun i h => ⟨by omega, by omega⟩)
    (fun i h kn k => by
      refine (rprq_r gS (vS keyB) L _ l i kn k).trans ?_
      rw [lt_true h, wrap_next h hm, Int.toNat_natCast, gS_eq (hl.at h), vS_eq _ (hl.at h)]
      simp only [within_lt h, cond_true]
      unfold prqStop
      by_cases h0 : i = 0
      · subst h0
        rw [zero_gt]
        generalize within _ _ = w
        cases w <;> cases keyB (l.getD 0 default).flag <;> cases decide ((l.getD 0 default).var < 1) <;> cases decide ((l.getD 0 default).var > 8) <;> simp <;> rfl
      · obtain ⟨p1, p2, p3⟩ := prev_in h hm h0
        rw [p1, p2, p3, decide_eq_true (show i > 0 by omega)]
        generalize (bytesLt (l.getD i default).flag (l.getD (i - 1) default).flag || (l.getD i default).flag == (l.getD (i - 1) default).flag) = o
        cases o <;> cases keyB (l.getD i default).flag <;> cases decide ((l.getD i default).var < 1) <;> cases decide ((l.getD i default).var > 8) <;> rfl) (fun kn k => by refine (rprq_r gS (vS keyB) L _ l _ kn k).trans ?_; rw [lt_false (Nat.lt_irrefl _)]; rfl)
  obtain ⟨h1, h2⟩ := scan_start (B74 l) l.length (· + 1) (prqStop l) (B74_inj l)
  refine ct_loops (n := 9) (d := 9) (T := [entF 67 strA lenS keyB φB]) mixed funcs (tabOk_cons (entF_ok fun s hs => rkey_ok s hs) tabOk_nil) (loopsOk_cons (hs _) loopsOk_nil) ?_
  refine (rprq_m _ _ _ l h2).trans ?_
  rw [h1, gt4_cast]
  unfold prqE φE
  rw [show scanAt l.length (· + 1) (prqStop l) 0 = prqSeek l from rfl]
  cases decide (l.length > 4) <;> cases (prqSeek l).1 <;> rfl
/-- lists of keys as arguments -/
def memA (l : List (List UInt8)) : List AV := [strsA l]
theorem memA_inj {τ : Type} (w : List (List UInt8) → τ) (a b : List (List UInt8)) (h : memA a = memA b) : w a = w b := by
  simp only [memA, List.cons.injEq, and_true] at h
  rw [strsA_inj h]
noncomputable abbrev gM : List AV → List AO → Bool := gF memA strsOk
noncomputable abbrev vM : List AV → List AO → Int := vF memA strsOk memE
theorem gM_eq {l : List (List UInt8)} (h : strsOk l) : gM [strsA l] [] = true := gF_eq (A := memA) h
theorem vM_eq {l : List (List UInt8)} (h : strsOk l) : vM [strsA l] [] = memE l := vF_eq (A := memA) (memA_inj memE) h
def tgtStop (l : List TGT) (n : Nat) (i : Nat) : Option Int :=
  bif !keyB (l.getD i default).kind then some 6 else
  bif decide ((l.getD i default).var < 1) || (decide ((l.getD i default).var > n) || (l.getD i default).keys.length == 0) then some 3 else
  bif memE (l.getD i default).keys != 0 then some (memE (l.getD i default).keys) else none
def tgtSeek (l : List TGT) (n : Nat) : Bool × Int := scanAt l.length (· + 1) (tgtStop l n) 0
def tgtE (l : List TGT) (n : Nat) : Int := bif decide (l.length > 8) then 5 else bif (tgtSeek l n).1 then (tgtSeek l n).2 else 0
theorem B71_inj (l : List TGT) (n : Nat) (i j : Nat) (h : B71 l n i = B71 l n j) : i = j := by
  simp only [B71, St.mk.injEq, List.cons.injEq, Prod.mk.injEq, AV.int.injEq, and_true, true_and] at h; omega
theorem B75_inj (l : List TGT) (n : Nat) (i j : Nat) (h : B75 l n i = B75 l n j) : i = j := by
  simp only [B75, St.mk.injEq, List.cons.injEq, Prod.mk.injEq, AV.int.injEq, and_true, true_and] at h; omega
theorem tgt_ok (l : List TGT) (n : Nat) (hl : okL TGT.Ok l) : Ct V.P V.G 71 [tgtL l, .int .i64 n] [] (φE (tgtE l n)) := by
  have hm := hl.big
  have hs := fun L => loopOk_scan (X := V.run [entF 65 strA lenS keyB φB, entF 77 memA strsOk memE φE] 9 [] L [] 71) (f := 71) (p := [1, 1, 0, 1, 0]) (b := subC (bodyOf V.P 71) ([1, 1, 0, 1, 0] ++ [0])) (B71 l n) l.length (· + 1) (tgtStop l n) (retI 4) R0 (by kernel_rfl) 9 (fun i h => ⟨by omega, by omega⟩)
    (fun i h kn k => by
      refine (tgt_r gS (vS keyB) gM vM L _ l n i kn k (vM_eq (by rw [Int.toNat_natCast]; exact (hl.at h).2))).trans ?_
      rw [lt_true h, wrap_next h hm, Int.toNat_natCast, gS_eq (hl.at h).1, vS_eq _ (hl.at h).1, gM_eq (hl.at h).2]
      simp only [within_lt h, cond_true, eq_zero]
      unfold tgtStop
      generalize memE (l.getD i default).keys = x
      generalize (x != 0) = y
      cases y <;> cases ((l.getD i default).keys.length == 0) <;> cases keyB (l.getD i default).kind <;> cases decide ((l.getD i default).var < 1) <;> cases decide ((l.getD i default).var > n) <;> rfl) (fun kn k => by refine (tgt_r gS (vS keyB) gM vM L _ l n _ kn k rfl).trans ?_; rw [lt_false (Nat.lt_irrefl _)]; rfl)
  obtain ⟨h1, h2⟩ := scan_start (B71 l n) l.length (· + 1) (tgtStop l n) (B71_inj l n)
  refine ct_loops (n := 9) (d := 9) (T := [entF 65 strA lenS keyB φB, entF 77 memA strsOk memE φE]) mixed funcs (tabOk_cons (entF_ok fun s _ => key_ok s) (tabOk_cons (entF_ok fun s hs => keys_ok utfOk s hs) tabOk_nil)) (loopsOk_cons (hs _) loopsOk_nil) ?_
  refine (tgt_m _ _ _ l n h2).trans ?_
  rw [h1, gt8_cast]
  unfold tgtE φE
  rw [show scanAt l.length (· + 1) (tgtStop l n) 0 = tgtSeek l n from rfl]
  cases decide (l.length > 8) <;> cases (tgtSeek l n).1 <;> rfl
theorem rtgt_ok (l : List TGT) (n : Nat) (hl : okL TGT.Ok l) : Ct V.P V.G 75 [tgtL l, .int .i64 n] [] (φE (tgtE l n)) := by
  have hm := hl.big
  have hs := fun L => loopOk_scan (X := V.run [entF 67 strA lenS keyB φB, entF 78 memA strsOk memE φE] 9 [] L [] 75) (f := 75) (p := [1, 1, 0, 1, 0]) (b := subC (bodyOf V.P 75) ([1, 1, 0, 1, 0] ++ [0])) (B75 l n) l.length (· + 1) (tgtStop l n) (retI 4) R0 (by kernel_rfl) 9 (fun i h => ⟨by omega, by omega⟩)
    (fun i h kn k => by
      refine (rtgt_r gS (vS keyB) gM vM L _ l n i kn k (vM_eq (by rw [Int.toNat_natCast]; exact (hl.at h).2))).trans ?_
      rw [lt_true h, wrap_next h hm, Int.toNat_natCast, gS_eq (hl.at h).1, vS_eq _ (hl.at h).1, gM_eq (hl.at h).2]
      simp only [within_lt h, cond_true, eq_zero]
      unfold tgtStop
      generalize memE (l.getD i default).keys = x
      generalize (x != 0) = y
      cases y <;> cases ((l.getD i default).keys.length == 0) <;> cases keyB (l.getD i default).kind <;> cases decide ((l.getD i default).var < 1) <;> cases decide ((l.getD i default).var > n) <;> rfl) (fun kn k => by refine (rtgt_r gS (vS keyB) gM vM L _ l n _ kn k rfl).trans ?_; rw [lt_false (Nat.lt_irrefl _)]; rfl)
  obtain ⟨h1, h2⟩ := scan_start (B75 l n) l.length (· + 1) (tgtStop l n) (B75_inj l n)
  refine ct_loops (n := 9) (d := 9) (T := [entF 67 strA lenS keyB φB, entF 78 memA strsOk memE φE]) mixed funcs (tabOk_cons (entF_ok fun s hs => rkey_ok s hs) (tabOk_cons (entF_ok fun s hs => members_ok utfOk s hs) tabOk_nil)) (loopsOk_cons (hs _) loopsOk_nil) ?_
  refine (rtgt_m _ _ _ l n h2).trans ?_
  rw [h1, gt8_cast]
  unfold tgtE φE
  rw [show scanAt l.length (· + 1) (tgtStop l n) 0 = tgtSeek l n from rfl]
  cases decide (l.length > 8) <;> cases (tgtSeek l n).1 <;> rfl
end Go.SH

namespace Go.SH
open Go Go.Ab Go.Proofs
set_option linter.unusedVariables false
set_option linter.unusedSimpArgs false
theorem rngL_inj {a b : List (Int × Int × Int)} (h : rngL a = rngL b) : a = b := by
  unfold rngL at h
  simp only [AV.sl.injEq, true_and] at h
  obtain ⟨h1, h2⟩ := h
  apply List.ext_getElem h1
  intro i hi hj
  have := congrFun h2 i
  simp only [List.getD, List.getElem?_eq_getElem hi, List.getElem?_eq_getElem hj, Option.getD_some, rngC, List.cons.injEq, AV.int.injEq, true_and, and_true] at this
  obtain ⟨h3, h4, h5⟩ := this
  exact Prod.ext h3 (Prod.ext h4 h5)
theorem SERVE.c_inj {a b : SERVE} (h : a.c = b.c) : a = b := by
  obtain ⟨k, n, t, l, m⟩ := a
  obtain ⟨k', n', t', l', m'⟩ := b
  simp only [SERVE.c, List.cons.injEq, AV.int.injEq, AV.str.injEq, true_and, and_true] at h
  obtain ⟨rfl, rfl, rfl, rfl, h⟩ := h
  rw [rngL_inj h]
def exA (e : EXP) : List AV := [.agg e.x]
theorem exA_inj {τ : Type} (w : EXP → τ) (a b : EXP) (h : exA a = exA b) : w a = w b := by
  simp only [exA, List.cons.injEq, AV.agg.injEq, and_true, EXP.x_eq] at h
  rw [EXP.c_inj _ _ h]
noncomputable abbrev gX : List AV → List AO → Bool := gF exA EXP.Ok
noncomputable abbrev vX : List AV → List AO → Int := vF exA EXP.Ok exprE
theorem gX_eq {e : EXP} (h : e.Ok) : gX [.agg e.x] [] = true := gF_eq (A := exA) h
theorem vX_eq {e : EXP} (h : e.Ok) : vX [.agg e.x] [] = exprE e := vF_eq (A := exA) (exA_inj exprE) h
theorem exp15_x (e : EXP) (h : e.Ok) : Ct V.P V.G 15 (exA e) [] (φE (exprE e)) := by
  show Ct V.P V.G 15 [.agg e.x] [] _
  rw [e.x_eq]; exact exp15_ok e h
theorem exp16_x (e : EXP) (h : e.Ok) : Ct V.P V.G 16 (exA e) [] (φE (exprE e)) := by
  show Ct V.P V.G 16 [.agg e.x] [] _
  rw [e.x_eq]; exact exp16_ok e h
def svA (n : Nat) (v : SERVE) : List AV := [.agg v.c, .int .i64 n]
theorem svA_inj {τ : Type} (n : Nat) (w : SERVE → τ) (a b : SERVE) (h : svA n a = svA n b) : w a = w b := by
  simp only [svA, List.cons.injEq, AV.agg.injEq, and_true] at h
  rw [SERVE.c_inj h]
noncomputable abbrev gY (n : Nat) : List AV → List AO → Bool := gF (svA n) SERVE.Ok
noncomputable abbrev vY (n : Nat) : List AV → List AO → Int := vF (svA n) SERVE.Ok (fun v => serveE v n)
theorem gY_eq {n : Nat} {v : SERVE} (h : v.Ok) : gY n [.agg v.c, .int .i64 n] [] = true := gF_eq (A := svA n) h
theorem vY_eq {n : Nat} {v : SERVE} (h : v.Ok) : vY n [.agg v.c, .int .i64 n] [] = serveE v n := vF_eq (A := svA n) (svA_inj n (fun v => serveE v n)) h
def dupStop (l : List RULE) (i : Nat) (k : Nat) : Option Unit := bif (l.getD k default).name == (l.getD i default).name then some () else none
def dupI (l : List RULE) (i k : Nat) : Bool := (scanAt i (· + 1) (dupStop l i) k).1
theorem dupI_end (l : List RULE) (i : Nat) {k : Nat} (h : ¬ k < i) : dupI l i k = false := by
  unfold dupI; rw [scanAt_end _ _ _ h]
theorem dupI_step (l : List RULE) (i : Nat) {k : Nat} (h : k < i) : dupI l i k = bif (l.getD k default).name == (l.getD i default).name then true else dupI l i (k + 1) := by
  unfold dupI
  rw [scanAt_step (fun i _ => Nat.lt_succ_self i) h]
  unfold dupStop
  cases (l.getD k default).name == (l.getD i default).name <;> rfl
def rulStop (l : List RULE) (n : Nat) (i : Nat) : Option Int :=
  bif !keyB (l.getD i default).name then some 6 else
  bif dupI l i 0 then some 10 else
  bif exprE (l.getD i default).when != 0 then some (exprE (l.getD i default).when) else
  bif serveE (l.getD i default).serve n != 0 then some (serveE (l.getD i default).serve n) else none
def rulSeek (l : List RULE) (n : Nat) : Bool × Int := scanAt l.length (· + 1) (rulStop l n) 0
def rulE (l : List RULE) (n : Nat) : Int := bif decide (l.length > 12) then 5 else bif (rulSeek l n).1 then (rulSeek l n).2 else 0
theorem B72_inj (l : List RULE) (n : Nat) (i j : Nat) (h : B72 l n i = B72 l n j) : i = j := by
  simp only [B72, St.mk.injEq, List.cons.injEq, Prod.mk.injEq, AV.int.injEq, and_true, true_and] at h; omega
theorem B76_inj (l : List RULE) (n : Nat) (i j : Nat) (h : B76 l n i = B76 l n j) : i = j := by
  simp only [B76, St.mk.injEq, List.cons.injEq, Prod.mk.injEq, AV.int.injEq, and_true, true_and] at h; omega
def dupW (l : List RULE) (x : Nat × Nat) : Nat × Bool := (x.1, dupI l x.1 x.2)
instance : Inhabited (Nat × Bool) := ⟨(0, false)⟩
theorem B72i_inj (l : List RULE) (n : Nat) (a b : Nat × Nat) (h : B72i l n a.1 a.2 = B72i l n b.1 b.2) : dupW l a = dupW l b := by
  simp only [B72i, St.mk.injEq, List.cons.injEq, Prod.mk.injEq, AV.int.injEq, and_true, true_and] at h
  obtain ⟨⟨h1, h2, h3, h4⟩, h5⟩ := h
  unfold dupW
  rw [show a.1 = b.1 by omega, show a.2 = b.2 by omega]
theorem B76i_inj (l : List RULE) (n : Nat) (a b : Nat × Nat) (h : B76i l n a.1 a.2 = B76i l n b.1 b.2) : dupW l a = dupW l b := by
  simp only [B76i, St.mk.injEq, List.cons.injEq, Prod.mk.injEq, AV.int.injEq, and_true, true_and] at h
  unfold dupW
  rw [show a.1 = b.1 by omega, show a.2 = b.2 by omega]
def S72i (l : List RULE) (n : Nat) (x : Nat × Nat) : St := B72i l n x.1 x.2
def S76i (l : List RULE) (n : Nat) (x : Nat × Nat) : St := B76i l n x.1 x.2
def inI (l : List RULE) (x : Nat × Nat) : Prop := x.2 ≤ x.1 ∧ x.1 < l.length
theorem rul_inner (l : List RULE) (n : Nat) (hm : l.length ≤ 4611686018427387904) (T : List Ent) (L : List (List Nat × Orc)) : LoopOk (V.run T 9 [] L [] 72) 72 [1, 0, 1, 1, 0, 1, 0, 0, 1, 1, 0, 0, 1, 1, 0, 1, 0] (mkO (goodS (S72i l n) (inI l)) (valS (S72i l n) (inI l) (dupW l)) (out72 l n)) :=
  loopOk_of (b := subC (bodyOf V.P 72) ([1, 0, 1, 1, 0, 1, 0, 0, 1, 1, 0, 0, 1, 1, 0, 1, 0] ++ [0])) (S72i l n) (inI l) (fun x => x.1 - x.2) (dupW l) (out72 l n) (by kernel_rfl) 9 (fun x hx k kn hk => by
    obtain ⟨i, j⟩ := x
    obtain ⟨hx, hi⟩ := hx
    have hx : j ≤ i := hx
    have hi : i < l.length := hi
    refine (rul_i T L _ l n i j kn k).trans ?_
    by_cases h : j < i
    · rw [lt_true h, within_lt h, Int.toNat_natCast, Nat.zero_add]
      have hs := dupI_step l i h
      cases he : (l.getD j default).name == (l.getD i default).name with
      | true => rw [he] at hs; show _ = out72 l n (i, dupI l i j) k; rw [hs]; rfl
      | false =>
        rw [wrap_next h (by omega)]
        refine (hk (i, j + 1) ⟨h, hi⟩ (by show i - (j + 1) < i - j; omega)).trans ?_
        rw [he] at hs; show out72 l n (i, dupI l i (j + 1)) k = out72 l n (i, dupI l i j) k; rw [hs]; rfl
    · rw [lt_false h]; show _ = out72 l n (i, dupI l i j) k; rw [dupI_end l i h]; rfl)
theorem rrul_inner (l : List RULE) (n : Nat) (hm : l.length ≤ 4611686018427387904) (T : List Ent) (L : List (List Nat × Orc)) : LoopOk (V.run T 9 [] L [] 76) 76 [1, 1, 0, 1, 0, 0, 1, 0, 0, 1, 0, 1, 0] (mkO (goodS (S76i l n) (inI l)) (valS (S76i l n) (inI l) (dupW l)) (out76 l n)) :=
  loopOk_of (b := subC (bodyOf V.P 76) ([1, 1, 0, 1, 0, 0, 1, 0, 0, 1, 0, 1, 0] ++ [0])) (S76i l n) (inI l) (fun x => x.1 - x.2) (dupW l) (out76 l n) (by kernel_rfl) 9 (fun x hx k kn hk => by
    obtain ⟨i, j⟩ := x
    obtain ⟨hx, hi⟩ := hx
    have hx : j ≤ i := hx
    have hi : i < l.length := hi
    refine (rrul_i T L _ l n i j kn k).trans ?_
    by_cases h : j < i
    · rw [lt_true h, within_lt hi, within_lt (show j < l.length by omega), Int.toNat_natCast, Int.toNat_natCast]
      have hs := dupI_step l i h
      cases he : (l.getD j default).name == (l.getD i default).name with
      | true => rw [he] at hs; show _ = out76 l n (i, dupI l i j) k; rw [hs]; rfl
      | false =>
        rw [wrap_next h (by omega)]
        refine (hk (i, j + 1) ⟨h, hi⟩ (by show i - (j + 1) < i - j; omega)).trans ?_
        rw [he] at hs; show out76 l n (i, dupI l i (j + 1)) k = out76 l n (i, dupI l i j) k; rw [hs]; rfl
    · rw [lt_false h]; show _ = out76 l n (i, dupI l i j) k; rw [dupI_end l i h]; rfl)
theorem rul_ok (l : List RULE) (n : Nat) (hl : okL RULE.Ok l) : Ct V.P V.G 72 [rulL l, .int .i64 n] [] (φE (rulE l n)) := by
  have hm := hl.big
  have hs := fun L => loopOk_scan (X := V.run [entF 65 strA lenS keyB φB, entF 15 exA EXP.Ok exprE φE, entF 32 (svA n) SERVE.Ok (fun v => serveE v n) φE] 9 [] (([1, 0, 1, 1, 0, 1, 0, 0, 1, 1, 0, 0, 1, 1, 0, 1, 0], mkO (goodS (S72i l n) (inI l)) (valS (S72i l n) (inI l) (dupW l)) (out72 l n)) :: L) [] 72) (f := 72) (p := [1, 0, 1, 1, 0, 1, 0]) (b := subC (bodyOf V.P 72) ([1, 0, 1, 1, 0, 1, 0] ++ [0])) (B72 l n) l.length (· + 1) (rulStop l n) (retI 4) R0 (by kernel_rfl) 9 (fun i h => ⟨by omega, by omega⟩)
    (fun i h kn k => by
      obtain ⟨o1, o2, o3⟩ := hl.at h
      have hg : goodS (S72i l n) (inI l) (B72i l n i 0) = true := goodS_eq (S := S72i l n) (v := (i, 0)) ⟨Nat.zero_le _, h⟩
      refine (rul_r gS (vS keyB) gX (gY n) vX (vY n) _ _ L _ l n i kn k (t1 := (i, dupI l i 0)) (t2 := exprE (l.getD i default).when) (t3 := serveE (l.getD i default).serve n) (valS_eq (S := S72i l n) (v := (i, 0)) (fun a b _ _ h => B72i_inj l n a b h) ⟨Nat.zero_le _, h⟩) (vX_eq o2) (vY_eq o3)).trans ?_
      rw [lt_true h, within_lt h, Int.toNat_natCast, gS_eq o1, vS_eq _ o1, hg, gX_eq o2, gY_eq o3, wrap_next h hm]
      rw [decide_eq_true (show (0 : Int) ≤ 0 by omega), decide_eq_true (show (0 : Int) ≤ (i : Int) by omega), decide_eq_true (show (i : Int) ≤ (l.length : Int) by omega)]
      unfold rulStop
      generalize exprE (l.getD i default).when = x
      generalize serveE (l.getD i default).serve n = y
      have hx : (x == 0) = !(x != 0) := by simp [bne]
      have hy : (y == 0) = !(y != 0) := by simp [bne]
      rw [hx, hy]
      generalize (x != 0) = x'
      generalize (y != 0) = y'
      generalize dupI l i 0 = d
      cases keyB (l.getD i default).name <;> cases d <;> cases x' <;> cases y' <;> rfl) (fun kn k => by refine (rul_r gS (vS keyB) gX (gY n) vX (vY n) _ _ L _ l n _ kn k rfl rfl rfl).trans ?_; rw [lt_false (Nat.lt_irrefl _)]; rfl)
  obtain ⟨h1, h2⟩ := scan_start (B72 l n) l.length (· + 1) (rulStop l n) (B72_inj l n)
  refine ct_loops (n := 9) (d := 9) (T := [entF 65 strA lenS keyB φB, entF 15 exA EXP.Ok exprE φE, entF 32 (svA n) SERVE.Ok (fun v => serveE v n) φE]) mixed funcs (tabOk_cons (entF_ok fun s _ => key_ok s) (tabOk_cons (entF_ok exp15_x) (tabOk_cons (entF_ok fun v hv => serve_ok utfOk v n hv) tabOk_nil))) (loopsOk_cons (rul_inner l n hm _ _) (loopsOk_cons (hs _) loopsOk_nil)) ?_
  refine (rul_m _ _ _ _ l n h2).trans ?_
  rw [h1, show ((12 : Int)) = ((12 : Nat) : Int) from rfl, gt_cast]
  unfold rulE φE
  rw [show scanAt l.length (· + 1) (rulStop l n) 0 = rulSeek l n from rfl]
  cases decide (l.length > 12) <;> cases (rulSeek l n).1 <;> rfl
theorem rrul_ok (l : List RULE) (n : Nat) (hl : okL RULE.Ok l) : Ct V.P V.G 76 [rulL l, .int .i64 n] [] (φE (rulE l n)) := by
  have hm := hl.big
  have hs := fun L => loopOk_scan (X := V.run [entF 67 strA lenS keyB φB, entF 16 exA EXP.Ok exprE φE, entF 33 (svA n) SERVE.Ok (fun v => serveE v n) φE] 9 [] (([1, 1, 0, 1, 0, 0, 1, 0, 0, 1, 0, 1, 0], mkO (goodS (S76i l n) (inI l)) (valS (S76i l n) (inI l) (dupW l)) (out76 l n)) :: L) [] 76) (f := 76) (p := [1, 1, 0, 1, 0]) (b := subC (bodyOf V.P 76) ([1, 1, 0, 1, 0] ++ [0])) (B76 l n) l.length (· + 1) (rulStop l n) (retI 4) R0 (by kernel_rfl) 9 (fun i h => ⟨by omega, by omega⟩)
    (fun i h kn k => by
      obtain ⟨o1, o2, o3⟩ := hl.at h
      have hg : goodS (S76i l n) (inI l) (B76i l n i 0) = true := goodS_eq (S := S76i l n) (v := (i, 0)) ⟨Nat.zero_le _, h⟩
      refine (rrul_r gS (vS keyB) gX (gY n) vX (vY n) _ _ L _ l n i kn k (t1 := (i, dupI l i 0)) (t2 := exprE (l.getD i default).when) (t3 := serveE (l.getD i default).serve n) (valS_eq (S := S76i l n) (v := (i, 0)) (fun a b _ _ h => B76i_inj l n a b h) ⟨Nat.zero_le _, h⟩) (by rw [Int.toNat_natCast]; exact vX_eq o2) (by rw [Int.toNat_natCast]; exact vY_eq o3)).trans ?_
      rw [lt_true h, within_lt h, Int.toNat_natCast, gS_eq o1, vS_eq _ o1, hg, gX_eq o2, gY_eq o3, wrap_next h hm]
      unfold rulStop
      generalize exprE (l.getD i default).when = x
      generalize serveE (l.getD i default).serve n = y
      generalize (x != 0) = x'
      generalize (y != 0) = y'
      generalize dupI l i 0 = d
      cases keyB (l.getD i default).name <;> cases d <;> cases x' <;> cases y' <;> rfl) (fun kn k => by refine (rrul_r gS (vS keyB) gX (gY n) vX (vY n) _ _ L _ l n _ kn k rfl rfl rfl).trans ?_; rw [lt_false (Nat.lt_irrefl _)]; rfl)
  obtain ⟨h1, h2⟩ := scan_start (B76 l n) l.length (· + 1) (rulStop l n) (B76_inj l n)
  refine ct_loops (n := 9) (d := 9) (T := [entF 67 strA lenS keyB φB, entF 16 exA EXP.Ok exprE φE, entF 33 (svA n) SERVE.Ok (fun v => serveE v n) φE]) mixed funcs (tabOk_cons (entF_ok fun s hs => rkey_ok s hs) (tabOk_cons (entF_ok exp16_x) (tabOk_cons (entF_ok fun v hv => rserve_ok utfOk v n hv) tabOk_nil))) (loopsOk_cons (rrul_inner l n hm _ _) (loopsOk_cons (hs _) loopsOk_nil)) ?_
  refine (rrul_m _ _ _ _ l n h2).trans ?_
  rw [h1, show ((12 : Int)) = ((12 : Nat) : Int) from rfl, gt_cast]
  unfold rulE φE
  rw [show scanAt l.length (· + 1) (rulStop l n) 0 = rulSeek l n from rfl]
  cases decide (l.length > 12) <;> cases (rulSeek l n).1 <;> rfl
end Go.SH

namespace Go.SH
open Go Go.Ab Go.Proofs
set_option linter.unusedVariables false
set_option linter.unusedSimpArgs false
def varStop (f : FLAG) (i : Nat) : Option Int :=
  bif checkE (f.vars.getD i default) != 0 then some (checkE (f.vars.getD i default)) else
  bif (f.vars.getD i default).kind != f.kind then some 8 else none
def varSeek (f : FLAG) : Bool × Int := scanAt f.vars.length (· + 1) (varStop f) 0
theorem varSeek_ne (f : FLAG) (h : (varSeek f).1 = true) : ((varSeek f).2 != 0) = true :=
  scanAt_val (P := fun t : Int => (t != 0) = true) (fun i t _ ht => by
    unfold varStop at ht
    cases hc : checkE (f.vars.getD i default) != 0 with
    | true => rw [hc] at ht; simp only [cond_true, Option.some.injEq] at ht; subst ht; exact hc
    | false =>
      rw [hc] at ht
      cases hk : (f.vars.getD i default).kind != f.kind with
      | true => rw [hk] at ht; simp only [cond_true, cond_false, Option.some.injEq] at ht; subst ht; rfl
      | false => rw [hk] at ht; simp at ht) 0 h
def varE (f : FLAG) : Int :=
  bif decide (f.vars.length > 8) then 5 else bif f.vars.length == 0 then 3 else bif (varSeek f).1 then (varSeek f).2 else
  bif decide (f.off < 1) || decide (f.off > f.vars.length) then 3 else 0
def flagE (f : FLAG) : Int :=
  bif !keyB f.key then 6 else bif decide (f.kind < 1) || decide (f.kind > 5) then 7 else
  bif varE f != 0 then varE f else bif prqE f.prqs != 0 then prqE f.prqs else
  bif tgtE f.tgts f.vars.length != 0 then tgtE f.tgts f.vars.length else
  bif rulE f.rules f.vars.length != 0 then rulE f.rules f.vars.length else serveE f.dflt f.vars.length
theorem B34_inj (f : FLAG) (i j : Nat) (h : B34 f i = B34 f j) : i = j := by
  simp only [B34, St.mk.injEq, List.cons.injEq, Prod.mk.injEq, AV.int.injEq, and_true, true_and] at h; omega
theorem B73_inj (f : FLAG) (i j : Nat) (h : B73 f i = B73 f j) : i = j := by
  simp only [B73, St.mk.injEq, List.cons.injEq, Prod.mk.injEq, AV.int.injEq, and_true, true_and] at h; omega
theorem var_ok (f : FLAG) (hf : f.Ok) : Ct V.P V.G 73 [.agg f.c] [] (φE (varE f)) := by
  have hl := hf.2.1
  have hm := hl.big
  have hs := fun T L => loopOk_scan (X := V.run (entF 115 valA1 VAL.Ok checkE φE :: T) 9 [] L [] 73) (f := 73) (p := [1, 1, 1, 1, 0, 1, 0]) (b := subC (bodyOf V.P 73) ([1, 1, 1, 1, 0, 1, 0] ++ [0])) (B73 f) f.vars.length (· + 1) (varStop f) (retI 2) (fun k => k (.exit 0) (B34e f)) (by kernel_rfl) 9 (fun i h => ⟨by omega, by omega⟩)
    (fun i h kn k => by
      refine (rvar_r gV vV T L _ f i kn k (vV_eq (by rw [Int.toNat_natCast]; exact hl.at h))).trans ?_
      rw [lt_true h, wrap_next h hm, Int.toNat_natCast, gV_eq (hl.at h)]
      simp only [within_lt h, cond_true]
      unfold varStop
      generalize checkE (f.vars.getD i default) = x
      generalize (x != 0) = y
      cases y <;> cases ((f.vars.getD i default).kind != f.kind) <;> rfl) (fun kn k => by refine (rvar_r gV vV T L _ f _ kn k rfl).trans ?_; rw [lt_false (Nat.lt_irrefl _)]; rfl)
  obtain ⟨h1, h2⟩ := scan_start (B73 f) f.vars.length (· + 1) (varStop f) (B73_inj f)
  refine ct_loops (n := 9) (d := 9) (T := [entF 115 valA1 VAL.Ok checkE φE]) mixed funcs (tabOk_cons (entF_ok fun s hs => rcheck_ok s hs) tabOk_nil) (loopsOk_cons (hs _ _) loopsOk_nil) ?_
  refine (rvar_m _ _ _ f h2).trans ?_
  rw [h1, gt8_cast, eq_zero]
  unfold varE φE
  rw [show scanAt f.vars.length (· + 1) (varStop f) 0 = varSeek f from rfl]
  cases decide (f.vars.length > 8) <;> cases (f.vars.length == 0) <;> cases (varSeek f).1 <;> cases decide (f.off < 1) <;> cases decide (f.off > f.vars.length) <;> rfl
theorem rflag_ok (f : FLAG) (hf : f.Ok) : Ct V.P V.G 35 [.agg f.c] [] (φE (flagE f)) := by
  obtain ⟨h1, h2, h3, h4, h5, h6⟩ := hf
  refine ct_loops (n := 9) (d := 9) (L := []) (T := [ent1 73 [.agg f.c] (varE f) φE, entF 67 strA lenS keyB φB, ent1 74 [prqL f.prqs] (prqE f.prqs) φE, ent1 75 [tgtL f.tgts, .int .i64 f.vars.length] (tgtE f.tgts f.vars.length) φE, ent1 76 [rulL f.rules, .int .i64 f.vars.length] (rulE f.rules f.vars.length) φE, ent1 33 [.agg f.dflt.c, .int .i64 f.vars.length] (serveE f.dflt f.vars.length) φE]) mixed funcs
    (tabOk_cons (ent1_ok (var_ok f ⟨h1, h2, h3, h4, h5, h6⟩)) (tabOk_cons (entF_ok fun s hs => rkey_ok s hs) (tabOk_cons (ent1_ok (rprq_ok _ h3)) (tabOk_cons (ent1_ok (rtgt_ok _ _ h4)) (tabOk_cons (ent1_ok (rrul_ok _ _ h5)) (tabOk_cons (ent1_ok (rserve_ok utfOk _ _ h6)) tabOk_nil)))))) loopsOk_nil ?_
  refine (rflag_m gS (vS keyB) _ _ _ _ _ _ _ _ _ _ f (v1_eq _ _) (v1_eq _ _) (v1_eq _ _) (v1_eq _ _) (v1_eq _ _)).trans ?_
  rw [gS_eq h1, vS_eq _ h1, g1_eq, g1_eq, g1_eq, g1_eq, g1_eq]
  unfold flagE φE
  generalize varE f = x1
  generalize prqE f.prqs = x2
  generalize tgtE f.tgts f.vars.length = x3
  generalize rulE f.rules f.vars.length = x4
  cases keyB f.key <;> cases decide (f.kind < 1) <;> cases decide (f.kind > 5) <;> cases (x1 != 0) <;> cases (x2 != 0) <;> cases (x3 != 0) <;> cases (x4 != 0) <;> rfl
theorem flag_ok (f : FLAG) (hf : f.Ok) : Ct V.P V.G 34 [.agg f.c] [] (φE (flagE f)) := by
  obtain ⟨h1, h2, h3, h4, h5, h6⟩ := hf
  have hm := h2.big
  let T : List Ent := [entF 69 valA1 VAL.Ok checkE φE, entF 65 strA lenS keyB φB, ent1 70 [prqL f.prqs] (prqE f.prqs) φE, ent1 71 [tgtL f.tgts, .int .i64 f.vars.length] (tgtE f.tgts f.vars.length) φE, ent1 72 [rulL f.rules, .int .i64 f.vars.length] (rulE f.rules f.vars.length) φE, ent1 32 [.agg f.dflt.c, .int .i64 f.vars.length] (serveE f.dflt f.vars.length) φE]
  have hs := fun L => loopOk_scan (X := V.run T 9 [] L [] 34) (f := 34) (p := [1, 1, 1, 0, 1, 0]) (b := subC (bodyOf V.P 34) ([1, 1, 1, 0, 1, 0] ++ [0])) (B34 f) f.vars.length (· + 1) (varStop f) (retI 2) (fun k => k (.exit 0) (B34e f)) (by kernel_rfl) 9 (fun i h => ⟨by omega, by omega⟩)
    (fun i h kn k => by
      refine (flag_r gS (vS keyB) gV _ _ _ _ vV _ _ _ _ L _ f i kn k (vV_eq (by rw [Int.toNat_natCast]; exact h2.at h))).trans ?_
      rw [lt_true h, wrap_next h hm, Int.toNat_natCast, gV_eq (h2.at h)]
      simp only [within_lt h, cond_true]
      unfold varStop
      generalize checkE (f.vars.getD i default) = x
      generalize (x != 0) = y
      cases y <;> cases ((f.vars.getD i default).kind != f.kind) <;> rfl) (fun kn k => by refine (flag_r gS (vS keyB) gV _ _ _ _ vV _ _ _ _ L _ f _ kn k rfl).trans ?_; rw [lt_false (Nat.lt_irrefl _)]; rfl)
  obtain ⟨e1, e2⟩ := scan_start (B34 f) f.vars.length (· + 1) (varStop f) (B34_inj f)
  refine ct_loops (n := 9) (d := 9) (T := T) mixed funcs
    (tabOk_cons (entF_ok fun s hs => check_ok s hs) (tabOk_cons (entF_ok fun s _ => key_ok s) (tabOk_cons (ent1_ok (prq_ok _ h3)) (tabOk_cons (ent1_ok (tgt_ok _ _ h4)) (tabOk_cons (ent1_ok (rul_ok _ _ h5)) (tabOk_cons (ent1_ok (serve_ok utfOk _ _ h6)) tabOk_nil)))))) (loopsOk_cons (hs _) loopsOk_nil) ?_
  refine (flag_m gS (vS keyB) gV _ _ _ _ vV _ _ _ _ _ _ f e2 (v1_eq _ _) (v1_eq _ _) (v1_eq _ _) (v1_eq _ _)).trans ?_
  rw [gS_eq h1, vS_eq _ h1, g1_eq, g1_eq, g1_eq, g1_eq, e1, gt8_cast, eq_zero]
  rw [show scanAt f.vars.length (· + 1) (varStop f) 0 = varSeek f from rfl]
  have hne := varSeek_ne f
  unfold flagE φE varE
  revert hne
  generalize (varSeek f).1 = y1
  generalize (varSeek f).2 = y2
  generalize prqE f.prqs = x2
  generalize tgtE f.tgts f.vars.length = x3
  generalize rulE f.rules f.vars.length = x4
  intro hne
  cases keyB f.key
  · cases decide (f.kind < 1) <;> cases decide (f.kind > 5) <;> cases decide (f.vars.length > 8) <;> cases (f.vars.length == 0) <;> rfl
  · cases decide (f.kind < 1) <;> cases decide (f.kind > 5) <;> cases decide (f.vars.length > 8) <;> cases (f.vars.length == 0) <;> first | rfl | (cases y1 with
      | true => simp only [cond_true, cond_false, Bool.or_false, Bool.not_true, hne]
      | false => cases decide (f.off < 1) <;> cases decide (f.off > f.vars.length) <;> cases (x2 != 0) <;> cases (x3 != 0) <;> cases (x4 != 0) <;> rfl)
def spanBad (a b c : Int) : Bool := bif !(decide (0 ≤ a) && (decide (a < b) && decide (b ≤ 10000))) then true else bif decide (c < 0) then true else decide (c > 1099511627776)
def coolStop (l : List (Int × Int × Int)) (i : Nat) : Option Int :=
  bif spanBad (l.getD i (0, 0, 0)).1 (l.getD i (0, 0, 0)).2.1 (l.getD i (0, 0, 0)).2.2 then some 3 else
  bif decide (i > 0) && decide ((l.getD i (0, 0, 0)).1 < (l.getD (i - 1) (0, 0, 0)).2.1) then some 9 else none
def coolSeek (l : List (Int × Int × Int)) : Bool × Int := scanAt l.length (· + 1) (coolStop l) 0
def layerE (f : LAYER) : Int :=
  bif !keyB f.key || !keyB f.kind then 6 else bif !validB f.salt then 2 else
  bif decide (f.hold < 0) || (decide (f.hold > 10000) || (decide (f.cool < 0) || decide (f.cool > 1099511627776))) then 3 else
  bif decide (f.cooling.length > 32) then 5 else bif (coolSeek f.cooling).1 then (coolSeek f.cooling).2 else 0
theorem B38_inj (f : LAYER) (i j : Nat) (h : B38 f i = B38 f j) : i = j := by
  simp only [B38, St.mk.injEq, List.cons.injEq, Prod.mk.injEq, AV.int.injEq, and_true, true_and] at h; omega
theorem B39_inj (f : LAYER) (i j : Nat) (h : B39 f i = B39 f j) : i = j := by
  simp only [B39, St.mk.injEq, List.cons.injEq, Prod.mk.injEq, AV.int.injEq, and_true, true_and] at h; omega
theorem bad38 (a b c : Int) : (bif bif !bif bif decide (0 ≤ a) then decide (a < b) else false then decide (b ≤ 10000) else false then true else decide (c < 0) then true else decide (c > 1099511627776)) = spanBad a b c := by
  unfold spanBad
  cases decide (0 ≤ a) <;> cases decide (a < b) <;> cases decide (b ≤ 10000) <;> cases decide (c < 0) <;> rfl
theorem bad39 (a b c : Int) : (bif bif bif bif decide (a < 0) then true else decide (a ≥ b) then true else decide (b > 10000) then true else decide (c < 0) then true else decide (c > 1099511627776)) = spanBad a b c := by
  unfold spanBad
  have e1 : decide (a < 0) = !decide (0 ≤ a) := by
    by_cases h : 0 ≤ a
    · rw [decide_eq_true h, decide_eq_false (by omega)]; rfl
    · rw [decide_eq_false h, decide_eq_true (by omega)]; rfl
  have e2 : decide (a ≥ b) = !decide (a < b) := by
    by_cases h : a < b
    · rw [decide_eq_true h, decide_eq_false (by omega)]; rfl
    · rw [decide_eq_false h, decide_eq_true (by omega)]; rfl
  have e3 : decide (b > 10000) = !decide (b ≤ 10000) := by
    by_cases h : b ≤ 10000
    · rw [decide_eq_true h, decide_eq_false (by omega)]; rfl
    · rw [decide_eq_false h, decide_eq_true (by omega)]; rfl
  rw [e1, e2, e3]
  cases decide (0 ≤ a) <;> cases decide (a < b) <;> cases decide (b ≤ 10000) <;> cases decide (c < 0) <;> rfl
theorem layer_ok (f : LAYER) (hf : f.Ok) : Ct V.P V.G 38 [.agg f.c] [] (φE (layerE f)) := by
  obtain ⟨h1, h2, h3, h4⟩ := hf
  have hm : f.cooling.length ≤ 4611686018427387904 := by omega
  have hs := fun L => loopOk_scan (X := V.run [entF 65 strA lenS keyB φB, entF 66 strA lenS validB φB] 9 [] L [] 38) (f := 38) (p := [1, 1, 0, 1, 0]) (b := subC (bodyOf V.P 38) ([1, 1, 0, 1, 0] ++ [0])) (B38 f) f.cooling.length (· + 1) (coolStop f.cooling) (retI 2) R0 (by kernel_rfl) 9 (fun i h => ⟨by omega, by omega⟩)
    (fun i h kn k => by
      refine (layer_r gS (vS keyB) gS (vS validB) L _ f i kn k).trans ?_
      rw [lt_true h, wrap_next h hm, Int.toNat_natCast, bad38]
      simp only [within_lt h, cond_true]
      unfold coolStop
      by_cases h0 : i = 0
      · subst h0
        rw [zero_gt]
        generalize within _ _ = w
        generalize spanBad _ _ _ = b
        cases w <;> cases b <;> simp <;> rfl
      · obtain ⟨p1, p2, p3⟩ := prev_in h hm h0
        rw [p1, p2, p3, decide_eq_true (show i > 0 by omega)]
        generalize spanBad _ _ _ = b
        cases b <;> cases decide ((f.cooling.getD i (0, 0, 0)).1 < (f.cooling.getD (i - 1) (0, 0, 0)).2.1) <;> rfl) (fun kn k => by refine (layer_r gS (vS keyB) gS (vS validB) L _ f _ kn k).trans ?_; rw [lt_false (Nat.lt_irrefl _)]; rfl)
  obtain ⟨e1, e2⟩ := scan_start (B38 f) f.cooling.length (· + 1) (coolStop f.cooling) (B38_inj f)
  refine ct_loops (n := 9) (d := 9) (T := [entF 65 strA lenS keyB φB, entF 66 strA lenS validB φB]) mixed funcs (tabOk_cons (entF_ok fun s _ => key_ok s) (tabOk_cons (entF_ok fun s hs => valid_ok utfOk s hs) tabOk_nil)) (loopsOk_cons (hs _) loopsOk_nil) ?_
  refine (layer_m gS (vS keyB) gS (vS validB) _ _ f e2).trans ?_
  rw [gS_eq h1, gS_eq h2, gS_eq h3, vS_eq _ h1, vS_eq _ h2, vS_eq _ h3, e1, gt32_cast]
  rw [show scanAt f.cooling.length (· + 1) (coolStop f.cooling) 0 = coolSeek f.cooling from rfl]
  unfold layerE φE
  generalize (coolSeek f.cooling).1 = y1
  cases keyB f.key <;> cases keyB f.kind <;> cases validB f.salt <;> cases decide (f.hold < 0) <;> cases decide (f.hold > 10000) <;> cases decide (f.cool < 0) <;> cases decide (f.cool > 1099511627776) <;> cases decide (f.cooling.length > 32) <;> first | rfl | (cases y1 <;> rfl)
theorem rlayer_ok (f : LAYER) (hf : f.Ok) : Ct V.P V.G 39 [.agg f.c] [] (φE (layerE f)) := by
  obtain ⟨h1, h2, h3, h4⟩ := hf
  have hm : f.cooling.length ≤ 4611686018427387904 := by omega
  have hs := fun T L => loopOk_scan (X := V.run T 9 [] L [] 39) (f := 39) (p := [1, 1, 1, 1, 1, 0, 1, 0]) (b := subC (bodyOf V.P 39) ([1, 1, 1, 1, 1, 0, 1, 0] ++ [0])) (B39 f) f.cooling.length (· + 1) (coolStop f.cooling) (retI 2) R0 (by kernel_rfl) 9 (fun i h => ⟨by omega, by omega⟩)
    (fun i h kn k => by
      refine (rlayer_r T L _ f i kn k).trans ?_
      rw [lt_true h, wrap_next h hm, Int.toNat_natCast, bad39]
      simp only [within_lt h, cond_true]
      unfold coolStop
      by_cases h0 : i = 0
      · subst h0
        rw [zero_gt]
        generalize within _ _ = w
        generalize spanBad _ _ _ = b
        cases w <;> cases b <;> simp <;> rfl
      · obtain ⟨p1, p2, p3⟩ := prev_in h hm h0
        rw [p1, p2, p3, decide_eq_true (show i > 0 by omega)]
        generalize spanBad _ _ _ = b
        cases b <;> cases decide ((f.cooling.getD i (0, 0, 0)).1 < (f.cooling.getD (i - 1) (0, 0, 0)).2.1) <;> rfl) (fun kn k => by refine (rlayer_r T L _ f _ kn k).trans ?_; rw [lt_false (Nat.lt_irrefl _)]; rfl)
  obtain ⟨e1, e2⟩ := scan_start (B39 f) f.cooling.length (· + 1) (coolStop f.cooling) (B39_inj f)
  refine ct_loops (n := 9) (d := 9) (T := [entF 67 strA lenS keyB φB, entF 68 strA lenS validB φB]) mixed funcs (tabOk_cons (entF_ok fun s hs => rkey_ok s hs) (tabOk_cons (entF_ok fun s hs => rvalid_ok utfOk s hs) tabOk_nil)) (loopsOk_cons (hs _ _) loopsOk_nil) ?_
  refine (rlayer_m gS (vS keyB) gS (vS validB) _ _ f e2).trans ?_
  rw [gS_eq h1, gS_eq h2, gS_eq h3, vS_eq _ h1, vS_eq _ h2, vS_eq _ h3, e1, gt32_cast]
  rw [show scanAt f.cooling.length (· + 1) (coolStop f.cooling) 0 = coolSeek f.cooling from rfl]
  unfold layerE φE
  generalize (coolSeek f.cooling).1 = y1
  cases keyB f.key <;> cases keyB f.kind <;> cases validB f.salt <;> cases decide (f.hold < 0) <;> cases decide (f.hold > 10000) <;> cases decide (f.cool < 0) <;> cases decide (f.cool > 1099511627776) <;> cases decide (f.cooling.length > 32) <;> first | rfl | (cases y1 <;> rfl)
def segE (g : SEG) : Int :=
  bif !keyB g.key || !keyB g.kind then 6 else bif memE g.incl != 0 then memE g.incl else bif memE g.excl != 0 then memE g.excl else bif noneB g.when then 0 else exprE g.when
theorem none_x (e : EXP) : Ct V.P V.G 17 [.agg e.x] [] (φB (noneB e)) := by rw [e.x_eq]; exact none_ok e
theorem rnone_x (e : EXP) : Ct V.P V.G 18 [.agg e.x] [] (φB (noneB e)) := by rw [e.x_eq]; exact rnone_ok e
theorem seg_ok (g : SEG) (hg : g.Ok) : Ct V.P V.G 36 [.agg g.c] [] (φE (segE g)) := by
  obtain ⟨h1, h2, h3, h4, h5⟩ := hg
  refine ct_loops (n := 9) (d := 9) (L := []) (T := [entF 65 strA lenS keyB φB, entF 77 memA strsOk memE φE, ent1 17 [.agg g.when.x] (noneB g.when) φB, entF 15 exA EXP.Ok exprE φE]) mixed funcs
    (tabOk_cons (entF_ok fun s _ => key_ok s) (tabOk_cons (entF_ok fun s hs => keys_ok utfOk s hs) (tabOk_cons (ent1_ok (none_x g.when)) (tabOk_cons (entF_ok exp15_x) tabOk_nil)))) loopsOk_nil ?_
  refine (seg_m gS (vS keyB) (g1 [.agg g.when.x]) (v1 [.agg g.when.x] (noneB g.when)) gM gX vM vX g (vM_eq h3) (vX_eq h5) (vM_eq h4)).trans ?_
  rw [gS_eq h1, gS_eq h2, vS_eq _ h1, vS_eq _ h2, gM_eq h3, gM_eq h4, gX_eq h5, g1_eq, v1_eq]
  unfold segE φE
  generalize memE g.incl = x
  generalize memE g.excl = y
  generalize (x != 0) = x'
  generalize (y != 0) = y'
  cases keyB g.key <;> cases keyB g.kind <;> cases x' <;> cases y' <;> cases noneB g.when <;> rfl
theorem rseg_ok (g : SEG) (hg : g.Ok) : Ct V.P V.G 37 [.agg g.c] [] (φE (segE g)) := by
  obtain ⟨h1, h2, h3, h4, h5⟩ := hg
  refine ct_loops (n := 9) (d := 9) (L := []) (T := [entF 67 strA lenS keyB φB, entF 78 memA strsOk memE φE, ent1 18 [.agg g.when.x] (noneB g.when) φB, entF 16 exA EXP.Ok exprE φE]) mixed funcs
    (tabOk_cons (entF_ok fun s hs => rkey_ok s hs) (tabOk_cons (entF_ok fun s hs => members_ok utfOk s hs) (tabOk_cons (ent1_ok (rnone_x g.when)) (tabOk_cons (entF_ok exp16_x) tabOk_nil)))) loopsOk_nil ?_
  refine (rseg_m gS (vS keyB) (g1 [.agg g.when.x]) (v1 [.agg g.when.x] (noneB g.when)) gM gX vM vX g (vM_eq h3) (vM_eq h4) (vX_eq h5)).trans ?_
  rw [gS_eq h1, gS_eq h2, vS_eq _ h1, vS_eq _ h2, gM_eq h3, gM_eq h4, gX_eq h5, g1_eq, v1_eq]
  unfold segE φE
  generalize memE g.incl = x
  generalize memE g.excl = y
  generalize (x != 0) = x'
  generalize (y != 0) = y'
  cases keyB g.key <;> cases keyB g.kind <;> cases x' <;> cases y' <;> cases noneB g.when <;> rfl
def exptE (x : EXPT) : Int :=
  bif !keyB x.key || (!keyB x.layer || !keyB x.flag) then 6 else bif !validB x.salt then 2 else
  bif decide (x.status < 1) || decide (x.status > 3) then 7 else bif spansE x.claims != 0 then spansE x.claims else
  bif splitE x.arms 8 != 0 then splitE x.arms 8 else exprE x.when
theorem expt_ok (x : EXPT) (hx : x.Ok) : Ct V.P V.G 40 [.agg x.c] [] (φE (exptE x)) := by
  obtain ⟨h1, h2, h3, h4, h5, h6, h7⟩ := hx
  refine ct_loops (n := 9) (d := 9) (L := []) (T := [entF 65 strA lenS keyB φB, entF 66 strA lenS validB φB, ent1 25 [spnL x.claims] (spansE x.claims) φE, ent1 23 [rngL x.arms, .int .i64 8] (splitE x.arms 8) φE, entF 15 exA EXP.Ok exprE φE]) mixed funcs
    (tabOk_cons (entF_ok fun s _ => key_ok s) (tabOk_cons (entF_ok fun s hs => valid_ok utfOk s hs) (tabOk_cons (ent1_ok (spans_ok _ (by omega))) (tabOk_cons (ent1_ok (split_ok _ _ (by omega))) (tabOk_cons (entF_ok exp15_x) tabOk_nil))))) loopsOk_nil ?_
  refine (expt_m gS (vS keyB) gS (vS validB) _ _ gX _ _ vX x (v1_eq _ _) (v1_eq _ _) (vX_eq h7)).trans ?_
  rw [gS_eq h1, gS_eq h2, gS_eq h3, gS_eq h4, vS_eq _ h1, vS_eq _ h2, vS_eq _ h3, vS_eq _ h4, g1_eq, g1_eq, gX_eq h7, ne_zero_id]
  unfold exptE φE
  generalize spansE x.claims = y1
  generalize splitE x.arms 8 = y2
  generalize exprE x.when = y3
  cases keyB x.key <;> cases keyB x.layer <;> cases keyB x.flag <;> cases validB x.salt <;> cases decide (x.status < 1) <;> cases decide (x.status > 3) <;> first | rfl | (cases (y1 != 0) <;> cases (y2 != 0) <;> rfl)
theorem rexpt_ok (x : EXPT) (hx : x.Ok) : Ct V.P V.G 41 [.agg x.c] [] (φE (exptE x)) := by
  obtain ⟨h1, h2, h3, h4, h5, h6, h7⟩ := hx
  refine ct_loops (n := 9) (d := 9) (L := []) (T := [entF 67 strA lenS keyB φB, entF 68 strA lenS validB φB, ent1 26 [spnL x.claims] (spansE x.claims) φE, ent1 24 [rngL x.arms, .int .i64 8] (splitE x.arms 8) φE, entF 16 exA EXP.Ok exprE φE]) mixed funcs
    (tabOk_cons (entF_ok fun s hs => rkey_ok s hs) (tabOk_cons (entF_ok fun s hs => rvalid_ok utfOk s hs) (tabOk_cons (ent1_ok (rspans_ok _ (by omega))) (tabOk_cons (ent1_ok (rsplit_ok _ _ (by omega))) (tabOk_cons (entF_ok exp16_x) tabOk_nil))))) loopsOk_nil ?_
  refine (rexpt_m gS (vS keyB) gS (vS validB) _ _ gX _ _ vX x (v1_eq _ _) (v1_eq _ _) (vX_eq h7)).trans ?_
  rw [gS_eq h1, gS_eq h2, gS_eq h3, gS_eq h4, vS_eq _ h1, vS_eq _ h2, vS_eq _ h3, vS_eq _ h4, g1_eq, g1_eq, gX_eq h7]
  unfold exptE φE
  generalize spansE x.claims = y1
  generalize splitE x.arms 8 = y2
  generalize exprE x.when = y3
  cases keyB x.key <;> cases keyB x.layer <;> cases keyB x.flag <;> cases validB x.salt <;> cases decide (x.status < 1) <;> cases decide (x.status > 3) <;> first | rfl | (cases (y1 != 0) <;> cases (y2 != 0) <;> rfl)
end Go.SH

namespace Go.SH
open Go Go.Ab Go.Proofs
set_option linter.unusedVariables false
set_option linter.unusedSimpArgs false
def K6 (f : FLAG) (g : SEG) (l : LAYER) (x : EXPT) (i : Nat) : St := { env := [(4, .ref 4 0), (5, .ref 5 0), (6, .ref 6 0), (7, .ref 7 0), (9, .int .i64 i)], objs := [(4, .cells f.c), (5, .cells g.c), (6, .cells l.c), (7, .cells x.c)] }
def K6e (f : FLAG) (g : SEG) (l : LAYER) (x : EXPT) : St := { env := [(4, .ref 4 0), (5, .ref 5 0), (6, .ref 6 0), (7, .ref 7 0)], objs := [(4, .cells f.c), (5, .cells g.c), (6, .cells l.c), (7, .cells x.c)] }
set_option maxRecDepth 100000 in
theorem awake_m (gk vk gv vv : List AV → List AO → Bool)  : runF (V.run [mkE 65 gk vk φB, mkE 66 gv vv φB] 9 [] [] [] 10) 9 10 [] [] =
  cond (gv [.str []] []) (cond (!vv [.str []] []) (cond (gk [.str []] []) (cond (bif !vk [.str []] [] then bif !([] : List UInt8) == [] then true else 0 != 0 else false) (some ((.bool (bif bif 2 == 0 then 0 == 0 else false then 3 == 3 else false), []))) (some ((.bool (bif bif 2 == 0 then 0 == 0 else false then 3 == 3 else false), [])))) (none)) (cond (gk [.str []] []) (cond (bif !vk [.str []] [] then bif !([] : List UInt8) == [] then true else 0 != 0 else false) (some ((.bool (bif bif 6 == 0 then 0 == 0 else false then 3 == 3 else false), []))) (some ((.bool (bif bif 0 == 0 then 0 == 0 else false then 3 == 3 else false), [])))) (none))) (none) := by kernel_rfl
set_option maxRecDepth 100000 in
theorem law_r (gb vb : List AV → List AO → Bool) (T : List Ent) (L : List (List Nat × Orc)) (m : Nat) (f : FLAG) (g : SEG) (l : LAYER) (x : EXPT) (i : Nat) (kn : St → Res) (k : Ex → St → Res)  : roundR (V.run (mkE 11 gb vb φB :: T) 9 [] L [] 6) 6 m [1, 1, 1, 0, 1, 0] (K6 f g l x i) kn k =
  cond (decide ((↑i : Int) < (↑(List.length (FLAG.rules f)) : Int))) (cond (within (↑i : Int) (List.length (FLAG.rules f))) (cond (gb [.agg (EXP.x (RULE.when (List.getD (FLAG.rules f) (Int.toNat (↑i : Int)) default)))] []) (cond (vb [.agg (EXP.x (RULE.when (List.getD (FLAG.rules f) (Int.toNat (↑i : Int)) default)))] []) (k (.ret) ({ env := [(8, .bool true)], objs := [] })) (kn ({ env := [(4, .ref 4 0), (5, .ref 5 0), (6, .ref 6 0), (7, .ref 7 0), (9, .int .i64 (IntKind.wrap IntKind.i64 ((↑i : Int) + 1)))], objs := [(4, .cells (FLAG.c f)), (5, .cells (SEG.c g)), (6, .cells (LAYER.c l)), (7, .cells (EXPT.c x))] }))) (none)) (none)) (k (.exit 0) (K6e f g l x)) := by kernel_rfl
set_option maxRecDepth 100000 in
theorem law_m (ga va gb vb g34 g35 g36 g37 g38 g39 g40 g41 : List AV → List AO → Bool) (v34 v35 v36 v37 v38 v39 v40 v41 : List AV → List AO → Int) (w : St → Bool) (v : St → Bool × Unit) (f : FLAG) (g : SEG) (l : LAYER) (x : EXPT) {t1 : Bool × Unit} (h_t1 : v (K6 f g l x 0) = t1) {t2 : Int} (h_t2 : v34 [.agg (FLAG.c f)] [] = t2) {t3 : Int} (h_t3 : v35 [.agg (FLAG.c f)] [] = t3) {t4 : Int} (h_t4 : v36 [.agg (SEG.c g)] [] = t4) {t5 : Int} (h_t5 : v37 [.agg (SEG.c g)] [] = t5) {t6 : Int} (h_t6 : v38 [.agg (LAYER.c l)] [] = t6) {t7 : Int} (h_t7 : v39 [.agg (LAYER.c l)] [] = t7) {t8 : Int} (h_t8 : v40 [.agg (EXPT.c x)] [] = t8) {t9 : Int} (h_t9 : v41 [.agg (EXPT.c x)] [] = t9) : runF (V.run [mkE 11 gb vb φB, mkE 10 ga va φB, mkE 34 g34 v34 φE, mkE 35 g35 v35 φE, mkE 36 g36 v36 φE, mkE 37 g37 v37 φE, mkE 38 g38 v38 φE, mkE 39 g39 v39 φE, mkE 40 g40 v40 φE, mkE 41 g41 v41 φE] 9 [] [([1, 1, 1, 0, 1, 0], mkO w v (outB (fun _ k => k .ret { env := [(8, .bool true)], objs := [] }) fun k => k (.exit 0) (K6e f g l x)))] [] 6) 9 6 [.agg f.c, .agg g.c, .agg l.c, .agg x.c] [] =
  cond (ga [] []) (cond (!va [] []) (some ((.bool false, []))) (cond (gb [.agg (EXP.x (EXPT.when x))] []) (cond (gb [.agg (EXP.x (SEG.when g))] []) (cond (bif bif bif bif bif bif bif bif bif decide ((↑(List.length (FLAG.rules f)) : Int) > 20) then true else decide ((↑(List.length (FLAG.vars f)) : Int) > 20) then true else decide ((↑(List.length (FLAG.tgts f)) : Int) > 20) then true else decide ((↑(List.length (SEG.incl g)) : Int) > 60) then true else decide ((↑(List.length (SEG.excl g)) : Int) > 60) then true else decide ((↑(List.length (LAYER.cooling l)) : Int) > 60) then true else decide ((↑(List.length (EXPT.claims x)) : Int) > 40) then true else decide ((↑(List.length (EXPT.arms x)) : Int) > 40) then true else vb [.agg (EXP.x (EXPT.when x))] [] then true else vb [.agg (EXP.x (SEG.when g))] []) (some ((.bool true, []))) (cond (w (K6 f g l x 0)) (cond (Prod.fst t1) (some ((.bool true, []))) (cond (g34 [.agg (FLAG.c f)] []) (cond (g35 [.agg (FLAG.c f)] []) (cond (g36 [.agg (SEG.c g)] []) (cond (g37 [.agg (SEG.c g)] []) (cond (g38 [.agg (LAYER.c l)] []) (cond (g39 [.agg (LAYER.c l)] []) (cond (g40 [.agg (EXPT.c x)] []) (cond (g41 [.agg (EXPT.c x)] []) (some ((.bool (bif bif bif t2 == t3 then t4 == t5 else false then t6 == t7 else false then t8 == t9 else false), []))) (none)) (none)) (none)) (none)) (none)) (none)) (none)) (none))) (none))) (none)) (none))) (none) := by subst h_t9 h_t8 h_t7 h_t6 h_t5 h_t4 h_t3 h_t2 h_t1; kernel_rfl
end Go.SH

namespace Go.SH
open Go Go.Ab Go.Proofs
set_option linter.unusedVariables false
set_option linter.unusedSimpArgs false
theorem validB_nil : validB [] = true := by decide
theorem awake_ok : Ct V.P V.G 10 [] [] (φB true) := by
  have h0 : lenS [] := by unfold lenS; simp
  refine ct_loops (n := 9) (d := 9) (L := []) (T := [entF 65 strA lenS keyB φB, entF 66 strA lenS validB φB]) mixed funcs
    (tabOk_cons (entF_ok fun s _ => key_ok s) (tabOk_cons (entF_ok fun s hs => valid_ok utfOk s hs) tabOk_nil)) loopsOk_nil ?_
  refine (awake_m gS (vS keyB) gS (vS validB)).trans ?_
  rw [gS_eq h0, vS_eq _ h0, vS_eq _ h0, validB_nil]
  cases keyB [] <;> rfl
theorem big_x (e : EXP) (h : e.Ok) : Ct V.P V.G 11 (exA e) [] (φB (bigB e)) := by
  show Ct V.P V.G 11 [.agg e.x] [] _
  rw [e.x_eq]; exact big_ok e h
noncomputable abbrev vBig : List AV → List AO → Bool := vF exA EXP.Ok bigB
theorem vBig_eq {e : EXP} (h : e.Ok) : vBig [.agg e.x] [] = bigB e := vF_eq (A := exA) (exA_inj bigB) h
theorem K6_inj (f : FLAG) (g : SEG) (l : LAYER) (x : EXPT) (i j : Nat) (h : K6 f g l x i = K6 f g l x j) : i = j := by
  simp only [K6, St.mk.injEq, List.cons.injEq, Prod.mk.injEq, AV.int.injEq, and_true, true_and] at h; omega
theorem flags_ok (f : FLAG) (g : SEG) (l : LAYER) (x : EXPT) (hf : f.Ok) (hg : g.Ok) (hl : l.Ok) (hx : x.Ok) : Ct V.P V.G 6 [.agg f.c, .agg g.c, .agg l.c, .agg x.c] [] (φB true) := by
  have hr := hf.2.2.2.2.1
  have hm := hr.big
  have hs := fun T L => loopOk_seek (X := V.run (entF 11 exA EXP.Ok bigB φB :: T) 9 [] L [] 6) (f := 6) (p := [1, 1, 1, 0, 1, 0]) (b := subC (bodyOf V.P 6) ([1, 1, 1, 0, 1, 0] ++ [0])) (K6 f g l x) f.rules.length (· + 1) (fun i => bigB (f.rules.getD i default).when) () (fun _ k => k .ret { env := [(8, .bool true)], objs := [] }) (fun k => k (.exit 0) (K6e f g l x)) (by kernel_rfl) 9 (fun i h => ⟨by omega, by omega⟩)
    (fun i h kn k => by
      refine (law_r gX vBig T L _ f g l x i kn k).trans ?_
      rw [lt_true h, wrap_next h hm, Int.toNat_natCast, within_lt h, gX_eq (hr.at h).2.1, vBig_eq (hr.at h).2.1]
      rfl) (fun kn k => by refine (law_r gX vBig T L _ f g l x _ kn k).trans ?_; rw [lt_false (Nat.lt_irrefl _)]; rfl)
  obtain ⟨e1, e2⟩ := seek_at (K6 f g l x) f.rules.length (· + 1) (fun i => bigB (f.rules.getD i default).when) () (K6_inj f g l x)
  have hgw : g.when.Ok := hg.2.2.2.2
  have hxw : x.when.Ok := hx.2.2.2.2.2.2
  refine ct_loops (n := 9) (d := 9) (T := [entF 11 exA EXP.Ok bigB φB, ent1 10 [] true φB, ent1 34 [.agg f.c] (flagE f) φE, ent1 35 [.agg f.c] (flagE f) φE, ent1 36 [.agg g.c] (segE g) φE, ent1 37 [.agg g.c] (segE g) φE, ent1 38 [.agg l.c] (layerE l) φE, ent1 39 [.agg l.c] (layerE l) φE, ent1 40 [.agg x.c] (exptE x) φE, ent1 41 [.agg x.c] (exptE x) φE]) mixed funcs
    (tabOk_cons (entF_ok big_x) (tabOk_cons (ent1_ok awake_ok) (tabOk_cons (ent1_ok (flag_ok f hf)) (tabOk_cons (ent1_ok (rflag_ok f hf)) (tabOk_cons (ent1_ok (seg_ok g hg)) (tabOk_cons (ent1_ok (rseg_ok g hg)) (tabOk_cons (ent1_ok (layer_ok l hl)) (tabOk_cons (ent1_ok (rlayer_ok l hl)) (tabOk_cons (ent1_ok (expt_ok x hx)) (tabOk_cons (ent1_ok (rexpt_ok x hx)) tabOk_nil)))))))))) (loopsOk_cons (hs _ _) loopsOk_nil) ?_
  refine (law_m (g1 []) (v1 [] true) gX vBig _ _ _ _ _ _ _ _ _ _ _ _ _ _ _ _ _ _ f g l x e2 (v1_eq _ _) (v1_eq _ _) (v1_eq _ _) (v1_eq _ _) (v1_eq _ _) (v1_eq _ _) (v1_eq _ _) (v1_eq _ _)).trans ?_
  rw [g1_eq, v1_eq, gX_eq hgw, gX_eq hxw, vBig_eq hgw, vBig_eq hxw, e1, g1_eq, g1_eq, g1_eq, g1_eq, beq_self_eq_true, beq_self_eq_true, beq_self_eq_true, beq_self_eq_true]
  generalize (bif bif bif bif bif bif bif bif bif decide ((f.rules.length : Int) > 20) then true else decide ((f.vars.length : Int) > 20) then true else decide ((f.tgts.length : Int) > 20) then true else decide ((g.incl.length : Int) > 60) then true else decide ((g.excl.length : Int) > 60) then true else decide ((l.cooling.length : Int) > 60) then true else decide ((x.claims.length : Int) > 40) then true else decide ((x.arms.length : Int) > 40) then true else bigB x.when then true else bigB g.when) = b
  generalize (seek f.rules.length (· + 1) (fun i => bigB (f.rules.getD i default).when) ()).1 = c
  cases b <;> cases c <;> rfl
end Go.SH

namespace Go.SH
open Go Go.Ab Go.Proofs
/-- The cells of a table of texts, or of lists of texts. -/
def tcells : DataW Unit → List AV
  | .lit (.string s) => [.str s]
  | .slice es _ => [strsA (tstrs es)]
  | .agg ps => tcellsL ps
  | _ => []
where
  tstrs : List (DataW Unit) → List (List UInt8)
    | .lit (.string s) :: r => s :: tstrs r
    | _ => []
  tcellsL : List (DataW Unit) → List AV
    | [] => []
    | .lit (.string s) :: r => .str s :: tcellsL r
    | .slice es _ :: r => strsA (tstrs es) :: tcellsL r
    | _ :: r => tcellsL r
noncomputable def globs2 (g : Nat) : Option (List AV) := cond (Nat.beq g 0) (some (tcells Go.Proofs.YtnldpiohcmgkdaaGreatDoor.Rows.laid_flagstone_flagstonedraw_versions)) (cond (Nat.beq g 1) (some (tcells Go.Proofs.YtnldpiohcmgkdaaGreatDoor.Rows.laid_flagstone_flagstonedraw_lists)) (cond (Nat.beq g 2) (some (tcells Go.Proofs.YtnldpiohcmgkdaaGreatDoor.Rows.laid_flagstone_flagstonedraw_texts)) (globs g)))
noncomputable def hints2 : List (Nat × List (Nat × Hint)) := [
  (9, [(20, hn [1, 2, 9, 12, 59, 60, 61] [9, 12, 44] [] []), (16, hn [1, 2, 8, 9, 12, 13] [8, 9, 12, 44] [] []), (8, hn [1, 2, 7, 8, 9, 10] [8, 9, 12, 15, 19, 44] [] [(9, 4, 44, 25)])]),
  (13, [(18, hn [0, 1, 2, 6, 8, 9, 10, 11] [6, 9, 81] [] [(9, 4, 81, 25)])]),
  (47, [(18, hn [0, 2, 5, 6, 7] [2, 5, 6, 63] [] [(6, 3, 63, 58)])]),
  (49, [(3, hn [1, 3, 4] [1] [] [])]),
  (105, [(3, hn [1, 10, 11, 12] [] [] [])]),
  (3, [(12, hn [32, 33, 34] [] [] [])]),
  (4, [(25, hn [13, 19, 20, 21] [] [] []), (16, hn [4, 12, 13, 81, 82, 83] [] [] []), (10, hn [1, 3, 4, 12, 13, 14, 55, 56, 57] [14] [] [])]),
  (5, [(10, hn [2, 8, 9, 39, 40, 41] [9] [] [])]),
  (14, [(23, hn [0, 3, 4, 6] [3, 4, 20, 61, 65, 83, 87, 110, 114] [] []), (29, hn [0, 3, 4, 7, 8] [3, 4, 7, 20, 61, 65, 83, 87, 110] [] [(7, 4, 110, 25)])]),
  (20, [(4, hn [0, 1, 5, 6, 7, 8] [46, 65] [(5, 46, 52)] [])]),
  (21, [(16, hn [0, 3, 4, 5] [3, 4, 8, 43, 64] [] [(3, 5, 64, 45)])]),
  (28, [(2, hn [0, 1, 5] [] [] [])]),
  (31, [(36, hn [0, 3, 4] [3, 4, 9, 13, 17, 21, 42, 71, 83, 97, 110, 191] [] [(3, 7, 191, 76)])]),
  (55, [(19, hn [0, 1, 6] [8, 56, 75] [(1, 75, 52)] [])]),
  (61, [(8, hn [4, 6] [25] [] []), (4, hn [0, 3, 4, 5] [25] [(4, 25, 9)] [])]),
  (62, [(3, hn [0, 3, 4] [24] [(3, 24, 9)] [])])]
noncomputable def trims2 : List (Nat × List (List Nat × Hint)) := [
  (3, [tr [1, 1] [1, 2] [2], tr [1, 1, 1] [1, 2] [2], tr [1, 1, 1, 1, 1, 1, 1, 1] [2, 7, 8] [2, 7, 8], tr [1, 1, 1, 1, 1, 1, 1, 1, 0, 1, 0, 0, 1, 0, 1] [] [], tr [1, 1, 1, 1, 1, 1, 1, 1, 0, 1, 0, 0, 1, 1] [32, 33, 34] [], tr [1, 1, 1, 1, 1, 1, 1, 1, 0, 1, 0, 0, 1, 1, 0, 0, 1, 1, 0, 1] [4] [], tr [1, 1, 1, 1, 1, 1, 1, 1, 0, 1, 0, 0, 1, 1, 1] [32, 33, 34] [], tr [1, 1, 1, 1, 1, 1, 1, 1, 1] [] []]),
  (4, [tr [1, 1] [0, 1, 2, 3, 4] [], tr [1, 1, 1] [0, 1, 2, 3, 4] [], tr [1, 1, 1, 1, 1, 1, 1, 0, 1, 0, 0, 1, 0, 1] [1, 4, 12, 13, 14] [14], tr [1, 1, 1, 1, 1, 1, 1, 0, 1, 0, 0, 1, 1] [1, 3, 4, 12, 13, 14, 55, 56, 57] [14], tr [1, 1, 1, 1, 1, 1, 1, 0, 1, 0, 0, 1, 1, 0, 0, 1, 1, 0, 1] [10] [], tr [1, 1, 1, 1, 1, 1, 1, 0, 1, 0, 0, 1, 1, 1] [1, 3, 4, 12, 13, 14, 55, 56, 57] [14], tr [1, 1, 1, 1, 1, 1, 1, 1] [1, 4, 12, 13, 14] [14], tr [1, 1, 1, 1, 1, 1, 1, 1, 0, 1, 0, 0, 1, 0, 1] [4, 12, 13] [], tr [1, 1, 1, 1, 1, 1, 1, 1, 0, 1, 0, 0, 1, 1] [4, 12, 13, 81, 82, 83] [], tr [1, 1, 1, 1, 1, 1, 1, 1, 0, 1, 0, 0, 1, 1, 0, 0, 1, 1, 0, 1] [10] [], tr [1, 1, 1, 1, 1, 1, 1, 1, 0, 1, 0, 0, 1, 1, 1] [4, 12, 13, 81, 82, 83] [], tr [1, 1, 1, 1, 1, 1, 1, 1, 1] [4, 12, 13] [], tr [1, 1, 1, 1, 1, 1, 1, 1, 1, 1] [4, 13] [], tr [1, 1, 1, 1, 1, 1, 1, 1, 1, 1, 1, 0, 1, 0, 0, 0, 1, 1] [13, 19, 20] [], tr [1, 1, 1, 1, 1, 1, 1, 1, 1, 1, 1, 0, 1, 0, 0, 1] [13, 19, 20, 21] [], tr [1, 1, 1, 1, 1, 1, 1, 1, 1, 1, 1, 0, 1, 0, 0, 1, 1] [13, 19, 20, 21] [], tr [1, 1, 1, 1, 1, 1, 1, 1, 1, 1, 1, 1] [13, 19, 20] []]),
  (5, [tr [1, 1] [1, 2, 3] [3], tr [1, 1, 1] [1, 2, 3] [3], tr [1, 1, 1, 1, 1, 1, 1, 0, 1, 0, 0, 1, 0, 1] [8, 9] [9], tr [1, 1, 1, 1, 1, 1, 1, 0, 1, 0, 0, 1, 1] [2, 8, 9, 39, 40, 41] [9], tr [1, 1, 1, 1, 1, 1, 1, 0, 1, 0, 0, 1, 1, 0, 0, 1, 1, 0, 1] [6] [], tr [1, 1, 1, 1, 1, 1, 1, 0, 1, 0, 0, 1, 1, 1] [2, 8, 9, 39, 40, 41] [9], tr [1, 1, 1, 1, 1, 1, 1, 1] [8, 9] [9]]),
  (9, [tr [1, 1] [0, 1, 2] [], tr [1, 1, 1, 1, 1, 1, 0, 1, 0, 0, 0, 1, 1] [1, 2, 7, 8, 9] [8, 9, 19, 44], tr [1, 1, 1, 1, 1, 1, 0, 1, 0, 0, 1] [1, 2, 7, 8, 9, 10] [8, 9, 19, 44], tr [1, 1, 1, 1, 1, 1, 0, 1, 0, 0, 1, 0, 0, 1, 1] [1, 2, 7, 8, 9, 10, 11] [8, 9, 11, 19, 44], tr [1, 1, 1, 1, 1, 1, 0, 1, 0, 0, 1, 1] [1, 2, 7, 8, 9, 10] [8, 9, 19, 44], tr [1, 1, 1, 1, 1, 1, 1] [1, 2, 7, 8, 9] [8, 9, 19, 44], tr [1, 1, 1, 1, 1, 1, 1, 1, 0, 1, 0, 0, 0, 1, 1] [1, 2, 8, 9, 12] [8, 9, 12, 44], tr [1, 1, 1, 1, 1, 1, 1, 1, 0, 1, 0, 0, 1] [1, 2, 8, 9, 12, 13] [8, 9, 12, 44], tr [1, 1, 1, 1, 1, 1, 1, 1, 0, 1, 0, 0, 1, 1] [1, 2, 8, 9, 12, 13] [8, 9, 12, 44], tr [1, 1, 1, 1, 1, 1, 1, 1, 1] [1, 2, 8, 9, 12] [8, 9, 12, 44], tr [1, 1, 1, 1, 1, 1, 1, 1, 1, 0, 1, 0, 0, 1, 0, 1] [1, 2, 9, 12] [9, 12, 44], tr [1, 1, 1, 1, 1, 1, 1, 1, 1, 0, 1, 0, 0, 1, 1] [1, 2, 9, 12, 59, 60, 61] [9, 12, 44], tr [1, 1, 1, 1, 1, 1, 1, 1, 1, 0, 1, 0, 0, 1, 1, 0, 0, 1, 1, 0, 1] [6] [], tr [1, 1, 1, 1, 1, 1, 1, 1, 1, 0, 1, 0, 0, 1, 1, 1] [1, 2, 9, 12, 59, 60, 61] [9, 12, 44], tr [1, 1, 1, 1, 1, 1, 1, 1, 1, 1] [1, 2, 9, 12] [9, 12, 44]]),
  (12, [tr [1, 1] [0] []]),
  (13, [tr [1, 1, 1] [0, 1, 2, 6, 7] [6, 81], tr [1, 1, 1, 0, 1, 0, 1, 1, 1, 1, 1, 1, 1] [0, 1, 2, 6, 49] [6, 81], tr [1, 1, 1, 0, 1, 0, 1, 1, 1, 1, 1, 1, 1, 0, 1, 1, 1, 0, 1, 0, 0, 0, 1, 1] [6, 9] [6, 9, 81], tr [1, 1, 1, 0, 1, 0, 1, 1, 1, 1, 1, 1, 1, 0, 1, 1, 1, 0, 1, 0, 0, 1] [0, 1, 2, 6, 8, 9, 10, 11] [6, 9, 81], tr [1, 1, 1, 0, 1, 0, 1, 1, 1, 1, 1, 1, 1, 0, 1, 1, 1, 0, 1, 0, 0, 1, 0, 0, 1, 1] [0, 1, 2, 6, 8, 9, 10, 11, 12] [6, 9, 12, 81], tr [1, 1, 1, 0, 1, 0, 1, 1, 1, 1, 1, 1, 1, 0, 1, 1, 1, 0, 1, 0, 0, 1, 1] [0, 1, 2, 6, 8, 9, 10, 11] [6, 9, 81], tr [1, 1, 1, 0, 1, 0, 1, 1, 1, 1, 1, 1, 1, 0, 1, 1, 1, 1] [6, 9] [6, 9, 81], tr [1, 1, 1, 1] [0, 6] [6, 81]]),
  (14, [tr [1, 1] [0, 3, 4] [3, 4, 20, 61, 65, 83, 87, 110, 114], tr [1, 1, 0, 1, 0, 1, 1, 1, 1, 1, 1, 1, 1, 1, 1, 1, 1, 1, 1, 1, 0, 1, 0, 0, 0, 1, 1] [3, 4] [3, 4, 20, 61, 65, 83, 87, 110, 114], tr [1, 1, 0, 1, 0, 1, 1, 1, 1, 1, 1, 1, 1, 1, 1, 1, 1, 1, 1, 1, 0, 1, 0, 0, 1] [0, 3, 4, 6] [3, 4, 20, 61, 65, 83, 87, 110, 114], tr [1, 1, 0, 1, 0, 1, 1, 1, 1, 1, 1, 1, 1, 1, 1, 1, 1, 1, 1, 1, 0, 1, 0, 0, 1, 1] [0, 3, 4, 6] [3, 4, 20, 61, 65, 83, 87, 110, 114], tr [1, 1, 0, 1, 0, 1, 1, 1, 1, 1, 1, 1, 1, 1, 1, 1, 1, 1, 1, 1, 1, 1, 0, 1, 0, 1, 0, 0, 0, 1, 1] [3, 4, 7] [3, 4, 7, 20, 61, 65, 83, 87, 110, 114], tr [1, 1, 0, 1, 0, 1, 1, 1, 1, 1, 1, 1, 1, 1, 1, 1, 1, 1, 1, 1, 1, 1, 0, 1, 0, 1, 0, 0, 1] [0, 3, 4, 7, 8] [3, 4, 7, 20, 61, 65, 83, 87, 110, 114], tr [1, 1, 0, 1, 0, 1, 1, 1, 1, 1, 1, 1, 1, 1, 1, 1, 1, 1, 1, 1, 1, 1, 0, 1, 0, 1, 0, 0, 1, 1] [0, 3, 4, 7, 8] [3, 4, 7, 20, 61, 65, 83, 87, 110, 114], tr [1, 1, 0, 1, 0, 1, 1, 1, 1, 1, 1, 1, 1, 1, 1, 1, 1, 1, 1, 1, 1, 1, 0, 1, 1] [3, 4, 7] [3, 4, 7, 20, 61, 65, 83, 87, 110, 114], tr [1, 1, 1] [3, 4] [3, 4, 20, 61, 65, 83, 87, 110, 114]]),
  (19, [tr [1, 1] [0, 1] []]),
  (20, [tr [1, 1, 1, 0, 1, 0, 0, 0, 1, 1] [0, 1, 5, 6, 7] [46], tr [1, 1, 1, 0, 1, 0, 0, 1] [0, 1, 5, 6, 7, 8] [46], tr [1, 1, 1, 0, 1, 0, 0, 1, 0, 0, 1, 1, 1] [0, 1, 5, 6, 7, 8, 9, 10] [46], tr [1, 1, 1, 0, 1, 0, 0, 1, 0, 0, 1, 1, 1, 0, 1, 0] [0, 1, 5, 6, 7] [46], tr [1, 1, 1, 0, 1, 0, 0, 1, 0, 0, 1, 1, 1, 1] [0, 1, 5, 6, 8, 9, 10] [46], tr [1, 1, 1, 0, 1, 0, 0, 1, 1] [0, 1, 5, 6, 7, 8] [46], tr [1, 1, 1, 1] [0, 1, 5, 6, 7] [46], tr [1, 1, 1, 1, 1, 1] [5, 6, 11] [46]]),
  (21, [tr [1, 1, 0, 1, 0, 1, 1, 1, 1, 1, 1, 1, 1, 1, 1, 1, 0, 1, 1, 0, 0, 0, 1, 1] [3, 4] [3, 4, 8, 43, 64], tr [1, 1, 0, 1, 0, 1, 1, 1, 1, 1, 1, 1, 1, 1, 1, 1, 0, 1, 1, 0, 0, 1] [0, 3, 4, 5] [3, 4, 8, 43, 64], tr [1, 1, 0, 1, 0, 1, 1, 1, 1, 1, 1, 1, 1, 1, 1, 1, 0, 1, 1, 0, 0, 1, 1] [0, 3, 4, 5] [3, 4, 8, 43, 64], tr [1, 1, 0, 1, 0, 1, 1, 1, 1, 1, 1, 1, 1, 1, 1, 1, 1, 1] [0, 3, 4, 11, 66] [3, 4, 8, 43, 64], tr [1, 1, 1] [3, 4] [3, 4, 8, 43, 64]]),
  (27, [tr [1, 1, 1] [0] []]),
  (28, [tr [1, 0, 1, 0, 0, 0, 1, 1] [] [], tr [1, 0, 1, 0, 0, 1] [0, 1, 5] [], tr [1, 0, 1, 0, 0, 1, 0, 0, 1, 0, 1] [4] [], tr [1, 0, 1, 0, 0, 1, 1] [0, 1, 5] [], tr [1, 1] [] []]),
  (30, [tr [1, 1] [0, 1, 4] [4], tr [1, 1, 1, 1, 1] [4, 5] [4, 5]]),
  (31, [tr [1, 1, 1, 1, 1, 0, 1, 0, 1, 1, 1, 1, 1, 1, 1, 1, 1, 1, 1, 1, 1, 1, 1, 1, 1, 1, 1] [0, 3, 4, 24, 112] [3, 4, 9, 13, 17, 21, 42, 71, 83, 97, 110, 191], tr [1, 1, 1, 1, 1, 0, 1, 0, 1, 1, 1, 1, 1, 1, 1, 1, 1, 1, 1, 1, 1, 1, 1, 1, 1, 1, 1, 1, 1, 1, 1, 1, 1, 0, 0, 0, 0, 1, 1] [3, 4] [3, 4, 9, 13, 17, 21, 42, 71, 83, 97, 110, 191], tr [1, 1, 1, 1, 1, 0, 1, 0, 1, 1, 1, 1, 1, 1, 1, 1, 1, 1, 1, 1, 1, 1, 1, 1, 1, 1, 1, 1, 1, 1, 1, 1, 1, 0, 0, 0, 1] [0, 3, 4] [3, 4, 9, 13, 17, 21, 42, 71, 83, 97, 110, 191], tr [1, 1, 1, 1, 1, 1] [3, 4] [3, 4, 9, 13, 17, 21, 42, 71, 83, 97, 110, 191]]),
  (47, [tr [1, 1, 1, 1] [0, 2, 3, 4] [2, 63], tr [1, 1, 1, 1, 1, 1, 0, 1, 0, 0, 0, 0, 0, 0, 0, 0, 0, 0, 0, 0, 0, 1, 0] [2, 6] [2, 6, 63], tr [1, 1, 1, 1, 1, 1, 0, 1, 0, 0, 0, 0, 0, 0, 0, 0, 0, 0, 0, 0, 1] [0, 2, 5, 6, 33] [2, 5, 6, 63], tr [1, 1, 1, 1, 1, 1, 0, 1, 0, 0, 0, 0, 0, 0, 0, 0, 0, 0, 0, 0, 1, 0, 1, 0] [0, 2, 5, 6] [2, 5, 6, 63], tr [1, 1, 1, 1, 1, 1, 0, 1, 0, 0, 0, 0, 0, 0, 0, 0, 0, 0, 0, 0, 1, 1] [0, 2, 5, 6, 33] [2, 5, 6, 63], tr [1, 1, 1, 1, 1, 1, 0, 1, 0, 0, 0, 0, 0, 0, 0, 0, 0, 0, 0, 0, 1, 1, 0, 1, 0] [0, 2, 5, 6] [2, 5, 6, 63], tr [1, 1, 1, 1, 1, 1, 0, 1, 0, 0, 0, 0, 0, 0, 0, 0, 0, 0, 0, 0, 1, 1, 1] [0, 2, 5, 6, 33] [2, 5, 6, 63], tr [1, 1, 1, 1, 1, 1, 0, 1, 0, 0, 0, 0, 0, 0, 0, 0, 0, 0, 0, 0, 1, 1, 1, 0, 1, 0] [0, 2, 5, 6] [2, 5, 6, 63], tr [1, 1, 1, 1, 1, 1, 0, 1, 0, 0, 0, 0, 0, 0, 0, 0, 0, 0, 0, 0, 1, 1, 1, 1] [0, 2, 5, 6, 33] [2, 5, 6, 63], tr [1, 1, 1, 1, 1, 1, 0, 1, 0, 0, 0, 0, 0, 0, 0, 0, 0, 0, 0, 0, 1, 1, 1, 1, 1, 0] [0, 2, 5, 6] [2, 5, 6, 63], tr [1, 1, 1, 1, 1, 1, 0, 1, 0, 0, 0, 0, 0, 0, 0, 0, 0, 0, 0, 1] [0, 2, 5, 6] [2, 5, 6, 63], tr [1, 1, 1, 1, 1, 1, 0, 1, 0, 0, 0, 0, 0, 0, 0, 0, 0, 0, 0, 1] [0, 2, 5, 6] [2, 5, 6, 63], tr [1, 1, 1, 1, 1, 1, 0, 1, 0, 0, 0, 0, 0, 0, 0, 0, 0, 1] [2, 6] [2, 6, 63], tr [1, 1, 1, 1, 1, 1, 0, 1, 0, 0, 0, 0, 0, 0, 0, 0, 0, 1, 1] [0, 2, 5, 6] [2, 5, 6, 63], tr [1, 1, 1, 1, 1, 1, 0, 1, 0, 0, 0, 0, 0, 0, 0, 0, 0, 1, 1] [0, 2, 5, 6] [2, 5, 6, 63], tr [1, 1, 1, 1, 1, 1, 0, 1, 0, 0, 0, 0, 0, 0, 0, 1] [0, 2, 5, 6] [2, 5, 6, 63], tr [1, 1, 1, 1, 1, 1, 0, 1, 0, 0, 0, 0, 0, 0, 0, 1, 0, 1, 0, 1, 0, 1, 0, 0, 0, 1, 1] [2, 6] [2, 6, 63], tr [1, 1, 1, 1, 1, 1, 0, 1, 0, 0, 0, 0, 0, 0, 0, 1, 0, 1, 0, 1, 0, 1, 0, 0, 1] [0, 2, 5, 6, 7] [2, 5, 6, 63], tr [1, 1, 1, 1, 1, 1, 0, 1, 0, 0, 0, 0, 0, 0, 0, 1, 0, 1, 0, 1, 0, 1, 0, 0, 1, 1] [0, 2, 5, 6, 7] [2, 5, 6, 63], tr [1, 1, 1, 1, 1, 1, 0, 1, 0, 0, 0, 0, 0, 0, 0, 1, 0, 1, 0, 1, 1] [2, 6] [2, 6, 63], tr [1, 1, 1, 1, 1, 1, 0, 1, 0, 0, 0, 0, 0, 0, 0, 1, 1] [0, 2, 5, 6] [2, 5, 6, 63], tr [1, 1, 1, 1, 1, 1, 0, 1, 0, 0, 0, 0, 0, 0, 0, 1, 1] [0, 2, 5, 6] [2, 5, 6, 63], tr [1, 1, 1, 1, 1, 1, 0, 1, 0, 0, 0, 0, 0, 1] [0, 2, 5, 6] [2, 5, 6, 63], tr [1, 1, 1, 1, 1, 1, 0, 1, 0, 0, 0, 0, 0, 1, 1] [0, 2, 5, 6] [2, 5, 6, 63], tr [1, 1, 1, 1, 1, 1, 0, 1, 0, 0, 0, 0, 0, 1, 1] [0, 2, 5, 6] [2, 5, 6, 63], tr [1, 1, 1, 1, 1, 1, 0, 1, 0, 0, 0, 1] [0, 2, 5, 6] [2, 5, 6, 63], tr [1, 1, 1, 1, 1, 1, 0, 1, 0, 1] [0, 2, 5, 6] [2, 5, 6, 63], tr [1, 1, 1, 1, 1, 1, 0, 1, 0, 1, 1] [0, 2, 5, 6] [2, 5, 6, 63], tr [1, 1, 1, 1, 1, 1, 0, 1, 0, 1, 1] [0, 2, 5, 6] [2, 5, 6, 63], tr [1, 1, 1, 1, 1, 1, 1] [0, 2, 5, 6] [2, 5, 6, 63]]),
  (49, [tr [1, 1, 0, 1, 0, 0, 0, 1, 1] [3] [], tr [1, 1, 0, 1, 0, 0, 1] [1, 3, 4] [1], tr [1, 1, 0, 1, 0, 0, 1, 1] [1, 3, 4] [1], tr [1, 1, 1] [3] []]),
  (55, [tr [1, 1, 1] [0, 1] [8, 56, 75], tr [1, 1, 1, 1, 0, 1, 0, 1, 1, 1, 1, 1, 1, 1, 1, 1, 1, 1, 0, 1, 0, 1, 0, 0, 0, 1, 1] [1] [8, 56, 75], tr [1, 1, 1, 1, 0, 1, 0, 1, 1, 1, 1, 1, 1, 1, 1, 1, 1, 1, 0, 1, 0, 1, 0, 0, 1] [0, 1, 6] [8, 56, 75], tr [1, 1, 1, 1, 0, 1, 0, 1, 1, 1, 1, 1, 1, 1, 1, 1, 1, 1, 0, 1, 0, 1, 0, 0, 1, 1] [0, 1, 6] [8, 56, 75], tr [1, 1, 1, 1, 0, 1, 0, 1, 1, 1, 1, 1, 1, 1, 1, 1, 1, 1, 0, 1, 1] [1] [8, 56, 75], tr [1, 1, 1, 1, 1] [1] [8, 56, 75]]),
  (58, [tr [1, 1] [0, 4] [4, 43]]),
  (61, [tr [1, 1, 1, 0, 1, 0, 0, 0, 1, 1] [4] [25], tr [1, 1, 1, 0, 1, 0, 0, 1] [0, 3, 4, 5] [25], tr [1, 1, 1, 0, 1, 0, 0, 1, 1] [0, 3, 4, 5] [25], tr [1, 1, 1, 1] [4] [25], tr [1, 1, 1, 1, 0, 1, 0, 0, 0, 1, 1] [4] [25], tr [1, 1, 1, 1, 0, 1, 0, 0, 1] [4, 6] [25], tr [1, 1, 1, 1, 0, 1, 0, 0, 1, 0, 0, 1, 0, 1] [2] [25], tr [1, 1, 1, 1, 0, 1, 0, 0, 1, 1] [4, 6] [25], tr [1, 1, 1, 1, 1] [4] [25]]),
  (62, [tr [1, 1, 0, 1, 0, 0, 0, 1, 1] [3] [24], tr [1, 1, 0, 1, 0, 0, 1] [0, 3, 4] [24], tr [1, 1, 0, 1, 0, 0, 1, 1] [0, 3, 4] [24], tr [1, 1, 1] [3] [24]]),
  (63, [tr [1, 1] [3, 4] [3, 4]]),
  (105, [tr [1, 1, 0, 1, 0, 0, 1, 0, 1] [1] [], tr [1, 1, 0, 1, 0, 0, 1, 1] [1, 10, 11, 12] [], tr [1, 1, 0, 1, 0, 0, 1, 1, 0, 0, 1, 0, 1, 0] [1] [], tr [1, 1, 0, 1, 0, 0, 1, 1, 0, 0, 1, 1] [1, 6, 10, 11, 12] [6], tr [1, 1, 0, 1, 0, 0, 1, 1, 1] [1, 10, 11, 12] [], tr [1, 1, 1] [1] []])]
noncomputable def V2 : Env := { P := Tryz.prog, G := globs2, hint := fun f t => ((alook hints2 f).bind fun l => alook l t).getD {}, trim := fun f p => (alook trims2 f).bind fun l => trGet l p }
theorem globs_sub : ∀ g cs, globs g = some cs → globs2 g = some cs := by
  intro g cs h
  have h0 : ∀ g, g = 0 ∨ g = 1 ∨ g = 2 → globs g = none := fun g hg => by rcases hg with rfl | rfl | rfl <;> rfl
  unfold globs2
  by_cases e0 : g = 0
  · rw [h0 g (.inl e0)] at h; cases h
  by_cases e1 : g = 1
  · rw [h0 g (.inr (.inl e1))] at h; cases h
  by_cases e2 : g = 2
  · rw [h0 g (.inr (.inr e2))] at h; cases h
  rw [beqF e0, beqF e1, beqF e2]; exact h
theorem Ct.more {P : Program} {G G' : Nat → Option (List AV)} (hs : ∀ g cs, G g = some cs → G' g = some cs) {f : FuncId} {l : List AV} {os : List AO} {r : AV × List AO} (h : Ct P G f l os r) : Ct P G' f l os r := by
  refine ⟨fun c0 vs hg ho h1 h2 h3 => (h.1 c0 vs ⟨hg.there, fun g cs e => hg.globs g cs (hs g cs e)⟩ ho h1 h2 h3).mono ?_, h.2⟩
  rintro e w' ⟨c', x, e1, e2, e3, e4, e5, e6, e7, e8⟩
  exact ⟨c', x, e1, e2, ⟨e3.there, fun g cs e => (hg.globs g cs e).ext e4.ext (by simp [AV.keys])⟩, ⟨e4.os, e4.output, e4.tape, e4.size, e4.block, e4.ext, e4.new⟩, e5, e6, e7, e8⟩
theorem Ct.v2 {f : FuncId} {l : List AV} {os : List AO} {r : AV × List AO} (h : Ct V.P V.G f l os r) : Ct V2.P V2.G f l os r := Ct.more globs_sub h
theorem mixed2 : V2.P.follows .mixedOrders = true := mixed
theorem funcs2 : FuncsOk V2.P := funcs
end Go.SH

namespace Go.Ab
open Go
section
variable {α τ : Type} [Inhabited τ]
open Classical in
theorem ent_ex {V : Env} {f : FuncId} {A : α → List AV} {O : α → List AO} {Pre : α → Prop} {φ : τ → AV × List AO} {Post : α → τ → Prop} (h : ∀ a, Pre a → ∃ x, Post a x ∧ Ct V.P V.G f (A a) (O a) (φ x)) :
    ∃ w : α → τ, (∀ a, Pre a → Post a (w a)) ∧ ∀ l os, (entC f A O Pre w φ).pre l os = true → Ct V.P V.G (entC f A O Pre w φ).f l os ((entC f A O Pre w φ).ans l os) := by
  refine ⟨fun a => if ha : Pre a then (h a ha).choose else default, fun a ha => ?_, entC_ok fun a ha => ?_⟩
  · simp only [ha, dif_pos]; exact (h a ha).choose_spec.1
  · simp only [ha, dif_pos]; exact (h a ha).choose_spec.2
theorem valA_post {A : α → List AV} {O : α → List AO} {Pre : α → Prop} {w : α → τ} {Post : α → τ → Prop} (hw : ∀ a, Pre a → Post a (w a)) (hi : ∀ a b x, A a = A b → O a = O b → Post a x → Post b x) {a : α} (h : Pre a) : Post a (valA A O Pre w (A a) (O a)) := by
  have hx : ∃ u, Pre u ∧ A u = A a ∧ O u = O a := ⟨a, h, rfl, rfl⟩
  unfold valA
  rw [dif_pos hx]
  exact hi _ _ _ hx.choose_spec.2.1 hx.choose_spec.2.2 (hw _ hx.choose_spec.1)
theorem valS_post {S : α → St} {Inv : α → Prop} {w : α → τ} {Post : α → τ → Prop} (hw : ∀ a, Inv a → Post a (w a)) (hi : ∀ a b x, S a = S b → Post a x → Post b x) {a : α} (h : Inv a) : Post a (valS S Inv w (S a)) := by
  have hx : ∃ u, Inv u ∧ S u = S a := ⟨a, h, rfl⟩
  unfold valS
  rw [dif_pos hx]
  exact hi _ _ _ hx.choose_spec.2 (hw _ hx.choose_spec.1)
open Classical in
theorem loop_ex {ι : Type} {Xf : ι → Cfg} {f : FuncId} {p : List Nat} {b : Code} (S : α → St) (Inv : α → Prop) (μ : α → Nat) (out : τ → (Ex → St → Res) → Res) (Post : α → τ → Prop) (hb : ∀ i, subC (bodyOf (Xf i).P f) p = .loop b) (n : Nat)
    (round : ∀ v, Inv v → (∃ o, Post v o ∧ ∀ (i : ι) (k : Ex → St → Res) (kn : St → Res), roundR (Xf i) f n p (S v) kn k = out o k) ∨
      ∃ v', Inv v' ∧ μ v' < μ v ∧ (∀ o, Post v' o → Post v o) ∧ ∀ (i : ι) (k : Ex → St → Res) (kn : St → Res), roundR (Xf i) f n p (S v) kn k = kn (S v')) :
    ∃ w : α → τ, (∀ v, Inv v → Post v (w v)) ∧ ∀ i, LoopOk (Xf i) f p (mkO (goodS S Inv) (valS S Inv w) out) := by
  let F : (v : α) → ((v' : α) → μ v' < μ v → τ) → τ := fun v rec =>
    if hi : Inv v then
      if h1 : ∃ o, Post v o ∧ ∀ (i : ι) (k : Ex → St → Res) (kn : St → Res), roundR (Xf i) f n p (S v) kn k = out o k then h1.choose
      else if h2 : ∃ v', Inv v' ∧ μ v' < μ v ∧ (∀ o, Post v' o → Post v o) ∧ ∀ (i : ι) (k : Ex → St → Res) (kn : St → Res), roundR (Xf i) f n p (S v) kn k = kn (S v') then rec h2.choose h2.choose_spec.2.1
      else default
    else default
  let w : α → τ := WellFounded.fix (measure μ).wf F
  have hw : ∀ v, w v = F v fun v' _ => w v' := fun v => WellFounded.fix_eq (measure μ).wf F v
  have hpost : ∀ (m : Nat) (v : α), μ v ≤ m → Inv v → Post v (w v) := by
    intro m
    induction m with
    | zero =>
      intro v hm hi
      rw [hw]
      simp only [F]
      rw [dif_pos hi]
      by_cases h1 : ∃ o, Post v o ∧ ∀ (i : ι) (k : Ex → St → Res) (kn : St → Res), roundR (Xf i) f n p (S v) kn k = out o k
      · rw [dif_pos h1]; exact h1.choose_spec.1
      · obtain ⟨v', _, h, _⟩ := (round v hi).resolve_left h1
        omega
    | succ m ih =>
      intro v hm hi
      rw [hw]
      simp only [F]
      rw [dif_pos hi]
      by_cases h1 : ∃ o, Post v o ∧ ∀ (i : ι) (k : Ex → St → Res) (kn : St → Res), roundR (Xf i) f n p (S v) kn k = out o k
      · rw [dif_pos h1]; exact h1.choose_spec.1
      · have h2 := (round v hi).resolve_left h1
        rw [dif_neg h1, dif_pos h2]
        have := h2.choose_spec
        exact this.2.2.1 _ (ih _ (by omega) this.1)
  refine ⟨w, fun v hi => hpost _ v (Nat.le_refl _) hi, fun i => ?_⟩
  refine loopOk_of S Inv μ w out (hb i) n fun v hi k kn hk => ?_
  rw [hw]
  simp only [F]
  rw [dif_pos hi]
  by_cases h1 : ∃ o, Post v o ∧ ∀ (i : ι) (k : Ex → St → Res) (kn : St → Res), roundR (Xf i) f n p (S v) kn k = out o k
  · rw [dif_pos h1]; exact h1.choose_spec.2 i k kn
  · have h2 := (round v hi).resolve_left h1
    rw [dif_neg h1, dif_pos h2]
    have := h2.choose_spec
    rw [this.2.2.2 i k kn]
    exact hk _ this.1 this.2.1
end
section
variable {τ : Type}
/-- One call, its answer known. -/
noncomputable def entK (f : FuncId) (A : List AV) (O : List AO) (x : τ) (φ : τ → AV × List AO) : Ent := mkE f (goodA (fun _ : Unit => A) (fun _ => O) (fun _ => True)) (fun _ _ => x) φ
open Classical in
theorem entK_ok {V : Env} {f : FuncId} {A : List AV} {O : List AO} {x : τ} {φ : τ → AV × List AO} (h : Ct V.P V.G f A O (φ x)) : ∀ l os, (entK f A O x φ).pre l os = true → Ct V.P V.G (entK f A O x φ).f l os ((entK f A O x φ).ans l os) := by
  intro l os hp
  obtain ⟨_, _, h1, h2⟩ : ∃ v : Unit, True ∧ A = l ∧ O = os := of_decide_eq_true hp
  subst h1 h2
  exact h
theorem gK_eq (A : List AV) (O : List AO) : goodA (fun _ : Unit => A) (fun _ => O) (fun _ => True) A O = true := goodA_eq (A := fun _ : Unit => A) (O := fun _ => O) (v := ()) trivial
end
end Go.Ab

namespace Go.SH
open Go Go.Ab Go.Proofs
set_option linter.unusedVariables false
set_option linter.unusedSimpArgs false
structure CODES where
  n : Nat
  g : Nat → Int
  at' : Nat
def CODES.c (C : CODES) : List AV := [.sl .no 1 C.n fun j => [.int .u8 (C.g j)], .int .i64 C.at']
def codO (C : CODES) : AO := .cells C.c
def φX (x : Int × CODES) : AV × List AO := (.int .i64 x.1, [codO x.2])
def φT (x : List UInt8 × CODES) : AV × List AO := (.str x.1, [codO x.2])
def φV (x : VAL × CODES) : AV × List AO := (.agg x.1.c, [codO x.2])
set_option maxRecDepth 100000 in
theorem next_m (C : CODES) (m : Int)  : runF (V2.run [] 3 [] [] [] 19) 9 19 [.ref keyBase 0, .int .i64 m] [codO C] =
  cond (!decide ((↑(CODES.at' C) : Int) < (↑(CODES.n C) : Int))) (some ((.int .i64 0, [codO C]))) (cond (within (IntKind.wrap IntKind.i64 (IntKind.wrap IntKind.i64 ((↑(CODES.at' C) : Int) + 1) - 1)) (CODES.n C)) (cond (m != 0) (some ((.int .i64 (Int.tmod (IntKind.wrap IntKind.i64 (CODES.g C (Int.toNat (IntKind.wrap IntKind.i64 (IntKind.wrap IntKind.i64 ((↑(CODES.at' C) : Int) + 1) - 1))))) m), [.cells [.sl .no 1 (CODES.n C) fun j => [.int .u8 (CODES.g C j)], .int .i64 (IntKind.wrap IntKind.i64 ((↑(CODES.at' C) : Int) + 1))] ]))) (none)) (none)) := by kernel_rfl
set_option maxRecDepth 100000 in
theorem text_0 (ge : List AV → List AO → Bool) (C D : CODES)  : runF (V2.run [mkE 19 ge (fun _ _ => (0, D)) φX] 3 [] [] [] 59) 9 59 [.ref keyBase 0] [codO C] =
  cond (ge [.ref 1000000 0, .int .i64 11] [codO C]) (some ((.str [115, 101], [codO D]))) (none) := by kernel_rfl
set_option maxRecDepth 100000 in
theorem text_1 (ge : List AV → List AO → Bool) (C D : CODES)  : runF (V2.run [mkE 19 ge (fun _ _ => (1, D)) φX] 3 [] [] [] 59) 9 59 [.ref keyBase 0] [codO C] =
  cond (ge [.ref 1000000 0, .int .i64 11] [codO C]) (some ((.str [100, 101], [codO D]))) (none) := by kernel_rfl
set_option maxRecDepth 100000 in
theorem text_2 (ge : List AV → List AO → Bool) (C D : CODES)  : runF (V2.run [mkE 19 ge (fun _ _ => (2, D)) φX] 3 [] [] [] 59) 9 59 [.ref keyBase 0] [codO C] =
  cond (ge [.ref 1000000 0, .int .i64 11] [codO C]) (some ((.str [117, 115], [codO D]))) (none) := by kernel_rfl
set_option maxRecDepth 100000 in
theorem text_3 (ge : List AV → List AO → Bool) (C D : CODES)  : runF (V2.run [mkE 19 ge (fun _ _ => (3, D)) φX] 3 [] [] [] 59) 9 59 [.ref keyBase 0] [codO C] =
  cond (ge [.ref 1000000 0, .int .i64 11] [codO C]) (some ((.str [112, 114, 111], [codO D]))) (none) := by kernel_rfl
set_option maxRecDepth 100000 in
theorem text_4 (ge : List AV → List AO → Bool) (C D : CODES)  : runF (V2.run [mkE 19 ge (fun _ _ => (4, D)) φX] 3 [] [] [] 59) 9 59 [.ref keyBase 0] [codO C] =
  cond (ge [.ref 1000000 0, .int .i64 11] [codO C]) (some ((.str [102, 114, 101, 101], [codO D]))) (none) := by kernel_rfl
set_option maxRecDepth 100000 in
theorem text_5 (ge : List AV → List AO → Bool) (C D : CODES)  : runF (V2.run [mkE 19 ge (fun _ _ => (5, D)) φX] 3 [] [] [] 59) 9 59 [.ref keyBase 0] [codO C] =
  cond (ge [.ref 1000000 0, .int .i64 11] [codO C]) (some ((.str [], [codO D]))) (none) := by kernel_rfl
set_option maxRecDepth 100000 in
theorem text_6 (ge : List AV → List AO → Bool) (C D : CODES)  : runF (V2.run [mkE 19 ge (fun _ _ => (6, D)) φX] 3 [] [] [] 59) 9 59 [.ref keyBase 0] [codO C] =
  cond (ge [.ref 1000000 0, .int .i64 11] [codO C]) (some ((.str [97, 34, 98], [codO D]))) (none) := by kernel_rfl
set_option maxRecDepth 100000 in
theorem text_7 (ge : List AV → List AO → Bool) (C D : CODES)  : runF (V2.run [mkE 19 ge (fun _ _ => (7, D)) φX] 3 [] [] [] 59) 9 59 [.ref keyBase 0] [codO C] =
  cond (ge [.ref 1000000 0, .int .i64 11] [codO C]) (some ((.str [99, 92], [codO D]))) (none) := by kernel_rfl
set_option maxRecDepth 100000 in
theorem text_8 (ge : List AV → List AO → Bool) (C D : CODES)  : runF (V2.run [mkE 19 ge (fun _ _ => (8, D)) φX] 3 [] [] [] 59) 9 59 [.ref keyBase 0] [codO C] =
  cond (ge [.ref 1000000 0, .int .i64 11] [codO C]) (some ((.str [195, 169], [codO D]))) (none) := by kernel_rfl
set_option maxRecDepth 100000 in
theorem text_9 (ge : List AV → List AO → Bool) (C D : CODES)  : runF (V2.run [mkE 19 ge (fun _ _ => (9, D)) φX] 3 [] [] [] 59) 9 59 [.ref keyBase 0] [codO C] =
  cond (ge [.ref 1000000 0, .int .i64 11] [codO C]) (some ((.str [112, 114, 111, 115, 101], [codO D]))) (none) := by kernel_rfl
set_option maxRecDepth 100000 in
theorem text_10 (ge : List AV → List AO → Bool) (C D : CODES)  : runF (V2.run [mkE 19 ge (fun _ _ => (10, D)) φX] 3 [] [] [] 59) 9 59 [.ref keyBase 0] [codO C] =
  cond (ge [.ref 1000000 0, .int .i64 11] [codO C]) (some ((.str [120, 32, 121], [codO D]))) (none) := by kernel_rfl
set_option maxRecDepth 100000 in
theorem value_1 (ge : List AV → List AO → Bool) (ve : List AV → List AO → Int × CODES) (gt : List AV → List AO → Bool) (vt : List AV → List AO → List UInt8 × CODES) (C : CODES) {t1 : Int × CODES} (h_t1 : ve [.ref 1000000 0, .int .i64 2] [codO C] = t1) : runF (V2.run [mkE 19 ge ve φX, mkE 59 gt vt φT] 3 [] [] [] 58) 9 58 [.ref keyBase 0, .int .i64 1] [codO C] =
  cond (ge [.ref 1000000 0, .int .i64 2] [codO C]) (some ((.agg [.int .i64 1, .int .i64 (Prod.fst t1), .str [], .sl .fit 0 0 fun x => [] ], [codO (Prod.snd t1)]))) (none) := by subst h_t1; kernel_rfl
set_option maxRecDepth 100000 in
theorem value_3 (ge : List AV → List AO → Bool) (ve : List AV → List AO → Int × CODES) (gt : List AV → List AO → Bool) (vt : List AV → List AO → List UInt8 × CODES) (C : CODES) {t1 : List UInt8 × CODES} (h_t1 : vt [.ref 1000000 0] [codO C] = t1) : runF (V2.run [mkE 19 ge ve φX, mkE 59 gt vt φT] 3 [] [] [] 58) 9 58 [.ref keyBase 0, .int .i64 3] [codO C] =
  cond (gt [.ref 1000000 0] [codO C]) (some ((.agg [.int .i64 3, .int .i64 0, .str (Prod.fst t1), .sl .fit 0 0 fun x => [] ], [codO (Prod.snd t1)]))) (none) := by subst h_t1; kernel_rfl
set_option maxRecDepth 100000 in
theorem value_2_0 (ge : List AV → List AO → Bool) (gt : List AV → List AO → Bool) (vt : List AV → List AO → List UInt8 × CODES) (C D : CODES)  : runF (V2.run [mkE 19 ge (fun _ _ => (0, D)) φX, mkE 59 gt vt φT] 3 [] [] [] 58) 9 58 [.ref keyBase 0, .int .i64 2] [codO C] =
  cond (ge [.ref 1000000 0, .int .i64 (↑9 : Int)] [codO C]) (some ((.agg [.int .i64 2, .int .i64 0, .str [], .sl .fit 0 0 fun x => [] ], [codO D]))) (none) := by kernel_rfl
set_option maxRecDepth 100000 in
theorem value_2_1 (ge : List AV → List AO → Bool) (gt : List AV → List AO → Bool) (vt : List AV → List AO → List UInt8 × CODES) (C D : CODES)  : runF (V2.run [mkE 19 ge (fun _ _ => (1, D)) φX, mkE 59 gt vt φT] 3 [] [] [] 58) 9 58 [.ref keyBase 0, .int .i64 2] [codO C] =
  cond (ge [.ref 1000000 0, .int .i64 (↑9 : Int)] [codO C]) (some ((.agg [.int .i64 2, .int .i64 1, .str [], .sl .fit 0 0 fun x => [] ], [codO D]))) (none) := by kernel_rfl
set_option maxRecDepth 100000 in
theorem value_2_2 (ge : List AV → List AO → Bool) (gt : List AV → List AO → Bool) (vt : List AV → List AO → List UInt8 × CODES) (C D : CODES)  : runF (V2.run [mkE 19 ge (fun _ _ => (2, D)) φX, mkE 59 gt vt φT] 3 [] [] [] 58) 9 58 [.ref keyBase 0, .int .i64 2] [codO C] =
  cond (ge [.ref 1000000 0, .int .i64 (↑9 : Int)] [codO C]) (some ((.agg [.int .i64 2, .int .i64 17, .str [], .sl .fit 0 0 fun x => [] ], [codO D]))) (none) := by kernel_rfl
set_option maxRecDepth 100000 in
theorem value_2_3 (ge : List AV → List AO → Bool) (gt : List AV → List AO → Bool) (vt : List AV → List AO → List UInt8 × CODES) (C D : CODES)  : runF (V2.run [mkE 19 ge (fun _ _ => (3, D)) φX, mkE 59 gt vt φT] 3 [] [] [] 58) 9 58 [.ref keyBase 0, .int .i64 2] [codO C] =
  cond (ge [.ref 1000000 0, .int .i64 (↑9 : Int)] [codO C]) (some ((.agg [.int .i64 2, .int .i64 18, .str [], .sl .fit 0 0 fun x => [] ], [codO D]))) (none) := by kernel_rfl
set_option maxRecDepth 100000 in
theorem value_2_4 (ge : List AV → List AO → Bool) (gt : List AV → List AO → Bool) (vt : List AV → List AO → List UInt8 × CODES) (C D : CODES)  : runF (V2.run [mkE 19 ge (fun _ _ => (4, D)) φX, mkE 59 gt vt φT] 3 [] [] [] 58) 9 58 [.ref keyBase 0, .int .i64 2] [codO C] =
  cond (ge [.ref 1000000 0, .int .i64 (↑9 : Int)] [codO C]) (some ((.agg [.int .i64 2, .int .i64 19, .str [], .sl .fit 0 0 fun x => [] ], [codO D]))) (none) := by kernel_rfl
set_option maxRecDepth 100000 in
theorem value_2_5 (ge : List AV → List AO → Bool) (gt : List AV → List AO → Bool) (vt : List AV → List AO → List UInt8 × CODES) (C D : CODES)  : runF (V2.run [mkE 19 ge (fun _ _ => (5, D)) φX, mkE 59 gt vt φT] 3 [] [] [] 58) 9 58 [.ref keyBase 0, .int .i64 2] [codO C] =
  cond (ge [.ref 1000000 0, .int .i64 (↑9 : Int)] [codO C]) (some ((.agg [.int .i64 2, .int .i64 (-5), .str [], .sl .fit 0 0 fun x => [] ], [codO D]))) (none) := by kernel_rfl
set_option maxRecDepth 100000 in
theorem value_2_6 (ge : List AV → List AO → Bool) (gt : List AV → List AO → Bool) (vt : List AV → List AO → List UInt8 × CODES) (C D : CODES)  : runF (V2.run [mkE 19 ge (fun _ _ => (6, D)) φX, mkE 59 gt vt φT] 3 [] [] [] 58) 9 58 [.ref keyBase 0, .int .i64 2] [codO C] =
  cond (ge [.ref 1000000 0, .int .i64 (↑9 : Int)] [codO C]) (some ((.agg [.int .i64 2, .int .i64 64, .str [], .sl .fit 0 0 fun x => [] ], [codO D]))) (none) := by kernel_rfl
set_option maxRecDepth 100000 in
theorem value_2_7 (ge : List AV → List AO → Bool) (gt : List AV → List AO → Bool) (vt : List AV → List AO → List UInt8 × CODES) (C D : CODES)  : runF (V2.run [mkE 19 ge (fun _ _ => (7, D)) φX, mkE 59 gt vt φT] 3 [] [] [] 58) 9 58 [.ref keyBase 0, .int .i64 2] [codO C] =
  cond (ge [.ref 1000000 0, .int .i64 (↑9 : Int)] [codO C]) (some ((.agg [.int .i64 2, .int .i64 1099511627776, .str [], .sl .fit 0 0 fun x => [] ], [codO D]))) (none) := by kernel_rfl
set_option maxRecDepth 100000 in
theorem value_2_8 (ge : List AV → List AO → Bool) (gt : List AV → List AO → Bool) (vt : List AV → List AO → List UInt8 × CODES) (C D : CODES)  : runF (V2.run [mkE 19 ge (fun _ _ => (8, D)) φX, mkE 59 gt vt φT] 3 [] [] [] 58) 9 58 [.ref keyBase 0, .int .i64 2] [codO C] =
  cond (ge [.ref 1000000 0, .int .i64 (↑9 : Int)] [codO C]) (some ((.agg [.int .i64 2, .int .i64 (-1099511627776), .str [], .sl .fit 0 0 fun x => [] ], [codO D]))) (none) := by kernel_rfl
set_option maxRecDepth 100000 in
theorem value_4_0 (ge : List AV → List AO → Bool) (gt : List AV → List AO → Bool) (vt : List AV → List AO → List UInt8 × CODES) (C D : CODES)  : runF (V2.run [mkE 19 ge (fun _ _ => (0, D)) φX, mkE 59 gt vt φT] 3 [] [] [] 58) 9 58 [.ref keyBase 0, .int .i64 4] [codO C] =
  cond (ge [.ref 1000000 0, .int .i64 6] [codO C]) (some ((.agg [.int .i64 4, .int .i64 0, .str [49, 46, 48, 46, 48], .sl .fit 0 0 fun x => [] ], [codO D]))) (none) := by kernel_rfl
set_option maxRecDepth 100000 in
theorem value_4_1 (ge : List AV → List AO → Bool) (gt : List AV → List AO → Bool) (vt : List AV → List AO → List UInt8 × CODES) (C D : CODES)  : runF (V2.run [mkE 19 ge (fun _ _ => (1, D)) φX, mkE 59 gt vt φT] 3 [] [] [] 58) 9 58 [.ref keyBase 0, .int .i64 4] [codO C] =
  cond (ge [.ref 1000000 0, .int .i64 6] [codO C]) (some ((.agg [.int .i64 4, .int .i64 0, .str [49, 46, 50, 46, 51], .sl .fit 0 0 fun x => [] ], [codO D]))) (none) := by kernel_rfl
set_option maxRecDepth 100000 in
theorem value_4_2 (ge : List AV → List AO → Bool) (gt : List AV → List AO → Bool) (vt : List AV → List AO → List UInt8 × CODES) (C D : CODES)  : runF (V2.run [mkE 19 ge (fun _ _ => (2, D)) φX, mkE 59 gt vt φT] 3 [] [] [] 58) 9 58 [.ref keyBase 0, .int .i64 4] [codO C] =
  cond (ge [.ref 1000000 0, .int .i64 6] [codO C]) (some ((.agg [.int .i64 4, .int .i64 0, .str [49, 46, 49, 48, 46, 48], .sl .fit 0 0 fun x => [] ], [codO D]))) (none) := by kernel_rfl
set_option maxRecDepth 100000 in
theorem value_4_3 (ge : List AV → List AO → Bool) (gt : List AV → List AO → Bool) (vt : List AV → List AO → List UInt8 × CODES) (C D : CODES)  : runF (V2.run [mkE 19 ge (fun _ _ => (3, D)) φX, mkE 59 gt vt φT] 3 [] [] [] 58) 9 58 [.ref keyBase 0, .int .i64 4] [codO C] =
  cond (ge [.ref 1000000 0, .int .i64 6] [codO C]) (some ((.agg [.int .i64 4, .int .i64 0, .str [50, 46, 48, 46, 49], .sl .fit 0 0 fun x => [] ], [codO D]))) (none) := by kernel_rfl
set_option maxRecDepth 100000 in
theorem value_4_4 (ge : List AV → List AO → Bool) (gt : List AV → List AO → Bool) (vt : List AV → List AO → List UInt8 × CODES) (C D : CODES)  : runF (V2.run [mkE 19 ge (fun _ _ => (4, D)) φX, mkE 59 gt vt φT] 3 [] [] [] 58) 9 58 [.ref keyBase 0, .int .i64 4] [codO C] =
  cond (ge [.ref 1000000 0, .int .i64 6] [codO C]) (some ((.agg [.int .i64 4, .int .i64 0, .str [48, 46, 48, 46, 48], .sl .fit 0 0 fun x => [] ], [codO D]))) (none) := by kernel_rfl
set_option maxRecDepth 100000 in
theorem value_4_5 (ge : List AV → List AO → Bool) (gt : List AV → List AO → Bool) (vt : List AV → List AO → List UInt8 × CODES) (C D : CODES)  : runF (V2.run [mkE 19 ge (fun _ _ => (5, D)) φX, mkE 59 gt vt φT] 3 [] [] [] 58) 9 58 [.ref keyBase 0, .int .i64 4] [codO C] =
  cond (ge [.ref 1000000 0, .int .i64 6] [codO C]) (some ((.agg [.int .i64 4, .int .i64 0, .str [57, 57, 57, 57, 57, 57, 46, 48, 46, 57, 57, 57, 57, 57, 57], .sl .fit 0 0 fun x => [] ], [codO D]))) (none) := by kernel_rfl
set_option maxRecDepth 100000 in
theorem value_5_0 (ge : List AV → List AO → Bool) (gt : List AV → List AO → Bool) (vt : List AV → List AO → List UInt8 × CODES) (C D : CODES)  : runF (V2.run [mkE 19 ge (fun _ _ => (0, D)) φX, mkE 59 gt vt φT] 3 [] [] [] 58) 9 58 [.ref keyBase 0, .int .i64 5] [codO C] =
  cond (ge [.ref 1000000 0, .int .i64 5] [codO C]) (some ((.agg [.int .i64 5, .int .i64 0, .str [], .sl .no 1 0 (appGet 0 (List.length (tcells.tstrs [])) (fun x => []) fun j => [.str (List.getD (tcells.tstrs []) j [])])], [codO D]))) (none) := by kernel_rfl
set_option maxRecDepth 100000 in
theorem value_5_1 (ge : List AV → List AO → Bool) (gt : List AV → List AO → Bool) (vt : List AV → List AO → List UInt8 × CODES) (C D : CODES)  : runF (V2.run [mkE 19 ge (fun _ _ => (1, D)) φX, mkE 59 gt vt φT] 3 [] [] [] 58) 9 58 [.ref keyBase 0, .int .i64 5] [codO C] =
  cond (ge [.ref 1000000 0, .int .i64 5] [codO C]) (some ((.agg [.int .i64 5, .int .i64 0, .str [], .sl .no 1 1 (appGet 0 (List.length (tcells.tstrs [DataW.lit (Lit.string [112, 114, 111])])) (fun x => []) fun j => [.str (List.getD (tcells.tstrs [DataW.lit (Lit.string [112, 114, 111])]) j [])])], [codO D]))) (none) := by kernel_rfl
set_option maxRecDepth 100000 in
theorem value_5_2 (ge : List AV → List AO → Bool) (gt : List AV → List AO → Bool) (vt : List AV → List AO → List UInt8 × CODES) (C D : CODES)  : runF (V2.run [mkE 19 ge (fun _ _ => (2, D)) φX, mkE 59 gt vt φT] 3 [] [] [] 58) 9 58 [.ref keyBase 0, .int .i64 5] [codO C] =
  cond (ge [.ref 1000000 0, .int .i64 5] [codO C]) (some ((.agg [.int .i64 5, .int .i64 0, .str [], .sl .no 1 2 (appGet 0 (List.length (tcells.tstrs [DataW.lit (Lit.string [100, 101]), DataW.lit (Lit.string [115, 101])])) (fun x => []) fun j => [.str (List.getD (tcells.tstrs [DataW.lit (Lit.string [100, 101]), DataW.lit (Lit.string [115, 101])]) j [])])], [codO D]))) (none) := by kernel_rfl
set_option maxRecDepth 100000 in
theorem value_5_3 (ge : List AV → List AO → Bool) (gt : List AV → List AO → Bool) (vt : List AV → List AO → List UInt8 × CODES) (C D : CODES)  : runF (V2.run [mkE 19 ge (fun _ _ => (3, D)) φX, mkE 59 gt vt φT] 3 [] [] [] 58) 9 58 [.ref keyBase 0, .int .i64 5] [codO C] =
  cond (ge [.ref 1000000 0, .int .i64 5] [codO C]) (some ((.agg [.int .i64 5, .int .i64 0, .str [], .sl .no 1 3 (appGet 0 (List.length (tcells.tstrs [DataW.lit (Lit.string []), DataW.lit (Lit.string [102, 114, 101, 101]), DataW.lit (Lit.string [117, 115])])) (fun x => []) fun j => [.str (List.getD (tcells.tstrs [DataW.lit (Lit.string []), DataW.lit (Lit.string [102, 114, 101, 101]), DataW.lit (Lit.string [117, 115])]) j [])])], [codO D]))) (none) := by kernel_rfl
set_option maxRecDepth 100000 in
theorem value_5_4 (ge : List AV → List AO → Bool) (gt : List AV → List AO → Bool) (vt : List AV → List AO → List UInt8 × CODES) (C D : CODES)  : runF (V2.run [mkE 19 ge (fun _ _ => (4, D)) φX, mkE 59 gt vt φT] 3 [] [] [] 58) 9 58 [.ref keyBase 0, .int .i64 5] [codO C] =
  cond (ge [.ref 1000000 0, .int .i64 5] [codO C]) (some ((.agg [.int .i64 5, .int .i64 0, .str [], .sl .no 1 1 (appGet 0 (List.length (tcells.tstrs [DataW.lit (Lit.string [120, 32, 121])])) (fun x => []) fun j => [.str (List.getD (tcells.tstrs [DataW.lit (Lit.string [120, 32, 121])]) j [])])], [codO D]))) (none) := by kernel_rfl
end Go.SH
