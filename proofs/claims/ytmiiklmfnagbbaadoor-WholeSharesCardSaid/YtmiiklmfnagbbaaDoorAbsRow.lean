/- From the evaluator to a row of the kit: a call of which E says the answer. -/
import Derived.Test.YtmiiklmfnagbbaaDoorAbsTab
namespace Go.Ab
open Go Go.RowKit

/-- The context at a row's start: all that is there is never written again. -/
def startCx (w : World) : Cx := { w := w, I := fun b o => ∃ v, w.cell? ⟨b, o, none⟩ = some v, β := fun _ => 0, κ := fun _ => none, fr := fun _ => none }

theorem startCx_good (w : World) : Good (fun _ => none) (startCx w) := ⟨fun _ _ h => h, fun _ _ h => by cases h⟩
theorem startCx_objs (w : World) : Objs (startCx w) [] := ⟨fun _ _ h => by simp [alook] at h, fun _ _ _ _ _ h => by simp [alook] at h, fun _ _ h => by simp [alook] at h⟩

/-- What the values of a row's arguments stand for. -/
def Stand (w : World) : List AV → List Value → Prop
  | [], [] => True
  | u :: l, x :: xs => (Rep (startCx w) u x ∧ u.keys = []) ∧ Stand w l xs
  | _, _ => False

theorem Stand.spec {w : World} : ∀ {l : List AV} {xs : List Value}, Stand w l xs → xs.length = l.length ∧ keysL l = [] ∧ ∀ (i : Nat) (u : AV), l[i]? = some u → Rep (startCx w) u (xs.getD i undef)
  | [], [], _ => ⟨rfl, rfl, by simp⟩
  | u :: l, x :: xs, h => by
    obtain ⟨⟨h1, h2⟩, h3⟩ := h
    obtain ⟨e1, e2, e3⟩ := h3.spec
    refine ⟨by simp [e1], by simp [keysL, h2, e2], fun i v hv => ?_⟩
    cases i with
    | zero => simp at hv; subst hv; exact h1
    | succ i => simpa using e3 i v (by simpa using hv)

theorem calls_of_ct {P : Program} {f : FuncId} {l : List AV} {r : AV × List AO} (h : Ct P (fun _ => none) f l [] r) {xs : List Value} {w : World} (hs : Stand w l xs) :
    Calls P f xs.toArray w fun e w' => ∃ c' x, e = .returned x ∧ c'.w = w' ∧ Rep c' r.1 x ∧ Below w.heap.size w w' := by
  obtain ⟨h1, h2, h3⟩ := hs.spec
  refine (h.1 (startCx w) xs.toArray (startCx_good w) (startCx_objs w) (by simpa using h1) (fun i u hu => ?_) (by rw [h2]; simp)).mono ?_
  · have := h3 i u hu
    simpa [Array.getD_eq_getD_getElem?, List.getD_eq_getElem?_getD] using this
  · rintro e w' ⟨c', x, rfl, rfl, _, hF, _, hr, _, _⟩
    refine ⟨c', x, rfl, rfl, hr, ⟨hF.os, hF.tape, hF.output, hF.size, fun b hb => hF.block b hb ?_⟩⟩
    rintro ⟨k, o, ho, _⟩
    simp [enterObjs, alook] at ho

/-- A call that answers true. -/
theorem calls_true {P : Program} {f : FuncId} {l : List AV} {os : List AO} (h : Ct P (fun _ => none) f l [] (.bool true, os)) {xs : List Value} {w : World} (hs : Stand w l xs) :
    Calls P f xs.toArray w fun e w' => e = .returned (.bool true) ∧ Below w.heap.size w w' := by
  refine (calls_of_ct h hs).mono ?_
  rintro e w' ⟨c', x, rfl, _, hr, hb⟩
  cases hr
  exact ⟨rfl, hb⟩

/-- The check of a whole program. -/
def funcsOkB (P : Program) : Bool := P.funcs.toList.all fun fn => !(fn.name == "runtime.NumGoroutine") && (match fn.body with
  | none => true
  | some c => codeOk fn.ntmps c)
theorem funcsOk_of {P : Program} (h : funcsOkB P = true) : FuncsOk P := by
  intro f fn hf
  have := List.all_eq_true.1 h fn (by simpa using Array.mem_of_getElem? hf)
  simp only [Bool.and_eq_true, Bool.not_eq_true'] at this
  refine ⟨this.1, fun c hc => ?_⟩
  have h2 := this.2
  rw [hc] at h2; exact h2
end Go.Ab
