import Derived.Test.YtmiiklmfnagbbaaDoorWS0
namespace Go.WS
open Go Go.Ab Go.Proofs
def isTrue : Option (AV × List AO) → Bool
  | some (.bool b, []) => b
  | _ => false
theorem isTrue_eq {x : Option (AV × List AO)} (h : isTrue x = true) : x = some (.bool true, []) := by
  unfold isTrue at h
  split at h
  · subst h; rfl
  · cases h
set_option maxRecDepth 100000 in
theorem scores_true : isTrue (E V 20000 6 [] []) = true := by kernel_rfl
end Go.WS
