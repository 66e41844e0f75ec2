/- cbor: what Decode of the program computes. No condition. -/
import Derived.Test.YtjedfmknnkimmaaDoorCborH
set_option linter.unusedVariables false
set_option linter.unusedSimpArgs false
set_option maxRecDepth 100000
namespace Go.Proofs.YtjedfmknnkimmaaDoor
open Go Go.Abs
theorem getI_nat {α : Type} {l : List α} {i : Nat} {x : α} (h : l[i]? = some x) : getI l (i : Int) = some x := by unfold getI; simp [h]
theorem drop_cons {α : Type} {l : List α} {j : Nat} {c : α} {r : List α} (h : l.drop j = c :: r) : l[j]? = some c ∧ l.drop (j + 1) = r ∧ j < l.length ∧ l.length = j + 1 + r.length := by
  refine ⟨?_, ?_, ?_, ?_⟩
  · have := congrArg (·[0]?) h
    simpa using this
  · have := congrArg (List.drop 1) h
    simpa [List.drop_drop] using this
  · have := congrArg List.length h
    simp at this
    omega
  · have := congrArg List.length h
    simp at this
    omega
end Go.Proofs.YtjedfmknnkimmaaDoor
