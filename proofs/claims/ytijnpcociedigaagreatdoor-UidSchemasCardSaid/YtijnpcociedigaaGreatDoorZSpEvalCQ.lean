/- What the functions of the package eval answer, over trees. -/
import Derived.Test.YtijnpcociedigaaGreatDoorZSpValBQ
import Derived.Test.YtijnpcociedigaaGreatDoorZPuEvalB

section
/- What the functions of the package eval answer, over trees. -/

set_option linter.unusedSimpArgs false
set_option linter.unusedVariables false
namespace Go.Proofs.YtijnpcociedigaaGreatDoor
open Go Go.Abs

end Go.Proofs.YtijnpcociedigaaGreatDoor
end

section
/- What eval.Eval and the document's Eval answer, over trees. -/
set_option linter.unusedSimpArgs false
set_option linter.unusedVariables false
namespace Go.Proofs.YtijnpcociedigaaGreatDoor
open Go Go.Abs

end Go.Proofs.YtijnpcociedigaaGreatDoor
end

section
/- What the document's Eval answers, over trees. -/
set_option linter.unusedSimpArgs false
set_option linter.unusedVariables false
namespace Go.Proofs.YtijnpcociedigaaGreatDoor
open Go Go.Abs

/-- Every op of arguments has one at least. -/
inductive Ne : Ex → Prop where
  | leaf (op : List UInt8) (v : Va) (n : Int) (a : List Ex) (h : op = oLit ∨ op = oX) : Ne (.mk op v n a)
  | node (op : List UInt8) (v : Va) (n : Int) (a : List Ex) (h : a ≠ []) (ho : ∀ e ∈ a, Ne e) : Ne (.mk op v n a)

end Go.Proofs.YtijnpcociedigaaGreatDoor
end
