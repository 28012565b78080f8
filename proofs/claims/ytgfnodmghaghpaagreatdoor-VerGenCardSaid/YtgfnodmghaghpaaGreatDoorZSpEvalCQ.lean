/- What the functions of the package eval answer, over trees. -/
import Derived.Test.YtgfnodmghaghpaaGreatDoorZSpValBQ
import Derived.Test.YtgfnodmghaghpaaGreatDoorZPuEvalB
import Derived.Test.YtgfnodmghaghpaaGreatDoorS2

section
/- What the functions of the package eval answer, over trees. -/
set_option linter.unusedSimpArgs false
set_option linter.unusedVariables false
namespace Go.Proofs.YtgfnodmghaghpaaGreatDoor
open Go Go.Abs

end Go.Proofs.YtgfnodmghaghpaaGreatDoor
end

section
/- What eval.Eval and the document's Eval answer, over trees. -/
set_option linter.unusedSimpArgs false
set_option linter.unusedVariables false
namespace Go.Proofs.YtgfnodmghaghpaaGreatDoor
open Go Go.Abs

end Go.Proofs.YtgfnodmghaghpaaGreatDoor
end

section
/- What the document's Eval answers, over trees. -/
set_option linter.unusedSimpArgs false
set_option linter.unusedVariables false
namespace Go.Proofs.YtgfnodmghaghpaaGreatDoor
open Go Go.Abs

theorem Yes_spec (b : Bool) : Abs.Fn Tryz.prog runnelref6_Yes_i [] [.p (.bool b)] (.p (encV (boolV b))) [] := by
  apply runnelref6_Yes_fn
  simp [runnelref6_Yes]
  exact gives_pure (by simp [AV.pur, boolV])

/-- Every op of arguments has one at least. -/
inductive Ne : Ex → Prop where
  | leaf (op : List UInt8) (v : Va) (n : Int) (a : List Ex) (h : op = oLit ∨ op = oX) : Ne (.mk op v n a)
  | node (op : List UInt8) (v : Va) (n : Int) (a : List Ex) (h : a ≠ []) (ho : ∀ e ∈ a, Ne e) : Ne (.mk op v n a)

end Go.Proofs.YtgfnodmghaghpaaGreatDoor
end
