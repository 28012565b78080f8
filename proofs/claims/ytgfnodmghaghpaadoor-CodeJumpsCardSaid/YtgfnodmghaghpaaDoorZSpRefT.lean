/- The document's types: what Of, checkType, CheckType, SameType answer, over trees. -/
import Derived.Test.YtgfnodmghaghpaaDoorZSpTypB
namespace Go.Proofs.YtgfnodmghaghpaaDoor
open Go Go.Abs

/-- No tuple has more parts than so many. -/
inductive Wd (n : Nat) : Ty → Prop where
  | mk (k : Int) (of : List Ty) (h : of.length ≤ n) (ho : ∀ t ∈ of, Wd n t) : Wd n (.mk k of)

theorem Wd.mono {n m : Nat} (hnm : n ≤ m) {t : Ty} (h : Wd n t) : Wd m t := by
  induction h with
  | mk k of h _ ih => exact .mk k of (by omega) ih

end Go.Proofs.YtgfnodmghaghpaaDoor
