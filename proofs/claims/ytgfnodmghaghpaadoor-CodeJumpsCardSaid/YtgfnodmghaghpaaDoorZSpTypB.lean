/- What typ.Same answers, over trees. -/
import Derived.Test.YtgfnodmghaghpaaDoorZSpTyp
namespace Go.Proofs.YtgfnodmghaghpaaDoor
open Go Go.Abs

mutual
def sameT : Ty → Ty → Bool
  | .mk k of, .mk k' of' => decide (k = k') && sameTs of of'
def sameTs : List Ty → List Ty → Bool
  | [], [] => true
  | a :: r, b :: q => sameT a b && sameTs r q
  | _, _ => false
end

theorem sameTs_eq : ∀ l q : List Ty, sameTs l q = allP sameT l q
  | [], [] => by simp [sameTs, allP]
  | [], _ :: _ => by simp [sameTs, allP]
  | _ :: _, [] => by simp [sameTs, allP]
  | a :: r, b :: q => by simp [sameTs, allP, sameTs_eq r q]

mutual
theorem sameT_iff : ∀ a b : Ty, sameT a b = true ↔ a = b
  | .mk k of, .mk k' of' => by simp [sameT, sameTs_iff of of']
theorem sameTs_iff : ∀ a b : List Ty, sameTs a b = true ↔ a = b
  | [], [] => by simp [sameTs]
  | [], _ :: _ => by simp [sameTs]
  | _ :: _, [] => by simp [sameTs]
  | a :: r, b :: q => by simp [sameTs, sameT_iff a b, sameTs_iff r q]
end

end Go.Proofs.YtgfnodmghaghpaaDoor
