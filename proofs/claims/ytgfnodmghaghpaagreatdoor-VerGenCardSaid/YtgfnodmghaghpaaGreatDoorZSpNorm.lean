/- Calls whose arguments' structs are trees; rows of their own. -/
import Derived.Test.YtgfnodmghaghpaaGreatDoorA3
set_option linter.unusedSimpArgs false
set_option linter.unusedVariables false
namespace Go.Proofs.YtgfnodmghaghpaaGreatDoor
open Go Go.Abs

/-- A slice whose capacity is its length owns a row of its own, the others stay. -/
theorem gives_addrow {n : Nat} {es : List T} {H : List Ob} {s : Nat} (hs : ∀ e ∈ es, e.cells.length = s) : Gives n (.full es) H (.own H.length es) (H ++ [.row es.length s]) := by
  intro w G u hi hr
  cases hr with
  | full _ a h =>
    obtain ⟨i1, s1⟩ := add_loc hi (.row a es.length es.length s) (.row es.length s) (by cases a <;> simp [Loc.blk]) ⟨rfl, rfl, Nat.le_refl _, fun h => absurd h (Nat.lt_irrefl _)⟩
    exact ⟨_, i1, .own H.length es a a es.length es.length es.length s h (by simp [Gh.withLoc]) (Nat.le_refl _) (fun _ => ⟨rfl, rfl⟩) hs, s1 n⟩

end Go.Proofs.YtgfnodmghaghpaaGreatDoor

