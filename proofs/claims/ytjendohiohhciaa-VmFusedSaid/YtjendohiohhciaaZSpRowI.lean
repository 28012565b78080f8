/- Arguments that are rows of numbers, truths: which trees they are. -/
import Derived.Test.YtjendohiohhciaaZSpRowV
set_option linter.unusedVariables false
namespace Go.Proofs.Ytjendohiohhciaa
open Go Go.Abs

theorem typ_I8s (n : Nat) (cs : List T) (h : Typ Try.prog n 82 cs) : ∃ l : List Int, elemT Try.prog 82 cs = .slice (l.map (.int .i8)) ∧ ∀ x ∈ l, -128 ≤ x ∧ x ≤ 127 := by
  obtain ⟨m', es, rfl, rfl, he, hl, hes⟩ := typ_slice Try.underlying82 h
  obtain ⟨vs, g1, g2, g3⟩ := rows_of (q := fun x : Int => -128 ≤ x ∧ x ≤ 127) (enc := T.int .i8) (f := elemT Try.prog 83) es hes (fun x hx => by
    obtain ⟨v, _, h5, h6⟩ := typ_int Try.underlying83 hx
    exact ⟨v, h5, i8_wf h6⟩)
  exact ⟨vs, by rw [he, g1], g3⟩

end Go.Proofs.Ytjendohiohhciaa
