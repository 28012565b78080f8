/- Arguments that are rows of numbers, truths: which trees they are. -/
import Derived.Test.YtmnmiiifilfcmaaZSpRowV
set_option linter.unusedVariables false
namespace Go.Proofs.Ytmnmiiifilfcmaa
open Go Go.Abs

theorem typ_U8s (n : Nat) (cs : List T) (h : Typ Try.prog n 22 cs) : ∃ l : List Int, elemT Try.prog 22 cs = .slice (l.map (.int .u8)) ∧ ∀ x ∈ l, 0 ≤ x ∧ x ≤ 255 := by
  obtain ⟨m', es, rfl, rfl, he, hl, hes⟩ := typ_slice Try.underlying22 h
  obtain ⟨vs, g1, g2, g3⟩ := rows_of (q := fun x : Int => 0 ≤ x ∧ x ≤ 255) (enc := T.int .u8) (f := elemT Try.prog 5) es hes (fun x hx => by
    obtain ⟨v, _, h5, h6⟩ := typ_int Try.underlying5 hx
    exact ⟨v, h5, u8_wf h6⟩)
  exact ⟨vs, by rw [he, g1], g3⟩

end Go.Proofs.Ytmnmiiifilfcmaa
