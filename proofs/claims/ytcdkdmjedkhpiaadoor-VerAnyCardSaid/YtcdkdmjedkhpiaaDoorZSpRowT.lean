/- Arguments that are types: which trees they are. -/
import Derived.Test.YtcdkdmjedkhpiaaDoorZSpRowV
set_option linter.unusedVariables false
namespace Go.Proofs.YtcdkdmjedkhpiaaDoor
open Go Go.Abs

theorem typ_T : ∀ (n : Nat) (cs : List T), Typ Tryd.prog n 26 cs → ∃ t, cs = (encT t).cells ∧ elemT Tryd.prog 26 cs = encT t ∧ RgT t := by
  intro n
  induction n using Nat.strongRecOn with
  | ind n ih =>
    intro cs h
    obtain ⟨m, rfl, he, hs⟩ := typ_struct Tryd.underlying26 h
    obtain ⟨_, _, rfl, h0, _, _, rfl, h1, rfl⟩ := hs
    obtain ⟨k, rfl, _, wk⟩ := typ_int Tryd.underlying3 h0
    obtain ⟨m', es, rfl, rfl, _, hl, hes⟩ := typ_slice Tryd.underlying24 h1
    obtain ⟨vs, g1, g2, g3⟩ := rows_of (q := RgT) (enc := encT) (f := elemT Tryd.prog 26) es hes (fun x hx => by
      obtain ⟨v, _, h5, h6⟩ := ih m' (by omega) x hx
      exact ⟨v, h5, h6⟩)
    refine ⟨.mk k vs, ?_, ?_, .mk _ _ (i64_wf wk) (by omega) g3⟩
    · simp [g1]
    · rw [he]
      simp [g1]

end Go.Proofs.YtcdkdmjedkhpiaaDoor
