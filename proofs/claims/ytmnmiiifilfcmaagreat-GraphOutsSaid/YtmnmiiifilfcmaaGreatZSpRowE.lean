/- Arguments that are expressions: which trees they are. -/
import Derived.Test.YtmnmiiifilfcmaaGreatZSpRowV
set_option linter.unusedVariables false
namespace Go.Proofs.YtmnmiiifilfcmaaGreat
open Go Go.Abs

theorem typ_E : ∀ (n : Nat) (cs : List T), Typ Tryz.prog n 36 cs → ∃ e, cs = (encE e).cells ∧ elemT Tryz.prog 36 cs = encE e ∧ RgE e := by
  intro n
  induction n using Nat.strongRecOn with
  | ind n ih =>
    intro cs h
    obtain ⟨m, rfl, he, hs⟩ := typ_struct Tryz.underlying36 h
    obtain ⟨_, _, rfl, h0, _, _, rfl, h1, _, _, rfl, h2, _, _, rfl, h3, rfl⟩ := hs
    obtain ⟨op, rfl, _, wo⟩ := typ_str Tryz.underlying9 h0
    obtain ⟨v, rfl, _, wv⟩ := typ_V _ _ h1
    obtain ⟨k, rfl, _, wk⟩ := typ_int Tryz.underlying3 h2
    obtain ⟨m', es, rfl, rfl, _, hl, hes⟩ := typ_slice Tryz.underlying31 h3
    obtain ⟨vs, g1, g2, g3⟩ := rows_of (q := RgE) (enc := encE) (f := elemT Tryz.prog 36) es hes (fun x hx => by
      obtain ⟨v, _, h5, h6⟩ := ih m' (by omega) x hx
      exact ⟨v, h5, h6⟩)
    refine ⟨.mk op v k vs, ?_, ?_, .mk _ _ _ _ wo wv (i64_wf wk) (by omega) g3⟩
    · simp [g1]
    · rw [he]
      simp [g1]

end Go.Proofs.YtmnmiiifilfcmaaGreat
