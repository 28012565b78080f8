/- Arguments that are programs: which trees they are. -/
import Derived.Test.YtcdkdmjedkhpiaaDoorZSpRowV
import Derived.Test.YtcdkdmjedkhpiaaDoorZSpGen
set_option linter.unusedVariables false
namespace Go.Proofs.YtcdkdmjedkhpiaaDoor
open Go Go.Abs

theorem typ_P (n : Nat) (cs : List T) (h : Typ Tryd.prog n 23 cs) : ∃ p : List In, elemT Tryd.prog 23 cs = .slice (p.map encI) ∧ p.length ≤ maxLen := by
  obtain ⟨m', es, rfl, rfl, he, hl, hes⟩ := typ_slice Tryd.underlying23 h
  obtain ⟨vs, g1, g2, g3⟩ := rows_of (q := fun _ => True) (enc := encI) (f := elemT Tryd.prog 47) es hes (fun x hx => by
    obtain ⟨m, rfl, he, hs⟩ := typ_struct Tryd.underlying47 hx
    obtain ⟨_, _, rfl, h0, _, _, rfl, h1, _, _, rfl, h2, rfl⟩ := hs
    obtain ⟨op, rfl, _, wn⟩ := typ_str Tryd.underlying9 h0
    obtain ⟨v, rfl, _, wv⟩ := typ_V _ _ h1
    obtain ⟨k, rfl, _, wk⟩ := typ_int Tryd.underlying3 h2
    refine ⟨.mk op v k, ?_, trivial⟩
    rw [he]
    simp [encI_eta])
  exact ⟨vs, by rw [he, g1], by omega⟩

end Go.Proofs.YtcdkdmjedkhpiaaDoor
