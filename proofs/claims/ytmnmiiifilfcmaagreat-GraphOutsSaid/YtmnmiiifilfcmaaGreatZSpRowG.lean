/- Arguments that are jobs: which trees they are. -/
import Derived.Test.YtmnmiiifilfcmaaGreatZSpRowO
import Derived.Test.YtmnmiiifilfcmaaGreatZPuGraph
set_option linter.unusedVariables false
namespace Go.Proofs.YtmnmiiifilfcmaaGreat
open Go Go.Abs

theorem typ_Is (n : Nat) (cs : List T) (h : Typ Tryz.prog n 26 cs) : ∃ l : List Int, cs = [.slice (l.map (.int .i64))] := by
  obtain ⟨m', es, rfl, rfl, he, hl, hes⟩ := typ_slice Tryz.underlying26 h
  obtain ⟨vs, g1, g2, g3⟩ := rows_of (q := fun x : Int => True) (enc := T.int .i64) (f := elemT Tryz.prog 3) es hes (fun x hx => by
    obtain ⟨v, _, h5, h6⟩ := typ_int Tryz.underlying3 hx
    exact ⟨v, h5, trivial⟩)
  exact ⟨vs, by rw [g1]⟩

set_option maxRecDepth 100000 in
theorem typ_G (n : Nat) (cs : List T) (h : Typ Tryz.prog n 23 cs) : ∃ g : List Nd, elemT Tryz.prog 23 cs = .slice (g.map encN) ∧ g.length ≤ maxLen := by
  obtain ⟨m', es, rfl, rfl, he, hl, hes⟩ := typ_slice Tryz.underlying23 h
  obtain ⟨vs, g1, g2, g3⟩ := rows_of (q := fun _ => True) (enc := encN) (f := elemT Tryz.prog 40) es hes (fun x hx => by
    obtain ⟨m, rfl, he, hs⟩ := typ_struct Tryz.underlying40 hx
    obtain ⟨_, _, rfl, h0, _, _, rfl, h1, _, _, rfl, h2, _, _, rfl, h3, _, _, rfl, h4, _, _, rfl, h5, _, _, rfl, h6, rfl⟩ := hs
    obtain ⟨uid, rfl, _, _⟩ := typ_str Tryz.underlying9 h0
    obtain ⟨o, rfl, _, _⟩ := typ_O _ _ h1
    obtain ⟨ins, rfl⟩ := typ_Is _ _ h2
    obtain ⟨par, rfl, _, _⟩ := typ_int Tryz.underlying3 h3
    obtain ⟨mx, rfl, _, _⟩ := typ_int Tryz.underlying3 h4
    obtain ⟨grp, rfl, _, _⟩ := typ_str Tryz.underlying9 h5
    obtain ⟨al, rfl, _⟩ := typ_bool Tryz.underlying4 h6
    refine ⟨⟨uid, o, ins, par, mx, grp, al⟩, ?_, trivial⟩
    rw [he]
    simp)
  exact ⟨vs, by rw [he, g1], by omega⟩

end Go.Proofs.YtmnmiiifilfcmaaGreat
