/- Arguments that are operators: which trees they are. -/
import Derived.Test.YtgfnodmghaghpaaGreatDoorZSpRowTQ
import Derived.Test.YtgfnodmghaghpaaGreatDoorZPuOp
set_option linter.unusedVariables false
namespace Go.Proofs.YtgfnodmghaghpaaGreatDoor
open Go Go.Abs

structure RgO (o : Opr) : Prop where
  k : I64 o.k
  name : o.name.length ≤ maxLen
  t : RgT o.t
  es : o.es.length ≤ maxLen ∧ ∀ e ∈ o.es, RgE e
  key : RgE o.key
  f : I64 o.f
  n : I64 o.n

set_option maxRecDepth 100000 in
theorem typ_O (n : Nat) (cs : List T) (h : Typ Tryz.prog n 32 cs) : ∃ o, cs = (encO o).cells ∧ elemT Tryz.prog 32 cs = encO o ∧ RgO o := by
  obtain ⟨m, rfl, he, hs⟩ := typ_struct Tryz.underlying32 h
  obtain ⟨_, _, rfl, h0, _, _, rfl, h1, _, _, rfl, h2, _, _, rfl, h3, _, _, rfl, h4, _, _, rfl, h5, _, _, rfl, h6, rfl⟩ := hs
  obtain ⟨k, rfl, _, wk⟩ := typ_int Tryz.underlying3 h0
  obtain ⟨name, rfl, _, wn⟩ := typ_str Tryz.underlying9 h1
  obtain ⟨t, rfl, _, wt⟩ := typ_T _ _ h2
  obtain ⟨m', es, rfl, rfl, _, hl, hes⟩ := typ_slice Tryz.underlying25 h3
  obtain ⟨vs, g1, g2, g3⟩ := rows_of (q := RgE) (enc := encE) (f := elemT Tryz.prog 30) es hes (fun x hx => by
    obtain ⟨v, _, h5, h6⟩ := typ_E m' x hx
    exact ⟨v, h5, h6⟩)
  obtain ⟨key, rfl, _, wkey⟩ := typ_E _ _ h4
  obtain ⟨f, rfl, _, wf⟩ := typ_int Tryz.underlying3 h5
  obtain ⟨n', rfl, _, wn'⟩ := typ_int Tryz.underlying3 h6
  have hes2 : vs.length ≤ maxLen := by rw [g2]; exact hl
  refine ⟨⟨k, name, t, vs, key, f, n'⟩, ?_, ?_, { k := i64_wf wk, name := wn, t := wt, es := ⟨hes2, g3⟩, key := wkey, f := i64_wf wf, n := i64_wf wn' }⟩
  · simp [g1]
  · rw [he]
    simp [g1]

end Go.Proofs.YtgfnodmghaghpaaGreatDoor

