/- The document's jobs over trees: who reads whom, the types, the weights. -/
import Derived.Test.YtijnpcociedigaaGreatDoorZSpRowGQ
import Derived.Test.YtijnpcociedigaaGreatDoorZSpSmallRQ
import Derived.Test.YtijnpcociedigaaGreatDoorZSpOut
import Derived.Test.YtijnpcociedigaaGreatDoorS1
import Derived.Test.YtijnpcociedigaaGreatDoorZSpOutOQ

section
/- The document's jobs over trees: who reads whom, the types, the weights. -/
set_option linter.unusedSimpArgs false
set_option linter.unusedVariables false
namespace Go.Proofs.YtijnpcociedigaaGreatDoor
open Go Go.Abs

attribute [local irreducible] Abs.Fn

theorem typesR_snoc (n : Nd) : ∀ (l : List Nd) (ts : List Ty), typesR ts (l ++ [n]) = typesR ts l ++ [(outO n.op (n.ins.map (fun i => (typesR ts l).getD i.toNat (.mk 0 [])))).get (.mk 0 [])]
  | [], ts => rfl
  | m :: r, ts => by simp only [List.cons_append, typesR]; exact typesR_snoc n r _
theorem typesR_length : ∀ (l : List Nd) (ts : List Ty), (typesR ts l).length = ts.length + l.length
  | [], ts => by simp [typesR]
  | m :: r, ts => by simp only [typesR]; rw [typesR_length r]; simp; omega

end Go.Proofs.YtijnpcociedigaaGreatDoor
end

section
/- The document's jobs over trees: what is wrong with a node, with a job. -/
set_option linter.unusedSimpArgs false
set_option linter.unusedVariables false
namespace Go.Proofs.YtijnpcociedigaaGreatDoor
open Go Go.Abs

attribute [local irreducible] Abs.Fn

theorem any_take {p : Nd → Bool} {g : List Nd} {i k : Nat} (hk : k < i) (hi : i ≤ g.length) (h : p (g[k]'(by omega)) = true) : (g.take i).any p = true := by
  rw [List.any_eq_true]
  refine ⟨g[k]'(by omega), ?_, h⟩
  rw [List.mem_iff_getElem]
  exact ⟨k, by simp; omega, by simp⟩
theorem nodeG_seen {ahead : List Nd} {ts : List Ty} {n : Nd} (h : nodeG ahead ts n = 0) : seenIn ahead [] n.ins = true := by
  unfold nodeG at h
  split at h
  · simp at h
  split at h
  · simp at h
  split at h
  · simp at h
  split at h
  · simp at h
  · rename_i h4
    simpa using h4

end Go.Proofs.YtijnpcociedigaaGreatDoor
end

section
/- The law GraphOuts. -/
set_option linter.unusedSimpArgs false
set_option linter.unusedVariables false
namespace Go.Proofs.YtijnpcociedigaaGreatDoor
open Go Go.Abs

attribute [local irreducible] Abs.Fn

end Go.Proofs.YtijnpcociedigaaGreatDoor
end
