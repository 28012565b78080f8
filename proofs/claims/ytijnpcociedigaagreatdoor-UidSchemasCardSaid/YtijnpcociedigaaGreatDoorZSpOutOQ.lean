/- An operator as the document's, as short. -/
import Derived.Test.YtijnpcociedigaaGreatDoorZSpOut
import Derived.Test.YtijnpcociedigaaGreatDoorZPuOp
import Derived.Test.YtijnpcociedigaaGreatDoorS1

section
/- An operator as the document's, as short. -/
set_option linter.unusedSimpArgs false
set_option linter.unusedVariables false
namespace Go.Proofs.YtijnpcociedigaaGreatDoor
open Go Go.Abs

attribute [local irreducible] Abs.Fn

end Go.Proofs.YtijnpcociedigaaGreatDoor
end

section
/- What an operator that may be has. -/
set_option linter.unusedSimpArgs false
set_option linter.unusedVariables false
namespace Go.Proofs.YtijnpcociedigaaGreatDoor
open Go Go.Abs

attribute [local irreducible] Abs.Fn

theorem ckO_all (t : Ty) : ∀ (a : List Ex) (l : List Ty), ckO t a = .ok l → ∀ e ∈ a, ∃ u, checkE e t = .ok u
  | [], l, h, e, he => by simp at he
  | x :: r, l, h, e, he => by
    simp only [ckO] at h
    cases hx : checkE x t with
    | er f => rw [hx] at h; simp at h
    | ok u =>
      rw [hx] at h
      simp only at h
      cases hr : ckO t r with
      | er f => rw [hr] at h; simp at h
      | ok m =>
        rcases List.mem_cons.1 he with rfl | he
        · exact ⟨u, hx⟩
        · exact ckO_all t r m hr e he

theorem fieldsO_len {o : Opr} (h : fieldsO o = true) : (o.k = 2 ∨ o.k = 3 ∨ o.k = 5 → o.es.length = 1) ∧ (o.k = 4 → 1 ≤ o.es.length ∧ o.es.length ≤ 4) ∧ (¬ (o.k = 2 ∨ o.k = 3 ∨ o.k = 5) → o.k ≠ 4 → o.es = []) := by
  simp only [fieldsO, Bool.and_eq_true] at h
  have := h.1.1.1.2
  refine ⟨fun hk => ?_, fun hk => ?_, fun h1 h2 => ?_⟩
  · rw [if_pos hk] at this; simpa using this
  · rw [if_neg (by omega), if_pos hk] at this; simpa using this
  · rw [if_neg h1, if_neg h2] at this; simpa using this

/-- What an operator that may be has. -/
theorem outO_ok {o : Opr} {ins : List Ty} {r : Ty} (h : outO o ins = .ok r) : fieldsO o = true ∧ insO o.k ins.length = true ∧ (1 ≤ o.k ∧ o.k ≤ 9) ∧ (∀ e ∈ o.es, ∃ u, checkE e (ins.getD 0 (.mk 0 [])) = .ok u) ∧ (keyedO o.k = true → ∃ u, checkE o.key (ins.getD 0 (.mk 0 [])) = .ok u) := by
  unfold outO at h
  by_cases h1 : o.k < 1 ∨ 9 < o.k
  · rw [if_pos h1] at h; simp at h
  rw [if_neg h1] at h
  by_cases h2 : (o.k = 1 ∨ o.k = 9) ∧ nameS o.name = false
  · rw [if_pos h2] at h; simp at h
  rw [if_neg h2] at h
  by_cases h3 : fieldsO o = false ∨ insO o.k ins.length = false
  · rw [if_pos h3] at h; simp at h
  rw [if_neg h3] at h
  have hf : fieldsO o = true := by cases hh : fieldsO o <;> simp_all
  have hi : insO o.k ins.length = true := by cases hh : insO o.k ins.length <;> simp_all
  refine ⟨hf, hi, by omega, ?_⟩
  by_cases h4 : ins.any (fun t => decide (checkT t 0 ≠ 0)) = true
  · rw [if_pos h4] at h; simp at h
  rw [if_neg h4] at h
  by_cases h5 : o.k = 1
  · refine ⟨fun e he => ?_, fun hk => ?_⟩
    · rw [(fieldsO_len hf).2.2 (by omega) (by omega)] at he; simp at he
    · simp [keyedO, h5] at hk
  · rw [if_neg h5] at h
    by_cases h6 : keyedO o.k = true
    · rw [if_pos h6] at h
      cases hk : checkE o.key (ins.getD 0 (.mk 0 [])) with
      | er f => rw [hk] at h; simp at h
      | ok u =>
        rw [hk] at h
        simp only at h
        cases hc : ckO (ins.getD 0 (.mk 0 [])) o.es with
        | er f => rw [hc] at h; simp at h
        | ok l => exact ⟨ckO_all _ _ l hc, fun _ => ⟨u, rfl⟩⟩
    · rw [if_neg h6] at h
      simp only at h
      cases hc : ckO (ins.getD 0 (.mk 0 [])) o.es with
      | er f => rw [hc] at h; simp at h
      | ok l => exact ⟨ckO_all _ _ l hc, fun hh => absurd hh h6⟩

theorem ckO_er {t : Ty} : ∀ {a : List Ex} {f : Int}, ckO t a = .er f → f ≠ 0
  | [], f, h => by simp [ckO] at h
  | x :: r, f, h => by
    simp only [ckO] at h
    cases hx : checkE x t with
    | er g => rw [hx] at h; simp only at h; cases h; exact checkE_er hx
    | ok u =>
      rw [hx] at h
      simp only at h
      cases hr : ckO t r with
      | er g => rw [hr] at h; simp only at h; cases h; exact ckO_er hr
      | ok m => rw [hr] at h; simp at h

theorem madeO_er {o : Opr} {ins : List Ty} {key : Ty} {ts : List Ty} {f : Int} (h : madeO o ins key ts = .er f) : f ≠ 0 := by
  unfold madeO at h
  repeat' split at h
  all_goals first
    | (simp at h; done)
    | (cases h; decide)
    | (cases h; assumption)

theorem outO_er {o : Opr} {ins : List Ty} {f : Int} (h : outO o ins = .er f) : f ≠ 0 := by
  unfold outO at h
  split at h
  · cases h; decide
  split at h
  · cases h; decide
  split at h
  · cases h; decide
  split at h
  · cases h; decide
  split at h
  · split at h
    · cases h; decide
    · simp at h
  split at h
  · rename_i hx
    cases h
    split at hx
    · exact checkE_er hx
    · simp at hx
  · split at h
    · rename_i hx
      cases h
      exact ckO_er hx
    · exact madeO_er h

end Go.Proofs.YtijnpcociedigaaGreatDoor
end
