/- What may be of an expression, its program may be. -/
import Derived.Test.YtgfnodmghaghpaaGreatDoorZSpGenB
import Derived.Test.YtgfnodmghaghpaaGreatDoorZPuEval
import Derived.Test.YtgfnodmghaghpaaGreatDoorZSpRowEQ
import Derived.Test.YtgfnodmghaghpaaGreatDoorZSpExprCQ
set_option linter.unusedSimpArgs false
set_option linter.unusedVariables false
namespace Go.Proofs.YtgfnodmghaghpaaGreatDoor
open Go Go.Abs

theorem ckL_all (t : Ty) (d : Int) : ∀ (a : List Ex) (l : List Ty), ckL a t d = .ok l → ∀ e ∈ a, ∃ u, ckE e t d = .ok u
  | [], l, h, e, he => by simp at he
  | x :: r, l, h, e, he => by
    simp only [ckL] at h
    cases hx : ckE x t d with
    | er f => rw [hx] at h; simp at h
    | ok u =>
      rw [hx] at h
      simp only at h
      cases hr : ckL r t d with
      | er f => rw [hr] at h; simp at h
      | ok m =>
        rcases List.mem_cons.1 he with rfl | he
        · exact ⟨u, hx⟩
        · exact ckL_all t d r m hr e he

theorem ckE_OkG : ∀ (e : Ex) (t : Ty) (d : Int) (u : Ty), ckE e t d = .ok u → OkG e
  | .mk op v n a, t, d, u, h => by
    rw [ckE_unfold] at h
    by_cases h1 : arE op = -2
    · rw [if_pos h1] at h; simp at h
    rw [if_neg h1] at h
    by_cases h2 : 12 < d
    · rw [if_pos h2] at h; simp at h
    rw [if_neg h2] at h
    by_cases h3 : fieldsE op v n a.length = false
    · rw [if_pos h3] at h; simp at h
    rw [if_neg h3] at h
    have hfl := fields_len h3
    refine .mk op v n a ⟨fun e => h1 (by subst e; decide), fun e => h1 (by subst e; decide)⟩ (fun e => ?_) (fun e => ?_) (fun e => ?_) (fun e he => ?_)
    · subst e
      have e2 : arE oAt = 1 := by decide
      rw [e2] at hfl; simp at hfl; omega
    · have e2 : arE op = 2 := by rcases e with rfl | rfl <;> decide
      rw [e2] at hfl; simp at hfl; omega
    · subst e
      have e2 : arE oIf = 3 := by decide
      rw [e2] at hfl; simp at hfl; omega
    · by_cases hl : op = oLit ∨ op = oX
      · have e2 : arE op = 0 := by rcases hl with rfl | rfl <;> decide
        rw [e2] at hfl
        simp at hfl
        have : a = [] := by
          cases a with
          | nil => rfl
          | cons x r => simp at hfl
        rw [this] at he; simp at he
      · rw [if_neg (fun h => hl (.inl h)), if_neg (fun h => hl (.inr h))] at h
        cases hc : ckL a t (d + 1) with
        | er f => rw [hc] at h; simp at h
        | ok l =>
          obtain ⟨u', hu⟩ := ckL_all t (d + 1) a l hc e he
          exact ckE_OkG e t (d + 1) u' hu
termination_by e => SizeOf.sizeOf e
decreasing_by
  have := List.sizeOf_lt_of_mem he
  simp
  omega

theorem checkE_OkG {e : Ex} {t u : Ty} (h : checkE e t = .ok u) : OkG e := by
  unfold checkE at h
  split at h
  · simp at h
  · split at h
    · simp at h
    · exact ckE_OkG e t 0 u h

end Go.Proofs.YtgfnodmghaghpaaGreatDoor
