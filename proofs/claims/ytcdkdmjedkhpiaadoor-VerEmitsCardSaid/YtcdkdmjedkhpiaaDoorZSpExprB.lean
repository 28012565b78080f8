/- What the document's check of expressions answers, over trees. -/
import Derived.Test.YtcdkdmjedkhpiaaDoorZSpExpr
set_option linter.unusedSimpArgs false
set_option linter.unusedVariables false
namespace Go.Proofs.YtcdkdmjedkhpiaaDoor
open Go Go.Abs

theorem ckE_unfold (op : List UInt8) (v : Va) (n : Int) (a : List Ex) (t : Ty) (d : Int) : ckE (.mk op v n a) t d =
    if arE op = -2 then .er 6 else if 12 < d then .er 9 else if fieldsE op v n a.length = false then .er 1
    else if op = oLit then (if checkV v 0 ≠ 0 then .er (checkV v 0) else .ok (kindV v))
    else if op = oX then .ok t
    else match ckL a t (d + 1) with
      | .er e => .er e
      | .ok l => opT op n l := by
  simp only [ckE]
  rfl

theorem fieldsE_eq (op : List UInt8) (v : Va) (n : Int) (m : Nat) : fieldsE op v n m = ((if arE op = -1 then decide (1 ≤ m ∧ m ≤ 8) else decide ((m : Int) = arE op)) && (decide (op = oAt) || decide (n = 0)) && (decide (op = oLit) || nilV v)) := rfl

theorem arE_cases (op : List UInt8) : arE op = 0 ∨ arE op = 1 ∨ arE op = 2 ∨ arE op = 3 ∨ arE op = -1 ∨ arE op = -2 := by
  unfold arE
  grind

/-- What a list of types answers. -/
theorem ckL_snoc (t : Ty) (d : Int) : ∀ (a : List Ex) (i : Nat) (l : List Ty), (hi : i < a.length) → ckL (a.take i) t d = .ok l → ckL (a.take (i + 1)) t d = match ckE a[i] t d with
    | .er f => .er f
    | .ok u => .ok (l ++ [u])
  | [], i, l, hi, h => by simp at hi
  | e :: r, 0, l, hi, h => by
    simp [ckL] at h
    subst h
    simp only [List.take_succ_cons, List.take_zero, ckL, List.getElem_cons_zero]
    cases ckE e t d <;> rfl
  | e :: r, i + 1, l, hi, h => by
    simp only [List.take_succ_cons, ckL] at h ⊢
    cases he : ckE e t d with
    | er f => simp [he] at h
    | ok u =>
      simp only [he] at h ⊢
      cases hr : ckL (r.take i) t d with
      | er f => simp [hr] at h
      | ok l' =>
        simp [hr] at h
        subst h
        have hi' : i < r.length := by simpa using hi
        rw [ckL_snoc t d r i l' hi' hr]
        simp only [List.getElem_cons_succ]
        cases ckE r[i] t d <;> rfl

theorem ckL_er_take (t : Ty) (d : Int) : ∀ (a : List Ex) (i : Nat) (f : Int), ckL (a.take i) t d = .er f → ckL a t d = .er f
  | [], i, f, h => by simp [ckL] at h
  | e :: r, 0, f, h => by simp [ckL] at h
  | e :: r, i + 1, f, h => by
    simp only [List.take_succ_cons, ckL] at h ⊢
    cases he : ckE e t d with
    | er g => simpa [he] using h
    | ok u =>
      simp only [he] at h ⊢
      cases hr : ckL (r.take i) t d with
      | er g =>
        simp [hr] at h
        subst h
        simp [ckL_er_take t d r i g hr]
      | ok l' => simp [hr] at h

theorem opT_er {op : List UInt8} {n : Int} {l : List Ty} {f : Int} (h : opT op n l = .er f) : f ≠ 0 := by
  unfold opT at h
  repeat' split at h
  all_goals first | (simp at h; omega) | simp at h

mutual
theorem ckE_er : ∀ (e : Ex) (t : Ty) (d f : Int), ckE e t d = .er f → f ≠ 0
  | .mk op v n a, t, d, f, h => by
    rw [ckE_unfold] at h
    split at h
    · simp at h; omega
    split at h
    · simp at h; omega
    split at h
    · simp at h; omega
    split at h
    · split at h
      · rename_i hc; simp at h; omega
      · simp at h
    split at h
    · simp at h
    split at h
    · rename_i g hg; simp at h; subst h; exact ckL_er a t (d + 1) _ hg
    · exact opT_er h
theorem ckL_er : ∀ (a : List Ex) (t : Ty) (d f : Int), ckL a t d = .er f → f ≠ 0
  | [], t, d, f, h => by simp [ckL] at h
  | e :: r, t, d, f, h => by
    simp only [ckL] at h
    split at h
    · rename_i g hg; simp at h; subst h; exact ckE_er e t d _ hg
    · split at h
      · rename_i g hg; simp at h; subst h; exact ckL_er r t d _ hg
      · simp at h
end

end Go.Proofs.YtcdkdmjedkhpiaaDoor
