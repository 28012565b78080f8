/- What the document's Eval answers, over trees. -/
import Derived.Test.YtcdkdmjedkhpiaaDoorZSpEvalB
set_option linter.unusedSimpArgs false
set_option linter.unusedVariables false
namespace Go.Proofs.YtcdkdmjedkhpiaaDoor
open Go Go.Abs

theorem getV (l : List Va) (i : Nat) (h : i < l.length) : (l.map encV).getD i default = encV l[i] := by
  simp [List.getD_eq_getElem?_getD, h]

theorem tdiv_neg_one (i : Int) : i.tdiv (-1) = 0 - i := by rw [Int.tdiv_neg, Int.tdiv_one]; omega
theorem tmod_neg_one (i : Int) : i.tmod (-1) = 0 := by rw [Int.tmod_neg, Int.tmod_one]

/-- Every op of arguments has one at least. -/
inductive Ne : Ex → Prop where
  | leaf (op : List UInt8) (v : Va) (n : Int) (a : List Ex) (h : op = oLit ∨ op = oX) : Ne (.mk op v n a)
  | node (op : List UInt8) (v : Va) (n : Int) (a : List Ex) (h : a ≠ []) (ho : ∀ e ∈ a, Ne e) : Ne (.mk op v n a)

mutual
theorem ckE_ne : ∀ (e : Ex) (t : Ty) (d : Int) (u : Ty), ckE e t d = .ok u → Ne e
  | .mk op v n a, t, d, u, h => by
    simp only [ckE] at h
    split at h
    · simp at h
    rename_i har
    split at h
    · simp at h
    split at h
    · simp at h
    rename_i hf
    have hlen := fields_len hf
    by_cases hl : op = oLit ∨ op = oX
    · exact .leaf _ _ _ _ hl
    · have h1 : op ≠ oLit := fun h => hl (.inl h)
      have h2 : op ≠ oX := fun h => hl (.inr h)
      simp only [h1, h2, if_false] at h
      split at h
      · simp at h
      · rename_i l hl'
        refine .node _ _ _ _ ?_ (ckL_ne a t (d + 1) l hl')
        rintro rfl
        unfold arE at hlen har
        simp only [h1, h2, or_self, if_false] at hlen har
        simp at hlen
        grind
theorem ckL_ne : ∀ (a : List Ex) (t : Ty) (d : Int) (l : List Ty), ckL a t d = .ok l → ∀ e ∈ a, Ne e
  | [], t, d, l, h => by simp
  | e :: r, t, d, l, h => by
    simp only [ckL] at h
    split at h
    · simp at h
    · rename_i u hu
      split at h
      · simp at h
      · rename_i l' hl'
        intro x hx
        simp only [List.mem_cons] at hx
        rcases hx with rfl | hx
        · exact ckE_ne x t d u hu
        · exact ckL_ne r t d l' hl' x hx
end

end Go.Proofs.YtcdkdmjedkhpiaaDoor
