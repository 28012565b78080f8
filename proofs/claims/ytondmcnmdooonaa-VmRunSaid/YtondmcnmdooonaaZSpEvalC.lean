/- What the document's Eval answers, over trees. -/
import Derived.Test.YtondmcnmdooonaaZSpEvalB
set_option linter.unusedSimpArgs false
set_option linter.unusedVariables false
namespace Go.Proofs.Ytondmcnmdooonaa
open Go Go.Abs

theorem V_spec (n : Int) : Abs.Fn Try.prog runnelref6_V_i [] [.p (.int .i64 n)] (.p (encV (intV n))) [] := by
  apply runnelref6_V_fn
  simp [runnelref6_V]
  exact gives_pure (by simp [AV.pur, intV])
theorem Yes_spec (b : Bool) : Abs.Fn Try.prog runnelref6_Yes_i [] [.p (.bool b)] (.p (encV (boolV b))) [] := by
  apply runnelref6_Yes_fn
  simp [runnelref6_Yes]
  exact gives_pure (by simp [AV.pur, boolV])

theorem getV (l : List Va) (i : Nat) (h : i < l.length) : (l.map encV).getD i default = encV l[i] := by
  simp [List.getD_eq_getElem?_getD, h]

theorem tdiv_neg_one (i : Int) : i.tdiv (-1) = 0 - i := by rw [Int.tdiv_neg, Int.tdiv_one]; omega
theorem tmod_neg_one (i : Int) : i.tmod (-1) = 0 := by rw [Int.tmod_neg, Int.tmod_one]

/-- The document's op of values. -/
theorem Make_spec (op : List UInt8) (n : Int) (l : List Va) (r : R Va) (h : mkE op n l = some r) (hl : l.length ≤ 1000000000) (hw : ∀ v ∈ l, Wv 1000000000 v) :
    Abs.Fn Try.prog runnelref6_Make_i [] [.p (.str op), .p (.int .i64 n), .p (.slice (l.map encV))] (twoR r) [] := by
  apply runnelref6_Make_fn
  simp [runnelref6_Make]
  refine ⟨fun hop => ?_, fun h1 => ⟨fun hop => ?_, fun h2 => ?_⟩⟩
  · have hop : op = oAt := hop
    subst hop
    obtain ⟨k', i', b', s', t', v, rfl, hn0, hv, rfl⟩ := mkE_at h
    obtain ⟨d1, d2, d3, d4, d5, hd⟩ := encV_agg v
    obtain ⟨hlt, hge⟩ := List.getElem?_eq_some_iff.1 hv
    simp [hv, hd]
    refine ⟨⟨hn0, by omega⟩, ?_⟩
    exact twoR_gives (by simp [R.get, R.num, hd])
  · have hop : op = oTup := hop
    subst hop
    have := mkE_tup h
    subst this
    refine ⟨⟨by simp, encV_size l, by simp; omega⟩, ?_⟩
    exact twoR_gives (by simp [R.get, R.num, tupV])
  have hat : op ≠ oAt := h1
  have htup : op ≠ oTup := h2
  simp only [mkE, hat, htup, if_false] at h
  split at h
  · rename_i k i b s t
    refine ⟨fun hop => ?_, fun h3 => ⟨fun hop => ?_, fun h4 => ⟨fun hop => ?_, fun h5 => ?_⟩⟩⟩
    · have hop : op = oNeg := hop
      subst hop; simp at h; subst h
      simp
      refine aCall_p rfl (V_spec _) ?_
      simp [intV]
      exact twoR_gives (by simp [R.get, R.num, intV])
    · have hop : op = oNot := hop
      subst hop; simp at h; subst h
      simp
      refine aCall_p rfl (Yes_spec _) ?_
      simp [boolV]
      exact twoR_gives (by simp [R.get, R.num, boolV])
    · have hop : op = oLen := hop
      subst hop; simp at h; subst h
      simp
      intro _
      refine aCall_p rfl (V_spec _) ?_
      simp [intV]
      exact twoR_gives (by simp [R.get, R.num, intV])
    · have h3 : op ≠ oNeg := h3
      have h4 : op ≠ oNot := h4
      have h5 : op ≠ oLen := h5
      simp [h3, h4, h5] at h
  · rename_i k i b s t k' i' b' s' t'
    have hs1 : s.length ≤ 1000000000 := by cases hw _ (List.mem_cons_self ..); assumption
    have hs2 : s'.length ≤ 1000000000 := by cases hw (.mk k' i' b' s' t') (by simp); assumption
    have hsm := SameR_spec (.mk k i b s t) (.mk k' i' b' s' t')
    have hcm := CompareR_spec (.mk k i b s t) (.mk k' i' b' s' t')
    simp only [encV_mk] at hsm hcm
    split at h
    · rename_i hop; subst hop; simp at h; subst h
      simp
      refine aCallT_of rfl (V_spec _) rfl ?_
      simp [intV]
      exact twoR_gives (by simp [R.get, R.num, intV])
    split at h
    · rename_i hop; subst hop; simp at h; subst h
      simp
      refine aCallT_of rfl (V_spec _) rfl ?_
      simp [intV]
      exact twoR_gives (by simp [R.get, R.num, intV])
    split at h
    · rename_i hop; subst hop; simp at h; subst h
      simp
      refine aCallT_of rfl (V_spec _) rfl ?_
      simp [intV]
      exact twoR_gives (by simp [R.get, R.num, intV])
    split at h
    · rename_i hop; subst hop; simp at h; subst h
      simp
      refine ⟨fun hz => ?_, fun hz => ⟨fun hm => ?_, fun hm => ⟨hz, ?_⟩⟩⟩
      · rw [if_pos hz]
        exact twoR_gives (by simp [R.get, R.num, zeroV])
      · rw [if_neg hz]
        refine aCall_p rfl (V_spec _) ?_
        simp [intV]
        exact twoR_gives (by simp [R.get, R.num, intV, hm, tdiv_neg_one])
      · rw [if_neg hz]
        refine aCallT_of rfl (V_spec _) rfl ?_
        simp [intV]
        exact twoR_gives (by simp [R.get, R.num, intV])
    split at h
    · rename_i hop; subst hop; simp at h; subst h
      simp
      refine ⟨fun hz => ?_, fun hz => ⟨fun hm => ?_, fun hm => ⟨hz, ?_⟩⟩⟩
      · rw [if_pos hz]
        exact twoR_gives (by simp [R.get, R.num, zeroV])
      · rw [if_neg hz]
        refine aCall_p rfl (V_spec _) ?_
        simp [intV]
        exact twoR_gives (by simp [R.get, R.num, intV, hm, tmod_neg_one])
      · rw [if_neg hz]
        refine aCallT_of rfl (V_spec _) rfl ?_
        simp [intV]
        exact twoR_gives (by simp [R.get, R.num, intV])
    split at h
    · rename_i hop; subst hop; simp at h; subst h
      simp
      refine aCallT_of rfl hsm rfl ?_
      simp
      refine aCallT_of rfl (Yes_spec _) rfl ?_
      simp [boolV]
      exact twoR_gives (by simp [R.get, R.num, boolV])
    split at h
    · rename_i hop; subst hop; simp at h; subst h
      simp
      refine aCallT_of rfl hcm rfl ?_
      simp
      refine aCallT_of rfl (Yes_spec _) rfl ?_
      simp [boolV]
      exact twoR_gives (by simp [R.get, R.num, boolV])
    split at h
    · rename_i hop; subst hop; simp at h; subst h
      simp
      refine ⟨by simp [maxLen]; omega, fun _ => ⟨fun hz => ?_, fun hz => ?_⟩⟩
      · rw [if_pos (by omega)]
        exact twoR_gives (by simp [R.get, R.num, zeroV])
      · rw [if_neg (by omega)]
        exact twoR_gives (by simp [R.get, R.num, strV])
    · simp at h
  · simp at h

/-- Every op of arguments has one at least. -/
inductive Ne : Ex → Prop where
  | leaf (op : List UInt8) (v : Va) (n : Int) (a : List Ex) (h : op = oLit ∨ op = oX) : Ne (.mk op v n a)
  | node (op : List UInt8) (v : Va) (n : Int) (a : List Ex) (h : a ≠ []) (ho : ∀ e ∈ a, Ne e) : Ne (.mk op v n a)

mutual
theorem ckE_ne : ∀ (e : Ex) (t : Ty) (d : Int) (u : Ty), ckE e t d = .ok u → Ne e
  | .mk op v n a, t, d, u, h => by
    simp only [ckE] at h
    split at h
    · simp at h
    rename_i har
    split at h
    · simp at h
    split at h
    · simp at h
    rename_i hf
    have hlen := fields_len hf
    by_cases hl : op = oLit ∨ op = oX
    · exact .leaf _ _ _ _ hl
    · have h1 : op ≠ oLit := fun h => hl (.inl h)
      have h2 : op ≠ oX := fun h => hl (.inr h)
      simp only [h1, h2, if_false] at h
      split at h
      · simp at h
      · rename_i l hl'
        refine .node _ _ _ _ ?_ (ckL_ne a t (d + 1) l hl')
        rintro rfl
        unfold arE at hlen har
        simp only [h1, h2, or_self, if_false] at hlen har
        simp at hlen
        grind
theorem ckL_ne : ∀ (a : List Ex) (t : Ty) (d : Int) (l : List Ty), ckL a t d = .ok l → ∀ e ∈ a, Ne e
  | [], t, d, l, h => by simp
  | e :: r, t, d, l, h => by
    simp only [ckL] at h
    split at h
    · simp at h
    · rename_i u hu
      split at h
      · simp at h
      · rename_i l' hl'
        intro x hx
        simp only [List.mem_cons] at hx
        rcases hx with rfl | hx
        · exact ckE_ne x t d u hu
        · exact ckL_ne r t d l' hl' x hx
end

end Go.Proofs.Ytondmcnmdooonaa
