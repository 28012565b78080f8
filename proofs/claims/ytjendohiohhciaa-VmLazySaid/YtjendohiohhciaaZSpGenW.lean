/- Operators' programs: how great what they push. -/
import Derived.Test.YtjendohiohhciaaZSpGenB
import Derived.Test.YtjendohiohhciaaZPuEvalB
set_option linter.unusedSimpArgs false
set_option linter.unusedVariables false
namespace Go.Proofs.Ytjendohiohhciaa
open Go Go.Abs

theorem OkG_iff {op : List UInt8} {v : Va} {n : Int} {a : List Ex} : OkG (.mk op v n a) ↔ (op ≠ oJmp ∧ op ≠ oJf) ∧ (op = oAt → a.length = 1) ∧ (op = oAnd ∨ op = oOr → 2 ≤ a.length) ∧ (op = oIf → 3 ≤ a.length) ∧ ∀ e ∈ a, OkG e :=
  ⟨fun h => by cases h with | mk _ _ _ _ h0 h1 h2 h3 h4 => exact ⟨h0, h1, h2, h3, h4⟩, fun ⟨h0, h1, h2, h3, h4⟩ => .mk _ _ _ _ h0 h1 h2 h3 h4⟩

theorem joinI_v {p : Va → Prop} : ∀ (l : List (List In)), (∀ q ∈ l, ∀ x ∈ q, p x.v) → ∀ x ∈ joinI l, p x.v := by
  suffices h : ∀ (l : List (List In)) (acc : List In), (∀ x ∈ acc, p x.v) → (∀ q ∈ l, ∀ x ∈ q, p x.v) → ∀ x ∈ l.foldl (fun out p => out ++ p.map (mvI out.length)) acc, p x.v from
    fun l hl => h l [] (by simp) hl
  intro l
  induction l with
  | nil => intro acc h _; exact h
  | cons q l ih =>
    intro acc h hl
    refine ih _ (fun x hx => ?_) (fun r hr => hl r (by simp [hr]))
    rcases List.mem_append.1 hx with hx | hx
    · exact h x hx
    · obtain ⟨y, hy, rfl⟩ := List.mem_map.1 hx
      have := hl q (by simp) y hy
      unfold mvI
      split
      · exact this
      · exact this
theorem mv_v {p : Va → Prop} {b : Int} {l : List In} (h : ∀ x ∈ l, p x.v) : ∀ x ∈ l.map (mvI b), p x.v := by
  intro x hx
  obtain ⟨y, hy, rfl⟩ := List.mem_map.1 hx
  have := h y hy
  unfold mvI
  split
  · exact this
  · exact this
theorem choiceI_v {p : Va → Prop} (h0 : p zeroV) {a b c : List In} (ha : ∀ x ∈ a, p x.v) (hb : ∀ x ∈ b, p x.v) (hc : ∀ x ∈ c, p x.v) : ∀ x ∈ choiceI a b c, p x.v := by
  intro x hx
  simp only [choiceI, List.mem_append, List.mem_cons] at hx
  rcases hx with hx | rfl | hx | rfl | hx
  · exact ha x hx
  · exact h0
  · exact mv_v hb x hx
  · exact h0
  · exact mv_v hc x hx
theorem one_v {p : Va → Prop} (h0 : p zeroV) {op : List UInt8} {n : Int} : ∀ x ∈ [oneI op n], p x.v := by
  intro x hx
  simp at hx; subst hx
  exact h0
theorem push_v {p : Va → Prop} {v : Va} (h : p v) : ∀ x ∈ [pushI v], p x.v := by
  intro x hx
  simp at hx; subst hx
  exact h
theorem getD_v {p : Va → Prop} {l : List (List In)} (h : ∀ q ∈ l, ∀ x ∈ q, p x.v) (i : Nat) : ∀ x ∈ l.getD i [], p x.v := by
  rw [List.getD_eq_getElem?_getD]
  cases hi : l[i]? with
  | none => intro x hx; simp at hx
  | some q => exact h q (List.mem_of_getElem? hi)

mutual
theorem genE_wv : ∀ (e : Ex), We 1000000000 e → ∀ x ∈ genE e, Wv 1000000000 x.v
  | .mk op v n a, hw => by
    obtain ⟨w1, w2, w3⟩ := We_mk.1 hw
    have h := genEs_wv a w3
    have h0 : Wv 1000000000 zeroV := by simp
    simp only [genE]
    repeat' split
    · exact push_v w1
    · exact one_v h0
    · exact joinI_v _ (fun p hp => by
        simp only [List.mem_cons, List.not_mem_nil, or_false] at hp
        rcases hp with rfl | rfl
        · exact getD_v h 0
        · exact one_v h0)
    · exact joinI_v _ (fun p hp => by
        simp only [List.mem_cons, List.not_mem_nil, or_false] at hp
        rcases hp with rfl | rfl
        · exact joinI_v _ h
        · exact one_v h0)
    · exact choiceI_v h0 (getD_v h 0) (getD_v h 1) (push_v (by simp))
    · exact choiceI_v h0 (getD_v h 0) (push_v (by simp)) (getD_v h 1)
    · exact choiceI_v h0 (getD_v h 0) (getD_v h 1) (getD_v h 2)
    · exact joinI_v _ (fun p hp => by
        simp only [List.mem_cons, List.not_mem_nil, or_false] at hp
        rcases hp with rfl | rfl
        · exact joinI_v _ h
        · exact one_v h0)
theorem genEs_wv : ∀ (a : List Ex), (∀ e ∈ a, We 1000000000 e) → ∀ p ∈ genEs a, ∀ x ∈ p, Wv 1000000000 x.v
  | [], _, p, hp => by simp [genEs] at hp
  | e :: r, hw, p, hp => by
    simp only [genEs, List.mem_cons] at hp
    rcases hp with rfl | hp
    · exact genE_wv e (hw e (by simp))
    · exact genEs_wv r (fun x hx => hw x (by simp [hx])) p hp
end

end Go.Proofs.Ytjendohiohhciaa
