/- The laws of the package runnellaw12: known, GenSizes. -/
import Derived.Test.YtjendohiohhciaaGreatZSpSame
import Derived.Test.YtjendohiohhciaaGreatZPuOp

set_option linter.unusedSimpArgs false
set_option linter.unusedVariables false
namespace Go.Proofs.YtjendohiohhciaaGreat
open Go Go.Abs

attribute [local irreducible] Abs.Fn

theorem OkG_iff {op : List UInt8} {v : Va} {n : Int} {a : List Ex} : OkG (.mk op v n a) ↔ (op ≠ oJmp ∧ op ≠ oJf) ∧ (op = oAt → a.length = 1) ∧ (op = oAnd ∨ op = oOr → 2 ≤ a.length) ∧ (op = oIf → 3 ≤ a.length) ∧ ∀ e ∈ a, OkG e :=
  ⟨fun h => by cases h with | mk _ _ _ _ h0 h1 h2 h3 h4 => exact ⟨h0, h1, h2, h3, h4⟩, fun ⟨h0, h1, h2, h3, h4⟩ => .mk _ _ _ _ h0 h1 h2 h3 h4⟩

theorem joinI_v {p : Va → Prop} : ∀ (l : List (List In)), (∀ q ∈ l, ∀ x ∈ q, p x.v) → ∀ x ∈ joinI l, p x.v := by
  suffices h : ∀ (l : List (List In)) (acc : List In), (∀ x ∈ acc, p x.v) → (∀ q ∈ l, ∀ x ∈ q, p x.v) → ∀ x ∈ l.foldl (fun out p => out ++ p.map (mvI out.length)) acc, p x.v from
    fun l hl => h l [] (by simp) hl
  intro l
  induction l with
  | nil => intro acc h _; exact h
  | cons q l ih =>
    intro acc h hl
    refine ih _ (fun x hx => ?_) (fun r hr => hl r (by simp [hr]))
    rcases List.mem_append.1 hx with hx | hx
    · exact h x hx
    · obtain ⟨y, hy, rfl⟩ := List.mem_map.1 hx
      have := hl q (by simp) y hy
      unfold mvI
      split
      · exact this
      · exact this
theorem mv_v {p : Va → Prop} {b : Int} {l : List In} (h : ∀ x ∈ l, p x.v) : ∀ x ∈ l.map (mvI b), p x.v := by
  intro x hx
  obtain ⟨y, hy, rfl⟩ := List.mem_map.1 hx
  have := h y hy
  unfold mvI
  split
  · exact this
  · exact this
theorem choiceI_v {p : Va → Prop} (h0 : p zeroV) {a b c : List In} (ha : ∀ x ∈ a, p x.v) (hb : ∀ x ∈ b, p x.v) (hc : ∀ x ∈ c, p x.v) : ∀ x ∈ choiceI a b c, p x.v := by
  intro x hx
  simp only [choiceI, List.mem_append, List.mem_cons] at hx
  rcases hx with hx | rfl | hx | rfl | hx
  · exact ha x hx
  · exact h0
  · exact mv_v hb x hx
  · exact h0
  · exact mv_v hc x hx
theorem one_v {p : Va → Prop} (h0 : p zeroV) {op : List UInt8} {n : Int} : ∀ x ∈ [oneI op n], p x.v := by
  intro x hx
  simp at hx; subst hx
  exact h0
theorem push_v {p : Va → Prop} {v : Va} (h : p v) : ∀ x ∈ [pushI v], p x.v := by
  intro x hx
  simp at hx; subst hx
  exact h
theorem getD_v {p : Va → Prop} {l : List (List In)} (h : ∀ q ∈ l, ∀ x ∈ q, p x.v) (i : Nat) : ∀ x ∈ l.getD i [], p x.v := by
  rw [List.getD_eq_getElem?_getD]
  cases hi : l[i]? with
  | none => intro x hx; simp at hx
  | some q => exact h q (List.mem_of_getElem? hi)

mutual
theorem genE_wv : ∀ (e : Ex), We 1000000000 e → ∀ x ∈ genE e, Wv 1000000000 x.v
  | .mk op v n a, hw => by
    obtain ⟨w1, w2, w3⟩ := We_mk.1 hw
    have h := genEs_wv a w3
    have h0 : Wv 1000000000 zeroV := by simp
    simp only [genE]
    repeat' split
    · exact push_v w1
    · exact one_v h0
    · exact joinI_v _ (fun p hp => by
        simp only [List.mem_cons, List.not_mem_nil, or_false] at hp
        rcases hp with rfl | rfl
        · exact getD_v h 0
        · exact one_v h0)
    · exact joinI_v _ (fun p hp => by
        simp only [List.mem_cons, List.not_mem_nil, or_false] at hp
        rcases hp with rfl | rfl
        · exact joinI_v _ h
        · exact one_v h0)
    · exact choiceI_v h0 (getD_v h 0) (getD_v h 1) (push_v (by simp))
    · exact choiceI_v h0 (getD_v h 0) (push_v (by simp)) (getD_v h 1)
    · exact choiceI_v h0 (getD_v h 0) (getD_v h 1) (getD_v h 2)
    · exact joinI_v _ (fun p hp => by
        simp only [List.mem_cons, List.not_mem_nil, or_false] at hp
        rcases hp with rfl | rfl
        · exact joinI_v _ h
        · exact one_v h0)
theorem genEs_wv : ∀ (a : List Ex), (∀ e ∈ a, We 1000000000 e) → ∀ p ∈ genEs a, ∀ x ∈ p, Wv 1000000000 x.v
  | [], _, p, hp => by simp [genEs] at hp
  | e :: r, hw, p, hp => by
    simp only [genEs, List.mem_cons] at hp
    rcases hp with rfl | hp
    · exact genE_wv e (hw e (by simp))
    · exact genEs_wv r (fun x hx => hw x (by simp [hx])) p hp
end

theorem xE_ok : OkG (.mk oX zeroV 0 []) := by simp [OkG_iff, oJmp, oJf]
theorem litE_ok (v : Va) : OkG (.mk oLit v 0 []) := by simp [OkG_iff, oJmp, oJf]

def boxE (e : Ex) : List AV := [.p (.str e.op), .p (.int .i64 e.v.k), .p (.int .i64 e.v.i), .p (.bool e.v.b), .p (.str e.v.s), .p (.slice (e.v.t.map encV)), .p (.int .i64 e.n), .p (.slice (e.a.map encE))]

/-- One more op about an expression of truths. -/
def stepS (b : Int) (e : Ex) : Ex :=
  if b.tmod 4 = 0 then .mk [110, 111, 116] zeroV 0 [e]
  else if b.tmod 4 = 1 then .mk oAnd zeroV 0 [e, .mk oLit (boolV true) 0 []]
  else if b.tmod 4 = 2 then .mk oOr zeroV 0 [e, .mk oX zeroV 0 []]
  else .mk oIf zeroV 0 [e, .mk oX zeroV 0 [], .mk oLit (boolV false) 0 []]
def wS (b : Int) : Nat := if b.tmod 4 = 0 then 1 else 4

theorem stepS_ok {b : Int} {e : Ex} (h : OkG e) : OkG (stepS b e) := by
  unfold stepS
  split
  · simp [OkG_iff, h, oJmp, oJf]
  · split
    · simp [OkG_iff, h, oJmp, oJf]
    · split
      · simp [OkG_iff, h, oJmp, oJf]
      · simp [OkG_iff, h, oJmp, oJf]
theorem stepS_we {b : Int} {e : Ex} (h : We 1000000000 e) : We 1000000000 (stepS b e) := by
  unfold stepS
  split
  · simp [h]
  · split
    · simp [h]
    · split
      · simp [h]
      · simp [h]
theorem stepS_size {b : Int} {e : Ex} : sizeE (stepS b e) ≤ sizeE e + 3 := by
  unfold stepS
  split
  · simp [sizeE, sizeEs]; omega
  · split
    · simp [sizeE, sizeEs]; omega
    · split
      · simp [sizeE, sizeEs]; omega
      · simp [sizeE, sizeEs]; omega
theorem stepS_len {b : Int} {e : Ex} : (genE (stepS b e)).length = (genE e).length + wS b := by
  unfold stepS wS
  split
  · simp [genE, genEs, joinI_length]
  · split
    · simp [genE, genEs, choiceI_length]
    · split
      · simp [genE, genEs, choiceI_length]
      · simp [genE, genEs, choiceI_length]

end Go.Proofs.YtjendohiohhciaaGreat
