/- The package gen over trees: expressions' programs. -/
import Derived.Test.YtgfnodmghaghpaaGreatDoorZSpGen
import Derived.Test.YtgfnodmghaghpaaGreatDoorZSpExpr
set_option linter.unusedSimpArgs false
set_option linter.unusedVariables false
namespace Go.Proofs.YtgfnodmghaghpaaGreatDoor
open Go Go.Abs

attribute [local irreducible] Abs.Fn

mutual
def genE : Ex → List In
  | .mk op v n a =>
    if op = oLit then [pushI v] else if op = oX then [oneI oX 0]
    else if op = oAt then joinI [(genEs a).getD 0 [], [oneI oAt n]]
    else if op = oTup then joinI [joinI (genEs a), [oneI oTup a.length]]
    else if op = oAnd then choiceI ((genEs a).getD 0 []) ((genEs a).getD 1 []) [pushI (boolV false)]
    else if op = oOr then choiceI ((genEs a).getD 0 []) [pushI (boolV true)] ((genEs a).getD 1 [])
    else if op = oIf then choiceI ((genEs a).getD 0 []) ((genEs a).getD 1 []) ((genEs a).getD 2 [])
    else joinI [joinI (genEs a), [oneI op 0]]
def genEs : List Ex → List (List In)
  | [] => []
  | e :: r => genE e :: genEs r
end

theorem genEs_eq (a : List Ex) : genEs a = a.map genE := by induction a <;> simp_all [genEs]

/-- Do the jumps stay within? -/
def closedI (p : List In) : Prop := ∀ x ∈ p, jumpI x → 0 ≤ x.n ∧ x.n ≤ p.length

theorem closedI.small {p : List In} (h : closedI p) (hl : p.length ≤ 1000000) : ∀ x ∈ p, smallI x := fun x hx hj => ⟨(h x hx hj).1, by have := (h x hx hj).2; omega⟩

theorem mvI_jump {b : Int} {x : In} : jumpI (mvI b x) ↔ jumpI x := by
  unfold mvI
  split
  · rfl
  · rfl
theorem mvI_n {b : Int} {x : In} (h : jumpI x) : (mvI b x).n = x.n + b := by simp [mvI, h]

theorem closedI.mv {p : List In} (h : closedI p) (b : Nat) {m : Nat} (hm : b + p.length ≤ m) : ∀ x ∈ p.map (mvI b), jumpI x → 0 ≤ x.n ∧ x.n ≤ m := by
  intro x hx hj
  obtain ⟨y, hy, rfl⟩ := List.mem_map.1 hx
  have hj' := mvI_jump.1 hj
  obtain ⟨h1, h2⟩ := h y hy hj'
  rw [mvI_n hj']
  omega

theorem joinI_closed : ∀ (l : List (List In)), (∀ p ∈ l, closedI p) → closedI (joinI l) := by
  suffices h : ∀ (l : List (List In)) (acc : List In), closedI acc → (∀ p ∈ l, closedI p) → closedI (l.foldl (fun out p => out ++ p.map (mvI out.length)) acc) from
    fun l hl => h l [] (fun x hx => by simp at hx) hl
  intro l
  induction l with
  | nil => intro acc h _; exact h
  | cons p l ih =>
    intro acc h hl
    refine ih _ (fun x hx hj => ?_) (fun q hq => hl q (by simp [hq]))
    rcases List.mem_append.1 hx with hx | hx
    · have := h x hx hj
      simp; omega
    · exact (hl p (by simp)).mv acc.length (by simp) x hx hj

theorem joinI_two (acc p : List In) : joinI [acc, p] = acc ++ p.map (mvI acc.length) := by
  have h0 : acc.map (mvI 0) = acc := by rw [List.map_congr_left (g := id) (fun x _ => mvI_zero x)]; simp
  simp [joinI, h0]

theorem choiceI_closed {a b c : List In} (ha : closedI a) (hb : closedI b) (hc : closedI c) : closedI (choiceI a b c) := by
  intro x hx hj
  have hlen : (choiceI a b c).length = a.length + b.length + c.length + 2 := by simp [choiceI]; omega
  rw [hlen]
  simp only [choiceI, List.mem_append, List.mem_cons] at hx
  rcases hx with hx | hx | hx | hx | hx
  · have := ha x hx hj; omega
  · subst hx; simp [oneI]; omega
  · exact hb.mv (a.length + 1) (by omega) x (by push_cast; exact hx) hj
  · subst hx; simp [oneI]; omega
  · exact hc.mv (a.length + 1 + b.length + 1) (by omega) x (by push_cast; exact hx) hj
theorem choiceI_length (a b c : List In) : (choiceI a b c).length = a.length + b.length + c.length + 2 := by simp [choiceI]; omega

theorem one_closed {op : List UInt8} : closedI [oneI op 0] := by
  intro x hx _
  simp at hx; subst hx
  simp [oneI]
theorem oneN_closed {op : List UInt8} {n : Int} (h : op ≠ oJmp) (h2 : op ≠ oJf) : closedI [oneI op n] := by
  intro x hx hj
  simp at hx; subst hx
  exact absurd hj (by simp [jumpI, oneI, h, h2])
theorem push_closed {v : Va} : closedI [pushI v] := oneN_closed' where
  oneN_closed' : closedI [pushI v] := by
    intro x hx hj
    simp at hx; subst hx
    exact absurd hj (by simp [jumpI, pushI, oJmp, oJf])

theorem getD_closed {l : List (List In)} (h : ∀ p ∈ l, closedI p) (i : Nat) : closedI (l.getD i []) := by
  rw [List.getD_eq_getElem?_getD]
  cases hi : l[i]? with
  | none => intro x hx; simp at hx
  | some p => exact h p (List.mem_of_getElem? hi)

theorem three_le (l : List (List In)) : (l.getD 0 []).length + (l.getD 1 []).length + (l.getD 2 []).length ≤ (l.map List.length).sum := by
  match l with
  | [] => simp
  | [a] => simp
  | [a, b] => simp
  | a :: b :: c :: r => simp; omega

mutual
theorem genE_closed : ∀ e : Ex, closedI (genE e)
  | .mk op v n a => by
    have h := genEs_closed a
    simp only [genE]
    repeat' split
    · exact push_closed
    · exact one_closed
    · exact joinI_closed _ (fun p hp => by
        simp only [List.mem_cons, List.not_mem_nil, or_false] at hp
        rcases hp with rfl | rfl
        · exact getD_closed h 0
        · exact oneN_closed (by decide) (by decide))
    · exact joinI_closed _ (fun p hp => by
        simp only [List.mem_cons, List.not_mem_nil, or_false] at hp
        rcases hp with rfl | rfl
        · exact joinI_closed _ h
        · exact oneN_closed (by decide) (by decide))
    · exact choiceI_closed (getD_closed h 0) (getD_closed h 1) push_closed
    · exact choiceI_closed (getD_closed h 0) push_closed (getD_closed h 1)
    · exact choiceI_closed (getD_closed h 0) (getD_closed h 1) (getD_closed h 2)
    · exact joinI_closed _ (fun p hp => by
        simp only [List.mem_cons, List.not_mem_nil, or_false] at hp
        rcases hp with rfl | rfl
        · exact joinI_closed _ h
        · exact one_closed)
theorem genEs_closed : ∀ (a : List Ex), ∀ p ∈ genEs a, closedI p
  | [], p, hp => by simp [genEs] at hp
  | e :: r, p, hp => by
    simp only [genEs, List.mem_cons] at hp
    rcases hp with rfl | hp
    · exact genE_closed e
    · exact genEs_closed r p hp
end

mutual
theorem genE_len : ∀ e : Ex, (genE e).length ≤ 4 * sizeE e
  | .mk op v n a => by
    have h := genEs_len a
    have h3 := three_le (genEs a)
    simp only [genE, sizeE]
    repeat' split
    all_goals simp only [joinI_length, choiceI_length, List.map_cons, List.map_nil, List.sum_cons, List.sum_nil, List.length_cons, List.length_nil]
    all_goals omega
theorem genEs_len : ∀ a : List Ex, ((genEs a).map List.length).sum ≤ 4 * sizeEs a
  | [] => by simp [genEs, sizeEs]
  | e :: r => by
    have h1 := genE_len e
    have h2 := genEs_len r
    simp only [genEs, sizeEs, List.map_cons, List.sum_cons]
    omega
end

/-- Has each op its parts? -/
inductive OkG : Ex → Prop where
  | mk (op : List UInt8) (v : Va) (n : Int) (a : List Ex) (h0 : op ≠ oJmp ∧ op ≠ oJf) (h1 : op = oAt → a.length = 1) (h2 : op = oAnd ∨ op = oOr → 2 ≤ a.length) (h3 : op = oIf → 3 ≤ a.length) (ha : ∀ e ∈ a, OkG e) : OkG (.mk op v n a)

theorem sizeEs_mem {a : List Ex} {e : Ex} (h : e ∈ a) : sizeE e ≤ sizeEs a := by
  induction a with
  | nil => simp at h
  | cons x r ih =>
    simp only [sizeEs]
    rcases List.mem_cons.1 h with rfl | h
    · omega
    · have := ih h; omega

@[simp] theorem encPr_len (p : List In) : (encPr p).cells.length = 1 := id rfl
theorem len_sizeEs (a : List Ex) : a.length ≤ sizeEs a := by
  induction a with
  | nil => simp
  | cons e r ih => obtain ⟨o, v, n, l⟩ := e; simp only [sizeEs, sizeE, List.length_cons]; omega

theorem genS {e : Ex} (h : sizeE e ≤ 100000) : ∀ x ∈ genE e, smallI x := (genE_closed e).small (by have := genE_len e; omega)

end Go.Proofs.YtgfnodmghaghpaaGreatDoor
