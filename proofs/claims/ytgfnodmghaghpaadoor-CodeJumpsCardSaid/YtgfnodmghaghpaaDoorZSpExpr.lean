/- What the document's functions of expressions answer, and those that make and measure them, over trees. -/
import Derived.Test.YtgfnodmghaghpaaDoorZSpDec
import Derived.Test.YtgfnodmghaghpaaDoorZSpValB

set_option linter.unusedSimpArgs false
set_option linter.unusedVariables false
namespace Go.Proofs.YtgfnodmghaghpaaDoor
open Go Go.Abs

@[simp] theorem intV_eq {n : Int} : intV n = .mk 1 n false [] [] := id rfl
@[simp] theorem boolV_eq {b : Bool} : boolV b = .mk 2 0 b [] [] := id rfl
@[simp] theorem strV_eq {s : List UInt8} : strV s = .mk 3 0 false s [] := id rfl
@[simp] theorem tupV_eq {l : List Va} : tupV l = .mk 4 0 false [] l := id rfl
@[simp] theorem zeroV_eq : zeroV = .mk 0 0 false [] [] := id rfl
@[simp] theorem plainT_eq {k : Int} : plainT k = .mk k [] := id rfl

def xE : Ex := .mk oX zeroV 0 []
def litE (v : Va) : Ex := .mk oLit v 0 []
def opE (op : List UInt8) (a : List Ex) : Ex := .mk op zeroV 0 a
@[simp] theorem xE_eq : xE = .mk oX zeroV 0 [] := id rfl
@[simp] theorem litE_eq {v : Va} : litE v = .mk oLit v 0 [] := id rfl
@[simp] theorem opE_eq {op : List UInt8} {a : List Ex} : opE op a = .mk op zeroV 0 a := id rfl

/- How many ops. -/
theorem sizeEs_drop (l : List Ex) (i : Nat) (h : i < l.length) : sizeEs (l.drop i) = sizeE l[i] + sizeEs (l.drop (i + 1)) := by
  rw [List.drop_eq_getElem_cons h]
  simp [sizeEs]

/- How much there is. -/
mutual
def budE : Ex → Int → Int → Int
  | .mk op v _ a, d, l => if l ≤ 0 ∨ d ≤ 0 ∨ 12 < a.length ∨ 20 < op.length ∨ fewV v = false then 0 else budEs a (d - 1) (l - 1)
def budEs : List Ex → Int → Int → Int
  | [], _, l => l
  | e :: r, d, l => if l ≤ 0 then l else budEs r d (budE e d l)
end

mutual
theorem budE_le : ∀ (e : Ex) (d l : Int), 0 ≤ l → 0 ≤ budE e d l ∧ budE e d l ≤ l
  | .mk op v n a, d, l, h => by
    simp only [budE]
    split
    · omega
    · have := budEs_le a (d - 1) (l - 1) (by omega)
      omega
theorem budEs_le : ∀ (r : List Ex) (d l : Int), 0 ≤ l → 0 ≤ budEs r d l ∧ budEs r d l ≤ l
  | [], d, l, h => by simp [budEs]; omega
  | e :: r, d, l, h => by
    simp only [budEs]
    split
    · omega
    · have h1 := budE_le e d l h
      have h2 := budEs_le r d (budE e d l) h1.1
      omega
end

theorem budEs_pos : ∀ (r : List Ex) (d l : Int), 0 < budEs r d l → 0 < l
  | [], d, l, h => by simpa [budEs] using h
  | e :: r, d, l, h => by
    simp only [budEs] at h
    split at h
    · omega
    · omega

theorem budEs_zero : ∀ (r : List Ex) (d l : Int), l ≤ 0 → budEs r d l = l
  | [], d, l, h => by simp [budEs]
  | v :: r, d, l, h => by simp [budEs, h]

mutual
theorem budE_small : ∀ (e : Ex) (d l : Int), 0 < budE e d l → We 300 e ∧ sizeE e + budE e d l ≤ l
  | .mk op v n a, d, l, h => by
    simp only [budE] at h ⊢
    split at h
    · omega
    · rename_i hc
      rw [if_neg hc]
      have := budEs_small a (d - 1) (l - 1) h
      have hv : fewV v = true := by
        cases hf : fewV v with
        | true => rfl
        | false => exact absurd (.inr (.inr (.inr (.inr hf)))) hc
      exact ⟨.mk op v n a (fewV_small hv) (by omega) this.1, by simp only [sizeE]; omega⟩
theorem budEs_small : ∀ (r : List Ex) (d l : Int), 0 < budEs r d l → (∀ e ∈ r, We 300 e) ∧ sizeEs r + budEs r d l ≤ l
  | [], d, l, h => by simp [budEs, sizeEs]
  | e :: r, d, l, h => by
    simp only [budEs] at h ⊢
    split at h
    · omega
    · rename_i hc
      rw [if_neg hc]
      have h1 := budE_small e d l (budEs_pos r d _ h)
      have h2 := budEs_small r d _ h
      refine ⟨fun x hx => ?_, by simp only [sizeEs]; omega⟩
      simp only [List.mem_cons] at hx
      rcases hx with rfl | hx
      · exact h1.1
      · exact h2.1 x hx
end

def fewE (e : Ex) : Bool := decide (0 < budE e 20 400)
theorem fewE_small {e : Ex} (h : fewE e = true) : We 300 e ∧ sizeE e ≤ 400 := by
  have := budE_small e 20 400 (by simpa [fewE] using h)
  simp [fewE] at h
  exact ⟨this.1, by omega⟩

/- The document's check. -/
def nilV (v : Va) : Bool := decide (cmpV v zeroV = 0)
theorem nilV_iff {v : Va} : nilV v = true ↔ v = zeroV := by
  unfold nilV
  rw [decide_eq_true_iff, cmpV_zero]

/-- What an answer with a type is. -/
def tyR (r : R Ty) : AV := .tup [.p (encT (r.get (.mk 0 []))), .p (.int .i64 r.num)]

theorem tyR_gives {r : R Ty} {vs : List AV} {H : List Ob} (h : toTs vs = some [encT (r.get (.mk 0 [])), .int .i64 r.num]) : Gives 0 (.tup vs) H (tyR r) [] := gives_pure (pur_tup h)

/-- Are there as many as an op has? -/
def ArOk (op : List UInt8) (m : Nat) : Prop := if arE op = -1 then 1 ≤ m ∧ m ≤ 8 else (m : Int) = arE op

def opAll (op : List UInt8) : Int × Int := if op = oNeg ∨ op = oAdd ∨ op = oSub ∨ op = oMul ∨ op = oDiv ∨ op = oRem then (1, 1) else if op = oNot ∨ op = oAnd ∨ op = oOr then (2, 2) else if op = oCat then (3, 3) else if op = oLen then (3, 1) else (0, 0)

theorem opT_rest {op : List UInt8} {n : Int} {l : List Ty} (h1 : op ≠ oAt) (h2 : op ≠ oTup) (h3 : op ≠ oEq) (h4 : op ≠ oLt) (h5 : op ≠ oIf) : opT op n l = if l.all (fun t => decide (t.kind = (opAll op).1)) then .ok (plainT (opAll op).2) else .er 5 := by
  simp only [opT, h1, h2, h3, h4, h5, if_false, or_self]
  rfl

theorem all_drop {α : Type} (f : α → Bool) (l : List α) (i : Nat) (h : i < l.length) : (l.drop i).all f = (f l[i] && (l.drop (i + 1)).all f) := by
  rw [List.drop_eq_getElem_cons h]
  rfl

end Go.Proofs.YtgfnodmghaghpaaDoor
