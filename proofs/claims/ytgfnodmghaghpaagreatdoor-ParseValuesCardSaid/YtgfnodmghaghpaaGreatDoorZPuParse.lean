/- Expressions in words. No program in sight. -/
import Derived.Test.YtgfnodmghaghpaaGreatDoorZPuText
import Derived.Test.YtgfnodmghaghpaaGreatDoorZSpExprCQ
set_option linter.unusedSimpArgs false
set_option linter.unusedVariables false
namespace Go.Proofs.YtgfnodmghaghpaaGreatDoor
open Go Go.Abs

mutual
def textE : Ex → List UInt8
  | .mk op v n a => if op = oX then [120] else if op = oLit then (if v.k = 4 then [40, 108, 105, 116, 32] ++ textV v ++ [41] else textV v)
    else [40] ++ TJ.join [32] (op :: ((if op = oAt then [Lib.itoa n] else []) ++ textEs a)) ++ [41]
def textEs : List Ex → List (List UInt8)
  | [] => []
  | e :: r => textE e :: textEs r
end

theorem textEs_eq (l : List Ex) : textEs l = l.map textE := by induction l <;> simp_all [textEs]

def opsE : List (List UInt8) := [oLit, oX, oAt, oNeg, oNot, oLen, oAdd, oSub, oMul, oDiv, oRem, oEq, oLt, oAnd, oOr, oCat, oIf, oTup]
theorem arE_mem {op : List UInt8} (h : arE op ≠ -2) : op ∈ opsE := by
  simp only [opsE, List.mem_cons, List.not_mem_nil, or_false]
  unfold arE at h
  split at h
  · rename_i e; rcases e with rfl | rfl <;> simp
  split at h
  · rename_i e; rcases e with rfl | rfl | rfl | rfl <;> simp
  split at h
  · rename_i e; rcases e with rfl | rfl | rfl | rfl | rfl | rfl | rfl | rfl | rfl | rfl <;> simp
  split at h
  · rename_i e; subst e; simp
  split at h
  · rename_i e; subst e; simp
  · exact absurd rfl h
theorem arE_all {p : List UInt8 → Prop} (h : ∀ op ∈ opsE, p op) {op : List UInt8} (ho : arE op ≠ -2) : p op := h op (arE_mem ho)
theorem arE_len {op : List UInt8} (h : arE op ≠ -2) : op.length ≤ 4 := by
  have : ∀ op ∈ opsE, op.length ≤ 4 := by decide
  exact this op (arE_mem h)

/-- Expressions that may be, within so many others. -/
inductive OkP : Int → Ex → Prop where
  | lit (d : Int) (v : Va) (hd : d ≤ 12) (hc : checkV v 0 = 0) (hr : RgV v) (hf : (textV v).length ≤ 600000) (hw : Wv 1000000 v) : OkP d (.mk oLit v 0 [])
  | x (d : Int) (hd : d ≤ 12) : OkP d (.mk oX zeroV 0 [])
  | op (d : Int) (op : List UInt8) (n : Int) (a : List Ex) (hd : d ≤ 12) (h1 : arE op ≠ -2) (h2 : op ≠ oLit) (h3 : op ≠ oX) (hn : op = oAt → 0 ≤ n ∧ n ≤ 2147483647) (hz : op ≠ oAt → n = 0) (hl : a.length ≤ 8) (ho : ∀ e ∈ a, OkP (d + 1) e) : OkP d (.mk op zeroV n a)

mutual
/-- How long a text is at most, by its nodes. -/
theorem textE_len : ∀ (e : Ex) (d : Int), OkP d e → (textE e).length ≤ 700000 * sizeE e
  | .mk op v n a, d, h => by
    cases h with
    | lit _ _ hd hc hr hf hw =>
      have h1 : oLit ≠ oX := by decide
      simp only [textE, sizeE, sizeEs, if_neg h1, if_pos]
      split <;> simp <;> omega
    | x _ hd =>
      simp [textE, sizeE]; omega
    | op _ _ _ _ hd h1 h2 h3 hn hz hl ho =>
      have hs := textEs_len a (d + 1) ho
      have hol : op.length ≤ 4 := arE_len h1
      have hit : op = oAt → (Lib.itoa n).length ≤ 20 := fun e => by have := hn e; exact itoa_len ⟨by omega, by omega⟩
      simp only [textE, sizeE, if_neg h2, if_neg h3]
      rw [List.length_append, List.length_append, TJ.join_length]
      have hl1 : (textEs a).length = a.length := by rw [textEs_eq]; simp
      simp only [List.length_cons, List.length_nil, List.length_append, TJ.lens]
      split
      · rename_i e
        have := hit e
        simp only [List.cons_append, List.nil_append, TJ.lens, List.length_cons, List.length_nil]
        omega
      · simp only [List.nil_append, List.length_nil]
        omega
theorem textEs_len : ∀ (l : List Ex) (d : Int), (∀ e ∈ l, OkP d e) → TJ.lens (textEs l) ≤ 700000 * sizeEs l
  | [], d, _ => by simp [textEs, TJ.lens]
  | e :: r, d, h => by
    have h1 := textE_len e d (h e (by simp))
    have h2 := textEs_len r d (fun x hx => h x (by simp [hx]))
    simp only [textEs, TJ.lens, sizeEs]
    omega
end

end Go.Proofs.YtgfnodmghaghpaaGreatDoor
